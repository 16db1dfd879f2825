/- A slot that was set, read: two rules without a length where none is asked; Bytes counted. -/
import Derived.Test.YtnnindnmpfmaaaaGreatOa
import Derived.Test.YtnnindnmpfmaaaaGreatNgl
set_option linter.unusedVariables false
namespace Go.Proofs
open Go.Pv

theorem rd_ne {S : List PV} {i j : Nat} {v : PV} (h : i ≠ j) : rd (S.set i v) j = rd S j := by rw [rd_set, if_neg (fun h' => h h'.1)]
theorem rd_eq {S : List PV} {i : Nat} {v : PV} (h : i < S.length) : rd (S.set i v) i = v := by rw [rd_set, if_pos ⟨rfl, h⟩]
end Go.Proofs

set_option linter.unusedVariables false
set_option linter.unusedSimpArgs false
set_option maxRecDepth 100000
set_option maxHeartbeats 8000000
namespace Go.Proofs
open Go.RowKit Go.Shelf Go.Pv

theorem bin_eq8 {P : Program} {t : TypeId} {a b : Int} : evBin P .eql t (.d (.int .u8 a)) (.d (.int .u8 b)) = some (.d (.bool (a == b))) := rfl
theorem bin_rem8 {P : Program} {t : TypeId} {a b : Int} (hb : b ≠ 0) : evBin P .rem t (.d (.int .u8 a)) (.d (.int .u8 b)) = some (.d (.int .u8 (a.tmod b))) := by
  show (pureRun P (if b = 0 then _ else _)).bind ofScalar = _
  rw [if_neg hb]
  rfl
theorem tmod8 {x : Int} (h : 0 ≤ x) (k : Nat) : x.tmod (k : Int) = ((x.toNat % k : Nat) : Int) := by
  rw [Int.tmod_eq_emod_of_nonneg h, Int.natCast_emod, Int.toNat_of_nonneg h]
end Go.Proofs

