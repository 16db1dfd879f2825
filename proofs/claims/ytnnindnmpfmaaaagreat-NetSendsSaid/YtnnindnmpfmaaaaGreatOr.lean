/- A slot that was set, read: two rules without a length where none is asked. -/
import Derived.Test.YtnnindnmpfmaaaaGreatOa
set_option linter.unusedVariables false
namespace Go.Proofs
open Go.Pv

theorem rd_ne {S : List PV} {i j : Nat} {v : PV} (h : i ≠ j) : rd (S.set i v) j = rd S j := by rw [rd_set, if_neg (fun h' => h h'.1)]
theorem rd_eq {S : List PV} {i : Nat} {v : PV} (h : i < S.length) : rd (S.set i v) i = v := by rw [rd_set, if_pos ⟨rfl, h⟩]
end Go.Proofs

