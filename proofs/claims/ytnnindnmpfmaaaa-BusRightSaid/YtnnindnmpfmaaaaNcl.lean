/- slices.Clone of rows of nodes, as data and to be written. -/
import Derived.Test.YtnnindnmpfmaaaaNa
import Derived.Test.YtnnindnmpfmaaaaEv7
set_option maxRecDepth 100000
set_option linter.unusedVariables false
set_option linter.unusedSimpArgs false
namespace Go.Proofs
open Go.Shelf Go.RowKit Go.Lib Go.Pv


/-- A clone to be written. -/
def extClone (sz b : Nat) : List PV → Store → Option (PV × Store)
  | [.d (.slice (r :: rs))], σ => if rowsOk sz (r :: rs) && decide ((r :: rs).length * b ≤ roomB) then some (.ms σ.length 0 (r :: rs).length sz, σ ++ [flatD (r :: rs)]) else none
  | _, _ => none
theorem extClone_ok {P : Program} {f : FuncId} {sz b : Nat} (h : ∀ (rows : List (List DV)), rows ≠ [] → rowsOk sz rows = true → rows.length * b ≤ roomB → ∀ σ : Store, CallOk P f [.d (.slice rows)] σ (.ms σ.length 0 rows.length sz) (σ ++ [flatD rows]))
    {args : List PV} {σ : Store} {r : PV × Store} (hr : extClone sz b args σ = some r) : CallOk P f args σ r.1 r.2 ∧ EldTo σ r.2 := by
  unfold extClone at hr
  split at hr
  · split at hr
    · rename_i hc
      cases hr
      simp only [Bool.and_eq_true, decide_eq_true_eq] at hc
      exact ⟨h _ (by simp) hc.1 hc.2 σ, .append _ _⟩
    · cases hr
  · cases hr
end Go.Proofs

