/- The seat of nodes: the law's own question whether a node is great; the references' questions whether one is right; The seat of nodes: the reference's question whether one of many filters takes a frame. -/
import Derived.Test.YtnnindnmpfmaaaaNh
import Derived.Test.YtnnindnmpfmaaaaNg
set_option linter.unusedVariables false
set_option linter.unusedSimpArgs false
set_option maxRecDepth 100000
set_option maxHeartbeats 4000000
namespace Go.Pv
open Go
/-- The loops of a text, in order. -/
def loopsOf : Code → List Code
  | .seq a b => loopsOf a ++ loopsOf b
  | .block _ b => loopsOf b
  | .loop b => b :: loopsOf b
  | .cond _ a b => loopsOf a ++ loopsOf b
  | _ => []
end Go.Pv
namespace Go.Proofs
open Go.RowKit Go.Shelf Go.Pv


theorem conv_u8 (x : Int) : evConvert Try.prog 5 3 (.d (.int .u8 x)) = some (.d (.int .i64 (IntKind.i64.wrap x))) := by kernel_rfl
theorem arg_u8 (x : Int) : argP Try.prog 5 (byD x) = .d (.int .u8 x) := by simp [argP, Try.underlying5]
theorem arg_bool (x : Bool) : argP Try.prog 4 [.bool x] = .d (.bool x) := by simp [argP, Try.underlying4]

theorem Fr.rright_eq (f : Fr) : f.rright = f.right := by
  rw [Bool.eq_iff_iff, f.right_iff]
  unfold Fr.rright
  obtain ⟨e, id, rm, ln, data⟩ := f
  have hd : data = [] ↔ data.length = 0 := by simp
  cases e <;> cases rm <;> simp <;> (try rw [hd]) <;> omega

theorem r_right (f : Fr) (σ : Store) : callIt E1 (evI E1) 60 [f.P] σ = some (.d (.bool f.right), σ) := by
  rw [← f.rright_eq]; exact r_right0 f σ

theorem any_drop {α : Type} {p : α → Bool} {l : List α} {i : Nat} (hi : i < l.length) : (l.drop i).any p = (p l[i] || (l.drop (i + 1)).any p) := by
  rw [List.drop_eq_getElem_cons hi]; rfl

def Nd.great (n : Nd) : Bool := decide ((n.q.length : Int) > 100) || decide ((n.g.length : Int) > 200) || decide ((n.fs.length : Int) > 100) || n.q.any (·.great) || n.g.any (·.great)

end Go.Proofs

set_option linter.unusedVariables false
set_option linter.unusedSimpArgs false
set_option maxRecDepth 100000
set_option maxHeartbeats 4000000
namespace Go.Proofs
open Go.RowKit Go.Shelf Go.Pv


end Go.Proofs

