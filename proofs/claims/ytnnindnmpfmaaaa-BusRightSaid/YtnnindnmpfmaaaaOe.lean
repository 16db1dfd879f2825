/- The reference of the bus: a slot. -/
import Derived.Test.YtnnindnmpfmaaaaOc
import Derived.Test.YtnnindnmpfmaaaaOz
set_option linter.unusedVariables false
set_option linter.unusedSimpArgs false
set_option maxRecDepth 100000
set_option maxHeartbeats 8000000
namespace Go.Proofs
open Go.RowKit Go.Shelf Go.Pv

theorem appNd (A : List Nd) (n : Nd) (h : A.length ≤ 1000) : evAppend Try.prog 22 (acc (A.map Nd.D)) (.d (.slice [n.D])) = some (acc ((A ++ [n]).map Nd.D)) := by
  rw [appN (A.map Nd.D) [n.D] (rowsOk_Nd A) rfl (by simp [roomB]; omega), List.map_append]
  rfl

/-- What becomes of a node. -/
def Ln.node (x : Ln) (A bad : Bool) (i : Nat) : Nd := if bad then x.two i else x.three A i

end Go.Proofs

