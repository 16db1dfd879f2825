/-
  No cell of these rows narrows 'for every input' (looked for: loops, veiled, ifaces, maps, wideKeys, modest, calm, conditions, laid).
  DERIVED. THE GIVEN ROWS OF THIS SEAT. 4 by the template 'for every input the law returns true; each argument reads behind the call as it read before'; 0 by the template 'total and deterministic' (their statements: YtnnindnmpfmaaaaTotals.lean).
  GIVEN WITH THE SEED: the statements are not yours to turn. If you find one false, say at which input.
  Laid BY PROGRAM, IN A SANDBOX (cutbox-rows.mjs): the forced cells as the released guide's own fill.sh prints them over the translation 52d4005c8bb32ae8… (all of the seat's roots in one cut). By AI agents, Wed Nov 11 2026. No macro, syntax, notation, axiom, sorry.
-/
import Derived.Test.YtnnindnmpfmaaaaChecked
import GoSem.Claim
import GoSem.ClaimJoined
import GoSem.ClaimMapViews
import Derived.JoinedTies
import Derived.KernelRfl
namespace Go.Proofs.Ytnnindnmpfmaaaa
/- THE CELL 'sum', in the pinned program and in every row, IS THE sha256 OF THE DUMP (.gsa) THAT YtnnindnmpfmaaaaProg.lean LOADS. Nothing in Lean hashes anything: it is a label: what it is worth is what the hold of that sum in a sandbox is worth. -/
noncomputable def Try.pinned : Pinned := { name := "ytnnindnmpfmaaaa", sum := "52d4005c8bb32ae8a7f803befddc3d5d4013f3851b04d0d39817db75f3b2d14a", checked := Try.checked }
namespace Rows
def none {H : Type} : Left H := { results := [], args := [] }

/-- 'phaetonlaw10.BusOrder': WHATEVER THE INPUT: true; the input reads as it did. -/
def busOrderSpec : ChangeSpec := { name := "busOrder", fn := fun _ => fun
  | [d] => { results := [.lit (.bool true)], args := [d] }
  | _ => none }
def busOrderRow : OpenClaim := { program := "ytnnindnmpfmaaaa", sum := "52d4005c8bb32ae8a7f803befddc3d5d4013f3851b04d0d39817db75f3b2d14a", func := "phaeton/phaetonlaw10.BusOrder", spec := "busOrder", unfollowed := true, recurses := true, apart := false }
def BusOrderSaid : Prop := busOrderRow.holds Try.pinned (OpenSpec.ofChange busOrderSpec)

/-- ITS FALSE NEIGHBOUR: 'it returns false'. Refute it at one input. -/
def busOrderWrong : ChangeSpec := { name := "busOrder", fn := fun _ => fun
  | [d] => { results := [.lit (.bool false)], args := [d] }
  | _ => none }
def BusOrderWrongFalsely : Prop := busOrderRow.holds Try.pinned (OpenSpec.ofChange busOrderWrong)

/-- 'phaetonlaw10.BusBroken': WHATEVER THE INPUT: true; the input reads as it did. -/
def busBrokenSpec : ChangeSpec := { name := "busBroken", fn := fun _ => fun
  | [d1, d2, d3] => { results := [.lit (.bool true)], args := [d1, d2, d3] }
  | _ => none }
def busBrokenRow : OpenClaim := { program := "ytnnindnmpfmaaaa", sum := "52d4005c8bb32ae8a7f803befddc3d5d4013f3851b04d0d39817db75f3b2d14a", func := "phaeton/phaetonlaw10.BusBroken", spec := "busBroken", unfollowed := true, recurses := true, apart := false }
def BusBrokenSaid : Prop := busBrokenRow.holds Try.pinned (OpenSpec.ofChange busBrokenSpec)

/-- ITS FALSE NEIGHBOUR: 'it returns false'. Refute it at one input. -/
def busBrokenWrong : ChangeSpec := { name := "busBroken", fn := fun _ => fun
  | [d1, d2, d3] => { results := [.lit (.bool false)], args := [d1, d2, d3] }
  | _ => none }
def BusBrokenWrongFalsely : Prop := busBrokenRow.holds Try.pinned (OpenSpec.ofChange busBrokenWrong)

/-- 'phaetonlaw10.BusAlone': WHATEVER THE INPUT: true; the input reads as it did. -/
def busAloneSpec : ChangeSpec := { name := "busAlone", fn := fun _ => fun
  | [d1, d2] => { results := [.lit (.bool true)], args := [d1, d2] }
  | _ => none }
def busAloneRow : OpenClaim := { program := "ytnnindnmpfmaaaa", sum := "52d4005c8bb32ae8a7f803befddc3d5d4013f3851b04d0d39817db75f3b2d14a", func := "phaeton/phaetonlaw10.BusAlone", spec := "busAlone", unfollowed := true, recurses := true, apart := false }
def BusAloneSaid : Prop := busAloneRow.holds Try.pinned (OpenSpec.ofChange busAloneSpec)

/-- ITS FALSE NEIGHBOUR: 'it returns false'. Refute it at one input. -/
def busAloneWrong : ChangeSpec := { name := "busAlone", fn := fun _ => fun
  | [d1, d2] => { results := [.lit (.bool false)], args := [d1, d2] }
  | _ => none }
def BusAloneWrongFalsely : Prop := busAloneRow.holds Try.pinned (OpenSpec.ofChange busAloneWrong)

/-- 'phaetonlaw10.BusRight': WHATEVER THE INPUT: true; the input reads as it did. -/
def busRightSpec : ChangeSpec := { name := "busRight", fn := fun _ => fun
  | [d1, d2] => { results := [.lit (.bool true)], args := [d1, d2] }
  | _ => none }
def busRightRow : OpenClaim := { program := "ytnnindnmpfmaaaa", sum := "52d4005c8bb32ae8a7f803befddc3d5d4013f3851b04d0d39817db75f3b2d14a", func := "phaeton/phaetonlaw10.BusRight", spec := "busRight", unfollowed := true, recurses := true, apart := false }
def BusRightSaid : Prop := busRightRow.holds Try.pinned (OpenSpec.ofChange busRightSpec)

/-- ITS FALSE NEIGHBOUR: 'it returns false'. Refute it at one input. -/
def busRightWrong : ChangeSpec := { name := "busRight", fn := fun _ => fun
  | [d1, d2] => { results := [.lit (.bool false)], args := [d1, d2] }
  | _ => none }
def BusRightWrongFalsely : Prop := busRightRow.holds Try.pinned (OpenSpec.ofChange busRightWrong)

/- THE SECOND FORM. 'bulk': how many values and letters a reading holds, each counted each time it is reached (what is shared counts as often as it is met; a slice's spare places count too). A statement '..UptoSaid' is the law's where the arguments, and the package variables that the reading takes, are together of bulk at most 1048576: NARROWER than '..Said'. Prove '..Said' where nothing that the law and all that it calls make is longer than what came in: it says more and counts as full. Else prove '..UptoSaid'. A law counts once. -/
mutual
def uptoBulk {H : Type} : DataW H → Nat
  | .lit (.string bytes) => bytes.length + 1
  | .lit _ => 1
  | .nil => 1
  | .ptr d => uptoBulk d + 1
  | .slice elems spare => uptoBulkAll elems + uptoBulkAll spare + 1
  | .agg parts => uptoBulkAll parts + 1
  | .iface _ d => uptoBulk d + 1
  | .map entries => uptoBulkEntries entries + 1
  | .held _ => 1
def uptoBulkAll {H : Type} : List (DataW H) → Nat
  | [] => 0
  | d :: r => uptoBulk d + uptoBulkAll r
def uptoBulkEntries {H : Type} : List (Lit × DataW H) → Nat
  | [] => 0
  | x :: r => uptoBulkEntry x + uptoBulkEntries r
def uptoBulkEntry {H : Type} : Lit × DataW H → Nat
  | (.string bytes, d) => bytes.length + uptoBulk d + 1
  | (_, d) => uptoBulk d + 1
 end
def uptoSmall : (H : Type) → List (DataW H) → Bool := fun _ ds => decide (uptoBulkAll ds ≤ 1048576)
def OpenSpec.upto (s : _root_.Go.ChangeSpec) : _root_.Go.OpenSpec := { _root_.Go.OpenSpec.ofChange s with cond := some uptoSmall }

/-- 'phaetonlaw10.BusOrder', WHERE WHAT IT READS IS OF BULK AT MOST 1048576: true; the input reads as it did. -/
def busOrderUptoRow : OpenClaim := { program := "ytnnindnmpfmaaaa", sum := "52d4005c8bb32ae8a7f803befddc3d5d4013f3851b04d0d39817db75f3b2d14a", func := "phaeton/phaetonlaw10.BusOrder", spec := "busOrder", unfollowed := true, recurses := true, apart := false, narrowed := true }
def BusOrderUptoSaid : Prop := busOrderUptoRow.holds Try.pinned (OpenSpec.upto busOrderSpec)

/-- 'phaetonlaw10.BusBroken', WHERE WHAT IT READS IS OF BULK AT MOST 1048576: true; the input reads as it did. -/
def busBrokenUptoRow : OpenClaim := { program := "ytnnindnmpfmaaaa", sum := "52d4005c8bb32ae8a7f803befddc3d5d4013f3851b04d0d39817db75f3b2d14a", func := "phaeton/phaetonlaw10.BusBroken", spec := "busBroken", unfollowed := true, recurses := true, apart := false, narrowed := true }
def BusBrokenUptoSaid : Prop := busBrokenUptoRow.holds Try.pinned (OpenSpec.upto busBrokenSpec)

/-- 'phaetonlaw10.BusAlone', WHERE WHAT IT READS IS OF BULK AT MOST 1048576: true; the input reads as it did. -/
def busAloneUptoRow : OpenClaim := { program := "ytnnindnmpfmaaaa", sum := "52d4005c8bb32ae8a7f803befddc3d5d4013f3851b04d0d39817db75f3b2d14a", func := "phaeton/phaetonlaw10.BusAlone", spec := "busAlone", unfollowed := true, recurses := true, apart := false, narrowed := true }
def BusAloneUptoSaid : Prop := busAloneUptoRow.holds Try.pinned (OpenSpec.upto busAloneSpec)

/-- 'phaetonlaw10.BusRight', WHERE WHAT IT READS IS OF BULK AT MOST 1048576: true; the input reads as it did. -/
def busRightUptoRow : OpenClaim := { program := "ytnnindnmpfmaaaa", sum := "52d4005c8bb32ae8a7f803befddc3d5d4013f3851b04d0d39817db75f3b2d14a", func := "phaeton/phaetonlaw10.BusRight", spec := "busRight", unfollowed := true, recurses := true, apart := false, narrowed := true }
def BusRightUptoSaid : Prop := busRightUptoRow.holds Try.pinned (OpenSpec.upto busRightSpec)

end Rows
end Go.Proofs.Ytnnindnmpfmaaaa
