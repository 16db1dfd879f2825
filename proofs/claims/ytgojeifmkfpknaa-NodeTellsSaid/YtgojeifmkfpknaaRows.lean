/-
  No cell of these rows narrows 'for every input' (looked for: loops, veiled, ifaces, maps, wideKeys, modest, calm, conditions, laid).
  DERIVED. THE GIVEN ROWS OF THIS SEAT. 7 by the template 'for every input the law returns true; each argument reads behind the call as it read before'; 0 by the template 'total and deterministic' (their statements: YtgojeifmkfpknaaTotals.lean).
  GIVEN WITH THE SEED: the statements are not yours to turn. If you find one false, say at which input.
  Laid BY PROGRAM, IN A SANDBOX (cutbox-rows.mjs): the forced cells as the released guide's own fill.sh prints them over the translation 48d5f00c0d83e4ee… (all of the seat's roots in one cut). By AI agents, Wed Nov 11 2026. No macro, syntax, notation, axiom, sorry.
-/
import Derived.Test.YtgojeifmkfpknaaChecked
import GoSem.Claim
import GoSem.ClaimJoined
import GoSem.ClaimMapViews
import Derived.JoinedTies
import Derived.KernelRfl
namespace Go.Proofs.Ytgojeifmkfpknaa
/- THE CELL 'sum', in the pinned program and in every row, IS THE sha256 OF THE DUMP (.gsa) THAT YtgojeifmkfpknaaProg.lean LOADS. Nothing in Lean hashes anything: it is a label: what it is worth is what the hold of that sum in a sandbox is worth. -/
noncomputable def Try.pinned : Pinned := { name := "ytgojeifmkfpknaa", sum := "48d5f00c0d83e4ee9c1e6a6902189a847e94cb863eaae2da678ee842c2e807a3", checked := Try.checked }
namespace Rows
def none {H : Type} : Left H := { results := [], args := [] }

/-- 'phaetonlaw09.NodeOrder': WHATEVER THE INPUT: true; the input reads as it did. -/
def nodeOrderSpec : ChangeSpec := { name := "nodeOrder", fn := fun _ => fun
  | [d] => { results := [.lit (.bool true)], args := [d] }
  | _ => none }
def nodeOrderRow : OpenClaim := { program := "ytgojeifmkfpknaa", sum := "48d5f00c0d83e4ee9c1e6a6902189a847e94cb863eaae2da678ee842c2e807a3", func := "phaeton/phaetonlaw09.NodeOrder", spec := "nodeOrder", unfollowed := true, recurses := true, apart := false }
def NodeOrderSaid : Prop := nodeOrderRow.holds Try.pinned (OpenSpec.ofChange nodeOrderSpec)

/-- ITS FALSE NEIGHBOUR: 'it returns false'. Refute it at one input. -/
def nodeOrderWrong : ChangeSpec := { name := "nodeOrder", fn := fun _ => fun
  | [d] => { results := [.lit (.bool false)], args := [d] }
  | _ => none }
def NodeOrderWrongFalsely : Prop := nodeOrderRow.holds Try.pinned (OpenSpec.ofChange nodeOrderWrong)

/-- 'phaetonlaw09.NodeErrors': WHATEVER THE INPUT: true; the input reads as it did. -/
def nodeErrorsSpec : ChangeSpec := { name := "nodeErrors", fn := fun _ => fun
  | [d1, d2, d3] => { results := [.lit (.bool true)], args := [d1, d2, d3] }
  | _ => none }
def nodeErrorsRow : OpenClaim := { program := "ytgojeifmkfpknaa", sum := "48d5f00c0d83e4ee9c1e6a6902189a847e94cb863eaae2da678ee842c2e807a3", func := "phaeton/phaetonlaw09.NodeErrors", spec := "nodeErrors", unfollowed := true, recurses := true, apart := false }
def NodeErrorsSaid : Prop := nodeErrorsRow.holds Try.pinned (OpenSpec.ofChange nodeErrorsSpec)

/-- ITS FALSE NEIGHBOUR: 'it returns false'. Refute it at one input. -/
def nodeErrorsWrong : ChangeSpec := { name := "nodeErrors", fn := fun _ => fun
  | [d1, d2, d3] => { results := [.lit (.bool false)], args := [d1, d2, d3] }
  | _ => none }
def NodeErrorsWrongFalsely : Prop := nodeErrorsRow.holds Try.pinned (OpenSpec.ofChange nodeErrorsWrong)

/-- 'phaetonlaw09.NodeGot': WHATEVER THE INPUT: true; the input reads as it did. -/
def nodeGotSpec : ChangeSpec := { name := "nodeGot", fn := fun _ => fun
  | [d1, d2] => { results := [.lit (.bool true)], args := [d1, d2] }
  | _ => none }
def nodeGotRow : OpenClaim := { program := "ytgojeifmkfpknaa", sum := "48d5f00c0d83e4ee9c1e6a6902189a847e94cb863eaae2da678ee842c2e807a3", func := "phaeton/phaetonlaw09.NodeGot", spec := "nodeGot", unfollowed := true, recurses := true, apart := false }
def NodeGotSaid : Prop := nodeGotRow.holds Try.pinned (OpenSpec.ofChange nodeGotSpec)

/-- ITS FALSE NEIGHBOUR: 'it returns false'. Refute it at one input. -/
def nodeGotWrong : ChangeSpec := { name := "nodeGot", fn := fun _ => fun
  | [d1, d2] => { results := [.lit (.bool false)], args := [d1, d2] }
  | _ => none }
def NodeGotWrongFalsely : Prop := nodeGotRow.holds Try.pinned (OpenSpec.ofChange nodeGotWrong)

/-- 'phaetonlaw09.NodeApart': WHATEVER THE INPUT: true; the input reads as it did. -/
def nodeApartSpec : ChangeSpec := { name := "nodeApart", fn := fun _ => fun
  | [d1, d2, d3, d4] => { results := [.lit (.bool true)], args := [d1, d2, d3, d4] }
  | _ => none }
def nodeApartRow : OpenClaim := { program := "ytgojeifmkfpknaa", sum := "48d5f00c0d83e4ee9c1e6a6902189a847e94cb863eaae2da678ee842c2e807a3", func := "phaeton/phaetonlaw09.NodeApart", spec := "nodeApart", unfollowed := true, recurses := true, apart := false }
def NodeApartSaid : Prop := nodeApartRow.holds Try.pinned (OpenSpec.ofChange nodeApartSpec)

/-- ITS FALSE NEIGHBOUR: 'it returns false'. Refute it at one input. -/
def nodeApartWrong : ChangeSpec := { name := "nodeApart", fn := fun _ => fun
  | [d1, d2, d3, d4] => { results := [.lit (.bool false)], args := [d1, d2, d3, d4] }
  | _ => none }
def NodeApartWrongFalsely : Prop := nodeApartRow.holds Try.pinned (OpenSpec.ofChange nodeApartWrong)

/-- 'phaetonlaw09.NodeTells': WHATEVER THE INPUT: true; the input reads as it did. -/
def nodeTellsSpec : ChangeSpec := { name := "nodeTells", fn := fun _ => fun
  | [d1, d2, d3, d4, d5] => { results := [.lit (.bool true)], args := [d1, d2, d3, d4, d5] }
  | _ => none }
def nodeTellsRow : OpenClaim := { program := "ytgojeifmkfpknaa", sum := "48d5f00c0d83e4ee9c1e6a6902189a847e94cb863eaae2da678ee842c2e807a3", func := "phaeton/phaetonlaw09.NodeTells", spec := "nodeTells", unfollowed := true, recurses := true, apart := false }
def NodeTellsSaid : Prop := nodeTellsRow.holds Try.pinned (OpenSpec.ofChange nodeTellsSpec)

/-- ITS FALSE NEIGHBOUR: 'it returns false'. Refute it at one input. -/
def nodeTellsWrong : ChangeSpec := { name := "nodeTells", fn := fun _ => fun
  | [d1, d2, d3, d4, d5] => { results := [.lit (.bool false)], args := [d1, d2, d3, d4, d5] }
  | _ => none }
def NodeTellsWrongFalsely : Prop := nodeTellsRow.holds Try.pinned (OpenSpec.ofChange nodeTellsWrong)

/-- 'phaetonlaw09.NodeRight': WHATEVER THE INPUT: true; the input reads as it did. -/
def nodeRightSpec : ChangeSpec := { name := "nodeRight", fn := fun _ => fun
  | [d1, d2, d3, d4] => { results := [.lit (.bool true)], args := [d1, d2, d3, d4] }
  | _ => none }
def nodeRightRow : OpenClaim := { program := "ytgojeifmkfpknaa", sum := "48d5f00c0d83e4ee9c1e6a6902189a847e94cb863eaae2da678ee842c2e807a3", func := "phaeton/phaetonlaw09.NodeRight", spec := "nodeRight", unfollowed := true, recurses := true, apart := false }
def NodeRightSaid : Prop := nodeRightRow.holds Try.pinned (OpenSpec.ofChange nodeRightSpec)

/-- ITS FALSE NEIGHBOUR: 'it returns false'. Refute it at one input. -/
def nodeRightWrong : ChangeSpec := { name := "nodeRight", fn := fun _ => fun
  | [d1, d2, d3, d4] => { results := [.lit (.bool false)], args := [d1, d2, d3, d4] }
  | _ => none }
def NodeRightWrongFalsely : Prop := nodeRightRow.holds Try.pinned (OpenSpec.ofChange nodeRightWrong)

/-- 'phaetonlaw09.NodeOff': WHATEVER THE INPUT: true; the input reads as it did. -/
def nodeOffSpec : ChangeSpec := { name := "nodeOff", fn := fun _ => fun
  | [d1, d2, d3] => { results := [.lit (.bool true)], args := [d1, d2, d3] }
  | _ => none }
def nodeOffRow : OpenClaim := { program := "ytgojeifmkfpknaa", sum := "48d5f00c0d83e4ee9c1e6a6902189a847e94cb863eaae2da678ee842c2e807a3", func := "phaeton/phaetonlaw09.NodeOff", spec := "nodeOff", unfollowed := true, recurses := true, apart := false }
def NodeOffSaid : Prop := nodeOffRow.holds Try.pinned (OpenSpec.ofChange nodeOffSpec)

/-- ITS FALSE NEIGHBOUR: 'it returns false'. Refute it at one input. -/
def nodeOffWrong : ChangeSpec := { name := "nodeOff", fn := fun _ => fun
  | [d1, d2, d3] => { results := [.lit (.bool false)], args := [d1, d2, d3] }
  | _ => none }
def NodeOffWrongFalsely : Prop := nodeOffRow.holds Try.pinned (OpenSpec.ofChange nodeOffWrong)

/- THE SECOND FORM. 'bulk': how many values and letters a reading holds, each counted each time it is reached (what is shared counts as often as it is met; a slice's spare places count too). A statement '..UptoSaid' is the law's where the arguments, and the package variables that the reading takes, are together of bulk at most 1048576: NARROWER than '..Said'. Prove '..Said' where nothing that the law and all that it calls make is longer than what came in: it says more and counts as full. Else prove '..UptoSaid'. A law counts once. -/
mutual
def uptoBulk {H : Type} : DataW H → Nat
  | .lit (.string bytes) => bytes.length + 1
  | .lit _ => 1
  | .nil => 1
  | .ptr d => uptoBulk d + 1
  | .slice elems spare => uptoBulkAll elems + uptoBulkAll spare + 1
  | .agg parts => uptoBulkAll parts + 1
  | .iface _ d => uptoBulk d + 1
  | .map entries => uptoBulkEntries entries + 1
  | .held _ => 1
def uptoBulkAll {H : Type} : List (DataW H) → Nat
  | [] => 0
  | d :: r => uptoBulk d + uptoBulkAll r
def uptoBulkEntries {H : Type} : List (Lit × DataW H) → Nat
  | [] => 0
  | x :: r => uptoBulkEntry x + uptoBulkEntries r
def uptoBulkEntry {H : Type} : Lit × DataW H → Nat
  | (.string bytes, d) => bytes.length + uptoBulk d + 1
  | (_, d) => uptoBulk d + 1
 end
def uptoSmall : (H : Type) → List (DataW H) → Bool := fun _ ds => decide (uptoBulkAll ds ≤ 1048576)
def OpenSpec.upto (s : _root_.Go.ChangeSpec) : _root_.Go.OpenSpec := { _root_.Go.OpenSpec.ofChange s with cond := some uptoSmall }

/-- 'phaetonlaw09.NodeOrder', WHERE WHAT IT READS IS OF BULK AT MOST 1048576: true; the input reads as it did. -/
def nodeOrderUptoRow : OpenClaim := { program := "ytgojeifmkfpknaa", sum := "48d5f00c0d83e4ee9c1e6a6902189a847e94cb863eaae2da678ee842c2e807a3", func := "phaeton/phaetonlaw09.NodeOrder", spec := "nodeOrder", unfollowed := true, recurses := true, apart := false, narrowed := true }
def NodeOrderUptoSaid : Prop := nodeOrderUptoRow.holds Try.pinned (OpenSpec.upto nodeOrderSpec)

/-- 'phaetonlaw09.NodeErrors', WHERE WHAT IT READS IS OF BULK AT MOST 1048576: true; the input reads as it did. -/
def nodeErrorsUptoRow : OpenClaim := { program := "ytgojeifmkfpknaa", sum := "48d5f00c0d83e4ee9c1e6a6902189a847e94cb863eaae2da678ee842c2e807a3", func := "phaeton/phaetonlaw09.NodeErrors", spec := "nodeErrors", unfollowed := true, recurses := true, apart := false, narrowed := true }
def NodeErrorsUptoSaid : Prop := nodeErrorsUptoRow.holds Try.pinned (OpenSpec.upto nodeErrorsSpec)

/-- 'phaetonlaw09.NodeGot', WHERE WHAT IT READS IS OF BULK AT MOST 1048576: true; the input reads as it did. -/
def nodeGotUptoRow : OpenClaim := { program := "ytgojeifmkfpknaa", sum := "48d5f00c0d83e4ee9c1e6a6902189a847e94cb863eaae2da678ee842c2e807a3", func := "phaeton/phaetonlaw09.NodeGot", spec := "nodeGot", unfollowed := true, recurses := true, apart := false, narrowed := true }
def NodeGotUptoSaid : Prop := nodeGotUptoRow.holds Try.pinned (OpenSpec.upto nodeGotSpec)

/-- 'phaetonlaw09.NodeApart', WHERE WHAT IT READS IS OF BULK AT MOST 1048576: true; the input reads as it did. -/
def nodeApartUptoRow : OpenClaim := { program := "ytgojeifmkfpknaa", sum := "48d5f00c0d83e4ee9c1e6a6902189a847e94cb863eaae2da678ee842c2e807a3", func := "phaeton/phaetonlaw09.NodeApart", spec := "nodeApart", unfollowed := true, recurses := true, apart := false, narrowed := true }
def NodeApartUptoSaid : Prop := nodeApartUptoRow.holds Try.pinned (OpenSpec.upto nodeApartSpec)

/-- 'phaetonlaw09.NodeTells', WHERE WHAT IT READS IS OF BULK AT MOST 1048576: true; the input reads as it did. -/
def nodeTellsUptoRow : OpenClaim := { program := "ytgojeifmkfpknaa", sum := "48d5f00c0d83e4ee9c1e6a6902189a847e94cb863eaae2da678ee842c2e807a3", func := "phaeton/phaetonlaw09.NodeTells", spec := "nodeTells", unfollowed := true, recurses := true, apart := false, narrowed := true }
def NodeTellsUptoSaid : Prop := nodeTellsUptoRow.holds Try.pinned (OpenSpec.upto nodeTellsSpec)

/-- 'phaetonlaw09.NodeRight', WHERE WHAT IT READS IS OF BULK AT MOST 1048576: true; the input reads as it did. -/
def nodeRightUptoRow : OpenClaim := { program := "ytgojeifmkfpknaa", sum := "48d5f00c0d83e4ee9c1e6a6902189a847e94cb863eaae2da678ee842c2e807a3", func := "phaeton/phaetonlaw09.NodeRight", spec := "nodeRight", unfollowed := true, recurses := true, apart := false, narrowed := true }
def NodeRightUptoSaid : Prop := nodeRightUptoRow.holds Try.pinned (OpenSpec.upto nodeRightSpec)

/-- 'phaetonlaw09.NodeOff', WHERE WHAT IT READS IS OF BULK AT MOST 1048576: true; the input reads as it did. -/
def nodeOffUptoRow : OpenClaim := { program := "ytgojeifmkfpknaa", sum := "48d5f00c0d83e4ee9c1e6a6902189a847e94cb863eaae2da678ee842c2e807a3", func := "phaeton/phaetonlaw09.NodeOff", spec := "nodeOff", unfollowed := true, recurses := true, apart := false, narrowed := true }
def NodeOffUptoSaid : Prop := nodeOffUptoRow.holds Try.pinned (OpenSpec.upto nodeOffSpec)

end Rows
end Go.Proofs.Ytgojeifmkfpknaa
