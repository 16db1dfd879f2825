/-
  No cell of these rows narrows 'for every input' (looked for: loops, veiled, ifaces, maps, wideKeys, modest, calm, conditions, laid).
  DERIVED. THE GIVEN ROWS OF THIS SEAT. 14 by the template 'for every input the law returns true; each argument reads behind the call as it read before'; 0 by the template 'total and deterministic' (their statements: YtnnindnmpfmaaaaGreatTotals.lean).
  GIVEN WITH THE SEED: the statements are not yours to turn. If you find one false, say at which input.
  Laid BY PROGRAM, IN A SANDBOX (cutbox-rows.mjs): the forced cells as the released guide's own fill.sh prints them over the translation 96ab548466ab11ec… (all of the seat's roots in one cut). By AI agents, Wed Nov 11 2026. No macro, syntax, notation, axiom, sorry.
-/
import Derived.Test.YtnnindnmpfmaaaaGreatChecked
import GoSem.Claim
import GoSem.ClaimJoined
import GoSem.ClaimMapViews
import Derived.JoinedTies
import Derived.KernelRfl
namespace Go.Proofs.YtnnindnmpfmaaaaGreat
/- THE CELL 'sum', in the pinned program and in every row, IS THE sha256 OF THE DUMP (.gsa) THAT YtnnindnmpfmaaaaGreatProg.lean LOADS. Nothing in Lean hashes anything: it is a label: what it is worth is what the hold of that sum in a sandbox is worth. -/
noncomputable def Tryz.pinned : Pinned := { name := "ytnnindnmpfmaaaagreat", sum := "96ab548466ab11ecc68c835e5fa37efc3284b2f41fac413b4502a275d7314007", checked := Tryz.checked }
namespace Rows
def none {H : Type} : Left H := { results := [], args := [] }

/-- 'phaetonlaw10.BusTells': WHATEVER THE INPUT: true; the input reads as it did. -/
def busTellsSpec : ChangeSpec := { name := "busTells", fn := fun _ => fun
  | [d1, d2] => { results := [.lit (.bool true)], args := [d1, d2] }
  | _ => none }
def busTellsRow : OpenClaim := { program := "ytnnindnmpfmaaaagreat", sum := "96ab548466ab11ecc68c835e5fa37efc3284b2f41fac413b4502a275d7314007", func := "phaeton/phaetonlaw10.BusTells", spec := "busTells", unfollowed := true, recurses := true, apart := false }
def BusTellsSaid : Prop := busTellsRow.holds Tryz.pinned (OpenSpec.ofChange busTellsSpec)

/-- ITS FALSE NEIGHBOUR: 'it returns false'. Refute it at one input. -/
def busTellsWrong : ChangeSpec := { name := "busTells", fn := fun _ => fun
  | [d1, d2] => { results := [.lit (.bool false)], args := [d1, d2] }
  | _ => none }
def BusTellsWrongFalsely : Prop := busTellsRow.holds Tryz.pinned (OpenSpec.ofChange busTellsWrong)

/-- 'phaetonlaw10.BusAll': WHATEVER THE INPUT: true; the input reads as it did. -/
def busAllSpec : ChangeSpec := { name := "busAll", fn := fun _ => fun
  | [d1, d2] => { results := [.lit (.bool true)], args := [d1, d2] }
  | _ => none }
def busAllRow : OpenClaim := { program := "ytnnindnmpfmaaaagreat", sum := "96ab548466ab11ecc68c835e5fa37efc3284b2f41fac413b4502a275d7314007", func := "phaeton/phaetonlaw10.BusAll", spec := "busAll", unfollowed := true, recurses := true, apart := false }
def BusAllSaid : Prop := busAllRow.holds Tryz.pinned (OpenSpec.ofChange busAllSpec)

/-- ITS FALSE NEIGHBOUR: 'it returns false'. Refute it at one input. -/
def busAllWrong : ChangeSpec := { name := "busAll", fn := fun _ => fun
  | [d1, d2] => { results := [.lit (.bool false)], args := [d1, d2] }
  | _ => none }
def BusAllWrongFalsely : Prop := busAllRow.holds Tryz.pinned (OpenSpec.ofChange busAllWrong)

/-- 'phaetonlaw10.BusWaits': WHATEVER THE INPUT: true; the input reads as it did. -/
def busWaitsSpec : ChangeSpec := { name := "busWaits", fn := fun _ => fun
  | [d1, d2] => { results := [.lit (.bool true)], args := [d1, d2] }
  | _ => none }
def busWaitsRow : OpenClaim := { program := "ytnnindnmpfmaaaagreat", sum := "96ab548466ab11ecc68c835e5fa37efc3284b2f41fac413b4502a275d7314007", func := "phaeton/phaetonlaw10.BusWaits", spec := "busWaits", unfollowed := true, recurses := true, apart := false }
def BusWaitsSaid : Prop := busWaitsRow.holds Tryz.pinned (OpenSpec.ofChange busWaitsSpec)

/-- ITS FALSE NEIGHBOUR: 'it returns false'. Refute it at one input. -/
def busWaitsWrong : ChangeSpec := { name := "busWaits", fn := fun _ => fun
  | [d1, d2] => { results := [.lit (.bool false)], args := [d1, d2] }
  | _ => none }
def BusWaitsWrongFalsely : Prop := busWaitsRow.holds Tryz.pinned (OpenSpec.ofChange busWaitsWrong)

/-- 'phaetonlaw10.BusQuiet': WHATEVER THE INPUT: true; the input reads as it did. -/
def busQuietSpec : ChangeSpec := { name := "busQuiet", fn := fun _ => fun
  | [d1, d2, d3] => { results := [.lit (.bool true)], args := [d1, d2, d3] }
  | _ => none }
def busQuietRow : OpenClaim := { program := "ytnnindnmpfmaaaagreat", sum := "96ab548466ab11ecc68c835e5fa37efc3284b2f41fac413b4502a275d7314007", func := "phaeton/phaetonlaw10.BusQuiet", spec := "busQuiet", unfollowed := true, recurses := true, apart := false }
def BusQuietSaid : Prop := busQuietRow.holds Tryz.pinned (OpenSpec.ofChange busQuietSpec)

/-- ITS FALSE NEIGHBOUR: 'it returns false'. Refute it at one input. -/
def busQuietWrong : ChangeSpec := { name := "busQuiet", fn := fun _ => fun
  | [d1, d2, d3] => { results := [.lit (.bool false)], args := [d1, d2, d3] }
  | _ => none }
def BusQuietWrongFalsely : Prop := busQuietRow.holds Tryz.pinned (OpenSpec.ofChange busQuietWrong)

/-- 'phaetontop.TopQuiet': WHATEVER THE INPUT: true; the input reads as it did. -/
def topQuietSpec : ChangeSpec := { name := "topQuiet", fn := fun _ => fun
  | [d1, d2, d3] => { results := [.lit (.bool true)], args := [d1, d2, d3] }
  | _ => none }
def topQuietRow : OpenClaim := { program := "ytnnindnmpfmaaaagreat", sum := "96ab548466ab11ecc68c835e5fa37efc3284b2f41fac413b4502a275d7314007", func := "phaeton/phaetontop.TopQuiet", spec := "topQuiet", unfollowed := true, recurses := true, apart := false }
def TopQuietSaid : Prop := topQuietRow.holds Tryz.pinned (OpenSpec.ofChange topQuietSpec)

/-- ITS FALSE NEIGHBOUR: 'it returns false'. Refute it at one input. -/
def topQuietWrong : ChangeSpec := { name := "topQuiet", fn := fun _ => fun
  | [d1, d2, d3] => { results := [.lit (.bool false)], args := [d1, d2, d3] }
  | _ => none }
def TopQuietWrongFalsely : Prop := topQuietRow.holds Tryz.pinned (OpenSpec.ofChange topQuietWrong)

/-- 'phaetonlaw14.NetTells': WHATEVER THE INPUT: true; the input reads as it did. -/
def netTellsSpec : ChangeSpec := { name := "netTells", fn := fun _ => fun
  | [d1, d2, d3, d4] => { results := [.lit (.bool true)], args := [d1, d2, d3, d4] }
  | _ => none }
def netTellsRow : OpenClaim := { program := "ytnnindnmpfmaaaagreat", sum := "96ab548466ab11ecc68c835e5fa37efc3284b2f41fac413b4502a275d7314007", func := "phaeton/phaetonlaw14.NetTells", spec := "netTells", unfollowed := true, recurses := true, apart := false }
def NetTellsSaid : Prop := netTellsRow.holds Tryz.pinned (OpenSpec.ofChange netTellsSpec)

/-- ITS FALSE NEIGHBOUR: 'it returns false'. Refute it at one input. -/
def netTellsWrong : ChangeSpec := { name := "netTells", fn := fun _ => fun
  | [d1, d2, d3, d4] => { results := [.lit (.bool false)], args := [d1, d2, d3, d4] }
  | _ => none }
def NetTellsWrongFalsely : Prop := netTellsRow.holds Tryz.pinned (OpenSpec.ofChange netTellsWrong)

/-- 'phaetonlaw14.NetRight': WHATEVER THE INPUT: true; the input reads as it did. -/
def netRightSpec : ChangeSpec := { name := "netRight", fn := fun _ => fun
  | [d1, d2, d3, d4] => { results := [.lit (.bool true)], args := [d1, d2, d3, d4] }
  | _ => none }
def netRightRow : OpenClaim := { program := "ytnnindnmpfmaaaagreat", sum := "96ab548466ab11ecc68c835e5fa37efc3284b2f41fac413b4502a275d7314007", func := "phaeton/phaetonlaw14.NetRight", spec := "netRight", unfollowed := true, recurses := true, apart := false }
def NetRightSaid : Prop := netRightRow.holds Tryz.pinned (OpenSpec.ofChange netRightSpec)

/-- ITS FALSE NEIGHBOUR: 'it returns false'. Refute it at one input. -/
def netRightWrong : ChangeSpec := { name := "netRight", fn := fun _ => fun
  | [d1, d2, d3, d4] => { results := [.lit (.bool false)], args := [d1, d2, d3, d4] }
  | _ => none }
def NetRightWrongFalsely : Prop := netRightRow.holds Tryz.pinned (OpenSpec.ofChange netRightWrong)

/-- 'phaetonlaw14.NetCarries': WHATEVER THE INPUT: true; the input reads as it did. -/
def netCarriesSpec : ChangeSpec := { name := "netCarries", fn := fun _ => fun
  | [d1, d2, d3, d4, d5] => { results := [.lit (.bool true)], args := [d1, d2, d3, d4, d5] }
  | _ => none }
def netCarriesRow : OpenClaim := { program := "ytnnindnmpfmaaaagreat", sum := "96ab548466ab11ecc68c835e5fa37efc3284b2f41fac413b4502a275d7314007", func := "phaeton/phaetonlaw14.NetCarries", spec := "netCarries", unfollowed := true, recurses := true, apart := false }
def NetCarriesSaid : Prop := netCarriesRow.holds Tryz.pinned (OpenSpec.ofChange netCarriesSpec)

/-- ITS FALSE NEIGHBOUR: 'it returns false'. Refute it at one input. -/
def netCarriesWrong : ChangeSpec := { name := "netCarries", fn := fun _ => fun
  | [d1, d2, d3, d4, d5] => { results := [.lit (.bool false)], args := [d1, d2, d3, d4, d5] }
  | _ => none }
def NetCarriesWrongFalsely : Prop := netCarriesRow.holds Tryz.pinned (OpenSpec.ofChange netCarriesWrong)

/-- 'phaetonlaw14.NetAlone': WHATEVER THE INPUT: true; the input reads as it did. -/
def netAloneSpec : ChangeSpec := { name := "netAlone", fn := fun _ => fun
  | [d1, d2] => { results := [.lit (.bool true)], args := [d1, d2] }
  | _ => none }
def netAloneRow : OpenClaim := { program := "ytnnindnmpfmaaaagreat", sum := "96ab548466ab11ecc68c835e5fa37efc3284b2f41fac413b4502a275d7314007", func := "phaeton/phaetonlaw14.NetAlone", spec := "netAlone", unfollowed := true, recurses := true, apart := false }
def NetAloneSaid : Prop := netAloneRow.holds Tryz.pinned (OpenSpec.ofChange netAloneSpec)

/-- ITS FALSE NEIGHBOUR: 'it returns false'. Refute it at one input. -/
def netAloneWrong : ChangeSpec := { name := "netAlone", fn := fun _ => fun
  | [d1, d2] => { results := [.lit (.bool false)], args := [d1, d2] }
  | _ => none }
def NetAloneWrongFalsely : Prop := netAloneRow.holds Tryz.pinned (OpenSpec.ofChange netAloneWrong)

/-- 'phaetonlaw14.NetStill': WHATEVER THE INPUT: true; the input reads as it did. -/
def netStillSpec : ChangeSpec := { name := "netStill", fn := fun _ => fun
  | [d1, d2, d3, d4, d5] => { results := [.lit (.bool true)], args := [d1, d2, d3, d4, d5] }
  | _ => none }
def netStillRow : OpenClaim := { program := "ytnnindnmpfmaaaagreat", sum := "96ab548466ab11ecc68c835e5fa37efc3284b2f41fac413b4502a275d7314007", func := "phaeton/phaetonlaw14.NetStill", spec := "netStill", unfollowed := true, recurses := true, apart := false }
def NetStillSaid : Prop := netStillRow.holds Tryz.pinned (OpenSpec.ofChange netStillSpec)

/-- ITS FALSE NEIGHBOUR: 'it returns false'. Refute it at one input. -/
def netStillWrong : ChangeSpec := { name := "netStill", fn := fun _ => fun
  | [d1, d2, d3, d4, d5] => { results := [.lit (.bool false)], args := [d1, d2, d3, d4, d5] }
  | _ => none }
def NetStillWrongFalsely : Prop := netStillRow.holds Tryz.pinned (OpenSpec.ofChange netStillWrong)

/-- 'phaetonlaw14.NetParts': WHATEVER THE INPUT: true; the input reads as it did. -/
def netPartsSpec : ChangeSpec := { name := "netParts", fn := fun _ => fun
  | [d1, d2, d3, d4, d5, d6] => { results := [.lit (.bool true)], args := [d1, d2, d3, d4, d5, d6] }
  | _ => none }
def netPartsRow : OpenClaim := { program := "ytnnindnmpfmaaaagreat", sum := "96ab548466ab11ecc68c835e5fa37efc3284b2f41fac413b4502a275d7314007", func := "phaeton/phaetonlaw14.NetParts", spec := "netParts", unfollowed := true, recurses := true, apart := false }
def NetPartsSaid : Prop := netPartsRow.holds Tryz.pinned (OpenSpec.ofChange netPartsSpec)

/-- ITS FALSE NEIGHBOUR: 'it returns false'. Refute it at one input. -/
def netPartsWrong : ChangeSpec := { name := "netParts", fn := fun _ => fun
  | [d1, d2, d3, d4, d5, d6] => { results := [.lit (.bool false)], args := [d1, d2, d3, d4, d5, d6] }
  | _ => none }
def NetPartsWrongFalsely : Prop := netPartsRow.holds Tryz.pinned (OpenSpec.ofChange netPartsWrong)

/-- 'phaetonlaw14.NetSends': WHATEVER THE INPUT: true; the input reads as it did. -/
def netSendsSpec : ChangeSpec := { name := "netSends", fn := fun _ => fun
  | [d1, d2, d3, d4, d5, d6] => { results := [.lit (.bool true)], args := [d1, d2, d3, d4, d5, d6] }
  | _ => none }
def netSendsRow : OpenClaim := { program := "ytnnindnmpfmaaaagreat", sum := "96ab548466ab11ecc68c835e5fa37efc3284b2f41fac413b4502a275d7314007", func := "phaeton/phaetonlaw14.NetSends", spec := "netSends", unfollowed := true, recurses := true, apart := false }
def NetSendsSaid : Prop := netSendsRow.holds Tryz.pinned (OpenSpec.ofChange netSendsSpec)

/-- ITS FALSE NEIGHBOUR: 'it returns false'. Refute it at one input. -/
def netSendsWrong : ChangeSpec := { name := "netSends", fn := fun _ => fun
  | [d1, d2, d3, d4, d5, d6] => { results := [.lit (.bool false)], args := [d1, d2, d3, d4, d5, d6] }
  | _ => none }
def NetSendsWrongFalsely : Prop := netSendsRow.holds Tryz.pinned (OpenSpec.ofChange netSendsWrong)

/-- 'phaetonlaw14.NetFilters': WHATEVER THE INPUT: true; the input reads as it did. -/
def netFiltersSpec : ChangeSpec := { name := "netFilters", fn := fun _ => fun
  | [d1, d2, d3] => { results := [.lit (.bool true)], args := [d1, d2, d3] }
  | _ => none }
def netFiltersRow : OpenClaim := { program := "ytnnindnmpfmaaaagreat", sum := "96ab548466ab11ecc68c835e5fa37efc3284b2f41fac413b4502a275d7314007", func := "phaeton/phaetonlaw14.NetFilters", spec := "netFilters", unfollowed := true, recurses := true, apart := false }
def NetFiltersSaid : Prop := netFiltersRow.holds Tryz.pinned (OpenSpec.ofChange netFiltersSpec)

/-- ITS FALSE NEIGHBOUR: 'it returns false'. Refute it at one input. -/
def netFiltersWrong : ChangeSpec := { name := "netFilters", fn := fun _ => fun
  | [d1, d2, d3] => { results := [.lit (.bool false)], args := [d1, d2, d3] }
  | _ => none }
def NetFiltersWrongFalsely : Prop := netFiltersRow.holds Tryz.pinned (OpenSpec.ofChange netFiltersWrong)

/-- 'phaetontop.TopNet': WHATEVER THE INPUT: true; the input reads as it did. -/
def topNetSpec : ChangeSpec := { name := "topNet", fn := fun _ => fun
  | [d] => { results := [.lit (.bool true)], args := [d] }
  | _ => none }
def topNetRow : OpenClaim := { program := "ytnnindnmpfmaaaagreat", sum := "96ab548466ab11ecc68c835e5fa37efc3284b2f41fac413b4502a275d7314007", func := "phaeton/phaetontop.TopNet", spec := "topNet", unfollowed := true, recurses := true, apart := false }
def TopNetSaid : Prop := topNetRow.holds Tryz.pinned (OpenSpec.ofChange topNetSpec)

/-- ITS FALSE NEIGHBOUR: 'it returns false'. Refute it at one input. -/
def topNetWrong : ChangeSpec := { name := "topNet", fn := fun _ => fun
  | [d] => { results := [.lit (.bool false)], args := [d] }
  | _ => none }
def TopNetWrongFalsely : Prop := topNetRow.holds Tryz.pinned (OpenSpec.ofChange topNetWrong)

/- THE SECOND FORM. 'bulk': how many values and letters a reading holds, each counted each time it is reached (what is shared counts as often as it is met; a slice's spare places count too). A statement '..UptoSaid' is the law's where the arguments, and the package variables that the reading takes, are together of bulk at most 1048576: NARROWER than '..Said'. Prove '..Said' where nothing that the law and all that it calls make is longer than what came in: it says more and counts as full. Else prove '..UptoSaid'. A law counts once. -/
mutual
def uptoBulk {H : Type} : DataW H → Nat
  | .lit (.string bytes) => bytes.length + 1
  | .lit _ => 1
  | .nil => 1
  | .ptr d => uptoBulk d + 1
  | .slice elems spare => uptoBulkAll elems + uptoBulkAll spare + 1
  | .agg parts => uptoBulkAll parts + 1
  | .iface _ d => uptoBulk d + 1
  | .map entries => uptoBulkEntries entries + 1
  | .held _ => 1
def uptoBulkAll {H : Type} : List (DataW H) → Nat
  | [] => 0
  | d :: r => uptoBulk d + uptoBulkAll r
def uptoBulkEntries {H : Type} : List (Lit × DataW H) → Nat
  | [] => 0
  | x :: r => uptoBulkEntry x + uptoBulkEntries r
def uptoBulkEntry {H : Type} : Lit × DataW H → Nat
  | (.string bytes, d) => bytes.length + uptoBulk d + 1
  | (_, d) => uptoBulk d + 1
 end
def uptoSmall : (H : Type) → List (DataW H) → Bool := fun _ ds => decide (uptoBulkAll ds ≤ 1048576)
def OpenSpec.upto (s : _root_.Go.ChangeSpec) : _root_.Go.OpenSpec := { _root_.Go.OpenSpec.ofChange s with cond := some uptoSmall }

/-- 'phaetonlaw10.BusTells', WHERE WHAT IT READS IS OF BULK AT MOST 1048576: true; the input reads as it did. -/
def busTellsUptoRow : OpenClaim := { program := "ytnnindnmpfmaaaagreat", sum := "96ab548466ab11ecc68c835e5fa37efc3284b2f41fac413b4502a275d7314007", func := "phaeton/phaetonlaw10.BusTells", spec := "busTells", unfollowed := true, recurses := true, apart := false, narrowed := true }
def BusTellsUptoSaid : Prop := busTellsUptoRow.holds Tryz.pinned (OpenSpec.upto busTellsSpec)

/-- 'phaetonlaw10.BusAll', WHERE WHAT IT READS IS OF BULK AT MOST 1048576: true; the input reads as it did. -/
def busAllUptoRow : OpenClaim := { program := "ytnnindnmpfmaaaagreat", sum := "96ab548466ab11ecc68c835e5fa37efc3284b2f41fac413b4502a275d7314007", func := "phaeton/phaetonlaw10.BusAll", spec := "busAll", unfollowed := true, recurses := true, apart := false, narrowed := true }
def BusAllUptoSaid : Prop := busAllUptoRow.holds Tryz.pinned (OpenSpec.upto busAllSpec)

/-- 'phaetonlaw10.BusWaits', WHERE WHAT IT READS IS OF BULK AT MOST 1048576: true; the input reads as it did. -/
def busWaitsUptoRow : OpenClaim := { program := "ytnnindnmpfmaaaagreat", sum := "96ab548466ab11ecc68c835e5fa37efc3284b2f41fac413b4502a275d7314007", func := "phaeton/phaetonlaw10.BusWaits", spec := "busWaits", unfollowed := true, recurses := true, apart := false, narrowed := true }
def BusWaitsUptoSaid : Prop := busWaitsUptoRow.holds Tryz.pinned (OpenSpec.upto busWaitsSpec)

/-- 'phaetonlaw10.BusQuiet', WHERE WHAT IT READS IS OF BULK AT MOST 1048576: true; the input reads as it did. -/
def busQuietUptoRow : OpenClaim := { program := "ytnnindnmpfmaaaagreat", sum := "96ab548466ab11ecc68c835e5fa37efc3284b2f41fac413b4502a275d7314007", func := "phaeton/phaetonlaw10.BusQuiet", spec := "busQuiet", unfollowed := true, recurses := true, apart := false, narrowed := true }
def BusQuietUptoSaid : Prop := busQuietUptoRow.holds Tryz.pinned (OpenSpec.upto busQuietSpec)

/-- 'phaetontop.TopQuiet', WHERE WHAT IT READS IS OF BULK AT MOST 1048576: true; the input reads as it did. -/
def topQuietUptoRow : OpenClaim := { program := "ytnnindnmpfmaaaagreat", sum := "96ab548466ab11ecc68c835e5fa37efc3284b2f41fac413b4502a275d7314007", func := "phaeton/phaetontop.TopQuiet", spec := "topQuiet", unfollowed := true, recurses := true, apart := false, narrowed := true }
def TopQuietUptoSaid : Prop := topQuietUptoRow.holds Tryz.pinned (OpenSpec.upto topQuietSpec)

/-- 'phaetonlaw14.NetTells', WHERE WHAT IT READS IS OF BULK AT MOST 1048576: true; the input reads as it did. -/
def netTellsUptoRow : OpenClaim := { program := "ytnnindnmpfmaaaagreat", sum := "96ab548466ab11ecc68c835e5fa37efc3284b2f41fac413b4502a275d7314007", func := "phaeton/phaetonlaw14.NetTells", spec := "netTells", unfollowed := true, recurses := true, apart := false, narrowed := true }
def NetTellsUptoSaid : Prop := netTellsUptoRow.holds Tryz.pinned (OpenSpec.upto netTellsSpec)

/-- 'phaetonlaw14.NetRight', WHERE WHAT IT READS IS OF BULK AT MOST 1048576: true; the input reads as it did. -/
def netRightUptoRow : OpenClaim := { program := "ytnnindnmpfmaaaagreat", sum := "96ab548466ab11ecc68c835e5fa37efc3284b2f41fac413b4502a275d7314007", func := "phaeton/phaetonlaw14.NetRight", spec := "netRight", unfollowed := true, recurses := true, apart := false, narrowed := true }
def NetRightUptoSaid : Prop := netRightUptoRow.holds Tryz.pinned (OpenSpec.upto netRightSpec)

/-- 'phaetonlaw14.NetCarries', WHERE WHAT IT READS IS OF BULK AT MOST 1048576: true; the input reads as it did. -/
def netCarriesUptoRow : OpenClaim := { program := "ytnnindnmpfmaaaagreat", sum := "96ab548466ab11ecc68c835e5fa37efc3284b2f41fac413b4502a275d7314007", func := "phaeton/phaetonlaw14.NetCarries", spec := "netCarries", unfollowed := true, recurses := true, apart := false, narrowed := true }
def NetCarriesUptoSaid : Prop := netCarriesUptoRow.holds Tryz.pinned (OpenSpec.upto netCarriesSpec)

/-- 'phaetonlaw14.NetAlone', WHERE WHAT IT READS IS OF BULK AT MOST 1048576: true; the input reads as it did. -/
def netAloneUptoRow : OpenClaim := { program := "ytnnindnmpfmaaaagreat", sum := "96ab548466ab11ecc68c835e5fa37efc3284b2f41fac413b4502a275d7314007", func := "phaeton/phaetonlaw14.NetAlone", spec := "netAlone", unfollowed := true, recurses := true, apart := false, narrowed := true }
def NetAloneUptoSaid : Prop := netAloneUptoRow.holds Tryz.pinned (OpenSpec.upto netAloneSpec)

/-- 'phaetonlaw14.NetStill', WHERE WHAT IT READS IS OF BULK AT MOST 1048576: true; the input reads as it did. -/
def netStillUptoRow : OpenClaim := { program := "ytnnindnmpfmaaaagreat", sum := "96ab548466ab11ecc68c835e5fa37efc3284b2f41fac413b4502a275d7314007", func := "phaeton/phaetonlaw14.NetStill", spec := "netStill", unfollowed := true, recurses := true, apart := false, narrowed := true }
def NetStillUptoSaid : Prop := netStillUptoRow.holds Tryz.pinned (OpenSpec.upto netStillSpec)

/-- 'phaetonlaw14.NetParts', WHERE WHAT IT READS IS OF BULK AT MOST 1048576: true; the input reads as it did. -/
def netPartsUptoRow : OpenClaim := { program := "ytnnindnmpfmaaaagreat", sum := "96ab548466ab11ecc68c835e5fa37efc3284b2f41fac413b4502a275d7314007", func := "phaeton/phaetonlaw14.NetParts", spec := "netParts", unfollowed := true, recurses := true, apart := false, narrowed := true }
def NetPartsUptoSaid : Prop := netPartsUptoRow.holds Tryz.pinned (OpenSpec.upto netPartsSpec)

/-- 'phaetonlaw14.NetSends', WHERE WHAT IT READS IS OF BULK AT MOST 1048576: true; the input reads as it did. -/
def netSendsUptoRow : OpenClaim := { program := "ytnnindnmpfmaaaagreat", sum := "96ab548466ab11ecc68c835e5fa37efc3284b2f41fac413b4502a275d7314007", func := "phaeton/phaetonlaw14.NetSends", spec := "netSends", unfollowed := true, recurses := true, apart := false, narrowed := true }
def NetSendsUptoSaid : Prop := netSendsUptoRow.holds Tryz.pinned (OpenSpec.upto netSendsSpec)

/-- 'phaetonlaw14.NetFilters', WHERE WHAT IT READS IS OF BULK AT MOST 1048576: true; the input reads as it did. -/
def netFiltersUptoRow : OpenClaim := { program := "ytnnindnmpfmaaaagreat", sum := "96ab548466ab11ecc68c835e5fa37efc3284b2f41fac413b4502a275d7314007", func := "phaeton/phaetonlaw14.NetFilters", spec := "netFilters", unfollowed := true, recurses := true, apart := false, narrowed := true }
def NetFiltersUptoSaid : Prop := netFiltersUptoRow.holds Tryz.pinned (OpenSpec.upto netFiltersSpec)

/-- 'phaetontop.TopNet', WHERE WHAT IT READS IS OF BULK AT MOST 1048576: true; the input reads as it did. -/
def topNetUptoRow : OpenClaim := { program := "ytnnindnmpfmaaaagreat", sum := "96ab548466ab11ecc68c835e5fa37efc3284b2f41fac413b4502a275d7314007", func := "phaeton/phaetontop.TopNet", spec := "topNet", unfollowed := true, recurses := true, apart := false, narrowed := true }
def TopNetUptoSaid : Prop := topNetUptoRow.holds Tryz.pinned (OpenSpec.upto topNetSpec)

end Rows
end Go.Proofs.YtnnindnmpfmaaaaGreat
