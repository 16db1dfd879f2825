/- NetTells: the given statement, for every input: true, and each argument reads behind the call as it read before. -/
import Derived.Test.YtnnindnmpfmaaaaGreatRows
import Derived.Test.YtnnindnmpfmaaaaGreatNt14
import Derived.WalkKit
import Derived.ProofKit
import Derived.OpenShut
import Derived.ShutString
import Derived.ChangeOld
import Derived.Below
import Derived.SizedLaws
set_option linter.unusedVariables false
set_option linter.unusedSimpArgs false
namespace Go.Proofs.YtnnindnmpfmaaaaGreat.netTells
open Go.ChangeShapes Go.WideShapes Go.ChangeAt Go.RowKit Go.Pv
theorem own : ownKnob Tryz.prog.godebug = none := by kernel_rfl
theorem laidOut : laidOutB Tryz.prog = true := by kernel_rfl
set_option maxRecDepth 100000 in
theorem lifted (os : Os) (started : os.Started) (H : Type) (enc : TypeId × Value → H) :
    ReturnsInHanded {} Tryz.checked os 8 .any (Rows.netTellsSpec.pre6 enc Tryz.prog Tryz.f8 Rows.netTellsRow.domain false) (Rows.netTellsSpec.post enc Tryz.prog Tryz.f8 false true false false) := by
  refine returnsInHanded_of_change_sized (C := Tryz.checked) own started (by kernel_rfl) Tryz.func8
    (ChangeSpec.witness6 (enc := enc) (C := Tryz.checked) false ⟨#[], #[.slice none 0 0, .slice none 0 0, .int .i64 0, .slice none 0 0], []⟩ 8 (by kernel_rfl) (by kernel_rfl) (by kernel_rfl) (by kernel_rfl)) ?_
  intro W base args ds gs before hval0 hW hcnd hsz0 _
  have hval : ∀ (j : Nat) t v, Tryz.f8.params[j]? = some t → args[j]? = some v → Value.okWide Tryz.prog W .any base t v := hval0
  have hW' := hW
  obtain ⟨p, q, hA0, hV, rfl, hfz, hnd⟩ := hW
  have hA : DataW.TrodAll enc Tryz.prog W 0 (fun _ => true) true Tryz.f8.params.toList args.toList ds p := hA0
  rw [Tryz.params8] at hA hval
  obtain ⟨v0, vs0, d0, ds0, p0, q0, hargs0, rfl, rfl, h0, r0⟩ := trodAll_cons hA
  obtain ⟨v1, vs1, d1, ds1, p1, q1, hargs1, rfl, rfl, h1, r1⟩ := trodAll_cons r0
  obtain ⟨v2, vs2, d2, ds2, p2, q2, hargs2, rfl, rfl, h2, r2⟩ := trodAll_cons r1
  obtain ⟨v3, vs3, d3, ds3, p3, q3, hargs3, rfl, rfl, h3, r3⟩ := trodAll_cons r2
  obtain ⟨hn1, rfl, rfl⟩ := trodAll_nil r3
  obtain ⟨rfl, rfl⟩ := trodVars_none hV
  refine (law_calls E1_ok (f := 8) (types := netTells_types) (depth := 8) (by kernel_rfl) netTells_args hA (fun j t v hj hv => hval j t v (by simpa [netTells_types] using hj) hv)).mono fun e W' ⟨he, bel⟩ => ?_
  subst he
  exact ⟨_, rfl, _, _, _, [], _, [], hW', trodAll_mk1 (shut_bool Tryz.underlying4 _), trodAll_below laidOut bel netTells_types _ _ _ (by kernel_rfl) hA, rfl, bel.frame _, fun h => by cases h⟩
theorem kIn : (Rows.netTellsRow.inPlace == Tryz.prog.inPlace 8) = true := by kernel_rfl
theorem kUn : (Rows.netTellsRow.unfollowed == Tryz.prog.unfollowed 8) = true := by kernel_rfl
theorem kRe : (Rows.netTellsRow.recurses == Tryz.prog.recurses 8) = true := by kernel_rfl
theorem kNa : (Rows.netTellsRow.named == Tryz.prog.varsNamed 8) = true := by kernel_rfl
theorem kEn : Tryz.prog.mayEnter = true := by kernel_rfl
theorem kLi : (Rows.netTellsRow.lifted == Tryz.prog.liftsFinal) = true := by kernel_rfl
theorem closed : joinedFacts Tryz.prog 8 Tryz.f8 Rows.netTellsSpec Rows.netTellsRow = true := by
  unfold joinedFacts
  rw [laidOut, kIn, kUn, kRe, kNa, kEn, kLi]
  kernel_rfl
theorem over : Rows.netTellsRow.holds Tryz.pinned (OpenSpec.ofChange Rows.netTellsSpec) :=
  OpenClaim.holds_of_wide 8 Tryz.f8 rfl rfl rfl rfl rfl rfl rfl ⟨rfl, rfl, rfl, rfl, rfl⟩ rfl rfl rfl rfl rfl (by kernel_rfl) Tryz.func8 closed
    (of_decide_eq_true (by kernel_rfl)) (by unfold Func.isWrapper; first | (rw [if_pos (by decide +kernel)]; kernel_rfl) | (rw [if_neg (by decide +kernel)]; exact ⟨rfl, rfl⟩))
    (fun os started H enc _ => lifted os started H enc)
end Go.Proofs.YtnnindnmpfmaaaaGreat.netTells
namespace Go.Proofs.YtnnindnmpfmaaaaGreat
theorem netTells_holds : Rows.NetTellsSaid := netTells.over
end Go.Proofs.YtnnindnmpfmaaaaGreat
#print axioms Go.Proofs.YtnnindnmpfmaaaaGreat.netTells_holds

