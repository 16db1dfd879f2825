/- NodeTells: whether any node is right, and all that comes of a right one, are the document's: its call answers true; NodeTells: the given statement, for every input: true, and each argument reads behind the call as it read before. -/
import Derived.Test.YtgojeifmkfpknaaNl
import Derived.Test.YtgojeifmkfpknaaRows
import Derived.WalkKit
import Derived.ProofKit
import Derived.OpenShut
import Derived.ShutString
import Derived.ChangeOld
import Derived.Below
import Derived.SizedLaws
set_option linter.unusedVariables false
set_option linter.unusedSimpArgs false
set_option maxRecDepth 100000
set_option maxHeartbeats 8000000
namespace Go.Proofs
open Go.RowKit Go.Shelf Go.Pv

theorem ndNew_len (l : List Fl) : (ndNew l).1.fs.length ≤ l.length ∧ (ndNew l).1.q.length ≤ 1000000 ∧ (ndNew l).1.g.length ≤ 1000000 := by
  unfold ndNew
  split <;> simp [nd0]

theorem nodeTells_true (n : Nd) (f : Fr) (l : List Fl) (a b : Bool) (hn : ∀ x ∈ n.fs, x.wf) (hl : ∀ x ∈ l, x.wf) : ∃ σ', evI E1 7 [n.P, f.P, .d (.slice (l.map Fl.D)), .d (.bool a), .d (.bool b)] [] = some (.d (.bool true), σ') := by
  have h0 := b_head
  have e1 := b_great n
  have e2 := r_great f
  cases c1 : n.great
  · rw [c1] at e1
    cases c2 : f.great
    · rw [c2] at e2
      by_cases c3 : (l.length : Int) > 100
      · simp at e1 e2
        refine evI_ex (fn := Try.f7) 5 rfl Try.func7 rfl ?_
        simp [Try.f7, cellsOf, loadS, storeS, h0, e1, e2, c3]
      · have hlen := Nd.great_len c1
        have e3 := b_new l (by omega)
        have e4 := r_new l (by omega) hl
        have e5 := b_right n (by omega) (by omega) (by omega)
        have e6 := r_RightNd n (by omega) (by omega) (by omega) hn
        obtain ⟨j1, j2, j3⟩ := ndNew_len l
        have e7 := r_sameNd (ndNew l).1 (by omega) j2 j3
        generalize (ndNew l).1 = X at e3 e4 e7
        generalize (ndNew l).2 = g at e3 e4
        cases c4 : n.right
        · rw [c4] at e5 e6
          simp at e1 e2 e3 e4 e5 e6 e7
          refine evI_ex (fn := Try.f7) 5 rfl Try.func7 rfl ?_
          simp (maxSteps := 3000000) [Try.f7, cellsOf, loadS, storeS, h0, e1, e2, c3, e3, e4, e5, e6, e7]
        · rw [c4] at e5 e6
          obtain ⟨k1, k2, k3, k4, k5⟩ := Nd.right_len c4
          have e8 := b_Send n f k1
          have e9 := r_Send n f k1
          have e10 := b_Next n k1 k5
          have e11 := r_Next n k1 k5
          have e12 := b_Take n k3
          have e13 := r_Take n k3
          obtain ⟨i1, i2, i3, _, _⟩ := Nd.right_len (Nd.Send_right c4 f)
          have e14 := r_sameNd (n.Send f).1 i2 i1 i3
          have e15 := r_same n.Next.1 n.Next.1
          obtain ⟨m1, m2, m3, _, _⟩ := Nd.right_len (Nd.Take_right c4)
          have e16 := r_sameNd n.Take.1 m2 m1 m3
          have e17 := r_same n.Take.2.1 n.Take.2.1
          rw [Fr.same_refl] at e15 e17
          have e18 := b_Sent n a k1 k5 k4
          have e19 := r_Sent n a k1 k5 k4
          obtain ⟨o1, o2, o3, _, _⟩ := Nd.right_len (Nd.Sent_right c4 a)
          have e20 := r_sameNd (n.Sent a) o2 o1 o3
          have e21 := b_Quiet n k4
          have e22 := r_Quiet n k4
          obtain ⟨p1, p2, p3, _, _⟩ := Nd.right_len (Nd.Quiet_right c4)
          have e23 := r_sameNd n.Quiet p2 p1 p3
          have e24 := r_right f
          generalize (n.Send f).1 = A at e8 e9 e14
          generalize (n.Send f).2 = d at e8 e9
          generalize n.Next.1 = u at e10 e11 e15
          generalize n.Next.2 = is at e10 e11
          generalize n.Take.1 = B at e12 e13 e16
          generalize n.Take.2.1 = v at e12 e13 e17
          generalize n.Take.2.2 = it at e12 e13
          generalize n.Sent a = C at e18 e19 e20
          generalize n.Quiet = D at e21 e22 e23
          cases c5 : f.right
          · rw [c5] at e24
            simp [cellsOf] at e1 e2 e3 e4 e5 e6 e7 e8 e9 e10 e11 e12 e13 e14 e15 e16 e17 e18 e19 e20 e21 e22 e23 e24
            refine evI_ex (fn := Try.f7) 5 rfl Try.func7 rfl ?_
            simp (maxSteps := 8000000) [Try.f7, cellsOf, loadS, storeS, h0, e1, e2, c3, e3, e4, e5, e6, e7, e8, e9, e10, e11, e12, e13, e14, e15, e16, e17, e18, e19, e20, e21, e22, e23, e24]
          · rw [c5] at e24
            have e25 := b_Heard n f a b k3 k2 k4
            have e26 := r_Heard n f a b k3 k2 k4
            obtain ⟨q1, q2, q3, _, _⟩ := Nd.right_len (Nd.Heard_right c4 f c5 a b)
            have e27 := r_sameNd (n.Heard f a b) q2 q1 q3
            generalize n.Heard f a b = H at e25 e26 e27
            simp [cellsOf] at e1 e2 e3 e4 e5 e6 e7 e8 e9 e10 e11 e12 e13 e14 e15 e16 e17 e18 e19 e20 e21 e22 e23 e24 e25 e26 e27
            refine evI_ex (fn := Try.f7) 5 rfl Try.func7 rfl ?_
            simp (maxSteps := 8000000) [Try.f7, cellsOf, loadS, storeS, h0, e1, e2, c3, e3, e4, e5, e6, e7, e8, e9, e10, e11, e12, e13, e14, e15, e16, e17, e18, e19, e20, e21, e22, e23, e24, e25, e26, e27]
    · rw [c2] at e2
      simp at e1 e2
      refine evI_ex (fn := Try.f7) 5 rfl Try.func7 rfl ?_
      simp [Try.f7, cellsOf, loadS, storeS, h0, e1, e2]
  · rw [c1] at e1
    simp at e1
    refine evI_ex (fn := Try.f7) 5 rfl Try.func7 rfl ?_
    simp [Try.f7, cellsOf, loadS, storeS, h0, e1]

def nodeTells_types : List TypeId := [28, 35, 24, 4, 4]
theorem arg_slT (x : DV) : argP Try.prog 24 [x] = .d x := by simp [argP]
theorem nodeTells_args (ps : List PV) (h : OkArgs Try.prog 8 nodeTells_types ps) : ∃ σ', evI E1 7 ps [] = some (.d (.bool true), σ') := by
  obtain ⟨d1, _, h1, rfl, d2, _, h2, rfl, d3, _, h3, rfl, d4, _, h4, rfl, d5, _, h5, rfl, rfl⟩ := h
  obtain ⟨n, hn, hw⟩ := ok_Nd (d := 3) h1
  obtain ⟨f, rfl, _⟩ := ok_Fr (d := 5) h2
  obtain ⟨l, rfl, _, hl⟩ := ok_Fls (d := 5) h3
  obtain ⟨a, rfl⟩ := ok_bool (d := 7) h4
  obtain ⟨b, rfl⟩ := ok_bool (d := 7) h5
  rw [hn, arg_Fr, arg_slT, arg_bool, arg_bool]
  exact nodeTells_true n f l a b hw.2.1.2 hl
end Go.Proofs

namespace Go.Proofs.Ytgojeifmkfpknaa.nodeTells
open Go.ChangeShapes Go.WideShapes Go.ChangeAt Go.RowKit Go.Pv
set_option linter.unusedVariables false
theorem own : ownKnob Try.prog.godebug = none := by kernel_rfl
theorem laidOut : laidOutB Try.prog = true := by kernel_rfl
set_option maxRecDepth 100000 in
theorem lifted (os : Os) (started : os.Started) (H : Type) (enc : TypeId × Value → H) :
    ReturnsInHanded {} Try.checked os 7 .any (Rows.nodeTellsSpec.pre6 enc Try.prog Try.f7 Rows.nodeTellsRow.domain false) (Rows.nodeTellsSpec.post enc Try.prog Try.f7 false true false false) := by
  refine returnsInHanded_of_change_sized (C := Try.checked) own started (by kernel_rfl) Try.func7
    (ChangeSpec.witness6 (enc := enc) (C := Try.checked) false ⟨#[], #[.agg #[.slice none 0 0, .slice none 0 0, .int .i64 0, .int .i64 0, .int .i64 0, .int .i64 0, .slice none 0 0], .agg #[.bool false, .int .i64 0, .bool false, .int .i64 0, .slice none 0 0], .slice none 0 0, .bool false, .bool false], []⟩ 8 (by kernel_rfl) (by kernel_rfl) (by kernel_rfl) (by kernel_rfl)) ?_
  intro W base args ds gs before hval0 hW hcnd hsz0 _
  have hval : ∀ (j : Nat) t v, Try.f7.params[j]? = some t → args[j]? = some v → Value.okWide Try.prog W .any base t v := hval0
  have hW' := hW
  obtain ⟨p, q, hA0, hV, rfl, hfz, hnd⟩ := hW
  have hA : DataW.TrodAll enc Try.prog W 0 (fun _ => true) true Try.f7.params.toList args.toList ds p := hA0
  rw [Try.params7] at hA hval
  obtain ⟨v0, vs0, d0, ds0, p0, q0, hargs0, rfl, rfl, h0, r0⟩ := trodAll_cons hA
  obtain ⟨v1, vs1, d1, ds1, p1, q1, hargs1, rfl, rfl, h1, r1⟩ := trodAll_cons r0
  obtain ⟨v2, vs2, d2, ds2, p2, q2, hargs2, rfl, rfl, h2, r2⟩ := trodAll_cons r1
  obtain ⟨v3, vs3, d3, ds3, p3, q3, hargs3, rfl, rfl, h3, r3⟩ := trodAll_cons r2
  obtain ⟨v4, vs4, d4, ds4, p4, q4, hargs4, rfl, rfl, h4, r4⟩ := trodAll_cons r3
  obtain ⟨hn1, rfl, rfl⟩ := trodAll_nil r4
  obtain ⟨rfl, rfl⟩ := trodVars_none hV
  refine (law_calls E1_ok (f := 7) (types := nodeTells_types) (depth := 8) (by kernel_rfl) nodeTells_args hA (fun j t v hj hv => hval j t v (by simpa [nodeTells_types] using hj) hv)).mono fun e W' ⟨he, bel⟩ => ?_
  subst he
  exact ⟨_, rfl, _, _, _, [], _, [], hW', trodAll_mk1 (shut_bool Try.underlying4 _), trodAll_below laidOut bel nodeTells_types _ _ _ (by kernel_rfl) hA, rfl, bel.frame _, fun h => by cases h⟩
theorem over : Rows.nodeTellsRow.holds Try.pinned (OpenSpec.ofChange Rows.nodeTellsSpec) :=
  OpenClaim.holds_of_wide 7 Try.f7 rfl rfl rfl rfl rfl rfl rfl ⟨rfl, rfl, rfl, rfl, rfl⟩ rfl rfl rfl rfl rfl (by kernel_rfl) Try.func7 (by kernel_rfl)
    (of_decide_eq_true (by kernel_rfl)) (by unfold Func.isWrapper; first | (rw [if_pos (by decide +kernel)]; kernel_rfl) | (rw [if_neg (by decide +kernel)]; exact ⟨rfl, rfl⟩))
    (fun os started H enc _ => lifted os started H enc)
end Go.Proofs.Ytgojeifmkfpknaa.nodeTells
namespace Go.Proofs.Ytgojeifmkfpknaa
theorem nodeTells_holds : Rows.NodeTellsSaid := nodeTells.over
end Go.Proofs.Ytgojeifmkfpknaa
#print axioms Go.Proofs.Ytgojeifmkfpknaa.nodeTells_holds

