/- NodeApart: what waits alters nothing of what is heard, and what was got nothing of what is sent: its call answers true; NodeApart: the given statement, for every input: true, and each argument reads behind the call as it read before. -/
import Derived.Test.YtgojeifmkfpknaaNj
import Derived.Test.YtgojeifmkfpknaaRows
import Derived.WalkKit
import Derived.ProofKit
import Derived.OpenShut
import Derived.ShutString
import Derived.ChangeOld
import Derived.Below
import Derived.SizedLaws
set_option linter.unusedVariables false
set_option linter.unusedSimpArgs false
set_option maxRecDepth 100000
set_option maxHeartbeats 4000000
namespace Go.Proofs
open Go.RowKit Go.Shelf Go.Pv

theorem step2_on {c : Cn} (h : c.right = true) (hs : c.s ≠ 3) : (c.step 2).s ≠ 3 := by
  rw [Cn.right_iff] at h
  simp only [hs, if_false] at h
  unfold Cn.step
  simp only [stS, hs, if_false]
  have : wkT 2 c.t = c.t := by simp [wkT]
  rw [this, if_neg (by omega)]
  split <;> decide

theorem apart_send {n : Nd} (h : n.right = true) (ho : n.off = false) (f g : Fr) (hg : g.right = true) :
    (n.Heard f true false).Send g = ((n.Send g).1.Heard f true false, (n.Send g).2) := by
  have hr := h
  rw [Nd.right_iff] at hr
  have hs : n.c.s ≠ 3 := by simpa [Nd.off] using ho
  have h2 := step2_on hr.2.2.2 hs
  obtain ⟨q, fs, c, gg⟩ := n
  simp only at hs h2
  unfold Nd.Heard Nd.Send what
  by_cases hl : 16 ≤ q.length <;> simp [Nd.off, hs, hg, h2, hl]

theorem apart_take (n : Nd) (ok : Bool) : (n.Sent ok).Take = ((n.Take.1).Sent ok, n.Take.2) := by
  obtain ⟨q, fs, c, g⟩ := n
  unfold Nd.Sent Nd.Take Nd.off
  cases g with
  | nil => by_cases h : (c.s == 3 || q.isEmpty) = true <;> cases ok <;> simp [h]
  | cons f g => by_cases h : (c.s == 3 || q.isEmpty) = true <;> cases ok <;> simp [h]

theorem nodeApart_true (n : Nd) (f g : Fr) (ok : Bool) : ∃ σ', evI E1 6 [n.P, f.P, g.P, .d (.bool ok)] [] = some (.d (.bool true), σ') := by
  have h0 := b_head
  have e1 := b_great n
  have e2 := r_great f
  have e3 := r_great g
  cases c1 : n.great
  · rw [c1] at e1
    cases c2 : f.great
    · rw [c2] at e2
      cases c3 : g.great
      · rw [c3] at e3
        have hl := Nd.great_len c1
        have e4 := b_right n (by omega) (by omega) (by omega)
        cases c4 : n.right
        · rw [c4] at e4
          simp at e1 e2 e3 e4
          refine evI_ex (fn := Try.f6) 5 rfl Try.func6 rfl ?_
          simp [Try.f6, cellsOf, loadS, storeS, h0, e1, e2, e3, e4]
        · rw [c4] at e4
          have e5 := r_right f
          cases c5 : f.right
          · rw [c5] at e5
            simp at e1 e2 e3 e4 e5
            refine evI_ex (fn := Try.f6) 5 rfl Try.func6 rfl ?_
            simp [Try.f6, cellsOf, loadS, storeS, h0, e1, e2, e3, e4, e5]
          · rw [c5] at e5
            have e6 := r_right g
            cases c6 : g.right
            · rw [c6] at e6
              simp at e1 e2 e3 e4 e5 e6
              refine evI_ex (fn := Try.f6) 5 rfl Try.func6 rfl ?_
              simp [Try.f6, cellsOf, loadS, storeS, h0, e1, e2, e3, e4, e5, e6]
            · rw [c6] at e6
              cases c7 : n.off
              · obtain ⟨k1, k2, k3, k4, k5⟩ := Nd.right_len c4
                have hH := Nd.Heard_right c4 f c5 true false
                have hS := Nd.Send_right c4 g
                have hT := Nd.Take_right c4
                have hE := Nd.Sent_right c4 ok
                have e7 := b_Heard n f true false k3 k2 k4
                have e8 := b_Send (n.Heard f true false) g (Nd.right_len hH).1
                have e9 := b_Send n g k1
                obtain ⟨j1, j2, j3, j4, j5⟩ := Nd.right_len hS
                have e10 := b_Heard (n.Send g).1 f true false j3 j2 j4
                have e11 := b_Sent n ok k1 k5 k4
                have e12 := b_Take (n.Sent ok) (Nd.right_len hE).2.2.1
                have e13 := b_Take n k3
                obtain ⟨i1, i2, i3, i4, i5⟩ := Nd.right_len hT
                have e14 := b_Sent n.Take.1 ok i1 i5 i4
                obtain ⟨a1, a2, a3, _, _⟩ := Nd.right_len (Nd.Heard_right hS f c5 true false)
                have e15 := r_sameNd ((n.Send g).1.Heard f true false) a2 a1 a3
                obtain ⟨b1, b2, b3, _, _⟩ := Nd.right_len (Nd.Sent_right hT ok)
                have e16 := r_sameNd (n.Take.1.Sent ok) b2 b1 b3
                have e17 := r_same n.Take.2.1 n.Take.2.1
                rw [Fr.same_refl] at e17
                rw [apart_send c4 c7 f g c6] at e8
                rw [apart_take n ok] at e12
                have hs : (n.c.s == 3) = false := c7
                generalize (n.Send g).1.Heard f true false = A at e8 e10 e15
                generalize n.Heard f true false = B at e7 e8
                generalize (n.Send g).1 = C at e9 e10
                generalize (n.Send g).2 = d at e8 e9
                generalize n.Take.1.Sent ok = D at e12 e14 e16
                generalize n.Sent ok = F at e11 e12
                generalize n.Take.1 = G at e13 e14
                generalize n.Take.2.1 = p at e12 e13 e17
                generalize n.Take.2.2 = is at e12 e13
                simp [cellsOf] at e1 e2 e3 e4 e5 e6 e7 e8 e9 e10 e11 e12 e13 e14 e15 e16 e17
                refine evI_ex (fn := Try.f6) 5 rfl Try.func6 rfl ?_
                simp (maxSteps := 3000000) [Try.f6, cellsOf, loadS, storeS, h0, e1, e2, e3, e4, e5, e6, hs, e7, e8, e9, e10, e11, e12, e13, e14, e15, e16, e17]
              · have hs : (n.c.s == 3) = true := c7
                simp at e1 e2 e3 e4 e5 e6
                refine evI_ex (fn := Try.f6) 5 rfl Try.func6 rfl ?_
                simp [Try.f6, cellsOf, loadS, storeS, h0, e1, e2, e3, e4, e5, e6, hs]
      · rw [c3] at e3
        simp at e1 e2 e3
        refine evI_ex (fn := Try.f6) 5 rfl Try.func6 rfl ?_
        simp [Try.f6, cellsOf, loadS, storeS, h0, e1, e2, e3]
    · rw [c2] at e2
      simp at e1 e2
      refine evI_ex (fn := Try.f6) 5 rfl Try.func6 rfl ?_
      simp [Try.f6, cellsOf, loadS, storeS, h0, e1, e2]
  · rw [c1] at e1
    simp at e1
    refine evI_ex (fn := Try.f6) 5 rfl Try.func6 rfl ?_
    simp [Try.f6, cellsOf, loadS, storeS, h0, e1]

def nodeApart_types : List TypeId := [28, 35, 35, 4]
theorem nodeApart_args (ps : List PV) (h : OkArgs Try.prog 8 nodeApart_types ps) : ∃ σ', evI E1 6 ps [] = some (.d (.bool true), σ') := by
  obtain ⟨d1, _, h1, rfl, d2, _, h2, rfl, d3, _, h3, rfl, d4, _, h4, rfl, rfl⟩ := h
  obtain ⟨n, hn, _⟩ := ok_Nd (d := 3) h1
  obtain ⟨f, rfl, _⟩ := ok_Fr (d := 5) h2
  obtain ⟨g, rfl, _⟩ := ok_Fr (d := 5) h3
  obtain ⟨ok, rfl⟩ := ok_bool (d := 7) h4
  rw [hn, arg_Fr, arg_Fr, arg_bool]
  exact nodeApart_true n f g ok
end Go.Proofs

namespace Go.Proofs.Ytgojeifmkfpknaa.nodeApart
open Go.ChangeShapes Go.WideShapes Go.ChangeAt Go.RowKit Go.Pv
set_option linter.unusedVariables false
theorem own : ownKnob Try.prog.godebug = none := by kernel_rfl
theorem laidOut : laidOutB Try.prog = true := by kernel_rfl
set_option maxRecDepth 100000 in
theorem lifted (os : Os) (started : os.Started) (H : Type) (enc : TypeId × Value → H) :
    ReturnsInHanded {} Try.checked os 6 .any (Rows.nodeApartSpec.pre6 enc Try.prog Try.f6 Rows.nodeApartRow.domain false) (Rows.nodeApartSpec.post enc Try.prog Try.f6 false true false false) := by
  refine returnsInHanded_of_change_sized (C := Try.checked) own started (by kernel_rfl) Try.func6
    (ChangeSpec.witness6 (enc := enc) (C := Try.checked) false ⟨#[], #[.agg #[.slice none 0 0, .slice none 0 0, .int .i64 0, .int .i64 0, .int .i64 0, .int .i64 0, .slice none 0 0], .agg #[.bool false, .int .i64 0, .bool false, .int .i64 0, .slice none 0 0], .agg #[.bool false, .int .i64 0, .bool false, .int .i64 0, .slice none 0 0], .bool false], []⟩ 8 (by kernel_rfl) (by kernel_rfl) (by kernel_rfl) (by kernel_rfl)) ?_
  intro W base args ds gs before hval0 hW hcnd hsz0 _
  have hval : ∀ (j : Nat) t v, Try.f6.params[j]? = some t → args[j]? = some v → Value.okWide Try.prog W .any base t v := hval0
  have hW' := hW
  obtain ⟨p, q, hA0, hV, rfl, hfz, hnd⟩ := hW
  have hA : DataW.TrodAll enc Try.prog W 0 (fun _ => true) true Try.f6.params.toList args.toList ds p := hA0
  rw [Try.params6] at hA hval
  obtain ⟨v0, vs0, d0, ds0, p0, q0, hargs0, rfl, rfl, h0, r0⟩ := trodAll_cons hA
  obtain ⟨v1, vs1, d1, ds1, p1, q1, hargs1, rfl, rfl, h1, r1⟩ := trodAll_cons r0
  obtain ⟨v2, vs2, d2, ds2, p2, q2, hargs2, rfl, rfl, h2, r2⟩ := trodAll_cons r1
  obtain ⟨v3, vs3, d3, ds3, p3, q3, hargs3, rfl, rfl, h3, r3⟩ := trodAll_cons r2
  obtain ⟨hn1, rfl, rfl⟩ := trodAll_nil r3
  obtain ⟨rfl, rfl⟩ := trodVars_none hV
  refine (law_calls E1_ok (f := 6) (types := nodeApart_types) (depth := 8) (by kernel_rfl) nodeApart_args hA (fun j t v hj hv => hval j t v (by simpa [nodeApart_types] using hj) hv)).mono fun e W' ⟨he, bel⟩ => ?_
  subst he
  exact ⟨_, rfl, _, _, _, [], _, [], hW', trodAll_mk1 (shut_bool Try.underlying4 _), trodAll_below laidOut bel nodeApart_types _ _ _ (by kernel_rfl) hA, rfl, bel.frame _, fun h => by cases h⟩
theorem over : Rows.nodeApartRow.holds Try.pinned (OpenSpec.ofChange Rows.nodeApartSpec) :=
  OpenClaim.holds_of_wide 6 Try.f6 rfl rfl rfl rfl rfl rfl rfl ⟨rfl, rfl, rfl, rfl, rfl⟩ rfl rfl rfl rfl rfl (by kernel_rfl) Try.func6 (by kernel_rfl)
    (of_decide_eq_true (by kernel_rfl)) (by unfold Func.isWrapper; first | (rw [if_pos (by decide +kernel)]; kernel_rfl) | (rw [if_neg (by decide +kernel)]; exact ⟨rfl, rfl⟩))
    (fun os started H enc _ => lifted os started H enc)
end Go.Proofs.Ytgojeifmkfpknaa.nodeApart
namespace Go.Proofs.Ytgojeifmkfpknaa
theorem nodeApart_holds : Rows.NodeApartSaid := nodeApart.over
end Go.Proofs.Ytgojeifmkfpknaa
#print axioms Go.Proofs.Ytgojeifmkfpknaa.nodeApart_holds

