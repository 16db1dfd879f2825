/- NetStill: its call answers true; NetStill: the given statement, for every input: true, and each argument reads behind the call as it read before. -/
import Derived.Test.YtnnindnmpfmaaaaGreatPm
import Derived.Test.YtnnindnmpfmaaaaGreatRows
import Derived.WalkKit
import Derived.ProofKit
import Derived.OpenShut
import Derived.ShutString
import Derived.ChangeOld
import Derived.Below
import Derived.SizedLaws
set_option linter.unusedVariables false
set_option linter.unusedSimpArgs false
set_option maxRecDepth 100000
set_option maxHeartbeats 8000000
namespace Go.Proofs
open Go.RowKit Go.Shelf Go.Pv

theorem netStill_true (l : List (List Nd)) (r : List Rt) (room : Int) (a : List Act) (mo : Int) (hb : ∀ x ∈ l, bytesOk x) (ha : ∀ x ∈ a, byOk x.f.data) (hm : 0 ≤ mo ∧ mo ≤ 255) :
    ∃ σ', evI E1 12 [.d (.slice (l.map ndsD)), .d (.slice (r.map Rt.D)), .d (.int .i64 room), .d (.slice (a.map Act.D)), .d (.int .u8 mo)] [] = some (.d (.bool true), σ') := by
  refine evI_ex (fn := Tryz.f12) 1001 rfl Tryz.func12 rfl ?_
  have e0 := b_netHead
  have e1 := fun σ => b_great14 l r a σ
  cases hg : great14 l r a
  · rw [hg] at e1
    have e2 := fun σ => netNew_of (room := room) hg σ
    obtain ⟨_, _, g3, _, _⟩ := great14_no hg
    have hf := @fits_new l r room hb
    generalize Nt.New l r room = N0 at e2 hf
    obtain ⟨n, e⟩ := N0
    simp only at e2 hf
    by_cases he : e = 0
    · subst he
      obtain ⟨f0, _, _⟩ := hf rfl
      clear hf hg
      have hloop := l_sendsNetStill 1001 n f0 a ha (by omega)
      have f1 := (fits_sendsA a f0 ha).1
      generalize sendsA n a = A at hloop f1
      have hw : IntKind.i64.wrap mo = mo := wrap_ok (by omega) (by omega)
      have e3 := fun σ => b_netCalm A f1 mo σ
      have fB := (fits_calm f1 mo).1
      have k1 : (A.Calm mo).2 ≤ mo := by
        have h1 := calmF_le (most mo) A
        have h2 := most_u8 hm.1 (by omega : mo ≤ 10000)
        unfold Nt.Calm; simp only; omega
      have k0 : 0 ≤ (A.Calm mo).2 := by unfold Nt.Calm; simp only; omega
      have k2 : (A.Calm mo).2 < mo → (A.Calm mo).1.Still = true := by
        intro h
        have h2 := most_u8 hm.1 (by omega : mo ≤ 10000)
        unfold Nt.Calm at h ⊢
        simp only at h ⊢
        exact calmF_still _ _ (by omega)
      have k3 : (A.Calm mo).2 = 0 → (A.Calm mo).1 = A := by
        intro h
        unfold Nt.Calm at h ⊢
        simp only at h ⊢
        exact calmF_zero _ _ (by omega)
      generalize A.Calm mo = RB at e3 fB k0 k1 k2 k3
      obtain ⟨B, c⟩ := RB
      simp only at e3 fB k0 k1 k2 k3
      have e4 := fun σ => f_still fB σ
      have e5 := fun σ => b_netCalm B fB 3 σ
      have e6 := fun σ => b_netCalm B fB 0 σ
      have hz : B.Calm 0 = (B, 0) := rfl
      rw [hz] at e6
      have e7 := fun σ => r_sameN B fB.fine σ
      have hst : B.Still = true → B.Calm 3 = (B, 0) := by
        intro h
        unfold Nt.Calm
        rw [calmF_of_still _ h]; rfl
      have d1 : ¬ (c < 0) := by omega
      have d2 : ¬ (mo < c) := by omega
      have hC : (B.Still = true ∧ B.Calm 3 = (B, 0)) ∨ (B.Still = false ∧ ¬ c < mo) := by
        cases hs : B.Still
        · exact .inr ⟨rfl, fun h => by rw [k2 h] at hs; cases hs⟩
        · exact .inl ⟨rfl, hst hs⟩
      have hA : c ≠ 0 ∨ (c = 0 ∧ A = B) := by
        by_cases h : c = 0
        · exact .inr ⟨h, (k3 h).symm⟩
        · exact .inl h
      generalize a.map Act.D = a0 at e1 hloop ⊢
      generalize l.map ndsD = l0 at e1 e2 ⊢
      generalize r.map Rt.D = r0 at e1 e2 ⊢
      simp only [Nt.C, Nt.P] at e2 e3 e4 e5 e6 e7 hloop ⊢
      generalize n.bs.map ndsD = n0 at e2 hloop
      generalize n.g.rs.map Rt.D = n1 at e2 hloop
      generalize n.g.out.map frsD = n3 at e2 hloop
      generalize n.g.lost.map intD = n4 at e2 hloop
      clear f0 f1 fB k0 k1 k2 k3 hst hz
      generalize hB0 : B.bs.map ndsD = b0 at e3 e4 e5 e6 e7
      generalize hB1 : B.g.rs.map Rt.D = b1 at e3 e4 e5 e6 e7
      generalize hB2 : B.g.out.map frsD = b3 at e3 e4 e5 e6 e7
      generalize hB3 : B.g.lost.map intD = b4 at e3 e4 e5 e6 e7
      generalize hA0 : A.bs.map ndsD = x0 at e3 hloop
      generalize hA1 : A.g.rs.map Rt.D = x1 at e3 hloop
      generalize hA2 : A.g.out.map frsD = x3 at e3 hloop
      generalize hA3 : A.g.lost.map intD = x4 at e3 hloop
      try simp at e1
      try simp at e2
      try simp at e3
      try simp at e4
      try simp at e5
      try simp at e6
      try simp at e7
      simp [Tryz.f12, ec_loop, -loadS, -storeS, loadS_cons0, loadS_consS, storeS_cons0, storeS_consS, cellsOf, e0, e1, e2]
      generalize hLL : loopN _ _ _ = LL
      obtain ⟨r', rfl, S', rfl, hS', g1, g2, g3, g4⟩ := at_loop hLL (hloop _ rfl _ _ _ rfl rfl rfl rfl rfl rfl 1001 (by omega))
      simp at g2 g3 g4
      change rd S' 11 = _ at g2
      change rd S' 4 = _ at g3
      change rd S' 13 = _ at g4
      rcases hC with ⟨hs, hcs⟩ | ⟨hs, hcm⟩
      · rw [hcs] at e5
        try simp at e5
        rcases hA with hA | ⟨hA, rfl⟩
        · have d3 : (c == 0) = false := by simpa using hA
          by_cases hlt : c < mo
          · simp [-rd, rd_ne, rd_eq, -loadS, -storeS, loadS_cons0, loadS_consS, storeS_cons0, storeS_consS, cellsOf, conv_u8, hw, hS', g1, g2, g3, g4, e3, e4, e5, e6, e7, hs, d1, d2, d3, hlt, hB0, hB1, hB2, hB3]
            done
          · simp [-rd, rd_ne, rd_eq, -loadS, -storeS, loadS_cons0, loadS_consS, storeS_cons0, storeS_consS, cellsOf, conv_u8, hw, hS', g1, g2, g3, g4, e3, e4, e5, e6, e7, hs, d1, d2, d3, hlt, hB0, hB1, hB2, hB3]
            done
        · subst hA hA0 hA1 hA2 hA3
          rw [hB0, hB1, hB2, hB3] at e3
          by_cases hlt : 0 < mo
          · simp [-rd, rd_ne, rd_eq, -loadS, -storeS, loadS_cons0, loadS_consS, storeS_cons0, storeS_consS, cellsOf, conv_u8, hw, hS', g1, g2, g3, g4, e3, e4, e5, e6, e7, hs, d1, d2, hlt, hB0, hB1, hB2, hB3]
            done
          · simp [-rd, rd_ne, rd_eq, -loadS, -storeS, loadS_cons0, loadS_consS, storeS_cons0, storeS_consS, cellsOf, conv_u8, hw, hS', g1, g2, g3, g4, e3, e4, e5, e6, e7, hs, d1, d2, hlt, hB0, hB1, hB2, hB3]
            done
      · generalize B.Calm 3 = RC at e5
        obtain ⟨C, c3⟩ := RC
        try simp at e5
        rcases hA with hA | ⟨hA, rfl⟩
        · have d3 : (c == 0) = false := by simpa using hA
          simp [-rd, rd_ne, rd_eq, -loadS, -storeS, loadS_cons0, loadS_consS, storeS_cons0, storeS_consS, cellsOf, conv_u8, hw, hS', g1, g2, g3, g4, e3, e4, e5, e6, e7, hs, d1, d2, d3, hcm, hB0, hB1, hB2, hB3]
          done
        · subst hA hA0 hA1 hA2 hA3
          rw [hB0, hB1, hB2, hB3] at e3
          simp [-rd, rd_ne, rd_eq, -loadS, -storeS, loadS_cons0, loadS_consS, storeS_cons0, storeS_consS, cellsOf, conv_u8, hw, hS', g1, g2, g3, g4, e3, e4, e5, e6, e7, hs, d1, d2, hcm, hB0, hB1, hB2, hB3]
          done
    · have he2 : (e != 0) = true := by simpa using he
      clear hf
      generalize a.map Act.D = a0 at e1 ⊢
      generalize l.map ndsD = l0 at e1 e2 ⊢
      generalize r.map Rt.D = r0 at e1 e2 ⊢
      try simp at e1
      try simp at e2
      simp [Tryz.f12, ec_loop, -loadS, -storeS, loadS_cons0, loadS_consS, storeS_cons0, storeS_consS, cellsOf, e0, e1, e2, he2]
  · rw [hg] at e1
    generalize a.map Act.D = a0 at e1 ⊢
    generalize l.map ndsD = l0 at e1 ⊢
    generalize r.map Rt.D = r0 at e1 ⊢
    try simp at e1
    simp [Tryz.f12, ec_loop, -loadS, -storeS, e0, e1]
def netStill_types : List TypeId := [66, 63, 3, 86, 5]
theorem netStill_args (ps : List PV) (h : OkArgs Tryz.prog 8 netStill_types ps) : ∃ σ', evI E1 12 ps [] = some (.d (.bool true), σ') := by
  obtain ⟨d1, _, h1, rfl, d2, _, h2, rfl, d3, _, h3, rfl, d4, _, h4, rfl, d5, _, h5, rfl, rfl⟩ := h
  obtain ⟨l, rfl, hb⟩ := ok_Ndss (d := 1) h1
  obtain ⟨r, rfl, _⟩ := ok_Rts (d := 4) h2
  obtain ⟨room, rfl, _⟩ := ok_int (d := 7) h3
  obtain ⟨a, rfl, ha⟩ := ok_Acts (d := 3) h4
  obtain ⟨mo, rfl, hm⟩ := ok_u8 (d := 7) h5
  rw [arg_Ndss, arg_Rts, arg_int, arg_Acts, arg_u8n]
  exact netStill_true l r room a mo (fun x hx => (hb x hx).1) (fun x hx => Fr.wf_by (ha x hx).2.2.2.1) hm
end Go.Proofs

namespace Go.Proofs.YtnnindnmpfmaaaaGreat.netStill
open Go.ChangeShapes Go.WideShapes Go.ChangeAt Go.RowKit Go.Pv
set_option linter.unusedVariables false
theorem own : ownKnob Tryz.prog.godebug = none := by kernel_rfl
theorem laidOut : laidOutB Tryz.prog = true := by kernel_rfl
set_option maxRecDepth 100000 in
theorem lifted (os : Os) (started : os.Started) (H : Type) (enc : TypeId × Value → H) :
    ReturnsInHanded {} Tryz.checked os 12 .any (Rows.netStillSpec.pre6 enc Tryz.prog Tryz.f12 Rows.netStillRow.domain false) (Rows.netStillSpec.post enc Tryz.prog Tryz.f12 false true false false) := by
  refine returnsInHanded_of_change_sized (C := Tryz.checked) own started (by kernel_rfl) Tryz.func12
    (ChangeSpec.witness6 (enc := enc) (C := Tryz.checked) false ⟨#[], #[.slice none 0 0, .slice none 0 0, .int .i64 0, .slice none 0 0, .int .u8 0], []⟩ 8 (by kernel_rfl) (by kernel_rfl) (by kernel_rfl) (by kernel_rfl)) ?_
  intro W base args ds gs before hval0 hW hcnd hsz0 _
  have hval : ∀ (j : Nat) t v, Tryz.f12.params[j]? = some t → args[j]? = some v → Value.okWide Tryz.prog W .any base t v := hval0
  have hW' := hW
  obtain ⟨p, q, hA0, hV, rfl, hfz, hnd⟩ := hW
  have hA : DataW.TrodAll enc Tryz.prog W 0 (fun _ => true) true Tryz.f12.params.toList args.toList ds p := hA0
  rw [Tryz.params12] at hA hval
  obtain ⟨v0, vs0, d0, ds0, p0, q0, hargs0, rfl, rfl, h0, r0⟩ := trodAll_cons hA
  obtain ⟨v1, vs1, d1, ds1, p1, q1, hargs1, rfl, rfl, h1, r1⟩ := trodAll_cons r0
  obtain ⟨v2, vs2, d2, ds2, p2, q2, hargs2, rfl, rfl, h2, r2⟩ := trodAll_cons r1
  obtain ⟨v3, vs3, d3, ds3, p3, q3, hargs3, rfl, rfl, h3, r3⟩ := trodAll_cons r2
  obtain ⟨v4, vs4, d4, ds4, p4, q4, hargs4, rfl, rfl, h4, r4⟩ := trodAll_cons r3
  obtain ⟨hn1, rfl, rfl⟩ := trodAll_nil r4
  obtain ⟨rfl, rfl⟩ := trodVars_none hV
  refine (law_calls E1_ok (f := 12) (types := netStill_types) (depth := 8) (by kernel_rfl) netStill_args hA (fun j t v hj hv => hval j t v (by simpa [netStill_types] using hj) hv)).mono fun e W' ⟨he, bel⟩ => ?_
  subst he
  exact ⟨_, rfl, _, _, _, [], _, [], hW', trodAll_mk1 (shut_bool Tryz.underlying4 _), trodAll_below laidOut bel netStill_types _ _ _ (by kernel_rfl) hA, rfl, bel.frame _, fun h => by cases h⟩
theorem over : Rows.netStillRow.holds Tryz.pinned (OpenSpec.ofChange Rows.netStillSpec) :=
  OpenClaim.holds_of_wide 12 Tryz.f12 rfl rfl rfl rfl rfl rfl rfl ⟨rfl, rfl, rfl, rfl, rfl⟩ rfl rfl rfl rfl rfl (by kernel_rfl) Tryz.func12 (by kernel_rfl)
    (of_decide_eq_true (by kernel_rfl)) (by unfold Func.isWrapper; first | (rw [if_pos (by decide +kernel)]; kernel_rfl) | (rw [if_neg (by decide +kernel)]; exact ⟨rfl, rfl⟩))
    (fun os started H enc _ => lifted os started H enc)
end Go.Proofs.YtnnindnmpfmaaaaGreat.netStill
namespace Go.Proofs.YtnnindnmpfmaaaaGreat
theorem netStill_holds : Rows.NetStillSaid := netStill.over
end Go.Proofs.YtnnindnmpfmaaaaGreat
#print axioms Go.Proofs.YtnnindnmpfmaaaaGreat.netStill_holds

