/- NetParts: its call answers true; NetParts: the given statement, for every input: true, and each argument reads behind the call as it read before. -/
import Derived.Test.YtnnindnmpfmaaaaGreatPm
import Derived.Test.YtnnindnmpfmaaaaGreatRows
import Derived.WalkKit
import Derived.ProofKit
import Derived.OpenShut
import Derived.ShutString
import Derived.ChangeOld
import Derived.Below
import Derived.SizedLaws
set_option linter.unusedVariables false
set_option linter.unusedSimpArgs false
set_option maxRecDepth 100000
set_option maxHeartbeats 8000000
namespace Go.Proofs
open Go.RowKit Go.Shelf Go.Pv

theorem netParts_true (l : List (List Nd)) (r : List Rt) (room : Int) (a : List Act) (fi se : Int) (hb : ∀ x ∈ l, bytesOk x) (ha : ∀ x ∈ a, byOk x.f.data) (hm : 0 ≤ fi ∧ fi ≤ 255) (hm2 : 0 ≤ se ∧ se ≤ 255) :
    ∃ σ', evI E1 13 [.d (.slice (l.map ndsD)), .d (.slice (r.map Rt.D)), .d (.int .i64 room), .d (.slice (a.map Act.D)), .d (.int .u8 fi), .d (.int .u8 se)] [] = some (.d (.bool true), σ') := by
  refine evI_ex (fn := Tryz.f13) 1001 rfl Tryz.func13 rfl ?_
  have e0 := b_netHead
  have e1 := fun σ => b_great14 l r a σ
  cases hg : great14 l r a
  · rw [hg] at e1
    have e2 := fun σ => netNew_of (room := room) hg σ
    obtain ⟨_, _, g3, _, _⟩ := great14_no hg
    have hf := @fits_new l r room hb
    generalize Nt.New l r room = N0 at e2 hf
    obtain ⟨n, e⟩ := N0
    simp only at e2 hf
    by_cases he : e = 0
    · subst he
      obtain ⟨f0, _, _⟩ := hf rfl
      clear hf hg
      have hloop := l_sendsNetParts 1001 n f0 a ha (by omega)
      have f1 := (fits_sendsA a f0 ha).1
      generalize sendsA n a = A at hloop f1
      have hp : Int.tmod fi 20 = ((fi.toNat % 20 : Nat) : Int) := tmod8 hm.1 20
      have hq : Int.tmod se 20 = ((se.toNat % 20 : Nat) : Int) := tmod8 hm2.1 20
      have hp20 : fi.toNat % 20 < 20 := by omega
      have hq20 : se.toNat % 20 < 20 := by omega
      generalize fi.toNat % 20 = p at hp hp20
      generalize se.toNat % 20 = q at hq hq20
      have w1 := fun (t : TypeId) => bin_rem8 (P := Tryz.prog) (t := t) (a := fi) (b := 20) (by omega)
      have w2 := fun (t : TypeId) => bin_rem8 (P := Tryz.prog) (t := t) (a := se) (b := 20) (by omega)
      simp only [hp] at w1
      simp only [hq] at w2
      have w3 : IntKind.i64.wrap (p : Int) = p := wrap_ok (by omega) (by omega)
      have w4 : IntKind.i64.wrap (q : Int) = q := wrap_ok (by omega) (by omega)
      have w5 : IntKind.i64.wrap ((p : Int) + q) = (p : Int) + q := wrap_ok (by omega) (by omega)
      have mp : most (p : Int) = p := by unfold most; omega
      have mq : most (q : Int) = q := by unfold most; omega
      have mpq : most ((p : Int) + q) = p + q := by unfold most; omega
      have hadd := calmF_add p q A
      have fX := (fits_calmF p f1).1
      have fY := (fits_calmF q fX).1
      have cp := calmF_le p A
      have cq := calmF_le q (Nt.calmF p A).1
      have e3 := fun σ => b_netCalm A f1 p σ
      have e4 := fun σ => b_netCalm (Nt.calmF p A).1 fX q σ
      have e5 := fun σ => b_netCalm A f1 ((p : Int) + q) σ
      have e6 := fun σ => r_sameN (Nt.calmF q (Nt.calmF p A).1).1 fY.fine σ
      unfold Nt.Calm at e3 e4 e5
      rw [mp] at e3
      rw [mq] at e4
      rw [mpq, hadd] at e5
      clear hadd fX fY mp mq mpq
      generalize Nt.calmF p A = RX at e3 e4 e5 e6 cp cq
      obtain ⟨X, cx⟩ := RX
      simp only at e3 e4 e5 e6 cp cq
      generalize Nt.calmF q X = RY at e4 e5 e6 cq
      obtain ⟨Y, cy⟩ := RY
      simp only at e4 e5 e6 cq
      have w6 : IntKind.i64.wrap ((cx : Int) + cy) = (cx : Int) + cy := wrap_ok (by omega) (by omega)
      rw [Int.natCast_add] at e5
      generalize a.map Act.D = a0 at e1 hloop ⊢
      generalize l.map ndsD = l0 at e1 e2 ⊢
      generalize r.map Rt.D = r0 at e1 e2 ⊢
      simp only [Nt.C, Nt.P] at e2 e3 e4 e5 e6 hloop ⊢
      generalize n.bs.map ndsD = n0 at e2 hloop
      generalize n.g.rs.map Rt.D = n1 at e2 hloop
      generalize n.g.out.map frsD = n3 at e2 hloop
      generalize n.g.lost.map intD = n4 at e2 hloop
      clear f0 f1
      generalize A.bs.map ndsD = b0 at e3 e5 hloop
      generalize A.g.rs.map Rt.D = b1 at e3 e5 hloop
      generalize A.g.out.map frsD = b3 at e3 e5 hloop
      generalize A.g.lost.map intD = b4 at e3 e5 hloop
      generalize X.bs.map ndsD = x0 at e3 e4
      generalize X.g.rs.map Rt.D = x1 at e3 e4
      generalize X.g.out.map frsD = x3 at e3 e4
      generalize X.g.lost.map intD = x4 at e3 e4
      generalize Y.bs.map ndsD = y0 at e4 e5 e6
      generalize Y.g.rs.map Rt.D = y1 at e4 e5 e6
      generalize Y.g.out.map frsD = y3 at e4 e5 e6
      generalize Y.g.lost.map intD = y4 at e4 e5 e6
      try simp at e1
      try simp at e2
      try simp at e3
      try simp at e4
      try simp at e5
      try simp at e6
      simp [Tryz.f13, ec_loop, -loadS, -storeS, loadS_cons0, loadS_consS, storeS_cons0, storeS_consS, cellsOf, e0, e1, e2]
      generalize hLL : loopN _ _ _ = LL
      obtain ⟨r', rfl, S', rfl, hS', g1, g2, g3, g4⟩ := at_loop hLL (hloop _ rfl _ _ _ rfl rfl rfl rfl rfl rfl 1001 (by omega))
      simp at g2 g3 g4
      change rd S' 13 = _ at g2
      change rd S' 4 = _ at g3
      change rd S' 5 = _ at g4
      simp [-rd, rd_ne, rd_eq, -loadS, -storeS, loadS_cons0, loadS_consS, storeS_cons0, storeS_consS, cellsOf, conv_u8, hp, hq, w1, w2, w3, w4, w5, w6, hS', g1, g2, g3, g4, e3, e4, e5, e6]
      done
    · have he2 : (e != 0) = true := by simpa using he
      clear hf
      generalize a.map Act.D = a0 at e1 ⊢
      generalize l.map ndsD = l0 at e1 e2 ⊢
      generalize r.map Rt.D = r0 at e1 e2 ⊢
      try simp at e1
      try simp at e2
      simp [Tryz.f13, ec_loop, -loadS, -storeS, loadS_cons0, loadS_consS, storeS_cons0, storeS_consS, cellsOf, e0, e1, e2, he2]
  · rw [hg] at e1
    generalize a.map Act.D = a0 at e1 ⊢
    generalize l.map ndsD = l0 at e1 ⊢
    generalize r.map Rt.D = r0 at e1 ⊢
    try simp at e1
    simp [Tryz.f13, ec_loop, -loadS, -storeS, e0, e1]
def netParts_types : List TypeId := [66, 63, 3, 86, 5, 5]
theorem netParts_args (ps : List PV) (h : OkArgs Tryz.prog 8 netParts_types ps) : ∃ σ', evI E1 13 ps [] = some (.d (.bool true), σ') := by
  obtain ⟨d1, _, h1, rfl, d2, _, h2, rfl, d3, _, h3, rfl, d4, _, h4, rfl, d5, _, h5, rfl, d6, _, h6, rfl, rfl⟩ := h
  obtain ⟨l, rfl, hb⟩ := ok_Ndss (d := 1) h1
  obtain ⟨r, rfl, _⟩ := ok_Rts (d := 4) h2
  obtain ⟨room, rfl, _⟩ := ok_int (d := 7) h3
  obtain ⟨a, rfl, ha⟩ := ok_Acts (d := 3) h4
  obtain ⟨fi, rfl, hm⟩ := ok_u8 (d := 7) h5
  obtain ⟨se, rfl, hm2⟩ := ok_u8 (d := 7) h6
  rw [arg_Ndss, arg_Rts, arg_int, arg_Acts, arg_u8n, arg_u8n]
  exact netParts_true l r room a fi se (fun x hx => (hb x hx).1) (fun x hx => Fr.wf_by (ha x hx).2.2.2.1) hm hm2
end Go.Proofs

namespace Go.Proofs.YtnnindnmpfmaaaaGreat.netParts
open Go.ChangeShapes Go.WideShapes Go.ChangeAt Go.RowKit Go.Pv
set_option linter.unusedVariables false
theorem own : ownKnob Tryz.prog.godebug = none := by kernel_rfl
theorem laidOut : laidOutB Tryz.prog = true := by kernel_rfl
set_option maxRecDepth 100000 in
theorem lifted (os : Os) (started : os.Started) (H : Type) (enc : TypeId × Value → H) :
    ReturnsInHanded {} Tryz.checked os 13 .any (Rows.netPartsSpec.pre6 enc Tryz.prog Tryz.f13 Rows.netPartsRow.domain false) (Rows.netPartsSpec.post enc Tryz.prog Tryz.f13 false true false false) := by
  refine returnsInHanded_of_change_sized (C := Tryz.checked) own started (by kernel_rfl) Tryz.func13
    (ChangeSpec.witness6 (enc := enc) (C := Tryz.checked) false ⟨#[], #[.slice none 0 0, .slice none 0 0, .int .i64 0, .slice none 0 0, .int .u8 0, .int .u8 0], []⟩ 8 (by kernel_rfl) (by kernel_rfl) (by kernel_rfl) (by kernel_rfl)) ?_
  intro W base args ds gs before hval0 hW hcnd hsz0 _
  have hval : ∀ (j : Nat) t v, Tryz.f13.params[j]? = some t → args[j]? = some v → Value.okWide Tryz.prog W .any base t v := hval0
  have hW' := hW
  obtain ⟨p, q, hA0, hV, rfl, hfz, hnd⟩ := hW
  have hA : DataW.TrodAll enc Tryz.prog W 0 (fun _ => true) true Tryz.f13.params.toList args.toList ds p := hA0
  rw [Tryz.params13] at hA hval
  obtain ⟨v0, vs0, d0, ds0, p0, q0, hargs0, rfl, rfl, h0, r0⟩ := trodAll_cons hA
  obtain ⟨v1, vs1, d1, ds1, p1, q1, hargs1, rfl, rfl, h1, r1⟩ := trodAll_cons r0
  obtain ⟨v2, vs2, d2, ds2, p2, q2, hargs2, rfl, rfl, h2, r2⟩ := trodAll_cons r1
  obtain ⟨v3, vs3, d3, ds3, p3, q3, hargs3, rfl, rfl, h3, r3⟩ := trodAll_cons r2
  obtain ⟨v4, vs4, d4, ds4, p4, q4, hargs4, rfl, rfl, h4, r4⟩ := trodAll_cons r3
  obtain ⟨v5, vs5, d5, ds5, p5, q5, hargs5, rfl, rfl, h5, r5⟩ := trodAll_cons r4
  obtain ⟨hn1, rfl, rfl⟩ := trodAll_nil r5
  obtain ⟨rfl, rfl⟩ := trodVars_none hV
  refine (law_calls E1_ok (f := 13) (types := netParts_types) (depth := 8) (by kernel_rfl) netParts_args hA (fun j t v hj hv => hval j t v (by simpa [netParts_types] using hj) hv)).mono fun e W' ⟨he, bel⟩ => ?_
  subst he
  exact ⟨_, rfl, _, _, _, [], _, [], hW', trodAll_mk1 (shut_bool Tryz.underlying4 _), trodAll_below laidOut bel netParts_types _ _ _ (by kernel_rfl) hA, rfl, bel.frame _, fun h => by cases h⟩
theorem over : Rows.netPartsRow.holds Tryz.pinned (OpenSpec.ofChange Rows.netPartsSpec) :=
  OpenClaim.holds_of_wide 13 Tryz.f13 rfl rfl rfl rfl rfl rfl rfl ⟨rfl, rfl, rfl, rfl, rfl⟩ rfl rfl rfl rfl rfl (by kernel_rfl) Tryz.func13 (by kernel_rfl)
    (of_decide_eq_true (by kernel_rfl)) (by unfold Func.isWrapper; first | (rw [if_pos (by decide +kernel)]; kernel_rfl) | (rw [if_neg (by decide +kernel)]; exact ⟨rfl, rfl⟩))
    (fun os started H enc _ => lifted os started H enc)
end Go.Proofs.YtnnindnmpfmaaaaGreat.netParts
namespace Go.Proofs.YtnnindnmpfmaaaaGreat
theorem netParts_holds : Rows.NetPartsSaid := netParts.over
end Go.Proofs.YtnnindnmpfmaaaaGreat
#print axioms Go.Proofs.YtnnindnmpfmaaaaGreat.netParts_holds

