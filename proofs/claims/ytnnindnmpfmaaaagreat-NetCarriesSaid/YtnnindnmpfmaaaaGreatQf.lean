/- NetCarries: its call answers true; NetCarries: the given statement, for every input: true, and each argument reads behind the call as it read before. -/
import Derived.Test.YtnnindnmpfmaaaaGreatRd
import Derived.Test.YtnnindnmpfmaaaaGreatRows
import Derived.WalkKit
import Derived.ProofKit
import Derived.OpenShut
import Derived.ShutString
import Derived.ChangeOld
import Derived.Below
import Derived.SizedLaws
set_option linter.unusedVariables false
set_option linter.unusedSimpArgs false
set_option maxRecDepth 100000
set_option maxHeartbeats 8000000
namespace Go.Proofs
open Go.RowKit Go.Shelf Go.Pv

theorem sizes_ok (many : List Int) : ∀ s ∈ sizesL many, 1 ≤ s ∧ s ≤ 7 := by
  intro s hs
  obtain ⟨x, _, rfl⟩ := List.mem_map.1 hs
  unfold size1
  have : x.toNat % 7 < 7 := Nat.mod_lt _ (by omega)
  omega
theorem netCarries_true (many : List Int) (rs : List Rt) (bus who : Int) (f : Fr) (hm : ∀ x ∈ many, 0 ≤ x ∧ x ≤ 255) (hwf : ∀ r ∈ rs, r.f.wf) (hbus : 0 ≤ bus ∧ bus ≤ 255) (hwho : 0 ≤ who ∧ who ≤ 255) (hby : byOk f.data) :
    ∃ σ', evI E1 10 [.d (.slice (many.map byD)), .d (.slice (rs.map Rt.D)), .d (.int .u8 bus), .d (.int .u8 who), f.P] [] = some (.d (.bool true), σ') := by
  refine evI_ex (fn := Tryz.f10) 1001 rfl Tryz.func10 rfl ?_
  have e0 := b_netHead
  have e1 := fun σ => r_great f σ
  have e2 := fun σ => r_right f σ
  have hml : (many.map byD).length = many.length := by simp
  have hmr : (rs.map Rt.D).length = rs.length := by simp
  by_cases hc : ¬ ((many.length : Int) < 1) ∧ ¬ (4 < (many.length : Int)) ∧ ¬ (16 < (rs.length : Int)) ∧ f.great = false ∧ f.right = true
  · obtain ⟨g1, g2, g3, g4, g5⟩ := hc
    rw [g4] at e1
    rw [g5] at e2
    have hsl : (sizesL many).length = many.length := by simp [sizesL]
    have hso := sizes_ok many
    have hloop := fun v1 v2 v3 v9 v11 => l_c0 1001 many (by omega) hm v1 v2 v3 v9 v11
    generalize sizesL many = sizes at hsl hso hloop
    have h0 : 1 ≤ sizes.length := by omega
    have h4 : sizes.length ≤ 4 := by omega
    have e3 := fun σ => b_fresh sizes (by omega) (fun n hn => by have := hso n hn; omega) σ
    have e4 := fun σ => b_netNew (freshL sizes) rs 64 (by
      intro x hx n hn
      obtain ⟨s, _, rfl⟩ := List.mem_map.1 hx
      unfold freshR at hn
      rw [List.mem_replicate] at hn
      rw [hn.2]; exact small_own0) (by omega) σ
    rw [carry_new h0 h4 hso] at e4
    by_cases hok : routesOk rs sizes.length = false
    · rw [if_pos hok] at e4
      simp only [nt0, gt0, Nt.P, List.map_nil] at e4
      generalize (freshL sizes).map ndsD = FL at e3 e4
      generalize sizes.map intD = ZS at e3 hloop
      generalize many.map byD = M at hml hloop ⊢
      generalize rs.map Rt.D = R at hmr e4 ⊢
      obtain ⟨fe, fid, frm, fln, fda⟩ := f
      simp only [Fr.P] at e1 e2 ⊢
      try simp at e1
      try simp at e2
      try simp at e4
      simp (maxSteps := 3000000) [Tryz.f10, ec_loop, -loadS, -storeS, loadS_cons0, loadS_consS, storeS_cons0, storeS_consS, cellsOf, hml, hmr, e0, e1, e2, g1, g2, g3]
      generalize hLL : loopN _ _ _ = LL
      obtain ⟨r', rfl, S', rfl, hS', k1, k2, k3, k9, k11, k12⟩ := at_loop hLL (hloop _ _ _ _ _ _ rfl rfl rfl rfl rfl rfl rfl rfl rfl _ 1001 (by omega))
      simp at k1 k2 k3 k9 k11
      change rd S' 1 = _ at k1
      change rd S' 2 = _ at k2
      change rd S' 3 = _ at k3
      change rd S' 9 = _ at k9
      change rd S' 11 = _ at k11
      simp [-rd, rd_ne, rd_eq, -loadS, -storeS, loadS_cons0, loadS_consS, storeS_cons0, storeS_consS, cellsOf, hS', k1, k2, k3, k9, k11, k12, e3, e4]
      done
    · rw [if_neg hok] at e4
      by_cases hlo : loopless rs sizes.length = false
      · rw [if_pos hlo] at e4
        simp only [nt0, gt0, Nt.P, List.map_nil] at e4
        generalize (freshL sizes).map ndsD = FL at e3 e4
        generalize sizes.map intD = ZS at e3 hloop
        generalize many.map byD = M at hml hloop ⊢
        generalize rs.map Rt.D = R at hmr e4 ⊢
        obtain ⟨fe, fid, frm, fln, fda⟩ := f
        simp only [Fr.P] at e1 e2 ⊢
        try simp at e1
        try simp at e2
        try simp at e4
        simp (maxSteps := 3000000) [Tryz.f10, ec_loop, -loadS, -storeS, loadS_cons0, loadS_consS, storeS_cons0, storeS_consS, cellsOf, hml, hmr, e0, e1, e2, g1, g2, g3]
        generalize hLL : loopN _ _ _ = LL
        obtain ⟨r', rfl, S', rfl, hS', k1, k2, k3, k9, k11, k12⟩ := at_loop hLL (hloop _ _ _ _ _ _ rfl rfl rfl rfl rfl rfl rfl rfl rfl _ 1001 (by omega))
        simp at k1 k2 k3 k9 k11
        change rd S' 1 = _ at k1
        change rd S' 2 = _ at k2
        change rd S' 3 = _ at k3
        change rd S' 9 = _ at k9
        change rd S' 11 = _ at k11
        simp [-rd, rd_ne, rd_eq, -loadS, -storeS, loadS_cons0, loadS_consS, storeS_cons0, storeS_consS, cellsOf, hS', k1, k2, k3, k9, k11, k12, e3, e4]
        done
      · rw [if_neg hlo] at e4
        have hok : routesOk rs sizes.length = true := by simpa using hok
        have hlo : loopless rs sizes.length = true := by simpa using hlo
        have ck : CK sizes rs := ⟨h0, h4, hso, hok, hlo⟩
        -- which bus, which node
        have hbm : bus.tmod (sizes.length : Int) = ((bus.toNat % sizes.length : Nat) : Int) := tmod8 hbus.1 _
        have hbl : bus.toNat % sizes.length < sizes.length := Nat.mod_lt _ (by omega)
        generalize bus.toNat % sizes.length = b at hbm hbl
        have hbr := fun (ty : TypeId) => bin_rem (P := Tryz.prog) (t := ty) (a := bus) (b := (sizes.length : Int)) (by omega)
        simp only [hbm] at hbr
        have hbw : IntKind.i64.wrap bus = bus := wrap_ok (by omega) (by omega)
        obtain ⟨hp1, hp7⟩ := sz_pos ck hbl
        have hsb : sizes[b] = (szK sizes b : Int) := by have := hso _ (List.getElem_mem hbl); rw [szK_at hbl]; omega
        have hZb : (sizes.map intD)[b]? = some [.int .i64 (szK sizes b)] := by simp [hbl, intD, hsb]
        have hwm : who.tmod (szK sizes b : Int) = ((who.toNat % szK sizes b : Nat) : Int) := tmod8 hwho.1 _
        have hwl : who.toNat % szK sizes b < szK sizes b := Nat.mod_lt _ (by omega)
        generalize who.toNat % szK sizes b = w at hwm hwl
        have hwr := fun (ty : TypeId) => bin_rem (P := Tryz.prog) (t := ty) (a := who) (b := (szK sizes b : Int)) (by omega)
        simp only [hwm] at hwr
        have hww : IntKind.i64.wrap who = who := wrap_ok (by omega) (by omega)
        -- sent, calmed
        have fK := netK_fits ck
        have e5 := fun σ => b_netSend (netK sizes rs) fK.ok.1 (b : Int) (w : Int) f σ
        rw [carry_send ck hbl hwl g5] at e5
        have hmst := sendK_mst ck hbl hwl g5 hby
        have e6 := fun σ => b_netCalm (sendK sizes rs b w f) hmst.fits 400 σ
        have f6 := (fits_calm hmst.fits 400).1
        have e7 := fun σ => f_still f6 σ
        have e8 := fun σ => r_Reach rs sizes.length hok hlo hwf b f σ
        have hmH : ((reachL rs b f).map Hp.D).length = (reachL rs b f).length := by simp
        have hcar := fun h => carry ck hbl hwl g5 hby h 400 (by omega)
        have hloop1 := fun hl => l_c1 1001 (by omega) (reachL rs b f) hl f b w sizes h4 (fun i hi => (sz_pos ck hi).2) (fun i hi => by have := hso _ (List.getElem_mem hi); rw [szK_at hi]; omega) _ _ rfl rfl (((sendK sizes rs b w f).Calm 400).1.bs.map ndsD)
        have hcond : (reachL rs b f).length ≤ 60 → ((sendK sizes rs b w f).Calm 400).1.Still = true ∧ ((sendK sizes rs b w f).Calm 400).2 < 400 ∧ ∀ i, i < sizes.length → ∃ R, (((sendK sizes rs b w f).Calm 400).1.bs.map ndsD)[i]? = some [.slice R] ∧ ∀ j, j < szK sizes i → ∃ x : Nd, R[j]? = some x.D ∧ x.g.length = (allL (reachL rs b f) f b w i j).length ∧ ∀ p, countF x.g p = countF (allL (reachL rs b f) f b w i j) p := by
          intro hl
          obtain ⟨L, m1, m2, m3, m4⟩ := hcar hl
          have hmo : most 400 = 400 := rfl
          unfold Nt.Calm
          rw [hmo]
          refine ⟨m2, by simp only; omega, fun i hi => ?_⟩
          simp only
          have hbl2 : (Nt.calmF 400 (sendK sizes rs b w f)).1.bs.length = sizes.length := by
            rw [(fits_calmF 400 hmst.fits).2.len, ← hmst.out]; simp [sendK, netK]
          have hib : i < (Nt.calmF 400 (sendK sizes rs b w f)).1.bs.length := by rw [hbl2]; exact hi
          refine ⟨(rw_ (Nt.calmF 400 (sendK sizes rs b w f)).1.bs i).map Nd.D, by rw [rw_get hib]; simp [hib, ndsD], fun j hj => ?_⟩
          have hrl := (m1.len i hib).1
          have hjl : j < (rw_ (Nt.calmF 400 (sendK sizes rs b w f)).1.bs i).length := by omega
          obtain ⟨n1, n2, n3⟩ := m1.node i j hib hj
          refine ⟨nd (rw_ (Nt.calmF 400 (sendK sizes rs b w f)).1.bs i) j, by rw [nd_get hjl]; simp [hjl], ?_, fun p => ?_⟩
          · rw [n3]; exact all_len ck m4 hj
          · rw [n3]; exact all_cnt ck m4 hj (fun x => x.same p)
        clear hcar f6 hmst fK hso
        generalize (sendK sizes rs b w f).Calm 400 = RC at e6 e7 hloop1 hcond
        obtain ⟨N, c⟩ := RC
        simp only at e6 e7 hloop1 hcond
        have hzl : (sizes.map intD).length = sizes.length := by simp
        generalize (freshL sizes).map ndsD = FL at e3 e4
        generalize sizes.map intD = ZS at e3 hloop hZb hloop1 hzl
        generalize many.map byD = M at hml hloop ⊢
        generalize rs.map Rt.D = R at hmr e4 e8 ⊢
        generalize (reachL rs b f).map Hp.D = HH at e8 hmH hloop1
        have hlenH := hcond
        generalize hrl : (reachL rs b f).length = hlen at hmH hcond hloop1
        obtain ⟨hz0, hZb⟩ := List.getElem?_eq_some_iff.1 hZb
        have hbI : (b : Int) < (sizes.length : Int) := by omega
        clear hok hlo hsb hlenH
        simp only [Nt.P] at e4 e5 e6 e7
        generalize hKb : (netK sizes rs).bs.map ndsD = kb at e4 e5
        generalize hKr : (netK sizes rs).g.rs.map Rt.D = kr at e4 e5
        generalize hKo : (netK sizes rs).g.out.map frsD = ko at e4 e5
        generalize hKl : (netK sizes rs).g.lost.map intD = kl at e4 e5
        generalize (sendK sizes rs b w f).bs.map ndsD = sb at e5 e6
        generalize (sendK sizes rs b w f).g.rs.map Rt.D = sr at e5 e6
        generalize (sendK sizes rs b w f).g.out.map frsD = so at e5 e6
        generalize (sendK sizes rs b w f).g.lost.map intD = sl at e5 e6
        generalize N.bs.map ndsD = nb at e6 e7 hcond hloop1
        generalize N.g.rs.map Rt.D = nr at e6 e7
        generalize N.g.out.map frsD = no at e6 e7
        generalize N.g.lost.map intD = nl at e6 e7
        have hcapK : (netK sizes rs).g.cap = 64 := rfl
        have hcapS : (sendK sizes rs b w f).g.cap = 64 := rfl
        rw [hcapK] at e4 e5
        rw [hcapS] at e5 e6
        by_cases hl : hlen ≤ 60
        · obtain ⟨x1, x2, x3⟩ := hcond hl
          rw [x1] at e7
          have x4 : ¬ (400 ≤ c) := by omega
          have x5 : ¬ (60 < (hlen : Int)) := by omega
          have hloop1 := hloop1 hl
          generalize hAL : (fun i j => allL (reachL rs b f) f b w i j) = AL
          obtain ⟨fe, fid, frm, fln, fda⟩ := f
          simp only [Fr.P, cellsOf] at e1 e2 e5 e8 hloop1 ⊢
          try simp at e1
          try simp at e2
          try simp at e3
          try simp at e4
          try simp at e5
          try simp at e6
          try simp at e7
          try simp at e8
          simp (maxSteps := 3000000) [Tryz.f10, ec_loop, -loadS, -storeS, loadS_cons0, loadS_consS, storeS_cons0, storeS_consS, cellsOf, hml, hmr, e0, e1, e2, g1, g2, g3]
          generalize hLL : loopN _ _ _ = LL
          obtain ⟨r', rfl, S', rfl, hS', k1, k2, k3, k9, k11, k12⟩ := at_loop hLL (hloop _ _ _ _ _ _ rfl rfl rfl rfl rfl rfl rfl rfl rfl _ 1001 (by omega))
          simp at k1 k2 k3 k9 k11
          change rd S' 1 = _ at k1
          change rd S' 2 = _ at k2
          change rd S' 3 = _ at k3
          change rd S' 9 = _ at k9
          change rd S' 11 = _ at k11
          simp (maxSteps := 3000000) [-rd, rd_ne, rd_eq, ec_loop, -loadS, -storeS, loadS_cons0, loadS_consS, storeS_cons0, storeS_consS, cellsOf, conv_u8, hbr, hbw, hwr, hww, hz0, hZb, hzl, hbl, hbI, hmH, hS', k1, k2, k3, k9, k11, k12, e3, e4, e5, e6, e7, e8, x4, x5]
          generalize hLL2 : loopN _ _ _ = LL2
          obtain ⟨r2, rfl, J2, S2, rfl, hS2, q11⟩ := at_loop hLL2 (hloop1 _ _ _ _ x3 _ (by simp [hS']) (by simp [-rd, rd_ne, rd_eq, hS', k9, k11, k12]) (by simp [-rd, rd_ne, rd_eq, hS']) [] 1001 (by omega))
          simp [-rd, rd_ne, rd_eq, hS2, q11]
        · have x5 : 60 < (hlen : Int) := by omega
          clear hcond hloop1
          generalize N.Still = nst at e7
          obtain ⟨fe, fid, frm, fln, fda⟩ := f
          simp only [Fr.P, cellsOf] at e1 e2 e5 e8 ⊢
          try simp at e1
          try simp at e2
          try simp at e3
          try simp at e4
          try simp at e5
          try simp at e6
          try simp at e7
          try simp at e8
          simp (maxSteps := 3000000) [Tryz.f10, ec_loop, -loadS, -storeS, loadS_cons0, loadS_consS, storeS_cons0, storeS_consS, cellsOf, hml, hmr, e0, e1, e2, g1, g2, g3]
          generalize hLL : loopN _ _ _ = LL
          obtain ⟨r', rfl, S', rfl, hS', k1, k2, k3, k9, k11, k12⟩ := at_loop hLL (hloop _ _ _ _ _ _ rfl rfl rfl rfl rfl rfl rfl rfl rfl _ 1001 (by omega))
          simp at k1 k2 k3 k9 k11
          change rd S' 1 = _ at k1
          change rd S' 2 = _ at k2
          change rd S' 3 = _ at k3
          change rd S' 9 = _ at k9
          change rd S' 11 = _ at k11
          simp (maxSteps := 3000000) [-rd, rd_ne, rd_eq, ec_loop, -loadS, -storeS, loadS_cons0, loadS_consS, storeS_cons0, storeS_consS, cellsOf, conv_u8, hbr, hbw, hwr, hww, hz0, hZb, hzl, hbl, hbI, hmH, hS', k1, k2, k3, k9, k11, k12, e3, e4, e5, e6, e7, e8, x5]
          done
  · generalize many.map byD = M at hml ⊢
    generalize rs.map Rt.D = R at hmr ⊢
    obtain ⟨fe, fid, frm, fln, fda⟩ := f
    try simp at e1
    try simp at e2
    by_cases c1 : (many.length : Int) < 1
    · simp (maxSteps := 3000000) [Tryz.f10, ec_loop, -loadS, -storeS, loadS_cons0, loadS_consS, storeS_cons0, storeS_consS, cellsOf, hml, hmr, e0, e1, e2, c1]
    · by_cases c2 : 4 < (many.length : Int)
      · simp (maxSteps := 3000000) [Tryz.f10, ec_loop, -loadS, -storeS, loadS_cons0, loadS_consS, storeS_cons0, storeS_consS, cellsOf, hml, hmr, e0, e1, e2, c1, c2]
      · by_cases c3 : 16 < (rs.length : Int)
        · simp (maxSteps := 3000000) [Tryz.f10, ec_loop, -loadS, -storeS, loadS_cons0, loadS_consS, storeS_cons0, storeS_consS, cellsOf, hml, hmr, e0, e1, e2, c1, c2, c3]
        · cases c4 : (Fr.mk fe fid frm fln fda).great
          · cases c5 : (Fr.mk fe fid frm fln fda).right
            · rw [c4] at e1
              rw [c5] at e2
              simp (maxSteps := 3000000) [Tryz.f10, ec_loop, -loadS, -storeS, loadS_cons0, loadS_consS, storeS_cons0, storeS_consS, cellsOf, hml, hmr, e0, e1, e2, c1, c2, c3]
            · exact absurd ⟨c1, c2, c3, c4, c5⟩ hc
          · rw [c4] at e1
            simp (maxSteps := 3000000) [Tryz.f10, ec_loop, -loadS, -storeS, loadS_cons0, loadS_consS, storeS_cons0, storeS_consS, cellsOf, hml, hmr, e0, e1, e2, c1, c2, c3]
def netCarries_types : List TypeId := [32, 63, 5, 5, 34]
theorem netCarries_args (ps : List PV) (h : OkArgs Tryz.prog 8 netCarries_types ps) : ∃ σ', evI E1 10 ps [] = some (.d (.bool true), σ') := by
  obtain ⟨d1, _, h1, rfl, d2, _, h2, rfl, d3, _, h3, rfl, d4, _, h4, rfl, d5, _, h5, rfl, rfl⟩ := h
  obtain ⟨many, rfl, _, hm⟩ := ok_bytes (d := 6) h1
  obtain ⟨rs, rfl, _, hrs⟩ := ok_Rts (d := 4) h2
  obtain ⟨bus, rfl, hbus⟩ := ok_u8 (d := 7) h3
  obtain ⟨who, rfl, hwho⟩ := ok_u8 (d := 7) h4
  obtain ⟨f, rfl, hf⟩ := ok_Fr (d := 5) h5
  have ha : argP Tryz.prog 32 [.slice (many.map byD)] = .d (.slice (many.map byD)) := by simp [argP]
  rw [ha, arg_Rts, arg_u8n, arg_u8n, arg_Fr]
  exact netCarries_true many rs bus who f hm (fun r hr => (hrs r hr).2.2.1) hbus hwho (Fr.wf_by hf)
end Go.Proofs

namespace Go.Proofs.YtnnindnmpfmaaaaGreat.netCarries
open Go.ChangeShapes Go.WideShapes Go.ChangeAt Go.RowKit Go.Pv
set_option linter.unusedVariables false
theorem own : ownKnob Tryz.prog.godebug = none := by kernel_rfl
theorem laidOut : laidOutB Tryz.prog = true := by kernel_rfl
set_option maxRecDepth 100000 in
theorem lifted (os : Os) (started : os.Started) (H : Type) (enc : TypeId × Value → H) :
    ReturnsInHanded {} Tryz.checked os 10 .any (Rows.netCarriesSpec.pre6 enc Tryz.prog Tryz.f10 Rows.netCarriesRow.domain false) (Rows.netCarriesSpec.post enc Tryz.prog Tryz.f10 false true false false) := by
  refine returnsInHanded_of_change_sized (C := Tryz.checked) own started (by kernel_rfl) Tryz.func10
    (ChangeSpec.witness6 (enc := enc) (C := Tryz.checked) false ⟨#[], #[.slice none 0 0, .slice none 0 0, .int .u8 0, .int .u8 0, .agg #[.bool false, .int .i64 0, .bool false, .int .i64 0, .slice none 0 0]], []⟩ 8 (by kernel_rfl) (by kernel_rfl) (by kernel_rfl) (by kernel_rfl)) ?_
  intro W base args ds gs before hval0 hW hcnd hsz0 _
  have hval : ∀ (j : Nat) t v, Tryz.f10.params[j]? = some t → args[j]? = some v → Value.okWide Tryz.prog W .any base t v := hval0
  have hW' := hW
  obtain ⟨p, q, hA0, hV, rfl, hfz, hnd⟩ := hW
  have hA : DataW.TrodAll enc Tryz.prog W 0 (fun _ => true) true Tryz.f10.params.toList args.toList ds p := hA0
  rw [Tryz.params10] at hA hval
  obtain ⟨v0, vs0, d0, ds0, p0, q0, hargs0, rfl, rfl, h0, r0⟩ := trodAll_cons hA
  obtain ⟨v1, vs1, d1, ds1, p1, q1, hargs1, rfl, rfl, h1, r1⟩ := trodAll_cons r0
  obtain ⟨v2, vs2, d2, ds2, p2, q2, hargs2, rfl, rfl, h2, r2⟩ := trodAll_cons r1
  obtain ⟨v3, vs3, d3, ds3, p3, q3, hargs3, rfl, rfl, h3, r3⟩ := trodAll_cons r2
  obtain ⟨v4, vs4, d4, ds4, p4, q4, hargs4, rfl, rfl, h4, r4⟩ := trodAll_cons r3
  obtain ⟨hn1, rfl, rfl⟩ := trodAll_nil r4
  obtain ⟨rfl, rfl⟩ := trodVars_none hV
  refine (law_calls E1_ok (f := 10) (types := netCarries_types) (depth := 8) (by kernel_rfl) netCarries_args hA (fun j t v hj hv => hval j t v (by simpa [netCarries_types] using hj) hv)).mono fun e W' ⟨he, bel⟩ => ?_
  subst he
  exact ⟨_, rfl, _, _, _, [], _, [], hW', trodAll_mk1 (shut_bool Tryz.underlying4 _), trodAll_below laidOut bel netCarries_types _ _ _ (by kernel_rfl) hA, rfl, bel.frame _, fun h => by cases h⟩
theorem over : Rows.netCarriesRow.holds Tryz.pinned (OpenSpec.ofChange Rows.netCarriesSpec) :=
  OpenClaim.holds_of_wide 10 Tryz.f10 rfl rfl rfl rfl rfl rfl rfl ⟨rfl, rfl, rfl, rfl, rfl⟩ rfl rfl rfl rfl rfl (by kernel_rfl) Tryz.func10 (by kernel_rfl)
    (of_decide_eq_true (by kernel_rfl)) (by unfold Func.isWrapper; first | (rw [if_pos (by decide +kernel)]; kernel_rfl) | (rw [if_neg (by decide +kernel)]; exact ⟨rfl, rfl⟩))
    (fun os started H enc _ => lifted os started H enc)
end Go.Proofs.YtnnindnmpfmaaaaGreat.netCarries
namespace Go.Proofs.YtnnindnmpfmaaaaGreat
theorem netCarries_holds : Rows.NetCarriesSaid := netCarries.over
end Go.Proofs.YtnnindnmpfmaaaaGreat
#print axioms Go.Proofs.YtnnindnmpfmaaaaGreat.netCarries_holds

