/- NetFilters: its loops; NetFilters: its call answers true; NetFilters: the given statement, for every input: true, and each argument reads behind the call as it read before. -/
import Derived.Test.YtnnindnmpfmaaaaGreatPm
import Derived.Test.YtnnindnmpfmaaaaGreatPn
import Derived.Test.YtnnindnmpfmaaaaGreatRows
import Derived.WalkKit
import Derived.ProofKit
import Derived.OpenShut
import Derived.ShutString
import Derived.ChangeOld
import Derived.Below
import Derived.SizedLaws
set_option linter.unusedVariables false
set_option linter.unusedSimpArgs false
set_option maxRecDepth 100000
set_option maxHeartbeats 8000000
namespace Go.Proofs
open Go.RowKit Go.Shelf Go.Pv

theorem b_allFl8 (l : List Fl) (hl : ¬ ((l.length : Int) ≤ 8)) (σ : Store) : callIt E1 (evI E1) 119 [.d (.slice (l.map Fl.D)), .d (.int .i64 8), .func (.func 120) [] []] σ = some (.d (.bool false), σ) := by
  refine call_np (σ' := σ ++ [[.func (.func 120) [] []]]) rfl rfl rfl ?_ rfl rfl (by simp)
  refine evI_run (fn := Tryz.f119) 5 rfl Tryz.func119 rfl ?_
  simp [Tryz.f119, cellsOf, hl]
theorem b_newAny (l : List Fl) (σ : Store) : callIt E1 (evI E1) 56 [.d (.slice (l.map Fl.D))] σ = some (.tup [(ndNew l).1.P, .d (.int .i64 (ndNew l).2)], σ) := by
  by_cases hl : (l.length : Int) ≤ 8
  · exact b_new l (by omega) σ
  · refine call_run (fn := Tryz.f56) 5 rfl rfl rfl Tryz.func56 rfl rfl ?_ rfl
    have h1 := b_allFl8 l hl
    have hf : flsRight l = false := by unfold flsRight; simp; omega
    unfold ndNew
    rw [hf]
    simp [Tryz.f56, h1, nd0]
theorem ndNew_ok {l : List Fl} (h : flsRight l = true) : ndNew l = (fN l, 0) := by unfold ndNew; rw [h]; rfl
theorem ndNew_no {l : List Fl} (h : flsRight l = false) : ndNew l = (nd0, 1) := by unfold ndNew; rw [h]; rfl
theorem flsRight_len {l : List Fl} (h : flsRight l = true) : l.length ≤ 8 := by
  unfold flsRight at h
  rw [Bool.and_eq_true] at h
  have := of_decide_eq_true h.1
  omega
theorem fN_right {l : List Fl} (h : flsRight l = true) : (fN l).right = true := by
  unfold Nd.right fN
  simp only [h]
  rfl
theorem l_nf0 (m : Nat) (F : List PV) (t : List (List Fl)) (hl : t.length ≤ 7) (S : List PV) (hS : S.length = 143) (h0 : rd S 0 = .d (.slice (t.map flsD))) (v1 : PV) (h1 : rd S 1 = v1) (h5 : rd S 5 = .ptr 0 0) (h7 : rd S 7 = .d (.bool true)) (h8 : rd S 8 = .e0) (h9 : rd S 9 = .d (.int .i64 0)) (k : Nat) (hk : t.length < k) :
    Lp (loopN (evCode E1 (evI E1) m (theLoop Tryz.f15 0)) k ⟨S, [F]⟩) fun r => ∃ (J : Store) (S' : List PV), S'.length = 143 ∧ ((r = (.exit 0, ⟨S', F :: J⟩) ∧ rd S' 0 = .d (.slice (t.map flsD)) ∧ rd S' 1 = v1 ∧ rd S' 5 = .ptr 0 0 ∧ rd S' 7 = .d (.bool true) ∧ rd S' 8 = acc ((t.map fN).map Nd.D) ∧ ∀ fs ∈ t, flsRight fs = true) ∨ (r = (.ret, ⟨S', F :: J⟩) ∧ rd S' 6 = .d (.bool true))) := by
  have hml : (t.map flsD).length = t.length := by simp
  refine loop_inv (fun i st => ∃ (J : Store) (S : List PV), st = ⟨S, F :: J⟩ ∧ S.length = 143 ∧ rd S 0 = .d (.slice (t.map flsD)) ∧ rd S 1 = v1 ∧ rd S 5 = .ptr 0 0 ∧ rd S 7 = .d (.bool true) ∧ rd S 8 = acc (((t.take i).map fN).map Nd.D) ∧ rd S 9 = .d (.int .i64 i) ∧ ∀ fs ∈ t.take i, flsRight fs = true) _ t.length ?_ ?_ k 0 _ (by omega) (by omega) ⟨[], S, rfl, hS, h0, h1, h5, h7, h8, h9, by simp⟩
  · rintro i st hi ⟨J, S, rfl, hS, h0, h1, h5, h7, h8, h9, hall⟩
    have hlt : (i : Int) < (t.length : Int) := by omega
    have hx : (t.map flsD)[i]? = some (flsD t[i]) := by simp [hi]
    have hn := fun σ => b_newAny t[i] σ
    have htk : (t.take (i + 1)).map fN = (t.take i).map fN ++ [fN t[i]] := by rw [List.take_add_one, List.getElem?_eq_getElem hi, List.map_append]; rfl
    have hall' : flsRight t[i] = true → ∀ fs ∈ t.take (i + 1), flsRight fs = true := by
      intro h fs hfs
      rw [List.take_add_one, List.getElem?_eq_getElem hi] at hfs
      rcases List.mem_append.1 hfs with hfs | hfs
      · exact hall fs hfs
      · simp at hfs; subst hfs; exact h
    rw [htk]
    have happ : evAppend Tryz.prog 22 (acc (((t.take i).map fN).map Nd.D)) (.d (.slice [(fN t[i]).D])) = some (acc (((t.take i).map fN ++ [fN t[i]]).map Nd.D)) := by
      rw [appN _ _ (rowsOk_Nd _) rfl (by simp [roomB]; omega), List.map_append]
      rfl
    generalize ((t.take i).map fN ++ [fN t[i]]).map Nd.D = A1 at happ ⊢
    generalize ((t.take i).map fN).map Nd.D = A0 at happ h8
    generalize t[i] = fs at hx hn happ hall'
    cases hf : flsRight fs
    · rw [ndNew_no hf] at hn
      clear happ hall hall' htk
      simp only [flsD] at hx
      simp only [nd0, Nd.P, List.map_nil] at hn
      generalize fs.map Fl.D = FS at hx hn
      generalize t.map flsD = L at hx hml h0 ⊢
      obtain ⟨hi0, hx⟩ := List.getElem?_eq_some_iff.1 hx
      try simp at hn
      simp [theLoop, Tryz.f15, loopsAll, Lp_some, and_assoc, -rd, rd_ne, rd_eq, -loadS, -storeS, loadS_cons0, loadS_consS, storeS_cons0, storeS_consS, sfx_load0, sfx_load, sfx_store0, sfx_store, cellsOf, hS, h0, h1, h5, h7, h8, h9, hlt, hi, hi0, hml, hx, hn]
      refine ⟨_, _, ?_, rfl, rfl, ?_⟩ <;> simp [-rd, rd_ne, rd_eq, hS]
    · rw [ndNew_ok hf] at hn
      have hfl := flsRight_len hf
      have hall' := hall' hf
      have hml2 : (fs.map Fl.D).length = fs.length := by simp
      have h8' : ¬ (8 < (fs.length : Int)) := by omega
      simp only [flsD] at hx
      simp only [fN, c0, Nd.P, Nd.D, List.map_nil] at hn happ
      generalize fs.map Fl.D = FS at hx hn happ hml2
      generalize t.map flsD = L at hx hml h0 ⊢
      obtain ⟨hi0, hx⟩ := List.getElem?_eq_some_iff.1 hx
      try simp at hn
      clear htk hall
      simp [theLoop, Tryz.f15, loopsAll, Lp_some, and_assoc, -rd, rd_ne, rd_eq, -loadS, -storeS, loadS_cons0, loadS_consS, storeS_cons0, storeS_consS, sfx_load0, sfx_load, sfx_store0, sfx_store, cellsOf, rowsFrom, hS, h0, h1, h5, h7, h8, h9, hlt, hi, hi0, hml, hml2, h8', hx, hn, happ, wrap_succ i (by omega)]
      exact hall'
  · rintro st ⟨J, S, rfl, hS, h0, h1, h5, h7, h8, h9, hall⟩
    rw [List.take_length] at h8 hall
    generalize (t.map fN).map Nd.D = A at h8 ⊢
    generalize t.map flsD = L at hml h0 ⊢
    simp [theLoop, Tryz.f15, loopsAll, Lp_some, and_assoc, -rd, rd_ne, rd_eq, hS, h0, h1, h5, h7, h8, h9, hml]
    refine ⟨J, ⟨_, ?_, rfl, ?_⟩⟩ <;> simp [-rd, rd_ne, rd_eq, hS, h0, h1, h5, h7, h8]
    exact hall

theorem l_nf2 (m : Nat) (t : List (List Fl)) (hl : t.length ≤ 7) (hr : ∀ fs ∈ t, flsRight fs = true) (w : Nat) (f : Fr) (a1 a2 a3 a4 : PV) (J : Store) (S : List PV) (hS : S.length = 143) (h0 : rd S 0 = .d (.slice (t.map flsD))) (h5 : rd S 5 = .ptr 0 0) (h7 : rd S 7 = .d (.bool true)) (h12 : rd S 12 = .ptr (J.length + 1) 0) (h14 : rd S 14 = .d (.int .i64 w)) (h17 : rd S 17 = .d (.int .i64 0)) (k : Nat) (hk : t.length < k) :
    Lp (loopN (evCode E1 (evI E1) m (theLoop Tryz.f15 1)) k ⟨S, cellsOf f.P :: (J ++ [[.d (.slice ((netF3 t w f).bs.map ndsD)), a1, a2, a3, a4]])⟩) fun r => ∃ (J : Store) (S' : List PV), r = (.exit 2, ⟨S', J⟩) ∧ S'.length = 143 ∧ rd S' 7 = .d (.bool true) := by
  have hml : (t.map flsD).length = t.length := by simp
  have hB : (netF3 t w f).bs.map ndsD = [[.slice (((List.range t.length).map (fun i => (⟨[], t.getD i [], c0, gotF t w f i⟩ : Nd)) ++ [own0]).map Nd.D)]] := rfl
  rw [hB]
  have hys : ∀ i (hi : i < t.length), ((((List.range t.length).map (fun i => (⟨[], t.getD i [], c0, gotF t w f i⟩ : Nd)) ++ [own0]).map Nd.D))[i]? = some (Nd.D ⟨[], t[i], c0, gotF t w f i⟩) := by
    intro i hi
    rw [List.getElem?_map, List.getElem?_append_left (by simpa using hi)]
    simp [hi]
  generalize (((List.range t.length).map (fun i => (⟨[], t.getD i [], c0, gotF t w f i⟩ : Nd)) ++ [own0]).map Nd.D) = R at hys ⊢
  clear hB
  refine loop_inv (fun i st => ∃ (S : List PV), st = ⟨S, cellsOf f.P :: (J ++ [[.d (.slice [[.slice R]]), a1, a2, a3, a4]])⟩ ∧ S.length = 143 ∧ rd S 0 = .d (.slice (t.map flsD)) ∧ rd S 5 = .ptr 0 0 ∧ rd S 7 = .d (.bool true) ∧ rd S 12 = .ptr (J.length + 1) 0 ∧ rd S 14 = .d (.int .i64 w) ∧ rd S 17 = .d (.int .i64 i)) _ t.length ?_ ?_ k 0 _ (by omega) (by omega) ⟨S, rfl, hS, h0, h5, h7, h12, h14, h17⟩
  · rintro i st hi ⟨S, rfl, hS, h0, h5, h7, h12, h14, h17⟩
    have hlt : (i : Int) < (t.length : Int) := by omega
    have hx : (t.map flsD)[i]? = some (flsD t[i]) := by simp [hi]
    have hy := hys i hi
    have hfl := flsRight_len (hr _ (List.getElem_mem hi))
    have c1 := fun σ => r_any t[i] f (by omega) σ
    have hg : gotF t w f i = if i = w then [] else if anyF t[i] f then [f] else [] := by unfold gotF; simp [List.getD, hi]
    clear hys
    generalize gotF t w f i = gt at hg hy
    generalize t[i] = fs at hx hy c1 hg
    simp only [flsD] at hx
    simp only [Nd.D, c0, List.map_nil] at hy
    have hmg : (gt.map Fr.D).length = gt.length := by simp
    generalize fs.map Fl.D = FS at hx hy c1
    generalize gt.map Fr.D = G at hy hmg
    generalize t.map flsD = L at hx hml h0 ⊢
    obtain ⟨hi0, hx⟩ := List.getElem?_eq_some_iff.1 hx
    obtain ⟨hi1, hy⟩ := List.getElem?_eq_some_iff.1 hy
    obtain ⟨fe, fid, frm, fln, fda⟩ := f
    try simp at c1
    by_cases hw : i = w
    · rw [if_pos hw] at hg
      have hz : (gt.length : Int) = 0 := by rw [hg]; rfl
      have hwI : ((i : Int) == (w : Int)) = true := by simp [hw]
      have hwN : ((i : Int) != (w : Int)) = false := by simp [hw]
      simp [theLoop, Tryz.f15, loopsAll, Lp_some, and_assoc, -rd, rd_ne, rd_eq, -loadS, -storeS, loadS_cons0, loadS_consS, sfx_load0, sfx_load, cellsOf, hS, h0, h5, h7, h12, h14, h17, hlt, hi, hi0, hi1, hml, hmg, hx, hy, hz, hwI, hwN, c1, wrap_succ i (by omega)]
      done
    · rw [if_neg hw] at hg
      have hwI : ((i : Int) == (w : Int)) = false := by simp; omega
      have hwN : ((i : Int) != (w : Int)) = true := by simp; omega
      cases hz : anyF fs ⟨fe, fid, frm, fln, fda⟩
      · rw [hz] at hg c1
        have hz : (gt.length : Int) = 0 := by rw [hg]; rfl
        simp [theLoop, Tryz.f15, loopsAll, Lp_some, and_assoc, -rd, rd_ne, rd_eq, -loadS, -storeS, loadS_cons0, loadS_consS, sfx_load0, sfx_load, cellsOf, hS, h0, h5, h7, h12, h14, h17, hlt, hi, hi0, hi1, hml, hmg, hx, hy, hz, hwI, hwN, c1, wrap_succ i (by omega)]
        done
      · rw [hz] at hg c1
        have hz : (gt.length : Int) = 1 := by rw [hg]; rfl
        simp [theLoop, Tryz.f15, loopsAll, Lp_some, and_assoc, -rd, rd_ne, rd_eq, -loadS, -storeS, loadS_cons0, loadS_consS, sfx_load0, sfx_load, cellsOf, hS, h0, h5, h7, h12, h14, h17, hlt, hi, hi0, hi1, hml, hmg, hx, hy, hz, hwI, hwN, c1, wrap_succ i (by omega)]
        done
  · rintro st ⟨S, rfl, hS, h0, h5, h7, h12, h14, h17⟩
    generalize t.map flsD = L at hml h0 ⊢
    simp [theLoop, Tryz.f15, loopsAll, Lp_some, and_assoc, -rd, rd_ne, rd_eq, hS, h0, h5, h7, h12, h14, h17, hml]
    done

end Go.Proofs

set_option linter.unusedVariables false
set_option linter.unusedSimpArgs false
set_option maxRecDepth 100000
set_option maxHeartbeats 8000000
namespace Go.Proofs
open Go.RowKit Go.Shelf Go.Pv

theorem netFilters_true (t : List (List Fl)) (who : Int) (f : Fr) (hw : 0 ≤ who ∧ who ≤ 255) (hb : byOk f.data) :
    ∃ σ', evI E1 15 [.d (.slice (t.map flsD)), .d (.int .u8 who), f.P] [] = some (.d (.bool true), σ') := by
  refine evI_ex (fn := Tryz.f15) 1001 rfl Tryz.func15 rfl ?_
  have e0 := b_netHead
  have e1 := fun σ => r_great f σ
  have e2 := fun σ => r_right f σ
  have hml : (t.map flsD).length = t.length := by simp
  by_cases hc : ¬ ((t.length : Int) < 2) ∧ ¬ (7 < (t.length : Int)) ∧ f.great = false ∧ f.right = true
  · obtain ⟨c1, c2, c3, c4⟩ := hc
    rw [c3] at e1
    rw [c4] at e2
    have hloop := l_nf0 1001 (cellsOf f.P) t (by omega)
    have hmod : who.tmod (t.length : Int) = ((who.toNat % t.length : Nat) : Int) := tmod8 hw.1 _
    have hwlt : who.toNat % t.length < t.length := Nat.mod_lt _ (by omega)
    generalize who.toNat % t.length = w at hmod hwlt
    have hloop2 := fun hr => l_nf2 1001 t (by omega) hr w f
    have hrem := fun (ty : TypeId) => bin_rem (P := Tryz.prog) (t := ty) (a := who) (b := (t.length : Int)) (by omega)
    simp only [hmod] at hrem
    have hwr : IntKind.i64.wrap who = who := wrap_ok (by omega) (by omega)
    have hgo : (∀ fs ∈ t, flsRight fs = true) → (∀ σ, callIt E1 (evI E1) 38 [.d (.slice [[.slice ((t.map fN).map Nd.D)]]), .d (.slice []), .d (.int .i64 1)] σ = some (.tup [(netF1 t).P, .d (.int .i64 0)], σ)) ∧ (∀ σ, callIt E1 (evI E1) 47 [(netF1 t).P, .d (.int .i64 0), .d (.int .i64 w), f.P] σ = some (.tup [(netF2 t w f).P, .d (.int .i64 0)], σ)) ∧ (∀ σ, callIt E1 (evI E1) 41 [(netF2 t w f).P, .d (.int .i64 5)] σ = some (.tup [(netF3 t w f).P, .d (.int .i64 1)], σ)) := by
      intro hr
      have hnew := filt_new (t := t) (by omega) (by omega) (fun fs hfs => fN_right (hr fs hfs))
      have k1 := fun σ => b_netNew [t.map fN] [] 1 (by
        intro x hx n hn
        simp at hx
        subst hx
        obtain ⟨fs, hfs, rfl⟩ := List.mem_map.1 hn
        have := flsRight_len (hr fs hfs)
        exact ⟨by simp [fN], by simp [fN], by simp [fN]; omega⟩) (by simp) σ
      have f1 := (fits_new (l := [t.map fN]) (r := []) (room := 1) (by
        intro x hx n hn g hg
        simp at hx
        subst hx
        obtain ⟨fs, hfs, rfl⟩ := List.mem_map.1 hn
        simp [fN] at hg) (by rw [hnew])).1
      rw [hnew] at k1 f1
      have k2 := fun σ => b_netSend (netF1 t) f1.ok.1 0 (w : Int) f σ
      have f2 := (fits_send f1 0 (w : Int) hb).1
      rw [filt_send hwlt c4] at k2 f2
      have k3 := fun σ => b_netCalm (netF2 t w f) f2 5 σ
      rw [filt_calm hwlt] at k3
      exact ⟨k1, k2, k3⟩
    generalize hN3 : (netF3 t w f).bs.map ndsD = n3 at hloop2
    have hP3 : (netF3 t w f).P = .agg [.d (.slice n3), .d (.slice []), .d (.int .i64 1), .d (.slice [[.slice []]]), .d (.slice [[.int .i64 0]])] := by rw [← hN3]; rfl
    have hP1 : (netF1 t).P = .agg [.d (.slice ((netF1 t).bs.map ndsD)), .d (.slice []), .d (.int .i64 1), .d (.slice [[.slice []]]), .d (.slice [[.int .i64 0]])] := rfl
    have hP2 : (netF2 t w f).P = .agg [.d (.slice ((netF2 t w f).bs.map ndsD)), .d (.slice []), .d (.int .i64 1), .d (.slice [[.slice []]]), .d (.slice [[.int .i64 0]])] := rfl
    rw [hP1, hP2, hP3] at hgo
    generalize (netF1 t).bs.map ndsD = n1 at hgo
    generalize (netF2 t w f).bs.map ndsD = n2 at hgo
    clear hP1 hP2 hP3 hN3
    generalize (t.map fN).map Nd.D = A at hgo hloop
    generalize t.map flsD = L at hml hloop hloop2 ⊢
    obtain ⟨fe, fid, frm, fln, fda⟩ := f
    simp only [Fr.P, cellsOf] at e1 e2 hgo hloop hloop2 ⊢
    try simp at e1
    try simp at e2
    simp [Tryz.f15, ec_loop, -loadS, -storeS, loadS_cons0, loadS_consS, storeS_cons0, storeS_consS, cellsOf, hml, e0, e1, e2, c1, c2]
    generalize hLL : loopN _ _ _ = LL
    obtain ⟨r', rfl, J', S', hS', hr⟩ := at_loop hLL (hloop _ rfl rfl _ rfl rfl rfl rfl rfl 1001 (by omega))
    rcases hr with ⟨rfl, g0, g1, g5, g7, g8, hr⟩ | ⟨rfl, g6⟩
    · obtain ⟨k1, k2, k3⟩ := hgo hr
      have hloop2 := hloop2 hr
      simp at g1
      change rd S' 1 = _ at g1
      try simp at k1
      try simp at k2
      try simp at k3
      simp [-rd, rd_ne, rd_eq, -loadS, -storeS, loadS_cons0, loadS_consS, storeS_cons0, storeS_consS, sfx_load0, sfx_load, sfx_store0, sfx_store, cellsOf, rowsFrom, ec_loop, conv_u8, hwr, hrem, hml, hS', g0, g1, g5, g7, g8, k1, k2, k3]
      generalize hLL2 : loopN _ _ _ = LL2
      obtain ⟨r2, rfl, J2, S2, rfl, hS2, q7⟩ := at_loop hLL2 (hloop2 _ _ _ _ J' _ (by simp [hS']) (by simp [-rd, rd_ne, rd_eq, hS', g0]) (by simp [-rd, rd_ne, rd_eq, hS', g5]) (by simp [-rd, rd_ne, rd_eq, hS', g7]) (by simp [-rd, rd_ne, rd_eq, hS']) (by simp [-rd, rd_ne, rd_eq, hS']) (by simp [-rd, rd_ne, rd_eq, hS']) 1001 (by omega))
      simp [-rd, rd_ne, rd_eq, hS2, q7]
    · simp [-rd, rd_ne, rd_eq, hS', g6, rd_el g6 (by omega)]
  · generalize t.map flsD = L at hml ⊢
    obtain ⟨fe, fid, frm, fln, fda⟩ := f
    try simp at e1
    try simp at e2
    by_cases c1 : (t.length : Int) < 2
    · simp [Tryz.f15, ec_loop, -loadS, -storeS, loadS_cons0, loadS_consS, storeS_cons0, storeS_consS, cellsOf, hml, e0, e1, e2, c1]
    · by_cases c2 : 7 < (t.length : Int)
      · simp [Tryz.f15, ec_loop, -loadS, -storeS, loadS_cons0, loadS_consS, storeS_cons0, storeS_consS, cellsOf, hml, e0, e1, e2, c1, c2]
      · cases c3 : (Fr.mk fe fid frm fln fda).great
        · cases c4 : (Fr.mk fe fid frm fln fda).right
          · rw [c3] at e1
            rw [c4] at e2
            simp [Tryz.f15, ec_loop, -loadS, -storeS, loadS_cons0, loadS_consS, storeS_cons0, storeS_consS, cellsOf, hml, e0, e1, e2, c1, c2]
          · exact absurd ⟨c1, c2, c3, c4⟩ hc
        · rw [c3] at e1
          simp [Tryz.f15, ec_loop, -loadS, -storeS, loadS_cons0, loadS_consS, storeS_cons0, storeS_consS, cellsOf, hml, e0, e1, e2, c1, c2]
def netFilters_types : List TypeId := [67, 5, 34]
theorem netFilters_args (ps : List PV) (h : OkArgs Tryz.prog 8 netFilters_types ps) : ∃ σ', evI E1 15 ps [] = some (.d (.bool true), σ') := by
  obtain ⟨d1, _, h1, rfl, d2, _, h2, rfl, d3, _, h3, rfl, rfl⟩ := h
  obtain ⟨t, rfl, _⟩ := ok_Flss (d := 4) h1
  obtain ⟨who, rfl, hw⟩ := ok_u8 (d := 7) h2
  obtain ⟨f, rfl, hf⟩ := ok_Fr (d := 5) h3
  rw [arg_Flss, arg_u8n, arg_Fr]
  exact netFilters_true t who f hw (Fr.wf_by hf)
end Go.Proofs

namespace Go.Proofs.YtnnindnmpfmaaaaGreat.netFilters
open Go.ChangeShapes Go.WideShapes Go.ChangeAt Go.RowKit Go.Pv
set_option linter.unusedVariables false
theorem own : ownKnob Tryz.prog.godebug = none := by kernel_rfl
theorem laidOut : laidOutB Tryz.prog = true := by kernel_rfl
set_option maxRecDepth 100000 in
theorem lifted (os : Os) (started : os.Started) (H : Type) (enc : TypeId × Value → H) :
    ReturnsInHanded {} Tryz.checked os 15 .any (Rows.netFiltersSpec.pre6 enc Tryz.prog Tryz.f15 Rows.netFiltersRow.domain false) (Rows.netFiltersSpec.post enc Tryz.prog Tryz.f15 false true false false) := by
  refine returnsInHanded_of_change_sized (C := Tryz.checked) own started (by kernel_rfl) Tryz.func15
    (ChangeSpec.witness6 (enc := enc) (C := Tryz.checked) false ⟨#[], #[.slice none 0 0, .int .u8 0, .agg #[.bool false, .int .i64 0, .bool false, .int .i64 0, .slice none 0 0]], []⟩ 8 (by kernel_rfl) (by kernel_rfl) (by kernel_rfl) (by kernel_rfl)) ?_
  intro W base args ds gs before hval0 hW hcnd hsz0 _
  have hval : ∀ (j : Nat) t v, Tryz.f15.params[j]? = some t → args[j]? = some v → Value.okWide Tryz.prog W .any base t v := hval0
  have hW' := hW
  obtain ⟨p, q, hA0, hV, rfl, hfz, hnd⟩ := hW
  have hA : DataW.TrodAll enc Tryz.prog W 0 (fun _ => true) true Tryz.f15.params.toList args.toList ds p := hA0
  rw [Tryz.params15] at hA hval
  obtain ⟨v0, vs0, d0, ds0, p0, q0, hargs0, rfl, rfl, h0, r0⟩ := trodAll_cons hA
  obtain ⟨v1, vs1, d1, ds1, p1, q1, hargs1, rfl, rfl, h1, r1⟩ := trodAll_cons r0
  obtain ⟨v2, vs2, d2, ds2, p2, q2, hargs2, rfl, rfl, h2, r2⟩ := trodAll_cons r1
  obtain ⟨hn1, rfl, rfl⟩ := trodAll_nil r2
  obtain ⟨rfl, rfl⟩ := trodVars_none hV
  refine (law_calls E1_ok (f := 15) (types := netFilters_types) (depth := 8) (by kernel_rfl) netFilters_args hA (fun j t v hj hv => hval j t v (by simpa [netFilters_types] using hj) hv)).mono fun e W' ⟨he, bel⟩ => ?_
  subst he
  exact ⟨_, rfl, _, _, _, [], _, [], hW', trodAll_mk1 (shut_bool Tryz.underlying4 _), trodAll_below laidOut bel netFilters_types _ _ _ (by kernel_rfl) hA, rfl, bel.frame _, fun h => by cases h⟩
theorem over : Rows.netFiltersRow.holds Tryz.pinned (OpenSpec.ofChange Rows.netFiltersSpec) :=
  OpenClaim.holds_of_wide 15 Tryz.f15 rfl rfl rfl rfl rfl rfl rfl ⟨rfl, rfl, rfl, rfl, rfl⟩ rfl rfl rfl rfl rfl (by kernel_rfl) Tryz.func15 (by kernel_rfl)
    (of_decide_eq_true (by kernel_rfl)) (by unfold Func.isWrapper; first | (rw [if_pos (by decide +kernel)]; kernel_rfl) | (rw [if_neg (by decide +kernel)]; exact ⟨rfl, rfl⟩))
    (fun os started H enc _ => lifted os started H enc)
end Go.Proofs.YtnnindnmpfmaaaaGreat.netFilters
namespace Go.Proofs.YtnnindnmpfmaaaaGreat
theorem netFilters_holds : Rows.NetFiltersSaid := netFilters.over
end Go.Proofs.YtnnindnmpfmaaaaGreat
#print axioms Go.Proofs.YtnnindnmpfmaaaaGreat.netFilters_holds

