/- A net calmed, by the code; The law of nets: rows of fresh nodes. -/
import Derived.Test.YtnnindnmpfmaaaaGreatPg
import Derived.Test.YtnnindnmpfmaaaaGreatPc
import Derived.Test.YtnnindnmpfmaaaaGreatPf
import Derived.Test.YtnnindnmpfmaaaaGreatPb
set_option linter.unusedVariables false
set_option linter.unusedSimpArgs false
set_option maxRecDepth 100000
set_option maxHeartbeats 8000000
namespace Go.Proofs
open Go.RowKit Go.Shelf Go.Pv

theorem Nt.fits.ok {n : Nt} (h : n.fits) : n.ok ∧ n.g.out.length ≤ 1000 ∧ (∀ r ∈ n.g.out, r.length ≤ 100000) := by
  refine ⟨⟨by have := h.few; omega, fun r hr => by have := (h.rows r hr).2.1; omega, fun r hr x hx => ?_⟩, by have := h.gt.n; omega, fun r hr => by have := h.gt.row r hr; omega⟩
  have := (Nd.right_iff x).1 ((h.rows r hr).2.2.1 x hx)
  omega
theorem f_still {n : Nt} (h : n.fits) (σ : Store) : callIt E1 (evI E1) 40 [n.P] σ = some (.d (.bool n.Still), σ) := by
  obtain ⟨h1, h2, h3⟩ := h.ok
  exact b_netStill n h1 h2 h3 σ
theorem f_slot {n : Nt} (h : n.fits) {k : Nat} (hk : k < n.bs.length) (who : List Int) (hw : who.length ≤ 1000000) (σ : Store) :
    callIt E1 (evI E1) 39 [n.P, .d (.int .i64 k), .agg [.d (.slice (who.map intD))]] σ = some (.tup [(n.Slot k who).1.P, (n.Slot k who).2.P], σ) := by
  have hm := h.mem hk
  obtain ⟨h0, h1, h2, h3⟩ := h.rows _ hm
  obtain ⟨r1, r2⟩ := row1_fit h.tofit hk
  exact b_netSlot n k who hk (by have := h.few; omega) h.gt h0 (by omega) r1.good r2 hw (by have := (fits_got h hk who).1; omega) σ
theorem Nt.P_C (n : Nt) : n.P = .agg (Nt.C n.bs n.g) := rfl

theorem l_netRound (m : Nat) (n : Nt) (h : n.fits) (X : List PV) (v1 v10 v11 : PV) (S : List PV) (hS : S.length = 37) (h1 : rd S 1 = v1) (h2 : rd S 2 = .ptr 0 0) (h4 : rd S 4 = .ptr 1 0) (h10 : rd S 10 = v10) (h11 : rd S 11 = v11)
    (h20 : rd S 20 = .d (.int .i64 n.bs.length)) (h21 : rd S 21 = .d (.int .i64 0)) (k : Nat) (hk : n.bs.length < k) :
    Lp (loopN (evCode E1 (evI E1) m (theLoop Tryz.f41 1)) k ⟨S, [Nt.C n.bs n.g, X]⟩) fun r => ∃ (S' : List PV), r = (.exit 2, ⟨S', [Nt.C n.round.bs n.round.g, X]⟩) ∧ S'.length = 37 ∧ rd S' 1 = v1 ∧ rd S' 2 = .ptr 0 0 ∧ rd S' 4 = .ptr 1 0 ∧ rd S' 10 = v10 ∧ rd S' 11 = v11 := by
  have hfew := h.few
  refine loop_inv (fun i st => ∃ (S : List PV), st = ⟨S, [Nt.C (Nt.slots (List.range i) n).bs (Nt.slots (List.range i) n).g, X]⟩ ∧ S.length = 37 ∧ rd S 1 = v1 ∧ rd S 2 = .ptr 0 0 ∧ rd S 4 = .ptr 1 0 ∧ rd S 10 = v10 ∧ rd S 11 = v11 ∧ rd S 20 = .d (.int .i64 n.bs.length) ∧ rd S 21 = .d (.int .i64 i)) _ n.bs.length ?_ ?_ k 0 _ (by omega) (by omega) ⟨S, rfl, hS, h1, h2, h4, h10, h11, h20, h21⟩
  · rintro i st hi ⟨S, rfl, hS, h1, h2, h4, h10, h11, h20, h21⟩
    have hlt : (i : Int) < (n.bs.length : Int) := by omega
    have hsl : Nt.slots (List.range (i + 1)) n = ((Nt.slots (List.range i) n).Slot i []).1 := by
      rw [List.range_succ, slots_append]; rfl
    obtain ⟨f1, f2⟩ := fits_slots (List.range i) h (fun j hj => by have := List.mem_range.1 hj; omega)
    rw [hsl]
    generalize Nt.slots (List.range i) n = N at f1 f2 ⊢
    have c1 := fun σ => f_slot f1 (k := i) (by rw [f2.len]; exact hi) [] (by simp) σ
    generalize N.Slot i [] = R at c1 ⊢
    obtain ⟨N', t⟩ := R
    simp only at c1 ⊢
    obtain ⟨tw, tf, tb, tz⟩ := t
    clear hsl f1 f2
    simp only [Nt.C, Nt.P] at c1 ⊢
    generalize N.bs.map ndsD = a0 at c1 ⊢
    generalize N.g.rs.map Rt.D = a1 at c1 ⊢
    generalize N.g.out.map frsD = a3 at c1 ⊢
    generalize N.g.lost.map intD = a4 at c1 ⊢
    generalize N'.bs.map ndsD = b0 at c1 ⊢
    generalize N'.g.rs.map Rt.D = b1 at c1 ⊢
    generalize N'.g.out.map frsD = b3 at c1 ⊢
    generalize N'.g.lost.map intD = b4 at c1 ⊢
    try simp at c1
    simp [theLoop, Tryz.f41, loopsAll, Lp_some, and_assoc, -rd, rd_ne, rd_eq, -loadS, -storeS, loadS_cons0, loadS_consS, storeS_cons0, storeS_consS, cellsOf, hS, h1, h2, h4, h10, h11, h20, h21, hlt, c1, wrap_succ i (by omega)]
    done
  · rintro st ⟨S, rfl, hS, h1, h2, h4, h10, h11, h20, h21⟩
    show Lp _ _
    rw [show Nt.slots (List.range n.bs.length) n = n.round from rfl]
    generalize Nt.C n.round.bs n.round.g = B
    simp [theLoop, Tryz.f41, loopsAll, Lp_some, and_assoc, -rd, rd_ne, rd_eq, hS, h1, h2, h4, h10, h11, h20, h21]
    done

theorem l_calm (n0 : Nt) (h0 : n0.fits) (mo : Int) (x0 x1 x2 x3 x4 : PV) (S : List PV) (hS : S.length = 37) (h1 : rd S 1 = .d (.int .i64 mo)) (h2 : rd S 2 = .ptr 0 0) (h4 : rd S 4 = .ptr 1 0) (h10 : rd S 10 = .d (.int .i64 (most mo))) (h11 : rd S 11 = .d (.int .i64 0)) (k : Nat) (hk : most mo < k) :
    Lp (loopN (evCode E1 (evI E1) 10001 (theLoop Tryz.f41 0)) k ⟨S, [Nt.C n0.bs n0.g, [x0, x1, x2, x3, x4]]⟩) fun r => ∃ (S' : List PV), S'.length = 37 ∧ rd S' 1 = .d (.int .i64 mo) ∧ rd S' 2 = .ptr 0 0 ∧ rd S' 4 = .ptr 1 0 ∧
      ((r = (.exit 0, ⟨S', [Nt.C (n0.Calm mo).1.bs (n0.Calm mo).1.g, [x0, x1, x2, x3, x4]]⟩) ∧ (n0.Calm mo).2 = (most mo : Int)) ∨
       (∃ B0 : List PV, r = (.ret, ⟨S', [B0, Nt.C (n0.Calm mo).1.bs (n0.Calm mo).1.g]⟩) ∧ rd S' 5 = .d (.int .i64 (n0.Calm mo).2))) := by
  unfold Nt.Calm
  simp only
  have hM : most mo ≤ 10000 := by unfold most; omega
  generalize most mo = M at h10 hk hM ⊢
  refine loop_inv (fun i st => ∃ (N : Nt) (S : List PV), st = ⟨S, [Nt.C N.bs N.g, [x0, x1, x2, x3, x4]]⟩ ∧ N.fits ∧ Nt.calmF M n0 = ((Nt.calmF (M - i) N).1, (Nt.calmF (M - i) N).2 + i) ∧ S.length = 37 ∧ rd S 1 = .d (.int .i64 mo) ∧ rd S 2 = .ptr 0 0 ∧ rd S 4 = .ptr 1 0 ∧ rd S 10 = .d (.int .i64 M) ∧ rd S 11 = .d (.int .i64 i)) _ M ?_ ?_ k 0 _ (by omega) (by omega) ⟨n0, S, rfl, h0, rfl, hS, h1, h2, h4, h10, h11⟩
  · rintro i st hi ⟨N, S, rfl, hf, he, hS, h1, h2, h4, h10, h11⟩
    have hlt : (i : Int) < (M : Int) := by omega
    have hfew := hf.few
    have c1 := fun σ => f_still hf σ
    have hMi : M - i = (M - (i + 1)) + 1 := by omega
    rw [hMi] at he
    have hloop := fun X => l_netRound 10001 N hf X
    have hml : (N.bs.map ndsD).length = N.bs.length := by simp
    cases hs : N.Still
    · have he' : Nt.calmF M n0 = ((Nt.calmF (M - (i + 1)) N.round).1, (Nt.calmF (M - (i + 1)) N.round).2 + (i + 1)) := by
        rw [he, Nt.calmF, hs, if_neg (by simp)]
        simp only
        congr 1
        omega
      have hfr := (fits_round hf).1
      rw [hs] at c1
      clear he
      simp only [Nt.C, Nt.P] at c1 hloop ⊢
      generalize hB0 : N.bs.map ndsD = a0 at c1 hloop hml ⊢
      generalize N.g.rs.map Rt.D = a1 at c1 hloop ⊢
      generalize N.g.out.map frsD = a3 at c1 hloop ⊢
      generalize N.g.lost.map intD = a4 at c1 hloop ⊢
      try simp at c1
      simp [theLoop, Tryz.f41, loopsAll, ec_loop, Lp_some, and_assoc, -rd, rd_ne, rd_eq, -loadS, -storeS, loadS_cons0, loadS_consS, storeS_cons0, storeS_consS, cellsOf, hS, h1, h2, h4, h10, h11, hlt, hml, c1, wrap_succ i (by omega)]
      generalize hLL : loopN _ _ _ = LL
      obtain ⟨r, rfl, S', rfl, hS', g1, g2, g4, g10, g11⟩ := at_loop hLL (hloop _ _ _ _ _ (by simp [hS]) (by simp [-rd, rd_ne, rd_eq, hS, h1]; rfl) (by simp [-rd, rd_ne, rd_eq, hS, h2]) (by simp [-rd, rd_ne, rd_eq, hS, h4]) (by simp [-rd, rd_ne, rd_eq, hS, h10]; rfl) (by simp [-rd, rd_ne, rd_eq, hS, h11]; rfl) (by simp [-rd, rd_ne, rd_eq, hS]) (by simp [-rd, rd_ne, rd_eq, hS]) 10001 (by omega))
      simp [Lp_some, and_assoc, -rd, rd_ne, rd_eq, hS', g1, g2, g4, g10, g11, wrap_succ i (by omega)]
      exact ⟨N.round, rfl, rfl, rfl, rfl, rfl, hfr, he'⟩
    · have he' : Nt.calmF M n0 = (N, i) := by
        rw [he, calmF_of_still _ hs]
        simp
      rw [he']
      rw [hs] at c1
      clear he hloop
      simp only [Nt.C, Nt.P] at c1 ⊢
      generalize hB0 : N.bs.map ndsD = a0 at c1 hml ⊢
      generalize N.g.rs.map Rt.D = a1 at c1 ⊢
      generalize N.g.out.map frsD = a3 at c1 ⊢
      generalize N.g.lost.map intD = a4 at c1 ⊢
      try simp at c1
      simp [theLoop, Tryz.f41, loopsAll, ec_loop, Lp_some, and_assoc, -rd, rd_ne, rd_eq, -loadS, -storeS, loadS_cons0, loadS_consS, storeS_cons0, storeS_consS, cellsOf, hS, h1, h2, h4, h10, h11, hlt, hml, c1]
      refine ⟨_, ?_, ?_, ?_, ?_, rfl, ?_⟩ <;> simp [-rd, rd_ne, rd_eq, hS, h1, h2, h4]
  · rintro st ⟨N, S, rfl, hf, he, hS, h1, h2, h4, h10, h11⟩
    have he' : Nt.calmF M n0 = (N, M) := by rw [he, Nat.sub_self]; simp [Nt.calmF]
    rw [he']
    generalize Nt.C N.bs N.g = B
    simp [theLoop, Tryz.f41, loopsAll, Lp_some, and_assoc, -rd, rd_ne, rd_eq, hS, h1, h2, h4, h10, h11]
    refine ⟨_, ?_, ?_, ?_, ?_, rfl⟩ <;> simp [-rd, rd_ne, rd_eq, hS, h1, h2, h4]

theorem b_netCalm (n : Nt) (h : n.fits) (mo : Int) (σ : Store) : callIt E1 (evI E1) 41 [n.P, .d (.int .i64 mo)] σ = some (.tup [(n.Calm mo).1.P, .d (.int .i64 (n.Calm mo).2)], σ) := by
  refine call_run (fn := Tryz.f41) 10001 rfl rfl rfl Tryz.func41 rfl rfl ?_ rfl
  have hloop := l_calm n h mo
  have hM : most mo ≤ 10000 := by unfold most; omega
  have hm : min (max mo 0) 10000 = (most mo : Int) := by unfold most; omega
  rw [Nt.P_C, Nt.P_C]
  simp only [Nt.C] at hloop ⊢
  generalize n.bs.map ndsD = a0 at hloop ⊢
  generalize n.g.rs.map Rt.D = a1 at hloop ⊢
  generalize n.g.out.map frsD = a3 at hloop ⊢
  generalize n.g.lost.map intD = a4 at hloop ⊢
  generalize n.Calm mo = R at hloop ⊢
  obtain ⟨N, c⟩ := R
  simp only at hloop ⊢
  generalize N.bs.map ndsD = b0 at hloop ⊢
  generalize N.g.rs.map Rt.D = b1 at hloop ⊢
  generalize N.g.out.map frsD = b3 at hloop ⊢
  generalize N.g.lost.map intD = b4 at hloop ⊢
  generalize most mo = M at hloop hM hm
  simp [Tryz.f41, ec_loop, -loadS, -storeS, loadS_cons0, loadS_consS, storeS_cons0, storeS_consS, cellsOf, hm]
  generalize hLL : loopN _ _ _ = LL
  obtain ⟨r, rfl, S, hS, h1, h2, h4, hr⟩ := at_loop hLL (hloop _ _ _ _ _ _ rfl rfl rfl rfl rfl rfl 10001 (by omega))
  rcases hr with ⟨rfl, hc⟩ | ⟨B0, rfl, h5⟩
  · subst hc
    simp [-rd, rd_ne, rd_eq, -loadS, -storeS, loadS_cons0, loadS_consS, storeS_cons0, storeS_consS, hS, h1, h2, h4, hm, rd_el h4 (by omega)]
  · simp [-rd, rd_ne, rd_eq, -loadS, -storeS, loadS_cons0, loadS_consS, storeS_cons0, storeS_consS, hS, h1, h2, h4, h5, rd_el h4 (by omega), rd_el h5 (by omega)]
end Go.Proofs

set_option linter.unusedVariables false
set_option linter.unusedSimpArgs false
set_option maxRecDepth 100000
set_option maxHeartbeats 8000000
namespace Go.Proofs
open Go.RowKit Go.Shelf Go.Pv

def freshR (k : Int) : List Nd := List.replicate k.toNat own0
def freshL (many : List Int) : List (List Nd) := many.map freshR
theorem freshR_pos {k : Int} {j : Nat} (h : k.toNat = j) : freshR k = List.replicate j own0 := by unfold freshR; rw [h]

theorem l_fr1 (m : Nat) (M : List (List DV)) (i : Nat) (n : Int) (hx : M[i]? = some [.int .i64 n]) (hn : n ≤ 1000) (v3 : PV) (S : List PV) (hS : S.length = 36) (h0 : rd S 0 = .d (.slice M)) (h3 : rd S 3 = v3) (h4 : rd S 4 = .d (.int .i64 i)) (h5 : rd S 5 = .e0) (h6 : rd S 6 = .d (.int .i64 0)) (J : Store) (k : Nat) (hk : n.toNat < k) :
    Lp (loopN (evCode E1 (evI E1) m (theLoop Tryz.f51 1)) k ⟨S, J⟩) fun r => ∃ (J : Store) (S' : List PV), r = (.exit 2, ⟨S', J⟩) ∧ S'.length = 36 ∧ rd S' 0 = .d (.slice M) ∧ rd S' 3 = v3 ∧ rd S' 4 = .d (.int .i64 i) ∧ rd S' 5 = acc ((freshR n).map Nd.D) := by
  obtain ⟨hi0, hx⟩ := List.getElem?_eq_some_iff.1 hx
  refine loop_inv (fun j st => ∃ (J : Store) (S : List PV), st = ⟨S, J⟩ ∧ S.length = 36 ∧ rd S 0 = .d (.slice M) ∧ rd S 3 = v3 ∧ rd S 4 = .d (.int .i64 i) ∧ rd S 5 = acc ((List.replicate j own0).map Nd.D) ∧ rd S 6 = .d (.int .i64 j)) _ n.toNat ?_ ?_ k 0 _ (by omega) (by omega) ⟨J, S, rfl, hS, h0, h3, h4, h5, h6⟩
  · rintro j st hj ⟨J, S, rfl, hS, h0, h3, h4, h5, h6⟩
    have hlt : (j : Int) < n := by omega
    have hN := b_ndNew0
    have happ : evAppend Tryz.prog 22 (acc ((List.replicate j own0).map Nd.D)) (.d (.slice [own0.D])) = some (acc ((List.replicate (j + 1) own0).map Nd.D)) := by
      rw [appN _ _ (rowsOk_Nd _) rfl (by simp [roomB]; omega)]
      rw [List.replicate_succ', List.map_append]; rfl
    generalize (List.replicate (j + 1) own0).map Nd.D = A1 at happ ⊢
    generalize (List.replicate j own0).map Nd.D = A0 at happ h5
    simp [own0] at hN happ
    simp [theLoop, Tryz.f51, loopsAll, Lp_some, and_assoc, -rd, rd_ne, rd_eq, -loadS, -storeS, loadS_cons0, loadS_consS, storeS_cons0, storeS_consS, sfx_load0, sfx_load, sfx_store0, sfx_store, cellsOf, rowsFrom, hS, h0, h3, h4, h5, h6, hi0, hx, hlt, hN, happ, wrap_succ j (by omega)]
    done
  · rintro st ⟨J, S, rfl, hS, h0, h3, h4, h5, h6⟩
    have hlt : ¬ ((n.toNat : Int) < n) := by omega
    unfold freshR
    generalize (List.replicate n.toNat own0).map Nd.D = A at h5 ⊢
    generalize n.toNat = j at h6 hlt
    simp [theLoop, Tryz.f51, loopsAll, Lp_some, and_assoc, -rd, rd_ne, rd_eq, hS, h0, h3, h4, h5, h6, hi0, hx, hlt]
    done
theorem l_fr0 (m : Nat) (hm : 1001 < m) (many : List Int) (hl : many.length ≤ 1000) (hs : ∀ n ∈ many, n ≤ 1000) (S : List PV) (hS : S.length = 36) (h0 : rd S 0 = .d (.slice (many.map intD))) (h3 : rd S 3 = .e0) (h4 : rd S 4 = .d (.int .i64 0)) (J : Store) (k : Nat) (hk : many.length < k) :
    Lp (loopN (evCode E1 (evI E1) m (theLoop Tryz.f51 0)) k ⟨S, J⟩) fun r => ∃ (J : Store) (S' : List PV), r = (.exit 0, ⟨S', J⟩) ∧ S'.length = 36 ∧ rd S' 3 = acc ((freshL many).map ndsD) := by
  have hml : (many.map intD).length = many.length := by simp
  refine loop_inv (fun i st => ∃ (J : Store) (S : List PV), st = ⟨S, J⟩ ∧ S.length = 36 ∧ rd S 0 = .d (.slice (many.map intD)) ∧ rd S 3 = acc ((freshL (many.take i)).map ndsD) ∧ rd S 4 = .d (.int .i64 i)) _ many.length ?_ ?_ k 0 _ (by omega) (by omega) ⟨J, S, rfl, hS, h0, h3, h4⟩
  · rintro i st hi ⟨J, S, rfl, hS, h0, h3, h4⟩
    have hlt : (i : Int) < (many.length : Int) := by omega
    have hx : (many.map intD)[i]? = some [.int .i64 many[i]] := by simp [hi, intD]
    have hn := hs _ (List.getElem_mem hi)
    have hA : (freshL (many.take (i + 1))).map ndsD = (freshL (many.take i)).map ndsD ++ [ndsD (freshR many[i])] := by
      unfold freshL
      rw [List.take_add_one, List.getElem?_eq_getElem hi, List.map_append, List.map_append]
      rfl
    have happ : evAppend Tryz.prog 66 (acc ((freshL (many.take i)).map ndsD)) (.d (.slice [ndsD (freshR many[i])])) = some (acc ((freshL (many.take (i + 1))).map ndsD)) := by
      rw [appW _ _ (rowsOk_nds _) rfl (by simp [roomB, freshL]; omega), hA]
    have hloop := l_fr1 m (many.map intD) i many[i] hx hn
    generalize many[i] = n at hx hn happ hloop
    generalize (freshL (many.take (i + 1))).map ndsD = A1 at happ ⊢
    generalize (freshL (many.take i)).map ndsD = A0 at happ h3
    generalize many.map intD = M at hx hml h0 hloop ⊢
    simp only [ndsD] at happ
    generalize (freshR n).map Nd.D = F at happ hloop
    clear hA
    simp [theLoop, Tryz.f51, loopsAll, ec_loop, Lp_some, and_assoc, -rd, rd_ne, rd_eq, -loadS, -storeS, hS, h0, h3, h4, hml, hlt]
    generalize hLL : loopN _ _ _ = LL
    obtain ⟨r, rfl, J', S', rfl, hS', g0, g3, g4, g5⟩ := at_loop hLL (hloop _ _ (by simp [hS]) (by simp [-rd, rd_ne, rd_eq, hS, h0]) (by simp [-rd, rd_ne, rd_eq, hS, h3]; rfl) (by simp [-rd, rd_ne, rd_eq, hS, h4]) (by simp [-rd, rd_ne, rd_eq, hS]) (by simp [-rd, rd_ne, rd_eq, hS]) _ m (by omega))
    simp [Lp_some, and_assoc, -rd, rd_ne, rd_eq, cellsOf, rowsFrom, hS', g0, g3, g4, g5, happ, wrap_succ i (by omega)]
    done
  · rintro st ⟨J, S, rfl, hS, h0, h3, h4⟩
    rw [List.take_length] at h3
    generalize (freshL many).map ndsD = A at h3 ⊢
    generalize many.map intD = M at hml h0 ⊢
    simp [theLoop, Tryz.f51, loopsAll, Lp_some, and_assoc, -rd, rd_ne, rd_eq, hS, h0, h3, h4, hml]
    done
theorem b_fresh (many : List Int) (hl : many.length ≤ 1000) (hs : ∀ n ∈ many, n ≤ 1000) (σ : Store) : callIt E1 (evI E1) 51 [.d (.slice (many.map intD))] σ = some (.d (.slice ((freshL many).map ndsD)), σ) := by
  refine call_runF (fn := Tryz.f51) 1002 rfl rfl rfl Tryz.func51 rfl rfl ?_
  have hloop := l_fr0 1002 (by omega) many hl hs
  generalize (freshL many).map ndsD = A at hloop ⊢
  generalize many.map intD = M at hloop ⊢
  simp [Tryz.f51, ec_loop, -loadS, -storeS]
  generalize hLL : loopN _ _ _ = LL
  obtain ⟨r, rfl, J, S, rfl, hS, g3⟩ := at_loop hLL (hloop _ rfl rfl rfl rfl _ 1002 (by omega))
  simp [-rd, rd_ne, rd_eq, hS, g3]
end Go.Proofs

