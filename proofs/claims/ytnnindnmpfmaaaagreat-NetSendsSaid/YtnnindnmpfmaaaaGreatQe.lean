/- NetSends: its loops; NetSends: its call answers true; NetSends: the given statement, for every input: true, and each argument reads behind the call as it read before. -/
import Derived.Test.YtnnindnmpfmaaaaGreatPm
import Derived.Test.YtnnindnmpfmaaaaGreatRows
import Derived.WalkKit
import Derived.ProofKit
import Derived.OpenShut
import Derived.ShutString
import Derived.ChangeOld
import Derived.Below
import Derived.SizedLaws
set_option linter.unusedVariables false
set_option linter.unusedSimpArgs false
set_option maxRecDepth 100000
set_option maxHeartbeats 8000000
namespace Go.Proofs
open Go.RowKit Go.Shelf Go.Pv

theorem l_whole (m : Nat) (bs l : List (List Nd)) (hl : bs.length = l.length) (hl4 : l.length ≤ 1000) (hr : ∀ i, i < l.length → (rw_ bs i).length = (rw_ l i).length + 1) (hr1 : ∀ i, i < l.length → (rw_ l i).length ≤ 1000000) (a1 a2 a3 a4 : PV) (S : List PV) (hS : S.length = 31) (h1 : rd S 1 = .d (.slice (l.map ndsD))) (h2 : rd S 2 = .ptr 0 0) (h5 : rd S 5 = .d (.int .i64 0)) (k : Nat) (hk : l.length < k) :
    Lp (loopN (evCode E1 (evI E1) m (theLoop Tryz.f54 0)) k ⟨S, [[.d (.slice (bs.map ndsD)), a1, a2, a3, a4]]⟩) fun r => ∃ (J : Store) (S' : List PV), r = (.exit 0, ⟨S', J⟩) ∧ S'.length = 31 := by
  have hml : (l.map ndsD).length = l.length := by simp
  refine loop_inv (fun i st => ∃ S : List PV, st = ⟨S, [[.d (.slice (bs.map ndsD)), a1, a2, a3, a4]]⟩ ∧ S.length = 31 ∧ rd S 1 = .d (.slice (l.map ndsD)) ∧ rd S 2 = .ptr 0 0 ∧ rd S 5 = .d (.int .i64 i)) _ l.length ?_ ?_ k 0 _ (by omega) (by omega) ⟨S, rfl, hS, h1, h2, h5⟩
  · rintro i st hi ⟨S, rfl, hS, h1, h2, h5⟩
    have hlt : (i : Int) < (l.length : Int) := by omega
    have hib : i < bs.length := by omega
    have hx : (l.map ndsD)[i]? = some (ndsD l[i]) := by simp [hi]
    have hy : (bs.map ndsD)[i]? = some (ndsD bs[i]) := by simp [hib]
    have hlen := hr i hi
    have hb := hr1 i hi
    rw [rw_get hi] at hb
    rw [rw_get hi, rw_get hib] at hlen
    clear hr hr1
    generalize l[i] = lr at hx hlen hb
    generalize bs[i] = br at hy hlen
    have hm1 : (lr.map Nd.D).length = lr.length := by simp
    have hm2 : (br.map Nd.D).length = br.length := by simp
    have hw : IntKind.i64.wrap ((lr.length : Int) + 1) = (br.length : Int) := by rw [wrap_ok (by omega) (by omega)]; omega
    simp only [ndsD] at hx hy
    generalize lr.map Nd.D = LR at hx hm1
    generalize br.map Nd.D = BR at hy hm2
    generalize l.map ndsD = L at hx hml h1 ⊢
    generalize bs.map ndsD = B at hy ⊢
    obtain ⟨hi0, hx⟩ := List.getElem?_eq_some_iff.1 hx
    obtain ⟨hi1, hy⟩ := List.getElem?_eq_some_iff.1 hy
    simp [theLoop, Tryz.f54, loopsAll, Lp_some, and_assoc, -rd, rd_ne, rd_eq, -loadS, -storeS, loadS_cons0, loadS_consS, hS, h1, h2, h5, hlt, hi, hi0, hi1, hml, hm1, hm2, hx, hy, hw, wrap_succ i (by omega)]
    done
  · rintro st ⟨S, rfl, hS, h1, h2, h5⟩
    generalize l.map ndsD = L at hml h1 ⊢
    simp [theLoop, Tryz.f54, loopsAll, Lp_some, and_assoc, -rd, rd_ne, rd_eq, hS, h1, h2, h5, hml]
    done
theorem b_whole (n : Nt) (l : List (List Nd)) (hl : n.bs.length = l.length) (hl4 : l.length ≤ 1000) (hr : ∀ i, i < l.length → (rw_ n.bs i).length = (rw_ l i).length + 1) (hr1 : ∀ i, i < l.length → (rw_ l i).length ≤ 1000000) (σ : Store) : callIt E1 (evI E1) 54 [n.P, .d (.slice (l.map ndsD))] σ = some (.d (.bool true), σ) := by
  refine call_run (fn := Tryz.f54) 1001 rfl rfl rfl Tryz.func54 rfl rfl ?_ rfl
  obtain ⟨bs, g⟩ := n
  have hloop := l_whole 1001 bs l hl hl4 hr hr1
  have hml : (l.map ndsD).length = l.length := by simp
  have hmb : (bs.map ndsD).length = l.length := by simpa using hl
  simp only [Nt.P]
  generalize l.map ndsD = L at hml hloop ⊢
  generalize bs.map ndsD = B at hmb hloop ⊢
  simp [Tryz.f54, ec_loop, -loadS, -storeS, loadS_cons0, loadS_consS, storeS_cons0, storeS_consS, cellsOf, hml, hmb]
  generalize hLL : loopN _ _ _ = LL
  obtain ⟨r, rfl, J, S, rfl, hS⟩ := at_loop hLL (hloop _ _ _ _ _ rfl rfl rfl rfl 1001 (by omega))
  simp [-rd, rd_ne, rd_eq, hS]

/-- The store of the loops: the frame, the net ahead, the net behind, the node that sent. -/
theorem l_ns1 (m : Nat) (l : List (List Nd)) (i b w : Nat) (lk nrow mrow : List Nd) (x : Nd) (hL : (l.map ndsD)[i]? = some (ndsD lk)) (N0 M0 : List (List DV)) (hN : N0[i]? = some (ndsD nrow)) (hM : M0[i]? = some (ndsD mrow)) (hnl : nrow.length = lk.length + 1) (hml : mrow.length = lk.length + 1) (hl : lk.length ≤ 1000)
    (hk : ∀ k, k < lk.length + 1 → nd mrow k = if i = b ∧ k = w then x else nd nrow k) (hg : ∀ k, k < lk.length + 1 → (nd mrow k).good) (F : List PV) (a1 a2 a3 a4 c1 c2 c3 c4 : PV) (v0 v15 v19 v13 : PV) (J : Store) (S : List PV) (hS : S.length = 153)
    (h0 : rd S 0 = .d (.slice (l.map ndsD))) (h3 : rd S 3 = .d (.int .i64 b)) (h4 : rd S 4 = .d (.int .i64 w)) (h13 : rd S 13 = v13) (h14 : rd S 14 = .ptr 1 0) (h16 : rd S 16 = .ptr 2 0) (h17 : rd S 17 = v15) (h18 : rd S 18 = .ptr 3 0) (h19 : rd S 19 = v19) (h20 : rd S 20 = .d (.int .i64 i)) (h21 : rd S 21 = .d (.int .i64 0)) (n : Nat) (hn : lk.length + 1 < n) :
    Lp (loopN (evCode E1 (evI E1) m (theLoop Tryz.f14 1)) n ⟨S, F :: [.d (.slice N0), a1, a2, a3, a4] :: [.d (.slice M0), c1, c2, c3, c4] :: cellsOf x.P :: J⟩) fun r => ∃ (J : Store) (S' : List PV), r = (.exit 2, ⟨S', F :: [.d (.slice N0), a1, a2, a3, a4] :: [.d (.slice M0), c1, c2, c3, c4] :: cellsOf x.P :: J⟩) ∧ S'.length = 153 ∧ rd S' 0 = .d (.slice (l.map ndsD)) ∧ rd S' 3 = .d (.int .i64 b) ∧ rd S' 4 = .d (.int .i64 w) ∧ rd S' 13 = v13 ∧ rd S' 14 = .ptr 1 0 ∧ rd S' 16 = .ptr 2 0 ∧ rd S' 17 = v15 ∧ rd S' 18 = .ptr 3 0 ∧ rd S' 19 = v19 ∧ rd S' 20 = .d (.int .i64 i) := by
  refine loop_inv (fun k st => ∃ (J : Store) (S : List PV), st = ⟨S, F :: [.d (.slice N0), a1, a2, a3, a4] :: [.d (.slice M0), c1, c2, c3, c4] :: cellsOf x.P :: J⟩ ∧ S.length = 153 ∧ rd S 0 = .d (.slice (l.map ndsD)) ∧ rd S 3 = .d (.int .i64 b) ∧ rd S 4 = .d (.int .i64 w) ∧ rd S 13 = v13 ∧ rd S 14 = .ptr 1 0 ∧ rd S 16 = .ptr 2 0 ∧ rd S 17 = v15 ∧ rd S 18 = .ptr 3 0 ∧ rd S 19 = v19 ∧ rd S 20 = .d (.int .i64 i) ∧ rd S 21 = .d (.int .i64 k)) _ (lk.length + 1) ?_ ?_ n 0 _ (by omega) (by omega) ⟨J, S, rfl, hS, h0, h3, h4, h13, h14, h16, h17, h18, h19, h20, h21⟩
  · rintro k st hkl ⟨J, S, rfl, hS, h0, h3, h4, h13, h14, h16, h17, h18, h19, h20, h21⟩
    have hlt : (k : Int) ≤ (lk.length : Int) := by omega
    have hlk : (lk.map Nd.D).length = lk.length := by simp
    have hyn : (nrow.map Nd.D)[k]? = some (nd nrow k).D := by rw [nd_get (by omega)]; simp [show k < nrow.length by omega]
    have hym : (mrow.map Nd.D)[k]? = some (nd mrow k).D := by rw [nd_get (by omega)]; simp [show k < mrow.length by omega]
    have hkk := hk k hkl
    have hgk := hg k hkl
    have c5 := fun σ => r_sameNd (nd mrow k) (Nat.le_trans hgk.fs (by omega)) (Nat.le_trans hgk.q (by omega)) (Nat.le_trans hgk.g (by omega)) σ
    clear hk hg hgk
    simp only [ndsD] at hL hN hM
    generalize nd mrow k = y at hym hkk c5
    generalize nd nrow k = z at hyn hkk
    generalize lk.map Nd.D = LK at hL hlk
    generalize nrow.map Nd.D = NR at hN hyn
    generalize mrow.map Nd.D = MR at hM hym
    generalize l.map ndsD = L at hL h0 ⊢
    obtain ⟨_, hL⟩ := List.getElem?_eq_some_iff.1 hL
    obtain ⟨_, hN⟩ := List.getElem?_eq_some_iff.1 hN
    obtain ⟨_, hM⟩ := List.getElem?_eq_some_iff.1 hM
    obtain ⟨_, hyn⟩ := List.getElem?_eq_some_iff.1 hyn
    obtain ⟨_, hym⟩ := List.getElem?_eq_some_iff.1 hym
    by_cases hi : i = b
    · subst hi
      have hiI : ((i : Int) == (i : Int)) = true := by simp
      by_cases hw : k = w
      · rw [if_pos ⟨rfl, hw⟩] at hkk
        subst hkk
        subst hw
        have hwI : ((k : Int) == (k : Int)) = true := by simp
        obtain ⟨yq, yf, ⟨yt, yr, ys, yz⟩, yg⟩ := y
        obtain ⟨zq, zf, ⟨zt, zr, zs, zz⟩, zg⟩ := z
        simp only [Nd.P, Nd.D] at hyn hym c5 ⊢
        try simp at c5
        simp [theLoop, Tryz.f14, loopsAll, Lp_some, and_assoc, -rd, rd_ne, rd_eq, -loadS, -storeS, loadS_cons0, loadS_consS, storeS_cons0, storeS_consS, sfx_load0, sfx_load, sfx_store0, sfx_store, cellsOf, hS, h0, h3, h4, h13, h14, h16, h17, h18, h19, h20, h21, hL, hN, hM, hyn, hym, hlk, hlt, hiI, hwI, c5, *, wrap_succ k (by omega)]
        done
      · rw [if_neg (fun h => hw h.2)] at hkk
        subst hkk
        have hwI : ((k : Int) == (w : Int)) = false := by simp; omega
        obtain ⟨yq, yf, ⟨yt, yr, ys, yz⟩, yg⟩ := y
        simp only [Nd.P, Nd.D] at hyn hym c5 ⊢
        try simp at c5
        simp [theLoop, Tryz.f14, loopsAll, Lp_some, and_assoc, -rd, rd_ne, rd_eq, -loadS, -storeS, loadS_cons0, loadS_consS, storeS_cons0, storeS_consS, sfx_load0, sfx_load, sfx_store0, sfx_store, cellsOf, hS, h0, h3, h4, h13, h14, h16, h17, h18, h19, h20, h21, hL, hN, hM, hyn, hym, hlk, hlt, hiI, hwI, c5, *, wrap_succ k (by omega)]
        done
    · have hiI : ((i : Int) == (b : Int)) = false := by simp; omega
      rw [if_neg (fun h => hi h.1)] at hkk
      subst hkk
      obtain ⟨yq, yf, ⟨yt, yr, ys, yz⟩, yg⟩ := y
      simp only [Nd.P, Nd.D] at hyn hym c5 ⊢
      try simp at c5
      simp [theLoop, Tryz.f14, loopsAll, Lp_some, and_assoc, -rd, rd_ne, rd_eq, -loadS, -storeS, loadS_cons0, loadS_consS, storeS_cons0, storeS_consS, sfx_load0, sfx_load, sfx_store0, sfx_store, cellsOf, hS, h0, h3, h4, h13, h14, h16, h17, h18, h19, h20, h21, hL, hN, hM, hyn, hym, hlk, hlt, hiI, c5, *, wrap_succ k (by omega)]
      done
  · rintro st ⟨J, S, rfl, hS, h0, h3, h4, h13, h14, h16, h17, h18, h19, h20, h21⟩
    have hlt : ¬ (((lk.length + 1 : Nat) : Int) ≤ (lk.length : Int)) := by omega
    have hlt' : ¬ ((lk.length : Int) + 1 ≤ (lk.length : Int)) := by omega
    have hlk : (lk.map Nd.D).length = lk.length := by simp
    simp only [ndsD] at hL
    generalize lk.map Nd.D = LK at hL hlk
    generalize l.map ndsD = L at hL h0 ⊢
    obtain ⟨_, hL⟩ := List.getElem?_eq_some_iff.1 hL
    generalize cellsOf x.P = X
    simp [theLoop, Tryz.f14, loopsAll, Lp_some, and_assoc, -rd, rd_ne, rd_eq, -loadS, -storeS, hS, h0, h3, h4, h13, h14, h16, h17, h18, h19, h20, h21, hL, hlk, hlt, hlt', *]
    done
end Go.Proofs

set_option linter.unusedVariables false
set_option linter.unusedSimpArgs false
set_option maxRecDepth 100000
set_option maxHeartbeats 8000000
namespace Go.Proofs
open Go.RowKit Go.Shelf Go.Pv

theorem l_ns0 (m : Nat) (hm : 1000 < m) (l nb mb : List (List Nd)) (hl : l.length ≤ 4) (hnb : nb.length = l.length) (hmb : mb.length = l.length) (b w : Nat) (x : Nd) (hlen : ∀ i, i < l.length → (rw_ l i).length ≤ 7 ∧ (rw_ nb i).length = (rw_ l i).length + 1 ∧ (rw_ mb i).length = (rw_ l i).length + 1)
    (hk : ∀ i k, i < l.length → k < (rw_ l i).length + 1 → nd (rw_ mb i) k = if i = b ∧ k = w then x else nd (rw_ nb i) k) (hg : ∀ i k, i < l.length → k < (rw_ l i).length + 1 → (nd (rw_ mb i) k).good) (F : List PV) (a1 a2 a3 a4 c1 c2 c3 c4 : PV) (v15 v19 v13 : PV) (J : Store) (S : List PV) (hS : S.length = 153)
    (h0 : rd S 0 = .d (.slice (l.map ndsD))) (h3 : rd S 3 = .d (.int .i64 b)) (h4 : rd S 4 = .d (.int .i64 w)) (h13 : rd S 13 = v13) (h14 : rd S 14 = .ptr 1 0) (h16 : rd S 16 = .ptr 2 0) (h17 : rd S 17 = v15) (h18 : rd S 18 = .ptr 3 0) (h19 : rd S 19 = v19) (h20 : rd S 20 = .d (.int .i64 0)) (n : Nat) (hn : l.length < n) :
    Lp (loopN (evCode E1 (evI E1) m (theLoop Tryz.f14 0)) n ⟨S, F :: [.d (.slice (nb.map ndsD)), a1, a2, a3, a4] :: [.d (.slice (mb.map ndsD)), c1, c2, c3, c4] :: cellsOf x.P :: J⟩) fun r => ∃ (J : Store) (S' : List PV), r = (.exit 0, ⟨S', J⟩) ∧ S'.length = 153 ∧ rd S' 13 = v13 ∧ rd S' 17 = v15 ∧ rd S' 19 = v19 := by
  have hml : (l.map ndsD).length = l.length := by simp
  refine loop_inv (fun i st => ∃ (J : Store) (S : List PV), st = ⟨S, F :: [.d (.slice (nb.map ndsD)), a1, a2, a3, a4] :: [.d (.slice (mb.map ndsD)), c1, c2, c3, c4] :: cellsOf x.P :: J⟩ ∧ S.length = 153 ∧ rd S 0 = .d (.slice (l.map ndsD)) ∧ rd S 3 = .d (.int .i64 b) ∧ rd S 4 = .d (.int .i64 w) ∧ rd S 13 = v13 ∧ rd S 14 = .ptr 1 0 ∧ rd S 16 = .ptr 2 0 ∧ rd S 17 = v15 ∧ rd S 18 = .ptr 3 0 ∧ rd S 19 = v19 ∧ rd S 20 = .d (.int .i64 i)) _ l.length ?_ ?_ n 0 _ (by omega) (by omega) ⟨J, S, rfl, hS, h0, h3, h4, h13, h14, h16, h17, h18, h19, h20⟩
  · rintro i st hi ⟨J, S, rfl, hS, h0, h3, h4, h13, h14, h16, h17, h18, h19, h20⟩
    have hlt : (i : Int) < (l.length : Int) := by omega
    obtain ⟨q1, q2, q3⟩ := hlen i hi
    have hL : (l.map ndsD)[i]? = some (ndsD (rw_ l i)) := by rw [rw_get hi]; simp [hi]
    have hN : (nb.map ndsD)[i]? = some (ndsD (rw_ nb i)) := by rw [rw_get (by omega)]; simp [show i < nb.length by omega]
    have hM : (mb.map ndsD)[i]? = some (ndsD (rw_ mb i)) := by rw [rw_get (by omega)]; simp [show i < mb.length by omega]
    have hloop := l_ns1 m l i b w (rw_ l i) (rw_ nb i) (rw_ mb i) x hL _ _ hN hM q2 q3 (by omega) (fun k hk' => hk i k hi hk') (fun k hk' => hg i k hi hk') F a1 a2 a3 a4 c1 c2 c3 c4
    generalize rw_ l i = lk at hloop q1
    generalize l.map ndsD = L at hml h0 hloop ⊢
    generalize nb.map ndsD = N0 at hloop ⊢
    generalize mb.map ndsD = M0 at hloop ⊢
    generalize cellsOf x.P = X at hloop ⊢
    clear hk hg hlen hL hN hM
    simp [theLoop, Tryz.f14, loopsAll, ec_loop, Lp_some, and_assoc, -rd, rd_ne, rd_eq, -loadS, -storeS, hS, h0, h3, h4, h13, h14, h16, h17, h18, h19, h20, hml, hlt]
    generalize hLL : loopN _ _ _ = LL
    obtain ⟨r, rfl, J', S', rfl, hS', g0, g3, g4, g13, g14, g16, g17, g18, g19, g20⟩ := at_loop hLL (hloop v13 v15 v19 v13 J _ (by simp [hS]) (by simp [-rd, rd_ne, rd_eq, hS, h0]) (by simp [-rd, rd_ne, rd_eq, hS, h3]) (by simp [-rd, rd_ne, rd_eq, hS, h4]) (by simp [-rd, rd_ne, rd_eq, hS, h13]) (by simp [-rd, rd_ne, rd_eq, hS, h14]) (by simp [-rd, rd_ne, rd_eq, hS, h16]) (by simp [-rd, rd_ne, rd_eq, hS, h17]) (by simp [-rd, rd_ne, rd_eq, hS, h18]) (by simp [-rd, rd_ne, rd_eq, hS, h19]) (by simp [-rd, rd_ne, rd_eq, hS, h20]) (by simp [-rd, rd_ne, rd_eq, hS]) m (by omega))
    simp [Lp_some, and_assoc, -rd, rd_ne, rd_eq, hS', g0, g3, g4, g13, g14, g16, g17, g18, g19, g20, wrap_succ i (by omega)]
    done
  · rintro st ⟨J, S, rfl, hS, h0, h3, h4, h13, h14, h16, h17, h18, h19, h20⟩
    generalize l.map ndsD = L at hml h0 ⊢
    generalize cellsOf x.P = X
    simp [theLoop, Tryz.f14, loopsAll, Lp_some, and_assoc, -rd, rd_ne, rd_eq, hS, h0, h3, h4, h13, h14, h16, h17, h18, h19, h20, hml]
    done

theorem rw_own {l : List (List Nd)} {k : Nat} (hk : k < l.length) : rw_ (l.map ownIn) k = ownIn (rw_ l k) := by
  rw [rw_get (by simpa using hk), rw_get hk]; simp
theorem own_len (r : List Nd) : (ownIn r).length = r.length + 1 := by simp [ownIn]
theorem send_out {l : List (List Nd)} {n : Nt} (hn : n.bs = l.map ownIn) {b w : Int} {f : Fr} (h : b < 0 ∨ b ≥ l.length ∨ w < 0 ∨ w ≥ (rw_ l b.toNat).length) : n.Send b w f = (n, 1) := by
  unfold Nt.Send
  rw [hn]
  split
  · rfl
  · rename_i h1
    rw [List.length_map] at h1
    rw [rw_own (by omega), own_len, if_pos (by omega)]
theorem send_in {l : List (List Nd)} {n : Nt} (hn : n.bs = l.map ownIn) {b w : Nat} {f : Fr} (hb : b < l.length) (hw : w < (rw_ l b).length) : n.Send b w f = (⟨n.bs.set b ((rw_ n.bs b).set w ((nd (rw_ n.bs b) w).Send f).1), n.g⟩, ((nd (rw_ n.bs b) w).Send f).2) := by
  unfold Nt.Send
  rw [if_neg (by rw [hn]; simp; omega), Int.toNat_natCast, if_neg (by rw [hn, rw_own hb, own_len]; omega), Int.toNat_natCast]

theorem netSends_true (l : List (List Nd)) (r : List Rt) (room b w : Int) (f : Fr) (hb : ∀ x ∈ l, bytesOk x) (hf : byOk f.data) :
    ∃ σ', evI E1 14 [.d (.slice (l.map ndsD)), .d (.slice (r.map Rt.D)), .d (.int .i64 room), .d (.int .i64 b), .d (.int .i64 w), f.P] [] = some (.d (.bool true), σ') := by
  refine evI_ex (fn := Tryz.f14) 1001 rfl Tryz.func14 rfl ?_
  have e0 := b_netHead
  have e1 := fun σ => b_great14 l r [] σ
  have e1f := fun σ => r_great f σ
  have hml : (l.map ndsD).length = l.length := by simp
  cases hg : great14 l r []
  · cases hgf : f.great
    · rw [hg] at e1
      rw [hgf] at e1f
      have e2 := fun σ => netNew_of (room := room) hg σ
      have hfn := @fits_new l r room hb
      generalize Nt.New l r room = N0 at e2 hfn
      obtain ⟨n, e⟩ := N0
      simp only at e2 hfn
      by_cases he : e = 0
      · subst he
        obtain ⟨f0, f1, f2, f3, f4⟩ := hfn rfl
        clear hfn hg
        have e3 := fun σ => b_netSend n f0.ok.1 b w f σ
        by_cases hout : b < 0 ∨ b ≥ l.length ∨ w < 0 ∨ w ≥ (rw_ l b.toNat).length
        · rw [send_out f1 hout] at e3
          have e4 := fun σ => r_sameN n f0.fine σ
          have hrow : ¬ (b < 0) → b < (l.length : Int) → ∃ hi : b.toNat < (l.map ndsD).length, (l.map ndsD)[b.toNat] = [.slice ((rw_ l b.toNat).map Nd.D)] := by
            intro h1 h2
            refine ⟨by simp; omega, ?_⟩
            rw [List.getElem_map, rw_get (by omega)]
            rfl
          have hmr : ((rw_ l b.toNat).map Nd.D).length = (rw_ l b.toNat).length := by simp
          generalize (rw_ l b.toNat).map Nd.D = RW at hrow hmr
          generalize (rw_ l b.toNat).length = rl at hout hmr
          clear f0 f1 f2 f3 f4 hb
          generalize l.map ndsD = l0 at e1 e2 hml hrow ⊢
          generalize r.map Rt.D = r0 at e1 e2 ⊢
          obtain ⟨fe, fid, frm, fln, fda⟩ := f
          simp only [Nt.P, Fr.P, List.map_nil] at e1 e1f e2 e3 e4 ⊢
          generalize n.bs.map ndsD = n0 at e2 e3 e4
          generalize n.g.rs.map Rt.D = n1 at e2 e3 e4
          generalize n.g.out.map frsD = n3 at e2 e3 e4
          generalize n.g.lost.map intD = n4 at e2 e3 e4
          try simp at e1
          try simp at e1f
          try simp at e2
          try simp at e3
          try simp at e4
          by_cases h1 : b < 0
          · simp (maxSteps := 3000000) [Tryz.f14, ec_loop, -loadS, -storeS, loadS_cons0, loadS_consS, storeS_cons0, storeS_consS, cellsOf, e0, e1, e1f, e2, e3, e4, hml, h1]
            done
          · by_cases h2 : b < (l.length : Int)
            · obtain ⟨hi0, hrow⟩ := hrow h1 h2
              have h2' : ¬ ((l.length : Int) ≤ b) := by omega
              have hbn : b.toNat < l.length := by omega
              have hb0 : 0 ≤ b := by omega
              by_cases h3 : w < 0
              · simp (maxSteps := 3000000) [Tryz.f14, ec_loop, -loadS, -storeS, loadS_cons0, loadS_consS, storeS_cons0, storeS_consS, cellsOf, e0, e1, e1f, e2, e3, e4, hml, h1, h2', h3]
                done
              · have h4 : (rl : Int) ≤ w := by omega
                simp (maxSteps := 3000000) [Tryz.f14, ec_loop, -loadS, -storeS, loadS_cons0, loadS_consS, storeS_cons0, storeS_consS, cellsOf, e0, e1, e1f, e2, e3, e4, hml, h1, h2, h2', hbn, hb0, h3, hi0, hrow, hmr, h4]
                done
            · have h2' : (l.length : Int) ≤ b := by omega
              simp (maxSteps := 3000000) [Tryz.f14, ec_loop, -loadS, -storeS, loadS_cons0, loadS_consS, storeS_cons0, storeS_consS, cellsOf, e0, e1, e1f, e2, e3, e4, hml, h1, h2']
              done
        · obtain ⟨b, rfl⟩ : ∃ k : Nat, b = (k : Int) := ⟨b.toNat, by omega⟩
          obtain ⟨w, rfl⟩ : ∃ k : Nat, w = (k : Int) := ⟨w.toNat, by omega⟩
          rw [Int.toNat_natCast] at hout
          have hbl : b < l.length := by omega
          have hwl : w < (rw_ l b).length := by omega
          have hsend := send_in (f := f) f1 hbl hwl
          obtain ⟨s1, s2⟩ := fits_send f0 (b : Int) (w : Int) hf
          rw [hsend] at s1 s2 e3
          simp only at s1 s2 e3
          have hrl : ∀ i, i < l.length → (rw_ n.bs i).length = (rw_ l i).length + 1 := fun i hi => by rw [f1, rw_own hi, own_len]
          have hl7 : ∀ i, i < l.length → (rw_ l i).length ≤ 7 := fun i hi => (f4 _ (by rw [rw_get hi]; exact List.getElem_mem hi)).2
          have hnl : n.bs.length = l.length := by rw [f1]; simp
          have e4 := fun σ => b_whole n l hnl (by omega) hrl (fun i hi => by have := hl7 i hi; omega) σ
          have hwn : w < (rw_ n.bs b).length := by rw [hrl b hbl]; omega
          have hq := (Nd.right_iff _).1 ((f0.rows _ (f0.mem (by rw [hnl]; exact hbl))).2.2.1 (nd (rw_ n.bs b) w) (nd_mem hwn))
          have e5 := fun σ => b_Send (nd (rw_ n.bs b) w) f (by omega) σ
          have hyN : ∃ h : b < (n.bs.map ndsD).length, (n.bs.map ndsD)[b] = [.slice ((rw_ n.bs b).map Nd.D)] := ⟨by simp; omega, by rw [List.getElem_map, rw_get (by omega)]; rfl⟩
          have hzN : ∃ h : w < ((rw_ n.bs b).map Nd.D).length, ((rw_ n.bs b).map Nd.D)[w] = (nd (rw_ n.bs b) w).D := ⟨by simpa using hwn, by rw [List.getElem_map, nd_get hwn]⟩
          have hkk : ∀ i k, i < l.length → k < (rw_ l i).length + 1 → nd (rw_ (n.bs.set b ((rw_ n.bs b).set w ((nd (rw_ n.bs b) w).Send f).1)) i) k = if i = b ∧ k = w then ((nd (rw_ n.bs b) w).Send f).1 else nd (rw_ n.bs i) k := by
            intro i k hi hk
            by_cases hib : i = b
            · subst hib
              rw [rw_get (by simp; omega)]
              simp only [List.getElem_set_self]
              by_cases hkw : k = w
              · subst hkw; rw [if_pos (by simp), nd_set_eq hwn]
              · rw [if_neg (by simpa using hkw), nd_set_ne (fun h => hkw h.symm)]
            · rw [if_neg (fun h => hib h.1), rw_get (l := n.bs) (i := i) (by omega), rw_get (by simp; omega)]
              simp only [List.getElem_set_ne (Ne.symm hib)]
          have hml2 : ∀ i, i < l.length → (rw_ (n.bs.set b ((rw_ n.bs b).set w ((nd (rw_ n.bs b) w).Send f).1)) i).length = (rw_ l i).length + 1 := fun i hi => by
            have := s2.row i
            simp only at this
            rw [this]; exact hrl i hi
          have hgg : ∀ i k, i < l.length → k < (rw_ l i).length + 1 → (nd (rw_ (n.bs.set b ((rw_ n.bs b).set w ((nd (rw_ n.bs b) w).Send f).1)) i) k).good := by
            intro i k hi hk
            have hm := s1.mem (k := i) (by simp; omega)
            exact Nd.right_good ((s1.rows _ hm).2.2.1 _ (nd_mem (by rw [hml2 i hi]; exact hk)))
          have e6 := fun σ => b_whole ⟨n.bs.set b ((rw_ n.bs b).set w ((nd (rw_ n.bs b) w).Send f).1), n.g⟩ l (by simpa using hnl) (by omega) hml2 (fun i hi => by have := hl7 i hi; omega) σ
          have hloop := l_ns0 1001 (by omega) l n.bs _ f2 hnl (by simpa using hnl) b w _ (fun i hi => ⟨hl7 i hi, hrl i hi, hml2 i hi⟩) hkk hgg (cellsOf f.P)
          have hrow : ∃ hi : b < (l.map ndsD).length, (l.map ndsD)[b] = [.slice ((rw_ l b).map Nd.D)] := ⟨by simp; omega, by rw [List.getElem_map, rw_get (by omega)]; rfl⟩
          have hmr : ((rw_ l b).map Nd.D).length = (rw_ l b).length := by simp
          have h1 : ¬ ((l.length : Int) ≤ (b : Int)) := by omega
          have h2 : ¬ (((rw_ l b).length : Int) ≤ (w : Int)) := by omega
          have h1' : (b : Int) < (l.length : Int) := by omega
          have hb0 : ¬ ((b : Int) < 0) := by omega
          have hw0 : ¬ ((w : Int) < 0) := by omega
          generalize (rw_ l b).map Nd.D = RW at hrow hmr
          generalize (rw_ l b).length = rl at hwl hmr h2
          generalize hM : n.bs.set b ((rw_ n.bs b).set w ((nd (rw_ n.bs b) w).Send f).1) = mb at e3 e6 hloop
          clear hkk hml2 hgg s1 s2 hsend hrl hl7 f1 f3 f4 hb hM hq hout
          generalize nd (rw_ n.bs b) w = y at e3 e5 hzN hloop
          generalize y.Send f = X at e3 e5 hloop
          obtain ⟨x, ex⟩ := X
          simp only at e3 e5 hloop
          generalize (rw_ n.bs b).map Nd.D = NR at hyN hzN
          obtain ⟨yq, yf, ⟨yt, yr, ys, yz⟩, yg⟩ := y
          obtain ⟨xq, xf, ⟨xt, xr, xs, xz⟩, xg⟩ := x
          obtain ⟨fe, fid, frm, fln, fda⟩ := f
          obtain ⟨hn0, hyN⟩ := hyN
          obtain ⟨hn1, hzN⟩ := hzN
          obtain ⟨hi0, hrow⟩ := hrow
          simp only [Nt.P, Nd.P, Nd.D, Fr.P, cellsOf, List.map_nil] at e1 e1f e2 e3 e4 e5 e6 hzN hloop ⊢
          have hnl2 : (n.bs.map ndsD).length = l.length := by simpa using hnl
          generalize l.map ndsD = l0 at e1 e2 e4 e6 hml hi0 hrow hloop ⊢
          generalize r.map Rt.D = r0 at e1 e2 ⊢
          generalize n.bs.map ndsD = n0 at e2 e3 e4 hn0 hyN hnl2 hloop
          generalize mb.map ndsD = m0 at e3 e6 hloop
          generalize n.g.rs.map Rt.D = n1 at e2 e3 e4 e6
          generalize n.g.out.map frsD = n3 at e2 e3 e4 e6
          generalize n.g.lost.map intD = n4 at e2 e3 e4 e6
          try simp at e1
          try simp at e1f
          try simp at e2
          try simp at e3
          try simp at e4
          try simp at e5
          try simp at e6
          simp (maxSteps := 3000000) [Tryz.f14, ec_loop, -loadS, -storeS, loadS_cons0, loadS_consS, storeS_cons0, storeS_consS, cellsOf, e0, e1, e1f, e2, e3, e4, e5, e6, hml, h1, h2, h1', hb0, hw0, hbl, hi0, hrow, hmr, hn0, hyN, hn1, hzN, hnl2]
          generalize hLL : loopN _ _ _ = LL
          obtain ⟨r', rfl, J', S', rfl, hS', g13, g17, g19⟩ := at_loop hLL (hloop _ _ _ _ _ _ _ _ _ _ _ [] _ rfl rfl rfl rfl rfl rfl rfl rfl rfl rfl rfl 1001 (by omega))
          simp at g13 g17 g19
          change rd S' 13 = _ at g13
          change rd S' 17 = _ at g17
          change rd S' 19 = _ at g19
          simp [-rd, rd_ne, rd_eq, hS', g13, g17, g19]
      · have he2 : (e != 0) = true := by simpa using he
        clear hfn
        generalize l.map ndsD = l0 at e1 e2 ⊢
        generalize r.map Rt.D = r0 at e1 e2 ⊢
        obtain ⟨fe, fid, frm, fln, fda⟩ := f
        try simp at e1
        try simp at e1f
        try simp at e2
        simp (maxSteps := 3000000) [Tryz.f14, ec_loop, -loadS, -storeS, loadS_cons0, loadS_consS, storeS_cons0, storeS_consS, cellsOf, e0, e1, e1f, e2, he2]
    · rw [hg] at e1
      rw [hgf] at e1f
      generalize l.map ndsD = l0 at e1 ⊢
      generalize r.map Rt.D = r0 at e1 ⊢
      obtain ⟨fe, fid, frm, fln, fda⟩ := f
      try simp at e1
      try simp at e1f
      simp (maxSteps := 3000000) [Tryz.f14, ec_loop, -loadS, -storeS, loadS_cons0, loadS_consS, storeS_cons0, storeS_consS, cellsOf, e0, e1, e1f]
  · rw [hg] at e1
    generalize l.map ndsD = l0 at e1 ⊢
    generalize r.map Rt.D = r0 at e1 ⊢
    obtain ⟨fe, fid, frm, fln, fda⟩ := f
    try simp at e1
    simp (maxSteps := 3000000) [Tryz.f14, ec_loop, -loadS, -storeS, loadS_cons0, loadS_consS, storeS_cons0, storeS_consS, cellsOf, e0, e1]
def netSends_types : List TypeId := [66, 63, 3, 3, 3, 34]
theorem netSends_args (ps : List PV) (h : OkArgs Tryz.prog 8 netSends_types ps) : ∃ σ', evI E1 14 ps [] = some (.d (.bool true), σ') := by
  obtain ⟨d1, _, h1, rfl, d2, _, h2, rfl, d3, _, h3, rfl, d4, _, h4, rfl, d5, _, h5, rfl, d6, _, h6, rfl, rfl⟩ := h
  obtain ⟨l, rfl, hb⟩ := ok_Ndss (d := 1) h1
  obtain ⟨r, rfl, _⟩ := ok_Rts (d := 4) h2
  obtain ⟨room, rfl, _⟩ := ok_int (d := 7) h3
  obtain ⟨b, rfl, _⟩ := ok_int (d := 7) h4
  obtain ⟨w, rfl, _⟩ := ok_int (d := 7) h5
  obtain ⟨f, rfl, hf⟩ := ok_Fr (d := 5) h6
  rw [arg_Ndss, arg_Rts, arg_int, arg_int, arg_int, arg_Fr]
  exact netSends_true l r room b w f (fun x hx => (hb x hx).1) (Fr.wf_by hf)
end Go.Proofs

namespace Go.Proofs.YtnnindnmpfmaaaaGreat.netSends
open Go.ChangeShapes Go.WideShapes Go.ChangeAt Go.RowKit Go.Pv
set_option linter.unusedVariables false
theorem own : ownKnob Tryz.prog.godebug = none := by kernel_rfl
theorem laidOut : laidOutB Tryz.prog = true := by kernel_rfl
set_option maxRecDepth 100000 in
theorem lifted (os : Os) (started : os.Started) (H : Type) (enc : TypeId × Value → H) :
    ReturnsInHanded {} Tryz.checked os 14 .any (Rows.netSendsSpec.pre6 enc Tryz.prog Tryz.f14 Rows.netSendsRow.domain false) (Rows.netSendsSpec.post enc Tryz.prog Tryz.f14 false true false false) := by
  refine returnsInHanded_of_change_sized (C := Tryz.checked) own started (by kernel_rfl) Tryz.func14
    (ChangeSpec.witness6 (enc := enc) (C := Tryz.checked) false ⟨#[], #[.slice none 0 0, .slice none 0 0, .int .i64 0, .int .i64 0, .int .i64 0, .agg #[.bool false, .int .i64 0, .bool false, .int .i64 0, .slice none 0 0]], []⟩ 8 (by kernel_rfl) (by kernel_rfl) (by kernel_rfl) (by kernel_rfl)) ?_
  intro W base args ds gs before hval0 hW hcnd hsz0 _
  have hval : ∀ (j : Nat) t v, Tryz.f14.params[j]? = some t → args[j]? = some v → Value.okWide Tryz.prog W .any base t v := hval0
  have hW' := hW
  obtain ⟨p, q, hA0, hV, rfl, hfz, hnd⟩ := hW
  have hA : DataW.TrodAll enc Tryz.prog W 0 (fun _ => true) true Tryz.f14.params.toList args.toList ds p := hA0
  rw [Tryz.params14] at hA hval
  obtain ⟨v0, vs0, d0, ds0, p0, q0, hargs0, rfl, rfl, h0, r0⟩ := trodAll_cons hA
  obtain ⟨v1, vs1, d1, ds1, p1, q1, hargs1, rfl, rfl, h1, r1⟩ := trodAll_cons r0
  obtain ⟨v2, vs2, d2, ds2, p2, q2, hargs2, rfl, rfl, h2, r2⟩ := trodAll_cons r1
  obtain ⟨v3, vs3, d3, ds3, p3, q3, hargs3, rfl, rfl, h3, r3⟩ := trodAll_cons r2
  obtain ⟨v4, vs4, d4, ds4, p4, q4, hargs4, rfl, rfl, h4, r4⟩ := trodAll_cons r3
  obtain ⟨v5, vs5, d5, ds5, p5, q5, hargs5, rfl, rfl, h5, r5⟩ := trodAll_cons r4
  obtain ⟨hn1, rfl, rfl⟩ := trodAll_nil r5
  obtain ⟨rfl, rfl⟩ := trodVars_none hV
  refine (law_calls E1_ok (f := 14) (types := netSends_types) (depth := 8) (by kernel_rfl) netSends_args hA (fun j t v hj hv => hval j t v (by simpa [netSends_types] using hj) hv)).mono fun e W' ⟨he, bel⟩ => ?_
  subst he
  exact ⟨_, rfl, _, _, _, [], _, [], hW', trodAll_mk1 (shut_bool Tryz.underlying4 _), trodAll_below laidOut bel netSends_types _ _ _ (by kernel_rfl) hA, rfl, bel.frame _, fun h => by cases h⟩
theorem over : Rows.netSendsRow.holds Tryz.pinned (OpenSpec.ofChange Rows.netSendsSpec) :=
  OpenClaim.holds_of_wide 14 Tryz.f14 rfl rfl rfl rfl rfl rfl rfl ⟨rfl, rfl, rfl, rfl, rfl⟩ rfl rfl rfl rfl rfl (by kernel_rfl) Tryz.func14 (by kernel_rfl)
    (of_decide_eq_true (by kernel_rfl)) (by unfold Func.isWrapper; first | (rw [if_pos (by decide +kernel)]; kernel_rfl) | (rw [if_neg (by decide +kernel)]; exact ⟨rfl, rfl⟩))
    (fun os started H enc _ => lifted os started H enc)
end Go.Proofs.YtnnindnmpfmaaaaGreat.netSends
namespace Go.Proofs.YtnnindnmpfmaaaaGreat
theorem netSends_holds : Rows.NetSendsSaid := netSends.over
end Go.Proofs.YtnnindnmpfmaaaaGreat
#print axioms Go.Proofs.YtnnindnmpfmaaaaGreat.netSends_holds

