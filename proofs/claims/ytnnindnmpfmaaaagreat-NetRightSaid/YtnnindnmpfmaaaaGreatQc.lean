/- NetRight: its call answers true; NetRight: the given statement, for every input: true, and each argument reads behind the call as it read before. -/
import Derived.Test.YtnnindnmpfmaaaaGreatPm
import Derived.Test.YtnnindnmpfmaaaaGreatRows
import Derived.WalkKit
import Derived.ProofKit
import Derived.OpenShut
import Derived.ShutString
import Derived.ChangeOld
import Derived.Below
import Derived.SizedLaws
set_option linter.unusedVariables false
set_option linter.unusedSimpArgs false
set_option maxRecDepth 100000
set_option maxHeartbeats 8000000
namespace Go.Proofs
open Go.RowKit Go.Shelf Go.Pv

theorem l_nr2 (m : Nat) (L0 B0 : List (List DV)) (a1 a2 a3 a4 : PV) (k : Nat) (lk row : List Nd) (hL : L0[k]? = some (ndsD lk)) (hB : B0[k]? = some (ndsD row)) (hlen : row.length = lk.length + 1) (hl : row.length ≤ 1000) (hr : rights row) (hlast : lastE row) (v3 v9 v11 v12 : PV) (S : List PV) (hS : S.length = 177)
    (h0 : rd S 0 = .d (.slice L0)) (h3 : rd S 3 = v3) (h9 : rd S 9 = v9) (h10 : rd S 10 = .ptr 0 0) (h11 : rd S 11 = v11) (h12 : rd S 12 = v12) (h13 : rd S 13 = .d (.int .i64 k)) (h14 : rd S 14 = .d (.int .i64 0)) (n : Nat) (hn : row.length < n) :
    Lp (loopN (evCode E1 (evI E1) m (theLoop Tryz.f9 2)) n ⟨S, [[.d (.slice B0), a1, a2, a3, a4]]⟩) fun r => ∃ S' : List PV, r = (.exit 5, ⟨S', [[.d (.slice B0), a1, a2, a3, a4]]⟩) ∧ S'.length = 177 ∧ rd S' 0 = .d (.slice L0) ∧ rd S' 3 = v3 ∧ rd S' 9 = v9 ∧ rd S' 10 = .ptr 0 0 ∧ rd S' 11 = v11 ∧ rd S' 12 = v12 ∧ rd S' 13 = .d (.int .i64 k) := by
  obtain ⟨hk0, hL⟩ := List.getElem?_eq_some_iff.1 hL
  obtain ⟨hk1, hB⟩ := List.getElem?_eq_some_iff.1 hB
  have hml : (lk.map Nd.D).length = lk.length := by simp
  have hmr : (row.map Nd.D).length = row.length := by simp
  refine loop_inv (fun j st => ∃ S : List PV, st = ⟨S, [[.d (.slice B0), a1, a2, a3, a4]]⟩ ∧ S.length = 177 ∧ rd S 0 = .d (.slice L0) ∧ rd S 3 = v3 ∧ rd S 9 = v9 ∧ rd S 10 = .ptr 0 0 ∧ rd S 11 = v11 ∧ rd S 12 = v12 ∧ rd S 13 = .d (.int .i64 k) ∧ rd S 14 = .d (.int .i64 j)) _ row.length ?_ ?_ n 0 _ (by omega) (by omega) ⟨S, rfl, hS, h0, h3, h9, h10, h11, h12, h13, h14⟩
  · rintro j st hj ⟨S, rfl, hS, h0, h3, h9, h10, h11, h12, h13, h14⟩
    have hlt : (j : Int) < (row.length : Int) := by omega
    have hy : (row.map Nd.D)[j]? = some (row[j]).D := by simp [hj]
    have hx : nd row j = row[j] := nd_get hj
    have c1 := fun σ => b_right' (hr _ (List.getElem_mem hj)) σ
    have hg : j = lk.length → row[j].g = [] := fun h => by
      unfold lastE at hlast
      rw [← hx]
      rw [show row.length - 1 = j by omega] at hlast
      exact hlast
    clear hx hlast hr
    generalize row[j] = x at hy c1 hg
    obtain ⟨q, fs, ⟨ct, cr, cs, cz⟩, gg⟩ := x
    simp only at hg
    have hmg : (gg.map Fr.D).length = gg.length := by simp
    simp only [ndsD] at hL hB
    simp only [Nd.D] at hy
    simp only [Nd.P] at c1
    generalize q.map Fr.D = Q at hy c1
    generalize fs.map Fl.D = F at hy c1
    generalize gg.map Fr.D = G at hy c1 hmg
    generalize lk.map Nd.D = LK at hL hml
    generalize row.map Nd.D = R at hB hmr hy
    obtain ⟨hj0, hy⟩ := List.getElem?_eq_some_iff.1 hy
    try simp at c1
    by_cases he : j = lk.length
    · have hz : (gg.length : Int) = 0 := by rw [hg he]; rfl
      have hjI : ((j : Int) == (lk.length : Int)) = true := by simp [he]
      simp [theLoop, Tryz.f9, loopsAll, Lp_some, and_assoc, -rd, rd_ne, rd_eq, -loadS, -storeS, loadS_cons0, loadS_consS, cellsOf, hS, h0, h3, h9, h10, h11, h12, h13, h14, hk0, hk1, hL, hB, hml, hmr, hmg, hj, hj0, hlt, hy, c1, hjI, hz, wrap_succ j (by omega)]
      done
    · have hjI : ((j : Int) == (lk.length : Int)) = false := by simp; omega
      simp [theLoop, Tryz.f9, loopsAll, Lp_some, and_assoc, -rd, rd_ne, rd_eq, -loadS, -storeS, loadS_cons0, loadS_consS, cellsOf, hS, h0, h3, h9, h10, h11, h12, h13, h14, hk0, hk1, hL, hB, hml, hmr, hmg, hj, hj0, hlt, hy, c1, hjI, wrap_succ j (by omega)]
      done
  · rintro st ⟨S, rfl, hS, h0, h3, h9, h10, h11, h12, h13, h14⟩
    simp only [ndsD] at hL hB
    generalize row.map Nd.D = R at hB hmr
    simp [theLoop, Tryz.f9, loopsAll, Lp_some, and_assoc, -rd, rd_ne, rd_eq, -loadS, -storeS, loadS_cons0, loadS_consS, hS, h0, h3, h9, h10, h11, h12, h13, h14, hk1, hB, hmr]
    done

theorem l_nr1 (m : Nat) (hm : 1000 < m) (l bs : List (List Nd)) (a1 a2 a3 a4 : PV) (hbl : bs.length = l.length) (hlen : ∀ k, (rw_ bs k).length = if k < l.length then (rw_ l k).length + 1 else 0) (hl : l.length ≤ 4) (hr : ∀ r ∈ bs, r.length ≤ 8 ∧ rights r ∧ lastE r) (v3 v9 v11 v12 : PV) (S : List PV) (hS : S.length = 177)
    (h0 : rd S 0 = .d (.slice (l.map ndsD))) (h3 : rd S 3 = v3) (h9 : rd S 9 = v9) (h10 : rd S 10 = .ptr 0 0) (h11 : rd S 11 = v11) (h12 : rd S 12 = v12) (h13 : rd S 13 = .d (.int .i64 0)) (n : Nat) (hn : l.length < n) :
    Lp (loopN (evCode E1 (evI E1) m (theLoop Tryz.f9 1)) n ⟨S, [[.d (.slice (bs.map ndsD)), a1, a2, a3, a4]]⟩) fun r => ∃ S' : List PV, r = (.exit 3, ⟨S', [[.d (.slice (bs.map ndsD)), a1, a2, a3, a4]]⟩) ∧ S'.length = 177 ∧ rd S' 0 = .d (.slice (l.map ndsD)) ∧ rd S' 3 = v3 ∧ rd S' 9 = v9 ∧ rd S' 10 = .ptr 0 0 ∧ rd S' 11 = v11 ∧ rd S' 12 = v12 := by
  have hml : (l.map ndsD).length = l.length := by simp
  refine loop_inv (fun k st => ∃ S : List PV, st = ⟨S, [[.d (.slice (bs.map ndsD)), a1, a2, a3, a4]]⟩ ∧ S.length = 177 ∧ rd S 0 = .d (.slice (l.map ndsD)) ∧ rd S 3 = v3 ∧ rd S 9 = v9 ∧ rd S 10 = .ptr 0 0 ∧ rd S 11 = v11 ∧ rd S 12 = v12 ∧ rd S 13 = .d (.int .i64 k)) _ l.length ?_ ?_ n 0 _ (by omega) (by omega) ⟨S, rfl, hS, h0, h3, h9, h10, h11, h12, h13⟩
  · rintro k st hk ⟨S, rfl, hS, h0, h3, h9, h10, h11, h12, h13⟩
    have hlt : (k : Int) < (l.length : Int) := by omega
    have hL : (l.map ndsD)[k]? = some (ndsD l[k]) := by simp [hk]
    have hkb : k < bs.length := by omega
    have hB : (bs.map ndsD)[k]? = some (ndsD bs[k]) := by simp [hkb]
    obtain ⟨r1, r2, r3⟩ := hr _ (List.getElem_mem hkb)
    have hlk := hlen k
    rw [if_pos hk, rw_get hk, rw_get hkb] at hlk
    have hloop := l_nr2 m (l.map ndsD) (bs.map ndsD) a1 a2 a3 a4 k l[k] bs[k] hL hB hlk (by omega) r2 r3
    clear r2 r3 hr hlen
    generalize l[k] = lk at hL hlk hloop
    generalize bs[k] = row at hB hlk r1 hloop
    have hmk : (lk.map Nd.D).length = lk.length := by simp
    have hmr : (row.map Nd.D).length = row.length := by simp
    have hw : IntKind.i64.wrap ((lk.length : Int) + 1) = (row.length : Int) := by rw [wrap_ok (by omega) (by omega)]; omega
    generalize l.map ndsD = L0 at hml hL h0 hloop ⊢
    generalize bs.map ndsD = B0 at hB hloop ⊢
    obtain ⟨hk0, hL⟩ := List.getElem?_eq_some_iff.1 hL
    obtain ⟨hk1, hB⟩ := List.getElem?_eq_some_iff.1 hB
    simp only [ndsD] at hL hB
    generalize lk.map Nd.D = LK at hL hmk
    generalize row.map Nd.D = R at hB hmr
    simp [theLoop, Tryz.f9, loopsAll, ec_loop, Lp_some, and_assoc, -rd, rd_ne, rd_eq, -loadS, -storeS, loadS_cons0, loadS_consS, cellsOf, hS, h0, h3, h9, h10, h11, h12, h13, hk, hk0, hk1, hL, hB, hml, hmk, hmr, hw, hlt]
    generalize hLL : loopN _ _ _ = LL
    obtain ⟨r, rfl, S', rfl, hS', g0, g3, g9, g10, g11, g12, g13⟩ := at_loop hLL (hloop _ _ _ _ _ (by simp [hS]) (by simp [-rd, rd_ne, rd_eq, hS, h0]) (by simp [-rd, rd_ne, rd_eq, hS, h3]; rfl) (by simp [-rd, rd_ne, rd_eq, hS, h9]; rfl) (by simp [-rd, rd_ne, rd_eq, hS, h10]) (by simp [-rd, rd_ne, rd_eq, hS, h11]; rfl) (by simp [-rd, rd_ne, rd_eq, hS, h12]; rfl) (by simp [-rd, rd_ne, rd_eq, hS, h13]) (by simp [-rd, rd_ne, rd_eq, hS]) m (by omega))
    simp [Lp_some, and_assoc, -rd, rd_ne, rd_eq, hS', g0, g3, g9, g10, g11, g12, g13, wrap_succ k (by omega)]
    done
  · rintro st ⟨S, rfl, hS, h0, h3, h9, h10, h11, h12, h13⟩
    generalize l.map ndsD = L0 at hml h0 ⊢
    generalize bs.map ndsD = B0
    simp [theLoop, Tryz.f9, loopsAll, Lp_some, and_assoc, -rd, rd_ne, rd_eq, -loadS, -storeS, loadS_cons0, loadS_consS, hS, h0, h3, h9, h10, h11, h12, h13, hml]
    done

/-- What an act makes of a net. -/
def actA (L : Nat) (N : Nt) (a : Act) : Nt := if a.d = 0 then sendA N a else if a.d = 1 then (if 0 ≤ a.b ∧ a.b < L then (N.Slot a.b.toNat a.who).1 else N) else (N.Calm a.m).1
theorem fits_actA {n : Nt} (h : n.fits) {a : Act} (hb : byOk a.f.data) : (actA n.bs.length n a).fits ∧ (actA n.bs.length n a).like n := by
  unfold actA
  split
  · exact fits_send h _ _ hb
  · split
    · split
      · exact fits_slot h (by omega) _
      · exact ⟨h, .rfl' n⟩
    · exact fits_calm h _

theorem l_nr0 (m : Nat) (hm : 1000 < m) (l : List (List Nd)) (hl : l.length ≤ 4) (al : List Act) (hal : al.length ≤ 30) (hb : ∀ a ∈ al, byOk a.f.data ∧ a.who.length ≤ 30) (n0 : Nt) (h0 : n0.fits) (hn0 : n0.bs = l.map ownIn) (v9 : PV) (S : List PV) (hS : S.length = 177)
    (s0 : rd S 0 = .d (.slice (l.map ndsD))) (s3 : rd S 3 = .d (.slice (al.map Act.D))) (s9 : rd S 9 = v9) (s10 : rd S 10 = .ptr 0 0) (s11 : rd S 11 = .d (.int .i64 0)) (s12 : rd S 12 = .d (.int .i64 0)) (k : Nat) (hk : al.length < k) :
    Lp (loopN (evCode E1 (evI E1) m (theLoop Tryz.f9 0)) k ⟨S, [Nt.C n0.bs n0.g]⟩) fun r => ∃ (J : Store) (S' : List PV), r = (.exit 0, ⟨S', J⟩) ∧ S'.length = 177 ∧ rd S' 9 = v9 := by
  have hml : (al.map Act.D).length = al.length := by simp
  have hll : (l.map ndsD).length = l.length := by simp
  refine loop_inv (fun i st => ∃ (N : Nt) (S : List PV), st = ⟨S, [Nt.C N.bs N.g]⟩ ∧ N.fits ∧ N.like n0 ∧ S.length = 177 ∧ rd S 0 = .d (.slice (l.map ndsD)) ∧ rd S 3 = .d (.slice (al.map Act.D)) ∧ rd S 9 = v9 ∧ rd S 10 = .ptr 0 0 ∧ rd S 11 = .d (.int .i64 0) ∧ rd S 12 = .d (.int .i64 i)) _ al.length ?_ ?_ k 0 _ (by omega) (by omega) ⟨n0, S, rfl, h0, .rfl' _, hS, s0, s3, s9, s10, s11, s12⟩
  · rintro i st hi ⟨N, S, rfl, f1, f2, hS, s0, s3, s9, s10, s11, s12⟩
    have hlt : (i : Int) < (al.length : Int) := by omega
    have hx : (al.map Act.D)[i]? = some (al[i]).D := by simp [hi]
    obtain ⟨hba, hwa⟩ := hb _ (List.getElem_mem hi)
    generalize al[i] = a at hx hba hwa
    have hNl : N.bs.length = l.length := by rw [f2.len, hn0]; simp
    have hact := fits_actA f1 hba
    have hact2 : ∀ N' : Nt, N' = actA N.bs.length N a → N'.fits ∧ N'.like n0 ∧ N'.bs.length = l.length ∧ (∀ k, (rw_ N'.bs k).length = if k < l.length then (rw_ l k).length + 1 else 0) ∧ (∀ r ∈ N'.bs, r.length ≤ 8 ∧ rights r ∧ lastE r) := by
      rintro N' rfl
      have f3 := hact.2.trans f2
      refine ⟨hact.1, f3, by rw [f3.len, hn0]; simp, fun k => ?_, fun r hr => ⟨(hact.1.rows r hr).2.1, (hact.1.rows r hr).2.2.1, hact.1.last r hr⟩⟩
      rw [f3.row k, hn0]
      unfold rw_
      rw [List.getD_eq_getElem?_getD, List.getElem?_map, List.getD_eq_getElem?_getD]
      split
      · rename_i hk
        rw [List.getElem?_eq_getElem hk]
        simp [ownIn]
      · rename_i hk
        rw [List.getElem?_eq_none (by omega)]
        rfl
    have hgo : ∀ N' : Nt, N' = actA N.bs.length N a → ∀ (S : List PV) LL, loopN (evCode E1 (evI E1) m (theLoop Tryz.f9 1)) m ⟨S, [Nt.C N'.bs N'.g]⟩ = LL → S.length = 177 → rd S 0 = .d (.slice (l.map ndsD)) → rd S 3 = .d (.slice (al.map Act.D)) → rd S 9 = v9 → rd S 10 = .ptr 0 0 → rd S 11 = .d (.int .i64 0) → rd S 12 = .d (.int .i64 i) → rd S 13 = .d (.int .i64 0) → ∃ S' : List PV, LL = some (.exit 3, ⟨S', [Nt.C N'.bs N'.g]⟩) ∧ S'.length = 177 ∧ rd S' 0 = .d (.slice (l.map ndsD)) ∧ rd S' 3 = .d (.slice (al.map Act.D)) ∧ rd S' 9 = v9 ∧ rd S' 10 = .ptr 0 0 ∧ rd S' 11 = .d (.int .i64 0) ∧ rd S' 12 = .d (.int .i64 i) := by
      intro N' hN' S LL hLL hS s0 s3 s9 s10 s11 s12 s13
      obtain ⟨_, _, q3, q4, q5⟩ := hact2 N' hN'
      obtain ⟨r, rfl, S', rfl, hS', g⟩ := at_loop hLL (l_nr1 m hm l N'.bs _ _ _ _ q3 q4 hl q5 _ _ _ _ S hS s0 s3 s9 s10 s11 s12 s13 m (by omega))
      exact ⟨S', rfl, hS', g⟩
    have hfin : ∀ N' : Nt, N' = actA N.bs.length N a → N'.fits ∧ N'.like n0 ∧ (N'.bs.map ndsD).length = l.length := fun N' h => by
      obtain ⟨q1, q2, q3, _⟩ := hact2 N' h
      exact ⟨q1, q2, by simpa using q3⟩
    clear hact hact2
    have c1 := fun σ => b_netSend N f1.ok.1 a.b a.n a.f σ
    have c2 := fun (b : Nat) (hbk : b < N.bs.length) σ => f_slot f1 hbk a.who (by omega) σ
    have c3 := fun σ => b_netCalm N f1 a.m σ
    unfold actA at hgo hfin
    unfold sendA at hgo hfin
    rw [hNl] at hgo hfin c2
    obtain ⟨ad, ab, an, ⟨fe, fid, frm, fln, fda⟩, aw, am⟩ := a
    simp only [Act.D] at c1 c2 c3 hx hgo hfin
    simp only [Nt.C, Nt.P] at c1 c2 c3 hgo ⊢
    generalize hB0 : N.bs.map ndsD = b0 at c1 c2 c3 ⊢
    generalize hB1 : N.g.rs.map Rt.D = b1 at c1 c2 c3 ⊢
    generalize hB3 : N.g.out.map frsD = b3 at c1 c2 c3 ⊢
    generalize hB4 : N.g.lost.map intD = b4 at c1 c2 c3 ⊢
    generalize l.map ndsD = L0 at hll s0 hgo ⊢
    generalize al.map Act.D = A0 at hx hml s3 hgo ⊢
    obtain ⟨hi0, hx⟩ := List.getElem?_eq_some_iff.1 hx
    by_cases hd0 : ad = 0
    · subst hd0
      clear c2 c3
      simp only [if_true] at hgo hfin
      generalize N.Send ab an ⟨fe, fid, frm, fln, fda⟩ = R at c1 hgo hfin
      obtain ⟨N', e⟩ := R
      simp only at c1 hgo hfin
      obtain ⟨q1, q2, q3⟩ := hfin N' rfl
      have hgo := hgo N' rfl
      try simp at c1
      generalize hC0 : N'.bs.map ndsD = x0 at c1 hgo q3
      generalize hC1 : N'.g.rs.map Rt.D = x1 at c1 hgo
      generalize hC3 : N'.g.out.map frsD = x3 at c1 hgo
      generalize hC4 : N'.g.lost.map intD = x4 at c1 hgo
      simp [theLoop, Tryz.f9, loopsAll, ec_loop, Lp_some, and_assoc, -rd, rd_ne, rd_eq, -loadS, -storeS, loadS_cons0, loadS_consS, storeS_cons0, storeS_consS, cellsOf, bin_eq8, hS, s0, s3, s9, s10, s11, s12, hlt, hi, hi0, hx, hml, hll, c1, q3]
      generalize hLL : loopN _ _ _ = LL
      obtain ⟨S', rfl, hS', g0, g3, g9, g10, g11, g12⟩ := hgo _ _ hLL (by simp [hS]) (by simp [-rd, rd_ne, rd_eq, hS, s0]) (by simp [-rd, rd_ne, rd_eq, hS, s3]) (by simp [-rd, rd_ne, rd_eq, hS, s9]) (by simp [-rd, rd_ne, rd_eq, hS, s10]) (by simp [-rd, rd_ne, rd_eq, hS, s11]) (by simp [-rd, rd_ne, rd_eq, hS, s12]) (by simp [-rd, rd_ne, rd_eq, hS])
      simp [Lp_some, and_assoc, -rd, rd_ne, rd_eq, hS', g0, g3, g9, g10, g11, g12, wrap_succ i (by omega)]
      exact ⟨N', hC0.symm, hC1.symm, rfl, hC3.symm, hC4.symm, q1, q2⟩
    · simp only [hd0, if_false] at hgo hfin
      have hz0 : (ad == 0) = false := by simpa using hd0
      by_cases hd1 : ad = 1
      · subst hd1
        clear c1 c3
        simp only [if_true] at hgo hfin
        by_cases hbk : 0 ≤ ab ∧ ab < l.length
        · rw [if_pos hbk] at hgo hfin
          obtain ⟨b, rfl⟩ : ∃ b : Nat, ab = (b : Int) := ⟨ab.toNat, by omega⟩
          have hbI : (b : Int) < (l.length : Int) := hbk.2
          have hbN : b < l.length := by omega
          have c2 := c2 b (by omega)
          rw [Int.toNat_natCast] at hgo hfin
          generalize N.Slot b aw = R at c2 hgo hfin
          obtain ⟨N', ⟨tw, tf, tb, tz⟩⟩ := R
          simp only at c2 hgo hfin
          obtain ⟨q1, q2, q3⟩ := hfin N' rfl
          have hgo := hgo N' rfl
          try simp at c2
          generalize hC0 : N'.bs.map ndsD = x0 at c2 hgo q3
          generalize hC1 : N'.g.rs.map Rt.D = x1 at c2 hgo
          generalize hC3 : N'.g.out.map frsD = x3 at c2 hgo
          generalize hC4 : N'.g.lost.map intD = x4 at c2 hgo
          simp [theLoop, Tryz.f9, loopsAll, ec_loop, Lp_some, and_assoc, -rd, rd_ne, rd_eq, -loadS, -storeS, loadS_cons0, loadS_consS, storeS_cons0, storeS_consS, cellsOf, bin_eq8, hS, s0, s3, s9, s10, s11, s12, hlt, hi, hi0, hx, hml, hll, c2, q3, hbI, hbN]
          generalize hLL : loopN _ _ _ = LL
          obtain ⟨S', rfl, hS', g0, g3, g9, g10, g11, g12⟩ := hgo _ _ hLL (by simp [hS]) (by simp [-rd, rd_ne, rd_eq, hS, s0]) (by simp [-rd, rd_ne, rd_eq, hS, s3]) (by simp [-rd, rd_ne, rd_eq, hS, s9]) (by simp [-rd, rd_ne, rd_eq, hS, s10]) (by simp [-rd, rd_ne, rd_eq, hS, s11]) (by simp [-rd, rd_ne, rd_eq, hS, s12]) (by simp [-rd, rd_ne, rd_eq, hS])
          simp [Lp_some, and_assoc, -rd, rd_ne, rd_eq, hS', g0, g3, g9, g10, g11, g12, wrap_succ i (by omega)]
          exact ⟨N', hC0.symm, hC1.symm, rfl, hC3.symm, hC4.symm, q1, q2⟩
        · rw [if_neg hbk] at hgo hfin
          obtain ⟨q1, q2, q3⟩ := hfin N rfl
          have hgo := hgo N rfl
          rw [hB0, hB1, hB3, hB4] at hgo
          rw [hB0] at q3
          clear c2
          by_cases hb0 : 0 ≤ ab
          · have hb1 : ¬ (ab < (l.length : Int)) := fun h => hbk ⟨hb0, h⟩
            simp [theLoop, Tryz.f9, loopsAll, ec_loop, Lp_some, and_assoc, -rd, rd_ne, rd_eq, -loadS, -storeS, loadS_cons0, loadS_consS, storeS_cons0, storeS_consS, cellsOf, bin_eq8, hS, s0, s3, s9, s10, s11, s12, hlt, hi, hi0, hx, hml, hll, q3, hb0, hb1]
            generalize hLL : loopN _ _ _ = LL
            obtain ⟨S', rfl, hS', g0, g3, g9, g10, g11, g12⟩ := hgo _ _ hLL (by simp [hS]) (by simp [-rd, rd_ne, rd_eq, hS, s0]) (by simp [-rd, rd_ne, rd_eq, hS, s3]) (by simp [-rd, rd_ne, rd_eq, hS, s9]) (by simp [-rd, rd_ne, rd_eq, hS, s10]) (by simp [-rd, rd_ne, rd_eq, hS, s11]) (by simp [-rd, rd_ne, rd_eq, hS, s12]) (by simp [-rd, rd_ne, rd_eq, hS])
            simp [Lp_some, and_assoc, -rd, rd_ne, rd_eq, hS', g0, g3, g9, g10, g11, g12, wrap_succ i (by omega)]
            exact ⟨N, hB0.symm, hB1.symm, rfl, hB3.symm, hB4.symm, q1, q2⟩
          · simp [theLoop, Tryz.f9, loopsAll, ec_loop, Lp_some, and_assoc, -rd, rd_ne, rd_eq, -loadS, -storeS, loadS_cons0, loadS_consS, storeS_cons0, storeS_consS, cellsOf, bin_eq8, hS, s0, s3, s9, s10, s11, s12, hlt, hi, hi0, hx, hml, hll, q3, hb0]
            generalize hLL : loopN _ _ _ = LL
            obtain ⟨S', rfl, hS', g0, g3, g9, g10, g11, g12⟩ := hgo _ _ hLL (by simp [hS]) (by simp [-rd, rd_ne, rd_eq, hS, s0]) (by simp [-rd, rd_ne, rd_eq, hS, s3]) (by simp [-rd, rd_ne, rd_eq, hS, s9]) (by simp [-rd, rd_ne, rd_eq, hS, s10]) (by simp [-rd, rd_ne, rd_eq, hS, s11]) (by simp [-rd, rd_ne, rd_eq, hS, s12]) (by simp [-rd, rd_ne, rd_eq, hS])
            simp [Lp_some, and_assoc, -rd, rd_ne, rd_eq, hS', g0, g3, g9, g10, g11, g12, wrap_succ i (by omega)]
            exact ⟨N, hB0.symm, hB1.symm, rfl, hB3.symm, hB4.symm, q1, q2⟩
      · have hz1 : (ad == 1) = false := by simpa using hd1
        simp only [hd1, if_false] at hgo hfin
        clear c1 c2
        generalize N.Calm am = R at c3 hgo hfin
        obtain ⟨N', e⟩ := R
        simp only at c3 hgo hfin
        obtain ⟨q1, q2, q3⟩ := hfin N' rfl
        have hgo := hgo N' rfl
        try simp at c3
        generalize hC0 : N'.bs.map ndsD = x0 at c3 hgo q3
        generalize hC1 : N'.g.rs.map Rt.D = x1 at c3 hgo
        generalize hC3 : N'.g.out.map frsD = x3 at c3 hgo
        generalize hC4 : N'.g.lost.map intD = x4 at c3 hgo
        simp [theLoop, Tryz.f9, loopsAll, ec_loop, Lp_some, and_assoc, -rd, rd_ne, rd_eq, -loadS, -storeS, loadS_cons0, loadS_consS, storeS_cons0, storeS_consS, cellsOf, bin_eq8, hS, s0, s3, s9, s10, s11, s12, hlt, hi, hi0, hx, hml, hll, c3, q3, hz0, hz1]
        generalize hLL : loopN _ _ _ = LL
        obtain ⟨S', rfl, hS', g0, g3, g9, g10, g11, g12⟩ := hgo _ _ hLL (by simp [hS]) (by simp [-rd, rd_ne, rd_eq, hS, s0]) (by simp [-rd, rd_ne, rd_eq, hS, s3]) (by simp [-rd, rd_ne, rd_eq, hS, s9]) (by simp [-rd, rd_ne, rd_eq, hS, s10]) (by simp [-rd, rd_ne, rd_eq, hS, s11]) (by simp [-rd, rd_ne, rd_eq, hS, s12]) (by simp [-rd, rd_ne, rd_eq, hS])
        simp [Lp_some, and_assoc, -rd, rd_ne, rd_eq, hS', g0, g3, g9, g10, g11, g12, wrap_succ i (by omega)]
        exact ⟨N', hC0.symm, hC1.symm, rfl, hC3.symm, hC4.symm, q1, q2⟩
  · rintro st ⟨N, S, rfl, f1, f2, hS, s0, s3, s9, s10, s11, s12⟩
    generalize Nt.C N.bs N.g = B
    generalize al.map Act.D = A0 at hml s3 ⊢
    simp [theLoop, Tryz.f9, loopsAll, Lp_some, and_assoc, -rd, rd_ne, rd_eq, hS, s0, s3, s9, s10, s11, s12, hml]
    done

theorem l_nrE (m : Nat) (A0 : List (List DV)) (e : Int) (he : (e == 0) = false) (B : List PV) (v9 : PV) (S : List PV) (hS : S.length = 177) (s3 : rd S 3 = .d (.slice A0)) (s9 : rd S 9 = v9) (s11 : rd S 11 = .d (.int .i64 e)) (s12 : rd S 12 = .d (.int .i64 0)) (k : Nat) (hk : 0 < k) :
    Lp (loopN (evCode E1 (evI E1) m (theLoop Tryz.f9 0)) k ⟨S, [B]⟩) fun r => ∃ (J : Store) (S' : List PV), r = (.exit 0, ⟨S', J⟩) ∧ S'.length = 177 ∧ rd S' 9 = v9 := by
  refine loop_inv (fun i st => st = ⟨S, [B]⟩) _ 0 (fun i st hi => absurd hi (Nat.not_lt_zero i)) ?_ k 0 _ (by omega) (by omega) rfl
  rintro st rfl
  cases A0 with
  | nil =>
    simp [theLoop, Tryz.f9, loopsAll, Lp_some, and_assoc, -rd, rd_ne, rd_eq, hS, s3, s9, s11, s12, he]
    done
  | cons x A =>
    have hl : (0 : Int) < (A.length : Int) + 1 := by omega
    simp [theLoop, Tryz.f9, loopsAll, Lp_some, and_assoc, -rd, rd_ne, rd_eq, hS, s3, s9, s11, s12, hl, he]
    done

theorem netRight_true (l : List (List Nd)) (r : List Rt) (room : Int) (a : List Act) (hb : ∀ x ∈ l, bytesOk x) (ha : ∀ x ∈ a, byOk x.f.data) :
    ∃ σ', evI E1 9 [.d (.slice (l.map ndsD)), .d (.slice (r.map Rt.D)), .d (.int .i64 room), .d (.slice (a.map Act.D))] [] = some (.d (.bool true), σ') := by
  refine evI_ex (fn := Tryz.f9) 1001 rfl Tryz.func9 rfl ?_
  have e0 := b_netHead
  have e1 := fun σ => b_great14 l r a σ
  cases hg : great14 l r a
  · rw [hg] at e1
    have e2 := fun σ => netNew_of (room := room) hg σ
    obtain ⟨_, _, g3, _, g5⟩ := great14_no hg
    have hf := @fits_new l r room hb
    generalize Nt.New l r room = N0 at e2 hf
    obtain ⟨n, e⟩ := N0
    simp only at e2 hf
    by_cases he : e = 0
    · subst he
      obtain ⟨f0, f1, f2, _⟩ := hf rfl
      clear hf hg
      have hloop := l_nr0 1001 (by omega) l f2 a g3 (fun x hx => ⟨ha x hx, (g5 x hx).1⟩) n f0 f1
      generalize a.map Act.D = a0 at e1 hloop ⊢
      generalize l.map ndsD = l0 at e1 e2 hloop ⊢
      generalize r.map Rt.D = r0 at e1 e2 ⊢
      simp only [Nt.C, Nt.P] at e2 hloop ⊢
      generalize n.bs.map ndsD = n0 at e2 hloop
      generalize n.g.rs.map Rt.D = n1 at e2 hloop
      generalize n.g.out.map frsD = n3 at e2 hloop
      generalize n.g.lost.map intD = n4 at e2 hloop
      try simp at e1
      try simp at e2
      simp [Tryz.f9, ec_loop, -loadS, -storeS, loadS_cons0, loadS_consS, storeS_cons0, storeS_consS, cellsOf, e0, e1, e2]
      generalize hLL : loopN _ _ _ = LL
      obtain ⟨r', rfl, J', S', rfl, hS', g9⟩ := at_loop hLL (hloop _ _ rfl rfl rfl rfl rfl rfl rfl 1001 (by omega))
      simp at g9
      change rd S' 9 = _ at g9
      simp [-rd, rd_ne, rd_eq, hS', g9]
    · have he2 : (e == 0) = false := by simpa using he
      clear hf
      have hloop := fun B => l_nrE 1001 (a.map Act.D) e he2 B
      generalize a.map Act.D = a0 at e1 hloop ⊢
      generalize l.map ndsD = l0 at e1 e2 ⊢
      generalize r.map Rt.D = r0 at e1 e2 ⊢
      try simp at e1
      try simp at e2
      simp [Tryz.f9, ec_loop, -loadS, -storeS, loadS_cons0, loadS_consS, storeS_cons0, storeS_consS, cellsOf, e0, e1, e2]
      generalize hLL : loopN _ _ _ = LL
      obtain ⟨r', rfl, J', S', rfl, hS', g9⟩ := at_loop hLL (hloop _ _ _ rfl rfl rfl rfl rfl 1001 (by omega))
      simp at g9
      change rd S' 9 = _ at g9
      simp [-rd, rd_ne, rd_eq, hS', g9]
  · rw [hg] at e1
    generalize a.map Act.D = a0 at e1 ⊢
    generalize l.map ndsD = l0 at e1 ⊢
    generalize r.map Rt.D = r0 at e1 ⊢
    try simp at e1
    simp [Tryz.f9, ec_loop, -loadS, -storeS, e0, e1]
def netRight_types : List TypeId := [66, 63, 3, 86]
theorem netRight_args (ps : List PV) (h : OkArgs Tryz.prog 8 netRight_types ps) : ∃ σ', evI E1 9 ps [] = some (.d (.bool true), σ') := by
  obtain ⟨d1, _, h1, rfl, d2, _, h2, rfl, d3, _, h3, rfl, d4, _, h4, rfl, rfl⟩ := h
  obtain ⟨l, rfl, hb⟩ := ok_Ndss (d := 1) h1
  obtain ⟨r, rfl, _⟩ := ok_Rts (d := 4) h2
  obtain ⟨room, rfl, _⟩ := ok_int (d := 7) h3
  obtain ⟨a, rfl, ha⟩ := ok_Acts (d := 3) h4
  rw [arg_Ndss, arg_Rts, arg_int, arg_Acts]
  exact netRight_true l r room a (fun x hx => (hb x hx).1) (fun x hx => Fr.wf_by (ha x hx).2.2.2.1)
end Go.Proofs

namespace Go.Proofs.YtnnindnmpfmaaaaGreat.netRight
open Go.ChangeShapes Go.WideShapes Go.ChangeAt Go.RowKit Go.Pv
set_option linter.unusedVariables false
theorem own : ownKnob Tryz.prog.godebug = none := by kernel_rfl
theorem laidOut : laidOutB Tryz.prog = true := by kernel_rfl
set_option maxRecDepth 100000 in
theorem lifted (os : Os) (started : os.Started) (H : Type) (enc : TypeId × Value → H) :
    ReturnsInHanded {} Tryz.checked os 9 .any (Rows.netRightSpec.pre6 enc Tryz.prog Tryz.f9 Rows.netRightRow.domain false) (Rows.netRightSpec.post enc Tryz.prog Tryz.f9 false true false false) := by
  refine returnsInHanded_of_change_sized (C := Tryz.checked) own started (by kernel_rfl) Tryz.func9
    (ChangeSpec.witness6 (enc := enc) (C := Tryz.checked) false ⟨#[], #[.slice none 0 0, .slice none 0 0, .int .i64 0, .slice none 0 0], []⟩ 8 (by kernel_rfl) (by kernel_rfl) (by kernel_rfl) (by kernel_rfl)) ?_
  intro W base args ds gs before hval0 hW hcnd hsz0 _
  have hval : ∀ (j : Nat) t v, Tryz.f9.params[j]? = some t → args[j]? = some v → Value.okWide Tryz.prog W .any base t v := hval0
  have hW' := hW
  obtain ⟨p, q, hA0, hV, rfl, hfz, hnd⟩ := hW
  have hA : DataW.TrodAll enc Tryz.prog W 0 (fun _ => true) true Tryz.f9.params.toList args.toList ds p := hA0
  rw [Tryz.params9] at hA hval
  obtain ⟨v0, vs0, d0, ds0, p0, q0, hargs0, rfl, rfl, h0, r0⟩ := trodAll_cons hA
  obtain ⟨v1, vs1, d1, ds1, p1, q1, hargs1, rfl, rfl, h1, r1⟩ := trodAll_cons r0
  obtain ⟨v2, vs2, d2, ds2, p2, q2, hargs2, rfl, rfl, h2, r2⟩ := trodAll_cons r1
  obtain ⟨v3, vs3, d3, ds3, p3, q3, hargs3, rfl, rfl, h3, r3⟩ := trodAll_cons r2
  obtain ⟨hn1, rfl, rfl⟩ := trodAll_nil r3
  obtain ⟨rfl, rfl⟩ := trodVars_none hV
  refine (law_calls E1_ok (f := 9) (types := netRight_types) (depth := 8) (by kernel_rfl) netRight_args hA (fun j t v hj hv => hval j t v (by simpa [netRight_types] using hj) hv)).mono fun e W' ⟨he, bel⟩ => ?_
  subst he
  exact ⟨_, rfl, _, _, _, [], _, [], hW', trodAll_mk1 (shut_bool Tryz.underlying4 _), trodAll_below laidOut bel netRight_types _ _ _ (by kernel_rfl) hA, rfl, bel.frame _, fun h => by cases h⟩
theorem over : Rows.netRightRow.holds Tryz.pinned (OpenSpec.ofChange Rows.netRightSpec) :=
  OpenClaim.holds_of_wide 9 Tryz.f9 rfl rfl rfl rfl rfl rfl rfl ⟨rfl, rfl, rfl, rfl, rfl⟩ rfl rfl rfl rfl rfl (by kernel_rfl) Tryz.func9 (by kernel_rfl)
    (of_decide_eq_true (by kernel_rfl)) (by unfold Func.isWrapper; first | (rw [if_pos (by decide +kernel)]; kernel_rfl) | (rw [if_neg (by decide +kernel)]; exact ⟨rfl, rfl⟩))
    (fun os started H enc _ => lifted os started H enc)
end Go.Proofs.YtnnindnmpfmaaaaGreat.netRight
namespace Go.Proofs.YtnnindnmpfmaaaaGreat
theorem netRight_holds : Rows.NetRightSaid := netRight.over
end Go.Proofs.YtnnindnmpfmaaaaGreat
#print axioms Go.Proofs.YtnnindnmpfmaaaaGreat.netRight_holds

