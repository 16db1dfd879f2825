/- BusWaits: what waits is sent just if a slot tells so: its call answers true. -/
import Derived.Test.YtnnindnmpfmaaaaGreatUy
set_option linter.unusedVariables false
set_option linter.unusedSimpArgs false
set_option maxRecDepth 100000
set_option maxHeartbeats 8000000
namespace Go.Proofs
open Go.RowKit Go.Shelf Go.Pv

theorem l_bw (m : Nat) (l : List Nd) (hr : rights l) (hl : l.length ≤ 1000) (v : List Int) (C0 : List PV) (J0 : Store) (S : List PV) (hS : S.length = 127)
    (h0 : rd S 0 = .d (.slice (l.map Nd.D))) (h5 : rd S 5 = .d (.bool true)) (h6 : rd S 6 = .d (.slice ((slotL l v).1.map Nd.D))) (h7 : rd S 7 = .ptr 1 0) (h8 : rd S 8 = .d (.int .i64 (slotL l v).2.w)) (h9 : rd S 9 = .d (.int .i64 0)) (k : Nat) (hk : l.length < k) :
    Lp (loopN (evCode E1 (evI E1) m (theLoop Tryz.f5 0)) k ⟨S, C0 :: cellsOf (slotL l v).2.P :: J0⟩) fun r => ∃ (J : Store) (S' : List PV), r = (.exit 0, ⟨S', C0 :: cellsOf (slotL l v).2.P :: J⟩) ∧ S'.length = 127 ∧ rd S' 0 = .d (.slice (l.map Nd.D)) ∧ rd S' 5 = .d (.bool true) ∧ rd S' 7 = .ptr 1 0 ∧ rd S' 8 = .d (.int .i64 (slotL l v).2.w) := by
  refine loop_inv (fun i st => ∃ (J : Store) (S : List PV), st = ⟨S, C0 :: cellsOf (slotL l v).2.P :: J⟩ ∧ S.length = 127 ∧ rd S 0 = .d (.slice (l.map Nd.D)) ∧ rd S 5 = .d (.bool true) ∧ rd S 6 = .d (.slice ((slotL l v).1.map Nd.D)) ∧ rd S 7 = .ptr 1 0 ∧ rd S 8 = .d (.int .i64 (slotL l v).2.w) ∧ rd S 9 = .d (.int .i64 i)) _ l.length ?_ ?_ k 0 _ (by omega) (by omega) ⟨J0, S, rfl, hS, h0, h5, h6, h7, h8, h9⟩
  · rintro i st hi ⟨J, S, rfl, hS, h0, h5, h6, h7, h8, h9⟩
    have hlt : (i : Int) < (l.length : Int) := by omega
    have hi1 : i < (slotL l v).1.length := by rw [slotL_len]; exact hi
    have hq := slotL_q v hi
    rw [nd_get hi, nd_get hi1] at hq
    have hsm : (slotL l v).2.bad = true → (lineOf l v).sends i = true → l[i].Next.1.same (slotL l v).2.f = true := fun h1 h2 => by
      have := slotL_same h1 hi h2
      rwa [nd_get hi] at this
    have hg := hr.good _ (List.getElem_mem hi)
    have hg' := (slotL_right hr v).good _ (List.getElem_mem hi1)
    have c1 := fun σ => r_Along l hr.good hl v i hi σ
    have c2 := fun σ => r_Next l[i] (Nat.le_trans hg.q (by omega)) hg.r σ
    have c3 := fun σ => r_same l[i].Next.1 (slotL l v).2.f σ
    have c4 := fun σ => r_sameAll (slotL l v).1[i].q (Nat.le_trans hg'.q (by omega)) σ
    have c5 := fun σ => r_Sent l[i] true (Nat.le_trans hg.q (by omega)) hg.r hg.c σ
    have hx : (l.map Nd.D)[i]? = some (l[i]).D := by simp [hi]
    have hy : ((slotL l v).1.map Nd.D)[i]? = some ((slotL l v).1[i]).D := by simp [hi1]
    have hml : (l.map Nd.D).length = l.length := by simp
    have hml2 : ((slotL l v).1.map Nd.D).length = l.length := by simp [slotL_len]
    generalize l[i] = n at hq hsm c2 c3 c5 hx hg
    generalize (slotL l v).1[i] = n' at hq c4 hy hg'
    generalize (lineOf l v).sends i = s at c1 hq hsm
    generalize (slotL l v).1.map Nd.D = M1 at hy hml2 h6 ⊢
    generalize (slotL l v).2 = t at hq hsm c3 h8 ⊢
    obtain ⟨tw, f, b, tz⟩ := t
    simp only at hq hsm c3 h8 ⊢
    generalize n.Sent true = ns at hq c5
    generalize n.Next = nx at hsm c2 c3
    obtain ⟨g, ok⟩ := nx
    simp only at hsm c2 c3
    generalize l.map Nd.D = M0 at hx hml h0 c1 ⊢
    obtain ⟨hi0, hx⟩ := List.getElem?_eq_some_iff.1 hx
    obtain ⟨hi2, hy⟩ := List.getElem?_eq_some_iff.1 hy
    obtain ⟨nq, nfs, ⟨ct, cr, cs, cz⟩, ng⟩ := n
    obtain ⟨q', fs', ⟨ct', cr', cs', cz'⟩, g'⟩ := n'
    simp only [Nd.D] at hq c2 c4 c5 hx hy
    subst hq
    clear hg hg' hi1
    try simp at c1
    try simp at c2
    try simp at c3
    try simp at c5
    cases b
    · simp only [Bool.false_and, Bool.false_eq_true, if_false] at c4 hy
      generalize nq.map Fr.D = NQ at c4 hx hy
      simp [theLoop, Tryz.f5, loopsAll, Lp_some, and_assoc, -rd, rd_ne, rd_eq, -loadS, -storeS, loadS_cons0, loadS_consS, storeS_cons0, storeS_consS, hS, h0, h5, h6, h7, h8, h9, hlt, hi, hi0, hi2, hx, hy, hml, hml2, cellsOf, c4, wrap_succ i (by omega)]
      done
    · cases s
      · simp only [Bool.and_false, Bool.false_eq_true, if_false] at c4
        simp [theLoop, Tryz.f5, loopsAll, Lp_some, and_assoc, -rd, rd_ne, rd_eq, -loadS, -storeS, loadS_cons0, loadS_consS, storeS_cons0, storeS_consS, hS, h0, h5, h6, h7, h8, h9, hlt, hi, hi0, hi2, hx, hy, hml, hml2, cellsOf, c1, c4, wrap_succ i (by omega)]
        done
      · simp only [Bool.and_self, if_true] at c4
        rw [hsm rfl rfl] at c3
        try simp at c4
        simp [theLoop, Tryz.f5, loopsAll, Lp_some, and_assoc, -rd, rd_ne, rd_eq, -loadS, -storeS, loadS_cons0, loadS_consS, storeS_cons0, storeS_consS, sfx_load0, sfx_load, sfx_store0, sfx_store, hS, h0, h5, h6, h7, h8, h9, hlt, hi, hi0, hi2, hx, hy, hml, hml2, cellsOf, c1, c2, c3, c4, c5, wrap_succ i (by omega)]
        done
  · rintro st ⟨J, S, rfl, hS, h0, h5, h6, h7, h8, h9⟩
    have hml : (l.map Nd.D).length = l.length := by simp
    generalize l.map Nd.D = M0 at h0 hml ⊢
    simp [theLoop, Tryz.f5, loopsAll, Lp_some, and_assoc, -rd, rd_ne, rd_eq, hS, h0, h5, h7, h8, h9, hml]

theorem busWaits_true (l : List Nd) (w : List Int) (hb : bytesOk l) (hw : w.length ≤ 2 ^ 63) : ∃ σ', evI E1 5 [.d (.slice (l.map Nd.D)), .agg [.d (.slice (w.map intD))]] [] = some (.d (.bool true), σ') := by
  refine evI_ex (fn := Tryz.f5) 9 rfl Tryz.func5 rfl ?_
  have e0 := b_busHead
  have e1 := fun σ => r_Nodes l 5 (by omega) σ
  have e2 := fun σ => r_cut [w] 1 (by omega) (by simpa using hw) σ
  rw [cutL_one] at e2
  have hv : (w.take 10).length ≤ 10 := by simp; omega
  generalize w.take 10 = v at e2 hv
  have kr := nodesL_right l 5
  have kb := nodesL_bytes l 5 hb
  have kl := nodesL_len l 5
  generalize nodesL l 5 = L at e1 kr kb kl
  have e3 := fun σ => b_Slot L kr.good kb (by omega) v (by omega) σ
  have e4 := fun σ => r_Winner L kr.good (by omega) σ
  rw [← slotL_w L v] at e4
  have hlen := slotL_len L v
  have hloop := l_bw 9 L kr (by omega) v
  have hml : (L.map Nd.D).length = L.length := by simp
  have hml2 : ((slotL L v).1.map Nd.D).length = L.length := by simp [slotL_len]
  have hwin : (sndL L = [] ∧ (slotL L v).2 = ⟨-1, fr0, false, 11⟩) ∨ ∃ k : Nat, k < L.length ∧ (slotL L v).2.w = (k : Int) ∧ (nd L k).Next.2 = true ∧ (slotL L v).2.f = (nd L k).Next.1 := by
    by_cases hs : sndL L = []
    · exact .inl ⟨hs, by rw [slotL_none v hs]⟩
    · exact .inr (slotL_won hs)
  have e5 := fun σ => r_same fr0 fr0 σ
  rw [Fr.same_refl] at e5
  rcases hwin with ⟨_, hwin⟩ | ⟨j, hj, hw1, hw2, hw3⟩
  · rw [hwin] at e3 e4 hloop
    generalize (slotL L v).1.map Nd.D = M1 at e3 hloop hml2
    generalize L.map Nd.D = L0 at e1 e3 e4 hloop hml
    generalize l.map Nd.D = l0 at e1 ⊢
    simp only [List.map_cons, List.map_nil, hitD] at e2
    generalize w.map intD = W at e2 ⊢
    generalize v.map intD = V at e2 e3
    simp [fr0] at e3
    simp [fr0] at e5
    simp only [cellsOf, Td.P, fr0, List.map_nil] at hloop
    simp [Tryz.f5, ec_loop, -loadS, -storeS, loadS_cons0, loadS_consS, storeS_cons0, storeS_consS, e0, e1, e2, e3, e4, hml, hml2, rowsFrom]
    generalize hLL : loopN _ _ _ = LL
    obtain ⟨r, rfl, J, S, rfl, hS, h0, h5, h7, h8⟩ := at_loop hLL (hloop _ _ _ rfl rfl rfl rfl rfl rfl rfl 9 (by omega))
    simp [-rd, rd_ne, rd_eq, -loadS, -storeS, loadS_cons0, loadS_consS, storeS_cons0, storeS_consS, hS, h0, h5, h7, h8, e5]
  · have hg := kr.good _ (List.getElem_mem hj)
    rw [nd_get hj] at hw2 hw3
    have c2 := fun σ => r_Next L[j] (Nat.le_trans hg.q (by omega)) hg.r σ
    have c3 := fun σ => r_same L[j].Next.1 L[j].Next.1 σ
    rw [Fr.same_refl] at c3
    have hx : (L.map Nd.D)[j]? = some (L[j]).D := by simp [hj]
    have hn0 : ¬ (j : Int) < 0 := by omega
    have hjd : decide ((j : Int) < 0) = false := by simp
    rw [hw2, ← hw3] at c2
    rw [← hw3] at c3
    rw [hw1] at e4
    generalize (slotL L v).1.map Nd.D = M1 at e3 hloop hml2
    generalize (slotL L v).2 = t at e3 hloop hw1 c2 c3
    obtain ⟨tw, f, b, tz⟩ := t
    simp only at hw1 e3 hloop c2 c3
    subst hw1
    generalize L[j] = n at hx c2
    generalize L.map Nd.D = L0 at e1 e3 e4 hloop hml hx
    obtain ⟨hj0, hx⟩ := List.getElem?_eq_some_iff.1 hx
    simp only [Nd.D] at hx
    generalize l.map Nd.D = l0 at e1 ⊢
    simp only [List.map_cons, List.map_nil, hitD] at e2
    generalize w.map intD = W at e2 ⊢
    generalize v.map intD = V at e2 e3
    try simp at e3
    try simp at c2
    try simp at c3
    simp only [cellsOf, Td.P] at hloop
    clear hw2 hw3 hg kr kb hn0
    cases b
    · simp [Tryz.f5, ec_loop, -loadS, -storeS, loadS_cons0, loadS_consS, storeS_cons0, storeS_consS, e0, e1, e2, e3, e4, hml, hml2, rowsFrom, hjd]
      generalize hLL : loopN _ _ _ = LL
      obtain ⟨r, rfl, J, S, rfl, hS, h0, h5, h7, h8⟩ := at_loop hLL (hloop _ _ _ rfl rfl rfl rfl rfl rfl rfl 9 (by omega))
      simp [-rd, rd_ne, rd_eq, -loadS, -storeS, loadS_cons0, loadS_consS, storeS_cons0, storeS_consS, sfx_load0, sfx_load, sfx_store0, sfx_store, hS, h0, h5, h7, h8, hjd, hj, hj0, hx, c2, c3]
    · simp [Tryz.f5, ec_loop, -loadS, -storeS, loadS_cons0, loadS_consS, storeS_cons0, storeS_consS, e0, e1, e2, e3, e4, hml, hml2, rowsFrom, hjd]
      generalize hLL : loopN _ _ _ = LL
      obtain ⟨r, rfl, J, S, rfl, hS, h0, h5, h7, h8⟩ := at_loop hLL (hloop _ _ _ rfl rfl rfl rfl rfl rfl rfl 9 (by omega))
      simp [-rd, rd_ne, rd_eq, -loadS, -storeS, loadS_cons0, loadS_consS, storeS_cons0, storeS_consS, sfx_load0, sfx_load, sfx_store0, sfx_store, hS, h0, h5, h7, h8, hjd, hj, hj0, hx, c2, c3]

def busWaits_types : List TypeId := [22, 41]
theorem busWaits_args (ps : List PV) (h : OkArgs Tryz.prog 8 busWaits_types ps) : ∃ σ', evI E1 5 ps [] = some (.d (.bool true), σ') := by
  obtain ⟨d1, _, h1, rfl, d2, _, h2, rfl, rfl⟩ := h
  obtain ⟨l, rfl, hb, _⟩ := ok_Nds (d := 2) h1
  obtain ⟨w, rfl, hw⟩ := ok_Hit (d := 5) h2
  rw [arg_Nds, arg_Hit]
  exact busWaits_true l w hb (Nat.le_trans hw maxLen_le)
end Go.Proofs

