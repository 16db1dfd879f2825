/- BusRight: right nodes stay right; a slot takes as many bits as it should: its call answers true. -/
import Derived.Test.YtnnindnmpfmaaaaTb
set_option linter.unusedVariables false
set_option linter.unusedSimpArgs false
set_option maxRecDepth 100000
set_option maxHeartbeats 8000000
namespace Go.Proofs
open Go.RowKit Go.Shelf Go.Pv

theorem nodesL_wf (l : List Nd) (most : Int) : ∀ n ∈ nodesL l most, ∀ f ∈ n.fs, f.wf := by
  unfold nodesL
  split
  · intro n hn f hf
    simp only [List.mem_singleton] at hn
    subst hn
    simp at hf
  · intro n hn f hf
    obtain ⟨x, hx, rfl⟩ := List.mem_map.1 hn
    have hf' : f ∈ cutFs (x.fs.take 8) := hf
    unfold cutFs at hf'
    rw [List.mem_filter] at hf'
    obtain ⟨g, _, rfl⟩ := List.mem_map.1 hf'.1
    exact cut_wf g

theorem l_br (m : Nat) (l : List Nd) (v : List Int) (hr : rights l) (hwf : ∀ n ∈ l, ∀ f ∈ n.fs, f.wf) (hl : l.length ≤ 1000) (J0 : Store) (v5 v7 : PV) (S : List PV) (hS : S.length = 75) (h0 : rd S 0 = .d (.slice (l.map Nd.D))) (h5 : rd S 5 = v5) (h6 : rd S 6 = .d (.slice ((slotL l v).1.map Nd.D))) (h7 : rd S 7 = v7) (h8 : rd S 8 = .d (.int .i64 0)) (k : Nat) (hk : l.length < k) :
    Lp (loopN (evCode E1 (evI E1) m (theLoop Try.f6 0)) k ⟨S, J0⟩) fun r => ∃ (S' : List PV), r = (.exit 0, ⟨S', J0⟩) ∧ S'.length = 75 ∧ rd S' 5 = v5 ∧ rd S' 7 = v7 := by
  refine loop_inv (fun i st => ∃ (S : List PV), st = ⟨S, J0⟩ ∧ S.length = 75 ∧ rd S 0 = .d (.slice (l.map Nd.D)) ∧ rd S 5 = v5 ∧ rd S 6 = .d (.slice ((slotL l v).1.map Nd.D)) ∧ rd S 7 = v7 ∧ rd S 8 = .d (.int .i64 i)) _ l.length ?_ ?_ k 0 _ (by omega) (by omega) ⟨S, rfl, hS, h0, h5, h6, h7, h8⟩
  · rintro i st hi ⟨S, rfl, hS, h0, h5, h6, h7, h8⟩
    have hlt : (i : Int) < (l.length : Int) := by omega
    have hi1 : i < (slotL l v).1.length := by rw [slotL_len]; exact hi
    have hfs := slotL_fs v hi
    rw [nd_get hi, nd_get hi1] at hfs
    have hri := slotL_right hr v _ (List.getElem_mem hi1)
    have hg := Nd.right_good hri
    have c1 := fun σ => r_RightNd (slotL l v).1[i] (Nat.le_trans hg.q (by omega)) (Nat.le_trans hg.fs (by omega)) (Nat.le_trans hg.g (by omega)) (fun f hf => by rw [hfs] at hf; exact hwf _ (List.getElem_mem hi) f hf) σ
    rw [hri] at c1
    have hx : (l.map Nd.D)[i]? = some (l[i]).D := by simp [hi]
    have hy : ((slotL l v).1.map Nd.D)[i]? = some ((slotL l v).1[i]).D := by simp [hi1]
    have hml2 : ((slotL l v).1.map Nd.D).length = l.length := by simp [slotL_len]
    generalize l[i] = n at hfs hx
    generalize (slotL l v).1[i] = n' at hfs c1 hy
    generalize (slotL l v).1.map Nd.D = M1 at hy hml2 h6 ⊢
    generalize l.map Nd.D = M0 at hx h0 ⊢
    obtain ⟨hi0, hx⟩ := List.getElem?_eq_some_iff.1 hx
    obtain ⟨hi2, hy⟩ := List.getElem?_eq_some_iff.1 hy
    obtain ⟨nq, nfs, ⟨ct, cr, cs, cz⟩, ng⟩ := n
    obtain ⟨q', fs', ⟨ct', cr', cs', cz'⟩, g'⟩ := n'
    simp only [Nd.D] at hfs hx hy
    subst hfs
    clear hri hg
    try simp at c1
    simp [theLoop, Try.f6, loopsAll, Lp_some, and_assoc, -rd, rd_ne, rd_eq, hS, h0, h5, h6, h7, h8, hlt, hi, hi0, hi2, hx, hy, hml2, c1, wrap_succ i (by omega)]
    done
  · rintro st ⟨S, rfl, hS, h0, h5, h6, h7, h8⟩
    have hml2 : ((slotL l v).1.map Nd.D).length = l.length := by simp [slotL_len]
    generalize (slotL l v).1.map Nd.D = M1 at hml2 h6 ⊢
    simp [theLoop, Try.f6, loopsAll, Lp_some, and_assoc, -rd, rd_ne, rd_eq, hS, h0, h5, h6, h7, h8, hml2]

theorem busRight_true (l : List Nd) (w : List Int) (hb : bytesOk l) (hw : w.length ≤ 2 ^ 63) : ∃ σ', evI E1 6 [.d (.slice (l.map Nd.D)), .agg [.d (.slice (w.map intD))]] [] = some (.d (.bool true), σ') := by
  refine evI_ex (fn := Try.f6) 9 rfl Try.func6 rfl ?_
  have e0 := b_busHead
  have e1 := fun σ => r_Nodes l 64 (by omega) σ
  have e2 := fun σ => r_cut [w] 1 (by omega) (by simpa using hw) σ
  rw [show cutL [w] 1 = [w.take 10] from rfl] at e2
  have hv : (w.take 10).length ≤ 10 := by simp; omega
  generalize w.take 10 = v at e2 hv
  have kr := nodesL_right l 64
  have kb := nodesL_bytes l 64 hb
  have kl := nodesL_len l 64
  have kw := nodesL_wf l 64
  generalize nodesL l 64 = L at e1 kr kb kl kw
  have e3 := fun σ => b_Slot L kr.good kb (by omega) v (by omega) σ
  have hloop := l_br 9 L v kr kw (by omega)
  have hml : (L.map Nd.D).length = L.length := by simp
  have hml2 : ((slotL L v).1.map Nd.D).length = L.length := by simp [slotL_len]
  by_cases hs : sndL L = []
  · have ht : (slotL L v).2 = ⟨-1, fr0, false, 11⟩ := by rw [slotL_none v hs]
    rw [ht] at e3
    generalize (slotL L v).1.map Nd.D = M1 at e3 hloop hml2
    generalize L.map Nd.D = L0 at e1 e3 hloop hml
    generalize l.map Nd.D = l0 at e1 ⊢
    simp only [List.map_cons, List.map_nil, hitD] at e2
    generalize w.map intD = W at e2 ⊢
    generalize v.map intD = V at e2 e3
    simp [fr0] at e3
    simp [Try.f6, ec_loop, -loadS, -storeS, loadS_cons0, loadS_consS, storeS_cons0, storeS_consS, e0, e1, e2, e3, hml, hml2, rowsFrom]
    generalize hLL : loopN _ _ _ = LL
    obtain ⟨r, rfl, S, rfl, hS, h5, h7⟩ := at_loop hLL (hloop _ _ _ _ rfl rfl rfl rfl rfl rfl 9 (by omega))
    simp at h5 h7
    change rd S 5 = _ at h5
    change rd S 7 = _ at h7
    simp [-rd, rd_ne, rd_eq, -loadS, -storeS, loadS_cons0, loadS_consS, storeS_cons0, storeS_consS, hS, h5, h7]
  · obtain ⟨j, hj, hw1, hw2, hw3⟩ := slotL_won (who := v) hs
    have hz := slotL_z L v
    rw [if_neg hs] at hz
    rw [nd_get hj] at hw2 hw3
    have hfr : (slotL L v).2.f.right = true := by rw [hw3]; exact (kr.good _ (List.getElem_mem hj)).r _ (Next_mem hw2)
    have hfb : byOk (slotL L v).2.f.data := by rw [hw3]; exact kb _ (List.getElem_mem hj) _ (Next_mem hw2)
    have c2 := fun σ => r_Made (slotL L v).2.f σ
    rw [Fr.made_self hfr] at c2
    have c3 := fun σ => r_wlen (slotL L v).2.f hfr hfb σ
    have hwl := wire_len _ hfr
    clear hw2 hw3 hfr hfb
    generalize (slotL L v).1.map Nd.D = M1 at e3 hloop hml2
    generalize (slotL L v).2 = t at e3 hw1 hz c2 c3 hwl
    obtain ⟨tw, f, b, tz⟩ := t
    simp only at e3 hw1 hz c2 c3 hwl
    generalize f.wire.length = wl at hz c3 hwl
    subst hw1
    have hz' : tz = (wl : Int) + (if b = true then 3 else 23) := hz
    clear hz
    subst hz'
    have w23 : IntKind.i64.wrap ((wl : Int) + 23) = wl + 23 := wrap_ok (by omega) (by omega)
    have w20 : IntKind.i64.wrap ((wl : Int) + 23 - 20) = wl + 3 := by rw [wrap_ok (by omega) (by omega)]; omega
    generalize L.map Nd.D = L0 at e1 e3 hloop hml
    generalize l.map Nd.D = l0 at e1 ⊢
    simp only [List.map_cons, List.map_nil, hitD] at e2
    generalize w.map intD = W at e2 ⊢
    generalize v.map intD = V at e2 e3
    try simp at e3
    try simp at c2
    try simp at c3
    have hj0 : (0 : Int) ≤ (j : Int) := by omega
    cases b
    · simp at e3
      simp [Try.f6, ec_loop, -loadS, -storeS, loadS_cons0, loadS_consS, storeS_cons0, storeS_consS, e0, e1, e2, e3, hml, hml2, rowsFrom]
      generalize hLL : loopN _ _ _ = LL
      obtain ⟨r, rfl, S, rfl, hS, h5, h7⟩ := at_loop hLL (hloop _ _ _ _ rfl rfl rfl rfl rfl rfl 9 (by omega))
      simp at h5 h7
      change rd S 5 = _ at h5
      change rd S 7 = _ at h7
      simp [-rd, rd_ne, rd_eq, -loadS, -storeS, loadS_cons0, loadS_consS, storeS_cons0, storeS_consS, hS, h5, h7, hj0, c2, c3, w23, w20]
    · simp at e3
      simp [Try.f6, ec_loop, -loadS, -storeS, loadS_cons0, loadS_consS, storeS_cons0, storeS_consS, e0, e1, e2, e3, hml, hml2, rowsFrom]
      generalize hLL : loopN _ _ _ = LL
      obtain ⟨r, rfl, S, rfl, hS, h5, h7⟩ := at_loop hLL (hloop _ _ _ _ rfl rfl rfl rfl rfl rfl 9 (by omega))
      simp at h5 h7
      change rd S 5 = _ at h5
      change rd S 7 = _ at h7
      simp [-rd, rd_ne, rd_eq, -loadS, -storeS, loadS_cons0, loadS_consS, storeS_cons0, storeS_consS, hS, h5, h7, hj0, c2, c3, w23, w20]

def busRight_types : List TypeId := [22, 48]
theorem busRight_args (ps : List PV) (h : OkArgs Try.prog 8 busRight_types ps) : ∃ σ', evI E1 6 ps [] = some (.d (.bool true), σ') := by
  obtain ⟨d1, _, h1, rfl, d2, _, h2, rfl, rfl⟩ := h
  obtain ⟨l, rfl, hb, _⟩ := ok_Nds (d := 2) h1
  obtain ⟨w, rfl, hw⟩ := ok_Hit (d := 5) h2
  rw [arg_Nds, arg_Hit]
  exact busRight_true l w hb (Nat.le_trans hw maxLen_le)
end Go.Proofs

