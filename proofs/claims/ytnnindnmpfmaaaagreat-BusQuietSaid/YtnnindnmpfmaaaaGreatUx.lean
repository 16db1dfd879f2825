/- BusQuiet: a node that is not Active, and sends not along, spoils nothing for the others: its call answers true. -/
import Derived.Test.YtnnindnmpfmaaaaGreatUz
set_option linter.unusedVariables false
set_option linter.unusedSimpArgs false
set_option maxRecDepth 100000
set_option maxHeartbeats 8000000
namespace Go.Proofs
open Go.RowKit Go.Shelf Go.Pv

theorem l_bq (m : Nat) (l M1 M2 : List Nd) (hg : ∀ n ∈ M1, n.good) (h1l : M1.length = l.length) (h2l : M2.length = l.length) (hl : l.length ≤ 1000) (j : Nat) (hsame : ∀ i, i < l.length → i ≠ j → nd M2 i = nd M1 i) (J0 : Store) (S : List PV) (hS : S.length = 102)
    (h0 : rd S 0 = .d (.slice (l.map Nd.D))) (h7 : rd S 7 = .d (.bool true)) (h8 : rd S 8 = .d (.int .i64 j)) (h10 : rd S 10 = .d (.slice (M1.map Nd.D))) (h12 : rd S 12 = .d (.slice (M2.map Nd.D))) (h14 : rd S 14 = .d (.int .i64 0)) (k : Nat) (hk : l.length < k) :
    Lp (loopN (evCode E1 (evI E1) m (theLoop Tryz.f6 0)) k ⟨S, J0⟩) fun r => ∃ (J : Store) (S' : List PV), r = (.exit 0, ⟨S', J⟩) ∧ S'.length = 102 ∧ rd S' 7 = .d (.bool true) := by
  refine loop_inv (fun i st => ∃ (J : Store) (S : List PV), st = ⟨S, J⟩ ∧ S.length = 102 ∧ rd S 0 = .d (.slice (l.map Nd.D)) ∧ rd S 7 = .d (.bool true) ∧ rd S 8 = .d (.int .i64 j) ∧ rd S 10 = .d (.slice (M1.map Nd.D)) ∧ rd S 12 = .d (.slice (M2.map Nd.D)) ∧ rd S 14 = .d (.int .i64 i)) _ l.length ?_ ?_ k 0 _ (by omega) (by omega) ⟨J0, S, rfl, hS, h0, h7, h8, h10, h12, h14⟩
  · rintro i st hi ⟨J, S, rfl, hS, h0, h7, h8, h10, h12, h14⟩
    have hlt : (i : Int) < (l.length : Int) := by omega
    have hml : (l.map Nd.D).length = l.length := by simp
    by_cases hij : i = j
    · subst hij
      generalize l.map Nd.D = M0 at hml h0 ⊢
      simp [theLoop, Tryz.f6, loopsAll, Lp_some, and_assoc, -rd, rd_ne, rd_eq, hS, h0, h7, h8, h10, h12, h14, hlt, hml, wrap_succ i (by omega)]
      done
    · have hi1 : i < M1.length := by omega
      have hi2 : i < M2.length := by omega
      have he := hsame i hi hij
      rw [nd_get hi1, nd_get hi2] at he
      have hgi := hg _ (List.getElem_mem hi1)
      have c1 := fun σ => r_sameNd M1[i] (Nat.le_trans hgi.fs (by omega)) (Nat.le_trans hgi.q (by omega)) (Nat.le_trans hgi.g (by omega)) σ
      have hx : (M1.map Nd.D)[i]? = some (M1[i]).D := by simp [hi1]
      have hy : (M2.map Nd.D)[i]? = some (M1[i]).D := by rw [← he]; simp [hi2]
      have hb : ((i : Int) != (j : Int)) = true := by simp; omega
      generalize M1[i] = n at c1 hx hy
      generalize M1.map Nd.D = A1 at hx h10 ⊢
      generalize M2.map Nd.D = A2 at hy h12 ⊢
      generalize l.map Nd.D = M0 at hml h0 ⊢
      obtain ⟨hi3, hx⟩ := List.getElem?_eq_some_iff.1 hx
      obtain ⟨hi4, hy⟩ := List.getElem?_eq_some_iff.1 hy
      simp only [Nd.D] at hx hy
      clear he hgi
      try simp at c1
      simp [theLoop, Tryz.f6, loopsAll, Lp_some, and_assoc, -rd, rd_ne, rd_eq, hS, h0, h7, h8, h10, h12, h14, hlt, hml, hb, hi3, hi4, hx, hy, c1, wrap_succ i (by omega)]
      done
  · rintro st ⟨J, S, rfl, hS, h0, h7, h8, h10, h12, h14⟩
    have hml : (l.map Nd.D).length = l.length := by simp
    generalize l.map Nd.D = M0 at h0 hml ⊢
    simp [theLoop, Tryz.f6, loopsAll, Lp_some, and_assoc, -rd, rd_ne, rd_eq, hS, h0, h7, h14, hml]

theorem busQuiet_true (l : List Nd) (w : List Int) (a : Int) (ha : 0 ≤ a ∧ a ≤ 255) (hb : bytesOk l) (hw : w.length ≤ 2 ^ 63) : ∃ σ', evI E1 6 [.d (.slice (l.map Nd.D)), .agg [.d (.slice (w.map intD))], .d (.int .u8 a)] [] = some (.d (.bool true), σ') := by
  refine evI_ex (fn := Tryz.f6) 9 rfl Tryz.func6 rfl ?_
  have e0 := b_busHead
  have e1 := fun σ => r_Nodes l 5 (by omega) σ
  have e2 := fun σ => r_cut [w] 1 (by omega) (by simpa using hw) σ
  rw [cutL_one] at e2
  have hv : (w.take 10).length ≤ 10 := by simp; omega
  generalize w.take 10 = v at e2 hv
  have kr := nodesL_right l 5
  have kb := nodesL_bytes l 5 hb
  have kl := nodesL_len l 5
  generalize nodesL l 5 = L at e1 kr kb kl
  have hcv := conv_u8 a
  rw [wrap_ok (by omega) (by omega)] at hcv
  have hne : (L.length : Int) ≠ 0 := by omega
  obtain ⟨j, hjL, hj⟩ : ∃ j : Nat, j < L.length ∧ a.tmod (L.length : Int) = (j : Int) := by
    refine ⟨(a.tmod (L.length : Int)).toNat, ?_, ?_⟩
    · have h1 := Int.tmod_lt_of_pos a (show (0 : Int) < L.length by omega)
      have h2 := Int.tmod_nonneg (L.length : Int) ha.1
      omega
    · have h2 := Int.tmod_nonneg (L.length : Int) ha.1
      omega
  have hrem := bin_rem (P := Tryz.prog) (t := 3) (a := a) (b := (L.length : Int)) hne
  rw [hj] at hrem
  have c1 := fun σ => r_Along L kr.good (by omega) v j hjL σ
  have hq := slotL_quiet (l := L) v hjL
  rw [nd_get hjL] at hq
  have hx : (L.map Nd.D)[j]? = some (L[j]).D := by simp [hjL]
  have hml : (L.map Nd.D).length = L.length := by simp
  have e3 := fun σ => b_Slot L kr.good kb (by omega) v (by omega) σ
  have e4 := fun σ => b_Slot L kr.good kb (by omega) (v ++ [(j : Int)]) (by simp; omega) σ
  have e5 := fun σ => r_sameTold (slotL L v).2 σ
  have hlen := slotL_len L v
  have hlen2 := slotL_len L (v ++ [(j : Int)])
  have hgd := (slotL_right kr v).good
  have a1 := row_app (A := []) (B := v) (by simp; omega)
  rw [List.nil_append] at a1
  have a2 := row_app (A := v) (B := [(j : Int)]) (by simp; omega)
  have hrow : ((v ++ [(j : Int)]).map intD) = v.map intD ++ [[.int .i64 j]] := by simp
  have hloop := l_bq 9 L (slotL L v).1 (slotL L (v ++ [(j : Int)])).1 hgd hlen hlen2 (by omega) j
  generalize L[j] = n at hq hx
  generalize (lineOf L v).sends j = s at c1 hq
  generalize slotL L v = R at e3 e5 hq hlen hloop
  generalize slotL L (v ++ [(j : Int)]) = R2 at e4 hq hlen2 hloop
  obtain ⟨M1, t⟩ := R
  obtain ⟨M2, t2⟩ := R2
  simp only at e3 e4 e5 hq hlen hlen2 hloop
  have hm1 : (M1.map Nd.D).length = L.length := by simp [hlen]
  have hm2 : (M2.map Nd.D).length = L.length := by simp [hlen2]
  generalize M1.map Nd.D = A1 at e3 hloop hm1
  generalize M2.map Nd.D = A2 at e4 hloop hm2
  generalize hL0 : L.map Nd.D = L0 at e1 e3 e4 c1 hloop hml hx
  generalize l.map Nd.D = l0 at e1 ⊢
  simp only [List.map_cons, List.map_nil, hitD] at e2
  generalize w.map intD = W at e2 ⊢
  rw [hrow] at e4 a2
  simp only [List.map_cons, List.map_nil, intD] at a2
  generalize v.map intD = V at e2 e3 e4 a1 a2
  obtain ⟨nq, nfs, ⟨ct, cr, cs, cz⟩, ng⟩ := n
  obtain ⟨hj0, hx⟩ := List.getElem?_eq_some_iff.1 hx
  simp only [Nd.D] at hx hq
  simp [acc_nil] at a1
  try simp at c1
  try simp at e3
  try simp at e4
  try simp at e5
  have hjd : ¬ (j : Int) < 0 := by omega
  cases hs1 : (cs == 1)
  · cases s
    · obtain ⟨rfl, hq2⟩ := hq (by simpa using hs1) rfl
      simp (maxSteps := 2000000) [Tryz.f6, ec_loop, -loadS, -storeS, loadS_cons0, loadS_consS, storeS_cons0, storeS_consS, -acc_own, e0, e1, e2, hcv, hml, hm1, hm2, hrem, hjL, hj0, hx, hs1, c1, e3, e4, e5, a1, a2, rowsFrom, acc_nil]
      generalize hLL : loopN _ _ _ = LL
      obtain ⟨r, rfl, J, S, rfl, hS, h7⟩ := at_loop hLL (hloop hq2 _ _ rfl rfl rfl rfl rfl rfl rfl 9 (by omega))
      simp [-rd, rd_ne, rd_eq, hS, h7]
    · simp [Tryz.f6, ec_loop, -loadS, -storeS, loadS_cons0, loadS_consS, storeS_cons0, storeS_consS, e0, e1, e2, hcv, hml, hrem, hjL, hj0, hx, hs1, c1, rowsFrom, acc_nil]
      done
  · simp [Tryz.f6, ec_loop, -loadS, -storeS, loadS_cons0, loadS_consS, storeS_cons0, storeS_consS, e0, e1, e2, hcv, hml, hrem, hjL, hj0, hx, hs1, rowsFrom, acc_nil]
    done

def busQuiet_types : List TypeId := [22, 41, 5]
theorem busQuiet_args (ps : List PV) (h : OkArgs Tryz.prog 8 busQuiet_types ps) : ∃ σ', evI E1 6 ps [] = some (.d (.bool true), σ') := by
  obtain ⟨d1, _, h1, rfl, d2, _, h2, rfl, d3, _, h3, rfl, rfl⟩ := h
  obtain ⟨l, rfl, hb, _⟩ := ok_Nds (d := 2) h1
  obtain ⟨w, rfl, hw⟩ := ok_Hit (d := 5) h2
  obtain ⟨a, rfl, ha⟩ := ok_by (d := 7) h3
  rw [arg_Nds, arg_Hit, arg_u8]
  exact busQuiet_true l w a ha hb (Nat.le_trans hw maxLen_le)
end Go.Proofs

