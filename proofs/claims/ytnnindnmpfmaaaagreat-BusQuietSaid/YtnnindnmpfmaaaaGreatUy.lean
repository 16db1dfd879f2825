/- BusAll: all or none: its call answers true. -/
import Derived.Test.YtnnindnmpfmaaaaGreatUw
set_option linter.unusedVariables false
set_option linter.unusedSimpArgs false
set_option maxRecDepth 100000
set_option maxHeartbeats 8000000
namespace Go.Proofs
open Go.RowKit Go.Shelf Go.Pv

theorem l_ba (m : Nat) (l : List Nd) (hr : rights l) (hg5 : ∀ n ∈ l, n.g.length ≤ 5) (hl : l.length ≤ 1000) (v : List Int) (hv : v.length ≤ 1000) (J0 : Store) (S : List PV) (hS : S.length = 90)
    (h0 : rd S 0 = .d (.slice (l.map Nd.D))) (h3 : rd S 3 = .ptr 0 0) (h5 : rd S 5 = .d (.bool true)) (h6 : rd S 6 = .d (.slice ((slotL l v).1.map Nd.D))) (h7 : rd S 7 = .ptr 1 0) (h8 : rd S 8 = .d (.int .i64 0)) (k : Nat) (hk : l.length < k) :
    Lp (loopN (evCode E1 (evI E1) m (theLoop Tryz.f4 0)) k ⟨S, [.d (.slice (v.map intD))] :: cellsOf (slotL l v).2.P :: J0⟩) fun r => ∃ (J : Store) (S' : List PV), r = (.exit 0, ⟨S', J⟩) ∧ S'.length = 90 ∧ rd S' 5 = .d (.bool true) := by
  refine loop_inv (fun i st => ∃ (J : Store) (S : List PV), st = ⟨S, [.d (.slice (v.map intD))] :: cellsOf (slotL l v).2.P :: J⟩ ∧ S.length = 90 ∧ rd S 0 = .d (.slice (l.map Nd.D)) ∧ rd S 3 = .ptr 0 0 ∧ rd S 5 = .d (.bool true) ∧ rd S 6 = .d (.slice ((slotL l v).1.map Nd.D)) ∧ rd S 7 = .ptr 1 0 ∧ rd S 8 = .d (.int .i64 i)) _ l.length ?_ ?_ k 0 _ (by omega) (by omega) ⟨J0, S, rfl, hS, h0, h3, h5, h6, h7, h8⟩
  · rintro i st hi ⟨J, S, rfl, hS, h0, h3, h5, h6, h7, h8⟩
    have hlt : (i : Int) < (l.length : Int) := by omega
    have hi1 : i < (slotL l v).1.length := by rw [slotL_len]; exact hi
    have hgot := slotL_got v hi (by rw [nd_get hi]; have := hg5 _ (List.getElem_mem hi); omega)
    rw [nd_get hi, nd_get hi1] at hgot
    have hgl : ((slotL l v).1[i]).g.length ≤ 1000 := by
      rw [hgot]
      have := hg5 _ (List.getElem_mem hi)
      split <;> simp <;> omega
    have hg := hr.good _ (List.getElem_mem hi)
    have c1 := fun σ => r_Along l hr.good hl v i hi σ
    have c2 := fun σ => r_in v i (by omega) σ
    have c3 := fun σ => r_any l[i].fs (slotL l v).2.f (by have := hg.fs; omega) σ
    have c4 := fun σ => r_sameAll (slotL l v).1[i].g (by omega) σ
    have a1 := app22 [] (l[i].g.map Fr.D) rfl (rowsOk_Fr _) (by have := hg.g; simp [roomB]; omega)
    have a2 := appFs l[i].g (slotL l v).2.f (by have := hg.g; omega)
    rw [List.nil_append] at a1
    have hx : (l.map Nd.D)[i]? = some (l[i]).D := by simp [hi]
    have hy : ((slotL l v).1.map Nd.D)[i]? = some ((slotL l v).1[i]).D := by simp [hi1]
    have hml : (l.map Nd.D).length = l.length := by simp
    have hml2 : ((slotL l v).1.map Nd.D).length = l.length := by simp [slotL_len]
    generalize l[i] = n at hgot c3 a1 a2 hx hg
    generalize (slotL l v).1[i] = n' at hgot c4 hy hgl
    generalize (lineOf l v).sends i = s at c1 hgot
    generalize v.contains (i : Int) = z at c2 hgot
    generalize (slotL l v).1.map Nd.D = M1 at hy hml2 h6 ⊢
    generalize (slotL l v).2 = t at hgot c3 a2 ⊢
    obtain ⟨tw, f, b, tz⟩ := t
    simp only at hgot c3 a2 ⊢
    generalize anyF n.fs f = a at c3 hgot
    have hc3 : (n.c.s == 3) = !(n.c.s != 3) := by simp [bne]
    generalize hs3 : (n.c.s != 3) = s3 at hgot hc3
    generalize l.map Nd.D = M0 at hx hml h0 c1 ⊢
    obtain ⟨hi0, hx⟩ := List.getElem?_eq_some_iff.1 hx
    obtain ⟨hi2, hy⟩ := List.getElem?_eq_some_iff.1 hy
    obtain ⟨nq, nfs, ⟨ct, cr, cs, cz⟩, ng⟩ := n
    obtain ⟨q', fs', ⟨ct', cr', cs', cz'⟩, g'⟩ := n'
    simp only [Nd.D] at hgot c3 c4 a1 a2 hx hy hc3 hs3
    subst hgot
    generalize v.map intD = V at c2 ⊢
    clear hg hgl hi1
    try simp at c1
    try simp at c2
    try simp at c3
    try simp at c4
    simp [acc_nil] at a1
    simp only [Fr.D] at a2
    cases b
    · simp at c4
      simp [theLoop, Tryz.f4, loopsAll, Lp_some, and_assoc, -rd, rd_ne, rd_eq, -loadS, -storeS, loadS_cons0, loadS_consS, storeS_cons0, storeS_consS, hS, h0, h3, h5, h6, h7, h8, hlt, hi, hi0, hi2, hx, hy, hml, hml2, cellsOf, rowsFrom, acc_nil, a1, c4, wrap_succ i (by omega)]
      done
    · cases s
      · cases s3
        · simp at c4
          simp [theLoop, Tryz.f4, loopsAll, Lp_some, and_assoc, -rd, rd_ne, rd_eq, -loadS, -storeS, loadS_cons0, loadS_consS, storeS_cons0, storeS_consS, hS, h0, h3, h5, h6, h7, h8, hlt, hi, hi0, hi2, hx, hy, hml, hml2, cellsOf, rowsFrom, acc_nil, a1, c1, hs3, c4, wrap_succ i (by omega)]
          done
        · cases z
          · cases a
            · simp at c4
              simp [theLoop, Tryz.f4, loopsAll, Lp_some, and_assoc, -rd, rd_ne, rd_eq, -loadS, -storeS, loadS_cons0, loadS_consS, storeS_cons0, storeS_consS, hS, h0, h3, h5, h6, h7, h8, hlt, hi, hi0, hi2, hx, hy, hml, hml2, cellsOf, rowsFrom, acc_nil, a1, c1, hs3, c2, c3, c4, wrap_succ i (by omega)]
              done
            · simp only [Bool.not_false, Bool.and_self, if_true] at c4
              simp only [List.map_append, List.map_cons, List.map_nil, Fr.D] at c4 a2
              try rw [if_pos (by simp)] at c4
              try simp at c4
              simp [theLoop, Tryz.f4, loopsAll, Lp_some, and_assoc, -rd, rd_ne, rd_eq, -loadS, -storeS, loadS_cons0, loadS_consS, storeS_cons0, storeS_consS, hS, h0, h3, h5, h6, h7, h8, hlt, hi, hi0, hi2, hx, hy, hml, hml2, cellsOf, rowsFrom, acc_nil, a1, a2, c1, hs3, c2, c3, c4, wrap_succ i (by omega)]
              done
          · simp at c4
            simp [theLoop, Tryz.f4, loopsAll, Lp_some, and_assoc, -rd, rd_ne, rd_eq, -loadS, -storeS, loadS_cons0, loadS_consS, storeS_cons0, storeS_consS, hS, h0, h3, h5, h6, h7, h8, hlt, hi, hi0, hi2, hx, hy, hml, hml2, cellsOf, rowsFrom, acc_nil, a1, c1, hs3, c2, c4, wrap_succ i (by omega)]
            done
      · simp at c4
        simp [theLoop, Tryz.f4, loopsAll, Lp_some, and_assoc, -rd, rd_ne, rd_eq, -loadS, -storeS, loadS_cons0, loadS_consS, storeS_cons0, storeS_consS, hS, h0, h3, h5, h6, h7, h8, hlt, hi, hi0, hi2, hx, hy, hml, hml2, cellsOf, rowsFrom, acc_nil, a1, c1, c4, wrap_succ i (by omega)]
        done
  · rintro st ⟨J, S, rfl, hS, h0, h3, h5, h6, h7, h8⟩
    have hml : (l.map Nd.D).length = l.length := by simp
    generalize l.map Nd.D = M0 at h0 hml ⊢
    simp [theLoop, Tryz.f4, loopsAll, Lp_some, and_assoc, -rd, rd_ne, rd_eq, hS, h0, h5, h8, hml]

theorem cutL_one (w : List Int) : cutL [w] 1 = [w.take 10] := rfl

theorem busAll_true (l : List Nd) (w : List Int) (hb : bytesOk l) (hw : w.length ≤ 2 ^ 63) : ∃ σ', evI E1 4 [.d (.slice (l.map Nd.D)), .agg [.d (.slice (w.map intD))]] [] = some (.d (.bool true), σ') := by
  refine evI_ex (fn := Tryz.f4) 9 rfl Tryz.func4 rfl ?_
  have e0 := b_busHead
  have e1 := fun σ => r_Nodes l 5 (by omega) σ
  have e2 := fun σ => r_cut [w] 1 (by omega) (by simpa using hw) σ
  rw [cutL_one] at e2
  have hv : (w.take 10).length ≤ 10 := by simp; omega
  generalize w.take 10 = v at e2 hv
  have kr := nodesL_right l 5
  have kb := nodesL_bytes l 5 hb
  have kl := nodesL_len l 5
  have kg := nodesL_got l 5
  generalize nodesL l 5 = L at e1 kr kb kl kg
  have e3 := fun σ => b_Slot L kr.good kb (by omega) v (by omega) σ
  have hlen := slotL_len L v
  have hloop := l_ba 9 L kr (fun n hn => by have := kg n hn; omega) (by omega) v (by omega)
  have hml : (L.map Nd.D).length = L.length := by simp
  have hml2 : ((slotL L v).1.map Nd.D).length = L.length := by simp [slotL_len]
  generalize (slotL L v).1.map Nd.D = M1 at e3 hloop hml2
  generalize (slotL L v).2 = t at e3 hloop
  generalize L.map Nd.D = L0 at e1 e3 hloop hml
  generalize l.map Nd.D = l0 at e1 ⊢
  simp only [List.map_cons, List.map_nil, hitD] at e2
  generalize w.map intD = W at e2 ⊢
  generalize v.map intD = V at e2 e3 hloop
  try simp at e3
  simp only [cellsOf, Td.P] at hloop
  simp [Tryz.f4, ec_loop, -loadS, -storeS, loadS_cons0, loadS_consS, storeS_cons0, storeS_consS, e0, e1, e2, e3, hml, hml2, rowsFrom]
  generalize hLL : loopN _ _ _ = LL
  obtain ⟨r, rfl, J, S, rfl, hS, h5⟩ := at_loop hLL (hloop _ _ rfl rfl rfl rfl rfl rfl rfl 9 (by omega))
  simp [-rd, rd_ne, rd_eq, hS, h5]

def busAll_types : List TypeId := [22, 41]
theorem busAll_args (ps : List PV) (h : OkArgs Tryz.prog 8 busAll_types ps) : ∃ σ', evI E1 4 ps [] = some (.d (.bool true), σ') := by
  obtain ⟨d1, _, h1, rfl, d2, _, h2, rfl, rfl⟩ := h
  obtain ⟨l, rfl, hb, _⟩ := ok_Nds (d := 2) h1
  obtain ⟨w, rfl, hw⟩ := ok_Hit (d := 5) h2
  rw [arg_Nds, arg_Hit]
  exact busAll_true l w hb (Nat.le_trans hw maxLen_le)
end Go.Proofs

