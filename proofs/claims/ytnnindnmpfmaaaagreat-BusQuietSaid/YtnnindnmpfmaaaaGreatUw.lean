/- BusTells: a slot, and many, are as the document says: its call answers true. -/
import Derived.Test.YtnnindnmpfmaaaaGreatOu
import Derived.Test.YtnnindnmpfmaaaaGreatOx
set_option linter.unusedVariables false
set_option linter.unusedSimpArgs false
set_option maxRecDepth 100000
set_option maxHeartbeats 8000000
namespace Go.Proofs
open Go.RowKit Go.Shelf Go.Pv

theorem l_bt (m : Nat) (l : List Nd) (hr : rights l) (hb : bytesOk l) (hl : l.length ≤ 1000) (hs : List (List Int)) (hhl : hs.length ≤ 1000) (hw : ∀ w ∈ hs, w.length ≤ 1000) (S : List PV) (hS : S.length = 81)
    (h1 : rd S 1 = .d (.slice (hs.map hitD))) (h5 : rd S 5 = .d (.bool true)) (h8 : rd S 8 = .d (.slice (l.map Nd.D))) (h10 : rd S 10 = .d (.int .i64 0)) (k : Nat) (hk : min hs.length 3 < k) :
    Lp (loopN (evCode E1 (evI E1) m (theLoop Tryz.f3 0)) k ⟨S, []⟩) fun r => ∃ (J : Store) (S' : List PV), r = (.exit 0, ⟨S', J⟩) ∧ S'.length = 81 ∧ rd S' 5 = .d (.bool true) := by
  refine loop_inv (fun i st => ∃ (J : Store) (S : List PV), st = ⟨S, J⟩ ∧ S.length = 81 ∧ rd S 1 = .d (.slice (hs.map hitD)) ∧ rd S 5 = .d (.bool true) ∧ rd S 8 = .d (.slice (l.map Nd.D)) ∧ rd S 10 = .d (.int .i64 i)) _ (min hs.length 3) ?_ ?_ k 0 _ (by omega) (by omega) ⟨[], S, rfl, hS, h1, h5, h8, h10⟩
  · rintro i st hi ⟨J, S, rfl, hS, h1, h5, h8, h10⟩
    have hi1 : i < hs.length := by omega
    have hlt : (i : Int) < (hs.length : Int) := by omega
    have hlt3 : (i : Int) < 3 := by omega
    have hx' : (hs.map hitD)[i]? = some (hitD hs[i]) := by simp [hi1]
    have hml : (hs.map hitD).length = hs.length := by simp
    have hi' : i < (hs.map hitD).length := by simpa using hi1
    have hwi := hw hs[i] (List.getElem_mem hi1)
    generalize hs[i] = w at hx' hwi
    have c1 := fun σ => b_Slot l hr.good hb hl w (by omega) σ
    have c2 := fun σ => r_Slot l hr.good hb hl w (by omega) σ
    have c3 := fun σ => r_sameNs (slotL l w).1 (slotL_right hr w).good (by rw [slotL_len]; omega) σ
    have c4 := fun σ => r_sameTold (slotL l w).2 σ
    generalize slotL l w = R at c1 c2 c3 c4
    obtain ⟨L1, t⟩ := R
    simp only at c1 c2 c3 c4
    generalize L1.map Nd.D = M1 at c1 c2 c3
    generalize l.map Nd.D = M0 at c1 c2 h8 ⊢
    generalize hs.map hitD = H at hx' hml hi' h1 ⊢
    obtain ⟨_, hx'⟩ := List.getElem?_eq_some_iff.1 hx'
    simp only [hitD] at hx'
    try simp at c1
    try simp at c2
    try simp at c3
    try simp at c4
    simp [theLoop, Tryz.f3, loopsAll, Lp_some, and_assoc, -rd, rd_ne, rd_eq, -loadS, -storeS, loadS_cons0, loadS_consS, storeS_cons0, storeS_consS, sfx_load0, sfx_load, sfx_store0, sfx_store, hS, h1, h5, h8, h10, hlt, hlt3, hi1, hi', hml, hx', c1, c2, c3, c4, rowsFrom, wrap_succ i (by omega)]
    done
  · rintro st ⟨J, S, rfl, hS, h1, h5, h8, h10⟩
    have hml : (hs.map hitD).length = hs.length := by simp
    generalize hs.map hitD = H at h1 hml ⊢
    by_cases hlt : min hs.length 3 < hs.length
    · have h1' : ((min hs.length 3 : Nat) : Int) < (hs.length : Int) := by omega
      have h2' : ¬ ((min hs.length 3 : Nat) : Int) < 3 := by omega
      generalize min hs.length 3 = j at h10 h1' h2' hlt
      simp [theLoop, Tryz.f3, loopsAll, Lp_some, and_assoc, -rd, rd_ne, rd_eq, hS, h1, h5, h8, h10, hml, h1', h2', hlt]
      done
    · have h1' : ¬ ((min hs.length 3 : Nat) : Int) < (hs.length : Int) := by omega
      generalize min hs.length 3 = j at h10 h1' hlt
      simp [theLoop, Tryz.f3, loopsAll, Lp_some, and_assoc, -rd, rd_ne, rd_eq, hS, h1, h5, h8, h10, hml, h1', hlt]
      done

theorem busTells_true (l : List Nd) (hs : List (List Int)) (hb : bytesOk l) (hw : ∀ w ∈ hs, w.length ≤ 2 ^ 63) : ∃ σ', evI E1 3 [.d (.slice (l.map Nd.D)), .d (.slice (hs.map hitD))] [] = some (.d (.bool true), σ') := by
  refine evI_ex (fn := Tryz.f3) 5 rfl Tryz.func3 rfl ?_
  have e0 := b_busHead
  have e1 := fun σ => r_Nodes l 5 (by omega) σ
  have e2 := fun σ => r_cut hs 20 (by omega) hw σ
  obtain ⟨k1, k2⟩ := cutL_ok hs 20 (by omega)
  have kr := nodesL_right l 5
  have kb := nodesL_bytes l 5 hb
  have kl := nodesL_len l 5
  generalize nodesL l 5 = L at e1 kr kb kl
  generalize cutL hs 20 = Q at e2 k1 k2
  have e3 := fun σ => b_Slots L kr kb (by omega) Q (by omega) (fun w h => by have := k2 w h; omega) σ
  have e4 := fun σ => r_Slots L kr kb (by omega) Q (by omega) (fun w h => by have := k2 w h; omega) σ
  obtain ⟨i1, i2, i3, i4⟩ := slotsL_inv kr kb _ Q rfl
  have e5 := fun σ => r_sameNs (slotsL L Q).1 i1.good (by rw [i3]; omega) σ
  have e6 := fun σ => r_sameTs (slotsL L Q).2 (by rw [i4]; omega) σ
  have hloop := l_bt 5 (slotsL L Q).1 i1 i2 (by rw [i3]; omega) Q k1 (fun w h => by have := k2 w h; omega)
  generalize (slotsL L Q).1.map Nd.D = M at e3 e4 e5 hloop
  generalize (slotsL L Q).2.map Td.D = T at e3 e4 e6
  generalize hH : Q.map hitD = H at e2 e3 e4 hloop
  have hml : H.length = Q.length := by rw [← hH]; simp
  generalize L.map Nd.D = L0 at e1 e3 e4
  generalize l.map Nd.D = l0 at e1 ⊢
  generalize hs.map hitD = h0 at e2 ⊢
  try simp at e3
  try simp at e4
  simp [Tryz.f3, ec_loop, e0, e1, e2, e3, e4, e5, e6]
  generalize hLL : loopN _ _ _ = LL
  obtain ⟨r, rfl, J, S, rfl, hS, h5⟩ := at_loop hLL (hloop _ rfl rfl rfl rfl rfl 5 (by omega))
  simp [-rd, rd_ne, rd_eq, hS, h5]

def busTells_types : List TypeId := [22, 23]
theorem busTells_args (ps : List PV) (h : OkArgs Tryz.prog 8 busTells_types ps) : ∃ σ', evI E1 3 ps [] = some (.d (.bool true), σ') := by
  obtain ⟨d1, _, h1, rfl, d2, _, h2, rfl, rfl⟩ := h
  obtain ⟨l, rfl, hb, _⟩ := ok_Nds (d := 2) h1
  obtain ⟨hs, rfl, hw⟩ := ok_Hits (d := 4) h2
  rw [arg_Nds, arg_Hits]
  exact busTells_true l hs hb hw
end Go.Proofs

