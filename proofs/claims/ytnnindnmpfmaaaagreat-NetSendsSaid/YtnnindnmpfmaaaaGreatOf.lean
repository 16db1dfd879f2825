/- The reference of the bus: a slot, whole; A slot, of the code and of the reference; what is the same as itself; What a slot leaves is right where what went in was; many slots in plain Lean; Many slots of the code; Many slots of the reference. -/
import Derived.Test.YtnnindnmpfmaaaaGreatOe
import Derived.Test.YtnnindnmpfmaaaaGreatNk
set_option linter.unusedVariables false
set_option linter.unusedSimpArgs false
set_option maxRecDepth 100000
set_option maxHeartbeats 8000000
namespace Go.Proofs
open Go.RowKit Go.Shelf Go.Pv

theorem r_slot1 (l : List Nd) (hg : ∀ n ∈ l, n.good) (hb : bytesOk l) (hl : l.length ≤ 1000) (who : List Int) (hwl : who.length ≤ 1000000) (hs : sndL l ≠ []) (σ : Store) : callIt E1 (evI E1) 25 [.d (.slice (l.map Nd.D)), .agg [.d (.slice (who.map intD))]] σ = some (.tup [.d (.slice ((slotL l who).1.map Nd.D)), (slotL l who).2.P], σ) := by
  refine call_run (fn := Tryz.f25) (l.length + 1) rfl rfl rfl Tryz.func25 rfl rfl ?_ rfl
  unfold slotL
  rw [if_neg hs]
  simp only
  have hW := fun σ => r_Winner l hg hl σ
  have hH := fun σ => r_hit l hg hl who hwl hs σ
  have hE := fun σ => r_heard l hg hl who σ
  obtain ⟨hw1, hw2⟩ := winP_line who hs
  have hfr : (lineOf l who).f.right = true := sndL_right hg _ hw2
  have hfb : byOk (lineOf l who).f.data := by
    obtain ⟨i, n, hn, h2, he⟩ := sndL_mem hw2
    have hf : (lineOf l who).f = n.Next.1 := (Prod.mk.inj he).2
    rw [hf]
    exact hb n (List.mem_of_getElem? hn) _ (Next_mem h2)
  have hwl2 := fun σ => r_wlen (lineOf l who).f hfr hfb σ
  have hwb := wire_len (lineOf l who).f hfr
  have hloop := l_rs (l.length + 1) l hg hl who hwl
  have hgoal : (if (!(lineOf l who).anyLoud && (lineOf l who).anyHears) = true then ((List.range l.length).map (lineOf l who).two, (⟨(lineOf l who).w, (lineOf l who).f, true, ((lineOf l who).f.wire.length : Int) + 3⟩ : Td)) else ((List.range l.length).map ((lineOf l who).three (lineOf l who).anyLoud), ⟨(lineOf l who).w, (lineOf l who).f, false, ((lineOf l who).f.wire.length : Int) + 23⟩)) =
      ((List.range l.length).map ((lineOf l who).node (lineOf l who).anyLoud (!(lineOf l who).anyLoud && (lineOf l who).anyHears)), ⟨(lineOf l who).w, (lineOf l who).f, !(lineOf l who).anyLoud && (lineOf l who).anyHears, ((lineOf l who).f.wire.length : Int) + if !(lineOf l who).anyLoud && (lineOf l who).anyHears then 3 else 23⟩) := by
    have hnode : ∀ A, (lineOf l who).node A true = (lineOf l who).two := fun A => by funext i; unfold Ln.node; simp
    have hnode' : ∀ A, (lineOf l who).node A false = (lineOf l who).three A := fun A => by funext i; unfold Ln.node; simp
    cases (!(lineOf l who).anyLoud && (lineOf l who).anyHears)
    · rw [hnode']; simp
    · rw [hnode]; simp
  rw [hgoal]
  clear hgoal hfr hfb
  rw [hw1] at hW
  simp only [atP, Option.map_some, Option.getD_some] at hW
  have hnodes := fun A bad => hloop A bad
  clear hloop
  generalize (lineOf l who).node = nodeF at hnodes ⊢
  generalize (lineOf l who).anyHears = B at hE ⊢
  generalize (lineOf l who).anyLoud = A at hH ⊢
  generalize (lineOf l who).w = w at hw2 hW ⊢
  generalize (lineOf l who).f = f at hw2 hwl2 hwb hnodes ⊢
  obtain ⟨k, nk, hk, hk2, he⟩ := sndL_mem hw2
  obtain ⟨rfl, rfl⟩ := Prod.mk.inj he
  obtain ⟨hkl, hk⟩ := List.getElem?_eq_some_iff.1 hk
  have hgk := hg nk (by rw [← hk]; exact List.getElem_mem hkl)
  have hnk := fun σ => r_Next nk (Nat.le_trans hgk.q (by omega)) hgk.r σ
  rw [hk2] at hnk
  have hk0 : ¬ (k : Int) < 0 := by omega
  clear hw1 hw2 he
  generalize nk.Next.1 = f at hnk hnodes hwl2 hwb ⊢
  generalize f.wire.length = wl at hwl2 hwb ⊢
  have w3 : IntKind.i64.wrap ((wl : Int) + 3) = wl + 3 := wrap_ok (by omega) (by omega)
  have w23 : IntKind.i64.wrap ((wl : Int) + 23) = wl + 23 := wrap_ok (by omega) (by omega)
  simp only [cellsOf, Fr.P] at hnodes
  try simp at hW
  try simp at hH
  try simp at hE
  try simp at hnk
  try simp at hwl2
  clear hg hb hs hgk hwb hk2
  cases A
  · cases B
    · have hq := hnodes false false
      simp only [Bool.not_false, Bool.true_and, Bool.not_true, Bool.false_and, if_true, if_false, Bool.false_eq_true]
      generalize (List.range l.length).map (nodeF false false) = out at hq ⊢
      simp [Tryz.f25, -loadS, -storeS, loadS_cons0, loadS_consS, storeS_cons0, storeS_consS, hW, hH, hE, hk, hkl, hk0, hnk, rowsFrom, acc_nil, ec_loop]
      generalize hLL : loopN _ _ _ = L
      obtain ⟨r, rfl, S, J, rfl, hS, h5, h6, h7, h9, h12⟩ := at_loop hLL (hq (.d (.int .i64 k)) _ _ rfl rfl rfl rfl rfl rfl rfl rfl rfl rfl (l.length + 1) (by omega))
      have h5' := rd_el h5 (by omega)
      simp [-rd, rd_set, -loadS, -storeS, loadS_cons0, loadS_consS, storeS_cons0, storeS_consS, hS, h5, h5', h6, h7, h9, h12, hwl2, w23]
      done
    · have hq := hnodes false true
      simp only [Bool.not_false, Bool.true_and, Bool.not_true, Bool.false_and, if_true, if_false, Bool.false_eq_true]
      generalize (List.range l.length).map (nodeF false true) = out at hq ⊢
      simp [Tryz.f25, -loadS, -storeS, loadS_cons0, loadS_consS, storeS_cons0, storeS_consS, hW, hH, hE, hk, hkl, hk0, hnk, rowsFrom, acc_nil, ec_loop]
      generalize hLL : loopN _ _ _ = L
      obtain ⟨r, rfl, S, J, rfl, hS, h5, h6, h7, h9, h12⟩ := at_loop hLL (hq (.d (.int .i64 k)) _ _ rfl rfl rfl rfl rfl rfl rfl rfl rfl rfl (l.length + 1) (by omega))
      have h5' := rd_el h5 (by omega)
      simp [-rd, rd_set, -loadS, -storeS, loadS_cons0, loadS_consS, storeS_cons0, storeS_consS, hS, h5, h5', h6, h7, h9, h12, hwl2, w3]
      done
  · have hq := hnodes true false
    simp only [Bool.not_false, Bool.true_and, Bool.not_true, Bool.false_and, if_true, if_false, Bool.false_eq_true]
    generalize (List.range l.length).map (nodeF true false) = out at hq ⊢
    simp [Tryz.f25, -loadS, -storeS, loadS_cons0, loadS_consS, storeS_cons0, storeS_consS, hW, hH, hE, hk, hkl, hk0, hnk, rowsFrom, acc_nil, ec_loop]
    generalize hLL : loopN _ _ _ = L
    obtain ⟨r, rfl, S, J, rfl, hS, h5, h6, h7, h9, h12⟩ := at_loop hLL (hq (.d (.int .i64 k)) _ _ rfl rfl rfl rfl rfl rfl rfl rfl rfl rfl (l.length + 1) (by omega))
    have h5' := rd_el h5 (by omega)
    simp [-rd, rd_set, -loadS, -storeS, loadS_cons0, loadS_consS, storeS_cons0, storeS_consS, hS, h5, h5', h6, h7, h9, h12, hwl2, w23]
    done
end Go.Proofs

set_option linter.unusedVariables false
set_option linter.unusedSimpArgs false
set_option maxRecDepth 100000
set_option maxHeartbeats 8000000
namespace Go.Proofs
open Go.RowKit Go.Shelf Go.Pv

theorem b_Slot (l : List Nd) (hg : ∀ n ∈ l, n.good) (hb : bytesOk l) (hl : l.length ≤ 1000) (who : List Int) (hwl : who.length ≤ 1000000) (σ : Store) : callIt E1 (evI E1) 24 [.d (.slice (l.map Nd.D)), .agg [.d (.slice (who.map intD))]] σ = some (.tup [.d (.slice ((slotL l who).1.map Nd.D)), (slotL l who).2.P], σ) := by
  by_cases hs : sndL l = []
  · exact b_slot0 l hg hl who hs σ
  · exact b_slot1 l hg hb hl who hwl hs σ
theorem r_Slot (l : List Nd) (hg : ∀ n ∈ l, n.good) (hb : bytesOk l) (hl : l.length ≤ 1000) (who : List Int) (hwl : who.length ≤ 1000000) (σ : Store) : callIt E1 (evI E1) 25 [.d (.slice (l.map Nd.D)), .agg [.d (.slice (who.map intD))]] σ = some (.tup [.d (.slice ((slotL l who).1.map Nd.D)), (slotL l who).2.P], σ) := by
  by_cases hs : sndL l = []
  · exact r_slot0 l hg hl who hs σ
  · exact r_slot1 l hg hb hl who hwl hs σ

theorem r_sameTold (t : Td) (σ : Store) : callIt E1 (evI E1) 26 [t.P, t.P] σ = some (.d (.bool true), σ) := by
  refine call_run (fn := Tryz.f26) 5 rfl rfl rfl Tryz.func26 rfl rfl ?_ rfl
  have h := fun σ => r_same t.f t.f σ
  obtain ⟨w, f, bad, z⟩ := t
  simp only [Fr.same_refl] at h
  try simp at h
  simp [Tryz.f26, h]
  done

theorem l_sameNs (m : Nat) (l : List Nd) (hg : ∀ n ∈ l, n.good) (hl : l.length ≤ 1000000) (S : List PV) (hS : S.length = 27) (h0 : rd S 0 = .d (.slice (l.map Nd.D))) (h1 : rd S 1 = .d (.slice (l.map Nd.D))) (h5 : rd S 5 = .d (.int .i64 0)) (k : Nat) (hk : l.length < k) :
    Lp (loopN (evCode E1 (evI E1) m (theLoop Tryz.f22 0)) k ⟨S, []⟩) fun r => ∃ S' : List PV, r = (.exit 0, ⟨S', []⟩) ∧ S'.length = 27 := by
  refine loop_inv (fun i st => ∃ S : List PV, st = ⟨S, []⟩ ∧ S.length = 27 ∧ rd S 0 = .d (.slice (l.map Nd.D)) ∧ rd S 1 = .d (.slice (l.map Nd.D)) ∧ rd S 5 = .d (.int .i64 i)) _ l.length ?_ ?_ k 0 _ (by omega) (by omega) ⟨S, rfl, hS, h0, h1, h5⟩
  · rintro i st hi ⟨S, rfl, hS, h0, h1, h5⟩
    have hgi := hg l[i] (List.getElem_mem hi)
    generalize hx : l[i] = n at hgi
    have hn := fun σ => r_sameNd n (Nat.le_trans hgi.fs (by omega)) (Nat.le_trans hgi.q (by omega)) (Nat.le_trans hgi.g (by omega)) σ
    have hlt : (i : Int) < (l.length : Int) := by omega
    try simp at hn
    simp [theLoop, Tryz.f22, loopsAll, Lp_some, and_assoc, -rd, rd_set, hS, h0, h1, h5, hlt, hi, hx, hn, wrap_succ i (by omega)]
    done
  · rintro st ⟨S, rfl, hS, h0, h1, h5⟩
    simp [theLoop, Tryz.f22, loopsAll, Lp_some, and_assoc, -rd, rd_set, hS, h0, h1, h5]
theorem r_sameNs (l : List Nd) (hg : ∀ n ∈ l, n.good) (hl : l.length ≤ 1000000) (σ : Store) : callIt E1 (evI E1) 22 [.d (.slice (l.map Nd.D)), .d (.slice (l.map Nd.D))] σ = some (.d (.bool true), σ) := by
  refine call_run (fn := Tryz.f22) (l.length + 1) rfl rfl rfl Tryz.func22 rfl rfl ?_ rfl
  simp [Tryz.f22, ec_loop]
  generalize hLL : loopN _ _ _ = L
  obtain ⟨r, rfl, S, rfl, hS⟩ := at_loop hLL (l_sameNs (l.length + 1) l hg hl _ rfl rfl rfl rfl (l.length + 1) (by omega))
  simp [-rd, rd_set, hS]

theorem l_sameTs (m : Nat) (l : List Td) (hl : l.length ≤ 1000000) (S : List PV) (hS : S.length = 27) (h0 : rd S 0 = .d (.slice (l.map Td.D))) (h1 : rd S 1 = .d (.slice (l.map Td.D))) (h5 : rd S 5 = .d (.int .i64 0)) (k : Nat) (hk : l.length < k) :
    Lp (loopN (evCode E1 (evI E1) m (theLoop Tryz.f23 0)) k ⟨S, []⟩) fun r => ∃ S' : List PV, r = (.exit 0, ⟨S', []⟩) ∧ S'.length = 27 := by
  refine loop_inv (fun i st => ∃ S : List PV, st = ⟨S, []⟩ ∧ S.length = 27 ∧ rd S 0 = .d (.slice (l.map Td.D)) ∧ rd S 1 = .d (.slice (l.map Td.D)) ∧ rd S 5 = .d (.int .i64 i)) _ l.length ?_ ?_ k 0 _ (by omega) (by omega) ⟨S, rfl, hS, h0, h1, h5⟩
  · rintro i st hi ⟨S, rfl, hS, h0, h1, h5⟩
    generalize hx : l[i] = t
    have hn := fun σ => r_sameTold t σ
    have hlt : (i : Int) < (l.length : Int) := by omega
    try simp at hn
    simp [theLoop, Tryz.f23, loopsAll, Lp_some, and_assoc, -rd, rd_set, hS, h0, h1, h5, hlt, hi, hx, hn, wrap_succ i (by omega)]
    done
  · rintro st ⟨S, rfl, hS, h0, h1, h5⟩
    simp [theLoop, Tryz.f23, loopsAll, Lp_some, and_assoc, -rd, rd_set, hS, h0, h1, h5]
theorem r_sameTs (l : List Td) (hl : l.length ≤ 1000000) (σ : Store) : callIt E1 (evI E1) 23 [.d (.slice (l.map Td.D)), .d (.slice (l.map Td.D))] σ = some (.d (.bool true), σ) := by
  refine call_run (fn := Tryz.f23) (l.length + 1) rfl rfl rfl Tryz.func23 rfl rfl ?_ rfl
  simp [Tryz.f23, ec_loop]
  generalize hLL : loopN _ _ _ = L
  obtain ⟨r, rfl, S, rfl, hS⟩ := at_loop hLL (l_sameTs (l.length + 1) l hl _ rfl rfl rfl rfl (l.length + 1) (by omega))
  simp [-rd, rd_set, hS]
end Go.Proofs

set_option linter.unusedVariables false
set_option linter.unusedSimpArgs false
set_option maxRecDepth 100000
set_option maxHeartbeats 8000000
namespace Go.Proofs
open Go.RowKit Go.Shelf Go.Pv

def rights (l : List Nd) : Prop := ∀ n ∈ l, n.right = true
theorem Nd.right_good {n : Nd} (h : n.right = true) : n.good := by
  rw [Nd.right_iff] at h
  exact ⟨by omega, by omega, by omega, h.1.2, Cn.right_ok h.2.2.2⟩
theorem rights.good {l : List Nd} (h : rights l) : ∀ n ∈ l, n.good := fun n hn => Nd.right_good (h n hn)

theorem Sent_q (n : Nd) (ok : Bool) : ∀ f ∈ (n.Sent ok).q, f ∈ n.q := by
  intro f hf
  unfold Nd.Sent at hf
  split at hf
  · exact hf
  · cases ok
    · simpa using hf
    · simp only [if_true] at hf
      exact List.mem_of_mem_eraseIdx hf
theorem Heard_q (n : Nd) (f : Fr) (ok long : Bool) : (n.Heard f ok long).q = n.q := by unfold Nd.Heard; split <;> rfl
theorem Quiet_q (n : Nd) : n.Quiet.q = n.q := rfl

theorem nd_mem {l : List Nd} {i : Nat} (hi : i < l.length) : nd l i ∈ l := by
  have : nd l i = l[i] := by simp [nd, List.getD, hi]
  rw [this]; exact List.getElem_mem hi

theorem slotL_len (l : List Nd) (who : List Int) : (slotL l who).1.length = l.length := by
  unfold slotL
  split
  · simp
  · dsimp only
    split <;> simp

theorem line_right {l : List Nd} (h : rights l) (who : List Int) (hs : sndL l ≠ []) : (lineOf l who).f.right = true := sndL_right h.good _ (winP_line who hs).2

theorem slotL_right {l : List Nd} (h : rights l) (who : List Int) : rights (slotL l who).1 := by
  unfold slotL
  by_cases hs : sndL l = []
  · rw [if_pos hs]
    intro n hn
    obtain ⟨i, hi, rfl⟩ := List.mem_map.1 hn
    exact Nd.Quiet_right (h _ (nd_mem (by simpa using hi)))
  · rw [if_neg hs]
    have hf := line_right h who hs
    have hx : (lineOf l who).l = l := rfl
    generalize lineOf l who = x at hf hx
    subst hx
    dsimp only
    split
    · intro n hn
      obtain ⟨i, hi, rfl⟩ := List.mem_map.1 hn
      have hr := h _ (nd_mem (by simpa using hi))
      unfold Ln.two
      split
      · exact Nd.Sent_right hr true
      · exact Nd.Heard_right hr _ hf _ _
    · intro n hn
      obtain ⟨i, hi, rfl⟩ := List.mem_map.1 hn
      have hr := h _ (nd_mem (by simpa using hi))
      unfold Ln.three
      split
      · split
        · exact hr
        · exact Nd.Sent_right hr false
      · exact Nd.Heard_right hr _ hf _ _

theorem slotL_bytes {l : List Nd} (h : bytesOk l) (who : List Int) : bytesOk (slotL l who).1 := by
  unfold slotL
  by_cases hs : sndL l = []
  · rw [if_pos hs]
    intro n hn
    obtain ⟨i, hi, rfl⟩ := List.mem_map.1 hn
    exact h (nd l i) (nd_mem (by simpa using hi))
  · rw [if_neg hs]
    have hx : (lineOf l who).l = l := rfl
    generalize lineOf l who = x at hx
    subst hx
    dsimp only
    split
    · intro n hn
      obtain ⟨i, hi, rfl⟩ := List.mem_map.1 hn
      have hr := h _ (nd_mem (by simpa using hi))
      unfold Ln.two
      split
      · exact fun f hf => hr f (Sent_q _ _ f hf)
      · rw [Heard_q]; exact hr
    · intro n hn
      obtain ⟨i, hi, rfl⟩ := List.mem_map.1 hn
      have hr := h _ (nd_mem (by simpa using hi))
      unfold Ln.three
      split
      · split
        · exact hr
        · exact fun f hf => hr f (Sent_q _ _ f hf)
      · rw [Heard_q]; exact hr

/-- Many slots. -/
def slotsS (x : List Nd × List Td) (who : List Int) : List Nd × List Td := ((slotL x.1 who).1, x.2 ++ [(slotL x.1 who).2])
def slotsL (l : List Nd) (hs : List (List Int)) : List Nd × List Td := hs.foldl slotsS (l, [])
theorem slotsL_succ (l : List Nd) (hs : List (List Int)) {i : Nat} (hi : i < hs.length) : slotsL l (hs.take (i + 1)) = slotsS (slotsL l (hs.take i)) hs[i] := by
  rw [slotsL, List.take_add_one, List.getElem?_eq_getElem hi, List.foldl_append]; rfl
theorem slotsL_inv {l : List Nd} (h : rights l) (hb : bytesOk l) : ∀ (n : Nat) (hs : List (List Int)), hs.length = n → rights (slotsL l hs).1 ∧ bytesOk (slotsL l hs).1 ∧ (slotsL l hs).1.length = l.length ∧ (slotsL l hs).2.length = hs.length := by
  intro n
  induction n with
  | zero => intro hs hn; rw [List.eq_nil_of_length_eq_zero hn]; exact ⟨h, hb, rfl, rfl⟩
  | succ n ih =>
    intro hs hn
    have e := slotsL_succ l hs (i := n) (by omega)
    rw [List.take_of_length_le (by omega)] at e
    obtain ⟨a1, a2, a3, a4⟩ := ih (hs.take n) (by simp; omega)
    rw [e]
    unfold slotsS
    refine ⟨slotL_right a1 _, slotL_bytes a2 _, by simp only [slotL_len, a3], ?_⟩
    simp only [List.length_append, a4, List.length_singleton, List.length_take]
    omega
end Go.Proofs

set_option linter.unusedVariables false
set_option linter.unusedSimpArgs false
set_option maxRecDepth 100000
set_option maxHeartbeats 8000000
namespace Go.Proofs
open Go.RowKit Go.Shelf Go.Pv

def hitD (who : List Int) : List DV := [.slice (who.map intD)]
theorem Ty.appTold : appT Tryz.prog 27 = some (8, 80) := by kernel_rfl
theorem appTs (rows xs : List (List DV)) (h : rowsOk 8 rows = true) (h' : rowsOk 8 xs = true) (hb : (rows.length + xs.length) * 80 ≤ roomB) : evAppend Tryz.prog 27 (acc rows) (.d (.slice xs)) = some (acc (rows ++ xs)) := by
  unfold evAppend
  rw [Ty.appTold]
  simp only [Option.bind_some, acc_own, elemsOf, h, h', Bool.true_and, hb, decide_true, if_true]
theorem appTd (A : List Td) (t : Td) (h : A.length ≤ 100000) : evAppend Tryz.prog 27 (acc (A.map Td.D)) (.d (.slice [t.D])) = some (acc ((A ++ [t]).map Td.D)) := by
  rw [appTs (A.map Td.D) [t.D] (rowsOk_map (D := Td.D) (fun _ => rfl) A) rfl (by simp [roomB]; omega), List.map_append]
  rfl

theorem l_slots (m : Nat) (l : List Nd) (hr : rights l) (hb : bytesOk l) (hl : l.length ≤ 1000) (hs : List (List Int)) (hhl : hs.length ≤ 100000) (hw : ∀ w ∈ hs, w.length ≤ 1000000) (S : List PV) (hS : S.length = 34) (h6 : rd S 6 = acc (l.map Nd.D)) (h7 : rd S 7 = .e0) (h14 : rd S 14 = .d (.slice (hs.map hitD))) (h15 : rd S 15 = .d (.int .i64 hs.length)) (h16 : rd S 16 = .d (.int .i64 0)) (k : Nat) (hk : hs.length < k) :
    Lp (loopN (evCode E1 (evI E1) m (theLoop Tryz.f20 0)) k ⟨S, []⟩) fun r => ∃ (S' : List PV) (J : Store), r = (.exit 0, ⟨S', J⟩) ∧ S'.length = 34 ∧ (rd S' 6 = acc ((slotsL l hs).1.map Nd.D) ∨ rd S' 6 = .d (.slice ((slotsL l hs).1.map Nd.D))) ∧ rd S' 7 = acc ((slotsL l hs).2.map Td.D) := by
  refine loop_inv (fun i st => ∃ (J : Store) (S : List PV), st = ⟨S, J⟩ ∧ S.length = 34 ∧ (rd S 6 = acc ((slotsL l (hs.take i)).1.map Nd.D) ∨ rd S 6 = .d (.slice ((slotsL l (hs.take i)).1.map Nd.D))) ∧ rd S 7 = acc ((slotsL l (hs.take i)).2.map Td.D) ∧ rd S 14 = .d (.slice (hs.map hitD)) ∧ rd S 15 = .d (.int .i64 hs.length) ∧ rd S 16 = .d (.int .i64 i)) _ hs.length ?_ ?_ k 0 _ (by omega) (by omega) ⟨[], S, rfl, hS, .inl h6, h7, h14, h15, h16⟩
  · rintro i st hi ⟨J, S, rfl, hS, h6, h7, h14, h15, h16⟩
    obtain ⟨i1, i2, i3, i4⟩ := slotsL_inv hr hb _ (hs.take i) rfl
    have htk := slotsL_succ l hs hi
    have hwi := hw hs[i] (List.getElem_mem hi)
    have hx' : (hs.map hitD)[i]? = some (hitD hs[i]) := by simp [hi]
    have hml : (hs.map hitD).length = hs.length := by simp
    have hi' : i < (hs.map hitD).length := by simpa using hi
    generalize hs[i] = w at htk hwi hx'
    have hcall := fun σ => b_Slot (slotsL l (hs.take i)).1 i1.good i2 (by rw [i3]; exact hl) w hwi σ
    have hap := appTd (slotsL l (hs.take i)).2 (slotL (slotsL l (hs.take i)).1 w).2 (by rw [i4]; simp; omega)
    unfold slotsS at htk
    generalize slotsL l (hs.take (i + 1)) = X1 at htk ⊢
    subst htk
    generalize slotsL l (hs.take i) = X0 at hcall hap h6 h7
    obtain ⟨L0, T0⟩ := X0
    simp only at hcall hap h6 h7
    generalize slotL L0 w = R at hcall hap ⊢
    obtain ⟨L1, t⟩ := R
    simp only at hcall hap ⊢
    generalize T0 ++ [t] = T1 at hap ⊢
    have hlt : (i : Int) < (hs.length : Int) := by omega
    generalize hs.map hitD = H at hx' hml hi' h14 ⊢
    obtain ⟨_, hx'⟩ := List.getElem?_eq_some_iff.1 hx'
    simp only [hitD] at hx'
    simp only [Td.D] at hap
    try simp at hcall
    rcases h6 with h6 | h6
    all_goals
      simp [theLoop, Tryz.f20, loopsAll, Lp_some, and_assoc, -rd, rd_set, -loadS, -storeS, loadS_cons0, loadS_consS, storeS_cons0, storeS_consS, sfx_load0, sfx_load, sfx_store0, sfx_store, hS, h6, h7, h14, h15, h16, hlt, hi, hi', hml, hx', hcall, hap, rowsFrom, wrap_succ i (by omega)]
      done
  · rintro st ⟨J, S, rfl, hS, h6, h7, h14, h15, h16⟩
    rw [List.take_length] at h6 h7
    generalize slotsL l hs = X at h6 h7 ⊢
    simp [theLoop, Tryz.f20, loopsAll, Lp_some, and_assoc, -rd, rd_set, hS, h7, h14, h15, h16]
    simpa using h6

theorem b_Slots (l : List Nd) (hr : rights l) (hb : bytesOk l) (hl : l.length ≤ 1000) (hs : List (List Int)) (hhl : hs.length ≤ 100000) (hw : ∀ w ∈ hs, w.length ≤ 1000000) (σ : Store) : callIt E1 (evI E1) 20 [.d (.slice (l.map Nd.D)), .d (.slice (hs.map hitD))] σ = some (.tup [.d (.slice ((slotsL l hs).1.map Nd.D)), .d (.slice ((slotsL l hs).2.map Td.D))], σ) := by
  refine call_run (fn := Tryz.f20) (hs.length + 1) rfl rfl rfl Tryz.func20 rfl rfl ?_ rfl
  have hap := appN [] (l.map Nd.D) rfl (rowsOk_Nd l) (by simp [roomB]; omega)
  rw [List.nil_append] at hap
  have hloop := l_slots (hs.length + 1) l hr hb hl hs hhl hw
  generalize slotsL l hs = X at hloop ⊢
  have hml : (hs.map hitD).length = hs.length := by simp
  generalize hs.map hitD = H at hloop hml ⊢
  simp [acc_nil] at hap
  simp [Tryz.f20, ec_loop, hap, hml]
  generalize hLL : loopN _ _ _ = L
  obtain ⟨r, rfl, S, J, rfl, hS, h6, h7⟩ := at_loop hLL (hloop _ rfl rfl rfl rfl rfl rfl (hs.length + 1) (by omega))
  rcases h6 with h6 | h6 <;> simp [-rd, rd_set, hS, h6, h7]
end Go.Proofs

set_option linter.unusedVariables false
set_option linter.unusedSimpArgs false
set_option maxRecDepth 100000
set_option maxHeartbeats 8000000
namespace Go.Proofs
open Go.RowKit Go.Shelf Go.Pv

theorem l_rslots (m : Nat) (l : List Nd) (hr : rights l) (hb : bytesOk l) (hl : l.length ≤ 1000) (hs : List (List Int)) (hhl : hs.length ≤ 100000) (hw : ∀ w ∈ hs, w.length ≤ 1000000) (S : List PV) (hS : S.length = 37) (h6 : rd S 6 = acc (l.map Nd.D)) (h7 : rd S 7 = acc []) (h14 : rd S 1 = .d (.slice (hs.map hitD))) (h16 : rd S 8 = .d (.int .i64 0)) (k : Nat) (hk : hs.length < k) :
    Lp (loopN (evCode E1 (evI E1) m (theLoop Tryz.f21 0)) k ⟨S, []⟩) fun r => ∃ (S' : List PV) (J : Store), r = (.exit 0, ⟨S', J⟩) ∧ S'.length = 37 ∧ (rd S' 6 = acc ((slotsL l hs).1.map Nd.D) ∨ rd S' 6 = .d (.slice ((slotsL l hs).1.map Nd.D))) ∧ rd S' 7 = acc ((slotsL l hs).2.map Td.D) := by
  refine loop_inv (fun i st => ∃ (J : Store) (S : List PV), st = ⟨S, J⟩ ∧ S.length = 37 ∧ (rd S 6 = acc ((slotsL l (hs.take i)).1.map Nd.D) ∨ rd S 6 = .d (.slice ((slotsL l (hs.take i)).1.map Nd.D))) ∧ rd S 7 = acc ((slotsL l (hs.take i)).2.map Td.D) ∧ rd S 1 = .d (.slice (hs.map hitD)) ∧ rd S 8 = .d (.int .i64 i)) _ hs.length ?_ ?_ k 0 _ (by omega) (by omega) ⟨[], S, rfl, hS, .inl h6, h7, h14, h16⟩
  · rintro i st hi ⟨J, S, rfl, hS, h6, h7, h14, h16⟩
    obtain ⟨i1, i2, i3, i4⟩ := slotsL_inv hr hb _ (hs.take i) rfl
    have htk := slotsL_succ l hs hi
    have hwi := hw hs[i] (List.getElem_mem hi)
    have hx' : (hs.map hitD)[i]? = some (hitD hs[i]) := by simp [hi]
    have hml : (hs.map hitD).length = hs.length := by simp
    have hi' : i < (hs.map hitD).length := by simpa using hi
    generalize hs[i] = w at htk hwi hx'
    have hcall := fun σ => r_Slot (slotsL l (hs.take i)).1 i1.good i2 (by rw [i3]; exact hl) w hwi σ
    have hap := appTd (slotsL l (hs.take i)).2 (slotL (slotsL l (hs.take i)).1 w).2 (by rw [i4]; simp; omega)
    unfold slotsS at htk
    generalize slotsL l (hs.take (i + 1)) = X1 at htk ⊢
    subst htk
    generalize slotsL l (hs.take i) = X0 at hcall hap h6 h7
    obtain ⟨L0, T0⟩ := X0
    simp only at hcall hap h6 h7
    generalize slotL L0 w = R at hcall hap ⊢
    obtain ⟨L1, t⟩ := R
    simp only at hcall hap ⊢
    generalize T0 ++ [t] = T1 at hap ⊢
    have hlt : (i : Int) < (hs.length : Int) := by omega
    generalize hs.map hitD = H at hx' hml hi' h14 ⊢
    obtain ⟨_, hx'⟩ := List.getElem?_eq_some_iff.1 hx'
    simp only [hitD] at hx'
    simp only [Td.D] at hap
    try simp at hcall
    rcases h6 with h6 | h6
    all_goals
      simp [theLoop, Tryz.f21, loopsAll, Lp_some, and_assoc, -rd, rd_set, -loadS, -storeS, loadS_cons0, loadS_consS, storeS_cons0, storeS_consS, sfx_load0, sfx_load, sfx_store0, sfx_store, hS, h6, h7, h14, h16, hlt, hi, hi', hml, hx', hcall, hap, rowsFrom, wrap_succ i (by omega)]
      done
  · rintro st ⟨J, S, rfl, hS, h6, h7, h14, h16⟩
    rw [List.take_length] at h6 h7
    generalize slotsL l hs = X at h6 h7 ⊢
    simp [theLoop, Tryz.f21, loopsAll, Lp_some, and_assoc, -rd, rd_set, hS, h7, h14, h16]
    simpa using h6

theorem r_Slots (l : List Nd) (hr : rights l) (hb : bytesOk l) (hl : l.length ≤ 1000) (hs : List (List Int)) (hhl : hs.length ≤ 100000) (hw : ∀ w ∈ hs, w.length ≤ 1000000) (σ : Store) : callIt E1 (evI E1) 21 [.d (.slice (l.map Nd.D)), .d (.slice (hs.map hitD))] σ = some (.tup [.d (.slice ((slotsL l hs).1.map Nd.D)), .d (.slice ((slotsL l hs).2.map Td.D))], σ) := by
  refine call_run (fn := Tryz.f21) (hs.length + 1) rfl rfl rfl Tryz.func21 rfl rfl ?_ rfl
  have hap := appN [] (l.map Nd.D) rfl (rowsOk_Nd l) (by simp [roomB]; omega)
  rw [List.nil_append] at hap
  have hloop := l_rslots (hs.length + 1) l hr hb hl hs hhl hw
  generalize slotsL l hs = X at hloop ⊢
  have hml : (hs.map hitD).length = hs.length := by simp
  generalize hs.map hitD = H at hloop hml ⊢
  simp [acc_nil] at hap
  simp [Tryz.f21, ec_loop, hap, hml, rowsFrom, acc_nil]
  generalize hLL : loopN _ _ _ = L
  obtain ⟨r, rfl, S, J, rfl, hS, h6, h7⟩ := at_loop hLL (hloop _ rfl rfl rfl rfl rfl (hs.length + 1) (by omega))
  rcases h6 with h6 | h6 <;> simp [-rd, rd_set, hS, h6, h7]
end Go.Proofs

