/- Who wins on a line, and who sends along: plain; A slot, of the code and of the reference; what is the same as itself; What a slot leaves is right where what went in was; many slots in plain Lean; Many slots of the code. -/
import Derived.Test.YtnnindnmpfmaaaaGreatOb
import Derived.Test.YtnnindnmpfmaaaaGreatNgl
import Derived.Test.YtnnindnmpfmaaaaGreatNk2
set_option linter.unusedVariables false
set_option linter.unusedSimpArgs false
set_option maxRecDepth 100000
set_option maxHeartbeats 8000000
namespace Go.Proofs
open Go.RowKit Go.Shelf Go.Pv

def winS (b : Option (Int × Fr)) (p : Int × Fr) : Option (Int × Fr) := match b with | none => some p | some q => if rankCmp p.2 q.2 < 0 then some p else some q
def winP (P : List (Int × Fr)) : Option (Int × Fr) := P.foldl winS none
def atP (o : Option (Int × Fr)) : Int := (o.map (·.1)).getD (-1)

theorem winS_plc : ∀ (Q P : List (Int × Fr)) (i b : Nat) (q : Int × Fr), P.drop i = Q → P[b]? = some q → Q.foldl winS (some q) = P[(plc (Q.map (·.2)) i b q.2).1]?
  | [], P, i, b, q, _, hb => by simp [plc, hb]
  | p :: Q, P, i, b, q, hd, hb => by
    have hi : P[i]? = some p := by
      have : (P.drop i)[0]? = some p := by rw [hd]; rfl
      simpa using this
    have hd' : P.drop (i + 1) = Q := by rw [← List.drop_drop, hd]; rfl
    rw [List.foldl_cons, List.map_cons, plc]
    by_cases h : rankCmp p.2 q.2 < 0
    · rw [show winS (some q) p = some p by unfold winS; simp [h], if_pos h]
      exact winS_plc Q P (i + 1) i p hd' hi
    · rw [show winS (some q) p = some q by unfold winS; simp [h], if_neg h]
      exact winS_plc Q P (i + 1) b q hd' hb
theorem winP_nil : winP [] = none := rfl
theorem winP_eq {P : List (Int × Fr)} (h : P ≠ []) : winP P = P[nxt (P.map (·.2))]? := by
  cases P with
  | nil => exact absurd rfl h
  | cons p Q =>
    have h1 := winS_plc Q (p :: Q) 1 0 p rfl rfl
    have h2 := (nxt_spec p.2 (Q.map (·.2))).1
    rw [List.map_cons, h2, ← h1]
    rfl

/-- Who sends along, said of one node. -/
theorem sends_eq {l : List Nd} (who : List Int) {i : Nat} {n : Nd} (hi : l[i]? = some n) : (lineOf l who).sends i = (n.Next.2 && decide (n.Next.1.rank = (lineOf l who).f.rank)) := by
  have hal : (lineOf l who).al = alongL (sndL l) (lineOf l who).f := rfl
  unfold Ln.sends
  rw [hal]
  generalize (lineOf l who).f = f
  rw [Bool.eq_iff_iff]
  simp only [List.contains_iff_mem, Bool.and_eq_true, decide_eq_true_eq]
  constructor
  · intro h
    obtain ⟨p, hp, h2⟩ := List.mem_filterMap.1 h
    obtain ⟨k, m, hk, hm, rfl⟩ := sndL_mem hp
    by_cases hr : m.Next.1.rank = f.rank
    · simp only [hr, if_true, Option.some.injEq] at h2
      have : k = i := by omega
      subst this
      rw [hi] at hk
      obtain rfl := Option.some.inj hk
      exact ⟨hm, hr⟩
    · simp only [hr, if_false] at h2
      exact absurd h2 (by simp)
  · rintro ⟨h1, h2⟩
    refine List.mem_filterMap.2 ⟨((i : Int), n.Next.1), ?_, by simp [h2]⟩
    simp only [sndL, List.mem_filterMap]
    exact ⟨(n, i), List.mem_zipIdx_iff_getElem?.2 hi, by simp [h1]⟩
theorem winP_line {l : List Nd} (who : List Int) (hs : sndL l ≠ []) : winP (sndL l) = some ((lineOf l who).w, (lineOf l who).f) ∧ ((lineOf l who).w, (lineOf l who).f) ∈ sndL l := by
  have hm : (sndL l).map (·.2) ≠ [] := by simpa using hs
  have hk := nxt_lt hm
  rw [List.length_map] at hk
  have he : (sndL l).getD (nxt ((sndL l).map (·.2))) (0, fr0) = (sndL l)[nxt ((sndL l).map (·.2))] := by simp [List.getD, List.getElem?_eq_getElem hk]
  have h1 : ((lineOf l who).w, (lineOf l who).f) = (sndL l)[nxt ((sndL l).map (·.2))] := by
    unfold lineOf
    simp only [he]
  rw [h1]
  exact ⟨by rw [winP_eq hs, List.getElem?_eq_getElem hk], List.getElem_mem hk⟩

theorem sends_none {l : List Nd} (who : List Int) (hs : sndL l = []) (i : Nat) : (lineOf l who).sends i = false := by
  have : (lineOf l who).al = [] := by
    unfold lineOf
    simp only [hs]
    rfl
  simp [Ln.sends, this]
end Go.Proofs

set_option linter.unusedVariables false
set_option linter.unusedSimpArgs false
set_option maxRecDepth 100000
set_option maxHeartbeats 8000000
namespace Go.Proofs
open Go.RowKit Go.Shelf Go.Pv

theorem b_Slot (l : List Nd) (hg : ∀ n ∈ l, n.good) (hb : bytesOk l) (hl : l.length ≤ 1000) (who : List Int) (hwl : who.length ≤ 1000000) (σ : Store) : callIt E1 (evI E1) 24 [.d (.slice (l.map Nd.D)), .agg [.d (.slice (who.map intD))]] σ = some (.tup [.d (.slice ((slotL l who).1.map Nd.D)), (slotL l who).2.P], σ) := by
  by_cases hs : sndL l = []
  · exact b_slot0 l hg hl who hs σ
  · exact b_slot1 l hg hb hl who hwl hs σ
theorem r_sameTold (t : Td) (σ : Store) : callIt E1 (evI E1) 26 [t.P, t.P] σ = some (.d (.bool true), σ) := by
  refine call_run (fn := Tryz.f26) 5 rfl rfl rfl Tryz.func26 rfl rfl ?_ rfl
  have h := fun σ => r_same t.f t.f σ
  obtain ⟨w, f, bad, z⟩ := t
  simp only [Fr.same_refl] at h
  try simp at h
  simp [Tryz.f26, h]
  done

theorem l_sameNs (m : Nat) (l : List Nd) (hg : ∀ n ∈ l, n.good) (hl : l.length ≤ 1000000) (S : List PV) (hS : S.length = 27) (h0 : rd S 0 = .d (.slice (l.map Nd.D))) (h1 : rd S 1 = .d (.slice (l.map Nd.D))) (h5 : rd S 5 = .d (.int .i64 0)) (k : Nat) (hk : l.length < k) :
    Lp (loopN (evCode E1 (evI E1) m (theLoop Tryz.f22 0)) k ⟨S, []⟩) fun r => ∃ S' : List PV, r = (.exit 0, ⟨S', []⟩) ∧ S'.length = 27 := by
  refine loop_inv (fun i st => ∃ S : List PV, st = ⟨S, []⟩ ∧ S.length = 27 ∧ rd S 0 = .d (.slice (l.map Nd.D)) ∧ rd S 1 = .d (.slice (l.map Nd.D)) ∧ rd S 5 = .d (.int .i64 i)) _ l.length ?_ ?_ k 0 _ (by omega) (by omega) ⟨S, rfl, hS, h0, h1, h5⟩
  · rintro i st hi ⟨S, rfl, hS, h0, h1, h5⟩
    have hgi := hg l[i] (List.getElem_mem hi)
    generalize hx : l[i] = n at hgi
    have hn := fun σ => r_sameNd n (Nat.le_trans hgi.fs (by omega)) (Nat.le_trans hgi.q (by omega)) (Nat.le_trans hgi.g (by omega)) σ
    have hlt : (i : Int) < (l.length : Int) := by omega
    try simp at hn
    simp [theLoop, Tryz.f22, loopsAll, Lp_some, and_assoc, -rd, rd_set, hS, h0, h1, h5, hlt, hi, hx, hn, wrap_succ i (by omega)]
    done
  · rintro st ⟨S, rfl, hS, h0, h1, h5⟩
    simp [theLoop, Tryz.f22, loopsAll, Lp_some, and_assoc, -rd, rd_set, hS, h0, h1, h5]
theorem r_sameNs (l : List Nd) (hg : ∀ n ∈ l, n.good) (hl : l.length ≤ 1000000) (σ : Store) : callIt E1 (evI E1) 22 [.d (.slice (l.map Nd.D)), .d (.slice (l.map Nd.D))] σ = some (.d (.bool true), σ) := by
  refine call_run (fn := Tryz.f22) (l.length + 1) rfl rfl rfl Tryz.func22 rfl rfl ?_ rfl
  simp [Tryz.f22, ec_loop]
  generalize hLL : loopN _ _ _ = L
  obtain ⟨r, rfl, S, rfl, hS⟩ := at_loop hLL (l_sameNs (l.length + 1) l hg hl _ rfl rfl rfl rfl (l.length + 1) (by omega))
  simp [-rd, rd_set, hS]

theorem l_sameTs (m : Nat) (l : List Td) (hl : l.length ≤ 1000000) (S : List PV) (hS : S.length = 27) (h0 : rd S 0 = .d (.slice (l.map Td.D))) (h1 : rd S 1 = .d (.slice (l.map Td.D))) (h5 : rd S 5 = .d (.int .i64 0)) (k : Nat) (hk : l.length < k) :
    Lp (loopN (evCode E1 (evI E1) m (theLoop Tryz.f23 0)) k ⟨S, []⟩) fun r => ∃ S' : List PV, r = (.exit 0, ⟨S', []⟩) ∧ S'.length = 27 := by
  refine loop_inv (fun i st => ∃ S : List PV, st = ⟨S, []⟩ ∧ S.length = 27 ∧ rd S 0 = .d (.slice (l.map Td.D)) ∧ rd S 1 = .d (.slice (l.map Td.D)) ∧ rd S 5 = .d (.int .i64 i)) _ l.length ?_ ?_ k 0 _ (by omega) (by omega) ⟨S, rfl, hS, h0, h1, h5⟩
  · rintro i st hi ⟨S, rfl, hS, h0, h1, h5⟩
    generalize hx : l[i] = t
    have hn := fun σ => r_sameTold t σ
    have hlt : (i : Int) < (l.length : Int) := by omega
    try simp at hn
    simp [theLoop, Tryz.f23, loopsAll, Lp_some, and_assoc, -rd, rd_set, hS, h0, h1, h5, hlt, hi, hx, hn, wrap_succ i (by omega)]
    done
  · rintro st ⟨S, rfl, hS, h0, h1, h5⟩
    simp [theLoop, Tryz.f23, loopsAll, Lp_some, and_assoc, -rd, rd_set, hS, h0, h1, h5]
theorem r_sameTs (l : List Td) (hl : l.length ≤ 1000000) (σ : Store) : callIt E1 (evI E1) 23 [.d (.slice (l.map Td.D)), .d (.slice (l.map Td.D))] σ = some (.d (.bool true), σ) := by
  refine call_run (fn := Tryz.f23) (l.length + 1) rfl rfl rfl Tryz.func23 rfl rfl ?_ rfl
  simp [Tryz.f23, ec_loop]
  generalize hLL : loopN _ _ _ = L
  obtain ⟨r, rfl, S, rfl, hS⟩ := at_loop hLL (l_sameTs (l.length + 1) l hl _ rfl rfl rfl rfl (l.length + 1) (by omega))
  simp [-rd, rd_set, hS]
end Go.Proofs

set_option linter.unusedVariables false
set_option linter.unusedSimpArgs false
set_option maxRecDepth 100000
set_option maxHeartbeats 8000000
namespace Go.Proofs
open Go.RowKit Go.Shelf Go.Pv

def rights (l : List Nd) : Prop := ∀ n ∈ l, n.right = true
theorem Nd.right_good {n : Nd} (h : n.right = true) : n.good := by
  rw [Nd.right_iff] at h
  exact ⟨by omega, by omega, by omega, h.1.2, Cn.right_ok h.2.2.2⟩
theorem rights.good {l : List Nd} (h : rights l) : ∀ n ∈ l, n.good := fun n hn => Nd.right_good (h n hn)

theorem Sent_q (n : Nd) (ok : Bool) : ∀ f ∈ (n.Sent ok).q, f ∈ n.q := by
  intro f hf
  unfold Nd.Sent at hf
  split at hf
  · exact hf
  · cases ok
    · simpa using hf
    · simp only [if_true] at hf
      exact List.mem_of_mem_eraseIdx hf
theorem Heard_q (n : Nd) (f : Fr) (ok long : Bool) : (n.Heard f ok long).q = n.q := by unfold Nd.Heard; split <;> rfl
theorem Quiet_q (n : Nd) : n.Quiet.q = n.q := rfl

theorem nd_mem {l : List Nd} {i : Nat} (hi : i < l.length) : nd l i ∈ l := by
  have : nd l i = l[i] := by simp [nd, List.getD, hi]
  rw [this]; exact List.getElem_mem hi

theorem slotL_len (l : List Nd) (who : List Int) : (slotL l who).1.length = l.length := by
  unfold slotL
  split
  · simp
  · dsimp only
    split <;> simp

theorem line_right {l : List Nd} (h : rights l) (who : List Int) (hs : sndL l ≠ []) : (lineOf l who).f.right = true := sndL_right h.good _ (winP_line who hs).2

theorem slotL_right {l : List Nd} (h : rights l) (who : List Int) : rights (slotL l who).1 := by
  unfold slotL
  by_cases hs : sndL l = []
  · rw [if_pos hs]
    intro n hn
    obtain ⟨i, hi, rfl⟩ := List.mem_map.1 hn
    exact Nd.Quiet_right (h _ (nd_mem (by simpa using hi)))
  · rw [if_neg hs]
    have hf := line_right h who hs
    have hx : (lineOf l who).l = l := rfl
    generalize lineOf l who = x at hf hx
    subst hx
    dsimp only
    split
    · intro n hn
      obtain ⟨i, hi, rfl⟩ := List.mem_map.1 hn
      have hr := h _ (nd_mem (by simpa using hi))
      unfold Ln.two
      split
      · exact Nd.Sent_right hr true
      · exact Nd.Heard_right hr _ hf _ _
    · intro n hn
      obtain ⟨i, hi, rfl⟩ := List.mem_map.1 hn
      have hr := h _ (nd_mem (by simpa using hi))
      unfold Ln.three
      split
      · split
        · exact hr
        · exact Nd.Sent_right hr false
      · exact Nd.Heard_right hr _ hf _ _

theorem slotL_bytes {l : List Nd} (h : bytesOk l) (who : List Int) : bytesOk (slotL l who).1 := by
  unfold slotL
  by_cases hs : sndL l = []
  · rw [if_pos hs]
    intro n hn
    obtain ⟨i, hi, rfl⟩ := List.mem_map.1 hn
    exact h (nd l i) (nd_mem (by simpa using hi))
  · rw [if_neg hs]
    have hx : (lineOf l who).l = l := rfl
    generalize lineOf l who = x at hx
    subst hx
    dsimp only
    split
    · intro n hn
      obtain ⟨i, hi, rfl⟩ := List.mem_map.1 hn
      have hr := h _ (nd_mem (by simpa using hi))
      unfold Ln.two
      split
      · exact fun f hf => hr f (Sent_q _ _ f hf)
      · rw [Heard_q]; exact hr
    · intro n hn
      obtain ⟨i, hi, rfl⟩ := List.mem_map.1 hn
      have hr := h _ (nd_mem (by simpa using hi))
      unfold Ln.three
      split
      · split
        · exact hr
        · exact fun f hf => hr f (Sent_q _ _ f hf)
      · rw [Heard_q]; exact hr

/-- Many slots. -/
def slotsS (x : List Nd × List Td) (who : List Int) : List Nd × List Td := ((slotL x.1 who).1, x.2 ++ [(slotL x.1 who).2])
def slotsL (l : List Nd) (hs : List (List Int)) : List Nd × List Td := hs.foldl slotsS (l, [])
theorem slotsL_succ (l : List Nd) (hs : List (List Int)) {i : Nat} (hi : i < hs.length) : slotsL l (hs.take (i + 1)) = slotsS (slotsL l (hs.take i)) hs[i] := by
  rw [slotsL, List.take_add_one, List.getElem?_eq_getElem hi, List.foldl_append]; rfl
theorem slotsL_inv {l : List Nd} (h : rights l) (hb : bytesOk l) : ∀ (n : Nat) (hs : List (List Int)), hs.length = n → rights (slotsL l hs).1 ∧ bytesOk (slotsL l hs).1 ∧ (slotsL l hs).1.length = l.length ∧ (slotsL l hs).2.length = hs.length := by
  intro n
  induction n with
  | zero => intro hs hn; rw [List.eq_nil_of_length_eq_zero hn]; exact ⟨h, hb, rfl, rfl⟩
  | succ n ih =>
    intro hs hn
    have e := slotsL_succ l hs (i := n) (by omega)
    rw [List.take_of_length_le (by omega)] at e
    obtain ⟨a1, a2, a3, a4⟩ := ih (hs.take n) (by simp; omega)
    rw [e]
    unfold slotsS
    refine ⟨slotL_right a1 _, slotL_bytes a2 _, by simp only [slotL_len, a3], ?_⟩
    simp only [List.length_append, a4, List.length_singleton, List.length_take]
    omega
end Go.Proofs

set_option linter.unusedVariables false
set_option linter.unusedSimpArgs false
set_option maxRecDepth 100000
set_option maxHeartbeats 8000000
namespace Go.Proofs
open Go.RowKit Go.Shelf Go.Pv

def hitD (who : List Int) : List DV := [.slice (who.map intD)]
theorem Ty.appTold : appT Tryz.prog 27 = some (8, 80) := by kernel_rfl
theorem appTs (rows xs : List (List DV)) (h : rowsOk 8 rows = true) (h' : rowsOk 8 xs = true) (hb : (rows.length + xs.length) * 80 ≤ roomB) : evAppend Tryz.prog 27 (acc rows) (.d (.slice xs)) = some (acc (rows ++ xs)) := by
  unfold evAppend
  rw [Ty.appTold]
  simp only [Option.bind_some, acc_own, elemsOf, h, h', Bool.true_and, hb, decide_true, if_true]
theorem appTd (A : List Td) (t : Td) (h : A.length ≤ 100000) : evAppend Tryz.prog 27 (acc (A.map Td.D)) (.d (.slice [t.D])) = some (acc ((A ++ [t]).map Td.D)) := by
  rw [appTs (A.map Td.D) [t.D] (rowsOk_map (D := Td.D) (fun _ => rfl) A) rfl (by simp [roomB]; omega), List.map_append]
  rfl

theorem l_slots (m : Nat) (l : List Nd) (hr : rights l) (hb : bytesOk l) (hl : l.length ≤ 1000) (hs : List (List Int)) (hhl : hs.length ≤ 100000) (hw : ∀ w ∈ hs, w.length ≤ 1000000) (S : List PV) (hS : S.length = 34) (h6 : rd S 6 = acc (l.map Nd.D)) (h7 : rd S 7 = .e0) (h14 : rd S 14 = .d (.slice (hs.map hitD))) (h15 : rd S 15 = .d (.int .i64 hs.length)) (h16 : rd S 16 = .d (.int .i64 0)) (k : Nat) (hk : hs.length < k) :
    Lp (loopN (evCode E1 (evI E1) m (theLoop Tryz.f20 0)) k ⟨S, []⟩) fun r => ∃ (S' : List PV) (J : Store), r = (.exit 0, ⟨S', J⟩) ∧ S'.length = 34 ∧ (rd S' 6 = acc ((slotsL l hs).1.map Nd.D) ∨ rd S' 6 = .d (.slice ((slotsL l hs).1.map Nd.D))) ∧ rd S' 7 = acc ((slotsL l hs).2.map Td.D) := by
  refine loop_inv (fun i st => ∃ (J : Store) (S : List PV), st = ⟨S, J⟩ ∧ S.length = 34 ∧ (rd S 6 = acc ((slotsL l (hs.take i)).1.map Nd.D) ∨ rd S 6 = .d (.slice ((slotsL l (hs.take i)).1.map Nd.D))) ∧ rd S 7 = acc ((slotsL l (hs.take i)).2.map Td.D) ∧ rd S 14 = .d (.slice (hs.map hitD)) ∧ rd S 15 = .d (.int .i64 hs.length) ∧ rd S 16 = .d (.int .i64 i)) _ hs.length ?_ ?_ k 0 _ (by omega) (by omega) ⟨[], S, rfl, hS, .inl h6, h7, h14, h15, h16⟩
  · rintro i st hi ⟨J, S, rfl, hS, h6, h7, h14, h15, h16⟩
    obtain ⟨i1, i2, i3, i4⟩ := slotsL_inv hr hb _ (hs.take i) rfl
    have htk := slotsL_succ l hs hi
    have hwi := hw hs[i] (List.getElem_mem hi)
    have hx' : (hs.map hitD)[i]? = some (hitD hs[i]) := by simp [hi]
    have hml : (hs.map hitD).length = hs.length := by simp
    have hi' : i < (hs.map hitD).length := by simpa using hi
    generalize hs[i] = w at htk hwi hx'
    have hcall := fun σ => b_Slot (slotsL l (hs.take i)).1 i1.good i2 (by rw [i3]; exact hl) w hwi σ
    have hap := appTd (slotsL l (hs.take i)).2 (slotL (slotsL l (hs.take i)).1 w).2 (by rw [i4]; simp; omega)
    unfold slotsS at htk
    generalize slotsL l (hs.take (i + 1)) = X1 at htk ⊢
    subst htk
    generalize slotsL l (hs.take i) = X0 at hcall hap h6 h7
    obtain ⟨L0, T0⟩ := X0
    simp only at hcall hap h6 h7
    generalize slotL L0 w = R at hcall hap ⊢
    obtain ⟨L1, t⟩ := R
    simp only at hcall hap ⊢
    generalize T0 ++ [t] = T1 at hap ⊢
    have hlt : (i : Int) < (hs.length : Int) := by omega
    generalize hs.map hitD = H at hx' hml hi' h14 ⊢
    obtain ⟨_, hx'⟩ := List.getElem?_eq_some_iff.1 hx'
    simp only [hitD] at hx'
    simp only [Td.D] at hap
    try simp at hcall
    rcases h6 with h6 | h6
    all_goals
      simp [theLoop, Tryz.f20, loopsAll, Lp_some, and_assoc, -rd, rd_set, -loadS, -storeS, loadS_cons0, loadS_consS, storeS_cons0, storeS_consS, sfx_load0, sfx_load, sfx_store0, sfx_store, hS, h6, h7, h14, h15, h16, hlt, hi, hi', hml, hx', hcall, hap, rowsFrom, wrap_succ i (by omega)]
      done
  · rintro st ⟨J, S, rfl, hS, h6, h7, h14, h15, h16⟩
    rw [List.take_length] at h6 h7
    generalize slotsL l hs = X at h6 h7 ⊢
    simp [theLoop, Tryz.f20, loopsAll, Lp_some, and_assoc, -rd, rd_set, hS, h7, h14, h15, h16]
    simpa using h6

theorem b_Slots (l : List Nd) (hr : rights l) (hb : bytesOk l) (hl : l.length ≤ 1000) (hs : List (List Int)) (hhl : hs.length ≤ 100000) (hw : ∀ w ∈ hs, w.length ≤ 1000000) (σ : Store) : callIt E1 (evI E1) 20 [.d (.slice (l.map Nd.D)), .d (.slice (hs.map hitD))] σ = some (.tup [.d (.slice ((slotsL l hs).1.map Nd.D)), .d (.slice ((slotsL l hs).2.map Td.D))], σ) := by
  refine call_run (fn := Tryz.f20) (hs.length + 1) rfl rfl rfl Tryz.func20 rfl rfl ?_ rfl
  have hap := appN [] (l.map Nd.D) rfl (rowsOk_Nd l) (by simp [roomB]; omega)
  rw [List.nil_append] at hap
  have hloop := l_slots (hs.length + 1) l hr hb hl hs hhl hw
  generalize slotsL l hs = X at hloop ⊢
  have hml : (hs.map hitD).length = hs.length := by simp
  generalize hs.map hitD = H at hloop hml ⊢
  simp [acc_nil] at hap
  simp [Tryz.f20, ec_loop, hap, hml]
  generalize hLL : loopN _ _ _ = L
  obtain ⟨r, rfl, S, J, rfl, hS, h6, h7⟩ := at_loop hLL (hloop _ rfl rfl rfl rfl rfl rfl (hs.length + 1) (by omega))
  rcases h6 with h6 | h6 <;> simp [-rd, rd_set, hS, h6, h7]
end Go.Proofs

