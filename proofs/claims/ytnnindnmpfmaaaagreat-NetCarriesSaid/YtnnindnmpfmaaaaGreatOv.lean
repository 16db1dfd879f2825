/- What a slot leaves to each node: what it got, what waits, its filters; what it told. -/
import Derived.Test.YtnnindnmpfmaaaaGreatOf2
set_option linter.unusedVariables false
set_option linter.unusedSimpArgs false
set_option maxRecDepth 100000
set_option maxHeartbeats 8000000
namespace Go.Proofs
open Go.RowKit Go.Shelf Go.Pv

def fr5 : Fr := ⟨false, 5, false, 0, []⟩
theorem nd_get {l : List Nd} {i : Nat} (hi : i < l.length) : nd l i = l[i] := by simp [nd, List.getD, hi]
theorem nd_map {M : Nat → Nd} {n i : Nat} (hi : i < n) : nd ((List.range n).map M) i = M i := by simp [nd, List.getD, hi]

theorem Sent_g (n : Nd) (ok : Bool) : (n.Sent ok).g = n.g := by unfold Nd.Sent; split; rfl; split <;> rfl
theorem Sent_fs (n : Nd) (ok : Bool) : (n.Sent ok).fs = n.fs := by unfold Nd.Sent; split; rfl; split <;> rfl
theorem Heard_fs (n : Nd) (f : Fr) (ok long : Bool) : (n.Heard f ok long).fs = n.fs := by unfold Nd.Heard; split <;> rfl
theorem Sent_false_q (n : Nd) : (n.Sent false).q = n.q := by
  unfold Nd.Sent
  split
  · rfl
  · simp
theorem Heard_g (n : Nd) (f : Fr) (ok long : Bool) (hg : n.g.length < 64) : (n.Heard f ok long).g = n.g ++ if !n.off && (ok && anyF n.fs f) then [f] else [] := by
  unfold Nd.Heard
  have h : decide ((n.g.length : Int) < 64) = true := by simp; omega
  rw [h]
  cases n.off <;> cases ok <;> cases anyF n.fs f <;> simp

/-- What a slot told when no one sends. -/
theorem slotL_none {l : List Nd} (who : List Int) (hs : sndL l = []) : slotL l who = ((List.range l.length).map fun i => (nd l i).Quiet, ⟨-1, fr0, false, 11⟩) := by
  unfold slotL
  rw [if_pos hs]
theorem slotL_good {l : List Nd} (who : List Int) (hs : sndL l ≠ []) (h : (!(lineOf l who).anyLoud && (lineOf l who).anyHears) = true) : slotL l who = ((List.range l.length).map (lineOf l who).two, ⟨(lineOf l who).w, (lineOf l who).f, true, ((lineOf l who).f.wire.length : Int) + 3⟩) := by
  unfold slotL
  rw [if_neg hs]
  simp only [h, if_true]
theorem slotL_bad {l : List Nd} (who : List Int) (hs : sndL l ≠ []) (h : (!(lineOf l who).anyLoud && (lineOf l who).anyHears) = false) : slotL l who = ((List.range l.length).map ((lineOf l who).three (lineOf l who).anyLoud), ⟨(lineOf l who).w, (lineOf l who).f, false, ((lineOf l who).f.wire.length : Int) + 23⟩) := by
  unfold slotL
  rw [if_neg hs]
  simp only [h, Bool.false_eq_true, if_false]

theorem slotL_got {l : List Nd} (who : List Int) {i : Nat} (hi : i < l.length) (hg : (nd l i).g.length < 64) : (nd (slotL l who).1 i).g = (nd l i).g ++ if (slotL l who).2.bad && (!(lineOf l who).sends i && ((nd l i).c.s != 3) && !who.contains (i : Int) && anyF (nd l i).fs (slotL l who).2.f) then [(slotL l who).2.f] else [] := by
  by_cases hs : sndL l = []
  · rw [slotL_none who hs]
    simp only [nd_map hi]
    simp [Nd.Quiet]
  · have hx : (lineOf l who).l = l := rfl
    have hw : (lineOf l who).who = who := rfl
    cases hc : (!(lineOf l who).anyLoud && (lineOf l who).anyHears)
    · rw [slotL_bad who hs hc]
      generalize lineOf l who = x at hx hw
      simp only [nd_map hi, Bool.false_and, Bool.false_eq_true, if_false, List.append_nil]
      unfold Ln.three
      rw [hx]
      split
      · split
        · rfl
        · exact Sent_g _ _
      · rw [Heard_g _ _ _ _ hg]
        simp
    · rw [slotL_good who hs hc]
      generalize lineOf l who = x at hx hw
      simp only [nd_map hi, Bool.true_and]
      unfold Ln.two
      rw [hx]
      cases hsd : x.sends i
      · simp only [Bool.false_eq_true, if_false, Bool.not_false, Bool.true_and]
        rw [Heard_g _ _ _ _ hg]
        unfold Nd.off Ln.sees
        rw [hw]
        have : ((nd l i).c.s != 3) = !((nd l i).c.s == 3) := rfl
        rw [this]
        cases ((nd l i).c.s == 3) <;> cases who.contains (i : Int) <;> simp
      · simp only [if_true, Bool.not_true, Bool.false_and, Bool.false_eq_true, if_false, List.append_nil]
        exact Sent_g _ _

theorem slotL_fs {l : List Nd} (who : List Int) {i : Nat} (hi : i < l.length) : (nd (slotL l who).1 i).fs = (nd l i).fs := by
  by_cases hs : sndL l = []
  · rw [slotL_none who hs]
    simp only [nd_map hi]
    simp [Nd.Quiet]
  · have hx : (lineOf l who).l = l := rfl
    cases hc : (!(lineOf l who).anyLoud && (lineOf l who).anyHears)
    · rw [slotL_bad who hs hc]
      generalize lineOf l who = x at hx
      simp only [nd_map hi]
      unfold Ln.three
      rw [hx]
      split
      · split
        · rfl
        · exact Sent_fs _ _
      · exact Heard_fs _ _ _ _
    · rw [slotL_good who hs hc]
      generalize lineOf l who = x at hx
      simp only [nd_map hi]
      unfold Ln.two
      rw [hx]
      split
      · exact Sent_fs _ _
      · exact Heard_fs _ _ _ _

theorem slotL_q {l : List Nd} (who : List Int) {i : Nat} (hi : i < l.length) : (nd (slotL l who).1 i).q = if (slotL l who).2.bad && (lineOf l who).sends i then ((nd l i).Sent true).q else (nd l i).q := by
  by_cases hs : sndL l = []
  · rw [slotL_none who hs]
    simp only [nd_map hi]
    simp [Nd.Quiet]
  · have hx : (lineOf l who).l = l := rfl
    cases hc : (!(lineOf l who).anyLoud && (lineOf l who).anyHears)
    · rw [slotL_bad who hs hc]
      generalize lineOf l who = x at hx
      simp only [nd_map hi, Bool.false_and, Bool.false_eq_true, if_false]
      unfold Ln.three
      rw [hx]
      split
      · split
        · rfl
        · exact Sent_false_q _
      · exact Heard_q _ _ _ _
    · rw [slotL_good who hs hc]
      generalize lineOf l who = x at hx
      simp only [nd_map hi, Bool.true_and]
      unfold Ln.two
      rw [hx]
      split
      · rfl
      · exact Heard_q _ _ _ _

/-- Who wins is who is told; one that sends along has the frame that is told. -/
theorem slotL_w (l : List Nd) (who : List Int) : (slotL l who).2.w = atP (winP (sndL l)) := by
  by_cases hs : sndL l = []
  · rw [slotL_none who hs, hs]; rfl
  · have hw := (winP_line who hs).1
    rw [hw]
    cases hc : (!(lineOf l who).anyLoud && (lineOf l who).anyHears)
    · rw [slotL_bad who hs hc]; rfl
    · rw [slotL_good who hs hc]; rfl
theorem slotL_f {l : List Nd} (who : List Int) (hs : sndL l ≠ []) : (slotL l who).2.f = (lineOf l who).f := by
  cases hc : (!(lineOf l who).anyLoud && (lineOf l who).anyHears)
  · rw [slotL_bad who hs hc]
  · rw [slotL_good who hs hc]
theorem slotL_ok {l : List Nd} {who : List Int} (h : (slotL l who).2.bad = true) : sndL l ≠ [] ∧ (!(lineOf l who).anyLoud && (lineOf l who).anyHears) = true := by
  by_cases hs : sndL l = []
  · rw [slotL_none who hs] at h; cases h
  · refine ⟨hs, ?_⟩
    cases hc : (!(lineOf l who).anyLoud && (lineOf l who).anyHears)
    · rw [slotL_bad who hs hc] at h; cases h
    · rfl
theorem slotL_same {l : List Nd} {who : List Int} (h : (slotL l who).2.bad = true) {i : Nat} (hi : i < l.length) (ha : (lineOf l who).sends i = true) : (nd l i).Next.1.same (slotL l who).2.f = true := by
  obtain ⟨hs, hc⟩ := slotL_ok h
  rw [slotL_f who hs]
  simp only [Bool.and_eq_true, Bool.not_eq_true'] at hc
  have hx : (lineOf l who).l = l := rfl
  have h1 : (lineOf l who).loud i = false := by
    have := hc.1
    unfold Ln.anyLoud at this
    rw [List.any_eq_false] at this
    have h2 := this i (by simpa [hx] using hi)
    simpa using h2
  unfold Ln.loud at h1
  rw [ha, hx] at h1
  simp only [if_true, Bool.or_eq_false_iff, Bool.not_eq_false'] at h1
  exact h1.2
theorem slotL_won {l : List Nd} {who : List Int} (hs : sndL l ≠ []) : ∃ k : Nat, k < l.length ∧ (slotL l who).2.w = (k : Int) ∧ (nd l k).Next.2 = true ∧ (slotL l who).2.f = (nd l k).Next.1 := by
  have hw := slotL_w l who
  obtain ⟨h1, h2⟩ := winP_line who hs
  rw [h1] at hw
  obtain ⟨k, n, hn, h3, h4⟩ := sndL_mem h2
  obtain ⟨h5, h6⟩ := Prod.mk.inj h4
  obtain ⟨hk, rfl⟩ := List.getElem?_eq_some_iff.1 hn
  refine ⟨k, hk, ?_, ?_, ?_⟩
  · rw [hw]; exact h5
  · rw [nd_get hk]; exact h3
  · rw [nd_get hk, slotL_f who hs, h6]
theorem slotL_z (l : List Nd) (who : List Int) : (slotL l who).2.z = if sndL l = [] then 11 else ((slotL l who).2.f.wire.length : Int) + if (slotL l who).2.bad then 3 else 23 := by
  by_cases hs : sndL l = []
  · rw [slotL_none who hs, if_pos hs]
  · rw [if_neg hs]
    cases hc : (!(lineOf l who).anyLoud && (lineOf l who).anyHears)
    · rw [slotL_bad who hs hc]; rfl
    · rw [slotL_good who hs hc]; rfl

/-- A node that is not Active and sends not along: whether it sees the slot spoilt is the same for the others. -/
theorem slotL_quiet {l : List Nd} (who : List Int) {k : Nat} (hk : k < l.length) (h1 : (nd l k).c.s ≠ 1) (h2 : (lineOf l who).sends k = false) : (slotL l (who ++ [(k : Int)])).2 = (slotL l who).2 ∧ ∀ i, i < l.length → i ≠ k → nd (slotL l (who ++ [(k : Int)])).1 i = nd (slotL l who).1 i := by
  by_cases hs : sndL l = []
  · rw [slotL_none _ hs, slotL_none _ hs]
    exact ⟨rfl, fun _ _ _ => rfl⟩
  · have e1 : ∀ i, (lineOf l (who ++ [(k : Int)])).sends i = (lineOf l who).sends i := fun i => rfl
    have e2 : ∀ i, i ≠ k → (lineOf l (who ++ [(k : Int)])).sees i = (lineOf l who).sees i := by
      intro i hi
      show (who ++ [(k : Int)]).contains (i : Int) = who.contains (i : Int)
      rw [Bool.eq_iff_iff]
      simp only [List.contains_iff_mem, List.mem_append, List.mem_singleton]
      constructor
      · rintro (h | h)
        · exact h
        · omega
      · exact Or.inl
    have e3 : ∀ i, (lineOf l (who ++ [(k : Int)])).loud i = (lineOf l who).loud i := by
      intro i
      by_cases hi : i = k
      · subst hi
        unfold Ln.loud
        rw [e1, h2]
        show (_ && ((nd l i).c.s == 1)) = (_ && ((nd l i).c.s == 1))
        rw [show ((nd l i).c.s == 1) = false by simpa using h1]
        simp
      · unfold Ln.loud
        rw [e1, e2 i hi]
        rfl
    have e4 : ∀ i, (lineOf l (who ++ [(k : Int)])).hears i = (lineOf l who).hears i := fun i => rfl
    have e5 : (lineOf l (who ++ [(k : Int)])).anyLoud = (lineOf l who).anyLoud := by
      unfold Ln.anyLoud
      rw [show (lineOf l (who ++ [(k : Int)])).loud = (lineOf l who).loud from funext e3]
      rfl
    have e6 : (lineOf l (who ++ [(k : Int)])).anyHears = (lineOf l who).anyHears := rfl
    cases hc : (!(lineOf l who).anyLoud && (lineOf l who).anyHears)
    · have hc' : (!(lineOf l (who ++ [(k : Int)])).anyLoud && (lineOf l (who ++ [(k : Int)])).anyHears) = false := by rw [e5, e6, hc]
      rw [slotL_bad _ hs hc, slotL_bad _ hs hc']
      refine ⟨rfl, fun i hi hne => ?_⟩
      simp only [nd_map hi]
      unfold Ln.three
      rw [e1, e3, e5]
      rfl
    · have hc' : (!(lineOf l (who ++ [(k : Int)])).anyLoud && (lineOf l (who ++ [(k : Int)])).anyHears) = true := by rw [e5, e6, hc]
      rw [slotL_good _ hs hc, slotL_good _ hs hc']
      refine ⟨rfl, fun i hi hne => ?_⟩
      simp only [nd_map hi]
      unfold Ln.two
      rw [e1, e2 i hne]
      rfl

end Go.Proofs

