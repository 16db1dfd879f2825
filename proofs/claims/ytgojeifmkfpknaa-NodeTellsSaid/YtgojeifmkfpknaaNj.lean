/- NodeRight: what comes of a right node is right: its call answers true. -/
import Derived.Test.YtgojeifmkfpknaaNi
set_option linter.unusedVariables false
set_option linter.unusedSimpArgs false
set_option maxRecDepth 100000
set_option maxHeartbeats 4000000
namespace Go.Proofs
open Go.RowKit Go.Shelf Go.Pv

theorem Cn.right_iff (c : Cn) : c.right = true ↔ if c.s = 3 then c.t = 256 ∧ c.r = 0 ∧ 0 ≤ c.z ∧ c.z ≤ 127 else (0 ≤ c.t ∧ c.t ≤ 255) ∧ (0 ≤ c.r ∧ c.r ≤ 255) ∧ c.z = 0 ∧ c.s = stOf c.t c.r := by
  unfold Cn.right
  split
  · simp; omega
  · simp; omega

theorem Cn.right_ok {c : Cn} (h : c.right = true) : c.ok := by
  rw [c.right_iff] at h
  unfold Cn.ok
  split at h <;> omega

theorem Cn.step_right {c : Cn} (h : c.right = true) (what : Int) : (c.step what).right = true := by
  rw [Cn.right_iff] at h ⊢
  obtain ⟨t, r, s, z⟩ := c
  unfold Cn.step
  simp only at h ⊢
  by_cases hs : s = 3
  · subst hs
    simp only [if_true] at h
    simp only [stT, stR, stS, stQ, if_true]
    by_cases h6 : what = 6
    · by_cases hz : z + 1 = 128
      · simp [h6, hz, stOf]
      · simp [h6, hz]; omega
    · simp [h6]; omega
  · simp only [hs, if_false] at h
    simp only [stT, stR, stS, stQ, hs, if_false]
    by_cases hT : wkT what t > 255
    · simp [hT]
    · simp only [hT, if_false]
      have hT0 : 0 ≤ wkT what t := by unfold wkT; split; omega; split <;> omega
      have hR : 0 ≤ wkR what r ∧ wkR what r ≤ 255 := by unfold wkR; split; omega; split; omega; split <;> omega
      have hne : ¬ (if max (wkT what t) (wkR what r) > 127 then (2 : Int) else 1) = 3 := by split <;> decide
      simp only [hne, if_false]
      refine ⟨by omega, hR, h.2.2.1, rfl⟩

theorem Nd.right_iff (n : Nd) : n.right = true ↔ (n.q.length ≤ 16 ∧ ∀ f ∈ n.q, f.right = true) ∧ (n.g.length ≤ 64 ∧ ∀ f ∈ n.g, f.right = true) ∧ (n.fs.length ≤ 8 ∧ ∀ f ∈ n.fs, f.right = true) ∧ n.c.right = true := by
  unfold Nd.right frsRight flsRight
  simp only [Bool.and_eq_true, decide_eq_true_eq, List.all_eq_true]
  constructor
  · rintro ⟨⟨⟨⟨a1, a2⟩, b1, b2⟩, c1, c2⟩, d⟩
    exact ⟨⟨by omega, a2⟩, ⟨by omega, b2⟩, ⟨by omega, c2⟩, d⟩
  · rintro ⟨⟨a1, a2⟩, ⟨b1, b2⟩, ⟨c1, c2⟩, d⟩
    exact ⟨⟨⟨⟨by omega, a2⟩, by omega, b2⟩, by omega, c2⟩, d⟩

theorem Nd.Send_right {n : Nd} (h : n.right = true) (f : Fr) : (n.Send f).1.right = true := by
  unfold Nd.Send
  split
  · exact h
  split
  · exact h
  split
  · exact h
  · rename_i hf _ hl
    rw [Nd.right_iff] at h ⊢
    refine ⟨⟨by simp; omega, fun x hx => ?_⟩, h.2⟩
    rcases List.mem_append.1 hx with hx | hx
    · exact h.1.2 x hx
    · simp at hx; subst hx; simpa using hf

theorem Nd.Take_right {n : Nd} (h : n.right = true) : n.Take.1.right = true := by
  obtain ⟨q, fs, c, g⟩ := n
  unfold Nd.Take
  cases g with
  | nil => exact h
  | cons f g =>
    rw [Nd.right_iff] at h ⊢
    refine ⟨h.1, ⟨?_, fun x hx => h.2.1.2 x (List.mem_cons_of_mem _ hx)⟩, h.2.2⟩
    have := h.2.1.1
    simp at this ⊢
    omega

theorem Nd.Sent_right {n : Nd} (h : n.right = true) (ok : Bool) : (n.Sent ok).right = true := by
  unfold Nd.Sent
  split
  · exact h
  split
  · rw [Nd.right_iff] at h ⊢
    refine ⟨⟨?_, fun x hx => h.1.2 x (List.mem_of_mem_eraseIdx hx)⟩, h.2.1, h.2.2.1, Cn.step_right h.2.2.2 1⟩
    have := List.length_eraseIdx_le n.q (nxt n.q)
    exact Nat.le_trans this h.1.1
  · rw [Nd.right_iff] at h ⊢
    exact ⟨h.1, h.2.1, h.2.2.1, Cn.step_right h.2.2.2 3⟩

theorem Nd.Quiet_right {n : Nd} (h : n.right = true) : n.Quiet.right = true := by
  unfold Nd.Quiet
  rw [Nd.right_iff] at h ⊢
  exact ⟨h.1, h.2.1, h.2.2.1, Cn.step_right h.2.2.2 6⟩

theorem Nd.Heard_right {n : Nd} (h : n.right = true) (f : Fr) (hf : f.right = true) (ok long : Bool) : (n.Heard f ok long).right = true := by
  unfold Nd.Heard
  split
  · exact h
  · rw [Nd.right_iff] at h ⊢
    refine ⟨h.1, ?_, h.2.2.1, Cn.step_right h.2.2.2 _⟩
    simp only
    split
    · rename_i hc
      simp only [Bool.and_eq_true, decide_eq_true_eq] at hc
      refine ⟨by simp; omega, fun x hx => ?_⟩
      rcases List.mem_append.1 hx with hx | hx
      · exact h.2.1.2 x hx
      · simp at hx; subst hx; exact hf
    · exact h.2.1

theorem Nd.right_len {n : Nd} (h : n.right = true) : n.q.length ≤ 1000000 ∧ n.fs.length ≤ 1000000 ∧ n.g.length ≤ 1000000 ∧ n.c.ok ∧ ∀ f ∈ n.q, f.right = true := by
  rw [Nd.right_iff] at h
  exact ⟨by omega, by omega, by omega, Cn.right_ok h.2.2.2, h.1.2⟩

theorem Nd.great_len {n : Nd} (h : n.great = false) : n.q.length ≤ 100 ∧ n.g.length ≤ 200 ∧ n.fs.length ≤ 100 := by
  unfold Nd.great at h
  simp only [Bool.or_eq_false_iff, decide_eq_false_iff_not] at h
  omega

theorem b_right' {n : Nd} (h : n.right = true) (σ : Store) : callIt E1 (evI E1) 25 [n.P] σ = some (.d (.bool true), σ) := by
  have := Nd.right_len h
  rw [b_right n this.1 this.2.1 this.2.2.1 σ, h]

theorem nodeRight_true (n : Nd) (f : Fr) (a b : Bool) : ∃ σ', evI E1 8 [n.P, f.P, .d (.bool a), .d (.bool b)] [] = some (.d (.bool true), σ') := by
  have h0 := b_head
  have e1 := b_great n
  have e2 := r_great f
  cases c1 : n.great
  · rw [c1] at e1
    cases c2 : f.great
    · rw [c2] at e2
      have hl := Nd.great_len c1
      have e3 := b_right n (by omega) (by omega) (by omega)
      cases c3 : n.right
      · rw [c3] at e3
        simp at e1 e2 e3
        refine evI_ex (fn := Try.f8) 5 rfl Try.func8 rfl ?_
        simp [Try.f8, cellsOf, loadS, storeS, h0, e1, e2, e3]
      · rw [c3] at e3
        obtain ⟨k1, k2, k3, k4, k5⟩ := Nd.right_len c3
        have e4 := b_Send n f k1
        have e5 := b_Take n k3
        have e6 := b_right' (Nd.Send_right c3 f)
        have e7 := b_right' (Nd.Take_right c3)
        have e8 := b_Sent n a k1 k5 k4
        have e9 := b_right' (Nd.Sent_right c3 a)
        have e10 := b_Quiet n k4
        have e11 := b_right' (Nd.Quiet_right c3)
        have e12 := r_right f
        generalize (n.Send f).1 = m1 at e4 e6
        generalize n.Take.1 = m2 at e5 e7
        generalize n.Sent a = m3 at e8 e9
        generalize n.Quiet = m4 at e10 e11
        cases c4 : f.right
        · rw [c4] at e12
          simp [cellsOf] at e1 e2 e3 e4 e5 e6 e7 e8 e9 e10 e11 e12
          refine evI_ex (fn := Try.f8) 5 rfl Try.func8 rfl ?_
          simp (maxSteps := 2000000) [Try.f8, cellsOf, loadS, storeS, h0, e1, e2, e3, e4, e5, e6, e7, e8, e9, e10, e11, e12]
        · rw [c4] at e12
          have e13 := b_Heard n f a b k3 k2 k4
          have e14 := b_right' (Nd.Heard_right c3 f c4 a b)
          generalize n.Heard f a b = m5 at e13 e14
          simp [cellsOf] at e1 e2 e3 e4 e5 e6 e7 e8 e9 e10 e11 e12 e13 e14
          refine evI_ex (fn := Try.f8) 5 rfl Try.func8 rfl ?_
          simp (maxSteps := 2000000) [Try.f8, cellsOf, loadS, storeS, h0, e1, e2, e3, e4, e5, e6, e7, e8, e9, e10, e11, e12, e13, e14]
    · rw [c2] at e2
      simp at e1 e2
      refine evI_ex (fn := Try.f8) 5 rfl Try.func8 rfl ?_
      simp [Try.f8, cellsOf, loadS, storeS, h0, e1, e2]
  · rw [c1] at e1
    simp at e1
    refine evI_ex (fn := Try.f8) 5 rfl Try.func8 rfl ?_
    simp [Try.f8, cellsOf, loadS, storeS, h0, e1]

def nodeRight_types : List TypeId := [28, 35, 4, 4]
theorem nodeRight_args (ps : List PV) (h : OkArgs Try.prog 8 nodeRight_types ps) : ∃ σ', evI E1 8 ps [] = some (.d (.bool true), σ') := by
  obtain ⟨d1, _, h1, rfl, d2, _, h2, rfl, d3, _, h3, rfl, d4, _, h4, rfl, rfl⟩ := h
  obtain ⟨n, hn, _⟩ := ok_Nd (d := 3) h1
  obtain ⟨f, rfl, _⟩ := ok_Fr (d := 5) h2
  obtain ⟨a, rfl⟩ := ok_bool (d := 7) h3
  obtain ⟨b, rfl⟩ := ok_bool (d := 7) h4
  rw [hn, arg_Fr, arg_bool, arg_bool]
  exact nodeRight_true n f a b
end Go.Proofs

