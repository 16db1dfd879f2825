/- The seat of nodes: the reference's node: what it makes is what the program makes. -/
import Derived.Test.YtnnindnmpfmaaaaNk
set_option linter.unusedVariables false
set_option linter.unusedSimpArgs false
set_option maxRecDepth 100000
set_option maxHeartbeats 4000000
namespace Go.Proofs
open Go.RowKit Go.Shelf Go.Pv

theorem flsRright_eq (l : List Fl) (hw : ∀ f ∈ l, f.wf) : l.all (·.rright) = l.all (·.right) := by
  rw [Bool.eq_iff_iff, List.all_eq_true, List.all_eq_true]
  exact ⟨fun h x hx => by rw [← x.rright_eq (hw x hx)]; exact h x hx, fun h x hx => by rw [x.rright_eq (hw x hx)]; exact h x hx⟩

theorem r_filters (l : List Fl) (hl : l.length ≤ 1000000) (hw : ∀ f ∈ l, f.wf) (σ : Store) : callIt E1 (evI E1) 40 [.d (.slice (l.map Fl.D))] σ = some (.d (.bool (flsRight l)), σ) := by
  have := r_filters0 l hl σ
  rw [flsRright_eq l hw] at this
  exact this

theorem Cn.rright_eq (c : Cn) : c.rright = c.right := by
  rw [Bool.eq_iff_iff, c.right_iff]
  unfold Cn.rright stOf
  obtain ⟨t, r, s, z⟩ := c
  simp only
  by_cases hs : s = 3
  · simp [hs]; omega
  · simp only [hs, if_false]
    by_cases h : (decide (t < 0) || decide (t > 255) || decide (r < 0) || decide (r > 255) || z != 0) = true
    · rw [if_pos h]
      simp at h
      constructor
      · intro h; cases h
      · rintro ⟨a, b, c, d⟩; omega
    · rw [if_neg h]
      simp at h
      by_cases h2 : (decide (t > 127) || decide (r > 127)) = true
      · rw [if_pos h2]
        simp at h2
        rw [if_pos (by omega)]
        simp; omega
      · rw [if_neg h2]
        simp at h2
        rw [if_neg (by omega)]
        simp; omega

theorem r_countRight' (c : Cn) (σ : Store) : callIt E1 (evI E1) 41 [c.P] σ = some (.d (.bool c.right), σ) := by
  rw [← c.rright_eq]; exact r_countRight c σ

theorem r_RightNd (n : Nd) (hq : n.q.length ≤ 1000000) (hf : n.fs.length ≤ 1000000) (hg : n.g.length ≤ 1000000) (hw : ∀ f ∈ n.fs, f.wf) (σ : Store) : callIt E1 (evI E1) 17 [n.P] σ = some (.d (.bool n.right), σ) := by
  refine call_run (fn := Try.f17) 5 rfl rfl rfl Try.func17 rfl rfl ?_ rfl
  have k1 := r_frames n.q 16 hq
  have k2 := r_frames n.g 64 hg
  have k3 := r_filters n.fs hf hw
  have k4 := r_countRight' n.c
  unfold Nd.right
  simp at k4
  cases h1 : frsRight 16 n.q
  · simp [Try.f17, k1, h1]
  · cases h2 : frsRight 64 n.g
    · simp [Try.f17, k1, k2, h1, h2]
    · cases h3 : flsRight n.fs
      · simp [Try.f17, k1, k2, k3, h1, h2, h3]
      · simp [Try.f17, k1, k2, k3, k4, h1, h2, h3]

theorem app24 (rows xs : List (List DV)) (h : rowsOk 3 rows = true) (h' : rowsOk 3 xs = true) (hb : (rows.length + xs.length) * 24 ≤ roomB) : evAppend Try.prog 26 (acc rows) (.d (.slice xs)) = some (acc (rows ++ xs)) := by
  unfold evAppend
  rw [Ty.app26]
  simp only [Option.bind_some, acc_own, elemsOf, h, h', Bool.true_and, hb, decide_true, if_true]

theorem step_on {c : Cn} (hs : c.s ≠ 3) (what : Int) : c.step what = if wkT what c.t > 255 then ⟨256, 0, 3, 0⟩ else ⟨wkT what c.t, wkR what c.r, if max (wkT what c.t) (wkR what c.r) > 127 then 2 else 1, c.z⟩ := by
  unfold Cn.step
  simp only [stT, stR, stS, stQ, hs, if_false]
  split <;> rfl

end Go.Proofs

