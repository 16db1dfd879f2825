/- The seat of nodes: the reference's node: what it makes is what the program makes. -/
import Derived.Test.YtnnindnmpfmaaaaGreatNk
set_option linter.unusedVariables false
set_option linter.unusedSimpArgs false
set_option maxRecDepth 100000
set_option maxHeartbeats 4000000
namespace Go.Proofs
open Go.RowKit Go.Shelf Go.Pv

theorem flsRright_eq (l : List Fl) (hw : ∀ f ∈ l, f.wf) : l.all (·.rright) = l.all (·.right) := by
  rw [Bool.eq_iff_iff, List.all_eq_true, List.all_eq_true]
  exact ⟨fun h x hx => by rw [← x.rright_eq (hw x hx)]; exact h x hx, fun h x hx => by rw [x.rright_eq (hw x hx)]; exact h x hx⟩

theorem r_filters (l : List Fl) (hl : l.length ≤ 1000000) (hw : ∀ f ∈ l, f.wf) (σ : Store) : callIt E1 (evI E1) 158 [.d (.slice (l.map Fl.D))] σ = some (.d (.bool (flsRight l)), σ) := by
  have := r_filters0 l hl σ
  rw [flsRright_eq l hw] at this
  exact this

theorem Cn.rright_eq (c : Cn) : c.rright = c.right := by
  rw [Bool.eq_iff_iff, c.right_iff]
  unfold Cn.rright stOf
  obtain ⟨t, r, s, z⟩ := c
  simp only
  by_cases hs : s = 3
  · simp [hs]; omega
  · simp only [hs, if_false]
    by_cases h : (decide (t < 0) || decide (t > 255) || decide (r < 0) || decide (r > 255) || z != 0) = true
    · rw [if_pos h]
      simp at h
      constructor
      · intro h; cases h
      · rintro ⟨a, b, c, d⟩; omega
    · rw [if_neg h]
      simp at h
      by_cases h2 : (decide (t > 127) || decide (r > 127)) = true
      · rw [if_pos h2]
        simp at h2
        rw [if_pos (by omega)]
        simp; omega
      · rw [if_neg h2]
        simp at h2
        rw [if_neg (by omega)]
        simp; omega

theorem r_countRight' (c : Cn) (σ : Store) : callIt E1 (evI E1) 134 [c.P] σ = some (.d (.bool c.right), σ) := by
  rw [← c.rright_eq]; exact r_countRight c σ

theorem r_RightNd (n : Nd) (hq : n.q.length ≤ 1000000) (hf : n.fs.length ≤ 1000000) (hg : n.g.length ≤ 1000000) (hw : ∀ f ∈ n.fs, f.wf) (σ : Store) : callIt E1 (evI E1) 109 [n.P] σ = some (.d (.bool n.right), σ) := by
  refine call_run (fn := Tryz.f109) 5 rfl rfl rfl Tryz.func109 rfl rfl ?_ rfl
  have k1 := r_frames n.q 16 hq
  have k2 := r_frames n.g 64 hg
  have k3 := r_filters n.fs hf hw
  have k4 := r_countRight' n.c
  unfold Nd.right
  simp at k4
  cases h1 : frsRight 16 n.q
  · simp [Tryz.f109, k1, h1]
  · cases h2 : frsRight 64 n.g
    · simp [Tryz.f109, k1, k2, h1, h2]
    · cases h3 : flsRight n.fs
      · simp [Tryz.f109, k1, k2, k3, h1, h2, h3]
      · simp [Tryz.f109, k1, k2, k3, k4, h1, h2, h3]

theorem app24 (rows xs : List (List DV)) (h : rowsOk 3 rows = true) (h' : rowsOk 3 xs = true) (hb : (rows.length + xs.length) * 24 ≤ roomB) : evAppend Tryz.prog 45 (acc rows) (.d (.slice xs)) = some (acc (rows ++ xs)) := by
  unfold evAppend
  rw [Ty.app45]
  simp only [Option.bind_some, acc_own, elemsOf, h, h', Bool.true_and, hb, decide_true, if_true]

theorem r_new (l : List Fl) (hl : l.length ≤ 1000000) (hw : ∀ f ∈ l, f.wf) (σ : Store) : callIt E1 (evI E1) 110 [.d (.slice (l.map Fl.D))] σ = some (.tup [(ndNew l).1.P, .d (.int .i64 (ndNew l).2)], σ) := by
  refine call_run (fn := Tryz.f110) 5 rfl rfl rfl Tryz.func110 rfl rfl ?_ rfl
  have h1 := r_filters l hl hw
  have h2 := app24 [] (l.map Fl.D) rfl (rowsOk_Fl _) (by simp [roomB]; omega)
  have h3 := r_countNew
  unfold ndNew
  simp at h2 h3
  cases hb : flsRight l
  · rw [hb] at h1
    simp [Tryz.f110, h1, nd0]
  · rw [hb] at h1
    simp [Tryz.f110, h1, h2, h3, rowsFrom]

theorem r_Send (n : Nd) (f : Fr) (hq : n.q.length ≤ 1000000) (σ : Store) : callIt E1 (evI E1) 160 [n.P, f.P] σ = some (.tup [(n.Send f).1.P, .d (.int .i64 (n.Send f).2)], σ) := by
  refine call_run (fn := Tryz.f160) 5 rfl rfl rfl Tryz.func160 rfl rfl ?_ rfl
  have h1 := r_right f
  have h2 := app22 [] (n.q.map Fr.D) rfl (rowsOk_Fr _) (by simp [roomB]; omega)
  have h3 := app22 (n.q.map Fr.D) [f.D] (rowsOk_Fr _) rfl (by simp [roomB]; omega)
  unfold Nd.Send Nd.off
  simp at h1 h2 h3
  cases hf : f.right
  · rw [hf] at h1
    simp [Tryz.f160, h1]
  · rw [hf] at h1
    cases ho : (n.c.s == 3)
    · by_cases hl : 16 ≤ n.q.length
      · have hl' : (n.q.length : Int) ≥ 16 := by omega
        simp [Tryz.f160, h1, ho, hl, hl']
      · have hl' : ¬ (n.q.length : Int) ≥ 16 := by omega
        simp [Tryz.f160, h1, ho, hl, hl', h2, h3, rowsFrom]
    · simp [Tryz.f160, h1, ho]

theorem r_Next (n : Nd) (hq : n.q.length ≤ 1000000) (hr : ∀ x ∈ n.q, x.right = true) (σ : Store) : callIt E1 (evI E1) 32 [n.P] σ = some (.tup [n.Next.1.P, .d (.bool n.Next.2)], σ) := by
  refine call_run (fn := Tryz.f32) 5 rfl rfl rfl Tryz.func32 rfl rfl ?_ rfl
  have h1 := r_place n hq hr
  unfold Nd.Next
  unfold Nd.place at h1
  cases ho : n.off || n.q.isEmpty
  · rw [ho] at h1
    have hne : n.q ≠ [] := by intro h; simp [h] at ho
    obtain ⟨k, hk⟩ : ∃ k, k = nxt n.q := ⟨_, rfl⟩
    have hlt := nxt_lt hne
    rw [← hk] at h1 hlt ⊢
    have hx : n.q[k]? = some n.q[k] := List.getElem?_eq_getElem hlt
    generalize n.q[k] = x at hx
    have hk0 : ¬ (k : Int) < 0 := by omega
    simp at h1
    simp [Tryz.f32, cellsOf, loadS, storeS, h1, hx, hk0]
  · rw [ho] at h1
    simp at h1
    simp [Tryz.f32, cellsOf, loadS, storeS, h1, fr0]

theorem r_Take (n : Nd) (hg : n.g.length ≤ 1000000) (σ : Store) : callIt E1 (evI E1) 165 [n.P] σ = some (.tup [n.Take.1.P, n.Take.2.1.P, .d (.bool n.Take.2.2)], σ) := by
  refine call_run (fn := Tryz.f165) 5 rfl rfl rfl Tryz.func165 rfl rfl ?_ rfl
  obtain ⟨q, fs, c, g⟩ := n
  unfold Nd.Take
  cases g with
  | nil => simp [Tryz.f165, cellsOf, loadS, storeS, fr0]
  | cons f g =>
    simp at hg
    have h2 := app22 [] (g.map Fr.D) rfl (rowsOk_Fr _) (by simp [roomB]; omega)
    have hl : ((g.length : Int) + 1 == 0) = false := by rw [beq_eq_false_iff_ne]; omega
    simp at h2
    simp [Tryz.f165, cellsOf, loadS, storeS, h2, hl, rowsFrom]

theorem step_on {c : Cn} (hs : c.s ≠ 3) (what : Int) : c.step what = if wkT what c.t > 255 then ⟨256, 0, 3, 0⟩ else ⟨wkT what c.t, wkR what c.r, if max (wkT what c.t) (wkR what c.r) > 127 then 2 else 1, c.z⟩ := by
  unfold Cn.step
  simp only [stT, stR, stS, stQ, hs, if_false]
  split <;> rfl

theorem r_step (c : Cn) (what : Int) (hc : c.ok) (hw : 1 ≤ what ∧ what ≤ 6) (σ : Store) : callIt E1 (evI E1) 89 [c.P, .d (.int .i64 what)] σ = some ((c.step what).P, σ) := by
  refine call_run (fn := Tryz.f89) 5 rfl rfl rfl Tryz.func89 rfl rfl ?_ rfl
  have h0 := r_countNew
  simp at h0
  obtain ⟨t, r, s, z⟩ := c
  obtain ⟨⟨t0, t1⟩, ⟨r0, r1⟩, z0, z1⟩ := hc
  simp only at t0 t1 r0 r1 z0 z1
  have w1 : IntKind.i64.wrap (z + 1) = z + 1 := wrap_ok (by omega) (by omega)
  have w2 : IntKind.i64.wrap (t - 1) = t - 1 := wrap_ok (by omega) (by omega)
  have w3 : IntKind.i64.wrap (r - 1) = r - 1 := wrap_ok (by omega) (by omega)
  have w4 : IntKind.i64.wrap (t + 8) = t + 8 := wrap_ok (by omega) (by omega)
  have w5 : IntKind.i64.wrap (r + 1) = r + 1 := wrap_ok (by omega) (by omega)
  have w6 : IntKind.i64.wrap (r + 8) = r + 8 := wrap_ok (by omega) (by omega)
  by_cases hs : s = 3
  · subst hs
    by_cases h6 : what = 6
    · subst h6
      by_cases hz : z + 1 = 128
      · obtain rfl : z = 127 := by omega
        have w1' : IntKind.i64.wrap 128 = 128 := by decide
        simp [Tryz.f89, cellsOf, loadS, storeS, w1', h0, Cn.step, stT, stR, stS, stQ]
      · have hz' : (z + 1 == 128) = false := by simpa using hz
        simp [Tryz.f89, cellsOf, loadS, storeS, w1, hz', Cn.step, stT, stR, stS, stQ, hz]
    · have h6' : (what != 6) = true := by simpa using h6
      simp [Tryz.f89, cellsOf, loadS, storeS, h6', Cn.step, stT, stR, stS, stQ, h6]
  · have hs' : (s == 3) = false := by simpa using hs
    rw [step_on hs]
    have hwh : what = 1 ∨ what = 2 ∨ what = 3 ∨ what = 4 ∨ what = 5 ∨ what = 6 := by omega
    rcases hwh with rfl | rfl | rfl | rfl | rfl | rfl
    · by_cases hT : max (t - 1) 0 > 255
      · simp [Tryz.f89, cellsOf, loadS, storeS, hs', w2, hT, wkT, wkR]
      · by_cases g1 : max (t - 1) 0 > 127
        · have g3 : max (max (t - 1) 0) (r) > 127 := by omega
          simp [Tryz.f89, cellsOf, loadS, storeS, hs', w2, hT, g1, g3, wkT, wkR] <;> omega
        · by_cases g2 : r > 127
          · have g3 : max (max (t - 1) 0) (r) > 127 := by omega
            simp [Tryz.f89, cellsOf, loadS, storeS, hs', w2, hT, g1, g2, g3, wkT, wkR] <;> omega
          · have g3 : ¬ max (max (t - 1) 0) (r) > 127 := by omega
            simp [Tryz.f89, cellsOf, loadS, storeS, hs', w2, hT, g1, g2, g3, wkT, wkR] <;> omega
    · by_cases hr : r > 127
      · have hmn : min (max (r - 1) 0) 127 = 127 := by omega
        by_cases hT : t > 255
        · simp [Tryz.f89, cellsOf, loadS, storeS, hs', w3, hr, hT, wkT, wkR]
        · by_cases g1 : t > 127
          · have g3 : max t (127 : Int) > 127 := by omega
            simp [Tryz.f89, cellsOf, loadS, storeS, hs', w3, hr, hmn, hT, g1, g3, wkT, wkR]
          · have g3 : ¬ max t (127 : Int) > 127 := by omega
            simp [Tryz.f89, cellsOf, loadS, storeS, hs', w3, hr, hmn, hT, g1, g3, wkT, wkR] <;> omega
      · have hmn : min (max (r - 1) 0) 127 = max (r - 1) 0 := by omega
        have g2 : ¬ max (r - 1) 0 > 127 := by omega
        by_cases hT : t > 255
        · simp [Tryz.f89, cellsOf, loadS, storeS, hs', w3, hr, hT, wkT, wkR]
        · by_cases g1 : t > 127
          · have g3 : max t (max (r - 1) 0) > 127 := by omega
            simp [Tryz.f89, cellsOf, loadS, storeS, hs', w3, hr, hmn, hT, g1, g2, g3, wkT, wkR] <;> omega
          · have g3 : ¬ max t (max (r - 1) 0) > 127 := by omega
            simp [Tryz.f89, cellsOf, loadS, storeS, hs', w3, hr, hmn, hT, g1, g2, g3, wkT, wkR] <;> omega
    · by_cases hT : t + 8 > 255
      · simp [Tryz.f89, cellsOf, loadS, storeS, hs', w4, hT, wkT, wkR]
      · by_cases g1 : t + 8 > 127
        · have g3 : max (t + 8) (r) > 127 := by omega
          simp [Tryz.f89, cellsOf, loadS, storeS, hs', w4, hT, g1, g3, wkT, wkR] <;> omega
        · by_cases g2 : r > 127
          · have g3 : max (t + 8) (r) > 127 := by omega
            simp [Tryz.f89, cellsOf, loadS, storeS, hs', w4, hT, g1, g2, g3, wkT, wkR] <;> omega
          · have g3 : ¬ max (t + 8) (r) > 127 := by omega
            simp [Tryz.f89, cellsOf, loadS, storeS, hs', w4, hT, g1, g2, g3, wkT, wkR] <;> omega
    · by_cases hT : t > 255
      · simp [Tryz.f89, cellsOf, loadS, storeS, hs', w5, hT, wkT, wkR]
      · by_cases g1 : t > 127
        · have g3 : max (t) (min (r + 1) 255) > 127 := by omega
          simp [Tryz.f89, cellsOf, loadS, storeS, hs', w5, hT, g1, g3, wkT, wkR] <;> omega
        · by_cases g2 : min (r + 1) 255 > 127
          · have g3 : max (t) (min (r + 1) 255) > 127 := by omega
            simp [Tryz.f89, cellsOf, loadS, storeS, hs', w5, hT, g1, g2, g3, wkT, wkR] <;> omega
          · have g3 : ¬ max (t) (min (r + 1) 255) > 127 := by omega
            simp [Tryz.f89, cellsOf, loadS, storeS, hs', w5, hT, g1, g2, g3, wkT, wkR] <;> omega
    · by_cases hT : t > 255
      · simp [Tryz.f89, cellsOf, loadS, storeS, hs', w6, hT, wkT, wkR]
      · by_cases g1 : t > 127
        · have g3 : max (t) (min (r + 8) 255) > 127 := by omega
          simp [Tryz.f89, cellsOf, loadS, storeS, hs', w6, hT, g1, g3, wkT, wkR] <;> omega
        · by_cases g2 : min (r + 8) 255 > 127
          · have g3 : max (t) (min (r + 8) 255) > 127 := by omega
            simp [Tryz.f89, cellsOf, loadS, storeS, hs', w6, hT, g1, g2, g3, wkT, wkR] <;> omega
          · have g3 : ¬ max (t) (min (r + 8) 255) > 127 := by omega
            simp [Tryz.f89, cellsOf, loadS, storeS, hs', w6, hT, g1, g2, g3, wkT, wkR] <;> omega
    · by_cases hT : t > 255
      · simp [Tryz.f89, cellsOf, loadS, storeS, hs', w6, hT, wkT, wkR]
      · by_cases g1 : t > 127
        · have g3 : max (t) (r) > 127 := by omega
          simp [Tryz.f89, cellsOf, loadS, storeS, hs', w6, hT, g1, g3, wkT, wkR] <;> omega
        · by_cases g2 : r > 127
          · have g3 : max (t) (r) > 127 := by omega
            simp [Tryz.f89, cellsOf, loadS, storeS, hs', w6, hT, g1, g2, g3, wkT, wkR] <;> omega
          · have g3 : ¬ max (t) (r) > 127 := by omega
            simp [Tryz.f89, cellsOf, loadS, storeS, hs', w6, hT, g1, g2, g3, wkT, wkR] <;> omega

theorem r_Sent (n : Nd) (ok : Bool) (hl : n.q.length ≤ 1000000) (hr : ∀ x ∈ n.q, x.right = true) (hc : n.c.ok) (σ : Store) : callIt E1 (evI E1) 34 [n.P, .d (.bool ok)] σ = some ((n.Sent ok).P, σ) := by
  refine call_run (fn := Tryz.f34) 5 rfl rfl rfl Tryz.func34 rfl rfl ?_ rfl
  have h1 := r_place n hl hr
  unfold Nd.Sent
  unfold Nd.place at h1
  cases ho : n.off || n.q.isEmpty
  · rw [ho] at h1
    have hne : n.q ≠ [] := by intro h; simp [h] at ho
    obtain ⟨k, hk⟩ : ∃ k, k = nxt n.q := ⟨_, rfl⟩
    have hlt := nxt_lt hne
    rw [← hk] at h1 hlt ⊢
    have hk0 : ¬ (k : Int) < 0 := by omega
    have h3 := r_step n.c 1 hc (by omega)
    have h4 := r_step n.c 3 hc (by omega)
    have hw1 : IntKind.i64.wrap ((k : Int) + 1) = ((k + 1 : Nat) : Int) := by rw [wrap_ok (by omega) (by omega)]; omega
    have h5 := app22 [] ((n.q.map Fr.D).take k) rfl (by rw [← List.map_take]; exact rowsOk_Fr _) (by simp [roomB]; omega)
    have h6 := app22 ((n.q.map Fr.D).take k) ((n.q.map Fr.D).drop (k + 1)) (by rw [← List.map_take]; exact rowsOk_Fr _) (by rw [← List.map_drop]; exact rowsOk_Fr _) (by simp [roomB]; omega)
    have h7 : (n.q.map Fr.D).take k ++ (n.q.map Fr.D).drop (k + 1) = (n.q.eraseIdx k).map Fr.D := by
      rw [← eraseIdx_map, List.eraseIdx_eq_take_drop_succ]
    rw [h7] at h6
    have hle : k ≤ n.q.length := by omega
    have hle1 : k + 1 ≤ n.q.length := by omega
    have hk1 : (0 : Int) ≤ (k : Int) + 1 := by omega
    have htk : (List.map Fr.D n.q).take n.q.length = n.q.map Fr.D := List.take_of_length_le (by simp)
    simp at h1 h3 h4 h5 h6
    cases ok
    · simp [Tryz.f34, cellsOf, loadS, storeS, h1, hk0, h3, h4]
    · simp [Tryz.f34, cellsOf, loadS, storeS, h1, hk0, h3, h4, hw1, hk1, evSlice, bound, hle, hle1, htk, h5, h6, rowsFrom]
  · rw [ho] at h1
    simp at h1
    simp [Tryz.f34, cellsOf, loadS, storeS, h1]

theorem r_Quiet (n : Nd) (hc : n.c.ok) (σ : Store) : callIt E1 (evI E1) 80 [n.P] σ = some (n.Quiet.P, σ) := by
  refine call_run (fn := Tryz.f80) 5 rfl rfl rfl Tryz.func80 rfl rfl ?_ rfl
  have h3 := r_step n.c 6 hc (by omega)
  simp at h3
  simp [Tryz.f80, cellsOf, loadS, storeS, h3, Nd.Quiet]

theorem r_Heard (n : Nd) (f : Fr) (ok long : Bool) (hg : n.g.length ≤ 1000000) (hf : n.fs.length ≤ 1000000) (hc : n.c.ok) (σ : Store) : callIt E1 (evI E1) 83 [n.P, f.P, .d (.bool ok), .d (.bool long)] σ = some ((n.Heard f ok long).P, σ) := by
  refine call_run (fn := Tryz.f83) 5 rfl rfl rfl Tryz.func83 rfl rfl ?_ rfl
  have h2 := r_any n.fs f hf
  have h3 := app22 [] (n.g.map Fr.D) rfl (rowsOk_Fr _) (by simp [roomB]; omega)
  have h3' := app22 (n.g.map Fr.D) [f.D] (rowsOk_Fr _) rfl (by simp [roomB]; omega)
  have h4 := r_step n.c 2 hc (by omega)
  have h5 := r_step n.c 4 hc (by omega)
  have h6 := r_step n.c 5 hc (by omega)
  unfold Nd.Heard what Nd.off
  simp at h2 h3 h3' h4 h5 h6
  cases ho : (n.c.s == 3)
  · cases ok
    · cases long
      · simp [Tryz.f83, cellsOf, loadS, storeS, ho, h5]
      · simp [Tryz.f83, cellsOf, loadS, storeS, ho, h6]
    · cases ha : anyF n.fs f
      · rw [ha] at h2
        simp [Tryz.f83, cellsOf, loadS, storeS, ho, h2, h4]
      · rw [ha] at h2
        by_cases hl : (n.g.length : Int) < 64
        · simp [Tryz.f83, cellsOf, loadS, storeS, ho, h2, h3, h3', h4, hl, rowsFrom]
        · simp [Tryz.f83, cellsOf, loadS, storeS, ho, h2, h4, hl]
  · simp [Tryz.f83, cellsOf, loadS, storeS, ho]
end Go.Proofs

