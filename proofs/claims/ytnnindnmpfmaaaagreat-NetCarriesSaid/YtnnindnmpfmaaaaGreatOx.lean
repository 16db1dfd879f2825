/- The bus's arguments read. -/
import Derived.Test.YtnnindnmpfmaaaaGreatOf2
import Derived.Test.YtnnindnmpfmaaaaGreatNh
set_option linter.unusedVariables false
set_option linter.unusedSimpArgs false
set_option maxRecDepth 100000
set_option maxHeartbeats 4000000
namespace Go.Proofs
open Go.RowKit Go.Shelf Go.Pv

theorem Nd.wf_bytes {n : Nd} (h : n.wf) : ∀ f ∈ n.q, byOk f.data := by
  intro f hf x hx
  have := (h.1.2 f hf).2.2.2 x hx
  omega
theorem ok_NdD {d : Nat} {ds : List DV} (h : OkD Tryz.prog (d + 5) 49 ds) : ∃ n : Nd, ds = n.D ∧ n.wf := by
  rw [show d + 5 = (d + 4) + 1 from rfl] at h
  rw [OkD_succ] at h
  simp only [Tryz.underlying49, OkFs, Ty.c44, Ty.c45, Ty.c47] at h
  obtain ⟨h1, h2, h3, h4, h5⟩ := h
  obtain ⟨q, h1, w1⟩ := ok_Frs h1
  obtain ⟨_, rfl, k1⟩ := take1 h1
  rw [k1] at h2 h3 h4 h5
  obtain ⟨fs, h2, w2⟩ := ok_Fls (d := d + 1) h2
  obtain ⟨r2, rfl, k2⟩ := take1 h2
  rw [k2] at h3 h4 h5
  obtain ⟨c, h3, w3⟩ := ok_Cn (d := d + 2) h3
  have hr : r2 = [.int .i64 c.t, .int .i64 c.r, .int .i64 c.s, .int .i64 c.z] ++ r2.drop 4 := by rw [← h3]; exact (List.take_append_drop 4 r2).symm
  obtain ⟨g, h4, w4⟩ := ok_Frs h4
  obtain ⟨r3, hr3, k3⟩ := take1 h4
  rw [k3] at h5
  subst h5
  rw [hr3] at hr
  rw [hr]
  exact ⟨⟨q, fs, c, g⟩, by simp, w1, w2, w3, w4⟩
theorem ok_Nds {d : Nat} {ds : List DV} (h : OkD Tryz.prog (d + 6) 22 ds) : ∃ l : List Nd, ds = [.slice (l.map Nd.D)] ∧ bytesOk l ∧ ∀ n ∈ l, n.wf := by
  rw [show d + 6 = (d + 5) + 1 from rfl] at h
  rw [OkD_succ] at h
  simp only [Tryz.underlying22] at h
  obtain ⟨rows, rfl, h1, h2⟩ := h
  obtain ⟨l, rfl, hl⟩ := rows_map rows (fun r hr => ok_NdD (h2 r hr))
  exact ⟨l, rfl, fun n hn => Nd.wf_bytes (hl n hn), hl⟩
theorem ok_ints {d : Nat} {ds : List DV} (h : OkD Tryz.prog (d + 2) 39 ds) : ∃ l : List Int, ds = [.slice (l.map intD)] ∧ l.length ≤ maxLen ∧ ∀ x ∈ l, I64 x := by
  rw [show d + 2 = (d + 1) + 1 from rfl] at h
  rw [OkD_succ] at h
  simp only [Tryz.underlying39] at h
  obtain ⟨rows, rfl, h1, h2⟩ := h
  obtain ⟨l, rfl, hl⟩ := rows_map rows (fun r hr => ok_int (h2 r hr))
  exact ⟨l, rfl, by simpa using h1, hl⟩
theorem Ty.cints : Tryz.prog.cellsOf 39 = 1 := by kernel_rfl
theorem ok_Hit {d : Nat} {ds : List DV} (h : OkD Tryz.prog (d + 3) 41 ds) : ∃ w : List Int, ds = hitD w ∧ w.length ≤ maxLen := by
  rw [show d + 3 = (d + 2) + 1 from rfl] at h
  rw [OkD_succ] at h
  simp only [Tryz.underlying41, OkFs, Ty.cints] at h
  obtain ⟨h1, h2⟩ := h
  obtain ⟨w, h1, w1, _⟩ := ok_ints h1
  obtain ⟨_, rfl, k1⟩ := take1 h1
  rw [k1] at h2
  subst h2
  exact ⟨w, rfl, w1⟩
theorem maxLen_le : maxLen ≤ 2 ^ 63 := by decide
theorem ok_Hits {d : Nat} {ds : List DV} (h : OkD Tryz.prog (d + 4) 23 ds) : ∃ l : List (List Int), ds = [.slice (l.map hitD)] ∧ ∀ w ∈ l, w.length ≤ 2 ^ 63 := by
  rw [show d + 4 = (d + 3) + 1 from rfl] at h
  rw [OkD_succ] at h
  simp only [Tryz.underlying23] at h
  obtain ⟨rows, rfl, h1, h2⟩ := h
  obtain ⟨l, rfl, hl⟩ := rows_map rows (fun r hr => ok_Hit (h2 r hr))
  exact ⟨l, rfl, fun w hw => Nat.le_trans (hl w hw) maxLen_le⟩
theorem arg_Nds (l : List Nd) : argP Tryz.prog 22 [.slice (l.map Nd.D)] = .d (.slice (l.map Nd.D)) := by simp [argP]
theorem arg_Hits (l : List (List Int)) : argP Tryz.prog 23 [.slice (l.map hitD)] = .d (.slice (l.map hitD)) := by simp [argP]
theorem arg_Hit (w : List Int) : argP Tryz.prog 41 (hitD w) = .agg [.d (.slice (w.map intD))] := by simp [argP, hitD]
end Go.Proofs

