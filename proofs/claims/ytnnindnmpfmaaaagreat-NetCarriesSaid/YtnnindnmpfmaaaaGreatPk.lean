/- The nets' arguments read, but acts. -/
import Derived.Test.YtnnindnmpfmaaaaGreatOx
import Derived.Test.YtnnindnmpfmaaaaGreatPa
import Derived.Test.YtnnindnmpfmaaaaGreatPb
import Derived.Test.YtnnindnmpfmaaaaGreatNk2
set_option linter.unusedVariables false
set_option linter.unusedSimpArgs false
set_option maxRecDepth 100000
set_option maxHeartbeats 4000000
namespace Go.Proofs
open Go.RowKit Go.Shelf Go.Pv

def flsD (l : List Fl) : List DV := [.slice (l.map Fl.D)]
def Rt.wf (r : Rt) : Prop := I64 r.a ∧ I64 r.b ∧ r.f.wf ∧ I64 r.n
theorem Fr.wf_by {f : Fr} (h : f.wf) : byOk f.data := fun x hx => by have := h.2.2.2 x hx; omega
theorem Ty.cN140 : Tryz.prog.cellsOf 140 = 3 := by kernel_rfl
theorem Ty.cN34 : Tryz.prog.cellsOf 34 = 5 := by kernel_rfl
theorem ok_u8 {d : Nat} {ds : List DV} (h : OkD Tryz.prog (d + 1) 5 ds) : ∃ b, ds = [.int .u8 b] ∧ 0 ≤ b ∧ b ≤ 255 := ok_by h
theorem ok_Rt {d : Nat} {ds : List DV} (h : OkD Tryz.prog (d + 3) 145 ds) : ∃ r : Rt, ds = r.D ∧ r.wf := by
  rw [show d + 3 = (d + 2) + 1 from rfl] at h
  rw [OkD_succ] at h
  simp only [Tryz.underlying145, OkFs, Ty.c3, Ty.cN140] at h
  obtain ⟨h1, h2, h3, h4, h5⟩ := h
  obtain ⟨a, h1, w1⟩ := ok_int h1
  obtain ⟨_, rfl, k1⟩ := take1 h1
  rw [k1] at h2 h3 h4 h5
  obtain ⟨b, h2, w2⟩ := ok_int h2
  obtain ⟨r2, rfl, k2⟩ := take1 h2
  rw [k2] at h3 h4 h5
  obtain ⟨f, h3, w3⟩ := ok_Fl (d := d) h3
  have hr : r2 = f.D ++ r2.drop 3 := by rw [← h3]; exact (List.take_append_drop 3 r2).symm
  obtain ⟨n, h4, w4⟩ := ok_int h4
  obtain ⟨r3, hr3, k3⟩ := take1 h4
  rw [k3] at h5
  subst h5
  rw [hr3] at hr
  rw [hr]
  exact ⟨⟨a, b, f, n⟩, rfl, w1, w2, w3, w4⟩
theorem ok_Rts {d : Nat} {ds : List DV} (h : OkD Tryz.prog (d + 4) 63 ds) : ∃ l : List Rt, ds = [.slice (l.map Rt.D)] ∧ l.length ≤ maxLen ∧ ∀ r ∈ l, r.wf := by
  rw [show d + 4 = (d + 3) + 1 from rfl] at h
  rw [OkD_succ] at h
  simp only [Tryz.underlying63] at h
  obtain ⟨rows, rfl, h1, h2⟩ := h
  obtain ⟨l, rfl, hl⟩ := rows_map rows (fun r hr => ok_Rt (h2 r hr))
  exact ⟨l, rfl, by simpa using h1, hl⟩
theorem ok_Ndss {d : Nat} {ds : List DV} (h : OkD Tryz.prog (d + 7) 66 ds) : ∃ l : List (List Nd), ds = [.slice (l.map ndsD)] ∧ ∀ x ∈ l, bytesOk x ∧ ∀ n ∈ x, n.wf := by
  rw [show d + 7 = (d + 6) + 1 from rfl] at h
  rw [OkD_succ] at h
  simp only [Tryz.underlying66] at h
  obtain ⟨rows, rfl, h1, h2⟩ := h
  obtain ⟨l, rfl, hl⟩ := rows_map (D := ndsD) (p := fun x => bytesOk x ∧ ∀ n ∈ x, n.wf) rows (fun r hr => by
    obtain ⟨x, hx, h3, h4⟩ := ok_Nds (h2 r hr)
    exact ⟨x, hx, h3, h4⟩)
  exact ⟨l, rfl, hl⟩
theorem ok_Flss {d : Nat} {ds : List DV} (h : OkD Tryz.prog (d + 4) 67 ds) : ∃ l : List (List Fl), ds = [.slice (l.map flsD)] ∧ ∀ x ∈ l, x.length ≤ maxLen ∧ ∀ f ∈ x, f.wf := by
  rw [show d + 4 = (d + 3) + 1 from rfl] at h
  rw [OkD_succ] at h
  simp only [Tryz.underlying67] at h
  obtain ⟨rows, rfl, h1, h2⟩ := h
  obtain ⟨l, rfl, hl⟩ := rows_map (D := flsD) (p := fun x => x.length ≤ maxLen ∧ ∀ f ∈ x, f.wf) rows (fun r hr => by
    obtain ⟨x, hx, h3, h4⟩ := ok_Fls (h2 r hr)
    exact ⟨x, hx, h3, h4⟩)
  exact ⟨l, rfl, hl⟩
theorem arg_Ndss (l : List (List Nd)) : argP Tryz.prog 66 [.slice (l.map ndsD)] = .d (.slice (l.map ndsD)) := by simp [argP]
theorem arg_Rts (l : List Rt) : argP Tryz.prog 63 [.slice (l.map Rt.D)] = .d (.slice (l.map Rt.D)) := by simp [argP]
theorem arg_int (n : Int) : argP Tryz.prog 3 [.int .i64 n] = .d (.int .i64 n) := by simp [argP]
theorem arg_u8n (n : Int) : argP Tryz.prog 5 [.int .u8 n] = .d (.int .u8 n) := by simp [argP]
theorem arg_Flss (l : List (List Fl)) : argP Tryz.prog 67 [.slice (l.map flsD)] = .d (.slice (l.map flsD)) := by simp [argP]
theorem Nd.wf_small {n : Nd} (h : n.great = false) : n.small := by
  have := Nd.great_len h
  exact ⟨by omega, by omega, by omega⟩
end Go.Proofs

