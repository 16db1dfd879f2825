/- The seat of nodes: arguments read. -/
import Derived.Test.YtnnindnmpfmaaaaGreatNgl
import Derived.Test.YtnnindnmpfmaaaaGreatEv6
set_option linter.unusedVariables false
set_option linter.unusedSimpArgs false
set_option maxRecDepth 100000
set_option maxHeartbeats 4000000
namespace Go.Proofs
open Go.RowKit Go.Shelf Go.Pv

theorem rows_map {α : Type} {D : α → List DV} {p : α → Prop} : ∀ (rows : List (List DV)), (∀ r ∈ rows, ∃ x, r = D x ∧ p x) → ∃ l : List α, rows = l.map D ∧ ∀ x ∈ l, p x
  | [], _ => ⟨[], rfl, by simp⟩
  | r :: rs, h => by
    obtain ⟨x, rfl, hx⟩ := h r (by simp)
    obtain ⟨l, rfl, hl⟩ := rows_map rs (fun q hq => h q (by simp [hq]))
    exact ⟨x :: l, rfl, by simpa using ⟨hx, hl⟩⟩

theorem Ty.c4 : Tryz.prog.cellsOf 4 = 1 := by kernel_rfl
theorem Ty.c3 : Tryz.prog.cellsOf 3 = 1 := by kernel_rfl
theorem Ty.c5 : Tryz.prog.cellsOf 5 = 1 := by kernel_rfl
theorem Ty.c32 : Tryz.prog.cellsOf 32 = 1 := by kernel_rfl
theorem Ty.c44 : Tryz.prog.cellsOf 44 = 1 := by kernel_rfl
theorem Ty.c45 : Tryz.prog.cellsOf 45 = 1 := by kernel_rfl
theorem Ty.c47 : Tryz.prog.cellsOf 47 = 4 := by kernel_rfl

def I64 (n : Int) : Prop := -9223372036854775808 ≤ n ∧ n ≤ 9223372036854775807
def Fr.wf (f : Fr) : Prop := I64 f.id ∧ I64 f.ln ∧ f.data.length ≤ maxLen ∧ ∀ b ∈ f.data, 0 ≤ b ∧ b ≤ 255
def Fl.wf (f : Fl) : Prop := I64 f.mask ∧ I64 f.mt
def Cn.wf (c : Cn) : Prop := I64 c.t ∧ I64 c.r ∧ I64 c.s ∧ I64 c.z
def Nd.wf (n : Nd) : Prop := (n.q.length ≤ maxLen ∧ ∀ f ∈ n.q, f.wf) ∧ (n.fs.length ≤ maxLen ∧ ∀ f ∈ n.fs, f.wf) ∧ n.c.wf ∧ n.g.length ≤ maxLen ∧ ∀ f ∈ n.g, f.wf

theorem OkD_succ {P : Program} {d : Nat} {t : TypeId} {xs : List DV} : OkD P (d + 1) t xs = match P.underlying t with
    | some .bool => ∃ b, xs = [.bool b]
    | some (.int k) => ∃ n, xs = [.int k n] ∧ k.min ≤ n ∧ n ≤ k.max
    | some .string => ∃ s, xs = [.str s] ∧ s.size ≤ maxLen
    | some (.slice e) => ∃ rows, xs = [.slice rows] ∧ rows.length ≤ maxLen ∧ ∀ r ∈ rows, OkD P d e r
    | some (.struct fs) => OkFs (OkD P d) P fs.toList xs
    | some (.array n e) => OkArr (OkD P d e) (P.cellsOf e) n xs
    | _ => False := rfl

theorem ok_by {d : Nat} {ds : List DV} (h : OkD Tryz.prog (d + 1) 5 ds) : ∃ b, ds = byD b ∧ 0 ≤ b ∧ b ≤ 255 := by
  rw [OkD_succ] at h
  simp only [Tryz.underlying5] at h
  obtain ⟨n, rfl, h1, h2⟩ := h
  exact ⟨n, rfl, h1, h2⟩
theorem ok_int {d : Nat} {ds : List DV} (h : OkD Tryz.prog (d + 1) 3 ds) : ∃ b, ds = [.int .i64 b] ∧ I64 b := by
  rw [OkD_succ] at h
  simp only [Tryz.underlying3] at h
  obtain ⟨n, rfl, h1, h2⟩ := h
  exact ⟨n, rfl, h1, h2⟩
theorem ok_bool {d : Nat} {ds : List DV} (h : OkD Tryz.prog (d + 1) 4 ds) : ∃ b, ds = [.bool b] := by
  rw [OkD_succ] at h
  simpa only [Tryz.underlying4] using h

theorem ok_bytes {d : Nat} {ds : List DV} (h : OkD Tryz.prog (d + 2) 32 ds) : ∃ l : List Int, ds = [.slice (l.map byD)] ∧ l.length ≤ maxLen ∧ ∀ b ∈ l, 0 ≤ b ∧ b ≤ 255 := by
  rw [show d + 2 = (d + 1) + 1 from rfl] at h
  rw [OkD_succ] at h
  simp only [Tryz.underlying32] at h
  obtain ⟨rows, rfl, h1, h2⟩ := h
  obtain ⟨l, rfl, hl⟩ := rows_map rows (fun r hr => ok_by (h2 r hr))
  exact ⟨l, rfl, by simpa using h1, hl⟩

theorem take1 {xs : List DV} {x : DV} (h : xs.take 1 = [x]) : ∃ ys, xs = x :: ys ∧ xs.drop 1 = ys := by
  match xs, h with
  | y :: ys, h => simp at h; subst h; exact ⟨ys, rfl, rfl⟩

theorem ok_Fr {d : Nat} {ds : List DV} (h : OkD Tryz.prog (d + 3) 34 ds) : ∃ f : Fr, ds = f.D ∧ f.wf := by
  rw [show d + 3 = (d + 2) + 1 from rfl] at h
  rw [OkD_succ] at h
  simp only [Tryz.underlying34, OkFs, Ty.c4, Ty.c3, Ty.c32] at h
  obtain ⟨h1, h2, h3, h4, h5, h6⟩ := h
  obtain ⟨e, h1⟩ := ok_bool h1
  obtain ⟨_, rfl, k1⟩ := take1 h1
  rw [k1] at h2 h3 h4 h5 h6
  obtain ⟨id, h2, w1⟩ := ok_int h2
  obtain ⟨_, rfl, k2⟩ := take1 h2
  rw [k2] at h3 h4 h5 h6
  obtain ⟨rm, h3⟩ := ok_bool h3
  obtain ⟨_, rfl, k3⟩ := take1 h3
  rw [k3] at h4 h5 h6
  obtain ⟨ln, h4, w2⟩ := ok_int h4
  obtain ⟨_, rfl, k4⟩ := take1 h4
  rw [k4] at h5 h6
  obtain ⟨l, h5, w3, w4⟩ := ok_bytes h5
  obtain ⟨_, rfl, k5⟩ := take1 h5
  rw [k5] at h6
  subst h6
  exact ⟨⟨e, id, rm, ln, l⟩, rfl, w1, w2, w3, w4⟩

theorem ok_Fl {d : Nat} {ds : List DV} (h : OkD Tryz.prog (d + 2) 140 ds) : ∃ f : Fl, ds = f.D ∧ f.wf := by
  rw [show d + 2 = (d + 1) + 1 from rfl] at h
  rw [OkD_succ] at h
  simp only [Tryz.underlying140, OkFs, Ty.c4, Ty.c3] at h
  obtain ⟨h1, h2, h3, h4⟩ := h
  obtain ⟨e, h1⟩ := ok_bool h1
  obtain ⟨_, rfl, k1⟩ := take1 h1
  rw [k1] at h2 h3 h4
  obtain ⟨m, h2, w1⟩ := ok_int h2
  obtain ⟨_, rfl, k2⟩ := take1 h2
  rw [k2] at h3 h4
  obtain ⟨t, h3, w2⟩ := ok_int h3
  obtain ⟨_, rfl, k3⟩ := take1 h3
  rw [k3] at h4
  subst h4
  exact ⟨⟨e, m, t⟩, rfl, w1, w2⟩

theorem ok_Frs {d : Nat} {ds : List DV} (h : OkD Tryz.prog (d + 4) 44 ds) : ∃ l : List Fr, ds = [.slice (l.map Fr.D)] ∧ l.length ≤ maxLen ∧ ∀ f ∈ l, f.wf := by
  rw [show d + 4 = (d + 3) + 1 from rfl] at h
  rw [OkD_succ] at h
  simp only [Tryz.underlying44] at h
  obtain ⟨rows, rfl, h1, h2⟩ := h
  obtain ⟨l, rfl, hl⟩ := rows_map rows (fun r hr => ok_Fr (h2 r hr))
  exact ⟨l, rfl, by simpa using h1, hl⟩
theorem ok_Fls {d : Nat} {ds : List DV} (h : OkD Tryz.prog (d + 3) 45 ds) : ∃ l : List Fl, ds = [.slice (l.map Fl.D)] ∧ l.length ≤ maxLen ∧ ∀ f ∈ l, f.wf := by
  rw [show d + 3 = (d + 2) + 1 from rfl] at h
  rw [OkD_succ] at h
  simp only [Tryz.underlying45] at h
  obtain ⟨rows, rfl, h1, h2⟩ := h
  obtain ⟨l, rfl, hl⟩ := rows_map rows (fun r hr => ok_Fl (h2 r hr))
  exact ⟨l, rfl, by simpa using h1, hl⟩

theorem ok_Cn {d : Nat} {ds : List DV} (h : OkD Tryz.prog (d + 2) 47 ds) : ∃ c : Cn, ds = [.int .i64 c.t, .int .i64 c.r, .int .i64 c.s, .int .i64 c.z] ∧ c.wf := by
  rw [show d + 2 = (d + 1) + 1 from rfl] at h
  rw [OkD_succ] at h
  simp only [Tryz.underlying47, OkFs, Ty.c3] at h
  obtain ⟨h1, h2, h3, h4, h5⟩ := h
  obtain ⟨t, h1, w1⟩ := ok_int h1
  obtain ⟨_, rfl, k1⟩ := take1 h1
  rw [k1] at h2 h3 h4 h5
  obtain ⟨r, h2, w2⟩ := ok_int h2
  obtain ⟨_, rfl, k2⟩ := take1 h2
  rw [k2] at h3 h4 h5
  obtain ⟨s, h3, w3⟩ := ok_int h3
  obtain ⟨_, rfl, k3⟩ := take1 h3
  rw [k3] at h4 h5
  obtain ⟨z, h4, w4⟩ := ok_int h4
  obtain ⟨_, rfl, k4⟩ := take1 h4
  rw [k4] at h5
  subst h5
  exact ⟨⟨t, r, s, z⟩, rfl, w1, w2, w3, w4⟩

theorem ok_Nd {d : Nat} {ds : List DV} (h : OkD Tryz.prog (d + 5) 49 ds) : ∃ n : Nd, argP Tryz.prog 49 ds = n.P ∧ n.wf := by
  rw [show d + 5 = (d + 4) + 1 from rfl] at h
  rw [OkD_succ] at h
  simp only [Tryz.underlying49, OkFs, Ty.c44, Ty.c45, Ty.c47] at h
  obtain ⟨h1, h2, h3, h4, h5⟩ := h
  obtain ⟨q, h1, w1⟩ := ok_Frs h1
  obtain ⟨_, rfl, k1⟩ := take1 h1
  rw [k1] at h2 h3 h4 h5
  obtain ⟨fs, h2, w2⟩ := ok_Fls (d := d + 1) h2
  obtain ⟨r2, rfl, k2⟩ := take1 h2
  rw [k2] at h3 h4 h5
  obtain ⟨c, h3, w3⟩ := ok_Cn (d := d + 2) h3
  have hr : r2 = [.int .i64 c.t, .int .i64 c.r, .int .i64 c.s, .int .i64 c.z] ++ r2.drop 4 := by rw [← h3]; exact (List.take_append_drop 4 r2).symm
  obtain ⟨g, h4, w4⟩ := ok_Frs h4
  obtain ⟨r3, hr3, k3⟩ := take1 h4
  rw [k3] at h5
  subst h5
  rw [hr3] at hr
  rw [hr]
  exact ⟨⟨q, fs, c, g⟩, by simp [argP], w1, w2, w3, w4⟩
theorem arg_Fr (f : Fr) : argP Tryz.prog 34 f.D = f.P := by simp [argP]
end Go.Proofs

