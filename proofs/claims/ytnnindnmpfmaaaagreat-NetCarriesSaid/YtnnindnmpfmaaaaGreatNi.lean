/- The seat of nodes: the law's own question whether a node is great; the references' questions whether one is right; The seat of nodes: the reference's question whether one of many filters takes a frame. -/
import Derived.Test.YtnnindnmpfmaaaaGreatNh
import Derived.Test.YtnnindnmpfmaaaaGreatNg
set_option linter.unusedVariables false
set_option linter.unusedSimpArgs false
set_option maxRecDepth 100000
set_option maxHeartbeats 4000000
namespace Go.Pv
open Go
/-- The loops of a text, in order. -/
def loopsOf : Code → List Code
  | .seq a b => loopsOf a ++ loopsOf b
  | .block _ b => loopsOf b
  | .loop b => b :: loopsOf b
  | .cond _ a b => loopsOf a ++ loopsOf b
  | _ => []
end Go.Pv
namespace Go.Proofs
open Go.RowKit Go.Shelf Go.Pv


theorem conv_u8 (x : Int) : evConvert Tryz.prog 5 3 (.d (.int .u8 x)) = some (.d (.int .i64 (IntKind.i64.wrap x))) := by kernel_rfl
theorem arg_u8 (x : Int) : argP Tryz.prog 5 (byD x) = .d (.int .u8 x) := by simp [argP, Tryz.underlying5]
theorem arg_bool (x : Bool) : argP Tryz.prog 4 [.bool x] = .d (.bool x) := by simp [argP, Tryz.underlying4]

theorem Fr.rright_eq (f : Fr) : f.rright = f.right := by
  rw [Bool.eq_iff_iff, f.right_iff]
  unfold Fr.rright
  obtain ⟨e, id, rm, ln, data⟩ := f
  have hd : data = [] ↔ data.length = 0 := by simp
  cases e <;> cases rm <;> simp <;> (try rw [hd]) <;> omega

theorem r_right (f : Fr) (σ : Store) : callIt E1 (evI E1) 50 [f.P] σ = some (.d (.bool f.right), σ) := by
  rw [← f.rright_eq]; exact r_right0 f σ

theorem any_drop {α : Type} {p : α → Bool} {l : List α} {i : Nat} (hi : i < l.length) : (l.drop i).any p = (p l[i] || (l.drop (i + 1)).any p) := by
  rw [List.drop_eq_getElem_cons hi]; rfl

def Nd.great (n : Nd) : Bool := decide ((n.q.length : Int) > 100) || decide ((n.g.length : Int) > 200) || decide ((n.fs.length : Int) > 100) || n.q.any (·.great) || n.g.any (·.great)


theorem l_gr1 (m : Nat) (n : Nd) (hn : n.q.length ≤ 1000000) (B : Code) (hB : Tryz.f108.body.bind (fun c => (loopsOf c)[0]?) = some B) :
    ∀ (k i : Nat) (x4 x5 x6 x7 x8 x9 x10 x11 x12 x13 x14 x15 x16 x17 x18 x19 x20 x21 x22 x23 x24 x25 x26 x27 x28 x29 x30 x31 x32 x33 x34 x35 x36 x37 x38 x39 x40 x41 x42 x43 x44 x45 x46 : PV), i ≤ n.q.length → n.q.length < i + k →
      Lp (loopN (evCode E1 (evI E1) m B) k ⟨[n.P, .ptr 0 0, .d (.bool false), .d (.int .i64 i), x4, x5, x6, x7, x8, x9, x10, x11, x12, x13, x14, x15, x16, x17, x18, x19, x20, x21, x22, x23, x24, x25, x26, x27, x28, x29, x30, x31, x32, x33, x34, x35, x36, x37, x38, x39, x40, x41, x42, x43, x44, x45, x46], [cellsOf n.P]⟩) fun r => ∃ e z y3 y21 y22 y23 y24 y25 y26 y27 y28 y29 y30 y31 y32 y33, r = (e, ⟨[n.P, .ptr 0 0, .d (.bool z), y3, x4, x5, x6, x7, x8, x9, x10, x11, x12, x13, x14, x15, x16, x17, x18, x19, x20, y21, y22, y23, y24, y25, y26, y27, y28, y29, y30, y31, y32, y33, x34, x35, x36, x37, x38, x39, x40, x41, x42, x43, x44, x45, x46], [cellsOf n.P]⟩) ∧
        ((e = .ret ∧ z = true ∧ (n.q.drop i).any (·.great) = true) ∨ (e = .exit 0 ∧ z = false ∧ (n.q.drop i).any (·.great) = false)) := by
  simp [Tryz.f108, loopsOf] at hB
  subst hB
  intro k
  induction k with
  | zero => intros; omega
  | succ k ih =>
    intro i x4 x5 x6 x7 x8 x9 x10 x11 x12 x13 x14 x15 x16 x17 x18 x19 x20 x21 x22 x23 x24 x25 x26 x27 x28 x29 x30 x31 x32 x33 x34 x35 x36 x37 x38 x39 x40 x41 x42 x43 x44 x45 x46 h1 h2
    rw [loopN_succ]
    by_cases hi : i < n.q.length
    · have hx : n.q[i]? = some n.q[i] := List.getElem?_eq_getElem hi
      rw [any_drop hi]
      generalize n.q[i] = x at hx
      have hlt : (i : Int) < (n.q.length : Int) := by omega
      have hw' : IntKind.i64.wrap ((i : Int) + 1) = ((i + 1 : Nat) : Int) := by rw [wrap_ok (by omega) (by omega)]; omega
      have hg := r_great x
      have hk := fun z4 z5 z6 z7 z8 z9 z10 z11 z12 z13 z14 z15 z16 z17 z18 z19 z20 z21 z22 z23 z24 z25 z26 z27 z28 z29 z30 z31 z32 z33 z34 z35 z36 z37 z38 z39 z40 z41 z42 z43 z44 z45 z46 => ih (i + 1) z4 z5 z6 z7 z8 z9 z10 z11 z12 z13 z14 z15 z16 z17 z18 z19 z20 z21 z22 z23 z24 z25 z26 z27 z28 z29 z30 z31 z32 z33 z34 z35 z36 z37 z38 z39 z40 z41 z42 z43 z44 z45 z46 (by omega) (by omega)
      simp [cellsOf] at hk hg
      cases hb : x.great
      · rw [hb] at hg
        simp [hx, hlt, hw', hg, cellsOf, loadS]
        exact hk _ _ _ _ _ _ _ _ _ _ _ _ _ _ _ _ _ _ _ _ _ _ _ _ _ _ _ _ _ _ _ _ _ _ _ _ _ _ _ _ _ _ _
      · rw [hb] at hg
        simp [hx, hlt, hw', hg, cellsOf, loadS, Lp_some, and_assoc]
    · have hlt : ¬ (i : Int) < (n.q.length : Int) := by omega
      have : n.q.drop i = [] := List.drop_eq_nil_of_le (by omega)
      simp [hlt, this, cellsOf, loadS, Lp_some, and_assoc]

theorem l_gr2 (m : Nat) (n : Nd) (hn : n.g.length ≤ 1000000) (B : Code) (hB : Tryz.f108.body.bind (fun c => (loopsOf c)[1]?) = some B) :
    ∀ (k i : Nat) (x3 x5 x6 x7 x8 x9 x10 x11 x12 x13 x14 x15 x16 x17 x18 x19 x20 x21 x22 x23 x24 x25 x26 x27 x28 x29 x30 x31 x32 x33 x34 x35 x36 x37 x38 x39 x40 x41 x42 x43 x44 x45 x46 : PV), i ≤ n.g.length → n.g.length < i + k →
      Lp (loopN (evCode E1 (evI E1) m B) k ⟨[n.P, .ptr 0 0, .d (.bool false), x3, .d (.int .i64 i), x5, x6, x7, x8, x9, x10, x11, x12, x13, x14, x15, x16, x17, x18, x19, x20, x21, x22, x23, x24, x25, x26, x27, x28, x29, x30, x31, x32, x33, x34, x35, x36, x37, x38, x39, x40, x41, x42, x43, x44, x45, x46], [cellsOf n.P]⟩) fun r => ∃ e z y4 y34 y35 y36 y37 y38 y39 y40 y41 y42 y43 y44 y45 y46, r = (e, ⟨[n.P, .ptr 0 0, .d (.bool z), x3, y4, x5, x6, x7, x8, x9, x10, x11, x12, x13, x14, x15, x16, x17, x18, x19, x20, x21, x22, x23, x24, x25, x26, x27, x28, x29, x30, x31, x32, x33, y34, y35, y36, y37, y38, y39, y40, y41, y42, y43, y44, y45, y46], [cellsOf n.P]⟩) ∧
        ((e = .ret ∧ z = true ∧ (n.g.drop i).any (·.great) = true) ∨ (e = .exit 2 ∧ z = false ∧ (n.g.drop i).any (·.great) = false)) := by
  simp [Tryz.f108, loopsOf] at hB
  subst hB
  intro k
  induction k with
  | zero => intros; omega
  | succ k ih =>
    intro i x3 x5 x6 x7 x8 x9 x10 x11 x12 x13 x14 x15 x16 x17 x18 x19 x20 x21 x22 x23 x24 x25 x26 x27 x28 x29 x30 x31 x32 x33 x34 x35 x36 x37 x38 x39 x40 x41 x42 x43 x44 x45 x46 h1 h2
    rw [loopN_succ]
    by_cases hi : i < n.g.length
    · have hx : n.g[i]? = some n.g[i] := List.getElem?_eq_getElem hi
      rw [any_drop hi]
      generalize n.g[i] = x at hx
      have hlt : (i : Int) < (n.g.length : Int) := by omega
      have hw' : IntKind.i64.wrap ((i : Int) + 1) = ((i + 1 : Nat) : Int) := by rw [wrap_ok (by omega) (by omega)]; omega
      have hg := r_great x
      have hk := fun z3 z5 z6 z7 z8 z9 z10 z11 z12 z13 z14 z15 z16 z17 z18 z19 z20 z21 z22 z23 z24 z25 z26 z27 z28 z29 z30 z31 z32 z33 z34 z35 z36 z37 z38 z39 z40 z41 z42 z43 z44 z45 z46 => ih (i + 1) z3 z5 z6 z7 z8 z9 z10 z11 z12 z13 z14 z15 z16 z17 z18 z19 z20 z21 z22 z23 z24 z25 z26 z27 z28 z29 z30 z31 z32 z33 z34 z35 z36 z37 z38 z39 z40 z41 z42 z43 z44 z45 z46 (by omega) (by omega)
      simp [cellsOf] at hk hg
      cases hb : x.great
      · rw [hb] at hg
        simp [hx, hlt, hw', hg, cellsOf, loadS]
        exact hk _ _ _ _ _ _ _ _ _ _ _ _ _ _ _ _ _ _ _ _ _ _ _ _ _ _ _ _ _ _ _ _ _ _ _ _ _ _ _ _ _ _ _
      · rw [hb] at hg
        simp [hx, hlt, hw', hg, cellsOf, loadS, Lp_some, and_assoc]
    · have hlt : ¬ (i : Int) < (n.g.length : Int) := by omega
      have : n.g.drop i = [] := List.drop_eq_nil_of_le (by omega)
      simp [hlt, this, cellsOf, loadS, Lp_some, and_assoc]

theorem b_great (n : Nd) (σ : Store) : callIt E1 (evI E1) 108 [n.P] σ = some (.d (.bool n.great), σ) := by
  unfold Nd.great
  by_cases c1 : (n.q.length : Int) > 100
  · refine call_run (fn := Tryz.f108) 5 rfl rfl rfl Tryz.func108 rfl rfl ?_ rfl
    simp [Tryz.f108, c1]
  by_cases c2 : (n.g.length : Int) > 200
  · refine call_run (fn := Tryz.f108) 5 rfl rfl rfl Tryz.func108 rfl rfl ?_ rfl
    simp [Tryz.f108, c1, c2]
  by_cases c3 : (n.fs.length : Int) > 100
  · refine call_run (fn := Tryz.f108) 5 rfl rfl rfl Tryz.func108 rfl rfl ?_ rfl
    simp [Tryz.f108, c1, c2, c3]
  refine call_run (fn := Tryz.f108) 1000 rfl rfl rfl Tryz.func108 rfl rfl ?_ rfl
  simp [Tryz.f108, ec_loop, c1, c2, c3]
  generalize hL : loopN _ _ _ = L
  obtain ⟨r, rfl, e, z, y3, y21, y22, y23, y24, y25, y26, y27, y28, y29, y30, y31, y32, y33, rfl, h⟩ := at_loop hL (l_gr1 1000 n (by omega) _ rfl 1000 0 _ _ _ _ _ _ _ _ _ _ _ _ _ _ _ _ _ _ _ _ _ _ _ _ _ _ _ _ _ _ _ _ _ _ _ _ _ _ _ _ _ _ _ (by omega) (by omega))
  rcases h with ⟨rfl, rfl, h⟩ | ⟨rfl, rfl, h⟩
  · simp at h
    simp [h]
  · simp at h
    simp [ec_loop]
    generalize hL2 : loopN _ _ _ = L2
    obtain ⟨r, rfl, e, z, y4, y34, y35, y36, y37, y38, y39, y40, y41, y42, y43, y44, y45, y46, rfl, h2⟩ := at_loop hL2 (l_gr2 1000 n (by omega) _ rfl 1000 0 _ _ _ _ _ _ _ _ _ _ _ _ _ _ _ _ _ _ _ _ _ _ _ _ _ _ _ _ _ _ _ _ _ _ _ _ _ _ _ _ _ _ _ (by omega) (by omega))
    rcases h2 with ⟨rfl, rfl, h2⟩ | ⟨rfl, rfl, h2⟩
    · simp at h2
      simp [h, h2]
    · simp at h2
      simp
      exact ⟨h, h2⟩
end Go.Proofs

set_option linter.unusedVariables false
set_option linter.unusedSimpArgs false
set_option maxRecDepth 100000
set_option maxHeartbeats 4000000
namespace Go.Proofs
open Go.RowKit Go.Shelf Go.Pv


theorem l_rany (m : Nat) (l : List Fl) (x : Fr) (hl : l.length ≤ 1000000) (B : Code) (hB : Tryz.f29.body.bind (fun c => (loopsOf c)[0]?) = some B) :
    ∀ (k i : Nat) (x6 x7 x8 x9 x10 x11 x12 x13 x14 x15 x16 x17 x18 x19 x20 : PV), i ≤ l.length → l.length < i + k →
      Lp (loopN (evCode E1 (evI E1) m B) k ⟨[.d (.slice (l.map Fl.D)), x.P, .undef, .ptr 0 0, .d (.bool false), .d (.int .i64 i), x6, x7, x8, x9, x10, x11, x12, x13, x14, x15, x16, x17, x18, x19, x20], [cellsOf x.P]⟩) fun r => ∃ e z y5 y6 y7 y8 y9 y10 y11 y12 y13 y14 y15 y16 y17, r = (e, ⟨[.d (.slice (l.map Fl.D)), x.P, .undef, .ptr 0 0, .d (.bool z), y5, y6, y7, y8, y9, y10, y11, y12, y13, y14, y15, y16, y17, x18, x19, x20], [cellsOf x.P]⟩) ∧
        ((e = .ret ∧ z = true ∧ (l.drop i).any (·.takes x) = true) ∨ (e = .exit 0 ∧ z = false ∧ (l.drop i).any (·.takes x) = false)) := by
  simp [Tryz.f29, loopsOf] at hB
  subst hB
  intro k
  induction k with
  | zero => intros; omega
  | succ k ih =>
    intro i x6 x7 x8 x9 x10 x11 x12 x13 x14 x15 x16 x17 x18 x19 x20 h1 h2
    rw [loopN_succ]
    by_cases hi : i < l.length
    · have hx : l[i]? = some l[i] := List.getElem?_eq_getElem hi
      rw [any_drop hi]
      generalize l[i] = f at hx
      have hlt : (i : Int) < (l.length : Int) := by omega
      have hw' : IntKind.i64.wrap ((i : Int) + 1) = ((i + 1 : Nat) : Int) := by rw [wrap_ok (by omega) (by omega)]; omega
      have hg := r_takes f x
      have hk := fun z6 z7 z8 z9 z10 z11 z12 z13 z14 z15 z16 z17 z18 z19 z20 => ih (i + 1) z6 z7 z8 z9 z10 z11 z12 z13 z14 z15 z16 z17 z18 z19 z20 (by omega) (by omega)
      simp [cellsOf] at hk hg
      cases hb : f.takes x
      · rw [hb] at hg
        simp [hx, hlt, hw', hg, cellsOf, loadS]
        exact hk _ _ _ _ _ _ _ _ _ _ _ _ _ _ _
      · rw [hb] at hg
        simp [hx, hlt, hw', hg, cellsOf, loadS, Lp_some, and_assoc]
    · have hlt : ¬ (i : Int) < (l.length : Int) := by omega
      have : l.drop i = [] := List.drop_eq_nil_of_le (by omega)
      simp [hlt, this, cellsOf, loadS, Lp_some, and_assoc]

theorem r_any (l : List Fl) (x : Fr) (hl : l.length ≤ 1000000) (σ : Store) : callIt E1 (evI E1) 29 [.d (.slice (l.map Fl.D)), x.P] σ = some (.d (.bool (anyF l x)), σ) := by
  refine call_run (fn := Tryz.f29) (l.length + 1) rfl rfl rfl Tryz.func29 rfl rfl ?_ rfl
  simp [Tryz.f29, ec_loop]
  generalize hL : loopN _ _ _ = L
  obtain ⟨r, rfl, e, z, y5, y6, y7, y8, y9, y10, y11, y12, y13, y14, y15, y16, y17, rfl, h⟩ := at_loop hL (l_rany (l.length + 1) l x hl _ rfl (l.length + 1) 0 _ _ _ _ _ _ _ _ _ _ _ _ _ _ _ (by omega) (by omega))
  rw [List.drop_zero] at h
  unfold anyF
  rcases h with ⟨rfl, rfl, h⟩ | ⟨rfl, rfl, h⟩
  · rw [h]; simp
  · rw [h]
    cases l with
    | nil => simp
    | cons f l =>
      have : ((l.length : Int) + 1 == 0) = false := by rw [beq_eq_false_iff_ne]; omega
      simp [this]
end Go.Proofs

