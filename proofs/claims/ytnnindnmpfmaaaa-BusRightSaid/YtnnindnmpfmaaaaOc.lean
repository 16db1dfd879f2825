/- The reference of the bus: which rank is less; does a number stand in a row; The reference of the bus: who wins, who sends along; The reference of the bus: who sends along, who hears, what hits; The reference of the bus: what hits. -/
import Derived.Test.YtnnindnmpfmaaaaOb
import Derived.Test.YtnnindnmpfmaaaaNk
import Derived.Test.YtnnindnmpfmaaaaNl
set_option linter.unusedVariables false
set_option linter.unusedSimpArgs false
set_option maxRecDepth 100000
set_option maxHeartbeats 8000000
namespace Go.Proofs
open Go.RowKit Go.Shelf Go.Pv

def lessL : List Int → List Int → Bool
  | x :: xs, y :: ys => if x = y then lessL xs ys else decide (x < y)
  | _, _ => false

theorem lessL_cons (x y : Int) (xs ys : List Int) : lessL (x :: xs) (y :: ys) = if x = y then lessL xs ys else decide (x < y) := rfl
theorem lessL_cmp : ∀ (a b : List Int), (a <+: b → b = a) → lessL a b = decide (cmpL a b < 0)
  | [], [], _ => rfl
  | [], y :: ys, h => by have := h List.nil_prefix; cases this
  | x :: xs, [], _ => by unfold lessL cmpL; simp
  | x :: xs, y :: ys, h => by
    unfold lessL cmpL
    by_cases hxy : x = y
    · subst hxy
      have ih := lessL_cmp xs ys (fun hp => by
        have := h ((List.cons_prefix_cons).2 ⟨rfl, hp⟩)
        exact (List.cons.inj this).2)
      simp [ih]
    · rw [if_neg hxy]
      by_cases hlt : x < y
      · simp [hlt, hxy]
      · have : x > y := by omega
        simp [hlt, hxy]
        try omega
theorem lessL_rank (f g : Fr) : lessL f.rank g.rank = decide (rankCmp f g < 0) := lessL_cmp _ _ (Fr.rank_pf f g)

theorem lessL_same {a b : List Int} {i : Nat} (h : eqTo a b i) (ha : i ≤ a.length) (hb : i ≤ b.length) : lessL a b = lessL (a.drop i) (b.drop i) := by
  induction i generalizing a b with
  | zero => simp
  | succ i ih =>
    cases a with
    | nil => simp at ha
    | cons x xs =>
      cases b with
      | nil => simp at hb
      | cons y ys =>
        have h0 := h 0 (by omega)
        simp at h0
        subst h0
        rw [lessL, if_pos rfl, List.drop_succ_cons, List.drop_succ_cons]
        exact ih (fun j hj => by have := h (j + 1) (by omega); simpa using this) (by simpa using ha) (by simpa using hb)

theorem l_less (m : Nat) (a b : List Int) (hal : a.length ≤ 1000000) (S : List PV) (hS : S.length = 36) (h0 : rd S 0 = .d (.slice (a.map intD))) (h1 : rd S 1 = .d (.slice (b.map intD))) (h5 : rd S 5 = .d (.int .i64 0)) (k : Nat) (hk : min a.length b.length < k) :
    Lp (loopN (evCode E1 (evI E1) m (theLoop Try.f12 0)) k ⟨S, []⟩) fun r => ∃ S' : List PV, S'.length = 36 ∧ ((r = (.exit 0, ⟨S', []⟩) ∧ lessL a b = false) ∨ (r = (.ret, ⟨S', []⟩) ∧ rd S' 4 = .d (.bool (lessL a b)))) := by
  refine loop_inv (fun i st => ∃ S : List PV, st = ⟨S, []⟩ ∧ S.length = 36 ∧ eqTo a b i ∧ rd S 0 = .d (.slice (a.map intD)) ∧ rd S 1 = .d (.slice (b.map intD)) ∧ rd S 5 = .d (.int .i64 i)) _ (min a.length b.length) ?_ ?_ k 0 _ (by omega) (by omega) ⟨S, rfl, hS, fun j hj => by omega, h0, h1, h5⟩
  · rintro i st hi ⟨S, rfl, hS, he, h0, h1, h5⟩
    have hia : i < a.length := by omega
    have hib : i < b.length := by omega
    have hls := lessL_same he (by omega) (by omega)
    rw [List.drop_eq_getElem_cons hia, List.drop_eq_getElem_cons hib, lessL_cons] at hls
    have hnx : a[i] = b[i] → eqTo a b (i + 1) := fun h j hj => by
      rcases Nat.lt_or_ge j i with h1 | h1
      · exact he j h1
      · obtain rfl : j = i := by omega
        rw [List.getElem?_eq_getElem hia, List.getElem?_eq_getElem hib, h]
    generalize hx : a[i] = x at hls hnx
    generalize hy : b[i] = y at hls hnx
    have hlt : (i : Int) < (a.length : Int) := by omega
    have hlt2 : (i : Int) < (b.length : Int) := by omega
    by_cases hxy : x = y
    · have he1 := hnx hxy
      subst hxy
      clear he hnx hls
      simp [theLoop, Try.f12, loopsAll, Lp_some, and_assoc, -rd, rd_set, hS, h0, h1, h5, hlt, hlt2, hia, hib, hx, hy, wrap_succ i (by omega)]
      exact he1
    · rw [if_neg hxy] at hls
      have hb : (x != y) = true := by simpa using hxy
      clear he hnx
      generalize lessL a b = z at hls ⊢
      subst hls
      simp [theLoop, Try.f12, loopsAll, Lp_some, and_assoc, -rd, rd_set, hS, h0, h1, h5, hlt, hlt2, hia, hib, hx, hy, hb, wrap_succ i (by omega)]
      exact ⟨_, by simp [hS], rfl, by simp [-rd, rd_set, hS]⟩
  · rintro st ⟨S, rfl, hS, he, h0, h1, h5⟩
    have hls := lessL_same he (by omega) (by omega)
    have hf : lessL a b = false := by
      rw [hls]
      rcases Nat.le_total a.length b.length with h | h
      · rw [Nat.min_eq_left h, List.drop_length]; rfl
      · rw [Nat.min_eq_right h, List.drop_length]; cases (a.drop b.length) <;> rfl
    clear he hls
    rw [hf]
    by_cases hm : b.length ≤ a.length
    · rw [Nat.min_eq_right hm] at h5
      by_cases hlt : (b.length : Int) < (a.length : Int)
      · simp [theLoop, Try.f12, loopsAll, Lp_some, and_assoc, -rd, rd_set, hS, h0, h1, h5, hlt]
        try exact ⟨_, by simp [hS], rfl⟩
      · simp [theLoop, Try.f12, loopsAll, Lp_some, and_assoc, -rd, rd_set, hS, h0, h1, h5, hlt]
        try exact ⟨_, by simp [hS], rfl⟩
    · rw [Nat.min_eq_left (by omega)] at h5
      simp [theLoop, Try.f12, loopsAll, Lp_some, and_assoc, -rd, rd_set, hS, h0, h1, h5]
      try exact ⟨_, by simp [hS], rfl⟩

theorem r_less (a b : List Int) (hal : a.length ≤ 1000000) (σ : Store) : callIt E1 (evI E1) 12 [.d (.slice (a.map intD)), .d (.slice (b.map intD))] σ = some (.d (.bool (lessL a b)), σ) := by
  refine call_run (fn := Try.f12) (a.length + 1) rfl rfl rfl Try.func12 rfl rfl ?_ rfl
  simp [Try.f12, ec_loop]
  generalize hLL : loopN _ _ _ = L
  obtain ⟨r, rfl, S, hS, h⟩ := at_loop hLL (l_less (a.length + 1) a b hal _ rfl rfl rfl rfl (a.length + 1) (by omega))
  rcases h with ⟨rfl, h⟩ | ⟨rfl, h4⟩
  · simp [-rd, rd_set, hS, h]
  · have h4' := rd_el h4 (by omega)
    simp [-rd, rd_set, hS, h4, h4']

end Go.Proofs

set_option linter.unusedVariables false
set_option linter.unusedSimpArgs false
set_option maxRecDepth 100000
set_option maxHeartbeats 8000000
namespace Go.Proofs
open Go.RowKit Go.Shelf Go.Pv

def winS (b : Option (Int × Fr)) (p : Int × Fr) : Option (Int × Fr) := match b with | none => some p | some q => if rankCmp p.2 q.2 < 0 then some p else some q
def winP (P : List (Int × Fr)) : Option (Int × Fr) := P.foldl winS none
def atP (o : Option (Int × Fr)) : Int := (o.map (·.1)).getD (-1)

theorem winS_plc : ∀ (Q P : List (Int × Fr)) (i b : Nat) (q : Int × Fr), P.drop i = Q → P[b]? = some q → Q.foldl winS (some q) = P[(plc (Q.map (·.2)) i b q.2).1]?
  | [], P, i, b, q, _, hb => by simp [plc, hb]
  | p :: Q, P, i, b, q, hd, hb => by
    have hi : P[i]? = some p := by
      have : (P.drop i)[0]? = some p := by rw [hd]; rfl
      simpa using this
    have hd' : P.drop (i + 1) = Q := by rw [← List.drop_drop, hd]; rfl
    rw [List.foldl_cons, List.map_cons, plc]
    by_cases h : rankCmp p.2 q.2 < 0
    · rw [show winS (some q) p = some p by unfold winS; simp [h], if_pos h]
      exact winS_plc Q P (i + 1) i p hd' hi
    · rw [show winS (some q) p = some q by unfold winS; simp [h], if_neg h]
      exact winS_plc Q P (i + 1) b q hd' hb
theorem winP_nil : winP [] = none := rfl
theorem winP_eq {P : List (Int × Fr)} (h : P ≠ []) : winP P = P[nxt (P.map (·.2))]? := by
  cases P with
  | nil => exact absurd rfl h
  | cons p Q =>
    have h1 := winS_plc Q (p :: Q) 1 0 p rfl rfl
    have h2 := (nxt_spec p.2 (Q.map (·.2))).1
    rw [List.map_cons, h2, ← h1]
    rfl

/-- Who sends along, said of one node. -/
theorem sends_eq {l : List Nd} (who : List Int) {i : Nat} {n : Nd} (hi : l[i]? = some n) : (lineOf l who).sends i = (n.Next.2 && decide (n.Next.1.rank = (lineOf l who).f.rank)) := by
  have hal : (lineOf l who).al = alongL (sndL l) (lineOf l who).f := rfl
  unfold Ln.sends
  rw [hal]
  generalize (lineOf l who).f = f
  rw [Bool.eq_iff_iff]
  simp only [List.contains_iff_mem, Bool.and_eq_true, decide_eq_true_eq]
  constructor
  · intro h
    obtain ⟨p, hp, h2⟩ := List.mem_filterMap.1 h
    obtain ⟨k, m, hk, hm, rfl⟩ := sndL_mem hp
    by_cases hr : m.Next.1.rank = f.rank
    · simp only [hr, if_true, Option.some.injEq] at h2
      have : k = i := by omega
      subst this
      rw [hi] at hk
      obtain rfl := Option.some.inj hk
      exact ⟨hm, hr⟩
    · simp only [hr, if_false] at h2
      exact absurd h2 (by simp)
  · rintro ⟨h1, h2⟩
    refine List.mem_filterMap.2 ⟨((i : Int), n.Next.1), ?_, by simp [h2]⟩
    simp only [sndL, List.mem_filterMap]
    exact ⟨(n, i), List.mem_zipIdx_iff_getElem?.2 hi, by simp [h1]⟩

end Go.Proofs

set_option linter.unusedVariables false
set_option linter.unusedSimpArgs false
set_option maxRecDepth 100000
set_option maxHeartbeats 8000000
namespace Go.Proofs
open Go.RowKit Go.Shelf Go.Pv

theorem winP_line {l : List Nd} (who : List Int) (hs : sndL l ≠ []) : winP (sndL l) = some ((lineOf l who).w, (lineOf l who).f) ∧ ((lineOf l who).w, (lineOf l who).f) ∈ sndL l := by
  have hm : (sndL l).map (·.2) ≠ [] := by simpa using hs
  have hk := nxt_lt hm
  rw [List.length_map] at hk
  have he : (sndL l).getD (nxt ((sndL l).map (·.2))) (0, fr0) = (sndL l)[nxt ((sndL l).map (·.2))] := by simp [List.getD, List.getElem?_eq_getElem hk]
  have h1 : ((lineOf l who).w, (lineOf l who).f) = (sndL l)[nxt ((sndL l).map (·.2))] := by
    unfold lineOf
    simp only [he]
  rw [h1]
  exact ⟨by rw [winP_eq hs, List.getElem?_eq_getElem hk], List.getElem_mem hk⟩

theorem sends_none {l : List Nd} (who : List Int) (hs : sndL l = []) (i : Nat) : (lineOf l who).sends i = false := by
  have : (lineOf l who).al = [] := by
    unfold lineOf
    simp only [hs]
    rfl
  simp [Ln.sends, this]

theorem rank_eq_less (f g : Fr) : decide (g.rank = f.rank) = (!lessL f.rank g.rank && !lessL g.rank f.rank) := by
  rw [lessL_rank, lessL_rank, rankCmp_anti f g]
  rw [Bool.eq_iff_iff]
  simp only [decide_eq_true_eq, Bool.and_eq_true, Bool.not_eq_true', decide_eq_false_iff_not]
  constructor
  · intro h
    have : rankCmp f g = 0 := by unfold rankCmp; rw [h]; exact cmpL_self _
    omega
  · intro h
    have : rankCmp f g = 0 := by omega
    exact (cmpL_zero _ _ this).symm

theorem any_range_succ (p : Nat → Bool) (i : Nat) : (List.range (i + 1)).any p = ((List.range i).any p || p i) := by simp [List.range_succ]

end Go.Proofs

set_option linter.unusedVariables false
set_option linter.unusedSimpArgs false
set_option maxRecDepth 100000
set_option maxHeartbeats 8000000
namespace Go.Proofs
open Go.RowKit Go.Shelf Go.Pv

end Go.Proofs

