/- The reference of the bus: which rank is less; does a number stand in a row; The reference of the bus: who wins, who sends along; The reference of the bus: who sends along, who hears, what hits; The reference of the bus: what hits. -/
import Derived.Test.YtnnindnmpfmaaaaGreatOb
import Derived.Test.YtnnindnmpfmaaaaGreatNk
import Derived.Test.YtnnindnmpfmaaaaGreatNl
set_option linter.unusedVariables false
set_option linter.unusedSimpArgs false
set_option maxRecDepth 100000
set_option maxHeartbeats 8000000
namespace Go.Proofs
open Go.RowKit Go.Shelf Go.Pv

def lessL : List Int → List Int → Bool
  | x :: xs, y :: ys => if x = y then lessL xs ys else decide (x < y)
  | _, _ => false

theorem lessL_cons (x y : Int) (xs ys : List Int) : lessL (x :: xs) (y :: ys) = if x = y then lessL xs ys else decide (x < y) := rfl
theorem lessL_cmp : ∀ (a b : List Int), (a <+: b → b = a) → lessL a b = decide (cmpL a b < 0)
  | [], [], _ => rfl
  | [], y :: ys, h => by have := h List.nil_prefix; cases this
  | x :: xs, [], _ => by unfold lessL cmpL; simp
  | x :: xs, y :: ys, h => by
    unfold lessL cmpL
    by_cases hxy : x = y
    · subst hxy
      have ih := lessL_cmp xs ys (fun hp => by
        have := h ((List.cons_prefix_cons).2 ⟨rfl, hp⟩)
        exact (List.cons.inj this).2)
      simp [ih]
    · rw [if_neg hxy]
      by_cases hlt : x < y
      · simp [hlt, hxy]
      · have : x > y := by omega
        simp [hlt, hxy]
        try omega
theorem lessL_rank (f g : Fr) : lessL f.rank g.rank = decide (rankCmp f g < 0) := lessL_cmp _ _ (Fr.rank_pf f g)

theorem lessL_same {a b : List Int} {i : Nat} (h : eqTo a b i) (ha : i ≤ a.length) (hb : i ≤ b.length) : lessL a b = lessL (a.drop i) (b.drop i) := by
  induction i generalizing a b with
  | zero => simp
  | succ i ih =>
    cases a with
    | nil => simp at ha
    | cons x xs =>
      cases b with
      | nil => simp at hb
      | cons y ys =>
        have h0 := h 0 (by omega)
        simp at h0
        subst h0
        rw [lessL, if_pos rfl, List.drop_succ_cons, List.drop_succ_cons]
        exact ih (fun j hj => by have := h (j + 1) (by omega); simpa using this) (by simpa using ha) (by simpa using hb)

theorem l_less (m : Nat) (a b : List Int) (hal : a.length ≤ 1000000) (S : List PV) (hS : S.length = 36) (h0 : rd S 0 = .d (.slice (a.map intD))) (h1 : rd S 1 = .d (.slice (b.map intD))) (h5 : rd S 5 = .d (.int .i64 0)) (k : Nat) (hk : min a.length b.length < k) :
    Lp (loopN (evCode E1 (evI E1) m (theLoop Tryz.f84 0)) k ⟨S, []⟩) fun r => ∃ S' : List PV, S'.length = 36 ∧ ((r = (.exit 0, ⟨S', []⟩) ∧ lessL a b = false) ∨ (r = (.ret, ⟨S', []⟩) ∧ rd S' 4 = .d (.bool (lessL a b)))) := by
  refine loop_inv (fun i st => ∃ S : List PV, st = ⟨S, []⟩ ∧ S.length = 36 ∧ eqTo a b i ∧ rd S 0 = .d (.slice (a.map intD)) ∧ rd S 1 = .d (.slice (b.map intD)) ∧ rd S 5 = .d (.int .i64 i)) _ (min a.length b.length) ?_ ?_ k 0 _ (by omega) (by omega) ⟨S, rfl, hS, fun j hj => by omega, h0, h1, h5⟩
  · rintro i st hi ⟨S, rfl, hS, he, h0, h1, h5⟩
    have hia : i < a.length := by omega
    have hib : i < b.length := by omega
    have hls := lessL_same he (by omega) (by omega)
    rw [List.drop_eq_getElem_cons hia, List.drop_eq_getElem_cons hib, lessL_cons] at hls
    have hnx : a[i] = b[i] → eqTo a b (i + 1) := fun h j hj => by
      rcases Nat.lt_or_ge j i with h1 | h1
      · exact he j h1
      · obtain rfl : j = i := by omega
        rw [List.getElem?_eq_getElem hia, List.getElem?_eq_getElem hib, h]
    generalize hx : a[i] = x at hls hnx
    generalize hy : b[i] = y at hls hnx
    have hlt : (i : Int) < (a.length : Int) := by omega
    have hlt2 : (i : Int) < (b.length : Int) := by omega
    by_cases hxy : x = y
    · have he1 := hnx hxy
      subst hxy
      clear he hnx hls
      simp [theLoop, Tryz.f84, loopsAll, Lp_some, and_assoc, -rd, rd_set, hS, h0, h1, h5, hlt, hlt2, hia, hib, hx, hy, wrap_succ i (by omega)]
      exact he1
    · rw [if_neg hxy] at hls
      have hb : (x != y) = true := by simpa using hxy
      clear he hnx
      generalize lessL a b = z at hls ⊢
      subst hls
      simp [theLoop, Tryz.f84, loopsAll, Lp_some, and_assoc, -rd, rd_set, hS, h0, h1, h5, hlt, hlt2, hia, hib, hx, hy, hb, wrap_succ i (by omega)]
      exact ⟨_, by simp [hS], rfl, by simp [-rd, rd_set, hS]⟩
  · rintro st ⟨S, rfl, hS, he, h0, h1, h5⟩
    have hls := lessL_same he (by omega) (by omega)
    have hf : lessL a b = false := by
      rw [hls]
      rcases Nat.le_total a.length b.length with h | h
      · rw [Nat.min_eq_left h, List.drop_length]; rfl
      · rw [Nat.min_eq_right h, List.drop_length]; cases (a.drop b.length) <;> rfl
    clear he hls
    rw [hf]
    by_cases hm : b.length ≤ a.length
    · rw [Nat.min_eq_right hm] at h5
      by_cases hlt : (b.length : Int) < (a.length : Int)
      · simp [theLoop, Tryz.f84, loopsAll, Lp_some, and_assoc, -rd, rd_set, hS, h0, h1, h5, hlt]
        try exact ⟨_, by simp [hS], rfl⟩
      · simp [theLoop, Tryz.f84, loopsAll, Lp_some, and_assoc, -rd, rd_set, hS, h0, h1, h5, hlt]
        try exact ⟨_, by simp [hS], rfl⟩
    · rw [Nat.min_eq_left (by omega)] at h5
      simp [theLoop, Tryz.f84, loopsAll, Lp_some, and_assoc, -rd, rd_set, hS, h0, h1, h5]
      try exact ⟨_, by simp [hS], rfl⟩

theorem r_less (a b : List Int) (hal : a.length ≤ 1000000) (σ : Store) : callIt E1 (evI E1) 84 [.d (.slice (a.map intD)), .d (.slice (b.map intD))] σ = some (.d (.bool (lessL a b)), σ) := by
  refine call_run (fn := Tryz.f84) (a.length + 1) rfl rfl rfl Tryz.func84 rfl rfl ?_ rfl
  simp [Tryz.f84, ec_loop]
  generalize hLL : loopN _ _ _ = L
  obtain ⟨r, rfl, S, hS, h⟩ := at_loop hLL (l_less (a.length + 1) a b hal _ rfl rfl rfl rfl (a.length + 1) (by omega))
  rcases h with ⟨rfl, h⟩ | ⟨rfl, h4⟩
  · simp [-rd, rd_set, hS, h]
  · have h4' := rd_el h4 (by omega)
    simp [-rd, rd_set, hS, h4, h4']

theorem l_in (m : Nat) (a : List Int) (v : Int) (hl : a.length ≤ 1000000) (S : List PV) (hS : S.length = 18) (h0 : rd S 0 = .d (.slice (a.map intD))) (h1 : rd S 1 = .d (.int .i64 v)) (h5 : rd S 5 = .d (.int .i64 0)) (k : Nat) (hk : a.length < k) :
    Lp (loopN (evCode E1 (evI E1) m (theLoop Tryz.f28 0)) k ⟨S, []⟩) fun r => ∃ S' : List PV, S'.length = 18 ∧ ((r = (.exit 0, ⟨S', []⟩) ∧ v ∉ a) ∨ (r = (.ret, ⟨S', []⟩) ∧ rd S' 4 = .d (.bool true) ∧ v ∈ a)) := by
  refine loop_inv (fun i st => ∃ S : List PV, st = ⟨S, []⟩ ∧ S.length = 18 ∧ v ∉ a.take i ∧ rd S 0 = .d (.slice (a.map intD)) ∧ rd S 1 = .d (.int .i64 v) ∧ rd S 5 = .d (.int .i64 i)) _ a.length ?_ ?_ k 0 _ (by omega) (by omega) ⟨S, rfl, hS, by simp, h0, h1, h5⟩
  · rintro i st hi ⟨S, rfl, hS, he, h0, h1, h5⟩
    have hm : a[i] ∈ a := List.getElem_mem hi
    have htk : a.take (i + 1) = a.take i ++ [a[i]] := by rw [List.take_add_one, List.getElem?_eq_getElem hi]; rfl
    generalize hx : a[i] = x at hm htk
    have hlt : (i : Int) < (a.length : Int) := by omega
    by_cases hxy : x = v
    · subst hxy
      clear he htk
      simp [theLoop, Tryz.f28, loopsAll, Lp_some, and_assoc, -rd, rd_set, hS, h0, h1, h5, hlt, hi, hx, wrap_succ i (by omega)]
      exact ⟨_, by simp [hS], rfl, by simp [-rd, rd_set, hS], hm⟩
    · have hn : v ∉ a.take (i + 1) := by rw [htk]; simp [he]; exact fun h => hxy h.symm
      have hb : (x == v) = false := by simpa using hxy
      clear he htk
      simp [theLoop, Tryz.f28, loopsAll, Lp_some, and_assoc, -rd, rd_set, hS, h0, h1, h5, hlt, hi, hx, hb, wrap_succ i (by omega)]
      exact hn
  · rintro st ⟨S, rfl, hS, he, h0, h1, h5⟩
    rw [List.take_length] at he
    simp [theLoop, Tryz.f28, loopsAll, Lp_some, and_assoc, -rd, rd_set, hS, h0, h1, h5]
    exact ⟨_, by simp [hS], rfl, he⟩

theorem r_in (a : List Int) (v : Int) (hl : a.length ≤ 1000000) (σ : Store) : callIt E1 (evI E1) 28 [.d (.slice (a.map intD)), .d (.int .i64 v)] σ = some (.d (.bool (a.contains v)), σ) := by
  refine call_run (fn := Tryz.f28) (a.length + 1) rfl rfl rfl Tryz.func28 rfl rfl ?_ rfl
  simp [Tryz.f28, ec_loop]
  generalize hLL : loopN _ _ _ = L
  obtain ⟨r, rfl, S, hS, h⟩ := at_loop hLL (l_in (a.length + 1) a v hl _ rfl rfl rfl rfl (a.length + 1) (by omega))
  rcases h with ⟨rfl, h⟩ | ⟨rfl, h4, h⟩
  · simp [-rd, rd_set, hS, h]
  · have h4' := rd_el h4 (by omega)
    simp [-rd, rd_set, hS, h4, h, h4']
end Go.Proofs

set_option linter.unusedVariables false
set_option linter.unusedSimpArgs false
set_option maxRecDepth 100000
set_option maxHeartbeats 8000000
namespace Go.Proofs
open Go.RowKit Go.Shelf Go.Pv

def winS (b : Option (Int × Fr)) (p : Int × Fr) : Option (Int × Fr) := match b with | none => some p | some q => if rankCmp p.2 q.2 < 0 then some p else some q
def winP (P : List (Int × Fr)) : Option (Int × Fr) := P.foldl winS none
def atP (o : Option (Int × Fr)) : Int := (o.map (·.1)).getD (-1)

theorem winS_plc : ∀ (Q P : List (Int × Fr)) (i b : Nat) (q : Int × Fr), P.drop i = Q → P[b]? = some q → Q.foldl winS (some q) = P[(plc (Q.map (·.2)) i b q.2).1]?
  | [], P, i, b, q, _, hb => by simp [plc, hb]
  | p :: Q, P, i, b, q, hd, hb => by
    have hi : P[i]? = some p := by
      have : (P.drop i)[0]? = some p := by rw [hd]; rfl
      simpa using this
    have hd' : P.drop (i + 1) = Q := by rw [← List.drop_drop, hd]; rfl
    rw [List.foldl_cons, List.map_cons, plc]
    by_cases h : rankCmp p.2 q.2 < 0
    · rw [show winS (some q) p = some p by unfold winS; simp [h], if_pos h]
      exact winS_plc Q P (i + 1) i p hd' hi
    · rw [show winS (some q) p = some q by unfold winS; simp [h], if_neg h]
      exact winS_plc Q P (i + 1) b q hd' hb
theorem winP_nil : winP [] = none := rfl
theorem winP_eq {P : List (Int × Fr)} (h : P ≠ []) : winP P = P[nxt (P.map (·.2))]? := by
  cases P with
  | nil => exact absurd rfl h
  | cons p Q =>
    have h1 := winS_plc Q (p :: Q) 1 0 p rfl rfl
    have h2 := (nxt_spec p.2 (Q.map (·.2))).1
    rw [List.map_cons, h2, ← h1]
    rfl

/-- Who sends along, said of one node. -/
theorem sends_eq {l : List Nd} (who : List Int) {i : Nat} {n : Nd} (hi : l[i]? = some n) : (lineOf l who).sends i = (n.Next.2 && decide (n.Next.1.rank = (lineOf l who).f.rank)) := by
  have hal : (lineOf l who).al = alongL (sndL l) (lineOf l who).f := rfl
  unfold Ln.sends
  rw [hal]
  generalize (lineOf l who).f = f
  rw [Bool.eq_iff_iff]
  simp only [List.contains_iff_mem, Bool.and_eq_true, decide_eq_true_eq]
  constructor
  · intro h
    obtain ⟨p, hp, h2⟩ := List.mem_filterMap.1 h
    obtain ⟨k, m, hk, hm, rfl⟩ := sndL_mem hp
    by_cases hr : m.Next.1.rank = f.rank
    · simp only [hr, if_true, Option.some.injEq] at h2
      have : k = i := by omega
      subst this
      rw [hi] at hk
      obtain rfl := Option.some.inj hk
      exact ⟨hm, hr⟩
    · simp only [hr, if_false] at h2
      exact absurd h2 (by simp)
  · rintro ⟨h1, h2⟩
    refine List.mem_filterMap.2 ⟨((i : Int), n.Next.1), ?_, by simp [h2]⟩
    simp only [sndL, List.mem_filterMap]
    exact ⟨(n, i), List.mem_zipIdx_iff_getElem?.2 hi, by simp [h1]⟩

theorem l_winner (m : Nat) (l : List Nd) (hg : ∀ n ∈ l, n.good) (hl : l.length ≤ 1000) (S : List PV) (hS : S.length = 38) (b0 b1 b2 b3 b4 : PV) (h0 : rd S 0 = .d (.slice (l.map Nd.D))) (h3 : rd S 3 = .d (.int .i64 (-1))) (h4 : rd S 4 = .ptr 0 0) (h5 : rd S 5 = .d (.int .i64 0)) (k : Nat) (hk : l.length < k) :
    Lp (loopN (evCode E1 (evI E1) m (theLoop Tryz.f31 0)) k ⟨S, [[b0, b1, b2, b3, b4]]⟩) fun r => ∃ (J : Store) (S' : List PV), r = (.exit 0, ⟨S', J⟩) ∧ S'.length = 38 ∧ rd S' 3 = .d (.int .i64 (atP (winP (sndL l)))) := by
  refine loop_inv (fun i st => ∃ (b0 b1 b2 b3 b4 : PV) (J : Store) (S : List PV), st = ⟨S, [b0, b1, b2, b3, b4] :: J⟩ ∧ S.length = 38 ∧ (∀ p, winP (sndL (l.take i)) = some p → [b0, b1, b2, b3, b4] = cellsOf p.2.P ∧ 0 ≤ p.1 ∧ p.2.right = true) ∧ rd S 0 = .d (.slice (l.map Nd.D)) ∧ rd S 3 = .d (.int .i64 (atP (winP (sndL (l.take i))))) ∧ rd S 4 = .ptr 0 0 ∧ rd S 5 = .d (.int .i64 i)) _ l.length ?_ ?_ k 0 _ (by omega) (by omega)
    ⟨b0, b1, b2, b3, b4, [], S, rfl, hS, by intro p hp; simp [sndL, winP] at hp, h0, h3, h4, h5⟩
  · rintro i st hi ⟨b0, b1, b2, b3, b4, J, S, rfl, hS, hw, h0, h3, h4, h5⟩
    have htk : winP (sndL (l.take (i + 1))) = (if l[i].Next.2 then [((i : Int), l[i].Next.1)] else []).foldl winS (winP (sndL (l.take i))) := by
      rw [sndL_take hi, winP, List.foldl_append]; rfl
    have hgi := hg l[i] (List.getElem_mem hi)
    have hnr : l[i].Next.2 = true → l[i].Next.1.right = true := fun h => hgi.r _ (Next_mem h)
    have hnx := fun σ => r_Next l[i] (Nat.le_trans hgi.q (by omega)) hgi.r σ
    generalize winP (sndL (l.take (i + 1))) = w1 at htk ⊢
    generalize winP (sndL (l.take i)) = w0 at htk hw h3
    generalize hx : l[i] = n at htk hnx hnr
    generalize n.Next = nf at htk hnx hnr
    obtain ⟨f, ok⟩ := nf
    simp only at htk hnx hnr
    have hlt : (i : Int) < (l.length : Int) := by omega
    cases ok
    · simp only [Bool.false_eq_true, if_false, List.foldl_nil] at htk
      subst htk
      simp at hnx
      clear hnr
      simp [theLoop, Tryz.f31, loopsAll, Lp_some, and_assoc, -rd, rd_set, -loadS, -storeS, loadS_cons0, loadS_consS, storeS_cons0, storeS_consS, sfx_load0, sfx_load, sfx_store0, sfx_store, hS, h0, h3, h4, h5, hlt, hi, hx, hnx, wrap_succ i (by omega)]
      intro a b h
      simpa [cellsOf, and_assoc] using hw (a, b) h
    · simp only [if_true, List.foldl_cons, List.foldl_nil] at htk
      have hfr := hnr rfl
      have r1 := fun σ => r_Rank f hfr σ
      cases w0 with
      | none =>
        subst htk
        simp only [winS, atP, Option.map_none, Option.getD_none, Option.map_some, Option.getD_some] at h3 ⊢
        simp only [Fr.P] at hnx
        simp at hnx
        clear hnr hw r1
        simp [theLoop, Tryz.f31, loopsAll, Lp_some, and_assoc, -rd, rd_set, -loadS, -storeS, loadS_cons0, loadS_consS, storeS_cons0, storeS_consS, sfx_load0, sfx_load, sfx_store0, sfx_store, hS, h0, h3, h4, h5, hlt, hi, hx, hnx, wrap_succ i (by omega), cellsOf, hfr]
        done
      | some q =>
        obtain ⟨hb, hq0, hqr⟩ := hw q rfl
        have r2 := fun σ => r_Rank q.2 hqr σ
        have r3 := fun σ => r_less f.rank q.2.rank (Nat.le_trans f.rank_len (by omega)) σ
        rw [lessL_rank] at r3
        obtain ⟨a, g⟩ := q
        simp only [winS] at htk
        simp only at hb hq0 r2 r3
        simp only [cellsOf, Fr.P, List.cons.injEq, and_true] at hb
        obtain ⟨rfl, rfl, rfl, rfl, rfl⟩ := hb
        simp only [atP, Option.map_some, Option.getD_some] at h3
        have hneg : ¬ a < 0 := by omega
        clear hw hnr
        by_cases hc : rankCmp f g < 0
        · rw [if_pos hc] at htk
          subst htk
          have hcd : decide (rankCmp f g < 0) = true := by simpa using hc
          rw [hcd] at r3
          simp at hnx
          try simp at r1
          try simp at r2
          try simp at r3
          simp only [atP, Option.map_some, Option.getD_some]
          clear hcd hc
          simp [theLoop, Tryz.f31, loopsAll, Lp_some, and_assoc, -rd, rd_set, -loadS, -storeS, loadS_cons0, loadS_consS, storeS_cons0, storeS_consS, sfx_load0, sfx_load, sfx_store0, sfx_store, hS, h0, h3, h4, h5, hlt, hi, hx, hnx, hneg, r1, r2, r3, wrap_succ i (by omega), cellsOf, hfr]
          done
        · rw [if_neg hc] at htk
          subst htk
          have hcd : decide (rankCmp f g < 0) = false := by simpa using hc
          rw [hcd] at r3
          simp at hnx
          try simp at r1
          try simp at r2
          try simp at r3
          simp only [atP, Option.map_some, Option.getD_some]
          clear hcd hc
          simp [theLoop, Tryz.f31, loopsAll, Lp_some, and_assoc, -rd, rd_set, -loadS, -storeS, loadS_cons0, loadS_consS, storeS_cons0, storeS_consS, sfx_load0, sfx_load, sfx_store0, sfx_store, hS, h0, h3, h4, h5, hlt, hi, hx, hnx, hneg, r1, r2, r3, wrap_succ i (by omega), cellsOf, hqr, hq0]
          done
  · rintro st ⟨b0, b1, b2, b3, b4, J, S, rfl, hS, hw, h0, h3, h4, h5⟩
    rw [List.take_length] at h3
    simp [theLoop, Tryz.f31, loopsAll, Lp_some, and_assoc, -rd, rd_set, hS, h0, h3, h4, h5]

theorem r_Winner (l : List Nd) (hg : ∀ n ∈ l, n.good) (hl : l.length ≤ 1000) (σ : Store) : callIt E1 (evI E1) 31 [.d (.slice (l.map Nd.D))] σ = some (.d (.int .i64 (atP (winP (sndL l)))), σ) := by
  refine call_run (fn := Tryz.f31) (l.length + 1) rfl rfl rfl Tryz.func31 rfl rfl ?_ rfl
  simp [Tryz.f31, ec_loop, -loadS, -storeS, storeS_cons0, storeS_consS]
  generalize hLL : loopN _ _ _ = L
  obtain ⟨r, rfl, J, S, rfl, hS, h3⟩ := at_loop hLL (l_winner (l.length + 1) l hg hl _ rfl _ _ _ _ _ rfl rfl rfl rfl (l.length + 1) (by omega))
  simp [-rd, rd_set, hS, h3]
end Go.Proofs

set_option linter.unusedVariables false
set_option linter.unusedSimpArgs false
set_option maxRecDepth 100000
set_option maxHeartbeats 8000000
namespace Go.Proofs
open Go.RowKit Go.Shelf Go.Pv

theorem winP_line {l : List Nd} (who : List Int) (hs : sndL l ≠ []) : winP (sndL l) = some ((lineOf l who).w, (lineOf l who).f) ∧ ((lineOf l who).w, (lineOf l who).f) ∈ sndL l := by
  have hm : (sndL l).map (·.2) ≠ [] := by simpa using hs
  have hk := nxt_lt hm
  rw [List.length_map] at hk
  have he : (sndL l).getD (nxt ((sndL l).map (·.2))) (0, fr0) = (sndL l)[nxt ((sndL l).map (·.2))] := by simp [List.getD, List.getElem?_eq_getElem hk]
  have h1 : ((lineOf l who).w, (lineOf l who).f) = (sndL l)[nxt ((sndL l).map (·.2))] := by
    unfold lineOf
    simp only [he]
  rw [h1]
  exact ⟨by rw [winP_eq hs, List.getElem?_eq_getElem hk], List.getElem_mem hk⟩

theorem sends_none {l : List Nd} (who : List Int) (hs : sndL l = []) (i : Nat) : (lineOf l who).sends i = false := by
  have : (lineOf l who).al = [] := by
    unfold lineOf
    simp only [hs]
    rfl
  simp [Ln.sends, this]

theorem rank_eq_less (f g : Fr) : decide (g.rank = f.rank) = (!lessL f.rank g.rank && !lessL g.rank f.rank) := by
  rw [lessL_rank, lessL_rank, rankCmp_anti f g]
  rw [Bool.eq_iff_iff]
  simp only [decide_eq_true_eq, Bool.and_eq_true, Bool.not_eq_true', decide_eq_false_iff_not]
  constructor
  · intro h
    have : rankCmp f g = 0 := by unfold rankCmp; rw [h]; exact cmpL_self _
    omega
  · intro h
    have : rankCmp f g = 0 := by omega
    exact (cmpL_zero _ _ this).symm

theorem r_Along (l : List Nd) (hg : ∀ n ∈ l, n.good) (hl : l.length ≤ 1000) (who : List Int) (i : Nat) (hi : i < l.length) (σ : Store) : callIt E1 (evI E1) 27 [.d (.slice (l.map Nd.D)), .d (.int .i64 i)] σ = some (.d (.bool ((lineOf l who).sends i)), σ) := by
  refine call_run (fn := Tryz.f27) 5 rfl rfl rfl Tryz.func27 rfl rfl ?_ rfl
  have hW := fun σ => r_Winner l hg hl σ
  by_cases hs : sndL l = []
  · rw [sends_none who hs]
    rw [hs] at hW
    simp only [winP_nil, atP, Option.map_none, Option.getD_none] at hW
    try simp at hW
    simp [Tryz.f27, hW]
    done
  · obtain ⟨hw1, hw2⟩ := winP_line who hs
    rw [sends_eq who (List.getElem?_eq_getElem hi)]
    have hnx := fun σ => r_Next l[i] (Nat.le_trans (hg _ (List.getElem_mem hi)).q (by omega)) (hg _ (List.getElem_mem hi)).r σ
    have hnr : l[i].Next.2 = true → l[i].Next.1.right = true := fun h => (hg _ (List.getElem_mem hi)).r _ (Next_mem h)
    generalize hx : l[i] = n at hnx hnr
    rw [hw1] at hW
    simp only [atP, Option.map_some, Option.getD_some] at hW
    generalize (lineOf l who).w = w at hw2 hW
    generalize (lineOf l who).f = f at hw2
    obtain ⟨k, nk, hk, hk2, he⟩ := sndL_mem hw2
    obtain ⟨rfl, rfl⟩ := Prod.mk.inj he
    obtain ⟨hkl, hk⟩ := List.getElem?_eq_some_iff.1 hk
    have hgk := hg nk (by rw [← hk]; exact List.getElem_mem hkl)
    have hnk := fun σ => r_Next nk (Nat.le_trans hgk.q (by omega)) hgk.r σ
    have hfr := hgk.r _ (Next_mem hk2)
    rw [hk2] at hnk
    have hk0 : ¬ (k : Int) < 0 := by omega
    generalize nk.Next.1 = f at hnk hfr
    generalize n.Next = nf at hnx hnr
    obtain ⟨g, ok⟩ := nf
    simp only at hnx hnr
    have r1 := fun σ => r_Rank f hfr σ
    cases ok
    · clear hw1 hw2 he
      try simp at hW
      try simp at hnx
      try simp at hnk
      simp [Tryz.f27, -loadS, -storeS, loadS_cons0, loadS_consS, storeS_cons0, storeS_consS, hW, hk0, hk, hkl, hnk, hi, hx, hnx, r1]
      done
    · have hgr := hnr rfl
      have r2 := fun σ => r_Rank g hgr σ
      have r3 := fun σ => r_less f.rank g.rank (Nat.le_trans f.rank_len (by omega)) σ
      have r4 := fun σ => r_less g.rank f.rank (Nat.le_trans g.rank_len (by omega)) σ
      rw [rank_eq_less f g]
      generalize lessL f.rank g.rank = z1 at r3 ⊢
      generalize lessL g.rank f.rank = z2 at r4 ⊢
      clear hw1 hw2 he hnr
      try simp at hW
      try simp at hnx
      try simp at hnk
      try simp at r1
      try simp at r2
      try simp at r3
      try simp at r4
      cases z1
      · cases z2
        · simp [Tryz.f27, -loadS, -storeS, loadS_cons0, loadS_consS, storeS_cons0, storeS_consS, hW, hk0, hk, hkl, hnk, hi, hx, hnx, r1, r2, r3, r4]
          done
        · simp [Tryz.f27, -loadS, -storeS, loadS_cons0, loadS_consS, storeS_cons0, storeS_consS, hW, hk0, hk, hkl, hnk, hi, hx, hnx, r1, r2, r3, r4]
          done
      · simp [Tryz.f27, -loadS, -storeS, loadS_cons0, loadS_consS, storeS_cons0, storeS_consS, hW, hk0, hk, hkl, hnk, hi, hx, hnx, r1, r2, r3, r4]
        done

theorem any_range_succ (p : Nat → Bool) (i : Nat) : (List.range (i + 1)).any p = ((List.range i).any p || p i) := by simp [List.range_succ]

theorem l_heard (m : Nat) (l : List Nd) (hg : ∀ n ∈ l, n.good) (hl : l.length ≤ 1000) (who : List Int) (S : List PV) (hS : S.length = 23) (h0 : rd S 0 = .d (.slice (l.map Nd.D))) (h3 : rd S 3 = .d (.int .i64 0)) (k : Nat) (hk : l.length < k) :
    Lp (loopN (evCode E1 (evI E1) m (theLoop Tryz.f82 0)) k ⟨S, []⟩) fun r => ∃ S' : List PV, S'.length = 23 ∧ ((r = (.exit 0, ⟨S', []⟩) ∧ (lineOf l who).anyHears = false) ∨ (r = (.ret, ⟨S', []⟩) ∧ rd S' 2 = .d (.bool true) ∧ (lineOf l who).anyHears = true)) := by
  have hfull : (lineOf l who).anyHears = (List.range l.length).any (lineOf l who).hears := rfl
  rw [hfull]
  have hev : ∀ i, (List.range (i + 1)).any (lineOf l who).hears = ((List.range i).any (lineOf l who).hears || (lineOf l who).hears i) := any_range_succ _
  have htr : ∀ i, i < l.length → (lineOf l who).hears i = true → (List.range l.length).any (lineOf l who).hears = true := fun i hi h => List.any_eq_true.2 ⟨i, by simpa using hi, h⟩
  refine loop_inv (fun i st => ∃ S : List PV, st = ⟨S, []⟩ ∧ S.length = 23 ∧ (List.range i).any (lineOf l who).hears = false ∧ rd S 0 = .d (.slice (l.map Nd.D)) ∧ rd S 3 = .d (.int .i64 i)) _ l.length ?_ ?_ k 0 _ (by omega) (by omega) ⟨S, rfl, hS, rfl, h0, h3⟩
  · rintro i st hi ⟨S, rfl, hS, he, h0, h3⟩
    have h1 := hev i
    have h2 := htr i hi
    have hA := fun σ => r_Along l hg hl who i hi σ
    have hH : (lineOf l who).hears i = (!(lineOf l who).sends i && (l[i].c.s != 3)) := by
      unfold Ln.hears
      rw [show nd (lineOf l who).l i = l[i] from by show nd l i = l[i]; simp [nd, List.getD, hi]]
    rw [he, Bool.false_or] at h1
    rw [hH] at h1 h2
    clear hH
    generalize hx : l[i] = n at h1 h2
    generalize (lineOf l who).sends i = s at hA h1 h2
    generalize (List.range (i + 1)).any (lineOf l who).hears = a1 at h1 ⊢
    generalize (List.range l.length).any (lineOf l who).hears = a2 at h2 ⊢
    have hlt : (i : Int) < (l.length : Int) := by omega
    try simp at hA
    cases s
    · by_cases hc : n.c.s = 3
      · have h1' : a1 = false := by rw [h1]; simp [hc]
        clear h1 h2 hev htr hfull
        subst h1'
        simp [theLoop, Tryz.f82, loopsAll, Lp_some, and_assoc, -rd, rd_set, hS, h0, h3, hlt, hi, hx, hA, hc, wrap_succ i (by omega)]
        done
      · have hb : (n.c.s != 3) = true := by simpa using hc
        have h2' : a2 = true := h2 (by simp [hb])
        clear h1 h2 hev htr hfull
        subst h2'
        simp [theLoop, Tryz.f82, loopsAll, Lp_some, and_assoc, -rd, rd_set, hS, h0, h3, hlt, hi, hx, hA, hb, wrap_succ i (by omega)]
        exact ⟨_, by simp [hS], rfl, by simp [-rd, rd_set, hS]⟩
    · have h1' : a1 = false := by rw [h1]; simp
      clear h1 h2 hev htr hfull
      subst h1'
      simp [theLoop, Tryz.f82, loopsAll, Lp_some, and_assoc, -rd, rd_set, hS, h0, h3, hlt, hi, hx, hA, wrap_succ i (by omega)]
      done
  · rintro st ⟨S, rfl, hS, he, h0, h3⟩
    clear hev htr hfull
    generalize (List.range l.length).any (lineOf l who).hears = a2 at he ⊢
    subst he
    simp [theLoop, Tryz.f82, loopsAll, Lp_some, and_assoc, -rd, rd_set, hS, h0, h3]
    try exact ⟨_, by simp [hS], rfl⟩

theorem r_heard (l : List Nd) (hg : ∀ n ∈ l, n.good) (hl : l.length ≤ 1000) (who : List Int) (σ : Store) : callIt E1 (evI E1) 82 [.d (.slice (l.map Nd.D))] σ = some (.d (.bool (lineOf l who).anyHears), σ) := by
  refine call_run (fn := Tryz.f82) (l.length + 1) rfl rfl rfl Tryz.func82 rfl rfl ?_ rfl
  simp [Tryz.f82, ec_loop]
  generalize hLL : loopN _ _ _ = L
  obtain ⟨r, rfl, S, hS, h⟩ := at_loop hLL (l_heard (l.length + 1) l hg hl who _ rfl rfl rfl (l.length + 1) (by omega))
  rcases h with ⟨rfl, h⟩ | ⟨rfl, h4, h⟩
  · simp [-rd, rd_set, hS, h]
  · have h4' := rd_el h4 (by omega)
    simp [-rd, rd_set, hS, h4, h, h4']
end Go.Proofs

set_option linter.unusedVariables false
set_option linter.unusedSimpArgs false
set_option maxRecDepth 100000
set_option maxHeartbeats 8000000
namespace Go.Proofs
open Go.RowKit Go.Shelf Go.Pv

theorem l_hit (m : Nat) (l : List Nd) (hg : ∀ n ∈ l, n.good) (hl : l.length ≤ 1000) (who : List Int) (hwl : who.length ≤ 1000000) (S : List PV) (hS : S.length = 69) (h0 : rd S 0 = .d (.slice (l.map Nd.D))) (h3 : rd S 3 = .ptr 0 0) (h6 : rd S 6 = .ptr 1 0) (h8 : rd S 8 = .d (.int .i64 0)) (k : Nat) (hk : l.length < k) :
    Lp (loopN (evCode E1 (evI E1) m (theLoop Tryz.f81 0)) k ⟨S, [[.d (.slice (who.map intD))], cellsOf (lineOf l who).f.P]⟩) fun r => ∃ (S' : List PV) (J : Store), S'.length = 69 ∧ ((r = (.exit 0, ⟨S', J⟩) ∧ (lineOf l who).anyLoud = false) ∨ (r = (.ret, ⟨S', J⟩) ∧ rd S' 4 = .d (.bool true) ∧ (lineOf l who).anyLoud = true)) := by
  have hfull : (lineOf l who).anyLoud = (List.range l.length).any (lineOf l who).loud := rfl
  rw [hfull]
  have hev : ∀ i, (List.range (i + 1)).any (lineOf l who).loud = ((List.range i).any (lineOf l who).loud || (lineOf l who).loud i) := any_range_succ _
  have htr : ∀ i, i < l.length → (lineOf l who).loud i = true → (List.range l.length).any (lineOf l who).loud = true := fun i hi h => List.any_eq_true.2 ⟨i, by simpa using hi, h⟩
  refine loop_inv (fun i st => ∃ (J : Store) (S : List PV), st = ⟨S, [.d (.slice (who.map intD))] :: cellsOf (lineOf l who).f.P :: J⟩ ∧ S.length = 69 ∧ (List.range i).any (lineOf l who).loud = false ∧ rd S 0 = .d (.slice (l.map Nd.D)) ∧ rd S 3 = .ptr 0 0 ∧ rd S 6 = .ptr 1 0 ∧ rd S 8 = .d (.int .i64 i)) _ l.length ?_ ?_ k 0 _ (by omega) (by omega) ⟨[], S, rfl, hS, rfl, h0, h3, h6, h8⟩
  · rintro i st hi ⟨J, S, rfl, hS, he, h0, h3, h6, h8⟩
    have h1 := hev i
    have h2 := htr i hi
    have hA := fun σ => r_Along l hg hl who i hi σ
    have hI := fun σ => r_in who (i : Int) hwl σ
    have hgi := hg l[i] (List.getElem_mem hi)
    have hnx := fun σ => r_Next l[i] (Nat.le_trans hgi.q (by omega)) hgi.r σ
    have hsm := fun σ => r_same l[i].Next.1 (lineOf l who).f σ
    have hH : (lineOf l who).loud i = (if (lineOf l who).sends i then who.contains (i : Int) || !(l[i].Next.1.same (lineOf l who).f) else who.contains (i : Int) && (l[i].c.s == 1)) := by
      unfold Ln.loud
      rw [show nd (lineOf l who).l i = l[i] from by show nd l i = l[i]; simp [nd, List.getD, hi]]
      rfl
    rw [he, Bool.false_or] at h1
    rw [hH] at h1 h2
    clear hH
    generalize hx : l[i] = n at h1 h2 hnx hsm
    generalize (lineOf l who).sends i = s at hA h1 h2
    generalize (List.range (i + 1)).any (lineOf l who).loud = a1 at h1 ⊢
    generalize (List.range l.length).any (lineOf l who).loud = a2 at h2 ⊢
    clear hev htr hfull he
    generalize (lineOf l who).f = f at h1 h2 hsm ⊢
    generalize who.contains (i : Int) = c at hI h1 h2
    generalize n.Next = nf at hnx hsm h1 h2
    obtain ⟨g, ok⟩ := nf
    simp only at hnx hsm h1 h2
    generalize g.same f = sm at hsm h1 h2
    have hlt : (i : Int) < (l.length : Int) := by omega
    simp at hnx hsm hI hA
    cases s
    · simp only [Bool.false_eq_true, if_false] at h1 h2
      cases c
      · simp only [Bool.false_and] at h1 h2
        subst h1
        simp [theLoop, Tryz.f81, loopsAll, Lp_some, and_assoc, -rd, rd_set, -loadS, -storeS, loadS_cons0, loadS_consS, storeS_cons0, storeS_consS, sfx_load0, sfx_load, sfx_store0, sfx_store, hS, h0, h3, h6, h8, hlt, hi, hx, hA, hI, hnx, hsm, wrap_succ i (by omega), cellsOf]
        done
      · simp only [Bool.true_and] at h1 h2
        cases hc : (n.c.s == 1) <;> rw [hc] at h1 h2
        · subst h1
          simp [theLoop, Tryz.f81, loopsAll, Lp_some, and_assoc, -rd, rd_set, -loadS, -storeS, loadS_cons0, loadS_consS, storeS_cons0, storeS_consS, sfx_load0, sfx_load, sfx_store0, sfx_store, hS, h0, h3, h6, h8, hlt, hi, hx, hA, hI, hnx, hsm, hc, wrap_succ i (by omega), cellsOf]
          done
        · have h2' := h2 rfl
          subst h2'
          simp [theLoop, Tryz.f81, loopsAll, Lp_some, and_assoc, -rd, rd_set, -loadS, -storeS, loadS_cons0, loadS_consS, storeS_cons0, storeS_consS, sfx_load0, sfx_load, sfx_store0, sfx_store, hS, h0, h3, h6, h8, hlt, hi, hx, hA, hI, hnx, hsm, hc, wrap_succ i (by omega), cellsOf]
          first | exact ⟨_, by simp [hS], rfl, by simp [-rd, rd_set, hS]⟩ | exact ⟨_, by simp [hS], ⟨_, rfl, rfl⟩, by simp [-rd, rd_set, hS]⟩ | exact ⟨_, _, by simp [hS], ⟨rfl, rfl⟩, by simp [-rd, rd_set, hS]⟩
    · simp only [if_true] at h1 h2
      cases sm
      · have h2' := h2 (by simp)
        subst h2'
        simp [theLoop, Tryz.f81, loopsAll, Lp_some, and_assoc, -rd, rd_set, -loadS, -storeS, loadS_cons0, loadS_consS, storeS_cons0, storeS_consS, sfx_load0, sfx_load, sfx_store0, sfx_store, hS, h0, h3, h6, h8, hlt, hi, hx, hA, hI, hnx, hsm, wrap_succ i (by omega), cellsOf]
        first | exact ⟨_, by simp [hS], rfl, by simp [-rd, rd_set, hS]⟩ | exact ⟨_, by simp [hS], ⟨_, rfl, rfl⟩, by simp [-rd, rd_set, hS]⟩ | exact ⟨_, _, by simp [hS], ⟨rfl, rfl⟩, by simp [-rd, rd_set, hS]⟩
      · cases c
        · simp only [Bool.not_true, Bool.or_false] at h1
          subst h1
          simp [theLoop, Tryz.f81, loopsAll, Lp_some, and_assoc, -rd, rd_set, -loadS, -storeS, loadS_cons0, loadS_consS, storeS_cons0, storeS_consS, sfx_load0, sfx_load, sfx_store0, sfx_store, hS, h0, h3, h6, h8, hlt, hi, hx, hA, hI, hnx, hsm, wrap_succ i (by omega), cellsOf]
          done
        · have h2' := h2 (by simp)
          subst h2'
          simp [theLoop, Tryz.f81, loopsAll, Lp_some, and_assoc, -rd, rd_set, -loadS, -storeS, loadS_cons0, loadS_consS, storeS_cons0, storeS_consS, sfx_load0, sfx_load, sfx_store0, sfx_store, hS, h0, h3, h6, h8, hlt, hi, hx, hA, hI, hnx, hsm, wrap_succ i (by omega), cellsOf]
          first | exact ⟨_, by simp [hS], rfl, by simp [-rd, rd_set, hS]⟩ | exact ⟨_, by simp [hS], ⟨_, rfl, rfl⟩, by simp [-rd, rd_set, hS]⟩ | exact ⟨_, _, by simp [hS], ⟨rfl, rfl⟩, by simp [-rd, rd_set, hS]⟩
  · rintro st ⟨J, S, rfl, hS, he, h0, h3, h6, h8⟩
    clear hev htr hfull
    generalize (List.range l.length).any (lineOf l who).loud = a2 at he ⊢
    subst he
    simp [theLoop, Tryz.f81, loopsAll, Lp_some, and_assoc, -rd, rd_set, hS, h0, h3, h6, h8]
    try exact ⟨_, by simp [hS], _, rfl, rfl⟩

theorem r_hit (l : List Nd) (hg : ∀ n ∈ l, n.good) (hl : l.length ≤ 1000) (who : List Int) (hwl : who.length ≤ 1000000) (hs : sndL l ≠ []) (σ : Store) : callIt E1 (evI E1) 81 [.d (.slice (l.map Nd.D)), .agg [.d (.slice (who.map intD))]] σ = some (.d (.bool (lineOf l who).anyLoud), σ) := by
  refine call_run (fn := Tryz.f81) (l.length + 1) rfl rfl rfl Tryz.func81 rfl rfl ?_ rfl
  have hW := fun σ => r_Winner l hg hl σ
  obtain ⟨hw1, hw2⟩ := winP_line who hs
  have hloop := l_hit (l.length + 1) l hg hl who hwl
  rw [hw1] at hW
  simp only [atP, Option.map_some, Option.getD_some] at hW
  generalize (lineOf l who).w = w at hw2 hW
  generalize (lineOf l who).anyLoud = A at hloop ⊢
  generalize (lineOf l who).f = f at hw2 hloop
  obtain ⟨k, nk, hk, hk2, he⟩ := sndL_mem hw2
  obtain ⟨rfl, rfl⟩ := Prod.mk.inj he
  obtain ⟨hkl, hk⟩ := List.getElem?_eq_some_iff.1 hk
  have hgk := hg nk (by rw [← hk]; exact List.getElem_mem hkl)
  have hnk := fun σ => r_Next nk (Nat.le_trans hgk.q (by omega)) hgk.r σ
  rw [hk2] at hnk
  clear hw1 hw2 he
  generalize nk.Next.1 = f at hnk hloop
  simp only [cellsOf, Fr.P] at hloop
  try simp at hW
  try simp at hnk
  simp [Tryz.f81, -loadS, -storeS, loadS_cons0, loadS_consS, storeS_cons0, storeS_consS, hW, hk, hkl, hnk, ec_loop]
  generalize hLL : loopN _ _ _ = L
  obtain ⟨r, rfl, S, J, hS, h⟩ := at_loop hLL (hloop _ rfl rfl rfl rfl rfl (l.length + 1) (by omega))
  rcases h with ⟨rfl, h⟩ | ⟨rfl, h4, h⟩
  · simp [-rd, rd_set, hS, h]
  · have h4' := rd_el h4 (by omega)
    simp [-rd, rd_set, hS, h4, h, h4']
end Go.Proofs

