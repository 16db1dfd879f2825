/- By which routes a frame comes back: heights say the same as ways do. Plain; The reference of routes: whether they may be, whether one comes back, where a frame goes; The reference of routes: where some buses lead; whether one comes back; where a frame goes; The reference of routes: whether one comes back; where a frame goes. -/
import Derived.Test.YtnnindnmpfmaaaaGreatPa
import Derived.Test.YtnnindnmpfmaaaaGreatPd
import Derived.Test.YtnnindnmpfmaaaaGreatOr
import Derived.Test.YtnnindnmpfmaaaaGreatNi
import Derived.Test.YtnnindnmpfmaaaaGreatNk2
set_option linter.unusedVariables false
set_option linter.unusedSimpArgs false
set_option maxRecDepth 100000
set_option maxHeartbeats 8000000
namespace Go.Proofs
open Go.RowKit Go.Shelf Go.Pv

/-- There is a way of so many routes from one bus to another. -/
def wayN (l : List Rt) (a : Int) : Nat → Int → Prop
  | 0, b => a = b
  | n + 1, b => ∃ r ∈ l, r.b = b ∧ wayN l a n r.a
def onL (l : List Rt) (from_ : List Int) : List Int := ([0, 1, 2, 3] : List Int).filter fun b => l.any fun r => (r.b == b) && from_.contains r.a
def noBack (l : List Rt) (bus : Int) : Nat → List Int → Bool
  | 0, _ => true
  | n + 1, s => !(onL l s).contains bus && noBack l bus n (onL l s)
def refLoop (l : List Rt) (k : Int) : Bool := routesOk l k && (List.range k.toNat).all fun b => noBack l (b : Int) k.toNat [(b : Int)]

/-! #### Heights -/
theorem hAt_set {h : List Int} {k : Int} {x : Int} (v : Int) (hk : 0 ≤ k ∧ k.toNat < h.length) (hv : 0 ≤ v) : hAt (h.set k.toNat x) v = if v = k then x else hAt h v := by
  unfold hAt
  rw [List.getD_eq_getElem?_getD, List.getD_eq_getElem?_getD, List.getElem?_set]
  by_cases e : v = k
  · subst e
    rw [if_pos rfl, if_pos hk.2, if_pos rfl]; rfl
  · rw [if_neg (by omega), if_neg e]
theorem relax1_len (h : List Int) (r : Rt) : (relax1 h r).length = h.length := by simp [relax1]
theorem relaxL_len : ∀ (l : List Rt) (h : List Int), (relaxL l h).length = h.length
  | [], _ => rfl
  | r :: l, h => (relaxL_len l (relax1 h r)).trans (relax1_len h r)
def inB (l : List Rt) : Prop := ∀ r ∈ l, (0 ≤ r.a ∧ r.a < 4) ∧ (0 ≤ r.b ∧ r.b < 4)
theorem relax1_at {h : List Int} {r : Rt} (hl : h.length = 4) (hb : 0 ≤ r.b ∧ r.b < 4) {v : Int} (hv : 0 ≤ v) : hAt (relax1 h r) v = if v = r.b then max (hAt h r.b) (hAt h r.a + 1) else hAt h v :=
  hAt_set v ⟨hb.1, by omega⟩ hv
theorem relax1_up {h : List Int} {r : Rt} (hl : h.length = 4) (hb : 0 ≤ r.b ∧ r.b < 4) {v : Int} (hv : 0 ≤ v) : hAt h v ≤ hAt (relax1 h r) v := by
  rw [relax1_at hl hb hv]
  split
  · rename_i e; subst e; omega
  · omega
theorem relaxL_up : ∀ {l : List Rt} {h : List Int}, inB l → h.length = 4 → ∀ {v : Int}, 0 ≤ v → hAt h v ≤ hAt (relaxL l h) v
  | [], _, _, _, _, _ => Int.le_refl _
  | r :: l, h, hi, hl, v, hv => by
    have h1 := relax1_up hl (hi r (by simp)).2 hv
    have h2 := relaxL_up (l := l) (h := relax1 h r) (fun x hx => hi x (by simp [hx])) (by rw [relax1_len]; exact hl) hv
    exact Int.le_trans h1 h2
theorem relaxL_edge : ∀ {l : List Rt} {h : List Int}, inB l → h.length = 4 → ∀ r ∈ l, hAt h r.a + 1 ≤ hAt (relaxL l h) r.b
  | [], _, _, _, r, hr => by simp at hr
  | q :: l, h, hi, hl, r, hr => by
    have hi' : inB l := fun x hx => hi x (by simp [hx])
    have hl' : (relax1 h q).length = 4 := by rw [relax1_len]; exact hl
    show hAt h r.a + 1 ≤ hAt (relaxL l (relax1 h q)) r.b
    rcases List.mem_cons.1 hr with rfl | hr
    · have h1 := relax1_at (v := r.b) hl (hi r (by simp)).2 (hi r (by simp)).2.1
      rw [if_pos rfl] at h1
      have h2 := relaxL_up hi' hl' (v := r.b) (hi r (by simp)).2.1
      omega
    · have h1 := relaxL_edge hi' hl' r hr
      have h2 := relax1_up hl (hi q (by simp)).2 (v := r.a) (hi r (by simp [hr])).1.1
      omega
theorem way_height {l : List Rt} {h : List Int} (hi : inB l) (hl : h.length = 4) (hf : h = relaxL l h) (a : Int) : ∀ (n : Nat) (b : Int), wayN l a n b → hAt h a + n ≤ hAt h b
  | 0, b, hw => by cases hw; simp
  | n + 1, b, hw => by
    obtain ⟨r, hr, rfl, hw⟩ := hw
    have h1 := way_height hi hl hf a n r.a hw
    have h2 := relaxL_edge hi hl r hr
    rw [← hf] at h2
    omega
/-- Heights are had by ways. -/
def real (l : List Rt) (h : List Int) : Prop := ∀ v : Int, 0 ≤ v → v < 4 → ∃ (n : Nat) (a : Int), 0 ≤ a ∧ a < 4 ∧ hAt h v = n ∧ wayN l a n v
theorem real1 {l : List Rt} {h : List Int} {r : Rt} (hr : r ∈ l) (hi : inB l) (hl : h.length = 4) (h0 : real l h) : real l (relax1 h r) := by
  intro v hv hv4
  obtain ⟨hra, hrb⟩ := hi r hr
  rw [relax1_at hl hrb hv]
  split
  · rename_i e
    subst e
    obtain ⟨n, a, ha, ha4, hn, hw⟩ := h0 r.a hra.1 hra.2
    obtain ⟨n2, a2, h2, h24, hn2, hw2⟩ := h0 r.b hrb.1 hrb.2
    by_cases hm : hAt h r.a + 1 ≤ hAt h r.b
    · exact ⟨n2, a2, h2, h24, by omega, hw2⟩
    · exact ⟨n + 1, a, ha, ha4, by omega, r, hr, rfl, hw⟩
  · exact h0 v hv hv4
theorem realL {l : List Rt} (hi : inB l) : ∀ (q : List Rt) (h : List Int), (∀ r ∈ q, r ∈ l) → h.length = 4 → real l h → real l (relaxL q h)
  | [], _, _, _, h0 => h0
  | r :: q, h, hq, hl, h0 => realL hi q (relax1 h r) (fun x hx => hq x (by simp [hx])) (by rw [relax1_len]; exact hl) (real1 (hq r (by simp)) hi hl h0)
def itH (l : List Rt) : Nat → List Int → List Int
  | 0, h => h
  | n + 1, h => itH l n (relaxL l h)
theorem itH_succ (l : List Rt) : ∀ (n : Nat) (h : List Int), itH l (n + 1) h = relaxL l (itH l n h)
  | 0, _ => rfl
  | n + 1, h => itH_succ l n (relaxL l h)
theorem itH_ok {l : List Rt} (hi : inB l) : ∀ (n : Nat), (itH l n [0, 0, 0, 0]).length = 4 ∧ real l (itH l n [0, 0, 0, 0])
  | 0 => ⟨rfl, fun v hv hv4 => ⟨0, v, hv, hv4, by
      have : v = 0 ∨ v = 1 ∨ v = 2 ∨ v = 3 := by omega
      rcases this with rfl | rfl | rfl | rfl <;> rfl, rfl⟩⟩
  | n + 1 => by
    obtain ⟨h1, h2⟩ := itH_ok hi n
    rw [itH_succ]
    exact ⟨by rw [relaxL_len]; exact h1, realL hi l _ (fun _ h => h) h1 h2⟩
theorem itH_low {l : List Rt} (hi : inB l) (a : Int) (ha : 0 ≤ a ∧ a < 4) : ∀ (t n : Nat) (v : Int), wayN l a n v → ((min t n : Nat) : Int) ≤ hAt (itH l t [0, 0, 0, 0]) v
  | t, 0, v, hw => by
    cases hw
    obtain ⟨n, _, _, _, h, _⟩ := (itH_ok hi t).2 a ha.1 ha.2
    rw [h]; omega
  | 0, n + 1, v, hw => by
    obtain ⟨r, hr, rfl, _⟩ := hw
    obtain ⟨n, _, _, _, h, _⟩ := (itH_ok hi 0).2 r.b (hi r hr).2.1 (hi r hr).2.2
    rw [h]; omega
  | t + 1, n + 1, v, hw => by
    obtain ⟨r, hr, rfl, hw⟩ := hw
    have h1 := itH_low hi a ha t n r.a hw
    have h2 := relaxL_edge hi (itH_ok hi t).1 r hr
    rw [itH_succ]
    omega
/-- A way of n routes goes through n + 1 buses. -/
theorem way_path {l : List Rt} (a : Int) : ∀ (n : Nat) (b : Int), wayN l a n b → ∃ p : Nat → Int, p 0 = a ∧ p n = b ∧ ∀ i, i < n → ∃ r ∈ l, r.a = p i ∧ r.b = p (i + 1)
  | 0, b, h => ⟨fun _ => a, rfl, h, fun i hi => by omega⟩
  | n + 1, b, h => by
    obtain ⟨r, hr, rfl, hw⟩ := h
    obtain ⟨p, h0, hn, hp⟩ := way_path a n r.a hw
    refine ⟨fun i => if i ≤ n then p i else r.b, by simp [h0], by simp; omega, fun i hi => ?_⟩
    by_cases hin : i < n
    · obtain ⟨q, hq, h1, h2⟩ := hp i hin
      refine ⟨q, hq, ?_, ?_⟩
      · show q.a = if i ≤ n then p i else r.b
        rw [if_pos (by omega)]; exact h1
      · show q.b = if i + 1 ≤ n then p (i + 1) else r.b
        rw [if_pos (by omega)]; exact h2
    · have : i = n := by omega
      subst this
      exact ⟨r, hr, by show r.a = if i ≤ i then p i else r.b; rw [if_pos (Nat.le_refl _)]; exact hn.symm, by show r.b = if i + 1 ≤ i then p (i + 1) else r.b; rw [if_neg (by omega)]⟩
theorem path_way {l : List Rt} {p : Nat → Int} {n : Nat} (hp : ∀ i, i < n → ∃ r ∈ l, r.a = p i ∧ r.b = p (i + 1)) (i : Nat) : ∀ d, i + d ≤ n → wayN l (p i) d (p (i + d))
  | 0, _ => rfl
  | d + 1, h => by
    obtain ⟨r, hr, h1, h2⟩ := hp (i + d) (by omega)
    refine ⟨r, hr, h2, ?_⟩
    rw [h1]
    exact path_way hp i d (by omega)
theorem pigeon {k : Nat} (hk : 1 ≤ k ∧ k ≤ 4) {p : Nat → Int} (hp : ∀ i, i ≤ k → 0 ≤ p i ∧ p i < k) : ∃ i d, 1 ≤ d ∧ i + d ≤ k ∧ p i = p (i + d) := by
  have : k = 1 ∨ k = 2 ∨ k = 3 ∨ k = 4 := by omega
  have a0 := hp 0 (by omega)
  have a1 := hp 1 (by omega)
  rcases this with rfl | rfl | rfl | rfl
  · exact ⟨0, 1, by omega, by omega, by simp only [Nat.zero_add]; omega⟩
  · have a2 := hp 2 (by omega)
    by_cases h1 : p 0 = p 1
    · exact ⟨0, 1, by omega, by omega, h1⟩
    · by_cases h2 : p 0 = p 2
      · exact ⟨0, 2, by omega, by omega, h2⟩
      · exact ⟨1, 1, by omega, by omega, by show p 1 = p 2; omega⟩
  · have a2 := hp 2 (by omega)
    have a3 := hp 3 (by omega)
    by_cases h1 : p 0 = p 1
    · exact ⟨0, 1, by omega, by omega, h1⟩
    · by_cases h2 : p 0 = p 2
      · exact ⟨0, 2, by omega, by omega, h2⟩
      · by_cases h3 : p 0 = p 3
        · exact ⟨0, 3, by omega, by omega, h3⟩
        · by_cases h4 : p 1 = p 2
          · exact ⟨1, 1, by omega, by omega, h4⟩
          · by_cases h5 : p 1 = p 3
            · exact ⟨1, 2, by omega, by omega, h5⟩
            · exact ⟨2, 1, by omega, by omega, by show p 2 = p 3; omega⟩
  · have a2 := hp 2 (by omega)
    have a3 := hp 3 (by omega)
    have a4 := hp 4 (by omega)
    by_cases h1 : p 0 = p 1
    · exact ⟨0, 1, by omega, by omega, h1⟩
    · by_cases h2 : p 0 = p 2
      · exact ⟨0, 2, by omega, by omega, h2⟩
      · by_cases h3 : p 0 = p 3
        · exact ⟨0, 3, by omega, by omega, h3⟩
        · by_cases h4 : p 1 = p 2
          · exact ⟨1, 1, by omega, by omega, h4⟩
          · by_cases h5 : p 1 = p 3
            · exact ⟨1, 2, by omega, by omega, h5⟩
            · by_cases h6 : p 2 = p 3
              · exact ⟨2, 1, by omega, by omega, h6⟩
              · by_cases h7 : p 0 = p 4
                · exact ⟨0, 4, by omega, by omega, h7⟩
                · by_cases h8 : p 1 = p 4
                  · exact ⟨1, 3, by omega, by omega, h8⟩
                  · by_cases h9 : p 2 = p 4
                    · exact ⟨2, 2, by omega, by omega, h9⟩
                    · exact ⟨3, 1, by omega, by omega, by show p 3 = p 4; omega⟩
/-- No way comes back within so many routes as there are buses. -/
def noWay (l : List Rt) (k : Nat) : Prop := ∀ b : Nat, b < k → ∀ n, 1 ≤ n → n ≤ k → ¬ wayN l (b : Int) n (b : Int)
theorem way_short {l : List Rt} {k : Nat} (hk : 1 ≤ k ∧ k ≤ 4) (hr : ∀ r ∈ l, (0 ≤ r.a ∧ r.a < k) ∧ (0 ≤ r.b ∧ r.b < k)) (hn : noWay l k) (a : Int) (n : Nat) (b : Int) (hw : wayN l a n b) : n < k := by
  by_cases h : n < k
  · exact h
  · exfalso
    obtain ⟨p, h0, h1, hp⟩ := way_path a n b hw
    have hb : ∀ i, i ≤ k → 0 ≤ p i ∧ p i < k := by
      intro i hi
      by_cases hin : i < n
      · obtain ⟨r, hrl, e1, _⟩ := hp i hin
        rw [← e1]; exact (hr r hrl).1
      · obtain ⟨r, hrl, _, e2⟩ := hp (n - 1) (by omega)
        have : i = n - 1 + 1 := by omega
        rw [this, ← e2]; exact (hr r hrl).2
    obtain ⟨i, d, hd, hid, he⟩ := pigeon hk hb
    have hw2 := path_way hp i d (by omega)
    rw [← he] at hw2
    have hpi := hb i (by omega)
    refine hn (p i).toNat (by omega) d hd (by omega) ?_
    rw [Int.toNat_of_nonneg hpi.1]
    exact hw2
theorem heights_ext {a b : List Int} (ha : a.length = 4) (hb : b.length = 4) (h : ∀ v : Int, 0 ≤ v → v < 4 → hAt a v = hAt b v) : a = b := by
  apply List.ext_getElem (by omega)
  intro i h1 h2
  have := h (i : Int) (by omega) (by omega)
  unfold hAt at this
  rw [Int.toNat_natCast, List.getD_eq_getElem?_getD, List.getD_eq_getElem?_getD, List.getElem?_eq_getElem h1, List.getElem?_eq_getElem h2] at this
  simpa using this
theorem relaxN_or (l : List Rt) : ∀ (n : Nat) (h : List Int), relaxN l n h = relaxL l (relaxN l n h) ∨ relaxN l n h = itH l n h
  | 0, _ => .inr rfl
  | n + 1, h => by
    rw [relaxN]
    split
    · rename_i e
      left
      rw [← e, ← e]
    · rcases relaxN_or l n (relaxL l h) with h1 | h1
      · exact .inl h1
      · exact .inr h1
theorem relaxN_len (l : List Rt) : ∀ (n : Nat) (h : List Int), (relaxN l n h).length = h.length
  | 0, _ => rfl
  | n + 1, h => by
    rw [relaxN]
    split
    · exact relaxL_len l h
    · rw [relaxN_len l n, relaxL_len]
theorem loopless_iff {l : List Rt} {k : Nat} (hok : routesOk l k = true) : loopless l k = true ↔ noWay l k := by
  obtain ⟨k1, k2, _, k4⟩ := routesOk_on hok
  have hk : 1 ≤ k ∧ k ≤ 4 := by omega
  have hr : ∀ r ∈ l, (0 ≤ r.a ∧ r.a < k) ∧ (0 ≤ r.b ∧ r.b < k) := fun r h => ⟨(k4 r h).1, (k4 r h).2.1⟩
  have hi : inB l := fun r h => by have := hr r h; omega
  unfold loopless
  rw [hok, Int.toNat_natCast]
  simp only [Bool.true_and, decide_eq_true_eq]
  constructor
  · intro hf b hb n hn _ hw
    have hl : (relaxN l k [0, 0, 0, 0]).length = 4 := relaxN_len l k _
    have := way_height hi hl hf b n b hw
    omega
  · intro hn
    rcases relaxN_or l k [0, 0, 0, 0] with h1 | h1
    · exact h1
    · rw [h1, ← itH_succ]
      obtain ⟨p1, p2⟩ := itH_ok hi k
      obtain ⟨q1, q2⟩ := itH_ok hi (k + 1)
      refine heights_ext p1 q1 fun v hv hv4 => ?_
      obtain ⟨n, a, ha, ha4, hn2, hw⟩ := q2 v hv hv4
      have hlt := way_short hk hr hn a n v hw
      have h3 := itH_low hi a ⟨ha, ha4⟩ k n v hw
      have h4 := relaxL_up hi p1 hv
      rw [← itH_succ] at h4
      omega

/-! #### The reference -/
theorem on_mem {l : List Rt} (hi : inB l) (s : List Int) (b : Int) : b ∈ onL l s ↔ ∃ r ∈ l, r.b = b ∧ r.a ∈ s := by
  unfold onL
  rw [List.mem_filter]
  simp only [List.any_eq_true, Bool.and_eq_true, beq_iff_eq, List.contains_iff_mem]
  constructor
  · rintro ⟨_, r, hr, h⟩; exact ⟨r, hr, h⟩
  · rintro ⟨r, hr, h1, h2⟩
    refine ⟨?_, r, hr, h1, h2⟩
    have := (hi r hr).2
    have : b = 0 ∨ b = 1 ∨ b = 2 ∨ b = 3 := by omega
    rcases this with rfl | rfl | rfl | rfl <;> simp
def itOn (l : List Rt) : Nat → List Int → List Int
  | 0, s => s
  | n + 1, s => itOn l n (onL l s)
theorem itOn_succ (l : List Rt) : ∀ (n : Nat) (s : List Int), itOn l (n + 1) s = onL l (itOn l n s)
  | 0, _ => rfl
  | n + 1, s => itOn_succ l n (onL l s)
theorem itOn_mem {l : List Rt} (hi : inB l) (a : Int) : ∀ (n : Nat) (b : Int), b ∈ itOn l n [a] ↔ wayN l a n b
  | 0, b => by
    show b ∈ [a] ↔ a = b
    simp [eq_comm]
  | n + 1, b => by
    rw [itOn_succ, on_mem hi]
    constructor
    · rintro ⟨r, hr, h1, h2⟩; exact ⟨r, hr, h1, (itOn_mem hi a n r.a).1 h2⟩
    · rintro ⟨r, hr, h1, h2⟩; exact ⟨r, hr, h1, (itOn_mem hi a n r.a).2 h2⟩
theorem noBack_iff (l : List Rt) (b : Int) : ∀ (n : Nat) (s : List Int), noBack l b n s = true ↔ ∀ j, 1 ≤ j → j ≤ n → ¬ b ∈ itOn l j s
  | 0, s => by simp only [noBack, true_iff]; intro j h1 h2; omega
  | n + 1, s => by
    rw [noBack, Bool.and_eq_true, noBack_iff l b n]
    simp only [Bool.not_eq_true', List.contains_eq_mem, decide_eq_false_iff_not]
    constructor
    · rintro ⟨h1, h2⟩ j hj hjn
      by_cases e : j = 1
      · subst e; exact h1
      · obtain ⟨i, rfl⟩ : ∃ i, j = i + 1 := ⟨j - 1, by omega⟩
        exact h2 i (by omega) (by omega)
    · intro h
      exact ⟨h 1 (by omega) (by omega), fun j hj hjn => h (j + 1) (by omega) (by omega)⟩
theorem refLoop_eq (l : List Rt) (k : Nat) : refLoop l k = loopless l k := by
  cases hok : routesOk l k
  · unfold refLoop loopless; rw [hok]; rfl
  · obtain ⟨k1, k2, _, k4⟩ := routesOk_on hok
    have hi : inB l := fun r h => by have := k4 r h; omega
    rw [Bool.eq_iff_iff, loopless_iff hok]
    unfold refLoop
    rw [hok, Int.toNat_natCast]
    simp only [Bool.true_and, List.all_eq_true, List.mem_range]
    constructor
    · intro h b hb n hn hnk hw
      exact (noBack_iff l b k _).1 (h b hb) n hn hnk ((itOn_mem hi b n b).2 hw)
    · intro h b hb
      exact (noBack_iff l b k _).2 fun j hj hjk hm => h b hb j hj hjk ((itOn_mem hi b j b).1 hm)
end Go.Proofs

set_option linter.unusedVariables false
set_option linter.unusedSimpArgs false
set_option maxRecDepth 100000
set_option maxHeartbeats 8000000
namespace Go.Proofs
open Go.RowKit Go.Shelf Go.Pv

theorem bad_eq (k : Int) (r : Rt) : Rt.bad k r = (decide (r.a < 0) || decide (r.a ≥ k) || decide (r.b < 0) || decide (r.b ≥ k) || (r.a == r.b) || !r.f.right || !((r.n == -1) || (decide (r.n ≥ 0) && decide (r.n < if r.f.e then 536870912 else 2048)))) := rfl
theorem l_rRight (m : Nat) (l : List Rt) (k : Int) (hl : l.length ≤ 16) (hwf : ∀ r ∈ l, r.f.wf) (S : List PV) (hS : S.length = 76) (h0 : rd S 0 = .d (.slice (l.map Rt.D))) (h1 : rd S 1 = .d (.int .i64 k)) (h5 : rd S 5 = .d (.int .i64 0)) (J : Store) (n : Nat) (hn : l.length < n) :
    Lp (loopN (evCode E1 (evI E1) m (theLoop Tryz.f159 0)) n ⟨S, J⟩) fun r => ∃ (J : Store) (S' : List PV), S'.length = 76 ∧ ((r = (.exit 0, ⟨S', J⟩) ∧ l.any (Rt.bad k) = false) ∨ (r = (.ret, ⟨S', J⟩) ∧ rd S' 4 = .d (.bool false) ∧ l.any (Rt.bad k) = true)) := by
  refine loop_inv (fun i st => ∃ (J : Store) (S : List PV), st = ⟨S, J⟩ ∧ S.length = 76 ∧ (l.take i).any (Rt.bad k) = false ∧ rd S 0 = .d (.slice (l.map Rt.D)) ∧ rd S 1 = .d (.int .i64 k) ∧ rd S 5 = .d (.int .i64 i)) _ l.length ?_ ?_ n 0 _ (by omega) (by omega) ⟨J, S, rfl, hS, rfl, h0, h1, h5⟩
  · rintro i st hi ⟨J, S, rfl, hS, he, h0, h1, h5⟩
    have hlt : (i : Int) < (l.length : Int) := by omega
    have htk := any_take (p := Rt.bad k) hi
    rw [he, Bool.false_or] at htk
    have hall := any_of (p := Rt.bad k) hi
    have c1 := fun σ => r_flRight l[i].f σ
    rw [Fl.rright_eq _ (hwf _ (List.getElem_mem hi))] at c1
    have hx : (l.map Rt.D)[i]? = some (l[i]).D := by simp [hi]
    have hml : (l.map Rt.D).length = l.length := by simp
    generalize (l.take (i + 1)).any (Rt.bad k) = z1 at htk ⊢
    generalize l.any (Rt.bad k) = z2 at hall ⊢
    generalize l[i] = r at htk hall c1 hx
    rw [bad_eq] at htk hall
    obtain ⟨a, b, f, nn⟩ := r
    simp only at htk hall c1 hx
    generalize f.right = fr at htk hall c1
    obtain ⟨fe, mask, mt⟩ := f
    generalize l.map Rt.D = L at hx hml h0 ⊢
    obtain ⟨hi0, hx⟩ := List.getElem?_eq_some_iff.1 hx
    simp only [Rt.D] at hx
    clear he
    try simp at c1
    have hw := wrap_succ i (by omega)
    generalize ha : decide (a < 0) = xa at htk hall
    generalize hb : decide (a ≥ k) = xb at htk hall
    generalize hc : decide (b < 0) = xc at htk hall
    generalize hd : decide (b ≥ k) = xd at htk hall
    generalize he : (a == b) = xe at htk hall
    simp at hb hd
    cases xa
    · cases xb
      · cases xc
        · cases xd
          · cases xe
            · cases fr
              · have h2 := hall (by simp)
                clear htk hall
                subst h2
                cases fe
                · simp [theLoop, Tryz.f159, loopsAll, Lp_some, and_assoc, -rd, rd_ne, rd_eq, -loadS, -storeS, sfx_load0, sfx_load, sfx_store0, sfx_store, loadS_cons0, storeS_cons0, cellsOf, hS, h0, h1, h5, hlt, hi0, hi, hx, hml, ha, hb, hc, hd, he, c1, hw]
                  refine ⟨_, _, ?_, rfl, rfl, ?_⟩ <;> simp [-rd, rd_ne, rd_eq, hS]
                · simp [theLoop, Tryz.f159, loopsAll, Lp_some, and_assoc, -rd, rd_ne, rd_eq, -loadS, -storeS, sfx_load0, sfx_load, sfx_store0, sfx_store, loadS_cons0, storeS_cons0, cellsOf, hS, h0, h1, h5, hlt, hi0, hi, hx, hml, ha, hb, hc, hd, he, c1, hw]
                  refine ⟨_, _, ?_, rfl, rfl, ?_⟩ <;> simp [-rd, rd_ne, rd_eq, hS]
              · by_cases hn1 : nn < -1
                · have h2 := hall (by simp; omega)
                  clear htk hall
                  subst h2
                  cases fe
                  · simp [theLoop, Tryz.f159, loopsAll, Lp_some, and_assoc, -rd, rd_ne, rd_eq, -loadS, -storeS, sfx_load0, sfx_load, sfx_store0, sfx_store, loadS_cons0, storeS_cons0, cellsOf, hS, h0, h1, h5, hlt, hi0, hi, hx, hml, ha, hb, hc, hd, he, c1, hn1, hw]
                    refine ⟨_, _, ?_, rfl, rfl, ?_⟩ <;> simp [-rd, rd_ne, rd_eq, hS]
                  · simp [theLoop, Tryz.f159, loopsAll, Lp_some, and_assoc, -rd, rd_ne, rd_eq, -loadS, -storeS, sfx_load0, sfx_load, sfx_store0, sfx_store, loadS_cons0, storeS_cons0, cellsOf, hS, h0, h1, h5, hlt, hi0, hi, hx, hml, ha, hb, hc, hd, he, c1, hn1, hw]
                    refine ⟨_, _, ?_, rfl, rfl, ?_⟩ <;> simp [-rd, rd_ne, rd_eq, hS]
                · cases fe
                  · by_cases hn2 : 2047 < nn
                    · have h2 := hall (by simp; omega)
                      clear htk hall
                      subst h2
                      simp [theLoop, Tryz.f159, loopsAll, Lp_some, and_assoc, -rd, rd_ne, rd_eq, -loadS, -storeS, sfx_load0, sfx_load, sfx_store0, sfx_store, loadS_cons0, storeS_cons0, cellsOf, hS, h0, h1, h5, hlt, hi0, hi, hx, hml, ha, hb, hc, hd, he, c1, hn1, hn2, hw]
                      refine ⟨_, _, ?_, rfl, rfl, ?_⟩ <;> simp [-rd, rd_ne, rd_eq, hS]
                    · have htk : z1 = false := htk.trans (by simp; omega)
                      clear hall
                      subst htk
                      simp [theLoop, Tryz.f159, loopsAll, Lp_some, and_assoc, -rd, rd_ne, rd_eq, -loadS, -storeS, sfx_load0, sfx_load, sfx_store0, sfx_store, loadS_cons0, storeS_cons0, cellsOf, hS, h0, h1, h5, hlt, hi0, hi, hx, hml, ha, hb, hc, hd, he, c1, hn1, hn2, hw]
                      done
                  · by_cases hn2 : 536870911 < nn
                    · have h2 := hall (by simp; omega)
                      clear htk hall
                      subst h2
                      simp [theLoop, Tryz.f159, loopsAll, Lp_some, and_assoc, -rd, rd_ne, rd_eq, -loadS, -storeS, sfx_load0, sfx_load, sfx_store0, sfx_store, loadS_cons0, storeS_cons0, cellsOf, hS, h0, h1, h5, hlt, hi0, hi, hx, hml, ha, hb, hc, hd, he, c1, hn1, hn2, hw]
                      refine ⟨_, _, ?_, rfl, rfl, ?_⟩ <;> simp [-rd, rd_ne, rd_eq, hS]
                    · have htk : z1 = false := htk.trans (by simp; omega)
                      clear hall
                      subst htk
                      simp [theLoop, Tryz.f159, loopsAll, Lp_some, and_assoc, -rd, rd_ne, rd_eq, -loadS, -storeS, sfx_load0, sfx_load, sfx_store0, sfx_store, loadS_cons0, storeS_cons0, cellsOf, hS, h0, h1, h5, hlt, hi0, hi, hx, hml, ha, hb, hc, hd, he, c1, hn1, hn2, hw]
                      done
            · have h2 := hall (by simp)
              clear htk hall
              subst h2
              cases fe
              · simp [theLoop, Tryz.f159, loopsAll, Lp_some, and_assoc, -rd, rd_ne, rd_eq, -loadS, -storeS, sfx_load0, sfx_load, sfx_store0, sfx_store, loadS_cons0, storeS_cons0, cellsOf, hS, h0, h1, h5, hlt, hi0, hi, hx, hml, ha, hb, hc, hd, he, hw]
                refine ⟨_, _, ?_, rfl, rfl, ?_⟩ <;> simp [-rd, rd_ne, rd_eq, hS]
              · simp [theLoop, Tryz.f159, loopsAll, Lp_some, and_assoc, -rd, rd_ne, rd_eq, -loadS, -storeS, sfx_load0, sfx_load, sfx_store0, sfx_store, loadS_cons0, storeS_cons0, cellsOf, hS, h0, h1, h5, hlt, hi0, hi, hx, hml, ha, hb, hc, hd, he, hw]
                refine ⟨_, _, ?_, rfl, rfl, ?_⟩ <;> simp [-rd, rd_ne, rd_eq, hS]
          · have h2 := hall (by simp)
            clear htk hall
            subst h2
            cases fe
            · simp [theLoop, Tryz.f159, loopsAll, Lp_some, and_assoc, -rd, rd_ne, rd_eq, -loadS, -storeS, sfx_load0, sfx_load, sfx_store0, sfx_store, loadS_cons0, storeS_cons0, cellsOf, hS, h0, h1, h5, hlt, hi0, hi, hx, hml, ha, hb, hc, hd, hw]
              refine ⟨_, _, ?_, rfl, rfl, ?_⟩ <;> simp [-rd, rd_ne, rd_eq, hS]
            · simp [theLoop, Tryz.f159, loopsAll, Lp_some, and_assoc, -rd, rd_ne, rd_eq, -loadS, -storeS, sfx_load0, sfx_load, sfx_store0, sfx_store, loadS_cons0, storeS_cons0, cellsOf, hS, h0, h1, h5, hlt, hi0, hi, hx, hml, ha, hb, hc, hd, hw]
              refine ⟨_, _, ?_, rfl, rfl, ?_⟩ <;> simp [-rd, rd_ne, rd_eq, hS]
        · have h2 := hall (by simp)
          clear htk hall
          subst h2
          cases fe
          · simp [theLoop, Tryz.f159, loopsAll, Lp_some, and_assoc, -rd, rd_ne, rd_eq, -loadS, -storeS, sfx_load0, sfx_load, sfx_store0, sfx_store, loadS_cons0, storeS_cons0, cellsOf, hS, h0, h1, h5, hlt, hi0, hi, hx, hml, ha, hb, hc, hw]
            refine ⟨_, _, ?_, rfl, rfl, ?_⟩ <;> simp [-rd, rd_ne, rd_eq, hS]
          · simp [theLoop, Tryz.f159, loopsAll, Lp_some, and_assoc, -rd, rd_ne, rd_eq, -loadS, -storeS, sfx_load0, sfx_load, sfx_store0, sfx_store, loadS_cons0, storeS_cons0, cellsOf, hS, h0, h1, h5, hlt, hi0, hi, hx, hml, ha, hb, hc, hw]
            refine ⟨_, _, ?_, rfl, rfl, ?_⟩ <;> simp [-rd, rd_ne, rd_eq, hS]
      · have h2 := hall (by simp)
        clear htk hall
        subst h2
        cases fe
        · simp [theLoop, Tryz.f159, loopsAll, Lp_some, and_assoc, -rd, rd_ne, rd_eq, -loadS, -storeS, sfx_load0, sfx_load, sfx_store0, sfx_store, loadS_cons0, storeS_cons0, cellsOf, hS, h0, h1, h5, hlt, hi0, hi, hx, hml, ha, hb, hw]
          refine ⟨_, _, ?_, rfl, rfl, ?_⟩ <;> simp [-rd, rd_ne, rd_eq, hS]
        · simp [theLoop, Tryz.f159, loopsAll, Lp_some, and_assoc, -rd, rd_ne, rd_eq, -loadS, -storeS, sfx_load0, sfx_load, sfx_store0, sfx_store, loadS_cons0, storeS_cons0, cellsOf, hS, h0, h1, h5, hlt, hi0, hi, hx, hml, ha, hb, hw]
          refine ⟨_, _, ?_, rfl, rfl, ?_⟩ <;> simp [-rd, rd_ne, rd_eq, hS]
    · have h2 := hall (by simp)
      clear htk hall
      subst h2
      cases fe
      · simp [theLoop, Tryz.f159, loopsAll, Lp_some, and_assoc, -rd, rd_ne, rd_eq, -loadS, -storeS, sfx_load0, sfx_load, sfx_store0, sfx_store, loadS_cons0, storeS_cons0, cellsOf, hS, h0, h1, h5, hlt, hi0, hi, hx, hml, ha, hw]
        refine ⟨_, _, ?_, rfl, rfl, ?_⟩ <;> simp [-rd, rd_ne, rd_eq, hS]
      · simp [theLoop, Tryz.f159, loopsAll, Lp_some, and_assoc, -rd, rd_ne, rd_eq, -loadS, -storeS, sfx_load0, sfx_load, sfx_store0, sfx_store, loadS_cons0, storeS_cons0, cellsOf, hS, h0, h1, h5, hlt, hi0, hi, hx, hml, ha, hw]
        refine ⟨_, _, ?_, rfl, rfl, ?_⟩ <;> simp [-rd, rd_ne, rd_eq, hS]
  · rintro st ⟨J, S, rfl, hS, he, h0, h1, h5⟩
    have hml : (l.map Rt.D).length = l.length := by simp
    rw [List.take_length] at he
    generalize l.any (Rt.bad k) = z at he ⊢
    subst he
    generalize l.map Rt.D = L at hml h0 ⊢
    simp [theLoop, Tryz.f159, loopsAll, Lp_some, and_assoc, -rd, rd_ne, rd_eq, hS, h0, h1, h5, hml]
    refine ⟨_, _, ?_, rfl, rfl⟩ <;> simp [-rd, rd_ne, rd_eq, hS]

theorem r_routeRight (l : List Rt) (k : Int) (hwf : ∀ r ∈ l, r.f.wf) (σ : Store) : callIt E1 (evI E1) 159 [.d (.slice (l.map Rt.D)), .d (.int .i64 k)] σ = some (.d (.bool (routesOk l k)), σ) := by
  refine call_run (fn := Tryz.f159) 17 rfl rfl rfl Tryz.func159 rfl rfl ?_ rfl
  unfold routesOk
  have hml : (l.map Rt.D).length = l.length := by simp
  have hloop := fun hl => l_rRight 17 l k hl hwf
  generalize l.any (Rt.bad k) = z at hloop ⊢
  generalize l.map Rt.D = L at hml hloop ⊢
  generalize ha : decide (k < 1) = xa
  generalize hb : decide (k > 4) = xb
  generalize hc : decide ((l.length : Int) > 16) = xc
  simp at hb hc
  cases xa
  · cases xb
    · cases xc
      · have hl : l.length ≤ 16 := by have := of_decide_eq_false hc; omega
        simp [Tryz.f159, ec_loop, hml, ha, hb, hc]
        generalize hLL : loopN _ _ _ = LL
        obtain ⟨r, rfl, J, S, hS, h⟩ := at_loop hLL (hloop hl _ rfl rfl rfl rfl _ 17 (by omega))
        rcases h with ⟨rfl, rfl⟩ | ⟨rfl, h4, rfl⟩
        · simp [-rd, rd_set, hS]
        · have h4' := rd_el h4 (by omega)
          simp [-rd, rd_set, hS, h4, h4']
      · simp [Tryz.f159, ec_loop, hml, ha, hb, hc]
    · simp [Tryz.f159, ec_loop, hml, ha, hb]
  · simp [Tryz.f159, ec_loop, hml, ha]
end Go.Proofs

set_option linter.unusedVariables false
set_option linter.unusedSimpArgs false
set_option maxRecDepth 100000
set_option maxHeartbeats 8000000
namespace Go.Proofs
open Go.RowKit Go.Shelf Go.Pv

theorem l_rIn (m : Nat) (l : List Int) (n : Int) (hl : l.length ≤ 1000000) (S : List PV) (hS : S.length = 18) (h0 : rd S 0 = .d (.slice (l.map intD))) (h1 : rd S 1 = .d (.int .i64 n)) (h5 : rd S 5 = .d (.int .i64 0)) (J : Store) (k : Nat) (hk : l.length < k) :
    Lp (loopN (evCode E1 (evI E1) m (theLoop Tryz.f174 0)) k ⟨S, J⟩) fun r => ∃ (J : Store) (S' : List PV), S'.length = 18 ∧ ((r = (.exit 0, ⟨S', J⟩) ∧ l.contains n = false) ∨ (r = (.ret, ⟨S', J⟩) ∧ rd S' 4 = .d (.bool true) ∧ l.contains n = true)) := by
  have hml : (l.map intD).length = l.length := by simp
  refine loop_inv (fun i st => ∃ (J : Store) (S : List PV), st = ⟨S, J⟩ ∧ S.length = 18 ∧ (l.take i).any (fun x => x == n) = false ∧ rd S 0 = .d (.slice (l.map intD)) ∧ rd S 1 = .d (.int .i64 n) ∧ rd S 5 = .d (.int .i64 i)) _ l.length ?_ ?_ k 0 _ (by omega) (by omega) ⟨J, S, rfl, hS, rfl, h0, h1, h5⟩
  · rintro i st hi ⟨J, S, rfl, hS, he, h0, h1, h5⟩
    have hlt : (i : Int) < (l.length : Int) := by omega
    have htk := any_take (p := fun x => x == n) hi
    rw [he, Bool.false_or] at htk
    have hall : (l[i] == n) = true → l.contains n = true := fun h => by
      rw [List.contains_iff_mem, ← eq_of_beq h]; exact List.getElem_mem hi
    have hx : (l.map intD)[i]? = some (intD l[i]) := by simp [hi]
    generalize (l.take (i + 1)).any (fun x => x == n) = z1 at htk ⊢
    generalize l.contains n = z2 at hall ⊢
    generalize l[i] = x at htk hall hx
    generalize l.map intD = L at hx hml h0 ⊢
    obtain ⟨hi0, hx⟩ := List.getElem?_eq_some_iff.1 hx
    simp only [intD] at hx
    clear he
    cases hc : (x == n)
    · rw [hc] at htk
      subst htk
      clear hall
      simp [theLoop, Tryz.f174, loopsAll, Lp_some, and_assoc, -rd, rd_ne, rd_eq, hS, h0, h1, h5, hlt, hi, hi0, hml, hx, hc, wrap_succ i (by omega)]
      done
    · have h2 := hall hc
      subst h2
      simp [theLoop, Tryz.f174, loopsAll, Lp_some, and_assoc, -rd, rd_ne, rd_eq, hS, h0, h1, h5, hlt, hi, hi0, hml, hx, hc]
      refine ⟨_, _, ?_, rfl, rfl, ?_⟩ <;> simp [-rd, rd_ne, rd_eq, hS]
  · rintro st ⟨J, S, rfl, hS, he, h0, h1, h5⟩
    rw [List.take_length] at he
    have hc : l.contains n = false := by
      rw [List.any_eq_false] at he
      cases hz : l.contains n
      · rfl
      · rw [List.contains_iff_mem] at hz
        have := he n hz
        simp at this
    generalize l.contains n = z at hc ⊢
    subst hc
    generalize l.map intD = L at hml h0 ⊢
    simp [theLoop, Tryz.f174, loopsAll, Lp_some, and_assoc, -rd, rd_ne, rd_eq, hS, h0, h1, h5, hml]
    refine ⟨_, _, ?_, rfl, rfl⟩ <;> simp [-rd, rd_ne, rd_eq, hS]
theorem r_In12 (l : List Int) (n : Int) (hl : l.length ≤ 1000) (σ : Store) : callIt E1 (evI E1) 174 [.d (.slice (l.map intD)), .d (.int .i64 n)] σ = some (.d (.bool (l.contains n)), σ) := by
  refine call_run (fn := Tryz.f174) 1001 rfl rfl rfl Tryz.func174 rfl rfl ?_ rfl
  have hloop := l_rIn 1001 l n (by omega)
  generalize l.contains n = z at hloop ⊢
  generalize l.map intD = L at hloop ⊢
  simp [Tryz.f174, ec_loop]
  generalize hLL : loopN _ _ _ = LL
  obtain ⟨r, rfl, J, S, hS, h⟩ := at_loop hLL (hloop _ rfl rfl rfl rfl _ 1001 (by omega))
  rcases h with ⟨rfl, rfl⟩ | ⟨rfl, h4, rfl⟩
  · simp [-rd, rd_ne, rd_eq, hS]
  · simp [-rd, rd_ne, rd_eq, hS, h4, rd_el h4 (by omega)]

def leads (l : List Rt) (s : List Int) (b : Int) : Bool := l.any fun r => (r.b == b) && s.contains r.a
def onP (l : List Rt) (s : List Int) (k : Nat) : List Int := ((List.range k).map fun i : Nat => (i : Int)).filter (leads l s)
theorem onP_4 (l : List Rt) (s : List Int) : onP l s 4 = onL l s := rfl
theorem onP_succ (l : List Rt) (s : List Int) (k : Nat) : onP l s (k + 1) = onP l s k ++ if leads l s k then [(k : Int)] else [] := by
  unfold onP
  rw [List.range_succ, List.map_append, List.filter_append]
  congr 1
  simp only [List.map_cons, List.map_nil, List.filter_cons, List.filter_nil]
theorem onP_len (l : List Rt) (s : List Int) (k : Nat) : (onP l s k).length ≤ k := by
  unfold onP
  refine Nat.le_trans (List.length_filter_le _ _) ?_
  simp
theorem l_on1 (m : Nat) (l : List Rt) (s : List Int) (hl : l.length ≤ 16) (hs : s.length ≤ 1000) (b : Nat) (hb4 : b < 4) (v5 : PV) (S : List PV) (hS : S.length = 45) (h0 : rd S 0 = .d (.slice (l.map Rt.D))) (h1 : rd S 1 = .d (.slice (s.map intD))) (h5 : rd S 5 = v5) (h6 : rd S 6 = .d (.int .i64 b)) (h7 : rd S 7 = .d (.bool false)) (h8 : rd S 8 = .d (.int .i64 0)) (J : Store) (k : Nat) (hk : l.length < k) :
    Lp (loopN (evCode E1 (evI E1) m (theLoop Tryz.f173 1)) k ⟨S, J⟩) fun r => ∃ (S' : List PV), r = (.exit 2, ⟨S', J⟩) ∧ S'.length = 45 ∧ rd S' 0 = .d (.slice (l.map Rt.D)) ∧ rd S' 1 = .d (.slice (s.map intD)) ∧ rd S' 5 = v5 ∧ rd S' 6 = .d (.int .i64 b) ∧ rd S' 7 = .d (.bool (leads l s b)) := by
  have hml : (l.map Rt.D).length = l.length := by simp
  refine loop_inv (fun i st => ∃ (S : List PV), st = ⟨S, J⟩ ∧ S.length = 45 ∧ rd S 0 = .d (.slice (l.map Rt.D)) ∧ rd S 1 = .d (.slice (s.map intD)) ∧ rd S 5 = v5 ∧ rd S 6 = .d (.int .i64 b) ∧ rd S 7 = .d (.bool (leads (l.take i) s b)) ∧ rd S 8 = .d (.int .i64 i)) _ l.length ?_ ?_ k 0 _ (by omega) (by omega) ⟨S, rfl, hS, h0, h1, h5, h6, h7, h8⟩
  · rintro i st hi ⟨S, rfl, hS, h0, h1, h5, h6, h7, h8⟩
    have hlt : (i : Int) < (l.length : Int) := by omega
    have htk : leads (l.take (i + 1)) s b = (leads (l.take i) s b || ((l[i].b == (b : Int)) && s.contains l[i].a)) := by
      unfold leads; exact any_take hi
    have hx : (l.map Rt.D)[i]? = some (l[i]).D := by simp [hi]
    have c1 := fun σ => r_In12 s l[i].a hs σ
    rw [htk]
    clear htk
    generalize leads (l.take i) s b = z0 at h7 ⊢
    generalize l[i] = r at hx c1 ⊢
    obtain ⟨ra, rb, ⟨fe, mask, mt⟩, nn⟩ := r
    simp only [Rt.D] at hx c1 ⊢
    generalize s.contains ra = z at c1 ⊢
    generalize s.map intD = Sd at h1 c1 ⊢
    generalize l.map Rt.D = L at hx hml h0 ⊢
    obtain ⟨hi0, hx⟩ := List.getElem?_eq_some_iff.1 hx
    cases z0
    · cases hc : (rb == (b : Int))
      · simp [theLoop, Tryz.f173, loopsAll, Lp_some, and_assoc, -rd, rd_ne, rd_eq, hS, h0, h1, h5, h6, h7, h8, hlt, hi, hi0, hml, hx, hc, c1, wrap_succ i (by omega)]
        done
      · simp [theLoop, Tryz.f173, loopsAll, Lp_some, and_assoc, -rd, rd_ne, rd_eq, hS, h0, h1, h5, h6, h7, h8, hlt, hi, hi0, hml, hx, hc, c1, wrap_succ i (by omega)]
        done
    · simp [theLoop, Tryz.f173, loopsAll, Lp_some, and_assoc, -rd, rd_ne, rd_eq, hS, h0, h1, h5, h6, h7, h8, hlt, hi, hi0, hml, hx, c1, wrap_succ i (by omega)]
      done
  · rintro st ⟨S, rfl, hS, h0, h1, h5, h6, h7, h8⟩
    rw [List.take_length] at h7
    generalize leads l s b = z at h7 ⊢
    generalize l.map Rt.D = L at hml h0 ⊢
    generalize s.map intD = Sd at h1 ⊢
    simp [theLoop, Tryz.f173, loopsAll, Lp_some, and_assoc, -rd, rd_ne, rd_eq, hS, h0, h1, h5, h6, h7, h8, hml]
    done
theorem l_on0 (m : Nat) (hm : 100 < m) (l : List Rt) (s : List Int) (hl : l.length ≤ 16) (hs : s.length ≤ 1000) (S : List PV) (hS : S.length = 45) (h0 : rd S 0 = .d (.slice (l.map Rt.D))) (h1 : rd S 1 = .d (.slice (s.map intD))) (h5 : rd S 5 = acc []) (h6 : rd S 6 = .d (.int .i64 0)) (J : Store) (k : Nat) (hk : 4 < k) :
    Lp (loopN (evCode E1 (evI E1) m (theLoop Tryz.f173 0)) k ⟨S, J⟩) fun r => ∃ (S' : List PV), r = (.exit 0, ⟨S', J⟩) ∧ S'.length = 45 ∧ rd S' 5 = acc ((onL l s).map intD) := by
  rw [← onP_4]
  refine loop_inv (fun b st => ∃ (S : List PV), st = ⟨S, J⟩ ∧ S.length = 45 ∧ rd S 0 = .d (.slice (l.map Rt.D)) ∧ rd S 1 = .d (.slice (s.map intD)) ∧ rd S 5 = acc ((onP l s b).map intD) ∧ rd S 6 = .d (.int .i64 b)) _ 4 ?_ ?_ k 0 _ (by omega) (by omega) ⟨S, rfl, hS, h0, h1, h5, h6⟩
  · rintro b st hb ⟨S, rfl, hS, h0, h1, h5, h6⟩
    have hlt : (b : Int) < 4 := by omega
    have hloop := l_on1 m l s hl hs b hb
    have hA := onP_succ l s b
    have hp := onP_len l s b
    have happ := row_app (A := onP l s b) (B := [(b : Int)]) (by simp; omega)
    rw [hA]
    generalize onP l s b = A at h5 happ hA ⊢
    generalize leads l s b = z at hloop hA ⊢
    generalize l.map Rt.D = L at h0 hloop ⊢
    generalize s.map intD = Sd at h1 hloop ⊢
    simp only [List.map_cons, List.map_nil, intD] at happ
    clear hA
    cases z
    · simp only [Bool.false_eq_true, if_false, List.append_nil]
      generalize A.map intD = A0 at h5 ⊢
      simp [theLoop, Tryz.f173, loopsAll, ec_loop, Lp_some, and_assoc, -rd, rd_ne, rd_eq, hS, h0, h1, h5, h6, hlt]
      generalize hLL : loopN _ _ _ = LL
      obtain ⟨r, rfl, S', rfl, hS', g0, g1, g5, g6, g7⟩ := at_loop hLL (hloop _ _ (by simp [hS]) (by simp [-rd, rd_ne, rd_eq, hS, h0]) (by simp [-rd, rd_ne, rd_eq, hS, h1]) (by simp [-rd, rd_ne, rd_eq, hS, h5]; rfl) (by simp [-rd, rd_ne, rd_eq, hS, h6]) (by simp [-rd, rd_ne, rd_eq, hS]) (by simp [-rd, rd_ne, rd_eq, hS]) J m (by omega))
      simp [Lp_some, and_assoc, -rd, rd_ne, rd_eq, hS', g0, g1, g5, g6, g7, wrap_succ b (by omega)]
      done
    · simp only [if_true]
      generalize (A ++ [(b : Int)]).map intD = A1 at happ ⊢
      generalize A.map intD = A0 at h5 happ
      simp [theLoop, Tryz.f173, loopsAll, ec_loop, Lp_some, and_assoc, -rd, rd_ne, rd_eq, hS, h0, h1, h5, h6, hlt]
      generalize hLL : loopN _ _ _ = LL
      obtain ⟨r, rfl, S', rfl, hS', g0, g1, g5, g6, g7⟩ := at_loop hLL (hloop _ _ (by simp [hS]) (by simp [-rd, rd_ne, rd_eq, hS, h0]) (by simp [-rd, rd_ne, rd_eq, hS, h1]) (by simp [-rd, rd_ne, rd_eq, hS, h5]; rfl) (by simp [-rd, rd_ne, rd_eq, hS, h6]) (by simp [-rd, rd_ne, rd_eq, hS]) (by simp [-rd, rd_ne, rd_eq, hS]) J m (by omega))
      simp [Lp_some, and_assoc, -rd, rd_ne, rd_eq, rowsFrom, cellsOf, hS', g0, g1, g5, g6, g7, happ, wrap_succ b (by omega)]
      done
  · rintro st ⟨S, rfl, hS, h0, h1, h5, h6⟩
    generalize (onP l s 4).map intD = A at h5 ⊢
    simp [theLoop, Tryz.f173, loopsAll, Lp_some, and_assoc, -rd, rd_ne, rd_eq, hS, h0, h1, h5, h6]
    done
theorem r_On (l : List Rt) (s : List Int) (hl : l.length ≤ 16) (hs : s.length ≤ 1000) (σ : Store) : callIt E1 (evI E1) 173 [.d (.slice (l.map Rt.D)), .d (.slice (s.map intD))] σ = some (.d (.slice ((onL l s).map intD)), σ) := by
  refine call_runF (fn := Tryz.f173) 101 rfl rfl rfl Tryz.func173 rfl rfl ?_
  have hloop := l_on0 101 (by omega) l s hl hs
  generalize (onL l s).map intD = A at hloop ⊢
  generalize l.map Rt.D = L at hloop ⊢
  generalize s.map intD = Sd at hloop ⊢
  simp [Tryz.f173, ec_loop, rowsFrom, acc_nil]
  generalize hLL : loopN _ _ _ = LL
  obtain ⟨r, rfl, S, rfl, hS, h5⟩ := at_loop hLL (hloop _ rfl rfl rfl rfl rfl _ 101 (by omega))
  simp [-rd, rd_ne, rd_eq, hS, h5]
end Go.Proofs

set_option linter.unusedVariables false
set_option linter.unusedSimpArgs false
set_option maxRecDepth 100000
set_option maxHeartbeats 8000000
namespace Go.Proofs
open Go.RowKit Go.Shelf Go.Pv

theorem onL_len (l : List Rt) (s : List Int) : (onL l s).length ≤ 4 := by rw [← onP_4]; exact onP_len l s 4
theorem itOn_len (l : List Rt) (b : Int) : ∀ i, (itOn l i [b]).length ≤ 1000
  | 0 => by simp [itOn]
  | i + 1 => by rw [itOn_succ]; have := onL_len l (itOn l i [b]); omega
theorem l_rLoop1 (m : Nat) (l : List Rt) (K b : Nat) (hl : l.length ≤ 16) (hK : K ≤ 4) (hb : b < 4) (S : List PV) (hS : S.length = 30) (h0 : rd S 0 = .d (.slice (l.map Rt.D))) (h1 : rd S 1 = .d (.int .i64 K)) (h4 : rd S 4 = .d (.bool false)) (h5 : rd S 5 = .d (.int .i64 b)) (h6 : rd S 6 = acc [[.int .i64 b]]) (h7 : rd S 7 = .d (.int .i64 0)) (J : Store) (k : Nat) (hk : K < k) :
    Lp (loopN (evCode E1 (evI E1) m (theLoop Tryz.f122 1)) k ⟨S, J⟩) fun r => ∃ (S' : List PV), S'.length = 30 ∧ rd S' 0 = .d (.slice (l.map Rt.D)) ∧ rd S' 1 = .d (.int .i64 K) ∧ rd S' 5 = .d (.int .i64 b) ∧ rd S' 4 = .d (.bool false) ∧ ((r = (.exit 2, ⟨S', J⟩) ∧ noBack l b K [(b : Int)] = true) ∨ (r = (.ret, ⟨S', J⟩) ∧ noBack l b K [(b : Int)] = false)) := by
  refine loop_inv (fun i st => ∃ (S : List PV), st = ⟨S, J⟩ ∧ S.length = 30 ∧ noBack l b K [(b : Int)] = noBack l b (K - i) (itOn l i [(b : Int)]) ∧ rd S 0 = .d (.slice (l.map Rt.D)) ∧ rd S 1 = .d (.int .i64 K) ∧ rd S 4 = .d (.bool false) ∧ rd S 5 = .d (.int .i64 b) ∧ rd S 6 = (if i = 0 then acc [[.int .i64 b]] else .d (.slice ((itOn l i [(b : Int)]).map intD))) ∧ rd S 7 = .d (.int .i64 i)) _ K ?_ ?_ k 0 _ (by omega) (by omega) ⟨S, rfl, hS, rfl, h0, h1, h4, h5, by rw [if_pos rfl]; exact h6, h7⟩
  · rintro i st hi ⟨S, rfl, hS, he, h0, h1, h4, h5, h6, h7⟩
    have hlt : (i : Int) < (K : Int) := by omega
    have hKi : K - i = (K - (i + 1)) + 1 := by omega
    have c1 := fun σ => r_On l (itOn l i [(b : Int)]) hl (itOn_len l b i) σ
    rw [← itOn_succ] at c1
    have c2 := fun σ => r_In12 (itOn l (i + 1) [(b : Int)]) b (itOn_len l b (i + 1)) σ
    rw [hKi, noBack, ← itOn_succ] at he
    rw [if_neg (by omega : ¬ i + 1 = 0)]
    generalize noBack l b (K - (i + 1)) (itOn l (i + 1) [(b : Int)]) = z1 at he ⊢
    generalize noBack l b K [(b : Int)] = z2 at he ⊢
    generalize (itOn l (i + 1) [(b : Int)]).contains (b : Int) = z at he c2
    generalize (itOn l (i + 1) [(b : Int)]).map intD = A1 at c1 c2 ⊢
    have hA0 : i = 0 → (itOn l i [(b : Int)]).map intD = [[.int .i64 b]] := by rintro rfl; rfl
    generalize (itOn l i [(b : Int)]).map intD = A0 at c1 h6 hA0
    generalize l.map Rt.D = L at h0 c1 ⊢
    by_cases hi0 : i = 0
    · subst hi0
      rw [if_pos rfl] at h6
      have hA0 := hA0 rfl
      subst hA0
      simp only [acc] at h6
      have hst : (PV.os [[DV.int .i64 (b : Int)]]).strip.strip = .d (.slice [[.int .i64 b]]) := rfl
      cases z
      · simp only [Bool.not_false, Bool.true_and] at he
        subst he
        simp [theLoop, Tryz.f122, loopsAll, Lp_some, and_assoc, -rd, rd_ne, rd_eq, hS, h0, h1, h4, h5, h6, h7, hlt, hi, hst, c1, c2, show IntKind.i64.wrap 1 = 1 from wrap_ok (by omega) (by omega)]
        done
      · simp only [Bool.not_true, Bool.false_and] at he
        subst he
        simp [theLoop, Tryz.f122, loopsAll, Lp_some, and_assoc, -rd, rd_ne, rd_eq, hS, h0, h1, h4, h5, h6, h7, hlt, hi, hst, c1, c2]
        refine ⟨_, ?_, ?_, ?_, ?_, ?_, rfl⟩ <;> simp [-rd, rd_ne, rd_eq, hS, h0, h1, h4, h5]
    · rw [if_neg hi0] at h6
      cases z
      · simp only [Bool.not_false, Bool.true_and] at he
        subst he
        simp [theLoop, Tryz.f122, loopsAll, Lp_some, and_assoc, -rd, rd_ne, rd_eq, hS, h0, h1, h4, h5, h6, h7, hlt, hi, c1, c2, wrap_succ i (by omega)]
        done
      · simp only [Bool.not_true, Bool.false_and] at he
        subst he
        simp [theLoop, Tryz.f122, loopsAll, Lp_some, and_assoc, -rd, rd_ne, rd_eq, hS, h0, h1, h4, h5, h6, h7, hlt, hi, c1, c2]
        refine ⟨_, ?_, ?_, ?_, ?_, ?_, rfl⟩ <;> simp [-rd, rd_ne, rd_eq, hS, h0, h1, h4, h5]
  · rintro st ⟨S, rfl, hS, he, h0, h1, h4, h5, h6, h7⟩
    rw [Nat.sub_self] at he
    simp only [noBack] at he
    rw [he]
    generalize l.map Rt.D = L at h0 ⊢
    simp [theLoop, Tryz.f122, loopsAll, Lp_some, and_assoc, -rd, rd_ne, rd_eq, hS, h0, h1, h4, h5, h7]
    refine ⟨_, ?_, ?_, ?_, ?_, ?_, rfl⟩ <;> simp [-rd, rd_ne, rd_eq, hS, h0, h1, h4, h5]
theorem l_rLoop0 (m : Nat) (hm : 100 < m) (l : List Rt) (K : Nat) (hl : l.length ≤ 16) (hK : K ≤ 4) (S : List PV) (hS : S.length = 30) (h0 : rd S 0 = .d (.slice (l.map Rt.D))) (h1 : rd S 1 = .d (.int .i64 K)) (h4 : rd S 4 = .d (.bool false)) (h5 : rd S 5 = .d (.int .i64 0)) (J : Store) (k : Nat) (hk : K < k) :
    Lp (loopN (evCode E1 (evI E1) m (theLoop Tryz.f122 0)) k ⟨S, J⟩) fun r => ∃ (S' : List PV), S'.length = 30 ∧ ((r = (.exit 0, ⟨S', J⟩) ∧ (List.range K).all (fun b => noBack l (b : Int) K [(b : Int)]) = true) ∨ (r = (.ret, ⟨S', J⟩) ∧ rd S' 4 = .d (.bool false) ∧ (List.range K).all (fun b => noBack l (b : Int) K [(b : Int)]) = false)) := by
  refine loop_inv (fun i st => ∃ (S : List PV), st = ⟨S, J⟩ ∧ S.length = 30 ∧ (List.range i).all (fun b => noBack l (b : Int) K [(b : Int)]) = true ∧ rd S 0 = .d (.slice (l.map Rt.D)) ∧ rd S 1 = .d (.int .i64 K) ∧ rd S 4 = .d (.bool false) ∧ rd S 5 = .d (.int .i64 i)) _ K ?_ ?_ k 0 _ (by omega) (by omega) ⟨S, rfl, hS, rfl, h0, h1, h4, h5⟩
  · rintro i st hi ⟨S, rfl, hS, he, h0, h1, h4, h5⟩
    have hlt : (i : Int) < (K : Int) := by omega
    have hloop := l_rLoop1 m l K i hl hK (by omega)
    have hs : (List.range (i + 1)).all (fun b => noBack l (b : Int) K [(b : Int)]) = noBack l i K [(i : Int)] := by
      rw [List.range_succ, List.all_append, he]; simp
    have hf : noBack l i K [(i : Int)] = false → (List.range K).all (fun b => noBack l (b : Int) K [(b : Int)]) = false := by
      intro h
      rw [List.all_eq_false]
      exact ⟨i, by simpa using hi, by simp [h]⟩
    rw [hs]
    clear he hs
    generalize (List.range K).all (fun b => noBack l (b : Int) K [(b : Int)]) = z2 at hf ⊢
    generalize noBack l i K [(i : Int)] = z1 at hf hloop ⊢
    generalize l.map Rt.D = L at h0 hloop ⊢
    simp [theLoop, Tryz.f122, loopsAll, ec_loop, rowsFrom, cellsOf, Lp_some, and_assoc, -rd, rd_ne, rd_eq, hS, h0, h1, h4, h5, hlt]
    generalize hLL : loopN _ _ _ = LL
    obtain ⟨r, rfl, S', hS', g0, g1, g5, g4, hr⟩ := at_loop hLL (hloop _ (by simp [hS]) (by simp [-rd, rd_ne, rd_eq, hS, h0]) (by simp [-rd, rd_ne, rd_eq, hS, h1]) (by simp [-rd, rd_ne, rd_eq, hS, h4]) (by simp [-rd, rd_ne, rd_eq, hS, h5]) (by simp [-rd, rd_ne, rd_eq, hS]) (by simp [-rd, rd_ne, rd_eq, hS]) J m (by omega))
    rcases hr with ⟨rfl, rfl⟩ | ⟨rfl, rfl⟩
    · simp [Lp_some, and_assoc, -rd, rd_ne, rd_eq, hS', g0, g1, g4, g5, wrap_succ i (by omega)]
      done
    · have h2 := hf rfl
      subst h2
      simp [Lp_some, and_assoc, -rd, rd_ne, rd_eq, hS', g0, g1, g4, g5]
      refine ⟨_, ?_, rfl, ?_⟩ <;> simp [-rd, rd_ne, rd_eq, hS', g4]
  · rintro st ⟨S, rfl, hS, he, h0, h1, h4, h5⟩
    rw [he]
    generalize l.map Rt.D = L at h0 ⊢
    simp [theLoop, Tryz.f122, loopsAll, Lp_some, and_assoc, -rd, rd_ne, rd_eq, hS, h0, h1, h4, h5]
    done
theorem r_Loopless (l : List Rt) (K : Nat) (hwf : ∀ r ∈ l, r.f.wf) (σ : Store) : callIt E1 (evI E1) 122 [.d (.slice (l.map Rt.D)), .d (.int .i64 K)] σ = some (.d (.bool (loopless l K)), σ) := by
  refine call_run (fn := Tryz.f122) 101 rfl rfl rfl Tryz.func122 rfl rfl ?_ rfl
  rw [← refLoop_eq]
  unfold refLoop
  have c1 := fun σ => r_routeRight l K hwf σ
  cases hok : routesOk l K
  · rw [hok] at c1
    generalize l.map Rt.D = L at c1 ⊢
    simp [Tryz.f122, ec_loop, c1]
  · rw [hok] at c1
    obtain ⟨k1, k2, k3, _⟩ := routesOk_on hok
    have hloop := l_rLoop0 101 (by omega) l K k3 (by omega)
    rw [Int.toNat_natCast]
    generalize (List.range K).all (fun b => noBack l (b : Int) K [(b : Int)]) = z at hloop ⊢
    generalize l.map Rt.D = L at c1 hloop ⊢
    simp [Tryz.f122, ec_loop, c1]
    generalize hLL : loopN _ _ _ = LL
    obtain ⟨r, rfl, S, hS, hr⟩ := at_loop hLL (hloop _ rfl rfl rfl rfl rfl _ 101 (by omega))
    rcases hr with ⟨rfl, rfl⟩ | ⟨rfl, h4, rfl⟩
    · simp [-rd, rd_ne, rd_eq, hS]
    · simp [-rd, rd_ne, rd_eq, hS, h4, rd_el h4 (by omega)]

theorem l_rHops (m : Nat) (l : List Rt) (k : Int) (f : Fr) (hl : l.length ≤ 1000) (hn : ∀ r ∈ l, -1 ≤ r.n) (S : List PV) (hS : S.length = 57) (h0 : rd S 0 = .d (.slice (l.map Rt.D))) (h1 : rd S 1 = .d (.int .i64 k)) (h5 : rd S 5 = .ptr 0 0) (h7 : rd S 7 = acc []) (h8 : rd S 8 = .d (.int .i64 0)) (J : Store) (n : Nat) (hn' : l.length < n) :
    Lp (loopN (evCode E1 (evI E1) m (theLoop Tryz.f123 0)) n ⟨S, cellsOf f.P :: J⟩) fun r => ∃ (J : Store) (S' : List PV), r = (.exit 0, ⟨S', cellsOf f.P :: J⟩) ∧ S'.length = 57 ∧ rd S' 7 = acc ((hopsL l k f).map Hp.D) := by
  refine loop_inv (fun i st => ∃ (J : Store) (S : List PV), st = ⟨S, cellsOf f.P :: J⟩ ∧ S.length = 57 ∧ rd S 0 = .d (.slice (l.map Rt.D)) ∧ rd S 1 = .d (.int .i64 k) ∧ rd S 5 = .ptr 0 0 ∧ rd S 7 = acc ((hopsL (l.take i) k f).map Hp.D) ∧ rd S 8 = .d (.int .i64 i)) _ l.length ?_ ?_ n 0 _ (by omega) (by omega) ⟨J, S, rfl, hS, h0, h1, h5, h7, h8⟩
  · rintro i st hi ⟨J, S, rfl, hS, h0, h1, h5, h7, h8⟩
    have hlt : (i : Int) < (l.length : Int) := by omega
    have htk := hopsL_succ l k f hi
    have hA0 : (hopsL (l.take i) k f).length ≤ i := Nat.le_trans (hopsL_len _ _ _) (by simp; omega)
    have hml : (l.map Rt.D).length = l.length := by simp
    have c1 := fun σ => r_takes l[i].f f σ
    have hx : (l.map Rt.D)[i]? = some (l[i]).D := by simp [hi]
    have hnr := hn l[i] (List.getElem_mem hi)
    have ha : ∀ h : Hp, evAppend Tryz.prog 98 (acc ((hopsL (l.take i) k f).map Hp.D)) (.d (.slice [h.D])) = some (acc ((hopsL (l.take i) k f ++ [h]).map Hp.D)) := fun h => appHp _ h (by omega)
    unfold Rt.hop at htk
    generalize hopsL (l.take (i + 1)) k f = A1 at htk ⊢
    generalize hopsL (l.take i) k f = A0 at htk ha h7
    generalize l[i] = r at htk c1 hx hnr
    obtain ⟨a, b, fl, nn⟩ := r
    simp only at htk c1 hx hnr
    generalize fl.takes f = tk at htk c1
    obtain ⟨fe, fid, frm, fln, fdata⟩ := f
    obtain ⟨le, mask, mt⟩ := fl
    generalize l.map Rt.D = L at hx hml h0 ⊢
    obtain ⟨hi0, hx⟩ := List.getElem?_eq_some_iff.1 hx
    simp only [Rt.D] at hx
    try simp at c1
    by_cases hak : a = k
    · have hb : (a == k) = true := by simpa using hak
      cases tk
      · simp at htk
        subst htk
        simp [theLoop, Tryz.f123, loopsAll, Lp_some, and_assoc, -rd, rd_ne, rd_eq, -loadS, -storeS, sfx_load0, sfx_load, sfx_store0, sfx_store, loadS_cons0, loadS_consS, storeS_cons0, storeS_consS, cellsOf, hS, h0, h1, h5, h7, h8, hlt, hi, hi0, hml, hx, hb, c1, wrap_succ i (by omega)]
        done
      · by_cases hn1 : nn = -1
        · have hb2 : ¬ (0 ≤ nn) := by omega
          simp only [hak, hn1, and_self, if_true, Option.toList_some] at htk
          have ha1 := ha ⟨b, ⟨fe, fid, frm, fln, fdata⟩⟩
          rw [← htk] at ha1
          simp only [Hp.D] at ha1
          clear htk ha
          generalize A1.map Hp.D = B1 at ha1 ⊢
          generalize A0.map Hp.D = B0 at ha1 h7
          simp [theLoop, Tryz.f123, loopsAll, Lp_some, and_assoc, -rd, rd_ne, rd_eq, -loadS, -storeS, sfx_load0, sfx_load, sfx_store0, sfx_store, loadS_cons0, loadS_consS, storeS_cons0, storeS_consS, cellsOf, hS, h0, h1, h5, h7, h8, hlt, hi, hi0, hml, hx, hb, hb2, c1, rowsFrom, ha1, wrap_succ i (by omega)]
          done
        · have hb2 : 0 ≤ nn := by omega
          simp only [hak, hn1, and_self, if_true, if_false, Option.toList_some] at htk
          have ha1 := ha ⟨b, ⟨fe, nn, frm, fln, fdata⟩⟩
          rw [← htk] at ha1
          simp only [Hp.D] at ha1
          clear htk ha
          generalize A1.map Hp.D = B1 at ha1 ⊢
          generalize A0.map Hp.D = B0 at ha1 h7
          simp [theLoop, Tryz.f123, loopsAll, Lp_some, and_assoc, -rd, rd_ne, rd_eq, -loadS, -storeS, sfx_load0, sfx_load, sfx_store0, sfx_store, loadS_cons0, loadS_consS, storeS_cons0, storeS_consS, cellsOf, hS, h0, h1, h5, h7, h8, hlt, hi, hi0, hml, hx, hb, hb2, c1, rowsFrom, ha1, wrap_succ i (by omega)]
          done
    · have hb : (a == k) = false := by simpa using hak
      simp [hak] at htk
      subst htk
      simp [theLoop, Tryz.f123, loopsAll, Lp_some, and_assoc, -rd, rd_ne, rd_eq, -loadS, -storeS, sfx_load0, sfx_load, sfx_store0, sfx_store, loadS_cons0, loadS_consS, storeS_cons0, storeS_consS, cellsOf, hS, h0, h1, h5, h7, h8, hlt, hi, hi0, hml, hx, hb, wrap_succ i (by omega)]
      done
  · rintro st ⟨J, S, rfl, hS, h0, h1, h5, h7, h8⟩
    have hml : (l.map Rt.D).length = l.length := by simp
    rw [List.take_length] at h7
    generalize (hopsL l k f).map Hp.D = A at h7 ⊢
    generalize l.map Rt.D = L at hml h0 ⊢
    generalize cellsOf f.P = F
    simp [theLoop, Tryz.f123, loopsAll, Lp_some, and_assoc, -rd, rd_ne, rd_eq, hS, h0, h1, h5, h7, h8, hml]
    done
theorem r_hops (l : List Rt) (k : Int) (f : Fr) (hl : l.length ≤ 1000) (hn : ∀ r ∈ l, -1 ≤ r.n) (σ : Store) : callIt E1 (evI E1) 123 [.d (.slice (l.map Rt.D)), .d (.int .i64 k), f.P] σ = some (.d (.slice ((hopsL l k f).map Hp.D)), σ) := by
  refine call_runF (fn := Tryz.f123) 1001 rfl rfl rfl Tryz.func123 rfl rfl ?_
  have hloop := l_rHops 1001 l k f hl hn
  generalize hopsL l k f = A at hloop ⊢
  generalize l.map Rt.D = L at hloop ⊢
  simp only [cellsOf, Fr.P] at hloop ⊢
  simp [Tryz.f123, ec_loop, -loadS, -storeS, loadS_cons0, loadS_consS, storeS_cons0, storeS_consS, cellsOf, rowsFrom, acc_nil]
  generalize hLL : loopN _ _ _ = LL
  obtain ⟨r, rfl, J, S, rfl, hS, h7⟩ := at_loop hLL (hloop _ rfl rfl rfl rfl rfl rfl _ 1001 (by omega))
  generalize A.map Hp.D = B at h7 ⊢
  simp [-rd, rd_ne, rd_eq, hS, h7]
end Go.Proofs

