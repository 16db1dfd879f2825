/- Ranks in order; the place of the first frame of the least rank; NodeRight: what comes of a right node is right: its call answers true; Filters: the reference is the code. Plain. -/
import Derived.Test.YtnnindnmpfmaaaaGreatNf
import Derived.Test.YtnnindnmpfmaaaaGreatNi
import Derived.Test.YtnnindnmpfmaaaaGreatNh
import Derived.Test.YtnnindnmpfmaaaaGreatNg
set_option linter.unusedVariables false
set_option linter.unusedSimpArgs false
namespace Go.Proofs
open Go.RowKit Go.Shelf Go.Pv

theorem cmpL_zero : ∀ a b : List Int, cmpL a b = 0 → a = b
  | [], [], _ => rfl
  | [], _ :: _, h => by simp [cmpL] at h
  | _ :: _, [], h => by simp [cmpL] at h
  | x :: xs, y :: ys, h => by
    simp only [cmpL] at h
    split at h
    · simp at h
    split at h
    · simp at h
    · rw [show x = y by omega, cmpL_zero xs ys h]

theorem cmpL_anti : ∀ a b : List Int, cmpL b a = - cmpL a b
  | [], [] => rfl
  | [], _ :: _ => rfl
  | _ :: _, [] => rfl
  | x :: xs, y :: ys => by
    simp only [cmpL]
    by_cases h1 : x < y
    · have h2 : ¬ y < x := by omega
      simp [h1, h2]
    · by_cases h2 : y < x
      · simp [h1, h2]
      · simp [h1, h2, cmpL_anti xs ys]

/-- Ahead of one that is not behind a third: ahead of the third. -/
theorem cmpL_trans : ∀ a b c : List Int, cmpL a b < 0 → cmpL b c ≤ 0 → cmpL a c < 0
  | [], [], c, h, _ => by simp [cmpL] at h
  | [], _ :: _, [], _, h => by simp [cmpL] at h
  | [], _ :: _, _ :: _, _, _ => by simp [cmpL]
  | _ :: _, [], c, h, _ => by simp [cmpL] at h
  | _ :: _, _ :: _, [], _, h => by simp [cmpL] at h
  | x :: xs, y :: ys, z :: zs, h, h' => by
    simp only [cmpL] at h h' ⊢
    by_cases h1 : x < y
    · simp only [h1, if_true] at h
      by_cases h2 : y < z
      · rw [if_pos (by omega)]; decide
      · simp only [h2, if_false] at h'
        by_cases h3 : z < y
        · simp [h3] at h'
        · rw [if_pos (by omega)]; decide
    · simp only [h1, if_false] at h
      by_cases h2 : y < x
      · simp [h2] at h
      · simp only [h2, if_false] at h
        by_cases h3 : y < z
        · rw [if_pos (by omega)]; decide
        · simp only [h3, if_false] at h'
          by_cases h4 : z < y
          · simp [h4] at h'
          · simp only [h4, if_false] at h'
            rw [if_neg (by omega), if_neg (by omega)]
            exact cmpL_trans xs ys zs h h'

theorem rankCmp_anti (a b : Fr) : rankCmp b a = - rankCmp a b := cmpL_anti _ _
theorem rankCmp_trans {a b c : Fr} (h : rankCmp a b < 0) (h' : rankCmp b c ≤ 0) : rankCmp a c < 0 := cmpL_trans _ _ _ h h'
theorem rankCmp_self (a : Fr) : rankCmp a a = 0 := cmpL_self _

/-- The place of the best, and the best, of a row that is gone through. -/
def plc : List Fr → Nat → Nat → Fr → Nat × Fr
  | [], _, b, w => (b, w)
  | x :: xs, i, b, w => if rankCmp x w < 0 then plc xs (i + 1) i x else plc xs (i + 1) b w

theorem plc_min : ∀ (l : List Fr) (i b : Nat) (w : Fr), (plc l i b w).2 = minF rankCmp w l
  | [], _, _, _ => rfl
  | x :: xs, i, b, w => by
    unfold plc minF
    simp only [List.foldl_cons]
    split
    · rw [plc_min]; rfl
    · rw [plc_min]; rfl

theorem plc_inv : ∀ (l p : List Fr) (b : Nat) (w : Fr), p[b]? = some w → (∀ x ∈ p, 0 ≤ rankCmp x w) → (∀ j x, j < b → p[j]? = some x → 0 < rankCmp x w) →
    (p ++ l)[(plc l p.length b w).1]? = some (plc l p.length b w).2 ∧ (∀ x ∈ p ++ l, 0 ≤ rankCmp x (plc l p.length b w).2) ∧ (∀ j x, j < (plc l p.length b w).1 → (p ++ l)[j]? = some x → 0 < rankCmp x (plc l p.length b w).2)
  | [], p, b, w, h1, h2, h3 => by simpa [plc] using ⟨h1, h2, h3⟩
  | x :: xs, p, b, w, h1, h2, h3 => by
    have hcat : p ++ x :: xs = (p ++ [x]) ++ xs := by simp
    have hlen : p.length + 1 = (p ++ [x]).length := by simp
    have hb : b < p.length := (List.getElem?_eq_some_iff.1 h1).1
    unfold plc
    by_cases hx : rankCmp x w < 0
    · simp only [hx, if_true]
      rw [hcat, hlen]
      have hgt : ∀ y ∈ p, 0 < rankCmp y x := by
        intro y hy
        have hyw := h2 y hy
        have h4 : ¬ rankCmp y x ≤ 0 := by
          intro hyx
          have a1 : rankCmp w y ≤ 0 := by rw [rankCmp_anti y w]; omega
          have := rankCmp_trans hx a1
          rw [rankCmp_anti y x] at this
          omega
        omega
      refine plc_inv xs (p ++ [x]) p.length x (by simp) (fun y hy => ?_) (fun j y hj hy => ?_)
      · rcases List.mem_append.1 hy with hy | hy
        · have := hgt y hy; omega
        · simp at hy; subst hy; rw [rankCmp_self]; exact Int.le_refl _
      · rw [List.getElem?_append_left hj] at hy
        exact hgt y (List.mem_of_getElem? hy)
    · simp only [hx, if_false]
      rw [hcat, hlen]
      refine plc_inv xs (p ++ [x]) b w (by rw [List.getElem?_append_left hb]; exact h1) (fun y hy => ?_) (fun j y hj hy => ?_)
      · rcases List.mem_append.1 hy with hy | hy
        · exact h2 y hy
        · simp at hy; subst hy; omega
      · rw [List.getElem?_append_left (by omega)] at hy
        exact h3 j y hj hy

/-- The next frame: none stands ahead of it, and those in front of it stand behind it. -/
theorem nxt_spec (w : Fr) (q : List Fr) : nxt (w :: q) = (plc q 1 0 w).1 ∧ ∃ v, (w :: q)[nxt (w :: q)]? = some v ∧ v = minF rankCmp w (w :: q) ∧ (∀ x ∈ w :: q, 0 ≤ rankCmp x v) ∧ ∀ j x, j < nxt (w :: q) → (w :: q)[j]? = some x → 0 < rankCmp x v := by
  have hmin : minF rankCmp w (w :: q) = minF rankCmp w q := by simp [minF]
  obtain ⟨i1, i2, i3⟩ := plc_inv q [w] 0 w rfl (by simp [rankCmp_self]) (by simp)
  simp only [List.length_singleton, List.singleton_append] at i1 i2 i3
  obtain ⟨k, k1, k2, k3, k4⟩ := nextOf_found (w :: q) (by simp)
  have hk : nxt (w :: q) = k := by unfold nxt; omega
  have hp := plc_min q 1 0 w
  have hbk : (plc q 1 0 w).1 = k := by
    rcases Nat.lt_trichotomy (plc q 1 0 w).1 k with h | h | h
    · exact absurd (by rw [hmin, ← hp]; exact rankCmp_self _) (k4 _ _ h i1 w rfl)
    · exact h
    · have hx : (w :: q)[k]? = some (w :: q)[k] := List.getElem?_eq_getElem k1
      obtain ⟨u, hu, h0⟩ := k3 _ hx
      simp at hu
      subst hu
      have := i3 k _ h hx
      rw [hp, ← hmin] at this
      omega
  refine ⟨by rw [hk, hbk], (plc q 1 0 w).2, by rw [hk, ← hbk]; exact i1, by rw [hp, hmin], i2, fun j x hj hx => i3 j x (by rw [hbk]; omega) hx⟩
end Go.Proofs

set_option linter.unusedVariables false
set_option linter.unusedSimpArgs false
set_option maxRecDepth 100000
set_option maxHeartbeats 4000000
namespace Go.Proofs
open Go.RowKit Go.Shelf Go.Pv

theorem Cn.right_iff (c : Cn) : c.right = true ↔ if c.s = 3 then c.t = 256 ∧ c.r = 0 ∧ 0 ≤ c.z ∧ c.z ≤ 127 else (0 ≤ c.t ∧ c.t ≤ 255) ∧ (0 ≤ c.r ∧ c.r ≤ 255) ∧ c.z = 0 ∧ c.s = stOf c.t c.r := by
  unfold Cn.right
  split
  · simp; omega
  · simp; omega

theorem Cn.right_ok {c : Cn} (h : c.right = true) : c.ok := by
  rw [c.right_iff] at h
  unfold Cn.ok
  split at h <;> omega

theorem Cn.step_right {c : Cn} (h : c.right = true) (what : Int) : (c.step what).right = true := by
  rw [Cn.right_iff] at h ⊢
  obtain ⟨t, r, s, z⟩ := c
  unfold Cn.step
  simp only at h ⊢
  by_cases hs : s = 3
  · subst hs
    simp only [if_true] at h
    simp only [stT, stR, stS, stQ, if_true]
    by_cases h6 : what = 6
    · by_cases hz : z + 1 = 128
      · simp [h6, hz, stOf]
      · simp [h6, hz]; omega
    · simp [h6]; omega
  · simp only [hs, if_false] at h
    simp only [stT, stR, stS, stQ, hs, if_false]
    by_cases hT : wkT what t > 255
    · simp [hT]
    · simp only [hT, if_false]
      have hT0 : 0 ≤ wkT what t := by unfold wkT; split; omega; split <;> omega
      have hR : 0 ≤ wkR what r ∧ wkR what r ≤ 255 := by unfold wkR; split; omega; split; omega; split <;> omega
      have hne : ¬ (if max (wkT what t) (wkR what r) > 127 then (2 : Int) else 1) = 3 := by split <;> decide
      simp only [hne, if_false]
      refine ⟨by omega, hR, h.2.2.1, rfl⟩

theorem Nd.right_iff (n : Nd) : n.right = true ↔ (n.q.length ≤ 16 ∧ ∀ f ∈ n.q, f.right = true) ∧ (n.g.length ≤ 64 ∧ ∀ f ∈ n.g, f.right = true) ∧ (n.fs.length ≤ 8 ∧ ∀ f ∈ n.fs, f.right = true) ∧ n.c.right = true := by
  unfold Nd.right frsRight flsRight
  simp only [Bool.and_eq_true, decide_eq_true_eq, List.all_eq_true]
  constructor
  · rintro ⟨⟨⟨⟨a1, a2⟩, b1, b2⟩, c1, c2⟩, d⟩
    exact ⟨⟨by omega, a2⟩, ⟨by omega, b2⟩, ⟨by omega, c2⟩, d⟩
  · rintro ⟨⟨a1, a2⟩, ⟨b1, b2⟩, ⟨c1, c2⟩, d⟩
    exact ⟨⟨⟨⟨by omega, a2⟩, by omega, b2⟩, by omega, c2⟩, d⟩

theorem Nd.Send_right {n : Nd} (h : n.right = true) (f : Fr) : (n.Send f).1.right = true := by
  unfold Nd.Send
  split
  · exact h
  split
  · exact h
  split
  · exact h
  · rename_i hf _ hl
    rw [Nd.right_iff] at h ⊢
    refine ⟨⟨by simp; omega, fun x hx => ?_⟩, h.2⟩
    rcases List.mem_append.1 hx with hx | hx
    · exact h.1.2 x hx
    · simp at hx; subst hx; simpa using hf

theorem Nd.Take_right {n : Nd} (h : n.right = true) : n.Take.1.right = true := by
  obtain ⟨q, fs, c, g⟩ := n
  unfold Nd.Take
  cases g with
  | nil => exact h
  | cons f g =>
    rw [Nd.right_iff] at h ⊢
    refine ⟨h.1, ⟨?_, fun x hx => h.2.1.2 x (List.mem_cons_of_mem _ hx)⟩, h.2.2⟩
    have := h.2.1.1
    simp at this ⊢
    omega

theorem Nd.Sent_right {n : Nd} (h : n.right = true) (ok : Bool) : (n.Sent ok).right = true := by
  unfold Nd.Sent
  split
  · exact h
  split
  · rw [Nd.right_iff] at h ⊢
    refine ⟨⟨?_, fun x hx => h.1.2 x (List.mem_of_mem_eraseIdx hx)⟩, h.2.1, h.2.2.1, Cn.step_right h.2.2.2 1⟩
    have := List.length_eraseIdx_le n.q (nxt n.q)
    exact Nat.le_trans this h.1.1
  · rw [Nd.right_iff] at h ⊢
    exact ⟨h.1, h.2.1, h.2.2.1, Cn.step_right h.2.2.2 3⟩

theorem Nd.Quiet_right {n : Nd} (h : n.right = true) : n.Quiet.right = true := by
  unfold Nd.Quiet
  rw [Nd.right_iff] at h ⊢
  exact ⟨h.1, h.2.1, h.2.2.1, Cn.step_right h.2.2.2 6⟩

theorem Nd.Heard_right {n : Nd} (h : n.right = true) (f : Fr) (hf : f.right = true) (ok long : Bool) : (n.Heard f ok long).right = true := by
  unfold Nd.Heard
  split
  · exact h
  · rw [Nd.right_iff] at h ⊢
    refine ⟨h.1, ?_, h.2.2.1, Cn.step_right h.2.2.2 _⟩
    simp only
    split
    · rename_i hc
      simp only [Bool.and_eq_true, decide_eq_true_eq] at hc
      refine ⟨by simp; omega, fun x hx => ?_⟩
      rcases List.mem_append.1 hx with hx | hx
      · exact h.2.1.2 x hx
      · simp at hx; subst hx; exact hf
    · exact h.2.1

theorem Nd.right_len {n : Nd} (h : n.right = true) : n.q.length ≤ 1000000 ∧ n.fs.length ≤ 1000000 ∧ n.g.length ≤ 1000000 ∧ n.c.ok ∧ ∀ f ∈ n.q, f.right = true := by
  rw [Nd.right_iff] at h
  exact ⟨by omega, by omega, by omega, Cn.right_ok h.2.2.2, h.1.2⟩

theorem Nd.great_len {n : Nd} (h : n.great = false) : n.q.length ≤ 100 ∧ n.g.length ≤ 200 ∧ n.fs.length ≤ 100 := by
  unfold Nd.great at h
  simp only [Bool.or_eq_false_iff, decide_eq_false_iff_not] at h
  omega

theorem b_right' {n : Nd} (h : n.right = true) (σ : Store) : callIt E1 (evI E1) 48 [n.P] σ = some (.d (.bool true), σ) := by
  have := Nd.right_len h
  rw [b_right n this.1 this.2.1 this.2.2.1 σ, h]

end Go.Proofs

set_option linter.unusedVariables false
set_option linter.unusedSimpArgs false
set_option maxRecDepth 100000
set_option maxHeartbeats 8000000
namespace Go.Proofs
open Go.RowKit Go.Shelf Go.Pv

theorem toInt_wrap (x : BitVec 64) : IntKind.i64.wrap (x.toNat : Int) = x.toInt := by
  rw [IntKind.wrap_i64, BitVec.toInt_eq_toNat_cond]
  have := x.isLt
  split <;> omega

theorem and_not_zero {n : Nat} (x y : BitVec n) : x &&& ~~~y = 0#n ↔ x &&& y = x := by
  constructor
  · intro h
    apply BitVec.eq_of_getLsbD_eq
    intro i hi
    have := congrArg (fun z => BitVec.getLsbD z i) h
    simp only [BitVec.getLsbD_and, BitVec.getLsbD_not, hi, decide_true, Bool.true_and, BitVec.getLsbD_zero] at this
    rw [BitVec.getLsbD_and]
    cases ha : x.getLsbD i <;> cases hb : y.getLsbD i <;> simp_all
  · intro h
    apply BitVec.eq_of_getLsbD_eq
    intro i hi
    have := congrArg (fun z => BitVec.getLsbD z i) h
    simp only [BitVec.getLsbD_and] at this
    simp only [BitVec.getLsbD_and, BitVec.getLsbD_not, hi, decide_true, Bool.true_and, BitVec.getLsbD_zero]
    cases ha : x.getLsbD i <;> cases hb : y.getLsbD i <;> simp_all

theorem Fl.rright_eq (f : Fl) (hf : f.wf) : f.rright = f.right := by
  obtain ⟨e, m, t⟩ := f
  obtain ⟨⟨w1, w2⟩, w3, w4⟩ := hf
  simp only at w1 w2 w3 w4
  have hlim : (if e then (536870912 : Int) else 2048) = 2 ^ (if e then 29 else 11) := by cases e <;> rfl
  unfold Fl.rright Fl.right
  simp only
  rw [hlim]
  have hL : (2 : Int) ^ (if e then 29 else 11) ≤ 536870912 ∧ 2048 ≤ (2 : Int) ^ (if e then 29 else 11) := by cases e <;> decide
  generalize (2 : Int) ^ (if e then 29 else 11) = L at hL
  have tt : (BitVec.ofInt 64 t).toInt = t := by rw [BitVec.toInt_ofInt]; simp [Int.bmod]; omega
  have mt : (BitVec.ofInt 64 m).toInt = m := by rw [BitVec.toInt_ofInt]; simp [Int.bmod]; omega
  rw [toInt_wrap, toInt_wrap]
  have a1 : ((BitVec.ofInt 64 t &&& ~~~BitVec.ofInt 64 m).toInt == 0) = (decide (BitVec.ofInt 64 t &&& BitVec.ofInt 64 m = BitVec.ofInt 64 t)) := by
    rw [Bool.eq_iff_iff, beq_iff_eq, decide_eq_true_eq, ← and_not_zero]
    constructor
    · intro h; exact BitVec.eq_of_toInt_eq (by rw [h]; rfl)
    · intro h; rw [h]; rfl
  have a2 : ((BitVec.ofInt 64 t &&& BitVec.ofInt 64 m).toInt == t) = (decide (BitVec.ofInt 64 t &&& BitVec.ofInt 64 m = BitVec.ofInt 64 t)) := by
    rw [Bool.eq_iff_iff, beq_iff_eq, decide_eq_true_eq]
    constructor
    · intro h; exact BitVec.eq_of_toInt_eq (by rw [h, tt])
    · intro h; rw [h, tt]
  rw [a1, a2]
  by_cases hsub : BitVec.ofInt 64 t &&& BitVec.ofInt 64 m = BitVec.ofInt 64 t
  · simp only [hsub, decide_true, Bool.and_true]
    rw [Bool.eq_iff_iff]
    simp only [Bool.and_eq_true, decide_eq_true_eq, beq_iff_eq]
    have hdiv : m / L = 0 ↔ 0 ≤ m ∧ m < L := by
      constructor
      · intro h
        have h1 := Int.emod_add_mul_ediv m L
        have h2 := Int.emod_nonneg m (show L ≠ 0 by omega)
        have h3 := Int.emod_lt_of_pos m (show 0 < L by omega)
        rw [h] at h1
        omega
      · intro h; exact Int.ediv_eq_zero_of_lt h.1 h.2
    rw [hdiv]
    constructor
    · intro h; omega
    · intro h
      have hle : (BitVec.ofInt 64 t).toNat ≤ (BitVec.ofInt 64 m).toNat := by
        have := congrArg BitVec.toNat hsub
        rw [BitVec.toNat_and] at this
        rw [← this]
        exact Nat.and_le_right
      have hm : (BitVec.ofInt 64 m).toNat = m.toNat := by rw [BitVec.toNat_ofInt]; omega
      have ht : t = ((BitVec.ofInt 64 t).toNat : Int) := by
        rw [BitVec.toInt_eq_toNat_cond] at tt
        split at tt <;> omega
      omega
  · simp [hsub]
end Go.Proofs

