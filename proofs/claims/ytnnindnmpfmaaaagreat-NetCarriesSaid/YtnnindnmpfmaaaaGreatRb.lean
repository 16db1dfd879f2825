/- A slot in which one node alone wins, whatever waits: plain. Sums over what waits; What waits in a net, weighed: gateways. Plain; A net of fresh nodes: what a slot makes of what waits, and of what was got. Plain; A net of fresh nodes: a slot. Plain; A net of fresh nodes: rounds until nothing waits. Plain; NetCarries: one frame in a net of fresh nodes. Plain. -/
import Derived.Test.YtnnindnmpfmaaaaGreatPn
import Derived.Test.YtnnindnmpfmaaaaGreatRa
import Derived.Test.YtnnindnmpfmaaaaGreatPh
set_option linter.unusedVariables false
set_option linter.unusedSimpArgs false
set_option maxRecDepth 100000
set_option maxHeartbeats 8000000
namespace Go.Proofs
open Go.RowKit Go.Shelf Go.Pv

def winR (w : Nat) (f : Fr) (n : Nd) (i : Nat) : Nd := if i = w then { n with q := n.q.eraseIdx (nxt n.q) } else { n with g := if decide ((n.g.length : Int) < 64) && anyF n.fs f then n.g ++ [f] else n.g }
theorem Next_c0 {n : Nd} (hc : n.c = c0) : n.Next = if n.q.isEmpty then (fr0, false) else (n.q.getD (nxt n.q) fr0, true) := by
  unfold Nd.Next Nd.off
  rw [hc]
  show (if (false || n.q.isEmpty) = true then _ else _) = _
  rw [Bool.false_or]
theorem Next_false {n : Nd} (hc : n.c = c0) (h : n.Next.2 = false) : n.q = [] := by
  rw [Next_c0 hc] at h
  cases hq : n.q with
  | nil => rfl
  | cons x q => rw [hq] at h; simp at h
/-- One of those who send has a rank of its own: it alone sends. -/
theorem win_slot {l : List Nd} (hl : 2 ≤ l.length) (hc : ∀ i, i < l.length → (nd l i).c = c0) (hs : sndL l ≠ [])
    (hu : ∀ i j, i < l.length → j < l.length → (nd l i).Next.2 = true → (nd l j).Next.2 = true → (nd l i).Next.1.rank = (nd l j).Next.1.rank → i = j) :
    ∃ w, w < l.length ∧ (nd l w).Next.2 = true ∧ (slotL l []).1 = (List.range l.length).map (fun i => winR w (nd l w).Next.1 (nd l i) i) := by
  obtain ⟨w, hw, hww, hn, hf⟩ := slotL_won (who := []) hs
  rw [slotL_f [] hs] at hf
  have hL : (lineOf l []).l = l := rfl
  have hW : (lineOf l []).who = [] := rfl
  have hsends : ∀ i : Nat, i < l.length → (lineOf l []).sends i = decide (i = w) := by
    intro i hi
    have hx : l[i]? = some (nd l i) := by rw [nd_get hi]; simp [hi]
    rw [sends_eq [] hx, hf]
    by_cases h : i = w
    · subst h; simp [hn]
    · simp only [h, decide_false]
      rw [Bool.and_eq_false_iff]
      by_cases hni : (nd l i).Next.2 = true
      · right
        simp only [decide_eq_false_iff_not]
        intro hr
        exact h (hu i w hi hw hni hn hr)
      · left; simpa using hni
  have hsame : (nd l w).Next.1.same (lineOf l []).f = true := by rw [hf]; exact Fr.same_refl _
  have hloud : (lineOf l []).anyLoud = false := by
    unfold Ln.anyLoud
    rw [List.any_eq_false]
    intro i hi
    rw [hL] at hi
    have hi : i < l.length := by simpa using hi
    unfold Ln.loud
    rw [hsends i hi, hL]
    by_cases h : i = w
    · subst h
      simp only [decide_true, if_true, Ln.sees, hW, hsame]
      simp
    · simp [h, Ln.sees, hW]
  have hhears : (lineOf l []).anyHears = true := by
    unfold Ln.anyHears
    rw [List.any_eq_true]
    have : ∃ i, i < l.length ∧ i ≠ w := by
      by_cases h : w = 0
      · exact ⟨1, by omega, by omega⟩
      · exact ⟨0, by omega, by omega⟩
    obtain ⟨i, hi, hne⟩ := this
    refine ⟨i, by rw [hL]; simpa using hi, ?_⟩
    unfold Ln.hears
    rw [hsends i hi, hL, hc i hi]
    simp [hne, c0]
  refine ⟨w, hw, hn, ?_⟩
  rw [slotL_good [] hs (by rw [hloud, hhears]; rfl)]
  apply List.map_congr_left
  intro i hi
  have hi : i < l.length := by simpa using hi
  unfold Ln.two
  rw [hsends i hi, hL, ← hf]
  unfold winR
  have hci := hc i hi
  by_cases h : i = w
  · subst h
    rw [if_pos (by simp), if_pos rfl]
    unfold Nd.Sent Nd.off
    have hne : (nd l i).q.isEmpty = false := by
      cases hq : (nd l i).q with
      | nil => rw [Next_nil hq] at hn; cases hn
      | cons x q => rfl
    generalize nd l i = n at hci hne ⊢
    obtain ⟨q, fs, c, g⟩ := n
    simp only at hci hne ⊢
    subst hci
    rw [hne, c0_1]
    rfl
  · rw [if_neg (by simp [h]), if_neg h]
    unfold Nd.Heard Nd.off Ln.sees
    rw [hW]
    generalize nd l i = n at hci ⊢
    obtain ⟨q, fs, c, g⟩ := n
    simp only at hci ⊢
    subst hci
    simp only [List.contains_nil, Bool.not_false, c0_h, Bool.true_and]
    rfl

/-! #### Sums -/
def sumI {α : Type} (ψ : Nat → α → Nat) : Nat → List α → Nat
  | _, [] => 0
  | j, x :: l => ψ j x + sumI ψ (j + 1) l
theorem sumI_set {α : Type} (ψ : Nat → α → Nat) : ∀ (l : List α) (j i : Nat) (hi : i < l.length) (y : α), sumI ψ j (l.set i y) + ψ (j + i) l[i] = sumI ψ j l + ψ (j + i) y
  | [], _, _, hi, _ => by simp at hi
  | x :: l, j, 0, _, y => by simp only [List.set_cons_zero, sumI, List.getElem_cons_zero, Nat.add_zero]; omega
  | x :: l, j, i + 1, hi, y => by
    have := sumI_set ψ l (j + 1) i (by simpa using hi) y
    simp only [List.set_cons_succ, sumI, List.getElem_cons_succ]
    rw [show j + (i + 1) = j + 1 + i by omega]
    omega
theorem sumI_congr {α : Type} {ψ : Nat → α → Nat} : ∀ (l l' : List α) (j : Nat), l.length = l'.length → (∀ i (h : i < l.length) (h' : i < l'.length), ψ (j + i) l[i] = ψ (j + i) l'[i]) → sumI ψ j l = sumI ψ j l'
  | [], [], _, _, _ => rfl
  | x :: l, y :: l', j, hl, h => by
    have h0 := h 0 (by simp) (by simp)
    simp only [List.getElem_cons_zero, Nat.add_zero] at h0
    have ih := sumI_congr l l' (j + 1) (by simpa using hl) (fun i h1 h2 => by
      have := h (i + 1) (by simpa using h1) (by simpa using h2)
      simp only [List.getElem_cons_succ] at this
      rwa [show j + 1 + i = j + (i + 1) by omega])
    simp only [sumI, h0, ih]
theorem sumI_le {α : Type} {ψ : Nat → α → Nat} : ∀ (l : List α) (j i : Nat) (hi : i < l.length), ψ (j + i) l[i] ≤ sumI ψ j l
  | [], _, _, hi => by simp at hi
  | x :: l, j, 0, _ => by simp only [List.getElem_cons_zero, Nat.add_zero, sumI]; omega
  | x :: l, j, i + 1, hi => by
    have := sumI_le (ψ := ψ) l (j + 1) i (by simpa using hi)
    simp only [List.getElem_cons_succ, sumI]
    rw [show j + (i + 1) = j + 1 + i by omega]
    omega
theorem sumI_mono {α : Type} {ψ ψ' : Nat → α → Nat} (h : ∀ i x, ψ i x ≤ ψ' i x) : ∀ (l : List α) (j : Nat), sumI ψ j l ≤ sumI ψ' j l
  | [], _ => Nat.le_refl _
  | x :: l, j => Nat.add_le_add (h j x) (sumI_mono h l (j + 1))
theorem sumI_add {α : Type} (ψ ψ' : Nat → α → Nat) : ∀ (l : List α) (j : Nat), sumI (fun i x => ψ i x + ψ' i x) j l = sumI ψ j l + sumI ψ' j l
  | [], _ => rfl
  | x :: l, j => by simp only [sumI, sumI_add ψ ψ' l]; omega
def sumF (φ : Fr → Nat) (l : List Fr) : Nat := sumI (fun _ f => φ f) 0 l
theorem sumI_shift {α : Type} (φ : α → Nat) : ∀ (l : List α) (j : Nat), sumI (fun _ f => φ f) j l = sumI (fun _ f => φ f) 0 l
  | [], _ => rfl
  | x :: l, j => by simp only [sumI]; rw [sumI_shift φ l (j + 1), sumI_shift φ l 1]
theorem sumF_nil (φ : Fr → Nat) : sumF φ [] = 0 := rfl
theorem sumF_cons (φ : Fr → Nat) (x : Fr) (l : List Fr) : sumF φ (x :: l) = φ x + sumF φ l := by
  unfold sumF; simp only [sumI]; rw [sumI_shift φ l 1]
theorem sumF_append (φ : Fr → Nat) : ∀ (l l' : List Fr), sumF φ (l ++ l') = sumF φ l + sumF φ l'
  | [], l' => by simp [sumF_nil]
  | x :: l, l' => by rw [List.cons_append, sumF_cons, sumF_cons, sumF_append φ l l']; omega
theorem sumF_erase (φ : Fr → Nat) : ∀ (l : List Fr) (i : Nat) (hi : i < l.length), sumF φ (l.eraseIdx i) + φ l[i] = sumF φ l
  | [], _, hi => by simp at hi
  | x :: l, 0, _ => by simp only [List.eraseIdx_cons_zero, List.getElem_cons_zero, sumF_cons]; omega
  | x :: l, i + 1, hi => by
    have := sumF_erase φ l i (by simpa using hi)
    simp only [List.eraseIdx_cons_succ, List.getElem_cons_succ, sumF_cons]
    omega
theorem sumF_mem {φ : Fr → Nat} {l : List Fr} {x : Fr} (h : x ∈ l) : φ x ≤ sumF φ l := by
  obtain ⟨i, hi, rfl⟩ := List.mem_iff_getElem.1 h
  exact sumI_le (ψ := fun _ f => φ f) l 0 i hi
theorem sumF_one (l : List Fr) : sumF (fun _ => 1) l = l.length := by
  induction l with
  | nil => rfl
  | cons x l ih => rw [sumF_cons, ih, List.length_cons]; omega
theorem sumF_mono {φ φ' : Fr → Nat} (h : ∀ x, φ x ≤ φ' x) (l : List Fr) : sumF φ l ≤ sumF φ' l := sumI_mono (fun _ x => h x) l 0
/-- Hops weighed. -/
def sumH (φ : Nat → Nat → Fr → Nat) (sz : Nat → Nat) : List Hp → Nat
  | [] => 0
  | h :: l => φ h.b.toNat (sz h.b.toNat) h.f + sumH φ sz l
theorem sumH_append (φ : Nat → Nat → Fr → Nat) (sz : Nat → Nat) : ∀ (l l' : List Hp), sumH φ sz (l ++ l') = sumH φ sz l + sumH φ sz l'
  | [], l' => by simp [sumH]
  | x :: l, l' => by rw [List.cons_append, sumH, sumH, sumH_append φ sz l l']; omega
theorem sumH_mono {φ φ' : Nat → Nat → Fr → Nat} (sz : Nat → Nat) (h : ∀ b i f, φ b i f ≤ φ' b i f) : ∀ (l : List Hp), sumH φ sz l ≤ sumH φ' sz l
  | [] => Nat.le_refl _
  | x :: l => Nat.add_le_add (h _ _ _) (sumH_mono sz h l)
def wtRow (φ : Nat → Fr → Nat) (row : List Nd) : Nat := sumI (fun i n => sumF (φ i) n.q) 0 row
def wtBs (φ : Nat → Nat → Fr → Nat) (bs : List (List Nd)) : Nat := sumI (fun b row => wtRow (φ b) row) 0 bs
def wtOut (φ : Nat → Nat → Fr → Nat) (sz : Nat → Nat) (out : List (List Fr)) : Nat := sumI (fun b r => sumF (φ b (sz b)) r) 0 out
end Go.Proofs

set_option linter.unusedVariables false
set_option linter.unusedSimpArgs false
set_option maxRecDepth 100000
set_option maxHeartbeats 8000000
namespace Go.Proofs
open Go.RowKit Go.Shelf Go.Pv

theorem wtOut_set (φ : Nat → Nat → Fr → Nat) (sz : Nat → Nat) (out : List (List Fr)) (i : Nat) (hi : i < out.length) (r : List Fr) : wtOut φ sz (out.set i r) + sumF (φ i (sz i)) out[i] = wtOut φ sz out + sumF (φ i (sz i)) r := by
  have := sumI_set (fun b r => sumF (φ b (sz b)) r) out 0 i hi r
  rw [Nat.zero_add] at this
  exact this
theorem row_at {g : Gt} {k : Nat} (hk : k < g.out.length) : g.row (k : Int) = g.out[k] := by
  unfold Gt.row
  rw [Int.toNat_natCast, List.getD_eq_getElem?_getD, List.getElem?_eq_getElem hk]; rfl
theorem row_at' {g : Gt} {k : Int} (h0 : 0 ≤ k) (hk : k.toNat < g.out.length) : g.row k = g.out[k.toNat] := by
  unfold Gt.row
  rw [List.getD_eq_getElem?_getD, List.getElem?_eq_getElem hk]; rfl
/-- The hops for which there is no room. -/
def ovf : Gt → List Hp → List Hp
  | _, [] => []
  | g, h :: l => (if ((g.row h.b).length : Int) < g.cap then [] else [h]) ++ ovf (g.put h) l
theorem puts_wt (φ : Nat → Nat → Fr → Nat) (sz : Nat → Nat) : ∀ (l : List Hp) {g : Gt}, g.ok → (∀ h ∈ l, 0 ≤ h.b ∧ h.b < (g.out.length : Int)) → wtOut φ sz (l.foldl Gt.put g).out + sumH φ sz (ovf g l) = wtOut φ sz g.out + sumH φ sz l
  | [], g, _, _ => rfl
  | h :: l, g, hg, hl => by
    have hb := hl h (by simp)
    obtain ⟨a1, a2, a3, a4⟩ := put_ok hg hb
    have ih := puts_wt φ sz l a1 (fun x hx => by rw [a2]; exact hl x (by simp [hx]))
    have hk : h.b.toNat < g.out.length := by omega
    rw [List.foldl_cons, ovf, sumH_append, sumH]
    by_cases hr : ((g.row h.b).length : Int) < g.cap
    · rw [if_pos hr]
      have hp : (g.put h).out = g.out.set h.b.toNat (g.row h.b ++ [h.f]) := by unfold Gt.put; rw [if_pos hr]
      have hs := wtOut_set φ sz g.out h.b.toNat hk (g.row h.b ++ [h.f])
      rw [sumF_append, sumF_cons, sumF_nil, ← row_at' hb.1 hk] at hs
      rw [hp] at ih
      simp only [sumH] at ih ⊢
      omega
    · rw [if_neg hr]
      have hp : (g.put h).out = g.out := by unfold Gt.put; rw [if_neg hr]
      rw [hp] at ih
      simp only [sumH] at ih ⊢
      omega
theorem puts_lost : ∀ (l : List Hp) {g : Gt} {K : Nat}, g.ok → (∀ h ∈ l, 0 ≤ h.b ∧ h.b < (g.out.length : Int)) → K + l.length < 1000000 → (∀ x ∈ g.lost, 0 ≤ x ∧ x ≤ (K : Int)) →
    (∀ x ∈ (l.foldl Gt.put g).lost, 0 ≤ x ∧ x ≤ ((K + l.length : Nat) : Int)) ∧ ((∃ x ∈ g.lost, 0 < x) → ∃ x ∈ (l.foldl Gt.put g).lost, 0 < x) ∧ (ovf g l ≠ [] → ∃ x ∈ (l.foldl Gt.put g).lost, 0 < x)
  | [], g, K, _, _, _, hx => ⟨fun x h => by simpa using hx x h, fun h => h, fun h => absurd rfl h⟩
  | h :: l, g, K, hg, hl, hK, hx => by
    have hb := hl h (by simp)
    obtain ⟨a1, a2, a3, a4⟩ := put_ok hg hb
    have hl' : ∀ x ∈ l, 0 ≤ x.b ∧ x.b < ((g.put h).out.length : Int) := fun x hx => by rw [a2]; exact hl x (by simp [hx])
    simp only [List.length_cons] at hK
    rw [List.foldl_cons, ovf]
    by_cases hr : ((g.row h.b).length : Int) < g.cap
    · have hp : (g.put h).lost = g.lost := by unfold Gt.put; rw [if_pos hr]
      obtain ⟨i1, i2, i3⟩ := puts_lost l (K := K) a1 hl' (by omega) (by rw [hp]; exact hx)
      rw [if_pos hr, List.nil_append]
      refine ⟨fun x hx => ?_, fun h => i2 (by rw [hp]; exact h), i3⟩
      have := i1 x hx
      simp only [List.length_cons]
      omega
    · have hlb : h.b.toNat < g.lost.length := by rw [hg.lo]; omega
      have hat : hAtL g.lost h.b = g.lost[h.b.toNat] := by unfold hAtL; rw [List.getD_eq_getElem?_getD, List.getElem?_eq_getElem hlb]; rfl
      have hxb := hx _ (List.getElem_mem hlb)
      have hp : (g.put h).lost = g.lost.set h.b.toNat (g.lost[h.b.toNat] + 1) := by
        unfold Gt.put
        rw [if_neg hr, hat, wrap_ok (by omega) (by omega)]
      have hx' : ∀ x ∈ (g.put h).lost, 0 ≤ x ∧ x ≤ ((K + 1 : Nat) : Int) := by
        rw [hp]
        intro x hm
        rcases List.mem_or_eq_of_mem_set hm with hm | rfl
        · have := hx x hm; omega
        · omega
      have hpos : ∃ x ∈ (g.put h).lost, 0 < x := by
        rw [hp]
        exact ⟨g.lost[h.b.toNat] + 1, List.mem_iff_getElem.2 ⟨h.b.toNat, by simpa using hlb, by simp⟩, by omega⟩
      obtain ⟨i1, i2, i3⟩ := puts_lost l (K := K + 1) a1 hl' (by omega) hx'
      refine ⟨fun x hx => ?_, fun _ => i2 hpos, fun _ => i2 hpos⟩
      have := i1 x hx
      simp only [List.length_cons]
      omega
theorem puts_same : ∀ (l : List Hp) {g : Gt}, ovf g l = [] → (l.foldl Gt.put g).lost = g.lost
  | [], _, _ => rfl
  | h :: l, g, ho => by
    rw [ovf] at ho
    obtain ⟨h1, h2⟩ := List.append_eq_nil_iff.1 ho
    rw [List.foldl_cons, puts_same l h2]
    unfold Gt.put
    split
    · rfl
    · rename_i hr
      rw [if_neg hr] at h1
      simp at h1
theorem wtOut_row (φ : Nat → Nat → Fr → Nat) (sz : Nat → Nat) (out : List (List Fr)) (i : Nat) (hi : i < out.length) : sumF (φ i (sz i)) out[i] ≤ wtOut φ sz out := by
  have := sumI_le (ψ := fun b r => sumF (φ b (sz b)) r) out 0 i hi
  rw [Nat.zero_add] at this
  exact this
theorem ovf_nil (sz : Nat → Nat) : ∀ (l : List Hp) {g : Gt}, g.ok → (∀ h ∈ l, 0 ≤ h.b ∧ h.b < (g.out.length : Int)) → g.cap = 64 → wtOut (fun _ _ _ => 1) sz g.out + l.length ≤ 63 → ovf g l = []
  | [], _, _, _, _, _ => rfl
  | h :: l, g, hg, hl, hc, hw => by
    have hb := hl h (by simp)
    obtain ⟨a1, a2, a3, a4⟩ := put_ok hg hb
    have hk : h.b.toNat < g.out.length := by omega
    have hr := wtOut_row (fun _ _ _ => 1) sz g.out h.b.toNat hk
    rw [sumF_one, ← row_at' hb.1 hk] at hr
    simp only [List.length_cons] at hw
    have hfit : ((g.row h.b).length : Int) < g.cap := by omega
    have hp : (g.put h).out = g.out.set h.b.toNat (g.row h.b ++ [h.f]) := by unfold Gt.put; rw [if_pos hfit]
    have hs := wtOut_set (fun _ _ _ => 1) sz g.out h.b.toNat hk (g.row h.b ++ [h.f])
    rw [sumF_append, sumF_cons, sumF_nil, ← row_at' hb.1 hk] at hs
    rw [ovf, if_pos hfit, List.nil_append]
    exact ovf_nil sz l a1 (fun x hx => by rw [a2]; exact hl x (by simp [hx])) (a4.trans hc) (by rw [hp]; omega)
theorem In_wt (φ : Nat → Nat → Fr → Nat) (sz : Nat → Nat) {g : Gt} (hg : g.ok) (k : Int) (f : Fr) : wtOut φ sz (g.In k f).out + sumH φ sz (ovf g (hopsL g.rs k f)) = wtOut φ sz g.out + sumH φ sz (hopsL g.rs k f) :=
  puts_wt φ sz _ hg (hops_b hg k f)
theorem In_lost {g : Gt} {K : Nat} (hg : g.ok) (k : Int) (f : Fr) (hK : K ≤ 100000) (hx : ∀ x ∈ g.lost, 0 ≤ x ∧ x ≤ (K : Int)) :
    (∀ x ∈ (g.In k f).lost, 0 ≤ x ∧ x ≤ ((K + 16 : Nat) : Int)) ∧ ((∃ x ∈ g.lost, 0 < x) → ∃ x ∈ (g.In k f).lost, 0 < x) ∧ (ovf g (hopsL g.rs k f) ≠ [] → ∃ x ∈ (g.In k f).lost, 0 < x) := by
  have hl : (hopsL g.rs k f).length ≤ 16 := Nat.le_trans (hopsL_len _ _ _) hg.rs
  obtain ⟨h1, h2, h3⟩ := puts_lost (hopsL g.rs k f) (K := K) hg (hops_b hg k f) (by omega) hx
  exact ⟨fun x h => by have := h1 x h; omega, h2, h3⟩
/-- Frames of a gateway are right. -/
def outR (g : Gt) : Prop := ∀ r ∈ g.out, ∀ f ∈ r, f.right = true
theorem puts_outR : ∀ (l : List Hp) {g : Gt}, outR g → (∀ p ∈ l, p.f.right = true) → outR (l.foldl Gt.put g)
  | [], _, h, _ => h
  | p :: l, g, h, hl => by
    refine puts_outR l ?_ (fun q hq => hl q (by simp [hq]))
    unfold Gt.put
    split
    · intro r hr f hf
      rcases List.mem_or_eq_of_mem_set hr with hr | rfl
      · exact h r hr f hf
      · rcases List.mem_append.1 hf with hf | hf
        · unfold Gt.row at hf
          rw [List.getD_eq_getElem?_getD] at hf
          cases hx : g.out[p.b.toNat]? with
          | none => rw [hx] at hf; simp at hf
          | some r => rw [hx] at hf; exact h _ (List.mem_of_getElem? hx) f hf
        · simp at hf; subst hf; exact hl p (by simp)
    · exact h
theorem hop_right {rs : List Rt} {K : Int} (hok : routesOk rs K = true) {k : Int} {f : Fr} (hf : f.right = true) : ∀ p ∈ hopsL rs k f, p.f.right = true := by
  obtain ⟨_, _, _, h4⟩ := routesOk_on hok
  intro p hp
  unfold hopsL at hp
  obtain ⟨r, hr, hh⟩ := List.mem_filterMap.1 hp
  unfold Rt.hop at hh
  split at hh
  · rename_i hc
    simp only [Option.some.injEq] at hh
    subst hh
    dsimp only
    split
    · exact hf
    · rename_i hn
      have hid := (h4 r hr).2.2.2.2
      have hte : (f.e == r.f.e) = true := by
        have := hc.2
        unfold Fl.takes at this
        rw [Bool.and_eq_true] at this
        exact this.1
      have hte := eq_of_beq hte
      unfold Rt.idOk at hid
      have hn' : (r.n == -1) = false := by simpa using hn
      rw [hn', Bool.false_or, Bool.and_eq_true] at hid
      have g1 := of_decide_eq_true hid.1
      have g2 := of_decide_eq_true hid.2
      rw [Fr.right_iff] at hf ⊢
      rw [← hte] at g2
      obtain ⟨e, id, rm, ln, data⟩ := f
      simp only at hf g2 ⊢
      cases e
      · simp at hf g2 ⊢
        exact ⟨by omega, hf.2⟩
      · simp at hf g2 ⊢
        exact ⟨by omega, hf.2⟩
  · simp at hh

/-! #### What comes of a frame -/
def val (rs : List Rt) (sz : Nat → Nat) (c : Nat → Nat → Fr → Nat) : Nat → Nat → Nat → Fr → Nat
  | 0 => c
  | d + 1 => fun b i f => c b i f + sumH (val rs sz c d) sz (hopsL rs b f)
theorem way_cons {l : List Rt} {r : Rt} (hr : r ∈ l) : ∀ (n : Nat) (v : Int), wayN l r.b n v → wayN l r.a (n + 1) v
  | 0, v, h => ⟨r, hr, h, rfl⟩
  | n + 1, v, h => by
    obtain ⟨q, hq, h1, h2⟩ := h
    exact ⟨q, hq, h1, way_cons hr n q.a h2⟩
theorem hop_of {rs : List Rt} {k : Int} {f : Fr} {p : Hp} (hp : p ∈ hopsL rs k f) : ∃ r ∈ rs, r.a = k ∧ r.b = p.b := by
  unfold hopsL at hp
  obtain ⟨r, hr, hh⟩ := List.mem_filterMap.1 hp
  unfold Rt.hop at hh
  split at hh
  · rename_i hc
    simp only [Option.some.injEq] at hh
    exact ⟨r, hr, hc.1, by rw [← hh]⟩
  · simp at hh
theorem sumH_congr {φ φ' : Nat → Nat → Fr → Nat} {sz : Nat → Nat} : ∀ (l : List Hp), (∀ h ∈ l, φ h.b.toNat (sz h.b.toNat) h.f = φ' h.b.toNat (sz h.b.toNat) h.f) → sumH φ sz l = sumH φ' sz l
  | [], _ => rfl
  | h :: l, hh => by rw [sumH, sumH, hh h (by simp), sumH_congr l (fun x hx => hh x (by simp [hx]))]
theorem val_stop {rs : List Rt} (hi : inB rs) (sz : Nat → Nat) (c : Nat → Nat → Fr → Nat) : ∀ (d b i : Nat) (f : Fr), (∀ v, ¬ wayN rs (b : Int) (d + 1) v) → val rs sz c (d + 1) b i f = val rs sz c d b i f
  | 0, b, i, f, h => by
    have : hopsL rs b f = [] := by
      cases hx : hopsL rs b f with
      | nil => rfl
      | cons p l =>
        obtain ⟨r, hr, h1, h2⟩ := hop_of (p := p) (rs := rs) (k := (b : Int)) (f := f) (by rw [hx]; simp)
        exact absurd ⟨r, hr, h2, h1.symm⟩ (h p.b)
    simp only [val, this, sumH, Nat.add_zero]
  | d + 1, b, i, f, h => by
    show c b i f + sumH (val rs sz c (d + 1)) sz (hopsL rs b f) = c b i f + sumH (val rs sz c d) sz (hopsL rs b f)
    congr 1
    refine sumH_congr _ fun p hp => val_stop hi sz c d _ _ _ fun v hw => ?_
    obtain ⟨r, hr, h1, h2⟩ := hop_of hp
    have hb := (hi r hr).2.1
    rw [show ((p.b.toNat : Nat) : Int) = r.b by omega] at hw
    have := way_cons hr _ v hw
    rw [h1] at this
    exact h v this
/-- All that a frame weighs, with what comes of it. -/
def V (rs : List Rt) (sz : Nat → Nat) (c : Nat → Nat → Fr → Nat) : Nat → Nat → Fr → Nat := val rs sz c 3
theorem V_eq {rs : List Rt} {K : Nat} (hok : routesOk rs K = true) (hlo : loopless rs K = true) (sz : Nat → Nat) (c : Nat → Nat → Fr → Nat) (b i : Nat) (f : Fr) : V rs sz c b i f = c b i f + sumH (V rs sz c) sz (hopsL rs b f) := by
  obtain ⟨k1, k2, _, k4⟩ := routesOk_on hok
  have hi : inB rs := fun r h => by have := k4 r h; omega
  have hn := (loopless_iff hok).1 hlo
  have hs := val_stop hi sz c 3 b i f fun v hw => by
    have := way_short ⟨by omega, by omega⟩ (fun r h => ⟨(k4 r h).1, (k4 r h).2.1⟩) hn _ _ _ hw
    omega
  unfold V
  rw [← hs]
  rfl
theorem V_mono {rs : List Rt} {sz : Nat → Nat} {c c' : Nat → Nat → Fr → Nat} (h : ∀ b i f, c b i f ≤ c' b i f) : ∀ (d b i : Nat) (f : Fr), val rs sz c d b i f ≤ val rs sz c' d b i f
  | 0, b, i, f => h b i f
  | d + 1, b, i, f => Nat.add_le_add (h b i f) (sumH_mono sz (V_mono h d) _)
theorem V_ge {rs : List Rt} {sz : Nat → Nat} {c : Nat → Nat → Fr → Nat} (d b i : Nat) (f : Fr) : c b i f ≤ val rs sz c d b i f := by
  cases d with
  | zero => exact Nat.le_refl _
  | succ d => exact Nat.le_add_right _ _
end Go.Proofs

set_option linter.unusedVariables false
set_option linter.unusedSimpArgs false
set_option maxRecDepth 100000
set_option maxHeartbeats 8000000
namespace Go.Proofs
open Go.RowKit Go.Shelf Go.Pv

/-- A frame that went over a bus, and who sent it. -/
structure Ev where
  b : Nat
  i : Nat
  f : Fr
def gotE (L : List Ev) (b i : Nat) (fs : List Fl) : List Fr := (L.filter fun e => decide (e.b = b) && (!decide (e.i = i) && anyF fs e.f)).map (·.f)
theorem gotE_len (L : List Ev) (b i : Nat) (fs : List Fl) : (gotE L b i fs).length ≤ L.length := by
  unfold gotE
  rw [List.length_map]
  exact List.length_filter_le _ _
theorem gotE_app (L : List Ev) (e : Ev) (b i : Nat) (fs : List Fl) : gotE (L ++ [e]) b i fs = gotE L b i fs ++ if decide (e.b = b) && (!decide (e.i = i) && anyF fs e.f) then [e.f] else [] := by
  unfold gotE
  rw [List.filter_append, List.map_append]
  congr 1
  simp only [List.filter_cons, List.filter_nil]
  split <;> rfl

structure Mst (F : Nat → Nat → List Fl) (sz : Nat → Nat) (rs : List Rt) (n : Nt) (L : List Ev) : Prop where
  fits : n.fits
  rs : n.g.rs = rs
  out : n.g.out.length = n.bs.length
  len : ∀ b, b < n.bs.length → (rw_ n.bs b).length = sz b + 1 ∧ 1 ≤ sz b
  node : ∀ b i, b < n.bs.length → i < sz b → (nd (rw_ n.bs b) i).c = c0 ∧ (nd (rw_ n.bs b) i).fs = F b i ∧ (nd (rw_ n.bs b) i).g = gotE L b i (F b i)
  own : ∀ b, b < n.bs.length → (nd (rw_ n.bs b) (sz b)).c = c0 ∧ (nd (rw_ n.bs b) (sz b)).fs = [] ∧ (nd (rw_ n.bs b) (sz b)).q.length ≤ 1
  fr : outR n.g
  lost : ∀ x ∈ n.g.lost, 0 ≤ x ∧ x ≤ ((16 * L.length : Nat) : Int)

def wt (φ : Nat → Nat → Fr → Nat) (sz : Nat → Nat) (n : Nt) : Nat := wtBs φ n.bs + wtOut φ sz n.g.out

section
variable {F : Nat → Nat → List Fl} {sz : Nat → Nat} {rs : List Rt} {n : Nt} {L : List Ev}
theorem Mst.own_eq (h : Mst F sz rs n L) {k : Nat} (hk : k < n.bs.length) : n.own k = nd (rw_ n.bs k) (sz k) := by
  unfold Nt.own
  rw [(h.len k hk).1, Nat.add_sub_cancel]
theorem Mst.own_g (h : Mst F sz rs n L) {k : Nat} (hk : k < n.bs.length) : (n.own k).g = [] := by
  have := h.fits.last _ (h.fits.mem hk)
  exact this
/-- What the gateway's node does ahead of a slot. -/
theorem relay_facts (h : Mst F sz rs n L) {k : Nat} (hk : k < n.bs.length) : ∃ o G, ownOf n.g k (n.own k) = o ∧ gateOf n.g k (n.own k) = G ∧ o.c = c0 ∧ o.fs = [] ∧ o.g = [] ∧ o.q.length ≤ 1 ∧ G.ok ∧ outR G ∧ G.rs = rs ∧ G.out.length = n.bs.length ∧ G.lost = n.g.lost ∧
    (∀ φ : Nat → Nat → Fr → Nat, sumF (φ k (sz k)) o.q + wtOut φ sz G.out = sumF (φ k (sz k)) (n.own k).q + wtOut φ sz n.g.out) ∧ (o.q = [] → (n.own k).q = [] ∧ n.g.out[k]? = some [] ∧ G = n.g ∧ o = n.own k) := by
  have ho := h.own k hk
  rw [← h.own_eq hk] at ho
  obtain ⟨h1, h2, h3⟩ := ho
  have hko : k < n.g.out.length := by rw [h.out]; exact hk
  have hrow := row_at hko
  cases hr : relays n.g k (n.own k)
  · rw [ownOf_no hr, gateOf_no hr]
    refine ⟨_, _, rfl, rfl, h1, h2, h.own_g hk, h3, h.fits.gt, h.fr, h.rs, h.out, rfl, fun φ => rfl, fun hq => ⟨hq, ?_, rfl, rfl⟩⟩
    unfold relays at hr
    rw [hq, h1] at hr
    have : (n.g.Next k).2 = false := by simpa [c0] using hr
    unfold Gt.Next at this
    split at this
    · cases this
    · rename_i hh
      unfold Gt.has at hh
      rw [hrow] at hh
      rw [List.getElem?_eq_getElem hko]
      cases hx : n.g.out[k] with
      | nil => rfl
      | cons x r => rw [hx] at hh; simp at hh; omega
  · have e1 : ownOf n.g k (n.own k) = ((n.own k).Send (n.g.Next k).1).1 := by unfold ownOf; rw [hr]; rfl
    have e2 : gateOf n.g k (n.own k) = n.g.Done k := by unfold gateOf; rw [hr]; rfl
    unfold relays at hr
    simp only [Bool.and_eq_true] at hr
    obtain ⟨⟨r1, r2⟩, r3⟩ := hr
    have hq : (n.own k).q = [] := by
      have := eq_of_beq r2
      exact List.eq_nil_of_length_eq_zero (by omega)
    have hhas : n.g.has k = true := by
      unfold Gt.Next at r1
      split at r1
      · rename_i hh; exact hh
      · cases r1
    have hN : n.g.Next k = ((n.g.row k).headD fr0, true) := by unfold Gt.Next; rw [hhas]; rfl
    have hD : n.g.Done k = { n.g with out := n.g.out.set k (n.g.row k).tail } := by unfold Gt.Done; rw [hhas]; simp
    obtain ⟨x, rest, hx⟩ : ∃ x rest, n.g.out[k] = x :: rest := by
      cases hx : n.g.out[k] with
      | nil => unfold Gt.has at hhas; rw [hrow, hx] at hhas; simp at hhas
      | cons x r => exact ⟨x, r, rfl⟩
    have hxr : x.right = true := h.fr _ (List.getElem_mem hko) x (by rw [hx]; simp)
    rw [hrow, hx] at hN hD
    simp only [List.headD_cons, List.tail_cons] at hN hD
    have hs : ((n.own k).Send x).1 = { n.own k with q := [x] } := by
      generalize n.own k = o at h1 hq ⊢
      obtain ⟨q, fs, c, g⟩ := o
      simp only at h1 hq
      subst h1 hq
      unfold Nd.Send Nd.off
      rw [if_neg (by simp [hxr]), if_neg (by simp [c0]), if_neg (by simp)]
      rfl
    rw [e1, e2, hN, hD, hs]
    have hok : (n.g.Done k).ok := Gt.Done_ok h.fits.gt k
    rw [hD] at hok
    refine ⟨_, _, rfl, rfl, h1, h2, h.own_g hk, by simp, hok, fun r hr f hf => ?_, h.rs, by simpa using h.out, rfl, fun φ => ?_, fun hq => by simp at hq⟩
    · rcases List.mem_or_eq_of_mem_set hr with hr | rfl
      · exact h.fr r hr f hf
      · exact h.fr _ (List.getElem_mem hko) f (by rw [hx]; simp [hf])
    · have := wtOut_set φ sz n.g.out k hko rest
      rw [hx, sumF_cons] at this
      rw [hq]
      simp only [sumF_cons, sumF_nil]
      omega

/-- The rows ahead of a slot weigh as before. -/
theorem wtRow_set (φ : Nat → Fr → Nat) (row : List Nd) (i : Nat) (hi : i < row.length) (x : Nd) : wtRow φ (row.set i x) + sumF (φ i) (nd row i).q = wtRow φ row + sumF (φ i) x.q := by
  have := sumI_set (fun i n => sumF (φ i) n.q) row 0 i hi x
  rw [Nat.zero_add] at this
  rw [nd_get hi]
  exact this
theorem wtBs_set (φ : Nat → Nat → Fr → Nat) (bs : List (List Nd)) (k : Nat) (hk : k < bs.length) (r : List Nd) : wtBs φ (bs.set k r) + wtRow (φ k) (rw_ bs k) = wtBs φ bs + wtRow (φ k) r := by
  have := sumI_set (fun b row => wtRow (φ b) row) bs 0 k hk r
  rw [Nat.zero_add] at this
  rw [rw_get hk]
  exact this
theorem wtRow_congr {φ : Nat → Fr → Nat} {a b : List Nd} (hl : a.length = b.length) (h : ∀ i, i < a.length → (nd a i).q = (nd b i).q) : wtRow φ a = wtRow φ b := by
  refine sumI_congr _ _ _ hl fun i h1 h2 => ?_
  have := h i h1
  rw [nd_get h1, nd_get h2] at this
  simp only [this]
theorem wtRow_zero {φ : Nat → Fr → Nat} : ∀ {row : List Nd} {j : Nat}, (∀ x ∈ row, x.q = []) → sumI (fun i n => sumF (φ i) n.q) j row = 0
  | [], _, _ => rfl
  | x :: row, j, h => by
    simp only [sumI, h x (by simp), sumF_nil, Nat.zero_add]
    exact wtRow_zero (fun y hy => h y (by simp [hy]))
end
end Go.Proofs

set_option linter.unusedVariables false
set_option linter.unusedSimpArgs false
set_option maxRecDepth 100000
set_option maxHeartbeats 8000000
namespace Go.Proofs
open Go.RowKit Go.Shelf Go.Pv

section
variable {F : Nat → Nat → List Fl} {sz : Nat → Nat} {rs : List Rt} {n : Nt} {L : List Ev}
/-- What is known of the row ahead of a slot. -/
theorem row1_facts (h : Mst F sz rs n L) {k : Nat} (hk : k < n.bs.length) : (n.row1 k).length = sz k + 1 ∧ nd (n.row1 k) (sz k) = ownOf n.g k (n.own k) ∧ (∀ i, i < sz k → nd (n.row1 k) i = nd (rw_ n.bs k) i) ∧ (∀ i, i < (n.row1 k).length → (nd (n.row1 k) i).c = c0) ∧
    (∀ φ : Nat → Nat → Fr → Nat, wtRow (φ k) (n.row1 k) + wtOut φ sz (gateOf n.g k (n.own k)).out = wtRow (φ k) (rw_ n.bs k) + wtOut φ sz n.g.out) := by
  obtain ⟨hl, h1⟩ := h.len k hk
  obtain ⟨o, G, eo, eG, oc, of_, og, oq, gok, gr, grs, gout, glo, gw, _⟩ := relay_facts h hk
  have hr1 : n.row1 k = (rw_ n.bs k).set (sz k) o := by unfold Nt.row1; rw [eo, hl, Nat.add_sub_cancel]
  rw [hr1, eo, eG]
  refine ⟨by simp [hl], nd_set_eq (by omega) _, fun i hi => nd_set_ne (by omega) _, fun i hi => ?_, fun φ => ?_⟩
  · rw [List.length_set, hl] at hi
    by_cases e : i = sz k
    · subst e; rw [nd_set_eq (by omega)]; exact oc
    · rw [nd_set_ne (by omega)]; exact (h.node k i hk (by omega)).1
  · have h2 := wtRow_set (φ k) (rw_ n.bs k) (sz k) (by omega) o
    have h3 := gw φ
    rw [h.own_eq hk] at h3
    omega

theorem mst_idle (h : Mst F sz rs n L) {k : Nat} (hk : k < n.bs.length) (hs : sndL (n.row1 k) = []) : (n.Slot k []).1 = n ∧ (∀ x ∈ rw_ n.bs k, x.q = []) ∧ n.g.out[k]? = some [] := by
  obtain ⟨hl, h1⟩ := h.len k hk
  obtain ⟨q1, q2, q3, q4, _⟩ := row1_facts h hk
  obtain ⟨o, G, eo, eG, oc, of_, og, oq, gok, gr, grs, gout, glo, gw, gz⟩ := relay_facts h hk
  have hq : ∀ i, i < (n.row1 k).length → (nd (n.row1 k) i).q = [] := by
    intro i hi
    refine Next_false (q4 i hi) ?_
    cases hn : (nd (n.row1 k) i).Next.2 with
    | false => rfl
    | true =>
      exfalso
      have : ((i : Int), (nd (n.row1 k) i).Next.1) ∈ sndL (n.row1 k) := by
        unfold sndL
        rw [List.mem_filterMap]
        refine ⟨(nd (n.row1 k) i, i), ?_, by simp [hn]⟩
        rw [List.mem_iff_getElem]
        exact ⟨i, by simpa using hi, by simp [nd_get hi]⟩
      rw [hs] at this
      simp at this
  have hoq : o.q = [] := by rw [← eo, ← q2]; exact hq _ (by omega)
  obtain ⟨z1, z2, z3, z4⟩ := gz hoq
  have hrow : n.row1 k = rw_ n.bs k := by
    unfold Nt.row1
    rw [eo, z4]
    exact set_nd_self (by omega)
  refine ⟨?_, fun x hx => ?_, z2⟩
  · rw [hrow] at hq q4
    have hns := none_slot (l := rw_ n.bs k) [] q4 hq
    have hgo := h.own_g hk
    unfold Nt.own at hgo
    unfold Nt.Slot
    dsimp only
    rw [hrow, hns, eo, eG, z3, z4, heard_none z1]
    simp only
    rw [nd_g_self hgo, set_nd_self (by omega), set_rw_self hk, hgo]
    rfl
  · obtain ⟨i, hi, rfl⟩ := List.mem_iff_getElem.1 hx
    have := hq i (by rw [hrow]; exact hi)
    rw [hrow, nd_get hi] at this
    exact this

theorem nxt_get {q : List Fr} (h : q ≠ []) : ∃ hi : nxt q < q.length, q.getD (nxt q) fr0 = q[nxt q] := by
  have hi := nxt_lt h
  exact ⟨hi, by rw [List.getD_eq_getElem?_getD, List.getElem?_eq_getElem hi]; rfl⟩
theorem nxt_one (x : Fr) : nxt [x] = 0 := by
  have h : nxt [x] < 1 := nxt_lt (q := [x]) (by simp)
  omega
theorem slot_ext (a b : Nt) (h1 : a.bs = b.bs) (h2 : a.g = b.g) : a = b := by cases a; cases b; simp only at h1 h2; subst h1 h2; rfl

theorem mst_slot (h : Mst F sz rs n L) {K : Nat} (hrs : routesOk rs K = true) {k : Nat} (hk : k < n.bs.length) (hL : L.length < 64) (hs : sndL (n.row1 k) ≠ [])
    (hu : ∀ i j, i < (n.row1 k).length → j < (n.row1 k).length → (nd (n.row1 k) i).Next.2 = true → (nd (n.row1 k) j).Next.2 = true → (nd (n.row1 k) i).Next.1.rank = (nd (n.row1 k) j).Next.1.rank → i = j) :
    ∃ e : Ev, e.b = k ∧ Mst F sz rs (n.Slot k []).1 (L ++ [e]) ∧ (n.Slot k []).1.bs.length = n.bs.length ∧ (e.i < sz k → (nd (rw_ n.bs k) e.i).q ≠ []) ∧ (e.i = sz k → ¬ ((nd (rw_ n.bs k) (sz k)).q = [] ∧ n.g.out[k]? = some [])) ∧ e.i ≤ sz k ∧
      (∀ b i, b < n.bs.length → i < sz b → (nd (rw_ (n.Slot k []).1.bs b) i).q = if b = k ∧ i = e.i then (nd (rw_ n.bs b) i).q.eraseIdx (nxt (nd (rw_ n.bs b) i).q) else (nd (rw_ n.bs b) i).q) ∧
      (n.Slot k []).1.g.cap = n.g.cap ∧
      ∃ O : List Hp, (O = [] → (n.Slot k []).1.g.lost = n.g.lost) ∧ (∀ φ : Nat → Nat → Fr → Nat, (∀ b i f, 1 ≤ φ b i f) → φ k e.i e.f = 1 + sumH φ sz (hopsL rs k e.f) → n.g.cap = 64 → wt φ sz n ≤ 63 → O = []) ∧ (∀ φ : Nat → Nat → Fr → Nat, wt φ sz (n.Slot k []).1 + φ k e.i e.f + sumH φ sz O = wt φ sz n + sumH φ sz (hopsL rs k e.f)) ∧ (O ≠ [] → ∃ x ∈ (n.Slot k []).1.g.lost, 0 < x) ∧ ((∃ x ∈ n.g.lost, 0 < x) → ∃ x ∈ (n.Slot k []).1.g.lost, 0 < x) := by
  obtain ⟨hl, hz⟩ := h.len k hk
  obtain ⟨q1, q2, q3, q4, q5⟩ := row1_facts h hk
  obtain ⟨o, G, eo, eG, oc, of_, og, oq, gok, gr, grs, gout, glo, gw, gz⟩ := relay_facts h hk
  have gcap : G.cap = n.g.cap := by rw [← eG]; exact (gateOf_ok h.fits.gt k _).2.2.2
  rw [eo] at q2
  rw [eG] at q5
  obtain ⟨w, hw, hn, hR⟩ := win_slot (by omega) q4 hs hu
  rw [q1] at hw
  obtain ⟨hfit, hlike⟩ := fits_slot h.fits hk []
  have hlen1 : (rw_ n.bs k).length - 1 = sz k := by omega
  -- the frame that goes
  have hwq : (nd (n.row1 k) w).q ≠ [] := by intro hq; rw [Next_nil hq] at hn; cases hn
  obtain ⟨hni, hng⟩ := nxt_get hwq
  have hf : (nd (n.row1 k) w).Next.1 = (nd (n.row1 k) w).q[nxt (nd (n.row1 k) w).q] := by
    rw [Next_c0 (q4 w (by omega)), if_neg (by simpa using hwq)]
    exact hng
  have hfr : (nd (n.row1 k) w).Next.1.right = true := by
    have hm : nd (n.row1 k) w ∈ n.row1 k := nd_mem (by omega)
    have := (Nd.right_iff _).1 ((row1_fit h.fits.tofit hk).1 _ hm)
    rw [hf]
    exact this.1.2 _ (List.getElem_mem hni)
  generalize hfe : (nd (n.row1 k) w).Next.1 = f at hR hf hfr
  -- the row behind the slot
  have hat : ∀ i, i < sz k + 1 → nd (slotL (n.row1 k) []).1 i = winR w f (nd (n.row1 k) i) i := fun i hi => by rw [hR, nd_map (by omega)]
  have hlast := hat (sz k) (by omega)
  rw [q2] at hlast
  -- the gateway behind it
  have hgate : (heardOf G k o (winR w f o (sz k))).Ins k (winR w f o (sz k)).g = G.In k f := by
    unfold heardOf winR
    by_cases e : sz k = w
    · rw [if_pos e]
      have ho1 : o.q = [f] := by
        have hf' : f = (nd (n.row1 k) w).q.getD (nxt (nd (n.row1 k) w).q) fr0 := by rw [hng]; exact hf
        rw [← e, q2] at hf' hwq
        cases hoq : o.q with
        | nil => exact absurd hoq hwq
        | cons x q =>
          rw [hoq] at oq hf'
          have : q = [] := by simpa using oq
          subst this
          have hz0 := nxt_one x
          rw [hf', hz0]
          rfl
      have hz0 := nxt_one f
      simp only [ho1, og, hz0]
      rfl
    · rw [if_neg e]
      simp only [og, of_]
      have hany : anyF [] f = true := rfl
      rw [hany]
      have hcond : (decide (0 < o.q.length) && ((o.q.length : Int) == 0)) = false := by
        rw [Bool.and_eq_false_iff]
        by_cases hq : o.q.length = 0
        · left; simp [hq]
        · right; simp; intro hq'; rw [hq'] at hq; simp at hq
      rw [hcond]
      rfl
  have hInok := Gt.In_ok gok k f
  have hsl : (n.Slot k []).1 = ⟨n.bs.set k ((slotL (n.row1 k) []).1.set (sz k) { winR w f o (sz k) with g := [] }), G.In k f⟩ := by
    unfold Nt.Slot
    dsimp only
    rw [eo, eG, hlen1, hlast, hgate]
  have hRl : (slotL (n.row1 k) []).1.length = sz k + 1 := by rw [slotL_len]; exact q1
  have hbl : (n.Slot k []).1.bs.length = n.bs.length := hlike.len
  have hrowk : rw_ (n.Slot k []).1.bs k = (slotL (n.row1 k) []).1.set (sz k) { winR w f o (sz k) with g := [] } := by
    rw [hsl, rw_get (by simpa using hk)]; simp
  have hrowb : ∀ b, b < n.bs.length → b ≠ k → rw_ (n.Slot k []).1.bs b = rw_ n.bs b := fun b hb hne => by
    rw [hsl, rw_get (by simpa using hb), rw_get hb]
    simp [List.getElem_set_ne (Ne.symm hne)]
  have hInl := In_lost (K := 16 * L.length) gok k f (by omega) (by rw [glo]; exact h.lost)
  have hwt := fun φ => In_wt (g := G) φ sz gok k f
  rw [grs] at hInl hwt
  refine ⟨⟨k, w, f⟩, rfl, ⟨hfit, ?_, ?_, fun b hb => ?_, fun b i hb hi => ?_, fun b hb => ?_, ?_, ?_⟩, hbl, fun hi => ?_, fun hi => ?_, Nat.lt_succ_iff.1 hw, fun b i hb hi => ?_, ?_, ovf G (hopsL rs k f), fun hO => ?_, fun φ h1 hfe hc hw => ?_, fun φ => ?_, ?_, ?_⟩
  · rw [hsl]; exact hInok.2.2.1.trans grs
  · rw [hbl, hsl]; exact hInok.2.1.trans gout
  · rw [hbl] at hb
    have := h.len b hb
    rw [hlike.row b]
    exact this
  · rw [hbl] at hb
    obtain ⟨n1, n2, n3⟩ := h.node b i hb hi
    rw [gotE_app]
    by_cases e : b = k
    · subst e
      rw [hrowk, nd_set_ne (by omega), hat i (by omega), q3 i hi]
      unfold winR
      by_cases e2 : i = w
      · subst e2
        simp only [if_true]
        refine ⟨n1, n2, ?_⟩
        rw [n3]
        simp
      · rw [if_neg e2]
        refine ⟨n1, n2, ?_⟩
        simp only
        have hgl := gotE_len L b i (F b i)
        rw [n3, n2]
        have h64 : decide (((gotE L b i (F b i)).length : Int) < 64) = true := by simp; omega
        rw [h64]
        have e3 : decide (w = i) = false := by simp; omega
        simp only [e3, decide_true, Bool.true_and, Bool.not_false]
        split <;> simp
    · rw [hrowb b hb e]
      refine ⟨n1, n2, ?_⟩
      rw [n3]
      have e3 : decide (k = b) = false := by simp; omega
      simp [e3]
  · rw [hbl] at hb
    by_cases e : b = k
    · subst e
      rw [hrowk, nd_set_eq (by omega)]
      unfold winR
      split
      · refine ⟨oc, of_, ?_⟩
        simp only
        exact Nat.le_trans (List.length_eraseIdx_le _ _) oq
      · exact ⟨oc, of_, oq⟩
    · rw [hrowb b hb e]
      exact h.own b hb
  · rw [hsl]
    exact puts_outR _ gr (by rw [grs]; exact hop_right hrs hfr)
  · rw [hsl]
    intro x hx
    have := hInl.1 x hx
    simp only [List.length_append, List.length_cons, List.length_nil]
    omega
  · rw [← q3 w hi]; exact hwq
  · rintro ⟨g1, g2⟩
    simp only at hi
    rw [hi, q2] at hwq
    rw [← h.own_eq hk] at g1
    have hno : relays n.g k (n.own k) = false := no_relay (by
      have hko : k < n.g.out.length := by rw [h.out]; exact hk
      rw [row_at hko]
      rw [List.getElem?_eq_getElem hko] at g2
      exact Option.some.inj g2)
    rw [ownOf_no hno] at eo
    rw [← eo] at hwq
    exact hwq g1
  · by_cases e : b = k
    · subst e
      rw [hrowk, nd_set_ne (by omega), hat i (by omega), q3 i hi]
      unfold winR
      by_cases e2 : i = w
      · subst e2
        simp
      · simp [e2]
    · rw [hrowb b hb e, if_neg (fun h => e h.1)]
  · rw [hsl]; exact hInok.2.2.2.trans gcap
  · rw [hsl]
    have := puts_same (hopsL rs k f) hO
    rw [← grs] at this
    exact this.trans glo
  · -- there is room
    have hb1 : wtRow (φ k) (rw_ n.bs k) ≤ wtBs φ n.bs := by
      have := sumI_le (ψ := fun b row => wtRow (φ b) row) n.bs 0 k hk
      rw [Nat.zero_add, ← rw_get hk] at this
      exact this
    have hb2 : sumF (φ k w) (nd (n.row1 k) w).q ≤ wtRow (φ k) (n.row1 k) := by
      have := sumI_le (ψ := fun i n => sumF (φ k i) n.q) (n.row1 k) 0 w (by omega)
      rw [Nat.zero_add, ← nd_get (by omega : w < (n.row1 k).length)] at this
      exact this
    have hb3 : φ k w f ≤ sumF (φ k w) (nd (n.row1 k) w).q := by rw [hf]; exact sumF_mem (List.getElem_mem hni)
    have hb4 : wtOut (fun _ _ _ => 1) sz G.out ≤ wtOut φ sz G.out := sumI_mono (fun i r => sumF_mono (fun x => h1 _ _ _) r) _ _
    have hb5 : (hopsL rs k f).length ≤ sumH φ sz (hopsL rs k f) := by
      have : ∀ l : List Hp, l.length ≤ sumH φ sz l := by
        intro l
        induction l with
        | nil => exact Nat.le_refl _
        | cons x l ih => have := h1 x.b.toNat (sz x.b.toNat) x.f; simp only [sumH, List.length_cons]; omega
      exact this _
    have hb6 := q5 φ
    unfold wt at hw
    simp only at hfe
    have hbH := hops_b gok (k : Int) f
    rw [grs] at hbH
    exact ovf_nil sz _ gok hbH (gcap.trans hc) (by omega)
  · -- the weights
    have h1 := wtBs_set φ n.bs k hk ((slotL (n.row1 k) []).1.set (sz k) { winR w f o (sz k) with g := [] })
    have h2 := hwt φ
    have h3 := q5 φ
    have h4 : wtRow (φ k) ((slotL (n.row1 k) []).1.set (sz k) { winR w f o (sz k) with g := [] }) = wtRow (φ k) ((n.row1 k).set w { nd (n.row1 k) w with q := (nd (n.row1 k) w).q.eraseIdx (nxt (nd (n.row1 k) w).q) }) := by
      refine wtRow_congr (by simp [hRl, q1]) fun i hi => ?_
      rw [List.length_set, hRl] at hi
      have hleft : (nd ((slotL (n.row1 k) []).1.set (sz k) { winR w f o (sz k) with g := [] }) i).q = (winR w f (nd (n.row1 k) i) i).q := by
        by_cases e : i = sz k
        · subst e; rw [nd_set_eq (by omega), q2]
        · rw [nd_set_ne (by omega), hat i hi]
      rw [hleft]
      unfold winR
      by_cases e : i = w
      · subst e; rw [if_pos rfl, nd_set_eq (by omega)]
      · rw [if_neg e, nd_set_ne (by omega)]
    have h5 := wtRow_set (φ k) (n.row1 k) w (by omega) { nd (n.row1 k) w with q := (nd (n.row1 k) w).q.eraseIdx (nxt (nd (n.row1 k) w).q) }
    have h6 := sumF_erase (φ k w) (nd (n.row1 k) w).q (nxt (nd (n.row1 k) w).q) hni
    rw [← hf] at h6
    rw [h4] at h1
    rw [hsl]
    unfold wt
    simp only at h1 h5 ⊢
    omega
  · rw [hsl]; exact hInl.2.2
  · rw [hsl]
    intro hx
    exact hInl.2.1 (by rw [glo]; exact hx)
end
end Go.Proofs

set_option linter.unusedVariables false
set_option linter.unusedSimpArgs false
set_option maxRecDepth 100000
set_option maxHeartbeats 8000000
namespace Go.Proofs
open Go.RowKit Go.Shelf Go.Pv

def cntL (c : Nat → Nat → Fr → Nat) (L : List Ev) : Nat := (L.map fun e => c e.b e.i e.f).sum
theorem cntL_append (c : Nat → Nat → Fr → Nat) (L L' : List Ev) : cntL c (L ++ L') = cntL c L + cntL c L' := by unfold cntL; rw [List.map_append, List.sum_append]
theorem cntL_one (L : List Ev) : cntL (fun _ _ _ => 1) L = L.length := by
  induction L with
  | nil => rfl
  | cons e L ih => unfold cntL at ih ⊢; simp only [List.map_cons, List.sum_cons, ih, List.length_cons]; omega
def one3 : Nat → Nat → Fr → Nat := fun _ _ _ => 1
/-- What went, and what waits with all that comes of it, is never more than at first; just as much where nothing was lost. -/
structure Acc (rs : List Rt) (sz : Nat → Nat) (T : (Nat → Nat → Fr → Nat) → Nat) (n : Nt) (L : List Ev) : Prop where
  le : ∀ c, cntL c L + wt (V rs sz c) sz n ≤ T c
  eq : (∃ x ∈ n.g.lost, 0 < x) ∨ ∀ c, cntL c L + wt (V rs sz c) sz n = T c
def uniq (n : Nt) (k : Nat) : Prop := ∀ i j, i < (n.row1 k).length → j < (n.row1 k).length → (nd (n.row1 k) i).Next.2 = true → (nd (n.row1 k) j).Next.2 = true → (nd (n.row1 k) i).Next.1.rank = (nd (n.row1 k) j).Next.1.rank → i = j
def idleAt (n : Nt) (k : Nat) : Prop := (∀ x ∈ rw_ n.bs k, x.q = []) ∧ n.g.out[k]? = some []
/-- What a slot does to the nodes' rows. -/
def drops (sz : Nat → Nat) (n n' : Nt) (e : Ev) : Prop := (e.i < sz e.b → (nd (rw_ n.bs e.b) e.i).q ≠ []) ∧ (e.i = sz e.b → ¬ ((nd (rw_ n.bs e.b) (sz e.b)).q = [] ∧ n.g.out[e.b]? = some [])) ∧ e.i ≤ sz e.b ∧ (∀ b i, b < n.bs.length → i < sz b → (nd (rw_ n'.bs b) i).q = if b = e.b ∧ i = e.i then (nd (rw_ n.bs b) i).q.eraseIdx (nxt (nd (rw_ n.bs b) i).q) else (nd (rw_ n.bs b) i).q) ∧ n'.g.cap = n.g.cap ∧ (n.g.cap = 64 → n'.g.lost = n.g.lost)

section
variable {F : Nat → Nat → List Fl} {sz : Nat → Nat} {rs : List Rt} {K : Nat} {T : (Nat → Nat → Fr → Nat) → Nat}
theorem acc_len {n : Nt} {L : List Ev} (h : Acc rs sz T n L) : L.length ≤ T one3 := by
  have := h.le one3
  unfold one3 at this ⊢
  rw [cntL_one] at this
  omega
theorem slot_step (hok : routesOk rs K = true) (hlo : loopless rs K = true) (hT : T one3 ≤ 63) {n : Nt} {L : List Ev} (h : Mst F sz rs n L) (ha : Acc rs sz T n L) {k : Nat} (hk : k < n.bs.length) (hu : uniq n k) :
    ((n.Slot k []).1 = n ∧ idleAt n k) ∨ ∃ e : Ev, e.b = k ∧ Mst F sz rs (n.Slot k []).1 (L ++ [e]) ∧ Acc rs sz T (n.Slot k []).1 (L ++ [e]) ∧ drops sz n (n.Slot k []).1 e ∧ (n.Slot k []).1.bs.length = n.bs.length := by
  by_cases hs : sndL (n.row1 k) = []
  · obtain ⟨h1, h2, h3⟩ := mst_idle h hk hs
    exact .inl ⟨h1, h2, h3⟩
  · right
    have hl := acc_len ha
    obtain ⟨e, eb, m1, m2, m3, m3a, m3b, m4, m5, O, p1, p2, o1, o2, o3⟩ := mst_slot h hok hk (by omega) hs hu
    subst eb
    have hw : ∀ c, wt (V rs sz c) sz (n.Slot e.b []).1 + c e.b e.i e.f + sumH (V rs sz c) sz O = wt (V rs sz c) sz n := by
      intro c
      have h1 := o1 (V rs sz c)
      have h2 := V_eq hok hlo sz c e.b e.i e.f
      omega
    have hc : ∀ c, cntL c (L ++ [e]) = cntL c L + c e.b e.i e.f := fun c => by rw [cntL_append]; simp [cntL]
    refine ⟨e, rfl, m1, ⟨fun c => ?_, ?_⟩, ⟨m3, m3a, m3b, m4, m5, fun hc => p1 (p2 (V rs sz one3) (fun b i f => V_ge (c := one3) 3 b i f) (V_eq hok hlo sz one3 e.b e.i e.f) hc (by have := ha.le one3; omega))⟩, m2⟩
    · have h1 := hw c
      have h2 := ha.le c
      rw [hc]
      omega
    · rcases ha.eq with he | he
      · exact .inl (o3 he)
      · by_cases hO : O = []
        · right
          intro c
          have h1 := hw c
          rw [hO] at h1
          have h2 := he c
          rw [hc]
          simp only [sumH] at h1
          omega
        · exact .inl (o2 hO)

variable {E : Nt → List Ev → Prop}
/-- Slots of buses, one behind the other. -/
theorem slots_grow (hok : routesOk rs K = true) (hlo : loopless rs K = true) (hT : T one3 ≤ 63)
    (HU : ∀ n L, Mst F sz rs n L → Acc rs sz T n L → E n L → ∀ k, k < n.bs.length → uniq n k) (HP : ∀ n n' L e, Mst F sz rs n L → Acc rs sz T n L → E n L → e.b < n.bs.length → Mst F sz rs n' (L ++ [e]) → drops sz n n' e → n'.bs.length = n.bs.length → E n' (L ++ [e])) :
    ∀ (ks : List Nat) {n : Nt} {L : List Ev}, Mst F sz rs n L → Acc rs sz T n L → E n L → (∀ k ∈ ks, k < n.bs.length) →
      ∃ L', Mst F sz rs (Nt.slots ks n) (L ++ L') ∧ Acc rs sz T (Nt.slots ks n) (L ++ L') ∧ E (Nt.slots ks n) (L ++ L') ∧ (L' = [] → Nt.slots ks n = n ∧ ∀ k ∈ ks, idleAt n k)
  | [], n, L, h, ha, he, _ => ⟨[], by simpa [Nt.slots] using h, by simpa [Nt.slots] using ha, by simpa [Nt.slots] using he, fun _ => ⟨rfl, by simp⟩⟩
  | k :: ks, n, L, h, ha, he, hk => by
    have hk0 := hk k (by simp)
    rcases slot_step hok hlo hT h ha hk0 (HU n L h ha he k hk0) with ⟨h1, h2⟩ | ⟨e, eb, m1, m2, m3, m4⟩
    · obtain ⟨L', g1, g2, g3, g4⟩ := slots_grow hok hlo hT HU HP ks h ha he (fun j hj => hk j (by simp [hj]))
      show ∃ L', Mst F sz rs (Nt.slots ks (n.Slot k []).1) (L ++ L') ∧ _
      rw [show Nt.slots (k :: ks) n = Nt.slots ks (n.Slot k []).1 from rfl, h1]
      refine ⟨L', g1, g2, g3, fun hL => ?_⟩
      obtain ⟨g5, g6⟩ := g4 hL
      refine ⟨g5, fun j hj => ?_⟩
      rcases List.mem_cons.1 hj with rfl | hj
      · exact h2
      · exact g6 j hj
    · have he' := HP n _ L e h ha he (by rw [eb]; exact hk0) m1 m3 m4
      obtain ⟨L', g1, g2, g3, g4⟩ := slots_grow hok hlo hT HU HP ks m1 m2 he' (fun j hj => by rw [m4]; exact hk j (by simp [hj]))
      show ∃ L', Mst F sz rs (Nt.slots ks (n.Slot k []).1) (L ++ L') ∧ _
      rw [show Nt.slots (k :: ks) n = Nt.slots ks (n.Slot k []).1 from rfl]
      exact ⟨e :: L', by simpa using g1, by simpa using g2, by simpa using g3, fun h => by simp at h⟩
theorem idle_still {n : Nt} {L : List Ev} (h : Mst F sz rs n L) (hi : ∀ k, k < n.bs.length → idleAt n k) : n.Still = true := by
  rw [still_iff]
  refine ⟨fun r hr => ?_, fun r hr x hx => ?_⟩
  · obtain ⟨k, hk, rfl⟩ := List.mem_iff_getElem.1 hr
    have := (hi k (by rw [← h.out]; exact hk)).2
    rw [List.getElem?_eq_getElem hk] at this
    exact Option.some.inj this
  · obtain ⟨k, hk, rfl⟩ := List.mem_iff_getElem.1 hr
    exact (hi k hk).1 x (by rw [rw_get hk]; exact hx)
theorem still_wt {n : Nt} (hs : n.Still = true) (φ : Nat → Nat → Fr → Nat) : wt φ sz n = 0 := by
  obtain ⟨h1, h2⟩ := (still_iff n).1 hs
  have hb : ∀ (bs : List (List Nd)) (j : Nat), (∀ r ∈ bs, ∀ x ∈ r, x.q = []) → sumI (fun b row => wtRow (φ b) row) j bs = 0 := by
    intro bs
    induction bs with
    | nil => intros; rfl
    | cons r bs ih =>
      intro j h
      simp only [sumI]
      rw [ih (j + 1) (fun x hx => h x (by simp [hx]))]
      unfold wtRow
      rw [wtRow_zero (h r (by simp))]
  have ho : ∀ (out : List (List Fr)) (j : Nat), (∀ r ∈ out, r = []) → sumI (fun b r => sumF (φ b (sz b)) r) j out = 0 := by
    intro out
    induction out with
    | nil => intros; rfl
    | cons r out ih =>
      intro j h
      simp only [sumI]
      rw [ih (j + 1) (fun x hx => h x (by simp [hx])), h r (by simp), sumF_nil]
  unfold wt wtBs wtOut
  rw [hb _ _ h2, ho _ _ h1]
theorem calm_ends (hok : routesOk rs K = true) (hlo : loopless rs K = true) (hT : T one3 ≤ 63)
    (HU : ∀ n L, Mst F sz rs n L → Acc rs sz T n L → E n L → ∀ k, k < n.bs.length → uniq n k) (HP : ∀ n n' L e, Mst F sz rs n L → Acc rs sz T n L → E n L → e.b < n.bs.length → Mst F sz rs n' (L ++ [e]) → drops sz n n' e → n'.bs.length = n.bs.length → E n' (L ++ [e])) :
    ∀ (M : Nat) {n : Nt} {L : List Ev}, Mst F sz rs n L → Acc rs sz T n L → E n L → T one3 < M + L.length →
      ∃ L', Mst F sz rs (Nt.calmF M n).1 (L ++ L') ∧ Acc rs sz T (Nt.calmF M n).1 (L ++ L') ∧ (Nt.calmF M n).1.Still = true ∧ (Nt.calmF M n).2 ≤ L'.length ∧ E (Nt.calmF M n).1 (L ++ L')
  | 0, n, L, h, ha, he, hM => by have := acc_len ha; omega
  | M + 1, n, L, h, ha, he, hM => by
    unfold Nt.calmF
    by_cases hs : n.Still = true
    · rw [if_pos hs]
      exact ⟨[], by simpa using h, by simpa using ha, hs, Nat.zero_le _, by simpa using he⟩
    · rw [if_neg hs]
      obtain ⟨L1, g1, g2, g3, g4⟩ := slots_grow hok hlo hT HU HP (List.range n.bs.length) h ha he (fun k hk => by simpa using hk)
      have hne : L1 ≠ [] := fun hL => hs (idle_still h fun k hk => (g4 hL).2 k (by simpa using hk))
      have hp := List.length_pos_iff.2 hne
      obtain ⟨L2, k1, k2, k3, k4, k5⟩ := calm_ends hok hlo hT HU HP M (n := n.round) g1 g2 g3 (by rw [List.length_append]; omega)
      refine ⟨L1 ++ L2, by rw [← List.append_assoc]; exact k1, by rw [← List.append_assoc]; exact k2, k3, ?_, by rw [← List.append_assoc]; exact k5⟩
      simp only [List.length_append]
      omega
end
end Go.Proofs

set_option linter.unusedVariables false
set_option linter.unusedSimpArgs false
set_option maxRecDepth 100000
set_option maxHeartbeats 8000000
namespace Go.Proofs
open Go.RowKit Go.Shelf Go.Pv

/-! #### Levels -/
def nextL (rs : List Rt) (l : List Hp) : List Hp := l.flatMap fun h => hopsL rs h.b h.f
def reachN (rs : List Rt) : Nat → List Hp → List Hp
  | 0, _ => []
  | d + 1, l => l ++ reachN rs d (nextL rs l)
def reachL (rs : List Rt) (b : Int) (f : Fr) : List Hp := reachN rs 4 (hopsL rs b f)
theorem nextL_nn {rs : List Rt} (hi : inB rs) (l : List Hp) : ∀ h ∈ nextL rs l, 0 ≤ h.b := by
  intro h hh
  obtain ⟨p, _, hp⟩ := List.mem_flatMap.1 hh
  obtain ⟨r, hr, _, h2⟩ := hop_of hp
  have := (hi r hr).2.1
  omega
theorem hops_nn {rs : List Rt} (hi : inB rs) (b : Int) (f : Fr) : ∀ h ∈ hopsL rs b f, 0 ≤ h.b := by
  intro h hh
  obtain ⟨r, hr, _, h2⟩ := hop_of hh
  have := (hi r hr).2.1
  omega
theorem val_next (rs : List Rt) (sz : Nat → Nat) (c : Nat → Nat → Fr → Nat) (d : Nat) : ∀ (l : List Hp), (∀ h ∈ l, 0 ≤ h.b) → sumH (val rs sz c (d + 1)) sz l = sumH c sz l + sumH (val rs sz c d) sz (nextL rs l)
  | [], _ => rfl
  | h :: l, hn => by
    have ih := val_next rs sz c d l (fun x hx => hn x (by simp [hx]))
    have hb : ((h.b.toNat : Nat) : Int) = h.b := Int.toNat_of_nonneg (hn h (by simp))
    have hv : val rs sz c (d + 1) h.b.toNat (sz h.b.toNat) h.f = c h.b.toNat (sz h.b.toNat) h.f + sumH (val rs sz c d) sz (hopsL rs h.b h.f) := by
      show _ + sumH _ _ (hopsL rs ((h.b.toNat : Nat) : Int) h.f) = _
      rw [hb]
    have hx : nextL rs (h :: l) = hopsL rs h.b h.f ++ nextL rs l := by unfold nextL; rw [List.flatMap_cons]
    rw [hx, sumH_append]
    show val rs sz c (d + 1) h.b.toNat (sz h.b.toNat) h.f + sumH (val rs sz c (d + 1)) sz l = c h.b.toNat (sz h.b.toNat) h.f + sumH c sz l + _
    rw [ih, hv]
    omega
theorem sumH_reach {rs : List Rt} (hi : inB rs) (sz : Nat → Nat) (c : Nat → Nat → Fr → Nat) : ∀ (d : Nat) (l : List Hp), (∀ h ∈ l, 0 ≤ h.b) → sumH (val rs sz c d) sz l = sumH c sz (reachN rs (d + 1) l)
  | 0, l, _ => by simp only [reachN, List.append_nil]; rfl
  | d + 1, l, hn => by
    rw [val_next rs sz c d l hn, sumH_reach hi sz c d (nextL rs l) (nextL_nn hi l)]
    show _ = sumH c sz (l ++ reachN rs (d + 1) (nextL rs l))
    rw [sumH_append]
theorem V_reach {rs : List Rt} {K : Nat} (hok : routesOk rs K = true) (hlo : loopless rs K = true) (sz : Nat → Nat) (c : Nat → Nat → Fr → Nat) (b i : Nat) (f : Fr) : V rs sz c b i f = c b i f + sumH c sz (reachL rs b f) := by
  obtain ⟨k1, k2, _, k4⟩ := routesOk_on hok
  have hi : inB rs := fun r h => by have := k4 r h; omega
  rw [V_eq hok hlo]
  unfold V reachL
  rw [sumH_reach hi sz c 3 _ (hops_nn hi b f)]

/-! #### The net -/
def netK (sizes : List Int) (rs : List Rt) : Nt := ⟨(freshL sizes).map ownIn, ⟨rs, 64, List.replicate sizes.length [], List.replicate sizes.length 0⟩⟩
def szK (sizes : List Int) (b : Nat) : Nat := (sizes.getD b 0).toNat
def sendK (sizes : List Int) (rs : List Rt) (b w : Nat) (f : Fr) : Nt := ⟨(netK sizes rs).bs.set b ((rw_ (netK sizes rs).bs b).set w { own0 with q := [f] }), (netK sizes rs).g⟩
theorem carry_new {sizes : List Int} {rs : List Rt} (h0 : 1 ≤ sizes.length) (h4 : sizes.length ≤ 4) (hs : ∀ s ∈ sizes, 1 ≤ s ∧ s ≤ 7) : Nt.New (freshL sizes) rs 64 = if routesOk rs sizes.length = false then (nt0, 120) else if loopless rs sizes.length = false then (nt0, 121) else (netK sizes rs, 0) := by
  have hlen : (freshL sizes).length = sizes.length := by simp [freshL]
  have hw : (freshL sizes).any wrongL = false := by
    rw [List.any_eq_false]
    intro r hr
    obtain ⟨s, hs', rfl⟩ := List.mem_map.1 hr
    have := hs s hs'
    unfold wrongL
    rw [Bool.not_eq_true, Bool.or_eq_false_iff, Bool.or_eq_false_iff]
    refine ⟨by simp [freshR]; omega, by simp [freshR]; omega, ?_⟩
    rw [List.any_eq_false]
    intro n hn
    unfold freshR at hn
    rw [List.mem_replicate] at hn
    rw [hn.2, own0_right]
    simp
  have hG : Gt.New rs sizes.length 64 = if routesOk rs sizes.length = false then (gt0, 120) else if loopless rs sizes.length = false then (gt0, 121) else (⟨rs, 64, List.replicate sizes.length [], List.replicate sizes.length 0⟩, 0) := by
    unfold Gt.New
    rw [Int.toNat_natCast]
    rw [if_neg (by omega : ¬ ((64 : Int) < 1 ∨ (64 : Int) > 64))]
  unfold Nt.New
  rw [hw, hlen, if_neg (by simp; omega), hG]
  by_cases h1 : routesOk rs sizes.length = false
  · rw [if_pos h1, if_pos h1, if_pos (by simp)]
  · rw [if_neg h1, if_neg h1]
    by_cases h2 : loopless rs sizes.length = false
    · rw [if_pos h2, if_pos h2, if_pos (by simp)]
    · rw [if_neg h2, if_neg h2, if_neg (by simp)]
      rfl
theorem szK_at {sizes : List Int} {b : Nat} (hb : b < sizes.length) : szK sizes b = (sizes[b]).toNat := by unfold szK; rw [List.getD_eq_getElem?_getD, List.getElem?_eq_getElem hb]; rfl
theorem netK_row {sizes : List Int} {rs : List Rt} {b : Nat} (hb : b < sizes.length) : rw_ (netK sizes rs).bs b = List.replicate (szK sizes b + 1) own0 := by
  unfold netK freshL
  rw [rw_get (by simpa using hb), szK_at hb]
  simp only [List.getElem_map]
  unfold ownIn freshR
  rw [List.replicate_succ']
theorem nd_rep {n i : Nat} (hi : i < n) (x : Nd) : nd (List.replicate n x) i = x := by rw [nd_get (by simpa using hi)]; simp
theorem own0_c : own0.c = c0 := rfl
/-- Sizes and routes that may be. -/
structure CK (sizes : List Int) (rs : List Rt) : Prop where
  h0 : 1 ≤ sizes.length
  h4 : sizes.length ≤ 4
  hs : ∀ s ∈ sizes, 1 ≤ s ∧ s ≤ 7
  hok : routesOk rs sizes.length = true
  hlo : loopless rs sizes.length = true
theorem netK_fits {sizes : List Int} {rs : List Rt} (ck : CK sizes rs) : (netK sizes rs).fits := by
  obtain ⟨h0, h4, hs, hok, hlo⟩ := id ck
  have hn := carry_new (rs := rs) h0 h4 hs
  rw [if_neg (by simp [hok]), if_neg (by simp [hlo])] at hn
  have := (fits_new (l := freshL sizes) (r := rs) (room := 64) (by
    intro x hx n hn f hf
    obtain ⟨s, _, rfl⟩ := List.mem_map.1 hx
    unfold freshR at hn
    rw [List.mem_replicate] at hn
    rw [hn.2] at hf
    simp [own0] at hf) (by rw [hn])).1
  rw [hn] at this
  exact this
theorem sz_pos {sizes : List Int} {rs : List Rt} (ck : CK sizes rs) {b : Nat} (hb : b < sizes.length) : 1 ≤ szK sizes b ∧ szK sizes b ≤ 7 := by
  obtain ⟨h0, h4, hs, hok, hlo⟩ := id ck
  have := hs _ (List.getElem_mem hb)
  rw [szK_at hb]; omega
theorem carry_send {sizes : List Int} {rs : List Rt} (ck : CK sizes rs) {b w : Nat} {f : Fr} (hb : b < sizes.length) (hw : w < szK sizes b) (hf : f.right = true) : (netK sizes rs).Send (b : Int) (w : Int) f = (sendK sizes rs b w f, 0) := by
  obtain ⟨h0, h4, hs, hok, hlo⟩ := id ck
  have hlen : (netK sizes rs).bs.length = sizes.length := by simp [netK, freshL]
  have hrow := netK_row (rs := rs) hb
  unfold Nt.Send
  rw [if_neg (by rw [hlen]; omega), Int.toNat_natCast, hrow, if_neg (by simp; omega), Int.toNat_natCast, nd_rep (by omega)]
  have hsd : own0.Send f = ({ own0 with q := [f] }, 0) := by
    unfold Nd.Send Nd.off own0
    rw [if_neg (by simp [hf]), if_neg (by simp), if_neg (by simp)]
    rfl
  rw [hsd]
  unfold sendK
  rw [hrow]
theorem sendK_nd {sizes : List Int} {rs : List Rt} (ck : CK sizes rs) {b w : Nat} {f : Fr} (hb : b < sizes.length) (hw : w < szK sizes b) {b' i : Nat} (hb' : b' < sizes.length) (hi : i < szK sizes b' + 1) : nd (rw_ (sendK sizes rs b w f).bs b') i = if b' = b ∧ i = w then { own0 with q := [f] } else own0 := by
  obtain ⟨h0, h4, hs, hok, hlo⟩ := id ck
  have hlen : (netK sizes rs).bs.length = sizes.length := by simp [netK, freshL]
  unfold sendK
  by_cases e : b' = b
  · subst e
    rw [rw_get (by simpa [hlen] using hb')]
    simp only [List.getElem_set_self]
    rw [netK_row hb]
    by_cases e2 : i = w
    · subst e2; rw [nd_set_eq (by simp; omega), if_pos (by simp)]
    · rw [nd_set_ne (fun h => e2 h.symm), nd_rep hi, if_neg (by simpa using e2)]
  · rw [if_neg (fun h => e h.1), rw_get (by simpa [hlen] using hb')]
    simp only [List.getElem_set_ne (Ne.symm e)]
    rw [← rw_get (by rw [hlen]; exact hb'), netK_row hb', nd_rep hi]
theorem sendK_mst {sizes : List Int} {rs : List Rt} (ck : CK sizes rs) {b w : Nat} {f : Fr} (hb : b < sizes.length) (hw : w < szK sizes b) (hf : f.right = true) (hby : byOk f.data) : Mst (fun _ _ => []) (szK sizes) rs (sendK sizes rs b w f) [] := by
  obtain ⟨h0, h4, hs, hok, hlo⟩ := id ck
  have hlen : (netK sizes rs).bs.length = sizes.length := by simp [netK, freshL]
  have hfit := netK_fits ck
  obtain ⟨s1, s2⟩ := fits_send hfit (b : Int) (w : Int) hby
  rw [carry_send ck hb hw hf] at s1 s2
  simp only at s1 s2
  have hsl : (sendK sizes rs b w f).bs.length = sizes.length := by rw [s2.len, hlen]
  refine ⟨s1, rfl, ?_, fun b' hb' => ?_, fun b' i hb' hi => ?_, fun b' hb' => ?_, fun r hr g hg => ?_, fun x hx => ?_⟩
  · rw [hsl]; simp [sendK, netK]
  · rw [hsl] at hb'
    refine ⟨?_, (sz_pos ck hb').1⟩
    rw [s2.row b', netK_row hb']; simp
  · rw [hsl] at hb'
    rw [sendK_nd ck hb hw hb' (by omega)]
    split <;> exact ⟨rfl, rfl, rfl⟩
  · rw [hsl] at hb'
    rw [sendK_nd ck hb hw hb' (by omega)]
    split <;> exact ⟨rfl, rfl, by simp [own0]⟩
  · simp [sendK, netK] at hr
    rw [hr.2] at hg; simp at hg
  · simp [sendK, netK] at hx
    rw [hx.2]; simp
theorem wt_send {sizes : List Int} {rs : List Rt} (ck : CK sizes rs) {b w : Nat} {f : Fr} (hb : b < sizes.length) (hw : w < szK sizes b) (φ : Nat → Nat → Fr → Nat) : wt φ (szK sizes) (sendK sizes rs b w f) = φ b w f := by
  obtain ⟨h0, h4, hs, hok, hlo⟩ := id ck
  have hlen : (netK sizes rs).bs.length = sizes.length := by simp [netK, freshL]
  have hz : wt φ (szK sizes) (netK sizes rs) = 0 := by
    apply still_wt
    rw [still_iff]
    refine ⟨fun r hr => by simp [netK] at hr; exact hr.2, fun r hr x hx => ?_⟩
    obtain ⟨k, hk, rfl⟩ := List.mem_iff_getElem.1 hr
    rw [← rw_get hk, netK_row (by rw [← hlen]; exact hk), List.mem_replicate] at hx
    rw [hx.2]; rfl
  have h1 := wtBs_set φ (netK sizes rs).bs b (by rw [hlen]; exact hb) ((rw_ (netK sizes rs).bs b).set w { own0 with q := [f] })
  have h2 := wtRow_set (φ b) (rw_ (netK sizes rs).bs b) w (by rw [netK_row hb]; simp; omega) { own0 with q := [f] }
  have h3 : nd (rw_ (netK sizes rs).bs b) w = own0 := by rw [netK_row hb, nd_rep (by omega)]
  rw [h3] at h2
  have h4' : sumF (φ b w) own0.q = 0 := rfl
  simp only [sumF_cons, sumF_nil] at h1 h2
  unfold wt at hz ⊢
  unfold sendK
  simp only at h1 h2 ⊢
  omega
/-- One frame is carried. -/
theorem carry {sizes : List Int} {rs : List Rt} (ck : CK sizes rs) {b w : Nat} {f : Fr} (hb : b < sizes.length) (hw : w < szK sizes b) (hf : f.right = true) (hby : byOk f.data) (hr : (reachL rs b f).length ≤ 60) (M : Nat) (hM : 62 < M) :
    ∃ L, Mst (fun _ _ => []) (szK sizes) rs (Nt.calmF M (sendK sizes rs b w f)).1 L ∧ (Nt.calmF M (sendK sizes rs b w f)).1.Still = true ∧ (Nt.calmF M (sendK sizes rs b w f)).2 ≤ 61 ∧ ∀ c, cntL c L = c b w f + sumH c (szK sizes) (reachL rs b f) := by
  obtain ⟨h0, h4, hs, hok, hlo⟩ := id ck
  have hm := sendK_mst ck hb hw hf hby
  have hlenS : (sendK sizes rs b w f).bs.length = sizes.length := by rw [← hm.out]; simp [sendK, netK]
  have hT : ∀ c, wt (V rs (szK sizes) c) (szK sizes) (sendK sizes rs b w f) = c b w f + sumH c (szK sizes) (reachL rs b f) := fun c => by
    rw [wt_send ck hb hw, V_reach hok hlo]
  have hone : ∀ l : List Hp, sumH one3 (szK sizes) l = l.length := by
    intro l
    induction l with
    | nil => rfl
    | cons x l ih => simp only [sumH, ih, List.length_cons, one3]; omega
  have ha : Acc rs (szK sizes) (fun c => c b w f + sumH c (szK sizes) (reachL rs b f)) (sendK sizes rs b w f) [] :=
    ⟨fun c => by rw [hT]; simp [cntL], .inr fun c => by rw [hT]; simp [cntL]⟩
  have hT3 : (fun c : Nat → Nat → Fr → Nat => c b w f + sumH c (szK sizes) (reachL rs b f)) one3 ≤ 61 := by
    simp only [hone, one3]; omega
  let E : Nt → List Ev → Prop := fun n L => n.bs.length = sizes.length ∧ n.g.cap = 64 ∧ (∀ x ∈ n.g.lost, x = 0) ∧ (n = sendK sizes rs b w f ∨ ∀ b' i, b' < sizes.length → i < szK sizes b' → (nd (rw_ n.bs b') i).q = [])
  have hE : E (sendK sizes rs b w f) [] := ⟨hlenS, rfl, fun x hx => by simp [sendK, netK] at hx; exact hx.2, .inl rfl⟩
  have HU : ∀ n L, Mst (fun _ _ => []) (szK sizes) rs n L → Acc rs (szK sizes) (fun c => c b w f + sumH c (szK sizes) (reachL rs b f)) n L → E n L → ∀ k, k < n.bs.length → uniq n k := by
    intro n L m a he k hk i j hi hj hni hnj _
    obtain ⟨q1, q2, q3, q4, _⟩ := row1_facts m hk
    rw [q1] at hi hj
    have hk' : k < sizes.length := by rw [← he.1]; exact hk
    rcases he.2.2.2 with rfl | hq
    · -- the first net: one node alone has a frame
      have hone : ∀ i, i < szK sizes k + 1 → (nd ((sendK sizes rs b w f).row1 k) i).Next.2 = true → i = w := by
        intro i hi hn
        by_cases e : i = szK sizes k
        · exfalso
          subst e
          rw [q2] at hn
          have hno : relays (sendK sizes rs b w f).g k ((sendK sizes rs b w f).own k) = false := no_relay (by
            unfold Gt.row
            rw [List.getD_eq_getElem?_getD]
            cases hx : (sendK sizes rs b w f).g.out[(k : Int).toNat]? with
            | none => rfl
            | some r =>
              have := List.mem_of_getElem? hx
              simp [sendK, netK] at this
              rw [this.2]; rfl)
          rw [ownOf_no hno, m.own_eq hk, sendK_nd ck hb hw hk' (by omega), if_neg (fun h => by have := h.1; subst this; omega)] at hn
          exact absurd hn (by simp [Next_nil (n := own0) rfl])
        · rw [q3 i (by omega), sendK_nd ck hb hw hk' hi] at hn
          by_cases e2 : k = b ∧ i = w
          · exact e2.2
          · rw [if_neg e2] at hn
            exact absurd hn (by simp [Next_nil (n := own0) rfl])
      rw [hone i hi hni, hone j hj hnj]
    · have hone : ∀ i, i < szK sizes k + 1 → (nd (n.row1 k) i).Next.2 = true → i = szK sizes k := by
        intro i hi hn
        by_cases e : i = szK sizes k
        · exact e
        · exfalso
          rw [q3 i (by omega), Next_nil (hq k i hk' (by omega))] at hn
          cases hn
      rw [hone i hi hni, hone j hj hnj]
  have HP : ∀ n n' L e, Mst (fun _ _ => []) (szK sizes) rs n L → Acc rs (szK sizes) (fun c => c b w f + sumH c (szK sizes) (reachL rs b f)) n L → E n L → e.b < n.bs.length → Mst (fun _ _ => []) (szK sizes) rs n' (L ++ [e]) → drops (szK sizes) n n' e → n'.bs.length = n.bs.length → E n' (L ++ [e]) := by
    intro n n' L e m a he heb m' hd hl
    obtain ⟨d1, d1a, d1b, d2, d3, d4⟩ := hd
    refine ⟨hl.trans he.1, d3.trans he.2.1, fun x hx => he.2.2.1 x (by rw [d4 he.2.1] at hx; exact hx), .inr fun b' i hb' hi => ?_⟩
    rw [d2 b' i (by rw [he.1]; exact hb') hi]
    rcases he.2.2.2 with rfl | hq
    · have heb' : e.b < sizes.length := by rw [← he.1]; exact heb
      rw [sendK_nd ck hb hw hb' (by omega)]
      have hei : e.b = b ∧ e.i = w := by
        by_cases hlt : e.i < szK sizes e.b
        · have := d1 hlt
          rw [sendK_nd ck hb hw heb' (by omega)] at this
          by_cases e3 : e.b = b ∧ e.i = w
          · exact e3
          · rw [if_neg e3] at this
            exact absurd rfl this
        · exfalso
          refine d1a (by omega) ⟨?_, ?_⟩
          · rw [sendK_nd ck hb hw heb' (by omega), if_neg (fun h => by have := h.1; rw [this] at h; omega)]
            rfl
          · simp [sendK, netK, heb']
      by_cases e2 : b' = b ∧ i = w
      · rw [if_pos e2, if_pos ⟨e2.1.trans hei.1.symm, e2.2.trans hei.2.symm⟩]
        simp [nxt_one]
      · rw [if_neg e2]
        split <;> rfl
    · rw [hq b' i hb' hi]
      split <;> rfl
  obtain ⟨L, k1, k2, k3, k4, k5⟩ := calm_ends (E := E) hok hlo (Nat.le_trans hT3 (by omega)) HU HP M hm ha hE (by rw [List.length_nil]; exact Nat.lt_of_le_of_lt hT3 (by omega))
  rw [List.nil_append] at k1 k2 k5
  refine ⟨L, k1, k3, Nat.le_trans k4 (Nat.le_trans (acc_len k2) hT3), fun c => ?_⟩
  rcases k2.eq with hx | hx
  · obtain ⟨x, hx1, hx2⟩ := hx
    have := k5.2.2.1 x hx1
    omega
  · have := hx c
    rw [still_wt k3] at this
    simpa using this
end Go.Proofs

