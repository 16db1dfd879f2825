/- A net in which nothing waits; a net in which one frame waits, and no routes. Plain. -/
import Derived.Test.YtnnindnmpfmaaaaGreatPg
set_option linter.unusedVariables false
set_option linter.unusedSimpArgs false
set_option maxRecDepth 100000
set_option maxHeartbeats 8000000
namespace Go.Proofs
open Go.RowKit Go.Shelf Go.Pv

theorem waits_from : ∀ (l : List (List Fr)) (n : Int), l.foldl (fun n r => n + (r.length : Int)) n = n + waitsL l
  | [], n => by simp [waitsL]
  | r :: l, n => by
    unfold waitsL
    rw [List.foldl_cons, List.foldl_cons, waits_from l, waits_from l (0 + _)]
    omega
theorem waitsL_cons (r : List Fr) (l : List (List Fr)) : waitsL (r :: l) = r.length + waitsL l := by
  unfold waitsL
  rw [List.foldl_cons, waits_from]
  show 0 + (r.length : Int) + waitsL l = r.length + waitsL l
  omega
theorem waitsL_nonneg : ∀ (l : List (List Fr)), 0 ≤ waitsL l
  | [] => by simp [waitsL]
  | r :: l => by rw [waitsL_cons]; have := waitsL_nonneg l; omega
theorem waitsL_zero {l : List (List Fr)} : waitsL l = 0 ↔ ∀ r ∈ l, r = [] := by
  induction l with
  | nil => simp [waitsL]
  | cons r l ih =>
    rw [waitsL_cons]
    have h1 := waitsL_nonneg l
    constructor
    · intro h x hx
      rcases List.mem_cons.1 hx with rfl | hx
      · exact List.eq_nil_of_length_eq_zero (by omega)
      · exact ih.1 (by omega) x hx
    · intro h
      have h2 := h r (by simp)
      have h3 := ih.2 (fun x hx => h x (by simp [hx]))
      rw [h2, h3]; rfl
theorem still_iff (n : Nt) : n.Still = true ↔ (∀ r ∈ n.g.out, r = []) ∧ ∀ r ∈ n.bs, ∀ x ∈ r, x.q = [] := by
  unfold Nt.Still
  rw [Bool.and_eq_true, beq_iff_eq, waitsL_zero]
  refine and_congr Iff.rfl ?_
  simp only [Bool.not_eq_true', List.any_eq_false, busyR, Nd.busy, Bool.not_eq_true]
  constructor
  · intro h r hr x hx
    have := h r hr x hx
    have := of_decide_eq_false this
    exact List.eq_nil_of_length_eq_zero (by omega)
  · intro h r hr x hx
    rw [h r hr x hx]; rfl

/-- Nothing waits, and all nodes are fresh but for what they got. -/
structure Nt.idle (n : Nt) : Prop where
  nodes : ∀ r ∈ n.bs, ∀ x ∈ r, x.q = [] ∧ x.c = c0
  out : ∀ r ∈ n.g.out, r = []
theorem Nt.idle.still {n : Nt} (h : n.idle) : n.Still = true := (still_iff n).2 ⟨h.out, fun r hr x hx => (h.nodes r hr x hx).1⟩
theorem Nt.idle.row {n : Nt} (h : n.idle) (k : Int) : n.g.row k = [] := by
  unfold Gt.row
  rw [List.getD_eq_getElem?_getD]
  cases hx : n.g.out[k.toNat]? with
  | none => rfl
  | some r => exact h.out _ (List.mem_of_getElem? hx)
theorem no_relay {g : Gt} {k : Nat} {own : Nd} (h : g.row (k : Int) = []) : relays g k own = false := by
  unfold relays Gt.Next Gt.has
  simp [h]
theorem set_nd_self {l : List Nd} {i : Nat} (hi : i < l.length) : l.set i (nd l i) = l := by rw [nd_get hi]; exact List.set_getElem_self hi
theorem row1_no {n : Nt} {k : Nat} (h0 : rw_ n.bs k ≠ []) (h : relays n.g k (n.own k) = false) : n.row1 k = rw_ n.bs k := by
  have hp := List.length_pos_iff.2 h0
  have : ownOf n.g k (n.own k) = n.own k := by unfold ownOf; rw [h]; rfl
  unfold Nt.row1
  rw [this]
  exact set_nd_self (by omega)
theorem heard_none {g : Gt} {k : Nat} {own x : Nd} (h : own.q = []) : heardOf g k own x = g := by
  unfold heardOf
  rw [h]; rfl
theorem ownOf_no {g : Gt} {k : Nat} {own : Nd} (h : relays g k own = false) : ownOf g k own = own := by unfold ownOf; rw [h]; rfl
theorem gateOf_no {g : Gt} {k : Nat} {own : Nd} (h : relays g k own = false) : gateOf g k own = g := by unfold gateOf; rw [h]; rfl
theorem set_rw_self {l : List (List Nd)} {k : Nat} (hk : k < l.length) : l.set k (rw_ l k) = l := by rw [rw_get hk]; exact List.set_getElem_self hk
theorem nd_g_self {x : Nd} (h : x.g = []) : ({ x with g := [] } : Nd) = x := by obtain ⟨q, fs, c, g⟩ := x; simp only at h; subst h; rfl
theorem idle_slot {n : Nt} (hf : n.fits) (h : n.idle) {k : Nat} (hk : k < n.bs.length) (who : List Int) : n.Slot k who = (n, ⟨-1, fr0, false, 11⟩) := by
  have hm := hf.mem hk
  have h0 := (hf.rows _ hm).1
  have hp := List.length_pos_iff.2 h0
  have hr := no_relay (own := n.own k) (h.row k)
  have hN := h.nodes _ hm
  have hs := none_slot (l := rw_ n.bs k) who (fun i hi => (hN _ (nd_mem hi)).2) (fun i hi => (hN _ (nd_mem hi)).1)
  have hl := hf.last _ hm
  unfold lastE at hl
  unfold Nt.Slot
  dsimp only
  have hoq : (n.own k).q = [] := (hN (n.own k) (nd_mem (l := rw_ n.bs k) (i := (rw_ n.bs k).length - 1) (by omega))).1
  rw [row1_no h0 hr, hs, ownOf_no hr, gateOf_no hr, heard_none hoq]
  simp only
  rw [nd_g_self hl, set_nd_self (by omega), set_rw_self hk, hl]
  rfl
theorem idle_new {l : List (List Nd)} {r : List Rt} {room : Int} (h : (Nt.New l r room).2 = 0) (hl : ∀ x ∈ l, ∀ n ∈ x, n.q = [] ∧ n.c = c0) : (Nt.New l r room).1.idle := by
  unfold Nt.New at h ⊢
  split
  · rename_i h1; rw [if_pos h1] at h; simp at h
  · rename_i h1
    rw [if_neg h1] at h
    split
    · rename_i h2; rw [if_pos h2] at h; exact absurd h h2
    · rename_i h2
      have h2' : (Gt.New r l.length room).2 = 0 := by simpa using h2
      refine ⟨fun x hx n hn => ?_, fun x hx => ?_⟩
      · simp only at hx
        obtain ⟨y, hy, rfl⟩ := List.mem_map.1 hx
        rcases List.mem_append.1 hn with hn | hn
        · exact hl y hy n hn
        · simp at hn; subst hn; exact ⟨rfl, rfl⟩
      · unfold Gt.New at h2' hx
        split at h2'
        · simp at h2'
        · rename_i k1
          split at h2'
          · simp at h2'
          · rename_i k2
            split at h2'
            · simp at h2'
            · rename_i k3
              rw [if_neg k1, if_neg k2, if_neg k3] at hx
              simp at hx
              exact hx.2

end Go.Proofs

