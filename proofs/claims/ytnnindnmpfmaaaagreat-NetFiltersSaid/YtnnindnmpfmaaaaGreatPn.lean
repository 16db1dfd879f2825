/- A net in which nothing waits; a net in which one frame waits, and no routes. Plain. -/
import Derived.Test.YtnnindnmpfmaaaaGreatPg
set_option linter.unusedVariables false
set_option linter.unusedSimpArgs false
set_option maxRecDepth 100000
set_option maxHeartbeats 8000000
namespace Go.Proofs
open Go.RowKit Go.Shelf Go.Pv

theorem waits_from : ∀ (l : List (List Fr)) (n : Int), l.foldl (fun n r => n + (r.length : Int)) n = n + waitsL l
  | [], n => by simp [waitsL]
  | r :: l, n => by
    unfold waitsL
    rw [List.foldl_cons, List.foldl_cons, waits_from l, waits_from l (0 + _)]
    omega
theorem waitsL_cons (r : List Fr) (l : List (List Fr)) : waitsL (r :: l) = r.length + waitsL l := by
  unfold waitsL
  rw [List.foldl_cons, waits_from]
  show 0 + (r.length : Int) + waitsL l = r.length + waitsL l
  omega
theorem waitsL_nonneg : ∀ (l : List (List Fr)), 0 ≤ waitsL l
  | [] => by simp [waitsL]
  | r :: l => by rw [waitsL_cons]; have := waitsL_nonneg l; omega
theorem waitsL_zero {l : List (List Fr)} : waitsL l = 0 ↔ ∀ r ∈ l, r = [] := by
  induction l with
  | nil => simp [waitsL]
  | cons r l ih =>
    rw [waitsL_cons]
    have h1 := waitsL_nonneg l
    constructor
    · intro h x hx
      rcases List.mem_cons.1 hx with rfl | hx
      · exact List.eq_nil_of_length_eq_zero (by omega)
      · exact ih.1 (by omega) x hx
    · intro h
      have h2 := h r (by simp)
      have h3 := ih.2 (fun x hx => h x (by simp [hx]))
      rw [h2, h3]; rfl
theorem still_iff (n : Nt) : n.Still = true ↔ (∀ r ∈ n.g.out, r = []) ∧ ∀ r ∈ n.bs, ∀ x ∈ r, x.q = [] := by
  unfold Nt.Still
  rw [Bool.and_eq_true, beq_iff_eq, waitsL_zero]
  refine and_congr Iff.rfl ?_
  simp only [Bool.not_eq_true', List.any_eq_false, busyR, Nd.busy, Bool.not_eq_true]
  constructor
  · intro h r hr x hx
    have := h r hr x hx
    have := of_decide_eq_false this
    exact List.eq_nil_of_length_eq_zero (by omega)
  · intro h r hr x hx
    rw [h r hr x hx]; rfl

/-- Nothing waits, and all nodes are fresh but for what they got. -/
structure Nt.idle (n : Nt) : Prop where
  nodes : ∀ r ∈ n.bs, ∀ x ∈ r, x.q = [] ∧ x.c = c0
  out : ∀ r ∈ n.g.out, r = []
theorem Nt.idle.still {n : Nt} (h : n.idle) : n.Still = true := (still_iff n).2 ⟨h.out, fun r hr x hx => (h.nodes r hr x hx).1⟩
theorem Nt.idle.row {n : Nt} (h : n.idle) (k : Int) : n.g.row k = [] := by
  unfold Gt.row
  rw [List.getD_eq_getElem?_getD]
  cases hx : n.g.out[k.toNat]? with
  | none => rfl
  | some r => exact h.out _ (List.mem_of_getElem? hx)
theorem no_relay {g : Gt} {k : Nat} {own : Nd} (h : g.row (k : Int) = []) : relays g k own = false := by
  unfold relays Gt.Next Gt.has
  simp [h]
theorem set_nd_self {l : List Nd} {i : Nat} (hi : i < l.length) : l.set i (nd l i) = l := by rw [nd_get hi]; exact List.set_getElem_self hi
theorem row1_no {n : Nt} {k : Nat} (h0 : rw_ n.bs k ≠ []) (h : relays n.g k (n.own k) = false) : n.row1 k = rw_ n.bs k := by
  have hp := List.length_pos_iff.2 h0
  have : ownOf n.g k (n.own k) = n.own k := by unfold ownOf; rw [h]; rfl
  unfold Nt.row1
  rw [this]
  exact set_nd_self (by omega)
theorem heard_none {g : Gt} {k : Nat} {own x : Nd} (h : own.q = []) : heardOf g k own x = g := by
  unfold heardOf
  rw [h]; rfl
theorem ownOf_no {g : Gt} {k : Nat} {own : Nd} (h : relays g k own = false) : ownOf g k own = own := by unfold ownOf; rw [h]; rfl
theorem gateOf_no {g : Gt} {k : Nat} {own : Nd} (h : relays g k own = false) : gateOf g k own = g := by unfold gateOf; rw [h]; rfl
theorem set_rw_self {l : List (List Nd)} {k : Nat} (hk : k < l.length) : l.set k (rw_ l k) = l := by rw [rw_get hk]; exact List.set_getElem_self hk
theorem nd_g_self {x : Nd} (h : x.g = []) : ({ x with g := [] } : Nd) = x := by obtain ⟨q, fs, c, g⟩ := x; simp only at h; subst h; rfl
theorem idle_slot {n : Nt} (hf : n.fits) (h : n.idle) {k : Nat} (hk : k < n.bs.length) (who : List Int) : n.Slot k who = (n, ⟨-1, fr0, false, 11⟩) := by
  have hm := hf.mem hk
  have h0 := (hf.rows _ hm).1
  have hp := List.length_pos_iff.2 h0
  have hr := no_relay (own := n.own k) (h.row k)
  have hN := h.nodes _ hm
  have hs := none_slot (l := rw_ n.bs k) who (fun i hi => (hN _ (nd_mem hi)).2) (fun i hi => (hN _ (nd_mem hi)).1)
  have hl := hf.last _ hm
  unfold lastE at hl
  unfold Nt.Slot
  dsimp only
  have hoq : (n.own k).q = [] := (hN (n.own k) (nd_mem (l := rw_ n.bs k) (i := (rw_ n.bs k).length - 1) (by omega))).1
  rw [row1_no h0 hr, hs, ownOf_no hr, gateOf_no hr, heard_none hoq]
  simp only
  rw [nd_g_self hl, set_nd_self (by omega), set_rw_self hk, hl]
  rfl
theorem idle_new {l : List (List Nd)} {r : List Rt} {room : Int} (h : (Nt.New l r room).2 = 0) (hl : ∀ x ∈ l, ∀ n ∈ x, n.q = [] ∧ n.c = c0) : (Nt.New l r room).1.idle := by
  unfold Nt.New at h ⊢
  split
  · rename_i h1; rw [if_pos h1] at h; simp at h
  · rename_i h1
    rw [if_neg h1] at h
    split
    · rename_i h2; rw [if_pos h2] at h; exact absurd h h2
    · rename_i h2
      have h2' : (Gt.New r l.length room).2 = 0 := by simpa using h2
      refine ⟨fun x hx n hn => ?_, fun x hx => ?_⟩
      · simp only at hx
        obtain ⟨y, hy, rfl⟩ := List.mem_map.1 hx
        rcases List.mem_append.1 hn with hn | hn
        · exact hl y hy n hn
        · simp at hn; subst hn; exact ⟨rfl, rfl⟩
      · unfold Gt.New at h2' hx
        split at h2'
        · simp at h2'
        · rename_i k1
          split at h2'
          · simp at h2'
          · rename_i k2
            split at h2'
            · simp at h2'
            · rename_i k3
              rw [if_neg k1, if_neg k2, if_neg k3] at hx
              simp at hx
              exact hx.2

/-! #### One frame, one bus, no routes -/
def fN (fs : List Fl) : Nd := ⟨[], fs, c0, []⟩
def gateF : Gt := ⟨[], 1, [[]], [0]⟩
def netF1 (t : List (List Fl)) : Nt := ⟨[t.map fN ++ [own0]], gateF⟩
def netF2 (t : List (List Fl)) (w : Nat) (f : Fr) : Nt := ⟨[(t.map fN ++ [own0]).set w ⟨[f], t.getD w [], c0, []⟩], gateF⟩
def gotF (t : List (List Fl)) (w : Nat) (f : Fr) (i : Nat) : List Fr := if i = w then [] else if anyF (t.getD i []) f then [f] else []
def netF3 (t : List (List Fl)) (w : Nat) (f : Fr) : Nt := ⟨[(List.range t.length).map (fun i => ⟨[], t.getD i [], c0, gotF t w f i⟩) ++ [own0]], gateF⟩
theorem fN_at {t : List (List Fl)} {i : Nat} (hi : i < t.length) : nd (t.map fN ++ [own0]) i = fN (t.getD i []) := by
  rw [nd_get (by simp; omega), List.getElem_append_left (by simpa using hi)]
  simp [List.getD, hi]
theorem fN_last (t : List (List Fl)) : nd (t.map fN ++ [own0]) t.length = own0 := by
  rw [nd_get (by simp), List.getElem_append_right (by simp)]
  simp
theorem filt_new {t : List (List Fl)} (h1 : 1 ≤ t.length) (h7 : t.length ≤ 7) (hr : ∀ fs ∈ t, (fN fs).right = true) : Nt.New [t.map fN] [] 1 = (netF1 t, 0) := by
  unfold Nt.New
  have hw : wrongL (t.map fN) = false := by
    unfold wrongL
    rw [Bool.or_eq_false_iff, Bool.or_eq_false_iff]
    refine ⟨by simp; omega, by simp; omega, ?_⟩
    rw [List.any_eq_false]
    intro x hx
    obtain ⟨fs, hfs, rfl⟩ := List.mem_map.1 hx
    simp [hr fs hfs]
  rw [if_neg (by simp [hw])]
  rfl
theorem filt_send {t : List (List Fl)} {w : Nat} {f : Fr} (hw : w < t.length) (hf : f.right = true) : (netF1 t).Send 0 (w : Int) f = (netF2 t w f, 0) := by
  unfold Nt.Send
  rw [if_neg (by simp [netF1])]
  have e : rw_ (netF1 t).bs (0 : Int).toNat = t.map fN ++ [own0] := rfl
  rw [e, if_neg (by simp; omega), Int.toNat_natCast, fN_at hw]
  have hs : (fN (t.getD w [])).Send f = (⟨[f], t.getD w [], c0, []⟩, 0) := by
    unfold Nd.Send Nd.off fN
    rw [if_neg (by simp [hf]), if_neg (by simp [c0]), if_neg (by simp)]
    rfl
  rw [hs]
  rfl
theorem filt_slot {t : List (List Fl)} {w : Nat} {f : Fr} (hw : w < t.length) : ((netF2 t w f).Slot 0 []).1 = netF3 t w f := by
  have hrw : rw_ (netF2 t w f).bs 0 = (t.map fN ++ [own0]).set w ⟨[f], t.getD w [], c0, []⟩ := rfl
  have hlen : (rw_ (netF2 t w f).bs 0).length = t.length + 1 := by rw [hrw]; simp
  have hr : relays (netF2 t w f).g 0 ((netF2 t w f).own 0) = false := no_relay rfl
  have hnw : nd (rw_ (netF2 t w f).bs 0) w = ⟨[f], t.getD w [], c0, []⟩ := by rw [hrw, nd_set_eq (by simp; omega)]
  have hnl : nd (rw_ (netF2 t w f).bs 0) t.length = own0 := by rw [hrw, nd_set_ne (by omega), fN_last]
  have hni : ∀ i, i < t.length → i ≠ w → nd (rw_ (netF2 t w f).bs 0) i = fN (t.getD i []) := fun i hi hne => by rw [hrw, nd_set_ne (fun h => hne h.symm), fN_at hi]
  have hall : ∀ i, i < (rw_ (netF2 t w f).bs 0).length → i ≠ w → (nd (rw_ (netF2 t w f).bs 0) i).q = [] ∧ (nd (rw_ (netF2 t w f).bs 0) i).c = c0 := by
    intro i hi hne
    by_cases h : i = t.length
    · subst h; rw [hnl]; exact ⟨rfl, rfl⟩
    · rw [hni i (by omega) hne]; exact ⟨rfl, rfl⟩
  have hs := one_slot (l := rw_ (netF2 t w f).bs 0) (w := w) (f := f) (by omega) (by omega) (fun i hi => by
    by_cases h : i = w
    · subst h; rw [hnw]
    · exact (hall i hi h).2) (by rw [hnw]) (fun i hi hne => (hall i hi hne).1)
  have hown : (netF2 t w f).own 0 = own0 := by unfold Nt.own; rw [hlen]; exact hnl
  have h0 : rw_ (netF2 t w f).bs 0 ≠ [] := List.length_pos_iff.1 (by omega)
  unfold Nt.Slot
  dsimp only
  rw [row1_no h0 hr, hs, ownOf_no hr, gateOf_no hr, hown, heard_none rfl, hlen]
  simp only [Nat.add_sub_cancel]
  rw [nd_map (by omega), hnl]
  have hx : oneR w f own0 t.length = ⟨[], [], c0, [f]⟩ := by
    unfold oneR
    rw [if_neg (by omega)]
    rfl
  rw [hx]
  simp only
  unfold netF3 Gt.Ins
  show (⟨[_], _⟩ : Nt) = _
  congr 1
  congr 1
  apply nd_ext (by simp)
  intro i hi
  have hi : i < t.length + 1 := by simpa using hi
  by_cases h : i = t.length
  · subst h
    rw [nd_set_eq (by simp), nd_get (by simp), List.getElem_append_right (by simp)]
    simp [own0, c0]
  · have hlt : i < t.length := by omega
    have er : nd ((List.range t.length).map (fun i => (⟨[], t.getD i [], c0, gotF t w f i⟩ : Nd)) ++ [own0]) i = ⟨[], t.getD i [], c0, gotF t w f i⟩ := by
      rw [nd_get (by simp; omega), List.getElem_append_left (by simpa using hlt)]
      simp
    rw [nd_set_ne (by omega), nd_map hi, er]
    unfold oneR gotF
    by_cases hiw : i = w
    · subst hiw
      rw [if_pos rfl, if_pos rfl, hnw]
    · rw [if_neg hiw, if_neg hiw, hni i hlt hiw]
      unfold fN
      simp
theorem filt_calm {t : List (List Fl)} {w : Nat} {f : Fr} (hw : w < t.length) : (netF2 t w f).Calm 5 = (netF3 t w f, 1) := by
  have h2 : (netF2 t w f).Still = false := by
    rw [← Bool.not_eq_true, still_iff]
    rintro ⟨_, h⟩
    have := h _ (show _ ∈ (netF2 t w f).bs from List.mem_singleton.2 rfl) (⟨[f], t.getD w [], c0, []⟩ : Nd) (List.mem_iff_getElem.2 ⟨w, by simp; omega, by simp⟩)
    simp at this
  have h3 : (netF3 t w f).Still = true := by
    rw [still_iff]
    refine ⟨by simp [netF3, gateF], fun r hr x hx => ?_⟩
    simp [netF3] at hr
    subst hr
    rcases List.mem_append.1 hx with hx | hx
    · obtain ⟨i, _, rfl⟩ := List.mem_map.1 hx
      rfl
    · simp at hx; subst hx; rfl
  have hround : (netF2 t w f).round = netF3 t w f := filt_slot hw
  unfold Nt.Calm
  have hm : most 5 = 4 + 1 := rfl
  rw [hm, Nt.calmF, h2, if_neg (by simp), hround, calmF_of_still _ h3]
  rfl
theorem filt_got {t : List (List Fl)} {w : Nat} {f : Fr} {i : Nat} (hi : i < t.length) : (nd (rw_ (netF3 t w f).bs 0) i).g = gotF t w f i := by
  show (nd ((List.range t.length).map (fun i => (⟨[], t.getD i [], c0, gotF t w f i⟩ : Nd)) ++ [own0]) i).g = _
  rw [nd_get (by simp; omega), List.getElem_append_left (by simpa using hi)]
  simp
end Go.Proofs

