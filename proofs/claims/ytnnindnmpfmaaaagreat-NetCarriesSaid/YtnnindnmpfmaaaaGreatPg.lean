/- A net that is as it should be stays so behind a slot, a frame that is sent, a calm: plain; Slots in which one node alone has a frame, or none has: plain. -/
import Derived.Test.YtnnindnmpfmaaaaGreatPf
import Derived.Test.YtnnindnmpfmaaaaGreatOv
set_option linter.unusedVariables false
set_option linter.unusedSimpArgs false
set_option maxRecDepth 100000
set_option maxHeartbeats 8000000
namespace Go.Proofs
open Go.RowKit Go.Shelf Go.Pv

/-- The last node of a row, the gateway's own, has got nothing. -/
def lastE (r : List Nd) : Prop := (nd r (r.length - 1)).g = []
structure Nt.fits (N : Nt) : Prop extends N.fit where
  last : ∀ r ∈ N.bs, lastE r

theorem Nt.fits.mem {N : Nt} (h : N.fits) {k : Nat} (hk : k < N.bs.length) : rw_ N.bs k ∈ N.bs := by rw [rw_get hk]; exact List.getElem_mem hk
theorem nd_set_eq {l : List Nd} {i : Nat} (hi : i < l.length) (x : Nd) : nd (l.set i x) i = x := by simp [nd, List.getD, hi]
theorem nd_set_ne {l : List Nd} {i j : Nat} (h : i ≠ j) (x : Nd) : nd (l.set i x) j = nd l j := by simp [nd, List.getD, h]
theorem Send_g (n : Nd) (f : Fr) : (n.Send f).1.g = n.g := by unfold Nd.Send; split; rfl; split; rfl; split <;> rfl
theorem ownOf_g (g : Gt) (k : Nat) (own : Nd) : (ownOf g k own).g = own.g := by unfold ownOf; split; exact Send_g _ _; rfl
theorem told_bytes {l : List Nd} (hb : bytesOk l) {who : List Int} (h : (slotL l who).2.bad = true) : byOk (slotL l who).2.f.data := by
  obtain ⟨hs, _⟩ := slotL_ok h
  obtain ⟨k, hk, _, h2, h3⟩ := slotL_won hs (who := who)
  rw [h3]
  exact hb _ (nd_mem hk) _ (Next_mem h2)
theorem own_got {l : List Nd} (who : List Int) {i : Nat} (hi : i < l.length) (hg : (nd l i).g = []) (hb : bytesOk l) : (nd (slotL l who).1 i).g.length ≤ 1 ∧ ∀ f ∈ (nd (slotL l who).1 i).g, byOk f.data := by
  rw [slotL_got who hi (by rw [hg]; simp), hg, List.nil_append]
  split
  · rename_i h
    rw [Bool.and_eq_true] at h
    refine ⟨by simp, fun f hf => ?_⟩
    simp at hf
    subst hf
    exact told_bytes hb h.1
  · simp
theorem row1_len (n : Nt) (k : Nat) : (n.row1 k).length = (rw_ n.bs k).length := by unfold Nt.row1; simp
theorem row1_own {n : Nt} (h : n.fits) {k : Nat} (hk : k < n.bs.length) : (nd (n.row1 k) ((rw_ n.bs k).length - 1)).g = [] := by
  have hm := h.mem hk
  have hp := List.length_pos_iff.2 (h.rows _ hm).1
  unfold Nt.row1
  rw [nd_set_eq (by omega), ownOf_g]
  exact h.last _ hm
theorem fits_got {n : Nt} (h : n.fits) {k : Nat} (hk : k < n.bs.length) (who : List Int) : (nd (slotL (n.row1 k) who).1 ((rw_ n.bs k).length - 1)).g.length ≤ 1 ∧ ∀ f ∈ (nd (slotL (n.row1 k) who).1 ((rw_ n.bs k).length - 1)).g, byOk f.data := by
  have hm := h.mem hk
  have hp := List.length_pos_iff.2 (h.rows _ hm).1
  exact own_got who (by rw [row1_len]; omega) (row1_own h hk) (row1_fit h.tofit hk).2

/-- Two nets of the same shape. -/
def Nt.like (a b : Nt) : Prop := a.bs.map List.length = b.bs.map List.length ∧ a.g.rs = b.g.rs ∧ a.g.cap = b.g.cap ∧ a.g.out.length = b.g.out.length
theorem Nt.like.rfl' (a : Nt) : a.like a := ⟨rfl, rfl, rfl, rfl⟩
theorem Nt.like.trans {a b c : Nt} (h : a.like b) (h' : b.like c) : a.like c := ⟨h.1.trans h'.1, h.2.1.trans h'.2.1, h.2.2.1.trans h'.2.2.1, h.2.2.2.trans h'.2.2.2⟩
theorem Nt.like.len {a b : Nt} (h : a.like b) : a.bs.length = b.bs.length := by have := congrArg List.length h.1; simpa using this
theorem Nt.like.row {a b : Nt} (h : a.like b) (k : Nat) : (rw_ a.bs k).length = (rw_ b.bs k).length := by
  have h1 := congrArg (fun l : List Nat => l[k]?) h.1
  simp only [List.getElem?_map] at h1
  unfold rw_
  rw [List.getD_eq_getElem?_getD, List.getD_eq_getElem?_getD]
  cases ha : a.bs[k]? <;> cases hb : b.bs[k]? <;> rw [ha, hb] at h1 <;> simp at h1 ⊢
  exact h1
theorem set_lens {l : List (List Nd)} {k : Nat} {r : List Nd} (h : r.length = (rw_ l k).length) : (l.set k r).map List.length = l.map List.length := by
  apply List.ext_getElem?
  intro i
  rw [List.getElem?_map, List.getElem?_map, List.getElem?_set]
  split
  · rename_i hi
    subst hi
    split
    · rename_i hk
      rw [List.getElem?_eq_getElem hk]
      simp [h, rw_get hk]
    · rename_i hk
      rw [List.getElem?_eq_none (by omega)]
  · rfl

theorem heardOf_ok {g : Gt} (h : g.ok) (k : Nat) (a b : Nd) : (heardOf g k a b).ok ∧ (heardOf g k a b).out.length = g.out.length ∧ (heardOf g k a b).rs = g.rs ∧ (heardOf g k a b).cap = g.cap := by
  unfold heardOf
  split
  · exact Gt.In_ok h _ _
  · exact ⟨h, rfl, rfl, rfl⟩
theorem gateOf_ok {g : Gt} (h : g.ok) (k : Nat) (a : Nd) : (gateOf g k a).ok ∧ (gateOf g k a).out.length = g.out.length ∧ (gateOf g k a).rs = g.rs ∧ (gateOf g k a).cap = g.cap := by
  unfold gateOf
  split
  · refine ⟨Gt.Done_ok h _, ?_, ?_, ?_⟩ <;> (unfold Gt.Done; split <;> simp)
  · exact ⟨h, rfl, rfl, rfl⟩
theorem gateOf_outB {g : Gt} (h : outB g) (k : Nat) (a : Nd) : outB (gateOf g k a) := by
  unfold gateOf
  split
  · exact Done_outB h _
  · exact h
theorem heardOf_outB {g : Gt} (h : outB g) (k : Nat) (a b : Nd) (ha : ∀ f ∈ a.q, byOk f.data) : outB (heardOf g k a b) := by
  unfold heardOf
  split
  · refine In_outB h _ ?_
    cases hq : a.q with
    | nil => simp [fr0, byOk]
    | cons f q => exact ha f (by rw [hq]; simp)
  · exact h

/-- Behind a slot a net is as it should be, and has the same shape. -/
theorem fits_slot {n : Nt} (h : n.fits) {k : Nat} (hk : k < n.bs.length) (who : List Int) : (n.Slot k who).1.fits ∧ (n.Slot k who).1.like n := by
  have hm := h.mem hk
  obtain ⟨h0, h1, h2, h3⟩ := h.rows _ hm
  have hp := List.length_pos_iff.2 h0
  obtain ⟨r1, r2⟩ := row1_fit h.tofit hk
  obtain ⟨g1, g2⟩ := fits_got h hk who
  have ho : n.own k ∈ rw_ n.bs k := nd_mem (by omega)
  have sr := slotL_right r1 who
  have sb := slotL_bytes r2 who
  have sl := slotL_len (n.row1 k) who
  rw [row1_len] at sl
  unfold Nt.Slot
  dsimp only
  generalize hx : nd (slotL (n.row1 k) who).1 ((rw_ n.bs k).length - 1) = x at g1 g2 ⊢
  have hxm : x ∈ (slotL (n.row1 k) who).1 := by rw [← hx]; exact nd_mem (by omega)
  generalize (slotL (n.row1 k) who).1 = R at sr sb sl hx hxm ⊢
  obtain ⟨a1, a2, a3, a4⟩ := gateOf_ok h.gt k (n.own k)
  have a5 := gateOf_outB h.out k (n.own k)
  generalize gateOf n.g k (n.own k) = G1 at a1 a2 a3 a4 a5 ⊢
  obtain ⟨b1, b2, b3, b4⟩ := heardOf_ok a1 k (ownOf n.g k (n.own k)) x
  have b5 := heardOf_outB a5 k (ownOf n.g k (n.own k)) x (ownOf_bytes h.out (h3 _ ho))
  generalize heardOf G1 k (ownOf n.g k (n.own k)) x = G2 at b1 b2 b3 b4 b5 ⊢
  obtain ⟨c1, c2, c3, c4⟩ := Gt.Ins_ok k x.g G2 b1
  have c5 := Ins_outB k x.g b5 g2
  generalize G2.Ins k x.g = G3 at c1 c2 c3 c4 c5 ⊢
  refine ⟨⟨⟨by simpa using h.few, fun r hr => ?_, c1, c5⟩, fun r hr => ?_⟩, ?_, by rw [c3, b3, a3], by rw [c4, b4, a4], by rw [c2, b2, a2]⟩
  · rcases List.mem_or_eq_of_mem_set hr with hr | rfl
    · exact h.rows r hr
    · refine ⟨?_, by simp; omega, rights_set sr (empty_right (sr x hxm)), bytes_set sb (sb x hxm)⟩
      apply List.length_pos_iff.1
      simp; omega
  · rcases List.mem_or_eq_of_mem_set hr with hr | rfl
    · exact h.last r hr
    · unfold lastE
      rw [List.length_set, sl, nd_set_eq (by omega)]
  · exact set_lens (by simp [sl])

/-- A round: a slot of each bus, one behind the other, with nothing spoilt. -/
def Nt.slots : List Nat → Nt → Nt
  | [], n => n
  | k :: ks, n => Nt.slots ks (n.Slot k []).1
def Nt.round (n : Nt) : Nt := Nt.slots (List.range n.bs.length) n
/-- Rounds, so many at most, until nothing waits; and how many were had. -/
def Nt.calmF : Nat → Nt → Nt × Nat
  | 0, n => (n, 0)
  | k + 1, n => if n.Still then (n, 0) else ((Nt.calmF k n.round).1, (Nt.calmF k n.round).2 + 1)
def most (m : Int) : Nat := (min (max m 0) 10000).toNat
def Nt.Calm (n : Nt) (m : Int) : Nt × Int := ((Nt.calmF (most m) n).1, ((Nt.calmF (most m) n).2 : Int))

theorem slots_append : ∀ (a b : List Nat) (n : Nt), Nt.slots (a ++ b) n = Nt.slots b (Nt.slots a n)
  | [], _, _ => rfl
  | k :: a, b, n => slots_append a b _
theorem fits_slots : ∀ (ks : List Nat) {n : Nt}, n.fits → (∀ k ∈ ks, k < n.bs.length) → (Nt.slots ks n).fits ∧ (Nt.slots ks n).like n
  | [], n, h, _ => ⟨h, .rfl' n⟩
  | k :: ks, n, h, hk => by
    obtain ⟨h1, h2⟩ := fits_slot h (hk k (by simp)) []
    obtain ⟨h3, h4⟩ := fits_slots ks h1 (fun j hj => by rw [h2.len]; exact hk j (by simp [hj]))
    exact ⟨h3, h4.trans h2⟩
theorem fits_round {n : Nt} (h : n.fits) : n.round.fits ∧ n.round.like n := fits_slots _ h (fun k hk => by simpa using hk)
theorem fits_calmF : ∀ (k : Nat) {n : Nt}, n.fits → (Nt.calmF k n).1.fits ∧ (Nt.calmF k n).1.like n
  | 0, n, h => ⟨h, .rfl' n⟩
  | k + 1, n, h => by
    unfold Nt.calmF
    split
    · exact ⟨h, .rfl' n⟩
    · obtain ⟨h1, h2⟩ := fits_round h
      obtain ⟨h3, h4⟩ := fits_calmF k h1
      exact ⟨h3, h4.trans h2⟩
theorem fits_calm {n : Nt} (h : n.fits) (m : Int) : (n.Calm m).1.fits ∧ (n.Calm m).1.like n := fits_calmF _ h
theorem calmF_le : ∀ (k : Nat) (n : Nt), (Nt.calmF k n).2 ≤ k
  | 0, _ => Nat.le_refl _
  | k + 1, n => by
    unfold Nt.calmF
    split
    · exact Nat.zero_le _
    · exact Nat.succ_le_succ (calmF_le k _)
theorem calmF_still : ∀ (k : Nat) (n : Nt), (Nt.calmF k n).2 < k → (Nt.calmF k n).1.Still = true
  | 0, _, h => absurd h (Nat.lt_irrefl 0)
  | k + 1, n, h => by
    unfold Nt.calmF at h ⊢
    split
    · rename_i hs; exact hs
    · rename_i hs
      rw [if_neg hs] at h
      exact calmF_still k _ (Nat.lt_of_succ_lt_succ h)
theorem calmF_zero : ∀ (k : Nat) (n : Nt), (Nt.calmF k n).2 = 0 → (Nt.calmF k n).1 = n
  | 0, _, _ => rfl
  | k + 1, n, h => by
    unfold Nt.calmF at h ⊢
    split
    · rfl
    · rename_i hs
      rw [if_neg hs] at h
      simp at h
theorem calmF_of_still (k : Nat) {n : Nt} (h : n.Still = true) : Nt.calmF k n = (n, 0) := by
  cases k with
  | zero => rfl
  | succ k => unfold Nt.calmF; rw [if_pos h]
theorem calmF_add : ∀ (p q : Nat) (n : Nt), Nt.calmF (p + q) n = ((Nt.calmF q (Nt.calmF p n).1).1, (Nt.calmF p n).2 + (Nt.calmF q (Nt.calmF p n).1).2)
  | 0, q, n => by simp [Nt.calmF]
  | p + 1, q, n => by
    rw [show p + 1 + q = (p + q) + 1 by omega]
    by_cases hs : n.Still = true
    · rw [calmF_of_still _ hs, calmF_of_still _ hs]
      simp only
      rw [calmF_of_still _ hs]
      simp
    · rw [Nt.calmF, if_neg hs, Nt.calmF, if_neg hs, calmF_add p q]
      simp only
      congr 1
      omega

/-- A frame that is sent. -/
theorem Send_bytes {n : Nd} (h : ∀ f ∈ n.q, byOk f.data) {f : Fr} (hf : byOk f.data) : ∀ x ∈ (n.Send f).1.q, byOk x.data := by
  intro x hx
  rcases Send_q _ _ x hx with hx | rfl
  · exact h x hx
  · exact hf
theorem fits_send {n : Nt} (h : n.fits) (b a : Int) {f : Fr} (hf : byOk f.data) : (n.Send b a f).1.fits ∧ (n.Send b a f).1.like n := by
  unfold Nt.Send
  split
  · exact ⟨h, .rfl' n⟩
  · split
    · exact ⟨h, .rfl' n⟩
    · rename_i hb ha
      have hk : b.toNat < n.bs.length := by omega
      have hm := h.mem hk
      generalize b.toNat = k at ha hk hm ⊢
      have hal : a.toNat < (rw_ n.bs k).length - 1 := by omega
      generalize a.toNat = j at hal ⊢
      obtain ⟨h0, h1, h2, h3⟩ := h.rows _ hm
      have hy : nd (rw_ n.bs k) j ∈ rw_ n.bs k := nd_mem (by omega)
      refine ⟨⟨⟨by simpa using h.few, fun r hr => ?_, h.gt, h.out⟩, fun r hr => ?_⟩, set_lens (by simp), rfl, rfl, rfl⟩
      · rcases List.mem_or_eq_of_mem_set hr with hr | rfl
        · exact h.rows r hr
        · refine ⟨?_, by simpa using h1, rights_set h2 (Send_right (h2 _ hy) f), bytes_set h3 (Send_bytes (h3 _ hy) hf)⟩
          apply List.length_pos_iff.1
          simp; omega
      · rcases List.mem_or_eq_of_mem_set hr with hr | rfl
        · exact h.last r hr
        · unfold lastE
          rw [List.length_set, nd_set_ne (by omega)]
          exact h.last _ hm

/-- A net that is made. -/
theorem own0_right : own0.right = true := by kernel_rfl
theorem fits_new {l : List (List Nd)} {r : List Rt} {room : Int} (hb : ∀ x ∈ l, bytesOk x) (h : (Nt.New l r room).2 = 0) : (Nt.New l r room).1.fits ∧ (Nt.New l r room).1.bs = l.map ownIn ∧ l.length ≤ 4 ∧ l ≠ [] ∧ (∀ x ∈ l, x ≠ [] ∧ x.length ≤ 7) := by
  unfold Nt.New at h ⊢
  split
  · rename_i h1; rw [if_pos h1] at h; simp at h
  · rename_i h1
    rw [if_neg h1] at h
    split
    · rename_i h2; rw [if_pos h2] at h; exact absurd h h2
    · rename_i h2
      have h1' : (decide ((l.length : Int) < 1) || (decide ((l.length : Int) > 4) || l.any wrongL)) = false := by simpa using h1
      rw [Bool.or_eq_false_iff, Bool.or_eq_false_iff] at h1'
      obtain ⟨q1, q2, q3⟩ := h1'
      have q1 := of_decide_eq_false q1
      have q2 := of_decide_eq_false q2
      have hrow : ∀ x ∈ l, x ≠ [] ∧ x.length ≤ 7 ∧ rights x := by
        intro x hx
        have h3 := List.any_eq_false.1 q3 x hx
        unfold wrongL at h3
        rw [Bool.not_eq_true, Bool.or_eq_false_iff, Bool.or_eq_false_iff] at h3
        obtain ⟨h4, h5, h6⟩ := h3
        have h4 := of_decide_eq_false h4
        have h5 := of_decide_eq_false h5
        refine ⟨?_, by omega, fun n hn => by simpa using List.any_eq_false.1 h6 n hn⟩
        apply List.length_pos_iff.1
        omega
      have h2' : (Gt.New r l.length room).2 = 0 := by simpa using h2
      unfold Gt.New at h2' ⊢
      split at h2'
      · simp at h2'
      · rename_i k1
        split at h2'
        · simp at h2'
        · rename_i k2
          split at h2'
          · simp at h2'
          · rename_i k3
            rw [if_neg k1, if_neg k2, if_neg k3]
            have k1 : routesOk r l.length = true := by simpa using k1
            obtain ⟨m1, m2, m3, m4⟩ := routesOk_on k1
            refine ⟨⟨⟨by simp; omega, fun x hx => ?_, ⟨m3, by simp, by simp; omega, fun r hr => ?_, by simp only; omega, fun x hx => ?_⟩, fun x hx => ?_⟩, fun x hx => ?_⟩, rfl, by omega, ?_, fun x hx => ⟨(hrow x hx).1, (hrow x hx).2.1⟩⟩
            · obtain ⟨y, hy, rfl⟩ := List.mem_map.1 hx
              obtain ⟨y1, y2, y3⟩ := hrow y hy
              refine ⟨by simp [ownIn], by simp [ownIn]; omega, fun n hn => ?_, fun n hn => ?_⟩
              · rcases List.mem_append.1 hn with hn | hn
                · exact y3 n hn
                · simp at hn; subst hn; exact own0_right
              · rcases List.mem_append.1 hn with hn | hn
                · exact hb y hy n hn
                · simp at hn; subst hn; simp [own0]
            · have := m4 r hr
              simp
              omega
            · simp at hx; rw [hx.2]; simp
            · simp at hx; rw [hx.2]; simp
            · obtain ⟨y, hy, rfl⟩ := List.mem_map.1 hx
              unfold lastE ownIn
              have : (y ++ [own0]).length - 1 = y.length := by simp
              rw [this]
              simp [nd, List.getD, own0]
            · apply List.length_pos_iff.1
              omega
end Go.Proofs

set_option linter.unusedVariables false
set_option linter.unusedSimpArgs false
set_option maxRecDepth 100000
set_option maxHeartbeats 8000000
namespace Go.Proofs
open Go.RowKit Go.Shelf Go.Pv

def c0 : Cn := ⟨0, 0, 1, 0⟩
theorem c0_1 : c0.step 1 = c0 := by kernel_rfl
theorem c0_h : c0.step (what true false) = c0 := by kernel_rfl
theorem c0_6 : c0.step 6 = c0 := by kernel_rfl
theorem nd_ext {a b : List Nd} (hl : a.length = b.length) (h : ∀ i, i < a.length → nd a i = nd b i) : a = b := by
  apply List.ext_getElem hl
  intro i h1 h2
  have := h i h1
  rwa [nd_get h1, nd_get h2] at this
theorem range_nd (l : List Nd) : (List.range l.length).map (nd l) = l := by
  apply nd_ext (by simp)
  intro i hi
  rw [nd_map (by simpa using hi)]
theorem Next_nil {n : Nd} (h : n.q = []) : n.Next.2 = false := by unfold Nd.Next; simp [h]
theorem Next_one {n : Nd} {f : Fr} (h : n.q = [f]) (hc : n.c = c0) : n.Next = (f, true) := by
  unfold Nd.Next Nd.off
  have : nxt n.q < n.q.length := nxt_lt (by simp [h])
  rw [h] at this ⊢
  have h0 : nxt [f] = 0 := by simp at this; exact this
  rw [hc, h0]
  rfl
theorem sndL_nil {l : List Nd} (h : ∀ i, i < l.length → (nd l i).q = []) : sndL l = [] := by
  cases hs : sndL l with
  | nil => rfl
  | cons p P =>
    obtain ⟨i, n, hi, hn, _⟩ := sndL_mem (l := l) (p := p) (by rw [hs]; simp)
    obtain ⟨hl, rfl⟩ := List.getElem?_eq_some_iff.1 hi
    have h2 := h i hl
    rw [nd_get hl] at h2
    rw [Next_nil h2] at hn
    cases hn
theorem sndL_one {l : List Nd} {w : Nat} {f : Fr} (hw : w < l.length) (hn : (nd l w).Next = (f, true)) (h0 : ∀ i, i < l.length → i ≠ w → (nd l i).q = []) : sndL l = [((w : Int), f)] := by
  have : ∀ i, i ≤ l.length → sndL (l.take i) = if w < i then [((w : Int), f)] else [] := by
    intro i
    induction i with
    | zero => intro _; rfl
    | succ i ih =>
      intro hi
      rw [sndL_take (by omega), ih (by omega)]
      have hx : l[i] = nd l i := (nd_get (by omega)).symm
      rw [hx]
      by_cases hiw : i = w
      · subst hiw
        rw [hn, if_neg (Nat.lt_irrefl i), if_pos (Nat.lt_succ_self i)]
        rfl
      · rw [Next_nil (h0 i (by omega) hiw)]
        by_cases hlt : w < i
        · rw [if_pos hlt, if_pos (Nat.lt_succ_of_lt hlt)]; rfl
        · rw [if_neg hlt, if_neg (fun h : w < i + 1 => by omega)]; rfl
  have h := this l.length (Nat.le_refl _)
  rw [List.take_length, if_pos hw] at h
  exact h

def oneR (w : Nat) (f : Fr) (n : Nd) (i : Nat) : Nd := if i = w then { n with q := [] } else { n with g := if decide ((n.g.length : Int) < 64) && anyF n.fs f then n.g ++ [f] else n.g }
theorem one_slot {l : List Nd} {w : Nat} {f : Fr} (hw : w < l.length) (hl : 2 ≤ l.length) (hc : ∀ i, i < l.length → (nd l i).c = c0) (hq : (nd l w).q = [f]) (h0 : ∀ i, i < l.length → i ≠ w → (nd l i).q = []) :
    slotL l [] = ((List.range l.length).map (fun i => oneR w f (nd l i) i), ⟨w, f, true, (f.wire.length : Int) + 3⟩) := by
  have hn := Next_one hq (hc w hw)
  have hs := sndL_one hw hn h0
  have hnx : nxt [f] = 0 := by have : nxt [f] < 1 := nxt_lt (q := [f]) (by simp); omega
  have hline : lineOf l [] = ⟨l, [], w, f, [(w : Int)]⟩ := by
    unfold lineOf
    simp only [hs, List.map_cons, List.map_nil, hnx]
    simp [alongL]
  have hsends : ∀ i : Nat, (lineOf l []).sends i = decide (i = w) := by
    intro i
    unfold Ln.sends
    rw [hline]
    simp only [List.contains_cons, List.contains_nil, Bool.or_false]
    by_cases h : i = w
    · subst h; simp
    · simp [h]; omega
  have hloud : (lineOf l []).anyLoud = false := by
    unfold Ln.anyLoud
    rw [List.any_eq_false]
    intro i hi
    unfold Ln.loud
    rw [hsends]
    by_cases h : i = w
    · subst h
      rw [hline]
      simp only [decide_true, if_true, Ln.sees]
      rw [hn]
      simp [Fr.same_refl]
    · rw [hline]
      simp [h, Ln.sees]
  have hhears : (lineOf l []).anyHears = true := by
    unfold Ln.anyHears
    rw [List.any_eq_true]
    have : ∃ i, i < l.length ∧ i ≠ w := by
      by_cases h : w = 0
      · exact ⟨1, by omega, by omega⟩
      · exact ⟨0, by omega, by omega⟩
    obtain ⟨i, hi, hne⟩ := this
    refine ⟨i, by rw [hline]; simpa using hi, ?_⟩
    unfold Ln.hears
    rw [hsends]
    have := hc i hi
    rw [hline]
    simp only [this]
    simp [hne, c0]
  rw [slotL_good [] (by rw [hs]; simp) (by rw [hloud, hhears]; rfl)]
  congr 1
  · apply List.map_congr_left
    intro i hi
    have hi : i < l.length := by simpa using hi
    unfold Ln.two
    rw [hsends]
    unfold oneR
    by_cases h : i = w
    · subst h
      rw [if_pos (by simp), if_pos rfl, hline]
      have hci := hc i hi
      unfold Nd.Sent Nd.off
      simp only
      generalize nd l i = n at hq hci ⊢
      obtain ⟨q, fs, c, g⟩ := n
      simp only at hq hci ⊢
      subst hq
      subst hci
      rw [hnx, c0_1]
      rfl
    · rw [if_neg (by simp [h]), if_neg h, hline]
      have hci := hc i hi
      unfold Nd.Heard Nd.off
      simp only [Ln.sees]
      generalize nd l i = n at hci ⊢
      obtain ⟨q, fs, c, g⟩ := n
      simp only at hci ⊢
      subst hci
      simp only [List.contains_nil, Bool.not_false, c0_h, Bool.true_and]
      rfl
  · rw [hline]
theorem none_slot {l : List Nd} (who : List Int) (hc : ∀ i, i < l.length → (nd l i).c = c0) (h0 : ∀ i, i < l.length → (nd l i).q = []) : slotL l who = (l, ⟨-1, fr0, false, 11⟩) := by
  rw [slotL_none who (sndL_nil h0)]
  congr 1
  apply nd_ext (by simp)
  intro i hi
  have hi : i < l.length := by simpa using hi
  rw [nd_map hi]
  unfold Nd.Quiet
  rw [hc i hi, c0_6]
  have := hc i hi
  generalize nd l i = n at this ⊢
  obtain ⟨q, fs, c, g⟩ := n
  simp only at this ⊢
  rw [this]
end Go.Proofs

