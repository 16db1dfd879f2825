/- A slot of a net, by the code: the gateway relays a frame; A slot of a net, by the code: both cases joined; A net that is as it should be stays so: in plain Lean; The bytes of the frames that wait in a gateway: plain. -/
import Derived.Test.YtnnindnmpfmaaaaGreatPe
import Derived.Test.YtnnindnmpfmaaaaGreatOf2
import Derived.Test.YtnnindnmpfmaaaaGreatNk2
set_option linter.unusedVariables false
set_option linter.unusedSimpArgs false
set_option maxRecDepth 100000
set_option maxHeartbeats 8000000
namespace Go.Proofs
open Go.RowKit Go.Shelf Go.Pv

theorem b_netSlotYes (bs : List (List Nd)) (g : Gt) (k : Nat) (hok : (g.Done k).ok) (hgo : g.out.length ≤ 1000) (hk : k < bs.length) (hbs : bs.length ≤ 1000) (row : List Nd) (hrow : bs[k] = row) (a : Nat) (ha : row.length = a + 1) (hl : row.length ≤ 1000) (own : Nd) (hown : row[a]'(by omega) = own)
    (hq : own.q = []) (hs : (own.c.s != 3) = true) (hn : (g.Next k).2 = true) (own1 : Nd) (hown1 : (own.Send (g.Next k).1).1 = own1)
    (who : List Int) (R : List Nd) (t : Td) (hRl : R.length = a + 1) (x : Nd) (hx : R[a]'(by omega) = x) (hxg : x.g.length ≤ 1000)
    (hslot : ∀ σ, callIt E1 (evI E1) 24 [.d (.slice ((row.set a own1).map Nd.D)), .agg [.d (.slice (who.map intD))]] σ = some (.tup [.d (.slice (R.map Nd.D)), t.P], σ)) (σ : Store) :
    callIt E1 (evI E1) 39 [(Nt.mk bs g).P, .d (.int .i64 k), .agg [.d (.slice (who.map intD))]] σ = some (.tup [(Nt.mk (bs.set k (R.set a { x with g := [] })) ((heardOf (g.Done k) k own1 x).Ins k x.g)).P, t.P], σ) := by
  refine call_run (fn := Tryz.f39) 1001 rfl rfl rfl Tryz.func39 rfl rfl ?_ rfl
  have haR : a < R.length := by omega
  have c1 := fun σ => b_gNext g k σ
  have hI := Gt.In_ok hok k (own1.q.headD fr0)
  have c2 := fun σ => b_gIn (g.Done k) hok k (own1.q.headD fr0) σ
  have c5 := fun σ => b_Send own (g.Next k).1 (by rw [hq]; simp) σ
  rw [hown1] at c5
  have c6 := fun σ => b_withN row a (by omega) (by omega) own1 σ
  have c7 := fun σ => b_gDone g k hgo σ
  have hloop := fun m g (hg : Gt.ok g) b2 b3 b4 J => l_slot m bs g hg k b2 b3 b4 R a J haR (by omega) (by rw [hx]; exact hxg)
  rw [hx] at hloop
  have c3 := fun σ => b_withR bs k hk (by omega) (R.set a { x with g := [] }) σ
  have hw1 : IntKind.i64.wrap ((row.length : Int) - 1) = (a : Int) := by rw [wrap_ok (by omega) (by omega)]; omega
  have hbk : (bs.map ndsD)[k]? = some (ndsD row) := by simp [hk, hrow]
  have hra : (row.map Nd.D)[a]? = some (Nd.D own) := by simp [ha, hown]
  have hRa : (R.map Nd.D)[a]? = some (Nd.D x) := by simp [haR, hx]
  have hml : (bs.map ndsD).length = bs.length := by simp
  have hmr : (row.map Nd.D).length = row.length := by simp
  have hmR : (R.map Nd.D).length = a + 1 := by simp [hRl]
  unfold heardOf
  have har : a < row.length := by omega
  unfold SlS Nt.C at hloop
  generalize (own.Send (g.Next k).1).2 = e5 at c5
  generalize g.Done k = g1 at hok c2 c7 hI ⊢
  clear hown hown1
  obtain ⟨q, fs, ⟨ct, cr, cs, cz⟩, gg⟩ := own
  obtain ⟨q1, fs1, ⟨ct1, cr1, cs1, cz1⟩, gg1⟩ := own1
  obtain ⟨tw, tf, tb, tz⟩ := t
  generalize hnx : g.Next k = nx at c1 c5 hn
  obtain ⟨nf, ni⟩ := nx
  simp only at c1 c5 hn hq hs
  subst hn hq
  generalize hB2 : (bs.set k (R.set a { x with g := [] })).map ndsD = B2 at c3
  simp only [Nt.P, hB2]
  generalize hR2 : (R.set a { x with g := [] }).map Nd.D = R2 at c3 hloop
  generalize hB : bs.map ndsD = B at hbk hml c3 hloop ⊢
  simp only [ndsD] at hbk
  generalize (row.set a _).map Nd.D = RW1 at c6 hslot
  generalize row.map Nd.D = RW at hbk hra hmr c6
  generalize who.map intD = W at hslot ⊢
  simp only [Nd.D] at hra
  generalize R.map Nd.D = RR at hRa hmR hslot hloop
  obtain ⟨hk0, hbk⟩ := List.getElem?_eq_some_iff.1 hbk
  obtain ⟨ha0, hra⟩ := List.getElem?_eq_some_iff.1 hra
  obtain ⟨hR0, hRa⟩ := List.getElem?_eq_some_iff.1 hRa
  simp only [Nd.D] at hRa
  simp at hslot c3 c1 c5 c6 c7
  have haR' : a < a + 1 := by omega
  have har' : a < row.length := har
  cases q1 with
  | nil =>
    simp only [List.length_nil, Nat.lt_irrefl, decide_false, Bool.false_and, Bool.false_eq_true, if_false]
    clear c2
    simp at c5 c6
    simp (maxSteps := 2000000) [Tryz.f39, ec_loop, -loadS, -storeS, loadS_cons0, loadS_consS, storeS_cons0, storeS_consS, sfx_load0, sfx_load, sfx_store0, sfx_store, cellsOf, hml, hmr, hmR, hw1, hbk, hk0, hra, ha0, hRa, hR0, hk, haR, har, haR', har', hs, c1, c5, c6, c7, hslot]
    generalize hLL : loopN _ _ _ = LL
    obtain ⟨r, rfl, S, rfl, hS, h3', h4', h6', h7', h8', h13'⟩ := at_loop hLL (hloop _ g1 hok _ _ _ _ _ rfl rfl rfl rfl rfl rfl _ rfl rfl 1001 (by omega))
    simp at h13'
    change rd S 13 = _ at h13'
    simp [-rd, rd_ne, rd_eq, -loadS, -storeS, loadS_cons0, loadS_consS, storeS_cons0, storeS_consS, hS, h3', h4', h6', h7', h8', h13', hk, c3, rd_el h6' (by omega), rd_el h7' (by omega)]
    done
  | cons f qs =>
    have hqz : (((f :: qs).length : Int) == 0) = false := by simp; omega
    have hqz2 : (((qs.length : Int) + 1) == 0) = false := by simp; omega
    have hqp : decide (0 < (f :: qs).length) = true := by simp
    simp only [List.headD_cons] at c2 hI ⊢
    rw [hqp]
    simp at c5 c6
    cases hxq : ((x.q.length : Int) == 0)
    · simp only [Bool.and_false, Bool.false_eq_true, if_false]
      clear c2
      simp (maxSteps := 2000000) [Tryz.f39, ec_loop, -loadS, -storeS, loadS_cons0, loadS_consS, storeS_cons0, storeS_consS, sfx_load0, sfx_load, sfx_store0, sfx_store, cellsOf, hml, hmr, hmR, hw1, hbk, hk0, hra, ha0, hRa, hR0, hk, haR, har, haR', har', hs, c1, c5, c6, c7, hslot, hqz, hqz2, hxq]
      generalize hLL : loopN _ _ _ = LL
      obtain ⟨r, rfl, S, rfl, hS, h3', h4', h6', h7', h8', h13'⟩ := at_loop hLL (hloop _ g1 hok _ _ _ _ _ rfl rfl rfl rfl rfl rfl _ rfl rfl 1001 (by omega))
      simp at h13'
      change rd S 13 = _ at h13'
      simp [-rd, rd_ne, rd_eq, -loadS, -storeS, loadS_cons0, loadS_consS, storeS_cons0, storeS_consS, hS, h3', h4', h6', h7', h8', h13', hk, c3, rd_el h6' (by omega), rd_el h7' (by omega)]
      done
    · simp only [Bool.and_true, if_true]
      simp at c2
      simp (maxSteps := 2000000) [Tryz.f39, ec_loop, -loadS, -storeS, loadS_cons0, loadS_consS, storeS_cons0, storeS_consS, sfx_load0, sfx_load, sfx_store0, sfx_store, cellsOf, hml, hmr, hmR, hw1, hbk, hk0, hra, ha0, hRa, hR0, hk, haR, har, haR', har', hs, c1, c5, c6, c7, hslot, hqz, hqz2, hxq, c2]
      generalize hLL : loopN _ _ _ = LL
      obtain ⟨r, rfl, S, rfl, hS, h3', h4', h6', h7', h8', h13'⟩ := at_loop hLL (hloop _ (g1.In k f) hI.1 _ _ _ _ _ rfl rfl rfl rfl rfl rfl _ rfl rfl 1001 (by omega))
      simp at h13'
      change rd S 13 = _ at h13'
      simp [-rd, rd_ne, rd_eq, -loadS, -storeS, loadS_cons0, loadS_consS, storeS_cons0, storeS_consS, hS, h3', h4', h6', h7', h8', h13', hk, c3, rd_el h6' (by omega), rd_el h7' (by omega)]
      done
end Go.Proofs

set_option linter.unusedVariables false
set_option linter.unusedSimpArgs false
set_option maxRecDepth 100000
set_option maxHeartbeats 8000000
namespace Go.Proofs
open Go.RowKit Go.Shelf Go.Pv

theorem Gt.Done_ok {g : Gt} (hg : g.ok) (k : Int) : (g.Done k).ok := by
  unfold Gt.Done
  split
  · obtain ⟨h1, h2, h3, h4, h5, h6⟩ := hg
    refine ⟨h1, by simpa using h2, by simpa using h3, by simpa using h4, h5, fun r hr => ?_⟩
    rcases List.mem_or_eq_of_mem_set hr with h | rfl
    · exact h6 r h
    · have : (g.row k).length ≤ 64 := by
        unfold Gt.row
        rw [List.getD_eq_getElem?_getD]
        cases hx : g.out[k.toNat]? with
        | none => simp
        | some r => simpa using h6 r (List.mem_of_getElem? hx)
      simp; omega
  · exact hg

/-- A slot of a net on bus k: what the code does. -/
def Nt.own (n : Nt) (k : Nat) : Nd := nd (rw_ n.bs k) ((rw_ n.bs k).length - 1)
def Nt.row1 (n : Nt) (k : Nat) : List Nd := (rw_ n.bs k).set ((rw_ n.bs k).length - 1) (ownOf n.g k (n.own k))
def Nt.Slot (n : Nt) (k : Nat) (who : List Int) : Nt × Td :=
  let R := slotL (n.row1 k) who
  let x := nd R.1 ((rw_ n.bs k).length - 1)
  (⟨n.bs.set k (R.1.set ((rw_ n.bs k).length - 1) { x with g := [] }), (heardOf (gateOf n.g k (n.own k)) k (ownOf n.g k (n.own k)) x).Ins k x.g⟩, R.2)

theorem b_netSlot (n : Nt) (k : Nat) (who : List Int) (hk : k < n.bs.length) (hbs : n.bs.length ≤ 1000) (hg : n.g.ok) (hr0 : rw_ n.bs k ≠ []) (hrl : (rw_ n.bs k).length ≤ 1000)
    (h1 : ∀ x ∈ n.row1 k, x.good) (h2 : bytesOk (n.row1 k)) (hwl : who.length ≤ 1000000) (h3 : (nd (slotL (n.row1 k) who).1 ((rw_ n.bs k).length - 1)).g.length ≤ 1000) (σ : Store) :
    callIt E1 (evI E1) 39 [n.P, .d (.int .i64 k), .agg [.d (.slice (who.map intD))]] σ = some (.tup [(n.Slot k who).1.P, (n.Slot k who).2.P], σ) := by
  have hs := fun σ => b_Slot (n.row1 k) h1 h2 (by unfold Nt.row1; simpa using hrl) who hwl σ
  have hlen : (slotL (n.row1 k) who).1.length = (rw_ n.bs k).length := by rw [slotL_len]; unfold Nt.row1; simp
  obtain ⟨bs, g⟩ := n
  simp only at hk hbs hg hr0 hrl h3 hlen
  have hp : 0 < (rw_ bs k).length := List.length_pos_iff.2 hr0
  have ha : (rw_ bs k).length = ((rw_ bs k).length - 1) + 1 := by omega
  have hown : (rw_ bs k)[(rw_ bs k).length - 1]'(by omega) = (Nt.mk bs g).own k := (nd_at (by omega)).symm
  unfold Nt.Slot
  dsimp only
  have hx : (slotL ((Nt.mk bs g).row1 k) who).1[(rw_ bs k).length - 1]'(by omega) = nd (slotL ((Nt.mk bs g).row1 k) who).1 ((rw_ bs k).length - 1) := (nd_at (by omega)).symm
  cases hrel : relays g k ((Nt.mk bs g).own k)
  · have e1 : ownOf g k ((Nt.mk bs g).own k) = (Nt.mk bs g).own k := by unfold ownOf; rw [hrel]; rfl
    have e2 : gateOf g k ((Nt.mk bs g).own k) = g := by unfold gateOf; rw [hrel]; rfl
    have e3 : (Nt.mk bs g).row1 k = rw_ bs k := by
      unfold Nt.row1
      dsimp only
      rw [e1, ← hown, List.set_getElem_self]
    rw [e1, e2]
    have hs' := hs
    rw [e3] at hs'
    have hq : ((Nt.mk bs g).own k).q = [] ∨ ((Nt.mk bs g).own k).q ≠ [] := by by_cases h : ((Nt.mk bs g).own k).q = [] <;> simp [h]
    have := b_netSlotNo bs g hg k hk hbs (rw_ bs k) (rw_get hk).symm _ ha hrl _ hown hq who (slotL ((Nt.mk bs g).row1 k) who).1 (slotL ((Nt.mk bs g).row1 k) who).2 (by omega) _ hx h3 hrel (by rw [e3]; exact hs') σ
    exact this
  · have e1 : ownOf g k ((Nt.mk bs g).own k) = (((Nt.mk bs g).own k).Send (g.Next k).1).1 := by unfold ownOf; rw [hrel]; rfl
    have e2 : gateOf g k ((Nt.mk bs g).own k) = g.Done k := by unfold gateOf; rw [hrel]; rfl
    have hrel' := hrel
    unfold relays at hrel'
    simp only [Bool.and_eq_true] at hrel'
    obtain ⟨⟨r1, r2⟩, r3⟩ := hrel'
    have hq : ((Nt.mk bs g).own k).q = [] := by
      have := eq_of_beq r2
      exact List.eq_nil_of_length_eq_zero (by omega)
    rw [e1, e2]
    have hs' := hs
    have e3 : (Nt.mk bs g).row1 k = (rw_ bs k).set ((rw_ bs k).length - 1) (((Nt.mk bs g).own k).Send (g.Next k).1).1 := by
      unfold Nt.row1
      dsimp only
      rw [e1]
    rw [e3] at hs'
    have := b_netSlotYes bs g k (Gt.Done_ok hg k) (by have := hg.n; omega) hk hbs (rw_ bs k) (rw_get hk).symm _ ha hrl _ hown hq r3 r1 _ rfl who (slotL ((Nt.mk bs g).row1 k) who).1 (slotL ((Nt.mk bs g).row1 k) who).2 (by omega) _ hx h3 (by rw [e3]; exact hs') σ
    exact this
end Go.Proofs

set_option linter.unusedVariables false
set_option linter.unusedSimpArgs false
set_option maxRecDepth 100000
set_option maxHeartbeats 8000000
namespace Go.Proofs
open Go.RowKit Go.Shelf Go.Pv

theorem Send_right {n : Nd} (h : n.right = true) (f : Fr) : (n.Send f).1.right = true := by
  unfold Nd.Send
  split
  · exact h
  · rename_i h1
    split
    · exact h
    · split
      · exact h
      · rw [Nd.right_iff] at h ⊢
        obtain ⟨⟨a1, a2⟩, b, c, d⟩ := h
        refine ⟨⟨by simp; omega, fun x hx => ?_⟩, b, c, d⟩
        rcases List.mem_append.1 hx with hx | hx
        · exact a2 x hx
        · simp at hx; subst hx; simpa using h1
theorem Send_q (n : Nd) (f : Fr) : ∀ x ∈ (n.Send f).1.q, x ∈ n.q ∨ x = f := by
  intro x hx
  unfold Nd.Send at hx
  split at hx
  · exact .inl hx
  · split at hx
    · exact .inl hx
    · split at hx
      · exact .inl hx
      · rcases List.mem_append.1 hx with hx | hx
        · exact .inl hx
        · exact .inr (by simpa using hx)
theorem rights_set {l : List Nd} (h : rights l) {i : Nat} {x : Nd} (hx : x.right = true) : rights (l.set i x) := by
  intro n hn
  rcases List.mem_or_eq_of_mem_set hn with hn | rfl
  · exact h n hn
  · exact hx
theorem bytes_set {l : List Nd} (h : bytesOk l) {i : Nat} {x : Nd} (hx : ∀ f ∈ x.q, byOk f.data) : bytesOk (l.set i x) := by
  intro n hn
  rcases List.mem_or_eq_of_mem_set hn with hn | rfl
  · exact h n hn
  · exact hx
theorem empty_right {n : Nd} (h : n.right = true) : ({ n with g := [] } : Nd).right = true := by
  rw [Nd.right_iff] at h ⊢
  obtain ⟨a, b, c, d⟩ := h
  exact ⟨a, ⟨by simp, by simp⟩, c, d⟩

/-- A net's rows are as they should be. -/
structure Nt.fit (N : Nt) : Prop where
  few : N.bs.length ≤ 4
  rows : ∀ r ∈ N.bs, r ≠ [] ∧ r.length ≤ 8 ∧ rights r ∧ bytesOk r
  gt : N.g.ok
  out : ∀ r ∈ N.g.out, ∀ f ∈ r, byOk f.data

theorem Next_bytes {g : Gt} (h : ∀ r ∈ g.out, ∀ f ∈ r, byOk f.data) (k : Int) : byOk (g.Next k).1.data := by
  unfold Gt.Next
  split
  · unfold Gt.row
    rw [List.getD_eq_getElem?_getD]
    cases hx : g.out[k.toNat]? with
    | none => simp [fr0, byOk]
    | some r =>
      cases r with
      | nil => simp [fr0, byOk]
      | cons f r => exact h _ (List.mem_of_getElem? hx) f (by simp)
  · simp [fr0, byOk]
theorem ownOf_right {g : Gt} {k : Nat} {own : Nd} (h : own.right = true) : (ownOf g k own).right = true := by
  unfold ownOf
  split
  · exact Send_right h _
  · exact h
theorem ownOf_bytes {g : Gt} (hg : ∀ r ∈ g.out, ∀ f ∈ r, byOk f.data) {k : Nat} {own : Nd} (h : ∀ f ∈ own.q, byOk f.data) : ∀ f ∈ (ownOf g k own).q, byOk f.data := by
  unfold ownOf
  split
  · intro x hx
    rcases Send_q _ _ x hx with hx | rfl
    · exact h x hx
    · exact Next_bytes hg k
  · exact h
theorem row1_fit {n : Nt} (h : n.fit) {k : Nat} (hk : k < n.bs.length) : rights (n.row1 k) ∧ bytesOk (n.row1 k) := by
  have hm : rw_ n.bs k ∈ n.bs := by rw [rw_get hk]; exact List.getElem_mem hk
  obtain ⟨h0, h1, h2, h3⟩ := h.rows _ hm
  have hp := List.length_pos_iff.2 h0
  have ho : n.own k ∈ rw_ n.bs k := nd_mem (by omega)
  exact ⟨rights_set h2 (ownOf_right (h2 _ ho)), bytes_set h3 (ownOf_bytes h.out (h3 _ ho))⟩
end Go.Proofs

set_option linter.unusedVariables false
set_option linter.unusedSimpArgs false
set_option maxRecDepth 100000
set_option maxHeartbeats 8000000
namespace Go.Proofs
open Go.RowKit Go.Shelf Go.Pv

def outB (g : Gt) : Prop := ∀ r ∈ g.out, ∀ f ∈ r, byOk f.data
theorem row_outB {g : Gt} (h : outB g) (k : Int) : ∀ f ∈ g.row k, byOk f.data := by
  unfold Gt.row
  rw [List.getD_eq_getElem?_getD]
  cases hx : g.out[k.toNat]? with
  | none => simp
  | some r => exact h _ (List.mem_of_getElem? hx)
theorem put_outB {g : Gt} (h : outB g) {p : Hp} (hp : byOk p.f.data) : outB (g.put p) := by
  unfold Gt.put
  split
  · intro r hr f hf
    rcases List.mem_or_eq_of_mem_set hr with hr | rfl
    · exact h r hr f hf
    · rcases List.mem_append.1 hf with hf | hf
      · exact row_outB h _ f hf
      · simp at hf; subst hf; exact hp
  · exact h
theorem puts_outB : ∀ (l : List Hp) {g : Gt}, outB g → (∀ p ∈ l, byOk p.f.data) → outB (l.foldl Gt.put g)
  | [], _, h, _ => h
  | p :: l, _, h, hl => puts_outB l (put_outB h (hl p (by simp))) (fun q hq => hl q (by simp [hq]))
theorem hops_data {l : List Rt} {k : Int} {f : Fr} : ∀ p ∈ hopsL l k f, p.f.data = f.data := by
  intro p hp
  unfold hopsL at hp
  obtain ⟨r, _, hr⟩ := List.mem_filterMap.1 hp
  unfold Rt.hop at hr
  split at hr
  · simp only [Option.some.injEq] at hr
    subst hr
    dsimp only
    split <;> rfl
  · simp at hr
theorem In_outB {g : Gt} (h : outB g) (k : Int) {f : Fr} (hf : byOk f.data) : outB (g.In k f) :=
  puts_outB _ h (fun p hp => by rw [hops_data p hp]; exact hf)
theorem Ins_outB (k : Int) : ∀ (fs : List Fr) {g : Gt}, outB g → (∀ f ∈ fs, byOk f.data) → outB (g.Ins k fs)
  | [], _, h, _ => h
  | f :: fs, _, h, hf => Ins_outB k fs (In_outB h k (hf f (by simp))) (fun x hx => hf x (by simp [hx]))
theorem Done_outB {g : Gt} (h : outB g) (k : Int) : outB (g.Done k) := by
  unfold Gt.Done
  split
  · intro r hr f hf
    rcases List.mem_or_eq_of_mem_set hr with hr | rfl
    · exact h r hr f hf
    · exact row_outB h k f (List.mem_of_mem_tail hf)
  · exact h
end Go.Proofs

