/- Slices that grow; Calls; and one operation, whatever it is; What is appended to nothing and shall be written then: a new box; One operation, whatever it is; and a row of them; A region whose order the machine draws: the evaluator's order stands for each of them; A region whose order the machine draws: the theorem; Two boxes made in either order: what holds with one numbering holds with the other; The code of a function; and the theorem: what the evaluator answers, the machine does; The evaluator without a bound on its rounds. -/
import Derived.Test.YtnnindnmpfmaaaaGreatEv1
import Derived.Laws.MakeOwn
import Derived.Scope
set_option linter.unusedVariables false
set_option linter.unusedSimpArgs false
namespace Go.Pv
open Go

section step
variable {P : Program} {w : World} {Im : ImT} {O : OwT} {β : List Nat} {st : St} {a : Act}

theorem rowsOk_len {sz : Nat} {rows : List (List DV)} (h : rowsOk sz rows = true) : ∀ r ∈ rows, r.length = sz := by
  intro r hr
  have := List.all_eq_true.1 h r hr
  simpa using this

theorem pos_lt {rows : List (List DV)} {sz i j : Nat} {r : List DV} {x : DV} (hl : ∀ r ∈ rows, r.length = sz) (hi : rows[i]? = some r) (hj : r[j]? = some x) :
    i * sz + j < rows.length * sz := by
  have h1 : i < rows.length := (List.getElem?_eq_some_iff.1 hi).1
  have h2 : j < sz := by rw [← hl r (List.mem_of_getElem? hi)]; exact (List.getElem?_eq_some_iff.1 hj).1
  have := Nat.mul_le_mul_right sz (show i + 1 ≤ rows.length from h1)
  rw [Nat.add_mul, Nat.one_mul] at this
  omega

theorem pos_split {rows : List (List DV)} {sz k : Nat} (hl : ∀ r ∈ rows, r.length = sz) (hk : k < rows.length * sz) :
    ∃ i j r x, rows[i]? = some r ∧ r[j]? = some x ∧ k = i * sz + j := by
  have hsz : 0 < sz := Nat.pos_of_ne_zero (fun h => by subst h; simp at hk)
  have hi : k / sz < rows.length := Nat.div_lt_of_lt_mul (by rw [Nat.mul_comm]; exact hk)
  have hr : (rows[k / sz]).length = sz := hl _ (List.getElem_mem hi)
  have hj : k % sz < (rows[k / sz]).length := by rw [hr]; exact Nat.mod_lt _ hsz
  exact ⟨k / sz, k % sz, _, _, List.getElem?_eq_getElem hi, List.getElem?_eq_getElem hj, by rw [Nat.mul_comm]; exact (Nat.div_add_mod k sz).symm⟩

/-- The cells of a slice's elements. -/
theorem rows_values {rows : List (List DV)} {y : Option Addr} {m c sz : Nat} (h : RepD w Im (.slice rows) (.slice y m c)) (hok : rowsOk sz rows = true) :
    m = rows.length ∧ m ≤ c ∧ (y = none → rows = [] ∧ c = 0) ∧ ∃ news : List Value, news.length = m * sz ∧ (∀ x, y = some x → ∀ j u, news[j]? = some u → w.cell? (x.add j) = some u) ∧
      (∀ x, y = some x → m * sz ≠ 0 → x.spot = none) ∧ (∀ x, y = some x → ∀ j, j < m * sz → Im x.block (x.off + j)) ∧
      (∀ i j r d, rows[i]? = some r → r[j]? = some d → ∃ u, news[i * sz + j]? = some u ∧ RepD w Im d u) ∧ ∀ u ∈ news, u.oneCell' = true := by
  have hl := rowsOk_len hok
  cases h with
  | nil => exact ⟨rfl, Nat.le_refl _, fun _ => ⟨rfl, rfl⟩, [], by simp, by simp, by simp, by simp, by simp, by simp⟩
  | slice _ x c sz' cv hlen hcap hsp hcell him hrep =>
    have hsz : rows.length * sz = rows.length * sz' := by
      cases rows with
      | nil => simp
      | cons r rs => rw [← hl r (by simp), hlen r (by simp)]
    have hsame : ∀ i r, rows[i]? = some r → sz = sz' := fun i r hi => by rw [← hl r (List.mem_of_getElem? hi), hlen r (List.mem_of_getElem? hi)]
    refine ⟨rfl, hcap, by simp, (List.range (rows.length * sz)).map cv, by simp, ?_, ?_, ?_, ?_, ?_⟩
    · intro x' hx' j u hu
      cases hx'
      rw [List.getElem?_map] at hu
      have hj : j < rows.length * sz := by
        rcases Nat.lt_or_ge j (rows.length * sz) with h | h
        · exact h
        · rw [List.getElem?_eq_none (by simpa using h)] at hu; simp at hu
      rw [List.getElem?_range hj] at hu
      simp at hu
      subst hu
      rw [Addr.add_none (hsp (by omega))]
      exact hcell j (by omega)
    · intro x' hx' hne
      cases hx'
      exact hsp (by omega)
    · intro x' hx' j hj
      cases hx'
      exact him j (by omega)
    · intro i j r d hi hj
      have hp := pos_lt hl hi hj
      refine ⟨cv (i * sz + j), by rw [List.getElem?_map, List.getElem?_range hp]; rfl, ?_⟩
      rw [hsame i r hi]
      exact hrep i j r d hi hj
    · intro u hu
      obtain ⟨k, hk, rfl⟩ := List.mem_map.1 hu
      obtain ⟨i, j, r, d, hi, hj, rfl⟩ := pos_split hl (List.mem_range.1 hk)
      rw [hsame i r hi]
      exact (hrep i j r d hi hj).oneCell

theorem acc_repP {rows : List (List DV)} {v : Value} (h : RepD w Im (.slice rows) v) (hne : rows ≠ []) : RepP w Im β (acc rows) v := by
  cases rows with
  | nil => exact absurd rfl hne
  | cons r rs => exact .os h

theorem rowsOk_append {sz : Nat} {a b : List (List DV)} (ha : rowsOk sz a = true) (hb : rowsOk sz b = true) : rowsOk sz (a ++ b) = true := by
  unfold rowsOk at *
  rw [List.all_append, ha, hb]; rfl

/-- The new block of a slice that grew. -/
theorem grown_rep {rs xs : List (List DV)} {sz : Nat} (hin : ImIn w Im) (h1 : rowsOk sz rs = true) (h2 : rowsOk sz xs = true) (olds news rest : List Value) (e : TypeId) (cap : Nat)
    (hlo : olds.length = rs.length * sz) (hln : news.length = xs.length * sz) (hcap : rs.length + xs.length ≤ cap)
    (ho : ∀ i j r d, rs[i]? = some r → r[j]? = some d → ∃ u, olds[i * sz + j]? = some u ∧ RepD w Im d u)
    (hn : ∀ i j r d, xs[i]? = some r → r[j]? = some d → ∃ u, news[i * sz + j]? = some u ∧ RepD w Im d u) :
    let w' := w.drew.alloc (.cells (olds ++ news ++ rest).toArray e)
    let Im' : ImT := fun b o => Im b o ∨ (b = w.heap.size ∧ o < (rs.length + xs.length) * sz)
    RepD w' Im' (.slice (rs ++ xs)) (.slice (some ⟨w.heap.size, 0, none⟩) (rs.length + xs.length) cap) ∧ NewW w w' ∧
      (∀ b o, Im' b o → Im b o ∨ (w.heap.size ≤ b ∧ ∃ u, w'.cell? ⟨b, o, none⟩ = some u)) := by
  intro w' Im'
  have hw : NewW w w' := (NewW.alloc w.drew _).drew
  have hk : Keep w Im w' Im' := fun b o hb => ⟨.inl hb, ((hw.keep hin) b o hb).2⟩
  have hcl : ∀ j, w'.cell? ⟨w.heap.size, j, none⟩ = (olds ++ news ++ rest)[j]? := by
    intro j
    have := World.cell?_alloc_new w.drew (olds ++ news ++ rest).toArray e j
    simp only [World.size_drew, List.getElem?_toArray] at this
    exact this
  have hmul : (rs.length + xs.length) * sz = olds.length + news.length := by rw [Nat.add_mul, hlo, hln]
  refine ⟨?_, hw, fun b o hb => ?_⟩
  · rw [← List.length_append]
    refine .slice (rs ++ xs) ⟨w.heap.size, 0, none⟩ cap sz (fun j => (olds ++ news ++ rest).getD j default) (rowsOk_len (rowsOk_append h1 h2)) (by simpa using hcap) (fun _ => rfl) ?_ ?_ ?_
    · intro j hj
      rw [List.length_append, hmul] at hj
      simp only [Nat.zero_add]
      rw [hcl, List.getElem?_eq_getElem (by simp; omega)]
      simp [List.getD, show j < olds.length + (news.length + rest.length) by omega]
    · intro j hj
      rw [List.length_append] at hj
      exact .inr ⟨rfl, by simpa using hj⟩
    · intro i j r d hi hj
      by_cases hil : i < rs.length
      · rw [List.getElem?_append_left hil] at hi
        obtain ⟨u, g1, g2⟩ := ho i j r d hi hj
        have hlt := pos_lt (rowsOk_len h1) hi hj
        have : (olds ++ news ++ rest).getD (i * sz + j) default = u := by
          rw [List.getD_eq_getElem?_getD, List.append_assoc, List.getElem?_append_left (by omega), g1]; rfl
        rw [this]
        exact g2.keep hk
      · rw [List.getElem?_append_right (by omega)] at hi
        obtain ⟨u, g1, g2⟩ := hn (i - rs.length) j r d hi hj
        have hlt := pos_lt (rowsOk_len h2) hi hj
        have hpos : i * sz + j = olds.length + ((i - rs.length) * sz + j) := by
          have : i * sz = rs.length * sz + (i - rs.length) * sz := by rw [← Nat.add_mul]; congr 1; omega
          omega
        have : (olds ++ news ++ rest).getD (i * sz + j) default = u := by
          rw [List.getD_eq_getElem?_getD, List.append_assoc, hpos, List.getElem?_append_right (by omega), Nat.add_sub_cancel_left, List.getElem?_append_left (by omega), g1]; rfl
        rw [this]
        exact g2.keep hk
  · rcases hb with hb | ⟨rfl, hb⟩
    · exact .inl hb
    · refine .inr ⟨Nat.le_refl _, (olds ++ news ++ rest).getD o default, ?_⟩
      rw [hcl, List.getElem?_eq_getElem (by simp; omega)]
      simp [List.getD, show o < olds.length + (news.length + rest.length) by omega]

/-- A new block is given to a slot. -/
theorem own_new {σ : Store} {w' : World} {Im' : ImT} {tmps : Array Value} {slots : List PV} (hg : Good w' Im' O β σ) (hs : Slots w' Im' O β slots tmps) (hf : Fr w Im O w' Im' O) (l : Loc) (hl : ∀ id, l ≠ .box id)
    (hno : O w.heap.size = none) (hlt : w.heap.size < w'.heap.size) :
    let O' : OwT := fun b => if b = w.heap.size then some l else O b
    Good w' Im' O' β σ ∧ Slots w' Im' O' β slots tmps ∧ Fr w Im O w' Im' O' := by
  intro O'
  have hO' : ∀ (b : Nat) (l' : Loc), O b = some l' → O' b = some l' := by
    intro b l' hb
    show (if b = w.heap.size then some l else O b) = some l'
    rw [if_neg (fun h => by subst h; rw [hno] at hb; cases hb)]
    exact hb
  refine ⟨⟨hg.len, ?_, hg.im, ?_, ?_⟩, ⟨hs.len, fun i p u hp hu => ?_⟩, ⟨hf.env, hf.size, hf.same, hf.keep, hf.new, fun b hb ho => ?_⟩⟩
  · intro id b cells hb hc
    obtain ⟨h1, cs, e, h2, h3, h4⟩ := hg.box id b cells hb hc
    refine ⟨hO' _ _ h1, cs, e, h2, h3, fun j p v hp hv => ?_⟩
    obtain ⟨k1, k2, k3⟩ := h4 j p v hp hv
    exact ⟨k1, k2.mono fun b hb => ⟨hO' _ _ hb, rfl, fun _ h => h⟩, k3⟩
  · intro b o hb id ho
    replace ho : (if b = w.heap.size then some l else O b) = some (.box id) := ho
    split at ho
    · simp at ho; exact hl id ho
    · exact hg.box' b o hb id ho
  · intro b hb
    replace hb : (if b = w.heap.size then some l else O b) ≠ none := hb
    split at hb
    · rename_i h; rw [h]; exact hlt
    · exact hg.lim b hb
  · obtain ⟨k1, k2⟩ := hs.rep i p u hp hu
    exact ⟨k1, k2.mono fun b hb => ⟨hO' _ _ hb, rfl, fun _ h => h⟩⟩
  · show (if b = w.heap.size then some l else O b) = none
    rw [if_neg (by omega)]
    exact ho

theorem slots_untake_same (hs : Slots w Im O β st.slots a.tmps) (x : Operand) : Slots w Im O β (untake st.slots (slotOf x)) a.tmps := by
  cases hx : slotOf x with
  | none => exact hs
  | some s =>
    refine ⟨by simp [untake, hs.len], fun i p u hp hu => ?_⟩
    simp only [untake] at hp
    rw [List.getElem?_set] at hp
    split at hp
    · rename_i hsi
      subst hsi
      split at hp
      · cases hp
        have := (hs.get s).1
        have hts : a.tmps.getD s undef = u := by rw [Array.getD_eq_getD_getElem?, hu]; rfl
        rw [hts] at this
        exact ⟨this.strip, .of_not (strip_not_os _)⟩
      · cases hp
    · exact hs.rep i p u hp hu

theorem append_core (hI : Inv w Im O β st a) {t : TypeId} {s x : Operand} {sv xv r : PV} (hs : opv (rd st.slots) s = some sv) (hx : use (rd st.slots) x = some xv) (h : evAppend P t sv xv = some r)
    (ty : TypeId) (l : Loc) (hl : ∀ id, l ≠ .box id) (hl2 : ∀ id j, l ≠ .cell id j) :
    ∃ v w' Im' O', (Builtin.append_ #[t, t] ty #[a.eval s, a.eval x]).run P w = .ok v w' ∧ Fr w Im O w' Im' O' ∧ Good w' Im' O' β st.store ∧
      Slots w' Im' O' β (untake st.slots (slotOf s)) a.tmps ∧ RepP w' Im' β r v ∧ OwnP w' Im' O' l r v := by
  unfold evAppend appT at h
  cases hu : P.underlying t with
  | none => simp [hu] at h
  | some ud =>
  cases ud <;> simp only [hu] at h <;> try (simp at h; done)
  rename_i e
  cases hie : P.info? e with
  | none => simp [hie] at h
  | some ie =>
  simp only [hie] at h
  split at h
  case isFalse => simp at h
  rename_i hcond
  obtain ⟨hpos, hby, hz⟩ := hcond
  simp only [Option.bind_some] at h
  cases hrs : ownRows sv with
  | none => simp [hrs] at h
  | some rs =>
  cases hxs : elemsOf xv with
  | none => simp [hrs, hxs] at h
  | some xs =>
  simp only [hrs, hxs, Option.bind_some] at h
  split at h
  case isFalse => cases h
  rename_i hc
  cases h
  simp only [Bool.and_eq_true, decide_eq_true_eq] at hc
  obtain ⟨⟨hok1, hok2⟩, hroom⟩ := hc
  obtain ⟨z, hz1, hz2⟩ : ∃ z, ie.zero = some z ∧ z.cells.size = ie.size := by
    cases hz0 : ie.zero with
    | none => simp [hz0] at hz
    | some z => simp [hz0] at hz; exact ⟨z, rfl, hz⟩
  have hxD : RepD w Im (.slice xs) (a.eval x) := by
    have := use_rep hI.reps hx
    cases xv <;> simp [elemsOf] at hxs
    rename_i dx
    cases dx <;> simp at hxs
    subst hxs
    exact this.slice_inv
  obtain ⟨y, cx, hxv, hcx⟩ := hxD.slice_form
  rw [hxv] at hxD ⊢
  obtain ⟨_, _, hyn, news, n1, n2, _, _, n5, n6⟩ := rows_values hxD hok2
  -- what is appended to
  have hS : ∃ A c, a.eval s = .slice A rs.length c ∧ RepD w Im (.slice rs) (.slice A rs.length c) ∧ ((A = none → c = 0)) ∧
      (c = rs.length ∨ ∃ g cs ce, A = some g ∧ g.spot = none ∧ rs ≠ [] ∧ w.heap[g.block]? = some (.cells cs ce (0, 0)) ∧ g.off + c * ie.size ≤ cs.size ∧ (∀ o, Im g.block o → o < g.off + rs.length * ie.size) ∧
        ∃ k, s = .tmp k ∧ O g.block = some (.slot k)) := by
    have hsp := opv_rep hI.reps hs
    cases sv <;> simp [ownRows] at hrs
    · subst hrs
      generalize a.eval s = vs at hsp
      cases hsp with
      | e0 A =>
        refine ⟨A, 0, rfl, ?_, fun _ => rfl, .inl rfl⟩
        cases A with
        | none => exact .nil
        | some b => exact .slice [] b 0 0 (fun _ => default) (by simp) (by simp) (by simp) (by simp) (by simp) (by simp)
    · rename_i rows
      cases rows with
      | nil => simp at hrs
      | cons r0 rs0 =>
        simp at hrs
        subst hrs
        have hD : RepD w Im (.slice (r0 :: rs0)) (a.eval s) := by cases hsp with | os h => exact h
        obtain ⟨A, c, hv, hcap⟩ := hD.slice_form
        rw [hv] at hD
        have hnone : A = none → c = 0 := fun hA => ((rows_values hD hok1).2.2.1 hA).2
        refine ⟨A, c, hv, hD, hnone, ?_⟩
        cases s with
        | tmp k =>
          simp [opv] at hs
          have hown := (hI.slots.get k).2
          rw [hs] at hown
          have hv' : a.tmps.getD k undef = .slice A (r0 :: rs0).length c := hv
          rw [hv'] at hown
          rcases hown _ rfl with ⟨a1, n1', he⟩ | ⟨g, n', c', sz', cs, ce, he, g2, g3, g4, g5, g6, g7, g8⟩
          · cases he; exact .inl rfl
          · cases he
            have hsz : sz' = ie.size := by rw [← g6 r0 (by simp), rowsOk_len hok1 r0 (by simp)]
            subst hsz
            exact .inr ⟨g, cs, ce, rfl, g2, by simp, g4, g7, g8, k, rfl, g3⟩
        | const cv => simp [opv] at hs; exact absurd rfl ((ofValue_rep (w := w) (Im := Im) (β := β) hs).2 _)
        | func f => simp [opv] at hs
        | global f => simp [opv] at hs
  obtain ⟨A, c, hsv, hsD, hAn, hcase⟩ := hS
  rw [hsv]
  obtain ⟨_, hle, hAe, olds, o1, o2, o3, _, o5, o6⟩ := rows_values hsD hok1
  have hrb : (rs.length + xs.length) * ie.bytes ≤ 140737488355328 := Nat.le_trans hroom (by unfold roomB; decide)
  have hsmall : rs.length + xs.length ≤ 140737488355328 := Nat.le_trans (Nat.le_mul_of_pos_right _ hby) hrb
  by_cases hfit : rs.length + xs.length ≤ c
  · -- there is room
    rcases hcase with hc0 | ⟨g, cs, ce, rfl, g2, gne, g4, g7, g8, k, rfl, gO⟩
    · -- nothing is appended
      have hx0 : xs = [] := List.eq_nil_of_length_eq_zero (by omega)
      subst hx0
      have hf : (Builtin.firstCells ie.size 0 (.slice y 0 cx)).run P w = .ok #[] w := by
        cases y with
        | none => simp [Builtin.firstCells]
        | some b => simp [Builtin.firstCells, loadCells, loadCellsFrom]
      refine ⟨.slice A rs.length c, w, Im, O, ?_, .refl _ _ _, hI.good, slots_untake_same hI.slots s, ?_, ?_⟩
      · have hnle : rs.length ≤ c := by omega
        cases A with
        | none => simp [Builtin.append_, run_underlying hu, sizeOf, typeInfo, hie, Builtin.lenOf, hnle, hf]
        | some b => simp [Builtin.append_, run_underlying hu, sizeOf, typeInfo, hie, Builtin.lenOf, hnle, hf, storeCells]
      · rw [List.append_nil]
        cases rs with
        | nil =>
          obtain rfl : c = 0 := by simpa using hc0
          exact .e0 _
        | cons r0 rs0 => exact .os hsD
      · rw [hc0]
        exact acc_own
    · -- in place
      have hfc : (Builtin.firstCells ie.size xs.length (.slice y xs.length cx)).run P w = .ok news.toArray w := by
        cases y with
        | none =>
          have : news = [] := List.eq_nil_of_length_eq_zero (by rw [n1, (hyn rfl).1]; simp)
          rw [this]; simp [Builtin.firstCells]
        | some b => exact run_firstCells_some (P := P) w ie.size xs.length b xs.length cx news n1 (n2 b rfl)
      have hmul : (rs.length + xs.length) * ie.size = rs.length * ie.size + news.length := by rw [Nat.add_mul, n1]
      have hcm : (rs.length + xs.length) * ie.size ≤ c * ie.size := Nat.mul_le_mul_right _ hfit
      have hst := run_storeCells_at P g.block (g.off + rs.length * ie.size) ce news 0 cs w g4 (by omega) n6
      simp only [Nat.add_zero] at hst
      generalize hcs' : (cs.toList.take (g.off + rs.length * ie.size) ++ news ++ cs.toList.drop (g.off + rs.length * ie.size + news.length)).toArray = cs' at hst
      have hcs'sz : cs'.size = cs.size := by rw [← hcs']; simp; omega
      have hcs'in : ∀ j, j < news.length → cs'[g.off + rs.length * ie.size + j]? = news[j]? := by
        intro j hj
        rw [← hcs', List.getElem?_toArray, List.append_assoc, List.getElem?_append_right (by simp; omega), List.getElem?_append_left (by simp; omega)]
        congr 1
        simp
        omega
      have hcs'low : ∀ o, o < g.off + rs.length * ie.size → cs'[o]? = cs[o]? := by
        intro o ho
        rw [← hcs', List.getElem?_toArray, List.append_assoc, List.getElem?_append_left (by simp; omega), List.getElem?_take, if_pos ho]
        simp
      let w' := w.setRow g.block cs'
      let Im' : ImT := fun b o => Im b o ∨ (b = g.block ∧ g.off + rs.length * ie.size ≤ o ∧ o < g.off + rs.length * ie.size + news.length)
      have hk : Keep w Im w' Im' := by
        intro b o hb
        refine ⟨.inl hb, ?_⟩
        by_cases hbg : b = g.block
        · subst hbg
          show (w.setRow g.block cs').cell? ⟨g.block, o, none⟩ = w.cell? ⟨g.block, o, none⟩
          rw [cell_setRow_same w g.block o cs cs' ce (0, 0) g4, hcs'low o (g8 o hb)]
          simp [World.cell?, g4]
        · exact cell_setRow_other w g.block cs' _ hbg
      have hnb : ∀ b id, O b = some (.box id) → b ≠ g.block := fun b id hb he => by rw [he, gO] at hb; cases hb
      have hother : ∀ (loc : Loc) (p : PV) (v : Value), loc ≠ .slot k → OwnP w Im O loc p v → OwnP w' Im' (retag O (.slot k) l) loc p v := by
        intro loc p v hne ho
        refine ho.mono fun b hb => ⟨by unfold retag; rw [if_neg (by rw [hb]; simpa using hne)]; exact hb, setRow_other w g.block b cs' (fun he => ?_), fun o ho => ?_⟩
        · rw [he, gO] at hb; cases hb; exact hne rfl
        · rcases ho with ho | ⟨ho, _⟩
          · exact ho
          · rw [ho, gO] at hb; cases hb; exact absurd rfl hne
      have hgood : Good w' Im' (retag O (.slot k) l) β st.store := by
        refine ⟨hI.good.len, ?_, ?_, ?_, ?_⟩
        · intro id b cells hb hc
          obtain ⟨q1, cs0, e0, q2, q3, q4⟩ := hI.good.box id b cells hb hc
          refine ⟨by unfold retag; rw [if_neg (by rw [q1]; simp)]; exact q1, cs0, e0, (setRow_other w g.block b cs' (hnb b id q1)).trans q2, q3, fun j p v hp hv => ?_⟩
          obtain ⟨k1, k2, k3⟩ := q4 j p v hp hv
          exact ⟨k1.keep hk (fun _ _ h => h), hother _ _ _ (by simp) k2, k3⟩
        · intro b o hb
          rcases hb with hb | ⟨rfl, hb1, hb2⟩
          · obtain ⟨v, hv⟩ := hI.good.im b o hb
            exact ⟨v, (hk b o hb).2.trans hv⟩
          · have hlt : o - (g.off + rs.length * ie.size) < news.length := by omega
            refine ⟨news[o - (g.off + rs.length * ie.size)], ?_⟩
            show (w.setRow g.block cs').cell? ⟨g.block, o, none⟩ = _
            rw [cell_setRow_same w g.block o cs cs' ce (0, 0) g4]
            have := hcs'in _ hlt
            rw [show g.off + rs.length * ie.size + (o - (g.off + rs.length * ie.size)) = o by omega] at this
            rw [this, List.getElem?_eq_getElem hlt]
        · intro b o hb id ho
          have hb' : b = g.block → False := by
            intro he
            subst he
            unfold retag at ho
            rw [if_pos gO] at ho
            simp at ho
            exact hl id ho
          rcases hb with hb | ⟨hb, _⟩
          · unfold retag at ho
            split at ho
            · simp at ho; exact hl id ho
            · exact hI.good.box' b o hb id ho
          · exact hb' hb
        · intro b hb
          show b < (w.setRow g.block cs').heap.size
          rw [setRow_size]
          exact hI.good.lim b (fun hn => hb (retag_none.2 hn))
      have hslots : Slots w' Im' (retag O (.slot k) l) β (untake st.slots (slotOf (.tmp k))) a.tmps := by
        have hu' := hI.slots.untake k l
        refine ⟨hu'.len, fun i p u hp hu => ?_⟩
        obtain ⟨k1, k2⟩ := hu'.rep i p u hp hu
        refine ⟨k1.keep hk (fun _ _ h => h), ?_⟩
        by_cases hik : i = k
        · subst hik
          -- stripped
          refine .of_not (fun rows he => ?_)
          subst he
          simp only [slotOf, untake] at hp
          rw [List.getElem?_set] at hp
          simp only [if_true] at hp
          split at hp
          · simp at hp; exact absurd hp (strip_not_os _ rows)
          · cases hp
        · simp only [slotOf, untake] at hp
          rw [List.getElem?_set, if_neg (fun h => hik h.symm)] at hp
          exact hother _ _ _ (by simpa using hik) (hI.slots.rep i p u hp hu).2
      have hfr : Fr w Im O w' Im' (retag O (.slot k) l) := by
        refine ⟨⟨rfl, rfl, rfl⟩, by show w.heap.size ≤ (w.setRow g.block cs').heap.size; simp, fun b hb ho => setRow_other w g.block b cs' (fun he => by rw [he, gO] at ho; cases ho), hk, fun b o hb => ?_, fun b _ ho => retag_none.2 ho⟩
        rcases hb with hb | ⟨rfl, _⟩
        · exact .inl hb
        · exact .inr (.inl (by rw [gO]; simp))
      have hD' : RepD w' Im' (.slice (rs ++ xs)) (.slice (some g) (rs.length + xs.length) c) := by
        rw [← List.length_append]
        refine .slice (rs ++ xs) g c ie.size (fun j => (cs'[g.off + j]?).getD default) (rowsOk_len (rowsOk_append hok1 hok2)) (by simpa using hfit) (fun _ => g2) ?_ ?_ ?_
        · intro j hj
          rw [List.length_append, hmul] at hj
          show (w.setRow g.block cs').cell? ⟨g.block, g.off + j, none⟩ = _
          rw [cell_setRow_same w g.block _ cs cs' ce (0, 0) g4, Array.getElem?_eq_getElem (by omega)]
          rfl
        · intro j hj
          rw [List.length_append, hmul] at hj
          by_cases hj2 : j < rs.length * ie.size
          · refine .inl ?_
            have := rows_values hsD hok1
            obtain ⟨_, _, _, _, _, _, _, p4, _⟩ := this
            exact p4 g rfl j hj2
          · exact .inr ⟨rfl, by omega, by omega⟩
        · intro i j r d hi hj
          by_cases hil : i < rs.length
          · rw [List.getElem?_append_left hil] at hi
            obtain ⟨u, q1, q2⟩ := o5 i j r d hi hj
            have hlt := pos_lt (rowsOk_len hok1) hi hj
            have hq := o2 g rfl _ u q1
            rw [Addr.add_none g2] at hq
            have : cs'[g.off + (i * ie.size + j)]? = some u := by
              rw [hcs'low _ (by omega)]
              simpa [World.cell?, g4] using hq
            rw [this]
            exact q2.keep hk
          · rw [List.getElem?_append_right (by omega)] at hi
            obtain ⟨u, q1, q2⟩ := n5 (i - rs.length) j r d hi hj
            have hlt := pos_lt (rowsOk_len hok2) hi hj
            have hpos : i * ie.size + j = rs.length * ie.size + ((i - rs.length) * ie.size + j) := by
              have : i * ie.size = rs.length * ie.size + (i - rs.length) * ie.size := by rw [← Nat.add_mul]; congr 1; omega
              omega
            have : cs'[g.off + (i * ie.size + j)]? = some u := by
              rw [hpos, ← Nat.add_assoc, hcs'in _ (by omega)]
              exact q1
            rw [this]
            exact q2.keep hk
      refine ⟨.slice (some g) (rs.length + xs.length) c, w', Im', retag O (.slot k) l, ?_, hfr, hgood, hslots, acc_repP hD' (by simp [gne]), ?_⟩
      · simp [Builtin.append_, run_underlying hu, sizeOf, typeInfo, hie, Builtin.lenOf, hfit, hfc, Addr.add_none g2, hst]
        rfl
      · intro rows hrows
        refine .inr ⟨g, _, c, ie.size, cs', ce, rfl, g2, by unfold retag; rw [if_pos gO], setRow_heap w g.block cs cs' ce (0, 0) g4, ?_, ?_, by omega, ?_⟩
        · intro he
          subst he
          cases hra : rs ++ xs with
          | nil => simp [gne] at hra
          | cons q qs => rw [hra] at hrows; cases hrows
        · intro q hq
          have : acc (rs ++ xs) = .os (rs ++ xs) := by
            cases hra : rs ++ xs with
            | nil => simp [gne] at hra
            | cons q qs => rfl
          rw [this] at hrows
          cases hrows
          exact rowsOk_len (rowsOk_append hok1 hok2) q hq
        · intro o ho
          rcases ho with ho | ⟨_, _, ho⟩
          · have := g8 o ho; omega
          · omega
  · -- a new block
    have hg' : c < rs.length + xs.length := by omega
    have hxne : xs ≠ [] := by
      intro h0
      subst h0
      simp at hg'
      omega
    obtain ⟨b, rfl⟩ : ∃ b, y = some b := by
      cases y with
      | none => exact absurd (hyn rfl).1 hxne
      | some b => exact ⟨b, rfl⟩
    have hxpos : 0 < xs.length := List.length_pos_iff.2 hxne
    have hcap := grownCap_ge w (rs.length + xs.length) c e
    have hrun : (Builtin.append_ #[t, t] ty #[.slice A rs.length c, .slice (some b) xs.length cx]).run P w =
        .ok (.slice (some ⟨w.heap.size, 0, none⟩) (rs.length + xs.length) (grownCap w (rs.length + xs.length) c e))
          (w.drew.alloc (.cells (olds ++ news ++ (Builtin.zeroCells z.cells (grownCap w (rs.length + xs.length) c e - (rs.length + xs.length))).toList).toArray e)) := by
      cases A with
      | none =>
        obtain ⟨h0, h0'⟩ := hAe rfl
        subst h0
        subst h0'
        have ho : olds = [] := List.eq_nil_of_length_eq_zero (by rw [o1]; simp)
        subst ho
        have := run_append_nil (P := P) w t ty e ie z hu hie hz1 b xs.length cx news n1 (n2 b rfl) hxpos (by omega) (by simp at hrb; omega)
        simp only [List.length_nil, Nat.zero_add, List.nil_append]
        rw [this]
        congr 2
        congr 1
        apply Array.ext'
        simp
      | some g =>
        have := run_append_grow (P := P) w t ty e ie z hu hie hz1 g rs.length c olds o1 (o2 g rfl) b xs.length cx news n1 (n2 b rfl) hg' (by omega) (growslice_fits hg' hrb)
        rw [this]
        congr 2
        congr 1
        apply Array.ext'
        simp
    obtain ⟨hD, hnw, hnew⟩ := grown_rep hI.good.im hok1 hok2 olds news (Builtin.zeroCells z.cells (grownCap w (rs.length + xs.length) c e - (rs.length + xs.length))).toList e
      (grownCap w (rs.length + xs.length) c e) o1 n1 hcap o5 n5
    have hOn : O w.heap.size = none := by
      cases hO : O w.heap.size with
      | none => rfl
      | some l => exact absurd (hI.good.lim _ (by rw [hO]; simp)) (Nat.lt_irrefl _)
    obtain ⟨q1, q2, q3⟩ := hI.good.newW hnw (fun b o h => .inl h) hnew
    obtain ⟨r1, r2, r3⟩ := own_new q1 (q3 _ _ (slots_untake_same hI.slots s)) q2 l hl hOn (by simp)
    refine ⟨_, _, _, _, hrun, r3, r1, r2, acc_repP hD (by simp [hxne]), ?_⟩
    intro rows hrows
    have hacc : acc (rs ++ xs) = .os (rs ++ xs) := by
      cases hra : rs ++ xs with
      | nil => simp [hxne] at hra
      | cons q qs => rfl
    rw [hacc] at hrows
    cases hrows
    have hcells : (w.drew.alloc (.cells (olds ++ news ++ (Builtin.zeroCells z.cells (grownCap w (rs.length + xs.length) c e - (rs.length + xs.length))).toList).toArray e)).heap[w.heap.size]? = _ := alloc_new w.drew _
    refine .inr ⟨⟨w.heap.size, 0, none⟩, _, _, ie.size, _, e, rfl, rfl, by simp, hcells, by simp [hxne], rowsOk_len (rowsOk_append hok1 hok2), ?_, ?_⟩
    · have : (rs.length + xs.length) * ie.size = olds.length + news.length := by rw [Nat.add_mul, o1, n1]
      have h2 : grownCap w (rs.length + xs.length) c e * ie.size = (rs.length + xs.length) * ie.size + (grownCap w (rs.length + xs.length) c e - (rs.length + xs.length)) * ie.size := by
        rw [← Nat.add_mul]; congr 1; omega
      simp [Builtin.zeroCells, hz2]
      omega
    · intro o ho
      rcases ho with ho | ⟨_, ho⟩
      · exact absurd (hI.good.im.lt ho) (Nat.lt_irrefl _)
      · simpa using ho

end step
end Go.Pv

set_option linter.unusedVariables false
set_option linter.unusedSimpArgs false
namespace Go.Pv
open Go

def Callable (P : Program) (f : FuncId) : Prop := ∃ fn, P.funcs[f]? = some fn ∧ fn.body.isSome = true ∧ fn.name ≠ "runtime.NumGoroutine"

def RepArgs (w : World) (Im : ImT) (β : List Nat) (args : List PV) (vs : Array Value) : Prop :=
  args.length = vs.size ∧ ∀ (i : Nat) (p : PV) (v : Value), args[i]? = some p → vs[i]? = some v → RepP w Im β p v ∧ ∀ rows, p ≠ .os rows

/-- The machine's call gives what is said. -/
def CallOk (P : Program) (f : FuncId) (args : List PV) (σ : Store) (res : PV) (σ' : Store) : Prop :=
  Callable P f ∧ ∀ (w : World) (Im : ImT) (O : OwT) (β : List Nat) (vs : Array Value), Good w Im O β σ → (∀ b i, O b ≠ some (.slot i)) → RepArgs w Im β args vs →
    Calls P f vs w fun e w' => ∃ v Im' O' β' l, e = .returned v ∧ Fr w Im O w' Im' O' ∧ Ext β β' ∧ Good w' Im' O' β' σ' ∧ RepP w' Im' β' res v ∧ OwnP w' Im' O' (.slot l) res v

/-- The boxes below n point to none at or above n. -/
def Eld (n : Nat) (σ : Store) : Prop := ∀ (id : Nat) (cells : List PV), id < n → σ[id]? = some cells → ∀ p ∈ cells, p.Below n
/-- Boxes stay; and what pointed to elder boxes does so still. -/
def EldTo (σ σ' : Store) : Prop := σ.length ≤ σ'.length ∧ ∀ n, n ≤ σ.length → Eld n σ → Eld n σ'
theorem EldTo.refl (σ : Store) : EldTo σ σ := ⟨Nat.le_refl _, fun _ _ h => h⟩
theorem EldTo.trans {σ σ' σ'' : Store} (h : EldTo σ σ') (h' : EldTo σ' σ'') : EldTo σ σ'' := ⟨Nat.le_trans h.1 h'.1, fun n hn he => h'.2 n (Nat.le_trans hn h.1) (h.2 n hn he)⟩
theorem EldTo.append (σ c : Store) : EldTo σ (σ ++ c) := ⟨by simp, fun n hn he id cells hid hc p hp => he id cells hid (by rwa [List.getElem?_append_left (by omega)] at hc) p hp⟩
theorem EldTo.same {σ σ' : Store} (h : σ'.take σ.length = σ) : EldTo σ σ' := by
  have hl : σ.length ≤ σ'.length := by have := congrArg List.length h; simp at this; omega
  refine ⟨hl, fun n hn he id cells hid hc p hp => he id cells hid ?_ p hp⟩
  rw [← h, List.getElem?_take, if_pos (by omega)]
  exact hc

theorem Good.eld {w : World} {Im : ImT} {O : OwT} {β : List Nat} {σ : Store} (h : Good w Im O β σ) : Eld σ.length σ := by
  intro id cells hid hc p hp
  have hb : id < β.length := by rw [h.len]; exact hid
  obtain ⟨_, cs, e, _, h3, h4⟩ := h.box id β[id] cells (List.getElem?_eq_getElem hb) hc
  obtain ⟨j, hj⟩ := List.mem_iff_getElem?.1 hp
  have hjs : j < cs.size := Nat.lt_of_lt_of_le (List.getElem?_eq_some_iff.1 hj).1 h3
  have := (h4 j p cs[j] hj (Array.getElem?_eq_getElem hjs)).1.bel
  rwa [h.len] at this

def FnOk (P : Program) (F : FnEv) : Prop := ∀ f args σ res σ', F f args σ = some (res, σ') → CallOk P f args σ res σ' ∧ EldTo σ σ'
def OvOk (E : Env) : Prop := (∀ f g, E.ov f = some g → ∀ args res, g args = some res → isDataL args = true → res.isData = true → CallOk E.P f args [] res []) ∧
  ∀ b f g, E.ext b f = some g → ∀ args σ r, g args σ = some r → CallOk E.P f args σ r.1 r.2 ∧ EldTo σ r.2

section step
variable {P : Program} {w : World} {Im : ImT} {O : OwT} {β : List Nat} {st : St} {a : Act}

theorem OpOk.enter {o : Oper} {st' : St} {f : FuncId} {vs : Array Value} (hrun : (execOp a.eval o).run P w = .ok (.enter f vs) w)
    (hc : Calls P f vs w fun e w' => ∃ v, e = .returned v ∧ ∃ Im' O' β', Fr w Im O w' Im' O' ∧ Ext β β' ∧ Inv w' Im' O' β' st' (a.put o.dst v)) : OpOk P w Im O β a o st' := by
  intro K Q hK
  unfold Oper.wp
  rw [hrun]
  refine hc.mono ?_
  rintro e w' ⟨v, rfl, Im', O', β', h1, h2, h3⟩
  exact hK w' Im' O' β' _ h1 h2 h3 (put_defers a o.dst v)

theorem data_ext {p : PV} {v : Value} {β' : List Nat} (h : RepP w Im β p v) (hd : p.Data) : RepP w Im β' p v := by
  have := h.cut (n := 0) (hd.toBelow 0)
  simp only [List.take_zero] at this
  exact this.keep (.refl _ _) (fun id b hb => by simp at hb)

/-- The cells that must not change, with those of all boxes. -/
def ImBox (Im : ImT) (β : List Nat) (σ : Store) : ImT := fun b o => Im b o ∨ ∃ (id : Nat) (cells : List PV), β[id]? = some b ∧ σ[id]? = some cells ∧ o < cells.length

theorem allD_get {f : PV → Option DV} : ∀ {ps : List PV} {ds : List DV}, allD f ps = some ds → ds.length = ps.length ∧ ∀ (i : Nat) (p : PV), ps[i]? = some p → ∃ x, ds[i]? = some x ∧ f p = some x
  | [], ds, h => by simp [allD] at h; subst h; exact ⟨rfl, by simp⟩
  | p :: ps, ds, h => by
    simp only [allD] at h
    cases hp : f p with
    | none => simp [hp] at h
    | some x =>
      cases hs : allD f ps with
      | none => simp [hp, hs] at h
      | some xs =>
        simp [hp, hs] at h
        subst h
        obtain ⟨h1, h2⟩ := allD_get hs
        refine ⟨by simp [h1], fun i q hi => ?_⟩
        cases i with
        | zero => simp at hi; subst hi; exact ⟨x, rfl, hp⟩
        | succ i => simpa using h2 i q (by simpa using hi)

theorem allP_get {f : PV → Option PV} : ∀ {ps ds : List PV}, allP f ps = some ds → ds.length = ps.length ∧ ∀ (i : Nat) (p : PV), ps[i]? = some p → ∃ x, ds[i]? = some x ∧ f p = some x
  | [], ds, h => by simp [allP] at h; subst h; exact ⟨rfl, by simp⟩
  | p :: ps, ds, h => by
    simp only [allP] at h
    cases hp : f p with
    | none => simp [hp] at h
    | some x =>
      cases hs : allP f ps with
      | none => simp [hp, hs] at h
      | some xs =>
        simp [hp, hs] at h
        subst h
        obtain ⟨h1, h2⟩ := allP_get hs
        refine ⟨by simp [h1], fun i q hi => ?_⟩
        cases i with
        | zero => simp at hi; subst hi; exact ⟨x, rfl, hp⟩
        | succ i => simpa using h2 i q (by simpa using hi)

theorem chunks_len (sz : Nat) : ∀ (n : Nat) (ds : List DV), (chunks sz n ds).length = n
  | 0, _ => rfl
  | n + 1, ds => by simp [chunks, chunks_len sz n]

theorem chunks_get (sz : Nat) : ∀ (n : Nat) (ds : List DV), ds.length = n * sz → (∀ r ∈ chunks sz n ds, r.length = sz) ∧ ∀ (i j : Nat) (r : List DV) (x : DV), (chunks sz n ds)[i]? = some r → r[j]? = some x → ds[i * sz + j]? = some x ∧ i * sz + j < n * sz
  | 0, ds, h => ⟨by simp [chunks], by simp [chunks]⟩
  | n + 1, ds, h => by
    have hmul : (n + 1) * sz = n * sz + sz := by rw [Nat.add_mul]; omega
    obtain ⟨h1, h2⟩ := chunks_get sz n (ds.drop sz) (by simp; omega)
    refine ⟨fun r hr => ?_, fun i j r x hi hj => ?_⟩
    · rcases List.mem_cons.1 (show r ∈ ds.take sz :: chunks sz n (ds.drop sz) from hr) with rfl | hr
      · simp; omega
      · exact h1 r hr
    · cases i with
      | zero =>
        have hi' : ds.take sz = r := by simpa [chunks] using hi
        subst hi'
        have hjl := (List.getElem?_eq_some_iff.1 hj).1
        rw [List.length_take] at hjl
        rw [List.getElem?_take, if_pos (by omega)] at hj
        refine ⟨by simpa using hj, by omega⟩
      | succ i =>
        obtain ⟨g1, g2⟩ := h2 i j r x (by simpa [chunks] using hi) hj
        rw [List.getElem?_drop] at g1
        have e : (i + 1) * sz + j = sz + (i * sz + j) := by rw [Nat.add_mul]; omega
        rw [e]
        exact ⟨g1, by omega⟩

theorem frzD_ok {w : World} {Im : ImT} {O : OwT} {β : List Nat} {σ : Store} (hg : Good w Im O β σ) : ∀ (k : Nat) (p : PV) (v : Value) (x : DV), RepP w Im β p v → frzD σ k p = some x → RepD w (ImBox Im β σ) x v
  | 0, p, v, x, _, h => by simp [frzD] at h
  | k + 1, p, v, x, hp, h => by
    have hk : Keep w Im w (ImBox Im β σ) := fun b o hb => ⟨.inl hb, rfl⟩
    simp only [frzD] at h
    split at h
    · cases h
      cases hp with | d hd => exact hd.keep hk
    · cases h
      cases hp with
      | e0 a =>
        cases a with
        | none => exact .nil
        | some a => exact .slice [] a 0 0 (fun _ => default) (by simp) (by simp) (by simp) (by simp) (by simp) (by simp)
    · cases h
      cases hp with | os hd => exact hd.keep hk
    · rename_i id off len sz
      cases hc : σ[id]? with
      | none => simp [hc] at h
      | some cells =>
        simp only [hc, Option.bind_some] at h
        split at h
        · rename_i hle
          cases ha : allD (frzD σ k) ((cells.drop off).take (len * sz)) with
          | none => simp [ha] at h
          | some ds =>
            simp [ha] at h
            subst h
            obtain ⟨g1, g2⟩ := allD_get ha
            have hdl : ds.length = len * sz := by rw [g1]; simp; omega
            obtain ⟨c1, c2⟩ := chunks_get sz len ds hdl
            cases hp with
            | ms _ _ _ _ b c a hb hcap hx =>
              obtain ⟨hO, cs, e, hh, hcs, hcell⟩ := hg.box id b cells hb hc
              have hlen := chunks_len sz len ds
              have main : RepD w (ImBox Im β σ) (.slice (chunks sz len ds)) (.slice (some a) (chunks sz len ds).length c) := by
                have haa : (chunks sz len ds).length * sz ≠ 0 → a = ⟨b, off, none⟩ := fun hne => hx (by rw [hlen] at hne; intro h0; subst h0; simp at hne)
                have hca : ∀ j, j < (chunks sz len ds).length * sz → ∃ (p : PV) (u : Value), cells[off + j]? = some p ∧ cs[off + j]? = some u ∧ w.cell? ⟨b, off + j, none⟩ = some u := by
                  intro j hj
                  rw [hlen] at hj
                  have h1 : off + j < cells.length := by omega
                  have h2 : off + j < cs.size := by omega
                  refine ⟨cells[off + j], cs[off + j], List.getElem?_eq_getElem h1, Array.getElem?_eq_getElem h2, ?_⟩
                  simp [World.cell?, hh, h2]
                refine .slice _ a c sz (fun j => (w.cell? ⟨b, off + j, none⟩).getD default) c1 (by rw [hlen]; exact hcap) (fun hne => by rw [haa hne]) (fun j hj => ?_) (fun j hj => ?_) (fun i j r x hi hj => ?_)
                · obtain ⟨p, u, h1, h2, h3⟩ := hca j hj
                  rw [haa (by omega)]
                  simp [h3]
                · obtain ⟨p, u, h1, h2, h3⟩ := hca j hj
                  rw [haa (by omega)]
                  exact .inr ⟨id, cells, hb, hc, (List.getElem?_eq_some_iff.1 h1).1⟩
                · obtain ⟨k1, k2⟩ := c2 i j r x hi hj
                  obtain ⟨p, u, h1, h2, h3⟩ := hca (i * sz + j) (by rw [hlen]; exact k2)
                  have hp' : ((cells.drop off).take (len * sz))[i * sz + j]? = some p := by
                    rw [List.getElem?_take, if_pos k2, List.getElem?_drop]; exact h1
                  obtain ⟨y, hy1, hy2⟩ := g2 _ p hp'
                  rw [k1] at hy1
                  cases hy1
                  simp only [h3, Option.getD_some]
                  exact frzD_ok hg k p u x (hcell _ p u h1 h2).1 hy2
              rw [hlen] at main
              exact main
        · cases h
    · cases h

theorem frz1_ok {w : World} {Im : ImT} {O : OwT} {β β' : List Nat} {σ : Store} (hg : Good w Im O β σ) {k : Nat} {p r : PV} {v : Value} (hp : RepP w Im β p v) (h : frz1 σ k p = some r) : RepP w (ImBox Im β σ) β' r v ∧ ∀ rows, r ≠ .os rows := by
  unfold frz1 at h
  split at h
  · rename_i cs
    cases ha : allD (frzD σ k) cs with
    | none => simp [ha] at h
    | some ds =>
      simp [ha] at h
      subst h
      obtain ⟨g1, g2⟩ := allD_get ha
      cases hp with
      | agg _ vs hl hr =>
        refine ⟨.agg _ vs (by simp [g1, hl]) (fun i q u hq hu => ?_), by simp⟩
        have hi : i < cs.length := by have := (Array.getElem?_eq_some_iff.1 hu).1; omega
        obtain ⟨x, h1, h2⟩ := g2 i _ (List.getElem?_eq_getElem hi)
        rw [List.getElem?_map, h1] at hq
        simp at hq
        subst hq
        exact .d (frzD_ok hg k _ u x (hr i _ u (List.getElem?_eq_getElem hi) hu) h2)
  · cases ha : frzD σ k p with
    | none => simp [ha] at h
    | some x =>
      simp [ha] at h
      subst h
      exact ⟨.d (frzD_ok hg k p v x hp ha), by simp⟩

theorem frzP_ok {w : World} {Im : ImT} {O : OwT} {β β' : List Nat} {σ : Store} (hg : Good w Im O β σ) {k : Nat} {p r : PV} {v : Value} (hp : RepP w Im β p v) (h : frzP σ k p = some r) : RepP w (ImBox Im β σ) β' r v ∧ ∀ rows, r ≠ .os rows := by
  unfold frzP at h
  split at h
  · rename_i ps
    cases ha : allP (frz1 σ k) ps with
    | none => simp [ha] at h
    | some ds =>
      simp [ha] at h
      subst h
      obtain ⟨g1, g2⟩ := allP_get ha
      cases hp with
      | tup _ vs hl hr =>
        refine ⟨.tup _ vs (by simp [g1, hl]) (fun i q u hq hu => ?_), by simp⟩
        have hi : i < ps.length := by have := (Array.getElem?_eq_some_iff.1 hu).1; omega
        obtain ⟨x, h1, h2⟩ := g2 i _ (List.getElem?_eq_getElem hi)
        rw [h1] at hq
        cases hq
        exact (frz1_ok hg (hr i _ u (List.getElem?_eq_getElem hi) hu) h2).1
  · exact frz1_ok hg hp h

/-- A call that touches no box of ours, whose result lies in boxes of its own: these will not change any more. -/
theorem pureFrz_ok (hI : Inv w Im O β st a) {o : Oper} {f : FuncId} {args : List PV} {vs : Array Value} {res r : PV} {σ1 : Store} {k : Nat} (hrun : (execOp a.eval o).run P w = .ok (.enter f vs) w)
    (hargs : RepArgs w Im β args vs) (hd : ∀ p ∈ args, p.Data) (hr : frzP σ1 k res = some r) (hc : CallOk P f args [] res σ1) :
    OpOk P w Im O β a o { slots := putS (untake st.slots none) o.dst r, store := st.store } := by
  refine .enter hrun ?_
  refine (hc.2 w Im (fun _ => none) [] vs ⟨rfl, by simp, hI.good.im, by simp, by simp⟩ (by simp) ⟨hargs.1, fun i p v hp hv => ⟨data_ext (hargs.2 i p v hp hv).1 (hd p (List.mem_of_getElem? hp)), (hargs.2 i p v hp hv).2⟩⟩).mono ?_
  rintro e w' ⟨v, Im', Oc, βc, l, rfl, hf, _, hg, hrep, hown⟩
  refine ⟨v, rfl, ?_⟩
  have hn : NewW w w' := ⟨hf.env, hf.size, fun b hb => hf.same b hb rfl⟩
  obtain ⟨g1, g2, g3⟩ := hI.good.newW (Im' := ImBox Im' βc σ1) hn (fun b o h => .inl (hf.keep b o h).1) (fun b o h => by
    rcases h with h | ⟨id, cells, h1, h2, h3⟩
    · rcases hf.new b o h with h1 | h1 | h1
      · exact .inl h1
      · exact absurd rfl h1
      · exact .inr ⟨h1, hg.im b o h⟩
    · obtain ⟨hO, cs, e, hh, hcs, _⟩ := hg.box id b cells h1 h2
      have ho : o < cs.size := by omega
      refine .inr ⟨?_, cs[o], by simp [World.cell?, hh, ho]⟩
      rcases Nat.lt_or_ge b w.heap.size with hlt | hge
      · have := hf.own b hlt rfl
        rw [hO] at this
        cases this
      · exact hge)
  obtain ⟨r1, r2⟩ := frzP_ok (β' := β) hg hrep hr
  exact ⟨_, O, β, g2, .refl β, ⟨g1, (g3 _ _ hI.slots).put r1 (fun d _ => .of_not r2)⟩⟩

/-- A call that touches no box. -/
theorem pureCall_ok (hI : Inv w Im O β st a) {o : Oper} {f : FuncId} {args : List PV} {vs : Array Value} {res : PV} {σ1 : Store} (hrun : (execOp a.eval o).run P w = .ok (.enter f vs) w)
    (hargs : RepArgs w Im β args vs) (hd : ∀ p ∈ args, p.Data) (hr : res.Data) (hc : CallOk P f args [] res σ1) :
    OpOk P w Im O β a o { slots := putS (untake st.slots none) o.dst res, store := st.store } := by
  refine .enter hrun ?_
  refine (hc.2 w Im (fun _ => none) [] vs ⟨rfl, by simp, hI.good.im, by simp, by simp⟩ (by simp) ⟨hargs.1, fun i p v hp hv => ⟨data_ext (hargs.2 i p v hp hv).1 (hd p (List.mem_of_getElem? hp)), (hargs.2 i p v hp hv).2⟩⟩).mono ?_
  rintro e w' ⟨v, Im', Oc, βc, l, rfl, hf, _, hg, hrep, hown⟩
  refine ⟨v, rfl, ?_⟩
  have hn : NewW w w' := ⟨hf.env, hf.size, fun b hb => hf.same b hb rfl⟩
  obtain ⟨g1, g2, g3⟩ := hI.good.newW hn (fun b o h => (hf.keep b o h).1) (fun b o h => by
    rcases hf.new b o h with h1 | h1 | h1
    · exact .inl h1
    · exact absurd rfl h1
    · exact .inr ⟨h1, hg.im b o h⟩)
  have hOc : ∀ b, b < w.heap.size → Oc b = none := fun b hb => hf.own b hb rfl
  let l' : Loc := match o.dst with | some d => .slot d | none => .slot 0
  let O' : OwT := fun b => if Oc b = some (.slot l) then some l' else O b
  have hl' : ∀ id, l' ≠ .box id := by intro id; show (match o.dst with | some d => Loc.slot d | none => .slot 0) ≠ .box id; cases o.dst <;> simp
  have hO' : ∀ b x, O b = some x → O' b = some x := by
    intro b x hb
    show (if Oc b = some (.slot l) then some l' else O b) = some x
    rw [if_neg (by rw [hOc b (hI.good.lim b (by simp [hb]))]; simp)]
    exact hb
  have hmono : ∀ {loc : Loc} {p : PV} {v : Value}, OwnP w' Im' O loc p v → OwnP w' Im' O' loc p v := fun h => h.mono fun b hb => ⟨hO' _ _ hb, rfl, fun _ h => h⟩
  refine ⟨Im', O', β, ⟨g2.env, g2.size, g2.same, g2.keep, g2.new, fun b hb ho => ?_⟩, .refl β, ⟨⟨g1.len, ?_, g1.im, ?_, ?_⟩, ?_⟩⟩
  · show (if Oc b = some (.slot l) then some l' else O b) = none
    rw [if_neg (by rw [hOc b hb]; simp)]
    exact ho
  · intro id b cells hb hcl
    obtain ⟨h1, cs, e, h2, h3, h4⟩ := g1.box id b cells hb hcl
    refine ⟨hO' _ _ h1, cs, e, h2, h3, fun j p v hp hv => ?_⟩
    obtain ⟨k1, k2, k3⟩ := h4 j p v hp hv
    exact ⟨k1, hmono k2, k3⟩
  · intro b o hb id ho
    replace ho : (if Oc b = some (.slot l) then some l' else O b) = some (.box id) := ho
    split at ho
    · simp at ho; exact hl' id ho
    · exact g1.box' b o hb id ho
  · intro b hb
    replace hb : (if Oc b = some (.slot l) then some l' else O b) ≠ none := hb
    split at hb
    · rename_i h; exact hg.lim b (by rw [h]; simp)
    · exact g1.lim b hb
  · have hs := g3 _ _ hI.slots
    refine Slots.put (a := a) ⟨hs.len, fun i p u hp hu => ⟨(hs.rep i p u hp hu).1, hmono (hs.rep i p u hp hu).2⟩⟩ (data_ext hrep hr) (fun d hd => ?_)
    refine hown.mono fun b hb => ⟨?_, rfl, fun _ h => h⟩
    show (if Oc b = some (.slot l) then some l' else O b) = some (.slot d)
    rw [if_pos hb]
    show some (match o.dst with | some d => Loc.slot d | none => .slot 0) = some (.slot d)
    rw [hd]

def isSlot : Option Loc → Bool
  | some (.slot _) => true
  | _ => false

/-- A call that may touch boxes: the caller's slots are none of its business. -/
theorem impureCall_ok (hI : Inv w Im O β st a) {o : Oper} {f : FuncId} {args : List PV} {vs : Array Value} {res : PV} {σ1 : Store} (hrun : (execOp a.eval o).run P w = .ok (.enter f vs) w)
    (hargs : RepArgs w Im β args vs) (hc : CallOk P f args st.store res σ1) (hel : EldTo st.store σ1) :
    OpOk P w Im O β a o { slots := putS (untake st.slots none) o.dst res.strip, store := if res.isData then σ1.take st.store.length else σ1 } := by
  have hg := hI.good
  let Oc0 : OwT := fun b => if isSlot (O b) then none else O b
  have hOc0 : ∀ b x, O b = some x → (∀ s, x ≠ .slot s) → Oc0 b = some x := by
    intro b x hb hx
    show (if isSlot (O b) then none else O b) = some x
    rw [hb]
    cases x <;> first | rfl | exact absurd rfl (hx _)
  have hOcn : ∀ b, Oc0 b = none ↔ (O b = none ∨ isSlot (O b) = true) := by
    intro b
    show (if isSlot (O b) then none else O b) = none ↔ _
    split
    · rename_i h; simp [h]
    · rename_i h; simp [h]
  have hOcs : ∀ b x, Oc0 b = some x → O b = some x := by
    intro b x hb
    replace hb : (if isSlot (O b) then none else O b) = some x := hb
    split at hb
    · cases hb
    · exact hb
  have hgc : Good w Im Oc0 β st.store := by
    refine ⟨hg.len, ?_, hg.im, fun b o hb id ho => hg.box' b o hb id (hOcs _ _ ho), fun b hb => hg.lim b (fun hn => hb ((hOcn b).2 (.inl hn)))⟩
    intro id b cells hb hcl
    obtain ⟨h1, cs, e, h2, h3, h4⟩ := hg.box id b cells hb hcl
    refine ⟨hOc0 _ _ h1 (by simp), cs, e, h2, h3, fun j p v hp hv => ?_⟩
    obtain ⟨k1, k2, k3⟩ := h4 j p v hp hv
    exact ⟨k1, k2.mono fun b hb => ⟨hOc0 _ _ hb (by simp), rfl, fun _ h => h⟩, k3⟩
  refine .enter hrun ?_
  refine (hc.2 w Im Oc0 β vs hgc (fun b i hb => by
    replace hb : (if isSlot (O b) then none else O b) = some (.slot i) := hb
    split at hb
    · cases hb
    · rename_i h; rw [hb] at h; simp [isSlot] at h) hargs).mono ?_
  rintro e w' ⟨v, Im', Oc, β', l, rfl, hf, hext, hg', hrep, hown⟩
  refine ⟨v, rfl, ?_⟩
  let O' : OwT := fun b => if b < w.heap.size ∧ isSlot (O b) = true then O b else if isSlot (Oc b) then none else Oc b
  have hnoc : ∀ b, b < w.heap.size → isSlot (O b) = true → Oc b = none := fun b hb hs => hf.own b hb ((hOcn b).2 (.inr hs))
  have hO1 : ∀ b x, Oc b = some x → (∀ s, x ≠ .slot s) → O' b = some x := by
    intro b x hb hx
    show (if b < w.heap.size ∧ isSlot (O b) = true then O b else if isSlot (Oc b) then none else Oc b) = some x
    rw [if_neg (fun h => by rw [hnoc b h.1 h.2] at hb; cases hb), hb]
    cases x <;> first | rfl | exact absurd rfl (hx _)
  have hO2 : ∀ b i, O b = some (.slot i) → O' b = some (.slot i) := by
    intro b i hb
    show (if b < w.heap.size ∧ isSlot (O b) = true then O b else if isSlot (Oc b) then none else Oc b) = some (.slot i)
    rw [if_pos ⟨hg.lim b (by simp [hb]), by rw [hb]; rfl⟩]
    exact hb
  have hO3 : ∀ b id, O' b = some (.box id) → Oc b = some (.box id) := by
    intro b id hb
    replace hb : (if b < w.heap.size ∧ isSlot (O b) = true then O b else if isSlot (Oc b) then none else Oc b) = some (.box id) := hb
    split at hb
    · rename_i h; rw [hb] at h; simp [isSlot] at h
    · split at hb
      · cases hb
      · exact hb
  have hlim : ∀ b, O' b ≠ none → b < w'.heap.size := by
    intro b hb
    replace hb : (if b < w.heap.size ∧ isSlot (O b) = true then O b else if isSlot (Oc b) then none else Oc b) ≠ none := hb
    split at hb
    · rename_i h; exact Nat.lt_of_lt_of_le h.1 hf.size
    · split at hb
      · exact absurd rfl hb
      · exact hg'.lim b hb
  have hgood : Good w' Im' O' β' σ1 := by
    refine ⟨hg'.len, ?_, hg'.im, fun b o hb id ho => hg'.box' b o hb id (hO3 _ _ ho), hlim⟩
    intro id b cells hb hcl
    obtain ⟨h1, cs, e, h2, h3, h4⟩ := hg'.box id b cells hb hcl
    refine ⟨hO1 _ _ h1 (by simp), cs, e, h2, h3, fun j p v hp hv => ?_⟩
    obtain ⟨k1, k2, k3⟩ := h4 j p v hp hv
    exact ⟨k1, k2.mono fun b hb => ⟨hO1 _ _ hb (by simp), rfl, fun _ h => h⟩, k3⟩
  have hfr : Fr w Im O w' Im' O' := by
    refine ⟨hf.env, hf.size, fun b hb ho => hf.same b hb ((hOcn b).2 (.inl ho)), hf.keep, fun b o hb => ?_, fun b hb ho => ?_⟩
    · rcases hf.new b o hb with h | h | h
      · exact .inl h
      · exact .inr (.inl fun ho => h ((hOcn b).2 (.inl ho)))
      · exact .inr (.inr h)
    · show (if b < w.heap.size ∧ isSlot (O b) = true then O b else if isSlot (Oc b) then none else Oc b) = none
      rw [if_neg (by rw [ho]; simp [isSlot]), hf.own b hb ((hOcn b).2 (.inl ho))]
      rfl
  have hslots : ∀ {β2 : List Nat}, (∀ id b : Nat, β[id]? = some b → β2[id]? = some b) → Slots w' Im' O' β2 st.slots a.tmps := by
    intro β2 h2
    refine ⟨hI.slots.len, fun i p u hp hu => ?_⟩
    obtain ⟨k1, k2⟩ := hI.slots.rep i p u hp hu
    refine ⟨k1.keep hf.keep h2, k2.mono fun b hb => ⟨hO2 _ _ hb, hf.same b (hg.lim b (by simp [hb])) ((hOcn b).2 (.inr (by rw [hb]; rfl))), fun o ho => ?_⟩⟩
    rcases hf.new b o ho with h | h | h
    · exact h
    · exact absurd ((hOcn b).2 (.inr (by rw [hb]; rfl))) h
    · exact absurd (hg.lim b (by simp [hb])) (by omega)
  by_cases hdata : res.isData = true
  · have hd := PV.data_of res hdata
    have htake : ∀ id, id < st.store.length → (σ1.take st.store.length)[id]? = σ1[id]? := fun id hid => by rw [List.getElem?_take, if_pos hid]
    have hβ : β'.take st.store.length = β := by
      apply List.ext_getElem?
      intro id
      rw [List.getElem?_take]
      split
      · rename_i hid
        have hid' : id < β.length := by rw [hg.len]; exact hid
        rw [List.getElem?_eq_getElem hid']
        exact hext id _ (List.getElem?_eq_getElem hid')
      · rename_i hid
        rw [List.getElem?_eq_none (by rw [hg.len]; omega)]
    refine ⟨Im', O', β, hfr, .refl β, ⟨?_, ?_⟩⟩
    · simp only [hdata, if_true]
      refine ⟨?_, ?_, hg'.im, fun b o hb id ho => hg'.box' b o hb id (hO3 _ _ ho), hlim⟩
      · have h1 := hg'.len
        have h2 : (β'.take st.store.length).length = β.length := by rw [hβ]
        simp at h2 ⊢
        rw [← h1]
        omega
      · intro id b cells hb hcl
        have hid : id < st.store.length := by rw [← hg.len]; exact (List.getElem?_eq_some_iff.1 hb).1
        rw [htake id hid] at hcl
        obtain ⟨h1, cs, e, h2, h3, h4⟩ := hgood.box id b cells (hext id b hb) hcl
        refine ⟨h1, cs, e, h2, h3, fun j p v hp hv => ?_⟩
        obtain ⟨k1, k2, k3⟩ := h4 j p v hp hv
        refine ⟨?_, k2, k3⟩
        have := k1.cut (n := st.store.length) (hel.2 _ (Nat.le_refl _) hg.eld id cells hid hcl p (List.mem_of_getElem? hp))
        rwa [hβ] at this
    · exact Slots.put (a := a) (hslots (fun _ _ h => h)) (data_ext hrep hd).strip (fun d _ => .of_not (strip_not_os _))
  · refine ⟨Im', O', β', hfr, hext, ⟨?_, ?_⟩⟩
    · simp only [hdata, if_false, Bool.false_eq_true]
      exact hgood
    · exact Slots.put (a := a) (hslots hext) hrep.strip (fun d _ => .of_not (strip_not_os _))

theorem callIt_ok {E : Env} {F : FnEv} (hF : FnOk E.P F) (hov : OvOk E) (hI : Inv w Im O β st a) {o : Oper} {f : FuncId} {args : List PV} {vs : Array Value} {r : PV × Store}
    (hrun : Callable E.P f → (execOp a.eval o).run E.P w = .ok (.enter f vs) w) (hargs : RepArgs w Im β args vs) (h : callIt E F f args st.store = some r) :
    OpOk E.P w Im O β a o { slots := putS (untake st.slots none) o.dst r.1, store := r.2 } := by
  unfold callIt at h
  cases hx : E.ext E.loose f with
  | some g =>
    simp only [hx] at h
    cases hr : g args st.store with
    | none => simp [hr] at h
    | some res =>
      simp only [hr, Option.map_some, Option.some.injEq] at h
      subst h
      obtain ⟨hc, hel⟩ := hov.2 _ f g hx args st.store res hr
      exact impureCall_ok hI (hrun hc.1) hargs hc hel
  | none =>
  simp only [hx] at h
  cases hg : E.ov f with
  | some g =>
    simp only [hg] at h
    split at h
    · rename_i hd
      cases hr : g args with
      | none => simp [hr] at h
      | some res =>
        simp only [hr, Option.bind_some] at h
        split at h
        · rename_i hrd
          cases h
          have hc := hov.1 f g hg args res hr hd hrd
          exact pureCall_ok hI (hrun hc.1) hargs (dataL_of args hd) (PV.data_of res hrd) hc
        · cases h
    · cases h
  | none =>
    simp only [hg] at h
    split at h
    · split at h
      · rename_i hd
        cases hr : F f args [] with
        | none => simp [hr] at h
        | some res =>
          simp only [hr, Option.bind_some] at h
          split at h
          · rename_i hrd
            cases h
            have hc := hF f args [] res.1 res.2 hr
            exact pureCall_ok hI (hrun hc.1.1) hargs (dataL_of args hd) (PV.data_of res.1 hrd) hc.1
          · cases hz : frzP res.2 (res.2.length + 1) res.1 with
            | none => simp [hz] at h
            | some q =>
              simp [hz] at h
              subst h
              have hc := hF f args [] res.1 res.2 hr
              exact pureFrz_ok hI (hrun hc.1.1) hargs (dataL_of args hd) hz hc.1
      · cases h
    · split at h
      · cases hr : F f args st.store with
        | none => simp [hr] at h
        | some res =>
          simp only [hr, Option.bind_some] at h
          have hc := hF f args st.store res.1 res.2 hr
          have := impureCall_ok hI (hrun hc.1.1) hargs hc.1 hc.2
          split at h
          · rename_i hd
            cases h
            simp only [hd.1, if_true] at this
            rw [hd.2] at this
            exact this
          · cases h
      cases hr : F f args st.store with
      | none => simp [hr] at h
      | some res =>
        simp only [hr, Option.bind_some] at h
        have hc := hF f args st.store res.1 res.2 hr
        have := impureCall_ok hI (hrun hc.1.1) hargs hc.1 hc.2
        split at h
        · rename_i hd
          cases h
          simpa only [hd, if_true] using this
        · rename_i hd
          cases h
          simpa only [hd, if_false, Bool.false_eq_true] using this

theorem useL_args {ρ : Nat → PV} (h : Reps w Im β ρ a) {xs : List Operand} {ps : List PV} (hu : useL ρ xs = some ps) : RepArgs w Im β ps (xs.map a.eval).toArray := by
  obtain ⟨h1, h2⟩ := useL_rep h hu
  exact ⟨by simp [h1], fun i p v hp hv => h2 i p v hp (by simpa using hv)⟩

theorem RepArgs.append {l l' : List PV} {us us' : Array Value} (h : RepArgs w Im β l us) (h' : RepArgs w Im β l' us') : RepArgs w Im β (l ++ l') (us ++ us') := by
  refine ⟨by simp [h.1, h'.1], fun i p v hp hv => ?_⟩
  by_cases hi : i < l.length
  · rw [List.getElem?_append_left hi] at hp
    rw [Array.getElem?_append_left (by rw [← h.1]; exact hi)] at hv
    exact h.2 i p v hp hv
  · rw [List.getElem?_append_right (by omega)] at hp
    rw [Array.getElem?_append_right (by rw [← h.1]; omega), ← h.1] at hv
    exact h'.2 _ p v hp hv

theorem toVL_rep {ρ : Nat → PV} : ∀ {ps : List PV} {vs : List Value} {us : List Value}, toVL ps = some us → ps.length = vs.length → (∀ (i : Nat) (p : PV) (v : Value), ps[i]? = some p → vs[i]? = some v → RepP w Im β p v) → us = vs
  | [], vs, us, h, hl, _ => by
    simp [toVL] at h
    subst h
    cases vs with
    | nil => rfl
    | cons v vs => simp at hl
  | p :: ps, [], us, h, hl, _ => by simp at hl
  | p :: ps, v :: vs, us, h, hl, hr => by
    cases hp : toV p with
    | none => simp [toVL, hp] at h
    | some u =>
      cases ht : toVL ps with
      | none => simp [toVL, hp, ht] at h
      | some us' =>
        simp [toVL, hp, ht] at h
        subst h
        have h1 := toV_rep (hr 0 p v (by simp) (by simp)) hp
        have h2 := toVL_rep (ρ := ρ) ht (by simpa using hl) (fun i p v hp hv => hr (i + 1) p v (by simpa using hp) (by simpa using hv))
        rw [h1, h2]

theorem flatD_get {sz : Nat} : ∀ {rows : List (List DV)}, rowsOk sz rows = true → (flatD rows).length = rows.length * sz ∧ ∀ (k : Nat) (q : PV), (flatD rows)[k]? = some q → ∃ i j r d, rows[i]? = some r ∧ r[j]? = some d ∧ k = i * sz + j ∧ q = .d d
  | [], _ => ⟨by simp [flatD], by simp [flatD]⟩
  | r :: rs, h => by
    simp only [rowsOk, List.all_cons, Bool.and_eq_true] at h
    obtain ⟨h1, h2⟩ := h
    have hr : r.length = sz := by simpa using h1
    obtain ⟨g1, g2⟩ := flatD_get (rows := rs) h2
    refine ⟨by simp [flatD, g1, hr, Nat.add_mul]; omega, fun k q hq => ?_⟩
    simp only [flatD] at hq
    by_cases hk : k < r.length
    · rw [List.getElem?_append_left (by simpa using hk), List.getElem?_map] at hq
      cases hd : r[k]? with
      | none => simp [hd] at hq
      | some d => simp [hd] at hq; exact ⟨0, k, r, d, by simp, hd, by simp, hq.symm⟩
    · rw [List.getElem?_append_right (by simpa using hk)] at hq
      simp only [List.length_map] at hq
      obtain ⟨i, j, r', d, e1, e2, e3, e4⟩ := g2 _ q hq
      exact ⟨i + 1, j, r', d, by simpa using e1, e2, by rw [Nat.add_mul]; omega, e4⟩

theorem rowsOk_take {sz n : Nat} {rows : List (List DV)} (h : rowsOk sz rows = true) : rowsOk sz (rows.take n) = true := by
  unfold rowsOk at h ⊢
  rw [List.all_eq_true] at h ⊢
  exact fun x hx => h x (List.mem_of_mem_take hx)

theorem storeS_spec {σ σ' : Store} {id off : Nat} {vs : List PV} (h : storeS σ id off vs = some σ') : ∃ cells, σ[id]? = some cells ∧ off + vs.length ≤ cells.length ∧ σ' = σ.set id (cells.take off ++ vs ++ cells.drop (off + vs.length)) := by
  unfold storeS at h
  cases hc : σ[id]? with
  | none => simp [hc] at h
  | some cells =>
    simp only [hc, Option.bind_some] at h
    split at h
    · rename_i hl; cases h; exact ⟨cells, rfl, hl, rfl⟩
    · cases h

/-- Cells written where a slice that was made begins. -/
theorem putMs_ok {P : Program} (hI : Inv w Im O β st a) {id off len sz : Nat} {v : Value} (hp : RepP w Im β (.ms id off len sz) v) {cs : List PV} {σ' : Store} (hs : storeS st.store id off cs = some σ') {news : List Value}
    (hlen : news.length = cs.length) (hle : cs.length ≠ 0 → len ≠ 0) (hrep : ∀ (i : Nat) (q : PV) (u : Value), cs[i]? = some q → news[i]? = some u → RepP w Im β q u) (hno : ∀ q ∈ cs, ∀ rows, q ≠ .os rows) (hone : ∀ u ∈ news, u.oneCell' = true) :
    ∃ x c w', v = .slice (some x) len c ∧ (storeCells x news).run P w = .ok () w' ∧ Fr w Im O w' Im O ∧ Inv w' Im O β ⟨st.slots, σ'⟩ a := by
  obtain ⟨cells, hc, hfit, rfl⟩ := storeS_spec hs
  cases hp with
  | ms _ _ _ _ b c x hb hcap hx =>
    obtain ⟨w', h1, h2, h3⟩ := putCells_ok (P := P) hI hb hc hfit hlen hrep hno hone
    refine ⟨x, c, w', rfl, ?_, h2, h3⟩
    by_cases h0 : cs.length = 0
    · have : news = [] := List.eq_nil_of_length_eq_zero (by omega)
      subst this
      exact h1
    · rw [hx (hle h0)]
      exact h1

theorem OpOk.putV {o : Oper} {P : Program} {w' : World} {slots : List PV} {σ' : Store} {r : PV} {v : Value} (hrun : (execOp a.eval o).run P w = .ok (.value v) w') (hf : Fr w Im O w' Im O) (hi : Inv w' Im O β ⟨slots, σ'⟩ a)
    (hr : RepP w' Im β r v) (hno : ∀ rows, r ≠ .os rows) : OpOk P w Im O β a o { slots := putS slots o.dst r, store := σ' } :=
  .value hrun hf (.refl β) ⟨hi.good, hi.slots.put hr (fun d _ => .of_not hno)⟩

theorem copy_ok {P : Program} (hI : Inv w Im O β st a) {o : Oper} {argTypes : Array TypeId} {lo : Bool} {t t' : TypeId} {x y : Operand} {p q : PV} {r : PV × Store} (hx : use (rd st.slots) x = some p) (hy : use (rd st.slots) y = some q)
    (ho : o.op = .call ⟨.builtin .copy, #[x, y], argTypes⟩) (ht : argTypes = #[t, t']) (h : evCopy P lo t st.store p q = some r) : OpOk P w Im O β a o { slots := putS (untake st.slots none) o.dst r.1, store := r.2 } := by
  have hp := use_rep hI.reps hx
  have hq := use_rep hI.reps hy
  unfold evCopy at h
  split at h
  · rename_i e id off len sz rows hu
    split at h
    · rename_i hcond
      obtain ⟨hsz, hok⟩ := hcond
      cases hs : storeS st.store id off (flatD (rows.take (min rows.length len))) with
      | none => simp [hs] at h
      | some σ' =>
        simp [hs] at h
        subst h
        have hD := hq.slice_inv
        obtain ⟨y0, cap, hv, hcap⟩ := hD.slice_form
        rw [hv] at hD
        obtain ⟨-, -, hnil, news, n1, n2, n3, n4, n5, n6⟩ := rows_values hD hok
        generalize hn : min rows.length len = n at hs ⊢
        have hn1 : n ≤ rows.length := by omega
        have hn2 : n ≤ len := by omega
        have hok' := rowsOk_take (n := n) hok
        obtain ⟨f1, f2⟩ := flatD_get hok'
        rw [List.length_take, Nat.min_eq_left hn1] at f1
        have hmul : n * sz ≤ rows.length * sz := Nat.mul_le_mul_right _ hn1
        have hsr := szT_run hsz w
        obtain ⟨xa, c, w', e1, e2, e3, e4⟩ := putMs_ok (P := P) hI hp hs (news := news.take (n * sz)) (by rw [f1, List.length_take]; omega) (by intro hne; rw [f1] at hne; intro h0; apply hne; rw [show n = 0 by omega]; simp)
          (fun i q u hq hu => by
            obtain ⟨i', j, r, d, k1, k2, k3, k4⟩ := f2 i q hq
            subst k4
            rw [List.getElem?_take] at k1
            split at k1
            · obtain ⟨u', m1, m2⟩ := n5 i' j r d k1 k2
              rw [List.getElem?_take] at hu
              split at hu
              · rw [k3, m1] at hu
                cases hu
                exact .d m2
              · cases hu
            · cases k1)
          (fun q hq => by
            obtain ⟨k, hk⟩ := List.mem_iff_getElem?.1 hq
            obtain ⟨_, _, _, d, _, _, _, rfl⟩ := f2 k q hk
            simp)
          (fun u hu => n6 u (List.mem_of_mem_take hu))
        have hfc : (Builtin.firstCells sz n (.slice y0 rows.length cap)).run P w = .ok (news.take (n * sz)).toArray w := by
          cases y0 with
          | none =>
            obtain ⟨h1, _⟩ := hnil rfl
            have : news = [] := List.eq_nil_of_length_eq_zero (by rw [n1, h1]; simp)
            subst this
            simp [Builtin.firstCells]
          | some ya =>
            simp only [Builtin.firstCells]
            have := run_loadCells w ya (n * sz) (fun j => news.getD j default) (P := P) (fun j hj => by
              have hj' : j < news.length := by omega
              have := n2 ya rfl j news[j] (List.getElem?_eq_getElem hj')
              rw [this]
              simp [List.getD, hj'])
            rw [this]
            congr 2
            apply List.ext_getElem?
            intro j
            by_cases hj : j < n * sz
            · have hj' : j < news.length := by omega
              simp [hj, List.getD, hj']
            · rw [List.getElem?_eq_none (by simp; omega), List.getElem?_eq_none (by simp; omega)]
        refine .putV (v := .int .i64 (n : Nat)) ?_ e3 e4 (.d (.int _ _)) (by simp)
        subst ht
        have hgo : Nat.min rows.length len = n := hn
        simp [execOp, ho, resolve, invoke, builtin, Builtin.copy_, e1, hv, run_underlying hu, Builtin.lenOf, hsr, hgo, hfc, e2, goInt]
    · cases h
  · rename_i e id off len sz id' off' len' sz' hu
    split at h
    · rename_i hcond
      obtain ⟨hsz, rfl⟩ := hcond
      cases hl : loadS st.store id' off' (min len' len * sz') with
      | none => simp [hl] at h
      | some cs =>
        simp only [hl, Option.bind_some] at h
        split at h
        · rename_i hcond2
          cases hs : storeS st.store id off (cs.map PV.strip1) with
          | none => simp [hs] at h
          | some σ' =>
            simp [hs] at h
            subst h
            obtain ⟨cells, hc, hfit, hcs⟩ := loadS_get hl
            generalize hn : min len' len = n at hs hl hfit hcs ⊢
            generalize hvq : a.eval y = vq at hq
            cases hq with
            | ms _ _ _ _ b' c' x' hb' hcap' hx' =>
              obtain ⟨g1, cs0, e0, g2, g3, g4⟩ := hI.good.box id' b' cells hb' hc
              have hlen0 : cs.length = n * sz' := by rw [hcs]; simp; omega
              have hsr := szT_run hsz w
              have hcell : ∀ j, j < n * sz' → ∃ p u, cs[j]? = some p ∧ cs0[off' + j]? = some u ∧ w.cell? ⟨b', off' + j, none⟩ = some u ∧ RepP w Im β p u := by
                intro j hj
                have h1 : off' + j < cells.length := by omega
                have h2 : off' + j < cs0.size := by omega
                refine ⟨cells[off' + j], cs0[off' + j], ?_, Array.getElem?_eq_getElem h2, by simp [World.cell?, g2, h2], (g4 _ _ _ (List.getElem?_eq_getElem h1) (Array.getElem?_eq_getElem h2)).1⟩
                rw [hcs, List.getElem?_take, if_pos hj, List.getElem?_drop]
                exact List.getElem?_eq_getElem h1
              obtain ⟨xa, c, w', e1, e2, e3, e4⟩ := putMs_ok (P := P) hI hp hs (news := (List.range (n * sz')).map fun j => cs0.getD (off' + j) default) (by simp [hlen0]) (by intro hne; intro h0; apply hne; rw [List.length_map, hlen0, show n = 0 by omega]; simp)
                (fun i q u hq hu => by
                  rw [List.getElem?_map] at hq
                  cases hci : cs[i]? with
                  | none => simp [hci] at hq
                  | some p0 =>
                    simp [hci] at hq
                    subst hq
                    have hi : i < n * sz' := by rw [← hlen0]; exact (List.getElem?_eq_some_iff.1 hci).1
                    obtain ⟨p1, u1, k1, k2, k3, k4⟩ := hcell i hi
                    rw [hci] at k1
                    cases k1
                    rw [List.getElem?_map, List.getElem?_range hi] at hu
                    simp [Array.getD_eq_getD_getElem?, k2] at hu
                    subst hu
                    exact k4.strip1)
                (fun q hq => by obtain ⟨q', _, rfl⟩ := List.mem_map.1 hq; exact strip1_not_os q')
                (fun u hu => by
                  obtain ⟨j, hj, rfl⟩ := List.mem_map.1 hu
                  have hj' := List.mem_range.1 hj
                  obtain ⟨p1, u1, k1, k2, k3, k4⟩ := hcell j hj'
                  rw [Array.getD_eq_getD_getElem?, k2]
                  exact oneP_cell k4.strip1 (List.all_eq_true.1 hcond2.2 _ (List.mem_map.2 ⟨p1, List.mem_of_getElem? k1, rfl⟩)))
              have hfc : (Builtin.firstCells sz' n (.slice (some x') len' c')).run P w = .ok ((List.range (n * sz')).map fun j => cs0.getD (off' + j) default).toArray w := by
                simp only [Builtin.firstCells]
                by_cases h0 : n * sz' = 0
                · rw [h0]; rfl
                · have hl0 : len' ≠ 0 := by intro h1; apply h0; rw [show n = 0 by omega]; simp
                  rw [hx' hl0]
                  exact loadCells_run (x := ⟨b', off', none⟩) rfl (n * sz') _ (fun j hj => by
                    obtain ⟨p1, u1, k1, k2, k3, k4⟩ := hcell j hj
                    rw [Array.getD_eq_getD_getElem?, k2]
                    exact k3)
              generalize ((List.range (n * sz')).map fun j => cs0.getD (off' + j) default) = news at e2 hfc
              refine .putV (v := .int .i64 (n : Nat)) ?_ e3 e4 (.d (.int _ _)) (by simp)
              subst ht
              have hgo : Nat.min len' len = n := hn
              simp [execOp, ho, resolve, invoke, builtin, Builtin.copy_, e1, hvq, run_underlying hu, Builtin.lenOf, hsr, hgo, hfc, e2, goInt]
        · cases h
    · cases h
  · cases h

theorem repCells_len (z : List PV) : ∀ n, (repCells n z).length = n * z.length
  | 0 => by simp [repCells]
  | n + 1 => by rw [repCells, List.length_append, repCells_len z n, Nat.add_mul]; omega

theorem repCells_get (z : List PV) : ∀ (n j : Nat), j < n * z.length → (repCells n z)[j]? = z[j % z.length]?
  | 0, j, h => by simp at h
  | n + 1, j, h => by
    rw [repCells]
    by_cases hj : j < z.length
    · rw [List.getElem?_append_left hj, Nat.mod_eq_of_lt hj]
    · rw [List.getElem?_append_right (by omega), repCells_get z n (j - z.length) (by rw [Nat.add_mul] at h; omega)]
      congr 1
      rw [Nat.mod_eq_sub_mod (by omega : j ≥ z.length)]

theorem repCells_mem {z : List PV} {p : PV} : ∀ {n : Nat}, p ∈ repCells n z → p ∈ z
  | 0, h => by simp [repCells] at h
  | n + 1, h => by
    rw [repCells] at h
    rcases List.mem_append.1 h with h | h
    · exact h
    · exact repCells_mem h

theorem oneP_not_os_cells {v : Value} {z : PV} (h : ofValue v = some z) : ∀ q ∈ cellsOf z, ∀ rows, q ≠ .os rows := by
  unfold ofValue at h
  split at h
  · rename_i cs
    cases hm : cs.toList.mapM ofCell with
    | none => simp [hm] at h
    | some ps =>
      simp [hm] at h
      subst h
      intro q hq
      obtain ⟨i, hi⟩ := List.mem_iff_getElem?.1 hq
      obtain ⟨h1, h2⟩ := mapM_get hm
      have hil : i < cs.toList.length := by rw [h1]; exact (List.getElem?_eq_some_iff.1 hi).1
      obtain ⟨y, hy, hf⟩ := h2 i _ (List.getElem?_eq_getElem hil)
      simp only [cellsOf] at hi
      rw [hi] at hy
      cases hy
      exact (ofCell_rep (w := default) (Im := fun _ _ => False) (β := []) hf).2
  · have hp : cellsOf z = [z] := by
      unfold ofCell at h
      split at h <;> simp at h <;> subst h <;> rfl
    intro q hq
    rw [hp] at hq
    simp at hq
    subst hq
    exact (ofCell_rep (w := default) (Im := fun _ _ => False) (β := []) h).2

theorem clear_ok {P : Program} (hI : Inv w Im O β st a) {o : Oper} {argTypes : Array TypeId} {t : TypeId} {x : Operand} {p : PV} {r : PV × Store} (hx : use (rd st.slots) x = some p)
    (ho : o.op = .call ⟨.builtin .clear, #[x], argTypes⟩) (ht : argTypes = #[t]) (h : evClear P t st.store p = some r) : OpOk P w Im O β a o { slots := putS (untake st.slots none) o.dst r.1, store := r.2 } := by
  have hp := use_rep hI.reps hx
  unfold evClear at h
  split at h
  · rename_i e id off len sz hu
    cases hz : zeroT P e with
    | none => simp [hz] at h
    | some z =>
      simp only [hz, Option.bind_some] at h
      split at h
      · rename_i hcond
        obtain ⟨hzl, hsz, hone⟩ := hcond
        cases hs : storeS st.store id off (repCells len (cellsOf z)) with
        | none => simp [hs] at h
        | some σ' =>
          simp [hs] at h
          subst h
          obtain ⟨zv, h1, h2⟩ := zeroT_run hz w
          obtain ⟨g1, g2⟩ := cellsOf_rep (w := w) (Im := Im) (β := β) (ofValue_rep h2).1
          have hnos := oneP_not_os_cells h2
          have hzs : zv.cells.size = sz := by rw [← g1, hzl]
          have hget : ∀ j, j < len * sz → ∃ q u, (repCells len (cellsOf z))[j]? = some q ∧ (Builtin.zeroCells zv.cells len).toList[j]? = some u ∧ RepP w Im β q u ∧ q ∈ cellsOf z := by
            intro j hj
            have hsz0 : 0 < sz := by rcases Nat.eq_zero_or_pos sz with h0 | h0; · rw [h0] at hj; simp at hj
                                     · exact h0
            have hm : j % sz < sz := Nat.mod_lt _ hsz0
            have e1 : (cellsOf z)[j % sz]? = some (cellsOf z)[j % sz] := List.getElem?_eq_getElem (by omega)
            have e2 : zv.cells[j % sz]? = some zv.cells[j % sz] := Array.getElem?_eq_getElem (by omega)
            refine ⟨_, zv.cells[j % sz], ?_, ?_, g2 _ _ _ e1 e2, List.getElem_mem _⟩
            · have := repCells_get (cellsOf z) len j (by rw [hzl]; exact hj)
              rw [hzl] at this
              exact this.trans e1
            · unfold Builtin.zeroCells
              simp [hzs, hj, getElem!_pos zv.cells (j % sz) (by omega)]
          obtain ⟨xa, c, w', e1, e2, e3, e4⟩ := putMs_ok (P := P) hI hp hs (news := (Builtin.zeroCells zv.cells len).toList) (by rw [repCells_len, hzl]; simp [Builtin.zeroCells, hzs]) (by rw [repCells_len]; intro hne h0; apply hne; simp [h0])
            (fun i q u hq hu => by
              have hi : i < len * sz := by rw [← hzl, ← repCells_len]; exact (List.getElem?_eq_some_iff.1 hq).1
              obtain ⟨q', u', k1, k2, k3, _⟩ := hget i hi
              rw [k1] at hq; cases hq
              rw [k2] at hu; cases hu
              exact k3)
            (fun q hq => hnos q (repCells_mem hq))
            (fun u hu => by
              obtain ⟨i, hi⟩ := List.mem_iff_getElem?.1 hu
              have hi' : i < len * sz := by have := (List.getElem?_eq_some_iff.1 hi).1; simpa [Builtin.zeroCells, hzs] using this
              obtain ⟨q', u', k1, k2, k3, k4⟩ := hget i hi'
              rw [k2] at hi; cases hi
              exact oneP_cell k3 (List.all_eq_true.1 hone _ k4))
          refine .putV (v := .tuple #[]) ?_ e3 e4 (.tup [] #[] rfl (by simp)) (by simp)
          subst ht
          cases len with
          | zero =>
            have hnil : (Builtin.zeroCells zv.cells 0).toList = [] := by simp [Builtin.zeroCells]
            rw [hnil] at e2
            simp [execOp, ho, resolve, invoke, builtin, Builtin.clear_, e1, run_underlying hu]
            simpa [storeCells] using e2
          | succ n => simp [execOp, ho, resolve, invoke, builtin, Builtin.clear_, e1, run_underlying hu, h1, e2]
      · cases h
  · cases h

/-- A call, of whatever. -/
theorem call_ok {E : Env} {F : FnEv} (hF : FnOk E.P F) (hov : OvOk E) (hI : Inv w Im O β st a) {o : Oper} {c : Call} {g : Gives} (ho : o.op = .call c)
    (h : evCall E F (rd st.slots) st.store c = some g) : OpOk E.P w Im O β a o { slots := putS (untake st.slots g.2.1) o.dst g.1, store := g.2.2 } := by
  obtain ⟨callee, args, argTypes⟩ := c
  have minmax : ∀ (isMax : Bool) (hb : callee = .builtin (if isMax then .max else .min)) (ps : List PV) (r : PV), useL (rd st.slots) args.toList = some ps → evMinMax E.P isMax ps = some r →
      OpOk E.P w Im O β a o { slots := putS (untake st.slots none) o.dst r, store := st.store } := by
    intro isMax hb ps r hps hr
    unfold evMinMax at hr
    cases hv : toVL ps with
    | none => simp [hv] at hr
    | some us =>
      simp only [hv, Option.bind_some] at hr
      cases hp : pureRun E.P (if isMax then Builtin.max_ #[] 0 us.toArray else Builtin.min_ #[] 0 us.toArray) with
      | none => simp [hp] at hr
      | some u =>
        simp only [hp, Option.bind_some] at hr
        obtain ⟨u1, u2⟩ := useL_rep hI.reps hps
        have hus := toVL_rep (ρ := rd st.slots) hv (vs := args.toList.map a.eval) (by simp [u1]) (fun i p v hp hv => (u2 i p v hp hv).1)
        obtain ⟨s1, s2⟩ := ofScalar_rep (w := w) (Im := Im) (β := β) hr
        have hrun := pureRun_run _ _ hp w
        refine .value (v := u) (Im' := Im) (O' := O) (β' := β) ?_ (.refl _ _ _) (.refl β) ⟨hI.good, hI.slots.put s1 (fun d _ => .of_not s2)⟩
        have hargs : us.toArray = args.map a.eval := by rw [hus]; apply Array.ext'; simp
        rw [hargs] at hrun
        subst hb
        cases isMax with
        | true =>
          simp only [if_true] at hrun
          have : (Builtin.max_ argTypes o.type (args.map a.eval)).run E.P w = .ok u w := hrun
          simp [execOp, ho, resolve, invoke, builtin, this]
        | false =>
          simp only [Bool.false_eq_true, if_false] at hrun
          have : (Builtin.min_ argTypes o.type (args.map a.eval)).run E.P w = .ok u w := hrun
          simp [execOp, ho, resolve, invoke, builtin, this]
  unfold evCall at h
  simp only at h
  split at h
  · -- append
    split at h
    · rename_i tS tX s x htys hargs
      split at h
      · rename_i htt
        subst htt
        cases hs : opv (rd st.slots) s with
        | none => simp [hs] at h
        | some sv =>
          cases hx : use (rd st.slots) x with
          | none => simp [hs, hx] at h
          | some xv =>
            simp only [hs, hx, Option.bind_some] at h
            cases hr : evAppend E.P tS sv xv with
            | none => simp [hr] at h
            | some r =>
              simp [hr] at h
              subst h
              have htys' : argTypes = #[tS, tS] := by apply Array.ext'; simpa using htys
              have hargs' : args = #[s, x] := by apply Array.ext'; simpa using hargs
              let l : Loc := match o.dst with | some d => .slot d | none => .slot 0
              have hl1 : ∀ id, l ≠ .box id := by intro id; show (match o.dst with | some d => Loc.slot d | none => .slot 0) ≠ .box id; cases o.dst <;> simp
              have hl2 : ∀ id j, l ≠ .cell id j := by intro id j; show (match o.dst with | some d => Loc.slot d | none => .slot 0) ≠ .cell id j; cases o.dst <;> simp
              obtain ⟨v, w', Im', O', h1, h2, h3, h4, h5, h6⟩ := append_core hI hs hx hr o.type l hl1 hl2
              refine .value (v := v) (by simp [execOp, ho, resolve, invoke, builtin, htys', hargs', h1]) h2 (.refl β) ⟨h3, h4.put h5 (fun d hd => ?_)⟩
              have : l = .slot d := by show (match o.dst with | some d => Loc.slot d | none => .slot 0) = .slot d; rw [hd]
              rw [← this]
              exact h6
      · cases h
    · cases h
  · -- len
    split at h
    · rename_i t x htys hargs
      cases hx : use (rd st.slots) x with
      | none => simp [hx] at h
      | some p =>
        simp only [hx, Option.bind_some] at h
        cases hr : evLen E.P t p with
        | none => simp [hr] at h
        | some r =>
          simp [hr] at h
          subst h
          have htys' : argTypes = #[t] := by apply Array.ext'; simpa using htys
          have hargs' : args = #[x] := by apply Array.ext'; simpa using hargs
          have hp := use_rep hI.reps hx
          have key : ∃ u, (Builtin.len_ #[t] o.type #[a.eval x]).run E.P w = .ok u w ∧ RepP w Im β r u ∧ ∀ rows, r ≠ .os rows := by
            unfold evLen at hr
            split at hr
            · rename_i s hu
              cases hr
              rw [hp.str_inv]
              exact ⟨_, by simp [Builtin.len_, run_underlying hu, goInt], .d (.int _ _), by simp⟩
            · rename_i e rows hu
              cases hr
              obtain ⟨y, c, hv, _⟩ := hp.slice_inv.slice_form
              rw [hv]
              exact ⟨_, by simp [Builtin.len_, run_underlying hu, goInt], .d (.int _ _), by simp⟩
            · rename_i e id off len sz hu
              cases hr
              generalize hv : a.eval x = v at hp
              cases hp with
              | ms _ _ _ _ b c y hb hcap hy => exact ⟨_, by simp [Builtin.len_, run_underlying hu, goInt], .d (.int _ _), by simp⟩
            · rename_i n e hu hx2
              cases hr
              exact ⟨_, by simp [Builtin.len_, run_underlying hx2, goInt], .d (.int _ _), by simp⟩
            · cases hr
          obtain ⟨u, h1, h2, h3⟩ := key
          exact .value (v := u) (Im' := Im) (O' := O) (β' := β) (by simp [execOp, ho, resolve, invoke, builtin, htys', hargs', h1]) (.refl _ _ _) (.refl β) ⟨hI.good, hI.slots.put h2 (fun d _ => .of_not h3)⟩
    · cases h
  · -- copy
    split at h
    · rename_i t t' x y htys hargs
      cases hx : use (rd st.slots) x with
      | none => simp [hx] at h
      | some p =>
        cases hy : use (rd st.slots) y with
        | none => simp [hx, hy] at h
        | some q =>
          simp only [hx, hy, Option.bind_some] at h
          cases hr : evCopy E.P E.loose t st.store p q with
          | none => simp [hr] at h
          | some r =>
            simp [hr] at h
            subst h
            have htys' : argTypes = #[t, t'] := by apply Array.ext'; simpa using htys
            have hargs' : args = #[x, y] := by apply Array.ext'; simpa using hargs
            subst hargs'
            exact copy_ok hI hx hy ho htys' hr
    · cases h
  · -- clear
    split at h
    · rename_i t x htys hargs
      cases hx : use (rd st.slots) x with
      | none => simp [hx] at h
      | some p =>
        simp only [hx, Option.bind_some] at h
        cases hr : evClear E.P t st.store p with
        | none => simp [hr] at h
        | some r =>
          simp [hr] at h
          subst h
          have htys' : argTypes = #[t] := by apply Array.ext'; simpa using htys
          have hargs' : args = #[x] := by apply Array.ext'; simpa using hargs
          subst hargs'
          exact clear_ok hI hx ho htys' hr
    · cases h
  · -- min
    cases hps : useL (rd st.slots) args.toList with
    | none => simp [hps] at h
    | some ps =>
      simp only [hps, Option.bind_some] at h
      cases hr : evMinMax E.P false ps with
      | none => simp [hr] at h
      | some r => simp [hr] at h; subst h; exact minmax false rfl ps r hps hr
  · -- max
    cases hps : useL (rd st.slots) args.toList with
    | none => simp [hps] at h
    | some ps =>
      simp only [hps, Option.bind_some] at h
      cases hr : evMinMax E.P true ps with
      | none => simp [hr] at h
      | some r => simp [hr] at h; subst h; exact minmax true rfl ps r hps hr
  · cases h
  · cases h
  · -- a function
    rename_i f
    cases hfv : use (rd st.slots) f with
    | none => simp [hfv] at h
    | some fv =>
      cases hps : useL (rd st.slots) args.toList with
      | none => simp [hfv, hps] at h
      | some ps =>
        simp only [hfv, hps, Option.bind_some] at h
        split at h
        · rename_i g' first captured
          cases hr : callIt E F g' (first.map PV.strip ++ ps ++ captured.map PV.strip) st.store with
          | none => rw [hr] at h; cases h
          | some r =>
            rw [hr] at h
            cases h
            have hf := use_rep hI.reps hfv
            generalize hfe : a.eval f = fe at hf
            cases hf with
            | func _ _ _ vf vc hlf hlc h1 h2 =>
              have ha := useL_args hI.reps hps
              have hst : ∀ {l : List PV} {us : Array Value}, l.length = us.size → (∀ (i : Nat) (p : PV) (v : Value), l[i]? = some p → us[i]? = some v → RepP w Im β p v) →
                  RepArgs w Im β (l.map PV.strip) us := fun {l us} hl hh => ⟨by simpa using hl, fun i p v hp hv => by
                rw [List.getElem?_map] at hp
                cases hq : l[i]? with
                | none => simp [hq] at hp
                | some q => simp [hq] at hp; subst hp; exact ⟨(hh i q v hq hv).strip, strip_not_os q⟩⟩
              have ha' : RepArgs w Im β ps (args.map a.eval) := by
                have : (args.toList.map a.eval).toArray = args.map a.eval := by apply Array.ext'; simp
                rwa [this] at ha
              have hargs := ((hst hlf h1).append ha').append (hst hlc h2)
              refine callIt_ok hF hov hI (vs := vf ++ args.map a.eval ++ vc) (fun hcall => ?_) hargs hr
              obtain ⟨fn, q1, q2, q3⟩ := hcall
              obtain ⟨cb, hcb⟩ := Option.isSome_iff_exists.1 q2
              simp [execOp, ho, resolve, invoke, hfe, Deferred.ofValue, callFunc, q1, hcb, q3]
        · cases h

end step
end Go.Pv

set_option linter.unusedVariables false
set_option linter.unusedSimpArgs false
namespace Go.Pv
open Go

section step
variable {P : Program} {w : World} {Im : ImT} {O : OwT} {β : List Nat} {st : St} {a : Act}

/-- A new box, in any world with new blocks alone. -/
theorem newBox_w (hI : Inv w Im O β st a) {o : Oper} {cells : List PV} {cs0 : Array Value} {t : TypeId} {r : PV} {u : Value} {w' : World} (hnw : NewW w w') (hobj : w'.heap[w.heap.size]? = some (.cells cs0 t (0, 0)))
    (hrun : (execOp a.eval o).run P w = .ok (.value u) w')
    (hr : RepP w' Im (β ++ [w.heap.size]) r u) (hro : ∀ rows, r ≠ .os rows)
    (hcl : cells.length ≤ cs0.size) (hc : ∀ (j : Nat) (p : PV) (v : Value), cells[j]? = some p → cs0[j]? = some v → RepP w Im β p v) (hno : ∀ p ∈ cells, ∀ rows, p ≠ .os rows) :
    OpOk P w Im O β a o { slots := putS (untake st.slots none) o.dst r, store := st.store ++ [cells] } := by
  have hsz : w.heap.size < w'.heap.size := (Array.getElem?_eq_some_iff.1 hobj).1
  have hno' : ¬ (O w.heap.size ≠ none) := fun h => Nat.lt_irrefl _ (hI.good.lim _ h)
  have hOn : O w.heap.size = none := by simpa using hno'
  obtain ⟨g1, g2, g3⟩ := hI.good.newW hnw (fun _ _ h => h) (fun _ _ h => .inl h)
  have hExt : Ext β (β ++ [w.heap.size]) := fun id b h => by rw [List.getElem?_append_left (List.getElem?_eq_some_iff.1 h).1]; exact h
  have hO' : ∀ (b : Nat) (l : Loc), O b = some l → (fun b => if b = w.heap.size then some (Loc.box st.store.length) else O b) b = some l := by
    intro b l hl
    show (if b = w.heap.size then some (Loc.box st.store.length) else O b) = some l
    rw [if_neg (fun h => by subst h; rw [hOn] at hl; cases hl)]
    exact hl
  refine .value (Im' := Im) (O' := fun b => if b = w.heap.size then some (.box st.store.length) else O b) (β' := β ++ [w.heap.size]) hrun ?_ hExt ⟨⟨by simp [g1.len], ?_, g1.im, ?_, ?_⟩, ?_⟩
  · refine ⟨g2.env, g2.size, fun b hb ho => g2.same b hb ho, g2.keep, fun b o hb => g2.new b o hb, fun b hb ho => ?_⟩
    rw [if_neg (by omega)]
    exact ho
  · intro id b cs' hb hc'
    by_cases hid : id < st.store.length
    · rw [List.getElem?_append_left (by have := g1.len; omega)] at hb
      rw [List.getElem?_append_left hid] at hc'
      obtain ⟨h1, cs, e, h2, h3, h4⟩ := g1.box id b cs' hb hc'
      refine ⟨hO' _ _ h1, cs, e, h2, h3, fun j p v hp hv => ?_⟩
      obtain ⟨k1, k2, k3⟩ := h4 j p v hp hv
      exact ⟨k1.keep (.refl _ _) hExt, k2.mono fun b hb => ⟨hO' _ _ hb, rfl, fun _ h => h⟩, k3⟩
    · have hl := g1.len
      have hid' : id = st.store.length := by
        have := (List.getElem?_eq_some_iff.1 hc').1
        simp at this
        omega
      subst hid'
      rw [← hl, List.getElem?_concat_length] at hb
      rw [List.getElem?_concat_length] at hc'
      cases hb; cases hc'
      refine ⟨by simp, cs0, t, hobj, hcl, fun j p u hp hu => ⟨((hc j p u hp hu).keep g2.keep hExt), .of_not (hno p (List.mem_of_getElem? hp)), trivial⟩⟩
  · intro b o hb' id ho
    split at ho
    · rename_i he
      subst he
      exact absurd (hI.good.im.lt hb') (Nat.lt_irrefl _)
    · exact hI.good.box' b o hb' id ho
  · intro b hb'
    split at hb'
    · rename_i he; subst he; exact hsz
    · have := hI.good.lim b hb'; omega
  · have hs := g3 _ _ hI.slots
    refine Slots.put ⟨hs.len, fun i p u hp hu => ?_⟩ hr (fun d _ => .of_not hro)
    obtain ⟨k1, k2⟩ := hs.rep i p u hp hu
    exact ⟨k1.keep (.refl _ _) hExt, k2.mono fun b hb => ⟨hO' _ _ hb, rfl, fun _ h => h⟩⟩

theorem mkappM_ok (hI : Inv w Im O β st a) {o : Oper} {t : TypeId} {s x : Operand} {sv : PV} {id off len sz : Nat} {r : PV × Store}
    (ho : o.op = .call ⟨.builtin .append, #[s, x], #[t, t]⟩) (hs : opv (rd st.slots) s = some sv) (hx : use (rd st.slots) x = some (.ms id off len sz)) (h : mkApp P t st.store sv (.ms id off len sz) = some r) :
    OpOk P w Im O β a o { slots := putS (untake st.slots none) o.dst r.1, store := r.2 } := by
  simp only [mkApp, appT] at h
  cases hu : P.underlying t with
  | none => simp [hu] at h
  | some ud =>
  cases ud <;> simp only [hu] at h <;> try (simp at h; done)
  rename_i e
  cases hie : P.info? e with
  | none => simp [hie] at h
  | some ie =>
  simp only [hie] at h
  split at h
  case isFalse => simp at h
  rename_i hcond
  obtain ⟨hpos, hby, hz⟩ := hcond
  simp only [Option.bind_some] at h
  cases hrs : ownRows sv with
  | none => simp [hrs] at h
  | some rs =>
  cases hl : loadS st.store id off (len * sz) with
  | none => simp [hrs, hl] at h
  | some cs =>
  simp only [hrs, hl, Option.bind_some] at h
  split at h
  case isFalse => cases h
  rename_i hc
  simp only [Bool.and_eq_true, decide_eq_true_eq, List.isEmpty_iff] at hc
  obtain ⟨rfl, rfl, hpl, hroom, hone⟩ := hc
  cases h
  obtain ⟨z, hz1, hz2⟩ : ∃ z, ie.zero = some z ∧ z.cells.size = ie.size := by
    cases hz0 : ie.zero with
    | none => simp [hz0] at hz
    | some z => simp [hz0] at hz; exact ⟨z, rfl, hz⟩
  obtain ⟨A, hsv⟩ : ∃ A, a.eval s = .slice A 0 0 := by
    have hsp := opv_rep hI.reps hs
    cases sv <;> simp [ownRows] at hrs
    · generalize a.eval s = vs at hsp
      cases hsp with | e0 A => exact ⟨A, rfl⟩
    · rename_i rows
      cases rows <;> simp at hrs
  have hrb : len * ie.bytes ≤ 140737488355328 := Nat.le_trans hroom (by unfold roomB; decide)
  have hsmall : len ≤ 140737488355328 := Nat.le_trans (Nat.le_mul_of_pos_right _ hby) hrb
  obtain ⟨cells, hcl, hfit, hcs⟩ := loadS_get hl
  have hq := use_rep hI.reps hx
  generalize hvq : a.eval x = vq at hq
  cases hq with
  | ms _ _ _ _ b' c' x' hb' hcap' hx' =>
    obtain rfl := hx' (by omega)
    obtain ⟨g1, cs0, e0, g2, g3, g4⟩ := hI.good.box id b' cells hb' hcl
    have hlen0 : cs.length = len * ie.size := by rw [hcs]; simp; omega
    have hcell : ∀ j, j < len * ie.size → ∃ p u, cs[j]? = some p ∧ cs0[off + j]? = some u ∧ w.cell? ⟨b', off + j, none⟩ = some u ∧ RepP w Im β p u := by
      intro j hj
      have h1 : off + j < cells.length := by omega
      have h2 : off + j < cs0.size := by omega
      refine ⟨cells[off + j], cs0[off + j], ?_, Array.getElem?_eq_getElem h2, by simp [World.cell?, g2, h2], (g4 _ _ _ (List.getElem?_eq_getElem h1) (Array.getElem?_eq_getElem h2)).1⟩
      rw [hcs, List.getElem?_take, if_pos hj, List.getElem?_drop]
      exact List.getElem?_eq_getElem h1
    generalize hN : ((List.range (len * ie.size)).map fun j => cs0.getD (off + j) default) = news
    have n1 : news.length = len * ie.size := by rw [← hN]; simp
    have hget : ∀ j, j < len * ie.size → ∃ p u, cs[j]? = some p ∧ news[j]? = some u ∧ w.cell? ⟨b', off + j, none⟩ = some u ∧ RepP w Im β p u := by
      intro j hj
      obtain ⟨p, u, k1, k2, k3, k4⟩ := hcell j hj
      refine ⟨p, u, k1, ?_, k3, k4⟩
      rw [← hN, List.getElem?_map, List.getElem?_range hj]
      simp [Array.getD_eq_getD_getElem?, k2]
    have n2 : ∀ j u, news[j]? = some u → w.cell? ((⟨b', off, none⟩ : Addr).add j) = some u := by
      intro j u hu
      have hj : j < len * ie.size := by rw [← n1]; exact (List.getElem?_eq_some_iff.1 hu).1
      obtain ⟨p, u', k1, k2, k3, k4⟩ := hget j hj
      rw [hu] at k2
      cases k2
      rw [Addr.add_none rfl]
      exact k3
    have hcap := grownCap_ge w len 0 e
    have hrun : (Builtin.append_ #[t, t] o.type #[.slice A 0 0, .slice (some ⟨b', off, none⟩) len c']).run P w =
        .ok (.slice (some ⟨w.heap.size, 0, none⟩) len (grownCap w len 0 e))
          (w.drew.alloc (.cells (news ++ (Builtin.zeroCells z.cells (grownCap w len 0 e - len)).toList).toArray e)) := by
      cases A with
      | none =>
        have := run_append_nil (P := P) w t o.type e ie z hu hie hz1 ⟨b', off, none⟩ len c' news n1 n2 hpl (by omega) (by omega)
        rw [this]
        congr 2
        congr 1
        apply Array.ext'
        simp
      | some g =>
        have := run_append_grow (P := P) w t o.type e ie z hu hie hz1 g 0 0 [] (by simp) (by simp) ⟨b', off, none⟩ len c' news n1 n2 (by omega) (by omega) (growslice_fits (by omega) (by simpa using hrb))
        simp only [Nat.zero_add] at this
        rw [this]
        congr 2
        congr 1
        apply Array.ext'
        simp
    generalize hZ : (Builtin.zeroCells z.cells (grownCap w len 0 e - len)).toList = Z at hrun
    generalize grownCap w len 0 e = cap at hrun hcap hZ
    refine newBox_w (cs0 := (news ++ Z).toArray) (t := e) (u := .slice (some ⟨w.heap.size, 0, none⟩) len cap) hI (NewW.alloc w.drew _).drew (alloc_new w.drew _) (by simp [execOp, ho, resolve, invoke, builtin, hsv, hvq, hrun])
      (.ms _ 0 _ _ w.heap.size cap _ (by rw [← hI.good.len, List.getElem?_concat_length]) hcap (fun _ => rfl)) (by simp) (by simp; omega) (fun j p v hp hv => ?_) (fun p hp => by obtain ⟨q', _, rfl⟩ := List.mem_map.1 hp; exact strip1_not_os q')
    rw [List.getElem?_map] at hp
    cases hci : cs[j]? with
    | none => simp [hci] at hp
    | some p0 =>
      simp [hci] at hp
      subst hp
      have hj : j < len * ie.size := by rw [← hlen0]; exact (List.getElem?_eq_some_iff.1 hci).1
      obtain ⟨p1, u1, k1, k2, k3, k4⟩ := hget j hj
      rw [hci] at k1
      cases k1
      rw [List.getElem?_toArray, List.getElem?_append_left (by omega), k2] at hv
      cases hv
      exact k4.strip1

theorem mkapp_ok (hI : Inv w Im O β st a) {o : Oper} {t : TypeId} {s x : Operand} {sv xv : PV} {r : PV × Store}
    (ho : o.op = .call ⟨.builtin .append, #[s, x], #[t, t]⟩) (hs : opv (rd st.slots) s = some sv) (hx : use (rd st.slots) x = some xv) (h : mkApp P t st.store sv xv = some r) :
    OpOk P w Im O β a o { slots := putS (untake st.slots none) o.dst r.1, store := r.2 } := by
  by_cases hms : ∃ id off len sz, xv = .ms id off len sz
  · obtain ⟨id, off, len, sz, rfl⟩ := hms
    exact mkappM_ok hI ho hs hx h
  have h' : ((appT P t).bind fun k => (ownRows sv).bind fun rs => (elemsOf xv).bind fun xs =>
    if rs.isEmpty && (rowsOk k.1 xs && decide (xs.length * k.2 ≤ roomB)) then
      (if xs.isEmpty then some (.e0, st.store) else some (.ms st.store.length 0 xs.length k.1, st.store ++ [flatD xs])) else none) = some r := by
    cases xv <;> first | exact h | exact absurd ⟨_, _, _, _, rfl⟩ hms
  clear h
  have h := h'
  unfold appT at h
  cases hu : P.underlying t with
  | none => simp [hu] at h
  | some ud =>
  cases ud <;> simp only [hu] at h <;> try (simp at h; done)
  rename_i e
  cases hie : P.info? e with
  | none => simp [hie] at h
  | some ie =>
  simp only [hie] at h
  split at h
  case isFalse => simp at h
  rename_i hcond
  obtain ⟨hpos, hby, hz⟩ := hcond
  simp only [Option.bind_some] at h
  cases hrs : ownRows sv with
  | none => simp [hrs] at h
  | some rs =>
  cases hxs : elemsOf xv with
  | none => simp [hrs, hxs] at h
  | some xs =>
  simp only [hrs, hxs, Option.bind_some] at h
  split at h
  case isFalse => cases h
  rename_i hc
  simp only [Bool.and_eq_true, decide_eq_true_eq, List.isEmpty_iff] at hc
  obtain ⟨rfl, hok2, hroom⟩ := hc
  obtain ⟨z, hz1, hz2⟩ : ∃ z, ie.zero = some z ∧ z.cells.size = ie.size := by
    cases hz0 : ie.zero with
    | none => simp [hz0] at hz
    | some z => simp [hz0] at hz; exact ⟨z, rfl, hz⟩
  have hxD : RepD w Im (.slice xs) (a.eval x) := by
    have := use_rep hI.reps hx
    cases xv <;> simp [elemsOf] at hxs
    rename_i dx
    cases dx <;> simp at hxs
    subst hxs
    exact this.slice_inv
  obtain ⟨y, cx, hxv, hcx⟩ := hxD.slice_form
  rw [hxv] at hxD
  obtain ⟨_, _, hyn, news, n1, n2, _, _, n5, n6⟩ := rows_values hxD hok2
  obtain ⟨A, hsv⟩ : ∃ A, a.eval s = .slice A 0 0 := by
    have hsp := opv_rep hI.reps hs
    cases sv <;> simp [ownRows] at hrs
    · generalize a.eval s = vs at hsp
      cases hsp with | e0 A => exact ⟨A, rfl⟩
    · rename_i rows
      cases rows <;> simp at hrs
  have hrb : xs.length * ie.bytes ≤ 140737488355328 := Nat.le_trans hroom (by unfold roomB; decide)
  have hsmall : xs.length ≤ 140737488355328 := Nat.le_trans (Nat.le_mul_of_pos_right _ hby) hrb
  by_cases hxe : xs = []
  · subst hxe
    simp at h
    subst h
    have hf : (Builtin.firstCells ie.size 0 (.slice y 0 cx)).run P w = .ok #[] w := by
      cases y with
      | none => simp [Builtin.firstCells]
      | some b => simp [Builtin.firstCells, loadCells, loadCellsFrom]
    have hrun : (Builtin.append_ #[t, t] o.type #[.slice A 0 0, .slice y 0 cx]).run P w = .ok (.slice A 0 0) w := by
      cases A with
      | none => simp [Builtin.append_, run_underlying hu, sizeOf, typeInfo, hie, Builtin.lenOf, hf]
      | some b => simp [Builtin.append_, run_underlying hu, sizeOf, typeInfo, hie, Builtin.lenOf, hf, storeCells]
    have hxv' : a.eval x = .slice y 0 cx := hxv
    exact .value (v := .slice A 0 0) (by simp [execOp, ho, resolve, invoke, builtin, hsv, hxv', hrun]) (.refl _ _ _) (.refl β) ⟨hI.good, hI.slots.put (.e0 A) (fun _ _ => .of_not (by simp))⟩
  · have hxe' : xs.isEmpty = false := by cases xs <;> simp at hxe ⊢
    rw [hxe'] at h
    simp only [Bool.false_eq_true, if_false, Option.some.injEq] at h
    subst h
    obtain ⟨b, rfl⟩ : ∃ b, y = some b := by
      cases y with
      | none => exact absurd (hyn rfl).1 hxe
      | some b => exact ⟨b, rfl⟩
    have hxpos : 0 < xs.length := List.length_pos_iff.2 hxe
    have hcap := grownCap_ge w xs.length 0 e
    have hrun : (Builtin.append_ #[t, t] o.type #[.slice A 0 0, .slice (some b) xs.length cx]).run P w =
        .ok (.slice (some ⟨w.heap.size, 0, none⟩) xs.length (grownCap w xs.length 0 e))
          (w.drew.alloc (.cells (news ++ (Builtin.zeroCells z.cells (grownCap w xs.length 0 e - xs.length)).toList).toArray e)) := by
      cases A with
      | none =>
        have := run_append_nil (P := P) w t o.type e ie z hu hie hz1 b xs.length cx news n1 (n2 b rfl) hxpos (by omega) (by omega)
        rw [this]
        congr 2
        congr 1
        apply Array.ext'
        simp
      | some g =>
        have := run_append_grow (P := P) w t o.type e ie z hu hie hz1 g 0 0 [] (by simp) (by simp) b xs.length cx news n1 (n2 b rfl) (by omega) (by omega) (growslice_fits (by omega) (by simpa using hrb))
        simp only [Nat.zero_add] at this
        rw [this]
        congr 2
        congr 1
        apply Array.ext'
        simp
    generalize hZ : (Builtin.zeroCells z.cells (grownCap w xs.length 0 e - xs.length)).toList = Z at hrun
    generalize grownCap w xs.length 0 e = cap at hrun hcap hZ
    obtain ⟨f1, f2⟩ := flatD_get hok2
    refine newBox_w (cs0 := (news ++ Z).toArray) (t := e) (u := .slice (some ⟨w.heap.size, 0, none⟩) xs.length cap) hI (NewW.alloc w.drew _).drew (alloc_new w.drew _) (by simp [execOp, ho, resolve, invoke, builtin, hsv, hxv, hrun])
      (.ms _ 0 _ _ w.heap.size cap _ (by rw [← hI.good.len, List.getElem?_concat_length]) hcap (fun _ => rfl)) (by simp) (by rw [f1]; simp; omega) (fun j p v hp hv => ?_) (fun p hp rows he => ?_)
    · obtain ⟨i, k, rr, d, e1, e2, e3, rfl⟩ := f2 j p hp
      obtain ⟨u', h1, h2⟩ := n5 i k rr d e1 e2
      have hlt := (List.getElem?_eq_some_iff.1 h1).1
      rw [List.getElem?_toArray, List.getElem?_append_left (by omega), e3, h1] at hv
      cases hv
      exact .d h2
    · subst he
      obtain ⟨j, hj⟩ := List.mem_iff_getElem?.1 hp
      obtain ⟨i, k, rr, d, e1, e2, e3, he⟩ := f2 j _ hj
      cases he

theorem evMkApp_ok {E : Env} (hI : Inv w Im O β st a) {o : Oper} {c : Call} {g : Gives} (ho : o.op = .call c) (h : evMkApp E (rd st.slots) st.store c = some g) :
    OpOk E.P w Im O β a o { slots := putS (untake st.slots g.2.1) o.dst g.1, store := g.2.2 } := by
  obtain ⟨callee, args, argTypes⟩ := c
  unfold evMkApp at h
  simp only at h
  split at h
  · split at h
    · rename_i tS tX s x htys hargs
      split at h
      · rename_i htt
        subst htt
        cases hs : opv (rd st.slots) s with
        | none => simp [hs] at h
        | some sv =>
          cases hx : use (rd st.slots) x with
          | none => simp [hs, hx] at h
          | some xv =>
            simp only [hs, hx, Option.bind_some] at h
            cases hr : mkApp E.P tS st.store sv xv with
            | none => simp [hr] at h
            | some r =>
              simp [hr] at h
              subst h
              have htys' : argTypes = #[tS, tS] := by apply Array.ext'; simpa using htys
              have hargs' : args = #[s, x] := by apply Array.ext'; simpa using hargs
              subst htys' hargs'
              exact mkapp_ok hI ho hs hx hr
      · cases h
    · cases h
  · cases h
end step

theorem evMkApp_ext {E : Env} {ρ : Nat → PV} {σ : Store} {c : Call} {g : Gives} (h : evMkApp E ρ σ c = some g) : g.2.1 = none ∧ ∃ cc, g.2.2 = σ ++ cc := by
  unfold evMkApp at h
  split at h
  · split at h
    · rename_i tS tX s x htys hargs
      split at h
      · cases hs : opv ρ s with
        | none => simp [hs] at h
        | some sv =>
          cases hx : use ρ x with
          | none => simp [hs, hx] at h
          | some xv =>
            simp only [hs, hx, Option.bind_some] at h
            cases hr : mkApp E.P tS σ sv xv with
            | none => simp [hr] at h
            | some r =>
              simp [hr] at h
              subst h
              refine ⟨rfl, ?_⟩
              by_cases hms : ∃ id off len sz, xv = .ms id off len sz
              · obtain ⟨id, off, len, sz, rfl⟩ := hms
                simp only [mkApp] at hr
                cases hk : appT E.P tS with
                | none => simp [hk] at hr
                | some k =>
                  cases hrs : ownRows sv with
                  | none => simp [hk, hrs] at hr
                  | some rs =>
                    cases hxs : loadS σ id off (len * sz) with
                    | none => simp [hk, hrs, hxs] at hr
                    | some xs =>
                      simp only [hk, hrs, hxs, Option.bind_some] at hr
                      split at hr
                      · cases hr; exact ⟨_, rfl⟩
                      · cases hr
              replace hr : ((appT E.P tS).bind fun k => (ownRows sv).bind fun rs => (elemsOf xv).bind fun xs =>
                if rs.isEmpty && (rowsOk k.1 xs && decide (xs.length * k.2 ≤ roomB)) then
                  (if xs.isEmpty then some (.e0, σ) else some (.ms σ.length 0 xs.length k.1, σ ++ [flatD xs])) else none) = some r := by
                cases xv <;> first | exact hr | exact absurd ⟨_, _, _, _, rfl⟩ hms
              cases hk : appT E.P tS with
              | none => simp [hk] at hr
              | some k =>
                cases hrs : ownRows sv with
                | none => simp [hk, hrs] at hr
                | some rs =>
                  cases hxs : elemsOf xv with
                  | none => simp [hk, hrs, hxs] at hr
                  | some xs =>
                    simp only [hk, hrs, hxs, Option.bind_some] at hr
                    split at hr
                    · split at hr
                      · cases hr; exact ⟨[], by simp⟩
                      · cases hr; exact ⟨_, rfl⟩
                    · cases hr
      · cases h
    · cases h
  · cases h
end Go.Pv

set_option linter.unusedVariables false
set_option linter.unusedSimpArgs false
namespace Go.Pv
open Go

theorem ofCell_plain {v : Value} {p : PV} (h : ofCell v = some p) (n : Nat) : p.Below n ∧ ∀ rows, p ≠ .os rows := by
  unfold ofCell at h
  split at h <;> simp at h <;> subst h <;> refine ⟨?_, by simp⟩
  · exact .d _
  · exact .d _
  · exact .d _
  · exact .e0
  · exact .nilptr
  · exact .nilFunc
  · exact .nilIface

theorem ofValue_cells {v : Value} {p : PV} (h : ofValue v = some p) (n : Nat) : ∀ q ∈ cellsOf p, q.Below n ∧ ∀ rows, q ≠ .os rows := by
  unfold ofValue at h
  split at h
  · rename_i cs
    cases hm : cs.toList.mapM ofCell with
    | none => simp [hm] at h
    | some ps =>
      simp [hm] at h
      subst h
      intro q hq
      obtain ⟨i, hi⟩ := List.mem_iff_getElem?.1 hq
      obtain ⟨h1, h2⟩ := mapM_get hm
      have hil : i < cs.toList.length := by rw [h1]; exact (List.getElem?_eq_some_iff.1 hi).1
      obtain ⟨y, hy, hf⟩ := h2 i _ (List.getElem?_eq_getElem hil)
      simp only [cellsOf] at hi
      rw [hi] at hy
      cases hy
      exact ofCell_plain hf n
  · have := ofCell_plain h n
    intro q hq
    have hp : cellsOf p = [p] := by
      unfold ofCell at h
      split at h <;> simp at h <;> subst h <;> rfl
    rw [hp] at hq
    simp at hq
    subst hq
    exact this

theorem strip_cells (p : PV) : ∀ q ∈ cellsOf p.strip, ∀ rows, q ≠ .os rows := by
  intro q hq rows
  cases p with
  | agg cs =>
    simp only [PV.strip, cellsOf] at hq
    obtain ⟨q', _, rfl⟩ := List.mem_map.1 hq
    exact strip1_not_os q' rows
  | _ => simp [PV.strip, PV.strip1, cellsOf] at hq <;> subst hq <;> simp

section step
variable {w : World} {Im : ImT} {O : OwT} {β : List Nat} {st : St} {a : Act} {E : Env} {F : FnEv}

theorem make_ok {P : Program} {w : World} {Im : ImT} {β : List Nat} {t : TypeId} {n m : Nat} {r : Nat × List PV} (kl kc : IntKind) (h : evMake P t n m = some r) :
    ∃ e cs, (Instr.makeSlice t (.int kl n) (.int kc m)).run P w = .ok (.slice (some ⟨w.heap.size, 0, none⟩) n m) (w.alloc (.cells cs e)) ∧ RepCells w Im β r.2 cs ∧ (∀ p ∈ r.2, (∀ k, p.Below k) ∧ ∀ rows, p ≠ .os rows) ∧ n ≤ m := by
  unfold evMake at h
  cases hk : appT P t with
  | none => simp [hk] at h
  | some k =>
    simp only [hk, Option.bind_some] at h
    split at h
    · rename_i e hu
      cases hz : zeroT P e with
      | none => simp [hz] at h
      | some z =>
        simp only [hz, Option.bind_some] at h
        split at h
        · rename_i hc
          cases h
          unfold appT at hk
          rw [hu] at hk
          simp only at hk
          cases hi : P.info? e with
          | none => simp [hi] at hk
          | some ie =>
            simp only [hi] at hk
            split at hk
            · rename_i hcond
              cases hk
              obtain ⟨c1, c2, c3⟩ := hcond
              cases hzv : ie.zero with
              | none => rw [hzv] at c3; simp at c3
              | some zv =>
                rw [hzv] at c3
                simp at c3
                have hov : ofValue zv = some z := by
                  unfold zeroT at hz
                  rw [hi] at hz
                  simpa [hzv] using hz
                obtain ⟨g1, g2⟩ := cellsOf_rep (w := w) (Im := Im) (β := β) (ofValue_rep hov).1
                have hroom : m * ie.bytes ≤ 2 ^ 45 := hc.2
                have hm : m ≤ 2 ^ 45 := by
                  have : m * 1 ≤ m * ie.bytes := Nat.mul_le_mul_left m c2
                  omega
                have hrun := run_make (P := P) w t e ie zv hu hi hzv kl kc (n : Int) (m : Int) (by omega) (by have := hc.1; omega) (by
                  have : ((ie.bytes : Int)) * (m : Int) = ((m * ie.bytes : Nat) : Int) := by rw [Int.natCast_mul, Int.mul_comm]
                  rw [this]; omega) (by omega)
                simp only [Int.toNat_natCast] at hrun
                refine ⟨e, _, hrun, ⟨?_, fun j p v hp hv => ?_⟩, fun p hp => ⟨fun k => (ofValue_cells hov k p (repCells_mem hp)).1, (ofValue_cells hov 0 p (repCells_mem hp)).2⟩, hc.1⟩
                · rw [repCells_len, size_madeCells, g1, c3]
                · have hj : j < m * (cellsOf z).length := by rw [← repCells_len]; exact (List.getElem?_eq_some_iff.1 hp).1
                  rw [repCells_get _ _ _ hj] at hp
                  have hsz : 0 < zv.cells.size := by omega
                  have hjs : j < m * ie.size := by rw [← c3, ← g1]; exact hj
                  have hv' : zv.cells[j % zv.cells.size]? = some v := by
                    unfold madeCells at hv
                    rw [Array.getElem?_map, Array.getElem?_range, if_pos hjs] at hv
                    simp only [Option.map_some, Option.some.injEq] at hv
                    rw [← hv, getElem!_pos zv.cells (j % zv.cells.size) (Nat.mod_lt _ hsz)]
                    exact Array.getElem?_eq_getElem _
                  rw [g1] at hp
                  exact g2 _ p v hp hv'
            · cases hk
        · cases h
    · cases h

theorem makeD_eq {P : Program} {t : TypeId} {n m : Nat} {r : PV} (h : evMakeD P t n m = some r) :
    ∃ q z, evMake P t n m = some q ∧ q.2 = repCells m z ∧ ∃ r0, toDL z = some r0 ∧ r0.length = q.1 ∧ r = .d (.slice (List.replicate n r0)) := by
  unfold evMakeD at h
  unfold evMake
  cases hk : appT P t with
  | none => simp [hk] at h
  | some k =>
    simp only [hk, Option.bind_some] at h ⊢
    split at h
    · rename_i e hu
      cases hz : zeroT P e with
      | none => simp [hz] at h
      | some z =>
        cases hd : toDL (cellsOf z) with
        | none => simp [hz, hd] at h
        | some r0 =>
          simp only [hz, hd, Option.bind_some] at h ⊢
          split at h
          · rename_i hc
            cases h
            exact ⟨_, _, by rw [if_pos ⟨hc.1, hc.2.1⟩], rfl, r0, hd, hc.2.2, rfl⟩
          · cases h
    · cases h

theorem makeD_rep {w : World} {Im : ImT} {β : List Nat} {e : TypeId} {cs : Array Value} {n m sz : Nat} {z cells : List PV} {r0 : List DV} (hin : ImIn w Im) (hlen : n ≤ m) (hz : cells = repCells m z) (hr : toDL z = some r0) (hrl : r0.length = sz) (hc : RepCells w Im β cells cs) :
    ∃ Im' : ImT, (∀ b o, Im b o → Im' b o) ∧ (∀ b o, Im' b o → Im b o ∨ (w.heap.size ≤ b ∧ ∃ u, (w.alloc (.cells cs e)).cell? ⟨b, o, none⟩ = some u)) ∧ RepD (w.alloc (.cells cs e)) Im' (.slice (List.replicate n r0)) (.slice (some ⟨w.heap.size, 0, none⟩) n m) := by
  obtain ⟨d1, d2⟩ := toDL_get hr
  have hcs : cs.size = m * sz := by rw [← hc.1, hz, repCells_len, d1, hrl]
  have hmul : n * sz ≤ m * sz := Nat.mul_le_mul_right _ hlen
  have hcl : ∀ j, (w.alloc (.cells cs e)).cell? ⟨w.heap.size, j, none⟩ = cs.toList[j]? := fun j => by
    rw [World.cell?_alloc_new]
    simp
  refine ⟨fun b o => Im b o ∨ (b = w.heap.size ∧ o < n * sz), fun _ _ h => .inl h, ?_, ?_⟩
  · rintro b o (h | ⟨rfl, h⟩)
    · exact .inl h
    · refine .inr ⟨Nat.le_refl _, cs[o]'(by omega), ?_⟩
      rw [hcl]
      simp [show o < cs.size by omega]
  · have hk : Keep w Im (w.alloc (.cells cs e)) (fun b o => Im b o ∨ (b = w.heap.size ∧ o < n * sz)) := fun b o hb => ⟨.inl hb, ((NewW.alloc w (.cells cs e)).keep hin b o hb).2⟩
    have key : RepD (w.alloc (.cells cs e)) (fun b o => Im b o ∨ (b = w.heap.size ∧ o < n * sz)) (.slice (List.replicate n r0)) (.slice (some ⟨w.heap.size, 0, none⟩) (List.replicate n r0).length m) := by
      refine .slice _ ⟨w.heap.size, 0, none⟩ m sz (fun j => cs.toList.getD j default) (fun r hr => ?_) (by simpa using hlen) (fun _ => rfl) ?_ ?_ ?_
      · rw [List.eq_of_mem_replicate hr]; exact hrl
      · intro j hj
        rw [List.length_replicate] at hj
        simp only [Nat.zero_add]
        rw [hcl, List.getD_eq_getElem?_getD, List.getElem?_eq_getElem (by simp; omega)]
        rfl
      · intro j hj
        rw [List.length_replicate] at hj
        exact .inr ⟨rfl, by simpa using hj⟩
      · intro i j r x hi hj
        rw [List.getElem?_replicate] at hi
        split at hi
        · rename_i hin'
          cases hi
          have hjs : j < sz := by rw [← hrl]; exact (List.getElem?_eq_some_iff.1 hj).1
          obtain ⟨p, hp, hpx⟩ := d2 j x hj
          have hpos : i * sz + j < m * sz := by
            have := Nat.mul_le_mul_right sz (show i + 1 ≤ m by omega)
            rw [Nat.add_mul, Nat.one_mul] at this
            omega
          have hcp : cells[i * sz + j]? = some p := by
            rw [hz, repCells_get _ _ _ (by rw [d1, hrl]; exact hpos), d1, hrl]
            rw [show (i * sz + j) % sz = j by rw [Nat.add_comm, Nat.add_mul_mod_self_right]; exact Nat.mod_eq_of_lt hjs]
            exact hp
          have hcv : cs[i * sz + j]? = some (cs[i * sz + j]'(by omega)) := Array.getElem?_eq_getElem (by omega)
          have := toD_rep (hc.2 _ p _ hcp hcv) hpx
          have hg : cs.toList.getD (i * sz + j) default = cs[i * sz + j]'(by omega) := by
            rw [List.getD_eq_getElem?_getD, Array.getElem?_toList, hcv]; rfl
          rw [hg]
          exact this.keep hk
        · cases hi
    rwa [List.length_replicate] at key

theorem core_ok (hF : FnOk E.P F) (hov : OvOk E) (hI : Inv w Im O β st a) {o : Oper} {aps : List Nat} {g : Gives}
    (h : evCore E F aps o.dst o.op (rd st.slots) st.store = some g) : OpOk E.P w Im O β a o { slots := putS (untake st.slots g.2.1) o.dst g.1, store := g.2.2 } := by
  have pure : (evPure E.P (rd st.slots) o.op).map (fun r => (r, (none : Option Nat), st.store)) = some g → OpOk E.P w Im O β a o { slots := putS (untake st.slots g.2.1) o.dst g.1, store := g.2.2 } := by
    intro h
    cases hr : evPure E.P (rd st.slots) o.op with
    | none => simp [hr] at h
    | some r => simp [hr] at h; subst h; exact pure_step hI hr
  cases hop : o.op with
  | move x =>
    rw [hop] at h
    exact moveIt_ok hI (by simp [execOp, hop]) h
  | assign x =>
    rw [hop] at h
    exact moveIt_ok hI (by simp [execOp, hop]) h
  | alloc t =>
    rw [hop] at h
    simp only [evCore] at h
    cases hz : zeroT E.P t with
    | none => simp [hz] at h
    | some z =>
      simp [hz] at h
      subst h
      obtain ⟨zv, h1, h2⟩ := zeroT_run hz w
      exact newBox_ok (v := zv) (t := t) hI (by simp [execOp, hop, Instr.alloc, h1, newVar, newRow]) (cellsOf_rep (ofValue_rep h2).1) (fun p hp => (ofValue_cells h2 0 p hp).2)
  | makeSlice t l c =>
    rw [hop] at h
    simp only [evCore] at h
    cases hl : use (rd st.slots) l with
    | none => simp [hl] at h
    | some lv =>
      cases hcv : use (rd st.slots) c with
      | none => simp [hl, hcv] at h
      | some cv =>
        simp only [hl, hcv, Option.bind_some] at h
        cases hn : natOf lv with
        | none => simp [hn] at h
        | some n =>
          cases hm : natOf cv with
          | none => simp [hn, hm] at h
          | some m =>
            simp only [hn, hm, Option.bind_some] at h
            split at h
            · cases hr : evMakeD E.P t n m with
              | none => simp [hr] at h
              | some r =>
                simp [hr] at h
                subst h
                obtain ⟨kl, h1⟩ := natOf_rep (use_rep hI.reps hl) hn
                obtain ⟨kc, h2⟩ := natOf_rep (use_rep hI.reps hcv) hm
                obtain ⟨q, z, hz1, hz2, r0, hr0, hrl, hrr⟩ := makeD_eq hr
                obtain ⟨e, cs, hrun, hcells, hno, hlen⟩ := make_ok (w := w) (Im := Im) (β := β) kl kc hz1
                subst hrr
                obtain ⟨Im', q1, q2, q3⟩ := makeD_rep (w := w) (e := e) (cs := cs) (β := β) hI.good.im hlen hz2 hr0 hrl hcells
                obtain ⟨g1, g2, g3⟩ := hI.good.newW (NewW.alloc w (.cells cs e)) q1 q2
                exact .value (v := .slice (some ⟨w.heap.size, 0, none⟩) n m) (by simp [execOp, hop, h1, h2, hrun]) g2 (.refl β) ⟨g1, (g3 _ _ hI.slots).put (.d q3) (fun d _ => .of_not (by simp))⟩
            cases hr : evMake E.P t n m with
            | none => simp [hr] at h
            | some r =>
              simp [hr] at h
              subst h
              obtain ⟨kl, h1⟩ := natOf_rep (use_rep hI.reps hl) hn
              obtain ⟨kc, h2⟩ := natOf_rep (use_rep hI.reps hcv) hm
              obtain ⟨e, cs, hrun, hcells, hno, hlen⟩ := make_ok (w := w) (Im := Im) (β := β) kl kc hr
              refine newBox_gen (cs0 := cs) (t := e) (u := .slice (some ⟨w.heap.size, 0, none⟩) n m) hI (by simp [execOp, hop, h1, h2, hrun]) (.ms _ 0 n _ w.heap.size m _ (by rw [← hI.good.len, List.getElem?_concat_length]) hlen (fun _ => rfl)) (by simp) hcells (fun p hp => (hno p hp).2)
  | box t x =>
    rw [hop] at h
    simp only [evCore] at h
    cases hx : opv (rd st.slots) x with
    | none => simp [hx] at h
    | some p =>
      simp only [hx, Option.map_some, Option.some.injEq] at h
      subst h
      have hp := opv_rep hI.reps hx
      obtain ⟨c1, c2⟩ := cellsOf_rep hp
      refine newBox_ok (v := a.eval x) (t := t) hI (by simp [execOp, hop, Instr.box, newVar, newRow]) ?_ ?_
      · cases p with
        | agg cs =>
          refine ⟨by simpa [boxCells, cellsOf] using c1, fun j q u hq hu => ?_⟩
          simp only [boxCells] at hq
          rw [List.getElem?_map] at hq
          cases hc : cs[j]? with
          | none => rw [hc] at hq; cases hq
          | some q' =>
            rw [hc] at hq
            simp at hq
            subst hq
            exact (c2 j q' u hc hu).keep0
        | _ =>
          refine ⟨by simpa [boxCells, cellsOf] using c1, fun j q u hq hu => ?_⟩
          simp only [boxCells] at hq
          cases j with
          | succ j => simp at hq
          | zero => simp at hq; subst hq; exact (c2 0 _ u rfl hu).keep0
      · intro q hq rows hr
        cases p with
        | agg cs =>
          obtain ⟨q', _, rfl⟩ := List.mem_map.1 (show q ∈ cs.map PV.keep0 from hq)
          cases q' <;> simp [PV.keep0] at hr
        | _ => simp [boxCells] at hq; subst hq; simp [PV.keep0] at hr
  | load t x =>
    rw [hop] at h
    simp only [evCore] at h
    cases hx : use (rd st.slots) x with
    | none => simp [hx] at h
    | some p =>
      simp only [hx, Option.bind_some] at h
      cases hr : loadAs E.P t st.store (takes aps o.dst) p with
      | none => rw [hr] at h; cases h
      | some r =>
        rw [hr] at h
        cases h
        refine load_step hI hop hx (fun ht => ?_) hr
        cases hd : o.dst with
        | none => rw [hd] at ht; simp [takes] at ht
        | some d => exact ⟨d, rfl⟩
  | store t x v =>
    rw [hop] at h
    simp only [evCore] at h
    cases hx : use (rd st.slots) x with
    | none => simp [hx] at h
    | some p =>
      cases hv : opv (rd st.slots) v with
      | none => simp [hx, hv] at h
      | some u =>
        simp only [hx, hv, Option.bind_some] at h
        cases hs : storeAs E.P E.loose t st.store p u with
        | none => simp [hs] at h
        | some σ' =>
          simp [hs] at h
          subst h
          exact store_step hI hop hx hv hs
  | call c =>
    rw [hop] at h
    simp only [evCore] at h
    split at h
    · exact evMkApp_ok hI hop h
    · exact call_ok hF hov hI hop h
  | _ =>
    apply pure
    rw [hop] at h ⊢
    exact h

theorem want_ok (hI : Inv w Im O β st a) {ops : Array Oper} {o : Oper} {b : Bool} (h : evWant ops o (rd st.slots) = some b) : Region.wanted o (yielded ops a.tmps) = b := by
  unfold evWant at h
  unfold Region.wanted
  split at h
  · rename_i hg
    cases h
    simp [hg]
  · rename_i j want hg
    simp only [hg]
    unfold yielded
    split at h
    · rename_i hj
      cases h
      simp [hj]
    · rename_i s hj
      simp only [hj, Option.bind_some]
      have hr := (hI.slots.get s).1
      rw [Array.getD_eq_getD_getElem?] at hr
      split at h
      · rename_i x hx
        cases h
        rw [hx] at hr
        have hb := hr.bool_inv
        cases ht : a.tmps[s]? with
        | none => rw [ht] at hb; cases hb
        | some u =>
          rw [ht] at hb
          simp at hb
          subst hb
          simp
      · rename_i hx
        cases h
        rw [hx] at hr
        cases ht : a.tmps[s]? with
        | none => simp
        | some u =>
          rw [ht] at hr
          simp only [Option.getD_some] at hr
          cases hr
          simp [undef]
      · cases h

/-- One step of a region. -/
theorem evOp_ok (hF : FnOk E.P F) (hov : OvOk E) (hI : Inv w Im O β st a) {ops : Array Oper} {i : Nat} {o : Oper} {st' : St} (ho : ops[i]? = some o) (h : evOp E F ops o st = some st')
    {K : Act → World → Prop} {Q : Exit → Act → World → Prop}
    (hK : ∀ w' Im' O' β' a', Fr w Im O w' Im' O' → Ext β β' → Inv w' Im' O' β' st' a' → a'.defers = a.defers → K a' w') : wpOp E.P ops Q i K a w := by
  unfold wpOp
  simp only [ho]
  unfold evOp at h
  cases hw : evWant ops o (rd st.slots) with
  | none => simp [hw] at h
  | some b =>
    simp only [hw, Option.bind_some] at h
    rw [want_ok hI hw]
    cases b with
    | true =>
      simp only [if_true] at h ⊢
      cases hc : evCore E F (appendFirst ops.toList) o.dst o.op (rd st.slots) st.store with
      | none => simp [hc] at h
      | some g =>
        simp [hc] at h
        subst h
        exact .inl (core_ok hF hov hI hc K Q hK)
    | false =>
      simp at h ⊢
      subst h
      exact hK w Im O β _ (.refl _ _ _) (.refl β) ⟨hI.good, hI.slots.put .undef (fun d _ => .of_not (by simp))⟩ (put_defers a o.dst undef)

/-- The operations in some order. -/
noncomputable def evIdx (E : Env) (F : FnEv) (ops : Array Oper) : List Nat → St → Option St
  | [], st => some st
  | i :: l, st => match ops[i]? with
    | none => evIdx E F ops l st
    | some o => (evOp E F ops o st).bind (evIdx E F ops l)

theorem evOps_idx (ops : Array Oper) : ∀ (l : List Oper) (k : Nat) (st : St), ops.toList.drop k = l → evOps E F ops l st = evIdx E F ops (List.range' k l.length) st
  | [], k, st, _ => rfl
  | o :: l, k, st, h => by
    obtain ⟨h1, h2⟩ := drop_cons h
    rw [List.length_cons, List.range'_succ]
    have ho : ops[k]? = some o := by simpa using h1
    simp only [evOps, evIdx, ho]
    congr 1
    funext st'
    exact evOps_idx ops l (k + 1) st' h2

theorem evOps_range (ops : Array Oper) (st : St) : evOps E F ops ops.toList st = evIdx E F ops (List.range ops.size) st := by
  rw [evOps_idx ops ops.toList 0 st (by simp), List.range_eq_range']
  simp

theorem evIdx_ok (hF : FnOk E.P F) (hov : OvOk E) {ops : Array Oper} {Q : Exit → Act → World → Prop} : ∀ (l : List Nat) {w : World} {Im : ImT} {O : OwT} {β : List Nat} {st st' : St} {a : Act}, Inv w Im O β st a → evIdx E F ops l st = some st' →
    (∀ w' Im' O' β' a', Fr w Im O w' Im' O' → Ext β β' → Inv w' Im' O' β' st' a' → a'.defers = a.defers → Q .normal a' w') → wpOps E.P ops Q l a w
  | [], w, Im, O, β, st, st', a, hI, h, hQ => by
    simp [evIdx] at h
    subst h
    exact hQ w Im O β a (.refl _ _ _) (.refl β) hI rfl
  | i :: l, w, Im, O, β, st, st', a, hI, h, hQ => by
    rw [wpOps_cons]
    cases ho : ops[i]? with
    | none =>
      unfold wpOp
      simp only [ho]
      exact evIdx_ok hF hov l hI (by simpa [evIdx, ho] using h) hQ
    | some o =>
      simp only [evIdx, ho] at h
      cases hs : evOp E F ops o st with
      | none => simp [hs] at h
      | some s1 =>
        simp only [hs, Option.bind_some] at h
        refine evOp_ok hF hov hI ho hs (fun w' Im' O' β' a' h1 h2 h3 h4 => evIdx_ok hF hov l h3 h (fun w'' Im'' O'' β'' a'' k1 k2 k3 k4 => hQ w'' Im'' O'' β'' a'' (h1.trans k1) (h2.trans k2) k3 (k4.trans h4)))

end step
end Go.Pv

set_option linter.unusedVariables false
set_option linter.unusedSimpArgs false
namespace Go.Pv
open Go

def untakeU (ρ : Nat → PV) : Option Nat → List (Nat × PV)
  | some s => [(s, (ρ s).strip)]
  | none => []
def putU : Option Tmp → PV → List (Nat × PV)
  | some d, v => [(d, v)]
  | none, _ => []
def sets (l : List PV) (u : List (Nat × PV)) : List PV := u.foldl (fun l x => l.set x.1 x.2) l

noncomputable def evOpR (E : Env) (F : FnEv) (ops : Array Oper) (o : Oper) (ρ : Nat → PV) (σ : Store) : Option (List (Nat × PV) × Store) :=
  (evWant ops o ρ).bind fun w =>
  if w then (evCore E F (appendFirst ops.toList) o.dst o.op ρ σ).map fun g => (untakeU ρ g.2.1 ++ putU o.dst g.1, g.2.2)
  else some (putU o.dst .undef, σ)

theorem evOp_eq (E : Env) (F : FnEv) (ops : Array Oper) (o : Oper) (st : St) :
    evOp E F ops o st = (evOpR E F ops o (rd st.slots) st.store).map fun r => ⟨sets st.slots r.1, r.2⟩ := by
  unfold evOp evOpR
  cases evWant ops o (rd st.slots) with
  | none => rfl
  | some b =>
    cases b with
    | true =>
      simp only [Option.bind_some, if_true, Option.map_map]
      congr 1
      funext g
      simp only [Function.comp]
      obtain ⟨v, tr, σ'⟩ := g
      cases tr <;> cases o.dst <;> rfl
    | false =>
      simp only [Option.bind_some, Bool.false_eq_true, if_false, Option.map_some]
      cases o.dst <;> rfl

theorem rd_sets : ∀ (u : List (Nat × PV)) (l : List PV) (t : Nat), (∀ x ∈ u, x.1 ≠ t) → rd (sets l u) t = rd l t
  | [], l, t, _ => rfl
  | (s, v) :: u, l, t, h => by
    show rd (sets (l.set s v) u) t = rd l t
    rw [rd_sets u (l.set s v) t (fun x hx => h x (by simp [hx]))]
    have : s ≠ t := h (s, v) (by simp)
    simp [rd, List.getD, List.getElem?_set, this]

theorem sets_set : ∀ (u : List (Nat × PV)) (l : List PV) (s : Nat) (v : PV), (∀ x ∈ u, x.1 ≠ s) → sets (l.set s v) u = (sets l u).set s v
  | [], l, s, v, _ => rfl
  | (s', v') :: u, l, s, v, h => by
    show sets ((l.set s v).set s' v') u = (sets (l.set s' v') u).set s v
    have hne : s' ≠ s := h (s', v') (by simp)
    rw [List.set_comm _ _ (Ne.symm hne), sets_set u (l.set s' v') s v (fun x hx => h x (by simp [hx]))]

theorem sets_comm : ∀ (u v : List (Nat × PV)) (l : List PV), (∀ x ∈ u, ∀ y ∈ v, x.1 ≠ y.1) → sets (sets l u) v = sets (sets l v) u
  | [], v, l, _ => rfl
  | (s, p) :: u, v, l, h => by
    show sets (sets (l.set s p) u) v = sets ((sets l v).set s p) u
    rw [sets_comm u v (l.set s p) (fun x hx => h x (by simp [hx])), sets_set v l s p (fun y hy => Ne.symm (h (s, p) (by simp) y hy))]

/-! #### What an operation reads -/

def tmpsOf (op : Op) : List Nat := op.operands.toList.filterMap fun | .tmp t => some t | _ => none

section congr
variable {ρ ρ' : Nat → PV}
theorem opv_congr {x : Operand} (h : ∀ t, x = .tmp t → ρ t = ρ' t) : opv ρ x = opv ρ' x := by
  cases x <;> simp [opv]
  exact h _ rfl
theorem use_congr {x : Operand} (h : ∀ t, x = .tmp t → ρ t = ρ' t) : use ρ x = use ρ' x := by simp [use, opv_congr h]
theorem useL_congr : ∀ {xs : List Operand}, (∀ x ∈ xs, ∀ t, x = .tmp t → ρ t = ρ' t) → useL ρ xs = useL ρ' xs
  | [], _ => rfl
  | x :: xs, h => by simp only [useL]; rw [use_congr (h x (by simp)), useL_congr (fun y hy => h y (by simp [hy]))]
theorem useParts_congr : ∀ {xs : List (Nat × Operand)}, (∀ x ∈ xs, ∀ t, x.2 = .tmp t → ρ t = ρ' t) → useParts ρ xs = useParts ρ' xs
  | [], _ => rfl
  | (i, x) :: xs, h => by simp only [useParts]; rw [use_congr (h (i, x) (by simp)), useParts_congr (fun y hy => h y (by simp [hy]))]
theorem bound_congr {x : Option Operand} {n : Nat} (h : ∀ o, x = some o → ∀ t, o = .tmp t → ρ t = ρ' t) : bound ρ x n = bound ρ' x n := by
  cases x with
  | none => rfl
  | some o => simp only [bound]; rw [use_congr (h o rfl)]

def Agree (ρ ρ' : Nat → PV) (op : Op) : Prop := ∀ x ∈ op.operands.toList, ∀ t, x = .tmp t → ρ t = ρ' t

theorem evPure_congr {P : Program} {op : Op} (h : Agree ρ ρ' op) : evPure P ρ op = evPure P ρ' op := by
  unfold Agree at h
  cases op with
  | pick c a b => simp only [evPure]; rw [use_congr (h c (by simp [Op.operands])), use_congr (h a (by simp [Op.operands])), use_congr (h b (by simp [Op.operands]))]
  | build t ps =>
    simp only [evPure]
    rw [useParts_congr (fun x hx t ht => h x.2 (by simp only [Op.operands]; exact List.mem_map.2 ⟨x, hx, rfl⟩) t ht)]
  | buildSlice t n ps =>
    simp only [evPure]
    rw [useParts_congr (fun x hx t ht => h x.2 (by simp only [Op.operands]; exact List.mem_map.2 ⟨x, hx, rfl⟩) t ht)]
  | nilCheck x => simp only [evPure]; rw [use_congr (h x (by simp [Op.operands]))]
  | binOp o t x y yt => simp only [evPure]; rw [use_congr (h x (by simp [Op.operands])), use_congr (h y (by simp [Op.operands]))]
  | unOp o t x => simp only [evPure]; rw [use_congr (h x (by simp [Op.operands]))]
  | convert s d x => simp only [evPure]; rw [use_congr (h x (by simp [Op.operands]))]
  | makeInterface t x => simp only [evPure]; rw [use_congr (h x (by simp [Op.operands]))]
  | makeFunc fn f c =>
    simp only [evPure]
    rw [useL_congr (xs := f.toList) (fun x hx => h x (by simp [Op.operands] at hx ⊢; exact .inl hx)), useL_congr (xs := c.toList) (fun x hx => h x (by simp [Op.operands] at hx ⊢; exact .inr hx))]
  | slice t x lo hi mx =>
    simp only [evPure, evSlice]
    rw [use_congr (h x (by simp [Op.operands])), bound_congr (x := lo) (fun o ho => h o (by subst ho; simp [Op.operands]))]
    have e1 : ∀ n, bound ρ hi n = bound ρ' hi n := fun n => bound_congr (fun o ho => h o (by subst ho; simp [Op.operands]))
    have e2 : ∀ m, mx = some m → bound ρ (some m) 0 = bound ρ' (some m) 0 := fun m hm => bound_congr (fun o ho => h o (by cases ho; subst hm; simp [Op.operands]))
    cases mx with
    | none => simp only [e1]
    | some m => simp only [e1, e2 m rfl]
  | fieldAddr t x f => simp only [evPure]; rw [use_congr (h x (by simp [Op.operands]))]
  | field t x f => simp only [evPure]; rw [use_congr (h x (by simp [Op.operands]))]
  | indexAddr t x i => simp only [evPure]; rw [use_congr (h x (by simp [Op.operands])), use_congr (h i (by simp [Op.operands]))]
  | index t x i => simp only [evPure]; rw [use_congr (h x (by simp [Op.operands])), use_congr (h i (by simp [Op.operands]))]
  | extract x i => simp only [evPure]; rw [use_congr (h x (by simp [Op.operands]))]
  | _ => rfl

theorem moveIt_congr {take : Bool} {σ : Store} {x : Operand} (h : ∀ t, x = .tmp t → ρ t = ρ' t) : moveIt ρ take σ x = moveIt ρ' take σ x := by
  cases x with
  | tmp s => simp only [moveIt]; rw [h s rfl]
  | const c => rfl
  | global c => rfl
  | func c => rfl

theorem evCall_congr {E : Env} {F : FnEv} {σ : Store} {c : Call} (h : Agree ρ ρ' (.call c)) : evCall E F ρ σ c = evCall E F ρ' σ c := by
  have hargs : ∀ x ∈ c.args.toList, ∀ t, x = .tmp t → ρ t = ρ' t := fun x hx => h x (by simp [Op.operands, Call.operands] at hx ⊢; exact .inr hx)
  unfold evCall
  split
  · split
    · rename_i tS tX s x _ ha
      rw [opv_congr (hargs s (by rw [ha]; simp)), use_congr (hargs x (by rw [ha]; simp))]
    · rfl
  · split
    · rename_i t x _ ha
      rw [use_congr (hargs x (by rw [ha]; simp))]
    · rfl
  · split
    · rename_i t t' x y _ ha
      rw [use_congr (hargs x (by rw [ha]; simp)), use_congr (hargs y (by rw [ha]; simp))]
    · rfl
  · split
    · rename_i t x _ ha
      rw [use_congr (hargs x (by rw [ha]; simp))]
    · rfl
  · rw [useL_congr hargs]
  · rw [useL_congr hargs]
  · rfl
  · rfl
  · rename_i f hf
    rw [useL_congr hargs, use_congr (h f (by simp [Op.operands, Call.operands, hf]))]

theorem evMkApp_congr {E : Env} {σ : Store} {c : Call} (h : Agree ρ ρ' (.call c)) : evMkApp E ρ σ c = evMkApp E ρ' σ c := by
  have hargs : ∀ x ∈ c.args.toList, ∀ t, x = .tmp t → ρ t = ρ' t := fun x hx => h x (by simp [Op.operands, Call.operands] at hx ⊢; exact .inr hx)
  unfold evMkApp
  split
  · split
    · rename_i tS tX s x _ ha
      rw [opv_congr (hargs s (by rw [ha]; simp)), use_congr (hargs x (by rw [ha]; simp))]
    · rfl
  · rfl

theorem evCore_congr {E : Env} {F : FnEv} {aps : List Nat} {dst : Option Tmp} {op : Op} {σ : Store} (h : Agree ρ ρ' op) : evCore E F aps dst op ρ σ = evCore E F aps dst op ρ' σ := by
  cases op with
  | move x => exact moveIt_congr (h x (by simp [Op.operands]))
  | assign x => exact moveIt_congr (h x (by simp [Op.operands]))
  | alloc t => rfl
  | box t x => simp only [evCore]; rw [opv_congr (h x (by simp [Op.operands]))]
  | load t x => simp only [evCore]; rw [use_congr (h x (by simp [Op.operands]))]
  | store t x v => simp only [evCore]; rw [use_congr (h x (by simp [Op.operands])), opv_congr (h v (by simp [Op.operands]))]
  | call c =>
    simp only [evCore]
    split
    · exact evMkApp_congr h
    · exact evCall_congr h
  | makeSlice t l c => simp only [evCore]; rw [use_congr (h l (by simp [Op.operands])), use_congr (h c (by simp [Op.operands]))]
  | _ => simp only [evCore]; rw [evPure_congr h]
end congr

theorem looksAt_agree {ops : Array Oper} {o : Oper} {ρ ρ' : Nat → PV} (h : ∀ t ∈ o.looksAt ops, ρ t = ρ' t) : Agree ρ ρ' o.op := by
  intro x hx t ht
  subst ht
  refine h t ?_
  unfold Oper.looksAt
  rw [List.mem_append]
  exact .inl (List.mem_filterMap.2 ⟨.tmp t, hx, rfl⟩)

/-! #### What it writes -/

inductive Cls where
  | pure | rd | al | wr | ro
  deriving DecidableEq

def clsOf (E : Env) (aps : List Nat) (o : Oper) : Cls :=
  match o.op with
  | .alloc _ => .al
  | .box _ _ => .al
  | .load _ _ => if takes aps o.dst then .wr else .rd
  | .store _ _ _ => .wr
  | .makeSlice _ _ _ => if mkSel E o.dst then .pure else .al
  | .call c => if mkSel E o.dst then .al else (match c.callee with
    | .builtin .copy => .wr
    | .builtin .clear => .wr
    | .builtin _ => .pure
    | .value (.func f) => if (E.ext E.loose f).isSome then .wr else if (E.ov f).isSome || E.pure f then .pure else if E.ro f then .ro else .wr
    | _ => .wr)
  | _ => .pure

section cls
variable {E : Env} {F : FnEv} {ρ : Nat → PV}

theorem moveIt_cls {take : Bool} {σ : Store} {x : Operand} {g : Gives} (h : moveIt ρ take σ x = some g) :
    g.2.2 = σ ∧ (∀ σ', moveIt ρ take σ' x = some (g.1, g.2.1, σ')) ∧ ∀ s, g.2.1 = some s → s ∈ (if take then (slotOf x).toList else []) := by
  cases x with
  | tmp s => cases take <;> simp [moveIt] at h <;> subst h <;> simp [moveIt, slotOf]
  | const c =>
    simp only [moveIt] at h
    cases ho : opv ρ (.const c) with
    | none => simp [ho] at h
    | some p => simp [ho] at h; subst h; simp [moveIt, ho]
  | func f => simp [moveIt, opv] at h; subst h; simp [moveIt, opv]
  | global f => simp [moveIt, opv] at h

theorem callIt_pure {f : FuncId} {args : List PV} {σ : Store} {r : PV × Store} (hx : (E.ext E.loose f).isSome ≠ true) (hp : ((E.ov f).isSome || E.pure f) = true) (h : callIt E F f args σ = some r) : r.2 = σ ∧ ∀ σ', callIt E F f args σ' = some (r.1, σ') := by
  have hx' : E.ext E.loose f = none := by simpa using hx
  unfold callIt at h ⊢
  simp only [hx'] at h ⊢
  cases hg : E.ov f with
  | some g =>
    simp only [hg] at h ⊢
    split at h
    · rename_i hd
      cases hr : g args with
      | none => simp [hr] at h
      | some x =>
        simp only [hr, Option.bind_some] at h ⊢
        split at h
        · rename_i hx; cases h; simp [hd, hx]
        · cases h
    · cases h
  | none =>
    simp only [hg, Option.isSome_none, Bool.false_or] at hp
    simp only [hg, hp, if_true] at h ⊢
    split at h
    · rename_i hd
      cases hr : F f args [] with
      | none => simp [hr] at h
      | some x =>
        simp only [hr, Option.bind_some] at h ⊢
        split at h
        · rename_i hx; cases h; simp [hd, hx]
        · rename_i hx
          cases hz : frzP x.2 (x.2.length + 1) x.1 with
          | none => simp [hz] at h
          | some q => simp [hz] at h; subst h; simp [hd, hx, hz]
    · cases h

/-- What a class says of an operation. -/
theorem core_cls {aps : List Nat} {o : Oper} {σ : Store} {g : Gives} (h : evCore E F aps o.dst o.op ρ σ = some g) :
    (∀ s, g.2.1 = some s → s ∈ takenFrom aps o) ∧
    (clsOf E aps o = .pure → g.2.2 = σ ∧ ∀ σ', evCore E F aps o.dst o.op ρ σ' = some (g.1, g.2.1, σ')) ∧
    (clsOf E aps o = .rd → g.2.2 = σ ∧ ∀ c, evCore E F aps o.dst o.op ρ (σ ++ c) = some (g.1, g.2.1, σ ++ c)) ∧
    (clsOf E aps o = .al → ∃ c, g.2.2 = σ ++ c) := by
  have pure : ∀ {op : Op}, (evPure E.P ρ op).map (fun r => (r, (none : Option Nat), σ)) = some g → g.2.1 = none ∧ g.2.2 = σ ∧ ∀ σ' : Store, (evPure E.P ρ op).map (fun r => (r, (none : Option Nat), σ')) = some (g.1, g.2.1, σ') := by
    intro op h
    cases hr : evPure E.P ρ op with
    | none => simp [hr] at h
    | some r => simp [hr] at h; subst h; simp
  obtain ⟨dst, op, ty, pos, after, guard⟩ := o
  simp only at h
  cases op with
  | move x =>
    obtain ⟨h1, h2, h3⟩ := moveIt_cls h
    exact ⟨by simpa [takenFrom] using h3, fun _ => ⟨h1, h2⟩, fun hc => by simp [clsOf] at hc, fun hc => by simp [clsOf] at hc⟩
  | assign x =>
    obtain ⟨h1, h2, h3⟩ := moveIt_cls h
    exact ⟨by simpa [takenFrom] using h3, fun _ => ⟨h1, h2⟩, fun hc => by simp [clsOf] at hc, fun hc => by simp [clsOf] at hc⟩
  | alloc t =>
    simp only [evCore] at h
    cases hz : zeroT E.P t with
    | none => simp [hz] at h
    | some z => simp [hz] at h; subst h; exact ⟨by simp, fun hc => by simp [clsOf] at hc, fun hc => by simp [clsOf] at hc, fun _ => ⟨_, rfl⟩⟩
  | makeSlice t l c =>
    simp only [evCore] at h
    cases hl : use ρ l with
    | none => simp [hl] at h
    | some lv =>
      cases hcv : use ρ c with
      | none => simp [hl, hcv] at h
      | some cv =>
        simp only [hl, hcv, Option.bind_some] at h
        cases hn : natOf lv with
        | none => simp [hn] at h
        | some n =>
          cases hm : natOf cv with
          | none => simp [hn, hm] at h
          | some m =>
            simp only [hn, hm, Option.bind_some] at h
            by_cases hmk : mkSel E dst = true
            · rw [if_pos hmk] at h
              cases hr : evMakeD E.P t n m with
              | none => simp [hr] at h
              | some r => simp [hr] at h; subst h; exact ⟨by simp, fun _ => ⟨rfl, fun σ' => by simp [evCore, hl, hcv, hn, hm, hmk, hr]⟩, fun hc => by simp [clsOf, hmk] at hc, fun hc => by simp [clsOf, hmk] at hc⟩
            have hmf : mkSel E dst = false := by simpa using hmk
            rw [if_neg hmk] at h
            cases hr : evMake E.P t n m with
            | none => simp [hr] at h
            | some r => simp [hr] at h; subst h; exact ⟨by simp, fun hc => by simp [clsOf, hmf] at hc, fun hc => by simp [clsOf, hmf] at hc, fun _ => ⟨_, rfl⟩⟩
  | box t x =>
    simp only [evCore] at h
    cases hx : opv ρ x with
    | none => simp [hx] at h
    | some p =>
      simp only [hx, Option.map_some, Option.some.injEq] at h
      subst h
      exact ⟨by simp, fun hc => by simp [clsOf] at hc, fun hc => by simp [clsOf] at hc, fun _ => ⟨_, rfl⟩⟩
  | load t x =>
    simp only [evCore] at h ⊢
    cases hx : use ρ x with
    | none => simp [hx] at h
    | some p =>
      simp only [hx, Option.bind_some] at h ⊢
      cases hr : loadAs E.P t σ (takes aps dst) p with
      | none => simp [hr] at h
      | some r =>
        rw [hr] at h
        simp only [Option.map_some, Option.some.injEq] at h
        subst h
        refine ⟨by simp, fun hc => by simp only [clsOf] at hc; split at hc <;> simp at hc, fun hc => ?_, fun hc => by simp only [clsOf] at hc; split at hc <;> simp at hc⟩
        have ht : takes aps dst = false := by
          simp only [clsOf] at hc
          split at hc
          · simp at hc
          · rename_i h; simpa using h
        rw [ht] at hr ⊢
        have key : r.2 = σ ∧ ∀ c, loadAs E.P t (σ ++ c) false p = some (r.1, σ ++ c) := by
          have hl : ∀ {id off n : Nat} {ps : List PV} (c : Store), loadS σ id off n = some ps → loadS (σ ++ c) id off n = some ps := by
            intro id off n ps c hh
            obtain ⟨cells, h1, h2, h3⟩ := loadS_get hh
            unfold loadS at hh ⊢
            rw [List.getElem?_append_left (List.getElem?_eq_some_iff.1 h1).1]
            exact hh
          unfold loadAs at hr ⊢
          cases ha : aggT E.P t with
          | none => simp [ha] at hr
          | some ag =>
            simp only [ha, Option.bind_some] at hr ⊢
            split at hr
            · cases ag with
              | true =>
                simp only [if_true] at hr ⊢
                cases hs : szT E.P t with
                | none => simp [hs] at hr
                | some sz =>
                  simp only [hs, Option.bind_some] at hr ⊢
                  rename_i id off
                  cases hq : loadS σ id off sz with
                  | none => simp [hq] at hr
                  | some ps => simp [hq] at hr; subst hr; exact ⟨rfl, fun c => by rw [hl c hq]; rfl⟩
              | false =>
                simp only [Bool.false_eq_true, if_false] at hr ⊢
                rename_i id off
                cases hq : loadS σ id off 1 with
                | none => simp [hq] at hr
                | some ps =>
                  simp only [hq, Option.bind_some] at hr
                  split at hr
                  · cases hr; exact ⟨rfl, fun c => by rw [hl c hq]; rfl⟩
                  · cases hr
            · cases ag with
              | true =>
                simp only [if_true] at hr ⊢
                cases hs : szT E.P t with
                | none => simp [hs] at hr
                | some sz =>
                  simp only [hs, Option.bind_some] at hr ⊢
                  split at hr
                  · rename_i hle; cases hr; exact ⟨rfl, fun c => by rw [if_pos hle]⟩
                  · cases hr
              | false =>
                simp only [Bool.false_eq_true, if_false] at hr ⊢
                rename_i cells
                cases hq : cells[0]? with
                | none => simp [hq] at hr
                | some y => simp [hq] at hr; subst hr; exact ⟨rfl, fun c => rfl⟩
            · cases hr
        exact ⟨key.1, fun c => by rw [key.2 c]; rfl⟩
  | store t x v =>
    simp only [evCore] at h
    cases hx : use ρ x with
    | none => simp [hx] at h
    | some p =>
      cases hv : opv ρ v with
      | none => simp [hx, hv] at h
      | some u =>
        simp only [hx, hv, Option.bind_some] at h
        cases hs : storeAs E.P E.loose t σ p u with
        | none => simp [hs] at h
        | some σ' =>
          simp [hs] at h
          subst h
          exact ⟨fun s hs => by simp only at hs; simp [takenFrom, hs], fun hc => by simp [clsOf] at hc, fun hc => by simp [clsOf] at hc, fun hc => by simp [clsOf] at hc⟩
  | call c =>
    simp only [evCore] at h ⊢
    by_cases hmk : mkSel E dst = true
    · rw [if_pos hmk] at h
      obtain ⟨m1, m2⟩ := evMkApp_ext h
      exact ⟨fun s hs => (by rw [m1] at hs; cases hs), fun hc => by simp [clsOf, hmk] at hc, fun hc => by simp [clsOf, hmk] at hc, fun _ => m2⟩
    have hmf : mkSel E dst = false := by simpa using hmk
    simp only [hmf, Bool.false_eq_true, if_false] at h ⊢
    obtain ⟨callee, args, tys⟩ := c
    simp only [evCall] at h ⊢
    split at h
    · split at h
      · rename_i tS tX s x h1 h2
        split at h
        · rename_i htt
          subst htt
          cases hs : opv ρ s with
          | none => simp [hs] at h
          | some sv =>
            cases hx : use ρ x with
            | none => simp [hs, hx] at h
            | some xv =>
              simp only [hs, hx, Option.bind_some] at h
              cases hr : evAppend E.P tS sv xv with
              | none => simp [hr] at h
              | some r =>
                simp [hr] at h
                subst h
                refine ⟨fun k hk => by simp only at hk; simp [takenFrom, h2, hk], fun _ => ⟨rfl, fun σ' => by simp [hs, hx, hr]⟩, fun hc => by simp [clsOf, hmf] at hc, fun hc => by simp [clsOf, hmf] at hc⟩
        · cases h
      · cases h
    · split at h
      · rename_i t x h1 h2
        cases hx : use ρ x with
        | none => simp [hx] at h
        | some p =>
          simp only [hx, Option.bind_some] at h
          cases hr : evLen E.P t p with
          | none => simp [hr] at h
          | some r =>
            simp [hr] at h
            subst h
            refine ⟨by simp, fun _ => ⟨rfl, fun σ' => by simp [hx, hr]⟩, fun hc => by simp [clsOf, hmf] at hc, fun hc => by simp [clsOf, hmf] at hc⟩
      · cases h
    · split at h
      · rename_i t t' x y h1 h2
        cases hx : use ρ x with
        | none => simp [hx] at h
        | some p =>
          cases hy : use ρ y with
          | none => simp [hx, hy] at h
          | some q =>
            simp only [hx, hy, Option.bind_some] at h
            cases hr : evCopy E.P E.loose t σ p q with
            | none => simp [hr] at h
            | some r =>
              simp [hr] at h
              subst h
              refine ⟨by simp, fun hc => by simp [clsOf, hmf] at hc, fun hc => by simp [clsOf, hmf] at hc, fun hc => by simp [clsOf, hmf] at hc⟩
      · cases h
    · split at h
      · rename_i t x h1 h2
        cases hx : use ρ x with
        | none => simp [hx] at h
        | some p =>
          simp only [hx, Option.bind_some] at h
          cases hr : evClear E.P t σ p with
          | none => simp [hr] at h
          | some r =>
            simp [hr] at h
            subst h
            refine ⟨by simp, fun hc => by simp [clsOf, hmf] at hc, fun hc => by simp [clsOf, hmf] at hc, fun hc => by simp [clsOf, hmf] at hc⟩
      · cases h
    · cases hps : useL ρ args.toList with
      | none => simp [hps] at h
      | some ps =>
        simp only [hps, Option.bind_some] at h
        cases hr : evMinMax E.P false ps with
        | none => simp [hr] at h
        | some r =>
          simp [hr] at h
          subst h
          refine ⟨by simp, fun _ => ⟨rfl, fun σ' => by simp [hps, hr]⟩, fun hc => by simp [clsOf, hmf] at hc, fun hc => by simp [clsOf, hmf] at hc⟩
    · cases hps : useL ρ args.toList with
      | none => simp [hps] at h
      | some ps =>
        simp only [hps, Option.bind_some] at h
        cases hr : evMinMax E.P true ps with
        | none => simp [hr] at h
        | some r =>
          simp [hr] at h
          subst h
          refine ⟨by simp, fun _ => ⟨rfl, fun σ' => by simp [hps, hr]⟩, fun hc => by simp [clsOf, hmf] at hc, fun hc => by simp [clsOf, hmf] at hc⟩
    · cases h
    · cases h
    · rename_i f
      cases hfv : use ρ f with
      | none => simp [hfv] at h
      | some fv =>
        cases hps : useL ρ args.toList with
        | none => simp [hfv, hps] at h
        | some ps =>
          simp only [hfv, hps, Option.bind_some] at h
          split at h
          · rename_i g' first captured
            cases hr : callIt E F g' (first.map PV.strip ++ ps ++ captured.map PV.strip) σ with
            | none => rw [hr] at h; cases h
            | some r =>
              rw [hr] at h
              cases h
              have hcls : ∀ {C : Cls}, clsOf E aps ⟨dst, .call ⟨.value f, args, tys⟩, ty, pos, after, guard⟩ = C → C ≠ .wr → C ≠ .ro → C = .pure ∧ ∃ f', f = .func f' ∧ (E.ext E.loose f').isSome ≠ true ∧ ((E.ov f').isSome || E.pure f') = true := by
                intro C hC hn1 hn2
                simp only [clsOf, hmf, Bool.false_eq_true, if_false] at hC
                split at hC
                all_goals first
                  | (rename_i hb; cases hb; done)
                  | (rename_i b hb; cases hb; done)
                  | (rename_i b hb h1 h2; cases hb; done)
                  | (rename_i f' hb
                     cases hb
                     split at hC
                     · exact absurd hC.symm hn1
                     · split at hC
                       · rename_i e1 e2
                         exact ⟨hC.symm, f', rfl, e1, e2⟩
                       · split at hC
                         · exact absurd hC.symm hn2
                         · exact absurd hC.symm hn1)
                  | exact absurd hC.symm hn1
              refine ⟨by simp, fun hc => ?_, fun hc => ?_, fun hc => ?_⟩
              · obtain ⟨_, f', rfl, hxx, hpp⟩ := hcls hc (by simp) (by simp)
                simp [use, opv, PV.strip, PV.strip1] at hfv
                obtain ⟨rfl, rfl, rfl⟩ := hfv
                obtain ⟨c1, c2⟩ := callIt_pure hxx hpp hr
                simp only [List.map_nil, List.nil_append, List.append_nil] at c2
                exact ⟨c1, fun σ' => by simp [c2 σ', use, opv, PV.strip, PV.strip1]⟩
              · exact absurd (hcls hc (by simp) (by simp)).1 (by simp)
              · exact absurd (hcls hc (by simp) (by simp)).1 (by simp)
          · cases h
  | _ =>
    first
      | (simp [evCore, evPure] at h; done)
      | (have hp := pure h
         exact ⟨fun s hs => (by rw [hp.1] at hs; cases hs), fun _ => ⟨hp.2.1, fun σ' => hp.2.2 σ'⟩, fun hc => (by simp [clsOf] at hc), fun hc => (by simp [clsOf] at hc)⟩)
end cls
end Go.Pv

set_option linter.unusedVariables false
set_option linter.unusedSimpArgs false
namespace Go.Pv
open Go

def disj (a b : List Nat) : Bool := a.all fun x => !b.contains x

def compat : Cls → Cls → Bool
  | .pure, _ => true
  | _, .pure => true
  | .rd, .rd => true
  | .rd, .al => true
  | .ro, .ro => true
  | .ro, .rd => true
  | .rd, .ro => true
  | _, _ => false

/-- May x and y, x ahead in the text, be exchanged? -/
def apOps (D : List (Nat × Nat)) (aps : List Nat) (x y : Oper) : Bool :=
  match x.op, y.op with
  | .load _ (.tmp a), .store _ (.tmp b) _ => D.contains (a, b) && !takes aps x.dst
  | _, _ => false

/-- Two loads of which one takes the spare room along. -/
def tkOps (aps : List Nat) (x y : Oper) : Bool :=
  match x.op, y.op with
  | .load _ _, .load _ _ => takes aps x.dst != takes aps y.dst
  | _, _ => false

def indep (E : Env) (ops : Array Oper) (aps : List Nat) (D : List (Nat × Nat)) (x y : Oper) : Bool :=
  disj (writesOf aps x) (y.looksAt ops) && disj (writesOf aps x) (writesOf aps y) && disj (writesOf aps y) (x.looksAt ops) && (compat (clsOf E aps x) (clsOf E aps y) || apOps D aps x y || tkOps aps x y)

def Apart (D : List (Nat × Nat)) (ρ : Nat → PV) : Prop := ∀ x ∈ D, apartB ρ x = true

theorem apart_of {ρ : Nat → PV} : ∀ {D : List (Nat × Nat)}, apartL ρ D = true → Apart D ρ
  | [], _, x, hx => by simp at hx
  | y :: D, h, x, hx => by
    simp only [apartL, Bool.and_eq_true] at h
    cases hx with
    | head => exact h.1
    | tail _ hx => exact apart_of h.2 x hx

theorem Apart.congr {D : List (Nat × Nat)} {ρ ρ' : Nat → PV} (h : Apart D ρ) (he : ∀ x ∈ D, ρ' x.1 = ρ x.1 ∧ ρ' x.2 = ρ x.2) : Apart D ρ' := fun x hx => by
  unfold apartB
  rw [(he x hx).1, (he x hx).2]
  exact h x hx

theorem disj_spec {a b : List Nat} (h : disj a b = true) : ∀ x ∈ a, ∀ y ∈ b, x ≠ y := by
  intro x hx y hy he
  subst he
  have := List.all_eq_true.1 h x hx
  simp at this
  exact this hy

section comm
variable {E : Env} {F : FnEv} {ops : Array Oper}

theorem want_congr {o : Oper} {ρ ρ' : Nat → PV} (h : ∀ t ∈ o.looksAt ops, ρ t = ρ' t) : evWant ops o ρ = evWant ops o ρ' := by
  unfold evWant
  cases hg : o.guard with
  | none => rfl
  | some jw =>
    obtain ⟨j, want⟩ := jw
    simp only []
    cases hd : (ops[j]?).bind (·.dst) with
    | none => rfl
    | some s =>
      simp only []
      rw [h s]
      unfold Oper.looksAt
      rw [List.mem_append]
      refine .inr ?_
      simp [hg, hd]

theorem evOpR_congr {o : Oper} {ρ ρ' : Nat → PV} {σ : Store} (h : ∀ t ∈ o.looksAt ops, ρ t = ρ' t) (ht : ∀ t ∈ takenFrom (appendFirst ops.toList) o, ρ t = ρ' t) : evOpR E F ops o ρ σ = evOpR E F ops o ρ' σ := by
  unfold evOpR
  rw [want_congr h]
  cases evWant ops o ρ' with
  | none => rfl
  | some b =>
    simp only [Option.bind_some]
    rw [evCore_congr (looksAt_agree h)]
    cases hc : evCore E F (appendFirst ops.toList) o.dst o.op ρ' σ with
    | none => rfl
    | some g =>
      have hk := (core_cls hc).1
      have : untakeU ρ g.2.1 = untakeU ρ' g.2.1 := by
        cases hs : g.2.1 with
        | none => rfl
        | some s => simp only [untakeU]; rw [ht s (hk s hs)]
      simp only [Option.map_some, this]

theorem opR_cls {o : Oper} {ρ : Nat → PV} {σ : Store} {r : List (Nat × PV) × Store} (h : evOpR E F ops o ρ σ = some r) :
    (∀ x ∈ r.1, x.1 ∈ writesOf (appendFirst ops.toList) o) ∧
    (clsOf E (appendFirst ops.toList) o = .pure → r.2 = σ ∧ ∀ σ', evOpR E F ops o ρ σ' = some (r.1, σ')) ∧
    (clsOf E (appendFirst ops.toList) o = .rd → r.2 = σ ∧ ∀ c, evOpR E F ops o ρ (σ ++ c) = some (r.1, σ ++ c)) ∧
    (clsOf E (appendFirst ops.toList) o = .al → ∃ c, r.2 = σ ++ c) := by
  unfold evOpR at h ⊢
  cases hw : evWant ops o ρ with
  | none => simp [hw] at h
  | some b =>
    simp only [hw, Option.bind_some] at h ⊢
    have hput : ∀ v, ∀ x ∈ putU o.dst v, x.1 ∈ writesOf (appendFirst ops.toList) o := by
      intro v x hx
      unfold writesOf
      rw [List.mem_append]
      refine .inr ?_
      cases hd : o.dst with
      | none => rw [hd] at hx; simp [putU] at hx
      | some d => rw [hd] at hx; simp [putU] at hx; subst hx; simp
    cases b with
    | true =>
      simp only [if_true] at h ⊢
      cases hc : evCore E F (appendFirst ops.toList) o.dst o.op ρ σ with
      | none => simp [hc] at h
      | some g =>
        simp [hc] at h
        subst h
        obtain ⟨h1, h2, h3, h4⟩ := core_cls hc
        refine ⟨fun x hx => ?_, fun hcl => ⟨(h2 hcl).1, fun σ' => by rw [(h2 hcl).2 σ']; rfl⟩, fun hcl => ⟨(h3 hcl).1, fun c => by rw [(h3 hcl).2 c]; rfl⟩, fun hcl => h4 hcl⟩
        rcases List.mem_append.1 hx with hx | hx
        · unfold writesOf
          rw [List.mem_append]
          refine .inl (h1 x.1 ?_)
          cases ht : g.2.1 with
          | none => rw [ht] at hx; simp [untakeU] at hx
          | some s => rw [ht] at hx; simp [untakeU] at hx; subst hx; rfl
        · exact hput _ x hx
    | false =>
      simp at h
      subst h
      exact ⟨hput _, fun _ => ⟨rfl, fun σ' => by simp⟩, fun _ => ⟨rfl, fun c => by simp⟩, fun _ => ⟨[], by simp⟩⟩

theorem takenFrom_reads (aps : List Nat) (o : Oper) : ∀ s ∈ takenFrom aps o, s ∈ o.looksAt ops := by
  have key : ∀ x : Operand, x ∈ o.op.operands.toList → ∀ s ∈ (slotOf x).toList, s ∈ o.looksAt ops := by
    intro x hx s hs
    unfold Oper.looksAt
    rw [List.mem_append]
    refine .inl (List.mem_filterMap.2 ⟨x, hx, ?_⟩)
    cases x <;> simp [slotOf] at hs
    subst hs
    rfl
  intro s hs
  unfold takenFrom at hs
  split at hs
  · rename_i x hop
    split at hs
    · exact key x (by rw [hop]; simp [Op.operands]) s hs
    · simp at hs
  · rename_i x hop
    exact key x (by rw [hop]; simp [Op.operands]) s hs
  · rename_i t p x hop
    exact key x (by rw [hop]; simp [Op.operands]) s hs
  · rename_i c hop
    split at hs
    · rename_i s0 rest _ ha
      refine key s0 ?_ s hs
      rw [hop]
      simp only [Op.operands, Call.operands, Array.toList_append, List.mem_append]
      exact .inr (by rw [ha]; simp)
    · simp at hs
  · simp at hs

/-- Two operations that are independent may be exchanged. -/
theorem core_ro {aps : List Nat} {o : Oper} {ρ : Nat → PV} {σ : Store} {g : Gives} (hc : clsOf E aps o = .ro) (h : evCore E F aps o.dst o.op ρ σ = some g) : g.2.2 = σ := by
  obtain ⟨dst, op, ty, pos, after, guard⟩ := o
  unfold clsOf at hc
  cases op <;> simp only [] at hc <;> try (cases hc; done)
  case load t x => split at hc <;> cases hc
  case makeSlice t l c => split at hc <;> cases hc
  case call c =>
    split at hc
    · cases hc
    rename_i hmk
    simp only [evCore, hmk, if_false] at h
    obtain ⟨callee, args, argTypes⟩ := c
    cases callee with
    | builtin b => cases b <;> simp at hc
    | invoke r n => simp at hc
    | value f =>
      cases f with
      | func f =>
        simp only at hc
        split at hc
        · cases hc
        rename_i hx0
        have hx' : E.ext E.loose f = none := by simpa using hx0
        split at hc
        · cases hc
        · rename_i hp
          split at hc
          · rename_i hro
            simp only [Bool.or_eq_true, not_or, Bool.not_eq_true] at hp
            have hov : E.ov f = none := by
              have := hp.1
              cases hq : E.ov f with
              | none => rfl
              | some _ => rw [hq] at this; cases this
            simp only [evCall] at h
            have hu : use ρ (.func f) = some (.func (.func f) [] []) := rfl
            rw [hu] at h
            simp only [Option.bind_some] at h
            cases ha : useL ρ args.toList with
            | none => simp [ha] at h
            | some as =>
              simp only [ha, Option.bind_some, callIt, hx', hov, hp.2, hro, if_true, Bool.false_eq_true, if_false] at h
              cases hr : F f (([] : List PV).map PV.strip ++ as ++ ([] : List PV).map PV.strip) σ with
              | none => rw [hr] at h; cases h
              | some r =>
                rw [hr] at h
                simp only [Option.bind_some] at h
                split at h
                · cases h; rfl
                · cases h
          · cases hc
      | _ => simp at hc

theorem opR_ro {o : Oper} {ρ : Nat → PV} {σ : Store} {r : List (Nat × PV) × Store} (hc : clsOf E (appendFirst ops.toList) o = .ro) (h : evOpR E F ops o ρ σ = some r) : r.2 = σ := by
  unfold evOpR at h
  cases hw : evWant ops o ρ with
  | none => simp [hw] at h
  | some w =>
    cases w with
    | false => simp [hw] at h; subst h; rfl
    | true =>
      simp only [hw, Option.bind_some, if_true] at h
      cases hg : evCore E F (appendFirst ops.toList) o.dst o.op ρ σ with
      | none => simp [hg] at h
      | some g => simp [hg] at h; subst h; exact core_ro hc hg

theorem loadAs_other {P : Program} {t : TypeId} {σ : Store} {i o j : Nat} {c : List PV} {r : PV × Store} (hij : i ≠ j) (h : loadAs P t σ false (.ptr i o) = some r) :
    r.2 = σ ∧ loadAs P t (σ.set j c) false (.ptr i o) = some (r.1, σ.set j c) := by
  have hl : ∀ n, loadS (σ.set j c) i o n = loadS σ i o n := fun n => by
    unfold loadS
    rw [List.getElem?_set, if_neg (Ne.symm hij)]
  unfold loadAs at h ⊢
  cases ha : aggT P t with
  | none => simp [ha] at h
  | some b =>
    cases b with
    | true =>
      simp only [ha, Option.bind_some, if_true] at h ⊢
      cases hs : szT P t with
      | none => simp [hs] at h
      | some n =>
        simp only [hs, Option.bind_some, hl] at h ⊢
        cases hv : loadS σ i o n with
        | none => simp [hv] at h
        | some v => simp [hv] at h ⊢; subst h; exact ⟨rfl, rfl⟩
    | false =>
      simp only [ha, Option.bind_some, Bool.false_eq_true, if_false, hl] at h ⊢
      cases hv : loadS σ i o 1 with
      | none => simp [hv] at h
      | some v =>
        simp only [hv, Option.bind_some] at h ⊢
        split at h
        · cases h; exact ⟨rfl, rfl⟩
        · cases h

theorem load_apart {D : List (Nat × Nat)} {x y : Oper} {ρ : Nat → PV} {σ : Store} {rx ry : List (Nat × PV) × Store} (hap : apOps D (appendFirst ops.toList) x y = true) (hD : Apart D ρ)
    (hx : evOpR E F ops x ρ σ = some rx) (hy : evOpR E F ops y ρ σ = some ry) : rx.2 = σ ∧ evOpR E F ops x ρ ry.2 = some (rx.1, ry.2) := by
  unfold apOps at hap
  split at hap
  · rename_i t a t' b v hxo hyo
    simp only [Bool.and_eq_true, Bool.not_eq_true', List.contains_iff_mem] at hap
    obtain ⟨hmem, htk⟩ := hap
    have hab := hD _ hmem
    unfold apartB at hab
    split at hab
    · rename_i i oi j oj hi hj
      simp only [bne_iff_ne] at hab
      -- the store's store
      have hσ : ry.2 = σ ∨ ∃ c, ry.2 = σ.set j c := by
        unfold evOpR at hy
        cases hw : evWant ops y ρ with
        | none => simp [hw] at hy
        | some w =>
          cases w with
          | false => simp [hw] at hy; subst hy; exact .inl rfl
          | true =>
            simp only [hw, Option.bind_some, if_true, evCore, hyo] at hy
            have hu : use ρ (.tmp b) = some (.ptr j oj) := by simp only [use, opv, Option.map_some, hj]; rfl
            rw [hu] at hy
            simp only [Option.bind_some] at hy
            cases hv : opv ρ v with
            | none => simp [hv] at hy
            | some u =>
              simp only [hv, Option.bind_some] at hy
              cases hs : storeAs E.P E.loose t' σ (.ptr j oj) u with
              | none => simp [hs] at hy
              | some σ' =>
                simp [hs] at hy
                subst hy
                unfold storeAs at hs
                simp only at hs
                split at hs
                · unfold storeS at hs
                  cases hg : σ[j]? with
                  | none => simp [hg] at hs
                  | some cs =>
                    simp only [hg, Option.bind_some] at hs
                    split at hs
                    · cases hs; exact .inr ⟨_, rfl⟩
                    · cases hs
                · cases hs
      unfold evOpR at hx ⊢
      cases hw : evWant ops x ρ with
      | none => simp [hw] at hx
      | some w =>
        cases w with
        | false => simp [hw] at hx ⊢; subst hx; exact ⟨rfl, rfl⟩
        | true =>
          simp only [hw, Option.bind_some, if_true, evCore, hxo, htk] at hx ⊢
          have hu : use ρ (.tmp a) = some (.ptr i oi) := by simp only [use, opv, Option.map_some, hi]; rfl
          rw [hu] at hx ⊢
          simp only [Option.bind_some] at hx ⊢
          cases hl : loadAs E.P t σ false (.ptr i oi) with
          | none => simp [hl] at hx
          | some r =>
            rw [hl] at hx
            rcases hσ with hσ | ⟨c, hσ⟩
            · rw [hσ, hl]
              have := (loadAs_other (c := []) hab hl).1
              simp at hx
              subst hx
              refine ⟨this, ?_⟩
              simp [this]
            · obtain ⟨h1, h2⟩ := loadAs_other (c := c) hab hl
              rw [hσ, h2]
              simp at hx
              subst hx
              exact ⟨h1, by simp⟩
    · cases hab
  · cases hap

theorem apOps_rd {D : List (Nat × Nat)} {x y : Oper} {ρ : Nat → PV} {σ : Store} {rx : List (Nat × PV) × Store} (hap : apOps D (appendFirst ops.toList) x y = true) (hx : evOpR E F ops x ρ σ = some rx) : rx.2 = σ := by
  unfold apOps at hap
  split at hap
  · rename_i t a t' b v hxo hyo
    simp only [Bool.and_eq_true, Bool.not_eq_true'] at hap
    exact ((opR_cls hx).2.2.1 (by simp [clsOf, hxo, hap.2])).1
  · cases hap

theorem strip_strip1 (p : PV) : p.strip1.strip = p.strip := by cases p <;> rfl
theorem strip1_strip1 (p : PV) : p.strip1.strip1 = p.strip1 := by cases p <;> rfl

/-- A load that takes, or not, changes at most one cell: it has its spare room no more. -/
theorem take_effect {P : Program} {t : TypeId} {σ : Store} {tk : Bool} {p : PV} {r : PV × Store} (h : loadAs P t σ tk p = some r) :
    r.2 = σ ∨ ∃ (id off : Nat) (cells : List PV) (c : PV), σ[id]? = some cells ∧ cells[off]? = some c ∧ r.2 = σ.set id (cells.set off c.strip1) := by
  unfold loadAs at h
  cases ha : aggT P t with
  | none => simp [ha] at h
  | some b =>
    simp only [ha, Option.bind_some] at h
    split at h
    · rename_i id off
      split at h
      · cases hs : szT P t with
        | none => simp [hs] at h
        | some n =>
          simp only [hs, Option.bind_some] at h
          cases hv : loadS σ id off n with
          | none => simp [hv] at h
          | some v => simp [hv] at h; subst h; exact .inl rfl
      · cases hv : loadS σ id off 1 with
        | none => simp [hv] at h
        | some v =>
          simp only [hv, Option.bind_some] at h
          split at h
          · rename_i c
            split at h
            · cases hst : storeS σ id off [c.strip1] with
              | none => simp [hst] at h
              | some σ' =>
                simp [hst] at h
                subst h
                obtain ⟨cells, hc, hlen, hps⟩ := loadS_get hv
                have hcc : cells[off]? = some c := by
                  have : ([c] : List PV)[0]? = ((cells.drop off).take 1)[0]? := by rw [← hps]
                  rw [List.getElem?_take] at this
                  simpa using this.symm
                refine .inr ⟨id, off, cells, c, hc, hcc, ?_⟩
                unfold storeS at hst
                simp only [hc, Option.bind_some] at hst
                split at hst
                · rename_i hle
                  cases hst
                  show σ.set id _ = σ.set id _
                  congr 1
                  apply List.ext_getElem?
                  intro j
                  simp only [List.length_cons, List.length_nil] at hle
                  rw [List.getElem?_set]
                  by_cases hj : off = j
                  · subst hj
                    rw [if_pos rfl, List.append_assoc, List.getElem?_append_right (by simp; omega)]
                    simp
                    rw [show off - min off cells.length = 0 by omega, if_pos (by omega)]
                    simp
                  · rw [if_neg hj, List.append_assoc]
                    by_cases hj2 : j < off
                    · rw [List.getElem?_append_left (by simp; omega), List.getElem?_take, if_pos hj2]
                    · rw [List.getElem?_append_right (by simp; omega), List.getElem?_append_right (by simp; omega), List.getElem?_drop]
                      congr 1
                      simp
                      omega
                · cases hst
            · cases h; exact .inl rfl
          · cases h
    · split at h
      · cases hs : szT P t with
        | none => simp [hs] at h
        | some n =>
          simp only [hs, Option.bind_some] at h
          split at h
          · cases h; exact .inl rfl
          · cases h
      · rename_i cells _
        cases hc : cells[0]? with
        | none => simp [hc] at h
        | some c => simp [hc] at h; subst h; exact .inl rfl
    · cases h

/-- A load that takes nothing along sees no difference. -/
theorem plain_after {P : Program} {t : TypeId} {σ : Store} {q : PV} {id off : Nat} {cells : List PV} {c : PV} (hc : σ[id]? = some cells) (hcc : cells[off]? = some c) :
    loadAs P t (σ.set id (cells.set off c.strip1)) false q = (loadAs P t σ false q).map fun r => (r.1, σ.set id (cells.set off c.strip1)) := by
  have hol : off < cells.length := (List.getElem?_eq_some_iff.1 hcc).1
  have hidl : id < σ.length := (List.getElem?_eq_some_iff.1 hc).1
  have hl : ∀ i o n, (loadS σ i o n = none ∧ loadS (σ.set id (cells.set off c.strip1)) i o n = none) ∨ ∃ v v', loadS σ i o n = some v ∧ loadS (σ.set id (cells.set off c.strip1)) i o n = some v' ∧ v'.map PV.strip1 = v.map PV.strip1 ∧ v'.map PV.strip = v.map PV.strip := by
    intro i o n
    unfold loadS
    rw [List.getElem?_set]
    by_cases hi : id = i
    · subst hi
      rw [if_pos rfl, if_pos hidl, hc]
      simp only [Option.bind_some, List.length_set]
      by_cases hle : o + n ≤ cells.length
      · rw [if_pos hle, if_pos hle]
        have key : ∀ f : PV → PV, (f c.strip1 = f c) → (((cells.set off c.strip1).drop o).take n).map f = ((cells.drop o).take n).map f := by
          intro f hf
          have : (cells.set off c.strip1).map f = cells.map f := by
            apply List.ext_getElem?
            intro j
            rw [List.getElem?_map, List.getElem?_map, List.getElem?_set]
            split
            · rename_i hj
              subst hj
              rw [hcc]
              simp [hf]
            · rfl
          rw [List.map_take, List.map_drop, this, List.map_take, List.map_drop]
        exact .inr ⟨_, _, rfl, rfl, key _ (strip1_strip1 c), key _ (strip_strip1 c)⟩
      · rw [if_neg hle, if_neg hle]
        exact .inl ⟨rfl, rfl⟩
    · rw [if_neg hi]
      cases hs : σ[i]? with
      | none => exact .inl ⟨rfl, rfl⟩
      | some cs =>
        simp only [Option.bind_some]
        by_cases hle : o + n ≤ cs.length
        · rw [if_pos hle]; exact .inr ⟨_, _, rfl, rfl, rfl, rfl⟩
        · rw [if_neg hle]; exact .inl ⟨rfl, rfl⟩
  unfold loadAs
  cases ha : aggT P t with
  | none => rfl
  | some b =>
    simp only [Option.bind_some]
    cases q with
    | ptr i o =>
      simp only
      cases b with
      | true =>
        simp only [if_true]
        cases hs : szT P t with
        | none => rfl
        | some n =>
          simp only [Option.bind_some]
          rcases hl i o n with ⟨h1, h2⟩ | ⟨v, v', h1, h2, h3, _⟩
          · rw [h1, h2]; rfl
          · rw [h1, h2]; simp [h3]
      | false =>
        simp only [Bool.false_eq_true, if_false]
        rcases hl i o 1 with ⟨h1, h2⟩ | ⟨v, v', h1, h2, _, h4⟩
        · rw [h1, h2]; rfl
        · rw [h1, h2]
          simp only [Option.bind_some]
          cases v with
          | nil => cases v' with
            | nil => rfl
            | cons _ _ => simp at h4
          | cons a as => cases v' with
            | nil => simp at h4
            | cons a' as' =>
              simp at h4
              cases as with
              | nil =>
                have : as' = [] := by simpa using h4.2
                subst this
                simp [h4.1]
              | cons x xs => cases as' with
                | nil => simp at h4
                | cons _ _ => rfl
    | ro cs =>
      simp only
      cases b with
      | true =>
        simp only [if_true]
        cases hs : szT P t with
        | none => rfl
        | some n =>
          simp only [Option.bind_some]
          split <;> rfl
      | false =>
        simp only [Bool.false_eq_true, if_false]
        cases cs[0]? <;> rfl
    | _ => rfl

/-- A load, as an operation of a region. -/
theorem opR_load {o : Oper} {t : TypeId} {x : Operand} (ho : o.op = .load t x) (ρ : Nat → PV) : (∀ σ, evOpR E F ops o ρ σ = none) ∨ (∃ l, ∀ σ, evOpR E F ops o ρ σ = some (l, σ)) ∨
    ∃ (p : PV) (g : PV → List (Nat × PV)), ∀ σ, evOpR E F ops o ρ σ = (loadAs E.P t σ (takes (appendFirst ops.toList) o.dst) p).map fun r => (g r.1, r.2) := by
  unfold evOpR
  cases hw : evWant ops o ρ with
  | none => exact .inl (fun σ => rfl)
  | some w =>
    cases w with
    | false => exact .inr (.inl ⟨_, fun σ => rfl⟩)
    | true =>
      simp only [Option.bind_some, if_true, evCore, ho]
      cases hx : use ρ x with
      | none => exact .inl (fun σ => rfl)
      | some p =>
        simp only [Option.bind_some]
        refine .inr (.inr ⟨p, fun v => (untakeU ρ none) ++ (putU o.dst v), fun σ => ?_⟩)
        cases loadAs E.P t σ (takes (appendFirst ops.toList) o.dst) p <;> rfl

theorem load_take {x y : Oper} {ρ : Nat → PV} {σ : Store} {rx ry : List (Nat × PV) × Store} (htk : tkOps (appendFirst ops.toList) x y = true)
    (hx : evOpR E F ops x ρ σ = some rx) (hy : evOpR E F ops y ρ rx.2 = some ry) : ∃ σ1, evOpR E F ops y ρ σ = some (ry.1, σ1) ∧ evOpR E F ops x ρ σ1 = some (rx.1, ry.2) := by
  unfold tkOps at htk
  split at htk
  · rename_i t a t' b hxo hyo
    rcases opR_load (E := E) (F := F) (ops := ops) hxo ρ with h | ⟨l, h⟩ | ⟨p, g, h⟩
    · rw [h] at hx; cases hx
    · rw [h] at hx
      cases hx
      exact ⟨ry.2, hy, h _⟩
    · rcases opR_load (E := E) (F := F) (ops := ops) hyo ρ with h' | ⟨l, h'⟩ | ⟨q, g', h'⟩
      · rw [h'] at hy; cases hy
      · rw [h'] at hy
        cases hy
        exact ⟨σ, h' _, hx⟩
      · rw [h] at hx
        rw [h'] at hy
        cases hl : loadAs E.P t σ (takes (appendFirst ops.toList) x.dst) p with
        | none => rw [hl] at hx; cases hx
        | some r =>
          rw [hl] at hx
          simp at hx
          subst hx
          simp only at hy
          cases hl' : loadAs E.P t' r.2 (takes (appendFirst ops.toList) y.dst) q with
          | none => rw [hl'] at hy; cases hy
          | some r' =>
            rw [hl'] at hy
            simp at hy
            subst hy
            simp only [h, h']
            have hplain : ∀ {t : TypeId} {σ : Store} {p : PV} {r : PV × Store}, loadAs E.P t σ false p = some r → r.2 = σ := by
              intro t σ p r hh
              unfold loadAs at hh
              cases ha : aggT E.P t with
              | none => simp [ha] at hh
              | some b =>
                simp only [ha, Option.bind_some] at hh
                split at hh
                · split at hh
                  · cases hs : szT E.P t with
                    | none => simp [hs] at hh
                    | some n =>
                      simp only [hs, Option.bind_some] at hh
                      rename_i id off _
                      cases hv : loadS σ id off n with
                      | none => simp [hv] at hh
                      | some v => simp [hv] at hh; subst hh; rfl
                  · rename_i id off _
                    cases hv : loadS σ id off 1 with
                    | none => simp [hv] at hh
                    | some v =>
                      simp only [hv, Option.bind_some] at hh
                      split at hh
                      · simp only [Bool.false_eq_true, if_false] at hh; cases hh; rfl
                      · cases hh
                · split at hh
                  · cases hs : szT E.P t with
                    | none => simp [hs] at hh
                    | some n =>
                      simp only [hs, Option.bind_some] at hh
                      split at hh
                      · cases hh; rfl
                      · cases hh
                  · rename_i cells _
                    cases hc : cells[0]? with
                    | none => simp [hc] at hh
                    | some c => simp [hc] at hh; subst hh; rfl
                · cases hh
            cases hkx : takes (appendFirst ops.toList) x.dst with
            | true =>
              have hky : takes (appendFirst ops.toList) y.dst = false := by rw [hkx] at htk; simpa using htk
              rw [hkx] at hl
              rw [hky] at hl' ⊢
              have hr' := hplain hl'
              rcases take_effect hl with he | ⟨id, off, cells, c, h1, h2, h3⟩
              · refine ⟨σ, ?_, ?_⟩
                · rw [he] at hl'
                  rw [hl']
                  simp [hr', he]
                · rw [hl]; simp [hr']
              · rw [h3, plain_after h1 h2] at hl'
                cases hl0 : loadAs E.P t' σ false q with
                | none => rw [hl0] at hl'; cases hl'
                | some r0 =>
                  rw [hl0] at hl'
                  simp at hl'
                  refine ⟨σ, ?_, ?_⟩
                  · have := hplain hl0
                    simp [← hl', this]
                  · rw [hl]; simp [hr']
            | false =>
              have hky : takes (appendFirst ops.toList) y.dst = true := by rw [hkx] at htk; simpa using htk
              rw [hkx] at hl
              rw [hky] at hl' ⊢
              have hr := hplain hl
              rw [hr] at hl'
              refine ⟨r'.2, by rw [hl']; rfl, ?_⟩
              rcases take_effect hl' with he | ⟨id, off, cells, c, h1, h2, h3⟩
              · rw [he, hl]; simp [hr]
              · rw [h3, plain_after h1 h2, hl]; simp
  · cases htk

/-- No operation of the region writes these. -/
def noWrite (ops : Array Oper) (D : List (Nat × Nat)) : Bool :=
  D.all fun x => ops.toList.all fun o => !(writesOf (appendFirst ops.toList) o).contains x.1 && !(writesOf (appendFirst ops.toList) o).contains x.2

theorem evOp_apart {D : List (Nat × Nat)} (hN : noWrite ops D = true) {i : Nat} {o : Oper} (ho : ops[i]? = some o) {st st' : St} (h : evOp E F ops o st = some st') (hD : Apart D (rd st.slots)) : Apart D (rd st'.slots) := by
  rw [evOp_eq] at h
  cases hr : evOpR E F ops o (rd st.slots) st.store with
  | none => simp [hr] at h
  | some r =>
    simp [hr] at h
    subst h
    obtain ⟨k, _⟩ := opR_cls hr
    refine hD.congr fun x hx => ?_
    have hm : o ∈ ops.toList := by
      have := List.mem_of_getElem? (l := ops.toList) (i := i) (by simpa using ho)
      exact this
    have := List.all_eq_true.1 (List.all_eq_true.1 hN x hx) o hm
    simp only [Bool.and_eq_true, Bool.not_eq_true', List.contains_eq_mem, decide_eq_false_iff_not] at this
    exact ⟨rd_sets _ _ _ fun u hu he => this.1 (he ▸ k u hu), rd_sets _ _ _ fun u hu he => this.2 (he ▸ k u hu)⟩

theorem commute {D : List (Nat × Nat)} {x y : Oper} (hi : indep E ops (appendFirst ops.toList) D x y = true) {st s1 s2 : St} (hD : Apart D (rd st.slots)) (hx : evOp E F ops x st = some s1) (hy : evOp E F ops y s1 = some s2) :
    ∃ s1', evOp E F ops y st = some s1' ∧ evOp E F ops x s1' = some s2 := by
  unfold indep at hi
  simp only [Bool.and_eq_true] at hi
  obtain ⟨⟨⟨d1, d2⟩, d3⟩, hc⟩ := hi
  rw [evOp_eq] at hx hy
  cases hrx : evOpR E F ops x (rd st.slots) st.store with
  | none => simp [hrx] at hx
  | some rx =>
    simp [hrx] at hx
    subst hx
    simp only at hy
    obtain ⟨kx, px, rx', ax⟩ := opR_cls hrx
    -- y sees the same slots
    have hsame : ∀ σ, evOpR E F ops y (rd (sets st.slots rx.1)) σ = evOpR E F ops y (rd st.slots) σ := by
      intro σ
      have hrd : ∀ t ∈ y.looksAt ops, rd (sets st.slots rx.1) t = rd st.slots t := fun t ht => rd_sets _ _ _ (fun u hu => disj_spec d1 _ (kx u hu) t ht)
      exact evOpR_congr hrd (fun t ht => hrd t (takenFrom_reads _ y t ht))
    rw [hsame] at hy
    cases hry : evOpR E F ops y (rd st.slots) rx.2 with
    | none => simp [hry] at hy
    | some ry =>
      simp [hry] at hy
      subst hy
      obtain ⟨ky, py, ry', ay⟩ := opR_cls hry
      have hcomm : sets (sets st.slots rx.1) ry.1 = sets (sets st.slots ry.1) rx.1 := sets_comm _ _ _ (fun u hu v hv => disj_spec d2 _ (kx u hu) _ (ky v hv))
      have hsame' : ∀ σ, evOpR E F ops x (rd (sets st.slots ry.1)) σ = evOpR E F ops x (rd st.slots) σ := by
        intro σ
        have hrd : ∀ t ∈ x.looksAt ops, rd (sets st.slots ry.1) t = rd st.slots t := fun t ht => rd_sets _ _ _ (fun u hu => disj_spec d3 _ (ky u hu) t ht)
        exact evOpR_congr hrd (fun t ht => hrd t (takenFrom_reads _ x t ht))
      -- the stores
      have fin : ∀ σ1, evOpR E F ops y (rd st.slots) st.store = some (ry.1, σ1) → evOpR E F ops x (rd st.slots) σ1 = some (rx.1, ry.2) →
          ∃ s1', evOp E F ops y st = some s1' ∧ evOp E F ops x s1' = some ⟨sets (sets st.slots rx.1) ry.1, ry.2⟩ := by
        intro σ1 h1 h2
        refine ⟨⟨sets st.slots ry.1, σ1⟩, by rw [evOp_eq, h1]; rfl, ?_⟩
        rw [evOp_eq]
        simp only [hsame', h2, Option.map_some, hcomm]
      rw [Bool.or_eq_true, Bool.or_eq_true] at hc
      rcases hc with (hc | hap) | htk
      rotate_left 2
      · obtain ⟨σ1, h1, h2⟩ := load_take htk hrx hry
        exact fin σ1 h1 h2
      rotate_left
      · have hry' : evOpR E F ops y (rd st.slots) st.store = some ry := by
          have h0 := apOps_rd hap hrx
          rw [h0] at hry
          exact hry
        obtain ⟨_, h2⟩ := load_apart hap hD hrx hry'
        exact fin ry.2 hry' h2
      cases hcx : clsOf E (appendFirst ops.toList) x <;> cases hcy : clsOf E (appendFirst ops.toList) y <;> rw [hcx, hcy] at hc <;> simp [compat] at hc
      case pure.pure =>
        have h2 := py hcy
        exact fin st.store (h2.2 _) (by rw [hrx, h2.1])
      case pure.rd =>
        have h1 := px hcx; have h2 := ry' hcy
        exact fin ry.2 (by rw [h1.1] at hry; exact hry) ((h1.2 ry.2))
      case pure.al =>
        have h1 := px hcx
        exact fin ry.2 (by rw [h1.1] at hry; exact hry) (h1.2 ry.2)
      case pure.ro =>
        have h1 := px hcx
        exact fin ry.2 (by rw [h1.1] at hry; exact hry) (h1.2 ry.2)
      case ro.pure =>
        have h2 := py hcy
        exact fin st.store (h2.2 _) (by rw [hrx, h2.1])
      case rd.ro =>
        have h1 := rx' hcx
        have h2 := opR_ro hcy hry
        rw [h1.1] at hry
        exact fin st.store (by rw [hry]; exact congrArg some (Prod.ext rfl (h2.trans h1.1))) (by rw [hrx]; exact congrArg some (Prod.ext rfl h2.symm))
      case ro.rd =>
        have h1 := opR_ro hcx hrx; have h2 := ry' hcy
        rw [h1] at hry
        exact fin st.store (by rw [hry]; exact congrArg some (Prod.ext rfl (h2.1.trans h1))) (by rw [hrx]; exact congrArg some (Prod.ext rfl h2.1.symm))
      case ro.ro =>
        have h1 := opR_ro hcx hrx; have h2 := opR_ro hcy hry
        rw [h1] at hry
        exact fin st.store (by rw [hry]; exact congrArg some (Prod.ext rfl (h2.trans h1))) (by rw [hrx]; exact congrArg some (Prod.ext rfl h2.symm))
      case pure.wr =>
        have h1 := px hcx
        exact fin ry.2 (by rw [h1.1] at hry; exact hry) (h1.2 ry.2)
      case rd.pure =>
        have h1 := rx' hcx; have h2 := py hcy
        exact fin st.store (h2.2 _) (by rw [hrx, h2.1])
      case rd.rd =>
        have h1 := rx' hcx; have h2 := ry' hcy
        rw [h1.1] at hry
        exact fin st.store (by rw [hry]; exact congrArg some (Prod.ext rfl (h2.1.trans h1.1))) (by rw [hrx]; exact congrArg some (Prod.ext rfl h2.1.symm))
      case rd.al =>
        have h1 := rx' hcx
        rw [h1.1] at hry
        obtain ⟨c, hcc⟩ := ay hcy
        rw [h1.1] at hcc
        exact fin ry.2 hry (by rw [hcc]; exact h1.2 c)
      case al.pure =>
        have h2 := py hcy
        exact fin st.store (h2.2 _) (by rw [hrx, h2.1])
      case wr.pure =>
        have h2 := py hcy
        exact fin st.store (h2.2 _) (by rw [hrx, h2.1])

/-! #### The order -/

def okEdges (ops : Array Oper) : Bool :=
  (List.range ops.size).all fun j => match ops[j]? with
    | none => true
    | some o => o.after.toList.all fun e => !Region.binds .any e || decide (e.on < j)

def pairOk (E : Env) (ops : Array Oper) (aps : List Nat) (D : List (Nat × Nat)) (bef : Array Nat) (i j : Nat) : Bool :=
  (bef.getD j 0).testBit i || (match ops[i]?, ops[j]? with | some x, some y => indep E ops aps D x y | _, _ => false)

/-- Of each two in the row. -/
def pw (f : Nat → Nat → Bool) : List Nat → Bool
  | [] => true
  | k :: l => l.all (f k) && pw f l

theorem pw_spec {f : Nat → Nat → Bool} : ∀ {l : List Nat}, pw f l = true → l.Pairwise fun k i => f k i = true
  | [], _ => .nil
  | k :: l, h => by
    simp only [pw, Bool.and_eq_true, List.all_eq_true] at h
    exact .cons h.1 (pw_spec h.2)

/-- A region's operations in this order may come in any order that its edges let, but for pairs that are excepted. -/
def regOkL (E : Env) (ops : Array Oper) (D : List (Nat × Nat)) (bef : Array Nat) (ex : Nat → Nat → Bool) (L : List Nat) : Bool :=
  L.all (fun i => decide (i < ops.size)) && (List.range ops.size).all (fun i => L.contains i) && pw (fun k i => k != i) L && pw (fun k i => ex k i || pairOk E ops (appendFirst ops.toList) D bef k i) L

def regOk (E : Env) (ops : Array Oper) (D : List (Nat × Nat)) : Bool :=
  noWrite ops D && okEdges ops && regOkL E ops D (Region.before ops) (fun _ _ => false) (List.range ops.size)

def regOk2 (E : Env) (ops : Array Oper) (D : List (Nat × Nat)) (L : List Nat) (A B : Nat) : Bool :=
  noWrite ops D && okEdges ops && (A != B && decide (A < ops.size) && decide (B < ops.size)) && regOkL E ops D (Region.before ops) (fun k i => k == A && i == B) (List.range ops.size) && regOkL E ops D (Region.before ops) (fun k i => k == B && i == A) L

/-- What bits 'before' gathers. -/
theorem before_spec (ops : Array Oper) : ∀ (l : List Oper) (acc : Array Nat) (done : List Oper), ops.toList = done ++ l → acc.size = done.length →
    (∀ j o, done[j]? = some o → ∀ i, (acc.getD j 0).testBit i = true → ∃ e ∈ o.after.toList, Region.binds .any e = true ∧ (e.on = i ∨ (e.on < j ∧ (acc.getD e.on 0).testBit i = true))) →
    let fin := l.foldl (fun acc o => acc.push (o.after.foldl (fun s e => if Region.binds .any e then s ||| 2 ^ e.on ||| acc.getD e.on 0 else s) 0)) acc
    (∀ j o, ops.toList[j]? = some o → ∀ i, (fin.getD j 0).testBit i = true → ∃ e ∈ o.after.toList, Region.binds .any e = true ∧ (e.on = i ∨ (e.on < j ∧ (fin.getD e.on 0).testBit i = true)))
  | [], acc, done, h, hs, hd => by
    intro fin j o hj
    rw [h, List.append_nil] at hj
    exact hd j o hj
  | o :: l, acc, done, h, hs, hd => by
    intro fin
    have hbits : ∀ (es : List Edge) (s : Nat) (i : Nat), (es.foldl (fun s e => if Region.binds .any e then s ||| 2 ^ e.on ||| acc.getD e.on 0 else s) s).testBit i = true →
        s.testBit i = true ∨ ∃ e ∈ es, Region.binds .any e = true ∧ (e.on = i ∨ (e.on < acc.size ∧ (acc.getD e.on 0).testBit i = true)) := by
      intro es
      induction es with
      | nil => intro s i hb; exact .inl hb
      | cons e es ih =>
        intro s i hb
        simp only [List.foldl_cons] at hb
        rcases ih _ i hb with hb | ⟨e', he', hb⟩
        · split at hb
          · rename_i hbind
            simp only [Nat.testBit_or, Bool.or_eq_true] at hb
            rcases hb with (hb | hb) | hb
            · exact .inl hb
            · refine .inr ⟨e, by simp, hbind, .inl ?_⟩
              rw [Nat.testBit_two_pow] at hb
              simpa using hb
            · refine .inr ⟨e, by simp, hbind, .inr ⟨?_, hb⟩⟩
              rcases Nat.lt_or_ge e.on acc.size with hlt | hge
              · exact hlt
              · have : acc.getD e.on 0 = 0 := by simp [Array.getD, Nat.not_lt.2 hge]
                rw [this] at hb
                simp at hb
          · exact .inl hb
        · exact .inr ⟨e', by simp [he'], hb⟩
    have hpush : ∀ k, k < acc.size → (acc.push (o.after.foldl (fun s e => if Region.binds .any e then s ||| 2 ^ e.on ||| acc.getD e.on 0 else s) 0)).getD k 0 = acc.getD k 0 := by
      intro k hk
      simp [Array.getD, hk, Nat.lt_succ_of_lt hk, Array.getElem_push_lt hk]
    refine before_spec ops l _ (done ++ [o]) (by rw [h]; simp) (by simp [hs]) ?_
    intro j o' hj i hb
    by_cases hjl : j < done.length
    · rw [List.getElem?_append_left hjl] at hj
      rw [hpush j (by omega)] at hb
      obtain ⟨e, he, h1, h2⟩ := hd j o' hj i hb
      refine ⟨e, he, h1, ?_⟩
      rcases h2 with h2 | ⟨h2, h3⟩
      · exact .inl h2
      · exact .inr ⟨h2, by rw [hpush e.on (by omega)]; exact h3⟩
    · have hj0 : j = done.length := by
        have := (List.getElem?_eq_some_iff.1 hj).1
        simp at this
        omega
      subst hj0
      rw [List.getElem?_concat_length] at hj
      cases hj
      have : (acc.push (o.after.foldl (fun s e => if Region.binds .any e then s ||| 2 ^ e.on ||| acc.getD e.on 0 else s) 0)).getD done.length 0 = o.after.toList.foldl (fun s e => if Region.binds .any e then s ||| 2 ^ e.on ||| acc.getD e.on 0 else s) 0 := by
        rw [← hs]
        simp [Array.getD]
      rw [this] at hb
      rcases hbits o.after.toList 0 i hb with hb | ⟨e, he, h1, h2⟩
      · simp at hb
      · refine ⟨e, he, h1, ?_⟩
        rcases h2 with h2 | ⟨h2, h3⟩
        · exact .inl h2
        · exact .inr ⟨by omega, by rw [hpush e.on h2]; exact h3⟩

theorem before_bits (ops : Array Oper) {j : Nat} {o : Oper} (ho : ops[j]? = some o) {i : Nat} (hb : ((Region.before ops).getD j 0).testBit i = true) :
    ∃ e ∈ o.after.toList, Region.binds .any e = true ∧ (e.on = i ∨ (e.on < j ∧ ((Region.before ops).getD e.on 0).testBit i = true)) := by
  have := before_spec ops ops.toList #[] [] (by simp) (by simp) (by simp) j o (by simpa using ho) i
  have hf : Region.before ops = ops.toList.foldl (fun acc o => acc.push (o.after.foldl (fun s e => if Region.binds .any e then s ||| 2 ^ e.on ||| acc.getD e.on 0 else s) 0)) #[] := by
    unfold Region.before
    rw [← Array.foldl_toList]
  rw [← hf] at this
  exact this hb

/-- The listed operations are closed: what an operation waits for is listed before it. -/
def Closed (ops : Array Oper) (listed : Array Bool) : Prop := ∀ j o, ops[j]? = some o → listed.getD j false = true → ∀ e ∈ o.after.toList, Region.binds .any e = true → listed.getD e.on false = true

theorem closed_before {ops : Array Oper} {listed : Array Bool} (hcl : Closed ops listed) : ∀ (j : Nat) (o : Oper), ops[j]? = some o → (∀ e ∈ o.after.toList, Region.binds .any e = true → listed.getD e.on false = true) → (hsz : listed.size = ops.size) →
    ∀ i, ((Region.before ops).getD j 0).testBit i = true → listed.getD i false = true := by
  intro j
  induction j using Nat.strongRecOn with
  | _ j ih =>
    intro o ho hpre hsz i hb
    obtain ⟨e, he, h1, h2⟩ := before_bits ops ho hb
    have hl := hpre e he h1
    rcases h2 with rfl | ⟨h2, h3⟩
    · exact hl
    · have hlt : e.on < ops.size := by
        rcases Nat.lt_or_ge e.on ops.size with h | h
        · exact h
        · simp [Array.getD, hsz, Nat.not_lt.2 h] at hl
      exact ih e.on h2 ops[e.on] (Array.getElem?_eq_getElem hlt) (fun e' he' hb' => hcl e.on _ (Array.getElem?_eq_getElem hlt) hl e' he' hb') hsz i h3

theorem evIdx_append (l l' : List Nat) (st : St) : evIdx E F ops (l ++ l') st = (evIdx E F ops l st).bind (evIdx E F ops l') := by
  induction l generalizing st with
  | nil => rfl
  | cons i l ih =>
    simp only [List.cons_append, evIdx]
    cases ops[i]? with
    | none => exact ih st
    | some o =>
      simp only []
      cases evOp E F ops o st with
      | none => rfl
      | some s => simp only [Option.bind_some]; exact ih s

/-- An operation that nothing ahead of it must precede goes first. -/
theorem bubble {D : List (Nat × Nat)} (hN : noWrite ops D = true) {i : Nat} {y : Oper} (hy : ops[i]? = some y) : ∀ (l : List Nat) (l' : List Nat) {st st' : St}, Apart D (rd st.slots) → (∀ k ∈ l, ∃ x, ops[k]? = some x ∧ indep E ops (appendFirst ops.toList) D x y = true) →
    evIdx E F ops (l ++ i :: l') st = some st' → evIdx E F ops (i :: (l ++ l')) st = some st'
  | [], l', st, st', _, _, h => h
  | k :: l, l', st, st', hA, hk, h => by
    obtain ⟨x, hx, hind⟩ := hk k (by simp)
    simp only [List.cons_append, evIdx, hx] at h
    cases hs : evOp E F ops x st with
    | none => simp [hs] at h
    | some s1 =>
      simp only [hs, Option.bind_some] at h
      have h' := bubble hN hy l l' (evOp_apart hN hx hs hA) (fun k' hk' => hk k' (by simp [hk'])) h
      simp only [evIdx, hy] at h'
      cases hs2 : evOp E F ops y s1 with
      | none => simp [hs2] at h'
      | some s2 =>
        simp only [hs2, Option.bind_some] at h'
        obtain ⟨s1', g1, g2⟩ := commute hind hA hs hs2
        simp only [evIdx, hy, List.cons_append, hx, g1, g2, Option.bind_some]
        exact h'

end comm
end Go.Pv

set_option linter.unusedVariables false
set_option linter.unusedSimpArgs false
namespace Go.Pv
open Go

def swLoc (n : Nat) : Loc → Loc
  | .box i => .box (swId n i)
  | .cell i j => .cell (swId n i) j
  | .slot i => .slot i
def swO (n : Nat) (O : OwT) : OwT := fun b => (O b).map (swLoc n)
def swB (n : Nat) (β : List Nat) : List Nat := (List.range β.length).map fun i => β.getD (swId n i) 0

theorem swId_low {n i : Nat} (h : i < n) : swId n i = i := by unfold swId; rw [if_neg (by omega), if_neg (by omega)]
theorem swId_swId (n i : Nat) : swId n (swId n i) = i := by
  unfold swId
  by_cases h1 : i = n
  · subst h1; simp
  · by_cases h2 : i = n + 1
    · subst h2; simp
    · simp [h1, h2]
theorem swId_lt {n i : Nat} (h : i < n + 2) : swId n i < n + 2 := by
  unfold swId
  by_cases h1 : i = n
  · rw [if_pos h1]; omega
  · rw [if_neg h1]
    by_cases h2 : i = n + 1
    · rw [if_pos h2]; omega
    · rw [if_neg h2]; omega

theorem swB_len (n : Nat) (β : List Nat) : (swB n β).length = β.length := by simp [swB]
theorem swB_get {n : Nat} {β : List Nat} (hl : n + 2 ≤ β.length) (i : Nat) : (swB n β)[i]? = β[swId n i]? := by
  unfold swB
  rw [List.getElem?_map]
  by_cases hi : i < β.length
  · have h2 : swId n i < β.length := by
      by_cases h3 : i < n + 2
      · have := swId_lt h3; omega
      · unfold swId; rw [if_neg (by omega), if_neg (by omega)]; exact hi
    rw [List.getElem?_range (by omega)]
    simp [List.getD, h2]
  · rw [List.getElem?_eq_none (by simp; omega), List.getElem?_eq_none]
    · rfl
    · unfold swId; rw [if_neg (by omega), if_neg (by omega)]; omega

section sw
variable {w : World} {Im : ImT} {O : OwT} {β : List Nat} {n : Nat}

theorem swB_low (hl : n + 2 ≤ β.length) {p : PV} {v : Value} (h : RepP w Im β p v) (hb : p.Below n) : RepP w Im (swB n β) p v := by
  refine (h.cut hb).keep (.refl _ _) fun id b hid => ?_
  rw [List.getElem?_take] at hid
  split at hid
  · rename_i hlt
    rw [swB_get hl, swId_low hlt]
    exact hid
  · cases hid

theorem swO_own {loc loc' : Loc} {p : PV} {v : Value} (h : OwnP w Im O loc p v) (hl : swLoc n loc = loc') : OwnP w Im (swO n O) loc' p v :=
  fun rows hp => by
    rcases h rows hp with h | ⟨a, m, c, sz, cs, e, h1, h2, h3, h4⟩
    · exact .inl h
    · exact .inr ⟨a, m, c, sz, cs, e, h1, h2, by unfold swO; rw [h3, Option.map_some, hl], h4⟩

mutual
theorem swPV_rep (hl : n + 2 ≤ β.length) : ∀ (p q : PV), swPV n p q = true → ∀ {v : Value}, RepP w Im β q v → RepP w Im (swB n β) p v
  | .undef, q, h, v, hr => by cases q <;> simp [swPV] at h; cases hr; exact .undef
  | .any, q, h, v, hr => by cases q <;> simp [swPV] at h; cases hr; rename_i h; exact .any v h
  | .d x, q, h, v, hr => by
    cases q <;> simp [swPV] at h
    rename_i y
    obtain rfl := DV.same_eq x y h
    cases hr with | d h => exact .d h
  | .e0, q, h, v, hr => by cases q <;> simp [swPV] at h; cases hr; exact .e0 _
  | .os r, q, h, v, hr => by
    cases q <;> simp [swPV] at h
    rename_i y
    obtain rfl := sameRows_eq r y h
    cases hr with | os h => exact .os h
  | .agg xs, q, h, v, hr => by
    cases q <;> simp [swPV] at h
    rename_i ys
    cases hr with
    | agg _ vs hv hc =>
      obtain ⟨k1, k2⟩ := swL_rep hl xs ys h vs hc
      exact .agg _ vs (by rw [k1]; exact hv) k2
  | .tup xs, q, h, v, hr => by
    cases q <;> simp [swPV] at h
    rename_i ys
    cases hr with
    | tup _ vs hv hc =>
      obtain ⟨k1, k2⟩ := swL_rep hl xs ys h vs hc
      exact .tup _ vs (by rw [k1]; exact hv) k2
  | .ptr i o, q, h, v, hr => by
    cases q <;> simp [swPV] at h
    obtain ⟨h1, rfl⟩ := h
    cases hr with
    | ptr _ _ b hb => exact .ptr i _ b (by rw [swB_get hl, h1]; exact hb)
  | .ms i o l z, q, h, v, hr => by
    cases q <;> simp [swPV] at h
    obtain ⟨h1, rfl, rfl, rfl⟩ := h
    cases hr with
    | ms _ _ _ _ b c x hb hc hx => exact .ms i _ _ _ b c x (by rw [swB_get hl, h1]; exact hb) hc hx
  | .nilptr, q, h, v, hr => by cases q <;> simp [swPV] at h; cases hr; exact .nilptr
  | .ro _, q, h, v, hr => by cases q <;> simp [swPV] at h
  | .func f a c, q, h, v, hr => by
    cases q <;> simp [swPV] at h
    rename_i g b d
    obtain ⟨rfl, h1, h2⟩ := h
    cases hr with
    | func _ _ _ vf vc hf hc r1 r2 =>
      obtain ⟨k1, k2⟩ := swL_rep hl a b h1 vf r1
      obtain ⟨k3, k4⟩ := swL_rep hl c d h2 vc r2
      exact .func f _ _ vf vc (by rw [k1]; exact hf) (by rw [k3]; exact hc) k2 k4
  | .nilFunc, q, h, v, hr => by cases q <;> simp [swPV] at h; cases hr; exact .nilFunc
  | .iface _ _, q, h, v, hr => by cases q <;> simp [swPV] at h
  | .nilIface, q, h, v, hr => by cases q <;> simp [swPV] at h; cases hr; exact .nilIface
theorem swL_rep (hl : n + 2 ≤ β.length) : ∀ (ps qs : List PV), swL n ps qs = true → ∀ (vs : Array Value), (∀ (i : Nat) (q : PV) (v : Value), qs[i]? = some q → vs[i]? = some v → RepP w Im β q v) →
    ps.length = qs.length ∧ ∀ (i : Nat) (p : PV) (v : Value), ps[i]? = some p → vs[i]? = some v → RepP w Im (swB n β) p v
  | [], [], _, vs, _ => ⟨rfl, by simp⟩
  | [], _ :: _, h, _, _ => by simp [swL] at h
  | _ :: _, [], h, _, _ => by simp [swL] at h
  | p :: ps, q :: qs, h, vs, hr => by
    simp only [swL, Bool.and_eq_true] at h
    have ih := fun (vs : Array Value) => swL_rep hl ps qs h.2 vs
    have hp := fun (v : Value) => swPV_rep hl p q h.1 (v := v)
    have h1 := (ih #[] (by simp)).1
    refine ⟨by simp [h1], fun i p' v hi hv => ?_⟩
    cases i with
    | zero =>
      simp at hi
      subst hi
      exact hp v (hr 0 q v (by simp) hv)
    | succ i =>
      refine (ih (vs.extract 1 vs.size) fun j q' v' hq hv' => hr (j + 1) q' v' (by simpa using hq) ?_).2 i p' v (by simpa using hi) ?_
      · rw [Array.getElem?_extract] at hv'
        split at hv'
        · rwa [Nat.add_comm] at hv'
        · cases hv'
      · have := (Array.getElem?_eq_some_iff.1 hv).1
        rw [Array.getElem?_extract, if_pos (by omega), Nat.add_comm]
        exact hv
end

theorem swPV_own {loc loc' : Loc} {p q : PV} {v : Value} (h : swPV n p q = true) (ho : OwnP w Im O loc q v) (hl : swLoc n loc = loc') : OwnP w Im (swO n O) loc' p v := by
  intro rows hp
  subst hp
  cases q <;> simp [swPV] at h
  rename_i r
  obtain rfl := sameRows_eq rows r h
  exact swO_own ho hl rows rfl

theorem swL_len {n : Nat} : ∀ {ps qs : List PV}, swL n ps qs = true → ps.length = qs.length ∧ ∀ (i : Nat) (p q : PV), ps[i]? = some p → qs[i]? = some q → swPV n p q = true
  | [], [], _ => ⟨rfl, by simp⟩
  | [], _ :: _, h => by simp [swL] at h
  | _ :: _, [], h => by simp [swL] at h
  | p :: ps, q :: qs, h => by
    simp only [swL, Bool.and_eq_true] at h
    obtain ⟨h1, h2⟩ := swL_len h.2
    refine ⟨by simp [h1], fun i p' q' hp hq => ?_⟩
    cases i with
    | zero => simp at hp hq; subst hp; subst hq; exact h.1
    | succ i => exact h2 i p' q' (by simpa using hp) (by simpa using hq)

theorem swRest_get {n : Nat} : ∀ {r q : List (List PV)}, swRest n r q = true → r.length = q.length ∧ ∀ (k : Nat) (a b : List PV), r[k]? = some a → q[k]? = some b → swL n a b = true
  | [], [], _ => ⟨rfl, by simp⟩
  | [], _ :: _, h => by simp [swRest] at h
  | _ :: _, [], h => by simp [swRest] at h
  | a :: r, b :: q, h => by
    simp only [swRest, Bool.and_eq_true] at h
    obtain ⟨h1, h2⟩ := swRest_get h.2
    refine ⟨by simp [h1], fun k a' b' ha hb => ?_⟩
    cases k with
    | zero => simp at ha hb; subst ha; subst hb; exact h.1
    | succ k => exact h2 k a' b' (by simpa using ha) (by simpa using hb)

/-- The other numbering of the two boxes. -/
theorem Inv.swap {w0 : World} {Im0 : ImT} {O0 : OwT} {β0 : List Nat} {a0 a : Act} {st s1 s2 : St} {ws : List Nat} (h0 : Inv w0 Im0 O0 β0 st a0) (h : Inv w Im O β s2 a) (hok : swOk st.store.length st.store ws s1 s2 = true)
    (hlen : s1.slots.length = s2.slots.length) (hs1 : ∀ i, i ∉ ws → rd s1.slots i = rd st.slots i) (hs2 : ∀ i, i ∉ ws → rd s2.slots i = rd st.slots i) :
    Inv w Im (swO st.store.length O) (swB st.store.length β) s1 a := by
  generalize hn : st.store.length = n at hok ⊢
  unfold swOk at hok
  simp only [Bool.and_eq_true, decide_eq_true_eq] at hok
  obtain ⟨t1, t2, hbx, hws⟩ := hok
  rw [List.all_eq_true] at hws
  have hform : ∃ a b c d r q, s1.store.drop n = a :: b :: r ∧ s2.store.drop n = c :: d :: q ∧ swL n a d = true ∧ swL n b c = true ∧ swRest n r q = true := by
    unfold swBoxes at hbx
    split at hbx
    · rename_i a b r c d q e1 e2
      simp only [Bool.and_eq_true] at hbx
      exact ⟨a, b, c, d, r, q, e1, e2, hbx.1, hbx.2.1, hbx.2.2⟩
    · cases hbx
  obtain ⟨ba, bb, bc, bd, br, bq, d1, d2, w1, w2, w3⟩ := hform
  obtain ⟨w4, w5⟩ := swRest_get w3
  have e1 : s1.store = st.store ++ ba :: bb :: br := by rw [← t1, ← d1]; exact (List.take_append_drop n _).symm
  have e2 : s2.store = st.store ++ bc :: bd :: bq := by rw [← t2, ← d2]; exact (List.take_append_drop n _).symm
  have hl : n + 2 ≤ β.length := by rw [h.good.len, e2]; simp [hn]
  have hO : ∀ {b : Nat} {l : Loc}, O b = some l → swO n O b = some (swLoc n l) := fun hb => by unfold swO; rw [hb]; rfl
  have hbox : ∀ (k k' : Nat) (b : Nat) (ps qs : List PV), swId n k = k' → β[k']? = some b → s2.store[k']? = some qs → swL n ps qs = true →
      swO n O b = some (.box k) ∧ ∃ (cs : Array Value) (e : TypeId), w.heap[b]? = some (.cells cs e (0, 0)) ∧ ps.length ≤ cs.size ∧
        ∀ (j : Nat) (p : PV) (v : Value), ps[j]? = some p → cs[j]? = some v → RepP w Im (swB n β) p v ∧ OwnP w Im (swO n O) (.cell k j) p v ∧ True := by
    intro k k' b ps qs hk hb hq hsw
    obtain ⟨g1, cs, e, g2, g3, g4⟩ := h.good.box k' b qs hb hq
    have hkk : swId n k' = k := by rw [← hk, swId_swId]
    obtain ⟨l1, l2⟩ := swL_len hsw
    refine ⟨by rw [hO g1]; simp [swLoc, hkk], cs, e, g2, by rw [l1]; exact g3, fun j p v hp hv => ?_⟩
    have hjq : j < qs.length := by rw [← l1]; exact (List.getElem?_eq_some_iff.1 hp).1
    have hq' : qs[j]? = some qs[j] := List.getElem?_eq_getElem hjq
    obtain ⟨r1, r2, _⟩ := g4 j _ v hq' hv
    have hs := l2 j p _ hp hq'
    exact ⟨swPV_rep hl p _ hs r1, swPV_own hs r2 (by simp [swLoc, hkk]), trivial⟩
  refine ⟨⟨by rw [swB_len, h.good.len, e1, e2]; simp [w4], ?_, h.good.im, ?_, ?_⟩, ⟨by rw [hlen, h.slots.len], ?_⟩⟩
  · intro id b cells hb hc
    rw [swB_get hl] at hb
    by_cases hid : id < n
    · rw [swId_low hid] at hb
      rw [e1, List.getElem?_append_left (by omega)] at hc
      have hc2 : s2.store[id]? = some cells := by rw [e2, List.getElem?_append_left (by omega)]; exact hc
      obtain ⟨g1, cs, e, g2, g3, g4⟩ := h.good.box id b cells hb hc2
      refine ⟨by rw [hO g1]; simp [swLoc, swId_low hid], cs, e, g2, g3, fun j p v hp hv => ?_⟩
      obtain ⟨r1, r2, _⟩ := g4 j p v hp hv
      have hbel := h0.good.eld id cells (by omega) hc p (List.mem_of_getElem? hp)
      rw [hn] at hbel
      exact ⟨swB_low hl r1 hbel, swO_own r2 (by simp [swLoc, swId_low hid]), trivial⟩
    · by_cases hid3 : n + 2 ≤ id
      · have ee : swId n id = id := by unfold swId; rw [if_neg (by omega), if_neg (by omega)]
        rw [ee] at hb
        obtain ⟨k, rfl⟩ : ∃ k, id = n + 2 + k := ⟨id - (n + 2), by omega⟩
        have hck : br[k]? = some cells := by
          rw [e1, List.getElem?_append_right (by omega), hn, show n + 2 + k - n = k + 1 + 1 by omega] at hc
          simpa using hc
        have hkq : k < bq.length := by rw [← w4]; exact (List.getElem?_eq_some_iff.1 hck).1
        exact hbox (n + 2 + k) (n + 2 + k) b cells bq[k] ee hb (by rw [e2, List.getElem?_append_right (by omega), hn, show n + 2 + k - n = k + 1 + 1 by omega]; simp [List.getElem?_eq_getElem hkq]) (w5 k cells bq[k] hck (List.getElem?_eq_getElem hkq))
      rcases (show id = n ∨ id = n + 1 by omega) with rfl | rfl
      · have ee : swId id id = id + 1 := by simp [swId]
        rw [ee] at hb
        rw [e1, List.getElem?_append_right (by omega), hn] at hc
        simp at hc
        subst hc
        exact hbox id (id + 1) b _ bd ee hb (by rw [e2, List.getElem?_append_right (by omega), hn]; simp) w1
      · have ee : swId n (n + 1) = n := by simp [swId]
        rw [ee] at hb
        rw [e1, List.getElem?_append_right (by omega), hn] at hc
        simp at hc
        subst hc
        exact hbox (n + 1) n b _ bc ee hb (by rw [e2, List.getElem?_append_right (by omega), hn]; simp) w2
  · intro b o hb id ho
    unfold swO at ho
    cases hOb : O b with
    | none => rw [hOb] at ho; cases ho
    | some l =>
      rw [hOb] at ho
      cases l with
      | box i => exact h.good.box' b o hb i hOb
      | cell i j => simp [swLoc] at ho
      | slot i => simp [swLoc] at ho
  · intro b hb
    refine h.good.lim b fun hn => hb ?_
    unfold swO
    rw [hn]; rfl
  · intro i p v hp hv
    have hp' : rd s1.slots i = p := by simp [rd, List.getD, hp]
    have hil : i < s2.slots.length := by rw [← hlen]; exact (List.getElem?_eq_some_iff.1 hp).1
    obtain ⟨r1, r2⟩ := h.slots.rep i s2.slots[i] v (List.getElem?_eq_getElem hil) hv
    have hq' : rd s2.slots i = s2.slots[i] := by simp [rd, List.getD, hil]
    by_cases hi : i ∈ ws
    · have := hws i hi
      rw [hp', hq'] at this
      exact ⟨swPV_rep hl p _ this r1, swPV_own this r2 rfl⟩
    · have h1 := hs1 i hi
      have h2 := hs2 i hi
      rw [hp'] at h1
      rw [hq'] at h2
      rw [h2, ← h1] at r1 r2
      have hbel := (h0.slots.get i).1.bel
      rw [← h1, h0.good.len, hn] at hbel
      exact ⟨swB_low hl r1 hbel, swO_own r2 rfl⟩
end sw

/-! #### What a row of operations leaves alone -/
section leaves
variable {E : Env} {F : FnEv} {ops : Array Oper}

theorem sets_len : ∀ (u : List (Nat × PV)) (l : List PV), (sets l u).length = l.length
  | [], l => rfl
  | (s, v) :: u, l => by
    show (sets (l.set s v) u).length = l.length
    rw [sets_len u]; simp

theorem evOp_leaves {k : Nat} {o : Oper} (ho : ops[k]? = some o) {st st' : St} (h : evOp E F ops o st = some st') : st'.slots.length = st.slots.length ∧ ∀ i, i ∉ ops.toList.flatMap (writesOf (appendFirst ops.toList)) → rd st'.slots i = rd st.slots i := by
  rw [evOp_eq] at h
  cases hr : evOpR E F ops o (rd st.slots) st.store with
  | none => simp [hr] at h
  | some r =>
    simp [hr] at h
    subst h
    refine ⟨sets_len _ _, fun i hi => rd_sets _ _ _ fun x hx he => hi ?_⟩
    have hm : o ∈ ops.toList := List.mem_of_getElem? (l := ops.toList) (i := k) (by simpa using ho)
    exact List.mem_flatMap.2 ⟨o, hm, he ▸ (opR_cls hr).1 x hx⟩

theorem evIdx_leaves : ∀ (l : List Nat) {st st' : St}, evIdx E F ops l st = some st' → st'.slots.length = st.slots.length ∧ ∀ i, i ∉ ops.toList.flatMap (writesOf (appendFirst ops.toList)) → rd st'.slots i = rd st.slots i
  | [], st, st', h => by simp [evIdx] at h; subst h; exact ⟨rfl, fun _ _ => rfl⟩
  | k :: l, st, st', h => by
    simp only [evIdx] at h
    cases ho : ops[k]? with
    | none => rw [ho] at h; exact evIdx_leaves l h
    | some o =>
      rw [ho] at h
      simp only at h
      cases hs : evOp E F ops o st with
      | none => simp [hs] at h
      | some s1 =>
        simp only [hs, Option.bind_some] at h
        obtain ⟨a1, a2⟩ := evOp_leaves ho hs
        obtain ⟨b1, b2⟩ := evIdx_leaves l h
        exact ⟨b1.trans a1, fun i hi => (b2 i hi).trans (a2 i hi)⟩

theorem evOps_listed : ∀ (L : List Nat) (st : St), evOps E F ops (listed ops L) st = evIdx E F ops L st
  | [], st => rfl
  | k :: L, st => by
    unfold listed
    cases ho : ops[k]? with
    | none => rw [List.filterMap_cons_none ho]; simp only [evIdx, ho]; exact evOps_listed L st
    | some o =>
      rw [List.filterMap_cons_some ho]
      simp only [evIdx, evOps, ho]
      congr 1
      funext s
      exact evOps_listed L s
end leaves
end Go.Pv

set_option linter.unusedVariables false
set_option linter.unusedSimpArgs false
namespace Go.Pv
open Go

section any
variable {E : Env} {F : FnEv} {ops : Array Oper}

def left (ops : Array Oper) (listed : Array Bool) : List Nat := (List.range ops.size).filter fun i => !listed.getD i true

theorem getD_set {listed : Array Bool} {i k : Nat} {d : Bool} (hi : i < listed.size) : (listed.setIfInBounds i true).getD k d = if i = k then true else listed.getD k d := by
  rw [Array.getD_eq_getD_getElem?, Array.getElem?_setIfInBounds, Array.getD_eq_getD_getElem?]
  split
  · rename_i h; subst h; simp [hi]
  · rfl

theorem getD_any {listed : Array Bool} {i : Nat} (hi : i < listed.size) (d d' : Bool) : listed.getD i d = listed.getD i d' := by simp [Array.getD, hi]

theorem ready_spec {listed : Array Bool} {i : Nat} (h : i ∈ Region.ready .any ops listed) :
    i ∈ left ops listed ∧ ∃ o, ops[i]? = some o ∧ ∀ e ∈ o.after.toList, Region.binds .any e = true → listed.getD e.on false = true := by
  unfold Region.ready at h
  rw [List.mem_filter] at h
  obtain ⟨h1, h2⟩ := h
  simp only [Bool.and_eq_true] at h2
  have hi : i < ops.size := List.mem_range.1 h1
  refine ⟨by unfold left; rw [List.mem_filter]; exact ⟨h1, h2.1⟩, ops[i], Array.getElem?_eq_getElem hi, fun e he hb => ?_⟩
  have h3 := h2.2
  rw [Array.getElem?_eq_getElem hi] at h3
  simp only [Option.map_some, Option.getD_some] at h3
  rw [← Array.all_toList, List.all_eq_true] at h3
  have := h3 e he
  simpa [hb] using this

theorem left_nil {listed : Array Bool} (hE : okEdges ops = true) (hsz : listed.size = ops.size) (h : Region.ready .any ops listed = []) : left ops listed = [] := by
  have key : ∀ i, i < ops.size → listed.getD i true = true := by
    intro i
    induction i using Nat.strongRecOn with
    | _ i ih =>
      intro hi
      cases hl : listed.getD i true with
      | true => rfl
      | false =>
        exfalso
        have : i ∈ Region.ready .any ops listed := by
          unfold Region.ready
          rw [List.mem_filter]
          refine ⟨List.mem_range.2 hi, ?_⟩
          rw [hl, Array.getElem?_eq_getElem hi]
          simp only [Bool.not_false, Bool.true_and, Option.map_some, Option.getD_some]
          rw [← Array.all_toList, List.all_eq_true]
          intro e he
          cases hb : Region.binds .any e with
          | false => simp
          | true =>
            have hok := List.all_eq_true.1 hE i (List.mem_range.2 hi)
            rw [Array.getElem?_eq_getElem hi] at hok
            have := List.all_eq_true.1 hok e he
            simp [hb] at this
            have hlt : e.on < ops.size := by omega
            rw [getD_any (by omega) false true, ih e.on this hlt]
            simp
        rw [h] at this
        simp at this
  unfold left
  rw [List.filter_eq_nil_iff]
  intro i hi
  simp [key i (List.mem_range.1 hi)]

def leftL (L : List Nat) (listed : Array Bool) : List Nat := L.filter fun i => !listed.getD i true

theorem leftL_mem {L : List Nat} {listed : Array Bool} (hall : ∀ i, i < ops.size → i ∈ L) {i : Nat} (h : i ∈ left ops listed) : i ∈ leftL L listed := by
  unfold left at h
  unfold leftL
  rw [List.mem_filter] at h ⊢
  exact ⟨hall i (List.mem_range.1 h.1), h.2⟩

theorem leftL_nil {L : List Nat} {listed : Array Bool} (hlt : ∀ i ∈ L, i < ops.size) (h : left ops listed = []) : leftL L listed = [] := by
  rw [List.eq_nil_iff_forall_not_mem] at h ⊢
  intro i hi
  unfold leftL at hi
  rw [List.mem_filter] at hi
  exact h i (by unfold left; rw [List.mem_filter]; exact ⟨List.mem_range.2 (hlt i hi.1), hi.2⟩)

theorem leftL_set {L : List Nat} {listed : Array Bool} {i : Nat} (hi : i < listed.size) : leftL L (listed.setIfInBounds i true) = (leftL L listed).filter (fun k => decide (k ≠ i)) := by
  unfold leftL
  rw [List.filter_filter]
  congr 1
  funext k
  rw [getD_set hi]
  by_cases hk : i = k
  · subst hk; simp
  · simp [hk, Ne.symm hk]

theorem closed_set {listed : Array Bool} {i : Nat} {o : Oper} (hi : i < listed.size) (ho : ops[i]? = some o) (hcl : Closed ops listed) (hpre : ∀ e ∈ o.after.toList, Region.binds .any e = true → listed.getD e.on false = true) :
    Closed ops (listed.setIfInBounds i true) := by
  intro j oj hj hlj e he' hbe
  rw [getD_set hi] at hlj ⊢
  split
  · rfl
  · split at hlj
    · rename_i hij
      subst hij
      rw [ho] at hj
      cases hj
      exact hpre e he' hbe
    · exact hcl j oj hj hlj e he' hbe

/-- The next operation, in a row in which it may come first. -/
theorem take_next {D : List (Nat × Nat)} (hN : noWrite ops D = true) {L : List Nat} (hnd : L.Nodup) {listed : Array Bool} {st st' : St} (hA : Apart D (rd st.slots)) (hsz : listed.size = ops.size) (hcl : Closed ops listed)
    {i : Nat} {o : Oper} (ho : ops[i]? = some o) (hpre : ∀ e ∈ o.after.toList, Region.binds .any e = true → listed.getD e.on false = true) (hil : i ∈ leftL L listed) (hlt : ∀ i ∈ L, i < ops.size)
    (hP : ∀ k A B, leftL L listed = A ++ i :: B → k ∈ A → pairOk E ops (appendFirst ops.toList) D (Region.before ops) k i = true)
    (he : evIdx E F ops (leftL L listed) st = some st') : ∃ s1, evOp E F ops o st = some s1 ∧ evIdx E F ops (leftL L (listed.setIfInBounds i true)) s1 = some st' ∧ (leftL L (listed.setIfInBounds i true)).length < (leftL L listed).length := by
  have hin : i < ops.size := (Array.getElem?_eq_some_iff.1 ho).1
  obtain ⟨A, B, hAB⟩ := List.append_of_mem hil
  have hndl : (leftL L listed).Nodup := by unfold leftL; exact List.Pairwise.filter _ hnd
  have hP' := fun k hk => hP k A B hAB hk
  have hunl : ∀ k ∈ A, listed.getD k true = false ∧ k < ops.size := by
    intro k hk
    have : k ∈ leftL L listed := by rw [hAB]; simp [hk]
    unfold leftL at this
    rw [List.mem_filter] at this
    exact ⟨by simpa using this.2, hlt k this.1⟩
  rw [hAB] at he
  have hb := bubble hN ho A B hA (fun k hk => by
    obtain ⟨hu, hkn⟩ := hunl k hk
    refine ⟨ops[k], Array.getElem?_eq_getElem hkn, ?_⟩
    have h2 := hP' k hk
    unfold pairOk at h2
    simp only [Bool.or_eq_true] at h2
    rcases h2 with h2 | h2
    · have := closed_before hcl i o ho hpre hsz k h2
      rw [getD_any (by omega) false true, hu] at this
      cases this
    · rw [Array.getElem?_eq_getElem hkn, ho] at h2
      exact h2) he
  simp only [evIdx, ho] at hb
  cases hs : evOp E F ops o st with
  | none => simp [hs] at hb
  | some s1 =>
    simp only [hs, Option.bind_some] at hb
    have hi' : i < listed.size := by omega
    rw [hAB] at hndl
    have hnA : ∀ k ∈ A, k ≠ i := fun k hk he => by
      subst he
      exact (List.nodup_append.1 hndl).2.2 k hk k (by simp) rfl
    have hnB : ∀ k ∈ B, k ≠ i := fun k hk he => by
      subst he
      have := (List.nodup_append.1 hndl).2.1
      rw [List.nodup_cons] at this
      exact this.1 hk
    have hleft : leftL L (listed.setIfInBounds i true) = A ++ B := by
      rw [leftL_set hi', hAB, List.filter_append, List.filter_cons]
      simp only [ne_eq, not_true_eq_false, decide_false, Bool.false_eq_true, if_false]
      rw [List.filter_eq_self.2 (fun k hk => by have := hnA k hk; simpa using this), List.filter_eq_self.2 (fun k hk => by have := hnB k hk; simpa using this)]
    exact ⟨s1, rfl, by rw [hleft]; exact hb, by rw [hleft, hAB]; simp⟩

theorem any_ok {D : List (Nat × Nat)} (hF : FnOk E.P F) (hov : OvOk E) (hN : noWrite ops D = true) (hE : okEdges ops = true) {L : List Nat} (hall : ∀ i, i < ops.size → i ∈ L) (hlt : ∀ i ∈ L, i < ops.size) (hnd : L.Nodup)
    {Q : Exit → Act → World → Prop} : ∀ (fuel : Nat) (listed : Array Bool) {w : World} {Im : ImT} {O : OwT} {β : List Nat} {st st' : St} {a : Act},
    Apart D (rd st.slots) → listed.size = ops.size → Closed ops listed → (leftL L listed).length ≤ fuel → (leftL L listed).Pairwise (fun k i => pairOk E ops (appendFirst ops.toList) D (Region.before ops) k i = true) →
    Inv w Im O β st a → evIdx E F ops (leftL L listed) st = some st' →
    (∀ w' Im' O' β' a', Fr w Im O w' Im' O' → Ext β β' → Inv w' Im' O' β' st' a' → a'.defers = a.defers → Q .normal a' w') → wpAny E.P .any ops Q fuel listed a w := by
  have hnil : ∀ {listed : Array Bool} {w : World} {Im : ImT} {O : OwT} {β : List Nat} {st st' : St} {a : Act}, leftL L listed = [] → Inv w Im O β st a → evIdx E F ops (leftL L listed) st = some st' →
      (∀ w' Im' O' β' a', Fr w Im O w' Im' O' → Ext β β' → Inv w' Im' O' β' st' a' → a'.defers = a.defers → Q .normal a' w') → Q .normal a w := by
    intro listed w Im O β st st' a hl hI he hQ
    rw [hl] at he
    simp [evIdx] at he
    subst he
    exact hQ w Im O β a (.refl _ _ _) (.refl β) hI rfl
  intro fuel
  induction fuel with
  | zero =>
    intro listed w Im O β st st' a hA hsz hcl hlen hpw hI he hQ
    have hl : leftL L listed = [] := List.eq_nil_of_length_eq_zero (by omega)
    refine ⟨?_, hnil hl hI he hQ⟩
    rw [List.eq_nil_iff_forall_not_mem]
    intro i hi
    have := leftL_mem hall (ready_spec hi).1
    rw [hl] at this
    simp at this
  | succ fuel ih =>
    intro listed w Im O β st st' a hA hsz hcl hlen hpw hI he hQ
    refine ⟨fun hr => hnil (leftL_nil hlt (left_nil hE hsz hr)) hI he hQ, fun i hi => ?_⟩
    obtain ⟨hil, o, ho, hpre⟩ := ready_spec hi
    have hin : i < ops.size := (Array.getElem?_eq_some_iff.1 ho).1
    obtain ⟨s1, hs, hb, hl2⟩ := take_next hN hnd hA hsz hcl ho hpre (leftL_mem hall hil) hlt (fun k A B hAB hk => by
      rw [hAB] at hpw
      exact (List.pairwise_append.1 hpw).2.2 k hk i (by simp)) he
    exact evOp_ok hF hov hI ho hs (fun w' Im' O' β' a' h1 h2 h3 h4 => ih _ (evOp_apart hN ho hs hA) (by simp [hsz]) (closed_set (by omega) ho hcl hpre) (by omega)
        (by rw [leftL_set (by omega)]; exact List.Pairwise.filter _ hpw) h3 hb
        (fun w'' Im'' O'' β'' a'' k1 k2 k3 k4 => hQ w'' Im'' O'' β'' a'' (h1.trans k1) (h2.trans k2) k3 (k4.trans h4)))

theorem any2_ok {D : List (Nat × Nat)} (hF : FnOk E.P F) (hov : OvOk E) (hN : noWrite ops D = true) (hE : okEdges ops = true) {L1 L2 : List Nat} (hall1 : ∀ i, i < ops.size → i ∈ L1) (hlt1 : ∀ i ∈ L1, i < ops.size) (hnd1 : L1.Nodup)
    (hall2 : ∀ i, i < ops.size → i ∈ L2) (hlt2 : ∀ i ∈ L2, i < ops.size) (hnd2 : L2.Nodup) {x y : Nat} (hxy : x ≠ y) (hx : x < ops.size) (hy : y < ops.size)
    {Q : Exit → Act → World → Prop} : ∀ (fuel : Nat) (listed : Array Bool) {w : World} {Im : ImT} {O : OwT} {β : List Nat} {st s1 s2 : St} {a : Act},
    Apart D (rd st.slots) → listed.size = ops.size → Closed ops listed → listed.getD x true = false → listed.getD y true = false → (leftL L1 listed).length ≤ fuel → (leftL L2 listed).length ≤ fuel →
    (leftL L1 listed).Pairwise (fun k i => (k == x && i == y || pairOk E ops (appendFirst ops.toList) D (Region.before ops) k i) = true) →
    (leftL L2 listed).Pairwise (fun k i => (k == y && i == x || pairOk E ops (appendFirst ops.toList) D (Region.before ops) k i) = true) →
    Inv w Im O β st a → evIdx E F ops (leftL L1 listed) st = some s1 → evIdx E F ops (leftL L2 listed) st = some s2 →
    (∀ w' Im' O' β' a', Fr w Im O w' Im' O' → Ext β β' → (Inv w' Im' O' β' s1 a' ∨ Inv w' Im' O' β' s2 a') → a'.defers = a.defers → Q .normal a' w') → wpAny E.P .any ops Q fuel listed a w := by
  intro fuel
  induction fuel with
  | zero =>
    intro listed w Im O β st s1 s2 a hA hsz hcl hlx hly hlen1 hlen2 hpw1 hpw2 hI he1 he2 hQ
    have hl : leftL L1 listed = [] := List.eq_nil_of_length_eq_zero (by omega)
    have : x ∈ leftL L1 listed := by unfold leftL; rw [List.mem_filter]; exact ⟨hall1 x hx, by simp [hlx]⟩
    rw [hl] at this
    simp at this
  | succ fuel ih =>
    intro listed w Im O β st s1 s2 a hA hsz hcl hlx hly hlen1 hlen2 hpw1 hpw2 hI he1 he2 hQ
    refine ⟨fun hr => ?_, fun i hi => ?_⟩
    · have hl := leftL_nil hlt1 (left_nil hE hsz hr)
      have : x ∈ leftL L1 listed := by unfold leftL; rw [List.mem_filter]; exact ⟨hall1 x hx, by simp [hlx]⟩
      rw [hl] at this
      simp at this
    · obtain ⟨hil, o, ho, hpre⟩ := ready_spec hi
      have hin : i < ops.size := (Array.getElem?_eq_some_iff.1 ho).1
      have hcs := closed_set (by omega) ho hcl hpre
      by_cases hix : i = x
      · subst hix
        obtain ⟨t1, hs, hb, hl2⟩ := take_next hN hnd1 hA hsz hcl ho hpre (leftL_mem hall1 hil) hlt1 (fun k A B hAB hk => by
          rw [hAB] at hpw1
          have := (List.pairwise_append.1 hpw1).2.2 k hk i (by simp)
          simpa [hxy] using this) he1
        refine evOp_ok hF hov hI ho hs (fun w' Im' O' β' a' h1 h2 h3 h4 => any_ok hF hov hN hE hall1 hlt1 hnd1 fuel _ (evOp_apart hN ho hs hA) (by simp [hsz]) hcs (by omega) ?_ h3 hb
          (fun w'' Im'' O'' β'' a'' k1 k2 k3 k4 => hQ w'' Im'' O'' β'' a'' (h1.trans k1) (h2.trans k2) (.inl k3) (k4.trans h4)))
        rw [leftL_set (by omega)]
        have := List.Pairwise.filter (fun k => decide (k ≠ i)) hpw1
        refine List.Pairwise.imp_of_mem ?_ this
        intro k j hk _ hkj
        have hne : k ≠ i := by have := (List.mem_filter.1 hk).2; simpa using this
        simpa [hne] using hkj
      by_cases hiy : i = y
      · subst hiy
        obtain ⟨t1, hs, hb, hl2⟩ := take_next hN hnd2 hA hsz hcl ho hpre (leftL_mem hall2 hil) hlt2 (fun k A B hAB hk => by
          rw [hAB] at hpw2
          have := (List.pairwise_append.1 hpw2).2.2 k hk i (by simp)
          simpa [hix] using this) he2
        refine evOp_ok hF hov hI ho hs (fun w' Im' O' β' a' h1 h2 h3 h4 => any_ok hF hov hN hE hall2 hlt2 hnd2 fuel _ (evOp_apart hN ho hs hA) (by simp [hsz]) hcs (by omega) ?_ h3 hb
          (fun w'' Im'' O'' β'' a'' k1 k2 k3 k4 => hQ w'' Im'' O'' β'' a'' (h1.trans k1) (h2.trans k2) (.inr k3) (k4.trans h4)))
        rw [leftL_set (by omega)]
        have := List.Pairwise.filter (fun k => decide (k ≠ i)) hpw2
        refine List.Pairwise.imp_of_mem ?_ this
        intro k j hk _ hkj
        have hne : k ≠ i := by have := (List.mem_filter.1 hk).2; simpa using this
        simpa [hne] using hkj
      · obtain ⟨t1, hs, hb, hl2⟩ := take_next hN hnd1 hA hsz hcl ho hpre (leftL_mem hall1 hil) hlt1 (fun k A B hAB hk => by
          rw [hAB] at hpw1
          have := (List.pairwise_append.1 hpw1).2.2 k hk i (by simp)
          simpa [hiy] using this) he1
        obtain ⟨t2, hs', hb', hl2'⟩ := take_next hN hnd2 hA hsz hcl ho hpre (leftL_mem hall2 hil) hlt2 (fun k A B hAB hk => by
          rw [hAB] at hpw2
          have := (List.pairwise_append.1 hpw2).2.2 k hk i (by simp)
          simpa [hix] using this) he2
        rw [hs] at hs'
        cases hs'
        exact evOp_ok hF hov hI ho hs (fun w' Im' O' β' a' h1 h2 h3 h4 => ih _ (evOp_apart hN ho hs hA) (by simp [hsz]) hcs (by rw [getD_set (by omega), if_neg hix]; exact hlx) (by rw [getD_set (by omega), if_neg hiy]; exact hly)
          (by omega) (by omega) (by rw [leftL_set (by omega)]; exact List.Pairwise.filter _ hpw1) (by rw [leftL_set (by omega)]; exact List.Pairwise.filter _ hpw2) h3 hb hb'
          (fun w'' Im'' O'' β'' a'' k1 k2 k3 k4 => hQ w'' Im'' O'' β'' a'' (h1.trans k1) (h2.trans k2) k3 (k4.trans h4)))

theorem regOkL_spec {D : List (Nat × Nat)} {bef : Array Nat} {ex : Nat → Nat → Bool} {L : List Nat} (h : regOkL E ops D bef ex L = true) :
    (∀ i, i < ops.size → i ∈ L) ∧ (∀ i ∈ L, i < ops.size) ∧ L.Nodup ∧ L.Pairwise (fun k i => (ex k i || pairOk E ops (appendFirst ops.toList) D bef k i) = true) := by
  unfold regOkL at h
  simp only [Bool.and_eq_true, List.all_eq_true, decide_eq_true_eq] at h
  obtain ⟨⟨⟨h1, h2⟩, h3⟩, h4⟩ := h
  refine ⟨fun i hi => ?_, h1, ?_, pw_spec h4⟩
  · have := h2 i (List.mem_range.2 hi)
    simpa using this
  · exact (pw_spec h3).imp fun h => by simpa using h
end any

/-! #### Code -/

def codeOk (E : Env) : Code → Bool
  | .region _ ops draw => !draw || (match E.alt (posOf ops) ops.size with
    | none => regOk E ops (E.apart (posOf ops) ops.size)
    | some x => regOk2 E ops (E.apart (posOf ops) ops.size) x.1 x.2.1 x.2.2)
  | .seq a b => codeOk E a && codeOk E b
  | .cond _ a b => codeOk E a && codeOk E b
  | .block _ b => codeOk E b
  | .loop b => codeOk E b
  | .scope b => codeOk E b
  | _ => true

structure EnvOk (E : Env) : Prop where
  follows : E.P.follows .mixedOrders = true
  code : ∀ f fn c, E.good f = true → E.P.funcs[f]? = some fn → fn.body = some c → codeOk (E.at f) c = true ∧ fn.name ≠ "runtime.NumGoroutine"
  firm : E.loose = false
  ov : OvOk E

def exOf : Ex → Exit
  | .normal => .normal
  | .exit id => .exit id
  | .ret => .ret

theorem Inv.drew {w : World} {Im : ImT} {O : OwT} {β : List Nat} {st : St} {a : Act} (h : Inv w Im O β st a) : Inv w.drew Im O β st a ∧ Fr w Im O w.drew Im O := by
  obtain ⟨g1, g2, g3⟩ := h.good.newW (w' := w.drew) (Im' := Im) ⟨⟨rfl, rfl, rfl⟩, Nat.le_refl _, fun _ _ => rfl⟩ (fun _ _ h => h) (fun _ _ h => .inl h)
  exact ⟨⟨g1, g3 _ _ h.slots⟩, g2⟩

theorem code_ok {E : Env} {F : FnEv} {k : Nat} (hfol : E.P.follows .mixedOrders = true) (hov : OvOk E) (hF : FnOk E.P F) : ∀ (c : Code), codeOk E c = true → ∀ {w : World} {Im : ImT} {O : OwT} {β : List Nat} {st st' : St} {a : Act} {e : Ex} {Q : Exit → Act → World → Prop},
    Inv w Im O β st a → evCode E F k c st = some (e, st') →
    (∀ w' Im' O' β' a', Fr w Im O w' Im' O' → Ext β β' → Inv w' Im' O' β' st' a' → a'.defers = a.defers → Q (exOf e) a' w') → c.wp E.P Q a w := by
  intro c
  induction c with
  | skip =>
    intro _ w Im O β st st' a e Q hI h hQ
    simp [evCode] at h
    obtain ⟨rfl, rfl⟩ := h
    exact wp_skip (hQ w Im O β a (.refl _ _ _) (.refl β) hI rfl)
  | region id ops draw =>
    intro hc w Im O β st st' a e Q hI h hQ
    simp only [evCode] at h
    split at h
    · cases h
    rename_i hdr
    have hfst : ∀ {s1 : St}, evOps E F ops ops.toList st = some s1 → evIdx E F ops (List.range ops.size) st = some s1 := fun hs => by rw [← evOps_range]; exact hs
    cases draw with
    | false =>
      simp only [Bool.false_eq_true, if_false] at h
      cases hs : evOps E F ops ops.toList st with
      | none => simp [hs] at h
      | some s1 =>
        simp [hs] at h
        obtain ⟨rfl, rfl⟩ := h
        exact wp_region (evIdx_ok hF hov _ hI (hfst hs) hQ)
    | true =>
      simp only [codeOk, Bool.not_true, Bool.false_or] at hc
      simp only [if_true] at h
      obtain ⟨hd, hfr⟩ := hI.drew
      have hl0 : ∀ {L : List Nat}, (∀ i ∈ L, i < ops.size) → leftL L (Array.replicate ops.size false) = L := by
        intro L hL
        unfold leftL
        rw [List.filter_eq_self]
        intro i hi
        have := hL i hi
        simp [Array.getD, this]
      have hA : Apart (E.apart (posOf ops) ops.size) (rd st.slots) := apart_of (by simpa using hdr)
      have hcl0 : Closed ops (Array.replicate ops.size false) := by
        intro j o hj hl
        have : (Array.replicate ops.size false).getD j false = false := by
          simp [Array.getD]
        rw [this] at hl
        cases hl
      cases hal : E.alt (posOf ops) ops.size with
      | none =>
        simp only [hal] at h hc
        cases hs : evOps E F ops ops.toList st with
        | none => simp [hs] at h
        | some s1 =>
          simp [hs] at h
          obtain ⟨rfl, rfl⟩ := h
          unfold regOk at hc
          simp only [Bool.and_eq_true] at hc
          obtain ⟨⟨hN, hEd⟩, hR⟩ := hc
          obtain ⟨r1, r2, r3, r4⟩ := regOkL_spec hR
          refine wp_region_any hfol (any_ok hF hov hN hEd r1 r2 r3 ops.size _ hA (by simp) hcl0 (by rw [hl0 r2]; simp) (by rw [hl0 r2]; simpa using r4) hd (by rw [hl0 r2]; exact hfst hs)
            (fun w' Im' O' β' a' h1 h2 h3 h4 => hQ w' Im' O' β' a' (hfr.trans h1) h2 h3 h4))
      | some x =>
        obtain ⟨L, x, y⟩ := x
        simp only [hal] at h hc
        cases hs : evOps E F ops ops.toList st with
        | none => simp [hs] at h
        | some s1 =>
          simp only [hs, Option.bind_some] at h
          unfold evAlt at h
          cases hs2 : evOps E F ops (listed ops L) st with
          | none => simp [hs2] at h
          | some s2 =>
            simp only [hs2, Option.bind_some] at h
            split at h
            · rename_i hok
              cases h
              unfold regOk2 at hc
              simp only [Bool.and_eq_true, bne_iff_ne, ne_eq, decide_eq_true_eq] at hc
              obtain ⟨⟨⟨⟨hN, hEd⟩, ⟨hxy, hx⟩, hy⟩, hR1⟩, hR2⟩ := hc
              obtain ⟨r1, r2, r3, r4⟩ := regOkL_spec hR1
              obtain ⟨q1, q2, q3, q4⟩ := regOkL_spec hR2
              have hi1 := hfst hs
              have hi2 : evIdx E F ops L st = some s2 := by rw [← evOps_listed]; exact hs2
              obtain ⟨m1, m2⟩ := evIdx_leaves _ hi1
              obtain ⟨p1, p2⟩ := evIdx_leaves _ hi2
              have hLlen : L.length ≤ ops.size := by
                have := q3.length_le_of_subset (l₂ := List.range ops.size) (fun i hi => List.mem_range.2 (q2 i hi))
                simpa using this
              refine wp_region_any hfol (any2_ok hF hov hN hEd r1 r2 r3 q1 q2 q3 hxy hx hy ops.size _ hA (by simp) hcl0 (by simp [Array.getD, hx]) (by simp [Array.getD, hy]) (by rw [hl0 r2]; simp) (by rw [hl0 q2]; exact hLlen)
                (by rw [hl0 r2]; exact r4) (by rw [hl0 q2]; exact q4) hd (by rw [hl0 r2]; exact hi1) (by rw [hl0 q2]; exact hi2)
                (fun w' Im' O' β' a' h1 h2 h3 h4 => ?_))
              rcases h3 with h3 | h3
              · exact hQ w' Im' O' β' a' (hfr.trans h1) h2 h3 h4
              · have hsw := Inv.swap hI h3 hok (m1.trans p1.symm) m2 p2
                have hf := hfr.trans h1
                have hbl : β.length = st.store.length := hI.good.len
                have hb2 : st.store.length + 2 ≤ β'.length := by
                  have := hsw.good.len
                  rw [swB_len] at this
                  rw [this]
                  unfold swOk at hok
                  simp only [Bool.and_eq_true, decide_eq_true_eq] at hok
                  obtain ⟨t1, t2, hbx, _⟩ := hok
                  have e := congrArg List.length (List.take_append_drop st.store.length st'.store)
                  rw [t1] at e
                  unfold swBoxes at hbx
                  split at hbx
                  · rename_i e1 _; rw [e1] at e; simp at e; omega
                  · cases hbx
                refine hQ w' Im' _ _ a' ⟨hf.env, hf.size, hf.same, hf.keep, hf.new, fun b hb ho => ?_⟩ (fun id b hb => ?_) hsw h4
                · unfold swO; rw [hf.own b hb ho]; rfl
                · have hid := (List.getElem?_eq_some_iff.1 hb).1
                  rw [swB_get hb2, swId_low (by omega)]
                  exact h2 id b hb
            · cases h
  | seq x y ix iy =>
    intro hc w Im O β st st' a e Q hI h hQ
    simp only [codeOk, Bool.and_eq_true] at hc
    simp only [evCode] at h
    cases hx : evCode E F k x st with
    | none => simp [hx] at h
    | some r =>
      obtain ⟨e1, s1⟩ := r
      simp only [hx, Option.bind_some] at h
      refine wp_seq (ix hc.1 hI hx (fun w' Im' O' β' a' h1 h2 h3 h4 => ?_))
      cases e1 with
      | normal =>
        simp only at h
        exact iy hc.2 h3 h (fun w'' Im'' O'' β'' a'' k1 k2 k3 k4 => hQ w'' Im'' O'' β'' a'' (h1.trans k1) (h2.trans k2) k3 (k4.trans h4))
      | exit id => simp only at h; cases h; exact hQ w' Im' O' β' a' h1 h2 h3 h4
      | ret => simp only at h; cases h; exact hQ w' Im' O' β' a' h1 h2 h3 h4
  | cond c x y ix iy =>
    intro hc w Im O β st st' a e Q hI h hQ
    simp only [codeOk, Bool.and_eq_true] at hc
    simp only [evCode] at h
    cases hu : use (rd st.slots) c with
    | none => simp [hu] at h
    | some p =>
      simp only [hu, Option.bind_some] at h
      split at h
      · rename_i t
        have hb := (use_rep hI.reps hu).bool_inv
        cases t with
        | true => exact wp_cond_true hb (ix hc.1 hI h hQ)
        | false => exact wp_cond_false hb (iy hc.2 hI h hQ)
      · cases h
  | block id b ib =>
    intro hc w Im O β st st' a e Q hI h hQ
    simp only [codeOk] at hc
    simp only [evCode] at h
    cases hb : evCode E F k b st with
    | none => simp [hb] at h
    | some r =>
      obtain ⟨e1, s1⟩ := r
      simp only [hb, Option.map_some, Option.some.injEq] at h
      refine wp_block (ib hc hI hb (fun w' Im' O' β' a' h1 h2 h3 h4 => ?_))
      split at h
      · rename_i he
        subst he
        cases h
        simp only [exOf, Exit.inBlock, if_true]
        exact hQ w' Im' O' β' a' h1 h2 h3 h4
      · rename_i he
        cases h
        have := hQ w' Im' O' β' a' h1 h2 h3 h4
        cases e with
        | normal => exact this
        | exit id' => simp only [exOf, Exit.inBlock]; rw [if_neg (fun hh => he (by rw [hh]))]; exact this
        | ret => exact this
  | loop b ib =>
    intro hc w Im O β st st' a e Q hI h hQ
    simp only [codeOk] at hc
    simp only [evCode] at h
    -- round by round
    have key : ∀ (n : Nat) {w : World} {Im : ImT} {O : OwT} {β : List Nat} {st : St} {a : Act}, Inv w Im O β st a → loopN (evCode E F k b) n st = some (e, st') →
        (∀ w' Im' O' β' a', Fr w Im O w' Im' O' → Ext β β' → Inv w' Im' O' β' st' a' → a'.defers = a.defers → Q (exOf e) a' w') → ∀ (fr : Frame) (k' : List Item) (cs : List Frame),
        ∃ e' a' w', Q e' a' w' ∧ Arrives E.P (lone (fr.at a (.code b :: .inLoop b :: k')) cs w) fr k' cs e' a' w' := by
      intro n
      induction n with
      | zero => intro w Im O β st a _ h; simp [loopN] at h
      | succ n ihn =>
        intro w Im O β st a hI h hQ fr k' cs
        simp only [loopN] at h
        cases hr : evCode E F k b st with
        | none => simp [hr] at h
        | some r =>
          obtain ⟨e1, s1⟩ := r
          simp only [hr, Option.bind_some] at h
          have hwp := ib hc (Q := Exit.then (fun a' w' => ∃ e' a'' w'', Q e' a'' w'' ∧ Arrives E.P (lone (fr.at a' (.code b :: .inLoop b :: k')) cs w') fr k' cs e' a'' w'') Q) hI hr (fun w' Im' O' β' a' h1 h2 h3 h4 => by
            cases e1 with
            | normal =>
              simp only at h
              exact ihn h3 h (fun w'' Im'' O'' β'' a'' k1 k2 k3 k4 => hQ w'' Im'' O'' β'' a'' (h1.trans k1) (h2.trans k2) k3 (k4.trans h4)) fr k' cs
            | exit id => simp only at h; cases h; exact hQ w' Im' O' β' a' h1 h2 h3 h4
            | ret => simp only at h; cases h; exact hQ w' Im' O' β' a' h1 h2 h3 h4)
          obtain ⟨e2, a2, w2, hq, harr⟩ := hwp fr (.inLoop b :: k') cs
          cases e2 with
          | normal =>
            obtain ⟨e3, a3, w3, hq3, harr3⟩ := hq
            exact ⟨e3, a3, w3, hq3, .of_steps (Steps.trans harr (.one step_inLoop)) harr3⟩
          | exit id => exact ⟨_, a2, w2, hq, .pass (x := .inLoop b) rfl (fun _ _ => .inl (by simp)) harr⟩
          | goto l => exact ⟨_, a2, w2, hq, .pass (x := .inLoop b) rfl (fun _ _ => .inl (by simp)) harr⟩
          | ret => exact ⟨_, a2, w2, hq, .pass (x := .inLoop b) rfl (fun _ _ => .inl (by simp)) harr⟩
          | panic ch => exact ⟨_, a2, w2, hq, .pass (x := .inLoop b) rfl (fun _ _ => .inl (by simp)) harr⟩
          | outgrown => exact ⟨_, a2, w2, hq, .pass (x := .inLoop b) rfl (fun _ _ => .inl (by simp)) harr⟩
    intro fr k' cs
    obtain ⟨e', a', w', hq, harr⟩ := key k hI h hQ fr k' cs
    exact ⟨e', a', w', hq, .of_steps (.one step_loop) harr⟩
  | exit id =>
    intro _ w Im O β st st' a e Q hI h hQ
    simp [evCode] at h
    obtain ⟨rfl, rfl⟩ := h
    exact wp_exit (hQ w Im O β a (.refl _ _ _) (.refl β) hI rfl)
  | ret =>
    intro _ w Im O β st st' a e Q hI h hQ
    simp [evCode] at h
    obtain ⟨rfl, rfl⟩ := h
    exact wp_ret (hQ w Im O β a (.refl _ _ _) (.refl β) hI rfl)
  | rangeFunc f ps as b _ _ => intro _ w Im O β st st' a e Q hI h; simp [evCode] at h
  | scope b ib =>
    intro hc w Im O β st st' a e Q hI h hQ
    simp only [codeOk] at hc
    simp only [evCode] at h
    refine wp_scope_straight (ib hc hI h fun w' Im' O' β' a' h1 h2 h3 h4 => ?_)
    have := hQ w' Im' O' β' a' h1 h2 h3 h4
    cases e <;> exact this
  | label l =>
    intro _ w Im O β st st' a e Q hI h hQ
    simp [evCode] at h
    obtain ⟨rfl, rfl⟩ := h
    exact wp_label (hQ w Im O β a (.refl _ _ _) (.refl β) hI rfl)
  | goto l => intro _ w Im O β st st' a e Q hI h; simp [evCode] at h
  | refuse why => intro _ w Im O β st st' a e Q hI h; simp [evCode] at h

/-! #### Elder boxes -/
section eld
variable {E : Env} {F : FnEv}

theorem Eld.set {n id : Nat} {σ : Store} {cells : List PV} (h : Eld n σ) (hc : id < n → ∀ p ∈ cells, p.Below n) : Eld n (σ.set id cells) := by
  intro id' cs hid hcs p hp
  rw [List.getElem?_set] at hcs
  split at hcs
  · rename_i he
    subst he
    split at hcs
    · cases hcs; exact hc hid p hp
    · cases hcs
  · exact h id' cs hid hcs p hp

theorem EldTo.put {σ σ' : Store} {id off : Nat} {vs : List PV} (hs : storeS σ id off vs = some σ') (hv : ∀ n, id < n → Eld n σ → ∀ p ∈ vs, p.Below n) : EldTo σ σ' := by
  obtain ⟨cells, hc, hfit, rfl⟩ := storeS_spec hs
  refine ⟨by simp, fun n hn he => he.set fun hid p hp => ?_⟩
  rcases List.mem_append.1 hp with hp | hp
  · rcases List.mem_append.1 hp with hp | hp
    · exact he id cells hid hc p (List.mem_of_mem_take hp)
    · exact hv n hid he p hp
  · exact he id cells hid hc p (List.mem_of_mem_drop hp)

theorem EldTo.cut {σ σ' : Store} (h : EldTo σ σ') : EldTo σ (σ'.take σ.length) :=
  ⟨by have := h.1; simp; omega, fun n hn he id cells hid hc p hp => h.2 n hn he id cells hid (by rwa [List.getElem?_take, if_pos (by omega)] at hc) p hp⟩

theorem PV.Below.strip1 {n : Nat} {p : PV} (h : p.Below n) : p.strip1.Below n := by cases p <;> first | exact .d _ | exact h

theorem callIt_eld (hF : FnOk E.P F) (hov : OvOk E) {f : FuncId} {args : List PV} {σ : Store} {r : PV × Store} (h : callIt E F f args σ = some r) : EldTo σ r.2 := by
  unfold callIt at h
  cases hx : E.ext E.loose f with
  | some g =>
    simp only [hx] at h
    cases hr : g args σ with
    | none => simp [hr] at h
    | some res =>
      simp only [hr, Option.map_some, Option.some.injEq] at h
      subst h
      obtain ⟨_, hel⟩ := hov.2 _ f g hx args σ res hr
      simp only
      split
      · exact hel.cut
      · exact hel
  | none =>
    simp only [hx] at h
    cases hg : E.ov f with
    | some g =>
      simp only [hg] at h
      split at h
      · cases hr : g args with
        | none => simp [hr] at h
        | some res =>
          simp only [hr, Option.bind_some] at h
          split at h
          · cases h; exact .refl _
          · cases h
      · cases h
    | none =>
      simp only [hg] at h
      split at h
      · split at h
        · cases hr : F f args [] with
          | none => simp [hr] at h
          | some res =>
            simp only [hr, Option.bind_some] at h
            split at h
            · cases h; exact .refl _
            · cases hz : frzP res.2 (res.2.length + 1) res.1 with
              | none => simp [hz] at h
              | some q => simp [hz] at h; subst h; exact .refl _
        · cases h
      · split at h
        · cases hr : F f args σ with
          | none => simp [hr] at h
          | some res =>
            simp only [hr, Option.bind_some] at h
            split at h
            · cases h; exact .refl _
            · cases h
        · cases hr : F f args σ with
          | none => simp [hr] at h
          | some res =>
            simp only [hr, Option.bind_some] at h
            have := (hF f args σ res.1 res.2 hr).2
            split at h
            · cases h; exact this.cut
            · cases h; exact this

theorem core_eld (hlo : E.loose = false) (hF : FnOk E.P F) (hov : OvOk E) {aps : List Nat} {dst : Option Tmp} {op : Op} {ρ : Nat → PV} {σ : Store} {g : Gives} (h : evCore E F aps dst op ρ σ = some g) : EldTo σ g.2.2 := by
  have pure : ∀ {x : Option PV}, x.map (fun r => (r, (none : Option Nat), σ)) = some g → EldTo σ g.2.2 := by
    intro x hx
    cases x with
    | none => simp at hx
    | some r => simp at hx; subst hx; exact .refl _
  have move : ∀ {tk : Bool} {x : Operand}, moveIt ρ tk σ x = some g → EldTo σ g.2.2 := fun hx => by rw [(moveIt_cls hx).1]; exact .refl _
  cases op with
  | move x => exact move h
  | assign x => exact move h
  | alloc t =>
    simp only [evCore] at h
    cases hz : zeroT E.P t with
    | none => simp [hz] at h
    | some z => simp [hz] at h; subst h; exact .append _ _
  | box t x =>
    simp only [evCore] at h
    cases hx : opv ρ x with
    | none => simp [hx] at h
    | some p =>
      simp only [hx, Option.map_some, Option.some.injEq] at h
      subst h
      exact .append _ _
  | makeSlice t l c =>
    simp only [evCore] at h
    cases hl : use ρ l with
    | none => simp [hl] at h
    | some lv =>
      cases hcv : use ρ c with
      | none => simp [hl, hcv] at h
      | some cv =>
        simp only [hl, hcv, Option.bind_some] at h
        cases hn : natOf lv with
        | none => simp [hn] at h
        | some n =>
          cases hm : natOf cv with
          | none => simp [hn, hm] at h
          | some m =>
            simp only [hn, hm, Option.bind_some] at h
            split at h
            · cases hr : evMakeD E.P t n m with
              | none => simp [hr] at h
              | some r => simp [hr] at h; subst h; exact .refl _
            cases hr : evMake E.P t n m with
            | none => simp [hr] at h
            | some r => simp [hr] at h; subst h; exact .append _ _
  | load t x =>
    simp only [evCore] at h
    cases hx : use ρ x with
    | none => simp [hx] at h
    | some p =>
      simp only [hx, Option.bind_some] at h
      cases hr : loadAs E.P t σ (takes aps dst) p with
      | none => rw [hr] at h; cases h
      | some r =>
        rw [hr] at h
        simp only [Option.map_some, Option.some.injEq] at h
        subst h
        unfold loadAs at hr
        cases ha : aggT E.P t with
        | none => simp [ha] at hr
        | some ag =>
          simp only [ha, Option.bind_some] at hr
          split at hr
          · rename_i id off
            split at hr
            · cases hs : szT E.P t with
              | none => simp [hs] at hr
              | some sz =>
                simp only [hs, Option.bind_some] at hr
                cases hq : loadS σ id off sz with
                | none => simp [hq] at hr
                | some ps => simp [hq] at hr; subst hr; exact .refl _
            · cases hq : loadS σ id off 1 with
              | none => simp [hq] at hr
              | some ps =>
                simp only [hq, Option.bind_some] at hr
                split at hr
                · rename_i c
                  split at hr
                  · cases hs : storeS σ id off [c.strip1] with
                    | none => simp [hs] at hr
                    | some σ' =>
                      simp [hs] at hr
                      subst hr
                      refine .put hs fun n hid he p hp => ?_
                      simp at hp
                      subst hp
                      obtain ⟨cells, k1, k2, k3⟩ := loadS_get hq
                      have hc : c ∈ cells := List.mem_of_mem_drop (List.mem_of_mem_take (by rw [← k3]; simp))
                      exact (he id cells hid k1 c hc).strip1
                  · cases hr; exact .refl _
                · cases hr
          · split at hr
            · cases hs : szT E.P t with
              | none => simp [hs] at hr
              | some sz =>
                simp only [hs, Option.bind_some] at hr
                split at hr
                · cases hr; exact .refl _
                · cases hr
            · rename_i cells _
              cases hc0 : cells[0]? with
              | none => simp [hc0] at hr
              | some c => simp [hc0] at hr; subst hr; exact .refl _
          · cases hr
  | store t x v =>
    simp only [evCore] at h
    cases hx : use ρ x with
    | none => simp [hx] at h
    | some p =>
      cases hv : opv ρ v with
      | none => simp [hx, hv] at h
      | some u =>
        simp only [hx, hv, Option.bind_some] at h
        cases hs : storeAs E.P E.loose t σ p u with
        | none => simp [hs] at h
        | some σ' =>
          simp [hs] at h
          subst h
          unfold storeAs at hs
          split at hs
          · rename_i id off
            split at hs
            · rename_i hcond
              rw [hlo] at hcond
              refine .put hs fun n hid he p hp => ?_
              exact (belowL_of id _ (by simpa using hcond.2.1) p hp).mono (by omega)
            · cases hs
          · cases hs
  | call c =>
    simp only [evCore] at h
    split at h
    · obtain ⟨_, cc, hcc⟩ := evMkApp_ext h
      rw [hcc]; exact .append _ _
    unfold evCall at h
    split at h
    · split at h
      · split at h
        · rename_i tS tX s x h1 h2 htt
          cases hs : opv ρ s with
          | none => simp [hs] at h
          | some sv =>
            cases hx : use ρ x with
            | none => simp [hs, hx] at h
            | some xv =>
              simp only [hs, hx, Option.bind_some] at h
              cases hr : evAppend E.P tS sv xv with
              | none => simp [hr] at h
              | some r => simp [hr] at h; subst h; exact .refl _
        · cases h
      · cases h
    · split at h
      · rename_i t x h1 h2
        cases hx : use ρ x with
        | none => simp [hx] at h
        | some p =>
          simp only [hx, Option.bind_some] at h
          exact pure h
      · cases h
    · split at h
      · rename_i t t' x y h1 h2
        cases hx : use ρ x with
        | none => simp [hx] at h
        | some p =>
          cases hy : use ρ y with
          | none => simp [hx, hy] at h
          | some q =>
            simp only [hx, hy, Option.bind_some] at h
            cases hr : evCopy E.P E.loose t σ p q with
            | none => simp [hr] at h
            | some r =>
              simp [hr] at h
              subst h
              unfold evCopy at hr
              split at hr
              · rename_i e id off len sz rows _
                split at hr
                · rename_i hcond
                  cases hs : storeS σ id off (flatD (rows.take (min rows.length len))) with
                  | none => simp [hs] at hr
                  | some σ' =>
                    simp [hs] at hr
                    subst hr
                    refine .put hs fun n hid he p hp => ?_
                    obtain ⟨k, hk⟩ := List.mem_iff_getElem?.1 hp
                    obtain ⟨_, _, _, d, _, _, _, rfl⟩ := (flatD_get (rowsOk_take hcond.2)).2 k p hk
                    exact .d _
                · cases hr
              · rename_i e id off len sz id' off' len' sz' _
                split at hr
                · rename_i hcond0
                  obtain ⟨_, rfl⟩ := hcond0
                  cases hl : loadS σ id' off' (min len' len * sz') with
                  | none => simp [hl] at hr
                  | some cs =>
                    simp only [hl, Option.bind_some] at hr
                    split at hr
                    · rename_i hcond
                      cases hs : storeS σ id off (cs.map PV.strip1) with
                      | none => simp [hs] at hr
                      | some σ' =>
                        simp [hs] at hr
                        subst hr
                        rw [hlo] at hcond
                        refine .put hs fun n hid he p hp => ?_
                        exact (belowL_of id _ (by simpa using hcond.1) p hp).mono (by omega)
                    · cases hr
                · cases hr
              · cases hr
      · cases h
    · split at h
      · rename_i t x h1 h2
        cases hx : use ρ x with
        | none => simp [hx] at h
        | some p =>
          simp only [hx, Option.bind_some] at h
          cases hr : evClear E.P t σ p with
          | none => simp [hr] at h
          | some r =>
            simp [hr] at h
            subst h
            unfold evClear at hr
            split at hr
            · rename_i e id off len sz _
              cases hz : zeroT E.P e with
              | none => simp [hz] at hr
              | some z =>
                simp only [hz, Option.bind_some] at hr
                split at hr
                · cases hs : storeS σ id off (repCells len (cellsOf z)) with
                  | none => simp [hs] at hr
                  | some σ' =>
                    simp [hs] at hr
                    subst hr
                    refine .put hs fun n hid he p hp => ?_
                    have hov' : ∃ zv, ofValue zv = some z := by
                      unfold zeroT at hz
                      cases hzz : (E.P.info? e).bind (·.zero) with
                      | none => simp [hzz] at hz
                      | some zv => rw [hzz] at hz; exact ⟨zv, hz⟩
                    obtain ⟨zv, hzv⟩ := hov'
                    exact (ofValue_cells hzv n p (repCells_mem hp)).1
                · cases hr
            · cases hr
      · cases h
    · cases hps : useL ρ c.args.toList with
      | none => simp [hps] at h
      | some ps => simp only [hps, Option.bind_some] at h; exact pure h
    · cases hps : useL ρ c.args.toList with
      | none => simp [hps] at h
      | some ps => simp only [hps, Option.bind_some] at h; exact pure h
    · cases h
    · cases h
    · rename_i f _
      cases hf : use ρ f with
      | none => simp [hf] at h
      | some fv =>
        cases ha : useL ρ c.args.toList with
        | none => simp [hf, ha] at h
        | some args =>
          simp only [hf, ha, Option.bind_some] at h
          split at h
          · rename_i g' first captured
            cases hr : callIt E F g' (first.map PV.strip ++ args ++ captured.map PV.strip) σ with
            | none => rw [hr] at h; cases h
            | some r =>
              rw [hr] at h
              simp only [Option.map_some, Option.some.injEq] at h
              subst h
              exact callIt_eld hF hov hr
          · cases h
  | _ => first | (simp [evCore, evPure] at h; done) | exact pure h

theorem evOp_eld (hlo : E.loose = false) (hF : FnOk E.P F) (hov : OvOk E) {ops : Array Oper} {o : Oper} {st st' : St} (h : evOp E F ops o st = some st') : EldTo st.store st'.store := by
  unfold evOp at h
  cases hw : evWant ops o (rd st.slots) with
  | none => simp [hw] at h
  | some b =>
    simp only [hw, Option.bind_some] at h
    cases b with
    | true =>
      simp only [if_true] at h
      cases hc : evCore E F (appendFirst ops.toList) o.dst o.op (rd st.slots) st.store with
      | none => simp [hc] at h
      | some g => simp [hc] at h; subst h; exact core_eld hlo hF hov hc
    | false => simp at h; subst h; exact .refl _

theorem evOps_eld (hlo : E.loose = false) (hF : FnOk E.P F) (hov : OvOk E) {ops : Array Oper} : ∀ {l : List Oper} {st st' : St}, evOps E F ops l st = some st' → EldTo st.store st'.store
  | [], st, st', h => by simp [evOps] at h; subst h; exact .refl _
  | o :: l, st, st', h => by
    simp only [evOps] at h
    cases hs : evOp E F ops o st with
    | none => simp [hs] at h
    | some s1 =>
      simp only [hs, Option.bind_some] at h
      exact (evOp_eld hlo hF hov hs).trans (evOps_eld hlo hF hov h)

theorem code_eld (hlo : E.loose = false) (hF : FnOk E.P F) (hov : OvOk E) {k : Nat} : ∀ (c : Code) {st : St} {r : Ex × St}, evCode E F k c st = some r → EldTo st.store r.2.store := by
  intro c
  induction c with
  | region id ops draw =>
    intro st r hc
    simp only [evCode] at hc
    split at hc
    · cases hc
    split at hc
    · cases hs : evOps E F ops ops.toList st with
      | none => simp [hs] at hc
      | some s => simp [hs] at hc; subst hc; exact evOps_eld hlo hF hov hs
    · cases hs : evOps E F ops ops.toList st with
      | none => simp [hs] at hc
      | some s =>
        simp only [hs, Option.bind_some] at hc
        unfold evAlt at hc
        rename_i x _
        cases hs2 : evOps E F ops (listed ops x.1) st with
        | none => simp [hs2] at hc
        | some s2 =>
          simp only [hs2, Option.bind_some] at hc
          split at hc
          · cases hc; exact evOps_eld hlo hF hov hs
          · cases hc
  | seq a b ia ib =>
    intro st r hc
    simp only [evCode] at hc
    cases hs : evCode E F k a st with
    | none => simp [hs] at hc
    | some x =>
      simp only [hs, Option.bind_some] at hc
      split at hc
      · exact (ia hs).trans (ib hc)
      · cases hc; exact ia hs
  | cond c a b ia ib =>
    intro st r hc
    simp only [evCode] at hc
    cases hu : use (rd st.slots) c with
    | none => simp [hu] at hc
    | some p =>
      simp only [hu, Option.bind_some] at hc
      split at hc
      · split at hc
        · exact ia hc
        · exact ib hc
      · cases hc
  | block id b ib =>
    intro st r hc
    simp only [evCode] at hc
    cases hs : evCode E F k b st with
    | none => simp [hs] at hc
    | some x =>
      simp only [hs, Option.map_some, Option.some.injEq] at hc
      subst hc
      have := ib hs
      split <;> exact this
  | loop b ib =>
    intro st r hc
    simp only [evCode] at hc
    have key : ∀ n {st : St} {r : Ex × St}, loopN (evCode E F k b) n st = some r → EldTo st.store r.2.store := by
      intro n
      induction n with
      | zero => intro st r h; simp [loopN] at h
      | succ n ih =>
        intro st r h
        simp only [loopN] at h
        cases hs : evCode E F k b st with
        | none => simp [hs] at h
        | some x =>
          simp only [hs, Option.bind_some] at h
          split at h
          · exact (ib hs).trans (ih h)
          · cases h; exact ib hs
    exact key k hc
  | skip => intro st r hc; simp [evCode] at hc; subst hc; exact .refl _
  | exit id => intro st r hc; simp [evCode] at hc; subst hc; exact .refl _
  | ret => intro st r hc; simp [evCode] at hc; subst hc; exact .refl _
  | scope b ib => intro st r hc; simp only [evCode] at hc; exact ib hc
  | label l => intro st r hc; simp [evCode] at hc; subst hc; exact .refl _
  | _ => intro st r hc; simp [evCode] at hc
end eld

/-! #### Functions -/


theorem resOne_ok {P : Program} {w : World} {Im : ImT} {O : OwT} {β : List Nat} {st : St} {a : Act} (hI : Inv w Im O β st a) {r : ResultVar} {p : PV} (h : resOne P st r = some p) :
    ∃ v, (match r with | .tmp t => pure (a.tmps.getD t undef) | .cell x t => (do loadVar t (← asAddr (a.tmps.getD x undef))) : Sem Value).run P w = .ok v w ∧ RepP w Im β p v ∧ ∃ l, OwnP w Im O (.slot l) p v := by
  cases r with
  | tmp t =>
    simp [resOne] at h
    subst h
    exact ⟨_, rfl, (hI.slots.get t).1, t, (hI.slots.get t).2⟩
  | cell x t =>
    simp only [resOne] at h
    cases hl : loadAs P t st.store false (rd st.slots x) with
    | none => simp [hl] at h
    | some r =>
      obtain ⟨q, σ'⟩ := r
      simp [hl] at h
      subst h
      have hrep := (hI.slots.get x).1
      obtain ⟨_, u, h1, h2, h3⟩ := load_run (P := P) hI.good hrep hl
      refine ⟨u, ?_, h2, 0, .of_not h3⟩
      have hptr : ∃ b, a.tmps.getD x undef = .pointer (some b) := by
        generalize hp : rd st.slots x = p at hl hrep
        unfold loadAs at hl
        cases ha : aggT P t with
        | none => simp [ha] at hl
        | some ag =>
          simp only [ha, Option.bind_some] at hl
          cases p <;> simp at hl
          · generalize a.tmps.getD x undef = v at hrep
            cases hrep
            exact ⟨_, rfl⟩
          · generalize a.tmps.getD x undef = v at hrep
            cases hrep
            exact ⟨_, rfl⟩
      obtain ⟨b, hb⟩ := hptr
      show (do loadVar t (← asAddr (a.tmps.getD x undef)) : Sem Value).run P w = .ok u w
      rw [hb] at h1 ⊢
      simpa [Instr.loadAt, Instr.sureAddr, asAddr] using h1

theorem resL_ok {P : Program} {w : World} {Im : ImT} {O : OwT} {β : List Nat} {st : St} {a : Act} (hI : Inv w Im O β st a) : ∀ {rs : List ResultVar} {ps : List PV}, resL P st rs = some ps →
    ∃ vs : List Value, (rs.mapM (fun r => (match r with | .tmp t => pure (a.tmps.getD t undef) | .cell x t => (do loadVar t (← asAddr (a.tmps.getD x undef))) : Sem Value))).run P w = .ok vs w ∧ ps.length = vs.length ∧ rs.length = vs.length ∧
      ∀ (i : Nat) (p : PV) (v : Value), ps[i]? = some p → vs[i]? = some v → RepP w Im β p v
  | [], ps, h => by simp [resL] at h; subst h; exact ⟨[], rfl, rfl, rfl, by simp⟩
  | r :: rs, ps, h => by
    cases h1 : resOne P st r with
    | none => simp [resL, h1] at h
    | some p =>
      cases h2 : resL P st rs with
      | none => simp [resL, h1, h2] at h
      | some qs =>
        simp [resL, h1, h2] at h
        subst h
        obtain ⟨v, g1, g2, _⟩ := resOne_ok hI h1
        obtain ⟨vs, k1, k2, k3, k4⟩ := resL_ok hI h2
        refine ⟨v :: vs, ?_, by simp [k2], by simp [k3], fun i q u hq hu => ?_⟩
        · rw [List.mapM_cons]
          simp only [Sem.run_bind, g1, Result.andThen_ok, k1]
          rfl
        · cases i with
          | zero => simp at hq hu; subst hq; subst hu; exact g2.strip
          | succ i => exact k4 i q u (by simpa using hq) (by simpa using hu)

theorem res_ok {P : Program} {w : World} {Im : ImT} {O : OwT} {β : List Nat} {st : St} {a : Act} (hI : Inv w Im O β st a) {fn : Func} {p : PV} (h : resVal P fn st = some p) :
    ∃ v, (results fn a.tmps).run P w = .ok v w ∧ RepP w Im β p v ∧ ∃ l, OwnP w Im O (.slot l) p v := by
  unfold resVal at h
  unfold results
  rw [Array.mapM_eq_mapM_toList]
  split at h
  · rename_i r hr
    cases h1 : resOne P st r with
    | none => simp [h1] at h
    | some q =>
      simp [h1] at h
      subst h
      obtain ⟨v, g1, g2, l, g3⟩ := resOne_ok hI h1
      have hrun : (List.mapM (fun r => (match r with | .tmp t => pure (a.tmps.getD t undef) | .cell x t => (do loadVar t (← asAddr (a.tmps.getD x undef))) : Sem Value)) [r]).run P w = .ok [v] w := by
        rw [List.mapM_cons]
        simp only [Sem.run_bind, g1, Result.andThen_ok]
        rfl
      refine ⟨v, ?_, ?_, l, ?_⟩
      · rw [hr]
        have : ∀ (s : Sem (List Value)), s.run P w = .ok [v] w → ((do let vs ← List.toArray <$> s; pure (if h : vs.size = 1 then vs[0] else .tuple vs) : Sem Value)).run P w = .ok v w := by
          intro s hs
          simp [hs]
        exact this _ hrun
      · cases q <;> first | exact g2 | skip
        exact g2.strip
      · cases q <;> first | exact g3 | exact .of_not (by simp [retOf])
  · rename_i hne
    cases h1 : resL P st fn.results.toList with
    | none => simp [h1] at h
    | some ps =>
      simp [h1] at h
      subst h
      obtain ⟨vs, k1, k2, k3, k4⟩ := resL_ok hI h1
      have hn1 : vs.length ≠ 1 := by
        intro hv
        rw [hv] at k3
        match hfr : fn.results.toList, k3 with
        | [r], _ => exact hne r hfr
      refine ⟨.tuple vs.toArray, ?_, .tup ps _ (by simp [k2]) (fun i q u hq hu => k4 i q u hq (by simpa using hu)), 0, .of_not (by simp)⟩
      have : ∀ (s : Sem (List Value)), s.run P w = .ok vs w → ((do let vs ← List.toArray <$> s; pure (if h : vs.size = 1 then vs[0] else .tuple vs) : Sem Value)).run P w = .ok (.tuple vs.toArray) w := by
        intro s hs
        simp [hs, hn1]
      exact this _ k1

/-- WHAT THE EVALUATOR ANSWERS, THE MACHINE DOES. -/
theorem evF_ok {E : Env} (hE : EnvOk E) : ∀ k, FnOk E.P (evF E k) := by
  intro k
  induction k with
  | zero => intro f args σ res σ' h; simp [evF] at h
  | succ k ih =>
    intro f args σ res σ' h
    simp only [evF] at h
    split at h
    · rename_i hgood
      cases hf : E.P.funcs[f]? with
      | none => simp [hf] at h
      | some fn =>
        simp only [hf] at h
        cases hb : fn.body with
        | none => simp [hb] at h
        | some c =>
          simp only [hb] at h
          cases hc : evCode (E.at f) (evF E k) k c ⟨args ++ List.replicate (fn.ntmps - args.length) .undef, σ⟩ with
          | none => simp [hc] at h
          | some r =>
            obtain ⟨e, st'⟩ := r
            simp only [hc, Option.bind_some] at h
            split at h
            · cases h
            rename_i hwild
            split at h
            · rename_i hex
              cases hr : resVal E.P fn st' with
              | none => simp [hr] at h
              | some v =>
                simp [hr] at h
                obtain ⟨rfl, rfl⟩ := h
                obtain ⟨hcode, hname⟩ := hE.code f fn c hgood hf hb
                have hat : (E.at f).P = E.P ∧ OvOk (E.at f) := by
                  unfold Env.at
                  split
                  · exact ⟨rfl, hE.ov⟩
                  · exact ⟨rfl, hE.ov⟩
                refine ⟨⟨⟨fn, hf, by simp [hb], hname⟩, fun w Im O β vs hg hO hargs => ?_⟩, ?_⟩
                · refine calls_of_wp hf hb ?_
                  have hI : Inv w Im O β ⟨args ++ List.replicate (fn.ntmps - args.length) .undef, σ⟩ { tmps := vs ++ Array.replicate (fn.ntmps - vs.size) undef, defers := [] } := by
                    refine ⟨hg, ⟨by simp [hargs.1], fun i p u hp hu => ?_⟩⟩
                    by_cases hi : i < args.length
                    · rw [List.getElem?_append_left hi] at hp
                      rw [Array.getElem?_append_left (by rw [← hargs.1]; exact hi)] at hu
                      exact ⟨(hargs.2 i p u hp hu).1, .of_not (hargs.2 i p u hp hu).2⟩
                    · rw [List.getElem?_append_right (by omega), List.getElem?_replicate] at hp
                      rw [Array.getElem?_append_right (by rw [← hargs.1]; omega), Array.getElem?_replicate] at hu
                      split at hp
                      · split at hu
                        · cases hp; cases hu
                          exact ⟨.undef, .of_not (by simp)⟩
                        · cases hu
                      · cases hp
                  have := code_ok (E := E.at f) (by rw [hat.1]; exact hE.follows) hat.2 (by rw [hat.1]; exact ih) c hcode hI hc
                    (Q := fun e a' w' => (e = Exit.normal ∨ e = Exit.ret) ∧ ∃ Im' O' β', Fr w Im O w' Im' O' ∧ Ext β β' ∧ Inv w' Im' O' β' st' a' ∧ a'.defers = [])
                    (fun w' Im' O' β' a' h1 h2 h3 h4 => ⟨by rcases hex with rfl | rfl <;> simp [exOf], Im', O', β', h1, h2, h3, h4⟩)
                  rw [hat.1] at this
                  intro fr k' cs
                  obtain ⟨e', a', w', ⟨he', Im', O', β', h1, h2, h3, h4⟩, harr⟩ := this fr k' cs
                  refine ⟨e', a', w', ?_, harr⟩
                  obtain ⟨v', g1, g2, l, g3⟩ := res_ok (P := E.P) h3 hr
                  have fin : a'.defers = [] ∧ ∃ u, (results fn a'.tmps).run E.P w' = .ok u w' ∧ ∃ v_1 Im' O' β' l, Ending.returned u = .returned v_1 ∧ Fr w Im O w' Im' O' ∧ Ext β β' ∧ Good w' Im' O' β' st'.store ∧ RepP w' Im' β' v v_1 ∧ OwnP w' Im' O' (.slot l) v v_1 :=
                    ⟨h4, v', g1, v', Im', O', β', l, rfl, h1, h2, h3.good, g2, g3⟩
                  rcases he' with rfl | rfl
                  · exact fin
                  · exact fin
                · by_cases hw : E.wild f = true
                  · exact .same (by
                      have := hwild
                      simp only [hw, true_and, ne_eq, Decidable.not_not, Classical.not_not] at this
                      exact this)
                  · have hE' : E.at f = E := by unfold Env.at; rw [if_neg hw]
                    rw [hE'] at hc
                    exact code_eld hE.firm ih hE.ov c hc
            · cases h
    · cases h

end Go.Pv

set_option linter.unusedVariables false
set_option linter.unusedSimpArgs false
namespace Go.Pv
open Go

def Le (F F' : FnEv) : Prop := ∀ f a s r, F f a s = some r → F' f a s = some r

section mono
variable {E : Env} {F F' : FnEv}

theorem callIt_mono (h : Le F F') {f : FuncId} {args : List PV} {σ : Store} {r : PV × Store} (hc : callIt E F f args σ = some r) : callIt E F' f args σ = some r := by
  unfold callIt at hc ⊢
  cases hx : E.ext E.loose f with
  | some g => simp only [hx] at hc ⊢; exact hc
  | none =>
  simp only [hx] at hc ⊢
  cases hg : E.ov f with
  | some g => simp only [hg] at hc ⊢; exact hc
  | none =>
    simp only [hg] at hc ⊢
    split at hc
    · rename_i hp
      rw [if_pos hp]
      split at hc
      · rename_i hd
        rw [if_pos hd]
        cases hr : F f args [] with
        | none => simp [hr] at hc
        | some x => rw [hr] at hc; rw [h _ _ _ _ hr]; exact hc
      · cases hc
    · rename_i hp
      rw [if_neg hp]
      split at hc
      · rename_i hro
        rw [if_pos hro]
        cases hr : F f args σ with
        | none => simp [hr] at hc
        | some x => rw [hr] at hc; rw [h _ _ _ _ hr]; exact hc
      rename_i hro
      rw [if_neg hro]
      cases hr : F f args σ with
      | none => simp [hr] at hc
      | some x => rw [hr] at hc; rw [h _ _ _ _ hr]; exact hc

theorem evCall_mono (h : Le F F') {ρ : Nat → PV} {σ : Store} {c : Call} {g : Gives} (hc : evCall E F ρ σ c = some g) : evCall E F' ρ σ c = some g := by
  unfold evCall at hc ⊢
  split at hc
  · exact hc
  · exact hc
  · exact hc
  · exact hc
  · exact hc
  · exact hc
  · exact hc
  · exact hc
  · rename_i f hf0
    cases hf : use ρ f with
    | none => simp [hf] at hc
    | some fv =>
      cases ha : useL ρ c.args.toList with
      | none => simp [hf, ha] at hc
      | some args =>
        simp only [hf, ha, Option.bind_some] at hc ⊢
        split at hc
        · rename_i g' first captured
          cases hr : callIt E F g' (first.map PV.strip ++ args ++ captured.map PV.strip) σ with
          | none => rw [hr] at hc; cases hc
          | some r => rw [hr] at hc; rw [callIt_mono h hr]; exact hc
        · cases hc

theorem evCore_mono (h : Le F F') {aps : List Nat} {dst : Option Tmp} {op : Op} {ρ : Nat → PV} {σ : Store} {g : Gives} (hc : evCore E F aps dst op ρ σ = some g) : evCore E F' aps dst op ρ σ = some g := by
  cases op with
  | call c =>
    simp only [evCore] at hc ⊢
    split at hc
    · rename_i hm; rw [if_pos hm]; exact hc
    · rename_i hm; rw [if_neg hm]; exact evCall_mono h hc
  | _ => exact hc

theorem evOp_mono (h : Le F F') {ops : Array Oper} {o : Oper} {st st' : St} (hc : evOp E F ops o st = some st') : evOp E F' ops o st = some st' := by
  unfold evOp at hc ⊢
  cases hw : evWant ops o (rd st.slots) with
  | none => simp [hw] at hc
  | some b =>
    simp only [hw, Option.bind_some] at hc ⊢
    cases b with
    | false => exact hc
    | true =>
      simp only [if_true] at hc ⊢
      cases hg : evCore E F (appendFirst ops.toList) o.dst o.op (rd st.slots) st.store with
      | none => simp [hg] at hc
      | some g => rw [hg] at hc; rw [evCore_mono h hg]; exact hc

theorem evOps_mono (h : Le F F') {ops : Array Oper} : ∀ {l : List Oper} {st st' : St}, evOps E F ops l st = some st' → evOps E F' ops l st = some st'
  | [], st, st', hc => hc
  | o :: l, st, st', hc => by
    simp only [evOps] at hc ⊢
    cases hs : evOp E F ops o st with
    | none => simp [hs] at hc
    | some s1 =>
      rw [hs] at hc
      rw [evOp_mono h hs]
      exact evOps_mono h hc

theorem loopN_mono {step step' : St → Option (Ex × St)} (h : ∀ st r, step st = some r → step' st = some r) : ∀ {n m : Nat}, n ≤ m → ∀ {st : St} {r : Ex × St}, loopN step n st = some r → loopN step' m st = some r
  | 0, m, _, st, r, hc => by simp [loopN] at hc
  | n + 1, 0, hl, st, r, hc => by omega
  | n + 1, m + 1, hl, st, r, hc => by
    simp only [loopN] at hc ⊢
    cases hs : step st with
    | none => simp [hs] at hc
    | some x =>
      rw [hs] at hc
      rw [h _ _ hs]
      simp only [Option.bind_some] at hc ⊢
      split at hc
      · exact loopN_mono h (by omega) hc
      · exact hc

theorem evCode_mono (h : Le F F') {k k' : Nat} (hk : k ≤ k') : ∀ (c : Code) {st : St} {r : Ex × St}, evCode E F k c st = some r → evCode E F' k' c st = some r := by
  intro c
  induction c with
  | region id ops draw =>
    intro st r hc
    simp only [evCode] at hc ⊢
    split at hc
    · cases hc
    rename_i hdr
    rw [if_neg hdr]
    generalize (if draw = true then E.alt (posOf ops) ops.size else none) = al at hc ⊢
    cases al with
    | none =>
      simp only at hc ⊢
      cases hs : evOps E F ops ops.toList st with
      | none => simp [hs] at hc
      | some s => rw [hs] at hc; rw [evOps_mono h hs]; exact hc
    | some x =>
      simp only at hc ⊢
      cases hs : evOps E F ops ops.toList st with
      | none => simp [hs] at hc
      | some s =>
        rw [hs] at hc
        rw [evOps_mono h hs]
        simp only [Option.bind_some] at hc ⊢
        unfold evAlt at hc ⊢
        cases hs2 : evOps E F ops (listed ops x.1) st with
        | none => simp [hs2] at hc
        | some s2 => rw [hs2] at hc; rw [evOps_mono h hs2]; exact hc
  | seq a b ia ib =>
    intro st r hc
    simp only [evCode] at hc ⊢
    cases hs : evCode E F k a st with
    | none => simp [hs] at hc
    | some x =>
      rw [hs] at hc
      rw [ia hs]
      simp only [Option.bind_some] at hc ⊢
      split at hc
      · exact ib hc
      · exact hc
  | cond c a b ia ib =>
    intro st r hc
    simp only [evCode] at hc ⊢
    cases hu : use (rd st.slots) c with
    | none => simp [hu] at hc
    | some p =>
      simp only [hu, Option.bind_some] at hc ⊢
      split at hc
      · split at hc
        · rename_i ht; simp only [ht, if_true]; exact ia hc
        · rename_i ht; simp only [ht, if_false, Bool.false_eq_true]; exact ib hc
      · cases hc
  | block id b ib =>
    intro st r hc
    simp only [evCode] at hc ⊢
    cases hs : evCode E F k b st with
    | none => simp [hs] at hc
    | some x => rw [hs] at hc; rw [ib hs]; exact hc
  | loop b ib =>
    intro st r hc
    simp only [evCode] at hc ⊢
    exact loopN_mono (fun st r hs => ib hs) hk hc
  | scope b ib => intro st r hc; simp only [evCode] at hc ⊢; exact ib hc
  | _ => intro st r hc; exact hc

theorem evF_mono (k : Nat) : Le (evF E k) (evF E (k + 1)) := by
  induction k with
  | zero => intro f a s r h; simp [evF] at h
  | succ k ih =>
    intro f args σ r h
    rw [evF] at h ⊢
    split at h
    · rename_i hg
      rw [if_pos hg]
      cases hf : E.P.funcs[f]? with
      | none => simp [hf] at h
      | some fn =>
        simp only [hf] at h ⊢
        cases hb : fn.body with
        | none => simp [hb] at h
        | some c =>
          simp only [hb] at h ⊢
          cases hc : evCode (E.at f) (evF E k) k c ⟨args ++ List.replicate (fn.ntmps - args.length) .undef, σ⟩ with
          | none => simp [hc] at h
          | some x => rw [hc] at h; rw [evCode_mono ih (Nat.le_succ k) c hc]; exact h
    · cases h

theorem evF_mono' {k k' : Nat} (h : k ≤ k') : Le (evF E k) (evF E k') := by
  induction h with
  | refl => exact fun _ _ _ _ h => h
  | step _ ih => exact fun f a s r hr => evF_mono _ f a s r (ih f a s r hr)
end mono

open Classical in
/-- What the evaluator answers with rounds enough. -/
noncomputable def evI (E : Env) : FnEv := fun f args σ =>
  if h : ∃ r k, evF E k f args σ = some r then some (Classical.choose h) else none

theorem evI_iff {E : Env} {f : FuncId} {args : List PV} {σ : Store} {r : PV × Store} : evI E f args σ = some r ↔ ∃ k, evF E k f args σ = some r := by
  unfold evI
  constructor
  · intro h
    split at h
    · rename_i hex
      cases h
      exact Classical.choose_spec hex
    · cases h
  · rintro ⟨k, hk⟩
    have hex : ∃ r k, evF E k f args σ = some r := ⟨r, k, hk⟩
    rw [dif_pos hex]
    obtain ⟨k', hk'⟩ := Classical.choose_spec hex
    have h1 := evF_mono' (E := E) (Nat.le_max_left k k') f args σ _ hk
    have h2 := evF_mono' (E := E) (Nat.le_max_right k k') f args σ _ hk'
    rw [h1] at h2
    exact h2.symm

section cont
variable {E E' : Env}

/-- From some number of rounds on. -/
def Evt (p : Nat → Prop) : Prop := ∃ K, ∀ k, K ≤ k → p k
theorem Evt.of {p : Nat → Prop} (h : ∀ k, p k) : Evt p := ⟨0, fun k _ => h k⟩
theorem Evt.and {p q : Nat → Prop} (h : Evt p) (h' : Evt q) : Evt fun k => p k ∧ q k := by
  obtain ⟨K, h⟩ := h
  obtain ⟨K', h'⟩ := h'
  exact ⟨max K K', fun k hk => ⟨h k (by omega), h' k (by omega)⟩⟩
theorem Evt.mono {p q : Nat → Prop} (h : Evt p) (hh : ∀ k, p k → q k) : Evt q := by
  obtain ⟨K, h⟩ := h
  exact ⟨K, fun k hk => hh k (h k hk)⟩

theorem evI_evt {f : FuncId} {args : List PV} {σ : Store} {r : PV × Store} (h : evI E f args σ = some r) : Evt fun k => evF E k f args σ = some r := by
  obtain ⟨k, hk⟩ := evI_iff.1 h
  exact ⟨k, fun k' hk' => evF_mono' hk' _ _ _ _ hk⟩

theorem callIt_evt {f : FuncId} {args : List PV} {σ : Store} {r : PV × Store} (hc : callIt E' (evI E) f args σ = some r) : Evt fun k => callIt E' (evF E k) f args σ = some r := by
  unfold callIt at hc ⊢
  cases hx : E'.ext E'.loose f with
  | some g => simp only [hx] at hc ⊢; exact .of fun _ => hc
  | none =>
  simp only [hx] at hc ⊢
  cases hg : E'.ov f with
  | some g => simp only [hg] at hc ⊢; exact .of fun _ => hc
  | none =>
    simp only [hg] at hc ⊢
    split at hc
    · rename_i hp
      simp only [hp, if_true]
      split at hc
      · rename_i hd
        simp only [hd, if_true]
        cases hr : evI E f args [] with
        | none => simp [hr] at hc
        | some x => rw [hr] at hc; exact (evI_evt hr).mono fun k hk => by rw [hk]; exact hc
      · cases hc
    · rename_i hp
      simp only [hp, if_false, Bool.false_eq_true]
      split at hc
      · rename_i hro
        simp only [hro, if_true]
        cases hr : evI E f args σ with
        | none => simp [hr] at hc
        | some x => rw [hr] at hc; exact (evI_evt hr).mono fun k hk => by rw [hk]; exact hc
      rename_i hro
      simp only [hro, if_false, Bool.false_eq_true]
      cases hr : evI E f args σ with
      | none => simp [hr] at hc
      | some x => rw [hr] at hc; exact (evI_evt hr).mono fun k hk => by rw [hk]; exact hc

theorem evCall_evt {ρ : Nat → PV} {σ : Store} {c : Call} {g : Gives} (hc : evCall E' (evI E) ρ σ c = some g) : Evt fun k => evCall E' (evF E k) ρ σ c = some g := by
  unfold evCall at hc ⊢
  split at hc
  · exact .of fun _ => hc
  · exact .of fun _ => hc
  · exact .of fun _ => hc
  · exact .of fun _ => hc
  · exact .of fun _ => hc
  · exact .of fun _ => hc
  · exact .of fun _ => hc
  · exact .of fun _ => hc
  · rename_i f hf0
    cases hf : use ρ f with
    | none => simp [hf] at hc
    | some fv =>
      cases ha : useL ρ c.args.toList with
      | none => simp [hf, ha] at hc
      | some args =>
        simp only [hf, ha, Option.bind_some] at hc ⊢
        split at hc
        · rename_i g' first captured
          cases hr : callIt E' (evI E) g' (first.map PV.strip ++ args ++ captured.map PV.strip) σ with
          | none => rw [hr] at hc; cases hc
          | some r => rw [hr] at hc; exact (callIt_evt hr).mono fun k hk => by rw [hk]; exact hc
        · cases hc

theorem evOp_evt {ops : Array Oper} {o : Oper} {st st' : St} (hc : evOp E' (evI E) ops o st = some st') : Evt fun k => evOp E' (evF E k) ops o st = some st' := by
  unfold evOp at hc ⊢
  cases hw : evWant ops o (rd st.slots) with
  | none => simp [hw] at hc
  | some b =>
    simp only [hw, Option.bind_some] at hc ⊢
    cases b with
    | false => exact .of fun _ => hc
    | true =>
      simp only [if_true] at hc ⊢
      cases hg : evCore E' (evI E) (appendFirst ops.toList) o.dst o.op (rd st.slots) st.store with
      | none => simp [hg] at hc
      | some g =>
        rw [hg] at hc
        have : Evt fun k => evCore E' (evF E k) (appendFirst ops.toList) o.dst o.op (rd st.slots) st.store = some g := by
          cases hop : o.op with
          | call c =>
            rw [hop] at hg
            simp only [evCore] at hg ⊢
            split at hg
            · rename_i hm; simp only [hm, if_true]; exact .of fun _ => hg
            · rename_i hm; simp only [hm, Bool.false_eq_true, if_false]; exact evCall_evt hg
          | _ => rw [hop] at hg; exact .of fun _ => hg
        exact this.mono fun k hk => by rw [hk]; exact hc

theorem evOps_evt {ops : Array Oper} : ∀ {l : List Oper} {st st' : St}, evOps E' (evI E) ops l st = some st' → Evt fun k => evOps E' (evF E k) ops l st = some st'
  | [], st, st', hc => .of fun _ => hc
  | o :: l, st, st', hc => by
    simp only [evOps] at hc ⊢
    cases hs : evOp E' (evI E) ops o st with
    | none => simp [hs] at hc
    | some s1 =>
      rw [hs] at hc
      simp only [Option.bind_some] at hc
      exact ((evOp_evt hs).and (evOps_evt hc)).mono fun k hk => by rw [hk.1]; exact hk.2

theorem loopN_evt {step : St → Option (Ex × St)} {stepK : Nat → St → Option (Ex × St)} (h : ∀ st r, step st = some r → Evt fun k => stepK k st = some r) : ∀ {n : Nat} {st : St} {r : Ex × St},
    loopN step n st = some r → Evt fun k => loopN (stepK k) n st = some r
  | 0, st, r, hc => by simp [loopN] at hc
  | n + 1, st, r, hc => by
    simp only [loopN] at hc ⊢
    cases hs : step st with
    | none => simp [hs] at hc
    | some x =>
      rw [hs] at hc
      simp only [Option.bind_some] at hc
      split at hc
      · rename_i he
        exact ((h _ _ hs).and (loopN_evt h hc)).mono fun k hk => by rw [hk.1]; simp only [Option.bind_some, he]; exact hk.2
      · rename_i he
        exact (h _ _ hs).mono fun k hk => by
          rw [hk]
          simp only [Option.bind_some]
          exact hc

theorem evCode_evt {m : Nat} : ∀ (c : Code) {st : St} {r : Ex × St}, evCode E' (evI E) m c st = some r → Evt fun k => evCode E' (evF E k) m c st = some r := by
  intro c
  induction c with
  | region id ops draw =>
    intro st r hc
    simp only [evCode] at hc ⊢
    split at hc
    · cases hc
    rename_i hdr
    simp only [if_neg hdr]
    generalize (if draw = true then E'.alt (posOf ops) ops.size else none) = al at hc ⊢
    cases al with
    | none =>
      simp only at hc ⊢
      cases hs : evOps E' (evI E) ops ops.toList st with
      | none => simp [hs] at hc
      | some s => rw [hs] at hc; exact (evOps_evt hs).mono fun k hk => by rw [hk]; exact hc
    | some x =>
      simp only at hc ⊢
      cases hs : evOps E' (evI E) ops ops.toList st with
      | none => simp [hs] at hc
      | some s =>
        rw [hs] at hc
        simp only [Option.bind_some] at hc
        unfold evAlt at hc ⊢
        cases hs2 : evOps E' (evI E) ops (listed ops x.1) st with
        | none => simp [hs2] at hc
        | some s2 =>
          rw [hs2] at hc
          exact ((evOps_evt hs).and (evOps_evt hs2)).mono fun k hk => by rw [hk.1]; simp only [Option.bind_some]; rw [hk.2]; exact hc
  | seq a b ia ib =>
    intro st r hc
    simp only [evCode] at hc ⊢
    cases hs : evCode E' (evI E) m a st with
    | none => simp [hs] at hc
    | some x =>
      rw [hs] at hc
      simp only [Option.bind_some] at hc
      split at hc
      · rename_i he
        exact ((ia hs).and (ib hc)).mono fun k hk => by rw [hk.1]; simp only [Option.bind_some, he]; exact hk.2
      · rename_i he
        exact (ia hs).mono fun k hk => by
          rw [hk]
          simp only [Option.bind_some]
          exact hc
  | cond c a b ia ib =>
    intro st r hc
    simp only [evCode] at hc ⊢
    cases hu : use (rd st.slots) c with
    | none => simp [hu] at hc
    | some p =>
      simp only [hu, Option.bind_some] at hc ⊢
      split at hc
      · split at hc
        · rename_i ht; simp only [ht, if_true]; exact ia hc
        · rename_i ht; simp only [ht, if_false, Bool.false_eq_true]; exact ib hc
      · cases hc
  | block id b ib =>
    intro st r hc
    simp only [evCode] at hc ⊢
    cases hs : evCode E' (evI E) m b st with
    | none => simp [hs] at hc
    | some x => rw [hs] at hc; exact (ib hs).mono fun k hk => by rw [hk]; exact hc
  | loop b ib =>
    intro st r hc
    simp only [evCode] at hc ⊢
    exact loopN_evt (fun st r hs => ib hs) hc
  | scope b ib => intro st r hc; simp only [evCode] at hc ⊢; exact ib hc
  | _ => intro st r hc; exact .of fun _ => hc

theorem Env.at_firm {f : FuncId} (h : E.wild f = false) : E.at f = E := by unfold Env.at; rw [if_neg (by rw [h]; simp)]

/-- HOW A FUNCTION's ANSWER IS PROVED: its code is evaluated, calls by their own answers. -/
theorem evI_introW {f : FuncId} {fn : Func} {c : Code} {args : List PV} {σ : Store} (m : Nat) {e : Ex} {st' : St} {v : PV} (hg : E.good f = true) (hf : E.P.funcs[f]? = some fn) (hb : fn.body = some c)
    (hc : evCode (E.at f) (evI E) m c ⟨args ++ List.replicate (fn.ntmps - args.length) .undef, σ⟩ = some (e, st')) (he : e = .normal ∨ e = .ret) (hw : E.wild f = true → st'.store.take σ.length = σ) (hv : resVal E.P fn st' = some v) :
    evI E f args σ = some (v, st'.store) := by
  obtain ⟨K, hK⟩ := evCode_evt c hc
  refine evI_iff.2 ⟨max K m + 1, ?_⟩
  have h1 := evCode_mono (E := E.at f) (fun _ _ _ _ h => h) (Nat.le_max_right K m) c (hK (max K m) (by omega))
  rw [evF, if_pos hg]
  simp only [hf, hb, h1, Option.bind_some]
  rw [if_neg (fun h => h.2 (hw h.1)), if_pos he, hv]
  rfl

theorem evI_intro {f : FuncId} {fn : Func} {c : Code} {args : List PV} {σ : Store} (m : Nat) {e : Ex} {st' : St} {v : PV} (hg : E.good f = true) (hw : E.wild f = false) (hf : E.P.funcs[f]? = some fn) (hb : fn.body = some c)
    (hc : evCode E (evI E) m c ⟨args ++ List.replicate (fn.ntmps - args.length) .undef, σ⟩ = some (e, st')) (he : e = .normal ∨ e = .ret) (hv : resVal E.P fn st' = some v) :
    evI E f args σ = some (v, st'.store) :=
  evI_introW m hg hf hb (by rw [Env.at_firm hw]; exact hc) he (fun h => by rw [hw] at h; cases h) hv

theorem evI_ok (hE : EnvOk E) : FnOk E.P (evI E) := by
  intro f args σ res σ' h
  obtain ⟨k, hk⟩ := evI_iff.1 h
  exact evF_ok hE k f args σ res σ' hk

end cont
end Go.Pv

