/- The code of a function; and the theorem: what the evaluator answers, the machine does; The evaluator without a bound on its rounds; Arguments that came in, read as pure values; and a law's call; Overrides: contracts of the kit's shelf, said of pure values; slices.Clone, of pure values. -/
import Derived.Test.YtnnindnmpfmaaaaGreatNt03
import Derived.Scope
import Derived.RowKit3
import Derived.Carry
import Derived.ProofKit
import Derived.OpenShut
import Derived.ShutString
import Derived.ChangeOld
import Derived.Shelf.SlicesE.Clone
import Derived.Shelf.SlLaysE0
import Derived.Shelf.RegionOpenPlain
import Derived.WalkKit
import Derived.Deep.LoopGhost
import Derived.Lib.Walk
import Derived.Lib.SliceRun
set_option linter.unusedVariables false
set_option linter.unusedSimpArgs false
namespace Go.Pv
open Go
section any
variable {E : Env} {F : FnEv} {ops : Array Oper}
def left (ops : Array Oper) (listed : Array Bool) : List Nat := (List.range ops.size).filter fun i => !listed.getD i true
theorem getD_set {listed : Array Bool} {i k : Nat} {d : Bool} (hi : i < listed.size) : (listed.setIfInBounds i true).getD k d = if i = k then true else listed.getD k d := by
  rw [Array.getD_eq_getD_getElem?, Array.getElem?_setIfInBounds, Array.getD_eq_getD_getElem?]
  split
  · rename_i h; subst h; simp [hi]
  · rfl
theorem getD_any {listed : Array Bool} {i : Nat} (hi : i < listed.size) (d d' : Bool) : listed.getD i d = listed.getD i d' := by simp [Array.getD, hi]
theorem ready_spec {listed : Array Bool} {i : Nat} (h : i ∈ Region.ready .any ops listed) :
    i ∈ left ops listed ∧ ∃ o, ops[i]? = some o ∧ ∀ e ∈ o.after.toList, Region.binds .any e = true → listed.getD e.on false = true := by
  unfold Region.ready at h
  rw [List.mem_filter] at h
  obtain ⟨h1, h2⟩ := h
  simp only [Bool.and_eq_true] at h2
  have hi : i < ops.size := List.mem_range.1 h1
  refine ⟨by unfold left; rw [List.mem_filter]; exact ⟨h1, h2.1⟩, ops[i], Array.getElem?_eq_getElem hi, fun e he hb => ?_⟩
  have h3 := h2.2
  rw [Array.getElem?_eq_getElem hi] at h3
  simp only [Option.map_some, Option.getD_some] at h3
  rw [← Array.all_toList, List.all_eq_true] at h3
  have := h3 e he
  simpa [hb] using this
theorem left_nil {listed : Array Bool} (hE : okEdges ops = true) (hsz : listed.size = ops.size) (h : Region.ready .any ops listed = []) : left ops listed = [] := by
  have key : ∀ i, i < ops.size → listed.getD i true = true := by
    intro i
    induction i using Nat.strongRecOn with
    | _ i ih =>
      intro hi
      cases hl : listed.getD i true with
      | true => rfl
      | false =>
        exfalso
        have : i ∈ Region.ready .any ops listed := by
          unfold Region.ready
          rw [List.mem_filter]
          refine ⟨List.mem_range.2 hi, ?_⟩
          rw [hl, Array.getElem?_eq_getElem hi]
          simp only [Bool.not_false, Bool.true_and, Option.map_some, Option.getD_some]
          rw [← Array.all_toList, List.all_eq_true]
          intro e he
          cases hb : Region.binds .any e with
          | false => simp
          | true =>
            have hok := List.all_eq_true.1 hE i (List.mem_range.2 hi)
            rw [Array.getElem?_eq_getElem hi] at hok
            have := List.all_eq_true.1 hok e he
            simp [hb] at this
            have hlt : e.on < ops.size := by omega
            rw [getD_any (by omega) false true, ih e.on this hlt]
            simp
        rw [h] at this
        simp at this
  unfold left
  rw [List.filter_eq_nil_iff]
  intro i hi
  simp [key i (List.mem_range.1 hi)]
def leftL (L : List Nat) (listed : Array Bool) : List Nat := L.filter fun i => !listed.getD i true
theorem leftL_mem {L : List Nat} {listed : Array Bool} (hall : ∀ i, i < ops.size → i ∈ L) {i : Nat} (h : i ∈ left ops listed) : i ∈ leftL L listed := by
  unfold left at h
  unfold leftL
  rw [List.mem_filter] at h ⊢
  exact ⟨hall i (List.mem_range.1 h.1), h.2⟩
theorem leftL_nil {L : List Nat} {listed : Array Bool} (hlt : ∀ i ∈ L, i < ops.size) (h : left ops listed = []) : leftL L listed = [] := by
  rw [List.eq_nil_iff_forall_not_mem] at h ⊢
  intro i hi
  unfold leftL at hi
  rw [List.mem_filter] at hi
  exact h i (by unfold left; rw [List.mem_filter]; exact ⟨List.mem_range.2 (hlt i hi.1), hi.2⟩)
theorem leftL_set {L : List Nat} {listed : Array Bool} {i : Nat} (hi : i < listed.size) : leftL L (listed.setIfInBounds i true) = (leftL L listed).filter (fun k => decide (k ≠ i)) := by
  unfold leftL
  rw [List.filter_filter]
  congr 1
  funext k
  rw [getD_set hi]
  by_cases hk : i = k
  · subst hk; simp
  · simp [hk, Ne.symm hk]
theorem closed_set {listed : Array Bool} {i : Nat} {o : Oper} (hi : i < listed.size) (ho : ops[i]? = some o) (hcl : Closed ops listed) (hpre : ∀ e ∈ o.after.toList, Region.binds .any e = true → listed.getD e.on false = true) :
    Closed ops (listed.setIfInBounds i true) := by
  intro j oj hj hlj e he' hbe
  rw [getD_set hi] at hlj ⊢
  split
  · rfl
  · split at hlj
    · rename_i hij
      subst hij
      rw [ho] at hj
      cases hj
      exact hpre e he' hbe
    · exact hcl j oj hj hlj e he' hbe
theorem take_next {D : List (Nat × Nat)} (hN : noWrite ops D = true) {L : List Nat} (hnd : L.Nodup) {listed : Array Bool} {st st' : St} (hA : Apart D (rd st.slots)) (hsz : listed.size = ops.size) (hcl : Closed ops listed)
    {i : Nat} {o : Oper} (ho : ops[i]? = some o) (hpre : ∀ e ∈ o.after.toList, Region.binds .any e = true → listed.getD e.on false = true) (hil : i ∈ leftL L listed) (hlt : ∀ i ∈ L, i < ops.size)
    (hP : ∀ k A B, leftL L listed = A ++ i :: B → k ∈ A → pairOk E ops (appendFirst ops.toList) D (Region.before ops) k i = true)
    (he : evIdx E F ops (leftL L listed) st = some st') : ∃ s1, evOp E F ops o st = some s1 ∧ evIdx E F ops (leftL L (listed.setIfInBounds i true)) s1 = some st' ∧ (leftL L (listed.setIfInBounds i true)).length < (leftL L listed).length := by
  have hin : i < ops.size := (Array.getElem?_eq_some_iff.1 ho).1
  obtain ⟨A, B, hAB⟩ := List.append_of_mem hil
  have hndl : (leftL L listed).Nodup := by unfold leftL; exact List.Pairwise.filter _ hnd
  have hP' := fun k hk => hP k A B hAB hk
  have hunl : ∀ k ∈ A, listed.getD k true = false ∧ k < ops.size := by
    intro k hk
    have : k ∈ leftL L listed := by rw [hAB]; simp [hk]
    unfold leftL at this
    rw [List.mem_filter] at this
    exact ⟨by simpa using this.2, hlt k this.1⟩
  rw [hAB] at he
  have hb := bubble hN ho A B hA (fun k hk => by
    obtain ⟨hu, hkn⟩ := hunl k hk
    refine ⟨ops[k], Array.getElem?_eq_getElem hkn, ?_⟩
    have h2 := hP' k hk
    unfold pairOk at h2
    simp only [Bool.or_eq_true] at h2
    rcases h2 with h2 | h2
    · have := closed_before hcl i o ho hpre hsz k h2
      rw [getD_any (by omega) false true, hu] at this
      cases this
    · rw [Array.getElem?_eq_getElem hkn, ho] at h2
      exact h2) he
  simp only [evIdx, ho] at hb
  cases hs : evOp E F ops o st with
  | none => simp [hs] at hb
  | some s1 =>
    simp only [hs, Option.bind_some] at hb
    have hi' : i < listed.size := by omega
    rw [hAB] at hndl
    have hnA : ∀ k ∈ A, k ≠ i := fun k hk he => by
      subst he
      exact (List.nodup_append.1 hndl).2.2 k hk k (by simp) rfl
    have hnB : ∀ k ∈ B, k ≠ i := fun k hk he => by
      subst he
      have := (List.nodup_append.1 hndl).2.1
      rw [List.nodup_cons] at this
      exact this.1 hk
    have hleft : leftL L (listed.setIfInBounds i true) = A ++ B := by
      rw [leftL_set hi', hAB, List.filter_append, List.filter_cons]
      simp only [ne_eq, not_true_eq_false, decide_false, Bool.false_eq_true, if_false]
      rw [List.filter_eq_self.2 (fun k hk => by have := hnA k hk; simpa using this), List.filter_eq_self.2 (fun k hk => by have := hnB k hk; simpa using this)]
    exact ⟨s1, rfl, by rw [hleft]; exact hb, by rw [hleft, hAB]; simp⟩
theorem any_ok {D : List (Nat × Nat)} (hF : FnOk E.P F) (hov : OvOk E) (hN : noWrite ops D = true) (hE : okEdges ops = true) {L : List Nat} (hall : ∀ i, i < ops.size → i ∈ L) (hlt : ∀ i ∈ L, i < ops.size) (hnd : L.Nodup)
    {Q : Exit → Act → World → Prop} : ∀ (fuel : Nat) (listed : Array Bool) {w : World} {Im : ImT} {O : OwT} {β : List Nat} {st st' : St} {a : Act},
    Apart D (rd st.slots) → listed.size = ops.size → Closed ops listed → (leftL L listed).length ≤ fuel → (leftL L listed).Pairwise (fun k i => pairOk E ops (appendFirst ops.toList) D (Region.before ops) k i = true) →
    Inv w Im O β st a → evIdx E F ops (leftL L listed) st = some st' →
    (∀ w' Im' O' β' a', Fr w Im O w' Im' O' → Ext β β' → Inv w' Im' O' β' st' a' → a'.defers = a.defers → Q .normal a' w') → wpAny E.P .any ops Q fuel listed a w := by
  have hnil : ∀ {listed : Array Bool} {w : World} {Im : ImT} {O : OwT} {β : List Nat} {st st' : St} {a : Act}, leftL L listed = [] → Inv w Im O β st a → evIdx E F ops (leftL L listed) st = some st' →
      (∀ w' Im' O' β' a', Fr w Im O w' Im' O' → Ext β β' → Inv w' Im' O' β' st' a' → a'.defers = a.defers → Q .normal a' w') → Q .normal a w := by
    intro listed w Im O β st st' a hl hI he hQ
    rw [hl] at he
    simp [evIdx] at he
    subst he
    exact hQ w Im O β a (.refl _ _ _) (.refl β) hI rfl
  intro fuel
  induction fuel with
  | zero =>
    intro listed w Im O β st st' a hA hsz hcl hlen hpw hI he hQ
    have hl : leftL L listed = [] := List.eq_nil_of_length_eq_zero (by omega)
    refine ⟨?_, hnil hl hI he hQ⟩
    rw [List.eq_nil_iff_forall_not_mem]
    intro i hi
    have := leftL_mem hall (ready_spec hi).1
    rw [hl] at this
    simp at this
  | succ fuel ih =>
    intro listed w Im O β st st' a hA hsz hcl hlen hpw hI he hQ
    refine ⟨fun hr => hnil (leftL_nil hlt (left_nil hE hsz hr)) hI he hQ, fun i hi => ?_⟩
    obtain ⟨hil, o, ho, hpre⟩ := ready_spec hi
    have hin : i < ops.size := (Array.getElem?_eq_some_iff.1 ho).1
    obtain ⟨s1, hs, hb, hl2⟩ := take_next hN hnd hA hsz hcl ho hpre (leftL_mem hall hil) hlt (fun k A B hAB hk => by
      rw [hAB] at hpw
      exact (List.pairwise_append.1 hpw).2.2 k hk i (by simp)) he
    exact evOp_ok hF hov hI ho hs (fun w' Im' O' β' a' h1 h2 h3 h4 => ih _ (evOp_apart hN ho hs hA) (by simp [hsz]) (closed_set (by omega) ho hcl hpre) (by omega)
        (by rw [leftL_set (by omega)]; exact List.Pairwise.filter _ hpw) h3 hb
        (fun w'' Im'' O'' β'' a'' k1 k2 k3 k4 => hQ w'' Im'' O'' β'' a'' (h1.trans k1) (h2.trans k2) k3 (k4.trans h4)))
theorem any2_ok {D : List (Nat × Nat)} (hF : FnOk E.P F) (hov : OvOk E) (hN : noWrite ops D = true) (hE : okEdges ops = true) {L1 L2 : List Nat} (hall1 : ∀ i, i < ops.size → i ∈ L1) (hlt1 : ∀ i ∈ L1, i < ops.size) (hnd1 : L1.Nodup)
    (hall2 : ∀ i, i < ops.size → i ∈ L2) (hlt2 : ∀ i ∈ L2, i < ops.size) (hnd2 : L2.Nodup) {x y : Nat} (hxy : x ≠ y) (hx : x < ops.size) (hy : y < ops.size)
    {Q : Exit → Act → World → Prop} : ∀ (fuel : Nat) (listed : Array Bool) {w : World} {Im : ImT} {O : OwT} {β : List Nat} {st s1 s2 : St} {a : Act},
    Apart D (rd st.slots) → listed.size = ops.size → Closed ops listed → listed.getD x true = false → listed.getD y true = false → (leftL L1 listed).length ≤ fuel → (leftL L2 listed).length ≤ fuel →
    (leftL L1 listed).Pairwise (fun k i => (k == x && i == y || pairOk E ops (appendFirst ops.toList) D (Region.before ops) k i) = true) →
    (leftL L2 listed).Pairwise (fun k i => (k == y && i == x || pairOk E ops (appendFirst ops.toList) D (Region.before ops) k i) = true) →
    Inv w Im O β st a → evIdx E F ops (leftL L1 listed) st = some s1 → evIdx E F ops (leftL L2 listed) st = some s2 →
    (∀ w' Im' O' β' a', Fr w Im O w' Im' O' → Ext β β' → (Inv w' Im' O' β' s1 a' ∨ Inv w' Im' O' β' s2 a') → a'.defers = a.defers → Q .normal a' w') → wpAny E.P .any ops Q fuel listed a w := by
  intro fuel
  induction fuel with
  | zero =>
    intro listed w Im O β st s1 s2 a hA hsz hcl hlx hly hlen1 hlen2 hpw1 hpw2 hI he1 he2 hQ
    have hl : leftL L1 listed = [] := List.eq_nil_of_length_eq_zero (by omega)
    have : x ∈ leftL L1 listed := by unfold leftL; rw [List.mem_filter]; exact ⟨hall1 x hx, by simp [hlx]⟩
    rw [hl] at this
    simp at this
  | succ fuel ih =>
    intro listed w Im O β st s1 s2 a hA hsz hcl hlx hly hlen1 hlen2 hpw1 hpw2 hI he1 he2 hQ
    refine ⟨fun hr => ?_, fun i hi => ?_⟩
    · have hl := leftL_nil hlt1 (left_nil hE hsz hr)
      have : x ∈ leftL L1 listed := by unfold leftL; rw [List.mem_filter]; exact ⟨hall1 x hx, by simp [hlx]⟩
      rw [hl] at this
      simp at this
    · obtain ⟨hil, o, ho, hpre⟩ := ready_spec hi
      have hin : i < ops.size := (Array.getElem?_eq_some_iff.1 ho).1
      have hcs := closed_set (by omega) ho hcl hpre
      by_cases hix : i = x
      · subst hix
        obtain ⟨t1, hs, hb, hl2⟩ := take_next hN hnd1 hA hsz hcl ho hpre (leftL_mem hall1 hil) hlt1 (fun k A B hAB hk => by
          rw [hAB] at hpw1
          have := (List.pairwise_append.1 hpw1).2.2 k hk i (by simp)
          simpa [hxy] using this) he1
        refine evOp_ok hF hov hI ho hs (fun w' Im' O' β' a' h1 h2 h3 h4 => any_ok hF hov hN hE hall1 hlt1 hnd1 fuel _ (evOp_apart hN ho hs hA) (by simp [hsz]) hcs (by omega) ?_ h3 hb
          (fun w'' Im'' O'' β'' a'' k1 k2 k3 k4 => hQ w'' Im'' O'' β'' a'' (h1.trans k1) (h2.trans k2) (.inl k3) (k4.trans h4)))
        rw [leftL_set (by omega)]
        have := List.Pairwise.filter (fun k => decide (k ≠ i)) hpw1
        refine List.Pairwise.imp_of_mem ?_ this
        intro k j hk _ hkj
        have hne : k ≠ i := by have := (List.mem_filter.1 hk).2; simpa using this
        simpa [hne] using hkj
      by_cases hiy : i = y
      · subst hiy
        obtain ⟨t1, hs, hb, hl2⟩ := take_next hN hnd2 hA hsz hcl ho hpre (leftL_mem hall2 hil) hlt2 (fun k A B hAB hk => by
          rw [hAB] at hpw2
          have := (List.pairwise_append.1 hpw2).2.2 k hk i (by simp)
          simpa [hix] using this) he2
        refine evOp_ok hF hov hI ho hs (fun w' Im' O' β' a' h1 h2 h3 h4 => any_ok hF hov hN hE hall2 hlt2 hnd2 fuel _ (evOp_apart hN ho hs hA) (by simp [hsz]) hcs (by omega) ?_ h3 hb
          (fun w'' Im'' O'' β'' a'' k1 k2 k3 k4 => hQ w'' Im'' O'' β'' a'' (h1.trans k1) (h2.trans k2) (.inr k3) (k4.trans h4)))
        rw [leftL_set (by omega)]
        have := List.Pairwise.filter (fun k => decide (k ≠ i)) hpw2
        refine List.Pairwise.imp_of_mem ?_ this
        intro k j hk _ hkj
        have hne : k ≠ i := by have := (List.mem_filter.1 hk).2; simpa using this
        simpa [hne] using hkj
      · obtain ⟨t1, hs, hb, hl2⟩ := take_next hN hnd1 hA hsz hcl ho hpre (leftL_mem hall1 hil) hlt1 (fun k A B hAB hk => by
          rw [hAB] at hpw1
          have := (List.pairwise_append.1 hpw1).2.2 k hk i (by simp)
          simpa [hiy] using this) he1
        obtain ⟨t2, hs', hb', hl2'⟩ := take_next hN hnd2 hA hsz hcl ho hpre (leftL_mem hall2 hil) hlt2 (fun k A B hAB hk => by
          rw [hAB] at hpw2
          have := (List.pairwise_append.1 hpw2).2.2 k hk i (by simp)
          simpa [hix] using this) he2
        rw [hs] at hs'
        cases hs'
        exact evOp_ok hF hov hI ho hs (fun w' Im' O' β' a' h1 h2 h3 h4 => ih _ (evOp_apart hN ho hs hA) (by simp [hsz]) hcs (by rw [getD_set (by omega), if_neg hix]; exact hlx) (by rw [getD_set (by omega), if_neg hiy]; exact hly)
          (by omega) (by omega) (by rw [leftL_set (by omega)]; exact List.Pairwise.filter _ hpw1) (by rw [leftL_set (by omega)]; exact List.Pairwise.filter _ hpw2) h3 hb hb'
          (fun w'' Im'' O'' β'' a'' k1 k2 k3 k4 => hQ w'' Im'' O'' β'' a'' (h1.trans k1) (h2.trans k2) k3 (k4.trans h4)))
theorem regOkL_spec {D : List (Nat × Nat)} {bef : Array Nat} {ex : Nat → Nat → Bool} {L : List Nat} (h : regOkL E ops D bef ex L = true) :
    (∀ i, i < ops.size → i ∈ L) ∧ (∀ i ∈ L, i < ops.size) ∧ L.Nodup ∧ L.Pairwise (fun k i => (ex k i || pairOk E ops (appendFirst ops.toList) D bef k i) = true) := by
  unfold regOkL at h
  simp only [Bool.and_eq_true, List.all_eq_true, decide_eq_true_eq] at h
  obtain ⟨⟨⟨h1, h2⟩, h3⟩, h4⟩ := h
  refine ⟨fun i hi => ?_, h1, ?_, pw_spec h4⟩
  · have := h2 i (List.mem_range.2 hi)
    simpa using this
  · exact (pw_spec h3).imp fun h => by simpa using h
end any
/-! #### Code -/
def codeOk (E : Env) : Code → Bool
  | .region _ ops draw => !draw || (match E.alt (posOf ops) ops.size with
    | none => regOk E ops (E.apart (posOf ops) ops.size)
    | some x => regOk2 E ops (E.apart (posOf ops) ops.size) x.1 x.2.1 x.2.2)
  | .seq a b => codeOk E a && codeOk E b
  | .cond _ a b => codeOk E a && codeOk E b
  | .block _ b => codeOk E b
  | .loop b => codeOk E b
  | .scope b => codeOk E b
  | _ => true
structure EnvOk (E : Env) : Prop where
  follows : E.P.follows .mixedOrders = true
  code : ∀ f fn c, E.good f = true → E.P.funcs[f]? = some fn → fn.body = some c → codeOk (E.at f) c = true ∧ fn.name ≠ "runtime.NumGoroutine"
  firm : E.loose = false
  ov : OvOk E
def exOf : Ex → Exit
  | .normal => .normal
  | .exit id => .exit id
  | .ret => .ret
theorem Inv.drew {w : World} {Im : ImT} {O : OwT} {β : List Nat} {st : St} {a : Act} (h : Inv w Im O β st a) : Inv w.drew Im O β st a ∧ Fr w Im O w.drew Im O := by
  obtain ⟨g1, g2, g3⟩ := h.good.newW (w' := w.drew) (Im' := Im) ⟨⟨rfl, rfl, rfl⟩, Nat.le_refl _, fun _ _ => rfl⟩ (fun _ _ h => h) (fun _ _ h => .inl h)
  exact ⟨⟨g1, g3 _ _ h.slots⟩, g2⟩
theorem code_ok {E : Env} {F : FnEv} {k : Nat} (hfol : E.P.follows .mixedOrders = true) (hov : OvOk E) (hF : FnOk E.P F) : ∀ (c : Code), codeOk E c = true → ∀ {w : World} {Im : ImT} {O : OwT} {β : List Nat} {st st' : St} {a : Act} {e : Ex} {Q : Exit → Act → World → Prop},
    Inv w Im O β st a → evCode E F k c st = some (e, st') →
    (∀ w' Im' O' β' a', Fr w Im O w' Im' O' → Ext β β' → Inv w' Im' O' β' st' a' → a'.defers = a.defers → Q (exOf e) a' w') → c.wp E.P Q a w := by
  intro c
  induction c with
  | skip =>
    intro _ w Im O β st st' a e Q hI h hQ
    simp [evCode] at h
    obtain ⟨rfl, rfl⟩ := h
    exact wp_skip (hQ w Im O β a (.refl _ _ _) (.refl β) hI rfl)
  | region id ops draw =>
    intro hc w Im O β st st' a e Q hI h hQ
    simp only [evCode] at h
    split at h
    · cases h
    rename_i hdr
    have hfst : ∀ {s1 : St}, evOps E F ops ops.toList st = some s1 → evIdx E F ops (List.range ops.size) st = some s1 := fun hs => by rw [← evOps_range]; exact hs
    cases draw with
    | false =>
      simp only [Bool.false_eq_true, if_false] at h
      cases hs : evOps E F ops ops.toList st with
      | none => simp [hs] at h
      | some s1 =>
        simp [hs] at h
        obtain ⟨rfl, rfl⟩ := h
        exact wp_region (evIdx_ok hF hov _ hI (hfst hs) hQ)
    | true =>
      simp only [codeOk, Bool.not_true, Bool.false_or] at hc
      simp only [if_true] at h
      obtain ⟨hd, hfr⟩ := hI.drew
      have hl0 : ∀ {L : List Nat}, (∀ i ∈ L, i < ops.size) → leftL L (Array.replicate ops.size false) = L := by
        intro L hL
        unfold leftL
        rw [List.filter_eq_self]
        intro i hi
        have := hL i hi
        simp [Array.getD, this]
      have hA : Apart (E.apart (posOf ops) ops.size) (rd st.slots) := apart_of (by simpa using hdr)
      have hcl0 : Closed ops (Array.replicate ops.size false) := by
        intro j o hj hl
        have : (Array.replicate ops.size false).getD j false = false := by
          simp [Array.getD]
        rw [this] at hl
        cases hl
      cases hal : E.alt (posOf ops) ops.size with
      | none =>
        simp only [hal] at h hc
        cases hs : evOps E F ops ops.toList st with
        | none => simp [hs] at h
        | some s1 =>
          simp [hs] at h
          obtain ⟨rfl, rfl⟩ := h
          unfold regOk at hc
          simp only [Bool.and_eq_true] at hc
          obtain ⟨⟨hN, hEd⟩, hR⟩ := hc
          obtain ⟨r1, r2, r3, r4⟩ := regOkL_spec hR
          refine wp_region_any hfol (any_ok hF hov hN hEd r1 r2 r3 ops.size _ hA (by simp) hcl0 (by rw [hl0 r2]; simp) (by rw [hl0 r2]; simpa using r4) hd (by rw [hl0 r2]; exact hfst hs)
            (fun w' Im' O' β' a' h1 h2 h3 h4 => hQ w' Im' O' β' a' (hfr.trans h1) h2 h3 h4))
      | some x =>
        obtain ⟨L, x, y⟩ := x
        simp only [hal] at h hc
        cases hs : evOps E F ops ops.toList st with
        | none => simp [hs] at h
        | some s1 =>
          simp only [hs, Option.bind_some] at h
          unfold evAlt at h
          cases hs2 : evOps E F ops (listed ops L) st with
          | none => simp [hs2] at h
          | some s2 =>
            simp only [hs2, Option.bind_some] at h
            split at h
            · rename_i hok
              cases h
              unfold regOk2 at hc
              simp only [Bool.and_eq_true, bne_iff_ne, ne_eq, decide_eq_true_eq] at hc
              obtain ⟨⟨⟨⟨hN, hEd⟩, ⟨hxy, hx⟩, hy⟩, hR1⟩, hR2⟩ := hc
              obtain ⟨r1, r2, r3, r4⟩ := regOkL_spec hR1
              obtain ⟨q1, q2, q3, q4⟩ := regOkL_spec hR2
              have hi1 := hfst hs
              have hi2 : evIdx E F ops L st = some s2 := by rw [← evOps_listed]; exact hs2
              obtain ⟨m1, m2⟩ := evIdx_leaves _ hi1
              obtain ⟨p1, p2⟩ := evIdx_leaves _ hi2
              have hLlen : L.length ≤ ops.size := by
                have := q3.length_le_of_subset (l₂ := List.range ops.size) (fun i hi => List.mem_range.2 (q2 i hi))
                simpa using this
              refine wp_region_any hfol (any2_ok hF hov hN hEd r1 r2 r3 q1 q2 q3 hxy hx hy ops.size _ hA (by simp) hcl0 (by simp [Array.getD, hx]) (by simp [Array.getD, hy]) (by rw [hl0 r2]; simp) (by rw [hl0 q2]; exact hLlen)
                (by rw [hl0 r2]; exact r4) (by rw [hl0 q2]; exact q4) hd (by rw [hl0 r2]; exact hi1) (by rw [hl0 q2]; exact hi2)
                (fun w' Im' O' β' a' h1 h2 h3 h4 => ?_))
              rcases h3 with h3 | h3
              · exact hQ w' Im' O' β' a' (hfr.trans h1) h2 h3 h4
              · have hsw := Inv.swap hI h3 hok (m1.trans p1.symm) m2 p2
                have hf := hfr.trans h1
                have hbl : β.length = st.store.length := hI.good.len
                have hb2 : st.store.length + 2 ≤ β'.length := by
                  have := hsw.good.len
                  rw [swB_len] at this
                  rw [this]
                  unfold swOk at hok
                  simp only [Bool.and_eq_true, decide_eq_true_eq] at hok
                  obtain ⟨t1, t2, hbx, _⟩ := hok
                  have e := congrArg List.length (List.take_append_drop st.store.length st'.store)
                  rw [t1] at e
                  unfold swBoxes at hbx
                  split at hbx
                  · rename_i e1 _; rw [e1] at e; simp at e; omega
                  · cases hbx
                refine hQ w' Im' _ _ a' ⟨hf.env, hf.size, hf.same, hf.keep, hf.new, fun b hb ho => ?_⟩ (fun id b hb => ?_) hsw h4
                · unfold swO; rw [hf.own b hb ho]; rfl
                · have hid := (List.getElem?_eq_some_iff.1 hb).1
                  rw [swB_get hb2, swId_low (by omega)]
                  exact h2 id b hb
            · cases h
  | seq x y ix iy =>
    intro hc w Im O β st st' a e Q hI h hQ
    simp only [codeOk, Bool.and_eq_true] at hc
    simp only [evCode] at h
    cases hx : evCode E F k x st with
    | none => simp [hx] at h
    | some r =>
      obtain ⟨e1, s1⟩ := r
      simp only [hx, Option.bind_some] at h
      refine wp_seq (ix hc.1 hI hx (fun w' Im' O' β' a' h1 h2 h3 h4 => ?_))
      cases e1 with
      | normal =>
        simp only at h
        exact iy hc.2 h3 h (fun w'' Im'' O'' β'' a'' k1 k2 k3 k4 => hQ w'' Im'' O'' β'' a'' (h1.trans k1) (h2.trans k2) k3 (k4.trans h4))
      | exit id => simp only at h; cases h; exact hQ w' Im' O' β' a' h1 h2 h3 h4
      | ret => simp only at h; cases h; exact hQ w' Im' O' β' a' h1 h2 h3 h4
  | cond c x y ix iy =>
    intro hc w Im O β st st' a e Q hI h hQ
    simp only [codeOk, Bool.and_eq_true] at hc
    simp only [evCode] at h
    cases hu : use (rd st.slots) c with
    | none => simp [hu] at h
    | some p =>
      simp only [hu, Option.bind_some] at h
      split at h
      · rename_i t
        have hb := (use_rep hI.reps hu).bool_inv
        cases t with
        | true => exact wp_cond_true hb (ix hc.1 hI h hQ)
        | false => exact wp_cond_false hb (iy hc.2 hI h hQ)
      · cases h
  | block id b ib =>
    intro hc w Im O β st st' a e Q hI h hQ
    simp only [codeOk] at hc
    simp only [evCode] at h
    cases hb : evCode E F k b st with
    | none => simp [hb] at h
    | some r =>
      obtain ⟨e1, s1⟩ := r
      simp only [hb, Option.map_some, Option.some.injEq] at h
      refine wp_block (ib hc hI hb (fun w' Im' O' β' a' h1 h2 h3 h4 => ?_))
      split at h
      · rename_i he
        subst he
        cases h
        simp only [exOf, Exit.inBlock, if_true]
        exact hQ w' Im' O' β' a' h1 h2 h3 h4
      · rename_i he
        cases h
        have := hQ w' Im' O' β' a' h1 h2 h3 h4
        cases e with
        | normal => exact this
        | exit id' => simp only [exOf, Exit.inBlock]; rw [if_neg (fun hh => he (by rw [hh]))]; exact this
        | ret => exact this
  | loop b ib =>
    intro hc w Im O β st st' a e Q hI h hQ
    simp only [codeOk] at hc
    simp only [evCode] at h
    -- round by round
    have key : ∀ (n : Nat) {w : World} {Im : ImT} {O : OwT} {β : List Nat} {st : St} {a : Act}, Inv w Im O β st a → loopN (evCode E F k b) n st = some (e, st') →
        (∀ w' Im' O' β' a', Fr w Im O w' Im' O' → Ext β β' → Inv w' Im' O' β' st' a' → a'.defers = a.defers → Q (exOf e) a' w') → ∀ (fr : Frame) (k' : List Item) (cs : List Frame),
        ∃ e' a' w', Q e' a' w' ∧ Arrives E.P (lone (fr.at a (.code b :: .inLoop b :: k')) cs w) fr k' cs e' a' w' := by
      intro n
      induction n with
      | zero => intro w Im O β st a _ h; simp [loopN] at h
      | succ n ihn =>
        intro w Im O β st a hI h hQ fr k' cs
        simp only [loopN] at h
        cases hr : evCode E F k b st with
        | none => simp [hr] at h
        | some r =>
          obtain ⟨e1, s1⟩ := r
          simp only [hr, Option.bind_some] at h
          have hwp := ib hc (Q := Exit.then (fun a' w' => ∃ e' a'' w'', Q e' a'' w'' ∧ Arrives E.P (lone (fr.at a' (.code b :: .inLoop b :: k')) cs w') fr k' cs e' a'' w'') Q) hI hr (fun w' Im' O' β' a' h1 h2 h3 h4 => by
            cases e1 with
            | normal =>
              simp only at h
              exact ihn h3 h (fun w'' Im'' O'' β'' a'' k1 k2 k3 k4 => hQ w'' Im'' O'' β'' a'' (h1.trans k1) (h2.trans k2) k3 (k4.trans h4)) fr k' cs
            | exit id => simp only at h; cases h; exact hQ w' Im' O' β' a' h1 h2 h3 h4
            | ret => simp only at h; cases h; exact hQ w' Im' O' β' a' h1 h2 h3 h4)
          obtain ⟨e2, a2, w2, hq, harr⟩ := hwp fr (.inLoop b :: k') cs
          cases e2 with
          | normal =>
            obtain ⟨e3, a3, w3, hq3, harr3⟩ := hq
            exact ⟨e3, a3, w3, hq3, .of_steps (Steps.trans harr (.one step_inLoop)) harr3⟩
          | exit id => exact ⟨_, a2, w2, hq, .pass (x := .inLoop b) rfl (fun _ _ => .inl (by simp)) harr⟩
          | goto l => exact ⟨_, a2, w2, hq, .pass (x := .inLoop b) rfl (fun _ _ => .inl (by simp)) harr⟩
          | ret => exact ⟨_, a2, w2, hq, .pass (x := .inLoop b) rfl (fun _ _ => .inl (by simp)) harr⟩
          | panic ch => exact ⟨_, a2, w2, hq, .pass (x := .inLoop b) rfl (fun _ _ => .inl (by simp)) harr⟩
          | outgrown => exact ⟨_, a2, w2, hq, .pass (x := .inLoop b) rfl (fun _ _ => .inl (by simp)) harr⟩
    intro fr k' cs
    obtain ⟨e', a', w', hq, harr⟩ := key k hI h hQ fr k' cs
    exact ⟨e', a', w', hq, .of_steps (.one step_loop) harr⟩
  | exit id =>
    intro _ w Im O β st st' a e Q hI h hQ
    simp [evCode] at h
    obtain ⟨rfl, rfl⟩ := h
    exact wp_exit (hQ w Im O β a (.refl _ _ _) (.refl β) hI rfl)
  | ret =>
    intro _ w Im O β st st' a e Q hI h hQ
    simp [evCode] at h
    obtain ⟨rfl, rfl⟩ := h
    exact wp_ret (hQ w Im O β a (.refl _ _ _) (.refl β) hI rfl)
  | rangeFunc f ps ag b _ _ => intro _ w Im O β st st' a e Q hI h; simp [evCode] at h
  | scope b ib =>
    intro hc w Im O β st st' a e Q hI h hQ
    simp only [codeOk] at hc
    simp only [evCode] at h
    refine wp_scope_straight (ib hc hI h fun w' Im' O' β' a' h1 h2 h3 h4 => ?_)
    have := hQ w' Im' O' β' a' h1 h2 h3 h4
    cases e <;> exact this
  | label l =>
    intro _ w Im O β st st' a e Q hI h hQ
    simp [evCode] at h
    obtain ⟨rfl, rfl⟩ := h
    exact wp_label (hQ w Im O β a (.refl _ _ _) (.refl β) hI rfl)
  | goto l => intro _ w Im O β st st' a e Q hI h; simp [evCode] at h
  | refuse why => intro _ w Im O β st st' a e Q hI h; simp [evCode] at h
/-! #### Elder boxes -/
section eld
variable {E : Env} {F : FnEv}
theorem Eld.set {n id : Nat} {σ : Store} {cells : List PV} (h : Eld n σ) (hc : id < n → ∀ p ∈ cells, p.Below n) : Eld n (σ.set id cells) := by
  intro id' cs hid hcs p hp
  rw [List.getElem?_set] at hcs
  split at hcs
  · rename_i he
    subst he
    split at hcs
    · cases hcs; exact hc hid p hp
    · cases hcs
  · exact h id' cs hid hcs p hp
theorem EldTo.put {σ σ' : Store} {id off : Nat} {vs : List PV} (hs : storeS σ id off vs = some σ') (hv : ∀ n, id < n → Eld n σ → ∀ p ∈ vs, p.Below n) : EldTo σ σ' := by
  obtain ⟨cells, hc, hfit, rfl⟩ := storeS_spec hs
  refine ⟨by simp, fun n hn he => he.set fun hid p hp => ?_⟩
  rcases List.mem_append.1 hp with hp | hp
  · rcases List.mem_append.1 hp with hp | hp
    · exact he id cells hid hc p (List.mem_of_mem_take hp)
    · exact hv n hid he p hp
  · exact he id cells hid hc p (List.mem_of_mem_drop hp)
theorem EldTo.cut {σ σ' : Store} (h : EldTo σ σ') : EldTo σ (σ'.take σ.length) :=
  ⟨by have := h.1; simp; omega, fun n hn he id cells hid hc p hp => h.2 n hn he id cells hid (by rwa [List.getElem?_take, if_pos (by omega)] at hc) p hp⟩
theorem PV.Below.strip1 {n : Nat} {p : PV} (h : p.Below n) : p.strip1.Below n := by cases p <;> first | exact .d _ | exact h
theorem callIt_eld (hF : FnOk E.P F) (hov : OvOk E) {f : FuncId} {args : List PV} {σ : Store} {r : PV × Store} (h : callIt E F f args σ = some r) : EldTo σ r.2 := by
  unfold callIt at h
  cases hx : E.ext E.loose f with
  | some g =>
    simp only [hx] at h
    cases hr : g args σ with
    | none => simp [hr] at h
    | some res =>
      simp only [hr, Option.map_some, Option.some.injEq] at h
      subst h
      obtain ⟨_, hel⟩ := hov.2 _ f g hx args σ res hr
      simp only
      split
      · exact hel.cut
      · exact hel
  | none =>
    simp only [hx] at h
    cases hg : E.ov f with
    | some g =>
      simp only [hg] at h
      split at h
      · cases hr : g args with
        | none => simp [hr] at h
        | some res =>
          simp only [hr, Option.bind_some] at h
          split at h
          · cases h; exact .refl _
          · cases h
      · cases h
    | none =>
      simp only [hg] at h
      split at h
      · split at h
        · cases hr : F f args [] with
          | none => simp [hr] at h
          | some res =>
            simp only [hr, Option.bind_some] at h
            split at h
            · cases h; exact .refl _
            · cases hz : frzP res.2 (res.2.length + 1) res.1 with
              | none => simp [hz] at h
              | some q => simp [hz] at h; subst h; exact .refl _
        · cases h
      · split at h
        · cases hr : F f args σ with
          | none => simp [hr] at h
          | some res =>
            simp only [hr, Option.bind_some] at h
            split at h
            · cases h; exact .refl _
            · cases h
        · cases hr : F f args σ with
          | none => simp [hr] at h
          | some res =>
            simp only [hr, Option.bind_some] at h
            have := (hF f args σ res.1 res.2 hr).2
            split at h
            · cases h; exact this.cut
            · cases h; exact this
theorem core_eld (hlo : E.loose = false) (hF : FnOk E.P F) (hov : OvOk E) {aps : List Nat} {dst : Option Tmp} {op : Op} {ρ : Nat → PV} {σ : Store} {g : Gives} (h : evCore E F aps dst op ρ σ = some g) : EldTo σ g.2.2 := by
  have pure : ∀ {x : Option PV}, x.map (fun r => (r, (none : Option Nat), σ)) = some g → EldTo σ g.2.2 := by
    intro x hx
    cases x with
    | none => simp at hx
    | some r => simp at hx; subst hx; exact .refl _
  have move : ∀ {tk : Bool} {x : Operand}, moveIt ρ tk σ x = some g → EldTo σ g.2.2 := fun hx => by rw [(moveIt_cls hx).1]; exact .refl _
  cases op with
  | move x => exact move h
  | assign x => exact move h
  | alloc t =>
    simp only [evCore] at h
    cases hz : zeroT E.P t with
    | none => simp [hz] at h
    | some z => simp [hz] at h; subst h; exact .append _ _
  | box t x =>
    simp only [evCore] at h
    cases hx : opv ρ x with
    | none => simp [hx] at h
    | some p =>
      simp only [hx, Option.map_some, Option.some.injEq] at h
      subst h
      exact .append _ _
  | makeSlice t l c =>
    simp only [evCore] at h
    cases hl : use ρ l with
    | none => simp [hl] at h
    | some lv =>
      cases hcv : use ρ c with
      | none => simp [hl, hcv] at h
      | some cv =>
        simp only [hl, hcv, Option.bind_some] at h
        cases hn : natOf lv with
        | none => simp [hn] at h
        | some n =>
          cases hm : natOf cv with
          | none => simp [hn, hm] at h
          | some m =>
            simp only [hn, hm, Option.bind_some] at h
            split at h
            · cases hr : evMakeD E.P t n m with
              | none => simp [hr] at h
              | some r => simp [hr] at h; subst h; exact .refl _
            cases hr : evMake E.P t n m with
            | none => simp [hr] at h
            | some r => simp [hr] at h; subst h; exact .append _ _
  | load t x =>
    simp only [evCore] at h
    cases hx : use ρ x with
    | none => simp [hx] at h
    | some p =>
      simp only [hx, Option.bind_some] at h
      cases hr : loadAs E.P t σ (takes aps dst) p with
      | none => rw [hr] at h; cases h
      | some r =>
        rw [hr] at h
        simp only [Option.map_some, Option.some.injEq] at h
        subst h
        unfold loadAs at hr
        cases ha : aggT E.P t with
        | none => simp [ha] at hr
        | some ag =>
          simp only [ha, Option.bind_some] at hr
          split at hr
          · rename_i id off
            split at hr
            · cases hs : szT E.P t with
              | none => simp [hs] at hr
              | some sz =>
                simp only [hs, Option.bind_some] at hr
                cases hq : loadS σ id off sz with
                | none => simp [hq] at hr
                | some ps => simp [hq] at hr; subst hr; exact .refl _
            · cases hq : loadS σ id off 1 with
              | none => simp [hq] at hr
              | some ps =>
                simp only [hq, Option.bind_some] at hr
                split at hr
                · rename_i c
                  split at hr
                  · cases hs : storeS σ id off [c.strip1] with
                    | none => simp [hs] at hr
                    | some σ' =>
                      simp [hs] at hr
                      subst hr
                      refine .put hs fun n hid he p hp => ?_
                      simp at hp
                      subst hp
                      obtain ⟨cells, k1, k2, k3⟩ := loadS_get hq
                      have hc : c ∈ cells := List.mem_of_mem_drop (List.mem_of_mem_take (by rw [← k3]; simp))
                      exact (he id cells hid k1 c hc).strip1
                  · cases hr; exact .refl _
                · cases hr
          · split at hr
            · cases hs : szT E.P t with
              | none => simp [hs] at hr
              | some sz =>
                simp only [hs, Option.bind_some] at hr
                split at hr
                · cases hr; exact .refl _
                · cases hr
            · rename_i cells _
              cases hc0 : cells[0]? with
              | none => simp [hc0] at hr
              | some c => simp [hc0] at hr; subst hr; exact .refl _
          · cases hr
  | store t x v =>
    simp only [evCore] at h
    cases hx : use ρ x with
    | none => simp [hx] at h
    | some p =>
      cases hv : opv ρ v with
      | none => simp [hx, hv] at h
      | some u =>
        simp only [hx, hv, Option.bind_some] at h
        cases hs : storeAs E.P E.loose t σ p u with
        | none => simp [hs] at h
        | some σ' =>
          simp [hs] at h
          subst h
          unfold storeAs at hs
          split at hs
          · rename_i id off
            split at hs
            · rename_i hcond
              rw [hlo] at hcond
              refine .put hs fun n hid he p hp => ?_
              exact (belowL_of id _ (by simpa using hcond.2.1) p hp).mono (by omega)
            · cases hs
          · cases hs
  | call c =>
    simp only [evCore] at h
    split at h
    · obtain ⟨_, cc, hcc⟩ := evMkApp_ext h
      rw [hcc]; exact .append _ _
    unfold evCall at h
    split at h
    · split at h
      · split at h
        · rename_i tS tX s x h1 h2 htt
          cases hs : opv ρ s with
          | none => simp [hs] at h
          | some sv =>
            cases hx : use ρ x with
            | none => simp [hs, hx] at h
            | some xv =>
              simp only [hs, hx, Option.bind_some] at h
              cases hr : evAppend E.P tS sv xv with
              | none => simp [hr] at h
              | some r => simp [hr] at h; subst h; exact .refl _
        · cases h
      · cases h
    · split at h
      · rename_i t x h1 h2
        cases hx : use ρ x with
        | none => simp [hx] at h
        | some p =>
          simp only [hx, Option.bind_some] at h
          exact pure h
      · cases h
    · split at h
      · rename_i t t' x y h1 h2
        cases hx : use ρ x with
        | none => simp [hx] at h
        | some p =>
          cases hy : use ρ y with
          | none => simp [hx, hy] at h
          | some q =>
            simp only [hx, hy, Option.bind_some] at h
            cases hr : evCopy E.P E.loose t σ p q with
            | none => simp [hr] at h
            | some r =>
              simp [hr] at h
              subst h
              unfold evCopy at hr
              split at hr
              · rename_i e id off len sz rows _
                split at hr
                · rename_i hcond
                  cases hs : storeS σ id off (flatD (rows.take (min rows.length len))) with
                  | none => simp [hs] at hr
                  | some σ' =>
                    simp [hs] at hr
                    subst hr
                    refine .put hs fun n hid he p hp => ?_
                    obtain ⟨k, hk⟩ := List.mem_iff_getElem?.1 hp
                    obtain ⟨_, _, _, d, _, _, _, rfl⟩ := (flatD_get (rowsOk_take hcond.2)).2 k p hk
                    exact .d _
                · cases hr
              · rename_i e id off len sz id' off' len' sz' _
                split at hr
                · rename_i hcond0
                  obtain ⟨_, rfl⟩ := hcond0
                  cases hl : loadS σ id' off' (min len' len * sz') with
                  | none => simp [hl] at hr
                  | some cs =>
                    simp only [hl, Option.bind_some] at hr
                    split at hr
                    · rename_i hcond
                      cases hs : storeS σ id off (cs.map PV.strip1) with
                      | none => simp [hs] at hr
                      | some σ' =>
                        simp [hs] at hr
                        subst hr
                        rw [hlo] at hcond
                        refine .put hs fun n hid he p hp => ?_
                        exact (belowL_of id _ (by simpa using hcond.1) p hp).mono (by omega)
                    · cases hr
                · cases hr
              · cases hr
      · cases h
    · split at h
      · rename_i t x h1 h2
        cases hx : use ρ x with
        | none => simp [hx] at h
        | some p =>
          simp only [hx, Option.bind_some] at h
          cases hr : evClear E.P t σ p with
          | none => simp [hr] at h
          | some r =>
            simp [hr] at h
            subst h
            unfold evClear at hr
            split at hr
            · rename_i e id off len sz _
              cases hz : zeroT E.P e with
              | none => simp [hz] at hr
              | some z =>
                simp only [hz, Option.bind_some] at hr
                split at hr
                · cases hs : storeS σ id off (repCells len (cellsOf z)) with
                  | none => simp [hs] at hr
                  | some σ' =>
                    simp [hs] at hr
                    subst hr
                    refine .put hs fun n hid he p hp => ?_
                    have hov' : ∃ zv, ofValue zv = some z := by
                      unfold zeroT at hz
                      cases hzz : (E.P.info? e).bind (·.zero) with
                      | none => simp [hzz] at hz
                      | some zv => rw [hzz] at hz; exact ⟨zv, hz⟩
                    obtain ⟨zv, hzv⟩ := hov'
                    exact (ofValue_cells hzv n p (repCells_mem hp)).1
                · cases hr
            · cases hr
      · cases h
    · cases hps : useL ρ c.args.toList with
      | none => simp [hps] at h
      | some ps => simp only [hps, Option.bind_some] at h; exact pure h
    · cases hps : useL ρ c.args.toList with
      | none => simp [hps] at h
      | some ps => simp only [hps, Option.bind_some] at h; exact pure h
    · cases h
    · cases h
    · rename_i f _
      cases hf : use ρ f with
      | none => simp [hf] at h
      | some fv =>
        cases ha : useL ρ c.args.toList with
        | none => simp [hf, ha] at h
        | some args =>
          simp only [hf, ha, Option.bind_some] at h
          split at h
          · rename_i g' first captured
            cases hr : callIt E F g' (first.map PV.strip ++ args ++ captured.map PV.strip) σ with
            | none => rw [hr] at h; cases h
            | some r =>
              rw [hr] at h
              simp only [Option.map_some, Option.some.injEq] at h
              subst h
              exact callIt_eld hF hov hr
          · cases h
  | _ => first | (simp [evCore, evPure] at h; done) | exact pure h
theorem evOp_eld (hlo : E.loose = false) (hF : FnOk E.P F) (hov : OvOk E) {ops : Array Oper} {o : Oper} {st st' : St} (h : evOp E F ops o st = some st') : EldTo st.store st'.store := by
  unfold evOp at h
  cases hw : evWant ops o (rd st.slots) with
  | none => simp [hw] at h
  | some b =>
    simp only [hw, Option.bind_some] at h
    cases b with
    | true =>
      simp only [if_true] at h
      cases hc : evCore E F (appendFirst ops.toList) o.dst o.op (rd st.slots) st.store with
      | none => simp [hc] at h
      | some g => simp [hc] at h; subst h; exact core_eld hlo hF hov hc
    | false => simp at h; subst h; exact .refl _
theorem evOps_eld (hlo : E.loose = false) (hF : FnOk E.P F) (hov : OvOk E) {ops : Array Oper} : ∀ {l : List Oper} {st st' : St}, evOps E F ops l st = some st' → EldTo st.store st'.store
  | [], st, st', h => by simp [evOps] at h; subst h; exact .refl _
  | o :: l, st, st', h => by
    simp only [evOps] at h
    cases hs : evOp E F ops o st with
    | none => simp [hs] at h
    | some s1 =>
      simp only [hs, Option.bind_some] at h
      exact (evOp_eld hlo hF hov hs).trans (evOps_eld hlo hF hov h)
theorem code_eld (hlo : E.loose = false) (hF : FnOk E.P F) (hov : OvOk E) {k : Nat} : ∀ (c : Code) {st : St} {r : Ex × St}, evCode E F k c st = some r → EldTo st.store r.2.store := by
  intro c
  induction c with
  | region id ops draw =>
    intro st r hc
    simp only [evCode] at hc
    split at hc
    · cases hc
    split at hc
    · cases hs : evOps E F ops ops.toList st with
      | none => simp [hs] at hc
      | some s => simp [hs] at hc; subst hc; exact evOps_eld hlo hF hov hs
    · cases hs : evOps E F ops ops.toList st with
      | none => simp [hs] at hc
      | some s =>
        simp only [hs, Option.bind_some] at hc
        unfold evAlt at hc
        rename_i x _
        cases hs2 : evOps E F ops (listed ops x.1) st with
        | none => simp [hs2] at hc
        | some s2 =>
          simp only [hs2, Option.bind_some] at hc
          split at hc
          · cases hc; exact evOps_eld hlo hF hov hs
          · cases hc
  | seq a b ia ib =>
    intro st r hc
    simp only [evCode] at hc
    cases hs : evCode E F k a st with
    | none => simp [hs] at hc
    | some x =>
      simp only [hs, Option.bind_some] at hc
      split at hc
      · exact (ia hs).trans (ib hc)
      · cases hc; exact ia hs
  | cond c a b ia ib =>
    intro st r hc
    simp only [evCode] at hc
    cases hu : use (rd st.slots) c with
    | none => simp [hu] at hc
    | some p =>
      simp only [hu, Option.bind_some] at hc
      split at hc
      · split at hc
        · exact ia hc
        · exact ib hc
      · cases hc
  | block id b ib =>
    intro st r hc
    simp only [evCode] at hc
    cases hs : evCode E F k b st with
    | none => simp [hs] at hc
    | some x =>
      simp only [hs, Option.map_some, Option.some.injEq] at hc
      subst hc
      have := ib hs
      split <;> exact this
  | loop b ib =>
    intro st r hc
    simp only [evCode] at hc
    have key : ∀ n {st : St} {r : Ex × St}, loopN (evCode E F k b) n st = some r → EldTo st.store r.2.store := by
      intro n
      induction n with
      | zero => intro st r h; simp [loopN] at h
      | succ n ih =>
        intro st r h
        simp only [loopN] at h
        cases hs : evCode E F k b st with
        | none => simp [hs] at h
        | some x =>
          simp only [hs, Option.bind_some] at h
          split at h
          · exact (ib hs).trans (ih h)
          · cases h; exact ib hs
    exact key k hc
  | skip => intro st r hc; simp [evCode] at hc; subst hc; exact .refl _
  | exit id => intro st r hc; simp [evCode] at hc; subst hc; exact .refl _
  | ret => intro st r hc; simp [evCode] at hc; subst hc; exact .refl _
  | scope b ib => intro st r hc; simp only [evCode] at hc; exact ib hc
  | label l => intro st r hc; simp [evCode] at hc; subst hc; exact .refl _
  | _ => intro st r hc; simp [evCode] at hc
end eld
/-! #### Functions -/
theorem resOne_ok {P : Program} {w : World} {Im : ImT} {O : OwT} {β : List Nat} {st : St} {a : Act} (hI : Inv w Im O β st a) {r : ResultVar} {p : PV} (h : resOne P st r = some p) :
    ∃ v, (match r with | .tmp t => pure (a.tmps.getD t undef) | .cell x t => (do loadVar t (← asAddr (a.tmps.getD x undef))) : Sem Value).run P w = .ok v w ∧ RepP w Im β p v ∧ ∃ l, OwnP w Im O (.slot l) p v := by
  cases r with
  | tmp t =>
    simp [resOne] at h
    subst h
    exact ⟨_, rfl, (hI.slots.get t).1, t, (hI.slots.get t).2⟩
  | cell x t =>
    simp only [resOne] at h
    cases hl : loadAs P t st.store false (rd st.slots x) with
    | none => simp [hl] at h
    | some r =>
      obtain ⟨q, σ'⟩ := r
      simp [hl] at h
      subst h
      have hrep := (hI.slots.get x).1
      obtain ⟨_, u, h1, h2, h3⟩ := load_run (P := P) hI.good hrep hl
      refine ⟨u, ?_, h2, 0, .of_not h3⟩
      have hptr : ∃ b, a.tmps.getD x undef = .pointer (some b) := by
        generalize hp : rd st.slots x = p at hl hrep
        unfold loadAs at hl
        cases ha : aggT P t with
        | none => simp [ha] at hl
        | some ag =>
          simp only [ha, Option.bind_some] at hl
          cases p <;> simp at hl
          · generalize a.tmps.getD x undef = v at hrep
            cases hrep
            exact ⟨_, rfl⟩
          · generalize a.tmps.getD x undef = v at hrep
            cases hrep
            exact ⟨_, rfl⟩
      obtain ⟨b, hb⟩ := hptr
      show (do loadVar t (← asAddr (a.tmps.getD x undef)) : Sem Value).run P w = .ok u w
      rw [hb] at h1 ⊢
      simpa [Instr.loadAt, Instr.sureAddr, asAddr] using h1
theorem resL_ok {P : Program} {w : World} {Im : ImT} {O : OwT} {β : List Nat} {st : St} {a : Act} (hI : Inv w Im O β st a) : ∀ {rs : List ResultVar} {ps : List PV}, resL P st rs = some ps →
    ∃ vs : List Value, (rs.mapM (fun r => (match r with | .tmp t => pure (a.tmps.getD t undef) | .cell x t => (do loadVar t (← asAddr (a.tmps.getD x undef))) : Sem Value))).run P w = .ok vs w ∧ ps.length = vs.length ∧ rs.length = vs.length ∧
      ∀ (i : Nat) (p : PV) (v : Value), ps[i]? = some p → vs[i]? = some v → RepP w Im β p v
  | [], ps, h => by simp [resL] at h; subst h; exact ⟨[], rfl, rfl, rfl, by simp⟩
  | r :: rs, ps, h => by
    cases h1 : resOne P st r with
    | none => simp [resL, h1] at h
    | some p =>
      cases h2 : resL P st rs with
      | none => simp [resL, h1, h2] at h
      | some qs =>
        simp [resL, h1, h2] at h
        subst h
        obtain ⟨v, g1, g2, _⟩ := resOne_ok hI h1
        obtain ⟨vs, k1, k2, k3, k4⟩ := resL_ok hI h2
        refine ⟨v :: vs, ?_, by simp [k2], by simp [k3], fun i q u hq hu => ?_⟩
        · rw [List.mapM_cons]
          simp only [Sem.run_bind, g1, Result.andThen_ok, k1]
          rfl
        · cases i with
          | zero => simp at hq hu; subst hq; subst hu; exact g2.strip
          | succ i => exact k4 i q u (by simpa using hq) (by simpa using hu)
theorem res_ok {P : Program} {w : World} {Im : ImT} {O : OwT} {β : List Nat} {st : St} {a : Act} (hI : Inv w Im O β st a) {fn : Func} {p : PV} (h : resVal P fn st = some p) :
    ∃ v, (results fn a.tmps).run P w = .ok v w ∧ RepP w Im β p v ∧ ∃ l, OwnP w Im O (.slot l) p v := by
  unfold resVal at h
  unfold results
  rw [Array.mapM_eq_mapM_toList]
  split at h
  · rename_i r hr
    cases h1 : resOne P st r with
    | none => simp [h1] at h
    | some q =>
      simp [h1] at h
      subst h
      obtain ⟨v, g1, g2, l, g3⟩ := resOne_ok hI h1
      have hrun : (List.mapM (fun r => (match r with | .tmp t => pure (a.tmps.getD t undef) | .cell x t => (do loadVar t (← asAddr (a.tmps.getD x undef))) : Sem Value)) [r]).run P w = .ok [v] w := by
        rw [List.mapM_cons]
        simp only [Sem.run_bind, g1, Result.andThen_ok]
        rfl
      refine ⟨v, ?_, ?_, l, ?_⟩
      · rw [hr]
        have : ∀ (s : Sem (List Value)), s.run P w = .ok [v] w → ((do let vs ← List.toArray <$> s; pure (if h : vs.size = 1 then vs[0] else .tuple vs) : Sem Value)).run P w = .ok v w := by
          intro s hs
          simp [hs]
        exact this _ hrun
      · cases q <;> first | exact g2 | skip
        exact g2.strip
      · cases q <;> first | exact g3 | exact .of_not (by simp [retOf])
  · rename_i hne
    cases h1 : resL P st fn.results.toList with
    | none => simp [h1] at h
    | some ps =>
      simp [h1] at h
      subst h
      obtain ⟨vs, k1, k2, k3, k4⟩ := resL_ok hI h1
      have hn1 : vs.length ≠ 1 := by
        intro hv
        rw [hv] at k3
        match hfr : fn.results.toList, k3 with
        | [r], _ => exact hne r hfr
      refine ⟨.tuple vs.toArray, ?_, .tup ps _ (by simp [k2]) (fun i q u hq hu => k4 i q u hq (by simpa using hu)), 0, .of_not (by simp)⟩
      have : ∀ (s : Sem (List Value)), s.run P w = .ok vs w → ((do let vs ← List.toArray <$> s; pure (if h : vs.size = 1 then vs[0] else .tuple vs) : Sem Value)).run P w = .ok (.tuple vs.toArray) w := by
        intro s hs
        simp [hs, hn1]
      exact this _ k1
theorem evF_ok {E : Env} (hE : EnvOk E) : ∀ k, FnOk E.P (evF E k) := by
  intro k
  induction k with
  | zero => intro f args σ res σ' h; simp [evF] at h
  | succ k ih =>
    intro f args σ res σ' h
    simp only [evF] at h
    split at h
    · rename_i hgood
      cases hf : E.P.funcs[f]? with
      | none => simp [hf] at h
      | some fn =>
        simp only [hf] at h
        cases hb : fn.body with
        | none => simp [hb] at h
        | some c =>
          simp only [hb] at h
          cases hc : evCode (E.at f) (evF E k) k c ⟨args ++ List.replicate (fn.ntmps - args.length) .undef, σ⟩ with
          | none => simp [hc] at h
          | some r =>
            obtain ⟨e, st'⟩ := r
            simp only [hc, Option.bind_some] at h
            split at h
            · cases h
            rename_i hwild
            split at h
            · rename_i hex
              cases hr : resVal E.P fn st' with
              | none => simp [hr] at h
              | some v =>
                simp [hr] at h
                obtain ⟨rfl, rfl⟩ := h
                obtain ⟨hcode, hname⟩ := hE.code f fn c hgood hf hb
                have hat : (E.at f).P = E.P ∧ OvOk (E.at f) := by
                  unfold Env.at
                  split
                  · exact ⟨rfl, hE.ov⟩
                  · exact ⟨rfl, hE.ov⟩
                refine ⟨⟨⟨fn, hf, by simp [hb], hname⟩, fun w Im O β vs hg hO hargs => ?_⟩, ?_⟩
                · refine calls_of_wp hf hb ?_
                  have hI : Inv w Im O β ⟨args ++ List.replicate (fn.ntmps - args.length) .undef, σ⟩ { tmps := vs ++ Array.replicate (fn.ntmps - vs.size) undef, defers := [] } := by
                    refine ⟨hg, ⟨by simp [hargs.1], fun i p u hp hu => ?_⟩⟩
                    by_cases hi : i < args.length
                    · rw [List.getElem?_append_left hi] at hp
                      rw [Array.getElem?_append_left (by rw [← hargs.1]; exact hi)] at hu
                      exact ⟨(hargs.2 i p u hp hu).1, .of_not (hargs.2 i p u hp hu).2⟩
                    · rw [List.getElem?_append_right (by omega), List.getElem?_replicate] at hp
                      rw [Array.getElem?_append_right (by rw [← hargs.1]; omega), Array.getElem?_replicate] at hu
                      split at hp
                      · split at hu
                        · cases hp; cases hu
                          exact ⟨.undef, .of_not (by simp)⟩
                        · cases hu
                      · cases hp
                  have := code_ok (E := E.at f) (by rw [hat.1]; exact hE.follows) hat.2 (by rw [hat.1]; exact ih) c hcode hI hc
                    (Q := fun e a' w' => (e = Exit.normal ∨ e = Exit.ret) ∧ ∃ Im' O' β', Fr w Im O w' Im' O' ∧ Ext β β' ∧ Inv w' Im' O' β' st' a' ∧ a'.defers = [])
                    (fun w' Im' O' β' a' h1 h2 h3 h4 => ⟨by rcases hex with rfl | rfl <;> simp [exOf], Im', O', β', h1, h2, h3, h4⟩)
                  rw [hat.1] at this
                  intro fr k' cs
                  obtain ⟨e', a', w', ⟨he', Im', O', β', h1, h2, h3, h4⟩, harr⟩ := this fr k' cs
                  refine ⟨e', a', w', ?_, harr⟩
                  obtain ⟨v', g1, g2, l, g3⟩ := res_ok (P := E.P) h3 hr
                  have fin : a'.defers = [] ∧ ∃ u, (results fn a'.tmps).run E.P w' = .ok u w' ∧ ∃ v_1 Im' O' β' l, Ending.returned u = .returned v_1 ∧ Fr w Im O w' Im' O' ∧ Ext β β' ∧ Good w' Im' O' β' st'.store ∧ RepP w' Im' β' v v_1 ∧ OwnP w' Im' O' (.slot l) v v_1 :=
                    ⟨h4, v', g1, v', Im', O', β', l, rfl, h1, h2, h3.good, g2, g3⟩
                  rcases he' with rfl | rfl
                  · exact fin
                  · exact fin
                · by_cases hw : E.wild f = true
                  · exact .same (by
                      have := hwild
                      simp only [hw, true_and, ne_eq, Decidable.not_not, Classical.not_not] at this
                      exact this)
                  · have hE' : E.at f = E := by unfold Env.at; rw [if_neg hw]
                    rw [hE'] at hc
                    exact code_eld hE.firm ih hE.ov c hc
            · cases h
    · cases h
end Go.Pv

namespace Go.Pv
open Go
def Le (F F' : FnEv) : Prop := ∀ f a s r, F f a s = some r → F' f a s = some r
section mono
variable {E : Env} {F F' : FnEv}
theorem callIt_mono (h : Le F F') {f : FuncId} {args : List PV} {σ : Store} {r : PV × Store} (hc : callIt E F f args σ = some r) : callIt E F' f args σ = some r := by
  unfold callIt at hc ⊢
  cases hx : E.ext E.loose f with
  | some g => simp only [hx] at hc ⊢; exact hc
  | none =>
  simp only [hx] at hc ⊢
  cases hg : E.ov f with
  | some g => simp only [hg] at hc ⊢; exact hc
  | none =>
    simp only [hg] at hc ⊢
    split at hc
    · rename_i hp
      rw [if_pos hp]
      split at hc
      · rename_i hd
        rw [if_pos hd]
        cases hr : F f args [] with
        | none => simp [hr] at hc
        | some x => rw [hr] at hc; rw [h _ _ _ _ hr]; exact hc
      · cases hc
    · rename_i hp
      rw [if_neg hp]
      split at hc
      · rename_i hro
        rw [if_pos hro]
        cases hr : F f args σ with
        | none => simp [hr] at hc
        | some x => rw [hr] at hc; rw [h _ _ _ _ hr]; exact hc
      rename_i hro
      rw [if_neg hro]
      cases hr : F f args σ with
      | none => simp [hr] at hc
      | some x => rw [hr] at hc; rw [h _ _ _ _ hr]; exact hc
theorem evCall_mono (h : Le F F') {ρ : Nat → PV} {σ : Store} {c : Call} {g : Gives} (hc : evCall E F ρ σ c = some g) : evCall E F' ρ σ c = some g := by
  unfold evCall at hc ⊢
  split at hc
  · exact hc
  · exact hc
  · exact hc
  · exact hc
  · exact hc
  · exact hc
  · exact hc
  · exact hc
  · rename_i f hf0
    cases hf : use ρ f with
    | none => simp [hf] at hc
    | some fv =>
      cases ha : useL ρ c.args.toList with
      | none => simp [hf, ha] at hc
      | some args =>
        simp only [hf, ha, Option.bind_some] at hc ⊢
        split at hc
        · rename_i g' first captured
          cases hr : callIt E F g' (first.map PV.strip ++ args ++ captured.map PV.strip) σ with
          | none => rw [hr] at hc; cases hc
          | some r => rw [hr] at hc; rw [callIt_mono h hr]; exact hc
        · cases hc
theorem evCore_mono (h : Le F F') {aps : List Nat} {dst : Option Tmp} {op : Op} {ρ : Nat → PV} {σ : Store} {g : Gives} (hc : evCore E F aps dst op ρ σ = some g) : evCore E F' aps dst op ρ σ = some g := by
  cases op with
  | call c =>
    simp only [evCore] at hc ⊢
    split at hc
    · rename_i hm; rw [if_pos hm]; exact hc
    · rename_i hm; rw [if_neg hm]; exact evCall_mono h hc
  | _ => exact hc
theorem evOp_mono (h : Le F F') {ops : Array Oper} {o : Oper} {st st' : St} (hc : evOp E F ops o st = some st') : evOp E F' ops o st = some st' := by
  unfold evOp at hc ⊢
  cases hw : evWant ops o (rd st.slots) with
  | none => simp [hw] at hc
  | some b =>
    simp only [hw, Option.bind_some] at hc ⊢
    cases b with
    | false => exact hc
    | true =>
      simp only [if_true] at hc ⊢
      cases hg : evCore E F (appendFirst ops.toList) o.dst o.op (rd st.slots) st.store with
      | none => simp [hg] at hc
      | some g => rw [hg] at hc; rw [evCore_mono h hg]; exact hc
theorem evOps_mono (h : Le F F') {ops : Array Oper} : ∀ {l : List Oper} {st st' : St}, evOps E F ops l st = some st' → evOps E F' ops l st = some st'
  | [], st, st', hc => hc
  | o :: l, st, st', hc => by
    simp only [evOps] at hc ⊢
    cases hs : evOp E F ops o st with
    | none => simp [hs] at hc
    | some s1 =>
      rw [hs] at hc
      rw [evOp_mono h hs]
      exact evOps_mono h hc
theorem loopN_mono {step step' : St → Option (Ex × St)} (h : ∀ st r, step st = some r → step' st = some r) : ∀ {n m : Nat}, n ≤ m → ∀ {st : St} {r : Ex × St}, loopN step n st = some r → loopN step' m st = some r
  | 0, m, _, st, r, hc => by simp [loopN] at hc
  | n + 1, 0, hl, st, r, hc => by omega
  | n + 1, m + 1, hl, st, r, hc => by
    simp only [loopN] at hc ⊢
    cases hs : step st with
    | none => simp [hs] at hc
    | some x =>
      rw [hs] at hc
      rw [h _ _ hs]
      simp only [Option.bind_some] at hc ⊢
      split at hc
      · exact loopN_mono h (by omega) hc
      · exact hc
theorem evCode_mono (h : Le F F') {k k' : Nat} (hk : k ≤ k') : ∀ (c : Code) {st : St} {r : Ex × St}, evCode E F k c st = some r → evCode E F' k' c st = some r := by
  intro c
  induction c with
  | region id ops draw =>
    intro st r hc
    simp only [evCode] at hc ⊢
    split at hc
    · cases hc
    rename_i hdr
    rw [if_neg hdr]
    generalize (if draw = true then E.alt (posOf ops) ops.size else none) = al at hc ⊢
    cases al with
    | none =>
      simp only at hc ⊢
      cases hs : evOps E F ops ops.toList st with
      | none => simp [hs] at hc
      | some s => rw [hs] at hc; rw [evOps_mono h hs]; exact hc
    | some x =>
      simp only at hc ⊢
      cases hs : evOps E F ops ops.toList st with
      | none => simp [hs] at hc
      | some s =>
        rw [hs] at hc
        rw [evOps_mono h hs]
        simp only [Option.bind_some] at hc ⊢
        unfold evAlt at hc ⊢
        cases hs2 : evOps E F ops (listed ops x.1) st with
        | none => simp [hs2] at hc
        | some s2 => rw [hs2] at hc; rw [evOps_mono h hs2]; exact hc
  | seq a b ia ib =>
    intro st r hc
    simp only [evCode] at hc ⊢
    cases hs : evCode E F k a st with
    | none => simp [hs] at hc
    | some x =>
      rw [hs] at hc
      rw [ia hs]
      simp only [Option.bind_some] at hc ⊢
      split at hc
      · exact ib hc
      · exact hc
  | cond c a b ia ib =>
    intro st r hc
    simp only [evCode] at hc ⊢
    cases hu : use (rd st.slots) c with
    | none => simp [hu] at hc
    | some p =>
      simp only [hu, Option.bind_some] at hc ⊢
      split at hc
      · split at hc
        · rename_i ht; simp only [ht, if_true]; exact ia hc
        · rename_i ht; simp only [ht, if_false, Bool.false_eq_true]; exact ib hc
      · cases hc
  | block id b ib =>
    intro st r hc
    simp only [evCode] at hc ⊢
    cases hs : evCode E F k b st with
    | none => simp [hs] at hc
    | some x => rw [hs] at hc; rw [ib hs]; exact hc
  | loop b ib =>
    intro st r hc
    simp only [evCode] at hc ⊢
    exact loopN_mono (fun st r hs => ib hs) hk hc
  | scope b ib => intro st r hc; simp only [evCode] at hc ⊢; exact ib hc
  | _ => intro st r hc; exact hc
theorem evF_mono (k : Nat) : Le (evF E k) (evF E (k + 1)) := by
  induction k with
  | zero => intro f a s r h; simp [evF] at h
  | succ k ih =>
    intro f args σ r h
    rw [evF] at h ⊢
    split at h
    · rename_i hg
      rw [if_pos hg]
      cases hf : E.P.funcs[f]? with
      | none => simp [hf] at h
      | some fn =>
        simp only [hf] at h ⊢
        cases hb : fn.body with
        | none => simp [hb] at h
        | some c =>
          simp only [hb] at h ⊢
          cases hc : evCode (E.at f) (evF E k) k c ⟨args ++ List.replicate (fn.ntmps - args.length) .undef, σ⟩ with
          | none => simp [hc] at h
          | some x => rw [hc] at h; rw [evCode_mono ih (Nat.le_succ k) c hc]; exact h
    · cases h
theorem evF_mono' {k k' : Nat} (h : k ≤ k') : Le (evF E k) (evF E k') := by
  induction h with
  | refl => exact fun _ _ _ _ h => h
  | step _ ih => exact fun f a s r hr => evF_mono _ f a s r (ih f a s r hr)
end mono
open Classical in
noncomputable def evI (E : Env) : FnEv := fun f args σ =>
  if h : ∃ r k, evF E k f args σ = some r then some (Classical.choose h) else none
theorem evI_iff {E : Env} {f : FuncId} {args : List PV} {σ : Store} {r : PV × Store} : evI E f args σ = some r ↔ ∃ k, evF E k f args σ = some r := by
  unfold evI
  constructor
  · intro h
    split at h
    · rename_i hex
      cases h
      exact Classical.choose_spec hex
    · cases h
  · rintro ⟨k, hk⟩
    have hex : ∃ r k, evF E k f args σ = some r := ⟨r, k, hk⟩
    rw [dif_pos hex]
    obtain ⟨k', hk'⟩ := Classical.choose_spec hex
    have h1 := evF_mono' (E := E) (Nat.le_max_left k k') f args σ _ hk
    have h2 := evF_mono' (E := E) (Nat.le_max_right k k') f args σ _ hk'
    rw [h1] at h2
    exact h2.symm
section cont
variable {E E' : Env}
def Evt (p : Nat → Prop) : Prop := ∃ K, ∀ k, K ≤ k → p k
theorem Evt.of {p : Nat → Prop} (h : ∀ k, p k) : Evt p := ⟨0, fun k _ => h k⟩
theorem Evt.and {p q : Nat → Prop} (h : Evt p) (h' : Evt q) : Evt fun k => p k ∧ q k := by
  obtain ⟨K, h⟩ := h
  obtain ⟨K', h'⟩ := h'
  exact ⟨max K K', fun k hk => ⟨h k (by omega), h' k (by omega)⟩⟩
theorem Evt.mono {p q : Nat → Prop} (h : Evt p) (hh : ∀ k, p k → q k) : Evt q := by
  obtain ⟨K, h⟩ := h
  exact ⟨K, fun k hk => hh k (h k hk)⟩
theorem evI_evt {f : FuncId} {args : List PV} {σ : Store} {r : PV × Store} (h : evI E f args σ = some r) : Evt fun k => evF E k f args σ = some r := by
  obtain ⟨k, hk⟩ := evI_iff.1 h
  exact ⟨k, fun k' hk' => evF_mono' hk' _ _ _ _ hk⟩
theorem callIt_evt {f : FuncId} {args : List PV} {σ : Store} {r : PV × Store} (hc : callIt E' (evI E) f args σ = some r) : Evt fun k => callIt E' (evF E k) f args σ = some r := by
  unfold callIt at hc ⊢
  cases hx : E'.ext E'.loose f with
  | some g => simp only [hx] at hc ⊢; exact .of fun _ => hc
  | none =>
  simp only [hx] at hc ⊢
  cases hg : E'.ov f with
  | some g => simp only [hg] at hc ⊢; exact .of fun _ => hc
  | none =>
    simp only [hg] at hc ⊢
    split at hc
    · rename_i hp
      simp only [hp, if_true]
      split at hc
      · rename_i hd
        simp only [hd, if_true]
        cases hr : evI E f args [] with
        | none => simp [hr] at hc
        | some x => rw [hr] at hc; exact (evI_evt hr).mono fun k hk => by rw [hk]; exact hc
      · cases hc
    · rename_i hp
      simp only [hp, if_false, Bool.false_eq_true]
      split at hc
      · rename_i hro
        simp only [hro, if_true]
        cases hr : evI E f args σ with
        | none => simp [hr] at hc
        | some x => rw [hr] at hc; exact (evI_evt hr).mono fun k hk => by rw [hk]; exact hc
      rename_i hro
      simp only [hro, if_false, Bool.false_eq_true]
      cases hr : evI E f args σ with
      | none => simp [hr] at hc
      | some x => rw [hr] at hc; exact (evI_evt hr).mono fun k hk => by rw [hk]; exact hc
theorem evCall_evt {ρ : Nat → PV} {σ : Store} {c : Call} {g : Gives} (hc : evCall E' (evI E) ρ σ c = some g) : Evt fun k => evCall E' (evF E k) ρ σ c = some g := by
  unfold evCall at hc ⊢
  split at hc
  · exact .of fun _ => hc
  · exact .of fun _ => hc
  · exact .of fun _ => hc
  · exact .of fun _ => hc
  · exact .of fun _ => hc
  · exact .of fun _ => hc
  · exact .of fun _ => hc
  · exact .of fun _ => hc
  · rename_i f hf0
    cases hf : use ρ f with
    | none => simp [hf] at hc
    | some fv =>
      cases ha : useL ρ c.args.toList with
      | none => simp [hf, ha] at hc
      | some args =>
        simp only [hf, ha, Option.bind_some] at hc ⊢
        split at hc
        · rename_i g' first captured
          cases hr : callIt E' (evI E) g' (first.map PV.strip ++ args ++ captured.map PV.strip) σ with
          | none => rw [hr] at hc; cases hc
          | some r => rw [hr] at hc; exact (callIt_evt hr).mono fun k hk => by rw [hk]; exact hc
        · cases hc
theorem evOp_evt {ops : Array Oper} {o : Oper} {st st' : St} (hc : evOp E' (evI E) ops o st = some st') : Evt fun k => evOp E' (evF E k) ops o st = some st' := by
  unfold evOp at hc ⊢
  cases hw : evWant ops o (rd st.slots) with
  | none => simp [hw] at hc
  | some b =>
    simp only [hw, Option.bind_some] at hc ⊢
    cases b with
    | false => exact .of fun _ => hc
    | true =>
      simp only [if_true] at hc ⊢
      cases hg : evCore E' (evI E) (appendFirst ops.toList) o.dst o.op (rd st.slots) st.store with
      | none => simp [hg] at hc
      | some g =>
        rw [hg] at hc
        have : Evt fun k => evCore E' (evF E k) (appendFirst ops.toList) o.dst o.op (rd st.slots) st.store = some g := by
          cases hop : o.op with
          | call c =>
            rw [hop] at hg
            simp only [evCore] at hg ⊢
            split at hg
            · rename_i hm; simp only [hm, if_true]; exact .of fun _ => hg
            · rename_i hm; simp only [hm, Bool.false_eq_true, if_false]; exact evCall_evt hg
          | _ => rw [hop] at hg; exact .of fun _ => hg
        exact this.mono fun k hk => by rw [hk]; exact hc
theorem evOps_evt {ops : Array Oper} : ∀ {l : List Oper} {st st' : St}, evOps E' (evI E) ops l st = some st' → Evt fun k => evOps E' (evF E k) ops l st = some st'
  | [], st, st', hc => .of fun _ => hc
  | o :: l, st, st', hc => by
    simp only [evOps] at hc ⊢
    cases hs : evOp E' (evI E) ops o st with
    | none => simp [hs] at hc
    | some s1 =>
      rw [hs] at hc
      simp only [Option.bind_some] at hc
      exact ((evOp_evt hs).and (evOps_evt hc)).mono fun k hk => by rw [hk.1]; exact hk.2
theorem loopN_evt {step : St → Option (Ex × St)} {stepK : Nat → St → Option (Ex × St)} (h : ∀ st r, step st = some r → Evt fun k => stepK k st = some r) : ∀ {n : Nat} {st : St} {r : Ex × St},
    loopN step n st = some r → Evt fun k => loopN (stepK k) n st = some r
  | 0, st, r, hc => by simp [loopN] at hc
  | n + 1, st, r, hc => by
    simp only [loopN] at hc ⊢
    cases hs : step st with
    | none => simp [hs] at hc
    | some x =>
      rw [hs] at hc
      simp only [Option.bind_some] at hc
      split at hc
      · rename_i he
        exact ((h _ _ hs).and (loopN_evt h hc)).mono fun k hk => by rw [hk.1]; simp only [Option.bind_some, he]; exact hk.2
      · rename_i he
        exact (h _ _ hs).mono fun k hk => by
          rw [hk]
          simp only [Option.bind_some]
          exact hc
theorem evCode_evt {m : Nat} : ∀ (c : Code) {st : St} {r : Ex × St}, evCode E' (evI E) m c st = some r → Evt fun k => evCode E' (evF E k) m c st = some r := by
  intro c
  induction c with
  | region id ops draw =>
    intro st r hc
    simp only [evCode] at hc ⊢
    split at hc
    · cases hc
    rename_i hdr
    simp only [if_neg hdr]
    generalize (if draw = true then E'.alt (posOf ops) ops.size else none) = al at hc ⊢
    cases al with
    | none =>
      simp only at hc ⊢
      cases hs : evOps E' (evI E) ops ops.toList st with
      | none => simp [hs] at hc
      | some s => rw [hs] at hc; exact (evOps_evt hs).mono fun k hk => by rw [hk]; exact hc
    | some x =>
      simp only at hc ⊢
      cases hs : evOps E' (evI E) ops ops.toList st with
      | none => simp [hs] at hc
      | some s =>
        rw [hs] at hc
        simp only [Option.bind_some] at hc
        unfold evAlt at hc ⊢
        cases hs2 : evOps E' (evI E) ops (listed ops x.1) st with
        | none => simp [hs2] at hc
        | some s2 =>
          rw [hs2] at hc
          exact ((evOps_evt hs).and (evOps_evt hs2)).mono fun k hk => by rw [hk.1]; simp only [Option.bind_some]; rw [hk.2]; exact hc
  | seq a b ia ib =>
    intro st r hc
    simp only [evCode] at hc ⊢
    cases hs : evCode E' (evI E) m a st with
    | none => simp [hs] at hc
    | some x =>
      rw [hs] at hc
      simp only [Option.bind_some] at hc
      split at hc
      · rename_i he
        exact ((ia hs).and (ib hc)).mono fun k hk => by rw [hk.1]; simp only [Option.bind_some, he]; exact hk.2
      · rename_i he
        exact (ia hs).mono fun k hk => by
          rw [hk]
          simp only [Option.bind_some]
          exact hc
  | cond c a b ia ib =>
    intro st r hc
    simp only [evCode] at hc ⊢
    cases hu : use (rd st.slots) c with
    | none => simp [hu] at hc
    | some p =>
      simp only [hu, Option.bind_some] at hc ⊢
      split at hc
      · split at hc
        · rename_i ht; simp only [ht, if_true]; exact ia hc
        · rename_i ht; simp only [ht, if_false, Bool.false_eq_true]; exact ib hc
      · cases hc
  | block id b ib =>
    intro st r hc
    simp only [evCode] at hc ⊢
    cases hs : evCode E' (evI E) m b st with
    | none => simp [hs] at hc
    | some x => rw [hs] at hc; exact (ib hs).mono fun k hk => by rw [hk]; exact hc
  | loop b ib =>
    intro st r hc
    simp only [evCode] at hc ⊢
    exact loopN_evt (fun st r hs => ib hs) hc
  | scope b ib => intro st r hc; simp only [evCode] at hc ⊢; exact ib hc
  | _ => intro st r hc; exact .of fun _ => hc
theorem Env.at_firm {f : FuncId} (h : E.wild f = false) : E.at f = E := by unfold Env.at; rw [if_neg (by rw [h]; simp)]
theorem evI_introW {f : FuncId} {fn : Func} {c : Code} {args : List PV} {σ : Store} (m : Nat) {e : Ex} {st' : St} {v : PV} (hg : E.good f = true) (hf : E.P.funcs[f]? = some fn) (hb : fn.body = some c)
    (hc : evCode (E.at f) (evI E) m c ⟨args ++ List.replicate (fn.ntmps - args.length) .undef, σ⟩ = some (e, st')) (he : e = .normal ∨ e = .ret) (hw : E.wild f = true → st'.store.take σ.length = σ) (hv : resVal E.P fn st' = some v) :
    evI E f args σ = some (v, st'.store) := by
  obtain ⟨K, hK⟩ := evCode_evt c hc
  refine evI_iff.2 ⟨max K m + 1, ?_⟩
  have h1 := evCode_mono (E := E.at f) (fun _ _ _ _ h => h) (Nat.le_max_right K m) c (hK (max K m) (by omega))
  rw [evF, if_pos hg]
  simp only [hf, hb, h1, Option.bind_some]
  rw [if_neg (fun h => h.2 (hw h.1)), if_pos he, hv]
  rfl
theorem evI_intro {f : FuncId} {fn : Func} {c : Code} {args : List PV} {σ : Store} (m : Nat) {e : Ex} {st' : St} {v : PV} (hg : E.good f = true) (hw : E.wild f = false) (hf : E.P.funcs[f]? = some fn) (hb : fn.body = some c)
    (hc : evCode E (evI E) m c ⟨args ++ List.replicate (fn.ntmps - args.length) .undef, σ⟩ = some (e, st')) (he : e = .normal ∨ e = .ret) (hv : resVal E.P fn st' = some v) :
    evI E f args σ = some (v, st'.store) :=
  evI_introW m hg hf hb (by rw [Env.at_firm hw]; exact hc) he (fun h => by rw [hw] at h; cases h) hv
theorem evI_ok (hE : EnvOk E) : FnOk E.P (evI E) := by
  intro f args σ res σ' h
  obtain ⟨k, hk⟩ := evI_iff.1 h
  exact evF_ok hE k f args σ res σ' hk
end cont
end Go.Pv

namespace Go.Pv
open Go
def contig (P : Program) : Nat → List Field → Option Nat
  | off, [] => some off
  | off, f :: fs => if f.offset = off then contig P (off + P.cellsOf f.type) fs else none
def plainT (P : Program) : Nat → TypeId → Bool
  | 0, _ => false
  | d + 1, t => match P.underlying t with
    | some .bool => true
    | some (.int _) => true
    | some .string => true
    | some (.slice e) => plainT P d e
    | some (.struct fs) => fs.toList.all (fun f => plainT P d f.type) && (contig P 0 fs.toList == some (P.cellsOf t))
    | some (.array n e) => plainT P d e && (P.cellsOf t == n * P.cellsOf e)
    | _ => false
def OkFs (ok : TypeId → List DV → Prop) (P : Program) : List Field → List DV → Prop
  | [], xs => xs = []
  | f :: fs, xs => ok f.type (xs.take (P.cellsOf f.type)) ∧ OkFs ok P fs (xs.drop (P.cellsOf f.type))
def OkArr (ok : List DV → Prop) (s : Nat) : Nat → List DV → Prop
  | 0, xs => xs = []
  | n + 1, xs => ok (xs.take s) ∧ OkArr ok s n (xs.drop s)
def OkD (P : Program) : Nat → TypeId → List DV → Prop
  | 0, _, _ => False
  | d + 1, t, xs => match P.underlying t with
    | some .bool => ∃ b, xs = [.bool b]
    | some (.int k) => ∃ n, xs = [.int k n] ∧ k.min ≤ n ∧ n ≤ k.max
    | some .string => ∃ s, xs = [.str s] ∧ s.size ≤ maxLen
    | some (.slice e) => ∃ rows, xs = [.slice rows] ∧ rows.length ≤ maxLen ∧ ∀ r ∈ rows, OkD P d e r
    | some (.struct fs) => OkFs (OkD P d) P fs.toList xs
    | some (.array n e) => OkArr (OkD P d e) (P.cellsOf e) n xs
    | _ => False
section read
variable {H : Type} {enc : TypeId × Value → H} {P : Program} {W : World}
def ImAll (W : World) : ImT := fun b o => ∃ v, W.cell? ⟨b, o, none⟩ = some v
def RepAll (W : World) (ds : List DV) (cs : List Value) : Prop := ds.length = cs.length ∧ ∀ (i : Nat) (y : DV) (v : Value), ds[i]? = some y → cs[i]? = some v → RepD W (ImAll W) y v
theorem RepAll.append {ds ds' : List DV} {cs cs' : List Value} (h : RepAll W ds cs) (h' : RepAll W ds' cs') : RepAll W (ds ++ ds') (cs ++ cs') := by
  refine ⟨by simp [h.1, h'.1], fun i y v hy hv => ?_⟩
  by_cases hi : i < ds.length
  · rw [List.getElem?_append_left hi] at hy
    rw [List.getElem?_append_left (by rw [← h.1]; exact hi)] at hv
    exact h.2 i y v hy hv
  · rw [List.getElem?_append_right (by omega)] at hy
    rw [List.getElem?_append_right (by rw [← h.1]; omega), ← h.1] at hv
    exact h'.2 _ y v hy hv
theorem RepAll.one {y : DV} {v : Value} (h : RepD W (ImAll W) y v) : RepAll W [y] [v] :=
  ⟨rfl, fun i y' v' hy hv => by cases i <;> simp at hy hv; subst hy; subst hv; exact h⟩
theorem read_fs {n d : Nat} (ih : ∀ (fuel : Nat) (t : TypeId) (cs : List Value) (x : DataW H × List MemPlace), plainT P d t = true → DataW.trod enc P W 0 (fun _ => true) true fuel t cs = some x → ∃ ds, RepAll W ds cs ∧ OkD P d t ds)
    (cs : List Value) (all : List Field) (hpl : ∀ f ∈ all, plainT P d f.type = true) (hlen : ∀ f ∈ all, ∃ x : DataW H × List MemPlace, DataW.trod enc P W 0 (fun _ => true) true n f.type ((cs.drop f.offset).take (P.cellsOf f.type)) = some x) :
    ∀ (fs : List Field) (off fin : Nat), (∀ f ∈ fs, f ∈ all) → contig P off fs = some fin → cs.length = fin → off ≤ cs.length → ∃ ds, RepAll W ds (cs.drop off) ∧ OkFs (OkD P d) P fs ds
  | [], off, fin, _, hc, hl, _ => by
    simp [contig] at hc
    refine ⟨[], ⟨by simp; omega, by simp⟩, rfl⟩
  | f :: fs, off, fin, hin, hc, hl, ho => by
    simp only [contig] at hc
    split at hc
    · rename_i hoff
      have hmono : ∀ (fs : List Field) (off fin : Nat), contig P off fs = some fin → off ≤ fin := by
        intro fs
        induction fs with
        | nil => intro off fin h; simp [contig] at h; omega
        | cons g gs ihg =>
          intro off fin h
          simp only [contig] at h
          split at h
          · have := ihg _ _ h; omega
          · cases h
      have hle := hmono _ _ _ hc
      obtain ⟨x, hx⟩ := hlen f (hin f (by simp))
      obtain ⟨d1, h1, h2⟩ := ih n f.type _ x (hpl f (hin f (by simp))) hx
      obtain ⟨d2, h3, h4⟩ := read_fs ih cs all hpl hlen fs (off + P.cellsOf f.type) fin (fun g hg => hin g (by simp [hg])) hc hl (by omega)
      have hd1 : d1.length = P.cellsOf f.type := by rw [h1.1]; simp; omega
      refine ⟨d1 ++ d2, ?_, ?_⟩
      · have := h1.append h3
        have e : (cs.drop f.offset).take (P.cellsOf f.type) ++ cs.drop (off + P.cellsOf f.type) = cs.drop off := by
          rw [hoff, ← List.drop_drop]
          exact List.take_append_drop _ _
        rwa [e] at this
      · simp only [OkFs]
        rw [← hd1, List.take_left, List.drop_left]
        exact ⟨h2, h4⟩
    · cases hc
theorem read_arr {s : Nat} {ok : List DV → Prop} (cs : List Value) : ∀ (n i : Nat), cs.length = (i + n) * s → (∀ k, k < i + n → ∃ ds, RepAll W ds ((cs.drop (k * s)).take s) ∧ ok ds) → ∃ ds, RepAll W ds (cs.drop (i * s)) ∧ OkArr ok s n ds
  | 0, i, hl, _ => ⟨[], ⟨by rw [List.length_drop, hl]; simp, by simp⟩, rfl⟩
  | n + 1, i, hl, h => by
    obtain ⟨d1, h1, h2⟩ := h i (by omega)
    obtain ⟨d2, h3, h4⟩ := read_arr cs n (i + 1) (by rw [hl]; congr 1; omega) (fun k hk => h k (by omega))
    have hmul : i * s + s ≤ cs.length := by
      rw [hl, show i + (n + 1) = (i + 1) + n by omega, Nat.add_mul (i + 1), Nat.add_mul]
      omega
    have hd1 : d1.length = s := by rw [h1.1]; simp; omega
    refine ⟨d1 ++ d2, ?_, ?_⟩
    · have := h1.append h3
      have e : (cs.drop (i * s)).take s ++ cs.drop ((i + 1) * s) = cs.drop (i * s) := by
        rw [Nat.add_mul, Nat.one_mul, ← List.drop_drop]
        exact List.take_append_drop _ _
      rwa [e] at this
    · simp only [OkArr]
      rw [← hd1, List.take_left, List.drop_left]
      exact ⟨h2, by rw [hd1]; exact h4⟩
theorem choose_rows {ok : List DV → Prop} {len : Nat} {R : Nat → List DV → Prop} (h : ∀ i, i < len → ∃ r, R i r ∧ ok r) : ∃ rows : List (List DV), rows.length = len ∧ (∀ r ∈ rows, ok r) ∧ ∀ (i : Nat) (r : List DV), rows[i]? = some r → R i r := by
  induction len with
  | zero => exact ⟨[], rfl, by simp, by simp⟩
  | succ n ih =>
    obtain ⟨rows, h1, h2, h3⟩ := ih (fun i hi => h i (by omega))
    obtain ⟨r, hr, hok⟩ := h n (by omega)
    refine ⟨rows ++ [r], by simp [h1], ?_, ?_⟩
    · intro q hq
      rcases List.mem_append.1 hq with hq | hq
      · exact h2 q hq
      · simp at hq; subst hq; exact hok
    · intro i q hq
      by_cases hi : i < rows.length
      · rw [List.getElem?_append_left hi] at hq; exact h3 i q hq
      · have hi' : i = rows.length := by
          have := (List.getElem?_eq_some_iff.1 hq).1
          simp at this
          omega
        subst hi'
        rw [List.getElem?_concat_length] at hq
        cases hq
        rw [h1]
        exact hr
theorem read_ok : ∀ (d fuel : Nat) (t : TypeId) (cs : List Value) (x : DataW H × List MemPlace), plainT P d t = true → DataW.trod enc P W 0 (fun _ => true) true fuel t cs = some x →
    ∃ ds, RepAll W ds cs ∧ OkD P d t ds
  | 0, fuel, t, cs, x, hp, h => by simp [plainT] at hp
  | d + 1, fuel, t, cs, x, hp, h => by
    simp only [plainT] at hp
    simp only [OkD]
    cases hu : P.underlying t with
    | none => simp [hu] at hp
    | some td =>
      rw [hu] at hp
      cases td <;> simp only [] at hp <;> try (cases hp; done)
      case bool =>
        obtain ⟨b, rfl, _⟩ := DataW.trod_bool hu h
        exact ⟨[.bool b], .one (.bool b), b, rfl⟩
      case int k =>
        obtain ⟨n, rfl, _, hw⟩ := DataW.trod_int hu h
        simp only [Lit.wf, Bool.and_eq_true, decide_eq_true_eq] at hw
        exact ⟨[.int k n], .one (.int k n), n, rfl, hw.1, hw.2⟩
      case string =>
        obtain ⟨s, rfl, _, hs⟩ := DataW.trod_string hu h
        exact ⟨[.str s], .one (.str s), s, rfl, hs⟩
      case slice e =>
        rcases DataW.trod_slice hu h with ⟨rfl, _⟩ | ⟨a, len, cap, elems, rest, n, _, rfl, _, _, hlc, hcm, hel, hget, _, _⟩
        · exact ⟨[.slice []], .one .nil, [], rfl, by simp, by simp⟩
        · have hrow : ∀ i, i < len → ∃ r, (∃ cs', W.cells? 0 (a.add (i * P.cellsOf e)) (P.cellsOf e) = some cs' ∧ RepAll W r cs') ∧ OkD P d e r := by
            intro i hi
            have hg := hget i hi
            rw [List.getElem?_eq_getElem (by omega)] at hg
            cases hc : W.cells? 0 (a.add (i * P.cellsOf e)) (P.cellsOf e) with
            | none => rw [hc] at hg; cases hg
            | some cs' =>
              rw [hc] at hg
              obtain ⟨r, h1, h2⟩ := read_ok d n e cs' _ hp hg
              exact ⟨r, ⟨cs', rfl, h1⟩, h2⟩
          obtain ⟨rows, r1, r2, r3⟩ := choose_rows hrow
          have hlens : ∀ r ∈ rows, r.length = P.cellsOf e := by
            intro r hr
            obtain ⟨i, hi⟩ := List.mem_iff_getElem?.1 hr
            obtain ⟨cs', hc, hrep⟩ := r3 i r hi
            rw [hrep.1]
            exact (World.cells?_some hc).2.1
          -- where there is a cell there is no odd address
          have hspot : rows.length * P.cellsOf e ≠ 0 → a.spot = none := by
            intro hne
            have h0 : 0 < len := by
              rcases Nat.eq_zero_or_pos len with hz | hz
              · rw [r1, hz] at hne; simp at hne
              · exact hz
            have hs0 : 0 < P.cellsOf e := by
              rcases Nat.eq_zero_or_pos (P.cellsOf e) with hz | hz
              · rw [hz] at hne; simp at hne
              · exact hz
            obtain ⟨r, ⟨cs', hc, hrep⟩, _⟩ := hrow 0 h0
            obtain ⟨_, hcl, hcg⟩ := World.cells?_some hc
            have h00 := hcg 0 hs0
            rw [List.getElem?_eq_getElem (by omega)] at h00
            simp only [Nat.zero_mul] at h00
            have ha : (a.add 0).add 0 = a := by simp [Addr.add]
            rw [ha] at h00
            unfold World.cell? at h00
            split at h00
            · split at h00
              · cases h00
              · rename_i hsp; simpa using hsp
            · cases h00
          have hcell : ∀ j, j < rows.length * P.cellsOf e → ∃ i k r, i < len ∧ k < P.cellsOf e ∧ j = i * P.cellsOf e + k ∧ rows[i]? = some r ∧ ∃ cs', W.cells? 0 (a.add (i * P.cellsOf e)) (P.cellsOf e) = some cs' ∧ RepAll W r cs' := by
            intro j hj
            obtain ⟨i, k, r, y, hi, hk, rfl⟩ := pos_split hlens hj
            refine ⟨i, k, r, ?_, ?_, rfl, hi, r3 i r hi⟩
            · have := (List.getElem?_eq_some_iff.1 hi).1; omega
            · rw [← hlens r (List.mem_of_getElem? hi)]; exact (List.getElem?_eq_some_iff.1 hk).1
          have haddr : rows.length * P.cellsOf e ≠ 0 → ∀ i k, (a.add (i * P.cellsOf e)).add k = ⟨a.block, a.off + (i * P.cellsOf e + k), none⟩ := by
            intro hne i k
            rw [Addr.add_none (hspot hne), Addr.add_none rfl]
            simp [Nat.add_assoc]
          have hval : ∀ j, j < rows.length * P.cellsOf e → ∃ v, W.cell? ⟨a.block, a.off + j, none⟩ = some v := by
            intro j hj
            obtain ⟨i, k, r, hi, hk, rfl, hr, cs', hc, hrep⟩ := hcell j hj
            obtain ⟨_, hcl, hcg⟩ := World.cells?_some hc
            have := hcg k hk
            rw [haddr (by omega), List.getElem?_eq_getElem (by omega)] at this
            exact ⟨_, this⟩
          refine ⟨[.slice rows], .one ?_, rows, rfl, by omega, r2⟩
          rw [← r1]
          refine .slice rows a cap (P.cellsOf e) (fun j => (W.cell? ⟨a.block, a.off + j, none⟩).getD default) hlens (by omega) hspot ?_ (fun j hj => hval j hj) ?_
          · intro j hj
            obtain ⟨v, hv⟩ := hval j hj
            simp [hv]
          · intro i k r y hi hk
            have hlt := pos_lt hlens hi hk
            obtain ⟨cs', hc, hrep⟩ := r3 i r hi
            obtain ⟨_, hcl, hcg⟩ := World.cells?_some hc
            have hk' : k < P.cellsOf e := by rw [← hlens r (List.mem_of_getElem? hi)]; exact (List.getElem?_eq_some_iff.1 hk).1
            have := hcg k hk'
            rw [haddr (by omega), List.getElem?_eq_getElem (by omega)] at this
            rw [this]
            exact hrep.2 k y _ hk (List.getElem?_eq_getElem (by omega))
      case struct fs =>
        simp only [Bool.and_eq_true, beq_iff_eq, List.all_eq_true] at hp
        obtain ⟨xs, n, _, _, hlen, hxl, hget⟩ := DataW.trod_struct hu h
        have := read_fs (n := n) (enc := enc) (fun fuel t cs x => read_ok d fuel t cs x) cs fs.toList hp.1 (fun f hf => by
          obtain ⟨i, hi⟩ := List.mem_iff_getElem?.1 hf
          have hi' : fs[i]? = some f := by simpa using hi
          have hil : i < xs.length := by rw [hxl]; exact (Array.getElem?_eq_some_iff.1 hi').1
          exact ⟨xs[i], by rw [hget i f hi', List.getElem?_eq_getElem hil]⟩) fs.toList 0 (P.cellsOf t) (fun f hf => hf) hp.2 hlen (Nat.zero_le _)
        simpa using this
      case array n e =>
        simp only [Bool.and_eq_true, beq_iff_eq] at hp
        obtain ⟨xs, m, _, _, hlen, hxl, hget⟩ := DataW.trod_array hu h
        have := read_arr (W := W) (s := P.cellsOf e) (ok := OkD P d e) cs n 0 (by rw [hlen, hp.2]; simp) (fun k hk => by
          have hkx : k < xs.length := by omega
          have hg := hget k (by omega)
          rw [List.getElem?_eq_getElem hkx] at hg
          exact read_ok d m e _ _ hp.1 hg)
        simpa using this
end read
/-! #### A law's call -/
def argP (P : Program) (t : TypeId) (ds : List DV) : PV :=
  match P.underlying t with
  | some (.struct _) => .agg (ds.map .d)
  | some (.array _ _) => .agg (ds.map .d)
  | _ => match ds with | [y] => .d y | _ => .undef
def OkArgs (P : Program) (depth : Nat) : List TypeId → List PV → Prop
  | [], ps => ps = []
  | t :: ts, ps => ∃ ds rest, OkD P depth t ds ∧ ps = argP P t ds :: rest ∧ OkArgs P depth ts rest
theorem argP_rep {P : Program} {W : World} {t : TypeId} {v : Value} {d : Nat} {base : Nat} {ds : List DV} (hval : Value.okWide P W .any base t v) (hp : plainT P d t = true) (hr : RepAll W ds v.cells.toList) :
    RepP W (ImAll W) [] (argP P t ds) v ∧ ∀ rows, argP P t ds ≠ .os rows := by
  have one : v.cells = #[v] → (∃ y, ds = [y]) → (∀ fs, P.underlying t ≠ some (.struct fs)) → (∀ n e, P.underlying t ≠ some (.array n e)) → RepP W (ImAll W) [] (argP P t ds) v ∧ ∀ rows, argP P t ds ≠ .os rows := by
    rintro hv ⟨y, rfl⟩ h1 h2
    have ha : argP P t [y] = .d y := by
      unfold argP
      split
      · rename_i fs hh; exact absurd hh (h1 fs)
      · rename_i n e hh; exact absurd hh (h2 n e)
      · rfl
    rw [ha]
    exact ⟨.d (hr.2 0 y v rfl (by rw [hv]; rfl)), by simp⟩
  have len1 : v.cells = #[v] → ∃ y, ds = [y] := by
    intro hv
    have := hr.1
    rw [hv] at this
    simp at this
    match ds, this with
    | [y], _ => exact ⟨y, rfl⟩
  cases d with
  | zero => simp [plainT] at hp
  | succ d =>
    simp only [plainT] at hp
    cases hu : P.underlying t with
    | none => rw [hu] at hp; cases hp
    | some td =>
      rw [hu] at hp
      cases td <;> simp only [] at hp <;> try (cases hp; done)
      case bool => obtain ⟨b, rfl⟩ := WideShapes.okWide_bool hu hval; exact one rfl (len1 rfl) (by simp [hu]) (by simp [hu])
      case int k => obtain ⟨n, rfl⟩ := WideShapes.okWide_int hu hval; exact one rfl (len1 rfl) (by simp [hu]) (by simp [hu])
      case string => obtain ⟨n, rfl⟩ := WideShapes.okWide_string hu hval; exact one rfl (len1 rfl) (by simp [hu]) (by simp [hu])
      case slice e => obtain ⟨a, l, c, rfl⟩ := WideShapes.okWide_slice hu hval; exact one rfl (len1 rfl) (by simp [hu]) (by simp [hu])
      case struct fs =>
        simp only [Value.okWide, hu] at hval
        obtain ⟨cs, rfl, _, _⟩ := hval
        have ha : argP P t ds = .agg (ds.map .d) := by unfold argP; rw [hu]
        rw [ha]
        refine ⟨.agg _ cs (by have := hr.1; simpa [Value.cells] using this) (fun i p v hp hv => ?_), by simp⟩
        rw [List.getElem?_map] at hp
        cases hy : ds[i]? with
        | none => simp [hy] at hp
        | some y => simp [hy] at hp; subst hp; exact .d (hr.2 i y v hy (by simpa [Value.cells] using hv))
      case array n e =>
        simp only [Value.okWide, hu] at hval
        obtain ⟨cs, rfl, _, _⟩ := hval
        have ha : argP P t ds = .agg (ds.map .d) := by unfold argP; rw [hu]
        rw [ha]
        refine ⟨.agg _ cs (by have := hr.1; simpa [Value.cells] using this) (fun i p v hp hv => ?_), by simp⟩
        rw [List.getElem?_map] at hp
        cases hy : ds[i]? with
        | none => simp [hy] at hp
        | some y => simp [hy] at hp; subst hp; exact .d (hr.2 i y v hy (by simpa [Value.cells] using hv))
open Go.RowKit in
theorem law_calls {E : Env} (hE : EnvOk E) {H : Type} {enc : TypeId × Value → H} {f : FuncId} {types : List TypeId} {depth : Nat} (hpl : types.all (plainT E.P depth) = true)
    (hlaw : ∀ ps, OkArgs E.P depth types ps → ∃ σ', evI E f ps [] = some (.d (.bool true), σ'))
    {W : World} {base : Nat} {args : Array Value} {ds : List (DataW H)} {ps : List MemPlace} (hA : DataW.TrodAll enc E.P W 0 (fun _ => true) true types args.toList ds ps)
    (hval : ∀ (j : Nat) (t : TypeId) (v : Value), types[j]? = some t → args[j]? = some v → Value.okWide E.P W .any base t v) :
    Calls E.P f args W fun e W' => e = .returned (.bool true) ∧ Below W.heap.size W W' := by
  have key : ∀ (types : List TypeId) (vs : List Value) (ds : List (DataW H)) (ps : List MemPlace), types.all (plainT E.P depth) = true → DataW.TrodAll enc E.P W 0 (fun _ => true) true types vs ds ps →
      (∀ (j : Nat) (t : TypeId) (v : Value), types[j]? = some t → vs[j]? = some v → Value.okWide E.P W .any base t v) →
      ∃ pvs, OkArgs E.P depth types pvs ∧ pvs.length = vs.length ∧ ∀ (i : Nat) (p : PV) (v : Value), pvs[i]? = some p → vs[i]? = some v → RepP W (ImAll W) [] p v ∧ ∀ rows, p ≠ .os rows := by
    intro types
    induction types with
    | nil =>
      intro vs ds ps _ hA _
      obtain ⟨rfl, _, _⟩ := ChangeShapes.trodAll_nil hA
      exact ⟨[], rfl, rfl, by simp⟩
    | cons t ts ih =>
      intro vs ds ps hpl hA hval
      simp only [List.all_cons, Bool.and_eq_true] at hpl
      obtain ⟨v, vs', d, ds', p, q, rfl, rfl, rfl, ht, hr⟩ := ChangeShapes.trodAll_cons hA
      obtain ⟨fuel, hf⟩ := ht
      obtain ⟨xs, h1, h2⟩ := read_ok depth fuel t _ _ hpl.1 hf
      obtain ⟨pvs, k1, k2, k3⟩ := ih vs' ds' q hpl.2 hr (fun j t v hj hv => hval (j + 1) t v (by simpa using hj) (by simpa using hv))
      refine ⟨argP E.P t xs :: pvs, ⟨xs, pvs, h2, rfl, k1⟩, by simp [k2], fun i p u hp hu => ?_⟩
      cases i with
      | zero =>
        simp at hp hu
        subst hp; subst hu
        exact argP_rep (hval 0 t v rfl rfl) hpl.1 h1
      | succ i => exact k3 i p u (by simpa using hp) (by simpa using hu)
  obtain ⟨pvs, k1, k2, k3⟩ := key types args.toList ds ps hpl hA (fun j t v hj hv => hval j t v hj (by simpa using hv))
  obtain ⟨σ', hev⟩ := hlaw pvs k1
  have hc := evI_ok hE f pvs [] _ σ' hev
  refine (hc.1.2 W (ImAll W) (fun _ => none) [] args ⟨rfl, by simp, fun b o h => h, by simp, by simp⟩ (by simp) ⟨by simpa using k2, fun i p v hp hv => k3 i p v hp (by simpa using hv)⟩).mono ?_
  rintro e w' ⟨v, Im', O', β', l, rfl, hf, _, _, hrep, _⟩
  rw [hrep.bool_inv]
  exact ⟨rfl, hf.env.1, hf.env.2.1, hf.env.2.2, hf.size, fun k hk => hf.same k hk rfl⟩
end Go.Pv

namespace Go.Pv
open Go Go.RowKit
section
variable {P : Program} {f : FuncId} {args : List PV} {res : PV}
theorem below_newW {w w' : World} (h : Below w.heap.size w w') : NewW w w' := ⟨⟨h.os, h.tape, h.output⟩, h.size, h.block⟩
theorem callOk_own (hcall : Callable P f)
    (h : ∀ (w : World) (Im : ImT) (vs : Array Value), ImIn w Im → RepArgs w Im [] args vs → Calls P f vs w fun e w' => ∃ v g, ∃ Im' : ImT, e = .returned v ∧ Below w.heap.size w w' ∧ (∀ b o, Im b o → Im' b o) ∧
      (∀ b o, Im' b o → Im b o ∨ (w.heap.size ≤ b ∧ ∃ u, w'.cell? ⟨b, o, none⟩ = some u)) ∧ RepP w' Im' [] res v ∧ w.heap.size ≤ g ∧
      (g < w'.heap.size ∨ ∀ rows, res ≠ .os rows) ∧ OwnP w' Im' (fun b => if b = g then some (.slot 0) else none) (.slot 0) res v) : CallOk P f args [] res [] := by
  refine ⟨hcall, fun w Im O β vs hg hO hargs => ?_⟩
  have hβ : β = [] := List.eq_nil_of_length_eq_zero (by rw [hg.len]; rfl)
  subst hβ
  refine (h w Im vs hg.im hargs).mono ?_
  rintro e w' ⟨v, g, Im', rfl, hb, him, hnew, hrep, hge, hlt, hown⟩
  have hn := below_newW hb
  obtain ⟨g1, g2, _⟩ := hg.newW hn him hnew
  rcases hlt with hlt | hno
  · have hOn : O g = none := by
      cases hO : O g with
      | none => rfl
      | some l => exact absurd (hg.lim _ (by rw [hO]; simp)) (by omega)
    refine ⟨v, Im', fun b => if b = g then some (.slot 0) else O b, [], 0, rfl, ⟨g2.env, g2.size, g2.same, g2.keep, g2.new, fun b hb ho => ?_⟩, .refl _, ⟨g1.len, by simp, g1.im, ?_, ?_⟩, hrep, ?_⟩
    · show (if b = g then some (Loc.slot 0) else O b) = none
      rw [if_neg (by omega)]; exact ho
    · intro b o hb id ho
      replace ho : (if b = g then some (Loc.slot 0) else O b) = some (.box id) := ho
      split at ho
      · cases ho
      · exact g1.box' b o hb id ho
    · intro b hb
      replace hb : (if b = g then some (Loc.slot 0) else O b) ≠ none := hb
      split at hb
      · rename_i h; rw [h]; exact hlt
      · exact g1.lim b hb
    · refine hown.mono fun b hb => ⟨?_, rfl, fun _ h => h⟩
      split at hb
      · rename_i h
        show (if b = g then some (Loc.slot 0) else O b) = _
        rw [if_pos h]
      · cases hb
  · exact ⟨v, Im', O, [], 0, rfl, g2, .refl _, g1, hrep, .of_not hno⟩
theorem callOk_data (hcall : Callable P f) (hr : ∀ rows, res ≠ .os rows)
    (h : ∀ (w : World) (Im : ImT) (vs : Array Value), ImIn w Im → RepArgs w Im [] args vs → Calls P f vs w fun e w' => ∃ v, ∃ Im' : ImT, e = .returned v ∧ Below w.heap.size w w' ∧ (∀ b o, Im b o → Im' b o) ∧
      (∀ b o, Im' b o → Im b o ∨ (w.heap.size ≤ b ∧ ∃ u, w'.cell? ⟨b, o, none⟩ = some u)) ∧ RepP w' Im' [] res v) : CallOk P f args [] res [] :=
  callOk_own hcall fun w Im vs h1 h2 => (h w Im vs h1 h2).mono fun e w' ⟨v, Im', k1, k2, k3, k4, k5⟩ => ⟨v, w.heap.size, Im', k1, k2, k3, k4, k5, Nat.le_refl _, .inr hr, .of_not hr⟩
end
theorem ownsRow_rep {w w' : World} {Im : ImT} {e : TypeId} {size : Nat} {v : Value} {rows : List (List DV)} {news : List Value} (hin : ImIn w Im) (hb : Below w.heap.size w w') (hsz : 0 < size) (hl : ∀ r ∈ rows, r.length = size)
    (hrow : w'.ownsRow w.heap.size e size v rows.length news) (hrep : ∀ i j r d, rows[i]? = some r → r[j]? = some d → ∃ u, news[i * size + j]? = some u ∧ RepD w Im d u) :
    ∃ g, ∃ Im' : ImT, (∀ b o, Im b o → Im' b o) ∧ (∀ b o, Im' b o → Im b o ∨ (w.heap.size ≤ b ∧ ∃ u, w'.cell? ⟨b, o, none⟩ = some u)) ∧ RepD w' Im' (.slice rows) v ∧ w.heap.size ≤ g ∧
      (rows ≠ [] → g < w'.heap.size ∧ OwnP w' Im' (fun b => if b = g then some (.slot 0) else none) (.slot 0) (.os rows) v) := by
  obtain ⟨h1, h2⟩ := hrow
  have hkeep : ∀ Im' : ImT, (∀ b o, Im b o → Im' b o) → Keep w Im w' Im' := fun Im' h b o hb' => ⟨h b o hb', cell_congr (hb.block b (hin.lt hb'))⟩
  rcases h2 with ⟨rfl, h0⟩ | ⟨g, cap, cur, rfl, hge, hobj, hcap, hmax, hcs, htk⟩
  · have : rows = [] := List.eq_nil_of_length_eq_zero h0
    subst this
    exact ⟨w.heap.size, Im, fun _ _ h => h, fun _ _ h => .inl h, .nil, Nat.le_refl _, fun h => absurd rfl h⟩
  · have hglt : g < w'.heap.size := (Array.getElem?_eq_some_iff.1 hobj).1
    have hcell : ∀ j, j < rows.length * size → w'.cell? ⟨g, 0 + j, none⟩ = some (news.getD j default) := by
      intro j hj
      have hle : rows.length * size ≤ cap * size := Nat.mul_le_mul_right _ hcap
      have hg' : news[j]? = cur.toList[j]? := by rw [← htk, List.getElem?_take]; simp [hj]
      have hjc : j < cur.size := by omega
      rw [List.getD_eq_getElem?_getD, hg']
      simp [World.cell?, hobj, hjc]
    refine ⟨g, fun b o => Im b o ∨ (b = g ∧ o < rows.length * size), fun _ _ h => .inl h, ?_, ?_, hge, ?_⟩
    · rintro b o (h | ⟨rfl, h⟩)
      · exact .inl h
      · exact .inr ⟨hge, _, by simpa using hcell o h⟩
    · refine .slice rows ⟨g, 0, none⟩ cap size (fun j => news.getD j default) hl hcap (fun _ => rfl) (fun j hj => hcell j hj) (fun j hj => .inr ⟨rfl, by simpa using hj⟩) ?_
      intro i j r d hi hj
      obtain ⟨u, hu, hd⟩ := hrep i j r d hi hj
      rw [List.getD_eq_getElem?_getD, hu]
      exact hd.keep (hkeep _ fun _ _ h => .inl h)
    · intro hne
      refine ⟨hglt, fun rows' hr => ?_⟩
      cases hr
      refine .inr ⟨⟨g, 0, none⟩, rows.length, cap, size, cur, e, rfl, rfl, by simp, hobj, hne, hl, by simp; omega, ?_⟩
      rintro o (ho | ⟨_, ho⟩)
      · exact absurd (hin.lt ho) (by simp; omega)
      · simpa using ho
theorem cells_rep {w w' : World} {Im : ImT} {size g cap : Nat} {rows : List (List DV)} {news : List Value} (hin : ImIn w Im) (hb : Below w.heap.size w w') (hge : w.heap.size ≤ g) (hl : ∀ r ∈ rows, r.length = size) (hcap : rows.length ≤ cap)
    (hcell : ∀ j u, j < rows.length * size → news[j]? = some u → w'.cell? ⟨g, j, none⟩ = some u) (hlen : rows.length * size ≤ news.length) (hrep : ∀ i j r d, rows[i]? = some r → r[j]? = some d → ∃ u, news[i * size + j]? = some u ∧ RepD w Im d u) :
    ∃ Im' : ImT, (∀ b o, Im b o → Im' b o) ∧ (∀ b o, Im' b o → Im b o ∨ (w.heap.size ≤ b ∧ ∃ u, w'.cell? ⟨b, o, none⟩ = some u)) ∧ RepD w' Im' (.slice rows) (.slice (some ⟨g, 0, none⟩) rows.length cap) := by
  have hkeep : ∀ Im' : ImT, (∀ b o, Im b o → Im' b o) → Keep w Im w' Im' := fun Im' h b o hb' => ⟨h b o hb', cell_congr (hb.block b (hin.lt hb'))⟩
  have hcell' : ∀ j, j < rows.length * size → w'.cell? ⟨g, 0 + j, none⟩ = some (news.getD j default) := by
    intro j hj
    rw [Nat.zero_add]
    refine hcell j _ hj ?_
    rw [List.getD_eq_getElem?_getD, List.getElem?_eq_getElem (by omega)]
    rfl
  refine ⟨fun b o => Im b o ∨ (b = g ∧ o < rows.length * size), fun _ _ h => .inl h, ?_, ?_⟩
  · rintro b o (h | ⟨rfl, h⟩)
    · exact .inl h
    · exact .inr ⟨hge, _, by simpa using hcell' o h⟩
  · refine .slice rows ⟨g, 0, none⟩ cap size (fun j => news.getD j default) hl hcap (fun _ => rfl) (fun j hj => hcell' j hj) (fun j hj => .inr ⟨rfl, by simpa using hj⟩) ?_
    intro i j r d hi hj
    obtain ⟨u, hu, hd⟩ := hrep i j r d hi hj
    rw [List.getD_eq_getElem?_getD, hu]
    exact hd.keep (hkeep _ fun _ _ h => .inl h)
end Go.Pv

namespace Go.Proofs
open Go.Shelf Go.RowKit Go.Lib Go.Pv
variable {P : Program} {ρ : Ren}
set_option maxHeartbeats 1000000 in
theorem clone_zero (L : SlLaysE0.n41 P ρ) (i0 : TypeInfo) (hi : P.info? (ρ.t 23) = some i0) (size : Nat) (z23 : ∀ w, (Go.sizeOf (ρ.t 23)).run P w = .ok size w) (a : Addr) (c : Nat) (w : World) :
    Calls P (ρ.f 41) #[.slice (some a) 0 c] w fun e w' => (∃ x, e = .returned (.slice x 0 0)) ∧ Below w.heap.size w w' := by
  have mixed := L.mixed; have t4 := L.t4; have a4 := L.a4; have z4 := L.z4; have v4 := L.v4; have t22 := L.t22; have a22 := L.a22; have z22 := L.z22; have v22 := L.v22
  have q22 : ∀ (w : World) (a : Option Addr) (n c n' c' : Nat), (binOp .eql (ρ.t 22) (.slice a n c) (.slice none n' c')).run P w = .ok (.bool a.isNone) w := fun w a n c n' c' => Lib.run_eql_slice_nil w _ _ a n c n' c' L.t22
  have u22 : ∀ w, Sem.run P (underlying (ρ.t 22)) w = .ok (TypeDesc.slice (ρ.t 23)) w := run_underlying t22
  obtain ⟨_, _, FG⟩ := L.f41
  go_enter FG, SlBodyN.n41_ntmps ρ
  have happ : ∀ (w : World) (g : Addr) (ty : TypeId), (Builtin.append_ #[ρ.t 22, ρ.t 22] ty #[.slice (some g) 0 0, .slice (some a) 0 c]).run P w = .ok (.slice (some g) 0 0) w := by
    intro w g ty
    simp [Builtin.append_, run_underlying t22, sizeOf, typeInfo, hi, Builtin.lenOf, Builtin.firstCells, storeCells, loadCells, loadCellsFrom]
  go_wp2
  go_ret
  exact ⟨⟨_, rfl⟩, (Below.refl _ w).alloc (Nat.le_refl _) _⟩
set_option maxHeartbeats 1000000 in
theorem clone_ok (L : SlLaysE0.n41 P ρ) (i0 : TypeInfo) (z : Value) (size bytes : Nat) (hi : P.info? (ρ.t 23) = some i0) (hz0 : i0.zero = some z) (hz1 : i0.size = size) (hz2 : i0.bytes = bytes) (hzs : z.cells.size = size) (hsz : 0 < size)
    (z23 : ∀ w, (Go.sizeOf (ρ.t 23)).run P w = .ok size w) (rows : List (List DV)) (hok : rowsOk size rows = true) (hroom : rows.length * bytes ≤ roomB) (hmax : rows.length ≤ maxLen) :
    CallOk P (ρ.f 41) [.d (.slice rows)] [] (acc rows) [] := by
  have hcall : Callable P (ρ.f 41) := by
    obtain ⟨nm, h1, FG⟩ := L.f41
    exact ⟨_, FG, rfl, by simpa using h1⟩
  refine callOk_own hcall fun w Im vs hin hargs => ?_
  obtain ⟨hl, hr⟩ := hargs
  obtain ⟨v, rfl⟩ : ∃ v, vs = #[v] := by
    match vs, hl with
    | ⟨[v]⟩, _ => exact ⟨v, rfl⟩
  obtain ⟨hv, _⟩ := hr 0 _ v rfl rfl
  obtain ⟨hd⟩ : Nonempty (RepD w Im (.slice rows) v) := by cases hv with | d h => exact ⟨h⟩
  by_cases hne : rows = []
  · subst hne
    have key : Calls P (ρ.f 41) #[v] w fun e w' => (∃ x, e = .returned (.slice x 0 0)) ∧ Below w.heap.size w w' := by
      cases hd with
      | nil => exact (AnyE.slices_Clone_nil L 0 0 w).mono fun e w' ⟨h1, h2⟩ => ⟨⟨none, h1⟩, by rw [h2]; exact Below.refl _ w⟩
      | slice _ a c sz cv h1 h2 h3 h4 h5 h6 => exact clone_zero L i0 hi size z23 a c w
    refine key.mono ?_
    rintro e w' ⟨⟨x, rfl⟩, hb⟩
    exact ⟨_, w.heap.size, Im, rfl, hb, fun _ _ h => h, fun _ _ h => .inl h, .e0 x, Nat.le_refl _, .inr (by simp [acc]), .of_not (by simp [acc])⟩
  · cases hd with
    | nil => exact absurd rfl hne
    | slice _ a c sz cv h1 h2 h3 h4 h5 h6 =>
      have hd : RepD w Im (.slice rows) (.slice (some a) rows.length c) := .slice rows a c sz cv h1 h2 h3 h4 h5 h6
      obtain ⟨_, k2, _, news, n1, n2, n3, n4, n5, n6⟩ := rows_values hd hok
      have hpos : 0 < rows.length := List.length_pos_iff.2 hne
      have hspot : a.spot = none := n3 a rfl (Nat.mul_ne_zero (by omega) (by omega))
      obtain ⟨b, off, sp⟩ := a
      simp only at hspot
      subst hspot
      refine (AnyE.slices_Clone L i0 z size bytes hi hz0 hz1 hz2 hzs hsz z23 b off rows.length c news w n1 hmax (by simp only [roomB] at hroom; omega) (fun j u hu => by have := n2 _ rfl j u hu; rwa [Addr.add_none rfl] at this) n6).mono ?_
      rintro e w' ⟨v', rfl, hrow, _, hb⟩
      obtain ⟨g, Im', q1, q2, q3, q4, q5⟩ := ownsRow_rep hin hb hsz (rowsOk_len hok) hrow n5
      have ha : acc rows = .os rows := by cases rows with | nil => exact absurd rfl hne | cons _ _ => rfl
      rw [ha]
      exact ⟨v', g, Im', rfl, hb, q1, q2, .os q3, q4, .inl (q5 hne).1, (q5 hne).2⟩
end Go.Proofs

