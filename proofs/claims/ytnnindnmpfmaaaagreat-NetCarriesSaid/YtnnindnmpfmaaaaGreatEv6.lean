/- A law's row out of its call. -/
import Derived.Test.YtnnindnmpfmaaaaGreatEv5
import Derived.Below
import Derived.SizedLaws
import Derived.WalkKit
set_option linter.unusedVariables false
namespace Go.Pv
open Go Go.RowKit

theorem trodAll_below {H : Type} {enc : TypeId × Value → H} {P : Program} (hl : laidOutB P = true) {W W' : World} (hb : Below W.heap.size W W') :
    ∀ (types : List TypeId) (vs : List Value) (ds : List (DataW H)) (ps : List MemPlace), types.all (fun t => P.readableRec t && decide (t < P.types.size)) = true → DataW.TrodAll enc P W 0 (fun _ => true) true types vs ds ps →
      DataW.TrodAll enc P W' 0 (fun b => decide (b < W.heap.size)) true types vs ds ps
  | [], vs, ds, ps, _, h => by
    obtain ⟨rfl, rfl, rfl⟩ := ChangeShapes.trodAll_nil h
    rfl
  | t :: ts, vs, ds, ps, ht, h => by
    simp only [List.all_cons, Bool.and_eq_true, decide_eq_true_eq] at ht
    obtain ⟨v, vs', d, ds', p, q, rfl, rfl, rfl, h1, h2⟩ := ChangeShapes.trodAll_cons h
    have hlt : ∀ x ∈ p, x.block < W.heap.size := by obtain ⟨m, hm⟩ := h1; exact DataW.trod_lt m _ _ _ hm
    exact trodAll_cons_mk (Below.trod hl ht.1.1 ht.1.2 h1 hb hlt) (trodAll_below hl hb ts vs' ds' q ht.2 h2)
/-- A function's body, run; the store is not asked. -/
theorem evI_ex {E : Env} {f : FuncId} {fn : Func} {c : Code} {args : List PV} {σ : Store} {v : PV} (m : Nat) (hg : E.good f = true) (hf : E.P.funcs[f]? = some fn) (hb : fn.body = some c)
    (h : ((evCode E (evI E) m c ⟨args ++ List.replicate (fn.ntmps - args.length) .undef, σ⟩).bind fun r => if r.1 = .normal ∨ r.1 = .ret then resVal E.P fn r.2 else none) = some v) (hw : E.wild f = false := by rfl) : ∃ σ', evI E f args σ = some (v, σ') := by
  cases hc : evCode E (evI E) m c ⟨args ++ List.replicate (fn.ntmps - args.length) .undef, σ⟩ with
  | none => simp [hc] at h
  | some r =>
    obtain ⟨e, st'⟩ := r
    simp only [hc, Option.bind_some] at h
    split at h
    · rename_i he
      exact ⟨st'.store, evI_intro m hg hw hf hb hc he h⟩
    · cases h

/-- What a loop leaves in a slot. -/
theorem skol (step : St → Option (Ex × St)) (n : Nat) : ∃ Y : St → Nat → PV, ∀ st e sl σ, loopN step n st = some (e, ⟨sl, σ⟩) → ∀ i, rd sl i = Y st i :=
  ⟨fun st i => match loopN step n st with | some (_, r) => rd r.slots i | none => .undef, fun st e sl σ h i => by simp [h]⟩
/-- A loop ends, and so. -/
def Lp (r : Option (Ex × St)) (Q : Ex × St → Prop) : Prop := ∃ x, r = some x ∧ Q x
theorem Lp_some {x : Ex × St} {Q : Ex × St → Prop} : Lp (some x) Q ↔ Q x := by simp [Lp]
theorem at_loop {step : St → Option (Ex × St)} {n : Nat} {st : St} {L : Option (Ex × St)} (hL : loopN step n st = L) {Q : Ex × St → Prop} (h : Lp (loopN step n st) Q) : Lp L Q := hL ▸ h
end Go.Pv

