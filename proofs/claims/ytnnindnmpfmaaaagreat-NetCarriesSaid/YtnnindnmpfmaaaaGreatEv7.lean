/- slices.Clone, the clone to be written: a slice that was made. -/
import Derived.Test.YtnnindnmpfmaaaaGreatEv6
import Derived.Test.YtnnindnmpfmaaaaGreatEv4
set_option linter.unusedVariables false
set_option linter.unusedSimpArgs false
namespace Go.Pv
open Go Go.RowKit

theorem RepArgs.dataArg {w : World} {Im : ImT} {β : List Nat} {rows : List (List DV)} {v : Value} (h : RepArgs w Im β [.d (.slice rows)] #[v]) : RepD w Im (.slice rows) v := (h.2 0 _ v rfl rfl).1.slice_inv

/-- A function of data run, whose result may lie in boxes of its own. -/
theorem call_runW {E : Env} {f : FuncId} {fn : Func} {c : Code} {args : List PV} {σ : Store} {v : PV} (m : Nat) (hg : E.good f = true) (ho : E.ov f = none) (hp : E.pure f = true) (hf : E.P.funcs[f]? = some fn) (hb : fn.body = some c) (hd : isDataL args = true)
    (h : ((evCode (E.at f) (evI E) m c ⟨args ++ List.replicate (fn.ntmps - args.length) .undef, []⟩).bind fun r => if r.1 = .normal ∨ r.1 = .ret then (resVal E.P fn r.2).bind fun u => if u.isData then some u else frzP r.2.store (r.2.store.length + 1) u else none) = some v)
    (hx : E.ext E.loose f = none := by rfl) : callIt E (evI E) f args σ = some (v, σ) := by
  cases hc : evCode (E.at f) (evI E) m c ⟨args ++ List.replicate (fn.ntmps - args.length) .undef, []⟩ with
  | none => simp [hc] at h
  | some r =>
    obtain ⟨e, st'⟩ := r
    simp only [hc, Option.bind_some] at h
    split at h
    · rename_i he
      cases hr : resVal E.P fn st' with
      | none => simp [hr] at h
      | some u =>
        simp only [hr, Option.bind_some] at h
        have := evI_introW (σ := []) m hg hf hb hc he (fun _ => by simp) hr
        split at h
        · rename_i hu
          cases h
          simp [callIt, hx, ho, hp, hd, this, hu]
        · rename_i hu
          simp [callIt, hx, ho, hp, hd, this, hu, h]
    · cases h

theorem call_runF {E : Env} {f : FuncId} {fn : Func} {c : Code} {args : List PV} {σ : Store} {v : PV} (m : Nat) (hg : E.good f = true) (ho : E.ov f = none) (hp : E.pure f = true) (hf : E.P.funcs[f]? = some fn) (hb : fn.body = some c) (hd : isDataL args = true)
    (h : ((evCode E (evI E) m c ⟨args ++ List.replicate (fn.ntmps - args.length) .undef, []⟩).bind fun r => if r.1 = .normal ∨ r.1 = .ret then (resVal E.P fn r.2).bind fun u => if u.isData then some u else frzP r.2.store (r.2.store.length + 1) u else none) = some v)
    (hw : E.wild f = false := by rfl) (hx : E.ext E.loose f = none := by rfl) : callIt E (evI E) f args σ = some (v, σ) :=
  call_runW m hg ho hp hf hb hd (by rw [Env.at_firm hw]; exact h) hx

/-- A new block that holds rows is a box. -/
theorem made_ok {w w' : World} {Im : ImT} {O : OwT} {β : List Nat} {σ : Store} {rows : List (List DV)} {sz g cap : Nat} {cur : Array Value} {e : TypeId} (hg : Good w Im O β σ) (hb : Below w.heap.size w w') (hok : rowsOk sz rows = true)
    (hge : w.heap.size ≤ g) (hobj : w'.heap[g]? = some (.cells cur e (0, 0))) (hcap : rows.length ≤ cap) (hcs : rows.length * sz ≤ cur.size) (hrep : ∀ i j r d, rows[i]? = some r → r[j]? = some d → ∃ u, cur[i * sz + j]? = some u ∧ RepD w Im d u) :
    ∃ O' β', Fr w Im O w' Im O' ∧ Ext β β' ∧ Good w' Im O' β' (σ ++ [flatD rows]) ∧ RepP w' Im β' (.ms σ.length 0 rows.length sz) (.slice (some ⟨g, 0, none⟩) rows.length cap) := by
  have hn : NewW w w' := ⟨⟨hb.os, hb.tape, hb.output⟩, hb.size, hb.block⟩
  obtain ⟨g1, g2, g3⟩ := hg.newW (Im' := Im) hn (fun _ _ h => h) (fun _ _ h => .inl h)
  have hOn : O g = none := by
    cases hO : O g with
    | none => rfl
    | some l => exact absurd (hg.lim g (by rw [hO]; simp)) (by omega)
  obtain ⟨f1, f2⟩ := flatD_get hok
  have hExt : Ext β (β ++ [g]) := fun id b h => by rw [List.getElem?_append_left (List.getElem?_eq_some_iff.1 h).1]; exact h
  have hO' : ∀ (b : Nat) (l : Loc), O b = some l → (fun b => if b = g then some (Loc.box σ.length) else O b) b = some l := by
    intro b l hl
    show (if b = g then some (Loc.box σ.length) else O b) = some l
    rw [if_neg (fun h => by subst h; rw [hOn] at hl; cases hl)]
    exact hl
  refine ⟨fun b => if b = g then some (.box σ.length) else O b, β ++ [g], ⟨g2.env, g2.size, fun b hb ho => g2.same b hb ho, g2.keep, fun b o hb => g2.new b o hb, fun b hb ho => ?_⟩, hExt, ⟨by simp [g1.len], ?_, g1.im, ?_, ?_⟩, .ms _ 0 _ _ g cap _ (by rw [← g1.len, List.getElem?_concat_length]) hcap (fun _ => rfl)⟩
  · show (if b = g then some (Loc.box σ.length) else O b) = none
    rw [if_neg (by omega)]
    exact ho
  · intro id b cs' hb' hc'
    by_cases hid : id < σ.length
    · rw [List.getElem?_append_left (by have := g1.len; omega)] at hb'
      rw [List.getElem?_append_left hid] at hc'
      obtain ⟨h1, cs, e, h2, h3, h4⟩ := g1.box id b cs' hb' hc'
      refine ⟨hO' _ _ h1, cs, e, h2, h3, fun j p v hp hv => ?_⟩
      obtain ⟨k1, k2, k3⟩ := h4 j p v hp hv
      exact ⟨k1.keep (.refl _ _) hExt, k2.mono fun b hb => ⟨hO' _ _ hb, rfl, fun _ h => h⟩, k3⟩
    · have hl := g1.len
      have hid' : id = σ.length := by
        have := (List.getElem?_eq_some_iff.1 hc').1
        simp at this
        omega
      subst hid'
      rw [← hl, List.getElem?_concat_length] at hb'
      rw [List.getElem?_concat_length] at hc'
      cases hb'; cases hc'
      refine ⟨by simp, cur, e, hobj, by rw [f1]; exact hcs, fun j p u hp hu => ?_⟩
      obtain ⟨i, k, r, d, e1, e2, e3, rfl⟩ := f2 j p hp
      obtain ⟨u', h1, h2⟩ := hrep i k r d e1 e2
      rw [← e3, hu] at h1
      cases h1
      exact ⟨.d (h2.keep g2.keep), .of_not (by simp), trivial⟩
  · intro b o hb' id ho
    replace ho : (if b = g then some (Loc.box σ.length) else O b) = some (.box id) := ho
    split at ho
    · rename_i he
      subst he
      exact absurd (hg.im.lt hb') (by omega)
    · exact g1.box' b o hb' id ho
  · intro b hb'
    replace hb' : (if b = g then some (Loc.box σ.length) else O b) ≠ none := hb'
    split at hb'
    · rename_i he; subst he; exact (Array.getElem?_eq_some_iff.1 hobj).1
    · exact g1.lim b hb'
end Go.Pv

namespace Go.Proofs
open Go.Shelf Go.RowKit Go.Lib Go.Pv
variable {P : Program} {ρ : Ren}

/-- slices.Clone of a slice with elements: a slice that was made. -/
theorem clone_ms (L : SlLaysE0.n41 P ρ) (i0 : TypeInfo) (z : Value) (size bytes : Nat) (hi : P.info? (ρ.t 23) = some i0) (hz0 : i0.zero = some z) (hz1 : i0.size = size) (hz2 : i0.bytes = bytes) (hzs : z.cells.size = size) (hsz : 0 < size)
    (z23 : ∀ w, (Go.sizeOf (ρ.t 23)).run P w = .ok size w) (rows : List (List DV)) (hne : rows ≠ []) (hok : rowsOk size rows = true) (hroom : rows.length * bytes ≤ roomB) (hmax : rows.length ≤ maxLen) (σ : Store) :
    CallOk P (ρ.f 41) [.d (.slice rows)] σ (.ms σ.length 0 rows.length size) (σ ++ [flatD rows]) := by
  have hcall : Callable P (ρ.f 41) := by
    obtain ⟨nm, h1, FG⟩ := L.f41
    exact ⟨_, FG, rfl, by simpa using h1⟩
  refine ⟨hcall, fun w Im O β vs hg hO hargs => ?_⟩
  obtain ⟨v, rfl⟩ : ∃ v, vs = #[v] := by
    match vs, hargs.1 with
    | ⟨[v]⟩, _ => exact ⟨v, rfl⟩
  have hd := hargs.dataArg
  cases hd with
  | nil => exact absurd rfl hne
  | slice _ a c sz cv h1 h2 h3 h4 h5 h6 =>
    have hd : RepD w Im (.slice rows) (.slice (some a) rows.length c) := .slice rows a c sz cv h1 h2 h3 h4 h5 h6
    obtain ⟨_, k2, _, news, n1, n2, n3, n4, n5, n6⟩ := rows_values hd hok
    have hpos : 0 < rows.length := List.length_pos_iff.2 hne
    have hspot : a.spot = none := n3 a rfl (Nat.mul_ne_zero (by omega) (by omega))
    obtain ⟨b, off, sp⟩ := a
    simp only at hspot
    subst hspot
    refine (AnyE.slices_Clone L i0 z size bytes hi hz0 hz1 hz2 hzs hsz z23 b off rows.length c news w n1 hmax (by simp only [roomB] at hroom; omega) (fun j u hu => by have := n2 _ rfl j u hu; rwa [Addr.add_none rfl] at this) n6).mono ?_
    rintro e w' ⟨v', rfl, ⟨r1, r2⟩, _, hb⟩
    rcases r2 with ⟨_, h0⟩ | ⟨g, cap, cur, rfl, hge, hobj, hcap, hmx, hcs, htk⟩
    · omega
    · obtain ⟨O', β', q1, q2, q3, q4⟩ := made_ok (cap := cap) hg hb hok hge hobj hcap (by rw [hcs]; exact Nat.mul_le_mul_right _ hcap) (fun i j r d e1 e2 => by
        obtain ⟨u, u1, u2⟩ := n5 i j r d e1 e2
        refine ⟨u, ?_, u2⟩
        have := (List.getElem?_eq_some_iff.1 u1).1
        rw [← htk, List.getElem?_take] at u1
        rw [n1] at this
        rw [if_pos this] at u1
        simpa using u1)
      exact ⟨_, Im, O', β', 0, rfl, q1, q2, q3, q4, .of_not (by simp)⟩
end Go.Proofs

namespace Go.Pv
open Go
/-- ROUND BY ROUND. -/
theorem loop_inv {step : St → Option (Ex × St)} (I : Nat → St → Prop) (Q : Ex × St → Prop) (N : Nat)
    (hstep : ∀ i st, i < N → I i st → Lp (step st) fun r => (r.1 = .normal ∧ I (i + 1) r.2) ∨ (r.1 ≠ .normal ∧ Q r))
    (hend : ∀ st, I N st → Lp (step st) fun r => r.1 ≠ .normal ∧ Q r) : ∀ k i st, i ≤ N → N < i + k → I i st → Lp (loopN step k st) Q := by
  intro k
  induction k with
  | zero => intros; omega
  | succ k ih =>
    intro i st h1 h2 hI
    by_cases hi : i < N
    · obtain ⟨⟨e, st'⟩, h3, h4⟩ := hstep i st hi hI
      simp only [loopN, h3, Option.bind_some]
      rcases h4 with ⟨h5, h6⟩ | ⟨h5, h6⟩
      · simp only at h5
        subst h5
        exact ih (i + 1) st' (by omega) (by omega) h6
      · simp only at h5
        cases e with
        | normal => exact absurd rfl h5
        | exit id => exact ⟨_, rfl, h6⟩
        | ret => exact ⟨_, rfl, h6⟩
    · obtain rfl : i = N := by omega
      obtain ⟨⟨e, st'⟩, h3, h5, h6⟩ := hend st hI
      simp only [loopN, h3, Option.bind_some]
      simp only at h5
      cases e with
      | normal => exact absurd rfl h5
      | exit id => exact ⟨_, rfl, h6⟩
      | ret => exact ⟨_, rfl, h6⟩

/-- The loops of a text, the outer ones first. -/
def loopsAll : Code → List Code
  | .seq a b => loopsAll a ++ loopsAll b
  | .block _ b => loopsAll b
  | .loop b => b :: loopsAll b
  | .cond _ a b => loopsAll a ++ loopsAll b
  | .scope b => loopsAll b
  | _ => []
def theLoop (fn : Func) (j : Nat) : Code := ((fn.body.map loopsAll).bind fun l => l[j]?).getD .skip
end Go.Pv

