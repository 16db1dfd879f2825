/- Overrides of the seat of nodes: the region of count.Step in which a table of functions is laid and asked; Overrides of the seat of nodes: count.Step; Overrides of the seat of nodes: count.Step, whole; Overrides of the seat of nodes: count.Step, its contract; Overrides of the seat of nodes: count.Step, its answer; Overrides of the seat of nodes: count.Step, of a node that is off; and altogether. -/
import Derived.Test.YtnnindnmpfmaaaaGreatNb
import Derived.Test.YtnnindnmpfmaaaaGreatEv5
set_option maxRecDepth 100000
set_option linter.unusedVariables false
set_option linter.unusedSimpArgs false
namespace Go.Pv
open Go Go.RowKit

/-- What the boxes were is not asked any more. -/
theorem CallOk.drop {P : Program} {f : FuncId} {args : List PV} {res : PV} {σ' : Store} (h : CallOk P f args [] res σ') (hd : res.isData = true) : CallOk P f args [] res [] := by
  refine ⟨h.1, fun w Im O β vs hg hO hargs => (h.2 w Im O β vs hg hO hargs).mono ?_⟩
  rintro e w' ⟨v, Im', O', β', l, rfl, hf, hx, hg', hrep, hown⟩
  have hβ : β = [] := List.eq_nil_of_length_eq_zero (by rw [hg.len]; rfl)
  subst hβ
  refine ⟨v, Im', fun b => if isSlot (O' b) then O' b else none, [], l, rfl, ⟨hf.env, hf.size, hf.same, hf.keep, hf.new, fun b hb ho => ?_⟩, .refl _, ⟨rfl, by simp, hg'.im, ?_, ?_⟩, data_ext hrep (PV.data_of _ hd), ?_⟩
  · show (if isSlot (O' b) then O' b else none) = none
    rw [hf.own b hb ho]; rfl
  · intro b o hb id ho
    replace ho : (if isSlot (O' b) then O' b else none) = some (.box id) := ho
    split at ho
    · rename_i hs; rw [ho] at hs; cases hs
    · cases ho
  · intro b hb
    refine hg'.lim b fun h0 => hb ?_
    show (if isSlot (O' b) then O' b else none) = none
    rw [h0]; rfl
  · refine hown.mono fun b hb => ⟨?_, rfl, fun _ h => h⟩
    show (if isSlot (O' b) then O' b else none) = _
    rw [hb]; rfl

end Go.Pv
namespace Go.Proofs
open Go.Shelf Go.RowKit Go.Lib Go.Pv

/-- The seat's functions without overrides. -/
noncomputable def E0 : Env := { P := Tryz.prog, good := fun f => goodF f && !wildF f, pure := pureF, ov := fun _ => none, ro := roF, apart := apF, alt := altF }

@[simp] theorem E0x (b : Bool) (f : FuncId) : E0.ext b f = none := rfl
@[simp] theorem E0lo : E0.loose = false := rfl
@[simp] theorem E0w (f : FuncId) : E0.wild f = false := rfl
@[simp] theorem E0mk (d : Option Tmp) : mkSel E0 d = false := by cases d <;> rfl
@[simp] theorem E0al (p : String) (n : Nat) : E0.alt p n = altF p n := rfl

def okF (E : Env) (f : Nat) : Bool := match E.P.funcs[f]? with | some fn => (match fn.body with | some c => codeOk (E.at f) c && fn.name != "runtime.NumGoroutine" | none => true) | none => true

theorem envOk_of {E : Env} {n : Nat} (hm : E.P.follows .mixedOrders = true) (hg : ∀ f, E.good f = true → f < n) (h : (List.range n).all (fun f => !E.good f || okF E f) = true) (ho : OvOk E) (hl : E.loose = false := by rfl) : EnvOk E := by
  refine ⟨hm, fun f fn c hgf hf hb => ?_, hl, ho⟩
  have := List.all_eq_true.1 h f (List.mem_range.2 (hg f hgf))
  simp only [hgf, okF, hf, hb, Bool.not_true, Bool.false_or, Bool.and_eq_true, bne_iff_ne] at this
  exact this

theorem E0_ok : EnvOk E0 := envOk_of (n := nFn) Tryz.mixed (fun f h => goodF_lt f (Bool.and_eq_true_iff.1 h).1) (by kernel_rfl) ⟨fun f g h => (by cases h), fun b f g h => (by cases h)⟩

/-- What the table says. -/
def Entry (what : Int) (pf : PV) (ok : Bool) : Prop :=
  (what = 1 ∧ pf = .func (.func 209) [] [] ∧ ok = true) ∨ (what = 2 ∧ pf = .func (.func 210) [] [] ∧ ok = true) ∨ (what = 3 ∧ pf = .func (.func 211) [] [] ∧ ok = true) ∨
  (what = 4 ∧ pf = .func (.func 220) [] [.ro [.int .i64 1]] ∧ ok = true) ∨ (what = 5 ∧ pf = .func (.func 220) [] [.ro [.int .i64 8]] ∧ ok = true) ∨ (what = 6 ∧ pf = .nilFunc ∧ ok = false)

theorem ro_one {w : World} {Im : ImT} {β : List Nat} {Y : Nat} {n : Int} (hY : w.cell? ⟨Y, 0, none⟩ = some (.int .i64 n)) (iY : Im Y 0) : RepP w Im β (.ro [.int .i64 n]) (.pointer (some ⟨Y, 0, none⟩)) := by
  have h0 : ∀ j, j < 1 → j = 0 := fun j hj => by omega
  refine .ro _ _ (fun _ => .int .i64 n) rfl (fun j hj => ?_) (fun j hj => ?_) (fun j x hx => ?_)
  · have := h0 j hj; subst this; simpa using hY
  · have := h0 j hj; subst this; simpa using iY
  · cases j with
    | zero => simp at hx; subst hx; exact .int _ _
    | succ j => simp at hx

theorem lookup_run {w : World} {m : Nat} {es : Array MapEntry} {c : Nat} {Y Z : Nat} (hm : w.heap[m]? = some (.map es c)) (hes : es.toList.map (fun e => (e.key, e.val)) = [(.int .i64 1, .func (.func 209) #[] #[]), (.int .i64 2, .func (.func 210) #[] #[]), (.int .i64 3, .func (.func 211) #[] #[]),
      (.int .i64 4, .func (.func 220) #[] #[.pointer (some ⟨Y, 0, none⟩)]), (.int .i64 5, .func (.func 220) #[] #[.pointer (some ⟨Z, 0, none⟩)])])
    {Im : ImT} {β : List Nat} (hY : w.cell? ⟨Y, 0, none⟩ = some (.int .i64 1)) (hZ : w.cell? ⟨Z, 0, none⟩ = some (.int .i64 8)) (iY : Im Y 0) (iZ : Im Z 0) {what : Int} {pf : PV} {ok : Bool} (he : Entry what pf ok) :
    ∃ fv, (Instr.lookup 211 (.map (some m)) (.int .i64 what) true).run Tryz.prog w = .ok (.tuple #[fv, .bool ok]) w ∧ RepP w Im β pf fv := by
  have hck : ∀ b w, (Instr.checkKey b 10000 3 (.int .i64 what)).run Tryz.prog w = .ok () w := by
    have : ∀ d b w, (Instr.checkKey b (d + 1) 3 (.int .i64 what)).run Tryz.prog w = .ok () w := by
      intro d b w
      simp only [Instr.checkKey]
      simp [run_underlying Tryz.underlying3]
    exact this 9999
  have hu := run_underlying Tryz.underlying211
  have hg := MapKept.run_getObj_map (P := Tryz.prog) hm
  obtain ⟨e1, l1, hl1, kv1, hes⟩ := List.map_eq_cons_iff.1 hes
  obtain ⟨e2, l2, hl2, kv2, hes⟩ := List.map_eq_cons_iff.1 hes
  obtain ⟨e3, l3, hl3, kv3, hes⟩ := List.map_eq_cons_iff.1 hes
  obtain ⟨e4, l4, hl4, kv4, hes⟩ := List.map_eq_cons_iff.1 hes
  obtain ⟨e5, l5, hl5, kv5, hes⟩ := List.map_eq_cons_iff.1 hes
  have hl6 := List.map_eq_nil_iff.1 hes
  have hl : es.toList = [e1, e2, e3, e4, e5] := by rw [hl1, hl2, hl3, hl4, hl5, hl6]
  simp only [Prod.mk.injEq] at kv1 kv2 kv3 kv4 kv5
  obtain ⟨k1, v1⟩ := kv1
  obtain ⟨k2, v2⟩ := kv2
  obtain ⟨k3, v3⟩ := kv3
  obtain ⟨k4, v4⟩ := kv4
  obtain ⟨k5, v5⟩ := kv5
  · skip
    have hf : ∀ w r, Instr.findNow (.int .i64) (.int .i64 what) es.toList 0 = some r → (Instr.findKey 3 (.int .i64 what) es.toList).run Tryz.prog w = .ok r w := by
      intro w r hr
      simp [Instr.findKey, run_underlying Tryz.underlying3, hr]
    have hnow : ∀ n : Int, Instr.findNow (.int .i64) (.int .i64 n) es.toList 0 = if n = 1 then some (some (0, e1.val)) else if n = 2 then some (some (1, e2.val)) else if n = 3 then some (some (2, e3.val)) else if n = 4 then some (some (3, e4.val)) else if n = 5 then some (some (4, e5.val)) else some none := by
      intro n
      rw [hl]
      simp only [Instr.findNow, Instr.sameNow, k1, k2, k3, k4, k5, if_true]
      by_cases h1 : n = 1
      · simp [h1]
      by_cases h2 : n = 2
      · simp [h2]
      by_cases h3 : n = 3
      · simp [h3]
      by_cases h4 : n = 4
      · simp [h4]
      by_cases h5 : n = 5
      · simp [h5]
      have e1 : (n == 1) = false := by simpa using h1
      have e2 : (n == 2) = false := by simpa using h2
      have e3 : (n == 3) = false := by simpa using h3
      have e4 : (n == 4) = false := by simpa using h4
      have e5 : (n == 5) = false := by simpa using h5
      rw [e1, e2, e3, e4, e5]
      simp [h1, h2, h3, h4, h5]
    have run : ∀ r fv, Instr.findNow (.int .i64) (.int .i64 what) es.toList 0 = some r → (r.map (·.2)).getD .nilFunc = fv → (Instr.lookup 211 (.map (some m)) (.int .i64 what) true).run Tryz.prog w = .ok (.tuple #[fv, .bool r.isSome]) w := by
      intro r fv hr hfv
      subst hfv
      have hfr := hf w r hr
      cases r with
      | none => simp [Instr.lookup, hu, hg, hck, hfr, Tryz.zeroValue209]
      | some x => simp [Instr.lookup, hu, hg, hck, hfr]
    have roY : RepP w Im β (.ro [.int .i64 1]) (.pointer (some ⟨Y, 0, none⟩)) := ro_one hY iY
    have roZ : RepP w Im β (.ro [.int .i64 8]) (.pointer (some ⟨Z, 0, none⟩)) := ro_one hZ iZ
    have f0 : ∀ g, RepP w Im β (.func (.func g) [] []) (.func (.func g) #[] #[]) := fun g => .func _ _ _ _ _ rfl rfl (by simp) (by simp)
    have f1 : ∀ (g : Nat) (p : PV) (v : Value), RepP w Im β p v → RepP w Im β (.func (.func g) [] [p]) (.func (.func g) #[] #[v]) := fun g p v h => .func _ _ _ _ _ rfl rfl (by simp) (fun i q u hq hu => by
      cases i with
      | zero => simp at hq hu; subst hq; subst hu; exact h
      | succ i => simp at hq)
    rcases he with ⟨rfl, rfl, rfl⟩ | ⟨rfl, rfl, rfl⟩ | ⟨rfl, rfl, rfl⟩ | ⟨rfl, rfl, rfl⟩ | ⟨rfl, rfl, rfl⟩ | ⟨rfl, rfl, rfl⟩
    · exact ⟨_, run (some (0, e1.val)) _ (by rw [hnow]; rfl) rfl, by simp only [Option.map_some, Option.getD_some, v1]; exact f0 209⟩
    · exact ⟨_, run (some (1, e2.val)) _ (by rw [hnow]; rfl) rfl, by simp only [Option.map_some, Option.getD_some, v2]; exact f0 210⟩
    · exact ⟨_, run (some (2, e3.val)) _ (by rw [hnow]; rfl) rfl, by simp only [Option.map_some, Option.getD_some, v3]; exact f0 211⟩
    · exact ⟨_, run (some (3, e4.val)) _ (by rw [hnow]; rfl) rfl, by simp only [Option.map_some, Option.getD_some, v4]; exact f1 _ _ _ roY⟩
    · exact ⟨_, run (some (4, e5.val)) _ (by rw [hnow]; rfl) rfl, by simp only [Option.map_some, Option.getD_some, v5]; exact f1 _ _ _ roZ⟩
    · exact ⟨_, run none _ (by rw [hnow]; rfl) rfl, .nilFunc⟩
end Go.Proofs

set_option maxRecDepth 100000
set_option linter.unusedVariables false
set_option linter.unusedSimpArgs false
namespace Go.Proofs
open Go.Shelf Go.RowKit Go.Lib Go.Pv

theorem want_none {ops : Array Oper} {o : Oper} (h : o.guard = none) (a : Act) : Region.wanted o (yielded ops a.tmps) = true := by simp [Region.wanted, h]

/-- The region of count.Step in which the table is laid and asked. -/
theorem step_r6 {ops : Array Oper} {id : Nat} {o0 o1 o2 : Oper} (hsz : ops.size = 8) (h0 : ops[0]? = some o0) (p0 : o0.op = .call { callee := .value (.func 185), args := #[], argTypes := #[] }) (d0 : o0.dst = some 18) (g0 : o0.guard = none)
    (h1 : ops[1]? = some o1) (p1 : o1.op = .move (.tmp 1)) (d1 : o1.dst = some 19) (g1 : o1.guard = none) (h2 : ops[2]? = some o2) (p2 : o2.op = .lookup 211 (.tmp 18) (.tmp 19) true) (d2 : o2.dst = some 20) (g2 : o2.guard = none)
    {what : Int} {pf : PV} {ok : Bool} (he : Entry what pf ok) {w : World} {Im : ImT} {O : OwT} {β : List Nat} {st : St} {a : Act} (hI : Inv w Im O β st a) (hlen : st.slots.length = 33) (hw : rd st.slots 1 = .d (.int .i64 what))
    {st' : St} (hev : evIdx E0 (evI E0) ops [3, 4, 5, 6, 7] ⟨((st.slots.set 18 .any).set 19 (.d (.int .i64 what))).set 20 (.tup [pf, .d (.bool ok)]), st.store⟩ = some st') {Q : Exit → Act → World → Prop}
    (hQ : ∀ w' Im' O' β' a', Fr w Im O w' Im' O' → Ext β β' → Inv w' Im' O' β' st' a' → a'.defers = a.defers → Q .normal a' w') : (Code.region id ops false).wp Tryz.prog Q a w := by
  refine wp_region ?_
  rw [hsz]
  show wpOps Tryz.prog ops Q [0, 1, 2, 3, 4, 5, 6, 7] a w
  rw [wpOps_cons]
  unfold wpOp
  simp only [h0, want_none g0, if_true]
  refine .inl ?_
  have hrun0 : (execOp a.eval o0).run Tryz.prog w = .ok (.enter 185 #[]) w := by
    have := enters_of Tryz.func185 (by kernel_rfl) (by rfl : Tryz.f185.body = some _)
    simp [execOp, p0, resolve, Act.eval, invoke, Deferred.ofValue, this #[] w]
  unfold Oper.wp
  rw [hrun0]
  refine (Tryz.works w).mono ?_
  rintro e w1 ⟨m, Y, Z, es, c, rfl, hb, hm, hY, hZ, cY, cZ, hes⟩
  show wpOps Tryz.prog ops Q [1, 2, 3, 4, 5, 6, 7] (a.put o0.dst (.map (some m))) w1
  rw [wpOps_cons]
  -- the world behind the making of the table
  obtain ⟨gd1, fr1, sl1⟩ := hI.good.newW (w' := w1) (Im' := fun b o => Im b o ∨ (b = Y ∧ o = 0) ∨ (b = Z ∧ o = 0)) (below_newW hb) (fun _ _ h => .inl h) (fun b o h => by
    rcases h with h | ⟨rfl, rfl⟩ | ⟨rfl, rfl⟩
    · exact .inl h
    · exact .inr ⟨hY, _, cY⟩
    · exact .inr ⟨hZ, _, cZ⟩)
  have hS1 := sl1 _ _ hI.slots
  have hI1 : Pv.Inv w1 _ O β ⟨st.slots.set 18 .any, st.store⟩ (a.put o0.dst (.map (some m))) :=
    ⟨gd1, by have := hS1.put (a := a) (r := .any) (v := .map (some m)) (dst := o0.dst) (.any _ rfl) (fun d _ => .of_not (by simp)); rw [show putS st.slots o0.dst .any = st.slots.set 18 .any by rw [d0]; rfl] at this; exact this⟩
  have l18 : (st.slots.set 18 .any).length = 33 := by simp [hlen]
  have hr1 : rd (st.slots.set 18 .any) 1 = .d (.int .i64 what) := by rw [← hw]; simp [rd, List.getD, List.getElem?_set]
  have e1 : (a.put o0.dst (.map (some m))).eval (.tmp 1) = .int .i64 what := by
    have := (hI1.slots.get 1).1
    simp only at this
    rw [hr1] at this
    exact this.int_inv
  have sz : (a.put o0.dst (.map (some m))).tmps.size = 33 := by rw [← hI1.slots.len]; exact l18
  unfold wpOp
  simp only [h1, want_none g1, if_true]
  refine .inl ?_
  have hrun1 : (execOp (a.put o0.dst (.map (some m))).eval o1).run Tryz.prog w1 = .ok (.value (.int .i64 what)) w1 := by
    simp [execOp, p1, e1]
  unfold Oper.wp
  rw [hrun1]
  show wpOps Tryz.prog ops Q [2, 3, 4, 5, 6, 7] ((a.put o0.dst (.map (some m))).put o1.dst (.int .i64 what)) w1
  have hI2 : Pv.Inv w1 _ O β ⟨(st.slots.set 18 .any).set 19 (.d (.int .i64 what)), st.store⟩ ((a.put o0.dst (.map (some m))).put o1.dst (.int .i64 what)) :=
    ⟨gd1, by have := hI1.slots.put (r := .d (.int .i64 what)) (v := .int .i64 what) (dst := o1.dst) (.d (.int _ _)) (fun d _ => .of_not (by simp)); rw [show putS (st.slots.set 18 .any) o1.dst (.d (.int .i64 what)) = (st.slots.set 18 .any).set 19 (.d (.int .i64 what)) by rw [d1]; rfl] at this; exact this⟩
  rw [wpOps_cons]
  unfold wpOp
  simp only [h2, want_none g2, if_true]
  refine .inl ?_
  obtain ⟨fv, hlk, hfv⟩ := lookup_run (β := β) (Im := fun b o => Im b o ∨ (b = Y ∧ o = 0) ∨ (b = Z ∧ o = 0)) hm hes cY cZ (.inr (.inl ⟨rfl, rfl⟩)) (.inr (.inr ⟨rfl, rfl⟩)) he
  have e18 : ((a.put o0.dst (.map (some m))).put o1.dst (.int .i64 what)).eval (.tmp 18) = .map (some m) := by
    have hsa : 18 < a.tmps.size := by rw [d0] at sz; simp [Act.put] at sz; omega
    rw [d0, d1]
    simp [Act.put, Act.eval, hsa]
  have e19 : ((a.put o0.dst (.map (some m))).put o1.dst (.int .i64 what)).eval (.tmp 19) = .int .i64 what := by
    have := (hI2.slots.get 19).1
    simp only at this
    rw [show rd ((st.slots.set 18 .any).set 19 (.d (.int .i64 what))) 19 = .d (.int .i64 what) by simp [rd, List.getD, List.getElem?_set, hlen]] at this
    exact this.int_inv
  have hrun2 : (execOp ((a.put o0.dst (.map (some m))).put o1.dst (.int .i64 what)).eval o2).run Tryz.prog w1 = .ok (.value (.tuple #[fv, .bool ok])) w1 := by
    simp [execOp, p2, e18, e19, hlk]
  unfold Oper.wp
  rw [hrun2]
  show wpOps Tryz.prog ops Q [3, 4, 5, 6, 7] (((a.put o0.dst (.map (some m))).put o1.dst (.int .i64 what)).put o2.dst (.tuple #[fv, .bool ok])) w1
  have hI3 : Pv.Inv w1 _ O β ⟨((st.slots.set 18 .any).set 19 (.d (.int .i64 what))).set 20 (.tup [pf, .d (.bool ok)]), st.store⟩ (((a.put o0.dst (.map (some m))).put o1.dst (.int .i64 what)).put o2.dst (.tuple #[fv, .bool ok])) :=
    ⟨gd1, by
      have := hI2.slots.put (r := .tup [pf, .d (.bool ok)]) (v := .tuple #[fv, .bool ok]) (dst := o2.dst) (.tup _ _ rfl (fun i q u hq hu => by
        cases i with
        | zero => simp at hq hu; subst hq; subst hu; exact hfv
        | succ i =>
          cases i with
          | zero => simp at hq hu; subst hq; subst hu; exact .d (.bool _)
          | succ i => simp at hq)) (fun d _ => .of_not (by simp))
      rw [show putS ((st.slots.set 18 .any).set 19 (.d (.int .i64 what))) o2.dst (.tup [pf, .d (.bool ok)]) = ((st.slots.set 18 .any).set 19 (.d (.int .i64 what))).set 20 (.tup [pf, .d (.bool ok)]) by rw [d2]; rfl] at this
      exact this⟩
  refine evIdx_ok (evI_ok E0_ok) E0_ok.ov _ hI3 hev (fun w' Im' O' β' a' k1 k2 k3 k4 => hQ w' Im' O' β' a' (fr1.trans k1) k2 k3 (k4.trans ?_))
  rw [put_defers, put_defers, put_defers]
end Go.Proofs

set_option linter.unusedVariables false
set_option linter.unusedSimpArgs false
set_option maxRecDepth 100000
namespace Go.Proofs
open Go.Shelf Go.RowKit Go.Lib Go.Pv

theorem Tryz.aggT47 : aggT Tryz.prog 47 = some true := by kernel_rfl
theorem Tryz.aggT190 : aggT Tryz.prog 190 = some true := by kernel_rfl
theorem Tryz.aggT3 : aggT Tryz.prog 3 = some false := by kernel_rfl
theorem Tryz.szT47 : szT Tryz.prog 47 = some 4 := by kernel_rfl
theorem Tryz.szT190 : szT Tryz.prog 190 = some 4 := by kernel_rfl
theorem Tryz.szT3 : szT Tryz.prog 3 = some 1 := by kernel_rfl
theorem Tryz.zeroT47 : zeroT Tryz.prog 47 = some (.agg [.d (.int .i64 0), .d (.int .i64 0), .d (.int .i64 0), .d (.int .i64 0)]) := by kernel_rfl
theorem Tryz.zeroT190 : zeroT Tryz.prog 190 = some (.agg [.d (.int .i64 0), .d (.int .i64 0), .d (.int .i64 0), .d (.int .i64 0)]) := by kernel_rfl
theorem Tryz.placesOf47 : placesOf Tryz.prog 47 = some (fun i => [(0, 1), (1, 1), (2, 1), (3, 1)][i]?) := by kernel_rfl
theorem E0P : E0.P = Tryz.prog := rfl

theorem ev81 (b0 b1 : List PV) (t r s q : Int) (ht : 0 ≤ t ∧ t ≤ 1000) : evI E0 209 [.ptr 2 0] [b0, b1, [.d (.int .i64 t), .d (.int .i64 r), .d (.int .i64 s), .d (.int .i64 q)]] =
    some (.tup [], [b0, b1, [.d (.int .i64 (max (t - 1) 0)), .d (.int .i64 r), .d (.int .i64 s), .d (.int .i64 q)]]) := by
  have hw : IntKind.i64.wrap (t - 1) = t - 1 := by rw [IntWalk.i64_left]; unfold wrap64; omega
  refine evI_run (fn := Tryz.f209) 5 rfl Tryz.func209 rfl ?_
  simp [Tryz.f209, evCode, evOps, evOp, evWant, evCore, evPure, evCall, use, useL, useParts, opv, rd, putS, untake, moveIt, takes, af_nil, af_cons, appTmp, apartL, apartB, posOf, cellsOf, isBelowL, PV.isBelow, boxCells, isDataL, PV.isData, loadAs, loadS, storeS, storeAs, storedCells, oneP, PV.strip, PV.strip1, PV.keep0, evFieldAddr, evField, partP, evSlice, bound, natOf, rowsOk, evIndexAddr, evIndex, evLen, evAppend, ownRows, elemsOf, acc, fillP, bin_add, bin_sub, bin_mul, bin_lss, bin_leq, bin_gtr, bin_geq, bin_eql, bin_neq, bin_and, bin_andNot, un_not, mm_max, mm_min, ofValue, ofCell, slotOf, resVal, resOne, resL, retOf, toDL, toD, sameStore, sameCells, PV.same, DV.same_self, sameRows_self, sameL_self, E0P, (show E0.apart = apF from rfl), Tryz.aggT3, Tryz.szT3, Tryz.aggT47, Tryz.szT47, Tryz.aggT190, Tryz.szT190, Tryz.underlying190, hw]
theorem ev82 (b0 b1 : List PV) (t r s q : Int) (ht : 0 ≤ r ∧ r ≤ 1000) : evI E0 210 [.ptr 2 0] [b0, b1, [.d (.int .i64 t), .d (.int .i64 r), .d (.int .i64 s), .d (.int .i64 q)]] =
    some (.tup [], [b0, b1, [.d (.int .i64 t), .d (.int .i64 (min (max (r - 1) 0) 127)), .d (.int .i64 s), .d (.int .i64 q)]]) := by
  have hw : IntKind.i64.wrap (r - 1) = r - 1 := by rw [IntWalk.i64_left]; unfold wrap64; omega
  refine evI_run (fn := Tryz.f210) 5 rfl Tryz.func210 rfl ?_
  simp [Tryz.f210, evCode, evOps, evOp, evWant, evCore, evPure, evCall, use, useL, useParts, opv, rd, putS, untake, moveIt, takes, af_nil, af_cons, appTmp, apartL, apartB, posOf, cellsOf, isBelowL, PV.isBelow, boxCells, isDataL, PV.isData, loadAs, loadS, storeS, storeAs, storedCells, oneP, PV.strip, PV.strip1, PV.keep0, evFieldAddr, evField, partP, evSlice, bound, natOf, rowsOk, evIndexAddr, evIndex, evLen, evAppend, ownRows, elemsOf, acc, fillP, bin_add, bin_sub, bin_mul, bin_lss, bin_leq, bin_gtr, bin_geq, bin_eql, bin_neq, bin_and, bin_andNot, un_not, mm_max, mm_min, ofValue, ofCell, slotOf, resVal, resOne, resL, retOf, toDL, toD, sameStore, sameCells, PV.same, DV.same_self, sameRows_self, sameL_self, E0P, (show E0.apart = apF from rfl), Tryz.aggT3, Tryz.szT3, Tryz.aggT47, Tryz.szT47, Tryz.aggT190, Tryz.szT190, Tryz.underlying190, hw]
theorem ev83 (b0 b1 : List PV) (t r s q : Int) (ht : 0 ≤ t ∧ t ≤ 1000) : evI E0 211 [.ptr 2 0] [b0, b1, [.d (.int .i64 t), .d (.int .i64 r), .d (.int .i64 s), .d (.int .i64 q)]] =
    some (.tup [], [b0, b1, [.d (.int .i64 (t + 8)), .d (.int .i64 r), .d (.int .i64 s), .d (.int .i64 q)]]) := by
  have hw : IntKind.i64.wrap (t + 8) = t + 8 := by rw [IntWalk.i64_left]; unfold wrap64; omega
  refine evI_run (fn := Tryz.f211) 5 rfl Tryz.func211 rfl ?_
  simp [Tryz.f211, evCode, evOps, evOp, evWant, evCore, evPure, evCall, use, useL, useParts, opv, rd, putS, untake, moveIt, takes, af_nil, af_cons, appTmp, apartL, apartB, posOf, cellsOf, isBelowL, PV.isBelow, boxCells, isDataL, PV.isData, loadAs, loadS, storeS, storeAs, storedCells, oneP, PV.strip, PV.strip1, PV.keep0, evFieldAddr, evField, partP, evSlice, bound, natOf, rowsOk, evIndexAddr, evIndex, evLen, evAppend, ownRows, elemsOf, acc, fillP, bin_add, bin_sub, bin_mul, bin_lss, bin_leq, bin_gtr, bin_geq, bin_eql, bin_neq, bin_and, bin_andNot, un_not, mm_max, mm_min, ofValue, ofCell, slotOf, resVal, resOne, resL, retOf, toDL, toD, sameStore, sameCells, PV.same, DV.same_self, sameRows_self, sameL_self, E0P, (show E0.apart = apF from rfl), Tryz.aggT3, Tryz.szT3, Tryz.aggT47, Tryz.szT47, Tryz.aggT190, Tryz.szT190, Tryz.underlying190, hw]
theorem ev89 (b0 b1 : List PV) (t r s q y : Int) (ht : 0 ≤ r ∧ r ≤ 1000) (hy : 0 ≤ y ∧ y ≤ 1000) : evI E0 220 [.ptr 2 0, .ro [.int .i64 y]] [b0, b1, [.d (.int .i64 t), .d (.int .i64 r), .d (.int .i64 s), .d (.int .i64 q)]] =
    some (.tup [], [b0, b1, [.d (.int .i64 t), .d (.int .i64 (min (r + y) 255)), .d (.int .i64 s), .d (.int .i64 q)]]) := by
  have hw : IntKind.i64.wrap (r + y) = r + y := by rw [IntWalk.i64_left]; unfold wrap64; omega
  refine evI_run (fn := Tryz.f220) 5 rfl Tryz.func220 rfl ?_
  simp [Tryz.f220, evCode, evOps, evOp, evWant, evCore, evPure, evCall, use, useL, useParts, opv, rd, putS, untake, moveIt, takes, af_nil, af_cons, appTmp, apartL, apartB, posOf, cellsOf, isBelowL, PV.isBelow, boxCells, isDataL, PV.isData, loadAs, loadS, storeS, storeAs, storedCells, oneP, PV.strip, PV.strip1, PV.keep0, evFieldAddr, evField, partP, evSlice, bound, natOf, rowsOk, evIndexAddr, evIndex, evLen, evAppend, ownRows, elemsOf, acc, fillP, bin_add, bin_sub, bin_mul, bin_lss, bin_leq, bin_gtr, bin_geq, bin_eql, bin_neq, bin_and, bin_andNot, un_not, mm_max, mm_min, ofValue, ofCell, slotOf, resVal, resOne, resL, retOf, toDL, toD, sameStore, sameCells, PV.same, DV.same_self, sameRows_self, sameL_self, E0P, (show E0.apart = apF from rfl), Tryz.aggT3, Tryz.szT3, Tryz.aggT47, Tryz.szT47, Tryz.aggT190, Tryz.szT190, Tryz.underlying190, hw]
theorem ev72 (b0 b1 : List PV) (t r s q : Int) : evI E0 172 [.ptr 2 0] [b0, b1, [.d (.int .i64 t), .d (.int .i64 r), .d (.int .i64 s), .d (.int .i64 q)]] =
    some (.d (.int .i64 (if max t r > 127 then 2 else 1)), [b0, b1, [.d (.int .i64 t), .d (.int .i64 r), .d (.int .i64 s), .d (.int .i64 q)]]) := by
  refine evI_run (fn := Tryz.f172) 5 rfl Tryz.func172 rfl ?_
  by_cases h : max t r > 127 <;> simp [Tryz.f172, evCode, evOps, evOp, evWant, evCore, evPure, evCall, use, useL, useParts, opv, rd, putS, untake, moveIt, takes, af_nil, af_cons, appTmp, apartL, apartB, posOf, cellsOf, isBelowL, PV.isBelow, boxCells, isDataL, PV.isData, loadAs, loadS, storeS, storeAs, storedCells, oneP, PV.strip, PV.strip1, PV.keep0, evFieldAddr, evField, partP, evSlice, bound, natOf, rowsOk, evIndexAddr, evIndex, evLen, evAppend, ownRows, elemsOf, acc, fillP, bin_add, bin_sub, bin_mul, bin_lss, bin_leq, bin_gtr, bin_geq, bin_eql, bin_neq, bin_and, bin_andNot, un_not, mm_max, mm_min, ofValue, ofCell, slotOf, resVal, resOne, resL, retOf, toDL, toD, sameStore, sameCells, PV.same, DV.same_self, sameRows_self, sameL_self, E0P, (show E0.apart = apF from rfl), Tryz.aggT3, Tryz.szT3, Tryz.aggT47, Tryz.szT47, Tryz.aggT190, Tryz.szT190, Tryz.underlying190, h]
end Go.Proofs

set_option linter.unusedVariables false
set_option linter.unusedSimpArgs false
set_option maxRecDepth 100000
namespace Go.Pv
open Go

theorem ev_seq_normal {E : Env} {F : FnEv} {k : Nat} {x y : Code} {st st' : St} (h : evCode E F k (.seq x y) st = some (.normal, st')) : ∃ st1, evCode E F k x st = some (.normal, st1) ∧ evCode E F k y st1 = some (.normal, st') := by
  simp only [evCode] at h
  cases hx : evCode E F k x st with
  | none => simp [hx] at h
  | some r =>
    obtain ⟨e, s⟩ := r
    cases e with
    | normal => simp only [hx, Option.bind_some] at h; exact ⟨s, rfl, h⟩
    | exit i => simp [hx] at h
    | ret => simp [hx] at h

theorem inv_start {w : World} {Im : ImT} {O : OwT} {β : List Nat} {σ : Store} {args : List PV} {vs : Array Value} (hg : Good w Im O β σ) (hargs : RepArgs w Im β args vs) (n : Nat) :
    Inv w Im O β ⟨args ++ List.replicate (n - args.length) .undef, σ⟩ { tmps := vs ++ Array.replicate (n - vs.size) undef, defers := [] } := by
  refine ⟨hg, ⟨by simp [hargs.1], fun i p u hp hu => ?_⟩⟩
  by_cases hi : i < args.length
  · rw [List.getElem?_append_left hi] at hp
    rw [Array.getElem?_append_left (by rw [← hargs.1]; exact hi)] at hu
    exact ⟨(hargs.2 i p u hp hu).1, .of_not (hargs.2 i p u hp hu).2⟩
  · rw [List.getElem?_append_right (by omega), List.getElem?_replicate] at hp
    rw [Array.getElem?_append_right (by rw [← hargs.1]; omega), Array.getElem?_replicate] at hu
    split at hp
    · split at hu
      · cases hp; cases hu
        exact ⟨.undef, .of_not (by simp)⟩
      · cases hu
    · cases hp
end Go.Pv
namespace Go.Proofs
open Go.Shelf Go.RowKit Go.Lib Go.Pv

def codeL : Code → Code | .seq a _ => a | c => c
def codeR : Code → Code | .seq _ b => b | c => c
def regOps : Code → Array Oper | .region _ ops _ => ops | _ => #[]
noncomputable def c49 : Code := Tryz.f139.body.getD .skip
noncomputable def c49a : Code := .seq (codeL c49) (.seq (codeL (codeR c49)) (codeL (codeR (codeR c49))))
noncomputable def c49o : Array Oper := regOps (codeL (codeL (codeR (codeR (codeR c49)))))
noncomputable def c49b : Code := codeR (codeL (codeR (codeR (codeR c49))))
noncomputable def c49c : Code := codeR (codeR (codeR (codeR c49)))
theorem body49 : Tryz.f139.body = some (.seq (codeL c49) (.seq (codeL (codeR c49)) (.seq (codeL (codeR (codeR c49))) (.seq (.seq (.region 6 c49o false) c49b) c49c)))) := by kernel_rfl

def cn (t r s q : Int) : PV := .agg [.d (.int .i64 t), .d (.int .i64 r), .d (.int .i64 s), .d (.int .i64 q)]

/-- From what the parts of count.Step's code give, its contract. -/
theorem step_join {t r s q what : Int} {pf : PV} {ok : Bool} (he : Entry what pf ok) {st3 st4 st5 st6 : St} {v : PV} (hv : v.isData = true)
    (h1 : evCode E0 (evI E0) 5 c49a ⟨[cn t r s q, .d (.int .i64 what)] ++ List.replicate 31 .undef, []⟩ = some (.normal, st3)) (hlen : st3.slots.length = 33) (hw : rd st3.slots 1 = .d (.int .i64 what))
    (h2 : evIdx E0 (evI E0) c49o [3, 4, 5, 6, 7] ⟨((st3.slots.set 18 .any).set 19 (.d (.int .i64 what))).set 20 (.tup [pf, .d (.bool ok)]), st3.store⟩ = some st4)
    (h3 : evCode E0 (evI E0) 5 c49b st4 = some (.normal, st5)) (h4 : evCode E0 (evI E0) 5 c49c st5 = some (.ret, st6)) (h5 : resVal Tryz.prog Tryz.f139 st6 = some v) :
    CallOk Tryz.prog 139 [cn t r s q, .d (.int .i64 what)] [] v [] := by
  refine CallOk.drop (σ' := st6.store) ⟨⟨_, Tryz.func139, rfl, by decide⟩, fun w Im O β vs hg hO hargs => ?_⟩ hv
  refine calls_of_wp Tryz.func139 body49 ?_
  have hI := inv_start hg hargs 33
  obtain ⟨s1, k1, k2⟩ := ev_seq_normal h1
  obtain ⟨s2, k2, k3⟩ := ev_seq_normal k2
  have hE := E0_ok
  have hF := evI_ok E0_ok
  refine wp_seq (code_ok (E := E0) hE.follows hE.ov hF (k := 5) _ (by kernel_rfl) hI k1 fun w1 Im1 O1 β1 a1 f1 x1 i1 d1 => ?_)
  refine wp_seq (code_ok (E := E0) hE.follows hE.ov hF (k := 5) _ (by kernel_rfl) i1 k2 fun w2 Im2 O2 β2 a2 f2 x2 i2 d2 => ?_)
  refine wp_seq (code_ok (E := E0) hE.follows hE.ov hF (k := 5) _ (by kernel_rfl) i2 k3 fun w3 Im3 O3 β3 a3 f3 x3 i3 d3 => ?_)
  refine wp_seq (wp_seq ?_)
  refine step_r6 (by kernel_rfl) (by rfl) rfl rfl rfl (by rfl) rfl rfl rfl (by rfl) rfl rfl rfl he i3 hlen hw h2 fun w4 Im4 O4 β4 a4 f4 x4 i4 d4 => ?_
  refine code_ok (E := E0) hE.follows hE.ov hF (k := 5) _ (by kernel_rfl) i4 h3 fun w5 Im5 O5 β5 a5 f5 x5 i5 d5 => ?_
  refine code_ok (E := E0) hE.follows hE.ov hF (k := 5) _ (by kernel_rfl) i5 h4 fun w6 Im6 O6 β6 a6 f6 x6 i6 d6 => ?_
  obtain ⟨v', g1, g2, l, g3⟩ := res_ok (P := Tryz.prog) i6 h5
  have hd : a6.defers = [] := d6.trans (d5.trans (d4.trans (d3.trans (d2.trans d1))))
  exact ⟨hd, v', g1, v', Im6, O6, β6, l, rfl, f1.trans (f2.trans (f3.trans (f4.trans (f5.trans f6)))), x1.trans (x2.trans (x3.trans (x4.trans (x5.trans x6)))), i6.good, g2, g3⟩
end Go.Proofs

set_option linter.unusedVariables false
set_option linter.unusedSimpArgs false
set_option maxRecDepth 100000
set_option maxHeartbeats 4000000
namespace Go.Proofs
open Go.Shelf Go.RowKit Go.Lib Go.Pv

def wkT (what t : Int) : Int := if what = 1 then max (t - 1) 0 else if what = 3 then t + 8 else t
def wkR (what r : Int) : Int := if what = 2 then min (max (r - 1) 0) 127 else if what = 4 then min (r + 1) 255 else if what = 5 then min (r + 8) 255 else r
def stepV (t r s q what : Int) : PV :=
  if s = 3 then (if what = 6 then (if q + 1 = 128 then cn 0 0 1 0 else cn t r s (q + 1)) else cn t r s q)
  else if wkT what t > 255 then cn 256 0 3 0 else cn (wkT what t) (wkR what r) (if max (wkT what t) (wkR what r) > 127 then 2 else 1) q

theorem E0ov (f : FuncId) : E0.ov f = none := rfl
theorem E0ap (p : String) : E0.apart p = apF p := rfl
theorem E0p81 : E0.pure 209 = false := rfl
theorem E0p82 : E0.pure 210 = false := rfl
theorem E0p83 : E0.pure 211 = false := rfl
theorem E0p89 : E0.pure 220 = false := rfl
theorem E0p72 : E0.pure 172 = false := rfl
theorem E0p70 : E0.pure 184 = true := rfl
theorem E0r81 : E0.ro 209 = false := rfl
theorem E0r82 : E0.ro 210 = false := rfl
theorem E0r83 : E0.ro 211 = false := rfl
theorem E0r89 : E0.ro 220 = false := rfl
theorem E0r72 : E0.ro 172 = true := rfl

theorem step_pre (t r s q what : Int) (h : s ≠ 3) : evCode E0 (evI E0) 5 c49a ⟨[cn t r s q, .d (.int .i64 what)] ++ List.replicate 31 .undef, []⟩ =
    some (.normal, ⟨[cn t r s q, .d (.int .i64 what), .ptr 0 0, .undef, .ptr 1 0, .ptr 2 0, .undef, .undef, .ptr 0 2, .d (.int .i64 s), .d (.bool (s == 3)), .undef, .undef, .undef, .undef, .undef, cn t r s q] ++ List.replicate 16 .undef,
      [[.d (.int .i64 t), .d (.int .i64 r), .d (.int .i64 s), .d (.int .i64 q)], [.d (.int .i64 0), .d (.int .i64 0), .d (.int .i64 0), .d (.int .i64 0)], [.d (.int .i64 t), .d (.int .i64 r), .d (.int .i64 s), .d (.int .i64 q)]]⟩) := by
  simp [c49a, c49, cn, codeL, codeR, Tryz.f139, evCode, evOps, evOp, evWant, evCore, evPure, evCall, use, useL, useParts, opv, rd, putS, untake, moveIt, takes, af_nil, af_cons, appTmp, apartL, apartB, posOf, cellsOf, isBelowL, PV.isBelow, boxCells, isDataL, PV.isData, loadAs, loadS, storeS, storeAs, storedCells, oneP, PV.strip, PV.strip1, PV.keep0, evFieldAddr, evField, partP, evSlice, bound, natOf, rowsOk, evIndexAddr, evIndex, evLen, evAppend, ownRows, elemsOf, acc, fillP, bin_add, bin_sub, bin_mul, bin_lss, bin_leq, bin_gtr, bin_geq, bin_eql, bin_neq, bin_and, bin_andNot, un_not, mm_max, mm_min, ofValue, ofCell, slotOf, resVal, resOne, resL, retOf, toDL, toD, sameStore, sameCells, PV.same, DV.same_self, sameRows_self, sameL_self, callIt, E0P, Tryz.aggT47, Tryz.aggT3, Tryz.szT47, Tryz.szT3, Tryz.zeroT47, Tryz.aggT190, Tryz.szT190, Tryz.zeroT190, Tryz.underlying47, Tryz.underlying190, h]


theorem step_1 (t r s q : Int) (hs : s ≠ 3) (ht : 0 ≤ t ∧ t ≤ 900) (hr : 0 ≤ r ∧ r ≤ 900) : CallOk Tryz.prog 139 [cn t r s q, .d (.int .i64 1)] [] (stepV t r s q 1) [] := by
  have hT : wkT 1 t = max (t - 1) 0 := by simp [wkT]
  have hR : wkR 1 r = r := by simp [wkR]
  have ev : stepV t r s q 1 = if max (t - 1) 0 > 255 then cn 256 0 3 0 else cn (max (t - 1) 0) (r) (if max (max (t - 1) 0) (r) > 127 then 2 else 1) q := by simp only [stepV, hs, if_false, hT, hR]
  rw [ev]
  have he : Entry 1 (.func (.func 209) [] []) true := .inl ⟨rfl, rfl, rfl⟩
  by_cases hb : max (t - 1) 0 > 255
  · rw [if_pos hb]
    refine step_join he rfl (step_pre t r s q 1 hs) (by simp) rfl (st4 := ?s4) (st5 := ?s5) (st6 := ?s6) ?h2 ?h3 ?h4 ?h5
    case h2 =>
      simp [c49o, regOps, codeL, codeR, c49, Tryz.f139, evIdx, evCode, evOps, evOp, evWant, evCore, evPure, evCall, use, useL, useParts, opv, rd, putS, untake, moveIt, takes, af_nil, af_cons, appTmp, apartL, apartB, posOf, cellsOf, isBelowL, PV.isBelow, boxCells, isDataL, PV.isData, loadAs, loadS, storeS, storeAs, storedCells, oneP, PV.strip, PV.strip1, PV.keep0, evFieldAddr, evField, partP, evSlice, bound, natOf, rowsOk, evIndexAddr, evIndex, evLen, evAppend, ownRows, elemsOf, acc, fillP, bin_add, bin_sub, bin_mul, bin_lss, bin_leq, bin_gtr, bin_geq, bin_eql, bin_neq, bin_and, bin_andNot, un_not, mm_max, mm_min, ofValue, ofCell, slotOf, resVal, resOne, resL, retOf, toDL, toD, sameStore, sameCells, PV.same, DV.same_self, sameRows_self, sameL_self, callIt, E0P, cn]
      rfl
    case h3 =>
      simp [c49b, codeL, codeR, c49, Tryz.f139, evCode, evOps, evOp, evWant, evCore, evPure, evCall, use, useL, useParts, opv, rd, putS, untake, moveIt, takes, af_nil, af_cons, appTmp, apartL, apartB, posOf, cellsOf, isBelowL, PV.isBelow, boxCells, isDataL, PV.isData, loadAs, loadS, storeS, storeAs, storedCells, oneP, PV.strip, PV.strip1, PV.keep0, evFieldAddr, evField, partP, evSlice, bound, natOf, rowsOk, evIndexAddr, evIndex, evLen, evAppend, ownRows, elemsOf, acc, fillP, bin_add, bin_sub, bin_mul, bin_lss, bin_leq, bin_gtr, bin_geq, bin_eql, bin_neq, bin_and, bin_andNot, un_not, mm_max, mm_min, ofValue, ofCell, slotOf, resVal, resOne, resL, retOf, toDL, toD, sameStore, sameCells, PV.same, DV.same_self, sameRows_self, sameL_self, callIt, E0P, cn, E0ov, E0p81, E0r81, ev81 _ _ t r s q (by omega)]
      rfl
    case h4 =>
      simp [c49c, codeL, codeR, c49, Tryz.f139, evCode, evOps, evOp, evWant, evCore, evPure, evCall, use, useL, useParts, opv, rd, putS, untake, moveIt, takes, af_nil, af_cons, appTmp, apartL, apartB, posOf, cellsOf, isBelowL, PV.isBelow, boxCells, isDataL, PV.isData, loadAs, loadS, storeS, storeAs, storedCells, oneP, PV.strip, PV.strip1, PV.keep0, evFieldAddr, evField, partP, evSlice, bound, natOf, rowsOk, evIndexAddr, evIndex, evLen, evAppend, ownRows, elemsOf, acc, fillP, bin_add, bin_sub, bin_mul, bin_lss, bin_leq, bin_gtr, bin_geq, bin_eql, bin_neq, bin_and, bin_andNot, un_not, mm_max, mm_min, ofValue, ofCell, slotOf, resVal, resOne, resL, retOf, toDL, toD, sameStore, sameCells, PV.same, DV.same_self, sameRows_self, sameL_self, callIt, E0P, cn, Tryz.aggT47, Tryz.aggT3, Tryz.szT47, Tryz.szT3, Tryz.zeroT47, Tryz.placesOf47, Tryz.aggT190, Tryz.szT190, Tryz.zeroT190, Tryz.underlying47, Tryz.underlying190, E0ov, E0p72, E0r72, ev72, hb]
      rfl
    case h5 => simp [Tryz.f139, evCode, evOps, evOp, evWant, evCore, evPure, evCall, use, useL, useParts, opv, rd, putS, untake, moveIt, takes, af_nil, af_cons, appTmp, apartL, apartB, posOf, cellsOf, isBelowL, PV.isBelow, boxCells, isDataL, PV.isData, loadAs, loadS, storeS, storeAs, storedCells, oneP, PV.strip, PV.strip1, PV.keep0, evFieldAddr, evField, partP, evSlice, bound, natOf, rowsOk, evIndexAddr, evIndex, evLen, evAppend, ownRows, elemsOf, acc, fillP, bin_add, bin_sub, bin_mul, bin_lss, bin_leq, bin_gtr, bin_geq, bin_eql, bin_neq, bin_and, bin_andNot, un_not, mm_max, mm_min, ofValue, ofCell, slotOf, resVal, resOne, resL, retOf, toDL, toD, sameStore, sameCells, PV.same, DV.same_self, sameRows_self, sameL_self, callIt, Tryz.aggT47, Tryz.szT47, cn]
  · rw [if_neg hb]
    refine step_join he rfl (step_pre t r s q 1 hs) (by simp) rfl (st4 := ?u4) (st5 := ?u5) (st6 := ?u6) ?h2 ?h3 ?h4 ?h5
    case h2 =>
      simp [c49o, regOps, codeL, codeR, c49, Tryz.f139, evIdx, evCode, evOps, evOp, evWant, evCore, evPure, evCall, use, useL, useParts, opv, rd, putS, untake, moveIt, takes, af_nil, af_cons, appTmp, apartL, apartB, posOf, cellsOf, isBelowL, PV.isBelow, boxCells, isDataL, PV.isData, loadAs, loadS, storeS, storeAs, storedCells, oneP, PV.strip, PV.strip1, PV.keep0, evFieldAddr, evField, partP, evSlice, bound, natOf, rowsOk, evIndexAddr, evIndex, evLen, evAppend, ownRows, elemsOf, acc, fillP, bin_add, bin_sub, bin_mul, bin_lss, bin_leq, bin_gtr, bin_geq, bin_eql, bin_neq, bin_and, bin_andNot, un_not, mm_max, mm_min, ofValue, ofCell, slotOf, resVal, resOne, resL, retOf, toDL, toD, sameStore, sameCells, PV.same, DV.same_self, sameRows_self, sameL_self, callIt, E0P, cn]
      rfl
    case h3 =>
      simp [c49b, codeL, codeR, c49, Tryz.f139, evCode, evOps, evOp, evWant, evCore, evPure, evCall, use, useL, useParts, opv, rd, putS, untake, moveIt, takes, af_nil, af_cons, appTmp, apartL, apartB, posOf, cellsOf, isBelowL, PV.isBelow, boxCells, isDataL, PV.isData, loadAs, loadS, storeS, storeAs, storedCells, oneP, PV.strip, PV.strip1, PV.keep0, evFieldAddr, evField, partP, evSlice, bound, natOf, rowsOk, evIndexAddr, evIndex, evLen, evAppend, ownRows, elemsOf, acc, fillP, bin_add, bin_sub, bin_mul, bin_lss, bin_leq, bin_gtr, bin_geq, bin_eql, bin_neq, bin_and, bin_andNot, un_not, mm_max, mm_min, ofValue, ofCell, slotOf, resVal, resOne, resL, retOf, toDL, toD, sameStore, sameCells, PV.same, DV.same_self, sameRows_self, sameL_self, callIt, E0P, cn, E0ov, E0p81, E0r81, ev81 _ _ t r s q (by omega)]
      rfl
    case h4 =>
      simp [c49c, codeL, codeR, c49, Tryz.f139, evCode, evOps, evOp, evWant, evCore, evPure, evCall, use, useL, useParts, opv, rd, putS, untake, moveIt, takes, af_nil, af_cons, appTmp, apartL, apartB, posOf, cellsOf, isBelowL, PV.isBelow, boxCells, isDataL, PV.isData, loadAs, loadS, storeS, storeAs, storedCells, oneP, PV.strip, PV.strip1, PV.keep0, evFieldAddr, evField, partP, evSlice, bound, natOf, rowsOk, evIndexAddr, evIndex, evLen, evAppend, ownRows, elemsOf, acc, fillP, bin_add, bin_sub, bin_mul, bin_lss, bin_leq, bin_gtr, bin_geq, bin_eql, bin_neq, bin_and, bin_andNot, un_not, mm_max, mm_min, ofValue, ofCell, slotOf, resVal, resOne, resL, retOf, toDL, toD, sameStore, sameCells, PV.same, DV.same_self, sameRows_self, sameL_self, callIt, E0P, cn, Tryz.aggT47, Tryz.aggT3, Tryz.szT47, Tryz.szT3, Tryz.zeroT47, Tryz.placesOf47, Tryz.aggT190, Tryz.szT190, Tryz.zeroT190, Tryz.underlying47, Tryz.underlying190, E0ov, E0p72, E0r72, ev72, hb]
      rfl
    case h5 => simp [Tryz.f139, evCode, evOps, evOp, evWant, evCore, evPure, evCall, use, useL, useParts, opv, rd, putS, untake, moveIt, takes, af_nil, af_cons, appTmp, apartL, apartB, posOf, cellsOf, isBelowL, PV.isBelow, boxCells, isDataL, PV.isData, loadAs, loadS, storeS, storeAs, storedCells, oneP, PV.strip, PV.strip1, PV.keep0, evFieldAddr, evField, partP, evSlice, bound, natOf, rowsOk, evIndexAddr, evIndex, evLen, evAppend, ownRows, elemsOf, acc, fillP, bin_add, bin_sub, bin_mul, bin_lss, bin_leq, bin_gtr, bin_geq, bin_eql, bin_neq, bin_and, bin_andNot, un_not, mm_max, mm_min, ofValue, ofCell, slotOf, resVal, resOne, resL, retOf, toDL, toD, sameStore, sameCells, PV.same, DV.same_self, sameRows_self, sameL_self, callIt, Tryz.aggT47, Tryz.szT47, cn]

theorem step_2 (t r s q : Int) (hs : s ≠ 3) (ht : 0 ≤ t ∧ t ≤ 900) (hr : 0 ≤ r ∧ r ≤ 900) : CallOk Tryz.prog 139 [cn t r s q, .d (.int .i64 2)] [] (stepV t r s q 2) [] := by
  have hT : wkT 2 t = t := by simp [wkT]
  have hR : wkR 2 r = min (max (r - 1) 0) 127 := by simp [wkR]
  have ev : stepV t r s q 2 = if t > 255 then cn 256 0 3 0 else cn (t) (min (max (r - 1) 0) 127) (if max (t) (min (max (r - 1) 0) 127) > 127 then 2 else 1) q := by simp only [stepV, hs, if_false, hT, hR]
  rw [ev]
  have he : Entry 2 (.func (.func 210) [] []) true := .inr (.inl ⟨rfl, rfl, rfl⟩)
  by_cases hb : t > 255
  · rw [if_pos hb]
    refine step_join he rfl (step_pre t r s q 2 hs) (by simp) rfl (st4 := ?s4) (st5 := ?s5) (st6 := ?s6) ?h2 ?h3 ?h4 ?h5
    case h2 =>
      simp [c49o, regOps, codeL, codeR, c49, Tryz.f139, evIdx, evCode, evOps, evOp, evWant, evCore, evPure, evCall, use, useL, useParts, opv, rd, putS, untake, moveIt, takes, af_nil, af_cons, appTmp, apartL, apartB, posOf, cellsOf, isBelowL, PV.isBelow, boxCells, isDataL, PV.isData, loadAs, loadS, storeS, storeAs, storedCells, oneP, PV.strip, PV.strip1, PV.keep0, evFieldAddr, evField, partP, evSlice, bound, natOf, rowsOk, evIndexAddr, evIndex, evLen, evAppend, ownRows, elemsOf, acc, fillP, bin_add, bin_sub, bin_mul, bin_lss, bin_leq, bin_gtr, bin_geq, bin_eql, bin_neq, bin_and, bin_andNot, un_not, mm_max, mm_min, ofValue, ofCell, slotOf, resVal, resOne, resL, retOf, toDL, toD, sameStore, sameCells, PV.same, DV.same_self, sameRows_self, sameL_self, callIt, E0P, cn]
      rfl
    case h3 =>
      simp [c49b, codeL, codeR, c49, Tryz.f139, evCode, evOps, evOp, evWant, evCore, evPure, evCall, use, useL, useParts, opv, rd, putS, untake, moveIt, takes, af_nil, af_cons, appTmp, apartL, apartB, posOf, cellsOf, isBelowL, PV.isBelow, boxCells, isDataL, PV.isData, loadAs, loadS, storeS, storeAs, storedCells, oneP, PV.strip, PV.strip1, PV.keep0, evFieldAddr, evField, partP, evSlice, bound, natOf, rowsOk, evIndexAddr, evIndex, evLen, evAppend, ownRows, elemsOf, acc, fillP, bin_add, bin_sub, bin_mul, bin_lss, bin_leq, bin_gtr, bin_geq, bin_eql, bin_neq, bin_and, bin_andNot, un_not, mm_max, mm_min, ofValue, ofCell, slotOf, resVal, resOne, resL, retOf, toDL, toD, sameStore, sameCells, PV.same, DV.same_self, sameRows_self, sameL_self, callIt, E0P, cn, E0ov, E0p82, E0r82, ev82 _ _ t r s q (by omega)]
      rfl
    case h4 =>
      simp [c49c, codeL, codeR, c49, Tryz.f139, evCode, evOps, evOp, evWant, evCore, evPure, evCall, use, useL, useParts, opv, rd, putS, untake, moveIt, takes, af_nil, af_cons, appTmp, apartL, apartB, posOf, cellsOf, isBelowL, PV.isBelow, boxCells, isDataL, PV.isData, loadAs, loadS, storeS, storeAs, storedCells, oneP, PV.strip, PV.strip1, PV.keep0, evFieldAddr, evField, partP, evSlice, bound, natOf, rowsOk, evIndexAddr, evIndex, evLen, evAppend, ownRows, elemsOf, acc, fillP, bin_add, bin_sub, bin_mul, bin_lss, bin_leq, bin_gtr, bin_geq, bin_eql, bin_neq, bin_and, bin_andNot, un_not, mm_max, mm_min, ofValue, ofCell, slotOf, resVal, resOne, resL, retOf, toDL, toD, sameStore, sameCells, PV.same, DV.same_self, sameRows_self, sameL_self, callIt, E0P, cn, Tryz.aggT47, Tryz.aggT3, Tryz.szT47, Tryz.szT3, Tryz.zeroT47, Tryz.placesOf47, Tryz.aggT190, Tryz.szT190, Tryz.zeroT190, Tryz.underlying47, Tryz.underlying190, E0ov, E0p72, E0r72, ev72, hb]
      rfl
    case h5 => simp [Tryz.f139, evCode, evOps, evOp, evWant, evCore, evPure, evCall, use, useL, useParts, opv, rd, putS, untake, moveIt, takes, af_nil, af_cons, appTmp, apartL, apartB, posOf, cellsOf, isBelowL, PV.isBelow, boxCells, isDataL, PV.isData, loadAs, loadS, storeS, storeAs, storedCells, oneP, PV.strip, PV.strip1, PV.keep0, evFieldAddr, evField, partP, evSlice, bound, natOf, rowsOk, evIndexAddr, evIndex, evLen, evAppend, ownRows, elemsOf, acc, fillP, bin_add, bin_sub, bin_mul, bin_lss, bin_leq, bin_gtr, bin_geq, bin_eql, bin_neq, bin_and, bin_andNot, un_not, mm_max, mm_min, ofValue, ofCell, slotOf, resVal, resOne, resL, retOf, toDL, toD, sameStore, sameCells, PV.same, DV.same_self, sameRows_self, sameL_self, callIt, Tryz.aggT47, Tryz.szT47, cn]
  · rw [if_neg hb]
    refine step_join he rfl (step_pre t r s q 2 hs) (by simp) rfl (st4 := ?u4) (st5 := ?u5) (st6 := ?u6) ?h2 ?h3 ?h4 ?h5
    case h2 =>
      simp [c49o, regOps, codeL, codeR, c49, Tryz.f139, evIdx, evCode, evOps, evOp, evWant, evCore, evPure, evCall, use, useL, useParts, opv, rd, putS, untake, moveIt, takes, af_nil, af_cons, appTmp, apartL, apartB, posOf, cellsOf, isBelowL, PV.isBelow, boxCells, isDataL, PV.isData, loadAs, loadS, storeS, storeAs, storedCells, oneP, PV.strip, PV.strip1, PV.keep0, evFieldAddr, evField, partP, evSlice, bound, natOf, rowsOk, evIndexAddr, evIndex, evLen, evAppend, ownRows, elemsOf, acc, fillP, bin_add, bin_sub, bin_mul, bin_lss, bin_leq, bin_gtr, bin_geq, bin_eql, bin_neq, bin_and, bin_andNot, un_not, mm_max, mm_min, ofValue, ofCell, slotOf, resVal, resOne, resL, retOf, toDL, toD, sameStore, sameCells, PV.same, DV.same_self, sameRows_self, sameL_self, callIt, E0P, cn]
      rfl
    case h3 =>
      simp [c49b, codeL, codeR, c49, Tryz.f139, evCode, evOps, evOp, evWant, evCore, evPure, evCall, use, useL, useParts, opv, rd, putS, untake, moveIt, takes, af_nil, af_cons, appTmp, apartL, apartB, posOf, cellsOf, isBelowL, PV.isBelow, boxCells, isDataL, PV.isData, loadAs, loadS, storeS, storeAs, storedCells, oneP, PV.strip, PV.strip1, PV.keep0, evFieldAddr, evField, partP, evSlice, bound, natOf, rowsOk, evIndexAddr, evIndex, evLen, evAppend, ownRows, elemsOf, acc, fillP, bin_add, bin_sub, bin_mul, bin_lss, bin_leq, bin_gtr, bin_geq, bin_eql, bin_neq, bin_and, bin_andNot, un_not, mm_max, mm_min, ofValue, ofCell, slotOf, resVal, resOne, resL, retOf, toDL, toD, sameStore, sameCells, PV.same, DV.same_self, sameRows_self, sameL_self, callIt, E0P, cn, E0ov, E0p82, E0r82, ev82 _ _ t r s q (by omega)]
      rfl
    case h4 =>
      simp [c49c, codeL, codeR, c49, Tryz.f139, evCode, evOps, evOp, evWant, evCore, evPure, evCall, use, useL, useParts, opv, rd, putS, untake, moveIt, takes, af_nil, af_cons, appTmp, apartL, apartB, posOf, cellsOf, isBelowL, PV.isBelow, boxCells, isDataL, PV.isData, loadAs, loadS, storeS, storeAs, storedCells, oneP, PV.strip, PV.strip1, PV.keep0, evFieldAddr, evField, partP, evSlice, bound, natOf, rowsOk, evIndexAddr, evIndex, evLen, evAppend, ownRows, elemsOf, acc, fillP, bin_add, bin_sub, bin_mul, bin_lss, bin_leq, bin_gtr, bin_geq, bin_eql, bin_neq, bin_and, bin_andNot, un_not, mm_max, mm_min, ofValue, ofCell, slotOf, resVal, resOne, resL, retOf, toDL, toD, sameStore, sameCells, PV.same, DV.same_self, sameRows_self, sameL_self, callIt, E0P, cn, Tryz.aggT47, Tryz.aggT3, Tryz.szT47, Tryz.szT3, Tryz.zeroT47, Tryz.placesOf47, Tryz.aggT190, Tryz.szT190, Tryz.zeroT190, Tryz.underlying47, Tryz.underlying190, E0ov, E0p72, E0r72, ev72, hb]
      rfl
    case h5 => simp [Tryz.f139, evCode, evOps, evOp, evWant, evCore, evPure, evCall, use, useL, useParts, opv, rd, putS, untake, moveIt, takes, af_nil, af_cons, appTmp, apartL, apartB, posOf, cellsOf, isBelowL, PV.isBelow, boxCells, isDataL, PV.isData, loadAs, loadS, storeS, storeAs, storedCells, oneP, PV.strip, PV.strip1, PV.keep0, evFieldAddr, evField, partP, evSlice, bound, natOf, rowsOk, evIndexAddr, evIndex, evLen, evAppend, ownRows, elemsOf, acc, fillP, bin_add, bin_sub, bin_mul, bin_lss, bin_leq, bin_gtr, bin_geq, bin_eql, bin_neq, bin_and, bin_andNot, un_not, mm_max, mm_min, ofValue, ofCell, slotOf, resVal, resOne, resL, retOf, toDL, toD, sameStore, sameCells, PV.same, DV.same_self, sameRows_self, sameL_self, callIt, Tryz.aggT47, Tryz.szT47, cn]

theorem step_3 (t r s q : Int) (hs : s ≠ 3) (ht : 0 ≤ t ∧ t ≤ 900) (hr : 0 ≤ r ∧ r ≤ 900) : CallOk Tryz.prog 139 [cn t r s q, .d (.int .i64 3)] [] (stepV t r s q 3) [] := by
  have hT : wkT 3 t = t + 8 := by simp [wkT]
  have hR : wkR 3 r = r := by simp [wkR]
  have ev : stepV t r s q 3 = if t + 8 > 255 then cn 256 0 3 0 else cn (t + 8) (r) (if max (t + 8) (r) > 127 then 2 else 1) q := by simp only [stepV, hs, if_false, hT, hR]
  rw [ev]
  have he : Entry 3 (.func (.func 211) [] []) true := .inr (.inr (.inl ⟨rfl, rfl, rfl⟩))
  by_cases hb : t + 8 > 255
  · rw [if_pos hb]
    refine step_join he rfl (step_pre t r s q 3 hs) (by simp) rfl (st4 := ?s4) (st5 := ?s5) (st6 := ?s6) ?h2 ?h3 ?h4 ?h5
    case h2 =>
      simp [c49o, regOps, codeL, codeR, c49, Tryz.f139, evIdx, evCode, evOps, evOp, evWant, evCore, evPure, evCall, use, useL, useParts, opv, rd, putS, untake, moveIt, takes, af_nil, af_cons, appTmp, apartL, apartB, posOf, cellsOf, isBelowL, PV.isBelow, boxCells, isDataL, PV.isData, loadAs, loadS, storeS, storeAs, storedCells, oneP, PV.strip, PV.strip1, PV.keep0, evFieldAddr, evField, partP, evSlice, bound, natOf, rowsOk, evIndexAddr, evIndex, evLen, evAppend, ownRows, elemsOf, acc, fillP, bin_add, bin_sub, bin_mul, bin_lss, bin_leq, bin_gtr, bin_geq, bin_eql, bin_neq, bin_and, bin_andNot, un_not, mm_max, mm_min, ofValue, ofCell, slotOf, resVal, resOne, resL, retOf, toDL, toD, sameStore, sameCells, PV.same, DV.same_self, sameRows_self, sameL_self, callIt, E0P, cn]
      rfl
    case h3 =>
      simp [c49b, codeL, codeR, c49, Tryz.f139, evCode, evOps, evOp, evWant, evCore, evPure, evCall, use, useL, useParts, opv, rd, putS, untake, moveIt, takes, af_nil, af_cons, appTmp, apartL, apartB, posOf, cellsOf, isBelowL, PV.isBelow, boxCells, isDataL, PV.isData, loadAs, loadS, storeS, storeAs, storedCells, oneP, PV.strip, PV.strip1, PV.keep0, evFieldAddr, evField, partP, evSlice, bound, natOf, rowsOk, evIndexAddr, evIndex, evLen, evAppend, ownRows, elemsOf, acc, fillP, bin_add, bin_sub, bin_mul, bin_lss, bin_leq, bin_gtr, bin_geq, bin_eql, bin_neq, bin_and, bin_andNot, un_not, mm_max, mm_min, ofValue, ofCell, slotOf, resVal, resOne, resL, retOf, toDL, toD, sameStore, sameCells, PV.same, DV.same_self, sameRows_self, sameL_self, callIt, E0P, cn, E0ov, E0p83, E0r83, ev83 _ _ t r s q (by omega)]
      rfl
    case h4 =>
      simp [c49c, codeL, codeR, c49, Tryz.f139, evCode, evOps, evOp, evWant, evCore, evPure, evCall, use, useL, useParts, opv, rd, putS, untake, moveIt, takes, af_nil, af_cons, appTmp, apartL, apartB, posOf, cellsOf, isBelowL, PV.isBelow, boxCells, isDataL, PV.isData, loadAs, loadS, storeS, storeAs, storedCells, oneP, PV.strip, PV.strip1, PV.keep0, evFieldAddr, evField, partP, evSlice, bound, natOf, rowsOk, evIndexAddr, evIndex, evLen, evAppend, ownRows, elemsOf, acc, fillP, bin_add, bin_sub, bin_mul, bin_lss, bin_leq, bin_gtr, bin_geq, bin_eql, bin_neq, bin_and, bin_andNot, un_not, mm_max, mm_min, ofValue, ofCell, slotOf, resVal, resOne, resL, retOf, toDL, toD, sameStore, sameCells, PV.same, DV.same_self, sameRows_self, sameL_self, callIt, E0P, cn, Tryz.aggT47, Tryz.aggT3, Tryz.szT47, Tryz.szT3, Tryz.zeroT47, Tryz.placesOf47, Tryz.aggT190, Tryz.szT190, Tryz.zeroT190, Tryz.underlying47, Tryz.underlying190, E0ov, E0p72, E0r72, ev72, hb]
      rfl
    case h5 => simp [Tryz.f139, evCode, evOps, evOp, evWant, evCore, evPure, evCall, use, useL, useParts, opv, rd, putS, untake, moveIt, takes, af_nil, af_cons, appTmp, apartL, apartB, posOf, cellsOf, isBelowL, PV.isBelow, boxCells, isDataL, PV.isData, loadAs, loadS, storeS, storeAs, storedCells, oneP, PV.strip, PV.strip1, PV.keep0, evFieldAddr, evField, partP, evSlice, bound, natOf, rowsOk, evIndexAddr, evIndex, evLen, evAppend, ownRows, elemsOf, acc, fillP, bin_add, bin_sub, bin_mul, bin_lss, bin_leq, bin_gtr, bin_geq, bin_eql, bin_neq, bin_and, bin_andNot, un_not, mm_max, mm_min, ofValue, ofCell, slotOf, resVal, resOne, resL, retOf, toDL, toD, sameStore, sameCells, PV.same, DV.same_self, sameRows_self, sameL_self, callIt, Tryz.aggT47, Tryz.szT47, cn]
  · rw [if_neg hb]
    refine step_join he rfl (step_pre t r s q 3 hs) (by simp) rfl (st4 := ?u4) (st5 := ?u5) (st6 := ?u6) ?h2 ?h3 ?h4 ?h5
    case h2 =>
      simp [c49o, regOps, codeL, codeR, c49, Tryz.f139, evIdx, evCode, evOps, evOp, evWant, evCore, evPure, evCall, use, useL, useParts, opv, rd, putS, untake, moveIt, takes, af_nil, af_cons, appTmp, apartL, apartB, posOf, cellsOf, isBelowL, PV.isBelow, boxCells, isDataL, PV.isData, loadAs, loadS, storeS, storeAs, storedCells, oneP, PV.strip, PV.strip1, PV.keep0, evFieldAddr, evField, partP, evSlice, bound, natOf, rowsOk, evIndexAddr, evIndex, evLen, evAppend, ownRows, elemsOf, acc, fillP, bin_add, bin_sub, bin_mul, bin_lss, bin_leq, bin_gtr, bin_geq, bin_eql, bin_neq, bin_and, bin_andNot, un_not, mm_max, mm_min, ofValue, ofCell, slotOf, resVal, resOne, resL, retOf, toDL, toD, sameStore, sameCells, PV.same, DV.same_self, sameRows_self, sameL_self, callIt, E0P, cn]
      rfl
    case h3 =>
      simp [c49b, codeL, codeR, c49, Tryz.f139, evCode, evOps, evOp, evWant, evCore, evPure, evCall, use, useL, useParts, opv, rd, putS, untake, moveIt, takes, af_nil, af_cons, appTmp, apartL, apartB, posOf, cellsOf, isBelowL, PV.isBelow, boxCells, isDataL, PV.isData, loadAs, loadS, storeS, storeAs, storedCells, oneP, PV.strip, PV.strip1, PV.keep0, evFieldAddr, evField, partP, evSlice, bound, natOf, rowsOk, evIndexAddr, evIndex, evLen, evAppend, ownRows, elemsOf, acc, fillP, bin_add, bin_sub, bin_mul, bin_lss, bin_leq, bin_gtr, bin_geq, bin_eql, bin_neq, bin_and, bin_andNot, un_not, mm_max, mm_min, ofValue, ofCell, slotOf, resVal, resOne, resL, retOf, toDL, toD, sameStore, sameCells, PV.same, DV.same_self, sameRows_self, sameL_self, callIt, E0P, cn, E0ov, E0p83, E0r83, ev83 _ _ t r s q (by omega)]
      rfl
    case h4 =>
      simp [c49c, codeL, codeR, c49, Tryz.f139, evCode, evOps, evOp, evWant, evCore, evPure, evCall, use, useL, useParts, opv, rd, putS, untake, moveIt, takes, af_nil, af_cons, appTmp, apartL, apartB, posOf, cellsOf, isBelowL, PV.isBelow, boxCells, isDataL, PV.isData, loadAs, loadS, storeS, storeAs, storedCells, oneP, PV.strip, PV.strip1, PV.keep0, evFieldAddr, evField, partP, evSlice, bound, natOf, rowsOk, evIndexAddr, evIndex, evLen, evAppend, ownRows, elemsOf, acc, fillP, bin_add, bin_sub, bin_mul, bin_lss, bin_leq, bin_gtr, bin_geq, bin_eql, bin_neq, bin_and, bin_andNot, un_not, mm_max, mm_min, ofValue, ofCell, slotOf, resVal, resOne, resL, retOf, toDL, toD, sameStore, sameCells, PV.same, DV.same_self, sameRows_self, sameL_self, callIt, E0P, cn, Tryz.aggT47, Tryz.aggT3, Tryz.szT47, Tryz.szT3, Tryz.zeroT47, Tryz.placesOf47, Tryz.aggT190, Tryz.szT190, Tryz.zeroT190, Tryz.underlying47, Tryz.underlying190, E0ov, E0p72, E0r72, ev72, hb]
      rfl
    case h5 => simp [Tryz.f139, evCode, evOps, evOp, evWant, evCore, evPure, evCall, use, useL, useParts, opv, rd, putS, untake, moveIt, takes, af_nil, af_cons, appTmp, apartL, apartB, posOf, cellsOf, isBelowL, PV.isBelow, boxCells, isDataL, PV.isData, loadAs, loadS, storeS, storeAs, storedCells, oneP, PV.strip, PV.strip1, PV.keep0, evFieldAddr, evField, partP, evSlice, bound, natOf, rowsOk, evIndexAddr, evIndex, evLen, evAppend, ownRows, elemsOf, acc, fillP, bin_add, bin_sub, bin_mul, bin_lss, bin_leq, bin_gtr, bin_geq, bin_eql, bin_neq, bin_and, bin_andNot, un_not, mm_max, mm_min, ofValue, ofCell, slotOf, resVal, resOne, resL, retOf, toDL, toD, sameStore, sameCells, PV.same, DV.same_self, sameRows_self, sameL_self, callIt, Tryz.aggT47, Tryz.szT47, cn]

theorem step_4 (t r s q : Int) (hs : s ≠ 3) (ht : 0 ≤ t ∧ t ≤ 900) (hr : 0 ≤ r ∧ r ≤ 900) : CallOk Tryz.prog 139 [cn t r s q, .d (.int .i64 4)] [] (stepV t r s q 4) [] := by
  have hT : wkT 4 t = t := by simp [wkT]
  have hR : wkR 4 r = min (r + 1) 255 := by simp [wkR]
  have ev : stepV t r s q 4 = if t > 255 then cn 256 0 3 0 else cn (t) (min (r + 1) 255) (if max (t) (min (r + 1) 255) > 127 then 2 else 1) q := by simp only [stepV, hs, if_false, hT, hR]
  rw [ev]
  have he : Entry 4 (.func (.func 220) [] [.ro [.int .i64 1]]) true := .inr (.inr (.inr (.inl ⟨rfl, rfl, rfl⟩)))
  by_cases hb : t > 255
  · rw [if_pos hb]
    refine step_join he rfl (step_pre t r s q 4 hs) (by simp) rfl (st4 := ?s4) (st5 := ?s5) (st6 := ?s6) ?h2 ?h3 ?h4 ?h5
    case h2 =>
      simp [c49o, regOps, codeL, codeR, c49, Tryz.f139, evIdx, evCode, evOps, evOp, evWant, evCore, evPure, evCall, use, useL, useParts, opv, rd, putS, untake, moveIt, takes, af_nil, af_cons, appTmp, apartL, apartB, posOf, cellsOf, isBelowL, PV.isBelow, boxCells, isDataL, PV.isData, loadAs, loadS, storeS, storeAs, storedCells, oneP, PV.strip, PV.strip1, PV.keep0, evFieldAddr, evField, partP, evSlice, bound, natOf, rowsOk, evIndexAddr, evIndex, evLen, evAppend, ownRows, elemsOf, acc, fillP, bin_add, bin_sub, bin_mul, bin_lss, bin_leq, bin_gtr, bin_geq, bin_eql, bin_neq, bin_and, bin_andNot, un_not, mm_max, mm_min, ofValue, ofCell, slotOf, resVal, resOne, resL, retOf, toDL, toD, sameStore, sameCells, PV.same, DV.same_self, sameRows_self, sameL_self, callIt, E0P, cn]
      rfl
    case h3 =>
      simp [c49b, codeL, codeR, c49, Tryz.f139, evCode, evOps, evOp, evWant, evCore, evPure, evCall, use, useL, useParts, opv, rd, putS, untake, moveIt, takes, af_nil, af_cons, appTmp, apartL, apartB, posOf, cellsOf, isBelowL, PV.isBelow, boxCells, isDataL, PV.isData, loadAs, loadS, storeS, storeAs, storedCells, oneP, PV.strip, PV.strip1, PV.keep0, evFieldAddr, evField, partP, evSlice, bound, natOf, rowsOk, evIndexAddr, evIndex, evLen, evAppend, ownRows, elemsOf, acc, fillP, bin_add, bin_sub, bin_mul, bin_lss, bin_leq, bin_gtr, bin_geq, bin_eql, bin_neq, bin_and, bin_andNot, un_not, mm_max, mm_min, ofValue, ofCell, slotOf, resVal, resOne, resL, retOf, toDL, toD, sameStore, sameCells, PV.same, DV.same_self, sameRows_self, sameL_self, callIt, E0P, cn, E0ov, E0p89, E0r89, ev89 _ _ t r s q 1 (by omega) (by omega)]
      rfl
    case h4 =>
      simp [c49c, codeL, codeR, c49, Tryz.f139, evCode, evOps, evOp, evWant, evCore, evPure, evCall, use, useL, useParts, opv, rd, putS, untake, moveIt, takes, af_nil, af_cons, appTmp, apartL, apartB, posOf, cellsOf, isBelowL, PV.isBelow, boxCells, isDataL, PV.isData, loadAs, loadS, storeS, storeAs, storedCells, oneP, PV.strip, PV.strip1, PV.keep0, evFieldAddr, evField, partP, evSlice, bound, natOf, rowsOk, evIndexAddr, evIndex, evLen, evAppend, ownRows, elemsOf, acc, fillP, bin_add, bin_sub, bin_mul, bin_lss, bin_leq, bin_gtr, bin_geq, bin_eql, bin_neq, bin_and, bin_andNot, un_not, mm_max, mm_min, ofValue, ofCell, slotOf, resVal, resOne, resL, retOf, toDL, toD, sameStore, sameCells, PV.same, DV.same_self, sameRows_self, sameL_self, callIt, E0P, cn, Tryz.aggT47, Tryz.aggT3, Tryz.szT47, Tryz.szT3, Tryz.zeroT47, Tryz.placesOf47, Tryz.aggT190, Tryz.szT190, Tryz.zeroT190, Tryz.underlying47, Tryz.underlying190, E0ov, E0p72, E0r72, ev72, hb]
      rfl
    case h5 => simp [Tryz.f139, evCode, evOps, evOp, evWant, evCore, evPure, evCall, use, useL, useParts, opv, rd, putS, untake, moveIt, takes, af_nil, af_cons, appTmp, apartL, apartB, posOf, cellsOf, isBelowL, PV.isBelow, boxCells, isDataL, PV.isData, loadAs, loadS, storeS, storeAs, storedCells, oneP, PV.strip, PV.strip1, PV.keep0, evFieldAddr, evField, partP, evSlice, bound, natOf, rowsOk, evIndexAddr, evIndex, evLen, evAppend, ownRows, elemsOf, acc, fillP, bin_add, bin_sub, bin_mul, bin_lss, bin_leq, bin_gtr, bin_geq, bin_eql, bin_neq, bin_and, bin_andNot, un_not, mm_max, mm_min, ofValue, ofCell, slotOf, resVal, resOne, resL, retOf, toDL, toD, sameStore, sameCells, PV.same, DV.same_self, sameRows_self, sameL_self, callIt, Tryz.aggT47, Tryz.szT47, cn]
  · rw [if_neg hb]
    refine step_join he rfl (step_pre t r s q 4 hs) (by simp) rfl (st4 := ?u4) (st5 := ?u5) (st6 := ?u6) ?h2 ?h3 ?h4 ?h5
    case h2 =>
      simp [c49o, regOps, codeL, codeR, c49, Tryz.f139, evIdx, evCode, evOps, evOp, evWant, evCore, evPure, evCall, use, useL, useParts, opv, rd, putS, untake, moveIt, takes, af_nil, af_cons, appTmp, apartL, apartB, posOf, cellsOf, isBelowL, PV.isBelow, boxCells, isDataL, PV.isData, loadAs, loadS, storeS, storeAs, storedCells, oneP, PV.strip, PV.strip1, PV.keep0, evFieldAddr, evField, partP, evSlice, bound, natOf, rowsOk, evIndexAddr, evIndex, evLen, evAppend, ownRows, elemsOf, acc, fillP, bin_add, bin_sub, bin_mul, bin_lss, bin_leq, bin_gtr, bin_geq, bin_eql, bin_neq, bin_and, bin_andNot, un_not, mm_max, mm_min, ofValue, ofCell, slotOf, resVal, resOne, resL, retOf, toDL, toD, sameStore, sameCells, PV.same, DV.same_self, sameRows_self, sameL_self, callIt, E0P, cn]
      rfl
    case h3 =>
      simp [c49b, codeL, codeR, c49, Tryz.f139, evCode, evOps, evOp, evWant, evCore, evPure, evCall, use, useL, useParts, opv, rd, putS, untake, moveIt, takes, af_nil, af_cons, appTmp, apartL, apartB, posOf, cellsOf, isBelowL, PV.isBelow, boxCells, isDataL, PV.isData, loadAs, loadS, storeS, storeAs, storedCells, oneP, PV.strip, PV.strip1, PV.keep0, evFieldAddr, evField, partP, evSlice, bound, natOf, rowsOk, evIndexAddr, evIndex, evLen, evAppend, ownRows, elemsOf, acc, fillP, bin_add, bin_sub, bin_mul, bin_lss, bin_leq, bin_gtr, bin_geq, bin_eql, bin_neq, bin_and, bin_andNot, un_not, mm_max, mm_min, ofValue, ofCell, slotOf, resVal, resOne, resL, retOf, toDL, toD, sameStore, sameCells, PV.same, DV.same_self, sameRows_self, sameL_self, callIt, E0P, cn, E0ov, E0p89, E0r89, ev89 _ _ t r s q 1 (by omega) (by omega)]
      rfl
    case h4 =>
      simp [c49c, codeL, codeR, c49, Tryz.f139, evCode, evOps, evOp, evWant, evCore, evPure, evCall, use, useL, useParts, opv, rd, putS, untake, moveIt, takes, af_nil, af_cons, appTmp, apartL, apartB, posOf, cellsOf, isBelowL, PV.isBelow, boxCells, isDataL, PV.isData, loadAs, loadS, storeS, storeAs, storedCells, oneP, PV.strip, PV.strip1, PV.keep0, evFieldAddr, evField, partP, evSlice, bound, natOf, rowsOk, evIndexAddr, evIndex, evLen, evAppend, ownRows, elemsOf, acc, fillP, bin_add, bin_sub, bin_mul, bin_lss, bin_leq, bin_gtr, bin_geq, bin_eql, bin_neq, bin_and, bin_andNot, un_not, mm_max, mm_min, ofValue, ofCell, slotOf, resVal, resOne, resL, retOf, toDL, toD, sameStore, sameCells, PV.same, DV.same_self, sameRows_self, sameL_self, callIt, E0P, cn, Tryz.aggT47, Tryz.aggT3, Tryz.szT47, Tryz.szT3, Tryz.zeroT47, Tryz.placesOf47, Tryz.aggT190, Tryz.szT190, Tryz.zeroT190, Tryz.underlying47, Tryz.underlying190, E0ov, E0p72, E0r72, ev72, hb]
      rfl
    case h5 => simp [Tryz.f139, evCode, evOps, evOp, evWant, evCore, evPure, evCall, use, useL, useParts, opv, rd, putS, untake, moveIt, takes, af_nil, af_cons, appTmp, apartL, apartB, posOf, cellsOf, isBelowL, PV.isBelow, boxCells, isDataL, PV.isData, loadAs, loadS, storeS, storeAs, storedCells, oneP, PV.strip, PV.strip1, PV.keep0, evFieldAddr, evField, partP, evSlice, bound, natOf, rowsOk, evIndexAddr, evIndex, evLen, evAppend, ownRows, elemsOf, acc, fillP, bin_add, bin_sub, bin_mul, bin_lss, bin_leq, bin_gtr, bin_geq, bin_eql, bin_neq, bin_and, bin_andNot, un_not, mm_max, mm_min, ofValue, ofCell, slotOf, resVal, resOne, resL, retOf, toDL, toD, sameStore, sameCells, PV.same, DV.same_self, sameRows_self, sameL_self, callIt, Tryz.aggT47, Tryz.szT47, cn]

theorem step_5 (t r s q : Int) (hs : s ≠ 3) (ht : 0 ≤ t ∧ t ≤ 900) (hr : 0 ≤ r ∧ r ≤ 900) : CallOk Tryz.prog 139 [cn t r s q, .d (.int .i64 5)] [] (stepV t r s q 5) [] := by
  have hT : wkT 5 t = t := by simp [wkT]
  have hR : wkR 5 r = min (r + 8) 255 := by simp [wkR]
  have ev : stepV t r s q 5 = if t > 255 then cn 256 0 3 0 else cn (t) (min (r + 8) 255) (if max (t) (min (r + 8) 255) > 127 then 2 else 1) q := by simp only [stepV, hs, if_false, hT, hR]
  rw [ev]
  have he : Entry 5 (.func (.func 220) [] [.ro [.int .i64 8]]) true := .inr (.inr (.inr (.inr (.inl ⟨rfl, rfl, rfl⟩))))
  by_cases hb : t > 255
  · rw [if_pos hb]
    refine step_join he rfl (step_pre t r s q 5 hs) (by simp) rfl (st4 := ?s4) (st5 := ?s5) (st6 := ?s6) ?h2 ?h3 ?h4 ?h5
    case h2 =>
      simp [c49o, regOps, codeL, codeR, c49, Tryz.f139, evIdx, evCode, evOps, evOp, evWant, evCore, evPure, evCall, use, useL, useParts, opv, rd, putS, untake, moveIt, takes, af_nil, af_cons, appTmp, apartL, apartB, posOf, cellsOf, isBelowL, PV.isBelow, boxCells, isDataL, PV.isData, loadAs, loadS, storeS, storeAs, storedCells, oneP, PV.strip, PV.strip1, PV.keep0, evFieldAddr, evField, partP, evSlice, bound, natOf, rowsOk, evIndexAddr, evIndex, evLen, evAppend, ownRows, elemsOf, acc, fillP, bin_add, bin_sub, bin_mul, bin_lss, bin_leq, bin_gtr, bin_geq, bin_eql, bin_neq, bin_and, bin_andNot, un_not, mm_max, mm_min, ofValue, ofCell, slotOf, resVal, resOne, resL, retOf, toDL, toD, sameStore, sameCells, PV.same, DV.same_self, sameRows_self, sameL_self, callIt, E0P, cn]
      rfl
    case h3 =>
      simp [c49b, codeL, codeR, c49, Tryz.f139, evCode, evOps, evOp, evWant, evCore, evPure, evCall, use, useL, useParts, opv, rd, putS, untake, moveIt, takes, af_nil, af_cons, appTmp, apartL, apartB, posOf, cellsOf, isBelowL, PV.isBelow, boxCells, isDataL, PV.isData, loadAs, loadS, storeS, storeAs, storedCells, oneP, PV.strip, PV.strip1, PV.keep0, evFieldAddr, evField, partP, evSlice, bound, natOf, rowsOk, evIndexAddr, evIndex, evLen, evAppend, ownRows, elemsOf, acc, fillP, bin_add, bin_sub, bin_mul, bin_lss, bin_leq, bin_gtr, bin_geq, bin_eql, bin_neq, bin_and, bin_andNot, un_not, mm_max, mm_min, ofValue, ofCell, slotOf, resVal, resOne, resL, retOf, toDL, toD, sameStore, sameCells, PV.same, DV.same_self, sameRows_self, sameL_self, callIt, E0P, cn, E0ov, E0p89, E0r89, ev89 _ _ t r s q 8 (by omega) (by omega)]
      rfl
    case h4 =>
      simp [c49c, codeL, codeR, c49, Tryz.f139, evCode, evOps, evOp, evWant, evCore, evPure, evCall, use, useL, useParts, opv, rd, putS, untake, moveIt, takes, af_nil, af_cons, appTmp, apartL, apartB, posOf, cellsOf, isBelowL, PV.isBelow, boxCells, isDataL, PV.isData, loadAs, loadS, storeS, storeAs, storedCells, oneP, PV.strip, PV.strip1, PV.keep0, evFieldAddr, evField, partP, evSlice, bound, natOf, rowsOk, evIndexAddr, evIndex, evLen, evAppend, ownRows, elemsOf, acc, fillP, bin_add, bin_sub, bin_mul, bin_lss, bin_leq, bin_gtr, bin_geq, bin_eql, bin_neq, bin_and, bin_andNot, un_not, mm_max, mm_min, ofValue, ofCell, slotOf, resVal, resOne, resL, retOf, toDL, toD, sameStore, sameCells, PV.same, DV.same_self, sameRows_self, sameL_self, callIt, E0P, cn, Tryz.aggT47, Tryz.aggT3, Tryz.szT47, Tryz.szT3, Tryz.zeroT47, Tryz.placesOf47, Tryz.aggT190, Tryz.szT190, Tryz.zeroT190, Tryz.underlying47, Tryz.underlying190, E0ov, E0p72, E0r72, ev72, hb]
      rfl
    case h5 => simp [Tryz.f139, evCode, evOps, evOp, evWant, evCore, evPure, evCall, use, useL, useParts, opv, rd, putS, untake, moveIt, takes, af_nil, af_cons, appTmp, apartL, apartB, posOf, cellsOf, isBelowL, PV.isBelow, boxCells, isDataL, PV.isData, loadAs, loadS, storeS, storeAs, storedCells, oneP, PV.strip, PV.strip1, PV.keep0, evFieldAddr, evField, partP, evSlice, bound, natOf, rowsOk, evIndexAddr, evIndex, evLen, evAppend, ownRows, elemsOf, acc, fillP, bin_add, bin_sub, bin_mul, bin_lss, bin_leq, bin_gtr, bin_geq, bin_eql, bin_neq, bin_and, bin_andNot, un_not, mm_max, mm_min, ofValue, ofCell, slotOf, resVal, resOne, resL, retOf, toDL, toD, sameStore, sameCells, PV.same, DV.same_self, sameRows_self, sameL_self, callIt, Tryz.aggT47, Tryz.szT47, cn]
  · rw [if_neg hb]
    refine step_join he rfl (step_pre t r s q 5 hs) (by simp) rfl (st4 := ?u4) (st5 := ?u5) (st6 := ?u6) ?h2 ?h3 ?h4 ?h5
    case h2 =>
      simp [c49o, regOps, codeL, codeR, c49, Tryz.f139, evIdx, evCode, evOps, evOp, evWant, evCore, evPure, evCall, use, useL, useParts, opv, rd, putS, untake, moveIt, takes, af_nil, af_cons, appTmp, apartL, apartB, posOf, cellsOf, isBelowL, PV.isBelow, boxCells, isDataL, PV.isData, loadAs, loadS, storeS, storeAs, storedCells, oneP, PV.strip, PV.strip1, PV.keep0, evFieldAddr, evField, partP, evSlice, bound, natOf, rowsOk, evIndexAddr, evIndex, evLen, evAppend, ownRows, elemsOf, acc, fillP, bin_add, bin_sub, bin_mul, bin_lss, bin_leq, bin_gtr, bin_geq, bin_eql, bin_neq, bin_and, bin_andNot, un_not, mm_max, mm_min, ofValue, ofCell, slotOf, resVal, resOne, resL, retOf, toDL, toD, sameStore, sameCells, PV.same, DV.same_self, sameRows_self, sameL_self, callIt, E0P, cn]
      rfl
    case h3 =>
      simp [c49b, codeL, codeR, c49, Tryz.f139, evCode, evOps, evOp, evWant, evCore, evPure, evCall, use, useL, useParts, opv, rd, putS, untake, moveIt, takes, af_nil, af_cons, appTmp, apartL, apartB, posOf, cellsOf, isBelowL, PV.isBelow, boxCells, isDataL, PV.isData, loadAs, loadS, storeS, storeAs, storedCells, oneP, PV.strip, PV.strip1, PV.keep0, evFieldAddr, evField, partP, evSlice, bound, natOf, rowsOk, evIndexAddr, evIndex, evLen, evAppend, ownRows, elemsOf, acc, fillP, bin_add, bin_sub, bin_mul, bin_lss, bin_leq, bin_gtr, bin_geq, bin_eql, bin_neq, bin_and, bin_andNot, un_not, mm_max, mm_min, ofValue, ofCell, slotOf, resVal, resOne, resL, retOf, toDL, toD, sameStore, sameCells, PV.same, DV.same_self, sameRows_self, sameL_self, callIt, E0P, cn, E0ov, E0p89, E0r89, ev89 _ _ t r s q 8 (by omega) (by omega)]
      rfl
    case h4 =>
      simp [c49c, codeL, codeR, c49, Tryz.f139, evCode, evOps, evOp, evWant, evCore, evPure, evCall, use, useL, useParts, opv, rd, putS, untake, moveIt, takes, af_nil, af_cons, appTmp, apartL, apartB, posOf, cellsOf, isBelowL, PV.isBelow, boxCells, isDataL, PV.isData, loadAs, loadS, storeS, storeAs, storedCells, oneP, PV.strip, PV.strip1, PV.keep0, evFieldAddr, evField, partP, evSlice, bound, natOf, rowsOk, evIndexAddr, evIndex, evLen, evAppend, ownRows, elemsOf, acc, fillP, bin_add, bin_sub, bin_mul, bin_lss, bin_leq, bin_gtr, bin_geq, bin_eql, bin_neq, bin_and, bin_andNot, un_not, mm_max, mm_min, ofValue, ofCell, slotOf, resVal, resOne, resL, retOf, toDL, toD, sameStore, sameCells, PV.same, DV.same_self, sameRows_self, sameL_self, callIt, E0P, cn, Tryz.aggT47, Tryz.aggT3, Tryz.szT47, Tryz.szT3, Tryz.zeroT47, Tryz.placesOf47, Tryz.aggT190, Tryz.szT190, Tryz.zeroT190, Tryz.underlying47, Tryz.underlying190, E0ov, E0p72, E0r72, ev72, hb]
      rfl
    case h5 => simp [Tryz.f139, evCode, evOps, evOp, evWant, evCore, evPure, evCall, use, useL, useParts, opv, rd, putS, untake, moveIt, takes, af_nil, af_cons, appTmp, apartL, apartB, posOf, cellsOf, isBelowL, PV.isBelow, boxCells, isDataL, PV.isData, loadAs, loadS, storeS, storeAs, storedCells, oneP, PV.strip, PV.strip1, PV.keep0, evFieldAddr, evField, partP, evSlice, bound, natOf, rowsOk, evIndexAddr, evIndex, evLen, evAppend, ownRows, elemsOf, acc, fillP, bin_add, bin_sub, bin_mul, bin_lss, bin_leq, bin_gtr, bin_geq, bin_eql, bin_neq, bin_and, bin_andNot, un_not, mm_max, mm_min, ofValue, ofCell, slotOf, resVal, resOne, resL, retOf, toDL, toD, sameStore, sameCells, PV.same, DV.same_self, sameRows_self, sameL_self, callIt, Tryz.aggT47, Tryz.szT47, cn]

theorem step_6 (t r s q : Int) (hs : s ≠ 3) (ht : 0 ≤ t ∧ t ≤ 900) (hr : 0 ≤ r ∧ r ≤ 900) : CallOk Tryz.prog 139 [cn t r s q, .d (.int .i64 6)] [] (stepV t r s q 6) [] := by
  have hT : wkT 6 t = t := by simp [wkT]
  have hR : wkR 6 r = r := by simp [wkR]
  have ev : stepV t r s q 6 = if t > 255 then cn 256 0 3 0 else cn (t) (r) (if max (t) (r) > 127 then 2 else 1) q := by simp only [stepV, hs, if_false, hT, hR]
  rw [ev]
  have he : Entry 6 (.nilFunc) false := .inr (.inr (.inr (.inr (.inr ⟨rfl, rfl, rfl⟩))))
  by_cases hb : t > 255
  · rw [if_pos hb]
    refine step_join he rfl (step_pre t r s q 6 hs) (by simp) rfl (st4 := ?s4) (st5 := ?s5) (st6 := ?s6) ?h2 ?h3 ?h4 ?h5
    case h2 =>
      simp [c49o, regOps, codeL, codeR, c49, Tryz.f139, evIdx, evCode, evOps, evOp, evWant, evCore, evPure, evCall, use, useL, useParts, opv, rd, putS, untake, moveIt, takes, af_nil, af_cons, appTmp, apartL, apartB, posOf, cellsOf, isBelowL, PV.isBelow, boxCells, isDataL, PV.isData, loadAs, loadS, storeS, storeAs, storedCells, oneP, PV.strip, PV.strip1, PV.keep0, evFieldAddr, evField, partP, evSlice, bound, natOf, rowsOk, evIndexAddr, evIndex, evLen, evAppend, ownRows, elemsOf, acc, fillP, bin_add, bin_sub, bin_mul, bin_lss, bin_leq, bin_gtr, bin_geq, bin_eql, bin_neq, bin_and, bin_andNot, un_not, mm_max, mm_min, ofValue, ofCell, slotOf, resVal, resOne, resL, retOf, toDL, toD, sameStore, sameCells, PV.same, DV.same_self, sameRows_self, sameL_self, callIt, E0P, cn]
      rfl
    case h3 =>
      simp [c49b, codeL, codeR, c49, Tryz.f139, evCode, evOps, evOp, evWant, evCore, evPure, evCall, use, useL, useParts, opv, rd, putS, untake, moveIt, takes, af_nil, af_cons, appTmp, apartL, apartB, posOf, cellsOf, isBelowL, PV.isBelow, boxCells, isDataL, PV.isData, loadAs, loadS, storeS, storeAs, storedCells, oneP, PV.strip, PV.strip1, PV.keep0, evFieldAddr, evField, partP, evSlice, bound, natOf, rowsOk, evIndexAddr, evIndex, evLen, evAppend, ownRows, elemsOf, acc, fillP, bin_add, bin_sub, bin_mul, bin_lss, bin_leq, bin_gtr, bin_geq, bin_eql, bin_neq, bin_and, bin_andNot, un_not, mm_max, mm_min, ofValue, ofCell, slotOf, resVal, resOne, resL, retOf, toDL, toD, sameStore, sameCells, PV.same, DV.same_self, sameRows_self, sameL_self, callIt, E0P, cn, E0ov]
      rfl
    case h4 =>
      simp [c49c, codeL, codeR, c49, Tryz.f139, evCode, evOps, evOp, evWant, evCore, evPure, evCall, use, useL, useParts, opv, rd, putS, untake, moveIt, takes, af_nil, af_cons, appTmp, apartL, apartB, posOf, cellsOf, isBelowL, PV.isBelow, boxCells, isDataL, PV.isData, loadAs, loadS, storeS, storeAs, storedCells, oneP, PV.strip, PV.strip1, PV.keep0, evFieldAddr, evField, partP, evSlice, bound, natOf, rowsOk, evIndexAddr, evIndex, evLen, evAppend, ownRows, elemsOf, acc, fillP, bin_add, bin_sub, bin_mul, bin_lss, bin_leq, bin_gtr, bin_geq, bin_eql, bin_neq, bin_and, bin_andNot, un_not, mm_max, mm_min, ofValue, ofCell, slotOf, resVal, resOne, resL, retOf, toDL, toD, sameStore, sameCells, PV.same, DV.same_self, sameRows_self, sameL_self, callIt, E0P, cn, Tryz.aggT47, Tryz.aggT3, Tryz.szT47, Tryz.szT3, Tryz.zeroT47, Tryz.placesOf47, Tryz.aggT190, Tryz.szT190, Tryz.zeroT190, Tryz.underlying47, Tryz.underlying190, E0ov, E0p72, E0r72, ev72, hb]
      rfl
    case h5 => simp [Tryz.f139, evCode, evOps, evOp, evWant, evCore, evPure, evCall, use, useL, useParts, opv, rd, putS, untake, moveIt, takes, af_nil, af_cons, appTmp, apartL, apartB, posOf, cellsOf, isBelowL, PV.isBelow, boxCells, isDataL, PV.isData, loadAs, loadS, storeS, storeAs, storedCells, oneP, PV.strip, PV.strip1, PV.keep0, evFieldAddr, evField, partP, evSlice, bound, natOf, rowsOk, evIndexAddr, evIndex, evLen, evAppend, ownRows, elemsOf, acc, fillP, bin_add, bin_sub, bin_mul, bin_lss, bin_leq, bin_gtr, bin_geq, bin_eql, bin_neq, bin_and, bin_andNot, un_not, mm_max, mm_min, ofValue, ofCell, slotOf, resVal, resOne, resL, retOf, toDL, toD, sameStore, sameCells, PV.same, DV.same_self, sameRows_self, sameL_self, callIt, Tryz.aggT47, Tryz.szT47, cn]
  · rw [if_neg hb]
    refine step_join he rfl (step_pre t r s q 6 hs) (by simp) rfl (st4 := ?u4) (st5 := ?u5) (st6 := ?u6) ?h2 ?h3 ?h4 ?h5
    case h2 =>
      simp [c49o, regOps, codeL, codeR, c49, Tryz.f139, evIdx, evCode, evOps, evOp, evWant, evCore, evPure, evCall, use, useL, useParts, opv, rd, putS, untake, moveIt, takes, af_nil, af_cons, appTmp, apartL, apartB, posOf, cellsOf, isBelowL, PV.isBelow, boxCells, isDataL, PV.isData, loadAs, loadS, storeS, storeAs, storedCells, oneP, PV.strip, PV.strip1, PV.keep0, evFieldAddr, evField, partP, evSlice, bound, natOf, rowsOk, evIndexAddr, evIndex, evLen, evAppend, ownRows, elemsOf, acc, fillP, bin_add, bin_sub, bin_mul, bin_lss, bin_leq, bin_gtr, bin_geq, bin_eql, bin_neq, bin_and, bin_andNot, un_not, mm_max, mm_min, ofValue, ofCell, slotOf, resVal, resOne, resL, retOf, toDL, toD, sameStore, sameCells, PV.same, DV.same_self, sameRows_self, sameL_self, callIt, E0P, cn]
      rfl
    case h3 =>
      simp [c49b, codeL, codeR, c49, Tryz.f139, evCode, evOps, evOp, evWant, evCore, evPure, evCall, use, useL, useParts, opv, rd, putS, untake, moveIt, takes, af_nil, af_cons, appTmp, apartL, apartB, posOf, cellsOf, isBelowL, PV.isBelow, boxCells, isDataL, PV.isData, loadAs, loadS, storeS, storeAs, storedCells, oneP, PV.strip, PV.strip1, PV.keep0, evFieldAddr, evField, partP, evSlice, bound, natOf, rowsOk, evIndexAddr, evIndex, evLen, evAppend, ownRows, elemsOf, acc, fillP, bin_add, bin_sub, bin_mul, bin_lss, bin_leq, bin_gtr, bin_geq, bin_eql, bin_neq, bin_and, bin_andNot, un_not, mm_max, mm_min, ofValue, ofCell, slotOf, resVal, resOne, resL, retOf, toDL, toD, sameStore, sameCells, PV.same, DV.same_self, sameRows_self, sameL_self, callIt, E0P, cn, E0ov]
      rfl
    case h4 =>
      simp [c49c, codeL, codeR, c49, Tryz.f139, evCode, evOps, evOp, evWant, evCore, evPure, evCall, use, useL, useParts, opv, rd, putS, untake, moveIt, takes, af_nil, af_cons, appTmp, apartL, apartB, posOf, cellsOf, isBelowL, PV.isBelow, boxCells, isDataL, PV.isData, loadAs, loadS, storeS, storeAs, storedCells, oneP, PV.strip, PV.strip1, PV.keep0, evFieldAddr, evField, partP, evSlice, bound, natOf, rowsOk, evIndexAddr, evIndex, evLen, evAppend, ownRows, elemsOf, acc, fillP, bin_add, bin_sub, bin_mul, bin_lss, bin_leq, bin_gtr, bin_geq, bin_eql, bin_neq, bin_and, bin_andNot, un_not, mm_max, mm_min, ofValue, ofCell, slotOf, resVal, resOne, resL, retOf, toDL, toD, sameStore, sameCells, PV.same, DV.same_self, sameRows_self, sameL_self, callIt, E0P, cn, Tryz.aggT47, Tryz.aggT3, Tryz.szT47, Tryz.szT3, Tryz.zeroT47, Tryz.placesOf47, Tryz.aggT190, Tryz.szT190, Tryz.zeroT190, Tryz.underlying47, Tryz.underlying190, E0ov, E0p72, E0r72, ev72, hb]
      rfl
    case h5 => simp [Tryz.f139, evCode, evOps, evOp, evWant, evCore, evPure, evCall, use, useL, useParts, opv, rd, putS, untake, moveIt, takes, af_nil, af_cons, appTmp, apartL, apartB, posOf, cellsOf, isBelowL, PV.isBelow, boxCells, isDataL, PV.isData, loadAs, loadS, storeS, storeAs, storedCells, oneP, PV.strip, PV.strip1, PV.keep0, evFieldAddr, evField, partP, evSlice, bound, natOf, rowsOk, evIndexAddr, evIndex, evLen, evAppend, ownRows, elemsOf, acc, fillP, bin_add, bin_sub, bin_mul, bin_lss, bin_leq, bin_gtr, bin_geq, bin_eql, bin_neq, bin_and, bin_andNot, un_not, mm_max, mm_min, ofValue, ofCell, slotOf, resVal, resOne, resL, retOf, toDL, toD, sameStore, sameCells, PV.same, DV.same_self, sameRows_self, sameL_self, callIt, Tryz.aggT47, Tryz.szT47, cn]

end Go.Proofs

set_option linter.unusedVariables false
set_option linter.unusedSimpArgs false
set_option maxRecDepth 100000
set_option maxHeartbeats 4000000
namespace Go.Proofs
open Go.Shelf Go.RowKit Go.Lib Go.Pv

theorem E0p40 : E0.pure 127 = true := rfl
theorem c40 (σ : Store) : callIt E0 (evI E0) 127 [] σ = some (cn 0 0 1 0, σ) := by
  refine call_run (fn := Tryz.f127) 5 rfl rfl rfl Tryz.func127 rfl rfl ?_ rfl
  simp [Tryz.f127, evCode, evOps, evOp, evWant, evCore, evPure, evCall, use, useL, useParts, opv, rd, putS, untake, moveIt, takes, af_nil, af_cons, appTmp, apartL, apartB, posOf, cellsOf, isBelowL, PV.isBelow, boxCells, isDataL, PV.isData, loadAs, loadS, storeS, storeAs, storedCells, oneP, PV.strip, PV.strip1, PV.keep0, evFieldAddr, evField, partP, evSlice, bound, natOf, rowsOk, evIndexAddr, evIndex, evLen, evAppend, ownRows, elemsOf, acc, fillP, bin_add, bin_sub, bin_mul, bin_lss, bin_leq, bin_gtr, bin_geq, bin_eql, bin_neq, bin_and, bin_andNot, un_not, mm_max, mm_min, ofValue, ofCell, slotOf, resVal, resOne, resL, retOf, toDL, toD, sameStore, sameCells, PV.same, DV.same_self, sameRows_self, sameL_self, E0P, cn, Tryz.aggT47, Tryz.aggT3, Tryz.szT47, Tryz.szT3, Tryz.zeroT47, Tryz.placesOf47, Tryz.underlying47]

theorem c70 (t r s q : Int) (hq : 0 ≤ q ∧ q ≤ 900) (σ : Store) : callIt E0 (evI E0) 184 [cn t r s q] σ = some (if q + 1 = 128 then cn 0 0 1 0 else cn t r s (q + 1), σ) := by
  have hw : IntKind.i64.wrap (q + 1) = q + 1 := by rw [IntWalk.i64_left]; unfold wrap64; omega
  have h40 := c40
  unfold cn at h40
  by_cases h : q + 1 = 128
  · rw [if_pos h]
    refine call_run (fn := Tryz.f184) 5 rfl rfl rfl Tryz.func184 rfl rfl ?_ rfl
    have hw8 : IntKind.i64.wrap (q + 1) = 128 := hw.trans h
    simp [Tryz.f184, evCode, evOps, evOp, evWant, evCore, evPure, evCall, use, useL, useParts, opv, rd, putS, untake, moveIt, takes, af_nil, af_cons, appTmp, apartL, apartB, posOf, cellsOf, isBelowL, PV.isBelow, boxCells, isDataL, PV.isData, loadAs, loadS, storeS, storeAs, storedCells, oneP, PV.strip, PV.strip1, PV.keep0, evFieldAddr, evField, partP, evSlice, bound, natOf, rowsOk, evIndexAddr, evIndex, evLen, evAppend, ownRows, elemsOf, acc, fillP, bin_add, bin_sub, bin_mul, bin_lss, bin_leq, bin_gtr, bin_geq, bin_eql, bin_neq, bin_and, bin_andNot, un_not, mm_max, mm_min, ofValue, ofCell, slotOf, resVal, resOne, resL, retOf, toDL, toD, sameStore, sameCells, PV.same, DV.same_self, sameRows_self, sameL_self, E0P, cn, Tryz.aggT47, Tryz.aggT3, Tryz.szT47, Tryz.szT3, Tryz.zeroT47, Tryz.placesOf47, Tryz.underlying47, hw8, h40]
  · rw [if_neg h]
    refine call_run (fn := Tryz.f184) 5 rfl rfl rfl Tryz.func184 rfl rfl ?_ rfl
    simp [Tryz.f184, evCode, evOps, evOp, evWant, evCore, evPure, evCall, use, useL, useParts, opv, rd, putS, untake, moveIt, takes, af_nil, af_cons, appTmp, apartL, apartB, posOf, cellsOf, isBelowL, PV.isBelow, boxCells, isDataL, PV.isData, loadAs, loadS, storeS, storeAs, storedCells, oneP, PV.strip, PV.strip1, PV.keep0, evFieldAddr, evField, partP, evSlice, bound, natOf, rowsOk, evIndexAddr, evIndex, evLen, evAppend, ownRows, elemsOf, acc, fillP, bin_add, bin_sub, bin_mul, bin_lss, bin_leq, bin_gtr, bin_geq, bin_eql, bin_neq, bin_and, bin_andNot, un_not, mm_max, mm_min, ofValue, ofCell, slotOf, resVal, resOne, resL, retOf, toDL, toD, sameStore, sameCells, PV.same, DV.same_self, sameRows_self, sameL_self, E0P, cn, Tryz.aggT47, Tryz.aggT3, Tryz.szT47, Tryz.szT3, Tryz.zeroT47, Tryz.placesOf47, Tryz.underlying47, hw, h]
theorem step_off (t r q what : Int) (hq : 0 ≤ q ∧ q ≤ 900) : CallOk Tryz.prog 139 [cn t r 3 q, .d (.int .i64 what)] [] (stepV t r 3 q what) [] := by
  have hv : (stepV t r 3 q what).isData = true := by unfold stepV cn; split <;> (try split) <;> (try split) <;> rfl
  have key : ∃ σ', evI E0 139 [cn t r 3 q, .d (.int .i64 what)] [] = some (stepV t r 3 q what, σ') := by
    by_cases h6 : what = 6
    · subst h6
      have h70 := c70 t r 3 q hq
      have ev : stepV t r 3 q 6 = if q + 1 = 128 then cn 0 0 1 0 else cn t r 3 (q + 1) := by simp [stepV]
      rw [ev]
      by_cases h : q + 1 = 128
      · rw [if_pos h]
        simp only [if_pos h] at h70
        unfold cn at h70
        refine evI_ex (fn := Tryz.f139) 5 rfl Tryz.func139 rfl ?_
        simp [Tryz.f139, evCode, evOps, evOp, evWant, evCore, evPure, evCall, use, useL, useParts, opv, rd, putS, untake, moveIt, takes, af_nil, af_cons, appTmp, apartL, apartB, posOf, cellsOf, isBelowL, PV.isBelow, boxCells, isDataL, PV.isData, loadAs, loadS, storeS, storeAs, storedCells, oneP, PV.strip, PV.strip1, PV.keep0, evFieldAddr, evField, partP, evSlice, bound, natOf, rowsOk, evIndexAddr, evIndex, evLen, evAppend, ownRows, elemsOf, acc, fillP, bin_add, bin_sub, bin_mul, bin_lss, bin_leq, bin_gtr, bin_geq, bin_eql, bin_neq, bin_and, bin_andNot, un_not, mm_max, mm_min, ofValue, ofCell, slotOf, resVal, resOne, resL, retOf, toDL, toD, sameStore, sameCells, PV.same, DV.same_self, sameRows_self, sameL_self, E0P, cn, Tryz.aggT47, Tryz.aggT3, Tryz.szT47, Tryz.szT3, Tryz.zeroT47, Tryz.placesOf47, Tryz.underlying47, h70]
      · rw [if_neg h]
        simp only [if_neg h] at h70
        unfold cn at h70
        refine evI_ex (fn := Tryz.f139) 5 rfl Tryz.func139 rfl ?_
        simp [Tryz.f139, evCode, evOps, evOp, evWant, evCore, evPure, evCall, use, useL, useParts, opv, rd, putS, untake, moveIt, takes, af_nil, af_cons, appTmp, apartL, apartB, posOf, cellsOf, isBelowL, PV.isBelow, boxCells, isDataL, PV.isData, loadAs, loadS, storeS, storeAs, storedCells, oneP, PV.strip, PV.strip1, PV.keep0, evFieldAddr, evField, partP, evSlice, bound, natOf, rowsOk, evIndexAddr, evIndex, evLen, evAppend, ownRows, elemsOf, acc, fillP, bin_add, bin_sub, bin_mul, bin_lss, bin_leq, bin_gtr, bin_geq, bin_eql, bin_neq, bin_and, bin_andNot, un_not, mm_max, mm_min, ofValue, ofCell, slotOf, resVal, resOne, resL, retOf, toDL, toD, sameStore, sameCells, PV.same, DV.same_self, sameRows_self, sameL_self, E0P, cn, Tryz.aggT47, Tryz.aggT3, Tryz.szT47, Tryz.szT3, Tryz.zeroT47, Tryz.placesOf47, Tryz.underlying47, h70]
    · have ev : stepV t r 3 q what = cn t r 3 q := by simp [stepV, h6]
      rw [ev]
      refine evI_ex (fn := Tryz.f139) 5 rfl Tryz.func139 rfl ?_
      simp [Tryz.f139, evCode, evOps, evOp, evWant, evCore, evPure, evCall, use, useL, useParts, opv, rd, putS, untake, moveIt, takes, af_nil, af_cons, appTmp, apartL, apartB, posOf, cellsOf, isBelowL, PV.isBelow, boxCells, isDataL, PV.isData, loadAs, loadS, storeS, storeAs, storedCells, oneP, PV.strip, PV.strip1, PV.keep0, evFieldAddr, evField, partP, evSlice, bound, natOf, rowsOk, evIndexAddr, evIndex, evLen, evAppend, ownRows, elemsOf, acc, fillP, bin_add, bin_sub, bin_mul, bin_lss, bin_leq, bin_gtr, bin_geq, bin_eql, bin_neq, bin_and, bin_andNot, un_not, mm_max, mm_min, ofValue, ofCell, slotOf, resVal, resOne, resL, retOf, toDL, toD, sameStore, sameCells, PV.same, DV.same_self, sameRows_self, sameL_self, E0P, cn, Tryz.aggT47, Tryz.aggT3, Tryz.szT47, Tryz.szT3, Tryz.zeroT47, Tryz.placesOf47, Tryz.underlying47, h6]
  obtain ⟨σ', h⟩ := key
  exact (evI_ok E0_ok 139 _ _ _ _ h).1.drop hv

/-- count.Step, of counters that are not out of all bounds, and deeds that there are. -/
theorem Tryz.stepOk (t r s q what : Int) (ht : 0 ≤ t ∧ t ≤ 900) (hr : 0 ≤ r ∧ r ≤ 900) (hq : 0 ≤ q ∧ q ≤ 900) (hw : 1 ≤ what ∧ what ≤ 6) : CallOk Tryz.prog 139 [cn t r s q, .d (.int .i64 what)] [] (stepV t r s q what) [] := by
  by_cases hs : s = 3
  · subst hs; exact step_off t r q what hq
  have : what = 1 ∨ what = 2 ∨ what = 3 ∨ what = 4 ∨ what = 5 ∨ what = 6 := by omega
  rcases this with rfl | rfl | rfl | rfl | rfl | rfl
  · exact step_1 t r s q hs ht hr
  · exact step_2 t r s q hs ht hr
  · exact step_3 t r s q hs ht hr
  · exact step_4 t r s q hs ht hr
  · exact step_5 t r s q hs ht hr
  · exact step_6 t r s q hs ht hr

end Go.Proofs

