/- slices.Delete of one element, at elements of any number of cells; Laws by which the evaluator is run on symbols. -/
import Derived.Test.YtnnindnmpfmaaaaGreatEv4
import Derived.Deep.RegionLaw
import Derived.Lib.SlicesDelete
import Derived.Lib.LazyBuf
import Derived.Deep.MidRow
import Derived.Sort.WalkB12
set_option linter.unusedVariables false
set_option linter.unusedSimpArgs false
namespace Go.Proofs
open Go.Shelf Go.RowKit Go.Lib Go.Pv Go.Sort
variable {P : Program} {ρ : Ren}

theorem run_clear_rows (w : World) (t e ty : TypeId) (z : Value) (ht : P.underlying t = some (.slice e)) (hv : ∀ w, (zeroValue e).run P w = .ok z w) (b o c : Nat) (h1 : ∀ u ∈ (Builtin.zeroCells z.cells 1).toList, u.oneCell' = true)
    (hc : ∀ j, j < (Builtin.zeroCells z.cells 1).toList.length → (w.cell? ⟨b, o + j, none⟩).isSome = true) (hf : ∀ j, j < (Builtin.zeroCells z.cells 1).toList.length → w.frozen? ⟨b, o + j, none⟩ = false) :
    (Builtin.clear_ #[t] ty #[.slice (some ⟨b, o, none⟩) 1 c]).run P w = .ok (.tuple #[]) (w.setCells b o (Builtin.zeroCells z.cells 1).toList) := by
  have hst := run_storeCells_cells (P := P) b o (Builtin.zeroCells z.cells 1).toList 0 w (by simpa using hc) (by simpa using hf) h1
  simp only [Nat.add_zero] at hst
  simp [Builtin.clear_, run_underlying ht, hv, hst]

set_option maxHeartbeats 4000000 in
set_option maxRecDepth 1000000 in
/-- slices.Delete(s, i, i+1): the elements move down by one in place. -/
theorem delete_one (L : SlLaysE0.n45 P ρ) (k : Nat) (hk : 0 < k) (i0 : TypeInfo) (hi0 : P.info? (ρ.t 23) = some i0) (hz1 : i0.size = k) (z : Value) (v23 : ∀ w, (zeroValue (ρ.t 23)).run P w = .ok z w) (hzk : z.cells.size = k)
    (hz1c : ∀ u ∈ (Builtin.zeroCells z.cells 1).toList, u.oneCell' = true) (z23 : ∀ w, (Go.sizeOf (ρ.t 23)).run P w = .ok k w)
    (blk cap n i j : Nat) (news : List Value) (w : World) (hl : news.length = n * k) (hcell : ∀ j u, news[j]? = some u → w.cell? ⟨blk, j, none⟩ = some u) (hfz : ∀ j, j < n * k → w.frozen? ⟨blk, j, none⟩ = false)
    (h1 : ∀ u ∈ news, u.oneCell' = true) (hn : n ≤ cap) (hm : cap ≤ 9223372036854775807) (hij : j = i + 1) (hi : i < n) :
    Calls P (ρ.f 45) #[.slice (some ⟨blk, 0, none⟩) n cap, .int .i64 i, .int .i64 j] w fun e w' => e = .returned (.slice (some ⟨blk, 0, none⟩) (n - 1) cap) ∧
      ∃ zc, zc.length = k ∧ w' = (w.drew.setCells blk (i * k) (news.drop (j * k))).setCells blk ((n - 1) * k) zc := by
  have mixed := L.mixed; have t0 := L.t0; have a0 := L.a0; have z0 := L.z0; have v0 := L.v0; have t3 := L.t3; have a3 := L.a3; have z3 := L.z3; have v3 := L.v3; have t4 := L.t4; have a4 := L.a4; have z4 := L.z4; have v4 := L.v4; have t22 := L.t22; have a22 := L.a22; have z22 := L.z22; have v22 := L.v22
  have hzl : (Builtin.zeroCells z.cells 1).toList.length = k := by simp [Builtin.zeroCells, hzk]
  have hlen : (news.drop (j * k)).length = (n - j) * k := by rw [List.length_drop, hl, Nat.sub_mul]
  have hik : i * k + k ≤ n * k := by have := Nat.mul_le_mul_right k (show i + 1 ≤ n by omega); rw [Nat.add_mul, Nat.one_mul] at this; exact this
  have hnk : (n - 1) * k + k = n * k := by rw [Nat.sub_mul, Nat.one_mul]; have : k ≤ n * k := Nat.le_mul_of_pos_left k (by omega); omega
  have hik1 : j * k = i * k + k := by rw [hij, Nat.add_mul, Nat.one_mul]
  have hsome : ∀ j, j < n * k → (w.cell? ⟨blk, j, none⟩).isSome = true := fun j hj => by rw [hcell j _ (List.getElem?_eq_getElem (by omega))]; rfl
  obtain ⟨A, hA, hsrc⟩ : ∃ A : Addr, (if cap = j then some (⟨blk, 0, none⟩ : Addr) else some ⟨blk, j * k, none⟩) = some A ∧ Hid (∀ t u, (news.drop (j * k))[t]? = some u → w.drew.cell? (A.add t) = some u) := by
    by_cases h : cap = j
    · refine ⟨⟨blk, 0, none⟩, by simp [h], fun t u hu => ?_⟩
      have h0 : (news.drop (j * k)).length = 0 := by rw [hlen, show n - j = 0 by omega, Nat.zero_mul]
      rw [List.length_eq_zero_iff.1 h0] at hu
      simp at hu
    · refine ⟨⟨blk, j * k, none⟩, by simp [h], fun t u hu => ?_⟩
      rw [List.getElem?_drop] at hu
      rw [Addr.add_lit]
      exact hcell _ _ hu
  have s1 : Hid ((news.drop (j * k)).length = (n - j) * k) := hlen
  have s2 : Hid (∀ u ∈ news.drop (j * k), u.oneCell' = true) := fun u hu => h1 u (List.mem_of_mem_drop hu)
  have s3 : Hid (∀ t, t < (news.drop (j * k)).length → (w.drew.cell? ⟨blk, 0 + i * k + t, none⟩).isSome = true ∧ w.drew.frozen? ⟨blk, 0 + i * k + t, none⟩ = false) := by
    intro t ht
    rw [hlen, Nat.sub_mul] at ht
    rw [Nat.zero_add]
    exact ⟨hsome _ (by omega), hfz _ (by omega)⟩
  obtain ⟨W1, hW1⟩ : ∃ W1, W1 = w.drew.setCells blk (0 + i * k) (news.drop (j * k)) := ⟨_, rfl⟩
  obtain ⟨zc, hzc⟩ : ∃ zc, zc = (Builtin.zeroCells z.cells 1).toList := ⟨_, rfl⟩
  have hcl : ∀ ty c, (Builtin.clear_ #[ρ.t 22] ty #[.slice (some ⟨blk, (i + (n - j)) * k, none⟩) (n - (i + (n - j))) c]).run P W1 = .ok (.tuple #[]) (W1.setCells blk ((i + (n - j)) * k) zc) := by
    intro ty c
    rw [show i + (n - j) = n - 1 by omega, show n - (n - 1) = 1 by omega]
    rw [hzc]
    refine run_clear_rows W1 _ _ ty _ t22 v23 blk _ _ hz1c (fun j hj => ?_) (fun j hj => ?_)
    · rw [hzl] at hj
      rw [hW1]
      exact World.isSome_setCells _ _ _ _ _ (hsome _ (by omega))
    · rw [hzl] at hj
      rw [hW1, World.frozen?_setCells]
      exact hfz _ (by omega)
  have hzl' : zc.length = k := by rw [hzc]; exact hzl
  have hW : Hid (W1 = w.drew.setCells blk (0 + i * k) (news.drop (j * k))) := hW1
  have X : Aside (W1 = w.drew.setCells blk (0 + i * k) (news.drop (j * k))) := hW1
  have hic : i ≤ cap := by omega
  have hjc : j ≤ cap := by omega
  have hlt : i < j := by omega
  have hjn : j ≤ n := by omega
  have XJ : Aside (j = i + 1) := hij
  clear hW1 hcell hsome hfz h1 hlen hij hik1 hik hnk hzc hzl hz1c v23 hzk
  obtain ⟨_, _, FG⟩ := L.f45
  go_enter FG, SlBodyN.n45_ntmps ρ
  go_wp2_with fail
  go_region_law_o (refine step_append_room rfl (.tmp 22) (.tmp 25) (ρ.t 22) rfl (ρ.t 23) i0 k t22 hi0 hz1 blk 0 i cap (by simp [Act.eval, Act.put]) A (n - j) (cap - j) (news.drop (j * k)) (by simp [Act.eval, Act.put]) s1.out hsrc.out s2.out (by omega) s3.out ?_; rw [← hW.out])
  go_wp2
  go_ret
  refine ⟨by rw [show n - 1 = i + (n - j) by have := XJ.out; omega]; rfl, zc, hzl', ?_⟩
  have hX := X.out
  rw [Nat.zero_add] at hX
  rw [hX, show i + (n - j) = n - 1 by have := XJ.out; omega]
end Go.Proofs

set_option linter.unusedVariables false
set_option linter.unusedSimpArgs false
namespace Go.Pv
open Go

section bin
variable {P : Program} {t : TypeId} {k : IntKind} {a b : Int}

theorem bin_add : evBin P .add t (.d (.int .i64 a)) (.d (.int .i64 b)) = some (.d (.int .i64 (IntKind.i64.wrap (a + b)))) := rfl
theorem bin_sub : evBin P .sub t (.d (.int .i64 a)) (.d (.int .i64 b)) = some (.d (.int .i64 (IntKind.i64.wrap (a - b)))) := rfl
theorem bin_mul : evBin P .mul t (.d (.int .i64 a)) (.d (.int .i64 b)) = some (.d (.int .i64 (IntKind.i64.wrap (a * b)))) := rfl
theorem bin_lss : evBin P .lss t (.d (.int .i64 a)) (.d (.int .i64 b)) = some (.d (.bool (decide (a < b)))) := rfl
theorem bin_leq : evBin P .leq t (.d (.int .i64 a)) (.d (.int .i64 b)) = some (.d (.bool (decide (a ≤ b)))) := rfl
theorem bin_gtr : evBin P .gtr t (.d (.int .i64 a)) (.d (.int .i64 b)) = some (.d (.bool (decide (a > b)))) := rfl
theorem bin_geq : evBin P .geq t (.d (.int .i64 a)) (.d (.int .i64 b)) = some (.d (.bool (decide (a ≥ b)))) := rfl
theorem bin_eql : evBin P .eql t (.d (.int .i64 a)) (.d (.int .i64 b)) = some (.d (.bool (a == b))) := rfl
theorem bin_neq : evBin P .neq t (.d (.int .i64 a)) (.d (.int .i64 b)) = some (.d (.bool (a != b))) := rfl
theorem bin_shr (hb : 0 ≤ b) : evBin P .shr t (.d (.int .i64 a)) (.d (.int .i64 b)) = some (.d (.int .i64 (a.fdiv (2 ^ (min b.toNat 64))))) := by
  have : ¬ b < 0 := by omega
  show (pureRun P (if b < 0 then _ else _)).bind ofScalar = _
  rw [if_neg this]
  rfl
theorem bin_and : evBin P .and t (.d (.int .i64 a)) (.d (.int .i64 b)) = some (.d (.int .i64 (IntKind.i64.wrap (BitVec.ofInt 64 a &&& BitVec.ofInt 64 b).toNat))) := rfl
theorem bin_andNot : evBin P .andNot t (.d (.int .i64 a)) (.d (.int .i64 b)) = some (.d (.int .i64 (IntKind.i64.wrap (BitVec.ofInt 64 a &&& ~~~ BitVec.ofInt 64 b).toNat))) := rfl
theorem un_not {x : Bool} : (toV (.d (.bool x))).bind (fun a => (pureRun P (Op.unary .not a)).bind ofScalar) = some (.d (.bool (!x))) := rfl
theorem mm_max : evMinMax P true [.d (.int .i64 a), .d (.int .i64 b)] = some (.d (.int .i64 (max a b))) := by
  rw [show max a b = if b > a then b else a by split <;> omega]
  rfl
theorem mm_min : evMinMax P false [.d (.int .i64 a), .d (.int .i64 b)] = some (.d (.int .i64 (min a b))) := by
  rw [show min a b = if b < a then b else a by split <;> omega]
  rfl
end bin

theorem af_nil : appendFirst [] = [] := rfl
theorem af_cons (o : Oper) (l : List Oper) : appendFirst (o :: l) = match appTmp o with | some d => d :: appendFirst l | none => appendFirst l := by
  unfold appendFirst
  rw [List.filterMap_cons]
  cases appTmp o <;> rfl

/-! #### The same evaluator, in a form that simp does not carry through what is still to come -/

def wantD (dsts : List (Option Tmp)) (g : Option (Nat × Bool)) (ρ : Nat → PV) : Option Bool :=
  match g with
  | none => some true
  | some (j, want) =>
    match (dsts[j]?).bind id with
    | none => some false
    | some s => match ρ s with
      | .d (.bool b) => some (b == want)
      | .undef => some false
      | _ => none

noncomputable def coreD (E : Env) (F : FnEv) (aps : List Nat) (o : Oper) (st : St) : Option Bool → Option St
  | some true => (evCore E F aps o.dst o.op (rd st.slots) st.store).map fun g => { slots := putS (untake st.slots g.2.1) o.dst g.1, store := g.2.2 }
  | some false => some { st with slots := putS st.slots o.dst .undef }
  | none => none

noncomputable def evOpsD (E : Env) (F : FnEv) (aps : List Nat) (dsts : List (Option Tmp)) : List Oper → Option St → Option St
  | [], r => r
  | _ :: _, none => none
  | o :: os, some st => evOpsD E F aps dsts os (coreD E F aps o st (wantD dsts o.guard (rd st.slots)))

theorem evOpsD_none {E : Env} {F : FnEv} {aps : List Nat} {dsts : List (Option Tmp)} (l : List Oper) : evOpsD E F aps dsts l none = none := by cases l <;> rfl

theorem evOps_D {E : Env} {F : FnEv} {ops : Array Oper} : ∀ (l : List Oper) (st : St), evOps E F ops l st = evOpsD E F (appendFirst ops.toList) (ops.toList.map (·.dst)) l (some st)
  | [], st => rfl
  | o :: os, st => by
    have hw : wantD (ops.toList.map (·.dst)) o.guard (rd st.slots) = evWant ops o (rd st.slots) := by
      unfold wantD evWant
      cases o.guard with
      | none => rfl
      | some g =>
        obtain ⟨j, want⟩ := g
        simp only [List.getElem?_map, Array.getElem?_toList]
        cases ops[j]? <;> rfl
    simp only [evOps, evOpsD, hw]
    unfold evOp
    cases evWant ops o (rd st.slots) with
    | none => simp [coreD, evOpsD_none]
    | some b =>
      cases b with
      | true =>
        simp only [Option.bind_some, if_true, coreD]
        cases evCore E F (appendFirst ops.toList) o.dst o.op (rd st.slots) st.store with
        | none => simp [evOpsD_none]
        | some g => simp only [Option.map_some, Option.bind_some]; exact evOps_D os _
      | false =>
        simp only [Option.bind_some, Bool.false_eq_true, if_false, coreD]
        exact evOps_D os _

def regN : Option St → Option (Ex × St)
  | some st => some (.normal, st)
  | none => none

/-- Two orders. -/
noncomputable def altE (ops : Array Oper) (st : St) : Option St → Option St → Option (Ex × St)
  | some s1, some s2 => if swOk st.store.length st.store (ops.toList.flatMap (writesOf (appendFirst ops.toList))) s1 s2 then some (.normal, s1) else none
  | _, _ => none

noncomputable def altD (E : Env) (F : FnEv) (ops : Array Oper) (st : St) : Option (List Nat × Nat × Nat) → Option St → Option (Ex × St)
  | none, r => regN r
  | some x, r => altE ops st r (evOpsD E F (appendFirst ops.toList) (ops.toList.map (·.dst)) (listed ops x.1) (some st))

noncomputable def evSeq (E : Env) (F : FnEv) (k : Nat) (b : Code) : Option (Ex × St) → Option (Ex × St)
  | some (.normal, st) => evCode E F k b st
  | r => r

noncomputable def evIf (E : Env) (F : FnEv) (k : Nat) (x y : Code) (st : St) : Option PV → Option (Ex × St)
  | some (.d (.bool true)) => evCode E F k x st
  | some (.d (.bool false)) => evCode E F k y st
  | _ => none

section eqs
variable {E : Env} {F : FnEv} {k : Nat}
theorem ec_region {id : Nat} {ops : Array Oper} {draw : Bool} {st : St} : evCode E F k (.region id ops draw) st = if draw && !apartL (rd st.slots) (E.apart (posOf ops) ops.size) then none else altD E F ops st (if draw = true then E.alt (posOf ops) ops.size else none) (evOpsD E F (appendFirst ops.toList) (ops.toList.map (·.dst)) ops.toList (some st)) := by
  simp only [evCode, evOps_D]
  split
  · rfl
  · generalize (if draw = true then E.alt (posOf ops) ops.size else none) = al
    cases al with
    | none =>
      simp only [altD]
      cases evOpsD E F (appendFirst ops.toList) (ops.toList.map (·.dst)) ops.toList (some st) <;> rfl
    | some x =>
      simp only [altD]
      cases evOpsD E F (appendFirst ops.toList) (ops.toList.map (·.dst)) ops.toList (some st) with
      | none => rfl
      | some s1 =>
        simp only [Option.bind_some, evAlt, evOps_D]
        cases evOpsD E F (appendFirst ops.toList) (ops.toList.map (·.dst)) (listed ops x.1) (some st) <;> rfl
theorem ec_seq {a b : Code} {st : St} : evCode E F k (.seq a b) st = evSeq E F k b (evCode E F k a st) := by
  simp only [evCode]
  cases evCode E F k a st with
  | none => rfl
  | some r => obtain ⟨e, s⟩ := r; cases e <;> rfl
theorem ec_cond {c : Operand} {x y : Code} {st : St} : evCode E F k (.cond c x y) st = evIf E F k x y st (use (rd st.slots) c) := by
  simp only [evCode]
  cases use (rd st.slots) c with
  | none => rfl
  | some p =>
    simp only [Option.bind_some]
    cases p with
    | d x => cases x with
      | bool b => cases b <;> rfl
      | _ => rfl
    | _ => rfl
theorem ec_skip {st : St} : evCode E F k .skip st = some (.normal, st) := rfl
theorem ec_scope {b : Code} {st : St} : evCode E F k (.scope b) st = evCode E F k b st := rfl
theorem ec_label {l : Nat} {st : St} : evCode E F k (.label l) st = some (.normal, st) := rfl
theorem ec_exit {id : Nat} {st : St} : evCode E F k (.exit id) st = some (.exit id, st) := rfl
theorem ec_ret {st : St} : evCode E F k .ret st = some (.ret, st) := rfl
theorem ec_block {id : Nat} {b : Code} {st : St} : evCode E F k (.block id b) st = (evCode E F k b st).map fun r => if r.1 = .exit id then (.normal, r.2) else r := rfl
theorem seq_normal {b : Code} {st : St} : evSeq E F k b (some (.normal, st)) = evCode E F k b st := rfl
theorem seq_ret {b : Code} {st : St} : evSeq E F k b (some (.ret, st)) = some (.ret, st) := rfl
theorem seq_exit {b : Code} {st : St} {id : Nat} : evSeq E F k b (some (.exit id, st)) = some (.exit id, st) := rfl
theorem if_t {x y : Code} {st : St} : evIf E F k x y st (some (.d (.bool true))) = evCode E F k x st := rfl
theorem if_f {x y : Code} {st : St} : evIf E F k x y st (some (.d (.bool false))) = evCode E F k y st := rfl
end eqs

/-- A function's body, run. -/
theorem evI_run {E : Env} {f : FuncId} {fn : Func} {c : Code} {args : List PV} {σ σ' : Store} {v : PV} (m : Nat) (hg : E.good f = true) (hf : E.P.funcs[f]? = some fn) (hb : fn.body = some c)
    (h : ((evCode E (evI E) m c ⟨args ++ List.replicate (fn.ntmps - args.length) .undef, σ⟩).bind fun r => if r.1 = .normal ∨ r.1 = .ret then (resVal E.P fn r.2).map fun v => (v, r.2.store) else none) = some (v, σ')) (hw : E.wild f = false := by rfl) : evI E f args σ = some (v, σ') := by
  cases hc : evCode E (evI E) m c ⟨args ++ List.replicate (fn.ntmps - args.length) .undef, σ⟩ with
  | none => simp [hc] at h
  | some r =>
    obtain ⟨e, st'⟩ := r
    simp only [hc, Option.bind_some] at h
    split at h
    · rename_i he
      cases hv : resVal E.P fn st' with
      | none => simp [hv] at h
      | some u =>
        simp [hv] at h
        obtain ⟨rfl, rfl⟩ := h
        exact evI_intro m hg hw hf hb hc he hv
    · cases h

/-- The same, of a function of data called. -/
theorem call_run {E : Env} {f : FuncId} {fn : Func} {c : Code} {args : List PV} {σ : Store} {v : PV} (m : Nat) (hg : E.good f = true) (ho : E.ov f = none) (hp : E.pure f = true) (hf : E.P.funcs[f]? = some fn) (hb : fn.body = some c) (hd : isDataL args = true)
    (h : ((evCode E (evI E) m c ⟨args ++ List.replicate (fn.ntmps - args.length) .undef, []⟩).bind fun r => if r.1 = .normal ∨ r.1 = .ret then resVal E.P fn r.2 else none) = some v) (hv : v.isData = true) (hw : E.wild f = false := by rfl) (hx : E.ext E.loose f = none := by rfl) : callIt E (evI E) f args σ = some (v, σ) := by
  cases hc : evCode E (evI E) m c ⟨args ++ List.replicate (fn.ntmps - args.length) .undef, []⟩ with
  | none => simp [hc] at h
  | some r =>
    obtain ⟨e, st'⟩ := r
    simp only [hc, Option.bind_some] at h
    split at h
    · rename_i he
      have := evI_intro m hg hw hf hb hc he h
      simp [callIt, hx, ho, hp, hd, this, hv]
    · cases h

end Go.Pv

