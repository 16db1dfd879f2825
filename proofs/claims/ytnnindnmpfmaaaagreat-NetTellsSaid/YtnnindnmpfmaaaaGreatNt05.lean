/- slices.Delete of one element, at elements of any number of cells; Laws by which the evaluator is run on symbols; A law's row out of its call; Which of the seat's functions are run, which touch no box, which only read; Overrides of the seat of nodes: slices.Clone, node.without; Overrides of the seat of nodes: bits.Put; Overrides of the seat of nodes: count.Step; Overrides of the seat of nodes: the region of count.Step in which a table of functions is laid and asked; Overrides of the seat of nodes: count.Step; Overrides of the seat of nodes: count.Step, whole; Overrides of the seat of nodes: count.Step, its contract. -/
import Derived.Test.YtnnindnmpfmaaaaGreatNt04
import Derived.Deep.RegionLaw
import Derived.Lib.SlicesDelete
import Derived.Lib.LazyBuf
import Derived.Deep.MidRow
import Derived.Sort.WalkB12
import Derived.Below
import Derived.SizedLaws
import Derived.WalkKit
import Derived.Test.YtnnindnmpfmaaaaGreatChecked
import Derived.RangeFuncBox
import Derived.RangeFuncLeaves
import Derived.Shelf.Abstract
import Derived.OwnWalkIn
import Derived.TacticsInMore
import Derived.LoopNIn
import Derived.LoopIn
import Derived.Maps.AppendAt
import Derived.RegionTactic
import Derived.ChangeAlike
import Derived.RangeFuncRecord
set_option linter.unusedVariables false
set_option linter.unusedSimpArgs false
namespace Go.Proofs
open Go.Shelf Go.RowKit Go.Lib Go.Pv Go.Sort
variable {P : Program} {ρ : Ren}
theorem run_clear_rows (w : World) (t e ty : TypeId) (z : Value) (ht : P.underlying t = some (.slice e)) (hv : ∀ w, (zeroValue e).run P w = .ok z w) (b o c : Nat) (h1 : ∀ u ∈ (Builtin.zeroCells z.cells 1).toList, u.oneCell' = true)
    (hc : ∀ j, j < (Builtin.zeroCells z.cells 1).toList.length → (w.cell? ⟨b, o + j, none⟩).isSome = true) (hf : ∀ j, j < (Builtin.zeroCells z.cells 1).toList.length → w.frozen? ⟨b, o + j, none⟩ = false) :
    (Builtin.clear_ #[t] ty #[.slice (some ⟨b, o, none⟩) 1 c]).run P w = .ok (.tuple #[]) (w.setCells b o (Builtin.zeroCells z.cells 1).toList) := by
  have hst := run_storeCells_cells (P := P) b o (Builtin.zeroCells z.cells 1).toList 0 w (by simpa using hc) (by simpa using hf) h1
  simp only [Nat.add_zero] at hst
  simp [Builtin.clear_, run_underlying ht, hv, hst]
set_option maxHeartbeats 4000000 in
set_option maxRecDepth 1000000 in
theorem delete_one (L : SlLaysE0.n45 P ρ) (k : Nat) (hk : 0 < k) (i0 : TypeInfo) (hi0 : P.info? (ρ.t 23) = some i0) (hz1 : i0.size = k) (z : Value) (v23 : ∀ w, (zeroValue (ρ.t 23)).run P w = .ok z w) (hzk : z.cells.size = k)
    (hz1c : ∀ u ∈ (Builtin.zeroCells z.cells 1).toList, u.oneCell' = true) (z23 : ∀ w, (Go.sizeOf (ρ.t 23)).run P w = .ok k w)
    (blk cap n i j : Nat) (news : List Value) (w : World) (hl : news.length = n * k) (hcell : ∀ j u, news[j]? = some u → w.cell? ⟨blk, j, none⟩ = some u) (hfz : ∀ j, j < n * k → w.frozen? ⟨blk, j, none⟩ = false)
    (h1 : ∀ u ∈ news, u.oneCell' = true) (hn : n ≤ cap) (hm : cap ≤ 9223372036854775807) (hij : j = i + 1) (hi : i < n) :
    Calls P (ρ.f 45) #[.slice (some ⟨blk, 0, none⟩) n cap, .int .i64 i, .int .i64 j] w fun e w' => e = .returned (.slice (some ⟨blk, 0, none⟩) (n - 1) cap) ∧
      ∃ zc, zc.length = k ∧ w' = (w.drew.setCells blk (i * k) (news.drop (j * k))).setCells blk ((n - 1) * k) zc := by
  have mixed := L.mixed; have t0 := L.t0; have a0 := L.a0; have z0 := L.z0; have v0 := L.v0; have t3 := L.t3; have a3 := L.a3; have z3 := L.z3; have v3 := L.v3; have t4 := L.t4; have a4 := L.a4; have z4 := L.z4; have v4 := L.v4; have t22 := L.t22; have a22 := L.a22; have z22 := L.z22; have v22 := L.v22
  have hzl : (Builtin.zeroCells z.cells 1).toList.length = k := by simp [Builtin.zeroCells, hzk]
  have hlen : (news.drop (j * k)).length = (n - j) * k := by rw [List.length_drop, hl, Nat.sub_mul]
  have hik : i * k + k ≤ n * k := by have := Nat.mul_le_mul_right k (show i + 1 ≤ n by omega); rw [Nat.add_mul, Nat.one_mul] at this; exact this
  have hnk : (n - 1) * k + k = n * k := by rw [Nat.sub_mul, Nat.one_mul]; have : k ≤ n * k := Nat.le_mul_of_pos_left k (by omega); omega
  have hik1 : j * k = i * k + k := by rw [hij, Nat.add_mul, Nat.one_mul]
  have hsome : ∀ j, j < n * k → (w.cell? ⟨blk, j, none⟩).isSome = true := fun j hj => by rw [hcell j _ (List.getElem?_eq_getElem (by omega))]; rfl
  obtain ⟨A, hA, hsrc⟩ : ∃ A : Addr, (if cap = j then some (⟨blk, 0, none⟩ : Addr) else some ⟨blk, j * k, none⟩) = some A ∧ Hid (∀ t u, (news.drop (j * k))[t]? = some u → w.drew.cell? (A.add t) = some u) := by
    by_cases h : cap = j
    · refine ⟨⟨blk, 0, none⟩, by simp [h], fun t u hu => ?_⟩
      have h0 : (news.drop (j * k)).length = 0 := by rw [hlen, show n - j = 0 by omega, Nat.zero_mul]
      rw [List.length_eq_zero_iff.1 h0] at hu
      simp at hu
    · refine ⟨⟨blk, j * k, none⟩, by simp [h], fun t u hu => ?_⟩
      rw [List.getElem?_drop] at hu
      rw [Addr.add_lit]
      exact hcell _ _ hu
  have s1 : Hid ((news.drop (j * k)).length = (n - j) * k) := hlen
  have s2 : Hid (∀ u ∈ news.drop (j * k), u.oneCell' = true) := fun u hu => h1 u (List.mem_of_mem_drop hu)
  have s3 : Hid (∀ t, t < (news.drop (j * k)).length → (w.drew.cell? ⟨blk, 0 + i * k + t, none⟩).isSome = true ∧ w.drew.frozen? ⟨blk, 0 + i * k + t, none⟩ = false) := by
    intro t ht
    rw [hlen, Nat.sub_mul] at ht
    rw [Nat.zero_add]
    exact ⟨hsome _ (by omega), hfz _ (by omega)⟩
  obtain ⟨W1, hW1⟩ : ∃ W1, W1 = w.drew.setCells blk (0 + i * k) (news.drop (j * k)) := ⟨_, rfl⟩
  obtain ⟨zc, hzc⟩ : ∃ zc, zc = (Builtin.zeroCells z.cells 1).toList := ⟨_, rfl⟩
  have hcl : ∀ ty c, (Builtin.clear_ #[ρ.t 22] ty #[.slice (some ⟨blk, (i + (n - j)) * k, none⟩) (n - (i + (n - j))) c]).run P W1 = .ok (.tuple #[]) (W1.setCells blk ((i + (n - j)) * k) zc) := by
    intro ty c
    rw [show i + (n - j) = n - 1 by omega, show n - (n - 1) = 1 by omega]
    rw [hzc]
    refine run_clear_rows W1 _ _ ty _ t22 v23 blk _ _ hz1c (fun j hj => ?_) (fun j hj => ?_)
    · rw [hzl] at hj
      rw [hW1]
      exact World.isSome_setCells _ _ _ _ _ (hsome _ (by omega))
    · rw [hzl] at hj
      rw [hW1, World.frozen?_setCells]
      exact hfz _ (by omega)
  have hzl' : zc.length = k := by rw [hzc]; exact hzl
  have hW : Hid (W1 = w.drew.setCells blk (0 + i * k) (news.drop (j * k))) := hW1
  have X : Aside (W1 = w.drew.setCells blk (0 + i * k) (news.drop (j * k))) := hW1
  have hic : i ≤ cap := by omega
  have hjc : j ≤ cap := by omega
  have hlt : i < j := by omega
  have hjn : j ≤ n := by omega
  have XJ : Aside (j = i + 1) := hij
  clear hW1 hcell hsome hfz h1 hlen hij hik1 hik hnk hzc hzl hz1c v23 hzk
  obtain ⟨_, _, FG⟩ := L.f45
  go_enter FG, SlBodyN.n45_ntmps ρ
  go_wp2_with fail
  go_region_law_o (refine step_append_room rfl (.tmp 22) (.tmp 25) (ρ.t 22) rfl (ρ.t 23) i0 k t22 hi0 hz1 blk 0 i cap (by simp [Act.eval, Act.put]) A (n - j) (cap - j) (news.drop (j * k)) (by simp [Act.eval, Act.put]) s1.out hsrc.out s2.out (by omega) s3.out ?_; rw [← hW.out])
  go_wp2
  go_ret
  refine ⟨by rw [show n - 1 = i + (n - j) by have := XJ.out; omega]; rfl, zc, hzl', ?_⟩
  have hX := X.out
  rw [Nat.zero_add] at hX
  rw [hX, show i + (n - j) = n - 1 by have := XJ.out; omega]
end Go.Proofs

namespace Go.Pv
open Go
section bin
variable {P : Program} {t : TypeId} {k : IntKind} {a b : Int}
theorem bin_add : evBin P .add t (.d (.int .i64 a)) (.d (.int .i64 b)) = some (.d (.int .i64 (IntKind.i64.wrap (a + b)))) := rfl
theorem bin_sub : evBin P .sub t (.d (.int .i64 a)) (.d (.int .i64 b)) = some (.d (.int .i64 (IntKind.i64.wrap (a - b)))) := rfl
theorem bin_mul : evBin P .mul t (.d (.int .i64 a)) (.d (.int .i64 b)) = some (.d (.int .i64 (IntKind.i64.wrap (a * b)))) := rfl
theorem bin_lss : evBin P .lss t (.d (.int .i64 a)) (.d (.int .i64 b)) = some (.d (.bool (decide (a < b)))) := rfl
theorem bin_leq : evBin P .leq t (.d (.int .i64 a)) (.d (.int .i64 b)) = some (.d (.bool (decide (a ≤ b)))) := rfl
theorem bin_gtr : evBin P .gtr t (.d (.int .i64 a)) (.d (.int .i64 b)) = some (.d (.bool (decide (a > b)))) := rfl
theorem bin_geq : evBin P .geq t (.d (.int .i64 a)) (.d (.int .i64 b)) = some (.d (.bool (decide (a ≥ b)))) := rfl
theorem bin_eql : evBin P .eql t (.d (.int .i64 a)) (.d (.int .i64 b)) = some (.d (.bool (a == b))) := rfl
theorem bin_neq : evBin P .neq t (.d (.int .i64 a)) (.d (.int .i64 b)) = some (.d (.bool (a != b))) := rfl
theorem bin_shr (hb : 0 ≤ b) : evBin P .shr t (.d (.int .i64 a)) (.d (.int .i64 b)) = some (.d (.int .i64 (a.fdiv (2 ^ (min b.toNat 64))))) := by
  have : ¬ b < 0 := by omega
  show (pureRun P (if b < 0 then _ else _)).bind ofScalar = _
  rw [if_neg this]
  rfl
theorem bin_and : evBin P .and t (.d (.int .i64 a)) (.d (.int .i64 b)) = some (.d (.int .i64 (IntKind.i64.wrap (BitVec.ofInt 64 a &&& BitVec.ofInt 64 b).toNat))) := rfl
theorem bin_andNot : evBin P .andNot t (.d (.int .i64 a)) (.d (.int .i64 b)) = some (.d (.int .i64 (IntKind.i64.wrap (BitVec.ofInt 64 a &&& ~~~ BitVec.ofInt 64 b).toNat))) := rfl
theorem un_not {x : Bool} : (toV (.d (.bool x))).bind (fun a => (pureRun P (Op.unary .not a)).bind ofScalar) = some (.d (.bool (!x))) := rfl
theorem mm_max : evMinMax P true [.d (.int .i64 a), .d (.int .i64 b)] = some (.d (.int .i64 (max a b))) := by
  rw [show max a b = if b > a then b else a by split <;> omega]
  rfl
theorem mm_min : evMinMax P false [.d (.int .i64 a), .d (.int .i64 b)] = some (.d (.int .i64 (min a b))) := by
  rw [show min a b = if b < a then b else a by split <;> omega]
  rfl
end bin
theorem af_nil : appendFirst [] = [] := rfl
theorem af_cons (o : Oper) (l : List Oper) : appendFirst (o :: l) = match appTmp o with | some d => d :: appendFirst l | none => appendFirst l := by
  unfold appendFirst
  rw [List.filterMap_cons]
  cases appTmp o <;> rfl
/-! #### The same evaluator, in a form that simp does not carry through what is still to come -/
def wantD (dsts : List (Option Tmp)) (g : Option (Nat × Bool)) (ρ : Nat → PV) : Option Bool :=
  match g with
  | none => some true
  | some (j, want) =>
    match (dsts[j]?).bind id with
    | none => some false
    | some s => match ρ s with
      | .d (.bool b) => some (b == want)
      | .undef => some false
      | _ => none
noncomputable def coreD (E : Env) (F : FnEv) (aps : List Nat) (o : Oper) (st : St) : Option Bool → Option St
  | some true => (evCore E F aps o.dst o.op (rd st.slots) st.store).map fun g => { slots := putS (untake st.slots g.2.1) o.dst g.1, store := g.2.2 }
  | some false => some { st with slots := putS st.slots o.dst .undef }
  | none => none
noncomputable def evOpsD (E : Env) (F : FnEv) (aps : List Nat) (dsts : List (Option Tmp)) : List Oper → Option St → Option St
  | [], r => r
  | _ :: _, none => none
  | o :: os, some st => evOpsD E F aps dsts os (coreD E F aps o st (wantD dsts o.guard (rd st.slots)))
theorem evOpsD_none {E : Env} {F : FnEv} {aps : List Nat} {dsts : List (Option Tmp)} (l : List Oper) : evOpsD E F aps dsts l none = none := by cases l <;> rfl
theorem evOps_D {E : Env} {F : FnEv} {ops : Array Oper} : ∀ (l : List Oper) (st : St), evOps E F ops l st = evOpsD E F (appendFirst ops.toList) (ops.toList.map (·.dst)) l (some st)
  | [], st => rfl
  | o :: os, st => by
    have hw : wantD (ops.toList.map (·.dst)) o.guard (rd st.slots) = evWant ops o (rd st.slots) := by
      unfold wantD evWant
      cases o.guard with
      | none => rfl
      | some g =>
        obtain ⟨j, want⟩ := g
        simp only [List.getElem?_map, Array.getElem?_toList]
        cases ops[j]? <;> rfl
    simp only [evOps, evOpsD, hw]
    unfold evOp
    cases evWant ops o (rd st.slots) with
    | none => simp [coreD, evOpsD_none]
    | some b =>
      cases b with
      | true =>
        simp only [Option.bind_some, if_true, coreD]
        cases evCore E F (appendFirst ops.toList) o.dst o.op (rd st.slots) st.store with
        | none => simp [evOpsD_none]
        | some g => simp only [Option.map_some, Option.bind_some]; exact evOps_D os _
      | false =>
        simp only [Option.bind_some, Bool.false_eq_true, if_false, coreD]
        exact evOps_D os _
def regN : Option St → Option (Ex × St)
  | some st => some (.normal, st)
  | none => none
noncomputable def altE (ops : Array Oper) (st : St) : Option St → Option St → Option (Ex × St)
  | some s1, some s2 => if swOk st.store.length st.store (ops.toList.flatMap (writesOf (appendFirst ops.toList))) s1 s2 then some (.normal, s1) else none
  | _, _ => none
noncomputable def altD (E : Env) (F : FnEv) (ops : Array Oper) (st : St) : Option (List Nat × Nat × Nat) → Option St → Option (Ex × St)
  | none, r => regN r
  | some x, r => altE ops st r (evOpsD E F (appendFirst ops.toList) (ops.toList.map (·.dst)) (listed ops x.1) (some st))
noncomputable def evSeq (E : Env) (F : FnEv) (k : Nat) (b : Code) : Option (Ex × St) → Option (Ex × St)
  | some (.normal, st) => evCode E F k b st
  | r => r
noncomputable def evIf (E : Env) (F : FnEv) (k : Nat) (x y : Code) (st : St) : Option PV → Option (Ex × St)
  | some (.d (.bool true)) => evCode E F k x st
  | some (.d (.bool false)) => evCode E F k y st
  | _ => none
section eqs
variable {E : Env} {F : FnEv} {k : Nat}
theorem ec_region {id : Nat} {ops : Array Oper} {draw : Bool} {st : St} : evCode E F k (.region id ops draw) st = if draw && !apartL (rd st.slots) (E.apart (posOf ops) ops.size) then none else altD E F ops st (if draw = true then E.alt (posOf ops) ops.size else none) (evOpsD E F (appendFirst ops.toList) (ops.toList.map (·.dst)) ops.toList (some st)) := by
  simp only [evCode, evOps_D]
  split
  · rfl
  · generalize (if draw = true then E.alt (posOf ops) ops.size else none) = al
    cases al with
    | none =>
      simp only [altD]
      cases evOpsD E F (appendFirst ops.toList) (ops.toList.map (·.dst)) ops.toList (some st) <;> rfl
    | some x =>
      simp only [altD]
      cases evOpsD E F (appendFirst ops.toList) (ops.toList.map (·.dst)) ops.toList (some st) with
      | none => rfl
      | some s1 =>
        simp only [Option.bind_some, evAlt, evOps_D]
        cases evOpsD E F (appendFirst ops.toList) (ops.toList.map (·.dst)) (listed ops x.1) (some st) <;> rfl
theorem ec_seq {a b : Code} {st : St} : evCode E F k (.seq a b) st = evSeq E F k b (evCode E F k a st) := by
  simp only [evCode]
  cases evCode E F k a st with
  | none => rfl
  | some r => obtain ⟨e, s⟩ := r; cases e <;> rfl
theorem ec_cond {c : Operand} {x y : Code} {st : St} : evCode E F k (.cond c x y) st = evIf E F k x y st (use (rd st.slots) c) := by
  simp only [evCode]
  cases use (rd st.slots) c with
  | none => rfl
  | some p =>
    simp only [Option.bind_some]
    cases p with
    | d x => cases x with
      | bool b => cases b <;> rfl
      | _ => rfl
    | _ => rfl
theorem ec_skip {st : St} : evCode E F k .skip st = some (.normal, st) := rfl
theorem ec_scope {b : Code} {st : St} : evCode E F k (.scope b) st = evCode E F k b st := rfl
theorem ec_label {l : Nat} {st : St} : evCode E F k (.label l) st = some (.normal, st) := rfl
theorem ec_exit {id : Nat} {st : St} : evCode E F k (.exit id) st = some (.exit id, st) := rfl
theorem ec_ret {st : St} : evCode E F k .ret st = some (.ret, st) := rfl
theorem ec_block {id : Nat} {b : Code} {st : St} : evCode E F k (.block id b) st = (evCode E F k b st).map fun r => if r.1 = .exit id then (.normal, r.2) else r := rfl
theorem seq_normal {b : Code} {st : St} : evSeq E F k b (some (.normal, st)) = evCode E F k b st := rfl
theorem seq_ret {b : Code} {st : St} : evSeq E F k b (some (.ret, st)) = some (.ret, st) := rfl
theorem seq_exit {b : Code} {st : St} {id : Nat} : evSeq E F k b (some (.exit id, st)) = some (.exit id, st) := rfl
theorem if_t {x y : Code} {st : St} : evIf E F k x y st (some (.d (.bool true))) = evCode E F k x st := rfl
theorem if_f {x y : Code} {st : St} : evIf E F k x y st (some (.d (.bool false))) = evCode E F k y st := rfl
end eqs
theorem evI_run {E : Env} {f : FuncId} {fn : Func} {c : Code} {args : List PV} {σ σ' : Store} {v : PV} (m : Nat) (hg : E.good f = true) (hf : E.P.funcs[f]? = some fn) (hb : fn.body = some c)
    (h : ((evCode E (evI E) m c ⟨args ++ List.replicate (fn.ntmps - args.length) .undef, σ⟩).bind fun r => if r.1 = .normal ∨ r.1 = .ret then (resVal E.P fn r.2).map fun v => (v, r.2.store) else none) = some (v, σ')) (hw : E.wild f = false := by rfl) : evI E f args σ = some (v, σ') := by
  cases hc : evCode E (evI E) m c ⟨args ++ List.replicate (fn.ntmps - args.length) .undef, σ⟩ with
  | none => simp [hc] at h
  | some r =>
    obtain ⟨e, st'⟩ := r
    simp only [hc, Option.bind_some] at h
    split at h
    · rename_i he
      cases hv : resVal E.P fn st' with
      | none => simp [hv] at h
      | some u =>
        simp [hv] at h
        obtain ⟨rfl, rfl⟩ := h
        exact evI_intro m hg hw hf hb hc he hv
    · cases h
theorem call_run {E : Env} {f : FuncId} {fn : Func} {c : Code} {args : List PV} {σ : Store} {v : PV} (m : Nat) (hg : E.good f = true) (ho : E.ov f = none) (hp : E.pure f = true) (hf : E.P.funcs[f]? = some fn) (hb : fn.body = some c) (hd : isDataL args = true)
    (h : ((evCode E (evI E) m c ⟨args ++ List.replicate (fn.ntmps - args.length) .undef, []⟩).bind fun r => if r.1 = .normal ∨ r.1 = .ret then resVal E.P fn r.2 else none) = some v) (hv : v.isData = true) (hw : E.wild f = false := by rfl) (hx : E.ext E.loose f = none := by rfl) : callIt E (evI E) f args σ = some (v, σ) := by
  cases hc : evCode E (evI E) m c ⟨args ++ List.replicate (fn.ntmps - args.length) .undef, []⟩ with
  | none => simp [hc] at h
  | some r =>
    obtain ⟨e, st'⟩ := r
    simp only [hc, Option.bind_some] at h
    split at h
    · rename_i he
      have := evI_intro m hg hw hf hb hc he h
      simp [callIt, hx, ho, hp, hd, this, hv]
    · cases h
end Go.Pv

namespace Go.Pv
open Go Go.RowKit
theorem trodAll_below {H : Type} {enc : TypeId × Value → H} {P : Program} (hl : laidOutB P = true) {W W' : World} (hb : Below W.heap.size W W') :
    ∀ (types : List TypeId) (vs : List Value) (ds : List (DataW H)) (ps : List MemPlace), types.all (fun t => P.readableRec t && decide (t < P.types.size)) = true → DataW.TrodAll enc P W 0 (fun _ => true) true types vs ds ps →
      DataW.TrodAll enc P W' 0 (fun b => decide (b < W.heap.size)) true types vs ds ps
  | [], vs, ds, ps, _, h => by
    obtain ⟨rfl, rfl, rfl⟩ := ChangeShapes.trodAll_nil h
    rfl
  | t :: ts, vs, ds, ps, ht, h => by
    simp only [List.all_cons, Bool.and_eq_true, decide_eq_true_eq] at ht
    obtain ⟨v, vs', d, ds', p, q, rfl, rfl, rfl, h1, h2⟩ := ChangeShapes.trodAll_cons h
    have hlt : ∀ x ∈ p, x.block < W.heap.size := by obtain ⟨m, hm⟩ := h1; exact DataW.trod_lt m _ _ _ hm
    exact trodAll_cons_mk (Below.trod hl ht.1.1 ht.1.2 h1 hb hlt) (trodAll_below hl hb ts vs' ds' q ht.2 h2)
theorem evI_ex {E : Env} {f : FuncId} {fn : Func} {c : Code} {args : List PV} {σ : Store} {v : PV} (m : Nat) (hg : E.good f = true) (hf : E.P.funcs[f]? = some fn) (hb : fn.body = some c)
    (h : ((evCode E (evI E) m c ⟨args ++ List.replicate (fn.ntmps - args.length) .undef, σ⟩).bind fun r => if r.1 = .normal ∨ r.1 = .ret then resVal E.P fn r.2 else none) = some v) (hw : E.wild f = false := by rfl) : ∃ σ', evI E f args σ = some (v, σ') := by
  cases hc : evCode E (evI E) m c ⟨args ++ List.replicate (fn.ntmps - args.length) .undef, σ⟩ with
  | none => simp [hc] at h
  | some r =>
    obtain ⟨e, st'⟩ := r
    simp only [hc, Option.bind_some] at h
    split at h
    · rename_i he
      exact ⟨st'.store, evI_intro m hg hw hf hb hc he h⟩
    · cases h
def Lp (r : Option (Ex × St)) (Q : Ex × St → Prop) : Prop := ∃ x, r = some x ∧ Q x
theorem Lp_some {x : Ex × St} {Q : Ex × St → Prop} : Lp (some x) Q ↔ Q x := by simp [Lp]
theorem at_loop {step : St → Option (Ex × St)} {n : Nat} {st : St} {L : Option (Ex × St)} (hL : loopN step n st = L) {Q : Ex × St → Prop} (h : Lp (loopN step n st) Q) : Lp L Q := hL ▸ h
end Go.Pv

namespace Go.Proofs
open Go.Pv
def nFn : Nat := 242
def goodF (f : FuncId) : Bool := decide (f < nFn) && true
def pureF (f : FuncId) : Bool := !([66, 67, 68, 70, 71, 73, 74, 75, 78, 79, 94, 95, 102, 106, 117, 119, 150, 151, 153, 155, 168, 169, 170, 171, 172, 176, 182, 183, 185, 192, 194, 195, 196, 198, 202, 203, 205, 206, 207, 208, 209, 210, 211, 212, 214, 215, 216, 218, 220, 221, 222, 223] : List Nat).contains f
def roF (f : FuncId) : Bool := ([67, 71, 73, 75, 78, 172] : List Nat).contains f
@[simp] def apF (p : String) (n : Nat) : List (Nat × Nat) := if p = "node.go:119" then [(5, 2)] else if p = "ref.go:133" then (if n = 5 then [(5, 2)] else []) else if p = "net.go:79" then (if n = 4 then [(13, 6)] else []) else if p = "ref.go:88" then (if n = 7 then [(10, 6)] else []) else if (p = "law.go:103" ∨ p = "law.go:114" ∨ p = "law.go:122" ∨ p = "law.go:128" ∨ p = "law.go:131") then (if n = 5 then [(4, 6)] else []) else []
@[simp] def altF (p : String) (n : Nat) : Option (List Nat × Nat × Nat) :=
  if p = "arb.go:28" then (if n = 9 then some ([0, 1, 3, 4, 5, 2, 6, 7, 8], 2, 5) else none) else if p = "top14.go:159" then some ([0, 1, 2, 3, 4, 5, 6, 7, 8, 9, 11, 10, 12, 13], 10, 11) else if p = "law.go:281" then some ([0, 1, 2, 3, 4, 5, 6, 7, 8, 9, 10, 11, 13, 12, 14, 15], 12, 13) else none
def mkF (f : FuncId) : List Nat :=
  if f = 17 then [53] else
  if f = 7 then [57] else
  if f = 96 then [32, 34] else if f = 101 then [36] else
  if f = 111 then [30, 32] else if f = 164 then [59] else if f = 202 then [11] else if f = 161 then [11] else if f = 162 then [10] else
  if f = 11 then [41, 128, 203] else
  []
def wildF (f : FuncId) : Bool :=
  ([99, 104, 153, 100, 201] : List Nat).contains f ||
  !(mkF f).isEmpty
theorem goodF_lt (f : FuncId) (h : goodF f = true) : f < nFn := by
  unfold goodF at h
  simp only [Bool.and_eq_true, decide_eq_true_eq] at h
  exact h.1
end Go.Proofs

set_option maxRecDepth 100000
namespace Go.Proofs
open Go.Shelf Go.RowKit Go.Lib Go.Pv
def renF : Ren := { f := fun n => if n = 41 then 175 else if n = 45 then 197 else n, t := fun n => if n = 23 then 34 else if n = 22 then 44 else if n = 0 then 0 else if n = 3 then 3 else if n = 4 then 4 else n, g := id }
def renT : Ren := { f := fun n => if n = 41 then 126 else n, t := fun n => if n = 23 then 140 else if n = 22 then 45 else if n = 4 then 4 else n, g := id }
theorem Tryz.mixed : Tryz.prog.follows .mixedOrders = true := by kernel_rfl
theorem Tryz.laysCF : SlLaysE0.n41 Tryz.prog renF where
 mixed := Tryz.mixed
 f41 := ⟨"slices.Clone[[]phaeton/api.Frame,phaeton/api.Frame]", by decide, by kernel_rfl⟩
 t4 := Tryz.underlying4
 a4 := Tryz.isAgg4
 z4 := Tryz.sizeOf4
 v4 := Tryz.zeroValue4
 t22 := Tryz.underlying44
 a22 := Tryz.isAgg44
 z22 := Tryz.sizeOf44
 v22 := Tryz.zeroValue44
theorem Tryz.laysDF : SlLaysE0.n45 Tryz.prog renF where
 mixed := Tryz.mixed
 f45 := ⟨"slices.Delete[[]phaeton/api.Frame,phaeton/api.Frame]", by decide, by kernel_rfl⟩
 t0 := Tryz.underlying0
 a0 := Tryz.isAgg0
 z0 := Tryz.sizeOf0
 v0 := Tryz.zeroValue0
 t3 := Tryz.underlying3
 a3 := Tryz.isAgg3
 z3 := Tryz.sizeOf3
 v3 := Tryz.zeroValue3
 t4 := Tryz.underlying4
 a4 := Tryz.isAgg4
 z4 := Tryz.sizeOf4
 v4 := Tryz.zeroValue4
 t22 := Tryz.underlying44
 a22 := Tryz.isAgg44
 z22 := Tryz.sizeOf44
 v22 := Tryz.zeroValue44
theorem Tryz.laysCT : SlLaysE0.n41 Tryz.prog renT where
 mixed := Tryz.mixed
 f41 := ⟨"slices.Clone[[]phaeton/api.Filter,phaeton/api.Filter]", by decide, by kernel_rfl⟩
 t4 := Tryz.underlying4
 a4 := Tryz.isAgg4
 z4 := Tryz.sizeOf4
 v4 := Tryz.zeroValue4
 t22 := Tryz.underlying45
 a22 := Tryz.isAgg45
 z22 := Tryz.sizeOf45
 v22 := Tryz.zeroValue45
theorem info_parts3 {P : Program} {t : TypeId} {z : Value} {s b : Nat} (h : (P.info? t).map (fun i => (i.zero, i.size, i.bytes)) = some (some z, s, b)) : ∃ i, P.info? t = some i ∧ i.zero = some z ∧ i.size = s ∧ i.bytes = b := by
 cases hi : P.info? t with
 | none => rw [hi] at h; cases h
 | some i => rw [hi] at h; simp at h; exact ⟨i, rfl, h.1, h.2.1, h.2.2⟩
theorem Tryz.infoF : (Tryz.prog.info? 34).map (fun i => (i.zero, i.size, i.bytes)) = some (some (.agg #[.bool false, .int .i64 0, .bool false, .int .i64 0, .slice none 0 0]), 5, 56) := by kernel_rfl
theorem Tryz.infoT : (Tryz.prog.info? 140).map (fun i => (i.zero, i.size, i.bytes)) = some (some (.agg #[.bool false, .int .i64 0, .int .i64 0]), 3, 24) := by kernel_rfl
theorem Tryz.cloneF (rows : List (List DV)) (hok : rowsOk 5 rows = true) (hroom : rows.length * 56 ≤ roomB) : CallOk Tryz.prog 175 [.d (.slice rows)] [] (acc rows) [] := by
 obtain ⟨i, h1, h2, h3, h4⟩ := info_parts3 Tryz.infoF
 exact clone_ok Tryz.laysCF i _ 5 56 h1 h2 h3 h4 (by rfl) (by decide) Tryz.sizeOf34 rows hok hroom (by simp only [roomB] at hroom; simp only [maxLen]; omega)
theorem Tryz.cloneT (rows : List (List DV)) (hok : rowsOk 3 rows = true) (hroom : rows.length * 24 ≤ roomB) : CallOk Tryz.prog 126 [.d (.slice rows)] [] (acc rows) [] := by
 obtain ⟨i, h1, h2, h3, h4⟩ := info_parts3 Tryz.infoT
 exact clone_ok Tryz.laysCT i _ 3 24 h1 h2 h3 h4 (by rfl) (by decide) Tryz.sizeOf140 rows hok hroom (by simp only [roomB] at hroom; simp only [maxLen]; omega)
set_option maxHeartbeats 1000000 in
theorem Tryz.withoutF (rows : List (List DV)) (i : Nat) (hok : rowsOk 5 rows = true) (hroom : rows.length * 56 ≤ roomB) (hi : i < rows.length) :
  CallOk Tryz.prog 144 [.d (.slice rows), .d (.int .i64 i)] [] (.d (.slice (rows.eraseIdx i))) [] := by
 refine callOk_data ⟨_, Tryz.func144, rfl, by decide⟩ (by simp) fun w Im vs hin hargs => ?_
 obtain ⟨hl, hr⟩ := hargs
 obtain ⟨v, u, rfl⟩ : ∃ v u, vs = #[v, u] := by
  match vs, hl with
  | ⟨[v, u]⟩, _ => exact ⟨v, u, rfl⟩
 obtain ⟨hv, _⟩ := hr 0 _ v rfl rfl
 obtain ⟨hu, _⟩ := hr 1 _ u rfl rfl
 obtain rfl : u = .int .i64 i := by cases hu with | d h => cases h; rfl
 obtain ⟨hd⟩ : Nonempty (RepD w Im (.slice rows) v) := by cases hv with | d h => exact ⟨h⟩
 have hne : rows ≠ [] := by intro h; subst h; simp at hi
 cases hd with
 | nil => exact absurd rfl hne
 | slice _ a c sz cv h1 h2 h3 h4 h5 h6 =>
  have hd : RepD w Im (.slice rows) (.slice (some a) rows.length c) := .slice rows a c sz cv h1 h2 h3 h4 h5 h6
  obtain ⟨_, k2, _, news, n1, n2, n3, n4, n5, n6⟩ := rows_values hd hok
  have hpos : 0 < rows.length := List.length_pos_iff.2 hne
  have hspot : a.spot = none := n3 a rfl (Nat.mul_ne_zero (by omega) (by omega))
  obtain ⟨b, off, sp⟩ := a
  simp only at hspot
  subst hspot
  obtain ⟨inf, i1, i2, i3, i4⟩ := info_parts3 Tryz.infoF
  have hmax : rows.length ≤ maxLen := by simp only [roomB] at hroom; simp only [maxLen]; omega
  have hclone := AnyE.slices_Clone Tryz.laysCF inf _ 5 56 i1 i2 i3 i4 rfl (by decide) Tryz.sizeOf34 b off rows.length c news w n1 hmax (by simp only [roomB] at hroom; omega) (fun j u hu => by have := n2 _ rfl j u hu; rwa [Addr.add_none rfl] at this) n6
  change Calls Tryz.prog 175 _ _ _ at hclone
  have hdel : ∀ (w1 : World) (g cap : Nat) (cur : Array Value), w1.heap[g]? = some (.cells cur 34 (0, 0)) → rows.length ≤ cap → cap ≤ maxLen → cur.size = cap * 5 → cur.toList.take (rows.length * 5) = news →
    Calls Tryz.prog 197 #[.slice (some ⟨g, 0, none⟩) rows.length cap, .int .i64 i, .int .i64 (i + 1)] w1 fun e w' => e = .returned (.slice (some ⟨g, 0, none⟩) (rows.length - 1) cap) ∧
     ∃ zc, zc.length = 5 ∧ w' = (w1.drew.setCells g (i * 5) (news.drop ((i + 1) * 5))).setCells g ((rows.length - 1) * 5) zc := by
   intro w1 g cap cur hobj hcap hm hcs htk
   have hle : rows.length * 5 ≤ cap * 5 := Nat.mul_le_mul_right _ hcap
   have := delete_one Tryz.laysDF 5 (by decide) inf i1 i3 _ Tryz.zeroValue34 rfl (fun u hu => List.all_eq_true.1 (show (Builtin.zeroCells (Value.agg #[Value.bool false, Value.int IntKind.i64 0, Value.bool false, Value.int IntKind.i64 0, Value.slice none 0 0]).cells 1).toList.all (·.oneCell') = true by kernel_rfl) u hu) Tryz.sizeOf34 g cap rows.length i (i + 1) news w1 n1
    (fun j u hu => by
     rw [← htk, List.getElem?_take] at hu
     split at hu
     ·simp only [World.cell?, hobj]
      simpa using hu
     ·cases hu)
    (fun j hj => by simp [World.frozen?, hobj])
    n6 hcap hm rfl hi
   change Calls Tryz.prog 197 _ _ _ at this
   simpa using this
  have Hok : Hid (rowsOk 5 rows = true) := hok
  clear hok hroom hl hr hv hu hd h1 h2 h3 h4 h5 h6 n2 n3 n4 i1 i2 i3 i4
  go_enter Tryz.func144, Tryz.ntmps144
  go_wp2_with (go_at_call 175; refine hclone.mono ?_; rintro e w1 ⟨v1, rfl, hown, hnn, hbel⟩)
  obtain ⟨hlen', (⟨_, h0⟩ | ⟨g, cap, cur, rfl, hge, hobj, hcap, hmax', hcs, htk⟩)⟩ := hown
  ·exact absurd h0 (by omega)
  rw [show wrap64 ((i : Int) + 1) = (i : Int) + 1 by unfold wrap64; simp only [maxLen] at hmax; omega]
  refine (hdel w1 g cap cur hobj hcap hmax' hcs htk).mono ?_
  rintro e w2 ⟨rfl, zc, hzc, rfl⟩
  go_wp2
  go_ret
  have hlt5 : (i + 1) * 5 ≤ rows.length * 5 := by omega
  have hln : (rows.eraseIdx i).length = rows.length - 1 := List.length_eraseIdx_of_lt hi
  have hb2 : Below w.heap.size w ((w1.drew.setCells g (i * 5) (news.drop ((i + 1) * 5))).setCells g ((rows.length - 1) * 5) zc) :=
   below_setCells hge _ _ _ (below_setCells hge _ _ _ (by exact hbel.drew))
  have hsome : ∀ j, j < rows.length * 5 → w1.cell? ⟨g, j, none⟩ = news[j]? := by
   intro j hj
   rw [← htk, List.getElem?_take, if_pos hj]
   simp [World.cell?, hobj]
  obtain ⟨Im', q1, q2, q3⟩ := cells_rep (news := news.take (i * 5) ++ news.drop ((i + 1) * 5)) (g := g) (cap := cap) (rows := rows.eraseIdx i) (size := 5) hin hb2 hge
   (fun r hr => rowsOk_len Hok.out r (List.mem_of_mem_eraseIdx hr)) (by omega)
   (fun j u hj hu => by
    rw [hln] at hj
    rw [World.cell?_setCells_out _ _ _ _ _ (fun _ _ => .inl (by simp; omega))]
    by_cases hji : j < i * 5
    ·rw [World.cell?_setCells_out _ _ _ _ _ (fun _ _ => .inl (by simpa using hji))]
     show w1.cell? _ = _
     rw [hsome j (by omega)]
     rw [List.getElem?_append_left (by simp; omega), List.getElem?_take, if_pos hji] at hu
     exact hu
    ·have hd : (news.drop ((i + 1) * 5)).length = rows.length * 5 - (i + 1) * 5 := by simp [n1]
     have hin2 := World.cell?_setCells_in g (news.drop ((i + 1) * 5)) (i * 5) w1.drew (fun t ht => by
      show (w1.cell? _).isSome = true
      rw [hsome _ (by omega), List.getElem?_eq_getElem (by omega)]; rfl) (j - i * 5) (by omega)
     rw [show i * 5 + (j - i * 5) = j by omega] at hin2
     rw [hin2]
     rw [List.getElem?_append_right (by simp; omega)] at hu
     rw [← hu, List.length_take, show min (i * 5) news.length = i * 5 by omega, List.getElem?_eq_getElem (by omega)])
   (by rw [hln]; simp [n1]; omega)
   (fun a b r d ha hb => by
    rw [List.getElem?_eraseIdx] at ha
    have hr5 : r.length = 5 := by
     split at ha <;> exact rowsOk_len Hok.out r (List.mem_of_getElem? ha)
    have hb5 : b < 5 := by rw [← hr5]; exact (List.getElem?_eq_some_iff.1 hb).1
    split at ha
    ·rename_i hai
     obtain ⟨u, g1, g2⟩ := n5 a b r d ha hb
     refine ⟨u, ?_, g2⟩
     rw [List.getElem?_append_left (by simp; omega), List.getElem?_take, if_pos (by omega)]
     exact g1
    ·rename_i hai
     obtain ⟨u, g1, g2⟩ := n5 (a + 1) b r d ha hb
     refine ⟨u, ?_, g2⟩
     rw [List.getElem?_append_right (by simp; omega), List.length_take, show min (i * 5) news.length = i * 5 by omega, List.getElem?_drop, ← g1]
     congr 1
     omega)
  rw [hln] at q3
  exact ⟨_, Im', rfl, hb2, q1, q2, .d q3⟩
end Go.Proofs

namespace Go.Proofs
open Go.RowKit Go.Shelf Go.Pv
attribute [local go_sem] Oper.semAt_some
def upto {α : Type} (f : Nat → α) (k : Nat) : List α := (List.range k).map f
theorem upto_succ {α : Type} (f : Nat → α) (k : Nat) : upto f (k + 1) = upto f k ++ [f k] := by simp [upto, List.range_succ]
theorem upto_length {α : Type} (f : Nat → α) (k : Nat) : (upto f k).length = k := by simp [upto]
def KeepsAt (B : Nat) (W W' : World) : Prop := ∀ x, W.cell? ⟨B, 0, none⟩ = some x → W'.cell? ⟨B, 0, none⟩ = some x
set_option maxRecDepth 100000 in
set_option maxHeartbeats 2000000 in
theorem Tryz.shifts1_in (F : Fence) (n : Nat) (h7 : F.fn 222) (hro : F.round = none) (hn : 1 ≤ n) (l Bm Bn : Nat) (v : Int) (len : Nat) (hlen : len ≤ 64) (bit : Nat → Int) (hbit : ∀ k, bit k = bits .and .i64 (v / 2 ^ (len - 1 - k)) 1) (J Jx : List Int → World → Prop)
  (hY : ∀ pre x W, J pre W → pre.length < len → YieldAt F (n - 1) Tryz.prog l #[.int .i64 x] W fun e W' =>
   (e = .returned (.bool true) ∧ J (pre ++ [x]) W' ∧ KeepsAt Bn W W') ∨ (e = .returned (.bool false) ∧ Jx (pre ++ [x]) W'))
  (W : World) (hBm : W.cell? ⟨Bm, 0, none⟩ = some (.int .i64 len)) (hBn : W.cell? ⟨Bn, 0, none⟩ = some (.int .i64 v)) (h0 : J [] W) :
  CallsIn F n Tryz.prog 222 #[.func (.yield l) #[] #[], .pointer (some ⟨Bm, 0, none⟩), .pointer (some ⟨Bn, 0, none⟩)] W fun e W' => (∃ v, e = .returned v) ∧
   ((∃ ys, ys = upto bit len ∧ J ys W') ∨ (∃ pre, (∃ k, k ≤ len ∧ pre = upto bit k) ∧ Jx pre W')) := by
 refine callsIn_of_wp Tryz.func222 rfl h7 ?_ hro
 simp only [Tryz.ntmps222, List.size_toArray, List.length_cons, List.length_nil, Nat.reduceAdd, Nat.reduceSub, Array.replicate_succ, Array.replicate_zero, List.push_toArray, List.append_toArray, List.nil_append, List.cons_append]
 have hw : wrap64 ((len : Int) - 1) = (len : Int) - 1 := by unfold wrap64; omega
 gi_wp2
 gi_loopw [4] (fun i wr => ∃ k : Nat, k ≤ len ∧ i = .int .i64 ((len : Int) - 1 - k) ∧ J (upto bit k) wr ∧ KeepsAt Bn W wr)
  (fun i _ => (intOf i + 1).toNat)
 case atStart => exact ⟨0, Nat.zero_le _, by simp, h0, fun _ h => h⟩
 case round =>
  obtain ⟨k, hk, rfl, hJs, hnx⟩ := hrel
  have hcn : wr.cell? ⟨Bn, 0, none⟩ = some (.int .i64 v) := hnx _ hBn
  by_cases hlt : k < len
  ·have hge : (0 : Int) ≤ (len : Int) - 1 - k := by omega
   obtain ⟨fn, tmps, assign, body, hy, hR⟩ := hY _ (bit k) wr hJs (by rw [upto_length]; exact hlt)
   rw [hbit k] at hy hR
   have hw2 : wrap64 ((len : Int) - 1 - k - 1) = (len : Int) - 1 - (k + 1 : Nat) := by unfold wrap64; omega
   gi_wp2
   refine hR.mono ?_
   rintro e W3 (⟨rfl, hJ3, hk3⟩ | ⟨rfl, hJx3⟩)
   ·gi_wp2
    go_roundw
    case rel => exact ⟨k + 1, by omega, by simp; omega, by rw [upto_succ, hbit k]; exact hJ3, fun x h => hk3 x (hnx x h)⟩
    case measure => simp [intOf]; omega
   ·gi_wp2
    refine bodyPost_ret (results_none rfl _ _ _) rfl ?_
    exact ⟨⟨_, rfl⟩, .inr ⟨_, ⟨k + 1, by omega, rfl⟩, by rw [upto_succ, hbit k]; exact hJx3⟩⟩
  ·obtain rfl : k = len := by omega
   gi_wp2
   go_end0
   exact ⟨⟨_, rfl⟩, .inl ⟨_, rfl, hJs⟩⟩
set_option maxHeartbeats 1000000 in
theorem Tryz.shifts_in (F : Fence) (n : Nat) (h5 : F.fn 214) (hro : F.round = none) (v m : Int) (w : World) :
  CallsIn F n Tryz.prog 214 #[.int .i64 v, .int .i64 m] w fun e w' => e = .returned (.func (.func 222) #[] #[.pointer (some ⟨w.heap.size + 1, 0, none⟩), .pointer (some ⟨w.heap.size, 0, none⟩)]) ∧ w' = (w.alloc (.cells #[.int .i64 v] 3)).alloc (.cells #[.int .i64 m] 3) := by
 refine callsIn_of_wp Tryz.func214 rfl h5 ?_ hro
 simp only [Tryz.ntmps214, List.size_toArray, List.length_cons, List.length_nil, Nat.reduceAdd, Nat.reduceSub, Array.replicate_succ, Array.replicate_zero, List.push_toArray, List.append_toArray, List.nil_append, List.cons_append]
 gi_wp2
 go_ret
 exact ⟨rfl, rfl⟩
theorem Tryz.shifts_stops (F : Fence) (n : Nat) (h7 : F.fn 222) (hro : F.round = none) (hn : 1 ≤ n) (Bm Bn : Nat) (v : Int) (len : Nat) (hlen : len ≤ 64) (w : World) (hb : Bm < w.heap.size ∧ Bn < w.heap.size)
  (hm : w.cell? ⟨Bm, 0, none⟩ = some (.int .i64 len)) (hc : w.cell? ⟨Bn, 0, none⟩ = some (.int .i64 v)) (bit : Nat → Int) (hbit : ∀ k, bit k = bits .and .i64 (v / 2 ^ (len - 1 - k)) 1) :
  SeqStopsK F n Tryz.prog 222 #[.pointer (some ⟨Bm, 0, none⟩), .pointer (some ⟨Bn, 0, none⟩)] (fun x : Int => #[Value.int .i64 x]) (KeepsAt Bn) (fun ys => ys = upto bit len) (fun pre => ∃ k, k ≤ len ∧ pre = upto bit k) len w := fun l J Jx W hW _ _ hY h0 =>
 Tryz.shifts1_in F n h7 hro hn l Bm Bn v len hlen bit hbit J Jx hY W ((hW.cell (p := ⟨Bm, 0, none⟩) hb.1).trans hm) ((hW.cell (p := ⟨Bn, 0, none⟩) hb.2).trans hc) h0
theorem ownsRow_base {W : World} {base base' : Nat} {e : TypeId} {size : Nat} {v : Value} {k : Nat} {xs : List Value} (h : W.ownsRow base e size v k xs) (hb : base' ≤ base) : W.ownsRow base' e size v k xs := by
 refine ⟨h.1, ?_⟩
 rcases h.2 with h2 | ⟨g, cap, cur, h1, h2, h3⟩
 ·exact .inl h2
 ·exact .inr ⟨g, cap, cur, h1, by omega, h3⟩
theorem Tryz.info3 : (Tryz.prog.info? 3).map (fun i => (i.zero, i.size, i.bytes)) = some (some (.int .i64 0), 1, 8) := by kernel_rfl
set_option maxRecDepth 100000 in
set_option maxHeartbeats 2000000 in
theorem Tryz.Put_in (F : Fence) (n : Nat) (h3 : F.fn 188) (h4 : F.fn 214) (h5 : F.fn 222) (hro : F.round = none) (hn : 3 ≤ n) (v : Int) (m : Nat) (hm : m ≤ 32) (hv : v / 2 ^ m = 0) (w : World) (bit : Nat → Int) (hbit : ∀ k, bit k = bits .and .i64 (v / 2 ^ (m - 1 - k)) 1) :
  CallsIn F n Tryz.prog 188 #[.int .i64 v, .int .i64 m] w fun e W' => ∃ u, e = .returned (.tuple #[u, .bool true]) ∧ W'.ownsRow w.heap.size 3 1 u m ((upto bit m).map (Value.int .i64)) ∧ Below w.heap.size w W' := by
 have h1 : 1 ≤ n := by omega
 obtain ⟨i0, hi, hz0, hz1, hz2⟩ := info_parts Tryz.info3
 have hmin : min m 64 = m := by omega
 refine callsIn_of_wp_marks Tryz.func188 rfl h3 ?_ hro
 simp only [Tryz.ntmps188, List.size_toArray, List.length_cons, List.length_nil, Nat.reduceAdd, Nat.reduceSub, Array.replicate_succ, Array.replicate_zero, List.push_toArray, List.append_toArray, List.nil_append, List.cons_append]
 gi_wp2_with (gi_at_call 214; refine (Tryz.shifts_in F (n - 1) h4 hro _ _ _).mono ?_; rintro e w' ⟨rfl, rfl⟩)
 have bO := Boxed.new w 39 (.slice none 0 0)
 have bN := Boxed.new (w.alloc (.cells #[.slice none 0 0] 39)) 3 (.int .i64 v)
 have bM := Boxed.new ((w.alloc (.cells #[.slice none 0 0] 39)).alloc (.cells #[.int .i64 v] 3)) 3 (.int .i64 m)
 rw [World.size_alloc] at bN
 rw [World.size_alloc, World.size_alloc] at bM
 have bO3 := (bO.alloc (.cells #[.int .i64 v] 3)).alloc (.cells #[.int .i64 m] 3)
 have bN3 := bN.alloc (.cells #[.int .i64 m] 3)
 have hB0 : Below w.heap.size w (((w.alloc (.cells #[.slice none 0 0] 39)).alloc (.cells #[.int .i64 v] 3)).alloc (.cells #[.int .i64 m] 3)) := (((Below.refl _ w).alloc (Nat.le_refl _) _).alloc (by simp) _).alloc (by simp; omega) _
 have hS0 : (((w.alloc (.cells #[.slice none 0 0] 39)).alloc (.cells #[.int .i64 v] 3)).alloc (.cells #[.int .i64 m] 3)).heap.size = w.heap.size + 3 := by simp
 refine wpIn_rangeFunc_ownG hro h1 (gf := 222) (lb := #[.pointer (some ⟨w.heap.size + 1 + 1, 0, none⟩), .pointer (some ⟨w.heap.size + 1, 0, none⟩)]) rfl h5 (enters_of Tryz.func222 (by kernel_rfl) rfl)
  (Tryz.shifts_stops F (n - 1) h5 hro (by omega) (w.heap.size + 1 + 1) (w.heap.size + 1) v m (by omega) _ (by rw [hS0]; omega) bM.cell bN3.cell bit hbit) (fun h k x hx => k x (h x hx)) (fun W l o o' hl ho hc _ x hx => cell_kept hx (grownBy_putObj' W l o') (fun r e => by cases e; exact ⟨o, ho, hc⟩)) (Below.refl _ _) (fun _ => rfl)
  (fun pre W => ((∃ u, Boxed W w.heap.size 39 u ∧ W.ownsRow (w.heap.size + 3) 3 1 u pre.length (pre.map (Value.int .i64)) ∧ True) ∧ Below w.heap.size w W) ∧ w.heap.size + 3 ≤ W.heap.size)
  (fun _ _ _ => False)
  (OwnFrom.and (OwnFrom.and (Own.from (holdsRow_own (w.heap.size + 3) w.heap.size 39 3 1 (fun pre : List Int => pre.length) (fun pre => pre.map (Value.int .i64)) (fun pre v => True)) _) (ownFrom_below (Nat.le_refl _) (by rw [hS0]; omega))) (fun s X Y row hs hg hr => Nat.le_trans hs hg.size))
  (fun _ _ _ _ _ hs _ _ => hs)
  ⟨⟨⟨_, bO3, World.ownsRow_nil _ _ _ _, trivial⟩, hB0⟩, by rw [hS0]; omega⟩
  (fun x => { tmps := #[.int .i64 v, .int .i64 m, undef, undef, .slice none 0 0, .bool false, .pointer (some ⟨w.heap.size, 0, none⟩), .int .i64 x, .int .i64 m, .bool (decide ((m : Int) < 0)), .bool (decide ((m : Int) < 0)), .int .i64 m, .bool (decide (32 < (m : Int))), .bool (decide ((m : Int) < 0) || decide (32 < (m : Int))), .bool (decide ((m : Int) < 0) || decide (32 < (m : Int))), .int .i64 v, .int .i64 m, .int .i64 0, .bool false, .bool (decide ((m : Int) < 0) || decide (32 < (m : Int))), .int .i64 v, .int .i64 m, .func (.func 222) #[] #[.pointer (some ⟨w.heap.size + 1 + 1, 0, none⟩), .pointer (some ⟨w.heap.size + 1, 0, none⟩)], .int .i64 x, undef, undef, undef, undef, undef], defers := [] }) ?assign ?body ?done ?stop
 case assign =>
  intro l x W K hK
  gi_wp2
  exact hK
 case body =>
  rintro l pre x W ⟨⟨⟨u, hv, hrow, _⟩, hB⟩, hS⟩ hlt
  have hc := hv.cell
  have hrow0 : W.ownsRow w.heap.size 3 1 u pre.length (pre.map (Value.int .i64)) := ownsRow_base hrow (by omega)
  gi_wp2_with (gi_at_builtin; refine wpListIn_append_own _ rfl _ _ 39 rfl (w.heap.size + 3) 3 i0 (.int .i64 0) 1 8 Tryz.underlying39 hi hz0 hz1 hz2 rfl (by decide) _ _ _ rfl (hrow.alloc _) ⟨W.heap.size, 0, none⟩ 1 1 [.int .i64 x] rfl rfl (cell_one_new _ _ _) (by simp [Value.oneCell']) (by simp only [maxLen]; omega) (by omega) (by simp; omega) ?_; intro v' w1 hown' hgrow _; obtain ⟨g', cap', rfl⟩ := ownsRow_succ hown'; obtain ⟨hv1, hv2, hr2, hk2, hb2⟩ := hv.appended (by decide) hrow0 hB.size (Nat.le_refl _) (ownsRow_base hown' (by omega)) hgrow; have hc1 := hv1.cell; have hf1 := hv1.frozen)
  refine ⟨hk2.from _, ?_, ⟨⟨⟨_, hv2, ?_, trivial⟩, hB.trans hb2⟩, ?_⟩⟩
  ·intro y hy
   have hne : some (w.heap.size + 1) ≠ u.ownBlock := by
    rcases hrow.2 with ⟨rfl, _⟩ | ⟨g, cap, cur, rfl, hg, _, _⟩
    ·simp [Value.ownBlock]
    ·intro e
     have : w.heap.size + 1 = g := by simpa [Value.ownBlock] using e
     omega
   have hlt1 : w.heap.size + 1 < W.heap.size := by omega
   have e1 : w1.heap[w.heap.size + 1]? = W.heap[w.heap.size + 1]? := (hgrow.block _ (by simp; omega) hne).trans (Below.heap_alloc W _ _ hlt1)
   have e2 : (w1.setCell ⟨w.heap.size, 0, none⟩ (.slice (some ⟨g', 0, none⟩) (pre.length + 1) cap')).heap[w.heap.size + 1]? = w1.heap[w.heap.size + 1]? := Below.heap_setCell _ _ _ _ (by simp)
   exact (World.cell?_of_block (a := ⟨w.heap.size + 1, 0, none⟩) (e2.trans e1)).trans hy
  ·have := hown'.kept (grownBy_setCell' w1 w.heap.size (.slice (some ⟨g', 0, none⟩) (pre.length + 1) cap')) (.inr (hv1.not_row (by decide) hown').symm)
   simpa using this
  ·have := hb2.size
   omega
 case done =>
  rintro D ys W hD rfl ⟨⟨⟨u, hv, hrow, _⟩, hB⟩, hS⟩ hK
  have hc := hv.cell
  rw [upto_length] at hrow
  gi_wp2
  refine ⟨by simp, .inl ⟨_, _, rfl, run_takeDeferred hK, ?_⟩⟩
  exact ⟨_, results_tmp2 rfl _ _ _, u, rfl, ownsRow_putObj (ownsRow_base hrow (by omega)) _ hK rfl, hB.trans (belowK_b (w := w) (Nat.le_refl _) W D _ _ (by simp at hD; omega) hK rfl rfl)⟩
 case stop =>
  rintro D c pre W _ _ h _
  exact h.elim
end Go.Proofs

set_option maxRecDepth 100000
namespace Go.Proofs
open Go.Shelf Go.RowKit Go.Lib Go.Pv
def Cnt (w : World) (B : Nat) (t r s q : Int) : Prop := ∃ e, w.heap[B]? = some (.cells #[.int .i64 t, .int .i64 r, .int .i64 s, .int .i64 q] e (0, 0))
theorem Cnt.cells {w : World} {B : Nat} {t r s q : Int} (h : Cnt w B t r s q) :
    (w.cell? ⟨B, 0, none⟩ = some (.int .i64 t) ∧ w.cell? ⟨B, 1, none⟩ = some (.int .i64 r) ∧ w.cell? ⟨B, 2, none⟩ = some (.int .i64 s) ∧ w.cell? ⟨B, 3, none⟩ = some (.int .i64 q)) ∧ ∀ j, w.frozen? ⟨B, j, none⟩ = false := by
  obtain ⟨e, h⟩ := h
  refine ⟨⟨?_, ?_, ?_, ?_⟩, fun j => ?_⟩ <;> simp [World.cell?, World.frozen?, h]
structure But (B : Nat) (w w' : World) : Prop where
  os : w'.os = w.os
  tape : w'.tape = w.tape
  output : w'.output = w.output
  size : w.heap.size ≤ w'.heap.size
  block : ∀ k, k < w.heap.size → k ≠ B → w'.heap[k]? = w.heap[k]?
theorem heap_setCell {w : World} {B : Nat} {cs : Array Value} {e : TypeId} {z : Nat × Nat} (h : w.heap[B]? = some (.cells cs e z)) (j : Nat) (v : Value) :
    (w.setCell ⟨B, j, none⟩ v).heap[B]? = some (.cells (cs.setIfInBounds j v) e z) ∧ (∀ k, k ≠ B → (w.setCell ⟨B, j, none⟩ v).heap[k]? = w.heap[k]?) ∧ (w.setCell ⟨B, j, none⟩ v).heap.size = w.heap.size ∧
      (w.setCell ⟨B, j, none⟩ v).os = w.os ∧ (w.setCell ⟨B, j, none⟩ v).tape = w.tape ∧ (w.setCell ⟨B, j, none⟩ v).output = w.output := by
  have hlt : B < w.heap.size := (Array.getElem?_eq_some_iff.1 h).1
  refine ⟨?_, fun k hk => ?_, ?_, ?_, ?_, ?_⟩
  · simp [World.setCell, Array.getElem?_modify, h]
  · simp [World.setCell, Array.getElem?_modify, Ne.symm hk]
  · simp [World.setCell, h]
  · simp [World.setCell, h]
  · simp [World.setCell, h]
  · simp [World.setCell, h]
theorem But.refl (B : Nat) (w : World) : But B w w := ⟨rfl, rfl, rfl, Nat.le_refl _, fun _ _ _ => rfl⟩
theorem But.trans {B : Nat} {w w' w'' : World} (h : But B w w') (h' : But B w' w'') : But B w w'' :=
  ⟨h'.os.trans h.os, h'.tape.trans h.tape, h'.output.trans h.output, Nat.le_trans h.size h'.size, fun k hk hb => (h'.block k (Nat.lt_of_lt_of_le hk h.size) hb).trans (h.block k hk hb)⟩
theorem But.drew {B : Nat} {w w' : World} (h : But B w w') : But B w w'.drew := ⟨h.os, h.tape, h.output, h.size, h.block⟩
theorem But.set {B : Nat} {w w' : World} (h : But B w w') {cs : Array Value} {e : TypeId} {z : Nat × Nat} (hc : w'.heap[B]? = some (.cells cs e z)) (j : Nat) (v : Value) : But B w (w'.setCell ⟨B, j, none⟩ v) := by
  obtain ⟨_, h2, h3, h4, h5, h6⟩ := heap_setCell hc j v
  exact h.trans ⟨h4, h5, h6, by rw [h3]; exact Nat.le_refl _, fun k _ hb => h2 k hb⟩
theorem Cnt.drew {w : World} {B : Nat} {t r s q : Int} (h : Cnt w B t r s q) : Cnt w.drew B t r s q := h
theorem Cnt.set0 {w : World} {B : Nat} {t r s q : Int} (h : Cnt w B t r s q) (x : Int) : Cnt (w.setCell ⟨B, 0, none⟩ (.int .i64 x)) B x r s q := by
  obtain ⟨e, h⟩ := h
  exact ⟨e, (heap_setCell h 0 _).1⟩
theorem Cnt.set {w : World} {B : Nat} {t r s q : Int} (h : Cnt w B t r s q) (j : Nat) (v : Value) : But B w (w.setCell ⟨B, j, none⟩ v) := by
  obtain ⟨e, h⟩ := h
  exact (But.refl B w).set h j v
set_option maxHeartbeats 1000000 in
theorem Tryz.bad (B : Nat) (t r s q : Int) (w : World) (h : Cnt w B t r s q) (ht : 0 ≤ t ∧ t ≤ 1000) :
    Calls Tryz.prog 211 #[.pointer (some ⟨B, 0, none⟩)] w fun e w' => (∃ v, e = .returned v) ∧ Cnt w' B (t + 8) r s q ∧ But B w w' := by
  obtain ⟨⟨h0, h1, h2, h3⟩, hf⟩ := h.cells
  have hf0 := hf 0
  have hw : wrap64 (t + 8) = t + 8 := by unfold wrap64; omega
  go_enter Tryz.func211, Tryz.ntmps211
  go_wp2
  go_end0
  exact ⟨⟨_, rfl⟩, h.set0 _, h.set 0 _⟩
set_option maxHeartbeats 1000000 in
theorem Tryz.poor (y : Int) (w : World) : Calls Tryz.prog 212 #[.int .i64 y] w fun e w' => e = .returned (.func (.func 220) #[] #[.pointer (some ⟨w.heap.size, 0, none⟩)]) ∧ w' = w.alloc (.cells #[.int .i64 y] 3) := by
  go_enter Tryz.func212, Tryz.ntmps212
  go_wp2
  go_ret
  exact ⟨rfl, rfl⟩
def findNowX (k : Value) : List MapEntry → Bool
  | [] => true
  | e :: es => (match k, e.key with | .int q a, .int q' b => q == q' && a != b | _, _ => false) && findNowX k es
theorem findNowX_none {q : IntKind} {n : Int} : ∀ (es : List MapEntry) (i : Nat), findNowX (.int q n) es = true → Instr.findNow (.int q) (.int q n) es i = some none
  | [], _, _ => rfl
  | e :: es, i, h => by
    simp only [findNowX, Bool.and_eq_true] at h
    obtain ⟨h1, h2⟩ := h
    cases hk : e.key <;> rw [hk] at h1 <;> simp at h1
    obtain ⟨rfl, hne⟩ := h1
    have hb : (n == ‹Int›) = false := by simpa using hne
    simp only [Instr.findNow, hk, Instr.sameNow, if_true]
    rw [hb]
    exact findNowX_none es (i + 1) h2
theorem wpList_insert {P : Program} {ops : Array Oper} {rest : List Oper} {o : Oper} {a : Act} {w : World} {Q : Exit → Act → World → Prop} (hgd : o.guard = none) (hd : o.dst = none) (mt kt et : TypeId) (k : Tmp) (n : Int) (x : Operand) (ho : o.op = .insert mt (.tmp k) (.const (.int .i64 n)) x)
    (hmt : P.underlying mt = some (.map kt et)) (hkt : P.underlying kt = some (.int .i64)) (m : Nat) (es : Array MapEntry) (c : Nat) (hm : a.eval (.tmp k) = .map (some m)) (hobj : w.heap[m]? = some (.map es c))
    (hfresh : findNowX (.int .i64 n) es.toList = true)
    (h : ∀ w', Hid (w' = w.putObj m (.map (es.push { key := .int .i64 n, val := a.eval x, born := c }) (c + 1))) → w'.heap[m]? = some (.map (es.push { key := .int .i64 n, val := a.eval x, born := c }) (c + 1)) → wpList P ops Q rest a w') : wpList P ops Q (o :: rest) a w := by
  refine wpList_plain hgd fun K hK => ?_
  have hck : ∀ b w, (Instr.checkKey b 10000 kt (.int .i64 n)).run P w = .ok () w := by
    have : ∀ d b w, (Instr.checkKey b (d + 1) kt (.int .i64 n)).run P w = .ok () w := by
      intro d b w
      simp only [Instr.checkKey]
      simp [run_underlying hkt]
    exact this 9999
  have hfk : ∀ w, (Instr.findKey kt (.int .i64 n) es.toList).run P w = .ok none w := by
    intro w
    simp [Instr.findKey, run_underlying hkt, findNowX_none _ 0 hfresh]
  have hrun : (execOp a.eval o).run P w = .ok .skip (w.putObj m (.map (es.push { key := .int .i64 n, val := a.eval x, born := c }) (c + 1))) := by
    have hk : a.eval (.const (.int .i64 n)) = .int .i64 n := rfl
    simp only [execOp, ho, hm, hk]
    simp [Instr.mapUpdate, run_underlying hmt, hobj, hck, hfk, World.putObj, MapKept.run_getObj_map hobj, MapKept.run_setObj_map _ hobj, Result.andThen]
  unfold Oper.wp
  rw [hrun]
  have hlt : m < w.heap.size := (Array.getElem?_eq_some_iff.1 hobj).1
  have := hK (a.put o.dst undef) _ (by rw [hd]; exact h _ rfl (World.putObj_heap_same hlt))
  exact this
theorem alloc_heap {w w2 : World} {o x : Obj} {m : Nat} (hw : w2 = w.alloc o) (h : w.heap[m]? = some x) : w2.heap[m]? = some x := by
  subst hw
  show (w.heap.push o)[m]? = _
  rw [Array.getElem?_push, if_neg (Nat.ne_of_lt (Array.getElem?_eq_some_iff.1 h).1)]
  exact h
theorem below_put {B : Nat} {w w' : World} {m : Nat} {o : Obj} (hm : B ≤ m) (h : Below B w w') : Below B w (w'.putObj m o) :=
  ⟨h.os, h.tape, h.output, by rw [World.putObj_size]; exact h.size, fun k hk => by rw [World.putObj_heap_other (by omega)]; exact h.block k hk⟩
set_option maxHeartbeats 1000000 in
theorem Tryz.works (w : World) : Calls Tryz.prog 185 #[] w fun e w' => ∃ m Y Z es c, e = .returned (.map (some m)) ∧ Below w.heap.size w w' ∧ w'.heap[m]? = some (.map es c) ∧ w.heap.size ≤ Y ∧ w.heap.size ≤ Z ∧
    w'.cell? ⟨Y, 0, none⟩ = some (.int .i64 1) ∧ w'.cell? ⟨Z, 0, none⟩ = some (.int .i64 8) ∧
    es.toList.map (fun e => (e.key, e.val)) = [(.int .i64 1, .func (.func 209) #[] #[]), (.int .i64 2, .func (.func 210) #[] #[]), (.int .i64 3, .func (.func 211) #[] #[]),
      (.int .i64 4, .func (.func 220) #[] #[.pointer (some ⟨Y, 0, none⟩)]), (.int .i64 5, .func (.func 220) #[] #[.pointer (some ⟨Z, 0, none⟩)])] := by
  have hmm := @run_makeMap Tryz.prog
  go_enter Tryz.func185, Tryz.ntmps185
  go_wp2_with (first
    | (show wpList _ _ _ (Oper.mk none (Op.insert _ _ _ _) _ _ _ none :: _) _ _
       refine wpList_insert rfl rfl 211 3 209 1 _ _ rfl Tryz.underlying211 Tryz.underlying3 _ _ _ rfl (by first | assumption | exact alloc_new _ _) (by rfl) ?_
       intro w' hw' hm')
    | (go_at_call 212; refine (Tryz.poor _ _).mono ?_; rintro e w2 ⟨rfl, hw2⟩; have hm2 := alloc_heap hw2 hm'; have hw3 : Hid (w2 = _) := hw2; clear hw2))
  rename_i wa ha ma wb hb mb wc hc mc wd md hd we he me
  have ba : Below w.heap.size w wa := by
    have h : wa = (w.alloc (.map #[] 0)).putObj w.heap.size _ := ha
    rw [h]
    exact below_put (Nat.le_refl _) ((Below.refl _ w).alloc (Nat.le_refl _) _)
  have bb : Below w.heap.size w wb := by have h : wb = wa.putObj w.heap.size _ := hb; rw [h]; exact below_put (Nat.le_refl _) ba
  have bc : Below w.heap.size w wc := by have h : wc = wb.putObj w.heap.size _ := hc; rw [h]; exact below_put (Nat.le_refl _) bb
  have bd : Below w.heap.size w wd := by have h : wd = wc.alloc _ := hd; rw [h]; exact bc.alloc bc.size _
  have be : Below w.heap.size w we := by have h : we = wd.putObj w.heap.size _ := he; rw [h]; exact below_put (Nat.le_refl _) bd
  have bf : Below w.heap.size w w2 := by have h : w2 = we.alloc _ := hw3; rw [h]; exact be.alloc be.size _
  have bg : Below w.heap.size w w' := by have h : w' = w2.putObj w.heap.size _ := hw'; rw [h]; exact below_put (Nat.le_refl _) bf
  have lt : ∀ {W : World} {x : Obj}, W.heap[w.heap.size]? = some x → w.heap.size < W.heap.size := fun h => (Array.getElem?_eq_some_iff.1 h).1
  have cY1 : wd.heap[wc.heap.size]? = some (.cells #[.int .i64 1] 3) := by have h : wd = wc.alloc _ := hd; rw [h]; exact alloc_new _ _
  have cY2 : we.heap[wc.heap.size]? = some (.cells #[.int .i64 1] 3) := by have h : we = wd.putObj w.heap.size _ := he; rw [h, World.putObj_heap_other (by have := lt mc; omega)]; exact cY1
  have cY3 : w2.heap[wc.heap.size]? = some (.cells #[.int .i64 1] 3) := by have h : w2 = we.alloc _ := hw3; exact alloc_heap h cY2
  have cY4 : w'.heap[wc.heap.size]? = some (.cells #[.int .i64 1] 3) := by have h : w' = w2.putObj w.heap.size _ := hw'; rw [h, World.putObj_heap_other (by have := lt mc; omega)]; exact cY3
  have cZ1 : w2.heap[we.heap.size]? = some (.cells #[.int .i64 8] 3) := by have h : w2 = we.alloc _ := hw3; rw [h]; exact alloc_new _ _
  have cZ2 : w'.heap[we.heap.size]? = some (.cells #[.int .i64 8] 3) := by have h : w' = w2.putObj w.heap.size _ := hw'; rw [h, World.putObj_heap_other (by have := lt me; omega)]; exact cZ1
  go_ret
  exact ⟨w.heap.size, wc.heap.size, we.heap.size, _, _, rfl, bg, hm', bc.size, be.size, by simp [World.cell?, cY4], by simp [World.cell?, cZ2], by rfl⟩
end Go.Proofs

set_option maxRecDepth 100000
namespace Go.Pv
open Go Go.RowKit
theorem CallOk.drop {P : Program} {f : FuncId} {args : List PV} {res : PV} {σ' : Store} (h : CallOk P f args [] res σ') (hd : res.isData = true) : CallOk P f args [] res [] := by
 refine ⟨h.1, fun w Im O β vs hg hO hargs => (h.2 w Im O β vs hg hO hargs).mono ?_⟩
 rintro e w' ⟨v, Im', O', β', l, rfl, hf, hx, hg', hrep, hown⟩
 have hβ : β = [] := List.eq_nil_of_length_eq_zero (by rw [hg.len]; rfl)
 subst hβ
 refine ⟨v, Im', fun b => if isSlot (O' b) then O' b else none, [], l, rfl, ⟨hf.env, hf.size, hf.same, hf.keep, hf.new, fun b hb ho => ?_⟩, .refl _, ⟨rfl, by simp, hg'.im, ?_, ?_⟩, data_ext hrep (PV.data_of _ hd), ?_⟩
 ·show (if isSlot (O' b) then O' b else none) = none
  rw [hf.own b hb ho]; rfl
 ·intro b o hb id ho
  replace ho : (if isSlot (O' b) then O' b else none) = some (.box id) := ho
  split at ho
  ·rename_i hs; rw [ho] at hs; cases hs
  ·cases ho
 ·intro b hb
  refine hg'.lim b fun h0 => hb ?_
  show (if isSlot (O' b) then O' b else none) = none
  rw [h0]; rfl
 ·refine hown.mono fun b hb => ⟨?_, rfl, fun _ h => h⟩
  show (if isSlot (O' b) then O' b else none) = _
  rw [hb]; rfl
end Go.Pv
namespace Go.Proofs
open Go.Shelf Go.RowKit Go.Lib Go.Pv
noncomputable def E0 : Env := { P := Tryz.prog, good := fun f => goodF f && !wildF f, pure := pureF, ov := fun _ => none, ro := roF, apart := apF, alt := altF }
@[simp] theorem E0x (b : Bool) (f : FuncId) : E0.ext b f = none := rfl
@[simp] theorem E0lo : E0.loose = false := rfl
@[simp] theorem E0w (f : FuncId) : E0.wild f = false := rfl
@[simp] theorem E0mk (d : Option Tmp) : mkSel E0 d = false := by cases d <;> rfl
@[simp] theorem E0al (p : String) (n : Nat) : E0.alt p n = altF p n := rfl
def okF (E : Env) (f : Nat) : Bool := match E.P.funcs[f]? with | some fn => (match fn.body with | some c => codeOk (E.at f) c && fn.name != "runtime.NumGoroutine" | none => true) | none => true
theorem envOk_of {E : Env} {n : Nat} (hm : E.P.follows .mixedOrders = true) (hg : ∀ f, E.good f = true → f < n) (h : (List.range n).all (fun f => !E.good f || okF E f) = true) (ho : OvOk E) (hl : E.loose = false := by rfl) : EnvOk E := by
 refine ⟨hm, fun f fn c hgf hf hb => ?_, hl, ho⟩
 have := List.all_eq_true.1 h f (List.mem_range.2 (hg f hgf))
 simp only [hgf, okF, hf, hb, Bool.not_true, Bool.false_or, Bool.and_eq_true, bne_iff_ne] at this
 exact this
theorem E0_ok : EnvOk E0 := envOk_of (n := nFn) Tryz.mixed (fun f h => goodF_lt f (Bool.and_eq_true_iff.1 h).1) (by kernel_rfl) ⟨fun f g h => (by cases h), fun b f g h => (by cases h)⟩
def Entry (what : Int) (pf : PV) (ok : Bool) : Prop :=
 (what = 1 ∧ pf = .func (.func 209) [] [] ∧ ok = true) ∨ (what = 2 ∧ pf = .func (.func 210) [] [] ∧ ok = true) ∨ (what = 3 ∧ pf = .func (.func 211) [] [] ∧ ok = true) ∨
 (what = 4 ∧ pf = .func (.func 220) [] [.ro [.int .i64 1]] ∧ ok = true) ∨ (what = 5 ∧ pf = .func (.func 220) [] [.ro [.int .i64 8]] ∧ ok = true) ∨ (what = 6 ∧ pf = .nilFunc ∧ ok = false)
theorem ro_one {w : World} {Im : ImT} {β : List Nat} {Y : Nat} {n : Int} (hY : w.cell? ⟨Y, 0, none⟩ = some (.int .i64 n)) (iY : Im Y 0) : RepP w Im β (.ro [.int .i64 n]) (.pointer (some ⟨Y, 0, none⟩)) := by
 have h0 : ∀ j, j < 1 → j = 0 := fun j hj => by omega
 refine .ro _ _ (fun _ => .int .i64 n) rfl (fun j hj => ?_) (fun j hj => ?_) (fun j x hx => ?_)
 ·have := h0 j hj; subst this; simpa using hY
 ·have := h0 j hj; subst this; simpa using iY
 ·cases j with
  | zero => simp at hx; subst hx; exact .int _ _
  | succ j => simp at hx
theorem lookup_run {w : World} {m : Nat} {es : Array MapEntry} {c : Nat} {Y Z : Nat} (hm : w.heap[m]? = some (.map es c)) (hes : es.toList.map (fun e => (e.key, e.val)) = [(.int .i64 1, .func (.func 209) #[] #[]), (.int .i64 2, .func (.func 210) #[] #[]), (.int .i64 3, .func (.func 211) #[] #[]),
   (.int .i64 4, .func (.func 220) #[] #[.pointer (some ⟨Y, 0, none⟩)]), (.int .i64 5, .func (.func 220) #[] #[.pointer (some ⟨Z, 0, none⟩)])])
  {Im : ImT} {β : List Nat} (hY : w.cell? ⟨Y, 0, none⟩ = some (.int .i64 1)) (hZ : w.cell? ⟨Z, 0, none⟩ = some (.int .i64 8)) (iY : Im Y 0) (iZ : Im Z 0) {what : Int} {pf : PV} {ok : Bool} (he : Entry what pf ok) :
  ∃ fv, (Instr.lookup 211 (.map (some m)) (.int .i64 what) true).run Tryz.prog w = .ok (.tuple #[fv, .bool ok]) w ∧ RepP w Im β pf fv := by
 have hck : ∀ b w, (Instr.checkKey b 10000 3 (.int .i64 what)).run Tryz.prog w = .ok () w := by
  have : ∀ d b w, (Instr.checkKey b (d + 1) 3 (.int .i64 what)).run Tryz.prog w = .ok () w := by
   intro d b w
   simp only [Instr.checkKey]
   simp [run_underlying Tryz.underlying3]
  exact this 9999
 have hu := run_underlying Tryz.underlying211
 have hg := MapKept.run_getObj_map (P := Tryz.prog) hm
 obtain ⟨e1, l1, hl1, kv1, hes⟩ := List.map_eq_cons_iff.1 hes
 obtain ⟨e2, l2, hl2, kv2, hes⟩ := List.map_eq_cons_iff.1 hes
 obtain ⟨e3, l3, hl3, kv3, hes⟩ := List.map_eq_cons_iff.1 hes
 obtain ⟨e4, l4, hl4, kv4, hes⟩ := List.map_eq_cons_iff.1 hes
 obtain ⟨e5, l5, hl5, kv5, hes⟩ := List.map_eq_cons_iff.1 hes
 have hl6 := List.map_eq_nil_iff.1 hes
 have hl : es.toList = [e1, e2, e3, e4, e5] := by rw [hl1, hl2, hl3, hl4, hl5, hl6]
 simp only [Prod.mk.injEq] at kv1 kv2 kv3 kv4 kv5
 obtain ⟨k1, v1⟩ := kv1
 obtain ⟨k2, v2⟩ := kv2
 obtain ⟨k3, v3⟩ := kv3
 obtain ⟨k4, v4⟩ := kv4
 obtain ⟨k5, v5⟩ := kv5
 ·skip
  have hf : ∀ w r, Instr.findNow (.int .i64) (.int .i64 what) es.toList 0 = some r → (Instr.findKey 3 (.int .i64 what) es.toList).run Tryz.prog w = .ok r w := by
   intro w r hr
   simp [Instr.findKey, run_underlying Tryz.underlying3, hr]
  have hnow : ∀ n : Int, Instr.findNow (.int .i64) (.int .i64 n) es.toList 0 = if n = 1 then some (some (0, e1.val)) else if n = 2 then some (some (1, e2.val)) else if n = 3 then some (some (2, e3.val)) else if n = 4 then some (some (3, e4.val)) else if n = 5 then some (some (4, e5.val)) else some none := by
   intro n
   rw [hl]
   simp only [Instr.findNow, Instr.sameNow, k1, k2, k3, k4, k5, if_true]
   by_cases h1 : n = 1
   ·simp [h1]
   by_cases h2 : n = 2
   ·simp [h2]
   by_cases h3 : n = 3
   ·simp [h3]
   by_cases h4 : n = 4
   ·simp [h4]
   by_cases h5 : n = 5
   ·simp [h5]
   have e1 : (n == 1) = false := by simpa using h1
   have e2 : (n == 2) = false := by simpa using h2
   have e3 : (n == 3) = false := by simpa using h3
   have e4 : (n == 4) = false := by simpa using h4
   have e5 : (n == 5) = false := by simpa using h5
   rw [e1, e2, e3, e4, e5]
   simp [h1, h2, h3, h4, h5]
  have run : ∀ r fv, Instr.findNow (.int .i64) (.int .i64 what) es.toList 0 = some r → (r.map (·.2)).getD .nilFunc = fv → (Instr.lookup 211 (.map (some m)) (.int .i64 what) true).run Tryz.prog w = .ok (.tuple #[fv, .bool r.isSome]) w := by
   intro r fv hr hfv
   subst hfv
   have hfr := hf w r hr
   cases r with
   | none => simp [Instr.lookup, hu, hg, hck, hfr, Tryz.zeroValue209]
   | some x => simp [Instr.lookup, hu, hg, hck, hfr]
  have roY : RepP w Im β (.ro [.int .i64 1]) (.pointer (some ⟨Y, 0, none⟩)) := ro_one hY iY
  have roZ : RepP w Im β (.ro [.int .i64 8]) (.pointer (some ⟨Z, 0, none⟩)) := ro_one hZ iZ
  have f0 : ∀ g, RepP w Im β (.func (.func g) [] []) (.func (.func g) #[] #[]) := fun g => .func _ _ _ _ _ rfl rfl (by simp) (by simp)
  have f1 : ∀ (g : Nat) (p : PV) (v : Value), RepP w Im β p v → RepP w Im β (.func (.func g) [] [p]) (.func (.func g) #[] #[v]) := fun g p v h => .func _ _ _ _ _ rfl rfl (by simp) (fun i q u hq hu => by
   cases i with
   | zero => simp at hq hu; subst hq; subst hu; exact h
   | succ i => simp at hq)
  rcases he with ⟨rfl, rfl, rfl⟩ | ⟨rfl, rfl, rfl⟩ | ⟨rfl, rfl, rfl⟩ | ⟨rfl, rfl, rfl⟩ | ⟨rfl, rfl, rfl⟩ | ⟨rfl, rfl, rfl⟩
  ·exact ⟨_, run (some (0, e1.val)) _ (by rw [hnow]; rfl) rfl, by simp only [Option.map_some, Option.getD_some, v1]; exact f0 209⟩
  ·exact ⟨_, run (some (1, e2.val)) _ (by rw [hnow]; rfl) rfl, by simp only [Option.map_some, Option.getD_some, v2]; exact f0 210⟩
  ·exact ⟨_, run (some (2, e3.val)) _ (by rw [hnow]; rfl) rfl, by simp only [Option.map_some, Option.getD_some, v3]; exact f0 211⟩
  ·exact ⟨_, run (some (3, e4.val)) _ (by rw [hnow]; rfl) rfl, by simp only [Option.map_some, Option.getD_some, v4]; exact f1 _ _ _ roY⟩
  ·exact ⟨_, run (some (4, e5.val)) _ (by rw [hnow]; rfl) rfl, by simp only [Option.map_some, Option.getD_some, v5]; exact f1 _ _ _ roZ⟩
  ·exact ⟨_, run none _ (by rw [hnow]; rfl) rfl, .nilFunc⟩
end Go.Proofs

set_option maxRecDepth 100000
namespace Go.Proofs
open Go.Shelf Go.RowKit Go.Lib Go.Pv
theorem want_none {ops : Array Oper} {o : Oper} (h : o.guard = none) (a : Act) : Region.wanted o (yielded ops a.tmps) = true := by simp [Region.wanted, h]
theorem step_r6 {ops : Array Oper} {id : Nat} {o0 o1 o2 : Oper} (hsz : ops.size = 8) (h0 : ops[0]? = some o0) (p0 : o0.op = .call { callee := .value (.func 185), args := #[], argTypes := #[] }) (d0 : o0.dst = some 18) (g0 : o0.guard = none)
  (h1 : ops[1]? = some o1) (p1 : o1.op = .move (.tmp 1)) (d1 : o1.dst = some 19) (g1 : o1.guard = none) (h2 : ops[2]? = some o2) (p2 : o2.op = .lookup 211 (.tmp 18) (.tmp 19) true) (d2 : o2.dst = some 20) (g2 : o2.guard = none)
  {what : Int} {pf : PV} {ok : Bool} (he : Entry what pf ok) {w : World} {Im : ImT} {O : OwT} {β : List Nat} {st : St} {a : Act} (hI : Inv w Im O β st a) (hlen : st.slots.length = 33) (hw : rd st.slots 1 = .d (.int .i64 what))
  {st' : St} (hev : evIdx E0 (evI E0) ops [3, 4, 5, 6, 7] ⟨((st.slots.set 18 .any).set 19 (.d (.int .i64 what))).set 20 (.tup [pf, .d (.bool ok)]), st.store⟩ = some st') {Q : Exit → Act → World → Prop}
  (hQ : ∀ w' Im' O' β' a', Fr w Im O w' Im' O' → Ext β β' → Inv w' Im' O' β' st' a' → a'.defers = a.defers → Q .normal a' w') : (Code.region id ops false).wp Tryz.prog Q a w := by
 refine wp_region ?_
 rw [hsz]
 show wpOps Tryz.prog ops Q [0, 1, 2, 3, 4, 5, 6, 7] a w
 rw [wpOps_cons]
 unfold wpOp
 simp only [h0, want_none g0, if_true]
 refine .inl ?_
 have hrun0 : (execOp a.eval o0).run Tryz.prog w = .ok (.enter 185 #[]) w := by
  have := enters_of Tryz.func185 (by kernel_rfl) (by rfl : Tryz.f185.body = some _)
  simp [execOp, p0, resolve, Act.eval, invoke, Deferred.ofValue, this #[] w]
 unfold Oper.wp
 rw [hrun0]
 refine (Tryz.works w).mono ?_
 rintro e w1 ⟨m, Y, Z, es, c, rfl, hb, hm, hY, hZ, cY, cZ, hes⟩
 show wpOps Tryz.prog ops Q [1, 2, 3, 4, 5, 6, 7] (a.put o0.dst (.map (some m))) w1
 rw [wpOps_cons]
 -- the world behind the making of the table
 obtain ⟨gd1, fr1, sl1⟩ := hI.good.newW (w' := w1) (Im' := fun b o => Im b o ∨ (b = Y ∧ o = 0) ∨ (b = Z ∧ o = 0)) (below_newW hb) (fun _ _ h => .inl h) (fun b o h => by
  rcases h with h | ⟨rfl, rfl⟩ | ⟨rfl, rfl⟩
  ·exact .inl h
  ·exact .inr ⟨hY, _, cY⟩
  ·exact .inr ⟨hZ, _, cZ⟩)
 have hS1 := sl1 _ _ hI.slots
 have hI1 : Pv.Inv w1 _ O β ⟨st.slots.set 18 .any, st.store⟩ (a.put o0.dst (.map (some m))) :=
  ⟨gd1, by have := hS1.put (a := a) (r := .any) (v := .map (some m)) (dst := o0.dst) (.any _ rfl) (fun d _ => .of_not (by simp)); rw [show putS st.slots o0.dst .any = st.slots.set 18 .any by rw [d0]; rfl] at this; exact this⟩
 have l18 : (st.slots.set 18 .any).length = 33 := by simp [hlen]
 have hr1 : rd (st.slots.set 18 .any) 1 = .d (.int .i64 what) := by rw [← hw]; simp [rd, List.getD, List.getElem?_set]
 have e1 : (a.put o0.dst (.map (some m))).eval (.tmp 1) = .int .i64 what := by
  have := (hI1.slots.get 1).1
  simp only at this
  rw [hr1] at this
  exact this.int_inv
 have sz : (a.put o0.dst (.map (some m))).tmps.size = 33 := by rw [← hI1.slots.len]; exact l18
 unfold wpOp
 simp only [h1, want_none g1, if_true]
 refine .inl ?_
 have hrun1 : (execOp (a.put o0.dst (.map (some m))).eval o1).run Tryz.prog w1 = .ok (.value (.int .i64 what)) w1 := by
  simp [execOp, p1, e1]
 unfold Oper.wp
 rw [hrun1]
 show wpOps Tryz.prog ops Q [2, 3, 4, 5, 6, 7] ((a.put o0.dst (.map (some m))).put o1.dst (.int .i64 what)) w1
 have hI2 : Pv.Inv w1 _ O β ⟨(st.slots.set 18 .any).set 19 (.d (.int .i64 what)), st.store⟩ ((a.put o0.dst (.map (some m))).put o1.dst (.int .i64 what)) :=
  ⟨gd1, by have := hI1.slots.put (r := .d (.int .i64 what)) (v := .int .i64 what) (dst := o1.dst) (.d (.int _ _)) (fun d _ => .of_not (by simp)); rw [show putS (st.slots.set 18 .any) o1.dst (.d (.int .i64 what)) = (st.slots.set 18 .any).set 19 (.d (.int .i64 what)) by rw [d1]; rfl] at this; exact this⟩
 rw [wpOps_cons]
 unfold wpOp
 simp only [h2, want_none g2, if_true]
 refine .inl ?_
 obtain ⟨fv, hlk, hfv⟩ := lookup_run (β := β) (Im := fun b o => Im b o ∨ (b = Y ∧ o = 0) ∨ (b = Z ∧ o = 0)) hm hes cY cZ (.inr (.inl ⟨rfl, rfl⟩)) (.inr (.inr ⟨rfl, rfl⟩)) he
 have e18 : ((a.put o0.dst (.map (some m))).put o1.dst (.int .i64 what)).eval (.tmp 18) = .map (some m) := by
  have hsa : 18 < a.tmps.size := by rw [d0] at sz; simp [Act.put] at sz; omega
  rw [d0, d1]
  simp [Act.put, Act.eval, hsa]
 have e19 : ((a.put o0.dst (.map (some m))).put o1.dst (.int .i64 what)).eval (.tmp 19) = .int .i64 what := by
  have := (hI2.slots.get 19).1
  simp only at this
  rw [show rd ((st.slots.set 18 .any).set 19 (.d (.int .i64 what))) 19 = .d (.int .i64 what) by simp [rd, List.getD, List.getElem?_set, hlen]] at this
  exact this.int_inv
 have hrun2 : (execOp ((a.put o0.dst (.map (some m))).put o1.dst (.int .i64 what)).eval o2).run Tryz.prog w1 = .ok (.value (.tuple #[fv, .bool ok])) w1 := by
  simp [execOp, p2, e18, e19, hlk]
 unfold Oper.wp
 rw [hrun2]
 show wpOps Tryz.prog ops Q [3, 4, 5, 6, 7] (((a.put o0.dst (.map (some m))).put o1.dst (.int .i64 what)).put o2.dst (.tuple #[fv, .bool ok])) w1
 have hI3 : Pv.Inv w1 _ O β ⟨((st.slots.set 18 .any).set 19 (.d (.int .i64 what))).set 20 (.tup [pf, .d (.bool ok)]), st.store⟩ (((a.put o0.dst (.map (some m))).put o1.dst (.int .i64 what)).put o2.dst (.tuple #[fv, .bool ok])) :=
  ⟨gd1, by
   have := hI2.slots.put (r := .tup [pf, .d (.bool ok)]) (v := .tuple #[fv, .bool ok]) (dst := o2.dst) (.tup _ _ rfl (fun i q u hq hu => by
    cases i with
    | zero => simp at hq hu; subst hq; subst hu; exact hfv
    | succ i =>
     cases i with
     | zero => simp at hq hu; subst hq; subst hu; exact .d (.bool _)
     | succ i => simp at hq)) (fun d _ => .of_not (by simp))
   rw [show putS ((st.slots.set 18 .any).set 19 (.d (.int .i64 what))) o2.dst (.tup [pf, .d (.bool ok)]) = ((st.slots.set 18 .any).set 19 (.d (.int .i64 what))).set 20 (.tup [pf, .d (.bool ok)]) by rw [d2]; rfl] at this
   exact this⟩
 refine evIdx_ok (evI_ok E0_ok) E0_ok.ov _ hI3 hev (fun w' Im' O' β' a' k1 k2 k3 k4 => hQ w' Im' O' β' a' (fr1.trans k1) k2 k3 (k4.trans ?_))
 rw [put_defers, put_defers, put_defers]
end Go.Proofs

set_option maxRecDepth 100000
namespace Go.Proofs
open Go.Shelf Go.RowKit Go.Lib Go.Pv
theorem Tryz.aggT47 : aggT Tryz.prog 47 = some true := by kernel_rfl
theorem Tryz.aggT190 : aggT Tryz.prog 190 = some true := by kernel_rfl
theorem Tryz.aggT3 : aggT Tryz.prog 3 = some false := by kernel_rfl
theorem Tryz.szT47 : szT Tryz.prog 47 = some 4 := by kernel_rfl
theorem Tryz.szT190 : szT Tryz.prog 190 = some 4 := by kernel_rfl
theorem Tryz.szT3 : szT Tryz.prog 3 = some 1 := by kernel_rfl
theorem Tryz.zeroT47 : zeroT Tryz.prog 47 = some (.agg [.d (.int .i64 0), .d (.int .i64 0), .d (.int .i64 0), .d (.int .i64 0)]) := by kernel_rfl
theorem Tryz.zeroT190 : zeroT Tryz.prog 190 = some (.agg [.d (.int .i64 0), .d (.int .i64 0), .d (.int .i64 0), .d (.int .i64 0)]) := by kernel_rfl
theorem Tryz.placesOf47 : placesOf Tryz.prog 47 = some (fun i => [(0, 1), (1, 1), (2, 1), (3, 1)][i]?) := by kernel_rfl
theorem E0P : E0.P = Tryz.prog := rfl
theorem ev81 (b0 b1 : List PV) (t r s q : Int) (ht : 0 ≤ t ∧ t ≤ 1000) : evI E0 209 [.ptr 2 0] [b0, b1, [.d (.int .i64 t), .d (.int .i64 r), .d (.int .i64 s), .d (.int .i64 q)]] =
  some (.tup [], [b0, b1, [.d (.int .i64 (max (t - 1) 0)), .d (.int .i64 r), .d (.int .i64 s), .d (.int .i64 q)]]) := by
 have hw : IntKind.i64.wrap (t - 1) = t - 1 := by rw [IntWalk.i64_left]; unfold wrap64; omega
 refine evI_run (fn := Tryz.f209) 5 rfl Tryz.func209 rfl ?_
 simp [Tryz.f209, evCode, evOps, evOp, evWant, evCore, evPure, evCall, use, useL, useParts, opv, rd, putS, untake, moveIt, takes, af_nil, af_cons, appTmp, apartL, apartB, posOf, cellsOf, isBelowL, PV.isBelow, boxCells, isDataL, PV.isData, loadAs, loadS, storeS, storeAs, storedCells, oneP, PV.strip, PV.strip1, PV.keep0, evFieldAddr, evField, partP, evSlice, bound, natOf, rowsOk, evIndexAddr, evIndex, evLen, evAppend, ownRows, elemsOf, acc, fillP, bin_add, bin_sub, bin_mul, bin_lss, bin_leq, bin_gtr, bin_geq, bin_eql, bin_neq, bin_and, bin_andNot, un_not, mm_max, mm_min, ofValue, ofCell, slotOf, resVal, resOne, resL, retOf, toDL, toD, sameStore, sameCells, PV.same, DV.same_self, sameRows_self, sameL_self, E0P, (show E0.apart = apF from rfl), Tryz.aggT3, Tryz.szT3, Tryz.aggT47, Tryz.szT47, Tryz.aggT190, Tryz.szT190, Tryz.underlying190, hw]
theorem ev82 (b0 b1 : List PV) (t r s q : Int) (ht : 0 ≤ r ∧ r ≤ 1000) : evI E0 210 [.ptr 2 0] [b0, b1, [.d (.int .i64 t), .d (.int .i64 r), .d (.int .i64 s), .d (.int .i64 q)]] =
  some (.tup [], [b0, b1, [.d (.int .i64 t), .d (.int .i64 (min (max (r - 1) 0) 127)), .d (.int .i64 s), .d (.int .i64 q)]]) := by
 have hw : IntKind.i64.wrap (r - 1) = r - 1 := by rw [IntWalk.i64_left]; unfold wrap64; omega
 refine evI_run (fn := Tryz.f210) 5 rfl Tryz.func210 rfl ?_
 simp [Tryz.f210, evCode, evOps, evOp, evWant, evCore, evPure, evCall, use, useL, useParts, opv, rd, putS, untake, moveIt, takes, af_nil, af_cons, appTmp, apartL, apartB, posOf, cellsOf, isBelowL, PV.isBelow, boxCells, isDataL, PV.isData, loadAs, loadS, storeS, storeAs, storedCells, oneP, PV.strip, PV.strip1, PV.keep0, evFieldAddr, evField, partP, evSlice, bound, natOf, rowsOk, evIndexAddr, evIndex, evLen, evAppend, ownRows, elemsOf, acc, fillP, bin_add, bin_sub, bin_mul, bin_lss, bin_leq, bin_gtr, bin_geq, bin_eql, bin_neq, bin_and, bin_andNot, un_not, mm_max, mm_min, ofValue, ofCell, slotOf, resVal, resOne, resL, retOf, toDL, toD, sameStore, sameCells, PV.same, DV.same_self, sameRows_self, sameL_self, E0P, (show E0.apart = apF from rfl), Tryz.aggT3, Tryz.szT3, Tryz.aggT47, Tryz.szT47, Tryz.aggT190, Tryz.szT190, Tryz.underlying190, hw]
theorem ev83 (b0 b1 : List PV) (t r s q : Int) (ht : 0 ≤ t ∧ t ≤ 1000) : evI E0 211 [.ptr 2 0] [b0, b1, [.d (.int .i64 t), .d (.int .i64 r), .d (.int .i64 s), .d (.int .i64 q)]] =
  some (.tup [], [b0, b1, [.d (.int .i64 (t + 8)), .d (.int .i64 r), .d (.int .i64 s), .d (.int .i64 q)]]) := by
 have hw : IntKind.i64.wrap (t + 8) = t + 8 := by rw [IntWalk.i64_left]; unfold wrap64; omega
 refine evI_run (fn := Tryz.f211) 5 rfl Tryz.func211 rfl ?_
 simp [Tryz.f211, evCode, evOps, evOp, evWant, evCore, evPure, evCall, use, useL, useParts, opv, rd, putS, untake, moveIt, takes, af_nil, af_cons, appTmp, apartL, apartB, posOf, cellsOf, isBelowL, PV.isBelow, boxCells, isDataL, PV.isData, loadAs, loadS, storeS, storeAs, storedCells, oneP, PV.strip, PV.strip1, PV.keep0, evFieldAddr, evField, partP, evSlice, bound, natOf, rowsOk, evIndexAddr, evIndex, evLen, evAppend, ownRows, elemsOf, acc, fillP, bin_add, bin_sub, bin_mul, bin_lss, bin_leq, bin_gtr, bin_geq, bin_eql, bin_neq, bin_and, bin_andNot, un_not, mm_max, mm_min, ofValue, ofCell, slotOf, resVal, resOne, resL, retOf, toDL, toD, sameStore, sameCells, PV.same, DV.same_self, sameRows_self, sameL_self, E0P, (show E0.apart = apF from rfl), Tryz.aggT3, Tryz.szT3, Tryz.aggT47, Tryz.szT47, Tryz.aggT190, Tryz.szT190, Tryz.underlying190, hw]
theorem ev89 (b0 b1 : List PV) (t r s q y : Int) (ht : 0 ≤ r ∧ r ≤ 1000) (hy : 0 ≤ y ∧ y ≤ 1000) : evI E0 220 [.ptr 2 0, .ro [.int .i64 y]] [b0, b1, [.d (.int .i64 t), .d (.int .i64 r), .d (.int .i64 s), .d (.int .i64 q)]] =
  some (.tup [], [b0, b1, [.d (.int .i64 t), .d (.int .i64 (min (r + y) 255)), .d (.int .i64 s), .d (.int .i64 q)]]) := by
 have hw : IntKind.i64.wrap (r + y) = r + y := by rw [IntWalk.i64_left]; unfold wrap64; omega
 refine evI_run (fn := Tryz.f220) 5 rfl Tryz.func220 rfl ?_
 simp [Tryz.f220, evCode, evOps, evOp, evWant, evCore, evPure, evCall, use, useL, useParts, opv, rd, putS, untake, moveIt, takes, af_nil, af_cons, appTmp, apartL, apartB, posOf, cellsOf, isBelowL, PV.isBelow, boxCells, isDataL, PV.isData, loadAs, loadS, storeS, storeAs, storedCells, oneP, PV.strip, PV.strip1, PV.keep0, evFieldAddr, evField, partP, evSlice, bound, natOf, rowsOk, evIndexAddr, evIndex, evLen, evAppend, ownRows, elemsOf, acc, fillP, bin_add, bin_sub, bin_mul, bin_lss, bin_leq, bin_gtr, bin_geq, bin_eql, bin_neq, bin_and, bin_andNot, un_not, mm_max, mm_min, ofValue, ofCell, slotOf, resVal, resOne, resL, retOf, toDL, toD, sameStore, sameCells, PV.same, DV.same_self, sameRows_self, sameL_self, E0P, (show E0.apart = apF from rfl), Tryz.aggT3, Tryz.szT3, Tryz.aggT47, Tryz.szT47, Tryz.aggT190, Tryz.szT190, Tryz.underlying190, hw]
theorem ev72 (b0 b1 : List PV) (t r s q : Int) : evI E0 172 [.ptr 2 0] [b0, b1, [.d (.int .i64 t), .d (.int .i64 r), .d (.int .i64 s), .d (.int .i64 q)]] =
  some (.d (.int .i64 (if max t r > 127 then 2 else 1)), [b0, b1, [.d (.int .i64 t), .d (.int .i64 r), .d (.int .i64 s), .d (.int .i64 q)]]) := by
 refine evI_run (fn := Tryz.f172) 5 rfl Tryz.func172 rfl ?_
 by_cases h : max t r > 127 <;> simp [Tryz.f172, evCode, evOps, evOp, evWant, evCore, evPure, evCall, use, useL, useParts, opv, rd, putS, untake, moveIt, takes, af_nil, af_cons, appTmp, apartL, apartB, posOf, cellsOf, isBelowL, PV.isBelow, boxCells, isDataL, PV.isData, loadAs, loadS, storeS, storeAs, storedCells, oneP, PV.strip, PV.strip1, PV.keep0, evFieldAddr, evField, partP, evSlice, bound, natOf, rowsOk, evIndexAddr, evIndex, evLen, evAppend, ownRows, elemsOf, acc, fillP, bin_add, bin_sub, bin_mul, bin_lss, bin_leq, bin_gtr, bin_geq, bin_eql, bin_neq, bin_and, bin_andNot, un_not, mm_max, mm_min, ofValue, ofCell, slotOf, resVal, resOne, resL, retOf, toDL, toD, sameStore, sameCells, PV.same, DV.same_self, sameRows_self, sameL_self, E0P, (show E0.apart = apF from rfl), Tryz.aggT3, Tryz.szT3, Tryz.aggT47, Tryz.szT47, Tryz.aggT190, Tryz.szT190, Tryz.underlying190, h]
end Go.Proofs

set_option maxRecDepth 100000
namespace Go.Pv
open Go
theorem ev_seq_normal {E : Env} {F : FnEv} {k : Nat} {x y : Code} {st st' : St} (h : evCode E F k (.seq x y) st = some (.normal, st')) : ∃ st1, evCode E F k x st = some (.normal, st1) ∧ evCode E F k y st1 = some (.normal, st') := by
 simp only [evCode] at h
 cases hx : evCode E F k x st with
 | none => simp [hx] at h
 | some r =>
  obtain ⟨e, s⟩ := r
  cases e with
  | normal => simp only [hx, Option.bind_some] at h; exact ⟨s, rfl, h⟩
  | exit i => simp [hx] at h
  | ret => simp [hx] at h
theorem inv_start {w : World} {Im : ImT} {O : OwT} {β : List Nat} {σ : Store} {args : List PV} {vs : Array Value} (hg : Good w Im O β σ) (hargs : RepArgs w Im β args vs) (n : Nat) :
  Inv w Im O β ⟨args ++ List.replicate (n - args.length) .undef, σ⟩ { tmps := vs ++ Array.replicate (n - vs.size) undef, defers := [] } := by
 refine ⟨hg, ⟨by simp [hargs.1], fun i p u hp hu => ?_⟩⟩
 by_cases hi : i < args.length
 ·rw [List.getElem?_append_left hi] at hp
  rw [Array.getElem?_append_left (by rw [← hargs.1]; exact hi)] at hu
  exact ⟨(hargs.2 i p u hp hu).1, .of_not (hargs.2 i p u hp hu).2⟩
 ·rw [List.getElem?_append_right (by omega), List.getElem?_replicate] at hp
  rw [Array.getElem?_append_right (by rw [← hargs.1]; omega), Array.getElem?_replicate] at hu
  split at hp
  ·split at hu
   ·cases hp; cases hu
    exact ⟨.undef, .of_not (by simp)⟩
   ·cases hu
  ·cases hp
end Go.Pv
namespace Go.Proofs
open Go.Shelf Go.RowKit Go.Lib Go.Pv
def codeL : Code → Code | .seq a _ => a | c => c
def codeR : Code → Code | .seq _ b => b | c => c
def regOps : Code → Array Oper | .region _ ops _ => ops | _ => #[]
noncomputable def c49 : Code := Tryz.f139.body.getD .skip
noncomputable def c49a : Code := .seq (codeL c49) (.seq (codeL (codeR c49)) (codeL (codeR (codeR c49))))
noncomputable def c49o : Array Oper := regOps (codeL (codeL (codeR (codeR (codeR c49)))))
noncomputable def c49b : Code := codeR (codeL (codeR (codeR (codeR c49))))
noncomputable def c49c : Code := codeR (codeR (codeR (codeR c49)))
theorem body49 : Tryz.f139.body = some (.seq (codeL c49) (.seq (codeL (codeR c49)) (.seq (codeL (codeR (codeR c49))) (.seq (.seq (.region 6 c49o false) c49b) c49c)))) := by kernel_rfl
def cn (t r s q : Int) : PV := .agg [.d (.int .i64 t), .d (.int .i64 r), .d (.int .i64 s), .d (.int .i64 q)]
theorem step_join {t r s q what : Int} {pf : PV} {ok : Bool} (he : Entry what pf ok) {st3 st4 st5 st6 : St} {v : PV} (hv : v.isData = true)
  (h1 : evCode E0 (evI E0) 5 c49a ⟨[cn t r s q, .d (.int .i64 what)] ++ List.replicate 31 .undef, []⟩ = some (.normal, st3)) (hlen : st3.slots.length = 33) (hw : rd st3.slots 1 = .d (.int .i64 what))
  (h2 : evIdx E0 (evI E0) c49o [3, 4, 5, 6, 7] ⟨((st3.slots.set 18 .any).set 19 (.d (.int .i64 what))).set 20 (.tup [pf, .d (.bool ok)]), st3.store⟩ = some st4)
  (h3 : evCode E0 (evI E0) 5 c49b st4 = some (.normal, st5)) (h4 : evCode E0 (evI E0) 5 c49c st5 = some (.ret, st6)) (h5 : resVal Tryz.prog Tryz.f139 st6 = some v) :
  CallOk Tryz.prog 139 [cn t r s q, .d (.int .i64 what)] [] v [] := by
 refine CallOk.drop (σ' := st6.store) ⟨⟨_, Tryz.func139, rfl, by decide⟩, fun w Im O β vs hg hO hargs => ?_⟩ hv
 refine calls_of_wp Tryz.func139 body49 ?_
 have hI := inv_start hg hargs 33
 obtain ⟨s1, k1, k2⟩ := ev_seq_normal h1
 obtain ⟨s2, k2, k3⟩ := ev_seq_normal k2
 have hE := E0_ok
 have hF := evI_ok E0_ok
 refine wp_seq (code_ok (E := E0) hE.follows hE.ov hF (k := 5) _ (by kernel_rfl) hI k1 fun w1 Im1 O1 β1 a1 f1 x1 i1 d1 => ?_)
 refine wp_seq (code_ok (E := E0) hE.follows hE.ov hF (k := 5) _ (by kernel_rfl) i1 k2 fun w2 Im2 O2 β2 a2 f2 x2 i2 d2 => ?_)
 refine wp_seq (code_ok (E := E0) hE.follows hE.ov hF (k := 5) _ (by kernel_rfl) i2 k3 fun w3 Im3 O3 β3 a3 f3 x3 i3 d3 => ?_)
 refine wp_seq (wp_seq ?_)
 refine step_r6 (by kernel_rfl) (by rfl) rfl rfl rfl (by rfl) rfl rfl rfl (by rfl) rfl rfl rfl he i3 hlen hw h2 fun w4 Im4 O4 β4 a4 f4 x4 i4 d4 => ?_
 refine code_ok (E := E0) hE.follows hE.ov hF (k := 5) _ (by kernel_rfl) i4 h3 fun w5 Im5 O5 β5 a5 f5 x5 i5 d5 => ?_
 refine code_ok (E := E0) hE.follows hE.ov hF (k := 5) _ (by kernel_rfl) i5 h4 fun w6 Im6 O6 β6 a6 f6 x6 i6 d6 => ?_
 obtain ⟨v', g1, g2, l, g3⟩ := res_ok (P := Tryz.prog) i6 h5
 have hd : a6.defers = [] := d6.trans (d5.trans (d4.trans (d3.trans (d2.trans d1))))
 exact ⟨hd, v', g1, v', Im6, O6, β6, l, rfl, f1.trans (f2.trans (f3.trans (f4.trans (f5.trans f6)))), x1.trans (x2.trans (x3.trans (x4.trans (x5.trans x6)))), i6.good, g2, g3⟩
end Go.Proofs

