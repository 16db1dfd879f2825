/- The seat of nodes: the evaluator with all its overrides; The seat of nodes: what its functions compute: facts; The seat of nodes: frames; The seat of nodes: the rank of a frame; The seat of nodes: the rank of a frame of eleven bits, and of twenty-nine; The seat of nodes: frame.Rank, and ranks compared; The seat of nodes: node.with, node.Send; The seat of nodes: node.Send; The seat of nodes: node.Take, node.Quiet; The seat of nodes: node.Quiet; Facts of the seat's types, printed by a program (tys). -/
import Derived.Test.YtnnindnmpfmaaaaNq
import Derived.Test.YtnnindnmpfmaaaaNsp
import Derived.Test.YtnnindnmpfmaaaaNcl
set_option linter.unusedVariables false
set_option linter.unusedSimpArgs false
set_option maxRecDepth 100000
namespace Go.Proofs
open Go.RowKit Go.Shelf Go.Pv

def ovClone (sz b : Nat) : List PV → Option PV
  | [.d (.slice rows)] => if rowsOk sz rows && decide (rows.length * b ≤ roomB) then some (acc rows) else none
  | _ => none

def ovWithout : List PV → Option PV
  | [.d (.slice rows), .d (.int .i64 i)] => if rowsOk 5 rows && decide (rows.length * 56 ≤ roomB) && decide (0 ≤ i) && decide (i.toNat < rows.length) then some (.d (.slice (rows.eraseIdx i.toNat))) else none
  | _ => none

def ovStep : List PV → Option PV
  | [.agg [.d (.int .i64 t), .d (.int .i64 r), .d (.int .i64 s), .d (.int .i64 q)], .d (.int .i64 what)] =>
    if decide (0 ≤ t ∧ t ≤ 900) && decide (0 ≤ r ∧ r ≤ 900) && decide (0 ≤ q ∧ q ≤ 900) && decide (1 ≤ what ∧ what ≤ 6) then some (stepV t r s q what) else none
  | _ => none

def ovPut : List PV → Option PV
  | [.d (.int .i64 v), .d (.int .i64 m)] => if decide (0 ≤ m ∧ m ≤ 32) && decide (0 ≤ v ∧ v < 2 ^ m.toNat) then some (.tup [.d (.slice (bitRows v m.toNat)), .d (.bool true)]) else none
  | _ => none

theorem bytesOf_rows {rows : List (List DV)} {xs : List Int} (h : bytesOfRows rows = some xs) : rows = xs.map fun b => [DV.int .u8 b] := by
  obtain ⟨h1, h2⟩ := bytesOfRows_get h
  apply List.ext_getElem?
  intro i
  rw [List.getElem?_map]
  by_cases hi : i < xs.length
  · rw [h2 i xs[i] (List.getElem?_eq_getElem hi), List.getElem?_eq_getElem hi]; rfl
  · rw [List.getElem?_eq_none (by omega), List.getElem?_eq_none (by omega)]; rfl

def ovSpread : List PV → Option PV
  | [.d (.slice rows)] => (bytesOfRows rows).bind fun xs => if decide (xs.length ≤ 2 ^ 40) && xs.all (fun x => decide (0 ≤ x ∧ x < 256)) then some (.d (.slice ((spreadL xs).map fun b => [.int .i64 b]))) else none
  | _ => none

def ovAll (f : FuncId) : Option (List PV → Option PV) :=
  if f = 81 then some (ovClone 5 56) else if f = 56 then some ovWithout else if f = 51 then some ovStep else if f = 71 then some ovPut else if f = 95 then some ovSpread else
  none

def extAll (b : Bool) (f : FuncId) : Option (List PV → Store → Option (PV × Store)) :=
  none


/-- The seat's functions. -/
noncomputable def E1 : Env := { P := Try.prog, good := goodF, pure := pureF, ov := ovAll, ro := roF, apart := apF, alt := altF, ext := extAll, wild := wildF, mkf := mkF }

theorem ovAll_ok : OvOk E1 := by
  refine ⟨?_, fun b f g hg => ?_⟩
  case refine_2 =>
    intro args σ r hr
    replace hg : extAll b f = some g := hg
    unfold extAll at hg
    cases hg
  intro f g hg args res hres hd hrd
  replace hg : ovAll f = some g := hg
  unfold ovAll at hg
  split at hg
  · rename_i h; subst h; cases hg
    unfold ovClone at hres
    split at hres
    · split at hres
      · rename_i hc; cases hres
        simp only [Bool.and_eq_true, decide_eq_true_eq] at hc
        exact Try.cloneF _ hc.1 hc.2
      · cases hres
    · cases hres
  split at hg
  · rename_i h; subst h; cases hg
    unfold ovWithout at hres
    split at hres
    · split at hres
      · rename_i i hc; cases hres
        simp only [Bool.and_eq_true, decide_eq_true_eq] at hc
        have := Try.withoutF _ i.toNat hc.1.1.1 hc.1.1.2 hc.2
        rwa [Int.toNat_of_nonneg hc.1.2] at this
      · cases hres
    · cases hres
  split at hg
  · rename_i h; subst h; cases hg
    unfold ovStep at hres
    split at hres
    · split at hres
      · rename_i hc; cases hres
        simp only [Bool.and_eq_true, decide_eq_true_eq] at hc
        exact Try.stepOk _ _ _ _ _ hc.1.1.1 hc.1.1.2 hc.1.2 hc.2
      · cases hres
    · cases hres
  split at hg
  · rename_i h; subst h; cases hg
    unfold ovPut at hres
    split at hres
    · split at hres
      · rename_i m hc; cases hres
        simp only [Bool.and_eq_true, decide_eq_true_eq] at hc
        have := Try.putOk _ m.toNat (by omega) hc.2
        rwa [Int.toNat_of_nonneg hc.1.1] at this
      · cases hres
    · cases hres
  split at hg
  · rename_i h; subst h; cases hg
    unfold ovSpread at hres
    split at hres
    · rename_i rows
      cases hx : bytesOfRows rows with
      | none => simp [hx] at hres
      | some xs =>
        simp only [hx, Option.bind_some] at hres
        split at hres
        · rename_i hc
          cases hres
          simp only [Bool.and_eq_true, decide_eq_true_eq, List.all_eq_true] at hc
          rw [bytesOf_rows hx]
          exact Try.spreadOk xs hc.1 hc.2
        · cases hres
    · cases hres
  cases hg

theorem E1_ok : EnvOk E1 := envOk_of (n := nFn) Try.mixed goodF_lt (by kernel_rfl) ovAll_ok

end Go.Proofs

set_option linter.unusedVariables false
set_option linter.unusedSimpArgs false
set_option maxRecDepth 100000
set_option maxHeartbeats 4000000
namespace Go.Proofs
open Go.RowKit Go.Shelf Go.Pv

@[simp] theorem E1x (b : Bool) (f : FuncId) : E1.ext b f = extAll b f := rfl
@[simp] theorem extF (f : FuncId) : extAll false f = none := by simp [extAll]
@[simp] theorem E1lo : E1.loose = false := rfl
@[simp] theorem E1w (f : FuncId) : E1.wild f = wildF f := rfl
@[simp] theorem E1mk (d : Option Tmp) : mkSel E1 d = false := by cases d <;> rfl
@[simp] theorem E1al (p : String) (n : Nat) : E1.alt p n = altF p n := rfl
theorem E1P : E1.P = Try.prog := rfl
theorem E1ov (f : FuncId) : E1.ov f = ovAll f := rfl
theorem E1ap (p : String) : E1.apart p = apF p := rfl
theorem E1ro (f : FuncId) : E1.ro f = roF f := rfl

/-- What a wild function is run in. -/
noncomputable def E2 (f : FuncId) : Env := { E1 with loose := true, mks := mkF f }
theorem E1at (f : FuncId) (h : wildF f = true) : E1.at f = E2 f := by
  unfold Env.at
  rw [if_pos (show E1.wild f = true from h)]
  rfl
section
variable (f g : FuncId)
@[simp] theorem E2P : (E2 f).P = Try.prog := rfl
@[simp] theorem E2lo : (E2 f).loose = true := rfl
@[simp] theorem E2ap (p : String) : (E2 f).apart p = apF p := rfl
@[simp] theorem E2al (p : String) (n : Nat) : (E2 f).alt p n = altF p n := rfl
@[simp] theorem E2mk0 : mkSel (E2 f) none = false := rfl
@[simp] theorem E2mk (d : Nat) : mkSel (E2 f) (some d) = (mkF f).contains d := rfl
@[simp] theorem extNone : (extAll true g).isNone = 
  true
  := by
  unfold extAll
  rfl
@[simp] theorem E2call (F : FnEv) (args : List PV) (σ : Store) (h : (extAll true g).isNone = true) : callIt (E2 f) F g args σ = callIt E1 F g args σ := by
  have h1 : extAll true g = none := Option.isNone_iff_eq_none.1 h
  have h2 : (E2 f).ext (E2 f).loose g = none := h1
  have h3 : E1.ext E1.loose g = none := extF g
  unfold callIt
  rw [h2, h3]
  rfl
end
/-- A wild function of data run. -/
theorem call_run2 {f : FuncId} {fn : Func} {c : Code} {args : List PV} {σ : Store} {v : PV} (m : Nat) (hw : wildF f = true) (hg : E1.good f = true) (ho : E1.ov f = none) (hp : E1.pure f = true) (hf : E1.P.funcs[f]? = some fn) (hb : fn.body = some c) (hd : isDataL args = true)
    (h : ((evCode (E2 f) (evI E1) m c ⟨args ++ List.replicate (fn.ntmps - args.length) .undef, []⟩).bind fun r => if r.1 = .normal ∨ r.1 = .ret then (resVal E1.P fn r.2).bind fun u => if u.isData then some u else frzP r.2.store (r.2.store.length + 1) u else none) = some v) : callIt E1 (evI E1) f args σ = some (v, σ) :=
  call_runW m hg ho hp hf hb hd (by rw [E1at f hw]; exact h)

/-- A frame. -/
def frD (e : Bool) (id : Int) (rm : Bool) (ln : Int) (rows : List (List DV)) : List DV := [.bool e, .int .i64 id, .bool rm, .int .i64 ln, .slice rows]
def frP (e : Bool) (id : Int) (rm : Bool) (ln : Int) (rows : List (List DV)) : PV := .agg [.d (.bool e), .d (.int .i64 id), .d (.bool rm), .d (.int .i64 ln), .d (.slice rows)]

def frRight (e : Bool) (id : Int) (rm : Bool) (ln : Int) (rows : List (List DV)) : Bool :=
  (id.fdiv (2 ^ (if e then 29 else 11)) == 0) && decide (0 ≤ ln) && decide (ln ≤ 8) && ((rows.length : Int) == if rm then 0 else ln)

theorem Try.aggT39 : aggT Try.prog 39 = some true := by kernel_rfl
theorem Try.szT39 : szT Try.prog 39 = some 5 := by kernel_rfl
theorem Try.aggT4 : aggT Try.prog 4 = some false := by kernel_rfl
theorem Try.szT4 : szT Try.prog 4 = some 1 := by kernel_rfl
theorem Try.aggT37 : aggT Try.prog 37 = some false := by kernel_rfl
theorem Try.szT37 : szT Try.prog 37 = some 1 := by kernel_rfl


theorem acc_own (rows : List (List DV)) : ownRows (acc rows) = some rows := by cases rows <;> rfl
theorem acc_cells (rows : List (List DV)) : storedCells (acc rows) = [acc rows] := by cases rows <;> rfl
theorem acc_one (rows : List (List DV)) : oneP (acc rows) = true := by cases rows <;> rfl
theorem acc_below (n : Nat) (rows : List (List DV)) : (acc rows).isBelow n = true := by cases rows <;> rfl
theorem acc_strip (rows : List (List DV)) : (acc rows).strip = .d (.slice rows) := by cases rows <;> rfl
theorem acc_strip1 (rows : List (List DV)) : (acc rows).strip1 = .d (.slice rows) := by cases rows <;> rfl
theorem acc_keep0 (rows : List (List DV)) : (acc rows).keep0 = match rows with | [] => .e0 | _ => .d (.slice rows) := by cases rows <;> rfl
theorem st_undef  : PV.strip (.undef) = .undef := rfl
theorem st1_undef  : PV.strip1 (.undef) = .undef := rfl
theorem k0_undef  : PV.keep0 (.undef) = .undef := rfl
theorem st_any  : PV.strip (.any) = .any := rfl
theorem st1_any  : PV.strip1 (.any) = .any := rfl
theorem k0_any  : PV.keep0 (.any) = .any := rfl
theorem st_d (x : DV) : PV.strip (.d x) = .d x := rfl
theorem st1_d (x : DV) : PV.strip1 (.d x) = .d x := rfl
theorem sc_d (x : DV) : storedCells (.d x) = [.d x] := rfl
theorem on_d (x : DV) : oneP (.d x) = true := rfl
theorem k0_d (x : DV) : PV.keep0 (.d x) = .d x := rfl
theorem st_ptr (i o : Nat) : PV.strip (.ptr i o) = .ptr i o := rfl
theorem st1_ptr (i o : Nat) : PV.strip1 (.ptr i o) = .ptr i o := rfl
theorem sc_ptr (i o : Nat) : storedCells (.ptr i o) = [.ptr i o] := rfl
theorem on_ptr (i o : Nat) : oneP (.ptr i o) = true := rfl
theorem k0_ptr (i o : Nat) : PV.keep0 (.ptr i o) = .ptr i o := rfl
theorem st_nilptr  : PV.strip (.nilptr) = .nilptr := rfl
theorem st1_nilptr  : PV.strip1 (.nilptr) = .nilptr := rfl
theorem sc_nilptr  : storedCells (.nilptr) = [.nilptr] := rfl
theorem on_nilptr  : oneP (.nilptr) = true := rfl
theorem k0_nilptr  : PV.keep0 (.nilptr) = .nilptr := rfl
theorem st_ro (c : List DV) : PV.strip (.ro c) = .ro c := rfl
theorem st1_ro (c : List DV) : PV.strip1 (.ro c) = .ro c := rfl
theorem sc_ro (c : List DV) : storedCells (.ro c) = [.ro c] := rfl
theorem on_ro (c : List DV) : oneP (.ro c) = true := rfl
theorem k0_ro (c : List DV) : PV.keep0 (.ro c) = .ro c := rfl
theorem st_func (f : Fn) (a c : List PV) : PV.strip (.func f a c) = .func f a c := rfl
theorem st1_func (f : Fn) (a c : List PV) : PV.strip1 (.func f a c) = .func f a c := rfl
theorem sc_func (f : Fn) (a c : List PV) : storedCells (.func f a c) = [.func f a c] := rfl
theorem on_func (f : Fn) (a c : List PV) : oneP (.func f a c) = true := rfl
theorem k0_func (f : Fn) (a c : List PV) : PV.keep0 (.func f a c) = .func f a c := rfl
theorem st_nilFunc  : PV.strip (.nilFunc) = .nilFunc := rfl
theorem st1_nilFunc  : PV.strip1 (.nilFunc) = .nilFunc := rfl
theorem sc_nilFunc  : storedCells (.nilFunc) = [.nilFunc] := rfl
theorem on_nilFunc  : oneP (.nilFunc) = true := rfl
theorem k0_nilFunc  : PV.keep0 (.nilFunc) = .nilFunc := rfl
theorem st_tup (v : List PV) : PV.strip (.tup v) = .tup v := rfl
theorem st1_tup (v : List PV) : PV.strip1 (.tup v) = .tup v := rfl
theorem st_agg (c : List PV) : PV.strip (.agg c) = .agg (c.map PV.strip1) := rfl
theorem sc_agg (c : List PV) : storedCells (.agg c) = c.map PV.keep0 := rfl
end Go.Proofs

set_option linter.unusedVariables false
set_option linter.unusedSimpArgs false
set_option maxRecDepth 100000
set_option maxHeartbeats 4000000
namespace Go.Proofs
open Go.RowKit Go.Shelf Go.Pv

end Go.Proofs

set_option linter.unusedVariables false
set_option linter.unusedSimpArgs false
set_option maxRecDepth 100000
set_option maxHeartbeats 4000000
namespace Go.Proofs
open Go.RowKit Go.Shelf Go.Pv

theorem c90 (v : Int) (m : Nat) (hm : m ≤ 32) (hv : 0 ≤ v ∧ v < 2 ^ m) (σ : Store) : callIt E1 (evI E1) 71 [.d (.int .i64 v), .d (.int .i64 m)] σ = some (.tup [.d (.slice (bitRows v m)), .d (.bool true)], σ) := by
  have h1 : (0 : Int) ≤ m ∧ (m : Int) ≤ 32 := by omega
  simp [callIt, E1ov, ovAll, isDataL, PV.isData, ovPut, h1, hv]

theorem Try.appT43 : appT Try.prog 43 = some (1, 8) := by kernel_rfl
theorem Try.aggT43 : aggT Try.prog 43 = some false := by kernel_rfl
theorem Try.szT43 : szT Try.prog 43 = some 1 := by kernel_rfl

theorem c87 (b0 b2 : List PV) (rows : List (List DV)) (v : Int) (m : Nat) (hm : m ≤ 32) (hv : 0 ≤ v ∧ v < 2 ^ m) (hr : rowsOk 1 rows = true) (hl : rows.length ≤ 1000) :
    evI E1 88 [.ptr 1 0, .d (.int .i64 v), .d (.int .i64 m)] [b0, [acc rows], b2] = some (.tup [], [b0, [acc (rows ++ bitRows v m)], b2]) := by
  refine evI_run (fn := Try.f88) 5 rfl Try.func88 rfl ?_
  have hb : rowsOk 1 (bitRows v m) = true := by
    unfold rowsOk bitRows
    rw [List.all_eq_true]
    intro r hr
    simp at hr
    obtain ⟨k, _, rfl⟩ := hr
    rfl
  have hbl : (bitRows v m).length = m := by simp [bitRows]
  have happ : evAppend Try.prog 43 (acc rows) (.d (.slice (bitRows v m))) = some (acc (rows ++ bitRows v m)) := by
    have : (rows.length + m) * 8 ≤ roomB := by simp only [roomB]; omega
    simp [evAppend, Try.appT43, acc_own, elemsOf, hr, hb, hbl, this]
  have h90 := c90 v m hm hv
  simp [Try.f88, ec_region, altD, ec_scope, ec_label, ec_seq, ec_cond, ec_skip, ec_exit, ec_ret, ec_block, seq_normal, seq_ret, seq_exit, if_t, if_f, regN, evOpsD, coreD, wantD, evCore, evPure, evCall, use, useL, useParts, opv, rd, putS, untake, moveIt, takes, af_nil, af_cons, appTmp, apartL, apartB, posOf, cellsOf, isBelowL, PV.isBelow, boxCells, isDataL, PV.isData, loadAs, loadS, storeS, storeAs, evFieldAddr, evField, partP, evSlice, bound, natOf, rowsOk, evIndexAddr, evIndex, evLen, fillP, bin_add, bin_sub, bin_mul, bin_lss, bin_leq, bin_gtr, bin_geq, bin_eql, bin_neq, bin_and, bin_andNot, un_not, mm_max, mm_min, ofValue, ofCell, slotOf, resVal, resOne, resL, retOf, toDL, toD, sameStore, sameCells, PV.same, DV.same_self, sameRows_self, sameL_self, st_undef, st1_undef, k0_undef, st_any, st1_any, k0_any, st_d, st1_d, sc_d, on_d, k0_d, st_ptr, st1_ptr, sc_ptr, on_ptr, k0_ptr, st_nilptr, st1_nilptr, sc_nilptr, on_nilptr, k0_nilptr, st_ro, st1_ro, sc_ro, on_ro, k0_ro, st_func, st1_func, sc_func, on_func, k0_func, st_nilFunc, st1_nilFunc, sc_nilFunc, on_nilFunc, k0_nilFunc, st_tup, st1_tup, st_agg, sc_agg, E1P, E1ap, Try.aggT3, Try.szT3, Try.aggT43, Try.szT43, Try.underlying104, h90, happ, acc_cells, acc_one, acc_below, acc_strip, acc_strip1]
theorem E1p87 : E1.pure 88 = false := rfl
theorem E1p88 : E1.pure 89 = false := rfl
theorem E1p80 : E1.pure 65 = false := rfl

theorem call_boxes {f : FuncId} {args : List PV} {σ σ' σ'' : Store} (ho : E1.ov f = none) (hp : E1.pure f = false) (hr : E1.ro f = false) (h : evI E1 f args σ = some (.tup [], σ')) (hl : σ'.take σ.length = σ'') : callIt E1 (evI E1) f args σ = some (.tup [], σ'') := by
  subst hl
  simp [callIt, ho, hp, hr, h, PV.isData, isDataL, st_tup]

theorem d87 (b0 b2 : List PV) (rows : List (List DV)) (v : Int) (m : Nat) (hm : m ≤ 32) (hv : 0 ≤ v ∧ v < 2 ^ m) (hr : rowsOk 1 rows = true) (hl : rows.length ≤ 1000) :
    callIt E1 (evI E1) 88 [.ptr 1 0, .d (.int .i64 v), .d (.int .i64 m)] [b0, [acc rows], b2] = some (.tup [], [b0, [acc (rows ++ bitRows v m)], b2]) :=
  call_boxes rfl rfl rfl (c87 b0 b2 rows v m hm hv hr hl) rfl

def bitOf (b : Bool) : Int := if b then 1 else 0

theorem c88 (b0 b2 : List PV) (rows : List (List DV)) (is : Bool) (hr : rowsOk 1 rows = true) (hl : rows.length ≤ 1000) :
    evI E1 89 [.ptr 1 0, .d (.bool is)] [b0, [acc rows], b2] = some (.tup [], [b0, [acc (rows ++ bitRows (bitOf is) 1)], b2]) := by
  refine evI_run (fn := Try.f89) 5 rfl Try.func89 rfl ?_
  have h87 := d87 b0 b2 rows (bitOf is) 1 (by decide) (by cases is <;> decide) hr hl
  cases is
  · simp only [bitOf, Bool.false_eq_true, if_false] at h87 ⊢
    simp at h87
    simp [Try.f89, ec_region, altD, ec_scope, ec_label, ec_seq, ec_cond, ec_skip, ec_exit, ec_ret, ec_block, seq_normal, seq_ret, seq_exit, if_t, if_f, regN, evOpsD, coreD, wantD, evCore, evPure, evCall, use, useL, useParts, opv, rd, putS, untake, moveIt, takes, af_nil, af_cons, appTmp, apartL, apartB, posOf, cellsOf, isBelowL, PV.isBelow, boxCells, isDataL, PV.isData, loadAs, loadS, storeS, storeAs, evFieldAddr, evField, partP, evSlice, bound, natOf, rowsOk, evIndexAddr, evIndex, evLen, fillP, bin_add, bin_sub, bin_mul, bin_lss, bin_leq, bin_gtr, bin_geq, bin_eql, bin_neq, bin_and, bin_andNot, un_not, mm_max, mm_min, ofValue, ofCell, slotOf, resVal, resOne, resL, retOf, toDL, toD, sameStore, sameCells, PV.same, DV.same_self, sameRows_self, sameL_self, st_undef, st1_undef, k0_undef, st_any, st1_any, k0_any, st_d, st1_d, sc_d, on_d, k0_d, st_ptr, st1_ptr, sc_ptr, on_ptr, k0_ptr, st_nilptr, st1_nilptr, sc_nilptr, on_nilptr, k0_nilptr, st_ro, st1_ro, sc_ro, on_ro, k0_ro, st_func, st1_func, sc_func, on_func, k0_func, st_nilFunc, st1_nilFunc, sc_nilFunc, on_nilFunc, k0_nilFunc, st_tup, st1_tup, st_agg, sc_agg, E1P, E1ap, h87]
  · simp only [bitOf, if_true] at h87 ⊢
    simp at h87
    simp [Try.f89, ec_region, altD, ec_scope, ec_label, ec_seq, ec_cond, ec_skip, ec_exit, ec_ret, ec_block, seq_normal, seq_ret, seq_exit, if_t, if_f, regN, evOpsD, coreD, wantD, evCore, evPure, evCall, use, useL, useParts, opv, rd, putS, untake, moveIt, takes, af_nil, af_cons, appTmp, apartL, apartB, posOf, cellsOf, isBelowL, PV.isBelow, boxCells, isDataL, PV.isData, loadAs, loadS, storeS, storeAs, evFieldAddr, evField, partP, evSlice, bound, natOf, rowsOk, evIndexAddr, evIndex, evLen, fillP, bin_add, bin_sub, bin_mul, bin_lss, bin_leq, bin_gtr, bin_geq, bin_eql, bin_neq, bin_and, bin_andNot, un_not, mm_max, mm_min, ofValue, ofCell, slotOf, resVal, resOne, resL, retOf, toDL, toD, sameStore, sameCells, PV.same, DV.same_self, sameRows_self, sameL_self, st_undef, st1_undef, k0_undef, st_any, st1_any, k0_any, st_d, st1_d, sc_d, on_d, k0_d, st_ptr, st1_ptr, sc_ptr, on_ptr, k0_ptr, st_nilptr, st1_nilptr, sc_nilptr, on_nilptr, k0_nilptr, st_ro, st1_ro, sc_ro, on_ro, k0_ro, st_func, st1_func, sc_func, on_func, k0_func, st_nilFunc, st1_nilFunc, sc_nilFunc, on_nilFunc, k0_nilFunc, st_tup, st1_tup, st_agg, sc_agg, E1P, E1ap, h87]

theorem d88 (b0 b2 : List PV) (rows : List (List DV)) (is : Bool) (hr : rowsOk 1 rows = true) (hl : rows.length ≤ 1000) :
    callIt E1 (evI E1) 89 [.ptr 1 0, .d (.bool is)] [b0, [acc rows], b2] = some (.tup [], [b0, [acc (rows ++ bitRows (bitOf is) 1)], b2]) :=
  call_boxes rfl rfl rfl (c88 b0 b2 rows is hr hl) rfl

end Go.Proofs

set_option linter.unusedVariables false
set_option linter.unusedSimpArgs false
set_option maxRecDepth 100000
set_option maxHeartbeats 4000000
namespace Go.Proofs
open Go.RowKit Go.Shelf Go.Pv

theorem bitRows_ok (v : Int) (m : Nat) : rowsOk 1 (bitRows v m) = true := by
  unfold rowsOk bitRows
  rw [List.all_eq_true]
  intro r hr
  simp at hr
  obtain ⟨k, _, rfl⟩ := hr
  rfl
theorem bitRows_len (v : Int) (m : Nat) : (bitRows v m).length = m := by simp [bitRows]

def rankStd (id : Int) (rm : Bool) : List (List DV) := bitRows id 11 ++ bitRows (bitOf rm) 1 ++ bitRows 0 1

theorem c80_std (b0 : List PV) (id : Int) (rm : Bool) (ln : Int) (rows : List (List DV)) (hid : 0 ≤ id ∧ id < 2 ^ 11) :
    ∃ b2, evI E1 65 [.ptr 1 0, frP false id rm ln rows] [b0, [.e0]] = some (.tup [], [b0, [acc (rankStd id rm)], b2]) := by
  refine ⟨_, evI_run (σ' := [b0, [acc (rankStd id rm)], [.d (.bool false), .d (.int .i64 id), .d (.bool rm), .d (.int .i64 ln), .d (.slice rows)]]) (fn := Try.f65) 5 rfl Try.func65 rfl ?_⟩
  have h1 : callIt E1 (evI E1) 88 [.ptr 1 0, .d (.int .i64 id), .d (.int .i64 (11 : Nat))] [b0, [.e0], [.d (.bool false), .d (.int .i64 id), .d (.bool rm), .d (.int .i64 ln), .d (.slice rows)]] =
      some (.tup [], [b0, [acc (bitRows id 11)], [.d (.bool false), .d (.int .i64 id), .d (.bool rm), .d (.int .i64 ln), .d (.slice rows)]]) := d87 _ _ [] id 11 (by decide) hid rfl (by decide)
  have h2 := d88 b0 [.d (.bool false), .d (.int .i64 id), .d (.bool rm), .d (.int .i64 ln), .d (.slice rows)] (bitRows id 11) rm (bitRows_ok _ _) (by rw [bitRows_len]; decide)
  have h3 := d87 b0 [.d (.bool false), .d (.int .i64 id), .d (.bool rm), .d (.int .i64 ln), .d (.slice rows)] (bitRows id 11 ++ bitRows (bitOf rm) 1) 0 1 (by decide) (by decide) (rowsOk_append (bitRows_ok _ _) (bitRows_ok _ _)) (by simp [bitRows_len])
  simp at h1 h3
  unfold frP rankStd
  simp [Try.f65, ec_region, altD, ec_scope, ec_label, ec_seq, ec_cond, ec_skip, ec_exit, ec_ret, ec_block, seq_normal, seq_ret, seq_exit, if_t, if_f, regN, evOpsD, coreD, wantD, evCore, evPure, evCall, use, useL, useParts, opv, rd, putS, untake, moveIt, takes, af_nil, af_cons, appTmp, apartL, apartB, posOf, cellsOf, isBelowL, PV.isBelow, boxCells, isDataL, PV.isData, loadAs, loadS, storeS, storeAs, evFieldAddr, evField, partP, evSlice, bound, natOf, rowsOk, evIndexAddr, evIndex, evLen, fillP, bin_add, bin_sub, bin_mul, bin_lss, bin_leq, bin_gtr, bin_geq, bin_eql, bin_neq, bin_and, bin_andNot, un_not, mm_max, mm_min, ofValue, ofCell, slotOf, resVal, resOne, resL, retOf, toDL, toD, sameStore, sameCells, PV.same, DV.same_self, sameRows_self, sameL_self, st_undef, st1_undef, k0_undef, st_any, st1_any, k0_any, st_d, st1_d, sc_d, on_d, k0_d, st_ptr, st1_ptr, sc_ptr, on_ptr, k0_ptr, st_nilptr, st1_nilptr, sc_nilptr, on_nilptr, k0_nilptr, st_ro, st1_ro, sc_ro, on_ro, k0_ro, st_func, st1_func, sc_func, on_func, k0_func, st_nilFunc, st1_nilFunc, sc_nilFunc, on_nilFunc, k0_nilFunc, st_tup, st1_tup, st_agg, sc_agg, E1P, E1ap, Try.aggT39, Try.szT39, Try.aggT3, Try.szT3, Try.aggT4, Try.szT4, Try.underlying39, h1, h2, h3]
def rankExt (id : Int) (rm : Bool) : List (List DV) := bitRows (id / 2 ^ 18) 11 ++ bitRows 3 2 ++ bitRows (id % 2 ^ 18) 18 ++ bitRows (bitOf rm) 1

theorem bin_shr_u {P : Program} {t : TypeId} {k : IntKind} {a b : Int} (hb : 0 ≤ b) : evBin P .shr t (.d (.int .i64 a)) (.d (.int k b)) = some (.d (.int .i64 (a.fdiv (2 ^ (min b.toNat 64))))) := by
  have : ¬ b < 0 := by omega
  show (pureRun P (if b < 0 then _ else _)).bind ofScalar = _
  rw [if_neg this]
  rfl

theorem and18 (x : Int) (hx : 0 ≤ x ∧ x < 2 ^ 29) : IntKind.i64.wrap (BitVec.ofInt 64 x &&& BitVec.ofInt 64 262143).toNat = x % 2 ^ 18 := by
  have h1 : (BitVec.ofInt 64 262143).toNat = 2 ^ 18 - 1 := by decide
  have key : (BitVec.ofInt 64 x &&& BitVec.ofInt 64 262143).toNat = (x % ((2 ^ 64 : Nat) : Int)).toNat % 2 ^ 18 := by
    rw [BitVec.toNat_and, BitVec.toNat_ofInt, h1, Nat.and_two_pow_sub_one_eq_mod]
  rw [key, IntKind.wrap_i64]
  omega

theorem c80_ext (b0 : List PV) (id : Int) (rm : Bool) (ln : Int) (rows : List (List DV)) (hid : 0 ≤ id ∧ id < 2 ^ 29) :
    ∃ b2, evI E1 65 [.ptr 1 0, frP true id rm ln rows] [b0, [.e0]] = some (.tup [], [b0, [acc (rankExt id rm)], b2]) := by
  refine ⟨_, evI_run (σ' := [b0, [acc (rankExt id rm)], [.d (.bool true), .d (.int .i64 id), .d (.bool rm), .d (.int .i64 ln), .d (.slice rows)]]) (fn := Try.f65) 5 rfl Try.func65 rfl ?_⟩
  obtain ⟨B, hB⟩ : ∃ B : List PV, B = [.d (.bool true), .d (.int .i64 id), .d (.bool rm), .d (.int .i64 ln), .d (.slice rows)] := ⟨_, rfl⟩
  have h1 : callIt E1 (evI E1) 88 [.ptr 1 0, .d (.int .i64 (id / 2 ^ 18)), .d (.int .i64 (11 : Nat))] [b0, [.e0], B] = some (.tup [], [b0, [acc (bitRows (id / 2 ^ 18) 11)], B]) := d87 _ _ [] (id / 2 ^ 18) 11 (by decide) (by omega) rfl (by decide)
  have h2 := d87 b0 B (bitRows (id / 2 ^ 18) 11) 3 2 (by decide) (by decide) (bitRows_ok _ _) (by simp [bitRows_len])
  have h3 := d87 b0 B (bitRows (id / 2 ^ 18) 11 ++ bitRows 3 2) (id % 2 ^ 18) 18 (by decide) (by omega) (rowsOk_append (bitRows_ok _ _) (bitRows_ok _ _)) (by simp [bitRows_len])
  have h4 := d88 b0 B (bitRows (id / 2 ^ 18) 11 ++ bitRows 3 2 ++ bitRows (id % 2 ^ 18) 18) rm (rowsOk_append (rowsOk_append (bitRows_ok _ _) (bitRows_ok _ _)) (bitRows_ok _ _)) (by simp [bitRows_len])
  have s18 := bin_shr_u (P := Try.prog) (t := 3) (k := .u64) (a := id) (b := 18) (by decide)
  rw [show (2 : Int) ^ min (Int.toNat 18) 64 = 2 ^ 18 by decide, Int.fdiv_eq_ediv_of_nonneg _ (by decide)] at s18
  have a18 := and18 id hid
  subst hB
  simp at h1 h2 h3 h4 s18 a18
  unfold frP rankExt
  simp [Try.f65, ec_region, altD, ec_scope, ec_label, ec_seq, ec_cond, ec_skip, ec_exit, ec_ret, ec_block, seq_normal, seq_ret, seq_exit, if_t, if_f, regN, evOpsD, coreD, wantD, evCore, evPure, evCall, use, useL, useParts, opv, rd, putS, untake, moveIt, takes, af_nil, af_cons, appTmp, apartL, apartB, posOf, cellsOf, isBelowL, PV.isBelow, boxCells, isDataL, PV.isData, loadAs, loadS, storeS, storeAs, evFieldAddr, evField, partP, evSlice, bound, natOf, rowsOk, evIndexAddr, evIndex, evLen, fillP, bin_add, bin_sub, bin_mul, bin_lss, bin_leq, bin_gtr, bin_geq, bin_eql, bin_neq, bin_and, bin_andNot, un_not, mm_max, mm_min, ofValue, ofCell, slotOf, resVal, resOne, resL, retOf, toDL, toD, sameStore, sameCells, PV.same, DV.same_self, sameRows_self, sameL_self, st_undef, st1_undef, k0_undef, st_any, st1_any, k0_any, st_d, st1_d, sc_d, on_d, k0_d, st_ptr, st1_ptr, sc_ptr, on_ptr, k0_ptr, st_nilptr, st1_nilptr, sc_nilptr, on_nilptr, k0_nilptr, st_ro, st1_ro, sc_ro, on_ro, k0_ro, st_func, st1_func, sc_func, on_func, k0_func, st_nilFunc, st1_nilFunc, sc_nilFunc, on_nilFunc, k0_nilFunc, st_tup, st1_tup, st_agg, sc_agg, E1P, E1ap, Try.aggT39, Try.szT39, Try.aggT3, Try.szT3, Try.aggT4, Try.szT4, Try.underlying39, h1, h2, h3, h4, s18, a18]

def rankOf (e : Bool) (id : Int) (rm : Bool) : List (List DV) := if e then rankExt id rm else rankStd id rm

theorem d80 (b0 : List PV) (e : Bool) (id : Int) (rm : Bool) (ln : Int) (rows : List (List DV)) (hid : 0 ≤ id ∧ id < 2 ^ (if e then 29 else 11)) :
    callIt E1 (evI E1) 65 [.ptr 1 0, frP e id rm ln rows] [b0, [.e0]] = some (.tup [], [b0, [acc (rankOf e id rm)]]) := by
  cases e
  · obtain ⟨b2, h⟩ := c80_std b0 id rm ln rows hid
    exact call_boxes rfl rfl rfl h rfl
  · obtain ⟨b2, h⟩ := c80_ext b0 id rm ln rows hid
    exact call_boxes rfl rfl rfl h rfl

end Go.Proofs

set_option linter.unusedVariables false
set_option linter.unusedSimpArgs false
set_option maxRecDepth 100000
set_option maxHeartbeats 4000000
namespace Go.Proofs
open Go.RowKit Go.Shelf Go.Pv

theorem Try.zeroT104 : zeroT Try.prog 104 = some (.agg [.e0]) := by kernel_rfl
theorem acc_data (rows : List (List DV)) : (acc rows).isData = true := by cases rows <;> rfl

theorem c64 (e : Bool) (id : Int) (rm : Bool) (ln : Int) (rows : List (List DV)) (hid : 0 ≤ id ∧ id < 2 ^ (if e then 29 else 11)) (σ : Store) :
    callIt E1 (evI E1) 50 [frP e id rm ln rows] σ = some (.d (.slice (rankOf e id rm)), σ) := by
  refine call_run (fn := Try.f50) 5 rfl rfl rfl Try.func50 rfl rfl ?_ rfl
  have h80 := d80 [.d (.bool e), .d (.int .i64 id), .d (.bool rm), .d (.int .i64 ln), .d (.slice rows)] e id rm ln rows hid
  unfold frP at h80 ⊢
  simp [Try.f50, ec_region, altD, ec_scope, ec_label, ec_seq, ec_cond, ec_skip, ec_exit, ec_ret, ec_block, seq_normal, seq_ret, seq_exit, if_t, if_f, regN, evOpsD, coreD, wantD, evCore, evPure, evCall, use, useL, useParts, opv, rd, putS, untake, moveIt, takes, af_nil, af_cons, appTmp, apartL, apartB, posOf, cellsOf, isBelowL, PV.isBelow, boxCells, isDataL, PV.isData, loadAs, loadS, storeS, storeAs, evFieldAddr, evField, partP, evSlice, bound, natOf, rowsOk, evIndexAddr, evIndex, evLen, fillP, bin_add, bin_sub, bin_mul, bin_lss, bin_leq, bin_gtr, bin_geq, bin_eql, bin_neq, bin_and, bin_andNot, un_not, mm_max, mm_min, ofValue, ofCell, slotOf, resVal, resOne, resL, retOf, toDL, toD, sameStore, sameCells, PV.same, DV.same_self, sameRows_self, sameL_self, st_undef, st1_undef, k0_undef, st_any, st1_any, k0_any, st_d, st1_d, sc_d, on_d, k0_d, st_ptr, st1_ptr, sc_ptr, on_ptr, k0_ptr, st_nilptr, st1_nilptr, sc_nilptr, on_nilptr, k0_nilptr, st_ro, st1_ro, sc_ro, on_ro, k0_ro, st_func, st1_func, sc_func, on_func, k0_func, st_nilFunc, st1_nilFunc, sc_nilFunc, on_nilFunc, k0_nilFunc, st_tup, st1_tup, st_agg, sc_agg, E1P, E1ap, Try.zeroT104, Try.aggT39, Try.szT39, Try.aggT43, Try.szT43, Try.underlying104, h80, acc_cells, acc_one, acc_below, acc_strip, acc_strip1]
/-- A node. -/
def ndP (q : List (List DV)) (fs : List (List DV)) (t r s z : Int) (g : List (List DV)) : PV := .agg [.d (.slice q), .d (.slice fs), .d (.int .i64 t), .d (.int .i64 r), .d (.int .i64 s), .d (.int .i64 z), .d (.slice g)]

theorem Try.aggT30 : aggT Try.prog 30 = some true := by kernel_rfl
theorem Try.szT30 : szT Try.prog 30 = some 7 := by kernel_rfl
theorem Try.appT25 : appT Try.prog 25 = some (5, 56) := by kernel_rfl
theorem Try.aggT25 : aggT Try.prog 25 = some false := by kernel_rfl
theorem Try.szT25 : szT Try.prog 25 = some 1 := by kernel_rfl

/-- node.off. -/
theorem c42 (q fs : List (List DV)) (t r s z : Int) (g : List (List DV)) (σ : Store) : callIt E1 (evI E1) 57 [ndP q fs t r s z g] σ = some (.d (.bool (s == 3)), σ) := by
  refine call_run (fn := Try.f57) 5 rfl rfl rfl Try.func57 rfl rfl ?_ rfl
  unfold ndP
  simp [Try.f57, ec_region, altD, ec_scope, ec_label, ec_seq, ec_cond, ec_skip, ec_exit, ec_ret, ec_block, seq_normal, seq_ret, seq_exit, if_t, if_f, regN, evOpsD, coreD, wantD, evCore, evPure, evCall, use, useL, useParts, opv, rd, putS, untake, moveIt, takes, af_nil, af_cons, appTmp, apartL, apartB, posOf, cellsOf, isBelowL, PV.isBelow, boxCells, isDataL, PV.isData, loadAs, loadS, storeS, storeAs, evFieldAddr, evField, partP, evSlice, bound, natOf, rowsOk, evIndexAddr, evIndex, evLen, fillP, bin_add, bin_sub, bin_mul, bin_lss, bin_leq, bin_gtr, bin_geq, bin_eql, bin_neq, bin_and, bin_andNot, un_not, mm_max, mm_min, ofValue, ofCell, slotOf, resVal, resOne, resL, retOf, toDL, toD, sameStore, sameCells, PV.same, DV.same_self, sameRows_self, sameL_self, st_undef, st1_undef, k0_undef, st_any, st1_any, k0_any, st_d, st1_d, sc_d, on_d, k0_d, st_ptr, st1_ptr, sc_ptr, on_ptr, k0_ptr, st_nilptr, st1_nilptr, sc_nilptr, on_nilptr, k0_nilptr, st_ro, st1_ro, sc_ro, on_ro, k0_ro, st_func, st1_func, sc_func, on_func, k0_func, st_nilFunc, st1_nilFunc, sc_nilFunc, on_nilFunc, k0_nilFunc, st_tup, st1_tup, st_agg, sc_agg, E1P, E1ap, Try.aggT30, Try.szT30, Try.aggT28, Try.szT28, Try.aggT3, Try.szT3, Try.underlying30, Try.underlying28]

theorem c61 (rows : List (List DV)) (h : rowsOk 5 rows = true) (hb : rows.length * 56 ≤ roomB) (σ : Store) : callIt E1 (evI E1) 81 [.d (.slice rows)] σ = some (acc rows, σ) := by
  simp [callIt, E1ov, ovAll, isDataL, PV.isData, ovClone, h, hb, acc_data]

end Go.Proofs

set_option linter.unusedVariables false
set_option linter.unusedSimpArgs false
set_option maxRecDepth 100000
set_option maxHeartbeats 4000000
namespace Go.Proofs
open Go.RowKit Go.Shelf Go.Pv

theorem app22 (rows xs : List (List DV)) (h : rowsOk 5 rows = true) (h' : rowsOk 5 xs = true) (hb : (rows.length + xs.length) * 56 ≤ roomB) : evAppend Try.prog 25 (acc rows) (.d (.slice xs)) = some (acc (rows ++ xs)) := by
  simp [evAppend, Try.appT25, acc_own, elemsOf, h, h', hb]

theorem Try.isz39 : ((Try.prog.info? 39).bind (·.zero)).isSome = true := by kernel_rfl

theorem c43 (rows : List (List DV)) (e : Bool) (id : Int) (rm : Bool) (ln : Int) (data : List (List DV)) (h : rowsOk 5 rows = true) (hb : (rows.length + 1) * 56 ≤ roomB) (σ : Store) :
    callIt E1 (evI E1) 59 [.d (.slice rows), frP e id rm ln data] σ = some (acc (rows ++ [frD e id rm ln data]), σ) := by
  refine call_run (fn := Try.f59) 5 rfl rfl rfl Try.func59 rfl rfl ?_ (acc_data _)
  have h61 := c61 rows h (by omega)
  have ha := app22 rows [frD e id rm ln data] h rfl (by simpa using hb)
  have hre : retOf (acc (rows ++ [frD e id rm ln data])) = acc (rows ++ [frD e id rm ln data]) := by cases rows <;> rfl
  unfold frD at ha hre ⊢
  unfold frP
  simp [Try.f59, ec_region, altD, ec_scope, ec_label, ec_seq, ec_cond, ec_skip, ec_exit, ec_ret, ec_block, seq_normal, seq_ret, seq_exit, if_t, if_f, regN, evOpsD, coreD, wantD, evCore, evPure, evCall, use, useL, useParts, opv, rd, putS, untake, moveIt, takes, af_nil, af_cons, appTmp, apartL, apartB, posOf, cellsOf, isBelowL, PV.isBelow, boxCells, isDataL, PV.isData, loadAs, loadS, storeS, storeAs, evFieldAddr, evField, partP, evSlice, bound, natOf, rowsOk, evIndexAddr, evIndex, evLen, fillP, bin_add, bin_sub, bin_mul, bin_lss, bin_leq, bin_gtr, bin_geq, bin_eql, bin_neq, bin_and, bin_andNot, un_not, mm_max, mm_min, ofValue, ofCell, slotOf, resVal, resOne, resL, toDL, toD, sameStore, sameCells, PV.same, DV.same_self, sameRows_self, sameL_self, st_undef, st1_undef, k0_undef, st_any, st1_any, k0_any, st_d, st1_d, sc_d, on_d, k0_d, st_ptr, st1_ptr, sc_ptr, on_ptr, k0_ptr, st_nilptr, st1_nilptr, sc_nilptr, on_nilptr, k0_nilptr, st_ro, st1_ro, sc_ro, on_ro, k0_ro, st_func, st1_func, sc_func, on_func, k0_func, st_nilFunc, st1_nilFunc, sc_nilFunc, on_nilFunc, k0_nilFunc, st_tup, st1_tup, st_agg, sc_agg, E1P, E1ap, Try.aggT39, Try.szT39, Try.aggT25, Try.szT25, Try.underlying25, Try.isz39, rowsFrom, h61, ha, acc_cells, acc_one, acc_below, acc_strip, acc_strip1, hre]
end Go.Proofs

set_option linter.unusedVariables false
set_option linter.unusedSimpArgs false
set_option maxRecDepth 100000
set_option maxHeartbeats 4000000
namespace Go.Proofs
open Go.RowKit Go.Shelf Go.Pv

theorem Try.zeroT30 : zeroT Try.prog 30 = some (.agg [.e0, .e0, .d (.int .i64 0), .d (.int .i64 0), .d (.int .i64 0), .d (.int .i64 0), .e0]) := by kernel_rfl

end Go.Proofs

set_option linter.unusedVariables false
set_option linter.unusedSimpArgs false
set_option maxRecDepth 100000
set_option maxHeartbeats 4000000
namespace Go.Proofs
open Go.RowKit Go.Shelf Go.Pv

theorem st_e0 : PV.strip .e0 = .d (.slice []) := rfl
theorem st1_e0 : PV.strip1 .e0 = .d (.slice []) := rfl
theorem k0_e0 : PV.keep0 .e0 = .e0 := rfl
theorem on_e0 : oneP .e0 = true := rfl
theorem sc_e0 : storedCells .e0 = [.e0] := rfl

theorem d49 (t r s q what : Int) (ht : 0 ≤ t ∧ t ≤ 900) (hr : 0 ≤ r ∧ r ≤ 900) (hq : 0 ≤ q ∧ q ≤ 900) (hw : 1 ≤ what ∧ what ≤ 6) (σ : Store) : callIt E1 (evI E1) 51 [cn t r s q, .d (.int .i64 what)] σ = some (stepV t r s q what, σ) := by
  have hv : (stepV t r s q what).isData = true := by unfold stepV cn; split <;> (try split) <;> (try split) <;> rfl
  unfold cn
  simp [callIt, E1ov, ovAll, isDataL, PV.isData, ovStep, ht, hr, hq, hw, hv]

theorem c48 (rows : List (List DV)) (i : Nat) (h : rowsOk 5 rows = true) (hb : rows.length * 56 ≤ roomB) (hi : i < rows.length) (σ : Store) : callIt E1 (evI E1) 56 [.d (.slice rows), .d (.int .i64 i)] σ = some (.d (.slice (rows.eraseIdx i)), σ) := by
  have h0 : (0 : Int) ≤ i := by omega
  simp [callIt, E1ov, ovAll, isDataL, PV.isData, ovWithout, h, hb, hi, h0]

end Go.Proofs

set_option linter.unusedVariables false
set_option linter.unusedSimpArgs false
set_option maxRecDepth 100000
set_option maxHeartbeats 4000000
namespace Go.Proofs
open Go.RowKit Go.Shelf Go.Pv

/-- What a counter's step makes, in parts. -/
def stT (t r s q what : Int) : Int := if s = 3 then (if what = 6 ∧ q + 1 = 128 then 0 else t) else if wkT what t > 255 then 256 else wkT what t
def stR (t r s q what : Int) : Int := if s = 3 then (if what = 6 ∧ q + 1 = 128 then 0 else r) else if wkT what t > 255 then 0 else wkR what r
def stS (t r s q what : Int) : Int := if s = 3 then (if what = 6 ∧ q + 1 = 128 then 1 else 3) else if wkT what t > 255 then 3 else if max (wkT what t) (wkR what r) > 127 then 2 else 1
def stQ (t r s q what : Int) : Int := if s = 3 then (if what = 6 then (if q + 1 = 128 then 0 else q + 1) else q) else if wkT what t > 255 then 0 else q

theorem stepV_eq (t r s q what : Int) : stepV t r s q what = cn (stT t r s q what) (stR t r s q what) (stS t r s q what) (stQ t r s q what) := by
  unfold stepV stT stR stS stQ
  by_cases hs : s = 3
  · subst hs
    by_cases h6 : what = 6
    · by_cases hq : q + 1 = 128 <;> simp [h6, hq]
    · simp [h6]
  · by_cases hT : wkT what t > 255 <;> simp [hs, hT]
end Go.Proofs

set_option linter.unusedVariables false
set_option maxRecDepth 100000
namespace Go.Proofs
open Go.RowKit Go.Shelf Go.Pv

@[simp] theorem Ty.a3 : aggT Try.prog 3 = some false := by kernel_rfl
@[simp] theorem Ty.s3 : szT Try.prog 3 = some 1 := by kernel_rfl
@[simp] theorem Ty.z3 : zeroT Try.prog 3 = some (.d (.int .i64 0)) := by kernel_rfl
@[simp] theorem Ty.a4 : aggT Try.prog 4 = some false := by kernel_rfl
@[simp] theorem Ty.s4 : szT Try.prog 4 = some 1 := by kernel_rfl
@[simp] theorem Ty.z4 : zeroT Try.prog 4 = some (.d (.bool false)) := by kernel_rfl
@[simp] theorem Ty.a5 : aggT Try.prog 5 = some false := by kernel_rfl
@[simp] theorem Ty.s5 : szT Try.prog 5 = some 1 := by kernel_rfl
@[simp] theorem Ty.z5 : zeroT Try.prog 5 = some (.d (.int .u8 0)) := by kernel_rfl
@[simp] theorem Ty.a8 : aggT Try.prog 8 = some true := by kernel_rfl
@[simp] theorem Ty.s8 : szT Try.prog 8 = some 4 := by kernel_rfl
@[simp] theorem Ty.z8 : zeroT Try.prog 8 = some (.agg [.d (.int .i64 0), .d (.int .i64 0), .d (.bool false), .d (.int .u8 0)]) := by kernel_rfl
@[simp] theorem Ty.p8 : placesOf Try.prog 8 = some (fun i => ([(0, 1), (1, 1), (2, 1), (3, 1)] : List (Nat × Nat))[i]?) := by kernel_rfl
@[simp] theorem Ty.k8 : kindsOf Try.prog 8 = some [.int .i64, .int .i64, .bool, .int .u8] := by kernel_rfl
@[simp] theorem Ty.a9 : aggT Try.prog 9 = some false := by kernel_rfl
@[simp] theorem Ty.s9 : szT Try.prog 9 = some 1 := by kernel_rfl
@[simp] theorem Ty.z9 : zeroT Try.prog 9 = some (.d (.str "".toUTF8)) := by kernel_rfl
@[simp] theorem Ty.a10 : aggT Try.prog 10 = some false := by kernel_rfl
@[simp] theorem Ty.s10 : szT Try.prog 10 = some 1 := by kernel_rfl
@[simp] theorem Ty.z10 : zeroT Try.prog 10 = some (.d (.str "".toUTF8)) := by kernel_rfl
@[simp] theorem Ty.a11 : aggT Try.prog 11 = some false := by kernel_rfl
@[simp] theorem Ty.s11 : szT Try.prog 11 = some 1 := by kernel_rfl
@[simp] theorem Ty.z11 : zeroT Try.prog 11 = some (.d (.str "".toUTF8)) := by kernel_rfl
@[simp] theorem Ty.a14 : aggT Try.prog 14 = some true := by kernel_rfl
@[simp] theorem Ty.s14 : szT Try.prog 14 = some 2 := by kernel_rfl
@[simp] theorem Ty.z14 : zeroT Try.prog 14 = some (.agg [.d (.str "".toUTF8), .d (.int .u64 0)]) := by kernel_rfl
@[simp] theorem Ty.p14 : placesOf Try.prog 14 = some (fun i => ([(0, 1), (1, 1)] : List (Nat × Nat))[i]?) := by kernel_rfl
@[simp] theorem Ty.a15 : aggT Try.prog 15 = some false := by kernel_rfl
@[simp] theorem Ty.s15 : szT Try.prog 15 = some 1 := by kernel_rfl
@[simp] theorem Ty.z15 : zeroT Try.prog 15 = some (.nilptr) := by kernel_rfl
@[simp] theorem Ty.a16 : aggT Try.prog 16 = some false := by kernel_rfl
@[simp] theorem Ty.s16 : szT Try.prog 16 = some 1 := by kernel_rfl
@[simp] theorem Ty.z16 : zeroT Try.prog 16 = some (.nilptr) := by kernel_rfl
@[simp] theorem Ty.a17 : aggT Try.prog 17 = some false := by kernel_rfl
@[simp] theorem Ty.s17 : szT Try.prog 17 = some 1 := by kernel_rfl
@[simp] theorem Ty.z17 : zeroT Try.prog 17 = some (.nilptr) := by kernel_rfl
@[simp] theorem Ty.a19 : aggT Try.prog 19 = some true := by kernel_rfl
@[simp] theorem Ty.s19 : szT Try.prog 19 = some 1 := by kernel_rfl
@[simp] theorem Ty.z19 : zeroT Try.prog 19 = some (.agg [.nilptr]) := by kernel_rfl
@[simp] theorem Ty.p19 : placesOf Try.prog 19 = some (fun i => ([(0, 1)] : List (Nat × Nat))[i]?) := by kernel_rfl
@[simp] theorem Ty.a22 : aggT Try.prog 22 = some false := by kernel_rfl
@[simp] theorem Ty.s22 : szT Try.prog 22 = some 1 := by kernel_rfl
@[simp] theorem Ty.z22 : zeroT Try.prog 22 = some (.e0) := by kernel_rfl
@[simp] theorem Ty.app22 : appT Try.prog 22 = some (7, 104) := by kernel_rfl
@[simp] theorem Ty.iz30 : ((Try.prog.info? 30).bind (·.zero)).isSome = true := by kernel_rfl
@[simp] theorem Ty.a25 : aggT Try.prog 25 = some false := by kernel_rfl
@[simp] theorem Ty.s25 : szT Try.prog 25 = some 1 := by kernel_rfl
@[simp] theorem Ty.z25 : zeroT Try.prog 25 = some (.e0) := by kernel_rfl
@[simp] theorem Ty.app25 : appT Try.prog 25 = some (5, 56) := by kernel_rfl
@[simp] theorem Ty.iz39 : ((Try.prog.info? 39).bind (·.zero)).isSome = true := by kernel_rfl
@[simp] theorem Ty.a26 : aggT Try.prog 26 = some false := by kernel_rfl
@[simp] theorem Ty.s26 : szT Try.prog 26 = some 1 := by kernel_rfl
@[simp] theorem Ty.z26 : zeroT Try.prog 26 = some (.e0) := by kernel_rfl
@[simp] theorem Ty.app26 : appT Try.prog 26 = some (3, 24) := by kernel_rfl
@[simp] theorem Ty.iz81 : ((Try.prog.info? 81).bind (·.zero)).isSome = true := by kernel_rfl
@[simp] theorem Ty.a28 : aggT Try.prog 28 = some true := by kernel_rfl
@[simp] theorem Ty.s28 : szT Try.prog 28 = some 4 := by kernel_rfl
@[simp] theorem Ty.z28 : zeroT Try.prog 28 = some (.agg [.d (.int .i64 0), .d (.int .i64 0), .d (.int .i64 0), .d (.int .i64 0)]) := by kernel_rfl
@[simp] theorem Ty.p28 : placesOf Try.prog 28 = some (fun i => ([(0, 1), (1, 1), (2, 1), (3, 1)] : List (Nat × Nat))[i]?) := by kernel_rfl
@[simp] theorem Ty.k28 : kindsOf Try.prog 28 = some [.int .i64, .int .i64, .int .i64, .int .i64] := by kernel_rfl
@[simp] theorem Ty.a30 : aggT Try.prog 30 = some true := by kernel_rfl
@[simp] theorem Ty.s30 : szT Try.prog 30 = some 7 := by kernel_rfl
@[simp] theorem Ty.z30 : zeroT Try.prog 30 = some (.agg [.e0, .e0, .d (.int .i64 0), .d (.int .i64 0), .d (.int .i64 0), .d (.int .i64 0), .e0]) := by kernel_rfl
@[simp] theorem Ty.p30 : placesOf Try.prog 30 = some (fun i => ([(0, 1), (1, 1), (2, 4), (6, 1)] : List (Nat × Nat))[i]?) := by kernel_rfl
@[simp] theorem Ty.a33 : aggT Try.prog 33 = some false := by kernel_rfl
@[simp] theorem Ty.s33 : szT Try.prog 33 = some 1 := by kernel_rfl
@[simp] theorem Ty.z33 : zeroT Try.prog 33 = some (.e0) := by kernel_rfl
@[simp] theorem Ty.app33 : appT Try.prog 33 = some (8, 80) := by kernel_rfl
@[simp] theorem Ty.iz41 : ((Try.prog.info? 41).bind (·.zero)).isSome = true := by kernel_rfl
@[simp] theorem Ty.a36 : aggT Try.prog 36 = some false := by kernel_rfl
@[simp] theorem Ty.s36 : szT Try.prog 36 = some 1 := by kernel_rfl
@[simp] theorem Ty.z36 : zeroT Try.prog 36 = some (.e0) := by kernel_rfl
@[simp] theorem Ty.app36 : appT Try.prog 36 = some (1, 24) := by kernel_rfl
@[simp] theorem Ty.iz48 : ((Try.prog.info? 48).bind (·.zero)).isSome = true := by kernel_rfl
@[simp] theorem Ty.a37 : aggT Try.prog 37 = some false := by kernel_rfl
@[simp] theorem Ty.s37 : szT Try.prog 37 = some 1 := by kernel_rfl
@[simp] theorem Ty.z37 : zeroT Try.prog 37 = some (.e0) := by kernel_rfl
@[simp] theorem Ty.app37 : appT Try.prog 37 = some (1, 1) := by kernel_rfl
@[simp] theorem Ty.iz5 : ((Try.prog.info? 5).bind (·.zero)).isSome = true := by kernel_rfl
@[simp] theorem Ty.a39 : aggT Try.prog 39 = some true := by kernel_rfl
@[simp] theorem Ty.s39 : szT Try.prog 39 = some 5 := by kernel_rfl
@[simp] theorem Ty.z39 : zeroT Try.prog 39 = some (.agg [.d (.bool false), .d (.int .i64 0), .d (.bool false), .d (.int .i64 0), .e0]) := by kernel_rfl
@[simp] theorem Ty.p39 : placesOf Try.prog 39 = some (fun i => ([(0, 1), (1, 1), (2, 1), (3, 1), (4, 1)] : List (Nat × Nat))[i]?) := by kernel_rfl
@[simp] theorem Ty.a41 : aggT Try.prog 41 = some true := by kernel_rfl
@[simp] theorem Ty.s41 : szT Try.prog 41 = some 8 := by kernel_rfl
@[simp] theorem Ty.z41 : zeroT Try.prog 41 = some (.agg [.d (.int .i64 0), .d (.bool false), .d (.int .i64 0), .d (.bool false), .d (.int .i64 0), .e0, .d (.bool false), .d (.int .i64 0)]) := by kernel_rfl
@[simp] theorem Ty.p41 : placesOf Try.prog 41 = some (fun i => ([(0, 1), (1, 5), (6, 1), (7, 1)] : List (Nat × Nat))[i]?) := by kernel_rfl
@[simp] theorem Ty.a43 : aggT Try.prog 43 = some false := by kernel_rfl
@[simp] theorem Ty.s43 : szT Try.prog 43 = some 1 := by kernel_rfl
@[simp] theorem Ty.z43 : zeroT Try.prog 43 = some (.e0) := by kernel_rfl
@[simp] theorem Ty.app43 : appT Try.prog 43 = some (1, 8) := by kernel_rfl
@[simp] theorem Ty.iz3 : ((Try.prog.info? 3).bind (·.zero)).isSome = true := by kernel_rfl
@[simp] theorem Ty.a48 : aggT Try.prog 48 = some true := by kernel_rfl
@[simp] theorem Ty.s48 : szT Try.prog 48 = some 1 := by kernel_rfl
@[simp] theorem Ty.z48 : zeroT Try.prog 48 = some (.agg [.e0]) := by kernel_rfl
@[simp] theorem Ty.p48 : placesOf Try.prog 48 = some (fun i => ([(0, 1)] : List (Nat × Nat))[i]?) := by kernel_rfl
@[simp] theorem Ty.a63 : aggT Try.prog 63 = some false := by kernel_rfl
@[simp] theorem Ty.s63 : szT Try.prog 63 = some 1 := by kernel_rfl
@[simp] theorem Ty.z63 : zeroT Try.prog 63 = some (.nilptr) := by kernel_rfl
@[simp] theorem Ty.a68 : aggT Try.prog 68 = some false := by kernel_rfl
@[simp] theorem Ty.s68 : szT Try.prog 68 = some 1 := by kernel_rfl
@[simp] theorem Ty.z68 : zeroT Try.prog 68 = some (.nilFunc) := by kernel_rfl
@[simp] theorem Ty.a70 : aggT Try.prog 70 = some false := by kernel_rfl
@[simp] theorem Ty.s70 : szT Try.prog 70 = some 1 := by kernel_rfl
@[simp] theorem Ty.z70 : zeroT Try.prog 70 = some (.nilFunc) := by kernel_rfl
@[simp] theorem Ty.a72 : aggT Try.prog 72 = some true := by kernel_rfl
@[simp] theorem Ty.s72 : szT Try.prog 72 = some 9 := by kernel_rfl
@[simp] theorem Ty.z72 : zeroT Try.prog 72 = some (.agg [.e0, .e0, .d (.int .i64 0), .d (.bool false), .d (.int .i64 0), .d (.bool false), .d (.int .i64 0), .e0, .e0]) := by kernel_rfl
@[simp] theorem Ty.p72 : placesOf Try.prog 72 = some (fun i => ([(0, 1), (1, 1), (2, 1), (3, 5), (8, 1)] : List (Nat × Nat))[i]?) := by kernel_rfl
@[simp] theorem Ty.a81 : aggT Try.prog 81 = some true := by kernel_rfl
@[simp] theorem Ty.s81 : szT Try.prog 81 = some 3 := by kernel_rfl
@[simp] theorem Ty.z81 : zeroT Try.prog 81 = some (.agg [.d (.bool false), .d (.int .i64 0), .d (.int .i64 0)]) := by kernel_rfl
@[simp] theorem Ty.p81 : placesOf Try.prog 81 = some (fun i => ([(0, 1), (1, 1), (2, 1)] : List (Nat × Nat))[i]?) := by kernel_rfl
@[simp] theorem Ty.k81 : kindsOf Try.prog 81 = some [.bool, .int .i64, .int .i64] := by kernel_rfl
@[simp] theorem Ty.a82 : aggT Try.prog 82 = some false := by kernel_rfl
@[simp] theorem Ty.s82 : szT Try.prog 82 = some 1 := by kernel_rfl
@[simp] theorem Ty.z82 : zeroT Try.prog 82 = some (.nilFunc) := by kernel_rfl
@[simp] theorem Ty.a94 : aggT Try.prog 94 = some false := by kernel_rfl
@[simp] theorem Ty.s94 : szT Try.prog 94 = some 1 := by kernel_rfl
@[simp] theorem Ty.z94 : zeroT Try.prog 94 = some (.nilFunc) := by kernel_rfl
@[simp] theorem Ty.a97 : aggT Try.prog 97 = some false := by kernel_rfl
@[simp] theorem Ty.s97 : szT Try.prog 97 = some 1 := by kernel_rfl
@[simp] theorem Ty.z97 : zeroT Try.prog 97 = some (.e0) := by kernel_rfl
@[simp] theorem Ty.app97 : appT Try.prog 97 = some (1, 24) := by kernel_rfl
@[simp] theorem Ty.iz43 : ((Try.prog.info? 43).bind (·.zero)).isSome = true := by kernel_rfl
@[simp] theorem Ty.a98 : aggT Try.prog 98 = some false := by kernel_rfl
@[simp] theorem Ty.s98 : szT Try.prog 98 = some 1 := by kernel_rfl
@[simp] theorem Ty.z98 : zeroT Try.prog 98 = some (.e0) := by kernel_rfl
@[simp] theorem Ty.app98 : appT Try.prog 98 = some (1, 1) := by kernel_rfl
@[simp] theorem Ty.iz4 : ((Try.prog.info? 4).bind (·.zero)).isSome = true := by kernel_rfl
@[simp] theorem Ty.a100 : aggT Try.prog 100 = some true := by kernel_rfl
@[simp] theorem Ty.s100 : szT Try.prog 100 = some 4 := by kernel_rfl
@[simp] theorem Ty.z100 : zeroT Try.prog 100 = some (.agg [.e0, .e0, .e0, .e0]) := by kernel_rfl
@[simp] theorem Ty.p100 : placesOf Try.prog 100 = some (fun i => ([(0, 1), (1, 1), (2, 1), (3, 1)] : List (Nat × Nat))[i]?) := by kernel_rfl
@[simp] theorem Ty.a101 : aggT Try.prog 101 = some false := by kernel_rfl
@[simp] theorem Ty.s101 : szT Try.prog 101 = some 1 := by kernel_rfl
@[simp] theorem Ty.z101 : zeroT Try.prog 101 = some (.nilptr) := by kernel_rfl
@[simp] theorem Ty.a104 : aggT Try.prog 104 = some true := by kernel_rfl
@[simp] theorem Ty.s104 : szT Try.prog 104 = some 1 := by kernel_rfl
@[simp] theorem Ty.z104 : zeroT Try.prog 104 = some (.agg [.e0]) := by kernel_rfl
@[simp] theorem Ty.p104 : placesOf Try.prog 104 = some (fun i => ([(0, 1)] : List (Nat × Nat))[i]?) := by kernel_rfl
@[simp] theorem Ty.a107 : aggT Try.prog 107 = some true := by kernel_rfl
@[simp] theorem Ty.s107 : szT Try.prog 107 = some 4 := by kernel_rfl
@[simp] theorem Ty.z107 : zeroT Try.prog 107 = some (.agg [.d (.int .i64 0), .d (.int .i64 0), .d (.int .i64 0), .d (.int .i64 0)]) := by kernel_rfl
@[simp] theorem Ty.p107 : placesOf Try.prog 107 = some (fun i => ([(0, 1), (1, 1), (2, 1), (3, 1)] : List (Nat × Nat))[i]?) := by kernel_rfl
@[simp] theorem Ty.k107 : kindsOf Try.prog 107 = some [.int .i64, .int .i64, .int .i64, .int .i64] := by kernel_rfl
@[simp] theorem Ty.a108 : aggT Try.prog 108 = some false := by kernel_rfl
@[simp] theorem Ty.s108 : szT Try.prog 108 = some 1 := by kernel_rfl
@[simp] theorem Ty.z108 : zeroT Try.prog 108 = some (.nilFunc) := by kernel_rfl
@[simp] theorem Ty.a110 : aggT Try.prog 110 = some false := by kernel_rfl
@[simp] theorem Ty.s110 : szT Try.prog 110 = some 1 := by kernel_rfl
@[simp] theorem Ty.a112 : aggT Try.prog 112 = some false := by kernel_rfl
@[simp] theorem Ty.s112 : szT Try.prog 112 = some 1 := by kernel_rfl
@[simp] theorem Ty.z112 : zeroT Try.prog 112 = some (.nilptr) := by kernel_rfl
@[simp] theorem Ty.a116 : aggT Try.prog 116 = some false := by kernel_rfl
@[simp] theorem Ty.s116 : szT Try.prog 116 = some 1 := by kernel_rfl
@[simp] theorem Ty.z116 : zeroT Try.prog 116 = some (.nilFunc) := by kernel_rfl
@[simp] theorem Ty.a124 : aggT Try.prog 124 = some false := by kernel_rfl
@[simp] theorem Ty.s124 : szT Try.prog 124 = some 1 := by kernel_rfl
@[simp] theorem Ty.z124 : zeroT Try.prog 124 = some (.nilptr) := by kernel_rfl
@[simp] theorem Ty.a129 : aggT Try.prog 129 = some false := by kernel_rfl
@[simp] theorem Ty.s129 : szT Try.prog 129 = some 1 := by kernel_rfl
@[simp] theorem Ty.z129 : zeroT Try.prog 129 = some (.nilFunc) := by kernel_rfl
@[simp] theorem Ty.a131 : aggT Try.prog 131 = some false := by kernel_rfl
@[simp] theorem Ty.s131 : szT Try.prog 131 = some 1 := by kernel_rfl
@[simp] theorem Ty.z131 : zeroT Try.prog 131 = some (.nilptr) := by kernel_rfl
@[simp] theorem Ty.a133 : aggT Try.prog 133 = some true := by kernel_rfl
@[simp] theorem Ty.s133 : szT Try.prog 133 = some 3 := by kernel_rfl
@[simp] theorem Ty.z133 : zeroT Try.prog 133 = some (.agg [.d (.int .i64 0), .d (.int .i64 0), .d (.int .i64 0)]) := by kernel_rfl
@[simp] theorem Ty.p133 : placesOf Try.prog 133 = some (fun i => ([(0, 1), (1, 1), (2, 1)] : List (Nat × Nat))[i]?) := by kernel_rfl
@[simp] theorem Ty.k133 : kindsOf Try.prog 133 = some [.int .i64, .int .i64, .int .i64] := by kernel_rfl
@[simp] theorem Ty.a135 : aggT Try.prog 135 = some false := by kernel_rfl
@[simp] theorem Ty.s135 : szT Try.prog 135 = some 1 := by kernel_rfl
@[simp] theorem Ty.z135 : zeroT Try.prog 135 = some (.nilFunc) := by kernel_rfl
@[simp] theorem Ty.a139 : aggT Try.prog 139 = some true := by kernel_rfl
@[simp] theorem Ty.s139 : szT Try.prog 139 = some 2 := by kernel_rfl
@[simp] theorem Ty.z139 : zeroT Try.prog 139 = some (.agg [.d (.bool false), .d (.int .i64 0)]) := by kernel_rfl
@[simp] theorem Ty.p139 : placesOf Try.prog 139 = some (fun i => ([(0, 1), (1, 1)] : List (Nat × Nat))[i]?) := by kernel_rfl
@[simp] theorem Ty.k139 : kindsOf Try.prog 139 = some [.bool, .int .i64] := by kernel_rfl
@[simp] theorem Ty.a152 : aggT Try.prog 152 = some false := by kernel_rfl
@[simp] theorem Ty.s152 : szT Try.prog 152 = some 1 := by kernel_rfl
@[simp] theorem Ty.z152 : zeroT Try.prog 152 = some (.d (.int .u8 0)) := by kernel_rfl
attribute [simp] Try.underlying3 Try.underlying4 Try.underlying5 Try.underlying8 Try.underlying9 Try.underlying10 Try.underlying11 Try.underlying14 Try.underlying15 Try.underlying16 Try.underlying17 Try.underlying19 Try.underlying22 Try.underlying25 Try.underlying26 Try.underlying28 Try.underlying30 Try.underlying33 Try.underlying36 Try.underlying37 Try.underlying39 Try.underlying41 Try.underlying43 Try.underlying48 Try.underlying63 Try.underlying68 Try.underlying70 Try.underlying72 Try.underlying81 Try.underlying82 Try.underlying94 Try.underlying97 Try.underlying98 Try.underlying100 Try.underlying101 Try.underlying104 Try.underlying107 Try.underlying108 Try.underlying110 Try.underlying112 Try.underlying116 Try.underlying124 Try.underlying129 Try.underlying131 Try.underlying133 Try.underlying135 Try.underlying139 Try.underlying152
end Go.Proofs

