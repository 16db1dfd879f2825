/- The seat of nodes: the evaluator with all its overrides; The seat of nodes: what its functions compute: facts; The seat of nodes: frames; The seat of nodes: the rank of a frame; The seat of nodes: the rank of a frame of eleven bits, and of twenty-nine; The seat of nodes: frame.Rank, and ranks compared; The seat of nodes: node.with, node.Send; The seat of nodes: node.Send; The seat of nodes: node.Take, node.Quiet; The seat of nodes: node.Quiet; Facts of the seat's types, printed by a program (tys). -/
import Derived.Test.YtnnindnmpfmaaaaGreatNq
import Derived.Test.YtnnindnmpfmaaaaGreatNsp
import Derived.Test.YtnnindnmpfmaaaaGreatNcl
set_option linter.unusedVariables false
set_option linter.unusedSimpArgs false
set_option maxRecDepth 100000
namespace Go.Proofs
open Go.RowKit Go.Shelf Go.Pv

def ovClone (sz b : Nat) : List PV → Option PV
  | [.d (.slice rows)] => if rowsOk sz rows && decide (rows.length * b ≤ roomB) then some (acc rows) else none
  | _ => none

def ovWithout : List PV → Option PV
  | [.d (.slice rows), .d (.int .i64 i)] => if rowsOk 5 rows && decide (rows.length * 56 ≤ roomB) && decide (0 ≤ i) && decide (i.toNat < rows.length) then some (.d (.slice (rows.eraseIdx i.toNat))) else none
  | _ => none

def ovStep : List PV → Option PV
  | [.agg [.d (.int .i64 t), .d (.int .i64 r), .d (.int .i64 s), .d (.int .i64 q)], .d (.int .i64 what)] =>
    if decide (0 ≤ t ∧ t ≤ 900) && decide (0 ≤ r ∧ r ≤ 900) && decide (0 ≤ q ∧ q ≤ 900) && decide (1 ≤ what ∧ what ≤ 6) then some (stepV t r s q what) else none
  | _ => none

def ovPut : List PV → Option PV
  | [.d (.int .i64 v), .d (.int .i64 m)] => if decide (0 ≤ m ∧ m ≤ 32) && decide (0 ≤ v ∧ v < 2 ^ m.toNat) then some (.tup [.d (.slice (bitRows v m.toNat)), .d (.bool true)]) else none
  | _ => none

theorem bytesOf_rows {rows : List (List DV)} {xs : List Int} (h : bytesOfRows rows = some xs) : rows = xs.map fun b => [DV.int .u8 b] := by
  obtain ⟨h1, h2⟩ := bytesOfRows_get h
  apply List.ext_getElem?
  intro i
  rw [List.getElem?_map]
  by_cases hi : i < xs.length
  · rw [h2 i xs[i] (List.getElem?_eq_getElem hi), List.getElem?_eq_getElem hi]; rfl
  · rw [List.getElem?_eq_none (by omega), List.getElem?_eq_none (by omega)]; rfl

def ovSpread : List PV → Option PV
  | [.d (.slice rows)] => (bytesOfRows rows).bind fun xs => if decide (xs.length ≤ 2 ^ 40) && xs.all (fun x => decide (0 ≤ x ∧ x < 256)) then some (.d (.slice ((spreadL xs).map fun b => [.int .i64 b]))) else none
  | _ => none

def ovAll (f : FuncId) : Option (List PV → Option PV) :=
  if f = 126 then some (ovClone 3 24) else
  if f = 175 then some (ovClone 5 56) else if f = 144 then some ovWithout else if f = 139 then some ovStep else if f = 188 then some ovPut else if f = 213 then some ovSpread else
  if f = 97 then some (ovClone 7 104) else if f = 156 then some (ovClone 1 24) else
  none

def extAll (b : Bool) (f : FuncId) : Option (List PV → Store → Option (PV × Store)) :=
  if b = true ∧ f = 97 then some (extClone 7 104) else if b = true ∧ f = 156 then some (extClone 1 24) else
  none


/-- The seat's functions. -/
noncomputable def E1 : Env := { P := Tryz.prog, good := goodF, pure := pureF, ov := ovAll, ro := roF, apart := apF, alt := altF, ext := extAll, wild := wildF, mkf := mkF }

theorem ovAll_ok : OvOk E1 := by
  refine ⟨?_, fun b f g hg => ?_⟩
  case refine_2 =>
    intro args σ r hr
    replace hg : extAll b f = some g := hg
    unfold extAll at hg
    split at hg
    · rename_i h; obtain ⟨rfl, rfl⟩ := h; cases hg; exact extClone_ok Tryz.cloneMsN hr
    split at hg
    · rename_i h; obtain ⟨rfl, rfl⟩ := h; cases hg; exact extClone_ok Tryz.cloneMsM hr
    cases hg
  intro f g hg args res hres hd hrd
  replace hg : ovAll f = some g := hg
  unfold ovAll at hg
  split at hg
  · rename_i h; subst h; cases hg
    unfold ovClone at hres
    split at hres
    · split at hres
      · rename_i hc; cases hres
        simp only [Bool.and_eq_true, decide_eq_true_eq] at hc
        exact Tryz.cloneT _ hc.1 hc.2
      · cases hres
    · cases hres
  split at hg
  · rename_i h; subst h; cases hg
    unfold ovClone at hres
    split at hres
    · split at hres
      · rename_i hc; cases hres
        simp only [Bool.and_eq_true, decide_eq_true_eq] at hc
        exact Tryz.cloneF _ hc.1 hc.2
      · cases hres
    · cases hres
  split at hg
  · rename_i h; subst h; cases hg
    unfold ovWithout at hres
    split at hres
    · split at hres
      · rename_i i hc; cases hres
        simp only [Bool.and_eq_true, decide_eq_true_eq] at hc
        have := Tryz.withoutF _ i.toNat hc.1.1.1 hc.1.1.2 hc.2
        rwa [Int.toNat_of_nonneg hc.1.2] at this
      · cases hres
    · cases hres
  split at hg
  · rename_i h; subst h; cases hg
    unfold ovStep at hres
    split at hres
    · split at hres
      · rename_i hc; cases hres
        simp only [Bool.and_eq_true, decide_eq_true_eq] at hc
        exact Tryz.stepOk _ _ _ _ _ hc.1.1.1 hc.1.1.2 hc.1.2 hc.2
      · cases hres
    · cases hres
  split at hg
  · rename_i h; subst h; cases hg
    unfold ovPut at hres
    split at hres
    · split at hres
      · rename_i m hc; cases hres
        simp only [Bool.and_eq_true, decide_eq_true_eq] at hc
        have := Tryz.putOk _ m.toNat (by omega) hc.2
        rwa [Int.toNat_of_nonneg hc.1.1] at this
      · cases hres
    · cases hres
  split at hg
  · rename_i h; subst h; cases hg
    unfold ovSpread at hres
    split at hres
    · rename_i rows
      cases hx : bytesOfRows rows with
      | none => simp [hx] at hres
      | some xs =>
        simp only [hx, Option.bind_some] at hres
        split at hres
        · rename_i hc
          cases hres
          simp only [Bool.and_eq_true, decide_eq_true_eq, List.all_eq_true] at hc
          rw [bytesOf_rows hx]
          exact Tryz.spreadOk xs hc.1 hc.2
        · cases hres
    · cases hres
  split at hg
  · rename_i h; subst h; cases hg
    unfold ovClone at hres
    split at hres
    · split at hres
      · rename_i hc; cases hres
        simp only [Bool.and_eq_true, decide_eq_true_eq] at hc
        exact Tryz.cloneN _ hc.1 hc.2
      · cases hres
    · cases hres
  split at hg
  · rename_i h; subst h; cases hg
    unfold ovClone at hres
    split at hres
    · split at hres
      · rename_i hc; cases hres
        simp only [Bool.and_eq_true, decide_eq_true_eq] at hc
        exact Tryz.cloneM _ hc.1 hc.2
      · cases hres
    · cases hres
  cases hg

theorem E1_ok : EnvOk E1 := envOk_of (n := nFn) Tryz.mixed goodF_lt (by kernel_rfl) ovAll_ok

end Go.Proofs

set_option linter.unusedVariables false
set_option linter.unusedSimpArgs false
set_option maxRecDepth 100000
set_option maxHeartbeats 4000000
namespace Go.Proofs
open Go.RowKit Go.Shelf Go.Pv

@[simp] theorem E1x (b : Bool) (f : FuncId) : E1.ext b f = extAll b f := rfl
@[simp] theorem extF (f : FuncId) : extAll false f = none := by simp [extAll]
@[simp] theorem E1lo : E1.loose = false := rfl
@[simp] theorem E1w (f : FuncId) : E1.wild f = wildF f := rfl
@[simp] theorem E1mk (d : Option Tmp) : mkSel E1 d = false := by cases d <;> rfl
@[simp] theorem E1al (p : String) (n : Nat) : E1.alt p n = altF p n := rfl
theorem E1P : E1.P = Tryz.prog := rfl
theorem E1ov (f : FuncId) : E1.ov f = ovAll f := rfl
theorem E1ap (p : String) : E1.apart p = apF p := rfl
theorem E1ro (f : FuncId) : E1.ro f = roF f := rfl

/-- What a wild function is run in. -/
noncomputable def E2 (f : FuncId) : Env := { E1 with loose := true, mks := mkF f }
theorem E1at (f : FuncId) (h : wildF f = true) : E1.at f = E2 f := by
  unfold Env.at
  rw [if_pos (show E1.wild f = true from h)]
  rfl
section
variable (f g : FuncId)
@[simp] theorem E2P : (E2 f).P = Tryz.prog := rfl
@[simp] theorem E2lo : (E2 f).loose = true := rfl
@[simp] theorem E2ap (p : String) : (E2 f).apart p = apF p := rfl
@[simp] theorem E2al (p : String) (n : Nat) : (E2 f).alt p n = altF p n := rfl
@[simp] theorem E2mk0 : mkSel (E2 f) none = false := rfl
@[simp] theorem E2mk (d : Nat) : mkSel (E2 f) (some d) = (mkF f).contains d := rfl
@[simp] theorem extNone : (extAll true g).isNone = 
  !(g == 97 || g == 156)
  := by
  unfold extAll
  by_cases h1 : g = 97
  · simp [h1]
  · by_cases h2 : g = 156
    · simp [h2]
    · simp [h1, h2]
@[simp] theorem E2call (F : FnEv) (args : List PV) (σ : Store) (h : (extAll true g).isNone = true) : callIt (E2 f) F g args σ = callIt E1 F g args σ := by
  have h1 : extAll true g = none := Option.isNone_iff_eq_none.1 h
  have h2 : (E2 f).ext (E2 f).loose g = none := h1
  have h3 : E1.ext E1.loose g = none := extF g
  unfold callIt
  rw [h2, h3]
  rfl
end
/-- A wild function of data run. -/
theorem call_run2 {f : FuncId} {fn : Func} {c : Code} {args : List PV} {σ : Store} {v : PV} (m : Nat) (hw : wildF f = true) (hg : E1.good f = true) (ho : E1.ov f = none) (hp : E1.pure f = true) (hf : E1.P.funcs[f]? = some fn) (hb : fn.body = some c) (hd : isDataL args = true)
    (h : ((evCode (E2 f) (evI E1) m c ⟨args ++ List.replicate (fn.ntmps - args.length) .undef, []⟩).bind fun r => if r.1 = .normal ∨ r.1 = .ret then (resVal E1.P fn r.2).bind fun u => if u.isData then some u else frzP r.2.store (r.2.store.length + 1) u else none) = some v) : callIt E1 (evI E1) f args σ = some (v, σ) :=
  call_runW m hg ho hp hf hb hd (by rw [E1at f hw]; exact h)

/-- A frame. -/
def frD (e : Bool) (id : Int) (rm : Bool) (ln : Int) (rows : List (List DV)) : List DV := [.bool e, .int .i64 id, .bool rm, .int .i64 ln, .slice rows]
def frP (e : Bool) (id : Int) (rm : Bool) (ln : Int) (rows : List (List DV)) : PV := .agg [.d (.bool e), .d (.int .i64 id), .d (.bool rm), .d (.int .i64 ln), .d (.slice rows)]

def frRight (e : Bool) (id : Int) (rm : Bool) (ln : Int) (rows : List (List DV)) : Bool :=
  (id.fdiv (2 ^ (if e then 29 else 11)) == 0) && decide (0 ≤ ln) && decide (ln ≤ 8) && ((rows.length : Int) == if rm then 0 else ln)

theorem Tryz.aggT34 : aggT Tryz.prog 34 = some true := by kernel_rfl
theorem Tryz.szT34 : szT Tryz.prog 34 = some 5 := by kernel_rfl
theorem Tryz.aggT4 : aggT Tryz.prog 4 = some false := by kernel_rfl
theorem Tryz.szT4 : szT Tryz.prog 4 = some 1 := by kernel_rfl
theorem Tryz.aggT32 : aggT Tryz.prog 32 = some false := by kernel_rfl
theorem Tryz.szT32 : szT Tryz.prog 32 = some 1 := by kernel_rfl


theorem acc_own (rows : List (List DV)) : ownRows (acc rows) = some rows := by cases rows <;> rfl
theorem acc_cells (rows : List (List DV)) : storedCells (acc rows) = [acc rows] := by cases rows <;> rfl
theorem acc_one (rows : List (List DV)) : oneP (acc rows) = true := by cases rows <;> rfl
theorem acc_below (n : Nat) (rows : List (List DV)) : (acc rows).isBelow n = true := by cases rows <;> rfl
theorem acc_strip (rows : List (List DV)) : (acc rows).strip = .d (.slice rows) := by cases rows <;> rfl
theorem acc_strip1 (rows : List (List DV)) : (acc rows).strip1 = .d (.slice rows) := by cases rows <;> rfl
theorem acc_keep0 (rows : List (List DV)) : (acc rows).keep0 = match rows with | [] => .e0 | _ => .d (.slice rows) := by cases rows <;> rfl
theorem st_undef  : PV.strip (.undef) = .undef := rfl
theorem st1_undef  : PV.strip1 (.undef) = .undef := rfl
theorem k0_undef  : PV.keep0 (.undef) = .undef := rfl
theorem st_any  : PV.strip (.any) = .any := rfl
theorem st1_any  : PV.strip1 (.any) = .any := rfl
theorem k0_any  : PV.keep0 (.any) = .any := rfl
theorem st_d (x : DV) : PV.strip (.d x) = .d x := rfl
theorem st1_d (x : DV) : PV.strip1 (.d x) = .d x := rfl
theorem sc_d (x : DV) : storedCells (.d x) = [.d x] := rfl
theorem on_d (x : DV) : oneP (.d x) = true := rfl
theorem k0_d (x : DV) : PV.keep0 (.d x) = .d x := rfl
theorem st_ptr (i o : Nat) : PV.strip (.ptr i o) = .ptr i o := rfl
theorem st1_ptr (i o : Nat) : PV.strip1 (.ptr i o) = .ptr i o := rfl
theorem sc_ptr (i o : Nat) : storedCells (.ptr i o) = [.ptr i o] := rfl
theorem on_ptr (i o : Nat) : oneP (.ptr i o) = true := rfl
theorem k0_ptr (i o : Nat) : PV.keep0 (.ptr i o) = .ptr i o := rfl
theorem st_nilptr  : PV.strip (.nilptr) = .nilptr := rfl
theorem st1_nilptr  : PV.strip1 (.nilptr) = .nilptr := rfl
theorem sc_nilptr  : storedCells (.nilptr) = [.nilptr] := rfl
theorem on_nilptr  : oneP (.nilptr) = true := rfl
theorem k0_nilptr  : PV.keep0 (.nilptr) = .nilptr := rfl
theorem st_ro (c : List DV) : PV.strip (.ro c) = .ro c := rfl
theorem st1_ro (c : List DV) : PV.strip1 (.ro c) = .ro c := rfl
theorem sc_ro (c : List DV) : storedCells (.ro c) = [.ro c] := rfl
theorem on_ro (c : List DV) : oneP (.ro c) = true := rfl
theorem k0_ro (c : List DV) : PV.keep0 (.ro c) = .ro c := rfl
theorem st_func (f : Fn) (a c : List PV) : PV.strip (.func f a c) = .func f a c := rfl
theorem st1_func (f : Fn) (a c : List PV) : PV.strip1 (.func f a c) = .func f a c := rfl
theorem sc_func (f : Fn) (a c : List PV) : storedCells (.func f a c) = [.func f a c] := rfl
theorem on_func (f : Fn) (a c : List PV) : oneP (.func f a c) = true := rfl
theorem k0_func (f : Fn) (a c : List PV) : PV.keep0 (.func f a c) = .func f a c := rfl
theorem st_nilFunc  : PV.strip (.nilFunc) = .nilFunc := rfl
theorem st1_nilFunc  : PV.strip1 (.nilFunc) = .nilFunc := rfl
theorem sc_nilFunc  : storedCells (.nilFunc) = [.nilFunc] := rfl
theorem on_nilFunc  : oneP (.nilFunc) = true := rfl
theorem k0_nilFunc  : PV.keep0 (.nilFunc) = .nilFunc := rfl
theorem st_tup (v : List PV) : PV.strip (.tup v) = .tup v := rfl
theorem st1_tup (v : List PV) : PV.strip1 (.tup v) = .tup v := rfl
theorem st_agg (c : List PV) : PV.strip (.agg c) = .agg (c.map PV.strip1) := rfl
theorem sc_agg (c : List PV) : storedCells (.agg c) = c.map PV.keep0 := rfl
end Go.Proofs

set_option linter.unusedVariables false
set_option linter.unusedSimpArgs false
set_option maxRecDepth 100000
set_option maxHeartbeats 4000000
namespace Go.Proofs
open Go.RowKit Go.Shelf Go.Pv

/-- frame.Right, of a frame that is right. -/
theorem c41 (e : Bool) (id : Int) (rm : Bool) (ln : Int) (rows : List (List DV)) (σ : Store) : callIt E1 (evI E1) 118 [frP e id rm ln rows] σ = some (.d (.bool (frRight e id rm ln rows)), σ) := by
  refine call_run (fn := Tryz.f118) 5 rfl rfl rfl Tryz.func118 rfl rfl ?_ rfl
  have s11 := bin_shr (P := Tryz.prog) (t := 3) (a := id) (b := 11) (by decide)
  have s29 := bin_shr (P := Tryz.prog) (t := 3) (a := id) (b := 29) (by decide)
  rw [show (2 : Int) ^ min (Int.toNat 11) 64 = 2 ^ 11 by decide] at s11
  rw [show (2 : Int) ^ min (Int.toNat 29) 64 = 2 ^ 29 by decide] at s29
  have key : ∀ (z : Int) (b1 b2 b3 b4 : Bool), evBin Tryz.prog .shr 3 (.d (.int .i64 id)) (.d (.int .i64 (if e then 29 else 11))) = some (.d (.int .i64 z)) → (z == 0) = b1 → decide (ln ≥ 0) = b2 → decide (ln ≤ 8) = b3 → ((rows.length : Int) == if rm then 0 else ln) = b4 →
      ((evCode E1 (evI E1) 5 (Tryz.f118.body.getD .skip) ⟨[frP e id rm ln rows] ++ List.replicate (Tryz.f118.ntmps - [frP e id rm ln rows].length) .undef, []⟩).bind fun r => if r.1 = .normal ∨ r.1 = .ret then resVal E1.P Tryz.f118 r.2 else none) = some (.d (.bool (b1 && b2 && b3 && b4))) := by
    intro z b1 b2 b3 b4 hz h1 h2 h3 h4
    unfold frP
    cases e <;> cases rm <;> simp only [if_true, if_false, Bool.false_eq_true] at hz h4 <;> cases b1 <;> first
      | (simp [Tryz.f118, ec_region, altD, ec_scope, ec_label, ec_seq, ec_cond, ec_skip, ec_exit, ec_ret, ec_block, seq_normal, seq_ret, seq_exit, if_t, if_f, regN, evOpsD, coreD, wantD, evCore, evPure, evCall, use, useL, useParts, opv, rd, putS, untake, moveIt, takes, af_nil, af_cons, appTmp, apartL, apartB, posOf, cellsOf, isBelowL, PV.isBelow, boxCells, isDataL, PV.isData, loadAs, loadS, storeS, storeAs, storedCells, oneP, PV.strip, PV.strip1, PV.keep0, evFieldAddr, evField, partP, evSlice, bound, natOf, rowsOk, evIndexAddr, evIndex, evLen, evAppend, ownRows, elemsOf, acc, fillP, bin_add, bin_sub, bin_mul, bin_lss, bin_leq, bin_gtr, bin_geq, bin_eql, bin_neq, bin_and, bin_andNot, un_not, mm_max, mm_min, ofValue, ofCell, slotOf, resVal, resOne, resL, retOf, toDL, toD, sameStore, sameCells, PV.same, DV.same_self, sameRows_self, sameL_self, E1P, E1ap, Tryz.aggT3, Tryz.szT3, Tryz.aggT34, Tryz.szT34, Tryz.aggT4, Tryz.szT4, Tryz.aggT32, Tryz.szT32, Tryz.underlying34, Tryz.underlying32, hz, h1]; done)
      | (cases b2 <;> first
        | (simp [Tryz.f118, ec_region, altD, ec_scope, ec_label, ec_seq, ec_cond, ec_skip, ec_exit, ec_ret, ec_block, seq_normal, seq_ret, seq_exit, if_t, if_f, regN, evOpsD, coreD, wantD, evCore, evPure, evCall, use, useL, useParts, opv, rd, putS, untake, moveIt, takes, af_nil, af_cons, appTmp, apartL, apartB, posOf, cellsOf, isBelowL, PV.isBelow, boxCells, isDataL, PV.isData, loadAs, loadS, storeS, storeAs, storedCells, oneP, PV.strip, PV.strip1, PV.keep0, evFieldAddr, evField, partP, evSlice, bound, natOf, rowsOk, evIndexAddr, evIndex, evLen, evAppend, ownRows, elemsOf, acc, fillP, bin_add, bin_sub, bin_mul, bin_lss, bin_leq, bin_gtr, bin_geq, bin_eql, bin_neq, bin_and, bin_andNot, un_not, mm_max, mm_min, ofValue, ofCell, slotOf, resVal, resOne, resL, retOf, toDL, toD, sameStore, sameCells, PV.same, DV.same_self, sameRows_self, sameL_self, E1P, E1ap, Tryz.aggT3, Tryz.szT3, Tryz.aggT34, Tryz.szT34, Tryz.aggT4, Tryz.szT4, Tryz.aggT32, Tryz.szT32, Tryz.underlying34, Tryz.underlying32, hz, h1, h2]; done)
        | (cases b3 <;> first
          | (simp [Tryz.f118, ec_region, altD, ec_scope, ec_label, ec_seq, ec_cond, ec_skip, ec_exit, ec_ret, ec_block, seq_normal, seq_ret, seq_exit, if_t, if_f, regN, evOpsD, coreD, wantD, evCore, evPure, evCall, use, useL, useParts, opv, rd, putS, untake, moveIt, takes, af_nil, af_cons, appTmp, apartL, apartB, posOf, cellsOf, isBelowL, PV.isBelow, boxCells, isDataL, PV.isData, loadAs, loadS, storeS, storeAs, storedCells, oneP, PV.strip, PV.strip1, PV.keep0, evFieldAddr, evField, partP, evSlice, bound, natOf, rowsOk, evIndexAddr, evIndex, evLen, evAppend, ownRows, elemsOf, acc, fillP, bin_add, bin_sub, bin_mul, bin_lss, bin_leq, bin_gtr, bin_geq, bin_eql, bin_neq, bin_and, bin_andNot, un_not, mm_max, mm_min, ofValue, ofCell, slotOf, resVal, resOne, resL, retOf, toDL, toD, sameStore, sameCells, PV.same, DV.same_self, sameRows_self, sameL_self, E1P, E1ap, Tryz.aggT3, Tryz.szT3, Tryz.aggT34, Tryz.szT34, Tryz.aggT4, Tryz.szT4, Tryz.aggT32, Tryz.szT32, Tryz.underlying34, Tryz.underlying32, hz, h1, h2, h3]; done)
          | (simp [Tryz.f118, ec_region, altD, ec_scope, ec_label, ec_seq, ec_cond, ec_skip, ec_exit, ec_ret, ec_block, seq_normal, seq_ret, seq_exit, if_t, if_f, regN, evOpsD, coreD, wantD, evCore, evPure, evCall, use, useL, useParts, opv, rd, putS, untake, moveIt, takes, af_nil, af_cons, appTmp, apartL, apartB, posOf, cellsOf, isBelowL, PV.isBelow, boxCells, isDataL, PV.isData, loadAs, loadS, storeS, storeAs, storedCells, oneP, PV.strip, PV.strip1, PV.keep0, evFieldAddr, evField, partP, evSlice, bound, natOf, rowsOk, evIndexAddr, evIndex, evLen, evAppend, ownRows, elemsOf, acc, fillP, bin_add, bin_sub, bin_mul, bin_lss, bin_leq, bin_gtr, bin_geq, bin_eql, bin_neq, bin_and, bin_andNot, un_not, mm_max, mm_min, ofValue, ofCell, slotOf, resVal, resOne, resL, retOf, toDL, toD, sameStore, sameCells, PV.same, DV.same_self, sameRows_self, sameL_self, E1P, E1ap, Tryz.aggT3, Tryz.szT3, Tryz.aggT34, Tryz.szT34, Tryz.aggT4, Tryz.szT4, Tryz.aggT32, Tryz.szT32, Tryz.underlying34, Tryz.underlying32, hz, h1, h2, h3, h4]; done)))
  have := key (id.fdiv (2 ^ (if e then 29 else 11))) _ _ _ _ (by cases e <;> simpa using (by assumption)) rfl rfl rfl rfl
  exact this
end Go.Proofs

set_option linter.unusedVariables false
set_option linter.unusedSimpArgs false
set_option maxRecDepth 100000
set_option maxHeartbeats 4000000
namespace Go.Proofs
open Go.RowKit Go.Shelf Go.Pv

theorem c90 (v : Int) (m : Nat) (hm : m ≤ 32) (hv : 0 ≤ v ∧ v < 2 ^ m) (σ : Store) : callIt E1 (evI E1) 188 [.d (.int .i64 v), .d (.int .i64 m)] σ = some (.tup [.d (.slice (bitRows v m)), .d (.bool true)], σ) := by
  have h1 : (0 : Int) ≤ m ∧ (m : Int) ≤ 32 := by omega
  simp [callIt, E1ov, ovAll, isDataL, PV.isData, ovPut, h1, hv]

theorem Tryz.appT39 : appT Tryz.prog 39 = some (1, 8) := by kernel_rfl
theorem Tryz.aggT39 : aggT Tryz.prog 39 = some false := by kernel_rfl
theorem Tryz.szT39 : szT Tryz.prog 39 = some 1 := by kernel_rfl

theorem c87 (b0 b2 : List PV) (rows : List (List DV)) (v : Int) (m : Nat) (hm : m ≤ 32) (hv : 0 ≤ v ∧ v < 2 ^ m) (hr : rowsOk 1 rows = true) (hl : rows.length ≤ 1000) :
    evI E1 207 [.ptr 1 0, .d (.int .i64 v), .d (.int .i64 m)] [b0, [acc rows], b2] = some (.tup [], [b0, [acc (rows ++ bitRows v m)], b2]) := by
  refine evI_run (fn := Tryz.f207) 5 rfl Tryz.func207 rfl ?_
  have hb : rowsOk 1 (bitRows v m) = true := by
    unfold rowsOk bitRows
    rw [List.all_eq_true]
    intro r hr
    simp at hr
    obtain ⟨k, _, rfl⟩ := hr
    rfl
  have hbl : (bitRows v m).length = m := by simp [bitRows]
  have happ : evAppend Tryz.prog 39 (acc rows) (.d (.slice (bitRows v m))) = some (acc (rows ++ bitRows v m)) := by
    have : (rows.length + m) * 8 ≤ roomB := by simp only [roomB]; omega
    simp [evAppend, Tryz.appT39, acc_own, elemsOf, hr, hb, hbl, this]
  have h90 := c90 v m hm hv
  simp [Tryz.f207, ec_region, altD, ec_scope, ec_label, ec_seq, ec_cond, ec_skip, ec_exit, ec_ret, ec_block, seq_normal, seq_ret, seq_exit, if_t, if_f, regN, evOpsD, coreD, wantD, evCore, evPure, evCall, use, useL, useParts, opv, rd, putS, untake, moveIt, takes, af_nil, af_cons, appTmp, apartL, apartB, posOf, cellsOf, isBelowL, PV.isBelow, boxCells, isDataL, PV.isData, loadAs, loadS, storeS, storeAs, evFieldAddr, evField, partP, evSlice, bound, natOf, rowsOk, evIndexAddr, evIndex, evLen, fillP, bin_add, bin_sub, bin_mul, bin_lss, bin_leq, bin_gtr, bin_geq, bin_eql, bin_neq, bin_and, bin_andNot, un_not, mm_max, mm_min, ofValue, ofCell, slotOf, resVal, resOne, resL, retOf, toDL, toD, sameStore, sameCells, PV.same, DV.same_self, sameRows_self, sameL_self, st_undef, st1_undef, k0_undef, st_any, st1_any, k0_any, st_d, st1_d, sc_d, on_d, k0_d, st_ptr, st1_ptr, sc_ptr, on_ptr, k0_ptr, st_nilptr, st1_nilptr, sc_nilptr, on_nilptr, k0_nilptr, st_ro, st1_ro, sc_ro, on_ro, k0_ro, st_func, st1_func, sc_func, on_func, k0_func, st_nilFunc, st1_nilFunc, sc_nilFunc, on_nilFunc, k0_nilFunc, st_tup, st1_tup, st_agg, sc_agg, E1P, E1ap, Tryz.aggT3, Tryz.szT3, Tryz.aggT39, Tryz.szT39, Tryz.underlying206, h90, happ, acc_cells, acc_one, acc_below, acc_strip, acc_strip1]
theorem E1p87 : E1.pure 207 = false := rfl
theorem E1p88 : E1.pure 208 = false := rfl
theorem E1p80 : E1.pure 183 = false := rfl

theorem call_boxes {f : FuncId} {args : List PV} {σ σ' σ'' : Store} (ho : E1.ov f = none) (hp : E1.pure f = false) (hr : E1.ro f = false) (h : evI E1 f args σ = some (.tup [], σ')) (hl : σ'.take σ.length = σ'') : callIt E1 (evI E1) f args σ = some (.tup [], σ'') := by
  subst hl
  simp [callIt, ho, hp, hr, h, PV.isData, isDataL, st_tup]

theorem d87 (b0 b2 : List PV) (rows : List (List DV)) (v : Int) (m : Nat) (hm : m ≤ 32) (hv : 0 ≤ v ∧ v < 2 ^ m) (hr : rowsOk 1 rows = true) (hl : rows.length ≤ 1000) :
    callIt E1 (evI E1) 207 [.ptr 1 0, .d (.int .i64 v), .d (.int .i64 m)] [b0, [acc rows], b2] = some (.tup [], [b0, [acc (rows ++ bitRows v m)], b2]) :=
  call_boxes rfl rfl rfl (c87 b0 b2 rows v m hm hv hr hl) rfl

def bitOf (b : Bool) : Int := if b then 1 else 0

theorem c88 (b0 b2 : List PV) (rows : List (List DV)) (is : Bool) (hr : rowsOk 1 rows = true) (hl : rows.length ≤ 1000) :
    evI E1 208 [.ptr 1 0, .d (.bool is)] [b0, [acc rows], b2] = some (.tup [], [b0, [acc (rows ++ bitRows (bitOf is) 1)], b2]) := by
  refine evI_run (fn := Tryz.f208) 5 rfl Tryz.func208 rfl ?_
  have h87 := d87 b0 b2 rows (bitOf is) 1 (by decide) (by cases is <;> decide) hr hl
  cases is
  · simp only [bitOf, Bool.false_eq_true, if_false] at h87 ⊢
    simp at h87
    simp [Tryz.f208, ec_region, altD, ec_scope, ec_label, ec_seq, ec_cond, ec_skip, ec_exit, ec_ret, ec_block, seq_normal, seq_ret, seq_exit, if_t, if_f, regN, evOpsD, coreD, wantD, evCore, evPure, evCall, use, useL, useParts, opv, rd, putS, untake, moveIt, takes, af_nil, af_cons, appTmp, apartL, apartB, posOf, cellsOf, isBelowL, PV.isBelow, boxCells, isDataL, PV.isData, loadAs, loadS, storeS, storeAs, evFieldAddr, evField, partP, evSlice, bound, natOf, rowsOk, evIndexAddr, evIndex, evLen, fillP, bin_add, bin_sub, bin_mul, bin_lss, bin_leq, bin_gtr, bin_geq, bin_eql, bin_neq, bin_and, bin_andNot, un_not, mm_max, mm_min, ofValue, ofCell, slotOf, resVal, resOne, resL, retOf, toDL, toD, sameStore, sameCells, PV.same, DV.same_self, sameRows_self, sameL_self, st_undef, st1_undef, k0_undef, st_any, st1_any, k0_any, st_d, st1_d, sc_d, on_d, k0_d, st_ptr, st1_ptr, sc_ptr, on_ptr, k0_ptr, st_nilptr, st1_nilptr, sc_nilptr, on_nilptr, k0_nilptr, st_ro, st1_ro, sc_ro, on_ro, k0_ro, st_func, st1_func, sc_func, on_func, k0_func, st_nilFunc, st1_nilFunc, sc_nilFunc, on_nilFunc, k0_nilFunc, st_tup, st1_tup, st_agg, sc_agg, E1P, E1ap, h87]
  · simp only [bitOf, if_true] at h87 ⊢
    simp at h87
    simp [Tryz.f208, ec_region, altD, ec_scope, ec_label, ec_seq, ec_cond, ec_skip, ec_exit, ec_ret, ec_block, seq_normal, seq_ret, seq_exit, if_t, if_f, regN, evOpsD, coreD, wantD, evCore, evPure, evCall, use, useL, useParts, opv, rd, putS, untake, moveIt, takes, af_nil, af_cons, appTmp, apartL, apartB, posOf, cellsOf, isBelowL, PV.isBelow, boxCells, isDataL, PV.isData, loadAs, loadS, storeS, storeAs, evFieldAddr, evField, partP, evSlice, bound, natOf, rowsOk, evIndexAddr, evIndex, evLen, fillP, bin_add, bin_sub, bin_mul, bin_lss, bin_leq, bin_gtr, bin_geq, bin_eql, bin_neq, bin_and, bin_andNot, un_not, mm_max, mm_min, ofValue, ofCell, slotOf, resVal, resOne, resL, retOf, toDL, toD, sameStore, sameCells, PV.same, DV.same_self, sameRows_self, sameL_self, st_undef, st1_undef, k0_undef, st_any, st1_any, k0_any, st_d, st1_d, sc_d, on_d, k0_d, st_ptr, st1_ptr, sc_ptr, on_ptr, k0_ptr, st_nilptr, st1_nilptr, sc_nilptr, on_nilptr, k0_nilptr, st_ro, st1_ro, sc_ro, on_ro, k0_ro, st_func, st1_func, sc_func, on_func, k0_func, st_nilFunc, st1_nilFunc, sc_nilFunc, on_nilFunc, k0_nilFunc, st_tup, st1_tup, st_agg, sc_agg, E1P, E1ap, h87]

theorem d88 (b0 b2 : List PV) (rows : List (List DV)) (is : Bool) (hr : rowsOk 1 rows = true) (hl : rows.length ≤ 1000) :
    callIt E1 (evI E1) 208 [.ptr 1 0, .d (.bool is)] [b0, [acc rows], b2] = some (.tup [], [b0, [acc (rows ++ bitRows (bitOf is) 1)], b2]) :=
  call_boxes rfl rfl rfl (c88 b0 b2 rows is hr hl) rfl

end Go.Proofs

set_option linter.unusedVariables false
set_option linter.unusedSimpArgs false
set_option maxRecDepth 100000
set_option maxHeartbeats 4000000
namespace Go.Proofs
open Go.RowKit Go.Shelf Go.Pv

theorem bitRows_ok (v : Int) (m : Nat) : rowsOk 1 (bitRows v m) = true := by
  unfold rowsOk bitRows
  rw [List.all_eq_true]
  intro r hr
  simp at hr
  obtain ⟨k, _, rfl⟩ := hr
  rfl
theorem bitRows_len (v : Int) (m : Nat) : (bitRows v m).length = m := by simp [bitRows]

def rankStd (id : Int) (rm : Bool) : List (List DV) := bitRows id 11 ++ bitRows (bitOf rm) 1 ++ bitRows 0 1

theorem c80_std (b0 : List PV) (id : Int) (rm : Bool) (ln : Int) (rows : List (List DV)) (hid : 0 ≤ id ∧ id < 2 ^ 11) :
    ∃ b2, evI E1 183 [.ptr 1 0, frP false id rm ln rows] [b0, [.e0]] = some (.tup [], [b0, [acc (rankStd id rm)], b2]) := by
  refine ⟨_, evI_run (σ' := [b0, [acc (rankStd id rm)], [.d (.bool false), .d (.int .i64 id), .d (.bool rm), .d (.int .i64 ln), .d (.slice rows)]]) (fn := Tryz.f183) 5 rfl Tryz.func183 rfl ?_⟩
  have h1 : callIt E1 (evI E1) 207 [.ptr 1 0, .d (.int .i64 id), .d (.int .i64 (11 : Nat))] [b0, [.e0], [.d (.bool false), .d (.int .i64 id), .d (.bool rm), .d (.int .i64 ln), .d (.slice rows)]] =
      some (.tup [], [b0, [acc (bitRows id 11)], [.d (.bool false), .d (.int .i64 id), .d (.bool rm), .d (.int .i64 ln), .d (.slice rows)]]) := d87 _ _ [] id 11 (by decide) hid rfl (by decide)
  have h2 := d88 b0 [.d (.bool false), .d (.int .i64 id), .d (.bool rm), .d (.int .i64 ln), .d (.slice rows)] (bitRows id 11) rm (bitRows_ok _ _) (by rw [bitRows_len]; decide)
  have h3 := d87 b0 [.d (.bool false), .d (.int .i64 id), .d (.bool rm), .d (.int .i64 ln), .d (.slice rows)] (bitRows id 11 ++ bitRows (bitOf rm) 1) 0 1 (by decide) (by decide) (rowsOk_append (bitRows_ok _ _) (bitRows_ok _ _)) (by simp [bitRows_len])
  simp at h1 h3
  unfold frP rankStd
  simp [Tryz.f183, ec_region, altD, ec_scope, ec_label, ec_seq, ec_cond, ec_skip, ec_exit, ec_ret, ec_block, seq_normal, seq_ret, seq_exit, if_t, if_f, regN, evOpsD, coreD, wantD, evCore, evPure, evCall, use, useL, useParts, opv, rd, putS, untake, moveIt, takes, af_nil, af_cons, appTmp, apartL, apartB, posOf, cellsOf, isBelowL, PV.isBelow, boxCells, isDataL, PV.isData, loadAs, loadS, storeS, storeAs, evFieldAddr, evField, partP, evSlice, bound, natOf, rowsOk, evIndexAddr, evIndex, evLen, fillP, bin_add, bin_sub, bin_mul, bin_lss, bin_leq, bin_gtr, bin_geq, bin_eql, bin_neq, bin_and, bin_andNot, un_not, mm_max, mm_min, ofValue, ofCell, slotOf, resVal, resOne, resL, retOf, toDL, toD, sameStore, sameCells, PV.same, DV.same_self, sameRows_self, sameL_self, st_undef, st1_undef, k0_undef, st_any, st1_any, k0_any, st_d, st1_d, sc_d, on_d, k0_d, st_ptr, st1_ptr, sc_ptr, on_ptr, k0_ptr, st_nilptr, st1_nilptr, sc_nilptr, on_nilptr, k0_nilptr, st_ro, st1_ro, sc_ro, on_ro, k0_ro, st_func, st1_func, sc_func, on_func, k0_func, st_nilFunc, st1_nilFunc, sc_nilFunc, on_nilFunc, k0_nilFunc, st_tup, st1_tup, st_agg, sc_agg, E1P, E1ap, Tryz.aggT34, Tryz.szT34, Tryz.aggT3, Tryz.szT3, Tryz.aggT4, Tryz.szT4, Tryz.underlying34, h1, h2, h3]
def rankExt (id : Int) (rm : Bool) : List (List DV) := bitRows (id / 2 ^ 18) 11 ++ bitRows 3 2 ++ bitRows (id % 2 ^ 18) 18 ++ bitRows (bitOf rm) 1

theorem bin_shr_u {P : Program} {t : TypeId} {k : IntKind} {a b : Int} (hb : 0 ≤ b) : evBin P .shr t (.d (.int .i64 a)) (.d (.int k b)) = some (.d (.int .i64 (a.fdiv (2 ^ (min b.toNat 64))))) := by
  have : ¬ b < 0 := by omega
  show (pureRun P (if b < 0 then _ else _)).bind ofScalar = _
  rw [if_neg this]
  rfl

theorem and18 (x : Int) (hx : 0 ≤ x ∧ x < 2 ^ 29) : IntKind.i64.wrap (BitVec.ofInt 64 x &&& BitVec.ofInt 64 262143).toNat = x % 2 ^ 18 := by
  have h1 : (BitVec.ofInt 64 262143).toNat = 2 ^ 18 - 1 := by decide
  have key : (BitVec.ofInt 64 x &&& BitVec.ofInt 64 262143).toNat = (x % ((2 ^ 64 : Nat) : Int)).toNat % 2 ^ 18 := by
    rw [BitVec.toNat_and, BitVec.toNat_ofInt, h1, Nat.and_two_pow_sub_one_eq_mod]
  rw [key, IntKind.wrap_i64]
  omega

theorem c80_ext (b0 : List PV) (id : Int) (rm : Bool) (ln : Int) (rows : List (List DV)) (hid : 0 ≤ id ∧ id < 2 ^ 29) :
    ∃ b2, evI E1 183 [.ptr 1 0, frP true id rm ln rows] [b0, [.e0]] = some (.tup [], [b0, [acc (rankExt id rm)], b2]) := by
  refine ⟨_, evI_run (σ' := [b0, [acc (rankExt id rm)], [.d (.bool true), .d (.int .i64 id), .d (.bool rm), .d (.int .i64 ln), .d (.slice rows)]]) (fn := Tryz.f183) 5 rfl Tryz.func183 rfl ?_⟩
  obtain ⟨B, hB⟩ : ∃ B : List PV, B = [.d (.bool true), .d (.int .i64 id), .d (.bool rm), .d (.int .i64 ln), .d (.slice rows)] := ⟨_, rfl⟩
  have h1 : callIt E1 (evI E1) 207 [.ptr 1 0, .d (.int .i64 (id / 2 ^ 18)), .d (.int .i64 (11 : Nat))] [b0, [.e0], B] = some (.tup [], [b0, [acc (bitRows (id / 2 ^ 18) 11)], B]) := d87 _ _ [] (id / 2 ^ 18) 11 (by decide) (by omega) rfl (by decide)
  have h2 := d87 b0 B (bitRows (id / 2 ^ 18) 11) 3 2 (by decide) (by decide) (bitRows_ok _ _) (by simp [bitRows_len])
  have h3 := d87 b0 B (bitRows (id / 2 ^ 18) 11 ++ bitRows 3 2) (id % 2 ^ 18) 18 (by decide) (by omega) (rowsOk_append (bitRows_ok _ _) (bitRows_ok _ _)) (by simp [bitRows_len])
  have h4 := d88 b0 B (bitRows (id / 2 ^ 18) 11 ++ bitRows 3 2 ++ bitRows (id % 2 ^ 18) 18) rm (rowsOk_append (rowsOk_append (bitRows_ok _ _) (bitRows_ok _ _)) (bitRows_ok _ _)) (by simp [bitRows_len])
  have s18 := bin_shr_u (P := Tryz.prog) (t := 3) (k := .u64) (a := id) (b := 18) (by decide)
  rw [show (2 : Int) ^ min (Int.toNat 18) 64 = 2 ^ 18 by decide, Int.fdiv_eq_ediv_of_nonneg _ (by decide)] at s18
  have a18 := and18 id hid
  subst hB
  simp at h1 h2 h3 h4 s18 a18
  unfold frP rankExt
  simp [Tryz.f183, ec_region, altD, ec_scope, ec_label, ec_seq, ec_cond, ec_skip, ec_exit, ec_ret, ec_block, seq_normal, seq_ret, seq_exit, if_t, if_f, regN, evOpsD, coreD, wantD, evCore, evPure, evCall, use, useL, useParts, opv, rd, putS, untake, moveIt, takes, af_nil, af_cons, appTmp, apartL, apartB, posOf, cellsOf, isBelowL, PV.isBelow, boxCells, isDataL, PV.isData, loadAs, loadS, storeS, storeAs, evFieldAddr, evField, partP, evSlice, bound, natOf, rowsOk, evIndexAddr, evIndex, evLen, fillP, bin_add, bin_sub, bin_mul, bin_lss, bin_leq, bin_gtr, bin_geq, bin_eql, bin_neq, bin_and, bin_andNot, un_not, mm_max, mm_min, ofValue, ofCell, slotOf, resVal, resOne, resL, retOf, toDL, toD, sameStore, sameCells, PV.same, DV.same_self, sameRows_self, sameL_self, st_undef, st1_undef, k0_undef, st_any, st1_any, k0_any, st_d, st1_d, sc_d, on_d, k0_d, st_ptr, st1_ptr, sc_ptr, on_ptr, k0_ptr, st_nilptr, st1_nilptr, sc_nilptr, on_nilptr, k0_nilptr, st_ro, st1_ro, sc_ro, on_ro, k0_ro, st_func, st1_func, sc_func, on_func, k0_func, st_nilFunc, st1_nilFunc, sc_nilFunc, on_nilFunc, k0_nilFunc, st_tup, st1_tup, st_agg, sc_agg, E1P, E1ap, Tryz.aggT34, Tryz.szT34, Tryz.aggT3, Tryz.szT3, Tryz.aggT4, Tryz.szT4, Tryz.underlying34, h1, h2, h3, h4, s18, a18]

def rankOf (e : Bool) (id : Int) (rm : Bool) : List (List DV) := if e then rankExt id rm else rankStd id rm

theorem d80 (b0 : List PV) (e : Bool) (id : Int) (rm : Bool) (ln : Int) (rows : List (List DV)) (hid : 0 ≤ id ∧ id < 2 ^ (if e then 29 else 11)) :
    callIt E1 (evI E1) 183 [.ptr 1 0, frP e id rm ln rows] [b0, [.e0]] = some (.tup [], [b0, [acc (rankOf e id rm)]]) := by
  cases e
  · obtain ⟨b2, h⟩ := c80_std b0 id rm ln rows hid
    exact call_boxes rfl rfl rfl h rfl
  · obtain ⟨b2, h⟩ := c80_ext b0 id rm ln rows hid
    exact call_boxes rfl rfl rfl h rfl

end Go.Proofs

set_option linter.unusedVariables false
set_option linter.unusedSimpArgs false
set_option maxRecDepth 100000
set_option maxHeartbeats 4000000
namespace Go.Proofs
open Go.RowKit Go.Shelf Go.Pv

theorem Tryz.zeroT206 : zeroT Tryz.prog 206 = some (.agg [.e0]) := by kernel_rfl
theorem acc_data (rows : List (List DV)) : (acc rows).isData = true := by cases rows <;> rfl

theorem c64 (e : Bool) (id : Int) (rm : Bool) (ln : Int) (rows : List (List DV)) (hid : 0 ≤ id ∧ id < 2 ^ (if e then 29 else 11)) (σ : Store) :
    callIt E1 (evI E1) 138 [frP e id rm ln rows] σ = some (.d (.slice (rankOf e id rm)), σ) := by
  refine call_run (fn := Tryz.f138) 5 rfl rfl rfl Tryz.func138 rfl rfl ?_ rfl
  have h80 := d80 [.d (.bool e), .d (.int .i64 id), .d (.bool rm), .d (.int .i64 ln), .d (.slice rows)] e id rm ln rows hid
  unfold frP at h80 ⊢
  simp [Tryz.f138, ec_region, altD, ec_scope, ec_label, ec_seq, ec_cond, ec_skip, ec_exit, ec_ret, ec_block, seq_normal, seq_ret, seq_exit, if_t, if_f, regN, evOpsD, coreD, wantD, evCore, evPure, evCall, use, useL, useParts, opv, rd, putS, untake, moveIt, takes, af_nil, af_cons, appTmp, apartL, apartB, posOf, cellsOf, isBelowL, PV.isBelow, boxCells, isDataL, PV.isData, loadAs, loadS, storeS, storeAs, evFieldAddr, evField, partP, evSlice, bound, natOf, rowsOk, evIndexAddr, evIndex, evLen, fillP, bin_add, bin_sub, bin_mul, bin_lss, bin_leq, bin_gtr, bin_geq, bin_eql, bin_neq, bin_and, bin_andNot, un_not, mm_max, mm_min, ofValue, ofCell, slotOf, resVal, resOne, resL, retOf, toDL, toD, sameStore, sameCells, PV.same, DV.same_self, sameRows_self, sameL_self, st_undef, st1_undef, k0_undef, st_any, st1_any, k0_any, st_d, st1_d, sc_d, on_d, k0_d, st_ptr, st1_ptr, sc_ptr, on_ptr, k0_ptr, st_nilptr, st1_nilptr, sc_nilptr, on_nilptr, k0_nilptr, st_ro, st1_ro, sc_ro, on_ro, k0_ro, st_func, st1_func, sc_func, on_func, k0_func, st_nilFunc, st1_nilFunc, sc_nilFunc, on_nilFunc, k0_nilFunc, st_tup, st1_tup, st_agg, sc_agg, E1P, E1ap, Tryz.zeroT206, Tryz.aggT34, Tryz.szT34, Tryz.aggT39, Tryz.szT39, Tryz.underlying206, h80, acc_cells, acc_one, acc_below, acc_strip, acc_strip1]
/-- A node. -/
def ndP (q : List (List DV)) (fs : List (List DV)) (t r s z : Int) (g : List (List DV)) : PV := .agg [.d (.slice q), .d (.slice fs), .d (.int .i64 t), .d (.int .i64 r), .d (.int .i64 s), .d (.int .i64 z), .d (.slice g)]

theorem Tryz.aggT49 : aggT Tryz.prog 49 = some true := by kernel_rfl
theorem Tryz.szT49 : szT Tryz.prog 49 = some 7 := by kernel_rfl
theorem Tryz.appT44 : appT Tryz.prog 44 = some (5, 56) := by kernel_rfl
theorem Tryz.aggT44 : aggT Tryz.prog 44 = some false := by kernel_rfl
theorem Tryz.szT44 : szT Tryz.prog 44 = some 1 := by kernel_rfl

/-- node.off. -/
theorem c42 (q fs : List (List DV)) (t r s z : Int) (g : List (List DV)) (σ : Store) : callIt E1 (evI E1) 124 [ndP q fs t r s z g] σ = some (.d (.bool (s == 3)), σ) := by
  refine call_run (fn := Tryz.f124) 5 rfl rfl rfl Tryz.func124 rfl rfl ?_ rfl
  unfold ndP
  simp [Tryz.f124, ec_region, altD, ec_scope, ec_label, ec_seq, ec_cond, ec_skip, ec_exit, ec_ret, ec_block, seq_normal, seq_ret, seq_exit, if_t, if_f, regN, evOpsD, coreD, wantD, evCore, evPure, evCall, use, useL, useParts, opv, rd, putS, untake, moveIt, takes, af_nil, af_cons, appTmp, apartL, apartB, posOf, cellsOf, isBelowL, PV.isBelow, boxCells, isDataL, PV.isData, loadAs, loadS, storeS, storeAs, evFieldAddr, evField, partP, evSlice, bound, natOf, rowsOk, evIndexAddr, evIndex, evLen, fillP, bin_add, bin_sub, bin_mul, bin_lss, bin_leq, bin_gtr, bin_geq, bin_eql, bin_neq, bin_and, bin_andNot, un_not, mm_max, mm_min, ofValue, ofCell, slotOf, resVal, resOne, resL, retOf, toDL, toD, sameStore, sameCells, PV.same, DV.same_self, sameRows_self, sameL_self, st_undef, st1_undef, k0_undef, st_any, st1_any, k0_any, st_d, st1_d, sc_d, on_d, k0_d, st_ptr, st1_ptr, sc_ptr, on_ptr, k0_ptr, st_nilptr, st1_nilptr, sc_nilptr, on_nilptr, k0_nilptr, st_ro, st1_ro, sc_ro, on_ro, k0_ro, st_func, st1_func, sc_func, on_func, k0_func, st_nilFunc, st1_nilFunc, sc_nilFunc, on_nilFunc, k0_nilFunc, st_tup, st1_tup, st_agg, sc_agg, E1P, E1ap, Tryz.aggT49, Tryz.szT49, Tryz.aggT47, Tryz.szT47, Tryz.aggT3, Tryz.szT3, Tryz.underlying49, Tryz.underlying47]

theorem c61 (rows : List (List DV)) (h : rowsOk 5 rows = true) (hb : rows.length * 56 ≤ roomB) (σ : Store) : callIt E1 (evI E1) 175 [.d (.slice rows)] σ = some (acc rows, σ) := by
  simp [callIt, E1ov, ovAll, isDataL, PV.isData, ovClone, h, hb, acc_data]

end Go.Proofs

set_option linter.unusedVariables false
set_option linter.unusedSimpArgs false
set_option maxRecDepth 100000
set_option maxHeartbeats 4000000
namespace Go.Proofs
open Go.RowKit Go.Shelf Go.Pv

theorem app22 (rows xs : List (List DV)) (h : rowsOk 5 rows = true) (h' : rowsOk 5 xs = true) (hb : (rows.length + xs.length) * 56 ≤ roomB) : evAppend Tryz.prog 44 (acc rows) (.d (.slice xs)) = some (acc (rows ++ xs)) := by
  simp [evAppend, Tryz.appT44, acc_own, elemsOf, h, h', hb]

theorem Tryz.isz34 : ((Tryz.prog.info? 34).bind (·.zero)).isSome = true := by kernel_rfl

theorem c43 (rows : List (List DV)) (e : Bool) (id : Int) (rm : Bool) (ln : Int) (data : List (List DV)) (h : rowsOk 5 rows = true) (hb : (rows.length + 1) * 56 ≤ roomB) (σ : Store) :
    callIt E1 (evI E1) 125 [.d (.slice rows), frP e id rm ln data] σ = some (acc (rows ++ [frD e id rm ln data]), σ) := by
  refine call_run (fn := Tryz.f125) 5 rfl rfl rfl Tryz.func125 rfl rfl ?_ (acc_data _)
  have h61 := c61 rows h (by omega)
  have ha := app22 rows [frD e id rm ln data] h rfl (by simpa using hb)
  have hre : retOf (acc (rows ++ [frD e id rm ln data])) = acc (rows ++ [frD e id rm ln data]) := by cases rows <;> rfl
  unfold frD at ha hre ⊢
  unfold frP
  simp [Tryz.f125, ec_region, altD, ec_scope, ec_label, ec_seq, ec_cond, ec_skip, ec_exit, ec_ret, ec_block, seq_normal, seq_ret, seq_exit, if_t, if_f, regN, evOpsD, coreD, wantD, evCore, evPure, evCall, use, useL, useParts, opv, rd, putS, untake, moveIt, takes, af_nil, af_cons, appTmp, apartL, apartB, posOf, cellsOf, isBelowL, PV.isBelow, boxCells, isDataL, PV.isData, loadAs, loadS, storeS, storeAs, evFieldAddr, evField, partP, evSlice, bound, natOf, rowsOk, evIndexAddr, evIndex, evLen, fillP, bin_add, bin_sub, bin_mul, bin_lss, bin_leq, bin_gtr, bin_geq, bin_eql, bin_neq, bin_and, bin_andNot, un_not, mm_max, mm_min, ofValue, ofCell, slotOf, resVal, resOne, resL, toDL, toD, sameStore, sameCells, PV.same, DV.same_self, sameRows_self, sameL_self, st_undef, st1_undef, k0_undef, st_any, st1_any, k0_any, st_d, st1_d, sc_d, on_d, k0_d, st_ptr, st1_ptr, sc_ptr, on_ptr, k0_ptr, st_nilptr, st1_nilptr, sc_nilptr, on_nilptr, k0_nilptr, st_ro, st1_ro, sc_ro, on_ro, k0_ro, st_func, st1_func, sc_func, on_func, k0_func, st_nilFunc, st1_nilFunc, sc_nilFunc, on_nilFunc, k0_nilFunc, st_tup, st1_tup, st_agg, sc_agg, E1P, E1ap, Tryz.aggT34, Tryz.szT34, Tryz.aggT44, Tryz.szT44, Tryz.underlying44, Tryz.isz34, rowsFrom, h61, ha, acc_cells, acc_one, acc_below, acc_strip, acc_strip1, hre]
end Go.Proofs

set_option linter.unusedVariables false
set_option linter.unusedSimpArgs false
set_option maxRecDepth 100000
set_option maxHeartbeats 4000000
namespace Go.Proofs
open Go.RowKit Go.Shelf Go.Pv

theorem Tryz.zeroT49 : zeroT Tryz.prog 49 = some (.agg [.e0, .e0, .d (.int .i64 0), .d (.int .i64 0), .d (.int .i64 0), .d (.int .i64 0), .e0]) := by kernel_rfl

theorem c14_bad (q fs : List (List DV)) (t r s z : Int) (g : List (List DV)) (e : Bool) (id : Int) (rm : Bool) (ln : Int) (data : List (List DV)) (σ : Store) (hf : frRight e id rm ln data = false) :
    callIt E1 (evI E1) 55 [ndP q fs t r s z g, frP e id rm ln data] σ = some (.tup [ndP q fs t r s z g, .d (.int .i64 90)], σ) := by
  refine call_run (fn := Tryz.f55) 5 rfl rfl rfl Tryz.func55 rfl rfl ?_ rfl
  have h41 := c41 e id rm ln data
  rw [hf] at h41
  unfold frP at h41 ⊢
  unfold ndP
  simp [Tryz.f55, ec_region, altD, ec_scope, ec_label, ec_seq, ec_cond, ec_skip, ec_exit, ec_ret, ec_block, seq_normal, seq_ret, seq_exit, if_t, if_f, regN, evOpsD, coreD, wantD, evCore, evPure, evCall, use, useL, useParts, opv, rd, putS, untake, moveIt, takes, af_nil, af_cons, appTmp, apartL, apartB, posOf, cellsOf, isBelowL, PV.isBelow, boxCells, isDataL, PV.isData, loadAs, loadS, storeS, storeAs, evFieldAddr, evField, partP, evSlice, bound, natOf, rowsOk, evIndexAddr, evIndex, evLen, fillP, bin_add, bin_sub, bin_mul, bin_lss, bin_leq, bin_gtr, bin_geq, bin_eql, bin_neq, bin_and, bin_andNot, un_not, mm_max, mm_min, ofValue, ofCell, slotOf, resVal, resOne, resL, retOf, toDL, toD, sameStore, sameCells, PV.same, DV.same_self, sameRows_self, sameL_self, st_undef, st1_undef, k0_undef, st_any, st1_any, k0_any, st_d, st1_d, sc_d, on_d, k0_d, st_ptr, st1_ptr, sc_ptr, on_ptr, k0_ptr, st_nilptr, st1_nilptr, sc_nilptr, on_nilptr, k0_nilptr, st_ro, st1_ro, sc_ro, on_ro, k0_ro, st_func, st1_func, sc_func, on_func, k0_func, st_nilFunc, st1_nilFunc, sc_nilFunc, on_nilFunc, k0_nilFunc, st_tup, st1_tup, st_agg, sc_agg, E1P, E1ap, Tryz.aggT34, Tryz.szT34, Tryz.aggT49, Tryz.szT49, Tryz.zeroT49, Tryz.underlying49, h41]

theorem c14_off (q fs : List (List DV)) (t r s z : Int) (g : List (List DV)) (e : Bool) (id : Int) (rm : Bool) (ln : Int) (data : List (List DV)) (σ : Store) (hf : frRight e id rm ln data = true) (hs : s = 3) :
    callIt E1 (evI E1) 55 [ndP q fs t r s z g, frP e id rm ln data] σ = some (.tup [ndP q fs t r s z g, .d (.int .i64 3)], σ) := by
  refine call_run (fn := Tryz.f55) 5 rfl rfl rfl Tryz.func55 rfl rfl ?_ rfl
  have h41 := c41 e id rm ln data
  have h42 := c42 q fs t r s z g
  subst hs
  rw [hf] at h41
  unfold frP at h41 ⊢
  unfold ndP at h42 ⊢
  simp at h42
  simp [Tryz.f55, ec_region, altD, ec_scope, ec_label, ec_seq, ec_cond, ec_skip, ec_exit, ec_ret, ec_block, seq_normal, seq_ret, seq_exit, if_t, if_f, regN, evOpsD, coreD, wantD, evCore, evPure, evCall, use, useL, useParts, opv, rd, putS, untake, moveIt, takes, af_nil, af_cons, appTmp, apartL, apartB, posOf, cellsOf, isBelowL, PV.isBelow, boxCells, isDataL, PV.isData, loadAs, loadS, storeS, storeAs, evFieldAddr, evField, partP, evSlice, bound, natOf, rowsOk, evIndexAddr, evIndex, evLen, fillP, bin_add, bin_sub, bin_mul, bin_lss, bin_leq, bin_gtr, bin_geq, bin_eql, bin_neq, bin_and, bin_andNot, un_not, mm_max, mm_min, ofValue, ofCell, slotOf, resVal, resOne, resL, retOf, toDL, toD, sameStore, sameCells, PV.same, DV.same_self, sameRows_self, sameL_self, st_undef, st1_undef, k0_undef, st_any, st1_any, k0_any, st_d, st1_d, sc_d, on_d, k0_d, st_ptr, st1_ptr, sc_ptr, on_ptr, k0_ptr, st_nilptr, st1_nilptr, sc_nilptr, on_nilptr, k0_nilptr, st_ro, st1_ro, sc_ro, on_ro, k0_ro, st_func, st1_func, sc_func, on_func, k0_func, st_nilFunc, st1_nilFunc, sc_nilFunc, on_nilFunc, k0_nilFunc, st_tup, st1_tup, st_agg, sc_agg, E1P, E1ap, Tryz.aggT34, Tryz.szT34, Tryz.aggT49, Tryz.szT49, Tryz.zeroT49, Tryz.underlying49, h41, h42]
theorem c14_full (q fs : List (List DV)) (t r s z : Int) (g : List (List DV)) (e : Bool) (id : Int) (rm : Bool) (ln : Int) (data : List (List DV)) (σ : Store) (hf : frRight e id rm ln data = true) (hs : s ≠ 3) (hq : 16 ≤ q.length) :
    callIt E1 (evI E1) 55 [ndP q fs t r s z g, frP e id rm ln data] σ = some (.tup [ndP q fs t r s z g, .d (.int .i64 2)], σ) := by
  refine call_run (fn := Tryz.f55) 5 rfl rfl rfl Tryz.func55 rfl rfl ?_ rfl
  have h41 := c41 e id rm ln data
  have h42 := c42 q fs t r s z g
  have hb : (s == 3) = false := by simpa using hs
  have hl : (16 : Int) ≤ (q.length : Int) := by omega
  rw [hf] at h41
  rw [hb] at h42
  unfold frP at h41 ⊢
  unfold ndP at h42 ⊢
  simp [Tryz.f55, ec_region, altD, ec_scope, ec_label, ec_seq, ec_cond, ec_skip, ec_exit, ec_ret, ec_block, seq_normal, seq_ret, seq_exit, if_t, if_f, regN, evOpsD, coreD, wantD, evCore, evPure, evCall, use, useL, useParts, opv, rd, putS, untake, moveIt, takes, af_nil, af_cons, appTmp, apartL, apartB, posOf, cellsOf, isBelowL, PV.isBelow, boxCells, isDataL, PV.isData, loadAs, loadS, storeS, storeAs, evFieldAddr, evField, partP, evSlice, bound, natOf, rowsOk, evIndexAddr, evIndex, evLen, fillP, bin_add, bin_sub, bin_mul, bin_lss, bin_leq, bin_gtr, bin_geq, bin_eql, bin_neq, bin_and, bin_andNot, un_not, mm_max, mm_min, ofValue, ofCell, slotOf, resVal, resOne, resL, retOf, toDL, toD, sameStore, sameCells, PV.same, DV.same_self, sameRows_self, sameL_self, st_undef, st1_undef, k0_undef, st_any, st1_any, k0_any, st_d, st1_d, sc_d, on_d, k0_d, st_ptr, st1_ptr, sc_ptr, on_ptr, k0_ptr, st_nilptr, st1_nilptr, sc_nilptr, on_nilptr, k0_nilptr, st_ro, st1_ro, sc_ro, on_ro, k0_ro, st_func, st1_func, sc_func, on_func, k0_func, st_nilFunc, st1_nilFunc, sc_nilFunc, on_nilFunc, k0_nilFunc, st_tup, st1_tup, st_agg, sc_agg, E1P, E1ap, Tryz.aggT34, Tryz.szT34, Tryz.aggT49, Tryz.szT49, Tryz.aggT44, Tryz.szT44, Tryz.zeroT49, Tryz.underlying49, Tryz.underlying44, h41, h42, hl]

theorem c14_ok (q fs : List (List DV)) (t r s z : Int) (g : List (List DV)) (e : Bool) (id : Int) (rm : Bool) (ln : Int) (data : List (List DV)) (σ : Store) (hf : frRight e id rm ln data = true) (hs : s ≠ 3) (hq : q.length < 16) (hok : rowsOk 5 q = true) :
    callIt E1 (evI E1) 55 [ndP q fs t r s z g, frP e id rm ln data] σ = some (.tup [ndP (q ++ [frD e id rm ln data]) fs t r s z g, .d (.int .i64 0)], σ) := by
  refine call_run (fn := Tryz.f55) 5 rfl rfl rfl Tryz.func55 rfl rfl ?_ rfl
  have h41 := c41 e id rm ln data
  have h42 := c42 q fs t r s z g
  have h43 := c43 q e id rm ln data hok (by simp only [roomB]; omega)
  have hb : (s == 3) = false := by simpa using hs
  have hl : ¬ (16 : Int) ≤ (q.length : Int) := by omega
  rw [hf] at h41
  rw [hb] at h42
  unfold frP at h41 h43 ⊢
  unfold ndP at h42 ⊢
  simp [Tryz.f55, ec_region, altD, ec_scope, ec_label, ec_seq, ec_cond, ec_skip, ec_exit, ec_ret, ec_block, seq_normal, seq_ret, seq_exit, if_t, if_f, regN, evOpsD, coreD, wantD, evCore, evPure, evCall, use, useL, useParts, opv, rd, putS, untake, moveIt, takes, af_nil, af_cons, appTmp, apartL, apartB, posOf, cellsOf, isBelowL, PV.isBelow, boxCells, isDataL, PV.isData, loadAs, loadS, storeS, storeAs, evFieldAddr, evField, partP, evSlice, bound, natOf, rowsOk, evIndexAddr, evIndex, evLen, fillP, bin_add, bin_sub, bin_mul, bin_lss, bin_leq, bin_gtr, bin_geq, bin_eql, bin_neq, bin_and, bin_andNot, un_not, mm_max, mm_min, ofValue, ofCell, slotOf, resVal, resOne, resL, retOf, toDL, toD, sameStore, sameCells, PV.same, DV.same_self, sameRows_self, sameL_self, st_undef, st1_undef, k0_undef, st_any, st1_any, k0_any, st_d, st1_d, sc_d, on_d, k0_d, st_ptr, st1_ptr, sc_ptr, on_ptr, k0_ptr, st_nilptr, st1_nilptr, sc_nilptr, on_nilptr, k0_nilptr, st_ro, st1_ro, sc_ro, on_ro, k0_ro, st_func, st1_func, sc_func, on_func, k0_func, st_nilFunc, st1_nilFunc, sc_nilFunc, on_nilFunc, k0_nilFunc, st_tup, st1_tup, st_agg, sc_agg, E1P, E1ap, Tryz.aggT34, Tryz.szT34, Tryz.aggT49, Tryz.szT49, Tryz.aggT44, Tryz.szT44, Tryz.zeroT49, Tryz.underlying49, Tryz.underlying44, h41, h42, h43, hl, acc_cells, acc_one, acc_below, acc_strip, acc_strip1]

end Go.Proofs

set_option linter.unusedVariables false
set_option linter.unusedSimpArgs false
set_option maxRecDepth 100000
set_option maxHeartbeats 4000000
namespace Go.Proofs
open Go.RowKit Go.Shelf Go.Pv

theorem st_e0 : PV.strip .e0 = .d (.slice []) := rfl
theorem st1_e0 : PV.strip1 .e0 = .d (.slice []) := rfl
theorem k0_e0 : PV.keep0 .e0 = .e0 := rfl
theorem on_e0 : oneP .e0 = true := rfl
theorem sc_e0 : storedCells .e0 = [.e0] := rfl

theorem d49 (t r s q what : Int) (ht : 0 ≤ t ∧ t ≤ 900) (hr : 0 ≤ r ∧ r ≤ 900) (hq : 0 ≤ q ∧ q ≤ 900) (hw : 1 ≤ what ∧ what ≤ 6) (σ : Store) : callIt E1 (evI E1) 139 [cn t r s q, .d (.int .i64 what)] σ = some (stepV t r s q what, σ) := by
  have hv : (stepV t r s q what).isData = true := by unfold stepV cn; split <;> (try split) <;> (try split) <;> rfl
  unfold cn
  simp [callIt, E1ov, ovAll, isDataL, PV.isData, ovStep, ht, hr, hq, hw, hv]

theorem c22_none (q fs : List (List DV)) (t r s z : Int) (σ : Store) :
    callIt E1 (evI E1) 103 [ndP q fs t r s z []] σ = some (.tup [ndP q fs t r s z [], frP false 0 false 0 [], .d (.bool false)], σ) := by
  refine call_run (fn := Tryz.f103) 5 rfl rfl rfl Tryz.func103 rfl rfl ?_ rfl
  have z35 : zeroT Tryz.prog 34 = some (.agg [.d (.bool false), .d (.int .i64 0), .d (.bool false), .d (.int .i64 0), .e0]) := by kernel_rfl
  have pl : placesOf Tryz.prog 34 = some (fun i => [(0, 1), (1, 1), (2, 1), (3, 1), (4, 1)][i]?) := by kernel_rfl
  unfold ndP frP
  simp [Tryz.f103, ec_region, altD, ec_scope, ec_label, ec_seq, ec_cond, ec_skip, ec_exit, ec_ret, ec_block, seq_normal, seq_ret, seq_exit, if_t, if_f, regN, evOpsD, coreD, wantD, evCore, evPure, evCall, use, useL, useParts, opv, rd, putS, untake, moveIt, takes, af_nil, af_cons, appTmp, apartL, apartB, posOf, cellsOf, isBelowL, PV.isBelow, boxCells, isDataL, PV.isData, loadAs, loadS, storeS, storeAs, evFieldAddr, evField, partP, evSlice, bound, natOf, rowsOk, evIndexAddr, evIndex, evLen, fillP, bin_add, bin_sub, bin_mul, bin_lss, bin_leq, bin_gtr, bin_geq, bin_eql, bin_neq, bin_and, bin_andNot, un_not, mm_max, mm_min, ofValue, ofCell, slotOf, resVal, resOne, resL, retOf, toDL, toD, sameStore, sameCells, PV.same, DV.same_self, sameRows_self, sameL_self, st_undef, st1_undef, k0_undef, st_any, st1_any, k0_any, st_d, st1_d, sc_d, on_d, k0_d, st_ptr, st1_ptr, sc_ptr, on_ptr, k0_ptr, st_nilptr, st1_nilptr, sc_nilptr, on_nilptr, k0_nilptr, st_ro, st1_ro, sc_ro, on_ro, k0_ro, st_func, st1_func, sc_func, on_func, k0_func, st_nilFunc, st1_nilFunc, sc_nilFunc, on_nilFunc, k0_nilFunc, st_tup, st1_tup, st_agg, sc_agg, E1P, E1ap, Tryz.aggT34, Tryz.szT34, Tryz.aggT49, Tryz.szT49, Tryz.aggT44, Tryz.szT44, Tryz.zeroT49, z35, pl, Tryz.underlying49, Tryz.underlying44, st_e0, st1_e0, k0_e0, on_e0, sc_e0]
theorem c48 (rows : List (List DV)) (i : Nat) (h : rowsOk 5 rows = true) (hb : rows.length * 56 ≤ roomB) (hi : i < rows.length) (σ : Store) : callIt E1 (evI E1) 144 [.d (.slice rows), .d (.int .i64 i)] σ = some (.d (.slice (rows.eraseIdx i)), σ) := by
  have h0 : (0 : Int) ≤ i := by omega
  simp [callIt, E1ov, ovAll, isDataL, PV.isData, ovWithout, h, hb, hi, h0]

theorem c22_some (q fs : List (List DV)) (t r s z : Int) (e : Bool) (id : Int) (rm : Bool) (ln : Int) (data : List (List DV)) (rest : List (List DV)) (h : rowsOk 5 rest = true) (hb : (rest.length + 1) * 56 ≤ roomB) (σ : Store) :
    callIt E1 (evI E1) 103 [ndP q fs t r s z (frD e id rm ln data :: rest)] σ = some (.tup [ndP q fs t r s z rest, frP e id rm ln data, .d (.bool true)], σ) := by
  refine call_run (fn := Tryz.f103) 5 rfl rfl rfl Tryz.func103 rfl rfl ?_ rfl
  have z35 : zeroT Tryz.prog 34 = some (.agg [.d (.bool false), .d (.int .i64 0), .d (.bool false), .d (.int .i64 0), .e0]) := by kernel_rfl
  have h48 := c48 (frD e id rm ln data :: rest) 0 (by unfold rowsOk at h ⊢; rw [List.all_cons, h]; rfl) (by simpa using hb) (by simp)
  simp at h48
  have hl : ((rest.length : Int) + 1 == 0) = false := by rw [beq_eq_false_iff_ne]; omega
  unfold ndP frP frD at *
  simp [Tryz.f103, ec_region, altD, ec_scope, ec_label, ec_seq, ec_cond, ec_skip, ec_exit, ec_ret, ec_block, seq_normal, seq_ret, seq_exit, if_t, if_f, regN, evOpsD, coreD, wantD, evCore, evPure, evCall, use, useL, useParts, opv, rd, putS, untake, moveIt, takes, af_nil, af_cons, appTmp, apartL, apartB, posOf, cellsOf, isBelowL, PV.isBelow, boxCells, isDataL, PV.isData, loadAs, loadS, storeS, storeAs, evFieldAddr, evField, partP, evSlice, bound, natOf, rowsOk, evIndexAddr, evIndex, evLen, fillP, bin_add, bin_sub, bin_mul, bin_lss, bin_leq, bin_gtr, bin_geq, bin_eql, bin_neq, bin_and, bin_andNot, un_not, mm_max, mm_min, ofValue, ofCell, slotOf, resVal, resOne, resL, retOf, toDL, toD, sameStore, sameCells, PV.same, DV.same_self, sameRows_self, sameL_self, st_undef, st1_undef, k0_undef, st_any, st1_any, k0_any, st_d, st1_d, sc_d, on_d, k0_d, st_ptr, st1_ptr, sc_ptr, on_ptr, k0_ptr, st_nilptr, st1_nilptr, sc_nilptr, on_nilptr, k0_nilptr, st_ro, st1_ro, sc_ro, on_ro, k0_ro, st_func, st1_func, sc_func, on_func, k0_func, st_nilFunc, st1_nilFunc, sc_nilFunc, on_nilFunc, k0_nilFunc, st_tup, st1_tup, st_agg, sc_agg, E1P, E1ap, Tryz.aggT34, Tryz.szT34, Tryz.aggT49, Tryz.szT49, Tryz.aggT44, Tryz.szT44, Tryz.zeroT49, z35, Tryz.underlying49, Tryz.underlying44, st_e0, st1_e0, k0_e0, on_e0, sc_e0, h48, hl]
end Go.Proofs

set_option linter.unusedVariables false
set_option linter.unusedSimpArgs false
set_option maxRecDepth 100000
set_option maxHeartbeats 4000000
namespace Go.Proofs
open Go.RowKit Go.Shelf Go.Pv

/-- What a counter's step makes, in parts. -/
def stT (t r s q what : Int) : Int := if s = 3 then (if what = 6 ∧ q + 1 = 128 then 0 else t) else if wkT what t > 255 then 256 else wkT what t
def stR (t r s q what : Int) : Int := if s = 3 then (if what = 6 ∧ q + 1 = 128 then 0 else r) else if wkT what t > 255 then 0 else wkR what r
def stS (t r s q what : Int) : Int := if s = 3 then (if what = 6 ∧ q + 1 = 128 then 1 else 3) else if wkT what t > 255 then 3 else if max (wkT what t) (wkR what r) > 127 then 2 else 1
def stQ (t r s q what : Int) : Int := if s = 3 then (if what = 6 then (if q + 1 = 128 then 0 else q + 1) else q) else if wkT what t > 255 then 0 else q

theorem stepV_eq (t r s q what : Int) : stepV t r s q what = cn (stT t r s q what) (stR t r s q what) (stS t r s q what) (stQ t r s q what) := by
  unfold stepV stT stR stS stQ
  by_cases hs : s = 3
  · subst hs
    by_cases h6 : what = 6
    · by_cases hq : q + 1 = 128 <;> simp [h6, hq]
    · simp [h6]
  · by_cases hT : wkT what t > 255 <;> simp [hs, hT]
end Go.Proofs

set_option linter.unusedVariables false
set_option maxRecDepth 100000
namespace Go.Proofs
open Go.RowKit Go.Shelf Go.Pv

@[simp] theorem Ty.a3 : aggT Tryz.prog 3 = some false := by kernel_rfl
@[simp] theorem Ty.s3 : szT Tryz.prog 3 = some 1 := by kernel_rfl
@[simp] theorem Ty.z3 : zeroT Tryz.prog 3 = some (.d (.int .i64 0)) := by kernel_rfl
@[simp] theorem Ty.a4 : aggT Tryz.prog 4 = some false := by kernel_rfl
@[simp] theorem Ty.s4 : szT Tryz.prog 4 = some 1 := by kernel_rfl
@[simp] theorem Ty.z4 : zeroT Tryz.prog 4 = some (.d (.bool false)) := by kernel_rfl
@[simp] theorem Ty.a5 : aggT Tryz.prog 5 = some false := by kernel_rfl
@[simp] theorem Ty.s5 : szT Tryz.prog 5 = some 1 := by kernel_rfl
@[simp] theorem Ty.z5 : zeroT Tryz.prog 5 = some (.d (.int .u8 0)) := by kernel_rfl
@[simp] theorem Ty.a9 : aggT Tryz.prog 9 = some false := by kernel_rfl
@[simp] theorem Ty.s9 : szT Tryz.prog 9 = some 1 := by kernel_rfl
@[simp] theorem Ty.z9 : zeroT Tryz.prog 9 = some (.d (.str "".toUTF8)) := by kernel_rfl
@[simp] theorem Ty.a22 : aggT Tryz.prog 22 = some false := by kernel_rfl
@[simp] theorem Ty.s22 : szT Tryz.prog 22 = some 1 := by kernel_rfl
@[simp] theorem Ty.z22 : zeroT Tryz.prog 22 = some (.e0) := by kernel_rfl
@[simp] theorem Ty.app22 : appT Tryz.prog 22 = some (7, 104) := by kernel_rfl
@[simp] theorem Ty.iz49 : ((Tryz.prog.info? 49).bind (·.zero)).isSome = true := by kernel_rfl
@[simp] theorem Ty.a23 : aggT Tryz.prog 23 = some false := by kernel_rfl
@[simp] theorem Ty.s23 : szT Tryz.prog 23 = some 1 := by kernel_rfl
@[simp] theorem Ty.z23 : zeroT Tryz.prog 23 = some (.e0) := by kernel_rfl
@[simp] theorem Ty.app23 : appT Tryz.prog 23 = some (1, 24) := by kernel_rfl
@[simp] theorem Ty.iz41 : ((Tryz.prog.info? 41).bind (·.zero)).isSome = true := by kernel_rfl
@[simp] theorem Ty.a27 : aggT Tryz.prog 27 = some false := by kernel_rfl
@[simp] theorem Ty.s27 : szT Tryz.prog 27 = some 1 := by kernel_rfl
@[simp] theorem Ty.z27 : zeroT Tryz.prog 27 = some (.e0) := by kernel_rfl
@[simp] theorem Ty.app27 : appT Tryz.prog 27 = some (8, 80) := by kernel_rfl
@[simp] theorem Ty.iz36 : ((Tryz.prog.info? 36).bind (·.zero)).isSome = true := by kernel_rfl
@[simp] theorem Ty.a32 : aggT Tryz.prog 32 = some false := by kernel_rfl
@[simp] theorem Ty.s32 : szT Tryz.prog 32 = some 1 := by kernel_rfl
@[simp] theorem Ty.z32 : zeroT Tryz.prog 32 = some (.e0) := by kernel_rfl
@[simp] theorem Ty.app32 : appT Tryz.prog 32 = some (1, 1) := by kernel_rfl
@[simp] theorem Ty.iz5 : ((Tryz.prog.info? 5).bind (·.zero)).isSome = true := by kernel_rfl
@[simp] theorem Ty.a34 : aggT Tryz.prog 34 = some true := by kernel_rfl
@[simp] theorem Ty.s34 : szT Tryz.prog 34 = some 5 := by kernel_rfl
@[simp] theorem Ty.z34 : zeroT Tryz.prog 34 = some (.agg [.d (.bool false), .d (.int .i64 0), .d (.bool false), .d (.int .i64 0), .e0]) := by kernel_rfl
@[simp] theorem Ty.p34 : placesOf Tryz.prog 34 = some (fun i => ([(0, 1), (1, 1), (2, 1), (3, 1), (4, 1)] : List (Nat × Nat))[i]?) := by kernel_rfl
@[simp] theorem Ty.a36 : aggT Tryz.prog 36 = some true := by kernel_rfl
@[simp] theorem Ty.s36 : szT Tryz.prog 36 = some 8 := by kernel_rfl
@[simp] theorem Ty.z36 : zeroT Tryz.prog 36 = some (.agg [.d (.int .i64 0), .d (.bool false), .d (.int .i64 0), .d (.bool false), .d (.int .i64 0), .e0, .d (.bool false), .d (.int .i64 0)]) := by kernel_rfl
@[simp] theorem Ty.p36 : placesOf Tryz.prog 36 = some (fun i => ([(0, 1), (1, 5), (6, 1), (7, 1)] : List (Nat × Nat))[i]?) := by kernel_rfl
@[simp] theorem Ty.a39 : aggT Tryz.prog 39 = some false := by kernel_rfl
@[simp] theorem Ty.s39 : szT Tryz.prog 39 = some 1 := by kernel_rfl
@[simp] theorem Ty.z39 : zeroT Tryz.prog 39 = some (.e0) := by kernel_rfl
@[simp] theorem Ty.app39 : appT Tryz.prog 39 = some (1, 8) := by kernel_rfl
@[simp] theorem Ty.iz3 : ((Tryz.prog.info? 3).bind (·.zero)).isSome = true := by kernel_rfl
@[simp] theorem Ty.a41 : aggT Tryz.prog 41 = some true := by kernel_rfl
@[simp] theorem Ty.s41 : szT Tryz.prog 41 = some 1 := by kernel_rfl
@[simp] theorem Ty.z41 : zeroT Tryz.prog 41 = some (.agg [.e0]) := by kernel_rfl
@[simp] theorem Ty.p41 : placesOf Tryz.prog 41 = some (fun i => ([(0, 1)] : List (Nat × Nat))[i]?) := by kernel_rfl
@[simp] theorem Ty.a44 : aggT Tryz.prog 44 = some false := by kernel_rfl
@[simp] theorem Ty.s44 : szT Tryz.prog 44 = some 1 := by kernel_rfl
@[simp] theorem Ty.z44 : zeroT Tryz.prog 44 = some (.e0) := by kernel_rfl
@[simp] theorem Ty.app44 : appT Tryz.prog 44 = some (5, 56) := by kernel_rfl
@[simp] theorem Ty.iz34 : ((Tryz.prog.info? 34).bind (·.zero)).isSome = true := by kernel_rfl
@[simp] theorem Ty.a45 : aggT Tryz.prog 45 = some false := by kernel_rfl
@[simp] theorem Ty.s45 : szT Tryz.prog 45 = some 1 := by kernel_rfl
@[simp] theorem Ty.z45 : zeroT Tryz.prog 45 = some (.e0) := by kernel_rfl
@[simp] theorem Ty.app45 : appT Tryz.prog 45 = some (3, 24) := by kernel_rfl
@[simp] theorem Ty.iz140 : ((Tryz.prog.info? 140).bind (·.zero)).isSome = true := by kernel_rfl
@[simp] theorem Ty.a47 : aggT Tryz.prog 47 = some true := by kernel_rfl
@[simp] theorem Ty.s47 : szT Tryz.prog 47 = some 4 := by kernel_rfl
@[simp] theorem Ty.z47 : zeroT Tryz.prog 47 = some (.agg [.d (.int .i64 0), .d (.int .i64 0), .d (.int .i64 0), .d (.int .i64 0)]) := by kernel_rfl
@[simp] theorem Ty.p47 : placesOf Tryz.prog 47 = some (fun i => ([(0, 1), (1, 1), (2, 1), (3, 1)] : List (Nat × Nat))[i]?) := by kernel_rfl
@[simp] theorem Ty.k47 : kindsOf Tryz.prog 47 = some [.int .i64, .int .i64, .int .i64, .int .i64] := by kernel_rfl
@[simp] theorem Ty.a49 : aggT Tryz.prog 49 = some true := by kernel_rfl
@[simp] theorem Ty.s49 : szT Tryz.prog 49 = some 7 := by kernel_rfl
@[simp] theorem Ty.z49 : zeroT Tryz.prog 49 = some (.agg [.e0, .e0, .d (.int .i64 0), .d (.int .i64 0), .d (.int .i64 0), .d (.int .i64 0), .e0]) := by kernel_rfl
@[simp] theorem Ty.p49 : placesOf Tryz.prog 49 = some (fun i => ([(0, 1), (1, 1), (2, 4), (6, 1)] : List (Nat × Nat))[i]?) := by kernel_rfl
@[simp] theorem Ty.a62 : aggT Tryz.prog 62 = some false := by kernel_rfl
@[simp] theorem Ty.s62 : szT Tryz.prog 62 = some 1 := by kernel_rfl
@[simp] theorem Ty.z62 : zeroT Tryz.prog 62 = some (.e0) := by kernel_rfl
@[simp] theorem Ty.app62 : appT Tryz.prog 62 = some (2, 48) := by kernel_rfl
@[simp] theorem Ty.iz70 : ((Tryz.prog.info? 70).bind (·.zero)).isSome = true := by kernel_rfl
@[simp] theorem Ty.a63 : aggT Tryz.prog 63 = some false := by kernel_rfl
@[simp] theorem Ty.s63 : szT Tryz.prog 63 = some 1 := by kernel_rfl
@[simp] theorem Ty.z63 : zeroT Tryz.prog 63 = some (.e0) := by kernel_rfl
@[simp] theorem Ty.app63 : appT Tryz.prog 63 = some (6, 48) := by kernel_rfl
@[simp] theorem Ty.iz145 : ((Tryz.prog.info? 145).bind (·.zero)).isSome = true := by kernel_rfl
@[simp] theorem Ty.a65 : aggT Tryz.prog 65 = some true := by kernel_rfl
@[simp] theorem Ty.s65 : szT Tryz.prog 65 = some 3 := by kernel_rfl
@[simp] theorem Ty.z65 : zeroT Tryz.prog 65 = some (.agg [.e0, .e0, .d (.int .u8 0)]) := by kernel_rfl
@[simp] theorem Ty.p65 : placesOf Tryz.prog 65 = some (fun i => ([(0, 1), (1, 1), (2, 1)] : List (Nat × Nat))[i]?) := by kernel_rfl
@[simp] theorem Ty.a66 : aggT Tryz.prog 66 = some false := by kernel_rfl
@[simp] theorem Ty.s66 : szT Tryz.prog 66 = some 1 := by kernel_rfl
@[simp] theorem Ty.z66 : zeroT Tryz.prog 66 = some (.e0) := by kernel_rfl
@[simp] theorem Ty.app66 : appT Tryz.prog 66 = some (1, 24) := by kernel_rfl
@[simp] theorem Ty.iz22 : ((Tryz.prog.info? 22).bind (·.zero)).isSome = true := by kernel_rfl
@[simp] theorem Ty.a67 : aggT Tryz.prog 67 = some false := by kernel_rfl
@[simp] theorem Ty.s67 : szT Tryz.prog 67 = some 1 := by kernel_rfl
@[simp] theorem Ty.z67 : zeroT Tryz.prog 67 = some (.e0) := by kernel_rfl
@[simp] theorem Ty.app67 : appT Tryz.prog 67 = some (1, 24) := by kernel_rfl
@[simp] theorem Ty.iz45 : ((Tryz.prog.info? 45).bind (·.zero)).isSome = true := by kernel_rfl
@[simp] theorem Ty.a68 : aggT Tryz.prog 68 = some false := by kernel_rfl
@[simp] theorem Ty.s68 : szT Tryz.prog 68 = some 1 := by kernel_rfl
@[simp] theorem Ty.z68 : zeroT Tryz.prog 68 = some (.e0) := by kernel_rfl
@[simp] theorem Ty.app68 : appT Tryz.prog 68 = some (1, 24) := by kernel_rfl
@[simp] theorem Ty.iz44 : ((Tryz.prog.info? 44).bind (·.zero)).isSome = true := by kernel_rfl
@[simp] theorem Ty.a70 : aggT Tryz.prog 70 = some true := by kernel_rfl
@[simp] theorem Ty.s70 : szT Tryz.prog 70 = some 2 := by kernel_rfl
@[simp] theorem Ty.z70 : zeroT Tryz.prog 70 = some (.agg [.e0, .e0]) := by kernel_rfl
@[simp] theorem Ty.p70 : placesOf Tryz.prog 70 = some (fun i => ([(0, 1), (1, 1)] : List (Nat × Nat))[i]?) := by kernel_rfl
@[simp] theorem Ty.a74 : aggT Tryz.prog 74 = some true := by kernel_rfl
@[simp] theorem Ty.s74 : szT Tryz.prog 74 = some 4 := by kernel_rfl
@[simp] theorem Ty.z74 : zeroT Tryz.prog 74 = some (.agg [.e0, .d (.int .i64 0), .e0, .e0]) := by kernel_rfl
@[simp] theorem Ty.p74 : placesOf Tryz.prog 74 = some (fun i => ([(0, 1), (1, 1), (2, 1), (3, 1)] : List (Nat × Nat))[i]?) := by kernel_rfl
@[simp] theorem Ty.a76 : aggT Tryz.prog 76 = some true := by kernel_rfl
@[simp] theorem Ty.s76 : szT Tryz.prog 76 = some 5 := by kernel_rfl
@[simp] theorem Ty.z76 : zeroT Tryz.prog 76 = some (.agg [.e0, .e0, .d (.int .i64 0), .e0, .e0]) := by kernel_rfl
@[simp] theorem Ty.p76 : placesOf Tryz.prog 76 = some (fun i => ([(0, 1), (1, 4)] : List (Nat × Nat))[i]?) := by kernel_rfl
@[simp] theorem Ty.a77 : aggT Tryz.prog 77 = some false := by kernel_rfl
@[simp] theorem Ty.s77 : szT Tryz.prog 77 = some 1 := by kernel_rfl
@[simp] theorem Ty.z77 : zeroT Tryz.prog 77 = some (.d (.int .i64 0)) := by kernel_rfl
@[simp] theorem Ty.a86 : aggT Tryz.prog 86 = some false := by kernel_rfl
@[simp] theorem Ty.s86 : szT Tryz.prog 86 = some 1 := by kernel_rfl
@[simp] theorem Ty.z86 : zeroT Tryz.prog 86 = some (.e0) := by kernel_rfl
@[simp] theorem Ty.app86 : appT Tryz.prog 86 = some (10, 112) := by kernel_rfl
@[simp] theorem Ty.iz93 : ((Tryz.prog.info? 93).bind (·.zero)).isSome = true := by kernel_rfl
@[simp] theorem Ty.a93 : aggT Tryz.prog 93 = some true := by kernel_rfl
@[simp] theorem Ty.s93 : szT Tryz.prog 93 = some 10 := by kernel_rfl
@[simp] theorem Ty.z93 : zeroT Tryz.prog 93 = some (.agg [.d (.int .u8 0), .d (.int .i64 0), .d (.int .i64 0), .d (.bool false), .d (.int .i64 0), .d (.bool false), .d (.int .i64 0), .e0, .e0, .d (.int .i64 0)]) := by kernel_rfl
@[simp] theorem Ty.p93 : placesOf Tryz.prog 93 = some (fun i => ([(0, 1), (1, 1), (2, 1), (3, 5), (8, 1), (9, 1)] : List (Nat × Nat))[i]?) := by kernel_rfl
@[simp] theorem Ty.a95 : aggT Tryz.prog 95 = some false := by kernel_rfl
@[simp] theorem Ty.s95 : szT Tryz.prog 95 = some 1 := by kernel_rfl
@[simp] theorem Ty.z95 : zeroT Tryz.prog 95 = some (.nilFunc) := by kernel_rfl
@[simp] theorem Ty.a96 : aggT Tryz.prog 96 = some false := by kernel_rfl
@[simp] theorem Ty.s96 : szT Tryz.prog 96 = some 1 := by kernel_rfl
@[simp] theorem Ty.z96 : zeroT Tryz.prog 96 = some (.nilFunc) := by kernel_rfl
@[simp] theorem Ty.a98 : aggT Tryz.prog 98 = some false := by kernel_rfl
@[simp] theorem Ty.s98 : szT Tryz.prog 98 = some 1 := by kernel_rfl
@[simp] theorem Ty.z98 : zeroT Tryz.prog 98 = some (.e0) := by kernel_rfl
@[simp] theorem Ty.app98 : appT Tryz.prog 98 = some (6, 64) := by kernel_rfl
@[simp] theorem Ty.iz101 : ((Tryz.prog.info? 101).bind (·.zero)).isSome = true := by kernel_rfl
@[simp] theorem Ty.a101 : aggT Tryz.prog 101 = some true := by kernel_rfl
@[simp] theorem Ty.s101 : szT Tryz.prog 101 = some 6 := by kernel_rfl
@[simp] theorem Ty.z101 : zeroT Tryz.prog 101 = some (.agg [.d (.int .i64 0), .d (.bool false), .d (.int .i64 0), .d (.bool false), .d (.int .i64 0), .e0]) := by kernel_rfl
@[simp] theorem Ty.p101 : placesOf Tryz.prog 101 = some (fun i => ([(0, 1), (1, 5)] : List (Nat × Nat))[i]?) := by kernel_rfl
@[simp] theorem Ty.a114 : aggT Tryz.prog 114 = some false := by kernel_rfl
@[simp] theorem Ty.s114 : szT Tryz.prog 114 = some 1 := by kernel_rfl
@[simp] theorem Ty.z114 : zeroT Tryz.prog 114 = some (.e0) := by kernel_rfl
@[simp] theorem Ty.app114 : appT Tryz.prog 114 = some (7, 72) := by kernel_rfl
@[simp] theorem Ty.iz118 : ((Tryz.prog.info? 118).bind (·.zero)).isSome = true := by kernel_rfl
@[simp] theorem Ty.a118 : aggT Tryz.prog 118 = some true := by kernel_rfl
@[simp] theorem Ty.s118 : szT Tryz.prog 118 = some 7 := by kernel_rfl
@[simp] theorem Ty.z118 : zeroT Tryz.prog 118 = some (.agg [.d (.int .i64 0), .d (.int .i64 0), .d (.bool false), .d (.int .i64 0), .d (.bool false), .d (.int .i64 0), .e0]) := by kernel_rfl
@[simp] theorem Ty.p118 : placesOf Tryz.prog 118 = some (fun i => ([(0, 1), (1, 1), (2, 5)] : List (Nat × Nat))[i]?) := by kernel_rfl
@[simp] theorem Ty.a124 : aggT Tryz.prog 124 = some false := by kernel_rfl
@[simp] theorem Ty.s124 : szT Tryz.prog 124 = some 1 := by kernel_rfl
@[simp] theorem Ty.z124 : zeroT Tryz.prog 124 = some (.nilptr) := by kernel_rfl
@[simp] theorem Ty.a133 : aggT Tryz.prog 133 = some true := by kernel_rfl
@[simp] theorem Ty.s133 : szT Tryz.prog 133 = some 9 := by kernel_rfl
@[simp] theorem Ty.z133 : zeroT Tryz.prog 133 = some (.agg [.e0, .e0, .d (.int .i64 0), .d (.bool false), .d (.int .i64 0), .d (.bool false), .d (.int .i64 0), .e0, .e0]) := by kernel_rfl
@[simp] theorem Ty.p133 : placesOf Tryz.prog 133 = some (fun i => ([(0, 1), (1, 1), (2, 1), (3, 5), (8, 1)] : List (Nat × Nat))[i]?) := by kernel_rfl
@[simp] theorem Ty.a140 : aggT Tryz.prog 140 = some true := by kernel_rfl
@[simp] theorem Ty.s140 : szT Tryz.prog 140 = some 3 := by kernel_rfl
@[simp] theorem Ty.z140 : zeroT Tryz.prog 140 = some (.agg [.d (.bool false), .d (.int .i64 0), .d (.int .i64 0)]) := by kernel_rfl
@[simp] theorem Ty.p140 : placesOf Tryz.prog 140 = some (fun i => ([(0, 1), (1, 1), (2, 1)] : List (Nat × Nat))[i]?) := by kernel_rfl
@[simp] theorem Ty.k140 : kindsOf Tryz.prog 140 = some [.bool, .int .i64, .int .i64] := by kernel_rfl
@[simp] theorem Ty.a145 : aggT Tryz.prog 145 = some true := by kernel_rfl
@[simp] theorem Ty.s145 : szT Tryz.prog 145 = some 6 := by kernel_rfl
@[simp] theorem Ty.z145 : zeroT Tryz.prog 145 = some (.agg [.d (.int .i64 0), .d (.int .i64 0), .d (.bool false), .d (.int .i64 0), .d (.int .i64 0), .d (.int .i64 0)]) := by kernel_rfl
@[simp] theorem Ty.p145 : placesOf Tryz.prog 145 = some (fun i => ([(0, 1), (1, 1), (2, 3), (5, 1)] : List (Nat × Nat))[i]?) := by kernel_rfl
@[simp] theorem Ty.a165 : aggT Tryz.prog 165 = some false := by kernel_rfl
@[simp] theorem Ty.s165 : szT Tryz.prog 165 = some 1 := by kernel_rfl
@[simp] theorem Ty.z165 : zeroT Tryz.prog 165 = some (.nilFunc) := by kernel_rfl
@[simp] theorem Ty.a170 : aggT Tryz.prog 170 = some true := by kernel_rfl
@[simp] theorem Ty.s170 : szT Tryz.prog 170 = some 4 := by kernel_rfl
@[simp] theorem Ty.z170 : zeroT Tryz.prog 170 = some (.agg [.d (.int .i64 0), .d (.int .i64 0), .d (.int .i64 0), .d (.int .i64 0)]) := by kernel_rfl
@[simp] theorem Ty.p170 : placesOf Tryz.prog 170 = some (fun i => some (i * 1, 1)) := by kernel_rfl
@[simp] theorem Ty.a190 : aggT Tryz.prog 190 = some true := by kernel_rfl
@[simp] theorem Ty.s190 : szT Tryz.prog 190 = some 4 := by kernel_rfl
@[simp] theorem Ty.z190 : zeroT Tryz.prog 190 = some (.agg [.d (.int .i64 0), .d (.int .i64 0), .d (.int .i64 0), .d (.int .i64 0)]) := by kernel_rfl
@[simp] theorem Ty.p190 : placesOf Tryz.prog 190 = some (fun i => ([(0, 1), (1, 1), (2, 1), (3, 1)] : List (Nat × Nat))[i]?) := by kernel_rfl
@[simp] theorem Ty.k190 : kindsOf Tryz.prog 190 = some [.int .i64, .int .i64, .int .i64, .int .i64] := by kernel_rfl
@[simp] theorem Ty.a199 : aggT Tryz.prog 199 = some false := by kernel_rfl
@[simp] theorem Ty.s199 : szT Tryz.prog 199 = some 1 := by kernel_rfl
@[simp] theorem Ty.z199 : zeroT Tryz.prog 199 = some (.e0) := by kernel_rfl
@[simp] theorem Ty.app199 : appT Tryz.prog 199 = some (1, 24) := by kernel_rfl
@[simp] theorem Ty.iz39 : ((Tryz.prog.info? 39).bind (·.zero)).isSome = true := by kernel_rfl
@[simp] theorem Ty.a200 : aggT Tryz.prog 200 = some false := by kernel_rfl
@[simp] theorem Ty.s200 : szT Tryz.prog 200 = some 1 := by kernel_rfl
@[simp] theorem Ty.z200 : zeroT Tryz.prog 200 = some (.e0) := by kernel_rfl
@[simp] theorem Ty.app200 : appT Tryz.prog 200 = some (1, 1) := by kernel_rfl
@[simp] theorem Ty.iz4 : ((Tryz.prog.info? 4).bind (·.zero)).isSome = true := by kernel_rfl
@[simp] theorem Ty.a202 : aggT Tryz.prog 202 = some true := by kernel_rfl
@[simp] theorem Ty.s202 : szT Tryz.prog 202 = some 4 := by kernel_rfl
@[simp] theorem Ty.z202 : zeroT Tryz.prog 202 = some (.agg [.e0, .e0, .e0, .e0]) := by kernel_rfl
@[simp] theorem Ty.p202 : placesOf Tryz.prog 202 = some (fun i => ([(0, 1), (1, 1), (2, 1), (3, 1)] : List (Nat × Nat))[i]?) := by kernel_rfl
@[simp] theorem Ty.a206 : aggT Tryz.prog 206 = some true := by kernel_rfl
@[simp] theorem Ty.s206 : szT Tryz.prog 206 = some 1 := by kernel_rfl
@[simp] theorem Ty.z206 : zeroT Tryz.prog 206 = some (.agg [.e0]) := by kernel_rfl
@[simp] theorem Ty.p206 : placesOf Tryz.prog 206 = some (fun i => ([(0, 1)] : List (Nat × Nat))[i]?) := by kernel_rfl
@[simp] theorem Ty.a211 : aggT Tryz.prog 211 = some false := by kernel_rfl
@[simp] theorem Ty.s211 : szT Tryz.prog 211 = some 1 := by kernel_rfl
@[simp] theorem Ty.a216 : aggT Tryz.prog 216 = some false := by kernel_rfl
@[simp] theorem Ty.s216 : szT Tryz.prog 216 = some 1 := by kernel_rfl
@[simp] theorem Ty.z216 : zeroT Tryz.prog 216 = some (.nilFunc) := by kernel_rfl
@[simp] theorem Ty.a221 : aggT Tryz.prog 221 = some true := by kernel_rfl
@[simp] theorem Ty.s221 : szT Tryz.prog 221 = some 2 := by kernel_rfl
@[simp] theorem Ty.z221 : zeroT Tryz.prog 221 = some (.agg [.d (.bool false), .d (.int .i64 0)]) := by kernel_rfl
@[simp] theorem Ty.p221 : placesOf Tryz.prog 221 = some (fun i => ([(0, 1), (1, 1)] : List (Nat × Nat))[i]?) := by kernel_rfl
@[simp] theorem Ty.k221 : kindsOf Tryz.prog 221 = some [.bool, .int .i64] := by kernel_rfl
@[simp] theorem Ty.a235 : aggT Tryz.prog 235 = some true := by kernel_rfl
@[simp] theorem Ty.s235 : szT Tryz.prog 235 = some 3 := by kernel_rfl
@[simp] theorem Ty.z235 : zeroT Tryz.prog 235 = some (.agg [.d (.int .i64 0), .d (.int .i64 0), .d (.int .i64 0)]) := by kernel_rfl
@[simp] theorem Ty.p235 : placesOf Tryz.prog 235 = some (fun i => ([(0, 1), (1, 1), (2, 1)] : List (Nat × Nat))[i]?) := by kernel_rfl
@[simp] theorem Ty.k235 : kindsOf Tryz.prog 235 = some [.int .i64, .int .i64, .int .i64] := by kernel_rfl
attribute [simp] Tryz.underlying3 Tryz.underlying4 Tryz.underlying5 Tryz.underlying9 Tryz.underlying22 Tryz.underlying23 Tryz.underlying27 Tryz.underlying32 Tryz.underlying34 Tryz.underlying36 Tryz.underlying39 Tryz.underlying41 Tryz.underlying44 Tryz.underlying45 Tryz.underlying47 Tryz.underlying49 Tryz.underlying62 Tryz.underlying63 Tryz.underlying65 Tryz.underlying66 Tryz.underlying67 Tryz.underlying68 Tryz.underlying70 Tryz.underlying74 Tryz.underlying76 Tryz.underlying77 Tryz.underlying86 Tryz.underlying93 Tryz.underlying95 Tryz.underlying96 Tryz.underlying98 Tryz.underlying101 Tryz.underlying114 Tryz.underlying118 Tryz.underlying124 Tryz.underlying133 Tryz.underlying140 Tryz.underlying145 Tryz.underlying165 Tryz.underlying170 Tryz.underlying190 Tryz.underlying199 Tryz.underlying200 Tryz.underlying202 Tryz.underlying206 Tryz.underlying211 Tryz.underlying216 Tryz.underlying221 Tryz.underlying235
end Go.Proofs

