/- Overrides of the seat of nodes: bits.Put, its contract; The seat of nodes: the evaluator with all its overrides; The seat of nodes: what its functions compute: facts; The seat of nodes: frames; The seat of nodes: the rank of a frame; The seat of nodes: the rank of a frame of eleven bits, and of twenty-nine; The seat of nodes: frame.Rank, and ranks compared; The seat of nodes: node.with, node.Send; The seat of nodes: node.Send; The seat of nodes: node.Take, node.Quiet; The seat of nodes: node.Quiet; Facts of the seat's types, printed by a program (tys). -/
import Derived.Test.YtgojeifmkfpknaaNd
import Derived.Test.YtgojeifmkfpknaaNc
set_option linter.unusedVariables false
set_option linter.unusedSimpArgs false
namespace Go.Proofs
open Go.RowKit Go.Shelf Go.Pv

/-- The bits of a number, from the highest of 'm' on. -/
def bitRows (v : Int) (m : Nat) : List (List DV) := (List.range m).map fun k => [DV.int .i64 ((v / 2 ^ (m - 1 - k)) % 2)]

theorem bits_one (x : Int) (hx : 0 ≤ x ∧ x < 2 ^ 40) : bits .and .i64 x 1 = x % 2 := by
  have h1 : (BitVec.ofInt 64 1).toNat = 2 ^ 1 - 1 := by decide
  have key : (BitVec.ofInt 64 x &&& BitVec.ofInt 64 1).toNat = (x % ((2 ^ 64 : Nat) : Int)).toNat % 2 ^ 1 := by
    rw [BitVec.toNat_and, BitVec.toNat_ofInt, h1, Nat.and_two_pow_sub_one_eq_mod]
  show IntKind.i64.wrap ((BitVec.ofInt 64 x &&& BitVec.ofInt 64 1).toNat : Nat) = x % 2
  rw [key, IntKind.wrap_i64]
  omega

theorem Try.putOk (v : Int) (m : Nat) (hm : m ≤ 32) (hv : 0 ≤ v ∧ v < 2 ^ m) : CallOk Try.prog 90 [.d (.int .i64 v), .d (.int .i64 m)] [] (.tup [.d (.slice (bitRows v m)), .d (.bool true)]) [] := by
  have hle : (2 : Int) ^ m ≤ 2 ^ 32 := by
    have : (2 : Nat) ^ m ≤ 2 ^ 32 := Nat.pow_le_pow_right (by decide) hm
    exact_mod_cast this
  have hdiv : v / 2 ^ m = 0 := Int.ediv_eq_zero_of_lt hv.1 hv.2
  refine callOk_data ⟨_, Try.func90, rfl, by decide⟩ (by simp) fun w Im vs hin hargs => ?_
  obtain ⟨hl, hr⟩ := hargs
  obtain ⟨x, y, rfl⟩ : ∃ x y, vs = #[x, y] := by
    match vs, hl with
    | ⟨[x, y]⟩, _ => exact ⟨x, y, rfl⟩
  obtain rfl : x = .int .i64 v := (hr 0 _ x rfl rfl).1.int_inv
  obtain rfl : y = .int .i64 m := (hr 1 _ y rfl rfl).1.int_inv
  refine ((callsIn_wide (n := 3)).1 (Try.Put_in _ 3 trivial trivial trivial rfl (by omega) v m hm hdiv w (fun k => bits .and .i64 (v / 2 ^ (m - 1 - k)) 1) (fun _ => rfl))).mono ?_
  rintro e w' ⟨u, rfl, hrow, hb⟩
  have hrl : (bitRows v m).length = m := by simp [bitRows]
  have hbit : ∀ k, bits .and .i64 (v / 2 ^ (m - 1 - k)) 1 = (v / 2 ^ (m - 1 - k)) % 2 := fun k => bits_one _ ⟨Int.ediv_nonneg hv.1 (Int.le_of_lt (Int.pow_pos (show (0 : Int) < 2 by decide))), by
    have : v / 2 ^ (m - 1 - k) ≤ v := Int.ediv_le_self _ hv.1
    omega⟩
  obtain ⟨g, Im', q1, q2, q3, q4, q5⟩ := ownsRow_rep (size := 1) (rows := bitRows v m) hin hb (by decide) (fun r hr => by simp [bitRows] at hr; obtain ⟨k, _, rfl⟩ := hr; rfl) (by rw [hrl]; exact hrow) (fun i j r d hi hj => by
    simp only [bitRows, List.getElem?_map] at hi
    cases hk : (List.range m)[i]? with
    | none => rw [hk] at hi; cases hi
    | some k =>
      rw [hk] at hi
      simp at hi
      subst hi
      have hik : k = i := by
        have := List.getElem?_eq_some_iff.1 hk
        obtain ⟨h1, h2⟩ := this
        simp at h2
        exact h2.symm
      subst hik
      cases j with
      | succ j => simp at hj
      | zero =>
        simp at hj
        subst hj
        refine ⟨.int .i64 ((v / 2 ^ (m - 1 - k)) % 2), ?_, .int _ _⟩
        simp only [upto, List.getElem?_map, Nat.mul_one, Nat.add_zero, hk, Option.map_some, hbit])
  refine ⟨_, Im', rfl, hb, q1, q2, .tup _ _ rfl (fun i p z hp hz => ?_)⟩
  cases i with
  | zero => simp at hp hz; subst hp; subst hz; exact .d q3
  | succ i =>
    cases i with
    | zero => simp at hp hz; subst hp; subst hz; exact .d (.bool _)
    | succ i => simp at hp
end Go.Proofs

set_option linter.unusedVariables false
set_option linter.unusedSimpArgs false
set_option maxRecDepth 100000
namespace Go.Proofs
open Go.RowKit Go.Shelf Go.Pv

def ovClone (sz b : Nat) : List PV → Option PV
  | [.d (.slice rows)] => if rowsOk sz rows && decide (rows.length * b ≤ roomB) then some (acc rows) else none
  | _ => none

def ovWithout : List PV → Option PV
  | [.d (.slice rows), .d (.int .i64 i)] => if rowsOk 5 rows && decide (rows.length * 56 ≤ roomB) && decide (0 ≤ i) && decide (i.toNat < rows.length) then some (.d (.slice (rows.eraseIdx i.toNat))) else none
  | _ => none

def ovStep : List PV → Option PV
  | [.agg [.d (.int .i64 t), .d (.int .i64 r), .d (.int .i64 s), .d (.int .i64 q)], .d (.int .i64 what)] =>
    if decide (0 ≤ t ∧ t ≤ 900) && decide (0 ≤ r ∧ r ≤ 900) && decide (0 ≤ q ∧ q ≤ 900) && decide (1 ≤ what ∧ what ≤ 6) then some (stepV t r s q what) else none
  | _ => none

def ovPut : List PV → Option PV
  | [.d (.int .i64 v), .d (.int .i64 m)] => if decide (0 ≤ m ∧ m ≤ 32) && decide (0 ≤ v ∧ v < 2 ^ m.toNat) then some (.tup [.d (.slice (bitRows v m.toNat)), .d (.bool true)]) else none
  | _ => none

def ovAll (f : FuncId) : Option (List PV → Option PV) :=
  if f = 39 then some (ovClone 3 24) else if f = 61 then some (ovClone 5 56) else if f = 48 then some ovWithout else if f = 49 then some ovStep else if f = 90 then some ovPut else none

/-- The seat's functions. -/
noncomputable def E1 : Env := { P := Try.prog, good := fun f => f < 93, pure := fun f => f != 91 && f != 92 && f != 59 && f != 62 && f != 67 && f != 72 && f != 73 && f != 75 && f != 80 && f != 81 && f != 82 && f != 83 && f != 84 && f != 87 && f != 88 && f != 89 && f != 60 && f != 65 && f != 66 && f != 76 && f != 78 && f != 37 && f != 52, ov := ovAll, ro := fun f => f == 72, apart := fun p => if p = "node.go:119" then [(5, 2)] else if p = "ref.go:133" then [(5, 2)] else [] }

theorem ovAll_ok : OvOk E1 := by
  intro f g hg args res hres hd hrd
  replace hg : ovAll f = some g := hg
  unfold ovAll at hg
  split at hg
  · rename_i h; subst h; cases hg
    unfold ovClone at hres
    split at hres
    · split at hres
      · rename_i hc; cases hres
        simp only [Bool.and_eq_true, decide_eq_true_eq] at hc
        exact Try.cloneT _ hc.1 hc.2
      · cases hres
    · cases hres
  split at hg
  · rename_i h; subst h; cases hg
    unfold ovClone at hres
    split at hres
    · split at hres
      · rename_i hc; cases hres
        simp only [Bool.and_eq_true, decide_eq_true_eq] at hc
        exact Try.cloneF _ hc.1 hc.2
      · cases hres
    · cases hres
  split at hg
  · rename_i h; subst h; cases hg
    unfold ovWithout at hres
    split at hres
    · split at hres
      · rename_i i hc; cases hres
        simp only [Bool.and_eq_true, decide_eq_true_eq] at hc
        have := Try.withoutF _ i.toNat hc.1.1.1 hc.1.1.2 hc.2
        rwa [Int.toNat_of_nonneg hc.1.2] at this
      · cases hres
    · cases hres
  split at hg
  · rename_i h; subst h; cases hg
    unfold ovStep at hres
    split at hres
    · split at hres
      · rename_i hc; cases hres
        simp only [Bool.and_eq_true, decide_eq_true_eq] at hc
        exact Try.stepOk _ _ _ _ _ hc.1.1.1 hc.1.1.2 hc.1.2 hc.2
      · cases hres
    · cases hres
  split at hg
  · rename_i h; subst h; cases hg
    unfold ovPut at hres
    split at hres
    · split at hres
      · rename_i m hc; cases hres
        simp only [Bool.and_eq_true, decide_eq_true_eq] at hc
        have := Try.putOk _ m.toNat (by omega) hc.2
        rwa [Int.toNat_of_nonneg hc.1.1] at this
      · cases hres
    · cases hres
  · cases hg

theorem E1_ok : EnvOk E1 := envOk_of (n := 93) Try.mixed (fun f h => by simpa [E1] using h) (by kernel_rfl) ovAll_ok

def isTrue : Option (PV × Store) → Bool | some (.d (.bool true), _) => true | _ => false

/-- The live question's answer. -/
theorem head_true : isTrue (evF E1 200 10 [] []) = true := by decide +kernel

end Go.Proofs

set_option linter.unusedVariables false
set_option linter.unusedSimpArgs false
set_option maxRecDepth 100000
set_option maxHeartbeats 4000000
namespace Go.Proofs
open Go.RowKit Go.Shelf Go.Pv

theorem E1P : E1.P = Try.prog := rfl
theorem E1ov (f : FuncId) : E1.ov f = ovAll f := rfl
theorem E1ap (p : String) : E1.apart p = if p = "node.go:119" then [(5, 2)] else if p = "ref.go:133" then [(5, 2)] else [] := rfl
theorem E1ro (f : FuncId) : E1.ro f = (f == 72) := rfl

/-- A frame. -/
def frD (e : Bool) (id : Int) (rm : Bool) (ln : Int) (rows : List (List DV)) : List DV := [.bool e, .int .i64 id, .bool rm, .int .i64 ln, .slice rows]
def frP (e : Bool) (id : Int) (rm : Bool) (ln : Int) (rows : List (List DV)) : PV := .agg [.d (.bool e), .d (.int .i64 id), .d (.bool rm), .d (.int .i64 ln), .d (.slice rows)]

def frRight (e : Bool) (id : Int) (rm : Bool) (ln : Int) (rows : List (List DV)) : Bool :=
  (id.fdiv (2 ^ (if e then 29 else 11)) == 0) && decide (0 ≤ ln) && decide (ln ≤ 8) && ((rows.length : Int) == if rm then 0 else ln)

theorem Try.aggT35 : aggT Try.prog 35 = some true := by kernel_rfl
theorem Try.szT35 : szT Try.prog 35 = some 5 := by kernel_rfl
theorem Try.aggT4 : aggT Try.prog 4 = some false := by kernel_rfl
theorem Try.szT4 : szT Try.prog 4 = some 1 := by kernel_rfl
theorem Try.aggT33 : aggT Try.prog 33 = some false := by kernel_rfl
theorem Try.szT33 : szT Try.prog 33 = some 1 := by kernel_rfl


theorem acc_own (rows : List (List DV)) : ownRows (acc rows) = some rows := by cases rows <;> rfl
theorem acc_cells (rows : List (List DV)) : storedCells (acc rows) = [acc rows] := by cases rows <;> rfl
theorem acc_one (rows : List (List DV)) : oneP (acc rows) = true := by cases rows <;> rfl
theorem acc_below (n : Nat) (rows : List (List DV)) : (acc rows).isBelow n = true := by cases rows <;> rfl
theorem acc_strip (rows : List (List DV)) : (acc rows).strip = .d (.slice rows) := by cases rows <;> rfl
theorem acc_strip1 (rows : List (List DV)) : (acc rows).strip1 = .d (.slice rows) := by cases rows <;> rfl
theorem acc_keep0 (rows : List (List DV)) : (acc rows).keep0 = match rows with | [] => .e0 | _ => .d (.slice rows) := by cases rows <;> rfl
theorem st_undef  : PV.strip (.undef) = .undef := rfl
theorem st1_undef  : PV.strip1 (.undef) = .undef := rfl
theorem k0_undef  : PV.keep0 (.undef) = .undef := rfl
theorem st_any  : PV.strip (.any) = .any := rfl
theorem st1_any  : PV.strip1 (.any) = .any := rfl
theorem k0_any  : PV.keep0 (.any) = .any := rfl
theorem st_d (x : DV) : PV.strip (.d x) = .d x := rfl
theorem st1_d (x : DV) : PV.strip1 (.d x) = .d x := rfl
theorem sc_d (x : DV) : storedCells (.d x) = [.d x] := rfl
theorem on_d (x : DV) : oneP (.d x) = true := rfl
theorem k0_d (x : DV) : PV.keep0 (.d x) = .d x := rfl
theorem st_ptr (i o : Nat) : PV.strip (.ptr i o) = .ptr i o := rfl
theorem st1_ptr (i o : Nat) : PV.strip1 (.ptr i o) = .ptr i o := rfl
theorem sc_ptr (i o : Nat) : storedCells (.ptr i o) = [.ptr i o] := rfl
theorem on_ptr (i o : Nat) : oneP (.ptr i o) = true := rfl
theorem k0_ptr (i o : Nat) : PV.keep0 (.ptr i o) = .ptr i o := rfl
theorem st_nilptr  : PV.strip (.nilptr) = .nilptr := rfl
theorem st1_nilptr  : PV.strip1 (.nilptr) = .nilptr := rfl
theorem sc_nilptr  : storedCells (.nilptr) = [.nilptr] := rfl
theorem on_nilptr  : oneP (.nilptr) = true := rfl
theorem k0_nilptr  : PV.keep0 (.nilptr) = .nilptr := rfl
theorem st_ro (c : List DV) : PV.strip (.ro c) = .ro c := rfl
theorem st1_ro (c : List DV) : PV.strip1 (.ro c) = .ro c := rfl
theorem sc_ro (c : List DV) : storedCells (.ro c) = [.ro c] := rfl
theorem on_ro (c : List DV) : oneP (.ro c) = true := rfl
theorem k0_ro (c : List DV) : PV.keep0 (.ro c) = .ro c := rfl
theorem st_func (f : Fn) (a c : List PV) : PV.strip (.func f a c) = .func f a c := rfl
theorem st1_func (f : Fn) (a c : List PV) : PV.strip1 (.func f a c) = .func f a c := rfl
theorem sc_func (f : Fn) (a c : List PV) : storedCells (.func f a c) = [.func f a c] := rfl
theorem on_func (f : Fn) (a c : List PV) : oneP (.func f a c) = true := rfl
theorem k0_func (f : Fn) (a c : List PV) : PV.keep0 (.func f a c) = .func f a c := rfl
theorem st_nilFunc  : PV.strip (.nilFunc) = .nilFunc := rfl
theorem st1_nilFunc  : PV.strip1 (.nilFunc) = .nilFunc := rfl
theorem sc_nilFunc  : storedCells (.nilFunc) = [.nilFunc] := rfl
theorem on_nilFunc  : oneP (.nilFunc) = true := rfl
theorem k0_nilFunc  : PV.keep0 (.nilFunc) = .nilFunc := rfl
theorem st_tup (v : List PV) : PV.strip (.tup v) = .tup v := rfl
theorem st1_tup (v : List PV) : PV.strip1 (.tup v) = .tup v := rfl
theorem st_agg (c : List PV) : PV.strip (.agg c) = .agg (c.map PV.strip1) := rfl
theorem sc_agg (c : List PV) : storedCells (.agg c) = c.map PV.keep0 := rfl
end Go.Proofs

set_option linter.unusedVariables false
set_option linter.unusedSimpArgs false
set_option maxRecDepth 100000
set_option maxHeartbeats 4000000
namespace Go.Proofs
open Go.RowKit Go.Shelf Go.Pv

/-- frame.Right, of a frame that is right. -/
theorem c41 (e : Bool) (id : Int) (rm : Bool) (ln : Int) (rows : List (List DV)) (σ : Store) : callIt E1 (evI E1) 41 [frP e id rm ln rows] σ = some (.d (.bool (frRight e id rm ln rows)), σ) := by
  refine call_run (fn := Try.f41) 5 rfl rfl rfl Try.func41 rfl rfl ?_ rfl
  have s11 := bin_shr (P := Try.prog) (t := 3) (a := id) (b := 11) (by decide)
  have s29 := bin_shr (P := Try.prog) (t := 3) (a := id) (b := 29) (by decide)
  rw [show (2 : Int) ^ min (Int.toNat 11) 64 = 2 ^ 11 by decide] at s11
  rw [show (2 : Int) ^ min (Int.toNat 29) 64 = 2 ^ 29 by decide] at s29
  have key : ∀ (z : Int) (b1 b2 b3 b4 : Bool), evBin Try.prog .shr 3 (.d (.int .i64 id)) (.d (.int .i64 (if e then 29 else 11))) = some (.d (.int .i64 z)) → (z == 0) = b1 → decide (ln ≥ 0) = b2 → decide (ln ≤ 8) = b3 → ((rows.length : Int) == if rm then 0 else ln) = b4 →
      ((evCode E1 (evI E1) 5 (Try.f41.body.getD .skip) ⟨[frP e id rm ln rows] ++ List.replicate (Try.f41.ntmps - [frP e id rm ln rows].length) .undef, []⟩).bind fun r => if r.1 = .normal ∨ r.1 = .ret then resVal E1.P Try.f41 r.2 else none) = some (.d (.bool (b1 && b2 && b3 && b4))) := by
    intro z b1 b2 b3 b4 hz h1 h2 h3 h4
    unfold frP
    cases e <;> cases rm <;> simp only [if_true, if_false, Bool.false_eq_true] at hz h4 <;> cases b1 <;> first
      | (simp [Try.f41, ec_region, ec_seq, ec_cond, ec_skip, ec_exit, ec_ret, ec_block, seq_normal, seq_ret, seq_exit, if_t, if_f, regN, evOpsD, coreD, wantD, evCore, evPure, evCall, use, useL, useParts, opv, rd, putS, untake, moveIt, takes, appendFirst, appTmp, apartL, apartB, posOf, cellsOf, isBelowL, PV.isBelow, isDataL, PV.isData, loadAs, loadS, storeS, storeAs, storedCells, oneP, PV.strip, PV.strip1, PV.keep0, evFieldAddr, evField, partP, evSlice, bound, natOf, rowsOk, evIndexAddr, evIndex, evLen, evAppend, ownRows, elemsOf, acc, fillP, bin_add, bin_sub, bin_mul, bin_lss, bin_leq, bin_gtr, bin_geq, bin_eql, bin_neq, bin_and, bin_andNot, un_not, mm_max, mm_min, ofValue, ofCell, slotOf, resVal, resOne, resL, retOf, toDL, toD, sameStore, sameCells, PV.same, DV.same_self, sameRows_self, sameL_self, E1P, E1ap, Try.aggT3, Try.szT3, Try.aggT35, Try.szT35, Try.aggT4, Try.szT4, Try.aggT33, Try.szT33, Try.underlying35, Try.underlying33, hz, h1]; done)
      | (cases b2 <;> first
        | (simp [Try.f41, ec_region, ec_seq, ec_cond, ec_skip, ec_exit, ec_ret, ec_block, seq_normal, seq_ret, seq_exit, if_t, if_f, regN, evOpsD, coreD, wantD, evCore, evPure, evCall, use, useL, useParts, opv, rd, putS, untake, moveIt, takes, appendFirst, appTmp, apartL, apartB, posOf, cellsOf, isBelowL, PV.isBelow, isDataL, PV.isData, loadAs, loadS, storeS, storeAs, storedCells, oneP, PV.strip, PV.strip1, PV.keep0, evFieldAddr, evField, partP, evSlice, bound, natOf, rowsOk, evIndexAddr, evIndex, evLen, evAppend, ownRows, elemsOf, acc, fillP, bin_add, bin_sub, bin_mul, bin_lss, bin_leq, bin_gtr, bin_geq, bin_eql, bin_neq, bin_and, bin_andNot, un_not, mm_max, mm_min, ofValue, ofCell, slotOf, resVal, resOne, resL, retOf, toDL, toD, sameStore, sameCells, PV.same, DV.same_self, sameRows_self, sameL_self, E1P, E1ap, Try.aggT3, Try.szT3, Try.aggT35, Try.szT35, Try.aggT4, Try.szT4, Try.aggT33, Try.szT33, Try.underlying35, Try.underlying33, hz, h1, h2]; done)
        | (cases b3 <;> first
          | (simp [Try.f41, ec_region, ec_seq, ec_cond, ec_skip, ec_exit, ec_ret, ec_block, seq_normal, seq_ret, seq_exit, if_t, if_f, regN, evOpsD, coreD, wantD, evCore, evPure, evCall, use, useL, useParts, opv, rd, putS, untake, moveIt, takes, appendFirst, appTmp, apartL, apartB, posOf, cellsOf, isBelowL, PV.isBelow, isDataL, PV.isData, loadAs, loadS, storeS, storeAs, storedCells, oneP, PV.strip, PV.strip1, PV.keep0, evFieldAddr, evField, partP, evSlice, bound, natOf, rowsOk, evIndexAddr, evIndex, evLen, evAppend, ownRows, elemsOf, acc, fillP, bin_add, bin_sub, bin_mul, bin_lss, bin_leq, bin_gtr, bin_geq, bin_eql, bin_neq, bin_and, bin_andNot, un_not, mm_max, mm_min, ofValue, ofCell, slotOf, resVal, resOne, resL, retOf, toDL, toD, sameStore, sameCells, PV.same, DV.same_self, sameRows_self, sameL_self, E1P, E1ap, Try.aggT3, Try.szT3, Try.aggT35, Try.szT35, Try.aggT4, Try.szT4, Try.aggT33, Try.szT33, Try.underlying35, Try.underlying33, hz, h1, h2, h3]; done)
          | (simp [Try.f41, ec_region, ec_seq, ec_cond, ec_skip, ec_exit, ec_ret, ec_block, seq_normal, seq_ret, seq_exit, if_t, if_f, regN, evOpsD, coreD, wantD, evCore, evPure, evCall, use, useL, useParts, opv, rd, putS, untake, moveIt, takes, appendFirst, appTmp, apartL, apartB, posOf, cellsOf, isBelowL, PV.isBelow, isDataL, PV.isData, loadAs, loadS, storeS, storeAs, storedCells, oneP, PV.strip, PV.strip1, PV.keep0, evFieldAddr, evField, partP, evSlice, bound, natOf, rowsOk, evIndexAddr, evIndex, evLen, evAppend, ownRows, elemsOf, acc, fillP, bin_add, bin_sub, bin_mul, bin_lss, bin_leq, bin_gtr, bin_geq, bin_eql, bin_neq, bin_and, bin_andNot, un_not, mm_max, mm_min, ofValue, ofCell, slotOf, resVal, resOne, resL, retOf, toDL, toD, sameStore, sameCells, PV.same, DV.same_self, sameRows_self, sameL_self, E1P, E1ap, Try.aggT3, Try.szT3, Try.aggT35, Try.szT35, Try.aggT4, Try.szT4, Try.aggT33, Try.szT33, Try.underlying35, Try.underlying33, hz, h1, h2, h3, h4]; done)))
  have := key (id.fdiv (2 ^ (if e then 29 else 11))) _ _ _ _ (by cases e <;> simpa using (by assumption)) rfl rfl rfl rfl
  exact this
end Go.Proofs

set_option linter.unusedVariables false
set_option linter.unusedSimpArgs false
set_option maxRecDepth 100000
set_option maxHeartbeats 4000000
namespace Go.Proofs
open Go.RowKit Go.Shelf Go.Pv

theorem c90 (v : Int) (m : Nat) (hm : m ≤ 32) (hv : 0 ≤ v ∧ v < 2 ^ m) (σ : Store) : callIt E1 (evI E1) 90 [.d (.int .i64 v), .d (.int .i64 m)] σ = some (.tup [.d (.slice (bitRows v m)), .d (.bool true)], σ) := by
  have h1 : (0 : Int) ≤ m ∧ (m : Int) ≤ 32 := by omega
  simp [callIt, E1ov, ovAll, isDataL, PV.isData, ovPut, h1, hv]

theorem Try.appT41 : appT Try.prog 41 = some (1, 8) := by kernel_rfl
theorem Try.aggT41 : aggT Try.prog 41 = some false := by kernel_rfl
theorem Try.szT41 : szT Try.prog 41 = some 1 := by kernel_rfl

theorem c87 (b0 b2 : List PV) (rows : List (List DV)) (v : Int) (m : Nat) (hm : m ≤ 32) (hv : 0 ≤ v ∧ v < 2 ^ m) (hr : rowsOk 1 rows = true) (hl : rows.length ≤ 1000) :
    evI E1 87 [.ptr 1 0, .d (.int .i64 v), .d (.int .i64 m)] [b0, [acc rows], b2] = some (.tup [], [b0, [acc (rows ++ bitRows v m)], b2]) := by
  refine evI_run (fn := Try.f87) 5 rfl Try.func87 rfl ?_
  have hb : rowsOk 1 (bitRows v m) = true := by
    unfold rowsOk bitRows
    rw [List.all_eq_true]
    intro r hr
    simp at hr
    obtain ⟨k, _, rfl⟩ := hr
    rfl
  have hbl : (bitRows v m).length = m := by simp [bitRows]
  have happ : evAppend Try.prog 41 (acc rows) (.d (.slice (bitRows v m))) = some (acc (rows ++ bitRows v m)) := by
    have : (rows.length + m) * 8 ≤ roomB := by simp only [roomB]; omega
    simp [evAppend, Try.appT41, acc_own, elemsOf, hr, hb, hbl, this]
  have h90 := c90 v m hm hv
  simp [Try.f87, ec_region, ec_seq, ec_cond, ec_skip, ec_exit, ec_ret, ec_block, seq_normal, seq_ret, seq_exit, if_t, if_f, regN, evOpsD, coreD, wantD, evCore, evPure, evCall, use, useL, useParts, opv, rd, putS, untake, moveIt, takes, appendFirst, appTmp, apartL, apartB, posOf, cellsOf, isBelowL, PV.isBelow, isDataL, PV.isData, loadAs, loadS, storeS, storeAs, evFieldAddr, evField, partP, evSlice, bound, natOf, rowsOk, evIndexAddr, evIndex, evLen, fillP, bin_add, bin_sub, bin_mul, bin_lss, bin_leq, bin_gtr, bin_geq, bin_eql, bin_neq, bin_and, bin_andNot, un_not, mm_max, mm_min, ofValue, ofCell, slotOf, resVal, resOne, resL, retOf, toDL, toD, sameStore, sameCells, PV.same, DV.same_self, sameRows_self, sameL_self, st_undef, st1_undef, k0_undef, st_any, st1_any, k0_any, st_d, st1_d, sc_d, on_d, k0_d, st_ptr, st1_ptr, sc_ptr, on_ptr, k0_ptr, st_nilptr, st1_nilptr, sc_nilptr, on_nilptr, k0_nilptr, st_ro, st1_ro, sc_ro, on_ro, k0_ro, st_func, st1_func, sc_func, on_func, k0_func, st_nilFunc, st1_nilFunc, sc_nilFunc, on_nilFunc, k0_nilFunc, st_tup, st1_tup, st_agg, sc_agg, E1P, E1ap, Try.aggT3, Try.szT3, Try.aggT41, Try.szT41, Try.underlying101, h90, happ, acc_cells, acc_one, acc_below, acc_strip, acc_strip1]
theorem E1p87 : E1.pure 87 = false := rfl
theorem E1p88 : E1.pure 88 = false := rfl
theorem E1p80 : E1.pure 80 = false := rfl

theorem call_boxes {f : FuncId} {args : List PV} {σ σ' σ'' : Store} (ho : E1.ov f = none) (hp : E1.pure f = false) (hr : E1.ro f = false) (h : evI E1 f args σ = some (.tup [], σ')) (hl : σ'.take σ.length = σ'') : callIt E1 (evI E1) f args σ = some (.tup [], σ'') := by
  subst hl
  simp [callIt, ho, hp, hr, h, PV.isData, isDataL, st_tup]

theorem d87 (b0 b2 : List PV) (rows : List (List DV)) (v : Int) (m : Nat) (hm : m ≤ 32) (hv : 0 ≤ v ∧ v < 2 ^ m) (hr : rowsOk 1 rows = true) (hl : rows.length ≤ 1000) :
    callIt E1 (evI E1) 87 [.ptr 1 0, .d (.int .i64 v), .d (.int .i64 m)] [b0, [acc rows], b2] = some (.tup [], [b0, [acc (rows ++ bitRows v m)], b2]) :=
  call_boxes rfl rfl rfl (c87 b0 b2 rows v m hm hv hr hl) rfl

def bitOf (b : Bool) : Int := if b then 1 else 0

theorem c88 (b0 b2 : List PV) (rows : List (List DV)) (is : Bool) (hr : rowsOk 1 rows = true) (hl : rows.length ≤ 1000) :
    evI E1 88 [.ptr 1 0, .d (.bool is)] [b0, [acc rows], b2] = some (.tup [], [b0, [acc (rows ++ bitRows (bitOf is) 1)], b2]) := by
  refine evI_run (fn := Try.f88) 5 rfl Try.func88 rfl ?_
  have h87 := d87 b0 b2 rows (bitOf is) 1 (by decide) (by cases is <;> decide) hr hl
  cases is
  · simp only [bitOf, Bool.false_eq_true, if_false] at h87 ⊢
    simp at h87
    simp [Try.f88, ec_region, ec_seq, ec_cond, ec_skip, ec_exit, ec_ret, ec_block, seq_normal, seq_ret, seq_exit, if_t, if_f, regN, evOpsD, coreD, wantD, evCore, evPure, evCall, use, useL, useParts, opv, rd, putS, untake, moveIt, takes, appendFirst, appTmp, apartL, apartB, posOf, cellsOf, isBelowL, PV.isBelow, isDataL, PV.isData, loadAs, loadS, storeS, storeAs, evFieldAddr, evField, partP, evSlice, bound, natOf, rowsOk, evIndexAddr, evIndex, evLen, fillP, bin_add, bin_sub, bin_mul, bin_lss, bin_leq, bin_gtr, bin_geq, bin_eql, bin_neq, bin_and, bin_andNot, un_not, mm_max, mm_min, ofValue, ofCell, slotOf, resVal, resOne, resL, retOf, toDL, toD, sameStore, sameCells, PV.same, DV.same_self, sameRows_self, sameL_self, st_undef, st1_undef, k0_undef, st_any, st1_any, k0_any, st_d, st1_d, sc_d, on_d, k0_d, st_ptr, st1_ptr, sc_ptr, on_ptr, k0_ptr, st_nilptr, st1_nilptr, sc_nilptr, on_nilptr, k0_nilptr, st_ro, st1_ro, sc_ro, on_ro, k0_ro, st_func, st1_func, sc_func, on_func, k0_func, st_nilFunc, st1_nilFunc, sc_nilFunc, on_nilFunc, k0_nilFunc, st_tup, st1_tup, st_agg, sc_agg, E1P, E1ap, h87]
  · simp only [bitOf, if_true] at h87 ⊢
    simp at h87
    simp [Try.f88, ec_region, ec_seq, ec_cond, ec_skip, ec_exit, ec_ret, ec_block, seq_normal, seq_ret, seq_exit, if_t, if_f, regN, evOpsD, coreD, wantD, evCore, evPure, evCall, use, useL, useParts, opv, rd, putS, untake, moveIt, takes, appendFirst, appTmp, apartL, apartB, posOf, cellsOf, isBelowL, PV.isBelow, isDataL, PV.isData, loadAs, loadS, storeS, storeAs, evFieldAddr, evField, partP, evSlice, bound, natOf, rowsOk, evIndexAddr, evIndex, evLen, fillP, bin_add, bin_sub, bin_mul, bin_lss, bin_leq, bin_gtr, bin_geq, bin_eql, bin_neq, bin_and, bin_andNot, un_not, mm_max, mm_min, ofValue, ofCell, slotOf, resVal, resOne, resL, retOf, toDL, toD, sameStore, sameCells, PV.same, DV.same_self, sameRows_self, sameL_self, st_undef, st1_undef, k0_undef, st_any, st1_any, k0_any, st_d, st1_d, sc_d, on_d, k0_d, st_ptr, st1_ptr, sc_ptr, on_ptr, k0_ptr, st_nilptr, st1_nilptr, sc_nilptr, on_nilptr, k0_nilptr, st_ro, st1_ro, sc_ro, on_ro, k0_ro, st_func, st1_func, sc_func, on_func, k0_func, st_nilFunc, st1_nilFunc, sc_nilFunc, on_nilFunc, k0_nilFunc, st_tup, st1_tup, st_agg, sc_agg, E1P, E1ap, h87]

theorem d88 (b0 b2 : List PV) (rows : List (List DV)) (is : Bool) (hr : rowsOk 1 rows = true) (hl : rows.length ≤ 1000) :
    callIt E1 (evI E1) 88 [.ptr 1 0, .d (.bool is)] [b0, [acc rows], b2] = some (.tup [], [b0, [acc (rows ++ bitRows (bitOf is) 1)], b2]) :=
  call_boxes rfl rfl rfl (c88 b0 b2 rows is hr hl) rfl

end Go.Proofs

set_option linter.unusedVariables false
set_option linter.unusedSimpArgs false
set_option maxRecDepth 100000
set_option maxHeartbeats 4000000
namespace Go.Proofs
open Go.RowKit Go.Shelf Go.Pv

theorem bitRows_ok (v : Int) (m : Nat) : rowsOk 1 (bitRows v m) = true := by
  unfold rowsOk bitRows
  rw [List.all_eq_true]
  intro r hr
  simp at hr
  obtain ⟨k, _, rfl⟩ := hr
  rfl
theorem bitRows_len (v : Int) (m : Nat) : (bitRows v m).length = m := by simp [bitRows]

def rankStd (id : Int) (rm : Bool) : List (List DV) := bitRows id 11 ++ bitRows (bitOf rm) 1 ++ bitRows 0 1

theorem c80_std (b0 : List PV) (id : Int) (rm : Bool) (ln : Int) (rows : List (List DV)) (hid : 0 ≤ id ∧ id < 2 ^ 11) :
    ∃ b2, evI E1 80 [.ptr 1 0, frP false id rm ln rows] [b0, [.e0]] = some (.tup [], [b0, [acc (rankStd id rm)], b2]) := by
  refine ⟨_, evI_run (σ' := [b0, [acc (rankStd id rm)], [.d (.bool false), .d (.int .i64 id), .d (.bool rm), .d (.int .i64 ln), .d (.slice rows)]]) (fn := Try.f80) 5 rfl Try.func80 rfl ?_⟩
  have h1 : callIt E1 (evI E1) 87 [.ptr 1 0, .d (.int .i64 id), .d (.int .i64 (11 : Nat))] [b0, [.e0], [.d (.bool false), .d (.int .i64 id), .d (.bool rm), .d (.int .i64 ln), .d (.slice rows)]] =
      some (.tup [], [b0, [acc (bitRows id 11)], [.d (.bool false), .d (.int .i64 id), .d (.bool rm), .d (.int .i64 ln), .d (.slice rows)]]) := d87 _ _ [] id 11 (by decide) hid rfl (by decide)
  have h2 := d88 b0 [.d (.bool false), .d (.int .i64 id), .d (.bool rm), .d (.int .i64 ln), .d (.slice rows)] (bitRows id 11) rm (bitRows_ok _ _) (by rw [bitRows_len]; decide)
  have h3 := d87 b0 [.d (.bool false), .d (.int .i64 id), .d (.bool rm), .d (.int .i64 ln), .d (.slice rows)] (bitRows id 11 ++ bitRows (bitOf rm) 1) 0 1 (by decide) (by decide) (rowsOk_append (bitRows_ok _ _) (bitRows_ok _ _)) (by simp [bitRows_len])
  simp at h1 h3
  unfold frP rankStd
  simp [Try.f80, ec_region, ec_seq, ec_cond, ec_skip, ec_exit, ec_ret, ec_block, seq_normal, seq_ret, seq_exit, if_t, if_f, regN, evOpsD, coreD, wantD, evCore, evPure, evCall, use, useL, useParts, opv, rd, putS, untake, moveIt, takes, appendFirst, appTmp, apartL, apartB, posOf, cellsOf, isBelowL, PV.isBelow, isDataL, PV.isData, loadAs, loadS, storeS, storeAs, evFieldAddr, evField, partP, evSlice, bound, natOf, rowsOk, evIndexAddr, evIndex, evLen, fillP, bin_add, bin_sub, bin_mul, bin_lss, bin_leq, bin_gtr, bin_geq, bin_eql, bin_neq, bin_and, bin_andNot, un_not, mm_max, mm_min, ofValue, ofCell, slotOf, resVal, resOne, resL, retOf, toDL, toD, sameStore, sameCells, PV.same, DV.same_self, sameRows_self, sameL_self, st_undef, st1_undef, k0_undef, st_any, st1_any, k0_any, st_d, st1_d, sc_d, on_d, k0_d, st_ptr, st1_ptr, sc_ptr, on_ptr, k0_ptr, st_nilptr, st1_nilptr, sc_nilptr, on_nilptr, k0_nilptr, st_ro, st1_ro, sc_ro, on_ro, k0_ro, st_func, st1_func, sc_func, on_func, k0_func, st_nilFunc, st1_nilFunc, sc_nilFunc, on_nilFunc, k0_nilFunc, st_tup, st1_tup, st_agg, sc_agg, E1P, E1ap, Try.aggT35, Try.szT35, Try.aggT3, Try.szT3, Try.aggT4, Try.szT4, Try.underlying35, h1, h2, h3]
def rankExt (id : Int) (rm : Bool) : List (List DV) := bitRows (id / 2 ^ 18) 11 ++ bitRows 3 2 ++ bitRows (id % 2 ^ 18) 18 ++ bitRows (bitOf rm) 1

theorem bin_shr_u {P : Program} {t : TypeId} {k : IntKind} {a b : Int} (hb : 0 ≤ b) : evBin P .shr t (.d (.int .i64 a)) (.d (.int k b)) = some (.d (.int .i64 (a.fdiv (2 ^ (min b.toNat 64))))) := by
  have : ¬ b < 0 := by omega
  show (pureRun P (if b < 0 then _ else _)).bind ofScalar = _
  rw [if_neg this]
  rfl

theorem and18 (x : Int) (hx : 0 ≤ x ∧ x < 2 ^ 29) : IntKind.i64.wrap (BitVec.ofInt 64 x &&& BitVec.ofInt 64 262143).toNat = x % 2 ^ 18 := by
  have h1 : (BitVec.ofInt 64 262143).toNat = 2 ^ 18 - 1 := by decide
  have key : (BitVec.ofInt 64 x &&& BitVec.ofInt 64 262143).toNat = (x % ((2 ^ 64 : Nat) : Int)).toNat % 2 ^ 18 := by
    rw [BitVec.toNat_and, BitVec.toNat_ofInt, h1, Nat.and_two_pow_sub_one_eq_mod]
  rw [key, IntKind.wrap_i64]
  omega

theorem c80_ext (b0 : List PV) (id : Int) (rm : Bool) (ln : Int) (rows : List (List DV)) (hid : 0 ≤ id ∧ id < 2 ^ 29) :
    ∃ b2, evI E1 80 [.ptr 1 0, frP true id rm ln rows] [b0, [.e0]] = some (.tup [], [b0, [acc (rankExt id rm)], b2]) := by
  refine ⟨_, evI_run (σ' := [b0, [acc (rankExt id rm)], [.d (.bool true), .d (.int .i64 id), .d (.bool rm), .d (.int .i64 ln), .d (.slice rows)]]) (fn := Try.f80) 5 rfl Try.func80 rfl ?_⟩
  obtain ⟨B, hB⟩ : ∃ B : List PV, B = [.d (.bool true), .d (.int .i64 id), .d (.bool rm), .d (.int .i64 ln), .d (.slice rows)] := ⟨_, rfl⟩
  have h1 : callIt E1 (evI E1) 87 [.ptr 1 0, .d (.int .i64 (id / 2 ^ 18)), .d (.int .i64 (11 : Nat))] [b0, [.e0], B] = some (.tup [], [b0, [acc (bitRows (id / 2 ^ 18) 11)], B]) := d87 _ _ [] (id / 2 ^ 18) 11 (by decide) (by omega) rfl (by decide)
  have h2 := d87 b0 B (bitRows (id / 2 ^ 18) 11) 3 2 (by decide) (by decide) (bitRows_ok _ _) (by simp [bitRows_len])
  have h3 := d87 b0 B (bitRows (id / 2 ^ 18) 11 ++ bitRows 3 2) (id % 2 ^ 18) 18 (by decide) (by omega) (rowsOk_append (bitRows_ok _ _) (bitRows_ok _ _)) (by simp [bitRows_len])
  have h4 := d88 b0 B (bitRows (id / 2 ^ 18) 11 ++ bitRows 3 2 ++ bitRows (id % 2 ^ 18) 18) rm (rowsOk_append (rowsOk_append (bitRows_ok _ _) (bitRows_ok _ _)) (bitRows_ok _ _)) (by simp [bitRows_len])
  have s18 := bin_shr_u (P := Try.prog) (t := 3) (k := .u64) (a := id) (b := 18) (by decide)
  rw [show (2 : Int) ^ min (Int.toNat 18) 64 = 2 ^ 18 by decide, Int.fdiv_eq_ediv_of_nonneg _ (by decide)] at s18
  have a18 := and18 id hid
  subst hB
  simp at h1 h2 h3 h4 s18 a18
  unfold frP rankExt
  simp [Try.f80, ec_region, ec_seq, ec_cond, ec_skip, ec_exit, ec_ret, ec_block, seq_normal, seq_ret, seq_exit, if_t, if_f, regN, evOpsD, coreD, wantD, evCore, evPure, evCall, use, useL, useParts, opv, rd, putS, untake, moveIt, takes, appendFirst, appTmp, apartL, apartB, posOf, cellsOf, isBelowL, PV.isBelow, isDataL, PV.isData, loadAs, loadS, storeS, storeAs, evFieldAddr, evField, partP, evSlice, bound, natOf, rowsOk, evIndexAddr, evIndex, evLen, fillP, bin_add, bin_sub, bin_mul, bin_lss, bin_leq, bin_gtr, bin_geq, bin_eql, bin_neq, bin_and, bin_andNot, un_not, mm_max, mm_min, ofValue, ofCell, slotOf, resVal, resOne, resL, retOf, toDL, toD, sameStore, sameCells, PV.same, DV.same_self, sameRows_self, sameL_self, st_undef, st1_undef, k0_undef, st_any, st1_any, k0_any, st_d, st1_d, sc_d, on_d, k0_d, st_ptr, st1_ptr, sc_ptr, on_ptr, k0_ptr, st_nilptr, st1_nilptr, sc_nilptr, on_nilptr, k0_nilptr, st_ro, st1_ro, sc_ro, on_ro, k0_ro, st_func, st1_func, sc_func, on_func, k0_func, st_nilFunc, st1_nilFunc, sc_nilFunc, on_nilFunc, k0_nilFunc, st_tup, st1_tup, st_agg, sc_agg, E1P, E1ap, Try.aggT35, Try.szT35, Try.aggT3, Try.szT3, Try.aggT4, Try.szT4, Try.underlying35, h1, h2, h3, h4, s18, a18]

def rankOf (e : Bool) (id : Int) (rm : Bool) : List (List DV) := if e then rankExt id rm else rankStd id rm

theorem d80 (b0 : List PV) (e : Bool) (id : Int) (rm : Bool) (ln : Int) (rows : List (List DV)) (hid : 0 ≤ id ∧ id < 2 ^ (if e then 29 else 11)) :
    callIt E1 (evI E1) 80 [.ptr 1 0, frP e id rm ln rows] [b0, [.e0]] = some (.tup [], [b0, [acc (rankOf e id rm)]]) := by
  cases e
  · obtain ⟨b2, h⟩ := c80_std b0 id rm ln rows hid
    exact call_boxes rfl rfl rfl h rfl
  · obtain ⟨b2, h⟩ := c80_ext b0 id rm ln rows hid
    exact call_boxes rfl rfl rfl h rfl

end Go.Proofs

set_option linter.unusedVariables false
set_option linter.unusedSimpArgs false
set_option maxRecDepth 100000
set_option maxHeartbeats 4000000
namespace Go.Proofs
open Go.RowKit Go.Shelf Go.Pv

theorem Try.zeroT101 : zeroT Try.prog 101 = some (.agg [.e0]) := by kernel_rfl
theorem acc_data (rows : List (List DV)) : (acc rows).isData = true := by cases rows <;> rfl

theorem c64 (e : Bool) (id : Int) (rm : Bool) (ln : Int) (rows : List (List DV)) (hid : 0 ≤ id ∧ id < 2 ^ (if e then 29 else 11)) (σ : Store) :
    callIt E1 (evI E1) 64 [frP e id rm ln rows] σ = some (.d (.slice (rankOf e id rm)), σ) := by
  refine call_run (fn := Try.f64) 5 rfl rfl rfl Try.func64 rfl rfl ?_ rfl
  have h80 := d80 [.d (.bool e), .d (.int .i64 id), .d (.bool rm), .d (.int .i64 ln), .d (.slice rows)] e id rm ln rows hid
  unfold frP at h80 ⊢
  simp [Try.f64, ec_region, ec_seq, ec_cond, ec_skip, ec_exit, ec_ret, ec_block, seq_normal, seq_ret, seq_exit, if_t, if_f, regN, evOpsD, coreD, wantD, evCore, evPure, evCall, use, useL, useParts, opv, rd, putS, untake, moveIt, takes, appendFirst, appTmp, apartL, apartB, posOf, cellsOf, isBelowL, PV.isBelow, isDataL, PV.isData, loadAs, loadS, storeS, storeAs, evFieldAddr, evField, partP, evSlice, bound, natOf, rowsOk, evIndexAddr, evIndex, evLen, fillP, bin_add, bin_sub, bin_mul, bin_lss, bin_leq, bin_gtr, bin_geq, bin_eql, bin_neq, bin_and, bin_andNot, un_not, mm_max, mm_min, ofValue, ofCell, slotOf, resVal, resOne, resL, retOf, toDL, toD, sameStore, sameCells, PV.same, DV.same_self, sameRows_self, sameL_self, st_undef, st1_undef, k0_undef, st_any, st1_any, k0_any, st_d, st1_d, sc_d, on_d, k0_d, st_ptr, st1_ptr, sc_ptr, on_ptr, k0_ptr, st_nilptr, st1_nilptr, sc_nilptr, on_nilptr, k0_nilptr, st_ro, st1_ro, sc_ro, on_ro, k0_ro, st_func, st1_func, sc_func, on_func, k0_func, st_nilFunc, st1_nilFunc, sc_nilFunc, on_nilFunc, k0_nilFunc, st_tup, st1_tup, st_agg, sc_agg, E1P, E1ap, Try.zeroT101, Try.aggT35, Try.szT35, Try.aggT41, Try.szT41, Try.underlying101, h80, acc_cells, acc_one, acc_below, acc_strip, acc_strip1]
/-- A node. -/
def ndP (q : List (List DV)) (fs : List (List DV)) (t r s z : Int) (g : List (List DV)) : PV := .agg [.d (.slice q), .d (.slice fs), .d (.int .i64 t), .d (.int .i64 r), .d (.int .i64 s), .d (.int .i64 z), .d (.slice g)]

theorem Try.aggT28 : aggT Try.prog 28 = some true := by kernel_rfl
theorem Try.szT28 : szT Try.prog 28 = some 7 := by kernel_rfl
theorem Try.appT22 : appT Try.prog 22 = some (5, 56) := by kernel_rfl
theorem Try.aggT22 : aggT Try.prog 22 = some false := by kernel_rfl
theorem Try.szT22 : szT Try.prog 22 = some 1 := by kernel_rfl

/-- node.off. -/
theorem c42 (q fs : List (List DV)) (t r s z : Int) (g : List (List DV)) (σ : Store) : callIt E1 (evI E1) 42 [ndP q fs t r s z g] σ = some (.d (.bool (s == 3)), σ) := by
  refine call_run (fn := Try.f42) 5 rfl rfl rfl Try.func42 rfl rfl ?_ rfl
  unfold ndP
  simp [Try.f42, ec_region, ec_seq, ec_cond, ec_skip, ec_exit, ec_ret, ec_block, seq_normal, seq_ret, seq_exit, if_t, if_f, regN, evOpsD, coreD, wantD, evCore, evPure, evCall, use, useL, useParts, opv, rd, putS, untake, moveIt, takes, appendFirst, appTmp, apartL, apartB, posOf, cellsOf, isBelowL, PV.isBelow, isDataL, PV.isData, loadAs, loadS, storeS, storeAs, evFieldAddr, evField, partP, evSlice, bound, natOf, rowsOk, evIndexAddr, evIndex, evLen, fillP, bin_add, bin_sub, bin_mul, bin_lss, bin_leq, bin_gtr, bin_geq, bin_eql, bin_neq, bin_and, bin_andNot, un_not, mm_max, mm_min, ofValue, ofCell, slotOf, resVal, resOne, resL, retOf, toDL, toD, sameStore, sameCells, PV.same, DV.same_self, sameRows_self, sameL_self, st_undef, st1_undef, k0_undef, st_any, st1_any, k0_any, st_d, st1_d, sc_d, on_d, k0_d, st_ptr, st1_ptr, sc_ptr, on_ptr, k0_ptr, st_nilptr, st1_nilptr, sc_nilptr, on_nilptr, k0_nilptr, st_ro, st1_ro, sc_ro, on_ro, k0_ro, st_func, st1_func, sc_func, on_func, k0_func, st_nilFunc, st1_nilFunc, sc_nilFunc, on_nilFunc, k0_nilFunc, st_tup, st1_tup, st_agg, sc_agg, E1P, E1ap, Try.aggT28, Try.szT28, Try.aggT26, Try.szT26, Try.aggT3, Try.szT3, Try.underlying28, Try.underlying26]

theorem c61 (rows : List (List DV)) (h : rowsOk 5 rows = true) (hb : rows.length * 56 ≤ roomB) (σ : Store) : callIt E1 (evI E1) 61 [.d (.slice rows)] σ = some (acc rows, σ) := by
  simp [callIt, E1ov, ovAll, isDataL, PV.isData, ovClone, h, hb, acc_data]

end Go.Proofs

set_option linter.unusedVariables false
set_option linter.unusedSimpArgs false
set_option maxRecDepth 100000
set_option maxHeartbeats 4000000
namespace Go.Proofs
open Go.RowKit Go.Shelf Go.Pv

theorem app22 (rows xs : List (List DV)) (h : rowsOk 5 rows = true) (h' : rowsOk 5 xs = true) (hb : (rows.length + xs.length) * 56 ≤ roomB) : evAppend Try.prog 22 (acc rows) (.d (.slice xs)) = some (acc (rows ++ xs)) := by
  simp [evAppend, Try.appT22, acc_own, elemsOf, h, h', hb]

theorem Try.isz35 : ((Try.prog.info? 35).bind (·.zero)).isSome = true := by kernel_rfl

theorem c43 (rows : List (List DV)) (e : Bool) (id : Int) (rm : Bool) (ln : Int) (data : List (List DV)) (h : rowsOk 5 rows = true) (hb : (rows.length + 1) * 56 ≤ roomB) (σ : Store) :
    callIt E1 (evI E1) 43 [.d (.slice rows), frP e id rm ln data] σ = some (acc (rows ++ [frD e id rm ln data]), σ) := by
  refine call_run (fn := Try.f43) 5 rfl rfl rfl Try.func43 rfl rfl ?_ (acc_data _)
  have h61 := c61 rows h (by omega)
  have ha := app22 rows [frD e id rm ln data] h rfl (by simpa using hb)
  have hre : retOf (acc (rows ++ [frD e id rm ln data])) = acc (rows ++ [frD e id rm ln data]) := by cases rows <;> rfl
  unfold frD at ha hre ⊢
  unfold frP
  simp [Try.f43, ec_region, ec_seq, ec_cond, ec_skip, ec_exit, ec_ret, ec_block, seq_normal, seq_ret, seq_exit, if_t, if_f, regN, evOpsD, coreD, wantD, evCore, evPure, evCall, use, useL, useParts, opv, rd, putS, untake, moveIt, takes, appendFirst, appTmp, apartL, apartB, posOf, cellsOf, isBelowL, PV.isBelow, isDataL, PV.isData, loadAs, loadS, storeS, storeAs, evFieldAddr, evField, partP, evSlice, bound, natOf, rowsOk, evIndexAddr, evIndex, evLen, fillP, bin_add, bin_sub, bin_mul, bin_lss, bin_leq, bin_gtr, bin_geq, bin_eql, bin_neq, bin_and, bin_andNot, un_not, mm_max, mm_min, ofValue, ofCell, slotOf, resVal, resOne, resL, toDL, toD, sameStore, sameCells, PV.same, DV.same_self, sameRows_self, sameL_self, st_undef, st1_undef, k0_undef, st_any, st1_any, k0_any, st_d, st1_d, sc_d, on_d, k0_d, st_ptr, st1_ptr, sc_ptr, on_ptr, k0_ptr, st_nilptr, st1_nilptr, sc_nilptr, on_nilptr, k0_nilptr, st_ro, st1_ro, sc_ro, on_ro, k0_ro, st_func, st1_func, sc_func, on_func, k0_func, st_nilFunc, st1_nilFunc, sc_nilFunc, on_nilFunc, k0_nilFunc, st_tup, st1_tup, st_agg, sc_agg, E1P, E1ap, Try.aggT35, Try.szT35, Try.aggT22, Try.szT22, Try.underlying22, Try.isz35, rowsFrom, h61, ha, acc_cells, acc_one, acc_below, acc_strip, acc_strip1, hre]
end Go.Proofs

set_option linter.unusedVariables false
set_option linter.unusedSimpArgs false
set_option maxRecDepth 100000
set_option maxHeartbeats 4000000
namespace Go.Proofs
open Go.RowKit Go.Shelf Go.Pv

theorem Try.zeroT28 : zeroT Try.prog 28 = some (.agg [.e0, .e0, .d (.int .i64 0), .d (.int .i64 0), .d (.int .i64 0), .d (.int .i64 0), .e0]) := by kernel_rfl

theorem c14_bad (q fs : List (List DV)) (t r s z : Int) (g : List (List DV)) (e : Bool) (id : Int) (rm : Bool) (ln : Int) (data : List (List DV)) (σ : Store) (hf : frRight e id rm ln data = false) :
    callIt E1 (evI E1) 14 [ndP q fs t r s z g, frP e id rm ln data] σ = some (.tup [ndP q fs t r s z g, .d (.int .i64 90)], σ) := by
  refine call_run (fn := Try.f14) 5 rfl rfl rfl Try.func14 rfl rfl ?_ rfl
  have h41 := c41 e id rm ln data
  rw [hf] at h41
  unfold frP at h41 ⊢
  unfold ndP
  simp [Try.f14, ec_region, ec_seq, ec_cond, ec_skip, ec_exit, ec_ret, ec_block, seq_normal, seq_ret, seq_exit, if_t, if_f, regN, evOpsD, coreD, wantD, evCore, evPure, evCall, use, useL, useParts, opv, rd, putS, untake, moveIt, takes, appendFirst, appTmp, apartL, apartB, posOf, cellsOf, isBelowL, PV.isBelow, isDataL, PV.isData, loadAs, loadS, storeS, storeAs, evFieldAddr, evField, partP, evSlice, bound, natOf, rowsOk, evIndexAddr, evIndex, evLen, fillP, bin_add, bin_sub, bin_mul, bin_lss, bin_leq, bin_gtr, bin_geq, bin_eql, bin_neq, bin_and, bin_andNot, un_not, mm_max, mm_min, ofValue, ofCell, slotOf, resVal, resOne, resL, retOf, toDL, toD, sameStore, sameCells, PV.same, DV.same_self, sameRows_self, sameL_self, st_undef, st1_undef, k0_undef, st_any, st1_any, k0_any, st_d, st1_d, sc_d, on_d, k0_d, st_ptr, st1_ptr, sc_ptr, on_ptr, k0_ptr, st_nilptr, st1_nilptr, sc_nilptr, on_nilptr, k0_nilptr, st_ro, st1_ro, sc_ro, on_ro, k0_ro, st_func, st1_func, sc_func, on_func, k0_func, st_nilFunc, st1_nilFunc, sc_nilFunc, on_nilFunc, k0_nilFunc, st_tup, st1_tup, st_agg, sc_agg, E1P, E1ap, Try.aggT35, Try.szT35, Try.aggT28, Try.szT28, Try.zeroT28, Try.underlying28, h41]

theorem c14_off (q fs : List (List DV)) (t r s z : Int) (g : List (List DV)) (e : Bool) (id : Int) (rm : Bool) (ln : Int) (data : List (List DV)) (σ : Store) (hf : frRight e id rm ln data = true) (hs : s = 3) :
    callIt E1 (evI E1) 14 [ndP q fs t r s z g, frP e id rm ln data] σ = some (.tup [ndP q fs t r s z g, .d (.int .i64 3)], σ) := by
  refine call_run (fn := Try.f14) 5 rfl rfl rfl Try.func14 rfl rfl ?_ rfl
  have h41 := c41 e id rm ln data
  have h42 := c42 q fs t r s z g
  subst hs
  rw [hf] at h41
  unfold frP at h41 ⊢
  unfold ndP at h42 ⊢
  simp at h42
  simp [Try.f14, ec_region, ec_seq, ec_cond, ec_skip, ec_exit, ec_ret, ec_block, seq_normal, seq_ret, seq_exit, if_t, if_f, regN, evOpsD, coreD, wantD, evCore, evPure, evCall, use, useL, useParts, opv, rd, putS, untake, moveIt, takes, appendFirst, appTmp, apartL, apartB, posOf, cellsOf, isBelowL, PV.isBelow, isDataL, PV.isData, loadAs, loadS, storeS, storeAs, evFieldAddr, evField, partP, evSlice, bound, natOf, rowsOk, evIndexAddr, evIndex, evLen, fillP, bin_add, bin_sub, bin_mul, bin_lss, bin_leq, bin_gtr, bin_geq, bin_eql, bin_neq, bin_and, bin_andNot, un_not, mm_max, mm_min, ofValue, ofCell, slotOf, resVal, resOne, resL, retOf, toDL, toD, sameStore, sameCells, PV.same, DV.same_self, sameRows_self, sameL_self, st_undef, st1_undef, k0_undef, st_any, st1_any, k0_any, st_d, st1_d, sc_d, on_d, k0_d, st_ptr, st1_ptr, sc_ptr, on_ptr, k0_ptr, st_nilptr, st1_nilptr, sc_nilptr, on_nilptr, k0_nilptr, st_ro, st1_ro, sc_ro, on_ro, k0_ro, st_func, st1_func, sc_func, on_func, k0_func, st_nilFunc, st1_nilFunc, sc_nilFunc, on_nilFunc, k0_nilFunc, st_tup, st1_tup, st_agg, sc_agg, E1P, E1ap, Try.aggT35, Try.szT35, Try.aggT28, Try.szT28, Try.zeroT28, Try.underlying28, h41, h42]
theorem c14_full (q fs : List (List DV)) (t r s z : Int) (g : List (List DV)) (e : Bool) (id : Int) (rm : Bool) (ln : Int) (data : List (List DV)) (σ : Store) (hf : frRight e id rm ln data = true) (hs : s ≠ 3) (hq : 16 ≤ q.length) :
    callIt E1 (evI E1) 14 [ndP q fs t r s z g, frP e id rm ln data] σ = some (.tup [ndP q fs t r s z g, .d (.int .i64 2)], σ) := by
  refine call_run (fn := Try.f14) 5 rfl rfl rfl Try.func14 rfl rfl ?_ rfl
  have h41 := c41 e id rm ln data
  have h42 := c42 q fs t r s z g
  have hb : (s == 3) = false := by simpa using hs
  have hl : (16 : Int) ≤ (q.length : Int) := by omega
  rw [hf] at h41
  rw [hb] at h42
  unfold frP at h41 ⊢
  unfold ndP at h42 ⊢
  simp [Try.f14, ec_region, ec_seq, ec_cond, ec_skip, ec_exit, ec_ret, ec_block, seq_normal, seq_ret, seq_exit, if_t, if_f, regN, evOpsD, coreD, wantD, evCore, evPure, evCall, use, useL, useParts, opv, rd, putS, untake, moveIt, takes, appendFirst, appTmp, apartL, apartB, posOf, cellsOf, isBelowL, PV.isBelow, isDataL, PV.isData, loadAs, loadS, storeS, storeAs, evFieldAddr, evField, partP, evSlice, bound, natOf, rowsOk, evIndexAddr, evIndex, evLen, fillP, bin_add, bin_sub, bin_mul, bin_lss, bin_leq, bin_gtr, bin_geq, bin_eql, bin_neq, bin_and, bin_andNot, un_not, mm_max, mm_min, ofValue, ofCell, slotOf, resVal, resOne, resL, retOf, toDL, toD, sameStore, sameCells, PV.same, DV.same_self, sameRows_self, sameL_self, st_undef, st1_undef, k0_undef, st_any, st1_any, k0_any, st_d, st1_d, sc_d, on_d, k0_d, st_ptr, st1_ptr, sc_ptr, on_ptr, k0_ptr, st_nilptr, st1_nilptr, sc_nilptr, on_nilptr, k0_nilptr, st_ro, st1_ro, sc_ro, on_ro, k0_ro, st_func, st1_func, sc_func, on_func, k0_func, st_nilFunc, st1_nilFunc, sc_nilFunc, on_nilFunc, k0_nilFunc, st_tup, st1_tup, st_agg, sc_agg, E1P, E1ap, Try.aggT35, Try.szT35, Try.aggT28, Try.szT28, Try.aggT22, Try.szT22, Try.zeroT28, Try.underlying28, Try.underlying22, h41, h42, hl]

theorem c14_ok (q fs : List (List DV)) (t r s z : Int) (g : List (List DV)) (e : Bool) (id : Int) (rm : Bool) (ln : Int) (data : List (List DV)) (σ : Store) (hf : frRight e id rm ln data = true) (hs : s ≠ 3) (hq : q.length < 16) (hok : rowsOk 5 q = true) :
    callIt E1 (evI E1) 14 [ndP q fs t r s z g, frP e id rm ln data] σ = some (.tup [ndP (q ++ [frD e id rm ln data]) fs t r s z g, .d (.int .i64 0)], σ) := by
  refine call_run (fn := Try.f14) 5 rfl rfl rfl Try.func14 rfl rfl ?_ rfl
  have h41 := c41 e id rm ln data
  have h42 := c42 q fs t r s z g
  have h43 := c43 q e id rm ln data hok (by simp only [roomB]; omega)
  have hb : (s == 3) = false := by simpa using hs
  have hl : ¬ (16 : Int) ≤ (q.length : Int) := by omega
  rw [hf] at h41
  rw [hb] at h42
  unfold frP at h41 h43 ⊢
  unfold ndP at h42 ⊢
  simp [Try.f14, ec_region, ec_seq, ec_cond, ec_skip, ec_exit, ec_ret, ec_block, seq_normal, seq_ret, seq_exit, if_t, if_f, regN, evOpsD, coreD, wantD, evCore, evPure, evCall, use, useL, useParts, opv, rd, putS, untake, moveIt, takes, appendFirst, appTmp, apartL, apartB, posOf, cellsOf, isBelowL, PV.isBelow, isDataL, PV.isData, loadAs, loadS, storeS, storeAs, evFieldAddr, evField, partP, evSlice, bound, natOf, rowsOk, evIndexAddr, evIndex, evLen, fillP, bin_add, bin_sub, bin_mul, bin_lss, bin_leq, bin_gtr, bin_geq, bin_eql, bin_neq, bin_and, bin_andNot, un_not, mm_max, mm_min, ofValue, ofCell, slotOf, resVal, resOne, resL, retOf, toDL, toD, sameStore, sameCells, PV.same, DV.same_self, sameRows_self, sameL_self, st_undef, st1_undef, k0_undef, st_any, st1_any, k0_any, st_d, st1_d, sc_d, on_d, k0_d, st_ptr, st1_ptr, sc_ptr, on_ptr, k0_ptr, st_nilptr, st1_nilptr, sc_nilptr, on_nilptr, k0_nilptr, st_ro, st1_ro, sc_ro, on_ro, k0_ro, st_func, st1_func, sc_func, on_func, k0_func, st_nilFunc, st1_nilFunc, sc_nilFunc, on_nilFunc, k0_nilFunc, st_tup, st1_tup, st_agg, sc_agg, E1P, E1ap, Try.aggT35, Try.szT35, Try.aggT28, Try.szT28, Try.aggT22, Try.szT22, Try.zeroT28, Try.underlying28, Try.underlying22, h41, h42, h43, hl, acc_cells, acc_one, acc_below, acc_strip, acc_strip1]

end Go.Proofs

set_option linter.unusedVariables false
set_option linter.unusedSimpArgs false
set_option maxRecDepth 100000
set_option maxHeartbeats 4000000
namespace Go.Proofs
open Go.RowKit Go.Shelf Go.Pv

theorem st_e0 : PV.strip .e0 = .d (.slice []) := rfl
theorem st1_e0 : PV.strip1 .e0 = .d (.slice []) := rfl
theorem k0_e0 : PV.keep0 .e0 = .e0 := rfl
theorem on_e0 : oneP .e0 = true := rfl
theorem sc_e0 : storedCells .e0 = [.e0] := rfl

theorem d49 (t r s q what : Int) (ht : 0 ≤ t ∧ t ≤ 900) (hr : 0 ≤ r ∧ r ≤ 900) (hq : 0 ≤ q ∧ q ≤ 900) (hw : 1 ≤ what ∧ what ≤ 6) (σ : Store) : callIt E1 (evI E1) 49 [cn t r s q, .d (.int .i64 what)] σ = some (stepV t r s q what, σ) := by
  have hv : (stepV t r s q what).isData = true := by unfold stepV cn; split <;> (try split) <;> (try split) <;> rfl
  unfold cn
  simp [callIt, E1ov, ovAll, isDataL, PV.isData, ovStep, ht, hr, hq, hw, hv]

theorem c22_none (q fs : List (List DV)) (t r s z : Int) (σ : Store) :
    callIt E1 (evI E1) 22 [ndP q fs t r s z []] σ = some (.tup [ndP q fs t r s z [], frP false 0 false 0 [], .d (.bool false)], σ) := by
  refine call_run (fn := Try.f22) 5 rfl rfl rfl Try.func22 rfl rfl ?_ rfl
  have z35 : zeroT Try.prog 35 = some (.agg [.d (.bool false), .d (.int .i64 0), .d (.bool false), .d (.int .i64 0), .e0]) := by kernel_rfl
  have pl : placesOf Try.prog 35 = some (fun i => [(0, 1), (1, 1), (2, 1), (3, 1), (4, 1)][i]?) := by kernel_rfl
  unfold ndP frP
  simp [Try.f22, ec_region, ec_seq, ec_cond, ec_skip, ec_exit, ec_ret, ec_block, seq_normal, seq_ret, seq_exit, if_t, if_f, regN, evOpsD, coreD, wantD, evCore, evPure, evCall, use, useL, useParts, opv, rd, putS, untake, moveIt, takes, appendFirst, appTmp, apartL, apartB, posOf, cellsOf, isBelowL, PV.isBelow, isDataL, PV.isData, loadAs, loadS, storeS, storeAs, evFieldAddr, evField, partP, evSlice, bound, natOf, rowsOk, evIndexAddr, evIndex, evLen, fillP, bin_add, bin_sub, bin_mul, bin_lss, bin_leq, bin_gtr, bin_geq, bin_eql, bin_neq, bin_and, bin_andNot, un_not, mm_max, mm_min, ofValue, ofCell, slotOf, resVal, resOne, resL, retOf, toDL, toD, sameStore, sameCells, PV.same, DV.same_self, sameRows_self, sameL_self, st_undef, st1_undef, k0_undef, st_any, st1_any, k0_any, st_d, st1_d, sc_d, on_d, k0_d, st_ptr, st1_ptr, sc_ptr, on_ptr, k0_ptr, st_nilptr, st1_nilptr, sc_nilptr, on_nilptr, k0_nilptr, st_ro, st1_ro, sc_ro, on_ro, k0_ro, st_func, st1_func, sc_func, on_func, k0_func, st_nilFunc, st1_nilFunc, sc_nilFunc, on_nilFunc, k0_nilFunc, st_tup, st1_tup, st_agg, sc_agg, E1P, E1ap, Try.aggT35, Try.szT35, Try.aggT28, Try.szT28, Try.aggT22, Try.szT22, Try.zeroT28, z35, pl, Try.underlying28, Try.underlying22, st_e0, st1_e0, k0_e0, on_e0, sc_e0]
theorem c48 (rows : List (List DV)) (i : Nat) (h : rowsOk 5 rows = true) (hb : rows.length * 56 ≤ roomB) (hi : i < rows.length) (σ : Store) : callIt E1 (evI E1) 48 [.d (.slice rows), .d (.int .i64 i)] σ = some (.d (.slice (rows.eraseIdx i)), σ) := by
  have h0 : (0 : Int) ≤ i := by omega
  simp [callIt, E1ov, ovAll, isDataL, PV.isData, ovWithout, h, hb, hi, h0]

theorem c22_some (q fs : List (List DV)) (t r s z : Int) (e : Bool) (id : Int) (rm : Bool) (ln : Int) (data : List (List DV)) (rest : List (List DV)) (h : rowsOk 5 rest = true) (hb : (rest.length + 1) * 56 ≤ roomB) (σ : Store) :
    callIt E1 (evI E1) 22 [ndP q fs t r s z (frD e id rm ln data :: rest)] σ = some (.tup [ndP q fs t r s z rest, frP e id rm ln data, .d (.bool true)], σ) := by
  refine call_run (fn := Try.f22) 5 rfl rfl rfl Try.func22 rfl rfl ?_ rfl
  have z35 : zeroT Try.prog 35 = some (.agg [.d (.bool false), .d (.int .i64 0), .d (.bool false), .d (.int .i64 0), .e0]) := by kernel_rfl
  have h48 := c48 (frD e id rm ln data :: rest) 0 (by unfold rowsOk at h ⊢; rw [List.all_cons, h]; rfl) (by simpa using hb) (by simp)
  simp at h48
  have hl : ((rest.length : Int) + 1 == 0) = false := by rw [beq_eq_false_iff_ne]; omega
  unfold ndP frP frD at *
  simp [Try.f22, ec_region, ec_seq, ec_cond, ec_skip, ec_exit, ec_ret, ec_block, seq_normal, seq_ret, seq_exit, if_t, if_f, regN, evOpsD, coreD, wantD, evCore, evPure, evCall, use, useL, useParts, opv, rd, putS, untake, moveIt, takes, appendFirst, appTmp, apartL, apartB, posOf, cellsOf, isBelowL, PV.isBelow, isDataL, PV.isData, loadAs, loadS, storeS, storeAs, evFieldAddr, evField, partP, evSlice, bound, natOf, rowsOk, evIndexAddr, evIndex, evLen, fillP, bin_add, bin_sub, bin_mul, bin_lss, bin_leq, bin_gtr, bin_geq, bin_eql, bin_neq, bin_and, bin_andNot, un_not, mm_max, mm_min, ofValue, ofCell, slotOf, resVal, resOne, resL, retOf, toDL, toD, sameStore, sameCells, PV.same, DV.same_self, sameRows_self, sameL_self, st_undef, st1_undef, k0_undef, st_any, st1_any, k0_any, st_d, st1_d, sc_d, on_d, k0_d, st_ptr, st1_ptr, sc_ptr, on_ptr, k0_ptr, st_nilptr, st1_nilptr, sc_nilptr, on_nilptr, k0_nilptr, st_ro, st1_ro, sc_ro, on_ro, k0_ro, st_func, st1_func, sc_func, on_func, k0_func, st_nilFunc, st1_nilFunc, sc_nilFunc, on_nilFunc, k0_nilFunc, st_tup, st1_tup, st_agg, sc_agg, E1P, E1ap, Try.aggT35, Try.szT35, Try.aggT28, Try.szT28, Try.aggT22, Try.szT22, Try.zeroT28, z35, Try.underlying28, Try.underlying22, st_e0, st1_e0, k0_e0, on_e0, sc_e0, h48, hl]
end Go.Proofs

set_option linter.unusedVariables false
set_option linter.unusedSimpArgs false
set_option maxRecDepth 100000
set_option maxHeartbeats 4000000
namespace Go.Proofs
open Go.RowKit Go.Shelf Go.Pv

/-- What a counter's step makes, in parts. -/
def stT (t r s q what : Int) : Int := if s = 3 then (if what = 6 ∧ q + 1 = 128 then 0 else t) else if wkT what t > 255 then 256 else wkT what t
def stR (t r s q what : Int) : Int := if s = 3 then (if what = 6 ∧ q + 1 = 128 then 0 else r) else if wkT what t > 255 then 0 else wkR what r
def stS (t r s q what : Int) : Int := if s = 3 then (if what = 6 ∧ q + 1 = 128 then 1 else 3) else if wkT what t > 255 then 3 else if max (wkT what t) (wkR what r) > 127 then 2 else 1
def stQ (t r s q what : Int) : Int := if s = 3 then (if what = 6 then (if q + 1 = 128 then 0 else q + 1) else q) else if wkT what t > 255 then 0 else q

theorem stepV_eq (t r s q what : Int) : stepV t r s q what = cn (stT t r s q what) (stR t r s q what) (stS t r s q what) (stQ t r s q what) := by
  unfold stepV stT stR stS stQ
  by_cases hs : s = 3
  · subst hs
    by_cases h6 : what = 6
    · by_cases hq : q + 1 = 128 <;> simp [h6, hq]
    · simp [h6]
  · by_cases hT : wkT what t > 255 <;> simp [hs, hT]
end Go.Proofs

set_option linter.unusedVariables false
set_option maxRecDepth 100000
namespace Go.Proofs
open Go.RowKit Go.Shelf Go.Pv

@[simp] theorem Ty.a3 : aggT Try.prog 3 = some false := by kernel_rfl
@[simp] theorem Ty.s3 : szT Try.prog 3 = some 1 := by kernel_rfl
@[simp] theorem Ty.z3 : zeroT Try.prog 3 = some (.d (.int .i64 0)) := by kernel_rfl
@[simp] theorem Ty.a4 : aggT Try.prog 4 = some false := by kernel_rfl
@[simp] theorem Ty.s4 : szT Try.prog 4 = some 1 := by kernel_rfl
@[simp] theorem Ty.z4 : zeroT Try.prog 4 = some (.d (.bool false)) := by kernel_rfl
@[simp] theorem Ty.a5 : aggT Try.prog 5 = some false := by kernel_rfl
@[simp] theorem Ty.s5 : szT Try.prog 5 = some 1 := by kernel_rfl
@[simp] theorem Ty.z5 : zeroT Try.prog 5 = some (.d (.int .u8 0)) := by kernel_rfl
@[simp] theorem Ty.a9 : aggT Try.prog 9 = some false := by kernel_rfl
@[simp] theorem Ty.s9 : szT Try.prog 9 = some 1 := by kernel_rfl
@[simp] theorem Ty.z9 : zeroT Try.prog 9 = some (.d (.str "".toUTF8)) := by kernel_rfl
@[simp] theorem Ty.a22 : aggT Try.prog 22 = some false := by kernel_rfl
@[simp] theorem Ty.s22 : szT Try.prog 22 = some 1 := by kernel_rfl
@[simp] theorem Ty.z22 : zeroT Try.prog 22 = some (.e0) := by kernel_rfl
@[simp] theorem Ty.app22 : appT Try.prog 22 = some (5, 56) := by kernel_rfl
@[simp] theorem Ty.iz35 : ((Try.prog.info? 35).bind (·.zero)).isSome = true := by kernel_rfl
@[simp] theorem Ty.a24 : aggT Try.prog 24 = some false := by kernel_rfl
@[simp] theorem Ty.s24 : szT Try.prog 24 = some 1 := by kernel_rfl
@[simp] theorem Ty.z24 : zeroT Try.prog 24 = some (.e0) := by kernel_rfl
@[simp] theorem Ty.app24 : appT Try.prog 24 = some (3, 24) := by kernel_rfl
@[simp] theorem Ty.iz61 : ((Try.prog.info? 61).bind (·.zero)).isSome = true := by kernel_rfl
@[simp] theorem Ty.a26 : aggT Try.prog 26 = some true := by kernel_rfl
@[simp] theorem Ty.s26 : szT Try.prog 26 = some 4 := by kernel_rfl
@[simp] theorem Ty.z26 : zeroT Try.prog 26 = some (.agg [.d (.int .i64 0), .d (.int .i64 0), .d (.int .i64 0), .d (.int .i64 0)]) := by kernel_rfl
@[simp] theorem Ty.p26 : placesOf Try.prog 26 = some (fun i => ([(0, 1), (1, 1), (2, 1), (3, 1)] : List (Nat × Nat))[i]?) := by kernel_rfl
@[simp] theorem Ty.k26 : kindsOf Try.prog 26 = some [.int .i64, .int .i64, .int .i64, .int .i64] := by kernel_rfl
@[simp] theorem Ty.a28 : aggT Try.prog 28 = some true := by kernel_rfl
@[simp] theorem Ty.s28 : szT Try.prog 28 = some 7 := by kernel_rfl
@[simp] theorem Ty.z28 : zeroT Try.prog 28 = some (.agg [.e0, .e0, .d (.int .i64 0), .d (.int .i64 0), .d (.int .i64 0), .d (.int .i64 0), .e0]) := by kernel_rfl
@[simp] theorem Ty.p28 : placesOf Try.prog 28 = some (fun i => ([(0, 1), (1, 1), (2, 4), (6, 1)] : List (Nat × Nat))[i]?) := by kernel_rfl
@[simp] theorem Ty.a29 : aggT Try.prog 29 = some false := by kernel_rfl
@[simp] theorem Ty.s29 : szT Try.prog 29 = some 1 := by kernel_rfl
@[simp] theorem Ty.z29 : zeroT Try.prog 29 = some (.d (.int .i64 0)) := by kernel_rfl
@[simp] theorem Ty.a32 : aggT Try.prog 32 = some false := by kernel_rfl
@[simp] theorem Ty.s32 : szT Try.prog 32 = some 1 := by kernel_rfl
@[simp] theorem Ty.z32 : zeroT Try.prog 32 = some (.nilFunc) := by kernel_rfl
@[simp] theorem Ty.a33 : aggT Try.prog 33 = some false := by kernel_rfl
@[simp] theorem Ty.s33 : szT Try.prog 33 = some 1 := by kernel_rfl
@[simp] theorem Ty.z33 : zeroT Try.prog 33 = some (.e0) := by kernel_rfl
@[simp] theorem Ty.app33 : appT Try.prog 33 = some (1, 1) := by kernel_rfl
@[simp] theorem Ty.iz5 : ((Try.prog.info? 5).bind (·.zero)).isSome = true := by kernel_rfl
@[simp] theorem Ty.a35 : aggT Try.prog 35 = some true := by kernel_rfl
@[simp] theorem Ty.s35 : szT Try.prog 35 = some 5 := by kernel_rfl
@[simp] theorem Ty.z35 : zeroT Try.prog 35 = some (.agg [.d (.bool false), .d (.int .i64 0), .d (.bool false), .d (.int .i64 0), .e0]) := by kernel_rfl
@[simp] theorem Ty.p35 : placesOf Try.prog 35 = some (fun i => ([(0, 1), (1, 1), (2, 1), (3, 1), (4, 1)] : List (Nat × Nat))[i]?) := by kernel_rfl
@[simp] theorem Ty.a41 : aggT Try.prog 41 = some false := by kernel_rfl
@[simp] theorem Ty.s41 : szT Try.prog 41 = some 1 := by kernel_rfl
@[simp] theorem Ty.z41 : zeroT Try.prog 41 = some (.e0) := by kernel_rfl
@[simp] theorem Ty.app41 : appT Try.prog 41 = some (1, 8) := by kernel_rfl
@[simp] theorem Ty.iz3 : ((Try.prog.info? 3).bind (·.zero)).isSome = true := by kernel_rfl
@[simp] theorem Ty.a61 : aggT Try.prog 61 = some true := by kernel_rfl
@[simp] theorem Ty.s61 : szT Try.prog 61 = some 3 := by kernel_rfl
@[simp] theorem Ty.z61 : zeroT Try.prog 61 = some (.agg [.d (.bool false), .d (.int .i64 0), .d (.int .i64 0)]) := by kernel_rfl
@[simp] theorem Ty.p61 : placesOf Try.prog 61 = some (fun i => ([(0, 1), (1, 1), (2, 1)] : List (Nat × Nat))[i]?) := by kernel_rfl
@[simp] theorem Ty.k61 : kindsOf Try.prog 61 = some [.bool, .int .i64, .int .i64] := by kernel_rfl
@[simp] theorem Ty.a63 : aggT Try.prog 63 = some false := by kernel_rfl
@[simp] theorem Ty.s63 : szT Try.prog 63 = some 1 := by kernel_rfl
@[simp] theorem Ty.z63 : zeroT Try.prog 63 = some (.nilFunc) := by kernel_rfl
@[simp] theorem Ty.a83 : aggT Try.prog 83 = some false := by kernel_rfl
@[simp] theorem Ty.s83 : szT Try.prog 83 = some 1 := by kernel_rfl
@[simp] theorem Ty.z83 : zeroT Try.prog 83 = some (.nilFunc) := by kernel_rfl
@[simp] theorem Ty.a90 : aggT Try.prog 90 = some true := by kernel_rfl
@[simp] theorem Ty.s90 : szT Try.prog 90 = some 4 := by kernel_rfl
@[simp] theorem Ty.z90 : zeroT Try.prog 90 = some (.agg [.d (.int .i64 0), .d (.int .i64 0), .d (.int .i64 0), .d (.int .i64 0)]) := by kernel_rfl
@[simp] theorem Ty.p90 : placesOf Try.prog 90 = some (fun i => ([(0, 1), (1, 1), (2, 1), (3, 1)] : List (Nat × Nat))[i]?) := by kernel_rfl
@[simp] theorem Ty.k90 : kindsOf Try.prog 90 = some [.int .i64, .int .i64, .int .i64, .int .i64] := by kernel_rfl
@[simp] theorem Ty.a93 : aggT Try.prog 93 = some false := by kernel_rfl
@[simp] theorem Ty.s93 : szT Try.prog 93 = some 1 := by kernel_rfl
@[simp] theorem Ty.a101 : aggT Try.prog 101 = some true := by kernel_rfl
@[simp] theorem Ty.s101 : szT Try.prog 101 = some 1 := by kernel_rfl
@[simp] theorem Ty.z101 : zeroT Try.prog 101 = some (.agg [.e0]) := by kernel_rfl
@[simp] theorem Ty.p101 : placesOf Try.prog 101 = some (fun i => ([(0, 1)] : List (Nat × Nat))[i]?) := by kernel_rfl
@[simp] theorem Ty.a105 : aggT Try.prog 105 = some true := by kernel_rfl
@[simp] theorem Ty.s105 : szT Try.prog 105 = some 2 := by kernel_rfl
@[simp] theorem Ty.z105 : zeroT Try.prog 105 = some (.agg [.d (.bool false), .d (.int .i64 0)]) := by kernel_rfl
@[simp] theorem Ty.p105 : placesOf Try.prog 105 = some (fun i => ([(0, 1), (1, 1)] : List (Nat × Nat))[i]?) := by kernel_rfl
@[simp] theorem Ty.k105 : kindsOf Try.prog 105 = some [.bool, .int .i64] := by kernel_rfl
attribute [simp] Try.underlying3 Try.underlying4 Try.underlying5 Try.underlying9 Try.underlying22 Try.underlying24 Try.underlying26 Try.underlying28 Try.underlying29 Try.underlying32 Try.underlying33 Try.underlying35 Try.underlying41 Try.underlying61 Try.underlying63 Try.underlying83 Try.underlying90 Try.underlying93 Try.underlying101 Try.underlying105
end Go.Proofs

