/- The seat of nodes: the rank of a frame; The seat of nodes: the rank of a frame of eleven bits, and of twenty-nine; The seat of nodes: frame.Rank, and ranks compared; The seat of nodes: node.with, node.Send; The seat of nodes: frames; The seat of nodes: node.Send; The seat of nodes: node.Take, node.Quiet; The seat of nodes: node.Quiet; Facts of the seat's types, printed by a program (tys); The seat of nodes: what a node is, in plain Lean; the evaluator's equations given to simp; The seat of nodes: filters; The seat of nodes: slices.IndexFunc, slices.ContainsFunc; The seat of nodes: node.all, filter.Any, count.Right; The seat of nodes: filter.Any, count.Right, node.New, node.Right; The seat of nodes: count.Right, node.Right; The seat of nodes: slices.Compare, the rank of a frame; The seat of nodes: slices.MinFunc, node.next; The seat of nodes: node.next, node.Next. -/
import Derived.Test.YtnnindnmpfmaaaaGreatNt06
set_option linter.unusedVariables false
set_option linter.unusedSimpArgs false
set_option maxRecDepth 100000
set_option maxHeartbeats 4000000
namespace Go.Proofs
open Go.RowKit Go.Shelf Go.Pv
theorem c90 (v : Int) (m : Nat) (hm : m ≤ 32) (hv : 0 ≤ v ∧ v < 2 ^ m) (σ : Store) : callIt E1 (evI E1) 188 [.d (.int .i64 v), .d (.int .i64 m)] σ = some (.tup [.d (.slice (bitRows v m)), .d (.bool true)], σ) := by
 have h1 : (0 : Int) ≤ m ∧ (m : Int) ≤ 32 := by omega
 simp [callIt, E1ov, ovAll, isDataL, PV.isData, ovPut, h1, hv]
theorem Tryz.appT39 : appT Tryz.prog 39 = some (1, 8) := by kernel_rfl
theorem Tryz.aggT39 : aggT Tryz.prog 39 = some false := by kernel_rfl
theorem Tryz.szT39 : szT Tryz.prog 39 = some 1 := by kernel_rfl
theorem c87 (b0 b2 : List PV) (rows : List (List DV)) (v : Int) (m : Nat) (hm : m ≤ 32) (hv : 0 ≤ v ∧ v < 2 ^ m) (hr : rowsOk 1 rows = true) (hl : rows.length ≤ 1000) :
  evI E1 207 [.ptr 1 0, .d (.int .i64 v), .d (.int .i64 m)] [b0, [acc rows], b2] = some (.tup [], [b0, [acc (rows ++ bitRows v m)], b2]) := by
 refine evI_run (fn := Tryz.f207) 5 rfl Tryz.func207 rfl ?_
 have hb : rowsOk 1 (bitRows v m) = true := by
  unfold rowsOk bitRows
  rw [List.all_eq_true]
  intro r hr
  simp at hr
  obtain ⟨k, _, rfl⟩ := hr
  rfl
 have hbl : (bitRows v m).length = m := by simp [bitRows]
 have happ : evAppend Tryz.prog 39 (acc rows) (.d (.slice (bitRows v m))) = some (acc (rows ++ bitRows v m)) := by
  have : (rows.length + m) * 8 ≤ roomB := by simp only [roomB]; omega
  simp [evAppend, Tryz.appT39, acc_own, elemsOf, hr, hb, hbl, this]
 have h90 := c90 v m hm hv
 simp [Tryz.f207, ec_region, altD, ec_scope, ec_label, ec_seq, ec_cond, ec_skip, ec_exit, ec_ret, ec_block, seq_normal, seq_ret, seq_exit, if_t, if_f, regN, evOpsD, coreD, wantD, evCore, evPure, evCall, use, useL, useParts, opv, rd, putS, untake, moveIt, takes, af_nil, af_cons, appTmp, apartL, apartB, posOf, cellsOf, isBelowL, PV.isBelow, boxCells, isDataL, PV.isData, loadAs, loadS, storeS, storeAs, evFieldAddr, evField, partP, evSlice, bound, natOf, rowsOk, evIndexAddr, evIndex, evLen, fillP, bin_add, bin_sub, bin_mul, bin_lss, bin_leq, bin_gtr, bin_geq, bin_eql, bin_neq, bin_and, bin_andNot, un_not, mm_max, mm_min, ofValue, ofCell, slotOf, resVal, resOne, resL, retOf, toDL, toD, sameStore, sameCells, PV.same, DV.same_self, sameRows_self, sameL_self, st_undef, st1_undef, k0_undef, st_any, st1_any, k0_any, st_d, st1_d, sc_d, on_d, k0_d, st_ptr, st1_ptr, sc_ptr, on_ptr, k0_ptr, st_nilptr, st1_nilptr, sc_nilptr, on_nilptr, k0_nilptr, st_ro, st1_ro, sc_ro, on_ro, k0_ro, st_func, st1_func, sc_func, on_func, k0_func, st_nilFunc, st1_nilFunc, sc_nilFunc, on_nilFunc, k0_nilFunc, st_tup, st1_tup, st_agg, sc_agg, E1P, E1ap, Tryz.aggT3, Tryz.szT3, Tryz.aggT39, Tryz.szT39, Tryz.underlying206, h90, happ, acc_cells, acc_one, acc_below, acc_strip, acc_strip1]
theorem call_boxes {f : FuncId} {args : List PV} {σ σ' σ'' : Store} (ho : E1.ov f = none) (hp : E1.pure f = false) (hr : E1.ro f = false) (h : evI E1 f args σ = some (.tup [], σ')) (hl : σ'.take σ.length = σ'') : callIt E1 (evI E1) f args σ = some (.tup [], σ'') := by
 subst hl
 simp [callIt, ho, hp, hr, h, PV.isData, isDataL, st_tup]
theorem d87 (b0 b2 : List PV) (rows : List (List DV)) (v : Int) (m : Nat) (hm : m ≤ 32) (hv : 0 ≤ v ∧ v < 2 ^ m) (hr : rowsOk 1 rows = true) (hl : rows.length ≤ 1000) :
  callIt E1 (evI E1) 207 [.ptr 1 0, .d (.int .i64 v), .d (.int .i64 m)] [b0, [acc rows], b2] = some (.tup [], [b0, [acc (rows ++ bitRows v m)], b2]) :=
 call_boxes rfl rfl rfl (c87 b0 b2 rows v m hm hv hr hl) rfl
def bitOf (b : Bool) : Int := if b then 1 else 0
theorem c88 (b0 b2 : List PV) (rows : List (List DV)) (is : Bool) (hr : rowsOk 1 rows = true) (hl : rows.length ≤ 1000) :
  evI E1 208 [.ptr 1 0, .d (.bool is)] [b0, [acc rows], b2] = some (.tup [], [b0, [acc (rows ++ bitRows (bitOf is) 1)], b2]) := by
 refine evI_run (fn := Tryz.f208) 5 rfl Tryz.func208 rfl ?_
 have h87 := d87 b0 b2 rows (bitOf is) 1 (by decide) (by cases is <;> decide) hr hl
 cases is
 ·simp only [bitOf, Bool.false_eq_true, if_false] at h87 ⊢
  simp at h87
  simp [Tryz.f208, ec_region, altD, ec_scope, ec_label, ec_seq, ec_cond, ec_skip, ec_exit, ec_ret, ec_block, seq_normal, seq_ret, seq_exit, if_t, if_f, regN, evOpsD, coreD, wantD, evCore, evPure, evCall, use, useL, useParts, opv, rd, putS, untake, moveIt, takes, af_nil, af_cons, appTmp, apartL, apartB, posOf, cellsOf, isBelowL, PV.isBelow, boxCells, isDataL, PV.isData, loadAs, loadS, storeS, storeAs, evFieldAddr, evField, partP, evSlice, bound, natOf, rowsOk, evIndexAddr, evIndex, evLen, fillP, bin_add, bin_sub, bin_mul, bin_lss, bin_leq, bin_gtr, bin_geq, bin_eql, bin_neq, bin_and, bin_andNot, un_not, mm_max, mm_min, ofValue, ofCell, slotOf, resVal, resOne, resL, retOf, toDL, toD, sameStore, sameCells, PV.same, DV.same_self, sameRows_self, sameL_self, st_undef, st1_undef, k0_undef, st_any, st1_any, k0_any, st_d, st1_d, sc_d, on_d, k0_d, st_ptr, st1_ptr, sc_ptr, on_ptr, k0_ptr, st_nilptr, st1_nilptr, sc_nilptr, on_nilptr, k0_nilptr, st_ro, st1_ro, sc_ro, on_ro, k0_ro, st_func, st1_func, sc_func, on_func, k0_func, st_nilFunc, st1_nilFunc, sc_nilFunc, on_nilFunc, k0_nilFunc, st_tup, st1_tup, st_agg, sc_agg, E1P, E1ap, h87]
 ·simp only [bitOf, if_true] at h87 ⊢
  simp at h87
  simp [Tryz.f208, ec_region, altD, ec_scope, ec_label, ec_seq, ec_cond, ec_skip, ec_exit, ec_ret, ec_block, seq_normal, seq_ret, seq_exit, if_t, if_f, regN, evOpsD, coreD, wantD, evCore, evPure, evCall, use, useL, useParts, opv, rd, putS, untake, moveIt, takes, af_nil, af_cons, appTmp, apartL, apartB, posOf, cellsOf, isBelowL, PV.isBelow, boxCells, isDataL, PV.isData, loadAs, loadS, storeS, storeAs, evFieldAddr, evField, partP, evSlice, bound, natOf, rowsOk, evIndexAddr, evIndex, evLen, fillP, bin_add, bin_sub, bin_mul, bin_lss, bin_leq, bin_gtr, bin_geq, bin_eql, bin_neq, bin_and, bin_andNot, un_not, mm_max, mm_min, ofValue, ofCell, slotOf, resVal, resOne, resL, retOf, toDL, toD, sameStore, sameCells, PV.same, DV.same_self, sameRows_self, sameL_self, st_undef, st1_undef, k0_undef, st_any, st1_any, k0_any, st_d, st1_d, sc_d, on_d, k0_d, st_ptr, st1_ptr, sc_ptr, on_ptr, k0_ptr, st_nilptr, st1_nilptr, sc_nilptr, on_nilptr, k0_nilptr, st_ro, st1_ro, sc_ro, on_ro, k0_ro, st_func, st1_func, sc_func, on_func, k0_func, st_nilFunc, st1_nilFunc, sc_nilFunc, on_nilFunc, k0_nilFunc, st_tup, st1_tup, st_agg, sc_agg, E1P, E1ap, h87]
theorem d88 (b0 b2 : List PV) (rows : List (List DV)) (is : Bool) (hr : rowsOk 1 rows = true) (hl : rows.length ≤ 1000) :
  callIt E1 (evI E1) 208 [.ptr 1 0, .d (.bool is)] [b0, [acc rows], b2] = some (.tup [], [b0, [acc (rows ++ bitRows (bitOf is) 1)], b2]) :=
 call_boxes rfl rfl rfl (c88 b0 b2 rows is hr hl) rfl
end Go.Proofs

set_option maxRecDepth 100000
set_option maxHeartbeats 4000000
namespace Go.Proofs
open Go.RowKit Go.Shelf Go.Pv
theorem bitRows_ok (v : Int) (m : Nat) : rowsOk 1 (bitRows v m) = true := by
 unfold rowsOk bitRows
 rw [List.all_eq_true]
 intro r hr
 simp at hr
 obtain ⟨k, _, rfl⟩ := hr
 rfl
theorem bitRows_len (v : Int) (m : Nat) : (bitRows v m).length = m := by simp [bitRows]
def rankStd (id : Int) (rm : Bool) : List (List DV) := bitRows id 11 ++ bitRows (bitOf rm) 1 ++ bitRows 0 1
theorem c80_std (b0 : List PV) (id : Int) (rm : Bool) (ln : Int) (rows : List (List DV)) (hid : 0 ≤ id ∧ id < 2 ^ 11) :
  ∃ b2, evI E1 183 [.ptr 1 0, frP false id rm ln rows] [b0, [.e0]] = some (.tup [], [b0, [acc (rankStd id rm)], b2]) := by
 refine ⟨_, evI_run (σ' := [b0, [acc (rankStd id rm)], [.d (.bool false), .d (.int .i64 id), .d (.bool rm), .d (.int .i64 ln), .d (.slice rows)]]) (fn := Tryz.f183) 5 rfl Tryz.func183 rfl ?_⟩
 have h1 : callIt E1 (evI E1) 207 [.ptr 1 0, .d (.int .i64 id), .d (.int .i64 (11 : Nat))] [b0, [.e0], [.d (.bool false), .d (.int .i64 id), .d (.bool rm), .d (.int .i64 ln), .d (.slice rows)]] =
   some (.tup [], [b0, [acc (bitRows id 11)], [.d (.bool false), .d (.int .i64 id), .d (.bool rm), .d (.int .i64 ln), .d (.slice rows)]]) := d87 _ _ [] id 11 (by decide) hid rfl (by decide)
 have h2 := d88 b0 [.d (.bool false), .d (.int .i64 id), .d (.bool rm), .d (.int .i64 ln), .d (.slice rows)] (bitRows id 11) rm (bitRows_ok _ _) (by rw [bitRows_len]; decide)
 have h3 := d87 b0 [.d (.bool false), .d (.int .i64 id), .d (.bool rm), .d (.int .i64 ln), .d (.slice rows)] (bitRows id 11 ++ bitRows (bitOf rm) 1) 0 1 (by decide) (by decide) (rowsOk_append (bitRows_ok _ _) (bitRows_ok _ _)) (by simp [bitRows_len])
 simp at h1 h3
 unfold frP rankStd
 simp [Tryz.f183, ec_region, altD, ec_scope, ec_label, ec_seq, ec_cond, ec_skip, ec_exit, ec_ret, ec_block, seq_normal, seq_ret, seq_exit, if_t, if_f, regN, evOpsD, coreD, wantD, evCore, evPure, evCall, use, useL, useParts, opv, rd, putS, untake, moveIt, takes, af_nil, af_cons, appTmp, apartL, apartB, posOf, cellsOf, isBelowL, PV.isBelow, boxCells, isDataL, PV.isData, loadAs, loadS, storeS, storeAs, evFieldAddr, evField, partP, evSlice, bound, natOf, rowsOk, evIndexAddr, evIndex, evLen, fillP, bin_add, bin_sub, bin_mul, bin_lss, bin_leq, bin_gtr, bin_geq, bin_eql, bin_neq, bin_and, bin_andNot, un_not, mm_max, mm_min, ofValue, ofCell, slotOf, resVal, resOne, resL, retOf, toDL, toD, sameStore, sameCells, PV.same, DV.same_self, sameRows_self, sameL_self, st_undef, st1_undef, k0_undef, st_any, st1_any, k0_any, st_d, st1_d, sc_d, on_d, k0_d, st_ptr, st1_ptr, sc_ptr, on_ptr, k0_ptr, st_nilptr, st1_nilptr, sc_nilptr, on_nilptr, k0_nilptr, st_ro, st1_ro, sc_ro, on_ro, k0_ro, st_func, st1_func, sc_func, on_func, k0_func, st_nilFunc, st1_nilFunc, sc_nilFunc, on_nilFunc, k0_nilFunc, st_tup, st1_tup, st_agg, sc_agg, E1P, E1ap, Tryz.aggT34, Tryz.szT34, Tryz.aggT3, Tryz.szT3, Tryz.aggT4, Tryz.szT4, Tryz.underlying34, h1, h2, h3]
def rankExt (id : Int) (rm : Bool) : List (List DV) := bitRows (id / 2 ^ 18) 11 ++ bitRows 3 2 ++ bitRows (id % 2 ^ 18) 18 ++ bitRows (bitOf rm) 1
theorem bin_shr_u {P : Program} {t : TypeId} {k : IntKind} {a b : Int} (hb : 0 ≤ b) : evBin P .shr t (.d (.int .i64 a)) (.d (.int k b)) = some (.d (.int .i64 (a.fdiv (2 ^ (min b.toNat 64))))) := by
 have : ¬ b < 0 := by omega
 show (pureRun P (if b < 0 then _ else _)).bind ofScalar = _
 rw [if_neg this]
 rfl
theorem and18 (x : Int) (hx : 0 ≤ x ∧ x < 2 ^ 29) : IntKind.i64.wrap (BitVec.ofInt 64 x &&& BitVec.ofInt 64 262143).toNat = x % 2 ^ 18 := by
 have h1 : (BitVec.ofInt 64 262143).toNat = 2 ^ 18 - 1 := by decide
 have key : (BitVec.ofInt 64 x &&& BitVec.ofInt 64 262143).toNat = (x % ((2 ^ 64 : Nat) : Int)).toNat % 2 ^ 18 := by
  rw [BitVec.toNat_and, BitVec.toNat_ofInt, h1, Nat.and_two_pow_sub_one_eq_mod]
 rw [key, IntKind.wrap_i64]
 omega
theorem c80_ext (b0 : List PV) (id : Int) (rm : Bool) (ln : Int) (rows : List (List DV)) (hid : 0 ≤ id ∧ id < 2 ^ 29) :
  ∃ b2, evI E1 183 [.ptr 1 0, frP true id rm ln rows] [b0, [.e0]] = some (.tup [], [b0, [acc (rankExt id rm)], b2]) := by
 refine ⟨_, evI_run (σ' := [b0, [acc (rankExt id rm)], [.d (.bool true), .d (.int .i64 id), .d (.bool rm), .d (.int .i64 ln), .d (.slice rows)]]) (fn := Tryz.f183) 5 rfl Tryz.func183 rfl ?_⟩
 obtain ⟨B, hB⟩ : ∃ B : List PV, B = [.d (.bool true), .d (.int .i64 id), .d (.bool rm), .d (.int .i64 ln), .d (.slice rows)] := ⟨_, rfl⟩
 have h1 : callIt E1 (evI E1) 207 [.ptr 1 0, .d (.int .i64 (id / 2 ^ 18)), .d (.int .i64 (11 : Nat))] [b0, [.e0], B] = some (.tup [], [b0, [acc (bitRows (id / 2 ^ 18) 11)], B]) := d87 _ _ [] (id / 2 ^ 18) 11 (by decide) (by omega) rfl (by decide)
 have h2 := d87 b0 B (bitRows (id / 2 ^ 18) 11) 3 2 (by decide) (by decide) (bitRows_ok _ _) (by simp [bitRows_len])
 have h3 := d87 b0 B (bitRows (id / 2 ^ 18) 11 ++ bitRows 3 2) (id % 2 ^ 18) 18 (by decide) (by omega) (rowsOk_append (bitRows_ok _ _) (bitRows_ok _ _)) (by simp [bitRows_len])
 have h4 := d88 b0 B (bitRows (id / 2 ^ 18) 11 ++ bitRows 3 2 ++ bitRows (id % 2 ^ 18) 18) rm (rowsOk_append (rowsOk_append (bitRows_ok _ _) (bitRows_ok _ _)) (bitRows_ok _ _)) (by simp [bitRows_len])
 have s18 := bin_shr_u (P := Tryz.prog) (t := 3) (k := .u64) (a := id) (b := 18) (by decide)
 rw [show (2 : Int) ^ min (Int.toNat 18) 64 = 2 ^ 18 by decide, Int.fdiv_eq_ediv_of_nonneg _ (by decide)] at s18
 have a18 := and18 id hid
 subst hB
 simp at h1 h2 h3 h4 s18 a18
 unfold frP rankExt
 simp [Tryz.f183, ec_region, altD, ec_scope, ec_label, ec_seq, ec_cond, ec_skip, ec_exit, ec_ret, ec_block, seq_normal, seq_ret, seq_exit, if_t, if_f, regN, evOpsD, coreD, wantD, evCore, evPure, evCall, use, useL, useParts, opv, rd, putS, untake, moveIt, takes, af_nil, af_cons, appTmp, apartL, apartB, posOf, cellsOf, isBelowL, PV.isBelow, boxCells, isDataL, PV.isData, loadAs, loadS, storeS, storeAs, evFieldAddr, evField, partP, evSlice, bound, natOf, rowsOk, evIndexAddr, evIndex, evLen, fillP, bin_add, bin_sub, bin_mul, bin_lss, bin_leq, bin_gtr, bin_geq, bin_eql, bin_neq, bin_and, bin_andNot, un_not, mm_max, mm_min, ofValue, ofCell, slotOf, resVal, resOne, resL, retOf, toDL, toD, sameStore, sameCells, PV.same, DV.same_self, sameRows_self, sameL_self, st_undef, st1_undef, k0_undef, st_any, st1_any, k0_any, st_d, st1_d, sc_d, on_d, k0_d, st_ptr, st1_ptr, sc_ptr, on_ptr, k0_ptr, st_nilptr, st1_nilptr, sc_nilptr, on_nilptr, k0_nilptr, st_ro, st1_ro, sc_ro, on_ro, k0_ro, st_func, st1_func, sc_func, on_func, k0_func, st_nilFunc, st1_nilFunc, sc_nilFunc, on_nilFunc, k0_nilFunc, st_tup, st1_tup, st_agg, sc_agg, E1P, E1ap, Tryz.aggT34, Tryz.szT34, Tryz.aggT3, Tryz.szT3, Tryz.aggT4, Tryz.szT4, Tryz.underlying34, h1, h2, h3, h4, s18, a18]
def rankOf (e : Bool) (id : Int) (rm : Bool) : List (List DV) := if e then rankExt id rm else rankStd id rm
theorem d80 (b0 : List PV) (e : Bool) (id : Int) (rm : Bool) (ln : Int) (rows : List (List DV)) (hid : 0 ≤ id ∧ id < 2 ^ (if e then 29 else 11)) :
  callIt E1 (evI E1) 183 [.ptr 1 0, frP e id rm ln rows] [b0, [.e0]] = some (.tup [], [b0, [acc (rankOf e id rm)]]) := by
 cases e
 ·obtain ⟨b2, h⟩ := c80_std b0 id rm ln rows hid
  exact call_boxes rfl rfl rfl h rfl
 ·obtain ⟨b2, h⟩ := c80_ext b0 id rm ln rows hid
  exact call_boxes rfl rfl rfl h rfl
end Go.Proofs

set_option maxRecDepth 100000
set_option maxHeartbeats 4000000
namespace Go.Proofs
open Go.RowKit Go.Shelf Go.Pv
theorem Tryz.zeroT206 : zeroT Tryz.prog 206 = some (.agg [.e0]) := by kernel_rfl
theorem acc_data (rows : List (List DV)) : (acc rows).isData = true := by cases rows <;> rfl
theorem c64 (e : Bool) (id : Int) (rm : Bool) (ln : Int) (rows : List (List DV)) (hid : 0 ≤ id ∧ id < 2 ^ (if e then 29 else 11)) (σ : Store) :
  callIt E1 (evI E1) 138 [frP e id rm ln rows] σ = some (.d (.slice (rankOf e id rm)), σ) := by
 refine call_run (fn := Tryz.f138) 5 rfl rfl rfl Tryz.func138 rfl rfl ?_ rfl
 have h80 := d80 [.d (.bool e), .d (.int .i64 id), .d (.bool rm), .d (.int .i64 ln), .d (.slice rows)] e id rm ln rows hid
 unfold frP at h80 ⊢
 simp [Tryz.f138, ec_region, altD, ec_scope, ec_label, ec_seq, ec_cond, ec_skip, ec_exit, ec_ret, ec_block, seq_normal, seq_ret, seq_exit, if_t, if_f, regN, evOpsD, coreD, wantD, evCore, evPure, evCall, use, useL, useParts, opv, rd, putS, untake, moveIt, takes, af_nil, af_cons, appTmp, apartL, apartB, posOf, cellsOf, isBelowL, PV.isBelow, boxCells, isDataL, PV.isData, loadAs, loadS, storeS, storeAs, evFieldAddr, evField, partP, evSlice, bound, natOf, rowsOk, evIndexAddr, evIndex, evLen, fillP, bin_add, bin_sub, bin_mul, bin_lss, bin_leq, bin_gtr, bin_geq, bin_eql, bin_neq, bin_and, bin_andNot, un_not, mm_max, mm_min, ofValue, ofCell, slotOf, resVal, resOne, resL, retOf, toDL, toD, sameStore, sameCells, PV.same, DV.same_self, sameRows_self, sameL_self, st_undef, st1_undef, k0_undef, st_any, st1_any, k0_any, st_d, st1_d, sc_d, on_d, k0_d, st_ptr, st1_ptr, sc_ptr, on_ptr, k0_ptr, st_nilptr, st1_nilptr, sc_nilptr, on_nilptr, k0_nilptr, st_ro, st1_ro, sc_ro, on_ro, k0_ro, st_func, st1_func, sc_func, on_func, k0_func, st_nilFunc, st1_nilFunc, sc_nilFunc, on_nilFunc, k0_nilFunc, st_tup, st1_tup, st_agg, sc_agg, E1P, E1ap, Tryz.zeroT206, Tryz.aggT34, Tryz.szT34, Tryz.aggT39, Tryz.szT39, Tryz.underlying206, h80, acc_cells, acc_one, acc_below, acc_strip, acc_strip1]
def ndP (q : List (List DV)) (fs : List (List DV)) (t r s z : Int) (g : List (List DV)) : PV := .agg [.d (.slice q), .d (.slice fs), .d (.int .i64 t), .d (.int .i64 r), .d (.int .i64 s), .d (.int .i64 z), .d (.slice g)]
theorem Tryz.aggT49 : aggT Tryz.prog 49 = some true := by kernel_rfl
theorem Tryz.szT49 : szT Tryz.prog 49 = some 7 := by kernel_rfl
theorem Tryz.appT44 : appT Tryz.prog 44 = some (5, 56) := by kernel_rfl
theorem Tryz.aggT44 : aggT Tryz.prog 44 = some false := by kernel_rfl
theorem Tryz.szT44 : szT Tryz.prog 44 = some 1 := by kernel_rfl
theorem c42 (q fs : List (List DV)) (t r s z : Int) (g : List (List DV)) (σ : Store) : callIt E1 (evI E1) 124 [ndP q fs t r s z g] σ = some (.d (.bool (s == 3)), σ) := by
 refine call_run (fn := Tryz.f124) 5 rfl rfl rfl Tryz.func124 rfl rfl ?_ rfl
 unfold ndP
 simp [Tryz.f124, ec_region, altD, ec_scope, ec_label, ec_seq, ec_cond, ec_skip, ec_exit, ec_ret, ec_block, seq_normal, seq_ret, seq_exit, if_t, if_f, regN, evOpsD, coreD, wantD, evCore, evPure, evCall, use, useL, useParts, opv, rd, putS, untake, moveIt, takes, af_nil, af_cons, appTmp, apartL, apartB, posOf, cellsOf, isBelowL, PV.isBelow, boxCells, isDataL, PV.isData, loadAs, loadS, storeS, storeAs, evFieldAddr, evField, partP, evSlice, bound, natOf, rowsOk, evIndexAddr, evIndex, evLen, fillP, bin_add, bin_sub, bin_mul, bin_lss, bin_leq, bin_gtr, bin_geq, bin_eql, bin_neq, bin_and, bin_andNot, un_not, mm_max, mm_min, ofValue, ofCell, slotOf, resVal, resOne, resL, retOf, toDL, toD, sameStore, sameCells, PV.same, DV.same_self, sameRows_self, sameL_self, st_undef, st1_undef, k0_undef, st_any, st1_any, k0_any, st_d, st1_d, sc_d, on_d, k0_d, st_ptr, st1_ptr, sc_ptr, on_ptr, k0_ptr, st_nilptr, st1_nilptr, sc_nilptr, on_nilptr, k0_nilptr, st_ro, st1_ro, sc_ro, on_ro, k0_ro, st_func, st1_func, sc_func, on_func, k0_func, st_nilFunc, st1_nilFunc, sc_nilFunc, on_nilFunc, k0_nilFunc, st_tup, st1_tup, st_agg, sc_agg, E1P, E1ap, Tryz.aggT49, Tryz.szT49, Tryz.aggT47, Tryz.szT47, Tryz.aggT3, Tryz.szT3, Tryz.underlying49, Tryz.underlying47]
theorem c61 (rows : List (List DV)) (h : rowsOk 5 rows = true) (hb : rows.length * 56 ≤ roomB) (σ : Store) : callIt E1 (evI E1) 175 [.d (.slice rows)] σ = some (acc rows, σ) := by
 simp [callIt, E1ov, ovAll, isDataL, PV.isData, ovClone, h, hb, acc_data]
end Go.Proofs

set_option maxRecDepth 100000
set_option maxHeartbeats 4000000
namespace Go.Proofs
open Go.RowKit Go.Shelf Go.Pv
theorem app22 (rows xs : List (List DV)) (h : rowsOk 5 rows = true) (h' : rowsOk 5 xs = true) (hb : (rows.length + xs.length) * 56 ≤ roomB) : evAppend Tryz.prog 44 (acc rows) (.d (.slice xs)) = some (acc (rows ++ xs)) := by
 simp [evAppend, Tryz.appT44, acc_own, elemsOf, h, h', hb]
theorem Tryz.isz34 : ((Tryz.prog.info? 34).bind (·.zero)).isSome = true := by kernel_rfl
theorem c43 (rows : List (List DV)) (e : Bool) (id : Int) (rm : Bool) (ln : Int) (data : List (List DV)) (h : rowsOk 5 rows = true) (hb : (rows.length + 1) * 56 ≤ roomB) (σ : Store) :
  callIt E1 (evI E1) 125 [.d (.slice rows), frP e id rm ln data] σ = some (acc (rows ++ [frD e id rm ln data]), σ) := by
 refine call_run (fn := Tryz.f125) 5 rfl rfl rfl Tryz.func125 rfl rfl ?_ (acc_data _)
 have h61 := c61 rows h (by omega)
 have ha := app22 rows [frD e id rm ln data] h rfl (by simpa using hb)
 have hre : retOf (acc (rows ++ [frD e id rm ln data])) = acc (rows ++ [frD e id rm ln data]) := by cases rows <;> rfl
 unfold frD at ha hre ⊢
 unfold frP
 simp [Tryz.f125, ec_region, altD, ec_scope, ec_label, ec_seq, ec_cond, ec_skip, ec_exit, ec_ret, ec_block, seq_normal, seq_ret, seq_exit, if_t, if_f, regN, evOpsD, coreD, wantD, evCore, evPure, evCall, use, useL, useParts, opv, rd, putS, untake, moveIt, takes, af_nil, af_cons, appTmp, apartL, apartB, posOf, cellsOf, isBelowL, PV.isBelow, boxCells, isDataL, PV.isData, loadAs, loadS, storeS, storeAs, evFieldAddr, evField, partP, evSlice, bound, natOf, rowsOk, evIndexAddr, evIndex, evLen, fillP, bin_add, bin_sub, bin_mul, bin_lss, bin_leq, bin_gtr, bin_geq, bin_eql, bin_neq, bin_and, bin_andNot, un_not, mm_max, mm_min, ofValue, ofCell, slotOf, resVal, resOne, resL, toDL, toD, sameStore, sameCells, PV.same, DV.same_self, sameRows_self, sameL_self, st_undef, st1_undef, k0_undef, st_any, st1_any, k0_any, st_d, st1_d, sc_d, on_d, k0_d, st_ptr, st1_ptr, sc_ptr, on_ptr, k0_ptr, st_nilptr, st1_nilptr, sc_nilptr, on_nilptr, k0_nilptr, st_ro, st1_ro, sc_ro, on_ro, k0_ro, st_func, st1_func, sc_func, on_func, k0_func, st_nilFunc, st1_nilFunc, sc_nilFunc, on_nilFunc, k0_nilFunc, st_tup, st1_tup, st_agg, sc_agg, E1P, E1ap, Tryz.aggT34, Tryz.szT34, Tryz.aggT44, Tryz.szT44, Tryz.underlying44, Tryz.isz34, rowsFrom, h61, ha, acc_cells, acc_one, acc_below, acc_strip, acc_strip1, hre]
end Go.Proofs

set_option maxRecDepth 100000
set_option maxHeartbeats 4000000
namespace Go.Proofs
open Go.RowKit Go.Shelf Go.Pv
theorem c41 (e : Bool) (id : Int) (rm : Bool) (ln : Int) (rows : List (List DV)) (σ : Store) : callIt E1 (evI E1) 118 [frP e id rm ln rows] σ = some (.d (.bool (frRight e id rm ln rows)), σ) := by
 refine call_run (fn := Tryz.f118) 5 rfl rfl rfl Tryz.func118 rfl rfl ?_ rfl
 have s11 := bin_shr (P := Tryz.prog) (t := 3) (a := id) (b := 11) (by decide)
 have s29 := bin_shr (P := Tryz.prog) (t := 3) (a := id) (b := 29) (by decide)
 rw [show (2 : Int) ^ min (Int.toNat 11) 64 = 2 ^ 11 by decide] at s11
 rw [show (2 : Int) ^ min (Int.toNat 29) 64 = 2 ^ 29 by decide] at s29
 have key : ∀ (z : Int) (b1 b2 b3 b4 : Bool), evBin Tryz.prog .shr 3 (.d (.int .i64 id)) (.d (.int .i64 (if e then 29 else 11))) = some (.d (.int .i64 z)) → (z == 0) = b1 → decide (ln ≥ 0) = b2 → decide (ln ≤ 8) = b3 → ((rows.length : Int) == if rm then 0 else ln) = b4 →
   ((evCode E1 (evI E1) 5 (Tryz.f118.body.getD .skip) ⟨[frP e id rm ln rows] ++ List.replicate (Tryz.f118.ntmps - [frP e id rm ln rows].length) .undef, []⟩).bind fun r => if r.1 = .normal ∨ r.1 = .ret then resVal E1.P Tryz.f118 r.2 else none) = some (.d (.bool (b1 && b2 && b3 && b4))) := by
  intro z b1 b2 b3 b4 hz h1 h2 h3 h4
  unfold frP
  cases e <;> cases rm <;> simp only [if_true, if_false, Bool.false_eq_true] at hz h4 <;> cases b1 <;> first
   | (simp [Tryz.f118, ec_region, altD, ec_scope, ec_label, ec_seq, ec_cond, ec_skip, ec_exit, ec_ret, ec_block, seq_normal, seq_ret, seq_exit, if_t, if_f, regN, evOpsD, coreD, wantD, evCore, evPure, evCall, use, useL, useParts, opv, rd, putS, untake, moveIt, takes, af_nil, af_cons, appTmp, apartL, apartB, posOf, cellsOf, isBelowL, PV.isBelow, boxCells, isDataL, PV.isData, loadAs, loadS, storeS, storeAs, storedCells, oneP, PV.strip, PV.strip1, PV.keep0, evFieldAddr, evField, partP, evSlice, bound, natOf, rowsOk, evIndexAddr, evIndex, evLen, evAppend, ownRows, elemsOf, acc, fillP, bin_add, bin_sub, bin_mul, bin_lss, bin_leq, bin_gtr, bin_geq, bin_eql, bin_neq, bin_and, bin_andNot, un_not, mm_max, mm_min, ofValue, ofCell, slotOf, resVal, resOne, resL, retOf, toDL, toD, sameStore, sameCells, PV.same, DV.same_self, sameRows_self, sameL_self, E1P, E1ap, Tryz.aggT3, Tryz.szT3, Tryz.aggT34, Tryz.szT34, Tryz.aggT4, Tryz.szT4, Tryz.aggT32, Tryz.szT32, Tryz.underlying34, Tryz.underlying32, hz, h1]; done)
   | (cases b2 <;> first
    | (simp [Tryz.f118, ec_region, altD, ec_scope, ec_label, ec_seq, ec_cond, ec_skip, ec_exit, ec_ret, ec_block, seq_normal, seq_ret, seq_exit, if_t, if_f, regN, evOpsD, coreD, wantD, evCore, evPure, evCall, use, useL, useParts, opv, rd, putS, untake, moveIt, takes, af_nil, af_cons, appTmp, apartL, apartB, posOf, cellsOf, isBelowL, PV.isBelow, boxCells, isDataL, PV.isData, loadAs, loadS, storeS, storeAs, storedCells, oneP, PV.strip, PV.strip1, PV.keep0, evFieldAddr, evField, partP, evSlice, bound, natOf, rowsOk, evIndexAddr, evIndex, evLen, evAppend, ownRows, elemsOf, acc, fillP, bin_add, bin_sub, bin_mul, bin_lss, bin_leq, bin_gtr, bin_geq, bin_eql, bin_neq, bin_and, bin_andNot, un_not, mm_max, mm_min, ofValue, ofCell, slotOf, resVal, resOne, resL, retOf, toDL, toD, sameStore, sameCells, PV.same, DV.same_self, sameRows_self, sameL_self, E1P, E1ap, Tryz.aggT3, Tryz.szT3, Tryz.aggT34, Tryz.szT34, Tryz.aggT4, Tryz.szT4, Tryz.aggT32, Tryz.szT32, Tryz.underlying34, Tryz.underlying32, hz, h1, h2]; done)
    | (cases b3 <;> first
     | (simp [Tryz.f118, ec_region, altD, ec_scope, ec_label, ec_seq, ec_cond, ec_skip, ec_exit, ec_ret, ec_block, seq_normal, seq_ret, seq_exit, if_t, if_f, regN, evOpsD, coreD, wantD, evCore, evPure, evCall, use, useL, useParts, opv, rd, putS, untake, moveIt, takes, af_nil, af_cons, appTmp, apartL, apartB, posOf, cellsOf, isBelowL, PV.isBelow, boxCells, isDataL, PV.isData, loadAs, loadS, storeS, storeAs, storedCells, oneP, PV.strip, PV.strip1, PV.keep0, evFieldAddr, evField, partP, evSlice, bound, natOf, rowsOk, evIndexAddr, evIndex, evLen, evAppend, ownRows, elemsOf, acc, fillP, bin_add, bin_sub, bin_mul, bin_lss, bin_leq, bin_gtr, bin_geq, bin_eql, bin_neq, bin_and, bin_andNot, un_not, mm_max, mm_min, ofValue, ofCell, slotOf, resVal, resOne, resL, retOf, toDL, toD, sameStore, sameCells, PV.same, DV.same_self, sameRows_self, sameL_self, E1P, E1ap, Tryz.aggT3, Tryz.szT3, Tryz.aggT34, Tryz.szT34, Tryz.aggT4, Tryz.szT4, Tryz.aggT32, Tryz.szT32, Tryz.underlying34, Tryz.underlying32, hz, h1, h2, h3]; done)
     | (simp [Tryz.f118, ec_region, altD, ec_scope, ec_label, ec_seq, ec_cond, ec_skip, ec_exit, ec_ret, ec_block, seq_normal, seq_ret, seq_exit, if_t, if_f, regN, evOpsD, coreD, wantD, evCore, evPure, evCall, use, useL, useParts, opv, rd, putS, untake, moveIt, takes, af_nil, af_cons, appTmp, apartL, apartB, posOf, cellsOf, isBelowL, PV.isBelow, boxCells, isDataL, PV.isData, loadAs, loadS, storeS, storeAs, storedCells, oneP, PV.strip, PV.strip1, PV.keep0, evFieldAddr, evField, partP, evSlice, bound, natOf, rowsOk, evIndexAddr, evIndex, evLen, evAppend, ownRows, elemsOf, acc, fillP, bin_add, bin_sub, bin_mul, bin_lss, bin_leq, bin_gtr, bin_geq, bin_eql, bin_neq, bin_and, bin_andNot, un_not, mm_max, mm_min, ofValue, ofCell, slotOf, resVal, resOne, resL, retOf, toDL, toD, sameStore, sameCells, PV.same, DV.same_self, sameRows_self, sameL_self, E1P, E1ap, Tryz.aggT3, Tryz.szT3, Tryz.aggT34, Tryz.szT34, Tryz.aggT4, Tryz.szT4, Tryz.aggT32, Tryz.szT32, Tryz.underlying34, Tryz.underlying32, hz, h1, h2, h3, h4]; done)))
 have := key (id.fdiv (2 ^ (if e then 29 else 11))) _ _ _ _ (by cases e <;> simpa using (by assumption)) rfl rfl rfl rfl
 exact this
end Go.Proofs

set_option maxRecDepth 100000
set_option maxHeartbeats 4000000
namespace Go.Proofs
open Go.RowKit Go.Shelf Go.Pv
theorem Tryz.zeroT49 : zeroT Tryz.prog 49 = some (.agg [.e0, .e0, .d (.int .i64 0), .d (.int .i64 0), .d (.int .i64 0), .d (.int .i64 0), .e0]) := by kernel_rfl
theorem c14_bad (q fs : List (List DV)) (t r s z : Int) (g : List (List DV)) (e : Bool) (id : Int) (rm : Bool) (ln : Int) (data : List (List DV)) (σ : Store) (hf : frRight e id rm ln data = false) :
  callIt E1 (evI E1) 55 [ndP q fs t r s z g, frP e id rm ln data] σ = some (.tup [ndP q fs t r s z g, .d (.int .i64 90)], σ) := by
 refine call_run (fn := Tryz.f55) 5 rfl rfl rfl Tryz.func55 rfl rfl ?_ rfl
 have h41 := c41 e id rm ln data
 rw [hf] at h41
 unfold frP at h41 ⊢
 unfold ndP
 simp [Tryz.f55, ec_region, altD, ec_scope, ec_label, ec_seq, ec_cond, ec_skip, ec_exit, ec_ret, ec_block, seq_normal, seq_ret, seq_exit, if_t, if_f, regN, evOpsD, coreD, wantD, evCore, evPure, evCall, use, useL, useParts, opv, rd, putS, untake, moveIt, takes, af_nil, af_cons, appTmp, apartL, apartB, posOf, cellsOf, isBelowL, PV.isBelow, boxCells, isDataL, PV.isData, loadAs, loadS, storeS, storeAs, evFieldAddr, evField, partP, evSlice, bound, natOf, rowsOk, evIndexAddr, evIndex, evLen, fillP, bin_add, bin_sub, bin_mul, bin_lss, bin_leq, bin_gtr, bin_geq, bin_eql, bin_neq, bin_and, bin_andNot, un_not, mm_max, mm_min, ofValue, ofCell, slotOf, resVal, resOne, resL, retOf, toDL, toD, sameStore, sameCells, PV.same, DV.same_self, sameRows_self, sameL_self, st_undef, st1_undef, k0_undef, st_any, st1_any, k0_any, st_d, st1_d, sc_d, on_d, k0_d, st_ptr, st1_ptr, sc_ptr, on_ptr, k0_ptr, st_nilptr, st1_nilptr, sc_nilptr, on_nilptr, k0_nilptr, st_ro, st1_ro, sc_ro, on_ro, k0_ro, st_func, st1_func, sc_func, on_func, k0_func, st_nilFunc, st1_nilFunc, sc_nilFunc, on_nilFunc, k0_nilFunc, st_tup, st1_tup, st_agg, sc_agg, E1P, E1ap, Tryz.aggT34, Tryz.szT34, Tryz.aggT49, Tryz.szT49, Tryz.zeroT49, Tryz.underlying49, h41]
theorem c14_off (q fs : List (List DV)) (t r s z : Int) (g : List (List DV)) (e : Bool) (id : Int) (rm : Bool) (ln : Int) (data : List (List DV)) (σ : Store) (hf : frRight e id rm ln data = true) (hs : s = 3) :
  callIt E1 (evI E1) 55 [ndP q fs t r s z g, frP e id rm ln data] σ = some (.tup [ndP q fs t r s z g, .d (.int .i64 3)], σ) := by
 refine call_run (fn := Tryz.f55) 5 rfl rfl rfl Tryz.func55 rfl rfl ?_ rfl
 have h41 := c41 e id rm ln data
 have h42 := c42 q fs t r s z g
 subst hs
 rw [hf] at h41
 unfold frP at h41 ⊢
 unfold ndP at h42 ⊢
 simp at h42
 simp [Tryz.f55, ec_region, altD, ec_scope, ec_label, ec_seq, ec_cond, ec_skip, ec_exit, ec_ret, ec_block, seq_normal, seq_ret, seq_exit, if_t, if_f, regN, evOpsD, coreD, wantD, evCore, evPure, evCall, use, useL, useParts, opv, rd, putS, untake, moveIt, takes, af_nil, af_cons, appTmp, apartL, apartB, posOf, cellsOf, isBelowL, PV.isBelow, boxCells, isDataL, PV.isData, loadAs, loadS, storeS, storeAs, evFieldAddr, evField, partP, evSlice, bound, natOf, rowsOk, evIndexAddr, evIndex, evLen, fillP, bin_add, bin_sub, bin_mul, bin_lss, bin_leq, bin_gtr, bin_geq, bin_eql, bin_neq, bin_and, bin_andNot, un_not, mm_max, mm_min, ofValue, ofCell, slotOf, resVal, resOne, resL, retOf, toDL, toD, sameStore, sameCells, PV.same, DV.same_self, sameRows_self, sameL_self, st_undef, st1_undef, k0_undef, st_any, st1_any, k0_any, st_d, st1_d, sc_d, on_d, k0_d, st_ptr, st1_ptr, sc_ptr, on_ptr, k0_ptr, st_nilptr, st1_nilptr, sc_nilptr, on_nilptr, k0_nilptr, st_ro, st1_ro, sc_ro, on_ro, k0_ro, st_func, st1_func, sc_func, on_func, k0_func, st_nilFunc, st1_nilFunc, sc_nilFunc, on_nilFunc, k0_nilFunc, st_tup, st1_tup, st_agg, sc_agg, E1P, E1ap, Tryz.aggT34, Tryz.szT34, Tryz.aggT49, Tryz.szT49, Tryz.zeroT49, Tryz.underlying49, h41, h42]
theorem c14_full (q fs : List (List DV)) (t r s z : Int) (g : List (List DV)) (e : Bool) (id : Int) (rm : Bool) (ln : Int) (data : List (List DV)) (σ : Store) (hf : frRight e id rm ln data = true) (hs : s ≠ 3) (hq : 16 ≤ q.length) :
  callIt E1 (evI E1) 55 [ndP q fs t r s z g, frP e id rm ln data] σ = some (.tup [ndP q fs t r s z g, .d (.int .i64 2)], σ) := by
 refine call_run (fn := Tryz.f55) 5 rfl rfl rfl Tryz.func55 rfl rfl ?_ rfl
 have h41 := c41 e id rm ln data
 have h42 := c42 q fs t r s z g
 have hb : (s == 3) = false := by simpa using hs
 have hl : (16 : Int) ≤ (q.length : Int) := by omega
 rw [hf] at h41
 rw [hb] at h42
 unfold frP at h41 ⊢
 unfold ndP at h42 ⊢
 simp [Tryz.f55, ec_region, altD, ec_scope, ec_label, ec_seq, ec_cond, ec_skip, ec_exit, ec_ret, ec_block, seq_normal, seq_ret, seq_exit, if_t, if_f, regN, evOpsD, coreD, wantD, evCore, evPure, evCall, use, useL, useParts, opv, rd, putS, untake, moveIt, takes, af_nil, af_cons, appTmp, apartL, apartB, posOf, cellsOf, isBelowL, PV.isBelow, boxCells, isDataL, PV.isData, loadAs, loadS, storeS, storeAs, evFieldAddr, evField, partP, evSlice, bound, natOf, rowsOk, evIndexAddr, evIndex, evLen, fillP, bin_add, bin_sub, bin_mul, bin_lss, bin_leq, bin_gtr, bin_geq, bin_eql, bin_neq, bin_and, bin_andNot, un_not, mm_max, mm_min, ofValue, ofCell, slotOf, resVal, resOne, resL, retOf, toDL, toD, sameStore, sameCells, PV.same, DV.same_self, sameRows_self, sameL_self, st_undef, st1_undef, k0_undef, st_any, st1_any, k0_any, st_d, st1_d, sc_d, on_d, k0_d, st_ptr, st1_ptr, sc_ptr, on_ptr, k0_ptr, st_nilptr, st1_nilptr, sc_nilptr, on_nilptr, k0_nilptr, st_ro, st1_ro, sc_ro, on_ro, k0_ro, st_func, st1_func, sc_func, on_func, k0_func, st_nilFunc, st1_nilFunc, sc_nilFunc, on_nilFunc, k0_nilFunc, st_tup, st1_tup, st_agg, sc_agg, E1P, E1ap, Tryz.aggT34, Tryz.szT34, Tryz.aggT49, Tryz.szT49, Tryz.aggT44, Tryz.szT44, Tryz.zeroT49, Tryz.underlying49, Tryz.underlying44, h41, h42, hl]
theorem c14_ok (q fs : List (List DV)) (t r s z : Int) (g : List (List DV)) (e : Bool) (id : Int) (rm : Bool) (ln : Int) (data : List (List DV)) (σ : Store) (hf : frRight e id rm ln data = true) (hs : s ≠ 3) (hq : q.length < 16) (hok : rowsOk 5 q = true) :
  callIt E1 (evI E1) 55 [ndP q fs t r s z g, frP e id rm ln data] σ = some (.tup [ndP (q ++ [frD e id rm ln data]) fs t r s z g, .d (.int .i64 0)], σ) := by
 refine call_run (fn := Tryz.f55) 5 rfl rfl rfl Tryz.func55 rfl rfl ?_ rfl
 have h41 := c41 e id rm ln data
 have h42 := c42 q fs t r s z g
 have h43 := c43 q e id rm ln data hok (by simp only [roomB]; omega)
 have hb : (s == 3) = false := by simpa using hs
 have hl : ¬ (16 : Int) ≤ (q.length : Int) := by omega
 rw [hf] at h41
 rw [hb] at h42
 unfold frP at h41 h43 ⊢
 unfold ndP at h42 ⊢
 simp [Tryz.f55, ec_region, altD, ec_scope, ec_label, ec_seq, ec_cond, ec_skip, ec_exit, ec_ret, ec_block, seq_normal, seq_ret, seq_exit, if_t, if_f, regN, evOpsD, coreD, wantD, evCore, evPure, evCall, use, useL, useParts, opv, rd, putS, untake, moveIt, takes, af_nil, af_cons, appTmp, apartL, apartB, posOf, cellsOf, isBelowL, PV.isBelow, boxCells, isDataL, PV.isData, loadAs, loadS, storeS, storeAs, evFieldAddr, evField, partP, evSlice, bound, natOf, rowsOk, evIndexAddr, evIndex, evLen, fillP, bin_add, bin_sub, bin_mul, bin_lss, bin_leq, bin_gtr, bin_geq, bin_eql, bin_neq, bin_and, bin_andNot, un_not, mm_max, mm_min, ofValue, ofCell, slotOf, resVal, resOne, resL, retOf, toDL, toD, sameStore, sameCells, PV.same, DV.same_self, sameRows_self, sameL_self, st_undef, st1_undef, k0_undef, st_any, st1_any, k0_any, st_d, st1_d, sc_d, on_d, k0_d, st_ptr, st1_ptr, sc_ptr, on_ptr, k0_ptr, st_nilptr, st1_nilptr, sc_nilptr, on_nilptr, k0_nilptr, st_ro, st1_ro, sc_ro, on_ro, k0_ro, st_func, st1_func, sc_func, on_func, k0_func, st_nilFunc, st1_nilFunc, sc_nilFunc, on_nilFunc, k0_nilFunc, st_tup, st1_tup, st_agg, sc_agg, E1P, E1ap, Tryz.aggT34, Tryz.szT34, Tryz.aggT49, Tryz.szT49, Tryz.aggT44, Tryz.szT44, Tryz.zeroT49, Tryz.underlying49, Tryz.underlying44, h41, h42, h43, hl, acc_cells, acc_one, acc_below, acc_strip, acc_strip1]
end Go.Proofs

set_option maxRecDepth 100000
set_option maxHeartbeats 4000000
namespace Go.Proofs
open Go.RowKit Go.Shelf Go.Pv
theorem st_e0 : PV.strip .e0 = .d (.slice []) := rfl
theorem st1_e0 : PV.strip1 .e0 = .d (.slice []) := rfl
theorem k0_e0 : PV.keep0 .e0 = .e0 := rfl
theorem on_e0 : oneP .e0 = true := rfl
theorem sc_e0 : storedCells .e0 = [.e0] := rfl
theorem d49 (t r s q what : Int) (ht : 0 ≤ t ∧ t ≤ 900) (hr : 0 ≤ r ∧ r ≤ 900) (hq : 0 ≤ q ∧ q ≤ 900) (hw : 1 ≤ what ∧ what ≤ 6) (σ : Store) : callIt E1 (evI E1) 139 [cn t r s q, .d (.int .i64 what)] σ = some (stepV t r s q what, σ) := by
 have hv : (stepV t r s q what).isData = true := by unfold stepV cn; split <;> (try split) <;> (try split) <;> rfl
 unfold cn
 simp [callIt, E1ov, ovAll, isDataL, PV.isData, ovStep, ht, hr, hq, hw, hv]
theorem c22_none (q fs : List (List DV)) (t r s z : Int) (σ : Store) :
  callIt E1 (evI E1) 103 [ndP q fs t r s z []] σ = some (.tup [ndP q fs t r s z [], frP false 0 false 0 [], .d (.bool false)], σ) := by
 refine call_run (fn := Tryz.f103) 5 rfl rfl rfl Tryz.func103 rfl rfl ?_ rfl
 have z35 : zeroT Tryz.prog 34 = some (.agg [.d (.bool false), .d (.int .i64 0), .d (.bool false), .d (.int .i64 0), .e0]) := by kernel_rfl
 have pl : placesOf Tryz.prog 34 = some (fun i => [(0, 1), (1, 1), (2, 1), (3, 1), (4, 1)][i]?) := by kernel_rfl
 unfold ndP frP
 simp [Tryz.f103, ec_region, altD, ec_scope, ec_label, ec_seq, ec_cond, ec_skip, ec_exit, ec_ret, ec_block, seq_normal, seq_ret, seq_exit, if_t, if_f, regN, evOpsD, coreD, wantD, evCore, evPure, evCall, use, useL, useParts, opv, rd, putS, untake, moveIt, takes, af_nil, af_cons, appTmp, apartL, apartB, posOf, cellsOf, isBelowL, PV.isBelow, boxCells, isDataL, PV.isData, loadAs, loadS, storeS, storeAs, evFieldAddr, evField, partP, evSlice, bound, natOf, rowsOk, evIndexAddr, evIndex, evLen, fillP, bin_add, bin_sub, bin_mul, bin_lss, bin_leq, bin_gtr, bin_geq, bin_eql, bin_neq, bin_and, bin_andNot, un_not, mm_max, mm_min, ofValue, ofCell, slotOf, resVal, resOne, resL, retOf, toDL, toD, sameStore, sameCells, PV.same, DV.same_self, sameRows_self, sameL_self, st_undef, st1_undef, k0_undef, st_any, st1_any, k0_any, st_d, st1_d, sc_d, on_d, k0_d, st_ptr, st1_ptr, sc_ptr, on_ptr, k0_ptr, st_nilptr, st1_nilptr, sc_nilptr, on_nilptr, k0_nilptr, st_ro, st1_ro, sc_ro, on_ro, k0_ro, st_func, st1_func, sc_func, on_func, k0_func, st_nilFunc, st1_nilFunc, sc_nilFunc, on_nilFunc, k0_nilFunc, st_tup, st1_tup, st_agg, sc_agg, E1P, E1ap, Tryz.aggT34, Tryz.szT34, Tryz.aggT49, Tryz.szT49, Tryz.aggT44, Tryz.szT44, Tryz.zeroT49, z35, pl, Tryz.underlying49, Tryz.underlying44, st_e0, st1_e0, k0_e0, on_e0, sc_e0]
theorem c48 (rows : List (List DV)) (i : Nat) (h : rowsOk 5 rows = true) (hb : rows.length * 56 ≤ roomB) (hi : i < rows.length) (σ : Store) : callIt E1 (evI E1) 144 [.d (.slice rows), .d (.int .i64 i)] σ = some (.d (.slice (rows.eraseIdx i)), σ) := by
 have h0 : (0 : Int) ≤ i := by omega
 simp [callIt, E1ov, ovAll, isDataL, PV.isData, ovWithout, h, hb, hi, h0]
theorem c22_some (q fs : List (List DV)) (t r s z : Int) (e : Bool) (id : Int) (rm : Bool) (ln : Int) (data : List (List DV)) (rest : List (List DV)) (h : rowsOk 5 rest = true) (hb : (rest.length + 1) * 56 ≤ roomB) (σ : Store) :
  callIt E1 (evI E1) 103 [ndP q fs t r s z (frD e id rm ln data :: rest)] σ = some (.tup [ndP q fs t r s z rest, frP e id rm ln data, .d (.bool true)], σ) := by
 refine call_run (fn := Tryz.f103) 5 rfl rfl rfl Tryz.func103 rfl rfl ?_ rfl
 have z35 : zeroT Tryz.prog 34 = some (.agg [.d (.bool false), .d (.int .i64 0), .d (.bool false), .d (.int .i64 0), .e0]) := by kernel_rfl
 have h48 := c48 (frD e id rm ln data :: rest) 0 (by unfold rowsOk at h ⊢; rw [List.all_cons, h]; rfl) (by simpa using hb) (by simp)
 simp at h48
 have hl : ((rest.length : Int) + 1 == 0) = false := by rw [beq_eq_false_iff_ne]; omega
 unfold ndP frP frD at *
 simp [Tryz.f103, ec_region, altD, ec_scope, ec_label, ec_seq, ec_cond, ec_skip, ec_exit, ec_ret, ec_block, seq_normal, seq_ret, seq_exit, if_t, if_f, regN, evOpsD, coreD, wantD, evCore, evPure, evCall, use, useL, useParts, opv, rd, putS, untake, moveIt, takes, af_nil, af_cons, appTmp, apartL, apartB, posOf, cellsOf, isBelowL, PV.isBelow, boxCells, isDataL, PV.isData, loadAs, loadS, storeS, storeAs, evFieldAddr, evField, partP, evSlice, bound, natOf, rowsOk, evIndexAddr, evIndex, evLen, fillP, bin_add, bin_sub, bin_mul, bin_lss, bin_leq, bin_gtr, bin_geq, bin_eql, bin_neq, bin_and, bin_andNot, un_not, mm_max, mm_min, ofValue, ofCell, slotOf, resVal, resOne, resL, retOf, toDL, toD, sameStore, sameCells, PV.same, DV.same_self, sameRows_self, sameL_self, st_undef, st1_undef, k0_undef, st_any, st1_any, k0_any, st_d, st1_d, sc_d, on_d, k0_d, st_ptr, st1_ptr, sc_ptr, on_ptr, k0_ptr, st_nilptr, st1_nilptr, sc_nilptr, on_nilptr, k0_nilptr, st_ro, st1_ro, sc_ro, on_ro, k0_ro, st_func, st1_func, sc_func, on_func, k0_func, st_nilFunc, st1_nilFunc, sc_nilFunc, on_nilFunc, k0_nilFunc, st_tup, st1_tup, st_agg, sc_agg, E1P, E1ap, Tryz.aggT34, Tryz.szT34, Tryz.aggT49, Tryz.szT49, Tryz.aggT44, Tryz.szT44, Tryz.zeroT49, z35, Tryz.underlying49, Tryz.underlying44, st_e0, st1_e0, k0_e0, on_e0, sc_e0, h48, hl]
end Go.Proofs

set_option maxRecDepth 100000
set_option maxHeartbeats 4000000
namespace Go.Proofs
open Go.RowKit Go.Shelf Go.Pv
def stT (t r s q what : Int) : Int := if s = 3 then (if what = 6 ∧ q + 1 = 128 then 0 else t) else if wkT what t > 255 then 256 else wkT what t
def stR (t r s q what : Int) : Int := if s = 3 then (if what = 6 ∧ q + 1 = 128 then 0 else r) else if wkT what t > 255 then 0 else wkR what r
def stS (t r s q what : Int) : Int := if s = 3 then (if what = 6 ∧ q + 1 = 128 then 1 else 3) else if wkT what t > 255 then 3 else if max (wkT what t) (wkR what r) > 127 then 2 else 1
def stQ (t r s q what : Int) : Int := if s = 3 then (if what = 6 then (if q + 1 = 128 then 0 else q + 1) else q) else if wkT what t > 255 then 0 else q
theorem stepV_eq (t r s q what : Int) : stepV t r s q what = cn (stT t r s q what) (stR t r s q what) (stS t r s q what) (stQ t r s q what) := by
 unfold stepV stT stR stS stQ
 by_cases hs : s = 3
 ·subst hs
  by_cases h6 : what = 6
  ·by_cases hq : q + 1 = 128 <;> simp [h6, hq]
  ·simp [h6]
 ·by_cases hT : wkT what t > 255 <;> simp [hs, hT]
end Go.Proofs

set_option maxRecDepth 100000
namespace Go.Proofs
open Go.RowKit Go.Shelf Go.Pv
@[simp] theorem Ty.a3 : aggT Tryz.prog 3 = some false := by kernel_rfl
@[simp] theorem Ty.s3 : szT Tryz.prog 3 = some 1 := by kernel_rfl
@[simp] theorem Ty.z3 : zeroT Tryz.prog 3 = some (.d (.int .i64 0)) := by kernel_rfl
@[simp] theorem Ty.a4 : aggT Tryz.prog 4 = some false := by kernel_rfl
@[simp] theorem Ty.s4 : szT Tryz.prog 4 = some 1 := by kernel_rfl
@[simp] theorem Ty.z4 : zeroT Tryz.prog 4 = some (.d (.bool false)) := by kernel_rfl
@[simp] theorem Ty.a5 : aggT Tryz.prog 5 = some false := by kernel_rfl
@[simp] theorem Ty.s5 : szT Tryz.prog 5 = some 1 := by kernel_rfl
@[simp] theorem Ty.z5 : zeroT Tryz.prog 5 = some (.d (.int .u8 0)) := by kernel_rfl
@[simp] theorem Ty.a9 : aggT Tryz.prog 9 = some false := by kernel_rfl
@[simp] theorem Ty.s9 : szT Tryz.prog 9 = some 1 := by kernel_rfl
@[simp] theorem Ty.z9 : zeroT Tryz.prog 9 = some (.d (.str "".toUTF8)) := by kernel_rfl
@[simp] theorem Ty.a22 : aggT Tryz.prog 22 = some false := by kernel_rfl
@[simp] theorem Ty.s22 : szT Tryz.prog 22 = some 1 := by kernel_rfl
@[simp] theorem Ty.z22 : zeroT Tryz.prog 22 = some (.e0) := by kernel_rfl
@[simp] theorem Ty.app22 : appT Tryz.prog 22 = some (7, 104) := by kernel_rfl
@[simp] theorem Ty.iz49 : ((Tryz.prog.info? 49).bind (·.zero)).isSome = true := by kernel_rfl
@[simp] theorem Ty.a23 : aggT Tryz.prog 23 = some false := by kernel_rfl
@[simp] theorem Ty.s23 : szT Tryz.prog 23 = some 1 := by kernel_rfl
@[simp] theorem Ty.z23 : zeroT Tryz.prog 23 = some (.e0) := by kernel_rfl
@[simp] theorem Ty.app23 : appT Tryz.prog 23 = some (1, 24) := by kernel_rfl
@[simp] theorem Ty.iz41 : ((Tryz.prog.info? 41).bind (·.zero)).isSome = true := by kernel_rfl
@[simp] theorem Ty.a27 : aggT Tryz.prog 27 = some false := by kernel_rfl
@[simp] theorem Ty.s27 : szT Tryz.prog 27 = some 1 := by kernel_rfl
@[simp] theorem Ty.z27 : zeroT Tryz.prog 27 = some (.e0) := by kernel_rfl
@[simp] theorem Ty.app27 : appT Tryz.prog 27 = some (8, 80) := by kernel_rfl
@[simp] theorem Ty.iz36 : ((Tryz.prog.info? 36).bind (·.zero)).isSome = true := by kernel_rfl
@[simp] theorem Ty.a32 : aggT Tryz.prog 32 = some false := by kernel_rfl
@[simp] theorem Ty.s32 : szT Tryz.prog 32 = some 1 := by kernel_rfl
@[simp] theorem Ty.z32 : zeroT Tryz.prog 32 = some (.e0) := by kernel_rfl
@[simp] theorem Ty.app32 : appT Tryz.prog 32 = some (1, 1) := by kernel_rfl
@[simp] theorem Ty.iz5 : ((Tryz.prog.info? 5).bind (·.zero)).isSome = true := by kernel_rfl
@[simp] theorem Ty.a34 : aggT Tryz.prog 34 = some true := by kernel_rfl
@[simp] theorem Ty.s34 : szT Tryz.prog 34 = some 5 := by kernel_rfl
@[simp] theorem Ty.z34 : zeroT Tryz.prog 34 = some (.agg [.d (.bool false), .d (.int .i64 0), .d (.bool false), .d (.int .i64 0), .e0]) := by kernel_rfl
@[simp] theorem Ty.p34 : placesOf Tryz.prog 34 = some (fun i => ([(0, 1), (1, 1), (2, 1), (3, 1), (4, 1)] : List (Nat × Nat))[i]?) := by kernel_rfl
@[simp] theorem Ty.a36 : aggT Tryz.prog 36 = some true := by kernel_rfl
@[simp] theorem Ty.s36 : szT Tryz.prog 36 = some 8 := by kernel_rfl
@[simp] theorem Ty.z36 : zeroT Tryz.prog 36 = some (.agg [.d (.int .i64 0), .d (.bool false), .d (.int .i64 0), .d (.bool false), .d (.int .i64 0), .e0, .d (.bool false), .d (.int .i64 0)]) := by kernel_rfl
@[simp] theorem Ty.p36 : placesOf Tryz.prog 36 = some (fun i => ([(0, 1), (1, 5), (6, 1), (7, 1)] : List (Nat × Nat))[i]?) := by kernel_rfl
@[simp] theorem Ty.a39 : aggT Tryz.prog 39 = some false := by kernel_rfl
@[simp] theorem Ty.s39 : szT Tryz.prog 39 = some 1 := by kernel_rfl
@[simp] theorem Ty.z39 : zeroT Tryz.prog 39 = some (.e0) := by kernel_rfl
@[simp] theorem Ty.app39 : appT Tryz.prog 39 = some (1, 8) := by kernel_rfl
@[simp] theorem Ty.iz3 : ((Tryz.prog.info? 3).bind (·.zero)).isSome = true := by kernel_rfl
@[simp] theorem Ty.a41 : aggT Tryz.prog 41 = some true := by kernel_rfl
@[simp] theorem Ty.s41 : szT Tryz.prog 41 = some 1 := by kernel_rfl
@[simp] theorem Ty.z41 : zeroT Tryz.prog 41 = some (.agg [.e0]) := by kernel_rfl
@[simp] theorem Ty.p41 : placesOf Tryz.prog 41 = some (fun i => ([(0, 1)] : List (Nat × Nat))[i]?) := by kernel_rfl
@[simp] theorem Ty.a44 : aggT Tryz.prog 44 = some false := by kernel_rfl
@[simp] theorem Ty.s44 : szT Tryz.prog 44 = some 1 := by kernel_rfl
@[simp] theorem Ty.z44 : zeroT Tryz.prog 44 = some (.e0) := by kernel_rfl
@[simp] theorem Ty.app44 : appT Tryz.prog 44 = some (5, 56) := by kernel_rfl
@[simp] theorem Ty.iz34 : ((Tryz.prog.info? 34).bind (·.zero)).isSome = true := by kernel_rfl
@[simp] theorem Ty.a45 : aggT Tryz.prog 45 = some false := by kernel_rfl
@[simp] theorem Ty.s45 : szT Tryz.prog 45 = some 1 := by kernel_rfl
@[simp] theorem Ty.z45 : zeroT Tryz.prog 45 = some (.e0) := by kernel_rfl
@[simp] theorem Ty.app45 : appT Tryz.prog 45 = some (3, 24) := by kernel_rfl
@[simp] theorem Ty.iz140 : ((Tryz.prog.info? 140).bind (·.zero)).isSome = true := by kernel_rfl
@[simp] theorem Ty.a47 : aggT Tryz.prog 47 = some true := by kernel_rfl
@[simp] theorem Ty.s47 : szT Tryz.prog 47 = some 4 := by kernel_rfl
@[simp] theorem Ty.z47 : zeroT Tryz.prog 47 = some (.agg [.d (.int .i64 0), .d (.int .i64 0), .d (.int .i64 0), .d (.int .i64 0)]) := by kernel_rfl
@[simp] theorem Ty.p47 : placesOf Tryz.prog 47 = some (fun i => ([(0, 1), (1, 1), (2, 1), (3, 1)] : List (Nat × Nat))[i]?) := by kernel_rfl
@[simp] theorem Ty.k47 : kindsOf Tryz.prog 47 = some [.int .i64, .int .i64, .int .i64, .int .i64] := by kernel_rfl
@[simp] theorem Ty.a49 : aggT Tryz.prog 49 = some true := by kernel_rfl
@[simp] theorem Ty.s49 : szT Tryz.prog 49 = some 7 := by kernel_rfl
@[simp] theorem Ty.z49 : zeroT Tryz.prog 49 = some (.agg [.e0, .e0, .d (.int .i64 0), .d (.int .i64 0), .d (.int .i64 0), .d (.int .i64 0), .e0]) := by kernel_rfl
@[simp] theorem Ty.p49 : placesOf Tryz.prog 49 = some (fun i => ([(0, 1), (1, 1), (2, 4), (6, 1)] : List (Nat × Nat))[i]?) := by kernel_rfl
@[simp] theorem Ty.a62 : aggT Tryz.prog 62 = some false := by kernel_rfl
@[simp] theorem Ty.s62 : szT Tryz.prog 62 = some 1 := by kernel_rfl
@[simp] theorem Ty.z62 : zeroT Tryz.prog 62 = some (.e0) := by kernel_rfl
@[simp] theorem Ty.app62 : appT Tryz.prog 62 = some (2, 48) := by kernel_rfl
@[simp] theorem Ty.iz70 : ((Tryz.prog.info? 70).bind (·.zero)).isSome = true := by kernel_rfl
@[simp] theorem Ty.a63 : aggT Tryz.prog 63 = some false := by kernel_rfl
@[simp] theorem Ty.s63 : szT Tryz.prog 63 = some 1 := by kernel_rfl
@[simp] theorem Ty.z63 : zeroT Tryz.prog 63 = some (.e0) := by kernel_rfl
@[simp] theorem Ty.app63 : appT Tryz.prog 63 = some (6, 48) := by kernel_rfl
@[simp] theorem Ty.iz145 : ((Tryz.prog.info? 145).bind (·.zero)).isSome = true := by kernel_rfl
@[simp] theorem Ty.a65 : aggT Tryz.prog 65 = some true := by kernel_rfl
@[simp] theorem Ty.s65 : szT Tryz.prog 65 = some 3 := by kernel_rfl
@[simp] theorem Ty.z65 : zeroT Tryz.prog 65 = some (.agg [.e0, .e0, .d (.int .u8 0)]) := by kernel_rfl
@[simp] theorem Ty.p65 : placesOf Tryz.prog 65 = some (fun i => ([(0, 1), (1, 1), (2, 1)] : List (Nat × Nat))[i]?) := by kernel_rfl
@[simp] theorem Ty.a66 : aggT Tryz.prog 66 = some false := by kernel_rfl
@[simp] theorem Ty.s66 : szT Tryz.prog 66 = some 1 := by kernel_rfl
@[simp] theorem Ty.z66 : zeroT Tryz.prog 66 = some (.e0) := by kernel_rfl
@[simp] theorem Ty.app66 : appT Tryz.prog 66 = some (1, 24) := by kernel_rfl
@[simp] theorem Ty.iz22 : ((Tryz.prog.info? 22).bind (·.zero)).isSome = true := by kernel_rfl
@[simp] theorem Ty.a67 : aggT Tryz.prog 67 = some false := by kernel_rfl
@[simp] theorem Ty.s67 : szT Tryz.prog 67 = some 1 := by kernel_rfl
@[simp] theorem Ty.z67 : zeroT Tryz.prog 67 = some (.e0) := by kernel_rfl
@[simp] theorem Ty.app67 : appT Tryz.prog 67 = some (1, 24) := by kernel_rfl
@[simp] theorem Ty.iz45 : ((Tryz.prog.info? 45).bind (·.zero)).isSome = true := by kernel_rfl
@[simp] theorem Ty.a68 : aggT Tryz.prog 68 = some false := by kernel_rfl
@[simp] theorem Ty.s68 : szT Tryz.prog 68 = some 1 := by kernel_rfl
@[simp] theorem Ty.z68 : zeroT Tryz.prog 68 = some (.e0) := by kernel_rfl
@[simp] theorem Ty.app68 : appT Tryz.prog 68 = some (1, 24) := by kernel_rfl
@[simp] theorem Ty.iz44 : ((Tryz.prog.info? 44).bind (·.zero)).isSome = true := by kernel_rfl
@[simp] theorem Ty.a70 : aggT Tryz.prog 70 = some true := by kernel_rfl
@[simp] theorem Ty.s70 : szT Tryz.prog 70 = some 2 := by kernel_rfl
@[simp] theorem Ty.z70 : zeroT Tryz.prog 70 = some (.agg [.e0, .e0]) := by kernel_rfl
@[simp] theorem Ty.p70 : placesOf Tryz.prog 70 = some (fun i => ([(0, 1), (1, 1)] : List (Nat × Nat))[i]?) := by kernel_rfl
@[simp] theorem Ty.a74 : aggT Tryz.prog 74 = some true := by kernel_rfl
@[simp] theorem Ty.s74 : szT Tryz.prog 74 = some 4 := by kernel_rfl
@[simp] theorem Ty.z74 : zeroT Tryz.prog 74 = some (.agg [.e0, .d (.int .i64 0), .e0, .e0]) := by kernel_rfl
@[simp] theorem Ty.p74 : placesOf Tryz.prog 74 = some (fun i => ([(0, 1), (1, 1), (2, 1), (3, 1)] : List (Nat × Nat))[i]?) := by kernel_rfl
@[simp] theorem Ty.a76 : aggT Tryz.prog 76 = some true := by kernel_rfl
@[simp] theorem Ty.s76 : szT Tryz.prog 76 = some 5 := by kernel_rfl
@[simp] theorem Ty.z76 : zeroT Tryz.prog 76 = some (.agg [.e0, .e0, .d (.int .i64 0), .e0, .e0]) := by kernel_rfl
@[simp] theorem Ty.p76 : placesOf Tryz.prog 76 = some (fun i => ([(0, 1), (1, 4)] : List (Nat × Nat))[i]?) := by kernel_rfl
@[simp] theorem Ty.a77 : aggT Tryz.prog 77 = some false := by kernel_rfl
@[simp] theorem Ty.s77 : szT Tryz.prog 77 = some 1 := by kernel_rfl
@[simp] theorem Ty.z77 : zeroT Tryz.prog 77 = some (.d (.int .i64 0)) := by kernel_rfl
@[simp] theorem Ty.a86 : aggT Tryz.prog 86 = some false := by kernel_rfl
@[simp] theorem Ty.s86 : szT Tryz.prog 86 = some 1 := by kernel_rfl
@[simp] theorem Ty.z86 : zeroT Tryz.prog 86 = some (.e0) := by kernel_rfl
@[simp] theorem Ty.app86 : appT Tryz.prog 86 = some (10, 112) := by kernel_rfl
@[simp] theorem Ty.iz93 : ((Tryz.prog.info? 93).bind (·.zero)).isSome = true := by kernel_rfl
@[simp] theorem Ty.a93 : aggT Tryz.prog 93 = some true := by kernel_rfl
@[simp] theorem Ty.s93 : szT Tryz.prog 93 = some 10 := by kernel_rfl
@[simp] theorem Ty.z93 : zeroT Tryz.prog 93 = some (.agg [.d (.int .u8 0), .d (.int .i64 0), .d (.int .i64 0), .d (.bool false), .d (.int .i64 0), .d (.bool false), .d (.int .i64 0), .e0, .e0, .d (.int .i64 0)]) := by kernel_rfl
@[simp] theorem Ty.p93 : placesOf Tryz.prog 93 = some (fun i => ([(0, 1), (1, 1), (2, 1), (3, 5), (8, 1), (9, 1)] : List (Nat × Nat))[i]?) := by kernel_rfl
@[simp] theorem Ty.a95 : aggT Tryz.prog 95 = some false := by kernel_rfl
@[simp] theorem Ty.s95 : szT Tryz.prog 95 = some 1 := by kernel_rfl
@[simp] theorem Ty.z95 : zeroT Tryz.prog 95 = some (.nilFunc) := by kernel_rfl
@[simp] theorem Ty.a96 : aggT Tryz.prog 96 = some false := by kernel_rfl
@[simp] theorem Ty.s96 : szT Tryz.prog 96 = some 1 := by kernel_rfl
@[simp] theorem Ty.z96 : zeroT Tryz.prog 96 = some (.nilFunc) := by kernel_rfl
@[simp] theorem Ty.a98 : aggT Tryz.prog 98 = some false := by kernel_rfl
@[simp] theorem Ty.s98 : szT Tryz.prog 98 = some 1 := by kernel_rfl
@[simp] theorem Ty.z98 : zeroT Tryz.prog 98 = some (.e0) := by kernel_rfl
@[simp] theorem Ty.app98 : appT Tryz.prog 98 = some (6, 64) := by kernel_rfl
@[simp] theorem Ty.iz101 : ((Tryz.prog.info? 101).bind (·.zero)).isSome = true := by kernel_rfl
@[simp] theorem Ty.a101 : aggT Tryz.prog 101 = some true := by kernel_rfl
@[simp] theorem Ty.s101 : szT Tryz.prog 101 = some 6 := by kernel_rfl
@[simp] theorem Ty.z101 : zeroT Tryz.prog 101 = some (.agg [.d (.int .i64 0), .d (.bool false), .d (.int .i64 0), .d (.bool false), .d (.int .i64 0), .e0]) := by kernel_rfl
@[simp] theorem Ty.p101 : placesOf Tryz.prog 101 = some (fun i => ([(0, 1), (1, 5)] : List (Nat × Nat))[i]?) := by kernel_rfl
@[simp] theorem Ty.a114 : aggT Tryz.prog 114 = some false := by kernel_rfl
@[simp] theorem Ty.s114 : szT Tryz.prog 114 = some 1 := by kernel_rfl
@[simp] theorem Ty.z114 : zeroT Tryz.prog 114 = some (.e0) := by kernel_rfl
@[simp] theorem Ty.app114 : appT Tryz.prog 114 = some (7, 72) := by kernel_rfl
@[simp] theorem Ty.iz118 : ((Tryz.prog.info? 118).bind (·.zero)).isSome = true := by kernel_rfl
@[simp] theorem Ty.a118 : aggT Tryz.prog 118 = some true := by kernel_rfl
@[simp] theorem Ty.s118 : szT Tryz.prog 118 = some 7 := by kernel_rfl
@[simp] theorem Ty.z118 : zeroT Tryz.prog 118 = some (.agg [.d (.int .i64 0), .d (.int .i64 0), .d (.bool false), .d (.int .i64 0), .d (.bool false), .d (.int .i64 0), .e0]) := by kernel_rfl
@[simp] theorem Ty.p118 : placesOf Tryz.prog 118 = some (fun i => ([(0, 1), (1, 1), (2, 5)] : List (Nat × Nat))[i]?) := by kernel_rfl
@[simp] theorem Ty.a124 : aggT Tryz.prog 124 = some false := by kernel_rfl
@[simp] theorem Ty.s124 : szT Tryz.prog 124 = some 1 := by kernel_rfl
@[simp] theorem Ty.z124 : zeroT Tryz.prog 124 = some (.nilptr) := by kernel_rfl
@[simp] theorem Ty.a133 : aggT Tryz.prog 133 = some true := by kernel_rfl
@[simp] theorem Ty.s133 : szT Tryz.prog 133 = some 9 := by kernel_rfl
@[simp] theorem Ty.z133 : zeroT Tryz.prog 133 = some (.agg [.e0, .e0, .d (.int .i64 0), .d (.bool false), .d (.int .i64 0), .d (.bool false), .d (.int .i64 0), .e0, .e0]) := by kernel_rfl
@[simp] theorem Ty.p133 : placesOf Tryz.prog 133 = some (fun i => ([(0, 1), (1, 1), (2, 1), (3, 5), (8, 1)] : List (Nat × Nat))[i]?) := by kernel_rfl
@[simp] theorem Ty.a140 : aggT Tryz.prog 140 = some true := by kernel_rfl
@[simp] theorem Ty.s140 : szT Tryz.prog 140 = some 3 := by kernel_rfl
@[simp] theorem Ty.z140 : zeroT Tryz.prog 140 = some (.agg [.d (.bool false), .d (.int .i64 0), .d (.int .i64 0)]) := by kernel_rfl
@[simp] theorem Ty.p140 : placesOf Tryz.prog 140 = some (fun i => ([(0, 1), (1, 1), (2, 1)] : List (Nat × Nat))[i]?) := by kernel_rfl
@[simp] theorem Ty.k140 : kindsOf Tryz.prog 140 = some [.bool, .int .i64, .int .i64] := by kernel_rfl
@[simp] theorem Ty.a145 : aggT Tryz.prog 145 = some true := by kernel_rfl
@[simp] theorem Ty.s145 : szT Tryz.prog 145 = some 6 := by kernel_rfl
@[simp] theorem Ty.z145 : zeroT Tryz.prog 145 = some (.agg [.d (.int .i64 0), .d (.int .i64 0), .d (.bool false), .d (.int .i64 0), .d (.int .i64 0), .d (.int .i64 0)]) := by kernel_rfl
@[simp] theorem Ty.p145 : placesOf Tryz.prog 145 = some (fun i => ([(0, 1), (1, 1), (2, 3), (5, 1)] : List (Nat × Nat))[i]?) := by kernel_rfl
@[simp] theorem Ty.a165 : aggT Tryz.prog 165 = some false := by kernel_rfl
@[simp] theorem Ty.s165 : szT Tryz.prog 165 = some 1 := by kernel_rfl
@[simp] theorem Ty.z165 : zeroT Tryz.prog 165 = some (.nilFunc) := by kernel_rfl
@[simp] theorem Ty.a170 : aggT Tryz.prog 170 = some true := by kernel_rfl
@[simp] theorem Ty.s170 : szT Tryz.prog 170 = some 4 := by kernel_rfl
@[simp] theorem Ty.z170 : zeroT Tryz.prog 170 = some (.agg [.d (.int .i64 0), .d (.int .i64 0), .d (.int .i64 0), .d (.int .i64 0)]) := by kernel_rfl
@[simp] theorem Ty.p170 : placesOf Tryz.prog 170 = some (fun i => some (i * 1, 1)) := by kernel_rfl
@[simp] theorem Ty.a190 : aggT Tryz.prog 190 = some true := by kernel_rfl
@[simp] theorem Ty.s190 : szT Tryz.prog 190 = some 4 := by kernel_rfl
@[simp] theorem Ty.z190 : zeroT Tryz.prog 190 = some (.agg [.d (.int .i64 0), .d (.int .i64 0), .d (.int .i64 0), .d (.int .i64 0)]) := by kernel_rfl
@[simp] theorem Ty.p190 : placesOf Tryz.prog 190 = some (fun i => ([(0, 1), (1, 1), (2, 1), (3, 1)] : List (Nat × Nat))[i]?) := by kernel_rfl
@[simp] theorem Ty.k190 : kindsOf Tryz.prog 190 = some [.int .i64, .int .i64, .int .i64, .int .i64] := by kernel_rfl
@[simp] theorem Ty.a199 : aggT Tryz.prog 199 = some false := by kernel_rfl
@[simp] theorem Ty.s199 : szT Tryz.prog 199 = some 1 := by kernel_rfl
@[simp] theorem Ty.z199 : zeroT Tryz.prog 199 = some (.e0) := by kernel_rfl
@[simp] theorem Ty.app199 : appT Tryz.prog 199 = some (1, 24) := by kernel_rfl
@[simp] theorem Ty.iz39 : ((Tryz.prog.info? 39).bind (·.zero)).isSome = true := by kernel_rfl
@[simp] theorem Ty.a200 : aggT Tryz.prog 200 = some false := by kernel_rfl
@[simp] theorem Ty.s200 : szT Tryz.prog 200 = some 1 := by kernel_rfl
@[simp] theorem Ty.z200 : zeroT Tryz.prog 200 = some (.e0) := by kernel_rfl
@[simp] theorem Ty.app200 : appT Tryz.prog 200 = some (1, 1) := by kernel_rfl
@[simp] theorem Ty.iz4 : ((Tryz.prog.info? 4).bind (·.zero)).isSome = true := by kernel_rfl
@[simp] theorem Ty.a202 : aggT Tryz.prog 202 = some true := by kernel_rfl
@[simp] theorem Ty.s202 : szT Tryz.prog 202 = some 4 := by kernel_rfl
@[simp] theorem Ty.z202 : zeroT Tryz.prog 202 = some (.agg [.e0, .e0, .e0, .e0]) := by kernel_rfl
@[simp] theorem Ty.p202 : placesOf Tryz.prog 202 = some (fun i => ([(0, 1), (1, 1), (2, 1), (3, 1)] : List (Nat × Nat))[i]?) := by kernel_rfl
@[simp] theorem Ty.a206 : aggT Tryz.prog 206 = some true := by kernel_rfl
@[simp] theorem Ty.s206 : szT Tryz.prog 206 = some 1 := by kernel_rfl
@[simp] theorem Ty.z206 : zeroT Tryz.prog 206 = some (.agg [.e0]) := by kernel_rfl
@[simp] theorem Ty.p206 : placesOf Tryz.prog 206 = some (fun i => ([(0, 1)] : List (Nat × Nat))[i]?) := by kernel_rfl
@[simp] theorem Ty.a211 : aggT Tryz.prog 211 = some false := by kernel_rfl
@[simp] theorem Ty.s211 : szT Tryz.prog 211 = some 1 := by kernel_rfl
@[simp] theorem Ty.a216 : aggT Tryz.prog 216 = some false := by kernel_rfl
@[simp] theorem Ty.s216 : szT Tryz.prog 216 = some 1 := by kernel_rfl
@[simp] theorem Ty.z216 : zeroT Tryz.prog 216 = some (.nilFunc) := by kernel_rfl
@[simp] theorem Ty.a221 : aggT Tryz.prog 221 = some true := by kernel_rfl
@[simp] theorem Ty.s221 : szT Tryz.prog 221 = some 2 := by kernel_rfl
@[simp] theorem Ty.z221 : zeroT Tryz.prog 221 = some (.agg [.d (.bool false), .d (.int .i64 0)]) := by kernel_rfl
@[simp] theorem Ty.p221 : placesOf Tryz.prog 221 = some (fun i => ([(0, 1), (1, 1)] : List (Nat × Nat))[i]?) := by kernel_rfl
@[simp] theorem Ty.k221 : kindsOf Tryz.prog 221 = some [.bool, .int .i64] := by kernel_rfl
@[simp] theorem Ty.a235 : aggT Tryz.prog 235 = some true := by kernel_rfl
@[simp] theorem Ty.s235 : szT Tryz.prog 235 = some 3 := by kernel_rfl
@[simp] theorem Ty.z235 : zeroT Tryz.prog 235 = some (.agg [.d (.int .i64 0), .d (.int .i64 0), .d (.int .i64 0)]) := by kernel_rfl
@[simp] theorem Ty.p235 : placesOf Tryz.prog 235 = some (fun i => ([(0, 1), (1, 1), (2, 1)] : List (Nat × Nat))[i]?) := by kernel_rfl
@[simp] theorem Ty.k235 : kindsOf Tryz.prog 235 = some [.int .i64, .int .i64, .int .i64] := by kernel_rfl
attribute [simp] Tryz.underlying3 Tryz.underlying4 Tryz.underlying5 Tryz.underlying9 Tryz.underlying22 Tryz.underlying23 Tryz.underlying27 Tryz.underlying32 Tryz.underlying34 Tryz.underlying36 Tryz.underlying39 Tryz.underlying41 Tryz.underlying44 Tryz.underlying45 Tryz.underlying47 Tryz.underlying49 Tryz.underlying62 Tryz.underlying63 Tryz.underlying65 Tryz.underlying66 Tryz.underlying67 Tryz.underlying68 Tryz.underlying70 Tryz.underlying74 Tryz.underlying76 Tryz.underlying77 Tryz.underlying86 Tryz.underlying93 Tryz.underlying95 Tryz.underlying96 Tryz.underlying98 Tryz.underlying101 Tryz.underlying114 Tryz.underlying118 Tryz.underlying124 Tryz.underlying133 Tryz.underlying140 Tryz.underlying145 Tryz.underlying165 Tryz.underlying170 Tryz.underlying190 Tryz.underlying199 Tryz.underlying200 Tryz.underlying202 Tryz.underlying206 Tryz.underlying211 Tryz.underlying216 Tryz.underlying221 Tryz.underlying235
end Go.Proofs

set_option maxRecDepth 100000
namespace Go.Proofs
open Go.RowKit Go.Shelf Go.Pv
attribute [simp] ec_region altD ec_scope ec_label ec_seq ec_cond ec_skip ec_exit ec_ret ec_block seq_normal seq_ret seq_exit if_t if_f regN evOpsD coreD wantD evCore evPure evCall use useL useParts opv rd putS untake moveIt takes af_nil af_cons appTmp apartL apartB posOf cellsOf isBelowL PV.isBelow boxCells isDataL PV.isData loadAs loadS storeS storeAs evFieldAddr evField partP evSlice bound natOf rowsOk evIndexAddr evIndex evLen evCopy evClear fillP bin_add bin_sub bin_mul bin_lss bin_leq bin_gtr bin_geq bin_eql bin_neq bin_and bin_andNot un_not mm_max mm_min ofValue ofCell slotOf resVal resOne resL retOf toDL toD sameStore sameCells PV.same DV.same_self sameRows_self sameL_self st_undef st1_undef k0_undef st_any st1_any k0_any st_d st1_d sc_d on_d k0_d st_ptr st1_ptr sc_ptr on_ptr k0_ptr st_nilptr st1_nilptr sc_nilptr on_nilptr k0_nilptr st_ro st1_ro sc_ro on_ro k0_ro st_func st1_func sc_func on_func k0_func st_nilFunc st1_nilFunc sc_nilFunc on_nilFunc k0_nilFunc st_tup st1_tup st_agg sc_agg
attribute [simp] E1P E1ap acc_own acc_cells acc_one acc_below acc_strip acc_strip1 st_e0 st1_e0 k0_e0 on_e0 sc_e0
@[simp] theorem bin_eqlA {P : Program} {t : TypeId} {xs ys : List PV} : evBin P .eql t (.agg xs) (.agg ys) = (kindsOf P t).bind fun ks => (eqCells ks xs ys).map fun b => .d (.bool b) := rfl
@[simp] theorem bin_neqA {P : Program} {t : TypeId} {xs ys : List PV} : evBin P .neq t (.agg xs) (.agg ys) = (kindsOf P t).bind fun ks => (eqCells ks xs ys).map fun b => .d (.bool (!b)) := rfl
@[simp] theorem bin_eqlS {P : Program} {t : TypeId} {x y : ByteArray} : evBin P .eql t (.d (.str x)) (.d (.str y)) = some (.d (.bool (x.toList == y.toList))) := rfl
@[simp] theorem bin_eqlB {x y : Bool} : evBin Tryz.prog .eql 4 (.d (.bool x)) (.d (.bool y)) = some (.d (.bool (x == y))) := by
 cases x <;> cases y <;> kernel_rfl
@[simp] theorem bin_neqB {x y : Bool} : evBin Tryz.prog .neq 4 (.d (.bool x)) (.d (.bool y)) = some (.d (.bool (x != y))) := by
 cases x <;> cases y <;> kernel_rfl
attribute [simp] eqCells
structure Fr where
 e : Bool
 id : Int
 rm : Bool
 ln : Int
 data : List Int
structure Fl where
 e : Bool
 mask : Int
 mt : Int
structure Cn where
 t : Int
 r : Int
 s : Int
 z : Int
structure Nd where
 q : List Fr
 fs : List Fl
 c : Cn
 g : List Fr
@[simp] def byD (b : Int) : List DV := [.int .u8 b]
@[simp] def Fr.D (f : Fr) : List DV := [.bool f.e, .int .i64 f.id, .bool f.rm, .int .i64 f.ln, .slice (f.data.map byD)]
@[simp] def Fr.P (f : Fr) : PV := .agg [.d (.bool f.e), .d (.int .i64 f.id), .d (.bool f.rm), .d (.int .i64 f.ln), .d (.slice (f.data.map byD))]
@[simp] def Fl.D (f : Fl) : List DV := [.bool f.e, .int .i64 f.mask, .int .i64 f.mt]
@[simp] def Fl.P (f : Fl) : PV := .agg [.d (.bool f.e), .d (.int .i64 f.mask), .d (.int .i64 f.mt)]
@[simp] def Cn.P (c : Cn) : PV := .agg [.d (.int .i64 c.t), .d (.int .i64 c.r), .d (.int .i64 c.s), .d (.int .i64 c.z)]
@[simp] def Nd.P (n : Nd) : PV := .agg [.d (.slice (n.q.map Fr.D)), .d (.slice (n.fs.map Fl.D)), .d (.int .i64 n.c.t), .d (.int .i64 n.c.r), .d (.int .i64 n.c.s), .d (.int .i64 n.c.z), .d (.slice (n.g.map Fr.D))]
@[simp] def intD (b : Int) : List DV := [.int .i64 b]
theorem rowsOk_map {α : Type} {D : α → List DV} {k : Nat} (h : ∀ x, (D x).length = k) (l : List α) : rowsOk k (l.map D) = true := by
 unfold rowsOk
 rw [List.all_eq_true]
 intro r hr
 obtain ⟨x, _, rfl⟩ := List.mem_map.1 hr
 simp [h x]
@[simp] theorem rowsOk_Fr (l : List Fr) : rowsOk 5 (l.map Fr.D) = true := rowsOk_map (D := Fr.D) (fun _ => rfl) l
@[simp] theorem rowsOk_Fl (l : List Fl) : rowsOk 3 (l.map Fl.D) = true := rowsOk_map (D := Fl.D) (fun _ => rfl) l
@[simp] theorem rowsOk_int (l : List Int) : rowsOk 1 (l.map intD) = true := rowsOk_map (D := intD) (fun _ => rfl) l
@[simp] theorem rowsOk_by (l : List Int) : rowsOk 1 (l.map byD) = true := rowsOk_map (D := byD) (fun _ => rfl) l
theorem wrap_ok {x : Int} (h : -9223372036854775808 ≤ x) (h' : x < 9223372036854775808) : IntKind.i64.wrap x = x := by
 rw [IntKind.wrap_i64]; omega
end Go.Proofs

set_option maxRecDepth 100000
set_option maxHeartbeats 4000000
namespace Go.Proofs
open Go.RowKit Go.Shelf Go.Pv
theorem b_isNaN (x : Int) (σ : Store) : callIt E1 (evI E1) 224 [.d (.int .i64 x)] σ = some (.d (.bool false), σ) := by
 refine call_run (fn := Tryz.f224) 5 rfl rfl rfl Tryz.func224 rfl rfl ?_ rfl
 simp [Tryz.f224]
def cmpI (x y : Int) : Int := if x < y then -1 else if x > y then 1 else 0
theorem b_cmp (x y : Int) (σ : Store) : callIt E1 (evI E1) 217 [.d (.int .i64 x), .d (.int .i64 y)] σ = some (.d (.int .i64 (cmpI x y)), σ) := by
 refine call_run (fn := Tryz.f217) 5 rfl rfl rfl Tryz.func217 rfl rfl ?_ rfl
 unfold cmpI
 by_cases h : x < y
 ·simp [Tryz.f217, b_isNaN, h]
 ·by_cases h' : x > y
  ·simp [Tryz.f217, b_isNaN, h, h']
  ·simp [Tryz.f217, b_isNaN, h, h']
theorem b_of (f : Fl) (e : Bool) (id : Int) (σ : Store) : callIt E1 (evI E1) 199 [f.P, .d (.bool e), .d (.int .i64 id)] σ = some (.agg [.d (.bool e), .d (.int .i64 (IntKind.i64.wrap (BitVec.ofInt 64 id &&& BitVec.ofInt 64 f.mask).toNat))], σ) := by
 refine call_run (fn := Tryz.f199) 5 rfl rfl rfl Tryz.func199 rfl rfl ?_ rfl
 simp [Tryz.f199]
def Fl.takes (f : Fl) (x : Fr) : Bool := (x.e == f.e) && (IntKind.i64.wrap (BitVec.ofInt 64 x.id &&& BitVec.ofInt 64 f.mask).toNat == f.mt)
theorem b_takes (f : Fl) (x : Fr) (σ : Store) : callIt E1 (evI E1) 149 [f.P, x.P] σ = some (.d (.bool (f.takes x)), σ) := by
 refine call_run (fn := Tryz.f149) 5 rfl rfl rfl Tryz.func149 rfl rfl ?_ rfl
 have h := b_of f x.e x.id
 simp at h
 simp [Tryz.f149, h, Fl.takes]
theorem s11 (x : Int) : evBin Tryz.prog .shr 3 (.d (.int .i64 x)) (.d (.int .i64 11)) = some (.d (.int .i64 (x / 2 ^ 11))) := by
 rw [bin_shr (by decide), show (2 : Int) ^ min (Int.toNat 11) 64 = 2 ^ 11 by decide, Int.fdiv_eq_ediv_of_nonneg _ (by decide)]
theorem s29 (x : Int) : evBin Tryz.prog .shr 3 (.d (.int .i64 x)) (.d (.int .i64 29)) = some (.d (.int .i64 (x / 2 ^ 29))) := by
 rw [bin_shr (by decide), show (2 : Int) ^ min (Int.toNat 29) 64 = 2 ^ 29 by decide, Int.fdiv_eq_ediv_of_nonneg _ (by decide)]
def Fl.right (f : Fl) : Bool := (f.mask / 2 ^ (if f.e then 29 else 11) == 0) && (IntKind.i64.wrap (BitVec.ofInt 64 f.mt &&& ~~~ BitVec.ofInt 64 f.mask).toNat == 0)
theorem b_flRight (f : Fl) (σ : Store) : callIt E1 (evI E1) 120 [f.P] σ = some (.d (.bool f.right), σ) := by
 refine call_run (fn := Tryz.f120) 5 rfl rfl rfl Tryz.func120 rfl rfl ?_ rfl
 obtain ⟨e, m, t⟩ := f
 unfold Fl.right
 cases e
 ·cases h : (m / 2048 == 0)
  ·simp [Tryz.f120, s11, h]
  ·simp [Tryz.f120, s11, h]
 ·cases h : (m / 536870912 == 0)
  ·simp [Tryz.f120, s29, h]
  ·simp [Tryz.f120, s29, h]
end Go.Proofs

set_option maxRecDepth 100000
set_option maxHeartbeats 4000000
namespace Go.Pv
open Go
def bodyOf : Code → Option Code
 | .seq a b => match bodyOf a with | some c => some c | none => bodyOf b
 | .block _ b => bodyOf b
 | .loop b => some b
 | .cond _ a b => match bodyOf a with | some c => some c | none => bodyOf b
 | _ => none
theorem ec_loop {E : Env} {F : FnEv} {k : Nat} {b : Code} {st : St} : evCode E F k (.loop b) st = loopN (evCode E F k b) k st := rfl
theorem loopN_succ {step : St → Option (Ex × St)} {n : Nat} {st : St} : loopN step (n + 1) st = (step st).bind fun r => match r.1 with | .normal => loopN step n r.2 | _ => some r := rfl
end Go.Pv
namespace Go.Proofs
open Go.RowKit Go.Shelf Go.Pv
def idx {α : Type} (p : α → Bool) : List α → Nat → Int
 | [], _ => -1
 | x :: xs, i => if p x then i else idx p xs (i + 1)
theorem idx_any {α : Type} (p : α → Bool) : ∀ (l : List α) (i : Nat), decide (0 ≤ idx p l i) = l.any p
 | [], i => rfl
 | x :: xs, i => by
  unfold idx
  cases h : p x
  ·simpa [h] using idx_any p xs (i + 1)
  ·simp [h]
theorem l_idxFl (m g : Nat) (caps : List PV) (p : Fl → Bool) (l : List Fl) (hl : l.length ≤ 1000000) (σ : Store) (hp : ∀ x ∈ l, callIt E1 (evI E1) g ([x.P] ++ caps.map PV.strip) σ = some (.d (.bool (p x)), σ))
  (B : Code) (hB : Tryz.f203.body.bind bodyOf = some B) :
  ∀ (n i : Nat) (x5 x9 x10 x11 x12 x13 x14 x15 x16 x17 x18 : PV), i ≤ l.length → l.length < i + n →
   ∃ e y5 y8 y9 y10 y11 y12 y13 y14 y15 y16 y17 y18 z, loopN (evCode E1 (evI E1) m B) n ⟨[.d (.slice (l.map Fl.D)), .func (.func g) [] caps, .undef, .undef, .d (.int .i64 0), x5, .d (.slice (l.map Fl.D)), .d (.int .i64 l.length), .d (.int .i64 i), x9, x10, x11, x12, x13, x14, x15, x16, x17, x18], σ⟩ =
    some (e, ⟨[.d (.slice (l.map Fl.D)), .func (.func g) [] caps, .undef, .undef, .d (.int .i64 z), y5, .d (.slice (l.map Fl.D)), .d (.int .i64 l.length), y8, y9, y10, y11, y12, y13, y14, y15, y16, y17, y18], σ⟩) ∧
    ((e = .ret ∧ z = idx p (l.drop i) i ∧ z ≠ -1) ∨ (e = .exit 0 ∧ idx p (l.drop i) i = -1)) := by
 simp [Tryz.f203, bodyOf] at hB
 subst hB
 intro n
 induction n with
 | zero => intro i x5 x9 x10 x11 x12 x13 x14 x15 x16 x17 x18 h1 h2; omega
 | succ n ih =>
  intro i x5 x9 x10 x11 x12 x13 x14 x15 x16 x17 x18 h1 h2
  rw [loopN_succ]
  by_cases hi : i < l.length
  ·have hx : l[i]? = some l[i] := List.getElem?_eq_getElem hi
   have hd : l.drop i = l[i] :: l.drop (i + 1) := List.drop_eq_getElem_cons hi
   have hpx := hp l[i] (List.getElem_mem hi)
   generalize l[i] = x at hx hd hpx
   have hlt : (i : Int) < (l.length : Int) := by omega
   rw [hd]
   simp at hpx
   cases hb : p x
   ·rw [hb] at hpx
    have hw : IntKind.i64.wrap ((i : Int) + 1) = ((i + 1 : Nat) : Int) := by rw [wrap_ok (by omega) (by omega)]; omega
    simp [hx, hpx, hlt, hw, idx, hb]
    exact ih (i + 1) _ _ _ _ _ _ _ _ _ _ _ (by omega) (by omega)
   ·rw [hb] at hpx
    simp [hx, hpx, hlt, idx, hb, and_assoc]
    try omega
  ·have hlt : ¬ (i : Int) < (l.length : Int) := by omega
   have : l.drop i = [] := List.drop_eq_nil_of_le (by omega)
   simp [hlt, this, idx]
theorem b_idxFl (g : Nat) (caps : List PV) (p : Fl → Bool) (l : List Fl) (hl : l.length ≤ 1000000) (σ : Store) (hcaps : isDataL caps = true ∨ True) (hp : ∀ x ∈ l, callIt E1 (evI E1) g ([x.P] ++ caps.map PV.strip) σ = some (.d (.bool (p x)), σ)) :
  callIt E1 (evI E1) 203 [.d (.slice (l.map Fl.D)), .func (.func g) [] caps] σ = some (.d (.int .i64 (idx p l 0)), σ) := by
 have key : evI E1 203 [.d (.slice (l.map Fl.D)), .func (.func g) [] caps] σ = some (.d (.int .i64 (idx p l 0)), σ) := by
  refine evI_run (fn := Tryz.f203) (l.length + 1) rfl Tryz.func203 rfl ?_
  obtain ⟨e, y5, y8, y9, y10, y11, y12, y13, y14, y15, y16, y17, y18, z, h1, h2⟩ := l_idxFl (l.length + 1) g caps p l hl σ hp _ rfl (l.length + 1) 0 .undef .undef .undef .undef .undef .undef .undef .undef .undef .undef .undef (by omega) (by omega)
  simp at h1 h2
  rcases h2 with ⟨rfl, rfl, h3⟩ | ⟨rfl, h3⟩
  ·simp [Tryz.f203, ec_loop, h1]
  ·simp [Tryz.f203, ec_loop, h1, h3]
 have ho : E1.ov 203 = none := rfl
 have hp : E1.pure 203 = false := rfl
 have hr : E1.ro 203 = false := rfl
 simp [callIt, ho, hp, hr, key]
theorem b_containsFl (g : Nat) (caps : List PV) (p : Fl → Bool) (l : List Fl) (hl : l.length ≤ 1000000) (σ : Store) (hp : ∀ x ∈ l, callIt E1 (evI E1) g ([x.P] ++ caps.map PV.strip) σ = some (.d (.bool (p x)), σ)) :
  callIt E1 (evI E1) 171 [.d (.slice (l.map Fl.D)), .func (.func g) [] caps] σ = some (.d (.bool (l.any p)), σ) := by
 have key : evI E1 171 [.d (.slice (l.map Fl.D)), .func (.func g) [] caps] σ = some (.d (.bool (l.any p)), σ) := by
  refine evI_run (fn := Tryz.f171) 5 rfl Tryz.func171 rfl ?_
  have h1 := b_idxFl g caps p l hl σ (.inr trivial) hp
  have h2 := idx_any p l 0
  simp [Tryz.f171, h1, h2]
 have ho : E1.ov 171 = none := rfl
 have hp : E1.pure 171 = false := rfl
 have hr : E1.ro 171 = false := rfl
 simp [callIt, ho, hp, hr, key]
theorem l_idxFr (m g : Nat) (caps : List PV) (p : Fr → Bool) (l : List Fr) (hl : l.length ≤ 1000000) (σ : Store) (hp : ∀ x ∈ l, callIt E1 (evI E1) g ([x.P] ++ caps.map PV.strip) σ = some (.d (.bool (p x)), σ))
  (B : Code) (hB : Tryz.f195.body.bind bodyOf = some B) :
  ∀ (n i : Nat) (x5 x9 x10 x11 x12 x13 x14 x15 x16 x17 x18 : PV), i ≤ l.length → l.length < i + n →
   ∃ e y5 y8 y9 y10 y11 y12 y13 y14 y15 y16 y17 y18 z, loopN (evCode E1 (evI E1) m B) n ⟨[.d (.slice (l.map Fr.D)), .func (.func g) [] caps, .undef, .undef, .d (.int .i64 0), x5, .d (.slice (l.map Fr.D)), .d (.int .i64 l.length), .d (.int .i64 i), x9, x10, x11, x12, x13, x14, x15, x16, x17, x18], σ⟩ =
    some (e, ⟨[.d (.slice (l.map Fr.D)), .func (.func g) [] caps, .undef, .undef, .d (.int .i64 z), y5, .d (.slice (l.map Fr.D)), .d (.int .i64 l.length), y8, y9, y10, y11, y12, y13, y14, y15, y16, y17, y18], σ⟩) ∧
    ((e = .ret ∧ z = idx p (l.drop i) i ∧ z ≠ -1) ∨ (e = .exit 0 ∧ idx p (l.drop i) i = -1)) := by
 simp [Tryz.f195, bodyOf] at hB
 subst hB
 intro n
 induction n with
 | zero => intro i x5 x9 x10 x11 x12 x13 x14 x15 x16 x17 x18 h1 h2; omega
 | succ n ih =>
  intro i x5 x9 x10 x11 x12 x13 x14 x15 x16 x17 x18 h1 h2
  rw [loopN_succ]
  by_cases hi : i < l.length
  ·have hx : l[i]? = some l[i] := List.getElem?_eq_getElem hi
   have hd : l.drop i = l[i] :: l.drop (i + 1) := List.drop_eq_getElem_cons hi
   have hpx := hp l[i] (List.getElem_mem hi)
   generalize l[i] = x at hx hd hpx
   have hlt : (i : Int) < (l.length : Int) := by omega
   rw [hd]
   simp at hpx
   cases hb : p x
   ·rw [hb] at hpx
    have hw : IntKind.i64.wrap ((i : Int) + 1) = ((i + 1 : Nat) : Int) := by rw [wrap_ok (by omega) (by omega)]; omega
    simp [hx, hpx, hlt, hw, idx, hb]
    exact ih (i + 1) _ _ _ _ _ _ _ _ _ _ _ (by omega) (by omega)
   ·rw [hb] at hpx
    simp [hx, hpx, hlt, idx, hb, and_assoc]
    try omega
  ·have hlt : ¬ (i : Int) < (l.length : Int) := by omega
   have : l.drop i = [] := List.drop_eq_nil_of_le (by omega)
   simp [hlt, this, idx]
theorem b_idxFr (g : Nat) (caps : List PV) (p : Fr → Bool) (l : List Fr) (hl : l.length ≤ 1000000) (σ : Store) (hcaps : isDataL caps = true ∨ True) (hp : ∀ x ∈ l, callIt E1 (evI E1) g ([x.P] ++ caps.map PV.strip) σ = some (.d (.bool (p x)), σ)) :
  callIt E1 (evI E1) 195 [.d (.slice (l.map Fr.D)), .func (.func g) [] caps] σ = some (.d (.int .i64 (idx p l 0)), σ) := by
 have key : evI E1 195 [.d (.slice (l.map Fr.D)), .func (.func g) [] caps] σ = some (.d (.int .i64 (idx p l 0)), σ) := by
  refine evI_run (fn := Tryz.f195) (l.length + 1) rfl Tryz.func195 rfl ?_
  obtain ⟨e, y5, y8, y9, y10, y11, y12, y13, y14, y15, y16, y17, y18, z, h1, h2⟩ := l_idxFr (l.length + 1) g caps p l hl σ hp _ rfl (l.length + 1) 0 .undef .undef .undef .undef .undef .undef .undef .undef .undef .undef .undef (by omega) (by omega)
  simp at h1 h2
  rcases h2 with ⟨rfl, rfl, h3⟩ | ⟨rfl, h3⟩
  ·simp [Tryz.f195, ec_loop, h1]
  ·simp [Tryz.f195, ec_loop, h1, h3]
 have ho : E1.ov 195 = none := rfl
 have hp : E1.pure 195 = false := rfl
 have hr : E1.ro 195 = false := rfl
 simp [callIt, ho, hp, hr, key]
theorem b_containsFr (g : Nat) (caps : List PV) (p : Fr → Bool) (l : List Fr) (hl : l.length ≤ 1000000) (σ : Store) (hp : ∀ x ∈ l, callIt E1 (evI E1) g ([x.P] ++ caps.map PV.strip) σ = some (.d (.bool (p x)), σ)) :
  callIt E1 (evI E1) 169 [.d (.slice (l.map Fr.D)), .func (.func g) [] caps] σ = some (.d (.bool (l.any p)), σ) := by
 have key : evI E1 169 [.d (.slice (l.map Fr.D)), .func (.func g) [] caps] σ = some (.d (.bool (l.any p)), σ) := by
  refine evI_run (fn := Tryz.f169) 5 rfl Tryz.func169 rfl ?_
  have h1 := b_idxFr g caps p l hl σ (.inr trivial) hp
  have h2 := idx_any p l 0
  simp [Tryz.f169, h1, h2]
 have ho : E1.ov 169 = none := rfl
 have hp : E1.pure 169 = false := rfl
 have hr : E1.ro 169 = false := rfl
 simp [callIt, ho, hp, hr, key]
end Go.Proofs

set_option maxRecDepth 100000
set_option maxHeartbeats 4000000
namespace Go.Proofs
open Go.RowKit Go.Shelf Go.Pv
theorem call_np {f : FuncId} {args : List PV} {σ σ' : Store} {v : PV} (ho : E1.ov f = none) (hp : E1.pure f = false) (hr : E1.ro f = false) (h : evI E1 f args σ = some (v, σ')) (hd : v.isData = true) (hs : v.strip = v) (ht : σ'.take σ.length = σ) : callIt E1 (evI E1) f args σ = some (v, σ) := by
 simp [callIt, ho, hp, hr, h, hd, hs, ht]
def Fr.right (f : Fr) : Bool := frRight f.e f.id f.rm f.ln (f.data.map byD)
theorem b_frRight (f : Fr) (σ : Store) : callIt E1 (evI E1) 118 [f.P] σ = some (.d (.bool f.right), σ) := c41 f.e f.id f.rm f.ln (f.data.map byD) σ
theorem b_allFl1 (σ : Store) (i : Nat) (h : σ[i]? = some [.func (.func 120) [] []]) (x : Fl) : callIt E1 (evI E1) 170 [x.P, .ptr i 0] σ = some (.d (.bool (!x.right)), σ) := by
 refine call_np (σ' := σ ++ [cellsOf x.P]) rfl rfl rfl ?_ rfl rfl (by simp)
 have h1 := b_flRight x (σ ++ [cellsOf x.P])
 have hi : i < σ.length := (List.getElem?_eq_some_iff.1 h).1
 have h2 : (σ ++ [cellsOf x.P])[i]? = some [.func (.func 120) [] []] := by rw [List.getElem?_append_left hi]; exact h
 simp [cellsOf] at h1 h2
 refine evI_run (fn := Tryz.f170) 5 rfl Tryz.func170 rfl ?_
 simp [Tryz.f170, cellsOf, loadS, h1, h2]
theorem b_allFl (l : List Fl) (most : Int) (hl : l.length ≤ 1000000) (σ : Store) : callIt E1 (evI E1) 119 [.d (.slice (l.map Fl.D)), .d (.int .i64 most), .func (.func 120) [] []] σ = some (.d (.bool (decide ((l.length : Int) ≤ most) && l.all (·.right))), σ) := by
 refine call_np (σ' := σ ++ [[.func (.func 120) [] []]]) rfl rfl rfl ?_ rfl rfl (by simp)
 have h1 := b_containsFl 170 [.ptr σ.length 0] (fun x => !x.right) l hl (σ ++ [[.func (.func 120) [] []]]) (fun x _ => b_allFl1 _ _ (by simp) x)
 refine evI_run (fn := Tryz.f119) 5 rfl Tryz.func119 rfl ?_
 have h2 : (!l.any (fun x => !x.right)) = l.all (·.right) := by simp [List.all_eq_not_any_not]
 by_cases h : (l.length : Int) ≤ most
 ·simp [Tryz.f119, cellsOf, h1, h, ← h2]
 ·simp [Tryz.f119, cellsOf, h]
theorem b_allFr1 (σ : Store) (i : Nat) (h : σ[i]? = some [.func (.func 118) [] []]) (x : Fr) : callIt E1 (evI E1) 168 [x.P, .ptr i 0] σ = some (.d (.bool (!x.right)), σ) := by
 refine call_np (σ' := σ ++ [cellsOf x.P]) rfl rfl rfl ?_ rfl rfl (by simp)
 have h1 := b_frRight x (σ ++ [cellsOf x.P])
 have hi : i < σ.length := (List.getElem?_eq_some_iff.1 h).1
 have h2 : (σ ++ [cellsOf x.P])[i]? = some [.func (.func 118) [] []] := by rw [List.getElem?_append_left hi]; exact h
 simp [cellsOf] at h1 h2
 refine evI_run (fn := Tryz.f168) 5 rfl Tryz.func168 rfl ?_
 simp [Tryz.f168, cellsOf, loadS, h1, h2]
theorem b_allFr (l : List Fr) (most : Int) (hl : l.length ≤ 1000000) (σ : Store) : callIt E1 (evI E1) 117 [.d (.slice (l.map Fr.D)), .d (.int .i64 most), .func (.func 118) [] []] σ = some (.d (.bool (decide ((l.length : Int) ≤ most) && l.all (·.right))), σ) := by
 refine call_np (σ' := σ ++ [[.func (.func 118) [] []]]) rfl rfl rfl ?_ rfl rfl (by simp)
 have h1 := b_containsFr 168 [.ptr σ.length 0] (fun x => !x.right) l hl (σ ++ [[.func (.func 118) [] []]]) (fun x _ => b_allFr1 _ _ (by simp) x)
 refine evI_run (fn := Tryz.f117) 5 rfl Tryz.func117 rfl ?_
 have h2 : (!l.any (fun x => !x.right)) = l.all (·.right) := by simp [List.all_eq_not_any_not]
 by_cases h : (l.length : Int) ≤ most
 ·simp [Tryz.f117, cellsOf, h1, h, ← h2]
 ·simp [Tryz.f117, cellsOf, h]
end Go.Proofs

set_option maxRecDepth 100000
set_option maxHeartbeats 4000000
namespace Go.Proofs
open Go.RowKit Go.Shelf Go.Pv
theorem b_any1 (σ : Store) (i : Nat) (x : Fr) (h : σ[i]? = some (cellsOf x.P)) (f : Fl) : callIt E1 (evI E1) 198 [f.P, .ptr i 0] σ = some (.d (.bool (f.takes x)), σ) := by
 refine call_np (σ' := σ ++ [cellsOf f.P]) rfl rfl rfl ?_ rfl rfl (by simp)
 have h1 := b_takes f x (σ ++ [cellsOf f.P])
 have hi : i < σ.length := (List.getElem?_eq_some_iff.1 h).1
 have h2 : (σ ++ [cellsOf f.P])[i]? = some (cellsOf x.P) := by rw [List.getElem?_append_left hi]; exact h
 simp [cellsOf] at h1 h2
 refine evI_run (fn := Tryz.f198) 5 rfl Tryz.func198 rfl ?_
 simp [Tryz.f198, cellsOf, loadS, h1, h2]
def anyF (l : List Fl) (x : Fr) : Bool := l.isEmpty || l.any (·.takes x)
theorem b_any (l : List Fl) (x : Fr) (hl : l.length ≤ 1000000) (σ : Store) : callIt E1 (evI E1) 145 [.d (.slice (l.map Fl.D)), x.P] σ = some (.d (.bool (anyF l x)), σ) := by
 refine call_run (fn := Tryz.f145) 5 rfl rfl rfl Tryz.func145 rfl rfl ?_ rfl
 have h1 := b_containsFl 198 [.ptr 0 0] (fun f => f.takes x) l hl [cellsOf x.P] (fun f _ => b_any1 _ _ x (by simp) f)
 unfold anyF
 cases hb : ((l.length : Int) == 0)
 ·have : l.isEmpty = false := by cases l <;> simp at hb ⊢
  simp [cellsOf] at h1
  simp [Tryz.f145, cellsOf, h1, hb, this]
 ·have : l = [] := by cases l <;> simp at hb ⊢; omega
  subst this
  simp [Tryz.f145, cellsOf, hb]
theorem b_countNew (σ : Store) : callIt E1 (evI E1) 127 [] σ = some ((Cn.mk 0 0 1 0).P, σ) := by
 refine call_run (fn := Tryz.f127) 5 rfl rfl rfl Tryz.func127 rfl rfl ?_ rfl
 simp [Tryz.f127]
theorem b_cloneFl (l : List Fl) (hl : l.length ≤ 1000000) (σ : Store) : callIt E1 (evI E1) 126 [.d (.slice (l.map Fl.D))] σ = some (acc (l.map Fl.D), σ) := by
 have : l.length * 24 ≤ roomB := by simp only [roomB]; omega
 simp [callIt, E1ov, ovAll, isDataL, PV.isData, ovClone, this, acc_data]
def flsRight (l : List Fl) : Bool := decide ((l.length : Int) ≤ 8) && l.all (·.right)
def nd0 : Nd := ⟨[], [], ⟨0, 0, 0, 0⟩, []⟩
def ndNew (l : List Fl) : Nd × Int := if flsRight l then (⟨[], l, ⟨0, 0, 1, 0⟩, []⟩, 0) else (nd0, 1)
theorem b_new (l : List Fl) (hl : l.length ≤ 1000000) (σ : Store) : callIt E1 (evI E1) 56 [.d (.slice (l.map Fl.D))] σ = some (.tup [(ndNew l).1.P, .d (.int .i64 (ndNew l).2)], σ) := by
 refine call_run (fn := Tryz.f56) 5 rfl rfl rfl Tryz.func56 rfl rfl ?_ rfl
 have h1 := b_allFl l 8 hl
 have h2 := b_cloneFl l hl
 have h3 := b_countNew
 unfold ndNew
 cases hb : flsRight l
 ·unfold flsRight at hb
  rw [hb] at h1
  simp [Tryz.f56, h1, nd0]
 ·unfold flsRight at hb
  rw [hb] at h1
  simp at h3
  simp [Tryz.f56, h1, h2, h3]
end Go.Proofs

set_option maxRecDepth 100000
set_option maxHeartbeats 4000000
namespace Go.Proofs
open Go.RowKit Go.Shelf Go.Pv
def stOf (t r : Int) : Int := if max t r > 127 then 2 else 1
theorem b_state (c : Cn) : callIt E1 (evI E1) 172 [.ptr 1 0] [cellsOf c.P, cellsOf c.P] = some (.d (.int .i64 (stOf c.t c.r)), [cellsOf c.P, cellsOf c.P]) := by
 have key : evI E1 172 [.ptr 1 0] [cellsOf c.P, cellsOf c.P] = some (.d (.int .i64 (stOf c.t c.r)), [cellsOf c.P, cellsOf c.P]) := by
  refine evI_run (fn := Tryz.f172) 5 rfl Tryz.func172 rfl ?_
  unfold stOf
  by_cases h : max c.t c.r > 127
  ·simp [Tryz.f172, cellsOf, loadS, h]
  ·simp [Tryz.f172, cellsOf, loadS, h]
 have ho : E1.ov 172 = none := rfl
 have hp : E1.pure 172 = false := rfl
 have hr : E1.ro 172 = true := rfl
 simp [cellsOf] at key
 simp [callIt, cellsOf, key, ho, hp, hr]
def Cn.right (c : Cn) : Bool :=
 if c.s = 3 then (c.t == 256) && (c.r == 0) && (c.z / 128 == 0) else (c.t / 256 == 0) && (c.r / 256 == 0) && (c.z == 0) && (c.s == stOf c.t c.r)
theorem shr7 (x : Int) {k : IntKind} : evBin Tryz.prog .shr 3 (.d (.int .i64 x)) (.d (.int k 7)) = some (.d (.int .i64 (x / 128))) := by
 rw [bin_shr_u (by decide), show (2 : Int) ^ min (Int.toNat 7) 64 = 128 by decide, Int.fdiv_eq_ediv_of_nonneg _ (by decide)]
theorem shr8 (x : Int) {k : IntKind} : evBin Tryz.prog .shr 3 (.d (.int .i64 x)) (.d (.int k 8)) = some (.d (.int .i64 (x / 256))) := by
 rw [bin_shr_u (by decide), show (2 : Int) ^ min (Int.toNat 8) 64 = 256 by decide, Int.fdiv_eq_ediv_of_nonneg _ (by decide)]
theorem b_countRight (c : Cn) (σ : Store) : callIt E1 (evI E1) 121 [c.P] σ = some (.d (.bool c.right), σ) := by
 refine call_run (fn := Tryz.f121) 5 rfl rfl rfl Tryz.func121 rfl rfl ?_ rfl
 obtain ⟨t, r, s, z⟩ := c
 unfold Cn.right
 by_cases hs : s = 3
 ·subst hs
  cases h1 : (t == 256)
  ·simp [Tryz.f121, h1]
  ·cases h2 : (r == 0)
   ·simp [Tryz.f121, h1, h2]
   ·simp [Tryz.f121, h1, h2, shr7]
 ·have hs' : (s == 3) = false := by simpa using hs
  have h72 := b_state ⟨t, r, s, z⟩
  simp [cellsOf] at h72
  cases h1 : (t / 256 == 0)
  ·simp [Tryz.f121, hs', hs, shr8, h1]
  ·cases h2 : (r / 256 == 0)
   ·simp [Tryz.f121, hs', hs, shr8, h1, h2]
   ·cases h3 : (z == 0)
    ·simp [Tryz.f121, hs', hs, shr8, h1, h2, h3]
    ·simp [Tryz.f121, hs', hs, shr8, h1, h2, h3, h72]
def frsRight (most : Int) (l : List Fr) : Bool := decide ((l.length : Int) ≤ most) && l.all (·.right)
def Nd.right (n : Nd) : Bool := frsRight 16 n.q && frsRight 64 n.g && flsRight n.fs && n.c.right
theorem b_right (n : Nd) (hq : n.q.length ≤ 1000000) (hf : n.fs.length ≤ 1000000) (hg : n.g.length ≤ 1000000) (σ : Store) : callIt E1 (evI E1) 48 [n.P] σ = some (.d (.bool n.right), σ) := by
 refine call_run (fn := Tryz.f48) 5 rfl rfl rfl Tryz.func48 rfl rfl ?_ rfl
 have k1 : ∀ σ, callIt E1 (evI E1) 117 _ σ = some (.d (.bool (frsRight 16 n.q)), σ) := fun σ => b_allFr n.q 16 hq σ
 have k2 : ∀ σ, callIt E1 (evI E1) 117 _ σ = some (.d (.bool (frsRight 64 n.g)), σ) := fun σ => b_allFr n.g 64 hg σ
 have k3 : ∀ σ, callIt E1 (evI E1) 119 _ σ = some (.d (.bool (flsRight n.fs)), σ) := fun σ => b_allFl n.fs 8 hf σ
 have k4 := b_countRight n.c
 unfold Nd.right
 simp at k4
 cases h1 : frsRight 16 n.q
 ·simp [Tryz.f48, k1, h1]
 ·cases h2 : frsRight 64 n.g
  ·simp [Tryz.f48, k1, k2, h1, h2]
  ·cases h3 : flsRight n.fs
   ·simp [Tryz.f48, k1, k2, k3, h1, h2, h3]
   ·simp [Tryz.f48, k1, k2, k3, k4, h1, h2, h3]
end Go.Proofs

set_option maxRecDepth 100000
set_option maxHeartbeats 4000000
namespace Go.Proofs
open Go.RowKit Go.Shelf Go.Pv
def cmpL : List Int → List Int → Int
 | [], [] => 0
 | [], _ :: _ => -1
 | _ :: _, [] => 1
 | x :: xs, y :: ys => if x < y then -1 else if y < x then 1 else cmpL xs ys
theorem l_cmp (m : Nat) (k l : List Int) (hk : k.length ≤ 1000000) (σ : Store) (B : Code) (hB : Tryz.f193.body.bind bodyOf = some B) :
  ∀ (n i : Nat) (x5 x6 x7 x8 x12 x13 x14 x15 x16 x17 x18 x19 x20 x21 x22 x23 x24 x25 x26 x27 x28 x29 x30 x31 x32 x33 x34 x35 : PV), i ≤ k.length → i ≤ l.length → k.length < i + n →
   ∃ e y5 y6 y7 y8 y11 y12 y13 y14 y15 y16 y17 y18 y19 y20 y21 y22 y23 y24 y25 y26 y27 y28 y29 y30 y31 y32 y33 y34 y35 z, loopN (evCode E1 (evI E1) m B) n ⟨[.d (.slice (k.map intD)), .d (.slice (l.map intD)), .undef, .undef, .d (.int .i64 0), x5, x6, x7, x8, .d (.slice (k.map intD)), .d (.int .i64 k.length), .d (.int .i64 i), x12, x13, x14, x15, x16, x17, x18, x19, x20, x21, x22, x23, x24, x25, x26, x27, x28, x29, x30, x31, x32, x33, x34, x35], σ⟩ =
    some (e, ⟨[.d (.slice (k.map intD)), .d (.slice (l.map intD)), .undef, .undef, .d (.int .i64 z), y5, y6, y7, y8, .d (.slice (k.map intD)), .d (.int .i64 k.length), y11, y12, y13, y14, y15, y16, y17, y18, y19, y20, y21, y22, y23, y24, y25, y26, y27, y28, y29, y30, y31, y32, y33, y34, y35], σ⟩) ∧
    ((e = .ret ∧ z = cmpL (k.drop i) (l.drop i)) ∨ (e = .exit 0 ∧ cmpL (k.drop i) (l.drop i) = if k.length < l.length then -1 else 0)) := by
 simp [Tryz.f193, bodyOf] at hB
 subst hB
 intro n
 induction n with
 | zero => intros; omega
 | succ n ih =>
  intro i x5 x6 x7 x8 x12 x13 x14 x15 x16 x17 x18 x19 x20 x21 x22 x23 x24 x25 x26 x27 x28 x29 x30 x31 x32 x33 x34 x35 h1 h1' h2
  rw [loopN_succ]
  by_cases hi : i < k.length
  ·have hx : k[i]? = some k[i] := List.getElem?_eq_getElem hi
   have hd : k.drop i = k[i] :: k.drop (i + 1) := List.drop_eq_getElem_cons hi
   generalize k[i] = x at hx hd
   have hlt : (i : Int) < (k.length : Int) := by omega
   rw [hd]
   by_cases hj : i < l.length
   ·have hy : l[i]? = some l[i] := List.getElem?_eq_getElem hj
    have he : l.drop i = l[i] :: l.drop (i + 1) := List.drop_eq_getElem_cons hj
    generalize l[i] = y at hy he
    have hge : ¬ (l.length : Int) ≤ (i : Int) := by omega
    rw [he]
    have hw : IntKind.i64.wrap ((i : Int) + 1) = ((i + 1 : Nat) : Int) := by rw [wrap_ok (by omega) (by omega)]; omega
    by_cases g1 : x < y
    ·simp [hx, hy, hlt, hge, b_cmp, cmpI, cmpL, g1, and_assoc]
    ·by_cases g2 : y < x
     ·simp [hx, hy, hlt, hge, b_cmp, cmpI, cmpL, g1, g2, and_assoc]
     ·simp [hx, hy, hlt, hge, b_cmp, cmpI, cmpL, g1, g2, hw]
      exact ih (i + 1) _ _ _ _ _ _ _ _ _ _ _ _ _ _ _ _ _ _ _ _ _ _ _ _ _ _ _ _ (by omega) (by omega) (by omega)
   ·have he : l.drop i = [] := List.drop_eq_nil_of_le (by omega)
    have hge : (l.length : Int) ≤ (i : Int) := by omega
    rw [he]
    simp [hx, hlt, hge, cmpL, and_assoc]
  ·have hlt : ¬ (i : Int) < (k.length : Int) := by omega
   have hd : k.drop i = [] := List.drop_eq_nil_of_le (by omega)
   rw [hd]
   by_cases hj : k.length < l.length
   ·have he : l.drop i ≠ [] := by intro h; have := List.drop_eq_nil_iff.1 h; omega
    cases hl : l.drop i with
    | nil => exact absurd hl he
    | cons y ys => simp [hlt, hj, cmpL, and_assoc]
   ·have he : l.drop i = [] := List.drop_eq_nil_of_le (by omega)
    simp [hlt, hj, he, cmpL, and_assoc]
theorem b_cmpL (k l : List Int) (hk : k.length ≤ 1000000) (σ : Store) : callIt E1 (evI E1) 193 [.d (.slice (k.map intD)), .d (.slice (l.map intD))] σ = some (.d (.int .i64 (cmpL k l)), σ) := by
 refine call_run (fn := Tryz.f193) (k.length + 1) rfl rfl rfl Tryz.func193 rfl rfl ?_ rfl
 obtain ⟨e, y5, y6, y7, y8, y11, y12, y13, y14, y15, y16, y17, y18, y19, y20, y21, y22, y23, y24, y25, y26, y27, y28, y29, y30, y31, y32, y33, y34, y35, z, h1, h2⟩ := l_cmp (k.length + 1) k l hk [] _ rfl (k.length + 1) 0 .undef .undef .undef .undef .undef .undef .undef .undef .undef .undef .undef .undef .undef .undef .undef .undef .undef .undef .undef .undef .undef .undef .undef .undef .undef .undef .undef .undef (by omega) (by omega) (by omega)
 simp at h1 h2
 rcases h2 with ⟨rfl, rfl⟩ | ⟨rfl, h3⟩
 ·simp [Tryz.f193, ec_loop, h1]
 ·by_cases hj : k.length < l.length
  ·have hj' : (k.length : Int) < l.length := by omega
   simp [Tryz.f193, ec_loop, h1, h3, hj, hj']
  ·have hj' : ¬ (k.length : Int) < l.length := by omega
   simp [Tryz.f193, ec_loop, h1, h3, hj, hj']
def bitsOf (v : Int) (m : Nat) : List Int := (List.range m).map fun k => (v / 2 ^ (m - 1 - k)) % 2
theorem bitRows_map (v : Int) (m : Nat) : bitRows v m = (bitsOf v m).map intD := by simp [bitRows, bitsOf]
def Fr.rank (f : Fr) : List Int :=
 if f.e then bitsOf (f.id / 2 ^ 18) 11 ++ bitsOf 3 2 ++ bitsOf (f.id % 2 ^ 18) 18 ++ bitsOf (bitOf f.rm) 1 else bitsOf f.id 11 ++ bitsOf (bitOf f.rm) 1 ++ bitsOf 0 1
theorem Fr.right_iff (f : Fr) : f.right = true ↔ (0 ≤ f.id ∧ f.id < 2 ^ (if f.e then 29 else 11)) ∧ 0 ≤ f.ln ∧ f.ln ≤ 8 ∧ (f.data.length : Int) = if f.rm then 0 else f.ln := by
 unfold Fr.right frRight
 rw [Int.fdiv_eq_ediv_of_nonneg _ (by cases f.e <;> decide)]
 simp only [Bool.and_eq_true, beq_iff_eq, decide_eq_true_eq, List.length_map]
 cases f.e
 ·simp; omega
 ·simp; omega
theorem Fr.rank_rows (f : Fr) : rankOf f.e f.id f.rm = f.rank.map intD := by
 unfold rankOf Fr.rank rankExt rankStd
 cases f.e <;> simp [bitRows_map]
theorem Fr.rank_len (f : Fr) : f.rank.length ≤ 32 := by
 unfold Fr.rank
 cases f.e <;> simp [bitsOf]
theorem b_rank (f : Fr) (h : f.right = true) (σ : Store) : callIt E1 (evI E1) 138 [f.P] σ = some (.d (.slice (f.rank.map intD)), σ) := by
 rw [← f.rank_rows]
 exact c64 f.e f.id f.rm f.ln (f.data.map byD) (f.right_iff.1 h).1 σ
end Go.Proofs

set_option maxRecDepth 100000
set_option maxHeartbeats 4000000
namespace Go.Proofs
open Go.RowKit Go.Shelf Go.Pv
def minF {α : Type} (cmp : α → α → Int) (m : α) (l : List α) : α := l.foldl (fun m x => if cmp x m < 0 then x else m) m
theorem minF_mem {α : Type} (cmp : α → α → Int) : ∀ (l : List α) (m : α), minF cmp m l = m ∨ minF cmp m l ∈ l
 | [], m => .inl rfl
 | x :: xs, m => by
  unfold minF
  simp only [List.foldl_cons]
  rcases minF_mem cmp xs (if cmp x m < 0 then x else m) with h | h
  ·unfold minF at h
   rw [h]
   split <;> simp
  ·exact .inr (List.mem_cons_of_mem _ h)
def rankCmp (a b : Fr) : Int := cmpL a.rank b.rank
theorem b_next1 (a b : Fr) (ha : a.right = true) (hb : b.right = true) (σ : Store) : callIt E1 (evI E1) 192 [a.P, b.P] σ = some (.d (.int .i64 (rankCmp a b)), σ) := by
 refine call_np (σ' := σ ++ [cellsOf a.P, cellsOf b.P]) rfl rfl rfl ?_ rfl rfl (by simp)
 have h1 := b_rank a ha (σ ++ [cellsOf a.P, cellsOf b.P])
 have h2 := b_rank b hb (σ ++ [cellsOf a.P, cellsOf b.P])
 have h3 := b_cmpL a.rank b.rank (by have := a.rank_len; omega) (σ ++ [cellsOf a.P, cellsOf b.P])
 simp [cellsOf] at h1 h2 h3
 refine evI_run (fn := Tryz.f192) 5 rfl Tryz.func192 rfl ?_
 simp [Tryz.f192, cellsOf, loadS, h1, h2, h3, rankCmp]
theorem l_min (m g : Nat) (l : List Fr) (cmp : Fr → Fr → Int) (hl : l.length ≤ 1000000) (σ : Store) (i4 : List PV) (hp : ∀ x y, x ∈ l → y ∈ l → ∀ σ, callIt E1 (evI E1) g [x.P, y.P] σ = some (.d (.int .i64 (cmp x y)), σ))
  (B : Code) (hB : Tryz.f194.body.bind bodyOf = some B) :
  ∀ (n i : Nat) (w : Fr) (x9 x10 x11 x12 x13 x14 x15 x16 x17 x18 x19 x20 x21 x22 x23 x24 x25 x26 x27 x28 x29 x30 x31 x32 : PV), i ≤ l.length → l.length < i + n → w ∈ l →
   ∃ y14 y15 y16 y17 y18 y19 y20 y21 y22 y23 y24 y25 y26 y27 y28 y29 y30 y31 y32 j, loopN (evCode E1 (evI E1) m B) n ⟨[.d (.slice (l.map Fr.D)), .func (.func g) [] [], .undef, .undef, .ptr σ.length 0, .ptr (σ.length + 1) 0, .d (.int .i64 i), .d (.slice (l.map Fr.D)), .d (.int .i64 l.length), x9, x10, x11, x12, x13, x14, x15, x16, x17, x18, x19, x20, x21, x22, x23, x24, x25, x26, x27, x28, x29, x30, x31, x32], σ ++ [i4, cellsOf w.P]⟩ =
    some (.exit 0, ⟨[.d (.slice (l.map Fr.D)), .func (.func g) [] [], .undef, .undef, .ptr σ.length 0, .ptr (σ.length + 1) 0, j, .d (.slice (l.map Fr.D)), .d (.int .i64 l.length), x9, x10, x11, x12, x13, y14, y15, y16, y17, y18, y19, y20, y21, y22, y23, y24, y25, y26, y27, y28, y29, y30, y31, y32], σ ++ [i4, cellsOf (minF cmp w (l.drop i)).P]⟩) := by
 simp [Tryz.f194, bodyOf] at hB
 subst hB
 intro n
 induction n with
 | zero => intros; omega
 | succ n ih =>
  intro i w x9 x10 x11 x12 x13 x14 x15 x16 x17 x18 x19 x20 x21 x22 x23 x24 x25 x26 x27 x28 x29 x30 x31 x32 h1 h2 hw
  rw [loopN_succ]
  by_cases hi : i < l.length
  ·have hx : l[i]? = some l[i] := List.getElem?_eq_getElem hi
   have hd : l.drop i = l[i] :: l.drop (i + 1) := List.drop_eq_getElem_cons hi
   have hm : l[i] ∈ l := List.getElem_mem hi
   generalize l[i] = x at hx hd hm
   have hlt : (i : Int) < (l.length : Int) := by omega
   have hpx := hp x w hm hw (σ ++ [i4, cellsOf w.P])
   have hw' : IntKind.i64.wrap ((i : Int) + 1) = ((i + 1 : Nat) : Int) := by rw [wrap_ok (by omega) (by omega)]; omega
   rw [hd]
   simp [cellsOf] at hpx
   by_cases hb : cmp x w < 0
   ·have hk := fun z9 z10 z11 z12 z13 z14 z15 z16 z17 z18 z19 z20 z21 z22 z23 z24 z25 z26 z27 z28 z29 z30 z31 z32 => ih (i + 1) x z9 z10 z11 z12 z13 z14 z15 z16 z17 z18 z19 z20 z21 z22 z23 z24 z25 z26 z27 z28 z29 z30 z31 z32 (by omega) (by omega) hm
    simp [cellsOf] at hk
    simp [hx, hpx, hlt, hw', minF, hb, cellsOf, loadS, storeS]
    simp [minF] at hk
    exact hk _ _ _ _ _ _ _ _ _ _ _ _ _ _ _ _ _ _ _ _ _ _ _ _
   ·have hk := fun z9 z10 z11 z12 z13 z14 z15 z16 z17 z18 z19 z20 z21 z22 z23 z24 z25 z26 z27 z28 z29 z30 z31 z32 => ih (i + 1) w z9 z10 z11 z12 z13 z14 z15 z16 z17 z18 z19 z20 z21 z22 z23 z24 z25 z26 z27 z28 z29 z30 z31 z32 (by omega) (by omega) hw
    simp [cellsOf] at hk
    simp [hx, hpx, hlt, hw', minF, hb, cellsOf, loadS, storeS]
    simp [minF] at hk
    exact hk _ _ _ _ _ _ _ _ _ _ _ _ _ _ _ _ _ _ _ _ _ _ _ _
  ·have hlt : ¬ (i : Int) < (l.length : Int) := by omega
   have : l.drop i = [] := List.drop_eq_nil_of_le (by omega)
   simp [hlt, this, minF]
end Go.Proofs

set_option maxRecDepth 100000
set_option maxHeartbeats 4000000
namespace Go.Proofs
open Go.RowKit Go.Shelf Go.Pv
theorem b_min (g : Nat) (l : List Fr) (w : Fr) (hw : l[0]? = some w) (cmp : Fr → Fr → Int) (hl : l.length ≤ 1000000) (σ : Store) (hp : ∀ x y, x ∈ l → y ∈ l → ∀ σ, callIt E1 (evI E1) g [x.P, y.P] σ = some (.d (.int .i64 (cmp x y)), σ)) :
  callIt E1 (evI E1) 194 [.d (.slice (l.map Fr.D)), .func (.func g) [] []] σ = some ((minF cmp w l).P, σ) := by
 have hpos : 0 < l.length := (List.getElem?_eq_some_iff.1 hw).1
 have hmem : w ∈ l := List.mem_of_getElem? hw
 have hd : l = w :: l.drop 1 := by
  cases l with
  | nil => simp at hw
  | cons a b => simp at hw ⊢; exact hw
 refine call_np (σ' := σ ++ [cellsOf (minF cmp w (l.drop 1)).P, cellsOf (minF cmp w (l.drop 1)).P]) rfl rfl rfl ?_ rfl rfl (by simp)
 refine evI_run (fn := Tryz.f194) (l.length + 1) rfl Tryz.func194 rfl ?_
 obtain ⟨y14, y15, y16, y17, y18, y19, y20, y21, y22, y23, y24, y25, y26, y27, y28, y29, y30, y31, y32, j, h1⟩ := l_min (l.length + 1) g l cmp hl σ [.d (.bool false), .d (.int .i64 0), .d (.bool false), .d (.int .i64 0), .e0] hp _ rfl (l.length + 1) 1 w (.d (.bool false)) .undef (.d (.slice (l.map Fr.D))) (.ro w.D) w.P .undef .undef .undef .undef .undef .undef .undef .undef .undef .undef .undef .undef .undef .undef .undef .undef .undef .undef .undef (by omega) (by omega) hmem
 have hnl : ¬ (l.length : Int) < 1 := by omega
 have hmin : minF cmp w l = minF cmp w (l.drop 1) := by
  conv => lhs; rw [hd]
  simp [minF]
 simp [cellsOf] at h1
 rw [hmin]
 simp [Tryz.f194, ec_loop, cellsOf, loadS, storeS, hnl, hw, h1]
theorem b_next2 (x w : Fr) (hx : x.right = true) (hw : w.right = true) (σ : Store) (i j : Nat) (hi : σ[i]? = some [.func (.func 192) [] []]) (hj : σ[j]? = some (cellsOf w.P)) :
  callIt E1 (evI E1) 196 [x.P, .ptr i 0, .ptr j 0] σ = some (.d (.bool (rankCmp x w == 0)), σ) := by
 refine call_np (σ' := σ ++ [cellsOf x.P]) rfl rfl rfl ?_ rfl rfl (by simp)
 have h1 := b_next1 x w hx hw (σ ++ [cellsOf x.P])
 have li : i < σ.length := (List.getElem?_eq_some_iff.1 hi).1
 have lj : j < σ.length := (List.getElem?_eq_some_iff.1 hj).1
 have h2 : (σ ++ [cellsOf x.P])[i]? = some [.func (.func 192) [] []] := by rw [List.getElem?_append_left li]; exact hi
 have h3 : (σ ++ [cellsOf x.P])[j]? = some (cellsOf w.P) := by rw [List.getElem?_append_left lj]; exact hj
 simp [cellsOf] at h1 h2 h3
 refine evI_run (fn := Tryz.f196) 5 rfl Tryz.func196 rfl ?_
 simp [Tryz.f196, cellsOf, loadS, h1, h2, h3]
def nextOf : List Fr → Int
 | [] => -1
 | w :: q => idx (fun x => rankCmp x (minF rankCmp w (w :: q)) == 0) (w :: q) 0
def Nd.off (n : Nd) : Bool := n.c.s == 3
theorem b_off (n : Nd) (σ : Store) : callIt E1 (evI E1) 124 [n.P] σ = some (.d (.bool n.off), σ) := c42 _ _ _ _ _ _ _ σ
def Nd.next (n : Nd) : Int × Bool := if n.off || n.q.isEmpty then (0, false) else (nextOf n.q, true)
theorem b_nexti (n : Nd) (hl : n.q.length ≤ 1000000) (hr : ∀ x ∈ n.q, x.right = true) (σ : Store) : callIt E1 (evI E1) 143 [n.P] σ = some (.tup [.d (.int .i64 n.next.1), .d (.bool n.next.2)], σ) := by
 refine call_run (fn := Tryz.f143) 5 rfl rfl rfl Tryz.func143 rfl rfl ?_ rfl
 have h1 := b_off n
 obtain ⟨q, fs, c, g⟩ := n
 unfold Nd.next
 simp at hl hr
 cases ho : Nd.off ⟨q, fs, c, g⟩
 ·rw [ho] at h1
  cases q with
  | nil =>
   simp at h1
   simp [Tryz.f143, cellsOf, loadS, storeS, h1]
  | cons w q =>
   have hw := hr w (by simp)
   have hq : ∀ x ∈ w :: q, x.right = true := hr
   have hmin : (minF rankCmp w (w :: q)).right = true := by
    rcases minF_mem rankCmp (w :: q) w with h | h
    ·rw [h]; exact hw
    ·exact hq _ h
   have hq0 : ((q.length : Int) + 1 == 0) = false := by rw [beq_eq_false_iff_ne]; omega
   have h2 : ∀ σ, _ := fun σ => b_min 192 (w :: q) w rfl rankCmp (by simpa using hl) σ (fun x y hx hy σ => b_next1 x y (hq x hx) (hq y hy) σ)
   have h3 : ∀ σ hσ hσ', _ := fun σ hσ hσ' => b_idxFr 196 [.ptr 1 0, .ptr 2 0] (fun x => rankCmp x (minF rankCmp w (w :: q)) == 0) (w :: q) (by simpa using hl) σ (.inr trivial) (fun x hx => b_next2 x _ (hq x hx) hmin σ 1 2 hσ hσ')
   have h4 := h3 [cellsOf (Nd.mk (w :: q) fs c g).P, [.func (.func 192) [] []], cellsOf (minF rankCmp w (w :: q)).P] rfl rfl
   simp [cellsOf] at h1 h2 h4
   simp [Tryz.f143, cellsOf, loadS, storeS, h1, hq0, h2, h4, nextOf]
 ·rw [ho] at h1
  simp at h1
  simp [Tryz.f143, cellsOf, loadS, storeS, h1]
end Go.Proofs

