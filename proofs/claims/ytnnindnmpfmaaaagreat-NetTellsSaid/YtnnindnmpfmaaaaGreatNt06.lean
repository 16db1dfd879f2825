/- Overrides of the seat of nodes: count.Step, its answer; Overrides of the seat of nodes: count.Step, of a node that is off; and altogether; Overrides of the seat of nodes: bits.Put, its contract; Overrides: bits.Spread: bytes as bits; slices.Clone, the clone to be written: a slice that was made; slices.Clone of rows of nodes, as data and to be written; The seat of nodes: the evaluator with all its overrides; The seat of nodes: what its functions compute: facts. -/
import Derived.Test.YtnnindnmpfmaaaaGreatNt05
import Derived.Test.YtnnindnmpfmaaaaGreatNt04
set_option linter.unusedVariables false
set_option linter.unusedSimpArgs false
set_option maxRecDepth 100000
set_option maxHeartbeats 4000000
namespace Go.Proofs
open Go.Shelf Go.RowKit Go.Lib Go.Pv
def wkT (what t : Int) : Int := if what = 1 then max (t - 1) 0 else if what = 3 then t + 8 else t
def wkR (what r : Int) : Int := if what = 2 then min (max (r - 1) 0) 127 else if what = 4 then min (r + 1) 255 else if what = 5 then min (r + 8) 255 else r
def stepV (t r s q what : Int) : PV :=
 if s = 3 then (if what = 6 then (if q + 1 = 128 then cn 0 0 1 0 else cn t r s (q + 1)) else cn t r s q)
 else if wkT what t > 255 then cn 256 0 3 0 else cn (wkT what t) (wkR what r) (if max (wkT what t) (wkR what r) > 127 then 2 else 1) q
theorem E0ov (f : FuncId) : E0.ov f = none := rfl
theorem E0p81 : E0.pure 209 = false := rfl
theorem E0p82 : E0.pure 210 = false := rfl
theorem E0p83 : E0.pure 211 = false := rfl
theorem E0p89 : E0.pure 220 = false := rfl
theorem E0p72 : E0.pure 172 = false := rfl
theorem E0r81 : E0.ro 209 = false := rfl
theorem E0r82 : E0.ro 210 = false := rfl
theorem E0r83 : E0.ro 211 = false := rfl
theorem E0r89 : E0.ro 220 = false := rfl
theorem E0r72 : E0.ro 172 = true := rfl
theorem step_pre (t r s q what : Int) (h : s ≠ 3) : evCode E0 (evI E0) 5 c49a ⟨[cn t r s q, .d (.int .i64 what)] ++ List.replicate 31 .undef, []⟩ =
  some (.normal, ⟨[cn t r s q, .d (.int .i64 what), .ptr 0 0, .undef, .ptr 1 0, .ptr 2 0, .undef, .undef, .ptr 0 2, .d (.int .i64 s), .d (.bool (s == 3)), .undef, .undef, .undef, .undef, .undef, cn t r s q] ++ List.replicate 16 .undef,
   [[.d (.int .i64 t), .d (.int .i64 r), .d (.int .i64 s), .d (.int .i64 q)], [.d (.int .i64 0), .d (.int .i64 0), .d (.int .i64 0), .d (.int .i64 0)], [.d (.int .i64 t), .d (.int .i64 r), .d (.int .i64 s), .d (.int .i64 q)]]⟩) := by
 simp [c49a, c49, cn, codeL, codeR, Tryz.f139, evCode, evOps, evOp, evWant, evCore, evPure, evCall, use, useL, useParts, opv, rd, putS, untake, moveIt, takes, af_nil, af_cons, appTmp, apartL, apartB, posOf, cellsOf, isBelowL, PV.isBelow, boxCells, isDataL, PV.isData, loadAs, loadS, storeS, storeAs, storedCells, oneP, PV.strip, PV.strip1, PV.keep0, evFieldAddr, evField, partP, evSlice, bound, natOf, rowsOk, evIndexAddr, evIndex, evLen, evAppend, ownRows, elemsOf, acc, fillP, bin_add, bin_sub, bin_mul, bin_lss, bin_leq, bin_gtr, bin_geq, bin_eql, bin_neq, bin_and, bin_andNot, un_not, mm_max, mm_min, ofValue, ofCell, slotOf, resVal, resOne, resL, retOf, toDL, toD, sameStore, sameCells, PV.same, DV.same_self, sameRows_self, sameL_self, callIt, E0P, Tryz.aggT47, Tryz.aggT3, Tryz.szT47, Tryz.szT3, Tryz.zeroT47, Tryz.aggT190, Tryz.szT190, Tryz.zeroT190, Tryz.underlying47, Tryz.underlying190, h]
theorem step_1 (t r s q : Int) (hs : s ≠ 3) (ht : 0 ≤ t ∧ t ≤ 900) (hr : 0 ≤ r ∧ r ≤ 900) : CallOk Tryz.prog 139 [cn t r s q, .d (.int .i64 1)] [] (stepV t r s q 1) [] := by
 have hT : wkT 1 t = max (t - 1) 0 := by simp [wkT]
 have hR : wkR 1 r = r := by simp [wkR]
 have ev : stepV t r s q 1 = if max (t - 1) 0 > 255 then cn 256 0 3 0 else cn (max (t - 1) 0) (r) (if max (max (t - 1) 0) (r) > 127 then 2 else 1) q := by simp only [stepV, hs, if_false, hT, hR]
 rw [ev]
 have he : Entry 1 (.func (.func 209) [] []) true := .inl ⟨rfl, rfl, rfl⟩
 by_cases hb : max (t - 1) 0 > 255
 ·rw [if_pos hb]
  refine step_join he rfl (step_pre t r s q 1 hs) (by simp) rfl (st4 := ?s4) (st5 := ?s5) (st6 := ?s6) ?h2 ?h3 ?h4 ?h5
  case h2 =>
   simp [c49o, regOps, codeL, codeR, c49, Tryz.f139, evIdx, evCode, evOps, evOp, evWant, evCore, evPure, evCall, use, useL, useParts, opv, rd, putS, untake, moveIt, takes, af_nil, af_cons, appTmp, apartL, apartB, posOf, cellsOf, isBelowL, PV.isBelow, boxCells, isDataL, PV.isData, loadAs, loadS, storeS, storeAs, storedCells, oneP, PV.strip, PV.strip1, PV.keep0, evFieldAddr, evField, partP, evSlice, bound, natOf, rowsOk, evIndexAddr, evIndex, evLen, evAppend, ownRows, elemsOf, acc, fillP, bin_add, bin_sub, bin_mul, bin_lss, bin_leq, bin_gtr, bin_geq, bin_eql, bin_neq, bin_and, bin_andNot, un_not, mm_max, mm_min, ofValue, ofCell, slotOf, resVal, resOne, resL, retOf, toDL, toD, sameStore, sameCells, PV.same, DV.same_self, sameRows_self, sameL_self, callIt, E0P, cn]
   rfl
  case h3 =>
   simp [c49b, codeL, codeR, c49, Tryz.f139, evCode, evOps, evOp, evWant, evCore, evPure, evCall, use, useL, useParts, opv, rd, putS, untake, moveIt, takes, af_nil, af_cons, appTmp, apartL, apartB, posOf, cellsOf, isBelowL, PV.isBelow, boxCells, isDataL, PV.isData, loadAs, loadS, storeS, storeAs, storedCells, oneP, PV.strip, PV.strip1, PV.keep0, evFieldAddr, evField, partP, evSlice, bound, natOf, rowsOk, evIndexAddr, evIndex, evLen, evAppend, ownRows, elemsOf, acc, fillP, bin_add, bin_sub, bin_mul, bin_lss, bin_leq, bin_gtr, bin_geq, bin_eql, bin_neq, bin_and, bin_andNot, un_not, mm_max, mm_min, ofValue, ofCell, slotOf, resVal, resOne, resL, retOf, toDL, toD, sameStore, sameCells, PV.same, DV.same_self, sameRows_self, sameL_self, callIt, E0P, cn, E0ov, E0p81, E0r81, ev81 _ _ t r s q (by omega)]
   rfl
  case h4 =>
   simp [c49c, codeL, codeR, c49, Tryz.f139, evCode, evOps, evOp, evWant, evCore, evPure, evCall, use, useL, useParts, opv, rd, putS, untake, moveIt, takes, af_nil, af_cons, appTmp, apartL, apartB, posOf, cellsOf, isBelowL, PV.isBelow, boxCells, isDataL, PV.isData, loadAs, loadS, storeS, storeAs, storedCells, oneP, PV.strip, PV.strip1, PV.keep0, evFieldAddr, evField, partP, evSlice, bound, natOf, rowsOk, evIndexAddr, evIndex, evLen, evAppend, ownRows, elemsOf, acc, fillP, bin_add, bin_sub, bin_mul, bin_lss, bin_leq, bin_gtr, bin_geq, bin_eql, bin_neq, bin_and, bin_andNot, un_not, mm_max, mm_min, ofValue, ofCell, slotOf, resVal, resOne, resL, retOf, toDL, toD, sameStore, sameCells, PV.same, DV.same_self, sameRows_self, sameL_self, callIt, E0P, cn, Tryz.aggT47, Tryz.aggT3, Tryz.szT47, Tryz.szT3, Tryz.zeroT47, Tryz.placesOf47, Tryz.aggT190, Tryz.szT190, Tryz.zeroT190, Tryz.underlying47, Tryz.underlying190, E0ov, E0p72, E0r72, ev72, hb]
   rfl
  case h5 => simp [Tryz.f139, evCode, evOps, evOp, evWant, evCore, evPure, evCall, use, useL, useParts, opv, rd, putS, untake, moveIt, takes, af_nil, af_cons, appTmp, apartL, apartB, posOf, cellsOf, isBelowL, PV.isBelow, boxCells, isDataL, PV.isData, loadAs, loadS, storeS, storeAs, storedCells, oneP, PV.strip, PV.strip1, PV.keep0, evFieldAddr, evField, partP, evSlice, bound, natOf, rowsOk, evIndexAddr, evIndex, evLen, evAppend, ownRows, elemsOf, acc, fillP, bin_add, bin_sub, bin_mul, bin_lss, bin_leq, bin_gtr, bin_geq, bin_eql, bin_neq, bin_and, bin_andNot, un_not, mm_max, mm_min, ofValue, ofCell, slotOf, resVal, resOne, resL, retOf, toDL, toD, sameStore, sameCells, PV.same, DV.same_self, sameRows_self, sameL_self, callIt, Tryz.aggT47, Tryz.szT47, cn]
 ·rw [if_neg hb]
  refine step_join he rfl (step_pre t r s q 1 hs) (by simp) rfl (st4 := ?u4) (st5 := ?u5) (st6 := ?u6) ?h2 ?h3 ?h4 ?h5
  case h2 =>
   simp [c49o, regOps, codeL, codeR, c49, Tryz.f139, evIdx, evCode, evOps, evOp, evWant, evCore, evPure, evCall, use, useL, useParts, opv, rd, putS, untake, moveIt, takes, af_nil, af_cons, appTmp, apartL, apartB, posOf, cellsOf, isBelowL, PV.isBelow, boxCells, isDataL, PV.isData, loadAs, loadS, storeS, storeAs, storedCells, oneP, PV.strip, PV.strip1, PV.keep0, evFieldAddr, evField, partP, evSlice, bound, natOf, rowsOk, evIndexAddr, evIndex, evLen, evAppend, ownRows, elemsOf, acc, fillP, bin_add, bin_sub, bin_mul, bin_lss, bin_leq, bin_gtr, bin_geq, bin_eql, bin_neq, bin_and, bin_andNot, un_not, mm_max, mm_min, ofValue, ofCell, slotOf, resVal, resOne, resL, retOf, toDL, toD, sameStore, sameCells, PV.same, DV.same_self, sameRows_self, sameL_self, callIt, E0P, cn]
   rfl
  case h3 =>
   simp [c49b, codeL, codeR, c49, Tryz.f139, evCode, evOps, evOp, evWant, evCore, evPure, evCall, use, useL, useParts, opv, rd, putS, untake, moveIt, takes, af_nil, af_cons, appTmp, apartL, apartB, posOf, cellsOf, isBelowL, PV.isBelow, boxCells, isDataL, PV.isData, loadAs, loadS, storeS, storeAs, storedCells, oneP, PV.strip, PV.strip1, PV.keep0, evFieldAddr, evField, partP, evSlice, bound, natOf, rowsOk, evIndexAddr, evIndex, evLen, evAppend, ownRows, elemsOf, acc, fillP, bin_add, bin_sub, bin_mul, bin_lss, bin_leq, bin_gtr, bin_geq, bin_eql, bin_neq, bin_and, bin_andNot, un_not, mm_max, mm_min, ofValue, ofCell, slotOf, resVal, resOne, resL, retOf, toDL, toD, sameStore, sameCells, PV.same, DV.same_self, sameRows_self, sameL_self, callIt, E0P, cn, E0ov, E0p81, E0r81, ev81 _ _ t r s q (by omega)]
   rfl
  case h4 =>
   simp [c49c, codeL, codeR, c49, Tryz.f139, evCode, evOps, evOp, evWant, evCore, evPure, evCall, use, useL, useParts, opv, rd, putS, untake, moveIt, takes, af_nil, af_cons, appTmp, apartL, apartB, posOf, cellsOf, isBelowL, PV.isBelow, boxCells, isDataL, PV.isData, loadAs, loadS, storeS, storeAs, storedCells, oneP, PV.strip, PV.strip1, PV.keep0, evFieldAddr, evField, partP, evSlice, bound, natOf, rowsOk, evIndexAddr, evIndex, evLen, evAppend, ownRows, elemsOf, acc, fillP, bin_add, bin_sub, bin_mul, bin_lss, bin_leq, bin_gtr, bin_geq, bin_eql, bin_neq, bin_and, bin_andNot, un_not, mm_max, mm_min, ofValue, ofCell, slotOf, resVal, resOne, resL, retOf, toDL, toD, sameStore, sameCells, PV.same, DV.same_self, sameRows_self, sameL_self, callIt, E0P, cn, Tryz.aggT47, Tryz.aggT3, Tryz.szT47, Tryz.szT3, Tryz.zeroT47, Tryz.placesOf47, Tryz.aggT190, Tryz.szT190, Tryz.zeroT190, Tryz.underlying47, Tryz.underlying190, E0ov, E0p72, E0r72, ev72, hb]
   rfl
  case h5 => simp [Tryz.f139, evCode, evOps, evOp, evWant, evCore, evPure, evCall, use, useL, useParts, opv, rd, putS, untake, moveIt, takes, af_nil, af_cons, appTmp, apartL, apartB, posOf, cellsOf, isBelowL, PV.isBelow, boxCells, isDataL, PV.isData, loadAs, loadS, storeS, storeAs, storedCells, oneP, PV.strip, PV.strip1, PV.keep0, evFieldAddr, evField, partP, evSlice, bound, natOf, rowsOk, evIndexAddr, evIndex, evLen, evAppend, ownRows, elemsOf, acc, fillP, bin_add, bin_sub, bin_mul, bin_lss, bin_leq, bin_gtr, bin_geq, bin_eql, bin_neq, bin_and, bin_andNot, un_not, mm_max, mm_min, ofValue, ofCell, slotOf, resVal, resOne, resL, retOf, toDL, toD, sameStore, sameCells, PV.same, DV.same_self, sameRows_self, sameL_self, callIt, Tryz.aggT47, Tryz.szT47, cn]
theorem step_2 (t r s q : Int) (hs : s ≠ 3) (ht : 0 ≤ t ∧ t ≤ 900) (hr : 0 ≤ r ∧ r ≤ 900) : CallOk Tryz.prog 139 [cn t r s q, .d (.int .i64 2)] [] (stepV t r s q 2) [] := by
 have hT : wkT 2 t = t := by simp [wkT]
 have hR : wkR 2 r = min (max (r - 1) 0) 127 := by simp [wkR]
 have ev : stepV t r s q 2 = if t > 255 then cn 256 0 3 0 else cn (t) (min (max (r - 1) 0) 127) (if max (t) (min (max (r - 1) 0) 127) > 127 then 2 else 1) q := by simp only [stepV, hs, if_false, hT, hR]
 rw [ev]
 have he : Entry 2 (.func (.func 210) [] []) true := .inr (.inl ⟨rfl, rfl, rfl⟩)
 by_cases hb : t > 255
 ·rw [if_pos hb]
  refine step_join he rfl (step_pre t r s q 2 hs) (by simp) rfl (st4 := ?s4) (st5 := ?s5) (st6 := ?s6) ?h2 ?h3 ?h4 ?h5
  case h2 =>
   simp [c49o, regOps, codeL, codeR, c49, Tryz.f139, evIdx, evCode, evOps, evOp, evWant, evCore, evPure, evCall, use, useL, useParts, opv, rd, putS, untake, moveIt, takes, af_nil, af_cons, appTmp, apartL, apartB, posOf, cellsOf, isBelowL, PV.isBelow, boxCells, isDataL, PV.isData, loadAs, loadS, storeS, storeAs, storedCells, oneP, PV.strip, PV.strip1, PV.keep0, evFieldAddr, evField, partP, evSlice, bound, natOf, rowsOk, evIndexAddr, evIndex, evLen, evAppend, ownRows, elemsOf, acc, fillP, bin_add, bin_sub, bin_mul, bin_lss, bin_leq, bin_gtr, bin_geq, bin_eql, bin_neq, bin_and, bin_andNot, un_not, mm_max, mm_min, ofValue, ofCell, slotOf, resVal, resOne, resL, retOf, toDL, toD, sameStore, sameCells, PV.same, DV.same_self, sameRows_self, sameL_self, callIt, E0P, cn]
   rfl
  case h3 =>
   simp [c49b, codeL, codeR, c49, Tryz.f139, evCode, evOps, evOp, evWant, evCore, evPure, evCall, use, useL, useParts, opv, rd, putS, untake, moveIt, takes, af_nil, af_cons, appTmp, apartL, apartB, posOf, cellsOf, isBelowL, PV.isBelow, boxCells, isDataL, PV.isData, loadAs, loadS, storeS, storeAs, storedCells, oneP, PV.strip, PV.strip1, PV.keep0, evFieldAddr, evField, partP, evSlice, bound, natOf, rowsOk, evIndexAddr, evIndex, evLen, evAppend, ownRows, elemsOf, acc, fillP, bin_add, bin_sub, bin_mul, bin_lss, bin_leq, bin_gtr, bin_geq, bin_eql, bin_neq, bin_and, bin_andNot, un_not, mm_max, mm_min, ofValue, ofCell, slotOf, resVal, resOne, resL, retOf, toDL, toD, sameStore, sameCells, PV.same, DV.same_self, sameRows_self, sameL_self, callIt, E0P, cn, E0ov, E0p82, E0r82, ev82 _ _ t r s q (by omega)]
   rfl
  case h4 =>
   simp [c49c, codeL, codeR, c49, Tryz.f139, evCode, evOps, evOp, evWant, evCore, evPure, evCall, use, useL, useParts, opv, rd, putS, untake, moveIt, takes, af_nil, af_cons, appTmp, apartL, apartB, posOf, cellsOf, isBelowL, PV.isBelow, boxCells, isDataL, PV.isData, loadAs, loadS, storeS, storeAs, storedCells, oneP, PV.strip, PV.strip1, PV.keep0, evFieldAddr, evField, partP, evSlice, bound, natOf, rowsOk, evIndexAddr, evIndex, evLen, evAppend, ownRows, elemsOf, acc, fillP, bin_add, bin_sub, bin_mul, bin_lss, bin_leq, bin_gtr, bin_geq, bin_eql, bin_neq, bin_and, bin_andNot, un_not, mm_max, mm_min, ofValue, ofCell, slotOf, resVal, resOne, resL, retOf, toDL, toD, sameStore, sameCells, PV.same, DV.same_self, sameRows_self, sameL_self, callIt, E0P, cn, Tryz.aggT47, Tryz.aggT3, Tryz.szT47, Tryz.szT3, Tryz.zeroT47, Tryz.placesOf47, Tryz.aggT190, Tryz.szT190, Tryz.zeroT190, Tryz.underlying47, Tryz.underlying190, E0ov, E0p72, E0r72, ev72, hb]
   rfl
  case h5 => simp [Tryz.f139, evCode, evOps, evOp, evWant, evCore, evPure, evCall, use, useL, useParts, opv, rd, putS, untake, moveIt, takes, af_nil, af_cons, appTmp, apartL, apartB, posOf, cellsOf, isBelowL, PV.isBelow, boxCells, isDataL, PV.isData, loadAs, loadS, storeS, storeAs, storedCells, oneP, PV.strip, PV.strip1, PV.keep0, evFieldAddr, evField, partP, evSlice, bound, natOf, rowsOk, evIndexAddr, evIndex, evLen, evAppend, ownRows, elemsOf, acc, fillP, bin_add, bin_sub, bin_mul, bin_lss, bin_leq, bin_gtr, bin_geq, bin_eql, bin_neq, bin_and, bin_andNot, un_not, mm_max, mm_min, ofValue, ofCell, slotOf, resVal, resOne, resL, retOf, toDL, toD, sameStore, sameCells, PV.same, DV.same_self, sameRows_self, sameL_self, callIt, Tryz.aggT47, Tryz.szT47, cn]
 ·rw [if_neg hb]
  refine step_join he rfl (step_pre t r s q 2 hs) (by simp) rfl (st4 := ?u4) (st5 := ?u5) (st6 := ?u6) ?h2 ?h3 ?h4 ?h5
  case h2 =>
   simp [c49o, regOps, codeL, codeR, c49, Tryz.f139, evIdx, evCode, evOps, evOp, evWant, evCore, evPure, evCall, use, useL, useParts, opv, rd, putS, untake, moveIt, takes, af_nil, af_cons, appTmp, apartL, apartB, posOf, cellsOf, isBelowL, PV.isBelow, boxCells, isDataL, PV.isData, loadAs, loadS, storeS, storeAs, storedCells, oneP, PV.strip, PV.strip1, PV.keep0, evFieldAddr, evField, partP, evSlice, bound, natOf, rowsOk, evIndexAddr, evIndex, evLen, evAppend, ownRows, elemsOf, acc, fillP, bin_add, bin_sub, bin_mul, bin_lss, bin_leq, bin_gtr, bin_geq, bin_eql, bin_neq, bin_and, bin_andNot, un_not, mm_max, mm_min, ofValue, ofCell, slotOf, resVal, resOne, resL, retOf, toDL, toD, sameStore, sameCells, PV.same, DV.same_self, sameRows_self, sameL_self, callIt, E0P, cn]
   rfl
  case h3 =>
   simp [c49b, codeL, codeR, c49, Tryz.f139, evCode, evOps, evOp, evWant, evCore, evPure, evCall, use, useL, useParts, opv, rd, putS, untake, moveIt, takes, af_nil, af_cons, appTmp, apartL, apartB, posOf, cellsOf, isBelowL, PV.isBelow, boxCells, isDataL, PV.isData, loadAs, loadS, storeS, storeAs, storedCells, oneP, PV.strip, PV.strip1, PV.keep0, evFieldAddr, evField, partP, evSlice, bound, natOf, rowsOk, evIndexAddr, evIndex, evLen, evAppend, ownRows, elemsOf, acc, fillP, bin_add, bin_sub, bin_mul, bin_lss, bin_leq, bin_gtr, bin_geq, bin_eql, bin_neq, bin_and, bin_andNot, un_not, mm_max, mm_min, ofValue, ofCell, slotOf, resVal, resOne, resL, retOf, toDL, toD, sameStore, sameCells, PV.same, DV.same_self, sameRows_self, sameL_self, callIt, E0P, cn, E0ov, E0p82, E0r82, ev82 _ _ t r s q (by omega)]
   rfl
  case h4 =>
   simp [c49c, codeL, codeR, c49, Tryz.f139, evCode, evOps, evOp, evWant, evCore, evPure, evCall, use, useL, useParts, opv, rd, putS, untake, moveIt, takes, af_nil, af_cons, appTmp, apartL, apartB, posOf, cellsOf, isBelowL, PV.isBelow, boxCells, isDataL, PV.isData, loadAs, loadS, storeS, storeAs, storedCells, oneP, PV.strip, PV.strip1, PV.keep0, evFieldAddr, evField, partP, evSlice, bound, natOf, rowsOk, evIndexAddr, evIndex, evLen, evAppend, ownRows, elemsOf, acc, fillP, bin_add, bin_sub, bin_mul, bin_lss, bin_leq, bin_gtr, bin_geq, bin_eql, bin_neq, bin_and, bin_andNot, un_not, mm_max, mm_min, ofValue, ofCell, slotOf, resVal, resOne, resL, retOf, toDL, toD, sameStore, sameCells, PV.same, DV.same_self, sameRows_self, sameL_self, callIt, E0P, cn, Tryz.aggT47, Tryz.aggT3, Tryz.szT47, Tryz.szT3, Tryz.zeroT47, Tryz.placesOf47, Tryz.aggT190, Tryz.szT190, Tryz.zeroT190, Tryz.underlying47, Tryz.underlying190, E0ov, E0p72, E0r72, ev72, hb]
   rfl
  case h5 => simp [Tryz.f139, evCode, evOps, evOp, evWant, evCore, evPure, evCall, use, useL, useParts, opv, rd, putS, untake, moveIt, takes, af_nil, af_cons, appTmp, apartL, apartB, posOf, cellsOf, isBelowL, PV.isBelow, boxCells, isDataL, PV.isData, loadAs, loadS, storeS, storeAs, storedCells, oneP, PV.strip, PV.strip1, PV.keep0, evFieldAddr, evField, partP, evSlice, bound, natOf, rowsOk, evIndexAddr, evIndex, evLen, evAppend, ownRows, elemsOf, acc, fillP, bin_add, bin_sub, bin_mul, bin_lss, bin_leq, bin_gtr, bin_geq, bin_eql, bin_neq, bin_and, bin_andNot, un_not, mm_max, mm_min, ofValue, ofCell, slotOf, resVal, resOne, resL, retOf, toDL, toD, sameStore, sameCells, PV.same, DV.same_self, sameRows_self, sameL_self, callIt, Tryz.aggT47, Tryz.szT47, cn]
theorem step_3 (t r s q : Int) (hs : s ≠ 3) (ht : 0 ≤ t ∧ t ≤ 900) (hr : 0 ≤ r ∧ r ≤ 900) : CallOk Tryz.prog 139 [cn t r s q, .d (.int .i64 3)] [] (stepV t r s q 3) [] := by
 have hT : wkT 3 t = t + 8 := by simp [wkT]
 have hR : wkR 3 r = r := by simp [wkR]
 have ev : stepV t r s q 3 = if t + 8 > 255 then cn 256 0 3 0 else cn (t + 8) (r) (if max (t + 8) (r) > 127 then 2 else 1) q := by simp only [stepV, hs, if_false, hT, hR]
 rw [ev]
 have he : Entry 3 (.func (.func 211) [] []) true := .inr (.inr (.inl ⟨rfl, rfl, rfl⟩))
 by_cases hb : t + 8 > 255
 ·rw [if_pos hb]
  refine step_join he rfl (step_pre t r s q 3 hs) (by simp) rfl (st4 := ?s4) (st5 := ?s5) (st6 := ?s6) ?h2 ?h3 ?h4 ?h5
  case h2 =>
   simp [c49o, regOps, codeL, codeR, c49, Tryz.f139, evIdx, evCode, evOps, evOp, evWant, evCore, evPure, evCall, use, useL, useParts, opv, rd, putS, untake, moveIt, takes, af_nil, af_cons, appTmp, apartL, apartB, posOf, cellsOf, isBelowL, PV.isBelow, boxCells, isDataL, PV.isData, loadAs, loadS, storeS, storeAs, storedCells, oneP, PV.strip, PV.strip1, PV.keep0, evFieldAddr, evField, partP, evSlice, bound, natOf, rowsOk, evIndexAddr, evIndex, evLen, evAppend, ownRows, elemsOf, acc, fillP, bin_add, bin_sub, bin_mul, bin_lss, bin_leq, bin_gtr, bin_geq, bin_eql, bin_neq, bin_and, bin_andNot, un_not, mm_max, mm_min, ofValue, ofCell, slotOf, resVal, resOne, resL, retOf, toDL, toD, sameStore, sameCells, PV.same, DV.same_self, sameRows_self, sameL_self, callIt, E0P, cn]
   rfl
  case h3 =>
   simp [c49b, codeL, codeR, c49, Tryz.f139, evCode, evOps, evOp, evWant, evCore, evPure, evCall, use, useL, useParts, opv, rd, putS, untake, moveIt, takes, af_nil, af_cons, appTmp, apartL, apartB, posOf, cellsOf, isBelowL, PV.isBelow, boxCells, isDataL, PV.isData, loadAs, loadS, storeS, storeAs, storedCells, oneP, PV.strip, PV.strip1, PV.keep0, evFieldAddr, evField, partP, evSlice, bound, natOf, rowsOk, evIndexAddr, evIndex, evLen, evAppend, ownRows, elemsOf, acc, fillP, bin_add, bin_sub, bin_mul, bin_lss, bin_leq, bin_gtr, bin_geq, bin_eql, bin_neq, bin_and, bin_andNot, un_not, mm_max, mm_min, ofValue, ofCell, slotOf, resVal, resOne, resL, retOf, toDL, toD, sameStore, sameCells, PV.same, DV.same_self, sameRows_self, sameL_self, callIt, E0P, cn, E0ov, E0p83, E0r83, ev83 _ _ t r s q (by omega)]
   rfl
  case h4 =>
   simp [c49c, codeL, codeR, c49, Tryz.f139, evCode, evOps, evOp, evWant, evCore, evPure, evCall, use, useL, useParts, opv, rd, putS, untake, moveIt, takes, af_nil, af_cons, appTmp, apartL, apartB, posOf, cellsOf, isBelowL, PV.isBelow, boxCells, isDataL, PV.isData, loadAs, loadS, storeS, storeAs, storedCells, oneP, PV.strip, PV.strip1, PV.keep0, evFieldAddr, evField, partP, evSlice, bound, natOf, rowsOk, evIndexAddr, evIndex, evLen, evAppend, ownRows, elemsOf, acc, fillP, bin_add, bin_sub, bin_mul, bin_lss, bin_leq, bin_gtr, bin_geq, bin_eql, bin_neq, bin_and, bin_andNot, un_not, mm_max, mm_min, ofValue, ofCell, slotOf, resVal, resOne, resL, retOf, toDL, toD, sameStore, sameCells, PV.same, DV.same_self, sameRows_self, sameL_self, callIt, E0P, cn, Tryz.aggT47, Tryz.aggT3, Tryz.szT47, Tryz.szT3, Tryz.zeroT47, Tryz.placesOf47, Tryz.aggT190, Tryz.szT190, Tryz.zeroT190, Tryz.underlying47, Tryz.underlying190, E0ov, E0p72, E0r72, ev72, hb]
   rfl
  case h5 => simp [Tryz.f139, evCode, evOps, evOp, evWant, evCore, evPure, evCall, use, useL, useParts, opv, rd, putS, untake, moveIt, takes, af_nil, af_cons, appTmp, apartL, apartB, posOf, cellsOf, isBelowL, PV.isBelow, boxCells, isDataL, PV.isData, loadAs, loadS, storeS, storeAs, storedCells, oneP, PV.strip, PV.strip1, PV.keep0, evFieldAddr, evField, partP, evSlice, bound, natOf, rowsOk, evIndexAddr, evIndex, evLen, evAppend, ownRows, elemsOf, acc, fillP, bin_add, bin_sub, bin_mul, bin_lss, bin_leq, bin_gtr, bin_geq, bin_eql, bin_neq, bin_and, bin_andNot, un_not, mm_max, mm_min, ofValue, ofCell, slotOf, resVal, resOne, resL, retOf, toDL, toD, sameStore, sameCells, PV.same, DV.same_self, sameRows_self, sameL_self, callIt, Tryz.aggT47, Tryz.szT47, cn]
 ·rw [if_neg hb]
  refine step_join he rfl (step_pre t r s q 3 hs) (by simp) rfl (st4 := ?u4) (st5 := ?u5) (st6 := ?u6) ?h2 ?h3 ?h4 ?h5
  case h2 =>
   simp [c49o, regOps, codeL, codeR, c49, Tryz.f139, evIdx, evCode, evOps, evOp, evWant, evCore, evPure, evCall, use, useL, useParts, opv, rd, putS, untake, moveIt, takes, af_nil, af_cons, appTmp, apartL, apartB, posOf, cellsOf, isBelowL, PV.isBelow, boxCells, isDataL, PV.isData, loadAs, loadS, storeS, storeAs, storedCells, oneP, PV.strip, PV.strip1, PV.keep0, evFieldAddr, evField, partP, evSlice, bound, natOf, rowsOk, evIndexAddr, evIndex, evLen, evAppend, ownRows, elemsOf, acc, fillP, bin_add, bin_sub, bin_mul, bin_lss, bin_leq, bin_gtr, bin_geq, bin_eql, bin_neq, bin_and, bin_andNot, un_not, mm_max, mm_min, ofValue, ofCell, slotOf, resVal, resOne, resL, retOf, toDL, toD, sameStore, sameCells, PV.same, DV.same_self, sameRows_self, sameL_self, callIt, E0P, cn]
   rfl
  case h3 =>
   simp [c49b, codeL, codeR, c49, Tryz.f139, evCode, evOps, evOp, evWant, evCore, evPure, evCall, use, useL, useParts, opv, rd, putS, untake, moveIt, takes, af_nil, af_cons, appTmp, apartL, apartB, posOf, cellsOf, isBelowL, PV.isBelow, boxCells, isDataL, PV.isData, loadAs, loadS, storeS, storeAs, storedCells, oneP, PV.strip, PV.strip1, PV.keep0, evFieldAddr, evField, partP, evSlice, bound, natOf, rowsOk, evIndexAddr, evIndex, evLen, evAppend, ownRows, elemsOf, acc, fillP, bin_add, bin_sub, bin_mul, bin_lss, bin_leq, bin_gtr, bin_geq, bin_eql, bin_neq, bin_and, bin_andNot, un_not, mm_max, mm_min, ofValue, ofCell, slotOf, resVal, resOne, resL, retOf, toDL, toD, sameStore, sameCells, PV.same, DV.same_self, sameRows_self, sameL_self, callIt, E0P, cn, E0ov, E0p83, E0r83, ev83 _ _ t r s q (by omega)]
   rfl
  case h4 =>
   simp [c49c, codeL, codeR, c49, Tryz.f139, evCode, evOps, evOp, evWant, evCore, evPure, evCall, use, useL, useParts, opv, rd, putS, untake, moveIt, takes, af_nil, af_cons, appTmp, apartL, apartB, posOf, cellsOf, isBelowL, PV.isBelow, boxCells, isDataL, PV.isData, loadAs, loadS, storeS, storeAs, storedCells, oneP, PV.strip, PV.strip1, PV.keep0, evFieldAddr, evField, partP, evSlice, bound, natOf, rowsOk, evIndexAddr, evIndex, evLen, evAppend, ownRows, elemsOf, acc, fillP, bin_add, bin_sub, bin_mul, bin_lss, bin_leq, bin_gtr, bin_geq, bin_eql, bin_neq, bin_and, bin_andNot, un_not, mm_max, mm_min, ofValue, ofCell, slotOf, resVal, resOne, resL, retOf, toDL, toD, sameStore, sameCells, PV.same, DV.same_self, sameRows_self, sameL_self, callIt, E0P, cn, Tryz.aggT47, Tryz.aggT3, Tryz.szT47, Tryz.szT3, Tryz.zeroT47, Tryz.placesOf47, Tryz.aggT190, Tryz.szT190, Tryz.zeroT190, Tryz.underlying47, Tryz.underlying190, E0ov, E0p72, E0r72, ev72, hb]
   rfl
  case h5 => simp [Tryz.f139, evCode, evOps, evOp, evWant, evCore, evPure, evCall, use, useL, useParts, opv, rd, putS, untake, moveIt, takes, af_nil, af_cons, appTmp, apartL, apartB, posOf, cellsOf, isBelowL, PV.isBelow, boxCells, isDataL, PV.isData, loadAs, loadS, storeS, storeAs, storedCells, oneP, PV.strip, PV.strip1, PV.keep0, evFieldAddr, evField, partP, evSlice, bound, natOf, rowsOk, evIndexAddr, evIndex, evLen, evAppend, ownRows, elemsOf, acc, fillP, bin_add, bin_sub, bin_mul, bin_lss, bin_leq, bin_gtr, bin_geq, bin_eql, bin_neq, bin_and, bin_andNot, un_not, mm_max, mm_min, ofValue, ofCell, slotOf, resVal, resOne, resL, retOf, toDL, toD, sameStore, sameCells, PV.same, DV.same_self, sameRows_self, sameL_self, callIt, Tryz.aggT47, Tryz.szT47, cn]
theorem step_4 (t r s q : Int) (hs : s ≠ 3) (ht : 0 ≤ t ∧ t ≤ 900) (hr : 0 ≤ r ∧ r ≤ 900) : CallOk Tryz.prog 139 [cn t r s q, .d (.int .i64 4)] [] (stepV t r s q 4) [] := by
 have hT : wkT 4 t = t := by simp [wkT]
 have hR : wkR 4 r = min (r + 1) 255 := by simp [wkR]
 have ev : stepV t r s q 4 = if t > 255 then cn 256 0 3 0 else cn (t) (min (r + 1) 255) (if max (t) (min (r + 1) 255) > 127 then 2 else 1) q := by simp only [stepV, hs, if_false, hT, hR]
 rw [ev]
 have he : Entry 4 (.func (.func 220) [] [.ro [.int .i64 1]]) true := .inr (.inr (.inr (.inl ⟨rfl, rfl, rfl⟩)))
 by_cases hb : t > 255
 ·rw [if_pos hb]
  refine step_join he rfl (step_pre t r s q 4 hs) (by simp) rfl (st4 := ?s4) (st5 := ?s5) (st6 := ?s6) ?h2 ?h3 ?h4 ?h5
  case h2 =>
   simp [c49o, regOps, codeL, codeR, c49, Tryz.f139, evIdx, evCode, evOps, evOp, evWant, evCore, evPure, evCall, use, useL, useParts, opv, rd, putS, untake, moveIt, takes, af_nil, af_cons, appTmp, apartL, apartB, posOf, cellsOf, isBelowL, PV.isBelow, boxCells, isDataL, PV.isData, loadAs, loadS, storeS, storeAs, storedCells, oneP, PV.strip, PV.strip1, PV.keep0, evFieldAddr, evField, partP, evSlice, bound, natOf, rowsOk, evIndexAddr, evIndex, evLen, evAppend, ownRows, elemsOf, acc, fillP, bin_add, bin_sub, bin_mul, bin_lss, bin_leq, bin_gtr, bin_geq, bin_eql, bin_neq, bin_and, bin_andNot, un_not, mm_max, mm_min, ofValue, ofCell, slotOf, resVal, resOne, resL, retOf, toDL, toD, sameStore, sameCells, PV.same, DV.same_self, sameRows_self, sameL_self, callIt, E0P, cn]
   rfl
  case h3 =>
   simp [c49b, codeL, codeR, c49, Tryz.f139, evCode, evOps, evOp, evWant, evCore, evPure, evCall, use, useL, useParts, opv, rd, putS, untake, moveIt, takes, af_nil, af_cons, appTmp, apartL, apartB, posOf, cellsOf, isBelowL, PV.isBelow, boxCells, isDataL, PV.isData, loadAs, loadS, storeS, storeAs, storedCells, oneP, PV.strip, PV.strip1, PV.keep0, evFieldAddr, evField, partP, evSlice, bound, natOf, rowsOk, evIndexAddr, evIndex, evLen, evAppend, ownRows, elemsOf, acc, fillP, bin_add, bin_sub, bin_mul, bin_lss, bin_leq, bin_gtr, bin_geq, bin_eql, bin_neq, bin_and, bin_andNot, un_not, mm_max, mm_min, ofValue, ofCell, slotOf, resVal, resOne, resL, retOf, toDL, toD, sameStore, sameCells, PV.same, DV.same_self, sameRows_self, sameL_self, callIt, E0P, cn, E0ov, E0p89, E0r89, ev89 _ _ t r s q 1 (by omega) (by omega)]
   rfl
  case h4 =>
   simp [c49c, codeL, codeR, c49, Tryz.f139, evCode, evOps, evOp, evWant, evCore, evPure, evCall, use, useL, useParts, opv, rd, putS, untake, moveIt, takes, af_nil, af_cons, appTmp, apartL, apartB, posOf, cellsOf, isBelowL, PV.isBelow, boxCells, isDataL, PV.isData, loadAs, loadS, storeS, storeAs, storedCells, oneP, PV.strip, PV.strip1, PV.keep0, evFieldAddr, evField, partP, evSlice, bound, natOf, rowsOk, evIndexAddr, evIndex, evLen, evAppend, ownRows, elemsOf, acc, fillP, bin_add, bin_sub, bin_mul, bin_lss, bin_leq, bin_gtr, bin_geq, bin_eql, bin_neq, bin_and, bin_andNot, un_not, mm_max, mm_min, ofValue, ofCell, slotOf, resVal, resOne, resL, retOf, toDL, toD, sameStore, sameCells, PV.same, DV.same_self, sameRows_self, sameL_self, callIt, E0P, cn, Tryz.aggT47, Tryz.aggT3, Tryz.szT47, Tryz.szT3, Tryz.zeroT47, Tryz.placesOf47, Tryz.aggT190, Tryz.szT190, Tryz.zeroT190, Tryz.underlying47, Tryz.underlying190, E0ov, E0p72, E0r72, ev72, hb]
   rfl
  case h5 => simp [Tryz.f139, evCode, evOps, evOp, evWant, evCore, evPure, evCall, use, useL, useParts, opv, rd, putS, untake, moveIt, takes, af_nil, af_cons, appTmp, apartL, apartB, posOf, cellsOf, isBelowL, PV.isBelow, boxCells, isDataL, PV.isData, loadAs, loadS, storeS, storeAs, storedCells, oneP, PV.strip, PV.strip1, PV.keep0, evFieldAddr, evField, partP, evSlice, bound, natOf, rowsOk, evIndexAddr, evIndex, evLen, evAppend, ownRows, elemsOf, acc, fillP, bin_add, bin_sub, bin_mul, bin_lss, bin_leq, bin_gtr, bin_geq, bin_eql, bin_neq, bin_and, bin_andNot, un_not, mm_max, mm_min, ofValue, ofCell, slotOf, resVal, resOne, resL, retOf, toDL, toD, sameStore, sameCells, PV.same, DV.same_self, sameRows_self, sameL_self, callIt, Tryz.aggT47, Tryz.szT47, cn]
 ·rw [if_neg hb]
  refine step_join he rfl (step_pre t r s q 4 hs) (by simp) rfl (st4 := ?u4) (st5 := ?u5) (st6 := ?u6) ?h2 ?h3 ?h4 ?h5
  case h2 =>
   simp [c49o, regOps, codeL, codeR, c49, Tryz.f139, evIdx, evCode, evOps, evOp, evWant, evCore, evPure, evCall, use, useL, useParts, opv, rd, putS, untake, moveIt, takes, af_nil, af_cons, appTmp, apartL, apartB, posOf, cellsOf, isBelowL, PV.isBelow, boxCells, isDataL, PV.isData, loadAs, loadS, storeS, storeAs, storedCells, oneP, PV.strip, PV.strip1, PV.keep0, evFieldAddr, evField, partP, evSlice, bound, natOf, rowsOk, evIndexAddr, evIndex, evLen, evAppend, ownRows, elemsOf, acc, fillP, bin_add, bin_sub, bin_mul, bin_lss, bin_leq, bin_gtr, bin_geq, bin_eql, bin_neq, bin_and, bin_andNot, un_not, mm_max, mm_min, ofValue, ofCell, slotOf, resVal, resOne, resL, retOf, toDL, toD, sameStore, sameCells, PV.same, DV.same_self, sameRows_self, sameL_self, callIt, E0P, cn]
   rfl
  case h3 =>
   simp [c49b, codeL, codeR, c49, Tryz.f139, evCode, evOps, evOp, evWant, evCore, evPure, evCall, use, useL, useParts, opv, rd, putS, untake, moveIt, takes, af_nil, af_cons, appTmp, apartL, apartB, posOf, cellsOf, isBelowL, PV.isBelow, boxCells, isDataL, PV.isData, loadAs, loadS, storeS, storeAs, storedCells, oneP, PV.strip, PV.strip1, PV.keep0, evFieldAddr, evField, partP, evSlice, bound, natOf, rowsOk, evIndexAddr, evIndex, evLen, evAppend, ownRows, elemsOf, acc, fillP, bin_add, bin_sub, bin_mul, bin_lss, bin_leq, bin_gtr, bin_geq, bin_eql, bin_neq, bin_and, bin_andNot, un_not, mm_max, mm_min, ofValue, ofCell, slotOf, resVal, resOne, resL, retOf, toDL, toD, sameStore, sameCells, PV.same, DV.same_self, sameRows_self, sameL_self, callIt, E0P, cn, E0ov, E0p89, E0r89, ev89 _ _ t r s q 1 (by omega) (by omega)]
   rfl
  case h4 =>
   simp [c49c, codeL, codeR, c49, Tryz.f139, evCode, evOps, evOp, evWant, evCore, evPure, evCall, use, useL, useParts, opv, rd, putS, untake, moveIt, takes, af_nil, af_cons, appTmp, apartL, apartB, posOf, cellsOf, isBelowL, PV.isBelow, boxCells, isDataL, PV.isData, loadAs, loadS, storeS, storeAs, storedCells, oneP, PV.strip, PV.strip1, PV.keep0, evFieldAddr, evField, partP, evSlice, bound, natOf, rowsOk, evIndexAddr, evIndex, evLen, evAppend, ownRows, elemsOf, acc, fillP, bin_add, bin_sub, bin_mul, bin_lss, bin_leq, bin_gtr, bin_geq, bin_eql, bin_neq, bin_and, bin_andNot, un_not, mm_max, mm_min, ofValue, ofCell, slotOf, resVal, resOne, resL, retOf, toDL, toD, sameStore, sameCells, PV.same, DV.same_self, sameRows_self, sameL_self, callIt, E0P, cn, Tryz.aggT47, Tryz.aggT3, Tryz.szT47, Tryz.szT3, Tryz.zeroT47, Tryz.placesOf47, Tryz.aggT190, Tryz.szT190, Tryz.zeroT190, Tryz.underlying47, Tryz.underlying190, E0ov, E0p72, E0r72, ev72, hb]
   rfl
  case h5 => simp [Tryz.f139, evCode, evOps, evOp, evWant, evCore, evPure, evCall, use, useL, useParts, opv, rd, putS, untake, moveIt, takes, af_nil, af_cons, appTmp, apartL, apartB, posOf, cellsOf, isBelowL, PV.isBelow, boxCells, isDataL, PV.isData, loadAs, loadS, storeS, storeAs, storedCells, oneP, PV.strip, PV.strip1, PV.keep0, evFieldAddr, evField, partP, evSlice, bound, natOf, rowsOk, evIndexAddr, evIndex, evLen, evAppend, ownRows, elemsOf, acc, fillP, bin_add, bin_sub, bin_mul, bin_lss, bin_leq, bin_gtr, bin_geq, bin_eql, bin_neq, bin_and, bin_andNot, un_not, mm_max, mm_min, ofValue, ofCell, slotOf, resVal, resOne, resL, retOf, toDL, toD, sameStore, sameCells, PV.same, DV.same_self, sameRows_self, sameL_self, callIt, Tryz.aggT47, Tryz.szT47, cn]
theorem step_5 (t r s q : Int) (hs : s ≠ 3) (ht : 0 ≤ t ∧ t ≤ 900) (hr : 0 ≤ r ∧ r ≤ 900) : CallOk Tryz.prog 139 [cn t r s q, .d (.int .i64 5)] [] (stepV t r s q 5) [] := by
 have hT : wkT 5 t = t := by simp [wkT]
 have hR : wkR 5 r = min (r + 8) 255 := by simp [wkR]
 have ev : stepV t r s q 5 = if t > 255 then cn 256 0 3 0 else cn (t) (min (r + 8) 255) (if max (t) (min (r + 8) 255) > 127 then 2 else 1) q := by simp only [stepV, hs, if_false, hT, hR]
 rw [ev]
 have he : Entry 5 (.func (.func 220) [] [.ro [.int .i64 8]]) true := .inr (.inr (.inr (.inr (.inl ⟨rfl, rfl, rfl⟩))))
 by_cases hb : t > 255
 ·rw [if_pos hb]
  refine step_join he rfl (step_pre t r s q 5 hs) (by simp) rfl (st4 := ?s4) (st5 := ?s5) (st6 := ?s6) ?h2 ?h3 ?h4 ?h5
  case h2 =>
   simp [c49o, regOps, codeL, codeR, c49, Tryz.f139, evIdx, evCode, evOps, evOp, evWant, evCore, evPure, evCall, use, useL, useParts, opv, rd, putS, untake, moveIt, takes, af_nil, af_cons, appTmp, apartL, apartB, posOf, cellsOf, isBelowL, PV.isBelow, boxCells, isDataL, PV.isData, loadAs, loadS, storeS, storeAs, storedCells, oneP, PV.strip, PV.strip1, PV.keep0, evFieldAddr, evField, partP, evSlice, bound, natOf, rowsOk, evIndexAddr, evIndex, evLen, evAppend, ownRows, elemsOf, acc, fillP, bin_add, bin_sub, bin_mul, bin_lss, bin_leq, bin_gtr, bin_geq, bin_eql, bin_neq, bin_and, bin_andNot, un_not, mm_max, mm_min, ofValue, ofCell, slotOf, resVal, resOne, resL, retOf, toDL, toD, sameStore, sameCells, PV.same, DV.same_self, sameRows_self, sameL_self, callIt, E0P, cn]
   rfl
  case h3 =>
   simp [c49b, codeL, codeR, c49, Tryz.f139, evCode, evOps, evOp, evWant, evCore, evPure, evCall, use, useL, useParts, opv, rd, putS, untake, moveIt, takes, af_nil, af_cons, appTmp, apartL, apartB, posOf, cellsOf, isBelowL, PV.isBelow, boxCells, isDataL, PV.isData, loadAs, loadS, storeS, storeAs, storedCells, oneP, PV.strip, PV.strip1, PV.keep0, evFieldAddr, evField, partP, evSlice, bound, natOf, rowsOk, evIndexAddr, evIndex, evLen, evAppend, ownRows, elemsOf, acc, fillP, bin_add, bin_sub, bin_mul, bin_lss, bin_leq, bin_gtr, bin_geq, bin_eql, bin_neq, bin_and, bin_andNot, un_not, mm_max, mm_min, ofValue, ofCell, slotOf, resVal, resOne, resL, retOf, toDL, toD, sameStore, sameCells, PV.same, DV.same_self, sameRows_self, sameL_self, callIt, E0P, cn, E0ov, E0p89, E0r89, ev89 _ _ t r s q 8 (by omega) (by omega)]
   rfl
  case h4 =>
   simp [c49c, codeL, codeR, c49, Tryz.f139, evCode, evOps, evOp, evWant, evCore, evPure, evCall, use, useL, useParts, opv, rd, putS, untake, moveIt, takes, af_nil, af_cons, appTmp, apartL, apartB, posOf, cellsOf, isBelowL, PV.isBelow, boxCells, isDataL, PV.isData, loadAs, loadS, storeS, storeAs, storedCells, oneP, PV.strip, PV.strip1, PV.keep0, evFieldAddr, evField, partP, evSlice, bound, natOf, rowsOk, evIndexAddr, evIndex, evLen, evAppend, ownRows, elemsOf, acc, fillP, bin_add, bin_sub, bin_mul, bin_lss, bin_leq, bin_gtr, bin_geq, bin_eql, bin_neq, bin_and, bin_andNot, un_not, mm_max, mm_min, ofValue, ofCell, slotOf, resVal, resOne, resL, retOf, toDL, toD, sameStore, sameCells, PV.same, DV.same_self, sameRows_self, sameL_self, callIt, E0P, cn, Tryz.aggT47, Tryz.aggT3, Tryz.szT47, Tryz.szT3, Tryz.zeroT47, Tryz.placesOf47, Tryz.aggT190, Tryz.szT190, Tryz.zeroT190, Tryz.underlying47, Tryz.underlying190, E0ov, E0p72, E0r72, ev72, hb]
   rfl
  case h5 => simp [Tryz.f139, evCode, evOps, evOp, evWant, evCore, evPure, evCall, use, useL, useParts, opv, rd, putS, untake, moveIt, takes, af_nil, af_cons, appTmp, apartL, apartB, posOf, cellsOf, isBelowL, PV.isBelow, boxCells, isDataL, PV.isData, loadAs, loadS, storeS, storeAs, storedCells, oneP, PV.strip, PV.strip1, PV.keep0, evFieldAddr, evField, partP, evSlice, bound, natOf, rowsOk, evIndexAddr, evIndex, evLen, evAppend, ownRows, elemsOf, acc, fillP, bin_add, bin_sub, bin_mul, bin_lss, bin_leq, bin_gtr, bin_geq, bin_eql, bin_neq, bin_and, bin_andNot, un_not, mm_max, mm_min, ofValue, ofCell, slotOf, resVal, resOne, resL, retOf, toDL, toD, sameStore, sameCells, PV.same, DV.same_self, sameRows_self, sameL_self, callIt, Tryz.aggT47, Tryz.szT47, cn]
 ·rw [if_neg hb]
  refine step_join he rfl (step_pre t r s q 5 hs) (by simp) rfl (st4 := ?u4) (st5 := ?u5) (st6 := ?u6) ?h2 ?h3 ?h4 ?h5
  case h2 =>
   simp [c49o, regOps, codeL, codeR, c49, Tryz.f139, evIdx, evCode, evOps, evOp, evWant, evCore, evPure, evCall, use, useL, useParts, opv, rd, putS, untake, moveIt, takes, af_nil, af_cons, appTmp, apartL, apartB, posOf, cellsOf, isBelowL, PV.isBelow, boxCells, isDataL, PV.isData, loadAs, loadS, storeS, storeAs, storedCells, oneP, PV.strip, PV.strip1, PV.keep0, evFieldAddr, evField, partP, evSlice, bound, natOf, rowsOk, evIndexAddr, evIndex, evLen, evAppend, ownRows, elemsOf, acc, fillP, bin_add, bin_sub, bin_mul, bin_lss, bin_leq, bin_gtr, bin_geq, bin_eql, bin_neq, bin_and, bin_andNot, un_not, mm_max, mm_min, ofValue, ofCell, slotOf, resVal, resOne, resL, retOf, toDL, toD, sameStore, sameCells, PV.same, DV.same_self, sameRows_self, sameL_self, callIt, E0P, cn]
   rfl
  case h3 =>
   simp [c49b, codeL, codeR, c49, Tryz.f139, evCode, evOps, evOp, evWant, evCore, evPure, evCall, use, useL, useParts, opv, rd, putS, untake, moveIt, takes, af_nil, af_cons, appTmp, apartL, apartB, posOf, cellsOf, isBelowL, PV.isBelow, boxCells, isDataL, PV.isData, loadAs, loadS, storeS, storeAs, storedCells, oneP, PV.strip, PV.strip1, PV.keep0, evFieldAddr, evField, partP, evSlice, bound, natOf, rowsOk, evIndexAddr, evIndex, evLen, evAppend, ownRows, elemsOf, acc, fillP, bin_add, bin_sub, bin_mul, bin_lss, bin_leq, bin_gtr, bin_geq, bin_eql, bin_neq, bin_and, bin_andNot, un_not, mm_max, mm_min, ofValue, ofCell, slotOf, resVal, resOne, resL, retOf, toDL, toD, sameStore, sameCells, PV.same, DV.same_self, sameRows_self, sameL_self, callIt, E0P, cn, E0ov, E0p89, E0r89, ev89 _ _ t r s q 8 (by omega) (by omega)]
   rfl
  case h4 =>
   simp [c49c, codeL, codeR, c49, Tryz.f139, evCode, evOps, evOp, evWant, evCore, evPure, evCall, use, useL, useParts, opv, rd, putS, untake, moveIt, takes, af_nil, af_cons, appTmp, apartL, apartB, posOf, cellsOf, isBelowL, PV.isBelow, boxCells, isDataL, PV.isData, loadAs, loadS, storeS, storeAs, storedCells, oneP, PV.strip, PV.strip1, PV.keep0, evFieldAddr, evField, partP, evSlice, bound, natOf, rowsOk, evIndexAddr, evIndex, evLen, evAppend, ownRows, elemsOf, acc, fillP, bin_add, bin_sub, bin_mul, bin_lss, bin_leq, bin_gtr, bin_geq, bin_eql, bin_neq, bin_and, bin_andNot, un_not, mm_max, mm_min, ofValue, ofCell, slotOf, resVal, resOne, resL, retOf, toDL, toD, sameStore, sameCells, PV.same, DV.same_self, sameRows_self, sameL_self, callIt, E0P, cn, Tryz.aggT47, Tryz.aggT3, Tryz.szT47, Tryz.szT3, Tryz.zeroT47, Tryz.placesOf47, Tryz.aggT190, Tryz.szT190, Tryz.zeroT190, Tryz.underlying47, Tryz.underlying190, E0ov, E0p72, E0r72, ev72, hb]
   rfl
  case h5 => simp [Tryz.f139, evCode, evOps, evOp, evWant, evCore, evPure, evCall, use, useL, useParts, opv, rd, putS, untake, moveIt, takes, af_nil, af_cons, appTmp, apartL, apartB, posOf, cellsOf, isBelowL, PV.isBelow, boxCells, isDataL, PV.isData, loadAs, loadS, storeS, storeAs, storedCells, oneP, PV.strip, PV.strip1, PV.keep0, evFieldAddr, evField, partP, evSlice, bound, natOf, rowsOk, evIndexAddr, evIndex, evLen, evAppend, ownRows, elemsOf, acc, fillP, bin_add, bin_sub, bin_mul, bin_lss, bin_leq, bin_gtr, bin_geq, bin_eql, bin_neq, bin_and, bin_andNot, un_not, mm_max, mm_min, ofValue, ofCell, slotOf, resVal, resOne, resL, retOf, toDL, toD, sameStore, sameCells, PV.same, DV.same_self, sameRows_self, sameL_self, callIt, Tryz.aggT47, Tryz.szT47, cn]
theorem step_6 (t r s q : Int) (hs : s ≠ 3) (ht : 0 ≤ t ∧ t ≤ 900) (hr : 0 ≤ r ∧ r ≤ 900) : CallOk Tryz.prog 139 [cn t r s q, .d (.int .i64 6)] [] (stepV t r s q 6) [] := by
 have hT : wkT 6 t = t := by simp [wkT]
 have hR : wkR 6 r = r := by simp [wkR]
 have ev : stepV t r s q 6 = if t > 255 then cn 256 0 3 0 else cn (t) (r) (if max (t) (r) > 127 then 2 else 1) q := by simp only [stepV, hs, if_false, hT, hR]
 rw [ev]
 have he : Entry 6 (.nilFunc) false := .inr (.inr (.inr (.inr (.inr ⟨rfl, rfl, rfl⟩))))
 by_cases hb : t > 255
 ·rw [if_pos hb]
  refine step_join he rfl (step_pre t r s q 6 hs) (by simp) rfl (st4 := ?s4) (st5 := ?s5) (st6 := ?s6) ?h2 ?h3 ?h4 ?h5
  case h2 =>
   simp [c49o, regOps, codeL, codeR, c49, Tryz.f139, evIdx, evCode, evOps, evOp, evWant, evCore, evPure, evCall, use, useL, useParts, opv, rd, putS, untake, moveIt, takes, af_nil, af_cons, appTmp, apartL, apartB, posOf, cellsOf, isBelowL, PV.isBelow, boxCells, isDataL, PV.isData, loadAs, loadS, storeS, storeAs, storedCells, oneP, PV.strip, PV.strip1, PV.keep0, evFieldAddr, evField, partP, evSlice, bound, natOf, rowsOk, evIndexAddr, evIndex, evLen, evAppend, ownRows, elemsOf, acc, fillP, bin_add, bin_sub, bin_mul, bin_lss, bin_leq, bin_gtr, bin_geq, bin_eql, bin_neq, bin_and, bin_andNot, un_not, mm_max, mm_min, ofValue, ofCell, slotOf, resVal, resOne, resL, retOf, toDL, toD, sameStore, sameCells, PV.same, DV.same_self, sameRows_self, sameL_self, callIt, E0P, cn]
   rfl
  case h3 =>
   simp [c49b, codeL, codeR, c49, Tryz.f139, evCode, evOps, evOp, evWant, evCore, evPure, evCall, use, useL, useParts, opv, rd, putS, untake, moveIt, takes, af_nil, af_cons, appTmp, apartL, apartB, posOf, cellsOf, isBelowL, PV.isBelow, boxCells, isDataL, PV.isData, loadAs, loadS, storeS, storeAs, storedCells, oneP, PV.strip, PV.strip1, PV.keep0, evFieldAddr, evField, partP, evSlice, bound, natOf, rowsOk, evIndexAddr, evIndex, evLen, evAppend, ownRows, elemsOf, acc, fillP, bin_add, bin_sub, bin_mul, bin_lss, bin_leq, bin_gtr, bin_geq, bin_eql, bin_neq, bin_and, bin_andNot, un_not, mm_max, mm_min, ofValue, ofCell, slotOf, resVal, resOne, resL, retOf, toDL, toD, sameStore, sameCells, PV.same, DV.same_self, sameRows_self, sameL_self, callIt, E0P, cn, E0ov]
   rfl
  case h4 =>
   simp [c49c, codeL, codeR, c49, Tryz.f139, evCode, evOps, evOp, evWant, evCore, evPure, evCall, use, useL, useParts, opv, rd, putS, untake, moveIt, takes, af_nil, af_cons, appTmp, apartL, apartB, posOf, cellsOf, isBelowL, PV.isBelow, boxCells, isDataL, PV.isData, loadAs, loadS, storeS, storeAs, storedCells, oneP, PV.strip, PV.strip1, PV.keep0, evFieldAddr, evField, partP, evSlice, bound, natOf, rowsOk, evIndexAddr, evIndex, evLen, evAppend, ownRows, elemsOf, acc, fillP, bin_add, bin_sub, bin_mul, bin_lss, bin_leq, bin_gtr, bin_geq, bin_eql, bin_neq, bin_and, bin_andNot, un_not, mm_max, mm_min, ofValue, ofCell, slotOf, resVal, resOne, resL, retOf, toDL, toD, sameStore, sameCells, PV.same, DV.same_self, sameRows_self, sameL_self, callIt, E0P, cn, Tryz.aggT47, Tryz.aggT3, Tryz.szT47, Tryz.szT3, Tryz.zeroT47, Tryz.placesOf47, Tryz.aggT190, Tryz.szT190, Tryz.zeroT190, Tryz.underlying47, Tryz.underlying190, E0ov, E0p72, E0r72, ev72, hb]
   rfl
  case h5 => simp [Tryz.f139, evCode, evOps, evOp, evWant, evCore, evPure, evCall, use, useL, useParts, opv, rd, putS, untake, moveIt, takes, af_nil, af_cons, appTmp, apartL, apartB, posOf, cellsOf, isBelowL, PV.isBelow, boxCells, isDataL, PV.isData, loadAs, loadS, storeS, storeAs, storedCells, oneP, PV.strip, PV.strip1, PV.keep0, evFieldAddr, evField, partP, evSlice, bound, natOf, rowsOk, evIndexAddr, evIndex, evLen, evAppend, ownRows, elemsOf, acc, fillP, bin_add, bin_sub, bin_mul, bin_lss, bin_leq, bin_gtr, bin_geq, bin_eql, bin_neq, bin_and, bin_andNot, un_not, mm_max, mm_min, ofValue, ofCell, slotOf, resVal, resOne, resL, retOf, toDL, toD, sameStore, sameCells, PV.same, DV.same_self, sameRows_self, sameL_self, callIt, Tryz.aggT47, Tryz.szT47, cn]
 ·rw [if_neg hb]
  refine step_join he rfl (step_pre t r s q 6 hs) (by simp) rfl (st4 := ?u4) (st5 := ?u5) (st6 := ?u6) ?h2 ?h3 ?h4 ?h5
  case h2 =>
   simp [c49o, regOps, codeL, codeR, c49, Tryz.f139, evIdx, evCode, evOps, evOp, evWant, evCore, evPure, evCall, use, useL, useParts, opv, rd, putS, untake, moveIt, takes, af_nil, af_cons, appTmp, apartL, apartB, posOf, cellsOf, isBelowL, PV.isBelow, boxCells, isDataL, PV.isData, loadAs, loadS, storeS, storeAs, storedCells, oneP, PV.strip, PV.strip1, PV.keep0, evFieldAddr, evField, partP, evSlice, bound, natOf, rowsOk, evIndexAddr, evIndex, evLen, evAppend, ownRows, elemsOf, acc, fillP, bin_add, bin_sub, bin_mul, bin_lss, bin_leq, bin_gtr, bin_geq, bin_eql, bin_neq, bin_and, bin_andNot, un_not, mm_max, mm_min, ofValue, ofCell, slotOf, resVal, resOne, resL, retOf, toDL, toD, sameStore, sameCells, PV.same, DV.same_self, sameRows_self, sameL_self, callIt, E0P, cn]
   rfl
  case h3 =>
   simp [c49b, codeL, codeR, c49, Tryz.f139, evCode, evOps, evOp, evWant, evCore, evPure, evCall, use, useL, useParts, opv, rd, putS, untake, moveIt, takes, af_nil, af_cons, appTmp, apartL, apartB, posOf, cellsOf, isBelowL, PV.isBelow, boxCells, isDataL, PV.isData, loadAs, loadS, storeS, storeAs, storedCells, oneP, PV.strip, PV.strip1, PV.keep0, evFieldAddr, evField, partP, evSlice, bound, natOf, rowsOk, evIndexAddr, evIndex, evLen, evAppend, ownRows, elemsOf, acc, fillP, bin_add, bin_sub, bin_mul, bin_lss, bin_leq, bin_gtr, bin_geq, bin_eql, bin_neq, bin_and, bin_andNot, un_not, mm_max, mm_min, ofValue, ofCell, slotOf, resVal, resOne, resL, retOf, toDL, toD, sameStore, sameCells, PV.same, DV.same_self, sameRows_self, sameL_self, callIt, E0P, cn, E0ov]
   rfl
  case h4 =>
   simp [c49c, codeL, codeR, c49, Tryz.f139, evCode, evOps, evOp, evWant, evCore, evPure, evCall, use, useL, useParts, opv, rd, putS, untake, moveIt, takes, af_nil, af_cons, appTmp, apartL, apartB, posOf, cellsOf, isBelowL, PV.isBelow, boxCells, isDataL, PV.isData, loadAs, loadS, storeS, storeAs, storedCells, oneP, PV.strip, PV.strip1, PV.keep0, evFieldAddr, evField, partP, evSlice, bound, natOf, rowsOk, evIndexAddr, evIndex, evLen, evAppend, ownRows, elemsOf, acc, fillP, bin_add, bin_sub, bin_mul, bin_lss, bin_leq, bin_gtr, bin_geq, bin_eql, bin_neq, bin_and, bin_andNot, un_not, mm_max, mm_min, ofValue, ofCell, slotOf, resVal, resOne, resL, retOf, toDL, toD, sameStore, sameCells, PV.same, DV.same_self, sameRows_self, sameL_self, callIt, E0P, cn, Tryz.aggT47, Tryz.aggT3, Tryz.szT47, Tryz.szT3, Tryz.zeroT47, Tryz.placesOf47, Tryz.aggT190, Tryz.szT190, Tryz.zeroT190, Tryz.underlying47, Tryz.underlying190, E0ov, E0p72, E0r72, ev72, hb]
   rfl
  case h5 => simp [Tryz.f139, evCode, evOps, evOp, evWant, evCore, evPure, evCall, use, useL, useParts, opv, rd, putS, untake, moveIt, takes, af_nil, af_cons, appTmp, apartL, apartB, posOf, cellsOf, isBelowL, PV.isBelow, boxCells, isDataL, PV.isData, loadAs, loadS, storeS, storeAs, storedCells, oneP, PV.strip, PV.strip1, PV.keep0, evFieldAddr, evField, partP, evSlice, bound, natOf, rowsOk, evIndexAddr, evIndex, evLen, evAppend, ownRows, elemsOf, acc, fillP, bin_add, bin_sub, bin_mul, bin_lss, bin_leq, bin_gtr, bin_geq, bin_eql, bin_neq, bin_and, bin_andNot, un_not, mm_max, mm_min, ofValue, ofCell, slotOf, resVal, resOne, resL, retOf, toDL, toD, sameStore, sameCells, PV.same, DV.same_self, sameRows_self, sameL_self, callIt, Tryz.aggT47, Tryz.szT47, cn]
end Go.Proofs

set_option maxRecDepth 100000
set_option maxHeartbeats 4000000
namespace Go.Proofs
open Go.Shelf Go.RowKit Go.Lib Go.Pv
theorem c40 (σ : Store) : callIt E0 (evI E0) 127 [] σ = some (cn 0 0 1 0, σ) := by
 refine call_run (fn := Tryz.f127) 5 rfl rfl rfl Tryz.func127 rfl rfl ?_ rfl
 simp [Tryz.f127, evCode, evOps, evOp, evWant, evCore, evPure, evCall, use, useL, useParts, opv, rd, putS, untake, moveIt, takes, af_nil, af_cons, appTmp, apartL, apartB, posOf, cellsOf, isBelowL, PV.isBelow, boxCells, isDataL, PV.isData, loadAs, loadS, storeS, storeAs, storedCells, oneP, PV.strip, PV.strip1, PV.keep0, evFieldAddr, evField, partP, evSlice, bound, natOf, rowsOk, evIndexAddr, evIndex, evLen, evAppend, ownRows, elemsOf, acc, fillP, bin_add, bin_sub, bin_mul, bin_lss, bin_leq, bin_gtr, bin_geq, bin_eql, bin_neq, bin_and, bin_andNot, un_not, mm_max, mm_min, ofValue, ofCell, slotOf, resVal, resOne, resL, retOf, toDL, toD, sameStore, sameCells, PV.same, DV.same_self, sameRows_self, sameL_self, E0P, cn, Tryz.aggT47, Tryz.aggT3, Tryz.szT47, Tryz.szT3, Tryz.zeroT47, Tryz.placesOf47, Tryz.underlying47]
theorem c70 (t r s q : Int) (hq : 0 ≤ q ∧ q ≤ 900) (σ : Store) : callIt E0 (evI E0) 184 [cn t r s q] σ = some (if q + 1 = 128 then cn 0 0 1 0 else cn t r s (q + 1), σ) := by
 have hw : IntKind.i64.wrap (q + 1) = q + 1 := by rw [IntWalk.i64_left]; unfold wrap64; omega
 have h40 := c40
 unfold cn at h40
 by_cases h : q + 1 = 128
 ·rw [if_pos h]
  refine call_run (fn := Tryz.f184) 5 rfl rfl rfl Tryz.func184 rfl rfl ?_ rfl
  have hw8 : IntKind.i64.wrap (q + 1) = 128 := hw.trans h
  simp [Tryz.f184, evCode, evOps, evOp, evWant, evCore, evPure, evCall, use, useL, useParts, opv, rd, putS, untake, moveIt, takes, af_nil, af_cons, appTmp, apartL, apartB, posOf, cellsOf, isBelowL, PV.isBelow, boxCells, isDataL, PV.isData, loadAs, loadS, storeS, storeAs, storedCells, oneP, PV.strip, PV.strip1, PV.keep0, evFieldAddr, evField, partP, evSlice, bound, natOf, rowsOk, evIndexAddr, evIndex, evLen, evAppend, ownRows, elemsOf, acc, fillP, bin_add, bin_sub, bin_mul, bin_lss, bin_leq, bin_gtr, bin_geq, bin_eql, bin_neq, bin_and, bin_andNot, un_not, mm_max, mm_min, ofValue, ofCell, slotOf, resVal, resOne, resL, retOf, toDL, toD, sameStore, sameCells, PV.same, DV.same_self, sameRows_self, sameL_self, E0P, cn, Tryz.aggT47, Tryz.aggT3, Tryz.szT47, Tryz.szT3, Tryz.zeroT47, Tryz.placesOf47, Tryz.underlying47, hw8, h40]
 ·rw [if_neg h]
  refine call_run (fn := Tryz.f184) 5 rfl rfl rfl Tryz.func184 rfl rfl ?_ rfl
  simp [Tryz.f184, evCode, evOps, evOp, evWant, evCore, evPure, evCall, use, useL, useParts, opv, rd, putS, untake, moveIt, takes, af_nil, af_cons, appTmp, apartL, apartB, posOf, cellsOf, isBelowL, PV.isBelow, boxCells, isDataL, PV.isData, loadAs, loadS, storeS, storeAs, storedCells, oneP, PV.strip, PV.strip1, PV.keep0, evFieldAddr, evField, partP, evSlice, bound, natOf, rowsOk, evIndexAddr, evIndex, evLen, evAppend, ownRows, elemsOf, acc, fillP, bin_add, bin_sub, bin_mul, bin_lss, bin_leq, bin_gtr, bin_geq, bin_eql, bin_neq, bin_and, bin_andNot, un_not, mm_max, mm_min, ofValue, ofCell, slotOf, resVal, resOne, resL, retOf, toDL, toD, sameStore, sameCells, PV.same, DV.same_self, sameRows_self, sameL_self, E0P, cn, Tryz.aggT47, Tryz.aggT3, Tryz.szT47, Tryz.szT3, Tryz.zeroT47, Tryz.placesOf47, Tryz.underlying47, hw, h]
theorem step_off (t r q what : Int) (hq : 0 ≤ q ∧ q ≤ 900) : CallOk Tryz.prog 139 [cn t r 3 q, .d (.int .i64 what)] [] (stepV t r 3 q what) [] := by
 have hv : (stepV t r 3 q what).isData = true := by unfold stepV cn; split <;> (try split) <;> (try split) <;> rfl
 have key : ∃ σ', evI E0 139 [cn t r 3 q, .d (.int .i64 what)] [] = some (stepV t r 3 q what, σ') := by
  by_cases h6 : what = 6
  ·subst h6
   have h70 := c70 t r 3 q hq
   have ev : stepV t r 3 q 6 = if q + 1 = 128 then cn 0 0 1 0 else cn t r 3 (q + 1) := by simp [stepV]
   rw [ev]
   by_cases h : q + 1 = 128
   ·rw [if_pos h]
    simp only [if_pos h] at h70
    unfold cn at h70
    refine evI_ex (fn := Tryz.f139) 5 rfl Tryz.func139 rfl ?_
    simp [Tryz.f139, evCode, evOps, evOp, evWant, evCore, evPure, evCall, use, useL, useParts, opv, rd, putS, untake, moveIt, takes, af_nil, af_cons, appTmp, apartL, apartB, posOf, cellsOf, isBelowL, PV.isBelow, boxCells, isDataL, PV.isData, loadAs, loadS, storeS, storeAs, storedCells, oneP, PV.strip, PV.strip1, PV.keep0, evFieldAddr, evField, partP, evSlice, bound, natOf, rowsOk, evIndexAddr, evIndex, evLen, evAppend, ownRows, elemsOf, acc, fillP, bin_add, bin_sub, bin_mul, bin_lss, bin_leq, bin_gtr, bin_geq, bin_eql, bin_neq, bin_and, bin_andNot, un_not, mm_max, mm_min, ofValue, ofCell, slotOf, resVal, resOne, resL, retOf, toDL, toD, sameStore, sameCells, PV.same, DV.same_self, sameRows_self, sameL_self, E0P, cn, Tryz.aggT47, Tryz.aggT3, Tryz.szT47, Tryz.szT3, Tryz.zeroT47, Tryz.placesOf47, Tryz.underlying47, h70]
   ·rw [if_neg h]
    simp only [if_neg h] at h70
    unfold cn at h70
    refine evI_ex (fn := Tryz.f139) 5 rfl Tryz.func139 rfl ?_
    simp [Tryz.f139, evCode, evOps, evOp, evWant, evCore, evPure, evCall, use, useL, useParts, opv, rd, putS, untake, moveIt, takes, af_nil, af_cons, appTmp, apartL, apartB, posOf, cellsOf, isBelowL, PV.isBelow, boxCells, isDataL, PV.isData, loadAs, loadS, storeS, storeAs, storedCells, oneP, PV.strip, PV.strip1, PV.keep0, evFieldAddr, evField, partP, evSlice, bound, natOf, rowsOk, evIndexAddr, evIndex, evLen, evAppend, ownRows, elemsOf, acc, fillP, bin_add, bin_sub, bin_mul, bin_lss, bin_leq, bin_gtr, bin_geq, bin_eql, bin_neq, bin_and, bin_andNot, un_not, mm_max, mm_min, ofValue, ofCell, slotOf, resVal, resOne, resL, retOf, toDL, toD, sameStore, sameCells, PV.same, DV.same_self, sameRows_self, sameL_self, E0P, cn, Tryz.aggT47, Tryz.aggT3, Tryz.szT47, Tryz.szT3, Tryz.zeroT47, Tryz.placesOf47, Tryz.underlying47, h70]
  ·have ev : stepV t r 3 q what = cn t r 3 q := by simp [stepV, h6]
   rw [ev]
   refine evI_ex (fn := Tryz.f139) 5 rfl Tryz.func139 rfl ?_
   simp [Tryz.f139, evCode, evOps, evOp, evWant, evCore, evPure, evCall, use, useL, useParts, opv, rd, putS, untake, moveIt, takes, af_nil, af_cons, appTmp, apartL, apartB, posOf, cellsOf, isBelowL, PV.isBelow, boxCells, isDataL, PV.isData, loadAs, loadS, storeS, storeAs, storedCells, oneP, PV.strip, PV.strip1, PV.keep0, evFieldAddr, evField, partP, evSlice, bound, natOf, rowsOk, evIndexAddr, evIndex, evLen, evAppend, ownRows, elemsOf, acc, fillP, bin_add, bin_sub, bin_mul, bin_lss, bin_leq, bin_gtr, bin_geq, bin_eql, bin_neq, bin_and, bin_andNot, un_not, mm_max, mm_min, ofValue, ofCell, slotOf, resVal, resOne, resL, retOf, toDL, toD, sameStore, sameCells, PV.same, DV.same_self, sameRows_self, sameL_self, E0P, cn, Tryz.aggT47, Tryz.aggT3, Tryz.szT47, Tryz.szT3, Tryz.zeroT47, Tryz.placesOf47, Tryz.underlying47, h6]
 obtain ⟨σ', h⟩ := key
 exact (evI_ok E0_ok 139 _ _ _ _ h).1.drop hv
theorem Tryz.stepOk (t r s q what : Int) (ht : 0 ≤ t ∧ t ≤ 900) (hr : 0 ≤ r ∧ r ≤ 900) (hq : 0 ≤ q ∧ q ≤ 900) (hw : 1 ≤ what ∧ what ≤ 6) : CallOk Tryz.prog 139 [cn t r s q, .d (.int .i64 what)] [] (stepV t r s q what) [] := by
 by_cases hs : s = 3
 ·subst hs; exact step_off t r q what hq
 have : what = 1 ∨ what = 2 ∨ what = 3 ∨ what = 4 ∨ what = 5 ∨ what = 6 := by omega
 rcases this with rfl | rfl | rfl | rfl | rfl | rfl
 ·exact step_1 t r s q hs ht hr
 ·exact step_2 t r s q hs ht hr
 ·exact step_3 t r s q hs ht hr
 ·exact step_4 t r s q hs ht hr
 ·exact step_5 t r s q hs ht hr
 ·exact step_6 t r s q hs ht hr
end Go.Proofs

set_option maxRecDepth 100000
namespace Go.Proofs
open Go.RowKit Go.Shelf Go.Pv
def bitRows (v : Int) (m : Nat) : List (List DV) := (List.range m).map fun k => [DV.int .i64 ((v / 2 ^ (m - 1 - k)) % 2)]
theorem bits_one (x : Int) (hx : 0 ≤ x ∧ x < 2 ^ 40) : bits .and .i64 x 1 = x % 2 := by
 have h1 : (BitVec.ofInt 64 1).toNat = 2 ^ 1 - 1 := by decide
 have key : (BitVec.ofInt 64 x &&& BitVec.ofInt 64 1).toNat = (x % ((2 ^ 64 : Nat) : Int)).toNat % 2 ^ 1 := by
  rw [BitVec.toNat_and, BitVec.toNat_ofInt, h1, Nat.and_two_pow_sub_one_eq_mod]
 show IntKind.i64.wrap ((BitVec.ofInt 64 x &&& BitVec.ofInt 64 1).toNat : Nat) = x % 2
 rw [key, IntKind.wrap_i64]
 omega
theorem Tryz.putOk (v : Int) (m : Nat) (hm : m ≤ 32) (hv : 0 ≤ v ∧ v < 2 ^ m) : CallOk Tryz.prog 188 [.d (.int .i64 v), .d (.int .i64 m)] [] (.tup [.d (.slice (bitRows v m)), .d (.bool true)]) [] := by
 have hle : (2 : Int) ^ m ≤ 2 ^ 32 := by
  have : (2 : Nat) ^ m ≤ 2 ^ 32 := Nat.pow_le_pow_right (by decide) hm
  exact_mod_cast this
 have hdiv : v / 2 ^ m = 0 := Int.ediv_eq_zero_of_lt hv.1 hv.2
 refine callOk_data ⟨_, Tryz.func188, rfl, by decide⟩ (by simp) fun w Im vs hin hargs => ?_
 obtain ⟨hl, hr⟩ := hargs
 obtain ⟨x, y, rfl⟩ : ∃ x y, vs = #[x, y] := by
  match vs, hl with
  | ⟨[x, y]⟩, _ => exact ⟨x, y, rfl⟩
 obtain rfl : x = .int .i64 v := (hr 0 _ x rfl rfl).1.int_inv
 obtain rfl : y = .int .i64 m := (hr 1 _ y rfl rfl).1.int_inv
 refine ((callsIn_wide (n := 3)).1 (Tryz.Put_in _ 3 trivial trivial trivial rfl (by omega) v m hm hdiv w (fun k => bits .and .i64 (v / 2 ^ (m - 1 - k)) 1) (fun _ => rfl))).mono ?_
 rintro e w' ⟨u, rfl, hrow, hb⟩
 have hrl : (bitRows v m).length = m := by simp [bitRows]
 have hbit : ∀ k, bits .and .i64 (v / 2 ^ (m - 1 - k)) 1 = (v / 2 ^ (m - 1 - k)) % 2 := fun k => bits_one _ ⟨Int.ediv_nonneg hv.1 (Int.le_of_lt (Int.pow_pos (show (0 : Int) < 2 by decide))), by
  have : v / 2 ^ (m - 1 - k) ≤ v := Int.ediv_le_self _ hv.1
  omega⟩
 obtain ⟨g, Im', q1, q2, q3, q4, q5⟩ := ownsRow_rep (size := 1) (rows := bitRows v m) hin hb (by decide) (fun r hr => by simp [bitRows] at hr; obtain ⟨k, _, rfl⟩ := hr; rfl) (by rw [hrl]; exact hrow) (fun i j r d hi hj => by
  simp only [bitRows, List.getElem?_map] at hi
  cases hk : (List.range m)[i]? with
  | none => rw [hk] at hi; cases hi
  | some k =>
   rw [hk] at hi
   simp at hi
   subst hi
   have hik : k = i := by
    have := List.getElem?_eq_some_iff.1 hk
    obtain ⟨h1, h2⟩ := this
    simp at h2
    exact h2.symm
   subst hik
   cases j with
   | succ j => simp at hj
   | zero =>
    simp at hj
    subst hj
    refine ⟨.int .i64 ((v / 2 ^ (m - 1 - k)) % 2), ?_, .int _ _⟩
    simp only [upto, List.getElem?_map, Nat.mul_one, Nat.add_zero, hk, Option.map_some, hbit])
 refine ⟨_, Im', rfl, hb, q1, q2, .tup _ _ rfl (fun i p z hp hz => ?_)⟩
 cases i with
 | zero => simp at hp hz; subst hp; subst hz; exact .d q3
 | succ i =>
  cases i with
  | zero => simp at hp hz; subst hp; subst hz; exact .d (.bool _)
  | succ i => simp at hp
end Go.Proofs

namespace Go.Proofs
open Go.RowKit Go.Shelf Go.Pv
attribute [local go_sem] Oper.semAt_some
def RoomRow (W : World) (B e : Nat) (cap : Nat) (xs : List Value) : Prop := ∃ cur : Array Value, W.heap[B]? = some (.cells cur e (0, 0)) ∧ cur.size = cap ∧ cur.toList.take xs.length = xs ∧ xs.length ≤ cap
def HoldsAt (W : World) (B t : Nat) (v : Value) : Prop := W.heap[B]? = some (.cells #[v] t (0, 0))
theorem RoomRow.kept {W W' : World} {B e cap : Nat} {xs : List Value} (h : RoomRow W B e cap xs) (he : W'.heap[B]? = W.heap[B]?) : RoomRow W' B e cap xs := by
 obtain ⟨cur, h1, h2⟩ := h
 exact ⟨cur, he.trans h1, h2⟩
theorem RoomRow.lt {W : World} {B e cap : Nat} {xs : List Value} (h : RoomRow W B e cap xs) : B < W.heap.size := by
 obtain ⟨cur, h1, h2⟩ := h
 exact (Array.getElem?_eq_some_iff.1 h1).1
theorem HoldsAt.lt {W : World} {B t : Nat} {v : Value} (h : HoldsAt W B t v) : B < W.heap.size := (Array.getElem?_eq_some_iff.1 h).1
theorem HoldsAt.cell {W : World} {B t : Nat} {v : Value} (h : HoldsAt W B t v) : W.cell? ⟨B, 0, none⟩ = some v := by
 have h' : W.heap[B]? = some (.cells #[v] t (0, 0)) := h
 simp [World.cell?, h']
theorem HoldsAt.frozen {W : World} {B t : Nat} {v : Value} (h : HoldsAt W B t v) : W.frozen? ⟨B, 0, none⟩ = false := by
 have h' : W.heap[B]? = some (.cells #[v] t (0, 0)) := h
 simp [World.frozen?, h']
theorem HoldsAt.set {W : World} {B t : Nat} {v : Value} (h : HoldsAt W B t v) (u : Value) : HoldsAt (W.setCell ⟨B, 0, none⟩ u) B t u := by
 have h' : W.heap[B]? = some (.cells #[v] t (0, 0)) := h
 have hlt := h.lt
 unfold HoldsAt
 simp only [World.setCell]
 rw [Array.getElem?_modify]
 simp [h']
theorem wpListIn_append_room {F : Fence} {n : Nat} {P : Program} (w : World) {ops : Array Oper} {rest : List Oper} {o : Oper} {a : Act} {Q : Exit → Act → World → Prop}
  (hg : o.guard = none) (s x : Operand) (t : TypeId) (hop : o.op = Op.call { callee := Callee.builtin Builtin.append, args := #[s, x], argTypes := #[t, t] })
  (e : TypeId) (i : TypeInfo) (h1 : P.underlying t = some (.slice e)) (h2 : P.info? e = some i) (h4 : i.size = 1)
  (B cap : Nat) (xs : List Value) (hs : a.eval s = .slice (some ⟨B, 0, none⟩) xs.length cap) (hown : RoomRow w B e cap xs) (hroom : xs.length + 1 ≤ cap) (ad : Addr) (c : Nat) (y : Value) (hx : a.eval x = .slice (some ad) 1 c)
  (hc : w.cell? (ad.add 0) = some y) (h1c : y.oneCell' = true)
  (hK : ∀ w', RoomRow w' B e cap (xs ++ [y]) → w.grownBy w' (some B) → wpListIn F n P ops Q rest (a.put o.dst (.slice (some ⟨B, 0, none⟩) (xs.length + 1) cap)) w') :
  wpListIn F n P ops Q (o :: rest) a w := by
 refine wpListIn_plain hg fun K hK' => ?_
 obtain ⟨cur, g1, g2, g3, g4⟩ := hown
 have hrun := run_append_room (P := P) w t o.type e i h1 h2 B xs.length cap cur g1 ad 1 c [y] (by simp [h4]) (by
  intro j u hj
  cases j with
  | zero => simp at hj; subst hj; exact hc
  | succ j => simp at hj) (by intro u hu; simp at hu; subst hu; exact h1c) hroom (by simp [h4]; omega)
 unfold Oper.wpIn
 refine ⟨?_, ?_⟩
 ·simp [Oper.about, hop, resolve, Target.leads, Sem.run_pure]
 ·rw [Oper.semAt_plain F _ _ (by rw [hop]; intro c hc'; cases hc')]
  have hfin := hK' _ _ (hK (w.setRow B (cur.toList.take (xs.length * i.size) ++ [y] ++ cur.toList.drop (xs.length * i.size + [y].length)).toArray) ⟨_, setRow_heap w B cur _ e _ g1, by simp [h4]; omega, by
   simp only [h4, Nat.mul_one, List.length_append, List.length_cons, List.length_nil]
   rw [g3, List.append_assoc, ← List.append_assoc, List.take_append_of_le_length (by simp), List.take_of_length_le (by simp)], by simp; omega⟩ ⟨rfl, rfl, rfl, by simp, fun k _ hk => setRow_other w B k _ (fun e => hk (by rw [e]))⟩)
  simp [execOp, hop, resolve, invoke, builtin, hs, hx, hrun, Result.andThen]
  simp only [List.append_assoc, List.singleton_append, List.length_singleton] at hfin
  exact hfin
set_option maxRecDepth 100000 in
set_option maxHeartbeats 2000000 in
theorem Tryz.spread1_in (F : Fence) (n : Nat) (h3 : F.fn 221) (h4 : F.fn 214) (h5 : F.fn 222) (hro : F.round = none) (hn : 3 ≤ n) (B cap : Nat) (x : Int) (hx : 0 ≤ x ∧ x < 256) (xs : List Value) (w : World)
  (bit : Nat → Int) (hbit : ∀ k, bit k = bits .and .i64 (x / 2 ^ (8 - 1 - k)) 1)
  (hR : RoomRow w B 3 cap xs) (hO : HoldsAt w (B + 1) 39 (.slice (some ⟨B, 0, none⟩) xs.length cap)) (hroom : xs.length + 8 ≤ cap) :
  CallsIn F n Tryz.prog 221 #[.int .u8 x, .pointer (some ⟨B + 1, 0, none⟩)] w fun e W' => (∃ v, e = .returned v) ∧
   RoomRow W' B 3 cap (xs ++ (upto bit 8).map (Value.int .i64)) ∧ HoldsAt W' (B + 1) 39 (.slice (some ⟨B, 0, none⟩) (xs.length + 8) cap) ∧ Below B w W' := by
 have h1 : 1 ≤ n := by omega
 obtain ⟨i0, hi, hz0, hz1, hz2⟩ := info_parts Tryz.info3
 have hwx : IntKind.i64.wrap x = x := by rw [IntKind.wrap_i64]; omega
 have hBs := hO.lt
 refine callsIn_of_wp_marks Tryz.func221 rfl h3 ?_ hro
 simp only [Tryz.ntmps221, List.size_toArray, List.length_cons, List.length_nil, Nat.reduceAdd, Nat.reduceSub, Array.replicate_succ, Array.replicate_zero, List.push_toArray, List.append_toArray, List.nil_append, List.cons_append]
 gi_wp2_with (gi_at_call 214; refine (Tryz.shifts_in F (n - 1) h4 hro _ _ _).mono ?_; rintro e w' ⟨rfl, rfl⟩)
 have bN := Boxed.new w 3 (.int .i64 x)
 have bM := Boxed.new (w.alloc (.cells #[.int .i64 x] 3)) 3 (.int .i64 8)
 rw [World.size_alloc] at bM
 have bN3 := bN.alloc (.cells #[.int .i64 8] 3)
 have hB0 : Below B w ((w.alloc (.cells #[.int .i64 x] 3)).alloc (.cells #[.int .i64 8] 3)) := ((Below.refl _ w).alloc (by omega) _).alloc (by simp; omega) _
 have hS0 : ((w.alloc (.cells #[.int .i64 x] 3)).alloc (.cells #[.int .i64 8] 3)).heap.size = w.heap.size + 2 := by simp
 have hh : ∀ k, k < w.heap.size → ((w.alloc (.cells #[.int .i64 x] 3)).alloc (.cells #[.int .i64 8] 3)).heap[k]? = w.heap[k]? := fun k hk => (Below.heap_alloc _ _ _ (by simp; omega)).trans (Below.heap_alloc _ _ _ hk)
 refine wpIn_rangeFunc_ownG hro h1 (gf := 222) (lb := #[.pointer (some ⟨w.heap.size + 1, 0, none⟩), .pointer (some ⟨w.heap.size, 0, none⟩)]) rfl h5 (enters_of Tryz.func222 (by kernel_rfl) rfl)
  (Tryz.shifts_stops F (n - 1) h5 hro (by omega) (w.heap.size + 1) w.heap.size x 8 (by omega) _ (by rw [hS0]; omega) bM.cell bN3.cell bit hbit) (fun h k x hx => k x (h x hx)) (fun W l o o' hl ho hc _ x hx => cell_kept hx (grownBy_putObj' W l o') (fun r e => by cases e; exact ⟨o, ho, hc⟩)) (Below.refl _ _) (fun _ => rfl)
  (fun (pre : List Int) W => (RoomRow W B 3 cap (xs ++ pre.map (Value.int .i64)) ∧ HoldsAt W (B + 1) 39 (.slice (some ⟨B, 0, none⟩) (xs.length + pre.length) cap) ∧ w.heap.size + 2 ≤ W.heap.size) ∧ Below B w W)
  (fun _ _ _ => False)
  (OwnFrom.and (fun s X Y row ⟨hr, ho, hsz⟩ hg hrow => by
   have hne : ∀ k, k < w.heap.size → some k ≠ row := fun k hk e => by
    have := (hrow k e.symm).1
    rw [hS0] at this
    omega
   exact ⟨hr.kept (hg.block B hr.lt (hne B (by omega))), (hg.block (B + 1) ho.lt (hne _ hBs)).trans ho, Nat.le_trans hsz hg.size⟩) (ownFrom_below (by omega) (by rw [hS0]; omega)))
  (fun _ _ _ _ _ hs _ _ => hs)
  ⟨⟨by simpa using hR.kept (hh B (by omega)), (hh (B + 1) hBs).trans hO, by rw [hS0]; omega⟩, hB0⟩
  (fun y => { tmps := #[.int .u8 x, .pointer (some ⟨B + 1, 0, none⟩), undef, .int .i64 y, .int .u8 x, .int .i64 x, .func (.func 222) #[] #[.pointer (some ⟨w.heap.size + 1, 0, none⟩), .pointer (some ⟨w.heap.size, 0, none⟩)], .int .i64 y, undef, undef, undef, undef], defers := [] }) ?assign ?body ?done ?stop
 case assign =>
  intro l x W K hK
  gi_wp2
  exact hK
 case body =>
  rintro l pre y W ⟨⟨hr, ho, hsz⟩, hB⟩ hlt
  have hc := ho.cell
  have hoA : HoldsAt (W.alloc (.cells #[.int .i64 y] 3)) (B + 1) 39 (.slice (some ⟨B, 0, none⟩) (xs.length + pre.length) cap) := (Below.heap_alloc W _ _ ho.lt).trans ho
  have hlen : (xs ++ pre.map (Value.int .i64)).length = xs.length + pre.length := by simp
  gi_wp2_with (gi_at_builtin; refine wpListIn_append_room _ rfl _ _ 39 rfl 3 i0 Tryz.underlying39 hi hz1 B cap (xs ++ pre.map (Value.int .i64)) (by rw [hlen]; rfl) (hr.kept (Below.heap_alloc W _ _ hr.lt)) (by rw [hlen]; omega) ⟨W.heap.size, 0, none⟩ 1 (.int .i64 y) rfl (cell_one_new _ _ _ 0 _ rfl) rfl ?_; rw [hlen]; intro w1 hr1 hg1; have ho1 : HoldsAt w1 (B + 1) 39 (.slice (some ⟨B, 0, none⟩) (xs.length + pre.length) cap) := (hg1.block _ hoA.lt (by simp)).trans hoA; have hc1 := ho1.cell; have hf1 := ho1.frozen)
  have hoth : ∀ k, k ≠ B + 1 → (w1.setCell ⟨B + 1, 0, none⟩ (.slice (some ⟨B, 0, none⟩) (xs.length + pre.length + 1) cap)).heap[k]? = w1.heap[k]? := fun k hk => Below.heap_setCell _ _ _ _ hk
  have hgk : ∀ k, k < W.heap.size → k ≠ B → w1.heap[k]? = W.heap[k]? := fun k hk hne => (hg1.block k (by simp; omega) (by simpa using hne)).trans (Below.heap_alloc _ _ _ hk)
  have hs1 := hg1.size
  simp only [World.size_alloc] at hs1
  refine ⟨(((KeepsOthers.alloc W _).from _).trans (KeepsFrom.of_grownBy hg1 (fun j e => by cases e; rw [hS0]; omega))).trans ((KeepsOthers.setCell _ _ _).from _), fun z hz => ?_, ⟨?_, ?_, ?_⟩, ?_⟩
  ·have hk1 := hoth w.heap.size (by omega)
   have hk2 := hgk w.heap.size (by omega) (by omega)
   exact (World.cell?_of_block (a := ⟨w.heap.size, 0, none⟩) (hk1.trans hk2)).trans hz
  ·have := hr1.kept (hoth B (by omega))
   simpa using this
  ·have := ho1.set (.slice (some ⟨B, 0, none⟩) (xs.length + pre.length + 1) cap)
   simpa [Nat.add_assoc] using this
  ·have := (KeepsOthers.setCell w1 ⟨B + 1, 0, none⟩ (.slice (some ⟨B, 0, none⟩) (xs.length + pre.length + 1) cap)).size
   omega
  ·exact ((hB.alloc (by omega) _).grown hg1 (by simp; omega) (fun k e => by cases e; exact Nat.le_refl _)).setCell (p := ⟨B + 1, 0, none⟩) (by simp) _
 case done =>
  rintro D ys W hD rfl ⟨⟨hr, ho, hsz⟩, hB⟩ hK
  gi_wp2
  refine ⟨by simp, .inl ⟨_, _, rfl, run_takeDeferred hK, ?_⟩⟩
  have hDB : D ≠ B ∧ D ≠ B + 1 := by rw [hS0] at hD; omega
  have hk : ∀ k, k ≠ D → (W.putObj D (.deferred none)).heap[k]? = W.heap[k]? := fun k hk => World.putObj_heap_other hk
  refine ⟨_, results_none rfl _ _ _, ⟨_, rfl⟩, ?_, ?_, ?_⟩
  ·exact hr.kept (hk B hDB.1.symm)
  ·rw [upto_length] at ho
   exact (hk _ hDB.2.symm).trans ho
  ·exact hB.trans (belowK_b (w := w) (by omega) W D _ _ (by rw [hS0] at hD; omega) hK rfl rfl)
 case stop =>
  rintro D c pre W _ _ h _
  exact h.elim
theorem wpListIn_make_x {F : Fence} {n : Nat} {P : Program} (w : World) {ops : Array Oper} {rest : List Oper} {o : Oper} {a : Act} {Q : Exit → Act → World → Prop}
  (hg : o.guard = none) (l c : Operand) (t : TypeId) (hop : o.op = Op.makeSlice t l c)
  (e : TypeId) (i : TypeInfo) (z : Value) (h1 : P.underlying t = some (.slice e)) (h2 : P.info? e = some i) (h3 : i.zero = some z)
  (kl kc : IntKind) (m : Nat) (hl : a.eval l = .int kl 0) (hc : a.eval c = .int kc m) (b2 : i.bytes * m ≤ 281474976710656) (b3 : m ≤ 9223372036854775807)
  (hK : wpListIn F n P ops Q rest (a.put o.dst (.slice (some ⟨w.heap.size, 0, none⟩) 0 m)) (w.alloc (.cells (madeCells z.cells (m * i.size)) e))) :
  wpListIn F n P ops Q (o :: rest) a w := by
 refine wpListIn_plain hg fun K hK' => ?_
 have hrun := run_make (P := P) w t e i z h1 h2 h3 kl kc 0 m (by omega) (by omega) (by rw [← Int.natCast_mul]; omega) (by omega)
 simp only [Int.toNat_natCast, Int.toNat_zero] at hrun
 unfold Oper.wpIn
 refine ⟨?_, ?_⟩
 ·simp [Oper.about, hop]
 ·rw [Oper.semAt_plain F _ _ (by rw [hop]; intro c hc'; cases hc')]
  simp [execOp, hop, hl, hc, hrun, Result.andThen]
  exact hK' _ _ hK
def bit8 (x : Int) (k : Nat) : Int := bits .and .i64 (x / 2 ^ (8 - 1 - k)) 1
def spreadV (bs : Nat → Int) (k : Nat) : List Value := (List.range k).flatMap fun i => (upto (bit8 (bs i)) 8).map (Value.int .i64)
theorem spreadV_succ (bs : Nat → Int) (k : Nat) : spreadV bs (k + 1) = spreadV bs k ++ (upto (bit8 (bs k)) 8).map (Value.int .i64) := by
 unfold spreadV
 rw [List.range_succ, List.flatMap_append]
 simp only [List.flatMap_cons, List.flatMap_nil, List.append_nil]
theorem spreadV_len (bs : Nat → Int) : ∀ k, (spreadV bs k).length = 8 * k
 | 0 => rfl
 | k + 1 => by rw [spreadV_succ, List.length_append, spreadV_len bs k, List.length_map, upto_length]; omega
set_option maxRecDepth 100000 in
set_option maxHeartbeats 2000000 in
theorem Tryz.Spread_in (F : Fence) (n : Nat) (h2 : F.fn 213) (h3 : F.fn 221) (h4 : F.fn 214) (h5 : F.fn 222) (hro : F.round = none) (hn : 4 ≤ n) (L c : Nat) (hL : L ≤ 2 ^ 40) (blk off : Nat) (xa : Option Addr)
  (hxa : L ≠ 0 → xa = some ⟨blk, off, none⟩) (bs : Nat → Int) (hbs : ∀ j, j < L → 0 ≤ bs j ∧ bs j < 256) (w : World) (hblk : L ≠ 0 → blk < w.heap.size) (hcell : ∀ j, j < L → w.cell? ⟨blk, off + j, none⟩ = some (.int .u8 (bs j))) :
  CallsIn F n Tryz.prog 213 #[.slice xa L c] w fun e W' => ∃ cap, e = .returned (.slice (some ⟨w.heap.size, 0, none⟩) (8 * L) cap) ∧ RoomRow W' w.heap.size 3 cap (spreadV bs L) ∧ Below w.heap.size w W' := by
 have h1 : 1 ≤ n := by omega
 obtain ⟨i0, hi, hz0, hz1, hz2⟩ := info_parts Tryz.info3
 have hw8 : wrap64 (8 * (L : Int)) = ((8 * L : Nat) : Int) := by unfold wrap64; omega
 refine callsIn_of_wp Tryz.func213 rfl h2 ?_ hro
 simp only [Tryz.ntmps213, List.size_toArray, List.length_cons, List.length_nil, Nat.reduceAdd, Nat.reduceSub, Array.replicate_succ, Array.replicate_zero, List.push_toArray, List.append_toArray, List.nil_append, List.cons_append]
 gi_wp2_with (gi_at_make; refine wpListIn_make_x _ rfl _ _ 39 rfl 3 i0 (.int .i64 0) Tryz.underlying39 hi hz0 .i64 .i64 (8 * L) rfl (show Value.int .i64 (8 * (L : Int)) = _ from by rw [Int.natCast_mul]; rfl) (by rw [hz2]; omega) (by omega) ?_)
 have hB2 : ((w.alloc (.cells (madeCells (Value.int .i64 0).cells (8 * L * i0.size)) 3)).alloc (.cells #[.slice (some ⟨w.heap.size, 0, none⟩) 0 (8 * L)] 39)).heap.size = w.heap.size + 2 := by simp
 gi_loopw [14] (fun i wr => ∃ k : Nat, k ≤ L ∧ i = .int .i64 k ∧ RoomRow wr w.heap.size 3 (8 * L) (spreadV bs k) ∧ HoldsAt wr (w.heap.size + 1) 39 (.slice (some ⟨w.heap.size, 0, none⟩) (8 * k) (8 * L)) ∧ Below w.heap.size w wr)
  (fun i _ => L - (intOf i).toNat)
 case atStart =>
  refine ⟨0, Nat.zero_le _, rfl, ⟨_, (Below.heap_alloc _ _ _ (by simp)).trans (World.alloc_heap_new w _), ?_, by simp [spreadV], by simp [spreadV]⟩, ?_, ((Below.refl _ w).alloc (Nat.le_refl _) _).alloc (by simp) _⟩
  ·simp [madeCells, hz1]
  ·have := World.alloc_heap_new (w.alloc (.cells (madeCells (Value.int .i64 0).cells (8 * L * i0.size)) 3)) (.cells #[.slice (some ⟨w.heap.size, 0, none⟩) 0 (8 * L)] 39)
   rw [World.size_alloc] at this
   simpa [hz1, HoldsAt, Value.cells] using this
 case round =>
  obtain ⟨k, hk, rfl, hr, ho, hnx⟩ := hrel
  by_cases hlt : k < L
  ·obtain rfl := hxa (by omega)
   have hcx : wr.cell? ⟨blk, off + k, none⟩ = some (.int .u8 (bs k)) := (hnx.cell (by exact hblk (by omega))).trans (hcell k hlt)
   have hlen := spreadV_len bs k
   have hsp := Tryz.spread1_in F (n - 1) h3 h4 h5 hro (by omega) w.heap.size (8 * L) (bs k) (hbs k hlt) (spreadV bs k) wr (bit8 (bs k)) (fun _ => rfl) hr (by rw [hlen]; exact ho) (by rw [hlen]; omega)
   rw [hlen] at hsp
   gi_wp2_with (gi_at_call 221; refine hsp.mono ?_; rintro e w2 ⟨⟨v, rfl⟩, hr2, ho2, hb2⟩)
   refine ⟨⟨k + 1, by omega, rfl, by rw [spreadV_succ]; exact hr2, by rw [show 8 * (k + 1) = 8 * k + 8 by omega]; exact ho2, hnx.trans hb2⟩, ?_⟩
   simp [intOf]; omega
  ·obtain rfl : k = L := by omega
   have hc2 := ho.cell
   gi_wp2
   go_ret
   exact ⟨_, rfl, hr, hnx⟩
def spreadL (bs : List Int) : List Int := bs.flatMap fun x => upto (bit8 x) 8
theorem spreadV_list (bs : List Int) : spreadV (fun i => bs.getD i 0) bs.length = (spreadL bs).map (Value.int .i64) := by
 unfold spreadV spreadL
 rw [List.map_flatMap]
 have : ∀ (l : List Int), (List.range l.length).flatMap (fun i => (upto (bit8 (l.getD i 0)) 8).map (Value.int .i64)) = l.flatMap (fun x => (upto (bit8 x) 8).map (Value.int .i64)) := by
  intro l
  induction l with
  | nil => rfl
  | cons x l ih =>
   rw [List.length_cons, List.range_succ_eq_map, List.flatMap_cons, List.flatMap_cons, List.flatMap_map]
   rw [← ih]
   rfl
 exact this bs
theorem spreadL_len (bs : List Int) : (spreadL bs).length = 8 * bs.length := by
 have := congrArg List.length (spreadV_list bs)
 rw [spreadV_len] at this
 simpa using this.symm
theorem Tryz.spreadOk (bs : List Int) (hL : bs.length ≤ 2 ^ 40) (hbs : ∀ x ∈ bs, 0 ≤ x ∧ x < 256) : CallOk Tryz.prog 213 [.d (.slice (bs.map fun b => [.int .u8 b]))] [] (.d (.slice ((spreadL bs).map fun b => [.int .i64 b]))) [] := by
 refine callOk_data ⟨_, Tryz.func213, rfl, by decide⟩ (by simp) fun w Im vs hin hargs => ?_
 obtain ⟨hl, hr⟩ := hargs
 obtain ⟨x, rfl⟩ : ∃ x, vs = #[x] := by
  match vs, hl with
  | ⟨[x]⟩, _ => exact ⟨x, rfl⟩
 have hx := (hr 0 _ x rfl rfl).1.slice_inv
 obtain ⟨y, cap, rfl, hcap⟩ := hx.slice_form
 rw [List.length_map] at hx hcap ⊢
 have hgetD : ∀ j, j < bs.length → bs.getD j 0 ∈ bs := fun j hj => by simp [List.getD, hj]
 have main : ∃ (xa : Option Addr) (blk off : Nat), y = xa ∧ (bs.length ≠ 0 → xa = some ⟨blk, off, none⟩) ∧ (bs.length ≠ 0 → blk < w.heap.size) ∧ ∀ j, j < bs.length → w.cell? ⟨blk, off + j, none⟩ = some (.int .u8 (bs.getD j 0)) := by
  generalize hrows : bs.map (fun b => [DV.int .u8 b]) = rows at hx
  have hrl : rows.length = bs.length := by rw [← hrows, List.length_map]
  rw [← hrl] at hx
  cases hx with
  | nil =>
   have h0 : bs.length = 0 := by rw [← hrl]; rfl
   exact ⟨none, 0, 0, rfl, fun h => absurd h0 h, fun h => absurd h0 h, fun j hj => by omega⟩
  | slice _ a c sz cv hlen hc hs hcell him hrep =>
   by_cases h0 : bs.length = 0
   ·exact ⟨some a, 0, 0, rfl, fun h => absurd h0 h, fun h => absurd h0 h, fun j hj => by omega⟩
   ·have hsz : sz = 1 := by
     cases hrr : rows with
     | nil => rw [hrr] at hrl; simp at hrl; omega
     | cons r rs =>
      have h1 := hlen r (by rw [hrr]; simp)
      have : r ∈ bs.map (fun b => [DV.int .u8 b]) := by rw [hrows, hrr]; simp
      obtain ⟨b, _, rfl⟩ := List.mem_map.1 this
      exact h1.symm
    subst hsz
    have ha := hs (by omega)
    have haa : a = ⟨a.block, a.off, none⟩ := by cases a; simp at ha; simp [ha]
    have hcells : ∀ j, j < bs.length → w.cell? ⟨a.block, a.off + j, none⟩ = some (.int .u8 (bs.getD j 0)) := fun j hj => by
     have h1 := hcell j (by omega)
     have h2 := hrep j 0 [.int .u8 (bs.getD j 0)] (.int .u8 (bs.getD j 0)) (by rw [← hrows, List.getElem?_map]; simp [List.getD, show j < bs.length by omega]) rfl
     rw [show j * 1 + 0 = j by omega] at h2
     generalize cv j = u at h1 h2
     cases h2
     exact h1
    refine ⟨some a, a.block, a.off, rfl, fun _ => by rw [← haa], fun _ => ?_, hcells⟩
    exact hin.lt (him 0 (by omega))
 obtain ⟨xa, blk, off, rfl, q1, q2, q3⟩ := main
 refine ((callsIn_wide (n := 4)).1 (Tryz.Spread_in _ 4 trivial trivial trivial trivial rfl (by omega) bs.length cap hL blk off y q1 (fun j => bs.getD j 0) (fun j hj => hbs _ (hgetD j hj)) w q2 q3)).mono ?_
 rintro e w' ⟨cap', rfl, hroom, hb⟩
 rw [spreadV_list] at hroom
 obtain ⟨cur, r1, r2, r3, r4⟩ := hroom
 rw [List.length_map, spreadL_len] at r3 r4
 have hcurl : ∀ j, j < 8 * bs.length → ∃ u, (spreadL bs)[j]? = some u ∧ cur[j]? = some (.int .i64 u) := fun j hj => by
  have hj' : j < (spreadL bs).length := by rw [spreadL_len]; exact hj
  refine ⟨(spreadL bs)[j], List.getElem?_eq_getElem hj', ?_⟩
  have := congrArg (fun l => l[j]?) r3
  simp only [List.getElem?_take, if_pos hj, List.getElem?_map, List.getElem?_eq_getElem hj', Option.map_some] at this
  simpa using this
 have hn := below_newW hb
 have hrl : ((spreadL bs).map fun b => [DV.int .i64 b]).length = 8 * bs.length := by rw [List.length_map, spreadL_len]
 refine ⟨_, fun b o => Im b o ∨ (b = w.heap.size ∧ o < 8 * bs.length), rfl, hb, fun b o h => .inl h, fun b o h => ?_, ?_⟩
 ·rcases h with h | ⟨rfl, h⟩
  ·exact .inl h
  ·obtain ⟨u, h1, h2⟩ := hcurl o h
   exact .inr ⟨Nat.le_refl _, .int .i64 u, by simp [World.cell?, r1, h2]⟩
 ·rw [← hrl]
  refine .d (.slice _ ⟨w.heap.size, 0, none⟩ cap' 1 (fun j => .int .i64 ((spreadL bs).getD j 0)) (fun r hr => by obtain ⟨b, _, rfl⟩ := List.mem_map.1 hr; rfl) (by rw [hrl]; exact r4) (fun _ => rfl) (fun j hj => ?_) (fun j hj => ?_) (fun i j r x hi hj => ?_))
  ·rw [hrl, Nat.mul_one] at hj
   obtain ⟨u, h1, h2⟩ := hcurl j hj
   simp [World.cell?, r1, h2, List.getD, h1]
  ·rw [hrl, Nat.mul_one] at hj
   exact .inr ⟨rfl, by simp [spreadL_len]; omega⟩
  ·rw [List.getElem?_map] at hi
   cases hs : (spreadL bs)[i]? with
   | none => rw [hs] at hi; cases hi
   | some u =>
    rw [hs] at hi
    simp at hi
    subst hi
    cases j with
    | succ j => simp at hj
    | zero =>
     simp at hj
     subst hj
     simp only [Nat.mul_one, Nat.add_zero, List.getD, hs, Option.getD_some]
     exact .int _ _
end Go.Proofs

namespace Go.Pv
open Go Go.RowKit
theorem RepArgs.dataArg {w : World} {Im : ImT} {β : List Nat} {rows : List (List DV)} {v : Value} (h : RepArgs w Im β [.d (.slice rows)] #[v]) : RepD w Im (.slice rows) v := (h.2 0 _ v rfl rfl).1.slice_inv
theorem call_runW {E : Env} {f : FuncId} {fn : Func} {c : Code} {args : List PV} {σ : Store} {v : PV} (m : Nat) (hg : E.good f = true) (ho : E.ov f = none) (hp : E.pure f = true) (hf : E.P.funcs[f]? = some fn) (hb : fn.body = some c) (hd : isDataL args = true)
    (h : ((evCode (E.at f) (evI E) m c ⟨args ++ List.replicate (fn.ntmps - args.length) .undef, []⟩).bind fun r => if r.1 = .normal ∨ r.1 = .ret then (resVal E.P fn r.2).bind fun u => if u.isData then some u else frzP r.2.store (r.2.store.length + 1) u else none) = some v)
    (hx : E.ext E.loose f = none := by rfl) : callIt E (evI E) f args σ = some (v, σ) := by
  cases hc : evCode (E.at f) (evI E) m c ⟨args ++ List.replicate (fn.ntmps - args.length) .undef, []⟩ with
  | none => simp [hc] at h
  | some r =>
    obtain ⟨e, st'⟩ := r
    simp only [hc, Option.bind_some] at h
    split at h
    · rename_i he
      cases hr : resVal E.P fn st' with
      | none => simp [hr] at h
      | some u =>
        simp only [hr, Option.bind_some] at h
        have := evI_introW (σ := []) m hg hf hb hc he (fun _ => by simp) hr
        split at h
        · rename_i hu
          cases h
          simp [callIt, hx, ho, hp, hd, this, hu]
        · rename_i hu
          simp [callIt, hx, ho, hp, hd, this, hu, h]
    · cases h
theorem call_runF {E : Env} {f : FuncId} {fn : Func} {c : Code} {args : List PV} {σ : Store} {v : PV} (m : Nat) (hg : E.good f = true) (ho : E.ov f = none) (hp : E.pure f = true) (hf : E.P.funcs[f]? = some fn) (hb : fn.body = some c) (hd : isDataL args = true)
    (h : ((evCode E (evI E) m c ⟨args ++ List.replicate (fn.ntmps - args.length) .undef, []⟩).bind fun r => if r.1 = .normal ∨ r.1 = .ret then (resVal E.P fn r.2).bind fun u => if u.isData then some u else frzP r.2.store (r.2.store.length + 1) u else none) = some v)
    (hw : E.wild f = false := by rfl) (hx : E.ext E.loose f = none := by rfl) : callIt E (evI E) f args σ = some (v, σ) :=
  call_runW m hg ho hp hf hb hd (by rw [Env.at_firm hw]; exact h) hx
theorem made_ok {w w' : World} {Im : ImT} {O : OwT} {β : List Nat} {σ : Store} {rows : List (List DV)} {sz g cap : Nat} {cur : Array Value} {e : TypeId} (hg : Good w Im O β σ) (hb : Below w.heap.size w w') (hok : rowsOk sz rows = true)
    (hge : w.heap.size ≤ g) (hobj : w'.heap[g]? = some (.cells cur e (0, 0))) (hcap : rows.length ≤ cap) (hcs : rows.length * sz ≤ cur.size) (hrep : ∀ i j r d, rows[i]? = some r → r[j]? = some d → ∃ u, cur[i * sz + j]? = some u ∧ RepD w Im d u) :
    ∃ O' β', Fr w Im O w' Im O' ∧ Ext β β' ∧ Good w' Im O' β' (σ ++ [flatD rows]) ∧ RepP w' Im β' (.ms σ.length 0 rows.length sz) (.slice (some ⟨g, 0, none⟩) rows.length cap) := by
  have hn : NewW w w' := ⟨⟨hb.os, hb.tape, hb.output⟩, hb.size, hb.block⟩
  obtain ⟨g1, g2, g3⟩ := hg.newW (Im' := Im) hn (fun _ _ h => h) (fun _ _ h => .inl h)
  have hOn : O g = none := by
    cases hO : O g with
    | none => rfl
    | some l => exact absurd (hg.lim g (by rw [hO]; simp)) (by omega)
  obtain ⟨f1, f2⟩ := flatD_get hok
  have hExt : Ext β (β ++ [g]) := fun id b h => by rw [List.getElem?_append_left (List.getElem?_eq_some_iff.1 h).1]; exact h
  have hO' : ∀ (b : Nat) (l : Loc), O b = some l → (fun b => if b = g then some (Loc.box σ.length) else O b) b = some l := by
    intro b l hl
    show (if b = g then some (Loc.box σ.length) else O b) = some l
    rw [if_neg (fun h => by subst h; rw [hOn] at hl; cases hl)]
    exact hl
  refine ⟨fun b => if b = g then some (.box σ.length) else O b, β ++ [g], ⟨g2.env, g2.size, fun b hb ho => g2.same b hb ho, g2.keep, fun b o hb => g2.new b o hb, fun b hb ho => ?_⟩, hExt, ⟨by simp [g1.len], ?_, g1.im, ?_, ?_⟩, .ms _ 0 _ _ g cap _ (by rw [← g1.len, List.getElem?_concat_length]) hcap (fun _ => rfl)⟩
  · show (if b = g then some (Loc.box σ.length) else O b) = none
    rw [if_neg (by omega)]
    exact ho
  · intro id b cs' hb' hc'
    by_cases hid : id < σ.length
    · rw [List.getElem?_append_left (by have := g1.len; omega)] at hb'
      rw [List.getElem?_append_left hid] at hc'
      obtain ⟨h1, cs, e, h2, h3, h4⟩ := g1.box id b cs' hb' hc'
      refine ⟨hO' _ _ h1, cs, e, h2, h3, fun j p v hp hv => ?_⟩
      obtain ⟨k1, k2, k3⟩ := h4 j p v hp hv
      exact ⟨k1.keep (.refl _ _) hExt, k2.mono fun b hb => ⟨hO' _ _ hb, rfl, fun _ h => h⟩, k3⟩
    · have hl := g1.len
      have hid' : id = σ.length := by
        have := (List.getElem?_eq_some_iff.1 hc').1
        simp at this
        omega
      subst hid'
      rw [← hl, List.getElem?_concat_length] at hb'
      rw [List.getElem?_concat_length] at hc'
      cases hb'; cases hc'
      refine ⟨by simp, cur, e, hobj, by rw [f1]; exact hcs, fun j p u hp hu => ?_⟩
      obtain ⟨i, k, r, d, e1, e2, e3, rfl⟩ := f2 j p hp
      obtain ⟨u', h1, h2⟩ := hrep i k r d e1 e2
      rw [← e3, hu] at h1
      cases h1
      exact ⟨.d (h2.keep g2.keep), .of_not (by simp), trivial⟩
  · intro b o hb' id ho
    replace ho : (if b = g then some (Loc.box σ.length) else O b) = some (.box id) := ho
    split at ho
    · rename_i he
      subst he
      exact absurd (hg.im.lt hb') (by omega)
    · exact g1.box' b o hb' id ho
  · intro b hb'
    replace hb' : (if b = g then some (Loc.box σ.length) else O b) ≠ none := hb'
    split at hb'
    · rename_i he; subst he; exact (Array.getElem?_eq_some_iff.1 hobj).1
    · exact g1.lim b hb'
end Go.Pv
namespace Go.Proofs
open Go.Shelf Go.RowKit Go.Lib Go.Pv
variable {P : Program} {ρ : Ren}
theorem clone_ms (L : SlLaysE0.n41 P ρ) (i0 : TypeInfo) (z : Value) (size bytes : Nat) (hi : P.info? (ρ.t 23) = some i0) (hz0 : i0.zero = some z) (hz1 : i0.size = size) (hz2 : i0.bytes = bytes) (hzs : z.cells.size = size) (hsz : 0 < size)
    (z23 : ∀ w, (Go.sizeOf (ρ.t 23)).run P w = .ok size w) (rows : List (List DV)) (hne : rows ≠ []) (hok : rowsOk size rows = true) (hroom : rows.length * bytes ≤ roomB) (hmax : rows.length ≤ maxLen) (σ : Store) :
    CallOk P (ρ.f 41) [.d (.slice rows)] σ (.ms σ.length 0 rows.length size) (σ ++ [flatD rows]) := by
  have hcall : Callable P (ρ.f 41) := by
    obtain ⟨nm, h1, FG⟩ := L.f41
    exact ⟨_, FG, rfl, by simpa using h1⟩
  refine ⟨hcall, fun w Im O β vs hg hO hargs => ?_⟩
  obtain ⟨v, rfl⟩ : ∃ v, vs = #[v] := by
    match vs, hargs.1 with
    | ⟨[v]⟩, _ => exact ⟨v, rfl⟩
  have hd := hargs.dataArg
  cases hd with
  | nil => exact absurd rfl hne
  | slice _ a c sz cv h1 h2 h3 h4 h5 h6 =>
    have hd : RepD w Im (.slice rows) (.slice (some a) rows.length c) := .slice rows a c sz cv h1 h2 h3 h4 h5 h6
    obtain ⟨_, k2, _, news, n1, n2, n3, n4, n5, n6⟩ := rows_values hd hok
    have hpos : 0 < rows.length := List.length_pos_iff.2 hne
    have hspot : a.spot = none := n3 a rfl (Nat.mul_ne_zero (by omega) (by omega))
    obtain ⟨b, off, sp⟩ := a
    simp only at hspot
    subst hspot
    refine (AnyE.slices_Clone L i0 z size bytes hi hz0 hz1 hz2 hzs hsz z23 b off rows.length c news w n1 hmax (by simp only [roomB] at hroom; omega) (fun j u hu => by have := n2 _ rfl j u hu; rwa [Addr.add_none rfl] at this) n6).mono ?_
    rintro e w' ⟨v', rfl, ⟨r1, r2⟩, _, hb⟩
    rcases r2 with ⟨_, h0⟩ | ⟨g, cap, cur, rfl, hge, hobj, hcap, hmx, hcs, htk⟩
    · omega
    · obtain ⟨O', β', q1, q2, q3, q4⟩ := made_ok (cap := cap) hg hb hok hge hobj hcap (by rw [hcs]; exact Nat.mul_le_mul_right _ hcap) (fun i j r d e1 e2 => by
        obtain ⟨u, u1, u2⟩ := n5 i j r d e1 e2
        refine ⟨u, ?_, u2⟩
        have := (List.getElem?_eq_some_iff.1 u1).1
        rw [← htk, List.getElem?_take] at u1
        rw [n1] at this
        rw [if_pos this] at u1
        simpa using u1)
      exact ⟨_, Im, O', β', 0, rfl, q1, q2, q3, q4, .of_not (by simp)⟩
end Go.Proofs
namespace Go.Pv
open Go
theorem loop_inv {step : St → Option (Ex × St)} (I : Nat → St → Prop) (Q : Ex × St → Prop) (N : Nat)
    (hstep : ∀ i st, i < N → I i st → Lp (step st) fun r => (r.1 = .normal ∧ I (i + 1) r.2) ∨ (r.1 ≠ .normal ∧ Q r))
    (hend : ∀ st, I N st → Lp (step st) fun r => r.1 ≠ .normal ∧ Q r) : ∀ k i st, i ≤ N → N < i + k → I i st → Lp (loopN step k st) Q := by
  intro k
  induction k with
  | zero => intros; omega
  | succ k ih =>
    intro i st h1 h2 hI
    by_cases hi : i < N
    · obtain ⟨⟨e, st'⟩, h3, h4⟩ := hstep i st hi hI
      simp only [loopN, h3, Option.bind_some]
      rcases h4 with ⟨h5, h6⟩ | ⟨h5, h6⟩
      · simp only at h5
        subst h5
        exact ih (i + 1) st' (by omega) (by omega) h6
      · simp only at h5
        cases e with
        | normal => exact absurd rfl h5
        | exit id => exact ⟨_, rfl, h6⟩
        | ret => exact ⟨_, rfl, h6⟩
    · obtain rfl : i = N := by omega
      obtain ⟨⟨e, st'⟩, h3, h5, h6⟩ := hend st hI
      simp only [loopN, h3, Option.bind_some]
      simp only at h5
      cases e with
      | normal => exact absurd rfl h5
      | exit id => exact ⟨_, rfl, h6⟩
      | ret => exact ⟨_, rfl, h6⟩
def loopsAll : Code → List Code
  | .seq a b => loopsAll a ++ loopsAll b
  | .block _ b => loopsAll b
  | .loop b => b :: loopsAll b
  | .cond _ a b => loopsAll a ++ loopsAll b
  | .scope b => loopsAll b
  | _ => []
def theLoop (fn : Func) (j : Nat) : Code := ((fn.body.map loopsAll).bind fun l => l[j]?).getD .skip
end Go.Pv

set_option maxRecDepth 100000
namespace Go.Proofs
open Go.Shelf Go.RowKit Go.Lib Go.Pv
def renN : Ren := { f := fun n => if n = 41 then 97 else n, t := fun n => if n = 23 then 49 else if n = 22 then 22 else if n = 4 then 4 else n, g := id }
theorem Tryz.laysCN : SlLaysE0.n41 Tryz.prog renN where
 mixed := Tryz.mixed
 f41 := ⟨"slices.Clone[[]phaeton/api.Node,phaeton/api.Node]", by decide, by kernel_rfl⟩
 t4 := Tryz.underlying4
 a4 := Tryz.isAgg4
 z4 := Tryz.sizeOf4
 v4 := Tryz.zeroValue4
 t22 := Tryz.underlying22
 a22 := Tryz.isAgg22
 z22 := Tryz.sizeOf22
 v22 := Tryz.zeroValue22
theorem Tryz.infoN : (Tryz.prog.info? 49).map (fun i => (i.zero, i.size, i.bytes)) = some (some (.agg #[.slice none 0 0, .slice none 0 0, .int .i64 0, .int .i64 0, .int .i64 0, .int .i64 0, .slice none 0 0]), 7, 104) := by kernel_rfl
theorem Tryz.cloneN (rows : List (List DV)) (hok : rowsOk 7 rows = true) (hroom : rows.length * 104 ≤ roomB) : CallOk Tryz.prog 97 [.d (.slice rows)] [] (acc rows) [] := by
 obtain ⟨i, h1, h2, h3, h4⟩ := info_parts3 Tryz.infoN
 exact clone_ok Tryz.laysCN i _ 7 104 h1 h2 h3 h4 (by rfl) (by decide) Tryz.sizeOf49 rows hok hroom (by simp only [roomB] at hroom; simp only [maxLen]; omega)
theorem Tryz.cloneMsN (rows : List (List DV)) (hne : rows ≠ []) (hok : rowsOk 7 rows = true) (hroom : rows.length * 104 ≤ roomB) (σ : Store) : CallOk Tryz.prog 97 [.d (.slice rows)] σ (.ms σ.length 0 rows.length 7) (σ ++ [flatD rows]) := by
 obtain ⟨i, h1, h2, h3, h4⟩ := info_parts3 Tryz.infoN
 exact clone_ms Tryz.laysCN i _ 7 104 h1 h2 h3 h4 (by rfl) (by decide) Tryz.sizeOf49 rows hne hok hroom (by simp only [roomB] at hroom; simp only [maxLen]; omega) σ
def renM : Ren := { f := fun n => if n = 41 then 156 else n, t := fun n => if n = 23 then 22 else if n = 22 then 66 else if n = 4 then 4 else n, g := id }
theorem Tryz.laysCM : SlLaysE0.n41 Tryz.prog renM where
 mixed := Tryz.mixed
 f41 := ⟨"slices.Clone[[][]phaeton/api.Node,[]phaeton/api.Node]", by decide, by kernel_rfl⟩
 t4 := Tryz.underlying4
 a4 := Tryz.isAgg4
 z4 := Tryz.sizeOf4
 v4 := Tryz.zeroValue4
 t22 := Tryz.underlying66
 a22 := Tryz.isAgg66
 z22 := Tryz.sizeOf66
 v22 := Tryz.zeroValue66
theorem Tryz.infoM : (Tryz.prog.info? 22).map (fun i => (i.zero, i.size, i.bytes)) = some (some (.slice none 0 0), 1, 24) := by kernel_rfl
theorem Tryz.cloneM (rows : List (List DV)) (hok : rowsOk 1 rows = true) (hroom : rows.length * 24 ≤ roomB) : CallOk Tryz.prog 156 [.d (.slice rows)] [] (acc rows) [] := by
 obtain ⟨i, h1, h2, h3, h4⟩ := info_parts3 Tryz.infoM
 exact clone_ok Tryz.laysCM i _ 1 24 h1 h2 h3 h4 (by rfl) (by decide) Tryz.sizeOf22 rows hok hroom (by simp only [roomB] at hroom; simp only [maxLen]; omega)
theorem Tryz.cloneMsM (rows : List (List DV)) (hne : rows ≠ []) (hok : rowsOk 1 rows = true) (hroom : rows.length * 24 ≤ roomB) (σ : Store) : CallOk Tryz.prog 156 [.d (.slice rows)] σ (.ms σ.length 0 rows.length 1) (σ ++ [flatD rows]) := by
 obtain ⟨i, h1, h2, h3, h4⟩ := info_parts3 Tryz.infoM
 exact clone_ms Tryz.laysCM i _ 1 24 h1 h2 h3 h4 (by rfl) (by decide) Tryz.sizeOf22 rows hne hok hroom (by simp only [roomB] at hroom; simp only [maxLen]; omega) σ
def extClone (sz b : Nat) : List PV → Store → Option (PV × Store)
 | [.d (.slice (r :: rs))], σ => if rowsOk sz (r :: rs) && decide ((r :: rs).length * b ≤ roomB) then some (.ms σ.length 0 (r :: rs).length sz, σ ++ [flatD (r :: rs)]) else none
 | _, _ => none
theorem extClone_ok {P : Program} {f : FuncId} {sz b : Nat} (h : ∀ (rows : List (List DV)), rows ≠ [] → rowsOk sz rows = true → rows.length * b ≤ roomB → ∀ σ : Store, CallOk P f [.d (.slice rows)] σ (.ms σ.length 0 rows.length sz) (σ ++ [flatD rows]))
  {args : List PV} {σ : Store} {r : PV × Store} (hr : extClone sz b args σ = some r) : CallOk P f args σ r.1 r.2 ∧ EldTo σ r.2 := by
 unfold extClone at hr
 split at hr
 ·split at hr
  ·rename_i hc
   cases hr
   simp only [Bool.and_eq_true, decide_eq_true_eq] at hc
   exact ⟨h _ (by simp) hc.1 hc.2 σ, .append _ _⟩
  ·cases hr
 ·cases hr
end Go.Proofs

set_option maxRecDepth 100000
namespace Go.Proofs
open Go.RowKit Go.Shelf Go.Pv
def ovClone (sz b : Nat) : List PV → Option PV
 | [.d (.slice rows)] => if rowsOk sz rows && decide (rows.length * b ≤ roomB) then some (acc rows) else none
 | _ => none
def ovWithout : List PV → Option PV
 | [.d (.slice rows), .d (.int .i64 i)] => if rowsOk 5 rows && decide (rows.length * 56 ≤ roomB) && decide (0 ≤ i) && decide (i.toNat < rows.length) then some (.d (.slice (rows.eraseIdx i.toNat))) else none
 | _ => none
def ovStep : List PV → Option PV
 | [.agg [.d (.int .i64 t), .d (.int .i64 r), .d (.int .i64 s), .d (.int .i64 q)], .d (.int .i64 what)] =>
  if decide (0 ≤ t ∧ t ≤ 900) && decide (0 ≤ r ∧ r ≤ 900) && decide (0 ≤ q ∧ q ≤ 900) && decide (1 ≤ what ∧ what ≤ 6) then some (stepV t r s q what) else none
 | _ => none
def ovPut : List PV → Option PV
 | [.d (.int .i64 v), .d (.int .i64 m)] => if decide (0 ≤ m ∧ m ≤ 32) && decide (0 ≤ v ∧ v < 2 ^ m.toNat) then some (.tup [.d (.slice (bitRows v m.toNat)), .d (.bool true)]) else none
 | _ => none
theorem bytesOf_rows {rows : List (List DV)} {xs : List Int} (h : bytesOfRows rows = some xs) : rows = xs.map fun b => [DV.int .u8 b] := by
 obtain ⟨h1, h2⟩ := bytesOfRows_get h
 apply List.ext_getElem?
 intro i
 rw [List.getElem?_map]
 by_cases hi : i < xs.length
 ·rw [h2 i xs[i] (List.getElem?_eq_getElem hi), List.getElem?_eq_getElem hi]; rfl
 ·rw [List.getElem?_eq_none (by omega), List.getElem?_eq_none (by omega)]; rfl
def ovSpread : List PV → Option PV
 | [.d (.slice rows)] => (bytesOfRows rows).bind fun xs => if decide (xs.length ≤ 2 ^ 40) && xs.all (fun x => decide (0 ≤ x ∧ x < 256)) then some (.d (.slice ((spreadL xs).map fun b => [.int .i64 b]))) else none
 | _ => none
def ovAll (f : FuncId) : Option (List PV → Option PV) :=
 if f = 126 then some (ovClone 3 24) else
 if f = 175 then some (ovClone 5 56) else if f = 144 then some ovWithout else if f = 139 then some ovStep else if f = 188 then some ovPut else if f = 213 then some ovSpread else
 if f = 97 then some (ovClone 7 104) else if f = 156 then some (ovClone 1 24) else
 none
def extAll (b : Bool) (f : FuncId) : Option (List PV → Store → Option (PV × Store)) :=
 if b = true ∧ f = 97 then some (extClone 7 104) else if b = true ∧ f = 156 then some (extClone 1 24) else
 none
noncomputable def E1 : Env := { P := Tryz.prog, good := goodF, pure := pureF, ov := ovAll, ro := roF, apart := apF, alt := altF, ext := extAll, wild := wildF, mkf := mkF }
theorem ovAll_ok : OvOk E1 := by
 refine ⟨?_, fun b f g hg => ?_⟩
 case refine_2 =>
  intro args σ r hr
  replace hg : extAll b f = some g := hg
  unfold extAll at hg
  split at hg
  ·rename_i h; obtain ⟨rfl, rfl⟩ := h; cases hg; exact extClone_ok Tryz.cloneMsN hr
  split at hg
  ·rename_i h; obtain ⟨rfl, rfl⟩ := h; cases hg; exact extClone_ok Tryz.cloneMsM hr
  cases hg
 intro f g hg args res hres hd hrd
 replace hg : ovAll f = some g := hg
 unfold ovAll at hg
 split at hg
 ·rename_i h; subst h; cases hg
  unfold ovClone at hres
  split at hres
  ·split at hres
   ·rename_i hc; cases hres
    simp only [Bool.and_eq_true, decide_eq_true_eq] at hc
    exact Tryz.cloneT _ hc.1 hc.2
   ·cases hres
  ·cases hres
 split at hg
 ·rename_i h; subst h; cases hg
  unfold ovClone at hres
  split at hres
  ·split at hres
   ·rename_i hc; cases hres
    simp only [Bool.and_eq_true, decide_eq_true_eq] at hc
    exact Tryz.cloneF _ hc.1 hc.2
   ·cases hres
  ·cases hres
 split at hg
 ·rename_i h; subst h; cases hg
  unfold ovWithout at hres
  split at hres
  ·split at hres
   ·rename_i i hc; cases hres
    simp only [Bool.and_eq_true, decide_eq_true_eq] at hc
    have := Tryz.withoutF _ i.toNat hc.1.1.1 hc.1.1.2 hc.2
    rwa [Int.toNat_of_nonneg hc.1.2] at this
   ·cases hres
  ·cases hres
 split at hg
 ·rename_i h; subst h; cases hg
  unfold ovStep at hres
  split at hres
  ·split at hres
   ·rename_i hc; cases hres
    simp only [Bool.and_eq_true, decide_eq_true_eq] at hc
    exact Tryz.stepOk _ _ _ _ _ hc.1.1.1 hc.1.1.2 hc.1.2 hc.2
   ·cases hres
  ·cases hres
 split at hg
 ·rename_i h; subst h; cases hg
  unfold ovPut at hres
  split at hres
  ·split at hres
   ·rename_i m hc; cases hres
    simp only [Bool.and_eq_true, decide_eq_true_eq] at hc
    have := Tryz.putOk _ m.toNat (by omega) hc.2
    rwa [Int.toNat_of_nonneg hc.1.1] at this
   ·cases hres
  ·cases hres
 split at hg
 ·rename_i h; subst h; cases hg
  unfold ovSpread at hres
  split at hres
  ·rename_i rows
   cases hx : bytesOfRows rows with
   | none => simp [hx] at hres
   | some xs =>
    simp only [hx, Option.bind_some] at hres
    split at hres
    ·rename_i hc
     cases hres
     simp only [Bool.and_eq_true, decide_eq_true_eq, List.all_eq_true] at hc
     rw [bytesOf_rows hx]
     exact Tryz.spreadOk xs hc.1 hc.2
    ·cases hres
  ·cases hres
 split at hg
 ·rename_i h; subst h; cases hg
  unfold ovClone at hres
  split at hres
  ·split at hres
   ·rename_i hc; cases hres
    simp only [Bool.and_eq_true, decide_eq_true_eq] at hc
    exact Tryz.cloneN _ hc.1 hc.2
   ·cases hres
  ·cases hres
 split at hg
 ·rename_i h; subst h; cases hg
  unfold ovClone at hres
  split at hres
  ·split at hres
   ·rename_i hc; cases hres
    simp only [Bool.and_eq_true, decide_eq_true_eq] at hc
    exact Tryz.cloneM _ hc.1 hc.2
   ·cases hres
  ·cases hres
 cases hg
theorem E1_ok : EnvOk E1 := envOk_of (n := nFn) Tryz.mixed goodF_lt (by kernel_rfl) ovAll_ok
end Go.Proofs

set_option maxRecDepth 100000
set_option maxHeartbeats 4000000
namespace Go.Proofs
open Go.RowKit Go.Shelf Go.Pv
@[simp] theorem E1x (b : Bool) (f : FuncId) : E1.ext b f = extAll b f := rfl
@[simp] theorem extF (f : FuncId) : extAll false f = none := by simp [extAll]
@[simp] theorem E1lo : E1.loose = false := rfl
@[simp] theorem E1w (f : FuncId) : E1.wild f = wildF f := rfl
@[simp] theorem E1mk (d : Option Tmp) : mkSel E1 d = false := by cases d <;> rfl
@[simp] theorem E1al (p : String) (n : Nat) : E1.alt p n = altF p n := rfl
theorem E1P : E1.P = Tryz.prog := rfl
theorem E1ov (f : FuncId) : E1.ov f = ovAll f := rfl
theorem E1ap (p : String) : E1.apart p = apF p := rfl
noncomputable def E2 (f : FuncId) : Env := { E1 with loose := true, mks := mkF f }
theorem E1at (f : FuncId) (h : wildF f = true) : E1.at f = E2 f := by
 unfold Env.at
 rw [if_pos (show E1.wild f = true from h)]
 rfl
section
variable (f g : FuncId)
@[simp] theorem E2P : (E2 f).P = Tryz.prog := rfl
@[simp] theorem E2lo : (E2 f).loose = true := rfl
@[simp] theorem E2ap (p : String) : (E2 f).apart p = apF p := rfl
@[simp] theorem E2al (p : String) (n : Nat) : (E2 f).alt p n = altF p n := rfl
@[simp] theorem E2mk0 : mkSel (E2 f) none = false := rfl
@[simp] theorem E2mk (d : Nat) : mkSel (E2 f) (some d) = (mkF f).contains d := rfl
@[simp] theorem extNone : (extAll true g).isNone = 
 !(g == 97 || g == 156)
 := by
 unfold extAll
 by_cases h1 : g = 97
 ·simp [h1]
 ·by_cases h2 : g = 156
  ·simp [h2]
  ·simp [h1, h2]
@[simp] theorem E2call (F : FnEv) (args : List PV) (σ : Store) (h : (extAll true g).isNone = true) : callIt (E2 f) F g args σ = callIt E1 F g args σ := by
 have h1 : extAll true g = none := Option.isNone_iff_eq_none.1 h
 have h2 : (E2 f).ext (E2 f).loose g = none := h1
 have h3 : E1.ext E1.loose g = none := extF g
 unfold callIt
 rw [h2, h3]
 rfl
end
theorem call_run2 {f : FuncId} {fn : Func} {c : Code} {args : List PV} {σ : Store} {v : PV} (m : Nat) (hw : wildF f = true) (hg : E1.good f = true) (ho : E1.ov f = none) (hp : E1.pure f = true) (hf : E1.P.funcs[f]? = some fn) (hb : fn.body = some c) (hd : isDataL args = true)
  (h : ((evCode (E2 f) (evI E1) m c ⟨args ++ List.replicate (fn.ntmps - args.length) .undef, []⟩).bind fun r => if r.1 = .normal ∨ r.1 = .ret then (resVal E1.P fn r.2).bind fun u => if u.isData then some u else frzP r.2.store (r.2.store.length + 1) u else none) = some v) : callIt E1 (evI E1) f args σ = some (v, σ) :=
 call_runW m hg ho hp hf hb hd (by rw [E1at f hw]; exact h)
def frD (e : Bool) (id : Int) (rm : Bool) (ln : Int) (rows : List (List DV)) : List DV := [.bool e, .int .i64 id, .bool rm, .int .i64 ln, .slice rows]
def frP (e : Bool) (id : Int) (rm : Bool) (ln : Int) (rows : List (List DV)) : PV := .agg [.d (.bool e), .d (.int .i64 id), .d (.bool rm), .d (.int .i64 ln), .d (.slice rows)]
def frRight (e : Bool) (id : Int) (rm : Bool) (ln : Int) (rows : List (List DV)) : Bool :=
 (id.fdiv (2 ^ (if e then 29 else 11)) == 0) && decide (0 ≤ ln) && decide (ln ≤ 8) && ((rows.length : Int) == if rm then 0 else ln)
theorem Tryz.aggT34 : aggT Tryz.prog 34 = some true := by kernel_rfl
theorem Tryz.szT34 : szT Tryz.prog 34 = some 5 := by kernel_rfl
theorem Tryz.aggT4 : aggT Tryz.prog 4 = some false := by kernel_rfl
theorem Tryz.szT4 : szT Tryz.prog 4 = some 1 := by kernel_rfl
theorem Tryz.aggT32 : aggT Tryz.prog 32 = some false := by kernel_rfl
theorem Tryz.szT32 : szT Tryz.prog 32 = some 1 := by kernel_rfl
theorem acc_own (rows : List (List DV)) : ownRows (acc rows) = some rows := by cases rows <;> rfl
theorem acc_cells (rows : List (List DV)) : storedCells (acc rows) = [acc rows] := by cases rows <;> rfl
theorem acc_one (rows : List (List DV)) : oneP (acc rows) = true := by cases rows <;> rfl
theorem acc_below (n : Nat) (rows : List (List DV)) : (acc rows).isBelow n = true := by cases rows <;> rfl
theorem acc_strip (rows : List (List DV)) : (acc rows).strip = .d (.slice rows) := by cases rows <;> rfl
theorem acc_strip1 (rows : List (List DV)) : (acc rows).strip1 = .d (.slice rows) := by cases rows <;> rfl
theorem st_undef  : PV.strip (.undef) = .undef := rfl
theorem st1_undef  : PV.strip1 (.undef) = .undef := rfl
theorem k0_undef  : PV.keep0 (.undef) = .undef := rfl
theorem st_any  : PV.strip (.any) = .any := rfl
theorem st1_any  : PV.strip1 (.any) = .any := rfl
theorem k0_any  : PV.keep0 (.any) = .any := rfl
theorem st_d (x : DV) : PV.strip (.d x) = .d x := rfl
theorem st1_d (x : DV) : PV.strip1 (.d x) = .d x := rfl
theorem sc_d (x : DV) : storedCells (.d x) = [.d x] := rfl
theorem on_d (x : DV) : oneP (.d x) = true := rfl
theorem k0_d (x : DV) : PV.keep0 (.d x) = .d x := rfl
theorem st_ptr (i o : Nat) : PV.strip (.ptr i o) = .ptr i o := rfl
theorem st1_ptr (i o : Nat) : PV.strip1 (.ptr i o) = .ptr i o := rfl
theorem sc_ptr (i o : Nat) : storedCells (.ptr i o) = [.ptr i o] := rfl
theorem on_ptr (i o : Nat) : oneP (.ptr i o) = true := rfl
theorem k0_ptr (i o : Nat) : PV.keep0 (.ptr i o) = .ptr i o := rfl
theorem st_nilptr  : PV.strip (.nilptr) = .nilptr := rfl
theorem st1_nilptr  : PV.strip1 (.nilptr) = .nilptr := rfl
theorem sc_nilptr  : storedCells (.nilptr) = [.nilptr] := rfl
theorem on_nilptr  : oneP (.nilptr) = true := rfl
theorem k0_nilptr  : PV.keep0 (.nilptr) = .nilptr := rfl
theorem st_ro (c : List DV) : PV.strip (.ro c) = .ro c := rfl
theorem st1_ro (c : List DV) : PV.strip1 (.ro c) = .ro c := rfl
theorem sc_ro (c : List DV) : storedCells (.ro c) = [.ro c] := rfl
theorem on_ro (c : List DV) : oneP (.ro c) = true := rfl
theorem k0_ro (c : List DV) : PV.keep0 (.ro c) = .ro c := rfl
theorem st_func (f : Fn) (a c : List PV) : PV.strip (.func f a c) = .func f a c := rfl
theorem st1_func (f : Fn) (a c : List PV) : PV.strip1 (.func f a c) = .func f a c := rfl
theorem sc_func (f : Fn) (a c : List PV) : storedCells (.func f a c) = [.func f a c] := rfl
theorem on_func (f : Fn) (a c : List PV) : oneP (.func f a c) = true := rfl
theorem k0_func (f : Fn) (a c : List PV) : PV.keep0 (.func f a c) = .func f a c := rfl
theorem st_nilFunc  : PV.strip (.nilFunc) = .nilFunc := rfl
theorem st1_nilFunc  : PV.strip1 (.nilFunc) = .nilFunc := rfl
theorem sc_nilFunc  : storedCells (.nilFunc) = [.nilFunc] := rfl
theorem on_nilFunc  : oneP (.nilFunc) = true := rfl
theorem k0_nilFunc  : PV.keep0 (.nilFunc) = .nilFunc := rfl
theorem st_tup (v : List PV) : PV.strip (.tup v) = .tup v := rfl
theorem st1_tup (v : List PV) : PV.strip1 (.tup v) = .tup v := rfl
theorem st_agg (c : List PV) : PV.strip (.agg c) = .agg (c.map PV.strip1) := rfl
theorem sc_agg (c : List PV) : storedCells (.agg c) = c.map PV.keep0 := rfl
end Go.Proofs

