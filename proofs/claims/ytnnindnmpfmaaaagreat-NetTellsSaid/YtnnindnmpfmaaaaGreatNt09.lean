/- Arbitration: a race at its beginning and at its end; who wins; A line at its beginning; A slot begins: no one sends, or a line; Sums over bits; bits that are stuffed; how many bits a frame has; Bits stuffed; a frame's bits on the wire; A slot of the code: what each node takes from it; A slot of the code, whole; Nets: routes, hops, gateways, nets, in plain Lean; routes' functions of the code; Gateways, of the code: what waits, what is next, what is done; Gateways, of the code: one whose row of a bus is another one; Gateways, of the code: what is done; a frame goes in. -/
import Derived.Test.YtnnindnmpfmaaaaGreatNt08
set_option linter.unusedVariables false
set_option linter.unusedSimpArgs false
set_option maxRecDepth 100000
set_option maxHeartbeats 8000000
namespace Go.Proofs
open Go.RowKit Go.Shelf Go.Pv
def RT (n : Nat) (R : List (List Int)) (ins : List Bool) (lost : List Int) (J : Store) : Store :=
 lost.map intP :: ins.map boolP :: [acc (R.map rankD), .ms 1 0 n 1, .ms 0 0 n 1, .e0] :: J
theorem RT_RS (R : List (List Int)) (ins : List Bool) (lost : List Int) (J : Store) : RT R.length R ins lost J = RS R ins lost [] J := rfl
section rt
variable {n : Nat} {R : List (List Int)} {ins : List Bool} {lost : List Int} {J : Store}
theorem rt_app (x : List PV) : RT n R ins lost J ++ [x] = RT n R ins lost (J ++ [x]) := rfl
theorem rt_len : (RT n R ins lost J).length = J.length + 3 := rfl
theorem rt_last (x : List PV) : (RT n R ins lost (J ++ [x]))[J.length + 3]? = some x := by
 show ([lost.map intP, ins.map boolP, [acc (R.map rankD), .ms 1 0 n 1, .ms 0 0 n 1, .e0]] ++ (J ++ [x]))[J.length + 3]? = _
 rw [List.getElem?_append_right (by simp)]
 simp
theorem rt_load5 (a b c d e : PV) : loadS (RT n R ins lost (J ++ [[a, b, c, d, e]])) (J.length + 3) 0 5 = some [a, b, c, d, e] := by
 unfold loadS
 rw [rt_last]
 rfl
theorem rt_store5 (a b c d e a' b' c' d' e' : PV) : storeS (RT n R ins lost (J ++ [[a, b, c, d, e]])) (J.length + 3) 0 [a', b', c', d', e'] = some (RT n R ins lost (J ++ [[a', b', c', d', e']])) := by
 unfold storeS
 rw [rt_last]
 have : (RT n R ins lost (J ++ [[a, b, c, d, e]])).set (J.length + 3) [a', b', c', d', e'] = RT n R ins lost (J ++ [[a', b', c', d', e']]) := by
  show ([lost.map intP, ins.map boolP, [acc (R.map rankD), .ms 1 0 n 1, .ms 0 0 n 1, .e0]] ++ (J ++ [[a, b, c, d, e]])).set (J.length + 3) _ = _
  rw [List.set_append_right _ _ (by simp)]
  simp [RT, List.set_append_right]
 simp [this]
theorem rt_1 : loadS (RT n R ins lost J) 2 1 1 = some [.ms 1 0 n 1] := loadS_one rfl rfl
theorem rt_2 : loadS (RT n R ins lost J) 2 2 1 = some [.ms 0 0 n 1] := loadS_one rfl rfl
theorem rt_0 : loadS (RT n R ins lost J) 2 0 1 = some [acc (R.map rankD)] := loadS_one rfl rfl
theorem rt_set_in {i : Nat} (b : Bool) (h : i < ins.length) : storeS (RT n R ins lost J) 1 i [.d (.bool b)] = some (RT n R (ins.set i b) lost J) := by
 rw [storeS_one (cells := ins.map boolP) _ rfl (by simpa using h)]
 simp [RT, List.map_set, boolP]
theorem rt_set_lost {i : Nat} (x : Int) (h : i < lost.length) : storeS (RT n R ins lost J) 0 i [.d (.int .i64 x)] = some (RT n R ins (lost.set i x) J) := by
 rw [storeS_one (cells := lost.map intP) _ rfl (by simpa using h)]
 simp [RT, List.map_set, intP]
theorem rt_ranks (R' : List (List Int)) : ∃ X, storeS (RT n R ins lost J) 2 0 [.d (.slice (R.map rankD))] = some X ∧ (∀ id off k c, loadS (RT n R ins lost J) id off k = some c → id ≠ 2 → loadS X id off k = some c) ∧ storeS X 2 0 [acc (R'.map rankD)] = some (RT n R' ins lost J) := by
 refine ⟨_, storeS_one _ rfl (by simp), fun id off k c hc hne => ?_, ?_⟩
 ·unfold loadS at hc ⊢
  rw [List.getElem?_set, if_neg (Ne.symm hne)]
  exact hc
 ·rw [storeS_one (cells := [.d (.slice (R.map rankD)), .ms 1 0 n 1, .ms 0 0 n 1, .e0]) _ rfl (by simp)]
  rfl
end rt
theorem appR (rows xs : List (List DV)) (h : rowsOk 1 rows = true) (h' : rowsOk 1 xs = true) (hb : (rows.length + xs.length) * 24 ≤ roomB) : evAppend Tryz.prog 199 (acc rows) (.d (.slice xs)) = some (acc (rows ++ xs)) := by
 unfold evAppend
 rw [Ty.app199]
 simp only [Option.bind_some, acc_own, elemsOf, h, h', Bool.true_and, hb, decide_true, if_true]
theorem rowsOk_rank (R : List (List Int)) : rowsOk 1 (R.map rankD) = true := rowsOk_map (D := rankD) (fun _ => rfl) R
theorem l_start (m : Nat) (l : List Fr) (hr : ∀ x ∈ l, x.right = true) (hl : l.length ≤ 1000000) (ins : List Bool) (hi0 : ins.length = l.length) (lost : List Int) (hlo : lost.length = l.length) (S : List PV) (hS : S.length = 50) (h3 : rd S 3 = .ptr 2 0) (h18 : rd S 18 = .d (.slice (l.map Fr.D))) (h19 : rd S 19 = .d (.int .i64 l.length))
  (h20 : rd S 20 = .d (.int .i64 0)) (k : Nat) (hk : l.length < k) :
  Lp (loopN (evCode E1 (evI E1) m (theLoop Tryz.f205 0)) k ⟨S, RT l.length [] ins lost []⟩) fun r => ∃ (lost' : List Int) (J : Store) (S' : List PV), r = (.exit 0, ⟨S', RT l.length (l.map Fr.rank) (List.replicate l.length true) lost' J⟩) ∧ S'.length = 50 ∧ lost'.length = l.length ∧ rd S' 3 = .ptr 2 0 := by
 refine loop_inv (fun i st => ∃ (lost : List Int) (J : Store) (S : List PV), st = ⟨S, RT l.length ((l.take i).map Fr.rank) (List.replicate i true ++ ins.drop i) lost J⟩ ∧ S.length = 50 ∧ lost.length = l.length ∧ rd S 3 = .ptr 2 0 ∧ rd S 18 = .d (.slice (l.map Fr.D)) ∧ rd S 19 = .d (.int .i64 l.length) ∧ rd S 20 = .d (.int .i64 i)) _ l.length ?_ ?_ k 0 _ (by omega) (by omega)
  ⟨lost, [], S, by simp, hS, hlo, h3, h18, h19, h20⟩
 ·rintro i st hi ⟨lost, J, S, rfl, hS, hlo, h3, h18, h19, h20⟩
  have hx : l[i]? = some l[i] := List.getElem?_eq_getElem hi
  have hrk := fun σ => b_rank l[i] (hr _ (List.getElem_mem hi)) σ
  have htk : (l.take (i + 1)).map Fr.rank = (l.take i).map Fr.rank ++ [l[i].rank] := by rw [List.take_add_one, hx, List.map_append]; rfl
  have hap := appR (((l.take i).map Fr.rank).map rankD) [rankD l[i].rank] (rowsOk_rank _) rfl (by simp [roomB]; omega)
  have hre : ((l.take i).map Fr.rank).map rankD ++ [rankD l[i].rank] = ((l.take (i + 1)).map Fr.rank).map rankD := by rw [htk]; simp
  rw [hre] at hap
  have hset : (List.replicate i true ++ ins.drop i).set i true = List.replicate (i + 1) true ++ ins.drop (i + 1) := by
   have hd : ins.drop i = ins[i]'(by omega) :: ins.drop (i + 1) := List.drop_eq_getElem_cons (by omega)
   rw [List.set_append_right _ _ (by simp), show i - (List.replicate i true).length = 0 by simp, hd, List.replicate_succ']
   simp only [List.set_cons_zero, List.append_assoc, List.singleton_append]
  have hil : i < (List.replicate i true ++ ins.drop i).length := by simp; omega
  generalize (l.take (i + 1)).map Fr.rank = R1 at hap ⊢
  generalize (l.take i).map Fr.rank = R0 at hap ⊢
  generalize hxi : l[i] = x at hx hrk hap
  have hlt : (i : Int) < (l.length : Int) := by omega
  obtain ⟨X, x1, x3, x2⟩ := @rt_ranks l.length R0 (List.replicate i true ++ ins.drop i) lost (J ++ [cellsOf x.P]) R1
  have xl := x3 _ _ _ _ (rt_load5 (.d (.bool x.e)) (.d (.int .i64 x.id)) (.d (.bool x.rm)) (.d (.int .i64 x.ln)) (.d (.slice (x.data.map byD)))) (by omega)
  have s1 := @rt_set_lost l.length R1 (List.replicate i true ++ ins.drop i) lost (J ++ [cellsOf x.P]) i (-1) (by omega)
  have s2 := @rt_set_in l.length R1 (List.replicate i true ++ ins.drop i) (lost.set i (-1)) (J ++ [cellsOf x.P]) i true hil
  rw [hset] at s2
  generalize List.replicate (i + 1) true ++ ins.drop (i + 1) = B1 at s2 ⊢
  generalize List.replicate i true ++ ins.drop i = B0 at x1 x2 x3 xl s1 s2 ⊢
  simp only [cellsOf, Fr.P, rankD] at x1 x2 x3 xl s1 s2 hap
  simp at hrk
  simp [theLoop, Tryz.f205, loopsAll, Lp_some, and_assoc, -rd, rd_set, -loadS, -storeS, hS, h3, h18, h19, h20, hlt, hxi, wrap_succ i (by omega), rt_app, rt_len, rt_store5, rt_load5, rt_0, rt_1, rt_2, x1, x2, xl, hrk, rowsFrom, hap, s1, s2, hi]
  exact ⟨_, ⟨_, rfl⟩, by simp [hlo]⟩
 ·rintro st ⟨lost, J, S, rfl, hS, hlo, h3, h18, h19, h20⟩
  rw [List.take_length, List.drop_eq_nil_of_le (by omega), List.append_nil]
  simp [theLoop, Tryz.f205, loopsAll, Lp_some, and_assoc, -rd, rd_set, hS, h3, h18, h19, h20]
  exact ⟨lost, ⟨J, rfl⟩, hlo⟩
theorem repCells_one (n : Nat) (x : PV) : repCells n [x] = List.replicate n x := by
 induction n with
 | zero => rfl
 | succ n ih => rw [repCells, ih]; rfl
theorem repI (n : Nat) : List.replicate n (PV.d (.int .i64 0)) = (List.replicate n (0 : Int)).map intP := by simp [intP]
theorem repB (n : Nat) : List.replicate n (PV.d (.bool false)) = (List.replicate n false).map boolP := by simp [boolP]
theorem swL_rep (k n : Nat) (x : DV) : swL k (List.replicate n (.d x)) (List.replicate n (.d x)) = true := by
 induction n with
 | zero => rfl
 | succ n ih => rw [List.replicate_succ]; simp only [swL, swPV, DV.same_self, ih, Bool.and_self]
theorem b_start (l : List Fr) (hr : ∀ x ∈ l, x.right = true) (hl : l.length ≤ 1000000) : ∃ (lost : List Int) (J : Store), lost.length = l.length ∧
  callIt E1 (evI E1) 205 [.d (.slice (l.map Fr.D))] [] = some (.ptr 2 0, RS (l.map Fr.rank) (List.replicate l.length true) lost [] J) := by
 have hm1 : evMake Tryz.prog 39 l.length l.length = some (1, List.replicate l.length (.d (.int .i64 0))) := by
  unfold evMake
  rw [Ty.app39]
  simp [repCells_one, roomB]
  omega
 have hm2 : evMake Tryz.prog 200 l.length l.length = some (1, List.replicate l.length (.d (.bool false))) := by
  unfold evMake
  rw [Ty.app200]
  simp [repCells_one, roomB]
  omega
 have body : ∃ (lost : List Int) (J : Store), lost.length = l.length ∧ ((evCode E1 (evI E1) (l.length + 1) (Tryz.f205.body.getD .skip) ⟨[PV.d (.slice (l.map Fr.D))] ++ List.replicate (Tryz.f205.ntmps - 1) .undef, []⟩).bind fun r => if r.1 = .normal ∨ r.1 = .ret then (resVal E1.P Tryz.f205 r.2).map fun v => (v, r.2.store) else none) =
   some (.ptr 2 0, RT l.length (l.map Fr.rank) (List.replicate l.length true) lost J) := by
  simp [Tryz.f205, ec_loop, hm1, hm2, altE, listed, swOk, swBoxes, swRest, swL_rep, swL, swPV, swId, writesOf, takenFrom, repCells_one]
  generalize hLL : loopN _ _ _ = L
  rw [repI, repB] at hLL
  obtain ⟨r, rfl, lost, J, S, rfl, hS, hlo, h3⟩ := at_loop hLL (l_start (l.length + 1) l hr hl (List.replicate l.length false) (by simp) (List.replicate l.length 0) (by simp) _ rfl rfl rfl rfl rfl (l.length + 1) (by omega))
  exact ⟨lost, hlo, J, by simp [-rd, rd_set, hS, h3]⟩
 obtain ⟨lost, J, h1, h2⟩ := body
 have h3 := evI_run (fn := Tryz.f205) (l.length + 1) rfl Tryz.func205 rfl h2
 refine ⟨lost, J, h1, call_ptr rfl rfl rfl ?_ rfl rfl⟩
 rw [h3]
 have := RT_RS (l.map Fr.rank) (List.replicate l.length true) lost J
 rw [List.length_map] at this
 rw [this]
theorem l_run (m : Nat) (R : List (List Int)) (mm : List Int) (hm : mm ∈ R) (hmin : ∀ r ∈ R, cmpL mm r ≤ 0) (hbit : ∀ r ∈ R, ∀ x ∈ r, x = 0 ∨ x = 1) (hpf : ∀ r ∈ R, mm <+: r → r = mm) (hl : R.length ≤ 1000000) (hml : mm.length ≤ 1000) (lost : List Int) (hlo : lost.length = R.length) (J : Store)
  (S : List PV) (hS : S.length = 14) (h3 : rd S 3 = .ptr 2 0) (h4 : rd S 4 = .d (.int .i64 0)) (k : Nat) (hk : mm.length < k) :
  Lp (loopN (evCode E1 (evI E1) m (theLoop Tryz.f182 0)) k ⟨S, RS R (upB R mm 0) lost [] J⟩) fun r => ∃ (lost' line' : List Int) (S' : List PV), r = (.exit 0, ⟨S', RS R (R.map fun r => decide (r = mm)) lost' line' J⟩) ∧ S'.length = 14 ∧ rd S' 3 = .ptr 2 0 := by
 refine loop_inv (fun i st => ∃ (lost line : List Int) (S : List PV), st = ⟨S, RS R (upB R mm i) lost line J⟩ ∧ S.length = 14 ∧ lost.length = R.length ∧ line.length = i ∧ rd S 3 = .ptr 2 0 ∧ rd S 4 = .d (.int .i64 i)) _ mm.length ?_ ?_ k 0 _ (by omega) (by omega) ⟨lost, [], S, rfl, hS, hlo, rfl, h3, h4⟩
 ·rintro i st hi ⟨lost, line, S, rfl, hS, hlo, hln, h3, h4⟩
  obtain ⟨_, hne⟩ := race_line hm hmin hbit hi
  have hst := race_step hm hmin hbit hi
  obtain ⟨lost', hl', hcall⟩ := b_step1 R (upB R mm i) lost line J (by simp [upB]) hlo hl (by omega) i hne
  rw [hst] at hcall
  generalize andL (bitsNow R (upB R mm i) i) = ln at hcall
  generalize upB R mm (i + 1) = B1 at hcall ⊢
  generalize upB R mm i = B0 at hcall ⊢
  have hll : (line ++ [ln]).length = i + 1 := by simp [hln]
  generalize line ++ [ln] = line2 at hcall hll
  try simp at hcall
  simp [theLoop, Tryz.f182, loopsAll, Lp_some, and_assoc, -rd, rd_set, hS, h3, h4, hcall, wrap_succ i (by omega)]
  exact ⟨lost', line2, rfl, hl', hll⟩
 ·rintro st ⟨lost, line, S, rfl, hS, hlo, hln, h3, h4⟩
  obtain ⟨he, hB⟩ := race_end (R := R) (m := mm) hpf
  have hcall := b_step0 R (upB R mm mm.length) lost line J (by simp [upB]) hl mm.length he
  rw [hB] at hcall ⊢
  generalize (R.map fun r => decide (r = mm)) = B0 at hcall ⊢
  try simp at hcall
  simp [theLoop, Tryz.f182, loopsAll, Lp_some, and_assoc, -rd, rd_set, hS, h3, h4, hcall]
  exact ⟨lost, line, rfl⟩
theorem upB_0 (R : List (List Int)) (m : List Int) : upB R m 0 = List.replicate R.length true := by
 unfold upB
 simp
 induction R with
 | nil => rfl
 | cons r R ih => simp [List.replicate_succ, ih]
theorem b_arun (l : List Fr) (hr : ∀ x ∈ l, x.right = true) (hl : l.length ≤ 1000000) (mm : List Int) (hm : mm ∈ l.map Fr.rank) (hmin : ∀ r ∈ l.map Fr.rank, cmpL mm r ≤ 0) : ∃ (lost line : List Int) (J : Store),
  callIt E1 (evI E1) 182 [.d (.slice (l.map Fr.D))] [] = some (.ptr 2 0, RS (l.map Fr.rank) ((l.map Fr.rank).map fun r => decide (r = mm)) lost line J) := by
 obtain ⟨lost, J, hlo, hst⟩ := b_start l hr hl
 obtain ⟨f0, hf0, hmm⟩ := List.mem_map.1 hm
 have hml : mm.length ≤ 1000 := by rw [← hmm]; exact Nat.le_trans f0.rank_len (by omega)
 have body : ∃ (lost line : List Int) (J : Store), ((evCode E1 (evI E1) (mm.length + 1) (Tryz.f182.body.getD .skip) ⟨[PV.d (.slice (l.map Fr.D))] ++ List.replicate (Tryz.f182.ntmps - 1) .undef, []⟩).bind fun r => if r.1 = .normal ∨ r.1 = .ret then (resVal E1.P Tryz.f182 r.2).map fun v => (v, r.2.store) else none) =
   some (.ptr 2 0, RS (l.map Fr.rank) ((l.map Fr.rank).map fun r => decide (r = mm)) lost line J) := by
  have hrun := l_run (mm.length + 1) (l.map Fr.rank) mm hm hmin (fun r hr => by obtain ⟨f, _, rfl⟩ := List.mem_map.1 hr; exact f.rank_bit) (fun r hr hp => by
   obtain ⟨f, _, rfl⟩ := List.mem_map.1 hr
   rw [← hmm] at hp ⊢
   exact Fr.rank_pf f0 f hp) (by simpa using hl) hml lost (by simpa using hlo) J
  rw [upB_0, List.length_map] at hrun
  generalize (List.replicate l.length true) = B0 at hst hrun
  generalize ((l.map Fr.rank).map fun r => decide (r = mm)) = B1 at hrun ⊢
  generalize l.map Fr.rank = R at hst hrun ⊢
  try simp at hst
  simp [Tryz.f182, ec_loop, hst]
  generalize hLL : loopN _ _ _ = L
  obtain ⟨r, rfl, lost', line', S, rfl, hS, h3⟩ := at_loop hLL (hrun _ rfl rfl rfl (mm.length + 1) (by omega))
  exact ⟨lost', line', J, by simp [-rd, rd_set, hS, h3]⟩
 obtain ⟨lost', line', J', h2⟩ := body
 exact ⟨lost', line', J', call_ptr rfl rfl rfl (evI_run (fn := Tryz.f182) (mm.length + 1) rfl Tryz.func182 rfl h2) rfl rfl⟩
theorem l_run0 (m : Nat) (lost : List Int) (J : Store) (S : List PV) (hS : S.length = 14) (h3 : rd S 3 = .ptr 2 0) (h4 : rd S 4 = .d (.int .i64 0)) (k : Nat) (hk : 0 < k) :
  Lp (loopN (evCode E1 (evI E1) m (theLoop Tryz.f182 0)) k ⟨S, RS [] [] lost [] J⟩) fun r => ∃ (S' : List PV), r = (.exit 0, ⟨S', RS [] [] lost [] J⟩) ∧ S'.length = 14 ∧ rd S' 3 = .ptr 2 0 := by
 refine loop_inv (fun i st => i = 0 ∧ ∃ (S : List PV), st = ⟨S, RS [] [] lost [] J⟩ ∧ S.length = 14 ∧ rd S 3 = .ptr 2 0 ∧ rd S 4 = .d (.int .i64 0)) _ 0 ?_ ?_ k 0 _ (by omega) (by omega) ⟨rfl, S, rfl, hS, h3, h4⟩
 ·intro i st hi; omega
 ·rintro st ⟨_, S, rfl, hS, h3, h4⟩
  have hcall := b_step0 [] [] lost [] J rfl (by simp) 0 rfl
  try simp at hcall
  simp [theLoop, Tryz.f182, loopsAll, Lp_some, and_assoc, -rd, rd_set, hS, h3, h4, hcall]
theorem b_arun0 : ∃ (lost : List Int) (J : Store), callIt E1 (evI E1) 182 [.d (.slice [])] [] = some (.ptr 2 0, RS [] [] lost [] J) := by
 obtain ⟨lost, J, hlo, hst⟩ := b_start [] (by simp) (by simp)
 simp only [List.map_nil, List.length_nil, List.replicate_zero] at hst
 have body : ((evCode E1 (evI E1) 1 (Tryz.f182.body.getD .skip) ⟨[PV.d (.slice [])] ++ List.replicate (Tryz.f182.ntmps - 1) .undef, []⟩).bind fun r => if r.1 = .normal ∨ r.1 = .ret then (resVal E1.P Tryz.f182 r.2).map fun v => (v, r.2.store) else none) = some (.ptr 2 0, RS [] [] lost [] J) := by
  have hrun := l_run0 1 lost J
  simp [Tryz.f182, ec_loop, hst]
  generalize hLL : loopN _ _ _ = L
  obtain ⟨r, rfl, S, rfl, hS, h3⟩ := at_loop hLL (hrun _ rfl rfl rfl 1 (by omega))
  simp [-rd, rd_set, hS, h3]
 exact ⟨lost, J, call_ptr rfl rfl rfl (evI_run (fn := Tryz.f182) 1 rfl Tryz.func182 rfl body) rfl rfl⟩
def winI (l : List Fr) : Int := if l = [] then -1 else nextOf l
theorem l_win (m : Nat) (R : List (List Int)) (B : List Bool) (lost line : List Int) (J : Store) (hB : B.length = R.length) (hl : R.length ≤ 1000000) (S : List PV) (hS : S.length = 19) (h2 : rd S 2 = .d (.int .i64 0)) (h9 : rd S 9 = .ms 1 0 R.length 1) (h10 : rd S 10 = .d (.int .i64 R.length)) (h11 : rd S 11 = .d (.int .i64 0)) (k : Nat) (hk : R.length < k) :
  Lp (loopN (evCode E1 (evI E1) m (theLoop Tryz.f136 0)) k ⟨S, RS R B lost line J⟩) fun r => ∃ (S' : List PV), S'.length = 19 ∧ ((r = (.exit 0, ⟨S', RS R B lost line J⟩) ∧ idx id B 0 = -1) ∨ (r = (.ret, ⟨S', RS R B lost line J⟩) ∧ rd S' 2 = .d (.int .i64 (idx id B 0)))) := by
 refine loop_inv (fun i st => ∃ (S : List PV), st = ⟨S, RS R B lost line J⟩ ∧ S.length = 19 ∧ idx id B 0 = idx id (B.drop i) i ∧ rd S 2 = .d (.int .i64 0) ∧ rd S 9 = .ms 1 0 R.length 1 ∧ rd S 10 = .d (.int .i64 R.length) ∧ rd S 11 = .d (.int .i64 i)) _ R.length ?_ ?_ k 0 _ (by omega) (by omega) ⟨S, rfl, hS, rfl, h2, h9, h10, h11⟩
 ·rintro i st hi ⟨S, rfl, hS, he, h2, h9, h10, h11⟩
  have hd : B.drop i = B[i]'(by omega) :: B.drop (i + 1) := List.drop_eq_getElem_cons (by omega)
  have hb : B[i]? = some (B[i]'(by omega)) := List.getElem?_eq_getElem (by omega)
  rw [hd] at he
  generalize B[i]'(by omega) = b at hb he
  have hld := rs_in (R := R) (lost := lost) (line := line) (J := J) hb
  have hlt : (i : Int) < (R.length : Int) := by omega
  generalize idx id B 0 = z at he ⊢
  generalize RS R B lost line J = T at hld ⊢
  cases b
  ·simp only [idx, id, Bool.false_eq_true, if_false] at he
   simp [theLoop, Tryz.f136, loopsAll, Lp_some, and_assoc, -rd, rd_set, -loadS, hS, h2, h9, h10, h11, hlt, hi, hld, wrap_succ i (by omega)]
   exact he
  ·simp only [idx, id, if_true] at he
   subst he
   simp [theLoop, Tryz.f136, loopsAll, Lp_some, and_assoc, -rd, rd_set, -loadS, hS, h2, h9, h10, h11, hlt, hi, hld, wrap_succ i (by omega)]
   exact ⟨_, by simp [hS], rfl, by simp [-rd, rd_set, hS]⟩
 ·rintro st ⟨S, rfl, hS, he, h2, h9, h10, h11⟩
  rw [List.drop_eq_nil_of_le (by omega)] at he
  simp only [idx] at he
  generalize idx id B 0 = z at he ⊢
  simp [theLoop, Tryz.f136, loopsAll, Lp_some, and_assoc, -rd, rd_set, hS, h2, h9, h10, h11]
  exact ⟨_, by simp [hS], rfl, he⟩
theorem idx_map {α : Type} (p : α → Bool) : ∀ (l : List α) (i : Nat), idx id (l.map p) i = idx p l i
 | [], i => rfl
 | x :: l, i => by simp only [List.map_cons, idx, id]; rw [idx_map p l (i + 1)]
theorem b_win (l : List Fr) (hr : ∀ x ∈ l, x.right = true) (hl : l.length ≤ 1000000) (σ : Store) : callIt E1 (evI E1) 136 [.d (.slice (l.map Fr.D))] σ = some (.d (.int .i64 (winI l)), σ) := by
 refine call_run (fn := Tryz.f136) (l.length + 1) rfl rfl rfl Tryz.func136 rfl rfl ?_ rfl
 have fin : ∀ (R : List (List Int)) (B : List Bool) (lost line : List Int) (J : Store), B.length = R.length → R.length = l.length → callIt E1 (evI E1) 182 [.d (.slice (l.map Fr.D))] [] = some (.ptr 2 0, RS R B lost line J) → idx id B 0 = winI l →
   ((evCode E1 (evI E1) (l.length + 1) (Tryz.f136.body.getD .skip) ⟨[PV.d (.slice (l.map Fr.D))] ++ List.replicate (Tryz.f136.ntmps - 1) .undef, []⟩).bind fun r => if r.1 = .normal ∨ r.1 = .ret then resVal E1.P Tryz.f136 r.2 else none) = some (.d (.int .i64 (winI l))) := by
  intro R B lost line J hB hR hrun hw
  have hlp := l_win (l.length + 1) R B lost line J hB (by omega)
  have hld := @rs_1 R B lost line J
  generalize RS R B lost line J = T at hrun hlp hld
  rw [hw] at hlp
  try simp at hrun
  simp [Tryz.f136, ec_loop, -loadS, hrun, hld]
  generalize hLL : loopN _ _ _ = L
  obtain ⟨r, rfl, S, hS, h⟩ := at_loop hLL (hlp _ rfl rfl rfl rfl rfl (l.length + 1) (by omega))
  rcases h with ⟨rfl, h⟩ | ⟨rfl, h2⟩
  ·simp [-rd, rd_set, hS, h]
  ·have h2' := rd_el h2 (by omega)
   simp [-rd, rd_set, hS, h2, h2']
 cases l with
 | nil =>
  obtain ⟨lost, J, h⟩ := b_arun0
  exact fin [] [] lost [] J rfl rfl h rfl
 | cons w q =>
  obtain ⟨_, v, hv1, hv2, hv3, hv4⟩ := nxt_spec w q
  have hmem : v ∈ w :: q := List.mem_of_getElem? hv1
  obtain ⟨lost, line, J, h⟩ := b_arun (w :: q) hr hl v.rank (List.mem_map.2 ⟨v, hmem, rfl⟩) (fun r hr => by
   obtain ⟨f, hf, rfl⟩ := List.mem_map.1 hr
   have := hv3 f hf
   rw [rankCmp_anti] at this
   show rankCmp v f ≤ 0
   omega)
  refine fin _ _ lost line J (by simp) (by simp) h ?_
  rw [idx_map, winI, if_neg (by simp), nextOf, ← hv2]
  have : ∀ (l : List Fr) (i : Nat), idx (fun r => decide (r = v.rank)) (l.map Fr.rank) i = idx (fun x => rankCmp x v == 0) l i := by
   intro l
   induction l with
   | nil => intro i; rfl
   | cons f l ih =>
    intro i
    have hd : decide (f.rank = v.rank) = (rankCmp f v == 0) := by
     by_cases he : f.rank = v.rank
     ·have h0 : rankCmp f v = 0 := by unfold rankCmp; rw [he]; exact cmpL_self _
      simp [he, h0]
     ·have : rankCmp f v ≠ 0 := fun h => he (cmpL_zero _ _ h)
      simp [he, this]
    simp only [List.map_cons, idx, hd, ih]
  exact this _ _
end Go.Proofs

set_option maxRecDepth 100000
set_option maxHeartbeats 8000000
namespace Go.Proofs
open Go.RowKit Go.Shelf Go.Pv
def alongL (P : List (Int × Fr)) (f : Fr) : List Int := P.filterMap fun p => if p.2.rank = f.rank then some p.1 else none
theorem ln_st8 {σ : Store} {id : Nat} {x : Ln} (h : σ[id]? = some x.C) (al2 : List Int) : ∃ X, storeS σ id 8 [.d (.slice (x.al.map intD))] = some X ∧ storeS X id 8 [acc (al2.map intD)] = some (σ.set id (Ln.C { x with al := al2 })) := by
 have hid := (List.getElem?_eq_some_iff.1 h).1
 refine ⟨_, storeS_one _ h (by simp), ?_⟩
 rw [storeS_one (cells := x.C.set 8 (.d (.slice (x.al.map intD)))) _ (by simp [hid]) (by simp)]
 simp
theorem l_bs1 (m : Nat) (P : List (Int × Fr)) (hP : ∀ p ∈ P, p.2.right = true) (hl : P.length ≤ 1000) (x : Ln) (hf : x.f.right = true) (id : Nat) (σ1 J0 : Store) (hid : σ1.length ≤ id) (hx0 : (σ1 ++ J0)[id]? = some (Ln.C { x with al := [] })) (S : List PV) (hS : S.length = 85)
  (h6 : rd S 6 = acc ((P.map (·.1)).map intD)) (h12 : rd S 12 = .ptr id 0) (h55 : rd S 55 = .d (.slice ((P.map (·.2)).map Fr.D))) (h56 : rd S 56 = .d (.int .i64 P.length)) (h57 : rd S 57 = .d (.int .i64 0)) (k : Nat) (hk : P.length < k) :
  Lp (loopN (evCode E1 (evI E1) m (theLoop Tryz.f66 1)) k ⟨S, σ1 ++ J0⟩) fun r => ∃ (J : Store) (S' : List PV), r = (.exit 2, ⟨S', σ1 ++ J⟩) ∧ S'.length = 85 ∧ rd S' 12 = .ptr id 0 ∧ (σ1 ++ J)[id]? = some (Ln.C { x with al := alongL P x.f }) := by
 refine loop_inv (fun i st => ∃ (J : Store) (S : List PV), st = ⟨S, σ1 ++ J⟩ ∧ S.length = 85 ∧ (σ1 ++ J)[id]? = some (Ln.C { x with al := alongL (P.take i) x.f }) ∧ rd S 6 = acc ((P.map (·.1)).map intD) ∧ rd S 12 = .ptr id 0 ∧ rd S 55 = .d (.slice ((P.map (·.2)).map Fr.D)) ∧ rd S 56 = .d (.int .i64 P.length) ∧ rd S 57 = .d (.int .i64 i)) _ P.length ?_ ?_ k 0 _ (by omega) (by omega)
  ⟨J0, S, rfl, hS, hx0, h6, h12, h55, h56, h57⟩
 ·rintro i st hi ⟨J, S, rfl, hS, hx, h6, h12, h55, h56, h57⟩
  have htk : alongL (P.take (i + 1)) x.f = alongL (P.take i) x.f ++ if P[i].2.rank = x.f.rank then [P[i].1] else [] := by
   unfold alongL
   rw [List.take_add_one, List.getElem?_eq_getElem hi, List.filterMap_append]
   congr 1
   simp only [Option.toList_some, List.filterMap_cons, List.filterMap_nil]
   by_cases h : P[i].2.rank = x.f.rank <;> simp [h]
  have hal : (alongL (P.take i) x.f).length ≤ i := Nat.le_trans (List.length_filterMap_le _ _) (by simp; omega)
  have hPi := hP P[i] (List.getElem_mem hi)
  have e1 : ((P.map (·.1)).map intD)[i]? = some (intD P[i].1) := by simp [hi]
  have e2 : ((P.map (·.2)).map Fr.D)[i]? = some P[i].2.D := by simp [hi]
  have hl1 : ((P.map (·.1)).map intD).length = P.length := by simp
  have hl2 : ((P.map (·.2)).map Fr.D).length = P.length := by simp
  generalize hal1 : alongL (P.take (i + 1)) x.f = al1 at htk ⊢
  generalize alongL (P.take i) x.f = al0 at htk hal hx
  generalize P[i] = p at htk hPi e1 e2
  obtain ⟨a, g⟩ := p
  simp only at htk hPi e1 e2
  have hlt : (i : Int) < (P.length : Int) := by omega
  have hT : ∀ x : List PV, σ1 ++ (J ++ [x]) = (σ1 ++ J) ++ [x] := fun x => by rw [List.append_assoc]
  have hs : ∀ a b c d e : PV, storeS (σ1 ++ (J ++ [[a, b, c, d, e]])) (σ1.length + J.length) 0 (cellsOf g.P) = some (σ1 ++ (J ++ [cellsOf g.P])) := by
   intros; rw [hT, hT, ← List.length_append]; exact lst_store5
  have hld : loadS (σ1 ++ (J ++ [cellsOf g.P])) (σ1.length + J.length) 0 5 = some (cellsOf g.P) := by rw [hT, ← List.length_append]; exact lst_load5
  have hU : (σ1 ++ (J ++ [cellsOf g.P]))[id]? = some (Ln.C { x with al := al0 }) := by rw [hT]; exact pre_get hx
  have q3 := ln_3 hU
  have q8 := ln_8 hU
  obtain ⟨X, y1, y2⟩ := ln_st8 hU al1
  have hUs : (σ1 ++ (J ++ [cellsOf g.P])).set id (Ln.C { x with al := al1 }) = σ1 ++ (J ++ [cellsOf g.P]).set (id - σ1.length) (Ln.C { x with al := al1 }) := by rw [List.set_append_right _ _ hid]
  have hUg : (σ1 ++ (J ++ [cellsOf g.P]).set (id - σ1.length) (Ln.C { x with al := al1 }))[id]? = some (Ln.C { x with al := al1 }) := by
   rw [← hUs]
   have := (List.getElem?_eq_some_iff.1 hU).1
   rw [List.getElem?_set, if_pos rfl, if_pos this]
  rw [hUs] at y2
  have r1 := fun σ => b_rank g hPi σ
  have r2 := fun σ => b_rank x.f hf σ
  have r3 := fun σ => b_eqL g.rank x.f.rank (Nat.le_trans g.rank_len (by omega)) σ
  generalize hA : (P.map (·.1)).map intD = A at e1 hl1 h6 ⊢
  generalize hF : (P.map (·.2)).map Fr.D = F at e2 hl2 h55 ⊢
  simp only [Fr.D, intD] at e1 e2
  by_cases hr : g.rank = x.f.rank
  ·rw [if_pos hr] at htk
   have ha := row_app (A := al0) (B := [a]) (by simp; omega)
   rw [← htk] at ha
   have hd : decide (g.rank = x.f.rank) = true := by simpa using hr
   rw [hd] at r3
   generalize hY : (J ++ [cellsOf g.P]).set (id - σ1.length) (Ln.C { x with al := al1 }) = Y at y2 hUg
   clear htk hr hd hUs hU hx hT hY hA hF
   simp only [cellsOf, Fr.P] at hs hld q3 q8 y1 r1 r2
   simp only [List.map_cons, List.map_nil, intD] at ha
   generalize al1.map intD = L1 at ha y2
   generalize al0.map intD = L0 at ha y1 q8
   try simp at r1
   try simp at r2
   try simp at r3
   simp [theLoop, Tryz.f66, loopsAll, Lp_some, and_assoc, -rd, rd_set, -loadS, -storeS, hS, h6, h12, h55, h56, h57, hlt, e1, e2, hs, hld, q3, q8, y1, y2, ha, r1, r2, r3, rowsFrom, wrap_succ i (by omega)]
   simpa [cellsOf] using hUg
  ·rw [if_neg hr, List.append_nil] at htk
   subst htk
   have hd : decide (g.rank = x.f.rank) = false := by simpa using hr
   rw [hd] at r3
   clear hr hd hUs hUg hx hT hA hF y1 y2
   simp only [cellsOf, Fr.P] at hs hld q3 q8 r1 r2
   try simp at r1
   try simp at r2
   try simp at r3
   simp [theLoop, Tryz.f66, loopsAll, Lp_some, and_assoc, -rd, rd_set, -loadS, -storeS, hS, h6, h12, h55, h56, h57, hlt, e1, e2, hs, hld, q3, q8, r1, r2, r3, rowsFrom, wrap_succ i (by omega)]
   simpa [cellsOf] using hU
 ·rintro st ⟨J, S, rfl, hS, hx, h6, h12, h55, h56, h57⟩
  rw [List.take_length] at hx
  generalize (P.map (·.1)).map intD = A at h6
  generalize (P.map (·.2)).map Fr.D = F at h55
  generalize Ln.C { x with al := alongL P x.f } = cc at hx ⊢
  simp [theLoop, Tryz.f66, loopsAll, Lp_some, and_assoc, -rd, rd_set, hS, h6, h12, h55, h56, h57]
  exact hx
end Go.Proofs

set_option maxRecDepth 100000
set_option maxHeartbeats 8000000
namespace Go.Proofs
open Go.RowKit Go.Shelf Go.Pv
theorem sndL_mem {l : List Nd} {p : Int × Fr} (hp : p ∈ sndL l) : ∃ (i : Nat) (n : Nd), l[i]? = some n ∧ n.Next.2 = true ∧ p = ((i : Int), n.Next.1) := by
 simp only [sndL, List.mem_filterMap] at hp
 obtain ⟨⟨n, i⟩, hx, h⟩ := hp
 have hn := List.mem_zipIdx_iff_getElem?.1 hx
 simp only at hn h
 by_cases hs : n.Next.2 = true
 ·rw [if_pos hs] at h
  exact ⟨i, n, hn, hs, (Option.some.inj h).symm⟩
 ·rw [if_neg hs] at h
  exact absurd h (by simp)
theorem Next_mem {n : Nd} (h : n.Next.2 = true) : n.Next.1 ∈ n.q := by
 unfold Nd.Next at h ⊢
 by_cases hc : (n.off || n.q.isEmpty) = true
 ·rw [if_pos hc] at h; simp at h
 ·rw [if_neg hc]
  have hq : n.q ≠ [] := by
   intro he
   rw [he] at hc
   simp at hc
  have := nxt_lt hq
  simp only [List.getD, List.getElem?_eq_getElem this, Option.getD_some]
  exact List.getElem_mem this
theorem sndL_right {l : List Nd} (hg : ∀ n ∈ l, n.good) : ∀ p ∈ sndL l, p.2.right = true := by
 intro p hp
 obtain ⟨i, n, hn, h2, rfl⟩ := sndL_mem hp
 exact (hg n (List.mem_of_getElem? hn)).r _ (Next_mem h2)
def lineOf (l : List Nd) (who : List Int) : Ln :=
 let P := sndL l
 let p := P.getD (nxt (P.map (·.2))) (0, fr0)
 ⟨l, who, p.1, p.2, alongL P p.2⟩
theorem b_begin0 (l : List Nd) (hg : ∀ n ∈ l, n.good) (hl : l.length ≤ 1000) (w : DV) (hs : sndL l = []) (σ : Store) : callIt E1 (evI E1) 66 [.d (.slice (l.map Nd.D)), .agg [.d w]] σ = some (.tup [.nilptr, .d (.bool false)], σ) := by
 have body : ∃ J : Store, evI E1 66 [.d (.slice (l.map Nd.D)), .agg [.d w]] σ = some (.tup [.nilptr, .d (.bool false)], σ ++ J) := by
  have b : ∃ J : Store, ((evCode E1 (evI E1) (l.length + 1) (Tryz.f66.body.getD .skip) ⟨[PV.d (.slice (l.map Nd.D)), .agg [.d w]] ++ List.replicate (Tryz.f66.ntmps - 2) .undef, σ⟩).bind fun r => if r.1 = .normal ∨ r.1 = .ret then (resVal E1.P Tryz.f66 r.2).map fun v => (v, r.2.store) else none) = some (.tup [.nilptr, .d (.bool false)], σ ++ J) := by
   simp [Tryz.f66, ec_loop]
   generalize hLL : loopN _ _ _ = L
   obtain ⟨r, rfl, J, S, rfl, hS, h0, h3, h4, h5, h6, h7⟩ := at_loop hLL (l_bs0 (l.length + 1) l hg hl _ _ _ rfl rfl rfl rfl rfl rfl rfl rfl rfl (l.length + 1) (by omega))
   clear hLL
   rw [hs] at h6 h7
   have hwin := fun σ => b_win [] (by simp) (by simp) σ
   rw [show winI [] = -1 from rfl] at hwin
   replace h6 : rd S 6 = .e0 := h6
   replace h7 : rd S 7 = .e0 := h7
   simp at hwin
   simp [-rd, rd_set, hS, h0, h3, h4, h5, h6, h7, hwin]
   done
  obtain ⟨J, h⟩ := b
  exact ⟨J, evI_run (fn := Tryz.f66) (l.length + 1) rfl Tryz.func66 rfl h⟩
 obtain ⟨J, h⟩ := body
 exact call_im rfl rfl rfl h rfl rfl (by simp)
theorem lineOf_f {l : List Nd} (hg : ∀ n ∈ l, n.good) (who : List Int) (hs : sndL l ≠ []) : ∃ (k : Nat) (p : Int × Fr), k < (sndL l).length ∧ (sndL l)[k]? = some p ∧ p ∈ sndL l ∧ winI ((sndL l).map (·.2)) = (k : Int) ∧ lineOf l who = ⟨l, who, p.1, p.2, alongL (sndL l) p.2⟩ := by
 have hm : (sndL l).map (·.2) ≠ [] := by simpa using hs
 have hk := nxt_lt hm
 have he := nextOf_eq hm
 rw [List.length_map] at hk
 refine ⟨nxt ((sndL l).map (·.2)), (sndL l)[nxt ((sndL l).map (·.2))], hk, List.getElem?_eq_getElem hk, List.getElem_mem hk, ?_, ?_⟩
 ·rw [winI, if_neg hm, he]
 ·unfold lineOf
  simp only [List.getD, List.getElem?_eq_getElem hk, Option.getD_some]
theorem b_begin1 (l : List Nd) (hg : ∀ n ∈ l, n.good) (hl : l.length ≤ 1000) (who : List Int) (hs : sndL l ≠ []) (σ : Store) : ∃ (J : Store) (id : Nat), callIt E1 (evI E1) 66 [.d (.slice (l.map Nd.D)), .agg [.d (.slice (who.map intD))]] σ = some (.tup [.ptr id 0, .d (.bool true)], σ ++ J) ∧ (σ ++ J)[id]? = some (lineOf l who).C := by
 have body : ∃ (J : Store) (id : Nat), (σ ++ J)[id]? = some (lineOf l who).C ∧ ((evCode E1 (evI E1) (l.length + 1) (Tryz.f66.body.getD .skip) ⟨[PV.d (.slice (l.map Nd.D)), .agg [.d (.slice (who.map intD))]] ++ List.replicate (Tryz.f66.ntmps - 2) .undef, σ⟩).bind fun r => if r.1 = .normal ∨ r.1 = .ret then (resVal E1.P Tryz.f66 r.2).map fun v => (v, r.2.store) else none) = some (.tup [.ptr id 0, .d (.bool true)], σ ++ J) := by
  obtain ⟨k, p, hk, hkp, hpm, hwi, hln⟩ := lineOf_f hg who hs
  have hright := sndL_right hg
  have hP := sndL_len l
  have hwin := fun σ => b_win ((sndL l).map (·.2)) (fun x hx => by obtain ⟨q, hq, rfl⟩ := List.mem_map.1 hx; exact hright q hq) (by simp; omega) σ
  rw [hwi] at hwin
  have l1 := l_bs1 (l.length + 1) (sndL l) hright (by omega) ⟨l, who, p.1, p.2, []⟩ (hright p hpm)
  rw [hln]
  have e1 : (((sndL l).map (·.1)).map intD)[k]? = some (intD p.1) := by simp [hkp]
  have e2 : (((sndL l).map (·.2)).map Fr.D)[k]? = some p.2.D := by simp [hkp]
  have m1 : (((sndL l).map (·.1)).map intD).length = (sndL l).length := by simp
  have m2 : (((sndL l).map (·.2)).map Fr.D).length = (sndL l).length := by simp
  have hk0 : ¬ (k : Int) < 0 := by omega
  simp [Tryz.f66, ec_loop]
  generalize hLL : loopN _ _ _ = L
  obtain ⟨r, rfl, J, S, rfl, hS, h0, h3, h4, h5, h6, h7⟩ := at_loop hLL (l_bs0 (l.length + 1) l hg hl _ _ _ rfl rfl rfl rfl rfl rfl rfl rfl rfl (l.length + 1) (by omega))
  clear hLL
  generalize sndL l = P at *
  clear hs hwi hln hpm hkp hright
  have hw1 : (σ ++ [PV.d (.slice (who.map intD))] :: J)[σ.length]? = some [PV.d (.slice (who.map intD))] := by simp
  have hld := loadS_one hw1 (show [PV.d (.slice (who.map intD))][0]? = some (PV.d (.slice (who.map intD))) from rfl)
  generalize hF : (P.map (·.2)).map Fr.D = F at hwin e2 m2 h7 l1
  generalize hA : (P.map (·.1)).map intD = A at e1 m1 h6 l1
  try simp at hwin
  obtain ⟨_, e1⟩ := List.getElem?_eq_some_iff.1 e1
  obtain ⟨_, e2⟩ := List.getElem?_eq_some_iff.1 e2
  obtain ⟨i, f⟩ := p
  simp only [Fr.D, intD] at e1 e2
  simp [-rd, rd_set, -loadS, -storeS, hS, h0, h3, h4, h5, h6, h7, hwin, hk0, e1, e2, m1, m2, hk, hld, ec_loop]
  generalize hLL : loopN _ _ _ = L
  have hQ := fun hx a b c d e f => at_loop hLL (l1 (σ.length + (J.length + 1)) σ _ (by omega) hx _ a b c d e f (l.length + 1) (by omega))
  obtain ⟨r, rfl, J', S', rfl, hS', h12, hx'⟩ := hQ (by
   rw [List.getElem?_append_right (by omega)]
   simp [acc_nil]) (by simp [hS]) (by simp [-rd, rd_set, hS, h6]) (by simp [-rd, rd_set, hS]) (by simp [-rd, rd_set, hS]) (by simp [-rd, rd_set, hS, m2]) (by simp [-rd, rd_set, hS])
  refine ⟨J', σ.length + (J.length + 1), hx', ?_⟩
  simp [-rd, rd_set, hS', h12]
  done
 obtain ⟨J, id, h1, h2⟩ := body
 exact ⟨J, id, call_ptr rfl rfl rfl (evI_run (fn := Tryz.f66) (l.length + 1) rfl Tryz.func66 rfl h2) rfl rfl, h1⟩
end Go.Proofs

set_option maxRecDepth 100000
set_option maxHeartbeats 8000000
namespace Go.Proofs
open Go.RowKit Go.Shelf Go.Pv
def xorI (a b : Int) : Int := IntKind.i64.wrap (BitVec.ofInt 64 a ^^^ BitVec.ofInt 64 b).toNat
@[simp] theorem bin_xor {P : Program} {t : TypeId} {a b : Int} : evBin P .xor t (.d (.int .i64 a)) (.d (.int .i64 b)) = some (.d (.int .i64 (xorI a b))) := rfl
theorem xorI_comm (a b : Int) : xorI a b = xorI b a := by unfold xorI; rw [BitVec.xor_comm]
theorem xorI_lt (a b : Int) (ha : 0 ≤ a ∧ a < 2 ^ 15) (hb : 0 ≤ b ∧ b < 2 ^ 15) : 0 ≤ xorI a b ∧ xorI a b < 2 ^ 15 := by
 have h1 : (BitVec.ofInt 64 a).toNat < 2 ^ 15 := by rw [BitVec.toNat_ofInt]; omega
 have h2 : (BitVec.ofInt 64 b).toNat < 2 ^ 15 := by rw [BitVec.toNat_ofInt]; omega
 have h3 := Nat.xor_lt_two_pow h1 h2
 unfold xorI
 rw [BitVec.toNat_xor]
 generalize (BitVec.ofInt 64 a).toNat ^^^ (BitVec.ofInt 64 b).toNat = z at h3
 rw [wrap_ok (by omega) (by omega)]
 omega
theorem and15 (x : Int) (hx : 0 ≤ x ∧ x < 2 ^ 40) : IntKind.i64.wrap (BitVec.ofInt 64 x &&& BitVec.ofInt 64 32767).toNat = x % 2 ^ 15 := by
 have h1 : (BitVec.ofInt 64 32767).toNat = 2 ^ 15 - 1 := by decide
 rw [BitVec.toNat_and, BitVec.toNat_ofInt, h1, Nat.and_two_pow_sub_one_eq_mod, IntKind.wrap_i64]
 omega
def crcS (s b : Int) : Int := if xorI (s / 2 ^ 14) b = 1 then xorI (s * 2 % 2 ^ 15) 17817 else s * 2 % 2 ^ 15
def crcB (l : List Int) : Int := l.foldl crcS 0
theorem crcS_lt {s b : Int} (h : 0 ≤ s ∧ s < 2 ^ 15) : 0 ≤ crcS s b ∧ crcS s b < 2 ^ 15 := by
 unfold crcS
 split
 ·exact xorI_lt _ _ (by omega) (by decide)
 ·omega
theorem crcF_lt : ∀ (l : List Int) (s : Int), 0 ≤ s ∧ s < 2 ^ 15 → 0 ≤ l.foldl crcS s ∧ l.foldl crcS s < 2 ^ 15
 | [], s, h => h
 | b :: l, s, h => crcF_lt l _ (crcS_lt h)
theorem crcB_lt (l : List Int) : 0 ≤ crcB l ∧ crcB l < 2 ^ 15 := crcF_lt l 0 (by decide)
theorem b_take (s b : Int) (hs : 0 ≤ s ∧ s < 2 ^ 15) : callIt E1 (evI E1) 215 [.ptr 0 0, .d (.int .i64 b)] [[.d (.int .i64 s), .d (.int .i64 15), .d (.int .i64 17817)]] = some (.tup [], [[.d (.int .i64 (crcS s b)), .d (.int .i64 15), .d (.int .i64 17817)]]) := by
 have s14 : ∀ k : IntKind, evBin Tryz.prog .shr 3 (.d (.int .i64 s)) (.d (.int k 14)) = some (.d (.int .i64 (s / 2 ^ 14))) := by
  intro k
  rw [bin_shr_u (by decide), Int.fdiv_eq_ediv_of_nonneg _ (by decide)]; rfl
 have s1 : ∀ k : IntKind, evBin Tryz.prog .shl 3 (.d (.int .i64 s)) (.d (.int k 1)) = some (.d (.int .i64 (s * 2))) := by
  intro k
  rw [bin_shl_u (by decide), show s * 2 ^ min (Int.toNat 1) 64 = s * 2 from rfl, wrap_ok (by omega) (by omega)]
 have s15 : ∀ k : IntKind, evBin Tryz.prog .shl 3 (.d (.int .i64 1)) (.d (.int k 15)) = some (.d (.int .i64 32768)) := by
  intro k
  rw [bin_shl_u (by decide)]; rfl
 have w1 : IntKind.i64.wrap (15 - 1) = 14 := by rw [wrap_ok (by omega) (by omega)]; rfl
 have w2 : IntKind.i64.wrap (32768 - 1) = 32767 := by rw [wrap_ok (by omega) (by omega)]; rfl
 have a15 : evBin Tryz.prog .and 3 (.d (.int .i64 (s * 2))) (.d (.int .i64 32767)) = some (.d (.int .i64 (s * 2 % 2 ^ 15))) := by rw [bin_and, and15 (s * 2) (by omega)]
 have w1' : IntKind.i64.wrap 14 = 14 := by rw [wrap_ok (by omega) (by omega)]
 have w2' : IntKind.i64.wrap 32767 = 32767 := by rw [wrap_ok (by omega) (by omega)]
 unfold crcS
 generalize s * 2 = d at s1 a15 ⊢
 generalize d % 2 ^ 15 = e at a15 ⊢
 generalize s / 2 ^ 14 = t at s14 ⊢
 refine call_im (σ' := [[.d (.int .i64 (if xorI t b = 1 then xorI e 17817 else e)), .d (.int .i64 15), .d (.int .i64 17817)]]) rfl rfl rfl ?_ rfl rfl rfl
 refine evI_run (fn := Tryz.f215) 5 rfl Tryz.func215 rfl ?_
 by_cases hx : xorI t b = 1
 ·have hb : (xorI t b == 1) = true := by simpa using hx
  simp [Tryz.f215, s14, s1, s15, w1, w2, w1', w2', a15, hx, -bin_and, List.set]
 ·have hb : (xorI t b == 1) = false := by simpa using hx
  simp [Tryz.f215, s14, s1, s15, w1, w2, w1', w2', a15, hx, hb, -bin_and, List.set]
theorem l_crc (m : Nat) (l : List Int) (hl : l.length ≤ 1000000) (S : List PV) (hS : S.length = 25) (h3 : rd S 3 = .ptr 0 0) (h4 : rd S 4 = .func (.func 215) [.ptr 0 0] []) (h11 : rd S 11 = .d (.slice (l.map intD))) (h12 : rd S 12 = .d (.int .i64 l.length)) (h13 : rd S 13 = .d (.int .i64 0)) (k : Nat) (hk : l.length < k) :
  Lp (loopN (evCode E1 (evI E1) m (theLoop Tryz.f189 0)) k ⟨S, [[.d (.int .i64 0), .d (.int .i64 15), .d (.int .i64 17817)]]⟩) fun r => ∃ S' : List PV, r = (.exit 0, ⟨S', [[.d (.int .i64 (crcB l)), .d (.int .i64 15), .d (.int .i64 17817)]]⟩) ∧ S'.length = 25 ∧ rd S' 3 = .ptr 0 0 := by
 refine loop_inv (fun i st => ∃ S : List PV, st = ⟨S, [[.d (.int .i64 (crcB (l.take i))), .d (.int .i64 15), .d (.int .i64 17817)]]⟩ ∧ S.length = 25 ∧ rd S 3 = .ptr 0 0 ∧ rd S 4 = .func (.func 215) [.ptr 0 0] [] ∧ rd S 11 = .d (.slice (l.map intD)) ∧ rd S 12 = .d (.int .i64 l.length) ∧ rd S 13 = .d (.int .i64 i)) _ l.length ?_ ?_ k 0 _ (by omega) (by omega) ⟨S, rfl, hS, h3, h4, h11, h12, h13⟩
 ·rintro i st hi ⟨S, rfl, hS, h3, h4, h11, h12, h13⟩
  have htk : crcB (l.take (i + 1)) = crcS (crcB (l.take i)) l[i] := by rw [crcB, List.take_add_one, List.getElem?_eq_getElem hi, List.foldl_append]; rfl
  have hcl := crcB_lt (l.take i)
  generalize crcB (l.take (i + 1)) = c1 at htk ⊢
  generalize crcB (l.take i) = c0 at htk hcl ⊢
  generalize hx : l[i] = x at htk
  have htake := b_take c0 x hcl
  rw [← htk] at htake
  have hlt : (i : Int) < (l.length : Int) := by omega
  try simp at htake
  simp [theLoop, Tryz.f189, loopsAll, Lp_some, and_assoc, -rd, rd_set, hS, h3, h4, h11, h12, h13, hlt, hi, hx, htake, wrap_succ i (by omega)]
 ·rintro st ⟨S, rfl, hS, h3, h4, h11, h12, h13⟩
  rw [List.take_length]
  simp [theLoop, Tryz.f189, loopsAll, Lp_some, and_assoc, -rd, rd_set, hS, h3, h4, h11, h12, h13]
theorem b_crc (l : List Int) (hl : l.length ≤ 1000000) (σ : Store) : callIt E1 (evI E1) 189 [.d (.slice (l.map intD))] σ = some (.d (.int .i64 (crcB l)), σ) := by
 refine call_run (fn := Tryz.f189) (l.length + 1) rfl rfl rfl Tryz.func189 rfl rfl ?_ rfl
 simp [Tryz.f189, ec_loop]
 generalize hLL : loopN _ _ _ = L
 obtain ⟨r, rfl, S, rfl, hS, h3⟩ := at_loop hLL (l_crc (l.length + 1) l hl _ rfl rfl rfl rfl rfl rfl (l.length + 1) (by omega))
 simp [-rd, rd_set, hS, h3]
structure Stf where
 out : List Int
 last : Int
 n : Int
def stfS (x : Stf) (b : Int) : Stf :=
 let n1 := if b = x.last then x.n + 1 else 1
 if n1 = 5 then ⟨x.out ++ [b, 1 - b], 1 - b, 1⟩ else ⟨x.out ++ [b], b, n1⟩
def stuffX (l : List Int) : Stf := l.foldl stfS ⟨[], -1, 0⟩
def stuffB (l : List Int) : List Int := (stuffX l).out
@[simp] def Stf.σ (x : Stf) : Store := [[.d (.int .i64 x.last)], [.d (.int .i64 x.n)]]
theorem stfS_len (x : Stf) (b : Int) : (stfS x b).out.length ≤ x.out.length + 2 := by unfold stfS; dsimp only; generalize (if b = x.last then x.n + 1 else 1) = n1; by_cases h : n1 = 5 <;> simp [h]
theorem stfS_n (x : Stf) (b : Int) (h : 0 ≤ x.n ∧ x.n < 5) : 0 ≤ (stfS x b).n ∧ (stfS x b).n < 5 := by
 unfold stfS
 dsimp only
 have h1 : 0 ≤ (if b = x.last then x.n + 1 else 1) ∧ (if b = x.last then x.n + 1 else 1) ≤ 5 := by
  by_cases h6 : b = x.last
  ·rw [if_pos h6]; omega
  ·rw [if_neg h6]; omega
 generalize (if b = x.last then x.n + 1 else 1) = n1 at h1
 by_cases h : n1 = 5
 ·rw [if_pos h]; simp
 ·rw [if_neg h]; simp only; omega
theorem stf_inv : ∀ (l : List Int) (x : Stf), 0 ≤ x.n ∧ x.n < 5 → (0 ≤ (l.foldl stfS x).n ∧ (l.foldl stfS x).n < 5) ∧ (l.foldl stfS x).out.length ≤ x.out.length + 2 * l.length
 | [], x, h => ⟨h, by simp⟩
 | b :: l, x, h => by
  obtain ⟨h1, h2⟩ := stf_inv l (stfS x b) (stfS_n x b h)
  have := stfS_len x b
  exact ⟨h1, by simp only [List.foldl_cons, List.length_cons]; omega⟩
theorem b_run (last n b : Int) (hn : 0 ≤ n ∧ n < 100) : callIt E1 (evI E1) 223 [.d (.int .i64 b), .ptr 0 0, .ptr 1 0] [[.d (.int .i64 last)], [.d (.int .i64 n)]] = some (.d (.int .i64 (if b = last then n + 1 else 1)), [[.d (.int .i64 b)], [.d (.int .i64 (if b = last then n + 1 else 1))]]) := by
 refine call_im (σ' := [[.d (.int .i64 b)], [.d (.int .i64 (if b = last then n + 1 else 1))]]) rfl rfl rfl ?_ rfl rfl rfl
 refine evI_run (fn := Tryz.f223) 5 rfl Tryz.func223 rfl ?_
 have w : IntKind.i64.wrap (n + 1) = n + 1 := wrap_ok (by omega) (by omega)
 have w1 : IntKind.i64.wrap 1 = 1 := wrap_ok (by omega) (by omega)
 by_cases h : b = last
 ·subst h
  simp [Tryz.f223, w, List.set]
 ·have hb : (b != last) = true := by simpa using h
  simp [Tryz.f223, w1, h, hb, List.set]
theorem l_stuff (m : Nat) (l : List Int) (hl : l.length ≤ 400) (S : List PV) (hS : S.length = 33) (h3 : rd S 3 = .e0) (h4 : rd S 4 = .func (.func 223) [] [.ptr 0 0, .ptr 1 0]) (h8 : rd S 8 = .d (.slice (l.map intD))) (h9 : rd S 9 = .d (.int .i64 l.length)) (h10 : rd S 10 = .d (.int .i64 0)) (hbit : ∀ x ∈ l, x = 0 ∨ x = 1) (k : Nat) (hk : l.length < k) :
  Lp (loopN (evCode E1 (evI E1) m (theLoop Tryz.f190 0)) k ⟨S, (Stf.mk [] (-1) 0).σ⟩) fun r => ∃ (S' : List PV) (σ' : Store), r = (.exit 0, ⟨S', σ'⟩) ∧ S'.length = 33 ∧ rd S' 3 = acc ((stuffB l).map intD) := by
 refine loop_inv (fun i st => ∃ S : List PV, st = ⟨S, (stuffX (l.take i)).σ⟩ ∧ S.length = 33 ∧ rd S 3 = acc ((stuffB (l.take i)).map intD) ∧ rd S 4 = .func (.func 223) [] [.ptr 0 0, .ptr 1 0] ∧ rd S 8 = .d (.slice (l.map intD)) ∧ rd S 9 = .d (.int .i64 l.length) ∧ rd S 10 = .d (.int .i64 i)) _ l.length ?_ ?_ k 0 _ (by omega) (by omega) ⟨S, rfl, hS, h3, h4, h8, h9, h10⟩
 ·rintro i st hi ⟨S, rfl, hS, h3, h4, h8, h9, h10⟩
  have htk : stuffX (l.take (i + 1)) = stfS (stuffX (l.take i)) l[i] := by rw [stuffX, List.take_add_one, List.getElem?_eq_getElem hi, List.foldl_append]; rfl
  obtain ⟨hin, hil⟩ := stf_inv (l.take i) ⟨[], -1, 0⟩ (by simp)
  have hil' : (stuffX (l.take i)).out.length ≤ 800 := Nat.le_trans hil (by simp; omega)
  replace hin : 0 ≤ (stuffX (l.take i)).n ∧ (stuffX (l.take i)).n < 5 := hin
  unfold stuffB at h3 ⊢
  rw [htk]
  have hb01 := hbit l[i] (List.getElem_mem hi)
  generalize hx : l[i] = b at hb01
  clear htk hil
  generalize stuffX (l.take i) = X at h3 hin hil' ⊢
  obtain ⟨out, last, n⟩ := X
  simp only at h3 hin hil'
  have r1 := b_run last n b (by omega)
  have a1 := row_app (A := out) (B := [b]) (by simp; omega)
  have hlt : (i : Int) < (l.length : Int) := by omega
  unfold stfS
  dsimp only
  generalize hn1 : (if b = last then n + 1 else 1) = n1 at r1 ⊢
  by_cases h5 : n1 = 5
  ·rw [if_pos h5]
   subst h5
   have r2 := b_run b 5 (1 - b) (by omega)
   rw [if_neg (by omega : ¬ 1 - b = b)] at r2
   have a2 := row_app (A := out ++ [b]) (B := [1 - b]) (by simp; omega)
   have e2 : out ++ [b] ++ [1 - b] = out ++ [b, 1 - b] := by simp
   rw [e2] at a2
   have w : IntKind.i64.wrap (1 - b) = 1 - b := wrap_ok (by omega) (by omega)
   generalize out ++ [b, 1 - b] = O2 at a2 ⊢
   generalize out ++ [b] = O1 at a1 a2
   generalize hc : 1 - b = c at r2 a2 w ⊢
   simp at a1 a2 r1 r2
   simp [theLoop, Tryz.f190, loopsAll, Lp_some, and_assoc, -rd, rd_set, hS, h3, h4, h8, h9, h10, hlt, hi, hx, r1, r2, a1, a2, hc, w, rowsFrom, wrap_succ i (by omega)]
  ·rw [if_neg h5]
   have hne : (n1 == 5) = false := by simpa using h5
   generalize out ++ [b] = O1 at a1 ⊢
   simp at a1 r1
   simp [theLoop, Tryz.f190, loopsAll, Lp_some, and_assoc, -rd, rd_set, hS, h3, h4, h8, h9, h10, hlt, hi, hx, r1, a1, hne, rowsFrom, wrap_succ i (by omega)]
 ·rintro st ⟨S, rfl, hS, h3, h4, h8, h9, h10⟩
  rw [List.take_length] at h3
  generalize stuffB l = B at h3 ⊢
  simp [theLoop, Tryz.f190, loopsAll, Lp_some, and_assoc, -rd, rd_set, hS, h3, h4, h8, h9, h10]
end Go.Proofs

set_option maxRecDepth 100000
set_option maxHeartbeats 8000000
namespace Go.Proofs
open Go.RowKit Go.Shelf Go.Pv
theorem retOf_acc (r : List (List DV)) : retOf (acc r) = acc r := by cases r <;> rfl
theorem b_runner : callIt E1 (evI E1) 216 [] [] = some (.func (.func 223) [] [.ptr 0 0, .ptr 1 0], (Stf.mk [] (-1) 0).σ) := by
 refine call_ptr rfl rfl rfl ?_ rfl rfl
 refine evI_run (fn := Tryz.f216) 5 rfl Tryz.func216 rfl ?_
 simp [Tryz.f216]
theorem b_stuff (l : List Int) (hl : l.length ≤ 400) (hbit : ∀ x ∈ l, x = 0 ∨ x = 1) (σ : Store) : callIt E1 (evI E1) 190 [.d (.slice (l.map intD))] σ = some (acc ((stuffB l).map intD), σ) := by
 refine call_run (fn := Tryz.f190) (l.length + 1) rfl rfl rfl Tryz.func190 rfl rfl ?_ (acc_data _)
 have hr := b_runner
 simp at hr
 simp [Tryz.f190, ec_loop, hr]
 generalize hLL : loopN _ _ _ = L
 obtain ⟨r, rfl, S, σ', rfl, hS, h3⟩ := at_loop hLL (l_stuff (l.length + 1) l hl _ rfl rfl rfl rfl rfl rfl hbit (l.length + 1) (by omega))
 simp [-rd, rd_set, hS, h3]
 exact retOf_acc _
def allBit (l : List Int) : Prop := ∀ x ∈ l, x = 0 ∨ x = 1
theorem allBit.app {a b : List Int} (ha : allBit a) (hb : allBit b) : allBit (a ++ b) := by
 intro x hx
 rcases List.mem_append.1 hx with h | h
 ·exact ha x h
 ·exact hb x h
theorem bitsOf_bits (v : Int) (m : Nat) : allBit (bitsOf v m) := by
 intro x hx
 simp only [bitsOf, List.mem_map] at hx
 obtain ⟨k, _, rfl⟩ := hx
 omega
theorem bit8_eq (x : Int) (k : Nat) (hx : 0 ≤ x ∧ x < 256) : bit8 x k = (x / 2 ^ (8 - 1 - k)) % 2 := by
 have hp : (0 : Int) < 2 ^ (8 - 1 - k) := Int.pow_pos (by decide)
 have h1 : 0 ≤ x / 2 ^ (8 - 1 - k) := Int.ediv_nonneg hx.1 (Int.le_of_lt hp)
 have h2 : x / 2 ^ (8 - 1 - k) < 256 := Int.lt_of_le_of_lt (Int.ediv_le_self _ hx.1) hx.2
 exact bits_one _ (by omega)
theorem spreadL_bits (bs : List Int) (hb : byOk bs) : spreadL bs = bs.flatMap fun x => bitsOf x 8 := by
 unfold spreadL
 induction bs with
 | nil => rfl
 | cons x bs ih =>
  rw [List.flatMap_cons, List.flatMap_cons, ih (fun y hy => hb y (by simp [hy]))]
  congr 1
  unfold upto bitsOf
  exact List.map_congr_left fun k _ => bit8_eq x k (hb x (by simp))
theorem spread_allBit (bs : List Int) (hb : byOk bs) : allBit (spreadL bs) := by
 rw [spreadL_bits bs hb]
 intro x hx
 obtain ⟨y, _, h⟩ := List.mem_flatMap.1 hx
 exact bitsOf_bits y 8 x h
theorem rank_allBit (f : Fr) : allBit f.rank := f.rank_bit
theorem head_allBit (f : Fr) (hb : byOk f.data) : allBit f.head := by
 have h0 : allBit [0] := fun x hx => by simp at hx; omega
 unfold Fr.head
 refine ((((h0.app (rank_allBit f)).app h0).app ?_).app (bitsOf_bits _ _)).app (spread_allBit _ hb)
 cases f.e
 ·intro x hx; simp at hx
 ·exact h0
def Fr.body (f : Fr) : List Int := f.head ++ bitsOf (crcB f.head) 15
def Fr.wire (f : Fr) : List Int := stuffB f.body ++ bitsOf 1023 10
theorem stuffB_len (l : List Int) : (stuffB l).length ≤ 2 * l.length := by
 have := (stf_inv l ⟨[], -1, 0⟩ (by simp)).2
 simp only [List.length_nil, Nat.zero_add] at this
 exact this
theorem head_len (f : Fr) (hf : f.right = true) : f.head.length ≤ 120 := by
 obtain ⟨_, hl1, hl2, hdl⟩ := f.right_iff.1 hf
 have hdl8 : f.data.length ≤ 8 := by
  cases hr : f.rm <;> rw [hr] at hdl <;> simp only [if_true, if_false, Bool.false_eq_true] at hdl <;> omega
 have hrl := f.rank_len
 unfold Fr.head
 cases f.e <;> simp [spreadL_len, bitsOf] <;> omega
theorem b_wire (f : Fr) (hf : f.right = true) (hb : byOk f.data) (σ : Store) : callIt E1 (evI E1) 141 [f.P] σ = some (acc (f.wire.map intD), σ) := by
 refine call_run (fn := Tryz.f141) 5 rfl rfl rfl Tryz.func141 rfl rfl ?_ (acc_data _)
 have h1 := fun σ => b_fhead f hf hb σ
 have hhl := head_len f hf
 have h2 := fun σ => b_crc f.head (by omega) σ
 have h3 := fun σ => c90 (crcB f.head) 15 (by omega) (crcB_lt _) σ
 have h4 := fun σ => c90 1023 10 (by omega) (by decide) σ
 rw [bitRows_map] at h3 h4
 have hbl : (f.head ++ bitsOf (crcB f.head) 15).length ≤ 135 := by simp [bitsOf]; omega
 have a1 := row_app (A := f.head) (B := bitsOf (crcB f.head) 15) (by simp [bitsOf]; omega)
 have h5 := fun σ => b_stuff f.body (by unfold Fr.body; omega) ((head_allBit f hb).app (bitsOf_bits _ _)) σ
 have hsl := stuffB_len f.body
 have a2 := row_app (A := stuffB f.body) (B := bitsOf 1023 10) (by rw [show (bitsOf 1023 10).length = 10 by simp [bitsOf]]; unfold Fr.body at hsl ⊢; omega)
 unfold Fr.wire
 rw [← Fr.body] at a1
 obtain ⟨e, fid, rm, ln, data⟩ := f
 generalize Fr.body ⟨e, fid, rm, ln, data⟩ = bd at h5 a1 a2 ⊢
 generalize Fr.head ⟨e, fid, rm, ln, data⟩ = hd at h1 h2 h3 a1
 generalize crcB hd = c at h2 h3 a1
 generalize bitsOf c 15 = B1 at h3 a1
 generalize bitsOf 1023 10 = B2 at h4 a2 ⊢
 generalize stuffB bd = sb at h5 a2 ⊢
 generalize sb ++ B2 = W at a2 ⊢
 simp at h1 h2 h3 h4 h5 a1 a2
 simp [Tryz.f141, h1, h2, h3, h4, h5, a1, a2]
 try exact retOf_acc _
theorem b_wlen (f : Fr) (hf : f.right = true) (hb : byOk f.data) (σ : Store) : callIt E1 (evI E1) 72 [f.P] σ = some (.d (.int .i64 f.wire.length), σ) := by
 refine call_run (fn := Tryz.f72) 5 rfl rfl rfl Tryz.func72 rfl rfl ?_ rfl
 have h := fun σ => b_wire f hf hb σ
 simp at h
 simp [Tryz.f72, h]
end Go.Proofs

set_option maxRecDepth 100000
set_option maxHeartbeats 8000000
namespace Go.Proofs
open Go.RowKit Go.Shelf Go.Pv
theorem lst_store7 {T : Store} {a b c d e f g a' b' c' d' e' f' g' : PV} : storeS (T ++ [[a, b, c, d, e, f, g]]) T.length 0 [a', b', c', d', e', f', g'] = some (T ++ [[a', b', c', d', e', f', g']]) := by unfold storeS; simp
theorem lst_load7 {T : Store} {a b c d e f g : PV} : loadS (T ++ [[a, b, c, d, e, f, g]]) T.length 0 7 = some [a, b, c, d, e, f, g] := by unfold loadS; simp
section slot
variable {l : List Nd} (hg : ∀ n ∈ l, n.good) {σ : Store} {il : Nat} (hl : σ[il]? = some [.d (.slice (l.map Nd.D))]) (i : Nat) (hi : i < l.length)
include hg hl hi
theorem s_quiet : callIt E1 (evI E1) 68 [.d (.int .i64 i), .ptr il 0] σ = some ((nd l i).Quiet.P, σ) := by
 have hn : nd l i = l[i] := by simp [nd, List.getD, hi]
 have hgi := hg l[i] (List.getElem_mem hi)
 rw [hn]
 generalize hx : l[i] = n at hgi
 have hq := fun σ => b_Quiet n hgi.c σ
 generalize n.Quiet = n1 at hq
 refine call_im (σ' := σ ++ [cellsOf n1.P]) rfl rfl rfl ?_ rfl rfl (by simp)
 refine evI_run (fn := Tryz.f68) 5 rfl Tryz.func68 rfl ?_
 have h1 : ∀ x, loadS (σ ++ [x]) il 0 1 = some [.d (.slice (l.map Nd.D))] := fun x => loadS_one (pre_get hl) rfl
 simp at hq
 simp [Tryz.f68, -loadS, -storeS, h1, hi, hx, hq, lst_store7, lst_load7, cellsOf]
variable {i6 id : Nat} {x : Ln} (hxl : x.l = l) (h6 : σ[i6]? = some [.ptr id 0]) (h : σ[id]? = some x.C) (hal : x.al.length ≤ 1000000) (hwho : x.who.length ≤ 1000000)
include hxl h6 h hal hwho
def Ln.two (x : Ln) (i : Nat) : Nd := if x.sends i then (nd x.l i).Sent true else (nd x.l i).Heard x.f (!x.sees i) false
theorem s_two : callIt E1 (evI E1) 74 [.d (.int .i64 i), .ptr i6 0, .ptr il 0] σ = some ((x.two i).P, σ) := by
 subst hxl
 have hn : nd x.l i = x.l[i] := by simp [nd, List.getD, hi]
 have hgi := hg x.l[i] (List.getElem_mem hi)
 unfold Ln.two
 rw [hn]
 generalize hx : x.l[i] = n at hgi
 have hs := fun σ => b_Sent n true (Nat.le_trans hgi.q (by omega)) hgi.r hgi.c σ
 have hh := fun σ => b_Heard n x.f (!x.sees i) false (Nat.le_trans hgi.g (by omega)) (Nat.le_trans hgi.fs (by omega)) hgi.c σ
 have h1 : ∀ y, loadS (σ ++ [y]) il 0 1 = some [.d (.slice (x.l.map Nd.D))] := fun y => loadS_one (pre_get hl) rfl
 have h2 : ∀ y, loadS (σ ++ [y]) i6 0 1 = some [.ptr id 0] := fun y => loadS_one (pre_get h6) rfl
 have q3 := fun y => ln_3 (pre_get (T := [y]) h)
 have q1 := fun y => b_sends (pre_get (T := [y]) h) hal i
 have q2 := fun y => b_sees (pre_get (T := [y]) h) hwho i
 generalize n.Sent true = n1 at hs ⊢
 generalize n.Heard x.f (!x.sees i) false = n2 at hh ⊢
 have hse : x.sees i = x.who.contains (i : Int) := rfl
 have hsn : x.sends i = x.al.contains (i : Int) := rfl
 rw [← hse] at q2
 rw [← hsn] at q1
 generalize x.sees i = b2 at hh q2
 cases hc : x.sends i <;> rw [hc] at q1
 ·refine call_im (σ' := σ ++ [cellsOf n2.P]) rfl rfl rfl ?_ rfl rfl (by simp)
  refine evI_run (fn := Tryz.f74) 5 rfl Tryz.func74 rfl ?_
  simp only [cellsOf, Fr.P] at q3 hh
  simp at hh
  simp [Tryz.f74, -loadS, -storeS, h1, h2, hi, hx, hh, q1, q2, q3, lst_store7, lst_load7, cellsOf]
  done
 ·refine call_im (σ' := σ ++ [cellsOf n1.P]) rfl rfl rfl ?_ rfl rfl (by simp)
  refine evI_run (fn := Tryz.f74) 5 rfl Tryz.func74 rfl ?_
  simp at hs
  simp [Tryz.f74, -loadS, -storeS, h1, h2, hi, hx, hs, q1, lst_store7, lst_load7, cellsOf]
  done
def Ln.three (x : Ln) (A : Bool) (i : Nat) : Nd := if x.sends i then (if !A && ((nd x.l i).c.s == 2) then nd x.l i else (nd x.l i).Sent false) else (nd x.l i).Heard x.f false (x.loud i)
variable {i8 : Nat} {A : Bool} (h8 : σ[i8]? = some [.d (.bool A)])
include h8
theorem s_three : callIt E1 (evI E1) 79 [.d (.int .i64 i), .ptr i6 0, .ptr il 0, .ptr i8 0] σ = some ((x.three A i).P, σ) := by
 subst hxl
 have hn : nd x.l i = x.l[i] := by simp [nd, List.getD, hi]
 have hgi := hg x.l[i] (List.getElem_mem hi)
 unfold Ln.three
 rw [hn]
 have q4 := fun y => b_loud (pre_get (T := [y]) h) hal hwho hg i hi
 generalize hx : x.l[i] = n at hgi
 have hs := fun σ => b_Sent n false (Nat.le_trans hgi.q (by omega)) hgi.r hgi.c σ
 have hh := fun σ => b_Heard n x.f false (x.loud i) (Nat.le_trans hgi.g (by omega)) (Nat.le_trans hgi.fs (by omega)) hgi.c σ
 have h1 : ∀ y, loadS (σ ++ [y]) il 0 1 = some [.d (.slice (x.l.map Nd.D))] := fun y => loadS_one (pre_get hl) rfl
 have h2 : ∀ y, loadS (σ ++ [y]) i6 0 1 = some [.ptr id 0] := fun y => loadS_one (pre_get h6) rfl
 have h3 : ∀ y, loadS (σ ++ [y]) i8 0 1 = some [.d (.bool A)] := fun y => loadS_one (pre_get h8) rfl
 have q3 := fun y => ln_3 (pre_get (T := [y]) h)
 have q1 := fun y => b_sends (pre_get (T := [y]) h) hal i
 generalize n.Sent false = n1 at hs ⊢
 generalize n.Heard x.f false (x.loud i) = n2 at hh ⊢
 generalize x.loud i = ld at hh q4
 have hsn : x.sends i = x.al.contains (i : Int) := rfl
 rw [← hsn] at q1
 cases hc : x.sends i <;> rw [hc] at q1
 ·refine call_im (σ' := σ ++ [cellsOf n2.P]) rfl rfl rfl ?_ rfl rfl (by simp)
  refine evI_run (fn := Tryz.f79) 5 rfl Tryz.func79 rfl ?_
  simp only [cellsOf, Fr.P] at q3 hh
  simp at hh
  simp [Tryz.f79, -loadS, -storeS, h1, h2, hi, hx, hh, q1, q3, q4, lst_store7, lst_load7, cellsOf]
  done
 ·simp at hs
  cases A
  ·cases h2s : (n.c.s == 2)
   ·refine call_im (σ' := σ ++ [cellsOf n1.P]) rfl rfl rfl ?_ rfl rfl (by simp)
    refine evI_run (fn := Tryz.f79) 5 rfl Tryz.func79 rfl ?_
    simp [Tryz.f79, -loadS, -storeS, h1, h2, h3, hi, hx, hs, h2s, q1, lst_store7, lst_load7, cellsOf]
    done
   ·refine call_im (σ' := σ ++ [cellsOf n.P]) rfl rfl rfl ?_ rfl rfl (by simp)
    refine evI_run (fn := Tryz.f79) 5 rfl Tryz.func79 rfl ?_
    simp [Tryz.f79, -loadS, -storeS, h1, h2, h3, hi, hx, hs, h2s, q1, lst_store7, lst_load7, cellsOf]
    done
  ·refine call_im (σ' := σ ++ [cellsOf n1.P]) rfl rfl rfl ?_ rfl rfl (by simp)
   refine evI_run (fn := Tryz.f79) 5 rfl Tryz.func79 rfl ?_
   simp [Tryz.f79, -loadS, -storeS, h1, h2, h3, hi, hx, hs, q1, lst_store7, lst_load7, cellsOf]
   done
end slot
end Go.Proofs

set_option maxRecDepth 100000
set_option maxHeartbeats 8000000
namespace Go.Proofs
open Go.RowKit Go.Shelf Go.Pv
theorem loadS_cons0 (c : List PV) (σ : Store) (off n : Nat) : loadS (c :: σ) 0 off n = if off + n ≤ c.length then some ((c.drop off).take n) else none := rfl
theorem loadS_consS (c : List PV) (σ : Store) (k off n : Nat) : loadS (c :: σ) (k + 1) off n = loadS σ k off n := rfl
theorem sfx_load0 (T S : Store) (off n : Nat) : loadS (T ++ S) T.length off n = loadS S 0 off n := by unfold loadS; rw [List.getElem?_append_right (Nat.le_refl _), Nat.sub_self]
theorem sfx_load (T S : Store) (k off n : Nat) : loadS (T ++ S) (T.length + k) off n = loadS S k off n := by unfold loadS; rw [List.getElem?_append_right (Nat.le_add_right _ _), Nat.add_sub_cancel_left]
theorem storeS_cons0 (c : List PV) (σ : Store) (off : Nat) (vs : List PV) : storeS (c :: σ) 0 off vs = if off + vs.length ≤ c.length then some ((c.take off ++ vs ++ c.drop (off + vs.length)) :: σ) else none := rfl
theorem storeS_consS (c : List PV) (σ : Store) (k off : Nat) (vs : List PV) : storeS (c :: σ) (k + 1) off vs = (storeS σ k off vs).map (c :: ·) := by
 unfold storeS
 simp only [List.getElem?_cons_succ, List.set_cons_succ]
 cases σ[k]? with
 | none => rfl
 | some cs =>
  simp only [Option.bind_some]
  split <;> rfl
theorem sfx_store (T S : Store) (k off : Nat) (vs : List PV) : storeS (T ++ S) (T.length + k) off vs = (storeS S k off vs).map (T ++ ·) := by
 induction T with
 | nil => simp
 | cons c T ih =>
  rw [List.cons_append, List.length_cons, show T.length + 1 + k = (T.length + k) + 1 by omega, storeS_consS, ih]
  cases storeS S k off vs <;> rfl
theorem sfx_store0 (T S : Store) (off : Nat) (vs : List PV) : storeS (T ++ S) T.length off vs = (storeS S 0 off vs).map (T ++ ·) := sfx_store T S 0 off vs
structure Td where
 w : Int
 f : Fr
 bad : Bool
 z : Int
@[simp] def Td.P (t : Td) : PV := .agg [.d (.int .i64 t.w), .d (.bool t.f.e), .d (.int .i64 t.f.id), .d (.bool t.f.rm), .d (.int .i64 t.f.ln), .d (.slice (t.f.data.map byD)), .d (.bool t.bad), .d (.int .i64 t.z)]
@[simp] def Td.D (t : Td) : List DV := [.int .i64 t.w, .bool t.f.e, .int .i64 t.f.id, .bool t.f.rm, .int .i64 t.f.ln, .slice (t.f.data.map byD), .bool t.bad, .int .i64 t.z]
def Ln.anyLoud (x : Ln) : Bool := (List.range x.l.length).any x.loud
def Ln.anyHears (x : Ln) : Bool := (List.range x.l.length).any x.hears
def slotL (l : List Nd) (who : List Int) : List Nd × Td :=
 if sndL l = [] then ((List.range l.length).map fun i => (nd l i).Quiet, ⟨-1, fr0, false, 11⟩)
 else
  let x := lineOf l who
  if !x.anyLoud && x.anyHears then ((List.range l.length).map x.two, ⟨x.w, x.f, true, (x.f.wire.length : Int) + 3⟩)
  else ((List.range l.length).map (x.three x.anyLoud), ⟨x.w, x.f, false, (x.f.wire.length : Int) + 23⟩)
theorem b_slot0 (l : List Nd) (hg : ∀ n ∈ l, n.good) (hl : l.length ≤ 1000) (who : List Int) (hs : sndL l = []) (σ : Store) : callIt E1 (evI E1) 24 [.d (.slice (l.map Nd.D)), .agg [.d (.slice (who.map intD))]] σ = some (.tup [.d (.slice ((slotL l who).1.map Nd.D)), (slotL l who).2.P], σ) := by
 refine call_run (fn := Tryz.f24) 5 rfl rfl rfl Tryz.func24 rfl rfl ?_ rfl
 unfold slotL
 rw [if_pos hs]
 simp only
 have hst := fun σ => b_begin0 l hg hl (.slice (who.map intD)) hs σ
 have hea := fun (σ : Store) (hσ : σ[0]? = some [.d (.slice (l.map Nd.D))]) => b_each l hl 68 [.ptr 0 0] (fun i => (nd l i).Quiet) σ (fun i hi => s_quiet hg hσ i hi)
 generalize (List.range l.length).map (fun i => (nd l i).Quiet) = out at hea ⊢
 have hea2 := fun S => hea ([PV.d (.slice (l.map Nd.D))] :: S) rfl
 clear hea
 try simp at hea2
 simp [Tryz.f24, -loadS, -storeS, loadS_cons0, loadS_consS, storeS_cons0, storeS_consS, hst, hea2, fr0]
 done
theorem alongL_len (P : List (Int × Fr)) (f : Fr) : (alongL P f).length ≤ P.length := List.length_filterMap_le _ _
def bytesOk (l : List Nd) : Prop := ∀ n ∈ l, ∀ f ∈ n.q, byOk f.data
theorem wire_len (f : Fr) (hf : f.right = true) : f.wire.length ≤ 400 := by
 have h1 := head_len f hf
 have h2 := stuffB_len f.body
 unfold Fr.wire
 unfold Fr.body at h2 ⊢
 simp [bitsOf] at h2 ⊢
 omega
theorem b_slot1 (l : List Nd) (hg : ∀ n ∈ l, n.good) (hb : bytesOk l) (hl : l.length ≤ 1000) (who : List Int) (hwl : who.length ≤ 1000000) (hs : sndL l ≠ []) (σ : Store) : callIt E1 (evI E1) 24 [.d (.slice (l.map Nd.D)), .agg [.d (.slice (who.map intD))]] σ = some (.tup [.d (.slice ((slotL l who).1.map Nd.D)), (slotL l who).2.P], σ) := by
 refine call_run (fn := Tryz.f24) 5 rfl rfl rfl Tryz.func24 rfl rfl ?_ rfl
 unfold slotL
 rw [if_neg hs]
 simp only
 obtain ⟨J, id, hst, hid⟩ := b_begin1 l hg hl who hs [[PV.d (.slice (l.map Nd.D))], [PV.d (.slice (who.map intD))], [PV.d (.int .i64 0), PV.d (.bool false), PV.d (.int .i64 0), PV.d (.bool false), PV.d (.int .i64 0), PV.e0, PV.d (.bool false), PV.d (.int .i64 0)]]
 obtain ⟨k, p, hk, hkp, hpm, hwi, hln⟩ := lineOf_f hg who hs
 have hpr := sndL_right hg p hpm
 have hpb : byOk p.2.data := by
  obtain ⟨i, n, hn, h2, rfl⟩ := sndL_mem hpm
  exact hb n (List.mem_of_getElem? hn) _ (Next_mem h2)
 have hal : (lineOf l who).al.length ≤ 1000000 := by rw [hln]; exact Nat.le_trans (alongL_len _ _) (Nat.le_trans (sndL_len l) (by omega))
 have hxl : (lineOf l who).l = l := by rw [hln]
 have hxw : (lineOf l who).who.length ≤ 1000000 := by rw [hln]; exact hwl
 have hxf : (lineOf l who).f.right = true := by rw [hln]; exact hpr
 have hxb : byOk (lineOf l who).f.data := by rw [hln]; exact hpb
 clear hln hwi hkp hpm hpr hpb hk
 generalize lineOf l who = x at hid hal hxl hxw hxf hxb ⊢
 have hgx : ∀ n ∈ x.l, n.good := by rw [hxl]; exact hg
 have hwl := fun σ => b_wlen x.f hxf hxb σ
 have hwb := wire_len x.f hxf
 generalize x.f.wire.length = wl at hwl hwb ⊢
 -- the store from here on
 have hX : ∀ S : Store, ([PV.d (.slice (l.map Nd.D))] :: [PV.d (.slice (who.map intD))] :: [PV.d (.int .i64 0), PV.d (.bool false), PV.d (.int .i64 0), PV.d (.bool false), PV.d (.int .i64 0), PV.e0, PV.d (.bool false), PV.d (.int .i64 0)] :: (J ++ S))[id]? = some x.C := fun S => pre_get (T := S) hid
 have q2 := fun S => ln_2 (hX S)
 have q3 := fun S => ln_3 (hX S)
 have any1 := fun S => b_lany x id (by rw [hxl]; exact hl) 71 [.ptr id 0] [] x.loud _ (hX S) (fun i hi => b_loud (hX S) hal hxw hgx i hi)
 have any2 := fun S => b_lany x id (by rw [hxl]; exact hl) 73 [.ptr id 0] [] x.hears _ (hX S) (fun i hi => b_hears (hX S) hal i hi)
 have ea2 := fun S h6 => b_each l hl 74 [.ptr (J.length + 3) 0, .ptr 0 0] x.two _ (fun i hi => s_two hg (il := 0) (i6 := J.length + 3) rfl i hi hxl h6 (hX S) hal hxw)
 have ea3 := fun S A h6 h8 => b_each l hl 79 [.ptr (J.length + 3) 0, .ptr 0 0, .ptr (J.length + 4) 0] (x.three A) _ (fun i hi => s_three hg (il := 0) (i6 := J.length + 3) (i8 := J.length + 4) rfl i hi hxl h6 (hX S) hal hxw (A := A) h8)
 rw [← Ln.anyLoud] at any1
 rw [← Ln.anyHears] at any2
 have ea2' := fun rest => ea2 ([.ptr id 0] :: rest) (by simp)
 have ea3' := fun A rest => ea3 ([.ptr id 0] :: [.d (.bool A)] :: rest) A (by simp) (by
  simp only [List.getElem?_cons_succ]
  rw [List.getElem?_append_right (by omega), Nat.add_sub_cancel_left]
  rfl)
 clear ea2 ea3
 generalize x.anyHears = B at any2 ⊢
 generalize hA : x.anyLoud = A at any1 ⊢
 have ea3 := fun rest => ea3' A rest
 clear ea3'
 generalize (List.range l.length).map x.two = M2 at ea2' ⊢
 generalize (List.range l.length).map (x.three A) = M3 at ea3 ⊢
 have w3 : IntKind.i64.wrap ((wl : Int) + 3) = wl + 3 := wrap_ok (by omega) (by omega)
 have w23 : IntKind.i64.wrap ((wl : Int) + 23) = wl + 23 := wrap_ok (by omega) (by omega)
 have hidl : id < J.length + 1 + 1 + 1 := by
  have := (List.getElem?_eq_some_iff.1 hid).1
  simp at this
  omega
 clear hX hid hA hal hxl hxw hxf hxb hgx hwb hg hb hl
 simp only [cellsOf, Fr.P] at q3 hwl
 try simp at hst
 try simp at hwl
 try simp at any1
 try simp at any2
 try simp at ea2'
 try simp at ea3
 cases A
 ·cases B
  ·simp [Tryz.f24, -loadS, -storeS, loadS_cons0, loadS_consS, storeS_cons0, storeS_consS, sfx_load0, sfx_load, sfx_store0, sfx_store, hst, any1, any2, ea2', ea3, q2, q3, hwl, w3, w23, hidl]
   done
  ·simp [Tryz.f24, -loadS, -storeS, loadS_cons0, loadS_consS, storeS_cons0, storeS_consS, sfx_load0, sfx_load, sfx_store0, sfx_store, hst, any1, any2, ea2', ea3, q2, q3, hwl, w3, w23, hidl]
   done
 ·simp [Tryz.f24, -loadS, -storeS, loadS_cons0, loadS_consS, storeS_cons0, storeS_consS, sfx_load0, sfx_load, sfx_store0, sfx_store, hst, any1, any2, ea2', ea3, q2, q3, hwl, w3, w23, hidl]
  done
end Go.Proofs

set_option maxRecDepth 100000
set_option maxHeartbeats 8000000
namespace Go.Proofs
open Go.RowKit Go.Shelf Go.Pv
structure Rt where
 a : Int
 b : Int
 f : Fl
 n : Int
@[simp] def Rt.D (r : Rt) : List DV := [.int .i64 r.a, .int .i64 r.b, .bool r.f.e, .int .i64 r.f.mask, .int .i64 r.f.mt, .int .i64 r.n]
@[simp] def Rt.P (r : Rt) : PV := .agg [.d (.int .i64 r.a), .d (.int .i64 r.b), .d (.bool r.f.e), .d (.int .i64 r.f.mask), .d (.int .i64 r.f.mt), .d (.int .i64 r.n)]
@[simp] theorem rowsOk_Rt (l : List Rt) : rowsOk 6 (l.map Rt.D) = true := rowsOk_map (D := Rt.D) (fun _ => rfl) l
structure Hp where
 b : Int
 f : Fr
@[simp] def Hp.D (h : Hp) : List DV := [.int .i64 h.b, .bool h.f.e, .int .i64 h.f.id, .bool h.f.rm, .int .i64 h.f.ln, .slice (h.f.data.map byD)]
@[simp] def Hp.P (h : Hp) : PV := .agg [.d (.int .i64 h.b), .d (.bool h.f.e), .d (.int .i64 h.f.id), .d (.bool h.f.rm), .d (.int .i64 h.f.ln), .d (.slice (h.f.data.map byD))]
@[simp] theorem rowsOk_Hp (l : List Hp) : rowsOk 6 (l.map Hp.D) = true := rowsOk_map (D := Hp.D) (fun _ => rfl) l
def frsD (l : List Fr) : List DV := [.slice (l.map Fr.D)]
def ndsD (l : List Nd) : List DV := [.slice (l.map Nd.D)]
@[simp] theorem rowsOk_frs (l : List (List Fr)) : rowsOk 1 (l.map frsD) = true := rowsOk_map (D := frsD) (fun _ => rfl) l
@[simp] theorem rowsOk_nds (l : List (List Nd)) : rowsOk 1 (l.map ndsD) = true := rowsOk_map (D := ndsD) (fun _ => rfl) l
structure Gt where
 rs : List Rt
 cap : Int
 out : List (List Fr)
 lost : List Int
@[simp] def Gt.P (g : Gt) : PV := .agg [.d (.slice (g.rs.map Rt.D)), .d (.int .i64 g.cap), .d (.slice (g.out.map frsD)), .d (.slice (g.lost.map intD))]
structure Nt where
 bs : List (List Nd)
 g : Gt
@[simp] def Nt.P (n : Nt) : PV := .agg [.d (.slice (n.bs.map ndsD)), .d (.slice (n.g.rs.map Rt.D)), .d (.int .i64 n.g.cap), .d (.slice (n.g.out.map frsD)), .d (.slice (n.g.lost.map intD))]
/-! #### Routes -/
def Rt.idOk (r : Rt) : Bool := (r.n == -1) || (decide (r.n ≥ 0) && decide (r.n < if r.f.e then 536870912 else 2048))
theorem b_identifier (r : Rt) (σ : Store) : callIt E1 (evI E1) 128 [r.P] σ = some (.d (.bool r.idOk), σ) := by
 refine call_run (fn := Tryz.f128) 5 rfl rfl rfl Tryz.func128 rfl rfl ?_ rfl
 obtain ⟨a, b, ⟨e, mask, mt⟩, n⟩ := r
 unfold Rt.idOk
 cases h1 : (n == -1)
 ·cases h2 : decide (n ≥ 0)
  ·cases e <;> simp [Tryz.f128, h1, h2]
  ·cases e <;> simp [Tryz.f128, h1, h2]
 ·cases e <;> simp [Tryz.f128, h1]
def Rt.bad (k : Int) (r : Rt) : Bool := decide (r.a < 0) || decide (r.a ≥ k) || decide (r.b < 0) || decide (r.b ≥ k) || (r.a == r.b) || !r.f.right || !r.idOk
def routesOk (l : List Rt) (k : Int) : Bool := !(decide (k < 1) || decide (k > 4) || decide ((l.length : Int) > 16)) && !(l.any (Rt.bad k))
theorem any_take {α : Type} {p : α → Bool} {l : List α} {i : Nat} (hi : i < l.length) : (l.take (i + 1)).any p = ((l.take i).any p || p l[i]) := by
 rw [List.take_add_one, List.getElem?_eq_getElem hi, List.any_append]; simp
theorem any_of {α : Type} {p : α → Bool} {l : List α} {i : Nat} (hi : i < l.length) (h : p l[i] = true) : l.any p = true := List.any_eq_true.2 ⟨_, List.getElem_mem hi, h⟩
theorem l_routeRight (m : Nat) (l : List Rt) (k : Int) (hl : l.length ≤ 16) (S : List PV) (hS : S.length = 63) (h1 : rd S 1 = .d (.int .i64 k)) (h18 : rd S 18 = .d (.slice (l.map Rt.D))) (h19 : rd S 19 = .d (.int .i64 l.length)) (h20 : rd S 20 = .d (.int .i64 0)) (n : Nat) (hn : l.length < n) :
  Lp (loopN (evCode E1 (evI E1) m (theLoop Tryz.f57 0)) n ⟨S, []⟩) fun r => ∃ (J : Store) (S' : List PV), S'.length = 63 ∧ ((r = (.exit 0, ⟨S', J⟩) ∧ l.any (Rt.bad k) = false) ∨ (r = (.ret, ⟨S', J⟩) ∧ rd S' 4 = .d (.bool false) ∧ l.any (Rt.bad k) = true)) := by
 refine loop_inv (fun i st => ∃ (J : Store) (S : List PV), st = ⟨S, J⟩ ∧ S.length = 63 ∧ (l.take i).any (Rt.bad k) = false ∧ rd S 1 = .d (.int .i64 k) ∧ rd S 18 = .d (.slice (l.map Rt.D)) ∧ rd S 19 = .d (.int .i64 l.length) ∧ rd S 20 = .d (.int .i64 i)) _ l.length ?_ ?_ n 0 _ (by omega) (by omega) ⟨[], S, rfl, hS, rfl, h1, h18, h19, h20⟩
 ·rintro i st hi ⟨J, S, rfl, hS, he, h1, h18, h19, h20⟩
  have hlt : (i : Int) < (l.length : Int) := by omega
  have htk := any_take (p := Rt.bad k) hi
  rw [he, Bool.false_or] at htk
  have hall := any_of (p := Rt.bad k) hi
  have c1 := fun σ => b_flRight l[i].f σ
  have c2 := fun σ => b_identifier l[i] σ
  have hx : (l.map Rt.D)[i]? = some (l[i]).D := by simp [hi]
  have hml : (l.map Rt.D).length = l.length := by simp
  generalize (l.take (i + 1)).any (Rt.bad k) = z1 at htk ⊢
  generalize l.any (Rt.bad k) = z2 at hall ⊢
  generalize l[i] = r at htk hall c1 c2 hx
  unfold Rt.bad at htk hall
  generalize r.idOk = io at htk hall c2
  obtain ⟨a, b, f, nn⟩ := r
  simp only at htk hall c1 hx
  generalize f.right = fr at htk hall c1
  obtain ⟨e, mask, mt⟩ := f
  generalize l.map Rt.D = L at hx hml h18 ⊢
  obtain ⟨hi0, hx⟩ := List.getElem?_eq_some_iff.1 hx
  simp only [Rt.D] at hx
  clear he
  try simp at c1
  try simp at c2
  have hw := wrap_succ i (by omega)
  have fin : ∀ (z : Bool), (z = true → z2 = true) → z1 = z → True := fun _ _ _ => trivial
  generalize ha : decide (a < 0) = xa at htk hall
  generalize hb : decide (a ≥ k) = xb at htk hall
  generalize hc : decide (b < 0) = xc at htk hall
  generalize hd : decide (b ≥ k) = xd at htk hall
  generalize he : (a == b) = xe at htk hall
  simp at hb hd
  cases xa
  ·cases xb
   ·cases xc
    ·cases xd
     ·cases xe
      ·cases fr
       ·have h2 := hall (by simp)
        clear htk hall
        subst h2
        simp [theLoop, Tryz.f57, loopsAll, Lp_some, and_assoc, -rd, rd_set, -loadS, -storeS, sfx_load0, sfx_load, sfx_store0, sfx_store, loadS_cons0, storeS_cons0, hS, h1, h18, h19, h20, hlt, hi0, hi, hx, hml, ha, hb, hc, hd, he, c1, hw]
        exact ⟨_, _, by simp [hS], rfl, rfl, by simp [-rd, rd_set, hS]⟩
       ·cases io
        ·have h2 := hall (by simp)
         clear htk hall
         subst h2
         simp [theLoop, Tryz.f57, loopsAll, Lp_some, and_assoc, -rd, rd_set, -loadS, -storeS, sfx_load0, sfx_load, sfx_store0, sfx_store, loadS_cons0, storeS_cons0, hS, h1, h18, h19, h20, hlt, hi0, hi, hx, hml, ha, hb, hc, hd, he, c1, c2, hw]
         exact ⟨_, _, by simp [hS], rfl, rfl, by simp [-rd, rd_set, hS]⟩
        ·simp at htk
         clear hall
         simp [theLoop, Tryz.f57, loopsAll, Lp_some, and_assoc, -rd, rd_set, -loadS, -storeS, sfx_load0, sfx_load, sfx_store0, sfx_store, loadS_cons0, storeS_cons0, hS, h1, h18, h19, h20, hlt, hi0, hi, hx, hml, ha, hb, hc, hd, he, c1, c2, hw, htk]
         done
      ·have h2 := hall (by simp)
       clear htk hall
       subst h2
       simp [theLoop, Tryz.f57, loopsAll, Lp_some, and_assoc, -rd, rd_set, -loadS, -storeS, sfx_load0, sfx_load, sfx_store0, sfx_store, loadS_cons0, storeS_cons0, hS, h1, h18, h19, h20, hlt, hi0, hi, hx, hml, ha, hb, hc, hd, he, hw]
       exact ⟨_, _, by simp [hS], rfl, rfl, by simp [-rd, rd_set, hS]⟩
     ·have h2 := hall (by simp)
      clear htk hall
      subst h2
      simp [theLoop, Tryz.f57, loopsAll, Lp_some, and_assoc, -rd, rd_set, -loadS, -storeS, sfx_load0, sfx_load, sfx_store0, sfx_store, loadS_cons0, storeS_cons0, hS, h1, h18, h19, h20, hlt, hi0, hi, hx, hml, ha, hb, hc, hd, hw]
      exact ⟨_, _, by simp [hS], rfl, rfl, by simp [-rd, rd_set, hS]⟩
    ·have h2 := hall (by simp)
     clear htk hall
     subst h2
     simp [theLoop, Tryz.f57, loopsAll, Lp_some, and_assoc, -rd, rd_set, -loadS, -storeS, sfx_load0, sfx_load, sfx_store0, sfx_store, loadS_cons0, storeS_cons0, hS, h1, h18, h19, h20, hlt, hi0, hi, hx, hml, ha, hb, hc, hw]
     exact ⟨_, _, by simp [hS], rfl, rfl, by simp [-rd, rd_set, hS]⟩
   ·have h2 := hall (by simp)
    clear htk hall
    subst h2
    simp [theLoop, Tryz.f57, loopsAll, Lp_some, and_assoc, -rd, rd_set, -loadS, -storeS, sfx_load0, sfx_load, sfx_store0, sfx_store, loadS_cons0, storeS_cons0, hS, h1, h18, h19, h20, hlt, hi0, hi, hx, hml, ha, hb, hw]
    exact ⟨_, _, by simp [hS], rfl, rfl, by simp [-rd, rd_set, hS]⟩
  ·have h2 := hall (by simp)
   clear htk hall
   subst h2
   simp [theLoop, Tryz.f57, loopsAll, Lp_some, and_assoc, -rd, rd_set, -loadS, -storeS, sfx_load0, sfx_load, sfx_store0, sfx_store, loadS_cons0, storeS_cons0, hS, h1, h18, h19, h20, hlt, hi0, hi, hx, hml, ha, hw]
   exact ⟨_, _, by simp [hS], rfl, rfl, by simp [-rd, rd_set, hS]⟩
 ·rintro st ⟨J, S, rfl, hS, he, h1, h18, h19, h20⟩
  rw [List.take_length] at he
  generalize l.any (Rt.bad k) = z at he ⊢
  subst he
  simp [theLoop, Tryz.f57, loopsAll, Lp_some, and_assoc, -rd, rd_set, hS, h1, h18, h19, h20]
  exact ⟨_, _, by simp [hS], rfl, rfl⟩
theorem b_routeRight (l : List Rt) (k : Int) (σ : Store) : callIt E1 (evI E1) 57 [.d (.slice (l.map Rt.D)), .d (.int .i64 k)] σ = some (.d (.bool (routesOk l k)), σ) := by
 refine call_run (fn := Tryz.f57) 17 rfl rfl rfl Tryz.func57 rfl rfl ?_ rfl
 unfold routesOk
 have hml : (l.map Rt.D).length = l.length := by simp
 have hloop := fun hl => l_routeRight 17 l k hl
 generalize l.any (Rt.bad k) = z at hloop ⊢
 generalize l.map Rt.D = L at hml hloop ⊢
 generalize ha : decide (k < 1) = xa
 generalize hb : decide (k > 4) = xb
 generalize hc : decide ((l.length : Int) > 16) = xc
 simp at hb hc
 cases xa
 ·cases xb
  ·cases xc
   ·have hl : l.length ≤ 16 := by have := of_decide_eq_false hc; omega
    simp [Tryz.f57, ec_loop, hml, ha, hb, hc]
    generalize hLL : loopN _ _ _ = LL
    obtain ⟨r, rfl, J, S, hS, h⟩ := at_loop hLL (hloop hl _ rfl rfl rfl (by rw [← hml]; rfl) rfl 17 (by omega))
    rcases h with ⟨rfl, rfl⟩ | ⟨rfl, h4, rfl⟩
    ·simp [-rd, rd_set, hS]
    ·have h4' := rd_el h4 (by omega)
     simp [-rd, rd_set, hS, h4, h4']
   ·simp [Tryz.f57, ec_loop, hml, ha, hb, hc]
  ·simp [Tryz.f57, ec_loop, hml, ha, hb]
 ·simp [Tryz.f57, ec_loop, hml, ha]
end Go.Proofs

set_option maxRecDepth 100000
set_option maxHeartbeats 8000000
namespace Go.Proofs
open Go.RowKit Go.Shelf Go.Pv
def Gt.row (g : Gt) (k : Int) : List Fr := g.out.getD k.toNat []
def Gt.has (g : Gt) (k : Int) : Bool := decide (k ≥ 0) && (decide (k < (g.out.length : Int)) && decide (((g.row k).length : Int) > 0))
theorem b_has (g : Gt) (k : Int) (σ : Store) : callIt E1 (evI E1) 152 [g.P, .d (.int .i64 k)] σ = some (.d (.bool (g.has k)), σ) := by
 refine call_run (fn := Tryz.f152) 5 rfl rfl rfl Tryz.func152 rfl rfl ?_ rfl
 unfold Gt.has
 have hml : (g.out.map frsD).length = g.out.length := by simp
 cases h1 : decide (k ≥ 0)
 ·simp [Tryz.f152, -loadS, -storeS, loadS_cons0, loadS_consS, storeS_cons0, storeS_consS, cellsOf, h1]
 ·cases h2 : decide (k < (g.out.length : Int))
  ·simp [Tryz.f152, -loadS, -storeS, loadS_cons0, loadS_consS, storeS_cons0, storeS_consS, cellsOf, h1, h2, hml]
  ·have hk0 := of_decide_eq_true h1
   have hk1 := of_decide_eq_true h2
   have hi : k.toNat < g.out.length := by omega
   have hx : (g.out.map frsD)[k.toNat]? = some (frsD (g.row k)) := by simp [Gt.row, hi, List.getD]
   have hneg : ¬ k < 0 := by omega
   have hk0' : 0 ≤ k := by omega
   simp only [Gt.P]
   generalize g.row k = r at hx ⊢
   generalize g.out.map frsD = O at hx hml ⊢
   obtain ⟨hi0, hx⟩ := List.getElem?_eq_some_iff.1 hx
   simp only [frsD] at hx
   simp [Tryz.f152, -loadS, -storeS, loadS_cons0, loadS_consS, storeS_cons0, storeS_consS, cellsOf, h1, h2, hml, hneg, hk0', hi0, hi, hx]
def Gt.Next (g : Gt) (k : Int) : Fr × Bool := if g.has k then ((g.row k).headD fr0, true) else (fr0, false)
theorem b_gNext (g : Gt) (k : Int) (σ : Store) : callIt E1 (evI E1) 98 [g.P, .d (.int .i64 k)] σ = some (.tup [(g.Next k).1.P, .d (.bool (g.Next k).2)], σ) := by
 refine call_run (fn := Tryz.f98) 5 rfl rfl rfl Tryz.func98 rfl rfl ?_ rfl
 have h1 := fun σ => b_has g k σ
 unfold Gt.Next
 cases hh : g.has k
 ·rw [hh] at h1
  try simp at h1
  simp [Tryz.f98, -loadS, -storeS, loadS_cons0, loadS_consS, storeS_cons0, storeS_consS, cellsOf, h1, fr0]
 ·rw [hh] at h1
  unfold Gt.has at hh
  simp only [Bool.and_eq_true, decide_eq_true_eq] at hh
  have hi : k.toNat < g.out.length := by omega
  have hx : (g.out.map frsD)[k.toNat]? = some (frsD (g.row k)) := by simp [Gt.row, hi, List.getD]
  have hml : (g.out.map frsD).length = g.out.length := by simp
  have hneg : ¬ k < 0 := by omega
  have hk0 : 0 ≤ k := by omega
  have hk1 : k < (g.out.length : Int) := hh.2.1
  have hpos := hh.2.2
  simp only [Gt.P]
  generalize g.row k = r at hx hpos ⊢
  try simp at h1
  generalize g.out.map frsD = O at hx hml h1 ⊢
  obtain ⟨hi0, hx⟩ := List.getElem?_eq_some_iff.1 hx
  cases r with
  | nil => simp at hpos
  | cons f r =>
   simp only [frsD] at hx
   simp [Tryz.f98, -loadS, -storeS, loadS_cons0, loadS_consS, storeS_cons0, storeS_consS, cellsOf, h1, hml, hneg, hk0, hk1, hi0, hi, hx]
def waitsL (l : List (List Fr)) : Int := l.foldl (fun n r => n + (r.length : Int)) 0
theorem waitsL_succ (l : List (List Fr)) {i : Nat} (hi : i < l.length) : waitsL (l.take (i + 1)) = waitsL (l.take i) + (l[i].length : Int) := by
 unfold waitsL
 rw [List.take_add_one, List.getElem?_eq_getElem hi, List.foldl_append]; rfl
theorem waitsL_bound (l : List (List Fr)) (hl : ∀ r ∈ l, r.length ≤ 100000) : ∀ n : Nat, n ≤ l.length → 0 ≤ waitsL (l.take n) ∧ waitsL (l.take n) ≤ n * 100000 := by
 intro n
 induction n with
 | zero => intro _; simp [waitsL]
 | succ n ih =>
  intro hn
  have := ih (by omega)
  have h1 := hl _ (List.getElem_mem (show n < l.length by omega))
  rw [waitsL_succ l (by omega)]
  omega
theorem l_waits (m : Nat) (l : List (List Fr)) (hl : l.length ≤ 1000) (hr : ∀ r ∈ l, r.length ≤ 100000) (σ : Store) (S : List PV) (hS : S.length = 19) (h3 : rd S 3 = .d (.int .i64 0)) (h7 : rd S 7 = .d (.slice (l.map frsD))) (h8 : rd S 8 = .d (.int .i64 l.length)) (h9 : rd S 9 = .d (.int .i64 0)) (k : Nat) (hk : l.length < k) :
  Lp (loopN (evCode E1 (evI E1) m (theLoop Tryz.f107 0)) k ⟨S, σ⟩) fun r => ∃ (S' : List PV), r = (.exit 0, ⟨S', σ⟩) ∧ S'.length = 19 ∧ rd S' 3 = .d (.int .i64 (waitsL l)) := by
 refine loop_inv (fun i st => ∃ (S : List PV), st = ⟨S, σ⟩ ∧ S.length = 19 ∧ rd S 3 = .d (.int .i64 (waitsL (l.take i))) ∧ rd S 7 = .d (.slice (l.map frsD)) ∧ rd S 8 = .d (.int .i64 l.length) ∧ rd S 9 = .d (.int .i64 i)) _ l.length ?_ ?_ k 0 _ (by omega) (by omega) ⟨S, rfl, hS, h3, h7, h8, h9⟩
 ·rintro i st hi ⟨S, rfl, hS, h3, h7, h8, h9⟩
  have hlt : (i : Int) < (l.length : Int) := by omega
  have hx : (l.map frsD)[i]? = some (frsD l[i]) := by simp [hi]
  have hs := waitsL_succ l hi
  have hb := waitsL_bound l hr (i + 1) (by omega)
  rw [hs] at hb ⊢
  have hw : IntKind.i64.wrap (waitsL (l.take i) + (l[i].length : Int)) = waitsL (l.take i) + (l[i].length : Int) := wrap_ok (by omega) (by omega)
  generalize waitsL (l.take i) = z at hw h3 ⊢
  generalize l[i] = r at hx hw ⊢
  generalize l.map frsD = O at hx h7 ⊢
  obtain ⟨hi0, hx⟩ := List.getElem?_eq_some_iff.1 hx
  simp only [frsD] at hx
  simp [theLoop, Tryz.f107, loopsAll, Lp_some, and_assoc, -rd, rd_set, hS, h3, h7, h8, h9, hlt, hi0, hx, hw, wrap_succ i (by omega)]
  done
 ·rintro st ⟨S, rfl, hS, h3, h7, h8, h9⟩
  rw [List.take_length] at h3
  simp [theLoop, Tryz.f107, loopsAll, Lp_some, and_assoc, -rd, rd_set, hS, h3, h7, h8, h9]
theorem b_waits (g : Gt) (hl : g.out.length ≤ 1000) (hr : ∀ r ∈ g.out, r.length ≤ 100000) (σ : Store) : callIt E1 (evI E1) 107 [g.P] σ = some (.d (.int .i64 (waitsL g.out)), σ) := by
 refine call_run (fn := Tryz.f107) 1001 rfl rfl rfl Tryz.func107 rfl rfl ?_ rfl
 have hloop := l_waits 1001 g.out hl hr
 have hml : (g.out.map frsD).length = g.out.length := by simp
 generalize waitsL g.out = z at hloop ⊢
 simp only [Gt.P]
 generalize g.out.map frsD = O at hml hloop ⊢
 simp [Tryz.f107, ec_loop, -loadS, -storeS, loadS_cons0, loadS_consS, storeS_cons0, storeS_consS, cellsOf, hml]
 generalize hLL : loopN _ _ _ = LL
 obtain ⟨r, rfl, S, rfl, hS, h3⟩ := at_loop hLL (hloop _ _ rfl rfl rfl rfl rfl 1001 (by omega))
 simp [-rd, rd_set, hS, h3]
end Go.Proofs

set_option maxRecDepth 100000
set_option maxHeartbeats 8000000
namespace Go.Proofs
open Go.RowKit Go.Shelf Go.Pv
theorem evI_run2 {f : FuncId} {fn : Func} {c : Code} {args : List PV} {σ σ' : Store} {v : PV} (m : Nat) (hw : wildF f = true) (hg : E1.good f = true) (hf : E1.P.funcs[f]? = some fn) (hb : fn.body = some c)
  (h : ((evCode (E2 f) (evI E1) m c ⟨args ++ List.replicate (fn.ntmps - args.length) .undef, σ⟩).bind fun r => if r.1 = .normal ∨ r.1 = .ret then (resVal E1.P fn r.2).map fun v => (v, r.2.store) else none) = some (v, σ')) (ht : σ'.take σ.length = σ) : evI E1 f args σ = some (v, σ') := by
 cases hc : evCode (E2 f) (evI E1) m c ⟨args ++ List.replicate (fn.ntmps - args.length) .undef, σ⟩ with
 | none => simp [hc] at h
 | some r =>
  obtain ⟨e, st'⟩ := r
  simp only [hc, Option.bind_some] at h
  split at h
  ·rename_i he
   cases hv : resVal E1.P fn st' with
   | none => rw [hv] at h; cases h
   | some u =>
    rw [hv] at h
    simp only [Option.map_some, Option.some.injEq, Prod.mk.injEq] at h
    obtain ⟨rfl, rfl⟩ := h
    exact evI_introW m hg hf hb (by rw [E1at f hw]; exact hc) he (fun _ => ht) hv
  ·cases h
theorem appF1 (A : List Fr) (f : Fr) (h : A.length ≤ 100000) : evAppend Tryz.prog 44 (acc (A.map Fr.D)) (.d (.slice [f.D])) = some (acc ((A ++ [f]).map Fr.D)) := by
 rw [app22 (A.map Fr.D) [f.D] (rowsOk_Fr A) rfl (by simp [roomB]; omega), List.map_append]
 rfl
def rowP (r : List Fr) : PV := .d (.slice (r.map Fr.D))
def RowsAt (σ : Store) (p : PV) (rows : List (List Fr)) : Prop := p = .d (.slice (rows.map frsD)) ∨ ∃ id, p = .ms id 0 rows.length 1 ∧ σ[id]? = some (rows.map rowP)
theorem RowsAt.app {σ T : Store} {p : PV} {rows : List (List Fr)} (h : RowsAt σ p rows) : RowsAt (σ ++ T) p rows := by
 rcases h with h | ⟨id, h1, h2⟩
 ·exact .inl h
 ·exact .inr ⟨id, h1, pre_get h2⟩
theorem call_imS {f : FuncId} {args : List PV} {σ σ' σ2 : Store} {u v : PV} (ho : E1.ov f = none) (hp : E1.pure f = false) (hr : E1.ro f = false) (h : evI E1 f args σ = some (u, σ')) (hd : u.isData = true) (hs : u.strip = v) (ht : σ'.take σ.length = σ2) : callIt E1 (evI E1) f args σ = some (v, σ2) := by
 simp [callIt, ho, hp, hr, h, hd, hs, ht]
theorem s_in1 {σ : Store} {h : Nat} (l : List Fr) (p : Hp) (hl : l.length ≤ 100000) (hh : σ[h]? = some (cellsOf p.P)) : callIt E1 (evI E1) 155 [rowP l, .ptr h 0] σ = some (rowP (l ++ [p.f]), σ) := by
 refine call_imS (σ' := σ) (u := acc ((l ++ [p.f]).map Fr.D)) rfl rfl rfl ?_ (acc_data _) (acc_strip _) (by simp)
 refine evI_run (fn := Tryz.f155) 5 rfl Tryz.func155 rfl ?_
 obtain ⟨b, ⟨e, id, rm, ln, data⟩⟩ := p
 have h1 : loadS σ h 1 5 = some [.d (.bool e), .d (.int .i64 id), .d (.bool rm), .d (.int .i64 ln), .d (.slice (data.map byD))] := by
  unfold loadS; rw [hh]; rfl
 have ha := appF1 l ⟨e, id, rm, ln, data⟩ hl
 unfold rowP
 have hml : (l.map Fr.D).length = l.length := by simp
 have hrow := rowsOk_Fr l
 simp only [Fr.D] at ha
 generalize (l ++ [Fr.mk e id rm ln data]).map Fr.D = L1 at ha ⊢
 generalize l.map Fr.D = L at ha hml hrow ⊢
 have htk : L.take l.length = L := by rw [← hml]; exact List.take_length
 simp [Tryz.f155, -loadS, -rowsOk, h1, hrow, htk, hml, rowsFrom, ha]
 cases L1 <;> rfl
theorem b_done1 (l : List Fr) (hl : l ≠ []) (σ : Store) : callIt E1 (evI E1) 154 [rowP l] σ = some (rowP l.tail, σ) := by
 unfold rowP
 refine call_run (fn := Tryz.f154) 5 rfl rfl rfl Tryz.func154 rfl rfl ?_ rfl
 cases l with
 | nil => exact absurd rfl hl
 | cons f l =>
  have h2 := rowsOk_Fr (f :: l)
  simp only [List.map_cons, List.tail_cons, Fr.D] at h2 ⊢
  generalize l.map Fr.D = L at h2 ⊢
  simp [Tryz.f154, -rowsOk, h2]
theorem ms_store {σ : Store} {G R C : List PV} {i : Nat} {v : PV} (h : i < C.length) : storeS (σ ++ [G, R, C]) (σ.length + 2) i [v] = some (σ ++ [G, R, C.set i v]) := by
 have hg : (σ ++ [G, R, C])[σ.length + 2]? = some C := by rw [List.getElem?_append_right (by omega), Nat.add_sub_cancel_left]; rfl
 rw [storeS_one v hg h, List.set_append_right _ _ (by omega), Nat.add_sub_cancel_left]
 rfl
theorem ms_G {σ : Store} {G R C : List PV} {off n : Nat} : loadS (σ ++ [G, R, C]) σ.length off n = if off + n ≤ G.length then some ((G.drop off).take n) else none := by
 rw [sfx_load0]; rfl
theorem l_changed (m : Nat) (σ : Store) (rows : List (List Fr)) (hn : rows.length ≤ 1000) (k : Nat) (hk : k < rows.length) (row' : List Fr) (c : Nat) (caps : List PV) (hce : (extAll true c).isNone = true)
  (hcl : ∀ X : Store, callIt E1 (evI E1) c ([rowP rows[k]] ++ caps.map PV.strip) (σ ++ X) = some (rowP row', σ ++ X)) (outP : PV) (hout : RowsAt σ outP rows) (g0 g1 g3 : PV) (R C0 : List PV) (hC0 : C0.length = rows.length)
  (S : List PV) (hS : S.length = 44) (h1 : rd S 1 = .d (.int .i64 k)) (h2 : rd S 2 = .func (.func c) [] caps) (h3 : rd S 3 = .ptr σ.length 0) (h6 : rd S 6 = .ptr (σ.length + 1) 0) (h7 : rd S 7 = .ms (σ.length + 2) 0 rows.length 1) (h15 : rd S 15 = .d (.int .i64 rows.length)) (h16 : rd S 16 = .d (.int .i64 0)) (kk : Nat) (hkk : rows.length < kk) :
  Lp (loopN (evCode (E2 153) (evI E1) m (theLoop Tryz.f153 0)) kk ⟨S, σ ++ [[g0, g1, outP, g3], R, C0]⟩) fun r => ∃ S' : List PV, r = (.exit 0, ⟨S', σ ++ [[g0, g1, outP, g3], R, (rows.set k row').map rowP]⟩) ∧ S'.length = 44 ∧ rd S' 3 = .ptr σ.length 0 ∧ rd S' 6 = .ptr (σ.length + 1) 0 ∧ rd S' 7 = .ms (σ.length + 2) 0 rows.length 1 := by
 refine loop_inv (fun i st => ∃ (C S : List PV), st = ⟨S, σ ++ [[g0, g1, outP, g3], R, C]⟩ ∧ C.length = rows.length ∧ (∀ j, j < i → C[j]? = ((rows.set k row').map rowP)[j]?) ∧ S.length = 44 ∧ rd S 1 = .d (.int .i64 k) ∧ rd S 2 = .func (.func c) [] caps ∧ rd S 3 = .ptr σ.length 0 ∧ rd S 6 = .ptr (σ.length + 1) 0 ∧ rd S 7 = .ms (σ.length + 2) 0 rows.length 1 ∧ rd S 15 = .d (.int .i64 rows.length) ∧ rd S 16 = .d (.int .i64 i)) _ rows.length ?_ ?_ kk 0 _ (by omega) (by omega) ⟨C0, S, rfl, hC0, by omega, hS, h1, h2, h3, h6, h7, h15, h16⟩
 ·rintro i st hi ⟨C, S, rfl, hCl, hC, hS, h1, h2, h3, h6, h7, h15, h16⟩
  have hlt : (i : Int) < (rows.length : Int) := by omega
  have hiC : i < C.length := by omega
  have hst := fun (C : List PV) v (h : i < C.length) => ms_store (σ := σ) (G := [g0, g1, outP, g3]) (R := R) (C := C) (i := i) (v := v) h
  have hx : (rows.map frsD)[i]? = some (frsD rows[i]) := by simp [hi]
  have hy : (rows.map rowP)[i]? = some (rowP rows[i]) := by simp [hi]
  have hml : (rows.map frsD).length = rows.length := by simp
  have hG := fun (C : List PV) off n => ms_G (σ := σ) (G := [g0, g1, outP, g3]) (R := R) (C := C) (off := off) (n := n)
  by_cases hik : i = k
  ·subst hik
   have hfin : ∀ j, j < i + 1 → (C.set i (rowP row'))[j]? = ((rows.set i row').map rowP)[j]? := by
    intro j hj
    by_cases hji : j = i
    ·subst hji
     rw [List.getElem?_set, if_pos rfl, if_pos hiC]
     simp [hi]
    ·rw [List.getElem?_set, if_neg (Ne.symm hji)]
     exact hC j (by omega)
   have hcl' := fun (C : List PV) => hcl [[g0, g1, outP, g3], R, C]
   generalize rows[i] = r at hx hy hcl'
   generalize (rows.set i row').map rowP = RR at hC hfin ⊢
   simp only [rowP, List.cons_append, List.nil_append] at hy hcl' hfin
   have hfin' : ∀ x, (C.set i x).set i (.d (.slice (row'.map Fr.D))) = C.set i (.d (.slice (row'.map Fr.D))) := fun x => List.set_set _
   rcases hout with rfl | ⟨id, rfl, hid⟩
   ·generalize rows.map frsD = O at hx hml hG hst hcl' ⊢
    obtain ⟨hi0, hx⟩ := List.getElem?_eq_some_iff.1 hx
    simp only [frsD] at hx
    simp [theLoop, Tryz.f153, mkF, loopsAll, Lp_some, and_assoc, -rd, rd_set, -loadS, -storeS, hG, hst, hS, h1, h2, h3, h6, h7, h15, h16, hlt, hi, hi0, hx, hml, hCl, hiC, hcl', E2call _ _ _ _ _ hce, wrap_succ i (by omega), hfin']
    exact hfin
   ·have hld := fun (C : List PV) => loadS_one (pre_get (T := [[g0, g1, .ms id 0 rows.length 1, g3], R, C]) hid) hy
    simp [theLoop, Tryz.f153, mkF, loopsAll, Lp_some, and_assoc, -rd, rd_set, -loadS, -storeS, hG, hst, hld, hS, h1, h2, h3, h6, h7, h15, h16, hlt, hi, hCl, hiC, hcl', E2call _ _ _ _ _ hce, wrap_succ i (by omega), hfin']
    exact hfin
  ·have hb : ((i : Int) == (k : Int)) = false := by simp; omega
   have hfin : ∀ j, j < i + 1 → (C.set i (rowP rows[i]))[j]? = ((rows.set k row').map rowP)[j]? := by
    intro j hj
    by_cases hji : j = i
    ·subst hji
     rw [List.getElem?_set, if_pos rfl, if_pos hiC]
     simp [hi, List.getElem?_set, Ne.symm hik]
    ·rw [List.getElem?_set, if_neg (Ne.symm hji)]
     exact hC j (by omega)
   generalize rows[i] = r at hx hy hfin
   generalize (rows.set k row').map rowP = RR at hC hfin ⊢
   simp only [rowP] at hy hfin
   rcases hout with rfl | ⟨id, rfl, hid⟩
   ·generalize rows.map frsD = O at hx hml hG hst ⊢
    obtain ⟨hi0, hx⟩ := List.getElem?_eq_some_iff.1 hx
    simp only [frsD] at hx
    simp [theLoop, Tryz.f153, mkF, loopsAll, Lp_some, and_assoc, -rd, rd_set, -loadS, -storeS, hG, hst, hS, h1, h2, h3, h6, h7, h15, h16, hlt, hi, hi0, hx, hml, hCl, hiC, hb, wrap_succ i (by omega)]
    exact hfin
   ·have hld := fun (C : List PV) => loadS_one (pre_get (T := [[g0, g1, .ms id 0 rows.length 1, g3], R, C]) hid) hy
    simp [theLoop, Tryz.f153, mkF, loopsAll, Lp_some, and_assoc, -rd, rd_set, -loadS, -storeS, hG, hst, hld, hS, h1, h2, h3, h6, h7, h15, h16, hlt, hi, hCl, hiC, hb, wrap_succ i (by omega)]
    exact hfin
 ·rintro st ⟨C, S, rfl, hCl, hC, hS, h1, h2, h3, h6, h7, h15, h16⟩
  have hCe : C = (rows.set k row').map rowP := by
   apply List.ext_getElem?
   intro j
   by_cases hj : j < rows.length
   ·exact hC j hj
   ·rw [List.getElem?_eq_none (by omega), List.getElem?_eq_none (by simp; omega)]
  subst hCe
  generalize (rows.set k row').map rowP = RR
  simp [theLoop, Tryz.f153, mkF, loopsAll, Lp_some, and_assoc, -rd, rd_set, hS, h1, h2, h3, h6, h7, h15, h16]
theorem s_changed {σ : Store} (rows : List (List Fr)) (hn : rows.length ≤ 1000) (k : Nat) (hk : k < rows.length) (row' : List Fr) (c : Nat) (caps : List PV) (hce : (extAll true c).isNone = true)
  (hcl : ∀ X : Store, callIt E1 (evI E1) c ([rowP rows[k]] ++ caps.map PV.strip) (σ ++ X) = some (rowP row', σ ++ X)) (outP : PV) (hout : RowsAt σ outP rows) (g0 g1 g3 : PV) (o0 : oneP g0 = true) (o1 : oneP g1 = true) (o3 : oneP g3 = true) (s0 : g0.strip1 = g0) (s1 : g1.strip1 = g1) (s3 : g3.strip1 = g3) (p0 : g0.keep0 = g0) (p1 : g1.keep0 = g1) (p3 : g3.keep0 = g3) :
  ∃ X : Store, evI E1 153 [.agg [g0, g1, outP, g3], .d (.int .i64 k), .func (.func c) [] caps] σ = some (.agg [g0, g1, .ms (σ.length + 2) 0 rows.length 1, g3], σ ++ X) ∧ X[2]? = some ((rows.set k row').map rowP) := by
 refine ⟨[[g0, g1, .ms (σ.length + 2) 0 rows.length 1, g3], [g0, g1, .ms (σ.length + 2) 0 rows.length 1, g3], (rows.set k row').map rowP], ?_, rfl⟩
 refine evI_run2 (fn := Tryz.f153) (rows.length + 1) rfl rfl Tryz.func153 rfl ?_ (by simp)
 have hloop := l_changed (rows.length + 1) σ rows hn k hk row' c caps hce hcl outP hout g0 g1 g3
 have hml : (rows.map frsD).length = rows.length := by simp
 have hmk : ∀ n : Nat, n ≤ 1000 → evMake Tryz.prog 68 n n = some (1, List.replicate n .e0) := by
  intro n hn
  unfold evMake
  rw [Ty.app68]
  simp [repCells_one, roomB]
  omega
 have hmk' := hmk rows.length hn
 clear hmk
 have hst6 : ∀ (A B C : List PV) (a b c d : PV), storeS (σ ++ [A, [B.headD .undef, B.headD .undef, B.headD .undef, B.headD .undef], C]) (σ.length + 1) 0 [a, b, c, d] = some (σ ++ [A, [a, b, c, d], C]) := by
  intros
  rw [sfx_store]
  rfl
 generalize (rows.set k row').map rowP = RR at hloop ⊢
 rcases hout with rfl | ⟨id, rfl, hid⟩
 ·generalize rows.map frsD = O at hml hloop ⊢
  simp [Tryz.f153, mkF, ec_loop, -loadS, -storeS, sfx_load0, sfx_load, sfx_store0, sfx_store, loadS_cons0, loadS_consS, storeS_cons0, storeS_consS, hml, hmk', p0, p1, p3]
  generalize hLL : loopN _ _ _ = LL
  obtain ⟨r, rfl, S, rfl, hS, h3, h6, h7⟩ := at_loop hLL (hloop _ _ (by simp) _ rfl rfl rfl rfl rfl rfl rfl rfl (rows.length + 1) (by omega))
  have h6' := rd_el h6 (by omega)
  simp [mkF, -rd, rd_set, -loadS, -storeS, sfx_load0, sfx_load, sfx_store0, sfx_store, loadS_cons0, loadS_consS, storeS_cons0, storeS_consS, hS, h3, h6, h6', h7, o0, o1, o3, s0, s1, s3, p0, p1, p3]
  done
 ·simp [Tryz.f153, mkF, ec_loop, -loadS, -storeS, sfx_load0, sfx_load, sfx_store0, sfx_store, loadS_cons0, loadS_consS, storeS_cons0, storeS_consS, hml, hmk', p0, p1, p3]
  generalize hLL : loopN _ _ _ = LL
  obtain ⟨r, rfl, S, rfl, hS, h3, h6, h7⟩ := at_loop hLL (hloop _ _ (by simp) _ rfl rfl rfl rfl rfl rfl rfl rfl (rows.length + 1) (by omega))
  have h6' := rd_el h6 (by omega)
  simp [mkF, -rd, rd_set, -loadS, -storeS, sfx_load0, sfx_load, sfx_store0, sfx_store, loadS_cons0, loadS_consS, storeS_cons0, storeS_consS, hS, h3, h6, h6', h7, o0, o1, o3, s0, s1, s3, p0, p1, p3]
  done
end Go.Proofs

set_option maxRecDepth 100000
set_option maxHeartbeats 8000000
namespace Go.Proofs
open Go.RowKit Go.Shelf Go.Pv
theorem frzD_d (σ : Store) (k : Nat) (x : DV) : frzD σ (k + 1) (.d x) = some x := rfl
theorem frzD_ms (σ : Store) (k id off len sz : Nat) : frzD σ (k + 1) (.ms id off len sz) = (σ[id]?).bind fun cells => if off + len * sz ≤ cells.length then (allD (frzD σ k) ((cells.drop off).take (len * sz))).map fun ds => DV.slice (chunks sz len ds) else none := rfl
theorem allD_rows (σ : Store) (k : Nat) : ∀ (rows : List (List Fr)), allD (frzD σ (k + 1)) (rows.map rowP) = some (rows.map fun r => .slice (r.map Fr.D))
 | [] => rfl
 | r :: rows => by rw [List.map_cons, allD, rowP, frzD_d, Option.bind_some, allD_rows σ k rows]; rfl
theorem chunks_rows : ∀ (rows : List (List Fr)), chunks 1 rows.length (rows.map fun r => DV.slice (r.map Fr.D)) = rows.map frsD
 | [] => rfl
 | r :: rows => by
  simp only [List.map_cons, List.length_cons, chunks, List.take_succ_cons, List.take_zero, List.drop_succ_cons, List.drop_zero, chunks_rows rows]
  rfl
theorem frz_rows {σ : Store} {id : Nat} {rows : List (List Fr)} (h : σ[id]? = some (rows.map rowP)) (k : Nat) : frzD σ (k + 2) (.ms id 0 rows.length 1) = some (.slice (rows.map frsD)) := by
 rw [frzD_ms]
 rw [h]
 simp only [Option.bind_some, Nat.zero_add, Nat.mul_one, List.length_map, Nat.le_refl, if_true, List.drop_zero]
 rw [List.take_of_length_le (by simp), allD_rows]
 simp only [Option.map_some, chunks_rows]
def intP1 (x : Int) : PV := .d (.int .i64 x)
theorem allD_ints (σ : Store) (k : Nat) : ∀ (l : List Int), allD (frzD σ (k + 1)) (l.map intP1) = some (l.map fun x => .int .i64 x)
 | [] => rfl
 | r :: rows => by rw [List.map_cons, allD, intP1, frzD_d, Option.bind_some, allD_ints σ k rows]; rfl
theorem chunks_ints : ∀ (l : List Int), chunks 1 l.length (l.map fun x => DV.int .i64 x) = l.map intD
 | [] => rfl
 | r :: rows => by
  simp only [List.map_cons, List.length_cons, chunks, List.take_succ_cons, List.take_zero, List.drop_succ_cons, List.drop_zero, chunks_ints rows]
  rfl
theorem frz_ints {σ : Store} {id : Nat} {l : List Int} (h : σ[id]? = some (l.map intP1)) (k : Nat) : frzD σ (k + 2) (.ms id 0 l.length 1) = some (.slice (l.map intD)) := by
 rw [frzD_ms]
 rw [h]
 simp only [Option.bind_some, Nat.zero_add, Nat.mul_one, List.length_map, Nat.le_refl, if_true, List.drop_zero]
 rw [List.take_of_length_le (by simp), allD_ints]
 simp only [Option.map_some, chunks_ints]
def IntsAt (σ : Store) (p : PV) (l : List Int) : Prop := p = .d (.slice (l.map intD)) ∨ ∃ id, p = .ms id 0 l.length 1 ∧ σ[id]? = some (l.map intP1)
theorem RowsAt.frz {σ : Store} {p : PV} {rows : List (List Fr)} (h : RowsAt σ p rows) (k : Nat) : frzD σ (k + 2) p = some (.slice (rows.map frsD)) := by
 rcases h with rfl | ⟨id, rfl, h⟩
 ·rfl
 ·exact frz_rows h k
theorem IntsAt.frz {σ : Store} {p : PV} {l : List Int} (h : IntsAt σ p l) (k : Nat) : frzD σ (k + 2) p = some (.slice (l.map intD)) := by
 rcases h with rfl | ⟨id, rfl, h⟩
 ·rfl
 ·exact frz_ints h k
theorem frz_gate {σ : Store} {a b : DV} {p q : PV} {rows : List (List Fr)} {l : List Int} (hp : RowsAt σ p rows) (hq : IntsAt σ q l) (k : Nat) : frzP σ (k + 2) (.agg [.d a, .d b, p, q]) = some (.agg [.d a, .d b, .d (.slice (rows.map frsD)), .d (.slice (l.map intD))]) := by
 simp only [frzP, frz1, allD, hp.frz k, hq.frz k, Option.bind_some, Option.map_some, frzD_d, List.map_cons, List.map_nil]
theorem c_changed {σ : Store} {rows : List (List Fr)} (hn : rows.length ≤ 1000) {k : Nat} (hk : k < rows.length) {row' : List Fr} {c : Nat} {caps : List PV} (hce : (extAll true c).isNone = true)
  (hcl : ∀ X : Store, callIt E1 (evI E1) c ([rowP rows[k]] ++ caps.map PV.strip) (σ ++ X) = some (rowP row', σ ++ X)) {outP : PV} (hout : RowsAt σ outP rows) {g0 g1 g3 : PV} (o0 : oneP g0 = true) (o1 : oneP g1 = true) (o3 : oneP g3 = true) (s0 : g0.strip1 = g0) (s1 : g1.strip1 = g1) (s3 : g3.strip1 = g3) (p0 : g0.keep0 = g0) (p1 : g1.keep0 = g1) (p3 : g3.keep0 = g3) :
  ∃ X : Store, callIt E1 (evI E1) 153 [.agg [g0, g1, outP, g3], .d (.int .i64 k), .func (.func c) [] caps] σ = some (.agg [g0, g1, .ms (σ.length + 2) 0 rows.length 1, g3], σ ++ X) ∧ X[2]? = some ((rows.set k row').map rowP) := by
 obtain ⟨X, h1, h2⟩ := s_changed rows hn k hk row' c caps hce hcl outP hout g0 g1 g3 o0 o1 o3 s0 s1 s3 p0 p1 p3
 refine ⟨X, call_ptr rfl rfl rfl h1 ?_ ?_, h2⟩
 ·simp [PV.isData, isDataL]
 ·simp only [PV.strip, List.map_cons, List.map_nil, s0, s1, s3]
  rfl
def Gt.Done (g : Gt) (k : Int) : Gt := if g.has k then { g with out := g.out.set k.toNat (g.row k).tail } else g
theorem b_gDone (g : Gt) (k : Int) (hn : g.out.length ≤ 1000) (σ : Store) : callIt E1 (evI E1) 100 [g.P, .d (.int .i64 k)] σ = some ((g.Done k).P, σ) := by
 refine call_run2 (fn := Tryz.f100) 5 rfl rfl rfl rfl Tryz.func100 rfl rfl ?_
 have h1 := fun σ => b_has g k σ
 unfold Gt.Done
 cases hh : g.has k
 ·rw [hh] at h1
  try simp at h1
  simp [Tryz.f100, mkF, -loadS, -storeS, loadS_cons0, loadS_consS, storeS_cons0, storeS_consS, cellsOf, h1]
 ·rw [hh] at h1
  unfold Gt.has at hh
  simp only [Bool.and_eq_true, decide_eq_true_eq] at hh
  obtain ⟨j, rfl⟩ : ∃ j : Nat, k = (j : Int) := ⟨k.toNat, by omega⟩
  have hi : j < g.out.length := by omega
  have hrow : g.row (j : Int) = g.out[j] := by simp [Gt.row, hi, List.getD]
  have hne : g.out[j] ≠ [] := by
   rw [hrow] at hh
   intro he
   rw [he] at hh
   simp at hh
  obtain ⟨X, c1, c2⟩ := c_changed (σ := [cellsOf g.P, [.e0, .d (.int .i64 0), .e0, .e0]]) hn hi (row' := (g.out[j]).tail) (c := 154) (caps := []) rfl (fun Y => b_done1 g.out[j] hne _) (.inl rfl)
   (g0 := .d (.slice (g.rs.map Rt.D))) (g1 := .d (.int .i64 g.cap)) (g3 := .d (.slice (g.lost.map intD))) rfl rfl rfl rfl rfl rfl rfl rfl rfl
  rw [hrow, Int.toNat_natCast]
  simp only [if_true]
  have hlen : (g.out.set j (g.out[j]).tail).length = g.out.length := by simp
  have hfz := fun (B : List PV) (n : Nat) => frz_gate (σ := [cellsOf g.P, B] ++ X) (a := .slice (g.rs.map Rt.D)) (b := .int .i64 g.cap) (p := .ms 4 0 g.out.length 1) (q := .d (.slice (g.lost.map intD))) (rows := g.out.set j (g.out[j]).tail) (l := g.lost)
   (.inr ⟨4, by rw [hlen], by rw [List.getElem?_append_right (by simp)]; exact c2⟩) (.inl rfl) n
  generalize g.out.set j (g.out[j]).tail = R' at c2 hfz ⊢
  simp only [cellsOf, Gt.P] at c1 hfz ⊢
  try simp at h1
  simp only [List.length_cons, List.length_nil] at c1
  generalize g.out.map frsD = O at h1 c1 hfz ⊢
  simp [Tryz.f100, mkF, -loadS, -storeS, loadS_cons0, loadS_consS, storeS_cons0, storeS_consS, cellsOf, h1, c1]
  exact hfz _ (X.length + 1)
end Go.Proofs

