/- A frame's bits on the wire, as the references count them; The reference of the bus: a slot; The reference of the bus: a slot, whole; A slot, of the reference; The reference of nets: a slot; The reference of nets: a round, a calm; NetRight: its call answers true; NetTells: the play of the acts; NetStill: its call answers true; NetTells: its call answers true. -/
import Derived.Test.YtnnindnmpfmaaaaGreatNt09
import Derived.Test.YtnnindnmpfmaaaaGreatNt13
import Derived.Test.YtnnindnmpfmaaaaGreatNt11
import Derived.Test.YtnnindnmpfmaaaaGreatNt12
set_option linter.unusedVariables false
set_option linter.unusedSimpArgs false
set_option maxRecDepth 100000
set_option maxHeartbeats 8000000
namespace Go.Proofs
open Go.RowKit Go.Shelf Go.Pv
theorem l_r2 (m : Nat) (l : List Int) (hl : l.length ≤ 1000000) (S : List PV) (hS : S.length = 27) (h0 : rd S 0 = .d (.slice (l.map intD))) (h3 : rd S 3 = .d (.int .i64 0)) (h4 : rd S 4 = .d (.int .i64 0)) (k : Nat) (hk : l.length < k) :
  Lp (loopN (evCode E1 (evI E1) m (theLoop Tryz.f179 0)) k ⟨S, []⟩) fun r => ∃ S' : List PV, r = (.exit 0, ⟨S', []⟩) ∧ S'.length = 27 ∧ rd S' 3 = .d (.int .i64 (crcB l)) := by
 refine loop_inv (fun i st => ∃ S : List PV, st = ⟨S, []⟩ ∧ S.length = 27 ∧ rd S 0 = .d (.slice (l.map intD)) ∧ rd S 3 = .d (.int .i64 (crcB (l.take i))) ∧ rd S 4 = .d (.int .i64 i)) _ l.length ?_ ?_ k 0 _ (by omega) (by omega) ⟨S, rfl, hS, h0, h3, h4⟩
 ·rintro i st hi ⟨S, rfl, hS, h0, h3, h4⟩
  have htk : crcB (l.take (i + 1)) = crcS (crcB (l.take i)) l[i] := by rw [crcB, List.take_add_one, List.getElem?_eq_getElem hi, List.foldl_append]; rfl
  have hs := crcB_lt (l.take i)
  generalize crcB (l.take (i + 1)) = c1 at htk ⊢
  generalize crcB (l.take i) = s at htk hs h3
  generalize hx : l[i] = b at htk
  have hlt : (i : Int) < (l.length : Int) := by omega
  have s14 : ∀ k : IntKind, evBin Tryz.prog .shr 3 (.d (.int .i64 s)) (.d (.int k 14)) = some (.d (.int .i64 (s / 2 ^ 14))) := by
   intro k
   rw [bin_shr_u (by decide), Int.fdiv_eq_ediv_of_nonneg _ (by decide)]; rfl
  have s1 : ∀ k : IntKind, evBin Tryz.prog .shl 3 (.d (.int .i64 s)) (.d (.int k 1)) = some (.d (.int .i64 (s * 2))) := by
   intro k
   rw [bin_shl_u (by decide), show s * 2 ^ min (Int.toNat 1) 64 = s * 2 from rfl, wrap_ok (by omega) (by omega)]
  have hrem : evBin Tryz.prog .rem 3 (.d (.int .i64 (s * 2))) (.d (.int .i64 32768)) = some (.d (.int .i64 (s * 2 % 2 ^ 15))) := by
   rw [bin_rem (by decide), Int.tmod_eq_emod_of_nonneg (by omega)]
   rfl
  unfold crcS at htk
  rw [xorI_comm] at htk
  generalize s / 2 ^ 14 = t at s14 htk
  generalize s * 2 = d at s1 hrem htk
  generalize d % 2 ^ 15 = e at hrem htk
  by_cases hc : xorI b t = 1
  ·rw [if_pos hc] at htk
   subst htk
   simp [theLoop, Tryz.f179, loopsAll, Lp_some, and_assoc, -rd, rd_set, hS, h0, h3, h4, hlt, hi, hx, s14, s1, hrem, hc, wrap_succ i (by omega)]
  ·rw [if_neg hc] at htk
   subst htk
   have hb : (xorI b t == 1) = false := by simpa using hc
   simp [theLoop, Tryz.f179, loopsAll, Lp_some, and_assoc, -rd, rd_set, hS, h0, h3, h4, hlt, hi, hx, s14, s1, hrem, hb, hc, wrap_succ i (by omega)]
 ·rintro st ⟨S, rfl, hS, h0, h3, h4⟩
  rw [List.take_length] at h3
  simp [theLoop, Tryz.f179, loopsAll, Lp_some, and_assoc, -rd, rd_set, hS, h0, h3, h4]
theorem r_crc (l : List Int) (hl : l.length ≤ 1000000) (σ : Store) : callIt E1 (evI E1) 179 [.d (.slice (l.map intD))] σ = some (.d (.int .i64 (crcB l)), σ) := by
 refine call_run (fn := Tryz.f179) (l.length + 1) rfl rfl rfl Tryz.func179 rfl rfl ?_ rfl
 simp [Tryz.f179, ec_loop]
 generalize hLL : loopN _ _ _ = L
 obtain ⟨r, rfl, S, rfl, hS, h3⟩ := at_loop hLL (l_r2 (l.length + 1) l hl _ rfl rfl rfl rfl (l.length + 1) (by omega))
 simp [-rd, rd_set, hS, h3]
theorem l_spr (m : Nat) (l : List Int) (hl : l.length ≤ 100) (hb : byOk l) (S : List PV) (hS : S.length = 26) (h0 : rd S 0 = .d (.slice (l.map byD))) (h3 : rd S 3 = .e0) (h4 : rd S 4 = .d (.int .i64 0)) (k : Nat) (hk : l.length < k) :
  Lp (loopN (evCode E1 (evI E1) m (theLoop Tryz.f204 0)) k ⟨S, []⟩) fun r => ∃ S' : List PV, r = (.exit 0, ⟨S', []⟩) ∧ S'.length = 26 ∧ rd S' 3 = acc ((spreadL l).map intD) := by
 refine loop_inv (fun i st => ∃ S : List PV, st = ⟨S, []⟩ ∧ S.length = 26 ∧ rd S 0 = .d (.slice (l.map byD)) ∧ rd S 3 = acc ((spreadL (l.take i)).map intD) ∧ rd S 4 = .d (.int .i64 i)) _ l.length ?_ ?_ k 0 _ (by omega) (by omega) ⟨S, rfl, hS, h0, h3, h4⟩
 ·rintro i st hi ⟨S, rfl, hS, h0, h3, h4⟩
  have hx1 := hb l[i] (List.getElem_mem hi)
  have htk : spreadL (l.take (i + 1)) = spreadL (l.take i) ++ bitsOf l[i] 8 := by
   have e1 : byOk (l.take (i + 1)) := fun x hx => hb x (List.mem_of_mem_take hx)
   have e2 : byOk (l.take i) := fun x hx => hb x (List.mem_of_mem_take hx)
   rw [spreadL_bits _ e1, spreadL_bits _ e2, List.take_add_one, List.getElem?_eq_getElem hi, List.flatMap_append]
   simp
  have hlen : (spreadL (l.take i)).length ≤ 800 := by rw [spreadL_len]; simp; omega
  generalize hx : l[i] = x at htk hx1
  generalize spreadL (l.take (i + 1)) = O1 at htk ⊢
  generalize spreadL (l.take i) = O0 at htk hlen h3
  have hap := row_app (A := O0) (B := bitsOf x 8) (by simp [bitsOf]; omega)
  rw [← htk] at hap
  have hp := fun σ => r_Put x 8 (by decide) (by omega) σ
  have hlt : (i : Int) < (l.length : Int) := by omega
  have hw : evConvert Tryz.prog 5 3 (.d (.int .u8 x)) = some (.d (.int .i64 x)) := by
   have : evConvert Tryz.prog 5 3 (.d (.int .u8 x)) = some (.d (.int .i64 (IntKind.i64.wrap x))) := by kernel_rfl
   rw [this, wrap_ok (by omega) (by omega)]
  generalize bitsOf x 8 = B at hp hap
  clear htk
  simp at hp hap
  simp [theLoop, Tryz.f204, loopsAll, Lp_some, and_assoc, -rd, rd_set, hS, h0, h3, h4, hlt, hi, hx, hp, hap, hw, wrap_succ i (by omega)]
 ·rintro st ⟨S, rfl, hS, h0, h3, h4⟩
  rw [List.take_length] at h3
  simp [theLoop, Tryz.f204, loopsAll, Lp_some, and_assoc, -rd, rd_set, hS, h0, h3, h4]
theorem r_spread (l : List Int) (hl : l.length ≤ 100) (hb : byOk l) (σ : Store) : callIt E1 (evI E1) 204 [.d (.slice (l.map byD))] σ = some (.d (.slice ((spreadL l).map intD)), σ) := by
 refine call_run (fn := Tryz.f204) (l.length + 1) rfl rfl rfl Tryz.func204 rfl rfl ?_ rfl
 simp [Tryz.f204, ec_loop]
 generalize hLL : loopN _ _ _ = L
 obtain ⟨r, rfl, S, rfl, hS, h3⟩ := at_loop hLL (l_spr (l.length + 1) l hl hb _ rfl rfl rfl rfl (l.length + 1) (by omega))
 simp [-rd, rd_set, hS, h3]
theorem r_fhead (f : Fr) (hf : f.right = true) (hb : byOk f.data) (σ : Store) : callIt E1 (evI E1) 177 [f.P] σ = some (acc (f.head.map intD), σ) := by
 refine call_run (fn := Tryz.f177) 5 rfl rfl rfl Tryz.func177 rfl rfl ?_ (acc_data _)
 obtain ⟨_, hl1, hl2, hdl⟩ := f.right_iff.1 hf
 have hdl8 : f.data.length ≤ 8 := by
  cases hr : f.rm <;> rw [hr] at hdl <;> simp only [if_true, if_false, Bool.false_eq_true] at hdl <;> omega
 have hrl := f.rank_len
 have hrk := fun σ => r_Rank f hf σ
 have hs := fun σ => r_spread f.data (by omega) hb σ
 have a0 := row_app (A := [0]) (B := f.rank) (by simp; omega)
 have p1 := fun σ => r_put ([0] ++ f.rank) 0 1 (by omega) (by decide) (by simp; omega) σ
 have p2 := fun σ => r_put ([0] ++ f.rank ++ [0]) 0 1 (by omega) (by decide) (by simp; omega) σ
 have p5 := fun σ => r_put ([0] ++ f.rank ++ [0] ++ (if f.e then [0] else [])) f.ln 4 (by omega) (by omega) (by cases f.e <;> simp <;> omega) σ
 have hh : ([0] ++ f.rank ++ [0] ++ (if f.e then [0] else []) ++ bitsOf f.ln 4).length ≤ 50 := by cases f.e <;> simp [bitsOf] <;> omega
 have a1 := row_app (A := []) (B := [0] ++ f.rank ++ [0] ++ (if f.e then [0] else []) ++ bitsOf f.ln 4) (by simp at hh ⊢; omega)
 have a2 := row_app (A := [0] ++ f.rank ++ [0] ++ (if f.e then [0] else []) ++ bitsOf f.ln 4) (B := spreadL f.data) (by rw [spreadL_len]; omega)
 unfold Fr.head
 rw [bitsOf_01] at p1 p2
 rw [List.nil_append] at a1
 obtain ⟨e, fid, rm, ln, data⟩ := f
 simp only at p1 p2 p5 a0 a1 a2 hs hh ⊢
 generalize Fr.rank ⟨e, fid, rm, ln, data⟩ = rk at hrk p1 p2 p5 a0 a1 a2 hh ⊢
 cases e
 ·simp only [Bool.false_eq_true, if_false, List.append_nil] at p5 a1 a2 hh ⊢
  generalize [0] ++ rk ++ [0] ++ bitsOf ln 4 ++ spreadL data = R5 at a2 ⊢
  generalize [0] ++ rk ++ [0] ++ bitsOf ln 4 = R4 at p5 a1 a2 hh
  generalize [0] ++ rk ++ [0] = R3 at p1 p5
  generalize [0] ++ rk = R2 at p1 a0
  generalize spreadL data = sd at hs a2
  simp [acc_nil] at p1 p5 hs hrk a0 a1 a2
  simp [Tryz.f177, rowsFrom, p1, p5, hs, hrk, a0, a1, a2, retOf_acc, acc_nil]
  try exact retOf_acc _
 ·simp only [if_true] at p5 a1 a2 hh ⊢
  generalize [0] ++ rk ++ [0] ++ [0] ++ bitsOf ln 4 ++ spreadL data = R5 at a2 ⊢
  generalize [0] ++ rk ++ [0] ++ [0] ++ bitsOf ln 4 = R4 at p5 a1 a2 hh
  generalize [0] ++ rk ++ [0] ++ [0] = R3b at p2 p5
  generalize [0] ++ rk ++ [0] = R3 at p1 p2
  generalize [0] ++ rk = R2 at p1 a0
  generalize spreadL data = sd at hs a2
  simp [acc_nil] at p1 p2 p5 hs hrk a0 a1 a2
  simp [Tryz.f177, rowsFrom, p1, p2, p5, hs, hrk, a0, a1, a2, retOf_acc, acc_nil]
  try exact retOf_acc _
def Stf.fits (x : Stf) : Prop := (x.out = [] ∧ x.last = -1) ∨ (∃ A, x.out = A ++ [x.last] ∧ (x.last = 0 ∨ x.last = 1))
theorem stfS_fits (x : Stf) (b : Int) (hb : b = 0 ∨ b = 1) : (stfS x b).fits := by
 unfold stfS
 dsimp only
 generalize (if b = x.last then x.n + 1 else 1) = n1
 by_cases h : n1 = 5
 ·rw [if_pos h]; exact .inr ⟨x.out ++ [b], by simp, by simp only; omega⟩
 ·rw [if_neg h]; exact .inr ⟨x.out, rfl, hb⟩
theorem stf_fits : ∀ (l : List Int) (x : Stf), x.fits → allBit l → (l.foldl stfS x).fits
 | [], x, h, _ => h
 | b :: l, x, h, hb => stf_fits l _ (stfS_fits x b (hb b (by simp))) fun y hy => hb y (by simp [hy])
theorem l_rstuff (m : Nat) (l : List Int) (hl : l.length ≤ 400) (S : List PV) (hS : S.length = 48) (h0 : rd S 0 = .d (.slice (l.map intD))) (h3 : rd S 3 = .e0) (h4 : rd S 4 = .d (.int .i64 0)) (h5 : rd S 5 = .d (.int .i64 0)) (hbit : allBit l) (k : Nat) (hk : l.length < k) :
  Lp (loopN (evCode E1 (evI E1) m (theLoop Tryz.f180 0)) k ⟨S, []⟩) fun r => ∃ S' : List PV, r = (.exit 0, ⟨S', []⟩) ∧ S'.length = 48 ∧ rd S' 3 = acc ((stuffB l).map intD) := by
 refine loop_inv (fun i st => ∃ S : List PV, st = ⟨S, []⟩ ∧ S.length = 48 ∧ rd S 0 = .d (.slice (l.map intD)) ∧ rd S 3 = acc ((stuffX (l.take i)).out.map intD) ∧ rd S 4 = .d (.int .i64 (stuffX (l.take i)).n) ∧ rd S 5 = .d (.int .i64 i)) _ l.length ?_ ?_ k 0 _ (by omega) (by omega) ⟨S, rfl, hS, h0, h3, h4, h5⟩
 ·rintro i st hi ⟨S, rfl, hS, h0, h3, h4, h5⟩
  have htk : stuffX (l.take (i + 1)) = stfS (stuffX (l.take i)) l[i] := by rw [stuffX, List.take_add_one, List.getElem?_eq_getElem hi, List.foldl_append]; rfl
  obtain ⟨hin, hil⟩ := stf_inv (l.take i) ⟨[], -1, 0⟩ (by simp)
  have hil' : (stuffX (l.take i)).out.length ≤ 800 := Nat.le_trans hil (by simp; omega)
  have hft : (stuffX (l.take i)).fits := stf_fits (l.take i) ⟨[], -1, 0⟩ (.inl ⟨rfl, rfl⟩) fun y hy => hbit y (List.mem_of_mem_take hy)
  replace hin : 0 ≤ (stuffX (l.take i)).n ∧ (stuffX (l.take i)).n < 5 := hin
  rw [htk]
  have hb01 := hbit l[i] (List.getElem_mem hi)
  generalize hx : l[i] = b at hb01
  clear htk hil
  generalize stuffX (l.take i) = X at h3 h4 hin hil' hft ⊢
  obtain ⟨out, last, n⟩ := X
  simp only at h3 h4 hin hil'
  have a1 := row_app (A := out) (B := [b]) (by simp; omega)
  have hlt : (i : Int) < (l.length : Int) := by omega
  have w : IntKind.i64.wrap (1 - b) = 1 - b := wrap_ok (by omega) (by omega)
  have wn : IntKind.i64.wrap (n + 1) = n + 1 := wrap_ok (by omega) (by omega)
  have a2 := row_app (A := out ++ [b]) (B := [1 - b]) (by simp; omega)
  have e2 : out ++ [b] ++ [1 - b] = out ++ [b, 1 - b] := by simp
  rw [e2] at a2
  -- is the last one the same?
  have hcase : (out = [] ∧ ¬ b = last) ∨ (∃ j : Nat, out.length = j + 1 ∧ out[j]? = some last) := by
   rcases hft with ⟨h1, h2⟩ | ⟨A, h1, h2⟩
   ·exact .inl ⟨h1, by simp only at h2; omega⟩
   ·exact .inr ⟨A.length, by simp only at h1; rw [h1]; simp, by simp only at h1; rw [h1]; simp⟩
  clear hft
  unfold stfS
  dsimp only
  rcases hcase with ⟨rfl, hne⟩ | ⟨j, hj, hjl⟩
  ·rw [if_neg hne, if_neg (by decide)]
   generalize hO : [] ++ [b] = O1 at a1 ⊢
   simp [acc_nil] at a1
   replace h3 : rd S 3 = .e0 := h3
   simp [theLoop, Tryz.f180, loopsAll, Lp_some, and_assoc, -rd, rd_set, hS, h0, h3, h4, h5, hlt, hi, hx, a1, rowsFrom, wrap_succ i (by omega)]
  ·have hwj : IntKind.i64.wrap ((out.length : Int) - 1) = j := by rw [wrap_ok (by omega) (by omega)]; omega
   have hgt : 0 < out.length := by omega
   have hol : (out.map intD)[j]? = some (intD last) := by rw [List.getElem?_map, hjl]; rfl
   have hml : (out.map intD).length = out.length := by simp
   have hjo : j < out.length := by omega
   generalize hn1 : (if b = last then n + 1 else 1) = n1
   generalize out.length = ol at hml hwj hgt hjo
   generalize out ++ [b, 1 - b] = O2 at a2 ⊢
   generalize out ++ [b] = O1 at a1 a2 ⊢
   have hst : (acc (out.map intD)).strip = .d (.slice (out.map intD)) := acc_strip _
   generalize out.map intD = M at h3 a1 hol hml hst
   obtain ⟨hjM, hol⟩ := List.getElem?_eq_some_iff.1 hol
   simp only [intD] at hol
   simp at a1 a2
   by_cases hbl : b = last
   ·have e1 : (last == b) = true := by simp [hbl]
    rw [if_pos hbl] at hn1
    subst hbl
    by_cases h5' : n1 = 5
    ·rw [if_pos h5']
     generalize hc : 1 - b = c at a2 w ⊢
     rw [h5'] at hn1
     rw [hn1] at wn
     have wn5 : IntKind.i64.wrap 5 = 5 := rfl
     simp [theLoop, Tryz.f180, loopsAll, Lp_some, and_assoc, -rd, rd_set, hS, h0, h3, h4, h5, hlt, hi, hx, a1, a2, w, wn, wn5, hc, hwj, hgt, hol, hml, hjo, hn1, rowsFrom, wrap_succ i (by omega)]
    ·rw [if_neg h5']
     have e5 : (n1 == 5) = false := by simpa using h5'
     rw [hn1] at wn
     simp [theLoop, Tryz.f180, loopsAll, Lp_some, and_assoc, -rd, rd_set, hS, h0, h3, h4, h5, hlt, hi, hx, a1, w, wn, hwj, hgt, hol, hml, hjo, hn1, e5, h5', rowsFrom, wrap_succ i (by omega)]
   ·have e1 : (last == b) = false := by simp; omega
    rw [if_neg hbl] at hn1
    subst hn1
    rw [if_neg (by decide)]
    simp [theLoop, Tryz.f180, loopsAll, Lp_some, and_assoc, -rd, rd_set, hS, h0, h3, h4, h5, hlt, hi, hx, a1, w, wn, hwj, hgt, hol, hml, hjo, e1, rowsFrom, wrap_succ i (by omega)]
 ·rintro st ⟨S, rfl, hS, h0, h3, h4, h5⟩
  rw [List.take_length] at h3 h4
  unfold stuffB
  generalize stuffX l = X at h3 h4 ⊢
  simp [theLoop, Tryz.f180, loopsAll, Lp_some, and_assoc, -rd, rd_set, hS, h0, h3, h4, h5]
theorem r_stuff (l : List Int) (hl : l.length ≤ 400) (hbit : allBit l) (σ : Store) : callIt E1 (evI E1) 180 [.d (.slice (l.map intD))] σ = some (acc ((stuffB l).map intD), σ) := by
 refine call_run (fn := Tryz.f180) (l.length + 1) rfl rfl rfl Tryz.func180 rfl rfl ?_ (acc_data _)
 simp [Tryz.f180, ec_loop]
 generalize hLL : loopN _ _ _ = L
 obtain ⟨r, rfl, S, rfl, hS, h3⟩ := at_loop hLL (l_rstuff (l.length + 1) l hl _ rfl rfl rfl rfl rfl hbit (l.length + 1) (by omega))
 simp [-rd, rd_set, hS, h3]
 try exact retOf_acc _
theorem r_wire (f : Fr) (hf : f.right = true) (hb : byOk f.data) (σ : Store) : callIt E1 (evI E1) 131 [f.P] σ = some (acc (f.wire.map intD), σ) := by
 refine call_run (fn := Tryz.f131) 5 rfl rfl rfl Tryz.func131 rfl rfl ?_ (acc_data _)
 have h1 := fun σ => r_fhead f hf hb σ
 have hhl := head_len f hf
 have h2 := fun σ => r_crc f.head (by omega) σ
 have h3 := fun σ => r_Put (crcB f.head) 15 (by omega) (crcB_lt _) σ
 have hbl : (f.head ++ bitsOf (crcB f.head) 15).length ≤ 135 := by simp [bitsOf]; omega
 have a0 := row_app (A := []) (B := f.head) (by simp; omega)
 have a1 := row_app (A := f.head) (B := bitsOf (crcB f.head) 15) (by simp [bitsOf]; omega)
 have h5 := fun σ => r_stuff f.body (by unfold Fr.body; omega) ((head_allBit f hb).app (bitsOf_bits _ _)) σ
 have hsl := stuffB_len f.body
 have a2 := row_app (A := stuffB f.body) (B := bitsOf 1023 10) (by rw [show (bitsOf 1023 10).length = 10 by simp [bitsOf]]; unfold Fr.body at hsl ⊢; omega)
 unfold Fr.wire
 rw [← Fr.body] at a1
 rw [List.nil_append] at a0
 obtain ⟨e, fid, rm, ln, data⟩ := f
 generalize Fr.body ⟨e, fid, rm, ln, data⟩ = bd at h5 a1 a2 ⊢
 generalize Fr.head ⟨e, fid, rm, ln, data⟩ = hd at h1 h2 h3 a0 a1
 generalize crcB hd = c at h2 h3 a1
 generalize bitsOf c 15 = B1 at h3 a1
 rw [show bitsOf 1023 10 = [1, 1, 1, 1, 1, 1, 1, 1, 1, 1] by decide] at a2 ⊢
 generalize stuffB bd = sb at h5 a2 ⊢
 generalize sb ++ [1, 1, 1, 1, 1, 1, 1, 1, 1, 1] = W at a2 ⊢
 simp [acc_nil] at h1 h2 h3 h5 a0 a1 a2
 simp [Tryz.f131, rowsFrom, h1, h2, h3, h5, a0, a1, a2, acc_nil]
 try exact retOf_acc _
theorem r_wlen (f : Fr) (hf : f.right = true) (hb : byOk f.data) (σ : Store) : callIt E1 (evI E1) 62 [f.P] σ = some (.d (.int .i64 f.wire.length), σ) := by
 refine call_run (fn := Tryz.f62) 5 rfl rfl rfl Tryz.func62 rfl rfl ?_ rfl
 have h := fun σ => r_wire f hf hb σ
 simp at h
 simp [Tryz.f62, h]
end Go.Proofs

set_option maxRecDepth 100000
set_option maxHeartbeats 8000000
namespace Go.Proofs
open Go.RowKit Go.Shelf Go.Pv
theorem appNd (A : List Nd) (n : Nd) (h : A.length ≤ 1000) : evAppend Tryz.prog 22 (acc (A.map Nd.D)) (.d (.slice [n.D])) = some (acc ((A ++ [n]).map Nd.D)) := by
 rw [appN (A.map Nd.D) [n.D] (rowsOk_Nd A) rfl (by simp [roomB]; omega), List.map_append]
 rfl
theorem l_rq (m : Nat) (l : List Nd) (hg : ∀ n ∈ l, n.good) (hl : l.length ≤ 1000) (σ0 : Store) (p3 p5 : PV) (S : List PV) (hS : S.length = 132) (h0 : rd S 0 = .d (.slice (l.map Nd.D))) (h5 : rd S 5 = p5) (h6 : rd S 6 = acc []) (h8 : rd S 8 = .d (.int .i64 0)) (k : Nat) (hk : l.length < k) :
  Lp (loopN (evCode E1 (evI E1) m (theLoop Tryz.f25 0)) k ⟨S, σ0⟩) fun r => ∃ S' : List PV, r = (.exit 0, ⟨S', σ0⟩) ∧ S'.length = 132 ∧ rd S' 5 = p5 ∧ rd S' 6 = acc (((List.range l.length).map fun i => (nd l i).Quiet).map Nd.D) := by
 refine loop_inv (fun i st => ∃ S : List PV, st = ⟨S, σ0⟩ ∧ S.length = 132 ∧ rd S 0 = .d (.slice (l.map Nd.D)) ∧ rd S 5 = p5 ∧ rd S 6 = acc (((List.range i).map fun i => (nd l i).Quiet).map Nd.D) ∧ rd S 8 = .d (.int .i64 i)) _ l.length ?_ ?_ k 0 _ (by omega) (by omega) ⟨S, rfl, hS, h0, h5, h6, h8⟩
 ·rintro i st hi ⟨S, rfl, hS, h0, h5, h6, h8⟩
  have htk := map_range_succ (fun i => (nd l i).Quiet) i
  have hlen : ((List.range i).map fun i => (nd l i).Quiet).length ≤ 1000 := by simp; omega
  have hn : nd l i = l[i] := by simp [nd, List.getD, hi]
  have hgi := hg l[i] (List.getElem_mem hi)
  simp only [hn] at htk
  generalize hx : l[i] = n at htk hgi
  have hq := fun σ => r_Quiet n hgi.c σ
  generalize (List.range (i + 1)).map (fun i => (nd l i).Quiet) = A1 at htk ⊢
  generalize (List.range i).map (fun i => (nd l i).Quiet) = A0 at htk hlen h6
  generalize n.Quiet = n1 at htk hq
  have hap := appNd A0 n1 hlen
  rw [← htk] at hap
  have hlt : (i : Int) < (l.length : Int) := by omega
  clear htk
  simp only [Nd.D] at hap
  simp at hq
  simp [theLoop, Tryz.f25, loopsAll, Lp_some, and_assoc, -rd, rd_set, hS, h0, h5, h6, h8, hlt, hi, hx, hq, hap, rowsFrom, wrap_succ i (by omega)]
  done
 ·rintro st ⟨S, rfl, hS, h0, h5, h6, h8⟩
  generalize (List.range l.length).map (fun i => (nd l i).Quiet) = A at h6 ⊢
  simp [theLoop, Tryz.f25, loopsAll, Lp_some, and_assoc, -rd, rd_set, hS, h0, h5, h6, h8]
theorem r_slot0 (l : List Nd) (hg : ∀ n ∈ l, n.good) (hl : l.length ≤ 1000) (who : List Int) (hs : sndL l = []) (σ : Store) : callIt E1 (evI E1) 25 [.d (.slice (l.map Nd.D)), .agg [.d (.slice (who.map intD))]] σ = some (.tup [.d (.slice ((slotL l who).1.map Nd.D)), (slotL l who).2.P], σ) := by
 refine call_run (fn := Tryz.f25) (l.length + 1) rfl rfl rfl Tryz.func25 rfl rfl ?_ rfl
 unfold slotL
 rw [if_pos hs]
 simp only
 have hW := fun σ => r_Winner l hg hl σ
 rw [hs] at hW
 simp only [winP_nil, atP, Option.map_none, Option.getD_none] at hW
 have hloop := l_rq (l.length + 1) l hg hl
 generalize (List.range l.length).map (fun i => (nd l i).Quiet) = out at hloop ⊢
 try simp at hW
 simp [Tryz.f25, -loadS, -storeS, loadS_cons0, loadS_consS, storeS_cons0, storeS_consS, hW, ec_loop, acc_nil, rowsFrom]
 generalize hLL : loopN _ _ _ = L
 obtain ⟨r, rfl, S, rfl, hS, h5, h6⟩ := at_loop hLL (hloop _ .undef (.ptr 1 0) _ rfl rfl rfl rfl rfl (l.length + 1) (by omega))
 have h5' := rd_el h5 (by omega)
 simp [-rd, rd_set, -loadS, -storeS, loadS_cons0, loadS_consS, storeS_cons0, storeS_consS, hS, h5, h5', h6, fr0]
 done
def Ln.node (x : Ln) (A bad : Bool) (i : Nat) : Nd := if bad then x.two i else x.three A i
theorem l_rs (m : Nat) (l : List Nd) (hg : ∀ n ∈ l, n.good) (hl : l.length ≤ 1000) (who : List Int) (hwl : who.length ≤ 1000000) (A bad : Bool) (p7 : PV) (tc : List PV) (S : List PV) (hS : S.length = 132) (h0 : rd S 0 = .d (.slice (l.map Nd.D))) (h3 : rd S 3 = .ptr 0 0) (h5 : rd S 5 = .ptr 1 0) (h6 : rd S 6 = acc []) (h7 : rd S 7 = p7) (h9 : rd S 9 = .ptr 2 0) (h11 : rd S 11 = .d (.bool A)) (h12 : rd S 12 = .d (.bool bad)) (h13 : rd S 13 = .d (.int .i64 0)) (k : Nat) (hk : l.length < k) :
  Lp (loopN (evCode E1 (evI E1) m (theLoop Tryz.f25 1)) k ⟨S, [[.d (.slice (who.map intD))], tc, cellsOf (lineOf l who).f.P]⟩) fun r => ∃ (S' : List PV) (J : Store), r = (.exit 2, ⟨S', [.d (.slice (who.map intD))] :: tc :: cellsOf (lineOf l who).f.P :: J⟩) ∧ S'.length = 132 ∧ rd S' 5 = .ptr 1 0 ∧ rd S' 6 = acc (((List.range l.length).map ((lineOf l who).node A bad)).map Nd.D) ∧ rd S' 7 = p7 ∧ rd S' 9 = .ptr 2 0 ∧ rd S' 12 = .d (.bool bad) := by
 refine loop_inv (fun i st => ∃ (J : Store) (S : List PV), st = ⟨S, [.d (.slice (who.map intD))] :: tc :: cellsOf (lineOf l who).f.P :: J⟩ ∧ S.length = 132 ∧ rd S 0 = .d (.slice (l.map Nd.D)) ∧ rd S 3 = .ptr 0 0 ∧ rd S 5 = .ptr 1 0 ∧ rd S 6 = acc (((List.range i).map ((lineOf l who).node A bad)).map Nd.D) ∧ rd S 7 = p7 ∧ rd S 9 = .ptr 2 0 ∧ rd S 11 = .d (.bool A) ∧ rd S 12 = .d (.bool bad) ∧ rd S 13 = .d (.int .i64 i)) _ l.length ?_ ?_ k 0 _ (by omega) (by omega) ⟨[], S, rfl, hS, h0, h3, h5, h6, h7, h9, h11, h12, h13⟩
 ·rintro i st hi ⟨J, S, rfl, hS, h0, h3, h5, h6, h7, h9, h11, h12, h13⟩
  have htk := map_range_succ ((lineOf l who).node A bad) i
  have hlen : ((List.range i).map ((lineOf l who).node A bad)).length ≤ 1000 := by simp; omega
  have hA := fun σ => r_Along l hg hl who i hi σ
  have hI := fun σ => r_in who (i : Int) hwl σ
  have hgi := hg l[i] (List.getElem_mem hi)
  have hnode : (lineOf l who).node A bad i = (if (lineOf l who).sends i then (if bad then l[i].Sent true else if !A && (l[i].c.s == 2) then l[i] else l[i].Sent false) else (if bad then l[i].Heard (lineOf l who).f (!who.contains (i : Int)) false else l[i].Heard (lineOf l who).f false (who.contains (i : Int) && (l[i].c.s == 1)))) := by
   unfold Ln.node Ln.two Ln.three Ln.loud
   rw [show nd (lineOf l who).l i = l[i] from by show nd l i = l[i]; simp [nd, List.getD, hi]]
   rw [show (lineOf l who).sees i = who.contains (i : Int) from rfl]
   cases (lineOf l who).sends i <;> cases bad <;> simp
  generalize hx : l[i] = n at hnode hgi
  have hs1 := fun σ => r_Sent n true (Nat.le_trans hgi.q (by omega)) hgi.r hgi.c σ
  have hs2 := fun σ => r_Sent n false (Nat.le_trans hgi.q (by omega)) hgi.r hgi.c σ
  have hh1 := fun ok long σ => r_Heard n (lineOf l who).f ok long (Nat.le_trans hgi.g (by omega)) (Nat.le_trans hgi.fs (by omega)) hgi.c σ
  rw [hnode] at htk
  clear hnode
  generalize (List.range (i + 1)).map ((lineOf l who).node A bad) = A1 at htk ⊢
  generalize (List.range i).map ((lineOf l who).node A bad) = A0 at htk hlen h6
  have hap := fun n1 => appNd A0 n1 hlen
  generalize (lineOf l who).sends i = s at hA htk
  generalize (lineOf l who).f = f at hh1 htk ⊢
  generalize who.contains (i : Int) = c at hI htk
  have hlt : (i : Int) < (l.length : Int) := by omega
  simp only [Nd.D] at hap
  try simp at hA
  try simp at hI
  clear hgi
  cases s
  ·simp only [Bool.false_eq_true, if_false] at htk
   cases bad
   ·simp only [Bool.false_eq_true, if_false] at htk
    cases c
    ·simp only [Bool.false_and] at htk
     have hh := fun σ => hh1 false false σ
     generalize n.Heard f false false = n1 at hh htk
     have ha := hap n1
     rw [← htk] at ha
     clear htk hap
     try simp at hh
     simp [theLoop, Tryz.f25, loopsAll, Lp_some, and_assoc, -rd, rd_set, -loadS, -storeS, loadS_cons0, loadS_consS, storeS_cons0, storeS_consS, sfx_load0, sfx_load, sfx_store0, sfx_store, hS, h0, h3, h5, h6, h7, h9, h11, h12, h13, hlt, hi, hx, hA, hI, ha, rowsFrom, wrap_succ i (by omega), cellsOf, hh]
     done
    ·simp only [Bool.true_and] at htk
     cases hc : (n.c.s == 1) <;> rw [hc] at htk
     ·skip
      have hh := fun σ => hh1 false false σ
      generalize n.Heard f false false = n1 at hh htk
      have ha := hap n1
      rw [← htk] at ha
      clear htk hap
      try simp at hh
      simp [theLoop, Tryz.f25, loopsAll, Lp_some, and_assoc, -rd, rd_set, -loadS, -storeS, loadS_cons0, loadS_consS, storeS_cons0, storeS_consS, sfx_load0, sfx_load, sfx_store0, sfx_store, hS, h0, h3, h5, h6, h7, h9, h11, h12, h13, hlt, hi, hx, hA, hI, ha, rowsFrom, wrap_succ i (by omega), cellsOf, hh, hc]
      done
     ·skip
      have hh := fun σ => hh1 false true σ
      generalize n.Heard f false true = n1 at hh htk
      have ha := hap n1
      rw [← htk] at ha
      clear htk hap
      try simp at hh
      simp [theLoop, Tryz.f25, loopsAll, Lp_some, and_assoc, -rd, rd_set, -loadS, -storeS, loadS_cons0, loadS_consS, storeS_cons0, storeS_consS, sfx_load0, sfx_load, sfx_store0, sfx_store, hS, h0, h3, h5, h6, h7, h9, h11, h12, h13, hlt, hi, hx, hA, hI, ha, rowsFrom, wrap_succ i (by omega), cellsOf, hh, hc]
      done
   ·simp only [if_true] at htk
    cases c
    ·simp only [Bool.not_false] at htk
     have hh := fun σ => hh1 true false σ
     generalize n.Heard f true false = n1 at hh htk
     have ha := hap n1
     rw [← htk] at ha
     clear htk hap
     try simp at hh
     simp [theLoop, Tryz.f25, loopsAll, Lp_some, and_assoc, -rd, rd_set, -loadS, -storeS, loadS_cons0, loadS_consS, storeS_cons0, storeS_consS, sfx_load0, sfx_load, sfx_store0, sfx_store, hS, h0, h3, h5, h6, h7, h9, h11, h12, h13, hlt, hi, hx, hA, hI, ha, rowsFrom, wrap_succ i (by omega), cellsOf, hh]
     done
    ·simp only [Bool.not_true] at htk
     have hh := fun σ => hh1 false false σ
     generalize n.Heard f false false = n1 at hh htk
     have ha := hap n1
     rw [← htk] at ha
     clear htk hap
     try simp at hh
     simp [theLoop, Tryz.f25, loopsAll, Lp_some, and_assoc, -rd, rd_set, -loadS, -storeS, loadS_cons0, loadS_consS, storeS_cons0, storeS_consS, sfx_load0, sfx_load, sfx_store0, sfx_store, hS, h0, h3, h5, h6, h7, h9, h11, h12, h13, hlt, hi, hx, hA, hI, ha, rowsFrom, wrap_succ i (by omega), cellsOf, hh]
     done
  ·simp only [if_true] at htk
   cases bad
   ·simp only [Bool.false_eq_true, if_false] at htk
    cases A
    ·simp only [Bool.not_false, Bool.true_and] at htk
     by_cases hc : n.c.s = 2
     ·rw [if_pos (by simpa using hc)] at htk
      have ha := hap n
      rw [← htk] at ha
      simp only [hc] at ha
      clear htk hap
      simp [theLoop, Tryz.f25, loopsAll, Lp_some, and_assoc, -rd, rd_set, -loadS, -storeS, loadS_cons0, loadS_consS, storeS_cons0, storeS_consS, sfx_load0, sfx_load, sfx_store0, sfx_store, hS, h0, h3, h5, h6, h7, h9, h11, h12, h13, hlt, hi, hx, hA, hI, ha, rowsFrom, wrap_succ i (by omega), cellsOf, hc]
      done
     ·rw [if_neg (by simpa using hc)] at htk
      have hb : (n.c.s != 2) = true := by simpa using hc
      generalize n.Sent false = n1 at hs2 htk
      have ha := hap n1
      rw [← htk] at ha
      clear htk hap
      try simp at hs2
      simp [theLoop, Tryz.f25, loopsAll, Lp_some, and_assoc, -rd, rd_set, -loadS, -storeS, loadS_cons0, loadS_consS, storeS_cons0, storeS_consS, sfx_load0, sfx_load, sfx_store0, sfx_store, hS, h0, h3, h5, h6, h7, h9, h11, h12, h13, hlt, hi, hx, hA, hI, ha, rowsFrom, wrap_succ i (by omega), cellsOf, hs2, hb]
      done
    ·simp only [Bool.not_true, Bool.false_and, Bool.false_eq_true, if_false] at htk
     generalize n.Sent false = n1 at hs2 htk
     have ha := hap n1
     rw [← htk] at ha
     clear htk hap
     try simp at hs2
     simp [theLoop, Tryz.f25, loopsAll, Lp_some, and_assoc, -rd, rd_set, -loadS, -storeS, loadS_cons0, loadS_consS, storeS_cons0, storeS_consS, sfx_load0, sfx_load, sfx_store0, sfx_store, hS, h0, h3, h5, h6, h7, h9, h11, h12, h13, hlt, hi, hx, hA, hI, ha, rowsFrom, wrap_succ i (by omega), cellsOf, hs2]
     done
   ·simp only [if_true] at htk
    generalize n.Sent true = n1 at hs1 htk
    have ha := hap n1
    rw [← htk] at ha
    clear htk hap
    try simp at hs1
    simp [theLoop, Tryz.f25, loopsAll, Lp_some, and_assoc, -rd, rd_set, -loadS, -storeS, loadS_cons0, loadS_consS, storeS_cons0, storeS_consS, sfx_load0, sfx_load, sfx_store0, sfx_store, hS, h0, h3, h5, h6, h7, h9, h11, h12, h13, hlt, hi, hx, hA, hI, ha, rowsFrom, wrap_succ i (by omega), cellsOf, hs1]
    done
 ·rintro st ⟨J, S, rfl, hS, h0, h3, h5, h6, h7, h9, h11, h12, h13⟩
  generalize (List.range l.length).map ((lineOf l who).node A bad) = out at h6 ⊢
  generalize (lineOf l who).f = f
  simp [theLoop, Tryz.f25, loopsAll, Lp_some, and_assoc, -rd, rd_set, hS, h0, h3, h5, h6, h7, h9, h11, h12, h13]
  done
end Go.Proofs

set_option maxRecDepth 100000
set_option maxHeartbeats 8000000
namespace Go.Proofs
open Go.RowKit Go.Shelf Go.Pv
theorem r_slot1 (l : List Nd) (hg : ∀ n ∈ l, n.good) (hb : bytesOk l) (hl : l.length ≤ 1000) (who : List Int) (hwl : who.length ≤ 1000000) (hs : sndL l ≠ []) (σ : Store) : callIt E1 (evI E1) 25 [.d (.slice (l.map Nd.D)), .agg [.d (.slice (who.map intD))]] σ = some (.tup [.d (.slice ((slotL l who).1.map Nd.D)), (slotL l who).2.P], σ) := by
 refine call_run (fn := Tryz.f25) (l.length + 1) rfl rfl rfl Tryz.func25 rfl rfl ?_ rfl
 unfold slotL
 rw [if_neg hs]
 simp only
 have hW := fun σ => r_Winner l hg hl σ
 have hH := fun σ => r_hit l hg hl who hwl hs σ
 have hE := fun σ => r_heard l hg hl who σ
 obtain ⟨hw1, hw2⟩ := winP_line who hs
 have hfr : (lineOf l who).f.right = true := sndL_right hg _ hw2
 have hfb : byOk (lineOf l who).f.data := by
  obtain ⟨i, n, hn, h2, he⟩ := sndL_mem hw2
  have hf : (lineOf l who).f = n.Next.1 := (Prod.mk.inj he).2
  rw [hf]
  exact hb n (List.mem_of_getElem? hn) _ (Next_mem h2)
 have hwl2 := fun σ => r_wlen (lineOf l who).f hfr hfb σ
 have hwb := wire_len (lineOf l who).f hfr
 have hloop := l_rs (l.length + 1) l hg hl who hwl
 have hgoal : (if (!(lineOf l who).anyLoud && (lineOf l who).anyHears) = true then ((List.range l.length).map (lineOf l who).two, (⟨(lineOf l who).w, (lineOf l who).f, true, ((lineOf l who).f.wire.length : Int) + 3⟩ : Td)) else ((List.range l.length).map ((lineOf l who).three (lineOf l who).anyLoud), ⟨(lineOf l who).w, (lineOf l who).f, false, ((lineOf l who).f.wire.length : Int) + 23⟩)) =
   ((List.range l.length).map ((lineOf l who).node (lineOf l who).anyLoud (!(lineOf l who).anyLoud && (lineOf l who).anyHears)), ⟨(lineOf l who).w, (lineOf l who).f, !(lineOf l who).anyLoud && (lineOf l who).anyHears, ((lineOf l who).f.wire.length : Int) + if !(lineOf l who).anyLoud && (lineOf l who).anyHears then 3 else 23⟩) := by
  have hnode : ∀ A, (lineOf l who).node A true = (lineOf l who).two := fun A => by funext i; unfold Ln.node; simp
  have hnode' : ∀ A, (lineOf l who).node A false = (lineOf l who).three A := fun A => by funext i; unfold Ln.node; simp
  cases (!(lineOf l who).anyLoud && (lineOf l who).anyHears)
  ·rw [hnode']; simp
  ·rw [hnode]; simp
 rw [hgoal]
 clear hgoal hfr hfb
 rw [hw1] at hW
 simp only [atP, Option.map_some, Option.getD_some] at hW
 have hnodes := fun A bad => hloop A bad
 clear hloop
 generalize (lineOf l who).node = nodeF at hnodes ⊢
 generalize (lineOf l who).anyHears = B at hE ⊢
 generalize (lineOf l who).anyLoud = A at hH ⊢
 generalize (lineOf l who).w = w at hw2 hW ⊢
 generalize (lineOf l who).f = f at hw2 hwl2 hwb hnodes ⊢
 obtain ⟨k, nk, hk, hk2, he⟩ := sndL_mem hw2
 obtain ⟨rfl, rfl⟩ := Prod.mk.inj he
 obtain ⟨hkl, hk⟩ := List.getElem?_eq_some_iff.1 hk
 have hgk := hg nk (by rw [← hk]; exact List.getElem_mem hkl)
 have hnk := fun σ => r_Next nk (Nat.le_trans hgk.q (by omega)) hgk.r σ
 rw [hk2] at hnk
 have hk0 : ¬ (k : Int) < 0 := by omega
 clear hw1 hw2 he
 generalize nk.Next.1 = f at hnk hnodes hwl2 hwb ⊢
 generalize f.wire.length = wl at hwl2 hwb ⊢
 have w3 : IntKind.i64.wrap ((wl : Int) + 3) = wl + 3 := wrap_ok (by omega) (by omega)
 have w23 : IntKind.i64.wrap ((wl : Int) + 23) = wl + 23 := wrap_ok (by omega) (by omega)
 simp only [cellsOf, Fr.P] at hnodes
 try simp at hW
 try simp at hH
 try simp at hE
 try simp at hnk
 try simp at hwl2
 clear hg hb hs hgk hwb hk2
 cases A
 ·cases B
  ·have hq := hnodes false false
   simp only [Bool.not_false, Bool.true_and, Bool.not_true, Bool.false_and, if_true, if_false, Bool.false_eq_true]
   generalize (List.range l.length).map (nodeF false false) = out at hq ⊢
   simp [Tryz.f25, -loadS, -storeS, loadS_cons0, loadS_consS, storeS_cons0, storeS_consS, hW, hH, hE, hk, hkl, hk0, hnk, rowsFrom, acc_nil, ec_loop]
   generalize hLL : loopN _ _ _ = L
   obtain ⟨r, rfl, S, J, rfl, hS, h5, h6, h7, h9, h12⟩ := at_loop hLL (hq (.d (.int .i64 k)) _ _ rfl rfl rfl rfl rfl rfl rfl rfl rfl rfl (l.length + 1) (by omega))
   have h5' := rd_el h5 (by omega)
   simp [-rd, rd_set, -loadS, -storeS, loadS_cons0, loadS_consS, storeS_cons0, storeS_consS, hS, h5, h5', h6, h7, h9, h12, hwl2, w23]
   done
  ·have hq := hnodes false true
   simp only [Bool.not_false, Bool.true_and, Bool.not_true, Bool.false_and, if_true, if_false, Bool.false_eq_true]
   generalize (List.range l.length).map (nodeF false true) = out at hq ⊢
   simp [Tryz.f25, -loadS, -storeS, loadS_cons0, loadS_consS, storeS_cons0, storeS_consS, hW, hH, hE, hk, hkl, hk0, hnk, rowsFrom, acc_nil, ec_loop]
   generalize hLL : loopN _ _ _ = L
   obtain ⟨r, rfl, S, J, rfl, hS, h5, h6, h7, h9, h12⟩ := at_loop hLL (hq (.d (.int .i64 k)) _ _ rfl rfl rfl rfl rfl rfl rfl rfl rfl rfl (l.length + 1) (by omega))
   have h5' := rd_el h5 (by omega)
   simp [-rd, rd_set, -loadS, -storeS, loadS_cons0, loadS_consS, storeS_cons0, storeS_consS, hS, h5, h5', h6, h7, h9, h12, hwl2, w3]
   done
 ·have hq := hnodes true false
  simp only [Bool.not_false, Bool.true_and, Bool.not_true, Bool.false_and, if_true, if_false, Bool.false_eq_true]
  generalize (List.range l.length).map (nodeF true false) = out at hq ⊢
  simp [Tryz.f25, -loadS, -storeS, loadS_cons0, loadS_consS, storeS_cons0, storeS_consS, hW, hH, hE, hk, hkl, hk0, hnk, rowsFrom, acc_nil, ec_loop]
  generalize hLL : loopN _ _ _ = L
  obtain ⟨r, rfl, S, J, rfl, hS, h5, h6, h7, h9, h12⟩ := at_loop hLL (hq (.d (.int .i64 k)) _ _ rfl rfl rfl rfl rfl rfl rfl rfl rfl rfl (l.length + 1) (by omega))
  have h5' := rd_el h5 (by omega)
  simp [-rd, rd_set, -loadS, -storeS, loadS_cons0, loadS_consS, storeS_cons0, storeS_consS, hS, h5, h5', h6, h7, h9, h12, hwl2, w23]
  done
end Go.Proofs

set_option maxRecDepth 100000
set_option maxHeartbeats 8000000
namespace Go.Proofs
open Go.RowKit Go.Shelf Go.Pv
theorem r_Slot (l : List Nd) (hg : ∀ n ∈ l, n.good) (hb : bytesOk l) (hl : l.length ≤ 1000) (who : List Int) (hwl : who.length ≤ 1000000) (σ : Store) : callIt E1 (evI E1) 25 [.d (.slice (l.map Nd.D)), .agg [.d (.slice (who.map intD))]] σ = some (.tup [.d (.slice ((slotL l who).1.map Nd.D)), (slotL l who).2.P], σ) := by
 by_cases hs : sndL l = []
 ·exact r_slot0 l hg hl who hs σ
 ·exact r_slot1 l hg hb hl who hwl hs σ
end Go.Proofs

set_option maxRecDepth 100000
set_option maxHeartbeats 8000000
namespace Go.Proofs
open Go.RowKit Go.Shelf Go.Pv
theorem fits_offer {n : Nt} (h : n.fits) {k : Nat} (hk : k < n.bs.length) : (n.offer k).g.ok ∧ (n.offer k).g.rs = n.g.rs ∧ (n.offer k).bs.length = n.bs.length ∧ rw_ (n.offer k).bs k = n.row1 k ∧ (∀ x ∈ n.row1 k, x.good) ∧ bytesOk (n.row1 k) := by
 obtain ⟨r1, r2⟩ := row1_fit h.tofit hk
 obtain ⟨a1, a2, a3, a4⟩ := gateOf_ok h.gt k (n.own k)
 refine ⟨a1, a3, by unfold Nt.offer; simp, by unfold Nt.offer; rw [rw_get (by simpa using hk)]; simp, r1.good, r2⟩
theorem r_slotN {n : Nt} (h : n.fits) (hn : ∀ r ∈ n.g.rs, -1 ≤ r.n) {k : Nat} (hk : k < n.bs.length) (hko : k < n.g.out.length) (who : List Int) (hwl : who.length ≤ 1000000) (σ : Store) :
  callIt E1 (evI E1) 114 [n.P, .d (.int .i64 k), .agg [.d (.slice (who.map intD))]] σ = some (.tup [(n.Slot k who).1.P, (n.Slot k who).2.P], σ) := by
 have hm := h.mem hk
 obtain ⟨h0, h1, h2, h3⟩ := h.rows _ hm
 have hp := List.length_pos_iff.2 h0
 obtain ⟨a, har⟩ : ∃ a, (rw_ n.bs k).length = a + 1 := ⟨(rw_ n.bs k).length - 1, by omega⟩
 have ham : (rw_ n.bs k).length - 1 = a := by omega
 obtain ⟨f1, f2, f3, f4, f5, f6⟩ := fits_offer h hk
 obtain ⟨g1, g2⟩ := fits_got h hk who
 have hfew := h.few
 have c0 := fun σ => r_offer h hk hko σ
 have hs := fun σ => r_Slot (n.row1 k) f5 f6 (by rw [row1_len]; omega) who hwl σ
 have hlen : (slotL (n.row1 k) who).1.length = a + 1 := by rw [slotL_len, row1_len, har]
 have hr1 : (n.row1 k).length = a + 1 := by rw [row1_len, har]
 have hown1 : (n.row1 k)[a]? = some (ownOf n.g k (n.own k)) := by unfold Nt.row1; rw [ham]; simp [har]
 have hg0 : (n.offer k).g = gateOf n.g k (n.own k) := rfl
 have hb0 : (n.offer k).bs = n.bs.set k (n.row1 k) := rfl
 have haR : a < (slotL (n.row1 k) who).1.length := by omega
 unfold Nt.Slot
 dsimp only
 unfold heardOf
 rw [← hg0]
 simp only [ham] at g1 g2 ⊢
 have hx0 : (slotL (n.row1 k) who).1[a]'haR = nd (slotL (n.row1 k) who).1 a := (nd_at haR).symm
 have hcw := fun g' R σ => r_With ⟨(n.offer k).bs, g'⟩ k (by simpa [f3] using hk) (by simp [f3]; omega) R σ
 have hset : ∀ R, (n.offer k).bs.set k R = n.bs.set k R := by intro R; rw [hb0, List.set_set]
 have hbk : ((n.offer k).bs.map ndsD)[k]? = some (ndsD (n.row1 k)) := by rw [hb0]; simp [hk]
 have hml : ((n.offer k).bs.map ndsD).length = n.bs.length := by simp [f3]
 have hmr : ((n.row1 k).map Nd.D).length = a + 1 := by simp [hr1]
 have hw1 : IntKind.i64.wrap (((a + 1 : Nat) : Int) - 1) = (a : Int) := by rw [wrap_ok (by omega) (by omega)]; omega
 have hw2 : IntKind.i64.wrap ((a : Int) + 1 - 1) = (a : Int) := by rw [wrap_ok (by omega) (by omega)]; omega
 have hw3 : IntKind.i64.wrap (a : Int) = (a : Int) := wrap_ok (by omega) (by omega)
 have hra : ((n.row1 k).map Nd.D)[a]? = some (ownOf n.g k (n.own k)).D := by rw [List.getElem?_map, hown1]; rfl
 have hRa : ((slotL (n.row1 k) who).1.map Nd.D)[a]? = some (nd (slotL (n.row1 k) who).1 a).D := by rw [List.getElem?_map, List.getElem?_eq_getElem haR, hx0]; rfl
 have hmR : ((slotL (n.row1 k) who).1.map Nd.D).length = a + 1 := by simp [hlen]
 generalize ownOf n.g k (n.own k) = own at hown1 hra ⊢
 have haN : a < a + 1 := by omega
 have haI : (a : Int) < (a : Int) + 1 := by omega
 have hkI : (k : Int) < (n.bs.length : Int) := by omega
 have hn' : ∀ r ∈ (n.offer k).g.rs, -1 ≤ r.n := by rw [f2]; exact hn
 have c2 := fun σ => r_gIn (n.offer k).g f1 hn' k (own.q.headD fr0) σ
 have hI := Gt.In_ok f1 k (own.q.headD fr0)
 have hloop := fun m g (hg : Gt.ok g) (hn : ∀ r ∈ g.rs, -1 ≤ r.n) H A B T J => l_rslot m ((n.offer k).bs.map ndsD) g hg hn k H A B T (slotL (n.row1 k) who).1 a J haR (by omega) (by rw [hx0]; omega)
 have hnI : ∀ r ∈ ((n.offer k).g.In k (own.q.headD fr0)).rs, -1 ≤ r.n := by rw [hI.2.2.1]; exact hn'
 rw [hx0] at hloop
 have c3 := fun g' σ => hcw g' ((slotL (n.row1 k) who).1.set a { nd (slotL (n.row1 k) who).1 a with g := [] }) σ
 simp only [hset] at c3
 clear hx0 haR
 generalize nd (slotL (n.row1 k) who).1 a = x at hRa hloop g1 g2 c3 ⊢
 generalize (slotL (n.row1 k) who).2 = td at hs ⊢
 generalize (slotL (n.row1 k) who).1 = R at hs hRa hmR hloop hlen c3 ⊢
 refine call_run (fn := Tryz.f114) 1001 rfl rfl rfl Tryz.func114 rfl rfl ?_ rfl
 clear hset hcw hn hown1 f2 f3 f4 f5 f6 h hm h0 h1 h2 h3 hb0 hg0 hp g2 hlen hr1
 obtain ⟨q, fs, ⟨ct, cr, cs, cz⟩, gg⟩ := own
 obtain ⟨tw, tf, tb, tz⟩ := td
 generalize hB2 : (n.bs.set k (R.set a { x with g := [] })).map ndsD = B2 at c3
 have hP0 : (n.offer k).P = .agg (Nt.C (n.offer k).bs (n.offer k).g) := rfl
 rw [hP0] at c0
 simp only [Nt.C, Nt.P, Gt.P, hB2] at c0 c2 c3 hloop ⊢
 generalize hR2 : (R.set a { x with g := [] }).map Nd.D = R2 at c3 hloop
 generalize (n.offer k).bs.map ndsD = B at hbk hml c3 hloop c0 ⊢
 generalize (n.offer k).g = g1 at *
 simp only [ndsD] at hbk
 generalize (n.row1 k).map Nd.D = RW at hbk hra hmr hs
 generalize who.map intD = W at hs ⊢
 simp only [Nd.D] at hra
 generalize hRR : R.map Nd.D = RR at hRa hmR hs hloop
 have hxq : (x.q.map Fr.D).length = x.q.length := by simp
 simp only [Nd.D] at hRa
 obtain ⟨hk0, hbk⟩ := List.getElem?_eq_some_iff.1 hbk
 obtain ⟨ha0, hra⟩ := List.getElem?_eq_some_iff.1 hra
 obtain ⟨hR0, hRa⟩ := List.getElem?_eq_some_iff.1 hRa
 generalize n.bs.map ndsD = BB at c0 ⊢
 generalize n.g.rs.map Rt.D = p1 at c0 ⊢
 generalize n.g.out.map frsD = p3 at c0 ⊢
 generalize n.g.lost.map intD = p4 at c0 ⊢
 generalize n.g.cap = p2 at c0 ⊢
 generalize n.bs.length = nbl at *
 clear hB2 hR2 hRR
 try simp at hs
 try simp at c0
 cases q with
 | nil =>
  simp only [List.length_nil, Nat.lt_irrefl, decide_false, Bool.false_and, Bool.false_eq_true, if_false]
  have c3 := c3 (g1.Ins k x.g)
  try simp at c3
  clear c2 hnI hI
  simp (maxSteps := 2000000) [Tryz.f114, ec_loop, -loadS, -storeS, loadS_cons0, loadS_consS, storeS_cons0, storeS_consS, sfx_load0, sfx_load, sfx_store0, sfx_store, cellsOf, hml, hmr, hmR, hw1, hw2, hw3, hbk, hk0, hra, ha0, hRa, hR0, hk, hkI, haI, haN, c0, hs]
  generalize hLL : loopN _ _ _ = LL
  obtain ⟨r, rfl, J', S, rfl, hS, h1, h3, h6, h7, h9, h10⟩ := at_loop hLL (hloop _ g1 f1 hn' _ _ _ _ _ _ rfl rfl rfl rfl rfl rfl rfl rfl 1001 (by omega))
  simp [-rd, rd_ne, rd_eq, -loadS, -storeS, loadS_cons0, loadS_consS, storeS_cons0, storeS_consS, hS, h1, h3, h6, h7, h9, h10, hk, c3, rd_el h6 (by omega), rd_el h7 (by omega)]
  done
 | cons f qs =>
  have hqN : 0 < (f :: qs).length := by simp
  have hqp : decide (0 < (f :: qs).length) = true := by simp
  have hmq : ((f :: qs).map Fr.D).length = (f :: qs).length := by simp
  have hqI : (0 : Int) < (((f :: qs).length : Nat) : Int) := by simp
  simp only [List.headD_cons] at c2 hI hnI ⊢
  rw [hqp]
  cases hx0 : ((x.q.length : Int) == 0)
  ·simp only [Bool.and_false, Bool.false_eq_true, if_false]
   have c3 := c3 (g1.Ins k x.g)
   try simp at c3
   clear c2 hnI hI
   simp (maxSteps := 2000000) [Tryz.f114, ec_loop, -loadS, -storeS, loadS_cons0, loadS_consS, storeS_cons0, storeS_consS, sfx_load0, sfx_load, sfx_store0, sfx_store, cellsOf, hml, hmr, hmR, hw1, hw2, hw3, hbk, hk0, hra, ha0, hRa, hR0, hk, hkI, haI, haN, c0, hs, hqN, hqI, hxq, hx0]
   generalize hLL : loopN _ _ _ = LL
   obtain ⟨r, rfl, J', S, rfl, hS, h1, h3, h6, h7, h9, h10⟩ := at_loop hLL (hloop _ g1 f1 hn' _ _ _ _ _ _ rfl rfl rfl rfl rfl rfl rfl rfl 1001 (by omega))
   simp [-rd, rd_ne, rd_eq, -loadS, -storeS, loadS_cons0, loadS_consS, storeS_cons0, storeS_consS, hS, h1, h3, h6, h7, h9, h10, hk, c3, rd_el h6 (by omega), rd_el h7 (by omega)]
   done
  ·simp only [Bool.and_true, if_true]
   have c3 := c3 ((g1.In k f).Ins k x.g)
   try simp at c3
   try simp at c2
   simp (maxSteps := 2000000) [Tryz.f114, ec_loop, -loadS, -storeS, loadS_cons0, loadS_consS, storeS_cons0, storeS_consS, sfx_load0, sfx_load, sfx_store0, sfx_store, cellsOf, hml, hmr, hmR, hw1, hw2, hw3, hbk, hk0, hra, ha0, hRa, hR0, hk, hkI, haI, haN, c0, hs, hqN, hqI, hxq, hx0, c2]
   generalize hLL : loopN _ _ _ = LL
   obtain ⟨r, rfl, J', S, rfl, hS, h1, h3, h6, h7, h9, h10⟩ := at_loop hLL (hloop _ (g1.In k f) hI.1 hnI _ _ _ _ _ _ rfl rfl rfl rfl rfl rfl rfl rfl 1001 (by omega))
   simp [-rd, rd_ne, rd_eq, -loadS, -storeS, loadS_cons0, loadS_consS, storeS_cons0, storeS_consS, hS, h1, h3, h6, h7, h9, h10, hk, c3, rd_el h6 (by omega), rd_el h7 (by omega)]
   done
end Go.Proofs

set_option maxRecDepth 100000
set_option maxHeartbeats 8000000
namespace Go.Proofs
open Go.RowKit Go.Shelf Go.Pv
structure Nt.fitsR (n : Nt) : Prop extends n.fits where
 counts : ∀ r ∈ n.g.rs, -1 ≤ r.n
 outs : n.g.out.length = n.bs.length
theorem Nt.fitsR.like {a b : Nt} (h : a.fitsR) (hb : b.fits) (hl : b.like a) : b.fitsR :=
 ⟨hb, by rw [hl.2.1]; exact h.counts, by rw [hl.2.2.2, hl.len]; exact h.outs⟩
theorem l_rround (m : Nat) (n : Nt) (h : n.fitsR) (X : List PV) (S : List PV) (hS : S.length = 19) (h1 : rd S 1 = .ptr 0 0) (h2 : rd S 2 = .ptr 1 0) (h3 : rd S 3 = .d (.int .i64 0)) (k : Nat) (hk : n.bs.length < k) :
  Lp (loopN (evCode E1 (evI E1) m (theLoop Tryz.f166 0)) k ⟨S, [Nt.C n.bs n.g, X]⟩) fun r => ∃ (S' : List PV), r = (.exit 0, ⟨S', [Nt.C n.round.bs n.round.g, X]⟩) ∧ S'.length = 19 ∧ rd S' 1 = .ptr 0 0 ∧ rd S' 2 = .ptr 1 0 := by
 have hfew := h.few
 refine loop_inv (fun i st => ∃ (S : List PV), st = ⟨S, [Nt.C (Nt.slots (List.range i) n).bs (Nt.slots (List.range i) n).g, X]⟩ ∧ S.length = 19 ∧ rd S 1 = .ptr 0 0 ∧ rd S 2 = .ptr 1 0 ∧ rd S 3 = .d (.int .i64 i)) _ n.bs.length ?_ ?_ k 0 _ (by omega) (by omega) ⟨S, rfl, hS, h1, h2, h3⟩
 ·rintro i st hi ⟨S, rfl, hS, h1, h2, h3⟩
  have hlt : (i : Int) < (n.bs.length : Int) := by omega
  have hsl : Nt.slots (List.range (i + 1)) n = ((Nt.slots (List.range i) n).Slot i []).1 := by
   rw [List.range_succ, slots_append]; rfl
  obtain ⟨f1, f2⟩ := fits_slots (List.range i) h.tofits (fun j hj => by have := List.mem_range.1 hj; omega)
  have f3 := h.like f1 f2
  rw [hsl]
  generalize Nt.slots (List.range i) n = N at f1 f2 f3 ⊢
  have hNl := f2.len
  have c1 := fun σ => r_slotN f1 f3.counts (k := i) (by rw [hNl]; exact hi) (by rw [f3.outs, hNl]; exact hi) [] (by simp) σ
  have hml : (N.bs.map ndsD).length = n.bs.length := by simp [hNl]
  generalize N.Slot i [] = R at c1 ⊢
  obtain ⟨N', t⟩ := R
  simp only at c1 ⊢
  obtain ⟨tw, tf, tb, tz⟩ := t
  clear hsl f1 f2 f3
  simp only [Nt.C, Nt.P] at c1 ⊢
  generalize N.bs.map ndsD = a0 at c1 hml ⊢
  generalize N.g.rs.map Rt.D = a1 at c1 ⊢
  generalize N.g.out.map frsD = a3 at c1 ⊢
  generalize N.g.lost.map intD = a4 at c1 ⊢
  generalize N'.bs.map ndsD = b0 at c1 ⊢
  generalize N'.g.rs.map Rt.D = b1 at c1 ⊢
  generalize N'.g.out.map frsD = b3 at c1 ⊢
  generalize N'.g.lost.map intD = b4 at c1 ⊢
  try simp at c1
  simp [theLoop, Tryz.f166, loopsAll, Lp_some, and_assoc, -rd, rd_ne, rd_eq, -loadS, -storeS, loadS_cons0, loadS_consS, storeS_cons0, storeS_consS, cellsOf, hS, h1, h2, h3, hml, hlt, c1, wrap_succ i (by omega)]
  done
 ·rintro st ⟨S, rfl, hS, h1, h2, h3⟩
  rw [show Nt.slots (List.range n.bs.length) n = n.round from rfl]
  have hml : (n.round.bs.map ndsD).length = n.bs.length := by simp [(fits_round h.tofits).2.len]
  simp only [Nt.C]
  generalize n.round.bs.map ndsD = B at hml ⊢
  simp [theLoop, Tryz.f166, loopsAll, Lp_some, and_assoc, -rd, rd_ne, rd_eq, -loadS, -storeS, loadS_cons0, loadS_consS, storeS_cons0, storeS_consS, cellsOf, hS, h1, h2, h3, hml]
  done
theorem r_round (n : Nt) (h : n.fitsR) (σ : Store) : callIt E1 (evI E1) 166 [n.P] σ = some (n.round.P, σ) := by
 refine call_run (fn := Tryz.f166) 1001 rfl rfl rfl Tryz.func166 rfl rfl ?_ rfl
 have hloop := fun X => l_rround 1001 n h X
 have hfew := h.few
 rw [Nt.P_C, Nt.P_C]
 simp only [Nt.C] at hloop ⊢
 generalize n.bs.map ndsD = a0 at hloop ⊢
 generalize n.g.rs.map Rt.D = a1 at hloop ⊢
 generalize n.g.out.map frsD = a3 at hloop ⊢
 generalize n.g.lost.map intD = a4 at hloop ⊢
 generalize n.round.bs.map ndsD = b0 at hloop ⊢
 generalize n.round.g.rs.map Rt.D = b1 at hloop ⊢
 generalize n.round.g.out.map frsD = b3 at hloop ⊢
 generalize n.round.g.lost.map intD = b4 at hloop ⊢
 simp [Tryz.f166, ec_loop, -loadS, -storeS, loadS_cons0, loadS_consS, storeS_cons0, storeS_consS, cellsOf]
 generalize hLL : loopN _ _ _ = LL
 obtain ⟨r, rfl, S, rfl, hS, h1, h2⟩ := at_loop hLL (hloop _ _ rfl rfl rfl rfl 1001 (by omega))
 simp [-rd, rd_ne, rd_eq, -loadS, -storeS, loadS_cons0, loadS_consS, storeS_cons0, storeS_consS, hS, h1, h2, rd_el h2 (by omega)]
theorem l_rcalm (n0 : Nt) (h0 : n0.fitsR) (mo : Int) (X : List PV) (S : List PV) (hS : S.length = 25) (h1 : rd S 1 = .d (.int .i64 mo)) (h2 : rd S 2 = .ptr 0 0) (h4 : rd S 4 = .ptr 1 0) (h6 : rd S 6 = .d (.int .i64 0)) (k : Nat) (hk : most mo < k) :
  Lp (loopN (evCode E1 (evI E1) 10001 (theLoop Tryz.f115 0)) k ⟨S, [Nt.C n0.bs n0.g, X]⟩) fun r => ∃ (S' : List PV), S'.length = 25 ∧ rd S' 2 = .ptr 0 0 ∧ rd S' 4 = .ptr 1 0 ∧ rd S' 6 = .d (.int .i64 (n0.Calm mo).2) ∧ r = (.exit 0, ⟨S', [Nt.C (n0.Calm mo).1.bs (n0.Calm mo).1.g, X]⟩) := by
 unfold Nt.Calm
 simp only
 have hM : most mo ≤ 10000 := by unfold most; omega
 have hMi : ∀ i : Nat, i < most mo → (i : Int) < mo ∧ (i : Int) < 10000 := by intro i hi; unfold most at hi; omega
 have hMe : (most mo : Int) < 10000 → mo ≤ (most mo : Int) := by unfold most; omega
 generalize most mo = M at hk hM hMi hMe ⊢
 refine loop_inv (fun i st => ∃ (N : Nt) (S : List PV), st = ⟨S, [Nt.C N.bs N.g, X]⟩ ∧ N.fitsR ∧ Nt.calmF M n0 = ((Nt.calmF (M - i) N).1, (Nt.calmF (M - i) N).2 + i) ∧ S.length = 25 ∧ rd S 1 = .d (.int .i64 mo) ∧ rd S 2 = .ptr 0 0 ∧ rd S 4 = .ptr 1 0 ∧ rd S 6 = .d (.int .i64 i)) _ M ?_ ?_ k 0 _ (by omega) (by omega) ⟨n0, S, rfl, h0, rfl, hS, h1, h2, h4, h6⟩
 ·rintro i st hi ⟨N, S, rfl, hf, he, hS, h1, h2, h4, h6⟩
  obtain ⟨hlt, hlt2⟩ := hMi i hi
  have c1 := fun σ => r_still hf.tofits σ
  have c2 := fun σ => r_round N hf σ
  have hMi : M - i = (M - (i + 1)) + 1 := by omega
  rw [hMi] at he
  cases hs : N.Still
  ·have he' : Nt.calmF M n0 = ((Nt.calmF (M - (i + 1)) N.round).1, (Nt.calmF (M - (i + 1)) N.round).2 + (i + 1)) := by
    rw [he, Nt.calmF, hs, if_neg (by simp)]
    simp only
    congr 1
    omega
   have hfr : N.round.fitsR := hf.like (fits_round hf.tofits).1 (fits_round hf.tofits).2
   rw [hs] at c1
   clear he
   simp only [Nt.C, Nt.P] at c1 c2 ⊢
   generalize N.bs.map ndsD = a0 at c1 c2 ⊢
   generalize N.g.rs.map Rt.D = a1 at c1 c2 ⊢
   generalize N.g.out.map frsD = a3 at c1 c2 ⊢
   generalize N.g.lost.map intD = a4 at c1 c2 ⊢
   try simp at c1
   try simp at c2
   simp [theLoop, Tryz.f115, loopsAll, ec_loop, Lp_some, and_assoc, -rd, rd_ne, rd_eq, -loadS, -storeS, loadS_cons0, loadS_consS, storeS_cons0, storeS_consS, cellsOf, hS, h1, h2, h4, h6, hlt, hlt2, c1, c2, wrap_succ i (by omega)]
   exact ⟨N.round, rfl, rfl, rfl, rfl, rfl, hfr, he'⟩
  ·have he' : Nt.calmF M n0 = (N, i) := by
    rw [he, calmF_of_still _ hs]
    simp
   rw [he']
   rw [hs] at c1
   clear he c2
   simp only [Nt.C, Nt.P] at c1 ⊢
   generalize N.bs.map ndsD = a0 at c1 ⊢
   generalize N.g.rs.map Rt.D = a1 at c1 ⊢
   generalize N.g.out.map frsD = a3 at c1 ⊢
   generalize N.g.lost.map intD = a4 at c1 ⊢
   try simp at c1
   simp [theLoop, Tryz.f115, loopsAll, ec_loop, Lp_some, and_assoc, -rd, rd_ne, rd_eq, -loadS, -storeS, loadS_cons0, loadS_consS, storeS_cons0, storeS_consS, cellsOf, hS, h1, h2, h4, h6, hlt, hlt2, c1]
   refine ⟨_, ?_, ?_, ?_, ?_, rfl⟩ <;> simp [-rd, rd_ne, rd_eq, hS, h2, h4, h6]
 ·rintro st ⟨N, S, rfl, hf, he, hS, h1, h2, h4, h6⟩
  have he' : Nt.calmF M n0 = (N, M) := by rw [he, Nat.sub_self]; simp [Nt.calmF]
  rw [he']
  generalize Nt.C N.bs N.g = B
  by_cases hc : (M : Int) < mo
  ·have hc2 : ¬ (M : Int) < 10000 := fun h => by have := hMe h; omega
   simp [theLoop, Tryz.f115, loopsAll, Lp_some, and_assoc, -rd, rd_ne, rd_eq, hS, h1, h2, h4, h6, hc, hc2]
   refine ⟨_, ?_, ?_, ?_, ?_, rfl⟩ <;> simp [-rd, rd_ne, rd_eq, hS, h2, h4, h6]
  ·simp [theLoop, Tryz.f115, loopsAll, Lp_some, and_assoc, -rd, rd_ne, rd_eq, hS, h1, h2, h4, h6, hc]
   refine ⟨_, ?_, ?_, ?_, ?_, rfl⟩ <;> simp [-rd, rd_ne, rd_eq, hS, h2, h4, h6]
theorem r_calm (n : Nt) (h : n.fitsR) (mo : Int) (σ : Store) : callIt E1 (evI E1) 115 [n.P, .d (.int .i64 mo)] σ = some (.tup [(n.Calm mo).1.P, .d (.int .i64 (n.Calm mo).2)], σ) := by
 refine call_run (fn := Tryz.f115) 10001 rfl rfl rfl Tryz.func115 rfl rfl ?_ rfl
 have hloop := fun X => l_rcalm n h mo X
 have hM : most mo ≤ 10000 := by unfold most; omega
 rw [Nt.P_C, Nt.P_C]
 simp only [Nt.C] at hloop ⊢
 generalize n.bs.map ndsD = a0 at hloop ⊢
 generalize n.g.rs.map Rt.D = a1 at hloop ⊢
 generalize n.g.out.map frsD = a3 at hloop ⊢
 generalize n.g.lost.map intD = a4 at hloop ⊢
 generalize n.Calm mo = R at hloop ⊢
 obtain ⟨N, c⟩ := R
 simp only at hloop ⊢
 generalize N.bs.map ndsD = b0 at hloop ⊢
 generalize N.g.rs.map Rt.D = b1 at hloop ⊢
 generalize N.g.out.map frsD = b3 at hloop ⊢
 generalize N.g.lost.map intD = b4 at hloop ⊢
 generalize most mo = M at hloop hM
 simp [Tryz.f115, ec_loop, -loadS, -storeS, loadS_cons0, loadS_consS, storeS_cons0, storeS_consS, cellsOf]
 generalize hLL : loopN _ _ _ = LL
 obtain ⟨r, rfl, S, hS, h2, h4, h6, rfl⟩ := at_loop hLL (hloop _ _ rfl rfl rfl rfl rfl 10001 (by omega))
 simp [-rd, rd_ne, rd_eq, -loadS, -storeS, loadS_cons0, loadS_consS, storeS_cons0, storeS_consS, hS, h2, h4, h6, rd_el h4 (by omega), rd_el h6 (by omega)]
end Go.Proofs

set_option maxRecDepth 100000
set_option maxHeartbeats 8000000
namespace Go.Proofs
open Go.RowKit Go.Shelf Go.Pv
def actA (L : Nat) (N : Nt) (a : Act) : Nt := if a.d = 0 then sendA N a else if a.d = 1 then (if 0 ≤ a.b ∧ a.b < L then (N.Slot a.b.toNat a.who).1 else N) else (N.Calm a.m).1
theorem fits_actA {n : Nt} (h : n.fits) {a : Act} (hb : byOk a.f.data) : (actA n.bs.length n a).fits ∧ (actA n.bs.length n a).like n := by
 unfold actA
 split
 ·exact fits_send h _ _ hb
 ·split
  ·split
   ·exact fits_slot h (by omega) _
   ·exact ⟨h, .rfl' n⟩
  ·exact fits_calm h _
end Go.Proofs

set_option maxRecDepth 100000
set_option maxHeartbeats 8000000
namespace Go.Proofs
open Go.RowKit Go.Shelf Go.Pv
abbrev netZ : List PV := [.e0, .e0, .d (.int .i64 0), .e0, .e0]
theorem l_play (m : Nat) (hm : 1000 < m) (al : List Act) (hal : al.length ≤ 30) (hb : ∀ a ∈ al, byOk a.f.data ∧ a.who.length ≤ 30) (n0 : Nt) (h0 : n0.fitsR) (S : List PV) (hS : S.length = 166)
  (s2 : rd S 2 = .d (.slice (al.map Act.D))) (s3 : rd S 3 = .ptr 0 0) (s4 : rd S 4 = .ptr 1 0) (s6 : rd S 6 = .ptr 2 0) (s7 : rd S 7 = .ptr 3 0) (s9 : rd S 9 = .d (.int .i64 0)) (k : Nat) (hk : al.length < k) :
  Lp (loopN (evCode E1 (evI E1) m (theLoop Tryz.f46 0)) k ⟨S, [Nt.C n0.bs n0.g, Nt.C n0.bs n0.g, netZ, netZ]⟩) fun r => ∃ (N : Nt) (J : Store) (S' : List PV), r = (.exit 0, ⟨S', Nt.C N.bs N.g :: Nt.C N.bs N.g :: netZ :: netZ :: J⟩) ∧ S'.length = 166 ∧ rd S' 3 = .ptr 0 0 ∧ rd S' 4 = .ptr 1 0 ∧ rd S' 6 = .ptr 2 0 ∧ rd S' 7 = .ptr 3 0 := by
 have hml : (al.map Act.D).length = al.length := by simp
 refine loop_inv (fun i st => ∃ (N : Nt) (J : Store) (S : List PV), st = ⟨S, Nt.C N.bs N.g :: Nt.C N.bs N.g :: netZ :: netZ :: J⟩ ∧ N.fitsR ∧ N.bs.length = n0.bs.length ∧ S.length = 166 ∧ rd S 2 = .d (.slice (al.map Act.D)) ∧ rd S 3 = .ptr 0 0 ∧ rd S 4 = .ptr 1 0 ∧ rd S 6 = .ptr 2 0 ∧ rd S 7 = .ptr 3 0 ∧ rd S 9 = .d (.int .i64 i)) _ al.length ?_ ?_ k 0 _ (by omega) (by omega) ⟨n0, [], S, rfl, h0, rfl, hS, s2, s3, s4, s6, s7, s9⟩
 ·rintro i st hi ⟨N, J, S, rfl, f1, f2, hS, s2, s3, s4, s6, s7, s9⟩
  have hlt : (i : Int) < (al.length : Int) := by omega
  have hx : (al.map Act.D)[i]? = some (al[i]).D := by simp [hi]
  obtain ⟨hba, hwa⟩ := hb _ (List.getElem_mem hi)
  generalize al[i] = a at hx hba hwa
  have hact := fits_actA f1.tofits hba
  have hfin : ∀ N' : Nt, N' = actA N.bs.length N a → N'.fitsR ∧ N'.bs.length = n0.bs.length ∧ (∀ σ, callIt E1 (evI E1) 40 [N'.P] σ = some (.d (.bool N'.Still), σ)) ∧ (∀ σ, callIt E1 (evI E1) 116 [N'.P] σ = some (.d (.bool N'.Still), σ)) ∧ (∀ σ, callIt E1 (evI E1) 45 [N'.P, N'.P] σ = some (.d (.bool true), σ)) := by
   rintro N' rfl
   have hR := f1.like hact.1 hact.2
   exact ⟨hR, by rw [hact.2.len, f2], f_still hact.1, r_still hact.1, r_sameN _ hact.1.fine⟩
  have hlen : (N.bs.map ndsD).length = N.bs.length := by simp
  clear hact
  have c1 := fun σ => b_netSend N f1.ok.1 a.b a.n a.f σ
  have d1 := fun σ => r_sendN N f1.ok.1 a.b a.n a.f σ
  have c2 := fun (b : Nat) (hbk : b < N.bs.length) σ => f_slot f1.tofits hbk a.who (by omega) σ
  have d2 := fun (b : Nat) (hbk : b < N.bs.length) σ => r_slotN f1.tofits f1.counts hbk (by rw [f1.outs]; exact hbk) a.who (by omega) σ
  have c3 := fun σ => b_netCalm N f1.tofits a.m σ
  have d3 := fun σ => r_calm N f1 a.m σ
  unfold actA at hfin
  unfold sendA at hfin
  obtain ⟨ad, ab, an, ⟨fe, fid, frm, fln, fda⟩, aw, am⟩ := a
  simp only [Act.D] at c1 c2 c3 d1 d2 d3 hx hfin
  simp only [Nt.C, Nt.P] at c1 c2 c3 d1 d2 d3 hfin ⊢
  generalize hB0 : N.bs.map ndsD = b0 at c1 c2 c3 d1 d2 d3 hlen ⊢
  generalize hB1 : N.g.rs.map Rt.D = b1 at c1 c2 c3 d1 d2 d3 ⊢
  generalize hB3 : N.g.out.map frsD = b3 at c1 c2 c3 d1 d2 d3 ⊢
  generalize hB4 : N.g.lost.map intD = b4 at c1 c2 c3 d1 d2 d3 ⊢
  generalize al.map Act.D = A0 at hx hml s2 ⊢
  obtain ⟨hi0, hx⟩ := List.getElem?_eq_some_iff.1 hx
  try simp at c1
  try simp at d1
  by_cases hd0 : ad = 0
  ·subst hd0
   simp only [if_true] at hfin
   clear c2 c3 d2 d3
   generalize N.Send ab an _ = R at c1 d1 hfin
   obtain ⟨N', e⟩ := R
   simp only at c1 d1 hfin
   obtain ⟨q1, q2, q3, q4, q5⟩ := hfin N' rfl
   generalize hC0 : N'.bs.map ndsD = x0 at c1 d1 q3 q4 q5
   generalize hC1 : N'.g.rs.map Rt.D = x1 at c1 d1 q3 q4 q5
   generalize hC3 : N'.g.out.map frsD = x3 at c1 d1 q3 q4 q5
   generalize hC4 : N'.g.lost.map intD = x4 at c1 d1 q3 q4 q5
   try simp at q3
   try simp at q4
   try simp at q5
   simp [theLoop, Tryz.f46, loopsAll, Lp_some, and_assoc, -rd, rd_ne, rd_eq, -loadS, -storeS, loadS_cons0, loadS_consS, storeS_cons0, storeS_consS, sfx_load0, sfx_load, sfx_store0, sfx_store, cellsOf, bin_eq8, hS, s2, s3, s4, s6, s7, s9, hlt, hi, hi0, hx, hml, c1, d1, q3, q4, q5, wrap_succ i (by omega)]
   exact ⟨N', hC0.symm, hC1.symm, rfl, hC3.symm, hC4.symm, hC0.symm, hC1.symm, rfl, hC3.symm, hC4.symm, q1, q2⟩
  ·have hz0 : (ad == 0) = false := by simpa using hd0
   simp only [hd0, if_false] at hfin
   by_cases hd1 : ad = 1
   ·subst hd1
    simp only [if_true] at hfin
    clear c1 c3 d1 d3
    by_cases hbk : 0 ≤ ab ∧ ab < (N.bs.length : Int)
    ·rw [if_pos hbk] at hfin
     obtain ⟨b, rfl⟩ : ∃ b : Nat, ab = (b : Int) := ⟨ab.toNat, by omega⟩
     have hbI : (b : Int) < (N.bs.length : Int) := hbk.2
     have hbI2 : ¬ ((N.bs.length : Int) ≤ (b : Int)) := by omega
     have hb0 : ¬ ((b : Int) < 0) := by omega
     have hbN : b < N.bs.length := by omega
     have c2 := c2 b (by omega)
     have d2 := d2 b (by omega)
     rw [Int.toNat_natCast] at hfin
     generalize N.Slot b aw = R at c2 d2 hfin
     obtain ⟨N', ⟨tw, tf, tb, tz⟩⟩ := R
     simp only at c2 d2 hfin
     obtain ⟨q1, q2, q3, q4, q5⟩ := hfin N' rfl
     have hsm := fun σ => r_same tf tf σ
     rw [tf.same_refl] at hsm
     generalize hC0 : N'.bs.map ndsD = x0 at c2 d2 q3 q4 q5
     generalize hC1 : N'.g.rs.map Rt.D = x1 at c2 d2 q3 q4 q5
     generalize hC3 : N'.g.out.map frsD = x3 at c2 d2 q3 q4 q5
     generalize hC4 : N'.g.lost.map intD = x4 at c2 d2 q3 q4 q5
     try simp at q3
     try simp at q4
     try simp at q5
     try simp at c2
     try simp at d2
     try simp at hsm
     simp [theLoop, Tryz.f46, loopsAll, ec_loop, Lp_some, and_assoc, -rd, rd_ne, rd_eq, -loadS, -storeS, loadS_cons0, loadS_consS, storeS_cons0, storeS_consS, sfx_load0, sfx_load, sfx_store0, sfx_store, cellsOf, bin_eq8, hS, s2, s3, s4, s6, s7, s9, hlt, hi, hi0, hx, hml, hlen, hz0, c2, d2, q3, q4, q5, hb0, hbI, hbI2, hbN, hsm, wrap_succ i (by omega)]
     exact ⟨N', hC0.symm, hC1.symm, rfl, hC3.symm, hC4.symm, hC0.symm, hC1.symm, rfl, hC3.symm, hC4.symm, q1, q2⟩
    ·rw [if_neg hbk] at hfin
     obtain ⟨q1, q2, _, _, _⟩ := hfin N rfl
     clear c2 d2 hfin
     by_cases hb0 : ab < 0
     ·simp [theLoop, Tryz.f46, loopsAll, ec_loop, Lp_some, and_assoc, -rd, rd_ne, rd_eq, -loadS, -storeS, loadS_cons0, loadS_consS, storeS_cons0, storeS_consS, sfx_load0, sfx_load, sfx_store0, sfx_store, cellsOf, bin_eq8, hS, s2, s3, s4, s6, s7, s9, hlt, hi, hi0, hx, hml, hlen, hz0, hb0, wrap_succ i (by omega)]
      exact ⟨N, hB0.symm, hB1.symm, rfl, hB3.symm, hB4.symm, hB0.symm, hB1.symm, rfl, hB3.symm, hB4.symm, q1, q2⟩
     ·have hb1 : (N.bs.length : Int) ≤ ab := by omega
      simp [theLoop, Tryz.f46, loopsAll, ec_loop, Lp_some, and_assoc, -rd, rd_ne, rd_eq, -loadS, -storeS, loadS_cons0, loadS_consS, storeS_cons0, storeS_consS, sfx_load0, sfx_load, sfx_store0, sfx_store, cellsOf, bin_eq8, hS, s2, s3, s4, s6, s7, s9, hlt, hi, hi0, hx, hml, hlen, hz0, hb0, hb1, wrap_succ i (by omega)]
      exact ⟨N, hB0.symm, hB1.symm, rfl, hB3.symm, hB4.symm, hB0.symm, hB1.symm, rfl, hB3.symm, hB4.symm, q1, q2⟩
   ·have hz1 : (ad == 1) = false := by simpa using hd1
    simp only [hd1, if_false] at hfin
    clear c1 c2 d1 d2
    generalize N.Calm am = R at c3 d3 hfin
    obtain ⟨N', e⟩ := R
    simp only at c3 d3 hfin
    obtain ⟨q1, q2, q3, q4, q5⟩ := hfin N' rfl
    generalize hC0 : N'.bs.map ndsD = x0 at c3 d3 q3 q4 q5
    generalize hC1 : N'.g.rs.map Rt.D = x1 at c3 d3 q3 q4 q5
    generalize hC3 : N'.g.out.map frsD = x3 at c3 d3 q3 q4 q5
    generalize hC4 : N'.g.lost.map intD = x4 at c3 d3 q3 q4 q5
    try simp at q3
    try simp at q4
    try simp at q5
    try simp at c3
    try simp at d3
    simp [theLoop, Tryz.f46, loopsAll, ec_loop, Lp_some, and_assoc, -rd, rd_ne, rd_eq, -loadS, -storeS, loadS_cons0, loadS_consS, storeS_cons0, storeS_consS, sfx_load0, sfx_load, sfx_store0, sfx_store, cellsOf, bin_eq8, hS, s2, s3, s4, s6, s7, s9, hlt, hi, hi0, hx, hml, hlen, hz0, hz1, c3, d3, q3, q4, q5, wrap_succ i (by omega)]
    exact ⟨N', hC0.symm, hC1.symm, rfl, hC3.symm, hC4.symm, hC0.symm, hC1.symm, rfl, hC3.symm, hC4.symm, q1, q2⟩
 ·rintro st ⟨N, J, S, rfl, f1, f2, hS, s2, s3, s4, s6, s7, s9⟩
  generalize hB : Nt.C N.bs N.g = B
  generalize al.map Act.D = A0 at hml s2 ⊢
  simp [theLoop, Tryz.f46, loopsAll, Lp_some, and_assoc, -rd, rd_ne, rd_eq, hS, s2, s3, s4, s6, s7, s9, hml]
  exact ⟨N, hB.symm⟩
end Go.Proofs

set_option maxRecDepth 100000
set_option maxHeartbeats 8000000
namespace Go.Proofs
open Go.RowKit Go.Shelf Go.Pv
end Go.Proofs

set_option maxRecDepth 100000
set_option maxHeartbeats 8000000
namespace Go.Pv
theorem call_ex {E : Env} {f : FuncId} {fn : Func} {c : Code} {args : List PV} {Q : PV → Prop} (m : Nat) (hg : E.good f = true) (ho : E.ov f = none) (hp : E.pure f = true) (hf : E.P.funcs[f]? = some fn) (hb : fn.body = some c) (hd : isDataL args = true)
  (h : ∃ v, ((evCode E (evI E) m c ⟨args ++ List.replicate (fn.ntmps - args.length) .undef, []⟩).bind fun r => if r.1 = .normal ∨ r.1 = .ret then resVal E.P fn r.2 else none) = some v ∧ v.isData = true ∧ Q v) (hw : E.wild f = false := by rfl) (hx : E.ext E.loose f = none := by rfl) : ∃ v, Q v ∧ ∀ σ, callIt E (evI E) f args σ = some (v, σ) := by
 obtain ⟨v, h1, h2, h3⟩ := h
 exact ⟨v, h3, fun σ => call_run m hg ho hp hf hb hd h1 h2 hw hx⟩
end Go.Pv
namespace Go.Proofs
open Go.RowKit Go.Shelf Go.Pv
theorem b_play (al : List Act) (hal : al.length ≤ 30) (hb : ∀ a ∈ al, byOk a.f.data ∧ a.who.length ≤ 30) (n0 : Nt) (h0 : n0.fitsR) : ∃ v, (∃ N : Nt, v = .tup [N.P, N.P, .d (.bool true)]) ∧ ∀ σ, callIt E1 (evI E1) 46 [n0.P, n0.P, .d (.slice (al.map Act.D))] σ = some (v, σ) := by
 refine call_ex (fn := Tryz.f46) 1001 rfl rfl rfl Tryz.func46 rfl rfl ?_
 have hloop := l_play 1001 (by omega) al hal hb n0 h0
 rw [Nt.P_C]
 simp only [Nt.C] at hloop ⊢
 generalize al.map Act.D = A0 at hloop ⊢
 generalize n0.bs.map ndsD = a0 at hloop ⊢
 generalize n0.g.rs.map Rt.D = a1 at hloop ⊢
 generalize n0.g.out.map frsD = a3 at hloop ⊢
 generalize n0.g.lost.map intD = a4 at hloop ⊢
 simp [Tryz.f46, ec_loop, -loadS, -storeS, loadS_cons0, loadS_consS, storeS_cons0, storeS_consS, cellsOf]
 generalize hLL : loopN _ _ _ = LL
 obtain ⟨r, rfl, N, J, S, rfl, hS, h3, h4, h6, h7⟩ := at_loop hLL (hloop _ rfl rfl rfl rfl rfl rfl rfl 1001 (by omega))
 simp [Nt.C, -rd, rd_ne, rd_eq, -loadS, -storeS, loadS_cons0, loadS_consS, storeS_cons0, storeS_consS, hS, h3, h4, h6, h7, rd_el h6 (by omega), rd_el h7 (by omega)]
 exact ⟨N, rfl, rfl, rfl, rfl, rfl⟩
theorem new_R {l : List (List Nd)} {r : List Rt} {room : Int} (h : (Nt.New l r room).2 = 0) : (∀ x ∈ (Nt.New l r room).1.g.rs, -1 ≤ x.n) ∧ (Nt.New l r room).1.g.out.length = (Nt.New l r room).1.bs.length := by
 unfold Nt.New at h ⊢
 split
 ·rename_i h1; rw [if_pos h1] at h; simp at h
 ·rename_i h1
  rw [if_neg h1] at h
  split
  ·rename_i h2; rw [if_pos h2] at h; exact absurd h h2
  ·rename_i h2
   have h2' : (Gt.New r l.length room).2 = 0 := by simpa using h2
   unfold Gt.New at h2' ⊢
   split at h2'
   ·simp at h2'
   ·rename_i k1
    split at h2'
    ·simp at h2'
    ·rename_i k2
     split at h2'
     ·simp at h2'
     ·rename_i k3
      rw [if_neg k1, if_neg k2, if_neg k3]
      refine ⟨fun x hx => ?_, by simp⟩
      have k1' : routesOk r l.length = true := by simpa using k1
      unfold routesOk at k1'
      rw [Bool.and_eq_true] at k1'
      have k4 := k1'.2
      rw [Bool.not_eq_true', List.any_eq_false] at k4
      have k5 := k4 x hx
      unfold Rt.bad at k5
      rw [Bool.not_eq_true, Bool.or_eq_false_iff] at k5
      have k6 := k5.2
      unfold Rt.idOk at k6
      by_cases hn : x.n = -1
      ·omega
      ·simp [hn] at k6
       omega
theorem fine_nt0 : nt0.fine := ⟨by decide, by simp [nt0], ⟨by decide, by decide, by decide, by simp [nt0, gt0]⟩⟩
theorem new_fine {l : List (List Nd)} {r : List Rt} {room : Int} (hb : ∀ x ∈ l, bytesOk x) : (Nt.New l r room).1.fine := by
 by_cases h : (Nt.New l r room).2 = 0
 ·exact (fits_new hb h).1.fine
 ·unfold Nt.New at h ⊢
  split
  ·exact fine_nt0
  ·split
   ·exact fine_nt0
   ·rename_i h1 h2
    rw [if_neg h1, if_neg h2] at h
    exact absurd rfl h
theorem netTells_true (l : List (List Nd)) (r : List Rt) (room : Int) (a : List Act) (hb : ∀ x ∈ l, bytesOk x ∧ ∀ n ∈ x, n.wf) (hr : ∀ x ∈ r, x.wf) (ha : ∀ x ∈ a, byOk x.f.data) :
  ∃ σ', evI E1 8 [.d (.slice (l.map ndsD)), .d (.slice (r.map Rt.D)), .d (.int .i64 room), .d (.slice (a.map Act.D))] [] = some (.d (.bool true), σ') := by
 refine evI_ex (fn := Tryz.f8) 1001 rfl Tryz.func8 rfl ?_
 have e0 := b_netHead
 have e1 := fun σ => b_great14 l r a σ
 cases hg : great14 l r a
 ·rw [hg] at e1
  have e2 := fun σ => netNew_of (room := room) hg σ
  obtain ⟨g1, g2, g3, g4, g5⟩ := great14_no hg
  have e3 := fun σ => r_netNew l r room (fun x hx => by have := (g4 x hx).1; omega) (fun x hx n hn => ⟨Nd.wf_small ((g4 x hx).2 n hn), ((hb x hx).2 n hn).2.1.2⟩) (by omega) (fun x hx => (hr x hx).2.2.1) σ
  have hf := @fits_new l r room (fun x hx => (hb x hx).1)
  have hsm : ∀ σ, callIt E1 (evI E1) 45 [(Nt.New l r room).1.P, (Nt.New l r room).1.P] σ = some (.d (.bool true), σ) := r_sameN _ (new_fine fun x hx => (hb x hx).1)
  have hR : (Nt.New l r room).2 = 0 → (Nt.New l r room).1.fitsR := fun h => ⟨(hf h).1, (new_R h).1, (new_R h).2⟩
  generalize Nt.New l r room = N0 at e2 e3 hf hsm hR
  obtain ⟨n, e⟩ := N0
  simp only at e2 e3 hf hsm hR
  by_cases he : e = 0
  ·subst he
   obtain ⟨v, ⟨N, rfl⟩, e4⟩ := b_play a g3 (fun x hx => ⟨ha x hx, (g5 x hx).1⟩) n (hR rfl)
   clear hf hg hR
   generalize a.map Act.D = a0 at e1 e4 ⊢
   generalize l.map ndsD = l0 at e1 e2 e3 ⊢
   generalize r.map Rt.D = r0 at e1 e2 e3 ⊢
   simp only [Nt.C, Nt.P] at e2 e3 e4 hsm ⊢
   generalize n.bs.map ndsD = n0 at e2 e3 e4 hsm
   generalize n.g.rs.map Rt.D = n1 at e2 e3 e4 hsm
   generalize n.g.out.map frsD = n3 at e2 e3 e4 hsm
   generalize n.g.lost.map intD = n4 at e2 e3 e4 hsm
   generalize N.bs.map ndsD = m0 at e4
   generalize N.g.rs.map Rt.D = m1 at e4
   generalize N.g.out.map frsD = m3 at e4
   generalize N.g.lost.map intD = m4 at e4
   try simp at e1
   try simp at e2
   try simp at e3
   try simp at e4
   try simp at hsm
   simp [Tryz.f8, -loadS, -storeS, loadS_cons0, loadS_consS, storeS_cons0, storeS_consS, cellsOf, e0, e1, e2, e3, e4, hsm]
  ·have he2 : (e != 0) = true := by simpa using he
   clear hf hR
   simp only [Nt.C, Nt.P] at e2 e3 hsm ⊢
   generalize a.map Act.D = a0 at e1 ⊢
   generalize l.map ndsD = l0 at e1 e2 e3 ⊢
   generalize r.map Rt.D = r0 at e1 e2 e3 ⊢
   generalize n.bs.map ndsD = n0 at e2 e3 hsm
   generalize n.g.rs.map Rt.D = n1 at e2 e3 hsm
   generalize n.g.out.map frsD = n3 at e2 e3 hsm
   generalize n.g.lost.map intD = n4 at e2 e3 hsm
   try simp at e1
   try simp at e2
   try simp at e3
   try simp at hsm
   simp [Tryz.f8, -loadS, -storeS, loadS_cons0, loadS_consS, storeS_cons0, storeS_consS, cellsOf, e0, e1, e2, e3, he2, hsm]
 ·rw [hg] at e1
  generalize a.map Act.D = a0 at e1 ⊢
  generalize l.map ndsD = l0 at e1 ⊢
  generalize r.map Rt.D = r0 at e1 ⊢
  try simp at e1
  simp [Tryz.f8, -loadS, -storeS, e0, e1]
def netTells_types : List TypeId := [66, 63, 3, 86]
theorem netTells_args (ps : List PV) (h : OkArgs Tryz.prog 8 netTells_types ps) : ∃ σ', evI E1 8 ps [] = some (.d (.bool true), σ') := by
 obtain ⟨d1, _, h1, rfl, d2, _, h2, rfl, d3, _, h3, rfl, d4, _, h4, rfl, rfl⟩ := h
 obtain ⟨l, rfl, hb⟩ := ok_Ndss (d := 1) h1
 obtain ⟨r, rfl, _, hr⟩ := ok_Rts (d := 4) h2
 obtain ⟨room, rfl, _⟩ := ok_int (d := 7) h3
 obtain ⟨a, rfl, ha⟩ := ok_Acts (d := 3) h4
 rw [arg_Ndss, arg_Rts, arg_int, arg_Acts]
 exact netTells_true l r room a hb hr (fun x hx => Fr.wf_by (ha x hx).2.2.2.1)
end Go.Proofs

