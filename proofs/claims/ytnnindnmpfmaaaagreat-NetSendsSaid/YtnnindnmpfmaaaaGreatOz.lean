/- A frame's bits on the wire, as the references count them. -/
import Derived.Test.YtnnindnmpfmaaaaGreatOb
set_option linter.unusedVariables false
set_option linter.unusedSimpArgs false
set_option maxRecDepth 100000
set_option maxHeartbeats 8000000
namespace Go.Proofs
open Go.RowKit Go.Shelf Go.Pv

theorem l_r2 (m : Nat) (l : List Int) (hl : l.length ≤ 1000000) (S : List PV) (hS : S.length = 27) (h0 : rd S 0 = .d (.slice (l.map intD))) (h3 : rd S 3 = .d (.int .i64 0)) (h4 : rd S 4 = .d (.int .i64 0)) (k : Nat) (hk : l.length < k) :
    Lp (loopN (evCode E1 (evI E1) m (theLoop Tryz.f179 0)) k ⟨S, []⟩) fun r => ∃ S' : List PV, r = (.exit 0, ⟨S', []⟩) ∧ S'.length = 27 ∧ rd S' 3 = .d (.int .i64 (crcB l)) := by
  refine loop_inv (fun i st => ∃ S : List PV, st = ⟨S, []⟩ ∧ S.length = 27 ∧ rd S 0 = .d (.slice (l.map intD)) ∧ rd S 3 = .d (.int .i64 (crcB (l.take i))) ∧ rd S 4 = .d (.int .i64 i)) _ l.length ?_ ?_ k 0 _ (by omega) (by omega) ⟨S, rfl, hS, h0, h3, h4⟩
  · rintro i st hi ⟨S, rfl, hS, h0, h3, h4⟩
    have htk : crcB (l.take (i + 1)) = crcS (crcB (l.take i)) l[i] := by rw [crcB, List.take_add_one, List.getElem?_eq_getElem hi, List.foldl_append]; rfl
    have hs := crcB_lt (l.take i)
    generalize crcB (l.take (i + 1)) = c1 at htk ⊢
    generalize crcB (l.take i) = s at htk hs h3
    generalize hx : l[i] = b at htk
    have hlt : (i : Int) < (l.length : Int) := by omega
    have s14 : ∀ k : IntKind, evBin Tryz.prog .shr 3 (.d (.int .i64 s)) (.d (.int k 14)) = some (.d (.int .i64 (s / 2 ^ 14))) := by
      intro k
      rw [bin_shr_u (by decide), Int.fdiv_eq_ediv_of_nonneg _ (by decide)]; rfl
    have s1 : ∀ k : IntKind, evBin Tryz.prog .shl 3 (.d (.int .i64 s)) (.d (.int k 1)) = some (.d (.int .i64 (s * 2))) := by
      intro k
      rw [bin_shl_u (by decide), show s * 2 ^ min (Int.toNat 1) 64 = s * 2 from rfl, wrap_ok (by omega) (by omega)]
    have hrem : evBin Tryz.prog .rem 3 (.d (.int .i64 (s * 2))) (.d (.int .i64 32768)) = some (.d (.int .i64 (s * 2 % 2 ^ 15))) := by
      rw [bin_rem (by decide), Int.tmod_eq_emod_of_nonneg (by omega)]
      rfl
    unfold crcS at htk
    rw [xorI_comm] at htk
    generalize s / 2 ^ 14 = t at s14 htk
    generalize s * 2 = d at s1 hrem htk
    generalize d % 2 ^ 15 = e at hrem htk
    by_cases hc : xorI b t = 1
    · rw [if_pos hc] at htk
      subst htk
      simp [theLoop, Tryz.f179, loopsAll, Lp_some, and_assoc, -rd, rd_set, hS, h0, h3, h4, hlt, hi, hx, s14, s1, hrem, hc, wrap_succ i (by omega)]
    · rw [if_neg hc] at htk
      subst htk
      have hb : (xorI b t == 1) = false := by simpa using hc
      simp [theLoop, Tryz.f179, loopsAll, Lp_some, and_assoc, -rd, rd_set, hS, h0, h3, h4, hlt, hi, hx, s14, s1, hrem, hb, hc, wrap_succ i (by omega)]
  · rintro st ⟨S, rfl, hS, h0, h3, h4⟩
    rw [List.take_length] at h3
    simp [theLoop, Tryz.f179, loopsAll, Lp_some, and_assoc, -rd, rd_set, hS, h0, h3, h4]

theorem r_crc (l : List Int) (hl : l.length ≤ 1000000) (σ : Store) : callIt E1 (evI E1) 179 [.d (.slice (l.map intD))] σ = some (.d (.int .i64 (crcB l)), σ) := by
  refine call_run (fn := Tryz.f179) (l.length + 1) rfl rfl rfl Tryz.func179 rfl rfl ?_ rfl
  simp [Tryz.f179, ec_loop]
  generalize hLL : loopN _ _ _ = L
  obtain ⟨r, rfl, S, rfl, hS, h3⟩ := at_loop hLL (l_r2 (l.length + 1) l hl _ rfl rfl rfl rfl (l.length + 1) (by omega))
  simp [-rd, rd_set, hS, h3]

theorem l_spr (m : Nat) (l : List Int) (hl : l.length ≤ 100) (hb : byOk l) (S : List PV) (hS : S.length = 26) (h0 : rd S 0 = .d (.slice (l.map byD))) (h3 : rd S 3 = .e0) (h4 : rd S 4 = .d (.int .i64 0)) (k : Nat) (hk : l.length < k) :
    Lp (loopN (evCode E1 (evI E1) m (theLoop Tryz.f204 0)) k ⟨S, []⟩) fun r => ∃ S' : List PV, r = (.exit 0, ⟨S', []⟩) ∧ S'.length = 26 ∧ rd S' 3 = acc ((spreadL l).map intD) := by
  refine loop_inv (fun i st => ∃ S : List PV, st = ⟨S, []⟩ ∧ S.length = 26 ∧ rd S 0 = .d (.slice (l.map byD)) ∧ rd S 3 = acc ((spreadL (l.take i)).map intD) ∧ rd S 4 = .d (.int .i64 i)) _ l.length ?_ ?_ k 0 _ (by omega) (by omega) ⟨S, rfl, hS, h0, h3, h4⟩
  · rintro i st hi ⟨S, rfl, hS, h0, h3, h4⟩
    have hx1 := hb l[i] (List.getElem_mem hi)
    have htk : spreadL (l.take (i + 1)) = spreadL (l.take i) ++ bitsOf l[i] 8 := by
      have e1 : byOk (l.take (i + 1)) := fun x hx => hb x (List.mem_of_mem_take hx)
      have e2 : byOk (l.take i) := fun x hx => hb x (List.mem_of_mem_take hx)
      rw [spreadL_bits _ e1, spreadL_bits _ e2, List.take_add_one, List.getElem?_eq_getElem hi, List.flatMap_append]
      simp
    have hlen : (spreadL (l.take i)).length ≤ 800 := by rw [spreadL_len]; simp; omega
    generalize hx : l[i] = x at htk hx1
    generalize spreadL (l.take (i + 1)) = O1 at htk ⊢
    generalize spreadL (l.take i) = O0 at htk hlen h3
    have hap := row_app (A := O0) (B := bitsOf x 8) (by simp [bitsOf]; omega)
    rw [← htk] at hap
    have hp := fun σ => r_Put x 8 (by decide) (by omega) σ
    have hlt : (i : Int) < (l.length : Int) := by omega
    have hw : evConvert Tryz.prog 5 3 (.d (.int .u8 x)) = some (.d (.int .i64 x)) := by
      have : evConvert Tryz.prog 5 3 (.d (.int .u8 x)) = some (.d (.int .i64 (IntKind.i64.wrap x))) := by kernel_rfl
      rw [this, wrap_ok (by omega) (by omega)]
    generalize bitsOf x 8 = B at hp hap
    clear htk
    simp at hp hap
    simp [theLoop, Tryz.f204, loopsAll, Lp_some, and_assoc, -rd, rd_set, hS, h0, h3, h4, hlt, hi, hx, hp, hap, hw, wrap_succ i (by omega)]
  · rintro st ⟨S, rfl, hS, h0, h3, h4⟩
    rw [List.take_length] at h3
    simp [theLoop, Tryz.f204, loopsAll, Lp_some, and_assoc, -rd, rd_set, hS, h0, h3, h4]

theorem r_spread (l : List Int) (hl : l.length ≤ 100) (hb : byOk l) (σ : Store) : callIt E1 (evI E1) 204 [.d (.slice (l.map byD))] σ = some (.d (.slice ((spreadL l).map intD)), σ) := by
  refine call_run (fn := Tryz.f204) (l.length + 1) rfl rfl rfl Tryz.func204 rfl rfl ?_ rfl
  simp [Tryz.f204, ec_loop]
  generalize hLL : loopN _ _ _ = L
  obtain ⟨r, rfl, S, rfl, hS, h3⟩ := at_loop hLL (l_spr (l.length + 1) l hl hb _ rfl rfl rfl rfl (l.length + 1) (by omega))
  simp [-rd, rd_set, hS, h3]

theorem r_fhead (f : Fr) (hf : f.right = true) (hb : byOk f.data) (σ : Store) : callIt E1 (evI E1) 177 [f.P] σ = some (acc (f.head.map intD), σ) := by
  refine call_run (fn := Tryz.f177) 5 rfl rfl rfl Tryz.func177 rfl rfl ?_ (acc_data _)
  obtain ⟨_, hl1, hl2, hdl⟩ := f.right_iff.1 hf
  have hdl8 : f.data.length ≤ 8 := by
    cases hr : f.rm <;> rw [hr] at hdl <;> simp only [if_true, if_false, Bool.false_eq_true] at hdl <;> omega
  have hrl := f.rank_len
  have hrk := fun σ => r_Rank f hf σ
  have hs := fun σ => r_spread f.data (by omega) hb σ
  have a0 := row_app (A := [0]) (B := f.rank) (by simp; omega)
  have p1 := fun σ => r_put ([0] ++ f.rank) 0 1 (by omega) (by decide) (by simp; omega) σ
  have p2 := fun σ => r_put ([0] ++ f.rank ++ [0]) 0 1 (by omega) (by decide) (by simp; omega) σ
  have p5 := fun σ => r_put ([0] ++ f.rank ++ [0] ++ (if f.e then [0] else [])) f.ln 4 (by omega) (by omega) (by cases f.e <;> simp <;> omega) σ
  have hh : ([0] ++ f.rank ++ [0] ++ (if f.e then [0] else []) ++ bitsOf f.ln 4).length ≤ 50 := by cases f.e <;> simp [bitsOf] <;> omega
  have a1 := row_app (A := []) (B := [0] ++ f.rank ++ [0] ++ (if f.e then [0] else []) ++ bitsOf f.ln 4) (by simp at hh ⊢; omega)
  have a2 := row_app (A := [0] ++ f.rank ++ [0] ++ (if f.e then [0] else []) ++ bitsOf f.ln 4) (B := spreadL f.data) (by rw [spreadL_len]; omega)
  unfold Fr.head
  rw [bitsOf_01] at p1 p2
  rw [List.nil_append] at a1
  obtain ⟨e, fid, rm, ln, data⟩ := f
  simp only at p1 p2 p5 a0 a1 a2 hs hh ⊢
  generalize Fr.rank ⟨e, fid, rm, ln, data⟩ = rk at hrk p1 p2 p5 a0 a1 a2 hh ⊢
  cases e
  · simp only [Bool.false_eq_true, if_false, List.append_nil] at p5 a1 a2 hh ⊢
    generalize [0] ++ rk ++ [0] ++ bitsOf ln 4 ++ spreadL data = R5 at a2 ⊢
    generalize [0] ++ rk ++ [0] ++ bitsOf ln 4 = R4 at p5 a1 a2 hh
    generalize [0] ++ rk ++ [0] = R3 at p1 p5
    generalize [0] ++ rk = R2 at p1 a0
    generalize spreadL data = sd at hs a2
    simp [acc_nil] at p1 p5 hs hrk a0 a1 a2
    simp [Tryz.f177, rowsFrom, p1, p5, hs, hrk, a0, a1, a2, retOf_acc, acc_nil]
    try exact retOf_acc _
  · simp only [if_true] at p5 a1 a2 hh ⊢
    generalize [0] ++ rk ++ [0] ++ [0] ++ bitsOf ln 4 ++ spreadL data = R5 at a2 ⊢
    generalize [0] ++ rk ++ [0] ++ [0] ++ bitsOf ln 4 = R4 at p5 a1 a2 hh
    generalize [0] ++ rk ++ [0] ++ [0] = R3b at p2 p5
    generalize [0] ++ rk ++ [0] = R3 at p1 p2
    generalize [0] ++ rk = R2 at p1 a0
    generalize spreadL data = sd at hs a2
    simp [acc_nil] at p1 p2 p5 hs hrk a0 a1 a2
    simp [Tryz.f177, rowsFrom, p1, p2, p5, hs, hrk, a0, a1, a2, retOf_acc, acc_nil]
    try exact retOf_acc _

/-- What the last one is; none yet: -1. -/
def Stf.fits (x : Stf) : Prop := (x.out = [] ∧ x.last = -1) ∨ (∃ A, x.out = A ++ [x.last] ∧ (x.last = 0 ∨ x.last = 1))
theorem stfS_fits (x : Stf) (b : Int) (hb : b = 0 ∨ b = 1) : (stfS x b).fits := by
  unfold stfS
  dsimp only
  generalize (if b = x.last then x.n + 1 else 1) = n1
  by_cases h : n1 = 5
  · rw [if_pos h]; exact .inr ⟨x.out ++ [b], by simp, by simp only; omega⟩
  · rw [if_neg h]; exact .inr ⟨x.out, rfl, hb⟩
theorem stf_fits : ∀ (l : List Int) (x : Stf), x.fits → allBit l → (l.foldl stfS x).fits
  | [], x, h, _ => h
  | b :: l, x, h, hb => stf_fits l _ (stfS_fits x b (hb b (by simp))) fun y hy => hb y (by simp [hy])

theorem l_rstuff (m : Nat) (l : List Int) (hl : l.length ≤ 400) (S : List PV) (hS : S.length = 48) (h0 : rd S 0 = .d (.slice (l.map intD))) (h3 : rd S 3 = .e0) (h4 : rd S 4 = .d (.int .i64 0)) (h5 : rd S 5 = .d (.int .i64 0)) (hbit : allBit l) (k : Nat) (hk : l.length < k) :
    Lp (loopN (evCode E1 (evI E1) m (theLoop Tryz.f180 0)) k ⟨S, []⟩) fun r => ∃ S' : List PV, r = (.exit 0, ⟨S', []⟩) ∧ S'.length = 48 ∧ rd S' 3 = acc ((stuffB l).map intD) := by
  refine loop_inv (fun i st => ∃ S : List PV, st = ⟨S, []⟩ ∧ S.length = 48 ∧ rd S 0 = .d (.slice (l.map intD)) ∧ rd S 3 = acc ((stuffX (l.take i)).out.map intD) ∧ rd S 4 = .d (.int .i64 (stuffX (l.take i)).n) ∧ rd S 5 = .d (.int .i64 i)) _ l.length ?_ ?_ k 0 _ (by omega) (by omega) ⟨S, rfl, hS, h0, h3, h4, h5⟩
  · rintro i st hi ⟨S, rfl, hS, h0, h3, h4, h5⟩
    have htk : stuffX (l.take (i + 1)) = stfS (stuffX (l.take i)) l[i] := by rw [stuffX, List.take_add_one, List.getElem?_eq_getElem hi, List.foldl_append]; rfl
    obtain ⟨hin, hil⟩ := stf_inv (l.take i) ⟨[], -1, 0⟩ (by simp)
    have hil' : (stuffX (l.take i)).out.length ≤ 800 := Nat.le_trans hil (by simp; omega)
    have hft : (stuffX (l.take i)).fits := stf_fits (l.take i) ⟨[], -1, 0⟩ (.inl ⟨rfl, rfl⟩) fun y hy => hbit y (List.mem_of_mem_take hy)
    replace hin : 0 ≤ (stuffX (l.take i)).n ∧ (stuffX (l.take i)).n < 5 := hin
    rw [htk]
    have hb01 := hbit l[i] (List.getElem_mem hi)
    generalize hx : l[i] = b at hb01
    clear htk hil
    generalize stuffX (l.take i) = X at h3 h4 hin hil' hft ⊢
    obtain ⟨out, last, n⟩ := X
    simp only at h3 h4 hin hil'
    have a1 := row_app (A := out) (B := [b]) (by simp; omega)
    have hlt : (i : Int) < (l.length : Int) := by omega
    have w : IntKind.i64.wrap (1 - b) = 1 - b := wrap_ok (by omega) (by omega)
    have wn : IntKind.i64.wrap (n + 1) = n + 1 := wrap_ok (by omega) (by omega)
    have a2 := row_app (A := out ++ [b]) (B := [1 - b]) (by simp; omega)
    have e2 : out ++ [b] ++ [1 - b] = out ++ [b, 1 - b] := by simp
    rw [e2] at a2
    -- is the last one the same?
    have hcase : (out = [] ∧ ¬ b = last) ∨ (∃ j : Nat, out.length = j + 1 ∧ out[j]? = some last) := by
      rcases hft with ⟨h1, h2⟩ | ⟨A, h1, h2⟩
      · exact .inl ⟨h1, by simp only at h2; omega⟩
      · exact .inr ⟨A.length, by simp only at h1; rw [h1]; simp, by simp only at h1; rw [h1]; simp⟩
    clear hft
    unfold stfS
    dsimp only
    rcases hcase with ⟨rfl, hne⟩ | ⟨j, hj, hjl⟩
    · rw [if_neg hne, if_neg (by decide)]
      generalize hO : [] ++ [b] = O1 at a1 ⊢
      simp [acc_nil] at a1
      replace h3 : rd S 3 = .e0 := h3
      simp [theLoop, Tryz.f180, loopsAll, Lp_some, and_assoc, -rd, rd_set, hS, h0, h3, h4, h5, hlt, hi, hx, a1, rowsFrom, wrap_succ i (by omega)]
    · have hwj : IntKind.i64.wrap ((out.length : Int) - 1) = j := by rw [wrap_ok (by omega) (by omega)]; omega
      have hgt : 0 < out.length := by omega
      have hol : (out.map intD)[j]? = some (intD last) := by rw [List.getElem?_map, hjl]; rfl
      have hml : (out.map intD).length = out.length := by simp
      have hjo : j < out.length := by omega
      generalize hn1 : (if b = last then n + 1 else 1) = n1
      generalize out.length = ol at hml hwj hgt hjo
      generalize out ++ [b, 1 - b] = O2 at a2 ⊢
      generalize out ++ [b] = O1 at a1 a2 ⊢
      have hst : (acc (out.map intD)).strip = .d (.slice (out.map intD)) := acc_strip _
      generalize out.map intD = M at h3 a1 hol hml hst
      obtain ⟨hjM, hol⟩ := List.getElem?_eq_some_iff.1 hol
      simp only [intD] at hol
      simp at a1 a2
      by_cases hbl : b = last
      · have e1 : (last == b) = true := by simp [hbl]
        rw [if_pos hbl] at hn1
        subst hbl
        by_cases h5' : n1 = 5
        · rw [if_pos h5']
          generalize hc : 1 - b = c at a2 w ⊢
          rw [h5'] at hn1
          rw [hn1] at wn
          have wn5 : IntKind.i64.wrap 5 = 5 := rfl
          simp [theLoop, Tryz.f180, loopsAll, Lp_some, and_assoc, -rd, rd_set, hS, h0, h3, h4, h5, hlt, hi, hx, a1, a2, w, wn, wn5, hc, hwj, hgt, hol, hml, hjo, hn1, rowsFrom, wrap_succ i (by omega)]
        · rw [if_neg h5']
          have e5 : (n1 == 5) = false := by simpa using h5'
          rw [hn1] at wn
          simp [theLoop, Tryz.f180, loopsAll, Lp_some, and_assoc, -rd, rd_set, hS, h0, h3, h4, h5, hlt, hi, hx, a1, w, wn, hwj, hgt, hol, hml, hjo, hn1, e5, h5', rowsFrom, wrap_succ i (by omega)]
      · have e1 : (last == b) = false := by simp; omega
        rw [if_neg hbl] at hn1
        subst hn1
        rw [if_neg (by decide)]
        simp [theLoop, Tryz.f180, loopsAll, Lp_some, and_assoc, -rd, rd_set, hS, h0, h3, h4, h5, hlt, hi, hx, a1, w, wn, hwj, hgt, hol, hml, hjo, e1, rowsFrom, wrap_succ i (by omega)]
  · rintro st ⟨S, rfl, hS, h0, h3, h4, h5⟩
    rw [List.take_length] at h3 h4
    unfold stuffB
    generalize stuffX l = X at h3 h4 ⊢
    simp [theLoop, Tryz.f180, loopsAll, Lp_some, and_assoc, -rd, rd_set, hS, h0, h3, h4, h5]

theorem r_stuff (l : List Int) (hl : l.length ≤ 400) (hbit : allBit l) (σ : Store) : callIt E1 (evI E1) 180 [.d (.slice (l.map intD))] σ = some (acc ((stuffB l).map intD), σ) := by
  refine call_run (fn := Tryz.f180) (l.length + 1) rfl rfl rfl Tryz.func180 rfl rfl ?_ (acc_data _)
  simp [Tryz.f180, ec_loop]
  generalize hLL : loopN _ _ _ = L
  obtain ⟨r, rfl, S, rfl, hS, h3⟩ := at_loop hLL (l_rstuff (l.length + 1) l hl _ rfl rfl rfl rfl rfl hbit (l.length + 1) (by omega))
  simp [-rd, rd_set, hS, h3]
  try exact retOf_acc _

theorem r_wire (f : Fr) (hf : f.right = true) (hb : byOk f.data) (σ : Store) : callIt E1 (evI E1) 131 [f.P] σ = some (acc (f.wire.map intD), σ) := by
  refine call_run (fn := Tryz.f131) 5 rfl rfl rfl Tryz.func131 rfl rfl ?_ (acc_data _)
  have h1 := fun σ => r_fhead f hf hb σ
  have hhl := head_len f hf
  have h2 := fun σ => r_crc f.head (by omega) σ
  have h3 := fun σ => r_Put (crcB f.head) 15 (by omega) (crcB_lt _) σ
  have hbl : (f.head ++ bitsOf (crcB f.head) 15).length ≤ 135 := by simp [bitsOf]; omega
  have a0 := row_app (A := []) (B := f.head) (by simp; omega)
  have a1 := row_app (A := f.head) (B := bitsOf (crcB f.head) 15) (by simp [bitsOf]; omega)
  have h5 := fun σ => r_stuff f.body (by unfold Fr.body; omega) ((head_allBit f hb).app (bitsOf_bits _ _)) σ
  have hsl := stuffB_len f.body
  have a2 := row_app (A := stuffB f.body) (B := bitsOf 1023 10) (by rw [show (bitsOf 1023 10).length = 10 by simp [bitsOf]]; unfold Fr.body at hsl ⊢; omega)
  unfold Fr.wire
  rw [← Fr.body] at a1
  rw [List.nil_append] at a0
  obtain ⟨e, fid, rm, ln, data⟩ := f
  generalize Fr.body ⟨e, fid, rm, ln, data⟩ = bd at h5 a1 a2 ⊢
  generalize Fr.head ⟨e, fid, rm, ln, data⟩ = hd at h1 h2 h3 a0 a1
  generalize crcB hd = c at h2 h3 a1
  generalize bitsOf c 15 = B1 at h3 a1
  rw [show bitsOf 1023 10 = [1, 1, 1, 1, 1, 1, 1, 1, 1, 1] by decide] at a2 ⊢
  generalize stuffB bd = sb at h5 a2 ⊢
  generalize sb ++ [1, 1, 1, 1, 1, 1, 1, 1, 1, 1] = W at a2 ⊢
  simp [acc_nil] at h1 h2 h3 h5 a0 a1 a2
  simp [Tryz.f131, rowsFrom, h1, h2, h3, h5, a0, a1, a2, acc_nil]
  try exact retOf_acc _

theorem r_wlen (f : Fr) (hf : f.right = true) (hb : byOk f.data) (σ : Store) : callIt E1 (evI E1) 62 [f.P] σ = some (.d (.int .i64 f.wire.length), σ) := by
  refine call_run (fn := Tryz.f62) 5 rfl rfl rfl Tryz.func62 rfl rfl ?_ rfl
  have h := fun σ => r_wire f hf hb σ
  simp at h
  simp [Tryz.f62, h]
end Go.Proofs

