/- A frame's bits on a line, and how many; Sums over bits; bits that are stuffed; how many bits a frame has. -/
import Derived.Test.YtnnindnmpfmaaaaGreatOa
set_option linter.unusedVariables false
set_option linter.unusedSimpArgs false
set_option maxRecDepth 100000
set_option maxHeartbeats 8000000
namespace Go.Proofs
open Go.RowKit Go.Shelf Go.Pv

section rows
variable {σ : Store} {id : Nat} {rows : List Int}

theorem row_app {A B : List Int} (h : A.length + B.length ≤ 1000) : evAppend Tryz.prog 39 (acc (A.map intD)) (.d (.slice (B.map intD))) = some (acc ((A ++ B).map intD)) := by
  rw [app41 _ _ (rowsOk_int _) (rowsOk_int _) (by simp [roomB]; omega), List.map_append]

theorem g_put (h : σ[id]? = some [acc (rows.map intD)]) (hl : rows.length ≤ 500) (v : Int) (m : Nat) (hm : m ≤ 32) (hv : 0 ≤ v ∧ v < 2 ^ m) :
    callIt E1 (evI E1) 207 [.ptr id 0, .d (.int .i64 v), .d (.int .i64 m)] σ = some (.tup [], σ.set id [acc ((rows ++ bitsOf v m).map intD)]) := by
  have hid := (List.getElem?_eq_some_iff.1 h).1
  have h1 : loadS σ id 0 1 = some [acc (rows.map intD)] := loadS_one h rfl
  have h2 : storeS σ id 0 [.d (.slice (rows.map intD))] = some (σ.set id [.d (.slice (rows.map intD))]) := storeS_one _ h (by simp)
  have h3 : storeS (σ.set id [.d (.slice (rows.map intD))]) id 0 [acc ((rows ++ bitsOf v m).map intD)] = some (σ.set id [acc ((rows ++ bitsOf v m).map intD)]) := by
    rw [storeS_one (cells := [.d (.slice (rows.map intD))]) _ (by simp [hid]) (by simp)]
    simp
  have hp := fun σ => c90 v m hm hv σ
  have ha := row_app (A := rows) (B := bitsOf v m) (by simp [bitsOf]; omega)
  rw [bitRows_map] at hp
  generalize rows ++ bitsOf v m = R2 at h3 ha ⊢
  generalize bitsOf v m = B at hp ha
  refine call_im (σ' := σ.set id [acc (R2.map intD)]) rfl rfl rfl ?_ rfl rfl (by rw [List.take_of_length_le (by simp)])
  refine evI_run (fn := Tryz.f207) 5 rfl Tryz.func207 rfl ?_
  try simp at hp
  simp [Tryz.f207, -loadS, -storeS, h1, h2, h3, hp, ha]

theorem g_flag (h : σ[id]? = some [acc (rows.map intD)]) (hl : rows.length ≤ 500) (is : Bool) :
    callIt E1 (evI E1) 208 [.ptr id 0, .d (.bool is)] σ = some (.tup [], σ.set id [acc ((rows ++ bitsOf (bitOf is) 1).map intD)]) := by
  have hp := g_put h hl (bitOf is) 1 (by omega) (by cases is <;> simp [bitOf])
  generalize rows ++ bitsOf (bitOf is) 1 = R2 at hp ⊢
  refine call_im (σ' := σ.set id [acc (R2.map intD)]) rfl rfl rfl ?_ rfl rfl (by rw [List.take_of_length_le (by simp)])
  refine evI_run (fn := Tryz.f208) 5 rfl Tryz.func208 rfl ?_
  cases is
  · simp [bitOf] at hp
    simp [Tryz.f208, hp]
  · simp [bitOf] at hp
    simp [Tryz.f208, hp]
end rows

theorem set_pre {σ J : Store} {id : Nat} {c : List PV} (h : id < σ.length) : (σ ++ J).set id c = σ.set id c ++ J := by rw [List.set_append_left _ _ h]

theorem list_set_self {α : Type} {l : List α} {i : Nat} {x : α} (h : l[i]? = some x) : l.set i x = l := by
  apply List.ext_getElem?
  intro j
  have hi := (List.getElem?_eq_some_iff.1 h).1
  rw [List.getElem?_set]
  by_cases hj : i = j
  · subst hj; simp only [if_true, hi]; exact h.symm
  · rw [if_neg hj]
theorem acc_nil : acc [] = PV.e0 := rfl

theorem g_rank {σ : Store} {id : Nat} {rows : List Int} (h : σ[id]? = some [acc (rows.map intD)]) (hl : rows.length ≤ 400) (f : Fr) (hf : f.right = true) :
    callIt E1 (evI E1) 183 [.ptr id 0, f.P] σ = some (.tup [], σ.set id [acc ((rows ++ f.rank).map intD)]) := by
  have hid := (List.getElem?_eq_some_iff.1 h).1
  obtain ⟨T, hT⟩ : ∃ T : List Int → Store, ∀ R, T R = σ.set id [acc (R.map intD)] ++ [cellsOf f.P] := ⟨_, fun _ => rfl⟩
  have h0 : σ ++ [cellsOf f.P] = T rows := by rw [hT, list_set_self h]
  have hTg : ∀ R, (T R)[id]? = some [acc (R.map intD)] := fun R => by rw [hT, List.getElem?_append_left (by simpa using hid)]; simp [hid]
  have hTs : ∀ R R', (T R).set id [acc (R'.map intD)] = T R' := fun R R' => by rw [hT, hT, set_pre (by simpa using hid), List.set_set]
  have hTl : ∀ R (k : Nat) (c : PV), (cellsOf f.P)[k]? = some c → loadS (T R) σ.length k 1 = some [c] := fun R k c hc => loadS_one (cells := cellsOf f.P) (by rw [hT, List.getElem?_append_right (by simp)]; simp) hc
  have hput : ∀ (R : List Int) (v : Int) (m : Nat), R.length ≤ 500 → m ≤ 32 → 0 ≤ v ∧ v < 2 ^ m → _ := fun R v m hR hm hv => g_put (hTg R) hR v m hm hv
  have hflag : ∀ (R : List Int) (is : Bool), R.length ≤ 500 → _ := fun R is hR => g_flag (hTg R) hR is
  simp only [hTs] at hput hflag
  have hfin : ∀ R, (T R).take σ.length = σ.set id [acc (R.map intD)] := fun R => by rw [hT, List.take_append_of_le_length (by simp)]; exact List.take_of_length_le (by simp)
  obtain ⟨hi, _⟩ := f.right_iff.1 hf
  refine call_im (σ' := T (rows ++ f.rank)) rfl rfl rfl ?_ rfl rfl (hfin _)
  refine evI_run (fn := Tryz.f183) 5 rfl Tryz.func183 rfl ?_
  have l0 := fun R => hTl R 0 _ rfl
  have l1 := fun R => hTl R 1 _ rfl
  have l2 := fun R => hTl R 2 _ rfl
  simp only [cellsOf, Fr.P] at l0 l1 l2 h0
  clear hTl hTs hTg hT hfin
  obtain ⟨e, fid, rm, ln, data⟩ := f
  simp only at hi l0 l1 l2 h0
  unfold Fr.rank
  cases e
  · simp only [Bool.false_eq_true, if_false] at hi ⊢
    have p1 := hput rows fid 11 (by omega) (by omega) hi
    have p2 := hflag (rows ++ bitsOf fid 11) rm (by simp [bitsOf]; omega)
    have p3 := hput (rows ++ bitsOf fid 11 ++ bitsOf (bitOf rm) 1) 0 1 (by simp [bitsOf]; omega) (by omega) (by decide)
    rw [← List.append_assoc, ← List.append_assoc]
    generalize rows ++ bitsOf fid 11 ++ bitsOf (bitOf rm) 1 ++ bitsOf 0 1 = R3 at p3 ⊢
    generalize rows ++ bitsOf fid 11 ++ bitsOf (bitOf rm) 1 = R2 at p2 p3
    generalize rows ++ bitsOf fid 11 = R1 at p1 p2
    clear hput hflag
    simp at p1 p3
    simp [Tryz.f183, -loadS, -storeS, h0, l0, l1, l2, p1, p2, p3]
  · simp only [if_true] at hi ⊢
    have hd : (0 : Int) ≤ fid / 2 ^ 18 ∧ fid / 2 ^ 18 < 2 ^ 11 := by omega
    have s18 : evBin Tryz.prog .shr 3 (.d (.int .i64 fid)) (.d (.int .i64 18)) = some (.d (.int .i64 (fid / 2 ^ 18))) := by
      rw [bin_shr_u (by decide)]
      rw [Int.fdiv_eq_ediv_of_nonneg _ (by decide)]
      rfl
    have s18' : evBin Tryz.prog .shr 3 (.d (.int .i64 fid)) (.d (.int .u64 18)) = some (.d (.int .i64 (fid / 2 ^ 18))) := by
      rw [bin_shr_u (by decide)]
      rw [Int.fdiv_eq_ediv_of_nonneg _ (by decide)]
      rfl
    have a18 : evBin Tryz.prog .and 3 (.d (.int .i64 fid)) (.d (.int .i64 262143)) = some (.d (.int .i64 (fid % 2 ^ 18))) := by rw [bin_and, and18 fid hi]
    have p1 := hput rows (fid / 2 ^ 18) 11 (by omega) (by omega) hd
    have p2 := hput (rows ++ bitsOf (fid / 2 ^ 18) 11) 3 2 (by simp [bitsOf]; omega) (by omega) (by decide)
    have p3 := hput (rows ++ bitsOf (fid / 2 ^ 18) 11 ++ bitsOf 3 2) (fid % 2 ^ 18) 18 (by simp [bitsOf]; omega) (by omega) (by omega)
    have p4 := hflag (rows ++ bitsOf (fid / 2 ^ 18) 11 ++ bitsOf 3 2 ++ bitsOf (fid % 2 ^ 18) 18) rm (by simp [bitsOf]; omega)
    rw [← List.append_assoc, ← List.append_assoc, ← List.append_assoc]
    generalize rows ++ bitsOf (fid / 2 ^ 18) 11 ++ bitsOf 3 2 ++ bitsOf (fid % 2 ^ 18) 18 ++ bitsOf (bitOf rm) 1 = R4 at p4 ⊢
    generalize rows ++ bitsOf (fid / 2 ^ 18) 11 ++ bitsOf 3 2 ++ bitsOf (fid % 2 ^ 18) 18 = R3 at p3 p4
    generalize rows ++ bitsOf (fid / 2 ^ 18) 11 ++ bitsOf 3 2 = R2 at p2 p3
    generalize rows ++ bitsOf (fid / 2 ^ 18) 11 = R1 at p1 p2
    generalize fid / 2 ^ 18 = q at p1 s18 s18'
    generalize fid % 2 ^ 18 = q2 at p3 a18
    clear hput hflag hd hi
    simp at p1 p2 p3
    simp [Tryz.f183, -loadS, -storeS, -bin_and, h0, l0, l1, l2, s18, s18', a18, p1, p2, p3, p4]

/-- Bytes. -/
def byOk (l : List Int) : Prop := ∀ x ∈ l, 0 ≤ x ∧ x < 256
theorem b_spread (bs : List Int) (hb : byOk bs) (hl : bs.length ≤ 1000000) (σ : Store) : callIt E1 (evI E1) 213 [.d (.slice (bs.map byD))] σ = some (.d (.slice ((spreadL bs).map intD)), σ) := by
  have ho : E1.ov 213 = some ovSpread := rfl
  have hall : bs.all (fun x => decide (0 ≤ x ∧ x < 256)) = true := by rw [List.all_eq_true]; intro x hx; simpa using hb x hx
  have hov : ovSpread [.d (.slice (bs.map byD))] = some (.d (.slice ((spreadL bs).map intD))) := by
    unfold ovSpread
    simp only [bytes_map, Option.bind_some, hall, Bool.and_true]
    rw [if_pos (by simp; omega)]
    rfl
  simp [callIt, ho, hov]

/-- A frame's bits ahead of the sum. -/
def Fr.head (f : Fr) : List Int := [0] ++ f.rank ++ [0] ++ (if f.e then [0] else []) ++ bitsOf f.ln 4 ++ spreadL f.data
theorem bitsOf_01 : bitsOf 0 1 = [0] := rfl

theorem b_fhead (f : Fr) (hf : f.right = true) (hb : byOk f.data) (σ : Store) : callIt E1 (evI E1) 187 [f.P] σ = some (acc (f.head.map intD), σ) := by
  refine call_run (fn := Tryz.f187) 5 rfl rfl rfl Tryz.func187 rfl rfl ?_ (acc_data _)
  obtain ⟨_, hl1, hl2, hdl⟩ := f.right_iff.1 hf
  have hdl8 : f.data.length ≤ 8 := by
    cases hr : f.rm <;> rw [hr] at hdl <;> simp only [if_true, if_false, Bool.false_eq_true] at hdl <;> omega
  have hrl := f.rank_len
  have hg : ∀ R : List Int, [cellsOf f.P, [acc (R.map intD)]][1]? = some [acc (R.map intD)] := fun _ => rfl
  have hp : ∀ (R : List Int) (v : Int) (m : Nat), R.length ≤ 500 → m ≤ 32 → 0 ≤ v ∧ v < 2 ^ m → _ := fun R v m hR hm hv => g_put (hg R) hR v m hm hv
  have p1 := hp [] 0 1 (by simp) (by omega) (by decide)
  have p2 := g_rank (hg [0]) (by simp) f hf
  have p3 := hp ([0] ++ f.rank) 0 1 (by simp; omega) (by omega) (by decide)
  have p4 := hp ([0] ++ f.rank ++ [0]) 0 1 (by simp; omega) (by omega) (by decide)
  have p5 := hp ([0] ++ f.rank ++ [0] ++ (if f.e then [0] else [])) f.ln 4 (by cases f.e <;> simp <;> omega) (by omega) (by omega)
  have hs := fun σ => b_spread f.data hb (by omega) σ
  have ha := row_app (A := [0] ++ f.rank ++ [0] ++ (if f.e then [0] else []) ++ bitsOf f.ln 4) (B := spreadL f.data) (by rw [spreadL_len]; cases f.e <;> simp [bitsOf] <;> omega)
  clear hp hg
  unfold Fr.head
  rw [bitsOf_01] at p1 p3 p4
  obtain ⟨e, fid, rm, ln, data⟩ := f
  simp only at p2 p3 p4 p5 hs ha ⊢
  generalize Fr.rank ⟨e, fid, rm, ln, data⟩ = rk at p2 p3 p4 p5 ha ⊢
  simp only [List.nil_append] at p1
  cases e
  · simp only [Bool.false_eq_true, if_false, List.append_nil] at p5 ha ⊢
    generalize [0] ++ rk ++ [0] ++ bitsOf ln 4 ++ spreadL data = R5 at ha ⊢
    generalize [0] ++ rk ++ [0] ++ bitsOf ln 4 = R4 at p5 ha
    generalize [0] ++ rk ++ [0] = R3 at p3 p4 p5
    generalize [0] ++ rk = R2 at p2 p3
    generalize spreadL data = sd at hs ha
    simp [cellsOf, List.set, acc_nil] at p1 p2 p3 p5 hs
    simp [Tryz.f187, p1, p2, p3, p5, hs, ha, List.set]
    cases R5 <;> rfl
  · simp only [if_true] at p5 ha ⊢
    generalize [0] ++ rk ++ [0] ++ [0] ++ bitsOf ln 4 ++ spreadL data = R5 at ha ⊢
    generalize [0] ++ rk ++ [0] ++ [0] ++ bitsOf ln 4 = R4 at p5 ha
    generalize [0] ++ rk ++ [0] ++ [0] = R3b at p4 p5
    generalize [0] ++ rk ++ [0] = R3 at p3 p4
    generalize [0] ++ rk = R2 at p2 p3
    generalize spreadL data = sd at hs ha
    simp [cellsOf, List.set, acc_nil] at p1 p2 p3 p4 p5 hs
    simp [Tryz.f187, p1, p2, p3, p4, p5, hs, ha, List.set]
    cases R5 <;> rfl
end Go.Proofs

set_option linter.unusedVariables false
set_option linter.unusedSimpArgs false
set_option maxRecDepth 100000
set_option maxHeartbeats 8000000
namespace Go.Proofs
open Go.RowKit Go.Shelf Go.Pv

def xorI (a b : Int) : Int := IntKind.i64.wrap (BitVec.ofInt 64 a ^^^ BitVec.ofInt 64 b).toNat
@[simp] theorem bin_xor {P : Program} {t : TypeId} {a b : Int} : evBin P .xor t (.d (.int .i64 a)) (.d (.int .i64 b)) = some (.d (.int .i64 (xorI a b))) := rfl
theorem xorI_comm (a b : Int) : xorI a b = xorI b a := by unfold xorI; rw [BitVec.xor_comm]
theorem xorI_lt (a b : Int) (ha : 0 ≤ a ∧ a < 2 ^ 15) (hb : 0 ≤ b ∧ b < 2 ^ 15) : 0 ≤ xorI a b ∧ xorI a b < 2 ^ 15 := by
  have h1 : (BitVec.ofInt 64 a).toNat < 2 ^ 15 := by rw [BitVec.toNat_ofInt]; omega
  have h2 : (BitVec.ofInt 64 b).toNat < 2 ^ 15 := by rw [BitVec.toNat_ofInt]; omega
  have h3 := Nat.xor_lt_two_pow h1 h2
  unfold xorI
  rw [BitVec.toNat_xor]
  generalize (BitVec.ofInt 64 a).toNat ^^^ (BitVec.ofInt 64 b).toNat = z at h3
  rw [wrap_ok (by omega) (by omega)]
  omega
theorem and15 (x : Int) (hx : 0 ≤ x ∧ x < 2 ^ 40) : IntKind.i64.wrap (BitVec.ofInt 64 x &&& BitVec.ofInt 64 32767).toNat = x % 2 ^ 15 := by
  have h1 : (BitVec.ofInt 64 32767).toNat = 2 ^ 15 - 1 := by decide
  rw [BitVec.toNat_and, BitVec.toNat_ofInt, h1, Nat.and_two_pow_sub_one_eq_mod, IntKind.wrap_i64]
  omega

/-- A bit taken. -/
def crcS (s b : Int) : Int := if xorI (s / 2 ^ 14) b = 1 then xorI (s * 2 % 2 ^ 15) 17817 else s * 2 % 2 ^ 15
def crcB (l : List Int) : Int := l.foldl crcS 0
theorem crcS_lt {s b : Int} (h : 0 ≤ s ∧ s < 2 ^ 15) : 0 ≤ crcS s b ∧ crcS s b < 2 ^ 15 := by
  unfold crcS
  split
  · exact xorI_lt _ _ (by omega) (by decide)
  · omega
theorem crcF_lt : ∀ (l : List Int) (s : Int), 0 ≤ s ∧ s < 2 ^ 15 → 0 ≤ l.foldl crcS s ∧ l.foldl crcS s < 2 ^ 15
  | [], s, h => h
  | b :: l, s, h => crcF_lt l _ (crcS_lt h)
theorem crcB_lt (l : List Int) : 0 ≤ crcB l ∧ crcB l < 2 ^ 15 := crcF_lt l 0 (by decide)

theorem b_take (s b : Int) (hs : 0 ≤ s ∧ s < 2 ^ 15) : callIt E1 (evI E1) 215 [.ptr 0 0, .d (.int .i64 b)] [[.d (.int .i64 s), .d (.int .i64 15), .d (.int .i64 17817)]] = some (.tup [], [[.d (.int .i64 (crcS s b)), .d (.int .i64 15), .d (.int .i64 17817)]]) := by
  have s14 : ∀ k : IntKind, evBin Tryz.prog .shr 3 (.d (.int .i64 s)) (.d (.int k 14)) = some (.d (.int .i64 (s / 2 ^ 14))) := by
    intro k
    rw [bin_shr_u (by decide), Int.fdiv_eq_ediv_of_nonneg _ (by decide)]; rfl
  have s1 : ∀ k : IntKind, evBin Tryz.prog .shl 3 (.d (.int .i64 s)) (.d (.int k 1)) = some (.d (.int .i64 (s * 2))) := by
    intro k
    rw [bin_shl_u (by decide), show s * 2 ^ min (Int.toNat 1) 64 = s * 2 from rfl, wrap_ok (by omega) (by omega)]
  have s15 : ∀ k : IntKind, evBin Tryz.prog .shl 3 (.d (.int .i64 1)) (.d (.int k 15)) = some (.d (.int .i64 32768)) := by
    intro k
    rw [bin_shl_u (by decide)]; rfl
  have w1 : IntKind.i64.wrap (15 - 1) = 14 := by rw [wrap_ok (by omega) (by omega)]; rfl
  have w2 : IntKind.i64.wrap (32768 - 1) = 32767 := by rw [wrap_ok (by omega) (by omega)]; rfl
  have a15 : evBin Tryz.prog .and 3 (.d (.int .i64 (s * 2))) (.d (.int .i64 32767)) = some (.d (.int .i64 (s * 2 % 2 ^ 15))) := by rw [bin_and, and15 (s * 2) (by omega)]
  have w1' : IntKind.i64.wrap 14 = 14 := by rw [wrap_ok (by omega) (by omega)]
  have w2' : IntKind.i64.wrap 32767 = 32767 := by rw [wrap_ok (by omega) (by omega)]
  unfold crcS
  generalize s * 2 = d at s1 a15 ⊢
  generalize d % 2 ^ 15 = e at a15 ⊢
  generalize s / 2 ^ 14 = t at s14 ⊢
  refine call_im (σ' := [[.d (.int .i64 (if xorI t b = 1 then xorI e 17817 else e)), .d (.int .i64 15), .d (.int .i64 17817)]]) rfl rfl rfl ?_ rfl rfl rfl
  refine evI_run (fn := Tryz.f215) 5 rfl Tryz.func215 rfl ?_
  by_cases hx : xorI t b = 1
  · have hb : (xorI t b == 1) = true := by simpa using hx
    simp [Tryz.f215, s14, s1, s15, w1, w2, w1', w2', a15, hx, -bin_and, List.set]
  · have hb : (xorI t b == 1) = false := by simpa using hx
    simp [Tryz.f215, s14, s1, s15, w1, w2, w1', w2', a15, hx, hb, -bin_and, List.set]

theorem l_crc (m : Nat) (l : List Int) (hl : l.length ≤ 1000000) (S : List PV) (hS : S.length = 25) (h3 : rd S 3 = .ptr 0 0) (h4 : rd S 4 = .func (.func 215) [.ptr 0 0] []) (h11 : rd S 11 = .d (.slice (l.map intD))) (h12 : rd S 12 = .d (.int .i64 l.length)) (h13 : rd S 13 = .d (.int .i64 0)) (k : Nat) (hk : l.length < k) :
    Lp (loopN (evCode E1 (evI E1) m (theLoop Tryz.f189 0)) k ⟨S, [[.d (.int .i64 0), .d (.int .i64 15), .d (.int .i64 17817)]]⟩) fun r => ∃ S' : List PV, r = (.exit 0, ⟨S', [[.d (.int .i64 (crcB l)), .d (.int .i64 15), .d (.int .i64 17817)]]⟩) ∧ S'.length = 25 ∧ rd S' 3 = .ptr 0 0 := by
  refine loop_inv (fun i st => ∃ S : List PV, st = ⟨S, [[.d (.int .i64 (crcB (l.take i))), .d (.int .i64 15), .d (.int .i64 17817)]]⟩ ∧ S.length = 25 ∧ rd S 3 = .ptr 0 0 ∧ rd S 4 = .func (.func 215) [.ptr 0 0] [] ∧ rd S 11 = .d (.slice (l.map intD)) ∧ rd S 12 = .d (.int .i64 l.length) ∧ rd S 13 = .d (.int .i64 i)) _ l.length ?_ ?_ k 0 _ (by omega) (by omega) ⟨S, rfl, hS, h3, h4, h11, h12, h13⟩
  · rintro i st hi ⟨S, rfl, hS, h3, h4, h11, h12, h13⟩
    have htk : crcB (l.take (i + 1)) = crcS (crcB (l.take i)) l[i] := by rw [crcB, List.take_add_one, List.getElem?_eq_getElem hi, List.foldl_append]; rfl
    have hcl := crcB_lt (l.take i)
    generalize crcB (l.take (i + 1)) = c1 at htk ⊢
    generalize crcB (l.take i) = c0 at htk hcl ⊢
    generalize hx : l[i] = x at htk
    have htake := b_take c0 x hcl
    rw [← htk] at htake
    have hlt : (i : Int) < (l.length : Int) := by omega
    try simp at htake
    simp [theLoop, Tryz.f189, loopsAll, Lp_some, and_assoc, -rd, rd_set, hS, h3, h4, h11, h12, h13, hlt, hi, hx, htake, wrap_succ i (by omega)]
  · rintro st ⟨S, rfl, hS, h3, h4, h11, h12, h13⟩
    rw [List.take_length]
    simp [theLoop, Tryz.f189, loopsAll, Lp_some, and_assoc, -rd, rd_set, hS, h3, h4, h11, h12, h13]

theorem b_crc (l : List Int) (hl : l.length ≤ 1000000) (σ : Store) : callIt E1 (evI E1) 189 [.d (.slice (l.map intD))] σ = some (.d (.int .i64 (crcB l)), σ) := by
  refine call_run (fn := Tryz.f189) (l.length + 1) rfl rfl rfl Tryz.func189 rfl rfl ?_ rfl
  simp [Tryz.f189, ec_loop]
  generalize hLL : loopN _ _ _ = L
  obtain ⟨r, rfl, S, rfl, hS, h3⟩ := at_loop hLL (l_crc (l.length + 1) l hl _ rfl rfl rfl rfl rfl rfl (l.length + 1) (by omega))
  simp [-rd, rd_set, hS, h3]

/-- What stuffing knows. -/
structure Stf where
  out : List Int
  last : Int
  n : Int
def stfS (x : Stf) (b : Int) : Stf :=
  let n1 := if b = x.last then x.n + 1 else 1
  if n1 = 5 then ⟨x.out ++ [b, 1 - b], 1 - b, 1⟩ else ⟨x.out ++ [b], b, n1⟩
def stuffX (l : List Int) : Stf := l.foldl stfS ⟨[], -1, 0⟩
def stuffB (l : List Int) : List Int := (stuffX l).out
@[simp] def Stf.σ (x : Stf) : Store := [[.d (.int .i64 x.last)], [.d (.int .i64 x.n)]]

theorem stfS_len (x : Stf) (b : Int) : (stfS x b).out.length ≤ x.out.length + 2 := by unfold stfS; dsimp only; generalize (if b = x.last then x.n + 1 else 1) = n1; by_cases h : n1 = 5 <;> simp [h]
theorem stfS_n (x : Stf) (b : Int) (h : 0 ≤ x.n ∧ x.n < 5) : 0 ≤ (stfS x b).n ∧ (stfS x b).n < 5 := by
  unfold stfS
  dsimp only
  have h1 : 0 ≤ (if b = x.last then x.n + 1 else 1) ∧ (if b = x.last then x.n + 1 else 1) ≤ 5 := by
    by_cases h6 : b = x.last
    · rw [if_pos h6]; omega
    · rw [if_neg h6]; omega
  generalize (if b = x.last then x.n + 1 else 1) = n1 at h1
  by_cases h : n1 = 5
  · rw [if_pos h]; simp
  · rw [if_neg h]; simp only; omega
theorem stf_inv : ∀ (l : List Int) (x : Stf), 0 ≤ x.n ∧ x.n < 5 → (0 ≤ (l.foldl stfS x).n ∧ (l.foldl stfS x).n < 5) ∧ (l.foldl stfS x).out.length ≤ x.out.length + 2 * l.length
  | [], x, h => ⟨h, by simp⟩
  | b :: l, x, h => by
    obtain ⟨h1, h2⟩ := stf_inv l (stfS x b) (stfS_n x b h)
    have := stfS_len x b
    exact ⟨h1, by simp only [List.foldl_cons, List.length_cons]; omega⟩

theorem b_run (last n b : Int) (hn : 0 ≤ n ∧ n < 100) : callIt E1 (evI E1) 223 [.d (.int .i64 b), .ptr 0 0, .ptr 1 0] [[.d (.int .i64 last)], [.d (.int .i64 n)]] = some (.d (.int .i64 (if b = last then n + 1 else 1)), [[.d (.int .i64 b)], [.d (.int .i64 (if b = last then n + 1 else 1))]]) := by
  refine call_im (σ' := [[.d (.int .i64 b)], [.d (.int .i64 (if b = last then n + 1 else 1))]]) rfl rfl rfl ?_ rfl rfl rfl
  refine evI_run (fn := Tryz.f223) 5 rfl Tryz.func223 rfl ?_
  have w : IntKind.i64.wrap (n + 1) = n + 1 := wrap_ok (by omega) (by omega)
  have w1 : IntKind.i64.wrap 1 = 1 := wrap_ok (by omega) (by omega)
  by_cases h : b = last
  · subst h
    simp [Tryz.f223, w, List.set]
  · have hb : (b != last) = true := by simpa using h
    simp [Tryz.f223, w1, h, hb, List.set]

theorem l_stuff (m : Nat) (l : List Int) (hl : l.length ≤ 400) (S : List PV) (hS : S.length = 33) (h3 : rd S 3 = .e0) (h4 : rd S 4 = .func (.func 223) [] [.ptr 0 0, .ptr 1 0]) (h8 : rd S 8 = .d (.slice (l.map intD))) (h9 : rd S 9 = .d (.int .i64 l.length)) (h10 : rd S 10 = .d (.int .i64 0)) (hbit : ∀ x ∈ l, x = 0 ∨ x = 1) (k : Nat) (hk : l.length < k) :
    Lp (loopN (evCode E1 (evI E1) m (theLoop Tryz.f190 0)) k ⟨S, (Stf.mk [] (-1) 0).σ⟩) fun r => ∃ (S' : List PV) (σ' : Store), r = (.exit 0, ⟨S', σ'⟩) ∧ S'.length = 33 ∧ rd S' 3 = acc ((stuffB l).map intD) := by
  refine loop_inv (fun i st => ∃ S : List PV, st = ⟨S, (stuffX (l.take i)).σ⟩ ∧ S.length = 33 ∧ rd S 3 = acc ((stuffB (l.take i)).map intD) ∧ rd S 4 = .func (.func 223) [] [.ptr 0 0, .ptr 1 0] ∧ rd S 8 = .d (.slice (l.map intD)) ∧ rd S 9 = .d (.int .i64 l.length) ∧ rd S 10 = .d (.int .i64 i)) _ l.length ?_ ?_ k 0 _ (by omega) (by omega) ⟨S, rfl, hS, h3, h4, h8, h9, h10⟩
  · rintro i st hi ⟨S, rfl, hS, h3, h4, h8, h9, h10⟩
    have htk : stuffX (l.take (i + 1)) = stfS (stuffX (l.take i)) l[i] := by rw [stuffX, List.take_add_one, List.getElem?_eq_getElem hi, List.foldl_append]; rfl
    obtain ⟨hin, hil⟩ := stf_inv (l.take i) ⟨[], -1, 0⟩ (by simp)
    have hil' : (stuffX (l.take i)).out.length ≤ 800 := Nat.le_trans hil (by simp; omega)
    replace hin : 0 ≤ (stuffX (l.take i)).n ∧ (stuffX (l.take i)).n < 5 := hin
    unfold stuffB at h3 ⊢
    rw [htk]
    have hb01 := hbit l[i] (List.getElem_mem hi)
    generalize hx : l[i] = b at hb01
    clear htk hil
    generalize stuffX (l.take i) = X at h3 hin hil' ⊢
    obtain ⟨out, last, n⟩ := X
    simp only at h3 hin hil'
    have r1 := b_run last n b (by omega)
    have a1 := row_app (A := out) (B := [b]) (by simp; omega)
    have hlt : (i : Int) < (l.length : Int) := by omega
    unfold stfS
    dsimp only
    generalize hn1 : (if b = last then n + 1 else 1) = n1 at r1 ⊢
    by_cases h5 : n1 = 5
    · rw [if_pos h5]
      subst h5
      have r2 := b_run b 5 (1 - b) (by omega)
      rw [if_neg (by omega : ¬ 1 - b = b)] at r2
      have a2 := row_app (A := out ++ [b]) (B := [1 - b]) (by simp; omega)
      have e2 : out ++ [b] ++ [1 - b] = out ++ [b, 1 - b] := by simp
      rw [e2] at a2
      have w : IntKind.i64.wrap (1 - b) = 1 - b := wrap_ok (by omega) (by omega)
      generalize out ++ [b, 1 - b] = O2 at a2 ⊢
      generalize out ++ [b] = O1 at a1 a2
      generalize hc : 1 - b = c at r2 a2 w ⊢
      simp at a1 a2 r1 r2
      simp [theLoop, Tryz.f190, loopsAll, Lp_some, and_assoc, -rd, rd_set, hS, h3, h4, h8, h9, h10, hlt, hi, hx, r1, r2, a1, a2, hc, w, rowsFrom, wrap_succ i (by omega)]
    · rw [if_neg h5]
      have hne : (n1 == 5) = false := by simpa using h5
      generalize out ++ [b] = O1 at a1 ⊢
      simp at a1 r1
      simp [theLoop, Tryz.f190, loopsAll, Lp_some, and_assoc, -rd, rd_set, hS, h3, h4, h8, h9, h10, hlt, hi, hx, r1, a1, hne, rowsFrom, wrap_succ i (by omega)]
  · rintro st ⟨S, rfl, hS, h3, h4, h8, h9, h10⟩
    rw [List.take_length] at h3
    generalize stuffB l = B at h3 ⊢
    simp [theLoop, Tryz.f190, loopsAll, Lp_some, and_assoc, -rd, rd_set, hS, h3, h4, h8, h9, h10]
end Go.Proofs

