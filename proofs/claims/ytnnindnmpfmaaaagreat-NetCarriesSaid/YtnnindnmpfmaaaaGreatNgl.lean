/- The seat of nodes: the reference's rank of a frame; The seat of nodes: the references' comparisons. -/
import Derived.Test.YtnnindnmpfmaaaaGreatNf
set_option linter.unusedVariables false
set_option linter.unusedSimpArgs false
set_option maxRecDepth 100000
set_option maxHeartbeats 4000000
namespace Go.Proofs
open Go.RowKit Go.Shelf Go.Pv

theorem bin_shl_u {P : Program} {t : TypeId} {k : IntKind} {a b : Int} (hb : 0 ≤ b) : evBin P .shl t (.d (.int .i64 a)) (.d (.int k b)) = some (.d (.int .i64 (IntKind.i64.wrap (a * 2 ^ (min b.toNat 64))))) := by
  have : ¬ b < 0 := by omega
  show (pureRun P (if b < 0 then _ else _)).bind ofScalar = _
  rw [if_neg this]
  rfl

theorem bin_rem {P : Program} {t : TypeId} {a b : Int} (hb : b ≠ 0) : evBin P .rem t (.d (.int .i64 a)) (.d (.int .i64 b)) = some (.d (.int .i64 (a.tmod b))) := by
  show (pureRun P (if b = 0 then _ else _)).bind ofScalar = _
  rw [if_neg hb]
  rfl
theorem bin_quo {P : Program} {t : TypeId} {a b : Int} (hb : b ≠ 0) : evBin P .quo t (.d (.int .i64 a)) (.d (.int .i64 b)) = some (.d (.int .i64 (IntKind.i64.wrap (a.tdiv b)))) := by
  show (pureRun P (if b = 0 then _ else _)).bind ofScalar = _
  rw [if_neg hb]
  rfl

theorem app41 (rows xs : List (List DV)) (h : rowsOk 1 rows = true) (h' : rowsOk 1 xs = true) (hb : (rows.length + xs.length) * 8 ≤ roomB) : evAppend Tryz.prog 39 (acc rows) (.d (.slice xs)) = some (acc (rows ++ xs)) := by
  unfold evAppend
  rw [Ty.app39]
  simp only [Option.bind_some, acc_own, elemsOf, h, h', Bool.true_and, hb, decide_true, if_true]

theorem and1 (x : Int) (hx : 0 ≤ x ∧ x < 2 ^ 40) : evBin Tryz.prog .and 3 (.d (.int .i64 x)) (.d (.int .i64 1)) = some (.d (.int .i64 (x % 2))) := by
  have := bits_one x hx
  rw [bin_and]
  exact congrArg (fun z => some (PV.d (.int .i64 z))) this

theorem bitsOf_take (v : Int) (m j : Nat) (h : j < m) : (bitsOf v m).take j ++ [(v / 2 ^ (m - 1 - j)) % 2] = (bitsOf v m).take (j + 1) := by
  rw [List.take_add_one]
  simp [bitsOf, h]

theorem l_put (k : Nat) (v : Int) (m : Nat) (hm : m ≤ 32) (hv : 0 ≤ v ∧ v < 2 ^ m) (B : Code) (hB : Tryz.f178.body.bind bodyOf = some B) :
    ∀ (n j : Nat) (x8 x9 x10 x11 x12 x13 x14 x15 x16 x17 x18 x19 x20 x21 x22 x23 x24 x25 x26 x27 x28 x29 x30 x31 x32 x33 x34 x35 x36 x37 : PV), j ≤ m → m < j + n →
      ∃ y26 y27 y28 y29 y30 y31 y32 y33 y34 y35 y36 z, loopN (evCode E1 (evI E1) k B) n ⟨[.d (.int .i64 v), .d (.int .i64 m), .undef, .undef, .e0, .d (.bool false), acc (((bitsOf v m).take j).map intD), .d (.int .i64 ((m : Int) - 1 - j)), x8, x9, x10, x11, x12, x13, x14, x15, x16, x17, x18, x19, x20, x21, x22, x23, x24, x25, x26, x27, x28, x29, x30, x31, x32, x33, x34, x35, x36, x37], []⟩ =
        some (.exit 0, ⟨[.d (.int .i64 v), .d (.int .i64 m), .undef, .undef, .e0, .d (.bool false), acc ((bitsOf v m).map intD), z, x8, x9, x10, x11, x12, x13, x14, x15, x16, x17, x18, x19, x20, x21, x22, x23, x24, x25, y26, y27, y28, y29, y30, y31, y32, y33, y34, y35, y36, x37], []⟩) := by
  simp [Tryz.f178, bodyOf] at hB
  subst hB
  intro n
  induction n with
  | zero => intros; omega
  | succ n ih =>
    intro j x8 x9 x10 x11 x12 x13 x14 x15 x16 x17 x18 x19 x20 x21 x22 x23 x24 x25 x26 x27 x28 x29 x30 x31 x32 x33 x34 x35 x36 x37 h1 h2
    rw [loopN_succ]
    by_cases hi : j < m
    · have hge : (0 : Int) ≤ (m : Int) - 1 - j := by omega
      have hw : IntKind.i64.wrap ((m : Int) - 1 - j - 1) = (m : Int) - 1 - (j + 1 : Nat) := by rw [wrap_ok (by omega) (by omega)]; omega
      have hle : (2 : Int) ^ m ≤ 2 ^ 32 := by
        have : (2 : Nat) ^ m ≤ 2 ^ 32 := Nat.pow_le_pow_right (by decide) hm
        exact_mod_cast this
      have hsh : evBin Tryz.prog .shr 3 (.d (.int .i64 v)) (.d (.int .i64 ((m : Int) - 1 - j))) = some (.d (.int .i64 (v / 2 ^ (m - 1 - j)))) := by
        rw [bin_shr hge, show min ((m : Int) - 1 - j).toNat 64 = m - 1 - j by omega, Int.fdiv_eq_ediv_of_nonneg _ (Int.le_of_lt (Int.pow_pos (by decide)))]
      have han := and1 (v / 2 ^ (m - 1 - j)) ⟨Int.ediv_nonneg hv.1 (Int.le_of_lt (Int.pow_pos (by decide))), by
        have : v / 2 ^ (m - 1 - j) ≤ v := Int.ediv_le_self _ hv.1
        omega⟩
      have hap := app41 (((bitsOf v m).take j).map intD) [[.int .i64 ((v / 2 ^ (m - 1 - j)) % 2)]] (rowsOk_int _) rfl (by simp [bitsOf, roomB]; omega)
      have htk := bitsOf_take v m j hi
      have hres : ((bitsOf v m).take j).map intD ++ [[.int .i64 ((v / 2 ^ (m - 1 - j)) % 2)]] = ((bitsOf v m).take (j + 1)).map intD := by rw [← htk]; simp
      rw [hres] at hap
      have hk := fun z8 z9 z10 z11 z12 z13 z14 z15 z16 z17 z18 z19 z20 z21 z22 z23 z24 z25 z26 z27 z28 z29 z30 z31 z32 z33 z34 z35 z36 z37 => ih (j + 1) z8 z9 z10 z11 z12 z13 z14 z15 z16 z17 z18 z19 z20 z21 z22 z23 z24 z25 z26 z27 z28 z29 z30 z31 z32 z33 z34 z35 z36 z37 (by omega) (by omega)
      generalize v / 2 ^ (m - 1 - j) = q at hsh han hap
      generalize (bitsOf v m).take j = A at hap
      generalize (bitsOf v m).take (j + 1) = A' at hap hk
      generalize (m : Int) - 1 - (j + 1 : Nat) = J' at hw hk
      generalize (m : Int) - 1 - j = J at hge hw hsh
      simp [hge, hw, hsh, han, hap, rowsFrom]
      exact hk _ _ _ _ _ _ _ _ _ _ _ _ _ _ _ _ _ _ _ _ _ _ _ _ _ _ _ _ _ _
    · have hj : j = m := by omega
      have hlt : ¬ (0 : Int) ≤ (m : Int) - 1 - j := by omega
      have : (bitsOf v m).take j = bitsOf v m := List.take_of_length_le (by simp [bitsOf]; omega)
      rw [this]
      generalize (m : Int) - 1 - j = J at hlt
      simp [hlt]

theorem r_Put (v : Int) (m : Nat) (hm : m ≤ 32) (hv : 0 ≤ v ∧ v < 2 ^ m) (σ : Store) : callIt E1 (evI E1) 178 [.d (.int .i64 v), .d (.int .i64 m)] σ = some (.tup [.d (.slice ((bitsOf v m).map intD)), .d (.bool true)], σ) := by
  refine call_run (fn := Tryz.f178) (m + 1) rfl rfl rfl Tryz.func178 rfl rfl ?_ rfl
  have hle : (2 : Int) ^ m ≤ 2 ^ 32 := by
    have : (2 : Nat) ^ m ≤ 2 ^ 32 := Nat.pow_le_pow_right (by decide) hm
    exact_mod_cast this
  have hpos : (0 : Int) < 2 ^ m := Int.pow_pos (by decide)
  have hsh : evBin Tryz.prog .shl 3 (.d (.int .i64 1)) (.d (.int .i64 m)) = some (.d (.int .i64 (2 ^ m))) := by
    rw [bin_shl_u (by omega), show min ((m : Int)).toNat 64 = m by omega, Int.one_mul, wrap_ok (by omega) (by omega)]
  have hm0 : ¬ (m : Int) < 0 := by omega
  have hm32 : ¬ (m : Int) > 32 := by omega
  have hv0 : ¬ v < 0 := by omega
  have hvm : ¬ v ≥ 2 ^ m := by omega
  have hw : IntKind.i64.wrap ((m : Int) - 1) = (m : Int) - 1 - (0 : Nat) := by rw [wrap_ok (by omega) (by omega)]; omega
  obtain ⟨y26, y27, y28, y29, y30, y31, y32, y33, y34, y35, y36, z, h1⟩ := l_put (m + 1) v m hm hv _ rfl (m + 1) 0 (.d (.int .i64 m)) (.d (.bool false)) (.d (.bool false)) (.d (.int .i64 m)) (.d (.bool false)) (.d (.bool false)) (.d (.bool false)) (.d (.int .i64 v)) (.d (.bool false)) (.d (.bool false)) (.d (.bool false)) (.d (.int .i64 v)) (.d (.int .i64 m)) (.d (.int .i64 (2 ^ m))) (.d (.bool false)) (.d (.bool false)) (.d (.int .i64 m)) (.d (.int .i64 ((m : Int) - 1 - (0 : Nat)))) .undef .undef .undef .undef .undef .undef .undef .undef .undef .undef .undef .undef (by omega) (by omega)
  generalize (m : Int) - 1 - (0 : Nat) = J at hw h1
  generalize (2 : Int) ^ m = M at hsh hvm h1
  rw [show acc (((bitsOf v m).take 0).map intD) = .e0 from rfl] at h1
  simp [Tryz.f178, ec_loop, hm0, hm32, hv0, hsh, hvm, hw, h1]

theorem r_put (l : List Int) (v : Int) (m : Nat) (hm : m ≤ 32) (hv : 0 ≤ v ∧ v < 2 ^ m) (hl : l.length ≤ 1000) (σ : Store) : callIt E1 (evI E1) 146 [.d (.slice (l.map intD)), .d (.int .i64 v), .d (.int .i64 m)] σ = some (acc ((l ++ bitsOf v m).map intD), σ) := by
  refine call_run (fn := Tryz.f146) 5 rfl rfl rfl Tryz.func146 rfl rfl ?_ (acc_data _)
  have h1 := r_Put v m hm hv
  have hlen : (bitsOf v m).length = m := by simp [bitsOf]
  have h2 := app41 [] (l.map intD) rfl (rowsOk_int _) (by simp [roomB]; omega)
  have h3 := app41 (l.map intD) ((bitsOf v m).map intD) (rowsOk_int _) (rowsOk_int _) (by simp [roomB, hlen]; omega)
  have hre : retOf (acc (l.map intD ++ (bitsOf v m).map intD)) = acc (l.map intD ++ (bitsOf v m).map intD) := by
    generalize l.map intD ++ (bitsOf v m).map intD = r
    cases r <;> rfl
  simp at h2
  simp only [List.map_append]
  simp [Tryz.f146, rowsFrom, h1, h2, h3]
  exact hre

theorem r_remote (f : Fr) (σ : Store) : callIt E1 (evI E1) 147 [f.P] σ = some (.d (.int .i64 (bitOf f.rm)), σ) := by
  refine call_run (fn := Tryz.f147) 5 rfl rfl rfl Tryz.func147 rfl rfl ?_ rfl
  obtain ⟨e, id, rm, ln, data⟩ := f
  cases rm <;> simp [Tryz.f147, bitOf]

theorem r_Rank (f : Fr) (h : f.right = true) (σ : Store) : callIt E1 (evI E1) 85 [f.P] σ = some (acc (f.rank.map intD), σ) := by
  refine call_run (fn := Tryz.f85) 5 rfl rfl rfl Tryz.func85 rfl rfl ?_ (acc_data _)
  have hid := (f.right_iff.1 h).1
  have hre : ∀ r : List (List DV), retOf (acc r) = acc r := fun r => by cases r <;> rfl
  have h0 := r_remote f
  obtain ⟨e, id, rm, ln, data⟩ := f
  have hb : 0 ≤ bitOf rm ∧ bitOf rm < 2 ^ 1 := by cases rm <;> decide
  have hlen : ∀ v m, (bitsOf v m).length = m := fun v m => by simp [bitsOf]
  cases e
  · simp only [Bool.false_eq_true, if_false] at hid
    have h1 := r_put [] id 11 (by decide) hid (by decide)
    have h2 := r_put (bitsOf id 11) (bitOf rm) 1 (by decide) hb (by simp [hlen])
    have h3 := r_put (bitsOf id 11 ++ bitsOf (bitOf rm) 1) 0 1 (by decide) (by decide) (by simp [hlen])
    simp at h0 h1 h2 h3
    simp [Tryz.f85, h0, h1, h2, h3, Fr.rank, hre]
    have := hre ((bitsOf id 11).map intD ++ ((bitsOf (bitOf rm) 1).map intD ++ (bitsOf 0 1).map intD))
    exact this
  · simp only [if_true] at hid
    have h1 := r_put [] (id / 2 ^ 18) 11 (by decide) (by omega) (by decide)
    have h2 := r_put (bitsOf (id / 2 ^ 18) 11) 3 2 (by decide) (by decide) (by simp [hlen])
    have h3 := r_put (bitsOf (id / 2 ^ 18) 11 ++ bitsOf 3 2) (id % 2 ^ 18) 18 (by decide) (by omega) (by simp [hlen])
    have h4 := r_put (bitsOf (id / 2 ^ 18) 11 ++ bitsOf 3 2 ++ bitsOf (id % 2 ^ 18) 18) (bitOf rm) 1 (by decide) hb (by simp [hlen])
    have hsh : ∀ k, evBin Tryz.prog .shr 3 (.d (.int .i64 id)) (.d (.int k 18)) = some (.d (.int .i64 (id / 2 ^ 18))) := fun k => by
      rw [bin_shr_u (by decide), show (2 : Int) ^ min (Int.toNat 18) 64 = 2 ^ 18 by decide, Int.fdiv_eq_ediv_of_nonneg _ (by decide)]
    have hrem : evBin Tryz.prog .rem 3 (.d (.int .i64 id)) (.d (.int .i64 262144)) = some (.d (.int .i64 (id % 2 ^ 18))) := by
      rw [bin_rem (by decide), Int.tmod_eq_emod_of_nonneg hid.1]
      rfl
    simp at h0 h1 h2 h3 h4 hsh hrem
    simp [Tryz.f85, h0, h1, h2, h3, h4, hsh, hrem, Fr.rank, hre]
    have := hre ((bitsOf (id / 262144) 11).map intD ++ ((bitsOf 3 2).map intD ++ ((bitsOf (id % 262144) 18).map intD ++ (bitsOf (bitOf rm) 1).map intD)))
    exact this
end Go.Proofs

set_option linter.unusedVariables false
set_option linter.unusedSimpArgs false
set_option maxRecDepth 100000
set_option maxHeartbeats 4000000
namespace Go.Proofs
open Go.RowKit Go.Shelf Go.Pv

@[simp] theorem bytes_map (l : List Int) : bytesOfRows (l.map byD) = some l := by
  induction l with
  | nil => rfl
  | cons x xs ih => simp [bytesOfRows, byteOfRow, ih]

theorem isU8_5 : isU8 Tryz.prog 5 = true := by kernel_rfl
@[simp] theorem bs33 (rows : List (List DV)) : evConvert Tryz.prog 32 9 (.d (.slice rows)) = (bytesOfRows rows).map fun xs => .d (.str (strOfNums xs)) := by
  simp [evConvert, evBytesStr, Tryz.underlying9, isU8_5]

def sameB (a b : List Int) : Bool := (strOfNums a).toList == (strOfNums b).toList
theorem sameB_refl (a : List Int) : sameB a a = true := by simp [sameB]

theorem r_sameBytes (a b : List Int) (σ : Store) : callIt E1 (evI E1) 88 [.d (.slice (a.map byD)), .d (.slice (b.map byD))] σ = some (.d (.bool (sameB a b)), σ) := by
  refine call_run (fn := Tryz.f88) 5 rfl rfl rfl Tryz.func88 rfl rfl ?_ rfl
  simp [Tryz.f88, sameB]

def Fr.same (a b : Fr) : Bool := (a.e == b.e) && (a.id == b.id) && (a.rm == b.rm) && (a.ln == b.ln) && sameB a.data b.data
theorem Fr.same_refl (a : Fr) : a.same a = true := by simp [Fr.same, sameB_refl]

theorem r_same (a b : Fr) (σ : Store) : callIt E1 (evI E1) 33 [a.P, b.P] σ = some (.d (.bool (a.same b)), σ) := by
  refine call_run (fn := Tryz.f33) 5 rfl rfl rfl Tryz.func33 rfl rfl ?_ rfl
  have h := r_sameBytes a.data b.data
  obtain ⟨ae, aid, arm, aln, ad⟩ := a
  obtain ⟨be, bid, brm, bln, bd⟩ := b
  unfold Fr.same
  simp at h
  cases hc1 : (ae == be)
  · simp [Tryz.f33, h, hc1]
  · cases hc2 : (aid == bid)
    · simp [Tryz.f33, h, hc1, hc2]
    · cases hc3 : (arm == brm)
      · simp [Tryz.f33, h, hc1, hc2, hc3]
      · cases hc4 : (aln == bln)
        · simp [Tryz.f33, h, hc1, hc2, hc3, hc4]
        · simp [Tryz.f33, h, hc1, hc2, hc3, hc4]

/-- Rows that are one. -/
theorem l_sameAll (m : Nat) (l : List Fr) (hl : l.length ≤ 1000000) (B : Code) (hB : Tryz.f30.body.bind bodyOf = some B) :
    ∀ (n i : Nat) (x6 x7 x8 x9 x10 x11 x12 x13 x14 x15 x16 x17 x18 x19 x20 x21 x22 x23 x24 x25 x26 : PV), i ≤ l.length → l.length < i + n →
      ∃ y11 y12 y13 y14 y15 y16 y17 y18 y19 y20 y21 y22 y23 y24 y25 y26 z, loopN (evCode E1 (evI E1) m B) n ⟨[.d (.slice (l.map Fr.D)), .d (.slice (l.map Fr.D)), .undef, .undef, .d (.bool false), .d (.int .i64 i), x6, x7, x8, x9, x10, x11, x12, x13, x14, x15, x16, x17, x18, x19, x20, x21, x22, x23, x24, x25, x26], []⟩ =
        some (.exit 0, ⟨[.d (.slice (l.map Fr.D)), .d (.slice (l.map Fr.D)), .undef, .undef, .d (.bool false), z, x6, x7, x8, x9, x10, y11, y12, y13, y14, y15, y16, y17, y18, y19, y20, y21, y22, y23, y24, y25, y26], []⟩) := by
  simp [Tryz.f30, bodyOf] at hB
  subst hB
  intro n
  induction n with
  | zero => intros; omega
  | succ n ih =>
    intro i x6 x7 x8 x9 x10 x11 x12 x13 x14 x15 x16 x17 x18 x19 x20 x21 x22 x23 x24 x25 x26 h1 h2
    rw [loopN_succ]
    by_cases hi : i < l.length
    · have hx : l[i]? = some l[i] := List.getElem?_eq_getElem hi
      generalize l[i] = x at hx
      have hlt : (i : Int) < (l.length : Int) := by omega
      have hs := r_same x x
      rw [x.same_refl] at hs
      simp at hs
      have hw' : IntKind.i64.wrap ((i : Int) + 1) = ((i + 1 : Nat) : Int) := by rw [wrap_ok (by omega) (by omega)]; omega
      simp [hx, hlt, hs, hw']
      exact ih (i + 1) _ _ _ _ _ _ _ _ _ _ _ _ _ _ _ _ _ _ _ _ _ (by omega) (by omega)
    · have hlt : ¬ (i : Int) < (l.length : Int) := by omega
      simp [hlt]

theorem r_sameAll (l : List Fr) (hl : l.length ≤ 1000000) (σ : Store) : callIt E1 (evI E1) 30 [.d (.slice (l.map Fr.D)), .d (.slice (l.map Fr.D))] σ = some (.d (.bool true), σ) := by
  refine call_run (fn := Tryz.f30) (l.length + 1) rfl rfl rfl Tryz.func30 rfl rfl ?_ rfl
  obtain ⟨y11, y12, y13, y14, y15, y16, y17, y18, y19, y20, y21, y22, y23, y24, y25, y26, z, h1⟩ := l_sameAll (l.length + 1) l hl _ rfl (l.length + 1) 0 (.d (.slice (l.map Fr.D))) (.d (.int .i64 l.length)) (.d (.slice (l.map Fr.D))) (.d (.int .i64 l.length)) (.d (.bool false)) .undef .undef .undef .undef .undef .undef .undef .undef .undef .undef .undef .undef .undef .undef .undef .undef (by omega) (by omega)
  simp at h1
  simp [Tryz.f30, ec_loop, h1]

/-- A row of filters and itself. -/
theorem l_sameNd (m : Nat) (a : Nd) (hl : a.fs.length ≤ 1000000) (B : Code) (hB : Tryz.f35.body.bind bodyOf = some B) :
    ∀ (n i : Nat) (x6 x7 x8 x9 x10 x11 x12 x13 x14 x15 x16 x17 x18 x19 x20 x21 x22 x23 x24 x25 x26 x27 x28 x29 x30 x31 x32 x33 x34 x35 x36 x37 x38 x39 x40 x41 x42 x43 x44 x45 x46 x47 x48 x49 : PV), i ≤ a.fs.length → a.fs.length < i + n →
      ∃ y13 y14 y15 y16 y17 y18 y19 y20 y21 y22 y23 y24 y25 y26 y27 y28 y29 y30 z, loopN (evCode E1 (evI E1) m B) n ⟨[a.P, a.P, .ptr 0 0, .ptr 1 0, .d (.bool false), .d (.int .i64 i), x6, x7, x8, x9, x10, x11, x12, x13, x14, x15, x16, x17, x18, x19, x20, x21, x22, x23, x24, x25, x26, x27, x28, x29, x30, x31, x32, x33, x34, x35, x36, x37, x38, x39, x40, x41, x42, x43, x44, x45, x46, x47, x48, x49], [cellsOf a.P, cellsOf a.P]⟩ =
        some (.exit 0, ⟨[a.P, a.P, .ptr 0 0, .ptr 1 0, .d (.bool false), z, x6, x7, x8, x9, x10, x11, x12, y13, y14, y15, y16, y17, y18, y19, y20, y21, y22, y23, y24, y25, y26, y27, y28, y29, y30, x31, x32, x33, x34, x35, x36, x37, x38, x39, x40, x41, x42, x43, x44, x45, x46, x47, x48, x49], [cellsOf a.P, cellsOf a.P]⟩) := by
  simp [Tryz.f35, bodyOf] at hB
  subst hB
  intro n
  induction n with
  | zero => intros; omega
  | succ n ih =>
    intro i x6 x7 x8 x9 x10 x11 x12 x13 x14 x15 x16 x17 x18 x19 x20 x21 x22 x23 x24 x25 x26 x27 x28 x29 x30 x31 x32 x33 x34 x35 x36 x37 x38 x39 x40 x41 x42 x43 x44 x45 x46 x47 x48 x49 h1 h2
    rw [loopN_succ]
    by_cases hi : i < a.fs.length
    · have hx : a.fs[i]? = some a.fs[i] := List.getElem?_eq_getElem hi
      generalize a.fs[i] = x at hx
      have hlt : (i : Int) < (a.fs.length : Int) := by omega
      have hw' : IntKind.i64.wrap ((i : Int) + 1) = ((i + 1 : Nat) : Int) := by rw [wrap_ok (by omega) (by omega)]; omega
      have hk := fun z6 z7 z8 z9 z10 z11 z12 z13 z14 z15 z16 z17 z18 z19 z20 z21 z22 z23 z24 z25 z26 z27 z28 z29 z30 z31 z32 z33 z34 z35 z36 z37 z38 z39 z40 z41 z42 z43 z44 z45 z46 z47 z48 z49 => ih (i + 1) z6 z7 z8 z9 z10 z11 z12 z13 z14 z15 z16 z17 z18 z19 z20 z21 z22 z23 z24 z25 z26 z27 z28 z29 z30 z31 z32 z33 z34 z35 z36 z37 z38 z39 z40 z41 z42 z43 z44 z45 z46 z47 z48 z49 (by omega) (by omega)
      simp [cellsOf] at hk
      simp [hx, hlt, hw', cellsOf, loadS]
      exact hk _ _ _ _ _ _ _ _ _ _ _ _ _ _ _ _ _ _ _ _ _ _ _ _ _ _ _ _ _ _ _ _ _ _ _ _ _ _ _ _ _ _ _ _
    · have hlt : ¬ (i : Int) < (a.fs.length : Int) := by omega
      simp [hlt, cellsOf, loadS]

theorem r_sameNd (a : Nd) (hf : a.fs.length ≤ 1000000) (hq : a.q.length ≤ 1000000) (hg : a.g.length ≤ 1000000) (σ : Store) : callIt E1 (evI E1) 35 [a.P, a.P] σ = some (.d (.bool true), σ) := by
  refine call_run (fn := Tryz.f35) (a.fs.length + 1) rfl rfl rfl Tryz.func35 rfl rfl ?_ rfl
  obtain ⟨y13, y14, y15, y16, y17, y18, y19, y20, y21, y22, y23, y24, y25, y26, y27, y28, y29, y30, z, h1⟩ := l_sameNd (a.fs.length + 1) a hf _ rfl (a.fs.length + 1) 0 (.ptr 0 1) (.d (.slice (a.fs.map Fl.D))) (.d (.int .i64 a.fs.length)) (.ptr 1 1) (.d (.slice (a.fs.map Fl.D))) (.d (.int .i64 a.fs.length)) (.d (.bool false)) .undef .undef .undef .undef .undef .undef .undef .undef .undef .undef .undef .undef .undef .undef .undef .undef .undef .undef .undef .undef .undef .undef .undef .undef .undef .undef .undef .undef .undef .undef .undef .undef .undef .undef .undef .undef .undef (by omega) (by omega)
  have h2 := r_sameAll a.q hq
  have h3 := r_sameAll a.g hg
  simp [cellsOf] at h1
  simp [Tryz.f35, ec_loop, cellsOf, loadS, h1, h2, h3]
end Go.Proofs

