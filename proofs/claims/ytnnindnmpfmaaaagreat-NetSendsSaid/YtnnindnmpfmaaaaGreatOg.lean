/- The law of the bus: two nodes; hits cut short; A frame that is made right; The reference makes a frame right; The reference makes frames right. -/
import Derived.Test.YtnnindnmpfmaaaaGreatOf
import Derived.Test.YtnnindnmpfmaaaaGreatNg
set_option linter.unusedVariables false
set_option linter.unusedSimpArgs false
set_option maxRecDepth 100000
set_option maxHeartbeats 8000000
namespace Go.Proofs
open Go.RowKit Go.Shelf Go.Pv

def twoN : List Nd := [⟨[⟨false, 5, false, 0, []⟩], [], ⟨0, 0, 1, 0⟩, []⟩, ⟨[], [], ⟨0, 0, 1, 0⟩, []⟩]
theorem r_two (σ : Store) : callIt E1 (evI E1) 63 [] σ = some (acc (twoN.map Nd.D), σ) := by
  refine call_run (fn := Tryz.f63) 5 rfl rfl rfl Tryz.func63 rfl rfl ?_ (acc_data _)
  have h := fun σ => r_countNew σ
  try simp at h
  simp [Tryz.f63, h, rowsFrom, twoN, acc_nil]
  rfl

/-- Hits, cut short. -/
def cutL (hs : List (List Int)) (most : Int) : List (List Int) := (hs.take most.toNat).map fun w => w.take 10
theorem appHit (A : List (List Int)) (w : List Int) (h : A.length ≤ 1000000) : evAppend Tryz.prog 23 (acc (A.map hitD)) (.d (.slice [hitD w])) = some (acc ((A ++ [w]).map hitD)) := by
  unfold evAppend
  rw [Ty.app23]
  have h1 : rowsOk 1 (A.map hitD) = true := rowsOk_map (D := hitD) (fun _ => rfl) A
  have h2 : (A.length + 1) * 24 ≤ roomB := by simp [roomB]; omega
  simp only [Option.bind_some, acc_own, elemsOf, h1, show rowsOk 1 [hitD w] = true from rfl, Bool.true_and, List.length_map, List.length_singleton, h2, decide_true, if_true, List.map_append, List.map_cons, List.map_nil]

theorem l_cut (m : Nat) (hs : List (List Int)) (most : Int) (hm : 0 ≤ most ∧ most ≤ 1000) (hw : ∀ w ∈ hs, w.length ≤ 2 ^ 63) (S : List PV) (hS : S.length = 39) (h0 : rd S 0 = .d (.slice (hs.map hitD))) (h1 : rd S 1 = .d (.int .i64 most)) (h5 : rd S 5 = acc []) (h6 : rd S 6 = .d (.int .i64 0)) (k : Nat) (hk : min hs.length most.toNat < k) :
    Lp (loopN (evCode E1 (evI E1) m (theLoop Tryz.f19 0)) k ⟨S, []⟩) fun r => ∃ S' : List PV, r = (.exit 0, ⟨S', []⟩) ∧ S'.length = 39 ∧ rd S' 5 = acc ((cutL hs most).map hitD) := by
  refine loop_inv (fun i st => ∃ S : List PV, st = ⟨S, []⟩ ∧ S.length = 39 ∧ rd S 0 = .d (.slice (hs.map hitD)) ∧ rd S 1 = .d (.int .i64 most) ∧ rd S 5 = acc (((hs.take i).map fun w => w.take 10).map hitD) ∧ rd S 6 = .d (.int .i64 i)) _ (min hs.length most.toNat) ?_ ?_ k 0 _ (by omega) (by omega) ⟨S, rfl, hS, h0, h1, h5, h6⟩
  · rintro i st hi ⟨S, rfl, hS, h0, h1, h5, h6⟩
    have hi1 : i < hs.length := by omega
    have hlt : (i : Int) < (hs.length : Int) := by omega
    have hlt2 : (i : Int) < most := by omega
    have hx' : (hs.map hitD)[i]? = some (hitD hs[i]) := by simp [hi1]
    have hml : (hs.map hitD).length = hs.length := by simp
    have hi' : i < (hs.map hitD).length := by simpa using hi1
    have htk : ((hs.take (i + 1)).map fun w => w.take 10) = ((hs.take i).map fun w => w.take 10) ++ [hs[i].take 10] := by
      rw [List.take_add_one, List.getElem?_eq_getElem hi1, List.map_append]; rfl
    have hl0 : ((hs.take i).map fun w => w.take 10).length ≤ 1000000 := by simp; omega
    have hwl := hw hs[i] (List.getElem_mem hi1)
    generalize hs[i] = w at hx' htk hwl
    generalize (hs.take (i + 1)).map (fun w => w.take 10) = A1 at htk ⊢
    generalize (hs.take i).map (fun w => w.take 10) = A0 at htk hl0 h5
    have hap := appHit A0 (w.take 10) hl0
    rw [← htk] at hap
    have ha2 := row_app (A := []) (B := w.take 10) (by simp; omega)
    rw [List.nil_append] at ha2
    generalize hs.map hitD = H at hx' hml hi' h0 ⊢
    obtain ⟨_, hx'⟩ := List.getElem?_eq_some_iff.1 hx'
    simp only [hitD] at hx' hap
    clear htk
    by_cases h10 : w.length ≤ 10
    · have hmin : min (w.length : Int) 10 = w.length := by omega
      have htw : w.take 10 = w := List.take_of_length_le h10
      rw [htw] at hap ha2
      have htw2 : (w.map intD).take w.length = w.map intD := List.take_of_length_le (by simp)
      simp [acc_nil] at ha2
      simp [theLoop, Tryz.f19, loopsAll, Lp_some, and_assoc, -rd, rd_set, hS, h0, h1, h5, h6, hlt, hlt2, hi1, hi', hml, hx', hap, ha2, hmin, h10, htw2, rowsFrom, acc_nil, wrap_succ i (by omega)]
      done
    · have hmin : min (w.length : Int) 10 = 10 := by omega
      have hge : 10 ≤ w.length := by omega
      simp only [List.map_take] at hap
      simp [acc_nil] at ha2
      simp [theLoop, Tryz.f19, loopsAll, Lp_some, and_assoc, -rd, rd_set, hS, h0, h1, h5, h6, hlt, hlt2, hi1, hi', hml, hx', hap, ha2, hmin, hge, rowsFrom, acc_nil, wrap_succ i (by omega)]
      done
  · rintro st ⟨S, rfl, hS, h0, h1, h5, h6⟩
    have hml : (hs.map hitD).length = hs.length := by simp
    have htk : hs.take (min hs.length most.toNat) = hs.take most.toNat := by
      rcases Nat.le_total hs.length most.toNat with h | h
      · rw [Nat.min_eq_left h, List.take_of_length_le (Nat.le_refl _), List.take_of_length_le h]
      · rw [Nat.min_eq_right h]
    rw [htk] at h5
    unfold cutL
    generalize (hs.take most.toNat).map (fun w => w.take 10) = A at h5 ⊢
    generalize hs.map hitD = H at h0 hml ⊢
    by_cases hlt : min hs.length most.toNat < hs.length
    · have h1' : ((min hs.length most.toNat : Nat) : Int) < (hs.length : Int) := by omega
      have h2' : ¬ ((min hs.length most.toNat : Nat) : Int) < most := by omega
      generalize min hs.length most.toNat = j at h6 h1' h2'
      simp [theLoop, Tryz.f19, loopsAll, Lp_some, and_assoc, -rd, rd_set, hS, h0, h1, h5, h6, hml, h1', h2', hlt]
      done
    · have h1' : ¬ ((min hs.length most.toNat : Nat) : Int) < (hs.length : Int) := by omega
      generalize min hs.length most.toNat = j at h6 h1'
      simp [theLoop, Tryz.f19, loopsAll, Lp_some, and_assoc, -rd, rd_set, hS, h0, h1, h5, h6, hml, h1', hlt]
      done

theorem r_cut (hs : List (List Int)) (most : Int) (hm : 0 ≤ most ∧ most ≤ 1000) (hw : ∀ w ∈ hs, w.length ≤ 2 ^ 63) (σ : Store) : callIt E1 (evI E1) 19 [.d (.slice (hs.map hitD)), .d (.int .i64 most)] σ = some (.d (.slice ((cutL hs most).map hitD)), σ) := by
  refine call_run (fn := Tryz.f19) 1001 rfl rfl rfl Tryz.func19 rfl rfl ?_ rfl
  simp [Tryz.f19, ec_loop, rowsFrom]
  generalize hLL : loopN _ _ _ = L
  obtain ⟨r, rfl, S, rfl, hS, h5⟩ := at_loop hLL (l_cut 1001 hs most hm hw _ rfl rfl rfl rfl rfl 1001 (by omega))
  generalize cutL hs most = C at h5 ⊢
  simp [-rd, rd_set, hS, h5]
theorem cutL_ok (hs : List (List Int)) (most : Int) (hm : 0 ≤ most ∧ most ≤ 1000) : (cutL hs most).length ≤ 1000 ∧ ∀ w ∈ cutL hs most, w.length ≤ 10 := by
  refine ⟨by simp [cutL]; omega, fun w hw => ?_⟩
  obtain ⟨v, _, rfl⟩ := List.mem_map.1 hw
  simp; omega
end Go.Proofs

set_option linter.unusedVariables false
set_option linter.unusedSimpArgs false
set_option maxRecDepth 100000
set_option maxHeartbeats 8000000
namespace Go.Proofs
open Go.RowKit Go.Shelf Go.Pv

theorem andM (x : Int) (k : Nat) (hk : k ≤ 40) : IntKind.i64.wrap (BitVec.ofInt 64 x &&& BitVec.ofInt 64 (2 ^ k - 1)).toNat = x % 2 ^ k := by
  have hp : (2 : Int) ^ k ≤ 2 ^ 40 := by
    have : (2 : Nat) ^ k ≤ 2 ^ 40 := Nat.pow_le_pow_right (by decide) hk
    exact_mod_cast this
  have hp0 : (0 : Int) < 2 ^ k := Int.pow_pos (by decide)
  have h1 : (BitVec.ofInt 64 (2 ^ k - 1)).toNat = 2 ^ k - 1 := by
    rw [BitVec.toNat_ofInt]
    have : ((2 : Int) ^ k - 1) % ((2 ^ 64 : Nat) : Int) = 2 ^ k - 1 := Int.emod_eq_of_lt (by omega) (by omega)
    rw [this]
    have h3 : (((2 : Nat) ^ k : Nat) : Int) = (2 : Int) ^ k := by rw [Int.natCast_pow]; rfl
    omega
  rw [BitVec.toNat_and, h1, Nat.and_two_pow_sub_one_eq_mod, BitVec.toNat_ofInt]
  have hd : (2 : Int) ^ k ∣ ((2 ^ 64 : Nat) : Int) := by
    refine ⟨2 ^ (64 - k), ?_⟩
    rw [← Int.pow_add, show k + (64 - k) = 64 by omega]; rfl
  have h4 : (((x % ((2 ^ 64 : Nat) : Int)).toNat % 2 ^ k : Nat) : Int) = x % 2 ^ k := by
    rw [Int.natCast_emod, Int.toNat_of_nonneg (Int.emod_nonneg _ (by decide))]
    rw [show (((2 : Nat) ^ k : Nat) : Int) = (2 : Int) ^ k from by rw [Int.natCast_pow]; rfl]
    exact Int.emod_emod_of_dvd x hd
  rw [h4]
  have h5 := Int.emod_nonneg x (Int.ne_of_gt hp0)
  have h6 := Int.emod_lt_of_pos x hp0
  exact wrap_ok (by omega) (by omega)

def Fr.made (f : Fr) : Fr := ⟨f.e, if f.e then f.id % 2 ^ 29 else f.id % 2 ^ 11, f.rm, if f.rm then min (f.ln % 2 ^ 4) 8 else (f.data.take 8).length, if f.rm then [] else f.data.take 8⟩
theorem made_right (f : Fr) : f.made.right = true := by
  rw [Fr.right_iff]
  unfold Fr.made
  obtain ⟨e, id, rm, ln, data⟩ := f
  cases e <;> cases rm <;> simp <;> omega
theorem made_bytes (f : Fr) (h : byOk f.data) : byOk f.made.data := by
  unfold Fr.made
  cases f.rm
  · exact fun x hx => h x (List.mem_of_mem_take hx)
  · intro x hx; simp at hx
end Go.Proofs

set_option linter.unusedVariables false
set_option linter.unusedSimpArgs false
set_option maxRecDepth 100000
set_option maxHeartbeats 8000000
namespace Go.Proofs
open Go.RowKit Go.Shelf Go.Pv

theorem app32 (rows xs : List (List DV)) (h : rowsOk 1 rows = true) (h' : rowsOk 1 xs = true) (hb : rows.length + xs.length ≤ 100000) : evAppend Tryz.prog 32 (acc rows) (.d (.slice xs)) = some (acc (rows ++ xs)) := by
  unfold evAppend
  rw [show appT Tryz.prog 32 = some (1, 1) from by kernel_rfl]
  have h2 : (rows.length + xs.length) * 1 ≤ roomB := by simp [roomB]; omega
  simp only [Option.bind_some, acc_own, elemsOf, h, h', Bool.true_and, h2, decide_true, if_true]

theorem r_Made (f : Fr) (σ : Store) : callIt E1 (evI E1) 181 [f.P] σ = some (f.made.P, σ) := by
  refine call_run (fn := Tryz.f181) 5 rfl rfl rfl Tryz.func181 rfl rfl ?_ rfl
  have m11 : evBin Tryz.prog .and 3 (.d (.int .i64 f.id)) (.d (.int .i64 2047)) = some (.d (.int .i64 (f.id % 2 ^ 11))) := by rw [bin_and]; exact congrArg (fun z => some (PV.d (.int .i64 z))) (andM f.id 11 (by decide))
  have m29 : evBin Tryz.prog .and 3 (.d (.int .i64 f.id)) (.d (.int .i64 536870911)) = some (.d (.int .i64 (f.id % 2 ^ 29))) := by rw [bin_and]; exact congrArg (fun z => some (PV.d (.int .i64 z))) (andM f.id 29 (by decide))
  have m4 : evBin Tryz.prog .and 3 (.d (.int .i64 f.ln)) (.d (.int .i64 15)) = some (.d (.int .i64 (f.ln % 2 ^ 4))) := by rw [bin_and]; exact congrArg (fun z => some (PV.d (.int .i64 z))) (andM f.ln 4 (by decide))
  have hap := app32 [] ((f.data.take 8).map byD) rfl (rowsOk_map (D := byD) (fun _ => rfl) _) (by simp; omega)
  rw [List.nil_append] at hap
  unfold Fr.made
  obtain ⟨e, id, rm, ln, data⟩ := f
  simp only at m11 m29 m4 hap ⊢
  generalize id % 2 ^ 11 = i11 at m11 ⊢
  generalize id % 2 ^ 29 = i29 at m29 ⊢
  generalize ln % 2 ^ 4 = l4 at m4 ⊢
  simp [acc_nil] at hap
  by_cases hd : data.length ≤ 8
  · have hmin : min (data.length : Int) 8 = data.length := by omega
    have ht : data.take 8 = data := List.take_of_length_le hd
    have ht2 : (data.map byD).take 8 = data.map byD := List.take_of_length_le (by simpa using hd)
    have ht3 : (data.map byD).take data.length = data.map byD := List.take_of_length_le (by simp)
    rw [ht2] at hap
    rw [ht]
    cases e <;> cases rm <;> simp [Tryz.f181, -bin_and, m11, m29, m4, hap, hmin, hd, ht2, ht3, rowsFrom, acc_nil, List.set]
  · have hmin : min (data.length : Int) 8 = 8 := by omega
    have hge : 8 ≤ data.length := by omega
    cases e <;> cases rm <;> simp [Tryz.f181, -bin_and, m11, m29, m4, hap, hmin, hge, rowsFrom, acc_nil, List.set]
end Go.Proofs

set_option linter.unusedVariables false
set_option linter.unusedSimpArgs false
set_option maxRecDepth 100000
set_option maxHeartbeats 8000000
namespace Go.Proofs
open Go.RowKit Go.Shelf Go.Pv

theorem appFs (A : List Fr) (f : Fr) (h : A.length ≤ 100000) : evAppend Tryz.prog 44 (acc (A.map Fr.D)) (.d (.slice [f.D])) = some (acc ((A ++ [f]).map Fr.D)) := by
  unfold evAppend
  rw [Ty.app44]
  have h1 : rowsOk 5 (A.map Fr.D) = true := rowsOk_map (D := Fr.D) (fun _ => rfl) A
  have h2 : (A.length + 1) * 56 ≤ roomB := by simp [roomB]; omega
  simp only [Option.bind_some, acc_own, elemsOf, h1, show rowsOk 5 [f.D] = true from rfl, Bool.true_and, List.length_map, List.length_singleton, h2, decide_true, if_true, List.map_append, List.map_cons, List.map_nil]

def madeL (l : List Fr) (most : Int) : List Fr := (l.take most.toNat).map Fr.made

theorem l_frs (m : Nat) (l : List Fr) (most : Int) (hm : 0 ≤ most ∧ most ≤ 1000) (S : List PV) (hS : S.length = 28) (h0 : rd S 0 = .d (.slice (l.map Fr.D))) (h1 : rd S 1 = .d (.int .i64 most)) (h5 : rd S 5 = acc []) (h6 : rd S 6 = .d (.int .i64 0)) (k : Nat) (hk : min l.length most.toNat < k) :
    Lp (loopN (evCode E1 (evI E1) m (theLoop Tryz.f132 0)) k ⟨S, []⟩) fun r => ∃ S' : List PV, r = (.exit 0, ⟨S', []⟩) ∧ S'.length = 28 ∧ rd S' 5 = acc ((madeL l most).map Fr.D) := by
  refine loop_inv (fun i st => ∃ S : List PV, st = ⟨S, []⟩ ∧ S.length = 28 ∧ rd S 0 = .d (.slice (l.map Fr.D)) ∧ rd S 1 = .d (.int .i64 most) ∧ rd S 5 = acc (((l.take i).map Fr.made).map Fr.D) ∧ rd S 6 = .d (.int .i64 i)) _ (min l.length most.toNat) ?_ ?_ k 0 _ (by omega) (by omega) ⟨S, rfl, hS, h0, h1, h5, h6⟩
  · rintro i st hi ⟨S, rfl, hS, h0, h1, h5, h6⟩
    have hi1 : i < l.length := by omega
    have hlt : (i : Int) < (l.length : Int) := by omega
    have hlt2 : (i : Int) < most := by omega
    have hx' : (l.map Fr.D)[i]? = some l[i].D := by simp [hi1]
    have hml : (l.map Fr.D).length = l.length := by simp
    have hi' : i < (l.map Fr.D).length := by simpa using hi1
    have htk : ((l.take (i + 1)).map Fr.made) = ((l.take i).map Fr.made) ++ [l[i].made] := by
      rw [List.take_add_one, List.getElem?_eq_getElem hi1, List.map_append]; rfl
    have hl0 : ((l.take i).map Fr.made).length ≤ 100000 := by simp; omega
    generalize l[i] = f at hx' htk
    have hmd := fun σ => r_Made f σ
    generalize f.made = g at htk hmd
    generalize (l.take (i + 1)).map Fr.made = A1 at htk ⊢
    generalize (l.take i).map Fr.made = A0 at htk hl0 h5
    have hap := appFs A0 g hl0
    rw [← htk] at hap
    generalize l.map Fr.D = H at hx' hml hi' h0 ⊢
    obtain ⟨_, hx'⟩ := List.getElem?_eq_some_iff.1 hx'
    simp only [Fr.D] at hx' hap
    try simp at hmd
    clear htk
    simp [theLoop, Tryz.f132, loopsAll, Lp_some, and_assoc, -rd, rd_set, hS, h0, h1, h5, h6, hlt, hlt2, hi1, hi', hml, hx', hap, hmd, rowsFrom, wrap_succ i (by omega)]
    done
  · rintro st ⟨S, rfl, hS, h0, h1, h5, h6⟩
    have hml : (l.map Fr.D).length = l.length := by simp
    have htk : l.take (min l.length most.toNat) = l.take most.toNat := by
      rcases Nat.le_total l.length most.toNat with h | h
      · rw [Nat.min_eq_left h, List.take_of_length_le (Nat.le_refl _), List.take_of_length_le h]
      · rw [Nat.min_eq_right h]
    rw [htk] at h5
    unfold madeL
    generalize (l.take most.toNat).map Fr.made = A at h5 ⊢
    generalize l.map Fr.D = H at h0 hml ⊢
    by_cases hlt : min l.length most.toNat < l.length
    · have h1' : ((min l.length most.toNat : Nat) : Int) < (l.length : Int) := by omega
      have h2' : ¬ ((min l.length most.toNat : Nat) : Int) < most := by omega
      generalize min l.length most.toNat = j at h6 h1' h2'
      simp [theLoop, Tryz.f132, loopsAll, Lp_some, and_assoc, -rd, rd_set, hS, h0, h1, h5, h6, hml, h1', h2', hlt]
      done
    · have h1' : ¬ ((min l.length most.toNat : Nat) : Int) < (l.length : Int) := by omega
      generalize min l.length most.toNat = j at h6 h1'
      simp [theLoop, Tryz.f132, loopsAll, Lp_some, and_assoc, -rd, rd_set, hS, h0, h1, h5, h6, hml, h1', hlt]
      done

theorem r_Frames (l : List Fr) (most : Int) (hm : 0 ≤ most ∧ most ≤ 1000) (σ : Store) : callIt E1 (evI E1) 132 [.d (.slice (l.map Fr.D)), .d (.int .i64 most)] σ = some (.d (.slice ((madeL l most).map Fr.D)), σ) := by
  refine call_run (fn := Tryz.f132) 1001 rfl rfl rfl Tryz.func132 rfl rfl ?_ rfl
  simp [Tryz.f132, ec_loop, rowsFrom]
  generalize hLL : loopN _ _ _ = L
  obtain ⟨r, rfl, S, rfl, hS, h5⟩ := at_loop hLL (l_frs 1001 l most hm _ rfl rfl rfl rfl rfl 1001 (by omega))
  generalize madeL l most = C at h5 ⊢
  simp [-rd, rd_set, hS, h5]
end Go.Proofs

