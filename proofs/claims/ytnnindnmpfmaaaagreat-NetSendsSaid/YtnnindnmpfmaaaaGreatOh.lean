/- The reference makes a node right: its filters; The reference makes a node right: the loop over its filters; The reference makes a node right. -/
import Derived.Test.YtnnindnmpfmaaaaGreatOg
import Derived.Test.YtnnindnmpfmaaaaGreatNl
set_option linter.unusedVariables false
set_option linter.unusedSimpArgs false
set_option maxRecDepth 100000
set_option maxHeartbeats 8000000
namespace Go.Proofs
open Go.RowKit Go.Shelf Go.Pv

/-- A filter cut to its width. -/
def Fl.cut (f : Fl) : Fl := ⟨f.e, if f.e then f.mask % 2 ^ 29 else f.mask % 2 ^ 11, IntKind.i64.wrap (BitVec.ofInt 64 f.mt &&& BitVec.ofInt 64 (if f.e then f.mask % 2 ^ 29 else f.mask % 2 ^ 11)).toNat⟩
def cutFs (l : List Fl) : List Fl := (l.map Fl.cut).filter (·.rright)
theorem cutFs_succ (l : List Fl) {i : Nat} (hi : i < l.length) : cutFs (l.take (i + 1)) = cutFs (l.take i) ++ if l[i].cut.rright then [l[i].cut] else [] := by
  unfold cutFs
  rw [List.take_add_one, List.getElem?_eq_getElem hi, List.map_append, List.filter_append]
  congr 1
  by_cases h : l[i].cut.rright = true <;> simp [h]
theorem cutFs_len (l : List Fl) : (cutFs l).length ≤ l.length := by
  unfold cutFs
  refine Nat.le_trans (List.length_filter_le _ _) (by simp)
theorem cut_bits (f : Fl) : -9223372036854775808 ≤ f.cut.mt ∧ f.cut.mt ≤ 9223372036854775807 := by
  unfold Fl.cut
  simp only
  rw [IntKind.wrap_i64]
  omega
end Go.Proofs

set_option linter.unusedVariables false
set_option linter.unusedSimpArgs false
set_option maxRecDepth 100000
set_option maxHeartbeats 8000000
namespace Go.Proofs
open Go.RowKit Go.Shelf Go.Pv

theorem appFl (A : List Fl) (f : Fl) (h : A.length ≤ 1000) : evAppend Tryz.prog 45 (acc (A.map Fl.D)) (.d (.slice [f.D])) = some (acc ((A ++ [f]).map Fl.D)) := by
  rw [app24 (A.map Fl.D) [f.D] (rowsOk_map (D := Fl.D) (fun _ => rfl) A) rfl (by simp [roomB]; omega), List.map_append]
  rfl

theorem l_made (m : Nat) (n : Nd) (z : List PV) (c0 c2 c3 c4 c5 c6 : PV) (S : List PV) (hS : S.length = 66) (h2 : rd S 2 = .ptr 0 0) (h4 : rd S 4 = .ptr 1 0) (h5 : rd S 5 = .ptr 2 0) (h6 : rd S 6 = .d (.int .i64 0)) (k : Nat) (hk : min n.fs.length 8 < k) :
    Lp (loopN (evCode E1 (evI E1) m (theLoop Tryz.f65 0)) k ⟨S, [cellsOf n.P, z, [c0, .e0, c2, c3, c4, c5, c6]]⟩) fun r => ∃ (S' : List PV) (J : Store), r = (.exit 0, ⟨S', cellsOf n.P :: z :: [c0, acc ((cutFs (n.fs.take 8)).map Fl.D), c2, c3, c4, c5, c6] :: J⟩) ∧ S'.length = 66 ∧ rd S' 2 = .ptr 0 0 ∧ rd S' 4 = .ptr 1 0 ∧ rd S' 5 = .ptr 2 0 := by
  refine loop_inv (fun i st => ∃ (J : Store) (S : List PV), st = ⟨S, cellsOf n.P :: z :: [c0, acc ((cutFs (n.fs.take i)).map Fl.D), c2, c3, c4, c5, c6] :: J⟩ ∧ S.length = 66 ∧ rd S 2 = .ptr 0 0 ∧ rd S 4 = .ptr 1 0 ∧ rd S 5 = .ptr 2 0 ∧ rd S 6 = .d (.int .i64 i)) _ (min n.fs.length 8) ?_ ?_ k 0 _ (by omega) (by omega) ⟨[], S, rfl, hS, h2, h4, h5, h6⟩
  · rintro i st hi ⟨J, S, rfl, hS, h2, h4, h5, h6⟩
    have hi1 : i < n.fs.length := by omega
    have hlt : (i : Int) < (n.fs.length : Int) := by omega
    have hlt2 : (i : Int) < 8 := by omega
    have htk := cutFs_succ n.fs hi1
    have hl0 : (cutFs (n.fs.take i)).length ≤ 1000 := Nat.le_trans (cutFs_len _) (by simp; omega)
    generalize hx : n.fs[i] = f at htk
    generalize cutFs (n.fs.take (i + 1)) = A1 at htk ⊢
    generalize cutFs (n.fs.take i) = A0 at htk hl0 ⊢
    have m11 : evBin Tryz.prog .and 3 (.d (.int .i64 f.mask)) (.d (.int .i64 2047)) = some (.d (.int .i64 (f.mask % 2 ^ 11))) := by rw [bin_and]; exact congrArg (fun z => some (PV.d (.int .i64 z))) (andM f.mask 11 (by decide))
    have m29 : evBin Tryz.prog .and 3 (.d (.int .i64 f.mask)) (.d (.int .i64 536870911)) = some (.d (.int .i64 (f.mask % 2 ^ 29))) := by rw [bin_and]; exact congrArg (fun z => some (PV.d (.int .i64 z))) (andM f.mask 29 (by decide))
    have hap := appFl A0 f.cut hl0
    have hR := fun σ => r_flRight f.cut σ
    have hmt : ∀ mk, f.cut.mask = mk → evBin Tryz.prog .and 3 (.d (.int .i64 f.mt)) (.d (.int .i64 mk)) = some (.d (.int .i64 f.cut.mt)) := by
      rintro mk rfl
      rw [bin_and]
      rfl
    have hmk : f.cut.mask = if f.e then f.mask % 2 ^ 29 else f.mask % 2 ^ 11 := rfl
    have hce : f.cut.e = f.e := rfl
    generalize f.cut = g at htk hap hR hmt hmk hce
    obtain ⟨e, mk, mt⟩ := f
    obtain ⟨ge, gm, gt⟩ := g
    simp only at hmk hce m11 m29 hmt hx
    subst hce
    generalize mk % 2 ^ 11 = i11 at m11 hmk
    generalize mk % 2 ^ 29 = i29 at m29 hmk
    have hmt' := hmt gm rfl
    simp only [Fl.D] at hap
    generalize hrr : Fl.rright ⟨ge, gm, gt⟩ = rr at htk hR
    try simp at hR
    cases rr
    · simp only [Bool.false_eq_true, if_false, List.append_nil] at htk
      subst htk
      cases ge
      · simp only [Bool.false_eq_true, if_false] at hmk
        subst hmk
        simp [theLoop, Tryz.f65, loopsAll, Lp_some, and_assoc, -rd, rd_set, -loadS, -storeS, loadS_cons0, loadS_consS, storeS_cons0, storeS_consS, sfx_load0, sfx_load, sfx_store0, sfx_store, hS, h2, h4, h5, h6, hlt, hlt2, hi1, hx, -bin_and, m11, hmt', hR, rowsFrom, wrap_succ i (by omega), cellsOf]
        done
      · simp only [if_true] at hmk
        subst hmk
        simp [theLoop, Tryz.f65, loopsAll, Lp_some, and_assoc, -rd, rd_set, -loadS, -storeS, loadS_cons0, loadS_consS, storeS_cons0, storeS_consS, sfx_load0, sfx_load, sfx_store0, sfx_store, hS, h2, h4, h5, h6, hlt, hlt2, hi1, hx, -bin_and, m29, hmt', hR, rowsFrom, wrap_succ i (by omega), cellsOf]
        done
    · simp only [if_true] at htk
      rw [← htk] at hap
      clear htk
      cases ge
      · simp only [Bool.false_eq_true, if_false] at hmk
        subst hmk
        simp [theLoop, Tryz.f65, loopsAll, Lp_some, and_assoc, -rd, rd_set, -loadS, -storeS, loadS_cons0, loadS_consS, storeS_cons0, storeS_consS, sfx_load0, sfx_load, sfx_store0, sfx_store, hS, h2, h4, h5, h6, hlt, hlt2, hi1, hx, -bin_and, m11, hmt', hR, hap, rowsFrom, wrap_succ i (by omega), cellsOf]
        done
      · simp only [if_true] at hmk
        subst hmk
        simp [theLoop, Tryz.f65, loopsAll, Lp_some, and_assoc, -rd, rd_set, -loadS, -storeS, loadS_cons0, loadS_consS, storeS_cons0, storeS_consS, sfx_load0, sfx_load, sfx_store0, sfx_store, hS, h2, h4, h5, h6, hlt, hlt2, hi1, hx, -bin_and, m29, hmt', hR, hap, rowsFrom, wrap_succ i (by omega), cellsOf]
        done
  · rintro st ⟨J, S, rfl, hS, h2, h4, h5, h6⟩
    have htk : n.fs.take (min n.fs.length 8) = n.fs.take 8 := by
      rcases Nat.le_total n.fs.length 8 with h | h
      · rw [Nat.min_eq_left h, List.take_of_length_le (Nat.le_refl _), List.take_of_length_le h]
      · rw [Nat.min_eq_right h]
    rw [htk]
    generalize cutFs (n.fs.take 8) = A
    by_cases hlt : min n.fs.length 8 < n.fs.length
    · have h1' : ((min n.fs.length 8 : Nat) : Int) < (n.fs.length : Int) := by omega
      have h2' : ¬ ((min n.fs.length 8 : Nat) : Int) < 8 := by omega
      generalize min n.fs.length 8 = j at h6 h1' h2' hlt
      simp [theLoop, Tryz.f65, loopsAll, Lp_some, and_assoc, -rd, rd_set, -loadS, -storeS, loadS_cons0, loadS_consS, storeS_cons0, storeS_consS, hS, h2, h4, h5, h6, h1', h2', hlt, cellsOf]
      done
    · have h1' : ¬ ((min n.fs.length 8 : Nat) : Int) < (n.fs.length : Int) := by omega
      generalize min n.fs.length 8 = j at h6 h1' hlt
      simp [theLoop, Tryz.f65, loopsAll, Lp_some, and_assoc, -rd, rd_set, -loadS, -storeS, loadS_cons0, loadS_consS, storeS_cons0, storeS_consS, hS, h2, h4, h5, h6, h1', hlt, cellsOf]
      done
end Go.Proofs

set_option linter.unusedVariables false
set_option linter.unusedSimpArgs false
set_option maxRecDepth 100000
set_option maxHeartbeats 8000000
namespace Go.Proofs
open Go.RowKit Go.Shelf Go.Pv

def Nd.made (n : Nd) (most : Int) : Nd := ⟨madeL n.q (min most 16), cutFs (n.fs.take 8), if n.c.right then n.c else ⟨0, 0, 1, 0⟩, madeL n.g (min most 64)⟩

theorem r_MadeNd (n : Nd) (most : Int) (hm : 0 ≤ most ∧ most ≤ 1000) (σ : Store) : callIt E1 (evI E1) 65 [n.P, .d (.int .i64 most)] σ = some ((n.made most).P, σ) := by
  refine call_run (fn := Tryz.f65) 9 rfl rfl rfl Tryz.func65 rfl rfl ?_ rfl
  have f1 := fun σ => r_Frames n.q (min most 16) (by omega) σ
  have f2 := fun σ => r_Frames n.g (min most 64) (by omega) σ
  have hc := fun σ => r_countRight' n.c σ
  have hn := fun σ => r_countNew σ
  have hloop := l_made 9 n
  unfold Nd.made
  generalize madeL n.q (min most 16) = q' at f1 ⊢
  generalize madeL n.g (min most 64) = g' at f2 ⊢
  generalize cutFs (n.fs.take 8) = fs' at hloop ⊢
  obtain ⟨q, fs, c, g⟩ := n
  simp only [cellsOf, Nd.P] at hloop
  simp only at f1 f2 hc ⊢
  try simp at f1
  try simp at f2
  try simp at hn
  generalize hcr : c.right = cr at hc ⊢
  obtain ⟨ct, c_r, cs, cz⟩ := c
  try simp at hc
  simp [Tryz.f65, -loadS, -storeS, loadS_cons0, loadS_consS, storeS_cons0, storeS_consS, sfx_load0, sfx_load, sfx_store0, sfx_store, f1, f2, ec_loop, cellsOf]
  generalize hLL : loopN _ _ _ = L
  obtain ⟨r, rfl, S, J, rfl, hS, h2, h4, h5⟩ := at_loop hLL (hloop _ _ _ _ _ _ _ _ rfl rfl rfl rfl rfl 9 (by omega))
  have h4' := rd_el h4 (by omega)
  cases cr
  · simp [-rd, rd_set, -loadS, -storeS, loadS_cons0, loadS_consS, storeS_cons0, storeS_consS, sfx_load0, sfx_load, sfx_store0, sfx_store, hS, h2, h4, h4', h5, hc, hn, cellsOf]
    done
  · simp [-rd, rd_set, -loadS, -storeS, loadS_cons0, loadS_consS, storeS_cons0, storeS_consS, sfx_load0, sfx_load, sfx_store0, sfx_store, hS, h2, h4, h4', h5, hc, hn, cellsOf]
    done
end Go.Proofs

