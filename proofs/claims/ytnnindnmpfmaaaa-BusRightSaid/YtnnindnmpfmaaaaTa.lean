/- BusAlone, plain: a node alone on a line. -/
import Derived.Test.YtnnindnmpfmaaaaOv
set_option linter.unusedVariables false
set_option linter.unusedSimpArgs false
set_option maxRecDepth 100000
set_option maxHeartbeats 8000000
namespace Go.Proofs
open Go.RowKit Go.Shelf Go.Pv

/-- A node alone, behind so many slots. -/
def aloneN (f : Fr) (j : Nat) : Nd := ⟨[f], [], ⟨8 * min (j : Int) 16, 0, if 16 ≤ j then 2 else 1, 0⟩, []⟩
theorem nxt_one (f : Fr) : nxt [f] = 0 := by
  have := nxt_lt (q := [f]) (by simp)
  simp at this
  exact this
theorem alone_next (f : Fr) (j : Nat) : (aloneN f j).Next = (f, true) := by
  unfold Nd.Next aloneN Nd.off
  have hs : ((if 16 ≤ j then (2 : Int) else 1) == 3) = false := by split <;> decide
  simp only [hs, List.isEmpty_cons, Bool.or_self, Bool.false_eq_true, if_false, nxt_one]
  rfl
theorem alone_step (f : Fr) (j : Nat) : slotL [aloneN f j] [] = ([aloneN f (j + 1)], ⟨0, f, false, (f.wire.length : Int) + 23⟩) := by
  have hsnd : sndL [aloneN f j] = [(0, f)] := by
    unfold sndL
    simp [alone_next f j]
  have hs : sndL [aloneN f j] ≠ [] := by rw [hsnd]; simp
  have hln : lineOf [aloneN f j] [] = ⟨[aloneN f j], [], 0, f, [0]⟩ := by
    unfold lineOf
    rw [hsnd]
    simp [nxt_one, alongL]
  have hse : (lineOf [aloneN f j] []).sends 0 = true := by rw [hln]; rfl
  have hlo : (lineOf [aloneN f j] []).anyLoud = false := by
    unfold Ln.anyLoud
    rw [hln]
    simp only [List.length_singleton, List.range_one, List.any_cons, List.any_nil, Bool.or_false]
    unfold Ln.loud
    have : (Ln.mk [aloneN f j] [] 0 f [0]).sends 0 = true := rfl
    rw [this]
    simp only [if_true]
    show (([] : List Int).contains ((0 : Nat) : Int) || !(Fr.same (nd [aloneN f j] 0).Next.1 f)) = false
    have h1 : nd [aloneN f j] 0 = aloneN f j := rfl
    rw [h1, alone_next f j]
    simp [Fr.same_refl]
  have hhe : (lineOf [aloneN f j] []).anyHears = false := by
    unfold Ln.anyHears
    rw [hln]
    simp only [List.length_singleton, List.range_one, List.any_cons, List.any_nil, Bool.or_false]
    unfold Ln.hears
    have : (Ln.mk [aloneN f j] [] 0 f [0]).sends 0 = true := rfl
    rw [this]
    rfl
  rw [slotL_bad [] hs (by rw [hlo, hhe]; rfl), hln]
  rw [hln] at hlo
  simp only [hlo, List.length_singleton, List.range_one, List.map_cons, List.map_nil]
  congr 1
  congr 1
  unfold Ln.three
  have : (Ln.mk [aloneN f j] [] 0 f [0]).sends 0 = true := rfl
  rw [this]
  simp only [if_true, Bool.not_false, Bool.true_and]
  have h1 : nd [aloneN f j] 0 = aloneN f j := rfl
  rw [h1]
  by_cases hj : 16 ≤ j
  · have h2 : ((aloneN f j).c.s == 2) = true := by simp [aloneN, hj]
    rw [h2]
    simp only [if_true]
    unfold aloneN
    have : min (j : Int) 16 = min ((j + 1 : Nat) : Int) 16 := by omega
    rw [this]
    simp [hj, show 16 ≤ j + 1 by omega]
  · have h2 : ((aloneN f j).c.s == 2) = false := by simp [aloneN, hj]
    rw [h2]
    simp only [Bool.false_eq_true, if_false]
    unfold Nd.Sent Nd.off
    have h3 : ((aloneN f j).c.s == 3) = false := by simp [aloneN, hj]
    rw [h3]
    simp only [aloneN, hj, List.isEmpty_cons, Bool.or_self, Bool.false_eq_true, if_false]
    congr 1
    unfold Cn.step
    simp only [stT, stR, stS, stQ, wkT, wkR]
    by_cases hj2 : 16 ≤ j + 1
    · obtain rfl : j = 15 := by omega
      simp
      decide
    · have e1 : min (j : Int) 16 = j := by omega
      have e2 : min ((j + 1 : Nat) : Int) 16 = j + 1 := by omega
      rw [e1, e2]
      simp only [hj2, if_false]
      have h4 : ¬ (8 * (j : Int) + 8 > 255) := by omega
      have h5 : ¬ (max (8 * (j : Int) + 8) 0 > 127) := by omega
      simp [h4, h5]
      omega

theorem alone_slots (f : Fr) : ∀ n : Nat, slotsL [aloneN f 0] (List.replicate n []) = ([aloneN f n], List.replicate n ⟨0, f, false, (f.wire.length : Int) + 23⟩) := by
  intro n
  induction n with
  | zero => rfl
  | succ n ih =>
    have h := slotsL_succ [aloneN f 0] (List.replicate (n + 1) []) (i := n) (by simp)
    rw [List.take_of_length_le (by simp)] at h
    rw [h, List.take_replicate, show min n (n + 1) = n by omega, ih]
    unfold slotsS
    simp only [List.getElem_replicate, alone_step]
    rw [List.replicate_succ' (n := n)]
end Go.Proofs

