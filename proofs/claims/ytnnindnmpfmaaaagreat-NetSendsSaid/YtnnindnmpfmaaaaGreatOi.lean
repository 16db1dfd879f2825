/- A node that is made is right; The reference makes nodes right; The nodes that are made: right, with bytes, one to eight. -/
import Derived.Test.YtnnindnmpfmaaaaGreatOh
set_option linter.unusedVariables false
set_option linter.unusedSimpArgs false
set_option maxRecDepth 100000
set_option maxHeartbeats 8000000
namespace Go.Proofs
open Go.RowKit Go.Shelf Go.Pv

theorem madeL_ok (l : List Fr) (most : Int) : (madeL l most).length ≤ most.toNat ∧ ∀ f ∈ madeL l most, f.right = true := by
  refine ⟨by simp [madeL]; omega, fun f hf => ?_⟩
  obtain ⟨g, _, rfl⟩ := List.mem_map.1 hf
  exact made_right g
theorem madeL_bytes (l : List Fr) (most : Int) (h : ∀ f ∈ l, byOk f.data) : ∀ f ∈ madeL l most, byOk f.data := by
  intro f hf
  obtain ⟨g, hg, rfl⟩ := List.mem_map.1 hf
  exact made_bytes g (h g (List.mem_of_mem_take hg))
theorem cut_wf (f : Fl) : f.cut.wf := by
  refine ⟨?_, cut_bits f⟩
  unfold I64 Fl.cut
  simp only
  cases f.e <;> simp <;> omega
theorem cutFs_ok (l : List Fl) : ∀ f ∈ cutFs l, f.right = true := by
  intro f hf
  unfold cutFs at hf
  rw [List.mem_filter] at hf
  obtain ⟨h1, h2⟩ := hf
  obtain ⟨g, _, rfl⟩ := List.mem_map.1 h1
  rw [← Fl.rright_eq _ (cut_wf g)]
  exact h2
theorem Nd.made_right (n : Nd) (most : Int) : (n.made most).right = true := by
  rw [Nd.right_iff]
  obtain ⟨a1, a2⟩ := madeL_ok n.q (min most 16)
  obtain ⟨b1, b2⟩ := madeL_ok n.g (min most 64)
  refine ⟨⟨Nat.le_trans a1 (by omega), a2⟩, ⟨Nat.le_trans b1 (by omega), b2⟩, ⟨Nat.le_trans (cutFs_len _) (by simp; omega), cutFs_ok _⟩, ?_⟩
  unfold Nd.made
  simp only
  split
  · assumption
  · decide
end Go.Proofs

set_option linter.unusedVariables false
set_option linter.unusedSimpArgs false
set_option maxRecDepth 100000
set_option maxHeartbeats 8000000
namespace Go.Proofs
open Go.RowKit Go.Shelf Go.Pv

def nodesL (l : List Nd) (most : Int) : List Nd := if l = [] then [⟨[], [], ⟨0, 0, 1, 0⟩, []⟩] else (l.take 8).map (·.made most)

theorem l_nodes (m : Nat) (l : List Nd) (most : Int) (hm : 0 ≤ most ∧ most ≤ 1000) (S : List PV) (hS : S.length = 36) (h0 : rd S 0 = .d (.slice (l.map Nd.D))) (h1 : rd S 1 = .d (.int .i64 most)) (h5 : rd S 5 = acc []) (h6 : rd S 6 = .d (.int .i64 0)) (k : Nat) (hk : min l.length 8 < k) :
    Lp (loopN (evCode E1 (evI E1) m (theLoop Tryz.f18 0)) k ⟨S, []⟩) fun r => ∃ S' : List PV, r = (.exit 0, ⟨S', []⟩) ∧ S'.length = 36 ∧ rd S' 5 = acc (((l.take 8).map (·.made most)).map Nd.D) := by
  refine loop_inv (fun i st => ∃ S : List PV, st = ⟨S, []⟩ ∧ S.length = 36 ∧ rd S 0 = .d (.slice (l.map Nd.D)) ∧ rd S 1 = .d (.int .i64 most) ∧ rd S 5 = acc (((l.take i).map (·.made most)).map Nd.D) ∧ rd S 6 = .d (.int .i64 i)) _ (min l.length 8) ?_ ?_ k 0 _ (by omega) (by omega) ⟨S, rfl, hS, h0, h1, h5, h6⟩
  · rintro i st hi ⟨S, rfl, hS, h0, h1, h5, h6⟩
    have hi1 : i < l.length := by omega
    have hlt : (i : Int) < (l.length : Int) := by omega
    have hlt2 : (i : Int) < 8 := by omega
    have hx' : (l.map Nd.D)[i]? = some l[i].D := by simp [hi1]
    have hml : (l.map Nd.D).length = l.length := by simp
    have hi' : i < (l.map Nd.D).length := by simpa using hi1
    have htk : ((l.take (i + 1)).map (·.made most)) = ((l.take i).map (·.made most)) ++ [l[i].made most] := by
      rw [List.take_add_one, List.getElem?_eq_getElem hi1, List.map_append]; rfl
    have hl0 : ((l.take i).map (·.made most)).length ≤ 1000 := by simp; omega
    generalize l[i] = f at hx' htk
    have hmd := fun σ => r_MadeNd f most hm σ
    generalize f.made most = g at htk hmd
    generalize (l.take (i + 1)).map (·.made most) = A1 at htk ⊢
    generalize (l.take i).map (·.made most) = A0 at htk hl0 h5
    have hap := appNd A0 g hl0
    rw [← htk] at hap
    generalize l.map Nd.D = H at hx' hml hi' h0 ⊢
    obtain ⟨_, hx'⟩ := List.getElem?_eq_some_iff.1 hx'
    simp only [Nd.D] at hx' hap
    try simp at hmd
    clear htk
    simp [theLoop, Tryz.f18, loopsAll, Lp_some, and_assoc, -rd, rd_set, hS, h0, h1, h5, h6, hlt, hlt2, hi1, hi', hml, hx', hap, hmd, rowsFrom, wrap_succ i (by omega)]
    done
  · rintro st ⟨S, rfl, hS, h0, h1, h5, h6⟩
    have hml : (l.map Nd.D).length = l.length := by simp
    have htk : l.take (min l.length 8) = l.take 8 := by
      rcases Nat.le_total l.length 8 with h | h
      · rw [Nat.min_eq_left h, List.take_of_length_le (Nat.le_refl _), List.take_of_length_le h]
      · rw [Nat.min_eq_right h]
    rw [htk] at h5
    generalize (l.take 8).map (·.made most) = A at h5 ⊢
    generalize l.map Nd.D = H at h0 hml ⊢
    by_cases hlt : min l.length 8 < l.length
    · have h1' : ((min l.length 8 : Nat) : Int) < (l.length : Int) := by omega
      have h2' : ¬ ((min l.length 8 : Nat) : Int) < 8 := by omega
      generalize min l.length 8 = j at h6 h1' h2' hlt
      simp [theLoop, Tryz.f18, loopsAll, Lp_some, and_assoc, -rd, rd_set, hS, h0, h1, h5, h6, hml, h1', h2', hlt]
      done
    · have h1' : ¬ ((min l.length 8 : Nat) : Int) < (l.length : Int) := by omega
      generalize min l.length 8 = j at h6 h1' hlt
      simp [theLoop, Tryz.f18, loopsAll, Lp_some, and_assoc, -rd, rd_set, hS, h0, h1, h5, h6, hml, h1', hlt]
      done

theorem r_Nodes (l : List Nd) (most : Int) (hm : 0 ≤ most ∧ most ≤ 1000) (σ : Store) : callIt E1 (evI E1) 18 [.d (.slice (l.map Nd.D)), .d (.int .i64 most)] σ = some (.d (.slice ((nodesL l most).map Nd.D)), σ) := by
  refine call_run (fn := Tryz.f18) 9 rfl rfl rfl Tryz.func18 rfl rfl ?_ rfl
  have hn := fun σ => r_countNew σ
  have hloop := l_nodes 9 l most hm
  have hlen : ((l.take 8).map (·.made most)).length = min 8 l.length := by simp
  have hml : (((l.take 8).map (·.made most)).map Nd.D).length = min 8 l.length := by simp
  unfold nodesL
  have hap := appNd [] ⟨[], [], ⟨0, 0, 1, 0⟩, []⟩ (by simp)
  try simp at hn
  simp [acc_nil] at hap
  by_cases hl : l = []
  · subst hl
    simp [Tryz.f18, ec_loop, rowsFrom]
    generalize hLL : loopN _ _ _ = L
    obtain ⟨r, rfl, S, rfl, hS, h5⟩ := at_loop hLL (hloop _ rfl rfl rfl rfl rfl 9 (by simp))
    replace h5 : rd S 5 = .e0 := h5
    simp [-rd, rd_set, hS, h5, hn, hap, rowsFrom, acc_nil]
    done
  · rw [if_neg hl]
    have hpos : 0 < l.length := List.length_pos_iff.2 hl
    generalize (l.take 8).map (·.made most) = A at hloop hlen hml ⊢
    have hne : ((A.length : Int) == 0) = false := by rw [beq_eq_false_iff_ne]; omega
    have hA : A ≠ [] := by intro h; rw [h] at hlen; simp at hlen; omega
    simp [Tryz.f18, ec_loop, rowsFrom]
    generalize hLL : loopN _ _ _ = L
    obtain ⟨r, rfl, S, rfl, hS, h5⟩ := at_loop hLL (hloop _ rfl rfl rfl rfl rfl 9 (by omega))
    simp [-rd, rd_set, hS, h5, hne, hA]
    done
end Go.Proofs

set_option linter.unusedVariables false
namespace Go.Proofs
open Go.RowKit Go.Shelf Go.Pv

theorem nodesL_right (l : List Nd) (most : Int) : rights (nodesL l most) := by
  unfold nodesL
  split
  · intro n hn
    simp only [List.mem_singleton] at hn
    subst hn
    decide
  · intro n hn
    obtain ⟨x, _, rfl⟩ := List.mem_map.1 hn
    exact Nd.made_right x most
theorem nodesL_bytes (l : List Nd) (most : Int) (hb : bytesOk l) : bytesOk (nodesL l most) := by
  unfold nodesL
  split
  · intro n hn f hf
    simp only [List.mem_singleton] at hn
    subst hn
    simp at hf
  · intro n hn
    obtain ⟨x, hx, rfl⟩ := List.mem_map.1 hn
    exact madeL_bytes x.q (min most 16) (hb x (List.mem_of_mem_take hx))
theorem nodesL_len (l : List Nd) (most : Int) : 1 ≤ (nodesL l most).length ∧ (nodesL l most).length ≤ 8 := by
  unfold nodesL
  split
  · simp
  · rename_i h
    have := List.length_pos_iff.2 h
    simp
    omega
theorem nodesL_got (l : List Nd) (most : Int) : ∀ n ∈ nodesL l most, n.g.length ≤ most.toNat := by
  unfold nodesL
  split
  · intro n hn
    simp only [List.mem_singleton] at hn
    subst hn
    simp
  · intro n hn
    obtain ⟨x, hx, rfl⟩ := List.mem_map.1 hn
    exact Nat.le_trans (madeL_ok x.g (min most 64)).1 (by omega)
end Go.Proofs

