/- The reference of the bus: a slot. -/
import Derived.Test.YtnnindnmpfmaaaaGreatOc
import Derived.Test.YtnnindnmpfmaaaaGreatOz
set_option linter.unusedVariables false
set_option linter.unusedSimpArgs false
set_option maxRecDepth 100000
set_option maxHeartbeats 8000000
namespace Go.Proofs
open Go.RowKit Go.Shelf Go.Pv

theorem appNd (A : List Nd) (n : Nd) (h : A.length ≤ 1000) : evAppend Tryz.prog 22 (acc (A.map Nd.D)) (.d (.slice [n.D])) = some (acc ((A ++ [n]).map Nd.D)) := by
  rw [appN (A.map Nd.D) [n.D] (rowsOk_Nd A) rfl (by simp [roomB]; omega), List.map_append]
  rfl

theorem l_rq (m : Nat) (l : List Nd) (hg : ∀ n ∈ l, n.good) (hl : l.length ≤ 1000) (σ0 : Store) (p3 p5 : PV) (S : List PV) (hS : S.length = 132) (h0 : rd S 0 = .d (.slice (l.map Nd.D))) (h5 : rd S 5 = p5) (h6 : rd S 6 = acc []) (h8 : rd S 8 = .d (.int .i64 0)) (k : Nat) (hk : l.length < k) :
    Lp (loopN (evCode E1 (evI E1) m (theLoop Tryz.f25 0)) k ⟨S, σ0⟩) fun r => ∃ S' : List PV, r = (.exit 0, ⟨S', σ0⟩) ∧ S'.length = 132 ∧ rd S' 5 = p5 ∧ rd S' 6 = acc (((List.range l.length).map fun i => (nd l i).Quiet).map Nd.D) := by
  refine loop_inv (fun i st => ∃ S : List PV, st = ⟨S, σ0⟩ ∧ S.length = 132 ∧ rd S 0 = .d (.slice (l.map Nd.D)) ∧ rd S 5 = p5 ∧ rd S 6 = acc (((List.range i).map fun i => (nd l i).Quiet).map Nd.D) ∧ rd S 8 = .d (.int .i64 i)) _ l.length ?_ ?_ k 0 _ (by omega) (by omega) ⟨S, rfl, hS, h0, h5, h6, h8⟩
  · rintro i st hi ⟨S, rfl, hS, h0, h5, h6, h8⟩
    have htk := map_range_succ (fun i => (nd l i).Quiet) i
    have hlen : ((List.range i).map fun i => (nd l i).Quiet).length ≤ 1000 := by simp; omega
    have hn : nd l i = l[i] := by simp [nd, List.getD, hi]
    have hgi := hg l[i] (List.getElem_mem hi)
    simp only [hn] at htk
    generalize hx : l[i] = n at htk hgi
    have hq := fun σ => r_Quiet n hgi.c σ
    generalize (List.range (i + 1)).map (fun i => (nd l i).Quiet) = A1 at htk ⊢
    generalize (List.range i).map (fun i => (nd l i).Quiet) = A0 at htk hlen h6
    generalize n.Quiet = n1 at htk hq
    have hap := appNd A0 n1 hlen
    rw [← htk] at hap
    have hlt : (i : Int) < (l.length : Int) := by omega
    clear htk
    simp only [Nd.D] at hap
    simp at hq
    simp [theLoop, Tryz.f25, loopsAll, Lp_some, and_assoc, -rd, rd_set, hS, h0, h5, h6, h8, hlt, hi, hx, hq, hap, rowsFrom, wrap_succ i (by omega)]
    done
  · rintro st ⟨S, rfl, hS, h0, h5, h6, h8⟩
    generalize (List.range l.length).map (fun i => (nd l i).Quiet) = A at h6 ⊢
    simp [theLoop, Tryz.f25, loopsAll, Lp_some, and_assoc, -rd, rd_set, hS, h0, h5, h6, h8]

theorem r_slot0 (l : List Nd) (hg : ∀ n ∈ l, n.good) (hl : l.length ≤ 1000) (who : List Int) (hs : sndL l = []) (σ : Store) : callIt E1 (evI E1) 25 [.d (.slice (l.map Nd.D)), .agg [.d (.slice (who.map intD))]] σ = some (.tup [.d (.slice ((slotL l who).1.map Nd.D)), (slotL l who).2.P], σ) := by
  refine call_run (fn := Tryz.f25) (l.length + 1) rfl rfl rfl Tryz.func25 rfl rfl ?_ rfl
  unfold slotL
  rw [if_pos hs]
  simp only
  have hW := fun σ => r_Winner l hg hl σ
  rw [hs] at hW
  simp only [winP_nil, atP, Option.map_none, Option.getD_none] at hW
  have hloop := l_rq (l.length + 1) l hg hl
  generalize (List.range l.length).map (fun i => (nd l i).Quiet) = out at hloop ⊢
  try simp at hW
  simp [Tryz.f25, -loadS, -storeS, loadS_cons0, loadS_consS, storeS_cons0, storeS_consS, hW, ec_loop, acc_nil, rowsFrom]
  generalize hLL : loopN _ _ _ = L
  obtain ⟨r, rfl, S, rfl, hS, h5, h6⟩ := at_loop hLL (hloop _ .undef (.ptr 1 0) _ rfl rfl rfl rfl rfl (l.length + 1) (by omega))
  have h5' := rd_el h5 (by omega)
  simp [-rd, rd_set, -loadS, -storeS, loadS_cons0, loadS_consS, storeS_cons0, storeS_consS, hS, h5, h5', h6, fr0]
  done

/-- What becomes of a node. -/
def Ln.node (x : Ln) (A bad : Bool) (i : Nat) : Nd := if bad then x.two i else x.three A i

theorem l_rs (m : Nat) (l : List Nd) (hg : ∀ n ∈ l, n.good) (hl : l.length ≤ 1000) (who : List Int) (hwl : who.length ≤ 1000000) (A bad : Bool) (p7 : PV) (tc : List PV) (S : List PV) (hS : S.length = 132) (h0 : rd S 0 = .d (.slice (l.map Nd.D))) (h3 : rd S 3 = .ptr 0 0) (h5 : rd S 5 = .ptr 1 0) (h6 : rd S 6 = acc []) (h7 : rd S 7 = p7) (h9 : rd S 9 = .ptr 2 0) (h11 : rd S 11 = .d (.bool A)) (h12 : rd S 12 = .d (.bool bad)) (h13 : rd S 13 = .d (.int .i64 0)) (k : Nat) (hk : l.length < k) :
    Lp (loopN (evCode E1 (evI E1) m (theLoop Tryz.f25 1)) k ⟨S, [[.d (.slice (who.map intD))], tc, cellsOf (lineOf l who).f.P]⟩) fun r => ∃ (S' : List PV) (J : Store), r = (.exit 2, ⟨S', [.d (.slice (who.map intD))] :: tc :: cellsOf (lineOf l who).f.P :: J⟩) ∧ S'.length = 132 ∧ rd S' 5 = .ptr 1 0 ∧ rd S' 6 = acc (((List.range l.length).map ((lineOf l who).node A bad)).map Nd.D) ∧ rd S' 7 = p7 ∧ rd S' 9 = .ptr 2 0 ∧ rd S' 12 = .d (.bool bad) := by
  refine loop_inv (fun i st => ∃ (J : Store) (S : List PV), st = ⟨S, [.d (.slice (who.map intD))] :: tc :: cellsOf (lineOf l who).f.P :: J⟩ ∧ S.length = 132 ∧ rd S 0 = .d (.slice (l.map Nd.D)) ∧ rd S 3 = .ptr 0 0 ∧ rd S 5 = .ptr 1 0 ∧ rd S 6 = acc (((List.range i).map ((lineOf l who).node A bad)).map Nd.D) ∧ rd S 7 = p7 ∧ rd S 9 = .ptr 2 0 ∧ rd S 11 = .d (.bool A) ∧ rd S 12 = .d (.bool bad) ∧ rd S 13 = .d (.int .i64 i)) _ l.length ?_ ?_ k 0 _ (by omega) (by omega) ⟨[], S, rfl, hS, h0, h3, h5, h6, h7, h9, h11, h12, h13⟩
  · rintro i st hi ⟨J, S, rfl, hS, h0, h3, h5, h6, h7, h9, h11, h12, h13⟩
    have htk := map_range_succ ((lineOf l who).node A bad) i
    have hlen : ((List.range i).map ((lineOf l who).node A bad)).length ≤ 1000 := by simp; omega
    have hA := fun σ => r_Along l hg hl who i hi σ
    have hI := fun σ => r_in who (i : Int) hwl σ
    have hgi := hg l[i] (List.getElem_mem hi)
    have hnode : (lineOf l who).node A bad i = (if (lineOf l who).sends i then (if bad then l[i].Sent true else if !A && (l[i].c.s == 2) then l[i] else l[i].Sent false) else (if bad then l[i].Heard (lineOf l who).f (!who.contains (i : Int)) false else l[i].Heard (lineOf l who).f false (who.contains (i : Int) && (l[i].c.s == 1)))) := by
      unfold Ln.node Ln.two Ln.three Ln.loud
      rw [show nd (lineOf l who).l i = l[i] from by show nd l i = l[i]; simp [nd, List.getD, hi]]
      rw [show (lineOf l who).sees i = who.contains (i : Int) from rfl]
      cases (lineOf l who).sends i <;> cases bad <;> simp
    generalize hx : l[i] = n at hnode hgi
    have hs1 := fun σ => r_Sent n true (Nat.le_trans hgi.q (by omega)) hgi.r hgi.c σ
    have hs2 := fun σ => r_Sent n false (Nat.le_trans hgi.q (by omega)) hgi.r hgi.c σ
    have hh1 := fun ok long σ => r_Heard n (lineOf l who).f ok long (Nat.le_trans hgi.g (by omega)) (Nat.le_trans hgi.fs (by omega)) hgi.c σ
    rw [hnode] at htk
    clear hnode
    generalize (List.range (i + 1)).map ((lineOf l who).node A bad) = A1 at htk ⊢
    generalize (List.range i).map ((lineOf l who).node A bad) = A0 at htk hlen h6
    have hap := fun n1 => appNd A0 n1 hlen
    generalize (lineOf l who).sends i = s at hA htk
    generalize (lineOf l who).f = f at hh1 htk ⊢
    generalize who.contains (i : Int) = c at hI htk
    have hlt : (i : Int) < (l.length : Int) := by omega
    simp only [Nd.D] at hap
    try simp at hA
    try simp at hI
    clear hgi
    cases s
    · simp only [Bool.false_eq_true, if_false] at htk
      cases bad
      · simp only [Bool.false_eq_true, if_false] at htk
        cases c
        · simp only [Bool.false_and] at htk
          have hh := fun σ => hh1 false false σ
          generalize n.Heard f false false = n1 at hh htk
          have ha := hap n1
          rw [← htk] at ha
          clear htk hap
          try simp at hh
          simp [theLoop, Tryz.f25, loopsAll, Lp_some, and_assoc, -rd, rd_set, -loadS, -storeS, loadS_cons0, loadS_consS, storeS_cons0, storeS_consS, sfx_load0, sfx_load, sfx_store0, sfx_store, hS, h0, h3, h5, h6, h7, h9, h11, h12, h13, hlt, hi, hx, hA, hI, ha, rowsFrom, wrap_succ i (by omega), cellsOf, hh]
          done
        · simp only [Bool.true_and] at htk
          cases hc : (n.c.s == 1) <;> rw [hc] at htk
          · skip
            have hh := fun σ => hh1 false false σ
            generalize n.Heard f false false = n1 at hh htk
            have ha := hap n1
            rw [← htk] at ha
            clear htk hap
            try simp at hh
            simp [theLoop, Tryz.f25, loopsAll, Lp_some, and_assoc, -rd, rd_set, -loadS, -storeS, loadS_cons0, loadS_consS, storeS_cons0, storeS_consS, sfx_load0, sfx_load, sfx_store0, sfx_store, hS, h0, h3, h5, h6, h7, h9, h11, h12, h13, hlt, hi, hx, hA, hI, ha, rowsFrom, wrap_succ i (by omega), cellsOf, hh, hc]
            done
          · skip
            have hh := fun σ => hh1 false true σ
            generalize n.Heard f false true = n1 at hh htk
            have ha := hap n1
            rw [← htk] at ha
            clear htk hap
            try simp at hh
            simp [theLoop, Tryz.f25, loopsAll, Lp_some, and_assoc, -rd, rd_set, -loadS, -storeS, loadS_cons0, loadS_consS, storeS_cons0, storeS_consS, sfx_load0, sfx_load, sfx_store0, sfx_store, hS, h0, h3, h5, h6, h7, h9, h11, h12, h13, hlt, hi, hx, hA, hI, ha, rowsFrom, wrap_succ i (by omega), cellsOf, hh, hc]
            done
      · simp only [if_true] at htk
        cases c
        · simp only [Bool.not_false] at htk
          have hh := fun σ => hh1 true false σ
          generalize n.Heard f true false = n1 at hh htk
          have ha := hap n1
          rw [← htk] at ha
          clear htk hap
          try simp at hh
          simp [theLoop, Tryz.f25, loopsAll, Lp_some, and_assoc, -rd, rd_set, -loadS, -storeS, loadS_cons0, loadS_consS, storeS_cons0, storeS_consS, sfx_load0, sfx_load, sfx_store0, sfx_store, hS, h0, h3, h5, h6, h7, h9, h11, h12, h13, hlt, hi, hx, hA, hI, ha, rowsFrom, wrap_succ i (by omega), cellsOf, hh]
          done
        · simp only [Bool.not_true] at htk
          have hh := fun σ => hh1 false false σ
          generalize n.Heard f false false = n1 at hh htk
          have ha := hap n1
          rw [← htk] at ha
          clear htk hap
          try simp at hh
          simp [theLoop, Tryz.f25, loopsAll, Lp_some, and_assoc, -rd, rd_set, -loadS, -storeS, loadS_cons0, loadS_consS, storeS_cons0, storeS_consS, sfx_load0, sfx_load, sfx_store0, sfx_store, hS, h0, h3, h5, h6, h7, h9, h11, h12, h13, hlt, hi, hx, hA, hI, ha, rowsFrom, wrap_succ i (by omega), cellsOf, hh]
          done
    · simp only [if_true] at htk
      cases bad
      · simp only [Bool.false_eq_true, if_false] at htk
        cases A
        · simp only [Bool.not_false, Bool.true_and] at htk
          by_cases hc : n.c.s = 2
          · rw [if_pos (by simpa using hc)] at htk
            have ha := hap n
            rw [← htk] at ha
            simp only [hc] at ha
            clear htk hap
            simp [theLoop, Tryz.f25, loopsAll, Lp_some, and_assoc, -rd, rd_set, -loadS, -storeS, loadS_cons0, loadS_consS, storeS_cons0, storeS_consS, sfx_load0, sfx_load, sfx_store0, sfx_store, hS, h0, h3, h5, h6, h7, h9, h11, h12, h13, hlt, hi, hx, hA, hI, ha, rowsFrom, wrap_succ i (by omega), cellsOf, hc]
            done
          · rw [if_neg (by simpa using hc)] at htk
            have hb : (n.c.s != 2) = true := by simpa using hc
            generalize n.Sent false = n1 at hs2 htk
            have ha := hap n1
            rw [← htk] at ha
            clear htk hap
            try simp at hs2
            simp [theLoop, Tryz.f25, loopsAll, Lp_some, and_assoc, -rd, rd_set, -loadS, -storeS, loadS_cons0, loadS_consS, storeS_cons0, storeS_consS, sfx_load0, sfx_load, sfx_store0, sfx_store, hS, h0, h3, h5, h6, h7, h9, h11, h12, h13, hlt, hi, hx, hA, hI, ha, rowsFrom, wrap_succ i (by omega), cellsOf, hs2, hb]
            done
        · simp only [Bool.not_true, Bool.false_and, Bool.false_eq_true, if_false] at htk
          generalize n.Sent false = n1 at hs2 htk
          have ha := hap n1
          rw [← htk] at ha
          clear htk hap
          try simp at hs2
          simp [theLoop, Tryz.f25, loopsAll, Lp_some, and_assoc, -rd, rd_set, -loadS, -storeS, loadS_cons0, loadS_consS, storeS_cons0, storeS_consS, sfx_load0, sfx_load, sfx_store0, sfx_store, hS, h0, h3, h5, h6, h7, h9, h11, h12, h13, hlt, hi, hx, hA, hI, ha, rowsFrom, wrap_succ i (by omega), cellsOf, hs2]
          done
      · simp only [if_true] at htk
        generalize n.Sent true = n1 at hs1 htk
        have ha := hap n1
        rw [← htk] at ha
        clear htk hap
        try simp at hs1
        simp [theLoop, Tryz.f25, loopsAll, Lp_some, and_assoc, -rd, rd_set, -loadS, -storeS, loadS_cons0, loadS_consS, storeS_cons0, storeS_consS, sfx_load0, sfx_load, sfx_store0, sfx_store, hS, h0, h3, h5, h6, h7, h9, h11, h12, h13, hlt, hi, hx, hA, hI, ha, rowsFrom, wrap_succ i (by omega), cellsOf, hs1]
        done
  · rintro st ⟨J, S, rfl, hS, h0, h3, h5, h6, h7, h9, h11, h12, h13⟩
    generalize (List.range l.length).map ((lineOf l who).node A bad) = out at h6 ⊢
    generalize (lineOf l who).f = f
    simp [theLoop, Tryz.f25, loopsAll, Lp_some, and_assoc, -rd, rd_set, hS, h0, h3, h5, h6, h7, h9, h11, h12, h13]
    done
end Go.Proofs

