/- The reference of routes: where some buses lead; whether one comes back; where a frame goes; The reference of routes: whether one comes back; where a frame goes; The reference of gateways and nets: how they are made; The reference of nets: how a net is made; The reference of gateways: a gateway with another row; The reference of gateways: a frame goes in; A net in which nothing waits; a net in which one frame waits, and no routes. Plain; The reference of nets: what the gateway's node is offered; a round; a calm; The reference of nets: a slot's loop; The reference of the bus: which rank is less; does a number stand in a row; The reference of the bus: who wins, who sends along; The reference of the bus: who sends along, who hears, what hits; The reference of the bus: what hits. -/
import Derived.Test.YtnnindnmpfmaaaaGreatNt12
import Derived.Test.YtnnindnmpfmaaaaGreatNt11
import Derived.Test.YtnnindnmpfmaaaaGreatNt09
import Derived.Test.YtnnindnmpfmaaaaGreatNt08
set_option linter.unusedVariables false
set_option linter.unusedSimpArgs false
set_option maxRecDepth 100000
set_option maxHeartbeats 8000000
namespace Go.Proofs
open Go.RowKit Go.Shelf Go.Pv
theorem l_rIn (m : Nat) (l : List Int) (n : Int) (hl : l.length ≤ 1000000) (S : List PV) (hS : S.length = 18) (h0 : rd S 0 = .d (.slice (l.map intD))) (h1 : rd S 1 = .d (.int .i64 n)) (h5 : rd S 5 = .d (.int .i64 0)) (J : Store) (k : Nat) (hk : l.length < k) :
  Lp (loopN (evCode E1 (evI E1) m (theLoop Tryz.f174 0)) k ⟨S, J⟩) fun r => ∃ (J : Store) (S' : List PV), S'.length = 18 ∧ ((r = (.exit 0, ⟨S', J⟩) ∧ l.contains n = false) ∨ (r = (.ret, ⟨S', J⟩) ∧ rd S' 4 = .d (.bool true) ∧ l.contains n = true)) := by
 have hml : (l.map intD).length = l.length := by simp
 refine loop_inv (fun i st => ∃ (J : Store) (S : List PV), st = ⟨S, J⟩ ∧ S.length = 18 ∧ (l.take i).any (fun x => x == n) = false ∧ rd S 0 = .d (.slice (l.map intD)) ∧ rd S 1 = .d (.int .i64 n) ∧ rd S 5 = .d (.int .i64 i)) _ l.length ?_ ?_ k 0 _ (by omega) (by omega) ⟨J, S, rfl, hS, rfl, h0, h1, h5⟩
 ·rintro i st hi ⟨J, S, rfl, hS, he, h0, h1, h5⟩
  have hlt : (i : Int) < (l.length : Int) := by omega
  have htk := any_take (p := fun x => x == n) hi
  rw [he, Bool.false_or] at htk
  have hall : (l[i] == n) = true → l.contains n = true := fun h => by
   rw [List.contains_iff_mem, ← eq_of_beq h]; exact List.getElem_mem hi
  have hx : (l.map intD)[i]? = some (intD l[i]) := by simp [hi]
  generalize (l.take (i + 1)).any (fun x => x == n) = z1 at htk ⊢
  generalize l.contains n = z2 at hall ⊢
  generalize l[i] = x at htk hall hx
  generalize l.map intD = L at hx hml h0 ⊢
  obtain ⟨hi0, hx⟩ := List.getElem?_eq_some_iff.1 hx
  simp only [intD] at hx
  clear he
  cases hc : (x == n)
  ·rw [hc] at htk
   subst htk
   clear hall
   simp [theLoop, Tryz.f174, loopsAll, Lp_some, and_assoc, -rd, rd_ne, rd_eq, hS, h0, h1, h5, hlt, hi, hi0, hml, hx, hc, wrap_succ i (by omega)]
   done
  ·have h2 := hall hc
   subst h2
   simp [theLoop, Tryz.f174, loopsAll, Lp_some, and_assoc, -rd, rd_ne, rd_eq, hS, h0, h1, h5, hlt, hi, hi0, hml, hx, hc]
   refine ⟨_, _, ?_, rfl, rfl, ?_⟩ <;> simp [-rd, rd_ne, rd_eq, hS]
 ·rintro st ⟨J, S, rfl, hS, he, h0, h1, h5⟩
  rw [List.take_length] at he
  have hc : l.contains n = false := by
   rw [List.any_eq_false] at he
   cases hz : l.contains n
   ·rfl
   ·rw [List.contains_iff_mem] at hz
    have := he n hz
    simp at this
  generalize l.contains n = z at hc ⊢
  subst hc
  generalize l.map intD = L at hml h0 ⊢
  simp [theLoop, Tryz.f174, loopsAll, Lp_some, and_assoc, -rd, rd_ne, rd_eq, hS, h0, h1, h5, hml]
  refine ⟨_, _, ?_, rfl, rfl⟩ <;> simp [-rd, rd_ne, rd_eq, hS]
theorem r_In12 (l : List Int) (n : Int) (hl : l.length ≤ 1000) (σ : Store) : callIt E1 (evI E1) 174 [.d (.slice (l.map intD)), .d (.int .i64 n)] σ = some (.d (.bool (l.contains n)), σ) := by
 refine call_run (fn := Tryz.f174) 1001 rfl rfl rfl Tryz.func174 rfl rfl ?_ rfl
 have hloop := l_rIn 1001 l n (by omega)
 generalize l.contains n = z at hloop ⊢
 generalize l.map intD = L at hloop ⊢
 simp [Tryz.f174, ec_loop]
 generalize hLL : loopN _ _ _ = LL
 obtain ⟨r, rfl, J, S, hS, h⟩ := at_loop hLL (hloop _ rfl rfl rfl rfl _ 1001 (by omega))
 rcases h with ⟨rfl, rfl⟩ | ⟨rfl, h4, rfl⟩
 ·simp [-rd, rd_ne, rd_eq, hS]
 ·simp [-rd, rd_ne, rd_eq, hS, h4, rd_el h4 (by omega)]
def leads (l : List Rt) (s : List Int) (b : Int) : Bool := l.any fun r => (r.b == b) && s.contains r.a
def onP (l : List Rt) (s : List Int) (k : Nat) : List Int := ((List.range k).map fun i : Nat => (i : Int)).filter (leads l s)
theorem onP_4 (l : List Rt) (s : List Int) : onP l s 4 = onL l s := rfl
theorem onP_succ (l : List Rt) (s : List Int) (k : Nat) : onP l s (k + 1) = onP l s k ++ if leads l s k then [(k : Int)] else [] := by
 unfold onP
 rw [List.range_succ, List.map_append, List.filter_append]
 congr 1
 simp only [List.map_cons, List.map_nil, List.filter_cons, List.filter_nil]
theorem onP_len (l : List Rt) (s : List Int) (k : Nat) : (onP l s k).length ≤ k := by
 unfold onP
 refine Nat.le_trans (List.length_filter_le _ _) ?_
 simp
theorem l_on1 (m : Nat) (l : List Rt) (s : List Int) (hl : l.length ≤ 16) (hs : s.length ≤ 1000) (b : Nat) (hb4 : b < 4) (v5 : PV) (S : List PV) (hS : S.length = 45) (h0 : rd S 0 = .d (.slice (l.map Rt.D))) (h1 : rd S 1 = .d (.slice (s.map intD))) (h5 : rd S 5 = v5) (h6 : rd S 6 = .d (.int .i64 b)) (h7 : rd S 7 = .d (.bool false)) (h8 : rd S 8 = .d (.int .i64 0)) (J : Store) (k : Nat) (hk : l.length < k) :
  Lp (loopN (evCode E1 (evI E1) m (theLoop Tryz.f173 1)) k ⟨S, J⟩) fun r => ∃ (S' : List PV), r = (.exit 2, ⟨S', J⟩) ∧ S'.length = 45 ∧ rd S' 0 = .d (.slice (l.map Rt.D)) ∧ rd S' 1 = .d (.slice (s.map intD)) ∧ rd S' 5 = v5 ∧ rd S' 6 = .d (.int .i64 b) ∧ rd S' 7 = .d (.bool (leads l s b)) := by
 have hml : (l.map Rt.D).length = l.length := by simp
 refine loop_inv (fun i st => ∃ (S : List PV), st = ⟨S, J⟩ ∧ S.length = 45 ∧ rd S 0 = .d (.slice (l.map Rt.D)) ∧ rd S 1 = .d (.slice (s.map intD)) ∧ rd S 5 = v5 ∧ rd S 6 = .d (.int .i64 b) ∧ rd S 7 = .d (.bool (leads (l.take i) s b)) ∧ rd S 8 = .d (.int .i64 i)) _ l.length ?_ ?_ k 0 _ (by omega) (by omega) ⟨S, rfl, hS, h0, h1, h5, h6, h7, h8⟩
 ·rintro i st hi ⟨S, rfl, hS, h0, h1, h5, h6, h7, h8⟩
  have hlt : (i : Int) < (l.length : Int) := by omega
  have htk : leads (l.take (i + 1)) s b = (leads (l.take i) s b || ((l[i].b == (b : Int)) && s.contains l[i].a)) := by
   unfold leads; exact any_take hi
  have hx : (l.map Rt.D)[i]? = some (l[i]).D := by simp [hi]
  have c1 := fun σ => r_In12 s l[i].a hs σ
  rw [htk]
  clear htk
  generalize leads (l.take i) s b = z0 at h7 ⊢
  generalize l[i] = r at hx c1 ⊢
  obtain ⟨ra, rb, ⟨fe, mask, mt⟩, nn⟩ := r
  simp only [Rt.D] at hx c1 ⊢
  generalize s.contains ra = z at c1 ⊢
  generalize s.map intD = Sd at h1 c1 ⊢
  generalize l.map Rt.D = L at hx hml h0 ⊢
  obtain ⟨hi0, hx⟩ := List.getElem?_eq_some_iff.1 hx
  cases z0
  ·cases hc : (rb == (b : Int))
   ·simp [theLoop, Tryz.f173, loopsAll, Lp_some, and_assoc, -rd, rd_ne, rd_eq, hS, h0, h1, h5, h6, h7, h8, hlt, hi, hi0, hml, hx, hc, c1, wrap_succ i (by omega)]
    done
   ·simp [theLoop, Tryz.f173, loopsAll, Lp_some, and_assoc, -rd, rd_ne, rd_eq, hS, h0, h1, h5, h6, h7, h8, hlt, hi, hi0, hml, hx, hc, c1, wrap_succ i (by omega)]
    done
  ·simp [theLoop, Tryz.f173, loopsAll, Lp_some, and_assoc, -rd, rd_ne, rd_eq, hS, h0, h1, h5, h6, h7, h8, hlt, hi, hi0, hml, hx, c1, wrap_succ i (by omega)]
   done
 ·rintro st ⟨S, rfl, hS, h0, h1, h5, h6, h7, h8⟩
  rw [List.take_length] at h7
  generalize leads l s b = z at h7 ⊢
  generalize l.map Rt.D = L at hml h0 ⊢
  generalize s.map intD = Sd at h1 ⊢
  simp [theLoop, Tryz.f173, loopsAll, Lp_some, and_assoc, -rd, rd_ne, rd_eq, hS, h0, h1, h5, h6, h7, h8, hml]
  done
theorem l_on0 (m : Nat) (hm : 100 < m) (l : List Rt) (s : List Int) (hl : l.length ≤ 16) (hs : s.length ≤ 1000) (S : List PV) (hS : S.length = 45) (h0 : rd S 0 = .d (.slice (l.map Rt.D))) (h1 : rd S 1 = .d (.slice (s.map intD))) (h5 : rd S 5 = acc []) (h6 : rd S 6 = .d (.int .i64 0)) (J : Store) (k : Nat) (hk : 4 < k) :
  Lp (loopN (evCode E1 (evI E1) m (theLoop Tryz.f173 0)) k ⟨S, J⟩) fun r => ∃ (S' : List PV), r = (.exit 0, ⟨S', J⟩) ∧ S'.length = 45 ∧ rd S' 5 = acc ((onL l s).map intD) := by
 rw [← onP_4]
 refine loop_inv (fun b st => ∃ (S : List PV), st = ⟨S, J⟩ ∧ S.length = 45 ∧ rd S 0 = .d (.slice (l.map Rt.D)) ∧ rd S 1 = .d (.slice (s.map intD)) ∧ rd S 5 = acc ((onP l s b).map intD) ∧ rd S 6 = .d (.int .i64 b)) _ 4 ?_ ?_ k 0 _ (by omega) (by omega) ⟨S, rfl, hS, h0, h1, h5, h6⟩
 ·rintro b st hb ⟨S, rfl, hS, h0, h1, h5, h6⟩
  have hlt : (b : Int) < 4 := by omega
  have hloop := l_on1 m l s hl hs b hb
  have hA := onP_succ l s b
  have hp := onP_len l s b
  have happ := row_app (A := onP l s b) (B := [(b : Int)]) (by simp; omega)
  rw [hA]
  generalize onP l s b = A at h5 happ hA ⊢
  generalize leads l s b = z at hloop hA ⊢
  generalize l.map Rt.D = L at h0 hloop ⊢
  generalize s.map intD = Sd at h1 hloop ⊢
  simp only [List.map_cons, List.map_nil, intD] at happ
  clear hA
  cases z
  ·simp only [Bool.false_eq_true, if_false, List.append_nil]
   generalize A.map intD = A0 at h5 ⊢
   simp [theLoop, Tryz.f173, loopsAll, ec_loop, Lp_some, and_assoc, -rd, rd_ne, rd_eq, hS, h0, h1, h5, h6, hlt]
   generalize hLL : loopN _ _ _ = LL
   obtain ⟨r, rfl, S', rfl, hS', g0, g1, g5, g6, g7⟩ := at_loop hLL (hloop _ _ (by simp [hS]) (by simp [-rd, rd_ne, rd_eq, hS, h0]) (by simp [-rd, rd_ne, rd_eq, hS, h1]) (by simp [-rd, rd_ne, rd_eq, hS, h5]; rfl) (by simp [-rd, rd_ne, rd_eq, hS, h6]) (by simp [-rd, rd_ne, rd_eq, hS]) (by simp [-rd, rd_ne, rd_eq, hS]) J m (by omega))
   simp [Lp_some, and_assoc, -rd, rd_ne, rd_eq, hS', g0, g1, g5, g6, g7, wrap_succ b (by omega)]
   done
  ·simp only [if_true]
   generalize (A ++ [(b : Int)]).map intD = A1 at happ ⊢
   generalize A.map intD = A0 at h5 happ
   simp [theLoop, Tryz.f173, loopsAll, ec_loop, Lp_some, and_assoc, -rd, rd_ne, rd_eq, hS, h0, h1, h5, h6, hlt]
   generalize hLL : loopN _ _ _ = LL
   obtain ⟨r, rfl, S', rfl, hS', g0, g1, g5, g6, g7⟩ := at_loop hLL (hloop _ _ (by simp [hS]) (by simp [-rd, rd_ne, rd_eq, hS, h0]) (by simp [-rd, rd_ne, rd_eq, hS, h1]) (by simp [-rd, rd_ne, rd_eq, hS, h5]; rfl) (by simp [-rd, rd_ne, rd_eq, hS, h6]) (by simp [-rd, rd_ne, rd_eq, hS]) (by simp [-rd, rd_ne, rd_eq, hS]) J m (by omega))
   simp [Lp_some, and_assoc, -rd, rd_ne, rd_eq, rowsFrom, cellsOf, hS', g0, g1, g5, g6, g7, happ, wrap_succ b (by omega)]
   done
 ·rintro st ⟨S, rfl, hS, h0, h1, h5, h6⟩
  generalize (onP l s 4).map intD = A at h5 ⊢
  simp [theLoop, Tryz.f173, loopsAll, Lp_some, and_assoc, -rd, rd_ne, rd_eq, hS, h0, h1, h5, h6]
  done
theorem r_On (l : List Rt) (s : List Int) (hl : l.length ≤ 16) (hs : s.length ≤ 1000) (σ : Store) : callIt E1 (evI E1) 173 [.d (.slice (l.map Rt.D)), .d (.slice (s.map intD))] σ = some (.d (.slice ((onL l s).map intD)), σ) := by
 refine call_runF (fn := Tryz.f173) 101 rfl rfl rfl Tryz.func173 rfl rfl ?_
 have hloop := l_on0 101 (by omega) l s hl hs
 generalize (onL l s).map intD = A at hloop ⊢
 generalize l.map Rt.D = L at hloop ⊢
 generalize s.map intD = Sd at hloop ⊢
 simp [Tryz.f173, ec_loop, rowsFrom, acc_nil]
 generalize hLL : loopN _ _ _ = LL
 obtain ⟨r, rfl, S, rfl, hS, h5⟩ := at_loop hLL (hloop _ rfl rfl rfl rfl rfl _ 101 (by omega))
 simp [-rd, rd_ne, rd_eq, hS, h5]
end Go.Proofs

set_option maxRecDepth 100000
set_option maxHeartbeats 8000000
namespace Go.Proofs
open Go.RowKit Go.Shelf Go.Pv
theorem onL_len (l : List Rt) (s : List Int) : (onL l s).length ≤ 4 := by rw [← onP_4]; exact onP_len l s 4
theorem itOn_len (l : List Rt) (b : Int) : ∀ i, (itOn l i [b]).length ≤ 1000
 | 0 => by simp [itOn]
 | i + 1 => by rw [itOn_succ]; have := onL_len l (itOn l i [b]); omega
theorem l_rLoop1 (m : Nat) (l : List Rt) (K b : Nat) (hl : l.length ≤ 16) (hK : K ≤ 4) (hb : b < 4) (S : List PV) (hS : S.length = 30) (h0 : rd S 0 = .d (.slice (l.map Rt.D))) (h1 : rd S 1 = .d (.int .i64 K)) (h4 : rd S 4 = .d (.bool false)) (h5 : rd S 5 = .d (.int .i64 b)) (h6 : rd S 6 = acc [[.int .i64 b]]) (h7 : rd S 7 = .d (.int .i64 0)) (J : Store) (k : Nat) (hk : K < k) :
  Lp (loopN (evCode E1 (evI E1) m (theLoop Tryz.f122 1)) k ⟨S, J⟩) fun r => ∃ (S' : List PV), S'.length = 30 ∧ rd S' 0 = .d (.slice (l.map Rt.D)) ∧ rd S' 1 = .d (.int .i64 K) ∧ rd S' 5 = .d (.int .i64 b) ∧ rd S' 4 = .d (.bool false) ∧ ((r = (.exit 2, ⟨S', J⟩) ∧ noBack l b K [(b : Int)] = true) ∨ (r = (.ret, ⟨S', J⟩) ∧ noBack l b K [(b : Int)] = false)) := by
 refine loop_inv (fun i st => ∃ (S : List PV), st = ⟨S, J⟩ ∧ S.length = 30 ∧ noBack l b K [(b : Int)] = noBack l b (K - i) (itOn l i [(b : Int)]) ∧ rd S 0 = .d (.slice (l.map Rt.D)) ∧ rd S 1 = .d (.int .i64 K) ∧ rd S 4 = .d (.bool false) ∧ rd S 5 = .d (.int .i64 b) ∧ rd S 6 = (if i = 0 then acc [[.int .i64 b]] else .d (.slice ((itOn l i [(b : Int)]).map intD))) ∧ rd S 7 = .d (.int .i64 i)) _ K ?_ ?_ k 0 _ (by omega) (by omega) ⟨S, rfl, hS, rfl, h0, h1, h4, h5, by rw [if_pos rfl]; exact h6, h7⟩
 ·rintro i st hi ⟨S, rfl, hS, he, h0, h1, h4, h5, h6, h7⟩
  have hlt : (i : Int) < (K : Int) := by omega
  have hKi : K - i = (K - (i + 1)) + 1 := by omega
  have c1 := fun σ => r_On l (itOn l i [(b : Int)]) hl (itOn_len l b i) σ
  rw [← itOn_succ] at c1
  have c2 := fun σ => r_In12 (itOn l (i + 1) [(b : Int)]) b (itOn_len l b (i + 1)) σ
  rw [hKi, noBack, ← itOn_succ] at he
  rw [if_neg (by omega : ¬ i + 1 = 0)]
  generalize noBack l b (K - (i + 1)) (itOn l (i + 1) [(b : Int)]) = z1 at he ⊢
  generalize noBack l b K [(b : Int)] = z2 at he ⊢
  generalize (itOn l (i + 1) [(b : Int)]).contains (b : Int) = z at he c2
  generalize (itOn l (i + 1) [(b : Int)]).map intD = A1 at c1 c2 ⊢
  have hA0 : i = 0 → (itOn l i [(b : Int)]).map intD = [[.int .i64 b]] := by rintro rfl; rfl
  generalize (itOn l i [(b : Int)]).map intD = A0 at c1 h6 hA0
  generalize l.map Rt.D = L at h0 c1 ⊢
  by_cases hi0 : i = 0
  ·subst hi0
   rw [if_pos rfl] at h6
   have hA0 := hA0 rfl
   subst hA0
   simp only [acc] at h6
   have hst : (PV.os [[DV.int .i64 (b : Int)]]).strip.strip = .d (.slice [[.int .i64 b]]) := rfl
   cases z
   ·simp only [Bool.not_false, Bool.true_and] at he
    subst he
    simp [theLoop, Tryz.f122, loopsAll, Lp_some, and_assoc, -rd, rd_ne, rd_eq, hS, h0, h1, h4, h5, h6, h7, hlt, hi, hst, c1, c2, show IntKind.i64.wrap 1 = 1 from wrap_ok (by omega) (by omega)]
    done
   ·simp only [Bool.not_true, Bool.false_and] at he
    subst he
    simp [theLoop, Tryz.f122, loopsAll, Lp_some, and_assoc, -rd, rd_ne, rd_eq, hS, h0, h1, h4, h5, h6, h7, hlt, hi, hst, c1, c2]
    refine ⟨_, ?_, ?_, ?_, ?_, ?_, rfl⟩ <;> simp [-rd, rd_ne, rd_eq, hS, h0, h1, h4, h5]
  ·rw [if_neg hi0] at h6
   cases z
   ·simp only [Bool.not_false, Bool.true_and] at he
    subst he
    simp [theLoop, Tryz.f122, loopsAll, Lp_some, and_assoc, -rd, rd_ne, rd_eq, hS, h0, h1, h4, h5, h6, h7, hlt, hi, c1, c2, wrap_succ i (by omega)]
    done
   ·simp only [Bool.not_true, Bool.false_and] at he
    subst he
    simp [theLoop, Tryz.f122, loopsAll, Lp_some, and_assoc, -rd, rd_ne, rd_eq, hS, h0, h1, h4, h5, h6, h7, hlt, hi, c1, c2]
    refine ⟨_, ?_, ?_, ?_, ?_, ?_, rfl⟩ <;> simp [-rd, rd_ne, rd_eq, hS, h0, h1, h4, h5]
 ·rintro st ⟨S, rfl, hS, he, h0, h1, h4, h5, h6, h7⟩
  rw [Nat.sub_self] at he
  simp only [noBack] at he
  rw [he]
  generalize l.map Rt.D = L at h0 ⊢
  simp [theLoop, Tryz.f122, loopsAll, Lp_some, and_assoc, -rd, rd_ne, rd_eq, hS, h0, h1, h4, h5, h7]
  refine ⟨_, ?_, ?_, ?_, ?_, ?_, rfl⟩ <;> simp [-rd, rd_ne, rd_eq, hS, h0, h1, h4, h5]
theorem l_rLoop0 (m : Nat) (hm : 100 < m) (l : List Rt) (K : Nat) (hl : l.length ≤ 16) (hK : K ≤ 4) (S : List PV) (hS : S.length = 30) (h0 : rd S 0 = .d (.slice (l.map Rt.D))) (h1 : rd S 1 = .d (.int .i64 K)) (h4 : rd S 4 = .d (.bool false)) (h5 : rd S 5 = .d (.int .i64 0)) (J : Store) (k : Nat) (hk : K < k) :
  Lp (loopN (evCode E1 (evI E1) m (theLoop Tryz.f122 0)) k ⟨S, J⟩) fun r => ∃ (S' : List PV), S'.length = 30 ∧ ((r = (.exit 0, ⟨S', J⟩) ∧ (List.range K).all (fun b => noBack l (b : Int) K [(b : Int)]) = true) ∨ (r = (.ret, ⟨S', J⟩) ∧ rd S' 4 = .d (.bool false) ∧ (List.range K).all (fun b => noBack l (b : Int) K [(b : Int)]) = false)) := by
 refine loop_inv (fun i st => ∃ (S : List PV), st = ⟨S, J⟩ ∧ S.length = 30 ∧ (List.range i).all (fun b => noBack l (b : Int) K [(b : Int)]) = true ∧ rd S 0 = .d (.slice (l.map Rt.D)) ∧ rd S 1 = .d (.int .i64 K) ∧ rd S 4 = .d (.bool false) ∧ rd S 5 = .d (.int .i64 i)) _ K ?_ ?_ k 0 _ (by omega) (by omega) ⟨S, rfl, hS, rfl, h0, h1, h4, h5⟩
 ·rintro i st hi ⟨S, rfl, hS, he, h0, h1, h4, h5⟩
  have hlt : (i : Int) < (K : Int) := by omega
  have hloop := l_rLoop1 m l K i hl hK (by omega)
  have hs : (List.range (i + 1)).all (fun b => noBack l (b : Int) K [(b : Int)]) = noBack l i K [(i : Int)] := by
   rw [List.range_succ, List.all_append, he]; simp
  have hf : noBack l i K [(i : Int)] = false → (List.range K).all (fun b => noBack l (b : Int) K [(b : Int)]) = false := by
   intro h
   rw [List.all_eq_false]
   exact ⟨i, by simpa using hi, by simp [h]⟩
  rw [hs]
  clear he hs
  generalize (List.range K).all (fun b => noBack l (b : Int) K [(b : Int)]) = z2 at hf ⊢
  generalize noBack l i K [(i : Int)] = z1 at hf hloop ⊢
  generalize l.map Rt.D = L at h0 hloop ⊢
  simp [theLoop, Tryz.f122, loopsAll, ec_loop, rowsFrom, cellsOf, Lp_some, and_assoc, -rd, rd_ne, rd_eq, hS, h0, h1, h4, h5, hlt]
  generalize hLL : loopN _ _ _ = LL
  obtain ⟨r, rfl, S', hS', g0, g1, g5, g4, hr⟩ := at_loop hLL (hloop _ (by simp [hS]) (by simp [-rd, rd_ne, rd_eq, hS, h0]) (by simp [-rd, rd_ne, rd_eq, hS, h1]) (by simp [-rd, rd_ne, rd_eq, hS, h4]) (by simp [-rd, rd_ne, rd_eq, hS, h5]) (by simp [-rd, rd_ne, rd_eq, hS]) (by simp [-rd, rd_ne, rd_eq, hS]) J m (by omega))
  rcases hr with ⟨rfl, rfl⟩ | ⟨rfl, rfl⟩
  ·simp [Lp_some, and_assoc, -rd, rd_ne, rd_eq, hS', g0, g1, g4, g5, wrap_succ i (by omega)]
   done
  ·have h2 := hf rfl
   subst h2
   simp [Lp_some, and_assoc, -rd, rd_ne, rd_eq, hS', g0, g1, g4, g5]
   refine ⟨_, ?_, rfl, ?_⟩ <;> simp [-rd, rd_ne, rd_eq, hS', g4]
 ·rintro st ⟨S, rfl, hS, he, h0, h1, h4, h5⟩
  rw [he]
  generalize l.map Rt.D = L at h0 ⊢
  simp [theLoop, Tryz.f122, loopsAll, Lp_some, and_assoc, -rd, rd_ne, rd_eq, hS, h0, h1, h4, h5]
  done
theorem r_Loopless (l : List Rt) (K : Nat) (hwf : ∀ r ∈ l, r.f.wf) (σ : Store) : callIt E1 (evI E1) 122 [.d (.slice (l.map Rt.D)), .d (.int .i64 K)] σ = some (.d (.bool (loopless l K)), σ) := by
 refine call_run (fn := Tryz.f122) 101 rfl rfl rfl Tryz.func122 rfl rfl ?_ rfl
 rw [← refLoop_eq]
 unfold refLoop
 have c1 := fun σ => r_routeRight l K hwf σ
 cases hok : routesOk l K
 ·rw [hok] at c1
  generalize l.map Rt.D = L at c1 ⊢
  simp [Tryz.f122, ec_loop, c1]
 ·rw [hok] at c1
  obtain ⟨k1, k2, k3, _⟩ := routesOk_on hok
  have hloop := l_rLoop0 101 (by omega) l K k3 (by omega)
  rw [Int.toNat_natCast]
  generalize (List.range K).all (fun b => noBack l (b : Int) K [(b : Int)]) = z at hloop ⊢
  generalize l.map Rt.D = L at c1 hloop ⊢
  simp [Tryz.f122, ec_loop, c1]
  generalize hLL : loopN _ _ _ = LL
  obtain ⟨r, rfl, S, hS, hr⟩ := at_loop hLL (hloop _ rfl rfl rfl rfl rfl _ 101 (by omega))
  rcases hr with ⟨rfl, rfl⟩ | ⟨rfl, h4, rfl⟩
  ·simp [-rd, rd_ne, rd_eq, hS]
  ·simp [-rd, rd_ne, rd_eq, hS, h4, rd_el h4 (by omega)]
theorem l_rHops (m : Nat) (l : List Rt) (k : Int) (f : Fr) (hl : l.length ≤ 1000) (hn : ∀ r ∈ l, -1 ≤ r.n) (S : List PV) (hS : S.length = 57) (h0 : rd S 0 = .d (.slice (l.map Rt.D))) (h1 : rd S 1 = .d (.int .i64 k)) (h5 : rd S 5 = .ptr 0 0) (h7 : rd S 7 = acc []) (h8 : rd S 8 = .d (.int .i64 0)) (J : Store) (n : Nat) (hn' : l.length < n) :
  Lp (loopN (evCode E1 (evI E1) m (theLoop Tryz.f123 0)) n ⟨S, cellsOf f.P :: J⟩) fun r => ∃ (J : Store) (S' : List PV), r = (.exit 0, ⟨S', cellsOf f.P :: J⟩) ∧ S'.length = 57 ∧ rd S' 7 = acc ((hopsL l k f).map Hp.D) := by
 refine loop_inv (fun i st => ∃ (J : Store) (S : List PV), st = ⟨S, cellsOf f.P :: J⟩ ∧ S.length = 57 ∧ rd S 0 = .d (.slice (l.map Rt.D)) ∧ rd S 1 = .d (.int .i64 k) ∧ rd S 5 = .ptr 0 0 ∧ rd S 7 = acc ((hopsL (l.take i) k f).map Hp.D) ∧ rd S 8 = .d (.int .i64 i)) _ l.length ?_ ?_ n 0 _ (by omega) (by omega) ⟨J, S, rfl, hS, h0, h1, h5, h7, h8⟩
 ·rintro i st hi ⟨J, S, rfl, hS, h0, h1, h5, h7, h8⟩
  have hlt : (i : Int) < (l.length : Int) := by omega
  have htk := hopsL_succ l k f hi
  have hA0 : (hopsL (l.take i) k f).length ≤ i := Nat.le_trans (hopsL_len _ _ _) (by simp; omega)
  have hml : (l.map Rt.D).length = l.length := by simp
  have c1 := fun σ => r_takes l[i].f f σ
  have hx : (l.map Rt.D)[i]? = some (l[i]).D := by simp [hi]
  have hnr := hn l[i] (List.getElem_mem hi)
  have ha : ∀ h : Hp, evAppend Tryz.prog 98 (acc ((hopsL (l.take i) k f).map Hp.D)) (.d (.slice [h.D])) = some (acc ((hopsL (l.take i) k f ++ [h]).map Hp.D)) := fun h => appHp _ h (by omega)
  unfold Rt.hop at htk
  generalize hopsL (l.take (i + 1)) k f = A1 at htk ⊢
  generalize hopsL (l.take i) k f = A0 at htk ha h7
  generalize l[i] = r at htk c1 hx hnr
  obtain ⟨a, b, fl, nn⟩ := r
  simp only at htk c1 hx hnr
  generalize fl.takes f = tk at htk c1
  obtain ⟨fe, fid, frm, fln, fdata⟩ := f
  obtain ⟨le, mask, mt⟩ := fl
  generalize l.map Rt.D = L at hx hml h0 ⊢
  obtain ⟨hi0, hx⟩ := List.getElem?_eq_some_iff.1 hx
  simp only [Rt.D] at hx
  try simp at c1
  by_cases hak : a = k
  ·have hb : (a == k) = true := by simpa using hak
   cases tk
   ·simp at htk
    subst htk
    simp [theLoop, Tryz.f123, loopsAll, Lp_some, and_assoc, -rd, rd_ne, rd_eq, -loadS, -storeS, sfx_load0, sfx_load, sfx_store0, sfx_store, loadS_cons0, loadS_consS, storeS_cons0, storeS_consS, cellsOf, hS, h0, h1, h5, h7, h8, hlt, hi, hi0, hml, hx, hb, c1, wrap_succ i (by omega)]
    done
   ·by_cases hn1 : nn = -1
    ·have hb2 : ¬ (0 ≤ nn) := by omega
     simp only [hak, hn1, and_self, if_true, Option.toList_some] at htk
     have ha1 := ha ⟨b, ⟨fe, fid, frm, fln, fdata⟩⟩
     rw [← htk] at ha1
     simp only [Hp.D] at ha1
     clear htk ha
     generalize A1.map Hp.D = B1 at ha1 ⊢
     generalize A0.map Hp.D = B0 at ha1 h7
     simp [theLoop, Tryz.f123, loopsAll, Lp_some, and_assoc, -rd, rd_ne, rd_eq, -loadS, -storeS, sfx_load0, sfx_load, sfx_store0, sfx_store, loadS_cons0, loadS_consS, storeS_cons0, storeS_consS, cellsOf, hS, h0, h1, h5, h7, h8, hlt, hi, hi0, hml, hx, hb, hb2, c1, rowsFrom, ha1, wrap_succ i (by omega)]
     done
    ·have hb2 : 0 ≤ nn := by omega
     simp only [hak, hn1, and_self, if_true, if_false, Option.toList_some] at htk
     have ha1 := ha ⟨b, ⟨fe, nn, frm, fln, fdata⟩⟩
     rw [← htk] at ha1
     simp only [Hp.D] at ha1
     clear htk ha
     generalize A1.map Hp.D = B1 at ha1 ⊢
     generalize A0.map Hp.D = B0 at ha1 h7
     simp [theLoop, Tryz.f123, loopsAll, Lp_some, and_assoc, -rd, rd_ne, rd_eq, -loadS, -storeS, sfx_load0, sfx_load, sfx_store0, sfx_store, loadS_cons0, loadS_consS, storeS_cons0, storeS_consS, cellsOf, hS, h0, h1, h5, h7, h8, hlt, hi, hi0, hml, hx, hb, hb2, c1, rowsFrom, ha1, wrap_succ i (by omega)]
     done
  ·have hb : (a == k) = false := by simpa using hak
   simp [hak] at htk
   subst htk
   simp [theLoop, Tryz.f123, loopsAll, Lp_some, and_assoc, -rd, rd_ne, rd_eq, -loadS, -storeS, sfx_load0, sfx_load, sfx_store0, sfx_store, loadS_cons0, loadS_consS, storeS_cons0, storeS_consS, cellsOf, hS, h0, h1, h5, h7, h8, hlt, hi, hi0, hml, hx, hb, wrap_succ i (by omega)]
   done
 ·rintro st ⟨J, S, rfl, hS, h0, h1, h5, h7, h8⟩
  have hml : (l.map Rt.D).length = l.length := by simp
  rw [List.take_length] at h7
  generalize (hopsL l k f).map Hp.D = A at h7 ⊢
  generalize l.map Rt.D = L at hml h0 ⊢
  generalize cellsOf f.P = F
  simp [theLoop, Tryz.f123, loopsAll, Lp_some, and_assoc, -rd, rd_ne, rd_eq, hS, h0, h1, h5, h7, h8, hml]
  done
theorem r_hops (l : List Rt) (k : Int) (f : Fr) (hl : l.length ≤ 1000) (hn : ∀ r ∈ l, -1 ≤ r.n) (σ : Store) : callIt E1 (evI E1) 123 [.d (.slice (l.map Rt.D)), .d (.int .i64 k), f.P] σ = some (.d (.slice ((hopsL l k f).map Hp.D)), σ) := by
 refine call_runF (fn := Tryz.f123) 1001 rfl rfl rfl Tryz.func123 rfl rfl ?_
 have hloop := l_rHops 1001 l k f hl hn
 generalize hopsL l k f = A at hloop ⊢
 generalize l.map Rt.D = L at hloop ⊢
 simp only [cellsOf, Fr.P] at hloop ⊢
 simp [Tryz.f123, ec_loop, -loadS, -storeS, loadS_cons0, loadS_consS, storeS_cons0, storeS_consS, cellsOf, rowsFrom, acc_nil]
 generalize hLL : loopN _ _ _ = LL
 obtain ⟨r, rfl, J, S, rfl, hS, h7⟩ := at_loop hLL (hloop _ rfl rfl rfl rfl rfl rfl _ 1001 (by omega))
 generalize A.map Hp.D = B at h7 ⊢
 simp [-rd, rd_ne, rd_eq, hS, h7]
end Go.Proofs

set_option maxRecDepth 100000
set_option maxHeartbeats 8000000
namespace Go.Proofs
open Go.RowKit Go.Shelf Go.Pv
theorem r_gNew (l : List Rt) (k : Nat) (room : Int) (hl : l.length ≤ 2 ^ 40) (hwf : ∀ r ∈ l, r.f.wf) (σ : Store) : callIt E1 (evI E1) 111 [.d (.slice (l.map Rt.D)), .d (.int .i64 k), .d (.int .i64 room)] σ = some (.tup [(Gt.New l k room).1.P, .d (.int .i64 (Gt.New l k room).2)], σ) := by
 refine call_run2 (fn := Tryz.f111) 5 rfl rfl rfl rfl Tryz.func111 rfl rfl ?_
 have c1 := fun σ => r_routeRight l k hwf σ
 have c2 := fun σ => r_Loopless l k hwf σ
 unfold Gt.New
 cases hok : routesOk l k
 ·rw [hok] at c1
  try simp at c1
  simp only [if_true, Gt.P, gt0, List.map_nil]
  generalize l.map Rt.D = L at c1 ⊢
  simp [Tryz.f111, mkF, -loadS, -storeS, loadS_cons0, loadS_consS, storeS_cons0, storeS_consS, c1]
 ·rw [hok] at c1
  cases hlo : loopless l k
  ·rw [hlo] at c2
   try simp at c1
   try simp at c2
   simp only [Bool.true_eq_false, if_false, if_true, Gt.P, gt0, List.map_nil]
   generalize l.map Rt.D = L at c1 c2 ⊢
   simp [Tryz.f111, mkF, -loadS, -storeS, loadS_cons0, loadS_consS, storeS_cons0, storeS_consS, c1, c2]
  ·rw [hlo] at c2
   obtain ⟨k1, k2, k3, k4⟩ := routesOk_on hok
   simp only [Bool.true_eq_false, if_false]
   have ha : evAppend Tryz.prog 63 .e0 (.d (.slice (l.map Rt.D))) = some (acc (l.map Rt.D)) := by
    unfold evAppend
    rw [Ty.app63]
    have h2 : l.length * 48 ≤ roomB := by simp [roomB]; omega
    simp only [Option.bind_some, ownRows, elemsOf, rowsOk_Rt, show rowsOk 6 ([] : List (List DV)) = true from rfl, Bool.true_and, List.length_map, List.length_nil, Nat.zero_add, h2, decide_true, if_true, List.nil_append]
   have hmk1 : ∀ n : Nat, n ≤ 4 → evMakeD Tryz.prog 68 n n = some (.d (.slice (List.replicate n [.slice []]))) := by
    intro n hn
    unfold evMakeD
    rw [Ty.app68]
    simp [roomB]
    omega
   have hmk2 : ∀ n : Nat, n ≤ 4 → evMakeD Tryz.prog 39 n n = some (.d (.slice (List.replicate n [.int .i64 0]))) := by
    intro n hn
    unfold evMakeD
    rw [Ty.app39]
    simp [roomB]
    omega
   have hk1 := hmk1 k (by omega)
   have hk2 := hmk2 k (by omega)
   clear hmk1 hmk2 hok hlo k4
   try simp at c1
   try simp at c2
   by_cases h1 : room < 1
   ·rw [if_pos (.inl h1)]
    simp only [Gt.P, gt0, List.map_nil]
    generalize l.map Rt.D = L at c1 c2 ⊢
    simp [Tryz.f111, mkF, -loadS, -storeS, loadS_cons0, loadS_consS, storeS_cons0, storeS_consS, c1, c2, h1]
   ·by_cases h2 : room > 64
    ·rw [if_pos (.inr h2)]
     have h2' : 64 < room := h2
     simp only [Gt.P, gt0, List.map_nil]
     generalize l.map Rt.D = L at c1 c2 ⊢
     simp [Tryz.f111, mkF, -loadS, -storeS, loadS_cons0, loadS_consS, storeS_cons0, storeS_consS, c1, c2, h1, h2']
    ·rw [if_neg (by omega)]
     have h2' : ¬ 64 < room := h2
     have e1 : (List.replicate k ([] : List Fr)).map frsD = List.replicate k [.slice []] := by simp [frsD]
     have e2 : (List.replicate k (0 : Int)).map intD = List.replicate k [.int .i64 0] := by simp
     simp only [Gt.P, Int.toNat_natCast, e1, e2]
     generalize l.map Rt.D = L at c1 c2 ha ⊢
     simp [Tryz.f111, mkF, -loadS, -storeS, loadS_cons0, loadS_consS, storeS_cons0, storeS_consS, rowsFrom, acc_nil, c1, c2, h1, h2', ha, hk1, hk2]
def ndOdd (n : Nd) : Bool := !n.right
theorem l_rn1 (m : Nat) (L : List (List DV)) (row : List Nd) (i : Nat) (hx : L[i]? = some (ndsD row)) (hl : row.length ≤ 1000) (hw : ∀ n ∈ row, n.small ∧ ∀ f ∈ n.fs, f.wf) (x0 x1 x2 x3 x4 v1 v2 v8 : PV) (J : Store) (S : List PV) (hS : S.length = 95) (h0 : rd S 0 = .d (.slice L)) (h1 : rd S 1 = v1) (h2 : rd S 2 = v2) (h6 : rd S 6 = .ptr 0 0) (h8 : rd S 8 = v8) (h9 : rd S 9 = .d (.int .i64 i)) (h10 : rd S 10 = .d (.int .i64 0)) (k : Nat) (hk : row.length < k) :
  Lp (loopN (evCode E1 (evI E1) m (theLoop Tryz.f44 1)) k ⟨S, [x0, x1, x2, x3, x4] :: J⟩) fun r => ∃ (S' : List PV), S'.length = 95 ∧ rd S' 6 = .ptr 0 0 ∧ ((r = (.exit 2, ⟨S', [x0, x1, x2, x3, x4] :: J⟩) ∧ row.any ndOdd = false ∧ rd S' 0 = .d (.slice L) ∧ rd S' 1 = v1 ∧ rd S' 2 = v2 ∧ rd S' 8 = v8 ∧ rd S' 9 = .d (.int .i64 i)) ∨ (r = (.ret, ⟨S', [.e0, .e0, .d (.int .i64 0), .e0, .e0] :: J⟩) ∧ rd S' 7 = .d (.int .i64 1) ∧ row.any ndOdd = true)) := by
 obtain ⟨hb0, hx⟩ := List.getElem?_eq_some_iff.1 hx
 have hml : (row.map Nd.D).length = row.length := by simp
 refine loop_inv (fun j st => ∃ (S : List PV), st = ⟨S, [x0, x1, x2, x3, x4] :: J⟩ ∧ S.length = 95 ∧ (row.take j).any ndOdd = false ∧ rd S 0 = .d (.slice L) ∧ rd S 1 = v1 ∧ rd S 2 = v2 ∧ rd S 6 = .ptr 0 0 ∧ rd S 8 = v8 ∧ rd S 9 = .d (.int .i64 i) ∧ rd S 10 = .d (.int .i64 j)) _ row.length ?_ ?_ k 0 _ (by omega) (by omega) ⟨S, rfl, hS, rfl, h0, h1, h2, h6, h8, h9, h10⟩
 ·rintro j st hj ⟨S, rfl, hS, he, h0, h1, h2, h6, h8, h9, h10⟩
  have hlt : (j : Int) < (row.length : Int) := by omega
  have htk := any_take (p := ndOdd) hj
  rw [he, Bool.false_or] at htk
  have hall := any_of (p := ndOdd) hj
  have hy : (row.map Nd.D)[j]? = some (row[j]).D := by simp [hj]
  obtain ⟨⟨w1, w2, w3⟩, w4⟩ := hw _ (List.getElem_mem hj)
  have c1 := fun σ => r_RightNd row[j] (by omega) (by omega) (by omega) w4 σ
  generalize (row.take (j + 1)).any ndOdd = z1 at htk ⊢
  generalize row.any ndOdd = z2 at hall ⊢
  generalize row[j] = x at htk hall hy c1
  unfold ndOdd at htk hall
  generalize x.right = xr at htk hall c1
  obtain ⟨q, fs, ⟨ct, cr, cs, cz⟩, gg⟩ := x
  simp only [Nd.P] at c1
  simp only [ndsD] at hx
  simp only [Nd.D] at hy
  generalize row.map Nd.D = R at hx hml hy
  obtain ⟨hj0, hy⟩ := List.getElem?_eq_some_iff.1 hy
  try simp at c1
  clear he
  cases xr
  ·have h3 := hall rfl
   subst h3
   clear htk hall
   simp [theLoop, Tryz.f44, loopsAll, Lp_some, and_assoc, -rd, rd_ne, rd_eq, -loadS, -storeS, loadS_cons0, loadS_consS, storeS_cons0, storeS_consS, cellsOf, hS, h0, h1, h2, h6, h8, h9, h10, hlt, hj, hj0, hb0, hml, hx, hy, c1]
   exact ⟨_, by simp [hS], by simp [-rd, rd_ne, rd_eq, hS, h6], rfl, by simp [-rd, rd_ne, rd_eq, hS]⟩
  ·subst htk
   clear hall
   simp [theLoop, Tryz.f44, loopsAll, Lp_some, and_assoc, -rd, rd_ne, rd_eq, -loadS, -storeS, loadS_cons0, loadS_consS, storeS_cons0, storeS_consS, cellsOf, hS, h0, h1, h2, h6, h8, h9, h10, hlt, hj, hj0, hb0, hml, hx, hy, c1, wrap_succ j (by omega)]
   done
 ·rintro st ⟨S, rfl, hS, he, h0, h1, h2, h6, h8, h9, h10⟩
  rw [List.take_length] at he
  generalize row.any ndOdd = z at he ⊢
  subst he
  simp only [ndsD] at hx
  generalize row.map Nd.D = R at hx hml
  simp [theLoop, Tryz.f44, loopsAll, Lp_some, and_assoc, -rd, rd_ne, rd_eq, -loadS, -storeS, loadS_cons0, loadS_consS, hS, h0, h1, h2, h6, h8, h9, h10, hb0, hml, hx]
  refine ⟨_, ?_, ?_, rfl, ?_, ?_, ?_, ?_, ?_⟩ <;> simp [-rd, rd_ne, rd_eq, hS, h0, h1, h2, h6, h8, h9]
end Go.Proofs

set_option maxRecDepth 100000
set_option maxHeartbeats 8000000
namespace Go.Proofs
open Go.RowKit Go.Shelf Go.Pv
theorem r_ndNew0 (σ : Store) : callIt E1 (evI E1) 110 [.d (.slice [])] σ = some (.tup [own0.P, .d (.int .i64 0)], σ) := by
 have h := r_new [] (by simp) (by simp) σ
 simp only [List.map_nil] at h
 exact h
theorem appN0 (rows : List (List DV)) (h : rowsOk 7 rows = true) (hb : rows.length * 104 ≤ roomB) : evAppend Tryz.prog 22 .e0 (.d (.slice rows)) = some (acc rows) := by
 have := appN [] rows rfl h (by simpa using hb)
 rwa [acc_nil, List.nil_append] at this
theorem l_rn0 (m : Nat) (hm : 10 < m) (l : List (List Nd)) (hl : l.length ≤ 4) (hs : ∀ r ∈ l, r.length ≤ 1000) (hw : ∀ r ∈ l, ∀ n ∈ r, n.small ∧ ∀ f ∈ n.fs, f.wf) (x0 x1 x2 x3 x4 v1 v2 : PV) (S : List PV) (hS : S.length = 95) (h0 : rd S 0 = .d (.slice (l.map ndsD))) (h1 : rd S 1 = v1) (h2 : rd S 2 = v2) (h6 : rd S 6 = .ptr 0 0) (h8 : rd S 8 = .e0) (h9 : rd S 9 = .d (.int .i64 0)) (k : Nat) (hk : l.length < k) :
  Lp (loopN (evCode E1 (evI E1) m (theLoop Tryz.f44 0)) k ⟨S, [[x0, x1, x2, x3, x4]]⟩) fun r => ∃ (J : Store) (S' : List PV), S'.length = 95 ∧ rd S' 6 = .ptr 0 0 ∧ ((r = (.exit 0, ⟨S', [x0, x1, x2, x3, x4] :: J⟩) ∧ l.any wrongL = false ∧ rd S' 0 = .d (.slice (l.map ndsD)) ∧ rd S' 1 = v1 ∧ rd S' 2 = v2 ∧ rd S' 8 = Yf l l.length) ∨ (r = (.ret, ⟨S', [.e0, .e0, .d (.int .i64 0), .e0, .e0] :: J⟩) ∧ rd S' 7 = .d (.int .i64 1) ∧ l.any wrongL = true)) := by
 have hml : (l.map ndsD).length = l.length := by simp
 refine loop_inv (fun i st => ∃ (J : Store) (S : List PV), st = ⟨S, [x0, x1, x2, x3, x4] :: J⟩ ∧ S.length = 95 ∧ (l.take i).any wrongL = false ∧ rd S 0 = .d (.slice (l.map ndsD)) ∧ rd S 1 = v1 ∧ rd S 2 = v2 ∧ rd S 6 = .ptr 0 0 ∧ rd S 8 = Yf l i ∧ rd S 9 = .d (.int .i64 i)) _ l.length ?_ ?_ k 0 _ (by omega) (by omega) ⟨[], S, rfl, hS, rfl, h0, h1, h2, h6, h8, h9⟩
 ·rintro i st hi ⟨J, S, rfl, hS, he, h0, h1, h2, h6, h8, h9⟩
  have hlt : (i : Int) < (l.length : Int) := by omega
  have htk := any_take (p := wrongL) hi
  rw [he, Bool.false_or] at htk
  have hall := any_of (p := wrongL) hi
  have hx : (l.map ndsD)[i]? = some (ndsD l[i]) := by simp [hi]
  have hY : Yf l (i + 1) = acc (((l.take i).map ownIn).map ndsD ++ [[.slice (l[i].map Nd.D ++ [own0.D])]]) := by
   unfold Yf
   rw [if_neg (by omega), List.take_add_one, List.getElem?_eq_getElem hi]
   simp only [Option.toList_some, List.map_append, List.map_cons, List.map_nil]
   rw [show ndsD (ownIn l[i]) = [.slice (l[i].map Nd.D ++ [own0.D])] by unfold ndsD ownIn; rw [List.map_append]; rfl]
  have hn := r_ndNew0
  have hro : rowsOk 1 (((l.take i).map ownIn).map ndsD) = true := rowsOk_nds _
  have hrl : (((l.take i).map ownIn).map ndsD).length ≤ 4 := by simp; omega
  have hri : rowsOk 7 (l[i].map Nd.D) = true := rowsOk_Nd _
  have hrn := hs _ (List.getElem_mem hi)
  have hrw := hw _ (List.getElem_mem hi)
  have hmr : (l[i].map Nd.D).length = l[i].length := by simp
  generalize (l.take (i + 1)).any wrongL = z1 at htk ⊢
  generalize l.any wrongL = z2 at hall ⊢
  generalize l[i] = r at hx hY hri hrn hmr hrw htk hall
  have hloop := fun v8 x0 x1 x2 x3 x4 J => l_rn1 m (l.map ndsD) r i hx hrn hrw x0 x1 x2 x3 x4 v1 v2 v8 J
  have ha0 : evAppend Tryz.prog 22 .e0 (.d (.slice (r.map Nd.D))) = some (acc (r.map Nd.D)) := appN0 _ hri (by simp [roomB]; omega)
  have ha1 : evAppend Tryz.prog 22 (acc (r.map Nd.D)) (.d (.slice [own0.D])) = some (acc (r.map Nd.D ++ [own0.D])) := appN _ _ hri rfl (by simp [roomB]; omega)
  have ha2 : evAppend Tryz.prog 66 (Yf l i) (.d (.slice [[.slice (r.map Nd.D ++ [own0.D])]])) = some (Yf l (i + 1)) := by
   rw [hY]
   unfold Yf
   by_cases h0 : i = 0
   ·subst h0
    rw [if_pos rfl, appW0 _ rfl (by simp [roomB])]
    rfl
   ·rw [if_neg h0, appW _ _ hro rfl (by simp [roomB]; omega)]
  clear hY hro hrl
  obtain ⟨A1, hA1⟩ : ∃ A1, Yf l (i + 1) = acc A1 := ⟨_, if_neg (by omega)⟩
  rw [hA1] at ha2 ⊢
  generalize Yf l i = Y0 at ha2 h8 ⊢
  unfold wrongL at htk hall
  have hany : (r.any fun n => !n.right) = r.any ndOdd := rfl
  rw [hany] at htk hall
  generalize r.any ndOdd = ro at htk hall hloop
  generalize l.map ndsD = L at hx h0 hml hloop ⊢
  obtain ⟨hi0, hx⟩ := List.getElem?_eq_some_iff.1 hx
  simp only [ndsD] at hx
  generalize r.map Nd.D = R at hx hri hmr ha0 ha1 ha2
  simp only [own0, Nd.D, List.map_nil] at ha1 ha2
  simp [own0] at hn
  have hi1 : i + 1 ≠ 0 := by omega
  clear he
  cases hc1 : decide ((r.length : Int) < 1)
  ·cases hc2 : decide ((r.length : Int) ≥ 8)
   ·rw [hc1, hc2, Bool.false_or, Bool.false_or] at htk hall
    have hc1' : ¬ ((r.length : Int) < 1) := of_decide_eq_false hc1
    have hc2' : ¬ (8 ≤ (r.length : Int)) := of_decide_eq_false hc2
    have hc3 : ¬ (8 ≤ r.length) := by omega
    have hc4 : r ≠ [] := by intro h; rw [h] at hc1'; simp at hc1'
    simp [theLoop, Tryz.f44, loopsAll, ec_loop, Lp_some, and_assoc, -rd, rd_ne, rd_eq, -loadS, -storeS, loadS_cons0, loadS_consS, storeS_cons0, storeS_consS, cellsOf, hS, h0, h1, h2, h6, h8, h9, hlt, hi, hi0, hx, hml, hmr, hc1, hc2, hc1', hc2', hc3, hc4]
    generalize hLL : loopN _ _ _ = LL
    obtain ⟨rr, rfl, S', hS', g6, hr'⟩ := at_loop hLL (hloop _ _ _ _ _ _ _ _ (by simp [hS]) (by simp [-rd, rd_ne, rd_eq, hS, h0]) (by simp [-rd, rd_ne, rd_eq, hS, h1]) (by simp [-rd, rd_ne, rd_eq, hS, h2]) (by simp [-rd, rd_ne, rd_eq, hS, h6]) (by simp [-rd, rd_ne, rd_eq, hS, h8]; rfl) (by simp [-rd, rd_ne, rd_eq, hS, h9]) (by simp [-rd, rd_ne, rd_eq, hS]) m (by omega))
    rcases hr' with ⟨rfl, rfl, g0, g1, g2, g8, g9⟩ | ⟨rfl, g7, rfl⟩
    ·subst htk
     simp [Lp_some, and_assoc, -rd, rd_ne, rd_eq, -loadS, -storeS, loadS_cons0, loadS_consS, storeS_cons0, storeS_consS, sfx_load0, sfx_load, sfx_store0, sfx_store, cellsOf, rowsFrom, acc_nil, hS', g0, g1, g2, g6, g8, g9, hi, hi0, hx, hml, hn, ha0, ha1, ha2, wrap_succ i (by omega)]
     done
    ·have h2 := hall rfl
     subst h2
     simp [Lp_some, and_assoc, -rd, rd_ne, rd_eq, hS', g6, g7]
     exact ⟨_, _, hS', g6, rfl, rfl, g7⟩
   ·have h3 := hall (by rw [hc2]; simp)
    subst h3
    have hc1' : ¬ ((r.length : Int) < 1) := of_decide_eq_false hc1
    have hc2' : 8 ≤ (r.length : Int) := of_decide_eq_true hc2
    have hc3 : 8 ≤ r.length := by omega
    have hc4 : r ≠ [] := by intro h; rw [h] at hc1'; simp at hc1'
    clear htk hall hloop
    simp [theLoop, Tryz.f44, loopsAll, ec_loop, Lp_some, and_assoc, -rd, rd_ne, rd_eq, -loadS, -storeS, loadS_cons0, loadS_consS, storeS_cons0, storeS_consS, cellsOf, hS, h0, h1, h2, h6, h8, h9, hlt, hi, hi0, hx, hml, hmr, hc1, hc2, hc1', hc2', hc3, hc4]
    refine ⟨J, _, ?_, ?_, rfl, ?_⟩ <;> simp [-rd, rd_ne, rd_eq, hS, h6]
  ·have h3 := hall (by rw [hc1]; simp)
   subst h3
   have hc1' : (r.length : Int) < 1 := of_decide_eq_true hc1
   have hc3 : r.length < 1 := by omega
   have hc4 : r.length = 0 := by omega
   rw [hc4] at hmr
   clear htk hall hloop
   simp [theLoop, Tryz.f44, loopsAll, ec_loop, Lp_some, and_assoc, -rd, rd_ne, rd_eq, -loadS, -storeS, loadS_cons0, loadS_consS, storeS_cons0, storeS_consS, cellsOf, hS, h0, h1, h2, h6, h8, h9, hlt, hi, hi0, hx, hml, hmr]
   refine ⟨J, _, ?_, ?_, rfl, ?_⟩ <;> simp [-rd, rd_ne, rd_eq, hS, h6]
 ·rintro st ⟨J, S, rfl, hS, he, h0, h1, h2, h6, h8, h9⟩
  rw [List.take_length] at he
  generalize l.any wrongL = z at he ⊢
  subst he
  generalize Yf l l.length = Y0 at h8 ⊢
  generalize l.map ndsD = L at hml h0 ⊢
  simp [theLoop, Tryz.f44, loopsAll, Lp_some, and_assoc, -rd, rd_ne, rd_eq, -loadS, -storeS, loadS_cons0, loadS_consS, hS, h0, h1, h2, h6, h8, h9, hml]
  refine ⟨J, _, ?_, ?_, rfl, ?_, ?_, ?_, ?_⟩ <;> simp [-rd, rd_ne, rd_eq, hS, h0, h1, h2, h6, h8]
theorem r_netNew (l : List (List Nd)) (r : List Rt) (room : Int) (hs : ∀ x ∈ l, x.length ≤ 1000) (hw : ∀ x ∈ l, ∀ n ∈ x, n.small ∧ ∀ f ∈ n.fs, f.wf) (hr : r.length ≤ 2 ^ 40) (hwf : ∀ x ∈ r, x.f.wf) (σ : Store) :
  callIt E1 (evI E1) 44 [.d (.slice (l.map ndsD)), .d (.slice (r.map Rt.D)), .d (.int .i64 room)] σ = some (.tup [(Nt.New l r room).1.P, .d (.int .i64 (Nt.New l r room).2)], σ) := by
 refine call_run (fn := Tryz.f44) 1001 rfl rfl rfl Tryz.func44 rfl rfl ?_ rfl
 unfold Nt.New
 have hml : (l.map ndsD).length = l.length := by simp
 cases h1 : decide ((l.length : Int) < 1)
 ·have h1' : ¬ ((l.length : Int) < 1) := of_decide_eq_false h1
  cases h2 : decide ((l.length : Int) > 4)
  ·have h2' : ¬ (4 < (l.length : Int)) := of_decide_eq_false h2
   have h3' : ¬ (4 < l.length) := by omega
   have h4' : l ≠ [] := by intro h; rw [h] at h1'; simp at h1'
   have hl : l.length ≤ 4 := by omega
   have c2 := fun σ => r_gNew r l.length room hr hwf σ
   have hloop := l_rn0 1001 (by omega) l hl hs hw
   have hY : Yf l l.length = acc ((l.map ownIn).map ndsD) := by
    unfold Yf
    rw [if_neg (by omega), List.take_length]
   rw [hY] at hloop
   generalize Gt.New r l.length room = G at c2 ⊢
   obtain ⟨g, e⟩ := G
   simp only at c2 ⊢
   try simp at c2
   clear hY
   cases h3 : l.any wrongL
   ·simp only [h1', h2', Bool.false_or, Bool.false_eq_true, if_false, decide_false]
    rw [h3] at hloop
    by_cases he : e = 0
    ·subst he
     simp only [ne_eq, not_true, if_false, Nt.P, not_true_eq_false, Gt.P]
     try simp only [Gt.P] at c2
     generalize (l.map ownIn).map ndsD = M at hloop ⊢
     generalize l.map ndsD = L at hml hloop ⊢
     generalize r.map Rt.D = R at c2 ⊢
     generalize g.rs.map Rt.D = p1 at c2 ⊢
     generalize g.out.map frsD = p3 at c2 ⊢
     generalize g.lost.map intD = p4 at c2 ⊢
     simp (maxSteps := 2000000) [Tryz.f44, ec_loop, -loadS, -storeS, loadS_cons0, loadS_consS, storeS_cons0, storeS_consS, cellsOf, hml, h1, h2, h1', h2', h3', h4']
     generalize hLL : loopN _ _ _ = LL
     obtain ⟨rr, rfl, J, S, hS, g6, hr'⟩ := at_loop hLL (hloop _ _ _ _ _ (.d (.slice R)) (.d (.int .i64 room)) _ rfl rfl rfl rfl rfl rfl rfl 1001 (by omega))
     rcases hr' with ⟨rfl, _, g0, g1, g2, g8⟩ | ⟨rfl, g7, hf⟩
     ·simp [-rd, rd_ne, rd_eq, -loadS, -storeS, loadS_cons0, loadS_consS, storeS_cons0, storeS_consS, sfx_load0, sfx_load, sfx_store0, sfx_store, cellsOf, hS, g6, g0, g1, g2, g8, hml, c2, rd_el g6 (by omega)]
      done
     ·exact absurd hf (by simp)
    ·have he2 : (e != 0) = true := by simpa using he
     simp only [ne_eq, he, not_false_eq_true, if_true, nt0, gt0, Nt.P, List.map_nil]
     (try simp only [Gt.P] at c2); (try simp only [Gt.P])
     generalize (l.map ownIn).map ndsD = M at hloop ⊢
     generalize l.map ndsD = L at hml hloop ⊢
     generalize r.map Rt.D = R at c2 ⊢
     generalize g.rs.map Rt.D = p1 at c2 ⊢
     generalize g.out.map frsD = p3 at c2 ⊢
     generalize g.lost.map intD = p4 at c2 ⊢
     simp (maxSteps := 2000000) [Tryz.f44, ec_loop, -loadS, -storeS, loadS_cons0, loadS_consS, storeS_cons0, storeS_consS, cellsOf, hml, h1, h2, h1', h2', h3', h4']
     generalize hLL : loopN _ _ _ = LL
     obtain ⟨rr, rfl, J, S, hS, g6, hr'⟩ := at_loop hLL (hloop _ _ _ _ _ (.d (.slice R)) (.d (.int .i64 room)) _ rfl rfl rfl rfl rfl rfl rfl 1001 (by omega))
     rcases hr' with ⟨rfl, _, g0, g1, g2, g8⟩ | ⟨rfl, g7, hf⟩
     ·simp [-rd, rd_ne, rd_eq, -loadS, -storeS, loadS_cons0, loadS_consS, storeS_cons0, storeS_consS, sfx_load0, sfx_load, sfx_store0, sfx_store, cellsOf, hS, g6, g0, g1, g2, g8, hml, c2, he2, rd_el g6 (by omega)]
      done
     ·exact absurd hf (by simp)
   ·simp only [Bool.or_true, if_true, nt0, gt0, Nt.P, Gt.P, List.map_nil]
    rw [h3] at hloop
    clear c2
    generalize (l.map ownIn).map ndsD = M at hloop ⊢
    generalize l.map ndsD = L at hml hloop ⊢
    generalize r.map Rt.D = R at ⊢
    simp (maxSteps := 2000000) [Tryz.f44, ec_loop, -loadS, -storeS, loadS_cons0, loadS_consS, storeS_cons0, storeS_consS, cellsOf, hml, h1, h2, h1', h2', h3', h4']
    generalize hLL : loopN _ _ _ = LL
    obtain ⟨rr, rfl, J, S, hS, g6, hr'⟩ := at_loop hLL (hloop _ _ _ _ _ (.d (.slice R)) (.d (.int .i64 room)) _ rfl rfl rfl rfl rfl rfl rfl 1001 (by omega))
    rcases hr' with ⟨rfl, hf, g0, g1, g2, g8⟩ | ⟨rfl, g7, hf⟩
    ·exact absurd hf (by simp)
    ·simp [-rd, rd_ne, rd_eq, -loadS, -storeS, loadS_cons0, loadS_consS, storeS_cons0, storeS_consS, sfx_load0, sfx_load, sfx_store0, sfx_store, cellsOf, hS, g6, g7, rd_el g6 (by omega), rd_el g7 (by omega)]
     done
  ·have h2' : 4 < (l.length : Int) := of_decide_eq_true h2
   have h3' : 4 < l.length := by omega
   have h4' : l ≠ [] := by intro h; rw [h] at h1'; simp at h1'
   simp only [h1', h2', Bool.true_or, Bool.or_true, if_true, decide_true, nt0, gt0, Nt.P, Gt.P, List.map_nil]
   generalize l.map ndsD = L at hml ⊢
   generalize r.map Rt.D = R at ⊢
   simp (maxSteps := 2000000) [Tryz.f44, ec_loop, -loadS, -storeS, loadS_cons0, loadS_consS, storeS_cons0, storeS_consS, cellsOf, hml, h1, h2, h1', h2', h3', h4']
   done
 ·have h1' : (l.length : Int) < 1 := of_decide_eq_true h1
  have h0 : l.length = 0 := by omega
  rw [h0] at hml
  simp only [Bool.true_or, if_true, nt0, gt0, Nt.P, Gt.P, List.map_nil]
  generalize l.map ndsD = L at hml ⊢
  generalize r.map Rt.D = R at ⊢
  simp [Tryz.f44, -loadS, -storeS, loadS_cons0, loadS_consS, storeS_cons0, storeS_consS, cellsOf, hml]
  done
end Go.Proofs

set_option maxRecDepth 100000
set_option maxHeartbeats 8000000
namespace Go.Proofs
open Go.RowKit Go.Shelf Go.Pv
theorem flat_frs : ∀ (rows : List (List Fr)), flatD (rows.map frsD) = rows.map rowP
 | [] => rfl
 | r :: rows => by rw [List.map_cons, flatD, flat_frs rows]; rfl
theorem s_with {σ : Store} (rows : List (List Fr)) (hn : rows.length ≤ 1000) (k : Nat) (hk : k < rows.length) (row' : List Fr) (outP : PV) (hout : RowsAt σ outP rows) (a b : DV) (g3 : PV) (o3 : oneP g3 = true) (s3 : g3.strip1 = g3) (t3 : g3.strip = g3) (p3 : g3.keep0 = g3) (k3 : cellsOf g3 = [g3]) :
  ∃ X : Store, evI E1 202 [.agg [.d a, .d b, outP, g3], .d (.int .i64 k), .d (.slice (row'.map Fr.D))] σ = some (.agg [.d a, .d b, .ms (σ.length + 2) 0 rows.length 1, g3], σ ++ X) ∧ X[2]? = some ((rows.set k row').map rowP) := by
 refine ⟨[[.d a, .d b, outP, g3], [.d a, .d b, .ms (σ.length + 2) 0 rows.length 1, g3], (rows.set k row').map rowP], ?_, rfl⟩
 refine evI_run2 (fn := Tryz.f202) (rows.length + 1) rfl rfl Tryz.func202 rfl ?_ (by simp)
 have hne : rows ≠ [] := by intro h; rw [h] at hk; simp at hk
 have hmk : ∀ A B : List PV, mkApp Tryz.prog 68 (σ ++ [A, B]) .e0 outP = some (.ms (σ.length + 2) 0 rows.length 1, σ ++ [A, B, rows.map rowP]) := by
  intro A B
  rcases hout with rfl | ⟨id, rfl, hid⟩
  ·have := mkApp_ne (P := Tryz.prog) Ty.app68 (rows.map frsD) (by simpa using hne) (rowsOk_frs rows) (by simp [roomB]; omega) (σ ++ [A, B])
   rw [this, flat_frs]
   simp
  ·have hld : loadS (σ ++ [A, B]) id 0 (rows.length * 1) = some (rows.map rowP) := by
    unfold loadS
    rw [pre_get hid]
    simp only [Option.bind_some, List.length_map, Nat.zero_add, Nat.mul_one, Nat.le_refl, if_true, List.drop_zero]
    rw [List.take_of_length_le (by simp)]
   have hst : (rows.map rowP).map PV.strip1 = rows.map rowP := by simp [rowP, PV.strip1, Function.comp_def]
   have hal : (rows.map rowP).all oneP = true := by simp [rowP, oneP]
   have hro : rows.length * 24 ≤ roomB := by simp [roomB]; omega
   have hpos : 0 < rows.length := by omega
   simp only [mkApp, Ty.app68, ownRows, hld, hst, hal, hro, hpos, Option.bind_some, List.isEmpty_nil, Bool.true_and, Bool.and_self, decide_true, if_true, List.length_append, List.length_cons, List.length_nil, List.append_assoc, List.cons_append, List.nil_append]
 have hts : (rows.map rowP).take k ++ rowP row' :: (rows.map rowP).drop (k + 1) = (rows.set k row').map rowP := by
  rw [List.map_set, List.set_eq_take_append_cons_drop, if_pos (by simpa using hk)]
 have hml : (rows.map rowP).length = rows.length := by simp
 have hkI : (k : Int) < (rows.length : Int) := by omega
 have hk1 : k + 1 ≤ rows.length := hk
 obtain ⟨oc1, oc2, oc3, oc4⟩ : oneP outP = true ∧ outP.strip1 = outP ∧ outP.strip = outP ∧ outP.keep0 = outP := by
  rcases hout with rfl | ⟨id, rfl, _⟩ <;> exact ⟨rfl, rfl, rfl, rfl⟩
 clear hout hne
 generalize (rows.set k row').map rowP = RR at hts ⊢
 generalize rows.map rowP = RP at hmk hts hml
 simp only [rowP] at hts
 generalize row'.map Fr.D = RD at hts ⊢
 have k3' := k3
 unfold cellsOf at k3'
 simp [Tryz.f202, mkF, evMkApp, -loadS, -storeS, sfx_load0, sfx_load, sfx_store0, sfx_store, loadS_cons0, loadS_consS, storeS_cons0, storeS_consS, rowsFrom, acc_nil, cellsOf, hmk, hts, hml, hk, hk1, hkI, o3, oc1, s3, oc2, t3, oc3, p3, oc4, k3']
 done
end Go.Proofs

set_option maxRecDepth 100000
set_option maxHeartbeats 8000000
namespace Go.Proofs
open Go.RowKit Go.Shelf Go.Pv
theorem c_with {σ : Store} (rows : List (List Fr)) (hn : rows.length ≤ 1000) (k : Nat) (hk : k < rows.length) (row' : List Fr) (outP : PV) (hout : RowsAt σ outP rows) (a b : DV) (g3 : PV) (o3 : oneP g3 = true) (s3 : g3.strip1 = g3) (t3 : g3.strip = g3) (p3 : g3.keep0 = g3) (k3 : cellsOf g3 = [g3]) :
  ∃ X : Store, callIt E1 (evI E1) 202 [.agg [.d a, .d b, outP, g3], .d (.int .i64 k), .d (.slice (row'.map Fr.D))] σ = some (.agg [.d a, .d b, .ms (σ.length + 2) 0 rows.length 1, g3], σ ++ X) ∧ X[2]? = some ((rows.set k row').map rowP) := by
 obtain ⟨X, h1, h2⟩ := s_with rows hn k hk row' outP hout a b g3 o3 s3 t3 p3 k3
 refine ⟨X, call_ptr rfl rfl rfl h1 ?_ ?_, h2⟩
 ·simp [PV.isData, isDataL]
 ·simp only [PV.strip, List.map_cons, List.map_nil, s3]
  rfl
theorem appF0 (B : List Fr) (h : B.length ≤ 100000) : evAppend Tryz.prog 44 .e0 (.d (.slice (B.map Fr.D))) = some (acc (B.map Fr.D)) := by
 have := app22 [] (B.map Fr.D) rfl (rowsOk_Fr B) (by simp [roomB]; omega)
 rwa [acc_nil, List.nil_append] at this
theorem l_rgin (m : Nat) (g : Gt) (hg : g.ok) (l : List Hp) (hl : l.length ≤ 16) (hb : ∀ h ∈ l, 0 ≤ h.b ∧ h.b < (g.out.length : Int)) (B1 B2 : List PV) (S : List PV) (hS : S.length = 71) (h3 : rd S 3 = .ptr 0 0) (h6 : rd S 6 = .ptr 2 0) (h13 : rd S 7 = .d (.slice (l.map Hp.D))) (h15 : rd S 8 = .d (.int .i64 0)) (k : Nat) (hk : l.length < k) :
  Lp (loopN (evCode (E2 164) (evI E1) m (theLoop Tryz.f164 0)) k ⟨S, [cellsOf g.P, B1, B2]⟩) fun r => ∃ (outP lostP : PV) (J : Store) (S' : List PV), r = (.exit 0, ⟨S', [.d (.slice (g.rs.map Rt.D)), .d (.int .i64 g.cap), outP, lostP] :: B1 :: B2 :: J⟩) ∧ S'.length = 71 ∧ rd S' 3 = .ptr 0 0 ∧ rd S' 6 = .ptr 2 0 ∧ RowsJ J outP (l.foldl Gt.put g).out ∧ IntsJ J lostP (l.foldl Gt.put g).lost := by
 refine loop_inv (fun i st => ∃ (outP lostP : PV) (J : Store) (S : List PV), st = ⟨S, [.d (.slice (g.rs.map Rt.D)), .d (.int .i64 g.cap), outP, lostP] :: B1 :: B2 :: J⟩ ∧ S.length = 71 ∧ rd S 3 = .ptr 0 0 ∧ rd S 6 = .ptr 2 0 ∧ rd S 7 = .d (.slice (l.map Hp.D)) ∧ rd S 8 = .d (.int .i64 i) ∧ RowsJ J outP ((l.take i).foldl Gt.put g).out ∧ IntsJ J lostP ((l.take i).foldl Gt.put g).lost) _ l.length ?_ ?_ k 0 _ (by omega) (by omega) ⟨_, _, [], S, rfl, hS, h3, h6, h13, h15, .inl rfl, .inl rfl⟩
 ·rintro i st hi ⟨outP, lostP, J, S, rfl, hS, h3, h6, h13, h15, hout, hlost⟩
  have hlt : (i : Int) < (l.length : Int) := by omega
  have htk := puts_take g l hi
  obtain ⟨p1, p2, p3, p4⟩ := puts_ok (l.take i) hg (fun h hh => hb h (List.mem_of_mem_take hh))
  have hbi := hb _ (List.getElem_mem hi)
  have hx : (l.map Hp.D)[i]? = some (l[i]).D := by simp [hi]
  rw [htk]
  clear htk
  generalize (l.take i).foldl Gt.put g = gi at p1 p2 p3 p4 hout hlost ⊢
  rw [← p2] at hbi
  generalize l[i] = h at hx hbi ⊢
  obtain ⟨b, ⟨e, id, rm, ln, data⟩⟩ := h
  simp only at hbi
  have hb0 : 0 ≤ b := hbi.1
  have hbn : b.toNat < gi.out.length := by omega
  have hrow : gi.row b = gi.out[b.toNat] := by simp [Gt.row, hbn, List.getD]
  have hrl := p1.row _ (List.getElem_mem hbn)
  have hml : (l.map Hp.D).length = l.length := by simp
  have lk : cellsOf lostP = [lostP] := by rcases hlost with rfl | ⟨_, rfl, _⟩ <;> rfl
  have lk' := lk
  unfold cellsOf at lk'
  generalize l.map Hp.D = L at hx hml h13 ⊢
  obtain ⟨hi0, hx⟩ := List.getElem?_eq_some_iff.1 hx
  simp only [Hp.D] at hx
  obtain ⟨lc1, lc2, lc3, lc4⟩ := hlost.cell
  obtain ⟨oc1, oc2, oc3, oc4⟩ := hout.cell
  have hw := wrap_succ i (by omega)
  have hx1 : (gi.out.map frsD)[b.toNat]? = some (frsD gi.out[b.toNat]) := by simp [hbn]
  have hy1 : (gi.out.map rowP)[b.toNat]? = some (rowP gi.out[b.toNat]) := by simp [hbn]
  by_cases hroom : (gi.out[b.toNat].length : Int) < g.cap
  ·have hput : gi.put ⟨b, (Fr.mk e id rm ln data)⟩ = { gi with out := gi.out.set b.toNat (gi.out[b.toNat] ++ [Fr.mk e id rm ln data]) } := by
    unfold Gt.put
    rw [hrow, p4, if_pos hroom]
   rw [hput]
   simp only
   clear hput
   obtain ⟨X, c1, c2⟩ := c_with (σ := [.d (.slice (g.rs.map Rt.D)), .d (.int .i64 g.cap), outP, lostP] :: B1 :: B2 :: J) gi.out (by have := p1.n; omega) b.toNat hbn (gi.out[b.toNat] ++ [Fr.mk e id rm ln data]) outP hout.at (.slice (g.rs.map Rt.D)) (.int .i64 g.cap) lostP lc1 lc2 lc3 lc4 lk
   have ha0 := appF0 gi.out[b.toNat] (by omega)
   have ha1 := appF1 gi.out[b.toNat] (Fr.mk e id rm ln data) (by omega)
   simp only [Fr.D] at ha1
   have hnl : (gi.out.set b.toNat (gi.out[b.toNat] ++ [Fr.mk e id rm ln data])).length = gi.out.length := by simp
   rw [Int.toNat_of_nonneg hb0] at c1
   simp only [List.length_cons] at c1
   generalize gi.out.set b.toNat (gi.out[b.toNat] ++ [Fr.mk e id rm ln data]) = out' at c2 hnl ⊢
   have hlen : gi.out[b.toNat].length = (gi.out[b.toNat].map Fr.D).length := by simp
   generalize hAA : (gi.out[b.toNat] ++ [Fr.mk e id rm ln data]).map Fr.D = AA at c1 ha1
   generalize gi.out[b.toNat] = row at hx1 hy1 hroom hrl hlen ha0 ha1 hAA
   clear hAA
   have hfin : RowsJ (J ++ X) (.ms (J.length + 5) 0 gi.out.length 1) out' := .inr ⟨J.length + 2, by rw [hnl], by
    rw [List.getElem?_append_right (by omega), show J.length + 2 - J.length = 2 by omega]
    exact c2⟩
   have hfin2 : IntsJ (J ++ X) lostP gi.lost := hlost.app
   generalize gi.lost = lo at hlost hfin2 ⊢
   have hno := p1.n
   clear p1 p2 p3 p4 hrow hb hg hl
   rcases hout with rfl | ⟨j, rfl, hj⟩
   ·generalize gi.out.map frsD = O at hx1 c1 ⊢
    obtain ⟨hi1, hx1⟩ := List.getElem?_eq_some_iff.1 hx1
    simp only [frsD] at hx1
    try simp at c1
    simp [theLoop, Tryz.f164, mkF, loopsAll, Lp_some, and_assoc, -rd, rd_set, -loadS, -storeS, sfx_load0, sfx_load, sfx_store0, sfx_store, loadS_cons0, loadS_consS, storeS_cons0, storeS_consS, hS, h3, h6, h13, h15, hlt, hi0, hx, hw, hb0, hi1, hx1, hroom, lc1, lc2, lc3, lc4, lk', hml, hi, rowsFrom, acc_nil, cellsOf, ha0, ha1, c1]
    exact ⟨hfin, hfin2⟩
   ·have hld := loadS_one hj hy1
    simp only [rowP] at hld
    try simp at c1
    simp [theLoop, Tryz.f164, mkF, loopsAll, Lp_some, and_assoc, -rd, rd_set, -loadS, -storeS, sfx_load0, sfx_load, sfx_store0, sfx_store, loadS_cons0, loadS_consS, storeS_cons0, storeS_consS, hS, h3, h6, h13, h15, hlt, hi0, hx, hw, hb0, hbn, hbi.2, hld, hroom, lc1, lc2, lc3, lc4, lk', hml, hi, rowsFrom, acc_nil, cellsOf, ha0, ha1, c1]
    exact ⟨hfin, hfin2⟩
  ·have hput : gi.put ⟨b, (Fr.mk e id rm ln data)⟩ = { gi with lost := gi.lost.set b.toNat (IntKind.i64.wrap (hAtL gi.lost b + 1)) } := by
    unfold Gt.put
    rw [hrow, p4, if_neg hroom]
   rw [hput]
   simp only
   clear hput
   have hlb : b.toNat < gi.lost.length := by rw [p1.lo]; exact hbn
   have hll : gi.lost.length ≤ 4 := by rw [p1.lo]; exact p1.n
   have hat : hAtL gi.lost b = gi.lost[b.toNat] := by simp [hAtL, List.getD, hlb]
   rw [hat]
   have hne : gi.lost ≠ [] := by intro h; rw [h] at hlb; simp at hlb
   have hfin : RowsJ (J ++ [(gi.lost.set b.toNat (IntKind.i64.wrap (gi.lost[b.toNat] + 1))).map intP1]) outP gi.out := hout.app
   have hfin2 : IntsJ (J ++ [(gi.lost.set b.toNat (IntKind.i64.wrap (gi.lost[b.toNat] + 1))).map intP1]) (.ms (J.length + 3) 0 gi.lost.length 1) (gi.lost.set b.toNat (IntKind.i64.wrap (gi.lost[b.toNat] + 1))) := .inr ⟨J.length, by simp, by simp⟩
   have hfl : ∀ l : List Int, flatD (l.map intD) = l.map intP1 := by
    intro l
    induction l with
    | nil => rfl
    | cons x xs ih => simp only [List.map_cons, flatD, ih]; rfl
   have hmk : ∀ (b0 b1 b2 : List PV), mkApp Tryz.prog 39 (b0 :: b1 :: b2 :: J) .e0 lostP = some (.ms (J.length + 3) 0 gi.lost.length 1, b0 :: b1 :: b2 :: (J ++ [gi.lost.map intP1])) := by
    intro b0 b1 b2
    rcases hlost with rfl | ⟨j, rfl, hj⟩
    ·have he : (gi.lost.map intD).isEmpty = false := by cases hq : gi.lost with
      | nil => exact absurd hq hne
      | cons x xs => rfl
     have hro : gi.lost.length * 8 ≤ roomB := by simp [roomB]; omega
     simp only [mkApp, Ty.app39, ownRows, elemsOf, rowsOk_int, List.length_map, hro, he, hfl, Option.bind_some, List.isEmpty_nil, Bool.true_and, decide_true, if_true, Bool.false_eq_true, if_false, List.length_cons, List.length_append, List.length_nil, List.cons_append, List.append_assoc, List.nil_append]
    ·have hld : loadS (b0 :: b1 :: b2 :: J) (j + 3) 0 (gi.lost.length * 1) = some (gi.lost.map intP1) := by
      rw [loadS_consS, loadS_consS, loadS_consS]
      unfold loadS
      rw [hj]
      simp only [Option.bind_some, List.length_map, Nat.zero_add, Nat.mul_one, Nat.le_refl, if_true, List.drop_zero]
      rw [List.take_of_length_le (by simp)]
     have hst : (gi.lost.map intP1).map PV.strip1 = gi.lost.map intP1 := by simp [intP1, PV.strip1, Function.comp_def]
     have hal : (gi.lost.map intP1).all oneP = true := by simp [intP1, oneP]
     have hro : gi.lost.length * 8 ≤ roomB := by simp [roomB]; omega
     have hpos : 0 < gi.lost.length := by omega
     simp only [mkApp, Ty.app39, ownRows, hld, hst, hal, hro, hpos, Option.bind_some, List.isEmpty_nil, Bool.true_and, Bool.and_self, decide_true, if_true, List.length_cons, List.length_append, List.length_nil, List.cons_append, List.append_assoc, List.nil_append]
   have hdt : ((gi.lost.map intP1).drop b.toNat).take 1 = [.d (.int .i64 gi.lost[b.toNat])] := by
    rw [List.drop_eq_getElem_cons (by simpa using hlb)]
    simp [intP1]
   have hts : ∀ x : Int, (gi.lost.map intP1).take b.toNat ++ PV.d (.int .i64 x) :: (gi.lost.map intP1).drop (b.toNat + 1) = (gi.lost.set b.toNat x).map intP1 := by
    intro x
    rw [List.map_set, List.set_eq_take_append_cons_drop, if_pos (by simpa using hlb)]
    rfl
   have hLl : (gi.lost.map intP1).length = gi.lost.length := by simp
   have hts1 := hts (IntKind.i64.wrap (gi.lost[b.toNat] + 1))
   have hlen : gi.out[b.toNat].length = (gi.out[b.toNat].map Fr.D).length := by simp
   generalize gi.out[b.toNat] = row at hx1 hy1 hroom hrl hlen
   generalize (gi.lost.set b.toNat (IntKind.i64.wrap (gi.lost[b.toNat] + 1))).map intP1 = LP' at hts1 hfin hfin2
   generalize gi.lost.map intP1 = LP at hmk hdt hts1 hLl
   clear hat hne hlost hts
   generalize gi.lost[b.toNat] = lb at hdt hts1 hfin2 ⊢
   generalize gi.lost.set b.toNat (IntKind.i64.wrap (lb + 1)) = lo' at hfin2 ⊢
   generalize gi.lost.length = ll at hmk hfin2 hlb hLl hll
   have hlb1 : b.toNat + 1 ≤ ll := hlb
   have hblI : b < (ll : Int) := by omega
   clear p1 p2 p3 p4 hrow hb hg hl hfl
   rcases hout with rfl | ⟨j, rfl, hj⟩
   ·generalize gi.out.map frsD = O at hx1 hfin ⊢
    obtain ⟨hi1, hx1⟩ := List.getElem?_eq_some_iff.1 hx1
    simp only [frsD] at hx1
    simp [theLoop, Tryz.f164, mkF, evMkApp, hmk, hdt, hts1, hLl, hlb, hlb1, hblI, hbi.2, loopsAll, Lp_some, and_assoc, -rd, rd_set, -loadS, -storeS, sfx_load0, sfx_load, sfx_store0, sfx_store, loadS_cons0, loadS_consS, storeS_cons0, storeS_consS, hS, h3, h6, h13, h15, hlt, hi0, hx, hw, hb0, hi1, hx1, hroom, lc1, lc2, lc3, lc4, lk', hml, hi, rowsFrom, acc_nil, cellsOf]
    exact ⟨hfin, hfin2⟩
   ·have hld := loadS_one hj hy1
    simp only [rowP] at hld
    simp [theLoop, Tryz.f164, mkF, evMkApp, hmk, hdt, hts1, hLl, hlb, hlb1, hblI, hbi.2, loopsAll, Lp_some, and_assoc, -rd, rd_set, -loadS, -storeS, sfx_load0, sfx_load, sfx_store0, sfx_store, loadS_cons0, loadS_consS, storeS_cons0, storeS_consS, hS, h3, h6, h13, h15, hlt, hi0, hx, hw, hb0, hbn, hbi.2, hld, hroom, lc1, lc2, lc3, lc4, lk', hml, hi, rowsFrom, acc_nil, cellsOf]
    exact ⟨hfin, hfin2⟩
 ·rintro st ⟨outP, lostP, J, S, rfl, hS, h3, h6, h13, h15, hout, hlost⟩
  rw [List.take_length] at hout hlost
  simp [theLoop, Tryz.f164, mkF, loopsAll, Lp_some, and_assoc, -rd, rd_set, hS, h3, h6, h13, h15]
  exact ⟨hout, hlost⟩
theorem r_gIn (g : Gt) (hg : g.ok) (hn : ∀ r ∈ g.rs, -1 ≤ r.n) (k : Int) (f : Fr) (σ : Store) : callIt E1 (evI E1) 164 [g.P, .d (.int .i64 k), f.P] σ = some ((g.In k f).P, σ) := by
 refine call_run2 (fn := Tryz.f164) 17 rfl rfl rfl rfl Tryz.func164 rfl rfl ?_
 have c1 := fun σ => r_hops g.rs k f (by have := hg.rs; omega) hn σ
 have hlen : (hopsL g.rs k f).length ≤ 16 := Nat.le_trans (hopsL_len _ _ _) hg.rs
 have hloop := l_rgin 17 g hg (hopsL g.rs k f) hlen (hops_b hg k f)
 obtain ⟨q1, q2, q3, q4⟩ := puts_ok (hopsL g.rs k f) hg (hops_b hg k f)
 have hout : (g.In k f).P = .agg [.d (.slice (g.rs.map Rt.D)), .d (.int .i64 g.cap), .d (.slice (((hopsL g.rs k f).foldl Gt.put g).out.map frsD)), .d (.slice (((hopsL g.rs k f).foldl Gt.put g).lost.map intD))] := by
  unfold Gt.In
  rw [Gt.P, q3, q4]
 rw [hout]
 clear hout q1 q2 q3 q4
 generalize (hopsL g.rs k f).foldl Gt.put g = gf at hloop ⊢
 generalize (hopsL g.rs k f).map Hp.D = H at c1 hloop
 generalize (hopsL g.rs k f).length = hl at hloop hlen
 simp only [cellsOf, Gt.P] at hloop ⊢
 try simp at c1
 simp [Tryz.f164, mkF, ec_loop, -loadS, -storeS, loadS_cons0, loadS_consS, storeS_cons0, storeS_consS, cellsOf, c1]
 generalize hLL : loopN _ _ _ = LL
 obtain ⟨r, rfl, outP, lostP, J, S, rfl, hS, h3, h6, hr, hlo⟩ := at_loop hLL (hloop _ _ _ rfl rfl rfl rfl rfl 17 (by omega))
 have h6' := rd_el h6 (by omega)
 obtain ⟨lc1, lc2, lc3, lc4⟩ := hlo.cell
 obtain ⟨oc1, oc2, oc3, oc4⟩ := hr.cell
 have hfz := fun (A B C : List PV) (n : Nat) => frz_gate (σ := A :: B :: C :: J) (a := .slice (g.rs.map Rt.D)) (b := .int .i64 g.cap) hr.at hlo.at n
 rcases hr with rfl | ⟨j, rfl, hj⟩
 ·rcases hlo with rfl | ⟨j2, rfl, hj2⟩
  ·simp [mkF, -rd, rd_ne, rd_eq, -loadS, -storeS, loadS_cons0, loadS_consS, storeS_cons0, storeS_consS, hS, h3, h6, h6']
   done
  ·simp [mkF, -rd, rd_ne, rd_eq, -loadS, -storeS, loadS_cons0, loadS_consS, storeS_cons0, storeS_consS, hS, h3, h6, h6']
   exact hfz _ _ _ (J.length + 2)
 ·rcases hlo with rfl | ⟨j2, rfl, hj2⟩
  ·simp [mkF, -rd, rd_ne, rd_eq, -loadS, -storeS, loadS_cons0, loadS_consS, storeS_cons0, storeS_consS, hS, h3, h6, h6']
   exact hfz _ _ _ (J.length + 2)
  ·simp [mkF, -rd, rd_ne, rd_eq, -loadS, -storeS, loadS_cons0, loadS_consS, storeS_cons0, storeS_consS, hS, h3, h6, h6']
   exact hfz _ _ _ (J.length + 2)
theorem r_gDone (g : Gt) (k : Nat) (hk : k < g.out.length) (hn : g.out.length ≤ 1000) (hr : ∀ r ∈ g.out, r.length ≤ 1000) (σ : Store) : callIt E1 (evI E1) 201 [g.P, .d (.int .i64 k)] σ = some ((g.Done k).P, σ) := by
 have c1 := fun σ => r_gNext g k hk σ
 have hrow : g.row (k : Int) = g.out[k] := by unfold Gt.row; rw [Int.toNat_natCast, List.getD_eq_getElem?_getD, List.getElem?_eq_getElem hk]; rfl
 have hhas : g.has k = !(g.out[k]).isEmpty := by
  unfold Gt.has
  rw [hrow]
  have h0 : decide ((k : Int) ≥ 0) = true := by simp
  have h1 : decide ((k : Int) < (g.out.length : Int)) = true := by simp; omega
  rw [h0, h1]
  cases hx : g.out[k] with
  | nil => rfl
  | cons x r => simp
 unfold Gt.Next at c1
 unfold Gt.Done
 rw [hhas, hrow] at c1
 rw [hhas, hrow]
 have hrk := hr _ (List.getElem_mem hk)
 obtain ⟨rs, cap, out, lost⟩ := g
 simp only at hk hn hrow hhas c1 hrk ⊢
 have hml : (out.map frsD).length = out.length := by simp
 have hkI : (k : Int) < (out.length : Int) := by omega
 have hx : (out.map frsD)[k]? = some (frsD out[k]) := by simp [hk]
 cases hrw : out[k] with
 | nil =>
  rw [hrw] at c1 hx
  refine call_run2 (fn := Tryz.f201) 17 rfl rfl rfl rfl Tryz.func201 rfl rfl ?_
  simp only [List.isEmpty_nil, Bool.not_true, Bool.false_eq_true, if_false, Gt.P, fr0, Fr.P, List.map_nil] at c1 ⊢
  generalize out.map frsD = O at c1 ⊢
  generalize rs.map Rt.D = R at c1 ⊢
  generalize lost.map intD = LO at c1 ⊢
  try simp at c1
  simp [Tryz.f201, mkF, -loadS, -storeS, loadS_cons0, loadS_consS, storeS_cons0, storeS_consS, cellsOf, c1]
  done
 | cons f r =>
  rw [hrw] at c1 hx hrk
  refine call_run2 (fn := Tryz.f201) 17 rfl rfl rfl rfl Tryz.func201 rfl rfl ?_
  obtain ⟨fe, fid, frm, fln, fda⟩ := f
  obtain ⟨X, w1, w2⟩ := c_with (σ := [[.d (.slice (rs.map Rt.D)), .d (.int .i64 cap), .d (.slice (out.map frsD)), .d (.slice (lost.map intD))], [.e0, .d (.int .i64 0), .e0, .e0], [.d (.bool fe), .d (.int .i64 fid), .d (.bool frm), .d (.int .i64 fln), .d (.slice (fda.map byD))]]) out hn k hk r (.d (.slice (out.map frsD))) (.inl rfl) (.slice (rs.map Rt.D)) (.int .i64 cap) (.d (.slice (lost.map intD))) rfl rfl rfl rfl rfl
  have hfz := fun (A B C : List PV) (m : Nat) => frz_gate (σ := A :: B :: C :: X) (a := .slice (rs.map Rt.D)) (b := .int .i64 cap) (p := .ms 5 0 (out.set k r).length 1) (q := .d (.slice (lost.map intD))) (rows := out.set k r) (l := lost) (.inr ⟨5, rfl, w2⟩) (.inl rfl) m
  have hsl : (out.set k r).length = out.length := by simp
  rw [hsl] at hfz
  have ha0 := appF0 r (by simp at hrk; omega)
  have hmr : (r.map Fr.D).length = r.length := by simp
  have hro : ∀ a : List DV, a ∈ r.map Fr.D → a.length = 5 := fun a ha => by obtain ⟨y, _, rfl⟩ := List.mem_map.1 ha; rfl
  simp only [List.isEmpty_cons, Bool.not_false, if_true, List.headD_cons, List.tail_cons, Gt.P, Fr.P, Int.toNat_natCast] at c1 ⊢
  simp only [frsD, List.map_cons, Fr.D] at hx
  simp only [List.length_cons, List.length_nil] at w1
  generalize (out.set k r).map frsD = O2 at hfz ⊢
  generalize out.map frsD = O at c1 hx hml w1 ⊢
  generalize rs.map Rt.D = R at c1 w1 hfz ⊢
  generalize lost.map intD = LO at c1 w1 hfz ⊢
  generalize r.map Fr.D = RW at hx ha0 w1 hmr hro
  obtain ⟨hi0, hx⟩ := List.getElem?_eq_some_iff.1 hx
  try simp at c1
  try simp at w1
  simp [Tryz.f201, mkF, -loadS, -storeS, loadS_cons0, loadS_consS, storeS_cons0, storeS_consS, cellsOf, rowsFrom, acc_nil, hml, hkI, hk, hi0, hx, hmr, ha0, c1, w1]
  rw [if_pos hro]
  simp [mkF, -loadS, -storeS, loadS_cons0, loadS_consS, storeS_cons0, storeS_consS, cellsOf, rowsFrom, acc_nil, ha0, w1]
  exact hfz _ _ _ _
end Go.Proofs

set_option maxRecDepth 100000
set_option maxHeartbeats 8000000
namespace Go.Proofs
open Go.RowKit Go.Shelf Go.Pv
structure Nt.idle (n : Nt) : Prop where
 nodes : ∀ r ∈ n.bs, ∀ x ∈ r, x.q = [] ∧ x.c = c0
 out : ∀ r ∈ n.g.out, r = []
theorem Nt.idle.row {n : Nt} (h : n.idle) (k : Int) : n.g.row k = [] := by
 unfold Gt.row
 rw [List.getD_eq_getElem?_getD]
 cases hx : n.g.out[k.toNat]? with
 | none => rfl
 | some r => exact h.out _ (List.mem_of_getElem? hx)
theorem set_nd_self {l : List Nd} {i : Nat} (hi : i < l.length) : l.set i (nd l i) = l := by rw [nd_get hi]; exact List.set_getElem_self hi
theorem row1_no {n : Nt} {k : Nat} (h0 : rw_ n.bs k ≠ []) (h : relays n.g k (n.own k) = false) : n.row1 k = rw_ n.bs k := by
 have hp := List.length_pos_iff.2 h0
 have : ownOf n.g k (n.own k) = n.own k := by unfold ownOf; rw [h]; rfl
 unfold Nt.row1
 rw [this]
 exact set_nd_self (by omega)
theorem gateOf_no {g : Gt} {k : Nat} {own : Nd} (h : relays g k own = false) : gateOf g k own = g := by unfold gateOf; rw [h]; rfl
theorem set_rw_self {l : List (List Nd)} {k : Nat} (hk : k < l.length) : l.set k (rw_ l k) = l := by rw [rw_get hk]; exact List.set_getElem_self hk
end Go.Proofs

set_option maxRecDepth 100000
set_option maxHeartbeats 8000000
namespace Go.Proofs
open Go.RowKit Go.Shelf Go.Pv
theorem offer_no {n : Nt} {k : Nat} (h0 : rw_ n.bs k ≠ []) (hk : k < n.bs.length) (h : relays n.g k (n.own k) = false) : n.offer k = n := by
 unfold Nt.offer
 rw [row1_no h0 h, gateOf_no h, set_rw_self hk]
theorem r_offer {n : Nt} (h : n.fits) {k : Nat} (hk : k < n.bs.length) (hko : k < n.g.out.length) (σ : Store) : callIt E1 (evI E1) 163 [n.P, .d (.int .i64 k)] σ = some ((n.offer k).P, σ) := by
 have hm := h.mem hk
 obtain ⟨h0, h1, h2, h3⟩ := h.rows _ hm
 have hp := List.length_pos_iff.2 h0
 have hor : (n.own k).right = true := h2 _ (nd_mem (by omega))
 have hoq := ((Nd.right_iff _).1 hor).1.1
 have c1 := fun σ => r_gNext n.g k hko σ
 have c2 := fun f σ => r_Send (n.own k) f (by omega) σ
 have c3 := fun x σ => r_one (rw_ n.bs k) ((rw_ n.bs k).length - 1) (by omega) (by omega) x σ
 have c4 := fun r σ => r_With n k hk (by have := h.few; omega) r σ
 have c5 := fun σ => r_gDone n.g k hko (by have := h.gt.n; omega) (fun r hr => by have := h.gt.row r hr; omega) σ
 have hno := offer_no h0 hk
 have hml : (n.bs.map ndsD).length = n.bs.length := by simp
 have hx : (n.bs.map ndsD)[k]? = some (ndsD (rw_ n.bs k)) := by rw [rw_get hk]; simp [hk]
 have hown : n.own k = nd (rw_ n.bs k) ((rw_ n.bs k).length - 1) := rfl
 have hy : ((rw_ n.bs k).map Nd.D)[(rw_ n.bs k).length - 1]? = some (n.own k).D := by rw [hown, nd_get (by omega)]; simp [show (rw_ n.bs k).length - 1 < (rw_ n.bs k).length by omega]
 have hmr : ((rw_ n.bs k).map Nd.D).length = (rw_ n.bs k).length := by simp
 have hw : IntKind.i64.wrap (((rw_ n.bs k).length : Int) - 1) = (((rw_ n.bs k).length - 1 : Nat) : Int) := by rw [wrap_ok (by omega) (by omega)]; omega
 have hkI : (k : Int) < (n.bs.length : Int) := by omega
 have hoff : relays n.g k (n.own k) = true → n.offer k = ⟨n.bs.set k ((rw_ n.bs k).set ((rw_ n.bs k).length - 1) ((n.own k).Send (n.g.Next k).1).1), n.g.Done k⟩ := by
  intro hr
  unfold Nt.offer Nt.row1 ownOf gateOf
  rw [hr]; rfl
 have hrel : relays n.g k (n.own k) = ((n.g.Next k).2 && (((n.own k).q.length : Int) == 0) && ((n.own k).c.s != 3)) := rfl
 have ha : (rw_ n.bs k).length - 1 < (rw_ n.bs k).length := by omega
 have haI : (((rw_ n.bs k).length - 1 : Nat) : Int) < ((rw_ n.bs k).length : Int) := by omega
 refine call_run (fn := Tryz.f163) 17 rfl rfl rfl Tryz.func163 rfl rfl ?_ rfl
 generalize n.own k = own at c2 hy hown hno hoff hrel hor hoq
 generalize n.g.Next k = nx at c1 hoff hrel
 obtain ⟨nf, ni⟩ := nx
 simp only at c1 hoff hrel
 have c2 := c2 nf
 generalize own.Send nf = sn at c2 hoff
 obtain ⟨own', e⟩ := sn
 simp only at c2 hoff
 have c3 := c3 own'
 have c4 := c4 ((rw_ n.bs k).set ((rw_ n.bs k).length - 1) own')
 clear hown h h0 h1 h2 h3 hm hp hor hoq
 obtain ⟨oq, of_, ⟨ot, or_, os, oz⟩, og⟩ := own
 simp only at hrel hoff
 have hmq : (oq.map Fr.D).length = oq.length := by simp
 have hmod : ∀ {A : Nt} , n.offer k = A → (n.offer k).P = A.P := fun h => by rw [h]
 cases hr : relays n.g k ⟨oq, of_, ⟨ot, or_, os, oz⟩, og⟩
 ·rw [hno hr]
  rw [hr] at hrel
  clear hno hoff hmod c2 c3 c4 c5
  obtain ⟨bs, ⟨rs, cap, out, lost⟩⟩ := n
  simp only [Nt.P, Gt.P] at *
  generalize rw_ bs k = row at *
  generalize bs.map ndsD = B at *
  generalize rs.map Rt.D = R at *
  generalize out.map frsD = O at *
  generalize lost.map intD = LO at *
  simp only [ndsD, Nd.D] at hx hy
  generalize oq.map Fr.D = Q at *
  generalize row.map Nd.D = RW at *
  obtain ⟨hi0, hx⟩ := List.getElem?_eq_some_iff.1 hx
  obtain ⟨hi1, hy⟩ := List.getElem?_eq_some_iff.1 hy
  try simp at c1
  cases oq with
  | nil =>
   simp only [List.length_nil] at hmq hrel
   by_cases hs : os = 3
   ·have hsI : (os == 3) = true := by simpa using hs
    simp [Tryz.f163, -loadS, -storeS, loadS_cons0, loadS_consS, storeS_cons0, storeS_consS, cellsOf, hml, hmr, hmq, hw, hkI, hk, ha, haI, hi0, hi1, hx, hy, c1, hsI]
    done
   ·have hsI : (os == 3) = false := by simpa using hs
    have hni : ni = false := by
     have : (os != 3) = true := by simpa using hs
     rw [this] at hrel
     simpa using hrel.symm
    subst hni
    simp [Tryz.f163, -loadS, -storeS, loadS_cons0, loadS_consS, storeS_cons0, storeS_consS, cellsOf, hml, hmr, hmq, hw, hkI, hk, ha, haI, hi0, hi1, hx, hy, c1, hsI]
    done
  | cons f q =>
   have hqI : (0 : Int) < (((f :: q).length : Nat) : Int) := by simp
   have hqN : 0 < (f :: q).length := by simp
   generalize (f :: q).length = ql at hmq hqI hqN hrel
   simp [Tryz.f163, -loadS, -storeS, loadS_cons0, loadS_consS, storeS_cons0, storeS_consS, cellsOf, hml, hmr, hmq, hw, hkI, hk, ha, haI, hi0, hi1, hx, hy, c1, hqI, hqN]
   done
 ·rw [hoff hr]
  rw [hr] at hrel
  have hrel := hrel.symm
  rw [Bool.and_eq_true, Bool.and_eq_true] at hrel
  obtain ⟨⟨rfl, r2⟩, r3⟩ := hrel
  have hq0 : oq.length = 0 := by have := eq_of_beq r2; omega
  have hsI : (os == 3) = false := by simpa using r3
  rw [hq0] at hmq
  clear hno hoff hmod hr
  generalize (rw_ n.bs k).set ((rw_ n.bs k).length - 1) own' = row' at c3 c4 ⊢
  generalize hbs' : n.bs.set k row' = bs' at c4 ⊢
  generalize hgd : n.g.Done k = gd at c5 ⊢
  obtain ⟨bs, ⟨rs, cap, out, lost⟩⟩ := n
  obtain ⟨drs, dcap, dout, dlost⟩ := gd
  simp only [Nt.P, Gt.P] at *
  clear hbs' hgd
  generalize rw_ bs k = row at *
  generalize bs.map ndsD = B at *
  generalize bs'.map ndsD = B' at *
  generalize rs.map Rt.D = R at *
  generalize out.map frsD = O at *
  generalize lost.map intD = LO at *
  generalize drs.map Rt.D = DR at *
  generalize dout.map frsD = DO at *
  generalize dlost.map intD = DL at *
  simp only [ndsD, Nd.D] at hx hy
  simp only [Nd.P] at c2 c3
  generalize row'.map Nd.D = RW' at *
  generalize oq.map Fr.D = Q at *
  generalize row.map Nd.D = RW at *
  obtain ⟨hi0, hx⟩ := List.getElem?_eq_some_iff.1 hx
  obtain ⟨hi1, hy⟩ := List.getElem?_eq_some_iff.1 hy
  obtain ⟨nfe, nfid, nfrm, nfln, nfda⟩ := nf
  simp only [Fr.P, Nd.P] at *
  try simp at c1
  try simp at c2
  try simp at c3
  try simp at c4
  try simp at c5
  simp (maxSteps := 3000000) [Tryz.f163, -loadS, -storeS, loadS_cons0, loadS_consS, storeS_cons0, storeS_consS, cellsOf, hml, hmr, hmq, hw, hkI, hk, ha, haI, hi0, hi1, hx, hy, c1, c2, c3, c4, c5, hsI]
  done
end Go.Proofs

set_option maxRecDepth 100000
set_option maxHeartbeats 8000000
namespace Go.Proofs
open Go.RowKit Go.Shelf Go.Pv
theorem Take_cons {n : Nd} {y : Fr} {r : List Fr} (h : n.g = y :: r) : n.Take = ({ n with g := r }, y, true) := by
 unfold Nd.Take
 rw [h]
theorem l_rslot (m : Nat) (Bs : List (List DV)) (g : Gt) (hok : g.ok) (hn : ∀ r ∈ g.rs, -1 ≤ r.n) (kk : Nat) (H A B T : List PV) (row : List Nd) (a : Nat) (J : Store) (ha : a < row.length) (hl : row.length ≤ 1000) (hgl : row[a].g.length ≤ 1000) (S : List PV) (hS : S.length = 97)
  (h1 : rd S 1 = .d (.int .i64 kk)) (h3 : rd S 3 = .ptr 0 0) (h6 : rd S 6 = .ptr 2 0) (h7 : rd S 7 = .ptr 3 0) (h9 : rd S 9 = .d (.slice (row.map Nd.D))) (h10 : rd S 10 = .ptr 4 0) (h11 : rd S 11 = .d (.int .i64 a)) (k : Nat) (hk : row[a].g.length < k) :
  Lp (loopN (evCode E1 (evI E1) m (theLoop Tryz.f114 0)) k ⟨S, [.d (.slice Bs), .d (.slice (g.rs.map Rt.D)), .d (.int .i64 g.cap), .d (.slice (g.out.map frsD)), .d (.slice (g.lost.map intD))] :: H :: A :: B :: T :: J⟩) fun r => ∃ (J : Store) (S' : List PV), r = (.exit 0, ⟨S', [.d (.slice Bs), .d (.slice ((g.Ins kk row[a].g).rs.map Rt.D)), .d (.int .i64 (g.Ins kk row[a].g).cap), .d (.slice ((g.Ins kk row[a].g).out.map frsD)), .d (.slice ((g.Ins kk row[a].g).lost.map intD))] :: H :: A :: B :: T :: J⟩) ∧ S'.length = 97 ∧ rd S' 1 = .d (.int .i64 kk) ∧ rd S' 3 = .ptr 0 0 ∧ rd S' 6 = .ptr 2 0 ∧ rd S' 7 = .ptr 3 0 ∧ rd S' 9 = .d (.slice ((row.set a { row[a] with g := [] }).map Nd.D)) ∧ rd S' 10 = .ptr 4 0 := by
 have hset0 : row.set a { row[a] with g := row[a].g.drop 0 } = row := List.set_getElem_self ha
 refine loop_inv (fun i st => ∃ (J : Store) (S : List PV), st = ⟨S, [.d (.slice Bs), .d (.slice ((g.Ins kk (row[a].g.take i)).rs.map Rt.D)), .d (.int .i64 (g.Ins kk (row[a].g.take i)).cap), .d (.slice ((g.Ins kk (row[a].g.take i)).out.map frsD)), .d (.slice ((g.Ins kk (row[a].g.take i)).lost.map intD))] :: H :: A :: B :: T :: J⟩ ∧ S.length = 97 ∧ rd S 1 = .d (.int .i64 kk) ∧ rd S 3 = .ptr 0 0 ∧ rd S 6 = .ptr 2 0 ∧ rd S 7 = .ptr 3 0 ∧ rd S 9 = .d (.slice ((row.set a { row[a] with g := row[a].g.drop i }).map Nd.D)) ∧ rd S 10 = .ptr 4 0 ∧ rd S 11 = .d (.int .i64 a)) _ row[a].g.length ?_ ?_ k 0 _ (by omega) (by omega) ⟨J, S, rfl, hS, h1, h3, h6, h7, by rw [hset0]; exact h9, h10, h11⟩
 ·rintro i st hi ⟨J, S, rfl, hS, h1, h3, h6, h7, h9, h10, h11⟩
  have hd : row[a].g.drop i = row[a].g[i] :: row[a].g.drop (i + 1) := List.drop_eq_getElem_cons hi
  have hins : (g.Ins kk (row[a].g.take i)).In kk row[a].g[i] = g.Ins kk (row[a].g.take (i + 1)) := by
   rw [List.take_add_one, List.getElem?_eq_getElem hi]
   unfold Gt.Ins
   rw [List.foldl_append]
   rfl
  obtain ⟨o1, o2, o3, o4⟩ := Gt.Ins_ok kk (row[a].g.take i) g hok
  have c3 := fun σ => r_gIn (g.Ins kk (row[a].g.take i)) o1 (by rw [o3]; exact hn) kk row[a].g[i] σ
  rw [hins] at c3
  have hln : ({ row[a] with g := row[a].g.drop i } : Nd).g.length ≤ 1000000 := by simp; omega
  have c1 := fun σ => r_Take ({ row[a] with g := row[a].g.drop i } : Nd) hln σ
  rw [Take_cons (n := { row[a] with g := row[a].g.drop i }) hd] at c1
  have c2 := fun σ => r_one (row.set a { row[a] with g := row[a].g.drop i }) a (by simpa using ha) (by simpa using (by omega : row.length ≤ 1000000)) ({ row[a] with g := row[a].g.drop (i + 1) } : Nd) σ
  rw [List.set_set] at c2
  have hx : ((row.set a { row[a] with g := row[a].g.drop i }).map Nd.D)[a]? = some (Nd.D { row[a] with g := row[a].g.drop i }) := by simp [ha]
  have hml : ((row.set a { row[a] with g := row[a].g.drop i }).map Nd.D).length = row.length := by simp
  have hgm : ((row[a].g.drop i).map Fr.D).length = row[a].g.length - i := by simp
  have hpos : (0 : Int) < ((row[a].g.length - i : Nat) : Int) := by omega
  have hposN : 0 < row[a].g.length - i := by omega
  generalize row[a].g.length - i = gl at hgm hpos hposN
  have haI : (a : Int) < (row.length : Int) := by omega
  generalize g.Ins kk (row[a].g.take i) = g0 at c3 ⊢
  generalize g.Ins kk (row[a].g.take (i + 1)) = g1 at c3 ⊢
  generalize (row.set a { row[a] with g := row[a].g.drop (i + 1) }).map Nd.D = R1 at c2 ⊢
  generalize (row.set a { row[a] with g := row[a].g.drop i }).map Nd.D = R0 at c2 hx hml h9
  generalize row[a].g[i] = y at c1 c3
  clear hd hins o1 o2 o3 o4 hset0 hln hgl hk
  simp only [Nd.D, Nd.P] at hx c1 c2
  generalize (row[a].g.drop i).map Fr.D = G0 at hx c1 hgm
  generalize (row[a].g.drop (i + 1)).map Fr.D = G1 at c1 c2
  generalize row[a].q.map Fr.D = Q at hx c1 c2
  generalize row[a].fs.map Fl.D = FF at hx c1 c2
  obtain ⟨hi0, hx⟩ := List.getElem?_eq_some_iff.1 hx
  obtain ⟨ye, yid, yrm, yln, yda⟩ := y
  simp only [Fr.P, Gt.P] at c1 c3
  generalize g0.rs.map Rt.D = p1 at c3 ⊢
  generalize g0.out.map frsD = p3 at c3 ⊢
  generalize g0.lost.map intD = p4 at c3 ⊢
  generalize g1.rs.map Rt.D = q1 at c3 ⊢
  generalize g1.out.map frsD = q3 at c3 ⊢
  generalize g1.lost.map intD = q4 at c3 ⊢
  try simp at c1
  try simp at c2
  try simp at c3
  simp (maxSteps := 2000000) [theLoop, Tryz.f114, loopsAll, Lp_some, and_assoc, -rd, rd_ne, rd_eq, -loadS, -storeS, loadS_cons0, loadS_consS, storeS_cons0, storeS_consS, sfx_load0, sfx_load, sfx_store0, sfx_store, cellsOf, hS, h1, h3, h6, h7, h9, h10, h11, hml, ha, haI, hi0, hx, hgm, hpos, hposN, c1, c2, c3]
  done
 ·rintro st ⟨J, S, rfl, hS, h1, h3, h6, h7, h9, h10, h11⟩
  have hx : ((row.set a { row[a] with g := row[a].g.drop row[a].g.length }).map Nd.D)[a]? = some (Nd.D { row[a] with g := [] }) := by simp [ha]
  have hml : ((row.set a { row[a] with g := row[a].g.drop row[a].g.length }).map Nd.D).length = row.length := by simp
  have haI : (a : Int) < (row.length : Int) := by omega
  rw [List.take_length]
  simp only [List.drop_length] at hx hml h9
  generalize (row.set a { row[a] with g := [] }).map Nd.D = R0 at hx hml h9 ⊢
  simp only [Nd.D, List.map_nil] at hx
  obtain ⟨hi0, hx⟩ := List.getElem?_eq_some_iff.1 hx
  generalize g.Ins kk row[a].g = g1
  simp [theLoop, Tryz.f114, loopsAll, Lp_some, and_assoc, -rd, rd_ne, rd_eq, -loadS, -storeS, hS, h1, h3, h6, h7, h9, h10, h11, hml, ha, haI, hi0, hx]
  done
end Go.Proofs

set_option maxRecDepth 100000
set_option maxHeartbeats 8000000
namespace Go.Proofs
open Go.RowKit Go.Shelf Go.Pv
def lessL : List Int → List Int → Bool
 | x :: xs, y :: ys => if x = y then lessL xs ys else decide (x < y)
 | _, _ => false
theorem lessL_cons (x y : Int) (xs ys : List Int) : lessL (x :: xs) (y :: ys) = if x = y then lessL xs ys else decide (x < y) := rfl
theorem lessL_cmp : ∀ (a b : List Int), (a <+: b → b = a) → lessL a b = decide (cmpL a b < 0)
 | [], [], _ => rfl
 | [], y :: ys, h => by have := h List.nil_prefix; cases this
 | x :: xs, [], _ => by unfold lessL cmpL; simp
 | x :: xs, y :: ys, h => by
  unfold lessL cmpL
  by_cases hxy : x = y
  ·subst hxy
   have ih := lessL_cmp xs ys (fun hp => by
    have := h ((List.cons_prefix_cons).2 ⟨rfl, hp⟩)
    exact (List.cons.inj this).2)
   simp [ih]
  ·rw [if_neg hxy]
   by_cases hlt : x < y
   ·simp [hlt, hxy]
   ·have : x > y := by omega
    simp [hlt, hxy]
    try omega
theorem lessL_rank (f g : Fr) : lessL f.rank g.rank = decide (rankCmp f g < 0) := lessL_cmp _ _ (Fr.rank_pf f g)
theorem lessL_same {a b : List Int} {i : Nat} (h : eqTo a b i) (ha : i ≤ a.length) (hb : i ≤ b.length) : lessL a b = lessL (a.drop i) (b.drop i) := by
 induction i generalizing a b with
 | zero => simp
 | succ i ih =>
  cases a with
  | nil => simp at ha
  | cons x xs =>
   cases b with
   | nil => simp at hb
   | cons y ys =>
    have h0 := h 0 (by omega)
    simp at h0
    subst h0
    rw [lessL, if_pos rfl, List.drop_succ_cons, List.drop_succ_cons]
    exact ih (fun j hj => by have := h (j + 1) (by omega); simpa using this) (by simpa using ha) (by simpa using hb)
theorem l_less (m : Nat) (a b : List Int) (hal : a.length ≤ 1000000) (S : List PV) (hS : S.length = 36) (h0 : rd S 0 = .d (.slice (a.map intD))) (h1 : rd S 1 = .d (.slice (b.map intD))) (h5 : rd S 5 = .d (.int .i64 0)) (k : Nat) (hk : min a.length b.length < k) :
  Lp (loopN (evCode E1 (evI E1) m (theLoop Tryz.f84 0)) k ⟨S, []⟩) fun r => ∃ S' : List PV, S'.length = 36 ∧ ((r = (.exit 0, ⟨S', []⟩) ∧ lessL a b = false) ∨ (r = (.ret, ⟨S', []⟩) ∧ rd S' 4 = .d (.bool (lessL a b)))) := by
 refine loop_inv (fun i st => ∃ S : List PV, st = ⟨S, []⟩ ∧ S.length = 36 ∧ eqTo a b i ∧ rd S 0 = .d (.slice (a.map intD)) ∧ rd S 1 = .d (.slice (b.map intD)) ∧ rd S 5 = .d (.int .i64 i)) _ (min a.length b.length) ?_ ?_ k 0 _ (by omega) (by omega) ⟨S, rfl, hS, fun j hj => by omega, h0, h1, h5⟩
 ·rintro i st hi ⟨S, rfl, hS, he, h0, h1, h5⟩
  have hia : i < a.length := by omega
  have hib : i < b.length := by omega
  have hls := lessL_same he (by omega) (by omega)
  rw [List.drop_eq_getElem_cons hia, List.drop_eq_getElem_cons hib, lessL_cons] at hls
  have hnx : a[i] = b[i] → eqTo a b (i + 1) := fun h j hj => by
   rcases Nat.lt_or_ge j i with h1 | h1
   ·exact he j h1
   ·obtain rfl : j = i := by omega
    rw [List.getElem?_eq_getElem hia, List.getElem?_eq_getElem hib, h]
  generalize hx : a[i] = x at hls hnx
  generalize hy : b[i] = y at hls hnx
  have hlt : (i : Int) < (a.length : Int) := by omega
  have hlt2 : (i : Int) < (b.length : Int) := by omega
  by_cases hxy : x = y
  ·have he1 := hnx hxy
   subst hxy
   clear he hnx hls
   simp [theLoop, Tryz.f84, loopsAll, Lp_some, and_assoc, -rd, rd_set, hS, h0, h1, h5, hlt, hlt2, hia, hib, hx, hy, wrap_succ i (by omega)]
   exact he1
  ·rw [if_neg hxy] at hls
   have hb : (x != y) = true := by simpa using hxy
   clear he hnx
   generalize lessL a b = z at hls ⊢
   subst hls
   simp [theLoop, Tryz.f84, loopsAll, Lp_some, and_assoc, -rd, rd_set, hS, h0, h1, h5, hlt, hlt2, hia, hib, hx, hy, hb, wrap_succ i (by omega)]
   exact ⟨_, by simp [hS], rfl, by simp [-rd, rd_set, hS]⟩
 ·rintro st ⟨S, rfl, hS, he, h0, h1, h5⟩
  have hls := lessL_same he (by omega) (by omega)
  have hf : lessL a b = false := by
   rw [hls]
   rcases Nat.le_total a.length b.length with h | h
   ·rw [Nat.min_eq_left h, List.drop_length]; rfl
   ·rw [Nat.min_eq_right h, List.drop_length]; cases (a.drop b.length) <;> rfl
  clear he hls
  rw [hf]
  by_cases hm : b.length ≤ a.length
  ·rw [Nat.min_eq_right hm] at h5
   by_cases hlt : (b.length : Int) < (a.length : Int)
   ·simp [theLoop, Tryz.f84, loopsAll, Lp_some, and_assoc, -rd, rd_set, hS, h0, h1, h5, hlt]
    try exact ⟨_, by simp [hS], rfl⟩
   ·simp [theLoop, Tryz.f84, loopsAll, Lp_some, and_assoc, -rd, rd_set, hS, h0, h1, h5, hlt]
    try exact ⟨_, by simp [hS], rfl⟩
  ·rw [Nat.min_eq_left (by omega)] at h5
   simp [theLoop, Tryz.f84, loopsAll, Lp_some, and_assoc, -rd, rd_set, hS, h0, h1, h5]
   try exact ⟨_, by simp [hS], rfl⟩
theorem r_less (a b : List Int) (hal : a.length ≤ 1000000) (σ : Store) : callIt E1 (evI E1) 84 [.d (.slice (a.map intD)), .d (.slice (b.map intD))] σ = some (.d (.bool (lessL a b)), σ) := by
 refine call_run (fn := Tryz.f84) (a.length + 1) rfl rfl rfl Tryz.func84 rfl rfl ?_ rfl
 simp [Tryz.f84, ec_loop]
 generalize hLL : loopN _ _ _ = L
 obtain ⟨r, rfl, S, hS, h⟩ := at_loop hLL (l_less (a.length + 1) a b hal _ rfl rfl rfl rfl (a.length + 1) (by omega))
 rcases h with ⟨rfl, h⟩ | ⟨rfl, h4⟩
 ·simp [-rd, rd_set, hS, h]
 ·have h4' := rd_el h4 (by omega)
  simp [-rd, rd_set, hS, h4, h4']
theorem l_in (m : Nat) (a : List Int) (v : Int) (hl : a.length ≤ 1000000) (S : List PV) (hS : S.length = 18) (h0 : rd S 0 = .d (.slice (a.map intD))) (h1 : rd S 1 = .d (.int .i64 v)) (h5 : rd S 5 = .d (.int .i64 0)) (k : Nat) (hk : a.length < k) :
  Lp (loopN (evCode E1 (evI E1) m (theLoop Tryz.f28 0)) k ⟨S, []⟩) fun r => ∃ S' : List PV, S'.length = 18 ∧ ((r = (.exit 0, ⟨S', []⟩) ∧ v ∉ a) ∨ (r = (.ret, ⟨S', []⟩) ∧ rd S' 4 = .d (.bool true) ∧ v ∈ a)) := by
 refine loop_inv (fun i st => ∃ S : List PV, st = ⟨S, []⟩ ∧ S.length = 18 ∧ v ∉ a.take i ∧ rd S 0 = .d (.slice (a.map intD)) ∧ rd S 1 = .d (.int .i64 v) ∧ rd S 5 = .d (.int .i64 i)) _ a.length ?_ ?_ k 0 _ (by omega) (by omega) ⟨S, rfl, hS, by simp, h0, h1, h5⟩
 ·rintro i st hi ⟨S, rfl, hS, he, h0, h1, h5⟩
  have hm : a[i] ∈ a := List.getElem_mem hi
  have htk : a.take (i + 1) = a.take i ++ [a[i]] := by rw [List.take_add_one, List.getElem?_eq_getElem hi]; rfl
  generalize hx : a[i] = x at hm htk
  have hlt : (i : Int) < (a.length : Int) := by omega
  by_cases hxy : x = v
  ·subst hxy
   clear he htk
   simp [theLoop, Tryz.f28, loopsAll, Lp_some, and_assoc, -rd, rd_set, hS, h0, h1, h5, hlt, hi, hx, wrap_succ i (by omega)]
   exact ⟨_, by simp [hS], rfl, by simp [-rd, rd_set, hS], hm⟩
  ·have hn : v ∉ a.take (i + 1) := by rw [htk]; simp [he]; exact fun h => hxy h.symm
   have hb : (x == v) = false := by simpa using hxy
   clear he htk
   simp [theLoop, Tryz.f28, loopsAll, Lp_some, and_assoc, -rd, rd_set, hS, h0, h1, h5, hlt, hi, hx, hb, wrap_succ i (by omega)]
   exact hn
 ·rintro st ⟨S, rfl, hS, he, h0, h1, h5⟩
  rw [List.take_length] at he
  simp [theLoop, Tryz.f28, loopsAll, Lp_some, and_assoc, -rd, rd_set, hS, h0, h1, h5]
  exact ⟨_, by simp [hS], rfl, he⟩
theorem r_in (a : List Int) (v : Int) (hl : a.length ≤ 1000000) (σ : Store) : callIt E1 (evI E1) 28 [.d (.slice (a.map intD)), .d (.int .i64 v)] σ = some (.d (.bool (a.contains v)), σ) := by
 refine call_run (fn := Tryz.f28) (a.length + 1) rfl rfl rfl Tryz.func28 rfl rfl ?_ rfl
 simp [Tryz.f28, ec_loop]
 generalize hLL : loopN _ _ _ = L
 obtain ⟨r, rfl, S, hS, h⟩ := at_loop hLL (l_in (a.length + 1) a v hl _ rfl rfl rfl rfl (a.length + 1) (by omega))
 rcases h with ⟨rfl, h⟩ | ⟨rfl, h4, h⟩
 ·simp [-rd, rd_set, hS, h]
 ·have h4' := rd_el h4 (by omega)
  simp [-rd, rd_set, hS, h4, h, h4']
end Go.Proofs

set_option maxRecDepth 100000
set_option maxHeartbeats 8000000
namespace Go.Proofs
open Go.RowKit Go.Shelf Go.Pv
theorem l_winner (m : Nat) (l : List Nd) (hg : ∀ n ∈ l, n.good) (hl : l.length ≤ 1000) (S : List PV) (hS : S.length = 38) (b0 b1 b2 b3 b4 : PV) (h0 : rd S 0 = .d (.slice (l.map Nd.D))) (h3 : rd S 3 = .d (.int .i64 (-1))) (h4 : rd S 4 = .ptr 0 0) (h5 : rd S 5 = .d (.int .i64 0)) (k : Nat) (hk : l.length < k) :
  Lp (loopN (evCode E1 (evI E1) m (theLoop Tryz.f31 0)) k ⟨S, [[b0, b1, b2, b3, b4]]⟩) fun r => ∃ (J : Store) (S' : List PV), r = (.exit 0, ⟨S', J⟩) ∧ S'.length = 38 ∧ rd S' 3 = .d (.int .i64 (atP (winP (sndL l)))) := by
 refine loop_inv (fun i st => ∃ (b0 b1 b2 b3 b4 : PV) (J : Store) (S : List PV), st = ⟨S, [b0, b1, b2, b3, b4] :: J⟩ ∧ S.length = 38 ∧ (∀ p, winP (sndL (l.take i)) = some p → [b0, b1, b2, b3, b4] = cellsOf p.2.P ∧ 0 ≤ p.1 ∧ p.2.right = true) ∧ rd S 0 = .d (.slice (l.map Nd.D)) ∧ rd S 3 = .d (.int .i64 (atP (winP (sndL (l.take i))))) ∧ rd S 4 = .ptr 0 0 ∧ rd S 5 = .d (.int .i64 i)) _ l.length ?_ ?_ k 0 _ (by omega) (by omega)
  ⟨b0, b1, b2, b3, b4, [], S, rfl, hS, by intro p hp; simp [sndL, winP] at hp, h0, h3, h4, h5⟩
 ·rintro i st hi ⟨b0, b1, b2, b3, b4, J, S, rfl, hS, hw, h0, h3, h4, h5⟩
  have htk : winP (sndL (l.take (i + 1))) = (if l[i].Next.2 then [((i : Int), l[i].Next.1)] else []).foldl winS (winP (sndL (l.take i))) := by
   rw [sndL_take hi, winP, List.foldl_append]; rfl
  have hgi := hg l[i] (List.getElem_mem hi)
  have hnr : l[i].Next.2 = true → l[i].Next.1.right = true := fun h => hgi.r _ (Next_mem h)
  have hnx := fun σ => r_Next l[i] (Nat.le_trans hgi.q (by omega)) hgi.r σ
  generalize winP (sndL (l.take (i + 1))) = w1 at htk ⊢
  generalize winP (sndL (l.take i)) = w0 at htk hw h3
  generalize hx : l[i] = n at htk hnx hnr
  generalize n.Next = nf at htk hnx hnr
  obtain ⟨f, ok⟩ := nf
  simp only at htk hnx hnr
  have hlt : (i : Int) < (l.length : Int) := by omega
  cases ok
  ·simp only [Bool.false_eq_true, if_false, List.foldl_nil] at htk
   subst htk
   simp at hnx
   clear hnr
   simp [theLoop, Tryz.f31, loopsAll, Lp_some, and_assoc, -rd, rd_set, -loadS, -storeS, loadS_cons0, loadS_consS, storeS_cons0, storeS_consS, sfx_load0, sfx_load, sfx_store0, sfx_store, hS, h0, h3, h4, h5, hlt, hi, hx, hnx, wrap_succ i (by omega)]
   intro a b h
   simpa [cellsOf, and_assoc] using hw (a, b) h
  ·simp only [if_true, List.foldl_cons, List.foldl_nil] at htk
   have hfr := hnr rfl
   have r1 := fun σ => r_Rank f hfr σ
   cases w0 with
   | none =>
    subst htk
    simp only [winS, atP, Option.map_none, Option.getD_none, Option.map_some, Option.getD_some] at h3 ⊢
    simp only [Fr.P] at hnx
    simp at hnx
    clear hnr hw r1
    simp [theLoop, Tryz.f31, loopsAll, Lp_some, and_assoc, -rd, rd_set, -loadS, -storeS, loadS_cons0, loadS_consS, storeS_cons0, storeS_consS, sfx_load0, sfx_load, sfx_store0, sfx_store, hS, h0, h3, h4, h5, hlt, hi, hx, hnx, wrap_succ i (by omega), cellsOf, hfr]
    done
   | some q =>
    obtain ⟨hb, hq0, hqr⟩ := hw q rfl
    have r2 := fun σ => r_Rank q.2 hqr σ
    have r3 := fun σ => r_less f.rank q.2.rank (Nat.le_trans f.rank_len (by omega)) σ
    rw [lessL_rank] at r3
    obtain ⟨a, g⟩ := q
    simp only [winS] at htk
    simp only at hb hq0 r2 r3
    simp only [cellsOf, Fr.P, List.cons.injEq, and_true] at hb
    obtain ⟨rfl, rfl, rfl, rfl, rfl⟩ := hb
    simp only [atP, Option.map_some, Option.getD_some] at h3
    have hneg : ¬ a < 0 := by omega
    clear hw hnr
    by_cases hc : rankCmp f g < 0
    ·rw [if_pos hc] at htk
     subst htk
     have hcd : decide (rankCmp f g < 0) = true := by simpa using hc
     rw [hcd] at r3
     simp at hnx
     try simp at r1
     try simp at r2
     try simp at r3
     simp only [atP, Option.map_some, Option.getD_some]
     clear hcd hc
     simp [theLoop, Tryz.f31, loopsAll, Lp_some, and_assoc, -rd, rd_set, -loadS, -storeS, loadS_cons0, loadS_consS, storeS_cons0, storeS_consS, sfx_load0, sfx_load, sfx_store0, sfx_store, hS, h0, h3, h4, h5, hlt, hi, hx, hnx, hneg, r1, r2, r3, wrap_succ i (by omega), cellsOf, hfr]
     done
    ·rw [if_neg hc] at htk
     subst htk
     have hcd : decide (rankCmp f g < 0) = false := by simpa using hc
     rw [hcd] at r3
     simp at hnx
     try simp at r1
     try simp at r2
     try simp at r3
     simp only [atP, Option.map_some, Option.getD_some]
     clear hcd hc
     simp [theLoop, Tryz.f31, loopsAll, Lp_some, and_assoc, -rd, rd_set, -loadS, -storeS, loadS_cons0, loadS_consS, storeS_cons0, storeS_consS, sfx_load0, sfx_load, sfx_store0, sfx_store, hS, h0, h3, h4, h5, hlt, hi, hx, hnx, hneg, r1, r2, r3, wrap_succ i (by omega), cellsOf, hqr, hq0]
     done
 ·rintro st ⟨b0, b1, b2, b3, b4, J, S, rfl, hS, hw, h0, h3, h4, h5⟩
  rw [List.take_length] at h3
  simp [theLoop, Tryz.f31, loopsAll, Lp_some, and_assoc, -rd, rd_set, hS, h0, h3, h4, h5]
theorem r_Winner (l : List Nd) (hg : ∀ n ∈ l, n.good) (hl : l.length ≤ 1000) (σ : Store) : callIt E1 (evI E1) 31 [.d (.slice (l.map Nd.D))] σ = some (.d (.int .i64 (atP (winP (sndL l)))), σ) := by
 refine call_run (fn := Tryz.f31) (l.length + 1) rfl rfl rfl Tryz.func31 rfl rfl ?_ rfl
 simp [Tryz.f31, ec_loop, -loadS, -storeS, storeS_cons0, storeS_consS]
 generalize hLL : loopN _ _ _ = L
 obtain ⟨r, rfl, J, S, rfl, hS, h3⟩ := at_loop hLL (l_winner (l.length + 1) l hg hl _ rfl _ _ _ _ _ rfl rfl rfl rfl (l.length + 1) (by omega))
 simp [-rd, rd_set, hS, h3]
end Go.Proofs

set_option maxRecDepth 100000
set_option maxHeartbeats 8000000
namespace Go.Proofs
open Go.RowKit Go.Shelf Go.Pv
theorem rank_eq_less (f g : Fr) : decide (g.rank = f.rank) = (!lessL f.rank g.rank && !lessL g.rank f.rank) := by
 rw [lessL_rank, lessL_rank, rankCmp_anti f g]
 rw [Bool.eq_iff_iff]
 simp only [decide_eq_true_eq, Bool.and_eq_true, Bool.not_eq_true', decide_eq_false_iff_not]
 constructor
 ·intro h
  have : rankCmp f g = 0 := by unfold rankCmp; rw [h]; exact cmpL_self _
  omega
 ·intro h
  have : rankCmp f g = 0 := by omega
  exact (cmpL_zero _ _ this).symm
theorem r_Along (l : List Nd) (hg : ∀ n ∈ l, n.good) (hl : l.length ≤ 1000) (who : List Int) (i : Nat) (hi : i < l.length) (σ : Store) : callIt E1 (evI E1) 27 [.d (.slice (l.map Nd.D)), .d (.int .i64 i)] σ = some (.d (.bool ((lineOf l who).sends i)), σ) := by
 refine call_run (fn := Tryz.f27) 5 rfl rfl rfl Tryz.func27 rfl rfl ?_ rfl
 have hW := fun σ => r_Winner l hg hl σ
 by_cases hs : sndL l = []
 ·rw [sends_none who hs]
  rw [hs] at hW
  simp only [winP_nil, atP, Option.map_none, Option.getD_none] at hW
  try simp at hW
  simp [Tryz.f27, hW]
  done
 ·obtain ⟨hw1, hw2⟩ := winP_line who hs
  rw [sends_eq who (List.getElem?_eq_getElem hi)]
  have hnx := fun σ => r_Next l[i] (Nat.le_trans (hg _ (List.getElem_mem hi)).q (by omega)) (hg _ (List.getElem_mem hi)).r σ
  have hnr : l[i].Next.2 = true → l[i].Next.1.right = true := fun h => (hg _ (List.getElem_mem hi)).r _ (Next_mem h)
  generalize hx : l[i] = n at hnx hnr
  rw [hw1] at hW
  simp only [atP, Option.map_some, Option.getD_some] at hW
  generalize (lineOf l who).w = w at hw2 hW
  generalize (lineOf l who).f = f at hw2
  obtain ⟨k, nk, hk, hk2, he⟩ := sndL_mem hw2
  obtain ⟨rfl, rfl⟩ := Prod.mk.inj he
  obtain ⟨hkl, hk⟩ := List.getElem?_eq_some_iff.1 hk
  have hgk := hg nk (by rw [← hk]; exact List.getElem_mem hkl)
  have hnk := fun σ => r_Next nk (Nat.le_trans hgk.q (by omega)) hgk.r σ
  have hfr := hgk.r _ (Next_mem hk2)
  rw [hk2] at hnk
  have hk0 : ¬ (k : Int) < 0 := by omega
  generalize nk.Next.1 = f at hnk hfr
  generalize n.Next = nf at hnx hnr
  obtain ⟨g, ok⟩ := nf
  simp only at hnx hnr
  have r1 := fun σ => r_Rank f hfr σ
  cases ok
  ·clear hw1 hw2 he
   try simp at hW
   try simp at hnx
   try simp at hnk
   simp [Tryz.f27, -loadS, -storeS, loadS_cons0, loadS_consS, storeS_cons0, storeS_consS, hW, hk0, hk, hkl, hnk, hi, hx, hnx, r1]
   done
  ·have hgr := hnr rfl
   have r2 := fun σ => r_Rank g hgr σ
   have r3 := fun σ => r_less f.rank g.rank (Nat.le_trans f.rank_len (by omega)) σ
   have r4 := fun σ => r_less g.rank f.rank (Nat.le_trans g.rank_len (by omega)) σ
   rw [rank_eq_less f g]
   generalize lessL f.rank g.rank = z1 at r3 ⊢
   generalize lessL g.rank f.rank = z2 at r4 ⊢
   clear hw1 hw2 he hnr
   try simp at hW
   try simp at hnx
   try simp at hnk
   try simp at r1
   try simp at r2
   try simp at r3
   try simp at r4
   cases z1
   ·cases z2
    ·simp [Tryz.f27, -loadS, -storeS, loadS_cons0, loadS_consS, storeS_cons0, storeS_consS, hW, hk0, hk, hkl, hnk, hi, hx, hnx, r1, r2, r3, r4]
     done
    ·simp [Tryz.f27, -loadS, -storeS, loadS_cons0, loadS_consS, storeS_cons0, storeS_consS, hW, hk0, hk, hkl, hnk, hi, hx, hnx, r1, r2, r3, r4]
     done
   ·simp [Tryz.f27, -loadS, -storeS, loadS_cons0, loadS_consS, storeS_cons0, storeS_consS, hW, hk0, hk, hkl, hnk, hi, hx, hnx, r1, r2, r3, r4]
    done
theorem any_range_succ (p : Nat → Bool) (i : Nat) : (List.range (i + 1)).any p = ((List.range i).any p || p i) := by simp [List.range_succ]
theorem l_heard (m : Nat) (l : List Nd) (hg : ∀ n ∈ l, n.good) (hl : l.length ≤ 1000) (who : List Int) (S : List PV) (hS : S.length = 23) (h0 : rd S 0 = .d (.slice (l.map Nd.D))) (h3 : rd S 3 = .d (.int .i64 0)) (k : Nat) (hk : l.length < k) :
  Lp (loopN (evCode E1 (evI E1) m (theLoop Tryz.f82 0)) k ⟨S, []⟩) fun r => ∃ S' : List PV, S'.length = 23 ∧ ((r = (.exit 0, ⟨S', []⟩) ∧ (lineOf l who).anyHears = false) ∨ (r = (.ret, ⟨S', []⟩) ∧ rd S' 2 = .d (.bool true) ∧ (lineOf l who).anyHears = true)) := by
 have hfull : (lineOf l who).anyHears = (List.range l.length).any (lineOf l who).hears := rfl
 rw [hfull]
 have hev : ∀ i, (List.range (i + 1)).any (lineOf l who).hears = ((List.range i).any (lineOf l who).hears || (lineOf l who).hears i) := any_range_succ _
 have htr : ∀ i, i < l.length → (lineOf l who).hears i = true → (List.range l.length).any (lineOf l who).hears = true := fun i hi h => List.any_eq_true.2 ⟨i, by simpa using hi, h⟩
 refine loop_inv (fun i st => ∃ S : List PV, st = ⟨S, []⟩ ∧ S.length = 23 ∧ (List.range i).any (lineOf l who).hears = false ∧ rd S 0 = .d (.slice (l.map Nd.D)) ∧ rd S 3 = .d (.int .i64 i)) _ l.length ?_ ?_ k 0 _ (by omega) (by omega) ⟨S, rfl, hS, rfl, h0, h3⟩
 ·rintro i st hi ⟨S, rfl, hS, he, h0, h3⟩
  have h1 := hev i
  have h2 := htr i hi
  have hA := fun σ => r_Along l hg hl who i hi σ
  have hH : (lineOf l who).hears i = (!(lineOf l who).sends i && (l[i].c.s != 3)) := by
   unfold Ln.hears
   rw [show nd (lineOf l who).l i = l[i] from by show nd l i = l[i]; simp [nd, List.getD, hi]]
  rw [he, Bool.false_or] at h1
  rw [hH] at h1 h2
  clear hH
  generalize hx : l[i] = n at h1 h2
  generalize (lineOf l who).sends i = s at hA h1 h2
  generalize (List.range (i + 1)).any (lineOf l who).hears = a1 at h1 ⊢
  generalize (List.range l.length).any (lineOf l who).hears = a2 at h2 ⊢
  have hlt : (i : Int) < (l.length : Int) := by omega
  try simp at hA
  cases s
  ·by_cases hc : n.c.s = 3
   ·have h1' : a1 = false := by rw [h1]; simp [hc]
    clear h1 h2 hev htr hfull
    subst h1'
    simp [theLoop, Tryz.f82, loopsAll, Lp_some, and_assoc, -rd, rd_set, hS, h0, h3, hlt, hi, hx, hA, hc, wrap_succ i (by omega)]
    done
   ·have hb : (n.c.s != 3) = true := by simpa using hc
    have h2' : a2 = true := h2 (by simp [hb])
    clear h1 h2 hev htr hfull
    subst h2'
    simp [theLoop, Tryz.f82, loopsAll, Lp_some, and_assoc, -rd, rd_set, hS, h0, h3, hlt, hi, hx, hA, hb, wrap_succ i (by omega)]
    exact ⟨_, by simp [hS], rfl, by simp [-rd, rd_set, hS]⟩
  ·have h1' : a1 = false := by rw [h1]; simp
   clear h1 h2 hev htr hfull
   subst h1'
   simp [theLoop, Tryz.f82, loopsAll, Lp_some, and_assoc, -rd, rd_set, hS, h0, h3, hlt, hi, hx, hA, wrap_succ i (by omega)]
   done
 ·rintro st ⟨S, rfl, hS, he, h0, h3⟩
  clear hev htr hfull
  generalize (List.range l.length).any (lineOf l who).hears = a2 at he ⊢
  subst he
  simp [theLoop, Tryz.f82, loopsAll, Lp_some, and_assoc, -rd, rd_set, hS, h0, h3]
  try exact ⟨_, by simp [hS], rfl⟩
theorem r_heard (l : List Nd) (hg : ∀ n ∈ l, n.good) (hl : l.length ≤ 1000) (who : List Int) (σ : Store) : callIt E1 (evI E1) 82 [.d (.slice (l.map Nd.D))] σ = some (.d (.bool (lineOf l who).anyHears), σ) := by
 refine call_run (fn := Tryz.f82) (l.length + 1) rfl rfl rfl Tryz.func82 rfl rfl ?_ rfl
 simp [Tryz.f82, ec_loop]
 generalize hLL : loopN _ _ _ = L
 obtain ⟨r, rfl, S, hS, h⟩ := at_loop hLL (l_heard (l.length + 1) l hg hl who _ rfl rfl rfl (l.length + 1) (by omega))
 rcases h with ⟨rfl, h⟩ | ⟨rfl, h4, h⟩
 ·simp [-rd, rd_set, hS, h]
 ·have h4' := rd_el h4 (by omega)
  simp [-rd, rd_set, hS, h4, h, h4']
end Go.Proofs

set_option maxRecDepth 100000
set_option maxHeartbeats 8000000
namespace Go.Proofs
open Go.RowKit Go.Shelf Go.Pv
theorem l_hit (m : Nat) (l : List Nd) (hg : ∀ n ∈ l, n.good) (hl : l.length ≤ 1000) (who : List Int) (hwl : who.length ≤ 1000000) (S : List PV) (hS : S.length = 69) (h0 : rd S 0 = .d (.slice (l.map Nd.D))) (h3 : rd S 3 = .ptr 0 0) (h6 : rd S 6 = .ptr 1 0) (h8 : rd S 8 = .d (.int .i64 0)) (k : Nat) (hk : l.length < k) :
  Lp (loopN (evCode E1 (evI E1) m (theLoop Tryz.f81 0)) k ⟨S, [[.d (.slice (who.map intD))], cellsOf (lineOf l who).f.P]⟩) fun r => ∃ (S' : List PV) (J : Store), S'.length = 69 ∧ ((r = (.exit 0, ⟨S', J⟩) ∧ (lineOf l who).anyLoud = false) ∨ (r = (.ret, ⟨S', J⟩) ∧ rd S' 4 = .d (.bool true) ∧ (lineOf l who).anyLoud = true)) := by
 have hfull : (lineOf l who).anyLoud = (List.range l.length).any (lineOf l who).loud := rfl
 rw [hfull]
 have hev : ∀ i, (List.range (i + 1)).any (lineOf l who).loud = ((List.range i).any (lineOf l who).loud || (lineOf l who).loud i) := any_range_succ _
 have htr : ∀ i, i < l.length → (lineOf l who).loud i = true → (List.range l.length).any (lineOf l who).loud = true := fun i hi h => List.any_eq_true.2 ⟨i, by simpa using hi, h⟩
 refine loop_inv (fun i st => ∃ (J : Store) (S : List PV), st = ⟨S, [.d (.slice (who.map intD))] :: cellsOf (lineOf l who).f.P :: J⟩ ∧ S.length = 69 ∧ (List.range i).any (lineOf l who).loud = false ∧ rd S 0 = .d (.slice (l.map Nd.D)) ∧ rd S 3 = .ptr 0 0 ∧ rd S 6 = .ptr 1 0 ∧ rd S 8 = .d (.int .i64 i)) _ l.length ?_ ?_ k 0 _ (by omega) (by omega) ⟨[], S, rfl, hS, rfl, h0, h3, h6, h8⟩
 ·rintro i st hi ⟨J, S, rfl, hS, he, h0, h3, h6, h8⟩
  have h1 := hev i
  have h2 := htr i hi
  have hA := fun σ => r_Along l hg hl who i hi σ
  have hI := fun σ => r_in who (i : Int) hwl σ
  have hgi := hg l[i] (List.getElem_mem hi)
  have hnx := fun σ => r_Next l[i] (Nat.le_trans hgi.q (by omega)) hgi.r σ
  have hsm := fun σ => r_same l[i].Next.1 (lineOf l who).f σ
  have hH : (lineOf l who).loud i = (if (lineOf l who).sends i then who.contains (i : Int) || !(l[i].Next.1.same (lineOf l who).f) else who.contains (i : Int) && (l[i].c.s == 1)) := by
   unfold Ln.loud
   rw [show nd (lineOf l who).l i = l[i] from by show nd l i = l[i]; simp [nd, List.getD, hi]]
   rfl
  rw [he, Bool.false_or] at h1
  rw [hH] at h1 h2
  clear hH
  generalize hx : l[i] = n at h1 h2 hnx hsm
  generalize (lineOf l who).sends i = s at hA h1 h2
  generalize (List.range (i + 1)).any (lineOf l who).loud = a1 at h1 ⊢
  generalize (List.range l.length).any (lineOf l who).loud = a2 at h2 ⊢
  clear hev htr hfull he
  generalize (lineOf l who).f = f at h1 h2 hsm ⊢
  generalize who.contains (i : Int) = c at hI h1 h2
  generalize n.Next = nf at hnx hsm h1 h2
  obtain ⟨g, ok⟩ := nf
  simp only at hnx hsm h1 h2
  generalize g.same f = sm at hsm h1 h2
  have hlt : (i : Int) < (l.length : Int) := by omega
  simp at hnx hsm hI hA
  cases s
  ·simp only [Bool.false_eq_true, if_false] at h1 h2
   cases c
   ·simp only [Bool.false_and] at h1 h2
    subst h1
    simp [theLoop, Tryz.f81, loopsAll, Lp_some, and_assoc, -rd, rd_set, -loadS, -storeS, loadS_cons0, loadS_consS, storeS_cons0, storeS_consS, sfx_load0, sfx_load, sfx_store0, sfx_store, hS, h0, h3, h6, h8, hlt, hi, hx, hA, hI, hnx, hsm, wrap_succ i (by omega), cellsOf]
    done
   ·simp only [Bool.true_and] at h1 h2
    cases hc : (n.c.s == 1) <;> rw [hc] at h1 h2
    ·subst h1
     simp [theLoop, Tryz.f81, loopsAll, Lp_some, and_assoc, -rd, rd_set, -loadS, -storeS, loadS_cons0, loadS_consS, storeS_cons0, storeS_consS, sfx_load0, sfx_load, sfx_store0, sfx_store, hS, h0, h3, h6, h8, hlt, hi, hx, hA, hI, hnx, hsm, hc, wrap_succ i (by omega), cellsOf]
     done
    ·have h2' := h2 rfl
     subst h2'
     simp [theLoop, Tryz.f81, loopsAll, Lp_some, and_assoc, -rd, rd_set, -loadS, -storeS, loadS_cons0, loadS_consS, storeS_cons0, storeS_consS, sfx_load0, sfx_load, sfx_store0, sfx_store, hS, h0, h3, h6, h8, hlt, hi, hx, hA, hI, hnx, hsm, hc, wrap_succ i (by omega), cellsOf]
     first | exact ⟨_, by simp [hS], rfl, by simp [-rd, rd_set, hS]⟩ | exact ⟨_, by simp [hS], ⟨_, rfl, rfl⟩, by simp [-rd, rd_set, hS]⟩ | exact ⟨_, _, by simp [hS], ⟨rfl, rfl⟩, by simp [-rd, rd_set, hS]⟩
  ·simp only [if_true] at h1 h2
   cases sm
   ·have h2' := h2 (by simp)
    subst h2'
    simp [theLoop, Tryz.f81, loopsAll, Lp_some, and_assoc, -rd, rd_set, -loadS, -storeS, loadS_cons0, loadS_consS, storeS_cons0, storeS_consS, sfx_load0, sfx_load, sfx_store0, sfx_store, hS, h0, h3, h6, h8, hlt, hi, hx, hA, hI, hnx, hsm, wrap_succ i (by omega), cellsOf]
    first | exact ⟨_, by simp [hS], rfl, by simp [-rd, rd_set, hS]⟩ | exact ⟨_, by simp [hS], ⟨_, rfl, rfl⟩, by simp [-rd, rd_set, hS]⟩ | exact ⟨_, _, by simp [hS], ⟨rfl, rfl⟩, by simp [-rd, rd_set, hS]⟩
   ·cases c
    ·simp only [Bool.not_true, Bool.or_false] at h1
     subst h1
     simp [theLoop, Tryz.f81, loopsAll, Lp_some, and_assoc, -rd, rd_set, -loadS, -storeS, loadS_cons0, loadS_consS, storeS_cons0, storeS_consS, sfx_load0, sfx_load, sfx_store0, sfx_store, hS, h0, h3, h6, h8, hlt, hi, hx, hA, hI, hnx, hsm, wrap_succ i (by omega), cellsOf]
     done
    ·have h2' := h2 (by simp)
     subst h2'
     simp [theLoop, Tryz.f81, loopsAll, Lp_some, and_assoc, -rd, rd_set, -loadS, -storeS, loadS_cons0, loadS_consS, storeS_cons0, storeS_consS, sfx_load0, sfx_load, sfx_store0, sfx_store, hS, h0, h3, h6, h8, hlt, hi, hx, hA, hI, hnx, hsm, wrap_succ i (by omega), cellsOf]
     first | exact ⟨_, by simp [hS], rfl, by simp [-rd, rd_set, hS]⟩ | exact ⟨_, by simp [hS], ⟨_, rfl, rfl⟩, by simp [-rd, rd_set, hS]⟩ | exact ⟨_, _, by simp [hS], ⟨rfl, rfl⟩, by simp [-rd, rd_set, hS]⟩
 ·rintro st ⟨J, S, rfl, hS, he, h0, h3, h6, h8⟩
  clear hev htr hfull
  generalize (List.range l.length).any (lineOf l who).loud = a2 at he ⊢
  subst he
  simp [theLoop, Tryz.f81, loopsAll, Lp_some, and_assoc, -rd, rd_set, hS, h0, h3, h6, h8]
  try exact ⟨_, by simp [hS], _, rfl, rfl⟩
theorem r_hit (l : List Nd) (hg : ∀ n ∈ l, n.good) (hl : l.length ≤ 1000) (who : List Int) (hwl : who.length ≤ 1000000) (hs : sndL l ≠ []) (σ : Store) : callIt E1 (evI E1) 81 [.d (.slice (l.map Nd.D)), .agg [.d (.slice (who.map intD))]] σ = some (.d (.bool (lineOf l who).anyLoud), σ) := by
 refine call_run (fn := Tryz.f81) (l.length + 1) rfl rfl rfl Tryz.func81 rfl rfl ?_ rfl
 have hW := fun σ => r_Winner l hg hl σ
 obtain ⟨hw1, hw2⟩ := winP_line who hs
 have hloop := l_hit (l.length + 1) l hg hl who hwl
 rw [hw1] at hW
 simp only [atP, Option.map_some, Option.getD_some] at hW
 generalize (lineOf l who).w = w at hw2 hW
 generalize (lineOf l who).anyLoud = A at hloop ⊢
 generalize (lineOf l who).f = f at hw2 hloop
 obtain ⟨k, nk, hk, hk2, he⟩ := sndL_mem hw2
 obtain ⟨rfl, rfl⟩ := Prod.mk.inj he
 obtain ⟨hkl, hk⟩ := List.getElem?_eq_some_iff.1 hk
 have hgk := hg nk (by rw [← hk]; exact List.getElem_mem hkl)
 have hnk := fun σ => r_Next nk (Nat.le_trans hgk.q (by omega)) hgk.r σ
 rw [hk2] at hnk
 clear hw1 hw2 he
 generalize nk.Next.1 = f at hnk hloop
 simp only [cellsOf, Fr.P] at hloop
 try simp at hW
 try simp at hnk
 simp [Tryz.f81, -loadS, -storeS, loadS_cons0, loadS_consS, storeS_cons0, storeS_consS, hW, hk, hkl, hnk, ec_loop]
 generalize hLL : loopN _ _ _ = L
 obtain ⟨r, rfl, S, J, hS, h⟩ := at_loop hLL (hloop _ rfl rfl rfl rfl rfl (l.length + 1) (by omega))
 rcases h with ⟨rfl, h⟩ | ⟨rfl, h4, h⟩
 ·simp [-rd, rd_set, hS, h]
 ·have h4' := rd_el h4 (by omega)
  simp [-rd, rd_set, hS, h4, h, h4']
end Go.Proofs

