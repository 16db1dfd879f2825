/- NetCarries: what the nodes got, counted; the law's question how often a frame is in a row; The reference of routes: all that comes of a frame. -/
import Derived.Test.YtnnindnmpfmaaaaGreatRb
import Derived.Test.YtnnindnmpfmaaaaGreatRa
set_option linter.unusedVariables false
set_option linter.unusedSimpArgs false
set_option maxRecDepth 100000
set_option maxHeartbeats 8000000
namespace Go.Proofs
open Go.RowKit Go.Shelf Go.Pv

def cP (i j : Nat) (P : Fr → Bool) (b' i' : Nat) (f' : Fr) : Nat := if decide (b' = i) && (!decide (i' = j) && P f') then 1 else 0
theorem got_cnt (i j : Nat) (P : Fr → Bool) : ∀ (L : List Ev), ((gotE L i j []).filter P).length = cntL (cP i j P) L
  | [] => rfl
  | e :: L => by
    have ih := got_cnt i j P L
    unfold gotE cntL at ih ⊢
    simp only [List.map_cons, List.sum_cons, ← ih, List.filter_cons]
    have ha : anyF [] e.f = true := rfl
    rw [ha, Bool.and_true]
    unfold cP
    cases h1 : decide (e.b = i) <;> cases h2 : decide (e.i = j) <;> cases h3 : P e.f <;> simp [h3] <;> omega
def wantL (H : List Hp) (i : Nat) : List Fr := (H.filter fun h => h.b == (i : Int)).map (·.f)
theorem want_cnt (sz : Nat → Nat) (i j : Nat) (hj : j < sz i) (P : Fr → Bool) : ∀ (H : List Hp), (∀ h ∈ H, 0 ≤ h.b) → ((wantL H i).filter P).length = sumH (cP i j P) sz H
  | [], _ => rfl
  | h :: H, hn => by
    have ih := want_cnt sz i j hj P H (fun x hx => hn x (by simp [hx]))
    have hb := hn h (by simp)
    unfold wantL at ih ⊢
    rw [sumH, ← ih, List.filter_cons]
    unfold cP
    by_cases h1 : h.b = (i : Int)
    · have h2 : h.b.toNat = i := by omega
      have h3 : (h.b == (i : Int)) = true := by simpa using h1
      have h4 : decide (sz i = j) = false := by simp; omega
      rw [h3, h2, h4]
      simp only [if_true, List.map_cons, List.filter_cons, decide_true, Bool.true_and, Bool.not_false]
      cases P h.f <;> simp <;> omega
    · have h2 : ¬ h.b.toNat = i := by omega
      have h3 : (h.b == (i : Int)) = false := by simpa using h1
      rw [h3]
      simp [h2]
theorem reach_nn {rs : List Rt} (hi : inB rs) : ∀ (d : Nat) (l : List Hp), (∀ h ∈ l, 0 ≤ h.b) → ∀ h ∈ reachN rs d l, 0 ≤ h.b
  | 0, _, _, h, hh => by simp [reachN] at hh
  | d + 1, l, hn, h, hh => by
    rw [reachN] at hh
    rcases List.mem_append.1 hh with hh | hh
    · exact hn h hh
    · exact reach_nn hi d _ (nextL_nn hi l) h hh
/-- What a node has to have. -/
def allL (H : List Hp) (f : Fr) (b w i j : Nat) : List Fr := wantL H i ++ if i = b ∧ j ≠ w then [f] else []
theorem all_cnt {sizes : List Int} {rs : List Rt} (ck : CK sizes rs) {L : List Ev} {b w : Nat} {f : Fr} (hc : ∀ c, cntL c L = c b w f + sumH c (szK sizes) (reachL rs b f)) {i j : Nat} (hj : j < szK sizes i) (P : Fr → Bool) :
    ((gotE L i j []).filter P).length = ((allL (reachL rs b f) f b w i j).filter P).length := by
  obtain ⟨k1, k2, _, k4⟩ := routesOk_on ck.hok
  have hi : inB rs := fun r h => by have := k4 r h; have := ck.h4; omega
  rw [got_cnt, hc, ← want_cnt (szK sizes) i j hj P (reachL rs b f) (reach_nn hi _ _ (hops_nn hi b f))]
  unfold allL cP
  rw [List.filter_append, List.length_append]
  by_cases h1 : i = b ∧ j ≠ w
  · rw [if_pos h1]
    obtain ⟨rfl, h2⟩ := h1
    have h3 : decide (w = j) = false := by simp; omega
    rw [h3]
    simp only [decide_true, Bool.true_and, Bool.not_false, List.filter_cons, List.filter_nil]
    cases P f <;> simp <;> omega
  · rw [if_neg h1]
    have : (decide (b = i) && (!decide (w = j) && P f)) = false := by
      by_cases h2 : b = i
      · have h3 : w = j := by
          by_cases h : w = j
          · exact h
          · exact absurd ⟨h2.symm, fun h' => h h'.symm⟩ h1
        simp [h3]
      · simp [h2]
    rw [this]
    simp
theorem all_len {sizes : List Int} {rs : List Rt} (ck : CK sizes rs) {L : List Ev} {b w : Nat} {f : Fr} (hc : ∀ c, cntL c L = c b w f + sumH c (szK sizes) (reachL rs b f)) {i j : Nat} (hj : j < szK sizes i) : (gotE L i j []).length = (allL (reachL rs b f) f b w i j).length := by
  have h := all_cnt ck hc hj (fun _ => true)
  have ht : ∀ l : List Fr, l.filter (fun _ => true) = l := fun l => List.filter_eq_self.2 (fun _ _ => rfl)
  rwa [ht, ht] at h

/-! #### The law's count -/
def countF (l : List Fr) (f : Fr) : Nat := (l.filter fun x => x.same f).length
theorem countF_take (l : List Fr) (f : Fr) {i : Nat} (hi : i < l.length) : countF (l.take (i + 1)) f = countF (l.take i) f + if l[i].same f then 1 else 0 := by
  unfold countF
  rw [List.take_add_one, List.getElem?_eq_getElem hi, List.filter_append, List.length_append]
  congr 1
  simp only [Option.toList_some, List.filter_cons, List.filter_nil]
  split <;> rfl
theorem countF_le (l : List Fr) (f : Fr) : countF l f ≤ l.length := List.length_filter_le _ _
theorem l_count (m : Nat) (l : List Fr) (f : Fr) (hl : l.length ≤ 100000) (S : List PV) (hS : S.length = 22) (h0 : rd S 0 = .d (.slice (l.map Fr.D))) (h3 : rd S 3 = .ptr 0 0) (h5 : rd S 5 = .d (.int .i64 0)) (h6 : rd S 6 = .d (.int .i64 0)) (J : Store) (k : Nat) (hk : l.length < k) :
    Lp (loopN (evCode E1 (evI E1) m (theLoop Tryz.f53 0)) k ⟨S, cellsOf f.P :: J⟩) fun r => ∃ (S' : List PV), r = (.exit 0, ⟨S', cellsOf f.P :: J⟩) ∧ S'.length = 22 ∧ rd S' 5 = .d (.int .i64 (countF l f)) := by
  have hml : (l.map Fr.D).length = l.length := by simp
  refine loop_inv (fun i st => ∃ (S : List PV), st = ⟨S, cellsOf f.P :: J⟩ ∧ S.length = 22 ∧ rd S 0 = .d (.slice (l.map Fr.D)) ∧ rd S 3 = .ptr 0 0 ∧ rd S 5 = .d (.int .i64 (countF (l.take i) f)) ∧ rd S 6 = .d (.int .i64 i)) _ l.length ?_ ?_ k 0 _ (by omega) (by omega) ⟨S, rfl, hS, h0, h3, h5, h6⟩
  · rintro i st hi ⟨S, rfl, hS, h0, h3, h5, h6⟩
    have hlt : (i : Int) < (l.length : Int) := by omega
    have htk := countF_take l f hi
    have hle := countF_le (l.take i) f
    have hx : (l.map Fr.D)[i]? = some (l[i]).D := by simp [hi]
    have c1 := fun σ => r_same l[i] f σ
    rw [htk]
    rw [List.length_take] at hle
    clear htk
    generalize countF (l.take i) f = n at h5 hle ⊢
    generalize l[i] = x at hx c1 ⊢
    generalize x.same f = z at c1 ⊢
    obtain ⟨xe, xid, xrm, xln, xda⟩ := x
    obtain ⟨fe, fid, frm, fln, fda⟩ := f
    simp only [Fr.D, Fr.P, cellsOf] at hx c1 ⊢
    generalize l.map Fr.D = Ls at hx hml h0 ⊢
    obtain ⟨hi0, hx⟩ := List.getElem?_eq_some_iff.1 hx
    try simp at c1
    have hw : IntKind.i64.wrap ((n : Int) + 1) = (n : Int) + 1 := wrap_ok (by omega) (by omega)
    cases z
    · simp [theLoop, Tryz.f53, loopsAll, Lp_some, and_assoc, -rd, rd_ne, rd_eq, -loadS, -storeS, loadS_cons0, loadS_consS, cellsOf, hS, h0, h3, h5, h6, hlt, hi, hi0, hml, hx, c1, wrap_succ i (by omega)]
      done
    · simp [theLoop, Tryz.f53, loopsAll, Lp_some, and_assoc, -rd, rd_ne, rd_eq, -loadS, -storeS, loadS_cons0, loadS_consS, cellsOf, hS, h0, h3, h5, h6, hlt, hi, hi0, hml, hx, c1, hw, wrap_succ i (by omega)]
      done
  · rintro st ⟨S, rfl, hS, h0, h3, h5, h6⟩
    rw [List.take_length] at h5
    generalize countF l f = n at h5 ⊢
    generalize l.map Fr.D = Ls at hml h0 ⊢
    generalize cellsOf f.P = C
    simp [theLoop, Tryz.f53, loopsAll, Lp_some, and_assoc, -rd, rd_ne, rd_eq, hS, h0, h3, h5, h6, hml]
    done
theorem b_count (l : List Fr) (f : Fr) (hl : l.length ≤ 1000) (σ : Store) : callIt E1 (evI E1) 53 [.d (.slice (l.map Fr.D)), f.P] σ = some (.d (.int .i64 (countF l f)), σ) := by
  refine call_run (fn := Tryz.f53) 1001 rfl rfl rfl Tryz.func53 rfl rfl ?_ rfl
  have hloop := l_count 1001 l f (by omega)
  generalize countF l f = n at hloop ⊢
  generalize l.map Fr.D = Ls at hloop ⊢
  obtain ⟨fe, fid, frm, fln, fda⟩ := f
  simp only [Fr.P, cellsOf] at hloop ⊢
  simp [Tryz.f53, ec_loop, -loadS, -storeS, loadS_cons0, loadS_consS, storeS_cons0, storeS_consS, cellsOf]
  generalize hLL : loopN _ _ _ = LL
  obtain ⟨r, rfl, S, rfl, hS, h5⟩ := at_loop hLL (hloop _ rfl rfl rfl rfl rfl [] 1001 (by omega))
  simp [-rd, rd_ne, rd_eq, hS, h5]
end Go.Proofs

set_option linter.unusedVariables false
set_option linter.unusedSimpArgs false
set_option maxRecDepth 100000
set_option maxHeartbeats 8000000
namespace Go.Proofs
open Go.RowKit Go.Shelf Go.Pv

theorem appHps (A B : List Hp) (h : A.length + B.length ≤ 1000000) : evAppend Tryz.prog 98 (acc (A.map Hp.D)) (.d (.slice (B.map Hp.D))) = some (acc ((A ++ B).map Hp.D)) := by
  unfold evAppend
  rw [Ty.app98]
  have h2 : (A.length + B.length) * 64 ≤ roomB := by simp [roomB]; omega
  simp only [Option.bind_some, acc_own, elemsOf, rowsOk_Hp, Bool.true_and, List.length_map, h2, decide_true, if_true, List.map_append]
theorem nextL_take (rs : List Rt) (l : List Hp) {i : Nat} (hi : i < l.length) : nextL rs (l.take (i + 1)) = nextL rs (l.take i) ++ hopsL rs l[i].b l[i].f := by
  unfold nextL
  rw [List.take_add_one, List.getElem?_eq_getElem hi, List.flatMap_append]
  simp
theorem nextL_len (rs : List Rt) (hr : rs.length ≤ 16) : ∀ (l : List Hp), (nextL rs l).length ≤ 16 * l.length
  | [] => by simp [nextL]
  | h :: l => by
    have ih := nextL_len rs hr l
    have h1 := hopsL_len rs h.b h.f
    have : nextL rs (h :: l) = hopsL rs h.b h.f ++ nextL rs l := by unfold nextL; rw [List.flatMap_cons]
    rw [this, List.length_append, List.length_cons]
    omega
theorem l_reach1 (m : Nat) (rs : List Rt) (hr : rs.length ≤ 16) (hn : ∀ r ∈ rs, -1 ≤ r.n) (l : List Hp) (hl : l.length ≤ 5000) (v9 : PV) (S : List PV) (hS : S.length = 52) (h0 : rd S 0 = .d (.slice (rs.map Rt.D))) (h7 : rd S 7 = .ptr 0 0) (h9 : rd S 9 = v9) (pL : PV) (hpL : pL = .d (.slice (l.map Hp.D)) ∨ pL = acc (l.map Hp.D)) (h10 : rd S 10 = pL) (h11 : rd S 11 = acc []) (h12 : rd S 12 = .d (.int .i64 0)) (J : Store) (k : Nat) (hk : l.length < k) :
    Lp (loopN (evCode E1 (evI E1) m (theLoop Tryz.f52 1)) k ⟨S, J⟩) fun r => ∃ (S' : List PV), r = (.exit 2, ⟨S', J⟩) ∧ S'.length = 52 ∧ rd S' 0 = .d (.slice (rs.map Rt.D)) ∧ rd S' 7 = .ptr 0 0 ∧ rd S' 9 = v9 ∧ rd S' 11 = acc ((nextL rs l).map Hp.D) := by
  have hml : (l.map Hp.D).length = l.length := by simp
  refine loop_inv (fun i st => ∃ (S : List PV), st = ⟨S, J⟩ ∧ S.length = 52 ∧ rd S 0 = .d (.slice (rs.map Rt.D)) ∧ rd S 7 = .ptr 0 0 ∧ rd S 9 = v9 ∧ rd S 10 = pL ∧ rd S 11 = acc ((nextL rs (l.take i)).map Hp.D) ∧ rd S 12 = .d (.int .i64 i)) _ l.length ?_ ?_ k 0 _ (by omega) (by omega) ⟨S, rfl, hS, h0, h7, h9, h10, h11, h12⟩
  · rintro i st hi ⟨S, rfl, hS, h0, h7, h9, h10, h11, h12⟩
    have hlt : (i : Int) < (l.length : Int) := by omega
    have htk := nextL_take rs l hi
    have hA0 := nextL_len rs hr (l.take i)
    have h16 := hopsL_len rs l[i].b l[i].f
    have hx : (l.map Hp.D)[i]? = some (l[i]).D := by simp [hi]
    have c1 := fun σ => r_hops rs l[i].b l[i].f (by omega) hn σ
    have ha := appHps (nextL rs (l.take i)) (hopsL rs l[i].b l[i].f) (by rw [List.length_take] at hA0; omega)
    rw [← htk] at ha
    generalize (nextL rs (l.take (i + 1))).map Hp.D = A1 at ha ⊢
    generalize (nextL rs (l.take i)).map Hp.D = A0 at ha h11
    generalize (hopsL rs l[i].b l[i].f).map Hp.D = H at ha c1
    clear htk h16 hA0
    generalize l[i] = h at hx c1
    obtain ⟨hb, ⟨fe, fid, frm, fln, fda⟩⟩ := h
    generalize rs.map Rt.D = R at h0 c1 ⊢
    simp only [Hp.D] at hx c1
    try simp at c1
    rcases hpL with rfl | rfl
    · generalize l.map Hp.D = Ls at hx hml h10 ⊢
      obtain ⟨hi0, hx⟩ := List.getElem?_eq_some_iff.1 hx
      simp [theLoop, Tryz.f52, loopsAll, Lp_some, and_assoc, -rd, rd_ne, rd_eq, hS, h0, h7, h9, h10, h11, h12, hlt, hi, hi0, hml, hx, c1, ha, wrap_succ i (by omega)]
      done
    · have hne : l.map Hp.D ≠ [] := by intro h; rw [h] at hml; simp at hml; omega
      obtain ⟨x, Ls, hLs⟩ : ∃ x Ls, l.map Hp.D = x :: Ls := by
        cases hq : l.map Hp.D with
        | nil => exact absurd hq hne
        | cons x Ls => exact ⟨x, Ls, rfl⟩
      have hst : (acc (l.map Hp.D)).strip = .d (.slice (l.map Hp.D)) := by rw [hLs]; rfl
      generalize hpp : acc (l.map Hp.D) = pp at h10 hst ⊢
      generalize l.map Hp.D = Ls at hx hml hst
      obtain ⟨hi0, hx⟩ := List.getElem?_eq_some_iff.1 hx
      simp [theLoop, Tryz.f52, loopsAll, Lp_some, and_assoc, -rd, rd_ne, rd_eq, hS, h0, h7, h9, h10, h11, h12, hst, hlt, hi, hi0, hml, hx, c1, ha, wrap_succ i (by omega)]
      done
  · rintro st ⟨S, rfl, hS, h0, h7, h9, h10, h11, h12⟩
    rw [List.take_length] at h11
    generalize (nextL rs l).map Hp.D = A at h11 ⊢
    generalize rs.map Rt.D = R at h0 ⊢
    rcases hpL with rfl | rfl
    · generalize l.map Hp.D = Ls at hml h10
      simp [theLoop, Tryz.f52, loopsAll, Lp_some, and_assoc, -rd, rd_ne, rd_eq, hS, h0, h7, h9, h10, h11, h12, hml]
      done
    · generalize l.map Hp.D = Ls at hml h10
      simp [theLoop, Tryz.f52, loopsAll, Lp_some, and_assoc, -rd, rd_ne, rd_eq, hS, h0, h7, h9, h10, h11, h12, hml]
      done
def levI (rs : List Rt) (l : List Hp) : Nat → List Hp
  | 0 => l
  | d + 1 => nextL rs (levI rs l d)
def outI (rs : List Rt) (l : List Hp) : Nat → List Hp
  | 0 => []
  | d + 1 => outI rs l d ++ levI rs l d
theorem levI_next (rs : List Rt) (l : List Hp) : ∀ d, levI rs (nextL rs l) d = levI rs l (d + 1)
  | 0 => rfl
  | d + 1 => by rw [levI, levI_next rs l d, ← levI]
theorem outI_next (rs : List Rt) (l : List Hp) : ∀ d, l ++ outI rs (nextL rs l) d = outI rs l (d + 1)
  | 0 => by simp [outI, levI]
  | d + 1 => by rw [outI, ← List.append_assoc, outI_next rs l d, levI_next, outI, outI, outI]
theorem reachN_out (rs : List Rt) : ∀ (d : Nat) (l : List Hp), reachN rs d l = outI rs l d
  | 0, _ => rfl
  | d + 1, l => by rw [reachN, reachN_out rs d, outI_next]
theorem levI_dead {rs : List Rt} {l : List Hp} {d : Nat} (h : levI rs l d = []) : ∀ k, levI rs l (d + k) = []
  | 0 => h
  | k + 1 => by
    have := levI_dead h k
    rw [show d + (k + 1) = (d + k) + 1 from rfl, levI, this]
    rfl
theorem outI_dead {rs : List Rt} {l : List Hp} {d : Nat} (h : levI rs l d = []) : ∀ k, outI rs l (d + k) = outI rs l d
  | 0 => rfl
  | k + 1 => by rw [show d + (k + 1) = (d + k) + 1 from rfl, outI, levI_dead h k, List.append_nil, outI_dead h k]
theorem levI_way {rs : List Rt} {b : Int} {f : Fr} : ∀ (d : Nat), ∀ h ∈ levI rs (hopsL rs b f) d, wayN rs b (d + 1) h.b
  | 0, h, hh => by
    obtain ⟨r, hr, h1, h2⟩ := hop_of hh
    exact ⟨r, hr, h2, h1.symm⟩
  | d + 1, h, hh => by
    obtain ⟨p, hp, hh⟩ := List.mem_flatMap.1 hh
    obtain ⟨r, hr, h1, h2⟩ := hop_of hh
    exact ⟨r, hr, h2, by rw [h1]; exact levI_way d p hp⟩
theorem levI_len {rs : List Rt} (hr : rs.length ≤ 16) {b : Int} {f : Fr} : ∀ (d : Nat), (levI rs (hopsL rs b f) d).length ≤ 16 ^ (d + 1)
  | 0 => by have := hopsL_len rs b f; simp only [levI]; omega
  | d + 1 => by
    have ih := levI_len hr d (b := b) (f := f)
    have := nextL_len rs hr (levI rs (hopsL rs b f) d)
    rw [levI, Nat.pow_succ]
    omega
/-- When the levels are empty. -/
theorem levI_end {rs : List Rt} {K : Nat} (hok : routesOk rs K = true) (hlo : loopless rs K = true) (b : Int) (f : Fr) : ∃ D, D ≤ 3 ∧ levI rs (hopsL rs b f) D = [] ∧ (∀ d, d < D → levI rs (hopsL rs b f) d ≠ []) ∧ reachL rs b f = outI rs (hopsL rs b f) D := by
  obtain ⟨k1, k2, _, k4⟩ := routesOk_on hok
  have h3 : levI rs (hopsL rs b f) 3 = [] := by
    cases hx : levI rs (hopsL rs b f) 3 with
    | nil => rfl
    | cons h l =>
      have hw := levI_way (rs := rs) (b := b) (f := f) 3 h (by rw [hx]; simp)
      have := way_short ⟨by omega, by omega⟩ (fun r h => ⟨(k4 r h).1, (k4 r h).2.1⟩) ((loopless_iff hok).1 hlo) _ _ _ hw
      omega
  have hre : ∀ D, D ≤ 3 → levI rs (hopsL rs b f) D = [] → reachL rs b f = outI rs (hopsL rs b f) D := by
    intro D hD h
    unfold reachL
    rw [reachN_out]
    obtain ⟨k, hk⟩ : ∃ k, 4 = D + k := ⟨4 - D, by omega⟩
    rw [hk]
    exact outI_dead h k
  by_cases h0 : levI rs (hopsL rs b f) 0 = []
  · exact ⟨0, by omega, h0, fun d hd => by omega, hre 0 (by omega) h0⟩
  · by_cases h1 : levI rs (hopsL rs b f) 1 = []
    · exact ⟨1, by omega, h1, fun d hd => by have : d = 0 := by omega
                                             subst this; exact h0, hre 1 (by omega) h1⟩
    · by_cases h2 : levI rs (hopsL rs b f) 2 = []
      · refine ⟨2, by omega, h2, fun d hd => ?_, hre 2 (by omega) h2⟩
        have : d = 0 ∨ d = 1 := by omega
        rcases this with rfl | rfl
        · exact h0
        · exact h1
      · refine ⟨3, by omega, h3, fun d hd => ?_, hre 3 (by omega) h3⟩
        have : d = 0 ∨ d = 1 ∨ d = 2 := by omega
        rcases this with rfl | rfl | rfl
        · exact h0
        · exact h1
        · exact h2
theorem outI_len {rs : List Rt} (hr : rs.length ≤ 16) {b : Int} {f : Fr} : ∀ d, d ≤ 3 → (outI rs (hopsL rs b f) d).length ≤ 5000 * d
  | 0, _ => by simp [outI]
  | d + 1, hd => by
    have ih := outI_len hr d (b := b) (f := f) (by omega)
    have hl := levI_len hr d (b := b) (f := f)
    have : 16 ^ (d + 1) ≤ 16 ^ 3 := Nat.pow_le_pow_right (by omega) hd
    rw [outI, List.length_append]
    omega
theorem l_reach0 (m : Nat) (hm : 5000 < m) (rs : List Rt) (hr : rs.length ≤ 16) (hn : ∀ r ∈ rs, -1 ≤ r.n) (b : Int) (f : Fr) (D : Nat) (hD : D ≤ 3) (h3 : levI rs (hopsL rs b f) D = []) (h4 : ∀ d, d < D → levI rs (hopsL rs b f) d ≠ []) (S : List PV) (hS : S.length = 52) (h0 : rd S 0 = .d (.slice (rs.map Rt.D))) (h7 : rd S 7 = .ptr 0 0) (h9 : rd S 9 = acc []) (h10 : rd S 10 = .d (.slice ((hopsL rs b f).map Hp.D))) (J : Store) (k : Nat) (hk : D < k) :
    Lp (loopN (evCode E1 (evI E1) m (theLoop Tryz.f52 0)) k ⟨S, J⟩) fun r => ∃ (S' : List PV), r = (.exit 0, ⟨S', J⟩) ∧ S'.length = 52 ∧ rd S' 9 = acc ((outI rs (hopsL rs b f) D).map Hp.D) := by
  refine loop_inv (fun d st => ∃ (S : List PV) (pL : PV), st = ⟨S, J⟩ ∧ S.length = 52 ∧ rd S 0 = .d (.slice (rs.map Rt.D)) ∧ rd S 7 = .ptr 0 0 ∧ rd S 9 = acc ((outI rs (hopsL rs b f) d).map Hp.D) ∧ (pL = .d (.slice ((levI rs (hopsL rs b f) d).map Hp.D)) ∨ pL = acc ((levI rs (hopsL rs b f) d).map Hp.D)) ∧ rd S 10 = pL) _ D ?_ ?_ k 0 _ (by omega) (by omega) ⟨S, _, rfl, hS, h0, h7, h9, .inl rfl, h10⟩
  · rintro d st hd ⟨S, pL, rfl, hS, h0, h7, h9, hpL, h10⟩
    have hne := h4 d hd
    have hl := levI_len hr d (b := b) (f := f)
    have h5 : 16 ^ (d + 1) ≤ 16 ^ 3 := Nat.pow_le_pow_right (by omega) (by omega)
    have ho := outI_len hr d (b := b) (f := f) (by omega)
    have happ := appHps (outI rs (hopsL rs b f) d) (levI rs (hopsL rs b f) d) (by omega)
    have e1 : outI rs (hopsL rs b f) (d + 1) = outI rs (hopsL rs b f) d ++ levI rs (hopsL rs b f) d := rfl
    have e2 : levI rs (hopsL rs b f) (d + 1) = nextL rs (levI rs (hopsL rs b f) d) := rfl
    rw [e1, e2]
    have hloop := l_reach1 m rs hr hn (levI rs (hopsL rs b f) d) (by omega)
    have hml : ((levI rs (hopsL rs b f) d).map Hp.D).length = (levI rs (hopsL rs b f) d).length := by simp
    have hpos : 0 < (levI rs (hopsL rs b f) d).length := List.length_pos_iff.2 hne
    have hlm : (levI rs (hopsL rs b f) d).length < m := by omega
    clear e1 e2 ho hl h5 h3 h4
    generalize levI rs (hopsL rs b f) d = lv at hpL happ hloop hml hpos hne hlm ⊢
    generalize outI rs (hopsL rs b f) d = ou at h9 happ ⊢
    generalize (ou ++ lv).map Hp.D = A1 at happ ⊢
    generalize ou.map Hp.D = A0 at happ h9
    have hfin : ∀ X : List (List DV), (acc X).strip = .d (.slice X) := fun X => by cases X <;> rfl
    have hpI : (0 : Int) < (lv.length : Int) := by omega
    have hne2 : lv.map Hp.D ≠ [] := by simpa using hne
    rcases hpL with rfl | rfl
    · generalize hNX : (nextL rs lv).map Hp.D = NX at hloop ⊢
      generalize rs.map Rt.D = R at h0 hloop ⊢
      generalize hLs : lv.map Hp.D = Ls at happ hml h10 hloop hne2
      simp [theLoop, Tryz.f52, loopsAll, ec_loop, rowsFrom, acc_nil, Lp_some, and_assoc, -rd, rd_ne, rd_eq, hS, h0, h7, h9, h10, hml, hpI, hpos, hne, hne2, happ]
      generalize hLL : loopN _ _ _ = LL
      obtain ⟨r, rfl, S', rfl, hS', g0, g7, g9, g11⟩ := at_loop hLL (hloop _ _ (by simp [hS]) (by simp [-rd, rd_ne, rd_eq, hS, h0]) (by simp [-rd, rd_ne, rd_eq, hS, h7]) (by simp [-rd, rd_ne, rd_eq, hS]; rfl) _ (.inl rfl) (by simp [-rd, rd_ne, rd_eq, hS, h10]) (by simp [-rd, rd_ne, rd_eq, hS]; rfl) (by simp [-rd, rd_ne, rd_eq, hS]) J m (by omega))
      simp [Lp_some, and_assoc, -rd, rd_ne, rd_eq, hS', g0, g7, g9, g11, hfin]
      done
    · have hst := hfin (lv.map Hp.D)
      generalize hNX : (nextL rs lv).map Hp.D = NX at hloop ⊢
      generalize rs.map Rt.D = R at h0 hloop ⊢
      generalize hpp : acc (lv.map Hp.D) = pp at h10 hst hloop
      generalize hLs : lv.map Hp.D = Ls at happ hml hst hloop hne2
      simp [theLoop, Tryz.f52, loopsAll, ec_loop, rowsFrom, acc_nil, Lp_some, and_assoc, -rd, rd_ne, rd_eq, hS, h0, h7, h9, h10, hst, hml, hpI, hpos, hne, hne2, happ]
      generalize hLL : loopN _ _ _ = LL
      obtain ⟨r, rfl, S', rfl, hS', g0, g7, g9, g11⟩ := at_loop hLL (hloop _ _ (by simp [hS]) (by simp [-rd, rd_ne, rd_eq, hS, h0]) (by simp [-rd, rd_ne, rd_eq, hS, h7]) (by simp [-rd, rd_ne, rd_eq, hS]; rfl) _ (.inr rfl) (by simp [-rd, rd_ne, rd_eq, hS, h10]) (by simp [-rd, rd_ne, rd_eq, hS]; rfl) (by simp [-rd, rd_ne, rd_eq, hS]) J m (by omega))
      simp [Lp_some, and_assoc, -rd, rd_ne, rd_eq, hS', g0, g7, g9, g11, hfin]
      done
  · rintro st ⟨S, pL, rfl, hS, h0, h7, h9, hpL, h10⟩
    rw [h3] at hpL
    generalize (outI rs (hopsL rs b f) D).map Hp.D = A at h9 ⊢
    generalize rs.map Rt.D = R at h0 ⊢
    rcases hpL with rfl | rfl
    · simp only [List.map_nil] at h10
      simp [theLoop, Tryz.f52, loopsAll, Lp_some, and_assoc, -rd, rd_ne, rd_eq, hS, h0, h7, h9, h10]
      done
    · simp only [List.map_nil, acc_nil] at h10
      simp [theLoop, Tryz.f52, loopsAll, Lp_some, and_assoc, -rd, rd_ne, rd_eq, hS, h0, h7, h9, h10]
      done
theorem r_Reach (rs : List Rt) (K : Nat) (hok : routesOk rs K = true) (hlo : loopless rs K = true) (hwf : ∀ r ∈ rs, r.f.wf) (b : Int) (f : Fr) (σ : Store) : callIt E1 (evI E1) 52 [.d (.slice (rs.map Rt.D)), .d (.int .i64 K), .d (.int .i64 b), f.P] σ = some (.d (.slice ((reachL rs b f).map Hp.D)), σ) := by
  refine call_runF (fn := Tryz.f52) 5001 rfl rfl rfl Tryz.func52 rfl rfl ?_
  obtain ⟨k1, k2, hr, k4⟩ := routesOk_on hok
  have hn : ∀ r ∈ rs, -1 ≤ r.n := fun r h => by
    have := (k4 r h).2.2.2.2
    unfold Rt.idOk at this
    rw [Bool.or_eq_true, Bool.and_eq_true] at this
    rcases this with h1 | ⟨h1, _⟩
    · have := eq_of_beq h1; omega
    · have := of_decide_eq_true h1; omega
  have c1 := fun σ => r_Loopless rs K hwf σ
  rw [hlo] at c1
  have c2 := fun σ => r_hops rs b f (by omega) hn σ
  obtain ⟨D, d1, d2, d3, d4⟩ := levI_end hok hlo b f
  rw [d4]
  have hloop := l_reach0 5001 (by omega) rs hr hn b f D d1 d2 d3
  generalize (outI rs (hopsL rs b f) D).map Hp.D = A at hloop ⊢
  generalize (hopsL rs b f).map Hp.D = H at c2 hloop
  generalize rs.map Rt.D = R at c1 c2 hloop ⊢
  obtain ⟨fe, fid, frm, fln, fda⟩ := f
  simp only [Fr.P] at c2 ⊢
  try simp at c1
  try simp at c2
  simp [Tryz.f52, ec_loop, -loadS, -storeS, loadS_cons0, loadS_consS, storeS_cons0, storeS_consS, cellsOf, rowsFrom, acc_nil, c1, c2]
  generalize hLL : loopN _ _ _ = LL
  obtain ⟨r, rfl, S, rfl, hS, h9⟩ := at_loop hLL (hloop _ rfl rfl rfl rfl rfl _ 5001 (by omega))
  simp [-rd, rd_ne, rd_eq, hS, h9]
end Go.Proofs

