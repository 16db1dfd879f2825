/- The law of nets: its question whether there is too much. -/
import Derived.Test.YtnnindnmpfmaaaaGreatPa
import Derived.Test.YtnnindnmpfmaaaaGreatOr
import Derived.Test.YtnnindnmpfmaaaaGreatNi
set_option linter.unusedVariables false
set_option linter.unusedSimpArgs false
set_option maxRecDepth 100000
set_option maxHeartbeats 8000000
namespace Go.Proofs
open Go.RowKit Go.Shelf Go.Pv

/-- What is done to a net. -/
structure Act where
  d : Int
  b : Int
  n : Int
  f : Fr
  who : List Int
  m : Int
@[simp] def Act.D (a : Act) : List DV := [.int .u8 a.d, .int .i64 a.b, .int .i64 a.n, .bool a.f.e, .int .i64 a.f.id, .bool a.f.rm, .int .i64 a.f.ln, .slice (a.f.data.map byD), .slice (a.who.map intD), .int .i64 a.m]
@[simp] theorem rowsOk_Act (l : List Act) : rowsOk 10 (l.map Act.D) = true := rowsOk_map (D := Act.D) (fun _ => rfl) l
def Act.great (a : Act) : Bool := decide (30 < (a.who.length : Int)) || a.f.great || decide (30 < a.m)
def rowGreat (row : List Nd) : Bool := decide (20 < (row.length : Int)) || row.any Nd.great
def great14 (l : List (List Nd)) (r : List Rt) (a : List Act) : Bool := decide (10 < (l.length : Int)) || decide (40 < (r.length : Int)) || decide (30 < (a.length : Int)) || l.any rowGreat || a.any Act.great

theorem l_gr14i (m : Nat) (L : List (List DV)) (row : List Nd) (i : Nat) (hx : L[i]? = some (ndsD row)) (hrl : row.length ≤ 20) (S : List PV) (hS : S.length = 81) (v1 v2 : PV) (h0 : rd S 0 = .d (.slice L)) (h1 : rd S 1 = v1) (h2 : rd S 2 = v2) (h6 : rd S 6 = .d (.bool false)) (h7 : rd S 7 = .d (.int .i64 i)) (h8 : rd S 8 = .d (.int .i64 0)) (J : Store) (k : Nat) (hk : row.length < k) :
    Lp (loopN (evCode E1 (evI E1) m (theLoop Tryz.f43 1)) k ⟨S, J⟩) fun r => ∃ (J : Store) (S' : List PV), S'.length = 81 ∧ rd S' 0 = .d (.slice L) ∧ rd S' 1 = v1 ∧ rd S' 2 = v2 ∧ rd S' 7 = .d (.int .i64 i) ∧ ((r = (.exit 2, ⟨S', J⟩) ∧ rd S' 6 = .d (.bool false) ∧ row.any Nd.great = false) ∨ (r = (.ret, ⟨S', J⟩) ∧ rd S' 6 = .d (.bool true) ∧ row.any Nd.great = true)) := by
  obtain ⟨hi0, hx⟩ := List.getElem?_eq_some_iff.1 hx
  have hml : (row.map Nd.D).length = row.length := by simp
  refine loop_inv (fun j st => ∃ (J : Store) (S : List PV), st = ⟨S, J⟩ ∧ S.length = 81 ∧ (row.take j).any Nd.great = false ∧ rd S 0 = .d (.slice L) ∧ rd S 1 = v1 ∧ rd S 2 = v2 ∧ rd S 6 = .d (.bool false) ∧ rd S 7 = .d (.int .i64 i) ∧ rd S 8 = .d (.int .i64 j)) _ row.length ?_ ?_ k 0 _ (by omega) (by omega) ⟨J, S, rfl, hS, rfl, h0, h1, h2, h6, h7, h8⟩
  · rintro j st hj ⟨J, S, rfl, hS, he, h0, h1, h2, h6, h7, h8⟩
    have hlt : (j : Int) < (row.length : Int) := by omega
    have htk := any_take (p := Nd.great) hj
    rw [he, Bool.false_or] at htk
    have hall := any_of (p := Nd.great) hj
    have hy : (row.map Nd.D)[j]? = some (row[j]).D := by simp [hj]
    have c1 := fun σ => b_great row[j] σ
    generalize (row.take (j + 1)).any Nd.great = z1 at htk ⊢
    generalize row.any Nd.great = z2 at hall ⊢
    generalize row[j] = x at htk hall hy c1
    generalize x.great = gr at htk hall c1
    obtain ⟨q, fs, ⟨ct, cr, cs, cz⟩, gg⟩ := x
    simp only [ndsD] at hx
    generalize row.map Nd.D = R at hx hml hy
    obtain ⟨hj0, hy⟩ := List.getElem?_eq_some_iff.1 hy
    simp only [Nd.D] at hy
    clear he
    try simp at c1
    cases gr
    · subst htk
      clear hall
      simp [theLoop, Tryz.f43, loopsAll, Lp_some, and_assoc, -rd, rd_ne, rd_eq, -loadS, -storeS, hS, h0, h1, h2, h6, h7, h8, hi0, hx, hml, hj, hj0, hy, hlt, c1, wrap_succ j (by omega)]
      done
    · have h2' := hall rfl
      clear htk hall
      subst h2'
      simp [theLoop, Tryz.f43, loopsAll, Lp_some, and_assoc, -rd, rd_ne, rd_eq, -loadS, -storeS, hS, h0, h1, h2, h6, h7, h8, hi0, hx, hml, hj, hj0, hy, hlt, c1]
      refine ⟨_, _, ?_, ?_, ?_, ?_, ?_, rfl, rfl, ?_⟩ <;> simp [-rd, rd_ne, rd_eq, hS, h0, h1, h2, h6, h7]
  · rintro st ⟨J, S, rfl, hS, he, h0, h1, h2, h6, h7, h8⟩
    rw [List.take_length] at he
    generalize row.any Nd.great = z at he ⊢
    subst he
    simp only [ndsD] at hx
    generalize row.map Nd.D = R at hx hml
    simp [theLoop, Tryz.f43, loopsAll, Lp_some, and_assoc, -rd, rd_ne, rd_eq, hS, h0, h1, h2, h6, h7, h8, hi0, hx, hml]
    refine ⟨_, _, ?_, ?_, ?_, ?_, ?_, rfl, rfl, ?_⟩ <;> simp [-rd, rd_ne, rd_eq, hS, h0, h1, h2, h6, h7]

theorem l_gr14o (m : Nat) (l : List (List Nd)) (hl : l.length ≤ 10) (hm : 21 < m) (S : List PV) (hS : S.length = 81) (v1 v2 : PV) (h0 : rd S 0 = .d (.slice (l.map ndsD))) (h1 : rd S 1 = v1) (h2 : rd S 2 = v2) (h6 : rd S 6 = .d (.bool false)) (h7 : rd S 7 = .d (.int .i64 0)) (J : Store) (k : Nat) (hk : l.length < k) :
    Lp (loopN (evCode E1 (evI E1) m (theLoop Tryz.f43 0)) k ⟨S, J⟩) fun r => ∃ (J : Store) (S' : List PV), S'.length = 81 ∧ rd S' 2 = v2 ∧ ((r = (.exit 0, ⟨S', J⟩) ∧ rd S' 6 = .d (.bool false) ∧ l.any rowGreat = false) ∨ (r = (.ret, ⟨S', J⟩) ∧ rd S' 6 = .d (.bool true) ∧ l.any rowGreat = true)) := by
  have hml : (l.map ndsD).length = l.length := by simp
  refine loop_inv (fun i st => ∃ (J : Store) (S : List PV), st = ⟨S, J⟩ ∧ S.length = 81 ∧ (l.take i).any rowGreat = false ∧ rd S 0 = .d (.slice (l.map ndsD)) ∧ rd S 1 = v1 ∧ rd S 2 = v2 ∧ rd S 6 = .d (.bool false) ∧ rd S 7 = .d (.int .i64 i)) _ l.length ?_ ?_ k 0 _ (by omega) (by omega) ⟨J, S, rfl, hS, rfl, h0, h1, h2, h6, h7⟩
  · rintro i st hi ⟨J, S, rfl, hS, he, h0, h1, h2, h6, h7⟩
    have hlt : (i : Int) < (l.length : Int) := by omega
    have htk := any_take (p := rowGreat) hi
    rw [he, Bool.false_or] at htk
    have hall := any_of (p := rowGreat) hi
    have hx : (l.map ndsD)[i]? = some (ndsD l[i]) := by simp [hi]
    generalize (l.take (i + 1)).any rowGreat = z1 at htk ⊢
    generalize l.any rowGreat = z2 at hall ⊢
    generalize l[i] = row at htk hall hx
    unfold rowGreat at htk hall
    have hloop := fun h => l_gr14i m (l.map ndsD) row i hx h
    generalize l.map ndsD = L at hx hml hloop h0 ⊢
    have hmr : (row.map Nd.D).length = row.length := by simp
    obtain ⟨hi0, hx⟩ := List.getElem?_eq_some_iff.1 hx
    simp only [ndsD] at hx
    generalize row.map Nd.D = R at hx hmr
    clear he
    by_cases hc : 20 < (row.length : Int)
    · have h2' := hall (by simp [hc])
      clear htk hall hloop
      subst h2'
      simp [theLoop, Tryz.f43, loopsAll, ec_loop, Lp_some, and_assoc, -rd, rd_ne, rd_eq, -loadS, -storeS, hS, h0, h1, h2, h6, h7, hi, hi0, hx, hml, hmr, hlt, hc]
      refine ⟨_, _, ?_, ?_, rfl, rfl, ?_⟩ <;> simp [-rd, rd_ne, rd_eq, hS, h0, h1, h2, h6, h7]
    · have hd : decide (20 < (row.length : Int)) = false := by simpa using hc
      rw [hd, Bool.false_or] at htk
      rw [hd, Bool.false_or] at hall
      have hloop := hloop (by omega)
      generalize row.any Nd.great = z at htk hall hloop
      simp [theLoop, Tryz.f43, loopsAll, ec_loop, Lp_some, and_assoc, -rd, rd_ne, rd_eq, -loadS, -storeS, hS, h0, h1, h2, h6, h7, hi, hi0, hx, hml, hmr, hlt, hc]
      generalize hLL : loopN _ _ _ = LL
      obtain ⟨r, rfl, J', S', hS', g0, g1, g2, g7, hr⟩ := at_loop hLL (hloop _ (by simp [hS]) _ _ (by simp [-rd, rd_ne, rd_eq, hS, h0]) (by simp [-rd, rd_ne, rd_eq, hS, h1]; rfl) (by simp [-rd, rd_ne, rd_eq, hS, h2]; rfl) (by simp [-rd, rd_ne, rd_eq, hS, h6]) (by simp [-rd, rd_ne, rd_eq, hS, h7]) (by simp [-rd, rd_ne, rd_eq, hS]) _ m (by omega))
      rcases hr with ⟨rfl, g6, rfl⟩ | ⟨rfl, g6, rfl⟩
      · subst htk
        simp [Lp_some, and_assoc, -rd, rd_ne, rd_eq, hS', g0, g1, g2, g6, g7, wrap_succ i (by omega)]
        done
      · have h2' := hall rfl
        subst h2'
        simp [Lp_some, and_assoc, -rd, rd_ne, rd_eq, hS', g0, g1, g2, g6, g7]
        refine ⟨_, _, ?_, ?_, rfl, rfl, ?_⟩ <;> simp [-rd, rd_ne, rd_eq, hS', g0, g1, g2, g6, g7]
  · rintro st ⟨J, S, rfl, hS, he, h0, h1, h2, h6, h7⟩
    rw [List.take_length] at he
    generalize l.any rowGreat = z at he ⊢
    subst he
    generalize l.map ndsD = L at hml h0 ⊢
    simp [theLoop, Tryz.f43, loopsAll, Lp_some, and_assoc, -rd, rd_ne, rd_eq, hS, h0, h1, h2, h6, h7, hml]
    refine ⟨_, _, ?_, ?_, rfl, rfl, ?_⟩ <;> simp [-rd, rd_ne, rd_eq, hS, h0, h1, h2, h6, h7]

theorem l_gr14a (m : Nat) (l : List Act) (hl : l.length ≤ 30) (S : List PV) (hS : S.length = 81) (h2 : rd S 2 = .d (.slice (l.map Act.D))) (h6 : rd S 6 = .d (.bool false)) (h9 : rd S 9 = .d (.int .i64 0)) (J : Store) (k : Nat) (hk : l.length < k) :
    Lp (loopN (evCode E1 (evI E1) m (theLoop Tryz.f43 2)) k ⟨S, J⟩) fun r => ∃ (J : Store) (S' : List PV), S'.length = 81 ∧ ((r = (.exit 4, ⟨S', J⟩) ∧ l.any Act.great = false) ∨ (r = (.ret, ⟨S', J⟩) ∧ rd S' 6 = .d (.bool true) ∧ l.any Act.great = true)) := by
  have hml : (l.map Act.D).length = l.length := by simp
  refine loop_inv (fun i st => ∃ (J : Store) (S : List PV), st = ⟨S, J⟩ ∧ S.length = 81 ∧ (l.take i).any Act.great = false ∧ rd S 2 = .d (.slice (l.map Act.D)) ∧ rd S 6 = .d (.bool false) ∧ rd S 9 = .d (.int .i64 i)) _ l.length ?_ ?_ k 0 _ (by omega) (by omega) ⟨J, S, rfl, hS, rfl, h2, h6, h9⟩
  · rintro i st hi ⟨J, S, rfl, hS, he, h2, h6, h9⟩
    have hlt : (i : Int) < (l.length : Int) := by omega
    have htk := any_take (p := Act.great) hi
    rw [he, Bool.false_or] at htk
    have hall := any_of (p := Act.great) hi
    have hx : (l.map Act.D)[i]? = some (l[i]).D := by simp [hi]
    generalize (l.take (i + 1)).any Act.great = z1 at htk ⊢
    generalize l.any Act.great = z2 at hall ⊢
    generalize l[i] = a at htk hall hx
    unfold Act.great at htk hall
    have c1 := fun σ => r_great a.f σ
    generalize a.f.great = gr at htk hall c1
    obtain ⟨d, b, n, ⟨e, id, rm, ln, data⟩, who, mm⟩ := a
    simp only [Act.D] at htk hall hx c1
    have hmw : (who.map intD).length = who.length := by simp
    generalize who.map intD = W at hx hmw
    generalize l.map Act.D = L at hx hml h2 ⊢
    obtain ⟨hi0, hx⟩ := List.getElem?_eq_some_iff.1 hx
    clear he
    try simp at c1
    by_cases hw : 30 < (who.length : Int)
    · have h2' := hall (by simp [hw])
      clear htk hall
      subst h2'
      simp [theLoop, Tryz.f43, loopsAll, ec_loop, Lp_some, and_assoc, -rd, rd_ne, rd_eq, -loadS, -storeS, hS, h2, h6, h9, hi, hi0, hx, hml, hmw, hlt, hw]
      refine ⟨_, _, ?_, rfl, rfl, ?_⟩ <;> simp [-rd, rd_ne, rd_eq, hS, h2, h6, h9]
    · have hd : decide (30 < (who.length : Int)) = false := by simpa using hw
      rw [hd, Bool.false_or] at htk hall
      cases gr
      · rw [Bool.false_or] at htk hall
        by_cases hm : 30 < mm
        · have h2' := hall (by simp [hm])
          clear htk hall
          subst h2'
          simp [theLoop, Tryz.f43, loopsAll, ec_loop, Lp_some, and_assoc, -rd, rd_ne, rd_eq, -loadS, -storeS, hS, h2, h6, h9, hi, hi0, hx, hml, hmw, hlt, hw, hm, c1]
          refine ⟨_, _, ?_, rfl, rfl, ?_⟩ <;> simp [-rd, rd_ne, rd_eq, hS, h2, h6, h9]
        · have hdm : decide (30 < mm) = false := by simpa using hm
          rw [hdm] at htk
          clear hall
          subst htk
          simp [theLoop, Tryz.f43, loopsAll, ec_loop, Lp_some, and_assoc, -rd, rd_ne, rd_eq, -loadS, -storeS, hS, h2, h6, h9, hi, hi0, hx, hml, hmw, hlt, hw, hm, c1, wrap_succ i (by omega)]
          done
      · have h2' := hall (by simp)
        clear htk hall
        subst h2'
        simp [theLoop, Tryz.f43, loopsAll, ec_loop, Lp_some, and_assoc, -rd, rd_ne, rd_eq, -loadS, -storeS, hS, h2, h6, h9, hi, hi0, hx, hml, hmw, hlt, hw, c1]
        refine ⟨_, _, ?_, rfl, rfl, ?_⟩ <;> simp [-rd, rd_ne, rd_eq, hS, h2, h6, h9]
  · rintro st ⟨J, S, rfl, hS, he, h2, h6, h9⟩
    rw [List.take_length] at he
    generalize l.any Act.great = z at he ⊢
    subst he
    generalize l.map Act.D = L at hml h2 ⊢
    simp [theLoop, Tryz.f43, loopsAll, Lp_some, and_assoc, -rd, rd_ne, rd_eq, hS, h2, h6, h9, hml]
    refine ⟨_, _, ?_, rfl, rfl⟩ <;> simp [-rd, rd_ne, rd_eq, hS, h2, h6, h9]

theorem b_great14 (l : List (List Nd)) (r : List Rt) (a : List Act) (σ : Store) : callIt E1 (evI E1) 43 [.d (.slice (l.map ndsD)), .d (.slice (r.map Rt.D)), .d (.slice (a.map Act.D))] σ = some (.d (.bool (great14 l r a)), σ) := by
  refine call_run (fn := Tryz.f43) 100 rfl rfl rfl Tryz.func43 rfl rfl ?_ rfl
  unfold great14
  have hml : (l.map ndsD).length = l.length := by simp
  have hmr : (r.map Rt.D).length = r.length := by simp
  have hma : (a.map Act.D).length = a.length := by simp
  have hloop := fun h => l_gr14o 100 l h (by omega)
  have hloop2 := fun h => l_gr14a 100 a h
  generalize l.map ndsD = L at hml hloop ⊢
  generalize r.map Rt.D = R at hmr ⊢
  generalize a.map Act.D = A at hma hloop2 ⊢
  generalize l.any rowGreat = z1 at hloop ⊢
  generalize a.any Act.great = z2 at hloop2 ⊢
  by_cases h1 : 10 < (l.length : Int)
  · simp [Tryz.f43, ec_loop, -loadS, -storeS, hml, hmr, hma, h1]
  · by_cases h2 : 40 < (r.length : Int)
    · simp [Tryz.f43, ec_loop, -loadS, -storeS, hml, hmr, hma, h1, h2]
    · by_cases h3 : 30 < (a.length : Int)
      · simp [Tryz.f43, ec_loop, -loadS, -storeS, hml, hmr, hma, h1, h2, h3]
      · simp [Tryz.f43, ec_loop, -loadS, -storeS, hml, hmr, hma, h1, h2, h3]
        generalize hLL : loopN _ _ _ = LL
        obtain ⟨r', rfl, J', S', hS', g2, hr⟩ := at_loop hLL (hloop (by omega) _ rfl _ _ rfl rfl rfl rfl rfl _ 100 (by omega))
        rcases hr with ⟨rfl, g6, rfl⟩ | ⟨rfl, g6, rfl⟩
        · simp at g2
          change rd S' 2 = _ at g2
          simp [-rd, rd_ne, rd_eq, hS', g2, g6, ec_loop]
          generalize hLL2 : loopN _ _ _ = LL2
          obtain ⟨r', rfl, J2, S2, hS2, hr⟩ := at_loop hLL2 (hloop2 (by omega) _ (by simp [hS']) (by simp [-rd, rd_ne, rd_eq, hS', g2]) (by simp [-rd, rd_ne, rd_eq, hS', g6]) (by simp [-rd, rd_ne, rd_eq, hS']) _ 100 (by omega))
          rcases hr with ⟨rfl, rfl⟩ | ⟨rfl, g6, rfl⟩
          · simp [-rd, rd_ne, rd_eq, hS2]
          · simp [-rd, rd_ne, rd_eq, hS2, g6, rd_el g6 (by omega)]
        · simp [-rd, rd_ne, rd_eq, hS', g6, rd_el g6 (by omega)]

theorem great14_no {l : List (List Nd)} {r : List Rt} {a : List Act} (h : great14 l r a = false) : l.length ≤ 10 ∧ r.length ≤ 40 ∧ a.length ≤ 30 ∧ (∀ x ∈ l, x.length ≤ 20 ∧ ∀ n ∈ x, n.great = false) ∧ ∀ x ∈ a, x.who.length ≤ 30 ∧ x.f.data.length ≤ 100 ∧ x.m ≤ 30 := by
  unfold great14 at h
  simp only [Bool.or_eq_false_iff, decide_eq_false_iff_not, List.any_eq_false] at h
  obtain ⟨⟨⟨⟨h1, h2⟩, h3⟩, h4⟩, h5⟩ := h
  refine ⟨by omega, by omega, by omega, fun x hx => ?_, fun x hx => ?_⟩
  · have := h4 x hx
    unfold rowGreat at this
    simp only [Bool.not_eq_true, Bool.or_eq_false_iff, decide_eq_false_iff_not, List.any_eq_false] at this
    exact ⟨by omega, fun n hn => this.2 n hn⟩
  · have := h5 x hx
    unfold Act.great Fr.great at this
    simp only [Bool.not_eq_true, Bool.or_eq_false_iff, decide_eq_false_iff_not] at this
    omega
end Go.Proofs

