/- The references' questions whether two gateways, two nets are alike: a net and itself; the law's question of shape. -/
import Derived.Test.YtnnindnmpfmaaaaGreatPa
import Derived.Test.YtnnindnmpfmaaaaGreatOr
import Derived.Test.YtnnindnmpfmaaaaGreatOf
set_option linter.unusedVariables false
set_option linter.unusedSimpArgs false
set_option maxRecDepth 100000
set_option maxHeartbeats 8000000
namespace Go.Proofs
open Go.RowKit Go.Shelf Go.Pv

theorem Ty.kRt : kindsOf Tryz.prog 145 = some [.int .i64, .int .i64, .bool, .int .i64, .int .i64, .int .i64] := by kernel_rfl
theorem l_sg0 (m : Nat) (l : List Rt) (hl : l.length ≤ 100000) (a1 a2 a3 : PV) (S : List PV) (hS : S.length = 95) (h2 : rd S 2 = .ptr 0 0) (h3 : rd S 3 = .ptr 1 0) (h5 : rd S 5 = .d (.int .i64 0)) (k : Nat) (hk : l.length < k) :
    Lp (loopN (evCode E1 (evI E1) m (theLoop Tryz.f112 0)) k ⟨S, [[.d (.slice (l.map Rt.D)), a1, a2, a3], [.d (.slice (l.map Rt.D)), a1, a2, a3]]⟩) fun r => ∃ S' : List PV, r = (.exit 0, ⟨S', [[.d (.slice (l.map Rt.D)), a1, a2, a3], [.d (.slice (l.map Rt.D)), a1, a2, a3]]⟩) ∧ S'.length = 95 ∧ rd S' 2 = .ptr 0 0 ∧ rd S' 3 = .ptr 1 0 := by
  have hml : (l.map Rt.D).length = l.length := by simp
  have hxs : ∀ i : Nat, i < l.length → ∃ r : Rt, (l.map Rt.D)[i]? = some r.D := fun i hi => ⟨l[i], by simp [hi]⟩
  generalize l.map Rt.D = L at hml hxs ⊢
  refine loop_inv (fun i st => ∃ S : List PV, st = ⟨S, [[.d (.slice L), a1, a2, a3], [.d (.slice L), a1, a2, a3]]⟩ ∧ S.length = 95 ∧ rd S 2 = .ptr 0 0 ∧ rd S 3 = .ptr 1 0 ∧ rd S 5 = .d (.int .i64 i)) _ l.length ?_ ?_ k 0 _ (by omega) (by omega) ⟨S, rfl, hS, h2, h3, h5⟩
  · rintro i st hi ⟨S, rfl, hS, h2, h3, h5⟩
    have hlt : (i : Int) < (l.length : Int) := by omega
    obtain ⟨r, hx⟩ := hxs i hi
    obtain ⟨hi0, hx⟩ := List.getElem?_eq_some_iff.1 hx
    obtain ⟨ra, rb, ⟨e, mask, mt⟩, rn⟩ := r
    simp only [Rt.D] at hx
    simp [theLoop, Tryz.f112, loopsAll, Lp_some, and_assoc, -rd, rd_ne, rd_eq, -loadS, -storeS, loadS_cons0, loadS_consS, hS, h2, h3, h5, hlt, hi, hi0, hml, hx, Ty.kRt, eqCells, wrap_succ i (by omega)]
    done
  · rintro st ⟨S, rfl, hS, h2, h3, h5⟩
    simp [theLoop, Tryz.f112, loopsAll, Lp_some, and_assoc, -rd, rd_ne, rd_eq, -loadS, -storeS, loadS_cons0, loadS_consS, hS, h2, h3, h5, hml]
    done
theorem l_sg1 (m : Nat) (l : List (List Fr)) (hl : l.length ≤ 100000) (hr : ∀ r ∈ l, r.length ≤ 1000000) (a0 a1 a3 : PV) (S : List PV) (hS : S.length = 95) (h2 : rd S 2 = .ptr 0 0) (h3 : rd S 3 = .ptr 1 0) (h6 : rd S 6 = .d (.int .i64 0)) (k : Nat) (hk : l.length < k) :
    Lp (loopN (evCode E1 (evI E1) m (theLoop Tryz.f112 1)) k ⟨S, [[a0, a1, .d (.slice (l.map frsD)), a3], [a0, a1, .d (.slice (l.map frsD)), a3]]⟩) fun r => ∃ S' : List PV, r = (.exit 2, ⟨S', [[a0, a1, .d (.slice (l.map frsD)), a3], [a0, a1, .d (.slice (l.map frsD)), a3]]⟩) ∧ S'.length = 95 ∧ rd S' 2 = .ptr 0 0 ∧ rd S' 3 = .ptr 1 0 := by
  have hml : (l.map frsD).length = l.length := by simp
  have hxs : ∀ i : Nat, i < l.length → ∃ r : List Fr, r.length ≤ 1000000 ∧ (l.map frsD)[i]? = some (frsD r) := fun i hi => ⟨l[i], hr _ (List.getElem_mem hi), by simp [hi]⟩
  generalize l.map frsD = L at hml hxs ⊢
  refine loop_inv (fun i st => ∃ S : List PV, st = ⟨S, [[a0, a1, .d (.slice L), a3], [a0, a1, .d (.slice L), a3]]⟩ ∧ S.length = 95 ∧ rd S 2 = .ptr 0 0 ∧ rd S 3 = .ptr 1 0 ∧ rd S 6 = .d (.int .i64 i)) _ l.length ?_ ?_ k 0 _ (by omega) (by omega) ⟨S, rfl, hS, h2, h3, h6⟩
  · rintro i st hi ⟨S, rfl, hS, h2, h3, h6⟩
    have hlt : (i : Int) < (l.length : Int) := by omega
    obtain ⟨r, hrl, hx⟩ := hxs i hi
    obtain ⟨hi0, hx⟩ := List.getElem?_eq_some_iff.1 hx
    have c1 := fun σ => r_sameAll r hrl σ
    simp only [frsD] at hx
    generalize r.map Fr.D = R at hx c1
    simp [theLoop, Tryz.f112, loopsAll, Lp_some, and_assoc, -rd, rd_ne, rd_eq, -loadS, -storeS, loadS_cons0, loadS_consS, hS, h2, h3, h6, hlt, hi, hi0, hml, hx, c1, wrap_succ i (by omega)]
    done
  · rintro st ⟨S, rfl, hS, h2, h3, h6⟩
    simp [theLoop, Tryz.f112, loopsAll, Lp_some, and_assoc, -rd, rd_ne, rd_eq, -loadS, -storeS, loadS_cons0, loadS_consS, hS, h2, h3, h6, hml]
    done
theorem l_sg2 (m : Nat) (l : List Int) (hl : l.length ≤ 100000) (a0 a1 a2 : PV) (S : List PV) (hS : S.length = 95) (h2 : rd S 2 = .ptr 0 0) (h3 : rd S 3 = .ptr 1 0) (h7 : rd S 7 = .d (.int .i64 0)) (k : Nat) (hk : l.length < k) :
    Lp (loopN (evCode E1 (evI E1) m (theLoop Tryz.f112 2)) k ⟨S, [[a0, a1, a2, .d (.slice (l.map intD))], [a0, a1, a2, .d (.slice (l.map intD))]]⟩) fun r => ∃ S' : List PV, r = (.exit 4, ⟨S', [[a0, a1, a2, .d (.slice (l.map intD))], [a0, a1, a2, .d (.slice (l.map intD))]]⟩) ∧ S'.length = 95 := by
  have hml : (l.map intD).length = l.length := by simp
  have hxs : ∀ i : Nat, i < l.length → ∃ r : Int, (l.map intD)[i]? = some (intD r) := fun i hi => ⟨l[i], by simp [hi]⟩
  generalize l.map intD = L at hml hxs ⊢
  refine loop_inv (fun i st => ∃ S : List PV, st = ⟨S, [[a0, a1, a2, .d (.slice L)], [a0, a1, a2, .d (.slice L)]]⟩ ∧ S.length = 95 ∧ rd S 2 = .ptr 0 0 ∧ rd S 3 = .ptr 1 0 ∧ rd S 7 = .d (.int .i64 i)) _ l.length ?_ ?_ k 0 _ (by omega) (by omega) ⟨S, rfl, hS, h2, h3, h7⟩
  · rintro i st hi ⟨S, rfl, hS, h2, h3, h7⟩
    have hlt : (i : Int) < (l.length : Int) := by omega
    obtain ⟨r, hx⟩ := hxs i hi
    obtain ⟨hi0, hx⟩ := List.getElem?_eq_some_iff.1 hx
    simp only [intD] at hx
    simp [theLoop, Tryz.f112, loopsAll, Lp_some, and_assoc, -rd, rd_ne, rd_eq, -loadS, -storeS, loadS_cons0, loadS_consS, hS, h2, h3, h7, hlt, hi, hi0, hml, hx, wrap_succ i (by omega)]
    done
  · rintro st ⟨S, rfl, hS, h2, h3, h7⟩
    simp [theLoop, Tryz.f112, loopsAll, Lp_some, and_assoc, -rd, rd_ne, rd_eq, -loadS, -storeS, loadS_cons0, loadS_consS, hS, h2, h3, h7, hml]
    done
/-- A gateway with rows that are not too long. -/
structure Gt.fine (g : Gt) : Prop where
  rs : g.rs.length ≤ 10000
  out : g.out.length ≤ 10000
  lo : g.lost.length ≤ 10000
  row : ∀ r ∈ g.out, r.length ≤ 1000000
theorem r_sameG (g : Gt) (h : g.fine) (σ : Store) : callIt E1 (evI E1) 112 [g.P, g.P] σ = some (.d (.bool true), σ) := by
  refine call_run (fn := Tryz.f112) 10001 rfl rfl rfl Tryz.func112 rfl rfl ?_ rfl
  obtain ⟨h1, h2, h3, h4⟩ := h
  obtain ⟨rs, cap, out, lost⟩ := g
  simp only at h1 h2 h3 h4
  have e0 := fun a1 a2 a3 => l_sg0 10001 rs (by omega) a1 a2 a3
  have e1 := fun a0 a1 a3 => l_sg1 10001 out (by omega) h4 a0 a1 a3
  have e2 := fun a0 a1 a2 => l_sg2 10001 lost (by omega) a0 a1 a2
  simp only [Gt.P]
  generalize rs.map Rt.D = a0 at e0 ⊢
  generalize out.map frsD = a2 at e1 ⊢
  generalize lost.map intD = a3 at e2 ⊢
  simp [Tryz.f112, ec_loop, -loadS, -storeS, loadS_cons0, loadS_consS, storeS_cons0, storeS_consS, cellsOf]
  generalize hLL : loopN _ _ _ = LL
  obtain ⟨r, rfl, S, rfl, hS, g2, g3⟩ := at_loop hLL (e0 _ _ _ _ rfl rfl rfl rfl 10001 (by omega))
  simp [-rd, rd_ne, rd_eq, hS, g2, g3, ec_loop]
  generalize hLL2 : loopN _ _ _ = LL2
  obtain ⟨r, rfl, S2, rfl, hS2, k2, k3⟩ := at_loop hLL2 (e1 _ _ _ _ (by simp [hS]) (by simp [-rd, rd_ne, rd_eq, hS, g2]) (by simp [-rd, rd_ne, rd_eq, hS, g3]) (by simp [-rd, rd_ne, rd_eq, hS]) 10001 (by omega))
  simp [-rd, rd_ne, rd_eq, hS2, k2, k3, ec_loop]
  generalize hLL3 : loopN _ _ _ = LL3
  obtain ⟨r, rfl, S3, rfl, hS3⟩ := at_loop hLL3 (e2 _ _ _ _ (by simp [hS2]) (by simp [-rd, rd_ne, rd_eq, hS2, k2]) (by simp [-rd, rd_ne, rd_eq, hS2, k3]) (by simp [-rd, rd_ne, rd_eq, hS2]) 10001 (by omega))
  simp [-rd, rd_ne, rd_eq, hS3]

/-- A net with rows that are not too long. -/
structure Nt.fine (n : Nt) : Prop where
  bs : n.bs.length ≤ 1000
  rows : ∀ r ∈ n.bs, r.length ≤ 1000000 ∧ ∀ x ∈ r, x.good
  g : n.g.fine
theorem l_sn (m : Nat) (l : List (List Nd)) (hl : l.length ≤ 1000) (hr : ∀ r ∈ l, r.length ≤ 1000000 ∧ ∀ x ∈ r, x.good) (a1 a2 a3 a4 : PV) (S : List PV) (hS : S.length = 37) (h2 : rd S 2 = .ptr 0 0) (h3 : rd S 3 = .ptr 1 0) (h5 : rd S 5 = .d (.int .i64 0)) (k : Nat) (hk : l.length < k) :
    Lp (loopN (evCode E1 (evI E1) m (theLoop Tryz.f45 0)) k ⟨S, [[.d (.slice (l.map ndsD)), a1, a2, a3, a4], [.d (.slice (l.map ndsD)), a1, a2, a3, a4]]⟩) fun r => ∃ S' : List PV, r = (.exit 0, ⟨S', [[.d (.slice (l.map ndsD)), a1, a2, a3, a4], [.d (.slice (l.map ndsD)), a1, a2, a3, a4]]⟩) ∧ S'.length = 37 ∧ rd S' 2 = .ptr 0 0 ∧ rd S' 3 = .ptr 1 0 := by
  have hml : (l.map ndsD).length = l.length := by simp
  have hxs : ∀ i : Nat, i < l.length → ∃ r : List Nd, (r.length ≤ 1000000 ∧ ∀ x ∈ r, x.good) ∧ (l.map ndsD)[i]? = some (ndsD r) := fun i hi => ⟨l[i], hr _ (List.getElem_mem hi), by simp [hi]⟩
  generalize l.map ndsD = L at hml hxs ⊢
  refine loop_inv (fun i st => ∃ S : List PV, st = ⟨S, [[.d (.slice L), a1, a2, a3, a4], [.d (.slice L), a1, a2, a3, a4]]⟩ ∧ S.length = 37 ∧ rd S 2 = .ptr 0 0 ∧ rd S 3 = .ptr 1 0 ∧ rd S 5 = .d (.int .i64 i)) _ l.length ?_ ?_ k 0 _ (by omega) (by omega) ⟨S, rfl, hS, h2, h3, h5⟩
  · rintro i st hi ⟨S, rfl, hS, h2, h3, h5⟩
    have hlt : (i : Int) < (l.length : Int) := by omega
    obtain ⟨r, ⟨hrl, hrg⟩, hx⟩ := hxs i hi
    obtain ⟨hi0, hx⟩ := List.getElem?_eq_some_iff.1 hx
    have c1 := fun σ => r_sameNs r hrg hrl σ
    simp only [ndsD] at hx
    generalize r.map Nd.D = R at hx c1
    simp [theLoop, Tryz.f45, loopsAll, Lp_some, and_assoc, -rd, rd_ne, rd_eq, -loadS, -storeS, loadS_cons0, loadS_consS, hS, h2, h3, h5, hlt, hi, hi0, hml, hx, c1, wrap_succ i (by omega)]
    done
  · rintro st ⟨S, rfl, hS, h2, h3, h5⟩
    simp [theLoop, Tryz.f45, loopsAll, Lp_some, and_assoc, -rd, rd_ne, rd_eq, -loadS, -storeS, loadS_cons0, loadS_consS, hS, h2, h3, h5, hml]
    done
theorem r_sameN (n : Nt) (h : n.fine) (σ : Store) : callIt E1 (evI E1) 45 [n.P, n.P] σ = some (.d (.bool true), σ) := by
  refine call_run (fn := Tryz.f45) 1001 rfl rfl rfl Tryz.func45 rfl rfl ?_ rfl
  obtain ⟨h1, h2, h3⟩ := h
  obtain ⟨bs, g⟩ := n
  simp only at h1 h2 h3
  have c1 := fun σ => r_sameG g h3 σ
  obtain ⟨rs, cap, out, lost⟩ := g
  have e0 := fun a1 a2 a3 a4 => l_sn 1001 bs h1 h2 a1 a2 a3 a4
  simp only [Nt.P]
  simp only [Gt.P] at c1
  generalize bs.map ndsD = b0 at e0 ⊢
  generalize rs.map Rt.D = a0 at c1 ⊢
  generalize out.map frsD = a2 at c1 ⊢
  generalize lost.map intD = a3 at c1 ⊢
  simp [Tryz.f45, ec_loop, -loadS, -storeS, loadS_cons0, loadS_consS, storeS_cons0, storeS_consS, cellsOf]
  generalize hLL : loopN _ _ _ = LL
  obtain ⟨r, rfl, S, rfl, hS, g2, g3⟩ := at_loop hLL (e0 _ _ _ _ _ rfl rfl rfl rfl 1001 (by omega))
  simp [-rd, rd_ne, rd_eq, -loadS, -storeS, loadS_cons0, loadS_consS, hS, g2, g3, c1]

end Go.Proofs

