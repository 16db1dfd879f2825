/- The references' questions whether two gateways, two nets are alike: a net and itself; the law's question of shape; Bytes counted; The law of nets: what is done ahead of a calm; The references of gateways and nets: what goes next, what waits, whether a net is still; The reference of nets: a row, or a net, with another thing at a place; a frame that is sent; The seat of nodes: the reference's question whether one of many filters takes a frame; The seat of nodes: the reference's place of the next frame; The seat of nodes: the reference's place, its rows of filters and frames; Filters: the reference is the code. Plain; The seat of nodes: the reference's node; The seat of nodes: the reference's node: what it makes is what the program makes; The reference of nets: a frame that is sent; what the gateway's node is offered; By which routes a frame comes back: heights say the same as ways do. Plain; The reference of routes: whether they may be, whether one comes back, where a frame goes. -/
import Derived.Test.YtnnindnmpfmaaaaGreatNt09
import Derived.Test.YtnnindnmpfmaaaaGreatNt10
import Derived.Test.YtnnindnmpfmaaaaGreatNt11
import Derived.Test.YtnnindnmpfmaaaaGreatNt08
set_option linter.unusedVariables false
set_option linter.unusedSimpArgs false
set_option maxRecDepth 100000
set_option maxHeartbeats 8000000
namespace Go.Proofs
open Go.RowKit Go.Shelf Go.Pv
theorem Ty.kRt : kindsOf Tryz.prog 145 = some [.int .i64, .int .i64, .bool, .int .i64, .int .i64, .int .i64] := by kernel_rfl
theorem l_sg0 (m : Nat) (l : List Rt) (hl : l.length ≤ 100000) (a1 a2 a3 : PV) (S : List PV) (hS : S.length = 95) (h2 : rd S 2 = .ptr 0 0) (h3 : rd S 3 = .ptr 1 0) (h5 : rd S 5 = .d (.int .i64 0)) (k : Nat) (hk : l.length < k) :
  Lp (loopN (evCode E1 (evI E1) m (theLoop Tryz.f112 0)) k ⟨S, [[.d (.slice (l.map Rt.D)), a1, a2, a3], [.d (.slice (l.map Rt.D)), a1, a2, a3]]⟩) fun r => ∃ S' : List PV, r = (.exit 0, ⟨S', [[.d (.slice (l.map Rt.D)), a1, a2, a3], [.d (.slice (l.map Rt.D)), a1, a2, a3]]⟩) ∧ S'.length = 95 ∧ rd S' 2 = .ptr 0 0 ∧ rd S' 3 = .ptr 1 0 := by
 have hml : (l.map Rt.D).length = l.length := by simp
 have hxs : ∀ i : Nat, i < l.length → ∃ r : Rt, (l.map Rt.D)[i]? = some r.D := fun i hi => ⟨l[i], by simp [hi]⟩
 generalize l.map Rt.D = L at hml hxs ⊢
 refine loop_inv (fun i st => ∃ S : List PV, st = ⟨S, [[.d (.slice L), a1, a2, a3], [.d (.slice L), a1, a2, a3]]⟩ ∧ S.length = 95 ∧ rd S 2 = .ptr 0 0 ∧ rd S 3 = .ptr 1 0 ∧ rd S 5 = .d (.int .i64 i)) _ l.length ?_ ?_ k 0 _ (by omega) (by omega) ⟨S, rfl, hS, h2, h3, h5⟩
 ·rintro i st hi ⟨S, rfl, hS, h2, h3, h5⟩
  have hlt : (i : Int) < (l.length : Int) := by omega
  obtain ⟨r, hx⟩ := hxs i hi
  obtain ⟨hi0, hx⟩ := List.getElem?_eq_some_iff.1 hx
  obtain ⟨ra, rb, ⟨e, mask, mt⟩, rn⟩ := r
  simp only [Rt.D] at hx
  simp [theLoop, Tryz.f112, loopsAll, Lp_some, and_assoc, -rd, rd_ne, rd_eq, -loadS, -storeS, loadS_cons0, loadS_consS, hS, h2, h3, h5, hlt, hi, hi0, hml, hx, Ty.kRt, eqCells, wrap_succ i (by omega)]
  done
 ·rintro st ⟨S, rfl, hS, h2, h3, h5⟩
  simp [theLoop, Tryz.f112, loopsAll, Lp_some, and_assoc, -rd, rd_ne, rd_eq, -loadS, -storeS, loadS_cons0, loadS_consS, hS, h2, h3, h5, hml]
  done
theorem l_sg1 (m : Nat) (l : List (List Fr)) (hl : l.length ≤ 100000) (hr : ∀ r ∈ l, r.length ≤ 1000000) (a0 a1 a3 : PV) (S : List PV) (hS : S.length = 95) (h2 : rd S 2 = .ptr 0 0) (h3 : rd S 3 = .ptr 1 0) (h6 : rd S 6 = .d (.int .i64 0)) (k : Nat) (hk : l.length < k) :
  Lp (loopN (evCode E1 (evI E1) m (theLoop Tryz.f112 1)) k ⟨S, [[a0, a1, .d (.slice (l.map frsD)), a3], [a0, a1, .d (.slice (l.map frsD)), a3]]⟩) fun r => ∃ S' : List PV, r = (.exit 2, ⟨S', [[a0, a1, .d (.slice (l.map frsD)), a3], [a0, a1, .d (.slice (l.map frsD)), a3]]⟩) ∧ S'.length = 95 ∧ rd S' 2 = .ptr 0 0 ∧ rd S' 3 = .ptr 1 0 := by
 have hml : (l.map frsD).length = l.length := by simp
 have hxs : ∀ i : Nat, i < l.length → ∃ r : List Fr, r.length ≤ 1000000 ∧ (l.map frsD)[i]? = some (frsD r) := fun i hi => ⟨l[i], hr _ (List.getElem_mem hi), by simp [hi]⟩
 generalize l.map frsD = L at hml hxs ⊢
 refine loop_inv (fun i st => ∃ S : List PV, st = ⟨S, [[a0, a1, .d (.slice L), a3], [a0, a1, .d (.slice L), a3]]⟩ ∧ S.length = 95 ∧ rd S 2 = .ptr 0 0 ∧ rd S 3 = .ptr 1 0 ∧ rd S 6 = .d (.int .i64 i)) _ l.length ?_ ?_ k 0 _ (by omega) (by omega) ⟨S, rfl, hS, h2, h3, h6⟩
 ·rintro i st hi ⟨S, rfl, hS, h2, h3, h6⟩
  have hlt : (i : Int) < (l.length : Int) := by omega
  obtain ⟨r, hrl, hx⟩ := hxs i hi
  obtain ⟨hi0, hx⟩ := List.getElem?_eq_some_iff.1 hx
  have c1 := fun σ => r_sameAll r hrl σ
  simp only [frsD] at hx
  generalize r.map Fr.D = R at hx c1
  simp [theLoop, Tryz.f112, loopsAll, Lp_some, and_assoc, -rd, rd_ne, rd_eq, -loadS, -storeS, loadS_cons0, loadS_consS, hS, h2, h3, h6, hlt, hi, hi0, hml, hx, c1, wrap_succ i (by omega)]
  done
 ·rintro st ⟨S, rfl, hS, h2, h3, h6⟩
  simp [theLoop, Tryz.f112, loopsAll, Lp_some, and_assoc, -rd, rd_ne, rd_eq, -loadS, -storeS, loadS_cons0, loadS_consS, hS, h2, h3, h6, hml]
  done
theorem l_sg2 (m : Nat) (l : List Int) (hl : l.length ≤ 100000) (a0 a1 a2 : PV) (S : List PV) (hS : S.length = 95) (h2 : rd S 2 = .ptr 0 0) (h3 : rd S 3 = .ptr 1 0) (h7 : rd S 7 = .d (.int .i64 0)) (k : Nat) (hk : l.length < k) :
  Lp (loopN (evCode E1 (evI E1) m (theLoop Tryz.f112 2)) k ⟨S, [[a0, a1, a2, .d (.slice (l.map intD))], [a0, a1, a2, .d (.slice (l.map intD))]]⟩) fun r => ∃ S' : List PV, r = (.exit 4, ⟨S', [[a0, a1, a2, .d (.slice (l.map intD))], [a0, a1, a2, .d (.slice (l.map intD))]]⟩) ∧ S'.length = 95 := by
 have hml : (l.map intD).length = l.length := by simp
 have hxs : ∀ i : Nat, i < l.length → ∃ r : Int, (l.map intD)[i]? = some (intD r) := fun i hi => ⟨l[i], by simp [hi]⟩
 generalize l.map intD = L at hml hxs ⊢
 refine loop_inv (fun i st => ∃ S : List PV, st = ⟨S, [[a0, a1, a2, .d (.slice L)], [a0, a1, a2, .d (.slice L)]]⟩ ∧ S.length = 95 ∧ rd S 2 = .ptr 0 0 ∧ rd S 3 = .ptr 1 0 ∧ rd S 7 = .d (.int .i64 i)) _ l.length ?_ ?_ k 0 _ (by omega) (by omega) ⟨S, rfl, hS, h2, h3, h7⟩
 ·rintro i st hi ⟨S, rfl, hS, h2, h3, h7⟩
  have hlt : (i : Int) < (l.length : Int) := by omega
  obtain ⟨r, hx⟩ := hxs i hi
  obtain ⟨hi0, hx⟩ := List.getElem?_eq_some_iff.1 hx
  simp only [intD] at hx
  simp [theLoop, Tryz.f112, loopsAll, Lp_some, and_assoc, -rd, rd_ne, rd_eq, -loadS, -storeS, loadS_cons0, loadS_consS, hS, h2, h3, h7, hlt, hi, hi0, hml, hx, wrap_succ i (by omega)]
  done
 ·rintro st ⟨S, rfl, hS, h2, h3, h7⟩
  simp [theLoop, Tryz.f112, loopsAll, Lp_some, and_assoc, -rd, rd_ne, rd_eq, -loadS, -storeS, loadS_cons0, loadS_consS, hS, h2, h3, h7, hml]
  done
structure Gt.fine (g : Gt) : Prop where
 rs : g.rs.length ≤ 10000
 out : g.out.length ≤ 10000
 lo : g.lost.length ≤ 10000
 row : ∀ r ∈ g.out, r.length ≤ 1000000
theorem r_sameG (g : Gt) (h : g.fine) (σ : Store) : callIt E1 (evI E1) 112 [g.P, g.P] σ = some (.d (.bool true), σ) := by
 refine call_run (fn := Tryz.f112) 10001 rfl rfl rfl Tryz.func112 rfl rfl ?_ rfl
 obtain ⟨h1, h2, h3, h4⟩ := h
 obtain ⟨rs, cap, out, lost⟩ := g
 simp only at h1 h2 h3 h4
 have e0 := fun a1 a2 a3 => l_sg0 10001 rs (by omega) a1 a2 a3
 have e1 := fun a0 a1 a3 => l_sg1 10001 out (by omega) h4 a0 a1 a3
 have e2 := fun a0 a1 a2 => l_sg2 10001 lost (by omega) a0 a1 a2
 simp only [Gt.P]
 generalize rs.map Rt.D = a0 at e0 ⊢
 generalize out.map frsD = a2 at e1 ⊢
 generalize lost.map intD = a3 at e2 ⊢
 simp [Tryz.f112, ec_loop, -loadS, -storeS, loadS_cons0, loadS_consS, storeS_cons0, storeS_consS, cellsOf]
 generalize hLL : loopN _ _ _ = LL
 obtain ⟨r, rfl, S, rfl, hS, g2, g3⟩ := at_loop hLL (e0 _ _ _ _ rfl rfl rfl rfl 10001 (by omega))
 simp [-rd, rd_ne, rd_eq, hS, g2, g3, ec_loop]
 generalize hLL2 : loopN _ _ _ = LL2
 obtain ⟨r, rfl, S2, rfl, hS2, k2, k3⟩ := at_loop hLL2 (e1 _ _ _ _ (by simp [hS]) (by simp [-rd, rd_ne, rd_eq, hS, g2]) (by simp [-rd, rd_ne, rd_eq, hS, g3]) (by simp [-rd, rd_ne, rd_eq, hS]) 10001 (by omega))
 simp [-rd, rd_ne, rd_eq, hS2, k2, k3, ec_loop]
 generalize hLL3 : loopN _ _ _ = LL3
 obtain ⟨r, rfl, S3, rfl, hS3⟩ := at_loop hLL3 (e2 _ _ _ _ (by simp [hS2]) (by simp [-rd, rd_ne, rd_eq, hS2, k2]) (by simp [-rd, rd_ne, rd_eq, hS2, k3]) (by simp [-rd, rd_ne, rd_eq, hS2]) 10001 (by omega))
 simp [-rd, rd_ne, rd_eq, hS3]
structure Nt.fine (n : Nt) : Prop where
 bs : n.bs.length ≤ 1000
 rows : ∀ r ∈ n.bs, r.length ≤ 1000000 ∧ ∀ x ∈ r, x.good
 g : n.g.fine
theorem l_sn (m : Nat) (l : List (List Nd)) (hl : l.length ≤ 1000) (hr : ∀ r ∈ l, r.length ≤ 1000000 ∧ ∀ x ∈ r, x.good) (a1 a2 a3 a4 : PV) (S : List PV) (hS : S.length = 37) (h2 : rd S 2 = .ptr 0 0) (h3 : rd S 3 = .ptr 1 0) (h5 : rd S 5 = .d (.int .i64 0)) (k : Nat) (hk : l.length < k) :
  Lp (loopN (evCode E1 (evI E1) m (theLoop Tryz.f45 0)) k ⟨S, [[.d (.slice (l.map ndsD)), a1, a2, a3, a4], [.d (.slice (l.map ndsD)), a1, a2, a3, a4]]⟩) fun r => ∃ S' : List PV, r = (.exit 0, ⟨S', [[.d (.slice (l.map ndsD)), a1, a2, a3, a4], [.d (.slice (l.map ndsD)), a1, a2, a3, a4]]⟩) ∧ S'.length = 37 ∧ rd S' 2 = .ptr 0 0 ∧ rd S' 3 = .ptr 1 0 := by
 have hml : (l.map ndsD).length = l.length := by simp
 have hxs : ∀ i : Nat, i < l.length → ∃ r : List Nd, (r.length ≤ 1000000 ∧ ∀ x ∈ r, x.good) ∧ (l.map ndsD)[i]? = some (ndsD r) := fun i hi => ⟨l[i], hr _ (List.getElem_mem hi), by simp [hi]⟩
 generalize l.map ndsD = L at hml hxs ⊢
 refine loop_inv (fun i st => ∃ S : List PV, st = ⟨S, [[.d (.slice L), a1, a2, a3, a4], [.d (.slice L), a1, a2, a3, a4]]⟩ ∧ S.length = 37 ∧ rd S 2 = .ptr 0 0 ∧ rd S 3 = .ptr 1 0 ∧ rd S 5 = .d (.int .i64 i)) _ l.length ?_ ?_ k 0 _ (by omega) (by omega) ⟨S, rfl, hS, h2, h3, h5⟩
 ·rintro i st hi ⟨S, rfl, hS, h2, h3, h5⟩
  have hlt : (i : Int) < (l.length : Int) := by omega
  obtain ⟨r, ⟨hrl, hrg⟩, hx⟩ := hxs i hi
  obtain ⟨hi0, hx⟩ := List.getElem?_eq_some_iff.1 hx
  have c1 := fun σ => r_sameNs r hrg hrl σ
  simp only [ndsD] at hx
  generalize r.map Nd.D = R at hx c1
  simp [theLoop, Tryz.f45, loopsAll, Lp_some, and_assoc, -rd, rd_ne, rd_eq, -loadS, -storeS, loadS_cons0, loadS_consS, hS, h2, h3, h5, hlt, hi, hi0, hml, hx, c1, wrap_succ i (by omega)]
  done
 ·rintro st ⟨S, rfl, hS, h2, h3, h5⟩
  simp [theLoop, Tryz.f45, loopsAll, Lp_some, and_assoc, -rd, rd_ne, rd_eq, -loadS, -storeS, loadS_cons0, loadS_consS, hS, h2, h3, h5, hml]
  done
theorem r_sameN (n : Nt) (h : n.fine) (σ : Store) : callIt E1 (evI E1) 45 [n.P, n.P] σ = some (.d (.bool true), σ) := by
 refine call_run (fn := Tryz.f45) 1001 rfl rfl rfl Tryz.func45 rfl rfl ?_ rfl
 obtain ⟨h1, h2, h3⟩ := h
 obtain ⟨bs, g⟩ := n
 simp only at h1 h2 h3
 have c1 := fun σ => r_sameG g h3 σ
 obtain ⟨rs, cap, out, lost⟩ := g
 have e0 := fun a1 a2 a3 a4 => l_sn 1001 bs h1 h2 a1 a2 a3 a4
 simp only [Nt.P]
 simp only [Gt.P] at c1
 generalize bs.map ndsD = b0 at e0 ⊢
 generalize rs.map Rt.D = a0 at c1 ⊢
 generalize out.map frsD = a2 at c1 ⊢
 generalize lost.map intD = a3 at c1 ⊢
 simp [Tryz.f45, ec_loop, -loadS, -storeS, loadS_cons0, loadS_consS, storeS_cons0, storeS_consS, cellsOf]
 generalize hLL : loopN _ _ _ = LL
 obtain ⟨r, rfl, S, rfl, hS, g2, g3⟩ := at_loop hLL (e0 _ _ _ _ _ rfl rfl rfl rfl 1001 (by omega))
 simp [-rd, rd_ne, rd_eq, -loadS, -storeS, loadS_cons0, loadS_consS, hS, g2, g3, c1]
end Go.Proofs

set_option maxRecDepth 100000
set_option maxHeartbeats 8000000
namespace Go.Proofs
open Go.RowKit Go.Shelf Go.Pv
theorem bin_eq8 {P : Program} {t : TypeId} {a b : Int} : evBin P .eql t (.d (.int .u8 a)) (.d (.int .u8 b)) = some (.d (.bool (a == b))) := rfl
end Go.Proofs

set_option maxRecDepth 100000
set_option maxHeartbeats 8000000
namespace Go.Proofs
open Go.RowKit Go.Shelf Go.Pv
def sendA (n : Nt) (a : Act) : Nt := (n.Send a.b a.n a.f).1
theorem Nt.fits.fine {n : Nt} (h : n.fits) : n.fine := by
 refine ⟨by have := h.few; omega, fun r hr => ⟨by have := (h.rows r hr).2.1; omega, (h.rows r hr).2.2.1.good⟩, ⟨by have := h.gt.rs; omega, by have := h.gt.n; omega, by have := h.gt.lo; have := h.gt.n; omega, fun r hr => by have := h.gt.row r hr; omega⟩⟩
theorem netNew_of {l : List (List Nd)} {r : List Rt} {a : List Act} {room : Int} (hg : great14 l r a = false) (σ : Store) :
  callIt E1 (evI E1) 38 [.d (.slice (l.map ndsD)), .d (.slice (r.map Rt.D)), .d (.int .i64 room)] σ = some (.tup [(Nt.New l r room).1.P, .d (.int .i64 (Nt.New l r room).2)], σ) := by
 obtain ⟨h1, h2, h3, h4, h5⟩ := great14_no hg
 exact b_netNew l r room (fun x hx n hn => Nd.wf_small ((h4 x hx).2 n hn)) (by omega) σ
end Go.Proofs

set_option maxRecDepth 100000
set_option maxHeartbeats 8000000
namespace Go.Proofs
open Go.RowKit Go.Shelf Go.Pv
theorem r_gNext (g : Gt) (k : Nat) (hk : k < g.out.length) (σ : Store) : callIt E1 (evI E1) 200 [g.P, .d (.int .i64 k)] σ = some (.tup [(g.Next k).1.P, .d (.bool (g.Next k).2)], σ) := by
 refine call_run (fn := Tryz.f200) 5 rfl rfl rfl Tryz.func200 rfl rfl ?_ rfl
 have hrow : g.row (k : Int) = g.out[k] := by unfold Gt.row; rw [Int.toNat_natCast, List.getD_eq_getElem?_getD, List.getElem?_eq_getElem hk]; rfl
 have hN : g.Next k = if g.out[k] = [] then (fr0, false) else (g.out[k].headD fr0, true) := by
  unfold Gt.Next Gt.has
  rw [hrow]
  have h0 : decide ((k : Int) ≥ 0) = true := by simp
  have h1 : decide ((k : Int) < (g.out.length : Int)) = true := by simp; omega
  rw [h0, h1]
  cases hx : g.out[k] with
  | nil => rfl
  | cons x r => simp
 rw [hN]
 obtain ⟨rs, cap, out, lost⟩ := g
 simp only at hk hrow hN ⊢
 have hx : (out.map frsD)[k]? = some (frsD out[k]) := by simp [hk]
 have hml : (out.map frsD).length = out.length := by simp
 have hkI : ¬ ((out.length : Int) ≤ (k : Int)) := by omega
 have hkI' : (k : Int) < (out.length : Int) := by omega
 have hk0 : ¬ ((k : Int) < 0) := by omega
 clear hN hrow
 generalize out[k] = row at hx ⊢
 simp only [Gt.P]
 generalize out.map frsD = O at hx hml ⊢
 generalize rs.map Rt.D = R
 generalize lost.map intD = LO
 obtain ⟨hi0, hx⟩ := List.getElem?_eq_some_iff.1 hx
 simp only [frsD] at hx
 cases row with
 | nil =>
  simp only [List.map_nil] at hx
  simp [Tryz.f200, -loadS, -storeS, loadS_cons0, loadS_consS, storeS_cons0, storeS_consS, cellsOf, hml, hk, hk0, hkI, hkI', hi0, hx, fr0]
 | cons f r =>
  obtain ⟨fe, fid, frm, fln, fda⟩ := f
  simp only [List.map_cons, Fr.D] at hx
  have hz : (((r.length : Int) + 1) == 0) = false := by simp; omega
  simp [Tryz.f200, -loadS, -storeS, loadS_cons0, loadS_consS, storeS_cons0, storeS_consS, cellsOf, hml, hk, hk0, hkI, hkI', hi0, hx, hz]
theorem l_gwaits (m : Nat) (l : List (List Fr)) (hl : l.length ≤ 1000) (hr : ∀ r ∈ l, r.length ≤ 100000) (a0 a1 a3 : PV) (S : List PV) (hS : S.length = 21) (h1 : rd S 1 = .ptr 0 0) (h3 : rd S 3 = .d (.int .i64 0)) (h4 : rd S 4 = .d (.int .i64 0)) (k : Nat) (hk : l.length < k) :
  Lp (loopN (evCode E1 (evI E1) m (theLoop Tryz.f167 0)) k ⟨S, [[a0, a1, .d (.slice (l.map frsD)), a3]]⟩) fun r => ∃ (J : Store) (S' : List PV), r = (.exit 0, ⟨S', J⟩) ∧ S'.length = 21 ∧ rd S' 3 = .d (.int .i64 (waitsL l)) := by
 have hml : (l.map frsD).length = l.length := by simp
 have hbd : ∀ i, i ≤ l.length → 0 ≤ waitsL (l.take i) ∧ waitsL (l.take i) ≤ 100000 * (i : Int) := by
  intro i
  induction i with
  | zero => intro _; simp [waitsL]
  | succ i ih =>
   intro hi
   obtain ⟨g1, g2⟩ := ih (by omega)
   have hs : waitsL (l.take (i + 1)) = waitsL (l.take i) + (l[i].length : Int) := by
    unfold waitsL
    rw [List.take_add_one, List.getElem?_eq_getElem (by omega), List.foldl_append]; rfl
   have := hr _ (List.getElem_mem (show i < l.length by omega))
   rw [hs]
   omega
 refine loop_inv (fun i st => ∃ (S : List PV), st = ⟨S, [[a0, a1, .d (.slice (l.map frsD)), a3]]⟩ ∧ S.length = 21 ∧ rd S 1 = .ptr 0 0 ∧ rd S 3 = .d (.int .i64 (waitsL (l.take i))) ∧ rd S 4 = .d (.int .i64 i)) _ l.length ?_ ?_ k 0 _ (by omega) (by omega) ⟨S, rfl, hS, h1, h3, h4⟩
 ·rintro i st hi ⟨S, rfl, hS, h1, h3, h4⟩
  have hlt : (i : Int) < (l.length : Int) := by omega
  have hx : (l.map frsD)[i]? = some (frsD l[i]) := by simp [hi]
  have hs : waitsL (l.take (i + 1)) = waitsL (l.take i) + (l[i].length : Int) := by
   unfold waitsL
   rw [List.take_add_one, List.getElem?_eq_getElem hi, List.foldl_append]; rfl
  obtain ⟨b1, b2⟩ := hbd i (by omega)
  have hri := hr _ (List.getElem_mem hi)
  rw [hs]
  clear hs hbd hr
  generalize waitsL (l.take i) = z at h3 b1 b2 ⊢
  generalize l[i] = row at hx hri ⊢
  have hmr : (row.map Fr.D).length = row.length := by simp
  have hw : IntKind.i64.wrap (z + (row.length : Int)) = z + row.length := wrap_ok (by omega) (by omega)
  simp only [frsD] at hx
  generalize row.map Fr.D = RW at hx hmr
  generalize l.map frsD = L at hx hml ⊢
  obtain ⟨hi0, hx⟩ := List.getElem?_eq_some_iff.1 hx
  simp [theLoop, Tryz.f167, loopsAll, Lp_some, and_assoc, -rd, rd_ne, rd_eq, -loadS, -storeS, loadS_cons0, loadS_consS, hS, h1, h3, h4, hlt, hi, hi0, hml, hmr, hx, hw, wrap_succ i (by omega)]
  done
 ·rintro st ⟨S, rfl, hS, h1, h3, h4⟩
  rw [List.take_length] at h3
  generalize waitsL l = z at h3 ⊢
  generalize l.map frsD = L at hml ⊢
  simp [theLoop, Tryz.f167, loopsAll, Lp_some, and_assoc, -rd, rd_ne, rd_eq, -loadS, -storeS, loadS_cons0, loadS_consS, hS, h1, h3, h4, hml]
  done
theorem r_waits (g : Gt) (hl : g.out.length ≤ 1000) (hr : ∀ r ∈ g.out, r.length ≤ 100000) (σ : Store) : callIt E1 (evI E1) 167 [g.P] σ = some (.d (.int .i64 (waitsL g.out)), σ) := by
 refine call_run (fn := Tryz.f167) 1001 rfl rfl rfl Tryz.func167 rfl rfl ?_ rfl
 have hloop := l_gwaits 1001 g.out hl hr
 generalize waitsL g.out = z at hloop ⊢
 simp only [Gt.P]
 generalize g.out.map frsD = O at hloop ⊢
 generalize g.rs.map Rt.D = R
 generalize g.lost.map intD = LO
 simp [Tryz.f167, ec_loop, -loadS, -storeS, loadS_cons0, loadS_consS, storeS_cons0, storeS_consS, cellsOf]
 generalize hLL : loopN _ _ _ = LL
 obtain ⟨r, rfl, J, S, rfl, hS, h3⟩ := at_loop hLL (hloop _ _ _ _ rfl rfl rfl rfl 1001 (by omega))
 simp [-rd, rd_ne, rd_eq, hS, h3]
/-! #### Is a net still? -/
theorem l_rs1 (m : Nat) (B : List (List DV)) (a1 a2 a3 a4 : PV) (row : List Nd) (i : Nat) (hx : B[i]? = some (ndsD row)) (hl : row.length ≤ 1000) (S : List PV) (hS : S.length = 37) (h1 : rd S 1 = .ptr 0 0) (h3 : rd S 3 = .d (.int .i64 i)) (h4 : rd S 4 = .d (.int .i64 0)) (k : Nat) (hk : row.length < k) :
  Lp (loopN (evCode E1 (evI E1) m (theLoop Tryz.f116 1)) k ⟨S, [[.d (.slice B), a1, a2, a3, a4]]⟩) fun r => ∃ (S' : List PV), S'.length = 37 ∧ rd S' 1 = .ptr 0 0 ∧ rd S' 3 = .d (.int .i64 i) ∧ ((r = (.exit 2, ⟨S', [[.d (.slice B), a1, a2, a3, a4]]⟩) ∧ busyR row = false) ∨ (r = (.ret, ⟨S', [[.d (.slice B), a1, a2, a3, a4]]⟩) ∧ rd S' 2 = .d (.bool false) ∧ busyR row = true)) := by
 obtain ⟨hb0, hx⟩ := List.getElem?_eq_some_iff.1 hx
 have hml : (row.map Nd.D).length = row.length := by simp
 unfold busyR
 refine loop_inv (fun j st => ∃ (S : List PV), st = ⟨S, [[.d (.slice B), a1, a2, a3, a4]]⟩ ∧ S.length = 37 ∧ (row.take j).any Nd.busy = false ∧ rd S 1 = .ptr 0 0 ∧ rd S 3 = .d (.int .i64 i) ∧ rd S 4 = .d (.int .i64 j)) _ row.length ?_ ?_ k 0 _ (by omega) (by omega) ⟨S, rfl, hS, rfl, h1, h3, h4⟩
 ·rintro j st hj ⟨S, rfl, hS, he, h1, h3, h4⟩
  have hlt : (j : Int) < (row.length : Int) := by omega
  have htk := any_take (p := Nd.busy) hj
  rw [he, Bool.false_or] at htk
  have hall := any_of (p := Nd.busy) hj
  have hy : (row.map Nd.D)[j]? = some (row[j]).D := by simp [hj]
  generalize (row.take (j + 1)).any Nd.busy = z1 at htk ⊢
  generalize row.any Nd.busy = z2 at hall ⊢
  generalize row[j] = x at htk hall hy
  unfold Nd.busy at htk hall
  obtain ⟨q, fs, ⟨ct, cr, cs, cz⟩, gg⟩ := x
  simp only at htk hall
  have hmq : (q.map Fr.D).length = q.length := by simp
  simp only [ndsD] at hx
  simp only [Nd.D] at hy
  generalize q.map Fr.D = Q at hy hmq
  generalize row.map Nd.D = R at hx hml hy
  obtain ⟨hj0, hy⟩ := List.getElem?_eq_some_iff.1 hy
  clear he
  by_cases hq : 0 < q.length
  ·have h2 := hall (by simpa using hq)
   subst h2
   clear htk hall
   have hqI : (0 : Int) < (q.length : Int) := by omega
   have hqne : q ≠ [] := List.length_pos_iff.1 hq
   simp [theLoop, Tryz.f116, loopsAll, Lp_some, and_assoc, -rd, rd_ne, rd_eq, -loadS, -storeS, loadS_cons0, loadS_consS, hS, h1, h3, h4, hlt, hj, hj0, hb0, hml, hmq, hx, hy, hq, hqI, hqne]
   refine ⟨_, ?_, ?_, ?_, rfl, ?_⟩ <;> simp [-rd, rd_ne, rd_eq, hS, h1, h3]
  ·have hz : decide (0 < q.length) = false := by simpa using hq
   rw [hz] at htk
   subst htk
   have hq0 : q.length = 0 := by omega
   clear hall
   rw [hq0] at hmq
   simp [theLoop, Tryz.f116, loopsAll, Lp_some, and_assoc, -rd, rd_ne, rd_eq, -loadS, -storeS, loadS_cons0, loadS_consS, hS, h1, h3, h4, hlt, hj, hj0, hb0, hml, hmq, hx, hy, wrap_succ j (by omega)]
   done
 ·rintro st ⟨S, rfl, hS, he, h1, h3, h4⟩
  rw [List.take_length] at he
  generalize row.any Nd.busy = z at he ⊢
  subst he
  simp only [ndsD] at hx
  generalize row.map Nd.D = R at hx hml
  simp [theLoop, Tryz.f116, loopsAll, Lp_some, and_assoc, -rd, rd_ne, rd_eq, -loadS, -storeS, loadS_cons0, loadS_consS, hS, h1, h3, h4, hb0, hml, hx]
  refine ⟨_, ?_, ?_, ?_, rfl⟩ <;> simp [-rd, rd_ne, rd_eq, hS, h1, h3]
theorem l_rs0 (m : Nat) (hm : 1000 < m) (bs : List (List Nd)) (hl : bs.length ≤ 1000) (hr : ∀ r ∈ bs, r.length ≤ 900) (a1 a2 a3 a4 : PV) (S : List PV) (hS : S.length = 37) (h1 : rd S 1 = .ptr 0 0) (h3 : rd S 3 = .d (.int .i64 0)) (k : Nat) (hk : bs.length < k) :
  Lp (loopN (evCode E1 (evI E1) m (theLoop Tryz.f116 0)) k ⟨S, [[.d (.slice (bs.map ndsD)), a1, a2, a3, a4]]⟩) fun r => ∃ (S' : List PV), S'.length = 37 ∧ rd S' 1 = .ptr 0 0 ∧ ((r = (.exit 0, ⟨S', [[.d (.slice (bs.map ndsD)), a1, a2, a3, a4]]⟩) ∧ bs.any busyR = false) ∨ (r = (.ret, ⟨S', [[.d (.slice (bs.map ndsD)), a1, a2, a3, a4]]⟩) ∧ rd S' 2 = .d (.bool false) ∧ bs.any busyR = true)) := by
 have hml : (bs.map ndsD).length = bs.length := by simp
 refine loop_inv (fun i st => ∃ (S : List PV), st = ⟨S, [[.d (.slice (bs.map ndsD)), a1, a2, a3, a4]]⟩ ∧ S.length = 37 ∧ (bs.take i).any busyR = false ∧ rd S 1 = .ptr 0 0 ∧ rd S 3 = .d (.int .i64 i)) _ bs.length ?_ ?_ k 0 _ (by omega) (by omega) ⟨S, rfl, hS, rfl, h1, h3⟩
 ·rintro i st hi ⟨S, rfl, hS, he, h1, h3⟩
  have hlt : (i : Int) < (bs.length : Int) := by omega
  have htk := any_take (p := busyR) hi
  rw [he, Bool.false_or] at htk
  have hall := any_of (p := busyR) hi
  have hx : (bs.map ndsD)[i]? = some (ndsD bs[i]) := by simp [hi]
  have hri := hr _ (List.getElem_mem hi)
  have hloop := l_rs1 m (bs.map ndsD) a1 a2 a3 a4 bs[i] i hx (by omega)
  generalize (bs.take (i + 1)).any busyR = z1 at htk ⊢
  generalize bs.any busyR = z2 at hall ⊢
  generalize bs[i] = row at htk hall hloop hri
  generalize busyR row = z at htk hall hloop
  generalize bs.map ndsD = B at hml hloop ⊢
  clear he hx
  simp [theLoop, Tryz.f116, loopsAll, ec_loop, Lp_some, and_assoc, -rd, rd_ne, rd_eq, -loadS, -storeS, loadS_cons0, loadS_consS, hS, h1, h3, hlt, hml]
  generalize hLL : loopN _ _ _ = LL
  obtain ⟨r, rfl, S', hS', g1, g3, hr'⟩ := at_loop hLL (hloop _ (by simp [hS]) (by simp [-rd, rd_ne, rd_eq, hS, h1]) (by simp [-rd, rd_ne, rd_eq, hS, h3]) (by simp [-rd, rd_ne, rd_eq, hS]) m (by omega))
  rcases hr' with ⟨rfl, rfl⟩ | ⟨rfl, g2, rfl⟩
  ·subst htk
   simp [Lp_some, and_assoc, -rd, rd_ne, rd_eq, hS', g1, g3, wrap_succ i (by omega)]
   done
  ·have h2 := hall rfl
   subst h2
   simp [Lp_some, and_assoc, -rd, rd_ne, rd_eq, hS', g1, g2, g3]
   exact ⟨_, hS', g1, rfl, g2⟩
 ·rintro st ⟨S, rfl, hS, he, h1, h3⟩
  rw [List.take_length] at he
  generalize bs.any busyR = z at he ⊢
  subst he
  generalize bs.map ndsD = B at hml ⊢
  simp [theLoop, Tryz.f116, loopsAll, Lp_some, and_assoc, -rd, rd_ne, rd_eq, -loadS, -storeS, loadS_cons0, loadS_consS, hS, h1, h3, hml]
theorem r_still {n : Nt} (h : n.fits) (σ : Store) : callIt E1 (evI E1) 116 [n.P] σ = some (.d (.bool n.Still), σ) := by
 refine call_run (fn := Tryz.f116) 1001 rfl rfl rfl Tryz.func116 rfl rfl ?_ rfl
 obtain ⟨h1, h2, h3⟩ := h.ok
 have c1 := fun σ => r_waits n.g h2 h3 σ
 have hloop := l_rs0 1001 (by omega) n.bs (by have := h.few; omega) (fun r hr => by have := (h.rows r hr).2.1; omega)
 have hbl : n.bs.length < 1001 := by have := h.few; omega
 unfold Nt.Still
 obtain ⟨bs, ⟨rs, cap, out, lost⟩⟩ := n
 simp only [Nt.P, Gt.P] at c1 hloop hbl ⊢
 generalize bs.any busyR = z at hloop ⊢
 generalize bs.map ndsD = B at hloop ⊢
 generalize rs.map Rt.D = R at c1 ⊢
 generalize out.map frsD = O at c1 ⊢
 generalize lost.map intD = LO at c1 ⊢
 simp [Tryz.f116, ec_loop, -loadS, -storeS, loadS_cons0, loadS_consS, storeS_cons0, storeS_consS, cellsOf]
 generalize hLL : loopN _ _ _ = LL
 obtain ⟨r, rfl, S, hS, g1, hr⟩ := at_loop hLL (hloop _ _ _ _ _ rfl rfl rfl 1001 (by omega))
 rcases hr with ⟨rfl, rfl⟩ | ⟨rfl, g2, rfl⟩
 ·simp [-rd, rd_ne, rd_eq, -loadS, -storeS, loadS_cons0, loadS_consS, hS, g1, c1]
 ·simp [-rd, rd_ne, rd_eq, hS, g2, rd_el g2 (by omega)]
end Go.Proofs

set_option maxRecDepth 100000
set_option maxHeartbeats 8000000
namespace Go.Proofs
open Go.RowKit Go.Shelf Go.Pv
theorem mkApp_ne {P : Program} {t : TypeId} {sz bytes : Nat} (ha : appT P t = some (sz, bytes)) (rows : List (List DV)) (hne : rows ≠ []) (hro : rowsOk sz rows = true) (hb : rows.length * bytes ≤ roomB) (σ : Store) : mkApp P t σ .e0 (.d (.slice rows)) = some (.ms σ.length 0 rows.length sz, σ ++ [flatD rows]) := by
 have he : rows.isEmpty = false := by cases rows with
  | nil => exact absurd rfl hne
  | cons x xs => rfl
 simp only [mkApp, ha, Option.bind_some, ownRows, elemsOf, List.isEmpty_nil, Bool.true_and, hro, hb, decide_true, if_true, he, Bool.false_eq_true, if_false]
theorem r_one (l : List Nd) (k : Nat) (hk : k < l.length) (hl : l.length ≤ 1000000) (x : Nd) (σ : Store) : callIt E1 (evI E1) 162 [.d (.slice (l.map Nd.D)), .d (.int .i64 k), x.P] σ = some (.d (.slice ((l.set k x).map Nd.D)), σ) := by
 refine call_run2 (fn := Tryz.f162) 5 rfl rfl rfl rfl Tryz.func162 rfl rfl ?_
 have hne : l ≠ [] := by intro h; rw [h] at hk; simp at hk
 have hmk := mkApp_ne (P := Tryz.prog) Ty.app22 (l.map Nd.D) (by simpa using hne) (rowsOk_Nd l) (by simp [roomB]; omega)
 rw [List.length_map] at hmk
 have hs : ∀ r ∈ l.map Nd.D, r.length = 7 := fun r hr => by obtain ⟨y, _, rfl⟩ := List.mem_map.1 hr; rfl
 have hst := fun b0 => flat_store (b0 := b0) (J := []) (k := k) (r := x.D) hs rfl (by simpa using hk)
 have hs2 : ∀ r ∈ (l.set k x).map Nd.D, r.length = 7 := fun r hr => by obtain ⟨y, _, rfl⟩ := List.mem_map.1 hr; rfl
 have hset : (l.map Nd.D).set k x.D = (l.set k x).map Nd.D := by rw [List.map_set]
 rw [hset] at hst
 have hlen : ((l.set k x).map Nd.D).length = l.length := by simp
 have hfz := fun (b0 : List PV) n => frz_flat (σ := [b0, flatD ((l.set k x).map Nd.D)]) (id := 1) rfl hs2 n
 rw [hlen] at hfz
 have hfz3 : ∀ b0, frzP [b0, flatD ((l.set k x).map Nd.D)] 3 (.ms 1 0 l.length 7) = some (.d (.slice ((l.set k x).map Nd.D))) := fun b0 => by
  show (frzD _ 3 _).map PV.d = _
  rw [hfz b0 1]; rfl
 clear hset hlen hs hs2 hfz hne
 generalize (l.set k x).map Nd.D = R at hst hfz3 ⊢
 generalize l.map Nd.D = L at hmk hst ⊢
 generalize flatD R = FR at hst hfz3
 generalize flatD L = FL at hmk hst
 simp only [Nd.D, List.map_cons, List.map_nil] at hst
 have hkI : (k : Int) < (l.length : Int) := by omega
 simp [Tryz.f162, mkF, evMkApp, -loadS, -storeS, loadS_cons0, loadS_consS, cellsOf, rowsFrom, acc_nil, hmk, hst, hk, hkI, hfz3]
theorem r_With (n : Nt) (k : Nat) (hk : k < n.bs.length) (hl : n.bs.length ≤ 1000000) (r : List Nd) (σ : Store) : callIt E1 (evI E1) 161 [n.P, .d (.int .i64 k), .d (.slice (r.map Nd.D))] σ = some ((Nt.mk (n.bs.set k r) n.g).P, σ) := by
 refine call_run2 (fn := Tryz.f161) 5 rfl rfl rfl rfl Tryz.func161 rfl rfl ?_
 obtain ⟨bs, ⟨rs, cap, out, lost⟩⟩ := n
 simp only at hk hl ⊢
 have hne : bs ≠ [] := by intro h; rw [h] at hk; simp at hk
 have hmk := mkApp_ne (P := Tryz.prog) Ty.app66 (bs.map ndsD) (by simpa using hne) (rowsOk_nds bs) (by simp [roomB]; omega)
 rw [List.length_map] at hmk
 have hs : ∀ r ∈ bs.map ndsD, r.length = 1 := fun r hr => by obtain ⟨y, _, rfl⟩ := List.mem_map.1 hr; rfl
 have hle : k * 1 + 1 ≤ (bs.map ndsD).length * 1 := by simp; omega
 have hst : storeS [flatD (bs.map ndsD)] 0 k [.d (.slice (r.map Nd.D))] = some [flatD ((bs.set k r).map ndsD)] := by
  have h1 := flat_set (bs.map ndsD) k (ndsD r) hs (by simpa using hk)
  have hfl := flatD_len (bs.map ndsD) hs
  rw [storeS_cons0, hfl, if_pos (by simpa using hle)]
  rw [List.map_set, ← h1]
  simp [ndsD]
 have hs2 : ∀ q ∈ (bs.set k r).map ndsD, q.length = 1 := fun r hr => by obtain ⟨y, _, rfl⟩ := List.mem_map.1 hr; rfl
 have hlen : ((bs.set k r).map ndsD).length = bs.length := by simp
 have hfz := fun (A B : List PV) m => frz_flat (σ := [A, B, flatD ((bs.set k r).map ndsD)]) (id := 2) rfl hs2 m
 rw [hlen] at hfz
 have hfz3 : ∀ (A B : List PV) (a b c d : DV), frzP [A, B, flatD ((bs.set k r).map ndsD)] 4 (.agg [.ms 2 0 bs.length 1, .d a, .d b, .d c, .d d]) = some (.agg [.d (.slice ((bs.set k r).map ndsD)), .d a, .d b, .d c, .d d]) := fun A B a b c d => by
  simp only [frzP, frz1, allD, hfz A B 2, frzD_d, Option.bind_some, Option.map_some, List.map_cons, List.map_nil]
 clear hlen hs hs2 hfz hne hle
 simp only [Nt.P]
 generalize (bs.set k r).map ndsD = R at hst hfz3 ⊢
 generalize bs.map ndsD = L at hmk hst ⊢
 generalize flatD R = FR at hst hfz3
 generalize flatD L = FL at hmk hst
 generalize r.map Nd.D = X at hst ⊢
 generalize rs.map Rt.D = a0
 generalize out.map frsD = a2
 generalize lost.map intD = a3
 have hkI : (k : Int) < (bs.length : Int) := by omega
 simp [Tryz.f161, mkF, evMkApp, -loadS, -storeS, loadS_cons0, loadS_consS, storeS_cons0, storeS_consS, cellsOf, rowsFrom, acc_nil, hmk, hst, hk, hkI, hfz3]
end Go.Proofs

set_option maxRecDepth 100000
set_option maxHeartbeats 4000000
namespace Go.Proofs
open Go.RowKit Go.Shelf Go.Pv
theorem l_rany (m : Nat) (l : List Fl) (x : Fr) (hl : l.length ≤ 1000000) (B : Code) (hB : Tryz.f29.body.bind (fun c => (loopsOf c)[0]?) = some B) :
  ∀ (k i : Nat) (x6 x7 x8 x9 x10 x11 x12 x13 x14 x15 x16 x17 x18 x19 x20 : PV), i ≤ l.length → l.length < i + k →
   Lp (loopN (evCode E1 (evI E1) m B) k ⟨[.d (.slice (l.map Fl.D)), x.P, .undef, .ptr 0 0, .d (.bool false), .d (.int .i64 i), x6, x7, x8, x9, x10, x11, x12, x13, x14, x15, x16, x17, x18, x19, x20], [cellsOf x.P]⟩) fun r => ∃ e z y5 y6 y7 y8 y9 y10 y11 y12 y13 y14 y15 y16 y17, r = (e, ⟨[.d (.slice (l.map Fl.D)), x.P, .undef, .ptr 0 0, .d (.bool z), y5, y6, y7, y8, y9, y10, y11, y12, y13, y14, y15, y16, y17, x18, x19, x20], [cellsOf x.P]⟩) ∧
    ((e = .ret ∧ z = true ∧ (l.drop i).any (·.takes x) = true) ∨ (e = .exit 0 ∧ z = false ∧ (l.drop i).any (·.takes x) = false)) := by
 simp [Tryz.f29, loopsOf] at hB
 subst hB
 intro k
 induction k with
 | zero => intros; omega
 | succ k ih =>
  intro i x6 x7 x8 x9 x10 x11 x12 x13 x14 x15 x16 x17 x18 x19 x20 h1 h2
  rw [loopN_succ]
  by_cases hi : i < l.length
  ·have hx : l[i]? = some l[i] := List.getElem?_eq_getElem hi
   rw [any_drop hi]
   generalize l[i] = f at hx
   have hlt : (i : Int) < (l.length : Int) := by omega
   have hw' : IntKind.i64.wrap ((i : Int) + 1) = ((i + 1 : Nat) : Int) := by rw [wrap_ok (by omega) (by omega)]; omega
   have hg := r_takes f x
   have hk := fun z6 z7 z8 z9 z10 z11 z12 z13 z14 z15 z16 z17 z18 z19 z20 => ih (i + 1) z6 z7 z8 z9 z10 z11 z12 z13 z14 z15 z16 z17 z18 z19 z20 (by omega) (by omega)
   simp [cellsOf] at hk hg
   cases hb : f.takes x
   ·rw [hb] at hg
    simp [hx, hlt, hw', hg, cellsOf, loadS]
    exact hk _ _ _ _ _ _ _ _ _ _ _ _ _ _ _
   ·rw [hb] at hg
    simp [hx, hlt, hw', hg, cellsOf, loadS, Lp_some, and_assoc]
  ·have hlt : ¬ (i : Int) < (l.length : Int) := by omega
   have : l.drop i = [] := List.drop_eq_nil_of_le (by omega)
   simp [hlt, this, cellsOf, loadS, Lp_some, and_assoc]
theorem r_any (l : List Fl) (x : Fr) (hl : l.length ≤ 1000000) (σ : Store) : callIt E1 (evI E1) 29 [.d (.slice (l.map Fl.D)), x.P] σ = some (.d (.bool (anyF l x)), σ) := by
 refine call_run (fn := Tryz.f29) (l.length + 1) rfl rfl rfl Tryz.func29 rfl rfl ?_ rfl
 simp [Tryz.f29, ec_loop]
 generalize hL : loopN _ _ _ = L
 obtain ⟨r, rfl, e, z, y5, y6, y7, y8, y9, y10, y11, y12, y13, y14, y15, y16, y17, rfl, h⟩ := at_loop hL (l_rany (l.length + 1) l x hl _ rfl (l.length + 1) 0 _ _ _ _ _ _ _ _ _ _ _ _ _ _ _ (by omega) (by omega))
 rw [List.drop_zero] at h
 unfold anyF
 rcases h with ⟨rfl, rfl, h⟩ | ⟨rfl, rfl, h⟩
 ·rw [h]; simp
 ·rw [h]
  cases l with
  | nil => simp
  | cons f l =>
   have : ((l.length : Int) + 1 == 0) = false := by rw [beq_eq_false_iff_ne]; omega
   simp [this]
end Go.Proofs

set_option maxRecDepth 100000
set_option maxHeartbeats 4000000
namespace Go.Proofs
open Go.RowKit Go.Shelf Go.Pv
theorem l_below (m : Nat) (a b : List Int) (ha : a.length ≤ 1000000) (f36 f37 f38 f39 f40 : PV) (B : Code) (hB : Tryz.f148.body.bind (fun c => (loopsOf c)[0]?) = some B)
  (Q : Ex × St → Prop) (q1 : ∀ z y5 y6 y7 y8 y9 y10 y11 y12 y13 y14 y15 y16 y17 y18 y19 y20 y21 y22 y23 y24 y25 y26 y27 y28 y29 y30 y31 y32 y33 y34 y35, z = decide (cmpL a b < 0) → Q (.ret, ⟨[.d (.slice (a.map intD)), .d (.slice (b.map intD)), .undef, .undef, .d (.bool z), y5, y6, y7, y8, y9, y10, y11, y12, y13, y14, y15, y16, y17, y18, y19, y20, y21, y22, y23, y24, y25, y26, y27, y28, y29, y30, y31, y32, y33, y34, y35, f36, f37, f38, f39, f40], []⟩))
  (q2 : ∀ y5 y6 y7 y8 y9 y10 y11 y12 y13 y14 y15 y16 y17 y18 y19 y20 y21 y22 y23 y24 y25 y26 y27 y28 y29 y30 y31 y32 y33 y34 y35, decide (cmpL a b < 0) = decide (a.length < b.length) → Q (.exit 0, ⟨[.d (.slice (a.map intD)), .d (.slice (b.map intD)), .undef, .undef, .d (.bool false), y5, y6, y7, y8, y9, y10, y11, y12, y13, y14, y15, y16, y17, y18, y19, y20, y21, y22, y23, y24, y25, y26, y27, y28, y29, y30, y31, y32, y33, y34, y35, f36, f37, f38, f39, f40], []⟩)) :
  ∀ (k i : Nat) (x6 x7 x8 x9 x10 x11 x12 x13 x14 x15 x16 x17 x18 x19 x20 x21 x22 x23 x24 x25 x26 x27 x28 x29 x30 x31 x32 x33 x34 x35 : PV), i ≤ a.length → i ≤ b.length → a.length < i + k → cmpL a b = cmpL (a.drop i) (b.drop i) → Lp (loopN (evCode E1 (evI E1) m B) k ⟨[.d (.slice (a.map intD)), .d (.slice (b.map intD)), .undef, .undef, .d (.bool false), .d (.int .i64 i), x6, x7, x8, x9, x10, x11, x12, x13, x14, x15, x16, x17, x18, x19, x20, x21, x22, x23, x24, x25, x26, x27, x28, x29, x30, x31, x32, x33, x34, x35, f36, f37, f38, f39, f40], []⟩) Q := by
 simp [Tryz.f148, loopsOf] at hB
 subst hB
 intro k
 induction k with
 | zero => intros; omega
 | succ k ih =>
  intro i x6 x7 x8 x9 x10 x11 x12 x13 x14 x15 x16 x17 x18 x19 x20 x21 x22 x23 x24 x25 x26 x27 x28 x29 x30 x31 x32 x33 x34 x35 h1 h1' h2 h3
  rw [loopN_succ]
  by_cases hi : i < a.length
  ·have hx : a[i]? = some a[i] := List.getElem?_eq_getElem hi
   have hd : a.drop i = a[i] :: a.drop (i + 1) := List.drop_eq_getElem_cons hi
   generalize a[i] = x at hx hd
   have hlt : (i : Int) < (a.length : Int) := by omega
   by_cases hj : i < b.length
   ·have hy : b[i]? = some b[i] := List.getElem?_eq_getElem hj
    have he : b.drop i = b[i] :: b.drop (i + 1) := List.drop_eq_getElem_cons hj
    generalize b[i] = y at hy he
    have hltb : (i : Int) < (b.length : Int) := by omega
    have hw' : IntKind.i64.wrap ((i : Int) + 1) = ((i + 1 : Nat) : Int) := by rw [wrap_ok (by omega) (by omega)]; omega
    rw [hd, he] at h3
    by_cases hxy : x = y
    ·subst hxy
     have h3' : cmpL a b = cmpL (a.drop (i + 1)) (b.drop (i + 1)) := by simpa [cmpL] using h3
     have hk := fun z6 z7 z8 z9 z10 z11 z12 z13 z14 z15 z16 z17 z18 z19 z20 z21 z22 z23 z24 z25 z26 z27 z28 z29 z30 z31 z32 z33 z34 z35 => ih (i + 1) z6 z7 z8 z9 z10 z11 z12 z13 z14 z15 z16 z17 z18 z19 z20 z21 z22 z23 z24 z25 z26 z27 z28 z29 z30 z31 z32 z33 z34 z35 (by omega) (by omega) (by omega) h3'
     clear ih q1 q2 h3 h3'
     simp (maxSteps := 3000000) [hx, hy, hlt, hltb, hw']
     exact hk _ _ _ _ _ _ _ _ _ _ _ _ _ _ _ _ _ _ _ _ _ _ _ _ _ _ _ _ _ _
    ·have hne : (x != y) = true := by simpa using hxy
     have hz : decide (x < y) = decide (cmpL a b < 0) := by
      rw [h3]
      by_cases g : x < y
      ·simp [cmpL, g]
      ·have : y < x := by omega
       simp [cmpL, g, this]
     clear ih h3
     simp (maxSteps := 3000000) [hx, hy, hlt, hltb, hne]
     exact Lp_some.2 (q1 _ _ _ _ _ _ _ _ _ _ _ _ _ _ _ _ _ _ _ _ _ _ _ _ _ _ _ _ _ _ _ _ hz)
   ·have he : b.drop i = [] := List.drop_eq_nil_of_le (by omega)
    have hltb : ¬ (i : Int) < (b.length : Int) := by omega
    have hz : decide (cmpL a b < 0) = decide (a.length < b.length) := by
     rw [h3, hd, he]
     have : ¬ a.length < b.length := by omega
     simp [cmpL, this]
    clear ih h3
    simp (maxSteps := 3000000) [hlt, hltb]
    exact Lp_some.2 (q2 _ _ _ _ _ _ _ _ _ _ _ _ _ _ _ _ _ _ _ _ _ _ _ _ _ _ _ _ _ _ _ hz)
  ·have hlt : ¬ (i : Int) < (a.length : Int) := by omega
   have hd : a.drop i = [] := List.drop_eq_nil_of_le (by omega)
   have hz : decide (cmpL a b < 0) = decide (a.length < b.length) := by
    rw [h3, hd]
    by_cases g : a.length < b.length
    ·have : b.drop i ≠ [] := by intro h; have := List.drop_eq_nil_iff.1 h; omega
     cases hb : b.drop i with
     | nil => exact absurd hb this
     | cons y ys => simp [cmpL, g]
    ·rw [List.drop_eq_nil_of_le (by omega)]
     simp [cmpL, g]
   clear ih h3
   simp (maxSteps := 3000000) [hlt]
   exact Lp_some.2 (q2 _ _ _ _ _ _ _ _ _ _ _ _ _ _ _ _ _ _ _ _ _ _ _ _ _ _ _ _ _ _ _ hz)
def below (a b : List Int) : Bool := decide (cmpL a b < 0)
theorem r_below (a b : List Int) (ha : a.length ≤ 1000000) (σ : Store) : callIt E1 (evI E1) 148 [.d (.slice (a.map intD)), .d (.slice (b.map intD))] σ = some (.d (.bool (below a b)), σ) := by
 refine call_run (fn := Tryz.f148) (a.length + 1) rfl rfl rfl Tryz.func148 rfl rfl ?_ rfl
 simp [Tryz.f148, ec_loop]
 generalize hL : loopN _ _ _ = L
 obtain ⟨r, rfl, hr⟩ := at_loop hL (l_below (a.length + 1) a b ha _ _ _ _ _ _ rfl (fun r => (∃ z y5 y6 y7 y8 y9 y10 y11 y12 y13 y14 y15 y16 y17 y18 y19 y20 y21 y22 y23 y24 y25 y26 y27 y28 y29 y30 y31 y32 y33 y34 y35, z = decide (cmpL a b < 0) ∧ r = (.ret, ⟨[.d (.slice (a.map intD)), .d (.slice (b.map intD)), .undef, .undef, .d (.bool z), y5, y6, y7, y8, y9, y10, y11, y12, y13, y14, y15, y16, y17, y18, y19, y20, y21, y22, y23, y24, y25, y26, y27, y28, y29, y30, y31, y32, y33, y34, y35, .undef, .undef, .undef, .undef, .undef], []⟩)) ∨
   (∃ y5 y6 y7 y8 y9 y10 y11 y12 y13 y14 y15 y16 y17 y18 y19 y20 y21 y22 y23 y24 y25 y26 y27 y28 y29 y30 y31 y32 y33 y34 y35, decide (cmpL a b < 0) = decide (a.length < b.length) ∧ r = (.exit 0, ⟨[.d (.slice (a.map intD)), .d (.slice (b.map intD)), .undef, .undef, .d (.bool false), y5, y6, y7, y8, y9, y10, y11, y12, y13, y14, y15, y16, y17, y18, y19, y20, y21, y22, y23, y24, y25, y26, y27, y28, y29, y30, y31, y32, y33, y34, y35, .undef, .undef, .undef, .undef, .undef], []⟩)))
  (fun z y5 y6 y7 y8 y9 y10 y11 y12 y13 y14 y15 y16 y17 y18 y19 y20 y21 y22 y23 y24 y25 y26 y27 y28 y29 y30 y31 y32 y33 y34 y35 h => .inl ⟨z, y5, y6, y7, y8, y9, y10, y11, y12, y13, y14, y15, y16, y17, y18, y19, y20, y21, y22, y23, y24, y25, y26, y27, y28, y29, y30, y31, y32, y33, y34, y35, h, rfl⟩) (fun y5 y6 y7 y8 y9 y10 y11 y12 y13 y14 y15 y16 y17 y18 y19 y20 y21 y22 y23 y24 y25 y26 y27 y28 y29 y30 y31 y32 y33 y34 y35 h => .inr ⟨y5, y6, y7, y8, y9, y10, y11, y12, y13, y14, y15, y16, y17, y18, y19, y20, y21, y22, y23, y24, y25, y26, y27, y28, y29, y30, y31, y32, y33, y34, y35, h, rfl⟩) (a.length + 1) 0 _ _ _ _ _ _ _ _ _ _ _ _ _ _ _ _ _ _ _ _ _ _ _ _ _ _ _ _ _ _ (by omega) (by omega) (by omega) rfl)
 unfold below
 rcases hr with ⟨z, y5, y6, y7, y8, y9, y10, y11, y12, y13, y14, y15, y16, y17, y18, y19, y20, y21, y22, y23, y24, y25, y26, y27, y28, y29, y30, y31, y32, y33, y34, y35, hz, rfl⟩ | ⟨y5, y6, y7, y8, y9, y10, y11, y12, y13, y14, y15, y16, y17, y18, y19, y20, y21, y22, y23, y24, y25, y26, y27, y28, y29, y30, y31, y32, y33, y34, y35, hz, rfl⟩
 ·simp [hz]
 ·rw [hz]
  by_cases g : a.length < b.length
  ·have g' : (a.length : Int) < b.length := by omega
   simp [g, g']
  ·have g' : ¬ (a.length : Int) < b.length := by omega
   simp [g, g']
end Go.Proofs

set_option maxRecDepth 100000
set_option maxHeartbeats 4000000
namespace Go.Proofs
open Go.RowKit Go.Shelf Go.Pv
theorem l_place (m : Nat) (n : Nd) (hq : n.q.length ≤ 1000000) (hr : ∀ x ∈ n.q, x.right = true) (hs : n.c.s ≠ 3) (f36 : PV) (B : Code) (hB : Tryz.f87.body.bind (fun c => (loopsOf c)[0]?) = some B)
  (r : Nat) (Q : Ex × St → Prop) (q1 : ∀ y4 y5 y6 y7 y8 y9 y10 y11 y12 y13 y14 y15 y16 y17 y18 y19 y20 y21 y22 y23 y24 y25 y26 y27 y28 y29 y30 y31 y32 y33 y34 y35, Q (.exit 0, ⟨[n.P, .ptr 0 0, .d (.int .i64 0), .d (.int .i64 r), y4, y5, y6, y7, y8, y9, y10, y11, y12, y13, y14, y15, y16, y17, y18, y19, y20, y21, y22, y23, y24, y25, y26, y27, y28, y29, y30, y31, y32, y33, y34, y35, f36], [cellsOf n.P]⟩)) :
  ∀ (k i b : Nat) (w : Fr) (x5 x6 x7 x8 x9 x10 x11 x12 x13 x14 x15 x16 x17 x18 x19 x20 x21 x22 x23 x24 x25 x26 x27 x28 x29 x30 x31 x32 x33 x34 x35 : PV), i ≤ n.q.length → n.q.length < i + k → n.q[b]? = some w → (plc (n.q.drop i) i b w).1 = r →
   Lp (loopN (evCode E1 (evI E1) m B) k ⟨[n.P, .ptr 0 0, .d (.int .i64 0), .d (.int .i64 b), .d (.int .i64 i), x5, x6, x7, x8, x9, x10, x11, x12, x13, x14, x15, x16, x17, x18, x19, x20, x21, x22, x23, x24, x25, x26, x27, x28, x29, x30, x31, x32, x33, x34, x35, f36], [cellsOf n.P]⟩) Q := by
 simp [Tryz.f87, loopsOf] at hB
 subst hB
 intro k
 induction k with
 | zero => intros; omega
 | succ k ih =>
  intro i b w x5 x6 x7 x8 x9 x10 x11 x12 x13 x14 x15 x16 x17 x18 x19 x20 x21 x22 x23 x24 x25 x26 x27 x28 x29 x30 x31 x32 x33 x34 x35 h1 h2 h3 h4
  rw [loopN_succ]
  have hs' : (n.c.s != 3) = true := by simpa using hs
  by_cases hi : i < n.q.length
  ·have hx : n.q[i]? = some n.q[i] := List.getElem?_eq_getElem hi
   have hd : n.q.drop i = n.q[i] :: n.q.drop (i + 1) := List.drop_eq_getElem_cons hi
   have hxr := hr _ (List.getElem_mem hi)
   have hwr := hr _ (List.mem_of_getElem? h3)
   generalize n.q[i] = x at hx hd hxr
   have hlt : (i : Int) < (n.q.length : Int) := by omega
   have hb0 : ¬ (b : Int) < 0 := by omega
   have hw' : IntKind.i64.wrap ((i : Int) + 1) = ((i + 1 : Nat) : Int) := by rw [wrap_ok (by omega) (by omega)]; omega
   have e1 := r_Rank x hxr
   have e2 := r_Rank w hwr
   have e3 := r_below x.rank w.rank (by have := x.rank_len; omega)
   rw [hd] at h4
   unfold plc at h4
   cases hbl : below x.rank w.rank
   ·have hc : ¬ rankCmp x w < 0 := by simpa [below, rankCmp] using hbl
    rw [if_neg hc] at h4
    rw [hbl] at e3
    have hk := fun z5 z6 z7 z8 z9 z10 z11 z12 z13 z14 z15 z16 z17 z18 z19 z20 z21 z22 z23 z24 z25 z26 z27 z28 z29 z30 z31 z32 z33 z34 z35 => ih (i + 1) b w z5 z6 z7 z8 z9 z10 z11 z12 z13 z14 z15 z16 z17 z18 z19 z20 z21 z22 z23 z24 z25 z26 z27 z28 z29 z30 z31 z32 z33 z34 z35 (by omega) (by omega) h3 h4
    clear ih q1 h4
    simp [cellsOf] at e1 e2 hk
    simp (maxSteps := 3000000) [hx, h3, hlt, hb0, hw', hs', e1, e2, e3, cellsOf, loadS]
    exact hk _ _ _ _ _ _ _ _ _ _ _ _ _ _ _ _ _ _ _ _ _ _ _ _ _ _ _ _ _ _ _
   ·have hc : rankCmp x w < 0 := by simpa [below, rankCmp] using hbl
    rw [if_pos hc] at h4
    rw [hbl] at e3
    have hk := fun z5 z6 z7 z8 z9 z10 z11 z12 z13 z14 z15 z16 z17 z18 z19 z20 z21 z22 z23 z24 z25 z26 z27 z28 z29 z30 z31 z32 z33 z34 z35 => ih (i + 1) i x z5 z6 z7 z8 z9 z10 z11 z12 z13 z14 z15 z16 z17 z18 z19 z20 z21 z22 z23 z24 z25 z26 z27 z28 z29 z30 z31 z32 z33 z34 z35 (by omega) (by omega) hx h4
    clear ih q1 h4
    simp [cellsOf] at e1 e2 hk
    simp (maxSteps := 3000000) [hx, h3, hlt, hb0, hw', hs', e1, e2, e3, cellsOf, loadS]
    exact hk _ _ _ _ _ _ _ _ _ _ _ _ _ _ _ _ _ _ _ _ _ _ _ _ _ _ _ _ _ _ _
  ·have hlt : ¬ (i : Int) < (n.q.length : Int) := by omega
   have hd : n.q.drop i = [] := List.drop_eq_nil_of_le (by omega)
   rw [hd] at h4
   simp only [plc] at h4
   subst h4
   simp [hlt, cellsOf, loadS]
   exact Lp_some.2 (q1 _ _ _ _ _ _ _ _ _ _ _ _ _ _ _ _ _ _ _ _ _ _ _ _ _ _ _ _ _ _ _ _)
def Nd.place (n : Nd) : Int := if n.off || n.q.isEmpty then -1 else (nxt n.q : Int)
theorem r_place (n : Nd) (hq : n.q.length ≤ 1000000) (hr : ∀ x ∈ n.q, x.right = true) (σ : Store) : callIt E1 (evI E1) 87 [n.P] σ = some (.d (.int .i64 n.place), σ) := by
 refine call_run (fn := Tryz.f87) (n.q.length + 1) rfl rfl rfl Tryz.func87 rfl rfl ?_ rfl
 unfold Nd.place Nd.off
 by_cases hs : n.c.s = 3
 ·have hs' : (n.c.s == 3) = true := by simpa using hs
  have hs2 : (n.c.s != 3) = false := by simpa using hs
  rw [hs']
  by_cases h0 : 0 < n.q.length
  ·simp [Tryz.f87, ec_loop, loopN_succ, hs2, h0]
  ·simp [Tryz.f87, ec_loop, loopN_succ, hs2, h0]
 ·have hs' : (n.c.s == 3) = false := by simpa using hs
  have hs2 : (n.c.s != 3) = true := by simpa using hs
  rw [hs']
  obtain ⟨q, fs, c, g⟩ := n
  cases q with
  | nil => simp [Tryz.f87, ec_loop, loopN_succ]
  | cons w q =>
   have hw1 : IntKind.i64.wrap (0 + 1) = 1 := by decide
   have hpos : (0 : Int) < (q.length : Int) + 1 := by omega
   simp only at hs2
   simp [Tryz.f87, ec_loop]
   rw [loopN_succ]
   simp [hs2, hpos, hw1]
   generalize hL : loopN _ _ _ = L
   obtain ⟨r, rfl, y4, y5, y6, y7, y8, y9, y10, y11, y12, y13, y14, y15, y16, y17, y18, y19, y20, y21, y22, y23, y24, y25, y26, y27, y28, y29, y30, y31, y32, y33, y34, y35, rfl⟩ := at_loop hL (l_place (q.length + 2) ⟨w :: q, fs, c, g⟩ hq hr hs _ _ rfl (nxt (w :: q)) (fun r => ∃ y4 y5 y6 y7 y8 y9 y10 y11 y12 y13 y14 y15 y16 y17 y18 y19 y20 y21 y22 y23 y24 y25 y26 y27 y28 y29 y30 y31 y32 y33 y34 y35, r = (.exit 0, ⟨[(Nd.mk (w :: q) fs c g).P, .ptr 0 0, .d (.int .i64 0), .d (.int .i64 (nxt (w :: q))), y4, y5, y6, y7, y8, y9, y10, y11, y12, y13, y14, y15, y16, y17, y18, y19, y20, y21, y22, y23, y24, y25, y26, y27, y28, y29, y30, y31, y32, y33, y34, y35, .undef], [cellsOf (Nd.mk (w :: q) fs c g).P]⟩))
    (fun y4 y5 y6 y7 y8 y9 y10 y11 y12 y13 y14 y15 y16 y17 y18 y19 y20 y21 y22 y23 y24 y25 y26 y27 y28 y29 y30 y31 y32 y33 y34 y35 => ⟨y4, y5, y6, y7, y8, y9, y10, y11, y12, y13, y14, y15, y16, y17, y18, y19, y20, y21, y22, y23, y24, y25, y26, y27, y28, y29, y30, y31, y32, y33, y34, y35, rfl⟩) (q.length + 1) 1 0 w _ _ _ _ _ _ _ _ _ _ _ _ _ _ _ _ _ _ _ _ _ _ _ _ _ _ _ _ _ _ _ (by simp) (by simp) rfl (nxt_spec w q).1.symm)
   simp
end Go.Proofs

set_option maxRecDepth 100000
set_option maxHeartbeats 8000000
namespace Go.Proofs
open Go.RowKit Go.Shelf Go.Pv
theorem toInt_wrap (x : BitVec 64) : IntKind.i64.wrap (x.toNat : Int) = x.toInt := by
 rw [IntKind.wrap_i64, BitVec.toInt_eq_toNat_cond]
 have := x.isLt
 split <;> omega
theorem and_not_zero {n : Nat} (x y : BitVec n) : x &&& ~~~y = 0#n ↔ x &&& y = x := by
 constructor
 ·intro h
  apply BitVec.eq_of_getLsbD_eq
  intro i hi
  have := congrArg (fun z => BitVec.getLsbD z i) h
  simp only [BitVec.getLsbD_and, BitVec.getLsbD_not, hi, decide_true, Bool.true_and, BitVec.getLsbD_zero] at this
  rw [BitVec.getLsbD_and]
  cases ha : x.getLsbD i <;> cases hb : y.getLsbD i <;> simp_all
 ·intro h
  apply BitVec.eq_of_getLsbD_eq
  intro i hi
  have := congrArg (fun z => BitVec.getLsbD z i) h
  simp only [BitVec.getLsbD_and] at this
  simp only [BitVec.getLsbD_and, BitVec.getLsbD_not, hi, decide_true, Bool.true_and, BitVec.getLsbD_zero]
  cases ha : x.getLsbD i <;> cases hb : y.getLsbD i <;> simp_all
theorem Fl.rright_eq (f : Fl) (hf : f.wf) : f.rright = f.right := by
 obtain ⟨e, m, t⟩ := f
 obtain ⟨⟨w1, w2⟩, w3, w4⟩ := hf
 simp only at w1 w2 w3 w4
 have hlim : (if e then (536870912 : Int) else 2048) = 2 ^ (if e then 29 else 11) := by cases e <;> rfl
 unfold Fl.rright Fl.right
 simp only
 rw [hlim]
 have hL : (2 : Int) ^ (if e then 29 else 11) ≤ 536870912 ∧ 2048 ≤ (2 : Int) ^ (if e then 29 else 11) := by cases e <;> decide
 generalize (2 : Int) ^ (if e then 29 else 11) = L at hL
 have tt : (BitVec.ofInt 64 t).toInt = t := by rw [BitVec.toInt_ofInt]; simp [Int.bmod]; omega
 have mt : (BitVec.ofInt 64 m).toInt = m := by rw [BitVec.toInt_ofInt]; simp [Int.bmod]; omega
 rw [toInt_wrap, toInt_wrap]
 have a1 : ((BitVec.ofInt 64 t &&& ~~~BitVec.ofInt 64 m).toInt == 0) = (decide (BitVec.ofInt 64 t &&& BitVec.ofInt 64 m = BitVec.ofInt 64 t)) := by
  rw [Bool.eq_iff_iff, beq_iff_eq, decide_eq_true_eq, ← and_not_zero]
  constructor
  ·intro h; exact BitVec.eq_of_toInt_eq (by rw [h]; rfl)
  ·intro h; rw [h]; rfl
 have a2 : ((BitVec.ofInt 64 t &&& BitVec.ofInt 64 m).toInt == t) = (decide (BitVec.ofInt 64 t &&& BitVec.ofInt 64 m = BitVec.ofInt 64 t)) := by
  rw [Bool.eq_iff_iff, beq_iff_eq, decide_eq_true_eq]
  constructor
  ·intro h; exact BitVec.eq_of_toInt_eq (by rw [h, tt])
  ·intro h; rw [h, tt]
 rw [a1, a2]
 by_cases hsub : BitVec.ofInt 64 t &&& BitVec.ofInt 64 m = BitVec.ofInt 64 t
 ·simp only [hsub, decide_true, Bool.and_true]
  rw [Bool.eq_iff_iff]
  simp only [Bool.and_eq_true, decide_eq_true_eq, beq_iff_eq]
  have hdiv : m / L = 0 ↔ 0 ≤ m ∧ m < L := by
   constructor
   ·intro h
    have h1 := Int.emod_add_mul_ediv m L
    have h2 := Int.emod_nonneg m (show L ≠ 0 by omega)
    have h3 := Int.emod_lt_of_pos m (show 0 < L by omega)
    rw [h] at h1
    omega
   ·intro h; exact Int.ediv_eq_zero_of_lt h.1 h.2
  rw [hdiv]
  constructor
  ·intro h; omega
  ·intro h
   have hle : (BitVec.ofInt 64 t).toNat ≤ (BitVec.ofInt 64 m).toNat := by
    have := congrArg BitVec.toNat hsub
    rw [BitVec.toNat_and] at this
    rw [← this]
    exact Nat.and_le_right
   have hm : (BitVec.ofInt 64 m).toNat = m.toNat := by rw [BitVec.toNat_ofInt]; omega
   have ht : t = ((BitVec.ofInt 64 t).toNat : Int) := by
    rw [BitVec.toInt_eq_toNat_cond] at tt
    split at tt <;> omega
   omega
 ·simp [hsub]
end Go.Proofs

set_option maxRecDepth 100000
set_option maxHeartbeats 4000000
namespace Go.Proofs
open Go.RowKit Go.Shelf Go.Pv
theorem all_drop {α : Type} {p : α → Bool} {l : List α} {i : Nat} (hi : i < l.length) : (l.drop i).all p = (p l[i] && (l.drop (i + 1)).all p) := by
 rw [List.drop_eq_getElem_cons hi]; rfl
theorem l_frames (m : Nat) (l : List Fr) (most : Int) (hl : l.length ≤ 1000000) (f18 f19 f20 f21 : PV) (B : Code) (hB : Tryz.f157.body.bind (fun c => (loopsOf c)[0]?) = some B)
  (Q : Ex × St → Prop) (q1 : ∀ y5 y6 y7 y8 y9 y10 y11 y12 y13 y14 y15 y16 y17, l.all (·.right) = false → Q (.ret, ⟨[.d (.slice (l.map Fr.D)), .d (.int .i64 most), .undef, .undef, .d (.bool false), y5, y6, y7, y8, y9, y10, y11, y12, y13, y14, y15, y16, y17, f18, f19, f20, f21], []⟩)) (q2 : ∀ y5 y6 y7 y8 y9 y10 y11 y12 y13 y14 y15 y16 y17, l.all (·.right) = true → Q (.exit 0, ⟨[.d (.slice (l.map Fr.D)), .d (.int .i64 most), .undef, .undef, .d (.bool false), y5, y6, y7, y8, y9, y10, y11, y12, y13, y14, y15, y16, y17, f18, f19, f20, f21], []⟩)) :
  ∀ (k i : Nat) (x6 x7 x8 x9 x10 x11 x12 x13 x14 x15 x16 x17 : PV), i ≤ l.length → l.length < i + k → l.all (·.right) = (l.drop i).all (·.right) → Lp (loopN (evCode E1 (evI E1) m B) k ⟨[.d (.slice (l.map Fr.D)), .d (.int .i64 most), .undef, .undef, .d (.bool false), .d (.int .i64 i), x6, x7, x8, x9, x10, x11, x12, x13, x14, x15, x16, x17, f18, f19, f20, f21], []⟩) Q := by
 simp [Tryz.f157, loopsOf] at hB
 subst hB
 intro k
 induction k with
 | zero => intros; omega
 | succ k ih =>
  intro i x6 x7 x8 x9 x10 x11 x12 x13 x14 x15 x16 x17 h1 h2 h3
  rw [loopN_succ]
  by_cases hi : i < l.length
  ·have hx : l[i]? = some l[i] := List.getElem?_eq_getElem hi
   rw [all_drop hi] at h3
   generalize l[i] = x at hx h3
   have hlt : (i : Int) < (l.length : Int) := by omega
   have hw' : IntKind.i64.wrap ((i : Int) + 1) = ((i + 1 : Nat) : Int) := by rw [wrap_ok (by omega) (by omega)]; omega
   have hg := r_right x
   cases hb : x.right
   ·rw [hb] at hg h3
    rw [Bool.false_and] at h3
    have hq := fun y5 y6 y7 y8 y9 y10 y11 y12 y13 y14 y15 y16 y17 => q1 y5 y6 y7 y8 y9 y10 y11 y12 y13 y14 y15 y16 y17 h3
    clear ih q1 q2 h3
    simp at hg
    simp [hx, hlt, hw', hg]
    exact Lp_some.2 (hq _ _ _ _ _ _ _ _ _ _ _ _ _)
   ·rw [hb] at hg h3
    rw [Bool.true_and] at h3
    have hk := fun z6 z7 z8 z9 z10 z11 z12 z13 z14 z15 z16 z17 => ih (i + 1) z6 z7 z8 z9 z10 z11 z12 z13 z14 z15 z16 z17 (by omega) (by omega) h3
    clear ih q1 q2 h3
    simp at hg
    simp [hx, hlt, hw', hg]
    exact hk _ _ _ _ _ _ _ _ _ _ _ _
  ·have hlt : ¬ (i : Int) < (l.length : Int) := by omega
   rw [List.drop_eq_nil_of_le (by omega)] at h3
   have hq := fun y5 y6 y7 y8 y9 y10 y11 y12 y13 y14 y15 y16 y17 => q2 y5 y6 y7 y8 y9 y10 y11 y12 y13 y14 y15 y16 y17 h3
   clear ih q1 q2 h3
   simp [hlt]
   exact Lp_some.2 (hq _ _ _ _ _ _ _ _ _ _ _ _ _)
theorem r_frames (l : List Fr) (most : Int) (hl : l.length ≤ 1000000) (σ : Store) : callIt E1 (evI E1) 157 [.d (.slice (l.map Fr.D)), .d (.int .i64 most)] σ = some (.d (.bool (frsRight most l)), σ) := by
 refine call_run (fn := Tryz.f157) (l.length + 1) rfl rfl rfl Tryz.func157 rfl rfl ?_ rfl
 unfold frsRight
 simp only [Tryz.f157]
 simp [ec_loop]
 generalize hL : loopN _ _ _ = L
 obtain ⟨r, rfl, hr⟩ := at_loop hL (l_frames (l.length + 1) l most hl _ _ _ _ _ rfl (fun r => (∃ y5 y6 y7 y8 y9 y10 y11 y12 y13 y14 y15 y16 y17, l.all (·.right) = false ∧ r = (.ret, ⟨[.d (.slice (l.map Fr.D)), .d (.int .i64 most), .undef, .undef, .d (.bool false), y5, y6, y7, y8, y9, y10, y11, y12, y13, y14, y15, y16, y17, .undef, .undef, .undef, .undef], []⟩)) ∨
   (∃ y5 y6 y7 y8 y9 y10 y11 y12 y13 y14 y15 y16 y17, l.all (·.right) = true ∧ r = (.exit 0, ⟨[.d (.slice (l.map Fr.D)), .d (.int .i64 most), .undef, .undef, .d (.bool false), y5, y6, y7, y8, y9, y10, y11, y12, y13, y14, y15, y16, y17, .undef, .undef, .undef, .undef], []⟩)))
  (fun y5 y6 y7 y8 y9 y10 y11 y12 y13 y14 y15 y16 y17 h => .inl ⟨y5, y6, y7, y8, y9, y10, y11, y12, y13, y14, y15, y16, y17, h, rfl⟩) (fun y5 y6 y7 y8 y9 y10 y11 y12 y13 y14 y15 y16 y17 h => .inr ⟨y5, y6, y7, y8, y9, y10, y11, y12, y13, y14, y15, y16, y17, h, rfl⟩) (l.length + 1) 0 _ _ _ _ _ _ _ _ _ _ _ _ (by omega) (by omega) rfl)
 rcases hr with ⟨y5, y6, y7, y8, y9, y10, y11, y12, y13, y14, y15, y16, y17, h, rfl⟩ | ⟨y5, y6, y7, y8, y9, y10, y11, y12, y13, y14, y15, y16, y17, h, rfl⟩
 ·rw [h]; simp
 ·rw [h]; simp
theorem l_filters (m : Nat) (l : List Fl) (hl : l.length ≤ 1000000) (f16 f17 f18 : PV) (B : Code) (hB : Tryz.f158.body.bind (fun c => (loopsOf c)[0]?) = some B)
  (Q : Ex × St → Prop) (q1 : ∀ y3 y4 y5 y6 y7 y8 y9 y10 y11 y12 y13 y14 y15, l.all (·.rright) = false → Q (.ret, ⟨[.d (.slice (l.map Fl.D)), .undef, .d (.bool false), y3, y4, y5, y6, y7, y8, y9, y10, y11, y12, y13, y14, y15, f16, f17, f18], []⟩)) (q2 : ∀ y3 y4 y5 y6 y7 y8 y9 y10 y11 y12 y13 y14 y15, l.all (·.rright) = true → Q (.exit 0, ⟨[.d (.slice (l.map Fl.D)), .undef, .d (.bool false), y3, y4, y5, y6, y7, y8, y9, y10, y11, y12, y13, y14, y15, f16, f17, f18], []⟩)) :
  ∀ (k i : Nat) (x4 x5 x6 x7 x8 x9 x10 x11 x12 x13 x14 x15 : PV), i ≤ l.length → l.length < i + k → l.all (·.rright) = (l.drop i).all (·.rright) → Lp (loopN (evCode E1 (evI E1) m B) k ⟨[.d (.slice (l.map Fl.D)), .undef, .d (.bool false), .d (.int .i64 i), x4, x5, x6, x7, x8, x9, x10, x11, x12, x13, x14, x15, f16, f17, f18], []⟩) Q := by
 simp [Tryz.f158, loopsOf] at hB
 subst hB
 intro k
 induction k with
 | zero => intros; omega
 | succ k ih =>
  intro i x4 x5 x6 x7 x8 x9 x10 x11 x12 x13 x14 x15 h1 h2 h3
  rw [loopN_succ]
  by_cases hi : i < l.length
  ·have hx : l[i]? = some l[i] := List.getElem?_eq_getElem hi
   rw [all_drop hi] at h3
   generalize l[i] = x at hx h3
   have hlt : (i : Int) < (l.length : Int) := by omega
   have hw' : IntKind.i64.wrap ((i : Int) + 1) = ((i + 1 : Nat) : Int) := by rw [wrap_ok (by omega) (by omega)]; omega
   have hg := r_flRight x
   cases hb : x.rright
   ·rw [hb] at hg h3
    rw [Bool.false_and] at h3
    have hq := fun y3 y4 y5 y6 y7 y8 y9 y10 y11 y12 y13 y14 y15 => q1 y3 y4 y5 y6 y7 y8 y9 y10 y11 y12 y13 y14 y15 h3
    clear ih q1 q2 h3
    simp at hg
    simp [hx, hlt, hw', hg]
    exact Lp_some.2 (hq _ _ _ _ _ _ _ _ _ _ _ _ _)
   ·rw [hb] at hg h3
    rw [Bool.true_and] at h3
    have hk := fun z4 z5 z6 z7 z8 z9 z10 z11 z12 z13 z14 z15 => ih (i + 1) z4 z5 z6 z7 z8 z9 z10 z11 z12 z13 z14 z15 (by omega) (by omega) h3
    clear ih q1 q2 h3
    simp at hg
    simp [hx, hlt, hw', hg]
    exact hk _ _ _ _ _ _ _ _ _ _ _ _
  ·have hlt : ¬ (i : Int) < (l.length : Int) := by omega
   rw [List.drop_eq_nil_of_le (by omega)] at h3
   have hq := fun y3 y4 y5 y6 y7 y8 y9 y10 y11 y12 y13 y14 y15 => q2 y3 y4 y5 y6 y7 y8 y9 y10 y11 y12 y13 y14 y15 h3
   clear ih q1 q2 h3
   simp [hlt]
   exact Lp_some.2 (hq _ _ _ _ _ _ _ _ _ _ _ _ _)
theorem r_filters0 (l : List Fl) (hl : l.length ≤ 1000000) (σ : Store) : callIt E1 (evI E1) 158 [.d (.slice (l.map Fl.D))] σ = some (.d (.bool (decide ((l.length : Int) ≤ 8) && l.all (·.rright))), σ) := by
 refine call_run (fn := Tryz.f158) (l.length + 1) rfl rfl rfl Tryz.func158 rfl rfl ?_ rfl
 simp only [Tryz.f158]
 simp [ec_loop]
 generalize hL : loopN _ _ _ = L
 obtain ⟨r, rfl, hr⟩ := at_loop hL (l_filters (l.length + 1) l hl _ _ _ _ rfl (fun r => (∃ y3 y4 y5 y6 y7 y8 y9 y10 y11 y12 y13 y14 y15, l.all (·.rright) = false ∧ r = (.ret, ⟨[.d (.slice (l.map Fl.D)), .undef, .d (.bool false), y3, y4, y5, y6, y7, y8, y9, y10, y11, y12, y13, y14, y15, .undef, .undef, .undef], []⟩)) ∨
   (∃ y3 y4 y5 y6 y7 y8 y9 y10 y11 y12 y13 y14 y15, l.all (·.rright) = true ∧ r = (.exit 0, ⟨[.d (.slice (l.map Fl.D)), .undef, .d (.bool false), y3, y4, y5, y6, y7, y8, y9, y10, y11, y12, y13, y14, y15, .undef, .undef, .undef], []⟩)))
  (fun y3 y4 y5 y6 y7 y8 y9 y10 y11 y12 y13 y14 y15 h => .inl ⟨y3, y4, y5, y6, y7, y8, y9, y10, y11, y12, y13, y14, y15, h, rfl⟩) (fun y3 y4 y5 y6 y7 y8 y9 y10 y11 y12 y13 y14 y15 h => .inr ⟨y3, y4, y5, y6, y7, y8, y9, y10, y11, y12, y13, y14, y15, h, rfl⟩) (l.length + 1) 0 _ _ _ _ _ _ _ _ _ _ _ _ (by omega) (by omega) rfl)
 rcases hr with ⟨y3, y4, y5, y6, y7, y8, y9, y10, y11, y12, y13, y14, y15, h, rfl⟩ | ⟨y3, y4, y5, y6, y7, y8, y9, y10, y11, y12, y13, y14, y15, h, rfl⟩
 ·rw [h]; simp
 ·rw [h]; simp
end Go.Proofs

set_option maxRecDepth 100000
set_option maxHeartbeats 4000000
namespace Go.Proofs
open Go.RowKit Go.Shelf Go.Pv
theorem flsRright_eq (l : List Fl) (hw : ∀ f ∈ l, f.wf) : l.all (·.rright) = l.all (·.right) := by
 rw [Bool.eq_iff_iff, List.all_eq_true, List.all_eq_true]
 exact ⟨fun h x hx => by rw [← x.rright_eq (hw x hx)]; exact h x hx, fun h x hx => by rw [x.rright_eq (hw x hx)]; exact h x hx⟩
theorem r_filters (l : List Fl) (hl : l.length ≤ 1000000) (hw : ∀ f ∈ l, f.wf) (σ : Store) : callIt E1 (evI E1) 158 [.d (.slice (l.map Fl.D))] σ = some (.d (.bool (flsRight l)), σ) := by
 have := r_filters0 l hl σ
 rw [flsRright_eq l hw] at this
 exact this
theorem Cn.rright_eq (c : Cn) : c.rright = c.right := by
 rw [Bool.eq_iff_iff, c.right_iff]
 unfold Cn.rright stOf
 obtain ⟨t, r, s, z⟩ := c
 simp only
 by_cases hs : s = 3
 ·simp [hs]; omega
 ·simp only [hs, if_false]
  by_cases h : (decide (t < 0) || decide (t > 255) || decide (r < 0) || decide (r > 255) || z != 0) = true
  ·rw [if_pos h]
   simp at h
   constructor
   ·intro h; cases h
   ·rintro ⟨a, b, c, d⟩; omega
  ·rw [if_neg h]
   simp at h
   by_cases h2 : (decide (t > 127) || decide (r > 127)) = true
   ·rw [if_pos h2]
    simp at h2
    rw [if_pos (by omega)]
    simp; omega
   ·rw [if_neg h2]
    simp at h2
    rw [if_neg (by omega)]
    simp; omega
theorem r_countRight' (c : Cn) (σ : Store) : callIt E1 (evI E1) 134 [c.P] σ = some (.d (.bool c.right), σ) := by
 rw [← c.rright_eq]; exact r_countRight c σ
theorem r_RightNd (n : Nd) (hq : n.q.length ≤ 1000000) (hf : n.fs.length ≤ 1000000) (hg : n.g.length ≤ 1000000) (hw : ∀ f ∈ n.fs, f.wf) (σ : Store) : callIt E1 (evI E1) 109 [n.P] σ = some (.d (.bool n.right), σ) := by
 refine call_run (fn := Tryz.f109) 5 rfl rfl rfl Tryz.func109 rfl rfl ?_ rfl
 have k1 := r_frames n.q 16 hq
 have k2 := r_frames n.g 64 hg
 have k3 := r_filters n.fs hf hw
 have k4 := r_countRight' n.c
 unfold Nd.right
 simp at k4
 cases h1 : frsRight 16 n.q
 ·simp [Tryz.f109, k1, h1]
 ·cases h2 : frsRight 64 n.g
  ·simp [Tryz.f109, k1, k2, h1, h2]
  ·cases h3 : flsRight n.fs
   ·simp [Tryz.f109, k1, k2, k3, h1, h2, h3]
   ·simp [Tryz.f109, k1, k2, k3, k4, h1, h2, h3]
theorem app24 (rows xs : List (List DV)) (h : rowsOk 3 rows = true) (h' : rowsOk 3 xs = true) (hb : (rows.length + xs.length) * 24 ≤ roomB) : evAppend Tryz.prog 45 (acc rows) (.d (.slice xs)) = some (acc (rows ++ xs)) := by
 unfold evAppend
 rw [Ty.app45]
 simp only [Option.bind_some, acc_own, elemsOf, h, h', Bool.true_and, hb, decide_true, if_true]
theorem r_new (l : List Fl) (hl : l.length ≤ 1000000) (hw : ∀ f ∈ l, f.wf) (σ : Store) : callIt E1 (evI E1) 110 [.d (.slice (l.map Fl.D))] σ = some (.tup [(ndNew l).1.P, .d (.int .i64 (ndNew l).2)], σ) := by
 refine call_run (fn := Tryz.f110) 5 rfl rfl rfl Tryz.func110 rfl rfl ?_ rfl
 have h1 := r_filters l hl hw
 have h2 := app24 [] (l.map Fl.D) rfl (rowsOk_Fl _) (by simp [roomB]; omega)
 have h3 := r_countNew
 unfold ndNew
 simp at h2 h3
 cases hb : flsRight l
 ·rw [hb] at h1
  simp [Tryz.f110, h1, nd0]
 ·rw [hb] at h1
  simp [Tryz.f110, h1, h2, h3, rowsFrom]
theorem r_Send (n : Nd) (f : Fr) (hq : n.q.length ≤ 1000000) (σ : Store) : callIt E1 (evI E1) 160 [n.P, f.P] σ = some (.tup [(n.Send f).1.P, .d (.int .i64 (n.Send f).2)], σ) := by
 refine call_run (fn := Tryz.f160) 5 rfl rfl rfl Tryz.func160 rfl rfl ?_ rfl
 have h1 := r_right f
 have h2 := app22 [] (n.q.map Fr.D) rfl (rowsOk_Fr _) (by simp [roomB]; omega)
 have h3 := app22 (n.q.map Fr.D) [f.D] (rowsOk_Fr _) rfl (by simp [roomB]; omega)
 unfold Nd.Send Nd.off
 simp at h1 h2 h3
 cases hf : f.right
 ·rw [hf] at h1
  simp [Tryz.f160, h1]
 ·rw [hf] at h1
  cases ho : (n.c.s == 3)
  ·by_cases hl : 16 ≤ n.q.length
   ·have hl' : (n.q.length : Int) ≥ 16 := by omega
    simp [Tryz.f160, h1, ho, hl, hl']
   ·have hl' : ¬ (n.q.length : Int) ≥ 16 := by omega
    simp [Tryz.f160, h1, ho, hl, hl', h2, h3, rowsFrom]
  ·simp [Tryz.f160, h1, ho]
theorem r_Next (n : Nd) (hq : n.q.length ≤ 1000000) (hr : ∀ x ∈ n.q, x.right = true) (σ : Store) : callIt E1 (evI E1) 32 [n.P] σ = some (.tup [n.Next.1.P, .d (.bool n.Next.2)], σ) := by
 refine call_run (fn := Tryz.f32) 5 rfl rfl rfl Tryz.func32 rfl rfl ?_ rfl
 have h1 := r_place n hq hr
 unfold Nd.Next
 unfold Nd.place at h1
 cases ho : n.off || n.q.isEmpty
 ·rw [ho] at h1
  have hne : n.q ≠ [] := by intro h; simp [h] at ho
  obtain ⟨k, hk⟩ : ∃ k, k = nxt n.q := ⟨_, rfl⟩
  have hlt := nxt_lt hne
  rw [← hk] at h1 hlt ⊢
  have hx : n.q[k]? = some n.q[k] := List.getElem?_eq_getElem hlt
  generalize n.q[k] = x at hx
  have hk0 : ¬ (k : Int) < 0 := by omega
  simp at h1
  simp [Tryz.f32, cellsOf, loadS, storeS, h1, hx, hk0]
 ·rw [ho] at h1
  simp at h1
  simp [Tryz.f32, cellsOf, loadS, storeS, h1, fr0]
theorem r_Take (n : Nd) (hg : n.g.length ≤ 1000000) (σ : Store) : callIt E1 (evI E1) 165 [n.P] σ = some (.tup [n.Take.1.P, n.Take.2.1.P, .d (.bool n.Take.2.2)], σ) := by
 refine call_run (fn := Tryz.f165) 5 rfl rfl rfl Tryz.func165 rfl rfl ?_ rfl
 obtain ⟨q, fs, c, g⟩ := n
 unfold Nd.Take
 cases g with
 | nil => simp [Tryz.f165, cellsOf, loadS, storeS, fr0]
 | cons f g =>
  simp at hg
  have h2 := app22 [] (g.map Fr.D) rfl (rowsOk_Fr _) (by simp [roomB]; omega)
  have hl : ((g.length : Int) + 1 == 0) = false := by rw [beq_eq_false_iff_ne]; omega
  simp at h2
  simp [Tryz.f165, cellsOf, loadS, storeS, h2, hl, rowsFrom]
theorem step_on {c : Cn} (hs : c.s ≠ 3) (what : Int) : c.step what = if wkT what c.t > 255 then ⟨256, 0, 3, 0⟩ else ⟨wkT what c.t, wkR what c.r, if max (wkT what c.t) (wkR what c.r) > 127 then 2 else 1, c.z⟩ := by
 unfold Cn.step
 simp only [stT, stR, stS, stQ, hs, if_false]
 split <;> rfl
theorem r_step (c : Cn) (what : Int) (hc : c.ok) (hw : 1 ≤ what ∧ what ≤ 6) (σ : Store) : callIt E1 (evI E1) 89 [c.P, .d (.int .i64 what)] σ = some ((c.step what).P, σ) := by
 refine call_run (fn := Tryz.f89) 5 rfl rfl rfl Tryz.func89 rfl rfl ?_ rfl
 have h0 := r_countNew
 simp at h0
 obtain ⟨t, r, s, z⟩ := c
 obtain ⟨⟨t0, t1⟩, ⟨r0, r1⟩, z0, z1⟩ := hc
 simp only at t0 t1 r0 r1 z0 z1
 have w1 : IntKind.i64.wrap (z + 1) = z + 1 := wrap_ok (by omega) (by omega)
 have w2 : IntKind.i64.wrap (t - 1) = t - 1 := wrap_ok (by omega) (by omega)
 have w3 : IntKind.i64.wrap (r - 1) = r - 1 := wrap_ok (by omega) (by omega)
 have w4 : IntKind.i64.wrap (t + 8) = t + 8 := wrap_ok (by omega) (by omega)
 have w5 : IntKind.i64.wrap (r + 1) = r + 1 := wrap_ok (by omega) (by omega)
 have w6 : IntKind.i64.wrap (r + 8) = r + 8 := wrap_ok (by omega) (by omega)
 by_cases hs : s = 3
 ·subst hs
  by_cases h6 : what = 6
  ·subst h6
   by_cases hz : z + 1 = 128
   ·obtain rfl : z = 127 := by omega
    have w1' : IntKind.i64.wrap 128 = 128 := by decide
    simp [Tryz.f89, cellsOf, loadS, storeS, w1', h0, Cn.step, stT, stR, stS, stQ]
   ·have hz' : (z + 1 == 128) = false := by simpa using hz
    simp [Tryz.f89, cellsOf, loadS, storeS, w1, hz', Cn.step, stT, stR, stS, stQ, hz]
  ·have h6' : (what != 6) = true := by simpa using h6
   simp [Tryz.f89, cellsOf, loadS, storeS, h6', Cn.step, stT, stR, stS, stQ, h6]
 ·have hs' : (s == 3) = false := by simpa using hs
  rw [step_on hs]
  have hwh : what = 1 ∨ what = 2 ∨ what = 3 ∨ what = 4 ∨ what = 5 ∨ what = 6 := by omega
  rcases hwh with rfl | rfl | rfl | rfl | rfl | rfl
  ·by_cases hT : max (t - 1) 0 > 255
   ·simp [Tryz.f89, cellsOf, loadS, storeS, hs', w2, hT, wkT, wkR]
   ·by_cases g1 : max (t - 1) 0 > 127
    ·have g3 : max (max (t - 1) 0) (r) > 127 := by omega
     simp [Tryz.f89, cellsOf, loadS, storeS, hs', w2, hT, g1, g3, wkT, wkR] <;> omega
    ·by_cases g2 : r > 127
     ·have g3 : max (max (t - 1) 0) (r) > 127 := by omega
      simp [Tryz.f89, cellsOf, loadS, storeS, hs', w2, hT, g1, g2, g3, wkT, wkR] <;> omega
     ·have g3 : ¬ max (max (t - 1) 0) (r) > 127 := by omega
      simp [Tryz.f89, cellsOf, loadS, storeS, hs', w2, hT, g1, g2, g3, wkT, wkR] <;> omega
  ·by_cases hr : r > 127
   ·have hmn : min (max (r - 1) 0) 127 = 127 := by omega
    by_cases hT : t > 255
    ·simp [Tryz.f89, cellsOf, loadS, storeS, hs', w3, hr, hT, wkT, wkR]
    ·by_cases g1 : t > 127
     ·have g3 : max t (127 : Int) > 127 := by omega
      simp [Tryz.f89, cellsOf, loadS, storeS, hs', w3, hr, hmn, hT, g1, g3, wkT, wkR]
     ·have g3 : ¬ max t (127 : Int) > 127 := by omega
      simp [Tryz.f89, cellsOf, loadS, storeS, hs', w3, hr, hmn, hT, g1, g3, wkT, wkR] <;> omega
   ·have hmn : min (max (r - 1) 0) 127 = max (r - 1) 0 := by omega
    have g2 : ¬ max (r - 1) 0 > 127 := by omega
    by_cases hT : t > 255
    ·simp [Tryz.f89, cellsOf, loadS, storeS, hs', w3, hr, hT, wkT, wkR]
    ·by_cases g1 : t > 127
     ·have g3 : max t (max (r - 1) 0) > 127 := by omega
      simp [Tryz.f89, cellsOf, loadS, storeS, hs', w3, hr, hmn, hT, g1, g2, g3, wkT, wkR] <;> omega
     ·have g3 : ¬ max t (max (r - 1) 0) > 127 := by omega
      simp [Tryz.f89, cellsOf, loadS, storeS, hs', w3, hr, hmn, hT, g1, g2, g3, wkT, wkR] <;> omega
  ·by_cases hT : t + 8 > 255
   ·simp [Tryz.f89, cellsOf, loadS, storeS, hs', w4, hT, wkT, wkR]
   ·by_cases g1 : t + 8 > 127
    ·have g3 : max (t + 8) (r) > 127 := by omega
     simp [Tryz.f89, cellsOf, loadS, storeS, hs', w4, hT, g1, g3, wkT, wkR] <;> omega
    ·by_cases g2 : r > 127
     ·have g3 : max (t + 8) (r) > 127 := by omega
      simp [Tryz.f89, cellsOf, loadS, storeS, hs', w4, hT, g1, g2, g3, wkT, wkR] <;> omega
     ·have g3 : ¬ max (t + 8) (r) > 127 := by omega
      simp [Tryz.f89, cellsOf, loadS, storeS, hs', w4, hT, g1, g2, g3, wkT, wkR] <;> omega
  ·by_cases hT : t > 255
   ·simp [Tryz.f89, cellsOf, loadS, storeS, hs', w5, hT, wkT, wkR]
   ·by_cases g1 : t > 127
    ·have g3 : max (t) (min (r + 1) 255) > 127 := by omega
     simp [Tryz.f89, cellsOf, loadS, storeS, hs', w5, hT, g1, g3, wkT, wkR] <;> omega
    ·by_cases g2 : min (r + 1) 255 > 127
     ·have g3 : max (t) (min (r + 1) 255) > 127 := by omega
      simp [Tryz.f89, cellsOf, loadS, storeS, hs', w5, hT, g1, g2, g3, wkT, wkR] <;> omega
     ·have g3 : ¬ max (t) (min (r + 1) 255) > 127 := by omega
      simp [Tryz.f89, cellsOf, loadS, storeS, hs', w5, hT, g1, g2, g3, wkT, wkR] <;> omega
  ·by_cases hT : t > 255
   ·simp [Tryz.f89, cellsOf, loadS, storeS, hs', w6, hT, wkT, wkR]
   ·by_cases g1 : t > 127
    ·have g3 : max (t) (min (r + 8) 255) > 127 := by omega
     simp [Tryz.f89, cellsOf, loadS, storeS, hs', w6, hT, g1, g3, wkT, wkR] <;> omega
    ·by_cases g2 : min (r + 8) 255 > 127
     ·have g3 : max (t) (min (r + 8) 255) > 127 := by omega
      simp [Tryz.f89, cellsOf, loadS, storeS, hs', w6, hT, g1, g2, g3, wkT, wkR] <;> omega
     ·have g3 : ¬ max (t) (min (r + 8) 255) > 127 := by omega
      simp [Tryz.f89, cellsOf, loadS, storeS, hs', w6, hT, g1, g2, g3, wkT, wkR] <;> omega
  ·by_cases hT : t > 255
   ·simp [Tryz.f89, cellsOf, loadS, storeS, hs', w6, hT, wkT, wkR]
   ·by_cases g1 : t > 127
    ·have g3 : max (t) (r) > 127 := by omega
     simp [Tryz.f89, cellsOf, loadS, storeS, hs', w6, hT, g1, g3, wkT, wkR] <;> omega
    ·by_cases g2 : r > 127
     ·have g3 : max (t) (r) > 127 := by omega
      simp [Tryz.f89, cellsOf, loadS, storeS, hs', w6, hT, g1, g2, g3, wkT, wkR] <;> omega
     ·have g3 : ¬ max (t) (r) > 127 := by omega
      simp [Tryz.f89, cellsOf, loadS, storeS, hs', w6, hT, g1, g2, g3, wkT, wkR] <;> omega
theorem r_Sent (n : Nd) (ok : Bool) (hl : n.q.length ≤ 1000000) (hr : ∀ x ∈ n.q, x.right = true) (hc : n.c.ok) (σ : Store) : callIt E1 (evI E1) 34 [n.P, .d (.bool ok)] σ = some ((n.Sent ok).P, σ) := by
 refine call_run (fn := Tryz.f34) 5 rfl rfl rfl Tryz.func34 rfl rfl ?_ rfl
 have h1 := r_place n hl hr
 unfold Nd.Sent
 unfold Nd.place at h1
 cases ho : n.off || n.q.isEmpty
 ·rw [ho] at h1
  have hne : n.q ≠ [] := by intro h; simp [h] at ho
  obtain ⟨k, hk⟩ : ∃ k, k = nxt n.q := ⟨_, rfl⟩
  have hlt := nxt_lt hne
  rw [← hk] at h1 hlt ⊢
  have hk0 : ¬ (k : Int) < 0 := by omega
  have h3 := r_step n.c 1 hc (by omega)
  have h4 := r_step n.c 3 hc (by omega)
  have hw1 : IntKind.i64.wrap ((k : Int) + 1) = ((k + 1 : Nat) : Int) := by rw [wrap_ok (by omega) (by omega)]; omega
  have h5 := app22 [] ((n.q.map Fr.D).take k) rfl (by rw [← List.map_take]; exact rowsOk_Fr _) (by simp [roomB]; omega)
  have h6 := app22 ((n.q.map Fr.D).take k) ((n.q.map Fr.D).drop (k + 1)) (by rw [← List.map_take]; exact rowsOk_Fr _) (by rw [← List.map_drop]; exact rowsOk_Fr _) (by simp [roomB]; omega)
  have h7 : (n.q.map Fr.D).take k ++ (n.q.map Fr.D).drop (k + 1) = (n.q.eraseIdx k).map Fr.D := by
   rw [← eraseIdx_map, List.eraseIdx_eq_take_drop_succ]
  rw [h7] at h6
  have hle : k ≤ n.q.length := by omega
  have hle1 : k + 1 ≤ n.q.length := by omega
  have hk1 : (0 : Int) ≤ (k : Int) + 1 := by omega
  have htk : (List.map Fr.D n.q).take n.q.length = n.q.map Fr.D := List.take_of_length_le (by simp)
  simp at h1 h3 h4 h5 h6
  cases ok
  ·simp [Tryz.f34, cellsOf, loadS, storeS, h1, hk0, h3, h4]
  ·simp [Tryz.f34, cellsOf, loadS, storeS, h1, hk0, h3, h4, hw1, hk1, evSlice, bound, hle, hle1, htk, h5, h6, rowsFrom]
 ·rw [ho] at h1
  simp at h1
  simp [Tryz.f34, cellsOf, loadS, storeS, h1]
theorem r_Quiet (n : Nd) (hc : n.c.ok) (σ : Store) : callIt E1 (evI E1) 80 [n.P] σ = some (n.Quiet.P, σ) := by
 refine call_run (fn := Tryz.f80) 5 rfl rfl rfl Tryz.func80 rfl rfl ?_ rfl
 have h3 := r_step n.c 6 hc (by omega)
 simp at h3
 simp [Tryz.f80, cellsOf, loadS, storeS, h3, Nd.Quiet]
theorem r_Heard (n : Nd) (f : Fr) (ok long : Bool) (hg : n.g.length ≤ 1000000) (hf : n.fs.length ≤ 1000000) (hc : n.c.ok) (σ : Store) : callIt E1 (evI E1) 83 [n.P, f.P, .d (.bool ok), .d (.bool long)] σ = some ((n.Heard f ok long).P, σ) := by
 refine call_run (fn := Tryz.f83) 5 rfl rfl rfl Tryz.func83 rfl rfl ?_ rfl
 have h2 := r_any n.fs f hf
 have h3 := app22 [] (n.g.map Fr.D) rfl (rowsOk_Fr _) (by simp [roomB]; omega)
 have h3' := app22 (n.g.map Fr.D) [f.D] (rowsOk_Fr _) rfl (by simp [roomB]; omega)
 have h4 := r_step n.c 2 hc (by omega)
 have h5 := r_step n.c 4 hc (by omega)
 have h6 := r_step n.c 5 hc (by omega)
 unfold Nd.Heard what Nd.off
 simp at h2 h3 h3' h4 h5 h6
 cases ho : (n.c.s == 3)
 ·cases ok
  ·cases long
   ·simp [Tryz.f83, cellsOf, loadS, storeS, ho, h5]
   ·simp [Tryz.f83, cellsOf, loadS, storeS, ho, h6]
  ·cases ha : anyF n.fs f
   ·rw [ha] at h2
    simp [Tryz.f83, cellsOf, loadS, storeS, ho, h2, h4]
   ·rw [ha] at h2
    by_cases hl : (n.g.length : Int) < 64
    ·simp [Tryz.f83, cellsOf, loadS, storeS, ho, h2, h3, h3', h4, hl, rowsFrom]
    ·simp [Tryz.f83, cellsOf, loadS, storeS, ho, h2, h4, hl]
 ·simp [Tryz.f83, cellsOf, loadS, storeS, ho]
end Go.Proofs

set_option maxRecDepth 100000
set_option maxHeartbeats 8000000
namespace Go.Proofs
open Go.RowKit Go.Shelf Go.Pv
theorem r_sendN (n : Nt) (h : n.ok) (bus a : Int) (f : Fr) (σ : Store) : callIt E1 (evI E1) 113 [n.P, .d (.int .i64 bus), .d (.int .i64 a), f.P] σ = some (.tup [(n.Send bus a f).1.P, .d (.int .i64 (n.Send bus a f).2)], σ) := by
 refine call_run (fn := Tryz.f113) 5 rfl rfl rfl Tryz.func113 rfl rfl ?_ rfl
 obtain ⟨hb, hr, hq⟩ := h
 have hml : (n.bs.map ndsD).length = n.bs.length := by simp
 unfold Nt.Send
 by_cases h1 : bus < 0
 ·rw [if_pos (Or.inl h1)]
  obtain ⟨bs, g⟩ := n
  simp only [Nt.P] at hml ⊢
  generalize bs.map ndsD = L at hml ⊢
  simp [Tryz.f113, -loadS, -storeS, loadS_cons0, loadS_consS, storeS_cons0, storeS_consS, cellsOf, hml, h1]
  done
 ·by_cases h2 : bus ≥ n.bs.length
  ·rw [if_pos (Or.inr h2)]
   obtain ⟨bs, g⟩ := n
   simp only [Nt.P] at hml h2 ⊢
   have h2' : (bs.length : Int) ≤ bus := h2
   generalize bs.map ndsD = L at hml ⊢
   simp [Tryz.f113, -loadS, -storeS, loadS_cons0, loadS_consS, storeS_cons0, storeS_consS, cellsOf, hml, h1, h2, h2']
   done
  ·rw [if_neg (by omega)]
   obtain ⟨b, rfl⟩ : ∃ b : Nat, bus = (b : Int) := ⟨bus.toNat, by omega⟩
   have hbl : b < n.bs.length := by omega
   have h2' : ¬ (n.bs.length : Int) ≤ (b : Int) := by omega
   have hbI : (b : Int) < (n.bs.length : Int) := by omega
   have hb0 : ¬ ((b : Int) < 0) := by omega
   rw [Int.toNat_natCast, rw_get hbl]
   have hx : (n.bs.map ndsD)[b]? = some (ndsD n.bs[b]) := by simp [hbl]
   have hrl := hr _ (List.getElem_mem hbl)
   have hql := hq _ (List.getElem_mem hbl)
   have c2 := fun r σ => r_With n b hbl (by omega) r σ
   generalize n.bs[b] = row at hx hrl hql ⊢
   have hmr : (row.map Nd.D).length = row.length := by simp
   have hw1 : IntKind.i64.wrap ((row.length : Int) - 1) = (row.length : Int) - 1 := wrap_ok (by omega) (by omega)
   by_cases h3 : a < 0
   ·rw [if_pos (Or.inl h3)]
    obtain ⟨bs, g⟩ := n
    simp only [Nt.P] at hml hx hbl h2' hbI ⊢
    clear c2
    generalize bs.map ndsD = L at hml hx ⊢
    obtain ⟨hi0, hx⟩ := List.getElem?_eq_some_iff.1 hx
    simp only [ndsD] at hx
    generalize row.map Nd.D = R at hmr hx
    simp [Tryz.f113, -loadS, -storeS, loadS_cons0, loadS_consS, storeS_cons0, storeS_consS, cellsOf, hml, hb0, h2', hbI, h3, hbl, hi0, hx, hmr, hw1]
    done
   ·by_cases h4 : a ≥ (row.length : Int) - 1
    ·rw [if_pos (Or.inr h4)]
     obtain ⟨bs, g⟩ := n
     simp only [Nt.P] at hml hx hbl h2' hbI ⊢
     clear c2
     have h4' : (row.length : Int) - 1 ≤ a := h4
     generalize bs.map ndsD = L at hml hx ⊢
     obtain ⟨hi0, hx⟩ := List.getElem?_eq_some_iff.1 hx
     simp only [ndsD] at hx
     generalize row.map Nd.D = R at hmr hx
     simp [Tryz.f113, -loadS, -storeS, loadS_cons0, loadS_consS, storeS_cons0, storeS_consS, cellsOf, hml, hb0, h2', hbI, h3, h4, h4', hbl, hi0, hx, hmr, hw1]
     done
    ·rw [if_neg (by omega)]
     obtain ⟨a, rfl⟩ : ∃ b : Nat, a = (b : Int) := ⟨a.toNat, by omega⟩
     have hal : a < row.length := by omega
     have ha0 : ¬ ((a : Int) < 0) := by omega
     have haI : (a : Int) < (row.length : Int) := by omega
     have h4' : ¬ (row.length : Int) - 1 ≤ (a : Int) := by omega
     rw [Int.toNat_natCast, nd_at hal]
     have hy : (row.map Nd.D)[a]? = some (Nd.D row[a]) := by simp [hal]
     have c1 := fun σ => r_Send row[a] f (Nat.le_trans (hql _ (List.getElem_mem hal)) (by omega)) σ
     have c3 := fun x σ => r_one row a hal (by omega) x σ
     generalize row[a] = x at hy c1 ⊢
     generalize x.Send f = R at c1 ⊢
     obtain ⟨x', e⟩ := R
     simp only at c1 ⊢
     have c4 := c2 (row.set a x')
     have c5 := c3 x'
     clear c2 c3
     obtain ⟨bs, g⟩ := n
     simp only [Nt.P] at hml hx hbl h2' hbI c4 ⊢
     generalize (bs.set b (row.set a x')).map ndsD = L2 at c4 ⊢
     generalize (row.set a x').map Nd.D = R2 at c4 c5
     generalize bs.map ndsD = L at hml hx c4 ⊢
     obtain ⟨hi0, hx⟩ := List.getElem?_eq_some_iff.1 hx
     simp only [ndsD] at hx
     generalize row.map Nd.D = R at hmr hx hy c5
     obtain ⟨hi1, hy⟩ := List.getElem?_eq_some_iff.1 hy
     simp only [Nd.D] at hy
     try simp at c1
     try simp at c4
     try simp at c5
     simp (maxSteps := 3000000) [Tryz.f113, -loadS, -storeS, loadS_cons0, loadS_consS, storeS_cons0, storeS_consS, cellsOf, hml, hb0, h2', hbI, ha0, haI, h4, h4', hbl, hi0, hx, hmr, hw1, hi1, hal, hy, c1, c4, c5]
     done
def Nt.offer (n : Nt) (k : Nat) : Nt := ⟨n.bs.set k (n.row1 k), gateOf n.g k (n.own k)⟩
end Go.Proofs

set_option maxRecDepth 100000
set_option maxHeartbeats 8000000
namespace Go.Proofs
open Go.RowKit Go.Shelf Go.Pv
def wayN (l : List Rt) (a : Int) : Nat → Int → Prop
 | 0, b => a = b
 | n + 1, b => ∃ r ∈ l, r.b = b ∧ wayN l a n r.a
def onL (l : List Rt) (from_ : List Int) : List Int := ([0, 1, 2, 3] : List Int).filter fun b => l.any fun r => (r.b == b) && from_.contains r.a
def noBack (l : List Rt) (bus : Int) : Nat → List Int → Bool
 | 0, _ => true
 | n + 1, s => !(onL l s).contains bus && noBack l bus n (onL l s)
def refLoop (l : List Rt) (k : Int) : Bool := routesOk l k && (List.range k.toNat).all fun b => noBack l (b : Int) k.toNat [(b : Int)]
/-! #### Heights -/
theorem hAt_set {h : List Int} {k : Int} {x : Int} (v : Int) (hk : 0 ≤ k ∧ k.toNat < h.length) (hv : 0 ≤ v) : hAt (h.set k.toNat x) v = if v = k then x else hAt h v := by
 unfold hAt
 rw [List.getD_eq_getElem?_getD, List.getD_eq_getElem?_getD, List.getElem?_set]
 by_cases e : v = k
 ·subst e
  rw [if_pos rfl, if_pos hk.2, if_pos rfl]; rfl
 ·rw [if_neg (by omega), if_neg e]
theorem relax1_len (h : List Int) (r : Rt) : (relax1 h r).length = h.length := by simp [relax1]
theorem relaxL_len : ∀ (l : List Rt) (h : List Int), (relaxL l h).length = h.length
 | [], _ => rfl
 | r :: l, h => (relaxL_len l (relax1 h r)).trans (relax1_len h r)
def inB (l : List Rt) : Prop := ∀ r ∈ l, (0 ≤ r.a ∧ r.a < 4) ∧ (0 ≤ r.b ∧ r.b < 4)
theorem relax1_at {h : List Int} {r : Rt} (hl : h.length = 4) (hb : 0 ≤ r.b ∧ r.b < 4) {v : Int} (hv : 0 ≤ v) : hAt (relax1 h r) v = if v = r.b then max (hAt h r.b) (hAt h r.a + 1) else hAt h v :=
 hAt_set v ⟨hb.1, by omega⟩ hv
theorem relax1_up {h : List Int} {r : Rt} (hl : h.length = 4) (hb : 0 ≤ r.b ∧ r.b < 4) {v : Int} (hv : 0 ≤ v) : hAt h v ≤ hAt (relax1 h r) v := by
 rw [relax1_at hl hb hv]
 split
 ·rename_i e; subst e; omega
 ·omega
theorem relaxL_up : ∀ {l : List Rt} {h : List Int}, inB l → h.length = 4 → ∀ {v : Int}, 0 ≤ v → hAt h v ≤ hAt (relaxL l h) v
 | [], _, _, _, _, _ => Int.le_refl _
 | r :: l, h, hi, hl, v, hv => by
  have h1 := relax1_up hl (hi r (by simp)).2 hv
  have h2 := relaxL_up (l := l) (h := relax1 h r) (fun x hx => hi x (by simp [hx])) (by rw [relax1_len]; exact hl) hv
  exact Int.le_trans h1 h2
theorem relaxL_edge : ∀ {l : List Rt} {h : List Int}, inB l → h.length = 4 → ∀ r ∈ l, hAt h r.a + 1 ≤ hAt (relaxL l h) r.b
 | [], _, _, _, r, hr => by simp at hr
 | q :: l, h, hi, hl, r, hr => by
  have hi' : inB l := fun x hx => hi x (by simp [hx])
  have hl' : (relax1 h q).length = 4 := by rw [relax1_len]; exact hl
  show hAt h r.a + 1 ≤ hAt (relaxL l (relax1 h q)) r.b
  rcases List.mem_cons.1 hr with rfl | hr
  ·have h1 := relax1_at (v := r.b) hl (hi r (by simp)).2 (hi r (by simp)).2.1
   rw [if_pos rfl] at h1
   have h2 := relaxL_up hi' hl' (v := r.b) (hi r (by simp)).2.1
   omega
  ·have h1 := relaxL_edge hi' hl' r hr
   have h2 := relax1_up hl (hi q (by simp)).2 (v := r.a) (hi r (by simp [hr])).1.1
   omega
theorem way_height {l : List Rt} {h : List Int} (hi : inB l) (hl : h.length = 4) (hf : h = relaxL l h) (a : Int) : ∀ (n : Nat) (b : Int), wayN l a n b → hAt h a + n ≤ hAt h b
 | 0, b, hw => by cases hw; simp
 | n + 1, b, hw => by
  obtain ⟨r, hr, rfl, hw⟩ := hw
  have h1 := way_height hi hl hf a n r.a hw
  have h2 := relaxL_edge hi hl r hr
  rw [← hf] at h2
  omega
def real (l : List Rt) (h : List Int) : Prop := ∀ v : Int, 0 ≤ v → v < 4 → ∃ (n : Nat) (a : Int), 0 ≤ a ∧ a < 4 ∧ hAt h v = n ∧ wayN l a n v
theorem real1 {l : List Rt} {h : List Int} {r : Rt} (hr : r ∈ l) (hi : inB l) (hl : h.length = 4) (h0 : real l h) : real l (relax1 h r) := by
 intro v hv hv4
 obtain ⟨hra, hrb⟩ := hi r hr
 rw [relax1_at hl hrb hv]
 split
 ·rename_i e
  subst e
  obtain ⟨n, a, ha, ha4, hn, hw⟩ := h0 r.a hra.1 hra.2
  obtain ⟨n2, a2, h2, h24, hn2, hw2⟩ := h0 r.b hrb.1 hrb.2
  by_cases hm : hAt h r.a + 1 ≤ hAt h r.b
  ·exact ⟨n2, a2, h2, h24, by omega, hw2⟩
  ·exact ⟨n + 1, a, ha, ha4, by omega, r, hr, rfl, hw⟩
 ·exact h0 v hv hv4
theorem realL {l : List Rt} (hi : inB l) : ∀ (q : List Rt) (h : List Int), (∀ r ∈ q, r ∈ l) → h.length = 4 → real l h → real l (relaxL q h)
 | [], _, _, _, h0 => h0
 | r :: q, h, hq, hl, h0 => realL hi q (relax1 h r) (fun x hx => hq x (by simp [hx])) (by rw [relax1_len]; exact hl) (real1 (hq r (by simp)) hi hl h0)
def itH (l : List Rt) : Nat → List Int → List Int
 | 0, h => h
 | n + 1, h => itH l n (relaxL l h)
theorem itH_succ (l : List Rt) : ∀ (n : Nat) (h : List Int), itH l (n + 1) h = relaxL l (itH l n h)
 | 0, _ => rfl
 | n + 1, h => itH_succ l n (relaxL l h)
theorem itH_ok {l : List Rt} (hi : inB l) : ∀ (n : Nat), (itH l n [0, 0, 0, 0]).length = 4 ∧ real l (itH l n [0, 0, 0, 0])
 | 0 => ⟨rfl, fun v hv hv4 => ⟨0, v, hv, hv4, by
   have : v = 0 ∨ v = 1 ∨ v = 2 ∨ v = 3 := by omega
   rcases this with rfl | rfl | rfl | rfl <;> rfl, rfl⟩⟩
 | n + 1 => by
  obtain ⟨h1, h2⟩ := itH_ok hi n
  rw [itH_succ]
  exact ⟨by rw [relaxL_len]; exact h1, realL hi l _ (fun _ h => h) h1 h2⟩
theorem itH_low {l : List Rt} (hi : inB l) (a : Int) (ha : 0 ≤ a ∧ a < 4) : ∀ (t n : Nat) (v : Int), wayN l a n v → ((min t n : Nat) : Int) ≤ hAt (itH l t [0, 0, 0, 0]) v
 | t, 0, v, hw => by
  cases hw
  obtain ⟨n, _, _, _, h, _⟩ := (itH_ok hi t).2 a ha.1 ha.2
  rw [h]; omega
 | 0, n + 1, v, hw => by
  obtain ⟨r, hr, rfl, _⟩ := hw
  obtain ⟨n, _, _, _, h, _⟩ := (itH_ok hi 0).2 r.b (hi r hr).2.1 (hi r hr).2.2
  rw [h]; omega
 | t + 1, n + 1, v, hw => by
  obtain ⟨r, hr, rfl, hw⟩ := hw
  have h1 := itH_low hi a ha t n r.a hw
  have h2 := relaxL_edge hi (itH_ok hi t).1 r hr
  rw [itH_succ]
  omega
theorem way_path {l : List Rt} (a : Int) : ∀ (n : Nat) (b : Int), wayN l a n b → ∃ p : Nat → Int, p 0 = a ∧ p n = b ∧ ∀ i, i < n → ∃ r ∈ l, r.a = p i ∧ r.b = p (i + 1)
 | 0, b, h => ⟨fun _ => a, rfl, h, fun i hi => by omega⟩
 | n + 1, b, h => by
  obtain ⟨r, hr, rfl, hw⟩ := h
  obtain ⟨p, h0, hn, hp⟩ := way_path a n r.a hw
  refine ⟨fun i => if i ≤ n then p i else r.b, by simp [h0], by simp; omega, fun i hi => ?_⟩
  by_cases hin : i < n
  ·obtain ⟨q, hq, h1, h2⟩ := hp i hin
   refine ⟨q, hq, ?_, ?_⟩
   ·show q.a = if i ≤ n then p i else r.b
    rw [if_pos (by omega)]; exact h1
   ·show q.b = if i + 1 ≤ n then p (i + 1) else r.b
    rw [if_pos (by omega)]; exact h2
  ·have : i = n := by omega
   subst this
   exact ⟨r, hr, by show r.a = if i ≤ i then p i else r.b; rw [if_pos (Nat.le_refl _)]; exact hn.symm, by show r.b = if i + 1 ≤ i then p (i + 1) else r.b; rw [if_neg (by omega)]⟩
theorem path_way {l : List Rt} {p : Nat → Int} {n : Nat} (hp : ∀ i, i < n → ∃ r ∈ l, r.a = p i ∧ r.b = p (i + 1)) (i : Nat) : ∀ d, i + d ≤ n → wayN l (p i) d (p (i + d))
 | 0, _ => rfl
 | d + 1, h => by
  obtain ⟨r, hr, h1, h2⟩ := hp (i + d) (by omega)
  refine ⟨r, hr, h2, ?_⟩
  rw [h1]
  exact path_way hp i d (by omega)
theorem pigeon {k : Nat} (hk : 1 ≤ k ∧ k ≤ 4) {p : Nat → Int} (hp : ∀ i, i ≤ k → 0 ≤ p i ∧ p i < k) : ∃ i d, 1 ≤ d ∧ i + d ≤ k ∧ p i = p (i + d) := by
 have : k = 1 ∨ k = 2 ∨ k = 3 ∨ k = 4 := by omega
 have a0 := hp 0 (by omega)
 have a1 := hp 1 (by omega)
 rcases this with rfl | rfl | rfl | rfl
 ·exact ⟨0, 1, by omega, by omega, by simp only [Nat.zero_add]; omega⟩
 ·have a2 := hp 2 (by omega)
  by_cases h1 : p 0 = p 1
  ·exact ⟨0, 1, by omega, by omega, h1⟩
  ·by_cases h2 : p 0 = p 2
   ·exact ⟨0, 2, by omega, by omega, h2⟩
   ·exact ⟨1, 1, by omega, by omega, by show p 1 = p 2; omega⟩
 ·have a2 := hp 2 (by omega)
  have a3 := hp 3 (by omega)
  by_cases h1 : p 0 = p 1
  ·exact ⟨0, 1, by omega, by omega, h1⟩
  ·by_cases h2 : p 0 = p 2
   ·exact ⟨0, 2, by omega, by omega, h2⟩
   ·by_cases h3 : p 0 = p 3
    ·exact ⟨0, 3, by omega, by omega, h3⟩
    ·by_cases h4 : p 1 = p 2
     ·exact ⟨1, 1, by omega, by omega, h4⟩
     ·by_cases h5 : p 1 = p 3
      ·exact ⟨1, 2, by omega, by omega, h5⟩
      ·exact ⟨2, 1, by omega, by omega, by show p 2 = p 3; omega⟩
 ·have a2 := hp 2 (by omega)
  have a3 := hp 3 (by omega)
  have a4 := hp 4 (by omega)
  by_cases h1 : p 0 = p 1
  ·exact ⟨0, 1, by omega, by omega, h1⟩
  ·by_cases h2 : p 0 = p 2
   ·exact ⟨0, 2, by omega, by omega, h2⟩
   ·by_cases h3 : p 0 = p 3
    ·exact ⟨0, 3, by omega, by omega, h3⟩
    ·by_cases h4 : p 1 = p 2
     ·exact ⟨1, 1, by omega, by omega, h4⟩
     ·by_cases h5 : p 1 = p 3
      ·exact ⟨1, 2, by omega, by omega, h5⟩
      ·by_cases h6 : p 2 = p 3
       ·exact ⟨2, 1, by omega, by omega, h6⟩
       ·by_cases h7 : p 0 = p 4
        ·exact ⟨0, 4, by omega, by omega, h7⟩
        ·by_cases h8 : p 1 = p 4
         ·exact ⟨1, 3, by omega, by omega, h8⟩
         ·by_cases h9 : p 2 = p 4
          ·exact ⟨2, 2, by omega, by omega, h9⟩
          ·exact ⟨3, 1, by omega, by omega, by show p 3 = p 4; omega⟩
def noWay (l : List Rt) (k : Nat) : Prop := ∀ b : Nat, b < k → ∀ n, 1 ≤ n → n ≤ k → ¬ wayN l (b : Int) n (b : Int)
theorem way_short {l : List Rt} {k : Nat} (hk : 1 ≤ k ∧ k ≤ 4) (hr : ∀ r ∈ l, (0 ≤ r.a ∧ r.a < k) ∧ (0 ≤ r.b ∧ r.b < k)) (hn : noWay l k) (a : Int) (n : Nat) (b : Int) (hw : wayN l a n b) : n < k := by
 by_cases h : n < k
 ·exact h
 ·exfalso
  obtain ⟨p, h0, h1, hp⟩ := way_path a n b hw
  have hb : ∀ i, i ≤ k → 0 ≤ p i ∧ p i < k := by
   intro i hi
   by_cases hin : i < n
   ·obtain ⟨r, hrl, e1, _⟩ := hp i hin
    rw [← e1]; exact (hr r hrl).1
   ·obtain ⟨r, hrl, _, e2⟩ := hp (n - 1) (by omega)
    have : i = n - 1 + 1 := by omega
    rw [this, ← e2]; exact (hr r hrl).2
  obtain ⟨i, d, hd, hid, he⟩ := pigeon hk hb
  have hw2 := path_way hp i d (by omega)
  rw [← he] at hw2
  have hpi := hb i (by omega)
  refine hn (p i).toNat (by omega) d hd (by omega) ?_
  rw [Int.toNat_of_nonneg hpi.1]
  exact hw2
theorem heights_ext {a b : List Int} (ha : a.length = 4) (hb : b.length = 4) (h : ∀ v : Int, 0 ≤ v → v < 4 → hAt a v = hAt b v) : a = b := by
 apply List.ext_getElem (by omega)
 intro i h1 h2
 have := h (i : Int) (by omega) (by omega)
 unfold hAt at this
 rw [Int.toNat_natCast, List.getD_eq_getElem?_getD, List.getD_eq_getElem?_getD, List.getElem?_eq_getElem h1, List.getElem?_eq_getElem h2] at this
 simpa using this
theorem relaxN_or (l : List Rt) : ∀ (n : Nat) (h : List Int), relaxN l n h = relaxL l (relaxN l n h) ∨ relaxN l n h = itH l n h
 | 0, _ => .inr rfl
 | n + 1, h => by
  rw [relaxN]
  split
  ·rename_i e
   left
   rw [← e, ← e]
  ·rcases relaxN_or l n (relaxL l h) with h1 | h1
   ·exact .inl h1
   ·exact .inr h1
theorem relaxN_len (l : List Rt) : ∀ (n : Nat) (h : List Int), (relaxN l n h).length = h.length
 | 0, _ => rfl
 | n + 1, h => by
  rw [relaxN]
  split
  ·exact relaxL_len l h
  ·rw [relaxN_len l n, relaxL_len]
theorem loopless_iff {l : List Rt} {k : Nat} (hok : routesOk l k = true) : loopless l k = true ↔ noWay l k := by
 obtain ⟨k1, k2, _, k4⟩ := routesOk_on hok
 have hk : 1 ≤ k ∧ k ≤ 4 := by omega
 have hr : ∀ r ∈ l, (0 ≤ r.a ∧ r.a < k) ∧ (0 ≤ r.b ∧ r.b < k) := fun r h => ⟨(k4 r h).1, (k4 r h).2.1⟩
 have hi : inB l := fun r h => by have := hr r h; omega
 unfold loopless
 rw [hok, Int.toNat_natCast]
 simp only [Bool.true_and, decide_eq_true_eq]
 constructor
 ·intro hf b hb n hn _ hw
  have hl : (relaxN l k [0, 0, 0, 0]).length = 4 := relaxN_len l k _
  have := way_height hi hl hf b n b hw
  omega
 ·intro hn
  rcases relaxN_or l k [0, 0, 0, 0] with h1 | h1
  ·exact h1
  ·rw [h1, ← itH_succ]
   obtain ⟨p1, p2⟩ := itH_ok hi k
   obtain ⟨q1, q2⟩ := itH_ok hi (k + 1)
   refine heights_ext p1 q1 fun v hv hv4 => ?_
   obtain ⟨n, a, ha, ha4, hn2, hw⟩ := q2 v hv hv4
   have hlt := way_short hk hr hn a n v hw
   have h3 := itH_low hi a ⟨ha, ha4⟩ k n v hw
   have h4 := relaxL_up hi p1 hv
   rw [← itH_succ] at h4
   omega
/-! #### The reference -/
theorem on_mem {l : List Rt} (hi : inB l) (s : List Int) (b : Int) : b ∈ onL l s ↔ ∃ r ∈ l, r.b = b ∧ r.a ∈ s := by
 unfold onL
 rw [List.mem_filter]
 simp only [List.any_eq_true, Bool.and_eq_true, beq_iff_eq, List.contains_iff_mem]
 constructor
 ·rintro ⟨_, r, hr, h⟩; exact ⟨r, hr, h⟩
 ·rintro ⟨r, hr, h1, h2⟩
  refine ⟨?_, r, hr, h1, h2⟩
  have := (hi r hr).2
  have : b = 0 ∨ b = 1 ∨ b = 2 ∨ b = 3 := by omega
  rcases this with rfl | rfl | rfl | rfl <;> simp
def itOn (l : List Rt) : Nat → List Int → List Int
 | 0, s => s
 | n + 1, s => itOn l n (onL l s)
theorem itOn_succ (l : List Rt) : ∀ (n : Nat) (s : List Int), itOn l (n + 1) s = onL l (itOn l n s)
 | 0, _ => rfl
 | n + 1, s => itOn_succ l n (onL l s)
theorem itOn_mem {l : List Rt} (hi : inB l) (a : Int) : ∀ (n : Nat) (b : Int), b ∈ itOn l n [a] ↔ wayN l a n b
 | 0, b => by
  show b ∈ [a] ↔ a = b
  simp [eq_comm]
 | n + 1, b => by
  rw [itOn_succ, on_mem hi]
  constructor
  ·rintro ⟨r, hr, h1, h2⟩; exact ⟨r, hr, h1, (itOn_mem hi a n r.a).1 h2⟩
  ·rintro ⟨r, hr, h1, h2⟩; exact ⟨r, hr, h1, (itOn_mem hi a n r.a).2 h2⟩
theorem noBack_iff (l : List Rt) (b : Int) : ∀ (n : Nat) (s : List Int), noBack l b n s = true ↔ ∀ j, 1 ≤ j → j ≤ n → ¬ b ∈ itOn l j s
 | 0, s => by simp only [noBack, true_iff]; intro j h1 h2; omega
 | n + 1, s => by
  rw [noBack, Bool.and_eq_true, noBack_iff l b n]
  simp only [Bool.not_eq_true', List.contains_eq_mem, decide_eq_false_iff_not]
  constructor
  ·rintro ⟨h1, h2⟩ j hj hjn
   by_cases e : j = 1
   ·subst e; exact h1
   ·obtain ⟨i, rfl⟩ : ∃ i, j = i + 1 := ⟨j - 1, by omega⟩
    exact h2 i (by omega) (by omega)
  ·intro h
   exact ⟨h 1 (by omega) (by omega), fun j hj hjn => h (j + 1) (by omega) (by omega)⟩
theorem refLoop_eq (l : List Rt) (k : Nat) : refLoop l k = loopless l k := by
 cases hok : routesOk l k
 ·unfold refLoop loopless; rw [hok]; rfl
 ·obtain ⟨k1, k2, _, k4⟩ := routesOk_on hok
  have hi : inB l := fun r h => by have := k4 r h; omega
  rw [Bool.eq_iff_iff, loopless_iff hok]
  unfold refLoop
  rw [hok, Int.toNat_natCast]
  simp only [Bool.true_and, List.all_eq_true, List.mem_range]
  constructor
  ·intro h b hb n hn hnk hw
   exact (noBack_iff l b k _).1 (h b hb) n hn hnk ((itOn_mem hi b n b).2 hw)
  ·intro h b hb
   exact (noBack_iff l b k _).2 fun j hj hjk hm => h b hb j hj hjk ((itOn_mem hi b j b).1 hm)
end Go.Proofs

set_option maxRecDepth 100000
set_option maxHeartbeats 8000000
namespace Go.Proofs
open Go.RowKit Go.Shelf Go.Pv
theorem bad_eq (k : Int) (r : Rt) : Rt.bad k r = (decide (r.a < 0) || decide (r.a ≥ k) || decide (r.b < 0) || decide (r.b ≥ k) || (r.a == r.b) || !r.f.right || !((r.n == -1) || (decide (r.n ≥ 0) && decide (r.n < if r.f.e then 536870912 else 2048)))) := rfl
theorem l_rRight (m : Nat) (l : List Rt) (k : Int) (hl : l.length ≤ 16) (hwf : ∀ r ∈ l, r.f.wf) (S : List PV) (hS : S.length = 76) (h0 : rd S 0 = .d (.slice (l.map Rt.D))) (h1 : rd S 1 = .d (.int .i64 k)) (h5 : rd S 5 = .d (.int .i64 0)) (J : Store) (n : Nat) (hn : l.length < n) :
  Lp (loopN (evCode E1 (evI E1) m (theLoop Tryz.f159 0)) n ⟨S, J⟩) fun r => ∃ (J : Store) (S' : List PV), S'.length = 76 ∧ ((r = (.exit 0, ⟨S', J⟩) ∧ l.any (Rt.bad k) = false) ∨ (r = (.ret, ⟨S', J⟩) ∧ rd S' 4 = .d (.bool false) ∧ l.any (Rt.bad k) = true)) := by
 refine loop_inv (fun i st => ∃ (J : Store) (S : List PV), st = ⟨S, J⟩ ∧ S.length = 76 ∧ (l.take i).any (Rt.bad k) = false ∧ rd S 0 = .d (.slice (l.map Rt.D)) ∧ rd S 1 = .d (.int .i64 k) ∧ rd S 5 = .d (.int .i64 i)) _ l.length ?_ ?_ n 0 _ (by omega) (by omega) ⟨J, S, rfl, hS, rfl, h0, h1, h5⟩
 ·rintro i st hi ⟨J, S, rfl, hS, he, h0, h1, h5⟩
  have hlt : (i : Int) < (l.length : Int) := by omega
  have htk := any_take (p := Rt.bad k) hi
  rw [he, Bool.false_or] at htk
  have hall := any_of (p := Rt.bad k) hi
  have c1 := fun σ => r_flRight l[i].f σ
  rw [Fl.rright_eq _ (hwf _ (List.getElem_mem hi))] at c1
  have hx : (l.map Rt.D)[i]? = some (l[i]).D := by simp [hi]
  have hml : (l.map Rt.D).length = l.length := by simp
  generalize (l.take (i + 1)).any (Rt.bad k) = z1 at htk ⊢
  generalize l.any (Rt.bad k) = z2 at hall ⊢
  generalize l[i] = r at htk hall c1 hx
  rw [bad_eq] at htk hall
  obtain ⟨a, b, f, nn⟩ := r
  simp only at htk hall c1 hx
  generalize f.right = fr at htk hall c1
  obtain ⟨fe, mask, mt⟩ := f
  generalize l.map Rt.D = L at hx hml h0 ⊢
  obtain ⟨hi0, hx⟩ := List.getElem?_eq_some_iff.1 hx
  simp only [Rt.D] at hx
  clear he
  try simp at c1
  have hw := wrap_succ i (by omega)
  generalize ha : decide (a < 0) = xa at htk hall
  generalize hb : decide (a ≥ k) = xb at htk hall
  generalize hc : decide (b < 0) = xc at htk hall
  generalize hd : decide (b ≥ k) = xd at htk hall
  generalize he : (a == b) = xe at htk hall
  simp at hb hd
  cases xa
  ·cases xb
   ·cases xc
    ·cases xd
     ·cases xe
      ·cases fr
       ·have h2 := hall (by simp)
        clear htk hall
        subst h2
        cases fe
        ·simp [theLoop, Tryz.f159, loopsAll, Lp_some, and_assoc, -rd, rd_ne, rd_eq, -loadS, -storeS, sfx_load0, sfx_load, sfx_store0, sfx_store, loadS_cons0, storeS_cons0, cellsOf, hS, h0, h1, h5, hlt, hi0, hi, hx, hml, ha, hb, hc, hd, he, c1, hw]
         refine ⟨_, _, ?_, rfl, rfl, ?_⟩ <;> simp [-rd, rd_ne, rd_eq, hS]
        ·simp [theLoop, Tryz.f159, loopsAll, Lp_some, and_assoc, -rd, rd_ne, rd_eq, -loadS, -storeS, sfx_load0, sfx_load, sfx_store0, sfx_store, loadS_cons0, storeS_cons0, cellsOf, hS, h0, h1, h5, hlt, hi0, hi, hx, hml, ha, hb, hc, hd, he, c1, hw]
         refine ⟨_, _, ?_, rfl, rfl, ?_⟩ <;> simp [-rd, rd_ne, rd_eq, hS]
       ·by_cases hn1 : nn < -1
        ·have h2 := hall (by simp; omega)
         clear htk hall
         subst h2
         cases fe
         ·simp [theLoop, Tryz.f159, loopsAll, Lp_some, and_assoc, -rd, rd_ne, rd_eq, -loadS, -storeS, sfx_load0, sfx_load, sfx_store0, sfx_store, loadS_cons0, storeS_cons0, cellsOf, hS, h0, h1, h5, hlt, hi0, hi, hx, hml, ha, hb, hc, hd, he, c1, hn1, hw]
          refine ⟨_, _, ?_, rfl, rfl, ?_⟩ <;> simp [-rd, rd_ne, rd_eq, hS]
         ·simp [theLoop, Tryz.f159, loopsAll, Lp_some, and_assoc, -rd, rd_ne, rd_eq, -loadS, -storeS, sfx_load0, sfx_load, sfx_store0, sfx_store, loadS_cons0, storeS_cons0, cellsOf, hS, h0, h1, h5, hlt, hi0, hi, hx, hml, ha, hb, hc, hd, he, c1, hn1, hw]
          refine ⟨_, _, ?_, rfl, rfl, ?_⟩ <;> simp [-rd, rd_ne, rd_eq, hS]
        ·cases fe
         ·by_cases hn2 : 2047 < nn
          ·have h2 := hall (by simp; omega)
           clear htk hall
           subst h2
           simp [theLoop, Tryz.f159, loopsAll, Lp_some, and_assoc, -rd, rd_ne, rd_eq, -loadS, -storeS, sfx_load0, sfx_load, sfx_store0, sfx_store, loadS_cons0, storeS_cons0, cellsOf, hS, h0, h1, h5, hlt, hi0, hi, hx, hml, ha, hb, hc, hd, he, c1, hn1, hn2, hw]
           refine ⟨_, _, ?_, rfl, rfl, ?_⟩ <;> simp [-rd, rd_ne, rd_eq, hS]
          ·have htk : z1 = false := htk.trans (by simp; omega)
           clear hall
           subst htk
           simp [theLoop, Tryz.f159, loopsAll, Lp_some, and_assoc, -rd, rd_ne, rd_eq, -loadS, -storeS, sfx_load0, sfx_load, sfx_store0, sfx_store, loadS_cons0, storeS_cons0, cellsOf, hS, h0, h1, h5, hlt, hi0, hi, hx, hml, ha, hb, hc, hd, he, c1, hn1, hn2, hw]
           done
         ·by_cases hn2 : 536870911 < nn
          ·have h2 := hall (by simp; omega)
           clear htk hall
           subst h2
           simp [theLoop, Tryz.f159, loopsAll, Lp_some, and_assoc, -rd, rd_ne, rd_eq, -loadS, -storeS, sfx_load0, sfx_load, sfx_store0, sfx_store, loadS_cons0, storeS_cons0, cellsOf, hS, h0, h1, h5, hlt, hi0, hi, hx, hml, ha, hb, hc, hd, he, c1, hn1, hn2, hw]
           refine ⟨_, _, ?_, rfl, rfl, ?_⟩ <;> simp [-rd, rd_ne, rd_eq, hS]
          ·have htk : z1 = false := htk.trans (by simp; omega)
           clear hall
           subst htk
           simp [theLoop, Tryz.f159, loopsAll, Lp_some, and_assoc, -rd, rd_ne, rd_eq, -loadS, -storeS, sfx_load0, sfx_load, sfx_store0, sfx_store, loadS_cons0, storeS_cons0, cellsOf, hS, h0, h1, h5, hlt, hi0, hi, hx, hml, ha, hb, hc, hd, he, c1, hn1, hn2, hw]
           done
      ·have h2 := hall (by simp)
       clear htk hall
       subst h2
       cases fe
       ·simp [theLoop, Tryz.f159, loopsAll, Lp_some, and_assoc, -rd, rd_ne, rd_eq, -loadS, -storeS, sfx_load0, sfx_load, sfx_store0, sfx_store, loadS_cons0, storeS_cons0, cellsOf, hS, h0, h1, h5, hlt, hi0, hi, hx, hml, ha, hb, hc, hd, he, hw]
        refine ⟨_, _, ?_, rfl, rfl, ?_⟩ <;> simp [-rd, rd_ne, rd_eq, hS]
       ·simp [theLoop, Tryz.f159, loopsAll, Lp_some, and_assoc, -rd, rd_ne, rd_eq, -loadS, -storeS, sfx_load0, sfx_load, sfx_store0, sfx_store, loadS_cons0, storeS_cons0, cellsOf, hS, h0, h1, h5, hlt, hi0, hi, hx, hml, ha, hb, hc, hd, he, hw]
        refine ⟨_, _, ?_, rfl, rfl, ?_⟩ <;> simp [-rd, rd_ne, rd_eq, hS]
     ·have h2 := hall (by simp)
      clear htk hall
      subst h2
      cases fe
      ·simp [theLoop, Tryz.f159, loopsAll, Lp_some, and_assoc, -rd, rd_ne, rd_eq, -loadS, -storeS, sfx_load0, sfx_load, sfx_store0, sfx_store, loadS_cons0, storeS_cons0, cellsOf, hS, h0, h1, h5, hlt, hi0, hi, hx, hml, ha, hb, hc, hd, hw]
       refine ⟨_, _, ?_, rfl, rfl, ?_⟩ <;> simp [-rd, rd_ne, rd_eq, hS]
      ·simp [theLoop, Tryz.f159, loopsAll, Lp_some, and_assoc, -rd, rd_ne, rd_eq, -loadS, -storeS, sfx_load0, sfx_load, sfx_store0, sfx_store, loadS_cons0, storeS_cons0, cellsOf, hS, h0, h1, h5, hlt, hi0, hi, hx, hml, ha, hb, hc, hd, hw]
       refine ⟨_, _, ?_, rfl, rfl, ?_⟩ <;> simp [-rd, rd_ne, rd_eq, hS]
    ·have h2 := hall (by simp)
     clear htk hall
     subst h2
     cases fe
     ·simp [theLoop, Tryz.f159, loopsAll, Lp_some, and_assoc, -rd, rd_ne, rd_eq, -loadS, -storeS, sfx_load0, sfx_load, sfx_store0, sfx_store, loadS_cons0, storeS_cons0, cellsOf, hS, h0, h1, h5, hlt, hi0, hi, hx, hml, ha, hb, hc, hw]
      refine ⟨_, _, ?_, rfl, rfl, ?_⟩ <;> simp [-rd, rd_ne, rd_eq, hS]
     ·simp [theLoop, Tryz.f159, loopsAll, Lp_some, and_assoc, -rd, rd_ne, rd_eq, -loadS, -storeS, sfx_load0, sfx_load, sfx_store0, sfx_store, loadS_cons0, storeS_cons0, cellsOf, hS, h0, h1, h5, hlt, hi0, hi, hx, hml, ha, hb, hc, hw]
      refine ⟨_, _, ?_, rfl, rfl, ?_⟩ <;> simp [-rd, rd_ne, rd_eq, hS]
   ·have h2 := hall (by simp)
    clear htk hall
    subst h2
    cases fe
    ·simp [theLoop, Tryz.f159, loopsAll, Lp_some, and_assoc, -rd, rd_ne, rd_eq, -loadS, -storeS, sfx_load0, sfx_load, sfx_store0, sfx_store, loadS_cons0, storeS_cons0, cellsOf, hS, h0, h1, h5, hlt, hi0, hi, hx, hml, ha, hb, hw]
     refine ⟨_, _, ?_, rfl, rfl, ?_⟩ <;> simp [-rd, rd_ne, rd_eq, hS]
    ·simp [theLoop, Tryz.f159, loopsAll, Lp_some, and_assoc, -rd, rd_ne, rd_eq, -loadS, -storeS, sfx_load0, sfx_load, sfx_store0, sfx_store, loadS_cons0, storeS_cons0, cellsOf, hS, h0, h1, h5, hlt, hi0, hi, hx, hml, ha, hb, hw]
     refine ⟨_, _, ?_, rfl, rfl, ?_⟩ <;> simp [-rd, rd_ne, rd_eq, hS]
  ·have h2 := hall (by simp)
   clear htk hall
   subst h2
   cases fe
   ·simp [theLoop, Tryz.f159, loopsAll, Lp_some, and_assoc, -rd, rd_ne, rd_eq, -loadS, -storeS, sfx_load0, sfx_load, sfx_store0, sfx_store, loadS_cons0, storeS_cons0, cellsOf, hS, h0, h1, h5, hlt, hi0, hi, hx, hml, ha, hw]
    refine ⟨_, _, ?_, rfl, rfl, ?_⟩ <;> simp [-rd, rd_ne, rd_eq, hS]
   ·simp [theLoop, Tryz.f159, loopsAll, Lp_some, and_assoc, -rd, rd_ne, rd_eq, -loadS, -storeS, sfx_load0, sfx_load, sfx_store0, sfx_store, loadS_cons0, storeS_cons0, cellsOf, hS, h0, h1, h5, hlt, hi0, hi, hx, hml, ha, hw]
    refine ⟨_, _, ?_, rfl, rfl, ?_⟩ <;> simp [-rd, rd_ne, rd_eq, hS]
 ·rintro st ⟨J, S, rfl, hS, he, h0, h1, h5⟩
  have hml : (l.map Rt.D).length = l.length := by simp
  rw [List.take_length] at he
  generalize l.any (Rt.bad k) = z at he ⊢
  subst he
  generalize l.map Rt.D = L at hml h0 ⊢
  simp [theLoop, Tryz.f159, loopsAll, Lp_some, and_assoc, -rd, rd_ne, rd_eq, hS, h0, h1, h5, hml]
  refine ⟨_, _, ?_, rfl, rfl⟩ <;> simp [-rd, rd_ne, rd_eq, hS]
theorem r_routeRight (l : List Rt) (k : Int) (hwf : ∀ r ∈ l, r.f.wf) (σ : Store) : callIt E1 (evI E1) 159 [.d (.slice (l.map Rt.D)), .d (.int .i64 k)] σ = some (.d (.bool (routesOk l k)), σ) := by
 refine call_run (fn := Tryz.f159) 17 rfl rfl rfl Tryz.func159 rfl rfl ?_ rfl
 unfold routesOk
 have hml : (l.map Rt.D).length = l.length := by simp
 have hloop := fun hl => l_rRight 17 l k hl hwf
 generalize l.any (Rt.bad k) = z at hloop ⊢
 generalize l.map Rt.D = L at hml hloop ⊢
 generalize ha : decide (k < 1) = xa
 generalize hb : decide (k > 4) = xb
 generalize hc : decide ((l.length : Int) > 16) = xc
 simp at hb hc
 cases xa
 ·cases xb
  ·cases xc
   ·have hl : l.length ≤ 16 := by have := of_decide_eq_false hc; omega
    simp [Tryz.f159, ec_loop, hml, ha, hb, hc]
    generalize hLL : loopN _ _ _ = LL
    obtain ⟨r, rfl, J, S, hS, h⟩ := at_loop hLL (hloop hl _ rfl rfl rfl rfl _ 17 (by omega))
    rcases h with ⟨rfl, rfl⟩ | ⟨rfl, h4, rfl⟩
    ·simp [-rd, rd_set, hS]
    ·have h4' := rd_el h4 (by omega)
     simp [-rd, rd_set, hS, h4, h4']
   ·simp [Tryz.f159, ec_loop, hml, ha, hb, hc]
  ·simp [Tryz.f159, ec_loop, hml, ha, hb]
 ·simp [Tryz.f159, ec_loop, hml, ha]
end Go.Proofs

