/- The law of nets: what is done ahead of a calm. -/
import Derived.Test.YtnnindnmpfmaaaaGreatPi
import Derived.Test.YtnnindnmpfmaaaaGreatPk
import Derived.Test.YtnnindnmpfmaaaaGreatPl
set_option linter.unusedVariables false
set_option linter.unusedSimpArgs false
set_option maxRecDepth 100000
set_option maxHeartbeats 8000000
namespace Go.Proofs
open Go.RowKit Go.Shelf Go.Pv

theorem bin_eq8 {P : Program} {t : TypeId} {a b : Int} : evBin P .eql t (.d (.int .u8 a)) (.d (.int .u8 b)) = some (.d (.bool (a == b))) := rfl
theorem bin_rem8 {P : Program} {t : TypeId} {a b : Int} (hb : b ≠ 0) : evBin P .rem t (.d (.int .u8 a)) (.d (.int .u8 b)) = some (.d (.int .u8 (a.tmod b))) := by
  show (pureRun P (if b = 0 then _ else _)).bind ofScalar = _
  rw [if_neg hb]
  rfl
theorem tmod8 {x : Int} (h : 0 ≤ x) (k : Nat) : x.tmod (k : Int) = ((x.toNat % k : Nat) : Int) := by
  rw [Int.tmod_eq_emod_of_nonneg h, Int.natCast_emod, Int.toNat_of_nonneg h]
def sendA (n : Nt) (a : Act) : Nt := (n.Send a.b a.n a.f).1
def sendsA (n : Nt) (al : List Act) : Nt := al.foldl sendA n
theorem sendsA_succ (n : Nt) (al : List Act) {i : Nat} (hi : i < al.length) : sendsA n (al.take (i + 1)) = sendA (sendsA n (al.take i)) al[i] := by
  unfold sendsA
  rw [List.take_add_one, List.getElem?_eq_getElem hi, List.foldl_append]; rfl
theorem fits_sendsA : ∀ (al : List Act) {n : Nt}, n.fits → (∀ a ∈ al, byOk a.f.data) → (sendsA n al).fits ∧ (sendsA n al).like n
  | [], n, h, _ => ⟨h, .rfl' n⟩
  | a :: al, n, h, hb => by
    obtain ⟨h1, h2⟩ := fits_send h a.b a.n (hb a (by simp))
    obtain ⟨h3, h4⟩ := fits_sendsA al h1 (fun x hx => hb x (by simp [hx]))
    exact ⟨h3, h4.trans h2⟩
theorem Nt.fits.fine {n : Nt} (h : n.fits) : n.fine := by
  refine ⟨by have := h.few; omega, fun r hr => ⟨by have := (h.rows r hr).2.1; omega, (h.rows r hr).2.2.1.good⟩, ⟨by have := h.gt.rs; omega, by have := h.gt.n; omega, by have := h.gt.lo; have := h.gt.n; omega, fun r hr => by have := h.gt.row r hr; omega⟩⟩

theorem l_sendsNetStill (m : Nat) (n : Nt) (h : n.fits) (al : List Act) (hb : ∀ a ∈ al, byOk a.f.data) (hl : al.length ≤ 1000) (S : List PV) (hS : S.length = 133) (u va vb : PV) (h3 : rd S 3 = .d (.slice (al.map Act.D))) (hbx : rd S 12 = .ptr 0 0) (hct : rd S 14 = .d (.int .i64 0)) (hu : rd S 11 = u) (hva : rd S 4 = va) (hvb : rd S 13 = vb) (k : Nat) (hk : al.length < k) :
    Lp (loopN (evCode E1 (evI E1) m (theLoop Tryz.f12 0)) k ⟨S, [Nt.C n.bs n.g]⟩) fun r => ∃ S' : List PV, r = (.exit 0, ⟨S', [Nt.C (sendsA n al).bs (sendsA n al).g]⟩) ∧ S'.length = 133 ∧ rd S' 12 = .ptr 0 0 ∧ rd S' 11 = u ∧ rd S' 4 = va ∧ rd S' 13 = vb := by
  have hml : (al.map Act.D).length = al.length := by simp
  refine loop_inv (fun i st => ∃ S : List PV, st = ⟨S, [Nt.C (sendsA n (al.take i)).bs (sendsA n (al.take i)).g]⟩ ∧ S.length = 133 ∧ rd S 3 = .d (.slice (al.map Act.D)) ∧ rd S 12 = .ptr 0 0 ∧ rd S 14 = .d (.int .i64 i) ∧ rd S 11 = u ∧ rd S 4 = va ∧ rd S 13 = vb) _ al.length ?_ ?_ k 0 _ (by omega) (by omega) ⟨S, rfl, hS, h3, hbx, hct, hu, hva, hvb⟩
  · rintro i st hi ⟨S, rfl, hS, h3, hbx, hct, hu, hva, hvb⟩
    have hlt : (i : Int) < (al.length : Int) := by omega
    have hx : (al.map Act.D)[i]? = some (al[i]).D := by simp [hi]
    obtain ⟨f1, f2⟩ := fits_sendsA (al.take i) h (fun a ha => hb a (List.mem_of_mem_take ha))
    rw [sendsA_succ n al hi]
    generalize sendsA n (al.take i) = N at f1 ⊢
    generalize al[i] = a at hx ⊢
    have c1 := fun σ => b_netSend N f1.ok.1 a.b a.n a.f σ
    unfold sendA
    generalize N.Send a.b a.n a.f = R at c1 ⊢
    obtain ⟨N', e⟩ := R
    simp only at c1 ⊢
    obtain ⟨ad, ab, an, ⟨fe, fid, frm, fln, fda⟩, aw, am⟩ := a
    simp only [Act.D] at c1 hx
    clear f1 f2
    simp only [Nt.C, Nt.P] at c1 ⊢
    generalize N.bs.map ndsD = a0 at c1 ⊢
    generalize N.g.rs.map Rt.D = a1 at c1 ⊢
    generalize N.g.out.map frsD = a3 at c1 ⊢
    generalize N.g.lost.map intD = a4 at c1 ⊢
    generalize N'.bs.map ndsD = b0 at c1 ⊢
    generalize N'.g.rs.map Rt.D = b1 at c1 ⊢
    generalize N'.g.out.map frsD = b3 at c1 ⊢
    generalize N'.g.lost.map intD = b4 at c1 ⊢
    generalize al.map Act.D = L at hx hml h3 ⊢
    obtain ⟨hi0, hx⟩ := List.getElem?_eq_some_iff.1 hx
    try simp at c1
    simp [theLoop, Tryz.f12, loopsAll, Lp_some, and_assoc, -rd, rd_ne, rd_eq, -loadS, -storeS, loadS_cons0, loadS_consS, storeS_cons0, storeS_consS, cellsOf, hS, h3, hbx, hct, hu, hva, hvb, hlt, hi, hi0, hx, hml, c1, wrap_succ i (by omega)]
    done
  · rintro st ⟨S, rfl, hS, h3, hbx, hct, hu, hva, hvb⟩
    rw [List.take_length]
    generalize Nt.C (sendsA n al).bs (sendsA n al).g = B
    generalize al.map Act.D = L at hml h3 ⊢
    simp [theLoop, Tryz.f12, loopsAll, Lp_some, and_assoc, -rd, rd_ne, rd_eq, hS, h3, hbx, hct, hu, hva, hvb, hml]
    done
theorem l_sendsNetParts (m : Nat) (n : Nt) (h : n.fits) (al : List Act) (hb : ∀ a ∈ al, byOk a.f.data) (hl : al.length ≤ 1000) (S : List PV) (hS : S.length = 106) (u va vb : PV) (h3 : rd S 3 = .d (.slice (al.map Act.D))) (hbx : rd S 14 = .ptr 0 0) (hct : rd S 16 = .d (.int .i64 0)) (hu : rd S 13 = u) (hva : rd S 4 = va) (hvb : rd S 5 = vb) (k : Nat) (hk : al.length < k) :
    Lp (loopN (evCode E1 (evI E1) m (theLoop Tryz.f13 0)) k ⟨S, [Nt.C n.bs n.g]⟩) fun r => ∃ S' : List PV, r = (.exit 0, ⟨S', [Nt.C (sendsA n al).bs (sendsA n al).g]⟩) ∧ S'.length = 106 ∧ rd S' 14 = .ptr 0 0 ∧ rd S' 13 = u ∧ rd S' 4 = va ∧ rd S' 5 = vb := by
  have hml : (al.map Act.D).length = al.length := by simp
  refine loop_inv (fun i st => ∃ S : List PV, st = ⟨S, [Nt.C (sendsA n (al.take i)).bs (sendsA n (al.take i)).g]⟩ ∧ S.length = 106 ∧ rd S 3 = .d (.slice (al.map Act.D)) ∧ rd S 14 = .ptr 0 0 ∧ rd S 16 = .d (.int .i64 i) ∧ rd S 13 = u ∧ rd S 4 = va ∧ rd S 5 = vb) _ al.length ?_ ?_ k 0 _ (by omega) (by omega) ⟨S, rfl, hS, h3, hbx, hct, hu, hva, hvb⟩
  · rintro i st hi ⟨S, rfl, hS, h3, hbx, hct, hu, hva, hvb⟩
    have hlt : (i : Int) < (al.length : Int) := by omega
    have hx : (al.map Act.D)[i]? = some (al[i]).D := by simp [hi]
    obtain ⟨f1, f2⟩ := fits_sendsA (al.take i) h (fun a ha => hb a (List.mem_of_mem_take ha))
    rw [sendsA_succ n al hi]
    generalize sendsA n (al.take i) = N at f1 ⊢
    generalize al[i] = a at hx ⊢
    have c1 := fun σ => b_netSend N f1.ok.1 a.b a.n a.f σ
    unfold sendA
    generalize N.Send a.b a.n a.f = R at c1 ⊢
    obtain ⟨N', e⟩ := R
    simp only at c1 ⊢
    obtain ⟨ad, ab, an, ⟨fe, fid, frm, fln, fda⟩, aw, am⟩ := a
    simp only [Act.D] at c1 hx
    clear f1 f2
    simp only [Nt.C, Nt.P] at c1 ⊢
    generalize N.bs.map ndsD = a0 at c1 ⊢
    generalize N.g.rs.map Rt.D = a1 at c1 ⊢
    generalize N.g.out.map frsD = a3 at c1 ⊢
    generalize N.g.lost.map intD = a4 at c1 ⊢
    generalize N'.bs.map ndsD = b0 at c1 ⊢
    generalize N'.g.rs.map Rt.D = b1 at c1 ⊢
    generalize N'.g.out.map frsD = b3 at c1 ⊢
    generalize N'.g.lost.map intD = b4 at c1 ⊢
    generalize al.map Act.D = L at hx hml h3 ⊢
    obtain ⟨hi0, hx⟩ := List.getElem?_eq_some_iff.1 hx
    try simp at c1
    simp [theLoop, Tryz.f13, loopsAll, Lp_some, and_assoc, -rd, rd_ne, rd_eq, -loadS, -storeS, loadS_cons0, loadS_consS, storeS_cons0, storeS_consS, cellsOf, hS, h3, hbx, hct, hu, hva, hvb, hlt, hi, hi0, hx, hml, c1, wrap_succ i (by omega)]
    done
  · rintro st ⟨S, rfl, hS, h3, hbx, hct, hu, hva, hvb⟩
    rw [List.take_length]
    generalize Nt.C (sendsA n al).bs (sendsA n al).g = B
    generalize al.map Act.D = L at hml h3 ⊢
    simp [theLoop, Tryz.f13, loopsAll, Lp_some, and_assoc, -rd, rd_ne, rd_eq, hS, h3, hbx, hct, hu, hva, hvb, hml]
    done

theorem netNew_of {l : List (List Nd)} {r : List Rt} {a : List Act} {room : Int} (hg : great14 l r a = false) (σ : Store) :
    callIt E1 (evI E1) 38 [.d (.slice (l.map ndsD)), .d (.slice (r.map Rt.D)), .d (.int .i64 room)] σ = some (.tup [(Nt.New l r room).1.P, .d (.int .i64 (Nt.New l r room).2)], σ) := by
  obtain ⟨h1, h2, h3, h4, h5⟩ := great14_no hg
  exact b_netNew l r room (fun x hx n hn => Nd.wf_small ((h4 x hx).2 n hn)) (by omega) σ

theorem most_u8 {k : Int} (h0 : 0 ≤ k) (h1 : k ≤ 10000) : (most k : Int) = k := by unfold most; omega
end Go.Proofs

