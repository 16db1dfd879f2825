/- Where a frame of a bus goes, of the code and of the reference; Gateways, of the code: a frame goes in; net.Slot's closure: a frame that the gateway's own node has got is taken from it; net.Slot's loop: what the gateway's own node has got goes into the gateway. -/
import Derived.Test.YtnnindnmpfmaaaaGreatPa
import Derived.Test.YtnnindnmpfmaaaaGreatNg
import Derived.Test.YtnnindnmpfmaaaaGreatPc
import Derived.Test.YtnnindnmpfmaaaaGreatOr
set_option linter.unusedVariables false
set_option linter.unusedSimpArgs false
set_option maxRecDepth 100000
set_option maxHeartbeats 8000000
namespace Go.Proofs
open Go.RowKit Go.Shelf Go.Pv

def Rt.hop (k : Int) (f : Fr) (r : Rt) : Option Hp := if r.a = k ∧ r.f.takes f = true then some ⟨r.b, if r.n = -1 then f else { f with id := r.n }⟩ else none
def hopsL (l : List Rt) (k : Int) (f : Fr) : List Hp := l.filterMap (Rt.hop k f)
theorem hopsL_succ (l : List Rt) (k : Int) (f : Fr) {i : Nat} (hi : i < l.length) : hopsL (l.take (i + 1)) k f = hopsL (l.take i) k f ++ (l[i].hop k f).toList := by
  unfold hopsL
  rw [List.take_add_one, List.getElem?_eq_getElem hi, List.filterMap_append]
  congr 1
theorem hopsL_len (l : List Rt) (k : Int) (f : Fr) : (hopsL l k f).length ≤ l.length := List.length_filterMap_le _ _
theorem appHp (A : List Hp) (h : Hp) (hA : A.length ≤ 100000) : evAppend Tryz.prog 98 (acc (A.map Hp.D)) (.d (.slice [h.D])) = some (acc ((A ++ [h]).map Hp.D)) := by
  unfold evAppend
  rw [Ty.app98]
  have h2 : (A.length + 1) * 64 ≤ roomB := by simp [roomB]; omega
  simp only [Option.bind_some, acc_own, elemsOf, rowsOk_Hp, show rowsOk 6 [h.D] = true from rfl, Bool.true_and, List.length_map, List.length_singleton, h2, decide_true, if_true, List.map_append, List.map_cons, List.map_nil]

theorem l_hops (m : Nat) (l : List Rt) (k : Int) (f : Fr) (hl : l.length ≤ 1000) (J0 : Store) (S : List PV) (hS : S.length = 44) (h1 : rd S 1 = .d (.int .i64 k)) (h5 : rd S 5 = .ptr 0 0) (h7 : rd S 7 = acc []) (h11 : rd S 11 = .d (.slice (l.map Rt.D))) (h12 : rd S 12 = .d (.int .i64 l.length)) (h13 : rd S 13 = .d (.int .i64 0)) (n : Nat) (hn : l.length < n) :
    Lp (loopN (evCode E1 (evI E1) m (theLoop Tryz.f90 0)) n ⟨S, cellsOf f.P :: J0⟩) fun r => ∃ (J : Store) (S' : List PV), r = (.exit 0, ⟨S', cellsOf f.P :: J⟩) ∧ S'.length = 44 ∧ rd S' 7 = acc ((hopsL l k f).map Hp.D) := by
  refine loop_inv (fun i st => ∃ (J : Store) (S : List PV), st = ⟨S, cellsOf f.P :: J⟩ ∧ S.length = 44 ∧ rd S 1 = .d (.int .i64 k) ∧ rd S 5 = .ptr 0 0 ∧ rd S 7 = acc ((hopsL (l.take i) k f).map Hp.D) ∧ rd S 11 = .d (.slice (l.map Rt.D)) ∧ rd S 12 = .d (.int .i64 l.length) ∧ rd S 13 = .d (.int .i64 i)) _ l.length ?_ ?_ n 0 _ (by omega) (by omega) ⟨J0, S, rfl, hS, h1, h5, h7, h11, h12, h13⟩
  · rintro i st hi ⟨J, S, rfl, hS, h1, h5, h7, h11, h12, h13⟩
    have hlt : (i : Int) < (l.length : Int) := by omega
    have htk := hopsL_succ l k f hi
    have hA : (hopsL (l.take i) k f).length ≤ 1000 := Nat.le_trans (hopsL_len _ _ _) (by simp; omega)
    have c1 := fun σ => b_takes l[i].f f σ
    have hx : (l.map Rt.D)[i]? = some (l[i]).D := by simp [hi]
    generalize hopsL (l.take (i + 1)) k f = A1 at htk ⊢
    generalize hopsL (l.take i) k f = A0 at htk hA h7
    generalize l[i] = r at htk c1 hx
    have ha := fun h => appHp A0 h (by omega)
    unfold Rt.hop at htk
    generalize r.f.takes f = tk at htk c1
    generalize l.map Rt.D = L at hx h11 ⊢
    obtain ⟨hi0, hx⟩ := List.getElem?_eq_some_iff.1 hx
    obtain ⟨a, b, ⟨e, mask, mt⟩, nn⟩ := r
    obtain ⟨fe, fid, frm, fln, fdata⟩ := f
    simp only [Rt.D] at hx htk c1
    try simp at c1
    have hw := wrap_succ i (by omega)
    by_cases hak : a = k
    · have hb : (a != k) = false := by simpa using hak
      cases tk
      · simp at htk
        subst htk
        simp [theLoop, Tryz.f90, loopsAll, Lp_some, and_assoc, -rd, rd_set, -loadS, -storeS, sfx_load0, sfx_load, sfx_store0, sfx_store, loadS_cons0, loadS_consS, storeS_cons0, storeS_consS, cellsOf, hS, h1, h5, h7, h11, h12, h13, hlt, hi0, hx, hb, c1, hw]
        done
      · by_cases hn1 : nn = -1
        · have hb2 : (nn != -1) = false := by simpa using hn1
          simp only [hak, hn1, and_self, if_true, Option.toList_some] at htk
          have ha1 := ha ⟨b, ⟨fe, fid, frm, fln, fdata⟩⟩
          rw [← htk] at ha1
          simp only [Hp.D] at ha1
          clear htk ha
          generalize A1.map Hp.D = B1 at ha1 ⊢
          generalize A0.map Hp.D = B0 at ha1 h7
          simp [theLoop, Tryz.f90, loopsAll, Lp_some, and_assoc, -rd, rd_set, -loadS, -storeS, sfx_load0, sfx_load, sfx_store0, sfx_store, loadS_cons0, loadS_consS, storeS_cons0, storeS_consS, cellsOf, hS, h1, h5, h7, h11, h12, h13, hlt, hi0, hx, hb, hb2, c1, hw, rowsFrom, ha1]
          done
        · have hb2 : (nn != -1) = true := by simpa using hn1
          simp only [hak, hn1, and_self, if_true, if_false, Option.toList_some] at htk
          have ha1 := ha ⟨b, ⟨fe, nn, frm, fln, fdata⟩⟩
          rw [← htk] at ha1
          simp only [Hp.D] at ha1
          clear htk ha
          generalize A1.map Hp.D = B1 at ha1 ⊢
          generalize A0.map Hp.D = B0 at ha1 h7
          simp [theLoop, Tryz.f90, loopsAll, Lp_some, and_assoc, -rd, rd_set, -loadS, -storeS, sfx_load0, sfx_load, sfx_store0, sfx_store, loadS_cons0, loadS_consS, storeS_cons0, storeS_consS, cellsOf, hS, h1, h5, h7, h11, h12, h13, hlt, hi0, hx, hb, hb2, c1, hw, rowsFrom, ha1]
          done
    · have hb : (a != k) = true := by simpa using hak
      simp [hak] at htk
      subst htk
      simp [theLoop, Tryz.f90, loopsAll, Lp_some, and_assoc, -rd, rd_set, -loadS, -storeS, sfx_load0, sfx_load, sfx_store0, sfx_store, loadS_cons0, loadS_consS, storeS_cons0, storeS_consS, cellsOf, hS, h1, h5, h7, h11, h12, h13, hlt, hi0, hx, hb, hw]
      done
  · rintro st ⟨J, S, rfl, hS, h1, h5, h7, h11, h12, h13⟩
    rw [List.take_length] at h7
    generalize hopsL l k f = A at h7 ⊢
    simp [theLoop, Tryz.f90, loopsAll, Lp_some, and_assoc, -rd, rd_set, hS, h1, h5, h7, h11, h12, h13]

theorem b_hops (l : List Rt) (k : Int) (f : Fr) (hl : l.length ≤ 1000) (σ : Store) : callIt E1 (evI E1) 90 [.d (.slice (l.map Rt.D)), .d (.int .i64 k), f.P] σ = some (.d (.slice ((hopsL l k f).map Hp.D)), σ) := by
  refine call_run (fn := Tryz.f90) 1001 rfl rfl rfl Tryz.func90 rfl rfl ?_ rfl
  have hml : (l.map Rt.D).length = l.length := by simp
  have hloop := l_hops 1001 l k f hl
  generalize hopsL l k f = A at hloop ⊢
  generalize l.map Rt.D = L at hml hloop ⊢
  simp only [cellsOf, Fr.P] at hloop
  simp [Tryz.f90, ec_loop, -loadS, -storeS, loadS_cons0, loadS_consS, storeS_cons0, storeS_consS, cellsOf, hml]
  generalize hLL : loopN _ _ _ = LL
  obtain ⟨r, rfl, J, S, rfl, hS, h7⟩ := at_loop hLL (hloop _ _ rfl rfl rfl rfl rfl rfl rfl 1001 (by omega))
  generalize A.map Hp.D = B at h7 ⊢
  simp [-rd, rd_set, hS, h7]
end Go.Proofs

set_option linter.unusedVariables false
set_option linter.unusedSimpArgs false
set_option maxRecDepth 100000
set_option maxHeartbeats 8000000
namespace Go.Proofs
open Go.RowKit Go.Shelf Go.Pv

def hAtL (l : List Int) (k : Int) : Int := l.getD k.toNat 0
def Gt.put (g : Gt) (h : Hp) : Gt := if ((g.row h.b).length : Int) < g.cap then { g with out := g.out.set h.b.toNat (g.row h.b ++ [h.f]) } else { g with lost := g.lost.set h.b.toNat (IntKind.i64.wrap (hAtL g.lost h.b + 1)) }
def Gt.In (g : Gt) (k : Int) (f : Fr) : Gt := (hopsL g.rs k f).foldl Gt.put g

/-- A gateway that may be. -/
structure Gt.ok (g : Gt) : Prop where
  rs : g.rs.length ≤ 16
  lo : g.lost.length = g.out.length
  n : g.out.length ≤ 4
  b : ∀ r ∈ g.rs, 0 ≤ r.b ∧ r.b < (g.out.length : Int)
  cap : g.cap ≤ 64
  row : ∀ r ∈ g.out, r.length ≤ 64

def RowsJ (J : Store) (p : PV) (rows : List (List Fr)) : Prop := p = .d (.slice (rows.map frsD)) ∨ ∃ j, p = .ms (j + 3) 0 rows.length 1 ∧ J[j]? = some (rows.map rowP)
def IntsJ (J : Store) (p : PV) (l : List Int) : Prop := p = .d (.slice (l.map intD)) ∨ ∃ j, p = .ms (j + 3) 0 l.length 1 ∧ J[j]? = some (l.map intP1)
theorem RowsJ.at {J : Store} {a b c : List PV} {p : PV} {rows : List (List Fr)} (h : RowsJ J p rows) : RowsAt (a :: b :: c :: J) p rows := by
  rcases h with h | ⟨j, h1, h2⟩
  · exact .inl h
  · exact .inr ⟨j + 3, h1, h2⟩
theorem IntsJ.at {J : Store} {a b c : List PV} {p : PV} {l : List Int} (h : IntsJ J p l) : IntsAt (a :: b :: c :: J) p l := by
  rcases h with h | ⟨j, h1, h2⟩
  · exact .inl h
  · exact .inr ⟨j + 3, h1, h2⟩
theorem RowsJ.app {J T : Store} {p : PV} {rows : List (List Fr)} (h : RowsJ J p rows) : RowsJ (J ++ T) p rows := by
  rcases h with h | ⟨j, h1, h2⟩
  · exact .inl h
  · exact .inr ⟨j, h1, pre_get h2⟩
theorem IntsJ.app {J T : Store} {p : PV} {l : List Int} (h : IntsJ J p l) : IntsJ (J ++ T) p l := by
  rcases h with h | ⟨j, h1, h2⟩
  · exact .inl h
  · exact .inr ⟨j, h1, pre_get h2⟩
theorem RowsJ.cell {J : Store} {p : PV} {rows : List (List Fr)} (h : RowsJ J p rows) : oneP p = true ∧ p.strip1 = p ∧ p.strip = p ∧ p.keep0 = p := by
  rcases h with rfl | ⟨j, rfl, _⟩ <;> exact ⟨rfl, rfl, rfl, rfl⟩
theorem IntsJ.cell {J : Store} {p : PV} {l : List Int} (h : IntsJ J p l) : oneP p = true ∧ p.strip1 = p ∧ p.strip = p ∧ p.keep0 = p := by
  rcases h with rfl | ⟨j, rfl, _⟩ <;> exact ⟨rfl, rfl, rfl, rfl⟩

theorem put_ok {g : Gt} (hg : g.ok) {h : Hp} (hb : 0 ≤ h.b ∧ h.b < (g.out.length : Int)) : (g.put h).ok ∧ (g.put h).out.length = g.out.length ∧ (g.put h).rs = g.rs ∧ (g.put h).cap = g.cap := by
  unfold Gt.put
  split
  · rename_i hlt
    refine ⟨⟨hg.rs, by simpa using hg.lo, by simpa using hg.n, by simpa using hg.b, hg.cap, fun r hr => ?_⟩, by simp, rfl, rfl⟩
    rcases List.mem_or_eq_of_mem_set hr with hr | rfl
    · exact hg.row r hr
    · have := hg.cap
      simp
      omega
  · exact ⟨⟨hg.rs, by simpa using hg.lo, hg.n, hg.b, hg.cap, hg.row⟩, rfl, rfl, rfl⟩

theorem puts_ok {g : Gt} : ∀ (l : List Hp), g.ok → (∀ h ∈ l, 0 ≤ h.b ∧ h.b < (g.out.length : Int)) → (l.foldl Gt.put g).ok ∧ (l.foldl Gt.put g).out.length = g.out.length ∧ (l.foldl Gt.put g).rs = g.rs ∧ (l.foldl Gt.put g).cap = g.cap := by
  intro l
  induction l generalizing g with
  | nil => intro hg _; exact ⟨hg, rfl, rfl, rfl⟩
  | cons h l ih =>
    intro hg hl
    obtain ⟨a1, a2, a3, a4⟩ := put_ok hg (hl h (by simp))
    obtain ⟨b1, b2, b3, b4⟩ := ih a1 (fun x hx => by rw [a2]; exact hl x (by simp [hx]))
    exact ⟨b1, b2.trans a2, b3.trans a3, b4.trans a4⟩
theorem puts_take (g : Gt) (l : List Hp) {i : Nat} (hi : i < l.length) : (l.take (i + 1)).foldl Gt.put g = ((l.take i).foldl Gt.put g).put l[i] := by
  rw [List.take_add_one, List.getElem?_eq_getElem hi, List.foldl_append]; rfl

theorem l_gin (m : Nat) (g : Gt) (hg : g.ok) (l : List Hp) (hl : l.length ≤ 16) (hb : ∀ h ∈ l, 0 ≤ h.b ∧ h.b < (g.out.length : Int)) (B1 B2 : List PV) (S : List PV) (hS : S.length = 48) (h3 : rd S 3 = .ptr 0 0) (h6 : rd S 6 = .ptr 2 0) (h13 : rd S 13 = .d (.slice (l.map Hp.D))) (h14 : rd S 14 = .d (.int .i64 l.length)) (h15 : rd S 15 = .d (.int .i64 0)) (k : Nat) (hk : l.length < k) :
    Lp (loopN (evCode (E2 101) (evI E1) m (theLoop Tryz.f101 0)) k ⟨S, [cellsOf g.P, B1, B2]⟩) fun r => ∃ (outP lostP : PV) (J : Store) (S' : List PV), r = (.exit 0, ⟨S', [.d (.slice (g.rs.map Rt.D)), .d (.int .i64 g.cap), outP, lostP] :: B1 :: B2 :: J⟩) ∧ S'.length = 48 ∧ rd S' 3 = .ptr 0 0 ∧ rd S' 6 = .ptr 2 0 ∧ RowsJ J outP (l.foldl Gt.put g).out ∧ IntsJ J lostP (l.foldl Gt.put g).lost := by
  refine loop_inv (fun i st => ∃ (outP lostP : PV) (J : Store) (S : List PV), st = ⟨S, [.d (.slice (g.rs.map Rt.D)), .d (.int .i64 g.cap), outP, lostP] :: B1 :: B2 :: J⟩ ∧ S.length = 48 ∧ rd S 3 = .ptr 0 0 ∧ rd S 6 = .ptr 2 0 ∧ rd S 13 = .d (.slice (l.map Hp.D)) ∧ rd S 14 = .d (.int .i64 l.length) ∧ rd S 15 = .d (.int .i64 i) ∧ RowsJ J outP ((l.take i).foldl Gt.put g).out ∧ IntsJ J lostP ((l.take i).foldl Gt.put g).lost) _ l.length ?_ ?_ k 0 _ (by omega) (by omega) ⟨_, _, [], S, rfl, hS, h3, h6, h13, h14, h15, .inl rfl, .inl rfl⟩
  · rintro i st hi ⟨outP, lostP, J, S, rfl, hS, h3, h6, h13, h14, h15, hout, hlost⟩
    have hlt : (i : Int) < (l.length : Int) := by omega
    have htk := puts_take g l hi
    obtain ⟨p1, p2, p3, p4⟩ := puts_ok (l.take i) hg (fun h hh => hb h (List.mem_of_mem_take hh))
    have hbi := hb _ (List.getElem_mem hi)
    have hx : (l.map Hp.D)[i]? = some (l[i]).D := by simp [hi]
    rw [htk]
    clear htk
    generalize (l.take i).foldl Gt.put g = gi at p1 p2 p3 p4 hout hlost ⊢
    rw [← p2] at hbi
    generalize l[i] = h at hx hbi ⊢
    obtain ⟨b, ⟨e, id, rm, ln, data⟩⟩ := h
    simp only at hbi
    have hb0 : 0 ≤ b := hbi.1
    have hbn : b.toNat < gi.out.length := by omega
    have hrow : gi.row b = gi.out[b.toNat] := by simp [Gt.row, hbn, List.getD]
    have hrl := p1.row _ (List.getElem_mem hbn)
    generalize l.map Hp.D = L at hx h13 ⊢
    obtain ⟨hi0, hx⟩ := List.getElem?_eq_some_iff.1 hx
    simp only [Hp.D] at hx
    obtain ⟨lc1, lc2, lc3, lc4⟩ := hlost.cell
    obtain ⟨oc1, oc2, oc3, oc4⟩ := hout.cell
    have hw := wrap_succ i (by omega)
    have hx1 : (gi.out.map frsD)[b.toNat]? = some (frsD gi.out[b.toNat]) := by simp [hbn]
    have hy1 : (gi.out.map rowP)[b.toNat]? = some (rowP gi.out[b.toNat]) := by simp [hbn]
    by_cases hroom : (gi.out[b.toNat].length : Int) < g.cap
    · have hput : gi.put ⟨b, (Fr.mk e id rm ln data)⟩ = { gi with out := gi.out.set b.toNat (gi.out[b.toNat] ++ [Fr.mk e id rm ln data]) } := by
        unfold Gt.put
        rw [hrow, p4, if_pos hroom]
      rw [hput]
      simp only
      clear hput
      obtain ⟨X, c1, c2⟩ := c_changed (σ := [.d (.slice (g.rs.map Rt.D)), .d (.int .i64 g.cap), outP, lostP] :: B1 :: B2 :: (J ++ [cellsOf (Hp.P ⟨b, (Fr.mk e id rm ln data)⟩)])) (rows := gi.out) (by have := p1.n; omega) hbn (row' := gi.out[b.toNat] ++ [Fr.mk e id rm ln data]) (c := 155) (caps := [.ptr (J.length + 3) 0]) rfl
        (fun Y => by
          refine s_in1 gi.out[b.toNat] ⟨b, (Fr.mk e id rm ln data)⟩ (by omega) (pre_get ?_)
          show (J ++ [cellsOf (Hp.P ⟨b, (Fr.mk e id rm ln data)⟩)])[J.length]? = _
          simp) (hout.app.at) (g0 := .d (.slice (g.rs.map Rt.D))) (g1 := .d (.int .i64 g.cap)) (g3 := lostP) rfl rfl lc1 rfl rfl lc2 rfl rfl lc4
      have hnl : (gi.out.set b.toNat (gi.out[b.toNat] ++ [Fr.mk e id rm ln data])).length = gi.out.length := by simp
      rw [Int.toNat_of_nonneg hb0] at c1
      simp only [cellsOf, Hp.P, List.length_cons, List.length_append, List.length_nil] at c1
      generalize gi.out.set b.toNat (gi.out[b.toNat] ++ [Fr.mk e id rm ln data]) = out' at c2 hnl ⊢
      have hlen : gi.out[b.toNat].length = (gi.out[b.toNat].map Fr.D).length := by simp
      generalize gi.out[b.toNat] = row at hx1 hy1 hroom hrl hlen c1
      have hfin : ∀ h : List PV, RowsJ (J ++ h :: X) (.ms (J.length + 6) 0 gi.out.length 1) out' := fun h => .inr ⟨J.length + 3, by rw [hnl], by
        rw [List.getElem?_append_right (by omega), show J.length + 3 - J.length = 2 + 1 by omega, List.getElem?_cons_succ]
        exact c2⟩
      have hfin2 : ∀ h : List PV, IntsJ (J ++ h :: X) lostP gi.lost := fun h => hlost.app
      generalize gi.lost = lo at hlost hfin2 ⊢
      have hno := p1.n
      clear p1 p2 p3 p4 hrow hb hg hl
      rcases hout with rfl | ⟨j, rfl, hj⟩
      · generalize gi.out.map frsD = O at hx1 c1 ⊢
        obtain ⟨hi1, hx1⟩ := List.getElem?_eq_some_iff.1 hx1
        simp only [frsD] at hx1
        try simp at c1
        simp [theLoop, Tryz.f101, mkF, loopsAll, Lp_some, and_assoc, -rd, rd_set, -loadS, -storeS, sfx_load0, sfx_load, sfx_store0, sfx_store, loadS_cons0, loadS_consS, storeS_cons0, storeS_consS, hS, h3, h6, h13, h14, h15, hlt, hi0, hx, hw, hb0, hi1, hx1, hroom, lc1, lc2, lc3, lc4, c1]
        exact ⟨hfin _, hfin2 _⟩
      · have hld := fun T => loadS_one (pre_get (T := T) hj) hy1
        simp only [rowP] at hld
        try simp at c1
        simp [theLoop, Tryz.f101, mkF, loopsAll, Lp_some, and_assoc, -rd, rd_set, -loadS, -storeS, sfx_load0, sfx_load, sfx_store0, sfx_store, loadS_cons0, loadS_consS, storeS_cons0, storeS_consS, hS, h3, h6, h13, h14, h15, hlt, hi0, hx, hw, hb0, hbn, hbi.2, hld, hroom, lc1, lc2, lc3, lc4, c1]
        exact ⟨hfin _, hfin2 _⟩
    · have hput : gi.put ⟨b, (Fr.mk e id rm ln data)⟩ = { gi with lost := gi.lost.set b.toNat (IntKind.i64.wrap (hAtL gi.lost b + 1)) } := by
        unfold Gt.put
        rw [hrow, p4, if_neg hroom]
      rw [hput]
      simp only
      clear hput
      have hlb : b.toNat < gi.lost.length := by rw [p1.lo]; exact hbn
      have hll : gi.lost.length ≤ 4 := by rw [p1.lo]; exact p1.n
      have hat : hAtL gi.lost b = gi.lost[b.toNat] := by simp [hAtL, List.getD, hlb]
      rw [hat]
      have hne : gi.lost ≠ [] := by intro h; rw [h] at hlb; simp at hlb
      have hfin : ∀ h : List PV, RowsJ (J ++ [h, (gi.lost.set b.toNat (IntKind.i64.wrap (gi.lost[b.toNat] + 1))).map intP1]) outP gi.out := fun h => hout.app
      have hfin2 : ∀ h : List PV, IntsJ (J ++ [h, (gi.lost.set b.toNat (IntKind.i64.wrap (gi.lost[b.toNat] + 1))).map intP1]) (.ms (J.length + 4) 0 gi.lost.length 1) (gi.lost.set b.toNat (IntKind.i64.wrap (gi.lost[b.toNat] + 1))) := fun h => .inr ⟨J.length + 1, by simp, by rw [List.getElem?_append_right (by omega), Nat.add_sub_cancel_left]; rfl⟩
      have hfl : ∀ l : List Int, flatD (l.map intD) = l.map intP1 := by
        intro l
        induction l with
        | nil => rfl
        | cons x xs ih => simp only [List.map_cons, flatD, ih]; rfl
      have hmk : ∀ (b0 b1 b2 h : List PV), mkApp Tryz.prog 39 (b0 :: b1 :: b2 :: (J ++ [h])) .e0 lostP = some (.ms (J.length + 4) 0 gi.lost.length 1, b0 :: b1 :: b2 :: (J ++ [h, gi.lost.map intP1])) := by
        intro b0 b1 b2 h
        rcases hlost with rfl | ⟨j, rfl, hj⟩
        · have he : (gi.lost.map intD).isEmpty = false := by cases hq : gi.lost with
            | nil => exact absurd hq hne
            | cons x xs => rfl
          have hro : gi.lost.length * 8 ≤ roomB := by simp [roomB]; omega
          simp only [mkApp, Ty.app39, ownRows, elemsOf, rowsOk_int, List.length_map, hro, he, hfl, Option.bind_some, List.isEmpty_nil, Bool.true_and, decide_true, if_true, Bool.false_eq_true, if_false, List.length_cons, List.length_append, List.length_nil, List.cons_append, List.append_assoc, List.nil_append]
        · have hld : loadS (b0 :: b1 :: b2 :: (J ++ [h])) (j + 3) 0 (gi.lost.length * 1) = some (gi.lost.map intP1) := by
            rw [loadS_consS, loadS_consS, loadS_consS]
            unfold loadS
            rw [pre_get hj]
            simp only [Option.bind_some, List.length_map, Nat.zero_add, Nat.mul_one, Nat.le_refl, if_true, List.drop_zero]
            rw [List.take_of_length_le (by simp)]
          have hst : (gi.lost.map intP1).map PV.strip1 = gi.lost.map intP1 := by simp [intP1, PV.strip1, Function.comp_def]
          have hal : (gi.lost.map intP1).all oneP = true := by simp [intP1, oneP]
          have hro : gi.lost.length * 8 ≤ roomB := by simp [roomB]; omega
          have hpos : 0 < gi.lost.length := by omega
          simp only [mkApp, Ty.app39, ownRows, hld, hst, hal, hro, hpos, Option.bind_some, List.isEmpty_nil, Bool.true_and, Bool.and_self, decide_true, if_true, List.length_cons, List.length_append, List.length_nil, List.cons_append, List.append_assoc, List.nil_append]
      have hdt : ((gi.lost.map intP1).drop b.toNat).take 1 = [.d (.int .i64 gi.lost[b.toNat])] := by
        rw [List.drop_eq_getElem_cons (by simpa using hlb)]
        simp [intP1]
      have hts : ∀ x : Int, (gi.lost.map intP1).take b.toNat ++ PV.d (.int .i64 x) :: (gi.lost.map intP1).drop (b.toNat + 1) = (gi.lost.set b.toNat x).map intP1 := by
        intro x
        rw [List.map_set, List.set_eq_take_append_cons_drop, if_pos (by simpa using hlb)]
        rfl
      have hLl : (gi.lost.map intP1).length = gi.lost.length := by simp
      have hts1 := hts (IntKind.i64.wrap (gi.lost[b.toNat] + 1))
      have hlen : gi.out[b.toNat].length = (gi.out[b.toNat].map Fr.D).length := by simp
      generalize gi.out[b.toNat] = row at hx1 hy1 hroom hrl hlen
      generalize (gi.lost.set b.toNat (IntKind.i64.wrap (gi.lost[b.toNat] + 1))).map intP1 = LP' at hts1 hfin hfin2
      generalize gi.lost.map intP1 = LP at hmk hdt hts1 hLl
      clear hat hne hlost hts
      generalize gi.lost[b.toNat] = lb at hdt hts1 hfin2 ⊢
      generalize gi.lost.set b.toNat (IntKind.i64.wrap (lb + 1)) = lo' at hfin2 ⊢
      generalize gi.lost.length = ll at hmk hfin2 hlb hLl hll
      have hlb1 : b.toNat + 1 ≤ ll := hlb
      have hblI : b < (ll : Int) := by omega
      clear p1 p2 p3 p4 hrow hb hg hl hfl
      rcases hout with rfl | ⟨j, rfl, hj⟩
      · generalize gi.out.map frsD = O at hx1 hfin ⊢
        obtain ⟨hi1, hx1⟩ := List.getElem?_eq_some_iff.1 hx1
        simp only [frsD] at hx1
        simp [theLoop, Tryz.f101, mkF, evMkApp, hmk, hdt, hts1, hLl, hlb, hlb1, hblI, hbi.2, loopsAll, Lp_some, and_assoc, -rd, rd_set, -loadS, -storeS, sfx_load0, sfx_load, sfx_store0, sfx_store, loadS_cons0, loadS_consS, storeS_cons0, storeS_consS, hS, h3, h6, h13, h14, h15, hlt, hi0, hx, hw, hb0, hi1, hx1, hroom, lc1, lc2, lc3, lc4]
        exact ⟨hfin _, hfin2 _⟩
      · have hld := fun T => loadS_one (pre_get (T := T) hj) hy1
        simp only [rowP] at hld
        simp [theLoop, Tryz.f101, mkF, evMkApp, hmk, hdt, hts1, hLl, hlb, hlb1, hblI, hbi.2, loopsAll, Lp_some, and_assoc, -rd, rd_set, -loadS, -storeS, sfx_load0, sfx_load, sfx_store0, sfx_store, loadS_cons0, loadS_consS, storeS_cons0, storeS_consS, hS, h3, h6, h13, h14, h15, hlt, hi0, hx, hw, hb0, hbn, hbi.2, hld, hroom, lc1, lc2, lc3, lc4]
        exact ⟨hfin _, hfin2 _⟩
  · rintro st ⟨outP, lostP, J, S, rfl, hS, h3, h6, h13, h14, h15, hout, hlost⟩
    rw [List.take_length] at hout hlost
    simp [theLoop, Tryz.f101, mkF, loopsAll, Lp_some, and_assoc, -rd, rd_set, hS, h3, h6, h13, h14, h15]
    exact ⟨hout, hlost⟩

theorem hops_b {g : Gt} (hg : g.ok) (k : Int) (f : Fr) : ∀ h ∈ hopsL g.rs k f, 0 ≤ h.b ∧ h.b < (g.out.length : Int) := by
  intro h hh
  obtain ⟨r, hr, h2⟩ := List.mem_filterMap.1 hh
  unfold Rt.hop at h2
  split at h2
  · cases h2; exact hg.b r hr
  · cases h2

theorem b_gIn (g : Gt) (hg : g.ok) (k : Int) (f : Fr) (σ : Store) : callIt E1 (evI E1) 101 [g.P, .d (.int .i64 k), f.P] σ = some ((g.In k f).P, σ) := by
  refine call_run2 (fn := Tryz.f101) 17 rfl rfl rfl rfl Tryz.func101 rfl rfl ?_
  have c1 := fun σ => b_hops g.rs k f (by have := hg.rs; omega) σ
  have hlen : (hopsL g.rs k f).length ≤ 16 := Nat.le_trans (hopsL_len _ _ _) hg.rs
  have hloop := l_gin 17 g hg (hopsL g.rs k f) hlen (hops_b hg k f)
  obtain ⟨q1, q2, q3, q4⟩ := puts_ok (hopsL g.rs k f) hg (hops_b hg k f)
  have hout : (g.In k f).P = .agg [.d (.slice (g.rs.map Rt.D)), .d (.int .i64 g.cap), .d (.slice (((hopsL g.rs k f).foldl Gt.put g).out.map frsD)), .d (.slice (((hopsL g.rs k f).foldl Gt.put g).lost.map intD))] := by
    unfold Gt.In
    rw [Gt.P, q3, q4]
  rw [hout]
  have hml : ((hopsL g.rs k f).map Hp.D).length = (hopsL g.rs k f).length := by simp
  clear hout q1 q2 q3 q4
  generalize (hopsL g.rs k f).foldl Gt.put g = gf at hloop ⊢
  generalize (hopsL g.rs k f).map Hp.D = H at c1 hloop hml
  generalize (hopsL g.rs k f).length = hl at hloop hml hlen
  simp only [cellsOf, Gt.P] at hloop ⊢
  try simp at c1
  simp [Tryz.f101, mkF, ec_loop, -loadS, -storeS, loadS_cons0, loadS_consS, storeS_cons0, storeS_consS, cellsOf, c1, hml]
  generalize hLL : loopN _ _ _ = LL
  obtain ⟨r, rfl, outP, lostP, J, S, rfl, hS, h3, h6, hr, hlo⟩ := at_loop hLL (hloop _ _ _ rfl rfl rfl rfl rfl rfl 17 (by omega))
  have h6' := rd_el h6 (by omega)
  obtain ⟨lc1, lc2, lc3, lc4⟩ := hlo.cell
  obtain ⟨oc1, oc2, oc3, oc4⟩ := hr.cell
  have hfz := fun (A B C : List PV) (n : Nat) => frz_gate (σ := A :: B :: C :: J) (a := .slice (g.rs.map Rt.D)) (b := .int .i64 g.cap) hr.at hlo.at n
  rcases hr with rfl | ⟨j, rfl, hj⟩
  · rcases hlo with rfl | ⟨j2, rfl, hj2⟩
    · simp [mkF, -rd, rd_set, -loadS, -storeS, loadS_cons0, loadS_consS, storeS_cons0, storeS_consS, hS, h3, h6, h6']
      done
    · simp [mkF, -rd, rd_set, -loadS, -storeS, loadS_cons0, loadS_consS, storeS_cons0, storeS_consS, hS, h3, h6, h6']
      exact hfz _ _ _ (J.length + 2)
  · rcases hlo with rfl | ⟨j2, rfl, hj2⟩
    · simp [mkF, -rd, rd_set, -loadS, -storeS, loadS_cons0, loadS_consS, storeS_cons0, storeS_consS, hS, h3, h6, h6']
      exact hfz _ _ _ (J.length + 2)
    · simp [mkF, -rd, rd_set, -loadS, -storeS, loadS_cons0, loadS_consS, storeS_cons0, storeS_consS, hS, h3, h6, h6']
      exact hfz _ _ _ (J.length + 2)
end Go.Proofs

set_option linter.unusedVariables false
set_option linter.unusedSimpArgs false
set_option maxRecDepth 100000
set_option maxHeartbeats 8000000
namespace Go.Proofs
open Go.RowKit Go.Shelf Go.Pv

/-- A net's cells, and a slot's boxes. -/
def Nt.C (bs : List (List Nd)) (g : Gt) : List PV := [.d (.slice (bs.map ndsD)), .d (.slice (g.rs.map Rt.D)), .d (.int .i64 g.cap), .d (.slice (g.out.map frsD)), .d (.slice (g.lost.map intD))]
def SlS (bs : List (List Nd)) (g : Gt) (k : Int) (b2 b3 b4 : List PV) (row : List Nd) (a : Nat) (J : Store) : Store :=
  Nt.C bs g :: [.d (.int .i64 k)] :: b2 :: b3 :: b4 :: [.d (.slice (row.map Nd.D))] :: [.d (.int .i64 a)] :: J

theorem c_take0 (bs : List (List Nd)) (g : Gt) (k : Int) (b2 b3 b4 : List PV) (row : List Nd) (a : Nat) (J : Store) (ha : a < row.length) (hl : row.length ≤ 1000) (hg : row[a].g = []) :
    callIt E1 (evI E1) 102 [.ptr 5 0, .ptr 6 0, .ptr 0 0, .ptr 1 0] (SlS bs g k b2 b3 b4 row a J) = some (.d (.bool false), SlS bs g k b2 b3 b4 row a J) := by
  have c1 := fun σ => b_Take row[a] (by rw [hg]; simp) σ
  have ht : row[a].Take = (row[a], fr0, false) := by unfold Nd.Take; rw [hg]
  rw [ht] at c1
  have hx : (row.map Nd.D)[a]? = some (Nd.D row[a]) := by simp [ha]
  have haI : (a : Int) < (row.length : Int) := by omega
  have hmr : (row.map Nd.D).length = row.length := by simp
  unfold SlS Nt.C
  refine call_np (σ' := (Nt.C bs g :: [.d (.int .i64 k)] :: b2 :: b3 :: b4 :: [.d (.slice (row.map Nd.D))] :: [.d (.int .i64 a)] :: J) ++ [cellsOf row[a].P, cellsOf fr0.P]) rfl rfl rfl ?_ rfl rfl (by simp [Nt.C])
  unfold Nt.C
  generalize row[a] = x at c1 hx ⊢
  obtain ⟨q, fs, ⟨t, r, s, z⟩, gg⟩ := x
  generalize row.map Nd.D = R at hx hmr ⊢
  obtain ⟨hi1, hx⟩ := List.getElem?_eq_some_iff.1 hx
  simp only [Nd.D] at hx
  simp [fr0] at c1
  refine evI_run (fn := Tryz.f102) 5 rfl Tryz.func102 rfl ?_
  simp [Tryz.f102, -loadS, -storeS, loadS_cons0, loadS_consS, storeS_cons0, storeS_consS, sfx_load0, sfx_load, sfx_store0, sfx_store, cellsOf, fr0, hi1, ha, hmr, hx, c1]
  done

theorem c_take1 (bs : List (List Nd)) (g : Gt) (hok : g.ok) (k : Int) (b2 b3 b4 : List PV) (row : List Nd) (a : Nat) (J : Store) (ha : a < row.length) (hl : row.length ≤ 1000) {f : Fr} {gs : List Fr} (hg : row[a].g = f :: gs) (hgl : row[a].g.length ≤ 1000) :
    callIt E1 (evI E1) 102 [.ptr 5 0, .ptr 6 0, .ptr 0 0, .ptr 1 0] (SlS bs g k b2 b3 b4 row a J) = some (.d (.bool true), SlS bs (g.In k f) k b2 b3 b4 (row.set a { row[a] with g := gs }) a J) := by
  have c1 := fun σ => b_Take row[a] (by omega) σ
  have ht : row[a].Take = ({ row[a] with g := gs }, f, true) := by unfold Nd.Take; rw [hg]
  rw [ht] at c1
  have hx : (row.map Nd.D)[a]? = some (Nd.D row[a]) := by simp [ha]
  have haI : (a : Int) < (row.length : Int) := by omega
  have hmr : (row.map Nd.D).length = row.length := by simp
  have c2 := fun x σ => b_withN row a ha (by omega) x σ
  have c3 := fun σ => b_gIn g hok k f σ
  have c2' := c2 { row[a] with g := gs }
  refine call_im (σ' := SlS bs (g.In k f) k b2 b3 b4 (row.set a { row[a] with g := gs }) a (J ++ [cellsOf ({ row[a] with g := gs } : Nd).P, cellsOf f.P])) rfl rfl rfl ?_ rfl rfl (by simp [SlS])
  unfold SlS Nt.C
  generalize (row.set a { row[a] with g := gs }).map Nd.D = R2 at c2' ⊢
  generalize row[a] = x at c1 hx c2' ⊢
  obtain ⟨q, fs, ⟨t, r, s, z⟩, gg⟩ := x
  generalize row.map Nd.D = R at hx hmr c2' ⊢
  generalize g.In k f = g' at c3 ⊢
  obtain ⟨hi1, hx⟩ := List.getElem?_eq_some_iff.1 hx
  simp only [Nd.D] at hx
  clear c2
  simp at c1 c2' c3
  refine evI_run (fn := Tryz.f102) 5 rfl Tryz.func102 rfl ?_
  simp [Tryz.f102, -loadS, -storeS, loadS_cons0, loadS_consS, storeS_cons0, storeS_consS, sfx_load0, sfx_load, sfx_store0, sfx_store, cellsOf, hi1, ha, hmr, hx, c1, c2', c3]
  done
end Go.Proofs

set_option linter.unusedVariables false
set_option linter.unusedSimpArgs false
set_option maxRecDepth 100000
set_option maxHeartbeats 8000000
namespace Go.Proofs
open Go.RowKit Go.Shelf Go.Pv

theorem Gt.In_ok {g : Gt} (hg : g.ok) (k : Int) (f : Fr) : (g.In k f).ok ∧ (g.In k f).out.length = g.out.length ∧ (g.In k f).rs = g.rs ∧ (g.In k f).cap = g.cap :=
  puts_ok _ hg (hops_b hg k f)
/-- Frames put into a gateway, one behind the other. -/
def Gt.Ins (g : Gt) (k : Int) (fs : List Fr) : Gt := fs.foldl (fun g f => g.In k f) g
theorem Gt.Ins_ok (k : Int) : ∀ (fs : List Fr) (g : Gt), g.ok → (g.Ins k fs).ok ∧ (g.Ins k fs).out.length = g.out.length ∧ (g.Ins k fs).rs = g.rs ∧ (g.Ins k fs).cap = g.cap
  | [], g, h => ⟨h, rfl, rfl, rfl⟩
  | f :: fs, g, h => by
    obtain ⟨h1, h2, h3, h4⟩ := Gt.In_ok h k f
    obtain ⟨i1, i2, i3, i4⟩ := Gt.Ins_ok k fs (g.In k f) h1
    exact ⟨i1, i2.trans h2, i3.trans h3, i4.trans h4⟩

theorem l_slot (m : Nat) (bs : List (List Nd)) (g : Gt) (hok : g.ok) (kk : Int) (b2 b3 b4 : List PV) (row : List Nd) (a : Nat) (J : Store) (ha : a < row.length) (hl : row.length ≤ 1000) (hgl : row[a].g.length ≤ 1000) (S : List PV) (hS : S.length = 101)
    (h3 : rd S 3 = .ptr 0 0) (h4 : rd S 4 = .ptr 1 0) (h6 : rd S 6 = .ptr 3 0) (h7 : rd S 7 = .ptr 4 0) (h8 : rd S 8 = .ptr 5 0) (v13 : PV) (h13 : rd S 13 = v13) (h14 : rd S 14 = .func (.func 102) [] [.ptr 5 0, .ptr 6 0, .ptr 0 0, .ptr 1 0]) (k : Nat) (hk : row[a].g.length < k) :
    Lp (loopN (evCode E1 (evI E1) m (theLoop Tryz.f39 0)) k ⟨S, SlS bs g kk b2 b3 b4 row a J⟩) fun r => ∃ (S' : List PV), r = (.exit 0, ⟨S', SlS bs (g.Ins kk row[a].g) kk b2 b3 b4 (row.set a { row[a] with g := [] }) a J⟩) ∧ S'.length = 101 ∧ rd S' 3 = .ptr 0 0 ∧ rd S' 4 = .ptr 1 0 ∧ rd S' 6 = .ptr 3 0 ∧ rd S' 7 = .ptr 4 0 ∧ rd S' 8 = .ptr 5 0 ∧ rd S' 13 = v13 := by
  have hset0 : row.set a { row[a] with g := row[a].g.drop 0 } = row := List.set_getElem_self ha
  refine loop_inv (fun i st => ∃ (S : List PV), st = ⟨S, SlS bs (g.Ins kk (row[a].g.take i)) kk b2 b3 b4 (row.set a { row[a] with g := row[a].g.drop i }) a J⟩ ∧ S.length = 101 ∧ rd S 3 = .ptr 0 0 ∧ rd S 4 = .ptr 1 0 ∧ rd S 6 = .ptr 3 0 ∧ rd S 7 = .ptr 4 0 ∧ rd S 8 = .ptr 5 0 ∧ rd S 13 = v13 ∧ rd S 14 = .func (.func 102) [] [.ptr 5 0, .ptr 6 0, .ptr 0 0, .ptr 1 0]) _ row[a].g.length ?_ ?_ k 0 _ (by omega) (by omega) ⟨S, by rw [hset0]; rfl, hS, h3, h4, h6, h7, h8, h13, h14⟩
  · rintro i st hi ⟨S, rfl, hS, h3, h4, h6, h7, h8, h13, h14⟩
    have hd : row[a].g.drop i = row[a].g[i] :: row[a].g.drop (i + 1) := List.drop_eq_getElem_cons hi
    have hrs : (row.set a { row[a] with g := row[a].g.drop i })[a]'(by simpa using ha) = { row[a] with g := row[a].g.drop i } := by simp
    have c1 := c_take1 bs (g.Ins kk (row[a].g.take i)) (Gt.Ins_ok kk _ _ hok).1 kk b2 b3 b4 (row.set a { row[a] with g := row[a].g.drop i }) a J (by simpa using ha) (by simpa using hl) (f := row[a].g[i]) (gs := row[a].g.drop (i + 1)) (by rw [hrs]; exact hd) (by rw [hrs]; simp; omega)
    rw [hrs] at c1
    have hins : (g.Ins kk (row[a].g.take i)).In kk row[a].g[i] = g.Ins kk (row[a].g.take (i + 1)) := by
      rw [List.take_add_one, List.getElem?_eq_getElem hi]
      unfold Gt.Ins
      rw [List.foldl_append]
      rfl
    rw [hins, List.set_set] at c1
    simp only at c1
    generalize SlS bs (g.Ins kk (row[a].g.take i)) kk b2 b3 b4 (row.set a { row[a] with g := row[a].g.drop i }) a J = T0 at c1 ⊢
    generalize hT : SlS bs (g.Ins kk (row[a].g.take (i + 1))) kk b2 b3 b4 (row.set a { row[a] with g := row[a].g.drop (i + 1) }) a J = T1 at c1 ⊢
    simp [theLoop, Tryz.f39, loopsAll, Lp_some, and_assoc, -rd, rd_ne, rd_eq, hS, h3, h4, h6, h7, h8, h13, h14, c1]
    done
  · rintro st ⟨S, rfl, hS, h3, h4, h6, h7, h8, h13, h14⟩
    have hrs : (row.set a { row[a] with g := row[a].g.drop row[a].g.length })[a]'(by simpa using ha) = { row[a] with g := row[a].g.drop row[a].g.length } := by simp
    have c1 := c_take0 bs (g.Ins kk (row[a].g.take row[a].g.length)) kk b2 b3 b4 (row.set a { row[a] with g := row[a].g.drop row[a].g.length }) a J (by simpa using ha) (by simpa using hl) (by rw [hrs]; simp)
    simp only [List.take_length, List.drop_length] at c1 ⊢
    generalize SlS bs (g.Ins kk row[a].g) kk b2 b3 b4 (row.set a { row[a] with g := [] }) a J = T0 at c1 ⊢
    simp [theLoop, Tryz.f39, loopsAll, Lp_some, and_assoc, -rd, rd_ne, rd_eq, hS, h3, h4, h6, h7, h8, h13, h14, c1]
end Go.Proofs

