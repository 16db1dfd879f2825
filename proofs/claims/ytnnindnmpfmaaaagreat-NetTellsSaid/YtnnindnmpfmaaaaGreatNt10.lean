/- Routes by which no frame comes back, of the code; The seat of nodes: arguments read; The seat of nodes: the references of frames, filters, counters; The seat of nodes: the law's own question whether a node is great; the references' questions whether one is right; NodeRight: what comes of a right node is right: its call answers true; Rows of nodes searched; a net's row that is wrong; A gateway, and a net, made by the code; A row with another thing at a place; a net made by the code; A slot that was set, read: two rules without a length where none is asked; A net made by the code; A frame handed to a node of a net, by the code; a net at rest; A net at rest, by the code; Where a frame of a bus goes, of the code and of the reference; Gateways, of the code: a frame goes in. -/
import Derived.Test.YtnnindnmpfmaaaaGreatNt09
import Derived.Test.YtnnindnmpfmaaaaGreatNt08
import Derived.Test.YtnnindnmpfmaaaaGreatNt05
set_option linter.unusedVariables false
set_option linter.unusedSimpArgs false
set_option maxRecDepth 100000
set_option maxHeartbeats 8000000
namespace Go.Proofs
open Go.RowKit Go.Shelf Go.Pv
theorem Ty.k170' : kindsOf Tryz.prog 170 = some [.int .i64, .int .i64, .int .i64, .int .i64] := by kernel_rfl
def hAt (h : List Int) (k : Int) : Int := h.getD k.toNat 0
def relax1 (h : List Int) (r : Rt) : List Int := h.set r.b.toNat (max (hAt h r.b) (hAt h r.a + 1))
def relaxL (l : List Rt) (h : List Int) : List Int := l.foldl relax1 h
def relaxN (l : List Rt) : Nat → List Int → List Int
 | 0, h => h
 | n + 1, h => if h = relaxL l h then relaxL l h else relaxN l n (relaxL l h)
def loopless (l : List Rt) (k : Int) : Bool := routesOk l k && (let h := relaxN l k.toNat [0, 0, 0, 0]; decide (h = relaxL l h))
def hOk (B : Int) (h : List Int) : Prop := h.length = 4 ∧ ∀ x ∈ h, 0 ≤ x ∧ x ≤ B
theorem hAt_ok {B : Int} {h : List Int} (hh : hOk B h) (hB : 0 ≤ B) (k : Int) : 0 ≤ hAt h k ∧ hAt h k ≤ B := by
 unfold hAt
 by_cases hk : k.toNat < h.length
 ·rw [List.getD_eq_getElem?_getD, List.getElem?_eq_getElem hk]
  exact hh.2 _ (List.getElem_mem hk)
 ·rw [List.getD_eq_getElem?_getD, List.getElem?_eq_none (by omega)]
  simp; exact hB
theorem relax1_ok {B : Int} {h : List Int} (hB : 0 ≤ B) (hh : hOk B h) (r : Rt) : hOk (B + 1) (relax1 h r) := by
 have h1 := hAt_ok hh hB r.b
 have h2 := hAt_ok hh hB r.a
 refine ⟨by simp [relax1, hh.1], fun x hx => ?_⟩
 rcases List.mem_or_eq_of_mem_set hx with hx | rfl
 ·have := hh.2 x hx; omega
 ·omega
theorem relaxL_take (l : List Rt) (h : List Int) {i : Nat} (hi : i < l.length) : relaxL (l.take (i + 1)) h = relax1 (relaxL (l.take i) h) l[i] := by
 unfold relaxL
 rw [List.take_add_one, List.getElem?_eq_getElem hi, List.foldl_append]; rfl
theorem relaxL_ok {B : Int} (hB : 0 ≤ B) : ∀ (l : List Rt) (h : List Int), hOk B h → hOk (B + l.length) (relaxL l h)
 | [], h, hh => by simpa [relaxL] using hh
 | r :: l, h, hh => by
  have := relaxL_ok (B := B + 1) (by omega) l (relax1 h r) (relax1_ok hB hh r)
  show hOk _ (relaxL l (relax1 h r))
  rw [show B + ((r :: l).length : Int) = B + 1 + (l.length : Int) by simp; omega]
  exact this
theorem h_load {h : List Int} {J : Store} {k : Int} (hl : h.length = 4) (hk : k.toNat < 4) : loadS (h.map intP1 :: J) 0 k.toNat 1 = some [.d (.int .i64 (hAt h k))] := by
 refine loadS_one rfl ?_
 rw [List.getElem?_map, List.getElem?_eq_getElem (by omega)]
 simp [hAt, intP1, List.getD, hl, hk]
theorem h_store {h : List Int} {J : Store} {k : Int} (x : Int) (hl : h.length = 4) (hk : k.toNat < 4) : storeS (h.map intP1 :: J) 0 k.toNat [.d (.int .i64 x)] = some ((h.set k.toNat x).map intP1 :: J) := by
 rw [storeS_one (cells := h.map intP1) _ rfl (by simpa [hl] using hk)]
 simp [List.map_set, intP1]
def Rt.on (r : Rt) : Prop := 0 ≤ r.a ∧ r.a < 4 ∧ 0 ≤ r.b ∧ r.b < 4
theorem l_relax1 (m : Nat) (l : List Rt) (hl : l.length ≤ 16) (hr : ∀ r ∈ l, r.on) (h : List Int) (hh : hOk 200 h) (J0 : Store) (v0 v1 v4 v6 v9 v16 v17 : PV) (S : List PV) (hS : S.length = 68) (h0 : rd S 0 = v0) (h1 : rd S 1 = v1) (h4 : rd S 4 = v4) (h6 : rd S 6 = v6) (h9 : rd S 9 = v9) (h16 : rd S 16 = v16) (h17 : rd S 17 = v17) (h5 : rd S 5 = .ptr 0 0) (h20 : rd S 20 = .d (.slice (l.map Rt.D))) (h21 : rd S 21 = .d (.int .i64 l.length)) (h22 : rd S 22 = .d (.int .i64 0)) (k : Nat) (hk : l.length < k) :
  Lp (loopN (evCode E1 (evI E1) m (theLoop Tryz.f58 1)) k ⟨S, h.map intP1 :: J0⟩) fun r => ∃ (J : Store) (S' : List PV), r = (.exit 2, ⟨S', (relaxL l h).map intP1 :: (J0 ++ J)⟩) ∧ S'.length = 68 ∧ rd S' 0 = v0 ∧ rd S' 1 = v1 ∧ rd S' 4 = v4 ∧ rd S' 6 = v6 ∧ rd S' 9 = v9 ∧ rd S' 16 = v16 ∧ rd S' 17 = v17 ∧ rd S' 5 = .ptr 0 0 := by
 refine loop_inv (fun i st => ∃ (J : Store) (S : List PV), st = ⟨S, (relaxL (l.take i) h).map intP1 :: (J0 ++ J)⟩ ∧ S.length = 68 ∧ rd S 0 = v0 ∧ rd S 1 = v1 ∧ rd S 4 = v4 ∧ rd S 6 = v6 ∧ rd S 9 = v9 ∧ rd S 16 = v16 ∧ rd S 17 = v17 ∧ rd S 5 = .ptr 0 0 ∧ rd S 20 = .d (.slice (l.map Rt.D)) ∧ rd S 21 = .d (.int .i64 l.length) ∧ rd S 22 = .d (.int .i64 i)) _ l.length ?_ ?_ k 0 _ (by omega) (by omega) ⟨[], S, by simp [relaxL], hS, h0, h1, h4, h6, h9, h16, h17, h5, h20, h21, h22⟩
 ·rintro i st hi ⟨J, S, rfl, hS, h0, h1, h4, h6, h9, h16, h17, h5, h20, h21, h22⟩
  have hlt : (i : Int) < (l.length : Int) := by omega
  have htk := relaxL_take l h hi
  have hb0 := relaxL_ok (B := 200) (by omega) (l.take i) h hh
  have hro := hr _ (List.getElem_mem hi)
  have hx : (l.map Rt.D)[i]? = some (l[i]).D := by simp [hi]
  generalize relaxL (l.take (i + 1)) h = hn at htk ⊢
  generalize relaxL (l.take i) h = ho at htk hb0 ⊢
  generalize l[i] = r at htk hro hx
  obtain ⟨a, b, ⟨e, mask, mt⟩, nn⟩ := r
  simp only [Rt.on] at hro
  have hla := fun J => h_load (h := ho) (J := J) (k := a) hb0.1 (by omega)
  have hlb := fun J => h_load (h := ho) (J := J) (k := b) hb0.1 (by omega)
  have hst := fun J x => h_store (h := ho) (J := J) (k := b) x hb0.1 (by omega)
  have ha := hAt_ok hb0 (by omega) a
  have hlen : (l.take i).length ≤ 16 := by simp; omega
  have hw1 : IntKind.i64.wrap (hAt ho a + 1) = hAt ho a + 1 := wrap_ok (by omega) (by omega)
  have ha0 : 0 ≤ a := hro.1
  have hb0' : 0 ≤ b := hro.2.2.1
  have ha4 : a.toNat < 4 := by omega
  have hA4 : a < 4 := hro.2.1
  have hB4 : b < 4 := hro.2.2.2
  have hb4 : b.toNat < 4 := by omega
  subst htk
  unfold relax1
  generalize l.map Rt.D = L at hx h20 ⊢
  obtain ⟨hi0, hx⟩ := List.getElem?_eq_some_iff.1 hx
  simp only [Rt.D] at hx
  try simp only at hla hlb hst
  generalize hAt ho a = xa at hla hw1 ⊢
  generalize hAt ho b = xb at hlb ⊢
  have hst2 := fun J => hst J (max xb (xa + 1))
  generalize (ho.set b.toNat (max xb (xa + 1))).map intP1 = h2 at hst2 ⊢
  generalize ho.map intP1 = H at hla hlb hst2 ⊢
  clear hst hh hb0 hro
  simp [theLoop, Tryz.f58, loopsAll, Lp_some, and_assoc, -rd, rd_set, -loadS, -storeS, loadS_consS, storeS_consS, sfx_load0, sfx_load, sfx_store0, sfx_store, loadS_cons0, storeS_cons0, hla, hlb, hst2, ha0, hb0', ha4, hb4, hA4, hB4, hw1, hS, h0, h1, h4, h6, h9, h16, h17, h5, h20, h21, h22, hlt, hi0, hx, wrap_succ i (by omega)]
  done
 ·rintro st ⟨J, S, rfl, hS, h0, h1, h4, h6, h9, h16, h17, h5, h20, h21, h22⟩
  rw [List.take_length]
  generalize (relaxL l h).map intP1 = H
  simp [theLoop, Tryz.f58, loopsAll, Lp_some, and_assoc, -rd, rd_set, hS, h0, h1, h4, h6, h9, h16, h17, h5, h20, h21, h22]
theorem l_relax2 (m : Nat) (l : List Rt) (hl : l.length ≤ 16) (hr : ∀ r ∈ l, r.on) (h : List Int) (hh : hOk 200 h) (J0 : Store) (v0 v1 v4 v6 v9 v16 v17 : PV) (S : List PV) (hS : S.length = 68) (h0 : rd S 0 = v0) (h1 : rd S 1 = v1) (h4 : rd S 4 = v4) (h6 : rd S 6 = v6) (h9 : rd S 9 = v9) (h16 : rd S 16 = v16) (h17 : rd S 17 = v17) (h5 : rd S 5 = .ptr 0 0) (h20 : rd S 45 = .d (.slice (l.map Rt.D))) (h21 : rd S 46 = .d (.int .i64 l.length)) (h22 : rd S 47 = .d (.int .i64 0)) (k : Nat) (hk : l.length < k) :
  Lp (loopN (evCode E1 (evI E1) m (theLoop Tryz.f58 2)) k ⟨S, h.map intP1 :: J0⟩) fun r => ∃ (J : Store) (S' : List PV), r = (.exit 4, ⟨S', (relaxL l h).map intP1 :: (J0 ++ J)⟩) ∧ S'.length = 68 ∧ rd S' 0 = v0 ∧ rd S' 1 = v1 ∧ rd S' 4 = v4 ∧ rd S' 6 = v6 ∧ rd S' 9 = v9 ∧ rd S' 16 = v16 ∧ rd S' 17 = v17 ∧ rd S' 5 = .ptr 0 0 := by
 refine loop_inv (fun i st => ∃ (J : Store) (S : List PV), st = ⟨S, (relaxL (l.take i) h).map intP1 :: (J0 ++ J)⟩ ∧ S.length = 68 ∧ rd S 0 = v0 ∧ rd S 1 = v1 ∧ rd S 4 = v4 ∧ rd S 6 = v6 ∧ rd S 9 = v9 ∧ rd S 16 = v16 ∧ rd S 17 = v17 ∧ rd S 5 = .ptr 0 0 ∧ rd S 45 = .d (.slice (l.map Rt.D)) ∧ rd S 46 = .d (.int .i64 l.length) ∧ rd S 47 = .d (.int .i64 i)) _ l.length ?_ ?_ k 0 _ (by omega) (by omega) ⟨[], S, by simp [relaxL], hS, h0, h1, h4, h6, h9, h16, h17, h5, h20, h21, h22⟩
 ·rintro i st hi ⟨J, S, rfl, hS, h0, h1, h4, h6, h9, h16, h17, h5, h20, h21, h22⟩
  have hlt : (i : Int) < (l.length : Int) := by omega
  have htk := relaxL_take l h hi
  have hb0 := relaxL_ok (B := 200) (by omega) (l.take i) h hh
  have hro := hr _ (List.getElem_mem hi)
  have hx : (l.map Rt.D)[i]? = some (l[i]).D := by simp [hi]
  generalize relaxL (l.take (i + 1)) h = hn at htk ⊢
  generalize relaxL (l.take i) h = ho at htk hb0 ⊢
  generalize l[i] = r at htk hro hx
  obtain ⟨a, b, ⟨e, mask, mt⟩, nn⟩ := r
  simp only [Rt.on] at hro
  have hla := fun J => h_load (h := ho) (J := J) (k := a) hb0.1 (by omega)
  have hlb := fun J => h_load (h := ho) (J := J) (k := b) hb0.1 (by omega)
  have hst := fun J x => h_store (h := ho) (J := J) (k := b) x hb0.1 (by omega)
  have ha := hAt_ok hb0 (by omega) a
  have hlen : (l.take i).length ≤ 16 := by simp; omega
  have hw1 : IntKind.i64.wrap (hAt ho a + 1) = hAt ho a + 1 := wrap_ok (by omega) (by omega)
  have ha0 : 0 ≤ a := hro.1
  have hb0' : 0 ≤ b := hro.2.2.1
  have ha4 : a.toNat < 4 := by omega
  have hA4 : a < 4 := hro.2.1
  have hB4 : b < 4 := hro.2.2.2
  have hb4 : b.toNat < 4 := by omega
  subst htk
  unfold relax1
  generalize l.map Rt.D = L at hx h20 ⊢
  obtain ⟨hi0, hx⟩ := List.getElem?_eq_some_iff.1 hx
  simp only [Rt.D] at hx
  try simp only at hla hlb hst
  generalize hAt ho a = xa at hla hw1 ⊢
  generalize hAt ho b = xb at hlb ⊢
  have hst2 := fun J => hst J (max xb (xa + 1))
  generalize (ho.set b.toNat (max xb (xa + 1))).map intP1 = h2 at hst2 ⊢
  generalize ho.map intP1 = H at hla hlb hst2 ⊢
  clear hst hh hb0 hro
  simp [theLoop, Tryz.f58, loopsAll, Lp_some, and_assoc, -rd, rd_set, -loadS, -storeS, loadS_consS, storeS_consS, sfx_load0, sfx_load, sfx_store0, sfx_store, loadS_cons0, storeS_cons0, hla, hlb, hst2, ha0, hb0', ha4, hb4, hA4, hB4, hw1, hS, h0, h1, h4, h6, h9, h16, h17, h5, h20, h21, h22, hlt, hi0, hx, wrap_succ i (by omega)]
  done
 ·rintro st ⟨J, S, rfl, hS, h0, h1, h4, h6, h9, h16, h17, h5, h20, h21, h22⟩
  rw [List.take_length]
  generalize (relaxL l h).map intP1 = H
  simp [theLoop, Tryz.f58, loopsAll, Lp_some, and_assoc, -rd, rd_set, hS, h0, h1, h4, h6, h9, h16, h17, h5, h20, h21, h22]
theorem four {h : List Int} (hl : h.length = 4) : ∃ a b c d, h = [a, b, c, d] := by
 match h, hl with
 | [a, b, c, d], _ => exact ⟨a, b, c, d, rfl⟩
theorem hOk.mono {B C : Int} {h : List Int} (hh : hOk B h) (hBC : B ≤ C) : hOk C h := ⟨hh.1, fun x hx => ⟨(hh.2 x hx).1, Int.le_trans (hh.2 x hx).2 hBC⟩⟩
theorem relaxN_ok (l : List Rt) (hl : l.length ≤ 16) : ∀ (n : Nat) (h : List Int) (B : Int), 0 ≤ B → hOk B h → hOk (B + 16 * n) (relaxN l n h)
 | 0, h, B, _, hh => by simpa [relaxN] using hh
 | n + 1, h, B, hB, hh => by
  have h1 := relaxL_ok hB l h hh
  unfold relaxN
  split
  ·exact h1.mono (by omega)
  ·have := relaxN_ok l hl n (relaxL l h) (B + l.length) (by omega) h1
   exact this.mono (by omega)
theorem l_round (m : Nat) (l : List Rt) (hl : l.length ≤ 16) (hm : l.length < m) (hr : ∀ r ∈ l, r.on) (n : Nat) (hn : n ≤ 4) (J0 : Store) (S : List PV) (hS : S.length = 68) (h0 : rd S 0 = .d (.slice (l.map Rt.D))) (h4 : rd S 4 = .d (.bool false)) (h5 : rd S 5 = .ptr 0 0) (h16 : rd S 16 = .d (.int .i64 n)) (h17 : rd S 17 = .d (.int .i64 0)) (k : Nat) (hk : n < k) :
  Lp (loopN (evCode E1 (evI E1) m (theLoop Tryz.f58 0)) k ⟨S, ([0, 0, 0, 0] : List Int).map intP1 :: J0⟩) fun r => ∃ (J : Store) (S' : List PV), r = (.exit 0, ⟨S', (relaxN l n [0, 0, 0, 0]).map intP1 :: J⟩) ∧ S'.length = 68 ∧ rd S' 0 = .d (.slice (l.map Rt.D)) ∧ rd S' 4 = .d (.bool false) ∧ rd S' 5 = .ptr 0 0 := by
 refine loop_inv (fun i st => ∃ (h : List Int) (J : Store) (S : List PV), st = ⟨S, h.map intP1 :: J⟩ ∧ relaxN l n [0, 0, 0, 0] = relaxN l (n - i) h ∧ hOk (16 * i) h ∧ S.length = 68 ∧ rd S 0 = .d (.slice (l.map Rt.D)) ∧ rd S 4 = .d (.bool false) ∧ rd S 5 = .ptr 0 0 ∧ rd S 16 = .d (.int .i64 n) ∧ rd S 17 = .d (.int .i64 i)) _ n ?_ ?_ k 0 _ (by omega) (by omega) ⟨_, J0, S, rfl, rfl, ⟨rfl, by simp⟩, hS, h0, h4, h5, h16, h17⟩
 ·rintro i st hi ⟨h, J, S, rfl, he, hh, hS, h0, h4, h5, h16, h17⟩
  have hlt : (i : Int) < (n : Int) := by omega
  have hloop := fun J0 => l_relax1 m l hl hr h (hh.mono (by omega)) J0
  have hh2 := relaxL_ok (by omega) l h hh
  rw [show n - i = (n - (i + 1)) + 1 by omega, relaxN] at he
  have hml : (l.map Rt.D).length = l.length := by simp
  generalize hR : relaxL l h = h' at he hh2 hloop
  obtain ⟨x0, x1, x2, x3, rfl⟩ := four hh.1
  obtain ⟨y0, y1, y2, y3, rfl⟩ := four hh2.1
  have hh3 : hOk (16 * ((i + 1 : Nat) : Int)) [y0, y1, y2, y3] := hh2.mono (by omega)
  clear hh hh2 hR
  have hw := wrap_succ i (by omega)
  generalize hLD : l.map Rt.D = L at hml hloop h0 ⊢
  simp only [List.map_cons, List.map_nil, intP1] at hloop ⊢
  simp [theLoop, Tryz.f58, loopsAll, ec_loop, and_assoc, -rd, rd_set, -loadS, -storeS, loadS_consS, storeS_consS, sfx_load0, sfx_load, sfx_store0, sfx_store, loadS_cons0, storeS_cons0, hS, h0, h4, h5, h16, h17, hlt, hml]
  generalize hLL : loopN _ _ _ = LL
  have hQ := fun a0 a1 a2 a3 a4 a5 a6 a7 a8 a9 a10 a11 => at_loop hLL (hloop _ (.d (.slice L)) (rd S 1) (.d (.bool false)) (.ptr (J.length + 1) 0) (rd S 9) (.d (.int .i64 n)) (.d (.int .i64 i)) _ a0 a1 a2 a3 a4 a5 a6 a7 a8 a9 a10 a11 m hm)
  obtain ⟨r, rfl, J', S', rfl, hS', g0, g1, g4, g6, g9, g16, g17, g5⟩ := hQ (by simp [hS]) (by simp [-rd, rd_set, hS, h0]) (by simp [-rd, rd_set, hS]) (by simp [-rd, rd_set, hS, h4]) (by simp [-rd, rd_set, hS]) (by simp [-rd, rd_set, hS]) (by simp [-rd, rd_set, hS, h16]) (by simp [-rd, rd_set, hS, h17]) (by simp [-rd, rd_set, hS, h5]) (by simp [-rd, rd_set, hS]) (by simp [-rd, rd_set, hS]) (by simp [-rd, rd_set, hS])
  by_cases hst : [x0, x1, x2, x3] = [y0, y1, y2, y3]
  ·rw [if_pos hst] at he
   simp only [List.cons.injEq, and_true] at hst
   obtain ⟨rfl, rfl, rfl, rfl⟩ := hst
   rw [he]
   simp [Lp_some, and_assoc, -rd, rd_set, -loadS, -storeS, loadS_consS, storeS_consS, sfx_load0, sfx_load, sfx_store0, sfx_store, loadS_cons0, storeS_cons0, hS', g0, g1, g4, g5, g6, g9, g16, g17, hw, Ty.k170', intP1]
  ·rw [if_neg hst] at he
   have hne : ¬ (x0 = y0 ∧ x1 = y1 ∧ x2 = y2 ∧ x3 = y3) := fun h => hst (by rw [h.1, h.2.1, h.2.2.1, h.2.2.2])
   rw [he]
   have hb : (x0 == y0 && (x1 == y1 && (x2 == y2 && x3 == y3))) = false := by
    rw [Bool.eq_false_iff]
    intro h
    simp only [Bool.and_eq_true, beq_iff_eq] at h
    exact hne h
   simp [Lp_some, and_assoc, -rd, rd_set, -loadS, -storeS, loadS_consS, storeS_consS, sfx_load0, sfx_load, sfx_store0, sfx_store, loadS_cons0, storeS_cons0, hS', g0, g1, g4, g5, g6, g9, g16, g17, hw, Ty.k170', hb, hne, intP1]
   exact ⟨[y0, y1, y2, y3], rfl, rfl, by simpa using hh3⟩
 ·rintro st ⟨h, J, S, rfl, he, hh, hS, h0, h4, h5, h16, h17⟩
  rw [Nat.sub_self, relaxN] at he
  rw [he]
  generalize h.map intP1 = H
  simp [theLoop, Tryz.f58, loopsAll, Lp_some, and_assoc, -rd, rd_set, hS, h0, h4, h5, h16, h17]
theorem routesOk_on {l : List Rt} {k : Int} (h : routesOk l k = true) : 1 ≤ k ∧ k ≤ 4 ∧ l.length ≤ 16 ∧ ∀ r ∈ l, (0 ≤ r.a ∧ r.a < k) ∧ (0 ≤ r.b ∧ r.b < k) ∧ r.a ≠ r.b ∧ r.f.right = true ∧ r.idOk = true := by
 unfold routesOk at h
 simp only [Bool.and_eq_true, Bool.not_eq_true', Bool.or_eq_false_iff, decide_eq_false_iff_not] at h
 obtain ⟨⟨⟨h1, h2⟩, h3⟩, h4⟩ := h
 refine ⟨by omega, by omega, by omega, fun r hr => ?_⟩
 have := List.any_eq_false.1 h4 r hr
 unfold Rt.bad at this
 simp only [Bool.or_eq_true, not_or, decide_eq_true_eq, beq_iff_eq, Bool.not_eq_true', Bool.not_eq_false] at this
 obtain ⟨⟨⟨⟨⟨⟨a1, a2⟩, a3⟩, a4⟩, a5⟩, a6⟩, a7⟩ := this
 exact ⟨⟨by omega, by omega⟩, ⟨by omega, by omega⟩, a5, a6, a7⟩
theorem b_loopless (l : List Rt) (k : Int) (σ : Store) : callIt E1 (evI E1) 58 [.d (.slice (l.map Rt.D)), .d (.int .i64 k)] σ = some (.d (.bool (loopless l k)), σ) := by
 refine call_run (fn := Tryz.f58) 17 rfl rfl rfl Tryz.func58 rfl rfl ?_ rfl
 have c1 := fun σ => b_routeRight l k σ
 unfold loopless
 cases hok : routesOk l k
 ·rw [hok] at c1
  try simp at c1
  generalize l.map Rt.D = L at c1 ⊢
  simp [Tryz.f58, c1]
 ·rw [hok] at c1
  obtain ⟨k1, k2, k3, k4⟩ := routesOk_on hok
  obtain ⟨n, rfl⟩ : ∃ n : Nat, k = (n : Int) := ⟨k.toNat, by omega⟩
  rw [Int.toNat_natCast]
  simp only [Bool.true_and]
  have hon : ∀ r ∈ l, r.on := fun r hr => by have := k4 r hr; exact ⟨by omega, by omega, by omega, by omega⟩
  have hr1 := l_round 17 l k3 (by omega) hon n (by omega)
  have hh := relaxN_ok l k3 n [0, 0, 0, 0] 0 (by omega) ⟨rfl, by simp⟩
  have hr2 := fun J0 => l_relax2 17 l k3 hon (relaxN l n [0, 0, 0, 0]) (hh.mono (by omega)) J0
  have hh2 := relaxL_ok (by omega) l _ hh
  have hml : (l.map Rt.D).length = l.length := by simp
  clear hok k4 hon
  generalize hR2 : relaxL l (relaxN l n [0, 0, 0, 0]) = h' at hr2 hh2 ⊢
  generalize relaxN l n [0, 0, 0, 0] = h at hr1 hr2 hh ⊢
  obtain ⟨x0, x1, x2, x3, rfl⟩ := four hh.1
  obtain ⟨y0, y1, y2, y3, rfl⟩ := four hh2.1
  clear hh hh2 hR2
  try simp at c1
  generalize l.map Rt.D = L at c1 hml hr1 hr2 ⊢
  simp only [List.map_cons, List.map_nil, intP1] at hr1 hr2
  simp [Tryz.f58, ec_loop, c1]
  generalize hLL : loopN _ _ _ = LL
  obtain ⟨r, rfl, J, S, rfl, hS, h0, h4, h5⟩ := at_loop hLL (hr1 _ _ rfl rfl rfl rfl rfl rfl 17 (by omega))
  simp [-rd, rd_set, -loadS, -storeS, loadS_consS, storeS_consS, sfx_load0, sfx_load, sfx_store0, sfx_store, loadS_cons0, storeS_cons0, hS, h0, h4, h5, hml, ec_loop]
  clear hLL
  generalize hLL : loopN _ _ _ = LL
  have hQ := fun a0 a1 a2 a3 a4 a5 a6 a7 a8 a9 a10 a11 => at_loop hLL (hr2 _ (.d (.slice L)) (rd S 1) (.d (.bool false)) (rd S 6) (.ptr (J.length + 1) 0) (rd S 16) (rd S 17) _ a0 a1 a2 a3 a4 a5 a6 a7 a8 a9 a10 a11 17 (by omega))
  obtain ⟨r, rfl, J', S', rfl, hS', g0, g1, g4, g6, g9, g16, g17, g5⟩ := hQ (by simp [hS]) (by simp [-rd, rd_set, hS, h0]) (by simp [-rd, rd_set, hS]) (by simp [-rd, rd_set, hS, h4]) (by simp [-rd, rd_set, hS]) (by simp [-rd, rd_set, hS]) (by simp [-rd, rd_set, hS]) (by simp [-rd, rd_set, hS]) (by simp [-rd, rd_set, hS, h5]) (by simp [-rd, rd_set, hS]) (by simp [-rd, rd_set, hS, hml]) (by simp [-rd, rd_set, hS])
  have hbb : (x0 == y0 && (x1 == y1 && (x2 == y2 && x3 == y3))) = decide ([x0, x1, x2, x3] = [y0, y1, y2, y3]) := by
   rw [Bool.eq_iff_iff]
   simp
  simp [-rd, rd_set, -loadS, -storeS, loadS_consS, storeS_consS, sfx_load0, sfx_load, sfx_store0, sfx_store, loadS_cons0, storeS_cons0, hS', g0, g1, g4, g5, g6, g9, g16, g17, Ty.k170', intP1]
  rw [Bool.eq_iff_iff]
  simp
end Go.Proofs

set_option maxRecDepth 100000
set_option maxHeartbeats 4000000
namespace Go.Proofs
open Go.RowKit Go.Shelf Go.Pv
theorem rows_map {α : Type} {D : α → List DV} {p : α → Prop} : ∀ (rows : List (List DV)), (∀ r ∈ rows, ∃ x, r = D x ∧ p x) → ∃ l : List α, rows = l.map D ∧ ∀ x ∈ l, p x
 | [], _ => ⟨[], rfl, by simp⟩
 | r :: rs, h => by
  obtain ⟨x, rfl, hx⟩ := h r (by simp)
  obtain ⟨l, rfl, hl⟩ := rows_map rs (fun q hq => h q (by simp [hq]))
  exact ⟨x :: l, rfl, by simpa using ⟨hx, hl⟩⟩
theorem Ty.c4 : Tryz.prog.cellsOf 4 = 1 := by kernel_rfl
theorem Ty.c3 : Tryz.prog.cellsOf 3 = 1 := by kernel_rfl
theorem Ty.c5 : Tryz.prog.cellsOf 5 = 1 := by kernel_rfl
theorem Ty.c32 : Tryz.prog.cellsOf 32 = 1 := by kernel_rfl
theorem Ty.c44 : Tryz.prog.cellsOf 44 = 1 := by kernel_rfl
theorem Ty.c45 : Tryz.prog.cellsOf 45 = 1 := by kernel_rfl
theorem Ty.c47 : Tryz.prog.cellsOf 47 = 4 := by kernel_rfl
def I64 (n : Int) : Prop := -9223372036854775808 ≤ n ∧ n ≤ 9223372036854775807
def Fr.wf (f : Fr) : Prop := I64 f.id ∧ I64 f.ln ∧ f.data.length ≤ maxLen ∧ ∀ b ∈ f.data, 0 ≤ b ∧ b ≤ 255
def Fl.wf (f : Fl) : Prop := I64 f.mask ∧ I64 f.mt
def Cn.wf (c : Cn) : Prop := I64 c.t ∧ I64 c.r ∧ I64 c.s ∧ I64 c.z
def Nd.wf (n : Nd) : Prop := (n.q.length ≤ maxLen ∧ ∀ f ∈ n.q, f.wf) ∧ (n.fs.length ≤ maxLen ∧ ∀ f ∈ n.fs, f.wf) ∧ n.c.wf ∧ n.g.length ≤ maxLen ∧ ∀ f ∈ n.g, f.wf
theorem OkD_succ {P : Program} {d : Nat} {t : TypeId} {xs : List DV} : OkD P (d + 1) t xs = match P.underlying t with
  | some .bool => ∃ b, xs = [.bool b]
  | some (.int k) => ∃ n, xs = [.int k n] ∧ k.min ≤ n ∧ n ≤ k.max
  | some .string => ∃ s, xs = [.str s] ∧ s.size ≤ maxLen
  | some (.slice e) => ∃ rows, xs = [.slice rows] ∧ rows.length ≤ maxLen ∧ ∀ r ∈ rows, OkD P d e r
  | some (.struct fs) => OkFs (OkD P d) P fs.toList xs
  | some (.array n e) => OkArr (OkD P d e) (P.cellsOf e) n xs
  | _ => False := rfl
theorem ok_by {d : Nat} {ds : List DV} (h : OkD Tryz.prog (d + 1) 5 ds) : ∃ b, ds = byD b ∧ 0 ≤ b ∧ b ≤ 255 := by
 rw [OkD_succ] at h
 simp only [Tryz.underlying5] at h
 obtain ⟨n, rfl, h1, h2⟩ := h
 exact ⟨n, rfl, h1, h2⟩
theorem ok_int {d : Nat} {ds : List DV} (h : OkD Tryz.prog (d + 1) 3 ds) : ∃ b, ds = [.int .i64 b] ∧ I64 b := by
 rw [OkD_succ] at h
 simp only [Tryz.underlying3] at h
 obtain ⟨n, rfl, h1, h2⟩ := h
 exact ⟨n, rfl, h1, h2⟩
theorem ok_bool {d : Nat} {ds : List DV} (h : OkD Tryz.prog (d + 1) 4 ds) : ∃ b, ds = [.bool b] := by
 rw [OkD_succ] at h
 simpa only [Tryz.underlying4] using h
theorem ok_bytes {d : Nat} {ds : List DV} (h : OkD Tryz.prog (d + 2) 32 ds) : ∃ l : List Int, ds = [.slice (l.map byD)] ∧ l.length ≤ maxLen ∧ ∀ b ∈ l, 0 ≤ b ∧ b ≤ 255 := by
 rw [show d + 2 = (d + 1) + 1 from rfl] at h
 rw [OkD_succ] at h
 simp only [Tryz.underlying32] at h
 obtain ⟨rows, rfl, h1, h2⟩ := h
 obtain ⟨l, rfl, hl⟩ := rows_map rows (fun r hr => ok_by (h2 r hr))
 exact ⟨l, rfl, by simpa using h1, hl⟩
theorem take1 {xs : List DV} {x : DV} (h : xs.take 1 = [x]) : ∃ ys, xs = x :: ys ∧ xs.drop 1 = ys := by
 match xs, h with
 | y :: ys, h => simp at h; subst h; exact ⟨ys, rfl, rfl⟩
theorem ok_Fr {d : Nat} {ds : List DV} (h : OkD Tryz.prog (d + 3) 34 ds) : ∃ f : Fr, ds = f.D ∧ f.wf := by
 rw [show d + 3 = (d + 2) + 1 from rfl] at h
 rw [OkD_succ] at h
 simp only [Tryz.underlying34, OkFs, Ty.c4, Ty.c3, Ty.c32] at h
 obtain ⟨h1, h2, h3, h4, h5, h6⟩ := h
 obtain ⟨e, h1⟩ := ok_bool h1
 obtain ⟨_, rfl, k1⟩ := take1 h1
 rw [k1] at h2 h3 h4 h5 h6
 obtain ⟨id, h2, w1⟩ := ok_int h2
 obtain ⟨_, rfl, k2⟩ := take1 h2
 rw [k2] at h3 h4 h5 h6
 obtain ⟨rm, h3⟩ := ok_bool h3
 obtain ⟨_, rfl, k3⟩ := take1 h3
 rw [k3] at h4 h5 h6
 obtain ⟨ln, h4, w2⟩ := ok_int h4
 obtain ⟨_, rfl, k4⟩ := take1 h4
 rw [k4] at h5 h6
 obtain ⟨l, h5, w3, w4⟩ := ok_bytes h5
 obtain ⟨_, rfl, k5⟩ := take1 h5
 rw [k5] at h6
 subst h6
 exact ⟨⟨e, id, rm, ln, l⟩, rfl, w1, w2, w3, w4⟩
theorem ok_Fl {d : Nat} {ds : List DV} (h : OkD Tryz.prog (d + 2) 140 ds) : ∃ f : Fl, ds = f.D ∧ f.wf := by
 rw [show d + 2 = (d + 1) + 1 from rfl] at h
 rw [OkD_succ] at h
 simp only [Tryz.underlying140, OkFs, Ty.c4, Ty.c3] at h
 obtain ⟨h1, h2, h3, h4⟩ := h
 obtain ⟨e, h1⟩ := ok_bool h1
 obtain ⟨_, rfl, k1⟩ := take1 h1
 rw [k1] at h2 h3 h4
 obtain ⟨m, h2, w1⟩ := ok_int h2
 obtain ⟨_, rfl, k2⟩ := take1 h2
 rw [k2] at h3 h4
 obtain ⟨t, h3, w2⟩ := ok_int h3
 obtain ⟨_, rfl, k3⟩ := take1 h3
 rw [k3] at h4
 subst h4
 exact ⟨⟨e, m, t⟩, rfl, w1, w2⟩
theorem ok_Frs {d : Nat} {ds : List DV} (h : OkD Tryz.prog (d + 4) 44 ds) : ∃ l : List Fr, ds = [.slice (l.map Fr.D)] ∧ l.length ≤ maxLen ∧ ∀ f ∈ l, f.wf := by
 rw [show d + 4 = (d + 3) + 1 from rfl] at h
 rw [OkD_succ] at h
 simp only [Tryz.underlying44] at h
 obtain ⟨rows, rfl, h1, h2⟩ := h
 obtain ⟨l, rfl, hl⟩ := rows_map rows (fun r hr => ok_Fr (h2 r hr))
 exact ⟨l, rfl, by simpa using h1, hl⟩
theorem ok_Fls {d : Nat} {ds : List DV} (h : OkD Tryz.prog (d + 3) 45 ds) : ∃ l : List Fl, ds = [.slice (l.map Fl.D)] ∧ l.length ≤ maxLen ∧ ∀ f ∈ l, f.wf := by
 rw [show d + 3 = (d + 2) + 1 from rfl] at h
 rw [OkD_succ] at h
 simp only [Tryz.underlying45] at h
 obtain ⟨rows, rfl, h1, h2⟩ := h
 obtain ⟨l, rfl, hl⟩ := rows_map rows (fun r hr => ok_Fl (h2 r hr))
 exact ⟨l, rfl, by simpa using h1, hl⟩
theorem ok_Cn {d : Nat} {ds : List DV} (h : OkD Tryz.prog (d + 2) 47 ds) : ∃ c : Cn, ds = [.int .i64 c.t, .int .i64 c.r, .int .i64 c.s, .int .i64 c.z] ∧ c.wf := by
 rw [show d + 2 = (d + 1) + 1 from rfl] at h
 rw [OkD_succ] at h
 simp only [Tryz.underlying47, OkFs, Ty.c3] at h
 obtain ⟨h1, h2, h3, h4, h5⟩ := h
 obtain ⟨t, h1, w1⟩ := ok_int h1
 obtain ⟨_, rfl, k1⟩ := take1 h1
 rw [k1] at h2 h3 h4 h5
 obtain ⟨r, h2, w2⟩ := ok_int h2
 obtain ⟨_, rfl, k2⟩ := take1 h2
 rw [k2] at h3 h4 h5
 obtain ⟨s, h3, w3⟩ := ok_int h3
 obtain ⟨_, rfl, k3⟩ := take1 h3
 rw [k3] at h4 h5
 obtain ⟨z, h4, w4⟩ := ok_int h4
 obtain ⟨_, rfl, k4⟩ := take1 h4
 rw [k4] at h5
 subst h5
 exact ⟨⟨t, r, s, z⟩, rfl, w1, w2, w3, w4⟩
end Go.Proofs

set_option maxRecDepth 100000
set_option maxHeartbeats 4000000
namespace Go.Proofs
open Go.RowKit Go.Shelf Go.Pv
def Fr.great (f : Fr) : Bool := decide ((f.data.length : Int) > 100)
theorem r_great (f : Fr) (σ : Store) : callIt E1 (evI E1) 49 [f.P] σ = some (.d (.bool f.great), σ) := by
 refine call_run (fn := Tryz.f49) 5 rfl rfl rfl Tryz.func49 rfl rfl ?_ rfl
 simp [Tryz.f49, Fr.great]
def Fr.rright (f : Fr) : Bool :=
 if decide (f.id < 0) || decide (f.id ≥ if f.e then 536870912 else 2048) || decide (f.ln < 0) || decide (f.ln > 8) then false else if f.rm then (f.data.length : Int) == 0 else (f.data.length : Int) == f.ln
theorem r_right0 (f : Fr) (σ : Store) : callIt E1 (evI E1) 50 [f.P] σ = some (.d (.bool f.rright), σ) := by
 refine call_run (fn := Tryz.f50) 5 rfl rfl rfl Tryz.func50 rfl rfl ?_ rfl
 obtain ⟨e, id, rm, ln, data⟩ := f
 unfold Fr.rright
 cases e
 ·cases rm
  ·cases hc1 : decide (id < 0)
   ·cases hc2 : decide (id ≥ 2048)
    ·cases hc3 : decide (ln < 0)
     ·cases hc4 : decide (ln > 8)
      ·simp [Tryz.f50, hc1, hc2, hc3, hc4]
      ·simp [Tryz.f50, hc1, hc2, hc3, hc4]
     ·simp [Tryz.f50, hc1, hc2, hc3]
    ·simp [Tryz.f50, hc1, hc2]
   ·simp [Tryz.f50, hc1]
  ·cases hc1 : decide (id < 0)
   ·cases hc2 : decide (id ≥ 2048)
    ·cases hc3 : decide (ln < 0)
     ·cases hc4 : decide (ln > 8)
      ·simp [Tryz.f50, hc1, hc2, hc3, hc4]
      ·simp [Tryz.f50, hc1, hc2, hc3, hc4]
     ·simp [Tryz.f50, hc1, hc2, hc3]
    ·simp [Tryz.f50, hc1, hc2]
   ·simp [Tryz.f50, hc1]
 ·cases rm
  ·cases hc1 : decide (id < 0)
   ·cases hc2 : decide (id ≥ 536870912)
    ·cases hc3 : decide (ln < 0)
     ·cases hc4 : decide (ln > 8)
      ·simp [Tryz.f50, hc1, hc2, hc3, hc4]
      ·simp [Tryz.f50, hc1, hc2, hc3, hc4]
     ·simp [Tryz.f50, hc1, hc2, hc3]
    ·simp [Tryz.f50, hc1, hc2]
   ·simp [Tryz.f50, hc1]
  ·cases hc1 : decide (id < 0)
   ·cases hc2 : decide (id ≥ 536870912)
    ·cases hc3 : decide (ln < 0)
     ·cases hc4 : decide (ln > 8)
      ·simp [Tryz.f50, hc1, hc2, hc3, hc4]
      ·simp [Tryz.f50, hc1, hc2, hc3, hc4]
     ·simp [Tryz.f50, hc1, hc2, hc3]
    ·simp [Tryz.f50, hc1, hc2]
   ·simp [Tryz.f50, hc1]
theorem r_takes (f : Fl) (x : Fr) (σ : Store) : callIt E1 (evI E1) 86 [f.P, x.P] σ = some (.d (.bool (f.takes x)), σ) := by
 refine call_run (fn := Tryz.f86) 5 rfl rfl rfl Tryz.func86 rfl rfl ?_ rfl
 obtain ⟨fe, fm, ft⟩ := f
 obtain ⟨xe, xid, xrm, xln, xd⟩ := x
 cases fe <;> cases xe <;> simp [Tryz.f86, Fl.takes]
def Fl.rright (f : Fl) : Bool :=
 decide (f.mask ≥ 0) && decide (f.mask < if f.e then 536870912 else 2048) && decide (f.mt ≥ 0) && decide (f.mt < if f.e then 536870912 else 2048) && (IntKind.i64.wrap (BitVec.ofInt 64 f.mt &&& BitVec.ofInt 64 f.mask).toNat == f.mt)
theorem r_flRight (f : Fl) (σ : Store) : callIt E1 (evI E1) 133 [f.P] σ = some (.d (.bool f.rright), σ) := by
 refine call_run (fn := Tryz.f133) 5 rfl rfl rfl Tryz.func133 rfl rfl ?_ rfl
 obtain ⟨e, m, t⟩ := f
 unfold Fl.rright
 cases e
 ·cases hc1 : decide (m ≥ 0)
  ·simp [Tryz.f133, hc1]
  ·cases hc2 : decide (m < 2048)
   ·simp [Tryz.f133, hc1, hc2]
   ·cases hc3 : decide (t ≥ 0)
    ·simp [Tryz.f133, hc1, hc2, hc3]
    ·cases hc4 : decide (t < 2048)
     ·simp [Tryz.f133, hc1, hc2, hc3, hc4]
     ·simp [Tryz.f133, hc1, hc2, hc3, hc4]
 ·cases hc1 : decide (m ≥ 0)
  ·simp [Tryz.f133, hc1]
  ·cases hc2 : decide (m < 536870912)
   ·simp [Tryz.f133, hc1, hc2]
   ·cases hc3 : decide (t ≥ 0)
    ·simp [Tryz.f133, hc1, hc2, hc3]
    ·cases hc4 : decide (t < 536870912)
     ·simp [Tryz.f133, hc1, hc2, hc3, hc4]
     ·simp [Tryz.f133, hc1, hc2, hc3, hc4]
theorem r_countNew (σ : Store) : callIt E1 (evI E1) 64 [] σ = some ((Cn.mk 0 0 1 0).P, σ) := by
 refine call_run (fn := Tryz.f64) 5 rfl rfl rfl Tryz.func64 rfl rfl ?_ rfl
 simp [Tryz.f64]
def Cn.rright (c : Cn) : Bool :=
 if c.s = 3 then (c.t == 256) && (c.r == 0) && decide (c.z ≥ 0) && decide (c.z ≤ 127)
 else if decide (c.t < 0) || decide (c.t > 255) || decide (c.r < 0) || decide (c.r > 255) || (c.z != 0) then false else if decide (c.t > 127) || decide (c.r > 127) then c.s == 2 else c.s == 1
theorem r_countRight (c : Cn) (σ : Store) : callIt E1 (evI E1) 134 [c.P] σ = some (.d (.bool c.rright), σ) := by
 refine call_run (fn := Tryz.f134) 5 rfl rfl rfl Tryz.func134 rfl rfl ?_ rfl
 obtain ⟨t, r, s, z⟩ := c
 unfold Cn.rright
 by_cases hs : s = 3
 ·subst hs
  cases hc1 : (t == 256)
  ·simp [Tryz.f134, hc1]
  ·cases hc2 : (r == 0)
   ·simp [Tryz.f134, hc1, hc2]
   ·cases hc3 : decide (z ≥ 0)
    ·simp [Tryz.f134, hc1, hc2, hc3]
    ·simp [Tryz.f134, hc1, hc2, hc3]
 ·have hs' : (s == 3) = false := by simpa using hs
  cases k1 : decide (t > 127)
  ·cases k2 : decide (r > 127)
   ·cases hc1 : decide (t < 0)
    ·cases hc2 : decide (t > 255)
     ·cases hc3 : decide (r < 0)
      ·cases hc4 : decide (r > 255)
       ·cases hc5 : (z != 0)
        ·simp [Tryz.f134, hs, hs', k1, k2, hc1, hc2, hc3, hc4, hc5]
        ·simp [Tryz.f134, hs, hs', k1, k2, hc1, hc2, hc3, hc4, hc5]
       ·simp [Tryz.f134, hs, hs', k1, k2, hc1, hc2, hc3, hc4]
      ·simp [Tryz.f134, hs, hs', k1, k2, hc1, hc2, hc3]
     ·simp [Tryz.f134, hs, hs', k1, k2, hc1, hc2]
    ·simp [Tryz.f134, hs, hs', k1, k2, hc1]
   ·cases hc1 : decide (t < 0)
    ·cases hc2 : decide (t > 255)
     ·cases hc3 : decide (r < 0)
      ·cases hc4 : decide (r > 255)
       ·cases hc5 : (z != 0)
        ·simp [Tryz.f134, hs, hs', k1, k2, hc1, hc2, hc3, hc4, hc5]
        ·simp [Tryz.f134, hs, hs', k1, k2, hc1, hc2, hc3, hc4, hc5]
       ·simp [Tryz.f134, hs, hs', k1, k2, hc1, hc2, hc3, hc4]
      ·simp [Tryz.f134, hs, hs', k1, k2, hc1, hc2, hc3]
     ·simp [Tryz.f134, hs, hs', k1, k2, hc1, hc2]
    ·simp [Tryz.f134, hs, hs', k1, k2, hc1]
  ·cases hc1 : decide (t < 0)
   ·cases hc2 : decide (t > 255)
    ·cases hc3 : decide (r < 0)
     ·cases hc4 : decide (r > 255)
      ·cases hc5 : (z != 0)
       ·simp [Tryz.f134, hs, hs', k1, hc1, hc2, hc3, hc4, hc5]
       ·simp [Tryz.f134, hs, hs', k1, hc1, hc2, hc3, hc4, hc5]
      ·simp [Tryz.f134, hs, hs', k1, hc1, hc2, hc3, hc4]
     ·simp [Tryz.f134, hs, hs', k1, hc1, hc2, hc3]
    ·simp [Tryz.f134, hs, hs', k1, hc1, hc2]
   ·simp [Tryz.f134, hs, hs', k1, hc1]
end Go.Proofs

set_option maxRecDepth 100000
set_option maxHeartbeats 4000000
namespace Go.Pv
open Go
def loopsOf : Code → List Code
 | .seq a b => loopsOf a ++ loopsOf b
 | .block _ b => loopsOf b
 | .loop b => b :: loopsOf b
 | .cond _ a b => loopsOf a ++ loopsOf b
 | _ => []
end Go.Pv
namespace Go.Proofs
open Go.RowKit Go.Shelf Go.Pv
theorem Fr.rright_eq (f : Fr) : f.rright = f.right := by
 rw [Bool.eq_iff_iff, f.right_iff]
 unfold Fr.rright
 obtain ⟨e, id, rm, ln, data⟩ := f
 have hd : data = [] ↔ data.length = 0 := by simp
 cases e <;> cases rm <;> simp <;> (try rw [hd]) <;> omega
theorem r_right (f : Fr) (σ : Store) : callIt E1 (evI E1) 50 [f.P] σ = some (.d (.bool f.right), σ) := by
 rw [← f.rright_eq]; exact r_right0 f σ
theorem any_drop {α : Type} {p : α → Bool} {l : List α} {i : Nat} (hi : i < l.length) : (l.drop i).any p = (p l[i] || (l.drop (i + 1)).any p) := by
 rw [List.drop_eq_getElem_cons hi]; rfl
def Nd.great (n : Nd) : Bool := decide ((n.q.length : Int) > 100) || decide ((n.g.length : Int) > 200) || decide ((n.fs.length : Int) > 100) || n.q.any (·.great) || n.g.any (·.great)
theorem l_gr1 (m : Nat) (n : Nd) (hn : n.q.length ≤ 1000000) (B : Code) (hB : Tryz.f108.body.bind (fun c => (loopsOf c)[0]?) = some B) :
  ∀ (k i : Nat) (x4 x5 x6 x7 x8 x9 x10 x11 x12 x13 x14 x15 x16 x17 x18 x19 x20 x21 x22 x23 x24 x25 x26 x27 x28 x29 x30 x31 x32 x33 x34 x35 x36 x37 x38 x39 x40 x41 x42 x43 x44 x45 x46 : PV), i ≤ n.q.length → n.q.length < i + k →
   Lp (loopN (evCode E1 (evI E1) m B) k ⟨[n.P, .ptr 0 0, .d (.bool false), .d (.int .i64 i), x4, x5, x6, x7, x8, x9, x10, x11, x12, x13, x14, x15, x16, x17, x18, x19, x20, x21, x22, x23, x24, x25, x26, x27, x28, x29, x30, x31, x32, x33, x34, x35, x36, x37, x38, x39, x40, x41, x42, x43, x44, x45, x46], [cellsOf n.P]⟩) fun r => ∃ e z y3 y21 y22 y23 y24 y25 y26 y27 y28 y29 y30 y31 y32 y33, r = (e, ⟨[n.P, .ptr 0 0, .d (.bool z), y3, x4, x5, x6, x7, x8, x9, x10, x11, x12, x13, x14, x15, x16, x17, x18, x19, x20, y21, y22, y23, y24, y25, y26, y27, y28, y29, y30, y31, y32, y33, x34, x35, x36, x37, x38, x39, x40, x41, x42, x43, x44, x45, x46], [cellsOf n.P]⟩) ∧
    ((e = .ret ∧ z = true ∧ (n.q.drop i).any (·.great) = true) ∨ (e = .exit 0 ∧ z = false ∧ (n.q.drop i).any (·.great) = false)) := by
 simp [Tryz.f108, loopsOf] at hB
 subst hB
 intro k
 induction k with
 | zero => intros; omega
 | succ k ih =>
  intro i x4 x5 x6 x7 x8 x9 x10 x11 x12 x13 x14 x15 x16 x17 x18 x19 x20 x21 x22 x23 x24 x25 x26 x27 x28 x29 x30 x31 x32 x33 x34 x35 x36 x37 x38 x39 x40 x41 x42 x43 x44 x45 x46 h1 h2
  rw [loopN_succ]
  by_cases hi : i < n.q.length
  ·have hx : n.q[i]? = some n.q[i] := List.getElem?_eq_getElem hi
   rw [any_drop hi]
   generalize n.q[i] = x at hx
   have hlt : (i : Int) < (n.q.length : Int) := by omega
   have hw' : IntKind.i64.wrap ((i : Int) + 1) = ((i + 1 : Nat) : Int) := by rw [wrap_ok (by omega) (by omega)]; omega
   have hg := r_great x
   have hk := fun z4 z5 z6 z7 z8 z9 z10 z11 z12 z13 z14 z15 z16 z17 z18 z19 z20 z21 z22 z23 z24 z25 z26 z27 z28 z29 z30 z31 z32 z33 z34 z35 z36 z37 z38 z39 z40 z41 z42 z43 z44 z45 z46 => ih (i + 1) z4 z5 z6 z7 z8 z9 z10 z11 z12 z13 z14 z15 z16 z17 z18 z19 z20 z21 z22 z23 z24 z25 z26 z27 z28 z29 z30 z31 z32 z33 z34 z35 z36 z37 z38 z39 z40 z41 z42 z43 z44 z45 z46 (by omega) (by omega)
   simp [cellsOf] at hk hg
   cases hb : x.great
   ·rw [hb] at hg
    simp [hx, hlt, hw', hg, cellsOf, loadS]
    exact hk _ _ _ _ _ _ _ _ _ _ _ _ _ _ _ _ _ _ _ _ _ _ _ _ _ _ _ _ _ _ _ _ _ _ _ _ _ _ _ _ _ _ _
   ·rw [hb] at hg
    simp [hx, hlt, hw', hg, cellsOf, loadS, Lp_some, and_assoc]
  ·have hlt : ¬ (i : Int) < (n.q.length : Int) := by omega
   have : n.q.drop i = [] := List.drop_eq_nil_of_le (by omega)
   simp [hlt, this, cellsOf, loadS, Lp_some, and_assoc]
theorem l_gr2 (m : Nat) (n : Nd) (hn : n.g.length ≤ 1000000) (B : Code) (hB : Tryz.f108.body.bind (fun c => (loopsOf c)[1]?) = some B) :
  ∀ (k i : Nat) (x3 x5 x6 x7 x8 x9 x10 x11 x12 x13 x14 x15 x16 x17 x18 x19 x20 x21 x22 x23 x24 x25 x26 x27 x28 x29 x30 x31 x32 x33 x34 x35 x36 x37 x38 x39 x40 x41 x42 x43 x44 x45 x46 : PV), i ≤ n.g.length → n.g.length < i + k →
   Lp (loopN (evCode E1 (evI E1) m B) k ⟨[n.P, .ptr 0 0, .d (.bool false), x3, .d (.int .i64 i), x5, x6, x7, x8, x9, x10, x11, x12, x13, x14, x15, x16, x17, x18, x19, x20, x21, x22, x23, x24, x25, x26, x27, x28, x29, x30, x31, x32, x33, x34, x35, x36, x37, x38, x39, x40, x41, x42, x43, x44, x45, x46], [cellsOf n.P]⟩) fun r => ∃ e z y4 y34 y35 y36 y37 y38 y39 y40 y41 y42 y43 y44 y45 y46, r = (e, ⟨[n.P, .ptr 0 0, .d (.bool z), x3, y4, x5, x6, x7, x8, x9, x10, x11, x12, x13, x14, x15, x16, x17, x18, x19, x20, x21, x22, x23, x24, x25, x26, x27, x28, x29, x30, x31, x32, x33, y34, y35, y36, y37, y38, y39, y40, y41, y42, y43, y44, y45, y46], [cellsOf n.P]⟩) ∧
    ((e = .ret ∧ z = true ∧ (n.g.drop i).any (·.great) = true) ∨ (e = .exit 2 ∧ z = false ∧ (n.g.drop i).any (·.great) = false)) := by
 simp [Tryz.f108, loopsOf] at hB
 subst hB
 intro k
 induction k with
 | zero => intros; omega
 | succ k ih =>
  intro i x3 x5 x6 x7 x8 x9 x10 x11 x12 x13 x14 x15 x16 x17 x18 x19 x20 x21 x22 x23 x24 x25 x26 x27 x28 x29 x30 x31 x32 x33 x34 x35 x36 x37 x38 x39 x40 x41 x42 x43 x44 x45 x46 h1 h2
  rw [loopN_succ]
  by_cases hi : i < n.g.length
  ·have hx : n.g[i]? = some n.g[i] := List.getElem?_eq_getElem hi
   rw [any_drop hi]
   generalize n.g[i] = x at hx
   have hlt : (i : Int) < (n.g.length : Int) := by omega
   have hw' : IntKind.i64.wrap ((i : Int) + 1) = ((i + 1 : Nat) : Int) := by rw [wrap_ok (by omega) (by omega)]; omega
   have hg := r_great x
   have hk := fun z3 z5 z6 z7 z8 z9 z10 z11 z12 z13 z14 z15 z16 z17 z18 z19 z20 z21 z22 z23 z24 z25 z26 z27 z28 z29 z30 z31 z32 z33 z34 z35 z36 z37 z38 z39 z40 z41 z42 z43 z44 z45 z46 => ih (i + 1) z3 z5 z6 z7 z8 z9 z10 z11 z12 z13 z14 z15 z16 z17 z18 z19 z20 z21 z22 z23 z24 z25 z26 z27 z28 z29 z30 z31 z32 z33 z34 z35 z36 z37 z38 z39 z40 z41 z42 z43 z44 z45 z46 (by omega) (by omega)
   simp [cellsOf] at hk hg
   cases hb : x.great
   ·rw [hb] at hg
    simp [hx, hlt, hw', hg, cellsOf, loadS]
    exact hk _ _ _ _ _ _ _ _ _ _ _ _ _ _ _ _ _ _ _ _ _ _ _ _ _ _ _ _ _ _ _ _ _ _ _ _ _ _ _ _ _ _ _
   ·rw [hb] at hg
    simp [hx, hlt, hw', hg, cellsOf, loadS, Lp_some, and_assoc]
  ·have hlt : ¬ (i : Int) < (n.g.length : Int) := by omega
   have : n.g.drop i = [] := List.drop_eq_nil_of_le (by omega)
   simp [hlt, this, cellsOf, loadS, Lp_some, and_assoc]
theorem b_great (n : Nd) (σ : Store) : callIt E1 (evI E1) 108 [n.P] σ = some (.d (.bool n.great), σ) := by
 unfold Nd.great
 by_cases c1 : (n.q.length : Int) > 100
 ·refine call_run (fn := Tryz.f108) 5 rfl rfl rfl Tryz.func108 rfl rfl ?_ rfl
  simp [Tryz.f108, c1]
 by_cases c2 : (n.g.length : Int) > 200
 ·refine call_run (fn := Tryz.f108) 5 rfl rfl rfl Tryz.func108 rfl rfl ?_ rfl
  simp [Tryz.f108, c1, c2]
 by_cases c3 : (n.fs.length : Int) > 100
 ·refine call_run (fn := Tryz.f108) 5 rfl rfl rfl Tryz.func108 rfl rfl ?_ rfl
  simp [Tryz.f108, c1, c2, c3]
 refine call_run (fn := Tryz.f108) 1000 rfl rfl rfl Tryz.func108 rfl rfl ?_ rfl
 simp [Tryz.f108, ec_loop, c1, c2, c3]
 generalize hL : loopN _ _ _ = L
 obtain ⟨r, rfl, e, z, y3, y21, y22, y23, y24, y25, y26, y27, y28, y29, y30, y31, y32, y33, rfl, h⟩ := at_loop hL (l_gr1 1000 n (by omega) _ rfl 1000 0 _ _ _ _ _ _ _ _ _ _ _ _ _ _ _ _ _ _ _ _ _ _ _ _ _ _ _ _ _ _ _ _ _ _ _ _ _ _ _ _ _ _ _ (by omega) (by omega))
 rcases h with ⟨rfl, rfl, h⟩ | ⟨rfl, rfl, h⟩
 ·simp at h
  simp [h]
 ·simp at h
  simp [ec_loop]
  generalize hL2 : loopN _ _ _ = L2
  obtain ⟨r, rfl, e, z, y4, y34, y35, y36, y37, y38, y39, y40, y41, y42, y43, y44, y45, y46, rfl, h2⟩ := at_loop hL2 (l_gr2 1000 n (by omega) _ rfl 1000 0 _ _ _ _ _ _ _ _ _ _ _ _ _ _ _ _ _ _ _ _ _ _ _ _ _ _ _ _ _ _ _ _ _ _ _ _ _ _ _ _ _ _ _ (by omega) (by omega))
  rcases h2 with ⟨rfl, rfl, h2⟩ | ⟨rfl, rfl, h2⟩
  ·simp at h2
   simp [h, h2]
  ·simp at h2
   simp
   exact ⟨h, h2⟩
end Go.Proofs

set_option maxRecDepth 100000
set_option maxHeartbeats 4000000
namespace Go.Proofs
open Go.RowKit Go.Shelf Go.Pv
theorem Cn.right_iff (c : Cn) : c.right = true ↔ if c.s = 3 then c.t = 256 ∧ c.r = 0 ∧ 0 ≤ c.z ∧ c.z ≤ 127 else (0 ≤ c.t ∧ c.t ≤ 255) ∧ (0 ≤ c.r ∧ c.r ≤ 255) ∧ c.z = 0 ∧ c.s = stOf c.t c.r := by
 unfold Cn.right
 split
 ·simp; omega
 ·simp; omega
theorem Cn.right_ok {c : Cn} (h : c.right = true) : c.ok := by
 rw [c.right_iff] at h
 unfold Cn.ok
 split at h <;> omega
theorem Cn.step_right {c : Cn} (h : c.right = true) (what : Int) : (c.step what).right = true := by
 rw [Cn.right_iff] at h ⊢
 obtain ⟨t, r, s, z⟩ := c
 unfold Cn.step
 simp only at h ⊢
 by_cases hs : s = 3
 ·subst hs
  simp only [if_true] at h
  simp only [stT, stR, stS, stQ, if_true]
  by_cases h6 : what = 6
  ·by_cases hz : z + 1 = 128
   ·simp [h6, hz, stOf]
   ·simp [h6, hz]; omega
  ·simp [h6]; omega
 ·simp only [hs, if_false] at h
  simp only [stT, stR, stS, stQ, hs, if_false]
  by_cases hT : wkT what t > 255
  ·simp [hT]
  ·simp only [hT, if_false]
   have hT0 : 0 ≤ wkT what t := by unfold wkT; split; omega; split <;> omega
   have hR : 0 ≤ wkR what r ∧ wkR what r ≤ 255 := by unfold wkR; split; omega; split; omega; split <;> omega
   have hne : ¬ (if max (wkT what t) (wkR what r) > 127 then (2 : Int) else 1) = 3 := by split <;> decide
   simp only [hne, if_false]
   refine ⟨by omega, hR, h.2.2.1, rfl⟩
theorem Nd.right_iff (n : Nd) : n.right = true ↔ (n.q.length ≤ 16 ∧ ∀ f ∈ n.q, f.right = true) ∧ (n.g.length ≤ 64 ∧ ∀ f ∈ n.g, f.right = true) ∧ (n.fs.length ≤ 8 ∧ ∀ f ∈ n.fs, f.right = true) ∧ n.c.right = true := by
 unfold Nd.right frsRight flsRight
 simp only [Bool.and_eq_true, decide_eq_true_eq, List.all_eq_true]
 constructor
 ·rintro ⟨⟨⟨⟨a1, a2⟩, b1, b2⟩, c1, c2⟩, d⟩
  exact ⟨⟨by omega, a2⟩, ⟨by omega, b2⟩, ⟨by omega, c2⟩, d⟩
 ·rintro ⟨⟨a1, a2⟩, ⟨b1, b2⟩, ⟨c1, c2⟩, d⟩
  exact ⟨⟨⟨⟨by omega, a2⟩, by omega, b2⟩, by omega, c2⟩, d⟩
theorem Nd.Sent_right {n : Nd} (h : n.right = true) (ok : Bool) : (n.Sent ok).right = true := by
 unfold Nd.Sent
 split
 ·exact h
 split
 ·rw [Nd.right_iff] at h ⊢
  refine ⟨⟨?_, fun x hx => h.1.2 x (List.mem_of_mem_eraseIdx hx)⟩, h.2.1, h.2.2.1, Cn.step_right h.2.2.2 1⟩
  have := List.length_eraseIdx_le n.q (nxt n.q)
  exact Nat.le_trans this h.1.1
 ·rw [Nd.right_iff] at h ⊢
  exact ⟨h.1, h.2.1, h.2.2.1, Cn.step_right h.2.2.2 3⟩
theorem Nd.Quiet_right {n : Nd} (h : n.right = true) : n.Quiet.right = true := by
 unfold Nd.Quiet
 rw [Nd.right_iff] at h ⊢
 exact ⟨h.1, h.2.1, h.2.2.1, Cn.step_right h.2.2.2 6⟩
theorem Nd.Heard_right {n : Nd} (h : n.right = true) (f : Fr) (hf : f.right = true) (ok long : Bool) : (n.Heard f ok long).right = true := by
 unfold Nd.Heard
 split
 ·exact h
 ·rw [Nd.right_iff] at h ⊢
  refine ⟨h.1, ?_, h.2.2.1, Cn.step_right h.2.2.2 _⟩
  simp only
  split
  ·rename_i hc
   simp only [Bool.and_eq_true, decide_eq_true_eq] at hc
   refine ⟨by simp; omega, fun x hx => ?_⟩
   rcases List.mem_append.1 hx with hx | hx
   ·exact h.2.1.2 x hx
   ·simp at hx; subst hx; exact hf
  ·exact h.2.1
theorem Nd.great_len {n : Nd} (h : n.great = false) : n.q.length ≤ 100 ∧ n.g.length ≤ 200 ∧ n.fs.length ≤ 100 := by
 unfold Nd.great at h
 simp only [Bool.or_eq_false_iff, decide_eq_false_iff_not] at h
 omega
end Go.Proofs

set_option maxRecDepth 100000
set_option maxHeartbeats 8000000
namespace Go.Proofs
open Go.RowKit Go.Shelf Go.Pv
structure Rw where
 l : List Nd
@[simp] def Rw.D (r : Rw) : List DV := [.slice (r.l.map Nd.D)]
@[simp] def Rw.P (r : Rw) : PV := .d (.slice (r.l.map Nd.D))
theorem rw_map (l : List (List Nd)) : (l.map Rw.mk).map Rw.D = l.map ndsD := by simp [ndsD, Function.comp_def]
theorem l_idxNd (m g : Nat) (caps : List PV) (p : Nd → Bool) (l : List Nd) (hl : l.length ≤ 1000000) (σ : Store) (hp : ∀ x ∈ l, callIt E1 (evI E1) g ([x.P] ++ caps.map PV.strip) σ = some (.d (.bool (p x)), σ))
  (S : List PV) (hS : S.length = 19) (h0 : rd S 0 = .d (.slice (l.map Nd.D))) (h1 : rd S 1 = .func (.func g) [] caps) (h7 : rd S 7 = .d (.int .i64 l.length)) (h8 : rd S 8 = .d (.int .i64 0)) (k : Nat) (hk : l.length < k) :
  Lp (loopN (evCode E1 (evI E1) m (theLoop Tryz.f150 0)) k ⟨S, σ⟩) fun r => ∃ S' : List PV, S'.length = 19 ∧ ((r = (.exit 0, ⟨S', σ⟩) ∧ idx p l 0 = -1) ∨ (r = (.ret, ⟨S', σ⟩) ∧ rd S' 4 = .d (.int .i64 (idx p l 0)))) := by
 refine loop_inv (fun i st => ∃ S : List PV, st = ⟨S, σ⟩ ∧ S.length = 19 ∧ idx p l 0 = idx p (l.drop i) i ∧ rd S 0 = .d (.slice (l.map Nd.D)) ∧ rd S 1 = .func (.func g) [] caps ∧ rd S 7 = .d (.int .i64 l.length) ∧ rd S 8 = .d (.int .i64 i)) _ l.length ?_ ?_ k 0 _ (by omega) (by omega) ⟨S, rfl, hS, rfl, h0, h1, h7, h8⟩
 ·rintro i st hi ⟨S, rfl, hS, he, h0, h1, h7, h8⟩
  have hd : l.drop i = l[i] :: l.drop (i + 1) := List.drop_eq_getElem_cons hi
  rw [hd] at he
  have hpx := hp l[i] (List.getElem_mem hi)
  have hx : (l.map Nd.D)[i]? = some (l[i]).D := by simp [hi]
  generalize l[i] = x at he hpx hx
  have hlt : (i : Int) < (l.length : Int) := by omega
  generalize l.map Nd.D = L at hx h0 ⊢
  obtain ⟨hi0, hx⟩ := List.getElem?_eq_some_iff.1 hx
  simp only [Nd.D] at hx
  generalize idx p l 0 = z at he ⊢
  have hw := wrap_succ i (by omega)
  simp only [idx] at he
  simp at hpx
  cases hb : p x
  ·rw [hb] at hpx he
   simp only [Bool.false_eq_true, if_false] at he
   simp [theLoop, Tryz.f150, loopsAll, Lp_some, and_assoc, -rd, rd_set, hS, h0, h1, h7, h8, hlt, hi0, hx, hpx, hw]
   exact he
  ·rw [hb] at hpx he
   simp only [if_true] at he
   subst he
   simp [theLoop, Tryz.f150, loopsAll, Lp_some, and_assoc, -rd, rd_set, hS, h0, h1, h7, h8, hlt, hi0, hx, hpx, hw]
   exact ⟨_, by simp [hS], rfl, by simp [-rd, rd_set, hS]⟩
 ·rintro st ⟨S, rfl, hS, he, h0, h1, h7, h8⟩
  rw [List.drop_eq_nil_of_le (by omega)] at he
  simp only [idx] at he
  generalize idx p l 0 = z at he ⊢
  simp [theLoop, Tryz.f150, loopsAll, Lp_some, and_assoc, -rd, rd_set, hS, h0, h1, h7, h8]
  exact ⟨_, by simp [hS], rfl, he⟩
theorem b_idxNd (g : Nat) (caps : List PV) (p : Nd → Bool) (l : List Nd) (hl : l.length ≤ 1000000) (σ : Store) (hp : ∀ x ∈ l, callIt E1 (evI E1) g ([x.P] ++ caps.map PV.strip) σ = some (.d (.bool (p x)), σ)) :
  callIt E1 (evI E1) 150 [.d (.slice (l.map Nd.D)), .func (.func g) [] caps] σ = some (.d (.int .i64 (idx p l 0)), σ) := by
 refine call_np (σ' := σ) rfl rfl rfl ?_ rfl rfl (by simp)
 refine evI_run (fn := Tryz.f150) (l.length + 1) rfl Tryz.func150 rfl ?_
 have hloop := l_idxNd (l.length + 1) g caps p l hl σ hp
 have hml : (l.map Nd.D).length = l.length := by simp
 generalize idx p l 0 = z at hloop ⊢
 generalize l.map Nd.D = L at hloop hml ⊢
 simp [Tryz.f150, ec_loop, hml]
 generalize hLL : loopN _ _ _ = LL
 obtain ⟨r, rfl, S, hS, h⟩ := at_loop hLL (hloop _ rfl rfl rfl rfl rfl (l.length + 1) (by omega))
 rcases h with ⟨rfl, h⟩ | ⟨rfl, h4⟩
 ·simp [-rd, rd_set, hS, h]
 ·have h4' := rd_el h4 (by omega)
  simp [-rd, rd_set, hS, h4, h4']
theorem b_containsNd (g : Nat) (caps : List PV) (p : Nd → Bool) (l : List Nd) (hl : l.length ≤ 1000000) (σ : Store) (hp : ∀ x ∈ l, callIt E1 (evI E1) g ([x.P] ++ caps.map PV.strip) σ = some (.d (.bool (p x)), σ)) :
  callIt E1 (evI E1) 94 [.d (.slice (l.map Nd.D)), .func (.func g) [] caps] σ = some (.d (.bool (l.any p)), σ) := by
 refine call_np (σ' := σ) rfl rfl rfl ?_ rfl rfl (by simp)
 refine evI_run (fn := Tryz.f94) 5 rfl Tryz.func94 rfl ?_
 have h1 := b_idxNd g caps p l hl σ hp
 have h2 := idx_any p l 0
 generalize l.map Nd.D = L at h1 ⊢
 simp [Tryz.f94, h1, h2]
theorem l_idxRw (m g : Nat) (caps : List PV) (p : Rw → Bool) (l : List Rw) (hl : l.length ≤ 1000000) (σ : Store) (hp : ∀ x ∈ l, callIt E1 (evI E1) g ([x.P] ++ caps.map PV.strip) σ = some (.d (.bool (p x)), σ))
  (S : List PV) (hS : S.length = 19) (h0 : rd S 0 = .d (.slice (l.map Rw.D))) (h1 : rd S 1 = .func (.func g) [] caps) (h7 : rd S 7 = .d (.int .i64 l.length)) (h8 : rd S 8 = .d (.int .i64 0)) (k : Nat) (hk : l.length < k) :
  Lp (loopN (evCode E1 (evI E1) m (theLoop Tryz.f151 0)) k ⟨S, σ⟩) fun r => ∃ S' : List PV, S'.length = 19 ∧ ((r = (.exit 0, ⟨S', σ⟩) ∧ idx p l 0 = -1) ∨ (r = (.ret, ⟨S', σ⟩) ∧ rd S' 4 = .d (.int .i64 (idx p l 0)))) := by
 refine loop_inv (fun i st => ∃ S : List PV, st = ⟨S, σ⟩ ∧ S.length = 19 ∧ idx p l 0 = idx p (l.drop i) i ∧ rd S 0 = .d (.slice (l.map Rw.D)) ∧ rd S 1 = .func (.func g) [] caps ∧ rd S 7 = .d (.int .i64 l.length) ∧ rd S 8 = .d (.int .i64 i)) _ l.length ?_ ?_ k 0 _ (by omega) (by omega) ⟨S, rfl, hS, rfl, h0, h1, h7, h8⟩
 ·rintro i st hi ⟨S, rfl, hS, he, h0, h1, h7, h8⟩
  have hd : l.drop i = l[i] :: l.drop (i + 1) := List.drop_eq_getElem_cons hi
  rw [hd] at he
  have hpx := hp l[i] (List.getElem_mem hi)
  have hx : (l.map Rw.D)[i]? = some (l[i]).D := by simp [hi]
  generalize l[i] = x at he hpx hx
  have hlt : (i : Int) < (l.length : Int) := by omega
  generalize l.map Rw.D = L at hx h0 ⊢
  obtain ⟨hi0, hx⟩ := List.getElem?_eq_some_iff.1 hx
  simp only [Rw.D] at hx
  generalize idx p l 0 = z at he ⊢
  have hw := wrap_succ i (by omega)
  simp only [idx] at he
  simp at hpx
  cases hb : p x
  ·rw [hb] at hpx he
   simp only [Bool.false_eq_true, if_false] at he
   simp [theLoop, Tryz.f151, loopsAll, Lp_some, and_assoc, -rd, rd_set, hS, h0, h1, h7, h8, hlt, hi0, hx, hpx, hw]
   exact he
  ·rw [hb] at hpx he
   simp only [if_true] at he
   subst he
   simp [theLoop, Tryz.f151, loopsAll, Lp_some, and_assoc, -rd, rd_set, hS, h0, h1, h7, h8, hlt, hi0, hx, hpx, hw]
   exact ⟨_, by simp [hS], rfl, by simp [-rd, rd_set, hS]⟩
 ·rintro st ⟨S, rfl, hS, he, h0, h1, h7, h8⟩
  rw [List.drop_eq_nil_of_le (by omega)] at he
  simp only [idx] at he
  generalize idx p l 0 = z at he ⊢
  simp [theLoop, Tryz.f151, loopsAll, Lp_some, and_assoc, -rd, rd_set, hS, h0, h1, h7, h8]
  exact ⟨_, by simp [hS], rfl, he⟩
theorem b_idxRw (g : Nat) (caps : List PV) (p : Rw → Bool) (l : List Rw) (hl : l.length ≤ 1000000) (σ : Store) (hp : ∀ x ∈ l, callIt E1 (evI E1) g ([x.P] ++ caps.map PV.strip) σ = some (.d (.bool (p x)), σ)) :
  callIt E1 (evI E1) 151 [.d (.slice (l.map Rw.D)), .func (.func g) [] caps] σ = some (.d (.int .i64 (idx p l 0)), σ) := by
 refine call_np (σ' := σ) rfl rfl rfl ?_ rfl rfl (by simp)
 refine evI_run (fn := Tryz.f151) (l.length + 1) rfl Tryz.func151 rfl ?_
 have hloop := l_idxRw (l.length + 1) g caps p l hl σ hp
 have hml : (l.map Rw.D).length = l.length := by simp
 generalize idx p l 0 = z at hloop ⊢
 generalize l.map Rw.D = L at hloop hml ⊢
 simp [Tryz.f151, ec_loop, hml]
 generalize hLL : loopN _ _ _ = LL
 obtain ⟨r, rfl, S, hS, h⟩ := at_loop hLL (hloop _ rfl rfl rfl rfl rfl (l.length + 1) (by omega))
 rcases h with ⟨rfl, h⟩ | ⟨rfl, h4⟩
 ·simp [-rd, rd_set, hS, h]
 ·have h4' := rd_el h4 (by omega)
  simp [-rd, rd_set, hS, h4, h4']
theorem b_containsRw (g : Nat) (caps : List PV) (p : Rw → Bool) (l : List Rw) (hl : l.length ≤ 1000000) (σ : Store) (hp : ∀ x ∈ l, callIt E1 (evI E1) g ([x.P] ++ caps.map PV.strip) σ = some (.d (.bool (p x)), σ)) :
  callIt E1 (evI E1) 95 [.d (.slice (l.map Rw.D)), .func (.func g) [] caps] σ = some (.d (.bool (l.any p)), σ) := by
 refine call_np (σ' := σ) rfl rfl rfl ?_ rfl rfl (by simp)
 refine evI_run (fn := Tryz.f95) 5 rfl Tryz.func95 rfl ?_
 have h1 := b_idxRw g caps p l hl σ hp
 have h2 := idx_any p l 0
 generalize l.map Rw.D = L at h1 ⊢
 simp [Tryz.f95, h1, h2]
structure Nd.small (n : Nd) : Prop where
 q : n.q.length ≤ 1000000
 g : n.g.length ≤ 1000000
 fs : n.fs.length ≤ 1000000
theorem b_odd (n : Nd) (h : n.small) (σ : Store) : callIt E1 (evI E1) 93 [n.P] σ = some (.d (.bool (!n.right)), σ) := by
 refine call_run (fn := Tryz.f93) 5 rfl rfl rfl Tryz.func93 rfl rfl ?_ rfl
 have h1 := fun σ => b_right n h.q h.fs h.g σ
 try simp at h1
 simp [Tryz.f93, -loadS, -storeS, loadS_cons0, loadS_consS, storeS_cons0, storeS_consS, cellsOf, h1]
def wrongL (l : List Nd) : Bool := decide ((l.length : Int) < 1) || (decide ((l.length : Int) ≥ 8) || l.any (fun n => !n.right))
theorem b_wrong (l : List Nd) (hs : ∀ n ∈ l, n.small) (σ : Store) : callIt E1 (evI E1) 92 [.d (.slice (l.map Nd.D))] σ = some (.d (.bool (wrongL l)), σ) := by
 refine call_run (fn := Tryz.f92) 5 rfl rfl rfl Tryz.func92 rfl rfl ?_ rfl
 unfold wrongL
 have hml : (l.map Nd.D).length = l.length := by simp
 cases h1 : decide ((l.length : Int) < 1)
 ·cases h2 : decide ((l.length : Int) ≥ 8)
  ·have hl : l.length ≤ 1000000 := by have := of_decide_eq_false h2; omega
   have h3 := fun σ => b_containsNd 93 [] (fun n => !n.right) l hl σ (fun n hn => b_odd n (hs n hn) σ)
   generalize l.any (fun n => !n.right) = z at h3 ⊢
   generalize l.map Nd.D = L at hml h3 ⊢
   simp [Tryz.f92, hml, h1, h2, h3]
  ·generalize l.map Nd.D = L at hml ⊢
   simp [Tryz.f92, hml, h1, h2]
 ·generalize l.map Nd.D = L at hml ⊢
  simp [Tryz.f92, hml, h1]
theorem b_wrongs (l : List (List Nd)) (hl : l.length ≤ 1000) (hs : ∀ r ∈ l, ∀ n ∈ r, n.small) (σ : Store) : callIt E1 (evI E1) 95 [.d (.slice (l.map ndsD)), .func (.func 92) [] []] σ = some (.d (.bool (l.any wrongL)), σ) := by
 have h := b_containsRw 92 [] (fun r => wrongL r.l) (l.map Rw.mk) (by simp; omega) σ (fun r hr => by
  obtain ⟨x, hx, rfl⟩ := List.mem_map.1 hr
  exact b_wrong x (hs x hx) σ)
 rw [rw_map] at h
 simpa [Function.comp_def] using h
end Go.Proofs

set_option maxRecDepth 100000
set_option maxHeartbeats 8000000
namespace Go.Proofs
open Go.RowKit Go.Shelf Go.Pv
def gt0 : Gt := ⟨[], 0, [], []⟩
def Gt.New (l : List Rt) (k room : Int) : Gt × Int :=
 if routesOk l k = false then (gt0, 120) else if loopless l k = false then (gt0, 121) else if room < 1 ∨ room > 64 then (gt0, 1) else (⟨l, room, List.replicate k.toNat [], List.replicate k.toNat 0⟩, 0)
theorem b_gateNew (l : List Rt) (k room : Int) (hl : l.length ≤ 2 ^ 40) (σ : Store) : callIt E1 (evI E1) 96 [.d (.slice (l.map Rt.D)), .d (.int .i64 k), .d (.int .i64 room)] σ = some (.tup [(Gt.New l k room).1.P, .d (.int .i64 (Gt.New l k room).2)], σ) := by
 refine call_run2 (fn := Tryz.f96) 5 rfl rfl rfl rfl Tryz.func96 rfl rfl ?_
 have c1 := fun σ => b_routeRight l k σ
 have c2 := fun σ => b_loopless l k σ
 unfold Gt.New
 cases hok : routesOk l k
 ·rw [hok] at c1
  try simp at c1
  simp only [if_true, Gt.P, gt0, List.map_nil]
  generalize l.map Rt.D = L at c1 ⊢
  simp [Tryz.f96, mkF, -loadS, -storeS, loadS_cons0, loadS_consS, storeS_cons0, storeS_consS, c1]
 ·rw [hok] at c1
  cases hlo : loopless l k
  ·rw [hlo] at c2
   try simp at c1
   try simp at c2
   simp only [Bool.true_eq_false, if_false, if_true, Gt.P, gt0, List.map_nil]
   generalize l.map Rt.D = L at c1 c2 ⊢
   simp [Tryz.f96, mkF, -loadS, -storeS, loadS_cons0, loadS_consS, storeS_cons0, storeS_consS, c1, c2]
  ·rw [hlo] at c2
   obtain ⟨k1, k2, k3, k4⟩ := routesOk_on hok
   simp only [Bool.true_eq_false, if_false]
   have ha : evAppend Tryz.prog 63 .e0 (.d (.slice (l.map Rt.D))) = some (acc (l.map Rt.D)) := by
    unfold evAppend
    rw [Ty.app63]
    have h2 : l.length * 48 ≤ roomB := by simp [roomB]; omega
    simp only [Option.bind_some, ownRows, elemsOf, rowsOk_Rt, show rowsOk 6 ([] : List (List DV)) = true from rfl, Bool.true_and, List.length_map, List.length_nil, Nat.zero_add, h2, decide_true, if_true, List.nil_append]
   obtain ⟨n, rfl⟩ : ∃ n : Nat, k = (n : Int) := ⟨k.toNat, by omega⟩
   have hmk1 : ∀ n : Nat, n ≤ 4 → evMakeD Tryz.prog 68 n n = some (.d (.slice (List.replicate n [.slice []]))) := by
    intro n hn
    unfold evMakeD
    rw [Ty.app68]
    simp [roomB]
    omega
   have hmk2 : ∀ n : Nat, n ≤ 4 → evMakeD Tryz.prog 39 n n = some (.d (.slice (List.replicate n [.int .i64 0]))) := by
    intro n hn
    unfold evMakeD
    rw [Ty.app39]
    simp [roomB]
    omega
   have hk1 := hmk1 n (by omega)
   have hk2 := hmk2 n (by omega)
   clear hmk1 hmk2 hok hlo k4
   try simp at c1
   try simp at c2
   by_cases h1 : room < 1
   ·rw [if_pos (.inl h1)]
    simp only [Gt.P, gt0, List.map_nil]
    generalize l.map Rt.D = L at c1 c2 ⊢
    simp [Tryz.f96, mkF, -loadS, -storeS, loadS_cons0, loadS_consS, storeS_cons0, storeS_consS, c1, c2, h1]
   ·by_cases h2 : room > 64
    ·rw [if_pos (.inr h2)]
     have h2' : 64 < room := h2
     simp only [Gt.P, gt0, List.map_nil]
     generalize l.map Rt.D = L at c1 c2 ⊢
     simp [Tryz.f96, mkF, -loadS, -storeS, loadS_cons0, loadS_consS, storeS_cons0, storeS_consS, c1, c2, h1, h2']
    ·rw [if_neg (by omega)]
     have h2' : ¬ 64 < room := h2
     have e1 : (List.replicate n ([] : List Fr)).map frsD = List.replicate n [.slice []] := by simp [frsD]
     have e2 : (List.replicate n (0 : Int)).map intD = List.replicate n [.int .i64 0] := by simp
     simp only [Gt.P, Int.toNat_natCast, e1, e2]
     generalize l.map Rt.D = L at c1 c2 ha ⊢
     simp [Tryz.f96, mkF, -loadS, -storeS, loadS_cons0, loadS_consS, storeS_cons0, storeS_consS, c1, c2, h1, h2', ha, hk1, hk2]
end Go.Proofs

set_option maxRecDepth 100000
set_option maxHeartbeats 8000000
namespace Go.Proofs
open Go.RowKit Go.Shelf Go.Pv
theorem flatD_eq : ∀ (rows : List (List DV)), flatD rows = rows.flatten.map .d
 | [] => rfl
 | r :: rows => by rw [flatD, flatD_eq rows, List.flatten_cons, List.map_append]
theorem flatD_len {sz : Nat} : ∀ (rows : List (List DV)), (∀ r ∈ rows, r.length = sz) → (flatD rows).length = rows.length * sz
 | [], _ => by simp [flatD]
 | r :: rows, h => by
  rw [flatD, List.length_append, List.length_map, h r (by simp), flatD_len rows (fun x hx => h x (by simp [hx])), List.length_cons, Nat.add_mul]
  omega
theorem allD_flat (σ : Store) (k : Nat) : ∀ (ds : List DV), allD (frzD σ (k + 1)) (ds.map .d) = some ds
 | [] => rfl
 | x :: ds => by rw [List.map_cons, allD, frzD_d, Option.bind_some, allD_flat σ k ds]; rfl
theorem chunks_flat {sz : Nat} : ∀ (rows : List (List DV)), (∀ r ∈ rows, r.length = sz) → chunks sz rows.length rows.flatten = rows
 | [], _ => rfl
 | r :: rows, h => by
  have hr := h r (by simp)
  rw [List.length_cons, chunks, List.flatten_cons, ← hr, List.take_left, List.drop_left, hr, chunks_flat rows (fun x hx => h x (by simp [hx]))]
theorem frz_flat {σ : Store} {id sz : Nat} {rows : List (List DV)} (h : σ[id]? = some (flatD rows)) (hs : ∀ r ∈ rows, r.length = sz) (k : Nat) : frzD σ (k + 2) (.ms id 0 rows.length sz) = some (.slice rows) := by
 rw [frzD_ms, h]
 simp only [Option.bind_some, Nat.zero_add, flatD_len rows hs, Nat.le_refl, if_true, List.drop_zero]
 rw [List.take_of_length_le (by rw [flatD_len rows hs]; exact Nat.le_refl _), flatD_eq, allD_flat, Option.map_some, chunks_flat rows hs]
theorem flat_set {sz : Nat} : ∀ (rows : List (List DV)) (k : Nat) (r : List DV), (∀ r ∈ rows, r.length = sz) → k < rows.length → (flatD rows).take (k * sz) ++ r.map .d ++ (flatD rows).drop (k * sz + sz) = flatD (rows.set k r)
 | [], k, r, _, hk => by simp at hk
 | a :: rows, 0, r, h, _ => by
  have ha : (a.map PV.d).length = sz := by rw [List.length_map]; exact h a (by simp)
  simp only [flatD, Nat.zero_mul, List.take_zero, List.nil_append, Nat.zero_add, List.set_cons_zero]
  rw [← ha, List.drop_left]
 | a :: rows, k + 1, r, h, hk => by
  have ha : (a.map PV.d).length = sz := by rw [List.length_map]; exact h a (by simp)
  have ih := flat_set rows k r (fun x hx => h x (by simp [hx])) (by simpa using hk)
  simp only [flatD, List.set_cons_succ]
  rw [← ih, show (k + 1) * sz = (a.map PV.d).length + k * sz by rw [ha, Nat.add_mul]; omega, List.take_length_add_append, show (a.map PV.d).length + k * sz + sz = (a.map PV.d).length + (k * sz + sz) by omega, List.drop_length_add_append]
  simp only [List.append_assoc]
theorem flat_store {b0 : List PV} {J : Store} {sz k : Nat} {rows : List (List DV)} {r : List DV} (hs : ∀ r ∈ rows, r.length = sz) (hr : r.length = sz) (hk : k < rows.length) : storeS (b0 :: flatD rows :: J) 1 (k * sz) (r.map .d) = some (b0 :: flatD (rows.set k r) :: J) := by
 have hle : k * sz + sz ≤ rows.length * sz := by
  have := Nat.mul_le_mul_right sz (show k + 1 ≤ rows.length from hk)
  rw [Nat.add_mul, Nat.one_mul] at this
  exact this
 rw [storeS_consS, storeS_cons0, List.length_map, hr, flatD_len rows hs, if_pos hle, flat_set rows k r hs hk]
 rfl
theorem c_cloneNs (f : FuncId) (F : FnEv) (l : List Nd) (hne : l ≠ []) (hl : l.length ≤ 1000000) (σ : Store) : callIt (E2 f) F 97 [.d (.slice (l.map Nd.D))] σ = some (.ms σ.length 0 l.length 7, σ ++ [flatD (l.map Nd.D)]) := by
 have he : (E2 f).ext (E2 f).loose 97 = some (extClone 7 104) := rfl
 unfold callIt
 rw [he]
 have hro : rowsOk 7 (l.map Nd.D) = true := rowsOk_Nd l
 have hb : (l.map Nd.D).length * 104 ≤ roomB := by simp [roomB]; omega
 have hml : (l.map Nd.D).length = l.length := by simp
 have hn2 : l.map Nd.D ≠ [] := by simpa using hne
 rw [hml] at hb
 generalize l.map Nd.D = L at hro hml hn2 ⊢
 cases L with
 | nil => exact absurd rfl hn2
 | cons r rs =>
  simp only [extClone, hro, Bool.true_and, hml, hb, decide_true, if_true, Option.map_some]
  rfl
theorem c_cloneNss (f : FuncId) (F : FnEv) (l : List (List Nd)) (hne : l ≠ []) (hl : l.length ≤ 1000000) (σ : Store) : callIt (E2 f) F 156 [.d (.slice (l.map ndsD))] σ = some (.ms σ.length 0 l.length 1, σ ++ [flatD (l.map ndsD)]) := by
 have he : (E2 f).ext (E2 f).loose 156 = some (extClone 1 24) := rfl
 unfold callIt
 rw [he]
 have hro : rowsOk 1 (l.map ndsD) = true := rowsOk_nds l
 have hb : (l.map ndsD).length * 24 ≤ roomB := by simp [roomB]; omega
 have hml : (l.map ndsD).length = l.length := by simp
 have hn2 : l.map ndsD ≠ [] := by simpa using hne
 rw [hml] at hb
 generalize l.map ndsD = L at hro hml hn2 ⊢
 cases L with
 | nil => exact absurd rfl hn2
 | cons r rs =>
  simp only [extClone, hro, Bool.true_and, hml, hb, decide_true, if_true, Option.map_some]
  rfl
theorem b_withN (l : List Nd) (k : Nat) (hk : k < l.length) (hl : l.length ≤ 1000000) (x : Nd) (σ : Store) : callIt E1 (evI E1) 99 [.d (.slice (l.map Nd.D)), .d (.int .i64 k), x.P] σ = some (.d (.slice ((l.set k x).map Nd.D)), σ) := by
 refine call_run2 (fn := Tryz.f99) 5 rfl rfl rfl rfl Tryz.func99 rfl rfl ?_
 have hne : l ≠ [] := by intro h; rw [h] at hk; simp at hk
 have hc := fun σ => c_cloneNs 99 (evI E1) l hne hl σ
 have hs : ∀ r ∈ l.map Nd.D, r.length = 7 := fun r hr => by obtain ⟨y, _, rfl⟩ := List.mem_map.1 hr; rfl
 have hst := fun b0 => flat_store (b0 := b0) (J := []) (k := k) (r := x.D) hs rfl (by simpa using hk)
 have hs2 : ∀ r ∈ (l.set k x).map Nd.D, r.length = 7 := fun r hr => by obtain ⟨y, _, rfl⟩ := List.mem_map.1 hr; rfl
 have hset : (l.map Nd.D).set k x.D = (l.set k x).map Nd.D := by rw [List.map_set]
 rw [hset] at hst
 have hlen : ((l.set k x).map Nd.D).length = l.length := by simp
 have hfz := fun (b0 : List PV) n => frz_flat (σ := [b0, flatD ((l.set k x).map Nd.D)]) (id := 1) rfl hs2 n
 rw [hlen] at hfz
 have hfz3 : ∀ b0, frzP [b0, flatD ((l.set k x).map Nd.D)] 3 (.ms 1 0 l.length 7) = some (.d (.slice ((l.set k x).map Nd.D))) := fun b0 => by
  show (frzD _ 3 _).map PV.d = _
  rw [hfz b0 1]; rfl
 clear hset hlen hs hs2 hfz hne
 generalize (l.set k x).map Nd.D = R at hst hfz3 ⊢
 generalize l.map Nd.D = L at hc hst ⊢
 generalize flatD R = FR at hst hfz3
 generalize flatD L = FL at hc hst
 simp only [Nd.D, List.map_cons, List.map_nil] at hst
 have hkI : (k : Int) < (l.length : Int) := by omega
 try simp at hc
 simp [Tryz.f99, mkF, -loadS, -storeS, loadS_cons0, loadS_consS, cellsOf, hc, hst, hk, hkI, hfz3]
theorem b_withR (l : List (List Nd)) (k : Nat) (hk : k < l.length) (hl : l.length ≤ 1000000) (x : List Nd) (σ : Store) : callIt E1 (evI E1) 104 [.d (.slice (l.map ndsD)), .d (.int .i64 k), .d (.slice (x.map Nd.D))] σ = some (.d (.slice ((l.set k x).map ndsD)), σ) := by
 refine call_run2 (fn := Tryz.f104) 5 rfl rfl rfl rfl Tryz.func104 rfl rfl ?_
 have hne : l ≠ [] := by intro h; rw [h] at hk; simp at hk
 have hc := fun σ => c_cloneNss 104 (evI E1) l hne hl σ
 have hs : ∀ r ∈ l.map ndsD, r.length = 1 := fun r hr => by obtain ⟨y, _, rfl⟩ := List.mem_map.1 hr; rfl
 have hle : k * 1 + 1 ≤ (l.map ndsD).length * 1 := by simp; omega
 have hst : storeS [flatD (l.map ndsD)] 0 k [.d (.slice (x.map Nd.D))] = some [flatD ((l.set k x).map ndsD)] := by
  have h1 := flat_set (l.map ndsD) k (ndsD x) hs (by simpa using hk)
  have hfl := flatD_len (l.map ndsD) hs
  rw [storeS_cons0, hfl, if_pos (by simpa using hle)]
  rw [List.map_set, ← h1]
  simp [ndsD]
 have hs2 : ∀ r ∈ (l.set k x).map ndsD, r.length = 1 := fun r hr => by obtain ⟨y, _, rfl⟩ := List.mem_map.1 hr; rfl
 have hlen : ((l.set k x).map ndsD).length = l.length := by simp
 have hfz := fun n => frz_flat (σ := [flatD ((l.set k x).map ndsD)]) (id := 0) rfl hs2 n
 rw [hlen] at hfz
 have hfz3 : frzP [flatD ((l.set k x).map ndsD)] 2 (.ms 0 0 l.length 1) = some (.d (.slice ((l.set k x).map ndsD))) := by
  show (frzD _ 2 _).map PV.d = _
  rw [hfz 0]; rfl
 clear hlen hs hs2 hfz hne hle
 generalize (l.set k x).map ndsD = R at hst hfz3 ⊢
 generalize l.map ndsD = L at hc hst ⊢
 generalize flatD R = FR at hst hfz3
 generalize flatD L = FL at hc hst
 generalize x.map Nd.D = X at hst ⊢
 have hkI : (k : Int) < (l.length : Int) := by omega
 try simp at hc
 simp [Tryz.f104, mkF, -loadS, -storeS, cellsOf, hc, hst, hk, hkI, hfz3]
end Go.Proofs

namespace Go.Proofs
open Go.Pv
theorem rd_ne {S : List PV} {i j : Nat} {v : PV} (h : i ≠ j) : rd (S.set i v) j = rd S j := by rw [rd_set, if_neg (fun h' => h h'.1)]
theorem rd_eq {S : List PV} {i : Nat} {v : PV} (h : i < S.length) : rd (S.set i v) i = v := by rw [rd_set, if_pos ⟨rfl, h⟩]
end Go.Proofs

set_option maxRecDepth 100000
set_option maxHeartbeats 8000000
namespace Go.Proofs
open Go.RowKit Go.Shelf Go.Pv
def own0 : Nd := ⟨[], [], ⟨0, 0, 1, 0⟩, []⟩
def nt0 : Nt := ⟨[], gt0⟩
theorem b_ndNew0 (σ : Store) : callIt E1 (evI E1) 56 [.d (.slice [])] σ = some (.tup [own0.P, .d (.int .i64 0)], σ) := by
 have h := b_new [] (by simp) σ
 simp only [List.map_nil] at h
 exact h
theorem b_cloneNd (l : List Nd) (hl : l.length ≤ 1000000) (σ : Store) : callIt E1 (evI E1) 97 [.d (.slice (l.map Nd.D))] σ = some (acc (l.map Nd.D), σ) := by
 have : l.length * 104 ≤ roomB := by simp only [roomB]; omega
 simp [callIt, E1ov, ovAll, isDataL, PV.isData, ovClone, this, acc_data]
def ownIn (l : List Nd) : List Nd := l ++ [own0]
def Yf (l : List (List Nd)) (i : Nat) : PV := if i = 0 then .e0 else acc (((l.take i).map ownIn).map ndsD)
theorem appW (rows xs : List (List DV)) (h : rowsOk 1 rows = true) (h' : rowsOk 1 xs = true) (hb : (rows.length + xs.length) * 24 ≤ roomB) : evAppend Tryz.prog 66 (acc rows) (.d (.slice xs)) = some (acc (rows ++ xs)) := by
 unfold evAppend
 rw [Ty.app66]
 simp only [Option.bind_some, acc_own, elemsOf, h, h', Bool.true_and, hb, decide_true, if_true]
theorem appW0 (xs : List (List DV)) (h' : rowsOk 1 xs = true) (hb : xs.length * 24 ≤ roomB) : evAppend Tryz.prog 66 .e0 (.d (.slice xs)) = some (acc xs) := by
 unfold evAppend
 rw [Ty.app66]
 simp only [Option.bind_some, ownRows, elemsOf, show rowsOk 1 ([] : List (List DV)) = true from rfl, h', Bool.true_and, List.length_nil, Nat.zero_add, hb, decide_true, if_true, List.nil_append]
theorem l_netNew (m : Nat) (l : List (List Nd)) (hl : l.length ≤ 4) (hs : ∀ r ∈ l, r.length ≤ 1000) (b0 b1 : List PV) (c1 c2 c3 c4 v6 : PV) (S : List PV) (hS : S.length = 66) (h6 : rd S 6 = v6) (h11 : rd S 11 = .ptr 2 0)
  (h44 : rd S 44 = .d (.slice (l.map ndsD))) (h45 : rd S 45 = .d (.int .i64 l.length)) (h46 : rd S 46 = .d (.int .i64 0)) (k : Nat) (hk : l.length < k) :
  Lp (loopN (evCode E1 (evI E1) m (theLoop Tryz.f38 0)) k ⟨S, [b0, b1, [.e0, c1, c2, c3, c4]]⟩) fun r => ∃ (J : Store) (S' : List PV), r = (.exit 0, ⟨S', b0 :: b1 :: [Yf l l.length, c1, c2, c3, c4] :: J⟩) ∧ S'.length = 66 ∧ rd S' 6 = v6 ∧ rd S' 11 = .ptr 2 0 := by
 refine loop_inv (fun i st => ∃ (J : Store) (S : List PV), st = ⟨S, b0 :: b1 :: [Yf l i, c1, c2, c3, c4] :: J⟩ ∧ S.length = 66 ∧ rd S 6 = v6 ∧ rd S 11 = .ptr 2 0 ∧ rd S 44 = .d (.slice (l.map ndsD)) ∧ rd S 45 = .d (.int .i64 l.length) ∧ rd S 46 = .d (.int .i64 i)) _ l.length ?_ ?_ k 0 _ (by omega) (by omega) ⟨[], S, rfl, hS, h6, h11, h44, h45, h46⟩
 ·rintro i st hi ⟨J, S, rfl, hS, h6, h11, h44, h45, h46⟩
  have hlt : (i : Int) < (l.length : Int) := by omega
  have hx : (l.map ndsD)[i]? = some (ndsD l[i]) := by simp [hi]
  have hc := fun σ => b_cloneNd l[i] (Nat.le_trans (hs _ (List.getElem_mem hi)) (by omega)) σ
  have hY : Yf l (i + 1) = acc (((l.take i).map ownIn).map ndsD ++ [[.slice (l[i].map Nd.D ++ [own0.D])]]) := by
   unfold Yf
   rw [if_neg (by omega), List.take_add_one, List.getElem?_eq_getElem hi]
   simp only [Option.toList_some, List.map_append, List.map_cons, List.map_nil]
   rw [show ndsD (ownIn l[i]) = [.slice (l[i].map Nd.D ++ [own0.D])] by unfold ndsD ownIn; rw [List.map_append]; rfl]
  have hn := b_ndNew0
  have hro : rowsOk 1 (((l.take i).map ownIn).map ndsD) = true := rowsOk_nds _
  have hrl : (((l.take i).map ownIn).map ndsD).length ≤ 4 := by simp; omega
  have hri : rowsOk 7 (l[i].map Nd.D) = true := rowsOk_Nd _
  have hrn := hs _ (List.getElem_mem hi)
  have hml : (l[i].map Nd.D).length = l[i].length := by simp
  generalize l[i] = r at hx hc hY hri hrn hml
  have ha1 : evAppend Tryz.prog 22 (acc (r.map Nd.D)) (.d (.slice [own0.D])) = some (acc (r.map Nd.D ++ [own0.D])) := appN _ _ hri rfl (by simp [roomB]; omega)
  have ha2 : evAppend Tryz.prog 66 (Yf l i) (.d (.slice [[.slice (r.map Nd.D ++ [own0.D])]])) = some (Yf l (i + 1)) := by
   rw [hY]
   unfold Yf
   by_cases h0 : i = 0
   ·subst h0
    rw [if_pos rfl, appW0 _ rfl (by simp [roomB])]
    rfl
   ·rw [if_neg h0, appW _ _ hro rfl (by simp [roomB]; omega)]
  have hY0 : Yf l i = if i = 0 then .e0 else acc (((l.take i).map ownIn).map ndsD) := rfl
  clear hY hY0 hro hrl
  obtain ⟨A1, hA1⟩ : ∃ A1, Yf l (i + 1) = acc A1 := ⟨_, if_neg (by omega)⟩
  rw [hA1] at ha2 ⊢
  generalize Yf l i = Y0 at ha2 ⊢
  generalize l.map ndsD = L at hx h44 ⊢
  obtain ⟨hi0, hx⟩ := List.getElem?_eq_some_iff.1 hx
  simp only [ndsD] at hx
  generalize r.map Nd.D = R at hx hc hri hml ha1 ha2
  simp only [own0, Nd.D, List.map_nil] at ha1 ha2
  try simp at hn
  simp [own0] at hn
  have hi1 : i + 1 ≠ 0 := by omega
  simp [theLoop, Tryz.f38, loopsAll, Lp_some, and_assoc, -rd, rd_ne, rd_eq, -loadS, -storeS, loadS_cons0, loadS_consS, storeS_cons0, storeS_consS, sfx_load0, sfx_load, sfx_store0, sfx_store, hS, h6, h11, h44, h45, h46, hlt, hi0, hx, hc, hn, ha1, ha2, rowsFrom, cellsOf, wrap_succ i (by omega)]
  done
 ·rintro st ⟨J, S, rfl, hS, h6, h11, h44, h45, h46⟩
  generalize Yf l l.length = Y0
  simp [theLoop, Tryz.f38, loopsAll, Lp_some, and_assoc, -rd, rd_ne, rd_eq, hS, h6, h11, h44, h45, h46]
def Nt.New (l : List (List Nd)) (r : List Rt) (room : Int) : Nt × Int :=
 if (decide ((l.length : Int) < 1) || (decide ((l.length : Int) > 4) || l.any wrongL)) = true then (nt0, 1)
 else if (Gt.New r l.length room).2 ≠ 0 then (nt0, (Gt.New r l.length room).2) else (⟨l.map ownIn, (Gt.New r l.length room).1⟩, 0)
theorem b_netNew (l : List (List Nd)) (r : List Rt) (room : Int) (hs : ∀ x ∈ l, ∀ n ∈ x, n.small) (hr : r.length ≤ 2 ^ 40) (σ : Store) :
  callIt E1 (evI E1) 38 [.d (.slice (l.map ndsD)), .d (.slice (r.map Rt.D)), .d (.int .i64 room)] σ = some (.tup [(Nt.New l r room).1.P, .d (.int .i64 (Nt.New l r room).2)], σ) := by
 refine call_run (fn := Tryz.f38) 5 rfl rfl rfl Tryz.func38 rfl rfl ?_ rfl
 unfold Nt.New
 have hml : (l.map ndsD).length = l.length := by simp
 cases h1 : decide ((l.length : Int) < 1)
 ·cases h2 : decide ((l.length : Int) > 4)
  ·have hl : l.length ≤ 4 := by have := of_decide_eq_false h2; omega
   have hl0 : 1 ≤ l.length := by have := of_decide_eq_false h1; omega
   have c1 := fun σ => b_wrongs l (by omega) hs σ
   cases h3 : l.any wrongL
   ·rw [h3] at c1
    have c2 := fun σ => b_gateNew r l.length room hr σ
    have hrow : ∀ x ∈ l, x.length ≤ 1000 := fun x hx => by
     have := List.any_eq_false.1 h3 x hx
     unfold wrongL at this
     simp at this
     omega
    have hloop := l_netNew 5 l hl hrow
    simp only [Bool.false_or, Bool.or_false, Bool.false_eq_true, if_false]
    generalize Gt.New r l.length room = G at c2 ⊢
    obtain ⟨g, e⟩ := G
    simp only at c2 ⊢
    have hY : Yf l l.length = acc ((l.map ownIn).map ndsD) := by
     unfold Yf
     rw [if_neg (by omega), List.take_length]
    rw [hY] at hloop
    by_cases he : e = 0
    ·subst he
     simp only [ne_eq, not_true, if_false, Nt.P, not_true_eq_false]
     try simp at c1
     try simp at c2
     generalize (l.map ownIn).map ndsD = M at hloop ⊢
     generalize l.map ndsD = L at hml c1 hloop ⊢
     generalize r.map Rt.D = R at c2 ⊢
     simp [Tryz.f38, ec_loop, -loadS, -storeS, loadS_cons0, loadS_consS, storeS_cons0, storeS_consS, hml, h1, h2, c1, c2]
     generalize hLL : loopN _ _ _ = LL
     obtain ⟨r, rfl, J, S, rfl, hS, h6, h11⟩ := at_loop hLL (hloop _ _ _ _ _ _ _ _ rfl rfl rfl rfl rfl rfl 5 (by omega))
     simp at h6
     change rd S 6 = _ at h6
     have h6' := rd_el h6 (by omega)
     simp [-rd, rd_ne, rd_eq, -loadS, -storeS, loadS_cons0, loadS_consS, storeS_cons0, storeS_consS, hS, h6, h6', h11]
    ·have he2 : (e != 0) = true := by simpa using he
     simp only [ne_eq, he, not_false_eq_true, if_true, nt0, gt0, Nt.P, List.map_nil]
     try simp at c1
     try simp at c2
     generalize l.map ndsD = L at hml c1 ⊢
     generalize r.map Rt.D = R at c2 ⊢
     simp [Tryz.f38, -loadS, -storeS, loadS_cons0, loadS_consS, storeS_cons0, storeS_consS, hml, h1, h2, c1, c2, he2]
   ·rw [h3] at c1
    simp only [Bool.false_or, Bool.or_true, if_true, nt0, gt0, Nt.P, List.map_nil]
    generalize l.map ndsD = L at hml c1 ⊢
    simp [Tryz.f38, -loadS, -storeS, loadS_cons0, loadS_consS, storeS_cons0, storeS_consS, hml, h1, h2, c1]
  ·simp only [Bool.false_or, Bool.true_or, if_true, nt0, gt0, Nt.P, List.map_nil]
   generalize l.map ndsD = L at hml ⊢
   simp [Tryz.f38, -loadS, -storeS, loadS_cons0, loadS_consS, storeS_cons0, storeS_consS, hml, h1, h2]
 ·simp only [Bool.true_or, if_true, nt0, gt0, Nt.P, List.map_nil]
  generalize l.map ndsD = L at hml ⊢
  simp [Tryz.f38, -loadS, -storeS, loadS_cons0, loadS_consS, storeS_cons0, storeS_consS, hml, h1]
end Go.Proofs

set_option maxRecDepth 100000
set_option maxHeartbeats 8000000
namespace Go.Proofs
open Go.RowKit Go.Shelf Go.Pv
structure Nt.ok (n : Nt) : Prop where
 bs : n.bs.length ≤ 1000
 rows : ∀ r ∈ n.bs, r.length ≤ 1000
 q : ∀ r ∈ n.bs, ∀ x ∈ r, x.q.length ≤ 1000
def rw_ (l : List (List Nd)) (i : Nat) : List Nd := l.getD i []
theorem rw_get {l : List (List Nd)} {i : Nat} (h : i < l.length) : rw_ l i = l[i] := by simp [rw_, List.getD, h]
theorem nd_at {l : List Nd} {i : Nat} (hi : i < l.length) : nd l i = l[i] := by simp [nd, List.getD, hi]
def Nt.Send (n : Nt) (bus a : Int) (f : Fr) : Nt × Int :=
 if bus < 0 ∨ bus ≥ n.bs.length then (n, 1)
 else if a < 0 ∨ a ≥ ((rw_ n.bs bus.toNat).length : Int) - 1 then (n, 1)
 else ({ n with bs := n.bs.set bus.toNat ((rw_ n.bs bus.toNat).set a.toNat ((nd (rw_ n.bs bus.toNat) a.toNat).Send f).1) }, ((nd (rw_ n.bs bus.toNat) a.toNat).Send f).2)
theorem b_netSend (n : Nt) (h : n.ok) (bus a : Int) (f : Fr) (σ : Store) : callIt E1 (evI E1) 47 [n.P, .d (.int .i64 bus), .d (.int .i64 a), f.P] σ = some (.tup [(n.Send bus a f).1.P, .d (.int .i64 (n.Send bus a f).2)], σ) := by
 refine call_run (fn := Tryz.f47) 5 rfl rfl rfl Tryz.func47 rfl rfl ?_ rfl
 obtain ⟨bs, g⟩ := n
 obtain ⟨hb, hr, hq⟩ := h
 simp only at hb hr hq
 have hml : (bs.map ndsD).length = bs.length := by simp
 unfold Nt.Send
 dsimp only
 by_cases h1 : bus < 0
 ·rw [if_pos (Or.inl h1)]
  simp only [Nt.P]
  generalize bs.map ndsD = L at hml ⊢
  simp [Tryz.f47, -loadS, -storeS, loadS_cons0, loadS_consS, storeS_cons0, storeS_consS, cellsOf, hml, h1]
  done
 ·by_cases h2 : bus ≥ bs.length
  ·rw [if_pos (Or.inr h2)]
   simp only [Nt.P]
   have h2' : (bs.length : Int) ≤ bus := h2
   generalize bs.map ndsD = L at hml ⊢
   simp [Tryz.f47, -loadS, -storeS, loadS_cons0, loadS_consS, storeS_cons0, storeS_consS, cellsOf, hml, h1, h2, h2']
   done
  ·rw [if_neg (by omega)]
   obtain ⟨b, rfl⟩ : ∃ b : Nat, bus = (b : Int) := ⟨bus.toNat, by omega⟩
   have hbl : b < bs.length := by omega
   have h2' : ¬ (bs.length : Int) ≤ (b : Int) := by omega
   have hbI : (b : Int) < (bs.length : Int) := by omega
   rw [Int.toNat_natCast, rw_get hbl]
   have hx : (bs.map ndsD)[b]? = some (ndsD bs[b]) := by simp [hbl]
   have hrl := hr _ (List.getElem_mem hbl)
   have hql := hq _ (List.getElem_mem hbl)
   have c2 := fun r σ => b_withR bs b hbl (by omega) r σ
   generalize bs[b] = row at hx hrl hql ⊢
   have hmr : (row.map Nd.D).length = row.length := by simp
   have hw1 : IntKind.i64.wrap ((row.length : Int) - 1) = (row.length : Int) - 1 := wrap_ok (by omega) (by omega)
   by_cases h3 : a < 0
   ·rw [if_pos (Or.inl h3)]
    simp only [Nt.P]
    generalize bs.map ndsD = L at hml hx ⊢
    obtain ⟨hi0, hx⟩ := List.getElem?_eq_some_iff.1 hx
    simp only [ndsD] at hx
    generalize row.map Nd.D = R at hmr hx
    simp [Tryz.f47, -loadS, -storeS, loadS_cons0, loadS_consS, storeS_cons0, storeS_consS, cellsOf, hml, h1, h2, h2', h3, hbl, hi0, hx, hmr, hw1]
    done
   ·by_cases h4 : a ≥ (row.length : Int) - 1
    ·rw [if_pos (Or.inr h4)]
     simp only [Nt.P]
     have h4' : (row.length : Int) - 1 ≤ a := h4
     generalize bs.map ndsD = L at hml hx ⊢
     obtain ⟨hi0, hx⟩ := List.getElem?_eq_some_iff.1 hx
     simp only [ndsD] at hx
     generalize row.map Nd.D = R at hmr hx
     simp [Tryz.f47, -loadS, -storeS, loadS_cons0, loadS_consS, storeS_cons0, storeS_consS, cellsOf, hml, h1, h2, h2', h3, h4, h4', hbl, hi0, hx, hmr, hw1]
     done
    ·rw [if_neg (by omega)]
     obtain ⟨a, rfl⟩ : ∃ b : Nat, a = (b : Int) := ⟨a.toNat, by omega⟩
     have hal : a < row.length := by omega
     have h4' : ¬ (row.length : Int) - 1 ≤ (a : Int) := by omega
     rw [Int.toNat_natCast, nd_at hal]
     have hy : (row.map Nd.D)[a]? = some (Nd.D row[a]) := by simp [hal]
     have c1 := fun σ => b_Send row[a] f (Nat.le_trans (hql _ (List.getElem_mem hal)) (by omega)) σ
     have c3 := fun x σ => b_withN row a hal (by omega) x σ
     generalize row[a] = x at hy c1 ⊢
     generalize x.Send f = R at c1 ⊢
     obtain ⟨x', e⟩ := R
     simp only at c1 ⊢
     have c4 := c2 (row.set a x')
     have c5 := c3 x'
     clear c2 c3
     simp only [Nt.P]
     generalize (bs.set b (row.set a x')).map ndsD = L2 at c4 ⊢
     generalize (row.set a x').map Nd.D = R2 at c4 c5
     generalize bs.map ndsD = L at hml hx c4 ⊢
     obtain ⟨hi0, hx⟩ := List.getElem?_eq_some_iff.1 hx
     simp only [ndsD] at hx
     generalize row.map Nd.D = R at hmr hx hy c5
     obtain ⟨hi1, hy⟩ := List.getElem?_eq_some_iff.1 hy
     simp only [Nd.D] at hy
     try simp at c1
     try simp at c4
     try simp at c5
     simp [Tryz.f47, -loadS, -storeS, loadS_cons0, loadS_consS, storeS_cons0, storeS_consS, cellsOf, hml, h1, h2, h2', h3, h4, h4', hbl, hi0, hx, hmr, hw1, hi1, hal, hy, c1, c4, c5]
     done
end Go.Proofs

set_option maxRecDepth 100000
set_option maxHeartbeats 8000000
namespace Go.Proofs
open Go.RowKit Go.Shelf Go.Pv
def Nd.busy (x : Nd) : Bool := decide (0 < x.q.length)
theorem b_busy (x : Nd) (σ : Store) : callIt E1 (evI E1) 105 [x.P] σ = some (.d (.bool x.busy), σ) := by
 refine call_run (fn := Tryz.f105) 5 rfl rfl rfl Tryz.func105 rfl rfl ?_ rfl
 obtain ⟨q, fs, ⟨t, r, s, z⟩, g⟩ := x
 unfold Nd.busy
 simp only [Nd.P]
 have hml : (q.map Fr.D).length = q.length := by simp
 have h1 : decide ((0 : Int) < (q.length : Int)) = decide (0 < q.length) := by simp
 generalize q.map Fr.D = Q at hml ⊢
 simp [Tryz.f105, -loadS, -storeS, loadS_cons0, loadS_consS, storeS_cons0, storeS_consS, cellsOf, hml, h1]
def busyR (l : List Nd) : Bool := l.any Nd.busy
theorem b_busyR (l : List Nd) (hl : l.length ≤ 1000000) (σ : Store) (i : Nat) (h : σ[i]? = some [.func (.func 105) [] []]) : callIt E1 (evI E1) 106 [.d (.slice (l.map Nd.D)), .ptr i 0] σ = some (.d (.bool (busyR l)), σ) := by
 refine call_np (σ' := σ) rfl rfl rfl ?_ rfl rfl (by simp)
 have h1 := b_containsNd 105 [] Nd.busy l hl σ (fun x _ => b_busy x σ)
 unfold busyR
 generalize l.map Nd.D = L at h1 ⊢
 refine evI_run (fn := Tryz.f106) 5 rfl Tryz.func106 rfl ?_
 simp [Tryz.f106, loadS, h, h1]
def Nt.Still (n : Nt) : Bool := (waitsL n.g.out == 0) && !(n.bs.any busyR)
theorem b_netStill (n : Nt) (h : n.ok) (hg : n.g.out.length ≤ 1000) (hgr : ∀ r ∈ n.g.out, r.length ≤ 100000) (σ : Store) : callIt E1 (evI E1) 40 [n.P] σ = some (.d (.bool n.Still), σ) := by
 refine call_run (fn := Tryz.f40) 5 rfl rfl rfl Tryz.func40 rfl rfl ?_ rfl
 obtain ⟨bs, g⟩ := n
 obtain ⟨hb, hr, hq⟩ := h
 simp only at hb hr hq hg hgr
 have c1 := fun σ => b_waits g hg hgr σ
 unfold Nt.Still
 dsimp only
 have c2 := fun (b0 : List PV) => b_containsRw 106 [.ptr 1 0] (fun r => busyR r.l) (bs.map Rw.mk) (by simp; omega) [b0, [.func (.func 105) [] []]] (fun r hr' => by
  obtain ⟨x, hx, rfl⟩ := List.mem_map.1 hr'
  exact b_busyR x (Nat.le_trans (hr x hx) (by omega)) _ 1 rfl)
 rw [rw_map] at c2
 have hany : (bs.map Rw.mk).any (fun r => busyR r.l) = bs.any busyR := by simp [Function.comp_def]
 rw [hany] at c2
 obtain ⟨rs, cap, out, lost⟩ := g
 simp only [Gt.P] at c1
 simp only [Nt.P]
 generalize bs.any busyR = z at c2 ⊢
 generalize bs.map ndsD = L at c2 ⊢
 generalize rs.map Rt.D = R at c1 ⊢
 generalize out.map frsD = O at c1 ⊢
 generalize lost.map intD = LO at c1 ⊢
 try simp at c1
 cases hw : (waitsL out == 0)
 ·simp [Tryz.f40, -loadS, -storeS, loadS_cons0, loadS_consS, storeS_cons0, storeS_consS, cellsOf, c1, hw]
 ·simp [Tryz.f40, -loadS, -storeS, loadS_cons0, loadS_consS, storeS_cons0, storeS_consS, cellsOf, c1, c2, hw]
end Go.Proofs

set_option maxRecDepth 100000
set_option maxHeartbeats 8000000
namespace Go.Proofs
open Go.RowKit Go.Shelf Go.Pv
def Rt.hop (k : Int) (f : Fr) (r : Rt) : Option Hp := if r.a = k ∧ r.f.takes f = true then some ⟨r.b, if r.n = -1 then f else { f with id := r.n }⟩ else none
def hopsL (l : List Rt) (k : Int) (f : Fr) : List Hp := l.filterMap (Rt.hop k f)
theorem hopsL_succ (l : List Rt) (k : Int) (f : Fr) {i : Nat} (hi : i < l.length) : hopsL (l.take (i + 1)) k f = hopsL (l.take i) k f ++ (l[i].hop k f).toList := by
 unfold hopsL
 rw [List.take_add_one, List.getElem?_eq_getElem hi, List.filterMap_append]
 congr 1
theorem hopsL_len (l : List Rt) (k : Int) (f : Fr) : (hopsL l k f).length ≤ l.length := List.length_filterMap_le _ _
theorem appHp (A : List Hp) (h : Hp) (hA : A.length ≤ 100000) : evAppend Tryz.prog 98 (acc (A.map Hp.D)) (.d (.slice [h.D])) = some (acc ((A ++ [h]).map Hp.D)) := by
 unfold evAppend
 rw [Ty.app98]
 have h2 : (A.length + 1) * 64 ≤ roomB := by simp [roomB]; omega
 simp only [Option.bind_some, acc_own, elemsOf, rowsOk_Hp, show rowsOk 6 [h.D] = true from rfl, Bool.true_and, List.length_map, List.length_singleton, h2, decide_true, if_true, List.map_append, List.map_cons, List.map_nil]
theorem l_hops (m : Nat) (l : List Rt) (k : Int) (f : Fr) (hl : l.length ≤ 1000) (J0 : Store) (S : List PV) (hS : S.length = 44) (h1 : rd S 1 = .d (.int .i64 k)) (h5 : rd S 5 = .ptr 0 0) (h7 : rd S 7 = acc []) (h11 : rd S 11 = .d (.slice (l.map Rt.D))) (h12 : rd S 12 = .d (.int .i64 l.length)) (h13 : rd S 13 = .d (.int .i64 0)) (n : Nat) (hn : l.length < n) :
  Lp (loopN (evCode E1 (evI E1) m (theLoop Tryz.f90 0)) n ⟨S, cellsOf f.P :: J0⟩) fun r => ∃ (J : Store) (S' : List PV), r = (.exit 0, ⟨S', cellsOf f.P :: J⟩) ∧ S'.length = 44 ∧ rd S' 7 = acc ((hopsL l k f).map Hp.D) := by
 refine loop_inv (fun i st => ∃ (J : Store) (S : List PV), st = ⟨S, cellsOf f.P :: J⟩ ∧ S.length = 44 ∧ rd S 1 = .d (.int .i64 k) ∧ rd S 5 = .ptr 0 0 ∧ rd S 7 = acc ((hopsL (l.take i) k f).map Hp.D) ∧ rd S 11 = .d (.slice (l.map Rt.D)) ∧ rd S 12 = .d (.int .i64 l.length) ∧ rd S 13 = .d (.int .i64 i)) _ l.length ?_ ?_ n 0 _ (by omega) (by omega) ⟨J0, S, rfl, hS, h1, h5, h7, h11, h12, h13⟩
 ·rintro i st hi ⟨J, S, rfl, hS, h1, h5, h7, h11, h12, h13⟩
  have hlt : (i : Int) < (l.length : Int) := by omega
  have htk := hopsL_succ l k f hi
  have hA : (hopsL (l.take i) k f).length ≤ 1000 := Nat.le_trans (hopsL_len _ _ _) (by simp; omega)
  have c1 := fun σ => b_takes l[i].f f σ
  have hx : (l.map Rt.D)[i]? = some (l[i]).D := by simp [hi]
  generalize hopsL (l.take (i + 1)) k f = A1 at htk ⊢
  generalize hopsL (l.take i) k f = A0 at htk hA h7
  generalize l[i] = r at htk c1 hx
  have ha := fun h => appHp A0 h (by omega)
  unfold Rt.hop at htk
  generalize r.f.takes f = tk at htk c1
  generalize l.map Rt.D = L at hx h11 ⊢
  obtain ⟨hi0, hx⟩ := List.getElem?_eq_some_iff.1 hx
  obtain ⟨a, b, ⟨e, mask, mt⟩, nn⟩ := r
  obtain ⟨fe, fid, frm, fln, fdata⟩ := f
  simp only [Rt.D] at hx htk c1
  try simp at c1
  have hw := wrap_succ i (by omega)
  by_cases hak : a = k
  ·have hb : (a != k) = false := by simpa using hak
   cases tk
   ·simp at htk
    subst htk
    simp [theLoop, Tryz.f90, loopsAll, Lp_some, and_assoc, -rd, rd_set, -loadS, -storeS, sfx_load0, sfx_load, sfx_store0, sfx_store, loadS_cons0, loadS_consS, storeS_cons0, storeS_consS, cellsOf, hS, h1, h5, h7, h11, h12, h13, hlt, hi0, hx, hb, c1, hw]
    done
   ·by_cases hn1 : nn = -1
    ·have hb2 : (nn != -1) = false := by simpa using hn1
     simp only [hak, hn1, and_self, if_true, Option.toList_some] at htk
     have ha1 := ha ⟨b, ⟨fe, fid, frm, fln, fdata⟩⟩
     rw [← htk] at ha1
     simp only [Hp.D] at ha1
     clear htk ha
     generalize A1.map Hp.D = B1 at ha1 ⊢
     generalize A0.map Hp.D = B0 at ha1 h7
     simp [theLoop, Tryz.f90, loopsAll, Lp_some, and_assoc, -rd, rd_set, -loadS, -storeS, sfx_load0, sfx_load, sfx_store0, sfx_store, loadS_cons0, loadS_consS, storeS_cons0, storeS_consS, cellsOf, hS, h1, h5, h7, h11, h12, h13, hlt, hi0, hx, hb, hb2, c1, hw, rowsFrom, ha1]
     done
    ·have hb2 : (nn != -1) = true := by simpa using hn1
     simp only [hak, hn1, and_self, if_true, if_false, Option.toList_some] at htk
     have ha1 := ha ⟨b, ⟨fe, nn, frm, fln, fdata⟩⟩
     rw [← htk] at ha1
     simp only [Hp.D] at ha1
     clear htk ha
     generalize A1.map Hp.D = B1 at ha1 ⊢
     generalize A0.map Hp.D = B0 at ha1 h7
     simp [theLoop, Tryz.f90, loopsAll, Lp_some, and_assoc, -rd, rd_set, -loadS, -storeS, sfx_load0, sfx_load, sfx_store0, sfx_store, loadS_cons0, loadS_consS, storeS_cons0, storeS_consS, cellsOf, hS, h1, h5, h7, h11, h12, h13, hlt, hi0, hx, hb, hb2, c1, hw, rowsFrom, ha1]
     done
  ·have hb : (a != k) = true := by simpa using hak
   simp [hak] at htk
   subst htk
   simp [theLoop, Tryz.f90, loopsAll, Lp_some, and_assoc, -rd, rd_set, -loadS, -storeS, sfx_load0, sfx_load, sfx_store0, sfx_store, loadS_cons0, loadS_consS, storeS_cons0, storeS_consS, cellsOf, hS, h1, h5, h7, h11, h12, h13, hlt, hi0, hx, hb, hw]
   done
 ·rintro st ⟨J, S, rfl, hS, h1, h5, h7, h11, h12, h13⟩
  rw [List.take_length] at h7
  generalize hopsL l k f = A at h7 ⊢
  simp [theLoop, Tryz.f90, loopsAll, Lp_some, and_assoc, -rd, rd_set, hS, h1, h5, h7, h11, h12, h13]
theorem b_hops (l : List Rt) (k : Int) (f : Fr) (hl : l.length ≤ 1000) (σ : Store) : callIt E1 (evI E1) 90 [.d (.slice (l.map Rt.D)), .d (.int .i64 k), f.P] σ = some (.d (.slice ((hopsL l k f).map Hp.D)), σ) := by
 refine call_run (fn := Tryz.f90) 1001 rfl rfl rfl Tryz.func90 rfl rfl ?_ rfl
 have hml : (l.map Rt.D).length = l.length := by simp
 have hloop := l_hops 1001 l k f hl
 generalize hopsL l k f = A at hloop ⊢
 generalize l.map Rt.D = L at hml hloop ⊢
 simp only [cellsOf, Fr.P] at hloop
 simp [Tryz.f90, ec_loop, -loadS, -storeS, loadS_cons0, loadS_consS, storeS_cons0, storeS_consS, cellsOf, hml]
 generalize hLL : loopN _ _ _ = LL
 obtain ⟨r, rfl, J, S, rfl, hS, h7⟩ := at_loop hLL (hloop _ _ rfl rfl rfl rfl rfl rfl rfl 1001 (by omega))
 generalize A.map Hp.D = B at h7 ⊢
 simp [-rd, rd_set, hS, h7]
end Go.Proofs

set_option maxRecDepth 100000
set_option maxHeartbeats 8000000
namespace Go.Proofs
open Go.RowKit Go.Shelf Go.Pv
def hAtL (l : List Int) (k : Int) : Int := l.getD k.toNat 0
def Gt.put (g : Gt) (h : Hp) : Gt := if ((g.row h.b).length : Int) < g.cap then { g with out := g.out.set h.b.toNat (g.row h.b ++ [h.f]) } else { g with lost := g.lost.set h.b.toNat (IntKind.i64.wrap (hAtL g.lost h.b + 1)) }
def Gt.In (g : Gt) (k : Int) (f : Fr) : Gt := (hopsL g.rs k f).foldl Gt.put g
structure Gt.ok (g : Gt) : Prop where
 rs : g.rs.length ≤ 16
 lo : g.lost.length = g.out.length
 n : g.out.length ≤ 4
 b : ∀ r ∈ g.rs, 0 ≤ r.b ∧ r.b < (g.out.length : Int)
 cap : g.cap ≤ 64
 row : ∀ r ∈ g.out, r.length ≤ 64
def RowsJ (J : Store) (p : PV) (rows : List (List Fr)) : Prop := p = .d (.slice (rows.map frsD)) ∨ ∃ j, p = .ms (j + 3) 0 rows.length 1 ∧ J[j]? = some (rows.map rowP)
def IntsJ (J : Store) (p : PV) (l : List Int) : Prop := p = .d (.slice (l.map intD)) ∨ ∃ j, p = .ms (j + 3) 0 l.length 1 ∧ J[j]? = some (l.map intP1)
theorem RowsJ.at {J : Store} {a b c : List PV} {p : PV} {rows : List (List Fr)} (h : RowsJ J p rows) : RowsAt (a :: b :: c :: J) p rows := by
 rcases h with h | ⟨j, h1, h2⟩
 ·exact .inl h
 ·exact .inr ⟨j + 3, h1, h2⟩
theorem IntsJ.at {J : Store} {a b c : List PV} {p : PV} {l : List Int} (h : IntsJ J p l) : IntsAt (a :: b :: c :: J) p l := by
 rcases h with h | ⟨j, h1, h2⟩
 ·exact .inl h
 ·exact .inr ⟨j + 3, h1, h2⟩
theorem RowsJ.app {J T : Store} {p : PV} {rows : List (List Fr)} (h : RowsJ J p rows) : RowsJ (J ++ T) p rows := by
 rcases h with h | ⟨j, h1, h2⟩
 ·exact .inl h
 ·exact .inr ⟨j, h1, pre_get h2⟩
theorem IntsJ.app {J T : Store} {p : PV} {l : List Int} (h : IntsJ J p l) : IntsJ (J ++ T) p l := by
 rcases h with h | ⟨j, h1, h2⟩
 ·exact .inl h
 ·exact .inr ⟨j, h1, pre_get h2⟩
theorem RowsJ.cell {J : Store} {p : PV} {rows : List (List Fr)} (h : RowsJ J p rows) : oneP p = true ∧ p.strip1 = p ∧ p.strip = p ∧ p.keep0 = p := by
 rcases h with rfl | ⟨j, rfl, _⟩ <;> exact ⟨rfl, rfl, rfl, rfl⟩
theorem IntsJ.cell {J : Store} {p : PV} {l : List Int} (h : IntsJ J p l) : oneP p = true ∧ p.strip1 = p ∧ p.strip = p ∧ p.keep0 = p := by
 rcases h with rfl | ⟨j, rfl, _⟩ <;> exact ⟨rfl, rfl, rfl, rfl⟩
theorem put_ok {g : Gt} (hg : g.ok) {h : Hp} (hb : 0 ≤ h.b ∧ h.b < (g.out.length : Int)) : (g.put h).ok ∧ (g.put h).out.length = g.out.length ∧ (g.put h).rs = g.rs ∧ (g.put h).cap = g.cap := by
 unfold Gt.put
 split
 ·rename_i hlt
  refine ⟨⟨hg.rs, by simpa using hg.lo, by simpa using hg.n, by simpa using hg.b, hg.cap, fun r hr => ?_⟩, by simp, rfl, rfl⟩
  rcases List.mem_or_eq_of_mem_set hr with hr | rfl
  ·exact hg.row r hr
  ·have := hg.cap
   simp
   omega
 ·exact ⟨⟨hg.rs, by simpa using hg.lo, hg.n, hg.b, hg.cap, hg.row⟩, rfl, rfl, rfl⟩
theorem puts_ok {g : Gt} : ∀ (l : List Hp), g.ok → (∀ h ∈ l, 0 ≤ h.b ∧ h.b < (g.out.length : Int)) → (l.foldl Gt.put g).ok ∧ (l.foldl Gt.put g).out.length = g.out.length ∧ (l.foldl Gt.put g).rs = g.rs ∧ (l.foldl Gt.put g).cap = g.cap := by
 intro l
 induction l generalizing g with
 | nil => intro hg _; exact ⟨hg, rfl, rfl, rfl⟩
 | cons h l ih =>
  intro hg hl
  obtain ⟨a1, a2, a3, a4⟩ := put_ok hg (hl h (by simp))
  obtain ⟨b1, b2, b3, b4⟩ := ih a1 (fun x hx => by rw [a2]; exact hl x (by simp [hx]))
  exact ⟨b1, b2.trans a2, b3.trans a3, b4.trans a4⟩
theorem puts_take (g : Gt) (l : List Hp) {i : Nat} (hi : i < l.length) : (l.take (i + 1)).foldl Gt.put g = ((l.take i).foldl Gt.put g).put l[i] := by
 rw [List.take_add_one, List.getElem?_eq_getElem hi, List.foldl_append]; rfl
theorem l_gin (m : Nat) (g : Gt) (hg : g.ok) (l : List Hp) (hl : l.length ≤ 16) (hb : ∀ h ∈ l, 0 ≤ h.b ∧ h.b < (g.out.length : Int)) (B1 B2 : List PV) (S : List PV) (hS : S.length = 48) (h3 : rd S 3 = .ptr 0 0) (h6 : rd S 6 = .ptr 2 0) (h13 : rd S 13 = .d (.slice (l.map Hp.D))) (h14 : rd S 14 = .d (.int .i64 l.length)) (h15 : rd S 15 = .d (.int .i64 0)) (k : Nat) (hk : l.length < k) :
  Lp (loopN (evCode (E2 101) (evI E1) m (theLoop Tryz.f101 0)) k ⟨S, [cellsOf g.P, B1, B2]⟩) fun r => ∃ (outP lostP : PV) (J : Store) (S' : List PV), r = (.exit 0, ⟨S', [.d (.slice (g.rs.map Rt.D)), .d (.int .i64 g.cap), outP, lostP] :: B1 :: B2 :: J⟩) ∧ S'.length = 48 ∧ rd S' 3 = .ptr 0 0 ∧ rd S' 6 = .ptr 2 0 ∧ RowsJ J outP (l.foldl Gt.put g).out ∧ IntsJ J lostP (l.foldl Gt.put g).lost := by
 refine loop_inv (fun i st => ∃ (outP lostP : PV) (J : Store) (S : List PV), st = ⟨S, [.d (.slice (g.rs.map Rt.D)), .d (.int .i64 g.cap), outP, lostP] :: B1 :: B2 :: J⟩ ∧ S.length = 48 ∧ rd S 3 = .ptr 0 0 ∧ rd S 6 = .ptr 2 0 ∧ rd S 13 = .d (.slice (l.map Hp.D)) ∧ rd S 14 = .d (.int .i64 l.length) ∧ rd S 15 = .d (.int .i64 i) ∧ RowsJ J outP ((l.take i).foldl Gt.put g).out ∧ IntsJ J lostP ((l.take i).foldl Gt.put g).lost) _ l.length ?_ ?_ k 0 _ (by omega) (by omega) ⟨_, _, [], S, rfl, hS, h3, h6, h13, h14, h15, .inl rfl, .inl rfl⟩
 ·rintro i st hi ⟨outP, lostP, J, S, rfl, hS, h3, h6, h13, h14, h15, hout, hlost⟩
  have hlt : (i : Int) < (l.length : Int) := by omega
  have htk := puts_take g l hi
  obtain ⟨p1, p2, p3, p4⟩ := puts_ok (l.take i) hg (fun h hh => hb h (List.mem_of_mem_take hh))
  have hbi := hb _ (List.getElem_mem hi)
  have hx : (l.map Hp.D)[i]? = some (l[i]).D := by simp [hi]
  rw [htk]
  clear htk
  generalize (l.take i).foldl Gt.put g = gi at p1 p2 p3 p4 hout hlost ⊢
  rw [← p2] at hbi
  generalize l[i] = h at hx hbi ⊢
  obtain ⟨b, ⟨e, id, rm, ln, data⟩⟩ := h
  simp only at hbi
  have hb0 : 0 ≤ b := hbi.1
  have hbn : b.toNat < gi.out.length := by omega
  have hrow : gi.row b = gi.out[b.toNat] := by simp [Gt.row, hbn, List.getD]
  have hrl := p1.row _ (List.getElem_mem hbn)
  generalize l.map Hp.D = L at hx h13 ⊢
  obtain ⟨hi0, hx⟩ := List.getElem?_eq_some_iff.1 hx
  simp only [Hp.D] at hx
  obtain ⟨lc1, lc2, lc3, lc4⟩ := hlost.cell
  obtain ⟨oc1, oc2, oc3, oc4⟩ := hout.cell
  have hw := wrap_succ i (by omega)
  have hx1 : (gi.out.map frsD)[b.toNat]? = some (frsD gi.out[b.toNat]) := by simp [hbn]
  have hy1 : (gi.out.map rowP)[b.toNat]? = some (rowP gi.out[b.toNat]) := by simp [hbn]
  by_cases hroom : (gi.out[b.toNat].length : Int) < g.cap
  ·have hput : gi.put ⟨b, (Fr.mk e id rm ln data)⟩ = { gi with out := gi.out.set b.toNat (gi.out[b.toNat] ++ [Fr.mk e id rm ln data]) } := by
    unfold Gt.put
    rw [hrow, p4, if_pos hroom]
   rw [hput]
   simp only
   clear hput
   obtain ⟨X, c1, c2⟩ := c_changed (σ := [.d (.slice (g.rs.map Rt.D)), .d (.int .i64 g.cap), outP, lostP] :: B1 :: B2 :: (J ++ [cellsOf (Hp.P ⟨b, (Fr.mk e id rm ln data)⟩)])) (rows := gi.out) (by have := p1.n; omega) hbn (row' := gi.out[b.toNat] ++ [Fr.mk e id rm ln data]) (c := 155) (caps := [.ptr (J.length + 3) 0]) rfl
    (fun Y => by
     refine s_in1 gi.out[b.toNat] ⟨b, (Fr.mk e id rm ln data)⟩ (by omega) (pre_get ?_)
     show (J ++ [cellsOf (Hp.P ⟨b, (Fr.mk e id rm ln data)⟩)])[J.length]? = _
     simp) (hout.app.at) (g0 := .d (.slice (g.rs.map Rt.D))) (g1 := .d (.int .i64 g.cap)) (g3 := lostP) rfl rfl lc1 rfl rfl lc2 rfl rfl lc4
   have hnl : (gi.out.set b.toNat (gi.out[b.toNat] ++ [Fr.mk e id rm ln data])).length = gi.out.length := by simp
   rw [Int.toNat_of_nonneg hb0] at c1
   simp only [cellsOf, Hp.P, List.length_cons, List.length_append, List.length_nil] at c1
   generalize gi.out.set b.toNat (gi.out[b.toNat] ++ [Fr.mk e id rm ln data]) = out' at c2 hnl ⊢
   have hlen : gi.out[b.toNat].length = (gi.out[b.toNat].map Fr.D).length := by simp
   generalize gi.out[b.toNat] = row at hx1 hy1 hroom hrl hlen c1
   have hfin : ∀ h : List PV, RowsJ (J ++ h :: X) (.ms (J.length + 6) 0 gi.out.length 1) out' := fun h => .inr ⟨J.length + 3, by rw [hnl], by
    rw [List.getElem?_append_right (by omega), show J.length + 3 - J.length = 2 + 1 by omega, List.getElem?_cons_succ]
    exact c2⟩
   have hfin2 : ∀ h : List PV, IntsJ (J ++ h :: X) lostP gi.lost := fun h => hlost.app
   generalize gi.lost = lo at hlost hfin2 ⊢
   have hno := p1.n
   clear p1 p2 p3 p4 hrow hb hg hl
   rcases hout with rfl | ⟨j, rfl, hj⟩
   ·generalize gi.out.map frsD = O at hx1 c1 ⊢
    obtain ⟨hi1, hx1⟩ := List.getElem?_eq_some_iff.1 hx1
    simp only [frsD] at hx1
    try simp at c1
    simp [theLoop, Tryz.f101, mkF, loopsAll, Lp_some, and_assoc, -rd, rd_set, -loadS, -storeS, sfx_load0, sfx_load, sfx_store0, sfx_store, loadS_cons0, loadS_consS, storeS_cons0, storeS_consS, hS, h3, h6, h13, h14, h15, hlt, hi0, hx, hw, hb0, hi1, hx1, hroom, lc1, lc2, lc3, lc4, c1]
    exact ⟨hfin _, hfin2 _⟩
   ·have hld := fun T => loadS_one (pre_get (T := T) hj) hy1
    simp only [rowP] at hld
    try simp at c1
    simp [theLoop, Tryz.f101, mkF, loopsAll, Lp_some, and_assoc, -rd, rd_set, -loadS, -storeS, sfx_load0, sfx_load, sfx_store0, sfx_store, loadS_cons0, loadS_consS, storeS_cons0, storeS_consS, hS, h3, h6, h13, h14, h15, hlt, hi0, hx, hw, hb0, hbn, hbi.2, hld, hroom, lc1, lc2, lc3, lc4, c1]
    exact ⟨hfin _, hfin2 _⟩
  ·have hput : gi.put ⟨b, (Fr.mk e id rm ln data)⟩ = { gi with lost := gi.lost.set b.toNat (IntKind.i64.wrap (hAtL gi.lost b + 1)) } := by
    unfold Gt.put
    rw [hrow, p4, if_neg hroom]
   rw [hput]
   simp only
   clear hput
   have hlb : b.toNat < gi.lost.length := by rw [p1.lo]; exact hbn
   have hll : gi.lost.length ≤ 4 := by rw [p1.lo]; exact p1.n
   have hat : hAtL gi.lost b = gi.lost[b.toNat] := by simp [hAtL, List.getD, hlb]
   rw [hat]
   have hne : gi.lost ≠ [] := by intro h; rw [h] at hlb; simp at hlb
   have hfin : ∀ h : List PV, RowsJ (J ++ [h, (gi.lost.set b.toNat (IntKind.i64.wrap (gi.lost[b.toNat] + 1))).map intP1]) outP gi.out := fun h => hout.app
   have hfin2 : ∀ h : List PV, IntsJ (J ++ [h, (gi.lost.set b.toNat (IntKind.i64.wrap (gi.lost[b.toNat] + 1))).map intP1]) (.ms (J.length + 4) 0 gi.lost.length 1) (gi.lost.set b.toNat (IntKind.i64.wrap (gi.lost[b.toNat] + 1))) := fun h => .inr ⟨J.length + 1, by simp, by rw [List.getElem?_append_right (by omega), Nat.add_sub_cancel_left]; rfl⟩
   have hfl : ∀ l : List Int, flatD (l.map intD) = l.map intP1 := by
    intro l
    induction l with
    | nil => rfl
    | cons x xs ih => simp only [List.map_cons, flatD, ih]; rfl
   have hmk : ∀ (b0 b1 b2 h : List PV), mkApp Tryz.prog 39 (b0 :: b1 :: b2 :: (J ++ [h])) .e0 lostP = some (.ms (J.length + 4) 0 gi.lost.length 1, b0 :: b1 :: b2 :: (J ++ [h, gi.lost.map intP1])) := by
    intro b0 b1 b2 h
    rcases hlost with rfl | ⟨j, rfl, hj⟩
    ·have he : (gi.lost.map intD).isEmpty = false := by cases hq : gi.lost with
      | nil => exact absurd hq hne
      | cons x xs => rfl
     have hro : gi.lost.length * 8 ≤ roomB := by simp [roomB]; omega
     simp only [mkApp, Ty.app39, ownRows, elemsOf, rowsOk_int, List.length_map, hro, he, hfl, Option.bind_some, List.isEmpty_nil, Bool.true_and, decide_true, if_true, Bool.false_eq_true, if_false, List.length_cons, List.length_append, List.length_nil, List.cons_append, List.append_assoc, List.nil_append]
    ·have hld : loadS (b0 :: b1 :: b2 :: (J ++ [h])) (j + 3) 0 (gi.lost.length * 1) = some (gi.lost.map intP1) := by
      rw [loadS_consS, loadS_consS, loadS_consS]
      unfold loadS
      rw [pre_get hj]
      simp only [Option.bind_some, List.length_map, Nat.zero_add, Nat.mul_one, Nat.le_refl, if_true, List.drop_zero]
      rw [List.take_of_length_le (by simp)]
     have hst : (gi.lost.map intP1).map PV.strip1 = gi.lost.map intP1 := by simp [intP1, PV.strip1, Function.comp_def]
     have hal : (gi.lost.map intP1).all oneP = true := by simp [intP1, oneP]
     have hro : gi.lost.length * 8 ≤ roomB := by simp [roomB]; omega
     have hpos : 0 < gi.lost.length := by omega
     simp only [mkApp, Ty.app39, ownRows, hld, hst, hal, hro, hpos, Option.bind_some, List.isEmpty_nil, Bool.true_and, Bool.and_self, decide_true, if_true, List.length_cons, List.length_append, List.length_nil, List.cons_append, List.append_assoc, List.nil_append]
   have hdt : ((gi.lost.map intP1).drop b.toNat).take 1 = [.d (.int .i64 gi.lost[b.toNat])] := by
    rw [List.drop_eq_getElem_cons (by simpa using hlb)]
    simp [intP1]
   have hts : ∀ x : Int, (gi.lost.map intP1).take b.toNat ++ PV.d (.int .i64 x) :: (gi.lost.map intP1).drop (b.toNat + 1) = (gi.lost.set b.toNat x).map intP1 := by
    intro x
    rw [List.map_set, List.set_eq_take_append_cons_drop, if_pos (by simpa using hlb)]
    rfl
   have hLl : (gi.lost.map intP1).length = gi.lost.length := by simp
   have hts1 := hts (IntKind.i64.wrap (gi.lost[b.toNat] + 1))
   have hlen : gi.out[b.toNat].length = (gi.out[b.toNat].map Fr.D).length := by simp
   generalize gi.out[b.toNat] = row at hx1 hy1 hroom hrl hlen
   generalize (gi.lost.set b.toNat (IntKind.i64.wrap (gi.lost[b.toNat] + 1))).map intP1 = LP' at hts1 hfin hfin2
   generalize gi.lost.map intP1 = LP at hmk hdt hts1 hLl
   clear hat hne hlost hts
   generalize gi.lost[b.toNat] = lb at hdt hts1 hfin2 ⊢
   generalize gi.lost.set b.toNat (IntKind.i64.wrap (lb + 1)) = lo' at hfin2 ⊢
   generalize gi.lost.length = ll at hmk hfin2 hlb hLl hll
   have hlb1 : b.toNat + 1 ≤ ll := hlb
   have hblI : b < (ll : Int) := by omega
   clear p1 p2 p3 p4 hrow hb hg hl hfl
   rcases hout with rfl | ⟨j, rfl, hj⟩
   ·generalize gi.out.map frsD = O at hx1 hfin ⊢
    obtain ⟨hi1, hx1⟩ := List.getElem?_eq_some_iff.1 hx1
    simp only [frsD] at hx1
    simp [theLoop, Tryz.f101, mkF, evMkApp, hmk, hdt, hts1, hLl, hlb, hlb1, hblI, hbi.2, loopsAll, Lp_some, and_assoc, -rd, rd_set, -loadS, -storeS, sfx_load0, sfx_load, sfx_store0, sfx_store, loadS_cons0, loadS_consS, storeS_cons0, storeS_consS, hS, h3, h6, h13, h14, h15, hlt, hi0, hx, hw, hb0, hi1, hx1, hroom, lc1, lc2, lc3, lc4]
    exact ⟨hfin _, hfin2 _⟩
   ·have hld := fun T => loadS_one (pre_get (T := T) hj) hy1
    simp only [rowP] at hld
    simp [theLoop, Tryz.f101, mkF, evMkApp, hmk, hdt, hts1, hLl, hlb, hlb1, hblI, hbi.2, loopsAll, Lp_some, and_assoc, -rd, rd_set, -loadS, -storeS, sfx_load0, sfx_load, sfx_store0, sfx_store, loadS_cons0, loadS_consS, storeS_cons0, storeS_consS, hS, h3, h6, h13, h14, h15, hlt, hi0, hx, hw, hb0, hbn, hbi.2, hld, hroom, lc1, lc2, lc3, lc4]
    exact ⟨hfin _, hfin2 _⟩
 ·rintro st ⟨outP, lostP, J, S, rfl, hS, h3, h6, h13, h14, h15, hout, hlost⟩
  rw [List.take_length] at hout hlost
  simp [theLoop, Tryz.f101, mkF, loopsAll, Lp_some, and_assoc, -rd, rd_set, hS, h3, h6, h13, h14, h15]
  exact ⟨hout, hlost⟩
theorem hops_b {g : Gt} (hg : g.ok) (k : Int) (f : Fr) : ∀ h ∈ hopsL g.rs k f, 0 ≤ h.b ∧ h.b < (g.out.length : Int) := by
 intro h hh
 obtain ⟨r, hr, h2⟩ := List.mem_filterMap.1 hh
 unfold Rt.hop at h2
 split at h2
 ·cases h2; exact hg.b r hr
 ·cases h2
theorem b_gIn (g : Gt) (hg : g.ok) (k : Int) (f : Fr) (σ : Store) : callIt E1 (evI E1) 101 [g.P, .d (.int .i64 k), f.P] σ = some ((g.In k f).P, σ) := by
 refine call_run2 (fn := Tryz.f101) 17 rfl rfl rfl rfl Tryz.func101 rfl rfl ?_
 have c1 := fun σ => b_hops g.rs k f (by have := hg.rs; omega) σ
 have hlen : (hopsL g.rs k f).length ≤ 16 := Nat.le_trans (hopsL_len _ _ _) hg.rs
 have hloop := l_gin 17 g hg (hopsL g.rs k f) hlen (hops_b hg k f)
 obtain ⟨q1, q2, q3, q4⟩ := puts_ok (hopsL g.rs k f) hg (hops_b hg k f)
 have hout : (g.In k f).P = .agg [.d (.slice (g.rs.map Rt.D)), .d (.int .i64 g.cap), .d (.slice (((hopsL g.rs k f).foldl Gt.put g).out.map frsD)), .d (.slice (((hopsL g.rs k f).foldl Gt.put g).lost.map intD))] := by
  unfold Gt.In
  rw [Gt.P, q3, q4]
 rw [hout]
 have hml : ((hopsL g.rs k f).map Hp.D).length = (hopsL g.rs k f).length := by simp
 clear hout q1 q2 q3 q4
 generalize (hopsL g.rs k f).foldl Gt.put g = gf at hloop ⊢
 generalize (hopsL g.rs k f).map Hp.D = H at c1 hloop hml
 generalize (hopsL g.rs k f).length = hl at hloop hml hlen
 simp only [cellsOf, Gt.P] at hloop ⊢
 try simp at c1
 simp [Tryz.f101, mkF, ec_loop, -loadS, -storeS, loadS_cons0, loadS_consS, storeS_cons0, storeS_consS, cellsOf, c1, hml]
 generalize hLL : loopN _ _ _ = LL
 obtain ⟨r, rfl, outP, lostP, J, S, rfl, hS, h3, h6, hr, hlo⟩ := at_loop hLL (hloop _ _ _ rfl rfl rfl rfl rfl rfl 17 (by omega))
 have h6' := rd_el h6 (by omega)
 obtain ⟨lc1, lc2, lc3, lc4⟩ := hlo.cell
 obtain ⟨oc1, oc2, oc3, oc4⟩ := hr.cell
 have hfz := fun (A B C : List PV) (n : Nat) => frz_gate (σ := A :: B :: C :: J) (a := .slice (g.rs.map Rt.D)) (b := .int .i64 g.cap) hr.at hlo.at n
 rcases hr with rfl | ⟨j, rfl, hj⟩
 ·rcases hlo with rfl | ⟨j2, rfl, hj2⟩
  ·simp [mkF, -rd, rd_set, -loadS, -storeS, loadS_cons0, loadS_consS, storeS_cons0, storeS_consS, hS, h3, h6, h6']
   done
  ·simp [mkF, -rd, rd_set, -loadS, -storeS, loadS_cons0, loadS_consS, storeS_cons0, storeS_consS, hS, h3, h6, h6']
   exact hfz _ _ _ (J.length + 2)
 ·rcases hlo with rfl | ⟨j2, rfl, hj2⟩
  ·simp [mkF, -rd, rd_set, -loadS, -storeS, loadS_cons0, loadS_consS, storeS_cons0, storeS_consS, hS, h3, h6, h6']
   exact hfz _ _ _ (J.length + 2)
  ·simp [mkF, -rd, rd_set, -loadS, -storeS, loadS_cons0, loadS_consS, storeS_cons0, storeS_consS, hS, h3, h6, h6']
   exact hfz _ _ _ (J.length + 2)
end Go.Proofs

