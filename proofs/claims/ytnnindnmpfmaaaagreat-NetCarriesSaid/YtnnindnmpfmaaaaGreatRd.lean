/- NetCarries: its loops; NetCarries: its outer loops. -/
import Derived.Test.YtnnindnmpfmaaaaGreatRc
import Derived.Test.YtnnindnmpfmaaaaGreatPi
import Derived.Test.YtnnindnmpfmaaaaGreatPk
import Derived.Test.YtnnindnmpfmaaaaGreatOr
set_option linter.unusedVariables false
set_option linter.unusedSimpArgs false
set_option maxRecDepth 100000
set_option maxHeartbeats 8000000
namespace Go.Proofs
open Go.RowKit Go.Shelf Go.Pv

def size1 (x : Int) : Int := ((x.toNat % 7 : Nat) : Int) + 1
def sizesL (many : List Int) : List Int := many.map size1
theorem l_c0 (m : Nat) (many : List Int) (hl : many.length ≤ 4) (hb : ∀ x ∈ many, 0 ≤ x ∧ x ≤ 255) (v1 v2 v3 v9 v11 : PV) (S : List PV) (hS : S.length = 213) (h0 : rd S 0 = .d (.slice (many.map byD))) (h1 : rd S 1 = v1) (h2 : rd S 2 = v2) (h3 : rd S 3 = v3) (h9 : rd S 9 = v9) (h11 : rd S 11 = v11) (h12 : rd S 12 = .e0) (h13 : rd S 13 = .d (.int .i64 0)) (J : Store) (k : Nat) (hk : many.length < k) :
    Lp (loopN (evCode E1 (evI E1) m (theLoop Tryz.f10 0)) k ⟨S, J⟩) fun r => ∃ (S' : List PV), r = (.exit 0, ⟨S', J⟩) ∧ S'.length = 213 ∧ rd S' 1 = v1 ∧ rd S' 2 = v2 ∧ rd S' 3 = v3 ∧ rd S' 9 = v9 ∧ rd S' 11 = v11 ∧ rd S' 12 = acc ((sizesL many).map intD) := by
  have hml : (many.map byD).length = many.length := by simp
  refine loop_inv (fun i st => ∃ (S : List PV), st = ⟨S, J⟩ ∧ S.length = 213 ∧ rd S 0 = .d (.slice (many.map byD)) ∧ rd S 1 = v1 ∧ rd S 2 = v2 ∧ rd S 3 = v3 ∧ rd S 9 = v9 ∧ rd S 11 = v11 ∧ rd S 12 = acc ((sizesL (many.take i)).map intD) ∧ rd S 13 = .d (.int .i64 i)) _ many.length ?_ ?_ k 0 _ (by omega) (by omega) ⟨S, rfl, hS, h0, h1, h2, h3, h9, h11, h12, h13⟩
  · rintro i st hi ⟨S, rfl, hS, h0, h1, h2, h3, h9, h11, h12, h13⟩
    have hlt : (i : Int) < (many.length : Int) := by omega
    have hx : (many.map byD)[i]? = some (byD many[i]) := by simp [hi]
    have hxb := hb _ (List.getElem_mem hi)
    have htk : sizesL (many.take (i + 1)) = sizesL (many.take i) ++ [size1 many[i]] := by
      unfold sizesL
      rw [List.take_add_one, List.getElem?_eq_getElem hi, List.map_append]; rfl
    have happ := row_app (A := sizesL (many.take i)) (B := [size1 many[i]]) (by simp [sizesL]; omega)
    rw [← htk] at happ
    generalize sizesL (many.take (i + 1)) = A1 at happ ⊢
    generalize sizesL (many.take i) = A0 at happ h12
    clear htk
    generalize many[i] = x at hx hxb happ
    unfold size1 at happ
    have hrem := fun (ty : TypeId) => bin_rem8 (P := Tryz.prog) (t := ty) (a := x) (b := 7) (by omega)
    have ht := tmod8 hxb.1 7
    simp only [Int.cast_ofNat_Int] at ht
    have ht' : x.tmod 7 = ((x.toNat % 7 : Nat) : Int) := ht
    simp only [ht'] at hrem
    have h7 : x.toNat % 7 < 7 := Nat.mod_lt _ (by omega)
    generalize x.toNat % 7 = n at hrem happ h7
    have w1 : IntKind.i64.wrap (n : Int) = n := wrap_ok (by omega) (by omega)
    have w2 : IntKind.i64.wrap ((n : Int) + 1) = (n : Int) + 1 := wrap_ok (by omega) (by omega)
    simp only [List.map_cons, List.map_nil, intD] at happ
    simp only [byD] at hx
    generalize A1.map intD = B1 at happ ⊢
    generalize A0.map intD = B0 at happ h12
    generalize many.map byD = M at hx hml h0 ⊢
    obtain ⟨hi0, hx⟩ := List.getElem?_eq_some_iff.1 hx
    simp [theLoop, Tryz.f10, loopsAll, Lp_some, and_assoc, -rd, rd_ne, rd_eq, rowsFrom, cellsOf, conv_u8, hS, h0, h1, h2, h3, h9, h11, h12, h13, hlt, hi, hi0, hml, hx, hrem, w1, w2, happ, wrap_succ i (by omega)]
    done
  · rintro st ⟨S, rfl, hS, h0, h1, h2, h3, h9, h11, h12, h13⟩
    rw [List.take_length] at h12
    generalize (sizesL many).map intD = B at h12 ⊢
    generalize many.map byD = M at hml h0 ⊢
    simp [theLoop, Tryz.f10, loopsAll, Lp_some, and_assoc, -rd, rd_ne, rd_eq, hS, h0, h1, h2, h3, h9, h11, h12, h13, hml]
    done

theorem appFs' (A B : List Fr) (h : A.length + B.length ≤ 100000) : evAppend Tryz.prog 44 (acc (A.map Fr.D)) (.d (.slice (B.map Fr.D))) = some (acc ((A ++ B).map Fr.D)) := by
  rw [app22 (A.map Fr.D) (B.map Fr.D) (rowsOk_map (D := Fr.D) (fun _ => rfl) A) (rowsOk_map (D := Fr.D) (fun _ => rfl) B) (by simp [roomB]; omega), List.map_append]
theorem want_take (H : List Hp) (i : Nat) {j : Nat} (hj : j < H.length) : wantL (H.take (j + 1)) i = wantL (H.take j) i ++ if H[j].b = (i : Int) then [H[j].f] else [] := by
  unfold wantL
  rw [List.take_add_one, List.getElem?_eq_getElem hj, List.filter_append, List.map_append]
  congr 1
  simp only [Option.toList_some, List.filter_cons, List.filter_nil]
  by_cases h : H[j].b = (i : Int) <;> simp [h]
theorem want_len (H : List Hp) (i : Nat) : (wantL H i).length ≤ H.length := by unfold wantL; rw [List.length_map]; exact List.length_filter_le _ _

theorem l_c2 (m : Nat) (H : List Hp) (hl : H.length ≤ 60) (i b w : Nat) (ZS HH : List (List DV)) (hHH : HH = H.map Hp.D) (S : List PV) (hS : S.length = 213) (hK : rd S 9 = .ptr 0 0 ∧ rd S 11 = .d (.bool true) ∧ rd S 12 = acc ZS ∧ rd S 14 = .ptr 1 0 ∧ rd S 16 = .d (.int .i64 b) ∧ rd S 17 = .d (.int .i64 w) ∧ rd S 20 = .d (.slice HH)) (h21 : rd S 21 = .d (.int .i64 i)) (h22 : rd S 22 = .e0) (h23 : rd S 23 = .d (.int .i64 0)) (J : Store) (k : Nat) (hk : H.length < k) :
    Lp (loopN (evCode E1 (evI E1) m (theLoop Tryz.f10 2)) k ⟨S, J⟩) fun r => ∃ (S' : List PV), r = (.exit 4, ⟨S', J⟩) ∧ S'.length = 213 ∧ (rd S' 9 = .ptr 0 0 ∧ rd S' 11 = .d (.bool true) ∧ rd S' 12 = acc ZS ∧ rd S' 14 = .ptr 1 0 ∧ rd S' 16 = .d (.int .i64 b) ∧ rd S' 17 = .d (.int .i64 w) ∧ rd S' 20 = .d (.slice HH)) ∧ rd S' 21 = .d (.int .i64 i) ∧ rd S' 22 = acc ((wantL H i).map Fr.D) := by
  have hml : HH.length = H.length := by rw [hHH]; simp
  refine loop_inv (fun j st => ∃ (S : List PV), st = ⟨S, J⟩ ∧ S.length = 213 ∧ (rd S 9 = .ptr 0 0 ∧ rd S 11 = .d (.bool true) ∧ rd S 12 = acc ZS ∧ rd S 14 = .ptr 1 0 ∧ rd S 16 = .d (.int .i64 b) ∧ rd S 17 = .d (.int .i64 w) ∧ rd S 20 = .d (.slice HH)) ∧ rd S 21 = .d (.int .i64 i) ∧ rd S 22 = acc ((wantL (H.take j) i).map Fr.D) ∧ rd S 23 = .d (.int .i64 j)) _ H.length ?_ ?_ k 0 _ (by omega) (by omega) ⟨S, rfl, hS, hK, h21, h22, h23⟩
  · rintro j st hj ⟨S, rfl, hS, ⟨h9, h11, h12, h14, h16, h17, h20⟩, h21, h22, h23⟩
    have hlt : (j : Int) < (H.length : Int) := by omega
    have hx : HH[j]? = some (H[j]).D := by rw [hHH]; simp [hj]
    have htk := want_take H i hj
    have hA0 := want_len (H.take j) i
    rw [List.length_take] at hA0
    rw [htk]
    have happ := appFs' (wantL (H.take j) i) [H[j].f] (by simp; omega)
    clear htk
    generalize wantL (H.take j) i = A0 at happ h22 ⊢
    generalize H[j] = h at hx happ ⊢
    obtain ⟨hb, ⟨fe, fid, frm, fln, fda⟩⟩ := h
    simp only [Hp.D] at hx
    simp only [List.map_cons, List.map_nil, Fr.D] at happ
    obtain ⟨hi0, hx⟩ := List.getElem?_eq_some_iff.1 hx
    clear hHH
    by_cases hc : hb = (i : Int)
    · have hcI : (hb == (i : Int)) = true := by simpa using hc
      simp only [hc, if_true]
      generalize (A0 ++ [Fr.mk fe fid frm fln fda]).map Fr.D = B1 at happ ⊢
      generalize A0.map Fr.D = B0 at happ h22
      simp [theLoop, Tryz.f10, loopsAll, Lp_some, and_assoc, -rd, rd_ne, rd_eq, rowsFrom, cellsOf, hS, h9, h11, h12, h14, h16, h17, h20, h21, h22, h23, hlt, hj, hi0, hml, hx, hcI, happ, wrap_succ j (by omega)]
      done
    · have hcI : (hb == (i : Int)) = false := by simpa using hc
      simp only [hc, if_false, List.append_nil]
      generalize A0.map Fr.D = B0 at happ h22 ⊢
      simp [theLoop, Tryz.f10, loopsAll, Lp_some, and_assoc, -rd, rd_ne, rd_eq, rowsFrom, cellsOf, hS, h9, h11, h12, h14, h16, h17, h20, h21, h22, h23, hlt, hj, hi0, hml, hx, hcI, wrap_succ j (by omega)]
      done
  · rintro st ⟨S, rfl, hS, ⟨h9, h11, h12, h14, h16, h17, h20⟩, h21, h22, h23⟩
    rw [List.take_length] at h22
    generalize (wantL H i).map Fr.D = B at h22 ⊢
    clear hHH
    simp [theLoop, Tryz.f10, loopsAll, Lp_some, and_assoc, -rd, rd_ne, rd_eq, hS, h9, h11, h12, h14, h16, h17, h20, h21, h22, h23, hml]
    done

theorem l_c4 (m : Nat) (A : List Fr) (hl : A.length ≤ 100) (x : Nd) (hx : x.g.length ≤ 100) (hc : ∀ p, countF x.g p = countF A p) (i j b w : Nat) (ZS HH WW : List (List DV)) (F N : List PV) (J : Store) (S : List PV) (hS : S.length = 213) (hK : rd S 9 = .ptr 0 0 ∧ rd S 11 = .d (.bool true) ∧ rd S 12 = acc ZS ∧ rd S 14 = .ptr 1 0 ∧ rd S 16 = .d (.int .i64 b) ∧ rd S 17 = .d (.int .i64 w) ∧ rd S 20 = .d (.slice HH)) (h21 : rd S 21 = .d (.int .i64 i)) (h22 : rd S 22 = acc WW) (h24 : rd S 24 = .d (.int .i64 j)) (h25 : rd S 25 = .ptr (J.length + 2) 0) (h26 : rd S 26 = acc (A.map Fr.D)) (h27 : rd S 27 = .d (.int .i64 0)) (k : Nat) (hk : A.length < k) :
    Lp (loopN (evCode E1 (evI E1) m (theLoop Tryz.f10 4)) k ⟨S, F :: N :: (J ++ [cellsOf x.P])⟩) fun r => ∃ (S' : List PV), r = (.exit 8, ⟨S', F :: N :: (J ++ [cellsOf x.P])⟩) ∧ S'.length = 213 ∧ (rd S' 9 = .ptr 0 0 ∧ rd S' 11 = .d (.bool true) ∧ rd S' 12 = acc ZS ∧ rd S' 14 = .ptr 1 0 ∧ rd S' 16 = .d (.int .i64 b) ∧ rd S' 17 = .d (.int .i64 w) ∧ rd S' 20 = .d (.slice HH)) ∧ rd S' 21 = .d (.int .i64 i) ∧ rd S' 22 = acc WW ∧ rd S' 24 = .d (.int .i64 j) := by
  have hml : (A.map Fr.D).length = A.length := by simp
  refine loop_inv (fun p st => ∃ (S : List PV), st = ⟨S, F :: N :: (J ++ [cellsOf x.P])⟩ ∧ S.length = 213 ∧ (rd S 9 = .ptr 0 0 ∧ rd S 11 = .d (.bool true) ∧ rd S 12 = acc ZS ∧ rd S 14 = .ptr 1 0 ∧ rd S 16 = .d (.int .i64 b) ∧ rd S 17 = .d (.int .i64 w) ∧ rd S 20 = .d (.slice HH)) ∧ rd S 21 = .d (.int .i64 i) ∧ rd S 22 = acc WW ∧ rd S 24 = .d (.int .i64 j) ∧ rd S 25 = .ptr (J.length + 2) 0 ∧ rd S 26 = acc (A.map Fr.D) ∧ rd S 27 = .d (.int .i64 p)) _ A.length ?_ ?_ k 0 _ (by omega) (by omega) ⟨S, rfl, hS, hK, h21, h22, h24, h25, h26, h27⟩
  · rintro p st hp ⟨S, rfl, hS, ⟨h9, h11, h12, h14, h16, h17, h20⟩, h21, h22, h24, h25, h26, h27⟩
    have hlt : (p : Int) < (A.length : Int) := by omega
    have hy : (A.map Fr.D)[p]? = some (A[p]).D := by simp [hp]
    have c1 := fun σ => b_count x.g A[p] (by omega) σ
    have c2 := fun σ => b_count A A[p] (by omega) σ
    rw [hc] at c1
    generalize countF A A[p] = n at c1 c2
    generalize A[p] = f at hy c1 c2
    obtain ⟨fe, fid, frm, fln, fda⟩ := f
    obtain ⟨xq, xf, ⟨xt, xr, xs, xz⟩, xg⟩ := x
    simp only [Fr.D] at hy
    simp only [Fr.P, Nd.P, cellsOf] at c1 c2 ⊢
    generalize xg.map Fr.D = G at c1 ⊢
    generalize xq.map Fr.D = Q
    generalize xf.map Fl.D = FF
    generalize A.map Fr.D = AA at hy hml h26 c2 ⊢
    obtain ⟨hi0, hy⟩ := List.getElem?_eq_some_iff.1 hy
    try simp at c1
    try simp at c2
    simp [theLoop, Tryz.f10, loopsAll, Lp_some, and_assoc, -rd, rd_ne, rd_eq, -loadS, -storeS, loadS_cons0, loadS_consS, sfx_load0, sfx_load, cellsOf, hS, h9, h11, h12, h14, h16, h17, h20, h21, h22, h24, h25, h26, h27, hlt, hp, hi0, hml, hy, c1, c2, wrap_succ p (by omega)]
    done
  · rintro st ⟨S, rfl, hS, ⟨h9, h11, h12, h14, h16, h17, h20⟩, h21, h22, h24, h25, h26, h27⟩
    generalize A.map Fr.D = AA at hml h26 ⊢
    generalize cellsOf x.P = X
    simp [theLoop, Tryz.f10, loopsAll, Lp_some, and_assoc, -rd, rd_ne, rd_eq, hS, h9, h11, h12, h14, h16, h17, h20, h21, h22, h24, h25, h26, h27, hml]
    done
end Go.Proofs

set_option linter.unusedVariables false
set_option linter.unusedSimpArgs false
set_option maxRecDepth 100000
set_option maxHeartbeats 8000000
namespace Go.Proofs
open Go.RowKit Go.Shelf Go.Pv

theorem l_c3 (m : Nat) (hm : 200 < m) (H : List Hp) (hl : H.length ≤ 60) (f : Fr) (i b w s : Nat) (hs : s ≤ 7) (ZS HH : List (List DV)) (hZ : ZS[i]? = some [.int .i64 s]) (N0 : List (List DV)) (a1 a2 a3 a4 : PV) (R : List (List DV)) (hN : N0[i]? = some [.slice R])
    (hR : ∀ j, j < s → ∃ x : Nd, R[j]? = some x.D ∧ x.g.length = (allL H f b w i j).length ∧ ∀ p, countF x.g p = countF (allL H f b w i j) p) (S : List PV) (hS : S.length = 213) (hK : rd S 9 = .ptr 0 0 ∧ rd S 11 = .d (.bool true) ∧ rd S 12 = acc ZS ∧ rd S 14 = .ptr 1 0 ∧ rd S 16 = .d (.int .i64 b) ∧ rd S 17 = .d (.int .i64 w) ∧ rd S 20 = .d (.slice HH)) (h21 : rd S 21 = .d (.int .i64 i)) (h22 : rd S 22 = acc ((wantL H i).map Fr.D)) (h24 : rd S 24 = .d (.int .i64 0)) (J : Store) (k : Nat) (hk : s < k) :
    Lp (loopN (evCode E1 (evI E1) m (theLoop Tryz.f10 3)) k ⟨S, cellsOf f.P :: [.d (.slice N0), a1, a2, a3, a4] :: J⟩) fun r => ∃ (J : Store) (S' : List PV), r = (.exit 6, ⟨S', cellsOf f.P :: [.d (.slice N0), a1, a2, a3, a4] :: J⟩) ∧ S'.length = 213 ∧ (rd S' 9 = .ptr 0 0 ∧ rd S' 11 = .d (.bool true) ∧ rd S' 12 = acc ZS ∧ rd S' 14 = .ptr 1 0 ∧ rd S' 16 = .d (.int .i64 b) ∧ rd S' 17 = .d (.int .i64 w) ∧ rd S' 20 = .d (.slice HH)) ∧ rd S' 21 = .d (.int .i64 i) := by
  obtain ⟨hz0, hZ⟩ := List.getElem?_eq_some_iff.1 hZ
  obtain ⟨hn0, hN⟩ := List.getElem?_eq_some_iff.1 hN
  refine loop_inv (fun j st => ∃ (J : Store) (S : List PV), st = ⟨S, cellsOf f.P :: [.d (.slice N0), a1, a2, a3, a4] :: J⟩ ∧ S.length = 213 ∧ (rd S 9 = .ptr 0 0 ∧ rd S 11 = .d (.bool true) ∧ rd S 12 = acc ZS ∧ rd S 14 = .ptr 1 0 ∧ rd S 16 = .d (.int .i64 b) ∧ rd S 17 = .d (.int .i64 w) ∧ rd S 20 = .d (.slice HH)) ∧ rd S 21 = .d (.int .i64 i) ∧ rd S 22 = acc ((wantL H i).map Fr.D) ∧ rd S 24 = .d (.int .i64 j)) _ s ?_ ?_ k 0 _ (by omega) (by omega) ⟨J, S, rfl, hS, hK, h21, h22, h24⟩
  · rintro j st hj ⟨J, S, rfl, hS, ⟨h9, h11, h12, h14, h16, h17, h20⟩, h21, h22, h24⟩
    have hlt : (j : Int) < (s : Int) := by omega
    obtain ⟨x, hx, hxl, hxc⟩ := hR j hj
    obtain ⟨hj0, hx⟩ := List.getElem?_eq_some_iff.1 hx
    have hwl := want_len H i
    have happ0 := appFs' [] (wantL H i) (by simp; omega)
    simp only [List.map_nil, List.nil_append, acc_nil] at happ0
    have happ1 := appFs' (wantL H i) [f] (by simp; omega)
    clear hR
    unfold allL at hxl hxc
    have hloop := fun A hA hAx hAc => l_c4 m A hA x hAx hAc i j b w ZS HH ((wantL H i).map Fr.D)
    by_cases hc : i = b ∧ j ≠ w
    · rw [if_pos hc] at hxl hxc
      have hbI : ((i : Int) == (b : Int)) = true := by simp [hc.1]
      have hwI : ((j : Int) != (w : Int)) = true := by simp; omega
      have hAl : (wantL H i ++ [f]).length ≤ 100 := by simp; omega
      have hloop := hloop (wantL H i ++ [f]) hAl (by omega) hxc
      have hml : ((wantL H i ++ [f]).map Fr.D).length = (wantL H i ++ [f]).length := by simp
      have hmx : (x.g.map Fr.D).length = (wantL H i ++ [f]).length := by simpa using hxl
      have hAm : (wantL H i ++ [f]).length < m := by omega
      clear hxl hxc hwl hAl
      generalize (wantL H i ++ [f]).length = al at hml hmx hloop hAm
      generalize (wantL H i ++ [f]).map Fr.D = AA at happ1 hml hloop
      generalize (wantL H i).map Fr.D = WW at happ0 happ1 h22 hloop ⊢
      obtain ⟨xq, xf, ⟨xt, xr, xs, xz⟩, xg⟩ := x
      obtain ⟨fe, fid, frm, fln, fda⟩ := f
      simp only [Nd.D, Nd.P, Fr.D, Fr.P, cellsOf, List.map_cons, List.map_nil] at hx happ1 hloop hmx ⊢
      generalize xg.map Fr.D = G at hx hmx hloop
      generalize xq.map Fr.D = Q at hx hloop
      generalize xf.map Fl.D = FF at hx hloop
      simp [theLoop, Tryz.f10, loopsAll, ec_loop, Lp_some, and_assoc, -rd, rd_ne, rd_eq, -loadS, -storeS, loadS_cons0, loadS_consS, storeS_cons0, storeS_consS, sfx_load0, sfx_load, sfx_store0, sfx_store, cellsOf, rowsFrom, acc_nil, hS, h9, h11, h12, h14, h16, h17, h20, h21, h22, h24, hlt, hz0, hZ, hn0, hN, hj0, hx, hbI, hwI, hml, hmx, happ0, happ1]
      generalize hLL : loopN _ _ _ = LL
      obtain ⟨r, rfl, S', rfl, hS', ⟨g9, g11, g12, g14, g16, g17, g20⟩, g21, g22, g24⟩ := at_loop hLL (hloop _ _ J _ (by simp [hS]) (by simp [-rd, rd_ne, rd_eq, hS, h9, h11, h12, h14, h16, h17, h20]) (by simp [-rd, rd_ne, rd_eq, hS, h21]) (by simp [-rd, rd_ne, rd_eq, hS, h22]) (by simp [-rd, rd_ne, rd_eq, hS, h24]) (by simp [-rd, rd_ne, rd_eq, hS]) (by simp [-rd, rd_ne, rd_eq, hS]) (by simp [-rd, rd_ne, rd_eq, hS]) m hAm)
      simp [Lp_some, and_assoc, -rd, rd_ne, rd_eq, hS', g9, g11, g12, g14, g16, g17, g20, g21, g22, g24, wrap_succ j (by omega)]
      done
    · rw [if_neg hc, List.append_nil] at hxl hxc
      have hAl : (wantL H i).length ≤ 100 := by omega
      have hloop := hloop (wantL H i) hAl (by omega) hxc
      have hml : ((wantL H i).map Fr.D).length = (wantL H i).length := by simp
      have hmx : (x.g.map Fr.D).length = (wantL H i).length := by simpa using hxl
      have hAm : (wantL H i).length < m := by omega
      clear hxl hxc hwl hAl happ1
      generalize (wantL H i).length = al at hml hmx hloop hAm
      generalize (wantL H i).map Fr.D = WW at happ0 h22 hml hloop ⊢
      obtain ⟨xq, xf, ⟨xt, xr, xs, xz⟩, xg⟩ := x
      obtain ⟨fe, fid, frm, fln, fda⟩ := f
      simp only [Nd.D, Nd.P, Fr.D, Fr.P, cellsOf, List.map_cons, List.map_nil] at hx hloop hmx ⊢
      generalize xg.map Fr.D = G at hx hmx hloop
      generalize xq.map Fr.D = Q at hx hloop
      generalize xf.map Fl.D = FF at hx hloop
      by_cases hib : i = b
      · have hbI : ((i : Int) == (b : Int)) = true := by simp [hib]
        have hwI : ((j : Int) != (w : Int)) = false := by
          have : j = w := by
            by_cases h : j = w
            · exact h
            · exact absurd ⟨hib, h⟩ hc
          simp [this]
        simp [theLoop, Tryz.f10, loopsAll, ec_loop, Lp_some, and_assoc, -rd, rd_ne, rd_eq, -loadS, -storeS, loadS_cons0, loadS_consS, storeS_cons0, storeS_consS, sfx_load0, sfx_load, sfx_store0, sfx_store, cellsOf, rowsFrom, acc_nil, hS, h9, h11, h12, h14, h16, h17, h20, h21, h22, h24, hlt, hz0, hZ, hn0, hN, hj0, hx, hbI, hwI, hml, hmx, happ0]
        generalize hLL : loopN _ _ _ = LL
        obtain ⟨r, rfl, S', rfl, hS', ⟨g9, g11, g12, g14, g16, g17, g20⟩, g21, g22, g24⟩ := at_loop hLL (hloop _ _ J _ (by simp [hS]) (by simp [-rd, rd_ne, rd_eq, hS, h9, h11, h12, h14, h16, h17, h20]) (by simp [-rd, rd_ne, rd_eq, hS, h21]) (by simp [-rd, rd_ne, rd_eq, hS, h22]) (by simp [-rd, rd_ne, rd_eq, hS, h24]) (by simp [-rd, rd_ne, rd_eq, hS]) (by simp [-rd, rd_ne, rd_eq, hS]) (by simp [-rd, rd_ne, rd_eq, hS]) m hAm)
        simp [Lp_some, and_assoc, -rd, rd_ne, rd_eq, hS', g9, g11, g12, g14, g16, g17, g20, g21, g22, g24, wrap_succ j (by omega)]
        done
      · have hbI : ((i : Int) == (b : Int)) = false := by simp; omega
        simp [theLoop, Tryz.f10, loopsAll, ec_loop, Lp_some, and_assoc, -rd, rd_ne, rd_eq, -loadS, -storeS, loadS_cons0, loadS_consS, storeS_cons0, storeS_consS, sfx_load0, sfx_load, sfx_store0, sfx_store, cellsOf, rowsFrom, acc_nil, hS, h9, h11, h12, h14, h16, h17, h20, h21, h22, h24, hlt, hz0, hZ, hn0, hN, hj0, hx, hbI, hml, hmx, happ0]
        generalize hLL : loopN _ _ _ = LL
        obtain ⟨r, rfl, S', rfl, hS', ⟨g9, g11, g12, g14, g16, g17, g20⟩, g21, g22, g24⟩ := at_loop hLL (hloop _ _ J _ (by simp [hS]) (by simp [-rd, rd_ne, rd_eq, hS, h9, h11, h12, h14, h16, h17, h20]) (by simp [-rd, rd_ne, rd_eq, hS, h21]) (by simp [-rd, rd_ne, rd_eq, hS, h22]) (by simp [-rd, rd_ne, rd_eq, hS, h24]) (by simp [-rd, rd_ne, rd_eq, hS]) (by simp [-rd, rd_ne, rd_eq, hS]) (by simp [-rd, rd_ne, rd_eq, hS]) m hAm)
        simp [Lp_some, and_assoc, -rd, rd_ne, rd_eq, hS', g9, g11, g12, g14, g16, g17, g20, g21, g22, g24, wrap_succ j (by omega)]
        done
  · rintro st ⟨J, S, rfl, hS, ⟨h9, h11, h12, h14, h16, h17, h20⟩, h21, h22, h24⟩
    generalize (wantL H i).map Fr.D = WW at h22
    generalize cellsOf f.P = FC
    simp [theLoop, Tryz.f10, loopsAll, Lp_some, and_assoc, -rd, rd_ne, rd_eq, hS, h9, h11, h12, h14, h16, h17, h20, h21, h22, h24, hz0, hZ]
    done

theorem l_c1 (m : Nat) (hm : 200 < m) (H : List Hp) (hl : H.length ≤ 60) (f : Fr) (b w : Nat) (sizes : List Int) (hsz : sizes.length ≤ 4) (hs7 : ∀ i, i < sizes.length → szK sizes i ≤ 7) (hsp : ∀ i (h : i < sizes.length), sizes[i] = (szK sizes i : Int)) (ZS HH : List (List DV)) (hZS : ZS = sizes.map intD) (hHH : HH = H.map Hp.D) (N0 : List (List DV)) (a1 a2 a3 a4 : PV)
    (hR : ∀ i, i < sizes.length → ∃ R, N0[i]? = some [.slice R] ∧ ∀ j, j < szK sizes i → ∃ x : Nd, R[j]? = some x.D ∧ x.g.length = (allL H f b w i j).length ∧ ∀ p, countF x.g p = countF (allL H f b w i j) p) (S : List PV) (hS : S.length = 213) (hK : rd S 9 = .ptr 0 0 ∧ rd S 11 = .d (.bool true) ∧ rd S 12 = acc ZS ∧ rd S 14 = .ptr 1 0 ∧ rd S 16 = .d (.int .i64 b) ∧ rd S 17 = .d (.int .i64 w) ∧ rd S 20 = .d (.slice HH)) (h21 : rd S 21 = .d (.int .i64 0)) (J : Store) (k : Nat) (hk : sizes.length < k) :
    Lp (loopN (evCode E1 (evI E1) m (theLoop Tryz.f10 1)) k ⟨S, cellsOf f.P :: [.d (.slice N0), a1, a2, a3, a4] :: J⟩) fun r => ∃ (J : Store) (S' : List PV), r = (.exit 2, ⟨S', J⟩) ∧ S'.length = 213 ∧ rd S' 11 = .d (.bool true) := by
  have hml : ZS.length = sizes.length := by rw [hZS]; simp
  refine loop_inv (fun i st => ∃ (J : Store) (S : List PV), st = ⟨S, cellsOf f.P :: [.d (.slice N0), a1, a2, a3, a4] :: J⟩ ∧ S.length = 213 ∧ (rd S 9 = .ptr 0 0 ∧ rd S 11 = .d (.bool true) ∧ rd S 12 = acc ZS ∧ rd S 14 = .ptr 1 0 ∧ rd S 16 = .d (.int .i64 b) ∧ rd S 17 = .d (.int .i64 w) ∧ rd S 20 = .d (.slice HH)) ∧ rd S 21 = .d (.int .i64 i)) _ sizes.length ?_ ?_ k 0 _ (by omega) (by omega) ⟨J, S, rfl, hS, hK, h21⟩
  · rintro i st hi ⟨J, S, rfl, hS, ⟨h9, h11, h12, h14, h16, h17, h20⟩, h21⟩
    have hlt : (i : Int) < (sizes.length : Int) := by omega
    obtain ⟨R, hN, hR⟩ := hR i hi
    have hZ : ZS[i]? = some [.int .i64 (szK sizes i)] := by
      have := hsp i hi
      rw [hZS]
      simp [hi, intD, this]
    have hloop2 := l_c2 m H hl i b w ZS HH hHH
    have hloop3 := l_c3 m hm H hl f i b w (szK sizes i) (hs7 i hi) ZS HH hZ N0 a1 a2 a3 a4 R hN hR
    have hs := hs7 i hi
    generalize szK sizes i = s at hloop3 hs
    clear hR hN hZ hZS hHH hsp hs7
    generalize (wantL H i).map Fr.D = WW at hloop2 hloop3
    generalize cellsOf f.P = FC at hloop3 ⊢
    simp [theLoop, Tryz.f10, loopsAll, ec_loop, Lp_some, and_assoc, -rd, rd_ne, rd_eq, hS, h9, h11, h12, h14, h16, h17, h20, h21, hml, hlt]
    generalize hLL : loopN _ _ _ = LL
    obtain ⟨r, rfl, S', rfl, hS', ⟨g9, g11, g12, g14, g16, g17, g20⟩, g21, g22⟩ := at_loop hLL (hloop2 _ (by simp [hS]) (by simp [-rd, rd_ne, rd_eq, hS, h9, h11, h12, h14, h16, h17, h20]) (by simp [-rd, rd_ne, rd_eq, hS, h21]) (by simp [-rd, rd_ne, rd_eq, hS]) (by simp [-rd, rd_ne, rd_eq, hS]) _ m (by omega))
    simp [Lp_some, and_assoc, -rd, rd_ne, rd_eq, hS', g9, g11, g12, g14, g16, g17, g20, g21, g22, ec_loop]
    generalize hLL2 : loopN _ _ _ = LL2
    obtain ⟨r, rfl, J2, S2, rfl, hS2, ⟨q9, q11, q12, q14, q16, q17, q20⟩, q21⟩ := at_loop hLL2 (hloop3 _ (by simp [hS']) (by simp [-rd, rd_ne, rd_eq, hS', g9, g11, g12, g14, g16, g17, g20]) (by simp [-rd, rd_ne, rd_eq, hS', g21]) (by simp [-rd, rd_ne, rd_eq, hS', g22]) (by simp [-rd, rd_ne, rd_eq, hS']) _ m (by omega))
    simp [Lp_some, and_assoc, -rd, rd_ne, rd_eq, hS2, q9, q11, q12, q14, q16, q17, q20, q21, wrap_succ i (by omega)]
    done
  · rintro st ⟨J, S, rfl, hS, ⟨h9, h11, h12, h14, h16, h17, h20⟩, h21⟩
    generalize cellsOf f.P = FC
    clear hZS hHH
    simp [theLoop, Tryz.f10, loopsAll, Lp_some, and_assoc, -rd, rd_ne, rd_eq, hS, h9, h11, h12, h14, h16, h17, h20, h21, hml]
    done
end Go.Proofs

