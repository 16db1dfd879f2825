/- BusAlone: its call answers true. -/
import Derived.Test.YtnnindnmpfmaaaaTa
import Derived.Test.YtnnindnmpfmaaaaOu
import Derived.Test.YtnnindnmpfmaaaaOx
set_option linter.unusedVariables false
set_option linter.unusedSimpArgs false
set_option maxRecDepth 100000
set_option maxHeartbeats 8000000
namespace Go.Proofs
open Go.RowKit Go.Shelf Go.Pv

theorem l_al (m : Nat) (n : Nat) (hn : n ≤ 60) (f : Fr) (z : Int) (J0 : Store) (v5 v7 : PV) (S : List PV) (hS : S.length = 101) (h5 : rd S 5 = v5) (h6 : rd S 6 = .d (.int .i64 n)) (h7 : rd S 7 = v7) (h8 : rd S 8 = .d (.slice ((List.replicate n (Td.mk 0 f false z)).map Td.D))) (h9 : rd S 9 = .d (.int .i64 0)) (k : Nat) (hk : n < k) :
    Lp (loopN (evCode (E2 5) (evI E1) m (theLoop Try.f5 0)) k ⟨S, J0⟩) fun r => ∃ (S' : List PV), r = (.exit 0, ⟨S', J0⟩) ∧ S'.length = 101 ∧ rd S' 5 = v5 ∧ rd S' 6 = .d (.int .i64 n) ∧ rd S' 7 = v7 := by
  refine loop_inv (fun i st => ∃ (S : List PV), st = ⟨S, J0⟩ ∧ S.length = 101 ∧ rd S 5 = v5 ∧ rd S 6 = .d (.int .i64 n) ∧ rd S 7 = v7 ∧ rd S 8 = .d (.slice ((List.replicate n (Td.mk 0 f false z)).map Td.D)) ∧ rd S 9 = .d (.int .i64 i)) _ n ?_ ?_ k 0 _ (by omega) (by omega) ⟨S, rfl, hS, h5, h6, h7, h8, h9⟩
  · rintro i st hi ⟨S, rfl, hS, h5, h6, h7, h8, h9⟩
    have hlt : (i : Int) < (n : Int) := by omega
    have hx : ((List.replicate n (Td.mk 0 f false z)).map Td.D)[i]? = some (Td.mk 0 f false z).D := by simp [hi]
    generalize (List.replicate n (Td.mk 0 f false z)).map Td.D = L at hx h8 ⊢
    obtain ⟨hi0, hx⟩ := List.getElem?_eq_some_iff.1 hx
    simp only [Td.D] at hx
    simp [theLoop, Try.f5, mkF, loopsAll, Lp_some, and_assoc, -rd, rd_ne, rd_eq, hS, h5, h6, h7, h8, h9, hlt, hi0, hx, wrap_succ i (by omega)]
    done
  · rintro st ⟨S, rfl, hS, h5, h6, h7, h8, h9⟩
    simp [theLoop, Try.f5, mkF, loopsAll, Lp_some, and_assoc, -rd, rd_ne, rd_eq, hS, h5, h6, h7, h9]

theorem evI_ex2 {f : FuncId} {fn : Func} {c : Code} {args : List PV} {v : PV} (m : Nat) (hw : wildF f = true) (hg : E1.good f = true) (hf : E1.P.funcs[f]? = some fn) (hb : fn.body = some c)
    (h : ((evCode (E2 f) (evI E1) m c ⟨args ++ List.replicate (fn.ntmps - args.length) .undef, []⟩).bind fun r => if r.1 = .normal ∨ r.1 = .ret then resVal E1.P fn r.2 else none) = some v) : ∃ σ', evI E1 f args [] = some (v, σ') := by
  cases hc : evCode (E2 f) (evI E1) m c ⟨args ++ List.replicate (fn.ntmps - args.length) .undef, []⟩ with
  | none => simp [hc] at h
  | some r =>
    obtain ⟨e, st'⟩ := r
    simp only [hc, Option.bind_some] at h
    split at h
    · rename_i he
      exact ⟨_, evI_introW m hg hf hb (by rw [E1at f hw]; exact hc) he (fun _ => by simp) h⟩
    · cases h

theorem busAlone_true (f : Fr) (a : Int) (ha : 0 ≤ a ∧ a ≤ 255) (hb : byOk f.data) : ∃ σ', evI E1 5 [f.P, .d (.int .u8 a)] [] = some (.d (.bool true), σ') := by
  refine evI_ex2 (fn := Try.f5) 61 rfl rfl Try.func5 rfl ?_
  have e0 := b_busHead
  have e1 := fun σ => r_Made f σ
  have kr := made_right f
  have kb := made_bytes f hb
  have e2 := fun σ => r_countNew σ
  generalize f.made = g at e1 kr kb
  have hcv := conv_u8 a
  rw [wrap_ok (by omega) (by omega)] at hcv
  obtain ⟨n, hn, hrem⟩ : ∃ n : Nat, n ≤ 59 ∧ a.tmod 60 = (n : Int) := by
    refine ⟨(a.tmod 60).toNat, ?_, ?_⟩
    · have h1 := Int.tmod_lt_of_pos a (show (0 : Int) < 60 by omega)
      have h2 := Int.tmod_nonneg 60 ha.1
      omega
    · have h2 := Int.tmod_nonneg 60 ha.1
      omega
  have hrm := bin_rem (P := Try.prog) (t := 3) (a := a) (b := 60) (by decide)
  rw [hrem] at hrm
  have hA : rights [aloneN g 0] := by
    intro x hx
    simp at hx
    subst hx
    rw [Nd.right_iff]
    refine ⟨⟨by simp [aloneN], fun y hy => ?_⟩, ⟨by simp [aloneN], by simp [aloneN]⟩, ⟨by simp [aloneN], by simp [aloneN]⟩, by show (Cn.mk (8 * min ((0 : Nat) : Int) 16) 0 (if 16 ≤ 0 then 2 else 1) 0).right = true; decide⟩
    simp [aloneN] at hy
    subst hy
    exact kr
  have hB : bytesOk [aloneN g 0] := by
    intro x hx y hy
    simp at hx
    subst hx
    simp [aloneN] at hy
    subst hy
    exact kb
  have e3 := fun σ => b_Slots [aloneN g 0] hA hB (by simp) (List.replicate n []) (by simp; omega) (fun w hw => by rw [List.eq_of_mem_replicate hw]; simp) σ
  rw [alone_slots g n] at e3
  simp only at e3
  have hmz : (List.replicate n ([] : List Int)).map hitD = List.replicate n [.slice []] := by simp [hitD]
  rw [hmz] at e3
  have hmk : ∀ k : Nat, k ≤ 60 → evMakeD Try.prog 36 k k = some (.d (.slice (List.replicate k [.slice []]))) := by
    intro k hk
    unfold evMakeD
    rw [Ty.app36]
    simp [roomB]
    omega
  have hmk' := hmk n (by omega)
  have hloop := l_al 61 n (by omega) g ((g.wire.length : Int) + 23)
  have hml : ((List.replicate n (Td.mk 0 g false ((g.wire.length : Int) + 23))).map Td.D).length = n := by simp
  generalize (g.wire.length : Int) + 23 = z at e3 hloop hml
  generalize (List.replicate n (Td.mk 0 g false z)).map Td.D = T at e3 hloop hml
  have hmin : min (n : Int) 16 = if 16 ≤ n then 16 else (n : Int) := by split <;> omega
  simp only [List.map_cons, List.map_nil, aloneN, Nd.D] at e3
  try simp at e1
  try simp at e2
  have hm0 : min (0 : Int) 16 = 0 := by decide
  simp [hm0] at e3
  have w1 : IntKind.i64.wrap (8 * (if 16 ≤ n then 16 else (n : Int))) = 8 * (if 16 ≤ n then 16 else (n : Int)) := wrap_ok (by split <;> omega) (by split <;> omega)
  by_cases h16 : 16 ≤ n
  · have hd : (16 : Int) ≤ (n : Int) := by omega
    have hd2 : min (n : Int) 16 = 16 := by omega
    simp [h16, hd, hd2] at e3
    have w128 : IntKind.i64.wrap 128 = 128 := by decide
    simp [w128, Try.f5, mkF, ec_loop, -loadS, -storeS, loadS_cons0, loadS_consS, storeS_cons0, storeS_consS, e0, e1, e2, e3, hcv, hrm, hmk', hml, hd2, rowsFrom, cellsOf]
    generalize hLL : loopN _ _ _ = LL
    obtain ⟨r, rfl, S, rfl, hS, h5, h6, h7⟩ := at_loop hLL (hloop _ _ _ _ rfl rfl rfl rfl rfl rfl 61 (by omega))
    simp at h5 h7
    change rd S 5 = _ at h5
    change rd S 7 = _ at h7
    have w128 : IntKind.i64.wrap 128 = 128 := by decide
    simp [mkF, -rd, rd_ne, rd_eq, hS, h5, h6, h7, hd, w128]
  · have hd : ¬ (16 : Int) ≤ (n : Int) := by omega
    have hd2 : min (n : Int) 16 = (n : Int) := by omega
    have hw8 : IntKind.i64.wrap (8 * (n : Int)) = 8 * (n : Int) := wrap_ok (by omega) (by omega)
    simp [h16, hd, hd2] at e3
    have w128 : IntKind.i64.wrap 128 = 128 := by decide
    simp [w128, Try.f5, mkF, ec_loop, -loadS, -storeS, loadS_cons0, loadS_consS, storeS_cons0, storeS_consS, e0, e1, e2, e3, hcv, hrm, hmk', hml, hd2, hw8, rowsFrom, cellsOf]
    generalize hLL : loopN _ _ _ = LL
    obtain ⟨r, rfl, S, rfl, hS, h5, h6, h7⟩ := at_loop hLL (hloop _ _ _ _ rfl rfl rfl rfl rfl rfl 61 (by omega))
    simp at h5 h7
    change rd S 5 = _ at h5
    change rd S 7 = _ at h7
    have w128 : IntKind.i64.wrap 128 = 128 := by decide
    simp [mkF, -rd, rd_ne, rd_eq, hS, h5, h6, h7, hd, w128]

def busAlone_types : List TypeId := [39, 5]
theorem busAlone_args (ps : List PV) (h : OkArgs Try.prog 8 busAlone_types ps) : ∃ σ', evI E1 5 ps [] = some (.d (.bool true), σ') := by
  obtain ⟨d1, _, h1, rfl, d2, _, h2, rfl, rfl⟩ := h
  obtain ⟨f, rfl, hf⟩ := ok_Fr (d := 5) h1
  obtain ⟨a, rfl, ha⟩ := ok_by (d := 7) h2
  rw [arg_Fr, arg_u8]
  exact busAlone_true f a ha (fun x hx => by have := hf.2.2.2 x hx; omega)
end Go.Proofs

