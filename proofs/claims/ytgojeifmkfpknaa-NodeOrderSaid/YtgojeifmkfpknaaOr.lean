/- NodeOrder: frames that wait in a node, sent one by one, come out by rank: its call answers true; NodeOrder: the given statement, for every input: true, and each argument reads behind the call as it read before. -/
import Derived.Test.YtgojeifmkfpknaaNk
import Derived.Test.YtgojeifmkfpknaaRows
import Derived.WalkKit
import Derived.ProofKit
import Derived.OpenShut
import Derived.ShutString
import Derived.ChangeOld
import Derived.Below
import Derived.SizedLaws
set_option linter.unusedVariables false
set_option linter.unusedSimpArgs false
set_option maxRecDepth 100000
set_option maxHeartbeats 8000000
namespace Go.Proofs
open Go.RowKit Go.Shelf Go.Pv

def ndq (q : List Fr) : Nd := ⟨q, [], ⟨0, 0, 1, 0⟩, []⟩

theorem same_rank {a b : Fr} (h : a.same b = true) : rankCmp a b = 0 := by
  unfold Fr.same at h
  simp only [Bool.and_eq_true, beq_iff_eq] at h
  obtain ⟨⟨⟨⟨h1, h2⟩, h3⟩, _⟩, _⟩ := h
  have : a.rank = b.rank := by unfold Fr.rank; rw [h1, h2, h3]
  unfold rankCmp
  rw [this]
  exact cmpL_self _


theorem l_or0 (m : Nat) (l : List Fr) (hl : l.length ≤ 16) (f1 f5 f9 f10 f11 f12 f13 f14 f15 f16 f17 f18 f19 f20 f21 f22 f23 f24 f25 f58 f59 f60 f61 f62 f63 f64 f65 f66 f67 f68 f69 f70 f71 f72 f73 f74 f75 f76 f77 f78 f79 f80 f81 f82 f83 f84 f85 f86 f87 f88 f89 f90 f91 f92 f93 f94 f95 f96 f97 f98 f99 f100 f101 f102 f103 f104 f105 f106 f107 f108 f109 f110 f111 f112 f113 f114 f115 f116 f117 f118 f119 f120 f121 f122 f123 f124 f125 f126 f127 f128 f129 f130 f131 f132 f133 f134 f135 f136 f137 f138 f139 f140 f141 f142 f143 f144 f145 f146 f147 f148 f149 : PV) (B : Code) (hB : Try.f3.body.bind (fun c => (loopsOf c)[0]?) = some B)
    (Q : Ex × St → Prop) (q1 : ∀ (S : Store) (y6 y7 y8 y26 y27 y28 y29 y30 y31 y32 y33 y34 y35 y36 y37 y38 y39 y40 y41 y42 y43 y44 y45 y46 y47 y48 y49 y50 y51 y52 y53 y54 y55 y56 y57 : PV), Q (.ret, ⟨[.d (.slice (l.map Fr.D)), f1, .d (.bool true), .d (.bool true), .ptr 0 0, f5, y6, y7, y8, f9, f10, f11, f12, f13, f14, f15, f16, f17, f18, f19, f20, f21, f22, f23, f24, f25, y26, y27, y28, y29, y30, y31, y32, y33, y34, y35, y36, y37, y38, y39, y40, y41, y42, y43, y44, y45, y46, y47, y48, y49, y50, y51, y52, y53, y54, y55, y56, y57, f58, f59, f60, f61, f62, f63, f64, f65, f66, f67, f68, f69, f70, f71, f72, f73, f74, f75, f76, f77, f78, f79, f80, f81, f82, f83, f84, f85, f86, f87, f88, f89, f90, f91, f92, f93, f94, f95, f96, f97, f98, f99, f100, f101, f102, f103, f104, f105, f106, f107, f108, f109, f110, f111, f112, f113, f114, f115, f116, f117, f118, f119, f120, f121, f122, f123, f124, f125, f126, f127, f128, f129, f130, f131, f132, f133, f134, f135, f136, f137, f138, f139, f140, f141, f142, f143, f144, f145, f146, f147, f148, f149], S⟩))
    (q2 : ∀ (J : Store) (y6 y7 y8 y26 y27 y28 y29 y30 y31 y32 y33 y34 y35 y36 y37 y38 y39 y40 y41 y42 y43 y44 y45 y46 y47 y48 y49 y50 y51 y52 y53 y54 y55 y56 y57 : PV), (∀ x ∈ l, x.right = true) → Q (.exit 0, ⟨[.d (.slice (l.map Fr.D)), f1, .d (.bool false), .d (.bool true), .ptr 0 0, f5, y6, y7, y8, f9, f10, f11, f12, f13, f14, f15, f16, f17, f18, f19, f20, f21, f22, f23, f24, f25, y26, y27, y28, y29, y30, y31, y32, y33, y34, y35, y36, y37, y38, y39, y40, y41, y42, y43, y44, y45, y46, y47, y48, y49, y50, y51, y52, y53, y54, y55, y56, y57, f58, f59, f60, f61, f62, f63, f64, f65, f66, f67, f68, f69, f70, f71, f72, f73, f74, f75, f76, f77, f78, f79, f80, f81, f82, f83, f84, f85, f86, f87, f88, f89, f90, f91, f92, f93, f94, f95, f96, f97, f98, f99, f100, f101, f102, f103, f104, f105, f106, f107, f108, f109, f110, f111, f112, f113, f114, f115, f116, f117, f118, f119, f120, f121, f122, f123, f124, f125, f126, f127, f128, f129, f130, f131, f132, f133, f134, f135, f136, f137, f138, f139, f140, f141, f142, f143, f144, f145, f146, f147, f148, f149], cellsOf (ndq l).P :: J⟩)) :
    ∀ (k i : Nat) (J : Store) (x7 x8 x26 x27 x28 x29 x30 x31 x32 x33 x34 x35 x36 x37 x38 x39 x40 x41 x42 x43 x44 x45 x46 x47 x48 x49 x50 x51 x52 x53 x54 x55 x56 x57 : PV), i ≤ l.length → l.length < i + k → (∀ x ∈ l.take i, x.right = true) →
      Lp (loopN (evCode E1 (evI E1) m B) k ⟨[.d (.slice (l.map Fr.D)), f1, .d (.bool false), .d (.bool true), .ptr 0 0, f5, .d (.int .i64 i), x7, x8, f9, f10, f11, f12, f13, f14, f15, f16, f17, f18, f19, f20, f21, f22, f23, f24, f25, x26, x27, x28, x29, x30, x31, x32, x33, x34, x35, x36, x37, x38, x39, x40, x41, x42, x43, x44, x45, x46, x47, x48, x49, x50, x51, x52, x53, x54, x55, x56, x57, f58, f59, f60, f61, f62, f63, f64, f65, f66, f67, f68, f69, f70, f71, f72, f73, f74, f75, f76, f77, f78, f79, f80, f81, f82, f83, f84, f85, f86, f87, f88, f89, f90, f91, f92, f93, f94, f95, f96, f97, f98, f99, f100, f101, f102, f103, f104, f105, f106, f107, f108, f109, f110, f111, f112, f113, f114, f115, f116, f117, f118, f119, f120, f121, f122, f123, f124, f125, f126, f127, f128, f129, f130, f131, f132, f133, f134, f135, f136, f137, f138, f139, f140, f141, f142, f143, f144, f145, f146, f147, f148, f149], cellsOf (ndq (l.take i)).P :: J⟩) Q := by
  simp [Try.f3, loopsOf] at hB
  subst hB
  intro k
  induction k with
  | zero => intros; omega
  | succ k ih =>
    intro i J x7 x8 x26 x27 x28 x29 x30 x31 x32 x33 x34 x35 x36 x37 x38 x39 x40 x41 x42 x43 x44 x45 x46 x47 x48 x49 x50 x51 x52 x53 x54 x55 x56 x57 h1 h2 h3
    rw [loopN_succ]
    by_cases hi : i < l.length
    · have hx : l[i]? = some l[i] := List.getElem?_eq_getElem hi
      have htk : l.take (i + 1) = l.take i ++ [l[i]] := by rw [List.take_add_one, hx]; rfl
      generalize l[i] = x at hx htk
      have hlt : (i : Int) < (l.length : Int) := by omega
      have hw' : IntKind.i64.wrap ((i : Int) + 1) = ((i + 1 : Nat) : Int) := by rw [wrap_ok (by omega) (by omega)]; omega
      have e1 := r_great x
      have e2 := r_right x
      cases c1 : x.great
      · rw [c1] at e1
        cases c2 : x.right
        · rw [c2] at e2
          clear ih q2
          simp at e1 e2
          simp (maxSteps := 3000000) [hx, hlt, hw', e1, e2, cellsOf, loadS, storeS]
          exact Lp_some.2 (q1 _ _ _ _ _ _ _ _ _ _ _ _ _ _ _ _ _ _ _ _ _ _ _ _ _ _ _ _ _ _ _ _ _ _ _ _)
        · rw [c2] at e2
          have hlen : (l.take i).length < 16 := by simp; omega
          have e3 := b_Send (ndq (l.take i)) x (by simp only [ndq]; omega)
          have hs : (ndq (l.take i)).Send x = (ndq (l.take (i + 1)), 0) := by
            rw [htk]
            have : ¬ 16 ≤ (l.take i).length := by omega
            simp only [Nd.Send, Nd.off, ndq, c2, this]
            rfl
          rw [hs] at e3
          have hk := fun J z7 z8 z26 z27 z28 z29 z30 z31 z32 z33 z34 z35 z36 z37 z38 z39 z40 z41 z42 z43 z44 z45 z46 z47 z48 z49 z50 z51 z52 z53 z54 z55 z56 z57 => ih (i + 1) J z7 z8 z26 z27 z28 z29 z30 z31 z32 z33 z34 z35 z36 z37 z38 z39 z40 z41 z42 z43 z44 z45 z46 z47 z48 z49 z50 z51 z52 z53 z54 z55 z56 z57 (by omega) (by omega) (by
            rw [htk]
            intro y hy
            rcases List.mem_append.1 hy with hy | hy
            · exact h3 y hy
            · simp at hy; subst hy; exact c2)
          clear ih q1 q2 h3 hs htk
          generalize l.take (i + 1) = v at e3 hk
          generalize l.take i = u at e3
          simp [ndq, cellsOf] at e1 e2 e3 hk
          simp (maxSteps := 3000000) [hx, hlt, hw', e1, e2, e3, ndq, cellsOf, loadS, storeS]
          exact hk _ _ _ _ _ _ _ _ _ _ _ _ _ _ _ _ _ _ _ _ _ _ _ _ _ _ _ _ _ _ _ _ _ _ _
      · rw [c1] at e1
        clear ih q2
        simp at e1
        simp (maxSteps := 3000000) [hx, hlt, hw', e1, cellsOf, loadS, storeS]
        exact Lp_some.2 (q1 _ _ _ _ _ _ _ _ _ _ _ _ _ _ _ _ _ _ _ _ _ _ _ _ _ _ _ _ _ _ _ _ _ _ _ _)
    · have hlt : ¬ (i : Int) < (l.length : Int) := by omega
      have hd : l.take i = l := List.take_of_length_le (by omega)
      rw [hd] at h3 ⊢
      clear ih q1
      simp [hlt, ndq, cellsOf, loadS]
      exact Lp_some.2 (q2 _ _ _ _ _ _ _ _ _ _ _ _ _ _ _ _ _ _ _ _ _ _ _ _ _ _ _ _ _ _ _ _ _ _ _ _ h3)

theorem L_or0 (m : Nat) (l : List Fr) (hl : l.length ≤ 16) (f1 f5 f9 f10 f11 f12 f13 f14 f15 f16 f17 f18 f19 f20 f21 f22 f23 f24 f25 f58 f59 f60 f61 f62 f63 f64 f65 f66 f67 f68 f69 f70 f71 f72 f73 f74 f75 f76 f77 f78 f79 f80 f81 f82 f83 f84 f85 f86 f87 f88 f89 f90 f91 f92 f93 f94 f95 f96 f97 f98 f99 f100 f101 f102 f103 f104 f105 f106 f107 f108 f109 f110 f111 f112 f113 f114 f115 f116 f117 f118 f119 f120 f121 f122 f123 f124 f125 f126 f127 f128 f129 f130 f131 f132 f133 f134 f135 f136 f137 f138 f139 f140 f141 f142 f143 f144 f145 f146 f147 f148 f149 : PV) (B : Code) (hB : Try.f3.body.bind (fun c => (loopsOf c)[0]?) = some B) (k : Nat) (J : Store) (x7 x8 x26 x27 x28 x29 x30 x31 x32 x33 x34 x35 x36 x37 x38 x39 x40 x41 x42 x43 x44 x45 x46 x47 x48 x49 x50 x51 x52 x53 x54 x55 x56 x57 : PV) (h : l.length < k) :
    Lp (loopN (evCode E1 (evI E1) m B) k ⟨[.d (.slice (l.map Fr.D)), f1, .d (.bool false), .d (.bool true), .ptr 0 0, f5, .d (.int .i64 (0 : Nat)), x7, x8, f9, f10, f11, f12, f13, f14, f15, f16, f17, f18, f19, f20, f21, f22, f23, f24, f25, x26, x27, x28, x29, x30, x31, x32, x33, x34, x35, x36, x37, x38, x39, x40, x41, x42, x43, x44, x45, x46, x47, x48, x49, x50, x51, x52, x53, x54, x55, x56, x57, f58, f59, f60, f61, f62, f63, f64, f65, f66, f67, f68, f69, f70, f71, f72, f73, f74, f75, f76, f77, f78, f79, f80, f81, f82, f83, f84, f85, f86, f87, f88, f89, f90, f91, f92, f93, f94, f95, f96, f97, f98, f99, f100, f101, f102, f103, f104, f105, f106, f107, f108, f109, f110, f111, f112, f113, f114, f115, f116, f117, f118, f119, f120, f121, f122, f123, f124, f125, f126, f127, f128, f129, f130, f131, f132, f133, f134, f135, f136, f137, f138, f139, f140, f141, f142, f143, f144, f145, f146, f147, f148, f149], cellsOf (ndq []).P :: J⟩)
      (fun r => (∃ (S : Store) (y6 y7 y8 y26 y27 y28 y29 y30 y31 y32 y33 y34 y35 y36 y37 y38 y39 y40 y41 y42 y43 y44 y45 y46 y47 y48 y49 y50 y51 y52 y53 y54 y55 y56 y57 : PV), r = (.ret, ⟨[.d (.slice (l.map Fr.D)), f1, .d (.bool true), .d (.bool true), .ptr 0 0, f5, y6, y7, y8, f9, f10, f11, f12, f13, f14, f15, f16, f17, f18, f19, f20, f21, f22, f23, f24, f25, y26, y27, y28, y29, y30, y31, y32, y33, y34, y35, y36, y37, y38, y39, y40, y41, y42, y43, y44, y45, y46, y47, y48, y49, y50, y51, y52, y53, y54, y55, y56, y57, f58, f59, f60, f61, f62, f63, f64, f65, f66, f67, f68, f69, f70, f71, f72, f73, f74, f75, f76, f77, f78, f79, f80, f81, f82, f83, f84, f85, f86, f87, f88, f89, f90, f91, f92, f93, f94, f95, f96, f97, f98, f99, f100, f101, f102, f103, f104, f105, f106, f107, f108, f109, f110, f111, f112, f113, f114, f115, f116, f117, f118, f119, f120, f121, f122, f123, f124, f125, f126, f127, f128, f129, f130, f131, f132, f133, f134, f135, f136, f137, f138, f139, f140, f141, f142, f143, f144, f145, f146, f147, f148, f149], S⟩)) ∨
        (∃ (J : Store) (y6 y7 y8 y26 y27 y28 y29 y30 y31 y32 y33 y34 y35 y36 y37 y38 y39 y40 y41 y42 y43 y44 y45 y46 y47 y48 y49 y50 y51 y52 y53 y54 y55 y56 y57 : PV), (∀ x ∈ l, x.right = true) ∧ r = (.exit 0, ⟨[.d (.slice (l.map Fr.D)), f1, .d (.bool false), .d (.bool true), .ptr 0 0, f5, y6, y7, y8, f9, f10, f11, f12, f13, f14, f15, f16, f17, f18, f19, f20, f21, f22, f23, f24, f25, y26, y27, y28, y29, y30, y31, y32, y33, y34, y35, y36, y37, y38, y39, y40, y41, y42, y43, y44, y45, y46, y47, y48, y49, y50, y51, y52, y53, y54, y55, y56, y57, f58, f59, f60, f61, f62, f63, f64, f65, f66, f67, f68, f69, f70, f71, f72, f73, f74, f75, f76, f77, f78, f79, f80, f81, f82, f83, f84, f85, f86, f87, f88, f89, f90, f91, f92, f93, f94, f95, f96, f97, f98, f99, f100, f101, f102, f103, f104, f105, f106, f107, f108, f109, f110, f111, f112, f113, f114, f115, f116, f117, f118, f119, f120, f121, f122, f123, f124, f125, f126, f127, f128, f129, f130, f131, f132, f133, f134, f135, f136, f137, f138, f139, f140, f141, f142, f143, f144, f145, f146, f147, f148, f149], cellsOf (ndq l).P :: J⟩))) :=
  l_or0 m l hl f1 f5 f9 f10 f11 f12 f13 f14 f15 f16 f17 f18 f19 f20 f21 f22 f23 f24 f25 f58 f59 f60 f61 f62 f63 f64 f65 f66 f67 f68 f69 f70 f71 f72 f73 f74 f75 f76 f77 f78 f79 f80 f81 f82 f83 f84 f85 f86 f87 f88 f89 f90 f91 f92 f93 f94 f95 f96 f97 f98 f99 f100 f101 f102 f103 f104 f105 f106 f107 f108 f109 f110 f111 f112 f113 f114 f115 f116 f117 f118 f119 f120 f121 f122 f123 f124 f125 f126 f127 f128 f129 f130 f131 f132 f133 f134 f135 f136 f137 f138 f139 f140 f141 f142 f143 f144 f145 f146 f147 f148 f149 B hB _ (fun S y6 y7 y8 y26 y27 y28 y29 y30 y31 y32 y33 y34 y35 y36 y37 y38 y39 y40 y41 y42 y43 y44 y45 y46 y47 y48 y49 y50 y51 y52 y53 y54 y55 y56 y57 => .inl ⟨S, y6, y7, y8, y26, y27, y28, y29, y30, y31, y32, y33, y34, y35, y36, y37, y38, y39, y40, y41, y42, y43, y44, y45, y46, y47, y48, y49, y50, y51, y52, y53, y54, y55, y56, y57, rfl⟩) (fun J y6 y7 y8 y26 y27 y28 y29 y30 y31 y32 y33 y34 y35 y36 y37 y38 y39 y40 y41 y42 y43 y44 y45 y46 y47 y48 y49 y50 y51 y52 y53 y54 y55 y56 y57 h => .inr ⟨J, y6, y7, y8, y26, y27, y28, y29, y30, y31, y32, y33, y34, y35, y36, y37, y38, y39, y40, y41, y42, y43, y44, y45, y46, y47, y48, y49, y50, y51, y52, y53, y54, y55, y56, y57, h, rfl⟩) k 0 J x7 x8 x26 x27 x28 x29 x30 x31 x32 x33 x34 x35 x36 x37 x38 x39 x40 x41 x42 x43 x44 x45 x46 x47 x48 x49 x50 x51 x52 x53 x54 x55 x56 x57 (by omega) (by omega) (by simp)


theorem l_or4 (m : Nat) (q : List Fr) (f : Fr) (id : Nat) (S : Store) (hS : S[id]? = some (cellsOf f.P)) (hq : q.length ≤ 16) (nx : Nat) (hnx : q[nx]? = some f) (hbe : ∀ j x, j < nx → q[j]? = some x → x.same f = false) (s0 : PV) (f1 f5 f6 f7 f8 f11 f14 f15 f16 f17 f18 f19 f20 f21 f22 f23 f24 f25 f26 f27 f28 f29 f30 f31 f32 f33 f34 f35 f36 f37 f38 f39 f40 f41 f42 f43 f44 f45 f46 f47 f48 f49 f50 f51 f52 f53 f54 f55 f56 f57 f58 f59 f60 f61 f62 f63 f64 f65 f66 f67 f68 f86 f87 f88 f89 f90 f91 f92 f93 f94 f95 f96 f97 f98 f99 f100 f101 f102 f103 f104 f105 f106 f107 f108 f109 f110 f111 f112 f113 f114 f115 f116 f117 f118 f119 f120 f121 f122 f123 f124 f125 f126 f127 f128 f129 f130 f131 f132 f133 f134 f135 f136 f137 f138 f139 f140 f141 f142 f143 f144 f145 f146 f147 f148 f149 : PV) (B : Code) (hB : Try.f3.body.bind (fun c => (loopsOf c)[2]?) = some B)
    (Q : Ex × St → Prop) (q1 : ∀ y13 y69 y70 y71 y72 y73 y74 y75 y76 y77 y78 y79 y80 y81 y82 y83 y84 y85, Q (.exit 4, ⟨[s0, f1, .d (.bool false), .d (.bool true), .ptr 0 0, f5, f6, f7, f8, acc (q.map Fr.D), .ptr id 0, f11, .d (.int .i64 nx), y13, f14, f15, f16, f17, f18, f19, f20, f21, f22, f23, f24, f25, f26, f27, f28, f29, f30, f31, f32, f33, f34, f35, f36, f37, f38, f39, f40, f41, f42, f43, f44, f45, f46, f47, f48, f49, f50, f51, f52, f53, f54, f55, f56, f57, f58, f59, f60, f61, f62, f63, f64, f65, f66, f67, f68, y69, y70, y71, y72, y73, y74, y75, y76, y77, y78, y79, y80, y81, y82, y83, y84, y85, f86, f87, f88, f89, f90, f91, f92, f93, f94, f95, f96, f97, f98, f99, f100, f101, f102, f103, f104, f105, f106, f107, f108, f109, f110, f111, f112, f113, f114, f115, f116, f117, f118, f119, f120, f121, f122, f123, f124, f125, f126, f127, f128, f129, f130, f131, f132, f133, f134, f135, f136, f137, f138, f139, f140, f141, f142, f143, f144, f145, f146, f147, f148, f149], S⟩)) :
    ∀ (k i : Nat) (z : Int) (x69 x70 x71 x72 x73 x74 x75 x76 x77 x78 x79 x80 x81 x82 x83 x84 x85 : PV), i ≤ q.length → q.length < i + k → z = (if i ≤ nx then -1 else (nx : Int)) →
      Lp (loopN (evCode E1 (evI E1) m B) k ⟨[s0, f1, .d (.bool false), .d (.bool true), .ptr 0 0, f5, f6, f7, f8, acc (q.map Fr.D), .ptr id 0, f11, .d (.int .i64 z), .d (.int .i64 i), f14, f15, f16, f17, f18, f19, f20, f21, f22, f23, f24, f25, f26, f27, f28, f29, f30, f31, f32, f33, f34, f35, f36, f37, f38, f39, f40, f41, f42, f43, f44, f45, f46, f47, f48, f49, f50, f51, f52, f53, f54, f55, f56, f57, f58, f59, f60, f61, f62, f63, f64, f65, f66, f67, f68, x69, x70, x71, x72, x73, x74, x75, x76, x77, x78, x79, x80, x81, x82, x83, x84, x85, f86, f87, f88, f89, f90, f91, f92, f93, f94, f95, f96, f97, f98, f99, f100, f101, f102, f103, f104, f105, f106, f107, f108, f109, f110, f111, f112, f113, f114, f115, f116, f117, f118, f119, f120, f121, f122, f123, f124, f125, f126, f127, f128, f129, f130, f131, f132, f133, f134, f135, f136, f137, f138, f139, f140, f141, f142, f143, f144, f145, f146, f147, f148, f149], S⟩) Q := by
  simp [Try.f3, loopsOf] at hB
  subst hB
  have hnl : nx < q.length := (List.getElem?_eq_some_iff.1 hnx).1
  intro k
  induction k with
  | zero => intros; omega
  | succ k ih =>
    intro i z x69 x70 x71 x72 x73 x74 x75 x76 x77 x78 x79 x80 x81 x82 x83 x84 x85 h1 h2 h3
    rw [loopN_succ]
    simp [cellsOf] at hS
    by_cases hi : i < q.length
    · have hx : q[i]? = some q[i] := List.getElem?_eq_getElem hi
      have hb' := fun h => hbe i _ h hx
      have heq : i = nx → q[i] = f := by
        intro h
        subst h
        rw [hx] at hnx
        exact Option.some.inj hnx
      generalize q[i] = x at hx hb' heq
      have hlt : (i : Int) < (q.length : Int) := by omega
      have hw' : IntKind.i64.wrap ((i : Int) + 1) = ((i + 1 : Nat) : Int) := by rw [wrap_ok (by omega) (by omega)]; omega
      have e1 := r_same x f
      by_cases c1 : i ≤ nx
      · have hz : z = -1 := by rw [h3, if_pos c1]
        subst hz
        by_cases c2 : i = nx
        · have hk := fun z69 z70 z71 z72 z73 z74 z75 z76 z77 z78 z79 z80 z81 z82 z83 z84 z85 => ih (i + 1) (i : Int) z69 z70 z71 z72 z73 z74 z75 z76 z77 z78 z79 z80 z81 z82 z83 z84 z85 (by omega) (by omega) (by rw [if_neg (by omega), c2])
          rw [heq c2, Fr.same_refl] at e1
          rw [heq c2] at hx
          clear ih q1 h3
          simp at e1
          simp (maxSteps := 3000000) [hx, hlt, hw', e1, hS, cellsOf, loadS, storeS]
          exact hk _ _ _ _ _ _ _ _ _ _ _ _ _ _ _ _ _
        · have hk := fun z69 z70 z71 z72 z73 z74 z75 z76 z77 z78 z79 z80 z81 z82 z83 z84 z85 => ih (i + 1) (-1) z69 z70 z71 z72 z73 z74 z75 z76 z77 z78 z79 z80 z81 z82 z83 z84 z85 (by omega) (by omega) (by rw [if_pos (by omega)])
          rw [hb' (by omega)] at e1
          clear ih q1 h3
          simp at e1
          simp (maxSteps := 3000000) [hx, hlt, hw', e1, hS, cellsOf, loadS, storeS]
          exact hk _ _ _ _ _ _ _ _ _ _ _ _ _ _ _ _ _
      · have hz : z = nx := by rw [h3, if_neg c1]
        subst hz
        have hz0 : ¬ (nx : Int) < 0 := by omega
        have hk := fun z69 z70 z71 z72 z73 z74 z75 z76 z77 z78 z79 z80 z81 z82 z83 z84 z85 => ih (i + 1) (nx : Int) z69 z70 z71 z72 z73 z74 z75 z76 z77 z78 z79 z80 z81 z82 z83 z84 z85 (by omega) (by omega) (by rw [if_neg (by omega)])
        clear ih q1 h3
        simp (maxSteps := 3000000) [hx, hlt, hw', hz0, hS, cellsOf, loadS, storeS]
        exact hk _ _ _ _ _ _ _ _ _ _ _ _ _ _ _ _ _
    · have hlt : ¬ (i : Int) < (q.length : Int) := by omega
      have hz : z = nx := by rw [h3, if_neg (by omega)]
      subst hz
      clear ih
      simp [hlt]
      exact Lp_some.2 (q1 _ _ _ _ _ _ _ _ _ _ _ _ _ _ _ _ _ _)

theorem L_or4 (m : Nat) (q : List Fr) (f : Fr) (id : Nat) (S : Store) (hS : S[id]? = some (cellsOf f.P)) (hq : q.length ≤ 16) (nx : Nat) (hnx : q[nx]? = some f) (hbe : ∀ j x, j < nx → q[j]? = some x → x.same f = false) (s0 : PV) (f1 f5 f6 f7 f8 f11 f14 f15 f16 f17 f18 f19 f20 f21 f22 f23 f24 f25 f26 f27 f28 f29 f30 f31 f32 f33 f34 f35 f36 f37 f38 f39 f40 f41 f42 f43 f44 f45 f46 f47 f48 f49 f50 f51 f52 f53 f54 f55 f56 f57 f58 f59 f60 f61 f62 f63 f64 f65 f66 f67 f68 f86 f87 f88 f89 f90 f91 f92 f93 f94 f95 f96 f97 f98 f99 f100 f101 f102 f103 f104 f105 f106 f107 f108 f109 f110 f111 f112 f113 f114 f115 f116 f117 f118 f119 f120 f121 f122 f123 f124 f125 f126 f127 f128 f129 f130 f131 f132 f133 f134 f135 f136 f137 f138 f139 f140 f141 f142 f143 f144 f145 f146 f147 f148 f149 : PV) (B : Code) (hB : Try.f3.body.bind (fun c => (loopsOf c)[2]?) = some B)
    (k : Nat) (x69 x70 x71 x72 x73 x74 x75 x76 x77 x78 x79 x80 x81 x82 x83 x84 x85 : PV) (h2 : q.length < k) :
    Lp (loopN (evCode E1 (evI E1) m B) k ⟨[s0, f1, .d (.bool false), .d (.bool true), .ptr 0 0, f5, f6, f7, f8, acc (q.map Fr.D), .ptr id 0, f11, .d (.int .i64 (-1)), .d (.int .i64 (0 : Nat)), f14, f15, f16, f17, f18, f19, f20, f21, f22, f23, f24, f25, f26, f27, f28, f29, f30, f31, f32, f33, f34, f35, f36, f37, f38, f39, f40, f41, f42, f43, f44, f45, f46, f47, f48, f49, f50, f51, f52, f53, f54, f55, f56, f57, f58, f59, f60, f61, f62, f63, f64, f65, f66, f67, f68, x69, x70, x71, x72, x73, x74, x75, x76, x77, x78, x79, x80, x81, x82, x83, x84, x85, f86, f87, f88, f89, f90, f91, f92, f93, f94, f95, f96, f97, f98, f99, f100, f101, f102, f103, f104, f105, f106, f107, f108, f109, f110, f111, f112, f113, f114, f115, f116, f117, f118, f119, f120, f121, f122, f123, f124, f125, f126, f127, f128, f129, f130, f131, f132, f133, f134, f135, f136, f137, f138, f139, f140, f141, f142, f143, f144, f145, f146, f147, f148, f149], S⟩) (fun r => ∃ y13 y69 y70 y71 y72 y73 y74 y75 y76 y77 y78 y79 y80 y81 y82 y83 y84 y85, r = (.exit 4, ⟨[s0, f1, .d (.bool false), .d (.bool true), .ptr 0 0, f5, f6, f7, f8, acc (q.map Fr.D), .ptr id 0, f11, .d (.int .i64 nx), y13, f14, f15, f16, f17, f18, f19, f20, f21, f22, f23, f24, f25, f26, f27, f28, f29, f30, f31, f32, f33, f34, f35, f36, f37, f38, f39, f40, f41, f42, f43, f44, f45, f46, f47, f48, f49, f50, f51, f52, f53, f54, f55, f56, f57, f58, f59, f60, f61, f62, f63, f64, f65, f66, f67, f68, y69, y70, y71, y72, y73, y74, y75, y76, y77, y78, y79, y80, y81, y82, y83, y84, y85, f86, f87, f88, f89, f90, f91, f92, f93, f94, f95, f96, f97, f98, f99, f100, f101, f102, f103, f104, f105, f106, f107, f108, f109, f110, f111, f112, f113, f114, f115, f116, f117, f118, f119, f120, f121, f122, f123, f124, f125, f126, f127, f128, f129, f130, f131, f132, f133, f134, f135, f136, f137, f138, f139, f140, f141, f142, f143, f144, f145, f146, f147, f148, f149], S⟩)) :=
  l_or4 m q f id S hS hq nx hnx hbe s0 f1 f5 f6 f7 f8 f11 f14 f15 f16 f17 f18 f19 f20 f21 f22 f23 f24 f25 f26 f27 f28 f29 f30 f31 f32 f33 f34 f35 f36 f37 f38 f39 f40 f41 f42 f43 f44 f45 f46 f47 f48 f49 f50 f51 f52 f53 f54 f55 f56 f57 f58 f59 f60 f61 f62 f63 f64 f65 f66 f67 f68 f86 f87 f88 f89 f90 f91 f92 f93 f94 f95 f96 f97 f98 f99 f100 f101 f102 f103 f104 f105 f106 f107 f108 f109 f110 f111 f112 f113 f114 f115 f116 f117 f118 f119 f120 f121 f122 f123 f124 f125 f126 f127 f128 f129 f130 f131 f132 f133 f134 f135 f136 f137 f138 f139 f140 f141 f142 f143 f144 f145 f146 f147 f148 f149 B hB _ (fun y13 y69 y70 y71 y72 y73 y74 y75 y76 y77 y78 y79 y80 y81 y82 y83 y84 y85 => ⟨y13, y69, y70, y71, y72, y73, y74, y75, y76, y77, y78, y79, y80, y81, y82, y83, y84, y85, rfl⟩) k 0 (-1) x69 x70 x71 x72 x73 x74 x75 x76 x77 x78 x79 x80 x81 x82 x83 x84 x85 (by omega) (by omega) (by rw [if_pos (by omega)])


theorem l_or6 (m : Nat) (q : List Fr) (f : Fr) (hf : f.right = true) (id : Nat) (S : Store) (hS : S[id]? = some (cellsOf f.P)) (hq : q.length ≤ 16) (hr : ∀ x ∈ q, x.right = true) (nx : Nat) (hmin : ∀ x ∈ q, 0 ≤ rankCmp x f) (hbe : ∀ j x, j < nx → q[j]? = some x → 0 < rankCmp x f) (s0 : PV) (f1 f5 f6 f7 f8 f11 f13 f15 f16 f17 f18 f19 f20 f21 f22 f23 f24 f25 f26 f27 f28 f29 f30 f31 f32 f33 f34 f35 f36 f37 f38 f39 f40 f41 f42 f43 f44 f45 f46 f47 f48 f49 f50 f51 f52 f53 f54 f55 f56 f57 f58 f59 f60 f61 f62 f63 f64 f65 f66 f67 f68 f69 f70 f71 f72 f73 f74 f75 f76 f77 f78 f79 f80 f81 f82 f83 f84 f85 f86 f87 f88 f89 f90 f91 f122 f123 f124 f125 f126 f127 f128 f129 f130 f131 f132 f133 f134 f135 f136 f137 f138 f139 f140 f141 f142 f143 f144 f145 f146 f147 f148 f149 : PV) (B : Code) (hB : Try.f3.body.bind (fun c => (loopsOf c)[3]?) = some B)
    (Q : Ex × St → Prop) (q1 : ∀ y14 y92 y93 y94 y95 y96 y97 y98 y99 y100 y101 y102 y103 y104 y105 y106 y107 y108 y109 y110 y111 y112 y113 y114 y115 y116 y117 y118 y119 y120 y121, Q (.exit 6, ⟨[s0, f1, .d (.bool false), .d (.bool true), .ptr 0 0, f5, f6, f7, f8, acc (q.map Fr.D), .ptr id 0, f11, .d (.int .i64 nx), f13, y14, f15, f16, f17, f18, f19, f20, f21, f22, f23, f24, f25, f26, f27, f28, f29, f30, f31, f32, f33, f34, f35, f36, f37, f38, f39, f40, f41, f42, f43, f44, f45, f46, f47, f48, f49, f50, f51, f52, f53, f54, f55, f56, f57, f58, f59, f60, f61, f62, f63, f64, f65, f66, f67, f68, f69, f70, f71, f72, f73, f74, f75, f76, f77, f78, f79, f80, f81, f82, f83, f84, f85, f86, f87, f88, f89, f90, f91, y92, y93, y94, y95, y96, y97, y98, y99, y100, y101, y102, y103, y104, y105, y106, y107, y108, y109, y110, y111, y112, y113, y114, y115, y116, y117, y118, y119, y120, y121, f122, f123, f124, f125, f126, f127, f128, f129, f130, f131, f132, f133, f134, f135, f136, f137, f138, f139, f140, f141, f142, f143, f144, f145, f146, f147, f148, f149], S⟩)) :
    ∀ (k i : Nat) (x92 x93 x94 x95 x96 x97 x98 x99 x100 x101 x102 x103 x104 x105 x106 x107 x108 x109 x110 x111 x112 x113 x114 x115 x116 x117 x118 x119 x120 x121 : PV), i ≤ q.length → q.length < i + k →
      Lp (loopN (evCode E1 (evI E1) m B) k ⟨[s0, f1, .d (.bool false), .d (.bool true), .ptr 0 0, f5, f6, f7, f8, acc (q.map Fr.D), .ptr id 0, f11, .d (.int .i64 nx), f13, .d (.int .i64 i), f15, f16, f17, f18, f19, f20, f21, f22, f23, f24, f25, f26, f27, f28, f29, f30, f31, f32, f33, f34, f35, f36, f37, f38, f39, f40, f41, f42, f43, f44, f45, f46, f47, f48, f49, f50, f51, f52, f53, f54, f55, f56, f57, f58, f59, f60, f61, f62, f63, f64, f65, f66, f67, f68, f69, f70, f71, f72, f73, f74, f75, f76, f77, f78, f79, f80, f81, f82, f83, f84, f85, f86, f87, f88, f89, f90, f91, x92, x93, x94, x95, x96, x97, x98, x99, x100, x101, x102, x103, x104, x105, x106, x107, x108, x109, x110, x111, x112, x113, x114, x115, x116, x117, x118, x119, x120, x121, f122, f123, f124, f125, f126, f127, f128, f129, f130, f131, f132, f133, f134, f135, f136, f137, f138, f139, f140, f141, f142, f143, f144, f145, f146, f147, f148, f149], S⟩) Q := by
  simp [Try.f3, loopsOf] at hB
  subst hB
  intro k
  induction k with
  | zero => intros; omega
  | succ k ih =>
    intro i x92 x93 x94 x95 x96 x97 x98 x99 x100 x101 x102 x103 x104 x105 x106 x107 x108 x109 x110 x111 x112 x113 x114 x115 x116 x117 x118 x119 x120 x121 h1 h2
    rw [loopN_succ]
    simp [cellsOf] at hS
    by_cases hi : i < q.length
    · have hx : q[i]? = some q[i] := List.getElem?_eq_getElem hi
      have hmx := hmin _ (List.getElem_mem hi)
      have hrx := hr _ (List.getElem_mem hi)
      have hbx := fun h => hbe i _ h hx
      generalize q[i] = x at hx hmx hrx hbx
      have hlt : (i : Int) < (q.length : Int) := by omega
      have hw' : IntKind.i64.wrap ((i : Int) + 1) = ((i + 1 : Nat) : Int) := by rw [wrap_ok (by omega) (by omega)]; omega
      have e1 := r_Rank x hrx
      have e2 := r_Rank f hf
      have e3 := r_below x.rank f.rank (by have := x.rank_len; omega)
      have e4 := r_below f.rank x.rank (by have := f.rank_len; omega)
      have b1 : below x.rank f.rank = false := by
        unfold below
        have : ¬ cmpL x.rank f.rank < 0 := by unfold rankCmp at hmx; omega
        simpa using this
      rw [b1] at e3
      have hk := fun z92 z93 z94 z95 z96 z97 z98 z99 z100 z101 z102 z103 z104 z105 z106 z107 z108 z109 z110 z111 z112 z113 z114 z115 z116 z117 z118 z119 z120 z121 => ih (i + 1) z92 z93 z94 z95 z96 z97 z98 z99 z100 z101 z102 z103 z104 z105 z106 z107 z108 z109 z110 z111 z112 z113 z114 z115 z116 z117 z118 z119 z120 z121 (by omega) (by omega)
      by_cases c1 : i < nx
      · have c1' : (i : Int) < (nx : Int) := by omega
        have b2 : below f.rank x.rank = true := by
          unfold below
          have h := hbx c1
          have := rankCmp_anti x f
          unfold rankCmp at h this
          have : cmpL f.rank x.rank < 0 := by omega
          simpa using this
        rw [b2] at e4
        clear ih q1 hbe hmin hbx
        simp at e1 e2
        simp (maxSteps := 3000000) [hx, hlt, hw', e1, e2, e3, e4, c1', hS, cellsOf, loadS, storeS]
        exact hk _ _ _ _ _ _ _ _ _ _ _ _ _ _ _ _ _ _ _ _ _ _ _ _ _ _ _ _ _ _
      · have c1' : ¬ (i : Int) < (nx : Int) := by omega
        clear ih q1 hbe hmin hbx
        simp at e1 e2
        simp (maxSteps := 3000000) [hx, hlt, hw', e1, e2, e3, c1', hS, cellsOf, loadS, storeS]
        exact hk _ _ _ _ _ _ _ _ _ _ _ _ _ _ _ _ _ _ _ _ _ _ _ _ _ _ _ _ _ _
    · have hlt : ¬ (i : Int) < (q.length : Int) := by omega
      clear ih
      simp [hlt]
      exact Lp_some.2 (q1 _ _ _ _ _ _ _ _ _ _ _ _ _ _ _ _ _ _ _ _ _ _ _ _ _ _ _ _ _ _ _)

theorem L_or6 (m : Nat) (q : List Fr) (f : Fr) (hf : f.right = true) (id : Nat) (S : Store) (hS : S[id]? = some (cellsOf f.P)) (hq : q.length ≤ 16) (hr : ∀ x ∈ q, x.right = true) (nx : Nat) (hmin : ∀ x ∈ q, 0 ≤ rankCmp x f) (hbe : ∀ j x, j < nx → q[j]? = some x → 0 < rankCmp x f) (s0 : PV) (f1 f5 f6 f7 f8 f11 f13 f15 f16 f17 f18 f19 f20 f21 f22 f23 f24 f25 f26 f27 f28 f29 f30 f31 f32 f33 f34 f35 f36 f37 f38 f39 f40 f41 f42 f43 f44 f45 f46 f47 f48 f49 f50 f51 f52 f53 f54 f55 f56 f57 f58 f59 f60 f61 f62 f63 f64 f65 f66 f67 f68 f69 f70 f71 f72 f73 f74 f75 f76 f77 f78 f79 f80 f81 f82 f83 f84 f85 f86 f87 f88 f89 f90 f91 f122 f123 f124 f125 f126 f127 f128 f129 f130 f131 f132 f133 f134 f135 f136 f137 f138 f139 f140 f141 f142 f143 f144 f145 f146 f147 f148 f149 : PV) (B : Code) (hB : Try.f3.body.bind (fun c => (loopsOf c)[3]?) = some B)
    (k : Nat) (x92 x93 x94 x95 x96 x97 x98 x99 x100 x101 x102 x103 x104 x105 x106 x107 x108 x109 x110 x111 x112 x113 x114 x115 x116 x117 x118 x119 x120 x121 : PV) (h2 : q.length < k) :
    Lp (loopN (evCode E1 (evI E1) m B) k ⟨[s0, f1, .d (.bool false), .d (.bool true), .ptr 0 0, f5, f6, f7, f8, acc (q.map Fr.D), .ptr id 0, f11, .d (.int .i64 nx), f13, .d (.int .i64 (0 : Nat)), f15, f16, f17, f18, f19, f20, f21, f22, f23, f24, f25, f26, f27, f28, f29, f30, f31, f32, f33, f34, f35, f36, f37, f38, f39, f40, f41, f42, f43, f44, f45, f46, f47, f48, f49, f50, f51, f52, f53, f54, f55, f56, f57, f58, f59, f60, f61, f62, f63, f64, f65, f66, f67, f68, f69, f70, f71, f72, f73, f74, f75, f76, f77, f78, f79, f80, f81, f82, f83, f84, f85, f86, f87, f88, f89, f90, f91, x92, x93, x94, x95, x96, x97, x98, x99, x100, x101, x102, x103, x104, x105, x106, x107, x108, x109, x110, x111, x112, x113, x114, x115, x116, x117, x118, x119, x120, x121, f122, f123, f124, f125, f126, f127, f128, f129, f130, f131, f132, f133, f134, f135, f136, f137, f138, f139, f140, f141, f142, f143, f144, f145, f146, f147, f148, f149], S⟩) (fun r => ∃ y14 y92 y93 y94 y95 y96 y97 y98 y99 y100 y101 y102 y103 y104 y105 y106 y107 y108 y109 y110 y111 y112 y113 y114 y115 y116 y117 y118 y119 y120 y121, r = (.exit 6, ⟨[s0, f1, .d (.bool false), .d (.bool true), .ptr 0 0, f5, f6, f7, f8, acc (q.map Fr.D), .ptr id 0, f11, .d (.int .i64 nx), f13, y14, f15, f16, f17, f18, f19, f20, f21, f22, f23, f24, f25, f26, f27, f28, f29, f30, f31, f32, f33, f34, f35, f36, f37, f38, f39, f40, f41, f42, f43, f44, f45, f46, f47, f48, f49, f50, f51, f52, f53, f54, f55, f56, f57, f58, f59, f60, f61, f62, f63, f64, f65, f66, f67, f68, f69, f70, f71, f72, f73, f74, f75, f76, f77, f78, f79, f80, f81, f82, f83, f84, f85, f86, f87, f88, f89, f90, f91, y92, y93, y94, y95, y96, y97, y98, y99, y100, y101, y102, y103, y104, y105, y106, y107, y108, y109, y110, y111, y112, y113, y114, y115, y116, y117, y118, y119, y120, y121, f122, f123, f124, f125, f126, f127, f128, f129, f130, f131, f132, f133, f134, f135, f136, f137, f138, f139, f140, f141, f142, f143, f144, f145, f146, f147, f148, f149], S⟩)) :=
  l_or6 m q f hf id S hS hq hr nx hmin hbe s0 f1 f5 f6 f7 f8 f11 f13 f15 f16 f17 f18 f19 f20 f21 f22 f23 f24 f25 f26 f27 f28 f29 f30 f31 f32 f33 f34 f35 f36 f37 f38 f39 f40 f41 f42 f43 f44 f45 f46 f47 f48 f49 f50 f51 f52 f53 f54 f55 f56 f57 f58 f59 f60 f61 f62 f63 f64 f65 f66 f67 f68 f69 f70 f71 f72 f73 f74 f75 f76 f77 f78 f79 f80 f81 f82 f83 f84 f85 f86 f87 f88 f89 f90 f91 f122 f123 f124 f125 f126 f127 f128 f129 f130 f131 f132 f133 f134 f135 f136 f137 f138 f139 f140 f141 f142 f143 f144 f145 f146 f147 f148 f149 B hB _ (fun y14 y92 y93 y94 y95 y96 y97 y98 y99 y100 y101 y102 y103 y104 y105 y106 y107 y108 y109 y110 y111 y112 y113 y114 y115 y116 y117 y118 y119 y120 y121 => ⟨y14, y92, y93, y94, y95, y96, y97, y98, y99, y100, y101, y102, y103, y104, y105, y106, y107, y108, y109, y110, y111, y112, y113, y114, y115, y116, y117, y118, y119, y120, y121, rfl⟩) k 0 x92 x93 x94 x95 x96 x97 x98 x99 x100 x101 x102 x103 x104 x105 x106 x107 x108 x109 x110 x111 x112 x113 x114 x115 x116 x117 x118 x119 x120 x121 (by omega) (by omega)

theorem ndq_next (w : Fr) (q : List Fr) (v : Fr) (h : (w :: q)[nxt (w :: q)]? = some v) : (ndq (w :: q)).Next = (v, true) := by
  unfold Nd.Next
  have : ((ndq (w :: q)).off || (ndq (w :: q)).q.isEmpty) = false := rfl
  rw [this]
  simp only [ndq, List.getD, h, Bool.false_eq_true, if_false]
  rfl

theorem ndq_sent (w : Fr) (q : List Fr) : (ndq (w :: q)).Sent true = ndq ((w :: q).eraseIdx (nxt (w :: q))) := by
  unfold Nd.Sent
  have : ((ndq (w :: q)).off || (ndq (w :: q)).q.isEmpty) = false := rfl
  rw [this]
  rfl


theorem l_or2 (m : Nat) (hm : 20 ≤ m) (s0 : PV) (f1 f5 f6 f7 f8 f15 f16 f17 f18 f19 f20 f21 f22 f23 f24 f25 f26 f27 f28 f29 f30 f31 f32 f33 f34 f35 f36 f37 f38 f39 f40 f41 f42 f43 f44 f45 f46 f47 f48 f49 f50 f51 f52 f53 f54 f55 f56 f57 f58 f59 f60 f134 f135 f136 f137 f138 f139 f140 f141 f142 f143 f144 f145 f146 f147 f148 f149 : PV) (B : Code) (hB : Try.f3.body.bind (fun c => (loopsOf c)[1]?) = some B)
    (Q : Ex × St → Prop) (q1 : ∀ (J : Store) (y10 y11 y12 y13 y14 y61 y62 y63 y64 y65 y66 y67 y68 y69 y70 y71 y72 y73 y74 y75 y76 y77 y78 y79 y80 y81 y82 y83 y84 y85 y86 y87 y88 y89 y90 y91 y92 y93 y94 y95 y96 y97 y98 y99 y100 y101 y102 y103 y104 y105 y106 y107 y108 y109 y110 y111 y112 y113 y114 y115 y116 y117 y118 y119 y120 y121 y122 y123 y124 y125 y126 y127 y128 y129 y130 y131 y132 y133 : PV), Q (.exit 2, ⟨[s0, f1, .d (.bool false), .d (.bool true), .ptr 0 0, f5, f6, f7, f8, acc ([].map Fr.D), y10, y11, y12, y13, y14, f15, f16, f17, f18, f19, f20, f21, f22, f23, f24, f25, f26, f27, f28, f29, f30, f31, f32, f33, f34, f35, f36, f37, f38, f39, f40, f41, f42, f43, f44, f45, f46, f47, f48, f49, f50, f51, f52, f53, f54, f55, f56, f57, f58, f59, f60, y61, y62, y63, y64, y65, y66, y67, y68, y69, y70, y71, y72, y73, y74, y75, y76, y77, y78, y79, y80, y81, y82, y83, y84, y85, y86, y87, y88, y89, y90, y91, y92, y93, y94, y95, y96, y97, y98, y99, y100, y101, y102, y103, y104, y105, y106, y107, y108, y109, y110, y111, y112, y113, y114, y115, y116, y117, y118, y119, y120, y121, y122, y123, y124, y125, y126, y127, y128, y129, y130, y131, y132, y133, f134, f135, f136, f137, f138, f139, f140, f141, f142, f143, f144, f145, f146, f147, f148, f149], cellsOf (ndq []).P :: J⟩)) :
    ∀ (k : Nat) (q : List Fr) (J : Store) (x10 x11 x12 x13 x14 x61 x62 x63 x64 x65 x66 x67 x68 x69 x70 x71 x72 x73 x74 x75 x76 x77 x78 x79 x80 x81 x82 x83 x84 x85 x86 x87 x88 x89 x90 x91 x92 x93 x94 x95 x96 x97 x98 x99 x100 x101 x102 x103 x104 x105 x106 x107 x108 x109 x110 x111 x112 x113 x114 x115 x116 x117 x118 x119 x120 x121 x122 x123 x124 x125 x126 x127 x128 x129 x130 x131 x132 x133 : PV), q.length ≤ 16 → q.length < k → (∀ x ∈ q, x.right = true) →
      Lp (loopN (evCode E1 (evI E1) m B) k ⟨[s0, f1, .d (.bool false), .d (.bool true), .ptr 0 0, f5, f6, f7, f8, acc (q.map Fr.D), x10, x11, x12, x13, x14, f15, f16, f17, f18, f19, f20, f21, f22, f23, f24, f25, f26, f27, f28, f29, f30, f31, f32, f33, f34, f35, f36, f37, f38, f39, f40, f41, f42, f43, f44, f45, f46, f47, f48, f49, f50, f51, f52, f53, f54, f55, f56, f57, f58, f59, f60, x61, x62, x63, x64, x65, x66, x67, x68, x69, x70, x71, x72, x73, x74, x75, x76, x77, x78, x79, x80, x81, x82, x83, x84, x85, x86, x87, x88, x89, x90, x91, x92, x93, x94, x95, x96, x97, x98, x99, x100, x101, x102, x103, x104, x105, x106, x107, x108, x109, x110, x111, x112, x113, x114, x115, x116, x117, x118, x119, x120, x121, x122, x123, x124, x125, x126, x127, x128, x129, x130, x131, x132, x133, f134, f135, f136, f137, f138, f139, f140, f141, f142, f143, f144, f145, f146, f147, f148, f149], cellsOf (ndq q).P :: J⟩) Q := by
  simp [Try.f3, loopsOf] at hB
  subst hB
  intro k
  induction k with
  | zero => intros; omega
  | succ k ih =>
    intro q J x10 x11 x12 x13 x14 x61 x62 x63 x64 x65 x66 x67 x68 x69 x70 x71 x72 x73 x74 x75 x76 x77 x78 x79 x80 x81 x82 x83 x84 x85 x86 x87 x88 x89 x90 x91 x92 x93 x94 x95 x96 x97 x98 x99 x100 x101 x102 x103 x104 x105 x106 x107 x108 x109 x110 x111 x112 x113 x114 x115 x116 x117 x118 x119 x120 x121 x122 x123 x124 x125 x126 x127 x128 x129 x130 x131 x132 x133 h1 h2 h3
    rw [loopN_succ]
    cases q with
    | nil =>
      clear ih
      simp (maxSteps := 3000000) [ndq, cellsOf]
      exact Lp_some.2 (q1 _ _ _ _ _ _ _ _ _ _ _ _ _ _ _ _ _ _ _ _ _ _ _ _ _ _ _ _ _ _ _ _ _ _ _ _ _ _ _ _ _ _ _ _ _ _ _ _ _ _ _ _ _ _ _ _ _ _ _ _ _ _ _ _ _ _ _ _ _ _ _ _ _ _ _ _ _ _ _)
    | cons w q =>
      obtain ⟨_, v, hv, _, hmin, hbe⟩ := nxt_spec w q
      have hlt := nxt_lt (q := w :: q) (by simp)
      have hvr : v.right = true := h3 v (List.mem_of_getElem? hv)
      have e1 := b_Next (ndq (w :: q)) (by simp only [ndq]; omega) h3
      rw [ndq_next w q v hv] at e1
      have e2 := b_Sent (ndq (w :: q)) true (by simp only [ndq]; omega) h3 (show Cn.ok ⟨0, 0, 1, 0⟩ from ⟨by decide, by decide, by decide⟩)
      rw [ndq_sent] at e2
      have hlen' := List.length_eraseIdx_of_lt hlt
      have hk := fun J z10 z11 z12 z13 z14 z61 z62 z63 z64 z65 z66 z67 z68 z69 z70 z71 z72 z73 z74 z75 z76 z77 z78 z79 z80 z81 z82 z83 z84 z85 z86 z87 z88 z89 z90 z91 z92 z93 z94 z95 z96 z97 z98 z99 z100 z101 z102 z103 z104 z105 z106 z107 z108 z109 z110 z111 z112 z113 z114 z115 z116 z117 z118 z119 z120 z121 z122 z123 z124 z125 z126 z127 z128 z129 z130 z131 z132 z133 => ih ((w :: q).eraseIdx (nxt (w :: q))) J z10 z11 z12 z13 z14 z61 z62 z63 z64 z65 z66 z67 z68 z69 z70 z71 z72 z73 z74 z75 z76 z77 z78 z79 z80 z81 z82 z83 z84 z85 z86 z87 z88 z89 z90 z91 z92 z93 z94 z95 z96 z97 z98 z99 z100 z101 z102 z103 z104 z105 z106 z107 z108 z109 z110 z111 z112 z113 z114 z115 z116 z117 z118 z119 z120 z121 z122 z123 z124 z125 z126 z127 z128 z129 z130 z131 z132 z133 (by omega) (by omega) (fun y hy => h3 y (List.mem_of_mem_eraseIdx hy))
      clear ih q1
      have hqne : (0 : Int) < ((w :: q).length : Int) := by simp
      have hqn1 : 0 < (w :: q).length := by simp
      have hqn2 : (w :: q) ≠ [] := by simp
      generalize hQ : w :: q = q' at *
      obtain ⟨nx, hnx⟩ : ∃ nx, nx = nxt q' := ⟨_, rfl⟩
      rw [← hnx] at hv hbe hlt e2 hk hlen'
      have hS : (cellsOf (ndq q').P :: (J ++ [cellsOf v.P]))[J.length + 1]? = some (cellsOf v.P) := by simp
      have hbs : ∀ j x, j < nx → q'[j]? = some x → x.same v = false := fun j x hj hx => by
        cases hs : x.same v
        · rfl
        · have h1 := same_rank hs
          have h2 := hbe j x hj hx
          omega
      have l4 := fun g1 g5 g6 g7 g8 g11 g14 g15 g16 g17 g18 g19 g20 g21 g22 g23 g24 g25 g26 g27 g28 g29 g30 g31 g32 g33 g34 g35 g36 g37 g38 g39 g40 g41 g42 g43 g44 g45 g46 g47 g48 g49 g50 g51 g52 g53 g54 g55 g56 g57 g58 g59 g60 g61 g62 g63 g64 g65 g66 g67 g68 g86 g87 g88 g89 g90 g91 g92 g93 g94 g95 g96 g97 g98 g99 g100 g101 g102 g103 g104 g105 g106 g107 g108 g109 g110 g111 g112 g113 g114 g115 g116 g117 g118 g119 g120 g121 g122 g123 g124 g125 g126 g127 g128 g129 g130 g131 g132 g133 g134 g135 g136 g137 g138 g139 g140 g141 g142 g143 g144 g145 g146 g147 g148 g149 B hB => L_or4 m q' v (J.length + 1) _ hS h1 nx hv hbs s0 g1 g5 g6 g7 g8 g11 g14 g15 g16 g17 g18 g19 g20 g21 g22 g23 g24 g25 g26 g27 g28 g29 g30 g31 g32 g33 g34 g35 g36 g37 g38 g39 g40 g41 g42 g43 g44 g45 g46 g47 g48 g49 g50 g51 g52 g53 g54 g55 g56 g57 g58 g59 g60 g61 g62 g63 g64 g65 g66 g67 g68 g86 g87 g88 g89 g90 g91 g92 g93 g94 g95 g96 g97 g98 g99 g100 g101 g102 g103 g104 g105 g106 g107 g108 g109 g110 g111 g112 g113 g114 g115 g116 g117 g118 g119 g120 g121 g122 g123 g124 g125 g126 g127 g128 g129 g130 g131 g132 g133 g134 g135 g136 g137 g138 g139 g140 g141 g142 g143 g144 g145 g146 g147 g148 g149 B hB m
      have l6 := fun g1 g5 g6 g7 g8 g11 g13 g15 g16 g17 g18 g19 g20 g21 g22 g23 g24 g25 g26 g27 g28 g29 g30 g31 g32 g33 g34 g35 g36 g37 g38 g39 g40 g41 g42 g43 g44 g45 g46 g47 g48 g49 g50 g51 g52 g53 g54 g55 g56 g57 g58 g59 g60 g61 g62 g63 g64 g65 g66 g67 g68 g69 g70 g71 g72 g73 g74 g75 g76 g77 g78 g79 g80 g81 g82 g83 g84 g85 g86 g87 g88 g89 g90 g91 g122 g123 g124 g125 g126 g127 g128 g129 g130 g131 g132 g133 g134 g135 g136 g137 g138 g139 g140 g141 g142 g143 g144 g145 g146 g147 g148 g149 B hB => L_or6 m q' v hvr (J.length + 1) _ hS h1 h3 nx hmin hbe s0 g1 g5 g6 g7 g8 g11 g13 g15 g16 g17 g18 g19 g20 g21 g22 g23 g24 g25 g26 g27 g28 g29 g30 g31 g32 g33 g34 g35 g36 g37 g38 g39 g40 g41 g42 g43 g44 g45 g46 g47 g48 g49 g50 g51 g52 g53 g54 g55 g56 g57 g58 g59 g60 g61 g62 g63 g64 g65 g66 g67 g68 g69 g70 g71 g72 g73 g74 g75 g76 g77 g78 g79 g80 g81 g82 g83 g84 g85 g86 g87 g88 g89 g90 g91 g122 g123 g124 g125 g126 g127 g128 g129 g130 g131 g132 g133 g134 g135 g136 g137 g138 g139 g140 g141 g142 g143 g144 g145 g146 g147 g148 g149 B hB m
      have hw1 : IntKind.i64.wrap ((nx : Int) + 1) = ((nx + 1 : Nat) : Int) := by rw [wrap_ok (by omega) (by omega)]; omega
      have h5 := app22 [] ((q'.map Fr.D).take nx) rfl (by rw [← List.map_take]; exact rowsOk_Fr _) (by simp [roomB]; omega)
      have h6 := app22 ((q'.map Fr.D).take nx) ((q'.map Fr.D).drop (nx + 1)) (by rw [← List.map_take]; exact rowsOk_Fr _) (by rw [← List.map_drop]; exact rowsOk_Fr _) (by simp [roomB]; omega)
      have h7 : (q'.map Fr.D).take nx ++ (q'.map Fr.D).drop (nx + 1) = (q'.eraseIdx nx).map Fr.D := by
        rw [← eraseIdx_map, List.eraseIdx_eq_take_drop_succ]
      rw [h7] at h6
      have hle : nx ≤ q'.length := by omega
      have hle1 : nx + 1 ≤ q'.length := by omega
      have hk1 : (0 : Int) ≤ (nx : Int) + 1 := by omega
      have hnx0 : ¬ (nx : Int) < 0 := by omega
      have htk : (List.map Fr.D q').take q'.length = q'.map Fr.D := List.take_of_length_le (by simp)
      clear hQ hmin hbe h7 hnx
      generalize q'.eraseIdx nx = q2 at *
      simp [ndq, cellsOf] at e1 e2 h5 h6 hk
      simp (maxSteps := 3000000) [hqne, hqn1, hqn2, e1, ndq, cellsOf, loadS, storeS, ec_loop]
      generalize hL : loopN _ _ _ = L
      obtain ⟨r, rfl, y13, y69, y70, y71, y72, y73, y74, y75, y76, y77, y78, y79, y80, y81, y82, y83, y84, y85, rfl⟩ := at_loop hL (l4 _ _ _ _ _ _ _ _ _ _ _ _ _ _ _ _ _ _ _ _ _ _ _ _ _ _ _ _ _ _ _ _ _ _ _ _ _ _ _ _ _ _ _ _ _ _ _ _ _ _ _ _ _ _ _ _ _ _ _ _ _ _ _ _ _ _ _ _ _ _ _ _ _ _ _ _ _ _ _ _ _ _ _ _ _ _ _ _ _ _ _ _ _ _ _ _ _ _ _ _ _ _ _ _ _ _ _ _ _ _ _ _ _ _ _ _ _ _ _ _ _ _ _ _ _ _ rfl _ _ _ _ _ _ _ _ _ _ _ _ _ _ _ _ _ (by omega))
      simp (maxSteps := 3000000) [hnx0, ec_loop]
      generalize hL6 : loopN _ _ _ = L6
      obtain ⟨r, rfl, y14, y92, y93, y94, y95, y96, y97, y98, y99, y100, y101, y102, y103, y104, y105, y106, y107, y108, y109, y110, y111, y112, y113, y114, y115, y116, y117, y118, y119, y120, y121, rfl⟩ := at_loop hL6 (l6 _ _ _ _ _ _ _ _ _ _ _ _ _ _ _ _ _ _ _ _ _ _ _ _ _ _ _ _ _ _ _ _ _ _ _ _ _ _ _ _ _ _ _ _ _ _ _ _ _ _ _ _ _ _ _ _ _ _ _ _ _ _ _ _ _ _ _ _ _ _ _ _ _ _ _ _ _ _ _ _ _ _ _ _ _ _ _ _ _ _ _ _ _ _ _ _ _ _ _ _ _ _ _ _ _ _ _ _ _ _ _ _ _ rfl _ _ _ _ _ _ _ _ _ _ _ _ _ _ _ _ _ _ _ _ _ _ _ _ _ _ _ _ _ _ (by omega))
      simp (maxSteps := 3000000) [ndq, cellsOf, loadS, storeS, hw1, hk1, evSlice, bound, hle, hle1, htk, h5, h6, rowsFrom, e2]
      exact hk _ _ _ _ _ _ _ _ _ _ _ _ _ _ _ _ _ _ _ _ _ _ _ _ _ _ _ _ _ _ _ _ _ _ _ _ _ _ _ _ _ _ _ _ _ _ _ _ _ _ _ _ _ _ _ _ _ _ _ _ _ _ _ _ _ _ _ _ _ _ _ _ _ _ _ _ _ _ _

theorem L_or2 (m : Nat) (hm : 20 ≤ m) (s0 : PV) (f1 f5 f6 f7 f8 f15 f16 f17 f18 f19 f20 f21 f22 f23 f24 f25 f26 f27 f28 f29 f30 f31 f32 f33 f34 f35 f36 f37 f38 f39 f40 f41 f42 f43 f44 f45 f46 f47 f48 f49 f50 f51 f52 f53 f54 f55 f56 f57 f58 f59 f60 f134 f135 f136 f137 f138 f139 f140 f141 f142 f143 f144 f145 f146 f147 f148 f149 : PV) (B : Code) (hB : Try.f3.body.bind (fun c => (loopsOf c)[1]?) = some B) (k : Nat) (q : List Fr) (J : Store) (x10 x11 x12 x13 x14 x61 x62 x63 x64 x65 x66 x67 x68 x69 x70 x71 x72 x73 x74 x75 x76 x77 x78 x79 x80 x81 x82 x83 x84 x85 x86 x87 x88 x89 x90 x91 x92 x93 x94 x95 x96 x97 x98 x99 x100 x101 x102 x103 x104 x105 x106 x107 x108 x109 x110 x111 x112 x113 x114 x115 x116 x117 x118 x119 x120 x121 x122 x123 x124 x125 x126 x127 x128 x129 x130 x131 x132 x133 : PV) (h1 : q.length ≤ 16) (h2 : q.length < k) (h3 : ∀ x ∈ q, x.right = true) :
    Lp (loopN (evCode E1 (evI E1) m B) k ⟨[s0, f1, .d (.bool false), .d (.bool true), .ptr 0 0, f5, f6, f7, f8, acc (q.map Fr.D), x10, x11, x12, x13, x14, f15, f16, f17, f18, f19, f20, f21, f22, f23, f24, f25, f26, f27, f28, f29, f30, f31, f32, f33, f34, f35, f36, f37, f38, f39, f40, f41, f42, f43, f44, f45, f46, f47, f48, f49, f50, f51, f52, f53, f54, f55, f56, f57, f58, f59, f60, x61, x62, x63, x64, x65, x66, x67, x68, x69, x70, x71, x72, x73, x74, x75, x76, x77, x78, x79, x80, x81, x82, x83, x84, x85, x86, x87, x88, x89, x90, x91, x92, x93, x94, x95, x96, x97, x98, x99, x100, x101, x102, x103, x104, x105, x106, x107, x108, x109, x110, x111, x112, x113, x114, x115, x116, x117, x118, x119, x120, x121, x122, x123, x124, x125, x126, x127, x128, x129, x130, x131, x132, x133, f134, f135, f136, f137, f138, f139, f140, f141, f142, f143, f144, f145, f146, f147, f148, f149], cellsOf (ndq q).P :: J⟩) (fun r => ∃ (J : Store) (y10 y11 y12 y13 y14 y61 y62 y63 y64 y65 y66 y67 y68 y69 y70 y71 y72 y73 y74 y75 y76 y77 y78 y79 y80 y81 y82 y83 y84 y85 y86 y87 y88 y89 y90 y91 y92 y93 y94 y95 y96 y97 y98 y99 y100 y101 y102 y103 y104 y105 y106 y107 y108 y109 y110 y111 y112 y113 y114 y115 y116 y117 y118 y119 y120 y121 y122 y123 y124 y125 y126 y127 y128 y129 y130 y131 y132 y133 : PV), r = (.exit 2, ⟨[s0, f1, .d (.bool false), .d (.bool true), .ptr 0 0, f5, f6, f7, f8, acc ([].map Fr.D), y10, y11, y12, y13, y14, f15, f16, f17, f18, f19, f20, f21, f22, f23, f24, f25, f26, f27, f28, f29, f30, f31, f32, f33, f34, f35, f36, f37, f38, f39, f40, f41, f42, f43, f44, f45, f46, f47, f48, f49, f50, f51, f52, f53, f54, f55, f56, f57, f58, f59, f60, y61, y62, y63, y64, y65, y66, y67, y68, y69, y70, y71, y72, y73, y74, y75, y76, y77, y78, y79, y80, y81, y82, y83, y84, y85, y86, y87, y88, y89, y90, y91, y92, y93, y94, y95, y96, y97, y98, y99, y100, y101, y102, y103, y104, y105, y106, y107, y108, y109, y110, y111, y112, y113, y114, y115, y116, y117, y118, y119, y120, y121, y122, y123, y124, y125, y126, y127, y128, y129, y130, y131, y132, y133, f134, f135, f136, f137, f138, f139, f140, f141, f142, f143, f144, f145, f146, f147, f148, f149], cellsOf (ndq []).P :: J⟩)) :=
  l_or2 m hm s0 f1 f5 f6 f7 f8 f15 f16 f17 f18 f19 f20 f21 f22 f23 f24 f25 f26 f27 f28 f29 f30 f31 f32 f33 f34 f35 f36 f37 f38 f39 f40 f41 f42 f43 f44 f45 f46 f47 f48 f49 f50 f51 f52 f53 f54 f55 f56 f57 f58 f59 f60 f134 f135 f136 f137 f138 f139 f140 f141 f142 f143 f144 f145 f146 f147 f148 f149 B hB _ (fun J y10 y11 y12 y13 y14 y61 y62 y63 y64 y65 y66 y67 y68 y69 y70 y71 y72 y73 y74 y75 y76 y77 y78 y79 y80 y81 y82 y83 y84 y85 y86 y87 y88 y89 y90 y91 y92 y93 y94 y95 y96 y97 y98 y99 y100 y101 y102 y103 y104 y105 y106 y107 y108 y109 y110 y111 y112 y113 y114 y115 y116 y117 y118 y119 y120 y121 y122 y123 y124 y125 y126 y127 y128 y129 y130 y131 y132 y133 => ⟨J, y10, y11, y12, y13, y14, y61, y62, y63, y64, y65, y66, y67, y68, y69, y70, y71, y72, y73, y74, y75, y76, y77, y78, y79, y80, y81, y82, y83, y84, y85, y86, y87, y88, y89, y90, y91, y92, y93, y94, y95, y96, y97, y98, y99, y100, y101, y102, y103, y104, y105, y106, y107, y108, y109, y110, y111, y112, y113, y114, y115, y116, y117, y118, y119, y120, y121, y122, y123, y124, y125, y126, y127, y128, y129, y130, y131, y132, y133, rfl⟩) k q J x10 x11 x12 x13 x14 x61 x62 x63 x64 x65 x66 x67 x68 x69 x70 x71 x72 x73 x74 x75 x76 x77 x78 x79 x80 x81 x82 x83 x84 x85 x86 x87 x88 x89 x90 x91 x92 x93 x94 x95 x96 x97 x98 x99 x100 x101 x102 x103 x104 x105 x106 x107 x108 x109 x110 x111 x112 x113 x114 x115 x116 x117 x118 x119 x120 x121 x122 x123 x124 x125 x126 x127 x128 x129 x130 x131 x132 x133 h1 h2 h3

theorem nodeOrder_true (l : List Fr) : ∃ σ', evI E1 3 [.d (.slice (l.map Fr.D))] [] = some (.d (.bool true), σ') := by
  have h0 := b_head
  by_cases c1 : (l.length : Int) > 16
  · refine evI_ex (fn := Try.f3) 5 rfl Try.func3 rfl ?_
    simp [Try.f3, cellsOf, loadS, storeS, h0, c1]
  · have e1 := b_new [] (by decide)
    have hf : flsRight [] = true := rfl
    have e2 := app22 [] (l.map Fr.D) rfl (rowsOk_Fr _) (by simp [roomB]; omega)
    have e3 := b_Next (ndq []) (by decide) (by simp [ndq])
    have hN : (ndq []).Next = (fr0, false) := rfl
    rw [hN] at e3
    simp [ndNew, hf, ndq, fr0, cellsOf] at e1 e2 e3
    refine evI_ex (fn := Try.f3) 100 rfl Try.func3 rfl ?_
    simp (maxSteps := 3000000) [Try.f3, cellsOf, loadS, storeS, h0, c1, e1, ec_loop]
    generalize hL : loopN _ _ _ = L
    obtain ⟨r, rfl, hr⟩ := at_loop hL (L_or0 100 l (by omega) _ _ _ _ _ _ _ _ _ _ _ _ _ _ _ _ _ _ _ _ _ _ _ _ _ _ _ _ _ _ _ _ _ _ _ _ _ _ _ _ _ _ _ _ _ _ _ _ _ _ _ _ _ _ _ _ _ _ _ _ _ _ _ _ _ _ _ _ _ _ _ _ _ _ _ _ _ _ _ _ _ _ _ _ _ _ _ _ _ _ _ _ _ _ _ _ _ _ _ _ _ _ _ _ _ _ _ _ _ _ _ _ rfl 100 [] _ _ _ _ _ _ _ _ _ _ _ _ _ _ _ _ _ _ _ _ _ _ _ _ _ _ _ _ _ _ _ _ _ _ (by omega))
    rcases hr with ⟨S, y6, y7, y8, y26, y27, y28, y29, y30, y31, y32, y33, y34, y35, y36, y37, y38, y39, y40, y41, y42, y43, y44, y45, y46, y47, y48, y49, y50, y51, y52, y53, y54, y55, y56, y57, rfl⟩ | ⟨J, y6, y7, y8, y26, y27, y28, y29, y30, y31, y32, y33, y34, y35, y36, y37, y38, y39, y40, y41, y42, y43, y44, y45, y46, y47, y48, y49, y50, y51, y52, y53, y54, y55, y56, y57, hr, rfl⟩
    · simp
    · simp (maxSteps := 3000000) [ndq, cellsOf, loadS, storeS, e2, rowsFrom, ec_loop]
      generalize hL2 : loopN _ _ _ = L2
      obtain ⟨r, rfl, J', y10, y11, y12, y13, y14, y61, y62, y63, y64, y65, y66, y67, y68, y69, y70, y71, y72, y73, y74, y75, y76, y77, y78, y79, y80, y81, y82, y83, y84, y85, y86, y87, y88, y89, y90, y91, y92, y93, y94, y95, y96, y97, y98, y99, y100, y101, y102, y103, y104, y105, y106, y107, y108, y109, y110, y111, y112, y113, y114, y115, y116, y117, y118, y119, y120, y121, y122, y123, y124, y125, y126, y127, y128, y129, y130, y131, y132, y133, rfl⟩ := at_loop hL2 (L_or2 100 (by decide) _ _ _ _ _ _ _ _ _ _ _ _ _ _ _ _ _ _ _ _ _ _ _ _ _ _ _ _ _ _ _ _ _ _ _ _ _ _ _ _ _ _ _ _ _ _ _ _ _ _ _ _ _ _ _ _ _ _ _ _ _ _ _ _ _ _ _ _ _ rfl 100 l J _ _ _ _ _ _ _ _ _ _ _ _ _ _ _ _ _ _ _ _ _ _ _ _ _ _ _ _ _ _ _ _ _ _ _ _ _ _ _ _ _ _ _ _ _ _ _ _ _ _ _ _ _ _ _ _ _ _ _ _ _ _ _ _ _ _ _ _ _ _ _ _ _ _ _ _ _ _ (by omega) (by omega) hr)
      simp (maxSteps := 3000000) [ndq, cellsOf, loadS, storeS, e3]

def nodeOrder_types : List TypeId := [22]
theorem arg_slO (x : DV) : argP Try.prog 22 [x] = .d x := by simp [argP]
theorem nodeOrder_args (ps : List PV) (h : OkArgs Try.prog 8 nodeOrder_types ps) : ∃ σ', evI E1 3 ps [] = some (.d (.bool true), σ') := by
  obtain ⟨d1, _, h1, rfl, rfl⟩ := h
  obtain ⟨l, rfl, _⟩ := ok_Frs (d := 4) h1
  rw [arg_slO]
  exact nodeOrder_true l
end Go.Proofs

namespace Go.Proofs.Ytgojeifmkfpknaa.nodeOrder
open Go.ChangeShapes Go.WideShapes Go.ChangeAt Go.RowKit Go.Pv
set_option linter.unusedVariables false
theorem own : ownKnob Try.prog.godebug = none := by kernel_rfl
theorem laidOut : laidOutB Try.prog = true := by kernel_rfl
set_option maxRecDepth 100000 in
theorem lifted (os : Os) (started : os.Started) (H : Type) (enc : TypeId × Value → H) :
    ReturnsInHanded {} Try.checked os 3 .any (Rows.nodeOrderSpec.pre6 enc Try.prog Try.f3 Rows.nodeOrderRow.domain false) (Rows.nodeOrderSpec.post enc Try.prog Try.f3 false true false false) := by
  refine returnsInHanded_of_change_sized (C := Try.checked) own started (by kernel_rfl) Try.func3
    (ChangeSpec.witness6 (enc := enc) (C := Try.checked) false ⟨#[], #[.slice none 0 0], []⟩ 8 (by kernel_rfl) (by kernel_rfl) (by kernel_rfl) (by kernel_rfl)) ?_
  intro W base args ds gs before hval0 hW hcnd hsz0 _
  have hval : ∀ (j : Nat) t v, Try.f3.params[j]? = some t → args[j]? = some v → Value.okWide Try.prog W .any base t v := hval0
  have hW' := hW
  obtain ⟨p, q, hA0, hV, rfl, hfz, hnd⟩ := hW
  have hA : DataW.TrodAll enc Try.prog W 0 (fun _ => true) true Try.f3.params.toList args.toList ds p := hA0
  rw [Try.params3] at hA hval
  obtain ⟨v0, vs0, d0, ds0, p0, q0, hargs0, rfl, rfl, h0, r0⟩ := trodAll_cons hA
  obtain ⟨hn1, rfl, rfl⟩ := trodAll_nil r0
  obtain ⟨rfl, rfl⟩ := trodVars_none hV
  refine (law_calls E1_ok (f := 3) (types := nodeOrder_types) (depth := 8) (by kernel_rfl) nodeOrder_args hA (fun j t v hj hv => hval j t v (by simpa [nodeOrder_types] using hj) hv)).mono fun e W' ⟨he, bel⟩ => ?_
  subst he
  exact ⟨_, rfl, _, _, _, [], _, [], hW', trodAll_mk1 (shut_bool Try.underlying4 _), trodAll_below laidOut bel nodeOrder_types _ _ _ (by kernel_rfl) hA, rfl, bel.frame _, fun h => by cases h⟩
theorem over : Rows.nodeOrderRow.holds Try.pinned (OpenSpec.ofChange Rows.nodeOrderSpec) :=
  OpenClaim.holds_of_wide 3 Try.f3 rfl rfl rfl rfl rfl rfl rfl ⟨rfl, rfl, rfl, rfl, rfl⟩ rfl rfl rfl rfl rfl (by kernel_rfl) Try.func3 (by kernel_rfl)
    (of_decide_eq_true (by kernel_rfl)) (by unfold Func.isWrapper; first | (rw [if_pos (by decide +kernel)]; kernel_rfl) | (rw [if_neg (by decide +kernel)]; exact ⟨rfl, rfl⟩))
    (fun os started H enc _ => lifted os started H enc)
end Go.Proofs.Ytgojeifmkfpknaa.nodeOrder
namespace Go.Proofs.Ytgojeifmkfpknaa
theorem nodeOrder_holds : Rows.NodeOrderSaid := nodeOrder.over
end Go.Proofs.Ytgojeifmkfpknaa
#print axioms Go.Proofs.Ytgojeifmkfpknaa.nodeOrder_holds

