/- NodeGot: of frames that are heard a node has those that its filters take: its call answers true; NodeGot: the given statement, for every input: true, and each argument reads behind the call as it read before. -/
import Derived.Test.YtgojeifmkfpknaaNi
import Derived.Test.YtgojeifmkfpknaaNj
import Derived.Test.YtgojeifmkfpknaaRows
import Derived.WalkKit
import Derived.ProofKit
import Derived.OpenShut
import Derived.ShutString
import Derived.ChangeOld
import Derived.Below
import Derived.SizedLaws
set_option linter.unusedVariables false
set_option linter.unusedSimpArgs false
set_option maxRecDepth 100000
set_option maxHeartbeats 4000000
namespace Go.Proofs
open Go.RowKit Go.Shelf Go.Pv

def gotStep (t : List Fl) (w : List Fr) (x : Fr) : List Fr := if decide ((w.length : Int) < 64) && anyF t x then w ++ [x] else w
def gotAll (t : List Fl) (l : List Fr) : List Fr := l.foldl (gotStep t) []
def nd1 (t : List Fl) (w : List Fr) : Nd := ⟨[], t, ⟨0, 0, 1, 0⟩, w⟩

theorem gotStep_len (t : List Fl) (w : List Fr) (x : Fr) (h : w.length ≤ 64) : (gotStep t w x).length ≤ 64 := by
  unfold gotStep
  split
  · rename_i h; simp at h ⊢; omega
  · exact h

theorem nd1_heard (t : List Fl) (w : List Fr) (x : Fr) : (nd1 t w).Heard x true false = nd1 t (gotStep t w x) := by
  unfold Nd.Heard gotStep nd1
  simp [Nd.off, what, Cn.step, stT, stR, stS, stQ, wkT, wkR]
  decide


theorem l_got1 (m : Nat) (t : List Fl) (l : List Fr) (ht : t.length ≤ 8) (hl : l.length ≤ 100) (f2 f3 f10 f11 f12 f13 f14 f15 f16 f17 f18 f19 f20 f21 f22 f23 f24 f25 f26 f27 f28 f29 f30 f31 f32 f33 f34 f35 f36 f37 f38 f83 f84 f85 f86 f87 f88 f89 f90 f91 f92 f93 f94 f95 f96 f97 f98 f99 f100 f101 f102 f103 f104 f105 f106 f107 f108 f109 f110 f111 f112 f113 f114 f115 f116 f117 f118 f119 f120 f121 f122 f123 : PV) (B : Code) (hB : Try.f5.body.bind (fun c => (loopsOf c)[0]?) = some B)
    (Q : Ex × St → Prop) (q1 : ∀ w' y9 y39 y40 y41 y42 y43 y44 y45 y46 y47 y48 y49 y50 y51 y52 y53 y54 y55 y56 y57 y58 y59 y60 y61 y62 y63 y64 y65 y66 y67 y68 y69 y70 y71 y72 y73 y74 y75 y76 y77 y78 y79 y80 y81 y82, Q (.ret, ⟨[.d (.slice (t.map Fl.D)), .d (.slice (l.map Fr.D)), f2, f3, .d (.bool true), .d (.bool true), .ptr 0 0, .d (.int .i64 0), acc (w'.map Fr.D), y9, f10, f11, f12, f13, f14, f15, f16, f17, f18, f19, f20, f21, f22, f23, f24, f25, f26, f27, f28, f29, f30, f31, f32, f33, f34, f35, f36, f37, f38, y39, y40, y41, y42, y43, y44, y45, y46, y47, y48, y49, y50, y51, y52, y53, y54, y55, y56, y57, y58, y59, y60, y61, y62, y63, y64, y65, y66, y67, y68, y69, y70, y71, y72, y73, y74, y75, y76, y77, y78, y79, y80, y81, y82, f83, f84, f85, f86, f87, f88, f89, f90, f91, f92, f93, f94, f95, f96, f97, f98, f99, f100, f101, f102, f103, f104, f105, f106, f107, f108, f109, f110, f111, f112, f113, f114, f115, f116, f117, f118, f119, f120, f121, f122, f123], [cellsOf (nd1 t w').P]⟩)) (q2 : ∀ w' y9 y39 y40 y41 y42 y43 y44 y45 y46 y47 y48 y49 y50 y51 y52 y53 y54 y55 y56 y57 y58 y59 y60 y61 y62 y63 y64 y65 y66 y67 y68 y69 y70 y71 y72 y73 y74 y75 y76 y77 y78 y79 y80 y81 y82, w'.length ≤ 64 → Q (.exit 0, ⟨[.d (.slice (t.map Fl.D)), .d (.slice (l.map Fr.D)), f2, f3, .d (.bool false), .d (.bool true), .ptr 0 0, .d (.int .i64 0), acc (w'.map Fr.D), y9, f10, f11, f12, f13, f14, f15, f16, f17, f18, f19, f20, f21, f22, f23, f24, f25, f26, f27, f28, f29, f30, f31, f32, f33, f34, f35, f36, f37, f38, y39, y40, y41, y42, y43, y44, y45, y46, y47, y48, y49, y50, y51, y52, y53, y54, y55, y56, y57, y58, y59, y60, y61, y62, y63, y64, y65, y66, y67, y68, y69, y70, y71, y72, y73, y74, y75, y76, y77, y78, y79, y80, y81, y82, f83, f84, f85, f86, f87, f88, f89, f90, f91, f92, f93, f94, f95, f96, f97, f98, f99, f100, f101, f102, f103, f104, f105, f106, f107, f108, f109, f110, f111, f112, f113, f114, f115, f116, f117, f118, f119, f120, f121, f122, f123], [cellsOf (nd1 t w').P]⟩)) :
    ∀ (k i : Nat) (w : List Fr) (x39 x40 x41 x42 x43 x44 x45 x46 x47 x48 x49 x50 x51 x52 x53 x54 x55 x56 x57 x58 x59 x60 x61 x62 x63 x64 x65 x66 x67 x68 x69 x70 x71 x72 x73 x74 x75 x76 x77 x78 x79 x80 x81 x82 : PV), i ≤ l.length → l.length < i + k → w.length ≤ 64 → Lp (loopN (evCode E1 (evI E1) m B) k ⟨[.d (.slice (t.map Fl.D)), .d (.slice (l.map Fr.D)), f2, f3, .d (.bool false), .d (.bool true), .ptr 0 0, .d (.int .i64 0), acc (w.map Fr.D), .d (.int .i64 i), f10, f11, f12, f13, f14, f15, f16, f17, f18, f19, f20, f21, f22, f23, f24, f25, f26, f27, f28, f29, f30, f31, f32, f33, f34, f35, f36, f37, f38, x39, x40, x41, x42, x43, x44, x45, x46, x47, x48, x49, x50, x51, x52, x53, x54, x55, x56, x57, x58, x59, x60, x61, x62, x63, x64, x65, x66, x67, x68, x69, x70, x71, x72, x73, x74, x75, x76, x77, x78, x79, x80, x81, x82, f83, f84, f85, f86, f87, f88, f89, f90, f91, f92, f93, f94, f95, f96, f97, f98, f99, f100, f101, f102, f103, f104, f105, f106, f107, f108, f109, f110, f111, f112, f113, f114, f115, f116, f117, f118, f119, f120, f121, f122, f123], [cellsOf (nd1 t w).P]⟩) Q := by
  simp [Try.f5, loopsOf] at hB
  subst hB
  intro k
  induction k with
  | zero => intros; omega
  | succ k ih =>
    intro i w x39 x40 x41 x42 x43 x44 x45 x46 x47 x48 x49 x50 x51 x52 x53 x54 x55 x56 x57 x58 x59 x60 x61 x62 x63 x64 x65 x66 x67 x68 x69 x70 x71 x72 x73 x74 x75 x76 x77 x78 x79 x80 x81 x82 h1 h2 hw
    rw [loopN_succ]
    by_cases hi : i < l.length
    · have hx : l[i]? = some l[i] := List.getElem?_eq_getElem hi
      generalize l[i] = x at hx
      have hlt : (i : Int) < (l.length : Int) := by omega
      have hw' : IntKind.i64.wrap ((i : Int) + 1) = ((i + 1 : Nat) : Int) := by rw [wrap_ok (by omega) (by omega)]; omega
      have e1 := r_great x
      have e2 := r_right x
      cases c1 : x.great
      · rw [c1] at e1
        cases c2 : x.right
        · rw [c2] at e2
          simp at e1 e2
          simp [hx, hlt, hw', e1, e2, nd1, cellsOf, loadS, storeS]
          exact Lp_some.2 (q1 w _ _ _ _ _ _ _ _ _ _ _ _ _ _ _ _ _ _ _ _ _ _ _ _ _ _ _ _ _ _ _ _ _ _ _ _ _ _ _ _ _ _ _ _ _)
        · rw [c2] at e2
          have e3 := b_Heard (nd1 t w) x true false (by simp only [nd1]; omega) (by simp only [nd1]; omega) (show Cn.ok ⟨0, 0, 1, 0⟩ from ⟨by decide, by decide, by decide⟩)
          rw [nd1_heard] at e3
          have e4 := r_any t x (by omega)
          have e5 := app22 (w.map Fr.D) [x.D] (rowsOk_Fr _) rfl (by simp [roomB]; omega)
          have hk := fun z39 z40 z41 z42 z43 z44 z45 z46 z47 z48 z49 z50 z51 z52 z53 z54 z55 z56 z57 z58 z59 z60 z61 z62 z63 z64 z65 z66 z67 z68 z69 z70 z71 z72 z73 z74 z75 z76 z77 z78 z79 z80 z81 z82 => ih (i + 1) (gotStep t w x) z39 z40 z41 z42 z43 z44 z45 z46 z47 z48 z49 z50 z51 z52 z53 z54 z55 z56 z57 z58 z59 z60 z61 z62 z63 z64 z65 z66 z67 z68 z69 z70 z71 z72 z73 z74 z75 z76 z77 z78 z79 z80 z81 z82 (by omega) (by omega) (gotStep_len t w x hw)
          clear ih q1 q2
          by_cases c3 : (w.length : Int) < 64
          · cases c4 : anyF t x
            · rw [c4] at e4
              have hg : gotStep t w x = w := by simp [gotStep, c4]
              rw [hg] at e3 hk
              simp [nd1, cellsOf] at e1 e2 e3 e4 hk
              simp [hx, hlt, hw', e1, e2, e3, e4, c3, nd1, cellsOf, loadS, storeS]
              exact hk _ _ _ _ _ _ _ _ _ _ _ _ _ _ _ _ _ _ _ _ _ _ _ _ _ _ _ _ _ _ _ _ _ _ _ _ _ _ _ _ _ _ _ _
            · rw [c4] at e4
              have hg : gotStep t w x = w ++ [x] := by simp [gotStep, c4]; omega
              rw [hg] at e3 hk
              simp [nd1, cellsOf] at e1 e2 e3 e4 e5 hk
              simp (maxSteps := 3000000) [hx, hlt, hw', e1, e2, e3, e4, e5, c3, nd1, cellsOf, loadS, storeS, rowsFrom]
              exact hk _ _ _ _ _ _ _ _ _ _ _ _ _ _ _ _ _ _ _ _ _ _ _ _ _ _ _ _ _ _ _ _ _ _ _ _ _ _ _ _ _ _ _ _
          · have hg : gotStep t w x = w := by simp [gotStep]; omega
            rw [hg] at e3 hk
            simp [nd1, cellsOf] at e1 e2 e3 e4 hk
            simp [hx, hlt, hw', e1, e2, e3, c3, nd1, cellsOf, loadS, storeS]
            exact hk _ _ _ _ _ _ _ _ _ _ _ _ _ _ _ _ _ _ _ _ _ _ _ _ _ _ _ _ _ _ _ _ _ _ _ _ _ _ _ _ _ _ _ _
      · rw [c1] at e1
        simp at e1
        simp [hx, hlt, hw', e1, nd1, cellsOf, loadS, storeS]
        exact Lp_some.2 (q1 w _ _ _ _ _ _ _ _ _ _ _ _ _ _ _ _ _ _ _ _ _ _ _ _ _ _ _ _ _ _ _ _ _ _ _ _ _ _ _ _ _ _ _ _ _)
    · have hlt : ¬ (i : Int) < (l.length : Int) := by omega
      simp [hlt, nd1, cellsOf, loadS]
      exact Lp_some.2 (q2 w _ _ _ _ _ _ _ _ _ _ _ _ _ _ _ _ _ _ _ _ _ _ _ _ _ _ _ _ _ _ _ _ _ _ _ _ _ _ _ _ _ _ _ _ _ hw)

theorem L_got1 (m : Nat) (t : List Fl) (l : List Fr) (ht : t.length ≤ 8) (hl : l.length ≤ 100) (B : Code) (hB : Try.f5.body.bind (fun c => (loopsOf c)[0]?) = some B) (k i : Nat) (w : List Fr) (f2 f3 f10 f11 f12 f13 f14 f15 f16 f17 f18 f19 f20 f21 f22 f23 f24 f25 f26 f27 f28 f29 f30 f31 f32 f33 f34 f35 f36 f37 f38 f83 f84 f85 f86 f87 f88 f89 f90 f91 f92 f93 f94 f95 f96 f97 f98 f99 f100 f101 f102 f103 f104 f105 f106 f107 f108 f109 f110 f111 f112 f113 f114 f115 f116 f117 f118 f119 f120 f121 f122 f123 x39 x40 x41 x42 x43 x44 x45 x46 x47 x48 x49 x50 x51 x52 x53 x54 x55 x56 x57 x58 x59 x60 x61 x62 x63 x64 x65 x66 x67 x68 x69 x70 x71 x72 x73 x74 x75 x76 x77 x78 x79 x80 x81 x82 : PV) (h1 : i ≤ l.length) (h2 : l.length < i + k) (h3 : w.length ≤ 64) :
    Lp (loopN (evCode E1 (evI E1) m B) k ⟨[.d (.slice (t.map Fl.D)), .d (.slice (l.map Fr.D)), f2, f3, .d (.bool false), .d (.bool true), .ptr 0 0, .d (.int .i64 0), acc (w.map Fr.D), .d (.int .i64 i), f10, f11, f12, f13, f14, f15, f16, f17, f18, f19, f20, f21, f22, f23, f24, f25, f26, f27, f28, f29, f30, f31, f32, f33, f34, f35, f36, f37, f38, x39, x40, x41, x42, x43, x44, x45, x46, x47, x48, x49, x50, x51, x52, x53, x54, x55, x56, x57, x58, x59, x60, x61, x62, x63, x64, x65, x66, x67, x68, x69, x70, x71, x72, x73, x74, x75, x76, x77, x78, x79, x80, x81, x82, f83, f84, f85, f86, f87, f88, f89, f90, f91, f92, f93, f94, f95, f96, f97, f98, f99, f100, f101, f102, f103, f104, f105, f106, f107, f108, f109, f110, f111, f112, f113, f114, f115, f116, f117, f118, f119, f120, f121, f122, f123], [cellsOf (nd1 t w).P]⟩) (fun r => (∃ w' y9 y39 y40 y41 y42 y43 y44 y45 y46 y47 y48 y49 y50 y51 y52 y53 y54 y55 y56 y57 y58 y59 y60 y61 y62 y63 y64 y65 y66 y67 y68 y69 y70 y71 y72 y73 y74 y75 y76 y77 y78 y79 y80 y81 y82, r = (.ret, ⟨[.d (.slice (t.map Fl.D)), .d (.slice (l.map Fr.D)), f2, f3, .d (.bool true), .d (.bool true), .ptr 0 0, .d (.int .i64 0), acc (w'.map Fr.D), y9, f10, f11, f12, f13, f14, f15, f16, f17, f18, f19, f20, f21, f22, f23, f24, f25, f26, f27, f28, f29, f30, f31, f32, f33, f34, f35, f36, f37, f38, y39, y40, y41, y42, y43, y44, y45, y46, y47, y48, y49, y50, y51, y52, y53, y54, y55, y56, y57, y58, y59, y60, y61, y62, y63, y64, y65, y66, y67, y68, y69, y70, y71, y72, y73, y74, y75, y76, y77, y78, y79, y80, y81, y82, f83, f84, f85, f86, f87, f88, f89, f90, f91, f92, f93, f94, f95, f96, f97, f98, f99, f100, f101, f102, f103, f104, f105, f106, f107, f108, f109, f110, f111, f112, f113, f114, f115, f116, f117, f118, f119, f120, f121, f122, f123], [cellsOf (nd1 t w').P]⟩)) ∨ (∃ w' y9 y39 y40 y41 y42 y43 y44 y45 y46 y47 y48 y49 y50 y51 y52 y53 y54 y55 y56 y57 y58 y59 y60 y61 y62 y63 y64 y65 y66 y67 y68 y69 y70 y71 y72 y73 y74 y75 y76 y77 y78 y79 y80 y81 y82, w'.length ≤ 64 ∧ r = (.exit 0, ⟨[.d (.slice (t.map Fl.D)), .d (.slice (l.map Fr.D)), f2, f3, .d (.bool false), .d (.bool true), .ptr 0 0, .d (.int .i64 0), acc (w'.map Fr.D), y9, f10, f11, f12, f13, f14, f15, f16, f17, f18, f19, f20, f21, f22, f23, f24, f25, f26, f27, f28, f29, f30, f31, f32, f33, f34, f35, f36, f37, f38, y39, y40, y41, y42, y43, y44, y45, y46, y47, y48, y49, y50, y51, y52, y53, y54, y55, y56, y57, y58, y59, y60, y61, y62, y63, y64, y65, y66, y67, y68, y69, y70, y71, y72, y73, y74, y75, y76, y77, y78, y79, y80, y81, y82, f83, f84, f85, f86, f87, f88, f89, f90, f91, f92, f93, f94, f95, f96, f97, f98, f99, f100, f101, f102, f103, f104, f105, f106, f107, f108, f109, f110, f111, f112, f113, f114, f115, f116, f117, f118, f119, f120, f121, f122, f123], [cellsOf (nd1 t w').P]⟩))) :=
  l_got1 m t l ht hl f2 f3 f10 f11 f12 f13 f14 f15 f16 f17 f18 f19 f20 f21 f22 f23 f24 f25 f26 f27 f28 f29 f30 f31 f32 f33 f34 f35 f36 f37 f38 f83 f84 f85 f86 f87 f88 f89 f90 f91 f92 f93 f94 f95 f96 f97 f98 f99 f100 f101 f102 f103 f104 f105 f106 f107 f108 f109 f110 f111 f112 f113 f114 f115 f116 f117 f118 f119 f120 f121 f122 f123 B hB _ (fun w' y9 y39 y40 y41 y42 y43 y44 y45 y46 y47 y48 y49 y50 y51 y52 y53 y54 y55 y56 y57 y58 y59 y60 y61 y62 y63 y64 y65 y66 y67 y68 y69 y70 y71 y72 y73 y74 y75 y76 y77 y78 y79 y80 y81 y82 => .inl ⟨w', y9, y39, y40, y41, y42, y43, y44, y45, y46, y47, y48, y49, y50, y51, y52, y53, y54, y55, y56, y57, y58, y59, y60, y61, y62, y63, y64, y65, y66, y67, y68, y69, y70, y71, y72, y73, y74, y75, y76, y77, y78, y79, y80, y81, y82, rfl⟩) (fun w' y9 y39 y40 y41 y42 y43 y44 y45 y46 y47 y48 y49 y50 y51 y52 y53 y54 y55 y56 y57 y58 y59 y60 y61 y62 y63 y64 y65 y66 y67 y68 y69 y70 y71 y72 y73 y74 y75 y76 y77 y78 y79 y80 y81 y82 h => .inr ⟨w', y9, y39, y40, y41, y42, y43, y44, y45, y46, y47, y48, y49, y50, y51, y52, y53, y54, y55, y56, y57, y58, y59, y60, y61, y62, y63, y64, y65, y66, y67, y68, y69, y70, y71, y72, y73, y74, y75, y76, y77, y78, y79, y80, y81, y82, h, rfl⟩) k i w x39 x40 x41 x42 x43 x44 x45 x46 x47 x48 x49 x50 x51 x52 x53 x54 x55 x56 x57 x58 x59 x60 x61 x62 x63 x64 x65 x66 x67 x68 x69 x70 x71 x72 x73 x74 x75 x76 x77 x78 x79 x80 x81 x82 h1 h2 h3


theorem l_got2 (m : Nat) (t : List Fl) (l w : List Fr) (hw : w.length ≤ 64) (f2 f3 f9 f14 f15 f16 f17 f18 f19 f20 f21 f22 f23 f24 f25 f26 f27 f28 f29 f30 f31 f32 f33 f34 f35 f36 f37 f38 f39 f40 f41 f42 f43 f44 f45 f46 f47 f48 f49 f50 f51 f52 f53 f54 f55 f56 f57 f58 f59 f60 f61 f62 f63 f64 f65 f66 f67 f68 f69 f70 f71 f72 f73 f74 f75 f76 f77 f78 f79 f80 f81 f82 f107 f108 f109 f110 f111 f112 f113 f114 f115 f116 f117 f118 f119 f120 f121 f122 f123 : PV) (B : Code) (hB : Try.f5.body.bind (fun c => (loopsOf c)[1]?) = some B)
    (Q : Ex × St → Prop) (q : ∀ J' y10 y11 y12 y13 y83 y84 y85 y86 y87 y88 y89 y90 y91 y92 y93 y94 y95 y96 y97 y98 y99 y100 y101 y102 y103 y104 y105 y106, Q (.exit 2, ⟨[.d (.slice (t.map Fl.D)), .d (.slice (l.map Fr.D)), f2, f3, .d (.bool false), .d (.bool true), .ptr 0 0, .d (.int .i64 0), acc (w.map Fr.D), f9, y10, y11, y12, y13, f14, f15, f16, f17, f18, f19, f20, f21, f22, f23, f24, f25, f26, f27, f28, f29, f30, f31, f32, f33, f34, f35, f36, f37, f38, f39, f40, f41, f42, f43, f44, f45, f46, f47, f48, f49, f50, f51, f52, f53, f54, f55, f56, f57, f58, f59, f60, f61, f62, f63, f64, f65, f66, f67, f68, f69, f70, f71, f72, f73, f74, f75, f76, f77, f78, f79, f80, f81, f82, y83, y84, y85, y86, y87, y88, y89, y90, y91, y92, y93, y94, y95, y96, y97, y98, y99, y100, y101, y102, y103, y104, y105, y106, f107, f108, f109, f110, f111, f112, f113, f114, f115, f116, f117, f118, f119, f120, f121, f122, f123], cellsOf (nd1 t []).P :: J'⟩)) :
    ∀ (k i : Nat) (J : Store) (x11 x12 x13 x83 x84 x85 x86 x87 x88 x89 x90 x91 x92 x93 x94 x95 x96 x97 x98 x99 x100 x101 x102 x103 x104 x105 x106 : PV), i ≤ w.length → w.length < i + k → Lp (loopN (evCode E1 (evI E1) m B) k ⟨[.d (.slice (t.map Fl.D)), .d (.slice (l.map Fr.D)), f2, f3, .d (.bool false), .d (.bool true), .ptr 0 0, .d (.int .i64 0), acc (w.map Fr.D), f9, .d (.int .i64 i), x11, x12, x13, f14, f15, f16, f17, f18, f19, f20, f21, f22, f23, f24, f25, f26, f27, f28, f29, f30, f31, f32, f33, f34, f35, f36, f37, f38, f39, f40, f41, f42, f43, f44, f45, f46, f47, f48, f49, f50, f51, f52, f53, f54, f55, f56, f57, f58, f59, f60, f61, f62, f63, f64, f65, f66, f67, f68, f69, f70, f71, f72, f73, f74, f75, f76, f77, f78, f79, f80, f81, f82, x83, x84, x85, x86, x87, x88, x89, x90, x91, x92, x93, x94, x95, x96, x97, x98, x99, x100, x101, x102, x103, x104, x105, x106, f107, f108, f109, f110, f111, f112, f113, f114, f115, f116, f117, f118, f119, f120, f121, f122, f123], cellsOf (nd1 t (w.drop i)).P :: J⟩) Q := by
  simp [Try.f5, loopsOf] at hB
  subst hB
  intro k
  induction k with
  | zero => intros; omega
  | succ k ih =>
    intro i J x11 x12 x13 x83 x84 x85 x86 x87 x88 x89 x90 x91 x92 x93 x94 x95 x96 x97 x98 x99 x100 x101 x102 x103 x104 x105 x106 h1 h2
    rw [loopN_succ]
    by_cases hi : i < w.length
    · have hx : w[i]? = some w[i] := List.getElem?_eq_getElem hi
      have hd : w.drop i = w[i] :: w.drop (i + 1) := List.drop_eq_getElem_cons hi
      generalize w[i] = x at hx hd
      have hlt : (i : Int) < (w.length : Int) := by omega
      have hw' : IntKind.i64.wrap ((i : Int) + 1) = ((i + 1 : Nat) : Int) := by rw [wrap_ok (by omega) (by omega)]; omega
      have hg : (w.drop i).length ≤ 64 := by simp; omega
      have e1 := b_Take (nd1 t (w.drop i)) (by simp only [nd1]; omega)
      rw [hd] at e1 ⊢
      have e2 := r_same x x
      rw [x.same_refl] at e2
      have hk := fun J z11 z12 z13 z83 z84 z85 z86 z87 z88 z89 z90 z91 z92 z93 z94 z95 z96 z97 z98 z99 z100 z101 z102 z103 z104 z105 z106 => ih (i + 1) J z11 z12 z13 z83 z84 z85 z86 z87 z88 z89 z90 z91 z92 z93 z94 z95 z96 z97 z98 z99 z100 z101 z102 z103 z104 z105 z106 (by omega) (by omega)
      clear ih q
      generalize w.drop (i + 1) = v at e1 hk
      simp [nd1, cellsOf, Nd.Take] at e1 e2 hk
      simp [hx, hlt, hw', e1, e2, nd1, cellsOf, loadS, storeS]
      exact hk _ _ _ _ _ _ _ _ _ _ _ _ _ _ _ _ _ _ _ _ _ _ _ _ _ _ _ _
    · have hlt : ¬ (i : Int) < (w.length : Int) := by omega
      have hd : w.drop i = [] := List.drop_eq_nil_of_le (by omega)
      rw [hd]
      simp [hlt, nd1, cellsOf, loadS]
      exact Lp_some.2 (q _ _ _ _ _ _ _ _ _ _ _ _ _ _ _ _ _ _ _ _ _ _ _ _ _ _ _ _ _)

theorem L_got2 (m : Nat) (t : List Fl) (l w : List Fr) (hw : w.length ≤ 64) (B : Code) (hB : Try.f5.body.bind (fun c => (loopsOf c)[1]?) = some B) (k i : Nat) (J : Store) (f2 f3 f9 f14 f15 f16 f17 f18 f19 f20 f21 f22 f23 f24 f25 f26 f27 f28 f29 f30 f31 f32 f33 f34 f35 f36 f37 f38 f39 f40 f41 f42 f43 f44 f45 f46 f47 f48 f49 f50 f51 f52 f53 f54 f55 f56 f57 f58 f59 f60 f61 f62 f63 f64 f65 f66 f67 f68 f69 f70 f71 f72 f73 f74 f75 f76 f77 f78 f79 f80 f81 f82 f107 f108 f109 f110 f111 f112 f113 f114 f115 f116 f117 f118 f119 f120 f121 f122 f123 x11 x12 x13 x83 x84 x85 x86 x87 x88 x89 x90 x91 x92 x93 x94 x95 x96 x97 x98 x99 x100 x101 x102 x103 x104 x105 x106 : PV) (h1 : i ≤ w.length) (h2 : w.length < i + k) :
    Lp (loopN (evCode E1 (evI E1) m B) k ⟨[.d (.slice (t.map Fl.D)), .d (.slice (l.map Fr.D)), f2, f3, .d (.bool false), .d (.bool true), .ptr 0 0, .d (.int .i64 0), acc (w.map Fr.D), f9, .d (.int .i64 i), x11, x12, x13, f14, f15, f16, f17, f18, f19, f20, f21, f22, f23, f24, f25, f26, f27, f28, f29, f30, f31, f32, f33, f34, f35, f36, f37, f38, f39, f40, f41, f42, f43, f44, f45, f46, f47, f48, f49, f50, f51, f52, f53, f54, f55, f56, f57, f58, f59, f60, f61, f62, f63, f64, f65, f66, f67, f68, f69, f70, f71, f72, f73, f74, f75, f76, f77, f78, f79, f80, f81, f82, x83, x84, x85, x86, x87, x88, x89, x90, x91, x92, x93, x94, x95, x96, x97, x98, x99, x100, x101, x102, x103, x104, x105, x106, f107, f108, f109, f110, f111, f112, f113, f114, f115, f116, f117, f118, f119, f120, f121, f122, f123], cellsOf (nd1 t (w.drop i)).P :: J⟩) (fun r => ∃ J' y10 y11 y12 y13 y83 y84 y85 y86 y87 y88 y89 y90 y91 y92 y93 y94 y95 y96 y97 y98 y99 y100 y101 y102 y103 y104 y105 y106, r = (.exit 2, ⟨[.d (.slice (t.map Fl.D)), .d (.slice (l.map Fr.D)), f2, f3, .d (.bool false), .d (.bool true), .ptr 0 0, .d (.int .i64 0), acc (w.map Fr.D), f9, y10, y11, y12, y13, f14, f15, f16, f17, f18, f19, f20, f21, f22, f23, f24, f25, f26, f27, f28, f29, f30, f31, f32, f33, f34, f35, f36, f37, f38, f39, f40, f41, f42, f43, f44, f45, f46, f47, f48, f49, f50, f51, f52, f53, f54, f55, f56, f57, f58, f59, f60, f61, f62, f63, f64, f65, f66, f67, f68, f69, f70, f71, f72, f73, f74, f75, f76, f77, f78, f79, f80, f81, f82, y83, y84, y85, y86, y87, y88, y89, y90, y91, y92, y93, y94, y95, y96, y97, y98, y99, y100, y101, y102, y103, y104, y105, y106, f107, f108, f109, f110, f111, f112, f113, f114, f115, f116, f117, f118, f119, f120, f121, f122, f123], cellsOf (nd1 t []).P :: J'⟩)) :=
  l_got2 m t l w hw f2 f3 f9 f14 f15 f16 f17 f18 f19 f20 f21 f22 f23 f24 f25 f26 f27 f28 f29 f30 f31 f32 f33 f34 f35 f36 f37 f38 f39 f40 f41 f42 f43 f44 f45 f46 f47 f48 f49 f50 f51 f52 f53 f54 f55 f56 f57 f58 f59 f60 f61 f62 f63 f64 f65 f66 f67 f68 f69 f70 f71 f72 f73 f74 f75 f76 f77 f78 f79 f80 f81 f82 f107 f108 f109 f110 f111 f112 f113 f114 f115 f116 f117 f118 f119 f120 f121 f122 f123 B hB _ (fun J' y10 y11 y12 y13 y83 y84 y85 y86 y87 y88 y89 y90 y91 y92 y93 y94 y95 y96 y97 y98 y99 y100 y101 y102 y103 y104 y105 y106 => ⟨J', y10, y11, y12, y13, y83, y84, y85, y86, y87, y88, y89, y90, y91, y92, y93, y94, y95, y96, y97, y98, y99, y100, y101, y102, y103, y104, y105, y106, rfl⟩) k i J x11 x12 x13 x83 x84 x85 x86 x87 x88 x89 x90 x91 x92 x93 x94 x95 x96 x97 x98 x99 x100 x101 x102 x103 x104 x105 x106 h1 h2

theorem nodeGot_true (t : List Fl) (l : List Fr) : ∃ σ', evI E1 5 [.d (.slice (t.map Fl.D)), .d (.slice (l.map Fr.D))] [] = some (.d (.bool true), σ') := by
  have h0 := b_head
  by_cases c1 : (l.length : Int) > 100
  · refine evI_ex (fn := Try.f5) 5 rfl Try.func5 rfl ?_
    simp [Try.f5, cellsOf, loadS, storeS, h0, c1]
  by_cases c2 : (t.length : Int) > 8
  · refine evI_ex (fn := Try.f5) 5 rfl Try.func5 rfl ?_
    simp [Try.f5, cellsOf, loadS, storeS, h0, c1, c2]
  have e1 := b_new t (by omega)
  cases c3 : flsRight t
  · simp [ndNew, c3, nd0] at e1
    refine evI_ex (fn := Try.f5) 5 rfl Try.func5 rfl ?_
    simp [Try.f5, cellsOf, loadS, storeS, h0, c1, c2, e1]
  · simp [ndNew, c3] at e1
    refine evI_ex (fn := Try.f5) 1000 rfl Try.func5 rfl ?_
    simp (maxSteps := 3000000) [Try.f5, cellsOf, loadS, storeS, h0, c1, c2, e1, ec_loop]
    generalize hL : loopN _ _ _ = L
    obtain ⟨r, rfl, hr⟩ := at_loop hL (L_got1 1000 t l (by omega) (by omega) _ rfl 1000 0 [] _ _ _ _ _ _ _ _ _ _ _ _ _ _ _ _ _ _ _ _ _ _ _ _ _ _ _ _ _ _ _ _ _ _ _ _ _ _ _ _ _ _ _ _ _ _ _ _ _ _ _ _ _ _ _ _ _ _ _ _ _ _ _ _ _ _ _ _ _ _ _ _ _ _ _ _ _ _ _ _ _ _ _ _ _ _ _ _ _ _ _ _ _ _ _ _ _ _ _ _ _ _ _ _ _ _ _ _ _ _ _ _ _ _ _ _ (by omega) (by omega) (by simp))
    rcases hr with ⟨w, y9, y39, y40, y41, y42, y43, y44, y45, y46, y47, y48, y49, y50, y51, y52, y53, y54, y55, y56, y57, y58, y59, y60, y61, y62, y63, y64, y65, y66, y67, y68, y69, y70, y71, y72, y73, y74, y75, y76, y77, y78, y79, y80, y81, y82, rfl⟩ | ⟨w, y9, y39, y40, y41, y42, y43, y44, y45, y46, y47, y48, y49, y50, y51, y52, y53, y54, y55, y56, y57, y58, y59, y60, y61, y62, y63, y64, y65, y66, y67, y68, y69, y70, y71, y72, y73, y74, y75, y76, y77, y78, y79, y80, y81, y82, hw, rfl⟩
    · simp
    · have e2 := b_Take (nd1 t []) (by simp [nd1])
      have e3 := r_countNew
      simp [nd1, cellsOf, Nd.Take, fr0] at e2 e3
      simp (maxSteps := 3000000) [nd1, cellsOf, loadS, storeS, ec_loop]
      generalize hL2 : loopN _ _ _ = L2
      obtain ⟨r, rfl, J', y10, y11, y12, y13, y83, y84, y85, y86, y87, y88, y89, y90, y91, y92, y93, y94, y95, y96, y97, y98, y99, y100, y101, y102, y103, y104, y105, y106, rfl⟩ := at_loop hL2 (L_got2 1000 t l w hw _ rfl 1000 0 [] _ _ _ _ _ _ _ _ _ _ _ _ _ _ _ _ _ _ _ _ _ _ _ _ _ _ _ _ _ _ _ _ _ _ _ _ _ _ _ _ _ _ _ _ _ _ _ _ _ _ _ _ _ _ _ _ _ _ _ _ _ _ _ _ _ _ _ _ _ _ _ _ _ _ _ _ _ _ _ _ _ _ _ _ _ _ _ _ _ _ _ _ _ _ _ _ _ _ _ _ _ _ _ _ _ _ _ _ _ _ _ _ _ _ _ _ (by omega) (by omega))
      simp (maxSteps := 3000000) [nd1, cellsOf, loadS, storeS, e2, e3]

def nodeGot_types : List TypeId := [24, 22]
theorem arg_sl1 (x : DV) : argP Try.prog 24 [x] = .d x := by simp [argP]
theorem arg_sl2 (x : DV) : argP Try.prog 22 [x] = .d x := by simp [argP]
theorem nodeGot_args (ps : List PV) (h : OkArgs Try.prog 8 nodeGot_types ps) : ∃ σ', evI E1 5 ps [] = some (.d (.bool true), σ') := by
  obtain ⟨d1, _, h1, rfl, d2, _, h2, rfl, rfl⟩ := h
  obtain ⟨t, rfl, _⟩ := ok_Fls (d := 5) h1
  obtain ⟨l, rfl, _⟩ := ok_Frs (d := 4) h2
  rw [arg_sl1, arg_sl2]
  exact nodeGot_true t l
end Go.Proofs

namespace Go.Proofs.Ytgojeifmkfpknaa.nodeGot
open Go.ChangeShapes Go.WideShapes Go.ChangeAt Go.RowKit Go.Pv
set_option linter.unusedVariables false
theorem own : ownKnob Try.prog.godebug = none := by kernel_rfl
theorem laidOut : laidOutB Try.prog = true := by kernel_rfl
set_option maxRecDepth 100000 in
theorem lifted (os : Os) (started : os.Started) (H : Type) (enc : TypeId × Value → H) :
    ReturnsInHanded {} Try.checked os 5 .any (Rows.nodeGotSpec.pre6 enc Try.prog Try.f5 Rows.nodeGotRow.domain false) (Rows.nodeGotSpec.post enc Try.prog Try.f5 false true false false) := by
  refine returnsInHanded_of_change_sized (C := Try.checked) own started (by kernel_rfl) Try.func5
    (ChangeSpec.witness6 (enc := enc) (C := Try.checked) false ⟨#[], #[.slice none 0 0, .slice none 0 0], []⟩ 8 (by kernel_rfl) (by kernel_rfl) (by kernel_rfl) (by kernel_rfl)) ?_
  intro W base args ds gs before hval0 hW hcnd hsz0 _
  have hval : ∀ (j : Nat) t v, Try.f5.params[j]? = some t → args[j]? = some v → Value.okWide Try.prog W .any base t v := hval0
  have hW' := hW
  obtain ⟨p, q, hA0, hV, rfl, hfz, hnd⟩ := hW
  have hA : DataW.TrodAll enc Try.prog W 0 (fun _ => true) true Try.f5.params.toList args.toList ds p := hA0
  rw [Try.params5] at hA hval
  obtain ⟨v0, vs0, d0, ds0, p0, q0, hargs0, rfl, rfl, h0, r0⟩ := trodAll_cons hA
  obtain ⟨v1, vs1, d1, ds1, p1, q1, hargs1, rfl, rfl, h1, r1⟩ := trodAll_cons r0
  obtain ⟨hn1, rfl, rfl⟩ := trodAll_nil r1
  obtain ⟨rfl, rfl⟩ := trodVars_none hV
  refine (law_calls E1_ok (f := 5) (types := nodeGot_types) (depth := 8) (by kernel_rfl) nodeGot_args hA (fun j t v hj hv => hval j t v (by simpa [nodeGot_types] using hj) hv)).mono fun e W' ⟨he, bel⟩ => ?_
  subst he
  exact ⟨_, rfl, _, _, _, [], _, [], hW', trodAll_mk1 (shut_bool Try.underlying4 _), trodAll_below laidOut bel nodeGot_types _ _ _ (by kernel_rfl) hA, rfl, bel.frame _, fun h => by cases h⟩
theorem over : Rows.nodeGotRow.holds Try.pinned (OpenSpec.ofChange Rows.nodeGotSpec) :=
  OpenClaim.holds_of_wide 5 Try.f5 rfl rfl rfl rfl rfl rfl rfl ⟨rfl, rfl, rfl, rfl, rfl⟩ rfl rfl rfl rfl rfl (by kernel_rfl) Try.func5 (by kernel_rfl)
    (of_decide_eq_true (by kernel_rfl)) (by unfold Func.isWrapper; first | (rw [if_pos (by decide +kernel)]; kernel_rfl) | (rw [if_neg (by decide +kernel)]; exact ⟨rfl, rfl⟩))
    (fun os started H enc _ => lifted os started H enc)
end Go.Proofs.Ytgojeifmkfpknaa.nodeGot
namespace Go.Proofs.Ytgojeifmkfpknaa
theorem nodeGot_holds : Rows.NodeGotSaid := nodeGot.over
end Go.Proofs.Ytgojeifmkfpknaa
#print axioms Go.Proofs.Ytgojeifmkfpknaa.nodeGot_holds

