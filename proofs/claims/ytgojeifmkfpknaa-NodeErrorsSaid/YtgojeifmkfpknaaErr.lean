/- NodeErrors: what is not sent stays, and is next again, so often as a node has strength: its call answers true; NodeErrors: the given statement, for every input: true, and each argument reads behind the call as it read before. -/
import Derived.Test.YtgojeifmkfpknaaNh
import Derived.Test.YtgojeifmkfpknaaRows
import Derived.WalkKit
import Derived.ProofKit
import Derived.OpenShut
import Derived.ShutString
import Derived.ChangeOld
import Derived.Below
import Derived.SizedLaws
set_option linter.unusedVariables false
set_option linter.unusedSimpArgs false
set_option maxRecDepth 100000
set_option maxHeartbeats 4000000
namespace Go.Proofs
open Go.RowKit Go.Shelf Go.Pv

theorem b_head (σ : Store) : callIt E1 (evI E1) 10 [] σ = some (.d (.bool true), σ) := by
  obtain ⟨σ', h⟩ : ∃ σ', evI E1 10 [] [] = some (.d (.bool true), σ') := by
    have h := head_true
    unfold isTrue at h
    split at h
    · rename_i σ' he; exact ⟨σ', evI_iff.2 ⟨_, he⟩⟩
    · cases h
  have ho : E1.ov 10 = none := rfl
  have hp : E1.pure 10 = true := rfl
  simp [callIt, ho, hp, h]

theorem conv_u8 (x : Int) : evConvert Try.prog 5 3 (.d (.int .u8 x)) = some (.d (.int .i64 (IntKind.i64.wrap x))) := by kernel_rfl

theorem Fr.rright_eq (f : Fr) : f.rright = f.right := by
  rw [Bool.eq_iff_iff, f.right_iff]
  unfold Fr.rright
  obtain ⟨e, id, rm, ln, data⟩ := f
  have hd : data = [] ↔ data.length = 0 := by simp
  cases e <;> cases rm <;> simp <;> (try rw [hd]) <;> omega

def errC (k : Nat) : Cn := if 32 ≤ k then ⟨256, 0, 3, 0⟩ else ⟨8 * k, 0, if 16 ≤ k then 2 else 1, 0⟩

theorem errC_step (f : Fr) (k : Nat) : (Nd.mk [f] [] (errC k) []).Sent false = Nd.mk [f] [] (errC (k + 1)) [] := by
  unfold Nd.Sent Nd.off errC
  by_cases h : 32 ≤ k
  · have h' : 32 ≤ k + 1 := by omega
    simp [h, h']
  · by_cases h2 : 16 ≤ k
    · by_cases h1 : 32 ≤ k + 1
      · have : (k : Int) = 31 := by omega
        simp [h, h1, h2, Cn.step, stT, stR, stS, stQ, wkT, wkR, this]
      · have a1 : ¬ (255 : Int) < 8 * (k : Int) + 8 := by omega
        have a2 : (127 : Int) < max (8 * (k : Int) + 8) 0 := by omega
        have a3 : 16 ≤ k + 1 := by omega
        simp [h, h1, h2, a3, Cn.step, stT, stR, stS, stQ, wkT, wkR, a1, a2]
        omega
    · have h1 : ¬ 32 ≤ k + 1 := by omega
      have a1 : ¬ (255 : Int) < 8 * (k : Int) + 8 := by omega
      by_cases h3 : 16 ≤ k + 1
      · have a2 : (127 : Int) < max (8 * (k : Int) + 8) 0 := by omega
        simp [h, h1, h2, h3, Cn.step, stT, stR, stS, stQ, wkT, wkR, a1, a2]
        omega
      · have a2 : ¬ (127 : Int) < max (8 * (k : Int) + 8) 0 := by omega
        simp [h, h1, h2, h3, Cn.step, stT, stR, stS, stQ, wkT, wkR, a1, a2]
        omega

theorem errC_ok (k : Nat) : (errC k).ok := by
  unfold errC Cn.ok
  split
  · exact ⟨by decide, by decide, by decide⟩
  · simp only; omega


theorem l_err (m : Nat) (f g : Fr) (hf : f.right = true) (k : Nat) (hk : k < 40) (B : Code) (hB : Try.f4.body.bind bodyOf = some B) :
    ∀ (n i : Nat) (x0 x1 x2 x9 x13 x14 x15 x16 x18 x19 x20 x21 x22 x23 x24 x25 x26 x27 x28 x29 x30 x31 x32 x33 x34 x35 x36 x37 x38 x39 x40 x41 x42 x43 x44 x45 x46 x47 x48 x49 x50 x51 x52 x53 x54 x55 x56 x57 x58 x59 x60 x61 x62 x63 x64 x65 x66 x67 x68 x69 x70 x71 x72 x73 x74 x75 x76 x77 x78 x79 x80 x81 x82 x83 x84 x85 x86 x87 x88 x89 x90 x91 x92 x93 x94 x95 x96 x97 x98 x99 x100 x101 x102 x103 x104 x105 x106 x107 x108 x109 x110 x111 x112 x113 x114 x115 x116 x117 : PV), i ≤ k → k < i + n →
      ∃ y12 y48 y49 y50 y51 y52 y53 y54, loopN (evCode E1 (evI E1) m B) n ⟨[x0, x1, x2, .ptr 0 0, .ptr 1 0, .undef, .d (.bool false), .d (.bool true), .ptr 2 0, x9, .d (.int .i64 0), .d (.int .i64 k), .d (.int .i64 i), x13, x14, x15, x16, .d (.bool true), x18, x19, x20, x21, x22, x23, x24, x25, x26, x27, x28, x29, x30, x31, x32, x33, x34, x35, x36, x37, x38, x39, x40, x41, x42, x43, x44, x45, x46, x47, x48, x49, x50, x51, x52, x53, x54, x55, x56, x57, x58, x59, x60, x61, x62, x63, x64, x65, x66, x67, x68, x69, x70, x71, x72, x73, x74, x75, x76, x77, x78, x79, x80, x81, x82, x83, x84, x85, x86, x87, x88, x89, x90, x91, x92, x93, x94, x95, x96, x97, x98, x99, x100, x101, x102, x103, x104, x105, x106, x107, x108, x109, x110, x111, x112, x113, x114, x115, x116, x117], [cellsOf f.P, cellsOf g.P, cellsOf (Nd.mk [f] [] (errC i) []).P]⟩ = some (.exit 0, ⟨[x0, x1, x2, .ptr 0 0, .ptr 1 0, .undef, .d (.bool false), .d (.bool true), .ptr 2 0, x9, .d (.int .i64 0), .d (.int .i64 k), y12, x13, x14, x15, x16, .d (.bool true), x18, x19, x20, x21, x22, x23, x24, x25, x26, x27, x28, x29, x30, x31, x32, x33, x34, x35, x36, x37, x38, x39, x40, x41, x42, x43, x44, x45, x46, x47, y48, y49, y50, y51, y52, y53, y54, x55, x56, x57, x58, x59, x60, x61, x62, x63, x64, x65, x66, x67, x68, x69, x70, x71, x72, x73, x74, x75, x76, x77, x78, x79, x80, x81, x82, x83, x84, x85, x86, x87, x88, x89, x90, x91, x92, x93, x94, x95, x96, x97, x98, x99, x100, x101, x102, x103, x104, x105, x106, x107, x108, x109, x110, x111, x112, x113, x114, x115, x116, x117], [cellsOf f.P, cellsOf g.P, cellsOf (Nd.mk [f] [] (errC k) []).P]⟩) := by
  simp [Try.f4, bodyOf] at hB
  subst hB
  intro n
  induction n with
  | zero => intros; omega
  | succ n ih =>
    intro i x0 x1 x2 x9 x13 x14 x15 x16 x18 x19 x20 x21 x22 x23 x24 x25 x26 x27 x28 x29 x30 x31 x32 x33 x34 x35 x36 x37 x38 x39 x40 x41 x42 x43 x44 x45 x46 x47 x48 x49 x50 x51 x52 x53 x54 x55 x56 x57 x58 x59 x60 x61 x62 x63 x64 x65 x66 x67 x68 x69 x70 x71 x72 x73 x74 x75 x76 x77 x78 x79 x80 x81 x82 x83 x84 x85 x86 x87 x88 x89 x90 x91 x92 x93 x94 x95 x96 x97 x98 x99 x100 x101 x102 x103 x104 x105 x106 x107 x108 x109 x110 x111 x112 x113 x114 x115 x116 x117 h1 h2
    rw [loopN_succ]
    by_cases hi : i < k
    · have hlt : (i : Int) < (k : Int) := by omega
      have hw' : IntKind.i64.wrap ((i : Int) + 1) = ((i + 1 : Nat) : Int) := by rw [wrap_ok (by omega) (by omega)]; omega
      have hs := b_Sent (Nd.mk [f] [] (errC i) []) false (by simp) (by simpa using hf) (errC_ok i)
      rw [errC_step] at hs
      have hk := fun z0 z1 z2 z9 z13 z14 z15 z16 z18 z19 z20 z21 z22 z23 z24 z25 z26 z27 z28 z29 z30 z31 z32 z33 z34 z35 z36 z37 z38 z39 z40 z41 z42 z43 z44 z45 z46 z47 z48 z49 z50 z51 z52 z53 z54 z55 z56 z57 z58 z59 z60 z61 z62 z63 z64 z65 z66 z67 z68 z69 z70 z71 z72 z73 z74 z75 z76 z77 z78 z79 z80 z81 z82 z83 z84 z85 z86 z87 z88 z89 z90 z91 z92 z93 z94 z95 z96 z97 z98 z99 z100 z101 z102 z103 z104 z105 z106 z107 z108 z109 z110 z111 z112 z113 z114 z115 z116 z117 => ih (i + 1) z0 z1 z2 z9 z13 z14 z15 z16 z18 z19 z20 z21 z22 z23 z24 z25 z26 z27 z28 z29 z30 z31 z32 z33 z34 z35 z36 z37 z38 z39 z40 z41 z42 z43 z44 z45 z46 z47 z48 z49 z50 z51 z52 z53 z54 z55 z56 z57 z58 z59 z60 z61 z62 z63 z64 z65 z66 z67 z68 z69 z70 z71 z72 z73 z74 z75 z76 z77 z78 z79 z80 z81 z82 z83 z84 z85 z86 z87 z88 z89 z90 z91 z92 z93 z94 z95 z96 z97 z98 z99 z100 z101 z102 z103 z104 z105 z106 z107 z108 z109 z110 z111 z112 z113 z114 z115 z116 z117 (by omega) (by omega)
      generalize errC i = C at hs
      generalize errC (i + 1) = C' at hs hk
      generalize errC k = D at hk
      simp [cellsOf] at hs hk
      simp [hlt, hw', hs, cellsOf, loadS, storeS]
      exact hk _ _ _ _ _ _ _ _ _ _ _ _ _ _ _ _ _ _ _ _ _ _ _ _ _ _ _ _ _ _ _ _ _ _ _ _ _ _ _ _ _ _ _ _ _ _ _ _ _ _ _ _ _ _ _ _ _ _ _ _ _ _ _ _ _ _ _ _ _ _ _ _ _ _ _ _ _ _ _ _ _ _ _ _ _ _ _ _ _ _ _ _ _ _ _ _ _ _ _ _ _ _ _ _ _ _ _ _
    · have hlt : ¬ (i : Int) < (k : Int) := by omega
      obtain rfl : i = k := by omega
      simp [hlt, cellsOf, loadS]

theorem L_err (m : Nat) (f g : Fr) (hf : f.right = true) (k : Nat) (hk : k < 40) (B : Code) (hB : Try.f4.body.bind bodyOf = some B) (n i : Nat) (h1 : i ≤ k) (h2 : k < i + n) :
    ∃ Y : St → Nat → PV, ∀ (x0 x1 x2 x9 x13 x14 x15 x16 x18 x19 x20 x21 x22 x23 x24 x25 x26 x27 x28 x29 x30 x31 x32 x33 x34 x35 x36 x37 x38 x39 x40 x41 x42 x43 x44 x45 x46 x47 x48 x49 x50 x51 x52 x53 x54 x55 x56 x57 x58 x59 x60 x61 x62 x63 x64 x65 x66 x67 x68 x69 x70 x71 x72 x73 x74 x75 x76 x77 x78 x79 x80 x81 x82 x83 x84 x85 x86 x87 x88 x89 x90 x91 x92 x93 x94 x95 x96 x97 x98 x99 x100 x101 x102 x103 x104 x105 x106 x107 x108 x109 x110 x111 x112 x113 x114 x115 x116 x117 : PV), loopN (evCode E1 (evI E1) m B) n ⟨[x0, x1, x2, .ptr 0 0, .ptr 1 0, .undef, .d (.bool false), .d (.bool true), .ptr 2 0, x9, .d (.int .i64 0), .d (.int .i64 k), .d (.int .i64 i), x13, x14, x15, x16, .d (.bool true), x18, x19, x20, x21, x22, x23, x24, x25, x26, x27, x28, x29, x30, x31, x32, x33, x34, x35, x36, x37, x38, x39, x40, x41, x42, x43, x44, x45, x46, x47, x48, x49, x50, x51, x52, x53, x54, x55, x56, x57, x58, x59, x60, x61, x62, x63, x64, x65, x66, x67, x68, x69, x70, x71, x72, x73, x74, x75, x76, x77, x78, x79, x80, x81, x82, x83, x84, x85, x86, x87, x88, x89, x90, x91, x92, x93, x94, x95, x96, x97, x98, x99, x100, x101, x102, x103, x104, x105, x106, x107, x108, x109, x110, x111, x112, x113, x114, x115, x116, x117], [cellsOf f.P, cellsOf g.P, cellsOf (Nd.mk [f] [] (errC i) []).P]⟩ = some (.exit 0, ⟨[x0, x1, x2, .ptr 0 0, .ptr 1 0, .undef, .d (.bool false), .d (.bool true), .ptr 2 0, x9, .d (.int .i64 0), .d (.int .i64 k), (Y ⟨[x0, x1, x2, .ptr 0 0, .ptr 1 0, .undef, .d (.bool false), .d (.bool true), .ptr 2 0, x9, .d (.int .i64 0), .d (.int .i64 k), .d (.int .i64 i), x13, x14, x15, x16, .d (.bool true), x18, x19, x20, x21, x22, x23, x24, x25, x26, x27, x28, x29, x30, x31, x32, x33, x34, x35, x36, x37, x38, x39, x40, x41, x42, x43, x44, x45, x46, x47, x48, x49, x50, x51, x52, x53, x54, x55, x56, x57, x58, x59, x60, x61, x62, x63, x64, x65, x66, x67, x68, x69, x70, x71, x72, x73, x74, x75, x76, x77, x78, x79, x80, x81, x82, x83, x84, x85, x86, x87, x88, x89, x90, x91, x92, x93, x94, x95, x96, x97, x98, x99, x100, x101, x102, x103, x104, x105, x106, x107, x108, x109, x110, x111, x112, x113, x114, x115, x116, x117], [cellsOf f.P, cellsOf g.P, cellsOf (Nd.mk [f] [] (errC i) []).P]⟩ 12), x13, x14, x15, x16, .d (.bool true), x18, x19, x20, x21, x22, x23, x24, x25, x26, x27, x28, x29, x30, x31, x32, x33, x34, x35, x36, x37, x38, x39, x40, x41, x42, x43, x44, x45, x46, x47, (Y ⟨[x0, x1, x2, .ptr 0 0, .ptr 1 0, .undef, .d (.bool false), .d (.bool true), .ptr 2 0, x9, .d (.int .i64 0), .d (.int .i64 k), .d (.int .i64 i), x13, x14, x15, x16, .d (.bool true), x18, x19, x20, x21, x22, x23, x24, x25, x26, x27, x28, x29, x30, x31, x32, x33, x34, x35, x36, x37, x38, x39, x40, x41, x42, x43, x44, x45, x46, x47, x48, x49, x50, x51, x52, x53, x54, x55, x56, x57, x58, x59, x60, x61, x62, x63, x64, x65, x66, x67, x68, x69, x70, x71, x72, x73, x74, x75, x76, x77, x78, x79, x80, x81, x82, x83, x84, x85, x86, x87, x88, x89, x90, x91, x92, x93, x94, x95, x96, x97, x98, x99, x100, x101, x102, x103, x104, x105, x106, x107, x108, x109, x110, x111, x112, x113, x114, x115, x116, x117], [cellsOf f.P, cellsOf g.P, cellsOf (Nd.mk [f] [] (errC i) []).P]⟩ 48), (Y ⟨[x0, x1, x2, .ptr 0 0, .ptr 1 0, .undef, .d (.bool false), .d (.bool true), .ptr 2 0, x9, .d (.int .i64 0), .d (.int .i64 k), .d (.int .i64 i), x13, x14, x15, x16, .d (.bool true), x18, x19, x20, x21, x22, x23, x24, x25, x26, x27, x28, x29, x30, x31, x32, x33, x34, x35, x36, x37, x38, x39, x40, x41, x42, x43, x44, x45, x46, x47, x48, x49, x50, x51, x52, x53, x54, x55, x56, x57, x58, x59, x60, x61, x62, x63, x64, x65, x66, x67, x68, x69, x70, x71, x72, x73, x74, x75, x76, x77, x78, x79, x80, x81, x82, x83, x84, x85, x86, x87, x88, x89, x90, x91, x92, x93, x94, x95, x96, x97, x98, x99, x100, x101, x102, x103, x104, x105, x106, x107, x108, x109, x110, x111, x112, x113, x114, x115, x116, x117], [cellsOf f.P, cellsOf g.P, cellsOf (Nd.mk [f] [] (errC i) []).P]⟩ 49), (Y ⟨[x0, x1, x2, .ptr 0 0, .ptr 1 0, .undef, .d (.bool false), .d (.bool true), .ptr 2 0, x9, .d (.int .i64 0), .d (.int .i64 k), .d (.int .i64 i), x13, x14, x15, x16, .d (.bool true), x18, x19, x20, x21, x22, x23, x24, x25, x26, x27, x28, x29, x30, x31, x32, x33, x34, x35, x36, x37, x38, x39, x40, x41, x42, x43, x44, x45, x46, x47, x48, x49, x50, x51, x52, x53, x54, x55, x56, x57, x58, x59, x60, x61, x62, x63, x64, x65, x66, x67, x68, x69, x70, x71, x72, x73, x74, x75, x76, x77, x78, x79, x80, x81, x82, x83, x84, x85, x86, x87, x88, x89, x90, x91, x92, x93, x94, x95, x96, x97, x98, x99, x100, x101, x102, x103, x104, x105, x106, x107, x108, x109, x110, x111, x112, x113, x114, x115, x116, x117], [cellsOf f.P, cellsOf g.P, cellsOf (Nd.mk [f] [] (errC i) []).P]⟩ 50), (Y ⟨[x0, x1, x2, .ptr 0 0, .ptr 1 0, .undef, .d (.bool false), .d (.bool true), .ptr 2 0, x9, .d (.int .i64 0), .d (.int .i64 k), .d (.int .i64 i), x13, x14, x15, x16, .d (.bool true), x18, x19, x20, x21, x22, x23, x24, x25, x26, x27, x28, x29, x30, x31, x32, x33, x34, x35, x36, x37, x38, x39, x40, x41, x42, x43, x44, x45, x46, x47, x48, x49, x50, x51, x52, x53, x54, x55, x56, x57, x58, x59, x60, x61, x62, x63, x64, x65, x66, x67, x68, x69, x70, x71, x72, x73, x74, x75, x76, x77, x78, x79, x80, x81, x82, x83, x84, x85, x86, x87, x88, x89, x90, x91, x92, x93, x94, x95, x96, x97, x98, x99, x100, x101, x102, x103, x104, x105, x106, x107, x108, x109, x110, x111, x112, x113, x114, x115, x116, x117], [cellsOf f.P, cellsOf g.P, cellsOf (Nd.mk [f] [] (errC i) []).P]⟩ 51), (Y ⟨[x0, x1, x2, .ptr 0 0, .ptr 1 0, .undef, .d (.bool false), .d (.bool true), .ptr 2 0, x9, .d (.int .i64 0), .d (.int .i64 k), .d (.int .i64 i), x13, x14, x15, x16, .d (.bool true), x18, x19, x20, x21, x22, x23, x24, x25, x26, x27, x28, x29, x30, x31, x32, x33, x34, x35, x36, x37, x38, x39, x40, x41, x42, x43, x44, x45, x46, x47, x48, x49, x50, x51, x52, x53, x54, x55, x56, x57, x58, x59, x60, x61, x62, x63, x64, x65, x66, x67, x68, x69, x70, x71, x72, x73, x74, x75, x76, x77, x78, x79, x80, x81, x82, x83, x84, x85, x86, x87, x88, x89, x90, x91, x92, x93, x94, x95, x96, x97, x98, x99, x100, x101, x102, x103, x104, x105, x106, x107, x108, x109, x110, x111, x112, x113, x114, x115, x116, x117], [cellsOf f.P, cellsOf g.P, cellsOf (Nd.mk [f] [] (errC i) []).P]⟩ 52), (Y ⟨[x0, x1, x2, .ptr 0 0, .ptr 1 0, .undef, .d (.bool false), .d (.bool true), .ptr 2 0, x9, .d (.int .i64 0), .d (.int .i64 k), .d (.int .i64 i), x13, x14, x15, x16, .d (.bool true), x18, x19, x20, x21, x22, x23, x24, x25, x26, x27, x28, x29, x30, x31, x32, x33, x34, x35, x36, x37, x38, x39, x40, x41, x42, x43, x44, x45, x46, x47, x48, x49, x50, x51, x52, x53, x54, x55, x56, x57, x58, x59, x60, x61, x62, x63, x64, x65, x66, x67, x68, x69, x70, x71, x72, x73, x74, x75, x76, x77, x78, x79, x80, x81, x82, x83, x84, x85, x86, x87, x88, x89, x90, x91, x92, x93, x94, x95, x96, x97, x98, x99, x100, x101, x102, x103, x104, x105, x106, x107, x108, x109, x110, x111, x112, x113, x114, x115, x116, x117], [cellsOf f.P, cellsOf g.P, cellsOf (Nd.mk [f] [] (errC i) []).P]⟩ 53), (Y ⟨[x0, x1, x2, .ptr 0 0, .ptr 1 0, .undef, .d (.bool false), .d (.bool true), .ptr 2 0, x9, .d (.int .i64 0), .d (.int .i64 k), .d (.int .i64 i), x13, x14, x15, x16, .d (.bool true), x18, x19, x20, x21, x22, x23, x24, x25, x26, x27, x28, x29, x30, x31, x32, x33, x34, x35, x36, x37, x38, x39, x40, x41, x42, x43, x44, x45, x46, x47, x48, x49, x50, x51, x52, x53, x54, x55, x56, x57, x58, x59, x60, x61, x62, x63, x64, x65, x66, x67, x68, x69, x70, x71, x72, x73, x74, x75, x76, x77, x78, x79, x80, x81, x82, x83, x84, x85, x86, x87, x88, x89, x90, x91, x92, x93, x94, x95, x96, x97, x98, x99, x100, x101, x102, x103, x104, x105, x106, x107, x108, x109, x110, x111, x112, x113, x114, x115, x116, x117], [cellsOf f.P, cellsOf g.P, cellsOf (Nd.mk [f] [] (errC i) []).P]⟩ 54), x55, x56, x57, x58, x59, x60, x61, x62, x63, x64, x65, x66, x67, x68, x69, x70, x71, x72, x73, x74, x75, x76, x77, x78, x79, x80, x81, x82, x83, x84, x85, x86, x87, x88, x89, x90, x91, x92, x93, x94, x95, x96, x97, x98, x99, x100, x101, x102, x103, x104, x105, x106, x107, x108, x109, x110, x111, x112, x113, x114, x115, x116, x117], [cellsOf f.P, cellsOf g.P, cellsOf (Nd.mk [f] [] (errC k) []).P]⟩) := by
  obtain ⟨Y, hY⟩ := skol (evCode E1 (evI E1) m B) n
  refine ⟨Y, fun x0 x1 x2 x9 x13 x14 x15 x16 x18 x19 x20 x21 x22 x23 x24 x25 x26 x27 x28 x29 x30 x31 x32 x33 x34 x35 x36 x37 x38 x39 x40 x41 x42 x43 x44 x45 x46 x47 x48 x49 x50 x51 x52 x53 x54 x55 x56 x57 x58 x59 x60 x61 x62 x63 x64 x65 x66 x67 x68 x69 x70 x71 x72 x73 x74 x75 x76 x77 x78 x79 x80 x81 x82 x83 x84 x85 x86 x87 x88 x89 x90 x91 x92 x93 x94 x95 x96 x97 x98 x99 x100 x101 x102 x103 x104 x105 x106 x107 x108 x109 x110 x111 x112 x113 x114 x115 x116 x117 => ?_⟩
  obtain ⟨y12, y48, y49, y50, y51, y52, y53, y54, h⟩ := l_err m f g hf k hk B hB n i x0 x1 x2 x9 x13 x14 x15 x16 x18 x19 x20 x21 x22 x23 x24 x25 x26 x27 x28 x29 x30 x31 x32 x33 x34 x35 x36 x37 x38 x39 x40 x41 x42 x43 x44 x45 x46 x47 x48 x49 x50 x51 x52 x53 x54 x55 x56 x57 x58 x59 x60 x61 x62 x63 x64 x65 x66 x67 x68 x69 x70 x71 x72 x73 x74 x75 x76 x77 x78 x79 x80 x81 x82 x83 x84 x85 x86 x87 x88 x89 x90 x91 x92 x93 x94 x95 x96 x97 x98 x99 x100 x101 x102 x103 x104 x105 x106 x107 x108 x109 x110 x111 x112 x113 x114 x115 x116 x117 h1 h2
  have hh := hY _ _ _ _ h
  rw [h]
  simp only [← hh]
  rfl

theorem flsRight_nil : flsRight [] = true := rfl

theorem nodeErrors_true (f g : Fr) (t : Int) (ht : 0 ≤ t ∧ t ≤ 255) : ∃ σ', evI E1 4 [f.P, g.P, .d (.int .u8 t)] [] = some (.d (.bool true), σ') := by
  have h0 := b_head
  have e1 := r_great f
  have e2 := r_great g
  have e3 := r_right0 f
  have e4 := r_right0 g
  rw [Fr.rright_eq] at e3 e4
  simp at e1 e2 e3 e4
  cases c1 : f.great
  · rw [c1] at e1
    cases c2 : g.great
    · rw [c2] at e2
      cases c3 : f.right
      · rw [c3] at e3
        refine evI_ex (fn := Try.f4) 5 rfl Try.func4 rfl ?_
        simp [Try.f4, cellsOf, loadS, storeS, h0, e1, e2, e3]
      · rw [c3] at e3
        cases c4 : g.right
        · rw [c4] at e4
          refine evI_ex (fn := Try.f4) 5 rfl Try.func4 rfl ?_
          simp [Try.f4, cellsOf, loadS, storeS, h0, e1, e2, e3, e4]
        · rw [c4] at e4
          obtain ⟨k, hk⟩ : ∃ k : Nat, (k : Int) = t % 40 := ⟨(t % 40).toNat, by omega⟩
          have hk40 : k < 40 := by omega
          have hrem : evBin Try.prog .rem 3 (.d (.int .i64 t)) (.d (.int .i64 40)) = some (.d (.int .i64 k)) := by
            rw [bin_rem (by decide), Int.tmod_eq_emod_of_nonneg ht.1, hk]
          have hw : IntKind.i64.wrap t = t := wrap_ok (by omega) (by omega)
          have n1 := b_new [] (by decide)
          have n2 := b_Send (Nd.mk [] [] ⟨0, 0, 1, 0⟩ []) f (by decide)
          have hs1 : (Nd.mk [] [] ⟨0, 0, 1, 0⟩ []).Send f = (Nd.mk [f] [] (errC 0) [], 0) := by simp [Nd.Send, c3, Nd.off, errC]
          have n3 := b_Next (Nd.mk [f] [] (errC k) []) (by simp) (by simpa using c3)
          have n4 := b_Send (Nd.mk [f] [] (errC k) []) g (by simp)
          have n5 := r_same f f
          rw [f.same_refl] at n5
          rw [hs1] at n2
          obtain ⟨Y, l1⟩ := L_err (k + 1) f g c3 k hk40 _ rfl (k + 1) 0 (by omega) (by omega)
          refine evI_ex (fn := Try.f4) (k + 1) rfl Try.func4 rfl ?_
          simp [ndNew, flsRight_nil] at n1
          by_cases h32 : 32 ≤ k
          · have h32' : (32 : Int) ≤ k := by omega
            have hn : (Nd.mk [f] [] (errC k) []).Next = (fr0, false) := by simp [Nd.Next, Nd.off, errC, h32]
            have hs : (Nd.mk [f] [] (errC k) []).Send g = (Nd.mk [f] [] (errC k) [], 3) := by simp [Nd.Send, c4, Nd.off, errC, h32]
            have hc : errC k = ⟨256, 0, 3, 0⟩ := by simp [errC, h32]
            rw [hn] at n3
            rw [hs] at n4
            generalize errC k = C at hc n3 n4 l1
            generalize errC 0 = C0 at n2 l1
            subst hc
            simp [cellsOf, fr0] at n2 n3 n4 l1
            simp (maxSteps := 2000000) [Try.f4, ec_loop, cellsOf, loadS, storeS, h0, e1, e2, e3, e4, n1, n2, conv_u8, hw, hrem, l1, n3, n4, h32']
          · have h32' : ¬ (32 : Int) ≤ k := by omega
            have hn : (Nd.mk [f] [] (errC k) []).Next = (f, true) := by
              have hx : nxt [f] = 0 := by have := nxt_lt (q := [f]) (by simp); simp at this; exact this
              simp [Nd.Next, Nd.off, errC, h32, hx]
              split <;> decide
            have hs : (Nd.mk [f] [] (errC k) []).Send g = (Nd.mk [f, g] [] (errC k) [], 0) := by
              simp [Nd.Send, c4, Nd.off, errC, h32]
              split <;> decide
            have hc : (errC k).t = 8 * k := by simp [errC, h32]
            have hw8 : IntKind.i64.wrap (8 * (k : Int)) = 8 * k := wrap_ok (by omega) (by omega)
            rw [hn] at n3
            rw [hs] at n4
            generalize errC k = C at hc n3 n4 l1
            generalize errC 0 = C0 at n2 l1
            obtain ⟨ct, cr, cs, cz⟩ := C
            simp only at hc
            subst hc
            simp [cellsOf] at n2 n3 n4 n5 l1
            simp (maxSteps := 2000000) [Try.f4, ec_loop, cellsOf, loadS, storeS, h0, e1, e2, e3, e4, n1, n2, conv_u8, hw, hrem, l1, n3, n4, n5, h32', hw8]
    · rw [c2] at e2
      refine evI_ex (fn := Try.f4) 5 rfl Try.func4 rfl ?_
      simp [Try.f4, cellsOf, loadS, storeS, h0, e1, e2]
  · rw [c1] at e1
    refine evI_ex (fn := Try.f4) 5 rfl Try.func4 rfl ?_
    simp [Try.f4, cellsOf, loadS, storeS, h0, e1]

def nodeErrors_types : List TypeId := [35, 35, 5]
theorem arg_u8 (x : Int) : argP Try.prog 5 (byD x) = .d (.int .u8 x) := by simp [argP, Try.underlying5]
theorem nodeErrors_args (ps : List PV) (h : OkArgs Try.prog 8 nodeErrors_types ps) : ∃ σ', evI E1 4 ps [] = some (.d (.bool true), σ') := by
  obtain ⟨d1, _, h1, rfl, d2, _, h2, rfl, d3, _, h3, rfl, rfl⟩ := h
  obtain ⟨f, rfl, _⟩ := ok_Fr (d := 5) h1
  obtain ⟨g, rfl, _⟩ := ok_Fr (d := 5) h2
  obtain ⟨t, rfl, ht⟩ := ok_by (d := 7) h3
  rw [arg_Fr, arg_Fr, arg_u8]
  exact nodeErrors_true f g t ht
end Go.Proofs

namespace Go.Proofs.Ytgojeifmkfpknaa.nodeErrors
open Go.ChangeShapes Go.WideShapes Go.ChangeAt Go.RowKit Go.Pv
set_option linter.unusedVariables false
theorem own : ownKnob Try.prog.godebug = none := by kernel_rfl
theorem laidOut : laidOutB Try.prog = true := by kernel_rfl
set_option maxRecDepth 100000 in
theorem lifted (os : Os) (started : os.Started) (H : Type) (enc : TypeId × Value → H) :
    ReturnsInHanded {} Try.checked os 4 .any (Rows.nodeErrorsSpec.pre6 enc Try.prog Try.f4 Rows.nodeErrorsRow.domain false) (Rows.nodeErrorsSpec.post enc Try.prog Try.f4 false true false false) := by
  refine returnsInHanded_of_change_sized (C := Try.checked) own started (by kernel_rfl) Try.func4
    (ChangeSpec.witness6 (enc := enc) (C := Try.checked) false ⟨#[], #[.agg #[.bool false, .int .i64 0, .bool false, .int .i64 0, .slice none 0 0], .agg #[.bool false, .int .i64 0, .bool false, .int .i64 0, .slice none 0 0], .int .u8 0], []⟩ 8 (by kernel_rfl) (by kernel_rfl) (by kernel_rfl) (by kernel_rfl)) ?_
  intro W base args ds gs before hval0 hW hcnd hsz0 _
  have hval : ∀ (j : Nat) t v, Try.f4.params[j]? = some t → args[j]? = some v → Value.okWide Try.prog W .any base t v := hval0
  have hW' := hW
  obtain ⟨p, q, hA0, hV, rfl, hfz, hnd⟩ := hW
  have hA : DataW.TrodAll enc Try.prog W 0 (fun _ => true) true Try.f4.params.toList args.toList ds p := hA0
  rw [Try.params4] at hA hval
  obtain ⟨v0, vs0, d0, ds0, p0, q0, hargs0, rfl, rfl, h0, r0⟩ := trodAll_cons hA
  obtain ⟨v1, vs1, d1, ds1, p1, q1, hargs1, rfl, rfl, h1, r1⟩ := trodAll_cons r0
  obtain ⟨v2, vs2, d2, ds2, p2, q2, hargs2, rfl, rfl, h2, r2⟩ := trodAll_cons r1
  obtain ⟨hn1, rfl, rfl⟩ := trodAll_nil r2
  obtain ⟨rfl, rfl⟩ := trodVars_none hV
  refine (law_calls E1_ok (f := 4) (types := nodeErrors_types) (depth := 8) (by kernel_rfl) nodeErrors_args hA (fun j t v hj hv => hval j t v (by simpa [nodeErrors_types] using hj) hv)).mono fun e W' ⟨he, bel⟩ => ?_
  subst he
  exact ⟨_, rfl, _, _, _, [], _, [], hW', trodAll_mk1 (shut_bool Try.underlying4 _), trodAll_below laidOut bel nodeErrors_types _ _ _ (by kernel_rfl) hA, rfl, bel.frame _, fun h => by cases h⟩
theorem over : Rows.nodeErrorsRow.holds Try.pinned (OpenSpec.ofChange Rows.nodeErrorsSpec) :=
  OpenClaim.holds_of_wide 4 Try.f4 rfl rfl rfl rfl rfl rfl rfl ⟨rfl, rfl, rfl, rfl, rfl⟩ rfl rfl rfl rfl rfl (by kernel_rfl) Try.func4 (by kernel_rfl)
    (of_decide_eq_true (by kernel_rfl)) (by unfold Func.isWrapper; first | (rw [if_pos (by decide +kernel)]; kernel_rfl) | (rw [if_neg (by decide +kernel)]; exact ⟨rfl, rfl⟩))
    (fun os started H enc _ => lifted os started H enc)
end Go.Proofs.Ytgojeifmkfpknaa.nodeErrors
namespace Go.Proofs.Ytgojeifmkfpknaa
theorem nodeErrors_holds : Rows.NodeErrorsSaid := nodeErrors.over
end Go.Proofs.Ytgojeifmkfpknaa
#print axioms Go.Proofs.Ytgojeifmkfpknaa.nodeErrors_holds

