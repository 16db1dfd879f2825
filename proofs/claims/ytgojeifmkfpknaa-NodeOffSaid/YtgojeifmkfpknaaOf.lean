/- NodeOff: a node that is Off neither sends nor hears; behind 128 quiet whiles it does: its call answers true; NodeOff: the given statement, for every input: true, and each argument reads behind the call as it read before. -/
import Derived.Test.YtgojeifmkfpknaaNj
import Derived.Test.YtgojeifmkfpknaaRows
import Derived.WalkKit
import Derived.ProofKit
import Derived.OpenShut
import Derived.ShutString
import Derived.ChangeOld
import Derived.Below
import Derived.SizedLaws
set_option linter.unusedVariables false
set_option linter.unusedSimpArgs false
set_option maxRecDepth 100000
set_option maxHeartbeats 4000000
namespace Go.Proofs
open Go.RowKit Go.Shelf Go.Pv

def offC (i : Nat) : Cn := if i = 128 then ⟨0, 0, 1, 0⟩ else ⟨256, 0, 3, i⟩
def Nd.at (n : Nd) (c : Cn) : Nd := { n with c := c }

theorem offC_step (i : Nat) (h : i < 128) : (offC i).step 6 = offC (i + 1) := by
  unfold offC
  have h1 : i ≠ 128 := by omega
  by_cases h2 : i + 1 = 128
  · have : (i : Int) + 1 = 128 := by omega
    simp [h1, h2, Cn.step, stT, stR, stS, stQ, this]
  · have : ¬ (i : Int) + 1 = 128 := by omega
    simp [h1, h2, Cn.step, stT, stR, stS, stQ, this]


theorem l_off (m : Nat) (n : Nd) (f : Fr) (hq : n.q.length ≤ 16 ∧ ∀ x ∈ n.q, x.right = true) (hg : n.g.length ≤ 64) (hf : n.fs.length ≤ 8) (s0 s2 s3 : List PV) (B : Code) (hB : Try.f9.body.bind (fun c => (loopsOf c)[0]?) = some B) :
    ∀ (k i : Nat) (x0 x1 x2 x5 x8 x9 x10 x11 x14 x15 x16 x17 x18 x19 x20 x21 x22 x23 x24 x25 x26 x27 x28 x29 x30 x31 x32 x33 x34 x35 x36 x37 x38 x39 x40 x41 x42 x43 x44 x45 x46 x47 x48 x49 x50 x51 x52 x53 x54 x55 x56 x57 x58 x59 x60 x61 x62 x63 x64 x65 x66 x67 x68 x69 x70 x71 x72 x73 x74 x75 x76 x77 x78 x79 x80 x81 x82 x83 x84 x85 x86 x87 x88 x89 x90 x91 x92 x93 x94 x95 x96 x97 x98 x99 x100 x101 x102 x103 x104 x105 x106 x107 x108 x109 x110 x111 x112 x113 x114 x115 x116 x117 x118 x119 : PV), i ≤ 128 → 128 < i + k →
      Lp (loopN (evCode E1 (evI E1) m B) k ⟨[x0, x1, x2, .ptr 0 0, .ptr 1 0, x5, .d (.bool false), .d (.bool true), x8, x9, x10, x11, .ptr 4 0, .d (.int .i64 i), x14, x15, x16, x17, x18, x19, x20, x21, x22, x23, x24, x25, x26, x27, x28, x29, x30, x31, x32, x33, x34, x35, x36, x37, x38, x39, x40, x41, x42, x43, x44, x45, x46, x47, x48, x49, x50, x51, x52, x53, x54, x55, x56, x57, x58, x59, x60, x61, x62, x63, x64, x65, x66, x67, x68, x69, x70, x71, x72, x73, x74, x75, x76, x77, x78, x79, x80, x81, x82, x83, x84, x85, x86, x87, x88, x89, x90, x91, x92, x93, x94, x95, x96, x97, x98, x99, x100, x101, x102, x103, x104, x105, x106, x107, x108, x109, x110, x111, x112, x113, x114, x115, x116, x117, x118, x119], [s0, cellsOf f.P, s2, s3, cellsOf (n.at (offC i)).P]⟩) fun r => ∃ y53 y54 y55 y56 y57 y58 y59 y60 y61 y62 y63 y64 y65 y66 y67 y68 y69 y70 y71 y72 y73 y74 y75 y76 y77 z, r = (.exit 0, ⟨[x0, x1, x2, .ptr 0 0, .ptr 1 0, x5, .d (.bool false), .d (.bool true), x8, x9, x10, x11, .ptr 4 0, z, x14, x15, x16, x17, x18, x19, x20, x21, x22, x23, x24, x25, x26, x27, x28, x29, x30, x31, x32, x33, x34, x35, x36, x37, x38, x39, x40, x41, x42, x43, x44, x45, x46, x47, x48, x49, x50, x51, x52, y53, y54, y55, y56, y57, y58, y59, y60, y61, y62, y63, y64, y65, y66, y67, y68, y69, y70, y71, y72, y73, y74, y75, y76, y77, x78, x79, x80, x81, x82, x83, x84, x85, x86, x87, x88, x89, x90, x91, x92, x93, x94, x95, x96, x97, x98, x99, x100, x101, x102, x103, x104, x105, x106, x107, x108, x109, x110, x111, x112, x113, x114, x115, x116, x117, x118, x119], [s0, cellsOf f.P, s2, s3, cellsOf (n.at ⟨0, 0, 1, 0⟩).P]⟩) := by
  simp [Try.f9, loopsOf] at hB
  subst hB
  intro k
  induction k with
  | zero => intros; omega
  | succ k ih =>
    intro i x0 x1 x2 x5 x8 x9 x10 x11 x14 x15 x16 x17 x18 x19 x20 x21 x22 x23 x24 x25 x26 x27 x28 x29 x30 x31 x32 x33 x34 x35 x36 x37 x38 x39 x40 x41 x42 x43 x44 x45 x46 x47 x48 x49 x50 x51 x52 x53 x54 x55 x56 x57 x58 x59 x60 x61 x62 x63 x64 x65 x66 x67 x68 x69 x70 x71 x72 x73 x74 x75 x76 x77 x78 x79 x80 x81 x82 x83 x84 x85 x86 x87 x88 x89 x90 x91 x92 x93 x94 x95 x96 x97 x98 x99 x100 x101 x102 x103 x104 x105 x106 x107 x108 x109 x110 x111 x112 x113 x114 x115 x116 x117 x118 x119 h1 h2
    rw [loopN_succ]
    by_cases hi : i < 128
    · have hlt : (i : Int) < 128 := by omega
      have hw' : IntKind.i64.wrap ((i : Int) + 1) = ((i + 1 : Nat) : Int) := by rw [wrap_ok (by omega) (by omega)]; omega
      have hc : offC i = ⟨256, 0, 3, i⟩ := by unfold offC; rw [if_neg (by omega)]
      have hok : (offC i).ok := by rw [hc]; unfold Cn.ok; simp only; omega
      have a1 := b_Heard (n.at (offC i)) f true false (by simp only [Nd.at]; omega) (by simp only [Nd.at]; omega) hok
      have a2 := b_Sent (n.at (offC i)) true (by simp only [Nd.at]; omega) hq.2 hok
      have a3 := b_Quiet (n.at (offC i)) hok
      have a4 := r_sameNd (n.at (offC i)) (by simp only [Nd.at]; omega) (by simp only [Nd.at]; omega) (by simp only [Nd.at]; omega)
      have b1 : (n.at (offC i)).Heard f true false = n.at (offC i) := by rw [hc]; rfl
      have b2 : (n.at (offC i)).Sent true = n.at (offC i) := by rw [hc]; rfl
      have b3 : (n.at (offC i)).Quiet = n.at (offC (i + 1)) := by rw [← offC_step i hi]; rfl
      rw [b1] at a1
      rw [b2] at a2
      rw [b3] at a3
      have hk := fun z0 z1 z2 z5 z8 z9 z10 z11 z14 z15 z16 z17 z18 z19 z20 z21 z22 z23 z24 z25 z26 z27 z28 z29 z30 z31 z32 z33 z34 z35 z36 z37 z38 z39 z40 z41 z42 z43 z44 z45 z46 z47 z48 z49 z50 z51 z52 z53 z54 z55 z56 z57 z58 z59 z60 z61 z62 z63 z64 z65 z66 z67 z68 z69 z70 z71 z72 z73 z74 z75 z76 z77 z78 z79 z80 z81 z82 z83 z84 z85 z86 z87 z88 z89 z90 z91 z92 z93 z94 z95 z96 z97 z98 z99 z100 z101 z102 z103 z104 z105 z106 z107 z108 z109 z110 z111 z112 z113 z114 z115 z116 z117 z118 z119 => ih (i + 1) z0 z1 z2 z5 z8 z9 z10 z11 z14 z15 z16 z17 z18 z19 z20 z21 z22 z23 z24 z25 z26 z27 z28 z29 z30 z31 z32 z33 z34 z35 z36 z37 z38 z39 z40 z41 z42 z43 z44 z45 z46 z47 z48 z49 z50 z51 z52 z53 z54 z55 z56 z57 z58 z59 z60 z61 z62 z63 z64 z65 z66 z67 z68 z69 z70 z71 z72 z73 z74 z75 z76 z77 z78 z79 z80 z81 z82 z83 z84 z85 z86 z87 z88 z89 z90 z91 z92 z93 z94 z95 z96 z97 z98 z99 z100 z101 z102 z103 z104 z105 z106 z107 z108 z109 z110 z111 z112 z113 z114 z115 z116 z117 z118 z119 (by omega) (by omega)
      generalize offC (i + 1) = C' at a3 hk
      rw [hc] at a1 a2 a3 a4 ⊢
      simp [cellsOf, Nd.at] at a1 a2 a3 a4 hk
      simp [hlt, hw', a1, a2, a3, a4, cellsOf, loadS, storeS, Nd.at]
      exact hk _ _ _ _ _ _ _ _ _ _ _ _ _ _ _ _ _ _ _ _ _ _ _ _ _ _ _ _ _ _ _ _ _ _ _ _ _ _ _ _ _ _ _ _ _ _ _ _ _ _ _ _ _ _ _ _ _ _ _ _ _ _ _ _ _ _ _ _ _ _ _ _ _ _ _ _ _ _ _ _ _ _ _ _ _ _ _ _ _ _ _ _ _ _ _ _ _ _ _ _ _ _ _ _ _ _ _ _ _ _ _ _ _ _
    · have hlt : ¬ (i : Int) < 128 := by omega
      obtain rfl : i = 128 := by omega
      simp [hlt, offC, cellsOf, loadS, Nd.at, Lp_some]

theorem nodeOff_true (n : Nd) (f : Fr) (t : Int) (ht : 0 ≤ t ∧ t ≤ 255) : ∃ σ', evI E1 9 [n.P, f.P, .d (.int .u8 t)] [] = some (.d (.bool true), σ') := by
  have h0 := b_head
  have e1 := b_great n
  have e2 := r_great f
  have e3 := r_right f
  cases c1 : n.great
  · rw [c1] at e1
    cases c2 : f.great
    · rw [c2] at e2
      cases c3 : f.right
      · rw [c3] at e3
        simp at e1 e2 e3
        refine evI_ex (fn := Try.f9) 5 rfl Try.func9 rfl ?_
        simp [Try.f9, cellsOf, loadS, storeS, h0, e1, e2, e3]
      · rw [c3] at e3
        have hl := Nd.great_len c1
        obtain ⟨k, hk⟩ : ∃ k : Nat, (k : Int) = t % 128 := ⟨(t % 128).toNat, by omega⟩
        have hk128 : k < 128 := by omega
        have hrem : evBin Try.prog .rem 3 (.d (.int .i64 t)) (.d (.int .i64 128)) = some (.d (.int .i64 k)) := by
          rw [bin_rem (by decide), Int.tmod_eq_emod_of_nonneg ht.1, hk]
        have hw : IntKind.i64.wrap t = t := wrap_ok (by omega) (by omega)
        have hc : offC k = ⟨256, 0, 3, k⟩ := by unfold offC; rw [if_neg (by omega)]
        have e4 := b_right (n.at (offC k)) (by simp only [Nd.at]; omega) (by simp only [Nd.at]; omega) (by simp only [Nd.at]; omega)
        cases c4 : (n.at (offC k)).right
        · rw [c4, hc] at e4
          simp [Nd.at, cellsOf] at e1 e2 e3 e4
          refine evI_ex (fn := Try.f9) 5 rfl Try.func9 rfl ?_
          simp [Try.f9, cellsOf, loadS, storeS, h0, e1, e2, e3, e4, conv_u8, hw, hrem]
        · rw [c4] at e4
          obtain ⟨⟨r1, r2⟩, ⟨r3, r4⟩, ⟨r5, r6⟩, r7⟩ := (Nd.right_iff _).1 c4
          simp only [Nd.at] at r1 r2 r3 r5
          have e5 := b_Next (n.at (offC k)) (by simp only [Nd.at]; omega) r2
          have e6 := b_Send (n.at (offC k)) f (by simp only [Nd.at]; omega)
          have n5 : (n.at (offC k)).Next = (fr0, false) := by rw [hc]; rfl
          have n6 : (n.at (offC k)).Send f = (n.at (offC k), 3) := by rw [hc]; simp [Nd.Send, c3, Nd.off, Nd.at]
          have e7 := b_Next (n.at ⟨0, 0, 1, 0⟩) (by simp only [Nd.at]; omega) r2
          have e8 := r_countNew
          have e9 := r_sameAll n.q (by omega)
          have e10 := r_sameAll n.g (by omega)
          have n7 : (n.at ⟨0, 0, 1, 0⟩).Next.2 = decide ((n.q.length : Int) > 0) := by
            unfold Nd.Next Nd.off Nd.at
            simp only
            cases n.q with
            | nil => rfl
            | cons x q => simp
          rw [n5] at e5
          rw [n6] at e6
          rw [n7] at e7
          have e1' := e1
          have ll := fun B hB => l_off 1000 n f ⟨r1, r2⟩ r3 r5 (cellsOf (n.at (offC k)).P) (cellsOf fr0.P) (cellsOf (n.at (offC k)).P) B hB 1000 k
          generalize (n.at ⟨0, 0, 1, 0⟩).Next.1 = w at e7
          rw [hc] at e4 e5 e6 ll
          simp [Nd.at, cellsOf, fr0] at e1 e2 e3 e4 e5 e6 e7 e8 e9 e10
          refine evI_ex (fn := Try.f9) 1000 rfl Try.func9 rfl ?_
          simp (maxSteps := 2000000) [Try.f9, cellsOf, loadS, storeS, h0, e1, e2, e3, e4, e5, e6, conv_u8, hw, hrem, ec_loop]
          generalize hL : loopN _ _ _ = L
          obtain ⟨r, rfl, y53, y54, y55, y56, y57, y58, y59, y60, y61, y62, y63, y64, y65, y66, y67, y68, y69, y70, y71, y72, y73, y74, y75, y76, y77, z, rfl⟩ := at_loop hL (ll _ rfl _ _ _ _ _ _ _ _ _ _ _ _ _ _ _ _ _ _ _ _ _ _ _ _ _ _ _ _ _ _ _ _ _ _ _ _ _ _ _ _ _ _ _ _ _ _ _ _ _ _ _ _ _ _ _ _ _ _ _ _ _ _ _ _ _ _ _ _ _ _ _ _ _ _ _ _ _ _ _ _ _ _ _ _ _ _ _ _ _ _ _ _ _ _ _ _ _ _ _ _ _ _ _ _ _ _ _ _ _ _ _ _ _ _ (by omega) (by omega))
          simp (maxSteps := 2000000) [Nd.at, cellsOf, fr0, loadS, storeS, e7, e8, e9, e10]
    · rw [c2] at e2
      simp at e1 e2
      refine evI_ex (fn := Try.f9) 5 rfl Try.func9 rfl ?_
      simp [Try.f9, cellsOf, loadS, storeS, h0, e1, e2]
  · rw [c1] at e1
    simp at e1
    refine evI_ex (fn := Try.f9) 5 rfl Try.func9 rfl ?_
    simp [Try.f9, cellsOf, loadS, storeS, h0, e1]

def nodeOff_types : List TypeId := [28, 35, 5]
theorem nodeOff_args (ps : List PV) (h : OkArgs Try.prog 8 nodeOff_types ps) : ∃ σ', evI E1 9 ps [] = some (.d (.bool true), σ') := by
  obtain ⟨d1, _, h1, rfl, d2, _, h2, rfl, d3, _, h3, rfl, rfl⟩ := h
  obtain ⟨n, hn, _⟩ := ok_Nd (d := 3) h1
  obtain ⟨f, rfl, _⟩ := ok_Fr (d := 5) h2
  obtain ⟨t, rfl, ht⟩ := ok_by (d := 7) h3
  rw [hn, arg_Fr, arg_u8]
  exact nodeOff_true n f t ht
end Go.Proofs

namespace Go.Proofs.Ytgojeifmkfpknaa.nodeOff
open Go.ChangeShapes Go.WideShapes Go.ChangeAt Go.RowKit Go.Pv
set_option linter.unusedVariables false
theorem own : ownKnob Try.prog.godebug = none := by kernel_rfl
theorem laidOut : laidOutB Try.prog = true := by kernel_rfl
set_option maxRecDepth 100000 in
theorem lifted (os : Os) (started : os.Started) (H : Type) (enc : TypeId × Value → H) :
    ReturnsInHanded {} Try.checked os 9 .any (Rows.nodeOffSpec.pre6 enc Try.prog Try.f9 Rows.nodeOffRow.domain false) (Rows.nodeOffSpec.post enc Try.prog Try.f9 false true false false) := by
  refine returnsInHanded_of_change_sized (C := Try.checked) own started (by kernel_rfl) Try.func9
    (ChangeSpec.witness6 (enc := enc) (C := Try.checked) false ⟨#[], #[.agg #[.slice none 0 0, .slice none 0 0, .int .i64 0, .int .i64 0, .int .i64 0, .int .i64 0, .slice none 0 0], .agg #[.bool false, .int .i64 0, .bool false, .int .i64 0, .slice none 0 0], .int .u8 0], []⟩ 8 (by kernel_rfl) (by kernel_rfl) (by kernel_rfl) (by kernel_rfl)) ?_
  intro W base args ds gs before hval0 hW hcnd hsz0 _
  have hval : ∀ (j : Nat) t v, Try.f9.params[j]? = some t → args[j]? = some v → Value.okWide Try.prog W .any base t v := hval0
  have hW' := hW
  obtain ⟨p, q, hA0, hV, rfl, hfz, hnd⟩ := hW
  have hA : DataW.TrodAll enc Try.prog W 0 (fun _ => true) true Try.f9.params.toList args.toList ds p := hA0
  rw [Try.params9] at hA hval
  obtain ⟨v0, vs0, d0, ds0, p0, q0, hargs0, rfl, rfl, h0, r0⟩ := trodAll_cons hA
  obtain ⟨v1, vs1, d1, ds1, p1, q1, hargs1, rfl, rfl, h1, r1⟩ := trodAll_cons r0
  obtain ⟨v2, vs2, d2, ds2, p2, q2, hargs2, rfl, rfl, h2, r2⟩ := trodAll_cons r1
  obtain ⟨hn1, rfl, rfl⟩ := trodAll_nil r2
  obtain ⟨rfl, rfl⟩ := trodVars_none hV
  refine (law_calls E1_ok (f := 9) (types := nodeOff_types) (depth := 8) (by kernel_rfl) nodeOff_args hA (fun j t v hj hv => hval j t v (by simpa [nodeOff_types] using hj) hv)).mono fun e W' ⟨he, bel⟩ => ?_
  subst he
  exact ⟨_, rfl, _, _, _, [], _, [], hW', trodAll_mk1 (shut_bool Try.underlying4 _), trodAll_below laidOut bel nodeOff_types _ _ _ (by kernel_rfl) hA, rfl, bel.frame _, fun h => by cases h⟩
theorem over : Rows.nodeOffRow.holds Try.pinned (OpenSpec.ofChange Rows.nodeOffSpec) :=
  OpenClaim.holds_of_wide 9 Try.f9 rfl rfl rfl rfl rfl rfl rfl ⟨rfl, rfl, rfl, rfl, rfl⟩ rfl rfl rfl rfl rfl (by kernel_rfl) Try.func9 (by kernel_rfl)
    (of_decide_eq_true (by kernel_rfl)) (by unfold Func.isWrapper; first | (rw [if_pos (by decide +kernel)]; kernel_rfl) | (rw [if_neg (by decide +kernel)]; exact ⟨rfl, rfl⟩))
    (fun os started H enc _ => lifted os started H enc)
end Go.Proofs.Ytgojeifmkfpknaa.nodeOff
namespace Go.Proofs.Ytgojeifmkfpknaa
theorem nodeOff_holds : Rows.NodeOffSaid := nodeOff.over
end Go.Proofs.Ytgojeifmkfpknaa
#print axioms Go.Proofs.Ytgojeifmkfpknaa.nodeOff_holds

