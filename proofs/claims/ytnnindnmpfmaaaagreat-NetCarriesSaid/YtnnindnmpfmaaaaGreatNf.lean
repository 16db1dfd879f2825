/- The seat of nodes: what a node is, in plain Lean; the evaluator's equations given to simp; The seat of nodes: filters; The seat of nodes: slices.IndexFunc, slices.ContainsFunc; The seat of nodes: node.all, filter.Any, count.Right; The seat of nodes: filter.Any, count.Right, node.New, node.Right; The seat of nodes: count.Right, node.Right; The seat of nodes: slices.Compare, the rank of a frame; The seat of nodes: slices.MinFunc, node.next; The seat of nodes: node.next, node.Next; The seat of nodes: node.Next, node.Sent, node.Heard, node.Quiet, node.Send, node.Take. -/
import Derived.Test.YtnnindnmpfmaaaaGreatNe
set_option linter.unusedVariables false
set_option linter.unusedSimpArgs false
set_option maxRecDepth 100000
namespace Go.Proofs
open Go.RowKit Go.Shelf Go.Pv

attribute [simp] ec_region altD ec_scope ec_label ec_seq ec_cond ec_skip ec_exit ec_ret ec_block seq_normal seq_ret seq_exit if_t if_f regN evOpsD coreD wantD evCore evPure evCall use useL useParts opv rd putS untake moveIt takes af_nil af_cons appTmp apartL apartB posOf cellsOf isBelowL PV.isBelow boxCells isDataL PV.isData loadAs loadS storeS storeAs evFieldAddr evField partP evSlice bound natOf rowsOk evIndexAddr evIndex evLen evCopy evClear fillP bin_add bin_sub bin_mul bin_lss bin_leq bin_gtr bin_geq bin_eql bin_neq bin_and bin_andNot un_not mm_max mm_min ofValue ofCell slotOf resVal resOne resL retOf toDL toD sameStore sameCells PV.same DV.same_self sameRows_self sameL_self st_undef st1_undef k0_undef st_any st1_any k0_any st_d st1_d sc_d on_d k0_d st_ptr st1_ptr sc_ptr on_ptr k0_ptr st_nilptr st1_nilptr sc_nilptr on_nilptr k0_nilptr st_ro st1_ro sc_ro on_ro k0_ro st_func st1_func sc_func on_func k0_func st_nilFunc st1_nilFunc sc_nilFunc on_nilFunc k0_nilFunc st_tup st1_tup st_agg sc_agg
attribute [simp] E1P E1ap acc_own acc_cells acc_one acc_below acc_strip acc_strip1 st_e0 st1_e0 k0_e0 on_e0 sc_e0

@[simp] theorem bin_eqlA {P : Program} {t : TypeId} {xs ys : List PV} : evBin P .eql t (.agg xs) (.agg ys) = (kindsOf P t).bind fun ks => (eqCells ks xs ys).map fun b => .d (.bool b) := rfl
@[simp] theorem bin_neqA {P : Program} {t : TypeId} {xs ys : List PV} : evBin P .neq t (.agg xs) (.agg ys) = (kindsOf P t).bind fun ks => (eqCells ks xs ys).map fun b => .d (.bool (!b)) := rfl
@[simp] theorem bin_eqlS {P : Program} {t : TypeId} {x y : ByteArray} : evBin P .eql t (.d (.str x)) (.d (.str y)) = some (.d (.bool (x.toList == y.toList))) := rfl
@[simp] theorem bin_eqlB {x y : Bool} : evBin Tryz.prog .eql 4 (.d (.bool x)) (.d (.bool y)) = some (.d (.bool (x == y))) := by
  cases x <;> cases y <;> kernel_rfl
@[simp] theorem bin_neqB {x y : Bool} : evBin Tryz.prog .neq 4 (.d (.bool x)) (.d (.bool y)) = some (.d (.bool (x != y))) := by
  cases x <;> cases y <;> kernel_rfl
attribute [simp] eqCells

/-- A frame. -/
structure Fr where
  e : Bool
  id : Int
  rm : Bool
  ln : Int
  data : List Int
/-- A filter. -/
structure Fl where
  e : Bool
  mask : Int
  mt : Int
/-- A counter. -/
structure Cn where
  t : Int
  r : Int
  s : Int
  z : Int
/-- A node. -/
structure Nd where
  q : List Fr
  fs : List Fl
  c : Cn
  g : List Fr

@[simp] def byD (b : Int) : List DV := [.int .u8 b]
@[simp] def Fr.D (f : Fr) : List DV := [.bool f.e, .int .i64 f.id, .bool f.rm, .int .i64 f.ln, .slice (f.data.map byD)]
@[simp] def Fr.P (f : Fr) : PV := .agg [.d (.bool f.e), .d (.int .i64 f.id), .d (.bool f.rm), .d (.int .i64 f.ln), .d (.slice (f.data.map byD))]
@[simp] def Fl.D (f : Fl) : List DV := [.bool f.e, .int .i64 f.mask, .int .i64 f.mt]
@[simp] def Fl.P (f : Fl) : PV := .agg [.d (.bool f.e), .d (.int .i64 f.mask), .d (.int .i64 f.mt)]
@[simp] def Cn.P (c : Cn) : PV := .agg [.d (.int .i64 c.t), .d (.int .i64 c.r), .d (.int .i64 c.s), .d (.int .i64 c.z)]
@[simp] def Nd.P (n : Nd) : PV := .agg [.d (.slice (n.q.map Fr.D)), .d (.slice (n.fs.map Fl.D)), .d (.int .i64 n.c.t), .d (.int .i64 n.c.r), .d (.int .i64 n.c.s), .d (.int .i64 n.c.z), .d (.slice (n.g.map Fr.D))]
@[simp] def intD (b : Int) : List DV := [.int .i64 b]

theorem rowsOk_map {α : Type} {D : α → List DV} {k : Nat} (h : ∀ x, (D x).length = k) (l : List α) : rowsOk k (l.map D) = true := by
  unfold rowsOk
  rw [List.all_eq_true]
  intro r hr
  obtain ⟨x, _, rfl⟩ := List.mem_map.1 hr
  simp [h x]
@[simp] theorem rowsOk_Fr (l : List Fr) : rowsOk 5 (l.map Fr.D) = true := rowsOk_map (D := Fr.D) (fun _ => rfl) l
@[simp] theorem rowsOk_Fl (l : List Fl) : rowsOk 3 (l.map Fl.D) = true := rowsOk_map (D := Fl.D) (fun _ => rfl) l
@[simp] theorem rowsOk_int (l : List Int) : rowsOk 1 (l.map intD) = true := rowsOk_map (D := intD) (fun _ => rfl) l
@[simp] theorem rowsOk_by (l : List Int) : rowsOk 1 (l.map byD) = true := rowsOk_map (D := byD) (fun _ => rfl) l

theorem wrap_ok {x : Int} (h : -9223372036854775808 ≤ x) (h' : x < 9223372036854775808) : IntKind.i64.wrap x = x := by
  rw [IntKind.wrap_i64]; omega
end Go.Proofs

set_option linter.unusedVariables false
set_option linter.unusedSimpArgs false
set_option maxRecDepth 100000
set_option maxHeartbeats 4000000
namespace Go.Proofs
open Go.RowKit Go.Shelf Go.Pv

theorem b_isNaN (x : Int) (σ : Store) : callIt E1 (evI E1) 224 [.d (.int .i64 x)] σ = some (.d (.bool false), σ) := by
  refine call_run (fn := Tryz.f224) 5 rfl rfl rfl Tryz.func224 rfl rfl ?_ rfl
  simp [Tryz.f224]

/-- Numbers compared. -/
def cmpI (x y : Int) : Int := if x < y then -1 else if x > y then 1 else 0

theorem b_cmp (x y : Int) (σ : Store) : callIt E1 (evI E1) 217 [.d (.int .i64 x), .d (.int .i64 y)] σ = some (.d (.int .i64 (cmpI x y)), σ) := by
  refine call_run (fn := Tryz.f217) 5 rfl rfl rfl Tryz.func217 rfl rfl ?_ rfl
  unfold cmpI
  by_cases h : x < y
  · simp [Tryz.f217, b_isNaN, h]
  · by_cases h' : x > y
    · simp [Tryz.f217, b_isNaN, h, h']
    · simp [Tryz.f217, b_isNaN, h, h']

theorem b_of (f : Fl) (e : Bool) (id : Int) (σ : Store) : callIt E1 (evI E1) 199 [f.P, .d (.bool e), .d (.int .i64 id)] σ = some (.agg [.d (.bool e), .d (.int .i64 (IntKind.i64.wrap (BitVec.ofInt 64 id &&& BitVec.ofInt 64 f.mask).toNat))], σ) := by
  refine call_run (fn := Tryz.f199) 5 rfl rfl rfl Tryz.func199 rfl rfl ?_ rfl
  simp [Tryz.f199]

/-- A filter takes a frame. -/
def Fl.takes (f : Fl) (x : Fr) : Bool := (x.e == f.e) && (IntKind.i64.wrap (BitVec.ofInt 64 x.id &&& BitVec.ofInt 64 f.mask).toNat == f.mt)

theorem b_takes (f : Fl) (x : Fr) (σ : Store) : callIt E1 (evI E1) 149 [f.P, x.P] σ = some (.d (.bool (f.takes x)), σ) := by
  refine call_run (fn := Tryz.f149) 5 rfl rfl rfl Tryz.func149 rfl rfl ?_ rfl
  have h := b_of f x.e x.id
  simp at h
  simp [Tryz.f149, h, Fl.takes]

theorem s11 (x : Int) : evBin Tryz.prog .shr 3 (.d (.int .i64 x)) (.d (.int .i64 11)) = some (.d (.int .i64 (x / 2 ^ 11))) := by
  rw [bin_shr (by decide), show (2 : Int) ^ min (Int.toNat 11) 64 = 2 ^ 11 by decide, Int.fdiv_eq_ediv_of_nonneg _ (by decide)]
theorem s29 (x : Int) : evBin Tryz.prog .shr 3 (.d (.int .i64 x)) (.d (.int .i64 29)) = some (.d (.int .i64 (x / 2 ^ 29))) := by
  rw [bin_shr (by decide), show (2 : Int) ^ min (Int.toNat 29) 64 = 2 ^ 29 by decide, Int.fdiv_eq_ediv_of_nonneg _ (by decide)]

def Fl.right (f : Fl) : Bool := (f.mask / 2 ^ (if f.e then 29 else 11) == 0) && (IntKind.i64.wrap (BitVec.ofInt 64 f.mt &&& ~~~ BitVec.ofInt 64 f.mask).toNat == 0)

theorem b_flRight (f : Fl) (σ : Store) : callIt E1 (evI E1) 120 [f.P] σ = some (.d (.bool f.right), σ) := by
  refine call_run (fn := Tryz.f120) 5 rfl rfl rfl Tryz.func120 rfl rfl ?_ rfl
  obtain ⟨e, m, t⟩ := f
  unfold Fl.right
  cases e
  · cases h : (m / 2048 == 0)
    · simp [Tryz.f120, s11, h]
    · simp [Tryz.f120, s11, h]
  · cases h : (m / 536870912 == 0)
    · simp [Tryz.f120, s29, h]
    · simp [Tryz.f120, s29, h]
end Go.Proofs

set_option linter.unusedVariables false
set_option linter.unusedSimpArgs false
set_option maxRecDepth 100000
set_option maxHeartbeats 4000000
namespace Go.Pv
open Go
/-- The body of the first loop of a text. -/
def bodyOf : Code → Option Code
  | .seq a b => match bodyOf a with | some c => some c | none => bodyOf b
  | .block _ b => bodyOf b
  | .loop b => some b
  | .cond _ a b => match bodyOf a with | some c => some c | none => bodyOf b
  | _ => none
theorem ec_loop {E : Env} {F : FnEv} {k : Nat} {b : Code} {st : St} : evCode E F k (.loop b) st = loopN (evCode E F k b) k st := rfl
theorem loopN_succ {step : St → Option (Ex × St)} {n : Nat} {st : St} : loopN step (n + 1) st = (step st).bind fun r => match r.1 with | .normal => loopN step n r.2 | _ => some r := rfl
end Go.Pv
namespace Go.Proofs
open Go.RowKit Go.Shelf Go.Pv

/-- Where the first is. -/
def idx {α : Type} (p : α → Bool) : List α → Nat → Int
  | [], _ => -1
  | x :: xs, i => if p x then i else idx p xs (i + 1)

theorem idx_any {α : Type} (p : α → Bool) : ∀ (l : List α) (i : Nat), decide (0 ≤ idx p l i) = l.any p
  | [], i => rfl
  | x :: xs, i => by
    unfold idx
    cases h : p x
    · simpa [h] using idx_any p xs (i + 1)
    · simp [h]

theorem l_idxFl (m g : Nat) (caps : List PV) (p : Fl → Bool) (l : List Fl) (hl : l.length ≤ 1000000) (σ : Store) (hp : ∀ x ∈ l, callIt E1 (evI E1) g ([x.P] ++ caps.map PV.strip) σ = some (.d (.bool (p x)), σ))
    (B : Code) (hB : Tryz.f203.body.bind bodyOf = some B) :
    ∀ (n i : Nat) (x5 x9 x10 x11 x12 x13 x14 x15 x16 x17 x18 : PV), i ≤ l.length → l.length < i + n →
      ∃ e y5 y8 y9 y10 y11 y12 y13 y14 y15 y16 y17 y18 z, loopN (evCode E1 (evI E1) m B) n ⟨[.d (.slice (l.map Fl.D)), .func (.func g) [] caps, .undef, .undef, .d (.int .i64 0), x5, .d (.slice (l.map Fl.D)), .d (.int .i64 l.length), .d (.int .i64 i), x9, x10, x11, x12, x13, x14, x15, x16, x17, x18], σ⟩ =
        some (e, ⟨[.d (.slice (l.map Fl.D)), .func (.func g) [] caps, .undef, .undef, .d (.int .i64 z), y5, .d (.slice (l.map Fl.D)), .d (.int .i64 l.length), y8, y9, y10, y11, y12, y13, y14, y15, y16, y17, y18], σ⟩) ∧
        ((e = .ret ∧ z = idx p (l.drop i) i ∧ z ≠ -1) ∨ (e = .exit 0 ∧ idx p (l.drop i) i = -1)) := by
  simp [Tryz.f203, bodyOf] at hB
  subst hB
  intro n
  induction n with
  | zero => intro i x5 x9 x10 x11 x12 x13 x14 x15 x16 x17 x18 h1 h2; omega
  | succ n ih =>
    intro i x5 x9 x10 x11 x12 x13 x14 x15 x16 x17 x18 h1 h2
    rw [loopN_succ]
    by_cases hi : i < l.length
    · have hx : l[i]? = some l[i] := List.getElem?_eq_getElem hi
      have hd : l.drop i = l[i] :: l.drop (i + 1) := List.drop_eq_getElem_cons hi
      have hpx := hp l[i] (List.getElem_mem hi)
      generalize l[i] = x at hx hd hpx
      have hlt : (i : Int) < (l.length : Int) := by omega
      rw [hd]
      simp at hpx
      cases hb : p x
      · rw [hb] at hpx
        have hw : IntKind.i64.wrap ((i : Int) + 1) = ((i + 1 : Nat) : Int) := by rw [wrap_ok (by omega) (by omega)]; omega
        simp [hx, hpx, hlt, hw, idx, hb]
        exact ih (i + 1) _ _ _ _ _ _ _ _ _ _ _ (by omega) (by omega)
      · rw [hb] at hpx
        simp [hx, hpx, hlt, idx, hb, and_assoc]
        try omega
    · have hlt : ¬ (i : Int) < (l.length : Int) := by omega
      have : l.drop i = [] := List.drop_eq_nil_of_le (by omega)
      simp [hlt, this, idx]

theorem b_idxFl (g : Nat) (caps : List PV) (p : Fl → Bool) (l : List Fl) (hl : l.length ≤ 1000000) (σ : Store) (hcaps : isDataL caps = true ∨ True) (hp : ∀ x ∈ l, callIt E1 (evI E1) g ([x.P] ++ caps.map PV.strip) σ = some (.d (.bool (p x)), σ)) :
    callIt E1 (evI E1) 203 [.d (.slice (l.map Fl.D)), .func (.func g) [] caps] σ = some (.d (.int .i64 (idx p l 0)), σ) := by
  have key : evI E1 203 [.d (.slice (l.map Fl.D)), .func (.func g) [] caps] σ = some (.d (.int .i64 (idx p l 0)), σ) := by
    refine evI_run (fn := Tryz.f203) (l.length + 1) rfl Tryz.func203 rfl ?_
    obtain ⟨e, y5, y8, y9, y10, y11, y12, y13, y14, y15, y16, y17, y18, z, h1, h2⟩ := l_idxFl (l.length + 1) g caps p l hl σ hp _ rfl (l.length + 1) 0 .undef .undef .undef .undef .undef .undef .undef .undef .undef .undef .undef (by omega) (by omega)
    simp at h1 h2
    rcases h2 with ⟨rfl, rfl, h3⟩ | ⟨rfl, h3⟩
    · simp [Tryz.f203, ec_loop, h1]
    · simp [Tryz.f203, ec_loop, h1, h3]
  have ho : E1.ov 203 = none := rfl
  have hp : E1.pure 203 = false := rfl
  have hr : E1.ro 203 = false := rfl
  simp [callIt, ho, hp, hr, key]

theorem b_containsFl (g : Nat) (caps : List PV) (p : Fl → Bool) (l : List Fl) (hl : l.length ≤ 1000000) (σ : Store) (hp : ∀ x ∈ l, callIt E1 (evI E1) g ([x.P] ++ caps.map PV.strip) σ = some (.d (.bool (p x)), σ)) :
    callIt E1 (evI E1) 171 [.d (.slice (l.map Fl.D)), .func (.func g) [] caps] σ = some (.d (.bool (l.any p)), σ) := by
  have key : evI E1 171 [.d (.slice (l.map Fl.D)), .func (.func g) [] caps] σ = some (.d (.bool (l.any p)), σ) := by
    refine evI_run (fn := Tryz.f171) 5 rfl Tryz.func171 rfl ?_
    have h1 := b_idxFl g caps p l hl σ (.inr trivial) hp
    have h2 := idx_any p l 0
    simp [Tryz.f171, h1, h2]
  have ho : E1.ov 171 = none := rfl
  have hp : E1.pure 171 = false := rfl
  have hr : E1.ro 171 = false := rfl
  simp [callIt, ho, hp, hr, key]
theorem l_idxFr (m g : Nat) (caps : List PV) (p : Fr → Bool) (l : List Fr) (hl : l.length ≤ 1000000) (σ : Store) (hp : ∀ x ∈ l, callIt E1 (evI E1) g ([x.P] ++ caps.map PV.strip) σ = some (.d (.bool (p x)), σ))
    (B : Code) (hB : Tryz.f195.body.bind bodyOf = some B) :
    ∀ (n i : Nat) (x5 x9 x10 x11 x12 x13 x14 x15 x16 x17 x18 : PV), i ≤ l.length → l.length < i + n →
      ∃ e y5 y8 y9 y10 y11 y12 y13 y14 y15 y16 y17 y18 z, loopN (evCode E1 (evI E1) m B) n ⟨[.d (.slice (l.map Fr.D)), .func (.func g) [] caps, .undef, .undef, .d (.int .i64 0), x5, .d (.slice (l.map Fr.D)), .d (.int .i64 l.length), .d (.int .i64 i), x9, x10, x11, x12, x13, x14, x15, x16, x17, x18], σ⟩ =
        some (e, ⟨[.d (.slice (l.map Fr.D)), .func (.func g) [] caps, .undef, .undef, .d (.int .i64 z), y5, .d (.slice (l.map Fr.D)), .d (.int .i64 l.length), y8, y9, y10, y11, y12, y13, y14, y15, y16, y17, y18], σ⟩) ∧
        ((e = .ret ∧ z = idx p (l.drop i) i ∧ z ≠ -1) ∨ (e = .exit 0 ∧ idx p (l.drop i) i = -1)) := by
  simp [Tryz.f195, bodyOf] at hB
  subst hB
  intro n
  induction n with
  | zero => intro i x5 x9 x10 x11 x12 x13 x14 x15 x16 x17 x18 h1 h2; omega
  | succ n ih =>
    intro i x5 x9 x10 x11 x12 x13 x14 x15 x16 x17 x18 h1 h2
    rw [loopN_succ]
    by_cases hi : i < l.length
    · have hx : l[i]? = some l[i] := List.getElem?_eq_getElem hi
      have hd : l.drop i = l[i] :: l.drop (i + 1) := List.drop_eq_getElem_cons hi
      have hpx := hp l[i] (List.getElem_mem hi)
      generalize l[i] = x at hx hd hpx
      have hlt : (i : Int) < (l.length : Int) := by omega
      rw [hd]
      simp at hpx
      cases hb : p x
      · rw [hb] at hpx
        have hw : IntKind.i64.wrap ((i : Int) + 1) = ((i + 1 : Nat) : Int) := by rw [wrap_ok (by omega) (by omega)]; omega
        simp [hx, hpx, hlt, hw, idx, hb]
        exact ih (i + 1) _ _ _ _ _ _ _ _ _ _ _ (by omega) (by omega)
      · rw [hb] at hpx
        simp [hx, hpx, hlt, idx, hb, and_assoc]
        try omega
    · have hlt : ¬ (i : Int) < (l.length : Int) := by omega
      have : l.drop i = [] := List.drop_eq_nil_of_le (by omega)
      simp [hlt, this, idx]

theorem b_idxFr (g : Nat) (caps : List PV) (p : Fr → Bool) (l : List Fr) (hl : l.length ≤ 1000000) (σ : Store) (hcaps : isDataL caps = true ∨ True) (hp : ∀ x ∈ l, callIt E1 (evI E1) g ([x.P] ++ caps.map PV.strip) σ = some (.d (.bool (p x)), σ)) :
    callIt E1 (evI E1) 195 [.d (.slice (l.map Fr.D)), .func (.func g) [] caps] σ = some (.d (.int .i64 (idx p l 0)), σ) := by
  have key : evI E1 195 [.d (.slice (l.map Fr.D)), .func (.func g) [] caps] σ = some (.d (.int .i64 (idx p l 0)), σ) := by
    refine evI_run (fn := Tryz.f195) (l.length + 1) rfl Tryz.func195 rfl ?_
    obtain ⟨e, y5, y8, y9, y10, y11, y12, y13, y14, y15, y16, y17, y18, z, h1, h2⟩ := l_idxFr (l.length + 1) g caps p l hl σ hp _ rfl (l.length + 1) 0 .undef .undef .undef .undef .undef .undef .undef .undef .undef .undef .undef (by omega) (by omega)
    simp at h1 h2
    rcases h2 with ⟨rfl, rfl, h3⟩ | ⟨rfl, h3⟩
    · simp [Tryz.f195, ec_loop, h1]
    · simp [Tryz.f195, ec_loop, h1, h3]
  have ho : E1.ov 195 = none := rfl
  have hp : E1.pure 195 = false := rfl
  have hr : E1.ro 195 = false := rfl
  simp [callIt, ho, hp, hr, key]

theorem b_containsFr (g : Nat) (caps : List PV) (p : Fr → Bool) (l : List Fr) (hl : l.length ≤ 1000000) (σ : Store) (hp : ∀ x ∈ l, callIt E1 (evI E1) g ([x.P] ++ caps.map PV.strip) σ = some (.d (.bool (p x)), σ)) :
    callIt E1 (evI E1) 169 [.d (.slice (l.map Fr.D)), .func (.func g) [] caps] σ = some (.d (.bool (l.any p)), σ) := by
  have key : evI E1 169 [.d (.slice (l.map Fr.D)), .func (.func g) [] caps] σ = some (.d (.bool (l.any p)), σ) := by
    refine evI_run (fn := Tryz.f169) 5 rfl Tryz.func169 rfl ?_
    have h1 := b_idxFr g caps p l hl σ (.inr trivial) hp
    have h2 := idx_any p l 0
    simp [Tryz.f169, h1, h2]
  have ho : E1.ov 169 = none := rfl
  have hp : E1.pure 169 = false := rfl
  have hr : E1.ro 169 = false := rfl
  simp [callIt, ho, hp, hr, key]
end Go.Proofs

set_option linter.unusedVariables false
set_option linter.unusedSimpArgs false
set_option maxRecDepth 100000
set_option maxHeartbeats 4000000
namespace Go.Proofs
open Go.RowKit Go.Shelf Go.Pv

theorem call_np {f : FuncId} {args : List PV} {σ σ' : Store} {v : PV} (ho : E1.ov f = none) (hp : E1.pure f = false) (hr : E1.ro f = false) (h : evI E1 f args σ = some (v, σ')) (hd : v.isData = true) (hs : v.strip = v) (ht : σ'.take σ.length = σ) : callIt E1 (evI E1) f args σ = some (v, σ) := by
  simp [callIt, ho, hp, hr, h, hd, hs, ht]

def Fr.right (f : Fr) : Bool := frRight f.e f.id f.rm f.ln (f.data.map byD)

theorem b_frRight (f : Fr) (σ : Store) : callIt E1 (evI E1) 118 [f.P] σ = some (.d (.bool f.right), σ) := c41 f.e f.id f.rm f.ln (f.data.map byD) σ

theorem b_allFl1 (σ : Store) (i : Nat) (h : σ[i]? = some [.func (.func 120) [] []]) (x : Fl) : callIt E1 (evI E1) 170 [x.P, .ptr i 0] σ = some (.d (.bool (!x.right)), σ) := by
  refine call_np (σ' := σ ++ [cellsOf x.P]) rfl rfl rfl ?_ rfl rfl (by simp)
  have h1 := b_flRight x (σ ++ [cellsOf x.P])
  have hi : i < σ.length := (List.getElem?_eq_some_iff.1 h).1
  have h2 : (σ ++ [cellsOf x.P])[i]? = some [.func (.func 120) [] []] := by rw [List.getElem?_append_left hi]; exact h
  simp [cellsOf] at h1 h2
  refine evI_run (fn := Tryz.f170) 5 rfl Tryz.func170 rfl ?_
  simp [Tryz.f170, cellsOf, loadS, h1, h2]

theorem b_allFl (l : List Fl) (most : Int) (hl : l.length ≤ 1000000) (σ : Store) : callIt E1 (evI E1) 119 [.d (.slice (l.map Fl.D)), .d (.int .i64 most), .func (.func 120) [] []] σ = some (.d (.bool (decide ((l.length : Int) ≤ most) && l.all (·.right))), σ) := by
  refine call_np (σ' := σ ++ [[.func (.func 120) [] []]]) rfl rfl rfl ?_ rfl rfl (by simp)
  have h1 := b_containsFl 170 [.ptr σ.length 0] (fun x => !x.right) l hl (σ ++ [[.func (.func 120) [] []]]) (fun x _ => b_allFl1 _ _ (by simp) x)
  refine evI_run (fn := Tryz.f119) 5 rfl Tryz.func119 rfl ?_
  have h2 : (!l.any (fun x => !x.right)) = l.all (·.right) := by simp [List.all_eq_not_any_not]
  by_cases h : (l.length : Int) ≤ most
  · simp [Tryz.f119, cellsOf, h1, h, ← h2]
  · simp [Tryz.f119, cellsOf, h]
theorem b_allFr1 (σ : Store) (i : Nat) (h : σ[i]? = some [.func (.func 118) [] []]) (x : Fr) : callIt E1 (evI E1) 168 [x.P, .ptr i 0] σ = some (.d (.bool (!x.right)), σ) := by
  refine call_np (σ' := σ ++ [cellsOf x.P]) rfl rfl rfl ?_ rfl rfl (by simp)
  have h1 := b_frRight x (σ ++ [cellsOf x.P])
  have hi : i < σ.length := (List.getElem?_eq_some_iff.1 h).1
  have h2 : (σ ++ [cellsOf x.P])[i]? = some [.func (.func 118) [] []] := by rw [List.getElem?_append_left hi]; exact h
  simp [cellsOf] at h1 h2
  refine evI_run (fn := Tryz.f168) 5 rfl Tryz.func168 rfl ?_
  simp [Tryz.f168, cellsOf, loadS, h1, h2]

theorem b_allFr (l : List Fr) (most : Int) (hl : l.length ≤ 1000000) (σ : Store) : callIt E1 (evI E1) 117 [.d (.slice (l.map Fr.D)), .d (.int .i64 most), .func (.func 118) [] []] σ = some (.d (.bool (decide ((l.length : Int) ≤ most) && l.all (·.right))), σ) := by
  refine call_np (σ' := σ ++ [[.func (.func 118) [] []]]) rfl rfl rfl ?_ rfl rfl (by simp)
  have h1 := b_containsFr 168 [.ptr σ.length 0] (fun x => !x.right) l hl (σ ++ [[.func (.func 118) [] []]]) (fun x _ => b_allFr1 _ _ (by simp) x)
  refine evI_run (fn := Tryz.f117) 5 rfl Tryz.func117 rfl ?_
  have h2 : (!l.any (fun x => !x.right)) = l.all (·.right) := by simp [List.all_eq_not_any_not]
  by_cases h : (l.length : Int) ≤ most
  · simp [Tryz.f117, cellsOf, h1, h, ← h2]
  · simp [Tryz.f117, cellsOf, h]
end Go.Proofs

set_option linter.unusedVariables false
set_option linter.unusedSimpArgs false
set_option maxRecDepth 100000
set_option maxHeartbeats 4000000
namespace Go.Proofs
open Go.RowKit Go.Shelf Go.Pv

theorem b_any1 (σ : Store) (i : Nat) (x : Fr) (h : σ[i]? = some (cellsOf x.P)) (f : Fl) : callIt E1 (evI E1) 198 [f.P, .ptr i 0] σ = some (.d (.bool (f.takes x)), σ) := by
  refine call_np (σ' := σ ++ [cellsOf f.P]) rfl rfl rfl ?_ rfl rfl (by simp)
  have h1 := b_takes f x (σ ++ [cellsOf f.P])
  have hi : i < σ.length := (List.getElem?_eq_some_iff.1 h).1
  have h2 : (σ ++ [cellsOf f.P])[i]? = some (cellsOf x.P) := by rw [List.getElem?_append_left hi]; exact h
  simp [cellsOf] at h1 h2
  refine evI_run (fn := Tryz.f198) 5 rfl Tryz.func198 rfl ?_
  simp [Tryz.f198, cellsOf, loadS, h1, h2]

def anyF (l : List Fl) (x : Fr) : Bool := l.isEmpty || l.any (·.takes x)

theorem b_any (l : List Fl) (x : Fr) (hl : l.length ≤ 1000000) (σ : Store) : callIt E1 (evI E1) 145 [.d (.slice (l.map Fl.D)), x.P] σ = some (.d (.bool (anyF l x)), σ) := by
  refine call_run (fn := Tryz.f145) 5 rfl rfl rfl Tryz.func145 rfl rfl ?_ rfl
  have h1 := b_containsFl 198 [.ptr 0 0] (fun f => f.takes x) l hl [cellsOf x.P] (fun f _ => b_any1 _ _ x (by simp) f)
  unfold anyF
  cases hb : ((l.length : Int) == 0)
  · have : l.isEmpty = false := by cases l <;> simp at hb ⊢
    simp [cellsOf] at h1
    simp [Tryz.f145, cellsOf, h1, hb, this]
  · have : l = [] := by cases l <;> simp at hb ⊢; omega
    subst this
    simp [Tryz.f145, cellsOf, hb]

theorem b_countNew (σ : Store) : callIt E1 (evI E1) 127 [] σ = some ((Cn.mk 0 0 1 0).P, σ) := by
  refine call_run (fn := Tryz.f127) 5 rfl rfl rfl Tryz.func127 rfl rfl ?_ rfl
  simp [Tryz.f127]

theorem b_cloneFl (l : List Fl) (hl : l.length ≤ 1000000) (σ : Store) : callIt E1 (evI E1) 126 [.d (.slice (l.map Fl.D))] σ = some (acc (l.map Fl.D), σ) := by
  have : l.length * 24 ≤ roomB := by simp only [roomB]; omega
  simp [callIt, E1ov, ovAll, isDataL, PV.isData, ovClone, this, acc_data]

theorem b_cloneFr (l : List Fr) (hl : l.length ≤ 1000000) (σ : Store) : callIt E1 (evI E1) 175 [.d (.slice (l.map Fr.D))] σ = some (acc (l.map Fr.D), σ) := by
  have : l.length * 56 ≤ roomB := by simp only [roomB]; omega
  simp [callIt, E1ov, ovAll, isDataL, PV.isData, ovClone, this, acc_data]

def flsRight (l : List Fl) : Bool := decide ((l.length : Int) ≤ 8) && l.all (·.right)

def nd0 : Nd := ⟨[], [], ⟨0, 0, 0, 0⟩, []⟩

def ndNew (l : List Fl) : Nd × Int := if flsRight l then (⟨[], l, ⟨0, 0, 1, 0⟩, []⟩, 0) else (nd0, 1)

theorem b_new (l : List Fl) (hl : l.length ≤ 1000000) (σ : Store) : callIt E1 (evI E1) 56 [.d (.slice (l.map Fl.D))] σ = some (.tup [(ndNew l).1.P, .d (.int .i64 (ndNew l).2)], σ) := by
  refine call_run (fn := Tryz.f56) 5 rfl rfl rfl Tryz.func56 rfl rfl ?_ rfl
  have h1 := b_allFl l 8 hl
  have h2 := b_cloneFl l hl
  have h3 := b_countNew
  unfold ndNew
  cases hb : flsRight l
  · unfold flsRight at hb
    rw [hb] at h1
    simp [Tryz.f56, h1, nd0]
  · unfold flsRight at hb
    rw [hb] at h1
    simp at h3
    simp [Tryz.f56, h1, h2, h3]
end Go.Proofs

set_option linter.unusedVariables false
set_option linter.unusedSimpArgs false
set_option maxRecDepth 100000
set_option maxHeartbeats 4000000
namespace Go.Proofs
open Go.RowKit Go.Shelf Go.Pv

def stOf (t r : Int) : Int := if max t r > 127 then 2 else 1

theorem b_state (c : Cn) : callIt E1 (evI E1) 172 [.ptr 1 0] [cellsOf c.P, cellsOf c.P] = some (.d (.int .i64 (stOf c.t c.r)), [cellsOf c.P, cellsOf c.P]) := by
  have key : evI E1 172 [.ptr 1 0] [cellsOf c.P, cellsOf c.P] = some (.d (.int .i64 (stOf c.t c.r)), [cellsOf c.P, cellsOf c.P]) := by
    refine evI_run (fn := Tryz.f172) 5 rfl Tryz.func172 rfl ?_
    unfold stOf
    by_cases h : max c.t c.r > 127
    · simp [Tryz.f172, cellsOf, loadS, h]
    · simp [Tryz.f172, cellsOf, loadS, h]
  have ho : E1.ov 172 = none := rfl
  have hp : E1.pure 172 = false := rfl
  have hr : E1.ro 172 = true := rfl
  simp [cellsOf] at key
  simp [callIt, cellsOf, key, ho, hp, hr]

/-- A counter is right. -/
def Cn.right (c : Cn) : Bool :=
  if c.s = 3 then (c.t == 256) && (c.r == 0) && (c.z / 128 == 0) else (c.t / 256 == 0) && (c.r / 256 == 0) && (c.z == 0) && (c.s == stOf c.t c.r)

theorem shr7 (x : Int) {k : IntKind} : evBin Tryz.prog .shr 3 (.d (.int .i64 x)) (.d (.int k 7)) = some (.d (.int .i64 (x / 128))) := by
  rw [bin_shr_u (by decide), show (2 : Int) ^ min (Int.toNat 7) 64 = 128 by decide, Int.fdiv_eq_ediv_of_nonneg _ (by decide)]
theorem shr8 (x : Int) {k : IntKind} : evBin Tryz.prog .shr 3 (.d (.int .i64 x)) (.d (.int k 8)) = some (.d (.int .i64 (x / 256))) := by
  rw [bin_shr_u (by decide), show (2 : Int) ^ min (Int.toNat 8) 64 = 256 by decide, Int.fdiv_eq_ediv_of_nonneg _ (by decide)]

theorem b_countRight (c : Cn) (σ : Store) : callIt E1 (evI E1) 121 [c.P] σ = some (.d (.bool c.right), σ) := by
  refine call_run (fn := Tryz.f121) 5 rfl rfl rfl Tryz.func121 rfl rfl ?_ rfl
  obtain ⟨t, r, s, z⟩ := c
  unfold Cn.right
  by_cases hs : s = 3
  · subst hs
    cases h1 : (t == 256)
    · simp [Tryz.f121, h1]
    · cases h2 : (r == 0)
      · simp [Tryz.f121, h1, h2]
      · simp [Tryz.f121, h1, h2, shr7]
  · have hs' : (s == 3) = false := by simpa using hs
    have h72 := b_state ⟨t, r, s, z⟩
    simp [cellsOf] at h72
    cases h1 : (t / 256 == 0)
    · simp [Tryz.f121, hs', hs, shr8, h1]
    · cases h2 : (r / 256 == 0)
      · simp [Tryz.f121, hs', hs, shr8, h1, h2]
      · cases h3 : (z == 0)
        · simp [Tryz.f121, hs', hs, shr8, h1, h2, h3]
        · simp [Tryz.f121, hs', hs, shr8, h1, h2, h3, h72]

def frsRight (most : Int) (l : List Fr) : Bool := decide ((l.length : Int) ≤ most) && l.all (·.right)

/-- A node is right. -/
def Nd.right (n : Nd) : Bool := frsRight 16 n.q && frsRight 64 n.g && flsRight n.fs && n.c.right

theorem b_right (n : Nd) (hq : n.q.length ≤ 1000000) (hf : n.fs.length ≤ 1000000) (hg : n.g.length ≤ 1000000) (σ : Store) : callIt E1 (evI E1) 48 [n.P] σ = some (.d (.bool n.right), σ) := by
  refine call_run (fn := Tryz.f48) 5 rfl rfl rfl Tryz.func48 rfl rfl ?_ rfl
  have k1 : ∀ σ, callIt E1 (evI E1) 117 _ σ = some (.d (.bool (frsRight 16 n.q)), σ) := fun σ => b_allFr n.q 16 hq σ
  have k2 : ∀ σ, callIt E1 (evI E1) 117 _ σ = some (.d (.bool (frsRight 64 n.g)), σ) := fun σ => b_allFr n.g 64 hg σ
  have k3 : ∀ σ, callIt E1 (evI E1) 119 _ σ = some (.d (.bool (flsRight n.fs)), σ) := fun σ => b_allFl n.fs 8 hf σ
  have k4 := b_countRight n.c
  unfold Nd.right
  simp at k4
  cases h1 : frsRight 16 n.q
  · simp [Tryz.f48, k1, h1]
  · cases h2 : frsRight 64 n.g
    · simp [Tryz.f48, k1, k2, h1, h2]
    · cases h3 : flsRight n.fs
      · simp [Tryz.f48, k1, k2, k3, h1, h2, h3]
      · simp [Tryz.f48, k1, k2, k3, k4, h1, h2, h3]
end Go.Proofs

set_option linter.unusedVariables false
set_option linter.unusedSimpArgs false
set_option maxRecDepth 100000
set_option maxHeartbeats 4000000
namespace Go.Proofs
open Go.RowKit Go.Shelf Go.Pv

def cmpL : List Int → List Int → Int
  | [], [] => 0
  | [], _ :: _ => -1
  | _ :: _, [] => 1
  | x :: xs, y :: ys => if x < y then -1 else if y < x then 1 else cmpL xs ys

theorem l_cmp (m : Nat) (k l : List Int) (hk : k.length ≤ 1000000) (σ : Store) (B : Code) (hB : Tryz.f193.body.bind bodyOf = some B) :
    ∀ (n i : Nat) (x5 x6 x7 x8 x12 x13 x14 x15 x16 x17 x18 x19 x20 x21 x22 x23 x24 x25 x26 x27 x28 x29 x30 x31 x32 x33 x34 x35 : PV), i ≤ k.length → i ≤ l.length → k.length < i + n →
      ∃ e y5 y6 y7 y8 y11 y12 y13 y14 y15 y16 y17 y18 y19 y20 y21 y22 y23 y24 y25 y26 y27 y28 y29 y30 y31 y32 y33 y34 y35 z, loopN (evCode E1 (evI E1) m B) n ⟨[.d (.slice (k.map intD)), .d (.slice (l.map intD)), .undef, .undef, .d (.int .i64 0), x5, x6, x7, x8, .d (.slice (k.map intD)), .d (.int .i64 k.length), .d (.int .i64 i), x12, x13, x14, x15, x16, x17, x18, x19, x20, x21, x22, x23, x24, x25, x26, x27, x28, x29, x30, x31, x32, x33, x34, x35], σ⟩ =
        some (e, ⟨[.d (.slice (k.map intD)), .d (.slice (l.map intD)), .undef, .undef, .d (.int .i64 z), y5, y6, y7, y8, .d (.slice (k.map intD)), .d (.int .i64 k.length), y11, y12, y13, y14, y15, y16, y17, y18, y19, y20, y21, y22, y23, y24, y25, y26, y27, y28, y29, y30, y31, y32, y33, y34, y35], σ⟩) ∧
        ((e = .ret ∧ z = cmpL (k.drop i) (l.drop i)) ∨ (e = .exit 0 ∧ cmpL (k.drop i) (l.drop i) = if k.length < l.length then -1 else 0)) := by
  simp [Tryz.f193, bodyOf] at hB
  subst hB
  intro n
  induction n with
  | zero => intros; omega
  | succ n ih =>
    intro i x5 x6 x7 x8 x12 x13 x14 x15 x16 x17 x18 x19 x20 x21 x22 x23 x24 x25 x26 x27 x28 x29 x30 x31 x32 x33 x34 x35 h1 h1' h2
    rw [loopN_succ]
    by_cases hi : i < k.length
    · have hx : k[i]? = some k[i] := List.getElem?_eq_getElem hi
      have hd : k.drop i = k[i] :: k.drop (i + 1) := List.drop_eq_getElem_cons hi
      generalize k[i] = x at hx hd
      have hlt : (i : Int) < (k.length : Int) := by omega
      rw [hd]
      by_cases hj : i < l.length
      · have hy : l[i]? = some l[i] := List.getElem?_eq_getElem hj
        have he : l.drop i = l[i] :: l.drop (i + 1) := List.drop_eq_getElem_cons hj
        generalize l[i] = y at hy he
        have hge : ¬ (l.length : Int) ≤ (i : Int) := by omega
        rw [he]
        have hw : IntKind.i64.wrap ((i : Int) + 1) = ((i + 1 : Nat) : Int) := by rw [wrap_ok (by omega) (by omega)]; omega
        by_cases g1 : x < y
        · simp [hx, hy, hlt, hge, b_cmp, cmpI, cmpL, g1, and_assoc]
        · by_cases g2 : y < x
          · simp [hx, hy, hlt, hge, b_cmp, cmpI, cmpL, g1, g2, and_assoc]
          · simp [hx, hy, hlt, hge, b_cmp, cmpI, cmpL, g1, g2, hw]
            exact ih (i + 1) _ _ _ _ _ _ _ _ _ _ _ _ _ _ _ _ _ _ _ _ _ _ _ _ _ _ _ _ (by omega) (by omega) (by omega)
      · have he : l.drop i = [] := List.drop_eq_nil_of_le (by omega)
        have hge : (l.length : Int) ≤ (i : Int) := by omega
        rw [he]
        simp [hx, hlt, hge, cmpL, and_assoc]
    · have hlt : ¬ (i : Int) < (k.length : Int) := by omega
      have hd : k.drop i = [] := List.drop_eq_nil_of_le (by omega)
      rw [hd]
      by_cases hj : k.length < l.length
      · have he : l.drop i ≠ [] := by intro h; have := List.drop_eq_nil_iff.1 h; omega
        cases hl : l.drop i with
        | nil => exact absurd hl he
        | cons y ys => simp [hlt, hj, cmpL, and_assoc]
      · have he : l.drop i = [] := List.drop_eq_nil_of_le (by omega)
        simp [hlt, hj, he, cmpL, and_assoc]

theorem b_cmpL (k l : List Int) (hk : k.length ≤ 1000000) (σ : Store) : callIt E1 (evI E1) 193 [.d (.slice (k.map intD)), .d (.slice (l.map intD))] σ = some (.d (.int .i64 (cmpL k l)), σ) := by
  refine call_run (fn := Tryz.f193) (k.length + 1) rfl rfl rfl Tryz.func193 rfl rfl ?_ rfl
  obtain ⟨e, y5, y6, y7, y8, y11, y12, y13, y14, y15, y16, y17, y18, y19, y20, y21, y22, y23, y24, y25, y26, y27, y28, y29, y30, y31, y32, y33, y34, y35, z, h1, h2⟩ := l_cmp (k.length + 1) k l hk [] _ rfl (k.length + 1) 0 .undef .undef .undef .undef .undef .undef .undef .undef .undef .undef .undef .undef .undef .undef .undef .undef .undef .undef .undef .undef .undef .undef .undef .undef .undef .undef .undef .undef (by omega) (by omega) (by omega)
  simp at h1 h2
  rcases h2 with ⟨rfl, rfl⟩ | ⟨rfl, h3⟩
  · simp [Tryz.f193, ec_loop, h1]
  · by_cases hj : k.length < l.length
    · have hj' : (k.length : Int) < l.length := by omega
      simp [Tryz.f193, ec_loop, h1, h3, hj, hj']
    · have hj' : ¬ (k.length : Int) < l.length := by omega
      simp [Tryz.f193, ec_loop, h1, h3, hj, hj']

def bitsOf (v : Int) (m : Nat) : List Int := (List.range m).map fun k => (v / 2 ^ (m - 1 - k)) % 2
theorem bitRows_map (v : Int) (m : Nat) : bitRows v m = (bitsOf v m).map intD := by simp [bitRows, bitsOf]

/-- The bits by which a frame is ranked. -/
def Fr.rank (f : Fr) : List Int :=
  if f.e then bitsOf (f.id / 2 ^ 18) 11 ++ bitsOf 3 2 ++ bitsOf (f.id % 2 ^ 18) 18 ++ bitsOf (bitOf f.rm) 1 else bitsOf f.id 11 ++ bitsOf (bitOf f.rm) 1 ++ bitsOf 0 1

theorem Fr.right_iff (f : Fr) : f.right = true ↔ (0 ≤ f.id ∧ f.id < 2 ^ (if f.e then 29 else 11)) ∧ 0 ≤ f.ln ∧ f.ln ≤ 8 ∧ (f.data.length : Int) = if f.rm then 0 else f.ln := by
  unfold Fr.right frRight
  rw [Int.fdiv_eq_ediv_of_nonneg _ (by cases f.e <;> decide)]
  simp only [Bool.and_eq_true, beq_iff_eq, decide_eq_true_eq, List.length_map]
  cases f.e
  · simp; omega
  · simp; omega

theorem Fr.rank_rows (f : Fr) : rankOf f.e f.id f.rm = f.rank.map intD := by
  unfold rankOf Fr.rank rankExt rankStd
  cases f.e <;> simp [bitRows_map]

theorem Fr.rank_len (f : Fr) : f.rank.length ≤ 32 := by
  unfold Fr.rank
  cases f.e <;> simp [bitsOf]

theorem b_rank (f : Fr) (h : f.right = true) (σ : Store) : callIt E1 (evI E1) 138 [f.P] σ = some (.d (.slice (f.rank.map intD)), σ) := by
  rw [← f.rank_rows]
  exact c64 f.e f.id f.rm f.ln (f.data.map byD) (f.right_iff.1 h).1 σ
end Go.Proofs

set_option linter.unusedVariables false
set_option linter.unusedSimpArgs false
set_option maxRecDepth 100000
set_option maxHeartbeats 4000000
namespace Go.Proofs
open Go.RowKit Go.Shelf Go.Pv

/-- The first least one. -/
def minF {α : Type} (cmp : α → α → Int) (m : α) (l : List α) : α := l.foldl (fun m x => if cmp x m < 0 then x else m) m

theorem minF_mem {α : Type} (cmp : α → α → Int) : ∀ (l : List α) (m : α), minF cmp m l = m ∨ minF cmp m l ∈ l
  | [], m => .inl rfl
  | x :: xs, m => by
    unfold minF
    simp only [List.foldl_cons]
    rcases minF_mem cmp xs (if cmp x m < 0 then x else m) with h | h
    · unfold minF at h
      rw [h]
      split <;> simp
    · exact .inr (List.mem_cons_of_mem _ h)

/-- Two frames' ranks compared. -/
def rankCmp (a b : Fr) : Int := cmpL a.rank b.rank

theorem b_next1 (a b : Fr) (ha : a.right = true) (hb : b.right = true) (σ : Store) : callIt E1 (evI E1) 192 [a.P, b.P] σ = some (.d (.int .i64 (rankCmp a b)), σ) := by
  refine call_np (σ' := σ ++ [cellsOf a.P, cellsOf b.P]) rfl rfl rfl ?_ rfl rfl (by simp)
  have h1 := b_rank a ha (σ ++ [cellsOf a.P, cellsOf b.P])
  have h2 := b_rank b hb (σ ++ [cellsOf a.P, cellsOf b.P])
  have h3 := b_cmpL a.rank b.rank (by have := a.rank_len; omega) (σ ++ [cellsOf a.P, cellsOf b.P])
  simp [cellsOf] at h1 h2 h3
  refine evI_run (fn := Tryz.f192) 5 rfl Tryz.func192 rfl ?_
  simp [Tryz.f192, cellsOf, loadS, h1, h2, h3, rankCmp]

theorem l_min (m g : Nat) (l : List Fr) (cmp : Fr → Fr → Int) (hl : l.length ≤ 1000000) (σ : Store) (i4 : List PV) (hp : ∀ x y, x ∈ l → y ∈ l → ∀ σ, callIt E1 (evI E1) g [x.P, y.P] σ = some (.d (.int .i64 (cmp x y)), σ))
    (B : Code) (hB : Tryz.f194.body.bind bodyOf = some B) :
    ∀ (n i : Nat) (w : Fr) (x9 x10 x11 x12 x13 x14 x15 x16 x17 x18 x19 x20 x21 x22 x23 x24 x25 x26 x27 x28 x29 x30 x31 x32 : PV), i ≤ l.length → l.length < i + n → w ∈ l →
      ∃ y14 y15 y16 y17 y18 y19 y20 y21 y22 y23 y24 y25 y26 y27 y28 y29 y30 y31 y32 j, loopN (evCode E1 (evI E1) m B) n ⟨[.d (.slice (l.map Fr.D)), .func (.func g) [] [], .undef, .undef, .ptr σ.length 0, .ptr (σ.length + 1) 0, .d (.int .i64 i), .d (.slice (l.map Fr.D)), .d (.int .i64 l.length), x9, x10, x11, x12, x13, x14, x15, x16, x17, x18, x19, x20, x21, x22, x23, x24, x25, x26, x27, x28, x29, x30, x31, x32], σ ++ [i4, cellsOf w.P]⟩ =
        some (.exit 0, ⟨[.d (.slice (l.map Fr.D)), .func (.func g) [] [], .undef, .undef, .ptr σ.length 0, .ptr (σ.length + 1) 0, j, .d (.slice (l.map Fr.D)), .d (.int .i64 l.length), x9, x10, x11, x12, x13, y14, y15, y16, y17, y18, y19, y20, y21, y22, y23, y24, y25, y26, y27, y28, y29, y30, y31, y32], σ ++ [i4, cellsOf (minF cmp w (l.drop i)).P]⟩) := by
  simp [Tryz.f194, bodyOf] at hB
  subst hB
  intro n
  induction n with
  | zero => intros; omega
  | succ n ih =>
    intro i w x9 x10 x11 x12 x13 x14 x15 x16 x17 x18 x19 x20 x21 x22 x23 x24 x25 x26 x27 x28 x29 x30 x31 x32 h1 h2 hw
    rw [loopN_succ]
    by_cases hi : i < l.length
    · have hx : l[i]? = some l[i] := List.getElem?_eq_getElem hi
      have hd : l.drop i = l[i] :: l.drop (i + 1) := List.drop_eq_getElem_cons hi
      have hm : l[i] ∈ l := List.getElem_mem hi
      generalize l[i] = x at hx hd hm
      have hlt : (i : Int) < (l.length : Int) := by omega
      have hpx := hp x w hm hw (σ ++ [i4, cellsOf w.P])
      have hw' : IntKind.i64.wrap ((i : Int) + 1) = ((i + 1 : Nat) : Int) := by rw [wrap_ok (by omega) (by omega)]; omega
      rw [hd]
      simp [cellsOf] at hpx
      by_cases hb : cmp x w < 0
      · have hk := fun z9 z10 z11 z12 z13 z14 z15 z16 z17 z18 z19 z20 z21 z22 z23 z24 z25 z26 z27 z28 z29 z30 z31 z32 => ih (i + 1) x z9 z10 z11 z12 z13 z14 z15 z16 z17 z18 z19 z20 z21 z22 z23 z24 z25 z26 z27 z28 z29 z30 z31 z32 (by omega) (by omega) hm
        simp [cellsOf] at hk
        simp [hx, hpx, hlt, hw', minF, hb, cellsOf, loadS, storeS]
        simp [minF] at hk
        exact hk _ _ _ _ _ _ _ _ _ _ _ _ _ _ _ _ _ _ _ _ _ _ _ _
      · have hk := fun z9 z10 z11 z12 z13 z14 z15 z16 z17 z18 z19 z20 z21 z22 z23 z24 z25 z26 z27 z28 z29 z30 z31 z32 => ih (i + 1) w z9 z10 z11 z12 z13 z14 z15 z16 z17 z18 z19 z20 z21 z22 z23 z24 z25 z26 z27 z28 z29 z30 z31 z32 (by omega) (by omega) hw
        simp [cellsOf] at hk
        simp [hx, hpx, hlt, hw', minF, hb, cellsOf, loadS, storeS]
        simp [minF] at hk
        exact hk _ _ _ _ _ _ _ _ _ _ _ _ _ _ _ _ _ _ _ _ _ _ _ _
    · have hlt : ¬ (i : Int) < (l.length : Int) := by omega
      have : l.drop i = [] := List.drop_eq_nil_of_le (by omega)
      simp [hlt, this, minF]
end Go.Proofs

set_option linter.unusedVariables false
set_option linter.unusedSimpArgs false
set_option maxRecDepth 100000
set_option maxHeartbeats 4000000
namespace Go.Proofs
open Go.RowKit Go.Shelf Go.Pv

theorem b_min (g : Nat) (l : List Fr) (w : Fr) (hw : l[0]? = some w) (cmp : Fr → Fr → Int) (hl : l.length ≤ 1000000) (σ : Store) (hp : ∀ x y, x ∈ l → y ∈ l → ∀ σ, callIt E1 (evI E1) g [x.P, y.P] σ = some (.d (.int .i64 (cmp x y)), σ)) :
    callIt E1 (evI E1) 194 [.d (.slice (l.map Fr.D)), .func (.func g) [] []] σ = some ((minF cmp w l).P, σ) := by
  have hpos : 0 < l.length := (List.getElem?_eq_some_iff.1 hw).1
  have hmem : w ∈ l := List.mem_of_getElem? hw
  have hd : l = w :: l.drop 1 := by
    cases l with
    | nil => simp at hw
    | cons a b => simp at hw ⊢; exact hw
  refine call_np (σ' := σ ++ [cellsOf (minF cmp w (l.drop 1)).P, cellsOf (minF cmp w (l.drop 1)).P]) rfl rfl rfl ?_ rfl rfl (by simp)
  refine evI_run (fn := Tryz.f194) (l.length + 1) rfl Tryz.func194 rfl ?_
  obtain ⟨y14, y15, y16, y17, y18, y19, y20, y21, y22, y23, y24, y25, y26, y27, y28, y29, y30, y31, y32, j, h1⟩ := l_min (l.length + 1) g l cmp hl σ [.d (.bool false), .d (.int .i64 0), .d (.bool false), .d (.int .i64 0), .e0] hp _ rfl (l.length + 1) 1 w (.d (.bool false)) .undef (.d (.slice (l.map Fr.D))) (.ro w.D) w.P .undef .undef .undef .undef .undef .undef .undef .undef .undef .undef .undef .undef .undef .undef .undef .undef .undef .undef .undef (by omega) (by omega) hmem
  have hnl : ¬ (l.length : Int) < 1 := by omega
  have hmin : minF cmp w l = minF cmp w (l.drop 1) := by
    conv => lhs; rw [hd]
    simp [minF]
  simp [cellsOf] at h1
  rw [hmin]
  simp [Tryz.f194, ec_loop, cellsOf, loadS, storeS, hnl, hw, h1]

theorem b_next2 (x w : Fr) (hx : x.right = true) (hw : w.right = true) (σ : Store) (i j : Nat) (hi : σ[i]? = some [.func (.func 192) [] []]) (hj : σ[j]? = some (cellsOf w.P)) :
    callIt E1 (evI E1) 196 [x.P, .ptr i 0, .ptr j 0] σ = some (.d (.bool (rankCmp x w == 0)), σ) := by
  refine call_np (σ' := σ ++ [cellsOf x.P]) rfl rfl rfl ?_ rfl rfl (by simp)
  have h1 := b_next1 x w hx hw (σ ++ [cellsOf x.P])
  have li : i < σ.length := (List.getElem?_eq_some_iff.1 hi).1
  have lj : j < σ.length := (List.getElem?_eq_some_iff.1 hj).1
  have h2 : (σ ++ [cellsOf x.P])[i]? = some [.func (.func 192) [] []] := by rw [List.getElem?_append_left li]; exact hi
  have h3 : (σ ++ [cellsOf x.P])[j]? = some (cellsOf w.P) := by rw [List.getElem?_append_left lj]; exact hj
  simp [cellsOf] at h1 h2 h3
  refine evI_run (fn := Tryz.f196) 5 rfl Tryz.func196 rfl ?_
  simp [Tryz.f196, cellsOf, loadS, h1, h2, h3]

/-- The place of the first frame of the least rank. -/
def nextOf : List Fr → Int
  | [] => -1
  | w :: q => idx (fun x => rankCmp x (minF rankCmp w (w :: q)) == 0) (w :: q) 0

def Nd.off (n : Nd) : Bool := n.c.s == 3

theorem b_off (n : Nd) (σ : Store) : callIt E1 (evI E1) 124 [n.P] σ = some (.d (.bool n.off), σ) := c42 _ _ _ _ _ _ _ σ

def Nd.next (n : Nd) : Int × Bool := if n.off || n.q.isEmpty then (0, false) else (nextOf n.q, true)

theorem b_nexti (n : Nd) (hl : n.q.length ≤ 1000000) (hr : ∀ x ∈ n.q, x.right = true) (σ : Store) : callIt E1 (evI E1) 143 [n.P] σ = some (.tup [.d (.int .i64 n.next.1), .d (.bool n.next.2)], σ) := by
  refine call_run (fn := Tryz.f143) 5 rfl rfl rfl Tryz.func143 rfl rfl ?_ rfl
  have h1 := b_off n
  obtain ⟨q, fs, c, g⟩ := n
  unfold Nd.next
  simp at hl hr
  cases ho : Nd.off ⟨q, fs, c, g⟩
  · rw [ho] at h1
    cases q with
    | nil =>
      simp at h1
      simp [Tryz.f143, cellsOf, loadS, storeS, h1]
    | cons w q =>
      have hw := hr w (by simp)
      have hq : ∀ x ∈ w :: q, x.right = true := hr
      have hmin : (minF rankCmp w (w :: q)).right = true := by
        rcases minF_mem rankCmp (w :: q) w with h | h
        · rw [h]; exact hw
        · exact hq _ h
      have hq0 : ((q.length : Int) + 1 == 0) = false := by rw [beq_eq_false_iff_ne]; omega
      have h2 : ∀ σ, _ := fun σ => b_min 192 (w :: q) w rfl rankCmp (by simpa using hl) σ (fun x y hx hy σ => b_next1 x y (hq x hx) (hq y hy) σ)
      have h3 : ∀ σ hσ hσ', _ := fun σ hσ hσ' => b_idxFr 196 [.ptr 1 0, .ptr 2 0] (fun x => rankCmp x (minF rankCmp w (w :: q)) == 0) (w :: q) (by simpa using hl) σ (.inr trivial) (fun x hx => b_next2 x _ (hq x hx) hmin σ 1 2 hσ hσ')
      have h4 := h3 [cellsOf (Nd.mk (w :: q) fs c g).P, [.func (.func 192) [] []], cellsOf (minF rankCmp w (w :: q)).P] rfl rfl
      simp [cellsOf] at h1 h2 h4
      simp [Tryz.f143, cellsOf, loadS, storeS, h1, hq0, h2, h4, nextOf]
  · rw [ho] at h1
    simp at h1
    simp [Tryz.f143, cellsOf, loadS, storeS, h1]
end Go.Proofs

set_option linter.unusedVariables false
set_option linter.unusedSimpArgs false
set_option maxRecDepth 100000
set_option maxHeartbeats 4000000
namespace Go.Proofs
open Go.RowKit Go.Shelf Go.Pv

theorem cmpL_self : ∀ a : List Int, cmpL a a = 0
  | [] => rfl
  | x :: xs => by simp [cmpL, cmpL_self xs]

theorem idx_found {α : Type} (p : α → Bool) : ∀ (l : List α) (i : Nat), (∃ x ∈ l, p x = true) → ∃ k, k < l.length ∧ idx p l i = (i + k : Nat) ∧ (∀ x, l[k]? = some x → p x = true) ∧ ∀ j x, j < k → l[j]? = some x → p x = false
  | [], i, h => by simp at h
  | x :: xs, i, h => by
    unfold idx
    cases hx : p x
    · have h' : ∃ y ∈ xs, p y = true := by
        obtain ⟨y, hy, hp⟩ := h
        rcases List.mem_cons.1 hy with rfl | hy
        · rw [hx] at hp; cases hp
        · exact ⟨y, hy, hp⟩
      obtain ⟨k, h1, h2, h3, h4⟩ := idx_found p xs (i + 1) h'
      refine ⟨k + 1, by simp; omega, by simp [h2]; omega, by simpa using h3, fun j y hj hy => ?_⟩
      cases j with
      | zero => simp at hy; subst hy; exact hx
      | succ j => exact h4 j y (by omega) (by simpa using hy)
    · exact ⟨0, by simp, by simp, by simpa using hx, fun j y hj _ => by omega⟩

theorem nextOf_found (q : List Fr) (h : q ≠ []) : ∃ k, k < q.length ∧ nextOf q = (k : Nat) ∧ (∀ x, q[k]? = some x → ∃ w, q[0]? = some w ∧ rankCmp x (minF rankCmp w q) = 0) ∧ ∀ j x, j < k → q[j]? = some x → ∀ w, q[0]? = some w → rankCmp x (minF rankCmp w q) ≠ 0 := by
  cases q with
  | nil => exact absurd rfl h
  | cons w q =>
    obtain ⟨k, h1, h2, h3, h4⟩ := idx_found (fun x => rankCmp x (minF rankCmp w (w :: q)) == 0) (w :: q) 0 ⟨minF rankCmp w (w :: q), by
      rcases minF_mem rankCmp (w :: q) w with h | h
      · rw [h]; simp
      · exact h, by simp [rankCmp, cmpL_self]⟩
    refine ⟨k, h1, by simpa [nextOf] using h2, fun x hx => ⟨w, rfl, by simpa using h3 x hx⟩, fun j x hj hx u hu => ?_⟩
    simp at hu
    subst hu
    simpa using h4 j x hj hx

/-- The next one's place. -/
def nxt (q : List Fr) : Nat := (nextOf q).toNat
theorem nxt_lt {q : List Fr} (h : q ≠ []) : nxt q < q.length := by
  obtain ⟨k, h1, h2, _⟩ := nextOf_found q h
  unfold nxt; omega
theorem nextOf_eq {q : List Fr} (h : q ≠ []) : nextOf q = (nxt q : Int) := by
  obtain ⟨k, h1, h2, _⟩ := nextOf_found q h
  unfold nxt; omega

def fr0 : Fr := ⟨false, 0, false, 0, []⟩

/-- The next frame. -/
def Nd.Next (n : Nd) : Fr × Bool := if n.off || n.q.isEmpty then (fr0, false) else (n.q.getD (nxt n.q) fr0, true)

theorem b_Next (n : Nd) (hl : n.q.length ≤ 1000000) (hr : ∀ x ∈ n.q, x.right = true) (σ : Store) : callIt E1 (evI E1) 135 [n.P] σ = some (.tup [n.Next.1.P, .d (.bool n.Next.2)], σ) := by
  refine call_run (fn := Tryz.f135) 5 rfl rfl rfl Tryz.func135 rfl rfl ?_ rfl
  have h1 := b_nexti n hl hr
  unfold Nd.Next
  unfold Nd.next at h1
  cases ho : n.off || n.q.isEmpty
  · rw [ho] at h1
    have hne : n.q ≠ [] := by intro h; simp [h] at ho
    obtain ⟨k, hk⟩ : ∃ k, k = nxt n.q := ⟨_, rfl⟩
    have hlt := nxt_lt hne
    rw [nextOf_eq hne, ← hk] at h1
    rw [← hk] at hlt ⊢
    have hx : n.q[k]? = some n.q[k] := List.getElem?_eq_getElem hlt
    generalize n.q[k] = x at hx
    simp at h1
    simp [Tryz.f135, cellsOf, loadS, storeS, h1, hx]
  · rw [ho] at h1
    simp at h1
    simp [Tryz.f135, cellsOf, loadS, storeS, h1, fr0]

def Cn.ok (c : Cn) : Prop := (0 ≤ c.t ∧ c.t ≤ 900) ∧ (0 ≤ c.r ∧ c.r ≤ 900) ∧ (0 ≤ c.z ∧ c.z ≤ 900)
def Cn.step (c : Cn) (what : Int) : Cn := ⟨stT c.t c.r c.s c.z what, stR c.t c.r c.s c.z what, stS c.t c.r c.s c.z what, stQ c.t c.r c.s c.z what⟩

theorem b_step (c : Cn) (what : Int) (hc : c.ok) (hw : 1 ≤ what ∧ what ≤ 6) (σ : Store) : callIt E1 (evI E1) 139 [c.P, .d (.int .i64 what)] σ = some ((c.step what).P, σ) := by
  have := d49 c.t c.r c.s c.z what hc.1 hc.2.1 hc.2.2 hw σ
  rw [stepV_eq] at this
  exact this

theorem eraseIdx_map {α β : Type} (f : α → β) : ∀ (l : List α) (i : Nat), (l.map f).eraseIdx i = (l.eraseIdx i).map f
  | [], i => rfl
  | x :: xs, 0 => rfl
  | x :: xs, i + 1 => by simp [List.eraseIdx_cons_succ, eraseIdx_map f xs i]

theorem b_without (l : List Fr) (i : Nat) (hl : l.length ≤ 1000000) (hi : i < l.length) (σ : Store) : callIt E1 (evI E1) 144 [.d (.slice (l.map Fr.D)), .d (.int .i64 i)] σ = some (.d (.slice ((l.eraseIdx i).map Fr.D)), σ) := by
  have := c48 (l.map Fr.D) i (rowsOk_Fr l) (by simp only [roomB, List.length_map]; omega) (by simpa using hi) σ
  rwa [eraseIdx_map] at this

theorem b_with (l : List Fr) (x : Fr) (hl : l.length ≤ 1000000) (σ : Store) : callIt E1 (evI E1) 125 [.d (.slice (l.map Fr.D)), x.P] σ = some (acc ((l ++ [x]).map Fr.D), σ) := by
  have := c43 (l.map Fr.D) x.e x.id x.rm x.ln (x.data.map byD) (rowsOk_Fr l) (by simp only [roomB, List.length_map]; omega) σ
  rw [List.map_append]
  exact this

def Nd.Sent (n : Nd) (ok : Bool) : Nd :=
  if n.off || n.q.isEmpty then n else if ok then { n with q := n.q.eraseIdx (nxt n.q), c := n.c.step 1 } else { n with c := n.c.step 3 }

theorem b_Sent (n : Nd) (ok : Bool) (hl : n.q.length ≤ 1000000) (hr : ∀ x ∈ n.q, x.right = true) (hc : n.c.ok) (σ : Store) : callIt E1 (evI E1) 76 [n.P, .d (.bool ok)] σ = some ((n.Sent ok).P, σ) := by
  refine call_run (fn := Tryz.f76) 5 rfl rfl rfl Tryz.func76 rfl rfl ?_ rfl
  have h1 := b_nexti n hl hr
  unfold Nd.Sent
  unfold Nd.next at h1
  cases ho : n.off || n.q.isEmpty
  · rw [ho] at h1
    have hne : n.q ≠ [] := by intro h; simp [h] at ho
    obtain ⟨k, hk⟩ : ∃ k, k = nxt n.q := ⟨_, rfl⟩
    have hlt := nxt_lt hne
    rw [nextOf_eq hne, ← hk] at h1
    rw [← hk] at hlt ⊢
    have h2 := b_without n.q k hl hlt
    have h3 := b_step n.c 1 hc (by omega)
    have h4 := b_step n.c 3 hc (by omega)
    simp at h1 h2 h3 h4
    cases ok
    · simp [Tryz.f76, cellsOf, loadS, storeS, h1, h2, h3, h4]
    · simp [Tryz.f76, cellsOf, loadS, storeS, h1, h2, h3, h4]
  · rw [ho] at h1
    simp at h1
    simp [Tryz.f76, cellsOf, loadS, storeS, h1]

def Nd.Quiet (n : Nd) : Nd := { n with c := n.c.step 6 }

theorem b_Quiet (n : Nd) (hc : n.c.ok) (σ : Store) : callIt E1 (evI E1) 69 [n.P] σ = some (n.Quiet.P, σ) := by
  refine call_run (fn := Tryz.f69) 5 rfl rfl rfl Tryz.func69 rfl rfl ?_ rfl
  have h3 := b_step n.c 6 hc (by omega)
  simp at h3
  simp [Tryz.f69, cellsOf, loadS, storeS, h3, Nd.Quiet]

def what (ok long : Bool) : Int := if ok then 2 else if long then 5 else 4

def Nd.Heard (n : Nd) (f : Fr) (ok long : Bool) : Nd :=
  if n.off then n else { n with g := if ok && decide ((n.g.length : Int) < 64) && anyF n.fs f then n.g ++ [f] else n.g, c := n.c.step (what ok long) }

theorem b_Heard (n : Nd) (f : Fr) (ok long : Bool) (hg : n.g.length ≤ 1000000) (hf : n.fs.length ≤ 1000000) (hc : n.c.ok) (σ : Store) : callIt E1 (evI E1) 77 [n.P, f.P, .d (.bool ok), .d (.bool long)] σ = some ((n.Heard f ok long).P, σ) := by
  refine call_run (fn := Tryz.f77) 5 rfl rfl rfl Tryz.func77 rfl rfl ?_ rfl
  have h1 := b_off n
  have h2 := b_any n.fs f hf
  have h3 := b_with n.g f hg
  have h4 := b_step n.c 2 hc (by omega)
  have h5 := b_step n.c 4 hc (by omega)
  have h6 := b_step n.c 5 hc (by omega)
  unfold Nd.Heard what
  simp at h1 h2 h3 h4 h5 h6
  cases ho : n.off
  · rw [ho] at h1
    cases ok
    · cases long
      · simp [Tryz.f77, cellsOf, loadS, storeS, h1, h5]
      · simp [Tryz.f77, cellsOf, loadS, storeS, h1, h6]
    · by_cases hl : (n.g.length : Int) < 64
      · cases ha : anyF n.fs f
        · rw [ha] at h2
          simp [Tryz.f77, cellsOf, loadS, storeS, h1, h2, h4, hl]
        · rw [ha] at h2
          simp [Tryz.f77, cellsOf, loadS, storeS, h1, h2, h3, h4, hl]
      · simp [Tryz.f77, cellsOf, loadS, storeS, h1, h4, hl]
  · rw [ho] at h1
    simp [Tryz.f77, cellsOf, loadS, storeS, h1]

def Nd.Send (n : Nd) (f : Fr) : Nd × Int :=
  if f.right = false then (n, 90) else if n.off then (n, 3) else if 16 ≤ n.q.length then (n, 2) else ({ n with q := n.q ++ [f] }, 0)

theorem b_Send (n : Nd) (f : Fr) (hq : n.q.length ≤ 1000000) (σ : Store) : callIt E1 (evI E1) 55 [n.P, f.P] σ = some (.tup [(n.Send f).1.P, .d (.int .i64 (n.Send f).2)], σ) := by
  unfold Nd.Send
  cases hf : f.right
  · exact c14_bad (n.q.map Fr.D) (n.fs.map Fl.D) n.c.t n.c.r n.c.s n.c.z (n.g.map Fr.D) f.e f.id f.rm f.ln (f.data.map byD) σ hf
  · cases ho : n.off
    · have hs : n.c.s ≠ 3 := by simpa [Nd.off] using ho
      by_cases hl : 16 ≤ n.q.length
      · have := c14_full (n.q.map Fr.D) (n.fs.map Fl.D) n.c.t n.c.r n.c.s n.c.z (n.g.map Fr.D) f.e f.id f.rm f.ln (f.data.map byD) σ hf hs (by simpa using hl)
        simpa [hl, ndP, frP] using this
      · have := c14_ok (n.q.map Fr.D) (n.fs.map Fl.D) n.c.t n.c.r n.c.s n.c.z (n.g.map Fr.D) f.e f.id f.rm f.ln (f.data.map byD) σ hf hs (by simpa using hl) (rowsOk_Fr _)
        simpa [hl, ndP, frP, frD] using this
    · have hs : n.c.s = 3 := by simpa [Nd.off] using ho
      exact c14_off (n.q.map Fr.D) (n.fs.map Fl.D) n.c.t n.c.r n.c.s n.c.z (n.g.map Fr.D) f.e f.id f.rm f.ln (f.data.map byD) σ hf hs

def Nd.Take (n : Nd) : Nd × Fr × Bool :=
  match n.g with
  | [] => (n, fr0, false)
  | f :: g => ({ n with g := g }, f, true)

theorem b_Take (n : Nd) (hg : n.g.length ≤ 1000000) (σ : Store) : callIt E1 (evI E1) 103 [n.P] σ = some (.tup [n.Take.1.P, n.Take.2.1.P, .d (.bool n.Take.2.2)], σ) := by
  obtain ⟨q, fs, c, g⟩ := n
  unfold Nd.Take
  cases g with
  | nil => exact c22_none (q.map Fr.D) (fs.map Fl.D) c.t c.r c.s c.z σ
  | cons f g => exact c22_some (q.map Fr.D) (fs.map Fl.D) c.t c.r c.s c.z f.e f.id f.rm f.ln (f.data.map byD) (g.map Fr.D) (rowsOk_Fr _) (by simp at hg; simp only [roomB, List.length_map]; omega) σ
end Go.Proofs

