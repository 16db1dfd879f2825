/- Pure values and what it means that a value of the machine's, in a world, is one of them; The evaluator: what the program's own code makes of pure values. Slices are lists; a variable in memory is a box of a store; Operations that ask neither the store nor a function: the machine computes what the evaluator does; Operations that ask neither the store nor a function, one by one; Operations that ask neither the store nor a function: the literals, fields, places; Operations that ask neither the store nor a function: comparisons, places, cuts; and all of them together; Operations that ask neither the store nor a function: all of them; Operations that ask neither the store nor a function: the one theorem. And what holds of a world, its boxes and its slots; Operations that change slots, boxes or memory; Loads and stores; Stores; and slices that grow. -/
import Derived.Calls
import Derived.Orders
import Derived.Laws.BytesArg
import Derived.ArgAppend
import Derived.Laws.Build
import Derived.Laws.Tables
import Derived.ChangeKeysEq
import Derived.Laws.CopyRow
set_option linter.unusedVariables false
namespace Go.Pv
open Go

/-- Plain data: a slice is the list of its elements, each element its cells. -/
inductive DV where
  | bool (b : Bool)
  | int (k : IntKind) (n : Int)
  | str (s : ByteArray)
  | slice (rows : List (List DV))

/-- What a slot holds. 'os': a slice whose spare room is this slot's own; 'e0': an empty one without spare room. -/
inductive PV where
  | undef
  | any
  | d (x : DV)
  | e0
  | os (rows : List (List DV))
  | agg (cells : List PV)
  | tup (vs : List PV)
  | ptr (id off : Nat)
  | ms (id off len sz : Nat)
  | nilptr
  | ro (cells : List DV)
  | func (fn : Fn) (first captured : List PV)
  | nilFunc
  | iface (t : TypeId) (v : PV)
  | nilIface

instance : Inhabited PV := ⟨.undef⟩

abbrev ImT := Nat → Nat → Prop

/-- In 'w' the machine's value is this data, by cells that nobody will write any more. -/
inductive RepD (w : World) (Im : ImT) : DV → Value → Prop
  | bool (b : Bool) : RepD w Im (.bool b) (.bool b)
  | int (k : IntKind) (n : Int) : RepD w Im (.int k n) (.int k n)
  | str (s : ByteArray) : RepD w Im (.str s) (.string s)
  | nil : RepD w Im (.slice []) (.slice none 0 0)
  | slice (rows : List (List DV)) (a : Addr) (c sz : Nat) (cv : Nat → Value)
      (hlen : ∀ r ∈ rows, r.length = sz) (hc : rows.length ≤ c) (hs : rows.length * sz ≠ 0 → a.spot = none)
      (hcell : ∀ j, j < rows.length * sz → w.cell? ⟨a.block, a.off + j, none⟩ = some (cv j))
      (him : ∀ j, j < rows.length * sz → Im a.block (a.off + j))
      (hrep : ∀ (i j : Nat) (r : List DV) (x : DV), rows[i]? = some r → r[j]? = some x → RepD w Im x (cv (i * sz + j))) :
      RepD w Im (.slice rows) (.slice (some a) rows.length c)

inductive RepP (w : World) (Im : ImT) (β : List Nat) : PV → Value → Prop
  | undef : RepP w Im β .undef Go.undef
  | any (v : Value) (h : v.cells = #[v]) : RepP w Im β .any v
  | d {x : DV} {v : Value} (h : RepD w Im x v) : RepP w Im β (.d x) v
  | e0 (a : Option Addr) : RepP w Im β .e0 (.slice a 0 0)
  | os {rows : List (List DV)} {v : Value} (h : RepD w Im (.slice rows) v) : RepP w Im β (.os rows) v
  | agg (cells : List PV) (vs : Array Value) (hl : cells.length = vs.size)
      (h : ∀ (i : Nat) (p : PV) (v : Value), cells[i]? = some p → vs[i]? = some v → RepP w Im β p v) : RepP w Im β (.agg cells) (.agg vs)
  | tup (cells : List PV) (vs : Array Value) (hl : cells.length = vs.size)
      (h : ∀ (i : Nat) (p : PV) (v : Value), cells[i]? = some p → vs[i]? = some v → RepP w Im β p v) : RepP w Im β (.tup cells) (.tuple vs)
  | ptr (id off b : Nat) (h : β[id]? = some b) : RepP w Im β (.ptr id off) (.pointer (some ⟨b, off, none⟩))
  | ms (id off len sz b c : Nat) (x : Addr) (h : β[id]? = some b) (hc : len ≤ c) (hx : len ≠ 0 → x = ⟨b, off, none⟩) : RepP w Im β (.ms id off len sz) (.slice (some x) len c)
  | nilptr : RepP w Im β .nilptr (.pointer none)
  | ro (cells : List DV) (a : Addr) (cv : Nat → Value) (hs : a.spot = none)
      (hcell : ∀ j, j < cells.length → w.cell? ⟨a.block, a.off + j, none⟩ = some (cv j))
      (him : ∀ j, j < cells.length → Im a.block (a.off + j))
      (hrep : ∀ (j : Nat) (x : DV), cells[j]? = some x → RepD w Im x (cv j)) : RepP w Im β (.ro cells) (.pointer (some a))
  | func (fn : Fn) (f c : List PV) (vf vc : Array Value) (hf : f.length = vf.size) (hc : c.length = vc.size)
      (h1 : ∀ (i : Nat) (p : PV) (v : Value), f[i]? = some p → vf[i]? = some v → RepP w Im β p v)
      (h2 : ∀ (i : Nat) (p : PV) (v : Value), c[i]? = some p → vc[i]? = some v → RepP w Im β p v) : RepP w Im β (.func fn f c) (.func fn vf vc)
  | nilFunc : RepP w Im β .nilFunc .nilFunc
  | iface (t : TypeId) (p : PV) (v : Value) (h : RepP w Im β p v) : RepP w Im β (.iface t p) (.iface t v)
  | nilIface : RepP w Im β .nilIface .nilIface

/-- The cells that must not change have not. -/
def Keep (w : World) (Im : ImT) (w' : World) (Im' : ImT) : Prop :=
  ∀ b o, Im b o → Im' b o ∧ w'.cell? ⟨b, o, none⟩ = w.cell? ⟨b, o, none⟩

theorem Keep.refl (w : World) (Im : ImT) : Keep w Im w Im := fun _ _ h => ⟨h, rfl⟩

theorem Keep.trans {w w' w'' : World} {Im Im' Im'' : ImT} (h : Keep w Im w' Im') (h' : Keep w' Im' w'' Im'') : Keep w Im w'' Im'' :=
  fun b o hb => ⟨(h' b o (h b o hb).1).1, ((h' b o (h b o hb).1).2).trans (h b o hb).2⟩

theorem RepD.keep {w w' : World} {Im Im' : ImT} {x : DV} {v : Value} (hk : Keep w Im w' Im') (h : RepD w Im x v) : RepD w' Im' x v := by
  induction h with
  | bool b => exact .bool b
  | int k n => exact .int k n
  | str s => exact .str s
  | nil => exact .nil
  | slice rows a c sz cv hlen hc hs hcell him _ ih =>
    exact .slice rows a c sz cv hlen hc hs (fun j hj => ((hk _ _ (him j hj)).2).trans (hcell j hj)) (fun j hj => (hk _ _ (him j hj)).1) ih

theorem RepP.keep {w w' : World} {Im Im' : ImT} {β β' : List Nat} {p : PV} {v : Value} (hk : Keep w Im w' Im')
    (hβ : ∀ id b : Nat, β[id]? = some b → β'[id]? = some b) (h : RepP w Im β p v) : RepP w' Im' β' p v := by
  induction h with
  | undef => exact .undef
  | any v h => exact .any v h
  | d h => exact .d (h.keep hk)
  | e0 a => exact .e0 a
  | os h => exact .os (h.keep hk)
  | agg cells vs hl _ ih => exact .agg cells vs hl ih
  | tup cells vs hl _ ih => exact .tup cells vs hl ih
  | ptr id off b h => exact .ptr id off b (hβ id b h)
  | ms id off len sz b c x h hc hx => exact .ms id off len sz b c x (hβ id b h) hc hx
  | nilptr => exact .nilptr
  | ro cells a cv hs hcell him hrep =>
    exact .ro cells a cv hs (fun j hj => ((hk _ _ (him j hj)).2).trans (hcell j hj)) (fun j hj => (hk _ _ (him j hj)).1) (fun j x hx => (hrep j x hx).keep hk)
  | func fn f c vf vc hf hc _ _ i1 i2 => exact .func fn f c vf vc hf hc i1 i2
  | nilFunc => exact .nilFunc
  | iface t p v _ ih => exact .iface t p v ih
  | nilIface => exact .nilIface

/-- All pointers in it go to boxes below n. -/
inductive PV.Below (n : Nat) : PV → Prop
  | undef : PV.Below n .undef
  | any : PV.Below n .any
  | d (x : DV) : PV.Below n (.d x)
  | e0 : PV.Below n .e0
  | os (rows : List (List DV)) : PV.Below n (.os rows)
  | agg (cells : List PV) (h : ∀ p ∈ cells, PV.Below n p) : PV.Below n (.agg cells)
  | tup (cells : List PV) (h : ∀ p ∈ cells, PV.Below n p) : PV.Below n (.tup cells)
  | ptr (id off : Nat) (h : id < n) : PV.Below n (.ptr id off)
  | ms (id off len sz : Nat) (h : id < n) : PV.Below n (.ms id off len sz)
  | nilptr : PV.Below n .nilptr
  | ro (cells : List DV) : PV.Below n (.ro cells)
  | func (fn : Fn) (f c : List PV) (hf : ∀ p ∈ f, PV.Below n p) (hc : ∀ p ∈ c, PV.Below n p) : PV.Below n (.func fn f c)
  | nilFunc : PV.Below n .nilFunc
  | iface (t : TypeId) (p : PV) (h : PV.Below n p) : PV.Below n (.iface t p)
  | nilIface : PV.Below n .nilIface

theorem RepP.cut {w : World} {Im : ImT} {β : List Nat} {n : Nat} {p : PV} {v : Value} (h : RepP w Im β p v) (hb : p.Below n) : RepP w Im (β.take n) p v := by
  induction h with
  | undef => exact .undef
  | any v h => exact .any v h
  | d h => exact .d h
  | e0 a => exact .e0 a
  | os h => exact .os h
  | agg cells vs hl _ ih => cases hb with | agg _ hb => exact .agg cells vs hl (fun i p v hp hv => ih i p v hp hv (hb p (List.mem_of_getElem? hp)))
  | tup cells vs hl _ ih => cases hb with | tup _ hb => exact .tup cells vs hl (fun i p v hp hv => ih i p v hp hv (hb p (List.mem_of_getElem? hp)))
  | ptr id off b h => cases hb with | ptr _ _ hb => exact .ptr id off b (by rw [List.getElem?_take]; simp [hb, h])
  | ms id off len sz b c x h hc hx => cases hb with | ms _ _ _ _ hb => exact .ms id off len sz b c x (by rw [List.getElem?_take]; simp [hb, h]) hc hx
  | nilptr => exact .nilptr
  | ro cells a cv hs hcell him hrep => exact .ro cells a cv hs hcell him hrep
  | func fn f c vf vc hf hc _ _ i1 i2 =>
    cases hb with
    | func _ _ _ b1 b2 =>
      exact .func fn f c vf vc hf hc (fun i p v hp hv => i1 i p v hp hv (b1 p (List.mem_of_getElem? hp))) (fun i p v hp hv => i2 i p v hp hv (b2 p (List.mem_of_getElem? hp)))
  | nilFunc => exact .nilFunc
  | iface t p v _ ih => cases hb with | iface _ _ hb => exact .iface t p v (ih hb)
  | nilIface => exact .nilIface

theorem RepP.bel {w : World} {Im : ImT} {β : List Nat} {p : PV} {v : Value} (h : RepP w Im β p v) : p.Below β.length := by
  induction h with
  | undef => exact .undef
  | any v h => exact .any
  | d h => exact .d _
  | e0 a => exact .e0
  | os h => exact .os _
  | agg cells vs hl _ ih =>
    refine .agg _ (fun p hp => ?_)
    obtain ⟨i, hi⟩ := List.mem_iff_getElem?.1 hp
    have hlt : i < vs.size := by rw [← hl]; exact (List.getElem?_eq_some_iff.1 hi).1
    exact ih i p vs[i] hi (Array.getElem?_eq_getElem hlt)
  | tup cells vs hl _ ih =>
    refine .tup _ (fun p hp => ?_)
    obtain ⟨i, hi⟩ := List.mem_iff_getElem?.1 hp
    have hlt : i < vs.size := by rw [← hl]; exact (List.getElem?_eq_some_iff.1 hi).1
    exact ih i p vs[i] hi (Array.getElem?_eq_getElem hlt)
  | ptr id off b h => exact .ptr _ _ (List.getElem?_eq_some_iff.1 h).1
  | ms id off len sz b c x h hc hx => exact .ms _ _ _ _ (List.getElem?_eq_some_iff.1 h).1
  | nilptr => exact .nilptr
  | ro cells a cv hs hcell him hrep => exact .ro _
  | func fn f c vf vc hf hc _ _ i1 i2 =>
    refine .func _ _ _ (fun p hp => ?_) (fun p hp => ?_)
    · obtain ⟨i, hi⟩ := List.mem_iff_getElem?.1 hp
      have hlt : i < vf.size := by rw [← hf]; exact (List.getElem?_eq_some_iff.1 hi).1
      exact i1 i p vf[i] hi (Array.getElem?_eq_getElem hlt)
    · obtain ⟨i, hi⟩ := List.mem_iff_getElem?.1 hp
      have hlt : i < vc.size := by rw [← hc]; exact (List.getElem?_eq_some_iff.1 hi).1
      exact i2 i p vc[i] hi (Array.getElem?_eq_getElem hlt)
  | nilFunc => exact .nilFunc
  | iface t p v _ ih => exact .iface _ _ ih
  | nilIface => exact .nilIface

theorem PV.Below.mono {n m : Nat} (hnm : n ≤ m) {p : PV} (h : p.Below n) : p.Below m := by
  induction h with
  | undef => exact .undef
  | any => exact .any
  | d x => exact .d x
  | e0 => exact .e0
  | os r => exact .os r
  | agg cells _ ih => exact .agg cells ih
  | tup cells _ ih => exact .tup cells ih
  | ptr id off h => exact .ptr id off (Nat.lt_of_lt_of_le h hnm)
  | ms id off len sz h => exact .ms id off len sz (Nat.lt_of_lt_of_le h hnm)
  | nilptr => exact .nilptr
  | ro cells => exact .ro cells
  | func fn f c _ _ i1 i2 => exact .func fn f c i1 i2
  | nilFunc => exact .nilFunc
  | iface t p _ ih => exact .iface t p ih
  | nilIface => exact .nilIface

/-- A copy that takes no spare room along. -/
def PV.strip1 : PV → PV
  | .os rows => .d (.slice rows)
  | .e0 => .d (.slice [])
  | p => p
def PV.strip : PV → PV
  | .agg cs => .agg (cs.map PV.strip1)
  | p => p.strip1
/-- The same, but what has no spare room stays so. -/
def PV.keep0 : PV → PV
  | .os rows => .d (.slice rows)
  | p => p

theorem RepP.strip1 {w : World} {Im : ImT} {β : List Nat} {p : PV} {v : Value} (h : RepP w Im β p v) : RepP w Im β p.strip1 v := by
  cases h with
  | os h => exact .d h
  | e0 a =>
    cases a with
    | none => exact .d .nil
    | some a => exact .d (.slice [] a 0 0 (fun _ => default) (by simp) (by simp) (by simp) (by simp) (by simp) (by simp))
  | undef => exact .undef
  | any v h => exact .any v h
  | d h => exact .d h
  | agg cells vs hl h => exact .agg cells vs hl h
  | tup cells vs hl h => exact .tup cells vs hl h
  | ptr id off b h => exact .ptr id off b h
  | ms id off len sz b c x h hc hx => exact .ms id off len sz b c x h hc hx
  | nilptr => exact .nilptr
  | ro cells a cv hs hcell him hrep => exact .ro cells a cv hs hcell him hrep
  | func fn f c vf vc hf hc h1 h2 => exact .func fn f c vf vc hf hc h1 h2
  | nilFunc => exact .nilFunc
  | iface t p v h => exact .iface t p v h
  | nilIface => exact .nilIface

theorem RepP.keep0 {w : World} {Im : ImT} {β : List Nat} {p : PV} {v : Value} (h : RepP w Im β p v) : RepP w Im β p.keep0 v := by
  cases h with
  | os h => exact .d h
  | e0 a => exact .e0 a
  | undef => exact .undef
  | any v h => exact .any v h
  | d h => exact .d h
  | agg cells vs hl h => exact .agg cells vs hl h
  | tup cells vs hl h => exact .tup cells vs hl h
  | ptr id off b h => exact .ptr id off b h
  | ms id off len sz b c x h hc hx => exact .ms id off len sz b c x h hc hx
  | nilptr => exact .nilptr
  | ro cells a cv hs hcell him hrep => exact .ro cells a cv hs hcell him hrep
  | func fn f c vf vc hf hc h1 h2 => exact .func fn f c vf vc hf hc h1 h2
  | nilFunc => exact .nilFunc
  | iface t p v h => exact .iface t p v h
  | nilIface => exact .nilIface

theorem RepP.strip {w : World} {Im : ImT} {β : List Nat} {p : PV} {v : Value} (h : RepP w Im β p v) : RepP w Im β p.strip v := by
  cases p with
  | agg cs =>
    cases h with
    | agg _ vs hl h =>
      refine .agg _ vs (by simp [hl]) (fun i p v hp hv => ?_)
      rw [List.getElem?_map] at hp
      cases hc : cs[i]? with
      | none => simp [hc] at hp
      | some q => simp [hc] at hp; subst hp; exact (h i q v hc hv).strip1
  | _ => exact h.strip1

/-- Data alone: no pointer, no function. -/
inductive PV.Data : PV → Prop
  | undef : PV.Data .undef
  | any : PV.Data .any
  | d (x : DV) : PV.Data (.d x)
  | e0 : PV.Data .e0
  | os (rows : List (List DV)) : PV.Data (.os rows)
  | agg (cells : List PV) (h : ∀ p ∈ cells, PV.Data p) : PV.Data (.agg cells)
  | tup (cells : List PV) (h : ∀ p ∈ cells, PV.Data p) : PV.Data (.tup cells)
  | nilptr : PV.Data .nilptr
  | ro (cells : List DV) : PV.Data (.ro cells)
  | nilFunc : PV.Data .nilFunc
  | iface (t : TypeId) (p : PV) (h : PV.Data p) : PV.Data (.iface t p)
  | nilIface : PV.Data .nilIface

theorem PV.Data.toBelow {p : PV} (h : p.Data) (n : Nat) : p.Below n := by
  induction h with
  | undef => exact .undef
  | any => exact .any
  | d x => exact .d x
  | e0 => exact .e0
  | os r => exact .os r
  | agg cells _ ih => exact .agg cells ih
  | tup cells _ ih => exact .tup cells ih
  | nilptr => exact .nilptr
  | ro cells => exact .ro cells
  | nilFunc => exact .nilFunc
  | iface t p _ ih => exact .iface t p ih
  | nilIface => exact .nilIface

mutual
def PV.isData : PV → Bool
  | .undef | .any | .d _ | .e0 | .os _ | .nilptr | .ro _ | .nilFunc | .nilIface => true
  | .agg cs => isDataL cs
  | .tup cs => isDataL cs
  | .iface _ v => v.isData
  | .ptr .. | .ms .. | .func .. => false
def isDataL : List PV → Bool
  | [] => true
  | p :: ps => p.isData && isDataL ps
end
mutual
def PV.isBelow (n : Nat) : PV → Bool
  | .undef | .any | .d _ | .e0 | .os _ | .nilptr | .ro _ | .nilFunc | .nilIface => true
  | .agg cs => isBelowL n cs
  | .tup cs => isBelowL n cs
  | .iface _ v => v.isBelow n
  | .ptr id _ => decide (id < n)
  | .ms id _ _ _ => decide (id < n)
  | .func _ f c => isBelowL n f && isBelowL n c
def isBelowL (n : Nat) : List PV → Bool
  | [] => true
  | p :: ps => p.isBelow n && isBelowL n ps
end

mutual
theorem PV.data_of : ∀ (p : PV), p.isData = true → p.Data
  | .undef, _ => .undef
  | .any, _ => .any
  | .d x, _ => .d x
  | .e0, _ => .e0
  | .os r, _ => .os r
  | .agg cells, h => .agg cells (dataL_of cells h)
  | .tup cells, h => .tup cells (dataL_of cells h)
  | .ptr id off, h => by simp [PV.isData] at h
  | .ms id off len sz, h => by simp [PV.isData] at h
  | .nilptr, _ => .nilptr
  | .ro cells, _ => .ro cells
  | .func fn f c, h => by simp [PV.isData] at h
  | .nilFunc, _ => .nilFunc
  | .iface t p, h => .iface t p (PV.data_of p h)
  | .nilIface, _ => .nilIface
theorem dataL_of : ∀ (cells : List PV), isDataL cells = true → ∀ p ∈ cells, p.Data
  | [], _, p, hp => by simp at hp
  | q :: qs, h, p, hp => by
    simp only [isDataL, Bool.and_eq_true] at h
    cases hp with
    | head => exact PV.data_of q h.1
    | tail _ hp => exact dataL_of qs h.2 p hp
end

mutual
theorem PV.below_of (n : Nat) : ∀ (p : PV), p.isBelow n = true → p.Below n
  | .undef, _ => .undef
  | .any, _ => .any
  | .d x, _ => .d x
  | .e0, _ => .e0
  | .os r, _ => .os r
  | .agg cells, h => .agg cells (belowL_of n cells h)
  | .tup cells, h => .tup cells (belowL_of n cells h)
  | .ptr id off, h => .ptr id off (by simpa [PV.isBelow] using h)
  | .ms id off len sz, h => .ms id off len sz (by simpa [PV.isBelow] using h)
  | .nilptr, _ => .nilptr
  | .ro cells, _ => .ro cells
  | .func fn f c, h => by
    simp only [PV.isBelow, Bool.and_eq_true] at h
    exact .func fn f c (belowL_of n f h.1) (belowL_of n c h.2)
  | .nilFunc, _ => .nilFunc
  | .iface t p, h => .iface t p (PV.below_of n p h)
  | .nilIface, _ => .nilIface
theorem belowL_of (n : Nat) : ∀ (cells : List PV), isBelowL n cells = true → ∀ p ∈ cells, p.Below n
  | [], _, p, hp => by simp at hp
  | q :: qs, h, p, hp => by
    simp only [isBelowL, Bool.and_eq_true] at h
    cases hp with
    | head => exact PV.below_of n q h.1
    | tail _ hp => exact belowL_of n qs h.2 p hp
end

/-! #### Equal boxes, asked by a program -/
mutual
def DV.same : DV → DV → Bool
  | .bool a, .bool b => a == b
  | .int k n, .int k' m => decide (k = k') && (n == m)
  | .str s, .str t => s.data.toList == t.data.toList
  | .slice r, .slice r' => sameRows r r'
  | _, _ => false
def sameRows : List (List DV) → List (List DV) → Bool
  | [], [] => true
  | r :: rs, q :: qs => sameL r q && sameRows rs qs
  | _, _ => false
def sameL : List DV → List DV → Bool
  | [], [] => true
  | x :: xs, y :: ys => x.same y && sameL xs ys
  | _, _ => false
end

mutual
theorem DV.same_eq : ∀ (x y : DV), x.same y = true → x = y
  | .bool a, .bool b, h => by simp [DV.same] at h; rw [h]
  | .int k n, .int k' m, h => by simp [DV.same] at h; rw [h.1, h.2]
  | .str s, .str t, h => by
    simp [DV.same] at h
    obtain ⟨a⟩ := s
    obtain ⟨b⟩ := t
    simp at h
    rw [h]
  | .slice r, .slice r', h => by simp only [DV.same] at h; rw [sameRows_eq r r' h]
  | .bool _, .int .., h | .bool _, .str _, h | .bool _, .slice _, h | .int .., .bool _, h | .int .., .str _, h | .int .., .slice _, h => by simp [DV.same] at h
  | .str _, .bool _, h | .str _, .int .., h | .str _, .slice _, h | .slice _, .bool _, h | .slice _, .int .., h | .slice _, .str _, h => by simp [DV.same] at h
theorem sameRows_eq : ∀ (r q : List (List DV)), sameRows r q = true → r = q
  | [], [], _ => rfl
  | r :: rs, q :: qs, h => by
    simp only [sameRows, Bool.and_eq_true] at h
    rw [sameL_eq r q h.1, sameRows_eq rs qs h.2]
  | [], _ :: _, h => by simp [sameRows] at h
  | _ :: _, [], h => by simp [sameRows] at h
theorem sameL_eq : ∀ (r q : List DV), sameL r q = true → r = q
  | [], [], _ => rfl
  | x :: xs, y :: ys, h => by
    simp only [sameL, Bool.and_eq_true] at h
    rw [DV.same_eq x y h.1, sameL_eq xs ys h.2]
  | [], _ :: _, h => by simp [sameL] at h
  | _ :: _, [], h => by simp [sameL] at h
end

mutual
theorem DV.same_self : ∀ (x : DV), x.same x = true
  | .bool a => by simp [DV.same]
  | .int k n => by simp [DV.same]
  | .str s => by simp [DV.same]
  | .slice r => by simp only [DV.same]; exact sameRows_self r
theorem sameRows_self : ∀ (r : List (List DV)), sameRows r r = true
  | [] => rfl
  | r :: rs => by simp only [sameRows, Bool.and_eq_true]; exact ⟨sameL_self r, sameRows_self rs⟩
theorem sameL_self : ∀ (r : List DV), sameL r r = true
  | [] => rfl
  | x :: xs => by simp only [sameL, Bool.and_eq_true]; exact ⟨DV.same_self x, sameL_self xs⟩
end

def PV.same : PV → PV → Bool
  | .undef, .undef => true
  | .d x, .d y => x.same y
  | .e0, .e0 => true
  | .os r, .os q => sameRows r q
  | .ptr i o, .ptr j q => i == j && o == q
  | .ms i o l z, .ms j q m y => i == j && (o == q && (l == m && z == y))
  | .nilptr, .nilptr => true
  | .nilFunc, .nilFunc => true
  | .nilIface, .nilIface => true
  | _, _ => false

theorem PV.same_eq : ∀ {p q : PV}, p.same q = true → p = q := by
  intro p q h
  cases p <;> cases q <;> simp [PV.same] at h <;> first | rfl | (rw [DV.same_eq _ _ h]) | (rw [sameRows_eq _ _ h]) | (rw [h.1, h.2.1, h.2.2.1, h.2.2.2]) | (rw [h.1, h.2])

def sameCells : List PV → List PV → Bool
  | [], [] => true
  | p :: ps, q :: qs => p.same q && sameCells ps qs
  | _, _ => false

theorem sameCells_eq : ∀ {p q : List PV}, sameCells p q = true → p = q
  | [], [], _ => rfl
  | p :: ps, q :: qs, h => by
    simp only [sameCells, Bool.and_eq_true] at h
    rw [PV.same_eq h.1, sameCells_eq h.2]
  | [], _ :: _, h => by simp [sameCells] at h
  | _ :: _, [], h => by simp [sameCells] at h

def sameStore : List (List PV) → List (List PV) → Bool
  | [], [] => true
  | p :: ps, q :: qs => sameCells p q && sameStore ps qs
  | _, _ => false

theorem sameStore_eq : ∀ {p q : List (List PV)}, sameStore p q = true → p = q
  | [], [], _ => rfl
  | p :: ps, q :: qs, h => by
    simp only [sameStore, Bool.and_eq_true] at h
    rw [sameCells_eq h.1, sameStore_eq h.2]
  | [], _ :: _, h => by simp [sameStore] at h
  | _ :: _, [], h => by simp [sameStore] at h

end Go.Pv

set_option linter.unusedVariables false
namespace Go.Pv
open Go

abbrev Store := List (List PV)

structure St where
  slots : List PV
  store : Store

structure Env where
  P : Program
  good : FuncId → Bool
  pure : FuncId → Bool
  ov : FuncId → Option (List PV → Option PV)
  /-- Functions that only read boxes. -/
  ro : FuncId → Bool := fun _ => false
  /-- Of a region whose order is drawn: a load's address and a store's that are two boxes'. -/
  apart : String → Nat → List (Nat × Nat) := fun _ _ => []
  /-- Of a region whose order is drawn: two operations that each make a box; an order in which the second one comes first. -/
  alt : String → Nat → Option (List Nat × Nat × Nat) := fun _ _ => none
  /-- In it a box may come to point to a younger one. -/
  loose : Bool := false
  /-- Functions that are run so: they leave the boxes that were there as they were. -/
  wild : FuncId → Bool := fun _ => false
  /-- Functions that are known otherwise, and touch boxes. -/
  ext : Bool → FuncId → Option (List PV → List (List PV) → Option (PV × List (List PV))) := fun _ _ => none
  /-- Of a wild function: the places of what is appended to nothing and shall be written then. -/
  mkf : FuncId → List Nat := fun _ => []
  mks : List Nat := []

/-- What a function is run in. -/
def Env.at (E : Env) (f : FuncId) : Env := if E.wild f then { E with loose := true, mks := E.mkf f } else E

/-- Is it one of those whose appends make a slice to be written? -/
def mkSel (E : Env) : Option Tmp → Bool
  | some d => E.mks.contains d
  | none => false

/-- An own slice: without elements nothing is owned. -/
def acc : List (List DV) → PV
  | [] => .e0
  | r :: rs => .os (r :: rs)

def ofCell : Value → Option PV
  | .bool b => some (.d (.bool b))
  | .int k n => some (.d (.int k n))
  | .string s => some (.d (.str s))
  | .slice none 0 0 => some .e0
  | .pointer none => some .nilptr
  | .nilFunc => some .nilFunc
  | .nilIface => some .nilIface
  | _ => none

def ofValue : Value → Option PV
  | .agg cs => (cs.toList.mapM ofCell).map .agg
  | v => ofCell v

def rd (slots : List PV) (t : Nat) : PV := slots.getD t .undef

def opv (ρ : Nat → PV) : Operand → Option PV
  | .tmp t => some (ρ t)
  | .const v => ofValue v
  | .func f => some (.func (.func f) [] [])
  | .global _ => none

def use (ρ : Nat → PV) (x : Operand) : Option PV := (opv ρ x).map PV.strip

def useL (ρ : Nat → PV) : List Operand → Option (List PV)
  | [] => some []
  | x :: xs => (use ρ x).bind fun p => (useL ρ xs).map (p :: ·)

def toV : PV → Option Value
  | .d (.bool b) => some (.bool b)
  | .d (.int k n) => some (.int k n)
  | .d (.str s) => some (.string s)
  | _ => none

def ofScalar : Value → Option PV
  | .bool b => some (.d (.bool b))
  | .int k n => some (.d (.int k n))
  | .string s => some (.d (.str s))
  | _ => none

/-- What a computation gives that asks nothing of the world. -/
def pureRun (P : Program) {α : Type} : Sem α → Option α
  | .pure a => some a
  | .program k => pureRun P (k P)
  | .mark _ k => pureRun P k
  | _ => none

def aggT (P : Program) (t : TypeId) : Option Bool :=
  match P.underlying t with
  | some (.struct _) => some true
  | some (.array _ _) => some true
  | some _ => some false
  | none => none

def szT (P : Program) (t : TypeId) : Option Nat := (P.info? t).map (·.size)

def zeroT (P : Program) (t : TypeId) : Option PV := ((P.info? t).bind (·.zero)).bind ofValue

def cellsOf : PV → List PV
  | .agg cs => cs
  | p => [p]

def loadS (σ : Store) (id off n : Nat) : Option (List PV) :=
  (σ[id]?).bind fun cs => if off + n ≤ cs.length then some ((cs.drop off).take n) else none

def storeS (σ : Store) (id off : Nat) (vs : List PV) : Option Store :=
  (σ[id]?).bind fun cs => if off + vs.length ≤ cs.length then some (σ.set id (cs.take off ++ vs ++ cs.drop (off + vs.length))) else none

def toD : PV → Option DV
  | .d x => some x
  | .e0 => some (.slice [])
  | .os rows => some (.slice rows)
  | _ => none

def toDL : List PV → Option (List DV)
  | [] => some []
  | p :: ps => (toD p).bind fun x => (toDL ps).map (x :: ·)

/-- Which slot is appended to in this operation; or, at a few places, is moved out with its spare room. -/
def appTmp (o : Oper) : Option Nat :=
  match o.op with
  | .call c =>
    (match c.callee, (c.args[0]? : Option Operand) with
     | .builtin .append, some (.tmp t) => some t
     | _, _ => none)
  | .move (.tmp _) => if (o.dst = some 32 ∧ o.pos = "stuff.go:29") ∨ (o.dst = some 47 ∧ o.pos = "ref.go:27") then o.dst else none
  | _ => none

def appendFirst (ops : List Oper) : List Nat := ops.filterMap appTmp

def placesOf (P : Program) (t : TypeId) : Option (Nat → Option (Nat × Nat)) :=
  match P.underlying t with
  | some (.struct fields) => (fields.toList.mapM fun f => (szT P f.type).map fun s => (f.offset, s)).map fun l => fun i => l[i]?
  | some (.array _ elem) => (szT P elem).map fun s => fun i => some (i * s, s)
  | _ => none

def fillP (place : Nat → Option (Nat × Nat)) (cells : List PV) : List (Nat × PV) → Option (List PV)
  | [] => some cells
  | (i, v) :: rest =>
    match place i with
    | none => none
    | some (off, size) =>
      if (cellsOf v).length = size ∧ off + size ≤ cells.length then fillP place (cells.take off ++ cellsOf v ++ cells.drop (off + size)) rest else none

def rowsOk (size : Nat) (rows : List (List DV)) : Bool := rows.all fun r => r.length == size

/-- The kinds of the cells of a struct or array of scalars, which may be compared cell by cell. -/
def scalarD : TypeDesc → Bool
  | .bool => true
  | .int _ => true
  | .string => true
  | _ => false

def scalarT (P : Program) (t : TypeId) : Option TypeDesc := (P.underlying t).bind fun d => if scalarD d then some d else none

def flatF0 (P : Program) : Nat → List Field → Option (List TypeDesc)
  | _, [] => some []
  | i, f :: fs => (scalarT P f.type).bind fun d => if f.name ≠ "_" ∧ f.offset = i then (flatF0 P (i + 1) fs).map (d :: ·) else none

/-- The kinds of a struct of scalars that is a field. -/
def nestT (P : Program) (t : TypeId) : Option (List TypeDesc) :=
  match P.underlying t with
  | some (.struct gs) => if P.stoodInHeld t then none else (flatF0 P 0 gs.toList).bind fun ds => if szT P t = some ds.length ∧ aggT P t = some true then some ds else none
  | _ => none

def flatFields (P : Program) : Nat → List Field → Option (List TypeDesc)
  | _, [] => some []
  | i, f :: fs => if f.name ≠ "_" ∧ f.offset = i then
      (match scalarT P f.type with
       | some d => (flatFields P (i + 1) fs).map (d :: ·)
       | none => (nestT P f.type).bind fun ds => (flatFields P (i + ds.length) fs).map (ds ++ ·))
    else none

def kindsOf (P : Program) (t : TypeId) : Option (List TypeDesc) :=
  if P.eqGuardType P.depth t then none else
  match P.underlying t with
  | some (.struct fields) => if P.stoodInHeld t then none else flatFields P 0 fields.toList
  | some (.array n elem) => (scalarT P elem).bind fun d => if szT P elem = some 1 then some (List.replicate n d) else none
  | _ => none

def eqCells : List TypeDesc → List PV → List PV → Option Bool
  | [], [], [] => some true
  | .bool :: ts, .d (.bool a) :: xs, .d (.bool b) :: ys => (eqCells ts xs ys).map ((a == b) && ·)
  | .int _ :: ts, .d (.int k a) :: xs, .d (.int k' b) :: ys => if k = k' then (eqCells ts xs ys).map ((a == b) && ·) else none
  | .string :: ts, .d (.str a) :: xs, .d (.str b) :: ys => (eqCells ts xs ys).map ((a == b) && ·)
  | _, _, _ => none

def evBin (P : Program) (op : BinOp) (t : TypeId) (x y : PV) : Option PV :=
  match x, y with
  | .agg xs, .agg ys =>
    (kindsOf P t).bind fun ks =>
      (match op with
       | .eql => (eqCells ks xs ys).map fun b => .d (.bool b)
       | .neq => (eqCells ks xs ys).map fun b => .d (.bool (!b))
       | _ => none)
  | _, _ => (toV x).bind fun a => (toV y).bind fun b => (pureRun P (binOp op t a b)).bind ofScalar

def natOf : PV → Option Nat
  | .d (.int _ n) => if 0 ≤ n then some n.toNat else none
  | _ => none

def bound (ρ : Nat → PV) (x : Option Operand) (dflt : Nat) : Option Nat :=
  match x with
  | none => some dflt
  | some o => (use ρ o).bind natOf

def evSlice (P : Program) (ρ : Nat → PV) (t : TypeId) (x : Operand) (lo hi mx : Option Operand) : Option PV :=
  (use ρ x).bind fun p =>
  match P.underlying t, p with
  | some .string, .d (.str s) =>
    if mx.isSome then none else
    (bound ρ lo 0).bind fun l => (bound ρ hi s.size).bind fun h => if l ≤ h ∧ h ≤ s.size then some (.d (.str (s.extract l h))) else none
  | some (.slice elem), .d (.slice rows) =>
    (szT P elem).bind fun sz =>
    (bound ρ lo 0).bind fun l => (bound ρ hi rows.length).bind fun h =>
    if rowsOk sz rows && decide (l ≤ h) && decide (h ≤ rows.length) then
      match mx with
      | none => some (.d (.slice ((rows.take h).drop l)))
      | some m => if hi.isSome then (bound ρ (some m) 0).bind fun m => if m = h then some (acc ((rows.take h).drop l)) else none else none
    else none
  | some (.slice elem), .ms id off len sz =>
    if szT P elem = some sz ∧ mx.isNone = true then
      (bound ρ lo 0).bind fun l => (bound ρ hi len).bind fun h => if l ≤ h ∧ h ≤ len then some (.ms id (off + l * sz) (h - l) sz) else none
    else none
  | _, _ => none

def evIndexAddr (P : Program) (t : TypeId) (x i : PV) : Option PV :=
  (natOf i).bind fun n =>
  match P.underlying t, x with
  | some (.slice elem), .d (.slice rows) =>
    (rows[n]?).bind fun r => if szT P elem = some r.length ∧ 0 < r.length then some (.ro r) else none
  | some (.array len elem), .ptr id off => (szT P elem).bind fun sz => if n < len then some (.ptr id (off + n * sz)) else none
  | some (.slice elem), .ms id off len sz => if szT P elem = some sz ∧ n < len then some (.ptr id (off + n * sz)) else none
  | _, _ => none

def partP (P : Program) (t : TypeId) (cs : List PV) (off : Nat) : Option PV :=
  (aggT P t).bind fun a => if a then (szT P t).bind fun sz => some (.agg (((cs.drop off).take sz).map PV.strip1)) else (cs[off]?).map PV.strip1

def evIndex (P : Program) (t : TypeId) (x i : PV) : Option PV :=
  (natOf i).bind fun n =>
  match P.underlying t, x with
  | some (.array len elem), .agg cs => if n < len then (szT P elem).bind fun sz => partP P elem cs (n * sz) else none
  | some .string, .d (.str s) => (s[n]?).map fun b => .d (.int .u8 b.toNat)
  | _, _ => none

def evField (P : Program) (t : TypeId) (x : PV) (f : Nat) : Option PV :=
  match P.underlying t, x with
  | some (.struct fields), .agg cs => (fields[f]?).bind fun fl => partP P fl.type cs fl.offset
  | _, _ => none

def evFieldAddr (P : Program) (t : TypeId) (x : PV) (f : Nat) : Option PV :=
  match P.underlying t with
  | some (.struct fields) =>
    (fields[f]?).bind fun fl => (szT P fl.type).bind fun sz => if sz = 0 then none else
      match x with
      | .ptr id off => some (.ptr id (off + fl.offset))
      | .ro cells => some (.ro (cells.drop fl.offset))
      | _ => none
  | _ => none

/-- A byte's row. -/
def byteOfRow : List DV → Option Int
  | [.int .u8 n] => some n
  | _ => none
def bytesOfRows : List (List DV) → Option (List Int)
  | [] => some []
  | r :: rs => (byteOfRow r).bind fun n => (bytesOfRows rs).map (n :: ·)
def isU8 (P : Program) (e : TypeId) : Bool := match P.underlying e with | some (.int .u8) => true | _ => false
def evBytesStr (P : Program) (src dst : TypeId) (rows : List (List DV)) : Option PV :=
  match P.underlying src, P.underlying dst with
  | some (.slice e), some .string => if isU8 P e then (bytesOfRows rows).map fun xs => .d (.str (strOfNums xs)) else none
  | _, _ => none

def evConvert (P : Program) (src dst : TypeId) (x : PV) : Option PV :=
  match x with
  | .d (.slice rows) => evBytesStr P src dst rows
  | x => (toV x).bind fun a => (pureRun P (convert src dst a)).bind ofScalar

def elemsOf : PV → Option (List (List DV))
  | .d (.slice rows) => some rows
  | _ => none

def ownRows : PV → Option (List (List DV))
  | .e0 => some []
  | .os (r :: rs) => some (r :: rs)
  | _ => none

/-- How many bytes a slice that grows may take. -/
def roomB : Nat := 2 ^ 45

/-- A slice type that may be appended to: its elements' cells and bytes. -/
def appT (P : Program) (t : TypeId) : Option (Nat × Nat) :=
  match P.underlying t with
  | some (.slice elem) =>
    match P.info? elem with
    | some ie => if 0 < ie.size ∧ 0 < ie.bytes ∧ ie.zero.map (fun z => z.cells.size) = some ie.size then some (ie.size, ie.bytes) else none
    | none => none
  | _ => none

def evAppend (P : Program) (t : TypeId) (s x : PV) : Option PV :=
  (appT P t).bind fun k => (ownRows s).bind fun rs => (elemsOf x).bind fun xs =>
    if rowsOk k.1 rs && rowsOk k.1 xs && decide ((rs.length + xs.length) * k.2 ≤ roomB) then some (acc (rs ++ xs)) else none

def evLen (P : Program) (t : TypeId) (x : PV) : Option PV :=
  match P.underlying t, x with
  | some .string, .d (.str s) => some (.d (.int .i64 s.size))
  | some (.slice _), .d (.slice rows) => some (.d (.int .i64 rows.length))
  | some (.slice _), .ms _ _ len _ => some (.d (.int .i64 len))
  | some (.array n _), _ => some (.d (.int .i64 n))
  | _, _ => none

def toVL : List PV → Option (List Value)
  | [] => some []
  | p :: ps => (toV p).bind fun v => (toVL ps).map (v :: ·)

def evMinMax (P : Program) (isMax : Bool) (xs : List PV) : Option PV :=
  (toVL xs).bind fun vs => (pureRun P (if isMax then Builtin.max_ #[] 0 vs.toArray else Builtin.min_ #[] 0 vs.toArray)).bind ofScalar

/-- One part of a literal's elements. -/
def rowsFrom (sz : Nat) : Nat → List (Nat × PV) → Option (List (List DV))
  | _, [] => some []
  | i, (j, p) :: rest => if i = j then (toDL (cellsOf p)).bind fun r => if r.length = sz then (rowsFrom sz (i + 1) rest).map (r :: ·) else none else none

def useParts (ρ : Nat → PV) : List (Nat × Operand) → Option (List (Nat × PV))
  | [] => some []
  | (i, x) :: xs => (use ρ x).bind fun p => (useParts ρ xs).map ((i, p) :: ·)

/-- Operations that ask neither the store nor a function. -/
def evPure (P : Program) (ρ : Nat → PV) : Op → Option PV
  | .pick c a b => (use ρ c).bind fun cv => (use ρ a).bind fun x => (use ρ b).bind fun y => match cv with | .d (.bool t) => some (if t then x else y) | _ => none
  | .build t parts =>
    (zeroT P t).bind fun z => (placesOf P t).bind fun pl => (useParts ρ parts.toList).bind fun ps => (fillP pl (cellsOf z) ps).map .agg
  | .buildSlice t len parts =>
    match P.underlying t with
    | some (.slice elem) =>
      (szT P elem).bind fun sz => (useParts ρ parts.toList).bind fun ps =>
      if ps.length = len ∧ len * sz ≤ 2 ^ 24 ∧ 0 < sz ∧ ((P.info? elem).bind (·.zero)).isSome then (rowsFrom sz 0 ps).map acc else none
    | _ => none
  | .nilCheck x => (use ρ x).bind fun p => match p with | .ptr .. => some p | .ro .. => some p | .func (.func _) _ _ => some p | _ => none
  | .binOp op t x y _ => (use ρ x).bind fun p => (use ρ y).bind fun q => evBin P op t p q
  | .unOp op _ x => (use ρ x).bind fun p => (toV p).bind fun a => (pureRun P (Op.unary op a)).bind ofScalar
  | .convert s d x => (use ρ x).bind fun p => evConvert P s d p
  | .makeInterface t x => match P.underlying t with
    | some (.interface _) => none
    | some _ => (use ρ x).map fun p => .iface t p
    | none => none
  | .makeFunc fn first captured => (useL ρ first.toList).bind fun f => (useL ρ captured.toList).map fun c => .func fn f c
  | .slice t x lo hi mx => evSlice P ρ t x lo hi mx
  | .fieldAddr t x f => (use ρ x).bind fun p => evFieldAddr P t p f
  | .field t x f => (use ρ x).bind fun p => evField P t p f
  | .indexAddr t x i => (use ρ x).bind fun p => (use ρ i).bind fun q => evIndexAddr P t p q
  | .index t x i => (use ρ x).bind fun p => (use ρ i).bind fun q => evIndex P t p q
  | .extract x i => (use ρ x).bind fun p => match p with | .tup vs => (vs[i]?).map PV.strip | _ => none
  | _ => none

/-- What a computation gives: a value, the slot whose spare room it took, the store. -/
abbrev Gives := PV × Option Nat × Store

def moveIt (ρ : Nat → PV) (take : Bool) (σ : Store) : Operand → Option Gives
  | .tmp s => if take then some (ρ s, some s, σ) else some ((ρ s).strip, none, σ)
  | x => (opv ρ x).map fun p => (p, none, σ)

def loadAs (P : Program) (t : TypeId) (σ : Store) (take : Bool) (p : PV) : Option (PV × Store) :=
  (aggT P t).bind fun a =>
  match p with
  | .ptr id off =>
    if a then (szT P t).bind fun sz => (loadS σ id off sz).map fun cs => (.agg (cs.map PV.strip1), σ)
    else (loadS σ id off 1).bind fun cs => match cs with
      | [c] => if take then (storeS σ id off [c.strip1]).map fun σ' => (c, σ') else some (c.strip, σ)
      | _ => none
  | .ro cells =>
    if a then (szT P t).bind fun sz => if sz ≤ cells.length then some (.agg ((cells.take sz).map .d), σ) else none
    else (cells[0]?).map fun c => (.d c, σ)
  | _ => none

/-- May it lie in one cell? -/
def oneP : PV → Bool
  | .agg _ | .tup _ | .undef | .any => false
  | _ => true

def storedCells : PV → List PV
  | .agg cs => cs.map PV.keep0
  | v => [v]

def storeAs (P : Program) (lo : Bool) (t : TypeId) (σ : Store) (p v : PV) : Option Store :=
  match p with
  | .ptr id off => if szT P t = some (storedCells v).length ∧ (lo || isBelowL id (storedCells v)) = true ∧ (storedCells v).all oneP = true then storeS σ id off (storedCells v) else none
  | _ => none

/-- What a row's cells are, element by element. -/
def chunks (sz : Nat) : Nat → List DV → List (List DV)
  | 0, _ => []
  | n + 1, ds => ds.take sz :: chunks sz n (ds.drop sz)

def allD (f : PV → Option DV) : List PV → Option (List DV)
  | [] => some []
  | p :: ps => (f p).bind fun x => (allD f ps).map (x :: ·)

/-- What lies in boxes that nobody will write any more, as data. -/
def frzD (σ : Store) : Nat → PV → Option DV
  | 0, _ => none
  | k + 1, p => match p with
    | .d x => some x
    | .e0 => some (.slice [])
    | .os rows => some (.slice rows)
    | .ms id off len sz => (σ[id]?).bind fun cells => if off + len * sz ≤ cells.length then (allD (frzD σ k) ((cells.drop off).take (len * sz))).map fun ds => .slice (chunks sz len ds) else none
    | _ => none

def frz1 (σ : Store) (k : Nat) : PV → Option PV
  | .agg cs => (allD (frzD σ k) cs).map fun ds => .agg (ds.map .d)
  | p => (frzD σ k p).map .d

def allP (f : PV → Option PV) : List PV → Option (List PV)
  | [] => some []
  | p :: ps => (f p).bind fun x => (allP f ps).map (x :: ·)

def frzP (σ : Store) (k : Nat) : PV → Option PV
  | .tup vs => (allP (frz1 σ k) vs).map .tup
  | p => frz1 σ k p

abbrev FnEv := FuncId → List PV → Store → Option (PV × Store)

open Classical in
/-- A call of a function: by an override, or of one that touches no box, or of one that may. -/
noncomputable def callIt (E : Env) (F : FnEv) (f : FuncId) (args : List PV) (σ : Store) : Option (PV × Store) :=
  match E.ext E.loose f with
  | some g => (g args σ).map fun r => (r.1.strip, if r.1.isData then r.2.take σ.length else r.2)
  | none =>
  match E.ov f with
  | some g => if isDataL args then (g args).bind fun r => if r.isData then some (r, σ) else none else none
  | none =>
    if E.pure f then (if isDataL args then (F f args []).bind fun r => if r.1.isData then some (r.1, σ) else (frzP r.2 (r.2.length + 1) r.1).map fun v => (v, σ) else none)
    else if E.ro f then (F f args σ).bind fun r => if r.1.isData = true ∧ r.2.take σ.length = σ then some (r.1.strip, σ) else none
    else (F f args σ).bind fun r => if r.1.isData then some (r.1.strip, r.2.take σ.length) else some (r.1.strip, r.2)

/-- So many of the same. -/
def repCells : Nat → List PV → List PV
  | 0, _ => []
  | n + 1, z => z ++ repCells n z

/-- Cells of rows. -/
def flatD : List (List DV) → List PV
  | [] => []
  | r :: rs => r.map .d ++ flatD rs

/-- Into a slice that was made, out of data or such a slice. -/
def evCopy (P : Program) (lo : Bool) (t : TypeId) (σ : Store) (p q : PV) : Option (PV × Store) :=
  match P.underlying t, p, q with
  | some (.slice e), .ms id off len sz, .d (.slice rows) =>
    if szT P e = some sz ∧ rowsOk sz rows = true then
      (storeS σ id off (flatD (rows.take (min rows.length len)))).map fun σ' => (.d (.int .i64 (min rows.length len : Nat)), σ')
    else none
  | some (.slice e), .ms id off len sz, .ms id' off' len' sz' =>
    if szT P e = some sz ∧ sz' = sz then
      (loadS σ id' off' (min len' len * sz)).bind fun cs =>
      if (lo || isBelowL id (cs.map PV.strip1)) = true ∧ (cs.map PV.strip1).all oneP = true then
        (storeS σ id off (cs.map PV.strip1)).map fun σ' => (.d (.int .i64 (min len' len : Nat)), σ')
      else none
    else none
  | _, _, _ => none

/-- A slice that was made, all zero. -/
def evClear (P : Program) (t : TypeId) (σ : Store) (p : PV) : Option (PV × Store) :=
  match P.underlying t, p with
  | some (.slice e), .ms id off len sz =>
    (zeroT P e).bind fun z => if (cellsOf z).length = sz ∧ szT P e = some sz ∧ (cellsOf z).all oneP = true then (storeS σ id off (repCells len (cellsOf z))).map fun σ' => (.tup [], σ') else none
  | _, _ => none

def slotOf : Operand → Option Nat
  | .tmp s => some s
  | _ => none

noncomputable def evCall (E : Env) (F : FnEv) (ρ : Nat → PV) (σ : Store) (c : Call) : Option Gives :=
  match c.callee with
  | .builtin .append =>
    (match c.argTypes.toList, c.args.toList with
     | [tS, tX], [s, x] => if tS = tX then (opv ρ s).bind fun sv => (use ρ x).bind fun xv => (evAppend E.P tS sv xv).map fun r => (r, slotOf s, σ) else none
     | _, _ => none)
  | .builtin .len =>
    (match c.argTypes.toList, c.args.toList with
     | [t], [x] => (use ρ x).bind fun p => (evLen E.P t p).map fun r => (r, none, σ)
     | _, _ => none)
  | .builtin .copy =>
    (match c.argTypes.toList, c.args.toList with
     | [t, _], [x, y] => (use ρ x).bind fun p => (use ρ y).bind fun q => (evCopy E.P E.loose t σ p q).map fun r => (r.1, none, r.2)
     | _, _ => none)
  | .builtin .clear =>
    (match c.argTypes.toList, c.args.toList with
     | [t], [x] => (use ρ x).bind fun p => (evClear E.P t σ p).map fun r => (r.1, none, r.2)
     | _, _ => none)
  | .builtin .min => (useL ρ c.args.toList).bind fun ps => (evMinMax E.P false ps).map fun r => (r, none, σ)
  | .builtin .max => (useL ρ c.args.toList).bind fun ps => (evMinMax E.P true ps).map fun r => (r, none, σ)
  | .builtin _ => none
  | .invoke _ _ => none
  | .value f =>
    (use ρ f).bind fun fv => (useL ρ c.args.toList).bind fun args =>
    match fv with
    | .func (.func g) first captured => (callIt E F g (first.map PV.strip ++ args ++ captured.map PV.strip) σ).map fun r => (r.1, none, r.2)
    | _ => none

/-- Appended to nothing: a slice that was made, out of data or of one that was made. -/
def mkApp (P : Program) (t : TypeId) (σ : Store) (s x : PV) : Option (PV × Store) :=
  match x with
  | .ms id off len sz => (appT P t).bind fun k => (ownRows s).bind fun rs => (loadS σ id off (len * sz)).bind fun cs =>
    if rs.isEmpty && (decide (sz = k.1) && (decide (0 < len) && (decide (len * k.2 ≤ roomB) && (cs.map PV.strip1).all oneP))) then some (.ms σ.length 0 len sz, σ ++ [cs.map PV.strip1]) else none
  | x =>
  (appT P t).bind fun k => (ownRows s).bind fun rs => (elemsOf x).bind fun xs =>
    if rs.isEmpty && (rowsOk k.1 xs && decide (xs.length * k.2 ≤ roomB)) then
      (if xs.isEmpty then some (.e0, σ) else some (.ms σ.length 0 xs.length k.1, σ ++ [flatD xs])) else none
def evMkApp (E : Env) (ρ : Nat → PV) (σ : Store) (c : Call) : Option Gives :=
  match c.callee with
  | .builtin .append =>
    (match c.argTypes.toList, c.args.toList with
     | [tS, tX], [s, x] => if tS = tX then (opv ρ s).bind fun sv => (use ρ x).bind fun xv => (mkApp E.P tS σ sv xv).map fun r => (r.1, none, r.2) else none
     | _, _ => none)
  | _ => none

def takes (aps : List Nat) : Option Tmp → Bool
  | some d => aps.contains d
  | none => false

/-- The cells of a slice that is made, and how many an element has. -/
def evMake (P : Program) (t : TypeId) (n m : Nat) : Option (Nat × List PV) :=
  (appT P t).bind fun k => match P.underlying t with
    | some (.slice e) => (zeroT P e).bind fun z => if n ≤ m ∧ m * k.2 ≤ roomB then some (k.1, repCells m (cellsOf z)) else none
    | _ => none

/-- A slice that is made and never written: data, all zero. -/
def evMakeD (P : Program) (t : TypeId) (n m : Nat) : Option PV :=
  (appT P t).bind fun k => match P.underlying t with
    | some (.slice e) => (zeroT P e).bind fun z => (toDL (cellsOf z)).bind fun r => if n ≤ m ∧ m * k.2 ≤ roomB ∧ r.length = k.1 then some (.d (.slice (List.replicate n r))) else none
    | _ => none

/-- What a box is made with: what has no spare room stays so. -/
def boxCells : PV → List PV
  | .agg cs => cs.map PV.keep0
  | p => [p.keep0]

noncomputable def evCore (E : Env) (F : FnEv) (aps : List Nat) (dst : Option Tmp) (op : Op) (ρ : Nat → PV) (σ : Store) : Option Gives :=
  match op with
  | .move x => moveIt ρ (takes aps dst) σ x
  | .assign x => moveIt ρ true σ x
  | .alloc t => (zeroT E.P t).map fun z => (.ptr σ.length 0, none, σ ++ [cellsOf z])
  | .box t x => (opv ρ x).map fun p => (.ptr σ.length 0, none, σ ++ [boxCells p])
  | .load t a => (use ρ a).bind fun p => (loadAs E.P t σ (takes aps dst) p).map fun r => (r.1, none, r.2)
  | .store t a x => (use ρ a).bind fun p => (opv ρ x).bind fun v => (storeAs E.P E.loose t σ p v).map fun σ' => (.undef, slotOf x, σ')
  | .call c => if mkSel E dst then evMkApp E ρ σ c else evCall E F ρ σ c
  | .makeSlice t l c => (use ρ l).bind fun lv => (use ρ c).bind fun cv => (natOf lv).bind fun n => (natOf cv).bind fun m => if mkSel E dst then (evMakeD E.P t n m).map fun r => (r, none, σ) else (evMake E.P t n m).map fun r => (.ms σ.length 0 n r.1, none, σ ++ [r.2])
  | op => (evPure E.P ρ op).map fun r => (r, none, σ)

def putS (slots : List PV) (dst : Option Tmp) (v : PV) : List PV :=
  match dst with
  | some d => slots.set d v
  | none => slots

def untake (slots : List PV) (tr : Option Nat) : List PV :=
  match tr with
  | some s => slots.set s (rd slots s).strip
  | none => slots

def evWant (ops : Array Oper) (o : Oper) (ρ : Nat → PV) : Option Bool :=
  match o.guard with
  | none => some true
  | some (j, want) =>
    match (ops[j]?).bind (·.dst) with
    | none => some false
    | some s => match ρ s with
      | .d (.bool b) => some (b == want)
      | .undef => some false
      | _ => none

noncomputable def evOp (E : Env) (F : FnEv) (ops : Array Oper) (o : Oper) (st : St) : Option St :=
  (evWant ops o (rd st.slots)).bind fun w =>
  if w then (evCore E F (appendFirst ops.toList) o.dst o.op (rd st.slots) st.store).map fun g =>
    { slots := putS (untake st.slots g.2.1) o.dst g.1, store := g.2.2 }
  else some { st with slots := putS st.slots o.dst .undef }

noncomputable def evOps (E : Env) (F : FnEv) (ops : Array Oper) : List Oper → St → Option St
  | [], st => some st
  | o :: os, st => (evOp E F ops o st).bind (evOps E F ops os)

inductive Ex where
  | normal | exit (id : Nat) | ret
  deriving DecidableEq

def loopN (step : St → Option (Ex × St)) : Nat → St → Option (Ex × St)
  | 0, _ => none
  | n + 1, st => (step st).bind fun r => match r.1 with
    | .normal => loopN step n r.2
    | _ => some r

/-- Where a region stands in the text. -/
def posOf (ops : Array Oper) : String := match ops[0]? with | some o => o.pos | none => ""

def apartB (ρ : Nat → PV) (x : Nat × Nat) : Bool :=
  match ρ x.1, ρ x.2 with
  | .ptr i _, .ptr j _ => i != j
  | _, _ => false

def apartL (ρ : Nat → PV) : List (Nat × Nat) → Bool
  | [] => true
  | x :: xs => apartB ρ x && apartL ρ xs

/-! #### Two boxes made in either order -/

def swId (n i : Nat) : Nat := if i = n then n + 1 else if i = n + 1 then n else i

open Classical in
mutual
/-- The second is the first, but for the numbers of the boxes n and n + 1. -/
noncomputable def swPV (n : Nat) : PV → PV → Bool
  | .undef, .undef => true
  | .any, .any => true
  | .d x, .d y => x.same y
  | .e0, .e0 => true
  | .os r, .os q => sameRows r q
  | .ptr i o, .ptr j q => (swId n i == j) && (o == q)
  | .ms i o l z, .ms j q m y => (swId n i == j) && ((o == q) && ((l == m) && (z == y)))
  | .nilptr, .nilptr => true
  | .nilFunc, .nilFunc => true
  | .nilIface, .nilIface => true
  | .func f a c, .func g b d => decide (f = g) && (swL n a b && swL n c d)
  | .agg xs, .agg ys => swL n xs ys
  | .tup xs, .tup ys => swL n xs ys
  | _, _ => false
noncomputable def swL (n : Nat) : List PV → List PV → Bool
  | [], [] => true
  | p :: ps, q :: qs => swPV n p q && swL n ps qs
  | _, _ => false
end

def takenFrom (aps : List Nat) (o : Oper) : List Nat :=
  match o.op with
  | .move x => if takes aps o.dst then (slotOf x).toList else []
  | .assign x => (slotOf x).toList
  | .store _ _ x => (slotOf x).toList
  | .call c => (match c.callee, c.args.toList with
    | .builtin .append, s :: _ => (slotOf s).toList
    | _, _ => [])
  | _ => []

def writesOf (aps : List Nat) (o : Oper) : List Nat := takenFrom aps o ++ o.dst.toList

noncomputable def swRest (n : Nat) : List (List PV) → List (List PV) → Bool
  | [], [] => true
  | a :: r, b :: q => swL n a b && swRest n r q
  | _, _ => false

noncomputable def swBoxes (n : Nat) : List (List PV) → List (List PV) → Bool
  | a :: b :: r, c :: d :: q => swL n a d && (swL n b c && swRest n r q)
  | _, _ => false

open Classical in
/-- The state after the second order is that after the first one, but for the numbers of the two boxes. -/
noncomputable def swOk (n : Nat) (σ : Store) (ws : List Nat) (s1 s2 : St) : Bool :=
  decide (s1.store.take n = σ) && (decide (s2.store.take n = σ) && (swBoxes n (s1.store.drop n) (s2.store.drop n) && ws.all fun i => swPV n (rd s1.slots i) (rd s2.slots i)))

def listed (ops : Array Oper) (L : List Nat) : List Oper := L.filterMap fun i => ops[i]?

noncomputable def evAlt (E : Env) (F : FnEv) (ops : Array Oper) (st : St) (L : List Nat) (s1 : St) : Option (Ex × St) :=
  (evOps E F ops (listed ops L) st).bind fun s2 => if swOk st.store.length st.store (ops.toList.flatMap (writesOf (appendFirst ops.toList))) s1 s2 then some (.normal, s1) else none

noncomputable def evCode (E : Env) (F : FnEv) (k : Nat) : Code → St → Option (Ex × St)
  | .skip, st => some (.normal, st)
  | .region _ ops draw, st => if draw && !apartL (rd st.slots) (E.apart (posOf ops) ops.size) then none else
    match (if draw then E.alt (posOf ops) ops.size else none) with
    | none => (evOps E F ops ops.toList st).map fun st' => (.normal, st')
    | some x => (evOps E F ops ops.toList st).bind (evAlt E F ops st x.1)
  | .seq a b, st => (evCode E F k a st).bind fun r => match r.1 with
    | .normal => evCode E F k b r.2
    | _ => some r
  | .cond c x y, st => (use (rd st.slots) c).bind fun p => match p with
    | .d (.bool t) => if t then evCode E F k x st else evCode E F k y st
    | _ => none
  | .block id b, st => (evCode E F k b st).map fun r => if r.1 = .exit id then (.normal, r.2) else r
  | .loop b, st => loopN (evCode E F k b) k st
  | .exit id, st => some (.exit id, st)
  | .ret, st => some (.ret, st)
  | .scope b, st => evCode E F k b st
  | .label _, st => some (.normal, st)
  | _, _ => none

def resOne (P : Program) (st : St) : ResultVar → Option PV
  | .tmp t => some (rd st.slots t)
  | .cell a t => (loadAs P t st.store false (rd st.slots a)).map (·.1)

def resL (P : Program) (st : St) : List ResultVar → Option (List PV)
  | [] => some []
  | r :: rs => (resOne P st r).bind fun p => (resL P st rs).map (p.strip :: ·)

def retOf : PV → PV
  | .agg cs => .agg (cs.map PV.strip1)
  | p => p

def resVal (P : Program) (fn : Func) (st : St) : Option PV :=
  match fn.results.toList with
  | [r] => (resOne P st r).map retOf
  | rs => (resL P st rs).map .tup

open Classical in
noncomputable def evF (E : Env) : Nat → FnEv
  | 0, _, _, _ => none
  | k + 1, f, args, σ =>
    if E.good f then
      match E.P.funcs[f]? with
      | none => none
      | some fn =>
        match fn.body with
        | none => none
        | some c =>
          (evCode (E.at f) (evF E k) k c ⟨args ++ List.replicate (fn.ntmps - args.length) .undef, σ⟩).bind fun r =>
            if E.wild f = true ∧ r.2.store.take σ.length ≠ σ then none else
            if r.1 = .normal ∨ r.1 = .ret then (resVal E.P fn r.2).map fun v => (v, r.2.store) else none
    else none

end Go.Pv

set_option linter.unusedVariables false
set_option linter.unusedSimpArgs false
namespace Go.Pv
open Go

inductive Loc where
  | box (id : Nat) | cell (id j : Nat) | slot (i : Nat)
  deriving DecidableEq
abbrev OwT := Nat → Option Loc

/-- Whose a slice's spare room is. -/
def OwnP (w : World) (Im : ImT) (O : OwT) (loc : Loc) (p : PV) (v : Value) : Prop :=
  ∀ rows, p = .os rows → (∃ a n, v = .slice a n n) ∨
    ∃ (a : Addr) (n c sz : Nat) (cs : Array Value) (e : TypeId), v = .slice (some a) n c ∧ a.spot = none ∧ O a.block = some loc ∧
      w.heap[a.block]? = some (.cells cs e (0, 0)) ∧ rows ≠ [] ∧ (∀ r ∈ rows, r.length = sz) ∧ a.off + c * sz ≤ cs.size ∧
      ∀ o, Im a.block o → o < a.off + n * sz

theorem OwnP.of_not {w : World} {Im : ImT} {O : OwT} {loc : Loc} {p : PV} {v : Value} (h : ∀ rows, p ≠ .os rows) : OwnP w Im O loc p v :=
  fun rows hp => absurd hp (h rows)

/-- What is outside the memory has stayed. -/
def SameEnv (w w' : World) : Prop := w'.os = w.os ∧ w'.tape = w.tape ∧ w'.output = w.output
theorem SameEnv.refl (w : World) : SameEnv w w := ⟨rfl, rfl, rfl⟩
theorem SameEnv.trans {w w' w'' : World} (h : SameEnv w w') (h' : SameEnv w' w'') : SameEnv w w'' := ⟨h'.1.trans h.1, h'.2.1.trans h.2.1, h'.2.2.trans h.2.2⟩

structure NewW (w w' : World) : Prop where
  env : SameEnv w w'
  size : w.heap.size ≤ w'.heap.size
  same : ∀ b, b < w.heap.size → w'.heap[b]? = w.heap[b]?

theorem NewW.refl (w : World) : NewW w w := ⟨.refl w, Nat.le_refl _, fun _ _ => rfl⟩
theorem NewW.alloc (w : World) (o : Obj) : NewW w (w.alloc o) :=
  ⟨⟨rfl, rfl, rfl⟩, by simp, fun b hb => by show (w.heap.push o)[b]? = _; rw [Array.getElem?_push, if_neg (Nat.ne_of_lt hb)]⟩
theorem NewW.drew {w w' : World} (h : NewW w.drew w') : NewW w w' := ⟨h.env, h.size, h.same⟩

theorem cell_congr {w w' : World} {a : Addr} (h : w'.heap[a.block]? = w.heap[a.block]?) : w'.cell? a = w.cell? a := by
  unfold World.cell?
  rw [h]

/-- The cells that are held lie in the world. -/
def ImIn (w : World) (Im : ImT) : Prop := ∀ b o, Im b o → ∃ v, w.cell? ⟨b, o, none⟩ = some v

theorem ImIn.lt {w : World} {Im : ImT} (h : ImIn w Im) {b o : Nat} (hb : Im b o) : b < w.heap.size := by
  obtain ⟨v, hv⟩ := h b o hb
  unfold World.cell? at hv
  split at hv
  · rename_i hg
    exact (Array.getElem?_eq_some_iff.1 hg).1
  · simp at hv

theorem NewW.keep {w w' : World} {Im : ImT} (h : NewW w w') (hi : ImIn w Im) : Keep w Im w' Im :=
  fun b o hb => ⟨hb, cell_congr (h.same b (hi.lt hb))⟩

/-- The computation gives a value that is 'r', in a world with new blocks alone. -/
def PureOk (P : Program) (w : World) (Im : ImT) (β : List Nat) (s : Sem Next) (r : PV) : Prop :=
  ∃ v w' Im', s.run P w = .ok (.value v) w' ∧ NewW w w' ∧ (∀ b o, Im b o → Im' b o) ∧
    (∀ b o, Im' b o → Im b o ∨ (w.heap.size ≤ b ∧ ∃ u, w'.cell? ⟨b, o, none⟩ = some u)) ∧
    RepP w' Im' β r v ∧ ∀ O loc, OwnP w' Im' O loc r v

theorem PureOk.same {P : Program} {w : World} {Im : ImT} {β : List Nat} {s : Sem Next} {r : PV} (v : Value) (h : s.run P w = .ok (.value v) w)
    (hr : RepP w Im β r v) (ho : ∀ O loc, OwnP w Im O loc r v) : PureOk P w Im β s r :=
  ⟨v, w, Im, h, .refl w, fun _ _ h => h, fun _ _ h => .inl h, hr, ho⟩

theorem pureRun_run {P : Program} {α : Type} (s : Sem α) (a : α) (h : pureRun P s = some a) (w : World) : s.run P w = .ok a w := by
  induction s with
  | pure x => simp [pureRun] at h; subst h; rfl
  | program k ih => exact ih P h
  | mark m k ih => exact ih h
  | _ => simp [pureRun] at h

theorem toV_rep {w : World} {Im : ImT} {β : List Nat} {p : PV} {v u : Value} (h : RepP w Im β p v) (ht : toV p = some u) : v = u := by
  cases p with
  | d x =>
    cases h with
    | d h => cases x <;> simp [toV] at ht <;> subst ht <;> cases h <;> rfl
  | _ => simp [toV] at ht

theorem ofScalar_rep {w : World} {Im : ImT} {β : List Nat} {p : PV} {v : Value} (h : ofScalar v = some p) : RepP w Im β p v ∧ ∀ rows, p ≠ .os rows := by
  cases v <;> simp [ofScalar] at h <;> subst h
  · exact ⟨.d (.bool _), by simp⟩
  · exact ⟨.d (.int _ _), by simp⟩
  · exact ⟨.d (.str _), by simp⟩

theorem ofCell_rep {w : World} {Im : ImT} {β : List Nat} {p : PV} {v : Value} (h : ofCell v = some p) : RepP w Im β p v ∧ ∀ rows, p ≠ .os rows := by
  unfold ofCell at h
  split at h <;> simp at h <;> subst h
  · exact ⟨.d (.bool _), by simp⟩
  · exact ⟨.d (.int _ _), by simp⟩
  · exact ⟨.d (.str _), by simp⟩
  · exact ⟨.e0 none, by simp⟩
  · exact ⟨.nilptr, by simp⟩
  · exact ⟨.nilFunc, by simp⟩
  · exact ⟨.nilIface, by simp⟩

theorem mapM_get {α β : Type} {f : α → Option β} : ∀ {l : List α} {l' : List β}, l.mapM f = some l' → l.length = l'.length ∧ ∀ (i : Nat) (x : α), l[i]? = some x → ∃ y, l'[i]? = some y ∧ f x = some y
  | [], l', h => by simp at h; subst h; simp
  | a :: l, l', h => by
    rw [List.mapM_cons] at h
    cases ha : f a with
    | none => simp [ha] at h
    | some y =>
      cases hl : l.mapM f with
      | none => simp [ha, hl] at h
      | some ys =>
        simp [ha, hl] at h
        subst h
        obtain ⟨h1, h2⟩ := mapM_get hl
        refine ⟨by simp [h1], fun i x hx => ?_⟩
        cases i with
        | zero => simp at hx; subst hx; exact ⟨y, by simp, ha⟩
        | succ i => simp at hx; simpa using h2 i x hx

theorem ofValue_rep {w : World} {Im : ImT} {β : List Nat} {p : PV} {v : Value} (h : ofValue v = some p) : RepP w Im β p v ∧ ∀ rows, p ≠ .os rows := by
  unfold ofValue at h
  split at h
  · rename_i cs
    cases hm : cs.toList.mapM ofCell with
    | none => simp [hm] at h
    | some ps =>
      simp [hm] at h
      subst h
      obtain ⟨h1, h2⟩ := mapM_get hm
      refine ⟨.agg ps cs (by simpa using h1.symm) (fun i p v hp hv => ?_), by simp⟩
      obtain ⟨y, hy, hf⟩ := h2 i v (by simpa using hv)
      rw [hy] at hp
      simp at hp
      subst hp
      exact (ofCell_rep hf).1
  · exact ofCell_rep h

/-- What the slots are. -/
def Reps (w : World) (Im : ImT) (β : List Nat) (ρ : Nat → PV) (a : Act) : Prop := ∀ t, RepP w Im β (ρ t) (a.eval (.tmp t))

theorem opv_rep {w : World} {Im : ImT} {β : List Nat} {ρ : Nat → PV} {a : Act} (h : Reps w Im β ρ a) {x : Operand} {p : PV} (hx : opv ρ x = some p) :
    RepP w Im β p (a.eval x) := by
  cases x with
  | tmp t => simp [opv] at hx; subst hx; exact h t
  | const v => exact (ofValue_rep (v := v) (by simpa [opv] using hx)).1
  | func f => simp [opv] at hx; subst hx; exact .func _ _ _ _ _ (by simp) (by simp) (by simp) (by simp)
  | global g => simp [opv] at hx

theorem use_rep {w : World} {Im : ImT} {β : List Nat} {ρ : Nat → PV} {a : Act} (h : Reps w Im β ρ a) {x : Operand} {p : PV} (hx : use ρ x = some p) :
    RepP w Im β p (a.eval x) := by
  unfold use at hx
  cases ho : opv ρ x with
  | none => simp [ho] at hx
  | some q => simp [ho] at hx; subst hx; exact (opv_rep h ho).strip

theorem strip1_not_os (p : PV) : ∀ rows, p.strip1 ≠ .os rows := by intro rows; cases p <;> simp [PV.strip1]
theorem strip_not_os (p : PV) : ∀ rows, p.strip ≠ .os rows := by intro rows; cases p <;> simp [PV.strip, PV.strip1]
theorem strip_not_e0 (p : PV) : p.strip ≠ .e0 := by cases p <;> simp [PV.strip, PV.strip1]
theorem use_not_os {ρ : Nat → PV} {x : Operand} {p : PV} (hx : use ρ x = some p) : ∀ rows, p ≠ .os rows := by
  unfold use at hx
  cases ho : opv ρ x with
  | none => simp [ho] at hx
  | some q => simp [ho] at hx; subst hx; exact strip_not_os q

theorem useL_rep {w : World} {Im : ImT} {β : List Nat} {ρ : Nat → PV} {a : Act} (h : Reps w Im β ρ a) : ∀ {xs : List Operand} {ps : List PV}, useL ρ xs = some ps →
    ps.length = xs.length ∧ ∀ (i : Nat) (p : PV) (v : Value), ps[i]? = some p → (xs.map a.eval)[i]? = some v → RepP w Im β p v ∧ ∀ rows, p ≠ .os rows
  | [], ps, hx => by simp [useL] at hx; subst hx; simp
  | x :: xs, ps, hx => by
    cases hu : use ρ x with
    | none => simp [useL, hu] at hx
    | some p =>
      cases hl : useL ρ xs with
      | none => simp [useL, hu, hl] at hx
      | some qs =>
        simp [useL, hu, hl] at hx
        subst hx
        obtain ⟨h1, h2⟩ := useL_rep h hl
        refine ⟨by simp [h1], fun i q v hq hv => ?_⟩
        cases i with
        | zero => simp at hq hv; subst hq; subst hv; exact ⟨use_rep h hu, use_not_os hu⟩
        | succ i => exact h2 i q v (by simpa using hq) (by simpa using hv)

section types
variable {P : Program} {w : World}

theorem aggT_run {t : TypeId} {b : Bool} (h : aggT P t = some b) (w : World) : (isAgg t).run P w = .ok b w := by
  unfold aggT at h
  cases hu : P.underlying t with
  | none => simp [hu] at h
  | some d => cases d <;> simp [hu] at h <;> subst h <;> simp [isAgg, run_underlying hu]

theorem szT_run {t : TypeId} {n : Nat} (h : szT P t = some n) (w : World) : (sizeOf t).run P w = .ok n w := by
  unfold szT at h
  cases hi : P.info? t with
  | none => simp [hi] at h
  | some i => simp [hi] at h; subst h; simp [sizeOf, typeInfo, hi]

theorem zeroT_run {t : TypeId} {p : PV} (h : zeroT P t = some p) (w : World) : ∃ v, (zeroValue t).run P w = .ok v w ∧ ofValue v = some p := by
  unfold zeroT at h
  cases hi : P.info? t with
  | none => simp [hi] at h
  | some i =>
    cases hz : i.zero with
    | none => simp [hi, hz] at h
    | some z => simp [hi, hz] at h; exact ⟨z, by simp [zeroValue, typeInfo, hi, hz], h⟩
end types

theorem RepP.agg_inv {w : World} {Im : ImT} {β : List Nat} {cells : List PV} {v : Value} (h : RepP w Im β (.agg cells) v) :
    ∃ vs : Array Value, v = .agg vs ∧ cells.length = vs.size ∧ ∀ (i : Nat) (p : PV) (v : Value), cells[i]? = some p → vs[i]? = some v → RepP w Im β p v := by
  cases h with | agg _ vs hl h => exact ⟨vs, rfl, hl, h⟩
theorem RepP.tup_inv {w : World} {Im : ImT} {β : List Nat} {cells : List PV} {v : Value} (h : RepP w Im β (.tup cells) v) :
    ∃ vs : Array Value, v = .tuple vs ∧ cells.length = vs.size ∧ ∀ (i : Nat) (p : PV) (v : Value), cells[i]? = some p → vs[i]? = some v → RepP w Im β p v := by
  cases h with | tup _ vs hl h => exact ⟨vs, rfl, hl, h⟩
theorem RepP.bool_inv {w : World} {Im : ImT} {β : List Nat} {b : Bool} {v : Value} (h : RepP w Im β (.d (.bool b)) v) : v = .bool b := by
  cases h with | d h => cases h; rfl
theorem RepP.int_inv {w : World} {Im : ImT} {β : List Nat} {k : IntKind} {n : Int} {v : Value} (h : RepP w Im β (.d (.int k n)) v) : v = .int k n := by
  cases h with | d h => cases h; rfl
theorem RepP.str_inv {w : World} {Im : ImT} {β : List Nat} {s : ByteArray} {v : Value} (h : RepP w Im β (.d (.str s)) v) : v = .string s := by
  cases h with | d h => cases h; rfl
theorem RepP.slice_inv {w : World} {Im : ImT} {β : List Nat} {rows : List (List DV)} {v : Value} (h : RepP w Im β (.d (.slice rows)) v) : RepD w Im (.slice rows) v := by
  cases h with | d h => exact h

/-- The cells of a value that is a row of cells. -/
theorem cellsOf_rep {w : World} {Im : ImT} {β : List Nat} {p : PV} {v : Value} (h : RepP w Im β p v) :
    (cellsOf p).length = v.cells.size ∧ ∀ (i : Nat) (q : PV) (u : Value), (cellsOf p)[i]? = some q → v.cells[i]? = some u → RepP w Im β q u := by
  cases p with
  | agg cs =>
    obtain ⟨vs, rfl, hl, hr⟩ := h.agg_inv
    exact ⟨hl, hr⟩
  | _ =>
    have hc : v.cells = #[v] := by cases h <;> first | rfl | (rename_i h; first | exact h | (cases h <;> rfl))
    rw [hc]
    refine ⟨rfl, fun i q u hq hu => ?_⟩
    cases i with
    | zero => simp [cellsOf] at hq hu; subst hq; subst hu; exact h
    | succ i => simp [cellsOf] at hq

theorem natOf_rep {w : World} {Im : ImT} {β : List Nat} {p : PV} {v : Value} {n : Nat} (h : RepP w Im β p v) (hn : natOf p = some n) :
    ∃ k, v = .int k (n : Int) := by
  unfold natOf at hn
  split at hn
  · rename_i k m
    split at hn
    · simp at hn
      subst hn
      exact ⟨k, by rw [h.int_inv]; congr 1; omega⟩
    · simp at hn
  · simp at hn

end Go.Pv

set_option linter.unusedVariables false
set_option linter.unusedSimpArgs false
namespace Go.Pv
open Go

theorem foldl_set_get (off : Nat) : ∀ (vs : List Value) (k : Nat) (cells : Array Value) (i : Nat), off + k + vs.length ≤ cells.size →
    ((vs.zipIdx k).foldl (fun cs x => cs.setIfInBounds (off + x.2) x.1) cells).size = cells.size ∧
    ((vs.zipIdx k).foldl (fun cs x => cs.setIfInBounds (off + x.2) x.1) cells)[i]? = if off + k ≤ i ∧ i < off + k + vs.length then vs[i - (off + k)]? else cells[i]?
  | [], k, cells, i, _ => by simp; intro h1 h2; omega
  | v :: vs, k, cells, i, hl => by
    simp only [List.length_cons] at hl
    obtain ⟨h1, h2⟩ := foldl_set_get off vs (k + 1) (cells.setIfInBounds (off + k) v) i (by simp; omega)
    simp only [List.zipIdx_cons, List.foldl_cons]
    refine ⟨by rw [h1]; simp, ?_⟩
    rw [h2, Array.getElem?_setIfInBounds]
    simp only [List.length_cons]
    by_cases hi : i = off + k
    · subst hi
      rw [if_neg (by omega), if_pos rfl, if_pos (by omega), if_pos (by omega)]
      simp
    · by_cases hin : off + (k + 1) ≤ i ∧ i < off + (k + 1) + vs.length
      · rw [if_pos hin, if_pos (by omega)]
        have : i - (off + k) = (i - (off + (k + 1))) + 1 := by omega
        rw [this]
        simp
      · rw [if_neg hin, if_neg (fun h => hi h.symm), if_neg (by omega)]

def RepCells (w : World) (Im : ImT) (β : List Nat) (ps : List PV) (vs : Array Value) : Prop :=
  ps.length = vs.size ∧ ∀ (i : Nat) (p : PV) (v : Value), ps[i]? = some p → vs[i]? = some v → RepP w Im β p v

theorem fill_rep {w : World} {Im : ImT} {β : List Nat} (pl : Nat → Option (Nat × Nat)) : ∀ (parts : List (Nat × PV)) (vparts : List (Nat × Value)) (cells : List PV) (vcells : Array Value) (out : List PV),
    parts.length = vparts.length → (∀ (i : Nat) (x : Nat × PV) (y : Nat × Value), parts[i]? = some x → vparts[i]? = some y → x.1 = y.1 ∧ (cellsOf x.2).length = y.2.cells.size ∧ RepCells w Im β (cellsOf x.2) y.2.cells) →
    RepCells w Im β cells vcells → fillP pl cells parts = some out → ∃ vout, Instr.fill pl vcells vparts = some vout ∧ RepCells w Im β out vout
  | [], [], cells, vcells, out, _, _, hc, h => by simp [fillP] at h; subst h; exact ⟨vcells, by simp [Instr.fill], hc⟩
  | (i, p) :: parts, (j, v) :: vparts, cells, vcells, out, hl, hp, hc, h => by
    obtain ⟨h1, h2, h3⟩ := hp 0 (i, p) (j, v) (by simp) (by simp)
    simp only at h1 h2 h3
    subst h1
    simp only [fillP] at h
    cases hpl : pl i with
    | none => simp [hpl] at h
    | some os =>
      obtain ⟨off, size⟩ := os
      simp only [hpl] at h
      split at h
      · rename_i hcond
        obtain ⟨hs, hfit⟩ := hcond
        have hsz : v.cells.size = size := by omega
        have hvl : cells.length = vcells.size := hc.1
        have key := fun k => foldl_set_get off v.cells.toList 0 vcells k (by simp; omega)
        have hfold : v.cells.zipIdx.foldl (fun (cs : Array Value) (x : Value × Nat) => cs.setIfInBounds (off + x.2) x.1) vcells =
            (v.cells.toList.zipIdx 0).foldl (fun cs x => cs.setIfInBounds (off + x.2) x.1) vcells := by
          rw [← Array.foldl_toList]; simp
        have hrep : RepCells w Im β (cells.take off ++ cellsOf p ++ cells.drop (off + size))
            ((v.cells.toList.zipIdx 0).foldl (fun cs x => cs.setIfInBounds (off + x.2) x.1) vcells) := by
          refine ⟨?_, fun k q u hq hu => ?_⟩
          · rw [(key 0).1]; simp; omega
          · rw [(key k).2] at hu
            simp only [Nat.add_zero, Array.length_toList, hsz] at hu
            by_cases hk : k < off
            · rw [if_neg (by omega)] at hu
              rw [List.append_assoc, List.getElem?_append_left (by simp; omega), List.getElem?_take, if_pos hk] at hq
              exact hc.2 k q u hq hu
            · by_cases hk2 : k < off + size
              · rw [if_pos (by omega)] at hu
                rw [List.append_assoc, List.getElem?_append_right (by simp; omega), List.getElem?_append_left (by simp; omega)] at hq
                simp only [List.length_take] at hq
                rw [show min off cells.length = off by omega] at hq
                exact h3.2 (k - off) q u hq (by simpa using hu)
              · rw [if_neg (by omega)] at hu
                rw [List.getElem?_append_right (by simp; omega)] at hq
                simp only [List.length_append, List.length_take, List.getElem?_drop] at hq
                rw [show off + size + (k - (min off cells.length + (cellsOf p).length)) = k by omega] at hq
                exact hc.2 k q u hq hu
        obtain ⟨vout, hv, hr⟩ := fill_rep pl parts vparts _ _ out (by simpa using hl) (fun k x y hx hy => hp (k + 1) x y (by simpa using hx) (by simpa using hy)) hrep h
        refine ⟨vout, ?_, hr⟩
        simp only [Instr.fill, hpl]
        rw [if_neg (by simp; omega)]
        rw [hfold]
        exact hv
      · simp at h
  | [], _ :: _, _, _, _, hl, _, _, _ => by simp at hl
  | _ :: _, [], _, _, _, hl, _, _, _ => by simp at hl

theorem useParts_rep {w : World} {Im : ImT} {β : List Nat} {ρ : Nat → PV} {a : Act} (h : Reps w Im β ρ a) : ∀ {xs : List (Nat × Operand)} {ps : List (Nat × PV)}, useParts ρ xs = some ps →
    ps.length = xs.length ∧ ∀ (i : Nat) (x : Nat × PV) (y : Nat × Value), ps[i]? = some x → (xs.map fun x => (x.1, a.eval x.2))[i]? = some y → x.1 = y.1 ∧ RepP w Im β x.2 y.2 ∧ ∀ rows, x.2 ≠ .os rows
  | [], ps, hx => by simp [useParts] at hx; subst hx; simp
  | (n, x) :: xs, ps, hx => by
    cases hu : use ρ x with
    | none => simp [useParts, hu] at hx
    | some p =>
      cases hl : useParts ρ xs with
      | none => simp [useParts, hu, hl] at hx
      | some qs =>
        simp [useParts, hu, hl] at hx
        subst hx
        obtain ⟨h1, h2⟩ := useParts_rep h hl
        refine ⟨by simp [h1], fun i q v hq hv => ?_⟩
        cases i with
        | zero => simp at hq hv; subst hq; subst hv; exact ⟨rfl, use_rep h hu, use_not_os hu⟩
        | succ i => exact h2 i q v (by simpa using hq) (by simpa using hv)

end Go.Pv

set_option linter.unusedVariables false
set_option linter.unusedSimpArgs false
namespace Go.Pv
open Go

theorem toD_rep {w : World} {Im : ImT} {β : List Nat} {p : PV} {v : Value} {x : DV} (h : RepP w Im β p v) (ht : toD p = some x) : RepD w Im x v := by
  cases h with
  | d h => simp [toD] at ht; subst ht; exact h
  | e0 a =>
    simp [toD] at ht
    subst ht
    cases a with
    | none => exact .nil
    | some a => exact .slice [] a 0 0 (fun _ => default) (by simp) (by simp) (by simp) (by simp) (by simp) (by simp)
  | os h => simp [toD] at ht; subst ht; exact h
  | _ => simp [toD] at ht

theorem toDL_get : ∀ {ps : List PV} {xs : List DV}, toDL ps = some xs → ps.length = xs.length ∧ ∀ (i : Nat) (x : DV), xs[i]? = some x → ∃ p, ps[i]? = some p ∧ toD p = some x
  | [], xs, h => by simp [toDL] at h; subst h; simp
  | p :: ps, xs, h => by
    cases hp : toD p with
    | none => simp [toDL, hp] at h
    | some x =>
      cases hl : toDL ps with
      | none => simp [toDL, hp, hl] at h
      | some ys =>
        simp [toDL, hp, hl] at h
        subst h
        obtain ⟨h1, h2⟩ := toDL_get hl
        refine ⟨by simp [h1], fun i y hy => ?_⟩
        cases i with
        | zero => simp at hy; subst hy; exact ⟨p, by simp, hp⟩
        | succ i => simp at hy; simpa using h2 i y hy

theorem fill_full (sz : Nat) : ∀ (parts : List (Nat × Value)) (k : Nat) (base : Array Value), (∀ (i : Nat) (x : Nat × Value), parts[i]? = some x → x.1 = k + i ∧ x.2.cells.size = sz) →
    (k + parts.length) * sz ≤ base.size → ∃ out, Instr.fill (fun i => some (i * sz, sz)) base parts = some out ∧ out.size = base.size ∧
      (∀ i, i < k * sz → out[i]? = base[i]?) ∧ ∀ (i : Nat) (x : Nat × Value), parts[i]? = some x → ∀ j, j < sz → out[(k + i) * sz + j]? = x.2.cells[j]?
  | [], k, base, _, _ => ⟨base, by simp [Instr.fill], rfl, fun _ _ => rfl, by simp⟩
  | (n, v) :: parts, k, base, hp, hl => by
    obtain ⟨h1, h2⟩ := hp 0 (n, v) (by simp)
    simp only [Nat.add_zero] at h1 h2
    subst h1
    simp only [List.length_cons] at hl
    have hl' : n * sz + sz + parts.length * sz ≤ base.size := by
      have : (n + (parts.length + 1)) * sz = n * sz + sz + parts.length * sz := by rw [Nat.add_mul, Nat.add_mul]; omega
      omega
    have key := fun i => foldl_set_get (n * sz) v.cells.toList 0 base i (by simp; omega)
    have hfold : v.cells.zipIdx.foldl (fun (cs : Array Value) (x : Value × Nat) => cs.setIfInBounds (n * sz + x.2) x.1) base =
        (v.cells.toList.zipIdx 0).foldl (fun cs x => cs.setIfInBounds (n * sz + x.2) x.1) base := by
      rw [← Array.foldl_toList]; simp
    obtain ⟨out, ho, hs, hlow, hin⟩ := fill_full sz parts (n + 1) ((v.cells.toList.zipIdx 0).foldl (fun cs x => cs.setIfInBounds (n * sz + x.2) x.1) base)
      (fun i x hx => by have := hp (i + 1) x (by simpa using hx); exact ⟨by omega, this.2⟩) (by rw [(key 0).1, Nat.add_right_comm, Nat.add_mul, Nat.one_mul, Nat.add_mul]; omega)
    refine ⟨out, ?_, by rw [hs, (key 0).1], fun i hi => ?_, fun i x hx j hj => ?_⟩
    · simp only [Instr.fill]
      rw [if_neg (by simp; omega), hfold]
      exact ho
    · rw [hlow i (by rw [Nat.add_mul]; omega), (key i).2, if_neg (by omega)]
    · cases i with
      | zero =>
        simp at hx
        subst hx
        rw [Nat.add_zero, hlow _ (by rw [Nat.add_mul]; omega), (key _).2, if_pos (by simp; omega)]
        simp
      | succ i =>
        have := hin i x (by simpa using hx) j hj
        rwa [show n + 1 + i = n + (i + 1) by omega] at this

theorem rowsFrom_get (sz : Nat) : ∀ {ps : List (Nat × PV)} {k : Nat} {rows : List (List DV)}, rowsFrom sz k ps = some rows →
    ps.length = rows.length ∧ (∀ r ∈ rows, r.length = sz) ∧ ∀ (i : Nat) (x : Nat × PV), ps[i]? = some x → x.1 = k + i ∧ ∃ r, rows[i]? = some r ∧ toDL (cellsOf x.2) = some r
  | [], k, rows, h => by simp [rowsFrom] at h; subst h; simp
  | (j, p) :: ps, k, rows, h => by
    simp only [rowsFrom] at h
    split at h
    · rename_i hkj
      subst hkj
      cases hd : toDL (cellsOf p) with
      | none => simp [hd] at h
      | some r =>
        simp only [hd, Option.bind_some] at h
        split at h
        · rename_i hr
          cases hrest : rowsFrom sz (k + 1) ps with
          | none => simp [hrest] at h
          | some rs =>
            simp [hrest] at h
            subst h
            obtain ⟨h1, h2, h3⟩ := rowsFrom_get sz hrest
            refine ⟨by simp [h1], ?_, fun i x hx => ?_⟩
            · intro q hq
              rcases List.mem_cons.1 hq with rfl | hq
              · exact hr
              · exact h2 q hq
            · cases i with
              | zero => simp at hx; subst hx; exact ⟨by simp, r, by simp, hd⟩
              | succ i => have := h3 i x (by simpa using hx); simpa [Nat.add_assoc, Nat.add_comm 1 i] using this
        · simp at h
    · simp at h

/-- A new block of cells. -/
theorem new_row {w : World} {Im : ImT} (cs : Array Value) (e : TypeId) (hin : ImIn w Im) :
    let Im' : ImT := fun b o => Im b o ∨ (b = w.heap.size ∧ o < cs.size)
    Keep w Im (w.alloc (.cells cs e)) Im' ∧ (∀ b o, Im' b o → Im b o ∨ (w.heap.size ≤ b ∧ ∃ u, (w.alloc (.cells cs e)).cell? ⟨b, o, none⟩ = some u)) := by
  refine ⟨fun b o h => ⟨.inl h, ((NewW.alloc w _).keep hin b o h).2⟩, fun b o h => ?_⟩
  rcases h with h | ⟨rfl, h⟩
  · exact .inl h
  · exact .inr ⟨Nat.le_refl _, cs[o], by simp [h]⟩

theorem acc_rep {w : World} {Im : ImT} {β : List Nat} {rows : List (List DV)} {a : Addr} (h : RepD w Im (.slice rows) (.slice (some a) rows.length rows.length)) :
    RepP w Im β (acc rows) (.slice (some a) rows.length rows.length) := by
  cases rows with
  | nil => exact .e0 _
  | cons r rs => exact .os h

theorem acc_own {w : World} {Im : ImT} {O : OwT} {loc : Loc} {rows : List (List DV)} {a : Option Addr} {n : Nat} : OwnP w Im O loc (acc rows) (.slice a n n) :=
  fun _ _ => .inl ⟨a, n, rfl⟩

section ops
variable {P : Program} {w : World} {Im : ImT} {β : List Nat} {ρ : Nat → PV} {a : Act}

theorem buildSlice_ok (hρ : Reps w Im β ρ a) (hin : ImIn w Im) {t : TypeId} {len : Nat} {parts : Array (Nat × Operand)} {r : PV}
    (h : evPure P ρ (.buildSlice t len parts) = some r) :
    PureOk P w Im β (do pure (Next.value (← Instr.buildSlice t len (parts.map fun (i, x) => (i, a.eval x))))) r := by
  simp only [evPure] at h
  split at h
  · rename_i e hu
    cases hsz : szT P e with
    | none => simp [hsz] at h
    | some sz =>
      simp only [hsz, Option.bind_some] at h
      cases hps : useParts ρ parts.toList with
      | none => simp [hps] at h
      | some ps =>
        simp only [hps, Option.bind_some] at h
        split at h
        · rename_i hc
          obtain ⟨hlen, hbig, hpos, hzero⟩ := hc
          cases hr : rowsFrom sz 0 ps with
          | none => simp [hr] at h
          | some rows =>
            simp [hr] at h
            subst h
            obtain ⟨g1, g2, g3⟩ := rowsFrom_get sz hr
            obtain ⟨u1', u2⟩ := useParts_rep hρ hps
            have u1 : ps.length = parts.size := by simpa using u1'
            clear u1'
            obtain ⟨z, hz⟩ := Option.isSome_iff_exists.1 hzero
            have hsz' := hsz
            unfold szT at hsz'
            cases hie : P.info? e with
            | none => simp [hie] at hsz'
            | some ie =>
              simp [hie] at hsz'
              simp [hie] at hz
              have hvp : (parts.map fun (i, x) => (i, a.eval x)).toList = parts.toList.map fun x => (x.1, a.eval x.2) := by simp
              have hrl : rows.length = len := by omega
              -- each part's cells
              have hpart : ∀ (i : Nat) (y : Nat × Value), (parts.toList.map fun x => (x.1, a.eval x.2))[i]? = some y → y.1 = 0 + i ∧ y.2.cells.size = sz ∧
                  ∃ r, rows[i]? = some r ∧ ∀ (j : Nat) (x : DV) (v : Value), r[j]? = some x → y.2.cells[j]? = some v → RepD w Im x v := by
                intro i y hy
                have hi : i < ps.length := by
                  have := (List.getElem?_eq_some_iff.1 hy).1
                  simp at this
                  omega
                obtain ⟨q1, r, q2, q3⟩ := g3 i ps[i] (List.getElem?_eq_getElem hi)
                obtain ⟨p1, p2, _⟩ := u2 i ps[i] y (List.getElem?_eq_getElem hi) hy
                obtain ⟨c1, c2⟩ := cellsOf_rep p2
                obtain ⟨d1, d2⟩ := toDL_get q3
                have hrs : r.length = sz := g2 r (List.mem_of_getElem? q2)
                refine ⟨by omega, by omega, r, q2, fun j x v hx hv => ?_⟩
                obtain ⟨p, hp, hpd⟩ := d2 j x hx
                exact toD_rep (c2 j p v hp hv) hpd
              obtain ⟨out, ho, hos, _, hget⟩ := fill_full sz (parts.toList.map fun x => (x.1, a.eval x.2)) 0
                ((Array.range (len * sz)).map (z.cells[· % z.cells.size]!)) (fun i x hx => ⟨(hpart i x hx).1, (hpart i x hx).2.1⟩) (by simp; rw [← u1, hlen]; exact Nat.le_refl _)
              have hout : out.size = len * sz := by rw [hos]; simp
              have hfill0 : Instr.fill (fun i => some (i * sz, sz)) ((Array.range (len * sz)).map ((if len * sz = 0 then #[] else z.cells)[· % (if len * sz = 0 then #[] else z.cells).size]!)) (parts.toList.map fun x => (x.1, a.eval x.2)) = some out := by
                by_cases h0 : len * sz = 0
                · have : (Array.range (len * sz)) = #[] := by rw [h0]; rfl
                  rw [this] at ho ⊢
                  simpa using ho
                · simpa [h0] using ho
              have hrun : (do pure (Next.value (← Instr.buildSlice t len (parts.map fun (i, x) => (i, a.eval x)))) : Sem Next).run P w =
                  .ok (.value (.slice (some ⟨w.heap.size, 0, none⟩) len len)) (w.alloc (.cells out e)) := by
                by_cases h0 : len * sz = 0
                · simp only [h0, if_true] at hfill0
                  simp [Instr.buildSlice, run_underlying hu, szT_run hsz, show ¬ (16777216 < len * sz) by omega, h0, newRow]
                  simp at hfill0
                  simp [hfill0]
                · simp only [h0, if_false] at hfill0
                  simp [Instr.buildSlice, run_underlying hu, szT_run hsz, show ¬ (16777216 < len * sz) by omega, h0, newRow, zeroValue, typeInfo, hie, hz, hfill0]
              obtain ⟨k1, k2⟩ := new_row (w := w) (Im := Im) out e hin
              have hD : RepD (w.alloc (.cells out e)) (fun b o => Im b o ∨ (b = w.heap.size ∧ o < out.size)) (.slice rows) (.slice (some ⟨w.heap.size, 0, none⟩) rows.length rows.length) := by
                refine .slice rows ⟨w.heap.size, 0, none⟩ rows.length sz (fun j => out.getD j default) g2 (Nat.le_refl _) (fun _ => rfl) ?_ ?_ ?_
                · intro j hj
                  have hj' : j < out.size := by rw [hout, ← hrl]; exact hj
                  simp [hj']
                · intro j hj
                  exact .inr ⟨rfl, by rw [hout, ← hrl]; simpa using hj⟩
                · intro i j r x hi hj
                  have hil : i < len := by have := (List.getElem?_eq_some_iff.1 hi).1; omega
                  have hil2 : i < (parts.toList.map fun x => (x.1, a.eval x.2)).length := by simp; omega
                  obtain ⟨_, s2, r', s3, s4⟩ := hpart i _ (List.getElem?_eq_getElem hil2)
                  rw [hi] at s3
                  simp at s3
                  subst s3
                  have hjs : j < sz := by rw [← g2 r (List.mem_of_getElem? hi)]; exact (List.getElem?_eq_some_iff.1 hj).1
                  have hg := hget i _ (List.getElem?_eq_getElem hil2) j hjs
                  rw [Nat.zero_add] at hg
                  have hcj : j < ((parts.toList.map fun x => (x.1, a.eval x.2))[i]).2.cells.size := by omega
                  have := s4 j x _ hj (Array.getElem?_eq_getElem hcj)
                  rw [Array.getElem?_eq_getElem hcj] at hg
                  rw [Array.getD_eq_getD_getElem?, hg]
                  exact this.keep k1
              refine ⟨_, _, _, hrun, NewW.alloc w _, fun b o h => .inl h, k2, ?_, fun O loc => acc_own⟩
              rw [← hrl]
              exact acc_rep hD
        · simp at h
  · simp at h

theorem build_ok (hρ : Reps w Im β ρ a) {t : TypeId} {parts : Array (Nat × Operand)} {r : PV}
    (h : evPure P ρ (.build t parts) = some r) :
    PureOk P w Im β (do pure (Next.value (← Instr.build t (parts.map fun (i, x) => (i, a.eval x))))) r := by
  simp only [evPure] at h
  cases hz : zeroT P t with
  | none => simp [hz] at h
  | some z =>
    cases hpl : placesOf P t with
    | none => simp [hz, hpl] at h
    | some pl =>
      cases hps : useParts ρ parts.toList with
      | none => simp [hz, hpl, hps] at h
      | some ps =>
        simp only [hz, hpl, hps, Option.bind_some] at h
        cases hf : fillP pl (cellsOf z) ps with
        | none => simp [hf] at h
        | some out =>
          simp [hf] at h
          subst h
          obtain ⟨u1, u2⟩ := useParts_rep hρ hps
          unfold zeroT at hz
          cases hit : P.info? t with
          | none => simp [hit] at hz
          | some it =>
            cases hzv : it.zero with
            | none => simp [hit, hzv] at hz
            | some zv =>
              simp [hit, hzv] at hz
              have hzr := (ofValue_rep (w := w) (Im := Im) (β := β) hz).1
              obtain ⟨vout, hv, hvr⟩ := fill_rep (w := w) (Im := Im) (β := β) pl ps (parts.toList.map fun x => (x.1, a.eval x.2)) (cellsOf z) zv.cells out (by simp [u1])
                (fun i x y hx hy => ⟨(u2 i x y hx hy).1, (cellsOf_rep (u2 i x y hx hy).2.1).1, cellsOf_rep (u2 i x y hx hy).2.1⟩) (cellsOf_rep hzr) hf
              have hb : P.built t (parts.map fun (i, x) => (i, a.eval x)).toList = some vout := by
                have hvp : (parts.map fun (i, x) => (i, a.eval x)).toList = parts.toList.map fun x => (x.1, a.eval x.2) := by simp
                rw [hvp]
                unfold placesOf at hpl
                unfold Program.built
                simp only [hit]
                split at hpl
                · rename_i fields hu
                  simp only [hu, hzv]
                  cases hm : fields.toList.mapM (fun f => (szT P f.type).map fun s => (f.offset, s)) with
                  | none => simp [hm] at hpl
                  | some l =>
                    simp [hm] at hpl
                    have hm' : fields.toList.mapM (fun f => (P.info? f.type).map fun i => (f.offset, i.size)) = some l := by
                      rw [← hm]
                      congr 1
                      funext f
                      simp [szT, Function.comp_def]
                    simp only [hm']
                    rw [← hv, ← hpl]
                    congr 1
                    funext i
                    simp
                · rename_i n e hu
                  simp only [hu, hzv]
                  cases hie : P.info? e with
                  | none => simp [szT, hie] at hpl
                  | some ie =>
                    simp [szT, hie] at hpl
                    simp only []
                    rw [← hv, ← hpl]
                · simp at hpl
              exact .same (.agg vout) (by simp [run_build w t _ vout hb]) (.agg out vout hvr.1 hvr.2) (fun O loc => .of_not (by simp))
end ops

end Go.Pv

set_option linter.unusedVariables false
set_option linter.unusedSimpArgs false
namespace Go.Pv
open Go

section ops
variable {P : Program} {w : World} {Im : ImT} {β : List Nat} {ρ : Nat → PV} {a : Act}

theorem scalarT_under {t : TypeId} {d : TypeDesc} (h : scalarT P t = some d) : P.underlying t = some d ∧ scalarD d = true := by
  unfold scalarT at h
  cases hu : P.underlying t with
  | none => simp [hu] at h
  | some d' =>
    simp [hu] at h
    obtain ⟨h1, rfl⟩ := h
    exact ⟨rfl, h1⟩

theorem scalarT_part {t : TypeId} {d : TypeDesc} (h : scalarT P t = some d) {xs : Array Value} {off : Nat} {v : Value} (hx : xs[off]? = some v) (w : World) : (part t xs off).run P w = .ok v w := by
  obtain ⟨hu, hs⟩ := scalarT_under h
  cases d <;> simp [scalarD] at hs <;> simp [part, isAgg, run_underlying hu, hx]

/-- Two cells that eqCells compares. -/
theorem eqCells_cons {t : TypeId} {d : TypeDesc} (hd : scalarT P t = some d) (n : Nat) {ts : List TypeDesc} {ps qs : List PV} {b : Bool} (h : eqCells (d :: ts) ps qs = some b) :
    ∃ p xs q ys c r, ps = p :: xs ∧ qs = q :: ys ∧ eqCells ts xs ys = some r ∧ b = (c && r) ∧ ∀ (u v : Value), RepP w Im β p u → RepP w Im β q v →
      (Op.equalIn (n + 1) t u v).run P w = .ok c w := by
  obtain ⟨hu, hs⟩ := scalarT_under hd
  unfold eqCells at h
  split at h
  · rename_i h1; cases h1
  · rename_i ts' a xs b' ys h1
    cases h1
    cases hr : eqCells ts xs ys with
    | none => simp [hr] at h
    | some r =>
      simp [hr] at h
      refine ⟨_, xs, _, ys, a == b', r, rfl, rfl, hr, h.symm, fun u v hpu hqv => ?_⟩
      rw [hpu.bool_inv, hqv.bool_inv]
      simp [Op.equalIn, run_underlying hu]
  · rename_i k0 ts' k a xs k' b' ys h1
    cases h1
    split at h
    · rename_i hk
      subst hk
      cases hr : eqCells ts xs ys with
      | none => simp [hr] at h
      | some r =>
        simp [hr] at h
        refine ⟨_, xs, _, ys, a == b', r, rfl, rfl, hr, h.symm, fun u v hpu hqv => ?_⟩
        rw [hpu.int_inv, hqv.int_inv]
        simp [Op.equalIn, run_underlying hu]
    · cases h
  · rename_i ts' a xs b' ys h1
    cases h1
    cases hr : eqCells ts xs ys with
    | none => simp [hr] at h
    | some r =>
      simp [hr] at h
      refine ⟨_, xs, _, ys, a == b', r, rfl, rfl, hr, h.symm, fun u v hpu hqv => ?_⟩
      rw [hpu.str_inv, hqv.str_inv]
      simp [Op.equalIn, run_underlying hu]
  · cases h

theorem eqCells_nil {ps qs : List PV} {b : Bool} (h : eqCells [] ps qs = some b) : b = true := by
  cases ps <;> cases qs <;> simp [eqCells] at h
  exact h

theorem drop_cons {α : Type} {l : List α} {i : Nat} {x : α} {xs : List α} (h : l.drop i = x :: xs) : l[i]? = some x ∧ l.drop (i + 1) = xs := by
  have h1 : l[i]? = (l.drop i)[0]? := by simp
  refine ⟨by rw [h1, h]; rfl, ?_⟩
  rw [← List.drop_drop, h]
  rfl

theorem eqFields0_run (n : Nat) {ps qs : List PV} {xs ys : Array Value} (hx : RepCells w Im β ps xs) (hy : RepCells w Im β qs ys) : ∀ (fs : List Field) (i : Nat) (ts : List TypeDesc) (b : Bool),
    flatF0 P i fs = some ts → eqCells ts (ps.drop i) (qs.drop i) = some b → (Op.eqFields (n + 1) xs ys fs).run P w = .ok b w
  | [], i, ts, b, hf, he => by
    simp [flatF0] at hf
    subst hf
    obtain rfl := eqCells_nil he
    simp [Op.eqFields]
  | f :: fs, i, ts, b, hf, he => by
    simp only [flatF0] at hf
    cases hd : scalarT P f.type with
    | none => simp [hd] at hf
    | some d =>
      simp only [hd, Option.bind_some] at hf
      split at hf
      · rename_i hc
        obtain ⟨hn, ho⟩ := hc
        cases hr : flatF0 P (i + 1) fs with
        | none => simp [hr] at hf
        | some ts' =>
          simp [hr] at hf
          subst hf
          obtain ⟨p, ps', q, qs', c, r, h1, h2, h3, h4, h5⟩ := eqCells_cons (w := w) (Im := Im) (β := β) hd n he
          obtain ⟨g1, g2⟩ := drop_cons h1
          obtain ⟨k1, k2⟩ := drop_cons h2
          have hi1 : i < xs.size := by have := (List.getElem?_eq_some_iff.1 g1).1; have := hx.1; omega
          have hi2 : i < ys.size := by have := (List.getElem?_eq_some_iff.1 k1).1; have := hy.1; omega
          have e1 := scalarT_part hd (Array.getElem?_eq_getElem hi1) w
          have e2 := scalarT_part hd (Array.getElem?_eq_getElem hi2) w
          have e3 := h5 _ _ (hx.2 i p _ g1 (Array.getElem?_eq_getElem hi1)) (hy.2 i q _ k1 (Array.getElem?_eq_getElem hi2))
          have ih := eqFields0_run n hx hy fs (i + 1) ts' r hr (by rw [g2, k2]; exact h3)
          subst h4
          simp only [Op.eqFields, hn, ho, ne_eq, not_false_eq_true, if_true, Sem.run_bind, e1, e2, e3, Result.andThen_ok]
          cases c
          · simp
          · simpa using ih
      · cases hf

theorem eqCells_append : ∀ (ds : List TypeDesc) {ts : List TypeDesc} {ps qs : List PV} {b : Bool}, eqCells (ds ++ ts) ps qs = some b →
    ∃ c r, eqCells ds (ps.take ds.length) (qs.take ds.length) = some c ∧ eqCells ts (ps.drop ds.length) (qs.drop ds.length) = some r ∧ b = (c && r)
  | [], ts, ps, qs, b, h => ⟨true, b, by simp [eqCells], by simpa using h, by simp⟩
  | d :: ds, ts, ps, qs, b, h => by
    rw [List.cons_append] at h
    unfold eqCells at h
    split at h
    · rename_i h1; cases h1
    · rename_i ts' a xs b' ys h1
      cases h1
      cases hr : eqCells (ds ++ ts) xs ys with
      | none => simp [hr] at h
      | some r =>
        simp [hr] at h
        obtain ⟨c, r', h2, h3, h4⟩ := eqCells_append ds hr
        exact ⟨(a == b') && c, r', by simp [eqCells, h2], by simpa using h3, by rw [← h, h4, Bool.and_assoc]⟩
    · rename_i k0 ts' k a xs k' b' ys h1
      cases h1
      split at h
      · rename_i hk
        subst hk
        cases hr : eqCells (ds ++ ts) xs ys with
        | none => simp [hr] at h
        | some r =>
          simp [hr] at h
          obtain ⟨c, r', h2, h3, h4⟩ := eqCells_append ds hr
          exact ⟨(a == b') && c, r', by simp [eqCells, h2], by simpa using h3, by rw [← h, h4, Bool.and_assoc]⟩
      · cases h
    · rename_i ts' a xs b' ys h1
      cases h1
      cases hr : eqCells (ds ++ ts) xs ys with
      | none => simp [hr] at h
      | some r =>
        simp [hr] at h
        obtain ⟨c, r', h2, h3, h4⟩ := eqCells_append ds hr
        exact ⟨(a == b') && c, r', by simp [eqCells, h2], by simpa using h3, by rw [← h, h4, Bool.and_assoc]⟩
    · cases h

theorem RepCells.cut {ps : List PV} {xs : Array Value} (hx : RepCells w Im β ps xs) (i n : Nat) : RepCells w Im β ((ps.drop i).take n) (xs.extract i (i + n)) := by
  refine ⟨by have := hx.1; simp; omega, fun j p v hp hv => ?_⟩
  rw [List.getElem?_take] at hp
  split at hp
  · rw [List.getElem?_drop] at hp
    rw [Array.getElem?_extract] at hv
    split at hv
    · exact hx.2 _ p v hp hv
    · cases hv
  · cases hp

/-- A field that is a struct of scalars. -/
theorem nest_run (n : Nat) {t : TypeId} {ds : List TypeDesc} (hd : nestT P t = some ds) {ps qs : List PV} {xs ys : Array Value} (hx : RepCells w Im β ps xs) (hy : RepCells w Im β qs ys) {i : Nat} {c : Bool}
    (he : eqCells ds ((ps.drop i).take ds.length) ((qs.drop i).take ds.length) = some c) :
    (part t xs i).run P w = .ok (.agg (xs.extract i (i + ds.length))) w ∧ (part t ys i).run P w = .ok (.agg (ys.extract i (i + ds.length))) w ∧
      (Op.equalIn (n + 2) t (.agg (xs.extract i (i + ds.length))) (.agg (ys.extract i (i + ds.length)))).run P w = .ok c w := by
  unfold nestT at hd
  split at hd
  · rename_i gs hu
    split at hd
    · cases hd
    · rename_i hst
      cases hf : flatF0 P 0 gs.toList with
      | none => simp [hf] at hd
      | some ds' =>
        simp only [hf, Option.bind_some] at hd
        split at hd
        · rename_i hc
          obtain rfl := Option.some.inj hd
          have ha := aggT_run hc.2 w
          have hs := szT_run hc.1 w
          refine ⟨by simp [part, ha, hs], by simp [part, ha, hs], ?_⟩
          have hfo : P.fieldsOf t = gs := by simp [Program.fieldsOf, hu]
          have := run_equalIn_struct (P := P) w (n + 1) t (xs.extract i (i + ds'.length)) (ys.extract i (i + ds'.length)) (by rw [hfo]; exact hu) (by simpa using hst)
          rw [hfo] at this
          rw [this]
          exact eqFields0_run n (hx.cut i ds'.length) (hy.cut i ds'.length) _ 0 ds' c hf (by simpa using he)
        · cases hd
  · cases hd

theorem eqFields_run (n : Nat) {ps qs : List PV} {xs ys : Array Value} (hx : RepCells w Im β ps xs) (hy : RepCells w Im β qs ys) : ∀ (fs : List Field) (i : Nat) (ts : List TypeDesc) (b : Bool),
    flatFields P i fs = some ts → eqCells ts (ps.drop i) (qs.drop i) = some b → (Op.eqFields (n + 2) xs ys fs).run P w = .ok b w
  | [], i, ts, b, hf, he => by
    simp [flatFields] at hf
    subst hf
    obtain rfl := eqCells_nil he
    simp [Op.eqFields]
  | f :: fs, i, ts, b, hf, he => by
    simp only [flatFields] at hf
    split at hf
    · rename_i hc
      obtain ⟨hn, ho⟩ := hc
      cases hd : scalarT P f.type with
      | none =>
        simp only [hd] at hf
        cases hds : nestT P f.type with
        | none => simp [hds] at hf
        | some ds =>
          simp only [hds, Option.bind_some] at hf
          cases hr : flatFields P (i + ds.length) fs with
          | none => simp [hr] at hf
          | some ts' =>
            simp [hr] at hf
            subst hf
            obtain ⟨c, r, h1, h2, h3⟩ := eqCells_append ds he
            obtain ⟨e1, e2, e3⟩ := nest_run (w := w) n hds hx hy h1
            have ih := eqFields_run n hx hy fs (i + ds.length) ts' r hr (by rw [← List.drop_drop, ← List.drop_drop]; exact h2)
            subst h3
            simp only [Op.eqFields, hn, ho, ne_eq, not_false_eq_true, if_true, Sem.run_bind, e1, e2, e3, Result.andThen_ok]
            cases c
            · simp
            · simpa using ih
      | some d =>
        simp only [hd] at hf
        cases hr : flatFields P (i + 1) fs with
        | none => simp [hr] at hf
        | some ts' =>
          simp [hr] at hf
          subst hf
          obtain ⟨p, ps', q, qs', c, r, h1, h2, h3, h4, h5⟩ := eqCells_cons (w := w) (Im := Im) (β := β) hd (n + 1) he
          obtain ⟨g1, g2⟩ := drop_cons h1
          obtain ⟨k1, k2⟩ := drop_cons h2
          have hi1 : i < xs.size := by have := (List.getElem?_eq_some_iff.1 g1).1; have := hx.1; omega
          have hi2 : i < ys.size := by have := (List.getElem?_eq_some_iff.1 k1).1; have := hy.1; omega
          have e1 := scalarT_part hd (Array.getElem?_eq_getElem hi1) w
          have e2 := scalarT_part hd (Array.getElem?_eq_getElem hi2) w
          have e3 := h5 _ _ (hx.2 i p _ g1 (Array.getElem?_eq_getElem hi1)) (hy.2 i q _ k1 (Array.getElem?_eq_getElem hi2))
          have ih := eqFields_run n hx hy fs (i + 1) ts' r hr (by rw [g2, k2]; exact h3)
          subst h4
          simp only [Op.eqFields, hn, ho, ne_eq, not_false_eq_true, if_true, Sem.run_bind, e1, e2, e3, Result.andThen_ok]
          cases c
          · simp
          · simpa using ih
    · cases hf

theorem eqItems_run (n : Nat) {e : TypeId} {d : TypeDesc} (hd : scalarT P e = some d) {ps qs : List PV} {xs ys : Array Value} (hx : RepCells w Im β ps xs) (hy : RepCells w Im β qs ys) : ∀ (m i : Nat) (b : Bool),
    eqCells (List.replicate m d) (ps.drop i) (qs.drop i) = some b → (Op.eqItems (n + 1) e 1 xs ys (List.range' i m)).run P w = .ok b w
  | 0, i, b, he => by
    simp only [List.replicate_zero] at he
    obtain rfl := eqCells_nil he
    simp [Op.eqItems]
  | m + 1, i, b, he => by
    rw [List.replicate_succ] at he
    obtain ⟨p, ps', q, qs', c, r, h1, h2, h3, h4, h5⟩ := eqCells_cons (w := w) (Im := Im) (β := β) hd n he
    obtain ⟨g1, g2⟩ := drop_cons h1
    obtain ⟨k1, k2⟩ := drop_cons h2
    have hi1 : i < xs.size := by have := (List.getElem?_eq_some_iff.1 g1).1; have := hx.1; omega
    have hi2 : i < ys.size := by have := (List.getElem?_eq_some_iff.1 k1).1; have := hy.1; omega
    have e1 := scalarT_part hd (Array.getElem?_eq_getElem hi1) w
    have e2 := scalarT_part hd (Array.getElem?_eq_getElem hi2) w
    have e3 := h5 _ _ (hx.2 i p _ g1 (Array.getElem?_eq_getElem hi1)) (hy.2 i q _ k1 (Array.getElem?_eq_getElem hi2))
    have ih := eqItems_run n hd hx hy m (i + 1) r (by rw [g2, k2]; exact h3)
    subst h4
    rw [List.range'_succ]
    simp only [Op.eqItems, Sem.run_bind, Nat.mul_one, e1, e2, e3, Result.andThen_ok]
    cases c
    · simp
    · simpa using ih

theorem equal_run {t : TypeId} {ks : List TypeDesc} (hk : kindsOf P t = some ks) {ps qs : List PV} {xs ys : Array Value} (hx : RepCells w Im β ps xs) (hy : RepCells w Im β qs ys) {b : Bool}
    (he : eqCells ks ps qs = some b) : (Op.equal t (.agg xs) (.agg ys)).run P w = .ok b w ∧ P.eqGuardType P.depth t = false := by
  unfold kindsOf at hk
  split at hk
  · cases hk
  · rename_i hg
    refine ⟨?_, by simpa using hg⟩
    split at hk
    · rename_i fields hu
      split at hk
      · cases hk
      · rename_i hst
        have hfo : P.fieldsOf t = fields := by simp [Program.fieldsOf, hu]
        have := run_equalIn_struct (P := P) w 9999 t xs ys (by rw [hfo]; exact hu) (by simpa using hst)
        rw [hfo] at this
        show (Op.equalIn (9999 + 1) t (.agg xs) (.agg ys)).run P w = _
        rw [this]
        exact eqFields_run 9997 hx hy _ 0 ks b hk (by simpa using he)
    · rename_i n elem hu
      cases hd : scalarT P elem with
      | none => simp [hd] at hk
      | some d =>
        simp [hd] at hk
        obtain ⟨hsz, rfl⟩ := hk
        cases hi : P.info? elem with
        | none => simp [szT, hi] at hsz
        | some ie =>
          have hc : P.cellsOf elem = 1 := by simp [szT, hi] at hsz; simp [Program.cellsOf, hi, hsz]
          have := run_equalIn_array (P := P) w 9999 xs ys hu hi
          rw [hc] at this
          show (Op.equalIn (9999 + 1) t (.agg xs) (.agg ys)).run P w = _
          rw [this]
          have := eqItems_run 9998 hd hx hy n 0 b (by simpa using he)
          simpa [List.range_eq_range'] using this
    · cases hk

end ops
end Go.Pv

set_option linter.unusedVariables false
set_option linter.unusedSimpArgs false
namespace Go.Pv
open Go

section ops
variable {P : Program} {w : World} {Im : ImT} {β : List Nat} {ρ : Nat → PV} {a : Act}

theorem bin_ok {op : BinOp} {t : TypeId} {xo yo : Operand} {p q r : PV} {u v : Value} (hp : RepP w Im β p u) (hq : RepP w Im β q v) (h : evBin P op t p q = some r) :
    ∃ res, (do eqGuard op t xo yo u v; binOp op t u v : Sem Value).run P w = .ok res w ∧ RepP w Im β r res ∧ ∀ rows, r ≠ .os rows := by
  unfold evBin at h
  split at h
  · rename_i xs ys
    obtain ⟨vx, rfl, hx⟩ := hp.agg_inv
    obtain ⟨vy, rfl, hy⟩ := hq.agg_inv
    cases hk : kindsOf P t with
    | none => simp [hk] at h
    | some ks =>
      simp only [hk, Option.bind_some] at h
      split at h
      · cases he : eqCells ks xs ys with
        | none => simp [he] at h
        | some b =>
          simp [he] at h
          subst h
          obtain ⟨e1, e2⟩ := equal_run (w := w) hk hx hy he
          exact ⟨.bool b, by simp [eqGuard, e2, binOp, e1], .d (.bool b), by simp⟩
      · cases he : eqCells ks xs ys with
        | none => simp [he] at h
        | some b =>
          simp [he] at h
          subst h
          obtain ⟨e1, e2⟩ := equal_run (w := w) hk hx hy he
          exact ⟨.bool (!b), by simp [eqGuard, e2, binOp, e1], .d (.bool (!b)), by simp⟩
      · cases h
  · rename_i hn
    clear hn
    cases hu : toV p with
    | none => simp [hu] at h
    | some x =>
      cases hv : toV q with
      | none => simp [hu, hv] at h
      | some y =>
        simp only [hu, hv, Option.bind_some] at h
        cases hr : pureRun P (binOp op t x y) with
        | none => simp [hr] at h
        | some z =>
          simp only [hr, Option.bind_some] at h
          obtain rfl := toV_rep hp hu
          obtain rfl := toV_rep hq hv
          obtain ⟨s1, s2⟩ := ofScalar_rep (w := w) (Im := Im) (β := β) h
          have hrun := pureRun_run _ _ hr w
          refine ⟨z, ?_, s1, s2⟩
          have hg : (eqGuard op t xo yo u v).run P w = .ok () w := by
            unfold eqGuard
            cases p <;> simp [toV] at hu
            rename_i dx
            cases dx <;> simp at hu <;> subst hu <;> (split <;> simp)
          simp [hg, hrun]

theorem part_ok {t : TypeId} {cs : List PV} {vs : Array Value} {off : Nat} {r : PV} (hc : RepCells w Im β cs vs) (h : partP P t cs off = some r) :
    ∃ v, (part t vs off).run P w = .ok v w ∧ RepP w Im β r v ∧ ∀ rows, r ≠ .os rows := by
  unfold partP at h
  cases ha : aggT P t with
  | none => simp [ha] at h
  | some b =>
    simp only [ha, Option.bind_some] at h
    have hrun := aggT_run ha w
    cases b with
    | true =>
      simp only [if_true] at h
      cases hs : szT P t with
      | none => simp [hs] at h
      | some sz =>
        simp only [hs, Option.bind_some, Option.some.injEq] at h
        subst h
        have hsr := szT_run hs w
        refine ⟨.agg (vs.extract off (off + sz)), by simp [part, hrun, hsr], .agg _ _ (by simp [hc.1]; omega) (fun i p v hp hv => ?_), by simp⟩
        rw [List.getElem?_map] at hp
        cases hq : ((cs.drop off).take sz)[i]? with
        | none => rw [hq] at hp; cases hp
        | some q =>
          rw [hq] at hp
          simp at hp
          subst hp
          rw [List.getElem?_take] at hq
          split at hq
          · rw [List.getElem?_drop] at hq
            rw [Array.getElem?_extract] at hv
            split at hv
            · exact (hc.2 _ q v hq hv).strip1
            · cases hv
          · cases hq
    | false =>
      simp at h
      obtain ⟨q, hq, rfl⟩ := h
      have hi : off < vs.size := by have := (List.getElem?_eq_some_iff.1 hq).1; have := hc.1; omega
      exact ⟨vs[off], by simp [part, hrun, hi], (hc.2 off q _ hq (Array.getElem?_eq_getElem hi)).strip1, strip1_not_os q⟩

theorem Addr.add_none {x : Addr} (hs : x.spot = none) (n : Nat) : x.add n = ⟨x.block, x.off + n, none⟩ := by
  unfold Addr.add
  split
  · rename_i h; subst h; cases x; simp_all
  · rfl

theorem fieldAddr_ok {t : TypeId} {p r : PV} {v : Value} {f : Nat} (hp : RepP w Im β p v) (h : evFieldAddr P t p f = some r) :
    ∃ u, (Instr.fieldAt t v f).run P w = .ok u w ∧ RepP w Im β r u ∧ ∀ rows, r ≠ .os rows := by
  unfold evFieldAddr at h
  split at h
  · rename_i fields hu
    cases hf : fields[f]? with
    | none => simp [hf] at h
    | some fl =>
      simp only [hf, Option.bind_some] at h
      cases hs : szT P fl.type with
      | none => simp [hs] at h
      | some sz =>
        simp only [hs, Option.bind_some] at h
        split at h
        · cases h
        · rename_i hz
          have hsr := szT_run hs w
          split at h
          · rename_i id off
            cases h
            cases hp with
            | ptr _ _ b hb =>
              refine ⟨.pointer (some ⟨b, off + fl.offset, none⟩), ?_, .ptr id _ b hb, by simp⟩
              simp [Instr.fieldAt, run_underlying hu, hf, Instr.sureAddr, fieldPlace, hsr, hz, Addr.add_none]
          · rename_i cells
            cases h
            cases hp with
            | ro _ x cv h1 h2 h3 h4 =>
              refine ⟨.pointer (some (x.add fl.offset)), ?_, ?_, by simp⟩
              · simp [Instr.fieldAt, run_underlying hu, hf, Instr.sureAddr, fieldPlace, hsr, hz]
              · rw [Addr.add_none h1]
                refine .ro _ _ (fun j => cv (fl.offset + j)) rfl ?_ ?_ ?_
                · intro j hj
                  simp at hj
                  have := h2 (fl.offset + j) (by omega)
                  simpa [Nat.add_assoc] using this
                · intro j hj
                  simp at hj
                  have := h3 (fl.offset + j) (by omega)
                  simpa [Nat.add_assoc] using this
                · intro j x hx
                  rw [List.getElem?_drop] at hx
                  exact h4 _ x hx
          · cases h
  · cases h

theorem indexAddr_ok {t : TypeId} {p q r : PV} {v i : Value} (hp : RepP w Im β p v) (hq : RepP w Im β q i) (h : evIndexAddr P t p q = some r) :
    ∃ u, (Instr.indexAt t v i).run P w = .ok u w ∧ RepP w Im β r u ∧ ∀ rows, r ≠ .os rows := by
  unfold evIndexAddr at h
  cases hn : natOf q with
  | none => simp [hn] at h
  | some n =>
    simp only [hn, Option.bind_some] at h
    obtain ⟨k, rfl⟩ := natOf_rep hq hn
    split at h
    · rename_i elem rows hu
      cases hr : rows[n]? with
      | none => simp [hr] at h
      | some row =>
        simp only [hr, Option.bind_some] at h
        split at h
        · rename_i hc
          obtain ⟨hs, hpos⟩ := hc
          cases h
          have hsr := szT_run hs w
          have hlt : n < rows.length := (List.getElem?_eq_some_iff.1 hr).1
          cases hp.slice_inv with
          | nil => simp at hlt
          | slice _ x c sz cv hlen hcap hsp hcell him hrep =>
            have hrl : row.length = sz := hlen row (List.mem_of_getElem? hr)
            have hmul : (n + 1) * sz ≤ rows.length * sz := Nat.mul_le_mul_right sz hlt
            rw [Nat.add_mul, Nat.one_mul] at hmul
            have hx : x.spot = none := hsp (by omega)
            refine ⟨.pointer (some (x.add (n * row.length))), ?_, ?_, by simp⟩
            · simp [Instr.indexAt, asIntOf, run_underlying hu, hsr, hlt]
            · rw [Addr.add_none hx, hrl]
              refine .ro row _ (fun j => cv (n * sz + j)) rfl ?_ ?_ ?_
              · intro j hj
                have := hcell (n * sz + j) (by omega)
                simpa [Nat.add_assoc] using this
              · intro j hj
                have := him (n * sz + j) (by omega)
                simpa [Nat.add_assoc] using this
              · intro j y hy
                exact hrep n j row y hr hy
        · cases h
    · rename_i len elem id off hu
      cases hs : szT P elem with
      | none => simp [hs] at h
      | some sz =>
        simp only [hs, Option.bind_some] at h
        split at h
        · rename_i hlt
          cases h
          have hsr := szT_run hs w
          cases hp with
          | ptr _ _ b hb =>
            refine ⟨.pointer (some ⟨b, off + n * sz, none⟩), ?_, .ptr id _ b hb, by simp⟩
            simp [Instr.indexAt, asIntOf, run_underlying hu, hsr, hlt, Instr.sureAddr, Addr.add_none]
        · cases h
    · rename_i elem id off len sz hu
      split at h
      · rename_i hc
        obtain ⟨hs, hlt⟩ := hc
        cases h
        have hsr := szT_run hs w
        cases hp with
        | ms _ _ _ _ b c x hb hcap hx =>
          obtain rfl := hx (by omega)
          refine ⟨.pointer (some ((⟨b, off, none⟩ : Addr).add (n * sz))), ?_, ?_, by simp⟩
          · simp [Instr.indexAt, asIntOf, run_underlying hu, hsr, hlt]
          · rw [Addr.add_none rfl]; exact .ptr id (off + n * sz) b hb
      · cases h
    · cases h

theorem index_ok {t : TypeId} {p q r : PV} {v i : Value} (hp : RepP w Im β p v) (hq : RepP w Im β q i) (h : evIndex P t p q = some r) :
    ∃ u, (Instr.index t v i).run P w = .ok u w ∧ RepP w Im β r u ∧ ∀ rows, r ≠ .os rows := by
  unfold evIndex at h
  cases hn : natOf q with
  | none => simp [hn] at h
  | some n =>
    simp only [hn, Option.bind_some] at h
    obtain ⟨k, rfl⟩ := natOf_rep hq hn
    split at h
    · rename_i len elem cs hu
      split at h
      · rename_i hlt
        cases hs : szT P elem with
        | none => simp [hs] at h
        | some sz =>
          simp only [hs, Option.bind_some] at h
          obtain ⟨vs, rfl, hvs⟩ := hp.agg_inv
          obtain ⟨u, h1, h2, h3⟩ := part_ok (w := w) hvs h
          exact ⟨u, by simp [Instr.index, asIntOf, run_underlying hu, szT_run hs, hlt, h1], h2, h3⟩
      · cases h
    · rename_i s hu
      cases hb : s[n]? with
      | none => simp [hb] at h
      | some b =>
        simp [hb] at h
        subst h
        obtain rfl := hp.str_inv
        exact ⟨.int .u8 b.toNat, by simp [Instr.index, asIntOf, run_underlying hu, hb], .d (.int _ _), by simp⟩
    · cases h

theorem bound_ok (hρ : Reps w Im β ρ a) {x : Option Operand} {dflt n : Nat} (h : bound ρ x dflt = some n) :
    (x = none ∧ n = dflt) ∨ ∃ o k, x = some o ∧ a.eval o = .int k (n : Int) := by
  cases x with
  | none => simp [bound] at h; exact .inl ⟨rfl, h.symm⟩
  | some o =>
    simp only [bound] at h
    cases hu : use ρ o with
    | none => simp [hu] at h
    | some p =>
      simp only [hu, Option.bind_some] at h
      obtain ⟨k, hk⟩ := natOf_rep (use_rep hρ hu) h
      exact .inr ⟨o, k, rfl, hk⟩

theorem bounds_run {isSlice : Bool} {len cap l h : Nat} {lo hi : Option Value} (hlo : (lo = none ∧ l = 0) ∨ ∃ k, lo = some (.int k (l : Int)))
    (hhi : (hi = none ∧ h = len) ∨ ∃ k, hi = some (.int k (h : Int))) (h1 : l ≤ h) (h2 : h ≤ cap) :
    (Instr.sliceBounds isSlice len cap lo hi none).run P w = .ok (l, h, cap) w := by
  rcases hlo with ⟨rfl, rfl⟩ | ⟨k, rfl⟩ <;> rcases hhi with ⟨rfl, rfl⟩ | ⟨k', rfl⟩ <;> simp [Instr.sliceBounds, Instr.sliceBound, asIntOf, h1, h2]

theorem bounds_run3 {len cap l h : Nat} {lo : Option Value} {hi mx : Value} (hlo : (lo = none ∧ l = 0) ∨ ∃ k, lo = some (.int k (l : Int)))
    (hhi : ∃ k, hi = .int k (h : Int)) (hmx : ∃ k, mx = .int k (h : Int)) (h1 : l ≤ h) (h2 : h ≤ cap) :
    (Instr.sliceBounds true len cap lo (some hi) (some mx)).run P w = .ok (l, h, h) w := by
  obtain ⟨k', rfl⟩ := hhi
  obtain ⟨k'', rfl⟩ := hmx
  rcases hlo with ⟨rfl, rfl⟩ | ⟨k, rfl⟩ <;> simp [Instr.sliceBounds, Instr.sliceBound, asIntOf, h1, h2]

/-- A cut of a slice. -/
theorem cut_rep {rows : List (List DV)} {sz l h m len cap : Nat} {x : Option Addr} (hr : RepD w Im (.slice rows) (.slice x len cap)) (hok : rowsOk sz rows = true)
    (h1 : l ≤ h) (h2 : h ≤ rows.length) (h3 : h ≤ m) (h4 : m ≤ cap) :
    RepD w Im (.slice ((rows.take h).drop l)) (.slice (if m = l then x else x.map (·.add (l * sz))) (h - l) (m - l)) := by
  cases hr with
  | nil =>
    simp at h2
    subst h2
    obtain rfl : l = 0 := by omega
    obtain rfl : m = 0 := by omega
    simpa using RepD.nil
  | slice _ y c sz' cv hlen hcap hsp hcell him hrep =>
    have hlen' : ((rows.take h).drop l).length = h - l := by simp; omega
    have hsz : rows ≠ [] → sz' = sz := by
      intro hne
      cases rows with
      | nil => exact absurd rfl hne
      | cons r rs =>
        simp [rowsOk] at hok
        have := hlen r (by simp)
        omega
    have key : ∀ y' : Addr, (h - l ≠ 0 → y' = y.add (l * sz)) → RepD w Im (.slice ((rows.take h).drop l)) (.slice (some y') (h - l) (m - l)) := by
      intro y' hy'
      rw [← hlen']
      by_cases hz : h - l = 0
      · have : (rows.take h).drop l = [] := by apply List.eq_nil_of_length_eq_zero; omega
        rw [this]
        exact .slice [] y' _ sz (fun _ => default) (by simp) (by simp) (by simp) (by simp) (by simp) (by simp)
      · obtain rfl := hy' hz
        have hne : rows ≠ [] := by intro h0; subst h0; simp at h2; omega
        obtain rfl := hsz hne
        have hmul : h * sz' ≤ rows.length * sz' := Nat.mul_le_mul_right _ h2
        have hsub : (h - l) * sz' = h * sz' - l * sz' := Nat.sub_mul _ _ _
        have hle : l * sz' ≤ h * sz' := Nat.mul_le_mul_right _ h1
        refine .slice _ _ _ sz' (fun j => cv (l * sz' + j)) ?_ (by rw [hlen']; omega) ?_ ?_ ?_ ?_
        · intro r hr
          exact hlen r (List.mem_of_mem_take (List.mem_of_mem_drop hr))
        · intro hnz
          rw [hlen'] at hnz
          rw [Addr.add_none (hsp (by omega))]
        · intro j hj
          rw [hlen'] at hj
          rw [Addr.add_none (hsp (by omega))]
          have := hcell (l * sz' + j) (by omega)
          simpa [Nat.add_assoc] using this
        · intro j hj
          rw [hlen'] at hj
          rw [Addr.add_none (hsp (by omega))]
          have := him (l * sz' + j) (by omega)
          simpa [Nat.add_assoc] using this
        · intro i j r x hi hj
          rw [List.getElem?_drop, List.getElem?_take] at hi
          split at hi
          · have := hrep (l + i) j r x hi hj
            rwa [Nat.add_mul, Nat.add_assoc] at this
          · cases hi
    split
    · exact key y (fun hz => by omega)
    · exact key _ (fun _ => rfl)

theorem RepD.slice_form {rows : List (List DV)} {v : Value} (h : RepD w Im (.slice rows) v) : ∃ y cap, v = .slice y rows.length cap ∧ rows.length ≤ cap := by
  cases h with
  | nil => exact ⟨none, 0, rfl, by simp⟩
  | slice _ y c sz' cv hlen hcap hsp hcell him hrep => exact ⟨some y, c, rfl, hcap⟩

theorem slice_ok (hρ : Reps w Im β ρ a) {t : TypeId} {x : Operand} {lo hi mx : Option Operand} {r : PV} (h : evSlice P ρ t x lo hi mx = some r) :
    ∃ u, (Instr.sliceAt t (a.eval x) (lo.map a.eval) (hi.map a.eval) (mx.map a.eval)).run P w = .ok u w ∧ RepP w Im β r u ∧ ∀ O loc, OwnP w Im O loc r u := by
  unfold evSlice at h
  cases hx : use ρ x with
  | none => simp [hx] at h
  | some p =>
    simp only [hx, Option.bind_some] at h
    have hp := use_rep hρ hx
    have map_lo : ∀ {l : Nat} {lo : Option Operand}, bound ρ lo 0 = some l → (lo.map a.eval = none ∧ l = 0) ∨ ∃ k, lo.map a.eval = some (.int k (l : Int)) := by
      intro l lo hl
      rcases bound_ok hρ hl with ⟨rfl, rfl⟩ | ⟨o, k, rfl, ho⟩
      · exact .inl ⟨rfl, rfl⟩
      · exact .inr ⟨k, by simp [ho]⟩
    split at h
    · rename_i s hu
      split at h
      · cases h
      · rename_i hm
        cases hl : bound ρ lo 0 with
        | none => simp [hl] at h
        | some l =>
          cases hh : bound ρ hi s.size with
          | none => simp [hl, hh] at h
          | some h' =>
            simp only [hl, hh, Option.bind_some] at h
            split at h
            · rename_i hc
              cases h
              obtain rfl : mx = none := by cases mx <;> simp_all
              rw [hp.str_inv]
              have hhi : (hi.map a.eval = none ∧ h' = s.size) ∨ ∃ k, hi.map a.eval = some (.int k (h' : Int)) := by
                rcases bound_ok hρ hh with ⟨rfl, rfl⟩ | ⟨o, k, rfl, ho⟩
                · exact .inl ⟨rfl, rfl⟩
                · exact .inr ⟨k, by simp [ho]⟩
              have hb := bounds_run (P := P) (w := w) (isSlice := false) (len := s.size) (cap := s.size) (map_lo hl) hhi hc.1 hc.2
              exact ⟨.string (s.extract l h'), by simp [Instr.sliceAt, Instr.slice, run_underlying hu, hb], .d (.str _), fun O loc => .of_not (by simp)⟩
            · cases h
    · rename_i elem rows hu
      cases hs : szT P elem with
      | none => simp [hs] at h
      | some sz =>
        simp only [hs, Option.bind_some] at h
        cases hl : bound ρ lo 0 with
        | none => simp [hl] at h
        | some l =>
          cases hh : bound ρ hi rows.length with
          | none => simp [hl, hh] at h
          | some h' =>
            simp only [hl, hh, Option.bind_some] at h
            split at h
            · rename_i hc
              simp at hc
              obtain ⟨⟨c1, c2⟩, c3⟩ := hc
              have hsr := szT_run hs w
              have hD := hp.slice_inv
              have hv := hD.slice_form
              obtain ⟨y, cap, hv, hcap⟩ := hv
              rw [hv] at hD ⊢
              split at h
              · cases h
                have hhi : (hi.map a.eval = none ∧ h' = rows.length) ∨ ∃ k, hi.map a.eval = some (.int k (h' : Int)) := by
                  rcases bound_ok hρ hh with ⟨rfl, rfl⟩ | ⟨o, k, rfl, ho⟩
                  · exact .inl ⟨rfl, rfl⟩
                  · exact .inr ⟨k, by simp [ho]⟩
                have hb := bounds_run (P := P) (w := w) (isSlice := true) (len := rows.length) (cap := cap) (map_lo hl) hhi c2 (by omega)
                refine ⟨_, by simp [Instr.sliceAt, Instr.slice, run_underlying hu, hb, hsr], .d (cut_rep hD c1 c2 c3 (by omega) (Nat.le_refl _)), fun O loc => .of_not (by simp)⟩
              · rename_i m
                split at h
                · rename_i hsome
                  cases hm : bound ρ (some m) 0 with
                  | none => simp [hm] at h
                  | some m' =>
                    simp only [hm, Option.bind_some] at h
                    split at h
                    · rename_i hmh
                      subst hmh
                      cases h
                      rcases bound_ok hρ hm with ⟨hh0, _⟩ | ⟨o, k, ho', ho⟩
                      · cases hh0
                      · cases ho'
                        rcases bound_ok hρ hh with ⟨rfl, _⟩ | ⟨o2, k2, rfl, ho2⟩
                        · simp at hsome
                        · have hb := bounds_run3 (P := P) (w := w) (len := rows.length) (cap := cap) (lo := lo.map a.eval) (hi := a.eval o2) (mx := a.eval m) (map_lo hl) ⟨k2, ho2⟩ ⟨k, ho⟩ c2 (by omega)
                          have hrep := cut_rep hD c1 c2 c3 (Nat.le_refl m') (by omega)
                          refine ⟨.slice (if m' = l then y else y.map (·.add (l * sz))) (m' - l) (m' - l), by simp [Instr.sliceAt, Instr.slice, run_underlying hu, hb, hsr], ?_, fun O loc => acc_own⟩
                          generalize hrows : (rows.take m').drop l = rows' at hrep ⊢
                          have hl' : rows'.length = m' - l := by rw [← hrows]; simp; omega
                          cases rows' with
                          | nil =>
                            simp at hl'
                            rw [← hl']
                            exact .e0 _
                          | cons r rs => exact .os hrep
                    · cases h
                · cases h
            · cases h
    · rename_i elem id off len sz hu
      split at h
      · rename_i hc
        obtain ⟨hs, hmx⟩ := hc
        have hsr := szT_run hs w
        obtain rfl : mx = none := by cases mx <;> simp_all
        cases hl : bound ρ lo 0 with
        | none => simp [hl] at h
        | some l =>
          cases hh : bound ρ hi len with
          | none => simp [hl, hh] at h
          | some h' =>
            simp only [hl, hh, Option.bind_some] at h
            split at h
            · rename_i hc
              obtain ⟨c1, c2⟩ := hc
              cases h
              generalize hv : a.eval x = v at hp
              cases hp with
              | ms _ _ _ _ b c y hb hcap hy =>
                have hhi : (hi.map a.eval = none ∧ h' = len) ∨ ∃ k, hi.map a.eval = some (.int k (h' : Int)) := by
                  rcases bound_ok hρ hh with ⟨rfl, rfl⟩ | ⟨o, k, rfl, ho⟩
                  · exact .inl ⟨rfl, rfl⟩
                  · exact .inr ⟨k, by simp [ho]⟩
                have hb' := bounds_run (P := P) (w := w) (isSlice := true) (len := len) (cap := c) (map_lo hl) hhi c1 (by omega)
                refine ⟨.slice (some (if c = l then y else y.add (l * sz))) (h' - l) (c - l), ?_, .ms id _ _ _ b _ _ hb (by omega) (fun hne => ?_), fun O loc => .of_not (by simp)⟩
                · simp [Instr.sliceAt, Instr.slice, run_underlying hu, hb', hsr]
                  split <;> rfl
                rw [if_neg (by omega), hy (by omega)]
                simp [Addr.add_none]
            · cases h
      · cases h
    · cases h
end ops
end Go.Pv

set_option linter.unusedVariables false
set_option linter.unusedSimpArgs false
namespace Go.Pv
open Go

section ops
variable {P : Program} {w : World} {Im : ImT} {β : List Nat} {ρ : Nat → PV} {a : Act}

theorem bytesOfRows_get : ∀ {rows : List (List DV)} {xs : List Int}, bytesOfRows rows = some xs → rows.length = xs.length ∧ ∀ (i : Nat) (n : Int), xs[i]? = some n → rows[i]? = some [.int .u8 n]
  | [], xs, h => by simp [bytesOfRows] at h; subst h; exact ⟨rfl, by simp⟩
  | r :: rs, xs, h => by
    simp only [bytesOfRows] at h
    cases hr : byteOfRow r with
    | none => simp [hr] at h
    | some n =>
      cases hs : bytesOfRows rs with
      | none => simp [hr, hs] at h
      | some ns =>
        simp [hr, hs] at h
        subst h
        obtain ⟨h1, h2⟩ := bytesOfRows_get hs
        have : r = [.int .u8 n] := by
          unfold byteOfRow at hr
          split at hr
          · simp at hr; subst hr; rfl
          · cases hr
        refine ⟨by simp [h1], fun i m hi => ?_⟩
        cases i with
        | zero => simp at hi ⊢; subst hi; exact this
        | succ i => simpa using h2 i m (by simpa using hi)

theorem bytes_ok {src dst : TypeId} {rows : List (List DV)} {v : Value} {r : PV} (hp : RepD w Im (.slice rows) v) (h : evBytesStr P src dst rows = some r) :
    ∃ res, (convert src dst v).run P w = .ok res w ∧ RepP w Im β r res ∧ ∀ rows, r ≠ .os rows := by
  unfold evBytesStr at h
  split at h
  · rename_i e hs hd
    split at h
    · rename_i h8
      have he : P.underlying e = some (.int .u8) := by
        unfold isU8 at h8
        split at h8
        · rename_i h; exact h
        · cases h8
      cases hx : bytesOfRows rows with
      | none => simp [hx] at h
      | some xs =>
        simp [hx] at h
        subst h
        obtain ⟨hlen, hget⟩ := bytesOfRows_get hx
        refine ⟨.string (strOfNums xs), ?_, .d (.str _), by simp⟩
        cases hp with
        | nil =>
          have : xs = [] := List.eq_nil_of_length_eq_zero (by rw [← hlen]; rfl)
          subst this
          exact run_convert_bytes_nil w src e hs he 0 0 dst hd
        | slice _ a c sz cv h1 h2 h3 h4 h5 h6 =>
          rw [run_convert_bytes_string w src dst e _ _ c hs he hd]
          have hl : (loadCells a rows.length).run P w = .ok (xs.map (Value.int .u8)).toArray w := by
            have := run_loadCells_list (P := P) w a (xs.map (Value.int .u8)) (fun j u hj => by
              rw [List.getElem?_map] at hj
              cases hn : xs[j]? with
              | none => rw [hn] at hj; cases hj
              | some n =>
                rw [hn] at hj
                simp at hj
                subst hj
                have hr := hget j n hn
                have hsz : sz = 1 := by
                  have := h1 _ (List.mem_of_getElem? hr)
                  simpa using this.symm
                subst hsz
                have hj : j < rows.length := (List.getElem?_eq_some_iff.1 hr).1
                have hrep := h6 j 0 _ _ hr rfl
                have hcv : cv (j * 1 + 0) = .int .u8 n := by
                  generalize cv (j * 1 + 0) = q at hrep
                  cases hrep
                  rfl
                rw [Addr.add_none (h3 (by omega)), h4 j (by omega)]
                simpa using hcv)
            simpa [hlen] using this
          rw [run_bytesToString w a _ c xs hl, foldl_push_bytes]
          simp [strOfNums, ByteArray.empty, ByteArray.emptyWithCapacity]
          rfl
    · cases h
  · cases h

theorem convert_ok {src dst : TypeId} {p r : PV} {v : Value} (hp : RepP w Im β p v) (h : evConvert P src dst p = some r) :
    ∃ res, (convert src dst v).run P w = .ok res w ∧ RepP w Im β r res ∧ ∀ rows, r ≠ .os rows := by
  unfold evConvert at h
  split at h
  · rename_i rows
    cases hp with
    | d hd => exact bytes_ok hd h
  · rename_i x hx
    cases hv : toV p with
    | none => simp [hv] at h
    | some u =>
      simp only [hv, Option.bind_some] at h
      cases hr : pureRun P (convert src dst u) with
      | none => simp [hr] at h
      | some z =>
        simp only [hr, Option.bind_some] at h
        have := toV_rep hp hv
        obtain ⟨s1, s2⟩ := ofScalar_rep (w := w) (Im := Im) (β := β) h
        subst this
        exact ⟨z, pureRun_run _ _ hr _, s1, s2⟩

theorem evPure_ok (hρ : Reps w Im β ρ a) (hin : ImIn w Im) {o : Oper} {r : PV} (h : evPure P ρ o.op = some r) : PureOk P w Im β (execOp a.eval o) r := by
  obtain ⟨dst, op, ty, pos, after, guard⟩ := o
  simp only at h
  cases op with
  | pick c x y =>
    simp only [evPure] at h
    cases hc : use ρ c with
    | none => simp [hc] at h
    | some cv =>
      cases hx : use ρ x with
      | none => simp [hc, hx] at h
      | some xv =>
        cases hy : use ρ y with
        | none => simp [hc, hx, hy] at h
        | some yv =>
          simp only [hc, hx, hy, Option.bind_some] at h
          split at h
          · rename_i t
            cases h
            have hb := (use_rep hρ hc).bool_inv
            refine .same (if t then a.eval x else a.eval y) (by simp [execOp, hb, asBool]) ?_ (fun O loc => .of_not ?_)
            · cases t
              · exact use_rep hρ hy
              · exact use_rep hρ hx
            · cases t
              · exact use_not_os hy
              · exact use_not_os hx
          · cases h
  | build t parts => simpa only [execOp] using build_ok hρ h
  | buildSlice t len parts => simpa only [execOp] using buildSlice_ok hρ hin h
  | nilCheck x =>
    simp only [evPure] at h
    cases hx : use ρ x with
    | none => simp [hx] at h
    | some p =>
      simp only [hx, Option.bind_some] at h
      have hp := use_rep hρ hx
      have hv : (execOp a.eval { dst := dst, op := .nilCheck x, type := ty, pos := pos, after := after, guard := guard }).run P w = .ok (.value (a.eval x)) w ∧ r = p := by
        split at h <;> cases h
        · refine ⟨?_, rfl⟩
          generalize hu : a.eval x = u at hp
          cases hp
          simp [execOp, hu]
        · refine ⟨?_, rfl⟩
          generalize hu : a.eval x = u at hp
          cases hp
          simp [execOp, hu]
        · refine ⟨?_, rfl⟩
          generalize hu : a.eval x = u at hp
          cases hp
          simp [execOp, hu]
      obtain ⟨hv, rfl⟩ := hv
      exact .same _ hv hp (fun O loc => .of_not (use_not_os hx))
  | binOp op t x y yt =>
    simp only [evPure] at h
    cases hx : use ρ x with
    | none => simp [hx] at h
    | some p =>
      cases hy : use ρ y with
      | none => simp [hx, hy] at h
      | some q =>
        simp only [hx, hy, Option.bind_some] at h
        obtain ⟨res, h1, h2, h3⟩ := bin_ok (w := w) (xo := x) (yo := y) (use_rep hρ hx) (use_rep hρ hy) h
        exact .same res (by simp only [execOp, Sem.run_bind, h1, Result.andThen_ok]; rfl) h2 (fun O loc => .of_not h3)
  | unOp op t x =>
    simp only [evPure] at h
    cases hx : use ρ x with
    | none => simp [hx] at h
    | some p =>
      simp only [hx, Option.bind_some] at h
      cases hv : toV p with
      | none => simp [hv] at h
      | some u =>
        simp only [hv, Option.bind_some] at h
        cases hr : pureRun P (Op.unary op u) with
        | none => simp [hr] at h
        | some z =>
          simp only [hr, Option.bind_some] at h
          have := toV_rep (use_rep hρ hx) hv
          obtain ⟨s1, s2⟩ := ofScalar_rep (w := w) (Im := Im) (β := β) h
          exact .same z (by simp only [execOp, this, Sem.run_bind, pureRun_run _ _ hr, Result.andThen_ok]; rfl) s1 (fun O loc => .of_not s2)
  | convert s d x =>
    simp only [evPure] at h
    cases hx : use ρ x with
    | none => simp [hx] at h
    | some p =>
      simp only [hx, Option.bind_some] at h
      obtain ⟨z, h1, h2, h3⟩ := convert_ok (src := s) (dst := d) (use_rep hρ hx) h
      exact .same z (by simp only [execOp, h1, Sem.run_bind, Result.andThen_ok]; rfl) h2 (fun O loc => .of_not h3)
  | makeInterface t x =>
    simp only [evPure] at h
    split at h
    · cases h
    · rename_i hn hu
      cases hx : use ρ x with
      | none => simp [hx] at h
      | some p =>
        simp [hx] at h
        subst h
        have hc : P.concrete t = true := by
          unfold Program.concrete
          split
          · rename_i ms hms; rw [hu] at hms; exact absurd (Option.some.inj hms) (hn ms)
          · rename_i hms; simp [hms] at hu
          · rfl
        exact .same _ (by simp only [execOp, Sem.run_bind, run_makeInterface w t (a.eval x) hc, Result.andThen_ok]; rfl) (.iface t p _ (use_rep hρ hx)) (fun O loc => .of_not (by simp))
    · cases h
  | makeFunc fn first captured =>
    simp only [evPure] at h
    cases hf : useL ρ first.toList with
    | none => simp [hf] at h
    | some f =>
      cases hc : useL ρ captured.toList with
      | none => simp [hf, hc] at h
      | some c =>
        simp [hf, hc] at h
        subst h
        obtain ⟨f1, f2⟩ := useL_rep hρ hf
        obtain ⟨c1, c2⟩ := useL_rep hρ hc
        refine .same (.func fn (first.map a.eval) (captured.map a.eval)) (by simp [execOp, Instr.makeFunc]) (.func fn f c _ _ (by simp [f1]) (by simp [c1]) ?_ ?_) (fun O loc => .of_not (by simp))
        · intro i p v hp hv
          exact (f2 i p v hp (by simpa using hv)).1
        · intro i p v hp hv
          exact (c2 i p v hp (by simpa using hv)).1
  | slice t x lo hi mx =>
    simp only [evPure] at h
    obtain ⟨u, h1, h2, h3⟩ := slice_ok (w := w) hρ h
    exact .same u (by simp only [execOp, Sem.run_bind, h1, Result.andThen_ok]; rfl) h2 h3
  | fieldAddr t x f =>
    simp only [evPure] at h
    cases hx : use ρ x with
    | none => simp [hx] at h
    | some p =>
      simp only [hx, Option.bind_some] at h
      obtain ⟨u, h1, h2, h3⟩ := fieldAddr_ok (w := w) (use_rep hρ hx) h
      exact .same u (by simp only [execOp, Sem.run_bind, h1, Result.andThen_ok]; rfl) h2 (fun O loc => .of_not h3)
  | field t x f =>
    simp only [evPure, evField] at h
    cases hx : use ρ x with
    | none => simp [hx] at h
    | some p =>
      simp only [hx, Option.bind_some] at h
      split at h
      · rename_i fields cs hu
        cases hf : fields[f]? with
        | none => simp [hf] at h
        | some fl =>
          simp only [hf, Option.bind_some] at h
          have hp := use_rep hρ hx
          generalize hv : a.eval x = v at hp
          obtain ⟨vs, rfl, hvs⟩ := hp.agg_inv
          obtain ⟨u, h1, h2, h3⟩ := part_ok (w := w) hvs h
          exact .same u (by simp [execOp, hv, Instr.field, run_underlying hu, hf, asAgg, h1]) h2 (fun O loc => .of_not h3)
      · cases h
  | indexAddr t x i =>
    simp only [evPure] at h
    cases hx : use ρ x with
    | none => simp [hx] at h
    | some p =>
      cases hi : use ρ i with
      | none => simp [hx, hi] at h
      | some q =>
        simp only [hx, hi, Option.bind_some] at h
        obtain ⟨u, h1, h2, h3⟩ := indexAddr_ok (w := w) (use_rep hρ hx) (use_rep hρ hi) h
        exact .same u (by simp only [execOp, Sem.run_bind, h1, Result.andThen_ok]; rfl) h2 (fun O loc => .of_not h3)
  | index t x i =>
    simp only [evPure] at h
    cases hx : use ρ x with
    | none => simp [hx] at h
    | some p =>
      cases hi : use ρ i with
      | none => simp [hx, hi] at h
      | some q =>
        simp only [hx, hi, Option.bind_some] at h
        obtain ⟨u, h1, h2, h3⟩ := index_ok (w := w) (use_rep hρ hx) (use_rep hρ hi) h
        exact .same u (by simp only [execOp, Sem.run_bind, h1, Result.andThen_ok]; rfl) h2 (fun O loc => .of_not h3)
  | extract x i =>
    simp only [evPure] at h
    cases hx : use ρ x with
    | none => simp [hx] at h
    | some p =>
      simp only [hx, Option.bind_some] at h
      split at h
      · rename_i vs
        cases hg : vs[i]? with
        | none => simp [hg] at h
        | some q =>
          simp [hg] at h
          subst h
          have hp := use_rep hρ hx
          generalize hv : a.eval x = v at hp
          obtain ⟨us, rfl, hl, hus⟩ := hp.tup_inv
          have hi : i < us.size := by have := (List.getElem?_eq_some_iff.1 hg).1; omega
          exact .same us[i] (by simp [execOp, hv, Instr.extract, hi]) (hus i q _ hg (Array.getElem?_eq_getElem hi)).strip (fun O loc => .of_not (strip_not_os q))
      · cases h
  | _ => simp [evPure] at h
end ops

/-- The boxes of the store, and what is held. -/
structure Good (w : World) (Im : ImT) (O : OwT) (β : List Nat) (σ : Store) : Prop where
  len : β.length = σ.length
  box : ∀ (id b : Nat) (cells : List PV), β[id]? = some b → σ[id]? = some cells → O b = some (.box id) ∧
    ∃ (cs : Array Value) (e : TypeId), w.heap[b]? = some (.cells cs e (0, 0)) ∧ cells.length ≤ cs.size ∧
      ∀ (j : Nat) (p : PV) (v : Value), cells[j]? = some p → cs[j]? = some v → RepP w Im β p v ∧ OwnP w Im O (.cell id j) p v ∧ True
  im : ImIn w Im
  box' : ∀ b o, Im b o → ∀ id, O b ≠ some (.box id)
  lim : ∀ b, O b ≠ none → b < w.heap.size

structure Slots (w : World) (Im : ImT) (O : OwT) (β : List Nat) (slots : List PV) (tmps : Array Value) : Prop where
  len : slots.length = tmps.size
  rep : ∀ (i : Nat) (p : PV) (v : Value), slots[i]? = some p → tmps[i]? = some v → RepP w Im β p v ∧ OwnP w Im O (.slot i) p v

/-- What one may rely on of what was not one's own. -/
structure Fr (w : World) (Im : ImT) (O : OwT) (w' : World) (Im' : ImT) (O' : OwT) : Prop where
  env : SameEnv w w'
  size : w.heap.size ≤ w'.heap.size
  same : ∀ b, b < w.heap.size → O b = none → w'.heap[b]? = w.heap[b]?
  keep : Keep w Im w' Im'
  new : ∀ b o, Im' b o → Im b o ∨ O b ≠ none ∨ w.heap.size ≤ b
  own : ∀ b, b < w.heap.size → O b = none → O' b = none

theorem Fr.refl (w : World) (Im : ImT) (O : OwT) : Fr w Im O w Im O := ⟨.refl w, Nat.le_refl _, fun _ _ _ => rfl, .refl w Im, fun _ _ h => .inl h, fun _ _ h => h⟩

theorem Fr.trans {w w' w'' : World} {Im Im' Im'' : ImT} {O O' O'' : OwT} (h : Fr w Im O w' Im' O') (h' : Fr w' Im' O' w'' Im'' O'') : Fr w Im O w'' Im'' O'' where
  env := h.env.trans h'.env
  size := Nat.le_trans h.size h'.size
  same := fun b hb ho => (h'.same b (Nat.lt_of_lt_of_le hb h.size) (h.own b hb ho)).trans (h.same b hb ho)
  keep := h.keep.trans h'.keep
  new := fun b o hb => by
    rcases h'.new b o hb with hb | hb | hb
    · exact h.new b o hb
    · by_cases hs : b < w.heap.size
      · exact .inr (.inl fun ho => hb (h.own b hs ho))
      · exact .inr (.inr (by omega))
    · exact .inr (.inr (Nat.le_trans h.size hb))
  own := fun b hb ho => h'.own b (Nat.lt_of_lt_of_le hb h.size) (h.own b hb ho)

theorem OwnP.mono {w w' : World} {Im Im' : ImT} {O O' : OwT} {loc loc' : Loc} {p : PV} {v : Value} (h : OwnP w Im O loc p v)
    (hh : ∀ b, O b = some loc → O' b = some loc' ∧ w'.heap[b]? = w.heap[b]? ∧ ∀ o, Im' b o → Im b o) : OwnP w' Im' O' loc' p v := by
  intro rows hp
  rcases h rows hp with h | ⟨a, n, c, sz, cs, e, h1, h2, h3, h4, h5, h6, h7, h9⟩
  · exact .inl h
  · obtain ⟨g1, g2, g3⟩ := hh _ h3
    exact .inr ⟨a, n, c, sz, cs, e, h1, h2, g1, g2.trans h4, h5, h6, h7, fun o ho => h9 o (g3 o ho)⟩

/-- Slots and boxes in a world with new blocks, of which some are held. -/
theorem Good.newW {w w' : World} {Im Im' : ImT} {O : OwT} {β : List Nat} {σ : Store} (h : Good w Im O β σ) (hn : NewW w w') (hs : ∀ b o, Im b o → Im' b o)
    (hi : ∀ b o, Im' b o → Im b o ∨ (w.heap.size ≤ b ∧ ∃ u, w'.cell? ⟨b, o, none⟩ = some u)) : Good w' Im' O β σ ∧ Fr w Im O w' Im' O ∧
      (∀ slots tmps, Slots w Im O β slots tmps → Slots w' Im' O β slots tmps) := by
  have hk : Keep w Im w' Im' := fun b o hb => ⟨hs b o hb, cell_congr (hn.same b (h.im.lt hb))⟩
  have hown : ∀ (loc : Loc) (p : PV) (v : Value), OwnP w Im O loc p v → OwnP w' Im' O loc p v := fun loc p v ho =>
    ho.mono fun b hb => ⟨hb, hn.same b (h.lim b (by simp [hb])), fun o ho => by
      rcases hi b o ho with h1 | ⟨h1, _⟩
      · exact h1
      · exact absurd (h.lim b (by simp [hb])) (by omega)⟩
  refine ⟨⟨h.len, ?_, ?_, ?_, fun b hb => Nat.lt_of_lt_of_le (h.lim b hb) hn.size⟩, ⟨hn.env, hn.size, fun b hb _ => hn.same b hb, hk, fun b o hb => ?_, fun b hb ho => ho⟩, fun slots tmps hS => ⟨hS.len, fun i p v hp hv => ?_⟩⟩
  · intro id b cells hb hc
    obtain ⟨h1, cs, e, h2, h3, h4⟩ := h.box id b cells hb hc
    refine ⟨h1, cs, e, (hn.same b (h.lim b (by simp [h1]))).trans h2, h3, fun j p v hp hv => ?_⟩
    obtain ⟨g1, g2, g3⟩ := h4 j p v hp hv
    exact ⟨g1.keep hk (fun _ _ h => h), hown _ _ _ g2, g3⟩
  · intro b o hb
    rcases hi b o hb with h1 | ⟨_, h1⟩
    · obtain ⟨v, hv⟩ := h.im b o h1
      exact ⟨v, ((hk b o h1).2).trans hv⟩
    · exact h1
  · intro b o hb id ho
    rcases hi b o hb with h1 | ⟨h1, _⟩
    · exact h.box' b o h1 id ho
    · exact absurd (h.lim b (by simp [ho])) (by omega)
  · rcases hi b o hb with h1 | ⟨h1, _⟩
    · exact .inl h1
    · exact .inr (.inr h1)
  · obtain ⟨g1, g2⟩ := hS.rep i p v hp hv
    exact ⟨g1.keep hk (fun _ _ h => h), hown _ _ _ g2⟩

end Go.Pv

set_option linter.unusedVariables false
set_option linter.unusedSimpArgs false
namespace Go.Pv
open Go

def Ext (β β' : List Nat) : Prop := ∀ id b : Nat, β[id]? = some b → β'[id]? = some b
theorem Ext.refl (β : List Nat) : Ext β β := fun _ _ h => h
theorem Ext.trans {β β' β'' : List Nat} (h : Ext β β') (h' : Ext β' β'') : Ext β β'' := fun id b hb => h' id b (h id b hb)

structure Inv (w : World) (Im : ImT) (O : OwT) (β : List Nat) (st : St) (a : Act) : Prop where
  good : Good w Im O β st.store
  slots : Slots w Im O β st.slots a.tmps

theorem Slots.get {w : World} {Im : ImT} {O : OwT} {β : List Nat} {slots : List PV} {tmps : Array Value} (h : Slots w Im O β slots tmps) (t : Nat) :
    RepP w Im β (rd slots t) (tmps.getD t undef) ∧ OwnP w Im O (.slot t) (rd slots t) (tmps.getD t undef) := by
  by_cases ht : t < slots.length
  · have ht' : t < tmps.size := by have := h.len; omega
    have := h.rep t slots[t] tmps[t] (List.getElem?_eq_getElem ht) (Array.getElem?_eq_getElem ht')
    simpa [rd, List.getD, ht, Array.getD, ht'] using this
  · have ht' : ¬ t < tmps.size := by have := h.len; omega
    have h1 : rd slots t = .undef := by simp [rd, List.getD, ht]
    have h2 : tmps.getD t undef = undef := by simp [Array.getD, ht']
    rw [h1, h2]
    exact ⟨.undef, .of_not (by simp)⟩

theorem Inv.reps {w : World} {Im : ImT} {O : OwT} {β : List Nat} {st : St} {a : Act} (h : Inv w Im O β st a) : Reps w Im β (rd st.slots) a :=
  fun t => (h.slots.get t).1

/-- After the operation all is as the evaluator says. -/
def OpOk (P : Program) (w : World) (Im : ImT) (O : OwT) (β : List Nat) (a : Act) (o : Oper) (st' : St) : Prop :=
  ∀ (K : Act → World → Prop) (Q : Exit → Act → World → Prop),
    (∀ w' Im' O' β' a', Fr w Im O w' Im' O' → Ext β β' → Inv w' Im' O' β' st' a' → a'.defers = a.defers → K a' w') → o.wp P a w K Q

theorem alloc_new (w : World) (o : Obj) : (w.alloc o).heap[w.heap.size]? = some o := by
  show (w.heap.push o)[w.heap.size]? = _
  simp

theorem put_defers (a : Act) (dst : Option Tmp) (v : Value) : (a.put dst v).defers = a.defers := by cases dst <;> rfl

theorem OpOk.value {P : Program} {w w' : World} {Im Im' : ImT} {O O' : OwT} {β β' : List Nat} {a : Act} {o : Oper} {st' : St} {v : Value}
    (hrun : (execOp a.eval o).run P w = .ok (.value v) w') (hf : Fr w Im O w' Im' O') (he : Ext β β') (hi : Inv w' Im' O' β' st' (a.put o.dst v)) : OpOk P w Im O β a o st' := by
  intro K Q hK
  unfold Oper.wp
  rw [hrun]
  exact hK w' Im' O' β' _ hf he hi (put_defers a o.dst v)

theorem OpOk.skip {P : Program} {w w' : World} {Im Im' : ImT} {O O' : OwT} {β β' : List Nat} {a : Act} {o : Oper} {st' : St}
    (hrun : (execOp a.eval o).run P w = .ok .skip w') (hf : Fr w Im O w' Im' O') (he : Ext β β') (hi : Inv w' Im' O' β' st' (a.put o.dst undef)) : OpOk P w Im O β a o st' := by
  intro K Q hK
  unfold Oper.wp
  rw [hrun]
  exact hK w' Im' O' β' _ hf he hi (put_defers a o.dst undef)

theorem Slots.put {w : World} {Im : ImT} {O : OwT} {β : List Nat} {slots : List PV} {a : Act} {r : PV} {v : Value} {dst : Option Tmp} (hs : Slots w Im O β slots a.tmps)
    (hr : RepP w Im β r v) (ho : ∀ d, dst = some d → OwnP w Im O (.slot d) r v) : Slots w Im O β (putS slots dst r) (a.put dst v).tmps := by
  cases dst with
  | none => exact hs
  | some d =>
    refine ⟨by simp [putS, Act.put, hs.len], fun i p u hp hu => ?_⟩
    simp only [putS] at hp
    simp only [Act.put] at hu
    rw [List.getElem?_set] at hp
    rw [Array.getElem?_setIfInBounds] at hu
    split at hp
    · rename_i hdi
      subst hdi
      simp only [if_true] at hu
      split at hp
      · split at hu
        · cases hp; cases hu
          exact ⟨hr, ho d rfl⟩
        · cases hu
      · cases hp
    · rename_i hdi
      rw [if_neg hdi] at hu
      exact hs.rep i p u hp hu

def retag (O : OwT) (l l' : Loc) : OwT := fun b => if O b = some l then some l' else O b

theorem retag_none {O : OwT} {l l' : Loc} {b : Nat} : retag O l l' b = none ↔ O b = none := by
  unfold retag
  split
  · rename_i h; simp [h]
  · rfl

theorem Fr.retag (w : World) (Im : ImT) (O : OwT) (l l' : Loc) : Fr w Im O w Im (retag O l l') :=
  ⟨.refl w, Nat.le_refl _, fun _ _ _ => rfl, .refl w Im, fun _ _ h => .inl h, fun b _ h => retag_none.2 h⟩

theorem OwnP.retag {w : World} {Im : ImT} {O : OwT} {l l' loc : Loc} {p : PV} {v : Value} (h : OwnP w Im O loc p v) (hne : loc ≠ l) : OwnP w Im (retag O l l') loc p v :=
  h.mono fun b hb => ⟨by unfold Pv.retag; rw [if_neg (by rw [hb]; simpa using hne)]; exact hb, rfl, fun _ h => h⟩

theorem OwnP.moved {w : World} {Im : ImT} {O : OwT} {l l' : Loc} {p : PV} {v : Value} (h : OwnP w Im O l p v) : OwnP w Im (Pv.retag O l l') l' p v :=
  h.mono fun b hb => ⟨by unfold Pv.retag; rw [if_pos hb], rfl, fun _ h => h⟩

theorem Good.retag {w : World} {Im : ImT} {O : OwT} {β : List Nat} {σ : Store} (h : Good w Im O β σ) (s : Nat) {l' : Loc} (hl' : ∀ id, l' ≠ .box id) :
    Good w Im (Pv.retag O (.slot s) l') β σ where
  len := h.len
  box := fun id b cells hb hc => by
    obtain ⟨h1, cs, e, h2, h3, h4⟩ := h.box id b cells hb hc
    refine ⟨by unfold Pv.retag; rw [if_neg (by rw [h1]; simp)]; exact h1, cs, e, h2, h3, fun j p v hp hv => ?_⟩
    obtain ⟨g1, g2, g3⟩ := h4 j p v hp hv
    exact ⟨g1, g2.retag (by simp), g3⟩
  im := h.im
  box' := fun b o hb id ho => by
    unfold Pv.retag at ho
    split at ho
    · simp at ho; exact hl' id ho
    · exact h.box' b o hb id ho
  lim := fun b hb => h.lim b (fun hn => hb (retag_none.2 hn))

theorem Slots.untake {w : World} {Im : ImT} {O : OwT} {β : List Nat} {slots : List PV} {tmps : Array Value} (h : Slots w Im O β slots tmps) (s : Nat) (l' : Loc) :
    Slots w Im (Pv.retag O (.slot s) l') β (Pv.untake slots (some s)) tmps := by
  refine ⟨by simp [Pv.untake, h.len], fun i p u hp hu => ?_⟩
  simp only [Pv.untake] at hp
  rw [List.getElem?_set] at hp
  split at hp
  · rename_i hsi
    subst hsi
    split at hp
    · rename_i hlt
      cases hp
      have := (h.get s).1
      have hts : tmps.getD s undef = u := by
        rw [Array.getD_eq_getD_getElem?, hu]; rfl
      rw [hts] at this
      exact ⟨this.strip, .of_not (strip_not_os _)⟩
    · cases hp
  · rename_i hsi
    obtain ⟨g1, g2⟩ := h.rep i p u hp hu
    exact ⟨g1, g2.retag (by intro he; cases he; exact hsi rfl)⟩

section step
variable {P : Program} {w : World} {Im : ImT} {O : OwT} {β : List Nat} {st : St} {a : Act}

/-- A slot is read, its spare room with it or not. -/
theorem moveIt_ok (hI : Inv w Im O β st a) {o : Oper} {x : Operand} {take : Bool} {g : Gives} (hx : (execOp a.eval o).run P w = .ok (.value (a.eval x)) w)
    (h : moveIt (rd st.slots) take st.store x = some g) : OpOk P w Im O β a o { slots := putS (untake st.slots g.2.1) o.dst g.1, store := g.2.2 } := by
  have hplain : ∀ {p : PV}, RepP w Im β p (a.eval x) → (∀ rows, p ≠ .os rows) → OpOk P w Im O β a o { slots := putS (untake st.slots none) o.dst p, store := st.store } :=
    fun {p} hp hn => .value hx (.refl w Im O) (.refl β) ⟨hI.good, hI.slots.put hp (fun d _ => .of_not hn)⟩
  cases x with
  | tmp s =>
    simp only [moveIt] at h
    cases take with
    | false =>
      simp at h
      subst h
      exact hplain (hI.slots.get s).1.strip (strip_not_os _)
    | true =>
      simp at h
      subst h
      cases hd : o.dst with
      | none =>
        refine .value (Im' := Im) (O' := retag O (.slot s) (.slot 0)) (β' := β) hx (.retag _ _ _ _ _) (.refl β) ⟨hI.good.retag s (by simp), ?_⟩
        rw [hd]
        exact hI.slots.untake s _
      | some d =>
        refine .value (Im' := Im) (O' := retag O (.slot s) (.slot d)) (β' := β) hx (.retag _ _ _ _ _) (.refl β) ⟨hI.good.retag s (by simp), ?_⟩
        rw [hd]
        show Slots w Im _ β (putS (untake st.slots (some s)) (some d) (rd st.slots s)) (a.put (some d) (a.eval (.tmp s))).tmps
        refine (hI.slots.untake s _).put (hI.slots.get s).1 (fun d' hd' => ?_)
        cases hd'
        exact (hI.slots.get s).2.moved
  | const c =>
    simp only [moveIt, opv] at h
    cases hv : ofValue c with
    | none => simp [hv] at h
    | some p =>
      simp [hv] at h
      subst h
      obtain ⟨r1, r2⟩ := ofValue_rep (w := w) (Im := Im) (β := β) hv
      exact hplain r1 r2
  | func f =>
    simp only [moveIt, opv, Option.map_some, Option.some.injEq] at h
    subst h
    exact hplain (opv_rep (ρ := rd st.slots) hI.reps (x := .func f) rfl) (by simp)
  | global c => simp [moveIt, opv] at h

/-- A pure operation. -/
theorem pure_step (hI : Inv w Im O β st a) {o : Oper} {r : PV} (h : evPure P (rd st.slots) o.op = some r) :
    OpOk P w Im O β a o { slots := putS (untake st.slots none) o.dst r, store := st.store } := by
  obtain ⟨v, w', Im', h1, h2, h3, h4, h5, h6⟩ := evPure_ok (P := P) hI.reps hI.good.im h
  obtain ⟨g1, g2, g3⟩ := hI.good.newW h2 h3 h4
  exact .value h1 g2 (.refl β) ⟨g1, (g3 _ _ hI.slots).put h5 (fun d _ => h6 O _)⟩

/-- A new box. -/
theorem newBox_gen (hI : Inv w Im O β st a) {o : Oper} {cells : List PV} {cs0 : Array Value} {t : TypeId} {r : PV} {u : Value}
    (hrun : (execOp a.eval o).run P w = .ok (.value u) (w.alloc (.cells cs0 t)))
    (hr : RepP (w.alloc (.cells cs0 t)) Im (β ++ [w.heap.size]) r u) (hro : ∀ rows, r ≠ .os rows)
    (hc : RepCells w Im β cells cs0) (hno : ∀ p ∈ cells, ∀ rows, p ≠ .os rows) :
    OpOk P w Im O β a o { slots := putS (untake st.slots none) o.dst r, store := st.store ++ [cells] } := by
  have hno' : ¬ (O w.heap.size ≠ none) := fun h => Nat.lt_irrefl _ (hI.good.lim _ h)
  have hOn : O w.heap.size = none := by simpa using hno'
  obtain ⟨g1, g2, g3⟩ := hI.good.newW (NewW.alloc w (.cells cs0 t)) (fun _ _ h => h) (fun _ _ h => .inl h)
  have hExt : Ext β (β ++ [w.heap.size]) := fun id b h => by rw [List.getElem?_append_left (List.getElem?_eq_some_iff.1 h).1]; exact h
  have hO' : ∀ (b : Nat) (l : Loc), O b = some l → (fun b => if b = w.heap.size then some (Loc.box st.store.length) else O b) b = some l := by
    intro b l hl
    show (if b = w.heap.size then some (Loc.box st.store.length) else O b) = some l
    rw [if_neg (fun h => by subst h; rw [hOn] at hl; cases hl)]
    exact hl
  refine .value (Im' := Im) (O' := fun b => if b = w.heap.size then some (.box st.store.length) else O b) (β' := β ++ [w.heap.size]) hrun ?_ hExt ⟨⟨by simp [g1.len], ?_, g1.im, ?_, ?_⟩, ?_⟩
  · refine ⟨g2.env, g2.size, fun b hb ho => g2.same b hb ho, g2.keep, fun b o hb => g2.new b o hb, fun b hb ho => ?_⟩
    rw [if_neg (by omega)]
    exact ho
  · intro id b cs' hb hc'
    by_cases hid : id < st.store.length
    · rw [List.getElem?_append_left (by have := g1.len; omega)] at hb
      rw [List.getElem?_append_left hid] at hc'
      obtain ⟨h1, cs, e, h2, h3, h4⟩ := g1.box id b cs' hb hc'
      refine ⟨hO' _ _ h1, cs, e, h2, h3, fun j p v hp hv => ?_⟩
      obtain ⟨k1, k2, k3⟩ := h4 j p v hp hv
      exact ⟨k1.keep (.refl _ _) hExt, k2.mono fun b hb => ⟨hO' _ _ hb, rfl, fun _ h => h⟩, k3⟩
    · have hl := g1.len
      have hid' : id = st.store.length := by
        have := (List.getElem?_eq_some_iff.1 hc').1
        simp at this
        omega
      subst hid'
      rw [← hl, List.getElem?_concat_length] at hb
      rw [List.getElem?_concat_length] at hc'
      cases hb; cases hc'
      refine ⟨by simp, cs0, t, alloc_new w _, Nat.le_of_eq hc.1, fun j p u hp hu => ⟨((hc.2 j p u hp hu).keep g2.keep hExt), .of_not (hno p (List.mem_of_getElem? hp)), trivial⟩⟩
  · intro b o hb' id ho
    split at ho
    · rename_i he
      subst he
      exact absurd (hI.good.im.lt hb') (Nat.lt_irrefl _)
    · exact hI.good.box' b o hb' id ho
  · intro b hb'
    split at hb'
    · rename_i he; subst he; simp
    · have := hI.good.lim b hb'; simp; omega
  · have hs := g3 _ _ hI.slots
    refine Slots.put ⟨hs.len, fun i p u hp hu => ?_⟩ hr (fun d _ => .of_not hro)
    obtain ⟨k1, k2⟩ := hs.rep i p u hp hu
    exact ⟨k1.keep (.refl _ _) hExt, k2.mono fun b hb => ⟨hO' _ _ hb, rfl, fun _ h => h⟩⟩

theorem newBox_ok (hI : Inv w Im O β st a) {o : Oper} {cells : List PV} {v : Value} {t : TypeId}
    (hrun : (execOp a.eval o).run P w = .ok (.value (.pointer (some ⟨w.heap.size, 0, none⟩))) (w.alloc (.cells v.cells t)))
    (hc : RepCells w Im β cells v.cells) (hno : ∀ p ∈ cells, ∀ rows, p ≠ .os rows) :
    OpOk P w Im O β a o { slots := putS (untake st.slots none) o.dst (.ptr st.store.length 0), store := st.store ++ [cells] } :=
  newBox_gen hI hrun (.ptr _ 0 w.heap.size (by rw [← hI.good.len, List.getElem?_concat_length])) (by simp) hc hno

end step
end Go.Pv

set_option linter.unusedVariables false
set_option linter.unusedSimpArgs false
namespace Go.Pv
open Go

section step
variable {P : Program} {w : World} {Im : ImT} {O : OwT} {β : List Nat} {st : St} {a : Act}

/-- A box's cells change. -/
theorem Good.update {σ : Store} {w' : World} {O' : OwT} {id b : Nat} {cells cells' : List PV} {cs' : Array Value} {e : TypeId} (hg : Good w Im O β σ) (hb : β[id]? = some b)
    (hc : σ[id]? = some cells) (hsz : w'.heap.size = w.heap.size) (hsame : ∀ k, k ≠ b → w'.heap[k]? = w.heap[k]?) (hnew : w'.heap[b]? = some (.cells cs' e (0, 0)))
    (hlen : cells'.length ≤ cs'.size) (h1 : ∀ k id', O k = some (.box id') → O' k = some (.box id')) (h2 : ∀ k id' j, O k = some (.cell id' j) → id' ≠ id → O' k = some (.cell id' j))
    (h3 : ∀ k id', O' k = some (.box id') → O k = some (.box id')) (h4 : ∀ k, O' k ≠ none → O k ≠ none)
    (hcells : Keep w Im w' Im → ∀ (j : Nat) (p : PV) (v : Value), cells'[j]? = some p → cs'[j]? = some v → RepP w' Im β p v ∧ OwnP w' Im O' (.cell id j) p v ∧ True) :
    Good w' Im O' β (σ.set id cells') ∧ Keep w Im w' Im := by
  have hOb : O b = some (.box id) := (hg.box id b cells hb hc).1
  have hk : Keep w Im w' Im := fun b' o hb' => ⟨hb', cell_congr (hsame b' (fun he => hg.box' b' o hb' id (he ▸ hOb)))⟩
  refine ⟨⟨by simp [hg.len], ?_, ?_, ?_, ?_⟩, hk⟩
  · intro id' b' cs0 hb' hc'
    rw [List.getElem?_set] at hc'
    split at hc'
    · rename_i hid
      subst hid
      split at hc'
      · cases hc'
        rw [hb] at hb'
        cases hb'
        exact ⟨h1 _ _ hOb, cs', e, hnew, hlen, hcells hk⟩
      · cases hc'
    · rename_i hid
      obtain ⟨g1, cs, e', g2, g3, g4⟩ := hg.box id' b' cs0 hb' hc'
      have hne : b' ≠ b := fun he => by rw [he, hOb] at g1; cases g1; exact hid rfl
      refine ⟨h1 _ _ g1, cs, e', (hsame b' hne).trans g2, g3, fun j p v hp hv => ?_⟩
      obtain ⟨k1, k2, k3⟩ := g4 j p v hp hv
      exact ⟨k1.keep hk (fun _ _ h => h), k2.mono fun k hk' => ⟨h2 _ _ _ hk' (fun he => hid he.symm), hsame k (fun he => by rw [he, hOb] at hk'; cases hk'), fun _ h => h⟩, k3⟩
  · intro b' o hb'
    obtain ⟨v, hv⟩ := hg.im b' o hb'
    exact ⟨v, (hk b' o hb').2.trans hv⟩
  · intro b' o hb' id' ho
    exact hg.box' b' o hb' id' (h3 _ _ ho)
  · intro b' hb'
    rw [hsz]
    exact hg.lim b' (h4 b' hb')

theorem loadCells_run {x : Addr} (hs : x.spot = none) (n : Nat) (f : Nat → Value) (h : ∀ j, j < n → w.cell? ⟨x.block, x.off + j, none⟩ = some (f j)) :
    (loadCells x n).run P w = .ok ((List.range n).map f).toArray w :=
  run_loadCells w x n f (fun j hj => by rw [Addr.add_none hs]; exact h j hj)

theorem Good.cell {σ : Store} (hg : Good w Im O β σ) {id b : Nat} {cells : List PV} (hb : β[id]? = some b) (hc : σ[id]? = some cells) {j : Nat} {p : PV} (hp : cells[j]? = some p) :
    ∃ v, w.cell? ⟨b, j, none⟩ = some v ∧ RepP w Im β p v ∧ OwnP w Im O (.cell id j) p v ∧ True := by
  obtain ⟨g1, cs, e, g2, g3, g4⟩ := hg.box id b cells hb hc
  have hj : j < cs.size := Nat.lt_of_lt_of_le (List.getElem?_eq_some_iff.1 hp).1 g3
  exact ⟨cs[j], by simp [World.cell?, g2, hj], g4 j p _ hp (Array.getElem?_eq_getElem hj)⟩

theorem loadS_get {σ : Store} {id off n : Nat} {ps : List PV} (h : loadS σ id off n = some ps) : ∃ cells, σ[id]? = some cells ∧ off + n ≤ cells.length ∧ ps = (cells.drop off).take n := by
  unfold loadS at h
  cases hc : σ[id]? with
  | none => simp [hc] at h
  | some cells =>
    simp only [hc, Option.bind_some] at h
    split at h
    · rename_i hl; cases h; exact ⟨cells, rfl, hl, rfl⟩
    · cases h

/-- What a load gives, without taking. -/
theorem load_run (hg : Good w Im O β st.store) {t : TypeId} {p r : PV} {σ' : Store} {v : Value} (hp : RepP w Im β p v) (h : loadAs P t st.store false p = some (r, σ')) :
    σ' = st.store ∧ ∃ u, (Instr.loadAt t v).run P w = .ok u w ∧ RepP w Im β r u ∧ ∀ rows, r ≠ .os rows := by
  unfold loadAs at h
  cases ha : aggT P t with
  | none => simp [ha] at h
  | some ag =>
    simp only [ha, Option.bind_some] at h
    have har := aggT_run ha w
    split at h
    · rename_i id off
      cases hp with
      | ptr _ _ b hb =>
        cases ag with
        | true =>
          simp only [if_true] at h
          cases hs : szT P t with
          | none => simp [hs] at h
          | some sz =>
            simp only [hs, Option.bind_some] at h
            cases hl : loadS st.store id off sz with
            | none => simp [hl] at h
            | some ps =>
              simp [hl] at h
              obtain ⟨rfl, rfl⟩ := h
              obtain ⟨cells, hc, hlen, rfl⟩ := loadS_get hl
              have hcell : ∀ j, j < sz → ∃ q, cells[off + j]? = some q ∧ w.cell? ⟨b, off + j, none⟩ = some ((w.cell? ⟨b, off + j, none⟩).getD default) ∧ RepP w Im β q ((w.cell? ⟨b, off + j, none⟩).getD default) := by
                intro j hj
                have hlt : off + j < cells.length := by omega
                obtain ⟨v, h1, h2, _⟩ := hg.cell hb hc (List.getElem?_eq_getElem hlt)
                exact ⟨_, List.getElem?_eq_getElem hlt, by simp [h1], by simpa [h1] using h2⟩
              have hrun := loadCells_run (P := P) (w := w) (x := ⟨b, off, none⟩) rfl sz (fun j => (w.cell? ⟨b, off + j, none⟩).getD default) (fun j hj => by obtain ⟨q, _, h2, _⟩ := hcell j hj; exact h2)
              refine ⟨rfl, .agg ((List.range sz).map fun j => (w.cell? ⟨b, off + j, none⟩).getD default).toArray, by simp [Instr.loadAt, Instr.sureAddr, loadVar, har, szT_run hs, hrun], .agg _ _ (by simp; omega) (fun i q u hq hu => ?_), by simp⟩
              rw [List.map_take, List.map_drop, List.getElem?_take] at hq
              split at hq
              · rename_i hi
                rw [List.getElem?_drop, List.getElem?_map] at hq
                obtain ⟨q', g1, _, g3⟩ := hcell i hi
                rw [g1] at hq
                simp at hq
                subst hq
                simp [hi] at hu
                subst hu
                exact g3.strip1
              · cases hq
        | false =>
          simp only [Bool.false_eq_true, if_false] at h
          cases hl : loadS st.store id off 1 with
          | none => simp [hl] at h
          | some ps =>
            simp only [hl, Option.bind_some] at h
            split at h
            · rename_i c
              cases h
              obtain ⟨cells, hc, hlen, hps⟩ := loadS_get hl
              have hcc : cells[off]? = some c := by
                have : ([c] : List PV)[0]? = ((cells.drop off).take 1)[0]? := by rw [← hps]
                rw [List.getElem?_take] at this
                simpa using this.symm
              obtain ⟨v, h1, h2, _⟩ := hg.cell hb hc hcc
              exact ⟨rfl, v, by simp [Instr.loadAt, Instr.sureAddr, loadVar, har, h1], h2.strip, strip_not_os c⟩
            · cases h
    · rename_i cells
      cases hp with
      | ro _ x cv hsp hcell him hrep =>
        cases ag with
        | true =>
          simp only [if_true] at h
          cases hs : szT P t with
          | none => simp [hs] at h
          | some sz =>
            simp only [hs, Option.bind_some] at h
            split at h
            · rename_i hl
              cases h
              have hrun := loadCells_run (P := P) (w := w) hsp sz cv (fun j hj => hcell j (by omega))
              refine ⟨rfl, .agg ((List.range sz).map cv).toArray, by simp [Instr.loadAt, Instr.sureAddr, loadVar, har, szT_run hs, hrun], .agg _ _ (by simp; omega) (fun i q u hq hu => ?_), by simp⟩
              rw [List.getElem?_map, List.getElem?_take] at hq
              split at hq
              · rename_i hi
                cases hx : cells[i]? with
                | none => simp [hx] at hq
                | some y =>
                  simp [hx] at hq
                  subst hq
                  simp [hi] at hu
                  subst hu
                  exact .d (hrep i y hx)
              · simp at hq
            · cases h
        | false =>
          simp at h
          obtain ⟨c, hc, rfl, rfl⟩ := h
          have hlt : 0 < cells.length := (List.getElem?_eq_some_iff.1 hc).1
          have h0 := hcell 0 hlt
          simp only [Nat.add_zero] at h0
          have hx : (⟨x.block, x.off, none⟩ : Addr) = x := by cases x; simp_all
          rw [hx] at h0
          exact ⟨rfl, cv 0, by simp [Instr.loadAt, Instr.sureAddr, loadVar, har, h0], .d (hrep 0 c hc), by simp⟩
    · cases h

theorem load_step (hI : Inv w Im O β st a) {o : Oper} {t : TypeId} {x : Operand} {p : PV} {g : PV × Store} (ho : o.op = .load t x) (hx : use (rd st.slots) x = some p) {take : Bool}
    (htake : take = true → ∃ d, o.dst = some d) (h : loadAs P t st.store take p = some g) : OpOk P w Im O β a o { slots := putS (untake st.slots none) o.dst g.1, store := g.2 } := by
  have hp := use_rep hI.reps hx
  cases take with
  | false =>
    obtain ⟨r, σ'⟩ := g
    obtain ⟨rfl, u, h1, h2, h3⟩ := load_run (P := P) hI.good hp h
    exact .value (Im' := Im) (O' := O) (β' := β) (by simp only [execOp, ho, Sem.run_bind, h1, Result.andThen_ok]; rfl) (.refl _ _ _) (.refl β) ⟨hI.good, hI.slots.put h2 (fun d _ => .of_not h3)⟩
  | true =>
    obtain ⟨d, hd⟩ := htake rfl
    unfold loadAs at h
    cases ha : aggT P t with
    | none => simp [ha] at h
    | some ag =>
      simp only [ha, Option.bind_some] at h
      have har := aggT_run ha w
      split at h
      · rename_i id off
        cases ag with
        | true =>
          have h' : loadAs P t st.store false (.ptr id off) = some g := by
            unfold loadAs
            simp only [ha, Option.bind_some]
            exact h
          obtain ⟨r, σ'⟩ := g
          obtain ⟨rfl, u, h1, h2, h3⟩ := load_run (P := P) hI.good hp h'
          exact .value (Im' := Im) (O' := O) (β' := β) (by simp only [execOp, ho, Sem.run_bind, h1, Result.andThen_ok]; rfl) (.refl _ _ _) (.refl β) ⟨hI.good, hI.slots.put h2 (fun d _ => .of_not h3)⟩
        | false =>
          simp only [Bool.false_eq_true, if_false] at h
          cases hl : loadS st.store id off 1 with
          | none => simp [hl] at h
          | some ps =>
            simp only [hl, Option.bind_some] at h
            split at h
            · rename_i c
              simp only [if_true] at h
              cases hst : storeS st.store id off [c.strip1] with
              | none => simp [hst] at h
              | some σ' =>
                simp [hst] at h
                subst h
                obtain ⟨cells, hc, hlen, hps⟩ := loadS_get hl
                have hcc : cells[off]? = some c := by
                  have : ([c] : List PV)[0]? = ((cells.drop off).take 1)[0]? := by rw [← hps]
                  rw [List.getElem?_take] at this
                  simpa using this.symm
                generalize hv : a.eval x = v at hp
                cases hp with
                | ptr _ _ b hb =>
                  obtain ⟨u, h1, h2, h3, h4⟩ := hI.good.cell hb hc hcc
                  obtain ⟨g1, cs, e, g2, g3, g4⟩ := hI.good.box id b cells hb hc
                  have hσ : σ' = st.store.set id (cells.set off c.strip1) := by
                    unfold storeS at hst
                    simp only [hc, Option.bind_some] at hst
                    split at hst
                    · rename_i hle
                      cases hst
                      congr 1
                      apply List.ext_getElem?
                      intro j
                      simp only [List.length_cons, List.length_nil] at hle
                      rw [List.getElem?_set]
                      by_cases hj : off = j
                      · subst hj
                        rw [if_pos rfl, List.append_assoc, List.getElem?_append_right (by simp; omega)]
                        simp
                        rw [show off - min off cells.length = 0 by omega, if_pos (by omega)]
                        simp
                      · rw [if_neg hj, List.append_assoc]
                        by_cases hj2 : j < off
                        · rw [List.getElem?_append_left (by simp; omega), List.getElem?_take, if_pos hj2]
                        · rw [List.getElem?_append_right (by simp; omega), List.getElem?_append_right (by simp; omega), List.getElem?_drop]
                          congr 1
                          simp
                          omega
                    · cases hst
                  have hup := Good.update (w' := w) (O' := retag O (.cell id off) (.slot d)) (cells' := cells.set off c.strip1) (cs' := cs) (e := e) hI.good hb hc rfl (fun _ _ => rfl) g2 (by simp [g3])
                    (fun k id' hk => by unfold retag; rw [if_neg (by rw [hk]; simp)]; exact hk)
                    (fun k id' j hk hne => by unfold retag; rw [if_neg (by rw [hk]; simp; intro he; exact absurd he hne)]; exact hk)
                    (fun k id' hk => by unfold retag at hk; split at hk <;> first | (simp at hk; done) | exact hk)
                    (fun k hk => fun hn => hk (retag_none.2 hn))
                    (fun _ j q u' hq hu' => by
                      rw [List.getElem?_set] at hq
                      split at hq
                      · rename_i hj
                        subst hj
                        split at hq
                        · cases hq
                          obtain ⟨k1, k2, k3⟩ := g4 off c u' hcc hu'
                          refine ⟨k1.strip1, .of_not (fun rows => by cases c <;> simp [PV.strip1]), ?_⟩
                          exact trivial
                        · cases hq
                      · rename_i hj
                        obtain ⟨k1, k2, k3⟩ := g4 j q u' hq hu'
                        exact ⟨k1, k2.retag (by simp; intro he; exact hj he.symm), k3⟩)
                  rw [hσ]
                  refine .value (v := u) (Im' := Im) (O' := retag O (.cell id off) (.slot d)) (β' := β) (by simp [execOp, ho, hv, Instr.loadAt, Instr.sureAddr, loadVar, har, h1]) (.retag _ _ _ _ _) (.refl β) ⟨hup.1, ?_⟩
                  have hs : Slots w Im (retag O (.cell id off) (.slot d)) β st.slots a.tmps := ⟨hI.slots.len, fun i p u hp hu => by
                    obtain ⟨k1, k2⟩ := hI.slots.rep i p u hp hu
                    exact ⟨k1, k2.retag (by simp)⟩⟩
                  rw [hd]
                  show Slots w Im _ β (putS st.slots (some d) c) (a.put (some d) u).tmps
                  exact hs.put h2 (fun d' hd' => by cases hd'; exact h3.moved)
            · cases h
      · rename_i cells
        have h' : loadAs P t st.store false (.ro cells) = some g := by
          unfold loadAs
          simp only [ha, Option.bind_some]
          exact h
        obtain ⟨r, σ'⟩ := g
        obtain ⟨rfl, u, h1, h2, h3⟩ := load_run (P := P) hI.good hp h'
        exact .value (Im' := Im) (O' := O) (β' := β) (by simp only [execOp, ho, Sem.run_bind, h1, Result.andThen_ok]; rfl) (.refl _ _ _) (.refl β) ⟨hI.good, hI.slots.put h2 (fun d _ => .of_not h3)⟩
      · cases h

end step
end Go.Pv

set_option linter.unusedVariables false
set_option linter.unusedSimpArgs false
namespace Go.Pv
open Go

section step
variable {P : Program} {w : World} {Im : ImT} {O : OwT} {β : List Nat} {st : St} {a : Act}

theorem RepD.oneCell {x : DV} {v : Value} (h : RepD w Im x v) : v.oneCell' = true := by cases h <;> rfl

theorem oneP_cell {p : PV} {v : Value} (h : RepP w Im β p v) (ho : oneP p = true) : v.oneCell' = true := by
  cases h <;> simp [oneP] at ho <;> first | rfl | (rename_i h; exact h.oneCell)

theorem below_keep0 {n : Nat} {p : PV} (h : p.Below n) : p.keep0.Below n := by cases p <;> first | exact .d _ | exact h

theorem store_step (hI : Inv w Im O β st a) {o : Oper} {t : TypeId} {ax x : Operand} {p v : PV} {σ' : Store} (ho : o.op = .store t ax x) (hax : use (rd st.slots) ax = some p)
    (hx : opv (rd st.slots) x = some v) {lo : Bool} (h : storeAs P lo t st.store p v = some σ') : OpOk P w Im O β a o { slots := putS (untake st.slots (slotOf x)) o.dst .undef, store := σ' } := by
  have hp := use_rep hI.reps hax
  have hv := opv_rep hI.reps hx
  unfold storeAs at h
  split at h
  · rename_i id off
    generalize hcs : storedCells v = cs at h
    split at h
    · rename_i hcond
      obtain ⟨hsz, hbel, hone⟩ := hcond
      unfold storeS at h
      cases hc : st.store[id]? with
      | none => simp [hc] at h
      | some cells =>
        simp only [hc, Option.bind_some] at h
        split at h
        · rename_i hfit
          cases h
          generalize hpv : a.eval ax = pv at hp
          cases hp with
          | ptr _ _ b hb =>
            obtain ⟨g1, cs0, e, g2, g3, g4⟩ := hI.good.box id b cells hb hc
            -- the value's cells
            have hrep : RepCells w Im β cs (a.eval x).cells ∧ (∀ q ∈ cs, ∀ rows, q = .os rows → ∃ rows, v = .os rows) := by
              have hcr := cellsOf_rep hv
              cases v with
              | agg l =>
                simp only [storedCells] at hcs
                subst hcs
                refine ⟨⟨by simpa [cellsOf] using hcr.1, fun i q u hq hu => ?_⟩, ?_⟩
                · rw [List.getElem?_map] at hq
                  cases hl : l[i]? with
                  | none => simp [hl] at hq
                  | some q' => simp [hl] at hq; subst hq; exact (hcr.2 i q' u hl hu).keep0
                · intro q hq rows hr
                  obtain ⟨q', _, rfl⟩ := List.mem_map.1 hq
                  cases q' <;> simp [PV.keep0] at hr
              | _ =>
                simp only [storedCells] at hcs
                subst hcs
                refine ⟨hcr, ?_⟩
                intro q hq rows hr
                simp at hq
                subst hq
                exact ⟨rows, hr⟩
            obtain ⟨hrc, hos⟩ := hrep
            have hlen : (a.eval x).cells.toList.length = cs.length := by simp [hrc.1]
            have hones : ∀ u ∈ (a.eval x).cells.toList, u.oneCell' = true := by
              intro u hu
              obtain ⟨i, hi⟩ := List.mem_iff_getElem?.1 hu
              have hil : i < cs.length := by rw [← hlen]; exact (List.getElem?_eq_some_iff.1 hi).1
              exact oneP_cell (hrc.2 i _ u (List.getElem?_eq_getElem hil) (by simpa using hi)) (List.all_eq_true.1 hone _ (List.getElem_mem hil))
            have hrun := run_storeCells_at P b off e (a.eval x).cells.toList 0 cs0 w g2 (by rw [hlen]; omega) hones
            simp only [Nat.add_zero] at hrun
            have hall : (Instr.storeAt t (a.eval ax) (a.eval x)).run P w = .ok () (w.setRow b (cs0.toList.take off ++ (a.eval x).cells.toList ++ cs0.toList.drop (off + (a.eval x).cells.toList.length)).toArray) := by
              rw [hpv]
              simp only [Instr.storeAt, Instr.sureAddr, storeVar, Sem.run_bind, Sem.run_pure, Result.andThen_ok, szT_run hsz]
              rw [if_neg (by simp [hrc.1])]
              exact hrun
            generalize hnews : (a.eval x).cells.toList = news at hall hlen hones
            have hnget : ∀ (i : Nat) (q : PV) (u : Value), cs[i]? = some q → news[i]? = some u → RepP w Im β q u := by
              intro i q u hq hu
              exact hrc.2 i q u hq (by rw [← hnews] at hu; simpa using hu)
            -- whose the spare room is now
            let O' : OwT := match slotOf x with | some s => retag O (.slot s) (.cell id off) | none => O
            have hO1 : ∀ k l, O k = some l → (∀ s, l ≠ .slot s) → O' k = some l := by
              intro k l hk hl
              show (match slotOf x with | some s => retag O (.slot s) (.cell id off) | none => O) k = some l
              cases slotOf x with
              | none => exact hk
              | some s => simp only [retag]; rw [if_neg (by rw [hk]; simpa using hl s)]; exact hk
            have hO2 : ∀ k id', O' k = some (.box id') → O k = some (.box id') := by
              intro k id' hk
              replace hk : (match slotOf x with | some s => retag O (.slot s) (.cell id off) | none => O) k = some (.box id') := hk
              cases hsx : slotOf x with
              | none => rw [hsx] at hk; exact hk
              | some s => rw [hsx] at hk; simp only [retag] at hk; split at hk <;> first | (simp at hk; done) | exact hk
            have hO3 : ∀ k, O' k ≠ none → O k ≠ none := by
              intro k hk hn
              apply hk
              show (match slotOf x with | some s => retag O (.slot s) (.cell id off) | none => O) k = none
              cases slotOf x with
              | none => exact hn
              | some s => exact retag_none.2 hn
            have hup := Good.update (w' := w.setRow b (cs0.toList.take off ++ news ++ cs0.toList.drop (off + news.length)).toArray) (O' := O') (cells' := cells.take off ++ cs ++ cells.drop (off + cs.length))
              (cs' := (cs0.toList.take off ++ news ++ cs0.toList.drop (off + news.length)).toArray) (e := e) hI.good hb hc (by simp) (fun k hk => setRow_other w b k _ hk) (setRow_heap w b cs0 _ e (0, 0) g2)
              (by simp; omega) (fun k id' hk => hO1 k _ hk (by simp)) (fun k id' j hk _ => hO1 k _ hk (by simp)) hO2 hO3
              (fun hk j q u hq hu => by
                have hkeep : ∀ {q : PV} {u : Value}, RepP w Im β q u → RepP (w.setRow b (cs0.toList.take off ++ news ++ cs0.toList.drop (off + news.length)).toArray) Im β q u := fun h => h.keep hk (fun _ _ h => h)
                have hlow : ∀ (j : Nat) (q : PV) (u : Value), cells[j]? = some q → cs0[j]? = some u →
                    RepP (w.setRow b (cs0.toList.take off ++ news ++ cs0.toList.drop (off + news.length)).toArray) Im β q u ∧
                    OwnP (w.setRow b (cs0.toList.take off ++ news ++ cs0.toList.drop (off + news.length)).toArray) Im O' (.cell id j) q u ∧ True := by
                  intro j q u hq hu
                  obtain ⟨k1, k2, k3⟩ := g4 j q u hq hu
                  exact ⟨hkeep k1, k2.mono fun k hk' => ⟨hO1 k _ hk' (by simp), setRow_other w b k _ (fun he => by rw [he, g1] at hk'; cases hk'), fun _ h => h⟩, k3⟩
                simp only [List.getElem?_toArray] at hu
                by_cases hj : j < off
                · rw [List.append_assoc, List.getElem?_append_left (by simp; omega), List.getElem?_take, if_pos hj] at hq
                  rw [List.append_assoc, List.getElem?_append_left (by simp; omega), List.getElem?_take, if_pos hj] at hu
                  exact hlow j q u hq (by simpa using hu)
                · by_cases hj2 : j < off + cs.length
                  · rw [List.append_assoc, List.getElem?_append_right (by simp; omega), List.getElem?_append_left (by simp; omega)] at hq
                    rw [List.append_assoc, List.getElem?_append_right (by simp; omega), List.getElem?_append_left (by simp; omega)] at hu
                    simp only [List.length_take] at hq hu
                    rw [show min off cells.length = off by omega] at hq
                    rw [show min off cs0.toList.length = off by simp; omega] at hu
                    refine ⟨hkeep (hnget _ q u hq hu), ?_, trivial⟩
                    by_cases hqo : ∃ rows, q = .os rows
                    · obtain ⟨rows, rfl⟩ := hqo
                      obtain ⟨rows', hvo⟩ := hos _ (List.mem_of_getElem? hq) rows rfl
                      subst hvo
                      simp only [storedCells] at hcs
                      subst hcs
                      simp at hj2
                      obtain rfl : j = off := by omega
                      simp at hq
                      subst hq
                      -- the value comes out of a slot
                      cases x with
                      | tmp s =>
                        simp [opv] at hx
                        have hown := (hI.slots.get s).2
                        rw [hx] at hown
                        have hue : u = a.tmps.getD s undef := by
                          have h1 : news[0]? = some u := by simpa using hu
                          rw [← hnews] at h1
                          have h2 : (a.eval (.tmp s)).cells = #[a.eval (.tmp s)] := by
                            have hr : RepP w Im β (.os rows') (a.eval (.tmp s)) := hv
                            generalize a.eval (.tmp s) = y at hr
                            cases hr with
                            | os h => cases h <;> rfl
                          rw [h2] at h1
                          simp at h1
                          exact h1.symm
                        subst hue
                        refine hown.mono fun k hk' => ⟨?_, setRow_other w b k _ (fun he => by rw [he, g1] at hk'; cases hk'), fun _ h => h⟩
                        show retag O (.slot s) (.cell id j) k = some (.cell id j)
                        unfold retag
                        rw [if_pos hk']
                      | const c => simp [opv] at hx; exact absurd rfl ((ofValue_rep (w := w) (Im := Im) (β := β) hx).2 rows')
                      | func f => simp [opv] at hx
                      | global c => simp [opv] at hx
                    · exact .of_not (fun rows hr => hqo ⟨rows, hr⟩)
                  · rw [List.getElem?_append_right (by simp; omega)] at hq
                    rw [List.getElem?_append_right (by simp; omega)] at hu
                    simp only [List.length_append, List.length_take, List.getElem?_drop] at hq hu
                    rw [show off + cs.length + (j - (min off cells.length + cs.length)) = j by omega] at hq
                    rw [show off + news.length + (j - (min off cs0.toList.length + news.length)) = j by simp; omega] at hu
                    exact hlow j q u hq (by simpa using hu))
            have hfr : Fr w Im O (w.setRow b (cs0.toList.take off ++ news ++ cs0.toList.drop (off + news.length)).toArray) Im O' :=
              ⟨⟨rfl, rfl, rfl⟩, by simp, fun k _ hn => setRow_other w b k _ (fun he => by rw [he, g1] at hn; cases hn), hup.2, fun _ _ h => .inl h, fun k _ hn => by
                cases hk : O' k with
                | none => rfl
                | some l => exact absurd hn (hO3 k (by rw [hk]; simp))⟩
            refine .skip (Im' := Im) (O' := O') (β' := β) (by simp only [execOp, ho, Sem.run_bind, hall, Result.andThen_ok]; rfl) hfr (.refl β) ⟨hup.1, ?_⟩
            have hs : Slots w Im O' β (untake st.slots (slotOf x)) a.tmps := by
              show Slots w Im (match slotOf x with | some s => retag O (.slot s) (.cell id off) | none => O) β (untake st.slots (slotOf x)) a.tmps
              cases slotOf x with
              | none => exact hI.slots
              | some s => exact hI.slots.untake s _
            refine Slots.put (a := a) ⟨hs.len, fun i q u hq hu => ?_⟩ .undef (fun d _ => .of_not (by simp))
            obtain ⟨k1, k2⟩ := hs.rep i q u hq hu
            refine ⟨k1.keep hup.2 (fun _ _ h => h), k2.mono fun k hk' => ⟨hk', setRow_other w b k _ (fun he => ?_), fun _ h => h⟩⟩
            rw [he, hO1 b _ g1 (by simp)] at hk'
            cases hk'
        · cases h
    · cases h
  · cases h

/-- Cells put into a box. -/
theorem putCells_ok (hI : Inv w Im O β st a) {id b off : Nat} {cells cs : List PV} {news : List Value} (hb : β[id]? = some b) (hc : st.store[id]? = some cells) (hfit : off + cs.length ≤ cells.length)
    (hlen : news.length = cs.length) (hrep : ∀ (i : Nat) (q : PV) (u : Value), cs[i]? = some q → news[i]? = some u → RepP w Im β q u) (hno : ∀ q ∈ cs, ∀ rows, q ≠ .os rows) (hone : ∀ u ∈ news, u.oneCell' = true) :
    ∃ w', (storeCells ⟨b, off, none⟩ news).run P w = .ok () w' ∧ Fr w Im O w' Im O ∧ Inv w' Im O β ⟨st.slots, st.store.set id (cells.take off ++ cs ++ cells.drop (off + cs.length))⟩ a := by
  obtain ⟨g1, cs0, e, g2, g3, g4⟩ := hI.good.box id b cells hb hc
  have hrun := run_storeCells_at P b off e news 0 cs0 w g2 (by omega) hone
  simp only [Nat.add_zero] at hrun
  have hup := Good.update (w' := w.setRow b (cs0.toList.take off ++ news ++ cs0.toList.drop (off + news.length)).toArray) (O' := O) (cells' := cells.take off ++ cs ++ cells.drop (off + cs.length))
    (cs' := (cs0.toList.take off ++ news ++ cs0.toList.drop (off + news.length)).toArray) (e := e) hI.good hb hc (by simp) (fun k hk => setRow_other w b k _ hk) (setRow_heap w b cs0 _ e (0, 0) g2)
    (by simp; omega) (fun k id' hk => hk) (fun k id' j hk _ => hk) (fun k id' hk => hk) (fun k hk => hk)
    (fun hk j q u hq hu => by
      have hkeep : ∀ {q : PV} {u : Value}, RepP w Im β q u → RepP (w.setRow b (cs0.toList.take off ++ news ++ cs0.toList.drop (off + news.length)).toArray) Im β q u := fun h => h.keep hk (fun _ _ h => h)
      have hlow : ∀ (j : Nat) (q : PV) (u : Value), cells[j]? = some q → cs0[j]? = some u →
          RepP (w.setRow b (cs0.toList.take off ++ news ++ cs0.toList.drop (off + news.length)).toArray) Im β q u ∧
          OwnP (w.setRow b (cs0.toList.take off ++ news ++ cs0.toList.drop (off + news.length)).toArray) Im O (.cell id j) q u ∧ True := by
        intro j q u hq hu
        obtain ⟨k1, k2, k3⟩ := g4 j q u hq hu
        exact ⟨hkeep k1, k2.mono fun k hk' => ⟨hk', setRow_other w b k _ (fun he => by rw [he, g1] at hk'; cases hk'), fun _ h => h⟩, k3⟩
      simp only [List.getElem?_toArray] at hu
      by_cases hj : j < off
      · rw [List.append_assoc, List.getElem?_append_left (by simp; omega), List.getElem?_take, if_pos hj] at hq
        rw [List.append_assoc, List.getElem?_append_left (by simp; omega), List.getElem?_take, if_pos hj] at hu
        exact hlow j q u hq (by simpa using hu)
      · by_cases hj2 : j < off + cs.length
        · rw [List.append_assoc, List.getElem?_append_right (by simp; omega), List.getElem?_append_left (by simp; omega)] at hq
          rw [List.append_assoc, List.getElem?_append_right (by simp; omega), List.getElem?_append_left (by simp; omega)] at hu
          simp only [List.length_take] at hq hu
          rw [show min off cells.length = off by omega] at hq
          rw [show min off cs0.toList.length = off by simp; omega] at hu
          exact ⟨hkeep (hrep _ q u hq hu), .of_not (hno q (List.mem_of_getElem? hq)), trivial⟩
        · rw [List.getElem?_append_right (by simp; omega)] at hq
          rw [List.getElem?_append_right (by simp; omega)] at hu
          simp only [List.length_append, List.length_take, List.getElem?_drop] at hq hu
          rw [show off + cs.length + (j - (min off cells.length + cs.length)) = j by omega] at hq
          rw [show off + news.length + (j - (min off cs0.toList.length + news.length)) = j by simp; omega] at hu
          exact hlow j q u hq (by simpa using hu))
  refine ⟨_, hrun, ⟨⟨rfl, rfl, rfl⟩, by simp, fun k _ hn => setRow_other w b k _ (fun he => by rw [he, g1] at hn; cases hn), hup.2, fun _ _ h => .inl h, fun k _ hn => hn⟩, hup.1, ?_⟩
  refine ⟨hI.slots.len, fun i q u hq hu => ?_⟩
  obtain ⟨k1, k2⟩ := hI.slots.rep i q u hq hu
  exact ⟨k1.keep hup.2 (fun _ _ h => h), k2.mono fun k hk' => ⟨hk', setRow_other w b k _ (fun he => by rw [he, g1] at hk'; cases hk'), fun _ h => h⟩⟩

end step
end Go.Pv

