/- Pure values and what it means that a value of the machine's, in a world, is one of them; The evaluator: what the program's own code makes of pure values. Slices are lists; a variable in memory is a box of a store; Operations that ask neither the store nor a function: the machine computes what the evaluator does; Operations that ask neither the store nor a function, one by one; Operations that ask neither the store nor a function: the literals, fields, places; Operations that ask neither the store nor a function: comparisons, places, cuts; and all of them together. -/
import Derived.Calls
import Derived.Orders
import Derived.Laws.BytesArg
import Derived.ArgAppend
import Derived.Laws.Build
import Derived.Laws.Tables
import Derived.ChangeKeysEq
set_option linter.unusedVariables false
set_option linter.unusedSimpArgs false
namespace Go.Pv
open Go
inductive DV where
  | bool (b : Bool)
  | int (k : IntKind) (n : Int)
  | str (s : ByteArray)
  | slice (rows : List (List DV))
inductive PV where
  | undef
  | any
  | d (x : DV)
  | e0
  | os (rows : List (List DV))
  | agg (cells : List PV)
  | tup (vs : List PV)
  | ptr (id off : Nat)
  | ms (id off len sz : Nat)
  | nilptr
  | ro (cells : List DV)
  | func (fn : Fn) (first captured : List PV)
  | nilFunc
  | iface (t : TypeId) (v : PV)
  | nilIface
instance : Inhabited PV := ⟨.undef⟩
abbrev ImT := Nat → Nat → Prop
inductive RepD (w : World) (Im : ImT) : DV → Value → Prop
  | bool (b : Bool) : RepD w Im (.bool b) (.bool b)
  | int (k : IntKind) (n : Int) : RepD w Im (.int k n) (.int k n)
  | str (s : ByteArray) : RepD w Im (.str s) (.string s)
  | nil : RepD w Im (.slice []) (.slice none 0 0)
  | slice (rows : List (List DV)) (a : Addr) (c sz : Nat) (cv : Nat → Value)
      (hlen : ∀ r ∈ rows, r.length = sz) (hc : rows.length ≤ c) (hs : rows.length * sz ≠ 0 → a.spot = none)
      (hcell : ∀ j, j < rows.length * sz → w.cell? ⟨a.block, a.off + j, none⟩ = some (cv j))
      (him : ∀ j, j < rows.length * sz → Im a.block (a.off + j))
      (hrep : ∀ (i j : Nat) (r : List DV) (x : DV), rows[i]? = some r → r[j]? = some x → RepD w Im x (cv (i * sz + j))) :
      RepD w Im (.slice rows) (.slice (some a) rows.length c)
inductive RepP (w : World) (Im : ImT) (β : List Nat) : PV → Value → Prop
  | undef : RepP w Im β .undef Go.undef
  | any (v : Value) (h : v.cells = #[v]) : RepP w Im β .any v
  | d {x : DV} {v : Value} (h : RepD w Im x v) : RepP w Im β (.d x) v
  | e0 (a : Option Addr) : RepP w Im β .e0 (.slice a 0 0)
  | os {rows : List (List DV)} {v : Value} (h : RepD w Im (.slice rows) v) : RepP w Im β (.os rows) v
  | agg (cells : List PV) (vs : Array Value) (hl : cells.length = vs.size)
      (h : ∀ (i : Nat) (p : PV) (v : Value), cells[i]? = some p → vs[i]? = some v → RepP w Im β p v) : RepP w Im β (.agg cells) (.agg vs)
  | tup (cells : List PV) (vs : Array Value) (hl : cells.length = vs.size)
      (h : ∀ (i : Nat) (p : PV) (v : Value), cells[i]? = some p → vs[i]? = some v → RepP w Im β p v) : RepP w Im β (.tup cells) (.tuple vs)
  | ptr (id off b : Nat) (h : β[id]? = some b) : RepP w Im β (.ptr id off) (.pointer (some ⟨b, off, none⟩))
  | ms (id off len sz b c : Nat) (x : Addr) (h : β[id]? = some b) (hc : len ≤ c) (hx : len ≠ 0 → x = ⟨b, off, none⟩) : RepP w Im β (.ms id off len sz) (.slice (some x) len c)
  | nilptr : RepP w Im β .nilptr (.pointer none)
  | ro (cells : List DV) (a : Addr) (cv : Nat → Value) (hs : a.spot = none)
      (hcell : ∀ j, j < cells.length → w.cell? ⟨a.block, a.off + j, none⟩ = some (cv j))
      (him : ∀ j, j < cells.length → Im a.block (a.off + j))
      (hrep : ∀ (j : Nat) (x : DV), cells[j]? = some x → RepD w Im x (cv j)) : RepP w Im β (.ro cells) (.pointer (some a))
  | func (fn : Fn) (f c : List PV) (vf vc : Array Value) (hf : f.length = vf.size) (hc : c.length = vc.size)
      (h1 : ∀ (i : Nat) (p : PV) (v : Value), f[i]? = some p → vf[i]? = some v → RepP w Im β p v)
      (h2 : ∀ (i : Nat) (p : PV) (v : Value), c[i]? = some p → vc[i]? = some v → RepP w Im β p v) : RepP w Im β (.func fn f c) (.func fn vf vc)
  | nilFunc : RepP w Im β .nilFunc .nilFunc
  | iface (t : TypeId) (p : PV) (v : Value) (h : RepP w Im β p v) : RepP w Im β (.iface t p) (.iface t v)
  | nilIface : RepP w Im β .nilIface .nilIface
def Keep (w : World) (Im : ImT) (w' : World) (Im' : ImT) : Prop :=
  ∀ b o, Im b o → Im' b o ∧ w'.cell? ⟨b, o, none⟩ = w.cell? ⟨b, o, none⟩
theorem Keep.refl (w : World) (Im : ImT) : Keep w Im w Im := fun _ _ h => ⟨h, rfl⟩
theorem Keep.trans {w w' w'' : World} {Im Im' Im'' : ImT} (h : Keep w Im w' Im') (h' : Keep w' Im' w'' Im'') : Keep w Im w'' Im'' :=
  fun b o hb => ⟨(h' b o (h b o hb).1).1, ((h' b o (h b o hb).1).2).trans (h b o hb).2⟩
theorem RepD.keep {w w' : World} {Im Im' : ImT} {x : DV} {v : Value} (hk : Keep w Im w' Im') (h : RepD w Im x v) : RepD w' Im' x v := by
  induction h with
  | bool b => exact .bool b
  | int k n => exact .int k n
  | str s => exact .str s
  | nil => exact .nil
  | slice rows a c sz cv hlen hc hs hcell him _ ih =>
    exact .slice rows a c sz cv hlen hc hs (fun j hj => ((hk _ _ (him j hj)).2).trans (hcell j hj)) (fun j hj => (hk _ _ (him j hj)).1) ih
theorem RepP.keep {w w' : World} {Im Im' : ImT} {β β' : List Nat} {p : PV} {v : Value} (hk : Keep w Im w' Im')
    (hβ : ∀ id b : Nat, β[id]? = some b → β'[id]? = some b) (h : RepP w Im β p v) : RepP w' Im' β' p v := by
  induction h with
  | undef => exact .undef
  | any v h => exact .any v h
  | d h => exact .d (h.keep hk)
  | e0 a => exact .e0 a
  | os h => exact .os (h.keep hk)
  | agg cells vs hl _ ih => exact .agg cells vs hl ih
  | tup cells vs hl _ ih => exact .tup cells vs hl ih
  | ptr id off b h => exact .ptr id off b (hβ id b h)
  | ms id off len sz b c x h hc hx => exact .ms id off len sz b c x (hβ id b h) hc hx
  | nilptr => exact .nilptr
  | ro cells a cv hs hcell him hrep =>
    exact .ro cells a cv hs (fun j hj => ((hk _ _ (him j hj)).2).trans (hcell j hj)) (fun j hj => (hk _ _ (him j hj)).1) (fun j x hx => (hrep j x hx).keep hk)
  | func fn f c vf vc hf hc _ _ i1 i2 => exact .func fn f c vf vc hf hc i1 i2
  | nilFunc => exact .nilFunc
  | iface t p v _ ih => exact .iface t p v ih
  | nilIface => exact .nilIface
inductive PV.Below (n : Nat) : PV → Prop
  | undef : PV.Below n .undef
  | any : PV.Below n .any
  | d (x : DV) : PV.Below n (.d x)
  | e0 : PV.Below n .e0
  | os (rows : List (List DV)) : PV.Below n (.os rows)
  | agg (cells : List PV) (h : ∀ p ∈ cells, PV.Below n p) : PV.Below n (.agg cells)
  | tup (cells : List PV) (h : ∀ p ∈ cells, PV.Below n p) : PV.Below n (.tup cells)
  | ptr (id off : Nat) (h : id < n) : PV.Below n (.ptr id off)
  | ms (id off len sz : Nat) (h : id < n) : PV.Below n (.ms id off len sz)
  | nilptr : PV.Below n .nilptr
  | ro (cells : List DV) : PV.Below n (.ro cells)
  | func (fn : Fn) (f c : List PV) (hf : ∀ p ∈ f, PV.Below n p) (hc : ∀ p ∈ c, PV.Below n p) : PV.Below n (.func fn f c)
  | nilFunc : PV.Below n .nilFunc
  | iface (t : TypeId) (p : PV) (h : PV.Below n p) : PV.Below n (.iface t p)
  | nilIface : PV.Below n .nilIface
theorem RepP.cut {w : World} {Im : ImT} {β : List Nat} {n : Nat} {p : PV} {v : Value} (h : RepP w Im β p v) (hb : p.Below n) : RepP w Im (β.take n) p v := by
  induction h with
  | undef => exact .undef
  | any v h => exact .any v h
  | d h => exact .d h
  | e0 a => exact .e0 a
  | os h => exact .os h
  | agg cells vs hl _ ih => cases hb with | agg _ hb => exact .agg cells vs hl (fun i p v hp hv => ih i p v hp hv (hb p (List.mem_of_getElem? hp)))
  | tup cells vs hl _ ih => cases hb with | tup _ hb => exact .tup cells vs hl (fun i p v hp hv => ih i p v hp hv (hb p (List.mem_of_getElem? hp)))
  | ptr id off b h => cases hb with | ptr _ _ hb => exact .ptr id off b (by rw [List.getElem?_take]; simp [hb, h])
  | ms id off len sz b c x h hc hx => cases hb with | ms _ _ _ _ hb => exact .ms id off len sz b c x (by rw [List.getElem?_take]; simp [hb, h]) hc hx
  | nilptr => exact .nilptr
  | ro cells a cv hs hcell him hrep => exact .ro cells a cv hs hcell him hrep
  | func fn f c vf vc hf hc _ _ i1 i2 =>
    cases hb with
    | func _ _ _ b1 b2 =>
      exact .func fn f c vf vc hf hc (fun i p v hp hv => i1 i p v hp hv (b1 p (List.mem_of_getElem? hp))) (fun i p v hp hv => i2 i p v hp hv (b2 p (List.mem_of_getElem? hp)))
  | nilFunc => exact .nilFunc
  | iface t p v _ ih => cases hb with | iface _ _ hb => exact .iface t p v (ih hb)
  | nilIface => exact .nilIface
theorem RepP.bel {w : World} {Im : ImT} {β : List Nat} {p : PV} {v : Value} (h : RepP w Im β p v) : p.Below β.length := by
  induction h with
  | undef => exact .undef
  | any v h => exact .any
  | d h => exact .d _
  | e0 a => exact .e0
  | os h => exact .os _
  | agg cells vs hl _ ih =>
    refine .agg _ (fun p hp => ?_)
    obtain ⟨i, hi⟩ := List.mem_iff_getElem?.1 hp
    have hlt : i < vs.size := by rw [← hl]; exact (List.getElem?_eq_some_iff.1 hi).1
    exact ih i p vs[i] hi (Array.getElem?_eq_getElem hlt)
  | tup cells vs hl _ ih =>
    refine .tup _ (fun p hp => ?_)
    obtain ⟨i, hi⟩ := List.mem_iff_getElem?.1 hp
    have hlt : i < vs.size := by rw [← hl]; exact (List.getElem?_eq_some_iff.1 hi).1
    exact ih i p vs[i] hi (Array.getElem?_eq_getElem hlt)
  | ptr id off b h => exact .ptr _ _ (List.getElem?_eq_some_iff.1 h).1
  | ms id off len sz b c x h hc hx => exact .ms _ _ _ _ (List.getElem?_eq_some_iff.1 h).1
  | nilptr => exact .nilptr
  | ro cells a cv hs hcell him hrep => exact .ro _
  | func fn f c vf vc hf hc _ _ i1 i2 =>
    refine .func _ _ _ (fun p hp => ?_) (fun p hp => ?_)
    · obtain ⟨i, hi⟩ := List.mem_iff_getElem?.1 hp
      have hlt : i < vf.size := by rw [← hf]; exact (List.getElem?_eq_some_iff.1 hi).1
      exact i1 i p vf[i] hi (Array.getElem?_eq_getElem hlt)
    · obtain ⟨i, hi⟩ := List.mem_iff_getElem?.1 hp
      have hlt : i < vc.size := by rw [← hc]; exact (List.getElem?_eq_some_iff.1 hi).1
      exact i2 i p vc[i] hi (Array.getElem?_eq_getElem hlt)
  | nilFunc => exact .nilFunc
  | iface t p v _ ih => exact .iface _ _ ih
  | nilIface => exact .nilIface
theorem PV.Below.mono {n m : Nat} (hnm : n ≤ m) {p : PV} (h : p.Below n) : p.Below m := by
  induction h with
  | undef => exact .undef
  | any => exact .any
  | d x => exact .d x
  | e0 => exact .e0
  | os r => exact .os r
  | agg cells _ ih => exact .agg cells ih
  | tup cells _ ih => exact .tup cells ih
  | ptr id off h => exact .ptr id off (Nat.lt_of_lt_of_le h hnm)
  | ms id off len sz h => exact .ms id off len sz (Nat.lt_of_lt_of_le h hnm)
  | nilptr => exact .nilptr
  | ro cells => exact .ro cells
  | func fn f c _ _ i1 i2 => exact .func fn f c i1 i2
  | nilFunc => exact .nilFunc
  | iface t p _ ih => exact .iface t p ih
  | nilIface => exact .nilIface
def PV.strip1 : PV → PV
  | .os rows => .d (.slice rows)
  | .e0 => .d (.slice [])
  | p => p
def PV.strip : PV → PV
  | .agg cs => .agg (cs.map PV.strip1)
  | p => p.strip1
def PV.keep0 : PV → PV
  | .os rows => .d (.slice rows)
  | p => p
theorem RepP.strip1 {w : World} {Im : ImT} {β : List Nat} {p : PV} {v : Value} (h : RepP w Im β p v) : RepP w Im β p.strip1 v := by
  cases h with
  | os h => exact .d h
  | e0 a =>
    cases a with
    | none => exact .d .nil
    | some a => exact .d (.slice [] a 0 0 (fun _ => default) (by simp) (by simp) (by simp) (by simp) (by simp) (by simp))
  | undef => exact .undef
  | any v h => exact .any v h
  | d h => exact .d h
  | agg cells vs hl h => exact .agg cells vs hl h
  | tup cells vs hl h => exact .tup cells vs hl h
  | ptr id off b h => exact .ptr id off b h
  | ms id off len sz b c x h hc hx => exact .ms id off len sz b c x h hc hx
  | nilptr => exact .nilptr
  | ro cells a cv hs hcell him hrep => exact .ro cells a cv hs hcell him hrep
  | func fn f c vf vc hf hc h1 h2 => exact .func fn f c vf vc hf hc h1 h2
  | nilFunc => exact .nilFunc
  | iface t p v h => exact .iface t p v h
  | nilIface => exact .nilIface
theorem RepP.keep0 {w : World} {Im : ImT} {β : List Nat} {p : PV} {v : Value} (h : RepP w Im β p v) : RepP w Im β p.keep0 v := by
  cases h with
  | os h => exact .d h
  | e0 a => exact .e0 a
  | undef => exact .undef
  | any v h => exact .any v h
  | d h => exact .d h
  | agg cells vs hl h => exact .agg cells vs hl h
  | tup cells vs hl h => exact .tup cells vs hl h
  | ptr id off b h => exact .ptr id off b h
  | ms id off len sz b c x h hc hx => exact .ms id off len sz b c x h hc hx
  | nilptr => exact .nilptr
  | ro cells a cv hs hcell him hrep => exact .ro cells a cv hs hcell him hrep
  | func fn f c vf vc hf hc h1 h2 => exact .func fn f c vf vc hf hc h1 h2
  | nilFunc => exact .nilFunc
  | iface t p v h => exact .iface t p v h
  | nilIface => exact .nilIface
theorem RepP.strip {w : World} {Im : ImT} {β : List Nat} {p : PV} {v : Value} (h : RepP w Im β p v) : RepP w Im β p.strip v := by
  cases p with
  | agg cs =>
    cases h with
    | agg _ vs hl h =>
      refine .agg _ vs (by simp [hl]) (fun i p v hp hv => ?_)
      rw [List.getElem?_map] at hp
      cases hc : cs[i]? with
      | none => simp [hc] at hp
      | some q => simp [hc] at hp; subst hp; exact (h i q v hc hv).strip1
  | _ => exact h.strip1
inductive PV.Data : PV → Prop
  | undef : PV.Data .undef
  | any : PV.Data .any
  | d (x : DV) : PV.Data (.d x)
  | e0 : PV.Data .e0
  | os (rows : List (List DV)) : PV.Data (.os rows)
  | agg (cells : List PV) (h : ∀ p ∈ cells, PV.Data p) : PV.Data (.agg cells)
  | tup (cells : List PV) (h : ∀ p ∈ cells, PV.Data p) : PV.Data (.tup cells)
  | nilptr : PV.Data .nilptr
  | ro (cells : List DV) : PV.Data (.ro cells)
  | nilFunc : PV.Data .nilFunc
  | iface (t : TypeId) (p : PV) (h : PV.Data p) : PV.Data (.iface t p)
  | nilIface : PV.Data .nilIface
theorem PV.Data.toBelow {p : PV} (h : p.Data) (n : Nat) : p.Below n := by
  induction h with
  | undef => exact .undef
  | any => exact .any
  | d x => exact .d x
  | e0 => exact .e0
  | os r => exact .os r
  | agg cells _ ih => exact .agg cells ih
  | tup cells _ ih => exact .tup cells ih
  | nilptr => exact .nilptr
  | ro cells => exact .ro cells
  | nilFunc => exact .nilFunc
  | iface t p _ ih => exact .iface t p ih
  | nilIface => exact .nilIface
mutual
def PV.isData : PV → Bool
  | .undef | .any | .d _ | .e0 | .os _ | .nilptr | .ro _ | .nilFunc | .nilIface => true
  | .agg cs => isDataL cs
  | .tup cs => isDataL cs
  | .iface _ v => v.isData
  | .ptr .. | .ms .. | .func .. => false
def isDataL : List PV → Bool
  | [] => true
  | p :: ps => p.isData && isDataL ps
end
mutual
def PV.isBelow (n : Nat) : PV → Bool
  | .undef | .any | .d _ | .e0 | .os _ | .nilptr | .ro _ | .nilFunc | .nilIface => true
  | .agg cs => isBelowL n cs
  | .tup cs => isBelowL n cs
  | .iface _ v => v.isBelow n
  | .ptr id _ => decide (id < n)
  | .ms id _ _ _ => decide (id < n)
  | .func _ f c => isBelowL n f && isBelowL n c
def isBelowL (n : Nat) : List PV → Bool
  | [] => true
  | p :: ps => p.isBelow n && isBelowL n ps
end
mutual
theorem PV.data_of : ∀ (p : PV), p.isData = true → p.Data
  | .undef, _ => .undef
  | .any, _ => .any
  | .d x, _ => .d x
  | .e0, _ => .e0
  | .os r, _ => .os r
  | .agg cells, h => .agg cells (dataL_of cells h)
  | .tup cells, h => .tup cells (dataL_of cells h)
  | .ptr id off, h => by simp [PV.isData] at h
  | .ms id off len sz, h => by simp [PV.isData] at h
  | .nilptr, _ => .nilptr
  | .ro cells, _ => .ro cells
  | .func fn f c, h => by simp [PV.isData] at h
  | .nilFunc, _ => .nilFunc
  | .iface t p, h => .iface t p (PV.data_of p h)
  | .nilIface, _ => .nilIface
theorem dataL_of : ∀ (cells : List PV), isDataL cells = true → ∀ p ∈ cells, p.Data
  | [], _, p, hp => by simp at hp
  | q :: qs, h, p, hp => by
    simp only [isDataL, Bool.and_eq_true] at h
    cases hp with
    | head => exact PV.data_of q h.1
    | tail _ hp => exact dataL_of qs h.2 p hp
end
mutual
theorem PV.below_of (n : Nat) : ∀ (p : PV), p.isBelow n = true → p.Below n
  | .undef, _ => .undef
  | .any, _ => .any
  | .d x, _ => .d x
  | .e0, _ => .e0
  | .os r, _ => .os r
  | .agg cells, h => .agg cells (belowL_of n cells h)
  | .tup cells, h => .tup cells (belowL_of n cells h)
  | .ptr id off, h => .ptr id off (by simpa [PV.isBelow] using h)
  | .ms id off len sz, h => .ms id off len sz (by simpa [PV.isBelow] using h)
  | .nilptr, _ => .nilptr
  | .ro cells, _ => .ro cells
  | .func fn f c, h => by
    simp only [PV.isBelow, Bool.and_eq_true] at h
    exact .func fn f c (belowL_of n f h.1) (belowL_of n c h.2)
  | .nilFunc, _ => .nilFunc
  | .iface t p, h => .iface t p (PV.below_of n p h)
  | .nilIface, _ => .nilIface
theorem belowL_of (n : Nat) : ∀ (cells : List PV), isBelowL n cells = true → ∀ p ∈ cells, p.Below n
  | [], _, p, hp => by simp at hp
  | q :: qs, h, p, hp => by
    simp only [isBelowL, Bool.and_eq_true] at h
    cases hp with
    | head => exact PV.below_of n q h.1
    | tail _ hp => exact belowL_of n qs h.2 p hp
end
/-! #### Equal boxes, asked by a program -/
mutual
def DV.same : DV → DV → Bool
  | .bool a, .bool b => a == b
  | .int k n, .int k' m => decide (k = k') && (n == m)
  | .str s, .str t => s.data.toList == t.data.toList
  | .slice r, .slice r' => sameRows r r'
  | _, _ => false
def sameRows : List (List DV) → List (List DV) → Bool
  | [], [] => true
  | r :: rs, q :: qs => sameL r q && sameRows rs qs
  | _, _ => false
def sameL : List DV → List DV → Bool
  | [], [] => true
  | x :: xs, y :: ys => x.same y && sameL xs ys
  | _, _ => false
end
mutual
theorem DV.same_eq : ∀ (x y : DV), x.same y = true → x = y
  | .bool a, .bool b, h => by simp [DV.same] at h; rw [h]
  | .int k n, .int k' m, h => by simp [DV.same] at h; rw [h.1, h.2]
  | .str s, .str t, h => by
    simp [DV.same] at h
    obtain ⟨a⟩ := s
    obtain ⟨b⟩ := t
    simp at h
    rw [h]
  | .slice r, .slice r', h => by simp only [DV.same] at h; rw [sameRows_eq r r' h]
  | .bool _, .int .., h | .bool _, .str _, h | .bool _, .slice _, h | .int .., .bool _, h | .int .., .str _, h | .int .., .slice _, h => by simp [DV.same] at h
  | .str _, .bool _, h | .str _, .int .., h | .str _, .slice _, h | .slice _, .bool _, h | .slice _, .int .., h | .slice _, .str _, h => by simp [DV.same] at h
theorem sameRows_eq : ∀ (r q : List (List DV)), sameRows r q = true → r = q
  | [], [], _ => rfl
  | r :: rs, q :: qs, h => by
    simp only [sameRows, Bool.and_eq_true] at h
    rw [sameL_eq r q h.1, sameRows_eq rs qs h.2]
  | [], _ :: _, h => by simp [sameRows] at h
  | _ :: _, [], h => by simp [sameRows] at h
theorem sameL_eq : ∀ (r q : List DV), sameL r q = true → r = q
  | [], [], _ => rfl
  | x :: xs, y :: ys, h => by
    simp only [sameL, Bool.and_eq_true] at h
    rw [DV.same_eq x y h.1, sameL_eq xs ys h.2]
  | [], _ :: _, h => by simp [sameL] at h
  | _ :: _, [], h => by simp [sameL] at h
end
mutual
theorem DV.same_self : ∀ (x : DV), x.same x = true
  | .bool a => by simp [DV.same]
  | .int k n => by simp [DV.same]
  | .str s => by simp [DV.same]
  | .slice r => by simp only [DV.same]; exact sameRows_self r
theorem sameRows_self : ∀ (r : List (List DV)), sameRows r r = true
  | [] => rfl
  | r :: rs => by simp only [sameRows, Bool.and_eq_true]; exact ⟨sameL_self r, sameRows_self rs⟩
theorem sameL_self : ∀ (r : List DV), sameL r r = true
  | [] => rfl
  | x :: xs => by simp only [sameL, Bool.and_eq_true]; exact ⟨DV.same_self x, sameL_self xs⟩
end
def PV.same : PV → PV → Bool
  | .undef, .undef => true
  | .d x, .d y => x.same y
  | .e0, .e0 => true
  | .os r, .os q => sameRows r q
  | .ptr i o, .ptr j q => i == j && o == q
  | .ms i o l z, .ms j q m y => i == j && (o == q && (l == m && z == y))
  | .nilptr, .nilptr => true
  | .nilFunc, .nilFunc => true
  | .nilIface, .nilIface => true
  | _, _ => false
theorem PV.same_eq : ∀ {p q : PV}, p.same q = true → p = q := by
  intro p q h
  cases p <;> cases q <;> simp [PV.same] at h <;> first | rfl | (rw [DV.same_eq _ _ h]) | (rw [sameRows_eq _ _ h]) | (rw [h.1, h.2.1, h.2.2.1, h.2.2.2]) | (rw [h.1, h.2])
def sameCells : List PV → List PV → Bool
  | [], [] => true
  | p :: ps, q :: qs => p.same q && sameCells ps qs
  | _, _ => false
def sameStore : List (List PV) → List (List PV) → Bool
  | [], [] => true
  | p :: ps, q :: qs => sameCells p q && sameStore ps qs
  | _, _ => false
end Go.Pv

namespace Go.Pv
open Go
abbrev Store := List (List PV)
structure St where
  slots : List PV
  store : Store
structure Env where
  P : Program
  good : FuncId → Bool
  pure : FuncId → Bool
  ov : FuncId → Option (List PV → Option PV)
  /-- Functions that only read boxes. -/
  ro : FuncId → Bool := fun _ => false
  /-- Of a region whose order is drawn: a load's address and a store's that are two boxes'. -/
  apart : String → Nat → List (Nat × Nat) := fun _ _ => []
  /-- Of a region whose order is drawn: two operations that each make a box; an order in which the second one comes first. -/
  alt : String → Nat → Option (List Nat × Nat × Nat) := fun _ _ => none
  /-- In it a box may come to point to a younger one. -/
  loose : Bool := false
  /-- Functions that are run so: they leave the boxes that were there as they were. -/
  wild : FuncId → Bool := fun _ => false
  /-- Functions that are known otherwise, and touch boxes. -/
  ext : Bool → FuncId → Option (List PV → List (List PV) → Option (PV × List (List PV))) := fun _ _ => none
  /-- Of a wild function: the places of what is appended to nothing and shall be written then. -/
  mkf : FuncId → List Nat := fun _ => []
  mks : List Nat := []
def Env.at (E : Env) (f : FuncId) : Env := if E.wild f then { E with loose := true, mks := E.mkf f } else E
def mkSel (E : Env) : Option Tmp → Bool
  | some d => E.mks.contains d
  | none => false
def acc : List (List DV) → PV
  | [] => .e0
  | r :: rs => .os (r :: rs)
def ofCell : Value → Option PV
  | .bool b => some (.d (.bool b))
  | .int k n => some (.d (.int k n))
  | .string s => some (.d (.str s))
  | .slice none 0 0 => some .e0
  | .pointer none => some .nilptr
  | .nilFunc => some .nilFunc
  | .nilIface => some .nilIface
  | _ => none
def ofValue : Value → Option PV
  | .agg cs => (cs.toList.mapM ofCell).map .agg
  | v => ofCell v
def rd (slots : List PV) (t : Nat) : PV := slots.getD t .undef
def opv (ρ : Nat → PV) : Operand → Option PV
  | .tmp t => some (ρ t)
  | .const v => ofValue v
  | .func f => some (.func (.func f) [] [])
  | .global _ => none
def use (ρ : Nat → PV) (x : Operand) : Option PV := (opv ρ x).map PV.strip
def useL (ρ : Nat → PV) : List Operand → Option (List PV)
  | [] => some []
  | x :: xs => (use ρ x).bind fun p => (useL ρ xs).map (p :: ·)
def toV : PV → Option Value
  | .d (.bool b) => some (.bool b)
  | .d (.int k n) => some (.int k n)
  | .d (.str s) => some (.string s)
  | _ => none
def ofScalar : Value → Option PV
  | .bool b => some (.d (.bool b))
  | .int k n => some (.d (.int k n))
  | .string s => some (.d (.str s))
  | _ => none
def pureRun (P : Program) {α : Type} : Sem α → Option α
  | .pure a => some a
  | .program k => pureRun P (k P)
  | .mark _ k => pureRun P k
  | _ => none
def aggT (P : Program) (t : TypeId) : Option Bool :=
  match P.underlying t with
  | some (.struct _) => some true
  | some (.array _ _) => some true
  | some _ => some false
  | none => none
def szT (P : Program) (t : TypeId) : Option Nat := (P.info? t).map (·.size)
def zeroT (P : Program) (t : TypeId) : Option PV := ((P.info? t).bind (·.zero)).bind ofValue
def cellsOf : PV → List PV
  | .agg cs => cs
  | p => [p]
def loadS (σ : Store) (id off n : Nat) : Option (List PV) :=
  (σ[id]?).bind fun cs => if off + n ≤ cs.length then some ((cs.drop off).take n) else none
def storeS (σ : Store) (id off : Nat) (vs : List PV) : Option Store :=
  (σ[id]?).bind fun cs => if off + vs.length ≤ cs.length then some (σ.set id (cs.take off ++ vs ++ cs.drop (off + vs.length))) else none
def toD : PV → Option DV
  | .d x => some x
  | .e0 => some (.slice [])
  | .os rows => some (.slice rows)
  | _ => none
def toDL : List PV → Option (List DV)
  | [] => some []
  | p :: ps => (toD p).bind fun x => (toDL ps).map (x :: ·)
def appTmp (o : Oper) : Option Nat :=
  match o.op with
  | .call c =>
    (match c.callee, (c.args[0]? : Option Operand) with
     | .builtin .append, some (.tmp t) => some t
     | _, _ => none)
  | .move (.tmp _) => if (o.dst = some 32 ∧ o.pos = "stuff.go:29") ∨ (o.dst = some 47 ∧ o.pos = "ref.go:27") then o.dst else none
  | _ => none
def appendFirst (ops : List Oper) : List Nat := ops.filterMap appTmp
def placesOf (P : Program) (t : TypeId) : Option (Nat → Option (Nat × Nat)) :=
  match P.underlying t with
  | some (.struct fields) => (fields.toList.mapM fun f => (szT P f.type).map fun s => (f.offset, s)).map fun l => fun i => l[i]?
  | some (.array _ elem) => (szT P elem).map fun s => fun i => some (i * s, s)
  | _ => none
def fillP (place : Nat → Option (Nat × Nat)) (cells : List PV) : List (Nat × PV) → Option (List PV)
  | [] => some cells
  | (i, v) :: rest =>
    match place i with
    | none => none
    | some (off, size) =>
      if (cellsOf v).length = size ∧ off + size ≤ cells.length then fillP place (cells.take off ++ cellsOf v ++ cells.drop (off + size)) rest else none
def rowsOk (size : Nat) (rows : List (List DV)) : Bool := rows.all fun r => r.length == size
def scalarD : TypeDesc → Bool
  | .bool => true
  | .int _ => true
  | .string => true
  | _ => false
def scalarT (P : Program) (t : TypeId) : Option TypeDesc := (P.underlying t).bind fun d => if scalarD d then some d else none
def flatF0 (P : Program) : Nat → List Field → Option (List TypeDesc)
  | _, [] => some []
  | i, f :: fs => (scalarT P f.type).bind fun d => if f.name ≠ "_" ∧ f.offset = i then (flatF0 P (i + 1) fs).map (d :: ·) else none
def nestT (P : Program) (t : TypeId) : Option (List TypeDesc) :=
  match P.underlying t with
  | some (.struct gs) => if P.stoodInHeld t then none else (flatF0 P 0 gs.toList).bind fun ds => if szT P t = some ds.length ∧ aggT P t = some true then some ds else none
  | _ => none
def flatFields (P : Program) : Nat → List Field → Option (List TypeDesc)
  | _, [] => some []
  | i, f :: fs => if f.name ≠ "_" ∧ f.offset = i then
      (match scalarT P f.type with
       | some d => (flatFields P (i + 1) fs).map (d :: ·)
       | none => (nestT P f.type).bind fun ds => (flatFields P (i + ds.length) fs).map (ds ++ ·))
    else none
def kindsOf (P : Program) (t : TypeId) : Option (List TypeDesc) :=
  if P.eqGuardType P.depth t then none else
  match P.underlying t with
  | some (.struct fields) => if P.stoodInHeld t then none else flatFields P 0 fields.toList
  | some (.array n elem) => (scalarT P elem).bind fun d => if szT P elem = some 1 then some (List.replicate n d) else none
  | _ => none
def eqCells : List TypeDesc → List PV → List PV → Option Bool
  | [], [], [] => some true
  | .bool :: ts, .d (.bool a) :: xs, .d (.bool b) :: ys => (eqCells ts xs ys).map ((a == b) && ·)
  | .int _ :: ts, .d (.int k a) :: xs, .d (.int k' b) :: ys => if k = k' then (eqCells ts xs ys).map ((a == b) && ·) else none
  | .string :: ts, .d (.str a) :: xs, .d (.str b) :: ys => (eqCells ts xs ys).map ((a == b) && ·)
  | _, _, _ => none
def evBin (P : Program) (op : BinOp) (t : TypeId) (x y : PV) : Option PV :=
  match x, y with
  | .agg xs, .agg ys =>
    (kindsOf P t).bind fun ks =>
      (match op with
       | .eql => (eqCells ks xs ys).map fun b => .d (.bool b)
       | .neq => (eqCells ks xs ys).map fun b => .d (.bool (!b))
       | _ => none)
  | _, _ => (toV x).bind fun a => (toV y).bind fun b => (pureRun P (binOp op t a b)).bind ofScalar
def natOf : PV → Option Nat
  | .d (.int _ n) => if 0 ≤ n then some n.toNat else none
  | _ => none
def bound (ρ : Nat → PV) (x : Option Operand) (dflt : Nat) : Option Nat :=
  match x with
  | none => some dflt
  | some o => (use ρ o).bind natOf
def evSlice (P : Program) (ρ : Nat → PV) (t : TypeId) (x : Operand) (lo hi mx : Option Operand) : Option PV :=
  (use ρ x).bind fun p =>
  match P.underlying t, p with
  | some .string, .d (.str s) =>
    if mx.isSome then none else
    (bound ρ lo 0).bind fun l => (bound ρ hi s.size).bind fun h => if l ≤ h ∧ h ≤ s.size then some (.d (.str (s.extract l h))) else none
  | some (.slice elem), .d (.slice rows) =>
    (szT P elem).bind fun sz =>
    (bound ρ lo 0).bind fun l => (bound ρ hi rows.length).bind fun h =>
    if rowsOk sz rows && decide (l ≤ h) && decide (h ≤ rows.length) then
      match mx with
      | none => some (.d (.slice ((rows.take h).drop l)))
      | some m => if hi.isSome then (bound ρ (some m) 0).bind fun m => if m = h then some (acc ((rows.take h).drop l)) else none else none
    else none
  | some (.slice elem), .ms id off len sz =>
    if szT P elem = some sz ∧ mx.isNone = true then
      (bound ρ lo 0).bind fun l => (bound ρ hi len).bind fun h => if l ≤ h ∧ h ≤ len then some (.ms id (off + l * sz) (h - l) sz) else none
    else none
  | _, _ => none
def evIndexAddr (P : Program) (t : TypeId) (x i : PV) : Option PV :=
  (natOf i).bind fun n =>
  match P.underlying t, x with
  | some (.slice elem), .d (.slice rows) =>
    (rows[n]?).bind fun r => if szT P elem = some r.length ∧ 0 < r.length then some (.ro r) else none
  | some (.array len elem), .ptr id off => (szT P elem).bind fun sz => if n < len then some (.ptr id (off + n * sz)) else none
  | some (.slice elem), .ms id off len sz => if szT P elem = some sz ∧ n < len then some (.ptr id (off + n * sz)) else none
  | _, _ => none
def partP (P : Program) (t : TypeId) (cs : List PV) (off : Nat) : Option PV :=
  (aggT P t).bind fun a => if a then (szT P t).bind fun sz => some (.agg (((cs.drop off).take sz).map PV.strip1)) else (cs[off]?).map PV.strip1
def evIndex (P : Program) (t : TypeId) (x i : PV) : Option PV :=
  (natOf i).bind fun n =>
  match P.underlying t, x with
  | some (.array len elem), .agg cs => if n < len then (szT P elem).bind fun sz => partP P elem cs (n * sz) else none
  | some .string, .d (.str s) => (s[n]?).map fun b => .d (.int .u8 b.toNat)
  | _, _ => none
def evField (P : Program) (t : TypeId) (x : PV) (f : Nat) : Option PV :=
  match P.underlying t, x with
  | some (.struct fields), .agg cs => (fields[f]?).bind fun fl => partP P fl.type cs fl.offset
  | _, _ => none
def evFieldAddr (P : Program) (t : TypeId) (x : PV) (f : Nat) : Option PV :=
  match P.underlying t with
  | some (.struct fields) =>
    (fields[f]?).bind fun fl => (szT P fl.type).bind fun sz => if sz = 0 then none else
      match x with
      | .ptr id off => some (.ptr id (off + fl.offset))
      | .ro cells => some (.ro (cells.drop fl.offset))
      | _ => none
  | _ => none
def byteOfRow : List DV → Option Int
  | [.int .u8 n] => some n
  | _ => none
def bytesOfRows : List (List DV) → Option (List Int)
  | [] => some []
  | r :: rs => (byteOfRow r).bind fun n => (bytesOfRows rs).map (n :: ·)
def isU8 (P : Program) (e : TypeId) : Bool := match P.underlying e with | some (.int .u8) => true | _ => false
def evBytesStr (P : Program) (src dst : TypeId) (rows : List (List DV)) : Option PV :=
  match P.underlying src, P.underlying dst with
  | some (.slice e), some .string => if isU8 P e then (bytesOfRows rows).map fun xs => .d (.str (strOfNums xs)) else none
  | _, _ => none
def evConvert (P : Program) (src dst : TypeId) (x : PV) : Option PV :=
  match x with
  | .d (.slice rows) => evBytesStr P src dst rows
  | x => (toV x).bind fun a => (pureRun P (convert src dst a)).bind ofScalar
def elemsOf : PV → Option (List (List DV))
  | .d (.slice rows) => some rows
  | _ => none
def ownRows : PV → Option (List (List DV))
  | .e0 => some []
  | .os (r :: rs) => some (r :: rs)
  | _ => none
def roomB : Nat := 2 ^ 45
def appT (P : Program) (t : TypeId) : Option (Nat × Nat) :=
  match P.underlying t with
  | some (.slice elem) =>
    match P.info? elem with
    | some ie => if 0 < ie.size ∧ 0 < ie.bytes ∧ ie.zero.map (fun z => z.cells.size) = some ie.size then some (ie.size, ie.bytes) else none
    | none => none
  | _ => none
def evAppend (P : Program) (t : TypeId) (s x : PV) : Option PV :=
  (appT P t).bind fun k => (ownRows s).bind fun rs => (elemsOf x).bind fun xs =>
    if rowsOk k.1 rs && rowsOk k.1 xs && decide ((rs.length + xs.length) * k.2 ≤ roomB) then some (acc (rs ++ xs)) else none
def evLen (P : Program) (t : TypeId) (x : PV) : Option PV :=
  match P.underlying t, x with
  | some .string, .d (.str s) => some (.d (.int .i64 s.size))
  | some (.slice _), .d (.slice rows) => some (.d (.int .i64 rows.length))
  | some (.slice _), .ms _ _ len _ => some (.d (.int .i64 len))
  | some (.array n _), _ => some (.d (.int .i64 n))
  | _, _ => none
def toVL : List PV → Option (List Value)
  | [] => some []
  | p :: ps => (toV p).bind fun v => (toVL ps).map (v :: ·)
def evMinMax (P : Program) (isMax : Bool) (xs : List PV) : Option PV :=
  (toVL xs).bind fun vs => (pureRun P (if isMax then Builtin.max_ #[] 0 vs.toArray else Builtin.min_ #[] 0 vs.toArray)).bind ofScalar
def rowsFrom (sz : Nat) : Nat → List (Nat × PV) → Option (List (List DV))
  | _, [] => some []
  | i, (j, p) :: rest => if i = j then (toDL (cellsOf p)).bind fun r => if r.length = sz then (rowsFrom sz (i + 1) rest).map (r :: ·) else none else none
def useParts (ρ : Nat → PV) : List (Nat × Operand) → Option (List (Nat × PV))
  | [] => some []
  | (i, x) :: xs => (use ρ x).bind fun p => (useParts ρ xs).map ((i, p) :: ·)
def evPure (P : Program) (ρ : Nat → PV) : Op → Option PV
  | .pick c a b => (use ρ c).bind fun cv => (use ρ a).bind fun x => (use ρ b).bind fun y => match cv with | .d (.bool t) => some (if t then x else y) | _ => none
  | .build t parts =>
    (zeroT P t).bind fun z => (placesOf P t).bind fun pl => (useParts ρ parts.toList).bind fun ps => (fillP pl (cellsOf z) ps).map .agg
  | .buildSlice t len parts =>
    match P.underlying t with
    | some (.slice elem) =>
      (szT P elem).bind fun sz => (useParts ρ parts.toList).bind fun ps =>
      if ps.length = len ∧ len * sz ≤ 2 ^ 24 ∧ 0 < sz ∧ ((P.info? elem).bind (·.zero)).isSome then (rowsFrom sz 0 ps).map acc else none
    | _ => none
  | .nilCheck x => (use ρ x).bind fun p => match p with | .ptr .. => some p | .ro .. => some p | .func (.func _) _ _ => some p | _ => none
  | .binOp op t x y _ => (use ρ x).bind fun p => (use ρ y).bind fun q => evBin P op t p q
  | .unOp op _ x => (use ρ x).bind fun p => (toV p).bind fun a => (pureRun P (Op.unary op a)).bind ofScalar
  | .convert s d x => (use ρ x).bind fun p => evConvert P s d p
  | .makeInterface t x => match P.underlying t with
    | some (.interface _) => none
    | some _ => (use ρ x).map fun p => .iface t p
    | none => none
  | .makeFunc fn first captured => (useL ρ first.toList).bind fun f => (useL ρ captured.toList).map fun c => .func fn f c
  | .slice t x lo hi mx => evSlice P ρ t x lo hi mx
  | .fieldAddr t x f => (use ρ x).bind fun p => evFieldAddr P t p f
  | .field t x f => (use ρ x).bind fun p => evField P t p f
  | .indexAddr t x i => (use ρ x).bind fun p => (use ρ i).bind fun q => evIndexAddr P t p q
  | .index t x i => (use ρ x).bind fun p => (use ρ i).bind fun q => evIndex P t p q
  | .extract x i => (use ρ x).bind fun p => match p with | .tup vs => (vs[i]?).map PV.strip | _ => none
  | _ => none
abbrev Gives := PV × Option Nat × Store
def moveIt (ρ : Nat → PV) (take : Bool) (σ : Store) : Operand → Option Gives
  | .tmp s => if take then some (ρ s, some s, σ) else some ((ρ s).strip, none, σ)
  | x => (opv ρ x).map fun p => (p, none, σ)
def loadAs (P : Program) (t : TypeId) (σ : Store) (take : Bool) (p : PV) : Option (PV × Store) :=
  (aggT P t).bind fun a =>
  match p with
  | .ptr id off =>
    if a then (szT P t).bind fun sz => (loadS σ id off sz).map fun cs => (.agg (cs.map PV.strip1), σ)
    else (loadS σ id off 1).bind fun cs => match cs with
      | [c] => if take then (storeS σ id off [c.strip1]).map fun σ' => (c, σ') else some (c.strip, σ)
      | _ => none
  | .ro cells =>
    if a then (szT P t).bind fun sz => if sz ≤ cells.length then some (.agg ((cells.take sz).map .d), σ) else none
    else (cells[0]?).map fun c => (.d c, σ)
  | _ => none
def oneP : PV → Bool
  | .agg _ | .tup _ | .undef | .any => false
  | _ => true
def storedCells : PV → List PV
  | .agg cs => cs.map PV.keep0
  | v => [v]
def storeAs (P : Program) (lo : Bool) (t : TypeId) (σ : Store) (p v : PV) : Option Store :=
  match p with
  | .ptr id off => if szT P t = some (storedCells v).length ∧ (lo || isBelowL id (storedCells v)) = true ∧ (storedCells v).all oneP = true then storeS σ id off (storedCells v) else none
  | _ => none
def chunks (sz : Nat) : Nat → List DV → List (List DV)
  | 0, _ => []
  | n + 1, ds => ds.take sz :: chunks sz n (ds.drop sz)
def allD (f : PV → Option DV) : List PV → Option (List DV)
  | [] => some []
  | p :: ps => (f p).bind fun x => (allD f ps).map (x :: ·)
def frzD (σ : Store) : Nat → PV → Option DV
  | 0, _ => none
  | k + 1, p => match p with
    | .d x => some x
    | .e0 => some (.slice [])
    | .os rows => some (.slice rows)
    | .ms id off len sz => (σ[id]?).bind fun cells => if off + len * sz ≤ cells.length then (allD (frzD σ k) ((cells.drop off).take (len * sz))).map fun ds => .slice (chunks sz len ds) else none
    | _ => none
def frz1 (σ : Store) (k : Nat) : PV → Option PV
  | .agg cs => (allD (frzD σ k) cs).map fun ds => .agg (ds.map .d)
  | p => (frzD σ k p).map .d
def allP (f : PV → Option PV) : List PV → Option (List PV)
  | [] => some []
  | p :: ps => (f p).bind fun x => (allP f ps).map (x :: ·)
def frzP (σ : Store) (k : Nat) : PV → Option PV
  | .tup vs => (allP (frz1 σ k) vs).map .tup
  | p => frz1 σ k p
abbrev FnEv := FuncId → List PV → Store → Option (PV × Store)
open Classical in
noncomputable def callIt (E : Env) (F : FnEv) (f : FuncId) (args : List PV) (σ : Store) : Option (PV × Store) :=
  match E.ext E.loose f with
  | some g => (g args σ).map fun r => (r.1.strip, if r.1.isData then r.2.take σ.length else r.2)
  | none =>
  match E.ov f with
  | some g => if isDataL args then (g args).bind fun r => if r.isData then some (r, σ) else none else none
  | none =>
    if E.pure f then (if isDataL args then (F f args []).bind fun r => if r.1.isData then some (r.1, σ) else (frzP r.2 (r.2.length + 1) r.1).map fun v => (v, σ) else none)
    else if E.ro f then (F f args σ).bind fun r => if r.1.isData = true ∧ r.2.take σ.length = σ then some (r.1.strip, σ) else none
    else (F f args σ).bind fun r => if r.1.isData then some (r.1.strip, r.2.take σ.length) else some (r.1.strip, r.2)
def repCells : Nat → List PV → List PV
  | 0, _ => []
  | n + 1, z => z ++ repCells n z
def flatD : List (List DV) → List PV
  | [] => []
  | r :: rs => r.map .d ++ flatD rs
def evCopy (P : Program) (lo : Bool) (t : TypeId) (σ : Store) (p q : PV) : Option (PV × Store) :=
  match P.underlying t, p, q with
  | some (.slice e), .ms id off len sz, .d (.slice rows) =>
    if szT P e = some sz ∧ rowsOk sz rows = true then
      (storeS σ id off (flatD (rows.take (min rows.length len)))).map fun σ' => (.d (.int .i64 (min rows.length len : Nat)), σ')
    else none
  | some (.slice e), .ms id off len sz, .ms id' off' len' sz' =>
    if szT P e = some sz ∧ sz' = sz then
      (loadS σ id' off' (min len' len * sz)).bind fun cs =>
      if (lo || isBelowL id (cs.map PV.strip1)) = true ∧ (cs.map PV.strip1).all oneP = true then
        (storeS σ id off (cs.map PV.strip1)).map fun σ' => (.d (.int .i64 (min len' len : Nat)), σ')
      else none
    else none
  | _, _, _ => none
def evClear (P : Program) (t : TypeId) (σ : Store) (p : PV) : Option (PV × Store) :=
  match P.underlying t, p with
  | some (.slice e), .ms id off len sz =>
    (zeroT P e).bind fun z => if (cellsOf z).length = sz ∧ szT P e = some sz ∧ (cellsOf z).all oneP = true then (storeS σ id off (repCells len (cellsOf z))).map fun σ' => (.tup [], σ') else none
  | _, _ => none
def slotOf : Operand → Option Nat
  | .tmp s => some s
  | _ => none
noncomputable def evCall (E : Env) (F : FnEv) (ρ : Nat → PV) (σ : Store) (c : Call) : Option Gives :=
  match c.callee with
  | .builtin .append =>
    (match c.argTypes.toList, c.args.toList with
     | [tS, tX], [s, x] => if tS = tX then (opv ρ s).bind fun sv => (use ρ x).bind fun xv => (evAppend E.P tS sv xv).map fun r => (r, slotOf s, σ) else none
     | _, _ => none)
  | .builtin .len =>
    (match c.argTypes.toList, c.args.toList with
     | [t], [x] => (use ρ x).bind fun p => (evLen E.P t p).map fun r => (r, none, σ)
     | _, _ => none)
  | .builtin .copy =>
    (match c.argTypes.toList, c.args.toList with
     | [t, _], [x, y] => (use ρ x).bind fun p => (use ρ y).bind fun q => (evCopy E.P E.loose t σ p q).map fun r => (r.1, none, r.2)
     | _, _ => none)
  | .builtin .clear =>
    (match c.argTypes.toList, c.args.toList with
     | [t], [x] => (use ρ x).bind fun p => (evClear E.P t σ p).map fun r => (r.1, none, r.2)
     | _, _ => none)
  | .builtin .min => (useL ρ c.args.toList).bind fun ps => (evMinMax E.P false ps).map fun r => (r, none, σ)
  | .builtin .max => (useL ρ c.args.toList).bind fun ps => (evMinMax E.P true ps).map fun r => (r, none, σ)
  | .builtin _ => none
  | .invoke _ _ => none
  | .value f =>
    (use ρ f).bind fun fv => (useL ρ c.args.toList).bind fun args =>
    match fv with
    | .func (.func g) first captured => (callIt E F g (first.map PV.strip ++ args ++ captured.map PV.strip) σ).map fun r => (r.1, none, r.2)
    | _ => none
def mkApp (P : Program) (t : TypeId) (σ : Store) (s x : PV) : Option (PV × Store) :=
  match x with
  | .ms id off len sz => (appT P t).bind fun k => (ownRows s).bind fun rs => (loadS σ id off (len * sz)).bind fun cs =>
    if rs.isEmpty && (decide (sz = k.1) && (decide (0 < len) && (decide (len * k.2 ≤ roomB) && (cs.map PV.strip1).all oneP))) then some (.ms σ.length 0 len sz, σ ++ [cs.map PV.strip1]) else none
  | x =>
  (appT P t).bind fun k => (ownRows s).bind fun rs => (elemsOf x).bind fun xs =>
    if rs.isEmpty && (rowsOk k.1 xs && decide (xs.length * k.2 ≤ roomB)) then
      (if xs.isEmpty then some (.e0, σ) else some (.ms σ.length 0 xs.length k.1, σ ++ [flatD xs])) else none
def evMkApp (E : Env) (ρ : Nat → PV) (σ : Store) (c : Call) : Option Gives :=
  match c.callee with
  | .builtin .append =>
    (match c.argTypes.toList, c.args.toList with
     | [tS, tX], [s, x] => if tS = tX then (opv ρ s).bind fun sv => (use ρ x).bind fun xv => (mkApp E.P tS σ sv xv).map fun r => (r.1, none, r.2) else none
     | _, _ => none)
  | _ => none
def takes (aps : List Nat) : Option Tmp → Bool
  | some d => aps.contains d
  | none => false
def evMake (P : Program) (t : TypeId) (n m : Nat) : Option (Nat × List PV) :=
  (appT P t).bind fun k => match P.underlying t with
    | some (.slice e) => (zeroT P e).bind fun z => if n ≤ m ∧ m * k.2 ≤ roomB then some (k.1, repCells m (cellsOf z)) else none
    | _ => none
def evMakeD (P : Program) (t : TypeId) (n m : Nat) : Option PV :=
  (appT P t).bind fun k => match P.underlying t with
    | some (.slice e) => (zeroT P e).bind fun z => (toDL (cellsOf z)).bind fun r => if n ≤ m ∧ m * k.2 ≤ roomB ∧ r.length = k.1 then some (.d (.slice (List.replicate n r))) else none
    | _ => none
def boxCells : PV → List PV
  | .agg cs => cs.map PV.keep0
  | p => [p.keep0]
noncomputable def evCore (E : Env) (F : FnEv) (aps : List Nat) (dst : Option Tmp) (op : Op) (ρ : Nat → PV) (σ : Store) : Option Gives :=
  match op with
  | .move x => moveIt ρ (takes aps dst) σ x
  | .assign x => moveIt ρ true σ x
  | .alloc t => (zeroT E.P t).map fun z => (.ptr σ.length 0, none, σ ++ [cellsOf z])
  | .box t x => (opv ρ x).map fun p => (.ptr σ.length 0, none, σ ++ [boxCells p])
  | .load t a => (use ρ a).bind fun p => (loadAs E.P t σ (takes aps dst) p).map fun r => (r.1, none, r.2)
  | .store t a x => (use ρ a).bind fun p => (opv ρ x).bind fun v => (storeAs E.P E.loose t σ p v).map fun σ' => (.undef, slotOf x, σ')
  | .call c => if mkSel E dst then evMkApp E ρ σ c else evCall E F ρ σ c
  | .makeSlice t l c => (use ρ l).bind fun lv => (use ρ c).bind fun cv => (natOf lv).bind fun n => (natOf cv).bind fun m => if mkSel E dst then (evMakeD E.P t n m).map fun r => (r, none, σ) else (evMake E.P t n m).map fun r => (.ms σ.length 0 n r.1, none, σ ++ [r.2])
  | op => (evPure E.P ρ op).map fun r => (r, none, σ)
def putS (slots : List PV) (dst : Option Tmp) (v : PV) : List PV :=
  match dst with
  | some d => slots.set d v
  | none => slots
def untake (slots : List PV) (tr : Option Nat) : List PV :=
  match tr with
  | some s => slots.set s (rd slots s).strip
  | none => slots
def evWant (ops : Array Oper) (o : Oper) (ρ : Nat → PV) : Option Bool :=
  match o.guard with
  | none => some true
  | some (j, want) =>
    match (ops[j]?).bind (·.dst) with
    | none => some false
    | some s => match ρ s with
      | .d (.bool b) => some (b == want)
      | .undef => some false
      | _ => none
noncomputable def evOp (E : Env) (F : FnEv) (ops : Array Oper) (o : Oper) (st : St) : Option St :=
  (evWant ops o (rd st.slots)).bind fun w =>
  if w then (evCore E F (appendFirst ops.toList) o.dst o.op (rd st.slots) st.store).map fun g =>
    { slots := putS (untake st.slots g.2.1) o.dst g.1, store := g.2.2 }
  else some { st with slots := putS st.slots o.dst .undef }
noncomputable def evOps (E : Env) (F : FnEv) (ops : Array Oper) : List Oper → St → Option St
  | [], st => some st
  | o :: os, st => (evOp E F ops o st).bind (evOps E F ops os)
inductive Ex where
  | normal | exit (id : Nat) | ret
  deriving DecidableEq
def loopN (step : St → Option (Ex × St)) : Nat → St → Option (Ex × St)
  | 0, _ => none
  | n + 1, st => (step st).bind fun r => match r.1 with
    | .normal => loopN step n r.2
    | _ => some r
def posOf (ops : Array Oper) : String := match ops[0]? with | some o => o.pos | none => ""
def apartB (ρ : Nat → PV) (x : Nat × Nat) : Bool :=
  match ρ x.1, ρ x.2 with
  | .ptr i _, .ptr j _ => i != j
  | _, _ => false
def apartL (ρ : Nat → PV) : List (Nat × Nat) → Bool
  | [] => true
  | x :: xs => apartB ρ x && apartL ρ xs
/-! #### Two boxes made in either order -/
def swId (n i : Nat) : Nat := if i = n then n + 1 else if i = n + 1 then n else i
open Classical in
mutual
noncomputable def swPV (n : Nat) : PV → PV → Bool
  | .undef, .undef => true
  | .any, .any => true
  | .d x, .d y => x.same y
  | .e0, .e0 => true
  | .os r, .os q => sameRows r q
  | .ptr i o, .ptr j q => (swId n i == j) && (o == q)
  | .ms i o l z, .ms j q m y => (swId n i == j) && ((o == q) && ((l == m) && (z == y)))
  | .nilptr, .nilptr => true
  | .nilFunc, .nilFunc => true
  | .nilIface, .nilIface => true
  | .func f a c, .func g b d => decide (f = g) && (swL n a b && swL n c d)
  | .agg xs, .agg ys => swL n xs ys
  | .tup xs, .tup ys => swL n xs ys
  | _, _ => false
noncomputable def swL (n : Nat) : List PV → List PV → Bool
  | [], [] => true
  | p :: ps, q :: qs => swPV n p q && swL n ps qs
  | _, _ => false
end
def takenFrom (aps : List Nat) (o : Oper) : List Nat :=
  match o.op with
  | .move x => if takes aps o.dst then (slotOf x).toList else []
  | .assign x => (slotOf x).toList
  | .store _ _ x => (slotOf x).toList
  | .call c => (match c.callee, c.args.toList with
    | .builtin .append, s :: _ => (slotOf s).toList
    | _, _ => [])
  | _ => []
def writesOf (aps : List Nat) (o : Oper) : List Nat := takenFrom aps o ++ o.dst.toList
noncomputable def swRest (n : Nat) : List (List PV) → List (List PV) → Bool
  | [], [] => true
  | a :: r, b :: q => swL n a b && swRest n r q
  | _, _ => false
noncomputable def swBoxes (n : Nat) : List (List PV) → List (List PV) → Bool
  | a :: b :: r, c :: d :: q => swL n a d && (swL n b c && swRest n r q)
  | _, _ => false
open Classical in
noncomputable def swOk (n : Nat) (σ : Store) (ws : List Nat) (s1 s2 : St) : Bool :=
  decide (s1.store.take n = σ) && (decide (s2.store.take n = σ) && (swBoxes n (s1.store.drop n) (s2.store.drop n) && ws.all fun i => swPV n (rd s1.slots i) (rd s2.slots i)))
def listed (ops : Array Oper) (L : List Nat) : List Oper := L.filterMap fun i => ops[i]?
noncomputable def evAlt (E : Env) (F : FnEv) (ops : Array Oper) (st : St) (L : List Nat) (s1 : St) : Option (Ex × St) :=
  (evOps E F ops (listed ops L) st).bind fun s2 => if swOk st.store.length st.store (ops.toList.flatMap (writesOf (appendFirst ops.toList))) s1 s2 then some (.normal, s1) else none
noncomputable def evCode (E : Env) (F : FnEv) (k : Nat) : Code → St → Option (Ex × St)
  | .skip, st => some (.normal, st)
  | .region _ ops draw, st => if draw && !apartL (rd st.slots) (E.apart (posOf ops) ops.size) then none else
    match (if draw then E.alt (posOf ops) ops.size else none) with
    | none => (evOps E F ops ops.toList st).map fun st' => (.normal, st')
    | some x => (evOps E F ops ops.toList st).bind (evAlt E F ops st x.1)
  | .seq a b, st => (evCode E F k a st).bind fun r => match r.1 with
    | .normal => evCode E F k b r.2
    | _ => some r
  | .cond c x y, st => (use (rd st.slots) c).bind fun p => match p with
    | .d (.bool t) => if t then evCode E F k x st else evCode E F k y st
    | _ => none
  | .block id b, st => (evCode E F k b st).map fun r => if r.1 = .exit id then (.normal, r.2) else r
  | .loop b, st => loopN (evCode E F k b) k st
  | .exit id, st => some (.exit id, st)
  | .ret, st => some (.ret, st)
  | .scope b, st => evCode E F k b st
  | .label _, st => some (.normal, st)
  | _, _ => none
def resOne (P : Program) (st : St) : ResultVar → Option PV
  | .tmp t => some (rd st.slots t)
  | .cell a t => (loadAs P t st.store false (rd st.slots a)).map (·.1)
def resL (P : Program) (st : St) : List ResultVar → Option (List PV)
  | [] => some []
  | r :: rs => (resOne P st r).bind fun p => (resL P st rs).map (p.strip :: ·)
def retOf : PV → PV
  | .agg cs => .agg (cs.map PV.strip1)
  | p => p
def resVal (P : Program) (fn : Func) (st : St) : Option PV :=
  match fn.results.toList with
  | [r] => (resOne P st r).map retOf
  | rs => (resL P st rs).map .tup
open Classical in
noncomputable def evF (E : Env) : Nat → FnEv
  | 0, _, _, _ => none
  | k + 1, f, args, σ =>
    if E.good f then
      match E.P.funcs[f]? with
      | none => none
      | some fn =>
        match fn.body with
        | none => none
        | some c =>
          (evCode (E.at f) (evF E k) k c ⟨args ++ List.replicate (fn.ntmps - args.length) .undef, σ⟩).bind fun r =>
            if E.wild f = true ∧ r.2.store.take σ.length ≠ σ then none else
            if r.1 = .normal ∨ r.1 = .ret then (resVal E.P fn r.2).map fun v => (v, r.2.store) else none
    else none
end Go.Pv

namespace Go.Pv
open Go
inductive Loc where
  | box (id : Nat) | cell (id j : Nat) | slot (i : Nat)
  deriving DecidableEq
abbrev OwT := Nat → Option Loc
def OwnP (w : World) (Im : ImT) (O : OwT) (loc : Loc) (p : PV) (v : Value) : Prop :=
  ∀ rows, p = .os rows → (∃ a n, v = .slice a n n) ∨
    ∃ (a : Addr) (n c sz : Nat) (cs : Array Value) (e : TypeId), v = .slice (some a) n c ∧ a.spot = none ∧ O a.block = some loc ∧
      w.heap[a.block]? = some (.cells cs e (0, 0)) ∧ rows ≠ [] ∧ (∀ r ∈ rows, r.length = sz) ∧ a.off + c * sz ≤ cs.size ∧
      ∀ o, Im a.block o → o < a.off + n * sz
theorem OwnP.of_not {w : World} {Im : ImT} {O : OwT} {loc : Loc} {p : PV} {v : Value} (h : ∀ rows, p ≠ .os rows) : OwnP w Im O loc p v :=
  fun rows hp => absurd hp (h rows)
def SameEnv (w w' : World) : Prop := w'.os = w.os ∧ w'.tape = w.tape ∧ w'.output = w.output
theorem SameEnv.refl (w : World) : SameEnv w w := ⟨rfl, rfl, rfl⟩
theorem SameEnv.trans {w w' w'' : World} (h : SameEnv w w') (h' : SameEnv w' w'') : SameEnv w w'' := ⟨h'.1.trans h.1, h'.2.1.trans h.2.1, h'.2.2.trans h.2.2⟩
structure NewW (w w' : World) : Prop where
  env : SameEnv w w'
  size : w.heap.size ≤ w'.heap.size
  same : ∀ b, b < w.heap.size → w'.heap[b]? = w.heap[b]?
theorem NewW.refl (w : World) : NewW w w := ⟨.refl w, Nat.le_refl _, fun _ _ => rfl⟩
theorem NewW.alloc (w : World) (o : Obj) : NewW w (w.alloc o) :=
  ⟨⟨rfl, rfl, rfl⟩, by simp, fun b hb => by show (w.heap.push o)[b]? = _; rw [Array.getElem?_push, if_neg (Nat.ne_of_lt hb)]⟩
theorem NewW.drew {w w' : World} (h : NewW w.drew w') : NewW w w' := ⟨h.env, h.size, h.same⟩
theorem cell_congr {w w' : World} {a : Addr} (h : w'.heap[a.block]? = w.heap[a.block]?) : w'.cell? a = w.cell? a := by
  unfold World.cell?
  rw [h]
def ImIn (w : World) (Im : ImT) : Prop := ∀ b o, Im b o → ∃ v, w.cell? ⟨b, o, none⟩ = some v
theorem ImIn.lt {w : World} {Im : ImT} (h : ImIn w Im) {b o : Nat} (hb : Im b o) : b < w.heap.size := by
  obtain ⟨v, hv⟩ := h b o hb
  unfold World.cell? at hv
  split at hv
  · rename_i hg
    exact (Array.getElem?_eq_some_iff.1 hg).1
  · simp at hv
theorem NewW.keep {w w' : World} {Im : ImT} (h : NewW w w') (hi : ImIn w Im) : Keep w Im w' Im :=
  fun b o hb => ⟨hb, cell_congr (h.same b (hi.lt hb))⟩
def PureOk (P : Program) (w : World) (Im : ImT) (β : List Nat) (s : Sem Next) (r : PV) : Prop :=
  ∃ v w' Im', s.run P w = .ok (.value v) w' ∧ NewW w w' ∧ (∀ b o, Im b o → Im' b o) ∧
    (∀ b o, Im' b o → Im b o ∨ (w.heap.size ≤ b ∧ ∃ u, w'.cell? ⟨b, o, none⟩ = some u)) ∧
    RepP w' Im' β r v ∧ ∀ O loc, OwnP w' Im' O loc r v
theorem PureOk.same {P : Program} {w : World} {Im : ImT} {β : List Nat} {s : Sem Next} {r : PV} (v : Value) (h : s.run P w = .ok (.value v) w)
    (hr : RepP w Im β r v) (ho : ∀ O loc, OwnP w Im O loc r v) : PureOk P w Im β s r :=
  ⟨v, w, Im, h, .refl w, fun _ _ h => h, fun _ _ h => .inl h, hr, ho⟩
theorem pureRun_run {P : Program} {α : Type} (s : Sem α) (a : α) (h : pureRun P s = some a) (w : World) : s.run P w = .ok a w := by
  induction s with
  | pure x => simp [pureRun] at h; subst h; rfl
  | program k ih => exact ih P h
  | mark m k ih => exact ih h
  | _ => simp [pureRun] at h
theorem toV_rep {w : World} {Im : ImT} {β : List Nat} {p : PV} {v u : Value} (h : RepP w Im β p v) (ht : toV p = some u) : v = u := by
  cases p with
  | d x =>
    cases h with
    | d h => cases x <;> simp [toV] at ht <;> subst ht <;> cases h <;> rfl
  | _ => simp [toV] at ht
theorem ofScalar_rep {w : World} {Im : ImT} {β : List Nat} {p : PV} {v : Value} (h : ofScalar v = some p) : RepP w Im β p v ∧ ∀ rows, p ≠ .os rows := by
  cases v <;> simp [ofScalar] at h <;> subst h
  · exact ⟨.d (.bool _), by simp⟩
  · exact ⟨.d (.int _ _), by simp⟩
  · exact ⟨.d (.str _), by simp⟩
theorem ofCell_rep {w : World} {Im : ImT} {β : List Nat} {p : PV} {v : Value} (h : ofCell v = some p) : RepP w Im β p v ∧ ∀ rows, p ≠ .os rows := by
  unfold ofCell at h
  split at h <;> simp at h <;> subst h
  · exact ⟨.d (.bool _), by simp⟩
  · exact ⟨.d (.int _ _), by simp⟩
  · exact ⟨.d (.str _), by simp⟩
  · exact ⟨.e0 none, by simp⟩
  · exact ⟨.nilptr, by simp⟩
  · exact ⟨.nilFunc, by simp⟩
  · exact ⟨.nilIface, by simp⟩
theorem mapM_get {α β : Type} {f : α → Option β} : ∀ {l : List α} {l' : List β}, l.mapM f = some l' → l.length = l'.length ∧ ∀ (i : Nat) (x : α), l[i]? = some x → ∃ y, l'[i]? = some y ∧ f x = some y
  | [], l', h => by simp at h; subst h; simp
  | a :: l, l', h => by
    rw [List.mapM_cons] at h
    cases ha : f a with
    | none => simp [ha] at h
    | some y =>
      cases hl : l.mapM f with
      | none => simp [ha, hl] at h
      | some ys =>
        simp [ha, hl] at h
        subst h
        obtain ⟨h1, h2⟩ := mapM_get hl
        refine ⟨by simp [h1], fun i x hx => ?_⟩
        cases i with
        | zero => simp at hx; subst hx; exact ⟨y, by simp, ha⟩
        | succ i => simp at hx; simpa using h2 i x hx
theorem ofValue_rep {w : World} {Im : ImT} {β : List Nat} {p : PV} {v : Value} (h : ofValue v = some p) : RepP w Im β p v ∧ ∀ rows, p ≠ .os rows := by
  unfold ofValue at h
  split at h
  · rename_i cs
    cases hm : cs.toList.mapM ofCell with
    | none => simp [hm] at h
    | some ps =>
      simp [hm] at h
      subst h
      obtain ⟨h1, h2⟩ := mapM_get hm
      refine ⟨.agg ps cs (by simpa using h1.symm) (fun i p v hp hv => ?_), by simp⟩
      obtain ⟨y, hy, hf⟩ := h2 i v (by simpa using hv)
      rw [hy] at hp
      simp at hp
      subst hp
      exact (ofCell_rep hf).1
  · exact ofCell_rep h
def Reps (w : World) (Im : ImT) (β : List Nat) (ρ : Nat → PV) (a : Act) : Prop := ∀ t, RepP w Im β (ρ t) (a.eval (.tmp t))
theorem opv_rep {w : World} {Im : ImT} {β : List Nat} {ρ : Nat → PV} {a : Act} (h : Reps w Im β ρ a) {x : Operand} {p : PV} (hx : opv ρ x = some p) :
    RepP w Im β p (a.eval x) := by
  cases x with
  | tmp t => simp [opv] at hx; subst hx; exact h t
  | const v => exact (ofValue_rep (v := v) (by simpa [opv] using hx)).1
  | func f => simp [opv] at hx; subst hx; exact .func _ _ _ _ _ (by simp) (by simp) (by simp) (by simp)
  | global g => simp [opv] at hx
theorem use_rep {w : World} {Im : ImT} {β : List Nat} {ρ : Nat → PV} {a : Act} (h : Reps w Im β ρ a) {x : Operand} {p : PV} (hx : use ρ x = some p) :
    RepP w Im β p (a.eval x) := by
  unfold use at hx
  cases ho : opv ρ x with
  | none => simp [ho] at hx
  | some q => simp [ho] at hx; subst hx; exact (opv_rep h ho).strip
theorem strip1_not_os (p : PV) : ∀ rows, p.strip1 ≠ .os rows := by intro rows; cases p <;> simp [PV.strip1]
theorem strip_not_os (p : PV) : ∀ rows, p.strip ≠ .os rows := by intro rows; cases p <;> simp [PV.strip, PV.strip1]
theorem use_not_os {ρ : Nat → PV} {x : Operand} {p : PV} (hx : use ρ x = some p) : ∀ rows, p ≠ .os rows := by
  unfold use at hx
  cases ho : opv ρ x with
  | none => simp [ho] at hx
  | some q => simp [ho] at hx; subst hx; exact strip_not_os q
theorem useL_rep {w : World} {Im : ImT} {β : List Nat} {ρ : Nat → PV} {a : Act} (h : Reps w Im β ρ a) : ∀ {xs : List Operand} {ps : List PV}, useL ρ xs = some ps →
    ps.length = xs.length ∧ ∀ (i : Nat) (p : PV) (v : Value), ps[i]? = some p → (xs.map a.eval)[i]? = some v → RepP w Im β p v ∧ ∀ rows, p ≠ .os rows
  | [], ps, hx => by simp [useL] at hx; subst hx; simp
  | x :: xs, ps, hx => by
    cases hu : use ρ x with
    | none => simp [useL, hu] at hx
    | some p =>
      cases hl : useL ρ xs with
      | none => simp [useL, hu, hl] at hx
      | some qs =>
        simp [useL, hu, hl] at hx
        subst hx
        obtain ⟨h1, h2⟩ := useL_rep h hl
        refine ⟨by simp [h1], fun i q v hq hv => ?_⟩
        cases i with
        | zero => simp at hq hv; subst hq; subst hv; exact ⟨use_rep h hu, use_not_os hu⟩
        | succ i => exact h2 i q v (by simpa using hq) (by simpa using hv)
section types
variable {P : Program} {w : World}
theorem aggT_run {t : TypeId} {b : Bool} (h : aggT P t = some b) (w : World) : (isAgg t).run P w = .ok b w := by
  unfold aggT at h
  cases hu : P.underlying t with
  | none => simp [hu] at h
  | some d => cases d <;> simp [hu] at h <;> subst h <;> simp [isAgg, run_underlying hu]
theorem szT_run {t : TypeId} {n : Nat} (h : szT P t = some n) (w : World) : (sizeOf t).run P w = .ok n w := by
  unfold szT at h
  cases hi : P.info? t with
  | none => simp [hi] at h
  | some i => simp [hi] at h; subst h; simp [sizeOf, typeInfo, hi]
theorem zeroT_run {t : TypeId} {p : PV} (h : zeroT P t = some p) (w : World) : ∃ v, (zeroValue t).run P w = .ok v w ∧ ofValue v = some p := by
  unfold zeroT at h
  cases hi : P.info? t with
  | none => simp [hi] at h
  | some i =>
    cases hz : i.zero with
    | none => simp [hi, hz] at h
    | some z => simp [hi, hz] at h; exact ⟨z, by simp [zeroValue, typeInfo, hi, hz], h⟩
end types
theorem RepP.agg_inv {w : World} {Im : ImT} {β : List Nat} {cells : List PV} {v : Value} (h : RepP w Im β (.agg cells) v) :
    ∃ vs : Array Value, v = .agg vs ∧ cells.length = vs.size ∧ ∀ (i : Nat) (p : PV) (v : Value), cells[i]? = some p → vs[i]? = some v → RepP w Im β p v := by
  cases h with | agg _ vs hl h => exact ⟨vs, rfl, hl, h⟩
theorem RepP.tup_inv {w : World} {Im : ImT} {β : List Nat} {cells : List PV} {v : Value} (h : RepP w Im β (.tup cells) v) :
    ∃ vs : Array Value, v = .tuple vs ∧ cells.length = vs.size ∧ ∀ (i : Nat) (p : PV) (v : Value), cells[i]? = some p → vs[i]? = some v → RepP w Im β p v := by
  cases h with | tup _ vs hl h => exact ⟨vs, rfl, hl, h⟩
theorem RepP.bool_inv {w : World} {Im : ImT} {β : List Nat} {b : Bool} {v : Value} (h : RepP w Im β (.d (.bool b)) v) : v = .bool b := by
  cases h with | d h => cases h; rfl
theorem RepP.int_inv {w : World} {Im : ImT} {β : List Nat} {k : IntKind} {n : Int} {v : Value} (h : RepP w Im β (.d (.int k n)) v) : v = .int k n := by
  cases h with | d h => cases h; rfl
theorem RepP.str_inv {w : World} {Im : ImT} {β : List Nat} {s : ByteArray} {v : Value} (h : RepP w Im β (.d (.str s)) v) : v = .string s := by
  cases h with | d h => cases h; rfl
theorem RepP.slice_inv {w : World} {Im : ImT} {β : List Nat} {rows : List (List DV)} {v : Value} (h : RepP w Im β (.d (.slice rows)) v) : RepD w Im (.slice rows) v := by
  cases h with | d h => exact h
theorem cellsOf_rep {w : World} {Im : ImT} {β : List Nat} {p : PV} {v : Value} (h : RepP w Im β p v) :
    (cellsOf p).length = v.cells.size ∧ ∀ (i : Nat) (q : PV) (u : Value), (cellsOf p)[i]? = some q → v.cells[i]? = some u → RepP w Im β q u := by
  cases p with
  | agg cs =>
    obtain ⟨vs, rfl, hl, hr⟩ := h.agg_inv
    exact ⟨hl, hr⟩
  | _ =>
    have hc : v.cells = #[v] := by cases h <;> first | rfl | (rename_i h; first | exact h | (cases h <;> rfl))
    rw [hc]
    refine ⟨rfl, fun i q u hq hu => ?_⟩
    cases i with
    | zero => simp [cellsOf] at hq hu; subst hq; subst hu; exact h
    | succ i => simp [cellsOf] at hq
theorem natOf_rep {w : World} {Im : ImT} {β : List Nat} {p : PV} {v : Value} {n : Nat} (h : RepP w Im β p v) (hn : natOf p = some n) :
    ∃ k, v = .int k (n : Int) := by
  unfold natOf at hn
  split at hn
  · rename_i k m
    split at hn
    · simp at hn
      subst hn
      exact ⟨k, by rw [h.int_inv]; congr 1; omega⟩
    · simp at hn
  · simp at hn
end Go.Pv

namespace Go.Pv
open Go
theorem foldl_set_get (off : Nat) : ∀ (vs : List Value) (k : Nat) (cells : Array Value) (i : Nat), off + k + vs.length ≤ cells.size →
    ((vs.zipIdx k).foldl (fun cs x => cs.setIfInBounds (off + x.2) x.1) cells).size = cells.size ∧
    ((vs.zipIdx k).foldl (fun cs x => cs.setIfInBounds (off + x.2) x.1) cells)[i]? = if off + k ≤ i ∧ i < off + k + vs.length then vs[i - (off + k)]? else cells[i]?
  | [], k, cells, i, _ => by simp; intro h1 h2; omega
  | v :: vs, k, cells, i, hl => by
    simp only [List.length_cons] at hl
    obtain ⟨h1, h2⟩ := foldl_set_get off vs (k + 1) (cells.setIfInBounds (off + k) v) i (by simp; omega)
    simp only [List.zipIdx_cons, List.foldl_cons]
    refine ⟨by rw [h1]; simp, ?_⟩
    rw [h2, Array.getElem?_setIfInBounds]
    simp only [List.length_cons]
    by_cases hi : i = off + k
    · subst hi
      rw [if_neg (by omega), if_pos rfl, if_pos (by omega), if_pos (by omega)]
      simp
    · by_cases hin : off + (k + 1) ≤ i ∧ i < off + (k + 1) + vs.length
      · rw [if_pos hin, if_pos (by omega)]
        have : i - (off + k) = (i - (off + (k + 1))) + 1 := by omega
        rw [this]
        simp
      · rw [if_neg hin, if_neg (fun h => hi h.symm), if_neg (by omega)]
def RepCells (w : World) (Im : ImT) (β : List Nat) (ps : List PV) (vs : Array Value) : Prop :=
  ps.length = vs.size ∧ ∀ (i : Nat) (p : PV) (v : Value), ps[i]? = some p → vs[i]? = some v → RepP w Im β p v
theorem fill_rep {w : World} {Im : ImT} {β : List Nat} (pl : Nat → Option (Nat × Nat)) : ∀ (parts : List (Nat × PV)) (vparts : List (Nat × Value)) (cells : List PV) (vcells : Array Value) (out : List PV),
    parts.length = vparts.length → (∀ (i : Nat) (x : Nat × PV) (y : Nat × Value), parts[i]? = some x → vparts[i]? = some y → x.1 = y.1 ∧ (cellsOf x.2).length = y.2.cells.size ∧ RepCells w Im β (cellsOf x.2) y.2.cells) →
    RepCells w Im β cells vcells → fillP pl cells parts = some out → ∃ vout, Instr.fill pl vcells vparts = some vout ∧ RepCells w Im β out vout
  | [], [], cells, vcells, out, _, _, hc, h => by simp [fillP] at h; subst h; exact ⟨vcells, by simp [Instr.fill], hc⟩
  | (i, p) :: parts, (j, v) :: vparts, cells, vcells, out, hl, hp, hc, h => by
    obtain ⟨h1, h2, h3⟩ := hp 0 (i, p) (j, v) (by simp) (by simp)
    simp only at h1 h2 h3
    subst h1
    simp only [fillP] at h
    cases hpl : pl i with
    | none => simp [hpl] at h
    | some os =>
      obtain ⟨off, size⟩ := os
      simp only [hpl] at h
      split at h
      · rename_i hcond
        obtain ⟨hs, hfit⟩ := hcond
        have hsz : v.cells.size = size := by omega
        have hvl : cells.length = vcells.size := hc.1
        have key := fun k => foldl_set_get off v.cells.toList 0 vcells k (by simp; omega)
        have hfold : v.cells.zipIdx.foldl (fun (cs : Array Value) (x : Value × Nat) => cs.setIfInBounds (off + x.2) x.1) vcells =
            (v.cells.toList.zipIdx 0).foldl (fun cs x => cs.setIfInBounds (off + x.2) x.1) vcells := by
          rw [← Array.foldl_toList]; simp
        have hrep : RepCells w Im β (cells.take off ++ cellsOf p ++ cells.drop (off + size))
            ((v.cells.toList.zipIdx 0).foldl (fun cs x => cs.setIfInBounds (off + x.2) x.1) vcells) := by
          refine ⟨?_, fun k q u hq hu => ?_⟩
          · rw [(key 0).1]; simp; omega
          · rw [(key k).2] at hu
            simp only [Nat.add_zero, Array.length_toList, hsz] at hu
            by_cases hk : k < off
            · rw [if_neg (by omega)] at hu
              rw [List.append_assoc, List.getElem?_append_left (by simp; omega), List.getElem?_take, if_pos hk] at hq
              exact hc.2 k q u hq hu
            · by_cases hk2 : k < off + size
              · rw [if_pos (by omega)] at hu
                rw [List.append_assoc, List.getElem?_append_right (by simp; omega), List.getElem?_append_left (by simp; omega)] at hq
                simp only [List.length_take] at hq
                rw [show min off cells.length = off by omega] at hq
                exact h3.2 (k - off) q u hq (by simpa using hu)
              · rw [if_neg (by omega)] at hu
                rw [List.getElem?_append_right (by simp; omega)] at hq
                simp only [List.length_append, List.length_take, List.getElem?_drop] at hq
                rw [show off + size + (k - (min off cells.length + (cellsOf p).length)) = k by omega] at hq
                exact hc.2 k q u hq hu
        obtain ⟨vout, hv, hr⟩ := fill_rep pl parts vparts _ _ out (by simpa using hl) (fun k x y hx hy => hp (k + 1) x y (by simpa using hx) (by simpa using hy)) hrep h
        refine ⟨vout, ?_, hr⟩
        simp only [Instr.fill, hpl]
        rw [if_neg (by simp; omega)]
        rw [hfold]
        exact hv
      · simp at h
  | [], _ :: _, _, _, _, hl, _, _, _ => by simp at hl
  | _ :: _, [], _, _, _, hl, _, _, _ => by simp at hl
theorem useParts_rep {w : World} {Im : ImT} {β : List Nat} {ρ : Nat → PV} {a : Act} (h : Reps w Im β ρ a) : ∀ {xs : List (Nat × Operand)} {ps : List (Nat × PV)}, useParts ρ xs = some ps →
    ps.length = xs.length ∧ ∀ (i : Nat) (x : Nat × PV) (y : Nat × Value), ps[i]? = some x → (xs.map fun x => (x.1, a.eval x.2))[i]? = some y → x.1 = y.1 ∧ RepP w Im β x.2 y.2 ∧ ∀ rows, x.2 ≠ .os rows
  | [], ps, hx => by simp [useParts] at hx; subst hx; simp
  | (n, x) :: xs, ps, hx => by
    cases hu : use ρ x with
    | none => simp [useParts, hu] at hx
    | some p =>
      cases hl : useParts ρ xs with
      | none => simp [useParts, hu, hl] at hx
      | some qs =>
        simp [useParts, hu, hl] at hx
        subst hx
        obtain ⟨h1, h2⟩ := useParts_rep h hl
        refine ⟨by simp [h1], fun i q v hq hv => ?_⟩
        cases i with
        | zero => simp at hq hv; subst hq; subst hv; exact ⟨rfl, use_rep h hu, use_not_os hu⟩
        | succ i => exact h2 i q v (by simpa using hq) (by simpa using hv)
end Go.Pv

namespace Go.Pv
open Go
theorem toD_rep {w : World} {Im : ImT} {β : List Nat} {p : PV} {v : Value} {x : DV} (h : RepP w Im β p v) (ht : toD p = some x) : RepD w Im x v := by
  cases h with
  | d h => simp [toD] at ht; subst ht; exact h
  | e0 a =>
    simp [toD] at ht
    subst ht
    cases a with
    | none => exact .nil
    | some a => exact .slice [] a 0 0 (fun _ => default) (by simp) (by simp) (by simp) (by simp) (by simp) (by simp)
  | os h => simp [toD] at ht; subst ht; exact h
  | _ => simp [toD] at ht
theorem toDL_get : ∀ {ps : List PV} {xs : List DV}, toDL ps = some xs → ps.length = xs.length ∧ ∀ (i : Nat) (x : DV), xs[i]? = some x → ∃ p, ps[i]? = some p ∧ toD p = some x
  | [], xs, h => by simp [toDL] at h; subst h; simp
  | p :: ps, xs, h => by
    cases hp : toD p with
    | none => simp [toDL, hp] at h
    | some x =>
      cases hl : toDL ps with
      | none => simp [toDL, hp, hl] at h
      | some ys =>
        simp [toDL, hp, hl] at h
        subst h
        obtain ⟨h1, h2⟩ := toDL_get hl
        refine ⟨by simp [h1], fun i y hy => ?_⟩
        cases i with
        | zero => simp at hy; subst hy; exact ⟨p, by simp, hp⟩
        | succ i => simp at hy; simpa using h2 i y hy
theorem fill_full (sz : Nat) : ∀ (parts : List (Nat × Value)) (k : Nat) (base : Array Value), (∀ (i : Nat) (x : Nat × Value), parts[i]? = some x → x.1 = k + i ∧ x.2.cells.size = sz) →
    (k + parts.length) * sz ≤ base.size → ∃ out, Instr.fill (fun i => some (i * sz, sz)) base parts = some out ∧ out.size = base.size ∧
      (∀ i, i < k * sz → out[i]? = base[i]?) ∧ ∀ (i : Nat) (x : Nat × Value), parts[i]? = some x → ∀ j, j < sz → out[(k + i) * sz + j]? = x.2.cells[j]?
  | [], k, base, _, _ => ⟨base, by simp [Instr.fill], rfl, fun _ _ => rfl, by simp⟩
  | (n, v) :: parts, k, base, hp, hl => by
    obtain ⟨h1, h2⟩ := hp 0 (n, v) (by simp)
    simp only [Nat.add_zero] at h1 h2
    subst h1
    simp only [List.length_cons] at hl
    have hl' : n * sz + sz + parts.length * sz ≤ base.size := by
      have : (n + (parts.length + 1)) * sz = n * sz + sz + parts.length * sz := by rw [Nat.add_mul, Nat.add_mul]; omega
      omega
    have key := fun i => foldl_set_get (n * sz) v.cells.toList 0 base i (by simp; omega)
    have hfold : v.cells.zipIdx.foldl (fun (cs : Array Value) (x : Value × Nat) => cs.setIfInBounds (n * sz + x.2) x.1) base =
        (v.cells.toList.zipIdx 0).foldl (fun cs x => cs.setIfInBounds (n * sz + x.2) x.1) base := by
      rw [← Array.foldl_toList]; simp
    obtain ⟨out, ho, hs, hlow, hin⟩ := fill_full sz parts (n + 1) ((v.cells.toList.zipIdx 0).foldl (fun cs x => cs.setIfInBounds (n * sz + x.2) x.1) base)
      (fun i x hx => by have := hp (i + 1) x (by simpa using hx); exact ⟨by omega, this.2⟩) (by rw [(key 0).1, Nat.add_right_comm, Nat.add_mul, Nat.one_mul, Nat.add_mul]; omega)
    refine ⟨out, ?_, by rw [hs, (key 0).1], fun i hi => ?_, fun i x hx j hj => ?_⟩
    · simp only [Instr.fill]
      rw [if_neg (by simp; omega), hfold]
      exact ho
    · rw [hlow i (by rw [Nat.add_mul]; omega), (key i).2, if_neg (by omega)]
    · cases i with
      | zero =>
        simp at hx
        subst hx
        rw [Nat.add_zero, hlow _ (by rw [Nat.add_mul]; omega), (key _).2, if_pos (by simp; omega)]
        simp
      | succ i =>
        have := hin i x (by simpa using hx) j hj
        rwa [show n + 1 + i = n + (i + 1) by omega] at this
theorem rowsFrom_get (sz : Nat) : ∀ {ps : List (Nat × PV)} {k : Nat} {rows : List (List DV)}, rowsFrom sz k ps = some rows →
    ps.length = rows.length ∧ (∀ r ∈ rows, r.length = sz) ∧ ∀ (i : Nat) (x : Nat × PV), ps[i]? = some x → x.1 = k + i ∧ ∃ r, rows[i]? = some r ∧ toDL (cellsOf x.2) = some r
  | [], k, rows, h => by simp [rowsFrom] at h; subst h; simp
  | (j, p) :: ps, k, rows, h => by
    simp only [rowsFrom] at h
    split at h
    · rename_i hkj
      subst hkj
      cases hd : toDL (cellsOf p) with
      | none => simp [hd] at h
      | some r =>
        simp only [hd, Option.bind_some] at h
        split at h
        · rename_i hr
          cases hrest : rowsFrom sz (k + 1) ps with
          | none => simp [hrest] at h
          | some rs =>
            simp [hrest] at h
            subst h
            obtain ⟨h1, h2, h3⟩ := rowsFrom_get sz hrest
            refine ⟨by simp [h1], ?_, fun i x hx => ?_⟩
            · intro q hq
              rcases List.mem_cons.1 hq with rfl | hq
              · exact hr
              · exact h2 q hq
            · cases i with
              | zero => simp at hx; subst hx; exact ⟨by simp, r, by simp, hd⟩
              | succ i => have := h3 i x (by simpa using hx); simpa [Nat.add_assoc, Nat.add_comm 1 i] using this
        · simp at h
    · simp at h
theorem new_row {w : World} {Im : ImT} (cs : Array Value) (e : TypeId) (hin : ImIn w Im) :
    let Im' : ImT := fun b o => Im b o ∨ (b = w.heap.size ∧ o < cs.size)
    Keep w Im (w.alloc (.cells cs e)) Im' ∧ (∀ b o, Im' b o → Im b o ∨ (w.heap.size ≤ b ∧ ∃ u, (w.alloc (.cells cs e)).cell? ⟨b, o, none⟩ = some u)) := by
  refine ⟨fun b o h => ⟨.inl h, ((NewW.alloc w _).keep hin b o h).2⟩, fun b o h => ?_⟩
  rcases h with h | ⟨rfl, h⟩
  · exact .inl h
  · exact .inr ⟨Nat.le_refl _, cs[o], by simp [h]⟩
theorem acc_rep {w : World} {Im : ImT} {β : List Nat} {rows : List (List DV)} {a : Addr} (h : RepD w Im (.slice rows) (.slice (some a) rows.length rows.length)) :
    RepP w Im β (acc rows) (.slice (some a) rows.length rows.length) := by
  cases rows with
  | nil => exact .e0 _
  | cons r rs => exact .os h
theorem acc_own {w : World} {Im : ImT} {O : OwT} {loc : Loc} {rows : List (List DV)} {a : Option Addr} {n : Nat} : OwnP w Im O loc (acc rows) (.slice a n n) :=
  fun _ _ => .inl ⟨a, n, rfl⟩
section ops
variable {P : Program} {w : World} {Im : ImT} {β : List Nat} {ρ : Nat → PV} {a : Act}
theorem buildSlice_ok (hρ : Reps w Im β ρ a) (hin : ImIn w Im) {t : TypeId} {len : Nat} {parts : Array (Nat × Operand)} {r : PV}
    (h : evPure P ρ (.buildSlice t len parts) = some r) :
    PureOk P w Im β (do pure (Next.value (← Instr.buildSlice t len (parts.map fun (i, x) => (i, a.eval x))))) r := by
  simp only [evPure] at h
  split at h
  · rename_i e hu
    cases hsz : szT P e with
    | none => simp [hsz] at h
    | some sz =>
      simp only [hsz, Option.bind_some] at h
      cases hps : useParts ρ parts.toList with
      | none => simp [hps] at h
      | some ps =>
        simp only [hps, Option.bind_some] at h
        split at h
        · rename_i hc
          obtain ⟨hlen, hbig, hpos, hzero⟩ := hc
          cases hr : rowsFrom sz 0 ps with
          | none => simp [hr] at h
          | some rows =>
            simp [hr] at h
            subst h
            obtain ⟨g1, g2, g3⟩ := rowsFrom_get sz hr
            obtain ⟨u1', u2⟩ := useParts_rep hρ hps
            have u1 : ps.length = parts.size := by simpa using u1'
            clear u1'
            obtain ⟨z, hz⟩ := Option.isSome_iff_exists.1 hzero
            have hsz' := hsz
            unfold szT at hsz'
            cases hie : P.info? e with
            | none => simp [hie] at hsz'
            | some ie =>
              simp [hie] at hsz'
              simp [hie] at hz
              have hvp : (parts.map fun (i, x) => (i, a.eval x)).toList = parts.toList.map fun x => (x.1, a.eval x.2) := by simp
              have hrl : rows.length = len := by omega
              -- each part's cells
              have hpart : ∀ (i : Nat) (y : Nat × Value), (parts.toList.map fun x => (x.1, a.eval x.2))[i]? = some y → y.1 = 0 + i ∧ y.2.cells.size = sz ∧
                  ∃ r, rows[i]? = some r ∧ ∀ (j : Nat) (x : DV) (v : Value), r[j]? = some x → y.2.cells[j]? = some v → RepD w Im x v := by
                intro i y hy
                have hi : i < ps.length := by
                  have := (List.getElem?_eq_some_iff.1 hy).1
                  simp at this
                  omega
                obtain ⟨q1, r, q2, q3⟩ := g3 i ps[i] (List.getElem?_eq_getElem hi)
                obtain ⟨p1, p2, _⟩ := u2 i ps[i] y (List.getElem?_eq_getElem hi) hy
                obtain ⟨c1, c2⟩ := cellsOf_rep p2
                obtain ⟨d1, d2⟩ := toDL_get q3
                have hrs : r.length = sz := g2 r (List.mem_of_getElem? q2)
                refine ⟨by omega, by omega, r, q2, fun j x v hx hv => ?_⟩
                obtain ⟨p, hp, hpd⟩ := d2 j x hx
                exact toD_rep (c2 j p v hp hv) hpd
              obtain ⟨out, ho, hos, _, hget⟩ := fill_full sz (parts.toList.map fun x => (x.1, a.eval x.2)) 0
                ((Array.range (len * sz)).map (z.cells[· % z.cells.size]!)) (fun i x hx => ⟨(hpart i x hx).1, (hpart i x hx).2.1⟩) (by simp; rw [← u1, hlen]; exact Nat.le_refl _)
              have hout : out.size = len * sz := by rw [hos]; simp
              have hfill0 : Instr.fill (fun i => some (i * sz, sz)) ((Array.range (len * sz)).map ((if len * sz = 0 then #[] else z.cells)[· % (if len * sz = 0 then #[] else z.cells).size]!)) (parts.toList.map fun x => (x.1, a.eval x.2)) = some out := by
                by_cases h0 : len * sz = 0
                · have : (Array.range (len * sz)) = #[] := by rw [h0]; rfl
                  rw [this] at ho ⊢
                  simpa using ho
                · simpa [h0] using ho
              have hrun : (do pure (Next.value (← Instr.buildSlice t len (parts.map fun (i, x) => (i, a.eval x)))) : Sem Next).run P w =
                  .ok (.value (.slice (some ⟨w.heap.size, 0, none⟩) len len)) (w.alloc (.cells out e)) := by
                by_cases h0 : len * sz = 0
                · simp only [h0, if_true] at hfill0
                  simp [Instr.buildSlice, run_underlying hu, szT_run hsz, show ¬ (16777216 < len * sz) by omega, h0, newRow]
                  simp at hfill0
                  simp [hfill0]
                · simp only [h0, if_false] at hfill0
                  simp [Instr.buildSlice, run_underlying hu, szT_run hsz, show ¬ (16777216 < len * sz) by omega, h0, newRow, zeroValue, typeInfo, hie, hz, hfill0]
              obtain ⟨k1, k2⟩ := new_row (w := w) (Im := Im) out e hin
              have hD : RepD (w.alloc (.cells out e)) (fun b o => Im b o ∨ (b = w.heap.size ∧ o < out.size)) (.slice rows) (.slice (some ⟨w.heap.size, 0, none⟩) rows.length rows.length) := by
                refine .slice rows ⟨w.heap.size, 0, none⟩ rows.length sz (fun j => out.getD j default) g2 (Nat.le_refl _) (fun _ => rfl) ?_ ?_ ?_
                · intro j hj
                  have hj' : j < out.size := by rw [hout, ← hrl]; exact hj
                  simp [hj']
                · intro j hj
                  exact .inr ⟨rfl, by rw [hout, ← hrl]; simpa using hj⟩
                · intro i j r x hi hj
                  have hil : i < len := by have := (List.getElem?_eq_some_iff.1 hi).1; omega
                  have hil2 : i < (parts.toList.map fun x => (x.1, a.eval x.2)).length := by simp; omega
                  obtain ⟨_, s2, r', s3, s4⟩ := hpart i _ (List.getElem?_eq_getElem hil2)
                  rw [hi] at s3
                  simp at s3
                  subst s3
                  have hjs : j < sz := by rw [← g2 r (List.mem_of_getElem? hi)]; exact (List.getElem?_eq_some_iff.1 hj).1
                  have hg := hget i _ (List.getElem?_eq_getElem hil2) j hjs
                  rw [Nat.zero_add] at hg
                  have hcj : j < ((parts.toList.map fun x => (x.1, a.eval x.2))[i]).2.cells.size := by omega
                  have := s4 j x _ hj (Array.getElem?_eq_getElem hcj)
                  rw [Array.getElem?_eq_getElem hcj] at hg
                  rw [Array.getD_eq_getD_getElem?, hg]
                  exact this.keep k1
              refine ⟨_, _, _, hrun, NewW.alloc w _, fun b o h => .inl h, k2, ?_, fun O loc => acc_own⟩
              rw [← hrl]
              exact acc_rep hD
        · simp at h
  · simp at h
theorem build_ok (hρ : Reps w Im β ρ a) {t : TypeId} {parts : Array (Nat × Operand)} {r : PV}
    (h : evPure P ρ (.build t parts) = some r) :
    PureOk P w Im β (do pure (Next.value (← Instr.build t (parts.map fun (i, x) => (i, a.eval x))))) r := by
  simp only [evPure] at h
  cases hz : zeroT P t with
  | none => simp [hz] at h
  | some z =>
    cases hpl : placesOf P t with
    | none => simp [hz, hpl] at h
    | some pl =>
      cases hps : useParts ρ parts.toList with
      | none => simp [hz, hpl, hps] at h
      | some ps =>
        simp only [hz, hpl, hps, Option.bind_some] at h
        cases hf : fillP pl (cellsOf z) ps with
        | none => simp [hf] at h
        | some out =>
          simp [hf] at h
          subst h
          obtain ⟨u1, u2⟩ := useParts_rep hρ hps
          unfold zeroT at hz
          cases hit : P.info? t with
          | none => simp [hit] at hz
          | some it =>
            cases hzv : it.zero with
            | none => simp [hit, hzv] at hz
            | some zv =>
              simp [hit, hzv] at hz
              have hzr := (ofValue_rep (w := w) (Im := Im) (β := β) hz).1
              obtain ⟨vout, hv, hvr⟩ := fill_rep (w := w) (Im := Im) (β := β) pl ps (parts.toList.map fun x => (x.1, a.eval x.2)) (cellsOf z) zv.cells out (by simp [u1])
                (fun i x y hx hy => ⟨(u2 i x y hx hy).1, (cellsOf_rep (u2 i x y hx hy).2.1).1, cellsOf_rep (u2 i x y hx hy).2.1⟩) (cellsOf_rep hzr) hf
              have hb : P.built t (parts.map fun (i, x) => (i, a.eval x)).toList = some vout := by
                have hvp : (parts.map fun (i, x) => (i, a.eval x)).toList = parts.toList.map fun x => (x.1, a.eval x.2) := by simp
                rw [hvp]
                unfold placesOf at hpl
                unfold Program.built
                simp only [hit]
                split at hpl
                · rename_i fields hu
                  simp only [hu, hzv]
                  cases hm : fields.toList.mapM (fun f => (szT P f.type).map fun s => (f.offset, s)) with
                  | none => simp [hm] at hpl
                  | some l =>
                    simp [hm] at hpl
                    have hm' : fields.toList.mapM (fun f => (P.info? f.type).map fun i => (f.offset, i.size)) = some l := by
                      rw [← hm]
                      congr 1
                      funext f
                      simp [szT, Function.comp_def]
                    simp only [hm']
                    rw [← hv, ← hpl]
                    congr 1
                    funext i
                    simp
                · rename_i n e hu
                  simp only [hu, hzv]
                  cases hie : P.info? e with
                  | none => simp [szT, hie] at hpl
                  | some ie =>
                    simp [szT, hie] at hpl
                    simp only []
                    rw [← hv, ← hpl]
                · simp at hpl
              exact .same (.agg vout) (by simp [run_build w t _ vout hb]) (.agg out vout hvr.1 hvr.2) (fun O loc => .of_not (by simp))
end ops
end Go.Pv

namespace Go.Pv
open Go
section ops
variable {P : Program} {w : World} {Im : ImT} {β : List Nat} {ρ : Nat → PV} {a : Act}
theorem scalarT_under {t : TypeId} {d : TypeDesc} (h : scalarT P t = some d) : P.underlying t = some d ∧ scalarD d = true := by
  unfold scalarT at h
  cases hu : P.underlying t with
  | none => simp [hu] at h
  | some d' =>
    simp [hu] at h
    obtain ⟨h1, rfl⟩ := h
    exact ⟨rfl, h1⟩
theorem scalarT_part {t : TypeId} {d : TypeDesc} (h : scalarT P t = some d) {xs : Array Value} {off : Nat} {v : Value} (hx : xs[off]? = some v) (w : World) : (part t xs off).run P w = .ok v w := by
  obtain ⟨hu, hs⟩ := scalarT_under h
  cases d <;> simp [scalarD] at hs <;> simp [part, isAgg, run_underlying hu, hx]
theorem eqCells_cons {t : TypeId} {d : TypeDesc} (hd : scalarT P t = some d) (n : Nat) {ts : List TypeDesc} {ps qs : List PV} {b : Bool} (h : eqCells (d :: ts) ps qs = some b) :
    ∃ p xs q ys c r, ps = p :: xs ∧ qs = q :: ys ∧ eqCells ts xs ys = some r ∧ b = (c && r) ∧ ∀ (u v : Value), RepP w Im β p u → RepP w Im β q v →
      (Op.equalIn (n + 1) t u v).run P w = .ok c w := by
  obtain ⟨hu, hs⟩ := scalarT_under hd
  unfold eqCells at h
  split at h
  · rename_i h1; cases h1
  · rename_i ts' a xs b' ys h1
    cases h1
    cases hr : eqCells ts xs ys with
    | none => simp [hr] at h
    | some r =>
      simp [hr] at h
      refine ⟨_, xs, _, ys, a == b', r, rfl, rfl, hr, h.symm, fun u v hpu hqv => ?_⟩
      rw [hpu.bool_inv, hqv.bool_inv]
      simp [Op.equalIn, run_underlying hu]
  · rename_i k0 ts' k a xs k' b' ys h1
    cases h1
    split at h
    · rename_i hk
      subst hk
      cases hr : eqCells ts xs ys with
      | none => simp [hr] at h
      | some r =>
        simp [hr] at h
        refine ⟨_, xs, _, ys, a == b', r, rfl, rfl, hr, h.symm, fun u v hpu hqv => ?_⟩
        rw [hpu.int_inv, hqv.int_inv]
        simp [Op.equalIn, run_underlying hu]
    · cases h
  · rename_i ts' a xs b' ys h1
    cases h1
    cases hr : eqCells ts xs ys with
    | none => simp [hr] at h
    | some r =>
      simp [hr] at h
      refine ⟨_, xs, _, ys, a == b', r, rfl, rfl, hr, h.symm, fun u v hpu hqv => ?_⟩
      rw [hpu.str_inv, hqv.str_inv]
      simp [Op.equalIn, run_underlying hu]
  · cases h
theorem eqCells_nil {ps qs : List PV} {b : Bool} (h : eqCells [] ps qs = some b) : b = true := by
  cases ps <;> cases qs <;> simp [eqCells] at h
  exact h
theorem drop_cons {α : Type} {l : List α} {i : Nat} {x : α} {xs : List α} (h : l.drop i = x :: xs) : l[i]? = some x ∧ l.drop (i + 1) = xs := by
  have h1 : l[i]? = (l.drop i)[0]? := by simp
  refine ⟨by rw [h1, h]; rfl, ?_⟩
  rw [← List.drop_drop, h]
  rfl
theorem eqFields0_run (n : Nat) {ps qs : List PV} {xs ys : Array Value} (hx : RepCells w Im β ps xs) (hy : RepCells w Im β qs ys) : ∀ (fs : List Field) (i : Nat) (ts : List TypeDesc) (b : Bool),
    flatF0 P i fs = some ts → eqCells ts (ps.drop i) (qs.drop i) = some b → (Op.eqFields (n + 1) xs ys fs).run P w = .ok b w
  | [], i, ts, b, hf, he => by
    simp [flatF0] at hf
    subst hf
    obtain rfl := eqCells_nil he
    simp [Op.eqFields]
  | f :: fs, i, ts, b, hf, he => by
    simp only [flatF0] at hf
    cases hd : scalarT P f.type with
    | none => simp [hd] at hf
    | some d =>
      simp only [hd, Option.bind_some] at hf
      split at hf
      · rename_i hc
        obtain ⟨hn, ho⟩ := hc
        cases hr : flatF0 P (i + 1) fs with
        | none => simp [hr] at hf
        | some ts' =>
          simp [hr] at hf
          subst hf
          obtain ⟨p, ps', q, qs', c, r, h1, h2, h3, h4, h5⟩ := eqCells_cons (w := w) (Im := Im) (β := β) hd n he
          obtain ⟨g1, g2⟩ := drop_cons h1
          obtain ⟨k1, k2⟩ := drop_cons h2
          have hi1 : i < xs.size := by have := (List.getElem?_eq_some_iff.1 g1).1; have := hx.1; omega
          have hi2 : i < ys.size := by have := (List.getElem?_eq_some_iff.1 k1).1; have := hy.1; omega
          have e1 := scalarT_part hd (Array.getElem?_eq_getElem hi1) w
          have e2 := scalarT_part hd (Array.getElem?_eq_getElem hi2) w
          have e3 := h5 _ _ (hx.2 i p _ g1 (Array.getElem?_eq_getElem hi1)) (hy.2 i q _ k1 (Array.getElem?_eq_getElem hi2))
          have ih := eqFields0_run n hx hy fs (i + 1) ts' r hr (by rw [g2, k2]; exact h3)
          subst h4
          simp only [Op.eqFields, hn, ho, ne_eq, not_false_eq_true, if_true, Sem.run_bind, e1, e2, e3, Result.andThen_ok]
          cases c
          · simp
          · simpa using ih
      · cases hf
theorem eqCells_append : ∀ (ds : List TypeDesc) {ts : List TypeDesc} {ps qs : List PV} {b : Bool}, eqCells (ds ++ ts) ps qs = some b →
    ∃ c r, eqCells ds (ps.take ds.length) (qs.take ds.length) = some c ∧ eqCells ts (ps.drop ds.length) (qs.drop ds.length) = some r ∧ b = (c && r)
  | [], ts, ps, qs, b, h => ⟨true, b, by simp [eqCells], by simpa using h, by simp⟩
  | d :: ds, ts, ps, qs, b, h => by
    rw [List.cons_append] at h
    unfold eqCells at h
    split at h
    · rename_i h1; cases h1
    · rename_i ts' a xs b' ys h1
      cases h1
      cases hr : eqCells (ds ++ ts) xs ys with
      | none => simp [hr] at h
      | some r =>
        simp [hr] at h
        obtain ⟨c, r', h2, h3, h4⟩ := eqCells_append ds hr
        exact ⟨(a == b') && c, r', by simp [eqCells, h2], by simpa using h3, by rw [← h, h4, Bool.and_assoc]⟩
    · rename_i k0 ts' k a xs k' b' ys h1
      cases h1
      split at h
      · rename_i hk
        subst hk
        cases hr : eqCells (ds ++ ts) xs ys with
        | none => simp [hr] at h
        | some r =>
          simp [hr] at h
          obtain ⟨c, r', h2, h3, h4⟩ := eqCells_append ds hr
          exact ⟨(a == b') && c, r', by simp [eqCells, h2], by simpa using h3, by rw [← h, h4, Bool.and_assoc]⟩
      · cases h
    · rename_i ts' a xs b' ys h1
      cases h1
      cases hr : eqCells (ds ++ ts) xs ys with
      | none => simp [hr] at h
      | some r =>
        simp [hr] at h
        obtain ⟨c, r', h2, h3, h4⟩ := eqCells_append ds hr
        exact ⟨(a == b') && c, r', by simp [eqCells, h2], by simpa using h3, by rw [← h, h4, Bool.and_assoc]⟩
    · cases h
theorem RepCells.cut {ps : List PV} {xs : Array Value} (hx : RepCells w Im β ps xs) (i n : Nat) : RepCells w Im β ((ps.drop i).take n) (xs.extract i (i + n)) := by
  refine ⟨by have := hx.1; simp; omega, fun j p v hp hv => ?_⟩
  rw [List.getElem?_take] at hp
  split at hp
  · rw [List.getElem?_drop] at hp
    rw [Array.getElem?_extract] at hv
    split at hv
    · exact hx.2 _ p v hp hv
    · cases hv
  · cases hp
theorem nest_run (n : Nat) {t : TypeId} {ds : List TypeDesc} (hd : nestT P t = some ds) {ps qs : List PV} {xs ys : Array Value} (hx : RepCells w Im β ps xs) (hy : RepCells w Im β qs ys) {i : Nat} {c : Bool}
    (he : eqCells ds ((ps.drop i).take ds.length) ((qs.drop i).take ds.length) = some c) :
    (part t xs i).run P w = .ok (.agg (xs.extract i (i + ds.length))) w ∧ (part t ys i).run P w = .ok (.agg (ys.extract i (i + ds.length))) w ∧
      (Op.equalIn (n + 2) t (.agg (xs.extract i (i + ds.length))) (.agg (ys.extract i (i + ds.length)))).run P w = .ok c w := by
  unfold nestT at hd
  split at hd
  · rename_i gs hu
    split at hd
    · cases hd
    · rename_i hst
      cases hf : flatF0 P 0 gs.toList with
      | none => simp [hf] at hd
      | some ds' =>
        simp only [hf, Option.bind_some] at hd
        split at hd
        · rename_i hc
          obtain rfl := Option.some.inj hd
          have ha := aggT_run hc.2 w
          have hs := szT_run hc.1 w
          refine ⟨by simp [part, ha, hs], by simp [part, ha, hs], ?_⟩
          have hfo : P.fieldsOf t = gs := by simp [Program.fieldsOf, hu]
          have := run_equalIn_struct (P := P) w (n + 1) t (xs.extract i (i + ds'.length)) (ys.extract i (i + ds'.length)) (by rw [hfo]; exact hu) (by simpa using hst)
          rw [hfo] at this
          rw [this]
          exact eqFields0_run n (hx.cut i ds'.length) (hy.cut i ds'.length) _ 0 ds' c hf (by simpa using he)
        · cases hd
  · cases hd
theorem eqFields_run (n : Nat) {ps qs : List PV} {xs ys : Array Value} (hx : RepCells w Im β ps xs) (hy : RepCells w Im β qs ys) : ∀ (fs : List Field) (i : Nat) (ts : List TypeDesc) (b : Bool),
    flatFields P i fs = some ts → eqCells ts (ps.drop i) (qs.drop i) = some b → (Op.eqFields (n + 2) xs ys fs).run P w = .ok b w
  | [], i, ts, b, hf, he => by
    simp [flatFields] at hf
    subst hf
    obtain rfl := eqCells_nil he
    simp [Op.eqFields]
  | f :: fs, i, ts, b, hf, he => by
    simp only [flatFields] at hf
    split at hf
    · rename_i hc
      obtain ⟨hn, ho⟩ := hc
      cases hd : scalarT P f.type with
      | none =>
        simp only [hd] at hf
        cases hds : nestT P f.type with
        | none => simp [hds] at hf
        | some ds =>
          simp only [hds, Option.bind_some] at hf
          cases hr : flatFields P (i + ds.length) fs with
          | none => simp [hr] at hf
          | some ts' =>
            simp [hr] at hf
            subst hf
            obtain ⟨c, r, h1, h2, h3⟩ := eqCells_append ds he
            obtain ⟨e1, e2, e3⟩ := nest_run (w := w) n hds hx hy h1
            have ih := eqFields_run n hx hy fs (i + ds.length) ts' r hr (by rw [← List.drop_drop, ← List.drop_drop]; exact h2)
            subst h3
            simp only [Op.eqFields, hn, ho, ne_eq, not_false_eq_true, if_true, Sem.run_bind, e1, e2, e3, Result.andThen_ok]
            cases c
            · simp
            · simpa using ih
      | some d =>
        simp only [hd] at hf
        cases hr : flatFields P (i + 1) fs with
        | none => simp [hr] at hf
        | some ts' =>
          simp [hr] at hf
          subst hf
          obtain ⟨p, ps', q, qs', c, r, h1, h2, h3, h4, h5⟩ := eqCells_cons (w := w) (Im := Im) (β := β) hd (n + 1) he
          obtain ⟨g1, g2⟩ := drop_cons h1
          obtain ⟨k1, k2⟩ := drop_cons h2
          have hi1 : i < xs.size := by have := (List.getElem?_eq_some_iff.1 g1).1; have := hx.1; omega
          have hi2 : i < ys.size := by have := (List.getElem?_eq_some_iff.1 k1).1; have := hy.1; omega
          have e1 := scalarT_part hd (Array.getElem?_eq_getElem hi1) w
          have e2 := scalarT_part hd (Array.getElem?_eq_getElem hi2) w
          have e3 := h5 _ _ (hx.2 i p _ g1 (Array.getElem?_eq_getElem hi1)) (hy.2 i q _ k1 (Array.getElem?_eq_getElem hi2))
          have ih := eqFields_run n hx hy fs (i + 1) ts' r hr (by rw [g2, k2]; exact h3)
          subst h4
          simp only [Op.eqFields, hn, ho, ne_eq, not_false_eq_true, if_true, Sem.run_bind, e1, e2, e3, Result.andThen_ok]
          cases c
          · simp
          · simpa using ih
    · cases hf
theorem eqItems_run (n : Nat) {e : TypeId} {d : TypeDesc} (hd : scalarT P e = some d) {ps qs : List PV} {xs ys : Array Value} (hx : RepCells w Im β ps xs) (hy : RepCells w Im β qs ys) : ∀ (m i : Nat) (b : Bool),
    eqCells (List.replicate m d) (ps.drop i) (qs.drop i) = some b → (Op.eqItems (n + 1) e 1 xs ys (List.range' i m)).run P w = .ok b w
  | 0, i, b, he => by
    simp only [List.replicate_zero] at he
    obtain rfl := eqCells_nil he
    simp [Op.eqItems]
  | m + 1, i, b, he => by
    rw [List.replicate_succ] at he
    obtain ⟨p, ps', q, qs', c, r, h1, h2, h3, h4, h5⟩ := eqCells_cons (w := w) (Im := Im) (β := β) hd n he
    obtain ⟨g1, g2⟩ := drop_cons h1
    obtain ⟨k1, k2⟩ := drop_cons h2
    have hi1 : i < xs.size := by have := (List.getElem?_eq_some_iff.1 g1).1; have := hx.1; omega
    have hi2 : i < ys.size := by have := (List.getElem?_eq_some_iff.1 k1).1; have := hy.1; omega
    have e1 := scalarT_part hd (Array.getElem?_eq_getElem hi1) w
    have e2 := scalarT_part hd (Array.getElem?_eq_getElem hi2) w
    have e3 := h5 _ _ (hx.2 i p _ g1 (Array.getElem?_eq_getElem hi1)) (hy.2 i q _ k1 (Array.getElem?_eq_getElem hi2))
    have ih := eqItems_run n hd hx hy m (i + 1) r (by rw [g2, k2]; exact h3)
    subst h4
    rw [List.range'_succ]
    simp only [Op.eqItems, Sem.run_bind, Nat.mul_one, e1, e2, e3, Result.andThen_ok]
    cases c
    · simp
    · simpa using ih
theorem equal_run {t : TypeId} {ks : List TypeDesc} (hk : kindsOf P t = some ks) {ps qs : List PV} {xs ys : Array Value} (hx : RepCells w Im β ps xs) (hy : RepCells w Im β qs ys) {b : Bool}
    (he : eqCells ks ps qs = some b) : (Op.equal t (.agg xs) (.agg ys)).run P w = .ok b w ∧ P.eqGuardType P.depth t = false := by
  unfold kindsOf at hk
  split at hk
  · cases hk
  · rename_i hg
    refine ⟨?_, by simpa using hg⟩
    split at hk
    · rename_i fields hu
      split at hk
      · cases hk
      · rename_i hst
        have hfo : P.fieldsOf t = fields := by simp [Program.fieldsOf, hu]
        have := run_equalIn_struct (P := P) w 9999 t xs ys (by rw [hfo]; exact hu) (by simpa using hst)
        rw [hfo] at this
        show (Op.equalIn (9999 + 1) t (.agg xs) (.agg ys)).run P w = _
        rw [this]
        exact eqFields_run 9997 hx hy _ 0 ks b hk (by simpa using he)
    · rename_i n elem hu
      cases hd : scalarT P elem with
      | none => simp [hd] at hk
      | some d =>
        simp [hd] at hk
        obtain ⟨hsz, rfl⟩ := hk
        cases hi : P.info? elem with
        | none => simp [szT, hi] at hsz
        | some ie =>
          have hc : P.cellsOf elem = 1 := by simp [szT, hi] at hsz; simp [Program.cellsOf, hi, hsz]
          have := run_equalIn_array (P := P) w 9999 xs ys hu hi
          rw [hc] at this
          show (Op.equalIn (9999 + 1) t (.agg xs) (.agg ys)).run P w = _
          rw [this]
          have := eqItems_run 9998 hd hx hy n 0 b (by simpa using he)
          simpa [List.range_eq_range'] using this
    · cases hk
end ops
end Go.Pv

