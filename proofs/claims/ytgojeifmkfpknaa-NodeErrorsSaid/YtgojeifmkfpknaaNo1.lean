/- Overrides of the seat of nodes: slices.Clone, node.without; Overrides of the seat of nodes: count.Step; Overrides of the seat of nodes: the region of count.Step in which a table of functions is laid and asked; Overrides of the seat of nodes: count.Step; Overrides of the seat of nodes: count.Step, whole; Overrides of the seat of nodes: count.Step, its contract; Overrides of the seat of nodes: count.Step, its answer; Overrides of the seat of nodes: count.Step, of a node that is off; and altogether; Overrides of the seat of nodes: bits.Put; Overrides of the seat of nodes: bits.Put, its contract; The seat of nodes: the evaluator with all its overrides. -/
import Derived.Test.YtgojeifmkfpknaaEv2
import Derived.Test.YtgojeifmkfpknaaChecked
import Derived.RegionTactic
import Derived.ChangeAlike
import Derived.RangeFuncRecord
import Derived.RangeFuncBox
import Derived.RangeFuncLeaves
import Derived.Shelf.Abstract
import Derived.WalkKit
import Derived.OwnWalkIn
import Derived.TacticsInMore
import Derived.LoopNIn
import Derived.LoopIn
import Derived.Maps.AppendAt
set_option linter.unusedVariables false
set_option linter.unusedSimpArgs false
namespace Go.Proofs
open Go.Shelf Go.RowKit Go.Lib Go.Pv

def renF : Ren := { f := fun n => if n = 41 then 61 else if n = 45 then 69 else n, t := fun n => if n = 23 then 35 else if n = 22 then 22 else n, g := id }
def renT : Ren := { f := fun n => if n = 41 then 39 else n, t := fun n => if n = 23 then 61 else if n = 22 then 24 else n, g := id }

theorem Try.mixed : Try.prog.follows .mixedOrders = true := by kernel_rfl

theorem Try.laysCF : SlLaysE0.n41 Try.prog renF where
  mixed := Try.mixed
  f41 := ⟨"slices.Clone[[]phaeton/api.Frame,phaeton/api.Frame]", by decide, by kernel_rfl⟩
  t4 := Try.underlying4
  a4 := Try.isAgg4
  z4 := Try.sizeOf4
  v4 := Try.zeroValue4
  t22 := Try.underlying22
  a22 := Try.isAgg22
  z22 := Try.sizeOf22
  v22 := Try.zeroValue22

theorem Try.laysDF : SlLaysE0.n45 Try.prog renF where
  mixed := Try.mixed
  f45 := ⟨"slices.Delete[[]phaeton/api.Frame,phaeton/api.Frame]", by decide, by kernel_rfl⟩
  t0 := Try.underlying0
  a0 := Try.isAgg0
  z0 := Try.sizeOf0
  v0 := Try.zeroValue0
  t3 := Try.underlying3
  a3 := Try.isAgg3
  z3 := Try.sizeOf3
  v3 := Try.zeroValue3
  t4 := Try.underlying4
  a4 := Try.isAgg4
  z4 := Try.sizeOf4
  v4 := Try.zeroValue4
  t22 := Try.underlying22
  a22 := Try.isAgg22
  z22 := Try.sizeOf22
  v22 := Try.zeroValue22

theorem Try.laysCT : SlLaysE0.n41 Try.prog renT where
  mixed := Try.mixed
  f41 := ⟨"slices.Clone[[]phaeton/api.Filter,phaeton/api.Filter]", by decide, by kernel_rfl⟩
  t4 := Try.underlying4
  a4 := Try.isAgg4
  z4 := Try.sizeOf4
  v4 := Try.zeroValue4
  t22 := Try.underlying24
  a22 := Try.isAgg24
  z22 := Try.sizeOf24
  v22 := Try.zeroValue24

theorem info_parts3 {P : Program} {t : TypeId} {z : Value} {s b : Nat} (h : (P.info? t).map (fun i => (i.zero, i.size, i.bytes)) = some (some z, s, b)) : ∃ i, P.info? t = some i ∧ i.zero = some z ∧ i.size = s ∧ i.bytes = b := by
  cases hi : P.info? t with
  | none => rw [hi] at h; cases h
  | some i => rw [hi] at h; simp at h; exact ⟨i, rfl, h.1, h.2.1, h.2.2⟩

theorem Try.infoF : (Try.prog.info? 35).map (fun i => (i.zero, i.size, i.bytes)) = some (some (.agg #[.bool false, .int .i64 0, .bool false, .int .i64 0, .slice none 0 0]), 5, 56) := by kernel_rfl
theorem Try.infoT : (Try.prog.info? 61).map (fun i => (i.zero, i.size, i.bytes)) = some (some (.agg #[.bool false, .int .i64 0, .int .i64 0]), 3, 24) := by kernel_rfl

theorem Try.cloneF (rows : List (List DV)) (hok : rowsOk 5 rows = true) (hroom : rows.length * 56 ≤ roomB) : CallOk Try.prog 61 [.d (.slice rows)] [] (acc rows) [] := by
  obtain ⟨i, h1, h2, h3, h4⟩ := info_parts3 Try.infoF
  exact clone_ok Try.laysCF i _ 5 56 h1 h2 h3 h4 (by rfl) (by decide) Try.sizeOf35 rows hok hroom (by simp only [roomB] at hroom; simp only [maxLen]; omega)

theorem Try.cloneT (rows : List (List DV)) (hok : rowsOk 3 rows = true) (hroom : rows.length * 24 ≤ roomB) : CallOk Try.prog 39 [.d (.slice rows)] [] (acc rows) [] := by
  obtain ⟨i, h1, h2, h3, h4⟩ := info_parts3 Try.infoT
  exact clone_ok Try.laysCT i _ 3 24 h1 h2 h3 h4 (by rfl) (by decide) Try.sizeOf61 rows hok hroom (by simp only [roomB] at hroom; simp only [maxLen]; omega)

set_option maxHeartbeats 1000000 in
theorem Try.withoutF (rows : List (List DV)) (i : Nat) (hok : rowsOk 5 rows = true) (hroom : rows.length * 56 ≤ roomB) (hi : i < rows.length) :
    CallOk Try.prog 48 [.d (.slice rows), .d (.int .i64 i)] [] (.d (.slice (rows.eraseIdx i))) [] := by
  refine callOk_data ⟨_, Try.func48, rfl, by decide⟩ (by simp) fun w Im vs hin hargs => ?_
  obtain ⟨hl, hr⟩ := hargs
  obtain ⟨v, u, rfl⟩ : ∃ v u, vs = #[v, u] := by
    match vs, hl with
    | ⟨[v, u]⟩, _ => exact ⟨v, u, rfl⟩
  obtain ⟨hv, _⟩ := hr 0 _ v rfl rfl
  obtain ⟨hu, _⟩ := hr 1 _ u rfl rfl
  obtain rfl : u = .int .i64 i := by cases hu with | d h => cases h; rfl
  obtain ⟨hd⟩ : Nonempty (RepD w Im (.slice rows) v) := by cases hv with | d h => exact ⟨h⟩
  have hne : rows ≠ [] := by intro h; subst h; simp at hi
  cases hd with
  | nil => exact absurd rfl hne
  | slice _ a c sz cv h1 h2 h3 h4 h5 h6 =>
    have hd : RepD w Im (.slice rows) (.slice (some a) rows.length c) := .slice rows a c sz cv h1 h2 h3 h4 h5 h6
    obtain ⟨_, k2, _, news, n1, n2, n3, n4, n5, n6⟩ := rows_values hd hok
    have hpos : 0 < rows.length := List.length_pos_iff.2 hne
    have hspot : a.spot = none := n3 a rfl (Nat.mul_ne_zero (by omega) (by omega))
    obtain ⟨b, off, sp⟩ := a
    simp only at hspot
    subst hspot
    obtain ⟨inf, i1, i2, i3, i4⟩ := info_parts3 Try.infoF
    have hmax : rows.length ≤ maxLen := by simp only [roomB] at hroom; simp only [maxLen]; omega
    have hclone := AnyE.slices_Clone Try.laysCF inf _ 5 56 i1 i2 i3 i4 rfl (by decide) Try.sizeOf35 b off rows.length c news w n1 hmax (by simp only [roomB] at hroom; omega) (fun j u hu => by have := n2 _ rfl j u hu; rwa [Addr.add_none rfl] at this) n6
    change Calls Try.prog 61 _ _ _ at hclone
    have hdel : ∀ (w1 : World) (g cap : Nat) (cur : Array Value), w1.heap[g]? = some (.cells cur 35 (0, 0)) → rows.length ≤ cap → cap ≤ maxLen → cur.size = cap * 5 → cur.toList.take (rows.length * 5) = news →
        Calls Try.prog 69 #[.slice (some ⟨g, 0, none⟩) rows.length cap, .int .i64 i, .int .i64 (i + 1)] w1 fun e w' => e = .returned (.slice (some ⟨g, 0, none⟩) (rows.length - 1) cap) ∧
          ∃ zc, zc.length = 5 ∧ w' = (w1.drew.setCells g (i * 5) (news.drop ((i + 1) * 5))).setCells g ((rows.length - 1) * 5) zc := by
      intro w1 g cap cur hobj hcap hm hcs htk
      have hle : rows.length * 5 ≤ cap * 5 := Nat.mul_le_mul_right _ hcap
      have := delete_one Try.laysDF 5 (by decide) inf i1 i3 _ Try.zeroValue35 rfl (fun u hu => List.all_eq_true.1 (show (Builtin.zeroCells (Value.agg #[Value.bool false, Value.int IntKind.i64 0, Value.bool false, Value.int IntKind.i64 0, Value.slice none 0 0]).cells 1).toList.all (·.oneCell') = true by kernel_rfl) u hu) Try.sizeOf35 g cap rows.length i (i + 1) news w1 n1
        (fun j u hu => by
          rw [← htk, List.getElem?_take] at hu
          split at hu
          · simp only [World.cell?, hobj]
            simpa using hu
          · cases hu)
        (fun j hj => by simp [World.frozen?, hobj])
        n6 hcap hm rfl hi
      change Calls Try.prog 69 _ _ _ at this
      simpa using this
    have Hok : Hid (rowsOk 5 rows = true) := hok
    clear hok hroom hl hr hv hu hd h1 h2 h3 h4 h5 h6 n2 n3 n4 i1 i2 i3 i4
    go_enter Try.func48, Try.ntmps48
    go_wp2_with (go_at_call 61; refine hclone.mono ?_; rintro e w1 ⟨v1, rfl, hown, hnn, hbel⟩)
    obtain ⟨hlen', (⟨_, h0⟩ | ⟨g, cap, cur, rfl, hge, hobj, hcap, hmax', hcs, htk⟩)⟩ := hown
    · exact absurd h0 (by omega)
    rw [show wrap64 ((i : Int) + 1) = (i : Int) + 1 by unfold wrap64; simp only [maxLen] at hmax; omega]
    refine (hdel w1 g cap cur hobj hcap hmax' hcs htk).mono ?_
    rintro e w2 ⟨rfl, zc, hzc, rfl⟩
    go_wp2
    go_ret
    have hlt5 : (i + 1) * 5 ≤ rows.length * 5 := by omega
    have hln : (rows.eraseIdx i).length = rows.length - 1 := List.length_eraseIdx_of_lt hi
    have hb2 : Below w.heap.size w ((w1.drew.setCells g (i * 5) (news.drop ((i + 1) * 5))).setCells g ((rows.length - 1) * 5) zc) :=
      below_setCells hge _ _ _ (below_setCells hge _ _ _ (by exact hbel.drew))
    have hsome : ∀ j, j < rows.length * 5 → w1.cell? ⟨g, j, none⟩ = news[j]? := by
      intro j hj
      rw [← htk, List.getElem?_take, if_pos hj]
      simp [World.cell?, hobj]
    obtain ⟨Im', q1, q2, q3⟩ := cells_rep (news := news.take (i * 5) ++ news.drop ((i + 1) * 5)) (g := g) (cap := cap) (rows := rows.eraseIdx i) (size := 5) hin hb2 hge
      (fun r hr => rowsOk_len Hok.out r (List.mem_of_mem_eraseIdx hr)) (by omega)
      (fun j u hj hu => by
        rw [hln] at hj
        rw [World.cell?_setCells_out _ _ _ _ _ (fun _ _ => .inl (by simp; omega))]
        by_cases hji : j < i * 5
        · rw [World.cell?_setCells_out _ _ _ _ _ (fun _ _ => .inl (by simpa using hji))]
          show w1.cell? _ = _
          rw [hsome j (by omega)]
          rw [List.getElem?_append_left (by simp; omega), List.getElem?_take, if_pos hji] at hu
          exact hu
        · have hd : (news.drop ((i + 1) * 5)).length = rows.length * 5 - (i + 1) * 5 := by simp [n1]
          have hin2 := World.cell?_setCells_in g (news.drop ((i + 1) * 5)) (i * 5) w1.drew (fun t ht => by
            show (w1.cell? _).isSome = true
            rw [hsome _ (by omega), List.getElem?_eq_getElem (by omega)]; rfl) (j - i * 5) (by omega)
          rw [show i * 5 + (j - i * 5) = j by omega] at hin2
          rw [hin2]
          rw [List.getElem?_append_right (by simp; omega)] at hu
          rw [← hu, List.length_take, show min (i * 5) news.length = i * 5 by omega, List.getElem?_eq_getElem (by omega)])
      (by rw [hln]; simp [n1]; omega)
      (fun a b r d ha hb => by
        rw [List.getElem?_eraseIdx] at ha
        have hr5 : r.length = 5 := by
          split at ha <;> exact rowsOk_len Hok.out r (List.mem_of_getElem? ha)
        have hb5 : b < 5 := by rw [← hr5]; exact (List.getElem?_eq_some_iff.1 hb).1
        split at ha
        · rename_i hai
          obtain ⟨u, g1, g2⟩ := n5 a b r d ha hb
          refine ⟨u, ?_, g2⟩
          rw [List.getElem?_append_left (by simp; omega), List.getElem?_take, if_pos (by omega)]
          exact g1
        · rename_i hai
          obtain ⟨u, g1, g2⟩ := n5 (a + 1) b r d ha hb
          refine ⟨u, ?_, g2⟩
          rw [List.getElem?_append_right (by simp; omega), List.length_take, show min (i * 5) news.length = i * 5 by omega, List.getElem?_drop, ← g1]
          congr 1
          omega)
    rw [hln] at q3
    exact ⟨_, Im', rfl, hb2, q1, q2, .d q3⟩
end Go.Proofs

set_option linter.unusedVariables false
set_option linter.unusedSimpArgs false
namespace Go.Proofs
open Go.Shelf Go.RowKit Go.Lib Go.Pv

/-- A counter's box. -/
def Cnt (w : World) (B : Nat) (t r s q : Int) : Prop := ∃ e, w.heap[B]? = some (.cells #[.int .i64 t, .int .i64 r, .int .i64 s, .int .i64 q] e (0, 0))

theorem Cnt.cells {w : World} {B : Nat} {t r s q : Int} (h : Cnt w B t r s q) :
    (w.cell? ⟨B, 0, none⟩ = some (.int .i64 t) ∧ w.cell? ⟨B, 1, none⟩ = some (.int .i64 r) ∧ w.cell? ⟨B, 2, none⟩ = some (.int .i64 s) ∧ w.cell? ⟨B, 3, none⟩ = some (.int .i64 q)) ∧ ∀ j, w.frozen? ⟨B, j, none⟩ = false := by
  obtain ⟨e, h⟩ := h
  refine ⟨⟨?_, ?_, ?_, ?_⟩, fun j => ?_⟩ <;> simp [World.cell?, World.frozen?, h]

/-- But for the block B. -/
structure But (B : Nat) (w w' : World) : Prop where
  os : w'.os = w.os
  tape : w'.tape = w.tape
  output : w'.output = w.output
  size : w.heap.size ≤ w'.heap.size
  block : ∀ k, k < w.heap.size → k ≠ B → w'.heap[k]? = w.heap[k]?


theorem heap_setCell {w : World} {B : Nat} {cs : Array Value} {e : TypeId} {z : Nat × Nat} (h : w.heap[B]? = some (.cells cs e z)) (j : Nat) (v : Value) :
    (w.setCell ⟨B, j, none⟩ v).heap[B]? = some (.cells (cs.setIfInBounds j v) e z) ∧ (∀ k, k ≠ B → (w.setCell ⟨B, j, none⟩ v).heap[k]? = w.heap[k]?) ∧ (w.setCell ⟨B, j, none⟩ v).heap.size = w.heap.size ∧
      (w.setCell ⟨B, j, none⟩ v).os = w.os ∧ (w.setCell ⟨B, j, none⟩ v).tape = w.tape ∧ (w.setCell ⟨B, j, none⟩ v).output = w.output := by
  have hlt : B < w.heap.size := (Array.getElem?_eq_some_iff.1 h).1
  refine ⟨?_, fun k hk => ?_, ?_, ?_, ?_, ?_⟩
  · simp [World.setCell, Array.getElem?_modify, h]
  · simp [World.setCell, Array.getElem?_modify, Ne.symm hk]
  · simp [World.setCell, h]
  · simp [World.setCell, h]
  · simp [World.setCell, h]
  · simp [World.setCell, h]

theorem But.refl (B : Nat) (w : World) : But B w w := ⟨rfl, rfl, rfl, Nat.le_refl _, fun _ _ _ => rfl⟩
theorem But.trans {B : Nat} {w w' w'' : World} (h : But B w w') (h' : But B w' w'') : But B w w'' :=
  ⟨h'.os.trans h.os, h'.tape.trans h.tape, h'.output.trans h.output, Nat.le_trans h.size h'.size, fun k hk hb => (h'.block k (Nat.lt_of_lt_of_le hk h.size) hb).trans (h.block k hk hb)⟩
theorem But.drew {B : Nat} {w w' : World} (h : But B w w') : But B w w'.drew := ⟨h.os, h.tape, h.output, h.size, h.block⟩
theorem But.set {B : Nat} {w w' : World} (h : But B w w') {cs : Array Value} {e : TypeId} {z : Nat × Nat} (hc : w'.heap[B]? = some (.cells cs e z)) (j : Nat) (v : Value) : But B w (w'.setCell ⟨B, j, none⟩ v) := by
  obtain ⟨_, h2, h3, h4, h5, h6⟩ := heap_setCell hc j v
  exact h.trans ⟨h4, h5, h6, by rw [h3]; exact Nat.le_refl _, fun k _ hb => h2 k hb⟩

theorem Cnt.drew {w : World} {B : Nat} {t r s q : Int} (h : Cnt w B t r s q) : Cnt w.drew B t r s q := h
theorem Cnt.set0 {w : World} {B : Nat} {t r s q : Int} (h : Cnt w B t r s q) (x : Int) : Cnt (w.setCell ⟨B, 0, none⟩ (.int .i64 x)) B x r s q := by
  obtain ⟨e, h⟩ := h
  exact ⟨e, (heap_setCell h 0 _).1⟩
theorem Cnt.set1 {w : World} {B : Nat} {t r s q : Int} (h : Cnt w B t r s q) (x : Int) : Cnt (w.setCell ⟨B, 1, none⟩ (.int .i64 x)) B t x s q := by
  obtain ⟨e, h⟩ := h
  exact ⟨e, (heap_setCell h 1 _).1⟩
theorem Cnt.set2 {w : World} {B : Nat} {t r s q : Int} (h : Cnt w B t r s q) (x : Int) : Cnt (w.setCell ⟨B, 2, none⟩ (.int .i64 x)) B t r x q := by
  obtain ⟨e, h⟩ := h
  exact ⟨e, (heap_setCell h 2 _).1⟩
theorem Cnt.set {w : World} {B : Nat} {t r s q : Int} (h : Cnt w B t r s q) (j : Nat) (v : Value) : But B w (w.setCell ⟨B, j, none⟩ v) := by
  obtain ⟨e, h⟩ := h
  exact (But.refl B w).set h j v

set_option maxHeartbeats 1000000 in
theorem Try.bad (B : Nat) (t r s q : Int) (w : World) (h : Cnt w B t r s q) (ht : 0 ≤ t ∧ t ≤ 1000) :
    Calls Try.prog 83 #[.pointer (some ⟨B, 0, none⟩)] w fun e w' => (∃ v, e = .returned v) ∧ Cnt w' B (t + 8) r s q ∧ But B w w' := by
  obtain ⟨⟨h0, h1, h2, h3⟩, hf⟩ := h.cells
  have hf0 := hf 0
  have hw : wrap64 (t + 8) = t + 8 := by unfold wrap64; omega
  go_enter Try.func83, Try.ntmps83
  go_wp2
  go_end0
  exact ⟨⟨_, rfl⟩, h.set0 _, h.set 0 _⟩

set_option maxHeartbeats 1000000 in
theorem Try.sent (B : Nat) (t r s q : Int) (w : World) (h : Cnt w B t r s q) (ht : 0 ≤ t ∧ t ≤ 1000) :
    Calls Try.prog 81 #[.pointer (some ⟨B, 0, none⟩)] w fun e w' => (∃ v, e = .returned v) ∧ Cnt w' B (max (t - 1) 0) r s q ∧ But B w w' := by
  obtain ⟨⟨h0, h1, h2, h3⟩, hf⟩ := h.cells
  have hf0 := hf 0
  have hw : wrap64 (t - 1) = t - 1 := by unfold wrap64; omega
  go_enter Try.func81, Try.ntmps81
  go_wp2
  go_end0
  exact ⟨⟨_, rfl⟩, h.set0 _, h.set 0 _⟩

set_option maxHeartbeats 1000000 in
theorem Try.heard (B : Nat) (t r s q : Int) (w : World) (h : Cnt w B t r s q) (hr : 0 ≤ r ∧ r ≤ 1000) :
    Calls Try.prog 82 #[.pointer (some ⟨B, 0, none⟩)] w fun e w' => (∃ v, e = .returned v) ∧ Cnt w' B t (min (max (r - 1) 0) 127) s q ∧ But B w w' := by
  obtain ⟨⟨h0, h1, h2, h3⟩, hf⟩ := h.cells
  have hf1 := hf 1
  have hw : wrap64 (r - 1) = r - 1 := by unfold wrap64; omega
  go_enter Try.func82, Try.ntmps82
  go_wp2
  go_end0
  exact ⟨⟨_, rfl⟩, h.set1 _, h.set 1 _⟩

set_option maxHeartbeats 1000000 in
theorem Try.poor1 (B Y : Nat) (t r s q y : Int) (w : World) (h : Cnt w B t r s q) (hr : 0 ≤ r ∧ r ≤ 1000) (hy : 0 ≤ y ∧ y ≤ 1000) (hY : w.cell? ⟨Y, 0, none⟩ = some (.int .i64 y)) :
    Calls Try.prog 89 #[.pointer (some ⟨B, 0, none⟩), .pointer (some ⟨Y, 0, none⟩)] w fun e w' => (∃ v, e = .returned v) ∧ Cnt w' B t (min (r + y) 255) s q ∧ But B w w' := by
  obtain ⟨⟨h0, h1, h2, h3⟩, hf⟩ := h.cells
  have hf1 := hf 1
  have hw : wrap64 (r + y) = r + y := by unfold wrap64; omega
  have h1' : w.drew.cell? ⟨B, 1, none⟩ = some (.int .i64 r) := h1
  have hY' : w.drew.cell? ⟨Y, 0, none⟩ = some (.int .i64 y) := hY
  have hf1' : w.drew.frozen? ⟨B, 1, none⟩ = false := hf1
  go_enter Try.func89, Try.ntmps89
  go_wp2
  go_region
  all_goals go_wp2
  all_goals (go_end0; exact ⟨⟨_, rfl⟩, h.drew.set1 _, ((But.refl B w).drew).trans (h.drew.set 1 _)⟩)

set_option maxHeartbeats 1000000 in
theorem Try.state (B : Nat) (t r s q : Int) (w : World) (h : Cnt w B t r s q) :
    Calls Try.prog 72 #[.pointer (some ⟨B, 0, none⟩)] w fun e w' => e = .returned (.int .i64 (if max t r > 127 then 2 else 1)) ∧ Below w.heap.size w w' := by
  obtain ⟨⟨h0, h1, h2, h3⟩, hf⟩ := h.cells
  have h0' : w.drew.cell? ⟨B, 0, none⟩ = some (.int .i64 t) := h0
  have h1' : w.drew.cell? ⟨B, 1, none⟩ = some (.int .i64 r) := h1
  by_cases hc : max t r > 127
  · rw [if_pos hc]
    go_enter Try.func72, Try.ntmps72
    go_wp2
    go_region
    all_goals go_wp2
    all_goals (go_ret; exact ⟨rfl, (Below.refl _ w).drew⟩)
  · rw [if_neg hc]
    go_enter Try.func72, Try.ntmps72
    go_wp2
    go_region
    all_goals go_wp2
    all_goals (go_ret; exact ⟨rfl, (Below.refl _ w).drew⟩)

theorem cnt_new (w : World) (t r s q : Int) (e : TypeId) : Cnt (w.alloc (.cells #[.int .i64 t, .int .i64 r, .int .i64 s, .int .i64 q] e)) w.heap.size t r s q := ⟨e, by show (w.heap.push _)[w.heap.size]? = _; simp⟩

theorem results_cell {P : Program} {fn : Func} {k : Tmp} {t : TypeId} (h : fn.results = #[.cell k t]) {tmps : Array Value} {p : Addr} (hp : tmps.getD k undef = .pointer (some p)) {w : World} {v : Value} (hl : (loadVar t p).run P w = .ok v w) :
    (results fn tmps).run P w = .ok v w := by
  have hp' : tmps[k]?.getD undef = .pointer (some p) := by simpa using hp
  simp [results, h, hp', hl, asAddr]

theorem Cnt.load {w : World} {B : Nat} {t r s q : Int} (h : Cnt w B t r s q) : (loadVar 26 ⟨B, 0, none⟩).run Try.prog w = .ok (.agg #[.int .i64 t, .int .i64 r, .int .i64 s, .int .i64 q]) w := by
  obtain ⟨e, h⟩ := h
  exact run_loadVar_row w B e 26 _ _ _ h Try.underlying26 rfl (by kernel_rfl)

set_option maxHeartbeats 1000000 in
theorem Try.new40 (w : World) : Calls Try.prog 40 #[] w fun e w' => e = .returned (.agg #[.int .i64 0, .int .i64 0, .int .i64 1, .int .i64 0]) ∧ Below w.heap.size w w' := by
  go_enter Try.func40, Try.ntmps40
  go_wp2
  exact bodyPost_ret (results_cell rfl rfl (cnt_new w 0 0 1 0 26).load) rfl ⟨rfl, (Below.refl _ w).alloc (Nat.le_refl _) _⟩

set_option maxHeartbeats 1000000 in
theorem Try.poor (y : Int) (w : World) : Calls Try.prog 84 #[.int .i64 y] w fun e w' => e = .returned (.func (.func 89) #[] #[.pointer (some ⟨w.heap.size, 0, none⟩)]) ∧ w' = w.alloc (.cells #[.int .i64 y] 3) := by
  go_enter Try.func84, Try.ntmps84
  go_wp2
  go_ret
  exact ⟨rfl, rfl⟩

def findNowX (k : Value) : List MapEntry → Bool
  | [] => true
  | e :: es => (match k, e.key with | .int q a, .int q' b => q == q' && a != b | _, _ => false) && findNowX k es

theorem findNowX_none {q : IntKind} {n : Int} : ∀ (es : List MapEntry) (i : Nat), findNowX (.int q n) es = true → Instr.findNow (.int q) (.int q n) es i = some none
  | [], _, _ => rfl
  | e :: es, i, h => by
    simp only [findNowX, Bool.and_eq_true] at h
    obtain ⟨h1, h2⟩ := h
    cases hk : e.key <;> rw [hk] at h1 <;> simp at h1
    obtain ⟨rfl, hne⟩ := h1
    have hb : (n == ‹Int›) = false := by simpa using hne
    simp only [Instr.findNow, hk, Instr.sameNow, if_true]
    rw [hb]
    exact findNowX_none es (i + 1) h2

/-- A key that is not there is laid into a map. -/
theorem wpList_insert {P : Program} {ops : Array Oper} {rest : List Oper} {o : Oper} {a : Act} {w : World} {Q : Exit → Act → World → Prop} (hgd : o.guard = none) (hd : o.dst = none) (mt kt et : TypeId) (k : Tmp) (n : Int) (x : Operand) (ho : o.op = .insert mt (.tmp k) (.const (.int .i64 n)) x)
    (hmt : P.underlying mt = some (.map kt et)) (hkt : P.underlying kt = some (.int .i64)) (m : Nat) (es : Array MapEntry) (c : Nat) (hm : a.eval (.tmp k) = .map (some m)) (hobj : w.heap[m]? = some (.map es c))
    (hfresh : findNowX (.int .i64 n) es.toList = true)
    (h : ∀ w', Hid (w' = w.putObj m (.map (es.push { key := .int .i64 n, val := a.eval x, born := c }) (c + 1))) → w'.heap[m]? = some (.map (es.push { key := .int .i64 n, val := a.eval x, born := c }) (c + 1)) → wpList P ops Q rest a w') : wpList P ops Q (o :: rest) a w := by
  refine wpList_plain hgd fun K hK => ?_
  have hck : ∀ b w, (Instr.checkKey b 10000 kt (.int .i64 n)).run P w = .ok () w := by
    have : ∀ d b w, (Instr.checkKey b (d + 1) kt (.int .i64 n)).run P w = .ok () w := by
      intro d b w
      simp only [Instr.checkKey]
      simp [run_underlying hkt]
    exact this 9999
  have hfk : ∀ w, (Instr.findKey kt (.int .i64 n) es.toList).run P w = .ok none w := by
    intro w
    simp [Instr.findKey, run_underlying hkt, findNowX_none _ 0 hfresh]
  have hrun : (execOp a.eval o).run P w = .ok .skip (w.putObj m (.map (es.push { key := .int .i64 n, val := a.eval x, born := c }) (c + 1))) := by
    have hk : a.eval (.const (.int .i64 n)) = .int .i64 n := rfl
    simp only [execOp, ho, hm, hk]
    simp [Instr.mapUpdate, run_underlying hmt, hobj, hck, hfk, World.putObj, MapKept.run_getObj_map hobj, MapKept.run_setObj_map _ hobj, Result.andThen]
  unfold Oper.wp
  rw [hrun]
  have hlt : m < w.heap.size := (Array.getElem?_eq_some_iff.1 hobj).1
  have := hK (a.put o.dst undef) _ (by rw [hd]; exact h _ rfl (World.putObj_heap_same hlt))
  exact this
theorem alloc_heap {w w2 : World} {o x : Obj} {m : Nat} (hw : w2 = w.alloc o) (h : w.heap[m]? = some x) : w2.heap[m]? = some x := by
  subst hw
  show (w.heap.push o)[m]? = _
  rw [Array.getElem?_push, if_neg (Nat.ne_of_lt (Array.getElem?_eq_some_iff.1 h).1)]
  exact h

theorem below_put {B : Nat} {w w' : World} {m : Nat} {o : Obj} (hm : B ≤ m) (h : Below B w w') : Below B w (w'.putObj m o) :=
  ⟨h.os, h.tape, h.output, by rw [World.putObj_size]; exact h.size, fun k hk => by rw [World.putObj_heap_other (by omega)]; exact h.block k hk⟩

set_option maxHeartbeats 1000000 in
theorem Try.works (w : World) : Calls Try.prog 71 #[] w fun e w' => ∃ m Y Z es c, e = .returned (.map (some m)) ∧ Below w.heap.size w w' ∧ w'.heap[m]? = some (.map es c) ∧ w.heap.size ≤ Y ∧ w.heap.size ≤ Z ∧
    w'.cell? ⟨Y, 0, none⟩ = some (.int .i64 1) ∧ w'.cell? ⟨Z, 0, none⟩ = some (.int .i64 8) ∧
    es.toList.map (fun e => (e.key, e.val)) = [(.int .i64 1, .func (.func 81) #[] #[]), (.int .i64 2, .func (.func 82) #[] #[]), (.int .i64 3, .func (.func 83) #[] #[]),
      (.int .i64 4, .func (.func 89) #[] #[.pointer (some ⟨Y, 0, none⟩)]), (.int .i64 5, .func (.func 89) #[] #[.pointer (some ⟨Z, 0, none⟩)])] := by
  have hmm := @run_makeMap Try.prog
  go_enter Try.func71, Try.ntmps71
  go_wp2_with (first
    | (show wpList _ _ _ (Oper.mk none (Op.insert _ _ _ _) _ _ _ none :: _) _ _
       refine wpList_insert rfl rfl 93 3 91 1 _ _ rfl Try.underlying93 Try.underlying3 _ _ _ rfl (by first | assumption | exact alloc_new _ _) (by rfl) ?_
       intro w' hw' hm')
    | (go_at_call 84; refine (Try.poor _ _).mono ?_; rintro e w2 ⟨rfl, hw2⟩; have hm2 := alloc_heap hw2 hm'; have hw3 : Hid (w2 = _) := hw2; clear hw2))
  rename_i wa ha ma wb hb mb wc hc mc wd md hd we he me
  have ba : Below w.heap.size w wa := by
    have h : wa = (w.alloc (.map #[] 0)).putObj w.heap.size _ := ha
    rw [h]
    exact below_put (Nat.le_refl _) ((Below.refl _ w).alloc (Nat.le_refl _) _)
  have bb : Below w.heap.size w wb := by have h : wb = wa.putObj w.heap.size _ := hb; rw [h]; exact below_put (Nat.le_refl _) ba
  have bc : Below w.heap.size w wc := by have h : wc = wb.putObj w.heap.size _ := hc; rw [h]; exact below_put (Nat.le_refl _) bb
  have bd : Below w.heap.size w wd := by have h : wd = wc.alloc _ := hd; rw [h]; exact bc.alloc bc.size _
  have be : Below w.heap.size w we := by have h : we = wd.putObj w.heap.size _ := he; rw [h]; exact below_put (Nat.le_refl _) bd
  have bf : Below w.heap.size w w2 := by have h : w2 = we.alloc _ := hw3; rw [h]; exact be.alloc be.size _
  have bg : Below w.heap.size w w' := by have h : w' = w2.putObj w.heap.size _ := hw'; rw [h]; exact below_put (Nat.le_refl _) bf
  have lt : ∀ {W : World} {x : Obj}, W.heap[w.heap.size]? = some x → w.heap.size < W.heap.size := fun h => (Array.getElem?_eq_some_iff.1 h).1
  have cY1 : wd.heap[wc.heap.size]? = some (.cells #[.int .i64 1] 3) := by have h : wd = wc.alloc _ := hd; rw [h]; exact alloc_new _ _
  have cY2 : we.heap[wc.heap.size]? = some (.cells #[.int .i64 1] 3) := by have h : we = wd.putObj w.heap.size _ := he; rw [h, World.putObj_heap_other (by have := lt mc; omega)]; exact cY1
  have cY3 : w2.heap[wc.heap.size]? = some (.cells #[.int .i64 1] 3) := by have h : w2 = we.alloc _ := hw3; exact alloc_heap h cY2
  have cY4 : w'.heap[wc.heap.size]? = some (.cells #[.int .i64 1] 3) := by have h : w' = w2.putObj w.heap.size _ := hw'; rw [h, World.putObj_heap_other (by have := lt mc; omega)]; exact cY3
  have cZ1 : w2.heap[we.heap.size]? = some (.cells #[.int .i64 8] 3) := by have h : w2 = we.alloc _ := hw3; rw [h]; exact alloc_new _ _
  have cZ2 : w'.heap[we.heap.size]? = some (.cells #[.int .i64 8] 3) := by have h : w' = w2.putObj w.heap.size _ := hw'; rw [h, World.putObj_heap_other (by have := lt me; omega)]; exact cZ1
  go_ret
  exact ⟨w.heap.size, wc.heap.size, we.heap.size, _, _, rfl, bg, hm', bc.size, be.size, by simp [World.cell?, cY4], by simp [World.cell?, cZ2], by rfl⟩
end Go.Proofs

set_option linter.unusedVariables false
set_option linter.unusedSimpArgs false
namespace Go.Pv
open Go Go.RowKit

/-- What the boxes were is not asked any more. -/
theorem CallOk.drop {P : Program} {f : FuncId} {args : List PV} {res : PV} {σ' : Store} (h : CallOk P f args [] res σ') (hd : res.isData = true) : CallOk P f args [] res [] := by
  refine ⟨h.1, fun w Im O β vs hg hO hargs => (h.2 w Im O β vs hg hO hargs).mono ?_⟩
  rintro e w' ⟨v, Im', O', β', l, rfl, hf, hx, hg', hrep, hown⟩
  have hβ : β = [] := List.eq_nil_of_length_eq_zero (by rw [hg.len]; rfl)
  subst hβ
  refine ⟨v, Im', fun b => if isSlot (O' b) then O' b else none, [], l, rfl, ⟨hf.env, hf.size, hf.same, hf.keep, hf.new, fun b hb ho => ?_⟩, .refl _, ⟨rfl, by simp, hg'.im, ?_, ?_⟩, data_ext hrep (PV.data_of _ hd), ?_⟩
  · show (if isSlot (O' b) then O' b else none) = none
    rw [hf.own b hb ho]; rfl
  · intro b o hb id ho
    replace ho : (if isSlot (O' b) then O' b else none) = some (.box id) := ho
    split at ho
    · rename_i hs; rw [ho] at hs; cases hs
    · cases ho
  · intro b hb
    refine hg'.lim b fun h0 => hb ?_
    show (if isSlot (O' b) then O' b else none) = none
    rw [h0]; rfl
  · refine hown.mono fun b hb => ⟨?_, rfl, fun _ h => h⟩
    show (if isSlot (O' b) then O' b else none) = _
    rw [hb]; rfl

end Go.Pv
namespace Go.Proofs
open Go.Shelf Go.RowKit Go.Lib Go.Pv

/-- The seat's functions without overrides. -/
noncomputable def E0 : Env := { P := Try.prog, good := fun f => f < 93, pure := fun f => f != 91 && f != 92 && f != 59 && f != 62 && f != 67 && f != 72 && f != 73 && f != 75 && f != 80 && f != 81 && f != 82 && f != 83 && f != 84 && f != 87 && f != 88 && f != 89, ov := fun _ => none, ro := fun f => f == 72, apart := fun p => if p = "node.go:119" then [(5, 2)] else if p = "ref.go:133" then [(5, 2)] else [] }

def okF (E : Env) (f : Nat) : Bool := match E.P.funcs[f]? with | some fn => (match fn.body with | some c => codeOk E c && fn.name != "runtime.NumGoroutine" | none => true) | none => true

theorem envOk_of {E : Env} {n : Nat} (hm : E.P.follows .mixedOrders = true) (hg : ∀ f, E.good f = true → f < n) (h : (List.range n).all (okF E) = true) (ho : OvOk E) : EnvOk E := by
  refine ⟨hm, fun f fn c hgf hf hb => ?_, ho⟩
  have := List.all_eq_true.1 h f (List.mem_range.2 (hg f hgf))
  simp only [okF, hf, hb, Bool.and_eq_true, bne_iff_ne] at this
  exact this

theorem E0_ok : EnvOk E0 := envOk_of (n := 93) Try.mixed (fun f h => by simpa [E0] using h) (by kernel_rfl) (fun f g h => by cases h)

/-- What the table says. -/
def Entry (what : Int) (pf : PV) (ok : Bool) : Prop :=
  (what = 1 ∧ pf = .func (.func 81) [] [] ∧ ok = true) ∨ (what = 2 ∧ pf = .func (.func 82) [] [] ∧ ok = true) ∨ (what = 3 ∧ pf = .func (.func 83) [] [] ∧ ok = true) ∨
  (what = 4 ∧ pf = .func (.func 89) [] [.ro [.int .i64 1]] ∧ ok = true) ∨ (what = 5 ∧ pf = .func (.func 89) [] [.ro [.int .i64 8]] ∧ ok = true) ∨ (what = 6 ∧ pf = .nilFunc ∧ ok = false)

theorem ro_one {w : World} {Im : ImT} {β : List Nat} {Y : Nat} {n : Int} (hY : w.cell? ⟨Y, 0, none⟩ = some (.int .i64 n)) (iY : Im Y 0) : RepP w Im β (.ro [.int .i64 n]) (.pointer (some ⟨Y, 0, none⟩)) := by
  have h0 : ∀ j, j < 1 → j = 0 := fun j hj => by omega
  refine .ro _ _ (fun _ => .int .i64 n) rfl (fun j hj => ?_) (fun j hj => ?_) (fun j x hx => ?_)
  · have := h0 j hj; subst this; simpa using hY
  · have := h0 j hj; subst this; simpa using iY
  · cases j with
    | zero => simp at hx; subst hx; exact .int _ _
    | succ j => simp at hx

theorem lookup_run {w : World} {m : Nat} {es : Array MapEntry} {c : Nat} {Y Z : Nat} (hm : w.heap[m]? = some (.map es c)) (hes : es.toList.map (fun e => (e.key, e.val)) = [(.int .i64 1, .func (.func 81) #[] #[]), (.int .i64 2, .func (.func 82) #[] #[]), (.int .i64 3, .func (.func 83) #[] #[]),
      (.int .i64 4, .func (.func 89) #[] #[.pointer (some ⟨Y, 0, none⟩)]), (.int .i64 5, .func (.func 89) #[] #[.pointer (some ⟨Z, 0, none⟩)])])
    {Im : ImT} {β : List Nat} (hY : w.cell? ⟨Y, 0, none⟩ = some (.int .i64 1)) (hZ : w.cell? ⟨Z, 0, none⟩ = some (.int .i64 8)) (iY : Im Y 0) (iZ : Im Z 0) {what : Int} {pf : PV} {ok : Bool} (he : Entry what pf ok) :
    ∃ fv, (Instr.lookup 93 (.map (some m)) (.int .i64 what) true).run Try.prog w = .ok (.tuple #[fv, .bool ok]) w ∧ RepP w Im β pf fv := by
  have hck : ∀ b w, (Instr.checkKey b 10000 3 (.int .i64 what)).run Try.prog w = .ok () w := by
    have : ∀ d b w, (Instr.checkKey b (d + 1) 3 (.int .i64 what)).run Try.prog w = .ok () w := by
      intro d b w
      simp only [Instr.checkKey]
      simp [run_underlying Try.underlying3]
    exact this 9999
  have hu := run_underlying Try.underlying93
  have hg := MapKept.run_getObj_map (P := Try.prog) hm
  obtain ⟨e1, l1, hl1, kv1, hes⟩ := List.map_eq_cons_iff.1 hes
  obtain ⟨e2, l2, hl2, kv2, hes⟩ := List.map_eq_cons_iff.1 hes
  obtain ⟨e3, l3, hl3, kv3, hes⟩ := List.map_eq_cons_iff.1 hes
  obtain ⟨e4, l4, hl4, kv4, hes⟩ := List.map_eq_cons_iff.1 hes
  obtain ⟨e5, l5, hl5, kv5, hes⟩ := List.map_eq_cons_iff.1 hes
  have hl6 := List.map_eq_nil_iff.1 hes
  have hl : es.toList = [e1, e2, e3, e4, e5] := by rw [hl1, hl2, hl3, hl4, hl5, hl6]
  simp only [Prod.mk.injEq] at kv1 kv2 kv3 kv4 kv5
  obtain ⟨k1, v1⟩ := kv1
  obtain ⟨k2, v2⟩ := kv2
  obtain ⟨k3, v3⟩ := kv3
  obtain ⟨k4, v4⟩ := kv4
  obtain ⟨k5, v5⟩ := kv5
  · skip
    have hf : ∀ w r, Instr.findNow (.int .i64) (.int .i64 what) es.toList 0 = some r → (Instr.findKey 3 (.int .i64 what) es.toList).run Try.prog w = .ok r w := by
      intro w r hr
      simp [Instr.findKey, run_underlying Try.underlying3, hr]
    have hnow : ∀ n : Int, Instr.findNow (.int .i64) (.int .i64 n) es.toList 0 = if n = 1 then some (some (0, e1.val)) else if n = 2 then some (some (1, e2.val)) else if n = 3 then some (some (2, e3.val)) else if n = 4 then some (some (3, e4.val)) else if n = 5 then some (some (4, e5.val)) else some none := by
      intro n
      rw [hl]
      simp only [Instr.findNow, Instr.sameNow, k1, k2, k3, k4, k5, if_true]
      by_cases h1 : n = 1
      · simp [h1]
      by_cases h2 : n = 2
      · simp [h2]
      by_cases h3 : n = 3
      · simp [h3]
      by_cases h4 : n = 4
      · simp [h4]
      by_cases h5 : n = 5
      · simp [h5]
      have e1 : (n == 1) = false := by simpa using h1
      have e2 : (n == 2) = false := by simpa using h2
      have e3 : (n == 3) = false := by simpa using h3
      have e4 : (n == 4) = false := by simpa using h4
      have e5 : (n == 5) = false := by simpa using h5
      rw [e1, e2, e3, e4, e5]
      simp [h1, h2, h3, h4, h5]
    have run : ∀ r fv, Instr.findNow (.int .i64) (.int .i64 what) es.toList 0 = some r → (r.map (·.2)).getD .nilFunc = fv → (Instr.lookup 93 (.map (some m)) (.int .i64 what) true).run Try.prog w = .ok (.tuple #[fv, .bool r.isSome]) w := by
      intro r fv hr hfv
      subst hfv
      have hfr := hf w r hr
      cases r with
      | none => simp [Instr.lookup, hu, hg, hck, hfr, Try.zeroValue91]
      | some x => simp [Instr.lookup, hu, hg, hck, hfr]
    have roY : RepP w Im β (.ro [.int .i64 1]) (.pointer (some ⟨Y, 0, none⟩)) := ro_one hY iY
    have roZ : RepP w Im β (.ro [.int .i64 8]) (.pointer (some ⟨Z, 0, none⟩)) := ro_one hZ iZ
    have f0 : ∀ g, RepP w Im β (.func (.func g) [] []) (.func (.func g) #[] #[]) := fun g => .func _ _ _ _ _ rfl rfl (by simp) (by simp)
    have f1 : ∀ (g : Nat) (p : PV) (v : Value), RepP w Im β p v → RepP w Im β (.func (.func g) [] [p]) (.func (.func g) #[] #[v]) := fun g p v h => .func _ _ _ _ _ rfl rfl (by simp) (fun i q u hq hu => by
      cases i with
      | zero => simp at hq hu; subst hq; subst hu; exact h
      | succ i => simp at hq)
    rcases he with ⟨rfl, rfl, rfl⟩ | ⟨rfl, rfl, rfl⟩ | ⟨rfl, rfl, rfl⟩ | ⟨rfl, rfl, rfl⟩ | ⟨rfl, rfl, rfl⟩ | ⟨rfl, rfl, rfl⟩
    · exact ⟨_, run (some (0, e1.val)) _ (by rw [hnow]; rfl) rfl, by simp only [Option.map_some, Option.getD_some, v1]; exact f0 81⟩
    · exact ⟨_, run (some (1, e2.val)) _ (by rw [hnow]; rfl) rfl, by simp only [Option.map_some, Option.getD_some, v2]; exact f0 82⟩
    · exact ⟨_, run (some (2, e3.val)) _ (by rw [hnow]; rfl) rfl, by simp only [Option.map_some, Option.getD_some, v3]; exact f0 83⟩
    · exact ⟨_, run (some (3, e4.val)) _ (by rw [hnow]; rfl) rfl, by simp only [Option.map_some, Option.getD_some, v4]; exact f1 _ _ _ roY⟩
    · exact ⟨_, run (some (4, e5.val)) _ (by rw [hnow]; rfl) rfl, by simp only [Option.map_some, Option.getD_some, v5]; exact f1 _ _ _ roZ⟩
    · exact ⟨_, run none _ (by rw [hnow]; rfl) rfl, .nilFunc⟩
end Go.Proofs

set_option linter.unusedVariables false
set_option linter.unusedSimpArgs false
namespace Go.Proofs
open Go.Shelf Go.RowKit Go.Lib Go.Pv

theorem want_none {ops : Array Oper} {o : Oper} (h : o.guard = none) (a : Act) : Region.wanted o (yielded ops a.tmps) = true := by simp [Region.wanted, h]

/-- The region of count.Step in which the table is laid and asked. -/
theorem step_r6 {ops : Array Oper} {id : Nat} {o0 o1 o2 : Oper} (hsz : ops.size = 8) (h0 : ops[0]? = some o0) (p0 : o0.op = .call { callee := .value (.func 71), args := #[], argTypes := #[] }) (d0 : o0.dst = some 18) (g0 : o0.guard = none)
    (h1 : ops[1]? = some o1) (p1 : o1.op = .move (.tmp 1)) (d1 : o1.dst = some 19) (g1 : o1.guard = none) (h2 : ops[2]? = some o2) (p2 : o2.op = .lookup 93 (.tmp 18) (.tmp 19) true) (d2 : o2.dst = some 20) (g2 : o2.guard = none)
    {what : Int} {pf : PV} {ok : Bool} (he : Entry what pf ok) {w : World} {Im : ImT} {O : OwT} {β : List Nat} {st : St} {a : Act} (hI : Inv w Im O β st a) (hlen : st.slots.length = 33) (hw : rd st.slots 1 = .d (.int .i64 what))
    {st' : St} (hev : evIdx E0 (evI E0) ops [3, 4, 5, 6, 7] ⟨((st.slots.set 18 .any).set 19 (.d (.int .i64 what))).set 20 (.tup [pf, .d (.bool ok)]), st.store⟩ = some st') {Q : Exit → Act → World → Prop}
    (hQ : ∀ w' Im' O' β' a', Fr w Im O w' Im' O' → Ext β β' → Inv w' Im' O' β' st' a' → a'.defers = a.defers → Q .normal a' w') : (Code.region id ops false).wp Try.prog Q a w := by
  refine wp_region ?_
  rw [hsz]
  show wpOps Try.prog ops Q [0, 1, 2, 3, 4, 5, 6, 7] a w
  rw [wpOps_cons]
  unfold wpOp
  simp only [h0, want_none g0, if_true]
  refine .inl ?_
  have hrun0 : (execOp a.eval o0).run Try.prog w = .ok (.enter 71 #[]) w := by
    have := enters_of Try.func71 (by kernel_rfl) (by rfl : Try.f71.body = some _)
    simp [execOp, p0, resolve, Act.eval, invoke, Deferred.ofValue, this #[] w]
  unfold Oper.wp
  rw [hrun0]
  refine (Try.works w).mono ?_
  rintro e w1 ⟨m, Y, Z, es, c, rfl, hb, hm, hY, hZ, cY, cZ, hes⟩
  show wpOps Try.prog ops Q [1, 2, 3, 4, 5, 6, 7] (a.put o0.dst (.map (some m))) w1
  rw [wpOps_cons]
  -- the world behind the making of the table
  obtain ⟨gd1, fr1, sl1⟩ := hI.good.newW (w' := w1) (Im' := fun b o => Im b o ∨ (b = Y ∧ o = 0) ∨ (b = Z ∧ o = 0)) (below_newW hb) (fun _ _ h => .inl h) (fun b o h => by
    rcases h with h | ⟨rfl, rfl⟩ | ⟨rfl, rfl⟩
    · exact .inl h
    · exact .inr ⟨hY, _, cY⟩
    · exact .inr ⟨hZ, _, cZ⟩)
  have hS1 := sl1 _ _ hI.slots
  have hI1 : Pv.Inv w1 _ O β ⟨st.slots.set 18 .any, st.store⟩ (a.put o0.dst (.map (some m))) :=
    ⟨gd1, by have := hS1.put (a := a) (r := .any) (v := .map (some m)) (dst := o0.dst) (.any _ rfl) (fun d _ => .of_not (by simp)); rw [show putS st.slots o0.dst .any = st.slots.set 18 .any by rw [d0]; rfl] at this; exact this⟩
  have l18 : (st.slots.set 18 .any).length = 33 := by simp [hlen]
  have hr1 : rd (st.slots.set 18 .any) 1 = .d (.int .i64 what) := by rw [← hw]; simp [rd, List.getD, List.getElem?_set]
  have e1 : (a.put o0.dst (.map (some m))).eval (.tmp 1) = .int .i64 what := by
    have := (hI1.slots.get 1).1
    simp only at this
    rw [hr1] at this
    exact this.int_inv
  have sz : (a.put o0.dst (.map (some m))).tmps.size = 33 := by rw [← hI1.slots.len]; exact l18
  unfold wpOp
  simp only [h1, want_none g1, if_true]
  refine .inl ?_
  have hrun1 : (execOp (a.put o0.dst (.map (some m))).eval o1).run Try.prog w1 = .ok (.value (.int .i64 what)) w1 := by
    simp [execOp, p1, e1]
  unfold Oper.wp
  rw [hrun1]
  show wpOps Try.prog ops Q [2, 3, 4, 5, 6, 7] ((a.put o0.dst (.map (some m))).put o1.dst (.int .i64 what)) w1
  have hI2 : Pv.Inv w1 _ O β ⟨(st.slots.set 18 .any).set 19 (.d (.int .i64 what)), st.store⟩ ((a.put o0.dst (.map (some m))).put o1.dst (.int .i64 what)) :=
    ⟨gd1, by have := hI1.slots.put (r := .d (.int .i64 what)) (v := .int .i64 what) (dst := o1.dst) (.d (.int _ _)) (fun d _ => .of_not (by simp)); rw [show putS (st.slots.set 18 .any) o1.dst (.d (.int .i64 what)) = (st.slots.set 18 .any).set 19 (.d (.int .i64 what)) by rw [d1]; rfl] at this; exact this⟩
  rw [wpOps_cons]
  unfold wpOp
  simp only [h2, want_none g2, if_true]
  refine .inl ?_
  obtain ⟨fv, hlk, hfv⟩ := lookup_run (β := β) (Im := fun b o => Im b o ∨ (b = Y ∧ o = 0) ∨ (b = Z ∧ o = 0)) hm hes cY cZ (.inr (.inl ⟨rfl, rfl⟩)) (.inr (.inr ⟨rfl, rfl⟩)) he
  have e18 : ((a.put o0.dst (.map (some m))).put o1.dst (.int .i64 what)).eval (.tmp 18) = .map (some m) := by
    have hsa : 18 < a.tmps.size := by rw [d0] at sz; simp [Act.put] at sz; omega
    rw [d0, d1]
    simp [Act.put, Act.eval, hsa]
  have e19 : ((a.put o0.dst (.map (some m))).put o1.dst (.int .i64 what)).eval (.tmp 19) = .int .i64 what := by
    have := (hI2.slots.get 19).1
    simp only at this
    rw [show rd ((st.slots.set 18 .any).set 19 (.d (.int .i64 what))) 19 = .d (.int .i64 what) by simp [rd, List.getD, List.getElem?_set, hlen]] at this
    exact this.int_inv
  have hrun2 : (execOp ((a.put o0.dst (.map (some m))).put o1.dst (.int .i64 what)).eval o2).run Try.prog w1 = .ok (.value (.tuple #[fv, .bool ok])) w1 := by
    simp [execOp, p2, e18, e19, hlk]
  unfold Oper.wp
  rw [hrun2]
  show wpOps Try.prog ops Q [3, 4, 5, 6, 7] (((a.put o0.dst (.map (some m))).put o1.dst (.int .i64 what)).put o2.dst (.tuple #[fv, .bool ok])) w1
  have hI3 : Pv.Inv w1 _ O β ⟨((st.slots.set 18 .any).set 19 (.d (.int .i64 what))).set 20 (.tup [pf, .d (.bool ok)]), st.store⟩ (((a.put o0.dst (.map (some m))).put o1.dst (.int .i64 what)).put o2.dst (.tuple #[fv, .bool ok])) :=
    ⟨gd1, by
      have := hI2.slots.put (r := .tup [pf, .d (.bool ok)]) (v := .tuple #[fv, .bool ok]) (dst := o2.dst) (.tup _ _ rfl (fun i q u hq hu => by
        cases i with
        | zero => simp at hq hu; subst hq; subst hu; exact hfv
        | succ i =>
          cases i with
          | zero => simp at hq hu; subst hq; subst hu; exact .d (.bool _)
          | succ i => simp at hq)) (fun d _ => .of_not (by simp))
      rw [show putS ((st.slots.set 18 .any).set 19 (.d (.int .i64 what))) o2.dst (.tup [pf, .d (.bool ok)]) = ((st.slots.set 18 .any).set 19 (.d (.int .i64 what))).set 20 (.tup [pf, .d (.bool ok)]) by rw [d2]; rfl] at this
      exact this⟩
  refine evIdx_ok (evI_ok E0_ok) E0_ok.ov _ hI3 hev (fun w' Im' O' β' a' k1 k2 k3 k4 => hQ w' Im' O' β' a' (fr1.trans k1) k2 k3 (k4.trans ?_))
  rw [put_defers, put_defers, put_defers]
end Go.Proofs

set_option linter.unusedVariables false
set_option linter.unusedSimpArgs false
set_option maxRecDepth 100000
namespace Go.Proofs
open Go.Shelf Go.RowKit Go.Lib Go.Pv

theorem Try.aggT26 : aggT Try.prog 26 = some true := by kernel_rfl
theorem Try.aggT90 : aggT Try.prog 90 = some true := by kernel_rfl
theorem Try.aggT3 : aggT Try.prog 3 = some false := by kernel_rfl
theorem Try.szT26 : szT Try.prog 26 = some 4 := by kernel_rfl
theorem Try.szT90 : szT Try.prog 90 = some 4 := by kernel_rfl
theorem Try.szT3 : szT Try.prog 3 = some 1 := by kernel_rfl
theorem Try.zeroT26 : zeroT Try.prog 26 = some (.agg [.d (.int .i64 0), .d (.int .i64 0), .d (.int .i64 0), .d (.int .i64 0)]) := by kernel_rfl
theorem Try.zeroT90 : zeroT Try.prog 90 = some (.agg [.d (.int .i64 0), .d (.int .i64 0), .d (.int .i64 0), .d (.int .i64 0)]) := by kernel_rfl
theorem Try.placesOf26 : placesOf Try.prog 26 = some (fun i => [(0, 1), (1, 1), (2, 1), (3, 1)][i]?) := by kernel_rfl
theorem E0P : E0.P = Try.prog := rfl

theorem ev81 (b0 b1 : List PV) (t r s q : Int) (ht : 0 ≤ t ∧ t ≤ 1000) : evI E0 81 [.ptr 2 0] [b0, b1, [.d (.int .i64 t), .d (.int .i64 r), .d (.int .i64 s), .d (.int .i64 q)]] =
    some (.tup [], [b0, b1, [.d (.int .i64 (max (t - 1) 0)), .d (.int .i64 r), .d (.int .i64 s), .d (.int .i64 q)]]) := by
  have hw : IntKind.i64.wrap (t - 1) = t - 1 := by rw [IntWalk.i64_left]; unfold wrap64; omega
  refine evI_run (fn := Try.f81) 5 rfl Try.func81 rfl ?_
  simp [Try.f81, evCode, evOps, evOp, evWant, evCore, evPure, evCall, use, useL, useParts, opv, rd, putS, untake, moveIt, takes, appendFirst, appTmp, apartL, apartB, posOf, cellsOf, isBelowL, PV.isBelow, isDataL, PV.isData, loadAs, loadS, storeS, storeAs, storedCells, oneP, PV.strip, PV.strip1, PV.keep0, evFieldAddr, evField, partP, evSlice, bound, natOf, rowsOk, evIndexAddr, evIndex, evLen, evAppend, ownRows, elemsOf, acc, fillP, bin_add, bin_sub, bin_mul, bin_lss, bin_leq, bin_gtr, bin_geq, bin_eql, bin_neq, bin_and, bin_andNot, un_not, mm_max, mm_min, ofValue, ofCell, slotOf, resVal, resOne, resL, retOf, toDL, toD, sameStore, sameCells, PV.same, DV.same_self, sameRows_self, sameL_self, E0P, Try.aggT3, Try.szT3, Try.aggT26, Try.szT26, Try.aggT90, Try.szT90, Try.underlying90, hw]
theorem ev82 (b0 b1 : List PV) (t r s q : Int) (ht : 0 ≤ r ∧ r ≤ 1000) : evI E0 82 [.ptr 2 0] [b0, b1, [.d (.int .i64 t), .d (.int .i64 r), .d (.int .i64 s), .d (.int .i64 q)]] =
    some (.tup [], [b0, b1, [.d (.int .i64 t), .d (.int .i64 (min (max (r - 1) 0) 127)), .d (.int .i64 s), .d (.int .i64 q)]]) := by
  have hw : IntKind.i64.wrap (r - 1) = r - 1 := by rw [IntWalk.i64_left]; unfold wrap64; omega
  refine evI_run (fn := Try.f82) 5 rfl Try.func82 rfl ?_
  simp [Try.f82, evCode, evOps, evOp, evWant, evCore, evPure, evCall, use, useL, useParts, opv, rd, putS, untake, moveIt, takes, appendFirst, appTmp, apartL, apartB, posOf, cellsOf, isBelowL, PV.isBelow, isDataL, PV.isData, loadAs, loadS, storeS, storeAs, storedCells, oneP, PV.strip, PV.strip1, PV.keep0, evFieldAddr, evField, partP, evSlice, bound, natOf, rowsOk, evIndexAddr, evIndex, evLen, evAppend, ownRows, elemsOf, acc, fillP, bin_add, bin_sub, bin_mul, bin_lss, bin_leq, bin_gtr, bin_geq, bin_eql, bin_neq, bin_and, bin_andNot, un_not, mm_max, mm_min, ofValue, ofCell, slotOf, resVal, resOne, resL, retOf, toDL, toD, sameStore, sameCells, PV.same, DV.same_self, sameRows_self, sameL_self, E0P, Try.aggT3, Try.szT3, Try.aggT26, Try.szT26, Try.aggT90, Try.szT90, Try.underlying90, hw]
theorem ev83 (b0 b1 : List PV) (t r s q : Int) (ht : 0 ≤ t ∧ t ≤ 1000) : evI E0 83 [.ptr 2 0] [b0, b1, [.d (.int .i64 t), .d (.int .i64 r), .d (.int .i64 s), .d (.int .i64 q)]] =
    some (.tup [], [b0, b1, [.d (.int .i64 (t + 8)), .d (.int .i64 r), .d (.int .i64 s), .d (.int .i64 q)]]) := by
  have hw : IntKind.i64.wrap (t + 8) = t + 8 := by rw [IntWalk.i64_left]; unfold wrap64; omega
  refine evI_run (fn := Try.f83) 5 rfl Try.func83 rfl ?_
  simp [Try.f83, evCode, evOps, evOp, evWant, evCore, evPure, evCall, use, useL, useParts, opv, rd, putS, untake, moveIt, takes, appendFirst, appTmp, apartL, apartB, posOf, cellsOf, isBelowL, PV.isBelow, isDataL, PV.isData, loadAs, loadS, storeS, storeAs, storedCells, oneP, PV.strip, PV.strip1, PV.keep0, evFieldAddr, evField, partP, evSlice, bound, natOf, rowsOk, evIndexAddr, evIndex, evLen, evAppend, ownRows, elemsOf, acc, fillP, bin_add, bin_sub, bin_mul, bin_lss, bin_leq, bin_gtr, bin_geq, bin_eql, bin_neq, bin_and, bin_andNot, un_not, mm_max, mm_min, ofValue, ofCell, slotOf, resVal, resOne, resL, retOf, toDL, toD, sameStore, sameCells, PV.same, DV.same_self, sameRows_self, sameL_self, E0P, Try.aggT3, Try.szT3, Try.aggT26, Try.szT26, Try.aggT90, Try.szT90, Try.underlying90, hw]
theorem ev89 (b0 b1 : List PV) (t r s q y : Int) (ht : 0 ≤ r ∧ r ≤ 1000) (hy : 0 ≤ y ∧ y ≤ 1000) : evI E0 89 [.ptr 2 0, .ro [.int .i64 y]] [b0, b1, [.d (.int .i64 t), .d (.int .i64 r), .d (.int .i64 s), .d (.int .i64 q)]] =
    some (.tup [], [b0, b1, [.d (.int .i64 t), .d (.int .i64 (min (r + y) 255)), .d (.int .i64 s), .d (.int .i64 q)]]) := by
  have hw : IntKind.i64.wrap (r + y) = r + y := by rw [IntWalk.i64_left]; unfold wrap64; omega
  refine evI_run (fn := Try.f89) 5 rfl Try.func89 rfl ?_
  simp [Try.f89, evCode, evOps, evOp, evWant, evCore, evPure, evCall, use, useL, useParts, opv, rd, putS, untake, moveIt, takes, appendFirst, appTmp, apartL, apartB, posOf, cellsOf, isBelowL, PV.isBelow, isDataL, PV.isData, loadAs, loadS, storeS, storeAs, storedCells, oneP, PV.strip, PV.strip1, PV.keep0, evFieldAddr, evField, partP, evSlice, bound, natOf, rowsOk, evIndexAddr, evIndex, evLen, evAppend, ownRows, elemsOf, acc, fillP, bin_add, bin_sub, bin_mul, bin_lss, bin_leq, bin_gtr, bin_geq, bin_eql, bin_neq, bin_and, bin_andNot, un_not, mm_max, mm_min, ofValue, ofCell, slotOf, resVal, resOne, resL, retOf, toDL, toD, sameStore, sameCells, PV.same, DV.same_self, sameRows_self, sameL_self, E0, Try.aggT3, Try.szT3, Try.aggT26, Try.szT26, Try.aggT90, Try.szT90, Try.underlying90, hw]
theorem ev72 (b0 b1 : List PV) (t r s q : Int) : evI E0 72 [.ptr 2 0] [b0, b1, [.d (.int .i64 t), .d (.int .i64 r), .d (.int .i64 s), .d (.int .i64 q)]] =
    some (.d (.int .i64 (if max t r > 127 then 2 else 1)), [b0, b1, [.d (.int .i64 t), .d (.int .i64 r), .d (.int .i64 s), .d (.int .i64 q)]]) := by
  refine evI_run (fn := Try.f72) 5 rfl Try.func72 rfl ?_
  by_cases h : max t r > 127 <;> simp [Try.f72, evCode, evOps, evOp, evWant, evCore, evPure, evCall, use, useL, useParts, opv, rd, putS, untake, moveIt, takes, appendFirst, appTmp, apartL, apartB, posOf, cellsOf, isBelowL, PV.isBelow, isDataL, PV.isData, loadAs, loadS, storeS, storeAs, storedCells, oneP, PV.strip, PV.strip1, PV.keep0, evFieldAddr, evField, partP, evSlice, bound, natOf, rowsOk, evIndexAddr, evIndex, evLen, evAppend, ownRows, elemsOf, acc, fillP, bin_add, bin_sub, bin_mul, bin_lss, bin_leq, bin_gtr, bin_geq, bin_eql, bin_neq, bin_and, bin_andNot, un_not, mm_max, mm_min, ofValue, ofCell, slotOf, resVal, resOne, resL, retOf, toDL, toD, sameStore, sameCells, PV.same, DV.same_self, sameRows_self, sameL_self, E0, Try.aggT3, Try.szT3, Try.aggT26, Try.szT26, Try.aggT90, Try.szT90, Try.underlying90, h]
end Go.Proofs

set_option linter.unusedVariables false
set_option linter.unusedSimpArgs false
set_option maxRecDepth 100000
namespace Go.Pv
open Go

theorem ev_seq_normal {E : Env} {F : FnEv} {k : Nat} {x y : Code} {st st' : St} (h : evCode E F k (.seq x y) st = some (.normal, st')) : ∃ st1, evCode E F k x st = some (.normal, st1) ∧ evCode E F k y st1 = some (.normal, st') := by
  simp only [evCode] at h
  cases hx : evCode E F k x st with
  | none => simp [hx] at h
  | some r =>
    obtain ⟨e, s⟩ := r
    cases e with
    | normal => simp only [hx, Option.bind_some] at h; exact ⟨s, rfl, h⟩
    | exit i => simp [hx] at h
    | ret => simp [hx] at h

theorem inv_start {w : World} {Im : ImT} {O : OwT} {β : List Nat} {σ : Store} {args : List PV} {vs : Array Value} (hg : Good w Im O β σ) (hargs : RepArgs w Im β args vs) (n : Nat) :
    Inv w Im O β ⟨args ++ List.replicate (n - args.length) .undef, σ⟩ { tmps := vs ++ Array.replicate (n - vs.size) undef, defers := [] } := by
  refine ⟨hg, ⟨by simp [hargs.1], fun i p u hp hu => ?_⟩⟩
  by_cases hi : i < args.length
  · rw [List.getElem?_append_left hi] at hp
    rw [Array.getElem?_append_left (by rw [← hargs.1]; exact hi)] at hu
    exact ⟨(hargs.2 i p u hp hu).1, .of_not (hargs.2 i p u hp hu).2⟩
  · rw [List.getElem?_append_right (by omega), List.getElem?_replicate] at hp
    rw [Array.getElem?_append_right (by rw [← hargs.1]; omega), Array.getElem?_replicate] at hu
    split at hp
    · split at hu
      · cases hp; cases hu
        exact ⟨.undef, .of_not (by simp)⟩
      · cases hu
    · cases hp
end Go.Pv
namespace Go.Proofs
open Go.Shelf Go.RowKit Go.Lib Go.Pv

def codeL : Code → Code | .seq a _ => a | c => c
def codeR : Code → Code | .seq _ b => b | c => c
def regOps : Code → Array Oper | .region _ ops _ => ops | _ => #[]
noncomputable def c49 : Code := Try.f49.body.getD .skip
noncomputable def c49a : Code := .seq (codeL c49) (.seq (codeL (codeR c49)) (codeL (codeR (codeR c49))))
noncomputable def c49o : Array Oper := regOps (codeL (codeL (codeR (codeR (codeR c49)))))
noncomputable def c49b : Code := codeR (codeL (codeR (codeR (codeR c49))))
noncomputable def c49c : Code := codeR (codeR (codeR (codeR c49)))
theorem body49 : Try.f49.body = some (.seq (codeL c49) (.seq (codeL (codeR c49)) (.seq (codeL (codeR (codeR c49))) (.seq (.seq (.region 6 c49o false) c49b) c49c)))) := by kernel_rfl

def cn (t r s q : Int) : PV := .agg [.d (.int .i64 t), .d (.int .i64 r), .d (.int .i64 s), .d (.int .i64 q)]

/-- From what the parts of count.Step's code give, its contract. -/
theorem step_join {t r s q what : Int} {pf : PV} {ok : Bool} (he : Entry what pf ok) {st3 st4 st5 st6 : St} {v : PV} (hv : v.isData = true)
    (h1 : evCode E0 (evI E0) 5 c49a ⟨[cn t r s q, .d (.int .i64 what)] ++ List.replicate 31 .undef, []⟩ = some (.normal, st3)) (hlen : st3.slots.length = 33) (hw : rd st3.slots 1 = .d (.int .i64 what))
    (h2 : evIdx E0 (evI E0) c49o [3, 4, 5, 6, 7] ⟨((st3.slots.set 18 .any).set 19 (.d (.int .i64 what))).set 20 (.tup [pf, .d (.bool ok)]), st3.store⟩ = some st4)
    (h3 : evCode E0 (evI E0) 5 c49b st4 = some (.normal, st5)) (h4 : evCode E0 (evI E0) 5 c49c st5 = some (.ret, st6)) (h5 : resVal Try.prog Try.f49 st6 = some v) :
    CallOk Try.prog 49 [cn t r s q, .d (.int .i64 what)] [] v [] := by
  refine CallOk.drop (σ' := st6.store) ⟨⟨_, Try.func49, rfl, by decide⟩, fun w Im O β vs hg hO hargs => ?_⟩ hv
  refine calls_of_wp Try.func49 body49 ?_
  have hI := inv_start hg hargs 33
  obtain ⟨s1, k1, k2⟩ := ev_seq_normal h1
  obtain ⟨s2, k2, k3⟩ := ev_seq_normal k2
  have hE := E0_ok
  have hF := evI_ok E0_ok
  refine wp_seq (code_ok hE hF (k := 5) _ (by kernel_rfl) hI k1 fun w1 Im1 O1 β1 a1 f1 x1 i1 d1 => ?_)
  refine wp_seq (code_ok hE hF (k := 5) _ (by kernel_rfl) i1 k2 fun w2 Im2 O2 β2 a2 f2 x2 i2 d2 => ?_)
  refine wp_seq (code_ok hE hF (k := 5) _ (by kernel_rfl) i2 k3 fun w3 Im3 O3 β3 a3 f3 x3 i3 d3 => ?_)
  refine wp_seq (wp_seq ?_)
  refine step_r6 (by kernel_rfl) (by rfl) rfl rfl rfl (by rfl) rfl rfl rfl (by rfl) rfl rfl rfl he i3 hlen hw h2 fun w4 Im4 O4 β4 a4 f4 x4 i4 d4 => ?_
  refine code_ok hE hF (k := 5) _ (by kernel_rfl) i4 h3 fun w5 Im5 O5 β5 a5 f5 x5 i5 d5 => ?_
  refine code_ok hE hF (k := 5) _ (by kernel_rfl) i5 h4 fun w6 Im6 O6 β6 a6 f6 x6 i6 d6 => ?_
  obtain ⟨v', g1, g2, l, g3⟩ := res_ok (P := Try.prog) i6 h5
  have hd : a6.defers = [] := d6.trans (d5.trans (d4.trans (d3.trans (d2.trans d1))))
  exact ⟨hd, v', g1, v', Im6, O6, β6, l, rfl, f1.trans (f2.trans (f3.trans (f4.trans (f5.trans f6)))), x1.trans (x2.trans (x3.trans (x4.trans (x5.trans x6)))), i6.good, g2, g3⟩
end Go.Proofs

set_option linter.unusedVariables false
set_option linter.unusedSimpArgs false
set_option maxRecDepth 100000
set_option maxHeartbeats 4000000
namespace Go.Proofs
open Go.Shelf Go.RowKit Go.Lib Go.Pv

def wkT (what t : Int) : Int := if what = 1 then max (t - 1) 0 else if what = 3 then t + 8 else t
def wkR (what r : Int) : Int := if what = 2 then min (max (r - 1) 0) 127 else if what = 4 then min (r + 1) 255 else if what = 5 then min (r + 8) 255 else r
def stepV (t r s q what : Int) : PV :=
  if s = 3 then (if what = 6 then (if q + 1 = 128 then cn 0 0 1 0 else cn t r s (q + 1)) else cn t r s q)
  else if wkT what t > 255 then cn 256 0 3 0 else cn (wkT what t) (wkR what r) (if max (wkT what t) (wkR what r) > 127 then 2 else 1) q

theorem E0ov (f : FuncId) : E0.ov f = none := rfl
theorem E0ap (p : String) : E0.apart p = if p = "node.go:119" then [(5, 2)] else if p = "ref.go:133" then [(5, 2)] else [] := rfl
theorem E0p81 : E0.pure 81 = false := rfl
theorem E0p82 : E0.pure 82 = false := rfl
theorem E0p83 : E0.pure 83 = false := rfl
theorem E0p89 : E0.pure 89 = false := rfl
theorem E0p72 : E0.pure 72 = false := rfl
theorem E0p70 : E0.pure 70 = true := rfl
theorem E0r81 : E0.ro 81 = false := rfl
theorem E0r82 : E0.ro 82 = false := rfl
theorem E0r83 : E0.ro 83 = false := rfl
theorem E0r89 : E0.ro 89 = false := rfl
theorem E0r72 : E0.ro 72 = true := rfl

theorem step_pre (t r s q what : Int) (h : s ≠ 3) : evCode E0 (evI E0) 5 c49a ⟨[cn t r s q, .d (.int .i64 what)] ++ List.replicate 31 .undef, []⟩ =
    some (.normal, ⟨[cn t r s q, .d (.int .i64 what), .ptr 0 0, .undef, .ptr 1 0, .ptr 2 0, .undef, .undef, .ptr 0 2, .d (.int .i64 s), .d (.bool (s == 3)), .undef, .undef, .undef, .undef, .undef, cn t r s q] ++ List.replicate 16 .undef,
      [[.d (.int .i64 t), .d (.int .i64 r), .d (.int .i64 s), .d (.int .i64 q)], [.d (.int .i64 0), .d (.int .i64 0), .d (.int .i64 0), .d (.int .i64 0)], [.d (.int .i64 t), .d (.int .i64 r), .d (.int .i64 s), .d (.int .i64 q)]]⟩) := by
  simp [c49a, c49, cn, codeL, codeR, Try.f49, evCode, evOps, evOp, evWant, evCore, evPure, evCall, use, useL, useParts, opv, rd, putS, untake, moveIt, takes, appendFirst, appTmp, apartL, apartB, posOf, cellsOf, isBelowL, PV.isBelow, isDataL, PV.isData, loadAs, loadS, storeS, storeAs, storedCells, oneP, PV.strip, PV.strip1, PV.keep0, evFieldAddr, evField, partP, evSlice, bound, natOf, rowsOk, evIndexAddr, evIndex, evLen, evAppend, ownRows, elemsOf, acc, fillP, bin_add, bin_sub, bin_mul, bin_lss, bin_leq, bin_gtr, bin_geq, bin_eql, bin_neq, bin_and, bin_andNot, un_not, mm_max, mm_min, ofValue, ofCell, slotOf, resVal, resOne, resL, retOf, toDL, toD, sameStore, sameCells, PV.same, DV.same_self, sameRows_self, sameL_self, callIt, E0P, Try.aggT26, Try.aggT3, Try.szT26, Try.szT3, Try.zeroT26, Try.aggT90, Try.szT90, Try.zeroT90, Try.underlying26, Try.underlying90, h]


theorem step_1 (t r s q : Int) (hs : s ≠ 3) (ht : 0 ≤ t ∧ t ≤ 900) (hr : 0 ≤ r ∧ r ≤ 900) : CallOk Try.prog 49 [cn t r s q, .d (.int .i64 1)] [] (stepV t r s q 1) [] := by
  have hT : wkT 1 t = max (t - 1) 0 := by simp [wkT]
  have hR : wkR 1 r = r := by simp [wkR]
  have ev : stepV t r s q 1 = if max (t - 1) 0 > 255 then cn 256 0 3 0 else cn (max (t - 1) 0) (r) (if max (max (t - 1) 0) (r) > 127 then 2 else 1) q := by simp only [stepV, hs, if_false, hT, hR]
  rw [ev]
  have he : Entry 1 (.func (.func 81) [] []) true := .inl ⟨rfl, rfl, rfl⟩
  by_cases hb : max (t - 1) 0 > 255
  · rw [if_pos hb]
    refine step_join he rfl (step_pre t r s q 1 hs) (by simp) rfl (st4 := ?s4) (st5 := ?s5) (st6 := ?s6) ?h2 ?h3 ?h4 ?h5
    case h2 =>
      simp [c49o, regOps, codeL, codeR, c49, Try.f49, evIdx, evCode, evOps, evOp, evWant, evCore, evPure, evCall, use, useL, useParts, opv, rd, putS, untake, moveIt, takes, appendFirst, appTmp, apartL, apartB, posOf, cellsOf, isBelowL, PV.isBelow, isDataL, PV.isData, loadAs, loadS, storeS, storeAs, storedCells, oneP, PV.strip, PV.strip1, PV.keep0, evFieldAddr, evField, partP, evSlice, bound, natOf, rowsOk, evIndexAddr, evIndex, evLen, evAppend, ownRows, elemsOf, acc, fillP, bin_add, bin_sub, bin_mul, bin_lss, bin_leq, bin_gtr, bin_geq, bin_eql, bin_neq, bin_and, bin_andNot, un_not, mm_max, mm_min, ofValue, ofCell, slotOf, resVal, resOne, resL, retOf, toDL, toD, sameStore, sameCells, PV.same, DV.same_self, sameRows_self, sameL_self, callIt, E0P, cn]
      rfl
    case h3 =>
      simp [c49b, codeL, codeR, c49, Try.f49, evCode, evOps, evOp, evWant, evCore, evPure, evCall, use, useL, useParts, opv, rd, putS, untake, moveIt, takes, appendFirst, appTmp, apartL, apartB, posOf, cellsOf, isBelowL, PV.isBelow, isDataL, PV.isData, loadAs, loadS, storeS, storeAs, storedCells, oneP, PV.strip, PV.strip1, PV.keep0, evFieldAddr, evField, partP, evSlice, bound, natOf, rowsOk, evIndexAddr, evIndex, evLen, evAppend, ownRows, elemsOf, acc, fillP, bin_add, bin_sub, bin_mul, bin_lss, bin_leq, bin_gtr, bin_geq, bin_eql, bin_neq, bin_and, bin_andNot, un_not, mm_max, mm_min, ofValue, ofCell, slotOf, resVal, resOne, resL, retOf, toDL, toD, sameStore, sameCells, PV.same, DV.same_self, sameRows_self, sameL_self, callIt, E0P, cn, E0ov, E0p81, E0r81, ev81 _ _ t r s q (by omega)]
      rfl
    case h4 =>
      simp [c49c, codeL, codeR, c49, Try.f49, evCode, evOps, evOp, evWant, evCore, evPure, evCall, use, useL, useParts, opv, rd, putS, untake, moveIt, takes, appendFirst, appTmp, apartL, apartB, posOf, cellsOf, isBelowL, PV.isBelow, isDataL, PV.isData, loadAs, loadS, storeS, storeAs, storedCells, oneP, PV.strip, PV.strip1, PV.keep0, evFieldAddr, evField, partP, evSlice, bound, natOf, rowsOk, evIndexAddr, evIndex, evLen, evAppend, ownRows, elemsOf, acc, fillP, bin_add, bin_sub, bin_mul, bin_lss, bin_leq, bin_gtr, bin_geq, bin_eql, bin_neq, bin_and, bin_andNot, un_not, mm_max, mm_min, ofValue, ofCell, slotOf, resVal, resOne, resL, retOf, toDL, toD, sameStore, sameCells, PV.same, DV.same_self, sameRows_self, sameL_self, callIt, E0P, cn, Try.aggT26, Try.aggT3, Try.szT26, Try.szT3, Try.zeroT26, Try.placesOf26, Try.aggT90, Try.szT90, Try.zeroT90, Try.underlying26, Try.underlying90, E0ov, E0p72, E0r72, ev72, hb]
      rfl
    case h5 => simp [Try.f49, evCode, evOps, evOp, evWant, evCore, evPure, evCall, use, useL, useParts, opv, rd, putS, untake, moveIt, takes, appendFirst, appTmp, apartL, apartB, posOf, cellsOf, isBelowL, PV.isBelow, isDataL, PV.isData, loadAs, loadS, storeS, storeAs, storedCells, oneP, PV.strip, PV.strip1, PV.keep0, evFieldAddr, evField, partP, evSlice, bound, natOf, rowsOk, evIndexAddr, evIndex, evLen, evAppend, ownRows, elemsOf, acc, fillP, bin_add, bin_sub, bin_mul, bin_lss, bin_leq, bin_gtr, bin_geq, bin_eql, bin_neq, bin_and, bin_andNot, un_not, mm_max, mm_min, ofValue, ofCell, slotOf, resVal, resOne, resL, retOf, toDL, toD, sameStore, sameCells, PV.same, DV.same_self, sameRows_self, sameL_self, callIt, Try.aggT26, Try.szT26, cn]
  · rw [if_neg hb]
    refine step_join he rfl (step_pre t r s q 1 hs) (by simp) rfl (st4 := ?u4) (st5 := ?u5) (st6 := ?u6) ?h2 ?h3 ?h4 ?h5
    case h2 =>
      simp [c49o, regOps, codeL, codeR, c49, Try.f49, evIdx, evCode, evOps, evOp, evWant, evCore, evPure, evCall, use, useL, useParts, opv, rd, putS, untake, moveIt, takes, appendFirst, appTmp, apartL, apartB, posOf, cellsOf, isBelowL, PV.isBelow, isDataL, PV.isData, loadAs, loadS, storeS, storeAs, storedCells, oneP, PV.strip, PV.strip1, PV.keep0, evFieldAddr, evField, partP, evSlice, bound, natOf, rowsOk, evIndexAddr, evIndex, evLen, evAppend, ownRows, elemsOf, acc, fillP, bin_add, bin_sub, bin_mul, bin_lss, bin_leq, bin_gtr, bin_geq, bin_eql, bin_neq, bin_and, bin_andNot, un_not, mm_max, mm_min, ofValue, ofCell, slotOf, resVal, resOne, resL, retOf, toDL, toD, sameStore, sameCells, PV.same, DV.same_self, sameRows_self, sameL_self, callIt, E0P, cn]
      rfl
    case h3 =>
      simp [c49b, codeL, codeR, c49, Try.f49, evCode, evOps, evOp, evWant, evCore, evPure, evCall, use, useL, useParts, opv, rd, putS, untake, moveIt, takes, appendFirst, appTmp, apartL, apartB, posOf, cellsOf, isBelowL, PV.isBelow, isDataL, PV.isData, loadAs, loadS, storeS, storeAs, storedCells, oneP, PV.strip, PV.strip1, PV.keep0, evFieldAddr, evField, partP, evSlice, bound, natOf, rowsOk, evIndexAddr, evIndex, evLen, evAppend, ownRows, elemsOf, acc, fillP, bin_add, bin_sub, bin_mul, bin_lss, bin_leq, bin_gtr, bin_geq, bin_eql, bin_neq, bin_and, bin_andNot, un_not, mm_max, mm_min, ofValue, ofCell, slotOf, resVal, resOne, resL, retOf, toDL, toD, sameStore, sameCells, PV.same, DV.same_self, sameRows_self, sameL_self, callIt, E0P, cn, E0ov, E0p81, E0r81, ev81 _ _ t r s q (by omega)]
      rfl
    case h4 =>
      simp [c49c, codeL, codeR, c49, Try.f49, evCode, evOps, evOp, evWant, evCore, evPure, evCall, use, useL, useParts, opv, rd, putS, untake, moveIt, takes, appendFirst, appTmp, apartL, apartB, posOf, cellsOf, isBelowL, PV.isBelow, isDataL, PV.isData, loadAs, loadS, storeS, storeAs, storedCells, oneP, PV.strip, PV.strip1, PV.keep0, evFieldAddr, evField, partP, evSlice, bound, natOf, rowsOk, evIndexAddr, evIndex, evLen, evAppend, ownRows, elemsOf, acc, fillP, bin_add, bin_sub, bin_mul, bin_lss, bin_leq, bin_gtr, bin_geq, bin_eql, bin_neq, bin_and, bin_andNot, un_not, mm_max, mm_min, ofValue, ofCell, slotOf, resVal, resOne, resL, retOf, toDL, toD, sameStore, sameCells, PV.same, DV.same_self, sameRows_self, sameL_self, callIt, E0P, cn, Try.aggT26, Try.aggT3, Try.szT26, Try.szT3, Try.zeroT26, Try.placesOf26, Try.aggT90, Try.szT90, Try.zeroT90, Try.underlying26, Try.underlying90, E0ov, E0p72, E0r72, ev72, hb]
      rfl
    case h5 => simp [Try.f49, evCode, evOps, evOp, evWant, evCore, evPure, evCall, use, useL, useParts, opv, rd, putS, untake, moveIt, takes, appendFirst, appTmp, apartL, apartB, posOf, cellsOf, isBelowL, PV.isBelow, isDataL, PV.isData, loadAs, loadS, storeS, storeAs, storedCells, oneP, PV.strip, PV.strip1, PV.keep0, evFieldAddr, evField, partP, evSlice, bound, natOf, rowsOk, evIndexAddr, evIndex, evLen, evAppend, ownRows, elemsOf, acc, fillP, bin_add, bin_sub, bin_mul, bin_lss, bin_leq, bin_gtr, bin_geq, bin_eql, bin_neq, bin_and, bin_andNot, un_not, mm_max, mm_min, ofValue, ofCell, slotOf, resVal, resOne, resL, retOf, toDL, toD, sameStore, sameCells, PV.same, DV.same_self, sameRows_self, sameL_self, callIt, Try.aggT26, Try.szT26, cn]

theorem step_2 (t r s q : Int) (hs : s ≠ 3) (ht : 0 ≤ t ∧ t ≤ 900) (hr : 0 ≤ r ∧ r ≤ 900) : CallOk Try.prog 49 [cn t r s q, .d (.int .i64 2)] [] (stepV t r s q 2) [] := by
  have hT : wkT 2 t = t := by simp [wkT]
  have hR : wkR 2 r = min (max (r - 1) 0) 127 := by simp [wkR]
  have ev : stepV t r s q 2 = if t > 255 then cn 256 0 3 0 else cn (t) (min (max (r - 1) 0) 127) (if max (t) (min (max (r - 1) 0) 127) > 127 then 2 else 1) q := by simp only [stepV, hs, if_false, hT, hR]
  rw [ev]
  have he : Entry 2 (.func (.func 82) [] []) true := .inr (.inl ⟨rfl, rfl, rfl⟩)
  by_cases hb : t > 255
  · rw [if_pos hb]
    refine step_join he rfl (step_pre t r s q 2 hs) (by simp) rfl (st4 := ?s4) (st5 := ?s5) (st6 := ?s6) ?h2 ?h3 ?h4 ?h5
    case h2 =>
      simp [c49o, regOps, codeL, codeR, c49, Try.f49, evIdx, evCode, evOps, evOp, evWant, evCore, evPure, evCall, use, useL, useParts, opv, rd, putS, untake, moveIt, takes, appendFirst, appTmp, apartL, apartB, posOf, cellsOf, isBelowL, PV.isBelow, isDataL, PV.isData, loadAs, loadS, storeS, storeAs, storedCells, oneP, PV.strip, PV.strip1, PV.keep0, evFieldAddr, evField, partP, evSlice, bound, natOf, rowsOk, evIndexAddr, evIndex, evLen, evAppend, ownRows, elemsOf, acc, fillP, bin_add, bin_sub, bin_mul, bin_lss, bin_leq, bin_gtr, bin_geq, bin_eql, bin_neq, bin_and, bin_andNot, un_not, mm_max, mm_min, ofValue, ofCell, slotOf, resVal, resOne, resL, retOf, toDL, toD, sameStore, sameCells, PV.same, DV.same_self, sameRows_self, sameL_self, callIt, E0P, cn]
      rfl
    case h3 =>
      simp [c49b, codeL, codeR, c49, Try.f49, evCode, evOps, evOp, evWant, evCore, evPure, evCall, use, useL, useParts, opv, rd, putS, untake, moveIt, takes, appendFirst, appTmp, apartL, apartB, posOf, cellsOf, isBelowL, PV.isBelow, isDataL, PV.isData, loadAs, loadS, storeS, storeAs, storedCells, oneP, PV.strip, PV.strip1, PV.keep0, evFieldAddr, evField, partP, evSlice, bound, natOf, rowsOk, evIndexAddr, evIndex, evLen, evAppend, ownRows, elemsOf, acc, fillP, bin_add, bin_sub, bin_mul, bin_lss, bin_leq, bin_gtr, bin_geq, bin_eql, bin_neq, bin_and, bin_andNot, un_not, mm_max, mm_min, ofValue, ofCell, slotOf, resVal, resOne, resL, retOf, toDL, toD, sameStore, sameCells, PV.same, DV.same_self, sameRows_self, sameL_self, callIt, E0P, cn, E0ov, E0p82, E0r82, ev82 _ _ t r s q (by omega)]
      rfl
    case h4 =>
      simp [c49c, codeL, codeR, c49, Try.f49, evCode, evOps, evOp, evWant, evCore, evPure, evCall, use, useL, useParts, opv, rd, putS, untake, moveIt, takes, appendFirst, appTmp, apartL, apartB, posOf, cellsOf, isBelowL, PV.isBelow, isDataL, PV.isData, loadAs, loadS, storeS, storeAs, storedCells, oneP, PV.strip, PV.strip1, PV.keep0, evFieldAddr, evField, partP, evSlice, bound, natOf, rowsOk, evIndexAddr, evIndex, evLen, evAppend, ownRows, elemsOf, acc, fillP, bin_add, bin_sub, bin_mul, bin_lss, bin_leq, bin_gtr, bin_geq, bin_eql, bin_neq, bin_and, bin_andNot, un_not, mm_max, mm_min, ofValue, ofCell, slotOf, resVal, resOne, resL, retOf, toDL, toD, sameStore, sameCells, PV.same, DV.same_self, sameRows_self, sameL_self, callIt, E0P, cn, Try.aggT26, Try.aggT3, Try.szT26, Try.szT3, Try.zeroT26, Try.placesOf26, Try.aggT90, Try.szT90, Try.zeroT90, Try.underlying26, Try.underlying90, E0ov, E0p72, E0r72, ev72, hb]
      rfl
    case h5 => simp [Try.f49, evCode, evOps, evOp, evWant, evCore, evPure, evCall, use, useL, useParts, opv, rd, putS, untake, moveIt, takes, appendFirst, appTmp, apartL, apartB, posOf, cellsOf, isBelowL, PV.isBelow, isDataL, PV.isData, loadAs, loadS, storeS, storeAs, storedCells, oneP, PV.strip, PV.strip1, PV.keep0, evFieldAddr, evField, partP, evSlice, bound, natOf, rowsOk, evIndexAddr, evIndex, evLen, evAppend, ownRows, elemsOf, acc, fillP, bin_add, bin_sub, bin_mul, bin_lss, bin_leq, bin_gtr, bin_geq, bin_eql, bin_neq, bin_and, bin_andNot, un_not, mm_max, mm_min, ofValue, ofCell, slotOf, resVal, resOne, resL, retOf, toDL, toD, sameStore, sameCells, PV.same, DV.same_self, sameRows_self, sameL_self, callIt, Try.aggT26, Try.szT26, cn]
  · rw [if_neg hb]
    refine step_join he rfl (step_pre t r s q 2 hs) (by simp) rfl (st4 := ?u4) (st5 := ?u5) (st6 := ?u6) ?h2 ?h3 ?h4 ?h5
    case h2 =>
      simp [c49o, regOps, codeL, codeR, c49, Try.f49, evIdx, evCode, evOps, evOp, evWant, evCore, evPure, evCall, use, useL, useParts, opv, rd, putS, untake, moveIt, takes, appendFirst, appTmp, apartL, apartB, posOf, cellsOf, isBelowL, PV.isBelow, isDataL, PV.isData, loadAs, loadS, storeS, storeAs, storedCells, oneP, PV.strip, PV.strip1, PV.keep0, evFieldAddr, evField, partP, evSlice, bound, natOf, rowsOk, evIndexAddr, evIndex, evLen, evAppend, ownRows, elemsOf, acc, fillP, bin_add, bin_sub, bin_mul, bin_lss, bin_leq, bin_gtr, bin_geq, bin_eql, bin_neq, bin_and, bin_andNot, un_not, mm_max, mm_min, ofValue, ofCell, slotOf, resVal, resOne, resL, retOf, toDL, toD, sameStore, sameCells, PV.same, DV.same_self, sameRows_self, sameL_self, callIt, E0P, cn]
      rfl
    case h3 =>
      simp [c49b, codeL, codeR, c49, Try.f49, evCode, evOps, evOp, evWant, evCore, evPure, evCall, use, useL, useParts, opv, rd, putS, untake, moveIt, takes, appendFirst, appTmp, apartL, apartB, posOf, cellsOf, isBelowL, PV.isBelow, isDataL, PV.isData, loadAs, loadS, storeS, storeAs, storedCells, oneP, PV.strip, PV.strip1, PV.keep0, evFieldAddr, evField, partP, evSlice, bound, natOf, rowsOk, evIndexAddr, evIndex, evLen, evAppend, ownRows, elemsOf, acc, fillP, bin_add, bin_sub, bin_mul, bin_lss, bin_leq, bin_gtr, bin_geq, bin_eql, bin_neq, bin_and, bin_andNot, un_not, mm_max, mm_min, ofValue, ofCell, slotOf, resVal, resOne, resL, retOf, toDL, toD, sameStore, sameCells, PV.same, DV.same_self, sameRows_self, sameL_self, callIt, E0P, cn, E0ov, E0p82, E0r82, ev82 _ _ t r s q (by omega)]
      rfl
    case h4 =>
      simp [c49c, codeL, codeR, c49, Try.f49, evCode, evOps, evOp, evWant, evCore, evPure, evCall, use, useL, useParts, opv, rd, putS, untake, moveIt, takes, appendFirst, appTmp, apartL, apartB, posOf, cellsOf, isBelowL, PV.isBelow, isDataL, PV.isData, loadAs, loadS, storeS, storeAs, storedCells, oneP, PV.strip, PV.strip1, PV.keep0, evFieldAddr, evField, partP, evSlice, bound, natOf, rowsOk, evIndexAddr, evIndex, evLen, evAppend, ownRows, elemsOf, acc, fillP, bin_add, bin_sub, bin_mul, bin_lss, bin_leq, bin_gtr, bin_geq, bin_eql, bin_neq, bin_and, bin_andNot, un_not, mm_max, mm_min, ofValue, ofCell, slotOf, resVal, resOne, resL, retOf, toDL, toD, sameStore, sameCells, PV.same, DV.same_self, sameRows_self, sameL_self, callIt, E0P, cn, Try.aggT26, Try.aggT3, Try.szT26, Try.szT3, Try.zeroT26, Try.placesOf26, Try.aggT90, Try.szT90, Try.zeroT90, Try.underlying26, Try.underlying90, E0ov, E0p72, E0r72, ev72, hb]
      rfl
    case h5 => simp [Try.f49, evCode, evOps, evOp, evWant, evCore, evPure, evCall, use, useL, useParts, opv, rd, putS, untake, moveIt, takes, appendFirst, appTmp, apartL, apartB, posOf, cellsOf, isBelowL, PV.isBelow, isDataL, PV.isData, loadAs, loadS, storeS, storeAs, storedCells, oneP, PV.strip, PV.strip1, PV.keep0, evFieldAddr, evField, partP, evSlice, bound, natOf, rowsOk, evIndexAddr, evIndex, evLen, evAppend, ownRows, elemsOf, acc, fillP, bin_add, bin_sub, bin_mul, bin_lss, bin_leq, bin_gtr, bin_geq, bin_eql, bin_neq, bin_and, bin_andNot, un_not, mm_max, mm_min, ofValue, ofCell, slotOf, resVal, resOne, resL, retOf, toDL, toD, sameStore, sameCells, PV.same, DV.same_self, sameRows_self, sameL_self, callIt, Try.aggT26, Try.szT26, cn]

theorem step_3 (t r s q : Int) (hs : s ≠ 3) (ht : 0 ≤ t ∧ t ≤ 900) (hr : 0 ≤ r ∧ r ≤ 900) : CallOk Try.prog 49 [cn t r s q, .d (.int .i64 3)] [] (stepV t r s q 3) [] := by
  have hT : wkT 3 t = t + 8 := by simp [wkT]
  have hR : wkR 3 r = r := by simp [wkR]
  have ev : stepV t r s q 3 = if t + 8 > 255 then cn 256 0 3 0 else cn (t + 8) (r) (if max (t + 8) (r) > 127 then 2 else 1) q := by simp only [stepV, hs, if_false, hT, hR]
  rw [ev]
  have he : Entry 3 (.func (.func 83) [] []) true := .inr (.inr (.inl ⟨rfl, rfl, rfl⟩))
  by_cases hb : t + 8 > 255
  · rw [if_pos hb]
    refine step_join he rfl (step_pre t r s q 3 hs) (by simp) rfl (st4 := ?s4) (st5 := ?s5) (st6 := ?s6) ?h2 ?h3 ?h4 ?h5
    case h2 =>
      simp [c49o, regOps, codeL, codeR, c49, Try.f49, evIdx, evCode, evOps, evOp, evWant, evCore, evPure, evCall, use, useL, useParts, opv, rd, putS, untake, moveIt, takes, appendFirst, appTmp, apartL, apartB, posOf, cellsOf, isBelowL, PV.isBelow, isDataL, PV.isData, loadAs, loadS, storeS, storeAs, storedCells, oneP, PV.strip, PV.strip1, PV.keep0, evFieldAddr, evField, partP, evSlice, bound, natOf, rowsOk, evIndexAddr, evIndex, evLen, evAppend, ownRows, elemsOf, acc, fillP, bin_add, bin_sub, bin_mul, bin_lss, bin_leq, bin_gtr, bin_geq, bin_eql, bin_neq, bin_and, bin_andNot, un_not, mm_max, mm_min, ofValue, ofCell, slotOf, resVal, resOne, resL, retOf, toDL, toD, sameStore, sameCells, PV.same, DV.same_self, sameRows_self, sameL_self, callIt, E0P, cn]
      rfl
    case h3 =>
      simp [c49b, codeL, codeR, c49, Try.f49, evCode, evOps, evOp, evWant, evCore, evPure, evCall, use, useL, useParts, opv, rd, putS, untake, moveIt, takes, appendFirst, appTmp, apartL, apartB, posOf, cellsOf, isBelowL, PV.isBelow, isDataL, PV.isData, loadAs, loadS, storeS, storeAs, storedCells, oneP, PV.strip, PV.strip1, PV.keep0, evFieldAddr, evField, partP, evSlice, bound, natOf, rowsOk, evIndexAddr, evIndex, evLen, evAppend, ownRows, elemsOf, acc, fillP, bin_add, bin_sub, bin_mul, bin_lss, bin_leq, bin_gtr, bin_geq, bin_eql, bin_neq, bin_and, bin_andNot, un_not, mm_max, mm_min, ofValue, ofCell, slotOf, resVal, resOne, resL, retOf, toDL, toD, sameStore, sameCells, PV.same, DV.same_self, sameRows_self, sameL_self, callIt, E0P, cn, E0ov, E0p83, E0r83, ev83 _ _ t r s q (by omega)]
      rfl
    case h4 =>
      simp [c49c, codeL, codeR, c49, Try.f49, evCode, evOps, evOp, evWant, evCore, evPure, evCall, use, useL, useParts, opv, rd, putS, untake, moveIt, takes, appendFirst, appTmp, apartL, apartB, posOf, cellsOf, isBelowL, PV.isBelow, isDataL, PV.isData, loadAs, loadS, storeS, storeAs, storedCells, oneP, PV.strip, PV.strip1, PV.keep0, evFieldAddr, evField, partP, evSlice, bound, natOf, rowsOk, evIndexAddr, evIndex, evLen, evAppend, ownRows, elemsOf, acc, fillP, bin_add, bin_sub, bin_mul, bin_lss, bin_leq, bin_gtr, bin_geq, bin_eql, bin_neq, bin_and, bin_andNot, un_not, mm_max, mm_min, ofValue, ofCell, slotOf, resVal, resOne, resL, retOf, toDL, toD, sameStore, sameCells, PV.same, DV.same_self, sameRows_self, sameL_self, callIt, E0P, cn, Try.aggT26, Try.aggT3, Try.szT26, Try.szT3, Try.zeroT26, Try.placesOf26, Try.aggT90, Try.szT90, Try.zeroT90, Try.underlying26, Try.underlying90, E0ov, E0p72, E0r72, ev72, hb]
      rfl
    case h5 => simp [Try.f49, evCode, evOps, evOp, evWant, evCore, evPure, evCall, use, useL, useParts, opv, rd, putS, untake, moveIt, takes, appendFirst, appTmp, apartL, apartB, posOf, cellsOf, isBelowL, PV.isBelow, isDataL, PV.isData, loadAs, loadS, storeS, storeAs, storedCells, oneP, PV.strip, PV.strip1, PV.keep0, evFieldAddr, evField, partP, evSlice, bound, natOf, rowsOk, evIndexAddr, evIndex, evLen, evAppend, ownRows, elemsOf, acc, fillP, bin_add, bin_sub, bin_mul, bin_lss, bin_leq, bin_gtr, bin_geq, bin_eql, bin_neq, bin_and, bin_andNot, un_not, mm_max, mm_min, ofValue, ofCell, slotOf, resVal, resOne, resL, retOf, toDL, toD, sameStore, sameCells, PV.same, DV.same_self, sameRows_self, sameL_self, callIt, Try.aggT26, Try.szT26, cn]
  · rw [if_neg hb]
    refine step_join he rfl (step_pre t r s q 3 hs) (by simp) rfl (st4 := ?u4) (st5 := ?u5) (st6 := ?u6) ?h2 ?h3 ?h4 ?h5
    case h2 =>
      simp [c49o, regOps, codeL, codeR, c49, Try.f49, evIdx, evCode, evOps, evOp, evWant, evCore, evPure, evCall, use, useL, useParts, opv, rd, putS, untake, moveIt, takes, appendFirst, appTmp, apartL, apartB, posOf, cellsOf, isBelowL, PV.isBelow, isDataL, PV.isData, loadAs, loadS, storeS, storeAs, storedCells, oneP, PV.strip, PV.strip1, PV.keep0, evFieldAddr, evField, partP, evSlice, bound, natOf, rowsOk, evIndexAddr, evIndex, evLen, evAppend, ownRows, elemsOf, acc, fillP, bin_add, bin_sub, bin_mul, bin_lss, bin_leq, bin_gtr, bin_geq, bin_eql, bin_neq, bin_and, bin_andNot, un_not, mm_max, mm_min, ofValue, ofCell, slotOf, resVal, resOne, resL, retOf, toDL, toD, sameStore, sameCells, PV.same, DV.same_self, sameRows_self, sameL_self, callIt, E0P, cn]
      rfl
    case h3 =>
      simp [c49b, codeL, codeR, c49, Try.f49, evCode, evOps, evOp, evWant, evCore, evPure, evCall, use, useL, useParts, opv, rd, putS, untake, moveIt, takes, appendFirst, appTmp, apartL, apartB, posOf, cellsOf, isBelowL, PV.isBelow, isDataL, PV.isData, loadAs, loadS, storeS, storeAs, storedCells, oneP, PV.strip, PV.strip1, PV.keep0, evFieldAddr, evField, partP, evSlice, bound, natOf, rowsOk, evIndexAddr, evIndex, evLen, evAppend, ownRows, elemsOf, acc, fillP, bin_add, bin_sub, bin_mul, bin_lss, bin_leq, bin_gtr, bin_geq, bin_eql, bin_neq, bin_and, bin_andNot, un_not, mm_max, mm_min, ofValue, ofCell, slotOf, resVal, resOne, resL, retOf, toDL, toD, sameStore, sameCells, PV.same, DV.same_self, sameRows_self, sameL_self, callIt, E0P, cn, E0ov, E0p83, E0r83, ev83 _ _ t r s q (by omega)]
      rfl
    case h4 =>
      simp [c49c, codeL, codeR, c49, Try.f49, evCode, evOps, evOp, evWant, evCore, evPure, evCall, use, useL, useParts, opv, rd, putS, untake, moveIt, takes, appendFirst, appTmp, apartL, apartB, posOf, cellsOf, isBelowL, PV.isBelow, isDataL, PV.isData, loadAs, loadS, storeS, storeAs, storedCells, oneP, PV.strip, PV.strip1, PV.keep0, evFieldAddr, evField, partP, evSlice, bound, natOf, rowsOk, evIndexAddr, evIndex, evLen, evAppend, ownRows, elemsOf, acc, fillP, bin_add, bin_sub, bin_mul, bin_lss, bin_leq, bin_gtr, bin_geq, bin_eql, bin_neq, bin_and, bin_andNot, un_not, mm_max, mm_min, ofValue, ofCell, slotOf, resVal, resOne, resL, retOf, toDL, toD, sameStore, sameCells, PV.same, DV.same_self, sameRows_self, sameL_self, callIt, E0P, cn, Try.aggT26, Try.aggT3, Try.szT26, Try.szT3, Try.zeroT26, Try.placesOf26, Try.aggT90, Try.szT90, Try.zeroT90, Try.underlying26, Try.underlying90, E0ov, E0p72, E0r72, ev72, hb]
      rfl
    case h5 => simp [Try.f49, evCode, evOps, evOp, evWant, evCore, evPure, evCall, use, useL, useParts, opv, rd, putS, untake, moveIt, takes, appendFirst, appTmp, apartL, apartB, posOf, cellsOf, isBelowL, PV.isBelow, isDataL, PV.isData, loadAs, loadS, storeS, storeAs, storedCells, oneP, PV.strip, PV.strip1, PV.keep0, evFieldAddr, evField, partP, evSlice, bound, natOf, rowsOk, evIndexAddr, evIndex, evLen, evAppend, ownRows, elemsOf, acc, fillP, bin_add, bin_sub, bin_mul, bin_lss, bin_leq, bin_gtr, bin_geq, bin_eql, bin_neq, bin_and, bin_andNot, un_not, mm_max, mm_min, ofValue, ofCell, slotOf, resVal, resOne, resL, retOf, toDL, toD, sameStore, sameCells, PV.same, DV.same_self, sameRows_self, sameL_self, callIt, Try.aggT26, Try.szT26, cn]

theorem step_4 (t r s q : Int) (hs : s ≠ 3) (ht : 0 ≤ t ∧ t ≤ 900) (hr : 0 ≤ r ∧ r ≤ 900) : CallOk Try.prog 49 [cn t r s q, .d (.int .i64 4)] [] (stepV t r s q 4) [] := by
  have hT : wkT 4 t = t := by simp [wkT]
  have hR : wkR 4 r = min (r + 1) 255 := by simp [wkR]
  have ev : stepV t r s q 4 = if t > 255 then cn 256 0 3 0 else cn (t) (min (r + 1) 255) (if max (t) (min (r + 1) 255) > 127 then 2 else 1) q := by simp only [stepV, hs, if_false, hT, hR]
  rw [ev]
  have he : Entry 4 (.func (.func 89) [] [.ro [.int .i64 1]]) true := .inr (.inr (.inr (.inl ⟨rfl, rfl, rfl⟩)))
  by_cases hb : t > 255
  · rw [if_pos hb]
    refine step_join he rfl (step_pre t r s q 4 hs) (by simp) rfl (st4 := ?s4) (st5 := ?s5) (st6 := ?s6) ?h2 ?h3 ?h4 ?h5
    case h2 =>
      simp [c49o, regOps, codeL, codeR, c49, Try.f49, evIdx, evCode, evOps, evOp, evWant, evCore, evPure, evCall, use, useL, useParts, opv, rd, putS, untake, moveIt, takes, appendFirst, appTmp, apartL, apartB, posOf, cellsOf, isBelowL, PV.isBelow, isDataL, PV.isData, loadAs, loadS, storeS, storeAs, storedCells, oneP, PV.strip, PV.strip1, PV.keep0, evFieldAddr, evField, partP, evSlice, bound, natOf, rowsOk, evIndexAddr, evIndex, evLen, evAppend, ownRows, elemsOf, acc, fillP, bin_add, bin_sub, bin_mul, bin_lss, bin_leq, bin_gtr, bin_geq, bin_eql, bin_neq, bin_and, bin_andNot, un_not, mm_max, mm_min, ofValue, ofCell, slotOf, resVal, resOne, resL, retOf, toDL, toD, sameStore, sameCells, PV.same, DV.same_self, sameRows_self, sameL_self, callIt, E0P, cn]
      rfl
    case h3 =>
      simp [c49b, codeL, codeR, c49, Try.f49, evCode, evOps, evOp, evWant, evCore, evPure, evCall, use, useL, useParts, opv, rd, putS, untake, moveIt, takes, appendFirst, appTmp, apartL, apartB, posOf, cellsOf, isBelowL, PV.isBelow, isDataL, PV.isData, loadAs, loadS, storeS, storeAs, storedCells, oneP, PV.strip, PV.strip1, PV.keep0, evFieldAddr, evField, partP, evSlice, bound, natOf, rowsOk, evIndexAddr, evIndex, evLen, evAppend, ownRows, elemsOf, acc, fillP, bin_add, bin_sub, bin_mul, bin_lss, bin_leq, bin_gtr, bin_geq, bin_eql, bin_neq, bin_and, bin_andNot, un_not, mm_max, mm_min, ofValue, ofCell, slotOf, resVal, resOne, resL, retOf, toDL, toD, sameStore, sameCells, PV.same, DV.same_self, sameRows_self, sameL_self, callIt, E0P, cn, E0ov, E0p89, E0r89, ev89 _ _ t r s q 1 (by omega) (by omega)]
      rfl
    case h4 =>
      simp [c49c, codeL, codeR, c49, Try.f49, evCode, evOps, evOp, evWant, evCore, evPure, evCall, use, useL, useParts, opv, rd, putS, untake, moveIt, takes, appendFirst, appTmp, apartL, apartB, posOf, cellsOf, isBelowL, PV.isBelow, isDataL, PV.isData, loadAs, loadS, storeS, storeAs, storedCells, oneP, PV.strip, PV.strip1, PV.keep0, evFieldAddr, evField, partP, evSlice, bound, natOf, rowsOk, evIndexAddr, evIndex, evLen, evAppend, ownRows, elemsOf, acc, fillP, bin_add, bin_sub, bin_mul, bin_lss, bin_leq, bin_gtr, bin_geq, bin_eql, bin_neq, bin_and, bin_andNot, un_not, mm_max, mm_min, ofValue, ofCell, slotOf, resVal, resOne, resL, retOf, toDL, toD, sameStore, sameCells, PV.same, DV.same_self, sameRows_self, sameL_self, callIt, E0P, cn, Try.aggT26, Try.aggT3, Try.szT26, Try.szT3, Try.zeroT26, Try.placesOf26, Try.aggT90, Try.szT90, Try.zeroT90, Try.underlying26, Try.underlying90, E0ov, E0p72, E0r72, ev72, hb]
      rfl
    case h5 => simp [Try.f49, evCode, evOps, evOp, evWant, evCore, evPure, evCall, use, useL, useParts, opv, rd, putS, untake, moveIt, takes, appendFirst, appTmp, apartL, apartB, posOf, cellsOf, isBelowL, PV.isBelow, isDataL, PV.isData, loadAs, loadS, storeS, storeAs, storedCells, oneP, PV.strip, PV.strip1, PV.keep0, evFieldAddr, evField, partP, evSlice, bound, natOf, rowsOk, evIndexAddr, evIndex, evLen, evAppend, ownRows, elemsOf, acc, fillP, bin_add, bin_sub, bin_mul, bin_lss, bin_leq, bin_gtr, bin_geq, bin_eql, bin_neq, bin_and, bin_andNot, un_not, mm_max, mm_min, ofValue, ofCell, slotOf, resVal, resOne, resL, retOf, toDL, toD, sameStore, sameCells, PV.same, DV.same_self, sameRows_self, sameL_self, callIt, Try.aggT26, Try.szT26, cn]
  · rw [if_neg hb]
    refine step_join he rfl (step_pre t r s q 4 hs) (by simp) rfl (st4 := ?u4) (st5 := ?u5) (st6 := ?u6) ?h2 ?h3 ?h4 ?h5
    case h2 =>
      simp [c49o, regOps, codeL, codeR, c49, Try.f49, evIdx, evCode, evOps, evOp, evWant, evCore, evPure, evCall, use, useL, useParts, opv, rd, putS, untake, moveIt, takes, appendFirst, appTmp, apartL, apartB, posOf, cellsOf, isBelowL, PV.isBelow, isDataL, PV.isData, loadAs, loadS, storeS, storeAs, storedCells, oneP, PV.strip, PV.strip1, PV.keep0, evFieldAddr, evField, partP, evSlice, bound, natOf, rowsOk, evIndexAddr, evIndex, evLen, evAppend, ownRows, elemsOf, acc, fillP, bin_add, bin_sub, bin_mul, bin_lss, bin_leq, bin_gtr, bin_geq, bin_eql, bin_neq, bin_and, bin_andNot, un_not, mm_max, mm_min, ofValue, ofCell, slotOf, resVal, resOne, resL, retOf, toDL, toD, sameStore, sameCells, PV.same, DV.same_self, sameRows_self, sameL_self, callIt, E0P, cn]
      rfl
    case h3 =>
      simp [c49b, codeL, codeR, c49, Try.f49, evCode, evOps, evOp, evWant, evCore, evPure, evCall, use, useL, useParts, opv, rd, putS, untake, moveIt, takes, appendFirst, appTmp, apartL, apartB, posOf, cellsOf, isBelowL, PV.isBelow, isDataL, PV.isData, loadAs, loadS, storeS, storeAs, storedCells, oneP, PV.strip, PV.strip1, PV.keep0, evFieldAddr, evField, partP, evSlice, bound, natOf, rowsOk, evIndexAddr, evIndex, evLen, evAppend, ownRows, elemsOf, acc, fillP, bin_add, bin_sub, bin_mul, bin_lss, bin_leq, bin_gtr, bin_geq, bin_eql, bin_neq, bin_and, bin_andNot, un_not, mm_max, mm_min, ofValue, ofCell, slotOf, resVal, resOne, resL, retOf, toDL, toD, sameStore, sameCells, PV.same, DV.same_self, sameRows_self, sameL_self, callIt, E0P, cn, E0ov, E0p89, E0r89, ev89 _ _ t r s q 1 (by omega) (by omega)]
      rfl
    case h4 =>
      simp [c49c, codeL, codeR, c49, Try.f49, evCode, evOps, evOp, evWant, evCore, evPure, evCall, use, useL, useParts, opv, rd, putS, untake, moveIt, takes, appendFirst, appTmp, apartL, apartB, posOf, cellsOf, isBelowL, PV.isBelow, isDataL, PV.isData, loadAs, loadS, storeS, storeAs, storedCells, oneP, PV.strip, PV.strip1, PV.keep0, evFieldAddr, evField, partP, evSlice, bound, natOf, rowsOk, evIndexAddr, evIndex, evLen, evAppend, ownRows, elemsOf, acc, fillP, bin_add, bin_sub, bin_mul, bin_lss, bin_leq, bin_gtr, bin_geq, bin_eql, bin_neq, bin_and, bin_andNot, un_not, mm_max, mm_min, ofValue, ofCell, slotOf, resVal, resOne, resL, retOf, toDL, toD, sameStore, sameCells, PV.same, DV.same_self, sameRows_self, sameL_self, callIt, E0P, cn, Try.aggT26, Try.aggT3, Try.szT26, Try.szT3, Try.zeroT26, Try.placesOf26, Try.aggT90, Try.szT90, Try.zeroT90, Try.underlying26, Try.underlying90, E0ov, E0p72, E0r72, ev72, hb]
      rfl
    case h5 => simp [Try.f49, evCode, evOps, evOp, evWant, evCore, evPure, evCall, use, useL, useParts, opv, rd, putS, untake, moveIt, takes, appendFirst, appTmp, apartL, apartB, posOf, cellsOf, isBelowL, PV.isBelow, isDataL, PV.isData, loadAs, loadS, storeS, storeAs, storedCells, oneP, PV.strip, PV.strip1, PV.keep0, evFieldAddr, evField, partP, evSlice, bound, natOf, rowsOk, evIndexAddr, evIndex, evLen, evAppend, ownRows, elemsOf, acc, fillP, bin_add, bin_sub, bin_mul, bin_lss, bin_leq, bin_gtr, bin_geq, bin_eql, bin_neq, bin_and, bin_andNot, un_not, mm_max, mm_min, ofValue, ofCell, slotOf, resVal, resOne, resL, retOf, toDL, toD, sameStore, sameCells, PV.same, DV.same_self, sameRows_self, sameL_self, callIt, Try.aggT26, Try.szT26, cn]

theorem step_5 (t r s q : Int) (hs : s ≠ 3) (ht : 0 ≤ t ∧ t ≤ 900) (hr : 0 ≤ r ∧ r ≤ 900) : CallOk Try.prog 49 [cn t r s q, .d (.int .i64 5)] [] (stepV t r s q 5) [] := by
  have hT : wkT 5 t = t := by simp [wkT]
  have hR : wkR 5 r = min (r + 8) 255 := by simp [wkR]
  have ev : stepV t r s q 5 = if t > 255 then cn 256 0 3 0 else cn (t) (min (r + 8) 255) (if max (t) (min (r + 8) 255) > 127 then 2 else 1) q := by simp only [stepV, hs, if_false, hT, hR]
  rw [ev]
  have he : Entry 5 (.func (.func 89) [] [.ro [.int .i64 8]]) true := .inr (.inr (.inr (.inr (.inl ⟨rfl, rfl, rfl⟩))))
  by_cases hb : t > 255
  · rw [if_pos hb]
    refine step_join he rfl (step_pre t r s q 5 hs) (by simp) rfl (st4 := ?s4) (st5 := ?s5) (st6 := ?s6) ?h2 ?h3 ?h4 ?h5
    case h2 =>
      simp [c49o, regOps, codeL, codeR, c49, Try.f49, evIdx, evCode, evOps, evOp, evWant, evCore, evPure, evCall, use, useL, useParts, opv, rd, putS, untake, moveIt, takes, appendFirst, appTmp, apartL, apartB, posOf, cellsOf, isBelowL, PV.isBelow, isDataL, PV.isData, loadAs, loadS, storeS, storeAs, storedCells, oneP, PV.strip, PV.strip1, PV.keep0, evFieldAddr, evField, partP, evSlice, bound, natOf, rowsOk, evIndexAddr, evIndex, evLen, evAppend, ownRows, elemsOf, acc, fillP, bin_add, bin_sub, bin_mul, bin_lss, bin_leq, bin_gtr, bin_geq, bin_eql, bin_neq, bin_and, bin_andNot, un_not, mm_max, mm_min, ofValue, ofCell, slotOf, resVal, resOne, resL, retOf, toDL, toD, sameStore, sameCells, PV.same, DV.same_self, sameRows_self, sameL_self, callIt, E0P, cn]
      rfl
    case h3 =>
      simp [c49b, codeL, codeR, c49, Try.f49, evCode, evOps, evOp, evWant, evCore, evPure, evCall, use, useL, useParts, opv, rd, putS, untake, moveIt, takes, appendFirst, appTmp, apartL, apartB, posOf, cellsOf, isBelowL, PV.isBelow, isDataL, PV.isData, loadAs, loadS, storeS, storeAs, storedCells, oneP, PV.strip, PV.strip1, PV.keep0, evFieldAddr, evField, partP, evSlice, bound, natOf, rowsOk, evIndexAddr, evIndex, evLen, evAppend, ownRows, elemsOf, acc, fillP, bin_add, bin_sub, bin_mul, bin_lss, bin_leq, bin_gtr, bin_geq, bin_eql, bin_neq, bin_and, bin_andNot, un_not, mm_max, mm_min, ofValue, ofCell, slotOf, resVal, resOne, resL, retOf, toDL, toD, sameStore, sameCells, PV.same, DV.same_self, sameRows_self, sameL_self, callIt, E0P, cn, E0ov, E0p89, E0r89, ev89 _ _ t r s q 8 (by omega) (by omega)]
      rfl
    case h4 =>
      simp [c49c, codeL, codeR, c49, Try.f49, evCode, evOps, evOp, evWant, evCore, evPure, evCall, use, useL, useParts, opv, rd, putS, untake, moveIt, takes, appendFirst, appTmp, apartL, apartB, posOf, cellsOf, isBelowL, PV.isBelow, isDataL, PV.isData, loadAs, loadS, storeS, storeAs, storedCells, oneP, PV.strip, PV.strip1, PV.keep0, evFieldAddr, evField, partP, evSlice, bound, natOf, rowsOk, evIndexAddr, evIndex, evLen, evAppend, ownRows, elemsOf, acc, fillP, bin_add, bin_sub, bin_mul, bin_lss, bin_leq, bin_gtr, bin_geq, bin_eql, bin_neq, bin_and, bin_andNot, un_not, mm_max, mm_min, ofValue, ofCell, slotOf, resVal, resOne, resL, retOf, toDL, toD, sameStore, sameCells, PV.same, DV.same_self, sameRows_self, sameL_self, callIt, E0P, cn, Try.aggT26, Try.aggT3, Try.szT26, Try.szT3, Try.zeroT26, Try.placesOf26, Try.aggT90, Try.szT90, Try.zeroT90, Try.underlying26, Try.underlying90, E0ov, E0p72, E0r72, ev72, hb]
      rfl
    case h5 => simp [Try.f49, evCode, evOps, evOp, evWant, evCore, evPure, evCall, use, useL, useParts, opv, rd, putS, untake, moveIt, takes, appendFirst, appTmp, apartL, apartB, posOf, cellsOf, isBelowL, PV.isBelow, isDataL, PV.isData, loadAs, loadS, storeS, storeAs, storedCells, oneP, PV.strip, PV.strip1, PV.keep0, evFieldAddr, evField, partP, evSlice, bound, natOf, rowsOk, evIndexAddr, evIndex, evLen, evAppend, ownRows, elemsOf, acc, fillP, bin_add, bin_sub, bin_mul, bin_lss, bin_leq, bin_gtr, bin_geq, bin_eql, bin_neq, bin_and, bin_andNot, un_not, mm_max, mm_min, ofValue, ofCell, slotOf, resVal, resOne, resL, retOf, toDL, toD, sameStore, sameCells, PV.same, DV.same_self, sameRows_self, sameL_self, callIt, Try.aggT26, Try.szT26, cn]
  · rw [if_neg hb]
    refine step_join he rfl (step_pre t r s q 5 hs) (by simp) rfl (st4 := ?u4) (st5 := ?u5) (st6 := ?u6) ?h2 ?h3 ?h4 ?h5
    case h2 =>
      simp [c49o, regOps, codeL, codeR, c49, Try.f49, evIdx, evCode, evOps, evOp, evWant, evCore, evPure, evCall, use, useL, useParts, opv, rd, putS, untake, moveIt, takes, appendFirst, appTmp, apartL, apartB, posOf, cellsOf, isBelowL, PV.isBelow, isDataL, PV.isData, loadAs, loadS, storeS, storeAs, storedCells, oneP, PV.strip, PV.strip1, PV.keep0, evFieldAddr, evField, partP, evSlice, bound, natOf, rowsOk, evIndexAddr, evIndex, evLen, evAppend, ownRows, elemsOf, acc, fillP, bin_add, bin_sub, bin_mul, bin_lss, bin_leq, bin_gtr, bin_geq, bin_eql, bin_neq, bin_and, bin_andNot, un_not, mm_max, mm_min, ofValue, ofCell, slotOf, resVal, resOne, resL, retOf, toDL, toD, sameStore, sameCells, PV.same, DV.same_self, sameRows_self, sameL_self, callIt, E0P, cn]
      rfl
    case h3 =>
      simp [c49b, codeL, codeR, c49, Try.f49, evCode, evOps, evOp, evWant, evCore, evPure, evCall, use, useL, useParts, opv, rd, putS, untake, moveIt, takes, appendFirst, appTmp, apartL, apartB, posOf, cellsOf, isBelowL, PV.isBelow, isDataL, PV.isData, loadAs, loadS, storeS, storeAs, storedCells, oneP, PV.strip, PV.strip1, PV.keep0, evFieldAddr, evField, partP, evSlice, bound, natOf, rowsOk, evIndexAddr, evIndex, evLen, evAppend, ownRows, elemsOf, acc, fillP, bin_add, bin_sub, bin_mul, bin_lss, bin_leq, bin_gtr, bin_geq, bin_eql, bin_neq, bin_and, bin_andNot, un_not, mm_max, mm_min, ofValue, ofCell, slotOf, resVal, resOne, resL, retOf, toDL, toD, sameStore, sameCells, PV.same, DV.same_self, sameRows_self, sameL_self, callIt, E0P, cn, E0ov, E0p89, E0r89, ev89 _ _ t r s q 8 (by omega) (by omega)]
      rfl
    case h4 =>
      simp [c49c, codeL, codeR, c49, Try.f49, evCode, evOps, evOp, evWant, evCore, evPure, evCall, use, useL, useParts, opv, rd, putS, untake, moveIt, takes, appendFirst, appTmp, apartL, apartB, posOf, cellsOf, isBelowL, PV.isBelow, isDataL, PV.isData, loadAs, loadS, storeS, storeAs, storedCells, oneP, PV.strip, PV.strip1, PV.keep0, evFieldAddr, evField, partP, evSlice, bound, natOf, rowsOk, evIndexAddr, evIndex, evLen, evAppend, ownRows, elemsOf, acc, fillP, bin_add, bin_sub, bin_mul, bin_lss, bin_leq, bin_gtr, bin_geq, bin_eql, bin_neq, bin_and, bin_andNot, un_not, mm_max, mm_min, ofValue, ofCell, slotOf, resVal, resOne, resL, retOf, toDL, toD, sameStore, sameCells, PV.same, DV.same_self, sameRows_self, sameL_self, callIt, E0P, cn, Try.aggT26, Try.aggT3, Try.szT26, Try.szT3, Try.zeroT26, Try.placesOf26, Try.aggT90, Try.szT90, Try.zeroT90, Try.underlying26, Try.underlying90, E0ov, E0p72, E0r72, ev72, hb]
      rfl
    case h5 => simp [Try.f49, evCode, evOps, evOp, evWant, evCore, evPure, evCall, use, useL, useParts, opv, rd, putS, untake, moveIt, takes, appendFirst, appTmp, apartL, apartB, posOf, cellsOf, isBelowL, PV.isBelow, isDataL, PV.isData, loadAs, loadS, storeS, storeAs, storedCells, oneP, PV.strip, PV.strip1, PV.keep0, evFieldAddr, evField, partP, evSlice, bound, natOf, rowsOk, evIndexAddr, evIndex, evLen, evAppend, ownRows, elemsOf, acc, fillP, bin_add, bin_sub, bin_mul, bin_lss, bin_leq, bin_gtr, bin_geq, bin_eql, bin_neq, bin_and, bin_andNot, un_not, mm_max, mm_min, ofValue, ofCell, slotOf, resVal, resOne, resL, retOf, toDL, toD, sameStore, sameCells, PV.same, DV.same_self, sameRows_self, sameL_self, callIt, Try.aggT26, Try.szT26, cn]

theorem step_6 (t r s q : Int) (hs : s ≠ 3) (ht : 0 ≤ t ∧ t ≤ 900) (hr : 0 ≤ r ∧ r ≤ 900) : CallOk Try.prog 49 [cn t r s q, .d (.int .i64 6)] [] (stepV t r s q 6) [] := by
  have hT : wkT 6 t = t := by simp [wkT]
  have hR : wkR 6 r = r := by simp [wkR]
  have ev : stepV t r s q 6 = if t > 255 then cn 256 0 3 0 else cn (t) (r) (if max (t) (r) > 127 then 2 else 1) q := by simp only [stepV, hs, if_false, hT, hR]
  rw [ev]
  have he : Entry 6 (.nilFunc) false := .inr (.inr (.inr (.inr (.inr ⟨rfl, rfl, rfl⟩))))
  by_cases hb : t > 255
  · rw [if_pos hb]
    refine step_join he rfl (step_pre t r s q 6 hs) (by simp) rfl (st4 := ?s4) (st5 := ?s5) (st6 := ?s6) ?h2 ?h3 ?h4 ?h5
    case h2 =>
      simp [c49o, regOps, codeL, codeR, c49, Try.f49, evIdx, evCode, evOps, evOp, evWant, evCore, evPure, evCall, use, useL, useParts, opv, rd, putS, untake, moveIt, takes, appendFirst, appTmp, apartL, apartB, posOf, cellsOf, isBelowL, PV.isBelow, isDataL, PV.isData, loadAs, loadS, storeS, storeAs, storedCells, oneP, PV.strip, PV.strip1, PV.keep0, evFieldAddr, evField, partP, evSlice, bound, natOf, rowsOk, evIndexAddr, evIndex, evLen, evAppend, ownRows, elemsOf, acc, fillP, bin_add, bin_sub, bin_mul, bin_lss, bin_leq, bin_gtr, bin_geq, bin_eql, bin_neq, bin_and, bin_andNot, un_not, mm_max, mm_min, ofValue, ofCell, slotOf, resVal, resOne, resL, retOf, toDL, toD, sameStore, sameCells, PV.same, DV.same_self, sameRows_self, sameL_self, callIt, E0P, cn]
      rfl
    case h3 =>
      simp [c49b, codeL, codeR, c49, Try.f49, evCode, evOps, evOp, evWant, evCore, evPure, evCall, use, useL, useParts, opv, rd, putS, untake, moveIt, takes, appendFirst, appTmp, apartL, apartB, posOf, cellsOf, isBelowL, PV.isBelow, isDataL, PV.isData, loadAs, loadS, storeS, storeAs, storedCells, oneP, PV.strip, PV.strip1, PV.keep0, evFieldAddr, evField, partP, evSlice, bound, natOf, rowsOk, evIndexAddr, evIndex, evLen, evAppend, ownRows, elemsOf, acc, fillP, bin_add, bin_sub, bin_mul, bin_lss, bin_leq, bin_gtr, bin_geq, bin_eql, bin_neq, bin_and, bin_andNot, un_not, mm_max, mm_min, ofValue, ofCell, slotOf, resVal, resOne, resL, retOf, toDL, toD, sameStore, sameCells, PV.same, DV.same_self, sameRows_self, sameL_self, callIt, E0P, cn, E0ov]
      rfl
    case h4 =>
      simp [c49c, codeL, codeR, c49, Try.f49, evCode, evOps, evOp, evWant, evCore, evPure, evCall, use, useL, useParts, opv, rd, putS, untake, moveIt, takes, appendFirst, appTmp, apartL, apartB, posOf, cellsOf, isBelowL, PV.isBelow, isDataL, PV.isData, loadAs, loadS, storeS, storeAs, storedCells, oneP, PV.strip, PV.strip1, PV.keep0, evFieldAddr, evField, partP, evSlice, bound, natOf, rowsOk, evIndexAddr, evIndex, evLen, evAppend, ownRows, elemsOf, acc, fillP, bin_add, bin_sub, bin_mul, bin_lss, bin_leq, bin_gtr, bin_geq, bin_eql, bin_neq, bin_and, bin_andNot, un_not, mm_max, mm_min, ofValue, ofCell, slotOf, resVal, resOne, resL, retOf, toDL, toD, sameStore, sameCells, PV.same, DV.same_self, sameRows_self, sameL_self, callIt, E0P, cn, Try.aggT26, Try.aggT3, Try.szT26, Try.szT3, Try.zeroT26, Try.placesOf26, Try.aggT90, Try.szT90, Try.zeroT90, Try.underlying26, Try.underlying90, E0ov, E0p72, E0r72, ev72, hb]
      rfl
    case h5 => simp [Try.f49, evCode, evOps, evOp, evWant, evCore, evPure, evCall, use, useL, useParts, opv, rd, putS, untake, moveIt, takes, appendFirst, appTmp, apartL, apartB, posOf, cellsOf, isBelowL, PV.isBelow, isDataL, PV.isData, loadAs, loadS, storeS, storeAs, storedCells, oneP, PV.strip, PV.strip1, PV.keep0, evFieldAddr, evField, partP, evSlice, bound, natOf, rowsOk, evIndexAddr, evIndex, evLen, evAppend, ownRows, elemsOf, acc, fillP, bin_add, bin_sub, bin_mul, bin_lss, bin_leq, bin_gtr, bin_geq, bin_eql, bin_neq, bin_and, bin_andNot, un_not, mm_max, mm_min, ofValue, ofCell, slotOf, resVal, resOne, resL, retOf, toDL, toD, sameStore, sameCells, PV.same, DV.same_self, sameRows_self, sameL_self, callIt, Try.aggT26, Try.szT26, cn]
  · rw [if_neg hb]
    refine step_join he rfl (step_pre t r s q 6 hs) (by simp) rfl (st4 := ?u4) (st5 := ?u5) (st6 := ?u6) ?h2 ?h3 ?h4 ?h5
    case h2 =>
      simp [c49o, regOps, codeL, codeR, c49, Try.f49, evIdx, evCode, evOps, evOp, evWant, evCore, evPure, evCall, use, useL, useParts, opv, rd, putS, untake, moveIt, takes, appendFirst, appTmp, apartL, apartB, posOf, cellsOf, isBelowL, PV.isBelow, isDataL, PV.isData, loadAs, loadS, storeS, storeAs, storedCells, oneP, PV.strip, PV.strip1, PV.keep0, evFieldAddr, evField, partP, evSlice, bound, natOf, rowsOk, evIndexAddr, evIndex, evLen, evAppend, ownRows, elemsOf, acc, fillP, bin_add, bin_sub, bin_mul, bin_lss, bin_leq, bin_gtr, bin_geq, bin_eql, bin_neq, bin_and, bin_andNot, un_not, mm_max, mm_min, ofValue, ofCell, slotOf, resVal, resOne, resL, retOf, toDL, toD, sameStore, sameCells, PV.same, DV.same_self, sameRows_self, sameL_self, callIt, E0P, cn]
      rfl
    case h3 =>
      simp [c49b, codeL, codeR, c49, Try.f49, evCode, evOps, evOp, evWant, evCore, evPure, evCall, use, useL, useParts, opv, rd, putS, untake, moveIt, takes, appendFirst, appTmp, apartL, apartB, posOf, cellsOf, isBelowL, PV.isBelow, isDataL, PV.isData, loadAs, loadS, storeS, storeAs, storedCells, oneP, PV.strip, PV.strip1, PV.keep0, evFieldAddr, evField, partP, evSlice, bound, natOf, rowsOk, evIndexAddr, evIndex, evLen, evAppend, ownRows, elemsOf, acc, fillP, bin_add, bin_sub, bin_mul, bin_lss, bin_leq, bin_gtr, bin_geq, bin_eql, bin_neq, bin_and, bin_andNot, un_not, mm_max, mm_min, ofValue, ofCell, slotOf, resVal, resOne, resL, retOf, toDL, toD, sameStore, sameCells, PV.same, DV.same_self, sameRows_self, sameL_self, callIt, E0P, cn, E0ov]
      rfl
    case h4 =>
      simp [c49c, codeL, codeR, c49, Try.f49, evCode, evOps, evOp, evWant, evCore, evPure, evCall, use, useL, useParts, opv, rd, putS, untake, moveIt, takes, appendFirst, appTmp, apartL, apartB, posOf, cellsOf, isBelowL, PV.isBelow, isDataL, PV.isData, loadAs, loadS, storeS, storeAs, storedCells, oneP, PV.strip, PV.strip1, PV.keep0, evFieldAddr, evField, partP, evSlice, bound, natOf, rowsOk, evIndexAddr, evIndex, evLen, evAppend, ownRows, elemsOf, acc, fillP, bin_add, bin_sub, bin_mul, bin_lss, bin_leq, bin_gtr, bin_geq, bin_eql, bin_neq, bin_and, bin_andNot, un_not, mm_max, mm_min, ofValue, ofCell, slotOf, resVal, resOne, resL, retOf, toDL, toD, sameStore, sameCells, PV.same, DV.same_self, sameRows_self, sameL_self, callIt, E0P, cn, Try.aggT26, Try.aggT3, Try.szT26, Try.szT3, Try.zeroT26, Try.placesOf26, Try.aggT90, Try.szT90, Try.zeroT90, Try.underlying26, Try.underlying90, E0ov, E0p72, E0r72, ev72, hb]
      rfl
    case h5 => simp [Try.f49, evCode, evOps, evOp, evWant, evCore, evPure, evCall, use, useL, useParts, opv, rd, putS, untake, moveIt, takes, appendFirst, appTmp, apartL, apartB, posOf, cellsOf, isBelowL, PV.isBelow, isDataL, PV.isData, loadAs, loadS, storeS, storeAs, storedCells, oneP, PV.strip, PV.strip1, PV.keep0, evFieldAddr, evField, partP, evSlice, bound, natOf, rowsOk, evIndexAddr, evIndex, evLen, evAppend, ownRows, elemsOf, acc, fillP, bin_add, bin_sub, bin_mul, bin_lss, bin_leq, bin_gtr, bin_geq, bin_eql, bin_neq, bin_and, bin_andNot, un_not, mm_max, mm_min, ofValue, ofCell, slotOf, resVal, resOne, resL, retOf, toDL, toD, sameStore, sameCells, PV.same, DV.same_self, sameRows_self, sameL_self, callIt, Try.aggT26, Try.szT26, cn]

end Go.Proofs

set_option linter.unusedVariables false
set_option linter.unusedSimpArgs false
set_option maxRecDepth 100000
set_option maxHeartbeats 4000000
namespace Go.Proofs
open Go.Shelf Go.RowKit Go.Lib Go.Pv

theorem E0p40 : E0.pure 40 = true := rfl
theorem c40 (σ : Store) : callIt E0 (evI E0) 40 [] σ = some (cn 0 0 1 0, σ) := by
  refine call_run (fn := Try.f40) 5 rfl rfl rfl Try.func40 rfl rfl ?_ rfl
  simp [Try.f40, evCode, evOps, evOp, evWant, evCore, evPure, evCall, use, useL, useParts, opv, rd, putS, untake, moveIt, takes, appendFirst, appTmp, apartL, apartB, posOf, cellsOf, isBelowL, PV.isBelow, isDataL, PV.isData, loadAs, loadS, storeS, storeAs, storedCells, oneP, PV.strip, PV.strip1, PV.keep0, evFieldAddr, evField, partP, evSlice, bound, natOf, rowsOk, evIndexAddr, evIndex, evLen, evAppend, ownRows, elemsOf, acc, fillP, bin_add, bin_sub, bin_mul, bin_lss, bin_leq, bin_gtr, bin_geq, bin_eql, bin_neq, bin_and, bin_andNot, un_not, mm_max, mm_min, ofValue, ofCell, slotOf, resVal, resOne, resL, retOf, toDL, toD, sameStore, sameCells, PV.same, DV.same_self, sameRows_self, sameL_self, E0P, cn, Try.aggT26, Try.aggT3, Try.szT26, Try.szT3, Try.zeroT26, Try.placesOf26, Try.underlying26]

theorem c70 (t r s q : Int) (hq : 0 ≤ q ∧ q ≤ 900) (σ : Store) : callIt E0 (evI E0) 70 [cn t r s q] σ = some (if q + 1 = 128 then cn 0 0 1 0 else cn t r s (q + 1), σ) := by
  have hw : IntKind.i64.wrap (q + 1) = q + 1 := by rw [IntWalk.i64_left]; unfold wrap64; omega
  have h40 := c40
  unfold cn at h40
  by_cases h : q + 1 = 128
  · rw [if_pos h]
    refine call_run (fn := Try.f70) 5 rfl rfl rfl Try.func70 rfl rfl ?_ rfl
    have hw8 : IntKind.i64.wrap (q + 1) = 128 := hw.trans h
    simp [Try.f70, evCode, evOps, evOp, evWant, evCore, evPure, evCall, use, useL, useParts, opv, rd, putS, untake, moveIt, takes, appendFirst, appTmp, apartL, apartB, posOf, cellsOf, isBelowL, PV.isBelow, isDataL, PV.isData, loadAs, loadS, storeS, storeAs, storedCells, oneP, PV.strip, PV.strip1, PV.keep0, evFieldAddr, evField, partP, evSlice, bound, natOf, rowsOk, evIndexAddr, evIndex, evLen, evAppend, ownRows, elemsOf, acc, fillP, bin_add, bin_sub, bin_mul, bin_lss, bin_leq, bin_gtr, bin_geq, bin_eql, bin_neq, bin_and, bin_andNot, un_not, mm_max, mm_min, ofValue, ofCell, slotOf, resVal, resOne, resL, retOf, toDL, toD, sameStore, sameCells, PV.same, DV.same_self, sameRows_self, sameL_self, E0P, cn, Try.aggT26, Try.aggT3, Try.szT26, Try.szT3, Try.zeroT26, Try.placesOf26, Try.underlying26, hw8, h40]
  · rw [if_neg h]
    refine call_run (fn := Try.f70) 5 rfl rfl rfl Try.func70 rfl rfl ?_ rfl
    simp [Try.f70, evCode, evOps, evOp, evWant, evCore, evPure, evCall, use, useL, useParts, opv, rd, putS, untake, moveIt, takes, appendFirst, appTmp, apartL, apartB, posOf, cellsOf, isBelowL, PV.isBelow, isDataL, PV.isData, loadAs, loadS, storeS, storeAs, storedCells, oneP, PV.strip, PV.strip1, PV.keep0, evFieldAddr, evField, partP, evSlice, bound, natOf, rowsOk, evIndexAddr, evIndex, evLen, evAppend, ownRows, elemsOf, acc, fillP, bin_add, bin_sub, bin_mul, bin_lss, bin_leq, bin_gtr, bin_geq, bin_eql, bin_neq, bin_and, bin_andNot, un_not, mm_max, mm_min, ofValue, ofCell, slotOf, resVal, resOne, resL, retOf, toDL, toD, sameStore, sameCells, PV.same, DV.same_self, sameRows_self, sameL_self, E0P, cn, Try.aggT26, Try.aggT3, Try.szT26, Try.szT3, Try.zeroT26, Try.placesOf26, Try.underlying26, hw, h]
theorem evI_of_call {E : Env} {f : FuncId} {args : List PV} {σ σ' : Store} {v : PV} (ho : E.ov f = none) (hp : E.pure f = true) (h : callIt E (evI E) f args σ = some (v, σ')) : ∃ σ'', evI E f args [] = some (v, σ'') := by
  simp only [callIt, ho, hp, if_true] at h
  split at h
  · cases he : evI E f args [] with
    | none => simp [he] at h
    | some r =>
      simp only [he, Option.bind_some] at h
      split at h
      · cases h; exact ⟨r.2, rfl⟩
      · cases h
  · cases h

theorem step_off (t r q what : Int) (hq : 0 ≤ q ∧ q ≤ 900) : CallOk Try.prog 49 [cn t r 3 q, .d (.int .i64 what)] [] (stepV t r 3 q what) [] := by
  have hv : (stepV t r 3 q what).isData = true := by unfold stepV cn; split <;> (try split) <;> (try split) <;> rfl
  have key : callIt E0 (evI E0) 49 [cn t r 3 q, .d (.int .i64 what)] [] = some (stepV t r 3 q what, []) := by
    by_cases h6 : what = 6
    · subst h6
      have h70 := c70 t r 3 q hq
      have ev : stepV t r 3 q 6 = if q + 1 = 128 then cn 0 0 1 0 else cn t r 3 (q + 1) := by simp [stepV]
      rw [ev]
      by_cases h : q + 1 = 128
      · rw [if_pos h]
        simp only [if_pos h] at h70
        unfold cn at h70
        refine call_run (fn := Try.f49) 5 rfl rfl rfl Try.func49 rfl rfl ?_ rfl
        simp [Try.f49, evCode, evOps, evOp, evWant, evCore, evPure, evCall, use, useL, useParts, opv, rd, putS, untake, moveIt, takes, appendFirst, appTmp, apartL, apartB, posOf, cellsOf, isBelowL, PV.isBelow, isDataL, PV.isData, loadAs, loadS, storeS, storeAs, storedCells, oneP, PV.strip, PV.strip1, PV.keep0, evFieldAddr, evField, partP, evSlice, bound, natOf, rowsOk, evIndexAddr, evIndex, evLen, evAppend, ownRows, elemsOf, acc, fillP, bin_add, bin_sub, bin_mul, bin_lss, bin_leq, bin_gtr, bin_geq, bin_eql, bin_neq, bin_and, bin_andNot, un_not, mm_max, mm_min, ofValue, ofCell, slotOf, resVal, resOne, resL, retOf, toDL, toD, sameStore, sameCells, PV.same, DV.same_self, sameRows_self, sameL_self, E0P, cn, Try.aggT26, Try.aggT3, Try.szT26, Try.szT3, Try.zeroT26, Try.placesOf26, Try.underlying26, h70]
      · rw [if_neg h]
        simp only [if_neg h] at h70
        unfold cn at h70
        refine call_run (fn := Try.f49) 5 rfl rfl rfl Try.func49 rfl rfl ?_ rfl
        simp [Try.f49, evCode, evOps, evOp, evWant, evCore, evPure, evCall, use, useL, useParts, opv, rd, putS, untake, moveIt, takes, appendFirst, appTmp, apartL, apartB, posOf, cellsOf, isBelowL, PV.isBelow, isDataL, PV.isData, loadAs, loadS, storeS, storeAs, storedCells, oneP, PV.strip, PV.strip1, PV.keep0, evFieldAddr, evField, partP, evSlice, bound, natOf, rowsOk, evIndexAddr, evIndex, evLen, evAppend, ownRows, elemsOf, acc, fillP, bin_add, bin_sub, bin_mul, bin_lss, bin_leq, bin_gtr, bin_geq, bin_eql, bin_neq, bin_and, bin_andNot, un_not, mm_max, mm_min, ofValue, ofCell, slotOf, resVal, resOne, resL, retOf, toDL, toD, sameStore, sameCells, PV.same, DV.same_self, sameRows_self, sameL_self, E0P, cn, Try.aggT26, Try.aggT3, Try.szT26, Try.szT3, Try.zeroT26, Try.placesOf26, Try.underlying26, h70]
    · have ev : stepV t r 3 q what = cn t r 3 q := by simp [stepV, h6]
      rw [ev]
      refine call_run (fn := Try.f49) 5 rfl rfl rfl Try.func49 rfl rfl ?_ rfl
      simp [Try.f49, evCode, evOps, evOp, evWant, evCore, evPure, evCall, use, useL, useParts, opv, rd, putS, untake, moveIt, takes, appendFirst, appTmp, apartL, apartB, posOf, cellsOf, isBelowL, PV.isBelow, isDataL, PV.isData, loadAs, loadS, storeS, storeAs, storedCells, oneP, PV.strip, PV.strip1, PV.keep0, evFieldAddr, evField, partP, evSlice, bound, natOf, rowsOk, evIndexAddr, evIndex, evLen, evAppend, ownRows, elemsOf, acc, fillP, bin_add, bin_sub, bin_mul, bin_lss, bin_leq, bin_gtr, bin_geq, bin_eql, bin_neq, bin_and, bin_andNot, un_not, mm_max, mm_min, ofValue, ofCell, slotOf, resVal, resOne, resL, retOf, toDL, toD, sameStore, sameCells, PV.same, DV.same_self, sameRows_self, sameL_self, E0P, cn, Try.aggT26, Try.aggT3, Try.szT26, Try.szT3, Try.zeroT26, Try.placesOf26, Try.underlying26, h6]
  obtain ⟨σ', h⟩ := evI_of_call rfl rfl key
  exact (evI_ok E0_ok 49 _ _ _ _ h).drop hv

/-- count.Step, of counters that are not out of all bounds, and deeds that there are. -/
theorem Try.stepOk (t r s q what : Int) (ht : 0 ≤ t ∧ t ≤ 900) (hr : 0 ≤ r ∧ r ≤ 900) (hq : 0 ≤ q ∧ q ≤ 900) (hw : 1 ≤ what ∧ what ≤ 6) : CallOk Try.prog 49 [cn t r s q, .d (.int .i64 what)] [] (stepV t r s q what) [] := by
  by_cases hs : s = 3
  · subst hs; exact step_off t r q what hq
  have : what = 1 ∨ what = 2 ∨ what = 3 ∨ what = 4 ∨ what = 5 ∨ what = 6 := by omega
  rcases this with rfl | rfl | rfl | rfl | rfl | rfl
  · exact step_1 t r s q hs ht hr
  · exact step_2 t r s q hs ht hr
  · exact step_3 t r s q hs ht hr
  · exact step_4 t r s q hs ht hr
  · exact step_5 t r s q hs ht hr
  · exact step_6 t r s q hs ht hr

end Go.Proofs

set_option linter.unusedVariables false
set_option linter.unusedSimpArgs false
namespace Go.Proofs
open Go.RowKit Go.Shelf Go.Pv

attribute [local go_sem] Oper.semAt_some

def upto {α : Type} (f : Nat → α) (k : Nat) : List α := (List.range k).map f
theorem upto_succ {α : Type} (f : Nat → α) (k : Nat) : upto f (k + 1) = upto f k ++ [f k] := by simp [upto, List.range_succ]
theorem upto_length {α : Type} (f : Nat → α) (k : Nat) : (upto f k).length = k := by simp [upto]

/-- What a block's cell holds it holds. -/
def KeepsAt (B : Nat) (W W' : World) : Prop := ∀ x, W.cell? ⟨B, 0, none⟩ = some x → W'.cell? ⟨B, 0, none⟩ = some x

set_option maxRecDepth 100000 in
set_option maxHeartbeats 2000000 in
/-- bits.shifts's closure. -/
theorem Try.shifts1_in (F : Fence) (n : Nat) (h7 : F.fn 92) (hro : F.round = none) (hn : 1 ≤ n) (l Bm Bn : Nat) (v : Int) (len : Nat) (hlen : len ≤ 64) (bit : Nat → Int) (hbit : ∀ k, bit k = bits .and .i64 (v / 2 ^ (len - 1 - k)) 1) (J Jx : List Int → World → Prop)
    (hY : ∀ pre x W, J pre W → pre.length < len → YieldAt F (n - 1) Try.prog l #[.int .i64 x] W fun e W' =>
      (e = .returned (.bool true) ∧ J (pre ++ [x]) W' ∧ KeepsAt Bn W W') ∨ (e = .returned (.bool false) ∧ Jx (pre ++ [x]) W'))
    (W : World) (hBm : W.cell? ⟨Bm, 0, none⟩ = some (.int .i64 len)) (hBn : W.cell? ⟨Bn, 0, none⟩ = some (.int .i64 v)) (h0 : J [] W) :
    CallsIn F n Try.prog 92 #[.func (.yield l) #[] #[], .pointer (some ⟨Bm, 0, none⟩), .pointer (some ⟨Bn, 0, none⟩)] W fun e W' => (∃ v, e = .returned v) ∧
      ((∃ ys, ys = upto bit len ∧ J ys W') ∨ (∃ pre, (∃ k, k ≤ len ∧ pre = upto bit k) ∧ Jx pre W')) := by
  refine callsIn_of_wp Try.func92 rfl h7 ?_ hro
  simp only [Try.ntmps92, List.size_toArray, List.length_cons, List.length_nil, Nat.reduceAdd, Nat.reduceSub, Array.replicate_succ, Array.replicate_zero, List.push_toArray, List.append_toArray, List.nil_append, List.cons_append]
  have hw : wrap64 ((len : Int) - 1) = (len : Int) - 1 := by unfold wrap64; omega
  gi_wp2
  gi_loopw [4] (fun i wr => ∃ k : Nat, k ≤ len ∧ i = .int .i64 ((len : Int) - 1 - k) ∧ J (upto bit k) wr ∧ KeepsAt Bn W wr)
    (fun i _ => (intOf i + 1).toNat)
  case atStart => exact ⟨0, Nat.zero_le _, by simp, h0, fun _ h => h⟩
  case round =>
    obtain ⟨k, hk, rfl, hJs, hnx⟩ := hrel
    have hcn : wr.cell? ⟨Bn, 0, none⟩ = some (.int .i64 v) := hnx _ hBn
    by_cases hlt : k < len
    · have hge : (0 : Int) ≤ (len : Int) - 1 - k := by omega
      obtain ⟨fn, tmps, assign, body, hy, hR⟩ := hY _ (bit k) wr hJs (by rw [upto_length]; exact hlt)
      rw [hbit k] at hy hR
      have hw2 : wrap64 ((len : Int) - 1 - k - 1) = (len : Int) - 1 - (k + 1 : Nat) := by unfold wrap64; omega
      gi_wp2
      refine hR.mono ?_
      rintro e W3 (⟨rfl, hJ3, hk3⟩ | ⟨rfl, hJx3⟩)
      · gi_wp2
        go_roundw
        case rel => exact ⟨k + 1, by omega, by simp; omega, by rw [upto_succ, hbit k]; exact hJ3, fun x h => hk3 x (hnx x h)⟩
        case measure => simp [intOf]; omega
      · gi_wp2
        refine bodyPost_ret (results_none rfl _ _ _) rfl ?_
        exact ⟨⟨_, rfl⟩, .inr ⟨_, ⟨k + 1, by omega, rfl⟩, by rw [upto_succ, hbit k]; exact hJx3⟩⟩
    · obtain rfl : k = len := by omega
      gi_wp2
      go_end0
      exact ⟨⟨_, rfl⟩, .inl ⟨_, rfl, hJs⟩⟩
set_option maxHeartbeats 1000000 in
/-- bits.shifts. -/
theorem Try.shifts_in (F : Fence) (n : Nat) (h5 : F.fn 91) (hro : F.round = none) (v m : Int) (w : World) :
    CallsIn F n Try.prog 91 #[.int .i64 v, .int .i64 m] w fun e w' => e = .returned (.func (.func 92) #[] #[.pointer (some ⟨w.heap.size + 1, 0, none⟩), .pointer (some ⟨w.heap.size, 0, none⟩)]) ∧ w' = (w.alloc (.cells #[.int .i64 v] 3)).alloc (.cells #[.int .i64 m] 3) := by
  refine callsIn_of_wp Try.func91 rfl h5 ?_ hro
  simp only [Try.ntmps91, List.size_toArray, List.length_cons, List.length_nil, Nat.reduceAdd, Nat.reduceSub, Array.replicate_succ, Array.replicate_zero, List.push_toArray, List.append_toArray, List.nil_append, List.cons_append]
  gi_wp2
  go_ret
  exact ⟨rfl, rfl⟩

theorem Try.shifts_stops (F : Fence) (n : Nat) (h7 : F.fn 92) (hro : F.round = none) (hn : 1 ≤ n) (Bm Bn : Nat) (v : Int) (len : Nat) (hlen : len ≤ 64) (w : World) (hb : Bm < w.heap.size ∧ Bn < w.heap.size)
    (hm : w.cell? ⟨Bm, 0, none⟩ = some (.int .i64 len)) (hc : w.cell? ⟨Bn, 0, none⟩ = some (.int .i64 v)) (bit : Nat → Int) (hbit : ∀ k, bit k = bits .and .i64 (v / 2 ^ (len - 1 - k)) 1) :
    SeqStopsK F n Try.prog 92 #[.pointer (some ⟨Bm, 0, none⟩), .pointer (some ⟨Bn, 0, none⟩)] (fun x : Int => #[Value.int .i64 x]) (KeepsAt Bn) (fun ys => ys = upto bit len) (fun pre => ∃ k, k ≤ len ∧ pre = upto bit k) len w := fun l J Jx W hW _ _ hY h0 =>
  Try.shifts1_in F n h7 hro hn l Bm Bn v len hlen bit hbit J Jx hY W ((hW.cell (p := ⟨Bm, 0, none⟩) hb.1).trans hm) ((hW.cell (p := ⟨Bn, 0, none⟩) hb.2).trans hc) h0

theorem ownsRow_base {W : World} {base base' : Nat} {e : TypeId} {size : Nat} {v : Value} {k : Nat} {xs : List Value} (h : W.ownsRow base e size v k xs) (hb : base' ≤ base) : W.ownsRow base' e size v k xs := by
  refine ⟨h.1, ?_⟩
  rcases h.2 with h2 | ⟨g, cap, cur, h1, h2, h3⟩
  · exact .inl h2
  · exact .inr ⟨g, cap, cur, h1, by omega, h3⟩

theorem Try.info3 : (Try.prog.info? 3).map (fun i => (i.zero, i.size, i.bytes)) = some (some (.int .i64 0), 1, 8) := by kernel_rfl

set_option maxRecDepth 100000 in
set_option maxHeartbeats 2000000 in
/-- bits.Put. -/
theorem Try.Put_in (F : Fence) (n : Nat) (h3 : F.fn 90) (h4 : F.fn 91) (h5 : F.fn 92) (hro : F.round = none) (hn : 3 ≤ n) (v : Int) (m : Nat) (hm : m ≤ 32) (hv : v / 2 ^ m = 0) (w : World) (bit : Nat → Int) (hbit : ∀ k, bit k = bits .and .i64 (v / 2 ^ (m - 1 - k)) 1) :
    CallsIn F n Try.prog 90 #[.int .i64 v, .int .i64 m] w fun e W' => ∃ u, e = .returned (.tuple #[u, .bool true]) ∧ W'.ownsRow w.heap.size 3 1 u m ((upto bit m).map (Value.int .i64)) ∧ Below w.heap.size w W' := by
  have h1 : 1 ≤ n := by omega
  obtain ⟨i0, hi, hz0, hz1, hz2⟩ := info_parts Try.info3
  have hmin : min m 64 = m := by omega
  refine callsIn_of_wp_marks Try.func90 rfl h3 ?_ hro
  simp only [Try.ntmps90, List.size_toArray, List.length_cons, List.length_nil, Nat.reduceAdd, Nat.reduceSub, Array.replicate_succ, Array.replicate_zero, List.push_toArray, List.append_toArray, List.nil_append, List.cons_append]
  gi_wp2_with (gi_at_call 91; refine (Try.shifts_in F (n - 1) h4 hro _ _ _).mono ?_; rintro e w' ⟨rfl, rfl⟩)
  have bO := Boxed.new w 41 (.slice none 0 0)
  have bN := Boxed.new (w.alloc (.cells #[.slice none 0 0] 41)) 3 (.int .i64 v)
  have bM := Boxed.new ((w.alloc (.cells #[.slice none 0 0] 41)).alloc (.cells #[.int .i64 v] 3)) 3 (.int .i64 m)
  rw [World.size_alloc] at bN
  rw [World.size_alloc, World.size_alloc] at bM
  have bO3 := (bO.alloc (.cells #[.int .i64 v] 3)).alloc (.cells #[.int .i64 m] 3)
  have bN3 := bN.alloc (.cells #[.int .i64 m] 3)
  have hB0 : Below w.heap.size w (((w.alloc (.cells #[.slice none 0 0] 41)).alloc (.cells #[.int .i64 v] 3)).alloc (.cells #[.int .i64 m] 3)) := (((Below.refl _ w).alloc (Nat.le_refl _) _).alloc (by simp) _).alloc (by simp; omega) _
  have hS0 : (((w.alloc (.cells #[.slice none 0 0] 41)).alloc (.cells #[.int .i64 v] 3)).alloc (.cells #[.int .i64 m] 3)).heap.size = w.heap.size + 3 := by simp
  refine wpIn_rangeFunc_ownG hro h1 (gf := 92) (lb := #[.pointer (some ⟨w.heap.size + 1 + 1, 0, none⟩), .pointer (some ⟨w.heap.size + 1, 0, none⟩)]) rfl h5 (enters_of Try.func92 (by kernel_rfl) rfl)
    (Try.shifts_stops F (n - 1) h5 hro (by omega) (w.heap.size + 1 + 1) (w.heap.size + 1) v m (by omega) _ (by rw [hS0]; omega) bM.cell bN3.cell bit hbit) (fun h k x hx => k x (h x hx)) (fun W l o o' hl ho hc _ x hx => cell_kept hx (grownBy_putObj' W l o') (fun r e => by cases e; exact ⟨o, ho, hc⟩)) (Below.refl _ _) (fun _ => rfl)
    (fun pre W => ((∃ u, Boxed W w.heap.size 41 u ∧ W.ownsRow (w.heap.size + 3) 3 1 u pre.length (pre.map (Value.int .i64)) ∧ True) ∧ Below w.heap.size w W) ∧ w.heap.size + 3 ≤ W.heap.size)
    (fun _ _ _ => False)
    (OwnFrom.and (OwnFrom.and (Own.from (holdsRow_own (w.heap.size + 3) w.heap.size 41 3 1 (fun pre : List Int => pre.length) (fun pre => pre.map (Value.int .i64)) (fun pre v => True)) _) (ownFrom_below (Nat.le_refl _) (by rw [hS0]; omega))) (fun s X Y row hs hg hr => Nat.le_trans hs hg.size))
    (fun _ _ _ _ _ hs _ _ => hs)
    ⟨⟨⟨_, bO3, World.ownsRow_nil _ _ _ _, trivial⟩, hB0⟩, by rw [hS0]; omega⟩
    (fun x => { tmps := #[.int .i64 v, .int .i64 m, undef, undef, .slice none 0 0, .bool false, .pointer (some ⟨w.heap.size, 0, none⟩), .int .i64 x, .int .i64 m, .bool (decide ((m : Int) < 0)), .bool (decide ((m : Int) < 0)), .int .i64 m, .bool (decide (32 < (m : Int))), .bool (decide ((m : Int) < 0) || decide (32 < (m : Int))), .bool (decide ((m : Int) < 0) || decide (32 < (m : Int))), .int .i64 v, .int .i64 m, .int .i64 0, .bool false, .bool (decide ((m : Int) < 0) || decide (32 < (m : Int))), .int .i64 v, .int .i64 m, .func (.func 92) #[] #[.pointer (some ⟨w.heap.size + 1 + 1, 0, none⟩), .pointer (some ⟨w.heap.size + 1, 0, none⟩)], .int .i64 x, undef, undef, undef, undef, undef], defers := [] }) ?assign ?body ?done ?stop
  case assign =>
    intro l x W K hK
    gi_wp2
    exact hK
  case body =>
    rintro l pre x W ⟨⟨⟨u, hv, hrow, _⟩, hB⟩, hS⟩ hlt
    have hc := hv.cell
    have hrow0 : W.ownsRow w.heap.size 3 1 u pre.length (pre.map (Value.int .i64)) := ownsRow_base hrow (by omega)
    gi_wp2_with (gi_at_builtin; refine wpListIn_append_own _ rfl _ _ 41 rfl (w.heap.size + 3) 3 i0 (.int .i64 0) 1 8 Try.underlying41 hi hz0 hz1 hz2 rfl (by decide) _ _ _ rfl (hrow.alloc _) ⟨W.heap.size, 0, none⟩ 1 1 [.int .i64 x] rfl rfl (cell_one_new _ _ _) (by simp [Value.oneCell']) (by simp only [maxLen]; omega) (by omega) (by simp; omega) ?_; intro v' w1 hown' hgrow _; obtain ⟨g', cap', rfl⟩ := ownsRow_succ hown'; obtain ⟨hv1, hv2, hr2, hk2, hb2⟩ := hv.appended (by decide) hrow0 hB.size (Nat.le_refl _) (ownsRow_base hown' (by omega)) hgrow; have hc1 := hv1.cell; have hf1 := hv1.frozen)
    refine ⟨hk2.from _, ?_, ⟨⟨⟨_, hv2, ?_, trivial⟩, hB.trans hb2⟩, ?_⟩⟩
    · intro y hy
      have hne : some (w.heap.size + 1) ≠ u.ownBlock := by
        rcases hrow.2 with ⟨rfl, _⟩ | ⟨g, cap, cur, rfl, hg, _, _⟩
        · simp [Value.ownBlock]
        · intro e
          have : w.heap.size + 1 = g := by simpa [Value.ownBlock] using e
          omega
      have hlt1 : w.heap.size + 1 < W.heap.size := by omega
      have e1 : w1.heap[w.heap.size + 1]? = W.heap[w.heap.size + 1]? := (hgrow.block _ (by simp; omega) hne).trans (Below.heap_alloc W _ _ hlt1)
      have e2 : (w1.setCell ⟨w.heap.size, 0, none⟩ (.slice (some ⟨g', 0, none⟩) (pre.length + 1) cap')).heap[w.heap.size + 1]? = w1.heap[w.heap.size + 1]? := Below.heap_setCell _ _ _ _ (by simp)
      exact (World.cell?_of_block (a := ⟨w.heap.size + 1, 0, none⟩) (e2.trans e1)).trans hy
    · have := hown'.kept (grownBy_setCell' w1 w.heap.size (.slice (some ⟨g', 0, none⟩) (pre.length + 1) cap')) (.inr (hv1.not_row (by decide) hown').symm)
      simpa using this
    · have := hb2.size
      omega
  case done =>
    rintro D ys W hD rfl ⟨⟨⟨u, hv, hrow, _⟩, hB⟩, hS⟩ hK
    have hc := hv.cell
    rw [upto_length] at hrow
    gi_wp2
    refine ⟨by simp, .inl ⟨_, _, rfl, run_takeDeferred hK, ?_⟩⟩
    exact ⟨_, results_tmp2 rfl _ _ _, u, rfl, ownsRow_putObj (ownsRow_base hrow (by omega)) _ hK rfl, hB.trans (belowK_b (w := w) (Nat.le_refl _) W D _ _ (by simp at hD; omega) hK rfl rfl)⟩
  case stop =>
    rintro D c pre W _ _ h _
    exact h.elim
end Go.Proofs

set_option linter.unusedVariables false
set_option linter.unusedSimpArgs false
namespace Go.Proofs
open Go.RowKit Go.Shelf Go.Pv

/-- The bits of a number, from the highest of 'm' on. -/
def bitRows (v : Int) (m : Nat) : List (List DV) := (List.range m).map fun k => [DV.int .i64 ((v / 2 ^ (m - 1 - k)) % 2)]

theorem bits_one (x : Int) (hx : 0 ≤ x ∧ x < 2 ^ 40) : bits .and .i64 x 1 = x % 2 := by
  have h1 : (BitVec.ofInt 64 1).toNat = 2 ^ 1 - 1 := by decide
  have key : (BitVec.ofInt 64 x &&& BitVec.ofInt 64 1).toNat = (x % ((2 ^ 64 : Nat) : Int)).toNat % 2 ^ 1 := by
    rw [BitVec.toNat_and, BitVec.toNat_ofInt, h1, Nat.and_two_pow_sub_one_eq_mod]
  show IntKind.i64.wrap ((BitVec.ofInt 64 x &&& BitVec.ofInt 64 1).toNat : Nat) = x % 2
  rw [key, IntKind.wrap_i64]
  omega

theorem Try.putOk (v : Int) (m : Nat) (hm : m ≤ 32) (hv : 0 ≤ v ∧ v < 2 ^ m) : CallOk Try.prog 90 [.d (.int .i64 v), .d (.int .i64 m)] [] (.tup [.d (.slice (bitRows v m)), .d (.bool true)]) [] := by
  have hle : (2 : Int) ^ m ≤ 2 ^ 32 := by
    have : (2 : Nat) ^ m ≤ 2 ^ 32 := Nat.pow_le_pow_right (by decide) hm
    exact_mod_cast this
  have hdiv : v / 2 ^ m = 0 := Int.ediv_eq_zero_of_lt hv.1 hv.2
  refine callOk_data ⟨_, Try.func90, rfl, by decide⟩ (by simp) fun w Im vs hin hargs => ?_
  obtain ⟨hl, hr⟩ := hargs
  obtain ⟨x, y, rfl⟩ : ∃ x y, vs = #[x, y] := by
    match vs, hl with
    | ⟨[x, y]⟩, _ => exact ⟨x, y, rfl⟩
  obtain rfl : x = .int .i64 v := (hr 0 _ x rfl rfl).1.int_inv
  obtain rfl : y = .int .i64 m := (hr 1 _ y rfl rfl).1.int_inv
  refine ((callsIn_wide (n := 3)).1 (Try.Put_in _ 3 trivial trivial trivial rfl (by omega) v m hm hdiv w (fun k => bits .and .i64 (v / 2 ^ (m - 1 - k)) 1) (fun _ => rfl))).mono ?_
  rintro e w' ⟨u, rfl, hrow, hb⟩
  have hrl : (bitRows v m).length = m := by simp [bitRows]
  have hbit : ∀ k, bits .and .i64 (v / 2 ^ (m - 1 - k)) 1 = (v / 2 ^ (m - 1 - k)) % 2 := fun k => bits_one _ ⟨Int.ediv_nonneg hv.1 (Int.le_of_lt (Int.pow_pos (show (0 : Int) < 2 by decide))), by
    have : v / 2 ^ (m - 1 - k) ≤ v := Int.ediv_le_self _ hv.1
    omega⟩
  obtain ⟨g, Im', q1, q2, q3, q4, q5⟩ := ownsRow_rep (size := 1) (rows := bitRows v m) hin hb (by decide) (fun r hr => by simp [bitRows] at hr; obtain ⟨k, _, rfl⟩ := hr; rfl) (by rw [hrl]; exact hrow) (fun i j r d hi hj => by
    simp only [bitRows, List.getElem?_map] at hi
    cases hk : (List.range m)[i]? with
    | none => rw [hk] at hi; cases hi
    | some k =>
      rw [hk] at hi
      simp at hi
      subst hi
      have hik : k = i := by
        have := List.getElem?_eq_some_iff.1 hk
        obtain ⟨h1, h2⟩ := this
        simp at h2
        exact h2.symm
      subst hik
      cases j with
      | succ j => simp at hj
      | zero =>
        simp at hj
        subst hj
        refine ⟨.int .i64 ((v / 2 ^ (m - 1 - k)) % 2), ?_, .int _ _⟩
        simp only [upto, List.getElem?_map, Nat.mul_one, Nat.add_zero, hk, Option.map_some, hbit])
  refine ⟨_, Im', rfl, hb, q1, q2, .tup _ _ rfl (fun i p z hp hz => ?_)⟩
  cases i with
  | zero => simp at hp hz; subst hp; subst hz; exact .d q3
  | succ i =>
    cases i with
    | zero => simp at hp hz; subst hp; subst hz; exact .d (.bool _)
    | succ i => simp at hp
end Go.Proofs

set_option linter.unusedVariables false
set_option linter.unusedSimpArgs false
set_option maxRecDepth 100000
namespace Go.Proofs
open Go.RowKit Go.Shelf Go.Pv

def ovClone (sz b : Nat) : List PV → Option PV
  | [.d (.slice rows)] => if rowsOk sz rows && decide (rows.length * b ≤ roomB) then some (acc rows) else none
  | _ => none

def ovWithout : List PV → Option PV
  | [.d (.slice rows), .d (.int .i64 i)] => if rowsOk 5 rows && decide (rows.length * 56 ≤ roomB) && decide (0 ≤ i) && decide (i.toNat < rows.length) then some (.d (.slice (rows.eraseIdx i.toNat))) else none
  | _ => none

def ovStep : List PV → Option PV
  | [.agg [.d (.int .i64 t), .d (.int .i64 r), .d (.int .i64 s), .d (.int .i64 q)], .d (.int .i64 what)] =>
    if decide (0 ≤ t ∧ t ≤ 900) && decide (0 ≤ r ∧ r ≤ 900) && decide (0 ≤ q ∧ q ≤ 900) && decide (1 ≤ what ∧ what ≤ 6) then some (stepV t r s q what) else none
  | _ => none

def ovPut : List PV → Option PV
  | [.d (.int .i64 v), .d (.int .i64 m)] => if decide (0 ≤ m ∧ m ≤ 32) && decide (0 ≤ v ∧ v < 2 ^ m.toNat) then some (.tup [.d (.slice (bitRows v m.toNat)), .d (.bool true)]) else none
  | _ => none

def ovAll (f : FuncId) : Option (List PV → Option PV) :=
  if f = 39 then some (ovClone 3 24) else if f = 61 then some (ovClone 5 56) else if f = 48 then some ovWithout else if f = 49 then some ovStep else if f = 90 then some ovPut else none

/-- The seat's functions. -/
noncomputable def E1 : Env := { P := Try.prog, good := fun f => f < 93, pure := fun f => f != 91 && f != 92 && f != 59 && f != 62 && f != 67 && f != 72 && f != 73 && f != 75 && f != 80 && f != 81 && f != 82 && f != 83 && f != 84 && f != 87 && f != 88 && f != 89 && f != 60 && f != 65 && f != 66 && f != 76 && f != 78 && f != 37 && f != 52, ov := ovAll, ro := fun f => f == 72, apart := fun p => if p = "node.go:119" then [(5, 2)] else if p = "ref.go:133" then [(5, 2)] else [] }

theorem ovAll_ok : OvOk E1 := by
  intro f g hg args res hres hd hrd
  replace hg : ovAll f = some g := hg
  unfold ovAll at hg
  split at hg
  · rename_i h; subst h; cases hg
    unfold ovClone at hres
    split at hres
    · split at hres
      · rename_i hc; cases hres
        simp only [Bool.and_eq_true, decide_eq_true_eq] at hc
        exact Try.cloneT _ hc.1 hc.2
      · cases hres
    · cases hres
  split at hg
  · rename_i h; subst h; cases hg
    unfold ovClone at hres
    split at hres
    · split at hres
      · rename_i hc; cases hres
        simp only [Bool.and_eq_true, decide_eq_true_eq] at hc
        exact Try.cloneF _ hc.1 hc.2
      · cases hres
    · cases hres
  split at hg
  · rename_i h; subst h; cases hg
    unfold ovWithout at hres
    split at hres
    · split at hres
      · rename_i i hc; cases hres
        simp only [Bool.and_eq_true, decide_eq_true_eq] at hc
        have := Try.withoutF _ i.toNat hc.1.1.1 hc.1.1.2 hc.2
        rwa [Int.toNat_of_nonneg hc.1.2] at this
      · cases hres
    · cases hres
  split at hg
  · rename_i h; subst h; cases hg
    unfold ovStep at hres
    split at hres
    · split at hres
      · rename_i hc; cases hres
        simp only [Bool.and_eq_true, decide_eq_true_eq] at hc
        exact Try.stepOk _ _ _ _ _ hc.1.1.1 hc.1.1.2 hc.1.2 hc.2
      · cases hres
    · cases hres
  split at hg
  · rename_i h; subst h; cases hg
    unfold ovPut at hres
    split at hres
    · split at hres
      · rename_i m hc; cases hres
        simp only [Bool.and_eq_true, decide_eq_true_eq] at hc
        have := Try.putOk _ m.toNat (by omega) hc.2
        rwa [Int.toNat_of_nonneg hc.1.1] at this
      · cases hres
    · cases hres
  · cases hg

theorem E1_ok : EnvOk E1 := envOk_of (n := 93) Try.mixed (fun f h => by simpa [E1] using h) (by kernel_rfl) ovAll_ok

def isTrue : Option (PV × Store) → Bool | some (.d (.bool true), _) => true | _ => false

/-- The live question's answer. -/
theorem head_true : isTrue (evF E1 200 10 [] []) = true := by decide +kernel

end Go.Proofs

