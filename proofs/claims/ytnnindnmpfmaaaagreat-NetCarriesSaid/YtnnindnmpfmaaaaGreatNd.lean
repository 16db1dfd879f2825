/- Overrides of the seat of nodes: bits.Put. -/
import Derived.Test.YtnnindnmpfmaaaaGreatNa
import Derived.RangeFuncBox
import Derived.RangeFuncLeaves
import Derived.Shelf.Abstract
import Derived.WalkKit
import Derived.OwnWalkIn
import Derived.TacticsInMore
import Derived.LoopNIn
import Derived.LoopIn
import Derived.Maps.AppendAt
set_option linter.unusedVariables false
set_option linter.unusedSimpArgs false
namespace Go.Proofs
open Go.RowKit Go.Shelf Go.Pv

attribute [local go_sem] Oper.semAt_some

def upto {α : Type} (f : Nat → α) (k : Nat) : List α := (List.range k).map f
theorem upto_succ {α : Type} (f : Nat → α) (k : Nat) : upto f (k + 1) = upto f k ++ [f k] := by simp [upto, List.range_succ]
theorem upto_length {α : Type} (f : Nat → α) (k : Nat) : (upto f k).length = k := by simp [upto]

/-- What a block's cell holds it holds. -/
def KeepsAt (B : Nat) (W W' : World) : Prop := ∀ x, W.cell? ⟨B, 0, none⟩ = some x → W'.cell? ⟨B, 0, none⟩ = some x

set_option maxRecDepth 100000 in
set_option maxHeartbeats 2000000 in
/-- bits.shifts's closure. -/
theorem Tryz.shifts1_in (F : Fence) (n : Nat) (h7 : F.fn 222) (hro : F.round = none) (hn : 1 ≤ n) (l Bm Bn : Nat) (v : Int) (len : Nat) (hlen : len ≤ 64) (bit : Nat → Int) (hbit : ∀ k, bit k = bits .and .i64 (v / 2 ^ (len - 1 - k)) 1) (J Jx : List Int → World → Prop)
    (hY : ∀ pre x W, J pre W → pre.length < len → YieldAt F (n - 1) Tryz.prog l #[.int .i64 x] W fun e W' =>
      (e = .returned (.bool true) ∧ J (pre ++ [x]) W' ∧ KeepsAt Bn W W') ∨ (e = .returned (.bool false) ∧ Jx (pre ++ [x]) W'))
    (W : World) (hBm : W.cell? ⟨Bm, 0, none⟩ = some (.int .i64 len)) (hBn : W.cell? ⟨Bn, 0, none⟩ = some (.int .i64 v)) (h0 : J [] W) :
    CallsIn F n Tryz.prog 222 #[.func (.yield l) #[] #[], .pointer (some ⟨Bm, 0, none⟩), .pointer (some ⟨Bn, 0, none⟩)] W fun e W' => (∃ v, e = .returned v) ∧
      ((∃ ys, ys = upto bit len ∧ J ys W') ∨ (∃ pre, (∃ k, k ≤ len ∧ pre = upto bit k) ∧ Jx pre W')) := by
  refine callsIn_of_wp Tryz.func222 rfl h7 ?_ hro
  simp only [Tryz.ntmps222, List.size_toArray, List.length_cons, List.length_nil, Nat.reduceAdd, Nat.reduceSub, Array.replicate_succ, Array.replicate_zero, List.push_toArray, List.append_toArray, List.nil_append, List.cons_append]
  have hw : wrap64 ((len : Int) - 1) = (len : Int) - 1 := by unfold wrap64; omega
  gi_wp2
  gi_loopw [4] (fun i wr => ∃ k : Nat, k ≤ len ∧ i = .int .i64 ((len : Int) - 1 - k) ∧ J (upto bit k) wr ∧ KeepsAt Bn W wr)
    (fun i _ => (intOf i + 1).toNat)
  case atStart => exact ⟨0, Nat.zero_le _, by simp, h0, fun _ h => h⟩
  case round =>
    obtain ⟨k, hk, rfl, hJs, hnx⟩ := hrel
    have hcn : wr.cell? ⟨Bn, 0, none⟩ = some (.int .i64 v) := hnx _ hBn
    by_cases hlt : k < len
    · have hge : (0 : Int) ≤ (len : Int) - 1 - k := by omega
      obtain ⟨fn, tmps, assign, body, hy, hR⟩ := hY _ (bit k) wr hJs (by rw [upto_length]; exact hlt)
      rw [hbit k] at hy hR
      have hw2 : wrap64 ((len : Int) - 1 - k - 1) = (len : Int) - 1 - (k + 1 : Nat) := by unfold wrap64; omega
      gi_wp2
      refine hR.mono ?_
      rintro e W3 (⟨rfl, hJ3, hk3⟩ | ⟨rfl, hJx3⟩)
      · gi_wp2
        go_roundw
        case rel => exact ⟨k + 1, by omega, by simp; omega, by rw [upto_succ, hbit k]; exact hJ3, fun x h => hk3 x (hnx x h)⟩
        case measure => simp [intOf]; omega
      · gi_wp2
        refine bodyPost_ret (results_none rfl _ _ _) rfl ?_
        exact ⟨⟨_, rfl⟩, .inr ⟨_, ⟨k + 1, by omega, rfl⟩, by rw [upto_succ, hbit k]; exact hJx3⟩⟩
    · obtain rfl : k = len := by omega
      gi_wp2
      go_end0
      exact ⟨⟨_, rfl⟩, .inl ⟨_, rfl, hJs⟩⟩
set_option maxHeartbeats 1000000 in
/-- bits.shifts. -/
theorem Tryz.shifts_in (F : Fence) (n : Nat) (h5 : F.fn 214) (hro : F.round = none) (v m : Int) (w : World) :
    CallsIn F n Tryz.prog 214 #[.int .i64 v, .int .i64 m] w fun e w' => e = .returned (.func (.func 222) #[] #[.pointer (some ⟨w.heap.size + 1, 0, none⟩), .pointer (some ⟨w.heap.size, 0, none⟩)]) ∧ w' = (w.alloc (.cells #[.int .i64 v] 3)).alloc (.cells #[.int .i64 m] 3) := by
  refine callsIn_of_wp Tryz.func214 rfl h5 ?_ hro
  simp only [Tryz.ntmps214, List.size_toArray, List.length_cons, List.length_nil, Nat.reduceAdd, Nat.reduceSub, Array.replicate_succ, Array.replicate_zero, List.push_toArray, List.append_toArray, List.nil_append, List.cons_append]
  gi_wp2
  go_ret
  exact ⟨rfl, rfl⟩

theorem Tryz.shifts_stops (F : Fence) (n : Nat) (h7 : F.fn 222) (hro : F.round = none) (hn : 1 ≤ n) (Bm Bn : Nat) (v : Int) (len : Nat) (hlen : len ≤ 64) (w : World) (hb : Bm < w.heap.size ∧ Bn < w.heap.size)
    (hm : w.cell? ⟨Bm, 0, none⟩ = some (.int .i64 len)) (hc : w.cell? ⟨Bn, 0, none⟩ = some (.int .i64 v)) (bit : Nat → Int) (hbit : ∀ k, bit k = bits .and .i64 (v / 2 ^ (len - 1 - k)) 1) :
    SeqStopsK F n Tryz.prog 222 #[.pointer (some ⟨Bm, 0, none⟩), .pointer (some ⟨Bn, 0, none⟩)] (fun x : Int => #[Value.int .i64 x]) (KeepsAt Bn) (fun ys => ys = upto bit len) (fun pre => ∃ k, k ≤ len ∧ pre = upto bit k) len w := fun l J Jx W hW _ _ hY h0 =>
  Tryz.shifts1_in F n h7 hro hn l Bm Bn v len hlen bit hbit J Jx hY W ((hW.cell (p := ⟨Bm, 0, none⟩) hb.1).trans hm) ((hW.cell (p := ⟨Bn, 0, none⟩) hb.2).trans hc) h0

theorem ownsRow_base {W : World} {base base' : Nat} {e : TypeId} {size : Nat} {v : Value} {k : Nat} {xs : List Value} (h : W.ownsRow base e size v k xs) (hb : base' ≤ base) : W.ownsRow base' e size v k xs := by
  refine ⟨h.1, ?_⟩
  rcases h.2 with h2 | ⟨g, cap, cur, h1, h2, h3⟩
  · exact .inl h2
  · exact .inr ⟨g, cap, cur, h1, by omega, h3⟩

theorem Tryz.info3 : (Tryz.prog.info? 3).map (fun i => (i.zero, i.size, i.bytes)) = some (some (.int .i64 0), 1, 8) := by kernel_rfl

set_option maxRecDepth 100000 in
set_option maxHeartbeats 2000000 in
/-- bits.Put. -/
theorem Tryz.Put_in (F : Fence) (n : Nat) (h3 : F.fn 188) (h4 : F.fn 214) (h5 : F.fn 222) (hro : F.round = none) (hn : 3 ≤ n) (v : Int) (m : Nat) (hm : m ≤ 32) (hv : v / 2 ^ m = 0) (w : World) (bit : Nat → Int) (hbit : ∀ k, bit k = bits .and .i64 (v / 2 ^ (m - 1 - k)) 1) :
    CallsIn F n Tryz.prog 188 #[.int .i64 v, .int .i64 m] w fun e W' => ∃ u, e = .returned (.tuple #[u, .bool true]) ∧ W'.ownsRow w.heap.size 3 1 u m ((upto bit m).map (Value.int .i64)) ∧ Below w.heap.size w W' := by
  have h1 : 1 ≤ n := by omega
  obtain ⟨i0, hi, hz0, hz1, hz2⟩ := info_parts Tryz.info3
  have hmin : min m 64 = m := by omega
  refine callsIn_of_wp_marks Tryz.func188 rfl h3 ?_ hro
  simp only [Tryz.ntmps188, List.size_toArray, List.length_cons, List.length_nil, Nat.reduceAdd, Nat.reduceSub, Array.replicate_succ, Array.replicate_zero, List.push_toArray, List.append_toArray, List.nil_append, List.cons_append]
  gi_wp2_with (gi_at_call 214; refine (Tryz.shifts_in F (n - 1) h4 hro _ _ _).mono ?_; rintro e w' ⟨rfl, rfl⟩)
  have bO := Boxed.new w 39 (.slice none 0 0)
  have bN := Boxed.new (w.alloc (.cells #[.slice none 0 0] 39)) 3 (.int .i64 v)
  have bM := Boxed.new ((w.alloc (.cells #[.slice none 0 0] 39)).alloc (.cells #[.int .i64 v] 3)) 3 (.int .i64 m)
  rw [World.size_alloc] at bN
  rw [World.size_alloc, World.size_alloc] at bM
  have bO3 := (bO.alloc (.cells #[.int .i64 v] 3)).alloc (.cells #[.int .i64 m] 3)
  have bN3 := bN.alloc (.cells #[.int .i64 m] 3)
  have hB0 : Below w.heap.size w (((w.alloc (.cells #[.slice none 0 0] 39)).alloc (.cells #[.int .i64 v] 3)).alloc (.cells #[.int .i64 m] 3)) := (((Below.refl _ w).alloc (Nat.le_refl _) _).alloc (by simp) _).alloc (by simp; omega) _
  have hS0 : (((w.alloc (.cells #[.slice none 0 0] 39)).alloc (.cells #[.int .i64 v] 3)).alloc (.cells #[.int .i64 m] 3)).heap.size = w.heap.size + 3 := by simp
  refine wpIn_rangeFunc_ownG hro h1 (gf := 222) (lb := #[.pointer (some ⟨w.heap.size + 1 + 1, 0, none⟩), .pointer (some ⟨w.heap.size + 1, 0, none⟩)]) rfl h5 (enters_of Tryz.func222 (by kernel_rfl) rfl)
    (Tryz.shifts_stops F (n - 1) h5 hro (by omega) (w.heap.size + 1 + 1) (w.heap.size + 1) v m (by omega) _ (by rw [hS0]; omega) bM.cell bN3.cell bit hbit) (fun h k x hx => k x (h x hx)) (fun W l o o' hl ho hc _ x hx => cell_kept hx (grownBy_putObj' W l o') (fun r e => by cases e; exact ⟨o, ho, hc⟩)) (Below.refl _ _) (fun _ => rfl)
    (fun pre W => ((∃ u, Boxed W w.heap.size 39 u ∧ W.ownsRow (w.heap.size + 3) 3 1 u pre.length (pre.map (Value.int .i64)) ∧ True) ∧ Below w.heap.size w W) ∧ w.heap.size + 3 ≤ W.heap.size)
    (fun _ _ _ => False)
    (OwnFrom.and (OwnFrom.and (Own.from (holdsRow_own (w.heap.size + 3) w.heap.size 39 3 1 (fun pre : List Int => pre.length) (fun pre => pre.map (Value.int .i64)) (fun pre v => True)) _) (ownFrom_below (Nat.le_refl _) (by rw [hS0]; omega))) (fun s X Y row hs hg hr => Nat.le_trans hs hg.size))
    (fun _ _ _ _ _ hs _ _ => hs)
    ⟨⟨⟨_, bO3, World.ownsRow_nil _ _ _ _, trivial⟩, hB0⟩, by rw [hS0]; omega⟩
    (fun x => { tmps := #[.int .i64 v, .int .i64 m, undef, undef, .slice none 0 0, .bool false, .pointer (some ⟨w.heap.size, 0, none⟩), .int .i64 x, .int .i64 m, .bool (decide ((m : Int) < 0)), .bool (decide ((m : Int) < 0)), .int .i64 m, .bool (decide (32 < (m : Int))), .bool (decide ((m : Int) < 0) || decide (32 < (m : Int))), .bool (decide ((m : Int) < 0) || decide (32 < (m : Int))), .int .i64 v, .int .i64 m, .int .i64 0, .bool false, .bool (decide ((m : Int) < 0) || decide (32 < (m : Int))), .int .i64 v, .int .i64 m, .func (.func 222) #[] #[.pointer (some ⟨w.heap.size + 1 + 1, 0, none⟩), .pointer (some ⟨w.heap.size + 1, 0, none⟩)], .int .i64 x, undef, undef, undef, undef, undef], defers := [] }) ?assign ?body ?done ?stop
  case assign =>
    intro l x W K hK
    gi_wp2
    exact hK
  case body =>
    rintro l pre x W ⟨⟨⟨u, hv, hrow, _⟩, hB⟩, hS⟩ hlt
    have hc := hv.cell
    have hrow0 : W.ownsRow w.heap.size 3 1 u pre.length (pre.map (Value.int .i64)) := ownsRow_base hrow (by omega)
    gi_wp2_with (gi_at_builtin; refine wpListIn_append_own _ rfl _ _ 39 rfl (w.heap.size + 3) 3 i0 (.int .i64 0) 1 8 Tryz.underlying39 hi hz0 hz1 hz2 rfl (by decide) _ _ _ rfl (hrow.alloc _) ⟨W.heap.size, 0, none⟩ 1 1 [.int .i64 x] rfl rfl (cell_one_new _ _ _) (by simp [Value.oneCell']) (by simp only [maxLen]; omega) (by omega) (by simp; omega) ?_; intro v' w1 hown' hgrow _; obtain ⟨g', cap', rfl⟩ := ownsRow_succ hown'; obtain ⟨hv1, hv2, hr2, hk2, hb2⟩ := hv.appended (by decide) hrow0 hB.size (Nat.le_refl _) (ownsRow_base hown' (by omega)) hgrow; have hc1 := hv1.cell; have hf1 := hv1.frozen)
    refine ⟨hk2.from _, ?_, ⟨⟨⟨_, hv2, ?_, trivial⟩, hB.trans hb2⟩, ?_⟩⟩
    · intro y hy
      have hne : some (w.heap.size + 1) ≠ u.ownBlock := by
        rcases hrow.2 with ⟨rfl, _⟩ | ⟨g, cap, cur, rfl, hg, _, _⟩
        · simp [Value.ownBlock]
        · intro e
          have : w.heap.size + 1 = g := by simpa [Value.ownBlock] using e
          omega
      have hlt1 : w.heap.size + 1 < W.heap.size := by omega
      have e1 : w1.heap[w.heap.size + 1]? = W.heap[w.heap.size + 1]? := (hgrow.block _ (by simp; omega) hne).trans (Below.heap_alloc W _ _ hlt1)
      have e2 : (w1.setCell ⟨w.heap.size, 0, none⟩ (.slice (some ⟨g', 0, none⟩) (pre.length + 1) cap')).heap[w.heap.size + 1]? = w1.heap[w.heap.size + 1]? := Below.heap_setCell _ _ _ _ (by simp)
      exact (World.cell?_of_block (a := ⟨w.heap.size + 1, 0, none⟩) (e2.trans e1)).trans hy
    · have := hown'.kept (grownBy_setCell' w1 w.heap.size (.slice (some ⟨g', 0, none⟩) (pre.length + 1) cap')) (.inr (hv1.not_row (by decide) hown').symm)
      simpa using this
    · have := hb2.size
      omega
  case done =>
    rintro D ys W hD rfl ⟨⟨⟨u, hv, hrow, _⟩, hB⟩, hS⟩ hK
    have hc := hv.cell
    rw [upto_length] at hrow
    gi_wp2
    refine ⟨by simp, .inl ⟨_, _, rfl, run_takeDeferred hK, ?_⟩⟩
    exact ⟨_, results_tmp2 rfl _ _ _, u, rfl, ownsRow_putObj (ownsRow_base hrow (by omega)) _ hK rfl, hB.trans (belowK_b (w := w) (Nat.le_refl _) W D _ _ (by simp at hD; omega) hK rfl rfl)⟩
  case stop =>
    rintro D c pre W _ _ h _
    exact h.elim
end Go.Proofs

