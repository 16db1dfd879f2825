/- Overrides: bits.Spread: bytes as bits. -/
import Derived.Test.YtnnindnmpfmaaaaGreatNd
import Derived.Test.YtnnindnmpfmaaaaGreatNq
set_option linter.unusedVariables false
set_option linter.unusedSimpArgs false
namespace Go.Proofs
open Go.RowKit Go.Shelf Go.Pv

attribute [local go_sem] Oper.semAt_some

/-- A row with room to spare: its cells are known one by one. -/
def RoomRow (W : World) (B e : Nat) (cap : Nat) (xs : List Value) : Prop := ∃ cur : Array Value, W.heap[B]? = some (.cells cur e (0, 0)) ∧ cur.size = cap ∧ cur.toList.take xs.length = xs ∧ xs.length ≤ cap
def HoldsAt (W : World) (B t : Nat) (v : Value) : Prop := W.heap[B]? = some (.cells #[v] t (0, 0))

theorem RoomRow.kept {W W' : World} {B e cap : Nat} {xs : List Value} (h : RoomRow W B e cap xs) (he : W'.heap[B]? = W.heap[B]?) : RoomRow W' B e cap xs := by
  obtain ⟨cur, h1, h2⟩ := h
  exact ⟨cur, he.trans h1, h2⟩
theorem RoomRow.lt {W : World} {B e cap : Nat} {xs : List Value} (h : RoomRow W B e cap xs) : B < W.heap.size := by
  obtain ⟨cur, h1, h2⟩ := h
  exact (Array.getElem?_eq_some_iff.1 h1).1
theorem HoldsAt.lt {W : World} {B t : Nat} {v : Value} (h : HoldsAt W B t v) : B < W.heap.size := (Array.getElem?_eq_some_iff.1 h).1
theorem HoldsAt.cell {W : World} {B t : Nat} {v : Value} (h : HoldsAt W B t v) : W.cell? ⟨B, 0, none⟩ = some v := by
  have h' : W.heap[B]? = some (.cells #[v] t (0, 0)) := h
  simp [World.cell?, h']
theorem HoldsAt.frozen {W : World} {B t : Nat} {v : Value} (h : HoldsAt W B t v) : W.frozen? ⟨B, 0, none⟩ = false := by
  have h' : W.heap[B]? = some (.cells #[v] t (0, 0)) := h
  simp [World.frozen?, h']
theorem HoldsAt.set {W : World} {B t : Nat} {v : Value} (h : HoldsAt W B t v) (u : Value) : HoldsAt (W.setCell ⟨B, 0, none⟩ u) B t u := by
  have h' : W.heap[B]? = some (.cells #[v] t (0, 0)) := h
  have hlt := h.lt
  unfold HoldsAt
  simp only [World.setCell]
  rw [Array.getElem?_modify]
  simp [h']

/-- One element more, in place. -/
theorem wpListIn_append_room {F : Fence} {n : Nat} {P : Program} (w : World) {ops : Array Oper} {rest : List Oper} {o : Oper} {a : Act} {Q : Exit → Act → World → Prop}
    (hg : o.guard = none) (s x : Operand) (t : TypeId) (hop : o.op = Op.call { callee := Callee.builtin Builtin.append, args := #[s, x], argTypes := #[t, t] })
    (e : TypeId) (i : TypeInfo) (h1 : P.underlying t = some (.slice e)) (h2 : P.info? e = some i) (h4 : i.size = 1)
    (B cap : Nat) (xs : List Value) (hs : a.eval s = .slice (some ⟨B, 0, none⟩) xs.length cap) (hown : RoomRow w B e cap xs) (hroom : xs.length + 1 ≤ cap) (ad : Addr) (c : Nat) (y : Value) (hx : a.eval x = .slice (some ad) 1 c)
    (hc : w.cell? (ad.add 0) = some y) (h1c : y.oneCell' = true)
    (hK : ∀ w', RoomRow w' B e cap (xs ++ [y]) → w.grownBy w' (some B) → wpListIn F n P ops Q rest (a.put o.dst (.slice (some ⟨B, 0, none⟩) (xs.length + 1) cap)) w') :
    wpListIn F n P ops Q (o :: rest) a w := by
  refine wpListIn_plain hg fun K hK' => ?_
  obtain ⟨cur, g1, g2, g3, g4⟩ := hown
  have hrun := run_append_room (P := P) w t o.type e i h1 h2 B xs.length cap cur g1 ad 1 c [y] (by simp [h4]) (by
    intro j u hj
    cases j with
    | zero => simp at hj; subst hj; exact hc
    | succ j => simp at hj) (by intro u hu; simp at hu; subst hu; exact h1c) hroom (by simp [h4]; omega)
  unfold Oper.wpIn
  refine ⟨?_, ?_⟩
  · simp [Oper.about, hop, resolve, Target.leads, Sem.run_pure]
  · rw [Oper.semAt_plain F _ _ (by rw [hop]; intro c hc'; cases hc')]
    have hfin := hK' _ _ (hK (w.setRow B (cur.toList.take (xs.length * i.size) ++ [y] ++ cur.toList.drop (xs.length * i.size + [y].length)).toArray) ⟨_, setRow_heap w B cur _ e _ g1, by simp [h4]; omega, by
      simp only [h4, Nat.mul_one, List.length_append, List.length_cons, List.length_nil]
      rw [g3, List.append_assoc, ← List.append_assoc, List.take_append_of_le_length (by simp), List.take_of_length_le (by simp)], by simp; omega⟩ ⟨rfl, rfl, rfl, by simp, fun k _ hk => setRow_other w B k _ (fun e => hk (by rw [e]))⟩)
    simp [execOp, hop, resolve, invoke, builtin, hs, hx, hrun, Result.andThen]
    simp only [List.append_assoc, List.singleton_append, List.length_singleton] at hfin
    exact hfin

set_option maxRecDepth 100000 in
set_option maxHeartbeats 2000000 in
/-- bits.Spread's closure: one byte's bits. -/
theorem Tryz.spread1_in (F : Fence) (n : Nat) (h3 : F.fn 221) (h4 : F.fn 214) (h5 : F.fn 222) (hro : F.round = none) (hn : 3 ≤ n) (B cap : Nat) (x : Int) (hx : 0 ≤ x ∧ x < 256) (xs : List Value) (w : World)
    (bit : Nat → Int) (hbit : ∀ k, bit k = bits .and .i64 (x / 2 ^ (8 - 1 - k)) 1)
    (hR : RoomRow w B 3 cap xs) (hO : HoldsAt w (B + 1) 39 (.slice (some ⟨B, 0, none⟩) xs.length cap)) (hroom : xs.length + 8 ≤ cap) :
    CallsIn F n Tryz.prog 221 #[.int .u8 x, .pointer (some ⟨B + 1, 0, none⟩)] w fun e W' => (∃ v, e = .returned v) ∧
      RoomRow W' B 3 cap (xs ++ (upto bit 8).map (Value.int .i64)) ∧ HoldsAt W' (B + 1) 39 (.slice (some ⟨B, 0, none⟩) (xs.length + 8) cap) ∧ Below B w W' := by
  have h1 : 1 ≤ n := by omega
  obtain ⟨i0, hi, hz0, hz1, hz2⟩ := info_parts Tryz.info3
  have hwx : IntKind.i64.wrap x = x := by rw [IntKind.wrap_i64]; omega
  have hBs := hO.lt
  refine callsIn_of_wp_marks Tryz.func221 rfl h3 ?_ hro
  simp only [Tryz.ntmps221, List.size_toArray, List.length_cons, List.length_nil, Nat.reduceAdd, Nat.reduceSub, Array.replicate_succ, Array.replicate_zero, List.push_toArray, List.append_toArray, List.nil_append, List.cons_append]
  gi_wp2_with (gi_at_call 214; refine (Tryz.shifts_in F (n - 1) h4 hro _ _ _).mono ?_; rintro e w' ⟨rfl, rfl⟩)
  have bN := Boxed.new w 3 (.int .i64 x)
  have bM := Boxed.new (w.alloc (.cells #[.int .i64 x] 3)) 3 (.int .i64 8)
  rw [World.size_alloc] at bM
  have bN3 := bN.alloc (.cells #[.int .i64 8] 3)
  have hB0 : Below B w ((w.alloc (.cells #[.int .i64 x] 3)).alloc (.cells #[.int .i64 8] 3)) := ((Below.refl _ w).alloc (by omega) _).alloc (by simp; omega) _
  have hS0 : ((w.alloc (.cells #[.int .i64 x] 3)).alloc (.cells #[.int .i64 8] 3)).heap.size = w.heap.size + 2 := by simp
  have hh : ∀ k, k < w.heap.size → ((w.alloc (.cells #[.int .i64 x] 3)).alloc (.cells #[.int .i64 8] 3)).heap[k]? = w.heap[k]? := fun k hk => (Below.heap_alloc _ _ _ (by simp; omega)).trans (Below.heap_alloc _ _ _ hk)
  refine wpIn_rangeFunc_ownG hro h1 (gf := 222) (lb := #[.pointer (some ⟨w.heap.size + 1, 0, none⟩), .pointer (some ⟨w.heap.size, 0, none⟩)]) rfl h5 (enters_of Tryz.func222 (by kernel_rfl) rfl)
    (Tryz.shifts_stops F (n - 1) h5 hro (by omega) (w.heap.size + 1) w.heap.size x 8 (by omega) _ (by rw [hS0]; omega) bM.cell bN3.cell bit hbit) (fun h k x hx => k x (h x hx)) (fun W l o o' hl ho hc _ x hx => cell_kept hx (grownBy_putObj' W l o') (fun r e => by cases e; exact ⟨o, ho, hc⟩)) (Below.refl _ _) (fun _ => rfl)
    (fun (pre : List Int) W => (RoomRow W B 3 cap (xs ++ pre.map (Value.int .i64)) ∧ HoldsAt W (B + 1) 39 (.slice (some ⟨B, 0, none⟩) (xs.length + pre.length) cap) ∧ w.heap.size + 2 ≤ W.heap.size) ∧ Below B w W)
    (fun _ _ _ => False)
    (OwnFrom.and (fun s X Y row ⟨hr, ho, hsz⟩ hg hrow => by
      have hne : ∀ k, k < w.heap.size → some k ≠ row := fun k hk e => by
        have := (hrow k e.symm).1
        rw [hS0] at this
        omega
      exact ⟨hr.kept (hg.block B hr.lt (hne B (by omega))), (hg.block (B + 1) ho.lt (hne _ hBs)).trans ho, Nat.le_trans hsz hg.size⟩) (ownFrom_below (by omega) (by rw [hS0]; omega)))
    (fun _ _ _ _ _ hs _ _ => hs)
    ⟨⟨by simpa using hR.kept (hh B (by omega)), (hh (B + 1) hBs).trans hO, by rw [hS0]; omega⟩, hB0⟩
    (fun y => { tmps := #[.int .u8 x, .pointer (some ⟨B + 1, 0, none⟩), undef, .int .i64 y, .int .u8 x, .int .i64 x, .func (.func 222) #[] #[.pointer (some ⟨w.heap.size + 1, 0, none⟩), .pointer (some ⟨w.heap.size, 0, none⟩)], .int .i64 y, undef, undef, undef, undef], defers := [] }) ?assign ?body ?done ?stop
  case assign =>
    intro l x W K hK
    gi_wp2
    exact hK
  case body =>
    rintro l pre y W ⟨⟨hr, ho, hsz⟩, hB⟩ hlt
    have hc := ho.cell
    have hoA : HoldsAt (W.alloc (.cells #[.int .i64 y] 3)) (B + 1) 39 (.slice (some ⟨B, 0, none⟩) (xs.length + pre.length) cap) := (Below.heap_alloc W _ _ ho.lt).trans ho
    have hlen : (xs ++ pre.map (Value.int .i64)).length = xs.length + pre.length := by simp
    gi_wp2_with (gi_at_builtin; refine wpListIn_append_room _ rfl _ _ 39 rfl 3 i0 Tryz.underlying39 hi hz1 B cap (xs ++ pre.map (Value.int .i64)) (by rw [hlen]; rfl) (hr.kept (Below.heap_alloc W _ _ hr.lt)) (by rw [hlen]; omega) ⟨W.heap.size, 0, none⟩ 1 (.int .i64 y) rfl (cell_one_new _ _ _ 0 _ rfl) rfl ?_; rw [hlen]; intro w1 hr1 hg1; have ho1 : HoldsAt w1 (B + 1) 39 (.slice (some ⟨B, 0, none⟩) (xs.length + pre.length) cap) := (hg1.block _ hoA.lt (by simp)).trans hoA; have hc1 := ho1.cell; have hf1 := ho1.frozen)
    have hoth : ∀ k, k ≠ B + 1 → (w1.setCell ⟨B + 1, 0, none⟩ (.slice (some ⟨B, 0, none⟩) (xs.length + pre.length + 1) cap)).heap[k]? = w1.heap[k]? := fun k hk => Below.heap_setCell _ _ _ _ hk
    have hgk : ∀ k, k < W.heap.size → k ≠ B → w1.heap[k]? = W.heap[k]? := fun k hk hne => (hg1.block k (by simp; omega) (by simpa using hne)).trans (Below.heap_alloc _ _ _ hk)
    have hs1 := hg1.size
    simp only [World.size_alloc] at hs1
    refine ⟨(((KeepsOthers.alloc W _).from _).trans (KeepsFrom.of_grownBy hg1 (fun j e => by cases e; rw [hS0]; omega))).trans ((KeepsOthers.setCell _ _ _).from _), fun z hz => ?_, ⟨?_, ?_, ?_⟩, ?_⟩
    · have hk1 := hoth w.heap.size (by omega)
      have hk2 := hgk w.heap.size (by omega) (by omega)
      exact (World.cell?_of_block (a := ⟨w.heap.size, 0, none⟩) (hk1.trans hk2)).trans hz
    · have := hr1.kept (hoth B (by omega))
      simpa using this
    · have := ho1.set (.slice (some ⟨B, 0, none⟩) (xs.length + pre.length + 1) cap)
      simpa [Nat.add_assoc] using this
    · have := (KeepsOthers.setCell w1 ⟨B + 1, 0, none⟩ (.slice (some ⟨B, 0, none⟩) (xs.length + pre.length + 1) cap)).size
      omega
    · exact ((hB.alloc (by omega) _).grown hg1 (by simp; omega) (fun k e => by cases e; exact Nat.le_refl _)).setCell (p := ⟨B + 1, 0, none⟩) (by simp) _
  case done =>
    rintro D ys W hD rfl ⟨⟨hr, ho, hsz⟩, hB⟩ hK
    gi_wp2
    refine ⟨by simp, .inl ⟨_, _, rfl, run_takeDeferred hK, ?_⟩⟩
    have hDB : D ≠ B ∧ D ≠ B + 1 := by rw [hS0] at hD; omega
    have hk : ∀ k, k ≠ D → (W.putObj D (.deferred none)).heap[k]? = W.heap[k]? := fun k hk => World.putObj_heap_other hk
    refine ⟨_, results_none rfl _ _ _, ⟨_, rfl⟩, ?_, ?_, ?_⟩
    · exact hr.kept (hk B hDB.1.symm)
    · rw [upto_length] at ho
      exact (hk _ hDB.2.symm).trans ho
    · exact hB.trans (belowK_b (w := w) (by omega) W D _ _ (by rw [hS0] at hD; omega) hK rfl rfl)
  case stop =>
    rintro D c pre W _ _ h _
    exact h.elim

theorem wpListIn_make_x {F : Fence} {n : Nat} {P : Program} (w : World) {ops : Array Oper} {rest : List Oper} {o : Oper} {a : Act} {Q : Exit → Act → World → Prop}
    (hg : o.guard = none) (l c : Operand) (t : TypeId) (hop : o.op = Op.makeSlice t l c)
    (e : TypeId) (i : TypeInfo) (z : Value) (h1 : P.underlying t = some (.slice e)) (h2 : P.info? e = some i) (h3 : i.zero = some z)
    (kl kc : IntKind) (m : Nat) (hl : a.eval l = .int kl 0) (hc : a.eval c = .int kc m) (b2 : i.bytes * m ≤ 281474976710656) (b3 : m ≤ 9223372036854775807)
    (hK : wpListIn F n P ops Q rest (a.put o.dst (.slice (some ⟨w.heap.size, 0, none⟩) 0 m)) (w.alloc (.cells (madeCells z.cells (m * i.size)) e))) :
    wpListIn F n P ops Q (o :: rest) a w := by
  refine wpListIn_plain hg fun K hK' => ?_
  have hrun := run_make (P := P) w t e i z h1 h2 h3 kl kc 0 m (by omega) (by omega) (by rw [← Int.natCast_mul]; omega) (by omega)
  simp only [Int.toNat_natCast, Int.toNat_zero] at hrun
  unfold Oper.wpIn
  refine ⟨?_, ?_⟩
  · simp [Oper.about, hop]
  · rw [Oper.semAt_plain F _ _ (by rw [hop]; intro c hc'; cases hc')]
    simp [execOp, hop, hl, hc, hrun, Result.andThen]
    exact hK' _ _ hK

def bit8 (x : Int) (k : Nat) : Int := bits .and .i64 (x / 2 ^ (8 - 1 - k)) 1
def spreadV (bs : Nat → Int) (k : Nat) : List Value := (List.range k).flatMap fun i => (upto (bit8 (bs i)) 8).map (Value.int .i64)
theorem spreadV_succ (bs : Nat → Int) (k : Nat) : spreadV bs (k + 1) = spreadV bs k ++ (upto (bit8 (bs k)) 8).map (Value.int .i64) := by
  unfold spreadV
  rw [List.range_succ, List.flatMap_append]
  simp only [List.flatMap_cons, List.flatMap_nil, List.append_nil]
theorem spreadV_len (bs : Nat → Int) : ∀ k, (spreadV bs k).length = 8 * k
  | 0 => rfl
  | k + 1 => by rw [spreadV_succ, List.length_append, spreadV_len bs k, List.length_map, upto_length]; omega

set_option maxRecDepth 100000 in
set_option maxHeartbeats 2000000 in
/-- bits.Spread. -/
theorem Tryz.Spread_in (F : Fence) (n : Nat) (h2 : F.fn 213) (h3 : F.fn 221) (h4 : F.fn 214) (h5 : F.fn 222) (hro : F.round = none) (hn : 4 ≤ n) (L c : Nat) (hL : L ≤ 2 ^ 40) (blk off : Nat) (xa : Option Addr)
    (hxa : L ≠ 0 → xa = some ⟨blk, off, none⟩) (bs : Nat → Int) (hbs : ∀ j, j < L → 0 ≤ bs j ∧ bs j < 256) (w : World) (hblk : L ≠ 0 → blk < w.heap.size) (hcell : ∀ j, j < L → w.cell? ⟨blk, off + j, none⟩ = some (.int .u8 (bs j))) :
    CallsIn F n Tryz.prog 213 #[.slice xa L c] w fun e W' => ∃ cap, e = .returned (.slice (some ⟨w.heap.size, 0, none⟩) (8 * L) cap) ∧ RoomRow W' w.heap.size 3 cap (spreadV bs L) ∧ Below w.heap.size w W' := by
  have h1 : 1 ≤ n := by omega
  obtain ⟨i0, hi, hz0, hz1, hz2⟩ := info_parts Tryz.info3
  have hw8 : wrap64 (8 * (L : Int)) = ((8 * L : Nat) : Int) := by unfold wrap64; omega
  refine callsIn_of_wp Tryz.func213 rfl h2 ?_ hro
  simp only [Tryz.ntmps213, List.size_toArray, List.length_cons, List.length_nil, Nat.reduceAdd, Nat.reduceSub, Array.replicate_succ, Array.replicate_zero, List.push_toArray, List.append_toArray, List.nil_append, List.cons_append]
  gi_wp2_with (gi_at_make; refine wpListIn_make_x _ rfl _ _ 39 rfl 3 i0 (.int .i64 0) Tryz.underlying39 hi hz0 .i64 .i64 (8 * L) rfl (show Value.int .i64 (8 * (L : Int)) = _ from by rw [Int.natCast_mul]; rfl) (by rw [hz2]; omega) (by omega) ?_)
  have hB2 : ((w.alloc (.cells (madeCells (Value.int .i64 0).cells (8 * L * i0.size)) 3)).alloc (.cells #[.slice (some ⟨w.heap.size, 0, none⟩) 0 (8 * L)] 39)).heap.size = w.heap.size + 2 := by simp
  gi_loopw [14] (fun i wr => ∃ k : Nat, k ≤ L ∧ i = .int .i64 k ∧ RoomRow wr w.heap.size 3 (8 * L) (spreadV bs k) ∧ HoldsAt wr (w.heap.size + 1) 39 (.slice (some ⟨w.heap.size, 0, none⟩) (8 * k) (8 * L)) ∧ Below w.heap.size w wr)
    (fun i _ => L - (intOf i).toNat)
  case atStart =>
    refine ⟨0, Nat.zero_le _, rfl, ⟨_, (Below.heap_alloc _ _ _ (by simp)).trans (World.alloc_heap_new w _), ?_, by simp [spreadV], by simp [spreadV]⟩, ?_, ((Below.refl _ w).alloc (Nat.le_refl _) _).alloc (by simp) _⟩
    · simp [madeCells, hz1]
    · have := World.alloc_heap_new (w.alloc (.cells (madeCells (Value.int .i64 0).cells (8 * L * i0.size)) 3)) (.cells #[.slice (some ⟨w.heap.size, 0, none⟩) 0 (8 * L)] 39)
      rw [World.size_alloc] at this
      simpa [hz1, HoldsAt, Value.cells] using this
  case round =>
    obtain ⟨k, hk, rfl, hr, ho, hnx⟩ := hrel
    by_cases hlt : k < L
    · obtain rfl := hxa (by omega)
      have hcx : wr.cell? ⟨blk, off + k, none⟩ = some (.int .u8 (bs k)) := (hnx.cell (by exact hblk (by omega))).trans (hcell k hlt)
      have hlen := spreadV_len bs k
      have hsp := Tryz.spread1_in F (n - 1) h3 h4 h5 hro (by omega) w.heap.size (8 * L) (bs k) (hbs k hlt) (spreadV bs k) wr (bit8 (bs k)) (fun _ => rfl) hr (by rw [hlen]; exact ho) (by rw [hlen]; omega)
      rw [hlen] at hsp
      gi_wp2_with (gi_at_call 221; refine hsp.mono ?_; rintro e w2 ⟨⟨v, rfl⟩, hr2, ho2, hb2⟩)
      refine ⟨⟨k + 1, by omega, rfl, by rw [spreadV_succ]; exact hr2, by rw [show 8 * (k + 1) = 8 * k + 8 by omega]; exact ho2, hnx.trans hb2⟩, ?_⟩
      simp [intOf]; omega
    · obtain rfl : k = L := by omega
      have hc2 := ho.cell
      gi_wp2
      go_ret
      exact ⟨_, rfl, hr, hnx⟩

/-- Bytes as bits. -/
def spreadL (bs : List Int) : List Int := bs.flatMap fun x => upto (bit8 x) 8
theorem spreadV_list (bs : List Int) : spreadV (fun i => bs.getD i 0) bs.length = (spreadL bs).map (Value.int .i64) := by
  unfold spreadV spreadL
  rw [List.map_flatMap]
  have : ∀ (l : List Int), (List.range l.length).flatMap (fun i => (upto (bit8 (l.getD i 0)) 8).map (Value.int .i64)) = l.flatMap (fun x => (upto (bit8 x) 8).map (Value.int .i64)) := by
    intro l
    induction l with
    | nil => rfl
    | cons x l ih =>
      rw [List.length_cons, List.range_succ_eq_map, List.flatMap_cons, List.flatMap_cons, List.flatMap_map]
      rw [← ih]
      rfl
  exact this bs
theorem spreadL_len (bs : List Int) : (spreadL bs).length = 8 * bs.length := by
  have := congrArg List.length (spreadV_list bs)
  rw [spreadV_len] at this
  simpa using this.symm

theorem Tryz.spreadOk (bs : List Int) (hL : bs.length ≤ 2 ^ 40) (hbs : ∀ x ∈ bs, 0 ≤ x ∧ x < 256) : CallOk Tryz.prog 213 [.d (.slice (bs.map fun b => [.int .u8 b]))] [] (.d (.slice ((spreadL bs).map fun b => [.int .i64 b]))) [] := by
  refine callOk_data ⟨_, Tryz.func213, rfl, by decide⟩ (by simp) fun w Im vs hin hargs => ?_
  obtain ⟨hl, hr⟩ := hargs
  obtain ⟨x, rfl⟩ : ∃ x, vs = #[x] := by
    match vs, hl with
    | ⟨[x]⟩, _ => exact ⟨x, rfl⟩
  have hx := (hr 0 _ x rfl rfl).1.slice_inv
  obtain ⟨y, cap, rfl, hcap⟩ := hx.slice_form
  rw [List.length_map] at hx hcap ⊢
  have hgetD : ∀ j, j < bs.length → bs.getD j 0 ∈ bs := fun j hj => by simp [List.getD, hj]
  have main : ∃ (xa : Option Addr) (blk off : Nat), y = xa ∧ (bs.length ≠ 0 → xa = some ⟨blk, off, none⟩) ∧ (bs.length ≠ 0 → blk < w.heap.size) ∧ ∀ j, j < bs.length → w.cell? ⟨blk, off + j, none⟩ = some (.int .u8 (bs.getD j 0)) := by
    generalize hrows : bs.map (fun b => [DV.int .u8 b]) = rows at hx
    have hrl : rows.length = bs.length := by rw [← hrows, List.length_map]
    rw [← hrl] at hx
    cases hx with
    | nil =>
      have h0 : bs.length = 0 := by rw [← hrl]; rfl
      exact ⟨none, 0, 0, rfl, fun h => absurd h0 h, fun h => absurd h0 h, fun j hj => by omega⟩
    | slice _ a c sz cv hlen hc hs hcell him hrep =>
      by_cases h0 : bs.length = 0
      · exact ⟨some a, 0, 0, rfl, fun h => absurd h0 h, fun h => absurd h0 h, fun j hj => by omega⟩
      · have hsz : sz = 1 := by
          cases hrr : rows with
          | nil => rw [hrr] at hrl; simp at hrl; omega
          | cons r rs =>
            have h1 := hlen r (by rw [hrr]; simp)
            have : r ∈ bs.map (fun b => [DV.int .u8 b]) := by rw [hrows, hrr]; simp
            obtain ⟨b, _, rfl⟩ := List.mem_map.1 this
            exact h1.symm
        subst hsz
        have ha := hs (by omega)
        have haa : a = ⟨a.block, a.off, none⟩ := by cases a; simp at ha; simp [ha]
        have hcells : ∀ j, j < bs.length → w.cell? ⟨a.block, a.off + j, none⟩ = some (.int .u8 (bs.getD j 0)) := fun j hj => by
          have h1 := hcell j (by omega)
          have h2 := hrep j 0 [.int .u8 (bs.getD j 0)] (.int .u8 (bs.getD j 0)) (by rw [← hrows, List.getElem?_map]; simp [List.getD, show j < bs.length by omega]) rfl
          rw [show j * 1 + 0 = j by omega] at h2
          generalize cv j = u at h1 h2
          cases h2
          exact h1
        refine ⟨some a, a.block, a.off, rfl, fun _ => by rw [← haa], fun _ => ?_, hcells⟩
        exact hin.lt (him 0 (by omega))
  obtain ⟨xa, blk, off, rfl, q1, q2, q3⟩ := main
  refine ((callsIn_wide (n := 4)).1 (Tryz.Spread_in _ 4 trivial trivial trivial trivial rfl (by omega) bs.length cap hL blk off y q1 (fun j => bs.getD j 0) (fun j hj => hbs _ (hgetD j hj)) w q2 q3)).mono ?_
  rintro e w' ⟨cap', rfl, hroom, hb⟩
  rw [spreadV_list] at hroom
  obtain ⟨cur, r1, r2, r3, r4⟩ := hroom
  rw [List.length_map, spreadL_len] at r3 r4
  have hcurl : ∀ j, j < 8 * bs.length → ∃ u, (spreadL bs)[j]? = some u ∧ cur[j]? = some (.int .i64 u) := fun j hj => by
    have hj' : j < (spreadL bs).length := by rw [spreadL_len]; exact hj
    refine ⟨(spreadL bs)[j], List.getElem?_eq_getElem hj', ?_⟩
    have := congrArg (fun l => l[j]?) r3
    simp only [List.getElem?_take, if_pos hj, List.getElem?_map, List.getElem?_eq_getElem hj', Option.map_some] at this
    simpa using this
  have hn := below_newW hb
  have hrl : ((spreadL bs).map fun b => [DV.int .i64 b]).length = 8 * bs.length := by rw [List.length_map, spreadL_len]
  refine ⟨_, fun b o => Im b o ∨ (b = w.heap.size ∧ o < 8 * bs.length), rfl, hb, fun b o h => .inl h, fun b o h => ?_, ?_⟩
  · rcases h with h | ⟨rfl, h⟩
    · exact .inl h
    · obtain ⟨u, h1, h2⟩ := hcurl o h
      exact .inr ⟨Nat.le_refl _, .int .i64 u, by simp [World.cell?, r1, h2]⟩
  · rw [← hrl]
    refine .d (.slice _ ⟨w.heap.size, 0, none⟩ cap' 1 (fun j => .int .i64 ((spreadL bs).getD j 0)) (fun r hr => by obtain ⟨b, _, rfl⟩ := List.mem_map.1 hr; rfl) (by rw [hrl]; exact r4) (fun _ => rfl) (fun j hj => ?_) (fun j hj => ?_) (fun i j r x hi hj => ?_))
    · rw [hrl, Nat.mul_one] at hj
      obtain ⟨u, h1, h2⟩ := hcurl j hj
      simp [World.cell?, r1, h2, List.getD, h1]
    · rw [hrl, Nat.mul_one] at hj
      exact .inr ⟨rfl, by simp [spreadL_len]; omega⟩
    · rw [List.getElem?_map] at hi
      cases hs : (spreadL bs)[i]? with
      | none => rw [hs] at hi; cases hi
      | some u =>
        rw [hs] at hi
        simp at hi
        subst hi
        cases j with
        | succ j => simp at hj
        | zero =>
          simp at hj
          subst hj
          simp only [Nat.mul_one, Nat.add_zero, List.getD, hs, Option.getD_some]
          exact .int _ _
end Go.Proofs

