/- Overrides of the seat of nodes: count.Step. -/
import Derived.Test.YtnnindnmpfmaaaaGreatNa
import Derived.RegionTactic
import Derived.ChangeAlike
import Derived.RangeFuncRecord
set_option maxRecDepth 100000
set_option linter.unusedVariables false
set_option linter.unusedSimpArgs false
namespace Go.Proofs
open Go.Shelf Go.RowKit Go.Lib Go.Pv

/-- A counter's box. -/
def Cnt (w : World) (B : Nat) (t r s q : Int) : Prop := ∃ e, w.heap[B]? = some (.cells #[.int .i64 t, .int .i64 r, .int .i64 s, .int .i64 q] e (0, 0))

theorem Cnt.cells {w : World} {B : Nat} {t r s q : Int} (h : Cnt w B t r s q) :
    (w.cell? ⟨B, 0, none⟩ = some (.int .i64 t) ∧ w.cell? ⟨B, 1, none⟩ = some (.int .i64 r) ∧ w.cell? ⟨B, 2, none⟩ = some (.int .i64 s) ∧ w.cell? ⟨B, 3, none⟩ = some (.int .i64 q)) ∧ ∀ j, w.frozen? ⟨B, j, none⟩ = false := by
  obtain ⟨e, h⟩ := h
  refine ⟨⟨?_, ?_, ?_, ?_⟩, fun j => ?_⟩ <;> simp [World.cell?, World.frozen?, h]

/-- But for the block B. -/
structure But (B : Nat) (w w' : World) : Prop where
  os : w'.os = w.os
  tape : w'.tape = w.tape
  output : w'.output = w.output
  size : w.heap.size ≤ w'.heap.size
  block : ∀ k, k < w.heap.size → k ≠ B → w'.heap[k]? = w.heap[k]?


theorem heap_setCell {w : World} {B : Nat} {cs : Array Value} {e : TypeId} {z : Nat × Nat} (h : w.heap[B]? = some (.cells cs e z)) (j : Nat) (v : Value) :
    (w.setCell ⟨B, j, none⟩ v).heap[B]? = some (.cells (cs.setIfInBounds j v) e z) ∧ (∀ k, k ≠ B → (w.setCell ⟨B, j, none⟩ v).heap[k]? = w.heap[k]?) ∧ (w.setCell ⟨B, j, none⟩ v).heap.size = w.heap.size ∧
      (w.setCell ⟨B, j, none⟩ v).os = w.os ∧ (w.setCell ⟨B, j, none⟩ v).tape = w.tape ∧ (w.setCell ⟨B, j, none⟩ v).output = w.output := by
  have hlt : B < w.heap.size := (Array.getElem?_eq_some_iff.1 h).1
  refine ⟨?_, fun k hk => ?_, ?_, ?_, ?_, ?_⟩
  · simp [World.setCell, Array.getElem?_modify, h]
  · simp [World.setCell, Array.getElem?_modify, Ne.symm hk]
  · simp [World.setCell, h]
  · simp [World.setCell, h]
  · simp [World.setCell, h]
  · simp [World.setCell, h]

theorem But.refl (B : Nat) (w : World) : But B w w := ⟨rfl, rfl, rfl, Nat.le_refl _, fun _ _ _ => rfl⟩
theorem But.trans {B : Nat} {w w' w'' : World} (h : But B w w') (h' : But B w' w'') : But B w w'' :=
  ⟨h'.os.trans h.os, h'.tape.trans h.tape, h'.output.trans h.output, Nat.le_trans h.size h'.size, fun k hk hb => (h'.block k (Nat.lt_of_lt_of_le hk h.size) hb).trans (h.block k hk hb)⟩
theorem But.drew {B : Nat} {w w' : World} (h : But B w w') : But B w w'.drew := ⟨h.os, h.tape, h.output, h.size, h.block⟩
theorem But.set {B : Nat} {w w' : World} (h : But B w w') {cs : Array Value} {e : TypeId} {z : Nat × Nat} (hc : w'.heap[B]? = some (.cells cs e z)) (j : Nat) (v : Value) : But B w (w'.setCell ⟨B, j, none⟩ v) := by
  obtain ⟨_, h2, h3, h4, h5, h6⟩ := heap_setCell hc j v
  exact h.trans ⟨h4, h5, h6, by rw [h3]; exact Nat.le_refl _, fun k _ hb => h2 k hb⟩

theorem Cnt.drew {w : World} {B : Nat} {t r s q : Int} (h : Cnt w B t r s q) : Cnt w.drew B t r s q := h
theorem Cnt.set0 {w : World} {B : Nat} {t r s q : Int} (h : Cnt w B t r s q) (x : Int) : Cnt (w.setCell ⟨B, 0, none⟩ (.int .i64 x)) B x r s q := by
  obtain ⟨e, h⟩ := h
  exact ⟨e, (heap_setCell h 0 _).1⟩
theorem Cnt.set1 {w : World} {B : Nat} {t r s q : Int} (h : Cnt w B t r s q) (x : Int) : Cnt (w.setCell ⟨B, 1, none⟩ (.int .i64 x)) B t x s q := by
  obtain ⟨e, h⟩ := h
  exact ⟨e, (heap_setCell h 1 _).1⟩
theorem Cnt.set2 {w : World} {B : Nat} {t r s q : Int} (h : Cnt w B t r s q) (x : Int) : Cnt (w.setCell ⟨B, 2, none⟩ (.int .i64 x)) B t r x q := by
  obtain ⟨e, h⟩ := h
  exact ⟨e, (heap_setCell h 2 _).1⟩
theorem Cnt.set {w : World} {B : Nat} {t r s q : Int} (h : Cnt w B t r s q) (j : Nat) (v : Value) : But B w (w.setCell ⟨B, j, none⟩ v) := by
  obtain ⟨e, h⟩ := h
  exact (But.refl B w).set h j v

set_option maxHeartbeats 1000000 in
theorem Tryz.bad (B : Nat) (t r s q : Int) (w : World) (h : Cnt w B t r s q) (ht : 0 ≤ t ∧ t ≤ 1000) :
    Calls Tryz.prog 211 #[.pointer (some ⟨B, 0, none⟩)] w fun e w' => (∃ v, e = .returned v) ∧ Cnt w' B (t + 8) r s q ∧ But B w w' := by
  obtain ⟨⟨h0, h1, h2, h3⟩, hf⟩ := h.cells
  have hf0 := hf 0
  have hw : wrap64 (t + 8) = t + 8 := by unfold wrap64; omega
  go_enter Tryz.func211, Tryz.ntmps211
  go_wp2
  go_end0
  exact ⟨⟨_, rfl⟩, h.set0 _, h.set 0 _⟩

set_option maxHeartbeats 1000000 in
theorem Tryz.sent (B : Nat) (t r s q : Int) (w : World) (h : Cnt w B t r s q) (ht : 0 ≤ t ∧ t ≤ 1000) :
    Calls Tryz.prog 209 #[.pointer (some ⟨B, 0, none⟩)] w fun e w' => (∃ v, e = .returned v) ∧ Cnt w' B (max (t - 1) 0) r s q ∧ But B w w' := by
  obtain ⟨⟨h0, h1, h2, h3⟩, hf⟩ := h.cells
  have hf0 := hf 0
  have hw : wrap64 (t - 1) = t - 1 := by unfold wrap64; omega
  go_enter Tryz.func209, Tryz.ntmps209
  go_wp2
  go_end0
  exact ⟨⟨_, rfl⟩, h.set0 _, h.set 0 _⟩

set_option maxHeartbeats 1000000 in
theorem Tryz.heard (B : Nat) (t r s q : Int) (w : World) (h : Cnt w B t r s q) (hr : 0 ≤ r ∧ r ≤ 1000) :
    Calls Tryz.prog 210 #[.pointer (some ⟨B, 0, none⟩)] w fun e w' => (∃ v, e = .returned v) ∧ Cnt w' B t (min (max (r - 1) 0) 127) s q ∧ But B w w' := by
  obtain ⟨⟨h0, h1, h2, h3⟩, hf⟩ := h.cells
  have hf1 := hf 1
  have hw : wrap64 (r - 1) = r - 1 := by unfold wrap64; omega
  go_enter Tryz.func210, Tryz.ntmps210
  go_wp2
  go_end0
  exact ⟨⟨_, rfl⟩, h.set1 _, h.set 1 _⟩

set_option maxHeartbeats 1000000 in
theorem Tryz.poor1 (B Y : Nat) (t r s q y : Int) (w : World) (h : Cnt w B t r s q) (hr : 0 ≤ r ∧ r ≤ 1000) (hy : 0 ≤ y ∧ y ≤ 1000) (hY : w.cell? ⟨Y, 0, none⟩ = some (.int .i64 y)) :
    Calls Tryz.prog 220 #[.pointer (some ⟨B, 0, none⟩), .pointer (some ⟨Y, 0, none⟩)] w fun e w' => (∃ v, e = .returned v) ∧ Cnt w' B t (min (r + y) 255) s q ∧ But B w w' := by
  obtain ⟨⟨h0, h1, h2, h3⟩, hf⟩ := h.cells
  have hf1 := hf 1
  have hw : wrap64 (r + y) = r + y := by unfold wrap64; omega
  have h1' : w.drew.cell? ⟨B, 1, none⟩ = some (.int .i64 r) := h1
  have hY' : w.drew.cell? ⟨Y, 0, none⟩ = some (.int .i64 y) := hY
  have hf1' : w.drew.frozen? ⟨B, 1, none⟩ = false := hf1
  go_enter Tryz.func220, Tryz.ntmps220
  go_wp2
  go_region
  all_goals go_wp2
  all_goals (go_end0; exact ⟨⟨_, rfl⟩, h.drew.set1 _, ((But.refl B w).drew).trans (h.drew.set 1 _)⟩)

set_option maxHeartbeats 1000000 in
theorem Tryz.state (B : Nat) (t r s q : Int) (w : World) (h : Cnt w B t r s q) :
    Calls Tryz.prog 172 #[.pointer (some ⟨B, 0, none⟩)] w fun e w' => e = .returned (.int .i64 (if max t r > 127 then 2 else 1)) ∧ Below w.heap.size w w' := by
  obtain ⟨⟨h0, h1, h2, h3⟩, hf⟩ := h.cells
  have h0' : w.drew.cell? ⟨B, 0, none⟩ = some (.int .i64 t) := h0
  have h1' : w.drew.cell? ⟨B, 1, none⟩ = some (.int .i64 r) := h1
  by_cases hc : max t r > 127
  · rw [if_pos hc]
    go_enter Tryz.func172, Tryz.ntmps172
    go_wp2
    go_region
    all_goals go_wp2
    all_goals (go_ret; exact ⟨rfl, (Below.refl _ w).drew⟩)
  · rw [if_neg hc]
    go_enter Tryz.func172, Tryz.ntmps172
    go_wp2
    go_region
    all_goals go_wp2
    all_goals (go_ret; exact ⟨rfl, (Below.refl _ w).drew⟩)

theorem cnt_new (w : World) (t r s q : Int) (e : TypeId) : Cnt (w.alloc (.cells #[.int .i64 t, .int .i64 r, .int .i64 s, .int .i64 q] e)) w.heap.size t r s q := ⟨e, by show (w.heap.push _)[w.heap.size]? = _; simp⟩

theorem results_cell {P : Program} {fn : Func} {k : Tmp} {t : TypeId} (h : fn.results = #[.cell k t]) {tmps : Array Value} {p : Addr} (hp : tmps.getD k undef = .pointer (some p)) {w : World} {v : Value} (hl : (loadVar t p).run P w = .ok v w) :
    (results fn tmps).run P w = .ok v w := by
  have hp' : tmps[k]?.getD undef = .pointer (some p) := by simpa using hp
  simp [results, h, hp', hl, asAddr]

theorem Cnt.load {w : World} {B : Nat} {t r s q : Int} (h : Cnt w B t r s q) : (loadVar 47 ⟨B, 0, none⟩).run Tryz.prog w = .ok (.agg #[.int .i64 t, .int .i64 r, .int .i64 s, .int .i64 q]) w := by
  obtain ⟨e, h⟩ := h
  exact run_loadVar_row w B e 47 _ _ _ h Tryz.underlying47 rfl (by kernel_rfl)

set_option maxHeartbeats 1000000 in
theorem Tryz.new40 (w : World) : Calls Tryz.prog 127 #[] w fun e w' => e = .returned (.agg #[.int .i64 0, .int .i64 0, .int .i64 1, .int .i64 0]) ∧ Below w.heap.size w w' := by
  go_enter Tryz.func127, Tryz.ntmps127
  go_wp2
  exact bodyPost_ret (results_cell rfl rfl (cnt_new w 0 0 1 0 47).load) rfl ⟨rfl, (Below.refl _ w).alloc (Nat.le_refl _) _⟩

set_option maxHeartbeats 1000000 in
theorem Tryz.poor (y : Int) (w : World) : Calls Tryz.prog 212 #[.int .i64 y] w fun e w' => e = .returned (.func (.func 220) #[] #[.pointer (some ⟨w.heap.size, 0, none⟩)]) ∧ w' = w.alloc (.cells #[.int .i64 y] 3) := by
  go_enter Tryz.func212, Tryz.ntmps212
  go_wp2
  go_ret
  exact ⟨rfl, rfl⟩

def findNowX (k : Value) : List MapEntry → Bool
  | [] => true
  | e :: es => (match k, e.key with | .int q a, .int q' b => q == q' && a != b | _, _ => false) && findNowX k es

theorem findNowX_none {q : IntKind} {n : Int} : ∀ (es : List MapEntry) (i : Nat), findNowX (.int q n) es = true → Instr.findNow (.int q) (.int q n) es i = some none
  | [], _, _ => rfl
  | e :: es, i, h => by
    simp only [findNowX, Bool.and_eq_true] at h
    obtain ⟨h1, h2⟩ := h
    cases hk : e.key <;> rw [hk] at h1 <;> simp at h1
    obtain ⟨rfl, hne⟩ := h1
    have hb : (n == ‹Int›) = false := by simpa using hne
    simp only [Instr.findNow, hk, Instr.sameNow, if_true]
    rw [hb]
    exact findNowX_none es (i + 1) h2

/-- A key that is not there is laid into a map. -/
theorem wpList_insert {P : Program} {ops : Array Oper} {rest : List Oper} {o : Oper} {a : Act} {w : World} {Q : Exit → Act → World → Prop} (hgd : o.guard = none) (hd : o.dst = none) (mt kt et : TypeId) (k : Tmp) (n : Int) (x : Operand) (ho : o.op = .insert mt (.tmp k) (.const (.int .i64 n)) x)
    (hmt : P.underlying mt = some (.map kt et)) (hkt : P.underlying kt = some (.int .i64)) (m : Nat) (es : Array MapEntry) (c : Nat) (hm : a.eval (.tmp k) = .map (some m)) (hobj : w.heap[m]? = some (.map es c))
    (hfresh : findNowX (.int .i64 n) es.toList = true)
    (h : ∀ w', Hid (w' = w.putObj m (.map (es.push { key := .int .i64 n, val := a.eval x, born := c }) (c + 1))) → w'.heap[m]? = some (.map (es.push { key := .int .i64 n, val := a.eval x, born := c }) (c + 1)) → wpList P ops Q rest a w') : wpList P ops Q (o :: rest) a w := by
  refine wpList_plain hgd fun K hK => ?_
  have hck : ∀ b w, (Instr.checkKey b 10000 kt (.int .i64 n)).run P w = .ok () w := by
    have : ∀ d b w, (Instr.checkKey b (d + 1) kt (.int .i64 n)).run P w = .ok () w := by
      intro d b w
      simp only [Instr.checkKey]
      simp [run_underlying hkt]
    exact this 9999
  have hfk : ∀ w, (Instr.findKey kt (.int .i64 n) es.toList).run P w = .ok none w := by
    intro w
    simp [Instr.findKey, run_underlying hkt, findNowX_none _ 0 hfresh]
  have hrun : (execOp a.eval o).run P w = .ok .skip (w.putObj m (.map (es.push { key := .int .i64 n, val := a.eval x, born := c }) (c + 1))) := by
    have hk : a.eval (.const (.int .i64 n)) = .int .i64 n := rfl
    simp only [execOp, ho, hm, hk]
    simp [Instr.mapUpdate, run_underlying hmt, hobj, hck, hfk, World.putObj, MapKept.run_getObj_map hobj, MapKept.run_setObj_map _ hobj, Result.andThen]
  unfold Oper.wp
  rw [hrun]
  have hlt : m < w.heap.size := (Array.getElem?_eq_some_iff.1 hobj).1
  have := hK (a.put o.dst undef) _ (by rw [hd]; exact h _ rfl (World.putObj_heap_same hlt))
  exact this
theorem alloc_heap {w w2 : World} {o x : Obj} {m : Nat} (hw : w2 = w.alloc o) (h : w.heap[m]? = some x) : w2.heap[m]? = some x := by
  subst hw
  show (w.heap.push o)[m]? = _
  rw [Array.getElem?_push, if_neg (Nat.ne_of_lt (Array.getElem?_eq_some_iff.1 h).1)]
  exact h

theorem below_put {B : Nat} {w w' : World} {m : Nat} {o : Obj} (hm : B ≤ m) (h : Below B w w') : Below B w (w'.putObj m o) :=
  ⟨h.os, h.tape, h.output, by rw [World.putObj_size]; exact h.size, fun k hk => by rw [World.putObj_heap_other (by omega)]; exact h.block k hk⟩

set_option maxHeartbeats 1000000 in
theorem Tryz.works (w : World) : Calls Tryz.prog 185 #[] w fun e w' => ∃ m Y Z es c, e = .returned (.map (some m)) ∧ Below w.heap.size w w' ∧ w'.heap[m]? = some (.map es c) ∧ w.heap.size ≤ Y ∧ w.heap.size ≤ Z ∧
    w'.cell? ⟨Y, 0, none⟩ = some (.int .i64 1) ∧ w'.cell? ⟨Z, 0, none⟩ = some (.int .i64 8) ∧
    es.toList.map (fun e => (e.key, e.val)) = [(.int .i64 1, .func (.func 209) #[] #[]), (.int .i64 2, .func (.func 210) #[] #[]), (.int .i64 3, .func (.func 211) #[] #[]),
      (.int .i64 4, .func (.func 220) #[] #[.pointer (some ⟨Y, 0, none⟩)]), (.int .i64 5, .func (.func 220) #[] #[.pointer (some ⟨Z, 0, none⟩)])] := by
  have hmm := @run_makeMap Tryz.prog
  go_enter Tryz.func185, Tryz.ntmps185
  go_wp2_with (first
    | (show wpList _ _ _ (Oper.mk none (Op.insert _ _ _ _) _ _ _ none :: _) _ _
       refine wpList_insert rfl rfl 211 3 209 1 _ _ rfl Tryz.underlying211 Tryz.underlying3 _ _ _ rfl (by first | assumption | exact alloc_new _ _) (by rfl) ?_
       intro w' hw' hm')
    | (go_at_call 212; refine (Tryz.poor _ _).mono ?_; rintro e w2 ⟨rfl, hw2⟩; have hm2 := alloc_heap hw2 hm'; have hw3 : Hid (w2 = _) := hw2; clear hw2))
  rename_i wa ha ma wb hb mb wc hc mc wd md hd we he me
  have ba : Below w.heap.size w wa := by
    have h : wa = (w.alloc (.map #[] 0)).putObj w.heap.size _ := ha
    rw [h]
    exact below_put (Nat.le_refl _) ((Below.refl _ w).alloc (Nat.le_refl _) _)
  have bb : Below w.heap.size w wb := by have h : wb = wa.putObj w.heap.size _ := hb; rw [h]; exact below_put (Nat.le_refl _) ba
  have bc : Below w.heap.size w wc := by have h : wc = wb.putObj w.heap.size _ := hc; rw [h]; exact below_put (Nat.le_refl _) bb
  have bd : Below w.heap.size w wd := by have h : wd = wc.alloc _ := hd; rw [h]; exact bc.alloc bc.size _
  have be : Below w.heap.size w we := by have h : we = wd.putObj w.heap.size _ := he; rw [h]; exact below_put (Nat.le_refl _) bd
  have bf : Below w.heap.size w w2 := by have h : w2 = we.alloc _ := hw3; rw [h]; exact be.alloc be.size _
  have bg : Below w.heap.size w w' := by have h : w' = w2.putObj w.heap.size _ := hw'; rw [h]; exact below_put (Nat.le_refl _) bf
  have lt : ∀ {W : World} {x : Obj}, W.heap[w.heap.size]? = some x → w.heap.size < W.heap.size := fun h => (Array.getElem?_eq_some_iff.1 h).1
  have cY1 : wd.heap[wc.heap.size]? = some (.cells #[.int .i64 1] 3) := by have h : wd = wc.alloc _ := hd; rw [h]; exact alloc_new _ _
  have cY2 : we.heap[wc.heap.size]? = some (.cells #[.int .i64 1] 3) := by have h : we = wd.putObj w.heap.size _ := he; rw [h, World.putObj_heap_other (by have := lt mc; omega)]; exact cY1
  have cY3 : w2.heap[wc.heap.size]? = some (.cells #[.int .i64 1] 3) := by have h : w2 = we.alloc _ := hw3; exact alloc_heap h cY2
  have cY4 : w'.heap[wc.heap.size]? = some (.cells #[.int .i64 1] 3) := by have h : w' = w2.putObj w.heap.size _ := hw'; rw [h, World.putObj_heap_other (by have := lt mc; omega)]; exact cY3
  have cZ1 : w2.heap[we.heap.size]? = some (.cells #[.int .i64 8] 3) := by have h : w2 = we.alloc _ := hw3; rw [h]; exact alloc_new _ _
  have cZ2 : w'.heap[we.heap.size]? = some (.cells #[.int .i64 8] 3) := by have h : w' = w2.putObj w.heap.size _ := hw'; rw [h, World.putObj_heap_other (by have := lt me; omega)]; exact cZ1
  go_ret
  exact ⟨w.heap.size, wc.heap.size, we.heap.size, _, _, rfl, bg, hm', bc.size, be.size, by simp [World.cell?, cY4], by simp [World.cell?, cZ2], by rfl⟩
end Go.Proofs

