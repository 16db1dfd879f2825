/- Which of the seat's functions are run, which touch no box, which only read; Overrides of the seat of nodes: slices.Clone, node.without. -/
import Derived.Test.YtnnindnmpfmaaaaGreatEv6
import Derived.Test.YtnnindnmpfmaaaaGreatChecked
set_option linter.unusedVariables false
namespace Go.Proofs
open Go.Pv

def nFn : Nat := 242
def goodF (f : FuncId) : Bool := decide (f < nFn) && true
def pureF (f : FuncId) : Bool := !([66, 67, 68, 70, 71, 73, 74, 75, 78, 79, 94, 95, 102, 106, 117, 119, 150, 151, 153, 155, 168, 169, 170, 171, 172, 176, 182, 183, 185, 192, 194, 195, 196, 198, 203, 205, 206, 207, 208, 209, 210, 211, 212, 214, 215, 216, 218, 220, 221, 222, 223] : List Nat).contains f
def roF (f : FuncId) : Bool := ([67, 71, 73, 75, 78, 172] : List Nat).contains f
@[simp] def apF (p : String) (n : Nat) : List (Nat × Nat) := if p = "node.go:119" then [(5, 2)] else if p = "ref.go:133" then (if n = 5 then [(5, 2)] else []) else if p = "net.go:79" then (if n = 4 then [(13, 6)] else []) else if p = "ref.go:88" then (if n = 7 then [(10, 6)] else []) else if (p = "law.go:103" ∨ p = "law.go:114" ∨ p = "law.go:122" ∨ p = "law.go:128" ∨ p = "law.go:131") then (if n = 5 then [(4, 6)] else []) else []
@[simp] def altF (p : String) (n : Nat) : Option (List Nat × Nat × Nat) :=
  if p = "arb.go:28" then (if n = 9 then some ([0, 1, 3, 4, 5, 2, 6, 7, 8], 2, 5) else none) else if p = "top14.go:159" then some ([0, 1, 2, 3, 4, 5, 6, 7, 8, 9, 11, 10, 12, 13], 10, 11) else if p = "law.go:281" then some ([0, 1, 2, 3, 4, 5, 6, 7, 8, 9, 10, 11, 13, 12, 14, 15], 12, 13) else none
/-- What is made and never written, or appended to nothing and written then. -/
def mkF (f : FuncId) : List Nat :=
  if f = 17 then [53] else
  if f = 7 then [57] else
  if f = 96 then [32, 34] else if f = 101 then [36] else
  if f = 111 then [30, 32] else if f = 164 then [59] else if f = 202 then [11] else if f = 161 then [11] else if f = 162 then [10] else
  if f = 11 then [41, 128, 203] else
  []
def wildF (f : FuncId) : Bool :=
  ([99, 104, 153, 100] : List Nat).contains f ||
  !(mkF f).isEmpty
theorem goodF_lt (f : FuncId) (h : goodF f = true) : f < nFn := by
  unfold goodF at h
  simp only [Bool.and_eq_true, decide_eq_true_eq] at h
  exact h.1
end Go.Proofs

set_option maxRecDepth 100000
set_option linter.unusedVariables false
set_option linter.unusedSimpArgs false
namespace Go.Proofs
open Go.Shelf Go.RowKit Go.Lib Go.Pv

def renF : Ren := { f := fun n => if n = 41 then 175 else if n = 45 then 197 else n, t := fun n => if n = 23 then 34 else if n = 22 then 44 else if n = 0 then 0 else if n = 3 then 3 else if n = 4 then 4 else n, g := id }
def renT : Ren := { f := fun n => if n = 41 then 126 else n, t := fun n => if n = 23 then 140 else if n = 22 then 45 else if n = 4 then 4 else n, g := id }

theorem Tryz.mixed : Tryz.prog.follows .mixedOrders = true := by kernel_rfl

theorem Tryz.laysCF : SlLaysE0.n41 Tryz.prog renF where
  mixed := Tryz.mixed
  f41 := ⟨"slices.Clone[[]phaeton/api.Frame,phaeton/api.Frame]", by decide, by kernel_rfl⟩
  t4 := Tryz.underlying4
  a4 := Tryz.isAgg4
  z4 := Tryz.sizeOf4
  v4 := Tryz.zeroValue4
  t22 := Tryz.underlying44
  a22 := Tryz.isAgg44
  z22 := Tryz.sizeOf44
  v22 := Tryz.zeroValue44

theorem Tryz.laysDF : SlLaysE0.n45 Tryz.prog renF where
  mixed := Tryz.mixed
  f45 := ⟨"slices.Delete[[]phaeton/api.Frame,phaeton/api.Frame]", by decide, by kernel_rfl⟩
  t0 := Tryz.underlying0
  a0 := Tryz.isAgg0
  z0 := Tryz.sizeOf0
  v0 := Tryz.zeroValue0
  t3 := Tryz.underlying3
  a3 := Tryz.isAgg3
  z3 := Tryz.sizeOf3
  v3 := Tryz.zeroValue3
  t4 := Tryz.underlying4
  a4 := Tryz.isAgg4
  z4 := Tryz.sizeOf4
  v4 := Tryz.zeroValue4
  t22 := Tryz.underlying44
  a22 := Tryz.isAgg44
  z22 := Tryz.sizeOf44
  v22 := Tryz.zeroValue44

theorem Tryz.laysCT : SlLaysE0.n41 Tryz.prog renT where
  mixed := Tryz.mixed
  f41 := ⟨"slices.Clone[[]phaeton/api.Filter,phaeton/api.Filter]", by decide, by kernel_rfl⟩
  t4 := Tryz.underlying4
  a4 := Tryz.isAgg4
  z4 := Tryz.sizeOf4
  v4 := Tryz.zeroValue4
  t22 := Tryz.underlying45
  a22 := Tryz.isAgg45
  z22 := Tryz.sizeOf45
  v22 := Tryz.zeroValue45

theorem info_parts3 {P : Program} {t : TypeId} {z : Value} {s b : Nat} (h : (P.info? t).map (fun i => (i.zero, i.size, i.bytes)) = some (some z, s, b)) : ∃ i, P.info? t = some i ∧ i.zero = some z ∧ i.size = s ∧ i.bytes = b := by
  cases hi : P.info? t with
  | none => rw [hi] at h; cases h
  | some i => rw [hi] at h; simp at h; exact ⟨i, rfl, h.1, h.2.1, h.2.2⟩

theorem Tryz.infoF : (Tryz.prog.info? 34).map (fun i => (i.zero, i.size, i.bytes)) = some (some (.agg #[.bool false, .int .i64 0, .bool false, .int .i64 0, .slice none 0 0]), 5, 56) := by kernel_rfl
theorem Tryz.infoT : (Tryz.prog.info? 140).map (fun i => (i.zero, i.size, i.bytes)) = some (some (.agg #[.bool false, .int .i64 0, .int .i64 0]), 3, 24) := by kernel_rfl

theorem Tryz.cloneF (rows : List (List DV)) (hok : rowsOk 5 rows = true) (hroom : rows.length * 56 ≤ roomB) : CallOk Tryz.prog 175 [.d (.slice rows)] [] (acc rows) [] := by
  obtain ⟨i, h1, h2, h3, h4⟩ := info_parts3 Tryz.infoF
  exact clone_ok Tryz.laysCF i _ 5 56 h1 h2 h3 h4 (by rfl) (by decide) Tryz.sizeOf34 rows hok hroom (by simp only [roomB] at hroom; simp only [maxLen]; omega)

theorem Tryz.cloneT (rows : List (List DV)) (hok : rowsOk 3 rows = true) (hroom : rows.length * 24 ≤ roomB) : CallOk Tryz.prog 126 [.d (.slice rows)] [] (acc rows) [] := by
  obtain ⟨i, h1, h2, h3, h4⟩ := info_parts3 Tryz.infoT
  exact clone_ok Tryz.laysCT i _ 3 24 h1 h2 h3 h4 (by rfl) (by decide) Tryz.sizeOf140 rows hok hroom (by simp only [roomB] at hroom; simp only [maxLen]; omega)

set_option maxHeartbeats 1000000 in
theorem Tryz.withoutF (rows : List (List DV)) (i : Nat) (hok : rowsOk 5 rows = true) (hroom : rows.length * 56 ≤ roomB) (hi : i < rows.length) :
    CallOk Tryz.prog 144 [.d (.slice rows), .d (.int .i64 i)] [] (.d (.slice (rows.eraseIdx i))) [] := by
  refine callOk_data ⟨_, Tryz.func144, rfl, by decide⟩ (by simp) fun w Im vs hin hargs => ?_
  obtain ⟨hl, hr⟩ := hargs
  obtain ⟨v, u, rfl⟩ : ∃ v u, vs = #[v, u] := by
    match vs, hl with
    | ⟨[v, u]⟩, _ => exact ⟨v, u, rfl⟩
  obtain ⟨hv, _⟩ := hr 0 _ v rfl rfl
  obtain ⟨hu, _⟩ := hr 1 _ u rfl rfl
  obtain rfl : u = .int .i64 i := by cases hu with | d h => cases h; rfl
  obtain ⟨hd⟩ : Nonempty (RepD w Im (.slice rows) v) := by cases hv with | d h => exact ⟨h⟩
  have hne : rows ≠ [] := by intro h; subst h; simp at hi
  cases hd with
  | nil => exact absurd rfl hne
  | slice _ a c sz cv h1 h2 h3 h4 h5 h6 =>
    have hd : RepD w Im (.slice rows) (.slice (some a) rows.length c) := .slice rows a c sz cv h1 h2 h3 h4 h5 h6
    obtain ⟨_, k2, _, news, n1, n2, n3, n4, n5, n6⟩ := rows_values hd hok
    have hpos : 0 < rows.length := List.length_pos_iff.2 hne
    have hspot : a.spot = none := n3 a rfl (Nat.mul_ne_zero (by omega) (by omega))
    obtain ⟨b, off, sp⟩ := a
    simp only at hspot
    subst hspot
    obtain ⟨inf, i1, i2, i3, i4⟩ := info_parts3 Tryz.infoF
    have hmax : rows.length ≤ maxLen := by simp only [roomB] at hroom; simp only [maxLen]; omega
    have hclone := AnyE.slices_Clone Tryz.laysCF inf _ 5 56 i1 i2 i3 i4 rfl (by decide) Tryz.sizeOf34 b off rows.length c news w n1 hmax (by simp only [roomB] at hroom; omega) (fun j u hu => by have := n2 _ rfl j u hu; rwa [Addr.add_none rfl] at this) n6
    change Calls Tryz.prog 175 _ _ _ at hclone
    have hdel : ∀ (w1 : World) (g cap : Nat) (cur : Array Value), w1.heap[g]? = some (.cells cur 34 (0, 0)) → rows.length ≤ cap → cap ≤ maxLen → cur.size = cap * 5 → cur.toList.take (rows.length * 5) = news →
        Calls Tryz.prog 197 #[.slice (some ⟨g, 0, none⟩) rows.length cap, .int .i64 i, .int .i64 (i + 1)] w1 fun e w' => e = .returned (.slice (some ⟨g, 0, none⟩) (rows.length - 1) cap) ∧
          ∃ zc, zc.length = 5 ∧ w' = (w1.drew.setCells g (i * 5) (news.drop ((i + 1) * 5))).setCells g ((rows.length - 1) * 5) zc := by
      intro w1 g cap cur hobj hcap hm hcs htk
      have hle : rows.length * 5 ≤ cap * 5 := Nat.mul_le_mul_right _ hcap
      have := delete_one Tryz.laysDF 5 (by decide) inf i1 i3 _ Tryz.zeroValue34 rfl (fun u hu => List.all_eq_true.1 (show (Builtin.zeroCells (Value.agg #[Value.bool false, Value.int IntKind.i64 0, Value.bool false, Value.int IntKind.i64 0, Value.slice none 0 0]).cells 1).toList.all (·.oneCell') = true by kernel_rfl) u hu) Tryz.sizeOf34 g cap rows.length i (i + 1) news w1 n1
        (fun j u hu => by
          rw [← htk, List.getElem?_take] at hu
          split at hu
          · simp only [World.cell?, hobj]
            simpa using hu
          · cases hu)
        (fun j hj => by simp [World.frozen?, hobj])
        n6 hcap hm rfl hi
      change Calls Tryz.prog 197 _ _ _ at this
      simpa using this
    have Hok : Hid (rowsOk 5 rows = true) := hok
    clear hok hroom hl hr hv hu hd h1 h2 h3 h4 h5 h6 n2 n3 n4 i1 i2 i3 i4
    go_enter Tryz.func144, Tryz.ntmps144
    go_wp2_with (go_at_call 175; refine hclone.mono ?_; rintro e w1 ⟨v1, rfl, hown, hnn, hbel⟩)
    obtain ⟨hlen', (⟨_, h0⟩ | ⟨g, cap, cur, rfl, hge, hobj, hcap, hmax', hcs, htk⟩)⟩ := hown
    · exact absurd h0 (by omega)
    rw [show wrap64 ((i : Int) + 1) = (i : Int) + 1 by unfold wrap64; simp only [maxLen] at hmax; omega]
    refine (hdel w1 g cap cur hobj hcap hmax' hcs htk).mono ?_
    rintro e w2 ⟨rfl, zc, hzc, rfl⟩
    go_wp2
    go_ret
    have hlt5 : (i + 1) * 5 ≤ rows.length * 5 := by omega
    have hln : (rows.eraseIdx i).length = rows.length - 1 := List.length_eraseIdx_of_lt hi
    have hb2 : Below w.heap.size w ((w1.drew.setCells g (i * 5) (news.drop ((i + 1) * 5))).setCells g ((rows.length - 1) * 5) zc) :=
      below_setCells hge _ _ _ (below_setCells hge _ _ _ (by exact hbel.drew))
    have hsome : ∀ j, j < rows.length * 5 → w1.cell? ⟨g, j, none⟩ = news[j]? := by
      intro j hj
      rw [← htk, List.getElem?_take, if_pos hj]
      simp [World.cell?, hobj]
    obtain ⟨Im', q1, q2, q3⟩ := cells_rep (news := news.take (i * 5) ++ news.drop ((i + 1) * 5)) (g := g) (cap := cap) (rows := rows.eraseIdx i) (size := 5) hin hb2 hge
      (fun r hr => rowsOk_len Hok.out r (List.mem_of_mem_eraseIdx hr)) (by omega)
      (fun j u hj hu => by
        rw [hln] at hj
        rw [World.cell?_setCells_out _ _ _ _ _ (fun _ _ => .inl (by simp; omega))]
        by_cases hji : j < i * 5
        · rw [World.cell?_setCells_out _ _ _ _ _ (fun _ _ => .inl (by simpa using hji))]
          show w1.cell? _ = _
          rw [hsome j (by omega)]
          rw [List.getElem?_append_left (by simp; omega), List.getElem?_take, if_pos hji] at hu
          exact hu
        · have hd : (news.drop ((i + 1) * 5)).length = rows.length * 5 - (i + 1) * 5 := by simp [n1]
          have hin2 := World.cell?_setCells_in g (news.drop ((i + 1) * 5)) (i * 5) w1.drew (fun t ht => by
            show (w1.cell? _).isSome = true
            rw [hsome _ (by omega), List.getElem?_eq_getElem (by omega)]; rfl) (j - i * 5) (by omega)
          rw [show i * 5 + (j - i * 5) = j by omega] at hin2
          rw [hin2]
          rw [List.getElem?_append_right (by simp; omega)] at hu
          rw [← hu, List.length_take, show min (i * 5) news.length = i * 5 by omega, List.getElem?_eq_getElem (by omega)])
      (by rw [hln]; simp [n1]; omega)
      (fun a b r d ha hb => by
        rw [List.getElem?_eraseIdx] at ha
        have hr5 : r.length = 5 := by
          split at ha <;> exact rowsOk_len Hok.out r (List.mem_of_getElem? ha)
        have hb5 : b < 5 := by rw [← hr5]; exact (List.getElem?_eq_some_iff.1 hb).1
        split at ha
        · rename_i hai
          obtain ⟨u, g1, g2⟩ := n5 a b r d ha hb
          refine ⟨u, ?_, g2⟩
          rw [List.getElem?_append_left (by simp; omega), List.getElem?_take, if_pos (by omega)]
          exact g1
        · rename_i hai
          obtain ⟨u, g1, g2⟩ := n5 (a + 1) b r d ha hb
          refine ⟨u, ?_, g2⟩
          rw [List.getElem?_append_right (by simp; omega), List.length_take, show min (i * 5) news.length = i * 5 by omega, List.getElem?_drop, ← g1]
          congr 1
          omega)
    rw [hln] at q3
    exact ⟨_, Im', rfl, hb2, q1, q2, .d q3⟩
end Go.Proofs

