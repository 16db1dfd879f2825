/- Overrides: contracts of the kit's shelf, said of pure values; slices.Clone, of pure values. -/
import Derived.Test.YtnnindnmpfmaaaaGreatEv3
import Derived.Shelf.SlicesE.Clone
import Derived.Shelf.SlLaysE0
import Derived.Shelf.RegionOpenPlain
import Derived.WalkKit
import Derived.Deep.LoopGhost
import Derived.Lib.Walk
import Derived.Lib.SliceRun
set_option linter.unusedVariables false
set_option linter.unusedSimpArgs false
namespace Go.Pv
open Go Go.RowKit

section
variable {P : Program} {f : FuncId} {args : List PV} {res : PV}

theorem below_newW {w w' : World} (h : Below w.heap.size w w') : NewW w w' := ⟨⟨h.os, h.tape, h.output⟩, h.size, h.block⟩

/-- A function of data that gives data, or an own slice in a new block. -/
theorem callOk_own (hcall : Callable P f)
    (h : ∀ (w : World) (Im : ImT) (vs : Array Value), ImIn w Im → RepArgs w Im [] args vs → Calls P f vs w fun e w' => ∃ v g, ∃ Im' : ImT, e = .returned v ∧ Below w.heap.size w w' ∧ (∀ b o, Im b o → Im' b o) ∧
      (∀ b o, Im' b o → Im b o ∨ (w.heap.size ≤ b ∧ ∃ u, w'.cell? ⟨b, o, none⟩ = some u)) ∧ RepP w' Im' [] res v ∧ w.heap.size ≤ g ∧
      (g < w'.heap.size ∨ ∀ rows, res ≠ .os rows) ∧ OwnP w' Im' (fun b => if b = g then some (.slot 0) else none) (.slot 0) res v) : CallOk P f args [] res [] := by
  refine ⟨hcall, fun w Im O β vs hg hO hargs => ?_⟩
  have hβ : β = [] := List.eq_nil_of_length_eq_zero (by rw [hg.len]; rfl)
  subst hβ
  refine (h w Im vs hg.im hargs).mono ?_
  rintro e w' ⟨v, g, Im', rfl, hb, him, hnew, hrep, hge, hlt, hown⟩
  have hn := below_newW hb
  obtain ⟨g1, g2, _⟩ := hg.newW hn him hnew
  rcases hlt with hlt | hno
  · have hOn : O g = none := by
      cases hO : O g with
      | none => rfl
      | some l => exact absurd (hg.lim _ (by rw [hO]; simp)) (by omega)
    refine ⟨v, Im', fun b => if b = g then some (.slot 0) else O b, [], 0, rfl, ⟨g2.env, g2.size, g2.same, g2.keep, g2.new, fun b hb ho => ?_⟩, .refl _, ⟨g1.len, by simp, g1.im, ?_, ?_⟩, hrep, ?_⟩
    · show (if b = g then some (Loc.slot 0) else O b) = none
      rw [if_neg (by omega)]; exact ho
    · intro b o hb id ho
      replace ho : (if b = g then some (Loc.slot 0) else O b) = some (.box id) := ho
      split at ho
      · cases ho
      · exact g1.box' b o hb id ho
    · intro b hb
      replace hb : (if b = g then some (Loc.slot 0) else O b) ≠ none := hb
      split at hb
      · rename_i h; rw [h]; exact hlt
      · exact g1.lim b hb
    · refine hown.mono fun b hb => ⟨?_, rfl, fun _ h => h⟩
      split at hb
      · rename_i h
        show (if b = g then some (Loc.slot 0) else O b) = _
        rw [if_pos h]
      · cases hb
  · exact ⟨v, Im', O, [], 0, rfl, g2, .refl _, g1, hrep, .of_not hno⟩

/-- A function of data that gives data. -/
theorem callOk_data (hcall : Callable P f) (hr : ∀ rows, res ≠ .os rows)
    (h : ∀ (w : World) (Im : ImT) (vs : Array Value), ImIn w Im → RepArgs w Im [] args vs → Calls P f vs w fun e w' => ∃ v, ∃ Im' : ImT, e = .returned v ∧ Below w.heap.size w w' ∧ (∀ b o, Im b o → Im' b o) ∧
      (∀ b o, Im' b o → Im b o ∨ (w.heap.size ≤ b ∧ ∃ u, w'.cell? ⟨b, o, none⟩ = some u)) ∧ RepP w' Im' [] res v) : CallOk P f args [] res [] :=
  callOk_own hcall fun w Im vs h1 h2 => (h w Im vs h1 h2).mono fun e w' ⟨v, Im', k1, k2, k3, k4, k5⟩ => ⟨v, w.heap.size, Im', k1, k2, k3, k4, k5, Nat.le_refl _, .inr hr, .of_not hr⟩

end

/-- What a row that the call owns says of pure values. -/
theorem ownsRow_rep {w w' : World} {Im : ImT} {e : TypeId} {size : Nat} {v : Value} {rows : List (List DV)} {news : List Value} (hin : ImIn w Im) (hb : Below w.heap.size w w') (hsz : 0 < size) (hl : ∀ r ∈ rows, r.length = size)
    (hrow : w'.ownsRow w.heap.size e size v rows.length news) (hrep : ∀ i j r d, rows[i]? = some r → r[j]? = some d → ∃ u, news[i * size + j]? = some u ∧ RepD w Im d u) :
    ∃ g, ∃ Im' : ImT, (∀ b o, Im b o → Im' b o) ∧ (∀ b o, Im' b o → Im b o ∨ (w.heap.size ≤ b ∧ ∃ u, w'.cell? ⟨b, o, none⟩ = some u)) ∧ RepD w' Im' (.slice rows) v ∧ w.heap.size ≤ g ∧
      (rows ≠ [] → g < w'.heap.size ∧ OwnP w' Im' (fun b => if b = g then some (.slot 0) else none) (.slot 0) (.os rows) v) := by
  obtain ⟨h1, h2⟩ := hrow
  have hkeep : ∀ Im' : ImT, (∀ b o, Im b o → Im' b o) → Keep w Im w' Im' := fun Im' h b o hb' => ⟨h b o hb', cell_congr (hb.block b (hin.lt hb'))⟩
  rcases h2 with ⟨rfl, h0⟩ | ⟨g, cap, cur, rfl, hge, hobj, hcap, hmax, hcs, htk⟩
  · have : rows = [] := List.eq_nil_of_length_eq_zero h0
    subst this
    exact ⟨w.heap.size, Im, fun _ _ h => h, fun _ _ h => .inl h, .nil, Nat.le_refl _, fun h => absurd rfl h⟩
  · have hglt : g < w'.heap.size := (Array.getElem?_eq_some_iff.1 hobj).1
    have hcell : ∀ j, j < rows.length * size → w'.cell? ⟨g, 0 + j, none⟩ = some (news.getD j default) := by
      intro j hj
      have hle : rows.length * size ≤ cap * size := Nat.mul_le_mul_right _ hcap
      have hg' : news[j]? = cur.toList[j]? := by rw [← htk, List.getElem?_take]; simp [hj]
      have hjc : j < cur.size := by omega
      rw [List.getD_eq_getElem?_getD, hg']
      simp [World.cell?, hobj, hjc]
    refine ⟨g, fun b o => Im b o ∨ (b = g ∧ o < rows.length * size), fun _ _ h => .inl h, ?_, ?_, hge, ?_⟩
    · rintro b o (h | ⟨rfl, h⟩)
      · exact .inl h
      · exact .inr ⟨hge, _, by simpa using hcell o h⟩
    · refine .slice rows ⟨g, 0, none⟩ cap size (fun j => news.getD j default) hl hcap (fun _ => rfl) (fun j hj => hcell j hj) (fun j hj => .inr ⟨rfl, by simpa using hj⟩) ?_
      intro i j r d hi hj
      obtain ⟨u, hu, hd⟩ := hrep i j r d hi hj
      rw [List.getD_eq_getElem?_getD, hu]
      exact hd.keep (hkeep _ fun _ _ h => .inl h)
    · intro hne
      refine ⟨hglt, fun rows' hr => ?_⟩
      cases hr
      refine .inr ⟨⟨g, 0, none⟩, rows.length, cap, size, cur, e, rfl, rfl, by simp, hobj, hne, hl, by simp; omega, ?_⟩
      rintro o (ho | ⟨_, ho⟩)
      · exact absurd (hin.lt ho) (by simp; omega)
      · simpa using ho

/-- Rows in cells of a new block. -/
theorem cells_rep {w w' : World} {Im : ImT} {size g cap : Nat} {rows : List (List DV)} {news : List Value} (hin : ImIn w Im) (hb : Below w.heap.size w w') (hge : w.heap.size ≤ g) (hl : ∀ r ∈ rows, r.length = size) (hcap : rows.length ≤ cap)
    (hcell : ∀ j u, j < rows.length * size → news[j]? = some u → w'.cell? ⟨g, j, none⟩ = some u) (hlen : rows.length * size ≤ news.length) (hrep : ∀ i j r d, rows[i]? = some r → r[j]? = some d → ∃ u, news[i * size + j]? = some u ∧ RepD w Im d u) :
    ∃ Im' : ImT, (∀ b o, Im b o → Im' b o) ∧ (∀ b o, Im' b o → Im b o ∨ (w.heap.size ≤ b ∧ ∃ u, w'.cell? ⟨b, o, none⟩ = some u)) ∧ RepD w' Im' (.slice rows) (.slice (some ⟨g, 0, none⟩) rows.length cap) := by
  have hkeep : ∀ Im' : ImT, (∀ b o, Im b o → Im' b o) → Keep w Im w' Im' := fun Im' h b o hb' => ⟨h b o hb', cell_congr (hb.block b (hin.lt hb'))⟩
  have hcell' : ∀ j, j < rows.length * size → w'.cell? ⟨g, 0 + j, none⟩ = some (news.getD j default) := by
    intro j hj
    rw [Nat.zero_add]
    refine hcell j _ hj ?_
    rw [List.getD_eq_getElem?_getD, List.getElem?_eq_getElem (by omega)]
    rfl
  refine ⟨fun b o => Im b o ∨ (b = g ∧ o < rows.length * size), fun _ _ h => .inl h, ?_, ?_⟩
  · rintro b o (h | ⟨rfl, h⟩)
    · exact .inl h
    · exact .inr ⟨hge, _, by simpa using hcell' o h⟩
  · refine .slice rows ⟨g, 0, none⟩ cap size (fun j => news.getD j default) hl hcap (fun _ => rfl) (fun j hj => hcell' j hj) (fun j hj => .inr ⟨rfl, by simpa using hj⟩) ?_
    intro i j r d hi hj
    obtain ⟨u, hu, hd⟩ := hrep i j r d hi hj
    rw [List.getD_eq_getElem?_getD, hu]
    exact hd.keep (hkeep _ fun _ _ h => .inl h)

end Go.Pv

set_option linter.unusedVariables false
set_option linter.unusedSimpArgs false
namespace Go.Proofs
open Go.Shelf Go.RowKit Go.Lib Go.Pv
variable {P : Program} {ρ : Ren}

set_option maxHeartbeats 1000000 in
/-- slices.Clone of an empty slice that is not nil. -/
theorem clone_zero (L : SlLaysE0.n41 P ρ) (i0 : TypeInfo) (hi : P.info? (ρ.t 23) = some i0) (size : Nat) (z23 : ∀ w, (Go.sizeOf (ρ.t 23)).run P w = .ok size w) (a : Addr) (c : Nat) (w : World) :
    Calls P (ρ.f 41) #[.slice (some a) 0 c] w fun e w' => (∃ x, e = .returned (.slice x 0 0)) ∧ Below w.heap.size w w' := by
  have mixed := L.mixed; have t4 := L.t4; have a4 := L.a4; have z4 := L.z4; have v4 := L.v4; have t22 := L.t22; have a22 := L.a22; have z22 := L.z22; have v22 := L.v22
  have q22 : ∀ (w : World) (a : Option Addr) (n c n' c' : Nat), (binOp .eql (ρ.t 22) (.slice a n c) (.slice none n' c')).run P w = .ok (.bool a.isNone) w := fun w a n c n' c' => Lib.run_eql_slice_nil w _ _ a n c n' c' L.t22
  have u22 : ∀ w, Sem.run P (underlying (ρ.t 22)) w = .ok (TypeDesc.slice (ρ.t 23)) w := run_underlying t22
  obtain ⟨_, _, FG⟩ := L.f41
  go_enter FG, SlBodyN.n41_ntmps ρ
  have happ : ∀ (w : World) (g : Addr) (ty : TypeId), (Builtin.append_ #[ρ.t 22, ρ.t 22] ty #[.slice (some g) 0 0, .slice (some a) 0 c]).run P w = .ok (.slice (some g) 0 0) w := by
    intro w g ty
    simp [Builtin.append_, run_underlying t22, sizeOf, typeInfo, hi, Builtin.lenOf, Builtin.firstCells, storeCells, loadCells, loadCellsFrom]
  go_wp2
  go_ret
  exact ⟨⟨_, rfl⟩, (Below.refl _ w).alloc (Nat.le_refl _) _⟩

set_option maxHeartbeats 1000000 in
/-- slices.Clone: an own slice of the same rows. -/
theorem clone_ok (L : SlLaysE0.n41 P ρ) (i0 : TypeInfo) (z : Value) (size bytes : Nat) (hi : P.info? (ρ.t 23) = some i0) (hz0 : i0.zero = some z) (hz1 : i0.size = size) (hz2 : i0.bytes = bytes) (hzs : z.cells.size = size) (hsz : 0 < size)
    (z23 : ∀ w, (Go.sizeOf (ρ.t 23)).run P w = .ok size w) (rows : List (List DV)) (hok : rowsOk size rows = true) (hroom : rows.length * bytes ≤ roomB) (hmax : rows.length ≤ maxLen) :
    CallOk P (ρ.f 41) [.d (.slice rows)] [] (acc rows) [] := by
  have hcall : Callable P (ρ.f 41) := by
    obtain ⟨nm, h1, FG⟩ := L.f41
    exact ⟨_, FG, rfl, by simpa using h1⟩
  refine callOk_own hcall fun w Im vs hin hargs => ?_
  obtain ⟨hl, hr⟩ := hargs
  obtain ⟨v, rfl⟩ : ∃ v, vs = #[v] := by
    match vs, hl with
    | ⟨[v]⟩, _ => exact ⟨v, rfl⟩
  obtain ⟨hv, _⟩ := hr 0 _ v rfl rfl
  obtain ⟨hd⟩ : Nonempty (RepD w Im (.slice rows) v) := by cases hv with | d h => exact ⟨h⟩
  by_cases hne : rows = []
  · subst hne
    have key : Calls P (ρ.f 41) #[v] w fun e w' => (∃ x, e = .returned (.slice x 0 0)) ∧ Below w.heap.size w w' := by
      cases hd with
      | nil => exact (AnyE.slices_Clone_nil L 0 0 w).mono fun e w' ⟨h1, h2⟩ => ⟨⟨none, h1⟩, by rw [h2]; exact Below.refl _ w⟩
      | slice _ a c sz cv h1 h2 h3 h4 h5 h6 => exact clone_zero L i0 hi size z23 a c w
    refine key.mono ?_
    rintro e w' ⟨⟨x, rfl⟩, hb⟩
    exact ⟨_, w.heap.size, Im, rfl, hb, fun _ _ h => h, fun _ _ h => .inl h, .e0 x, Nat.le_refl _, .inr (by simp [acc]), .of_not (by simp [acc])⟩
  · cases hd with
    | nil => exact absurd rfl hne
    | slice _ a c sz cv h1 h2 h3 h4 h5 h6 =>
      have hd : RepD w Im (.slice rows) (.slice (some a) rows.length c) := .slice rows a c sz cv h1 h2 h3 h4 h5 h6
      obtain ⟨_, k2, _, news, n1, n2, n3, n4, n5, n6⟩ := rows_values hd hok
      have hpos : 0 < rows.length := List.length_pos_iff.2 hne
      have hspot : a.spot = none := n3 a rfl (Nat.mul_ne_zero (by omega) (by omega))
      obtain ⟨b, off, sp⟩ := a
      simp only at hspot
      subst hspot
      refine (AnyE.slices_Clone L i0 z size bytes hi hz0 hz1 hz2 hzs hsz z23 b off rows.length c news w n1 hmax (by simp only [roomB] at hroom; omega) (fun j u hu => by have := n2 _ rfl j u hu; rwa [Addr.add_none rfl] at this) n6).mono ?_
      rintro e w' ⟨v', rfl, hrow, _, hb⟩
      obtain ⟨g, Im', q1, q2, q3, q4, q5⟩ := ownsRow_rep hin hb hsz (rowsOk_len hok) hrow n5
      have ha : acc rows = .os rows := by cases rows with | nil => exact absurd rfl hne | cons _ _ => rfl
      rw [ha]
      exact ⟨v', g, Im', rfl, hb, q1, q2, .os q3, q4, .inl (q5 hne).1, (q5 hne).2⟩

end Go.Proofs

