/- Rows of nodes searched; a net's row that is wrong; A gateway, and a net, made by the code; A row with another thing at a place; a net made by the code; A net made by the code. -/
import Derived.Test.YtnnindnmpfmaaaaGreatPa
import Derived.Test.YtnnindnmpfmaaaaGreatNk2
import Derived.Test.YtnnindnmpfmaaaaGreatOr
set_option linter.unusedVariables false
set_option linter.unusedSimpArgs false
set_option maxRecDepth 100000
set_option maxHeartbeats 8000000
namespace Go.Proofs
open Go.RowKit Go.Shelf Go.Pv

/-- A bus, as an element. -/
structure Rw where
  l : List Nd
@[simp] def Rw.D (r : Rw) : List DV := [.slice (r.l.map Nd.D)]
@[simp] def Rw.P (r : Rw) : PV := .d (.slice (r.l.map Nd.D))
theorem rw_map (l : List (List Nd)) : (l.map Rw.mk).map Rw.D = l.map ndsD := by simp [ndsD, Function.comp_def]

theorem l_idxNd (m g : Nat) (caps : List PV) (p : Nd → Bool) (l : List Nd) (hl : l.length ≤ 1000000) (σ : Store) (hp : ∀ x ∈ l, callIt E1 (evI E1) g ([x.P] ++ caps.map PV.strip) σ = some (.d (.bool (p x)), σ))
    (S : List PV) (hS : S.length = 19) (h0 : rd S 0 = .d (.slice (l.map Nd.D))) (h1 : rd S 1 = .func (.func g) [] caps) (h7 : rd S 7 = .d (.int .i64 l.length)) (h8 : rd S 8 = .d (.int .i64 0)) (k : Nat) (hk : l.length < k) :
    Lp (loopN (evCode E1 (evI E1) m (theLoop Tryz.f150 0)) k ⟨S, σ⟩) fun r => ∃ S' : List PV, S'.length = 19 ∧ ((r = (.exit 0, ⟨S', σ⟩) ∧ idx p l 0 = -1) ∨ (r = (.ret, ⟨S', σ⟩) ∧ rd S' 4 = .d (.int .i64 (idx p l 0)))) := by
  refine loop_inv (fun i st => ∃ S : List PV, st = ⟨S, σ⟩ ∧ S.length = 19 ∧ idx p l 0 = idx p (l.drop i) i ∧ rd S 0 = .d (.slice (l.map Nd.D)) ∧ rd S 1 = .func (.func g) [] caps ∧ rd S 7 = .d (.int .i64 l.length) ∧ rd S 8 = .d (.int .i64 i)) _ l.length ?_ ?_ k 0 _ (by omega) (by omega) ⟨S, rfl, hS, rfl, h0, h1, h7, h8⟩
  · rintro i st hi ⟨S, rfl, hS, he, h0, h1, h7, h8⟩
    have hd : l.drop i = l[i] :: l.drop (i + 1) := List.drop_eq_getElem_cons hi
    rw [hd] at he
    have hpx := hp l[i] (List.getElem_mem hi)
    have hx : (l.map Nd.D)[i]? = some (l[i]).D := by simp [hi]
    generalize l[i] = x at he hpx hx
    have hlt : (i : Int) < (l.length : Int) := by omega
    generalize l.map Nd.D = L at hx h0 ⊢
    obtain ⟨hi0, hx⟩ := List.getElem?_eq_some_iff.1 hx
    simp only [Nd.D] at hx
    generalize idx p l 0 = z at he ⊢
    have hw := wrap_succ i (by omega)
    simp only [idx] at he
    simp at hpx
    cases hb : p x
    · rw [hb] at hpx he
      simp only [Bool.false_eq_true, if_false] at he
      simp [theLoop, Tryz.f150, loopsAll, Lp_some, and_assoc, -rd, rd_set, hS, h0, h1, h7, h8, hlt, hi0, hx, hpx, hw]
      exact he
    · rw [hb] at hpx he
      simp only [if_true] at he
      subst he
      simp [theLoop, Tryz.f150, loopsAll, Lp_some, and_assoc, -rd, rd_set, hS, h0, h1, h7, h8, hlt, hi0, hx, hpx, hw]
      exact ⟨_, by simp [hS], rfl, by simp [-rd, rd_set, hS]⟩
  · rintro st ⟨S, rfl, hS, he, h0, h1, h7, h8⟩
    rw [List.drop_eq_nil_of_le (by omega)] at he
    simp only [idx] at he
    generalize idx p l 0 = z at he ⊢
    simp [theLoop, Tryz.f150, loopsAll, Lp_some, and_assoc, -rd, rd_set, hS, h0, h1, h7, h8]
    exact ⟨_, by simp [hS], rfl, he⟩

theorem b_idxNd (g : Nat) (caps : List PV) (p : Nd → Bool) (l : List Nd) (hl : l.length ≤ 1000000) (σ : Store) (hp : ∀ x ∈ l, callIt E1 (evI E1) g ([x.P] ++ caps.map PV.strip) σ = some (.d (.bool (p x)), σ)) :
    callIt E1 (evI E1) 150 [.d (.slice (l.map Nd.D)), .func (.func g) [] caps] σ = some (.d (.int .i64 (idx p l 0)), σ) := by
  refine call_np (σ' := σ) rfl rfl rfl ?_ rfl rfl (by simp)
  refine evI_run (fn := Tryz.f150) (l.length + 1) rfl Tryz.func150 rfl ?_
  have hloop := l_idxNd (l.length + 1) g caps p l hl σ hp
  have hml : (l.map Nd.D).length = l.length := by simp
  generalize idx p l 0 = z at hloop ⊢
  generalize l.map Nd.D = L at hloop hml ⊢
  simp [Tryz.f150, ec_loop, hml]
  generalize hLL : loopN _ _ _ = LL
  obtain ⟨r, rfl, S, hS, h⟩ := at_loop hLL (hloop _ rfl rfl rfl rfl rfl (l.length + 1) (by omega))
  rcases h with ⟨rfl, h⟩ | ⟨rfl, h4⟩
  · simp [-rd, rd_set, hS, h]
  · have h4' := rd_el h4 (by omega)
    simp [-rd, rd_set, hS, h4, h4']

theorem b_containsNd (g : Nat) (caps : List PV) (p : Nd → Bool) (l : List Nd) (hl : l.length ≤ 1000000) (σ : Store) (hp : ∀ x ∈ l, callIt E1 (evI E1) g ([x.P] ++ caps.map PV.strip) σ = some (.d (.bool (p x)), σ)) :
    callIt E1 (evI E1) 94 [.d (.slice (l.map Nd.D)), .func (.func g) [] caps] σ = some (.d (.bool (l.any p)), σ) := by
  refine call_np (σ' := σ) rfl rfl rfl ?_ rfl rfl (by simp)
  refine evI_run (fn := Tryz.f94) 5 rfl Tryz.func94 rfl ?_
  have h1 := b_idxNd g caps p l hl σ hp
  have h2 := idx_any p l 0
  generalize l.map Nd.D = L at h1 ⊢
  simp [Tryz.f94, h1, h2]
theorem l_idxRw (m g : Nat) (caps : List PV) (p : Rw → Bool) (l : List Rw) (hl : l.length ≤ 1000000) (σ : Store) (hp : ∀ x ∈ l, callIt E1 (evI E1) g ([x.P] ++ caps.map PV.strip) σ = some (.d (.bool (p x)), σ))
    (S : List PV) (hS : S.length = 19) (h0 : rd S 0 = .d (.slice (l.map Rw.D))) (h1 : rd S 1 = .func (.func g) [] caps) (h7 : rd S 7 = .d (.int .i64 l.length)) (h8 : rd S 8 = .d (.int .i64 0)) (k : Nat) (hk : l.length < k) :
    Lp (loopN (evCode E1 (evI E1) m (theLoop Tryz.f151 0)) k ⟨S, σ⟩) fun r => ∃ S' : List PV, S'.length = 19 ∧ ((r = (.exit 0, ⟨S', σ⟩) ∧ idx p l 0 = -1) ∨ (r = (.ret, ⟨S', σ⟩) ∧ rd S' 4 = .d (.int .i64 (idx p l 0)))) := by
  refine loop_inv (fun i st => ∃ S : List PV, st = ⟨S, σ⟩ ∧ S.length = 19 ∧ idx p l 0 = idx p (l.drop i) i ∧ rd S 0 = .d (.slice (l.map Rw.D)) ∧ rd S 1 = .func (.func g) [] caps ∧ rd S 7 = .d (.int .i64 l.length) ∧ rd S 8 = .d (.int .i64 i)) _ l.length ?_ ?_ k 0 _ (by omega) (by omega) ⟨S, rfl, hS, rfl, h0, h1, h7, h8⟩
  · rintro i st hi ⟨S, rfl, hS, he, h0, h1, h7, h8⟩
    have hd : l.drop i = l[i] :: l.drop (i + 1) := List.drop_eq_getElem_cons hi
    rw [hd] at he
    have hpx := hp l[i] (List.getElem_mem hi)
    have hx : (l.map Rw.D)[i]? = some (l[i]).D := by simp [hi]
    generalize l[i] = x at he hpx hx
    have hlt : (i : Int) < (l.length : Int) := by omega
    generalize l.map Rw.D = L at hx h0 ⊢
    obtain ⟨hi0, hx⟩ := List.getElem?_eq_some_iff.1 hx
    simp only [Rw.D] at hx
    generalize idx p l 0 = z at he ⊢
    have hw := wrap_succ i (by omega)
    simp only [idx] at he
    simp at hpx
    cases hb : p x
    · rw [hb] at hpx he
      simp only [Bool.false_eq_true, if_false] at he
      simp [theLoop, Tryz.f151, loopsAll, Lp_some, and_assoc, -rd, rd_set, hS, h0, h1, h7, h8, hlt, hi0, hx, hpx, hw]
      exact he
    · rw [hb] at hpx he
      simp only [if_true] at he
      subst he
      simp [theLoop, Tryz.f151, loopsAll, Lp_some, and_assoc, -rd, rd_set, hS, h0, h1, h7, h8, hlt, hi0, hx, hpx, hw]
      exact ⟨_, by simp [hS], rfl, by simp [-rd, rd_set, hS]⟩
  · rintro st ⟨S, rfl, hS, he, h0, h1, h7, h8⟩
    rw [List.drop_eq_nil_of_le (by omega)] at he
    simp only [idx] at he
    generalize idx p l 0 = z at he ⊢
    simp [theLoop, Tryz.f151, loopsAll, Lp_some, and_assoc, -rd, rd_set, hS, h0, h1, h7, h8]
    exact ⟨_, by simp [hS], rfl, he⟩

theorem b_idxRw (g : Nat) (caps : List PV) (p : Rw → Bool) (l : List Rw) (hl : l.length ≤ 1000000) (σ : Store) (hp : ∀ x ∈ l, callIt E1 (evI E1) g ([x.P] ++ caps.map PV.strip) σ = some (.d (.bool (p x)), σ)) :
    callIt E1 (evI E1) 151 [.d (.slice (l.map Rw.D)), .func (.func g) [] caps] σ = some (.d (.int .i64 (idx p l 0)), σ) := by
  refine call_np (σ' := σ) rfl rfl rfl ?_ rfl rfl (by simp)
  refine evI_run (fn := Tryz.f151) (l.length + 1) rfl Tryz.func151 rfl ?_
  have hloop := l_idxRw (l.length + 1) g caps p l hl σ hp
  have hml : (l.map Rw.D).length = l.length := by simp
  generalize idx p l 0 = z at hloop ⊢
  generalize l.map Rw.D = L at hloop hml ⊢
  simp [Tryz.f151, ec_loop, hml]
  generalize hLL : loopN _ _ _ = LL
  obtain ⟨r, rfl, S, hS, h⟩ := at_loop hLL (hloop _ rfl rfl rfl rfl rfl (l.length + 1) (by omega))
  rcases h with ⟨rfl, h⟩ | ⟨rfl, h4⟩
  · simp [-rd, rd_set, hS, h]
  · have h4' := rd_el h4 (by omega)
    simp [-rd, rd_set, hS, h4, h4']

theorem b_containsRw (g : Nat) (caps : List PV) (p : Rw → Bool) (l : List Rw) (hl : l.length ≤ 1000000) (σ : Store) (hp : ∀ x ∈ l, callIt E1 (evI E1) g ([x.P] ++ caps.map PV.strip) σ = some (.d (.bool (p x)), σ)) :
    callIt E1 (evI E1) 95 [.d (.slice (l.map Rw.D)), .func (.func g) [] caps] σ = some (.d (.bool (l.any p)), σ) := by
  refine call_np (σ' := σ) rfl rfl rfl ?_ rfl rfl (by simp)
  refine evI_run (fn := Tryz.f95) 5 rfl Tryz.func95 rfl ?_
  have h1 := b_idxRw g caps p l hl σ hp
  have h2 := idx_any p l 0
  generalize l.map Rw.D = L at h1 ⊢
  simp [Tryz.f95, h1, h2]

/-- A node with rows that are not too long. -/
structure Nd.small (n : Nd) : Prop where
  q : n.q.length ≤ 1000000
  g : n.g.length ≤ 1000000
  fs : n.fs.length ≤ 1000000

theorem b_odd (n : Nd) (h : n.small) (σ : Store) : callIt E1 (evI E1) 93 [n.P] σ = some (.d (.bool (!n.right)), σ) := by
  refine call_run (fn := Tryz.f93) 5 rfl rfl rfl Tryz.func93 rfl rfl ?_ rfl
  have h1 := fun σ => b_right n h.q h.fs h.g σ
  try simp at h1
  simp [Tryz.f93, -loadS, -storeS, loadS_cons0, loadS_consS, storeS_cons0, storeS_consS, cellsOf, h1]

def wrongL (l : List Nd) : Bool := decide ((l.length : Int) < 1) || (decide ((l.length : Int) ≥ 8) || l.any (fun n => !n.right))
theorem b_wrong (l : List Nd) (hs : ∀ n ∈ l, n.small) (σ : Store) : callIt E1 (evI E1) 92 [.d (.slice (l.map Nd.D))] σ = some (.d (.bool (wrongL l)), σ) := by
  refine call_run (fn := Tryz.f92) 5 rfl rfl rfl Tryz.func92 rfl rfl ?_ rfl
  unfold wrongL
  have hml : (l.map Nd.D).length = l.length := by simp
  cases h1 : decide ((l.length : Int) < 1)
  · cases h2 : decide ((l.length : Int) ≥ 8)
    · have hl : l.length ≤ 1000000 := by have := of_decide_eq_false h2; omega
      have h3 := fun σ => b_containsNd 93 [] (fun n => !n.right) l hl σ (fun n hn => b_odd n (hs n hn) σ)
      generalize l.any (fun n => !n.right) = z at h3 ⊢
      generalize l.map Nd.D = L at hml h3 ⊢
      simp [Tryz.f92, hml, h1, h2, h3]
    · generalize l.map Nd.D = L at hml ⊢
      simp [Tryz.f92, hml, h1, h2]
  · generalize l.map Nd.D = L at hml ⊢
    simp [Tryz.f92, hml, h1]
theorem b_wrongs (l : List (List Nd)) (hl : l.length ≤ 1000) (hs : ∀ r ∈ l, ∀ n ∈ r, n.small) (σ : Store) : callIt E1 (evI E1) 95 [.d (.slice (l.map ndsD)), .func (.func 92) [] []] σ = some (.d (.bool (l.any wrongL)), σ) := by
  have h := b_containsRw 92 [] (fun r => wrongL r.l) (l.map Rw.mk) (by simp; omega) σ (fun r hr => by
    obtain ⟨x, hx, rfl⟩ := List.mem_map.1 hr
    exact b_wrong x (hs x hx) σ)
  rw [rw_map] at h
  simpa [Function.comp_def] using h
end Go.Proofs

set_option linter.unusedVariables false
set_option linter.unusedSimpArgs false
set_option maxRecDepth 100000
set_option maxHeartbeats 8000000
namespace Go.Proofs
open Go.RowKit Go.Shelf Go.Pv

def gt0 : Gt := ⟨[], 0, [], []⟩
def Gt.New (l : List Rt) (k room : Int) : Gt × Int :=
  if routesOk l k = false then (gt0, 120) else if loopless l k = false then (gt0, 121) else if room < 1 ∨ room > 64 then (gt0, 1) else (⟨l, room, List.replicate k.toNat [], List.replicate k.toNat 0⟩, 0)

theorem b_gateNew (l : List Rt) (k room : Int) (hl : l.length ≤ 2 ^ 40) (σ : Store) : callIt E1 (evI E1) 96 [.d (.slice (l.map Rt.D)), .d (.int .i64 k), .d (.int .i64 room)] σ = some (.tup [(Gt.New l k room).1.P, .d (.int .i64 (Gt.New l k room).2)], σ) := by
  refine call_run2 (fn := Tryz.f96) 5 rfl rfl rfl rfl Tryz.func96 rfl rfl ?_
  have c1 := fun σ => b_routeRight l k σ
  have c2 := fun σ => b_loopless l k σ
  unfold Gt.New
  cases hok : routesOk l k
  · rw [hok] at c1
    try simp at c1
    simp only [if_true, Gt.P, gt0, List.map_nil]
    generalize l.map Rt.D = L at c1 ⊢
    simp [Tryz.f96, mkF, -loadS, -storeS, loadS_cons0, loadS_consS, storeS_cons0, storeS_consS, c1]
  · rw [hok] at c1
    cases hlo : loopless l k
    · rw [hlo] at c2
      try simp at c1
      try simp at c2
      simp only [Bool.true_eq_false, if_false, if_true, Gt.P, gt0, List.map_nil]
      generalize l.map Rt.D = L at c1 c2 ⊢
      simp [Tryz.f96, mkF, -loadS, -storeS, loadS_cons0, loadS_consS, storeS_cons0, storeS_consS, c1, c2]
    · rw [hlo] at c2
      obtain ⟨k1, k2, k3, k4⟩ := routesOk_on hok
      simp only [Bool.true_eq_false, if_false]
      have ha : evAppend Tryz.prog 63 .e0 (.d (.slice (l.map Rt.D))) = some (acc (l.map Rt.D)) := by
        unfold evAppend
        rw [Ty.app63]
        have h2 : l.length * 48 ≤ roomB := by simp [roomB]; omega
        simp only [Option.bind_some, ownRows, elemsOf, rowsOk_Rt, show rowsOk 6 ([] : List (List DV)) = true from rfl, Bool.true_and, List.length_map, List.length_nil, Nat.zero_add, h2, decide_true, if_true, List.nil_append]
      obtain ⟨n, rfl⟩ : ∃ n : Nat, k = (n : Int) := ⟨k.toNat, by omega⟩
      have hmk1 : ∀ n : Nat, n ≤ 4 → evMakeD Tryz.prog 68 n n = some (.d (.slice (List.replicate n [.slice []]))) := by
        intro n hn
        unfold evMakeD
        rw [Ty.app68]
        simp [roomB]
        omega
      have hmk2 : ∀ n : Nat, n ≤ 4 → evMakeD Tryz.prog 39 n n = some (.d (.slice (List.replicate n [.int .i64 0]))) := by
        intro n hn
        unfold evMakeD
        rw [Ty.app39]
        simp [roomB]
        omega
      have hk1 := hmk1 n (by omega)
      have hk2 := hmk2 n (by omega)
      clear hmk1 hmk2 hok hlo k4
      try simp at c1
      try simp at c2
      by_cases h1 : room < 1
      · rw [if_pos (.inl h1)]
        simp only [Gt.P, gt0, List.map_nil]
        generalize l.map Rt.D = L at c1 c2 ⊢
        simp [Tryz.f96, mkF, -loadS, -storeS, loadS_cons0, loadS_consS, storeS_cons0, storeS_consS, c1, c2, h1]
      · by_cases h2 : room > 64
        · rw [if_pos (.inr h2)]
          have h2' : 64 < room := h2
          simp only [Gt.P, gt0, List.map_nil]
          generalize l.map Rt.D = L at c1 c2 ⊢
          simp [Tryz.f96, mkF, -loadS, -storeS, loadS_cons0, loadS_consS, storeS_cons0, storeS_consS, c1, c2, h1, h2']
        · rw [if_neg (by omega)]
          have h2' : ¬ 64 < room := h2
          have e1 : (List.replicate n ([] : List Fr)).map frsD = List.replicate n [.slice []] := by simp [frsD]
          have e2 : (List.replicate n (0 : Int)).map intD = List.replicate n [.int .i64 0] := by simp
          simp only [Gt.P, Int.toNat_natCast, e1, e2]
          generalize l.map Rt.D = L at c1 c2 ha ⊢
          simp [Tryz.f96, mkF, -loadS, -storeS, loadS_cons0, loadS_consS, storeS_cons0, storeS_consS, c1, c2, h1, h2', ha, hk1, hk2]
end Go.Proofs

set_option linter.unusedVariables false
set_option linter.unusedSimpArgs false
set_option maxRecDepth 100000
set_option maxHeartbeats 8000000
namespace Go.Proofs
open Go.RowKit Go.Shelf Go.Pv

theorem flatD_eq : ∀ (rows : List (List DV)), flatD rows = rows.flatten.map .d
  | [] => rfl
  | r :: rows => by rw [flatD, flatD_eq rows, List.flatten_cons, List.map_append]
theorem flatD_len {sz : Nat} : ∀ (rows : List (List DV)), (∀ r ∈ rows, r.length = sz) → (flatD rows).length = rows.length * sz
  | [], _ => by simp [flatD]
  | r :: rows, h => by
    rw [flatD, List.length_append, List.length_map, h r (by simp), flatD_len rows (fun x hx => h x (by simp [hx])), List.length_cons, Nat.add_mul]
    omega
theorem allD_flat (σ : Store) (k : Nat) : ∀ (ds : List DV), allD (frzD σ (k + 1)) (ds.map .d) = some ds
  | [] => rfl
  | x :: ds => by rw [List.map_cons, allD, frzD_d, Option.bind_some, allD_flat σ k ds]; rfl
theorem chunks_flat {sz : Nat} : ∀ (rows : List (List DV)), (∀ r ∈ rows, r.length = sz) → chunks sz rows.length rows.flatten = rows
  | [], _ => rfl
  | r :: rows, h => by
    have hr := h r (by simp)
    rw [List.length_cons, chunks, List.flatten_cons, ← hr, List.take_left, List.drop_left, hr, chunks_flat rows (fun x hx => h x (by simp [hx]))]
theorem frz_flat {σ : Store} {id sz : Nat} {rows : List (List DV)} (h : σ[id]? = some (flatD rows)) (hs : ∀ r ∈ rows, r.length = sz) (k : Nat) : frzD σ (k + 2) (.ms id 0 rows.length sz) = some (.slice rows) := by
  rw [frzD_ms, h]
  simp only [Option.bind_some, Nat.zero_add, flatD_len rows hs, Nat.le_refl, if_true, List.drop_zero]
  rw [List.take_of_length_le (by rw [flatD_len rows hs]; exact Nat.le_refl _), flatD_eq, allD_flat, Option.map_some, chunks_flat rows hs]
theorem flat_set {sz : Nat} : ∀ (rows : List (List DV)) (k : Nat) (r : List DV), (∀ r ∈ rows, r.length = sz) → k < rows.length → (flatD rows).take (k * sz) ++ r.map .d ++ (flatD rows).drop (k * sz + sz) = flatD (rows.set k r)
  | [], k, r, _, hk => by simp at hk
  | a :: rows, 0, r, h, _ => by
    have ha : (a.map PV.d).length = sz := by rw [List.length_map]; exact h a (by simp)
    simp only [flatD, Nat.zero_mul, List.take_zero, List.nil_append, Nat.zero_add, List.set_cons_zero]
    rw [← ha, List.drop_left]
  | a :: rows, k + 1, r, h, hk => by
    have ha : (a.map PV.d).length = sz := by rw [List.length_map]; exact h a (by simp)
    have ih := flat_set rows k r (fun x hx => h x (by simp [hx])) (by simpa using hk)
    simp only [flatD, List.set_cons_succ]
    rw [← ih, show (k + 1) * sz = (a.map PV.d).length + k * sz by rw [ha, Nat.add_mul]; omega, List.take_length_add_append, show (a.map PV.d).length + k * sz + sz = (a.map PV.d).length + (k * sz + sz) by omega, List.drop_length_add_append]
    simp only [List.append_assoc]
theorem flat_store {b0 : List PV} {J : Store} {sz k : Nat} {rows : List (List DV)} {r : List DV} (hs : ∀ r ∈ rows, r.length = sz) (hr : r.length = sz) (hk : k < rows.length) : storeS (b0 :: flatD rows :: J) 1 (k * sz) (r.map .d) = some (b0 :: flatD (rows.set k r) :: J) := by
  have hle : k * sz + sz ≤ rows.length * sz := by
    have := Nat.mul_le_mul_right sz (show k + 1 ≤ rows.length from hk)
    rw [Nat.add_mul, Nat.one_mul] at this
    exact this
  rw [storeS_consS, storeS_cons0, List.length_map, hr, flatD_len rows hs, if_pos hle, flat_set rows k r hs hk]
  rfl

theorem c_cloneNs (f : FuncId) (F : FnEv) (l : List Nd) (hne : l ≠ []) (hl : l.length ≤ 1000000) (σ : Store) : callIt (E2 f) F 97 [.d (.slice (l.map Nd.D))] σ = some (.ms σ.length 0 l.length 7, σ ++ [flatD (l.map Nd.D)]) := by
  have he : (E2 f).ext (E2 f).loose 97 = some (extClone 7 104) := rfl
  unfold callIt
  rw [he]
  have hro : rowsOk 7 (l.map Nd.D) = true := rowsOk_Nd l
  have hb : (l.map Nd.D).length * 104 ≤ roomB := by simp [roomB]; omega
  have hml : (l.map Nd.D).length = l.length := by simp
  have hn2 : l.map Nd.D ≠ [] := by simpa using hne
  rw [hml] at hb
  generalize l.map Nd.D = L at hro hml hn2 ⊢
  cases L with
  | nil => exact absurd rfl hn2
  | cons r rs =>
    simp only [extClone, hro, Bool.true_and, hml, hb, decide_true, if_true, Option.map_some]
    rfl
theorem c_cloneNss (f : FuncId) (F : FnEv) (l : List (List Nd)) (hne : l ≠ []) (hl : l.length ≤ 1000000) (σ : Store) : callIt (E2 f) F 156 [.d (.slice (l.map ndsD))] σ = some (.ms σ.length 0 l.length 1, σ ++ [flatD (l.map ndsD)]) := by
  have he : (E2 f).ext (E2 f).loose 156 = some (extClone 1 24) := rfl
  unfold callIt
  rw [he]
  have hro : rowsOk 1 (l.map ndsD) = true := rowsOk_nds l
  have hb : (l.map ndsD).length * 24 ≤ roomB := by simp [roomB]; omega
  have hml : (l.map ndsD).length = l.length := by simp
  have hn2 : l.map ndsD ≠ [] := by simpa using hne
  rw [hml] at hb
  generalize l.map ndsD = L at hro hml hn2 ⊢
  cases L with
  | nil => exact absurd rfl hn2
  | cons r rs =>
    simp only [extClone, hro, Bool.true_and, hml, hb, decide_true, if_true, Option.map_some]
    rfl

theorem b_withN (l : List Nd) (k : Nat) (hk : k < l.length) (hl : l.length ≤ 1000000) (x : Nd) (σ : Store) : callIt E1 (evI E1) 99 [.d (.slice (l.map Nd.D)), .d (.int .i64 k), x.P] σ = some (.d (.slice ((l.set k x).map Nd.D)), σ) := by
  refine call_run2 (fn := Tryz.f99) 5 rfl rfl rfl rfl Tryz.func99 rfl rfl ?_
  have hne : l ≠ [] := by intro h; rw [h] at hk; simp at hk
  have hc := fun σ => c_cloneNs 99 (evI E1) l hne hl σ
  have hs : ∀ r ∈ l.map Nd.D, r.length = 7 := fun r hr => by obtain ⟨y, _, rfl⟩ := List.mem_map.1 hr; rfl
  have hst := fun b0 => flat_store (b0 := b0) (J := []) (k := k) (r := x.D) hs rfl (by simpa using hk)
  have hs2 : ∀ r ∈ (l.set k x).map Nd.D, r.length = 7 := fun r hr => by obtain ⟨y, _, rfl⟩ := List.mem_map.1 hr; rfl
  have hset : (l.map Nd.D).set k x.D = (l.set k x).map Nd.D := by rw [List.map_set]
  rw [hset] at hst
  have hlen : ((l.set k x).map Nd.D).length = l.length := by simp
  have hfz := fun (b0 : List PV) n => frz_flat (σ := [b0, flatD ((l.set k x).map Nd.D)]) (id := 1) rfl hs2 n
  rw [hlen] at hfz
  have hfz3 : ∀ b0, frzP [b0, flatD ((l.set k x).map Nd.D)] 3 (.ms 1 0 l.length 7) = some (.d (.slice ((l.set k x).map Nd.D))) := fun b0 => by
    show (frzD _ 3 _).map PV.d = _
    rw [hfz b0 1]; rfl
  clear hset hlen hs hs2 hfz hne
  generalize (l.set k x).map Nd.D = R at hst hfz3 ⊢
  generalize l.map Nd.D = L at hc hst ⊢
  generalize flatD R = FR at hst hfz3
  generalize flatD L = FL at hc hst
  simp only [Nd.D, List.map_cons, List.map_nil] at hst
  have hkI : (k : Int) < (l.length : Int) := by omega
  try simp at hc
  simp [Tryz.f99, mkF, -loadS, -storeS, loadS_cons0, loadS_consS, cellsOf, hc, hst, hk, hkI, hfz3]

theorem b_withR (l : List (List Nd)) (k : Nat) (hk : k < l.length) (hl : l.length ≤ 1000000) (x : List Nd) (σ : Store) : callIt E1 (evI E1) 104 [.d (.slice (l.map ndsD)), .d (.int .i64 k), .d (.slice (x.map Nd.D))] σ = some (.d (.slice ((l.set k x).map ndsD)), σ) := by
  refine call_run2 (fn := Tryz.f104) 5 rfl rfl rfl rfl Tryz.func104 rfl rfl ?_
  have hne : l ≠ [] := by intro h; rw [h] at hk; simp at hk
  have hc := fun σ => c_cloneNss 104 (evI E1) l hne hl σ
  have hs : ∀ r ∈ l.map ndsD, r.length = 1 := fun r hr => by obtain ⟨y, _, rfl⟩ := List.mem_map.1 hr; rfl
  have hle : k * 1 + 1 ≤ (l.map ndsD).length * 1 := by simp; omega
  have hst : storeS [flatD (l.map ndsD)] 0 k [.d (.slice (x.map Nd.D))] = some [flatD ((l.set k x).map ndsD)] := by
    have h1 := flat_set (l.map ndsD) k (ndsD x) hs (by simpa using hk)
    have hfl := flatD_len (l.map ndsD) hs
    rw [storeS_cons0, hfl, if_pos (by simpa using hle)]
    rw [List.map_set, ← h1]
    simp [ndsD]
  have hs2 : ∀ r ∈ (l.set k x).map ndsD, r.length = 1 := fun r hr => by obtain ⟨y, _, rfl⟩ := List.mem_map.1 hr; rfl
  have hlen : ((l.set k x).map ndsD).length = l.length := by simp
  have hfz := fun n => frz_flat (σ := [flatD ((l.set k x).map ndsD)]) (id := 0) rfl hs2 n
  rw [hlen] at hfz
  have hfz3 : frzP [flatD ((l.set k x).map ndsD)] 2 (.ms 0 0 l.length 1) = some (.d (.slice ((l.set k x).map ndsD))) := by
    show (frzD _ 2 _).map PV.d = _
    rw [hfz 0]; rfl
  clear hlen hs hs2 hfz hne hle
  generalize (l.set k x).map ndsD = R at hst hfz3 ⊢
  generalize l.map ndsD = L at hc hst ⊢
  generalize flatD R = FR at hst hfz3
  generalize flatD L = FL at hc hst
  generalize x.map Nd.D = X at hst ⊢
  have hkI : (k : Int) < (l.length : Int) := by omega
  try simp at hc
  simp [Tryz.f104, mkF, -loadS, -storeS, cellsOf, hc, hst, hk, hkI, hfz3]
end Go.Proofs

set_option linter.unusedVariables false
set_option linter.unusedSimpArgs false
set_option maxRecDepth 100000
set_option maxHeartbeats 8000000
namespace Go.Proofs
open Go.RowKit Go.Shelf Go.Pv

/-- A gateway's own node, as it is made. -/
def own0 : Nd := ⟨[], [], ⟨0, 0, 1, 0⟩, []⟩
def nt0 : Nt := ⟨[], gt0⟩
theorem b_ndNew0 (σ : Store) : callIt E1 (evI E1) 56 [.d (.slice [])] σ = some (.tup [own0.P, .d (.int .i64 0)], σ) := by
  have h := b_new [] (by simp) σ
  simp only [List.map_nil] at h
  exact h
theorem b_cloneNd (l : List Nd) (hl : l.length ≤ 1000000) (σ : Store) : callIt E1 (evI E1) 97 [.d (.slice (l.map Nd.D))] σ = some (acc (l.map Nd.D), σ) := by
  have : l.length * 104 ≤ roomB := by simp only [roomB]; omega
  simp [callIt, E1ov, ovAll, isDataL, PV.isData, ovClone, this, acc_data]
def ownIn (l : List Nd) : List Nd := l ++ [own0]
def Yf (l : List (List Nd)) (i : Nat) : PV := if i = 0 then .e0 else acc (((l.take i).map ownIn).map ndsD)
theorem appW (rows xs : List (List DV)) (h : rowsOk 1 rows = true) (h' : rowsOk 1 xs = true) (hb : (rows.length + xs.length) * 24 ≤ roomB) : evAppend Tryz.prog 66 (acc rows) (.d (.slice xs)) = some (acc (rows ++ xs)) := by
  unfold evAppend
  rw [Ty.app66]
  simp only [Option.bind_some, acc_own, elemsOf, h, h', Bool.true_and, hb, decide_true, if_true]
theorem appW0 (xs : List (List DV)) (h' : rowsOk 1 xs = true) (hb : xs.length * 24 ≤ roomB) : evAppend Tryz.prog 66 .e0 (.d (.slice xs)) = some (acc xs) := by
  unfold evAppend
  rw [Ty.app66]
  simp only [Option.bind_some, ownRows, elemsOf, show rowsOk 1 ([] : List (List DV)) = true from rfl, h', Bool.true_and, List.length_nil, Nat.zero_add, hb, decide_true, if_true, List.nil_append]
theorem l_netNew (m : Nat) (l : List (List Nd)) (hl : l.length ≤ 4) (hs : ∀ r ∈ l, r.length ≤ 1000) (b0 b1 : List PV) (c1 c2 c3 c4 v6 : PV) (S : List PV) (hS : S.length = 66) (h6 : rd S 6 = v6) (h11 : rd S 11 = .ptr 2 0)
    (h44 : rd S 44 = .d (.slice (l.map ndsD))) (h45 : rd S 45 = .d (.int .i64 l.length)) (h46 : rd S 46 = .d (.int .i64 0)) (k : Nat) (hk : l.length < k) :
    Lp (loopN (evCode E1 (evI E1) m (theLoop Tryz.f38 0)) k ⟨S, [b0, b1, [.e0, c1, c2, c3, c4]]⟩) fun r => ∃ (J : Store) (S' : List PV), r = (.exit 0, ⟨S', b0 :: b1 :: [Yf l l.length, c1, c2, c3, c4] :: J⟩) ∧ S'.length = 66 ∧ rd S' 6 = v6 ∧ rd S' 11 = .ptr 2 0 := by
  refine loop_inv (fun i st => ∃ (J : Store) (S : List PV), st = ⟨S, b0 :: b1 :: [Yf l i, c1, c2, c3, c4] :: J⟩ ∧ S.length = 66 ∧ rd S 6 = v6 ∧ rd S 11 = .ptr 2 0 ∧ rd S 44 = .d (.slice (l.map ndsD)) ∧ rd S 45 = .d (.int .i64 l.length) ∧ rd S 46 = .d (.int .i64 i)) _ l.length ?_ ?_ k 0 _ (by omega) (by omega) ⟨[], S, rfl, hS, h6, h11, h44, h45, h46⟩
  · rintro i st hi ⟨J, S, rfl, hS, h6, h11, h44, h45, h46⟩
    have hlt : (i : Int) < (l.length : Int) := by omega
    have hx : (l.map ndsD)[i]? = some (ndsD l[i]) := by simp [hi]
    have hc := fun σ => b_cloneNd l[i] (Nat.le_trans (hs _ (List.getElem_mem hi)) (by omega)) σ
    have hY : Yf l (i + 1) = acc (((l.take i).map ownIn).map ndsD ++ [[.slice (l[i].map Nd.D ++ [own0.D])]]) := by
      unfold Yf
      rw [if_neg (by omega), List.take_add_one, List.getElem?_eq_getElem hi]
      simp only [Option.toList_some, List.map_append, List.map_cons, List.map_nil]
      rw [show ndsD (ownIn l[i]) = [.slice (l[i].map Nd.D ++ [own0.D])] by unfold ndsD ownIn; rw [List.map_append]; rfl]
    have hn := b_ndNew0
    have hro : rowsOk 1 (((l.take i).map ownIn).map ndsD) = true := rowsOk_nds _
    have hrl : (((l.take i).map ownIn).map ndsD).length ≤ 4 := by simp; omega
    have hri : rowsOk 7 (l[i].map Nd.D) = true := rowsOk_Nd _
    have hrn := hs _ (List.getElem_mem hi)
    have hml : (l[i].map Nd.D).length = l[i].length := by simp
    generalize l[i] = r at hx hc hY hri hrn hml
    have ha1 : evAppend Tryz.prog 22 (acc (r.map Nd.D)) (.d (.slice [own0.D])) = some (acc (r.map Nd.D ++ [own0.D])) := appN _ _ hri rfl (by simp [roomB]; omega)
    have ha2 : evAppend Tryz.prog 66 (Yf l i) (.d (.slice [[.slice (r.map Nd.D ++ [own0.D])]])) = some (Yf l (i + 1)) := by
      rw [hY]
      unfold Yf
      by_cases h0 : i = 0
      · subst h0
        rw [if_pos rfl, appW0 _ rfl (by simp [roomB])]
        rfl
      · rw [if_neg h0, appW _ _ hro rfl (by simp [roomB]; omega)]
    have hY0 : Yf l i = if i = 0 then .e0 else acc (((l.take i).map ownIn).map ndsD) := rfl
    clear hY hY0 hro hrl
    obtain ⟨A1, hA1⟩ : ∃ A1, Yf l (i + 1) = acc A1 := ⟨_, if_neg (by omega)⟩
    rw [hA1] at ha2 ⊢
    generalize Yf l i = Y0 at ha2 ⊢
    generalize l.map ndsD = L at hx h44 ⊢
    obtain ⟨hi0, hx⟩ := List.getElem?_eq_some_iff.1 hx
    simp only [ndsD] at hx
    generalize r.map Nd.D = R at hx hc hri hml ha1 ha2
    simp only [own0, Nd.D, List.map_nil] at ha1 ha2
    try simp at hn
    simp [own0] at hn
    have hi1 : i + 1 ≠ 0 := by omega
    simp [theLoop, Tryz.f38, loopsAll, Lp_some, and_assoc, -rd, rd_ne, rd_eq, -loadS, -storeS, loadS_cons0, loadS_consS, storeS_cons0, storeS_consS, sfx_load0, sfx_load, sfx_store0, sfx_store, hS, h6, h11, h44, h45, h46, hlt, hi0, hx, hc, hn, ha1, ha2, rowsFrom, cellsOf, wrap_succ i (by omega)]
    done
  · rintro st ⟨J, S, rfl, hS, h6, h11, h44, h45, h46⟩
    generalize Yf l l.length = Y0
    simp [theLoop, Tryz.f38, loopsAll, Lp_some, and_assoc, -rd, rd_ne, rd_eq, hS, h6, h11, h44, h45, h46]

def Nt.New (l : List (List Nd)) (r : List Rt) (room : Int) : Nt × Int :=
  if (decide ((l.length : Int) < 1) || (decide ((l.length : Int) > 4) || l.any wrongL)) = true then (nt0, 1)
  else if (Gt.New r l.length room).2 ≠ 0 then (nt0, (Gt.New r l.length room).2) else (⟨l.map ownIn, (Gt.New r l.length room).1⟩, 0)

theorem b_netNew (l : List (List Nd)) (r : List Rt) (room : Int) (hs : ∀ x ∈ l, ∀ n ∈ x, n.small) (hr : r.length ≤ 2 ^ 40) (σ : Store) :
    callIt E1 (evI E1) 38 [.d (.slice (l.map ndsD)), .d (.slice (r.map Rt.D)), .d (.int .i64 room)] σ = some (.tup [(Nt.New l r room).1.P, .d (.int .i64 (Nt.New l r room).2)], σ) := by
  refine call_run (fn := Tryz.f38) 5 rfl rfl rfl Tryz.func38 rfl rfl ?_ rfl
  unfold Nt.New
  have hml : (l.map ndsD).length = l.length := by simp
  cases h1 : decide ((l.length : Int) < 1)
  · cases h2 : decide ((l.length : Int) > 4)
    · have hl : l.length ≤ 4 := by have := of_decide_eq_false h2; omega
      have hl0 : 1 ≤ l.length := by have := of_decide_eq_false h1; omega
      have c1 := fun σ => b_wrongs l (by omega) hs σ
      cases h3 : l.any wrongL
      · rw [h3] at c1
        have c2 := fun σ => b_gateNew r l.length room hr σ
        have hrow : ∀ x ∈ l, x.length ≤ 1000 := fun x hx => by
          have := List.any_eq_false.1 h3 x hx
          unfold wrongL at this
          simp at this
          omega
        have hloop := l_netNew 5 l hl hrow
        simp only [Bool.false_or, Bool.or_false, Bool.false_eq_true, if_false]
        generalize Gt.New r l.length room = G at c2 ⊢
        obtain ⟨g, e⟩ := G
        simp only at c2 ⊢
        have hY : Yf l l.length = acc ((l.map ownIn).map ndsD) := by
          unfold Yf
          rw [if_neg (by omega), List.take_length]
        rw [hY] at hloop
        by_cases he : e = 0
        · subst he
          simp only [ne_eq, not_true, if_false, Nt.P, not_true_eq_false]
          try simp at c1
          try simp at c2
          generalize (l.map ownIn).map ndsD = M at hloop ⊢
          generalize l.map ndsD = L at hml c1 hloop ⊢
          generalize r.map Rt.D = R at c2 ⊢
          simp [Tryz.f38, ec_loop, -loadS, -storeS, loadS_cons0, loadS_consS, storeS_cons0, storeS_consS, hml, h1, h2, c1, c2]
          generalize hLL : loopN _ _ _ = LL
          obtain ⟨r, rfl, J, S, rfl, hS, h6, h11⟩ := at_loop hLL (hloop _ _ _ _ _ _ _ _ rfl rfl rfl rfl rfl rfl 5 (by omega))
          simp at h6
          change rd S 6 = _ at h6
          have h6' := rd_el h6 (by omega)
          simp [-rd, rd_ne, rd_eq, -loadS, -storeS, loadS_cons0, loadS_consS, storeS_cons0, storeS_consS, hS, h6, h6', h11]
        · have he2 : (e != 0) = true := by simpa using he
          simp only [ne_eq, he, not_false_eq_true, if_true, nt0, gt0, Nt.P, List.map_nil]
          try simp at c1
          try simp at c2
          generalize l.map ndsD = L at hml c1 ⊢
          generalize r.map Rt.D = R at c2 ⊢
          simp [Tryz.f38, -loadS, -storeS, loadS_cons0, loadS_consS, storeS_cons0, storeS_consS, hml, h1, h2, c1, c2, he2]
      · rw [h3] at c1
        simp only [Bool.false_or, Bool.or_true, if_true, nt0, gt0, Nt.P, List.map_nil]
        generalize l.map ndsD = L at hml c1 ⊢
        simp [Tryz.f38, -loadS, -storeS, loadS_cons0, loadS_consS, storeS_cons0, storeS_consS, hml, h1, h2, c1]
    · simp only [Bool.false_or, Bool.true_or, if_true, nt0, gt0, Nt.P, List.map_nil]
      generalize l.map ndsD = L at hml ⊢
      simp [Tryz.f38, -loadS, -storeS, loadS_cons0, loadS_consS, storeS_cons0, storeS_consS, hml, h1, h2]
  · simp only [Bool.true_or, if_true, nt0, gt0, Nt.P, List.map_nil]
    generalize l.map ndsD = L at hml ⊢
    simp [Tryz.f38, -loadS, -storeS, loadS_cons0, loadS_consS, storeS_cons0, storeS_consS, hml, h1]
end Go.Proofs

