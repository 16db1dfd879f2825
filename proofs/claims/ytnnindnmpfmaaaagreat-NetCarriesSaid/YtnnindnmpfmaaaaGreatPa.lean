/- Nets: routes, hops, gateways, nets, in plain Lean; routes' functions of the code; Gateways, of the code: what waits, what is next, what is done; Gateways, of the code: one whose row of a bus is another one; Gateways, of the code: what is done; a frame goes in; Routes by which no frame comes back, of the code. -/
import Derived.Test.YtnnindnmpfmaaaaGreatOb
set_option linter.unusedVariables false
set_option linter.unusedSimpArgs false
set_option maxRecDepth 100000
set_option maxHeartbeats 8000000
namespace Go.Proofs
open Go.RowKit Go.Shelf Go.Pv

/-- A route. -/
structure Rt where
  a : Int
  b : Int
  f : Fl
  n : Int
@[simp] def Rt.D (r : Rt) : List DV := [.int .i64 r.a, .int .i64 r.b, .bool r.f.e, .int .i64 r.f.mask, .int .i64 r.f.mt, .int .i64 r.n]
@[simp] def Rt.P (r : Rt) : PV := .agg [.d (.int .i64 r.a), .d (.int .i64 r.b), .d (.bool r.f.e), .d (.int .i64 r.f.mask), .d (.int .i64 r.f.mt), .d (.int .i64 r.n)]
@[simp] theorem rowsOk_Rt (l : List Rt) : rowsOk 6 (l.map Rt.D) = true := rowsOk_map (D := Rt.D) (fun _ => rfl) l
/-- A hop. -/
structure Hp where
  b : Int
  f : Fr
@[simp] def Hp.D (h : Hp) : List DV := [.int .i64 h.b, .bool h.f.e, .int .i64 h.f.id, .bool h.f.rm, .int .i64 h.f.ln, .slice (h.f.data.map byD)]
@[simp] def Hp.P (h : Hp) : PV := .agg [.d (.int .i64 h.b), .d (.bool h.f.e), .d (.int .i64 h.f.id), .d (.bool h.f.rm), .d (.int .i64 h.f.ln), .d (.slice (h.f.data.map byD))]
@[simp] theorem rowsOk_Hp (l : List Hp) : rowsOk 6 (l.map Hp.D) = true := rowsOk_map (D := Hp.D) (fun _ => rfl) l
def frsD (l : List Fr) : List DV := [.slice (l.map Fr.D)]
def ndsD (l : List Nd) : List DV := [.slice (l.map Nd.D)]
@[simp] theorem rowsOk_frs (l : List (List Fr)) : rowsOk 1 (l.map frsD) = true := rowsOk_map (D := frsD) (fun _ => rfl) l
@[simp] theorem rowsOk_nds (l : List (List Nd)) : rowsOk 1 (l.map ndsD) = true := rowsOk_map (D := ndsD) (fun _ => rfl) l
/-- A gateway. -/
structure Gt where
  rs : List Rt
  cap : Int
  out : List (List Fr)
  lost : List Int
@[simp] def Gt.P (g : Gt) : PV := .agg [.d (.slice (g.rs.map Rt.D)), .d (.int .i64 g.cap), .d (.slice (g.out.map frsD)), .d (.slice (g.lost.map intD))]
/-- A net. -/
structure Nt where
  bs : List (List Nd)
  g : Gt
@[simp] def Nt.P (n : Nt) : PV := .agg [.d (.slice (n.bs.map ndsD)), .d (.slice (n.g.rs.map Rt.D)), .d (.int .i64 n.g.cap), .d (.slice (n.g.out.map frsD)), .d (.slice (n.g.lost.map intD))]

/-! #### Routes -/

def Rt.idOk (r : Rt) : Bool := (r.n == -1) || (decide (r.n ≥ 0) && decide (r.n < if r.f.e then 536870912 else 2048))
theorem b_identifier (r : Rt) (σ : Store) : callIt E1 (evI E1) 128 [r.P] σ = some (.d (.bool r.idOk), σ) := by
  refine call_run (fn := Tryz.f128) 5 rfl rfl rfl Tryz.func128 rfl rfl ?_ rfl
  obtain ⟨a, b, ⟨e, mask, mt⟩, n⟩ := r
  unfold Rt.idOk
  cases h1 : (n == -1)
  · cases h2 : decide (n ≥ 0)
    · cases e <;> simp [Tryz.f128, h1, h2]
    · cases e <;> simp [Tryz.f128, h1, h2]
  · cases e <;> simp [Tryz.f128, h1]

def Rt.bad (k : Int) (r : Rt) : Bool := decide (r.a < 0) || decide (r.a ≥ k) || decide (r.b < 0) || decide (r.b ≥ k) || (r.a == r.b) || !r.f.right || !r.idOk
def routesOk (l : List Rt) (k : Int) : Bool := !(decide (k < 1) || decide (k > 4) || decide ((l.length : Int) > 16)) && !(l.any (Rt.bad k))

theorem any_take {α : Type} {p : α → Bool} {l : List α} {i : Nat} (hi : i < l.length) : (l.take (i + 1)).any p = ((l.take i).any p || p l[i]) := by
  rw [List.take_add_one, List.getElem?_eq_getElem hi, List.any_append]; simp
theorem any_of {α : Type} {p : α → Bool} {l : List α} {i : Nat} (hi : i < l.length) (h : p l[i] = true) : l.any p = true := List.any_eq_true.2 ⟨_, List.getElem_mem hi, h⟩

theorem l_routeRight (m : Nat) (l : List Rt) (k : Int) (hl : l.length ≤ 16) (S : List PV) (hS : S.length = 63) (h1 : rd S 1 = .d (.int .i64 k)) (h18 : rd S 18 = .d (.slice (l.map Rt.D))) (h19 : rd S 19 = .d (.int .i64 l.length)) (h20 : rd S 20 = .d (.int .i64 0)) (n : Nat) (hn : l.length < n) :
    Lp (loopN (evCode E1 (evI E1) m (theLoop Tryz.f57 0)) n ⟨S, []⟩) fun r => ∃ (J : Store) (S' : List PV), S'.length = 63 ∧ ((r = (.exit 0, ⟨S', J⟩) ∧ l.any (Rt.bad k) = false) ∨ (r = (.ret, ⟨S', J⟩) ∧ rd S' 4 = .d (.bool false) ∧ l.any (Rt.bad k) = true)) := by
  refine loop_inv (fun i st => ∃ (J : Store) (S : List PV), st = ⟨S, J⟩ ∧ S.length = 63 ∧ (l.take i).any (Rt.bad k) = false ∧ rd S 1 = .d (.int .i64 k) ∧ rd S 18 = .d (.slice (l.map Rt.D)) ∧ rd S 19 = .d (.int .i64 l.length) ∧ rd S 20 = .d (.int .i64 i)) _ l.length ?_ ?_ n 0 _ (by omega) (by omega) ⟨[], S, rfl, hS, rfl, h1, h18, h19, h20⟩
  · rintro i st hi ⟨J, S, rfl, hS, he, h1, h18, h19, h20⟩
    have hlt : (i : Int) < (l.length : Int) := by omega
    have htk := any_take (p := Rt.bad k) hi
    rw [he, Bool.false_or] at htk
    have hall := any_of (p := Rt.bad k) hi
    have c1 := fun σ => b_flRight l[i].f σ
    have c2 := fun σ => b_identifier l[i] σ
    have hx : (l.map Rt.D)[i]? = some (l[i]).D := by simp [hi]
    have hml : (l.map Rt.D).length = l.length := by simp
    generalize (l.take (i + 1)).any (Rt.bad k) = z1 at htk ⊢
    generalize l.any (Rt.bad k) = z2 at hall ⊢
    generalize l[i] = r at htk hall c1 c2 hx
    unfold Rt.bad at htk hall
    generalize r.idOk = io at htk hall c2
    obtain ⟨a, b, f, nn⟩ := r
    simp only at htk hall c1 hx
    generalize f.right = fr at htk hall c1
    obtain ⟨e, mask, mt⟩ := f
    generalize l.map Rt.D = L at hx hml h18 ⊢
    obtain ⟨hi0, hx⟩ := List.getElem?_eq_some_iff.1 hx
    simp only [Rt.D] at hx
    clear he
    try simp at c1
    try simp at c2
    have hw := wrap_succ i (by omega)
    have fin : ∀ (z : Bool), (z = true → z2 = true) → z1 = z → True := fun _ _ _ => trivial
    generalize ha : decide (a < 0) = xa at htk hall
    generalize hb : decide (a ≥ k) = xb at htk hall
    generalize hc : decide (b < 0) = xc at htk hall
    generalize hd : decide (b ≥ k) = xd at htk hall
    generalize he : (a == b) = xe at htk hall
    simp at hb hd
    cases xa
    · cases xb
      · cases xc
        · cases xd
          · cases xe
            · cases fr
              · have h2 := hall (by simp)
                clear htk hall
                subst h2
                simp [theLoop, Tryz.f57, loopsAll, Lp_some, and_assoc, -rd, rd_set, -loadS, -storeS, sfx_load0, sfx_load, sfx_store0, sfx_store, loadS_cons0, storeS_cons0, hS, h1, h18, h19, h20, hlt, hi0, hi, hx, hml, ha, hb, hc, hd, he, c1, hw]
                exact ⟨_, _, by simp [hS], rfl, rfl, by simp [-rd, rd_set, hS]⟩
              · cases io
                · have h2 := hall (by simp)
                  clear htk hall
                  subst h2
                  simp [theLoop, Tryz.f57, loopsAll, Lp_some, and_assoc, -rd, rd_set, -loadS, -storeS, sfx_load0, sfx_load, sfx_store0, sfx_store, loadS_cons0, storeS_cons0, hS, h1, h18, h19, h20, hlt, hi0, hi, hx, hml, ha, hb, hc, hd, he, c1, c2, hw]
                  exact ⟨_, _, by simp [hS], rfl, rfl, by simp [-rd, rd_set, hS]⟩
                · simp at htk
                  clear hall
                  simp [theLoop, Tryz.f57, loopsAll, Lp_some, and_assoc, -rd, rd_set, -loadS, -storeS, sfx_load0, sfx_load, sfx_store0, sfx_store, loadS_cons0, storeS_cons0, hS, h1, h18, h19, h20, hlt, hi0, hi, hx, hml, ha, hb, hc, hd, he, c1, c2, hw, htk]
                  done
            · have h2 := hall (by simp)
              clear htk hall
              subst h2
              simp [theLoop, Tryz.f57, loopsAll, Lp_some, and_assoc, -rd, rd_set, -loadS, -storeS, sfx_load0, sfx_load, sfx_store0, sfx_store, loadS_cons0, storeS_cons0, hS, h1, h18, h19, h20, hlt, hi0, hi, hx, hml, ha, hb, hc, hd, he, hw]
              exact ⟨_, _, by simp [hS], rfl, rfl, by simp [-rd, rd_set, hS]⟩
          · have h2 := hall (by simp)
            clear htk hall
            subst h2
            simp [theLoop, Tryz.f57, loopsAll, Lp_some, and_assoc, -rd, rd_set, -loadS, -storeS, sfx_load0, sfx_load, sfx_store0, sfx_store, loadS_cons0, storeS_cons0, hS, h1, h18, h19, h20, hlt, hi0, hi, hx, hml, ha, hb, hc, hd, hw]
            exact ⟨_, _, by simp [hS], rfl, rfl, by simp [-rd, rd_set, hS]⟩
        · have h2 := hall (by simp)
          clear htk hall
          subst h2
          simp [theLoop, Tryz.f57, loopsAll, Lp_some, and_assoc, -rd, rd_set, -loadS, -storeS, sfx_load0, sfx_load, sfx_store0, sfx_store, loadS_cons0, storeS_cons0, hS, h1, h18, h19, h20, hlt, hi0, hi, hx, hml, ha, hb, hc, hw]
          exact ⟨_, _, by simp [hS], rfl, rfl, by simp [-rd, rd_set, hS]⟩
      · have h2 := hall (by simp)
        clear htk hall
        subst h2
        simp [theLoop, Tryz.f57, loopsAll, Lp_some, and_assoc, -rd, rd_set, -loadS, -storeS, sfx_load0, sfx_load, sfx_store0, sfx_store, loadS_cons0, storeS_cons0, hS, h1, h18, h19, h20, hlt, hi0, hi, hx, hml, ha, hb, hw]
        exact ⟨_, _, by simp [hS], rfl, rfl, by simp [-rd, rd_set, hS]⟩
    · have h2 := hall (by simp)
      clear htk hall
      subst h2
      simp [theLoop, Tryz.f57, loopsAll, Lp_some, and_assoc, -rd, rd_set, -loadS, -storeS, sfx_load0, sfx_load, sfx_store0, sfx_store, loadS_cons0, storeS_cons0, hS, h1, h18, h19, h20, hlt, hi0, hi, hx, hml, ha, hw]
      exact ⟨_, _, by simp [hS], rfl, rfl, by simp [-rd, rd_set, hS]⟩
  · rintro st ⟨J, S, rfl, hS, he, h1, h18, h19, h20⟩
    rw [List.take_length] at he
    generalize l.any (Rt.bad k) = z at he ⊢
    subst he
    simp [theLoop, Tryz.f57, loopsAll, Lp_some, and_assoc, -rd, rd_set, hS, h1, h18, h19, h20]
    exact ⟨_, _, by simp [hS], rfl, rfl⟩

theorem b_routeRight (l : List Rt) (k : Int) (σ : Store) : callIt E1 (evI E1) 57 [.d (.slice (l.map Rt.D)), .d (.int .i64 k)] σ = some (.d (.bool (routesOk l k)), σ) := by
  refine call_run (fn := Tryz.f57) 17 rfl rfl rfl Tryz.func57 rfl rfl ?_ rfl
  unfold routesOk
  have hml : (l.map Rt.D).length = l.length := by simp
  have hloop := fun hl => l_routeRight 17 l k hl
  generalize l.any (Rt.bad k) = z at hloop ⊢
  generalize l.map Rt.D = L at hml hloop ⊢
  generalize ha : decide (k < 1) = xa
  generalize hb : decide (k > 4) = xb
  generalize hc : decide ((l.length : Int) > 16) = xc
  simp at hb hc
  cases xa
  · cases xb
    · cases xc
      · have hl : l.length ≤ 16 := by have := of_decide_eq_false hc; omega
        simp [Tryz.f57, ec_loop, hml, ha, hb, hc]
        generalize hLL : loopN _ _ _ = LL
        obtain ⟨r, rfl, J, S, hS, h⟩ := at_loop hLL (hloop hl _ rfl rfl rfl (by rw [← hml]; rfl) rfl 17 (by omega))
        rcases h with ⟨rfl, rfl⟩ | ⟨rfl, h4, rfl⟩
        · simp [-rd, rd_set, hS]
        · have h4' := rd_el h4 (by omega)
          simp [-rd, rd_set, hS, h4, h4']
      · simp [Tryz.f57, ec_loop, hml, ha, hb, hc]
    · simp [Tryz.f57, ec_loop, hml, ha, hb]
  · simp [Tryz.f57, ec_loop, hml, ha]
end Go.Proofs

set_option linter.unusedVariables false
set_option linter.unusedSimpArgs false
set_option maxRecDepth 100000
set_option maxHeartbeats 8000000
namespace Go.Proofs
open Go.RowKit Go.Shelf Go.Pv

def Gt.row (g : Gt) (k : Int) : List Fr := g.out.getD k.toNat []
def Gt.has (g : Gt) (k : Int) : Bool := decide (k ≥ 0) && (decide (k < (g.out.length : Int)) && decide (((g.row k).length : Int) > 0))

theorem b_has (g : Gt) (k : Int) (σ : Store) : callIt E1 (evI E1) 152 [g.P, .d (.int .i64 k)] σ = some (.d (.bool (g.has k)), σ) := by
  refine call_run (fn := Tryz.f152) 5 rfl rfl rfl Tryz.func152 rfl rfl ?_ rfl
  unfold Gt.has
  have hml : (g.out.map frsD).length = g.out.length := by simp
  cases h1 : decide (k ≥ 0)
  · simp [Tryz.f152, -loadS, -storeS, loadS_cons0, loadS_consS, storeS_cons0, storeS_consS, cellsOf, h1]
  · cases h2 : decide (k < (g.out.length : Int))
    · simp [Tryz.f152, -loadS, -storeS, loadS_cons0, loadS_consS, storeS_cons0, storeS_consS, cellsOf, h1, h2, hml]
    · have hk0 := of_decide_eq_true h1
      have hk1 := of_decide_eq_true h2
      have hi : k.toNat < g.out.length := by omega
      have hx : (g.out.map frsD)[k.toNat]? = some (frsD (g.row k)) := by simp [Gt.row, hi, List.getD]
      have hneg : ¬ k < 0 := by omega
      have hk0' : 0 ≤ k := by omega
      simp only [Gt.P]
      generalize g.row k = r at hx ⊢
      generalize g.out.map frsD = O at hx hml ⊢
      obtain ⟨hi0, hx⟩ := List.getElem?_eq_some_iff.1 hx
      simp only [frsD] at hx
      simp [Tryz.f152, -loadS, -storeS, loadS_cons0, loadS_consS, storeS_cons0, storeS_consS, cellsOf, h1, h2, hml, hneg, hk0', hi0, hi, hx]

/-- The frame that goes next. -/
def Gt.Next (g : Gt) (k : Int) : Fr × Bool := if g.has k then ((g.row k).headD fr0, true) else (fr0, false)
theorem b_gNext (g : Gt) (k : Int) (σ : Store) : callIt E1 (evI E1) 98 [g.P, .d (.int .i64 k)] σ = some (.tup [(g.Next k).1.P, .d (.bool (g.Next k).2)], σ) := by
  refine call_run (fn := Tryz.f98) 5 rfl rfl rfl Tryz.func98 rfl rfl ?_ rfl
  have h1 := fun σ => b_has g k σ
  unfold Gt.Next
  cases hh : g.has k
  · rw [hh] at h1
    try simp at h1
    simp [Tryz.f98, -loadS, -storeS, loadS_cons0, loadS_consS, storeS_cons0, storeS_consS, cellsOf, h1, fr0]
  · rw [hh] at h1
    unfold Gt.has at hh
    simp only [Bool.and_eq_true, decide_eq_true_eq] at hh
    have hi : k.toNat < g.out.length := by omega
    have hx : (g.out.map frsD)[k.toNat]? = some (frsD (g.row k)) := by simp [Gt.row, hi, List.getD]
    have hml : (g.out.map frsD).length = g.out.length := by simp
    have hneg : ¬ k < 0 := by omega
    have hk0 : 0 ≤ k := by omega
    have hk1 : k < (g.out.length : Int) := hh.2.1
    have hpos := hh.2.2
    simp only [Gt.P]
    generalize g.row k = r at hx hpos ⊢
    try simp at h1
    generalize g.out.map frsD = O at hx hml h1 ⊢
    obtain ⟨hi0, hx⟩ := List.getElem?_eq_some_iff.1 hx
    cases r with
    | nil => simp at hpos
    | cons f r =>
      simp only [frsD] at hx
      simp [Tryz.f98, -loadS, -storeS, loadS_cons0, loadS_consS, storeS_cons0, storeS_consS, cellsOf, h1, hml, hneg, hk0, hk1, hi0, hi, hx]

def waitsL (l : List (List Fr)) : Int := l.foldl (fun n r => n + (r.length : Int)) 0
theorem waitsL_succ (l : List (List Fr)) {i : Nat} (hi : i < l.length) : waitsL (l.take (i + 1)) = waitsL (l.take i) + (l[i].length : Int) := by
  unfold waitsL
  rw [List.take_add_one, List.getElem?_eq_getElem hi, List.foldl_append]; rfl
theorem waitsL_bound (l : List (List Fr)) (hl : ∀ r ∈ l, r.length ≤ 100000) : ∀ n : Nat, n ≤ l.length → 0 ≤ waitsL (l.take n) ∧ waitsL (l.take n) ≤ n * 100000 := by
  intro n
  induction n with
  | zero => intro _; simp [waitsL]
  | succ n ih =>
    intro hn
    have := ih (by omega)
    have h1 := hl _ (List.getElem_mem (show n < l.length by omega))
    rw [waitsL_succ l (by omega)]
    omega

theorem l_waits (m : Nat) (l : List (List Fr)) (hl : l.length ≤ 1000) (hr : ∀ r ∈ l, r.length ≤ 100000) (σ : Store) (S : List PV) (hS : S.length = 19) (h3 : rd S 3 = .d (.int .i64 0)) (h7 : rd S 7 = .d (.slice (l.map frsD))) (h8 : rd S 8 = .d (.int .i64 l.length)) (h9 : rd S 9 = .d (.int .i64 0)) (k : Nat) (hk : l.length < k) :
    Lp (loopN (evCode E1 (evI E1) m (theLoop Tryz.f107 0)) k ⟨S, σ⟩) fun r => ∃ (S' : List PV), r = (.exit 0, ⟨S', σ⟩) ∧ S'.length = 19 ∧ rd S' 3 = .d (.int .i64 (waitsL l)) := by
  refine loop_inv (fun i st => ∃ (S : List PV), st = ⟨S, σ⟩ ∧ S.length = 19 ∧ rd S 3 = .d (.int .i64 (waitsL (l.take i))) ∧ rd S 7 = .d (.slice (l.map frsD)) ∧ rd S 8 = .d (.int .i64 l.length) ∧ rd S 9 = .d (.int .i64 i)) _ l.length ?_ ?_ k 0 _ (by omega) (by omega) ⟨S, rfl, hS, h3, h7, h8, h9⟩
  · rintro i st hi ⟨S, rfl, hS, h3, h7, h8, h9⟩
    have hlt : (i : Int) < (l.length : Int) := by omega
    have hx : (l.map frsD)[i]? = some (frsD l[i]) := by simp [hi]
    have hs := waitsL_succ l hi
    have hb := waitsL_bound l hr (i + 1) (by omega)
    rw [hs] at hb ⊢
    have hw : IntKind.i64.wrap (waitsL (l.take i) + (l[i].length : Int)) = waitsL (l.take i) + (l[i].length : Int) := wrap_ok (by omega) (by omega)
    generalize waitsL (l.take i) = z at hw h3 ⊢
    generalize l[i] = r at hx hw ⊢
    generalize l.map frsD = O at hx h7 ⊢
    obtain ⟨hi0, hx⟩ := List.getElem?_eq_some_iff.1 hx
    simp only [frsD] at hx
    simp [theLoop, Tryz.f107, loopsAll, Lp_some, and_assoc, -rd, rd_set, hS, h3, h7, h8, h9, hlt, hi0, hx, hw, wrap_succ i (by omega)]
    done
  · rintro st ⟨S, rfl, hS, h3, h7, h8, h9⟩
    rw [List.take_length] at h3
    simp [theLoop, Tryz.f107, loopsAll, Lp_some, and_assoc, -rd, rd_set, hS, h3, h7, h8, h9]

theorem b_waits (g : Gt) (hl : g.out.length ≤ 1000) (hr : ∀ r ∈ g.out, r.length ≤ 100000) (σ : Store) : callIt E1 (evI E1) 107 [g.P] σ = some (.d (.int .i64 (waitsL g.out)), σ) := by
  refine call_run (fn := Tryz.f107) 1001 rfl rfl rfl Tryz.func107 rfl rfl ?_ rfl
  have hloop := l_waits 1001 g.out hl hr
  have hml : (g.out.map frsD).length = g.out.length := by simp
  generalize waitsL g.out = z at hloop ⊢
  simp only [Gt.P]
  generalize g.out.map frsD = O at hml hloop ⊢
  simp [Tryz.f107, ec_loop, -loadS, -storeS, loadS_cons0, loadS_consS, storeS_cons0, storeS_consS, cellsOf, hml]
  generalize hLL : loopN _ _ _ = LL
  obtain ⟨r, rfl, S, rfl, hS, h3⟩ := at_loop hLL (hloop _ _ rfl rfl rfl rfl rfl 1001 (by omega))
  simp [-rd, rd_set, hS, h3]
end Go.Proofs

set_option linter.unusedVariables false
set_option linter.unusedSimpArgs false
set_option maxRecDepth 100000
set_option maxHeartbeats 8000000
namespace Go.Proofs
open Go.RowKit Go.Shelf Go.Pv

/-- A wild function's body, run. -/
theorem evI_run2 {f : FuncId} {fn : Func} {c : Code} {args : List PV} {σ σ' : Store} {v : PV} (m : Nat) (hw : wildF f = true) (hg : E1.good f = true) (hf : E1.P.funcs[f]? = some fn) (hb : fn.body = some c)
    (h : ((evCode (E2 f) (evI E1) m c ⟨args ++ List.replicate (fn.ntmps - args.length) .undef, σ⟩).bind fun r => if r.1 = .normal ∨ r.1 = .ret then (resVal E1.P fn r.2).map fun v => (v, r.2.store) else none) = some (v, σ')) (ht : σ'.take σ.length = σ) : evI E1 f args σ = some (v, σ') := by
  cases hc : evCode (E2 f) (evI E1) m c ⟨args ++ List.replicate (fn.ntmps - args.length) .undef, σ⟩ with
  | none => simp [hc] at h
  | some r =>
    obtain ⟨e, st'⟩ := r
    simp only [hc, Option.bind_some] at h
    split at h
    · rename_i he
      cases hv : resVal E1.P fn st' with
      | none => rw [hv] at h; cases h
      | some u =>
        rw [hv] at h
        simp only [Option.map_some, Option.some.injEq, Prod.mk.injEq] at h
        obtain ⟨rfl, rfl⟩ := h
        exact evI_introW m hg hf hb (by rw [E1at f hw]; exact hc) he (fun _ => ht) hv
    · cases h

theorem appF1 (A : List Fr) (f : Fr) (h : A.length ≤ 100000) : evAppend Tryz.prog 44 (acc (A.map Fr.D)) (.d (.slice [f.D])) = some (acc ((A ++ [f]).map Fr.D)) := by
  rw [app22 (A.map Fr.D) [f.D] (rowsOk_Fr A) rfl (by simp [roomB]; omega), List.map_append]
  rfl

/-- A row, as a cell. -/
def rowP (r : List Fr) : PV := .d (.slice (r.map Fr.D))
/-- Rows, as data or in a box. -/
def RowsAt (σ : Store) (p : PV) (rows : List (List Fr)) : Prop := p = .d (.slice (rows.map frsD)) ∨ ∃ id, p = .ms id 0 rows.length 1 ∧ σ[id]? = some (rows.map rowP)
theorem RowsAt.app {σ T : Store} {p : PV} {rows : List (List Fr)} (h : RowsAt σ p rows) : RowsAt (σ ++ T) p rows := by
  rcases h with h | ⟨id, h1, h2⟩
  · exact .inl h
  · exact .inr ⟨id, h1, pre_get h2⟩

theorem call_imS {f : FuncId} {args : List PV} {σ σ' σ2 : Store} {u v : PV} (ho : E1.ov f = none) (hp : E1.pure f = false) (hr : E1.ro f = false) (h : evI E1 f args σ = some (u, σ')) (hd : u.isData = true) (hs : u.strip = v) (ht : σ'.take σ.length = σ2) : callIt E1 (evI E1) f args σ = some (v, σ2) := by
  simp [callIt, ho, hp, hr, h, hd, hs, ht]
theorem s_in1 {σ : Store} {h : Nat} (l : List Fr) (p : Hp) (hl : l.length ≤ 100000) (hh : σ[h]? = some (cellsOf p.P)) : callIt E1 (evI E1) 155 [rowP l, .ptr h 0] σ = some (rowP (l ++ [p.f]), σ) := by
  refine call_imS (σ' := σ) (u := acc ((l ++ [p.f]).map Fr.D)) rfl rfl rfl ?_ (acc_data _) (acc_strip _) (by simp)
  refine evI_run (fn := Tryz.f155) 5 rfl Tryz.func155 rfl ?_
  obtain ⟨b, ⟨e, id, rm, ln, data⟩⟩ := p
  have h1 : loadS σ h 1 5 = some [.d (.bool e), .d (.int .i64 id), .d (.bool rm), .d (.int .i64 ln), .d (.slice (data.map byD))] := by
    unfold loadS; rw [hh]; rfl
  have ha := appF1 l ⟨e, id, rm, ln, data⟩ hl
  unfold rowP
  have hml : (l.map Fr.D).length = l.length := by simp
  have hrow := rowsOk_Fr l
  simp only [Fr.D] at ha
  generalize (l ++ [Fr.mk e id rm ln data]).map Fr.D = L1 at ha ⊢
  generalize l.map Fr.D = L at ha hml hrow ⊢
  have htk : L.take l.length = L := by rw [← hml]; exact List.take_length
  simp [Tryz.f155, -loadS, -rowsOk, h1, hrow, htk, hml, rowsFrom, ha]
  cases L1 <;> rfl

theorem b_done1 (l : List Fr) (hl : l ≠ []) (σ : Store) : callIt E1 (evI E1) 154 [rowP l] σ = some (rowP l.tail, σ) := by
  unfold rowP
  refine call_run (fn := Tryz.f154) 5 rfl rfl rfl Tryz.func154 rfl rfl ?_ rfl
  cases l with
  | nil => exact absurd rfl hl
  | cons f l =>
    have h2 := rowsOk_Fr (f :: l)
    simp only [List.map_cons, List.tail_cons, Fr.D] at h2 ⊢
    generalize l.map Fr.D = L at h2 ⊢
    simp [Tryz.f154, -rowsOk, h2]

theorem ms_store {σ : Store} {G R C : List PV} {i : Nat} {v : PV} (h : i < C.length) : storeS (σ ++ [G, R, C]) (σ.length + 2) i [v] = some (σ ++ [G, R, C.set i v]) := by
  have hg : (σ ++ [G, R, C])[σ.length + 2]? = some C := by rw [List.getElem?_append_right (by omega), Nat.add_sub_cancel_left]; rfl
  rw [storeS_one v hg h, List.set_append_right _ _ (by omega), Nat.add_sub_cancel_left]
  rfl
theorem ms_G {σ : Store} {G R C : List PV} {off n : Nat} : loadS (σ ++ [G, R, C]) σ.length off n = if off + n ≤ G.length then some ((G.drop off).take n) else none := by
  rw [sfx_load0]; rfl

theorem l_changed (m : Nat) (σ : Store) (rows : List (List Fr)) (hn : rows.length ≤ 1000) (k : Nat) (hk : k < rows.length) (row' : List Fr) (c : Nat) (caps : List PV) (hce : (extAll true c).isNone = true)
    (hcl : ∀ X : Store, callIt E1 (evI E1) c ([rowP rows[k]] ++ caps.map PV.strip) (σ ++ X) = some (rowP row', σ ++ X)) (outP : PV) (hout : RowsAt σ outP rows) (g0 g1 g3 : PV) (R C0 : List PV) (hC0 : C0.length = rows.length)
    (S : List PV) (hS : S.length = 44) (h1 : rd S 1 = .d (.int .i64 k)) (h2 : rd S 2 = .func (.func c) [] caps) (h3 : rd S 3 = .ptr σ.length 0) (h6 : rd S 6 = .ptr (σ.length + 1) 0) (h7 : rd S 7 = .ms (σ.length + 2) 0 rows.length 1) (h15 : rd S 15 = .d (.int .i64 rows.length)) (h16 : rd S 16 = .d (.int .i64 0)) (kk : Nat) (hkk : rows.length < kk) :
    Lp (loopN (evCode (E2 153) (evI E1) m (theLoop Tryz.f153 0)) kk ⟨S, σ ++ [[g0, g1, outP, g3], R, C0]⟩) fun r => ∃ S' : List PV, r = (.exit 0, ⟨S', σ ++ [[g0, g1, outP, g3], R, (rows.set k row').map rowP]⟩) ∧ S'.length = 44 ∧ rd S' 3 = .ptr σ.length 0 ∧ rd S' 6 = .ptr (σ.length + 1) 0 ∧ rd S' 7 = .ms (σ.length + 2) 0 rows.length 1 := by
  refine loop_inv (fun i st => ∃ (C S : List PV), st = ⟨S, σ ++ [[g0, g1, outP, g3], R, C]⟩ ∧ C.length = rows.length ∧ (∀ j, j < i → C[j]? = ((rows.set k row').map rowP)[j]?) ∧ S.length = 44 ∧ rd S 1 = .d (.int .i64 k) ∧ rd S 2 = .func (.func c) [] caps ∧ rd S 3 = .ptr σ.length 0 ∧ rd S 6 = .ptr (σ.length + 1) 0 ∧ rd S 7 = .ms (σ.length + 2) 0 rows.length 1 ∧ rd S 15 = .d (.int .i64 rows.length) ∧ rd S 16 = .d (.int .i64 i)) _ rows.length ?_ ?_ kk 0 _ (by omega) (by omega) ⟨C0, S, rfl, hC0, by omega, hS, h1, h2, h3, h6, h7, h15, h16⟩
  · rintro i st hi ⟨C, S, rfl, hCl, hC, hS, h1, h2, h3, h6, h7, h15, h16⟩
    have hlt : (i : Int) < (rows.length : Int) := by omega
    have hiC : i < C.length := by omega
    have hst := fun (C : List PV) v (h : i < C.length) => ms_store (σ := σ) (G := [g0, g1, outP, g3]) (R := R) (C := C) (i := i) (v := v) h
    have hx : (rows.map frsD)[i]? = some (frsD rows[i]) := by simp [hi]
    have hy : (rows.map rowP)[i]? = some (rowP rows[i]) := by simp [hi]
    have hml : (rows.map frsD).length = rows.length := by simp
    have hG := fun (C : List PV) off n => ms_G (σ := σ) (G := [g0, g1, outP, g3]) (R := R) (C := C) (off := off) (n := n)
    by_cases hik : i = k
    · subst hik
      have hfin : ∀ j, j < i + 1 → (C.set i (rowP row'))[j]? = ((rows.set i row').map rowP)[j]? := by
        intro j hj
        by_cases hji : j = i
        · subst hji
          rw [List.getElem?_set, if_pos rfl, if_pos hiC]
          simp [hi]
        · rw [List.getElem?_set, if_neg (Ne.symm hji)]
          exact hC j (by omega)
      have hcl' := fun (C : List PV) => hcl [[g0, g1, outP, g3], R, C]
      generalize rows[i] = r at hx hy hcl'
      generalize (rows.set i row').map rowP = RR at hC hfin ⊢
      simp only [rowP, List.cons_append, List.nil_append] at hy hcl' hfin
      have hfin' : ∀ x, (C.set i x).set i (.d (.slice (row'.map Fr.D))) = C.set i (.d (.slice (row'.map Fr.D))) := fun x => List.set_set _
      rcases hout with rfl | ⟨id, rfl, hid⟩
      · generalize rows.map frsD = O at hx hml hG hst hcl' ⊢
        obtain ⟨hi0, hx⟩ := List.getElem?_eq_some_iff.1 hx
        simp only [frsD] at hx
        simp [theLoop, Tryz.f153, mkF, loopsAll, Lp_some, and_assoc, -rd, rd_set, -loadS, -storeS, hG, hst, hS, h1, h2, h3, h6, h7, h15, h16, hlt, hi, hi0, hx, hml, hCl, hiC, hcl', E2call _ _ _ _ _ hce, wrap_succ i (by omega), hfin']
        exact hfin
      · have hld := fun (C : List PV) => loadS_one (pre_get (T := [[g0, g1, .ms id 0 rows.length 1, g3], R, C]) hid) hy
        simp [theLoop, Tryz.f153, mkF, loopsAll, Lp_some, and_assoc, -rd, rd_set, -loadS, -storeS, hG, hst, hld, hS, h1, h2, h3, h6, h7, h15, h16, hlt, hi, hCl, hiC, hcl', E2call _ _ _ _ _ hce, wrap_succ i (by omega), hfin']
        exact hfin
    · have hb : ((i : Int) == (k : Int)) = false := by simp; omega
      have hfin : ∀ j, j < i + 1 → (C.set i (rowP rows[i]))[j]? = ((rows.set k row').map rowP)[j]? := by
        intro j hj
        by_cases hji : j = i
        · subst hji
          rw [List.getElem?_set, if_pos rfl, if_pos hiC]
          simp [hi, List.getElem?_set, Ne.symm hik]
        · rw [List.getElem?_set, if_neg (Ne.symm hji)]
          exact hC j (by omega)
      generalize rows[i] = r at hx hy hfin
      generalize (rows.set k row').map rowP = RR at hC hfin ⊢
      simp only [rowP] at hy hfin
      rcases hout with rfl | ⟨id, rfl, hid⟩
      · generalize rows.map frsD = O at hx hml hG hst ⊢
        obtain ⟨hi0, hx⟩ := List.getElem?_eq_some_iff.1 hx
        simp only [frsD] at hx
        simp [theLoop, Tryz.f153, mkF, loopsAll, Lp_some, and_assoc, -rd, rd_set, -loadS, -storeS, hG, hst, hS, h1, h2, h3, h6, h7, h15, h16, hlt, hi, hi0, hx, hml, hCl, hiC, hb, wrap_succ i (by omega)]
        exact hfin
      · have hld := fun (C : List PV) => loadS_one (pre_get (T := [[g0, g1, .ms id 0 rows.length 1, g3], R, C]) hid) hy
        simp [theLoop, Tryz.f153, mkF, loopsAll, Lp_some, and_assoc, -rd, rd_set, -loadS, -storeS, hG, hst, hld, hS, h1, h2, h3, h6, h7, h15, h16, hlt, hi, hCl, hiC, hb, wrap_succ i (by omega)]
        exact hfin
  · rintro st ⟨C, S, rfl, hCl, hC, hS, h1, h2, h3, h6, h7, h15, h16⟩
    have hCe : C = (rows.set k row').map rowP := by
      apply List.ext_getElem?
      intro j
      by_cases hj : j < rows.length
      · exact hC j hj
      · rw [List.getElem?_eq_none (by omega), List.getElem?_eq_none (by simp; omega)]
    subst hCe
    generalize (rows.set k row').map rowP = RR
    simp [theLoop, Tryz.f153, mkF, loopsAll, Lp_some, and_assoc, -rd, rd_set, hS, h1, h2, h3, h6, h7, h15, h16]

theorem repRow (n : Nat) : repCells n [PV.e0] = List.replicate n .e0 := repCells_one n _

/-- A gateway, as it lies in a box: its row of routes, its room, what waits, what was lost. -/
theorem s_changed {σ : Store} (rows : List (List Fr)) (hn : rows.length ≤ 1000) (k : Nat) (hk : k < rows.length) (row' : List Fr) (c : Nat) (caps : List PV) (hce : (extAll true c).isNone = true)
    (hcl : ∀ X : Store, callIt E1 (evI E1) c ([rowP rows[k]] ++ caps.map PV.strip) (σ ++ X) = some (rowP row', σ ++ X)) (outP : PV) (hout : RowsAt σ outP rows) (g0 g1 g3 : PV) (o0 : oneP g0 = true) (o1 : oneP g1 = true) (o3 : oneP g3 = true) (s0 : g0.strip1 = g0) (s1 : g1.strip1 = g1) (s3 : g3.strip1 = g3) (p0 : g0.keep0 = g0) (p1 : g1.keep0 = g1) (p3 : g3.keep0 = g3) :
    ∃ X : Store, evI E1 153 [.agg [g0, g1, outP, g3], .d (.int .i64 k), .func (.func c) [] caps] σ = some (.agg [g0, g1, .ms (σ.length + 2) 0 rows.length 1, g3], σ ++ X) ∧ X[2]? = some ((rows.set k row').map rowP) := by
  refine ⟨[[g0, g1, .ms (σ.length + 2) 0 rows.length 1, g3], [g0, g1, .ms (σ.length + 2) 0 rows.length 1, g3], (rows.set k row').map rowP], ?_, rfl⟩
  refine evI_run2 (fn := Tryz.f153) (rows.length + 1) rfl rfl Tryz.func153 rfl ?_ (by simp)
  have hloop := l_changed (rows.length + 1) σ rows hn k hk row' c caps hce hcl outP hout g0 g1 g3
  have hml : (rows.map frsD).length = rows.length := by simp
  have hmk : ∀ n : Nat, n ≤ 1000 → evMake Tryz.prog 68 n n = some (1, List.replicate n .e0) := by
    intro n hn
    unfold evMake
    rw [Ty.app68]
    simp [repCells_one, roomB]
    omega
  have hmk' := hmk rows.length hn
  clear hmk
  have hst6 : ∀ (A B C : List PV) (a b c d : PV), storeS (σ ++ [A, [B.headD .undef, B.headD .undef, B.headD .undef, B.headD .undef], C]) (σ.length + 1) 0 [a, b, c, d] = some (σ ++ [A, [a, b, c, d], C]) := by
    intros
    rw [sfx_store]
    rfl
  generalize (rows.set k row').map rowP = RR at hloop ⊢
  rcases hout with rfl | ⟨id, rfl, hid⟩
  · generalize rows.map frsD = O at hml hloop ⊢
    simp [Tryz.f153, mkF, ec_loop, -loadS, -storeS, sfx_load0, sfx_load, sfx_store0, sfx_store, loadS_cons0, loadS_consS, storeS_cons0, storeS_consS, hml, hmk', p0, p1, p3]
    generalize hLL : loopN _ _ _ = LL
    obtain ⟨r, rfl, S, rfl, hS, h3, h6, h7⟩ := at_loop hLL (hloop _ _ (by simp) _ rfl rfl rfl rfl rfl rfl rfl rfl (rows.length + 1) (by omega))
    have h6' := rd_el h6 (by omega)
    simp [mkF, -rd, rd_set, -loadS, -storeS, sfx_load0, sfx_load, sfx_store0, sfx_store, loadS_cons0, loadS_consS, storeS_cons0, storeS_consS, hS, h3, h6, h6', h7, o0, o1, o3, s0, s1, s3, p0, p1, p3]
    done
  · simp [Tryz.f153, mkF, ec_loop, -loadS, -storeS, sfx_load0, sfx_load, sfx_store0, sfx_store, loadS_cons0, loadS_consS, storeS_cons0, storeS_consS, hml, hmk', p0, p1, p3]
    generalize hLL : loopN _ _ _ = LL
    obtain ⟨r, rfl, S, rfl, hS, h3, h6, h7⟩ := at_loop hLL (hloop _ _ (by simp) _ rfl rfl rfl rfl rfl rfl rfl rfl (rows.length + 1) (by omega))
    have h6' := rd_el h6 (by omega)
    simp [mkF, -rd, rd_set, -loadS, -storeS, sfx_load0, sfx_load, sfx_store0, sfx_store, loadS_cons0, loadS_consS, storeS_cons0, storeS_consS, hS, h3, h6, h6', h7, o0, o1, o3, s0, s1, s3, p0, p1, p3]
    done
end Go.Proofs

set_option linter.unusedVariables false
set_option linter.unusedSimpArgs false
set_option maxRecDepth 100000
set_option maxHeartbeats 8000000
namespace Go.Proofs
open Go.RowKit Go.Shelf Go.Pv

theorem frzD_d (σ : Store) (k : Nat) (x : DV) : frzD σ (k + 1) (.d x) = some x := rfl
theorem frzD_ms (σ : Store) (k id off len sz : Nat) : frzD σ (k + 1) (.ms id off len sz) = (σ[id]?).bind fun cells => if off + len * sz ≤ cells.length then (allD (frzD σ k) ((cells.drop off).take (len * sz))).map fun ds => DV.slice (chunks sz len ds) else none := rfl
theorem allD_rows (σ : Store) (k : Nat) : ∀ (rows : List (List Fr)), allD (frzD σ (k + 1)) (rows.map rowP) = some (rows.map fun r => .slice (r.map Fr.D))
  | [] => rfl
  | r :: rows => by rw [List.map_cons, allD, rowP, frzD_d, Option.bind_some, allD_rows σ k rows]; rfl
theorem chunks_rows : ∀ (rows : List (List Fr)), chunks 1 rows.length (rows.map fun r => DV.slice (r.map Fr.D)) = rows.map frsD
  | [] => rfl
  | r :: rows => by
    simp only [List.map_cons, List.length_cons, chunks, List.take_succ_cons, List.take_zero, List.drop_succ_cons, List.drop_zero, chunks_rows rows]
    rfl
theorem frz_rows {σ : Store} {id : Nat} {rows : List (List Fr)} (h : σ[id]? = some (rows.map rowP)) (k : Nat) : frzD σ (k + 2) (.ms id 0 rows.length 1) = some (.slice (rows.map frsD)) := by
  rw [frzD_ms]
  rw [h]
  simp only [Option.bind_some, Nat.zero_add, Nat.mul_one, List.length_map, Nat.le_refl, if_true, List.drop_zero]
  rw [List.take_of_length_le (by simp), allD_rows]
  simp only [Option.map_some, chunks_rows]

def intP1 (x : Int) : PV := .d (.int .i64 x)
theorem allD_ints (σ : Store) (k : Nat) : ∀ (l : List Int), allD (frzD σ (k + 1)) (l.map intP1) = some (l.map fun x => .int .i64 x)
  | [] => rfl
  | r :: rows => by rw [List.map_cons, allD, intP1, frzD_d, Option.bind_some, allD_ints σ k rows]; rfl
theorem chunks_ints : ∀ (l : List Int), chunks 1 l.length (l.map fun x => DV.int .i64 x) = l.map intD
  | [] => rfl
  | r :: rows => by
    simp only [List.map_cons, List.length_cons, chunks, List.take_succ_cons, List.take_zero, List.drop_succ_cons, List.drop_zero, chunks_ints rows]
    rfl
theorem frz_ints {σ : Store} {id : Nat} {l : List Int} (h : σ[id]? = some (l.map intP1)) (k : Nat) : frzD σ (k + 2) (.ms id 0 l.length 1) = some (.slice (l.map intD)) := by
  rw [frzD_ms]
  rw [h]
  simp only [Option.bind_some, Nat.zero_add, Nat.mul_one, List.length_map, Nat.le_refl, if_true, List.drop_zero]
  rw [List.take_of_length_le (by simp), allD_ints]
  simp only [Option.map_some, chunks_ints]

/-- A row of numbers, as data or in a box. -/
def IntsAt (σ : Store) (p : PV) (l : List Int) : Prop := p = .d (.slice (l.map intD)) ∨ ∃ id, p = .ms id 0 l.length 1 ∧ σ[id]? = some (l.map intP1)
theorem RowsAt.frz {σ : Store} {p : PV} {rows : List (List Fr)} (h : RowsAt σ p rows) (k : Nat) : frzD σ (k + 2) p = some (.slice (rows.map frsD)) := by
  rcases h with rfl | ⟨id, rfl, h⟩
  · rfl
  · exact frz_rows h k
theorem IntsAt.frz {σ : Store} {p : PV} {l : List Int} (h : IntsAt σ p l) (k : Nat) : frzD σ (k + 2) p = some (.slice (l.map intD)) := by
  rcases h with rfl | ⟨id, rfl, h⟩
  · rfl
  · exact frz_ints h k
theorem frz_gate {σ : Store} {a b : DV} {p q : PV} {rows : List (List Fr)} {l : List Int} (hp : RowsAt σ p rows) (hq : IntsAt σ q l) (k : Nat) : frzP σ (k + 2) (.agg [.d a, .d b, p, q]) = some (.agg [.d a, .d b, .d (.slice (rows.map frsD)), .d (.slice (l.map intD))]) := by
  simp only [frzP, frz1, allD, hp.frz k, hq.frz k, Option.bind_some, Option.map_some, frzD_d, List.map_cons, List.map_nil]

theorem c_changed {σ : Store} {rows : List (List Fr)} (hn : rows.length ≤ 1000) {k : Nat} (hk : k < rows.length) {row' : List Fr} {c : Nat} {caps : List PV} (hce : (extAll true c).isNone = true)
    (hcl : ∀ X : Store, callIt E1 (evI E1) c ([rowP rows[k]] ++ caps.map PV.strip) (σ ++ X) = some (rowP row', σ ++ X)) {outP : PV} (hout : RowsAt σ outP rows) {g0 g1 g3 : PV} (o0 : oneP g0 = true) (o1 : oneP g1 = true) (o3 : oneP g3 = true) (s0 : g0.strip1 = g0) (s1 : g1.strip1 = g1) (s3 : g3.strip1 = g3) (p0 : g0.keep0 = g0) (p1 : g1.keep0 = g1) (p3 : g3.keep0 = g3) :
    ∃ X : Store, callIt E1 (evI E1) 153 [.agg [g0, g1, outP, g3], .d (.int .i64 k), .func (.func c) [] caps] σ = some (.agg [g0, g1, .ms (σ.length + 2) 0 rows.length 1, g3], σ ++ X) ∧ X[2]? = some ((rows.set k row').map rowP) := by
  obtain ⟨X, h1, h2⟩ := s_changed rows hn k hk row' c caps hce hcl outP hout g0 g1 g3 o0 o1 o3 s0 s1 s3 p0 p1 p3
  refine ⟨X, call_ptr rfl rfl rfl h1 ?_ ?_, h2⟩
  · simp [PV.isData, isDataL]
  · simp only [PV.strip, List.map_cons, List.map_nil, s0, s1, s3]
    rfl

def Gt.Done (g : Gt) (k : Int) : Gt := if g.has k then { g with out := g.out.set k.toNat (g.row k).tail } else g

theorem b_gDone (g : Gt) (k : Int) (hn : g.out.length ≤ 1000) (σ : Store) : callIt E1 (evI E1) 100 [g.P, .d (.int .i64 k)] σ = some ((g.Done k).P, σ) := by
  refine call_run2 (fn := Tryz.f100) 5 rfl rfl rfl rfl Tryz.func100 rfl rfl ?_
  have h1 := fun σ => b_has g k σ
  unfold Gt.Done
  cases hh : g.has k
  · rw [hh] at h1
    try simp at h1
    simp [Tryz.f100, mkF, -loadS, -storeS, loadS_cons0, loadS_consS, storeS_cons0, storeS_consS, cellsOf, h1]
  · rw [hh] at h1
    unfold Gt.has at hh
    simp only [Bool.and_eq_true, decide_eq_true_eq] at hh
    obtain ⟨j, rfl⟩ : ∃ j : Nat, k = (j : Int) := ⟨k.toNat, by omega⟩
    have hi : j < g.out.length := by omega
    have hrow : g.row (j : Int) = g.out[j] := by simp [Gt.row, hi, List.getD]
    have hne : g.out[j] ≠ [] := by
      rw [hrow] at hh
      intro he
      rw [he] at hh
      simp at hh
    obtain ⟨X, c1, c2⟩ := c_changed (σ := [cellsOf g.P, [.e0, .d (.int .i64 0), .e0, .e0]]) hn hi (row' := (g.out[j]).tail) (c := 154) (caps := []) rfl (fun Y => b_done1 g.out[j] hne _) (.inl rfl)
      (g0 := .d (.slice (g.rs.map Rt.D))) (g1 := .d (.int .i64 g.cap)) (g3 := .d (.slice (g.lost.map intD))) rfl rfl rfl rfl rfl rfl rfl rfl rfl
    rw [hrow, Int.toNat_natCast]
    simp only [if_true]
    have hlen : (g.out.set j (g.out[j]).tail).length = g.out.length := by simp
    have hfz := fun (B : List PV) (n : Nat) => frz_gate (σ := [cellsOf g.P, B] ++ X) (a := .slice (g.rs.map Rt.D)) (b := .int .i64 g.cap) (p := .ms 4 0 g.out.length 1) (q := .d (.slice (g.lost.map intD))) (rows := g.out.set j (g.out[j]).tail) (l := g.lost)
      (.inr ⟨4, by rw [hlen], by rw [List.getElem?_append_right (by simp)]; exact c2⟩) (.inl rfl) n
    generalize g.out.set j (g.out[j]).tail = R' at c2 hfz ⊢
    simp only [cellsOf, Gt.P] at c1 hfz ⊢
    try simp at h1
    simp only [List.length_cons, List.length_nil] at c1
    generalize g.out.map frsD = O at h1 c1 hfz ⊢
    simp [Tryz.f100, mkF, -loadS, -storeS, loadS_cons0, loadS_consS, storeS_cons0, storeS_consS, cellsOf, h1, c1]
    exact hfz _ (X.length + 1)
end Go.Proofs

set_option linter.unusedVariables false
set_option linter.unusedSimpArgs false
set_option maxRecDepth 100000
set_option maxHeartbeats 8000000
namespace Go.Proofs
open Go.RowKit Go.Shelf Go.Pv

theorem Ty.k170' : kindsOf Tryz.prog 170 = some [.int .i64, .int .i64, .int .i64, .int .i64] := by kernel_rfl
def hAt (h : List Int) (k : Int) : Int := h.getD k.toNat 0
def relax1 (h : List Int) (r : Rt) : List Int := h.set r.b.toNat (max (hAt h r.b) (hAt h r.a + 1))
def relaxL (l : List Rt) (h : List Int) : List Int := l.foldl relax1 h
def relaxN (l : List Rt) : Nat → List Int → List Int
  | 0, h => h
  | n + 1, h => if h = relaxL l h then relaxL l h else relaxN l n (relaxL l h)
def loopless (l : List Rt) (k : Int) : Bool := routesOk l k && (let h := relaxN l k.toNat [0, 0, 0, 0]; decide (h = relaxL l h))
/-- Heights within bounds. -/
def hOk (B : Int) (h : List Int) : Prop := h.length = 4 ∧ ∀ x ∈ h, 0 ≤ x ∧ x ≤ B
theorem hAt_ok {B : Int} {h : List Int} (hh : hOk B h) (hB : 0 ≤ B) (k : Int) : 0 ≤ hAt h k ∧ hAt h k ≤ B := by
  unfold hAt
  by_cases hk : k.toNat < h.length
  · rw [List.getD_eq_getElem?_getD, List.getElem?_eq_getElem hk]
    exact hh.2 _ (List.getElem_mem hk)
  · rw [List.getD_eq_getElem?_getD, List.getElem?_eq_none (by omega)]
    simp; exact hB
theorem relax1_ok {B : Int} {h : List Int} (hB : 0 ≤ B) (hh : hOk B h) (r : Rt) : hOk (B + 1) (relax1 h r) := by
  have h1 := hAt_ok hh hB r.b
  have h2 := hAt_ok hh hB r.a
  refine ⟨by simp [relax1, hh.1], fun x hx => ?_⟩
  rcases List.mem_or_eq_of_mem_set hx with hx | rfl
  · have := hh.2 x hx; omega
  · omega
theorem relaxL_take (l : List Rt) (h : List Int) {i : Nat} (hi : i < l.length) : relaxL (l.take (i + 1)) h = relax1 (relaxL (l.take i) h) l[i] := by
  unfold relaxL
  rw [List.take_add_one, List.getElem?_eq_getElem hi, List.foldl_append]; rfl
theorem relaxL_ok {B : Int} (hB : 0 ≤ B) : ∀ (l : List Rt) (h : List Int), hOk B h → hOk (B + l.length) (relaxL l h)
  | [], h, hh => by simpa [relaxL] using hh
  | r :: l, h, hh => by
    have := relaxL_ok (B := B + 1) (by omega) l (relax1 h r) (relax1_ok hB hh r)
    show hOk _ (relaxL l (relax1 h r))
    rw [show B + ((r :: l).length : Int) = B + 1 + (l.length : Int) by simp; omega]
    exact this

theorem h_load {h : List Int} {J : Store} {k : Int} (hl : h.length = 4) (hk : k.toNat < 4) : loadS (h.map intP1 :: J) 0 k.toNat 1 = some [.d (.int .i64 (hAt h k))] := by
  refine loadS_one rfl ?_
  rw [List.getElem?_map, List.getElem?_eq_getElem (by omega)]
  simp [hAt, intP1, List.getD, hl, hk]
theorem h_store {h : List Int} {J : Store} {k : Int} (x : Int) (hl : h.length = 4) (hk : k.toNat < 4) : storeS (h.map intP1 :: J) 0 k.toNat [.d (.int .i64 x)] = some ((h.set k.toNat x).map intP1 :: J) := by
  rw [storeS_one (cells := h.map intP1) _ rfl (by simpa [hl] using hk)]
  simp [List.map_set, intP1]

def Rt.on (r : Rt) : Prop := 0 ≤ r.a ∧ r.a < 4 ∧ 0 ≤ r.b ∧ r.b < 4

theorem l_relax1 (m : Nat) (l : List Rt) (hl : l.length ≤ 16) (hr : ∀ r ∈ l, r.on) (h : List Int) (hh : hOk 200 h) (J0 : Store) (v0 v1 v4 v6 v9 v16 v17 : PV) (S : List PV) (hS : S.length = 68) (h0 : rd S 0 = v0) (h1 : rd S 1 = v1) (h4 : rd S 4 = v4) (h6 : rd S 6 = v6) (h9 : rd S 9 = v9) (h16 : rd S 16 = v16) (h17 : rd S 17 = v17) (h5 : rd S 5 = .ptr 0 0) (h20 : rd S 20 = .d (.slice (l.map Rt.D))) (h21 : rd S 21 = .d (.int .i64 l.length)) (h22 : rd S 22 = .d (.int .i64 0)) (k : Nat) (hk : l.length < k) :
    Lp (loopN (evCode E1 (evI E1) m (theLoop Tryz.f58 1)) k ⟨S, h.map intP1 :: J0⟩) fun r => ∃ (J : Store) (S' : List PV), r = (.exit 2, ⟨S', (relaxL l h).map intP1 :: (J0 ++ J)⟩) ∧ S'.length = 68 ∧ rd S' 0 = v0 ∧ rd S' 1 = v1 ∧ rd S' 4 = v4 ∧ rd S' 6 = v6 ∧ rd S' 9 = v9 ∧ rd S' 16 = v16 ∧ rd S' 17 = v17 ∧ rd S' 5 = .ptr 0 0 := by
  refine loop_inv (fun i st => ∃ (J : Store) (S : List PV), st = ⟨S, (relaxL (l.take i) h).map intP1 :: (J0 ++ J)⟩ ∧ S.length = 68 ∧ rd S 0 = v0 ∧ rd S 1 = v1 ∧ rd S 4 = v4 ∧ rd S 6 = v6 ∧ rd S 9 = v9 ∧ rd S 16 = v16 ∧ rd S 17 = v17 ∧ rd S 5 = .ptr 0 0 ∧ rd S 20 = .d (.slice (l.map Rt.D)) ∧ rd S 21 = .d (.int .i64 l.length) ∧ rd S 22 = .d (.int .i64 i)) _ l.length ?_ ?_ k 0 _ (by omega) (by omega) ⟨[], S, by simp [relaxL], hS, h0, h1, h4, h6, h9, h16, h17, h5, h20, h21, h22⟩
  · rintro i st hi ⟨J, S, rfl, hS, h0, h1, h4, h6, h9, h16, h17, h5, h20, h21, h22⟩
    have hlt : (i : Int) < (l.length : Int) := by omega
    have htk := relaxL_take l h hi
    have hb0 := relaxL_ok (B := 200) (by omega) (l.take i) h hh
    have hro := hr _ (List.getElem_mem hi)
    have hx : (l.map Rt.D)[i]? = some (l[i]).D := by simp [hi]
    generalize relaxL (l.take (i + 1)) h = hn at htk ⊢
    generalize relaxL (l.take i) h = ho at htk hb0 ⊢
    generalize l[i] = r at htk hro hx
    obtain ⟨a, b, ⟨e, mask, mt⟩, nn⟩ := r
    simp only [Rt.on] at hro
    have hla := fun J => h_load (h := ho) (J := J) (k := a) hb0.1 (by omega)
    have hlb := fun J => h_load (h := ho) (J := J) (k := b) hb0.1 (by omega)
    have hst := fun J x => h_store (h := ho) (J := J) (k := b) x hb0.1 (by omega)
    have ha := hAt_ok hb0 (by omega) a
    have hlen : (l.take i).length ≤ 16 := by simp; omega
    have hw1 : IntKind.i64.wrap (hAt ho a + 1) = hAt ho a + 1 := wrap_ok (by omega) (by omega)
    have ha0 : 0 ≤ a := hro.1
    have hb0' : 0 ≤ b := hro.2.2.1
    have ha4 : a.toNat < 4 := by omega
    have hA4 : a < 4 := hro.2.1
    have hB4 : b < 4 := hro.2.2.2
    have hb4 : b.toNat < 4 := by omega
    subst htk
    unfold relax1
    generalize l.map Rt.D = L at hx h20 ⊢
    obtain ⟨hi0, hx⟩ := List.getElem?_eq_some_iff.1 hx
    simp only [Rt.D] at hx
    try simp only at hla hlb hst
    generalize hAt ho a = xa at hla hw1 ⊢
    generalize hAt ho b = xb at hlb ⊢
    have hst2 := fun J => hst J (max xb (xa + 1))
    generalize (ho.set b.toNat (max xb (xa + 1))).map intP1 = h2 at hst2 ⊢
    generalize ho.map intP1 = H at hla hlb hst2 ⊢
    clear hst hh hb0 hro
    simp [theLoop, Tryz.f58, loopsAll, Lp_some, and_assoc, -rd, rd_set, -loadS, -storeS, loadS_consS, storeS_consS, sfx_load0, sfx_load, sfx_store0, sfx_store, loadS_cons0, storeS_cons0, hla, hlb, hst2, ha0, hb0', ha4, hb4, hA4, hB4, hw1, hS, h0, h1, h4, h6, h9, h16, h17, h5, h20, h21, h22, hlt, hi0, hx, wrap_succ i (by omega)]
    done
  · rintro st ⟨J, S, rfl, hS, h0, h1, h4, h6, h9, h16, h17, h5, h20, h21, h22⟩
    rw [List.take_length]
    generalize (relaxL l h).map intP1 = H
    simp [theLoop, Tryz.f58, loopsAll, Lp_some, and_assoc, -rd, rd_set, hS, h0, h1, h4, h6, h9, h16, h17, h5, h20, h21, h22]
theorem l_relax2 (m : Nat) (l : List Rt) (hl : l.length ≤ 16) (hr : ∀ r ∈ l, r.on) (h : List Int) (hh : hOk 200 h) (J0 : Store) (v0 v1 v4 v6 v9 v16 v17 : PV) (S : List PV) (hS : S.length = 68) (h0 : rd S 0 = v0) (h1 : rd S 1 = v1) (h4 : rd S 4 = v4) (h6 : rd S 6 = v6) (h9 : rd S 9 = v9) (h16 : rd S 16 = v16) (h17 : rd S 17 = v17) (h5 : rd S 5 = .ptr 0 0) (h20 : rd S 45 = .d (.slice (l.map Rt.D))) (h21 : rd S 46 = .d (.int .i64 l.length)) (h22 : rd S 47 = .d (.int .i64 0)) (k : Nat) (hk : l.length < k) :
    Lp (loopN (evCode E1 (evI E1) m (theLoop Tryz.f58 2)) k ⟨S, h.map intP1 :: J0⟩) fun r => ∃ (J : Store) (S' : List PV), r = (.exit 4, ⟨S', (relaxL l h).map intP1 :: (J0 ++ J)⟩) ∧ S'.length = 68 ∧ rd S' 0 = v0 ∧ rd S' 1 = v1 ∧ rd S' 4 = v4 ∧ rd S' 6 = v6 ∧ rd S' 9 = v9 ∧ rd S' 16 = v16 ∧ rd S' 17 = v17 ∧ rd S' 5 = .ptr 0 0 := by
  refine loop_inv (fun i st => ∃ (J : Store) (S : List PV), st = ⟨S, (relaxL (l.take i) h).map intP1 :: (J0 ++ J)⟩ ∧ S.length = 68 ∧ rd S 0 = v0 ∧ rd S 1 = v1 ∧ rd S 4 = v4 ∧ rd S 6 = v6 ∧ rd S 9 = v9 ∧ rd S 16 = v16 ∧ rd S 17 = v17 ∧ rd S 5 = .ptr 0 0 ∧ rd S 45 = .d (.slice (l.map Rt.D)) ∧ rd S 46 = .d (.int .i64 l.length) ∧ rd S 47 = .d (.int .i64 i)) _ l.length ?_ ?_ k 0 _ (by omega) (by omega) ⟨[], S, by simp [relaxL], hS, h0, h1, h4, h6, h9, h16, h17, h5, h20, h21, h22⟩
  · rintro i st hi ⟨J, S, rfl, hS, h0, h1, h4, h6, h9, h16, h17, h5, h20, h21, h22⟩
    have hlt : (i : Int) < (l.length : Int) := by omega
    have htk := relaxL_take l h hi
    have hb0 := relaxL_ok (B := 200) (by omega) (l.take i) h hh
    have hro := hr _ (List.getElem_mem hi)
    have hx : (l.map Rt.D)[i]? = some (l[i]).D := by simp [hi]
    generalize relaxL (l.take (i + 1)) h = hn at htk ⊢
    generalize relaxL (l.take i) h = ho at htk hb0 ⊢
    generalize l[i] = r at htk hro hx
    obtain ⟨a, b, ⟨e, mask, mt⟩, nn⟩ := r
    simp only [Rt.on] at hro
    have hla := fun J => h_load (h := ho) (J := J) (k := a) hb0.1 (by omega)
    have hlb := fun J => h_load (h := ho) (J := J) (k := b) hb0.1 (by omega)
    have hst := fun J x => h_store (h := ho) (J := J) (k := b) x hb0.1 (by omega)
    have ha := hAt_ok hb0 (by omega) a
    have hlen : (l.take i).length ≤ 16 := by simp; omega
    have hw1 : IntKind.i64.wrap (hAt ho a + 1) = hAt ho a + 1 := wrap_ok (by omega) (by omega)
    have ha0 : 0 ≤ a := hro.1
    have hb0' : 0 ≤ b := hro.2.2.1
    have ha4 : a.toNat < 4 := by omega
    have hA4 : a < 4 := hro.2.1
    have hB4 : b < 4 := hro.2.2.2
    have hb4 : b.toNat < 4 := by omega
    subst htk
    unfold relax1
    generalize l.map Rt.D = L at hx h20 ⊢
    obtain ⟨hi0, hx⟩ := List.getElem?_eq_some_iff.1 hx
    simp only [Rt.D] at hx
    try simp only at hla hlb hst
    generalize hAt ho a = xa at hla hw1 ⊢
    generalize hAt ho b = xb at hlb ⊢
    have hst2 := fun J => hst J (max xb (xa + 1))
    generalize (ho.set b.toNat (max xb (xa + 1))).map intP1 = h2 at hst2 ⊢
    generalize ho.map intP1 = H at hla hlb hst2 ⊢
    clear hst hh hb0 hro
    simp [theLoop, Tryz.f58, loopsAll, Lp_some, and_assoc, -rd, rd_set, -loadS, -storeS, loadS_consS, storeS_consS, sfx_load0, sfx_load, sfx_store0, sfx_store, loadS_cons0, storeS_cons0, hla, hlb, hst2, ha0, hb0', ha4, hb4, hA4, hB4, hw1, hS, h0, h1, h4, h6, h9, h16, h17, h5, h20, h21, h22, hlt, hi0, hx, wrap_succ i (by omega)]
    done
  · rintro st ⟨J, S, rfl, hS, h0, h1, h4, h6, h9, h16, h17, h5, h20, h21, h22⟩
    rw [List.take_length]
    generalize (relaxL l h).map intP1 = H
    simp [theLoop, Tryz.f58, loopsAll, Lp_some, and_assoc, -rd, rd_set, hS, h0, h1, h4, h6, h9, h16, h17, h5, h20, h21, h22]

theorem four {h : List Int} (hl : h.length = 4) : ∃ a b c d, h = [a, b, c, d] := by
  match h, hl with
  | [a, b, c, d], _ => exact ⟨a, b, c, d, rfl⟩
theorem hOk.mono {B C : Int} {h : List Int} (hh : hOk B h) (hBC : B ≤ C) : hOk C h := ⟨hh.1, fun x hx => ⟨(hh.2 x hx).1, Int.le_trans (hh.2 x hx).2 hBC⟩⟩
theorem relaxN_ok (l : List Rt) (hl : l.length ≤ 16) : ∀ (n : Nat) (h : List Int) (B : Int), 0 ≤ B → hOk B h → hOk (B + 16 * n) (relaxN l n h)
  | 0, h, B, _, hh => by simpa [relaxN] using hh
  | n + 1, h, B, hB, hh => by
    have h1 := relaxL_ok hB l h hh
    unfold relaxN
    split
    · exact h1.mono (by omega)
    · have := relaxN_ok l hl n (relaxL l h) (B + l.length) (by omega) h1
      exact this.mono (by omega)

theorem l_round (m : Nat) (l : List Rt) (hl : l.length ≤ 16) (hm : l.length < m) (hr : ∀ r ∈ l, r.on) (n : Nat) (hn : n ≤ 4) (J0 : Store) (S : List PV) (hS : S.length = 68) (h0 : rd S 0 = .d (.slice (l.map Rt.D))) (h4 : rd S 4 = .d (.bool false)) (h5 : rd S 5 = .ptr 0 0) (h16 : rd S 16 = .d (.int .i64 n)) (h17 : rd S 17 = .d (.int .i64 0)) (k : Nat) (hk : n < k) :
    Lp (loopN (evCode E1 (evI E1) m (theLoop Tryz.f58 0)) k ⟨S, ([0, 0, 0, 0] : List Int).map intP1 :: J0⟩) fun r => ∃ (J : Store) (S' : List PV), r = (.exit 0, ⟨S', (relaxN l n [0, 0, 0, 0]).map intP1 :: J⟩) ∧ S'.length = 68 ∧ rd S' 0 = .d (.slice (l.map Rt.D)) ∧ rd S' 4 = .d (.bool false) ∧ rd S' 5 = .ptr 0 0 := by
  refine loop_inv (fun i st => ∃ (h : List Int) (J : Store) (S : List PV), st = ⟨S, h.map intP1 :: J⟩ ∧ relaxN l n [0, 0, 0, 0] = relaxN l (n - i) h ∧ hOk (16 * i) h ∧ S.length = 68 ∧ rd S 0 = .d (.slice (l.map Rt.D)) ∧ rd S 4 = .d (.bool false) ∧ rd S 5 = .ptr 0 0 ∧ rd S 16 = .d (.int .i64 n) ∧ rd S 17 = .d (.int .i64 i)) _ n ?_ ?_ k 0 _ (by omega) (by omega) ⟨_, J0, S, rfl, rfl, ⟨rfl, by simp⟩, hS, h0, h4, h5, h16, h17⟩
  · rintro i st hi ⟨h, J, S, rfl, he, hh, hS, h0, h4, h5, h16, h17⟩
    have hlt : (i : Int) < (n : Int) := by omega
    have hloop := fun J0 => l_relax1 m l hl hr h (hh.mono (by omega)) J0
    have hh2 := relaxL_ok (by omega) l h hh
    rw [show n - i = (n - (i + 1)) + 1 by omega, relaxN] at he
    have hml : (l.map Rt.D).length = l.length := by simp
    generalize hR : relaxL l h = h' at he hh2 hloop
    obtain ⟨x0, x1, x2, x3, rfl⟩ := four hh.1
    obtain ⟨y0, y1, y2, y3, rfl⟩ := four hh2.1
    have hh3 : hOk (16 * ((i + 1 : Nat) : Int)) [y0, y1, y2, y3] := hh2.mono (by omega)
    clear hh hh2 hR
    have hw := wrap_succ i (by omega)
    generalize hLD : l.map Rt.D = L at hml hloop h0 ⊢
    simp only [List.map_cons, List.map_nil, intP1] at hloop ⊢
    simp [theLoop, Tryz.f58, loopsAll, ec_loop, and_assoc, -rd, rd_set, -loadS, -storeS, loadS_consS, storeS_consS, sfx_load0, sfx_load, sfx_store0, sfx_store, loadS_cons0, storeS_cons0, hS, h0, h4, h5, h16, h17, hlt, hml]
    generalize hLL : loopN _ _ _ = LL
    have hQ := fun a0 a1 a2 a3 a4 a5 a6 a7 a8 a9 a10 a11 => at_loop hLL (hloop _ (.d (.slice L)) (rd S 1) (.d (.bool false)) (.ptr (J.length + 1) 0) (rd S 9) (.d (.int .i64 n)) (.d (.int .i64 i)) _ a0 a1 a2 a3 a4 a5 a6 a7 a8 a9 a10 a11 m hm)
    obtain ⟨r, rfl, J', S', rfl, hS', g0, g1, g4, g6, g9, g16, g17, g5⟩ := hQ (by simp [hS]) (by simp [-rd, rd_set, hS, h0]) (by simp [-rd, rd_set, hS]) (by simp [-rd, rd_set, hS, h4]) (by simp [-rd, rd_set, hS]) (by simp [-rd, rd_set, hS]) (by simp [-rd, rd_set, hS, h16]) (by simp [-rd, rd_set, hS, h17]) (by simp [-rd, rd_set, hS, h5]) (by simp [-rd, rd_set, hS]) (by simp [-rd, rd_set, hS]) (by simp [-rd, rd_set, hS])
    by_cases hst : [x0, x1, x2, x3] = [y0, y1, y2, y3]
    · rw [if_pos hst] at he
      simp only [List.cons.injEq, and_true] at hst
      obtain ⟨rfl, rfl, rfl, rfl⟩ := hst
      rw [he]
      simp [Lp_some, and_assoc, -rd, rd_set, -loadS, -storeS, loadS_consS, storeS_consS, sfx_load0, sfx_load, sfx_store0, sfx_store, loadS_cons0, storeS_cons0, hS', g0, g1, g4, g5, g6, g9, g16, g17, hw, Ty.k170', intP1]
    · rw [if_neg hst] at he
      have hne : ¬ (x0 = y0 ∧ x1 = y1 ∧ x2 = y2 ∧ x3 = y3) := fun h => hst (by rw [h.1, h.2.1, h.2.2.1, h.2.2.2])
      rw [he]
      have hb : (x0 == y0 && (x1 == y1 && (x2 == y2 && x3 == y3))) = false := by
        rw [Bool.eq_false_iff]
        intro h
        simp only [Bool.and_eq_true, beq_iff_eq] at h
        exact hne h
      simp [Lp_some, and_assoc, -rd, rd_set, -loadS, -storeS, loadS_consS, storeS_consS, sfx_load0, sfx_load, sfx_store0, sfx_store, loadS_cons0, storeS_cons0, hS', g0, g1, g4, g5, g6, g9, g16, g17, hw, Ty.k170', hb, hne, intP1]
      exact ⟨[y0, y1, y2, y3], rfl, rfl, by simpa using hh3⟩
  · rintro st ⟨h, J, S, rfl, he, hh, hS, h0, h4, h5, h16, h17⟩
    rw [Nat.sub_self, relaxN] at he
    rw [he]
    generalize h.map intP1 = H
    simp [theLoop, Tryz.f58, loopsAll, Lp_some, and_assoc, -rd, rd_set, hS, h0, h4, h5, h16, h17]

theorem routesOk_on {l : List Rt} {k : Int} (h : routesOk l k = true) : 1 ≤ k ∧ k ≤ 4 ∧ l.length ≤ 16 ∧ ∀ r ∈ l, (0 ≤ r.a ∧ r.a < k) ∧ (0 ≤ r.b ∧ r.b < k) ∧ r.a ≠ r.b ∧ r.f.right = true ∧ r.idOk = true := by
  unfold routesOk at h
  simp only [Bool.and_eq_true, Bool.not_eq_true', Bool.or_eq_false_iff, decide_eq_false_iff_not] at h
  obtain ⟨⟨⟨h1, h2⟩, h3⟩, h4⟩ := h
  refine ⟨by omega, by omega, by omega, fun r hr => ?_⟩
  have := List.any_eq_false.1 h4 r hr
  unfold Rt.bad at this
  simp only [Bool.or_eq_true, not_or, decide_eq_true_eq, beq_iff_eq, Bool.not_eq_true', Bool.not_eq_false] at this
  obtain ⟨⟨⟨⟨⟨⟨a1, a2⟩, a3⟩, a4⟩, a5⟩, a6⟩, a7⟩ := this
  exact ⟨⟨by omega, by omega⟩, ⟨by omega, by omega⟩, a5, a6, a7⟩

theorem b_loopless (l : List Rt) (k : Int) (σ : Store) : callIt E1 (evI E1) 58 [.d (.slice (l.map Rt.D)), .d (.int .i64 k)] σ = some (.d (.bool (loopless l k)), σ) := by
  refine call_run (fn := Tryz.f58) 17 rfl rfl rfl Tryz.func58 rfl rfl ?_ rfl
  have c1 := fun σ => b_routeRight l k σ
  unfold loopless
  cases hok : routesOk l k
  · rw [hok] at c1
    try simp at c1
    generalize l.map Rt.D = L at c1 ⊢
    simp [Tryz.f58, c1]
  · rw [hok] at c1
    obtain ⟨k1, k2, k3, k4⟩ := routesOk_on hok
    obtain ⟨n, rfl⟩ : ∃ n : Nat, k = (n : Int) := ⟨k.toNat, by omega⟩
    rw [Int.toNat_natCast]
    simp only [Bool.true_and]
    have hon : ∀ r ∈ l, r.on := fun r hr => by have := k4 r hr; exact ⟨by omega, by omega, by omega, by omega⟩
    have hr1 := l_round 17 l k3 (by omega) hon n (by omega)
    have hh := relaxN_ok l k3 n [0, 0, 0, 0] 0 (by omega) ⟨rfl, by simp⟩
    have hr2 := fun J0 => l_relax2 17 l k3 hon (relaxN l n [0, 0, 0, 0]) (hh.mono (by omega)) J0
    have hh2 := relaxL_ok (by omega) l _ hh
    have hml : (l.map Rt.D).length = l.length := by simp
    clear hok k4 hon
    generalize hR2 : relaxL l (relaxN l n [0, 0, 0, 0]) = h' at hr2 hh2 ⊢
    generalize relaxN l n [0, 0, 0, 0] = h at hr1 hr2 hh ⊢
    obtain ⟨x0, x1, x2, x3, rfl⟩ := four hh.1
    obtain ⟨y0, y1, y2, y3, rfl⟩ := four hh2.1
    clear hh hh2 hR2
    try simp at c1
    generalize l.map Rt.D = L at c1 hml hr1 hr2 ⊢
    simp only [List.map_cons, List.map_nil, intP1] at hr1 hr2
    simp [Tryz.f58, ec_loop, c1]
    generalize hLL : loopN _ _ _ = LL
    obtain ⟨r, rfl, J, S, rfl, hS, h0, h4, h5⟩ := at_loop hLL (hr1 _ _ rfl rfl rfl rfl rfl rfl 17 (by omega))
    simp [-rd, rd_set, -loadS, -storeS, loadS_consS, storeS_consS, sfx_load0, sfx_load, sfx_store0, sfx_store, loadS_cons0, storeS_cons0, hS, h0, h4, h5, hml, ec_loop]
    clear hLL
    generalize hLL : loopN _ _ _ = LL
    have hQ := fun a0 a1 a2 a3 a4 a5 a6 a7 a8 a9 a10 a11 => at_loop hLL (hr2 _ (.d (.slice L)) (rd S 1) (.d (.bool false)) (rd S 6) (.ptr (J.length + 1) 0) (rd S 16) (rd S 17) _ a0 a1 a2 a3 a4 a5 a6 a7 a8 a9 a10 a11 17 (by omega))
    obtain ⟨r, rfl, J', S', rfl, hS', g0, g1, g4, g6, g9, g16, g17, g5⟩ := hQ (by simp [hS]) (by simp [-rd, rd_set, hS, h0]) (by simp [-rd, rd_set, hS]) (by simp [-rd, rd_set, hS, h4]) (by simp [-rd, rd_set, hS]) (by simp [-rd, rd_set, hS]) (by simp [-rd, rd_set, hS]) (by simp [-rd, rd_set, hS]) (by simp [-rd, rd_set, hS, h5]) (by simp [-rd, rd_set, hS]) (by simp [-rd, rd_set, hS, hml]) (by simp [-rd, rd_set, hS])
    have hbb : (x0 == y0 && (x1 == y1 && (x2 == y2 && x3 == y3))) = decide ([x0, x1, x2, x3] = [y0, y1, y2, y3]) := by
      rw [Bool.eq_iff_iff]
      simp
    simp [-rd, rd_set, -loadS, -storeS, loadS_consS, storeS_consS, sfx_load0, sfx_load, sfx_store0, sfx_store, loadS_cons0, storeS_cons0, hS', g0, g1, g4, g5, g6, g9, g16, g17, Ty.k170', intP1]
    rw [Bool.eq_iff_iff]
    simp
end Go.Proofs

