/- The seat of nodes: node.Next, node.Sent, node.Heard, node.Quiet, node.Send, node.Take; Ranks in order; the place of the first frame of the least rank; The seat of nodes: the reference's rank of a frame; The seat of nodes: the references' comparisons; Arbitration: what a race of ranks makes: its functions; Arbitration in plain Lean: bit by bit those of the least rank stay; Arbitration: a race at its beginning, a bit, a step; Rows of numbers: alike? does one stand in it?; A line: who sends along, who sees, who is loud, who hears; A line at its beginning; each node; any node; A frame's bits on a line, and how many. -/
import Derived.Test.YtnnindnmpfmaaaaGreatNt07
set_option linter.unusedVariables false
set_option linter.unusedSimpArgs false
set_option maxRecDepth 100000
set_option maxHeartbeats 4000000
namespace Go.Proofs
open Go.RowKit Go.Shelf Go.Pv
theorem cmpL_self : ∀ a : List Int, cmpL a a = 0
 | [] => rfl
 | x :: xs => by simp [cmpL, cmpL_self xs]
theorem idx_found {α : Type} (p : α → Bool) : ∀ (l : List α) (i : Nat), (∃ x ∈ l, p x = true) → ∃ k, k < l.length ∧ idx p l i = (i + k : Nat) ∧ (∀ x, l[k]? = some x → p x = true) ∧ ∀ j x, j < k → l[j]? = some x → p x = false
 | [], i, h => by simp at h
 | x :: xs, i, h => by
  unfold idx
  cases hx : p x
  ·have h' : ∃ y ∈ xs, p y = true := by
    obtain ⟨y, hy, hp⟩ := h
    rcases List.mem_cons.1 hy with rfl | hy
    ·rw [hx] at hp; cases hp
    ·exact ⟨y, hy, hp⟩
   obtain ⟨k, h1, h2, h3, h4⟩ := idx_found p xs (i + 1) h'
   refine ⟨k + 1, by simp; omega, by simp [h2]; omega, by simpa using h3, fun j y hj hy => ?_⟩
   cases j with
   | zero => simp at hy; subst hy; exact hx
   | succ j => exact h4 j y (by omega) (by simpa using hy)
  ·exact ⟨0, by simp, by simp, by simpa using hx, fun j y hj _ => by omega⟩
theorem nextOf_found (q : List Fr) (h : q ≠ []) : ∃ k, k < q.length ∧ nextOf q = (k : Nat) ∧ (∀ x, q[k]? = some x → ∃ w, q[0]? = some w ∧ rankCmp x (minF rankCmp w q) = 0) ∧ ∀ j x, j < k → q[j]? = some x → ∀ w, q[0]? = some w → rankCmp x (minF rankCmp w q) ≠ 0 := by
 cases q with
 | nil => exact absurd rfl h
 | cons w q =>
  obtain ⟨k, h1, h2, h3, h4⟩ := idx_found (fun x => rankCmp x (minF rankCmp w (w :: q)) == 0) (w :: q) 0 ⟨minF rankCmp w (w :: q), by
   rcases minF_mem rankCmp (w :: q) w with h | h
   ·rw [h]; simp
   ·exact h, by simp [rankCmp, cmpL_self]⟩
  refine ⟨k, h1, by simpa [nextOf] using h2, fun x hx => ⟨w, rfl, by simpa using h3 x hx⟩, fun j x hj hx u hu => ?_⟩
  simp at hu
  subst hu
  simpa using h4 j x hj hx
def nxt (q : List Fr) : Nat := (nextOf q).toNat
theorem nxt_lt {q : List Fr} (h : q ≠ []) : nxt q < q.length := by
 obtain ⟨k, h1, h2, _⟩ := nextOf_found q h
 unfold nxt; omega
theorem nextOf_eq {q : List Fr} (h : q ≠ []) : nextOf q = (nxt q : Int) := by
 obtain ⟨k, h1, h2, _⟩ := nextOf_found q h
 unfold nxt; omega
def fr0 : Fr := ⟨false, 0, false, 0, []⟩
def Nd.Next (n : Nd) : Fr × Bool := if n.off || n.q.isEmpty then (fr0, false) else (n.q.getD (nxt n.q) fr0, true)
theorem b_Next (n : Nd) (hl : n.q.length ≤ 1000000) (hr : ∀ x ∈ n.q, x.right = true) (σ : Store) : callIt E1 (evI E1) 135 [n.P] σ = some (.tup [n.Next.1.P, .d (.bool n.Next.2)], σ) := by
 refine call_run (fn := Tryz.f135) 5 rfl rfl rfl Tryz.func135 rfl rfl ?_ rfl
 have h1 := b_nexti n hl hr
 unfold Nd.Next
 unfold Nd.next at h1
 cases ho : n.off || n.q.isEmpty
 ·rw [ho] at h1
  have hne : n.q ≠ [] := by intro h; simp [h] at ho
  obtain ⟨k, hk⟩ : ∃ k, k = nxt n.q := ⟨_, rfl⟩
  have hlt := nxt_lt hne
  rw [nextOf_eq hne, ← hk] at h1
  rw [← hk] at hlt ⊢
  have hx : n.q[k]? = some n.q[k] := List.getElem?_eq_getElem hlt
  generalize n.q[k] = x at hx
  simp at h1
  simp [Tryz.f135, cellsOf, loadS, storeS, h1, hx]
 ·rw [ho] at h1
  simp at h1
  simp [Tryz.f135, cellsOf, loadS, storeS, h1, fr0]
def Cn.ok (c : Cn) : Prop := (0 ≤ c.t ∧ c.t ≤ 900) ∧ (0 ≤ c.r ∧ c.r ≤ 900) ∧ (0 ≤ c.z ∧ c.z ≤ 900)
def Cn.step (c : Cn) (what : Int) : Cn := ⟨stT c.t c.r c.s c.z what, stR c.t c.r c.s c.z what, stS c.t c.r c.s c.z what, stQ c.t c.r c.s c.z what⟩
theorem b_step (c : Cn) (what : Int) (hc : c.ok) (hw : 1 ≤ what ∧ what ≤ 6) (σ : Store) : callIt E1 (evI E1) 139 [c.P, .d (.int .i64 what)] σ = some ((c.step what).P, σ) := by
 have := d49 c.t c.r c.s c.z what hc.1 hc.2.1 hc.2.2 hw σ
 rw [stepV_eq] at this
 exact this
theorem eraseIdx_map {α β : Type} (f : α → β) : ∀ (l : List α) (i : Nat), (l.map f).eraseIdx i = (l.eraseIdx i).map f
 | [], i => rfl
 | x :: xs, 0 => rfl
 | x :: xs, i + 1 => by simp [List.eraseIdx_cons_succ, eraseIdx_map f xs i]
theorem b_without (l : List Fr) (i : Nat) (hl : l.length ≤ 1000000) (hi : i < l.length) (σ : Store) : callIt E1 (evI E1) 144 [.d (.slice (l.map Fr.D)), .d (.int .i64 i)] σ = some (.d (.slice ((l.eraseIdx i).map Fr.D)), σ) := by
 have := c48 (l.map Fr.D) i (rowsOk_Fr l) (by simp only [roomB, List.length_map]; omega) (by simpa using hi) σ
 rwa [eraseIdx_map] at this
theorem b_with (l : List Fr) (x : Fr) (hl : l.length ≤ 1000000) (σ : Store) : callIt E1 (evI E1) 125 [.d (.slice (l.map Fr.D)), x.P] σ = some (acc ((l ++ [x]).map Fr.D), σ) := by
 have := c43 (l.map Fr.D) x.e x.id x.rm x.ln (x.data.map byD) (rowsOk_Fr l) (by simp only [roomB, List.length_map]; omega) σ
 rw [List.map_append]
 exact this
def Nd.Sent (n : Nd) (ok : Bool) : Nd :=
 if n.off || n.q.isEmpty then n else if ok then { n with q := n.q.eraseIdx (nxt n.q), c := n.c.step 1 } else { n with c := n.c.step 3 }
theorem b_Sent (n : Nd) (ok : Bool) (hl : n.q.length ≤ 1000000) (hr : ∀ x ∈ n.q, x.right = true) (hc : n.c.ok) (σ : Store) : callIt E1 (evI E1) 76 [n.P, .d (.bool ok)] σ = some ((n.Sent ok).P, σ) := by
 refine call_run (fn := Tryz.f76) 5 rfl rfl rfl Tryz.func76 rfl rfl ?_ rfl
 have h1 := b_nexti n hl hr
 unfold Nd.Sent
 unfold Nd.next at h1
 cases ho : n.off || n.q.isEmpty
 ·rw [ho] at h1
  have hne : n.q ≠ [] := by intro h; simp [h] at ho
  obtain ⟨k, hk⟩ : ∃ k, k = nxt n.q := ⟨_, rfl⟩
  have hlt := nxt_lt hne
  rw [nextOf_eq hne, ← hk] at h1
  rw [← hk] at hlt ⊢
  have h2 := b_without n.q k hl hlt
  have h3 := b_step n.c 1 hc (by omega)
  have h4 := b_step n.c 3 hc (by omega)
  simp at h1 h2 h3 h4
  cases ok
  ·simp [Tryz.f76, cellsOf, loadS, storeS, h1, h2, h3, h4]
  ·simp [Tryz.f76, cellsOf, loadS, storeS, h1, h2, h3, h4]
 ·rw [ho] at h1
  simp at h1
  simp [Tryz.f76, cellsOf, loadS, storeS, h1]
def Nd.Quiet (n : Nd) : Nd := { n with c := n.c.step 6 }
theorem b_Quiet (n : Nd) (hc : n.c.ok) (σ : Store) : callIt E1 (evI E1) 69 [n.P] σ = some (n.Quiet.P, σ) := by
 refine call_run (fn := Tryz.f69) 5 rfl rfl rfl Tryz.func69 rfl rfl ?_ rfl
 have h3 := b_step n.c 6 hc (by omega)
 simp at h3
 simp [Tryz.f69, cellsOf, loadS, storeS, h3, Nd.Quiet]
def what (ok long : Bool) : Int := if ok then 2 else if long then 5 else 4
def Nd.Heard (n : Nd) (f : Fr) (ok long : Bool) : Nd :=
 if n.off then n else { n with g := if ok && decide ((n.g.length : Int) < 64) && anyF n.fs f then n.g ++ [f] else n.g, c := n.c.step (what ok long) }
theorem b_Heard (n : Nd) (f : Fr) (ok long : Bool) (hg : n.g.length ≤ 1000000) (hf : n.fs.length ≤ 1000000) (hc : n.c.ok) (σ : Store) : callIt E1 (evI E1) 77 [n.P, f.P, .d (.bool ok), .d (.bool long)] σ = some ((n.Heard f ok long).P, σ) := by
 refine call_run (fn := Tryz.f77) 5 rfl rfl rfl Tryz.func77 rfl rfl ?_ rfl
 have h1 := b_off n
 have h2 := b_any n.fs f hf
 have h3 := b_with n.g f hg
 have h4 := b_step n.c 2 hc (by omega)
 have h5 := b_step n.c 4 hc (by omega)
 have h6 := b_step n.c 5 hc (by omega)
 unfold Nd.Heard what
 simp at h1 h2 h3 h4 h5 h6
 cases ho : n.off
 ·rw [ho] at h1
  cases ok
  ·cases long
   ·simp [Tryz.f77, cellsOf, loadS, storeS, h1, h5]
   ·simp [Tryz.f77, cellsOf, loadS, storeS, h1, h6]
  ·by_cases hl : (n.g.length : Int) < 64
   ·cases ha : anyF n.fs f
    ·rw [ha] at h2
     simp [Tryz.f77, cellsOf, loadS, storeS, h1, h2, h4, hl]
    ·rw [ha] at h2
     simp [Tryz.f77, cellsOf, loadS, storeS, h1, h2, h3, h4, hl]
   ·simp [Tryz.f77, cellsOf, loadS, storeS, h1, h4, hl]
 ·rw [ho] at h1
  simp [Tryz.f77, cellsOf, loadS, storeS, h1]
def Nd.Send (n : Nd) (f : Fr) : Nd × Int :=
 if f.right = false then (n, 90) else if n.off then (n, 3) else if 16 ≤ n.q.length then (n, 2) else ({ n with q := n.q ++ [f] }, 0)
theorem b_Send (n : Nd) (f : Fr) (hq : n.q.length ≤ 1000000) (σ : Store) : callIt E1 (evI E1) 55 [n.P, f.P] σ = some (.tup [(n.Send f).1.P, .d (.int .i64 (n.Send f).2)], σ) := by
 unfold Nd.Send
 cases hf : f.right
 ·exact c14_bad (n.q.map Fr.D) (n.fs.map Fl.D) n.c.t n.c.r n.c.s n.c.z (n.g.map Fr.D) f.e f.id f.rm f.ln (f.data.map byD) σ hf
 ·cases ho : n.off
  ·have hs : n.c.s ≠ 3 := by simpa [Nd.off] using ho
   by_cases hl : 16 ≤ n.q.length
   ·have := c14_full (n.q.map Fr.D) (n.fs.map Fl.D) n.c.t n.c.r n.c.s n.c.z (n.g.map Fr.D) f.e f.id f.rm f.ln (f.data.map byD) σ hf hs (by simpa using hl)
    simpa [hl, ndP, frP] using this
   ·have := c14_ok (n.q.map Fr.D) (n.fs.map Fl.D) n.c.t n.c.r n.c.s n.c.z (n.g.map Fr.D) f.e f.id f.rm f.ln (f.data.map byD) σ hf hs (by simpa using hl) (rowsOk_Fr _)
    simpa [hl, ndP, frP, frD] using this
  ·have hs : n.c.s = 3 := by simpa [Nd.off] using ho
   exact c14_off (n.q.map Fr.D) (n.fs.map Fl.D) n.c.t n.c.r n.c.s n.c.z (n.g.map Fr.D) f.e f.id f.rm f.ln (f.data.map byD) σ hf hs
def Nd.Take (n : Nd) : Nd × Fr × Bool :=
 match n.g with
 | [] => (n, fr0, false)
 | f :: g => ({ n with g := g }, f, true)
theorem b_Take (n : Nd) (hg : n.g.length ≤ 1000000) (σ : Store) : callIt E1 (evI E1) 103 [n.P] σ = some (.tup [n.Take.1.P, n.Take.2.1.P, .d (.bool n.Take.2.2)], σ) := by
 obtain ⟨q, fs, c, g⟩ := n
 unfold Nd.Take
 cases g with
 | nil => exact c22_none (q.map Fr.D) (fs.map Fl.D) c.t c.r c.s c.z σ
 | cons f g => exact c22_some (q.map Fr.D) (fs.map Fl.D) c.t c.r c.s c.z f.e f.id f.rm f.ln (f.data.map byD) (g.map Fr.D) (rowsOk_Fr _) (by simp at hg; simp only [roomB, List.length_map]; omega) σ
end Go.Proofs

namespace Go.Proofs
open Go.RowKit Go.Shelf Go.Pv
theorem cmpL_zero : ∀ a b : List Int, cmpL a b = 0 → a = b
 | [], [], _ => rfl
 | [], _ :: _, h => by simp [cmpL] at h
 | _ :: _, [], h => by simp [cmpL] at h
 | x :: xs, y :: ys, h => by
  simp only [cmpL] at h
  split at h
  ·simp at h
  split at h
  ·simp at h
  ·rw [show x = y by omega, cmpL_zero xs ys h]
theorem cmpL_anti : ∀ a b : List Int, cmpL b a = - cmpL a b
 | [], [] => rfl
 | [], _ :: _ => rfl
 | _ :: _, [] => rfl
 | x :: xs, y :: ys => by
  simp only [cmpL]
  by_cases h1 : x < y
  ·have h2 : ¬ y < x := by omega
   simp [h1, h2]
  ·by_cases h2 : y < x
   ·simp [h1, h2]
   ·simp [h1, h2, cmpL_anti xs ys]
theorem cmpL_trans : ∀ a b c : List Int, cmpL a b < 0 → cmpL b c ≤ 0 → cmpL a c < 0
 | [], [], c, h, _ => by simp [cmpL] at h
 | [], _ :: _, [], _, h => by simp [cmpL] at h
 | [], _ :: _, _ :: _, _, _ => by simp [cmpL]
 | _ :: _, [], c, h, _ => by simp [cmpL] at h
 | _ :: _, _ :: _, [], _, h => by simp [cmpL] at h
 | x :: xs, y :: ys, z :: zs, h, h' => by
  simp only [cmpL] at h h' ⊢
  by_cases h1 : x < y
  ·simp only [h1, if_true] at h
   by_cases h2 : y < z
   ·rw [if_pos (by omega)]; decide
   ·simp only [h2, if_false] at h'
    by_cases h3 : z < y
    ·simp [h3] at h'
    ·rw [if_pos (by omega)]; decide
  ·simp only [h1, if_false] at h
   by_cases h2 : y < x
   ·simp [h2] at h
   ·simp only [h2, if_false] at h
    by_cases h3 : y < z
    ·rw [if_pos (by omega)]; decide
    ·simp only [h3, if_false] at h'
     by_cases h4 : z < y
     ·simp [h4] at h'
     ·simp only [h4, if_false] at h'
      rw [if_neg (by omega), if_neg (by omega)]
      exact cmpL_trans xs ys zs h h'
theorem rankCmp_anti (a b : Fr) : rankCmp b a = - rankCmp a b := cmpL_anti _ _
theorem rankCmp_trans {a b c : Fr} (h : rankCmp a b < 0) (h' : rankCmp b c ≤ 0) : rankCmp a c < 0 := cmpL_trans _ _ _ h h'
theorem rankCmp_self (a : Fr) : rankCmp a a = 0 := cmpL_self _
def plc : List Fr → Nat → Nat → Fr → Nat × Fr
 | [], _, b, w => (b, w)
 | x :: xs, i, b, w => if rankCmp x w < 0 then plc xs (i + 1) i x else plc xs (i + 1) b w
theorem plc_min : ∀ (l : List Fr) (i b : Nat) (w : Fr), (plc l i b w).2 = minF rankCmp w l
 | [], _, _, _ => rfl
 | x :: xs, i, b, w => by
  unfold plc minF
  simp only [List.foldl_cons]
  split
  ·rw [plc_min]; rfl
  ·rw [plc_min]; rfl
theorem plc_inv : ∀ (l p : List Fr) (b : Nat) (w : Fr), p[b]? = some w → (∀ x ∈ p, 0 ≤ rankCmp x w) → (∀ j x, j < b → p[j]? = some x → 0 < rankCmp x w) →
  (p ++ l)[(plc l p.length b w).1]? = some (plc l p.length b w).2 ∧ (∀ x ∈ p ++ l, 0 ≤ rankCmp x (plc l p.length b w).2) ∧ (∀ j x, j < (plc l p.length b w).1 → (p ++ l)[j]? = some x → 0 < rankCmp x (plc l p.length b w).2)
 | [], p, b, w, h1, h2, h3 => by simpa [plc] using ⟨h1, h2, h3⟩
 | x :: xs, p, b, w, h1, h2, h3 => by
  have hcat : p ++ x :: xs = (p ++ [x]) ++ xs := by simp
  have hlen : p.length + 1 = (p ++ [x]).length := by simp
  have hb : b < p.length := (List.getElem?_eq_some_iff.1 h1).1
  unfold plc
  by_cases hx : rankCmp x w < 0
  ·simp only [hx, if_true]
   rw [hcat, hlen]
   have hgt : ∀ y ∈ p, 0 < rankCmp y x := by
    intro y hy
    have hyw := h2 y hy
    have h4 : ¬ rankCmp y x ≤ 0 := by
     intro hyx
     have a1 : rankCmp w y ≤ 0 := by rw [rankCmp_anti y w]; omega
     have := rankCmp_trans hx a1
     rw [rankCmp_anti y x] at this
     omega
    omega
   refine plc_inv xs (p ++ [x]) p.length x (by simp) (fun y hy => ?_) (fun j y hj hy => ?_)
   ·rcases List.mem_append.1 hy with hy | hy
    ·have := hgt y hy; omega
    ·simp at hy; subst hy; rw [rankCmp_self]; exact Int.le_refl _
   ·rw [List.getElem?_append_left hj] at hy
    exact hgt y (List.mem_of_getElem? hy)
  ·simp only [hx, if_false]
   rw [hcat, hlen]
   refine plc_inv xs (p ++ [x]) b w (by rw [List.getElem?_append_left hb]; exact h1) (fun y hy => ?_) (fun j y hj hy => ?_)
   ·rcases List.mem_append.1 hy with hy | hy
    ·exact h2 y hy
    ·simp at hy; subst hy; omega
   ·rw [List.getElem?_append_left (by omega)] at hy
    exact h3 j y hj hy
theorem nxt_spec (w : Fr) (q : List Fr) : nxt (w :: q) = (plc q 1 0 w).1 ∧ ∃ v, (w :: q)[nxt (w :: q)]? = some v ∧ v = minF rankCmp w (w :: q) ∧ (∀ x ∈ w :: q, 0 ≤ rankCmp x v) ∧ ∀ j x, j < nxt (w :: q) → (w :: q)[j]? = some x → 0 < rankCmp x v := by
 have hmin : minF rankCmp w (w :: q) = minF rankCmp w q := by simp [minF]
 obtain ⟨i1, i2, i3⟩ := plc_inv q [w] 0 w rfl (by simp [rankCmp_self]) (by simp)
 simp only [List.length_singleton, List.singleton_append] at i1 i2 i3
 obtain ⟨k, k1, k2, k3, k4⟩ := nextOf_found (w :: q) (by simp)
 have hk : nxt (w :: q) = k := by unfold nxt; omega
 have hp := plc_min q 1 0 w
 have hbk : (plc q 1 0 w).1 = k := by
  rcases Nat.lt_trichotomy (plc q 1 0 w).1 k with h | h | h
  ·exact absurd (by rw [hmin, ← hp]; exact rankCmp_self _) (k4 _ _ h i1 w rfl)
  ·exact h
  ·have hx : (w :: q)[k]? = some (w :: q)[k] := List.getElem?_eq_getElem k1
   obtain ⟨u, hu, h0⟩ := k3 _ hx
   simp at hu
   subst hu
   have := i3 k _ h hx
   rw [hp, ← hmin] at this
   omega
 refine ⟨by rw [hk, hbk], (plc q 1 0 w).2, by rw [hk, ← hbk]; exact i1, by rw [hp, hmin], i2, fun j x hj hx => i3 j x (by rw [hbk]; omega) hx⟩
end Go.Proofs

set_option maxRecDepth 100000
set_option maxHeartbeats 4000000
namespace Go.Proofs
open Go.RowKit Go.Shelf Go.Pv
theorem bin_shl_u {P : Program} {t : TypeId} {k : IntKind} {a b : Int} (hb : 0 ≤ b) : evBin P .shl t (.d (.int .i64 a)) (.d (.int k b)) = some (.d (.int .i64 (IntKind.i64.wrap (a * 2 ^ (min b.toNat 64))))) := by
 have : ¬ b < 0 := by omega
 show (pureRun P (if b < 0 then _ else _)).bind ofScalar = _
 rw [if_neg this]
 rfl
theorem bin_rem {P : Program} {t : TypeId} {a b : Int} (hb : b ≠ 0) : evBin P .rem t (.d (.int .i64 a)) (.d (.int .i64 b)) = some (.d (.int .i64 (a.tmod b))) := by
 show (pureRun P (if b = 0 then _ else _)).bind ofScalar = _
 rw [if_neg hb]
 rfl
theorem app41 (rows xs : List (List DV)) (h : rowsOk 1 rows = true) (h' : rowsOk 1 xs = true) (hb : (rows.length + xs.length) * 8 ≤ roomB) : evAppend Tryz.prog 39 (acc rows) (.d (.slice xs)) = some (acc (rows ++ xs)) := by
 unfold evAppend
 rw [Ty.app39]
 simp only [Option.bind_some, acc_own, elemsOf, h, h', Bool.true_and, hb, decide_true, if_true]
theorem and1 (x : Int) (hx : 0 ≤ x ∧ x < 2 ^ 40) : evBin Tryz.prog .and 3 (.d (.int .i64 x)) (.d (.int .i64 1)) = some (.d (.int .i64 (x % 2))) := by
 have := bits_one x hx
 rw [bin_and]
 exact congrArg (fun z => some (PV.d (.int .i64 z))) this
theorem bitsOf_take (v : Int) (m j : Nat) (h : j < m) : (bitsOf v m).take j ++ [(v / 2 ^ (m - 1 - j)) % 2] = (bitsOf v m).take (j + 1) := by
 rw [List.take_add_one]
 simp [bitsOf, h]
theorem l_put (k : Nat) (v : Int) (m : Nat) (hm : m ≤ 32) (hv : 0 ≤ v ∧ v < 2 ^ m) (B : Code) (hB : Tryz.f178.body.bind bodyOf = some B) :
  ∀ (n j : Nat) (x8 x9 x10 x11 x12 x13 x14 x15 x16 x17 x18 x19 x20 x21 x22 x23 x24 x25 x26 x27 x28 x29 x30 x31 x32 x33 x34 x35 x36 x37 : PV), j ≤ m → m < j + n →
   ∃ y26 y27 y28 y29 y30 y31 y32 y33 y34 y35 y36 z, loopN (evCode E1 (evI E1) k B) n ⟨[.d (.int .i64 v), .d (.int .i64 m), .undef, .undef, .e0, .d (.bool false), acc (((bitsOf v m).take j).map intD), .d (.int .i64 ((m : Int) - 1 - j)), x8, x9, x10, x11, x12, x13, x14, x15, x16, x17, x18, x19, x20, x21, x22, x23, x24, x25, x26, x27, x28, x29, x30, x31, x32, x33, x34, x35, x36, x37], []⟩ =
    some (.exit 0, ⟨[.d (.int .i64 v), .d (.int .i64 m), .undef, .undef, .e0, .d (.bool false), acc ((bitsOf v m).map intD), z, x8, x9, x10, x11, x12, x13, x14, x15, x16, x17, x18, x19, x20, x21, x22, x23, x24, x25, y26, y27, y28, y29, y30, y31, y32, y33, y34, y35, y36, x37], []⟩) := by
 simp [Tryz.f178, bodyOf] at hB
 subst hB
 intro n
 induction n with
 | zero => intros; omega
 | succ n ih =>
  intro j x8 x9 x10 x11 x12 x13 x14 x15 x16 x17 x18 x19 x20 x21 x22 x23 x24 x25 x26 x27 x28 x29 x30 x31 x32 x33 x34 x35 x36 x37 h1 h2
  rw [loopN_succ]
  by_cases hi : j < m
  ·have hge : (0 : Int) ≤ (m : Int) - 1 - j := by omega
   have hw : IntKind.i64.wrap ((m : Int) - 1 - j - 1) = (m : Int) - 1 - (j + 1 : Nat) := by rw [wrap_ok (by omega) (by omega)]; omega
   have hle : (2 : Int) ^ m ≤ 2 ^ 32 := by
    have : (2 : Nat) ^ m ≤ 2 ^ 32 := Nat.pow_le_pow_right (by decide) hm
    exact_mod_cast this
   have hsh : evBin Tryz.prog .shr 3 (.d (.int .i64 v)) (.d (.int .i64 ((m : Int) - 1 - j))) = some (.d (.int .i64 (v / 2 ^ (m - 1 - j)))) := by
    rw [bin_shr hge, show min ((m : Int) - 1 - j).toNat 64 = m - 1 - j by omega, Int.fdiv_eq_ediv_of_nonneg _ (Int.le_of_lt (Int.pow_pos (by decide)))]
   have han := and1 (v / 2 ^ (m - 1 - j)) ⟨Int.ediv_nonneg hv.1 (Int.le_of_lt (Int.pow_pos (by decide))), by
    have : v / 2 ^ (m - 1 - j) ≤ v := Int.ediv_le_self _ hv.1
    omega⟩
   have hap := app41 (((bitsOf v m).take j).map intD) [[.int .i64 ((v / 2 ^ (m - 1 - j)) % 2)]] (rowsOk_int _) rfl (by simp [bitsOf, roomB]; omega)
   have htk := bitsOf_take v m j hi
   have hres : ((bitsOf v m).take j).map intD ++ [[.int .i64 ((v / 2 ^ (m - 1 - j)) % 2)]] = ((bitsOf v m).take (j + 1)).map intD := by rw [← htk]; simp
   rw [hres] at hap
   have hk := fun z8 z9 z10 z11 z12 z13 z14 z15 z16 z17 z18 z19 z20 z21 z22 z23 z24 z25 z26 z27 z28 z29 z30 z31 z32 z33 z34 z35 z36 z37 => ih (j + 1) z8 z9 z10 z11 z12 z13 z14 z15 z16 z17 z18 z19 z20 z21 z22 z23 z24 z25 z26 z27 z28 z29 z30 z31 z32 z33 z34 z35 z36 z37 (by omega) (by omega)
   generalize v / 2 ^ (m - 1 - j) = q at hsh han hap
   generalize (bitsOf v m).take j = A at hap
   generalize (bitsOf v m).take (j + 1) = A' at hap hk
   generalize (m : Int) - 1 - (j + 1 : Nat) = J' at hw hk
   generalize (m : Int) - 1 - j = J at hge hw hsh
   simp [hge, hw, hsh, han, hap, rowsFrom]
   exact hk _ _ _ _ _ _ _ _ _ _ _ _ _ _ _ _ _ _ _ _ _ _ _ _ _ _ _ _ _ _
  ·have hj : j = m := by omega
   have hlt : ¬ (0 : Int) ≤ (m : Int) - 1 - j := by omega
   have : (bitsOf v m).take j = bitsOf v m := List.take_of_length_le (by simp [bitsOf]; omega)
   rw [this]
   generalize (m : Int) - 1 - j = J at hlt
   simp [hlt]
theorem r_Put (v : Int) (m : Nat) (hm : m ≤ 32) (hv : 0 ≤ v ∧ v < 2 ^ m) (σ : Store) : callIt E1 (evI E1) 178 [.d (.int .i64 v), .d (.int .i64 m)] σ = some (.tup [.d (.slice ((bitsOf v m).map intD)), .d (.bool true)], σ) := by
 refine call_run (fn := Tryz.f178) (m + 1) rfl rfl rfl Tryz.func178 rfl rfl ?_ rfl
 have hle : (2 : Int) ^ m ≤ 2 ^ 32 := by
  have : (2 : Nat) ^ m ≤ 2 ^ 32 := Nat.pow_le_pow_right (by decide) hm
  exact_mod_cast this
 have hpos : (0 : Int) < 2 ^ m := Int.pow_pos (by decide)
 have hsh : evBin Tryz.prog .shl 3 (.d (.int .i64 1)) (.d (.int .i64 m)) = some (.d (.int .i64 (2 ^ m))) := by
  rw [bin_shl_u (by omega), show min ((m : Int)).toNat 64 = m by omega, Int.one_mul, wrap_ok (by omega) (by omega)]
 have hm0 : ¬ (m : Int) < 0 := by omega
 have hm32 : ¬ (m : Int) > 32 := by omega
 have hv0 : ¬ v < 0 := by omega
 have hvm : ¬ v ≥ 2 ^ m := by omega
 have hw : IntKind.i64.wrap ((m : Int) - 1) = (m : Int) - 1 - (0 : Nat) := by rw [wrap_ok (by omega) (by omega)]; omega
 obtain ⟨y26, y27, y28, y29, y30, y31, y32, y33, y34, y35, y36, z, h1⟩ := l_put (m + 1) v m hm hv _ rfl (m + 1) 0 (.d (.int .i64 m)) (.d (.bool false)) (.d (.bool false)) (.d (.int .i64 m)) (.d (.bool false)) (.d (.bool false)) (.d (.bool false)) (.d (.int .i64 v)) (.d (.bool false)) (.d (.bool false)) (.d (.bool false)) (.d (.int .i64 v)) (.d (.int .i64 m)) (.d (.int .i64 (2 ^ m))) (.d (.bool false)) (.d (.bool false)) (.d (.int .i64 m)) (.d (.int .i64 ((m : Int) - 1 - (0 : Nat)))) .undef .undef .undef .undef .undef .undef .undef .undef .undef .undef .undef .undef (by omega) (by omega)
 generalize (m : Int) - 1 - (0 : Nat) = J at hw h1
 generalize (2 : Int) ^ m = M at hsh hvm h1
 rw [show acc (((bitsOf v m).take 0).map intD) = .e0 from rfl] at h1
 simp [Tryz.f178, ec_loop, hm0, hm32, hv0, hsh, hvm, hw, h1]
theorem r_put (l : List Int) (v : Int) (m : Nat) (hm : m ≤ 32) (hv : 0 ≤ v ∧ v < 2 ^ m) (hl : l.length ≤ 1000) (σ : Store) : callIt E1 (evI E1) 146 [.d (.slice (l.map intD)), .d (.int .i64 v), .d (.int .i64 m)] σ = some (acc ((l ++ bitsOf v m).map intD), σ) := by
 refine call_run (fn := Tryz.f146) 5 rfl rfl rfl Tryz.func146 rfl rfl ?_ (acc_data _)
 have h1 := r_Put v m hm hv
 have hlen : (bitsOf v m).length = m := by simp [bitsOf]
 have h2 := app41 [] (l.map intD) rfl (rowsOk_int _) (by simp [roomB]; omega)
 have h3 := app41 (l.map intD) ((bitsOf v m).map intD) (rowsOk_int _) (rowsOk_int _) (by simp [roomB, hlen]; omega)
 have hre : retOf (acc (l.map intD ++ (bitsOf v m).map intD)) = acc (l.map intD ++ (bitsOf v m).map intD) := by
  generalize l.map intD ++ (bitsOf v m).map intD = r
  cases r <;> rfl
 simp at h2
 simp only [List.map_append]
 simp [Tryz.f146, rowsFrom, h1, h2, h3]
 exact hre
theorem r_remote (f : Fr) (σ : Store) : callIt E1 (evI E1) 147 [f.P] σ = some (.d (.int .i64 (bitOf f.rm)), σ) := by
 refine call_run (fn := Tryz.f147) 5 rfl rfl rfl Tryz.func147 rfl rfl ?_ rfl
 obtain ⟨e, id, rm, ln, data⟩ := f
 cases rm <;> simp [Tryz.f147, bitOf]
theorem r_Rank (f : Fr) (h : f.right = true) (σ : Store) : callIt E1 (evI E1) 85 [f.P] σ = some (acc (f.rank.map intD), σ) := by
 refine call_run (fn := Tryz.f85) 5 rfl rfl rfl Tryz.func85 rfl rfl ?_ (acc_data _)
 have hid := (f.right_iff.1 h).1
 have hre : ∀ r : List (List DV), retOf (acc r) = acc r := fun r => by cases r <;> rfl
 have h0 := r_remote f
 obtain ⟨e, id, rm, ln, data⟩ := f
 have hb : 0 ≤ bitOf rm ∧ bitOf rm < 2 ^ 1 := by cases rm <;> decide
 have hlen : ∀ v m, (bitsOf v m).length = m := fun v m => by simp [bitsOf]
 cases e
 ·simp only [Bool.false_eq_true, if_false] at hid
  have h1 := r_put [] id 11 (by decide) hid (by decide)
  have h2 := r_put (bitsOf id 11) (bitOf rm) 1 (by decide) hb (by simp [hlen])
  have h3 := r_put (bitsOf id 11 ++ bitsOf (bitOf rm) 1) 0 1 (by decide) (by decide) (by simp [hlen])
  simp at h0 h1 h2 h3
  simp [Tryz.f85, h0, h1, h2, h3, Fr.rank, hre]
  have := hre ((bitsOf id 11).map intD ++ ((bitsOf (bitOf rm) 1).map intD ++ (bitsOf 0 1).map intD))
  exact this
 ·simp only [if_true] at hid
  have h1 := r_put [] (id / 2 ^ 18) 11 (by decide) (by omega) (by decide)
  have h2 := r_put (bitsOf (id / 2 ^ 18) 11) 3 2 (by decide) (by decide) (by simp [hlen])
  have h3 := r_put (bitsOf (id / 2 ^ 18) 11 ++ bitsOf 3 2) (id % 2 ^ 18) 18 (by decide) (by omega) (by simp [hlen])
  have h4 := r_put (bitsOf (id / 2 ^ 18) 11 ++ bitsOf 3 2 ++ bitsOf (id % 2 ^ 18) 18) (bitOf rm) 1 (by decide) hb (by simp [hlen])
  have hsh : ∀ k, evBin Tryz.prog .shr 3 (.d (.int .i64 id)) (.d (.int k 18)) = some (.d (.int .i64 (id / 2 ^ 18))) := fun k => by
   rw [bin_shr_u (by decide), show (2 : Int) ^ min (Int.toNat 18) 64 = 2 ^ 18 by decide, Int.fdiv_eq_ediv_of_nonneg _ (by decide)]
  have hrem : evBin Tryz.prog .rem 3 (.d (.int .i64 id)) (.d (.int .i64 262144)) = some (.d (.int .i64 (id % 2 ^ 18))) := by
   rw [bin_rem (by decide), Int.tmod_eq_emod_of_nonneg hid.1]
   rfl
  simp at h0 h1 h2 h3 h4 hsh hrem
  simp [Tryz.f85, h0, h1, h2, h3, h4, hsh, hrem, Fr.rank, hre]
  have := hre ((bitsOf (id / 262144) 11).map intD ++ ((bitsOf 3 2).map intD ++ ((bitsOf (id % 262144) 18).map intD ++ (bitsOf (bitOf rm) 1).map intD)))
  exact this
end Go.Proofs

set_option maxRecDepth 100000
set_option maxHeartbeats 4000000
namespace Go.Proofs
open Go.RowKit Go.Shelf Go.Pv
@[simp] theorem bytes_map (l : List Int) : bytesOfRows (l.map byD) = some l := by
 induction l with
 | nil => rfl
 | cons x xs ih => simp [bytesOfRows, byteOfRow, ih]
theorem isU8_5 : isU8 Tryz.prog 5 = true := by kernel_rfl
@[simp] theorem bs33 (rows : List (List DV)) : evConvert Tryz.prog 32 9 (.d (.slice rows)) = (bytesOfRows rows).map fun xs => .d (.str (strOfNums xs)) := by
 simp [evConvert, evBytesStr, Tryz.underlying9, isU8_5]
def sameB (a b : List Int) : Bool := (strOfNums a).toList == (strOfNums b).toList
theorem sameB_refl (a : List Int) : sameB a a = true := by simp [sameB]
theorem r_sameBytes (a b : List Int) (σ : Store) : callIt E1 (evI E1) 88 [.d (.slice (a.map byD)), .d (.slice (b.map byD))] σ = some (.d (.bool (sameB a b)), σ) := by
 refine call_run (fn := Tryz.f88) 5 rfl rfl rfl Tryz.func88 rfl rfl ?_ rfl
 simp [Tryz.f88, sameB]
def Fr.same (a b : Fr) : Bool := (a.e == b.e) && (a.id == b.id) && (a.rm == b.rm) && (a.ln == b.ln) && sameB a.data b.data
theorem Fr.same_refl (a : Fr) : a.same a = true := by simp [Fr.same, sameB_refl]
theorem r_same (a b : Fr) (σ : Store) : callIt E1 (evI E1) 33 [a.P, b.P] σ = some (.d (.bool (a.same b)), σ) := by
 refine call_run (fn := Tryz.f33) 5 rfl rfl rfl Tryz.func33 rfl rfl ?_ rfl
 have h := r_sameBytes a.data b.data
 obtain ⟨ae, aid, arm, aln, ad⟩ := a
 obtain ⟨be, bid, brm, bln, bd⟩ := b
 unfold Fr.same
 simp at h
 cases hc1 : (ae == be)
 ·simp [Tryz.f33, h, hc1]
 ·cases hc2 : (aid == bid)
  ·simp [Tryz.f33, h, hc1, hc2]
  ·cases hc3 : (arm == brm)
   ·simp [Tryz.f33, h, hc1, hc2, hc3]
   ·cases hc4 : (aln == bln)
    ·simp [Tryz.f33, h, hc1, hc2, hc3, hc4]
    ·simp [Tryz.f33, h, hc1, hc2, hc3, hc4]
theorem l_sameAll (m : Nat) (l : List Fr) (hl : l.length ≤ 1000000) (B : Code) (hB : Tryz.f30.body.bind bodyOf = some B) :
  ∀ (n i : Nat) (x6 x7 x8 x9 x10 x11 x12 x13 x14 x15 x16 x17 x18 x19 x20 x21 x22 x23 x24 x25 x26 : PV), i ≤ l.length → l.length < i + n →
   ∃ y11 y12 y13 y14 y15 y16 y17 y18 y19 y20 y21 y22 y23 y24 y25 y26 z, loopN (evCode E1 (evI E1) m B) n ⟨[.d (.slice (l.map Fr.D)), .d (.slice (l.map Fr.D)), .undef, .undef, .d (.bool false), .d (.int .i64 i), x6, x7, x8, x9, x10, x11, x12, x13, x14, x15, x16, x17, x18, x19, x20, x21, x22, x23, x24, x25, x26], []⟩ =
    some (.exit 0, ⟨[.d (.slice (l.map Fr.D)), .d (.slice (l.map Fr.D)), .undef, .undef, .d (.bool false), z, x6, x7, x8, x9, x10, y11, y12, y13, y14, y15, y16, y17, y18, y19, y20, y21, y22, y23, y24, y25, y26], []⟩) := by
 simp [Tryz.f30, bodyOf] at hB
 subst hB
 intro n
 induction n with
 | zero => intros; omega
 | succ n ih =>
  intro i x6 x7 x8 x9 x10 x11 x12 x13 x14 x15 x16 x17 x18 x19 x20 x21 x22 x23 x24 x25 x26 h1 h2
  rw [loopN_succ]
  by_cases hi : i < l.length
  ·have hx : l[i]? = some l[i] := List.getElem?_eq_getElem hi
   generalize l[i] = x at hx
   have hlt : (i : Int) < (l.length : Int) := by omega
   have hs := r_same x x
   rw [x.same_refl] at hs
   simp at hs
   have hw' : IntKind.i64.wrap ((i : Int) + 1) = ((i + 1 : Nat) : Int) := by rw [wrap_ok (by omega) (by omega)]; omega
   simp [hx, hlt, hs, hw']
   exact ih (i + 1) _ _ _ _ _ _ _ _ _ _ _ _ _ _ _ _ _ _ _ _ _ (by omega) (by omega)
  ·have hlt : ¬ (i : Int) < (l.length : Int) := by omega
   simp [hlt]
theorem r_sameAll (l : List Fr) (hl : l.length ≤ 1000000) (σ : Store) : callIt E1 (evI E1) 30 [.d (.slice (l.map Fr.D)), .d (.slice (l.map Fr.D))] σ = some (.d (.bool true), σ) := by
 refine call_run (fn := Tryz.f30) (l.length + 1) rfl rfl rfl Tryz.func30 rfl rfl ?_ rfl
 obtain ⟨y11, y12, y13, y14, y15, y16, y17, y18, y19, y20, y21, y22, y23, y24, y25, y26, z, h1⟩ := l_sameAll (l.length + 1) l hl _ rfl (l.length + 1) 0 (.d (.slice (l.map Fr.D))) (.d (.int .i64 l.length)) (.d (.slice (l.map Fr.D))) (.d (.int .i64 l.length)) (.d (.bool false)) .undef .undef .undef .undef .undef .undef .undef .undef .undef .undef .undef .undef .undef .undef .undef .undef (by omega) (by omega)
 simp at h1
 simp [Tryz.f30, ec_loop, h1]
theorem l_sameNd (m : Nat) (a : Nd) (hl : a.fs.length ≤ 1000000) (B : Code) (hB : Tryz.f35.body.bind bodyOf = some B) :
  ∀ (n i : Nat) (x6 x7 x8 x9 x10 x11 x12 x13 x14 x15 x16 x17 x18 x19 x20 x21 x22 x23 x24 x25 x26 x27 x28 x29 x30 x31 x32 x33 x34 x35 x36 x37 x38 x39 x40 x41 x42 x43 x44 x45 x46 x47 x48 x49 : PV), i ≤ a.fs.length → a.fs.length < i + n →
   ∃ y13 y14 y15 y16 y17 y18 y19 y20 y21 y22 y23 y24 y25 y26 y27 y28 y29 y30 z, loopN (evCode E1 (evI E1) m B) n ⟨[a.P, a.P, .ptr 0 0, .ptr 1 0, .d (.bool false), .d (.int .i64 i), x6, x7, x8, x9, x10, x11, x12, x13, x14, x15, x16, x17, x18, x19, x20, x21, x22, x23, x24, x25, x26, x27, x28, x29, x30, x31, x32, x33, x34, x35, x36, x37, x38, x39, x40, x41, x42, x43, x44, x45, x46, x47, x48, x49], [cellsOf a.P, cellsOf a.P]⟩ =
    some (.exit 0, ⟨[a.P, a.P, .ptr 0 0, .ptr 1 0, .d (.bool false), z, x6, x7, x8, x9, x10, x11, x12, y13, y14, y15, y16, y17, y18, y19, y20, y21, y22, y23, y24, y25, y26, y27, y28, y29, y30, x31, x32, x33, x34, x35, x36, x37, x38, x39, x40, x41, x42, x43, x44, x45, x46, x47, x48, x49], [cellsOf a.P, cellsOf a.P]⟩) := by
 simp [Tryz.f35, bodyOf] at hB
 subst hB
 intro n
 induction n with
 | zero => intros; omega
 | succ n ih =>
  intro i x6 x7 x8 x9 x10 x11 x12 x13 x14 x15 x16 x17 x18 x19 x20 x21 x22 x23 x24 x25 x26 x27 x28 x29 x30 x31 x32 x33 x34 x35 x36 x37 x38 x39 x40 x41 x42 x43 x44 x45 x46 x47 x48 x49 h1 h2
  rw [loopN_succ]
  by_cases hi : i < a.fs.length
  ·have hx : a.fs[i]? = some a.fs[i] := List.getElem?_eq_getElem hi
   generalize a.fs[i] = x at hx
   have hlt : (i : Int) < (a.fs.length : Int) := by omega
   have hw' : IntKind.i64.wrap ((i : Int) + 1) = ((i + 1 : Nat) : Int) := by rw [wrap_ok (by omega) (by omega)]; omega
   have hk := fun z6 z7 z8 z9 z10 z11 z12 z13 z14 z15 z16 z17 z18 z19 z20 z21 z22 z23 z24 z25 z26 z27 z28 z29 z30 z31 z32 z33 z34 z35 z36 z37 z38 z39 z40 z41 z42 z43 z44 z45 z46 z47 z48 z49 => ih (i + 1) z6 z7 z8 z9 z10 z11 z12 z13 z14 z15 z16 z17 z18 z19 z20 z21 z22 z23 z24 z25 z26 z27 z28 z29 z30 z31 z32 z33 z34 z35 z36 z37 z38 z39 z40 z41 z42 z43 z44 z45 z46 z47 z48 z49 (by omega) (by omega)
   simp [cellsOf] at hk
   simp [hx, hlt, hw', cellsOf, loadS]
   exact hk _ _ _ _ _ _ _ _ _ _ _ _ _ _ _ _ _ _ _ _ _ _ _ _ _ _ _ _ _ _ _ _ _ _ _ _ _ _ _ _ _ _ _ _
  ·have hlt : ¬ (i : Int) < (a.fs.length : Int) := by omega
   simp [hlt, cellsOf, loadS]
theorem r_sameNd (a : Nd) (hf : a.fs.length ≤ 1000000) (hq : a.q.length ≤ 1000000) (hg : a.g.length ≤ 1000000) (σ : Store) : callIt E1 (evI E1) 35 [a.P, a.P] σ = some (.d (.bool true), σ) := by
 refine call_run (fn := Tryz.f35) (a.fs.length + 1) rfl rfl rfl Tryz.func35 rfl rfl ?_ rfl
 obtain ⟨y13, y14, y15, y16, y17, y18, y19, y20, y21, y22, y23, y24, y25, y26, y27, y28, y29, y30, z, h1⟩ := l_sameNd (a.fs.length + 1) a hf _ rfl (a.fs.length + 1) 0 (.ptr 0 1) (.d (.slice (a.fs.map Fl.D))) (.d (.int .i64 a.fs.length)) (.ptr 1 1) (.d (.slice (a.fs.map Fl.D))) (.d (.int .i64 a.fs.length)) (.d (.bool false)) .undef .undef .undef .undef .undef .undef .undef .undef .undef .undef .undef .undef .undef .undef .undef .undef .undef .undef .undef .undef .undef .undef .undef .undef .undef .undef .undef .undef .undef .undef .undef .undef .undef .undef .undef .undef .undef (by omega) (by omega)
 have h2 := r_sameAll a.q hq
 have h3 := r_sameAll a.g hg
 simp [cellsOf] at h1
 simp [Tryz.f35, ec_loop, cellsOf, loadS, h1, h2, h3]
end Go.Proofs

set_option maxRecDepth 100000
set_option maxHeartbeats 4000000
namespace Go.Proofs
open Go.RowKit Go.Shelf Go.Pv
@[simp] theorem st_ms (i o l z : Nat) : PV.strip (.ms i o l z) = .ms i o l z := rfl
@[simp] theorem st1_ms (i o l z : Nat) : PV.strip1 (.ms i o l z) = .ms i o l z := rfl
@[simp] theorem k0_ms (i o l z : Nat) : PV.keep0 (.ms i o l z) = .ms i o l z := rfl
@[simp] theorem sc_ms (i o l z : Nat) : storedCells (.ms i o l z) = [.ms i o l z] := rfl
@[simp] theorem on_ms (i o l z : Nat) : oneP (.ms i o l z) = true := rfl
theorem rd_set (S : List PV) (i j : Nat) (v : PV) : rd (S.set i v) j = if i = j ∧ j < S.length then v else rd S j := by
 unfold rd
 rw [List.getD_eq_getElem?_getD, List.getD_eq_getElem?_getD, List.getElem?_set]
 by_cases h : i = j
 ·subst h
  by_cases hl : i < S.length
  ·simp [hl]
  ·simp [hl]
 ·simp [h]
theorem rd_el {S : List PV} {i : Nat} {v : PV} (h : rd S i = v) (hl : i < S.length) : S[i] = v := by
 unfold rd at h
 rw [List.getD_eq_getElem?_getD, List.getElem?_eq_getElem hl] at h
 exact h
def andL (l : List Int) : Int := l.foldl min 1
theorem wrap_succ (i : Nat) (h : i < 2 ^ 60) : IntKind.i64.wrap ((i : Int) + 1) = ((i + 1 : Nat) : Int) := by rw [wrap_ok (by omega) (by omega)]; omega
theorem l_and (m : Nat) (l : List Int) (hl : l.length ≤ 1000000) (σ : Store) (S : List PV) (hS : S.length = 17) (h3 : rd S 3 = .d (.int .i64 1)) (h6 : rd S 6 = .d (.slice (l.map intD))) (h7 : rd S 7 = .d (.int .i64 l.length))
  (h8 : rd S 8 = .d (.int .i64 0)) (k : Nat) (hk : l.length < k) :
  Lp (loopN (evCode E1 (evI E1) m (theLoop Tryz.f219 0)) k ⟨S, σ⟩) fun r => ∃ S', r = (.exit 0, ⟨S', σ⟩) ∧ S'.length = 17 ∧ rd S' 3 = (.d (.int .i64 (andL l))) := by
 refine loop_inv (fun i st => ∃ S : List PV, st = ⟨S, σ⟩ ∧ S.length = 17 ∧ rd S 3 = .d (.int .i64 (andL (l.take i))) ∧ rd S 6 = .d (.slice (l.map intD)) ∧ rd S 7 = .d (.int .i64 l.length) ∧ rd S 8 = .d (.int .i64 i)) _ l.length ?_ ?_ k 0 _ (by omega) (by omega) ⟨S, rfl, hS, h3, h6, h7, h8⟩
 ·rintro i st hi ⟨S, rfl, hS, h3, h6, h7, h8⟩
  have hx : l[i]? = some l[i] := List.getElem?_eq_getElem hi
  have htk : andL (l.take (i + 1)) = min (andL (l.take i)) l[i] := by rw [andL, List.take_add_one, hx, List.foldl_append]; rfl
  generalize l[i] = x at hx htk
  rw [htk]
  have hlt : (i : Int) < (l.length : Int) := by omega
  simp [theLoop, Tryz.f219, loopsAll, Lp_some, -rd, rd_set, hS, h3, h6, h7, h8, hx, hlt, wrap_succ i (by omega)]
 ·rintro st ⟨S, rfl, hS, h3, h6, h7, h8⟩
  rw [List.take_length] at h3
  simp [theLoop, Tryz.f219, loopsAll, Lp_some, -rd, rd_set, hS, h3, h6, h7, h8]
theorem b_and (l : List Int) (hl : l.length ≤ 1000000) (σ : Store) : callIt E1 (evI E1) 219 [.d (.slice (l.map intD))] σ = some (.d (.int .i64 (andL l)), σ) := by
 refine call_run (fn := Tryz.f219) (l.length + 1) rfl rfl rfl Tryz.func219 rfl rfl ?_ rfl
 simp [Tryz.f219, ec_loop]
 generalize hLL : loopN _ _ _ = L
 obtain ⟨r, rfl, S, rfl, hS, h3⟩ := at_loop hLL (l_and (l.length + 1) l hl [] _ rfl rfl rfl rfl rfl (l.length + 1) (by omega))
 simp [-rd, rd_set, hS, h3]
end Go.Proofs

set_option maxRecDepth 100000
namespace Go.Proofs
open Go.RowKit Go.Shelf Go.Pv
def bitsNow (R : List (List Int)) (B : List Bool) (k : Nat) : List Int := (R.zip B).filterMap fun x => if x.2 then x.1[k]? else none
def stepB (R : List (List Int)) (B : List Bool) (k : Nat) (line : Int) : List Bool := (R.zip B).map fun x => x.2 && !(match x.1[k]? with | some y => decide (y > line) | none => false)
theorem cmpL_at : ∀ (k : Nat) (m r : List Int), r.take k = m.take k → k < m.length → cmpL m r ≤ 0 → ∃ x y, r[k]? = some x ∧ m[k]? = some y ∧ y ≤ x
 | 0, [], r, _, h, _ => by simp at h
 | 0, a :: m, [], _, _, h => by simp [cmpL] at h
 | 0, a :: m, x :: r, _, _, h => by
  refine ⟨x, a, rfl, rfl, ?_⟩
  simp only [cmpL] at h
  split at h
  ·omega
  ·split at h
   ·simp at h
   ·omega
 | k + 1, [], r, _, h, _ => by simp at h
 | k + 1, a :: m, [], he, _, _ => by simp at he
 | k + 1, a :: m, x :: r, he, hk, h => by
  simp only [List.take_succ_cons, List.cons.injEq] at he
  obtain ⟨rfl, he⟩ := he
  simp only [cmpL, Int.lt_irrefl, if_false] at h
  simpa using cmpL_at k m r he (by simpa using hk) h
theorem andL_le : ∀ (l : List Int) (o b : Int), b ∈ l → l.foldl min o ≤ b
 | [], o, b, h => by simp at h
 | x :: l, o, b, h => by
  have hle : ∀ (l : List Int) (o : Int), l.foldl min o ≤ o := by
   intro l
   induction l with
   | nil => intro o; exact Int.le_refl _
   | cons y l ih => intro o; exact Int.le_trans (ih _) (Int.min_le_left _ _)
  cases h with
  | head => exact Int.le_trans (hle l _) (Int.min_le_right _ _)
  | tail _ h => exact andL_le l _ b h
theorem le_andL : ∀ (l : List Int) (o b : Int), b ≤ o → (∀ x ∈ l, b ≤ x) → b ≤ l.foldl min o
 | [], o, b, h, _ => h
 | x :: l, o, b, h, hl => le_andL l _ b (by have := hl x (by simp); omega) (fun y hy => hl y (by simp [hy]))
theorem andL_eq {l : List Int} {b : Int} (hb : b ∈ l) (hl : ∀ x ∈ l, b ≤ x) (h1 : b ≤ 1) : andL l = b :=
 Int.le_antisymm (andL_le l 1 b hb) (le_andL l 1 b h1 hl)
def upB (R : List (List Int)) (m : List Int) (k : Nat) : List Bool := R.map fun r => decide (r.take k = m.take k)
section race
variable {R : List (List Int)} {m : List Int} (hm : m ∈ R) (hmin : ∀ r ∈ R, cmpL m r ≤ 0) (hbit : ∀ r ∈ R, ∀ x ∈ r, x = 0 ∨ x = 1) (hpf : ∀ r ∈ R, m <+: r → r = m)
theorem zip_map_self {α β : Type} (f : α → β) : ∀ (l : List α), l.zip (l.map f) = l.map fun x => (x, f x)
 | [] => rfl
 | x :: l => by simp [zip_map_self f l]
include hm hmin hbit in
theorem race_line {k : Nat} (hk : k < m.length) : m[k]? = some (andL (bitsNow R (upB R m k) k)) ∧ bitsNow R (upB R m k) k ≠ [] := by
 have hmk : m[k]? = some m[k] := List.getElem?_eq_getElem hk
 have hmem : m[k] ∈ bitsNow R (upB R m k) k := by
  unfold bitsNow upB
  rw [zip_map_self, List.mem_filterMap]
  exact ⟨(m, decide (m.take k = m.take k)), List.mem_map.2 ⟨m, hm, rfl⟩, by simp [hmk]⟩
 refine ⟨?_, List.ne_nil_of_mem hmem⟩
 rw [hmk, andL_eq hmem (fun x hx => ?_) (by have := hbit m hm m[k] (List.getElem_mem hk); omega)]
 unfold bitsNow upB at hx
 rw [zip_map_self, List.mem_filterMap] at hx
 obtain ⟨y, hy, hx⟩ := hx
 obtain ⟨r, hr, rfl⟩ := List.mem_map.1 hy
 simp only at hx
 split at hx
 ·rename_i he
  obtain ⟨x', y', h1, h2, h3⟩ := cmpL_at k m r (by simpa using he) hk (hmin r hr)
  rw [h1] at hx; cases hx
  rw [hmk] at h2; cases h2
  exact h3
 ·cases hx
include hm hmin hbit in
theorem race_step {k : Nat} (hk : k < m.length) : stepB R (upB R m k) k (andL (bitsNow R (upB R m k) k)) = upB R m (k + 1) := by
 obtain ⟨hl, _⟩ := race_line hm hmin hbit hk
 generalize andL (bitsNow R (upB R m k) k) = line at hl
 unfold stepB upB
 rw [zip_map_self, List.map_map]
 refine List.map_congr_left fun r hr => ?_
 simp only [Function.comp]
 by_cases he : r.take k = m.take k
 ·obtain ⟨x, y, h1, h2, h3⟩ := cmpL_at k m r he hk (hmin r hr)
  rw [h2] at hl; cases hl
  have e1 : r.take (k + 1) = r.take k ++ [x] := by rw [List.take_add_one, h1]; rfl
  have e2 : m.take (k + 1) = m.take k ++ [line] := by rw [List.take_add_one, h2]; rfl
  rw [e1, e2, he, h1]
  by_cases hx : x = line
  ·subst hx; simp
  ·have : x > line := by omega
   simp [hx, this]
 ·have : ¬ r.take (k + 1) = m.take (k + 1) := fun h => he (by have := congrArg (List.take k) h; simpa [List.take_take] using this)
  simp [he, this]
include hpf in
theorem race_end : bitsNow R (upB R m m.length) m.length = [] ∧ upB R m m.length = R.map fun r => decide (r = m) := by
 have key : ∀ r ∈ R, r.take m.length = m → r = m := fun r hr h => hpf r hr ⟨r.drop m.length, by have := List.take_append_drop m.length r; rw [h] at this; exact this⟩
 constructor
 ·unfold bitsNow upB
  rw [zip_map_self, List.filterMap_eq_nil_iff]
  intro y hy
  obtain ⟨r, hr, rfl⟩ := List.mem_map.1 hy
  simp only [List.take_length]
  split
  ·rename_i h
   rw [key r hr (by simpa using h)]
   simp
  ·rfl
 ·unfold upB
  refine List.map_congr_left fun r hr => ?_
  rw [List.take_length]
  by_cases h : r = m
  ·subst h; simp
  ·have : ¬ r.take m.length = m := fun h' => h (key r hr h')
   simp [h, this]
end race
theorem bitsOf_bit (v : Int) (n : Nat) : ∀ x ∈ bitsOf v n, x = 0 ∨ x = 1 := by
 intro x hx
 obtain ⟨k, _, rfl⟩ := List.mem_map.1 hx
 omega
theorem Fr.rank_bit (f : Fr) : ∀ x ∈ f.rank, x = 0 ∨ x = 1 := by
 intro x hx
 unfold Fr.rank at hx
 split at hx
 ·simp only [List.mem_append] at hx
  rcases hx with ((h | h) | h) | h <;> exact bitsOf_bit _ _ x h
 ·simp only [List.mem_append] at hx
  rcases hx with (h | h) | h <;> exact bitsOf_bit _ _ x h
theorem Fr.rank_pf (f g : Fr) (h : f.rank <+: g.rank) : g.rank = f.rank := by
 have hlen := h.length_le
 by_cases he : f.rank.length = g.rank.length
 ·exact (h.eq_of_length he).symm
 ·exfalso
  unfold Fr.rank at h hlen he
  cases hf : f.e <;> cases hg : g.e <;> rw [hf] at h hlen he <;> rw [hg] at h hlen he <;> simp [bitsOf] at hlen he
  obtain ⟨t, ht⟩ := h
  have := congrArg (fun l => l[12]?) ht
  simp [bitsOf, List.range_succ] at this
end Go.Proofs

set_option maxRecDepth 100000
set_option maxHeartbeats 8000000
namespace Go.Proofs
open Go.RowKit Go.Shelf Go.Pv
def rankD (r : List Int) : List DV := [.slice (r.map intD)]
def intP (x : Int) : PV := .d (.int .i64 x)
def boolP (x : Bool) : PV := .d (.bool x)
def RS (R : List (List Int)) (ins : List Bool) (lost line : List Int) (J : Store) : Store :=
 lost.map intP :: ins.map boolP :: [acc (R.map rankD), .ms 1 0 R.length 1, .ms 0 0 R.length 1, acc (line.map intD)] :: J
theorem loadS_one {σ : Store} {id off : Nat} {cells : List PV} {c : PV} (h : σ[id]? = some cells) (hc : cells[off]? = some c) : loadS σ id off 1 = some [c] := by
 have hl := (List.getElem?_eq_some_iff.1 hc).1
 unfold loadS
 rw [h]
 simp only [Option.bind_some]
 rw [if_pos (by omega), List.drop_eq_getElem_cons hl]
 have : cells[off] = c := (List.getElem?_eq_some_iff.1 hc).2
 simp [this]
theorem storeS_one {σ : Store} {id off : Nat} {cells : List PV} (v : PV) (h : σ[id]? = some cells) (hc : off < cells.length) : storeS σ id off [v] = some (σ.set id (cells.set off v)) := by
 unfold storeS
 rw [h]
 simp only [Option.bind_some, List.length_cons, List.length_nil]
 have hs : cells.set off v = cells.take off ++ v :: cells.drop (off + 1) := by rw [List.set_eq_take_append_cons_drop, if_pos hc]
 rw [if_pos (by omega), hs]
 simp
section rs
variable {R : List (List Int)} {ins : List Bool} {lost line : List Int} {J : Store}
theorem rs_in {i : Nat} {b : Bool} (h : ins[i]? = some b) : loadS (RS R ins lost line J) 1 i 1 = some [.d (.bool b)] := loadS_one (cells := ins.map boolP) rfl (by rw [List.getElem?_map, h]; rfl)
theorem rs_0 : loadS (RS R ins lost line J) 2 0 1 = some [acc (R.map rankD)] := loadS_one rfl rfl
theorem rs_1 : loadS (RS R ins lost line J) 2 1 1 = some [.ms 1 0 R.length 1] := loadS_one rfl rfl
theorem rs_2 : loadS (RS R ins lost line J) 2 2 1 = some [.ms 0 0 R.length 1] := loadS_one rfl rfl
theorem rs_3 : loadS (RS R ins lost line J) 2 3 1 = some [acc (line.map intD)] := loadS_one rfl rfl
theorem rs_set_in {i : Nat} (b : Bool) (h : i < ins.length) : storeS (RS R ins lost line J) 1 i [.d (.bool b)] = some (RS R (ins.set i b) lost line J) := by
 rw [storeS_one (cells := ins.map boolP) _ rfl (by simpa using h)]
 simp [RS, List.map_set, boolP]
theorem rs_set_lost {i : Nat} (x : Int) (h : i < lost.length) : storeS (RS R ins lost line J) 0 i [.d (.int .i64 x)] = some (RS R ins (lost.set i x) line J) := by
 rw [storeS_one (cells := lost.map intP) _ rfl (by simpa using h)]
 simp [RS, List.map_set, intP]
theorem rs_line (line' : List Int) : ∃ X, storeS (RS R ins lost line J) 2 3 [.d (.slice (line.map intD))] = some X ∧ storeS X 2 3 [acc (line'.map intD)] = some (RS R ins lost line' J) := by
 refine ⟨_, storeS_one _ rfl (by simp), ?_⟩
 rw [storeS_one (cells := [acc (R.map rankD), .ms 1 0 R.length 1, .ms 0 0 R.length 1, .d (.slice (line.map intD))]) _ rfl (by simp)]
 rfl
theorem rs_len : (RS R ins lost line J).length = J.length + 3 := rfl
end rs
theorem b_bit (R : List (List Int)) (r : List Int) (b : Bool) (σ : Store) (i k : Nat) (h0 : loadS σ 2 0 1 = some [acc (R.map rankD)]) (h1 : loadS σ 2 1 1 = some [.ms 1 0 R.length 1]) (hin : loadS σ 1 i 1 = some [.d (.bool b)]) (hr : R[i]? = some r) :
  callIt E1 (evI E1) 218 [.ptr 2 0, .d (.int .i64 i), .d (.int .i64 k)] σ = some (.tup [.d (.int .i64 (if b && decide (k < r.length) then r.getD k 0 else 1)), .d (.bool (b && decide (k < r.length)))], σ) := by
 obtain ⟨hi, hri⟩ := List.getElem?_eq_some_iff.1 hr
 refine call_np (σ' := σ) rfl rfl rfl ?_ rfl rfl (by simp)
 refine evI_run (fn := Tryz.f218) 5 rfl Tryz.func218 rfl ?_
 cases b
 ·simp [Tryz.f218, -loadS, h0, h1, hin, hi, hri, rankD]
 ·by_cases hk : k < r.length
  ·have hk' : ¬ (r.length : Int) ≤ k := by omega
   have hk2 : ¬ r.length ≤ k := by omega
   have hx : r[k]? = some r[k] := List.getElem?_eq_getElem hk
   simp [Tryz.f218, -loadS, h0, h1, hin, hi, hri, rankD, hk, hk', hk2, hx]
  ·have hk' : (r.length : Int) ≤ k := by omega
   have hk2 : r.length ≤ k := by omega
   simp [Tryz.f218, -loadS, h0, h1, hin, hi, hri, rankD, hk, hk', hk2]
theorem b_bit' {R : List (List Int)} {ins : List Bool} {lost line : List Int} {J : Store} {i k : Nat} {r : List Int} {b : Bool} (hr : R[i]? = some r) (hb : ins[i]? = some b) :
  callIt E1 (evI E1) 218 [.ptr 2 0, .d (.int .i64 i), .d (.int .i64 k)] (RS R ins lost line J) = some (.tup [.d (.int .i64 (if b && decide (k < r.length) then r.getD k 0 else 1)), .d (.bool (b && decide (k < r.length)))], RS R ins lost line J) :=
 b_bit R r b _ i k rs_0 rs_1 (rs_in hb) hr
theorem l_step0 (m : Nat) (R : List (List Int)) (ins : List Bool) (lost line : List Int) (J : Store) (hlen : ins.length = R.length) (hl : R.length ≤ 1000000) (at' : Nat) (S : List PV) (hS : S.length = 87) (h0 : rd S 0 = .ptr 2 0) (h1 : rd S 1 = .d (.int .i64 at')) (h5 : rd S 5 = .func (.func 218) [.ptr 2 0] [])
  (h6 : rd S 6 = .e0) (h20 : rd S 20 = .d (.int .i64 R.length)) (h21 : rd S 21 = .d (.int .i64 0)) (k : Nat) (hk : R.length < k) :
  Lp (loopN (evCode E1 (evI E1) m (theLoop Tryz.f206 0)) k ⟨S, RS R ins lost line J⟩) fun r => ∃ S', r = (.exit 0, ⟨S', RS R ins lost line J⟩) ∧ S'.length = 87 ∧ rd S' 0 = .ptr 2 0 ∧ rd S' 1 = .d (.int .i64 at') ∧ rd S' 5 = .func (.func 218) [.ptr 2 0] [] ∧
   rd S' 6 = acc ((bitsNow R ins at').map intD) := by
 refine loop_inv (fun i st => ∃ S : List PV, st = ⟨S, RS R ins lost line J⟩ ∧ S.length = 87 ∧ rd S 0 = .ptr 2 0 ∧ rd S 1 = .d (.int .i64 at') ∧ rd S 5 = .func (.func 218) [.ptr 2 0] [] ∧ rd S 6 = acc ((bitsNow (R.take i) (ins.take i) at').map intD) ∧ rd S 20 = .d (.int .i64 R.length) ∧ rd S 21 = .d (.int .i64 i)) _ R.length ?_ ?_ k 0 _ (by omega) (by omega) ⟨S, rfl, hS, h0, h1, h5, h6, h20, h21⟩
 ·rintro i st hi ⟨S, rfl, hS, h0, h1, h5, h6, h20, h21⟩
  have hr : R[i]? = some R[i] := List.getElem?_eq_getElem hi
  have hb : ins[i]? = some ins[i] := List.getElem?_eq_getElem (by omega)
  have htk : bitsNow (R.take (i + 1)) (ins.take (i + 1)) at' = bitsNow (R.take i) (ins.take i) at' ++ (if ins[i] && decide (at' < R[i].length) then [R[i].getD at' 0] else []) := by
   unfold bitsNow
   rw [List.take_add_one, List.take_add_one, hr, hb, List.zip_append (by simp; omega), List.filterMap_append]
   congr 1
   generalize ins[i] = b
   generalize R[i] = r
   cases b
   ·simp
   ·by_cases h : at' < r.length
    ·simp [h]
    ·simp [h]
  have hbl : (bitsNow (R.take i) (ins.take i) at').length ≤ 1000000 := by
   unfold bitsNow
   refine Nat.le_trans (List.length_filterMap_le _ _) ?_
   simp; omega
  have hbit := b_bit' (lost := lost) (line := line) (J := J) (k := at') hr hb
  generalize R[i] = r at hr hbit htk
  generalize ins[i] = b at hb hbit htk
  generalize bitsNow (R.take i) (ins.take i) at' = A at htk hbl h6
  have hlt : (i : Int) < (R.length : Int) := by omega
  rw [htk]
  cases hc : (b && decide (at' < r.length))
  ·rw [hc] at hbit
   try simp at hbit
   simp [theLoop, Tryz.f206, loopsAll, Lp_some, -rd, rd_set, hS, h0, h1, h5, h6, h20, h21, hlt, wrap_succ i (by omega), hbit]
  ·rw [hc] at hbit
   simp only [if_true] at hbit
   have hap := app41 (A.map intD) [[.int .i64 (r.getD at' 0)]] (rowsOk_int _) rfl (by simp [roomB]; omega)
   have hre : A.map intD ++ [[.int .i64 (r.getD at' 0)]] = (A ++ [r.getD at' 0]).map intD := by simp
   rw [hre] at hap
   generalize r.getD at' 0 = x at hbit hap ⊢
   generalize hAx : A ++ [x] = A' at hap ⊢
   try simp at hbit
   simp [theLoop, Tryz.f206, loopsAll, Lp_some, -rd, rd_set, hS, h0, h1, h5, h6, h20, h21, hlt, wrap_succ i (by omega), hbit, rowsFrom, hap]
   rw [← hAx]; simp
 ·rintro st ⟨S, rfl, hS, h0, h1, h5, h6, h20, h21⟩
  rw [List.take_length, ← hlen, List.take_length] at h6
  simp [theLoop, Tryz.f206, loopsAll, Lp_some, -rd, rd_set, hS, h0, h1, h5, h6, h20, h21]
theorem call_im {f : FuncId} {args : List PV} {σ σ' σ2 : Store} {v : PV} (ho : E1.ov f = none) (hp : E1.pure f = false) (hr : E1.ro f = false) (h : evI E1 f args σ = some (v, σ')) (hd : v.isData = true) (hs : v.strip = v) (ht : σ'.take σ.length = σ2) : callIt E1 (evI E1) f args σ = some (v, σ2) := by
 simp [callIt, ho, hp, hr, h, hd, hs, ht]
theorem call_ptr {f : FuncId} {args : List PV} {σ σ' : Store} {v : PV} (ho : E1.ov f = none) (hp : E1.pure f = false) (hr : E1.ro f = false) (h : evI E1 f args σ = some (v, σ')) (hd : v.isData = false) (hs : v.strip = v) : callIt E1 (evI E1) f args σ = some (v, σ') := by
 simp [callIt, ho, hp, hr, h, hd, hs]
theorem stepB_at {R : List (List Int)} {B : List Bool} {k i : Nat} {line : Int} {r : List Int} {b : Bool} (hr : R[i]? = some r) (hb : B[i]? = some b) : (stepB R B k line)[i]? = some (b && !((b && decide (k < r.length)) && decide ((if b && decide (k < r.length) then r.getD k 0 else 1) > line))) := by
 unfold stepB
 have hz : (R.zip B)[i]? = some (r, b) := by rw [List.getElem?_zip_eq_some]; exact ⟨hr, hb⟩
 rw [List.getElem?_map, hz]
 simp only [Option.map_some]
 cases b
 ·simp
 ·by_cases hk : k < r.length
  ·simp [hk]
  ·simp [hk]
theorem stepB_len (R : List (List Int)) (B : List Bool) (k : Nat) (line : Int) (h : B.length = R.length) : (stepB R B k line).length = R.length := by simp [stepB, h]
theorem l_step1 (m : Nat) (R : List (List Int)) (ins : List Bool) (lost line : List Int) (J : Store) (hlen : ins.length = R.length) (hll : lost.length = R.length) (hl : R.length ≤ 1000000) (at' : Nat) (ln : Int) (S : List PV) (hS : S.length = 87) (h0 : rd S 0 = .ptr 2 0) (h1 : rd S 1 = .d (.int .i64 at')) (h5 : rd S 5 = .func (.func 218) [.ptr 2 0] [])
  (h10 : rd S 10 = .d (.int .i64 ln)) (h56 : rd S 56 = .d (.int .i64 R.length)) (h57 : rd S 57 = .d (.int .i64 0)) (k : Nat) (hk : R.length < k) :
  Lp (loopN (evCode E1 (evI E1) m (theLoop Tryz.f206 1)) k ⟨S, RS R ins lost line J⟩) fun r => ∃ (lost' : List Int) (S' : List PV), r = (.exit 2, ⟨S', RS R (stepB R ins at' ln) lost' line J⟩) ∧ S'.length = 87 ∧ lost'.length = R.length := by
 have hnl := stepB_len R ins at' ln hlen
 generalize hN : stepB R ins at' ln = N at hnl ⊢
 refine loop_inv (fun i st => ∃ (lost : List Int) (S : List PV), st = ⟨S, RS R (N.take i ++ ins.drop i) lost line J⟩ ∧ S.length = 87 ∧ lost.length = R.length ∧ rd S 0 = .ptr 2 0 ∧ rd S 1 = .d (.int .i64 at') ∧ rd S 5 = .func (.func 218) [.ptr 2 0] [] ∧ rd S 10 = .d (.int .i64 ln) ∧ rd S 56 = .d (.int .i64 R.length) ∧ rd S 57 = .d (.int .i64 i))
  _ R.length ?_ ?_ k 0 _ (by omega) (by omega) ⟨lost, S, by simp, hS, hll, h0, h1, h5, h10, h56, h57⟩
 ·rintro i st hi ⟨lost, S, rfl, hS, hll, h0, h1, h5, h10, h56, h57⟩
  have hr : R[i]? = some R[i] := List.getElem?_eq_getElem hi
  have hb : ins[i]? = some ins[i] := List.getElem?_eq_getElem (by omega)
  have hNi := stepB_at (k := at') (line := ln) hr hb
  rw [hN] at hNi
  have hmid : (N.take i ++ ins.drop i)[i]? = some ins[i] := by
   rw [List.getElem?_append_right (by simp; omega)]
   simp [hnl, show min i R.length = i by omega, hb]
  have hbit := b_bit' (lost := lost) (line := line) (J := J) (k := at') hr hmid
  have hset : ∀ c, N[i]? = some c → (N.take i ++ ins.drop i).set i c = N.take (i + 1) ++ ins.drop (i + 1) := by
   intro c hc
   have hd : ins.drop i = ins[i]'(by omega) :: ins.drop (i + 1) := List.drop_eq_getElem_cons (by omega)
   rw [List.set_append_right _ _ (by simp; omega), show i - (N.take i).length = 0 by simp; omega, hd, List.take_add_one, hc]
   simp only [List.set_cons_zero, Option.toList_some, List.append_assoc, List.singleton_append]
  have hstay : N[i]? = some ins[i] → N.take i ++ ins.drop i = N.take (i + 1) ++ ins.drop (i + 1) := by
   intro hc
   rw [List.drop_eq_getElem_cons (by omega), List.take_add_one, hc]
   simp
  have hsin := rs_set_in (R := R) (lost := lost) (line := line) (J := J) (ins := N.take i ++ ins.drop i) (i := i) false (by simp; omega)
  generalize R[i] = r at hr hbit hNi
  generalize ins[i] = b at hb hbit hNi hmid hstay
  have hlt : (i : Int) < (R.length : Int) := by omega
  generalize hx : (if b && decide (at' < r.length) then r.getD at' 0 else 1) = x at hbit hNi
  cases hc : (b && decide (at' < r.length))
  ·rw [hc] at hbit hNi
   simp only [Bool.false_and, Bool.not_false, Bool.and_true] at hNi
   rw [hstay hNi] at hbit ⊢
   generalize N.take (i + 1) ++ ins.drop (i + 1) = M at hbit ⊢
   try simp at hbit
   simp [theLoop, Tryz.f206, loopsAll, Lp_some, and_assoc, -rd, rd_set, hS, h0, h1, h5, h10, h56, h57, hlt, wrap_succ i (by omega), hbit]
   exact ⟨lost, rfl, hll⟩
  ·rw [hc] at hbit hNi
   by_cases hgt : x > ln
   ·simp only [hgt, decide_true, Bool.and_self, Bool.not_true, Bool.and_false] at hNi
    rw [hset false hNi] at hsin
    have hsl := rs_set_lost (R := R) (ins := N.take (i + 1) ++ ins.drop (i + 1)) (lost := lost) (line := line) (J := J) (i := i) (at' : Int) (by omega)
    have hl1 := @rs_1 R (N.take i ++ ins.drop i) lost line J
    have hl2 := @rs_2 R (N.take i ++ ins.drop i) lost line J
    generalize N.take (i + 1) ++ ins.drop (i + 1) = M at hsin hsl ⊢
    generalize N.take i ++ ins.drop i = M0 at hsin hbit hl1 hl2 ⊢
    try simp at hbit
    simp [theLoop, Tryz.f206, loopsAll, Lp_some, and_assoc, -rd, rd_set, -loadS, -storeS, hS, h0, h1, h5, h10, h56, h57, hlt, wrap_succ i (by omega), hbit, hgt, hl1, hl2, hi, hsin, hsl]
    exact ⟨_, rfl, by simp [hll]⟩
   ·simp only [hgt, decide_false, Bool.and_false, Bool.not_false, Bool.and_true] at hNi
    rw [hstay hNi] at hbit ⊢
    generalize N.take (i + 1) ++ ins.drop (i + 1) = M at hbit ⊢
    try simp at hbit
    simp [theLoop, Tryz.f206, loopsAll, Lp_some, and_assoc, -rd, rd_set, hS, h0, h1, h5, h10, h56, h57, hlt, wrap_succ i (by omega), hbit, hgt]
    exact ⟨lost, rfl, hll⟩
 ·rintro st ⟨lost, S, rfl, hS, hll, h0, h1, h5, h10, h56, h57⟩
  have : N.take R.length ++ ins.drop R.length = N := by rw [List.take_of_length_le (by omega), List.drop_eq_nil_of_le (by omega)]; simp
  rw [this]
  simp [theLoop, Tryz.f206, loopsAll, Lp_some, and_assoc, -rd, rd_set, hS, h0, h1, h5, h10, h56, h57]
  exact ⟨lost, rfl, hll⟩
theorem b_step0 (R : List (List Int)) (ins : List Bool) (lost line : List Int) (J : Store) (hlen : ins.length = R.length) (hl : R.length ≤ 1000000) (at' : Nat) (hn : bitsNow R ins at' = []) :
  callIt E1 (evI E1) 206 [.ptr 2 0, .d (.int .i64 at')] (RS R ins lost line J) = some (.d (.bool false), RS R ins lost line J) := by
 refine call_im (σ' := RS R ins lost line J) rfl rfl rfl ?_ rfl rfl (by simp)
 refine evI_run (fn := Tryz.f206) (R.length + 1) rfl Tryz.func206 rfl ?_
 simp [Tryz.f206, ec_loop, -loadS, rs_1]
 generalize hLL : loopN _ _ _ = L
 obtain ⟨r, rfl, S, rfl, hS, h0, h1, h5, h6⟩ := at_loop hLL (l_step0 (R.length + 1) R ins lost line J hlen hl at' _ rfl rfl rfl rfl rfl rfl rfl (R.length + 1) (by omega))
 rw [hn] at h6
 simp [-rd, rd_set, hS, h0, h1, h5, h6]
theorem b_step1 (R : List (List Int)) (ins : List Bool) (lost line : List Int) (J : Store) (hlen : ins.length = R.length) (hll : lost.length = R.length) (hl : R.length ≤ 1000000) (hln : line.length ≤ 1000000) (at' : Nat) (hn : bitsNow R ins at' ≠ []) :
  ∃ lost' : List Int, lost'.length = R.length ∧ callIt E1 (evI E1) 206 [.ptr 2 0, .d (.int .i64 at')] (RS R ins lost line J) =
   some (.d (.bool true), RS R (stepB R ins at' (andL (bitsNow R ins at'))) lost' (line ++ [andL (bitsNow R ins at')]) J) := by
 have hbl : (bitsNow R ins at').length ≤ 1000000 := by
  unfold bitsNow
  refine Nat.le_trans (List.length_filterMap_le _ _) ?_
  simp; omega
 have hand := b_and (bitsNow R ins at') hbl (RS R ins lost line J)
 have hne : ¬ (bitsNow R ins at').length = 0 := by simpa using hn
 have h0r := @l_step0 (R.length + 1) R ins lost line J hlen hl at'
 generalize bitsNow R ins at' = A at hand hne hbl h0r ⊢
 generalize hln' : andL A = ln at hand ⊢
 have hap := app41 (line.map intD) [[.int .i64 ln]] (rowsOk_int _) rfl (by simp [roomB]; omega)
 have hre : line.map intD ++ [[.int .i64 ln]] = (line ++ [ln]).map intD := by simp
 rw [hre] at hap
 generalize line ++ [ln] = line2 at hap ⊢
 have h1r := fun line' (S : List PV) => l_step1 (R.length + 1) R ins lost line' J hlen hll hl at' ln S
 obtain ⟨X, x1, x2⟩ := @rs_line R ins lost line J line2
 have hA : ((A.length : Int) == 0) = false := by rw [beq_eq_false_iff_ne]; omega
 have key : ∃ lost' : List Int, lost'.length = R.length ∧ evI E1 206 [.ptr 2 0, .d (.int .i64 at')] (RS R ins lost line J) = some (.d (.bool true), RS R (stepB R ins at' ln) lost' line2 J) := by
  have body : ∃ lost' : List Int, lost'.length = R.length ∧ ((evCode E1 (evI E1) (R.length + 1) (Tryz.f206.body.getD .skip) ⟨[PV.ptr 2 0, .d (.int .i64 at')] ++ List.replicate (Tryz.f206.ntmps - 2) .undef, RS R ins lost line J⟩).bind fun r => if r.1 = .normal ∨ r.1 = .ret then (resVal E1.P Tryz.f206 r.2).map fun v => (v, r.2.store) else none) = some (.d (.bool true), RS R (stepB R ins at' ln) lost' line2 J) := by
   simp [Tryz.f206, ec_loop, -loadS, rs_1]
   generalize hLL : loopN _ _ _ = L
   obtain ⟨r, rfl, S, rfl, hS, h0, h1, h5, h6⟩ := at_loop hLL (h0r _ rfl rfl rfl rfl rfl rfl rfl (R.length + 1) (by omega))
   clear hLL
   try simp at hand
   simp [-rd, rd_set, -loadS, -storeS, hS, h0, h1, h5, h6, hA, hand, rs_3, x1, x2, hap, ec_loop, rs_1, rowsFrom]
   generalize hLL : loopN _ _ _ = L
   have hQ := fun h1 h2 h3 h4 h5 h6 h7 => at_loop hLL (h1r line2 _ h1 h2 h3 h4 h5 h6 h7 (R.length + 1) (by omega))
   obtain ⟨r, rfl, lost', S, rfl, hS, hl'⟩ := hQ (by simp [hS]) (by simp [-rd, rd_set, hS, h0]) (by simp [-rd, rd_set, hS, h1]) (by simp [-rd, rd_set, hS, h5]) (by simp [-rd, rd_set, hS]) (by simp [-rd, rd_set, hS]) (by simp [-rd, rd_set, hS])
   exact ⟨lost', hl', by simp [-rd, rd_set, hS]⟩
  obtain ⟨lost', h1, h2⟩ := body
  exact ⟨lost', h1, evI_run (fn := Tryz.f206) (R.length + 1) rfl Tryz.func206 rfl h2⟩
 obtain ⟨lost', h1, h2⟩ := key
 exact ⟨lost', h1, call_im rfl rfl rfl h2 rfl rfl (by rw [List.take_of_length_le (by simp [rs_len])])⟩
end Go.Proofs

set_option maxRecDepth 100000
set_option maxHeartbeats 8000000
namespace Go.Proofs
open Go.RowKit Go.Shelf Go.Pv
def eqTo (a b : List Int) (i : Nat) : Prop := ∀ j, j < i → a[j]? = b[j]?
theorem eqTo_all {a b : List Int} (hl : a.length = b.length) (h : eqTo a b a.length) : a = b := by
 apply List.ext_getElem? ; intro j
 by_cases hj : j < a.length
 ·exact h j hj
 ·rw [List.getElem?_eq_none (by omega), List.getElem?_eq_none (by omega)]
theorem l_eqL (m : Nat) (a b : List Int) (hab : a.length = b.length) (hl : a.length ≤ 1000000) (σ : Store) (S : List PV) (hS : S.length = 26) (h0 : rd S 0 = .d (.slice (a.map intD))) (h1 : rd S 1 = .d (.slice (b.map intD))) (h12 : rd S 12 = .d (.int .i64 a.length)) (h13 : rd S 13 = .d (.int .i64 0)) (k : Nat) (hk : a.length < k) :
  Lp (loopN (evCode E1 (evI E1) m (theLoop Tryz.f137 0)) k ⟨S, σ⟩) fun r => ∃ S' : List PV, S'.length = 26 ∧ ((r = (.exit 0, ⟨S', σ⟩) ∧ a = b) ∨ (r = (.ret, ⟨S', σ⟩) ∧ rd S' 4 = .d (.bool false) ∧ a ≠ b)) := by
 refine loop_inv (fun i st => ∃ S : List PV, st = ⟨S, σ⟩ ∧ S.length = 26 ∧ eqTo a b i ∧ rd S 0 = .d (.slice (a.map intD)) ∧ rd S 1 = .d (.slice (b.map intD)) ∧ rd S 12 = .d (.int .i64 a.length) ∧ rd S 13 = .d (.int .i64 i)) _ a.length ?_ ?_ k 0 _ (by omega) (by omega) ⟨S, rfl, hS, fun j hj => by omega, h0, h1, h12, h13⟩
 ·rintro i st hi ⟨S, rfl, hS, he, h0, h1, h12, h13⟩
  have hib : i < b.length := by omega
  have hne : a[i] ≠ b[i] → a ≠ b := fun h e => by subst e; exact h rfl
  have hnx : a[i] = b[i] → eqTo a b (i + 1) := fun h j hj => by
   rcases Nat.lt_or_ge j i with h1 | h1
   ·exact he j h1
   ·obtain rfl : j = i := by omega
    rw [List.getElem?_eq_getElem hi, List.getElem?_eq_getElem hib, h]
  generalize hx : a[i] = x at hne hnx
  generalize hy : b[i] = y at hne hnx
  have hlt : (i : Int) < (a.length : Int) := by omega
  by_cases hxy : x = y
  ·have he1 := hnx hxy
   subst hxy
   clear he hne hnx
   simp [theLoop, Tryz.f137, loopsAll, Lp_some, and_assoc, -rd, rd_set, hS, h0, h1, h12, h13, hlt, hi, hib, hx, hy, wrap_succ i (by omega)]
   exact he1
  ·have hd := hne hxy
   clear he hne hnx
   have hb : (x != y) = true := by simpa using hxy
   simp [theLoop, Tryz.f137, loopsAll, Lp_some, and_assoc, -rd, rd_set, hS, h0, h1, h12, h13, hlt, hi, hib, hx, hy, hb, wrap_succ i (by omega)]
   exact ⟨_, by simp [hS], rfl, by simp [-rd, rd_set, hS], hd⟩
 ·rintro st ⟨S, rfl, hS, he, h0, h1, h12, h13⟩
  have hd := eqTo_all hab he
  clear he
  simp [theLoop, Tryz.f137, loopsAll, Lp_some, and_assoc, -rd, rd_set, hS, h0, h1, h12, h13]
  exact ⟨_, by simp [hS], rfl, hd⟩
theorem b_eqL (a b : List Int) (hl : a.length ≤ 1000000) (σ : Store) : callIt E1 (evI E1) 137 [.d (.slice (a.map intD)), .d (.slice (b.map intD))] σ = some (.d (.bool (decide (a = b))), σ) := by
 refine call_run (fn := Tryz.f137) (a.length + 1) rfl rfl rfl Tryz.func137 rfl rfl ?_ rfl
 by_cases hab : a.length = b.length
 ·have hne : ((a.length : Int) != b.length) = false := by simp [hab]
  simp [Tryz.f137, ec_loop, hne]
  generalize hLL : loopN _ _ _ = L
  obtain ⟨r, rfl, S, hS, h⟩ := at_loop hLL (l_eqL (a.length + 1) a b hab hl [] _ rfl rfl rfl rfl rfl (a.length + 1) (by omega))
  rcases h with ⟨rfl, h⟩ | ⟨rfl, h4, h⟩
  ·simp [-rd, rd_set, hS, h]
  ·have h4' := rd_el h4 (by omega)
   simp [-rd, rd_set, hS, h4, h, h4']
 ·have hne : ((a.length : Int) != b.length) = true := by simp; omega
  have : a ≠ b := fun h => hab (by rw [h])
  simp [Tryz.f137, ec_loop, hne, this]
theorem l_index (m : Nat) (a : List Int) (v : Int) (hl : a.length ≤ 1000000) (σ : Store) (S : List PV) (hS : S.length = 19) (h0 : rd S 0 = .d (.slice (a.map intD))) (h1 : rd S 1 = .d (.int .i64 v)) (h7 : rd S 7 = .d (.int .i64 a.length)) (h8 : rd S 8 = .d (.int .i64 0)) (k : Nat) (hk : a.length < k) :
  Lp (loopN (evCode E1 (evI E1) m (theLoop Tryz.f191 0)) k ⟨S, σ⟩) fun r => ∃ S' : List PV, S'.length = 19 ∧ ((r = (.exit 0, ⟨S', σ⟩) ∧ v ∉ a) ∨ (∃ i : Nat, r = (.ret, ⟨S', σ⟩) ∧ rd S' 4 = .d (.int .i64 i) ∧ v ∈ a)) := by
 refine loop_inv (fun i st => ∃ S : List PV, st = ⟨S, σ⟩ ∧ S.length = 19 ∧ v ∉ a.take i ∧ rd S 0 = .d (.slice (a.map intD)) ∧ rd S 1 = .d (.int .i64 v) ∧ rd S 7 = .d (.int .i64 a.length) ∧ rd S 8 = .d (.int .i64 i)) _ a.length ?_ ?_ k 0 _ (by omega) (by omega) ⟨S, rfl, hS, by simp, h0, h1, h7, h8⟩
 ·rintro i st hi ⟨S, rfl, hS, he, h0, h1, h7, h8⟩
  have hm : a[i] ∈ a := List.getElem_mem hi
  have htk : a.take (i + 1) = a.take i ++ [a[i]] := by rw [List.take_add_one, List.getElem?_eq_getElem hi]; rfl
  generalize hx : a[i] = x at hm htk
  have hlt : (i : Int) < (a.length : Int) := by omega
  by_cases hxy : v = x
  ·subst hxy
   simp [theLoop, Tryz.f191, loopsAll, Lp_some, and_assoc, -rd, rd_set, hS, h0, h1, h7, h8, hlt, hi, hx, wrap_succ i (by omega)]
   exact ⟨_, by simp [hS], rfl, ⟨i, by simp [-rd, rd_set, hS]⟩, hm⟩
  ·have hn : v ∉ a.take (i + 1) := by rw [htk]; simp [he, hxy]
   have hb : (v == x) = false := by simpa using hxy
   clear he htk
   simp [theLoop, Tryz.f191, loopsAll, Lp_some, and_assoc, -rd, rd_set, hS, h0, h1, h7, h8, hlt, hi, hx, hb, wrap_succ i (by omega)]
   exact hn
 ·rintro st ⟨S, rfl, hS, he, h0, h1, h7, h8⟩
  rw [List.take_length] at he
  simp [theLoop, Tryz.f191, loopsAll, Lp_some, and_assoc, -rd, rd_set, hS, h0, h1, h7, h8]
  exact ⟨_, by simp [hS], rfl, he⟩
theorem b_index (a : List Int) (v : Int) (hl : a.length ≤ 1000000) (σ : Store) : ∃ z : Int, decide (0 ≤ z) = a.contains v ∧ callIt E1 (evI E1) 191 [.d (.slice (a.map intD)), .d (.int .i64 v)] σ = some (.d (.int .i64 z), σ) := by
 have body : ∃ z : Int, decide (0 ≤ z) = a.contains v ∧ ((evCode E1 (evI E1) (a.length + 1) (Tryz.f191.body.getD .skip) ⟨[PV.d (.slice (a.map intD)), .d (.int .i64 v)] ++ List.replicate (Tryz.f191.ntmps - 2) .undef, []⟩).bind fun r => if r.1 = .normal ∨ r.1 = .ret then resVal E1.P Tryz.f191 r.2 else none) = some (.d (.int .i64 z)) := by
  simp [Tryz.f191, ec_loop]
  generalize hLL : loopN _ _ _ = L
  obtain ⟨r, rfl, S, hS, h⟩ := at_loop hLL (l_index (a.length + 1) a v hl [] _ rfl rfl rfl rfl rfl (a.length + 1) (by omega))
  rcases h with ⟨rfl, h⟩ | ⟨i, rfl, h4, h⟩
  ·exact ⟨-1, by simp [h], by simp [-rd, rd_set, hS]⟩
  ·have h4' := rd_el h4 (by omega)
   exact ⟨i, by simp [h], by simp [-rd, rd_set, hS, h4, h4']⟩
 obtain ⟨z, h1, h2⟩ := body
 exact ⟨z, h1, call_run (fn := Tryz.f191) (a.length + 1) rfl rfl rfl Tryz.func191 rfl rfl h2 rfl⟩
theorem b_in (a : List Int) (v : Int) (hl : a.length ≤ 1000000) (σ : Store) : callIt E1 (evI E1) 142 [.d (.slice (a.map intD)), .d (.int .i64 v)] σ = some (.d (.bool (a.contains v)), σ) := by
 refine call_run (fn := Tryz.f142) 5 rfl rfl rfl Tryz.func142 rfl rfl ?_ rfl
 obtain ⟨z, h1, h2⟩ := b_index a v hl []
 try simp at h2
 simp [Tryz.f142, h2]
 simpa using h1
end Go.Proofs

set_option maxRecDepth 100000
set_option maxHeartbeats 8000000
namespace Go.Proofs
open Go.RowKit Go.Shelf Go.Pv
@[simp] def Nd.D (n : Nd) : List DV := [.slice (n.q.map Fr.D), .slice (n.fs.map Fl.D), .int .i64 n.c.t, .int .i64 n.c.r, .int .i64 n.c.s, .int .i64 n.c.z, .slice (n.g.map Fr.D)]
@[simp] theorem rowsOk_Nd (l : List Nd) : rowsOk 7 (l.map Nd.D) = true := rowsOk_map (D := Nd.D) (fun _ => rfl) l
structure Nd.good (n : Nd) : Prop where
 q : n.q.length ≤ 1000
 g : n.g.length ≤ 1000
 fs : n.fs.length ≤ 1000
 r : ∀ x ∈ n.q, x.right = true
 c : n.c.ok
structure Ln where
 l : List Nd
 who : List Int
 w : Int
 f : Fr
 al : List Int
@[simp] def Ln.C (x : Ln) : List PV := [.d (.slice (x.l.map Nd.D)), .d (.slice (x.who.map intD)), .d (.int .i64 x.w), .d (.bool x.f.e), .d (.int .i64 x.f.id), .d (.bool x.f.rm), .d (.int .i64 x.f.ln), .d (.slice (x.f.data.map byD)), acc (x.al.map intD)]
theorem call_ro {f : FuncId} {args : List PV} {σ σ' : Store} {v : PV} (ho : E1.ov f = none) (hp : E1.pure f = false) (hr : E1.ro f = true) (h : evI E1 f args σ = some (v, σ')) (hd : v.isData = true) (hs : v.strip = v) (ht : σ'.take σ.length = σ) : callIt E1 (evI E1) f args σ = some (v, σ) := by
 simp [callIt, ho, hp, hr, h, hd, hs, ht]
section line
variable {σ : Store} {id : Nat} {x : Ln} (h : σ[id]? = some x.C)
include h
theorem ln_0 : loadS σ id 0 1 = some [.d (.slice (x.l.map Nd.D))] := loadS_one h rfl
theorem ln_1 : loadS σ id 1 1 = some [.d (.slice (x.who.map intD))] := loadS_one h rfl
theorem ln_2 : loadS σ id 2 1 = some [.d (.int .i64 x.w)] := loadS_one h rfl
theorem ln_8 : loadS σ id 8 1 = some [acc (x.al.map intD)] := loadS_one h rfl
theorem ln_3 : loadS σ id 3 5 = some (cellsOf x.f.P) := by unfold loadS; rw [h]; rfl
theorem b_sends (hal : x.al.length ≤ 1000000) (i : Int) : callIt E1 (evI E1) 75 [.ptr id 0, .d (.int .i64 i)] σ = some (.d (.bool (x.al.contains i)), σ) := by
 refine call_ro (σ' := σ) rfl rfl rfl ?_ rfl rfl (by simp)
 refine evI_run (fn := Tryz.f75) 5 rfl Tryz.func75 rfl ?_
 have h1 := ln_8 h
 have h2 := b_in x.al i hal σ
 simp at h2
 simp [Tryz.f75, -loadS, h1, h2]
theorem b_sees (hal : x.who.length ≤ 1000000) (i : Int) : callIt E1 (evI E1) 78 [.ptr id 0, .d (.int .i64 i)] σ = some (.d (.bool (x.who.contains i)), σ) := by
 refine call_ro (σ' := σ) rfl rfl rfl ?_ rfl rfl (by simp)
 refine evI_run (fn := Tryz.f78) 5 rfl Tryz.func78 rfl ?_
 have h1 := ln_1 h
 have h2 := b_in x.who i hal σ
 simp at h2
 simp [Tryz.f78, -loadS, h1, h2]
end line
theorem pre_get {σ T : Store} {id : Nat} {c : List PV} (h : σ[id]? = some c) : (σ ++ T)[id]? = some c := by rw [List.getElem?_append_left (List.getElem?_eq_some_iff.1 h).1]; exact h
theorem b_sameF (a b : Fr) (σ : Store) : callIt E1 (evI E1) 140 [a.P, b.P] σ = some (.d (.bool (a.same b)), σ) := by
 have hb : ∀ (σ : Store), callIt E1 (evI E1) 186 [.d (.slice (a.data.map byD)), .d (.slice (b.data.map byD))] σ = some (.d (.bool (sameB a.data b.data)), σ) := by
  intro σ
  refine call_run (fn := Tryz.f186) 5 rfl rfl rfl Tryz.func186 rfl rfl ?_ rfl
  simp [Tryz.f186, sameB]
 refine call_run (fn := Tryz.f140) 5 rfl rfl rfl Tryz.func140 rfl rfl ?_ rfl
 obtain ⟨ae, aid, arm, aln, ad⟩ := a
 obtain ⟨be, bid, brm, bln, bd⟩ := b
 unfold Fr.same
 simp at hb
 cases hc1 : (ae == be)
 ·simp [Tryz.f140, hb, hc1]
 ·cases hc2 : (aid == bid)
  ·simp [Tryz.f140, hb, hc1, hc2]
  ·cases hc3 : (arm == brm)
   ·simp [Tryz.f140, hb, hc1, hc2, hc3]
   ·cases hc4 : (aln == bln)
    ·simp [Tryz.f140, hb, hc1, hc2, hc3, hc4]
    ·simp [Tryz.f140, hb, hc1, hc2, hc3, hc4]
def Ln.sends (x : Ln) (i : Nat) : Bool := x.al.contains (i : Int)
def Ln.sees (x : Ln) (i : Nat) : Bool := x.who.contains (i : Int)
def nd (l : List Nd) (i : Nat) : Nd := l.getD i nd0
def Ln.loud (x : Ln) (i : Nat) : Bool := if x.sends i then x.sees i || !((nd x.l i).Next.1.same x.f) else x.sees i && ((nd x.l i).c.s == 1)
def Ln.hears (x : Ln) (i : Nat) : Bool := !x.sends i && ((nd x.l i).c.s != 3)
section line2
variable {σ : Store} {id : Nat} {x : Ln} (h : σ[id]? = some x.C) (hal : x.al.length ≤ 1000000) (hwho : x.who.length ≤ 1000000)
include h hal
theorem b_hears (i : Nat) (hi : i < x.l.length) : callIt E1 (evI E1) 73 [.ptr id 0, .d (.int .i64 i)] σ = some (.d (.bool (x.hears i)), σ) := by
 refine call_ro (σ' := σ) rfl rfl rfl ?_ rfl rfl (by simp)
 refine evI_run (fn := Tryz.f73) 5 rfl Tryz.func73 rfl ?_
 have h1 := ln_0 h
 have h2 := b_sends h hal i
 have hn : nd x.l i = x.l[i] := by simp [nd, List.getD, hi]
 unfold Ln.hears
 rw [hn]
 unfold Ln.sends
 generalize hx : x.l[i] = n
 cases hs : x.al.contains (i : Int) <;> rw [hs] at h2
 ·by_cases hc : n.c.s = 3
  ·simp [Tryz.f73, -loadS, h1, h2, hi, hx, hc]
  ·have hb : (n.c.s != 3) = true := by simpa using hc
   simp [Tryz.f73, -loadS, h1, h2, hi, hx, hc, hb]
 ·simp [Tryz.f73, -loadS, h1, h2, hi, hx]
include hwho
theorem b_loud (hg : ∀ n ∈ x.l, n.good) (i : Nat) (hi : i < x.l.length) : callIt E1 (evI E1) 71 [.ptr id 0, .d (.int .i64 i)] σ = some (.d (.bool (x.loud i)), σ) := by
 have hn : nd x.l i = x.l[i] := by simp [nd, List.getD, hi]
 have hgi := hg x.l[i] (List.getElem_mem hi)
 unfold Ln.loud
 rw [hn]
 generalize hx : x.l[i] = n at hgi
 have hnx := fun σ => b_Next n (Nat.le_trans hgi.q (by omega)) hgi.r σ
 unfold Ln.sends Ln.sees
 cases hs : x.al.contains (i : Int)
 ·refine call_ro (σ' := σ) rfl rfl rfl ?_ rfl rfl (by simp)
  refine evI_run (fn := Tryz.f71) 5 rfl Tryz.func71 rfl ?_
  have h1 := ln_0 h
  have h2 := b_sends h hal i
  have h3 := b_sees h hwho i
  rw [hs] at h2
  cases he : x.who.contains (i : Int) <;> rw [he] at h3
  ·simp [Tryz.f71, -loadS, h1, h2, h3, hi, hx]
  ·cases hc : (n.c.s == 1)
   ·simp [Tryz.f71, -loadS, h1, h2, h3, hi, hx, hc]
   ·simp [Tryz.f71, -loadS, h1, h2, h3, hi, hx, hc]
 ·generalize n.Next.1 = g at hnx
  refine call_ro (σ' := σ ++ [cellsOf g.P]) rfl rfl rfl ?_ rfl rfl (by simp)
  refine evI_run (fn := Tryz.f71) 5 rfl Tryz.func71 rfl ?_
  have h1 := ln_0 h
  have h2 := b_sends h hal i
  have hp : (σ ++ [cellsOf g.P])[id]? = some x.C := pre_get h
  have h3 := b_sees hp hwho i
  have h4 := ln_3 hp
  have h5 := b_sameF g x.f (σ ++ [cellsOf g.P])
  have h6 : loadS (σ ++ [cellsOf g.P]) σ.length 0 5 = some (cellsOf g.P) := by unfold loadS; simp [cellsOf]
  have h7 : ∀ a b c d e : PV, storeS (σ ++ [[a, b, c, d, e]]) σ.length 0 (cellsOf g.P) = some (σ ++ [cellsOf g.P]) := by intros; unfold storeS; simp [cellsOf]
  rw [hs] at h2
  simp only [cellsOf, Fr.P] at h3 h4 h5 h6 h7
  simp at hnx
  cases he : x.who.contains (i : Int) <;> rw [he] at h3
  ·simp [Tryz.f71, -loadS, -storeS, h1, h2, h3, h4, h5, h6, h7, hi, hx, hnx]
  ·simp [Tryz.f71, -loadS, -storeS, h1, h2, h3, h4, h5, h6, h7, hi, hx, hnx]
end line2
end Go.Proofs

set_option maxRecDepth 100000
set_option maxHeartbeats 8000000
namespace Go.Proofs
open Go.RowKit Go.Shelf Go.Pv
theorem lst_store5 {T : Store} {a b c d e a' b' c' d' e' : PV} : storeS (T ++ [[a, b, c, d, e]]) T.length 0 [a', b', c', d', e'] = some (T ++ [[a', b', c', d', e']]) := by unfold storeS; simp
theorem lst_load5 {T : Store} {a b c d e : PV} : loadS (T ++ [[a, b, c, d, e]]) T.length 0 5 = some [a, b, c, d, e] := by unfold loadS; simp
def sndL (l : List Nd) : List (Int × Fr) := l.zipIdx.filterMap fun x => if x.1.Next.2 then some ((x.2 : Int), x.1.Next.1) else none
theorem sndL_take {l : List Nd} {i : Nat} (hi : i < l.length) : sndL (l.take (i + 1)) = sndL (l.take i) ++ if l[i].Next.2 then [((i : Int), l[i].Next.1)] else [] := by
 unfold sndL
 rw [List.take_add_one, List.getElem?_eq_getElem hi, List.zipIdx_append, List.filterMap_append]
 congr 1
 simp only [Option.toList_some, List.length_take, Nat.min_eq_left (Nat.le_of_lt hi), Nat.zero_add, List.zipIdx_cons, List.zipIdx_nil, List.filterMap_cons, List.filterMap_nil]
 cases l[i].Next.2 <;> rfl
theorem sndL_len (l : List Nd) : (sndL l).length ≤ l.length := by
 unfold sndL
 refine Nat.le_trans (List.length_filterMap_le _ _) ?_
 simp
theorem l_bs0 (m : Nat) (l : List Nd) (hg : ∀ n ∈ l, n.good) (hl : l.length ≤ 1000) (σ0 : Store) (hid : Nat) (S : List PV) (hS : S.length = 85) (h0 : rd S 0 = .d (.slice (l.map Nd.D))) (h3 : rd S 3 = .ptr hid 0) (h4 : rd S 4 = .nilptr) (h5 : rd S 5 = .d (.bool false)) (h6 : rd S 6 = .e0) (h7 : rd S 7 = .e0) (h16 : rd S 16 = .d (.int .i64 l.length)) (h17 : rd S 17 = .d (.int .i64 0))
  (k : Nat) (hk : l.length < k) :
  Lp (loopN (evCode E1 (evI E1) m (theLoop Tryz.f66 0)) k ⟨S, σ0⟩) fun r => ∃ (J : Store) (S' : List PV), r = (.exit 0, ⟨S', σ0 ++ J⟩) ∧ S'.length = 85 ∧ rd S' 0 = .d (.slice (l.map Nd.D)) ∧ rd S' 3 = .ptr hid 0 ∧ rd S' 4 = .nilptr ∧ rd S' 5 = .d (.bool false) ∧ rd S' 6 = acc (((sndL l).map (·.1)).map intD) ∧ rd S' 7 = acc (((sndL l).map (·.2)).map Fr.D) := by
 refine loop_inv (fun i st => ∃ (J : Store) (S : List PV), st = ⟨S, σ0 ++ J⟩ ∧ S.length = 85 ∧ rd S 0 = .d (.slice (l.map Nd.D)) ∧ rd S 3 = .ptr hid 0 ∧ rd S 4 = .nilptr ∧ rd S 5 = .d (.bool false) ∧ rd S 6 = acc (((sndL (l.take i)).map (·.1)).map intD) ∧ rd S 7 = acc (((sndL (l.take i)).map (·.2)).map Fr.D) ∧ rd S 16 = .d (.int .i64 l.length) ∧ rd S 17 = .d (.int .i64 i)) _ l.length ?_ ?_ k 0 _ (by omega) (by omega)
  ⟨[], S, by simp, hS, h0, h3, h4, h5, h6, h7, h16, h17⟩
 ·rintro i st hi ⟨J, S, rfl, hS, h0, h3, h4, h5, h6, h7, h16, h17⟩
  have hgi := hg l[i] (List.getElem_mem hi)
  have htk := sndL_take hi
  have hpl : (sndL (l.take i)).length ≤ 1000 := Nat.le_trans (sndL_len _) (by simp; omega)
  generalize hxi : l[i] = n at hgi htk
  have hnx := fun σ => b_Next n (Nat.le_trans hgi.q (by omega)) hgi.r σ
  generalize hP1 : sndL (l.take (i + 1)) = P1 at htk ⊢
  generalize sndL (l.take i) = P0 at htk hpl h6 h7
  have hlt : (i : Int) < (l.length : Int) := by omega
  have hT : ∀ x : List PV, σ0 ++ (J ++ [x]) = (σ0 ++ J) ++ [x] := fun x => by rw [List.append_assoc]
  cases hb : n.Next.2
  ·rw [hb] at hnx htk
   simp at htk
   subst htk
   generalize n.Next.1 = g at hnx
   have hs : ∀ a b c d e : PV, storeS (σ0 ++ (J ++ [[a, b, c, d, e]])) (σ0.length + J.length) 0 (cellsOf g.P) = some (σ0 ++ (J ++ [cellsOf g.P])) := by
    intros; rw [hT, hT, ← List.length_append]; exact lst_store5
   simp only [cellsOf, Fr.P] at hs
   simp at hnx
   simp [theLoop, Tryz.f66, loopsAll, Lp_some, and_assoc, -rd, rd_set, -loadS, -storeS, hS, h0, h3, h4, h5, h6, h7, h16, h17, hlt, hi, hxi, hnx, hs, wrap_succ i (by omega)]
  ·rw [hb] at hnx htk
   simp only [if_true] at htk
   generalize n.Next.1 = g at hnx htk
   have hs : ∀ a b c d e : PV, storeS (σ0 ++ (J ++ [[a, b, c, d, e]])) (σ0.length + J.length) 0 (cellsOf g.P) = some (σ0 ++ (J ++ [cellsOf g.P])) := by
    intros; rw [hT, hT, ← List.length_append]; exact lst_store5
   have hld : loadS (σ0 ++ (J ++ [cellsOf g.P])) (σ0.length + J.length) 0 5 = some (cellsOf g.P) := by rw [hT, ← List.length_append]; exact lst_load5
   have a1 := app41 ((P0.map (·.1)).map intD) [[.int .i64 i]] (rowsOk_int _) rfl (by simp [roomB]; omega)
   have a2 := app22 ((P0.map (·.2)).map Fr.D) [g.D] (rowsOk_Fr _) rfl (by simp [roomB]; omega)
   have e1 : (P0.map (·.1)).map intD ++ [[.int .i64 i]] = (P1.map (·.1)).map intD := by rw [htk]; simp
   have e2 : (P0.map (·.2)).map Fr.D ++ [g.D] = (P1.map (·.2)).map Fr.D := by rw [htk]; simp
   rw [e1] at a1
   rw [e2] at a2
   generalize (P1.map (·.1)).map intD = A1 at a1 ⊢
   generalize (P1.map (·.2)).map Fr.D = F1 at a2 ⊢
   generalize (P0.map (·.1)).map intD = A0 at a1 h6
   generalize (P0.map (·.2)).map Fr.D = F0 at a2 h7
   simp only [cellsOf, Fr.P, Fr.D] at hs hld a2
   simp at hnx
   clear htk e1 e2
   simp [theLoop, Tryz.f66, loopsAll, Lp_some, and_assoc, -rd, rd_set, -loadS, -storeS, hS, h0, h3, h4, h5, h6, h7, h16, h17, hlt, hi, hxi, hnx, hs, hld, a1, a2, rowsFrom, wrap_succ i (by omega)]
 ·rintro st ⟨J, S, rfl, hS, h0, h3, h4, h5, h6, h7, h16, h17⟩
  rw [List.take_length] at h6 h7
  simp [theLoop, Tryz.f66, loopsAll, Lp_some, and_assoc, -rd, rd_set, -List.map_map, hS, h0, h3, h4, h5, h6, h7, h16, h17]
theorem appN (rows xs : List (List DV)) (h : rowsOk 7 rows = true) (h' : rowsOk 7 xs = true) (hb : (rows.length + xs.length) * 104 ≤ roomB) : evAppend Tryz.prog 22 (acc rows) (.d (.slice xs)) = some (acc (rows ++ xs)) := by
 unfold evAppend
 rw [Ty.app22]
 simp only [Option.bind_some, acc_own, elemsOf, h, h', Bool.true_and, hb, decide_true, if_true]
theorem map_range_succ {α : Type} (f : Nat → α) (i : Nat) : (List.range (i + 1)).map f = (List.range i).map f ++ [f i] := by simp [List.range_succ]
theorem l_each (m : Nat) (l : List Nd) (hl : l.length ≤ 1000) (g : Nat) (caps : List PV) (M : Nat → Nd) (σ : Store) (hp : ∀ i, i < l.length → callIt E1 (evI E1) g ([PV.d (.int .i64 i)] ++ caps.map PV.strip) σ = some ((M i).P, σ)) (S : List PV) (hS : S.length = 20)
  (h1 : rd S 1 = .func (.func g) [] caps) (h5 : rd S 5 = .e0) (h8 : rd S 8 = .d (.int .i64 l.length)) (h9 : rd S 9 = .d (.int .i64 0)) (k : Nat) (hk : l.length < k) :
  Lp (loopN (evCode E1 (evI E1) m (theLoop Tryz.f67 0)) k ⟨S, σ⟩) fun r => ∃ S' : List PV, r = (.exit 0, ⟨S', σ⟩) ∧ S'.length = 20 ∧ rd S' 5 = acc (((List.range l.length).map M).map Nd.D) := by
 refine loop_inv (fun i st => ∃ S : List PV, st = ⟨S, σ⟩ ∧ S.length = 20 ∧ rd S 1 = .func (.func g) [] caps ∧ rd S 5 = acc (((List.range i).map M).map Nd.D) ∧ rd S 8 = .d (.int .i64 l.length) ∧ rd S 9 = .d (.int .i64 i)) _ l.length ?_ ?_ k 0 _ (by omega) (by omega) ⟨S, rfl, hS, h1, h5, h8, h9⟩
 ·rintro i st hi ⟨S, rfl, hS, h1, h5, h8, h9⟩
  have hpi := hp i hi
  have e1 : ((List.range i).map M).map Nd.D ++ [(M i).D] = ((List.range (i + 1)).map M).map Nd.D := by rw [map_range_succ]; simp
  have a1 := appN (((List.range i).map M).map Nd.D) [(M i).D] (rowsOk_Nd _) rfl (by simp [roomB]; omega)
  rw [e1] at a1
  generalize ((List.range (i + 1)).map M).map Nd.D = A1 at a1 ⊢
  generalize ((List.range i).map M).map Nd.D = A0 at a1 h5
  generalize M i = x at hpi a1
  have hlt : (i : Int) < (l.length : Int) := by omega
  simp only [Nd.D] at a1
  simp at hpi
  simp [theLoop, Tryz.f67, loopsAll, Lp_some, and_assoc, -rd, rd_set, -List.map_map, hS, h1, h5, h8, h9, hlt, hpi, a1, rowsFrom, wrap_succ i (by omega)]
 ·rintro st ⟨S, rfl, hS, h1, h5, h8, h9⟩
  simp [theLoop, Tryz.f67, loopsAll, Lp_some, and_assoc, -rd, rd_set, -List.map_map, hS, h1, h5, h8, h9]
theorem b_each (l : List Nd) (hl : l.length ≤ 1000) (g : Nat) (caps : List PV) (M : Nat → Nd) (σ : Store) (hp : ∀ i, i < l.length → callIt E1 (evI E1) g ([PV.d (.int .i64 i)] ++ caps.map PV.strip) σ = some ((M i).P, σ)) :
  callIt E1 (evI E1) 67 [.d (.slice (l.map Nd.D)), .func (.func g) [] caps] σ = some (.d (.slice (((List.range l.length).map M).map Nd.D)), σ) := by
 have key : evI E1 67 [.d (.slice (l.map Nd.D)), .func (.func g) [] caps] σ = some (.d (.slice (((List.range l.length).map M).map Nd.D)), σ) := by
  refine evI_run (fn := Tryz.f67) (l.length + 1) rfl Tryz.func67 rfl ?_
  have hle := l_each (l.length + 1) l hl g caps M σ hp
  generalize ((List.range l.length).map M).map Nd.D = A at hle ⊢
  simp [Tryz.f67, ec_loop]
  generalize hLL : loopN _ _ _ = L
  obtain ⟨r, rfl, S, rfl, hS, h5⟩ := at_loop hLL (hle _ rfl rfl rfl rfl rfl (l.length + 1) (by omega))
  simp [-rd, rd_set, hS, h5]
 have ho : E1.ov 67 = none := rfl
 have hpu : E1.pure 67 = false := rfl
 have hro : E1.ro 67 = true := rfl
 generalize ((List.range l.length).map M).map Nd.D = A at key ⊢
 simp [callIt, ho, hpu, hro, key]
theorem l_any (m : Nat) (n : Nat) (hn : n ≤ 1000) (g : Nat) (first caps : List PV) (p : Nat → Bool) (σ : Store) (hp : ∀ i, i < n → callIt E1 (evI E1) g (first.map PV.strip ++ ([PV.d (.int .i64 i)] ++ caps.map PV.strip)) σ = some (.d (.bool (p i)), σ)) (S : List PV) (hS : S.length = 18)
  (h1 : rd S 1 = .func (.func g) first caps) (h10 : rd S 10 = .d (.int .i64 n)) (h11 : rd S 11 = .d (.int .i64 0)) (k : Nat) (hk : n < k) :
  Lp (loopN (evCode E1 (evI E1) m (theLoop Tryz.f70 0)) k ⟨S, σ⟩) fun r => ∃ S' : List PV, S'.length = 18 ∧ ((r = (.exit 0, ⟨S', σ⟩) ∧ (List.range n).any p = false) ∨ (r = (.ret, ⟨S', σ⟩) ∧ rd S' 4 = .d (.bool true) ∧ (List.range n).any p = true)) := by
 refine loop_inv (fun i st => ∃ S : List PV, st = ⟨S, σ⟩ ∧ S.length = 18 ∧ (List.range i).any p = false ∧ rd S 1 = .func (.func g) first caps ∧ rd S 10 = .d (.int .i64 n) ∧ rd S 11 = .d (.int .i64 i)) _ n ?_ ?_ k 0 _ (by omega) (by omega) ⟨S, rfl, hS, rfl, h1, h10, h11⟩
 ·rintro i st hi ⟨S, rfl, hS, he, h1, h10, h11⟩
  have hpi := hp i hi
  have hlt : (i : Int) < (n : Int) := by omega
  have hs : (List.range (i + 1)).any p = ((List.range i).any p || p i) := by rw [List.range_succ, List.any_append]; simp
  rw [he, Bool.false_or] at hs
  have hall : p i = true → (List.range n).any p = true := fun h => List.any_eq_true.2 ⟨i, List.mem_range.2 hi, h⟩
  clear he
  cases hb : p i <;> rw [hb] at hpi hs
  ·simp at hpi
   simp [theLoop, Tryz.f70, loopsAll, Lp_some, and_assoc, -rd, rd_set, -List.any_eq_false, -List.any_eq_true, hS, h1, h10, h11, hlt, hpi, hs, wrap_succ i (by omega)]
  ·have := hall hb
   clear hall hs
   simp at hpi
   simp [theLoop, Tryz.f70, loopsAll, Lp_some, and_assoc, -rd, rd_set, -List.any_eq_false, -List.any_eq_true, hS, h1, h10, h11, hlt, hpi, wrap_succ i (by omega)]
   exact ⟨_, by simp [hS], rfl, by simp [-rd, rd_set, hS], this⟩
 ·rintro st ⟨S, rfl, hS, he, h1, h10, h11⟩
  generalize (List.range n).any p = q at he ⊢
  simp [theLoop, Tryz.f70, loopsAll, Lp_some, and_assoc, -rd, rd_set, hS, h1, h10, h11]
  exact ⟨_, by simp [hS], rfl, he⟩
theorem b_lany (x : Ln) (id : Nat) (hn : x.l.length ≤ 1000) (g : Nat) (first caps : List PV) (p : Nat → Bool) (σ : Store) (h : σ[id]? = some x.C) (hp : ∀ i, i < x.l.length → callIt E1 (evI E1) g (first.map PV.strip ++ ([PV.d (.int .i64 i)] ++ caps.map PV.strip)) σ = some (.d (.bool (p i)), σ)) :
  callIt E1 (evI E1) 70 [.ptr id 0, .func (.func g) first caps] σ = some (.d (.bool ((List.range x.l.length).any p)), σ) := by
 refine call_np (σ' := σ) rfl rfl rfl ?_ rfl rfl (by simp)
 refine evI_run (fn := Tryz.f70) (x.l.length + 1) rfl Tryz.func70 rfl ?_
 have h0 := ln_0 h
 simp [Tryz.f70, ec_loop, -loadS, h0]
 generalize hLL : loopN _ _ _ = L
 obtain ⟨r, rfl, S, hS, hq⟩ := at_loop hLL (l_any (x.l.length + 1) x.l.length hn g first caps p σ hp _ rfl rfl rfl rfl (x.l.length + 1) (by omega))
 generalize (List.range x.l.length).any p = q at hq ⊢
 rcases hq with ⟨rfl, hq⟩ | ⟨rfl, h4, hq⟩
 ·simp [-rd, rd_set, hS, hq]
 ·have h4' := rd_el h4 (by omega)
  simp [-rd, rd_set, hS, h4, h4', hq]
end Go.Proofs

set_option maxRecDepth 100000
set_option maxHeartbeats 8000000
namespace Go.Proofs
open Go.RowKit Go.Shelf Go.Pv
section rows
variable {σ : Store} {id : Nat} {rows : List Int}
theorem row_app {A B : List Int} (h : A.length + B.length ≤ 1000) : evAppend Tryz.prog 39 (acc (A.map intD)) (.d (.slice (B.map intD))) = some (acc ((A ++ B).map intD)) := by
 rw [app41 _ _ (rowsOk_int _) (rowsOk_int _) (by simp [roomB]; omega), List.map_append]
theorem g_put (h : σ[id]? = some [acc (rows.map intD)]) (hl : rows.length ≤ 500) (v : Int) (m : Nat) (hm : m ≤ 32) (hv : 0 ≤ v ∧ v < 2 ^ m) :
  callIt E1 (evI E1) 207 [.ptr id 0, .d (.int .i64 v), .d (.int .i64 m)] σ = some (.tup [], σ.set id [acc ((rows ++ bitsOf v m).map intD)]) := by
 have hid := (List.getElem?_eq_some_iff.1 h).1
 have h1 : loadS σ id 0 1 = some [acc (rows.map intD)] := loadS_one h rfl
 have h2 : storeS σ id 0 [.d (.slice (rows.map intD))] = some (σ.set id [.d (.slice (rows.map intD))]) := storeS_one _ h (by simp)
 have h3 : storeS (σ.set id [.d (.slice (rows.map intD))]) id 0 [acc ((rows ++ bitsOf v m).map intD)] = some (σ.set id [acc ((rows ++ bitsOf v m).map intD)]) := by
  rw [storeS_one (cells := [.d (.slice (rows.map intD))]) _ (by simp [hid]) (by simp)]
  simp
 have hp := fun σ => c90 v m hm hv σ
 have ha := row_app (A := rows) (B := bitsOf v m) (by simp [bitsOf]; omega)
 rw [bitRows_map] at hp
 generalize rows ++ bitsOf v m = R2 at h3 ha ⊢
 generalize bitsOf v m = B at hp ha
 refine call_im (σ' := σ.set id [acc (R2.map intD)]) rfl rfl rfl ?_ rfl rfl (by rw [List.take_of_length_le (by simp)])
 refine evI_run (fn := Tryz.f207) 5 rfl Tryz.func207 rfl ?_
 try simp at hp
 simp [Tryz.f207, -loadS, -storeS, h1, h2, h3, hp, ha]
theorem g_flag (h : σ[id]? = some [acc (rows.map intD)]) (hl : rows.length ≤ 500) (is : Bool) :
  callIt E1 (evI E1) 208 [.ptr id 0, .d (.bool is)] σ = some (.tup [], σ.set id [acc ((rows ++ bitsOf (bitOf is) 1).map intD)]) := by
 have hp := g_put h hl (bitOf is) 1 (by omega) (by cases is <;> simp [bitOf])
 generalize rows ++ bitsOf (bitOf is) 1 = R2 at hp ⊢
 refine call_im (σ' := σ.set id [acc (R2.map intD)]) rfl rfl rfl ?_ rfl rfl (by rw [List.take_of_length_le (by simp)])
 refine evI_run (fn := Tryz.f208) 5 rfl Tryz.func208 rfl ?_
 cases is
 ·simp [bitOf] at hp
  simp [Tryz.f208, hp]
 ·simp [bitOf] at hp
  simp [Tryz.f208, hp]
end rows
theorem set_pre {σ J : Store} {id : Nat} {c : List PV} (h : id < σ.length) : (σ ++ J).set id c = σ.set id c ++ J := by rw [List.set_append_left _ _ h]
theorem list_set_self {α : Type} {l : List α} {i : Nat} {x : α} (h : l[i]? = some x) : l.set i x = l := by
 apply List.ext_getElem?
 intro j
 have hi := (List.getElem?_eq_some_iff.1 h).1
 rw [List.getElem?_set]
 by_cases hj : i = j
 ·subst hj; simp only [if_true, hi]; exact h.symm
 ·rw [if_neg hj]
theorem acc_nil : acc [] = PV.e0 := rfl
theorem g_rank {σ : Store} {id : Nat} {rows : List Int} (h : σ[id]? = some [acc (rows.map intD)]) (hl : rows.length ≤ 400) (f : Fr) (hf : f.right = true) :
  callIt E1 (evI E1) 183 [.ptr id 0, f.P] σ = some (.tup [], σ.set id [acc ((rows ++ f.rank).map intD)]) := by
 have hid := (List.getElem?_eq_some_iff.1 h).1
 obtain ⟨T, hT⟩ : ∃ T : List Int → Store, ∀ R, T R = σ.set id [acc (R.map intD)] ++ [cellsOf f.P] := ⟨_, fun _ => rfl⟩
 have h0 : σ ++ [cellsOf f.P] = T rows := by rw [hT, list_set_self h]
 have hTg : ∀ R, (T R)[id]? = some [acc (R.map intD)] := fun R => by rw [hT, List.getElem?_append_left (by simpa using hid)]; simp [hid]
 have hTs : ∀ R R', (T R).set id [acc (R'.map intD)] = T R' := fun R R' => by rw [hT, hT, set_pre (by simpa using hid), List.set_set]
 have hTl : ∀ R (k : Nat) (c : PV), (cellsOf f.P)[k]? = some c → loadS (T R) σ.length k 1 = some [c] := fun R k c hc => loadS_one (cells := cellsOf f.P) (by rw [hT, List.getElem?_append_right (by simp)]; simp) hc
 have hput : ∀ (R : List Int) (v : Int) (m : Nat), R.length ≤ 500 → m ≤ 32 → 0 ≤ v ∧ v < 2 ^ m → _ := fun R v m hR hm hv => g_put (hTg R) hR v m hm hv
 have hflag : ∀ (R : List Int) (is : Bool), R.length ≤ 500 → _ := fun R is hR => g_flag (hTg R) hR is
 simp only [hTs] at hput hflag
 have hfin : ∀ R, (T R).take σ.length = σ.set id [acc (R.map intD)] := fun R => by rw [hT, List.take_append_of_le_length (by simp)]; exact List.take_of_length_le (by simp)
 obtain ⟨hi, _⟩ := f.right_iff.1 hf
 refine call_im (σ' := T (rows ++ f.rank)) rfl rfl rfl ?_ rfl rfl (hfin _)
 refine evI_run (fn := Tryz.f183) 5 rfl Tryz.func183 rfl ?_
 have l0 := fun R => hTl R 0 _ rfl
 have l1 := fun R => hTl R 1 _ rfl
 have l2 := fun R => hTl R 2 _ rfl
 simp only [cellsOf, Fr.P] at l0 l1 l2 h0
 clear hTl hTs hTg hT hfin
 obtain ⟨e, fid, rm, ln, data⟩ := f
 simp only at hi l0 l1 l2 h0
 unfold Fr.rank
 cases e
 ·simp only [Bool.false_eq_true, if_false] at hi ⊢
  have p1 := hput rows fid 11 (by omega) (by omega) hi
  have p2 := hflag (rows ++ bitsOf fid 11) rm (by simp [bitsOf]; omega)
  have p3 := hput (rows ++ bitsOf fid 11 ++ bitsOf (bitOf rm) 1) 0 1 (by simp [bitsOf]; omega) (by omega) (by decide)
  rw [← List.append_assoc, ← List.append_assoc]
  generalize rows ++ bitsOf fid 11 ++ bitsOf (bitOf rm) 1 ++ bitsOf 0 1 = R3 at p3 ⊢
  generalize rows ++ bitsOf fid 11 ++ bitsOf (bitOf rm) 1 = R2 at p2 p3
  generalize rows ++ bitsOf fid 11 = R1 at p1 p2
  clear hput hflag
  simp at p1 p3
  simp [Tryz.f183, -loadS, -storeS, h0, l0, l1, l2, p1, p2, p3]
 ·simp only [if_true] at hi ⊢
  have hd : (0 : Int) ≤ fid / 2 ^ 18 ∧ fid / 2 ^ 18 < 2 ^ 11 := by omega
  have s18 : evBin Tryz.prog .shr 3 (.d (.int .i64 fid)) (.d (.int .i64 18)) = some (.d (.int .i64 (fid / 2 ^ 18))) := by
   rw [bin_shr_u (by decide)]
   rw [Int.fdiv_eq_ediv_of_nonneg _ (by decide)]
   rfl
  have s18' : evBin Tryz.prog .shr 3 (.d (.int .i64 fid)) (.d (.int .u64 18)) = some (.d (.int .i64 (fid / 2 ^ 18))) := by
   rw [bin_shr_u (by decide)]
   rw [Int.fdiv_eq_ediv_of_nonneg _ (by decide)]
   rfl
  have a18 : evBin Tryz.prog .and 3 (.d (.int .i64 fid)) (.d (.int .i64 262143)) = some (.d (.int .i64 (fid % 2 ^ 18))) := by rw [bin_and, and18 fid hi]
  have p1 := hput rows (fid / 2 ^ 18) 11 (by omega) (by omega) hd
  have p2 := hput (rows ++ bitsOf (fid / 2 ^ 18) 11) 3 2 (by simp [bitsOf]; omega) (by omega) (by decide)
  have p3 := hput (rows ++ bitsOf (fid / 2 ^ 18) 11 ++ bitsOf 3 2) (fid % 2 ^ 18) 18 (by simp [bitsOf]; omega) (by omega) (by omega)
  have p4 := hflag (rows ++ bitsOf (fid / 2 ^ 18) 11 ++ bitsOf 3 2 ++ bitsOf (fid % 2 ^ 18) 18) rm (by simp [bitsOf]; omega)
  rw [← List.append_assoc, ← List.append_assoc, ← List.append_assoc]
  generalize rows ++ bitsOf (fid / 2 ^ 18) 11 ++ bitsOf 3 2 ++ bitsOf (fid % 2 ^ 18) 18 ++ bitsOf (bitOf rm) 1 = R4 at p4 ⊢
  generalize rows ++ bitsOf (fid / 2 ^ 18) 11 ++ bitsOf 3 2 ++ bitsOf (fid % 2 ^ 18) 18 = R3 at p3 p4
  generalize rows ++ bitsOf (fid / 2 ^ 18) 11 ++ bitsOf 3 2 = R2 at p2 p3
  generalize rows ++ bitsOf (fid / 2 ^ 18) 11 = R1 at p1 p2
  generalize fid / 2 ^ 18 = q at p1 s18 s18'
  generalize fid % 2 ^ 18 = q2 at p3 a18
  clear hput hflag hd hi
  simp at p1 p2 p3
  simp [Tryz.f183, -loadS, -storeS, -bin_and, h0, l0, l1, l2, s18, s18', a18, p1, p2, p3, p4]
def byOk (l : List Int) : Prop := ∀ x ∈ l, 0 ≤ x ∧ x < 256
theorem b_spread (bs : List Int) (hb : byOk bs) (hl : bs.length ≤ 1000000) (σ : Store) : callIt E1 (evI E1) 213 [.d (.slice (bs.map byD))] σ = some (.d (.slice ((spreadL bs).map intD)), σ) := by
 have ho : E1.ov 213 = some ovSpread := rfl
 have hall : bs.all (fun x => decide (0 ≤ x ∧ x < 256)) = true := by rw [List.all_eq_true]; intro x hx; simpa using hb x hx
 have hov : ovSpread [.d (.slice (bs.map byD))] = some (.d (.slice ((spreadL bs).map intD))) := by
  unfold ovSpread
  simp only [bytes_map, Option.bind_some, hall, Bool.and_true]
  rw [if_pos (by simp; omega)]
  rfl
 simp [callIt, ho, hov]
def Fr.head (f : Fr) : List Int := [0] ++ f.rank ++ [0] ++ (if f.e then [0] else []) ++ bitsOf f.ln 4 ++ spreadL f.data
theorem bitsOf_01 : bitsOf 0 1 = [0] := rfl
theorem b_fhead (f : Fr) (hf : f.right = true) (hb : byOk f.data) (σ : Store) : callIt E1 (evI E1) 187 [f.P] σ = some (acc (f.head.map intD), σ) := by
 refine call_run (fn := Tryz.f187) 5 rfl rfl rfl Tryz.func187 rfl rfl ?_ (acc_data _)
 obtain ⟨_, hl1, hl2, hdl⟩ := f.right_iff.1 hf
 have hdl8 : f.data.length ≤ 8 := by
  cases hr : f.rm <;> rw [hr] at hdl <;> simp only [if_true, if_false, Bool.false_eq_true] at hdl <;> omega
 have hrl := f.rank_len
 have hg : ∀ R : List Int, [cellsOf f.P, [acc (R.map intD)]][1]? = some [acc (R.map intD)] := fun _ => rfl
 have hp : ∀ (R : List Int) (v : Int) (m : Nat), R.length ≤ 500 → m ≤ 32 → 0 ≤ v ∧ v < 2 ^ m → _ := fun R v m hR hm hv => g_put (hg R) hR v m hm hv
 have p1 := hp [] 0 1 (by simp) (by omega) (by decide)
 have p2 := g_rank (hg [0]) (by simp) f hf
 have p3 := hp ([0] ++ f.rank) 0 1 (by simp; omega) (by omega) (by decide)
 have p4 := hp ([0] ++ f.rank ++ [0]) 0 1 (by simp; omega) (by omega) (by decide)
 have p5 := hp ([0] ++ f.rank ++ [0] ++ (if f.e then [0] else [])) f.ln 4 (by cases f.e <;> simp <;> omega) (by omega) (by omega)
 have hs := fun σ => b_spread f.data hb (by omega) σ
 have ha := row_app (A := [0] ++ f.rank ++ [0] ++ (if f.e then [0] else []) ++ bitsOf f.ln 4) (B := spreadL f.data) (by rw [spreadL_len]; cases f.e <;> simp [bitsOf] <;> omega)
 clear hp hg
 unfold Fr.head
 rw [bitsOf_01] at p1 p3 p4
 obtain ⟨e, fid, rm, ln, data⟩ := f
 simp only at p2 p3 p4 p5 hs ha ⊢
 generalize Fr.rank ⟨e, fid, rm, ln, data⟩ = rk at p2 p3 p4 p5 ha ⊢
 simp only [List.nil_append] at p1
 cases e
 ·simp only [Bool.false_eq_true, if_false, List.append_nil] at p5 ha ⊢
  generalize [0] ++ rk ++ [0] ++ bitsOf ln 4 ++ spreadL data = R5 at ha ⊢
  generalize [0] ++ rk ++ [0] ++ bitsOf ln 4 = R4 at p5 ha
  generalize [0] ++ rk ++ [0] = R3 at p3 p4 p5
  generalize [0] ++ rk = R2 at p2 p3
  generalize spreadL data = sd at hs ha
  simp [cellsOf, List.set, acc_nil] at p1 p2 p3 p5 hs
  simp [Tryz.f187, p1, p2, p3, p5, hs, ha, List.set]
  cases R5 <;> rfl
 ·simp only [if_true] at p5 ha ⊢
  generalize [0] ++ rk ++ [0] ++ [0] ++ bitsOf ln 4 ++ spreadL data = R5 at ha ⊢
  generalize [0] ++ rk ++ [0] ++ [0] ++ bitsOf ln 4 = R4 at p5 ha
  generalize [0] ++ rk ++ [0] ++ [0] = R3b at p4 p5
  generalize [0] ++ rk ++ [0] = R3 at p3 p4
  generalize [0] ++ rk = R2 at p2 p3
  generalize spreadL data = sd at hs ha
  simp [cellsOf, List.set, acc_nil] at p1 p2 p3 p4 p5 hs
  simp [Tryz.f187, p1, p2, p3, p4, p5, hs, ha, List.set]
  cases R5 <;> rfl
end Go.Proofs

