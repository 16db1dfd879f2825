/- A frame handed to a node of a net, by the code; a net at rest; A net at rest, by the code. -/
import Derived.Test.YtnnindnmpfmaaaaGreatPb
set_option linter.unusedVariables false
set_option linter.unusedSimpArgs false
set_option maxRecDepth 100000
set_option maxHeartbeats 8000000
namespace Go.Proofs
open Go.RowKit Go.Shelf Go.Pv

/-- A net whose rows are not too long. -/
structure Nt.ok (n : Nt) : Prop where
  bs : n.bs.length ≤ 1000
  rows : ∀ r ∈ n.bs, r.length ≤ 1000
  q : ∀ r ∈ n.bs, ∀ x ∈ r, x.q.length ≤ 1000
def rw_ (l : List (List Nd)) (i : Nat) : List Nd := l.getD i []
theorem rw_get {l : List (List Nd)} {i : Nat} (h : i < l.length) : rw_ l i = l[i] := by simp [rw_, List.getD, h]
theorem nd_at {l : List Nd} {i : Nat} (hi : i < l.length) : nd l i = l[i] := by simp [nd, List.getD, hi]
def Nt.Send (n : Nt) (bus a : Int) (f : Fr) : Nt × Int :=
  if bus < 0 ∨ bus ≥ n.bs.length then (n, 1)
  else if a < 0 ∨ a ≥ ((rw_ n.bs bus.toNat).length : Int) - 1 then (n, 1)
  else ({ n with bs := n.bs.set bus.toNat ((rw_ n.bs bus.toNat).set a.toNat ((nd (rw_ n.bs bus.toNat) a.toNat).Send f).1) }, ((nd (rw_ n.bs bus.toNat) a.toNat).Send f).2)

theorem b_netSend (n : Nt) (h : n.ok) (bus a : Int) (f : Fr) (σ : Store) : callIt E1 (evI E1) 47 [n.P, .d (.int .i64 bus), .d (.int .i64 a), f.P] σ = some (.tup [(n.Send bus a f).1.P, .d (.int .i64 (n.Send bus a f).2)], σ) := by
  refine call_run (fn := Tryz.f47) 5 rfl rfl rfl Tryz.func47 rfl rfl ?_ rfl
  obtain ⟨bs, g⟩ := n
  obtain ⟨hb, hr, hq⟩ := h
  simp only at hb hr hq
  have hml : (bs.map ndsD).length = bs.length := by simp
  unfold Nt.Send
  dsimp only
  by_cases h1 : bus < 0
  · rw [if_pos (Or.inl h1)]
    simp only [Nt.P]
    generalize bs.map ndsD = L at hml ⊢
    simp [Tryz.f47, -loadS, -storeS, loadS_cons0, loadS_consS, storeS_cons0, storeS_consS, cellsOf, hml, h1]
    done
  · by_cases h2 : bus ≥ bs.length
    · rw [if_pos (Or.inr h2)]
      simp only [Nt.P]
      have h2' : (bs.length : Int) ≤ bus := h2
      generalize bs.map ndsD = L at hml ⊢
      simp [Tryz.f47, -loadS, -storeS, loadS_cons0, loadS_consS, storeS_cons0, storeS_consS, cellsOf, hml, h1, h2, h2']
      done
    · rw [if_neg (by omega)]
      obtain ⟨b, rfl⟩ : ∃ b : Nat, bus = (b : Int) := ⟨bus.toNat, by omega⟩
      have hbl : b < bs.length := by omega
      have h2' : ¬ (bs.length : Int) ≤ (b : Int) := by omega
      have hbI : (b : Int) < (bs.length : Int) := by omega
      rw [Int.toNat_natCast, rw_get hbl]
      have hx : (bs.map ndsD)[b]? = some (ndsD bs[b]) := by simp [hbl]
      have hrl := hr _ (List.getElem_mem hbl)
      have hql := hq _ (List.getElem_mem hbl)
      have c2 := fun r σ => b_withR bs b hbl (by omega) r σ
      generalize bs[b] = row at hx hrl hql ⊢
      have hmr : (row.map Nd.D).length = row.length := by simp
      have hw1 : IntKind.i64.wrap ((row.length : Int) - 1) = (row.length : Int) - 1 := wrap_ok (by omega) (by omega)
      by_cases h3 : a < 0
      · rw [if_pos (Or.inl h3)]
        simp only [Nt.P]
        generalize bs.map ndsD = L at hml hx ⊢
        obtain ⟨hi0, hx⟩ := List.getElem?_eq_some_iff.1 hx
        simp only [ndsD] at hx
        generalize row.map Nd.D = R at hmr hx
        simp [Tryz.f47, -loadS, -storeS, loadS_cons0, loadS_consS, storeS_cons0, storeS_consS, cellsOf, hml, h1, h2, h2', h3, hbl, hi0, hx, hmr, hw1]
        done
      · by_cases h4 : a ≥ (row.length : Int) - 1
        · rw [if_pos (Or.inr h4)]
          simp only [Nt.P]
          have h4' : (row.length : Int) - 1 ≤ a := h4
          generalize bs.map ndsD = L at hml hx ⊢
          obtain ⟨hi0, hx⟩ := List.getElem?_eq_some_iff.1 hx
          simp only [ndsD] at hx
          generalize row.map Nd.D = R at hmr hx
          simp [Tryz.f47, -loadS, -storeS, loadS_cons0, loadS_consS, storeS_cons0, storeS_consS, cellsOf, hml, h1, h2, h2', h3, h4, h4', hbl, hi0, hx, hmr, hw1]
          done
        · rw [if_neg (by omega)]
          obtain ⟨a, rfl⟩ : ∃ b : Nat, a = (b : Int) := ⟨a.toNat, by omega⟩
          have hal : a < row.length := by omega
          have h4' : ¬ (row.length : Int) - 1 ≤ (a : Int) := by omega
          rw [Int.toNat_natCast, nd_at hal]
          have hy : (row.map Nd.D)[a]? = some (Nd.D row[a]) := by simp [hal]
          have c1 := fun σ => b_Send row[a] f (Nat.le_trans (hql _ (List.getElem_mem hal)) (by omega)) σ
          have c3 := fun x σ => b_withN row a hal (by omega) x σ
          generalize row[a] = x at hy c1 ⊢
          generalize x.Send f = R at c1 ⊢
          obtain ⟨x', e⟩ := R
          simp only at c1 ⊢
          have c4 := c2 (row.set a x')
          have c5 := c3 x'
          clear c2 c3
          simp only [Nt.P]
          generalize (bs.set b (row.set a x')).map ndsD = L2 at c4 ⊢
          generalize (row.set a x').map Nd.D = R2 at c4 c5
          generalize bs.map ndsD = L at hml hx c4 ⊢
          obtain ⟨hi0, hx⟩ := List.getElem?_eq_some_iff.1 hx
          simp only [ndsD] at hx
          generalize row.map Nd.D = R at hmr hx hy c5
          obtain ⟨hi1, hy⟩ := List.getElem?_eq_some_iff.1 hy
          simp only [Nd.D] at hy
          try simp at c1
          try simp at c4
          try simp at c5
          simp [Tryz.f47, -loadS, -storeS, loadS_cons0, loadS_consS, storeS_cons0, storeS_consS, cellsOf, hml, h1, h2, h2', h3, h4, h4', hbl, hi0, hx, hmr, hw1, hi1, hal, hy, c1, c4, c5]
          done
end Go.Proofs

set_option linter.unusedVariables false
set_option linter.unusedSimpArgs false
set_option maxRecDepth 100000
set_option maxHeartbeats 8000000
namespace Go.Proofs
open Go.RowKit Go.Shelf Go.Pv

def Nd.busy (x : Nd) : Bool := decide (0 < x.q.length)
theorem b_busy (x : Nd) (σ : Store) : callIt E1 (evI E1) 105 [x.P] σ = some (.d (.bool x.busy), σ) := by
  refine call_run (fn := Tryz.f105) 5 rfl rfl rfl Tryz.func105 rfl rfl ?_ rfl
  obtain ⟨q, fs, ⟨t, r, s, z⟩, g⟩ := x
  unfold Nd.busy
  simp only [Nd.P]
  have hml : (q.map Fr.D).length = q.length := by simp
  have h1 : decide ((0 : Int) < (q.length : Int)) = decide (0 < q.length) := by simp
  generalize q.map Fr.D = Q at hml ⊢
  simp [Tryz.f105, -loadS, -storeS, loadS_cons0, loadS_consS, storeS_cons0, storeS_consS, cellsOf, hml, h1]

def busyR (l : List Nd) : Bool := l.any Nd.busy
theorem b_busyR (l : List Nd) (hl : l.length ≤ 1000000) (σ : Store) (i : Nat) (h : σ[i]? = some [.func (.func 105) [] []]) : callIt E1 (evI E1) 106 [.d (.slice (l.map Nd.D)), .ptr i 0] σ = some (.d (.bool (busyR l)), σ) := by
  refine call_np (σ' := σ) rfl rfl rfl ?_ rfl rfl (by simp)
  have h1 := b_containsNd 105 [] Nd.busy l hl σ (fun x _ => b_busy x σ)
  unfold busyR
  generalize l.map Nd.D = L at h1 ⊢
  refine evI_run (fn := Tryz.f106) 5 rfl Tryz.func106 rfl ?_
  simp [Tryz.f106, loadS, h, h1]

def Nt.Still (n : Nt) : Bool := (waitsL n.g.out == 0) && !(n.bs.any busyR)
theorem b_netStill (n : Nt) (h : n.ok) (hg : n.g.out.length ≤ 1000) (hgr : ∀ r ∈ n.g.out, r.length ≤ 100000) (σ : Store) : callIt E1 (evI E1) 40 [n.P] σ = some (.d (.bool n.Still), σ) := by
  refine call_run (fn := Tryz.f40) 5 rfl rfl rfl Tryz.func40 rfl rfl ?_ rfl
  obtain ⟨bs, g⟩ := n
  obtain ⟨hb, hr, hq⟩ := h
  simp only at hb hr hq hg hgr
  have c1 := fun σ => b_waits g hg hgr σ
  unfold Nt.Still
  dsimp only
  have c2 := fun (b0 : List PV) => b_containsRw 106 [.ptr 1 0] (fun r => busyR r.l) (bs.map Rw.mk) (by simp; omega) [b0, [.func (.func 105) [] []]] (fun r hr' => by
    obtain ⟨x, hx, rfl⟩ := List.mem_map.1 hr'
    exact b_busyR x (Nat.le_trans (hr x hx) (by omega)) _ 1 rfl)
  rw [rw_map] at c2
  have hany : (bs.map Rw.mk).any (fun r => busyR r.l) = bs.any busyR := by simp [Function.comp_def]
  rw [hany] at c2
  obtain ⟨rs, cap, out, lost⟩ := g
  simp only [Gt.P] at c1
  simp only [Nt.P]
  generalize bs.any busyR = z at c2 ⊢
  generalize bs.map ndsD = L at c2 ⊢
  generalize rs.map Rt.D = R at c1 ⊢
  generalize out.map frsD = O at c1 ⊢
  generalize lost.map intD = LO at c1 ⊢
  try simp at c1
  cases hw : (waitsL out == 0)
  · simp [Tryz.f40, -loadS, -storeS, loadS_cons0, loadS_consS, storeS_cons0, storeS_consS, cellsOf, c1, hw]
  · simp [Tryz.f40, -loadS, -storeS, loadS_cons0, loadS_consS, storeS_cons0, storeS_consS, cellsOf, c1, c2, hw]
end Go.Proofs

