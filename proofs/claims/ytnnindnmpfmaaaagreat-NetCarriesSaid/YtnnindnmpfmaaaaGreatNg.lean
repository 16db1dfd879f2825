/- The seat of nodes: the references of frames, filters, counters. -/
import Derived.Test.YtnnindnmpfmaaaaGreatNf
set_option linter.unusedVariables false
set_option linter.unusedSimpArgs false
set_option maxRecDepth 100000
set_option maxHeartbeats 4000000
namespace Go.Proofs
open Go.RowKit Go.Shelf Go.Pv

def Fr.great (f : Fr) : Bool := decide ((f.data.length : Int) > 100)

theorem r_great (f : Fr) (σ : Store) : callIt E1 (evI E1) 49 [f.P] σ = some (.d (.bool f.great), σ) := by
  refine call_run (fn := Tryz.f49) 5 rfl rfl rfl Tryz.func49 rfl rfl ?_ rfl
  simp [Tryz.f49, Fr.great]

def Fr.rright (f : Fr) : Bool :=
  if decide (f.id < 0) || decide (f.id ≥ if f.e then 536870912 else 2048) || decide (f.ln < 0) || decide (f.ln > 8) then false else if f.rm then (f.data.length : Int) == 0 else (f.data.length : Int) == f.ln

theorem r_right0 (f : Fr) (σ : Store) : callIt E1 (evI E1) 50 [f.P] σ = some (.d (.bool f.rright), σ) := by
  refine call_run (fn := Tryz.f50) 5 rfl rfl rfl Tryz.func50 rfl rfl ?_ rfl
  obtain ⟨e, id, rm, ln, data⟩ := f
  unfold Fr.rright
  cases e
  · cases rm
    · cases hc1 : decide (id < 0)
      · cases hc2 : decide (id ≥ 2048)
        · cases hc3 : decide (ln < 0)
          · cases hc4 : decide (ln > 8)
            · simp [Tryz.f50, hc1, hc2, hc3, hc4]
            · simp [Tryz.f50, hc1, hc2, hc3, hc4]
          · simp [Tryz.f50, hc1, hc2, hc3]
        · simp [Tryz.f50, hc1, hc2]
      · simp [Tryz.f50, hc1]
    · cases hc1 : decide (id < 0)
      · cases hc2 : decide (id ≥ 2048)
        · cases hc3 : decide (ln < 0)
          · cases hc4 : decide (ln > 8)
            · simp [Tryz.f50, hc1, hc2, hc3, hc4]
            · simp [Tryz.f50, hc1, hc2, hc3, hc4]
          · simp [Tryz.f50, hc1, hc2, hc3]
        · simp [Tryz.f50, hc1, hc2]
      · simp [Tryz.f50, hc1]
  · cases rm
    · cases hc1 : decide (id < 0)
      · cases hc2 : decide (id ≥ 536870912)
        · cases hc3 : decide (ln < 0)
          · cases hc4 : decide (ln > 8)
            · simp [Tryz.f50, hc1, hc2, hc3, hc4]
            · simp [Tryz.f50, hc1, hc2, hc3, hc4]
          · simp [Tryz.f50, hc1, hc2, hc3]
        · simp [Tryz.f50, hc1, hc2]
      · simp [Tryz.f50, hc1]
    · cases hc1 : decide (id < 0)
      · cases hc2 : decide (id ≥ 536870912)
        · cases hc3 : decide (ln < 0)
          · cases hc4 : decide (ln > 8)
            · simp [Tryz.f50, hc1, hc2, hc3, hc4]
            · simp [Tryz.f50, hc1, hc2, hc3, hc4]
          · simp [Tryz.f50, hc1, hc2, hc3]
        · simp [Tryz.f50, hc1, hc2]
      · simp [Tryz.f50, hc1]

theorem r_takes (f : Fl) (x : Fr) (σ : Store) : callIt E1 (evI E1) 86 [f.P, x.P] σ = some (.d (.bool (f.takes x)), σ) := by
  refine call_run (fn := Tryz.f86) 5 rfl rfl rfl Tryz.func86 rfl rfl ?_ rfl
  obtain ⟨fe, fm, ft⟩ := f
  obtain ⟨xe, xid, xrm, xln, xd⟩ := x
  cases fe <;> cases xe <;> simp [Tryz.f86, Fl.takes]

def Fl.rright (f : Fl) : Bool :=
  decide (f.mask ≥ 0) && decide (f.mask < if f.e then 536870912 else 2048) && decide (f.mt ≥ 0) && decide (f.mt < if f.e then 536870912 else 2048) && (IntKind.i64.wrap (BitVec.ofInt 64 f.mt &&& BitVec.ofInt 64 f.mask).toNat == f.mt)

theorem r_flRight (f : Fl) (σ : Store) : callIt E1 (evI E1) 133 [f.P] σ = some (.d (.bool f.rright), σ) := by
  refine call_run (fn := Tryz.f133) 5 rfl rfl rfl Tryz.func133 rfl rfl ?_ rfl
  obtain ⟨e, m, t⟩ := f
  unfold Fl.rright
  cases e
  · cases hc1 : decide (m ≥ 0)
    · simp [Tryz.f133, hc1]
    · cases hc2 : decide (m < 2048)
      · simp [Tryz.f133, hc1, hc2]
      · cases hc3 : decide (t ≥ 0)
        · simp [Tryz.f133, hc1, hc2, hc3]
        · cases hc4 : decide (t < 2048)
          · simp [Tryz.f133, hc1, hc2, hc3, hc4]
          · simp [Tryz.f133, hc1, hc2, hc3, hc4]
  · cases hc1 : decide (m ≥ 0)
    · simp [Tryz.f133, hc1]
    · cases hc2 : decide (m < 536870912)
      · simp [Tryz.f133, hc1, hc2]
      · cases hc3 : decide (t ≥ 0)
        · simp [Tryz.f133, hc1, hc2, hc3]
        · cases hc4 : decide (t < 536870912)
          · simp [Tryz.f133, hc1, hc2, hc3, hc4]
          · simp [Tryz.f133, hc1, hc2, hc3, hc4]

theorem r_countNew (σ : Store) : callIt E1 (evI E1) 64 [] σ = some ((Cn.mk 0 0 1 0).P, σ) := by
  refine call_run (fn := Tryz.f64) 5 rfl rfl rfl Tryz.func64 rfl rfl ?_ rfl
  simp [Tryz.f64]

def Cn.rright (c : Cn) : Bool :=
  if c.s = 3 then (c.t == 256) && (c.r == 0) && decide (c.z ≥ 0) && decide (c.z ≤ 127)
  else if decide (c.t < 0) || decide (c.t > 255) || decide (c.r < 0) || decide (c.r > 255) || (c.z != 0) then false else if decide (c.t > 127) || decide (c.r > 127) then c.s == 2 else c.s == 1

theorem r_countRight (c : Cn) (σ : Store) : callIt E1 (evI E1) 134 [c.P] σ = some (.d (.bool c.rright), σ) := by
  refine call_run (fn := Tryz.f134) 5 rfl rfl rfl Tryz.func134 rfl rfl ?_ rfl
  obtain ⟨t, r, s, z⟩ := c
  unfold Cn.rright
  by_cases hs : s = 3
  · subst hs
    cases hc1 : (t == 256)
    · simp [Tryz.f134, hc1]
    · cases hc2 : (r == 0)
      · simp [Tryz.f134, hc1, hc2]
      · cases hc3 : decide (z ≥ 0)
        · simp [Tryz.f134, hc1, hc2, hc3]
        · simp [Tryz.f134, hc1, hc2, hc3]
  · have hs' : (s == 3) = false := by simpa using hs
    cases k1 : decide (t > 127)
    · cases k2 : decide (r > 127)
      · cases hc1 : decide (t < 0)
        · cases hc2 : decide (t > 255)
          · cases hc3 : decide (r < 0)
            · cases hc4 : decide (r > 255)
              · cases hc5 : (z != 0)
                · simp [Tryz.f134, hs, hs', k1, k2, hc1, hc2, hc3, hc4, hc5]
                · simp [Tryz.f134, hs, hs', k1, k2, hc1, hc2, hc3, hc4, hc5]
              · simp [Tryz.f134, hs, hs', k1, k2, hc1, hc2, hc3, hc4]
            · simp [Tryz.f134, hs, hs', k1, k2, hc1, hc2, hc3]
          · simp [Tryz.f134, hs, hs', k1, k2, hc1, hc2]
        · simp [Tryz.f134, hs, hs', k1, k2, hc1]
      · cases hc1 : decide (t < 0)
        · cases hc2 : decide (t > 255)
          · cases hc3 : decide (r < 0)
            · cases hc4 : decide (r > 255)
              · cases hc5 : (z != 0)
                · simp [Tryz.f134, hs, hs', k1, k2, hc1, hc2, hc3, hc4, hc5]
                · simp [Tryz.f134, hs, hs', k1, k2, hc1, hc2, hc3, hc4, hc5]
              · simp [Tryz.f134, hs, hs', k1, k2, hc1, hc2, hc3, hc4]
            · simp [Tryz.f134, hs, hs', k1, k2, hc1, hc2, hc3]
          · simp [Tryz.f134, hs, hs', k1, k2, hc1, hc2]
        · simp [Tryz.f134, hs, hs', k1, k2, hc1]
    · cases hc1 : decide (t < 0)
      · cases hc2 : decide (t > 255)
        · cases hc3 : decide (r < 0)
          · cases hc4 : decide (r > 255)
            · cases hc5 : (z != 0)
              · simp [Tryz.f134, hs, hs', k1, hc1, hc2, hc3, hc4, hc5]
              · simp [Tryz.f134, hs, hs', k1, hc1, hc2, hc3, hc4, hc5]
            · simp [Tryz.f134, hs, hs', k1, hc1, hc2, hc3, hc4]
          · simp [Tryz.f134, hs, hs', k1, hc1, hc2, hc3]
        · simp [Tryz.f134, hs, hs', k1, hc1, hc2]
      · simp [Tryz.f134, hs, hs', k1, hc1]
end Go.Proofs

