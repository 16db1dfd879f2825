/- Nets whose answers are fixed: plain; The law of nets: its head, calls whose answers are fixed. -/
import Derived.Test.YtnnindnmpfmaaaaGreatPg
import Derived.Test.YtnnindnmpfmaaaaGreatOv
import Derived.Test.YtnnindnmpfmaaaaGreatPh
import Derived.Test.YtnnindnmpfmaaaaGreatPc
set_option linter.unusedVariables false
set_option linter.unusedSimpArgs false
set_option maxRecDepth 100000
set_option maxHeartbeats 8000000
namespace Go.Proofs
open Go.RowKit Go.Shelf Go.Pv

def rt5 : Rt := ⟨0, 1, ⟨false, 2047, 5⟩, -1⟩
def gotN (f : Fr) : Nd := ⟨[], [], ⟨0, 0, 1, 0⟩, [f]⟩
def qN (f : Fr) : Nd := ⟨[f], [], ⟨0, 0, 1, 0⟩, []⟩
def netA : Nt := ⟨[[own0, own0, own0], [own0, own0]], ⟨[rt5], 3, [[], []], [0, 0]⟩⟩
def netB : Nt := ⟨[[own0, qN fr5, own0], [own0, own0]], ⟨[rt5], 3, [[], []], [0, 0]⟩⟩
def netC : Nt := ⟨[[gotN fr5, own0, own0], [gotN fr5, own0]], ⟨[rt5], 3, [[], []], [0, 0]⟩⟩
theorem hN_new : Nt.New [[own0, own0], [own0]] [rt5] 3 = (netA, 0) := by kernel_rfl
theorem hN_none : Nt.New [] [] 3 = (nt0, 1) := by kernel_rfl
theorem hN_send : netA.Send 0 1 fr5 = (netB, 0) := by kernel_rfl
theorem hN_send2 : netA.Send 0 2 fr5 = (netA, 1) := by kernel_rfl
theorem hN_calm : netB.Calm 9 = (netC, 1) := by kernel_rfl
theorem hN_stillC : netC.Still = true := by kernel_rfl
theorem hN_stillB : netB.Still = false := by kernel_rfl
theorem fr5_by : byOk fr5.data := by intro x hx; simp [fr5] at hx
theorem netA_fits : netA.fits := by
  have h := fits_new (l := [[own0, own0], [own0]]) (r := [rt5]) (room := 3) (by intro x hx n hn f hf; simp at hx; rcases hx with rfl | rfl <;> (simp at hn; subst hn; simp [own0] at hf)) (by rw [hN_new])
  rw [hN_new] at h
  exact h.1
theorem netB_fits : netB.fits := by
  have h := (fits_send netA_fits 0 1 fr5_by).1
  rw [hN_send] at h
  exact h
theorem netC_fits : netC.fits := by
  have h := (fits_calm netB_fits 9).1
  rw [hN_calm] at h
  exact h
/- The top layer's own question. -/
def rt7 : Rt := ⟨0, 1, ⟨false, 0, 0⟩, 7⟩
def fr3 : Fr := ⟨false, 3, false, 0, []⟩
def fr7 : Fr := ⟨false, 7, false, 0, []⟩
def netD : Nt := ⟨[[own0, own0], [own0, own0]], ⟨[rt7], 4, [[], []], [0, 0]⟩⟩
def netE : Nt := ⟨[[qN fr3, own0], [own0, own0]], ⟨[rt7], 4, [[], []], [0, 0]⟩⟩
def netF : Nt := ⟨[[own0, own0], [gotN fr7, own0]], ⟨[rt7], 4, [[], []], [0, 0]⟩⟩
theorem hN_newD : Nt.New [[own0], [own0]] [rt7] 4 = (netD, 0) := by kernel_rfl
theorem hN_sendE : netD.Send 0 0 fr3 = (netE, 0) := by kernel_rfl
theorem hN_calmF : netE.Calm 50 = (netF, 1) := by kernel_rfl
theorem hN_stillF : netF.Still = true := by kernel_rfl
theorem hN_stillE : netE.Still = false := by kernel_rfl
theorem hN_hops : hopsL [rt7] 0 fr3 = [⟨1, fr7⟩] := by kernel_rfl
theorem fr3_by : byOk fr3.data := by intro x hx; simp [fr3] at hx
theorem netD_fits : netD.fits := by
  have h := fits_new (l := [[own0], [own0]]) (r := [rt7]) (room := 4) (by intro x hx n hn f hf; simp at hx; subst hx; simp at hn; subst hn; simp [own0] at hf) (by rw [hN_newD])
  rw [hN_newD] at h
  exact h.1
theorem netE_fits : netE.fits := by
  have h := (fits_send netD_fits 0 0 fr3_by).1
  rw [hN_sendE] at h
  exact h
theorem netF_fits : netF.fits := by
  have h := (fits_calm netE_fits 50).1
  rw [hN_calmF] at h
  exact h
end Go.Proofs

set_option linter.unusedVariables false
set_option linter.unusedSimpArgs false
set_option maxRecDepth 100000
set_option maxHeartbeats 8000000
namespace Go.Proofs
open Go.RowKit Go.Shelf Go.Pv

theorem small_own0 : own0.small := ⟨by simp [own0], by simp [own0], by simp [own0]⟩
theorem b_netHead (σ : Store) : callIt E1 (evI E1) 42 [] σ = some (.d (.bool true), σ) := by
  refine call_run (fn := Tryz.f42) 5 rfl rfl rfl Tryz.func42 rfl rfl ?_ rfl
  have e1 := fun σ => b_fresh [2, 1] (by simp) (by simp) σ
  have ef : freshL [2, 1] = [[own0, own0], [own0]] := rfl
  rw [ef] at e1
  have e2 := fun σ => b_netNew [[own0, own0], [own0]] [rt5] 3 (by intro x hx n hn; simp at hx; rcases hx with rfl | rfl <;> (simp at hn; subst hn; exact small_own0)) (by simp) σ
  have e3 := fun σ => b_netNew [] [] 3 (by simp) (by simp) σ
  have e4 := fun σ => b_netSend netA netA_fits.ok.1 0 1 fr5 σ
  have e5 := fun σ => b_netSend netA netA_fits.ok.1 0 2 fr5 σ
  have e6 := fun σ => b_netCalm netB netB_fits 9 σ
  have e7 := fun σ => f_still netB_fits σ
  have e8 := fun σ => f_still netC_fits σ
  rw [hN_new] at e2
  rw [hN_none] at e3
  rw [hN_send] at e4
  rw [hN_send2] at e5
  rw [hN_calm] at e6
  rw [hN_stillB] at e7
  rw [hN_stillC] at e8
  simp [netA, netB, netC, own0, gotN, qN, fr5, rt5, nt0, gt0, ndsD, frsD, intD] at e1 e2 e3 e4 e5 e6 e7 e8
  generalize hS0 : ([] : List PV) ++ List.replicate (Tryz.f42.ntmps - ([] : List PV).length) PV.undef = S
  have hS : S.length = 141 := by rw [← hS0]; rfl
  clear hS0
  simp (maxSteps := 3000000) [Tryz.f42, -rd, rd_ne, rd_eq, hS, -loadS, -storeS, loadS_cons0, loadS_consS, storeS_cons0, storeS_consS, cellsOf, rowsFrom, e1, e2, e3, e4, e5, e6, e7, e8]
  done
end Go.Proofs

