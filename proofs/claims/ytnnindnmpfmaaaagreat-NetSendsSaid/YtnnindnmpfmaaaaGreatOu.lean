/- The law of the bus: its head, calls whose answers are fixed. -/
import Derived.Test.YtnnindnmpfmaaaaGreatOv
import Derived.Test.YtnnindnmpfmaaaaGreatOr
set_option linter.unusedVariables false
set_option linter.unusedSimpArgs false
set_option maxRecDepth 100000
set_option maxHeartbeats 8000000
namespace Go.Proofs
open Go.RowKit Go.Shelf Go.Pv

def fr5 : Fr := ⟨false, 5, false, 0, []⟩
theorem twoN_right : rights twoN := by
  intro n hn
  simp [twoN] at hn
  rcases hn with rfl | rfl <;> kernel_rfl
theorem twoN_bytes : bytesOk twoN := by
  intro n hn f hf
  simp [twoN] at hn
  rcases hn with rfl | rfl
  · simp at hf
    subst hf
    intro x hx
    simp at hx
  · simp at hf
theorem two0_right : rights (twoN.take 1) := fun n hn => twoN_right n (List.mem_of_mem_take hn)
theorem two0_bytes : bytesOk (twoN.take 1) := fun n hn => twoN_bytes n (List.mem_of_mem_take hn)
theorem two1_right : rights (twoN.drop 1) := fun n hn => twoN_right n (List.mem_of_mem_drop hn)
theorem two1_bytes : bytesOk (twoN.drop 1) := fun n hn => twoN_bytes n (List.mem_of_mem_drop hn)

theorem slot_h1 : slotL twoN [] = ([⟨[], [], ⟨0, 0, 1, 0⟩, []⟩, ⟨[], [], ⟨0, 0, 1, 0⟩, [fr5]⟩], ⟨0, fr5, true, (fr5.wire.length : Int) + 3⟩) := by kernel_rfl
theorem slot_h2 : slotL twoN [0, 9] = ([⟨[fr5], [], ⟨8, 0, 1, 0⟩, []⟩, ⟨[], [], ⟨0, 1, 1, 0⟩, []⟩], ⟨0, fr5, false, (fr5.wire.length : Int) + 23⟩) := by kernel_rfl
theorem slot_h3 : slotL twoN [1, 1] = ([⟨[fr5], [], ⟨8, 0, 1, 0⟩, []⟩, ⟨[], [], ⟨0, 8, 1, 0⟩, []⟩], ⟨0, fr5, false, (fr5.wire.length : Int) + 23⟩) := by kernel_rfl
theorem slot_h4 : slotL (twoN.take 1) [] = ([⟨[fr5], [], ⟨8, 0, 1, 0⟩, []⟩], ⟨0, fr5, false, (fr5.wire.length : Int) + 23⟩) := by kernel_rfl
theorem slot_h5 : slotL (twoN.drop 1) [0] = ([⟨[], [], ⟨0, 0, 1, 0⟩, []⟩], ⟨-1, fr0, false, 11⟩) := by kernel_rfl
theorem slot_h6 : slotsL twoN [[], []] = ([⟨[], [], ⟨0, 0, 1, 0⟩, []⟩, ⟨[], [], ⟨0, 0, 1, 0⟩, [fr5]⟩], [⟨0, fr5, true, (fr5.wire.length : Int) + 3⟩, ⟨-1, fr0, false, 11⟩]) := by kernel_rfl

theorem b_busHead (σ : Store) : callIt E1 (evI E1) 17 [] σ = some (.d (.bool true), σ) := by
  refine call_run2 (fn := Tryz.f17) 5 rfl rfl rfl rfl Tryz.func17 rfl rfl ?_
  have hl5 : fr5.right = true := by kernel_rfl
  have hb5 : byOk fr5.data := by intro x hx; simp [fr5] at hx
  have e0 := fun σ => r_wlen fr5 hl5 hb5 σ
  have et := fun σ => r_two σ
  have e1 := fun σ => b_Slot twoN twoN_right.good twoN_bytes (by decide) [] (by decide) σ
  have e2 := fun σ => b_Slot twoN twoN_right.good twoN_bytes (by decide) [0, 9] (by decide) σ
  have e3 := fun σ => b_Slot twoN twoN_right.good twoN_bytes (by decide) [1, 1] (by decide) σ
  have e4 := fun σ => b_Slot (twoN.take 1) two0_right.good two0_bytes (by decide) [] (by decide) σ
  have e5 := fun σ => b_Slot (twoN.drop 1) two1_right.good two1_bytes (by decide) [0] (by decide) σ
  have e6 := fun σ => b_Slots twoN twoN_right twoN_bytes (by decide) [[], []] (by decide) (by decide) σ
  have es := fun σ => r_same fr5 fr5 σ
  rw [Fr.same_refl] at es
  have ea := fun σ => r_sameAll [fr5] (by decide) σ
  have en := fun σ => r_countNew σ
  rw [slot_h1] at e1
  rw [slot_h2] at e2
  rw [slot_h3] at e3
  rw [slot_h4] at e4
  rw [slot_h5] at e5
  rw [slot_h6] at e6
  have hwl := wire_len fr5 hl5
  generalize fr5.wire.length = wl at e0 e1 e2 e3 e4 e6 hwl
  have w3 : IntKind.i64.wrap ((wl : Int) + 3) = wl + 3 := wrap_ok (by omega) (by omega)
  have w23 : IntKind.i64.wrap ((wl : Int) + 23) = wl + 23 := wrap_ok (by omega) (by omega)
  simp [twoN, fr5, fr0, hitD] at e0 et e1 e2 e3 e4 e5 e6 es ea en
  generalize hS0 : ([] : List PV) ++ List.replicate (Tryz.f17.ntmps - ([] : List PV).length) PV.undef = S
  have hS : S.length = 246 := by rw [← hS0]; rfl
  clear hS0
  simp (maxSteps := 3000000) [Tryz.f17, mkF, -rd, rd_ne, rd_eq, hS, -loadS, -storeS, loadS_cons0, loadS_consS, storeS_cons0, storeS_consS, e0, et, e1, e2, e3, e4, e5, e6, es, ea, en, w3, w23, rowsFrom, acc_nil, evMakeD, roomB]
  done
end Go.Proofs

