/- slices.Clone of rows of nodes, as data and to be written. -/
import Derived.Test.YtnnindnmpfmaaaaGreatNa
import Derived.Test.YtnnindnmpfmaaaaGreatEv7
set_option maxRecDepth 100000
set_option linter.unusedVariables false
set_option linter.unusedSimpArgs false
namespace Go.Proofs
open Go.Shelf Go.RowKit Go.Lib Go.Pv

def renN : Ren := { f := fun n => if n = 41 then 97 else n, t := fun n => if n = 23 then 49 else if n = 22 then 22 else if n = 4 then 4 else n, g := id }
theorem Tryz.laysCN : SlLaysE0.n41 Tryz.prog renN where
  mixed := Tryz.mixed
  f41 := ⟨"slices.Clone[[]phaeton/api.Node,phaeton/api.Node]", by decide, by kernel_rfl⟩
  t4 := Tryz.underlying4
  a4 := Tryz.isAgg4
  z4 := Tryz.sizeOf4
  v4 := Tryz.zeroValue4
  t22 := Tryz.underlying22
  a22 := Tryz.isAgg22
  z22 := Tryz.sizeOf22
  v22 := Tryz.zeroValue22
theorem Tryz.infoN : (Tryz.prog.info? 49).map (fun i => (i.zero, i.size, i.bytes)) = some (some (.agg #[.slice none 0 0, .slice none 0 0, .int .i64 0, .int .i64 0, .int .i64 0, .int .i64 0, .slice none 0 0]), 7, 104) := by kernel_rfl
theorem Tryz.cloneN (rows : List (List DV)) (hok : rowsOk 7 rows = true) (hroom : rows.length * 104 ≤ roomB) : CallOk Tryz.prog 97 [.d (.slice rows)] [] (acc rows) [] := by
  obtain ⟨i, h1, h2, h3, h4⟩ := info_parts3 Tryz.infoN
  exact clone_ok Tryz.laysCN i _ 7 104 h1 h2 h3 h4 (by rfl) (by decide) Tryz.sizeOf49 rows hok hroom (by simp only [roomB] at hroom; simp only [maxLen]; omega)
theorem Tryz.cloneMsN (rows : List (List DV)) (hne : rows ≠ []) (hok : rowsOk 7 rows = true) (hroom : rows.length * 104 ≤ roomB) (σ : Store) : CallOk Tryz.prog 97 [.d (.slice rows)] σ (.ms σ.length 0 rows.length 7) (σ ++ [flatD rows]) := by
  obtain ⟨i, h1, h2, h3, h4⟩ := info_parts3 Tryz.infoN
  exact clone_ms Tryz.laysCN i _ 7 104 h1 h2 h3 h4 (by rfl) (by decide) Tryz.sizeOf49 rows hne hok hroom (by simp only [roomB] at hroom; simp only [maxLen]; omega) σ
def renM : Ren := { f := fun n => if n = 41 then 156 else n, t := fun n => if n = 23 then 22 else if n = 22 then 66 else if n = 4 then 4 else n, g := id }
theorem Tryz.laysCM : SlLaysE0.n41 Tryz.prog renM where
  mixed := Tryz.mixed
  f41 := ⟨"slices.Clone[[][]phaeton/api.Node,[]phaeton/api.Node]", by decide, by kernel_rfl⟩
  t4 := Tryz.underlying4
  a4 := Tryz.isAgg4
  z4 := Tryz.sizeOf4
  v4 := Tryz.zeroValue4
  t22 := Tryz.underlying66
  a22 := Tryz.isAgg66
  z22 := Tryz.sizeOf66
  v22 := Tryz.zeroValue66
theorem Tryz.infoM : (Tryz.prog.info? 22).map (fun i => (i.zero, i.size, i.bytes)) = some (some (.slice none 0 0), 1, 24) := by kernel_rfl
theorem Tryz.cloneM (rows : List (List DV)) (hok : rowsOk 1 rows = true) (hroom : rows.length * 24 ≤ roomB) : CallOk Tryz.prog 156 [.d (.slice rows)] [] (acc rows) [] := by
  obtain ⟨i, h1, h2, h3, h4⟩ := info_parts3 Tryz.infoM
  exact clone_ok Tryz.laysCM i _ 1 24 h1 h2 h3 h4 (by rfl) (by decide) Tryz.sizeOf22 rows hok hroom (by simp only [roomB] at hroom; simp only [maxLen]; omega)
theorem Tryz.cloneMsM (rows : List (List DV)) (hne : rows ≠ []) (hok : rowsOk 1 rows = true) (hroom : rows.length * 24 ≤ roomB) (σ : Store) : CallOk Tryz.prog 156 [.d (.slice rows)] σ (.ms σ.length 0 rows.length 1) (σ ++ [flatD rows]) := by
  obtain ⟨i, h1, h2, h3, h4⟩ := info_parts3 Tryz.infoM
  exact clone_ms Tryz.laysCM i _ 1 24 h1 h2 h3 h4 (by rfl) (by decide) Tryz.sizeOf22 rows hne hok hroom (by simp only [roomB] at hroom; simp only [maxLen]; omega) σ

/-- A clone to be written. -/
def extClone (sz b : Nat) : List PV → Store → Option (PV × Store)
  | [.d (.slice (r :: rs))], σ => if rowsOk sz (r :: rs) && decide ((r :: rs).length * b ≤ roomB) then some (.ms σ.length 0 (r :: rs).length sz, σ ++ [flatD (r :: rs)]) else none
  | _, _ => none
theorem extClone_ok {P : Program} {f : FuncId} {sz b : Nat} (h : ∀ (rows : List (List DV)), rows ≠ [] → rowsOk sz rows = true → rows.length * b ≤ roomB → ∀ σ : Store, CallOk P f [.d (.slice rows)] σ (.ms σ.length 0 rows.length sz) (σ ++ [flatD rows]))
    {args : List PV} {σ : Store} {r : PV × Store} (hr : extClone sz b args σ = some r) : CallOk P f args σ r.1 r.2 ∧ EldTo σ r.2 := by
  unfold extClone at hr
  split at hr
  · split at hr
    · rename_i hc
      cases hr
      simp only [Bool.and_eq_true, decide_eq_true_eq] at hc
      exact ⟨h _ (by simp) hc.1 hc.2 σ, .append _ _⟩
    · cases hr
  · cases hr
end Go.Proofs

