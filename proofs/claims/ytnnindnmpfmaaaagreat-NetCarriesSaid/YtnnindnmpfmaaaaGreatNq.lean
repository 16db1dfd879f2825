/- Overrides of the seat of nodes: bits.Put, its contract. -/
import Derived.Test.YtnnindnmpfmaaaaGreatNd
import Derived.Test.YtnnindnmpfmaaaaGreatNc
set_option maxRecDepth 100000
set_option linter.unusedVariables false
set_option linter.unusedSimpArgs false
namespace Go.Proofs
open Go.RowKit Go.Shelf Go.Pv

/-- The bits of a number, from the highest of 'm' on. -/
def bitRows (v : Int) (m : Nat) : List (List DV) := (List.range m).map fun k => [DV.int .i64 ((v / 2 ^ (m - 1 - k)) % 2)]

theorem bits_one (x : Int) (hx : 0 ≤ x ∧ x < 2 ^ 40) : bits .and .i64 x 1 = x % 2 := by
  have h1 : (BitVec.ofInt 64 1).toNat = 2 ^ 1 - 1 := by decide
  have key : (BitVec.ofInt 64 x &&& BitVec.ofInt 64 1).toNat = (x % ((2 ^ 64 : Nat) : Int)).toNat % 2 ^ 1 := by
    rw [BitVec.toNat_and, BitVec.toNat_ofInt, h1, Nat.and_two_pow_sub_one_eq_mod]
  show IntKind.i64.wrap ((BitVec.ofInt 64 x &&& BitVec.ofInt 64 1).toNat : Nat) = x % 2
  rw [key, IntKind.wrap_i64]
  omega

theorem Tryz.putOk (v : Int) (m : Nat) (hm : m ≤ 32) (hv : 0 ≤ v ∧ v < 2 ^ m) : CallOk Tryz.prog 188 [.d (.int .i64 v), .d (.int .i64 m)] [] (.tup [.d (.slice (bitRows v m)), .d (.bool true)]) [] := by
  have hle : (2 : Int) ^ m ≤ 2 ^ 32 := by
    have : (2 : Nat) ^ m ≤ 2 ^ 32 := Nat.pow_le_pow_right (by decide) hm
    exact_mod_cast this
  have hdiv : v / 2 ^ m = 0 := Int.ediv_eq_zero_of_lt hv.1 hv.2
  refine callOk_data ⟨_, Tryz.func188, rfl, by decide⟩ (by simp) fun w Im vs hin hargs => ?_
  obtain ⟨hl, hr⟩ := hargs
  obtain ⟨x, y, rfl⟩ : ∃ x y, vs = #[x, y] := by
    match vs, hl with
    | ⟨[x, y]⟩, _ => exact ⟨x, y, rfl⟩
  obtain rfl : x = .int .i64 v := (hr 0 _ x rfl rfl).1.int_inv
  obtain rfl : y = .int .i64 m := (hr 1 _ y rfl rfl).1.int_inv
  refine ((callsIn_wide (n := 3)).1 (Tryz.Put_in _ 3 trivial trivial trivial rfl (by omega) v m hm hdiv w (fun k => bits .and .i64 (v / 2 ^ (m - 1 - k)) 1) (fun _ => rfl))).mono ?_
  rintro e w' ⟨u, rfl, hrow, hb⟩
  have hrl : (bitRows v m).length = m := by simp [bitRows]
  have hbit : ∀ k, bits .and .i64 (v / 2 ^ (m - 1 - k)) 1 = (v / 2 ^ (m - 1 - k)) % 2 := fun k => bits_one _ ⟨Int.ediv_nonneg hv.1 (Int.le_of_lt (Int.pow_pos (show (0 : Int) < 2 by decide))), by
    have : v / 2 ^ (m - 1 - k) ≤ v := Int.ediv_le_self _ hv.1
    omega⟩
  obtain ⟨g, Im', q1, q2, q3, q4, q5⟩ := ownsRow_rep (size := 1) (rows := bitRows v m) hin hb (by decide) (fun r hr => by simp [bitRows] at hr; obtain ⟨k, _, rfl⟩ := hr; rfl) (by rw [hrl]; exact hrow) (fun i j r d hi hj => by
    simp only [bitRows, List.getElem?_map] at hi
    cases hk : (List.range m)[i]? with
    | none => rw [hk] at hi; cases hi
    | some k =>
      rw [hk] at hi
      simp at hi
      subst hi
      have hik : k = i := by
        have := List.getElem?_eq_some_iff.1 hk
        obtain ⟨h1, h2⟩ := this
        simp at h2
        exact h2.symm
      subst hik
      cases j with
      | succ j => simp at hj
      | zero =>
        simp at hj
        subst hj
        refine ⟨.int .i64 ((v / 2 ^ (m - 1 - k)) % 2), ?_, .int _ _⟩
        simp only [upto, List.getElem?_map, Nat.mul_one, Nat.add_zero, hk, Option.map_some, hbit])
  refine ⟨_, Im', rfl, hb, q1, q2, .tup _ _ rfl (fun i p z hp hz => ?_)⟩
  cases i with
  | zero => simp at hp hz; subst hp; subst hz; exact .d q3
  | succ i =>
    cases i with
    | zero => simp at hp hz; subst hp; subst hz; exact .d (.bool _)
    | succ i => simp at hp
end Go.Proofs

