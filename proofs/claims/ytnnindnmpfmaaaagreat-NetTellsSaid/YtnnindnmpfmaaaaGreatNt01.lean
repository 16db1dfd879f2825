/- Operations that ask neither the store nor a function: all of them; Operations that ask neither the store nor a function: the one theorem. And what holds of a world, its boxes and its slots; Operations that change slots, boxes or memory; Loads and stores; Stores; and slices that grow; Slices that grow. -/
import Derived.Test.YtnnindnmpfmaaaaGreatNt00
import Derived.Laws.CopyRow
set_option linter.unusedVariables false
set_option linter.unusedSimpArgs false
namespace Go.Pv
open Go
section ops
variable {P : Program} {w : World} {Im : ImT} {β : List Nat} {ρ : Nat → PV} {a : Act}
theorem bin_ok {op : BinOp} {t : TypeId} {xo yo : Operand} {p q r : PV} {u v : Value} (hp : RepP w Im β p u) (hq : RepP w Im β q v) (h : evBin P op t p q = some r) :
    ∃ res, (do eqGuard op t xo yo u v; binOp op t u v : Sem Value).run P w = .ok res w ∧ RepP w Im β r res ∧ ∀ rows, r ≠ .os rows := by
  unfold evBin at h
  split at h
  · rename_i xs ys
    obtain ⟨vx, rfl, hx⟩ := hp.agg_inv
    obtain ⟨vy, rfl, hy⟩ := hq.agg_inv
    cases hk : kindsOf P t with
    | none => simp [hk] at h
    | some ks =>
      simp only [hk, Option.bind_some] at h
      split at h
      · cases he : eqCells ks xs ys with
        | none => simp [he] at h
        | some b =>
          simp [he] at h
          subst h
          obtain ⟨e1, e2⟩ := equal_run (w := w) hk hx hy he
          exact ⟨.bool b, by simp [eqGuard, e2, binOp, e1], .d (.bool b), by simp⟩
      · cases he : eqCells ks xs ys with
        | none => simp [he] at h
        | some b =>
          simp [he] at h
          subst h
          obtain ⟨e1, e2⟩ := equal_run (w := w) hk hx hy he
          exact ⟨.bool (!b), by simp [eqGuard, e2, binOp, e1], .d (.bool (!b)), by simp⟩
      · cases h
  · rename_i hn
    clear hn
    cases hu : toV p with
    | none => simp [hu] at h
    | some x =>
      cases hv : toV q with
      | none => simp [hu, hv] at h
      | some y =>
        simp only [hu, hv, Option.bind_some] at h
        cases hr : pureRun P (binOp op t x y) with
        | none => simp [hr] at h
        | some z =>
          simp only [hr, Option.bind_some] at h
          obtain rfl := toV_rep hp hu
          obtain rfl := toV_rep hq hv
          obtain ⟨s1, s2⟩ := ofScalar_rep (w := w) (Im := Im) (β := β) h
          have hrun := pureRun_run _ _ hr w
          refine ⟨z, ?_, s1, s2⟩
          have hg : (eqGuard op t xo yo u v).run P w = .ok () w := by
            unfold eqGuard
            cases p <;> simp [toV] at hu
            rename_i dx
            cases dx <;> simp at hu <;> subst hu <;> (split <;> simp)
          simp [hg, hrun]
theorem part_ok {t : TypeId} {cs : List PV} {vs : Array Value} {off : Nat} {r : PV} (hc : RepCells w Im β cs vs) (h : partP P t cs off = some r) :
    ∃ v, (part t vs off).run P w = .ok v w ∧ RepP w Im β r v ∧ ∀ rows, r ≠ .os rows := by
  unfold partP at h
  cases ha : aggT P t with
  | none => simp [ha] at h
  | some b =>
    simp only [ha, Option.bind_some] at h
    have hrun := aggT_run ha w
    cases b with
    | true =>
      simp only [if_true] at h
      cases hs : szT P t with
      | none => simp [hs] at h
      | some sz =>
        simp only [hs, Option.bind_some, Option.some.injEq] at h
        subst h
        have hsr := szT_run hs w
        refine ⟨.agg (vs.extract off (off + sz)), by simp [part, hrun, hsr], .agg _ _ (by simp [hc.1]; omega) (fun i p v hp hv => ?_), by simp⟩
        rw [List.getElem?_map] at hp
        cases hq : ((cs.drop off).take sz)[i]? with
        | none => rw [hq] at hp; cases hp
        | some q =>
          rw [hq] at hp
          simp at hp
          subst hp
          rw [List.getElem?_take] at hq
          split at hq
          · rw [List.getElem?_drop] at hq
            rw [Array.getElem?_extract] at hv
            split at hv
            · exact (hc.2 _ q v hq hv).strip1
            · cases hv
          · cases hq
    | false =>
      simp at h
      obtain ⟨q, hq, rfl⟩ := h
      have hi : off < vs.size := by have := (List.getElem?_eq_some_iff.1 hq).1; have := hc.1; omega
      exact ⟨vs[off], by simp [part, hrun, hi], (hc.2 off q _ hq (Array.getElem?_eq_getElem hi)).strip1, strip1_not_os q⟩
theorem Addr.add_none {x : Addr} (hs : x.spot = none) (n : Nat) : x.add n = ⟨x.block, x.off + n, none⟩ := by
  unfold Addr.add
  split
  · rename_i h; subst h; cases x; simp_all
  · rfl
theorem fieldAddr_ok {t : TypeId} {p r : PV} {v : Value} {f : Nat} (hp : RepP w Im β p v) (h : evFieldAddr P t p f = some r) :
    ∃ u, (Instr.fieldAt t v f).run P w = .ok u w ∧ RepP w Im β r u ∧ ∀ rows, r ≠ .os rows := by
  unfold evFieldAddr at h
  split at h
  · rename_i fields hu
    cases hf : fields[f]? with
    | none => simp [hf] at h
    | some fl =>
      simp only [hf, Option.bind_some] at h
      cases hs : szT P fl.type with
      | none => simp [hs] at h
      | some sz =>
        simp only [hs, Option.bind_some] at h
        split at h
        · cases h
        · rename_i hz
          have hsr := szT_run hs w
          split at h
          · rename_i id off
            cases h
            cases hp with
            | ptr _ _ b hb =>
              refine ⟨.pointer (some ⟨b, off + fl.offset, none⟩), ?_, .ptr id _ b hb, by simp⟩
              simp [Instr.fieldAt, run_underlying hu, hf, Instr.sureAddr, fieldPlace, hsr, hz, Addr.add_none]
          · rename_i cells
            cases h
            cases hp with
            | ro _ x cv h1 h2 h3 h4 =>
              refine ⟨.pointer (some (x.add fl.offset)), ?_, ?_, by simp⟩
              · simp [Instr.fieldAt, run_underlying hu, hf, Instr.sureAddr, fieldPlace, hsr, hz]
              · rw [Addr.add_none h1]
                refine .ro _ _ (fun j => cv (fl.offset + j)) rfl ?_ ?_ ?_
                · intro j hj
                  simp at hj
                  have := h2 (fl.offset + j) (by omega)
                  simpa [Nat.add_assoc] using this
                · intro j hj
                  simp at hj
                  have := h3 (fl.offset + j) (by omega)
                  simpa [Nat.add_assoc] using this
                · intro j x hx
                  rw [List.getElem?_drop] at hx
                  exact h4 _ x hx
          · cases h
  · cases h
theorem indexAddr_ok {t : TypeId} {p q r : PV} {v i : Value} (hp : RepP w Im β p v) (hq : RepP w Im β q i) (h : evIndexAddr P t p q = some r) :
    ∃ u, (Instr.indexAt t v i).run P w = .ok u w ∧ RepP w Im β r u ∧ ∀ rows, r ≠ .os rows := by
  unfold evIndexAddr at h
  cases hn : natOf q with
  | none => simp [hn] at h
  | some n =>
    simp only [hn, Option.bind_some] at h
    obtain ⟨k, rfl⟩ := natOf_rep hq hn
    split at h
    · rename_i elem rows hu
      cases hr : rows[n]? with
      | none => simp [hr] at h
      | some row =>
        simp only [hr, Option.bind_some] at h
        split at h
        · rename_i hc
          obtain ⟨hs, hpos⟩ := hc
          cases h
          have hsr := szT_run hs w
          have hlt : n < rows.length := (List.getElem?_eq_some_iff.1 hr).1
          cases hp.slice_inv with
          | nil => simp at hlt
          | slice _ x c sz cv hlen hcap hsp hcell him hrep =>
            have hrl : row.length = sz := hlen row (List.mem_of_getElem? hr)
            have hmul : (n + 1) * sz ≤ rows.length * sz := Nat.mul_le_mul_right sz hlt
            rw [Nat.add_mul, Nat.one_mul] at hmul
            have hx : x.spot = none := hsp (by omega)
            refine ⟨.pointer (some (x.add (n * row.length))), ?_, ?_, by simp⟩
            · simp [Instr.indexAt, asIntOf, run_underlying hu, hsr, hlt]
            · rw [Addr.add_none hx, hrl]
              refine .ro row _ (fun j => cv (n * sz + j)) rfl ?_ ?_ ?_
              · intro j hj
                have := hcell (n * sz + j) (by omega)
                simpa [Nat.add_assoc] using this
              · intro j hj
                have := him (n * sz + j) (by omega)
                simpa [Nat.add_assoc] using this
              · intro j y hy
                exact hrep n j row y hr hy
        · cases h
    · rename_i len elem id off hu
      cases hs : szT P elem with
      | none => simp [hs] at h
      | some sz =>
        simp only [hs, Option.bind_some] at h
        split at h
        · rename_i hlt
          cases h
          have hsr := szT_run hs w
          cases hp with
          | ptr _ _ b hb =>
            refine ⟨.pointer (some ⟨b, off + n * sz, none⟩), ?_, .ptr id _ b hb, by simp⟩
            simp [Instr.indexAt, asIntOf, run_underlying hu, hsr, hlt, Instr.sureAddr, Addr.add_none]
        · cases h
    · rename_i elem id off len sz hu
      split at h
      · rename_i hc
        obtain ⟨hs, hlt⟩ := hc
        cases h
        have hsr := szT_run hs w
        cases hp with
        | ms _ _ _ _ b c x hb hcap hx =>
          obtain rfl := hx (by omega)
          refine ⟨.pointer (some ((⟨b, off, none⟩ : Addr).add (n * sz))), ?_, ?_, by simp⟩
          · simp [Instr.indexAt, asIntOf, run_underlying hu, hsr, hlt]
          · rw [Addr.add_none rfl]; exact .ptr id (off + n * sz) b hb
      · cases h
    · cases h
theorem index_ok {t : TypeId} {p q r : PV} {v i : Value} (hp : RepP w Im β p v) (hq : RepP w Im β q i) (h : evIndex P t p q = some r) :
    ∃ u, (Instr.index t v i).run P w = .ok u w ∧ RepP w Im β r u ∧ ∀ rows, r ≠ .os rows := by
  unfold evIndex at h
  cases hn : natOf q with
  | none => simp [hn] at h
  | some n =>
    simp only [hn, Option.bind_some] at h
    obtain ⟨k, rfl⟩ := natOf_rep hq hn
    split at h
    · rename_i len elem cs hu
      split at h
      · rename_i hlt
        cases hs : szT P elem with
        | none => simp [hs] at h
        | some sz =>
          simp only [hs, Option.bind_some] at h
          obtain ⟨vs, rfl, hvs⟩ := hp.agg_inv
          obtain ⟨u, h1, h2, h3⟩ := part_ok (w := w) hvs h
          exact ⟨u, by simp [Instr.index, asIntOf, run_underlying hu, szT_run hs, hlt, h1], h2, h3⟩
      · cases h
    · rename_i s hu
      cases hb : s[n]? with
      | none => simp [hb] at h
      | some b =>
        simp [hb] at h
        subst h
        obtain rfl := hp.str_inv
        exact ⟨.int .u8 b.toNat, by simp [Instr.index, asIntOf, run_underlying hu, hb], .d (.int _ _), by simp⟩
    · cases h
theorem bound_ok (hρ : Reps w Im β ρ a) {x : Option Operand} {dflt n : Nat} (h : bound ρ x dflt = some n) :
    (x = none ∧ n = dflt) ∨ ∃ o k, x = some o ∧ a.eval o = .int k (n : Int) := by
  cases x with
  | none => simp [bound] at h; exact .inl ⟨rfl, h.symm⟩
  | some o =>
    simp only [bound] at h
    cases hu : use ρ o with
    | none => simp [hu] at h
    | some p =>
      simp only [hu, Option.bind_some] at h
      obtain ⟨k, hk⟩ := natOf_rep (use_rep hρ hu) h
      exact .inr ⟨o, k, rfl, hk⟩
theorem bounds_run {isSlice : Bool} {len cap l h : Nat} {lo hi : Option Value} (hlo : (lo = none ∧ l = 0) ∨ ∃ k, lo = some (.int k (l : Int)))
    (hhi : (hi = none ∧ h = len) ∨ ∃ k, hi = some (.int k (h : Int))) (h1 : l ≤ h) (h2 : h ≤ cap) :
    (Instr.sliceBounds isSlice len cap lo hi none).run P w = .ok (l, h, cap) w := by
  rcases hlo with ⟨rfl, rfl⟩ | ⟨k, rfl⟩ <;> rcases hhi with ⟨rfl, rfl⟩ | ⟨k', rfl⟩ <;> simp [Instr.sliceBounds, Instr.sliceBound, asIntOf, h1, h2]
theorem bounds_run3 {len cap l h : Nat} {lo : Option Value} {hi mx : Value} (hlo : (lo = none ∧ l = 0) ∨ ∃ k, lo = some (.int k (l : Int)))
    (hhi : ∃ k, hi = .int k (h : Int)) (hmx : ∃ k, mx = .int k (h : Int)) (h1 : l ≤ h) (h2 : h ≤ cap) :
    (Instr.sliceBounds true len cap lo (some hi) (some mx)).run P w = .ok (l, h, h) w := by
  obtain ⟨k', rfl⟩ := hhi
  obtain ⟨k'', rfl⟩ := hmx
  rcases hlo with ⟨rfl, rfl⟩ | ⟨k, rfl⟩ <;> simp [Instr.sliceBounds, Instr.sliceBound, asIntOf, h1, h2]
theorem cut_rep {rows : List (List DV)} {sz l h m len cap : Nat} {x : Option Addr} (hr : RepD w Im (.slice rows) (.slice x len cap)) (hok : rowsOk sz rows = true)
    (h1 : l ≤ h) (h2 : h ≤ rows.length) (h3 : h ≤ m) (h4 : m ≤ cap) :
    RepD w Im (.slice ((rows.take h).drop l)) (.slice (if m = l then x else x.map (·.add (l * sz))) (h - l) (m - l)) := by
  cases hr with
  | nil =>
    simp at h2
    subst h2
    obtain rfl : l = 0 := by omega
    obtain rfl : m = 0 := by omega
    simpa using RepD.nil
  | slice _ y c sz' cv hlen hcap hsp hcell him hrep =>
    have hlen' : ((rows.take h).drop l).length = h - l := by simp; omega
    have hsz : rows ≠ [] → sz' = sz := by
      intro hne
      cases rows with
      | nil => exact absurd rfl hne
      | cons r rs =>
        simp [rowsOk] at hok
        have := hlen r (by simp)
        omega
    have key : ∀ y' : Addr, (h - l ≠ 0 → y' = y.add (l * sz)) → RepD w Im (.slice ((rows.take h).drop l)) (.slice (some y') (h - l) (m - l)) := by
      intro y' hy'
      rw [← hlen']
      by_cases hz : h - l = 0
      · have : (rows.take h).drop l = [] := by apply List.eq_nil_of_length_eq_zero; omega
        rw [this]
        exact .slice [] y' _ sz (fun _ => default) (by simp) (by simp) (by simp) (by simp) (by simp) (by simp)
      · obtain rfl := hy' hz
        have hne : rows ≠ [] := by intro h0; subst h0; simp at h2; omega
        obtain rfl := hsz hne
        have hmul : h * sz' ≤ rows.length * sz' := Nat.mul_le_mul_right _ h2
        have hsub : (h - l) * sz' = h * sz' - l * sz' := Nat.sub_mul _ _ _
        have hle : l * sz' ≤ h * sz' := Nat.mul_le_mul_right _ h1
        refine .slice _ _ _ sz' (fun j => cv (l * sz' + j)) ?_ (by rw [hlen']; omega) ?_ ?_ ?_ ?_
        · intro r hr
          exact hlen r (List.mem_of_mem_take (List.mem_of_mem_drop hr))
        · intro hnz
          rw [hlen'] at hnz
          rw [Addr.add_none (hsp (by omega))]
        · intro j hj
          rw [hlen'] at hj
          rw [Addr.add_none (hsp (by omega))]
          have := hcell (l * sz' + j) (by omega)
          simpa [Nat.add_assoc] using this
        · intro j hj
          rw [hlen'] at hj
          rw [Addr.add_none (hsp (by omega))]
          have := him (l * sz' + j) (by omega)
          simpa [Nat.add_assoc] using this
        · intro i j r x hi hj
          rw [List.getElem?_drop, List.getElem?_take] at hi
          split at hi
          · have := hrep (l + i) j r x hi hj
            rwa [Nat.add_mul, Nat.add_assoc] at this
          · cases hi
    split
    · exact key y (fun hz => by omega)
    · exact key _ (fun _ => rfl)
theorem RepD.slice_form {rows : List (List DV)} {v : Value} (h : RepD w Im (.slice rows) v) : ∃ y cap, v = .slice y rows.length cap ∧ rows.length ≤ cap := by
  cases h with
  | nil => exact ⟨none, 0, rfl, by simp⟩
  | slice _ y c sz' cv hlen hcap hsp hcell him hrep => exact ⟨some y, c, rfl, hcap⟩
theorem slice_ok (hρ : Reps w Im β ρ a) {t : TypeId} {x : Operand} {lo hi mx : Option Operand} {r : PV} (h : evSlice P ρ t x lo hi mx = some r) :
    ∃ u, (Instr.sliceAt t (a.eval x) (lo.map a.eval) (hi.map a.eval) (mx.map a.eval)).run P w = .ok u w ∧ RepP w Im β r u ∧ ∀ O loc, OwnP w Im O loc r u := by
  unfold evSlice at h
  cases hx : use ρ x with
  | none => simp [hx] at h
  | some p =>
    simp only [hx, Option.bind_some] at h
    have hp := use_rep hρ hx
    have map_lo : ∀ {l : Nat} {lo : Option Operand}, bound ρ lo 0 = some l → (lo.map a.eval = none ∧ l = 0) ∨ ∃ k, lo.map a.eval = some (.int k (l : Int)) := by
      intro l lo hl
      rcases bound_ok hρ hl with ⟨rfl, rfl⟩ | ⟨o, k, rfl, ho⟩
      · exact .inl ⟨rfl, rfl⟩
      · exact .inr ⟨k, by simp [ho]⟩
    split at h
    · rename_i s hu
      split at h
      · cases h
      · rename_i hm
        cases hl : bound ρ lo 0 with
        | none => simp [hl] at h
        | some l =>
          cases hh : bound ρ hi s.size with
          | none => simp [hl, hh] at h
          | some h' =>
            simp only [hl, hh, Option.bind_some] at h
            split at h
            · rename_i hc
              cases h
              obtain rfl : mx = none := by cases mx <;> simp_all
              rw [hp.str_inv]
              have hhi : (hi.map a.eval = none ∧ h' = s.size) ∨ ∃ k, hi.map a.eval = some (.int k (h' : Int)) := by
                rcases bound_ok hρ hh with ⟨rfl, rfl⟩ | ⟨o, k, rfl, ho⟩
                · exact .inl ⟨rfl, rfl⟩
                · exact .inr ⟨k, by simp [ho]⟩
              have hb := bounds_run (P := P) (w := w) (isSlice := false) (len := s.size) (cap := s.size) (map_lo hl) hhi hc.1 hc.2
              exact ⟨.string (s.extract l h'), by simp [Instr.sliceAt, Instr.slice, run_underlying hu, hb], .d (.str _), fun O loc => .of_not (by simp)⟩
            · cases h
    · rename_i elem rows hu
      cases hs : szT P elem with
      | none => simp [hs] at h
      | some sz =>
        simp only [hs, Option.bind_some] at h
        cases hl : bound ρ lo 0 with
        | none => simp [hl] at h
        | some l =>
          cases hh : bound ρ hi rows.length with
          | none => simp [hl, hh] at h
          | some h' =>
            simp only [hl, hh, Option.bind_some] at h
            split at h
            · rename_i hc
              simp at hc
              obtain ⟨⟨c1, c2⟩, c3⟩ := hc
              have hsr := szT_run hs w
              have hD := hp.slice_inv
              have hv := hD.slice_form
              obtain ⟨y, cap, hv, hcap⟩ := hv
              rw [hv] at hD ⊢
              split at h
              · cases h
                have hhi : (hi.map a.eval = none ∧ h' = rows.length) ∨ ∃ k, hi.map a.eval = some (.int k (h' : Int)) := by
                  rcases bound_ok hρ hh with ⟨rfl, rfl⟩ | ⟨o, k, rfl, ho⟩
                  · exact .inl ⟨rfl, rfl⟩
                  · exact .inr ⟨k, by simp [ho]⟩
                have hb := bounds_run (P := P) (w := w) (isSlice := true) (len := rows.length) (cap := cap) (map_lo hl) hhi c2 (by omega)
                refine ⟨_, by simp [Instr.sliceAt, Instr.slice, run_underlying hu, hb, hsr], .d (cut_rep hD c1 c2 c3 (by omega) (Nat.le_refl _)), fun O loc => .of_not (by simp)⟩
              · rename_i m
                split at h
                · rename_i hsome
                  cases hm : bound ρ (some m) 0 with
                  | none => simp [hm] at h
                  | some m' =>
                    simp only [hm, Option.bind_some] at h
                    split at h
                    · rename_i hmh
                      subst hmh
                      cases h
                      rcases bound_ok hρ hm with ⟨hh0, _⟩ | ⟨o, k, ho', ho⟩
                      · cases hh0
                      · cases ho'
                        rcases bound_ok hρ hh with ⟨rfl, _⟩ | ⟨o2, k2, rfl, ho2⟩
                        · simp at hsome
                        · have hb := bounds_run3 (P := P) (w := w) (len := rows.length) (cap := cap) (lo := lo.map a.eval) (hi := a.eval o2) (mx := a.eval m) (map_lo hl) ⟨k2, ho2⟩ ⟨k, ho⟩ c2 (by omega)
                          have hrep := cut_rep hD c1 c2 c3 (Nat.le_refl m') (by omega)
                          refine ⟨.slice (if m' = l then y else y.map (·.add (l * sz))) (m' - l) (m' - l), by simp [Instr.sliceAt, Instr.slice, run_underlying hu, hb, hsr], ?_, fun O loc => acc_own⟩
                          generalize hrows : (rows.take m').drop l = rows' at hrep ⊢
                          have hl' : rows'.length = m' - l := by rw [← hrows]; simp; omega
                          cases rows' with
                          | nil =>
                            simp at hl'
                            rw [← hl']
                            exact .e0 _
                          | cons r rs => exact .os hrep
                    · cases h
                · cases h
            · cases h
    · rename_i elem id off len sz hu
      split at h
      · rename_i hc
        obtain ⟨hs, hmx⟩ := hc
        have hsr := szT_run hs w
        obtain rfl : mx = none := by cases mx <;> simp_all
        cases hl : bound ρ lo 0 with
        | none => simp [hl] at h
        | some l =>
          cases hh : bound ρ hi len with
          | none => simp [hl, hh] at h
          | some h' =>
            simp only [hl, hh, Option.bind_some] at h
            split at h
            · rename_i hc
              obtain ⟨c1, c2⟩ := hc
              cases h
              generalize hv : a.eval x = v at hp
              cases hp with
              | ms _ _ _ _ b c y hb hcap hy =>
                have hhi : (hi.map a.eval = none ∧ h' = len) ∨ ∃ k, hi.map a.eval = some (.int k (h' : Int)) := by
                  rcases bound_ok hρ hh with ⟨rfl, rfl⟩ | ⟨o, k, rfl, ho⟩
                  · exact .inl ⟨rfl, rfl⟩
                  · exact .inr ⟨k, by simp [ho]⟩
                have hb' := bounds_run (P := P) (w := w) (isSlice := true) (len := len) (cap := c) (map_lo hl) hhi c1 (by omega)
                refine ⟨.slice (some (if c = l then y else y.add (l * sz))) (h' - l) (c - l), ?_, .ms id _ _ _ b _ _ hb (by omega) (fun hne => ?_), fun O loc => .of_not (by simp)⟩
                · simp [Instr.sliceAt, Instr.slice, run_underlying hu, hb', hsr]
                  split <;> rfl
                rw [if_neg (by omega), hy (by omega)]
                simp [Addr.add_none]
            · cases h
      · cases h
    · cases h
end ops
end Go.Pv

namespace Go.Pv
open Go
section ops
variable {P : Program} {w : World} {Im : ImT} {β : List Nat} {ρ : Nat → PV} {a : Act}
theorem bytesOfRows_get : ∀ {rows : List (List DV)} {xs : List Int}, bytesOfRows rows = some xs → rows.length = xs.length ∧ ∀ (i : Nat) (n : Int), xs[i]? = some n → rows[i]? = some [.int .u8 n]
  | [], xs, h => by simp [bytesOfRows] at h; subst h; exact ⟨rfl, by simp⟩
  | r :: rs, xs, h => by
    simp only [bytesOfRows] at h
    cases hr : byteOfRow r with
    | none => simp [hr] at h
    | some n =>
      cases hs : bytesOfRows rs with
      | none => simp [hr, hs] at h
      | some ns =>
        simp [hr, hs] at h
        subst h
        obtain ⟨h1, h2⟩ := bytesOfRows_get hs
        have : r = [.int .u8 n] := by
          unfold byteOfRow at hr
          split at hr
          · simp at hr; subst hr; rfl
          · cases hr
        refine ⟨by simp [h1], fun i m hi => ?_⟩
        cases i with
        | zero => simp at hi ⊢; subst hi; exact this
        | succ i => simpa using h2 i m (by simpa using hi)
theorem bytes_ok {src dst : TypeId} {rows : List (List DV)} {v : Value} {r : PV} (hp : RepD w Im (.slice rows) v) (h : evBytesStr P src dst rows = some r) :
    ∃ res, (convert src dst v).run P w = .ok res w ∧ RepP w Im β r res ∧ ∀ rows, r ≠ .os rows := by
  unfold evBytesStr at h
  split at h
  · rename_i e hs hd
    split at h
    · rename_i h8
      have he : P.underlying e = some (.int .u8) := by
        unfold isU8 at h8
        split at h8
        · rename_i h; exact h
        · cases h8
      cases hx : bytesOfRows rows with
      | none => simp [hx] at h
      | some xs =>
        simp [hx] at h
        subst h
        obtain ⟨hlen, hget⟩ := bytesOfRows_get hx
        refine ⟨.string (strOfNums xs), ?_, .d (.str _), by simp⟩
        cases hp with
        | nil =>
          have : xs = [] := List.eq_nil_of_length_eq_zero (by rw [← hlen]; rfl)
          subst this
          exact run_convert_bytes_nil w src e hs he 0 0 dst hd
        | slice _ a c sz cv h1 h2 h3 h4 h5 h6 =>
          rw [run_convert_bytes_string w src dst e _ _ c hs he hd]
          have hl : (loadCells a rows.length).run P w = .ok (xs.map (Value.int .u8)).toArray w := by
            have := run_loadCells_list (P := P) w a (xs.map (Value.int .u8)) (fun j u hj => by
              rw [List.getElem?_map] at hj
              cases hn : xs[j]? with
              | none => rw [hn] at hj; cases hj
              | some n =>
                rw [hn] at hj
                simp at hj
                subst hj
                have hr := hget j n hn
                have hsz : sz = 1 := by
                  have := h1 _ (List.mem_of_getElem? hr)
                  simpa using this.symm
                subst hsz
                have hj : j < rows.length := (List.getElem?_eq_some_iff.1 hr).1
                have hrep := h6 j 0 _ _ hr rfl
                have hcv : cv (j * 1 + 0) = .int .u8 n := by
                  generalize cv (j * 1 + 0) = q at hrep
                  cases hrep
                  rfl
                rw [Addr.add_none (h3 (by omega)), h4 j (by omega)]
                simpa using hcv)
            simpa [hlen] using this
          rw [run_bytesToString w a _ c xs hl, foldl_push_bytes]
          simp [strOfNums, ByteArray.empty, ByteArray.emptyWithCapacity]
          rfl
    · cases h
  · cases h
theorem convert_ok {src dst : TypeId} {p r : PV} {v : Value} (hp : RepP w Im β p v) (h : evConvert P src dst p = some r) :
    ∃ res, (convert src dst v).run P w = .ok res w ∧ RepP w Im β r res ∧ ∀ rows, r ≠ .os rows := by
  unfold evConvert at h
  split at h
  · rename_i rows
    cases hp with
    | d hd => exact bytes_ok hd h
  · rename_i x hx
    cases hv : toV p with
    | none => simp [hv] at h
    | some u =>
      simp only [hv, Option.bind_some] at h
      cases hr : pureRun P (convert src dst u) with
      | none => simp [hr] at h
      | some z =>
        simp only [hr, Option.bind_some] at h
        have := toV_rep hp hv
        obtain ⟨s1, s2⟩ := ofScalar_rep (w := w) (Im := Im) (β := β) h
        subst this
        exact ⟨z, pureRun_run _ _ hr _, s1, s2⟩
theorem evPure_ok (hρ : Reps w Im β ρ a) (hin : ImIn w Im) {o : Oper} {r : PV} (h : evPure P ρ o.op = some r) : PureOk P w Im β (execOp a.eval o) r := by
  obtain ⟨dst, op, ty, pos, after, guard⟩ := o
  simp only at h
  cases op with
  | pick c x y =>
    simp only [evPure] at h
    cases hc : use ρ c with
    | none => simp [hc] at h
    | some cv =>
      cases hx : use ρ x with
      | none => simp [hc, hx] at h
      | some xv =>
        cases hy : use ρ y with
        | none => simp [hc, hx, hy] at h
        | some yv =>
          simp only [hc, hx, hy, Option.bind_some] at h
          split at h
          · rename_i t
            cases h
            have hb := (use_rep hρ hc).bool_inv
            refine .same (if t then a.eval x else a.eval y) (by simp [execOp, hb, asBool]) ?_ (fun O loc => .of_not ?_)
            · cases t
              · exact use_rep hρ hy
              · exact use_rep hρ hx
            · cases t
              · exact use_not_os hy
              · exact use_not_os hx
          · cases h
  | build t parts => simpa only [execOp] using build_ok hρ h
  | buildSlice t len parts => simpa only [execOp] using buildSlice_ok hρ hin h
  | nilCheck x =>
    simp only [evPure] at h
    cases hx : use ρ x with
    | none => simp [hx] at h
    | some p =>
      simp only [hx, Option.bind_some] at h
      have hp := use_rep hρ hx
      have hv : (execOp a.eval { dst := dst, op := .nilCheck x, type := ty, pos := pos, after := after, guard := guard }).run P w = .ok (.value (a.eval x)) w ∧ r = p := by
        split at h <;> cases h
        · refine ⟨?_, rfl⟩
          generalize hu : a.eval x = u at hp
          cases hp
          simp [execOp, hu]
        · refine ⟨?_, rfl⟩
          generalize hu : a.eval x = u at hp
          cases hp
          simp [execOp, hu]
        · refine ⟨?_, rfl⟩
          generalize hu : a.eval x = u at hp
          cases hp
          simp [execOp, hu]
      obtain ⟨hv, rfl⟩ := hv
      exact .same _ hv hp (fun O loc => .of_not (use_not_os hx))
  | binOp op t x y yt =>
    simp only [evPure] at h
    cases hx : use ρ x with
    | none => simp [hx] at h
    | some p =>
      cases hy : use ρ y with
      | none => simp [hx, hy] at h
      | some q =>
        simp only [hx, hy, Option.bind_some] at h
        obtain ⟨res, h1, h2, h3⟩ := bin_ok (w := w) (xo := x) (yo := y) (use_rep hρ hx) (use_rep hρ hy) h
        exact .same res (by simp only [execOp, Sem.run_bind, h1, Result.andThen_ok]; rfl) h2 (fun O loc => .of_not h3)
  | unOp op t x =>
    simp only [evPure] at h
    cases hx : use ρ x with
    | none => simp [hx] at h
    | some p =>
      simp only [hx, Option.bind_some] at h
      cases hv : toV p with
      | none => simp [hv] at h
      | some u =>
        simp only [hv, Option.bind_some] at h
        cases hr : pureRun P (Op.unary op u) with
        | none => simp [hr] at h
        | some z =>
          simp only [hr, Option.bind_some] at h
          have := toV_rep (use_rep hρ hx) hv
          obtain ⟨s1, s2⟩ := ofScalar_rep (w := w) (Im := Im) (β := β) h
          exact .same z (by simp only [execOp, this, Sem.run_bind, pureRun_run _ _ hr, Result.andThen_ok]; rfl) s1 (fun O loc => .of_not s2)
  | convert s d x =>
    simp only [evPure] at h
    cases hx : use ρ x with
    | none => simp [hx] at h
    | some p =>
      simp only [hx, Option.bind_some] at h
      obtain ⟨z, h1, h2, h3⟩ := convert_ok (src := s) (dst := d) (use_rep hρ hx) h
      exact .same z (by simp only [execOp, h1, Sem.run_bind, Result.andThen_ok]; rfl) h2 (fun O loc => .of_not h3)
  | makeInterface t x =>
    simp only [evPure] at h
    split at h
    · cases h
    · rename_i hn hu
      cases hx : use ρ x with
      | none => simp [hx] at h
      | some p =>
        simp [hx] at h
        subst h
        have hc : P.concrete t = true := by
          unfold Program.concrete
          split
          · rename_i ms hms; rw [hu] at hms; exact absurd (Option.some.inj hms) (hn ms)
          · rename_i hms; simp [hms] at hu
          · rfl
        exact .same _ (by simp only [execOp, Sem.run_bind, run_makeInterface w t (a.eval x) hc, Result.andThen_ok]; rfl) (.iface t p _ (use_rep hρ hx)) (fun O loc => .of_not (by simp))
    · cases h
  | makeFunc fn first captured =>
    simp only [evPure] at h
    cases hf : useL ρ first.toList with
    | none => simp [hf] at h
    | some f =>
      cases hc : useL ρ captured.toList with
      | none => simp [hf, hc] at h
      | some c =>
        simp [hf, hc] at h
        subst h
        obtain ⟨f1, f2⟩ := useL_rep hρ hf
        obtain ⟨c1, c2⟩ := useL_rep hρ hc
        refine .same (.func fn (first.map a.eval) (captured.map a.eval)) (by simp [execOp, Instr.makeFunc]) (.func fn f c _ _ (by simp [f1]) (by simp [c1]) ?_ ?_) (fun O loc => .of_not (by simp))
        · intro i p v hp hv
          exact (f2 i p v hp (by simpa using hv)).1
        · intro i p v hp hv
          exact (c2 i p v hp (by simpa using hv)).1
  | slice t x lo hi mx =>
    simp only [evPure] at h
    obtain ⟨u, h1, h2, h3⟩ := slice_ok (w := w) hρ h
    exact .same u (by simp only [execOp, Sem.run_bind, h1, Result.andThen_ok]; rfl) h2 h3
  | fieldAddr t x f =>
    simp only [evPure] at h
    cases hx : use ρ x with
    | none => simp [hx] at h
    | some p =>
      simp only [hx, Option.bind_some] at h
      obtain ⟨u, h1, h2, h3⟩ := fieldAddr_ok (w := w) (use_rep hρ hx) h
      exact .same u (by simp only [execOp, Sem.run_bind, h1, Result.andThen_ok]; rfl) h2 (fun O loc => .of_not h3)
  | field t x f =>
    simp only [evPure, evField] at h
    cases hx : use ρ x with
    | none => simp [hx] at h
    | some p =>
      simp only [hx, Option.bind_some] at h
      split at h
      · rename_i fields cs hu
        cases hf : fields[f]? with
        | none => simp [hf] at h
        | some fl =>
          simp only [hf, Option.bind_some] at h
          have hp := use_rep hρ hx
          generalize hv : a.eval x = v at hp
          obtain ⟨vs, rfl, hvs⟩ := hp.agg_inv
          obtain ⟨u, h1, h2, h3⟩ := part_ok (w := w) hvs h
          exact .same u (by simp [execOp, hv, Instr.field, run_underlying hu, hf, asAgg, h1]) h2 (fun O loc => .of_not h3)
      · cases h
  | indexAddr t x i =>
    simp only [evPure] at h
    cases hx : use ρ x with
    | none => simp [hx] at h
    | some p =>
      cases hi : use ρ i with
      | none => simp [hx, hi] at h
      | some q =>
        simp only [hx, hi, Option.bind_some] at h
        obtain ⟨u, h1, h2, h3⟩ := indexAddr_ok (w := w) (use_rep hρ hx) (use_rep hρ hi) h
        exact .same u (by simp only [execOp, Sem.run_bind, h1, Result.andThen_ok]; rfl) h2 (fun O loc => .of_not h3)
  | index t x i =>
    simp only [evPure] at h
    cases hx : use ρ x with
    | none => simp [hx] at h
    | some p =>
      cases hi : use ρ i with
      | none => simp [hx, hi] at h
      | some q =>
        simp only [hx, hi, Option.bind_some] at h
        obtain ⟨u, h1, h2, h3⟩ := index_ok (w := w) (use_rep hρ hx) (use_rep hρ hi) h
        exact .same u (by simp only [execOp, Sem.run_bind, h1, Result.andThen_ok]; rfl) h2 (fun O loc => .of_not h3)
  | extract x i =>
    simp only [evPure] at h
    cases hx : use ρ x with
    | none => simp [hx] at h
    | some p =>
      simp only [hx, Option.bind_some] at h
      split at h
      · rename_i vs
        cases hg : vs[i]? with
        | none => simp [hg] at h
        | some q =>
          simp [hg] at h
          subst h
          have hp := use_rep hρ hx
          generalize hv : a.eval x = v at hp
          obtain ⟨us, rfl, hl, hus⟩ := hp.tup_inv
          have hi : i < us.size := by have := (List.getElem?_eq_some_iff.1 hg).1; omega
          exact .same us[i] (by simp [execOp, hv, Instr.extract, hi]) (hus i q _ hg (Array.getElem?_eq_getElem hi)).strip (fun O loc => .of_not (strip_not_os q))
      · cases h
  | _ => simp [evPure] at h
end ops
structure Good (w : World) (Im : ImT) (O : OwT) (β : List Nat) (σ : Store) : Prop where
  len : β.length = σ.length
  box : ∀ (id b : Nat) (cells : List PV), β[id]? = some b → σ[id]? = some cells → O b = some (.box id) ∧
    ∃ (cs : Array Value) (e : TypeId), w.heap[b]? = some (.cells cs e (0, 0)) ∧ cells.length ≤ cs.size ∧
      ∀ (j : Nat) (p : PV) (v : Value), cells[j]? = some p → cs[j]? = some v → RepP w Im β p v ∧ OwnP w Im O (.cell id j) p v ∧ True
  im : ImIn w Im
  box' : ∀ b o, Im b o → ∀ id, O b ≠ some (.box id)
  lim : ∀ b, O b ≠ none → b < w.heap.size
structure Slots (w : World) (Im : ImT) (O : OwT) (β : List Nat) (slots : List PV) (tmps : Array Value) : Prop where
  len : slots.length = tmps.size
  rep : ∀ (i : Nat) (p : PV) (v : Value), slots[i]? = some p → tmps[i]? = some v → RepP w Im β p v ∧ OwnP w Im O (.slot i) p v
structure Fr (w : World) (Im : ImT) (O : OwT) (w' : World) (Im' : ImT) (O' : OwT) : Prop where
  env : SameEnv w w'
  size : w.heap.size ≤ w'.heap.size
  same : ∀ b, b < w.heap.size → O b = none → w'.heap[b]? = w.heap[b]?
  keep : Keep w Im w' Im'
  new : ∀ b o, Im' b o → Im b o ∨ O b ≠ none ∨ w.heap.size ≤ b
  own : ∀ b, b < w.heap.size → O b = none → O' b = none
theorem Fr.refl (w : World) (Im : ImT) (O : OwT) : Fr w Im O w Im O := ⟨.refl w, Nat.le_refl _, fun _ _ _ => rfl, .refl w Im, fun _ _ h => .inl h, fun _ _ h => h⟩
theorem Fr.trans {w w' w'' : World} {Im Im' Im'' : ImT} {O O' O'' : OwT} (h : Fr w Im O w' Im' O') (h' : Fr w' Im' O' w'' Im'' O'') : Fr w Im O w'' Im'' O'' where
  env := h.env.trans h'.env
  size := Nat.le_trans h.size h'.size
  same := fun b hb ho => (h'.same b (Nat.lt_of_lt_of_le hb h.size) (h.own b hb ho)).trans (h.same b hb ho)
  keep := h.keep.trans h'.keep
  new := fun b o hb => by
    rcases h'.new b o hb with hb | hb | hb
    · exact h.new b o hb
    · by_cases hs : b < w.heap.size
      · exact .inr (.inl fun ho => hb (h.own b hs ho))
      · exact .inr (.inr (by omega))
    · exact .inr (.inr (Nat.le_trans h.size hb))
  own := fun b hb ho => h'.own b (Nat.lt_of_lt_of_le hb h.size) (h.own b hb ho)
theorem OwnP.mono {w w' : World} {Im Im' : ImT} {O O' : OwT} {loc loc' : Loc} {p : PV} {v : Value} (h : OwnP w Im O loc p v)
    (hh : ∀ b, O b = some loc → O' b = some loc' ∧ w'.heap[b]? = w.heap[b]? ∧ ∀ o, Im' b o → Im b o) : OwnP w' Im' O' loc' p v := by
  intro rows hp
  rcases h rows hp with h | ⟨a, n, c, sz, cs, e, h1, h2, h3, h4, h5, h6, h7, h9⟩
  · exact .inl h
  · obtain ⟨g1, g2, g3⟩ := hh _ h3
    exact .inr ⟨a, n, c, sz, cs, e, h1, h2, g1, g2.trans h4, h5, h6, h7, fun o ho => h9 o (g3 o ho)⟩
theorem Good.newW {w w' : World} {Im Im' : ImT} {O : OwT} {β : List Nat} {σ : Store} (h : Good w Im O β σ) (hn : NewW w w') (hs : ∀ b o, Im b o → Im' b o)
    (hi : ∀ b o, Im' b o → Im b o ∨ (w.heap.size ≤ b ∧ ∃ u, w'.cell? ⟨b, o, none⟩ = some u)) : Good w' Im' O β σ ∧ Fr w Im O w' Im' O ∧
      (∀ slots tmps, Slots w Im O β slots tmps → Slots w' Im' O β slots tmps) := by
  have hk : Keep w Im w' Im' := fun b o hb => ⟨hs b o hb, cell_congr (hn.same b (h.im.lt hb))⟩
  have hown : ∀ (loc : Loc) (p : PV) (v : Value), OwnP w Im O loc p v → OwnP w' Im' O loc p v := fun loc p v ho =>
    ho.mono fun b hb => ⟨hb, hn.same b (h.lim b (by simp [hb])), fun o ho => by
      rcases hi b o ho with h1 | ⟨h1, _⟩
      · exact h1
      · exact absurd (h.lim b (by simp [hb])) (by omega)⟩
  refine ⟨⟨h.len, ?_, ?_, ?_, fun b hb => Nat.lt_of_lt_of_le (h.lim b hb) hn.size⟩, ⟨hn.env, hn.size, fun b hb _ => hn.same b hb, hk, fun b o hb => ?_, fun b hb ho => ho⟩, fun slots tmps hS => ⟨hS.len, fun i p v hp hv => ?_⟩⟩
  · intro id b cells hb hc
    obtain ⟨h1, cs, e, h2, h3, h4⟩ := h.box id b cells hb hc
    refine ⟨h1, cs, e, (hn.same b (h.lim b (by simp [h1]))).trans h2, h3, fun j p v hp hv => ?_⟩
    obtain ⟨g1, g2, g3⟩ := h4 j p v hp hv
    exact ⟨g1.keep hk (fun _ _ h => h), hown _ _ _ g2, g3⟩
  · intro b o hb
    rcases hi b o hb with h1 | ⟨_, h1⟩
    · obtain ⟨v, hv⟩ := h.im b o h1
      exact ⟨v, ((hk b o h1).2).trans hv⟩
    · exact h1
  · intro b o hb id ho
    rcases hi b o hb with h1 | ⟨h1, _⟩
    · exact h.box' b o h1 id ho
    · exact absurd (h.lim b (by simp [ho])) (by omega)
  · rcases hi b o hb with h1 | ⟨h1, _⟩
    · exact .inl h1
    · exact .inr (.inr h1)
  · obtain ⟨g1, g2⟩ := hS.rep i p v hp hv
    exact ⟨g1.keep hk (fun _ _ h => h), hown _ _ _ g2⟩
end Go.Pv

namespace Go.Pv
open Go
def Ext (β β' : List Nat) : Prop := ∀ id b : Nat, β[id]? = some b → β'[id]? = some b
theorem Ext.refl (β : List Nat) : Ext β β := fun _ _ h => h
theorem Ext.trans {β β' β'' : List Nat} (h : Ext β β') (h' : Ext β' β'') : Ext β β'' := fun id b hb => h' id b (h id b hb)
structure Inv (w : World) (Im : ImT) (O : OwT) (β : List Nat) (st : St) (a : Act) : Prop where
  good : Good w Im O β st.store
  slots : Slots w Im O β st.slots a.tmps
theorem Slots.get {w : World} {Im : ImT} {O : OwT} {β : List Nat} {slots : List PV} {tmps : Array Value} (h : Slots w Im O β slots tmps) (t : Nat) :
    RepP w Im β (rd slots t) (tmps.getD t undef) ∧ OwnP w Im O (.slot t) (rd slots t) (tmps.getD t undef) := by
  by_cases ht : t < slots.length
  · have ht' : t < tmps.size := by have := h.len; omega
    have := h.rep t slots[t] tmps[t] (List.getElem?_eq_getElem ht) (Array.getElem?_eq_getElem ht')
    simpa [rd, List.getD, ht, Array.getD, ht'] using this
  · have ht' : ¬ t < tmps.size := by have := h.len; omega
    have h1 : rd slots t = .undef := by simp [rd, List.getD, ht]
    have h2 : tmps.getD t undef = undef := by simp [Array.getD, ht']
    rw [h1, h2]
    exact ⟨.undef, .of_not (by simp)⟩
theorem Inv.reps {w : World} {Im : ImT} {O : OwT} {β : List Nat} {st : St} {a : Act} (h : Inv w Im O β st a) : Reps w Im β (rd st.slots) a :=
  fun t => (h.slots.get t).1
def OpOk (P : Program) (w : World) (Im : ImT) (O : OwT) (β : List Nat) (a : Act) (o : Oper) (st' : St) : Prop :=
  ∀ (K : Act → World → Prop) (Q : Exit → Act → World → Prop),
    (∀ w' Im' O' β' a', Fr w Im O w' Im' O' → Ext β β' → Inv w' Im' O' β' st' a' → a'.defers = a.defers → K a' w') → o.wp P a w K Q
theorem alloc_new (w : World) (o : Obj) : (w.alloc o).heap[w.heap.size]? = some o := by
  show (w.heap.push o)[w.heap.size]? = _
  simp
theorem put_defers (a : Act) (dst : Option Tmp) (v : Value) : (a.put dst v).defers = a.defers := by cases dst <;> rfl
theorem OpOk.value {P : Program} {w w' : World} {Im Im' : ImT} {O O' : OwT} {β β' : List Nat} {a : Act} {o : Oper} {st' : St} {v : Value}
    (hrun : (execOp a.eval o).run P w = .ok (.value v) w') (hf : Fr w Im O w' Im' O') (he : Ext β β') (hi : Inv w' Im' O' β' st' (a.put o.dst v)) : OpOk P w Im O β a o st' := by
  intro K Q hK
  unfold Oper.wp
  rw [hrun]
  exact hK w' Im' O' β' _ hf he hi (put_defers a o.dst v)
theorem OpOk.skip {P : Program} {w w' : World} {Im Im' : ImT} {O O' : OwT} {β β' : List Nat} {a : Act} {o : Oper} {st' : St}
    (hrun : (execOp a.eval o).run P w = .ok .skip w') (hf : Fr w Im O w' Im' O') (he : Ext β β') (hi : Inv w' Im' O' β' st' (a.put o.dst undef)) : OpOk P w Im O β a o st' := by
  intro K Q hK
  unfold Oper.wp
  rw [hrun]
  exact hK w' Im' O' β' _ hf he hi (put_defers a o.dst undef)
theorem Slots.put {w : World} {Im : ImT} {O : OwT} {β : List Nat} {slots : List PV} {a : Act} {r : PV} {v : Value} {dst : Option Tmp} (hs : Slots w Im O β slots a.tmps)
    (hr : RepP w Im β r v) (ho : ∀ d, dst = some d → OwnP w Im O (.slot d) r v) : Slots w Im O β (putS slots dst r) (a.put dst v).tmps := by
  cases dst with
  | none => exact hs
  | some d =>
    refine ⟨by simp [putS, Act.put, hs.len], fun i p u hp hu => ?_⟩
    simp only [putS] at hp
    simp only [Act.put] at hu
    rw [List.getElem?_set] at hp
    rw [Array.getElem?_setIfInBounds] at hu
    split at hp
    · rename_i hdi
      subst hdi
      simp only [if_true] at hu
      split at hp
      · split at hu
        · cases hp; cases hu
          exact ⟨hr, ho d rfl⟩
        · cases hu
      · cases hp
    · rename_i hdi
      rw [if_neg hdi] at hu
      exact hs.rep i p u hp hu
def retag (O : OwT) (l l' : Loc) : OwT := fun b => if O b = some l then some l' else O b
theorem retag_none {O : OwT} {l l' : Loc} {b : Nat} : retag O l l' b = none ↔ O b = none := by
  unfold retag
  split
  · rename_i h; simp [h]
  · rfl
theorem Fr.retag (w : World) (Im : ImT) (O : OwT) (l l' : Loc) : Fr w Im O w Im (retag O l l') :=
  ⟨.refl w, Nat.le_refl _, fun _ _ _ => rfl, .refl w Im, fun _ _ h => .inl h, fun b _ h => retag_none.2 h⟩
theorem OwnP.retag {w : World} {Im : ImT} {O : OwT} {l l' loc : Loc} {p : PV} {v : Value} (h : OwnP w Im O loc p v) (hne : loc ≠ l) : OwnP w Im (retag O l l') loc p v :=
  h.mono fun b hb => ⟨by unfold Pv.retag; rw [if_neg (by rw [hb]; simpa using hne)]; exact hb, rfl, fun _ h => h⟩
theorem OwnP.moved {w : World} {Im : ImT} {O : OwT} {l l' : Loc} {p : PV} {v : Value} (h : OwnP w Im O l p v) : OwnP w Im (Pv.retag O l l') l' p v :=
  h.mono fun b hb => ⟨by unfold Pv.retag; rw [if_pos hb], rfl, fun _ h => h⟩
theorem Good.retag {w : World} {Im : ImT} {O : OwT} {β : List Nat} {σ : Store} (h : Good w Im O β σ) (s : Nat) {l' : Loc} (hl' : ∀ id, l' ≠ .box id) :
    Good w Im (Pv.retag O (.slot s) l') β σ where
  len := h.len
  box := fun id b cells hb hc => by
    obtain ⟨h1, cs, e, h2, h3, h4⟩ := h.box id b cells hb hc
    refine ⟨by unfold Pv.retag; rw [if_neg (by rw [h1]; simp)]; exact h1, cs, e, h2, h3, fun j p v hp hv => ?_⟩
    obtain ⟨g1, g2, g3⟩ := h4 j p v hp hv
    exact ⟨g1, g2.retag (by simp), g3⟩
  im := h.im
  box' := fun b o hb id ho => by
    unfold Pv.retag at ho
    split at ho
    · simp at ho; exact hl' id ho
    · exact h.box' b o hb id ho
  lim := fun b hb => h.lim b (fun hn => hb (retag_none.2 hn))
theorem Slots.untake {w : World} {Im : ImT} {O : OwT} {β : List Nat} {slots : List PV} {tmps : Array Value} (h : Slots w Im O β slots tmps) (s : Nat) (l' : Loc) :
    Slots w Im (Pv.retag O (.slot s) l') β (Pv.untake slots (some s)) tmps := by
  refine ⟨by simp [Pv.untake, h.len], fun i p u hp hu => ?_⟩
  simp only [Pv.untake] at hp
  rw [List.getElem?_set] at hp
  split at hp
  · rename_i hsi
    subst hsi
    split at hp
    · rename_i hlt
      cases hp
      have := (h.get s).1
      have hts : tmps.getD s undef = u := by
        rw [Array.getD_eq_getD_getElem?, hu]; rfl
      rw [hts] at this
      exact ⟨this.strip, .of_not (strip_not_os _)⟩
    · cases hp
  · rename_i hsi
    obtain ⟨g1, g2⟩ := h.rep i p u hp hu
    exact ⟨g1, g2.retag (by intro he; cases he; exact hsi rfl)⟩
section step
variable {P : Program} {w : World} {Im : ImT} {O : OwT} {β : List Nat} {st : St} {a : Act}
theorem moveIt_ok (hI : Inv w Im O β st a) {o : Oper} {x : Operand} {take : Bool} {g : Gives} (hx : (execOp a.eval o).run P w = .ok (.value (a.eval x)) w)
    (h : moveIt (rd st.slots) take st.store x = some g) : OpOk P w Im O β a o { slots := putS (untake st.slots g.2.1) o.dst g.1, store := g.2.2 } := by
  have hplain : ∀ {p : PV}, RepP w Im β p (a.eval x) → (∀ rows, p ≠ .os rows) → OpOk P w Im O β a o { slots := putS (untake st.slots none) o.dst p, store := st.store } :=
    fun {p} hp hn => .value hx (.refl w Im O) (.refl β) ⟨hI.good, hI.slots.put hp (fun d _ => .of_not hn)⟩
  cases x with
  | tmp s =>
    simp only [moveIt] at h
    cases take with
    | false =>
      simp at h
      subst h
      exact hplain (hI.slots.get s).1.strip (strip_not_os _)
    | true =>
      simp at h
      subst h
      cases hd : o.dst with
      | none =>
        refine .value (Im' := Im) (O' := retag O (.slot s) (.slot 0)) (β' := β) hx (.retag _ _ _ _ _) (.refl β) ⟨hI.good.retag s (by simp), ?_⟩
        rw [hd]
        exact hI.slots.untake s _
      | some d =>
        refine .value (Im' := Im) (O' := retag O (.slot s) (.slot d)) (β' := β) hx (.retag _ _ _ _ _) (.refl β) ⟨hI.good.retag s (by simp), ?_⟩
        rw [hd]
        show Slots w Im _ β (putS (untake st.slots (some s)) (some d) (rd st.slots s)) (a.put (some d) (a.eval (.tmp s))).tmps
        refine (hI.slots.untake s _).put (hI.slots.get s).1 (fun d' hd' => ?_)
        cases hd'
        exact (hI.slots.get s).2.moved
  | const c =>
    simp only [moveIt, opv] at h
    cases hv : ofValue c with
    | none => simp [hv] at h
    | some p =>
      simp [hv] at h
      subst h
      obtain ⟨r1, r2⟩ := ofValue_rep (w := w) (Im := Im) (β := β) hv
      exact hplain r1 r2
  | func f =>
    simp only [moveIt, opv, Option.map_some, Option.some.injEq] at h
    subst h
    exact hplain (opv_rep (ρ := rd st.slots) hI.reps (x := .func f) rfl) (by simp)
  | global c => simp [moveIt, opv] at h
theorem pure_step (hI : Inv w Im O β st a) {o : Oper} {r : PV} (h : evPure P (rd st.slots) o.op = some r) :
    OpOk P w Im O β a o { slots := putS (untake st.slots none) o.dst r, store := st.store } := by
  obtain ⟨v, w', Im', h1, h2, h3, h4, h5, h6⟩ := evPure_ok (P := P) hI.reps hI.good.im h
  obtain ⟨g1, g2, g3⟩ := hI.good.newW h2 h3 h4
  exact .value h1 g2 (.refl β) ⟨g1, (g3 _ _ hI.slots).put h5 (fun d _ => h6 O _)⟩
theorem newBox_gen (hI : Inv w Im O β st a) {o : Oper} {cells : List PV} {cs0 : Array Value} {t : TypeId} {r : PV} {u : Value}
    (hrun : (execOp a.eval o).run P w = .ok (.value u) (w.alloc (.cells cs0 t)))
    (hr : RepP (w.alloc (.cells cs0 t)) Im (β ++ [w.heap.size]) r u) (hro : ∀ rows, r ≠ .os rows)
    (hc : RepCells w Im β cells cs0) (hno : ∀ p ∈ cells, ∀ rows, p ≠ .os rows) :
    OpOk P w Im O β a o { slots := putS (untake st.slots none) o.dst r, store := st.store ++ [cells] } := by
  have hno' : ¬ (O w.heap.size ≠ none) := fun h => Nat.lt_irrefl _ (hI.good.lim _ h)
  have hOn : O w.heap.size = none := by simpa using hno'
  obtain ⟨g1, g2, g3⟩ := hI.good.newW (NewW.alloc w (.cells cs0 t)) (fun _ _ h => h) (fun _ _ h => .inl h)
  have hExt : Ext β (β ++ [w.heap.size]) := fun id b h => by rw [List.getElem?_append_left (List.getElem?_eq_some_iff.1 h).1]; exact h
  have hO' : ∀ (b : Nat) (l : Loc), O b = some l → (fun b => if b = w.heap.size then some (Loc.box st.store.length) else O b) b = some l := by
    intro b l hl
    show (if b = w.heap.size then some (Loc.box st.store.length) else O b) = some l
    rw [if_neg (fun h => by subst h; rw [hOn] at hl; cases hl)]
    exact hl
  refine .value (Im' := Im) (O' := fun b => if b = w.heap.size then some (.box st.store.length) else O b) (β' := β ++ [w.heap.size]) hrun ?_ hExt ⟨⟨by simp [g1.len], ?_, g1.im, ?_, ?_⟩, ?_⟩
  · refine ⟨g2.env, g2.size, fun b hb ho => g2.same b hb ho, g2.keep, fun b o hb => g2.new b o hb, fun b hb ho => ?_⟩
    rw [if_neg (by omega)]
    exact ho
  · intro id b cs' hb hc'
    by_cases hid : id < st.store.length
    · rw [List.getElem?_append_left (by have := g1.len; omega)] at hb
      rw [List.getElem?_append_left hid] at hc'
      obtain ⟨h1, cs, e, h2, h3, h4⟩ := g1.box id b cs' hb hc'
      refine ⟨hO' _ _ h1, cs, e, h2, h3, fun j p v hp hv => ?_⟩
      obtain ⟨k1, k2, k3⟩ := h4 j p v hp hv
      exact ⟨k1.keep (.refl _ _) hExt, k2.mono fun b hb => ⟨hO' _ _ hb, rfl, fun _ h => h⟩, k3⟩
    · have hl := g1.len
      have hid' : id = st.store.length := by
        have := (List.getElem?_eq_some_iff.1 hc').1
        simp at this
        omega
      subst hid'
      rw [← hl, List.getElem?_concat_length] at hb
      rw [List.getElem?_concat_length] at hc'
      cases hb; cases hc'
      refine ⟨by simp, cs0, t, alloc_new w _, Nat.le_of_eq hc.1, fun j p u hp hu => ⟨((hc.2 j p u hp hu).keep g2.keep hExt), .of_not (hno p (List.mem_of_getElem? hp)), trivial⟩⟩
  · intro b o hb' id ho
    split at ho
    · rename_i he
      subst he
      exact absurd (hI.good.im.lt hb') (Nat.lt_irrefl _)
    · exact hI.good.box' b o hb' id ho
  · intro b hb'
    split at hb'
    · rename_i he; subst he; simp
    · have := hI.good.lim b hb'; simp; omega
  · have hs := g3 _ _ hI.slots
    refine Slots.put ⟨hs.len, fun i p u hp hu => ?_⟩ hr (fun d _ => .of_not hro)
    obtain ⟨k1, k2⟩ := hs.rep i p u hp hu
    exact ⟨k1.keep (.refl _ _) hExt, k2.mono fun b hb => ⟨hO' _ _ hb, rfl, fun _ h => h⟩⟩
theorem newBox_ok (hI : Inv w Im O β st a) {o : Oper} {cells : List PV} {v : Value} {t : TypeId}
    (hrun : (execOp a.eval o).run P w = .ok (.value (.pointer (some ⟨w.heap.size, 0, none⟩))) (w.alloc (.cells v.cells t)))
    (hc : RepCells w Im β cells v.cells) (hno : ∀ p ∈ cells, ∀ rows, p ≠ .os rows) :
    OpOk P w Im O β a o { slots := putS (untake st.slots none) o.dst (.ptr st.store.length 0), store := st.store ++ [cells] } :=
  newBox_gen hI hrun (.ptr _ 0 w.heap.size (by rw [← hI.good.len, List.getElem?_concat_length])) (by simp) hc hno
end step
end Go.Pv

namespace Go.Pv
open Go
section step
variable {P : Program} {w : World} {Im : ImT} {O : OwT} {β : List Nat} {st : St} {a : Act}
theorem Good.update {σ : Store} {w' : World} {O' : OwT} {id b : Nat} {cells cells' : List PV} {cs' : Array Value} {e : TypeId} (hg : Good w Im O β σ) (hb : β[id]? = some b)
    (hc : σ[id]? = some cells) (hsz : w'.heap.size = w.heap.size) (hsame : ∀ k, k ≠ b → w'.heap[k]? = w.heap[k]?) (hnew : w'.heap[b]? = some (.cells cs' e (0, 0)))
    (hlen : cells'.length ≤ cs'.size) (h1 : ∀ k id', O k = some (.box id') → O' k = some (.box id')) (h2 : ∀ k id' j, O k = some (.cell id' j) → id' ≠ id → O' k = some (.cell id' j))
    (h3 : ∀ k id', O' k = some (.box id') → O k = some (.box id')) (h4 : ∀ k, O' k ≠ none → O k ≠ none)
    (hcells : Keep w Im w' Im → ∀ (j : Nat) (p : PV) (v : Value), cells'[j]? = some p → cs'[j]? = some v → RepP w' Im β p v ∧ OwnP w' Im O' (.cell id j) p v ∧ True) :
    Good w' Im O' β (σ.set id cells') ∧ Keep w Im w' Im := by
  have hOb : O b = some (.box id) := (hg.box id b cells hb hc).1
  have hk : Keep w Im w' Im := fun b' o hb' => ⟨hb', cell_congr (hsame b' (fun he => hg.box' b' o hb' id (he ▸ hOb)))⟩
  refine ⟨⟨by simp [hg.len], ?_, ?_, ?_, ?_⟩, hk⟩
  · intro id' b' cs0 hb' hc'
    rw [List.getElem?_set] at hc'
    split at hc'
    · rename_i hid
      subst hid
      split at hc'
      · cases hc'
        rw [hb] at hb'
        cases hb'
        exact ⟨h1 _ _ hOb, cs', e, hnew, hlen, hcells hk⟩
      · cases hc'
    · rename_i hid
      obtain ⟨g1, cs, e', g2, g3, g4⟩ := hg.box id' b' cs0 hb' hc'
      have hne : b' ≠ b := fun he => by rw [he, hOb] at g1; cases g1; exact hid rfl
      refine ⟨h1 _ _ g1, cs, e', (hsame b' hne).trans g2, g3, fun j p v hp hv => ?_⟩
      obtain ⟨k1, k2, k3⟩ := g4 j p v hp hv
      exact ⟨k1.keep hk (fun _ _ h => h), k2.mono fun k hk' => ⟨h2 _ _ _ hk' (fun he => hid he.symm), hsame k (fun he => by rw [he, hOb] at hk'; cases hk'), fun _ h => h⟩, k3⟩
  · intro b' o hb'
    obtain ⟨v, hv⟩ := hg.im b' o hb'
    exact ⟨v, (hk b' o hb').2.trans hv⟩
  · intro b' o hb' id' ho
    exact hg.box' b' o hb' id' (h3 _ _ ho)
  · intro b' hb'
    rw [hsz]
    exact hg.lim b' (h4 b' hb')
theorem loadCells_run {x : Addr} (hs : x.spot = none) (n : Nat) (f : Nat → Value) (h : ∀ j, j < n → w.cell? ⟨x.block, x.off + j, none⟩ = some (f j)) :
    (loadCells x n).run P w = .ok ((List.range n).map f).toArray w :=
  run_loadCells w x n f (fun j hj => by rw [Addr.add_none hs]; exact h j hj)
theorem Good.cell {σ : Store} (hg : Good w Im O β σ) {id b : Nat} {cells : List PV} (hb : β[id]? = some b) (hc : σ[id]? = some cells) {j : Nat} {p : PV} (hp : cells[j]? = some p) :
    ∃ v, w.cell? ⟨b, j, none⟩ = some v ∧ RepP w Im β p v ∧ OwnP w Im O (.cell id j) p v ∧ True := by
  obtain ⟨g1, cs, e, g2, g3, g4⟩ := hg.box id b cells hb hc
  have hj : j < cs.size := Nat.lt_of_lt_of_le (List.getElem?_eq_some_iff.1 hp).1 g3
  exact ⟨cs[j], by simp [World.cell?, g2, hj], g4 j p _ hp (Array.getElem?_eq_getElem hj)⟩
theorem loadS_get {σ : Store} {id off n : Nat} {ps : List PV} (h : loadS σ id off n = some ps) : ∃ cells, σ[id]? = some cells ∧ off + n ≤ cells.length ∧ ps = (cells.drop off).take n := by
  unfold loadS at h
  cases hc : σ[id]? with
  | none => simp [hc] at h
  | some cells =>
    simp only [hc, Option.bind_some] at h
    split at h
    · rename_i hl; cases h; exact ⟨cells, rfl, hl, rfl⟩
    · cases h
theorem load_run (hg : Good w Im O β st.store) {t : TypeId} {p r : PV} {σ' : Store} {v : Value} (hp : RepP w Im β p v) (h : loadAs P t st.store false p = some (r, σ')) :
    σ' = st.store ∧ ∃ u, (Instr.loadAt t v).run P w = .ok u w ∧ RepP w Im β r u ∧ ∀ rows, r ≠ .os rows := by
  unfold loadAs at h
  cases ha : aggT P t with
  | none => simp [ha] at h
  | some ag =>
    simp only [ha, Option.bind_some] at h
    have har := aggT_run ha w
    split at h
    · rename_i id off
      cases hp with
      | ptr _ _ b hb =>
        cases ag with
        | true =>
          simp only [if_true] at h
          cases hs : szT P t with
          | none => simp [hs] at h
          | some sz =>
            simp only [hs, Option.bind_some] at h
            cases hl : loadS st.store id off sz with
            | none => simp [hl] at h
            | some ps =>
              simp [hl] at h
              obtain ⟨rfl, rfl⟩ := h
              obtain ⟨cells, hc, hlen, rfl⟩ := loadS_get hl
              have hcell : ∀ j, j < sz → ∃ q, cells[off + j]? = some q ∧ w.cell? ⟨b, off + j, none⟩ = some ((w.cell? ⟨b, off + j, none⟩).getD default) ∧ RepP w Im β q ((w.cell? ⟨b, off + j, none⟩).getD default) := by
                intro j hj
                have hlt : off + j < cells.length := by omega
                obtain ⟨v, h1, h2, _⟩ := hg.cell hb hc (List.getElem?_eq_getElem hlt)
                exact ⟨_, List.getElem?_eq_getElem hlt, by simp [h1], by simpa [h1] using h2⟩
              have hrun := loadCells_run (P := P) (w := w) (x := ⟨b, off, none⟩) rfl sz (fun j => (w.cell? ⟨b, off + j, none⟩).getD default) (fun j hj => by obtain ⟨q, _, h2, _⟩ := hcell j hj; exact h2)
              refine ⟨rfl, .agg ((List.range sz).map fun j => (w.cell? ⟨b, off + j, none⟩).getD default).toArray, by simp [Instr.loadAt, Instr.sureAddr, loadVar, har, szT_run hs, hrun], .agg _ _ (by simp; omega) (fun i q u hq hu => ?_), by simp⟩
              rw [List.map_take, List.map_drop, List.getElem?_take] at hq
              split at hq
              · rename_i hi
                rw [List.getElem?_drop, List.getElem?_map] at hq
                obtain ⟨q', g1, _, g3⟩ := hcell i hi
                rw [g1] at hq
                simp at hq
                subst hq
                simp [hi] at hu
                subst hu
                exact g3.strip1
              · cases hq
        | false =>
          simp only [Bool.false_eq_true, if_false] at h
          cases hl : loadS st.store id off 1 with
          | none => simp [hl] at h
          | some ps =>
            simp only [hl, Option.bind_some] at h
            split at h
            · rename_i c
              cases h
              obtain ⟨cells, hc, hlen, hps⟩ := loadS_get hl
              have hcc : cells[off]? = some c := by
                have : ([c] : List PV)[0]? = ((cells.drop off).take 1)[0]? := by rw [← hps]
                rw [List.getElem?_take] at this
                simpa using this.symm
              obtain ⟨v, h1, h2, _⟩ := hg.cell hb hc hcc
              exact ⟨rfl, v, by simp [Instr.loadAt, Instr.sureAddr, loadVar, har, h1], h2.strip, strip_not_os c⟩
            · cases h
    · rename_i cells
      cases hp with
      | ro _ x cv hsp hcell him hrep =>
        cases ag with
        | true =>
          simp only [if_true] at h
          cases hs : szT P t with
          | none => simp [hs] at h
          | some sz =>
            simp only [hs, Option.bind_some] at h
            split at h
            · rename_i hl
              cases h
              have hrun := loadCells_run (P := P) (w := w) hsp sz cv (fun j hj => hcell j (by omega))
              refine ⟨rfl, .agg ((List.range sz).map cv).toArray, by simp [Instr.loadAt, Instr.sureAddr, loadVar, har, szT_run hs, hrun], .agg _ _ (by simp; omega) (fun i q u hq hu => ?_), by simp⟩
              rw [List.getElem?_map, List.getElem?_take] at hq
              split at hq
              · rename_i hi
                cases hx : cells[i]? with
                | none => simp [hx] at hq
                | some y =>
                  simp [hx] at hq
                  subst hq
                  simp [hi] at hu
                  subst hu
                  exact .d (hrep i y hx)
              · simp at hq
            · cases h
        | false =>
          simp at h
          obtain ⟨c, hc, rfl, rfl⟩ := h
          have hlt : 0 < cells.length := (List.getElem?_eq_some_iff.1 hc).1
          have h0 := hcell 0 hlt
          simp only [Nat.add_zero] at h0
          have hx : (⟨x.block, x.off, none⟩ : Addr) = x := by cases x; simp_all
          rw [hx] at h0
          exact ⟨rfl, cv 0, by simp [Instr.loadAt, Instr.sureAddr, loadVar, har, h0], .d (hrep 0 c hc), by simp⟩
    · cases h
theorem load_step (hI : Inv w Im O β st a) {o : Oper} {t : TypeId} {x : Operand} {p : PV} {g : PV × Store} (ho : o.op = .load t x) (hx : use (rd st.slots) x = some p) {take : Bool}
    (htake : take = true → ∃ d, o.dst = some d) (h : loadAs P t st.store take p = some g) : OpOk P w Im O β a o { slots := putS (untake st.slots none) o.dst g.1, store := g.2 } := by
  have hp := use_rep hI.reps hx
  cases take with
  | false =>
    obtain ⟨r, σ'⟩ := g
    obtain ⟨rfl, u, h1, h2, h3⟩ := load_run (P := P) hI.good hp h
    exact .value (Im' := Im) (O' := O) (β' := β) (by simp only [execOp, ho, Sem.run_bind, h1, Result.andThen_ok]; rfl) (.refl _ _ _) (.refl β) ⟨hI.good, hI.slots.put h2 (fun d _ => .of_not h3)⟩
  | true =>
    obtain ⟨d, hd⟩ := htake rfl
    unfold loadAs at h
    cases ha : aggT P t with
    | none => simp [ha] at h
    | some ag =>
      simp only [ha, Option.bind_some] at h
      have har := aggT_run ha w
      split at h
      · rename_i id off
        cases ag with
        | true =>
          have h' : loadAs P t st.store false (.ptr id off) = some g := by
            unfold loadAs
            simp only [ha, Option.bind_some]
            exact h
          obtain ⟨r, σ'⟩ := g
          obtain ⟨rfl, u, h1, h2, h3⟩ := load_run (P := P) hI.good hp h'
          exact .value (Im' := Im) (O' := O) (β' := β) (by simp only [execOp, ho, Sem.run_bind, h1, Result.andThen_ok]; rfl) (.refl _ _ _) (.refl β) ⟨hI.good, hI.slots.put h2 (fun d _ => .of_not h3)⟩
        | false =>
          simp only [Bool.false_eq_true, if_false] at h
          cases hl : loadS st.store id off 1 with
          | none => simp [hl] at h
          | some ps =>
            simp only [hl, Option.bind_some] at h
            split at h
            · rename_i c
              simp only [if_true] at h
              cases hst : storeS st.store id off [c.strip1] with
              | none => simp [hst] at h
              | some σ' =>
                simp [hst] at h
                subst h
                obtain ⟨cells, hc, hlen, hps⟩ := loadS_get hl
                have hcc : cells[off]? = some c := by
                  have : ([c] : List PV)[0]? = ((cells.drop off).take 1)[0]? := by rw [← hps]
                  rw [List.getElem?_take] at this
                  simpa using this.symm
                generalize hv : a.eval x = v at hp
                cases hp with
                | ptr _ _ b hb =>
                  obtain ⟨u, h1, h2, h3, h4⟩ := hI.good.cell hb hc hcc
                  obtain ⟨g1, cs, e, g2, g3, g4⟩ := hI.good.box id b cells hb hc
                  have hσ : σ' = st.store.set id (cells.set off c.strip1) := by
                    unfold storeS at hst
                    simp only [hc, Option.bind_some] at hst
                    split at hst
                    · rename_i hle
                      cases hst
                      congr 1
                      apply List.ext_getElem?
                      intro j
                      simp only [List.length_cons, List.length_nil] at hle
                      rw [List.getElem?_set]
                      by_cases hj : off = j
                      · subst hj
                        rw [if_pos rfl, List.append_assoc, List.getElem?_append_right (by simp; omega)]
                        simp
                        rw [show off - min off cells.length = 0 by omega, if_pos (by omega)]
                        simp
                      · rw [if_neg hj, List.append_assoc]
                        by_cases hj2 : j < off
                        · rw [List.getElem?_append_left (by simp; omega), List.getElem?_take, if_pos hj2]
                        · rw [List.getElem?_append_right (by simp; omega), List.getElem?_append_right (by simp; omega), List.getElem?_drop]
                          congr 1
                          simp
                          omega
                    · cases hst
                  have hup := Good.update (w' := w) (O' := retag O (.cell id off) (.slot d)) (cells' := cells.set off c.strip1) (cs' := cs) (e := e) hI.good hb hc rfl (fun _ _ => rfl) g2 (by simp [g3])
                    (fun k id' hk => by unfold retag; rw [if_neg (by rw [hk]; simp)]; exact hk)
                    (fun k id' j hk hne => by unfold retag; rw [if_neg (by rw [hk]; simp; intro he; exact absurd he hne)]; exact hk)
                    (fun k id' hk => by unfold retag at hk; split at hk <;> first | (simp at hk; done) | exact hk)
                    (fun k hk => fun hn => hk (retag_none.2 hn))
                    (fun _ j q u' hq hu' => by
                      rw [List.getElem?_set] at hq
                      split at hq
                      · rename_i hj
                        subst hj
                        split at hq
                        · cases hq
                          obtain ⟨k1, k2, k3⟩ := g4 off c u' hcc hu'
                          refine ⟨k1.strip1, .of_not (fun rows => by cases c <;> simp [PV.strip1]), ?_⟩
                          exact trivial
                        · cases hq
                      · rename_i hj
                        obtain ⟨k1, k2, k3⟩ := g4 j q u' hq hu'
                        exact ⟨k1, k2.retag (by simp; intro he; exact hj he.symm), k3⟩)
                  rw [hσ]
                  refine .value (v := u) (Im' := Im) (O' := retag O (.cell id off) (.slot d)) (β' := β) (by simp [execOp, ho, hv, Instr.loadAt, Instr.sureAddr, loadVar, har, h1]) (.retag _ _ _ _ _) (.refl β) ⟨hup.1, ?_⟩
                  have hs : Slots w Im (retag O (.cell id off) (.slot d)) β st.slots a.tmps := ⟨hI.slots.len, fun i p u hp hu => by
                    obtain ⟨k1, k2⟩ := hI.slots.rep i p u hp hu
                    exact ⟨k1, k2.retag (by simp)⟩⟩
                  rw [hd]
                  show Slots w Im _ β (putS st.slots (some d) c) (a.put (some d) u).tmps
                  exact hs.put h2 (fun d' hd' => by cases hd'; exact h3.moved)
            · cases h
      · rename_i cells
        have h' : loadAs P t st.store false (.ro cells) = some g := by
          unfold loadAs
          simp only [ha, Option.bind_some]
          exact h
        obtain ⟨r, σ'⟩ := g
        obtain ⟨rfl, u, h1, h2, h3⟩ := load_run (P := P) hI.good hp h'
        exact .value (Im' := Im) (O' := O) (β' := β) (by simp only [execOp, ho, Sem.run_bind, h1, Result.andThen_ok]; rfl) (.refl _ _ _) (.refl β) ⟨hI.good, hI.slots.put h2 (fun d _ => .of_not h3)⟩
      · cases h
end step
end Go.Pv

namespace Go.Pv
open Go
section step
variable {P : Program} {w : World} {Im : ImT} {O : OwT} {β : List Nat} {st : St} {a : Act}
theorem RepD.oneCell {x : DV} {v : Value} (h : RepD w Im x v) : v.oneCell' = true := by cases h <;> rfl
theorem oneP_cell {p : PV} {v : Value} (h : RepP w Im β p v) (ho : oneP p = true) : v.oneCell' = true := by
  cases h <;> simp [oneP] at ho <;> first | rfl | (rename_i h; exact h.oneCell)
theorem store_step (hI : Inv w Im O β st a) {o : Oper} {t : TypeId} {ax x : Operand} {p v : PV} {σ' : Store} (ho : o.op = .store t ax x) (hax : use (rd st.slots) ax = some p)
    (hx : opv (rd st.slots) x = some v) {lo : Bool} (h : storeAs P lo t st.store p v = some σ') : OpOk P w Im O β a o { slots := putS (untake st.slots (slotOf x)) o.dst .undef, store := σ' } := by
  have hp := use_rep hI.reps hax
  have hv := opv_rep hI.reps hx
  unfold storeAs at h
  split at h
  · rename_i id off
    generalize hcs : storedCells v = cs at h
    split at h
    · rename_i hcond
      obtain ⟨hsz, hbel, hone⟩ := hcond
      unfold storeS at h
      cases hc : st.store[id]? with
      | none => simp [hc] at h
      | some cells =>
        simp only [hc, Option.bind_some] at h
        split at h
        · rename_i hfit
          cases h
          generalize hpv : a.eval ax = pv at hp
          cases hp with
          | ptr _ _ b hb =>
            obtain ⟨g1, cs0, e, g2, g3, g4⟩ := hI.good.box id b cells hb hc
            -- the value's cells
            have hrep : RepCells w Im β cs (a.eval x).cells ∧ (∀ q ∈ cs, ∀ rows, q = .os rows → ∃ rows, v = .os rows) := by
              have hcr := cellsOf_rep hv
              cases v with
              | agg l =>
                simp only [storedCells] at hcs
                subst hcs
                refine ⟨⟨by simpa [cellsOf] using hcr.1, fun i q u hq hu => ?_⟩, ?_⟩
                · rw [List.getElem?_map] at hq
                  cases hl : l[i]? with
                  | none => simp [hl] at hq
                  | some q' => simp [hl] at hq; subst hq; exact (hcr.2 i q' u hl hu).keep0
                · intro q hq rows hr
                  obtain ⟨q', _, rfl⟩ := List.mem_map.1 hq
                  cases q' <;> simp [PV.keep0] at hr
              | _ =>
                simp only [storedCells] at hcs
                subst hcs
                refine ⟨hcr, ?_⟩
                intro q hq rows hr
                simp at hq
                subst hq
                exact ⟨rows, hr⟩
            obtain ⟨hrc, hos⟩ := hrep
            have hlen : (a.eval x).cells.toList.length = cs.length := by simp [hrc.1]
            have hones : ∀ u ∈ (a.eval x).cells.toList, u.oneCell' = true := by
              intro u hu
              obtain ⟨i, hi⟩ := List.mem_iff_getElem?.1 hu
              have hil : i < cs.length := by rw [← hlen]; exact (List.getElem?_eq_some_iff.1 hi).1
              exact oneP_cell (hrc.2 i _ u (List.getElem?_eq_getElem hil) (by simpa using hi)) (List.all_eq_true.1 hone _ (List.getElem_mem hil))
            have hrun := run_storeCells_at P b off e (a.eval x).cells.toList 0 cs0 w g2 (by rw [hlen]; omega) hones
            simp only [Nat.add_zero] at hrun
            have hall : (Instr.storeAt t (a.eval ax) (a.eval x)).run P w = .ok () (w.setRow b (cs0.toList.take off ++ (a.eval x).cells.toList ++ cs0.toList.drop (off + (a.eval x).cells.toList.length)).toArray) := by
              rw [hpv]
              simp only [Instr.storeAt, Instr.sureAddr, storeVar, Sem.run_bind, Sem.run_pure, Result.andThen_ok, szT_run hsz]
              rw [if_neg (by simp [hrc.1])]
              exact hrun
            generalize hnews : (a.eval x).cells.toList = news at hall hlen hones
            have hnget : ∀ (i : Nat) (q : PV) (u : Value), cs[i]? = some q → news[i]? = some u → RepP w Im β q u := by
              intro i q u hq hu
              exact hrc.2 i q u hq (by rw [← hnews] at hu; simpa using hu)
            -- whose the spare room is now
            let O' : OwT := match slotOf x with | some s => retag O (.slot s) (.cell id off) | none => O
            have hO1 : ∀ k l, O k = some l → (∀ s, l ≠ .slot s) → O' k = some l := by
              intro k l hk hl
              show (match slotOf x with | some s => retag O (.slot s) (.cell id off) | none => O) k = some l
              cases slotOf x with
              | none => exact hk
              | some s => simp only [retag]; rw [if_neg (by rw [hk]; simpa using hl s)]; exact hk
            have hO2 : ∀ k id', O' k = some (.box id') → O k = some (.box id') := by
              intro k id' hk
              replace hk : (match slotOf x with | some s => retag O (.slot s) (.cell id off) | none => O) k = some (.box id') := hk
              cases hsx : slotOf x with
              | none => rw [hsx] at hk; exact hk
              | some s => rw [hsx] at hk; simp only [retag] at hk; split at hk <;> first | (simp at hk; done) | exact hk
            have hO3 : ∀ k, O' k ≠ none → O k ≠ none := by
              intro k hk hn
              apply hk
              show (match slotOf x with | some s => retag O (.slot s) (.cell id off) | none => O) k = none
              cases slotOf x with
              | none => exact hn
              | some s => exact retag_none.2 hn
            have hup := Good.update (w' := w.setRow b (cs0.toList.take off ++ news ++ cs0.toList.drop (off + news.length)).toArray) (O' := O') (cells' := cells.take off ++ cs ++ cells.drop (off + cs.length))
              (cs' := (cs0.toList.take off ++ news ++ cs0.toList.drop (off + news.length)).toArray) (e := e) hI.good hb hc (by simp) (fun k hk => setRow_other w b k _ hk) (setRow_heap w b cs0 _ e (0, 0) g2)
              (by simp; omega) (fun k id' hk => hO1 k _ hk (by simp)) (fun k id' j hk _ => hO1 k _ hk (by simp)) hO2 hO3
              (fun hk j q u hq hu => by
                have hkeep : ∀ {q : PV} {u : Value}, RepP w Im β q u → RepP (w.setRow b (cs0.toList.take off ++ news ++ cs0.toList.drop (off + news.length)).toArray) Im β q u := fun h => h.keep hk (fun _ _ h => h)
                have hlow : ∀ (j : Nat) (q : PV) (u : Value), cells[j]? = some q → cs0[j]? = some u →
                    RepP (w.setRow b (cs0.toList.take off ++ news ++ cs0.toList.drop (off + news.length)).toArray) Im β q u ∧
                    OwnP (w.setRow b (cs0.toList.take off ++ news ++ cs0.toList.drop (off + news.length)).toArray) Im O' (.cell id j) q u ∧ True := by
                  intro j q u hq hu
                  obtain ⟨k1, k2, k3⟩ := g4 j q u hq hu
                  exact ⟨hkeep k1, k2.mono fun k hk' => ⟨hO1 k _ hk' (by simp), setRow_other w b k _ (fun he => by rw [he, g1] at hk'; cases hk'), fun _ h => h⟩, k3⟩
                simp only [List.getElem?_toArray] at hu
                by_cases hj : j < off
                · rw [List.append_assoc, List.getElem?_append_left (by simp; omega), List.getElem?_take, if_pos hj] at hq
                  rw [List.append_assoc, List.getElem?_append_left (by simp; omega), List.getElem?_take, if_pos hj] at hu
                  exact hlow j q u hq (by simpa using hu)
                · by_cases hj2 : j < off + cs.length
                  · rw [List.append_assoc, List.getElem?_append_right (by simp; omega), List.getElem?_append_left (by simp; omega)] at hq
                    rw [List.append_assoc, List.getElem?_append_right (by simp; omega), List.getElem?_append_left (by simp; omega)] at hu
                    simp only [List.length_take] at hq hu
                    rw [show min off cells.length = off by omega] at hq
                    rw [show min off cs0.toList.length = off by simp; omega] at hu
                    refine ⟨hkeep (hnget _ q u hq hu), ?_, trivial⟩
                    by_cases hqo : ∃ rows, q = .os rows
                    · obtain ⟨rows, rfl⟩ := hqo
                      obtain ⟨rows', hvo⟩ := hos _ (List.mem_of_getElem? hq) rows rfl
                      subst hvo
                      simp only [storedCells] at hcs
                      subst hcs
                      simp at hj2
                      obtain rfl : j = off := by omega
                      simp at hq
                      subst hq
                      -- the value comes out of a slot
                      cases x with
                      | tmp s =>
                        simp [opv] at hx
                        have hown := (hI.slots.get s).2
                        rw [hx] at hown
                        have hue : u = a.tmps.getD s undef := by
                          have h1 : news[0]? = some u := by simpa using hu
                          rw [← hnews] at h1
                          have h2 : (a.eval (.tmp s)).cells = #[a.eval (.tmp s)] := by
                            have hr : RepP w Im β (.os rows') (a.eval (.tmp s)) := hv
                            generalize a.eval (.tmp s) = y at hr
                            cases hr with
                            | os h => cases h <;> rfl
                          rw [h2] at h1
                          simp at h1
                          exact h1.symm
                        subst hue
                        refine hown.mono fun k hk' => ⟨?_, setRow_other w b k _ (fun he => by rw [he, g1] at hk'; cases hk'), fun _ h => h⟩
                        show retag O (.slot s) (.cell id j) k = some (.cell id j)
                        unfold retag
                        rw [if_pos hk']
                      | const c => simp [opv] at hx; exact absurd rfl ((ofValue_rep (w := w) (Im := Im) (β := β) hx).2 rows')
                      | func f => simp [opv] at hx
                      | global c => simp [opv] at hx
                    · exact .of_not (fun rows hr => hqo ⟨rows, hr⟩)
                  · rw [List.getElem?_append_right (by simp; omega)] at hq
                    rw [List.getElem?_append_right (by simp; omega)] at hu
                    simp only [List.length_append, List.length_take, List.getElem?_drop] at hq hu
                    rw [show off + cs.length + (j - (min off cells.length + cs.length)) = j by omega] at hq
                    rw [show off + news.length + (j - (min off cs0.toList.length + news.length)) = j by simp; omega] at hu
                    exact hlow j q u hq (by simpa using hu))
            have hfr : Fr w Im O (w.setRow b (cs0.toList.take off ++ news ++ cs0.toList.drop (off + news.length)).toArray) Im O' :=
              ⟨⟨rfl, rfl, rfl⟩, by simp, fun k _ hn => setRow_other w b k _ (fun he => by rw [he, g1] at hn; cases hn), hup.2, fun _ _ h => .inl h, fun k _ hn => by
                cases hk : O' k with
                | none => rfl
                | some l => exact absurd hn (hO3 k (by rw [hk]; simp))⟩
            refine .skip (Im' := Im) (O' := O') (β' := β) (by simp only [execOp, ho, Sem.run_bind, hall, Result.andThen_ok]; rfl) hfr (.refl β) ⟨hup.1, ?_⟩
            have hs : Slots w Im O' β (untake st.slots (slotOf x)) a.tmps := by
              show Slots w Im (match slotOf x with | some s => retag O (.slot s) (.cell id off) | none => O) β (untake st.slots (slotOf x)) a.tmps
              cases slotOf x with
              | none => exact hI.slots
              | some s => exact hI.slots.untake s _
            refine Slots.put (a := a) ⟨hs.len, fun i q u hq hu => ?_⟩ .undef (fun d _ => .of_not (by simp))
            obtain ⟨k1, k2⟩ := hs.rep i q u hq hu
            refine ⟨k1.keep hup.2 (fun _ _ h => h), k2.mono fun k hk' => ⟨hk', setRow_other w b k _ (fun he => ?_), fun _ h => h⟩⟩
            rw [he, hO1 b _ g1 (by simp)] at hk'
            cases hk'
        · cases h
    · cases h
  · cases h
theorem putCells_ok (hI : Inv w Im O β st a) {id b off : Nat} {cells cs : List PV} {news : List Value} (hb : β[id]? = some b) (hc : st.store[id]? = some cells) (hfit : off + cs.length ≤ cells.length)
    (hlen : news.length = cs.length) (hrep : ∀ (i : Nat) (q : PV) (u : Value), cs[i]? = some q → news[i]? = some u → RepP w Im β q u) (hno : ∀ q ∈ cs, ∀ rows, q ≠ .os rows) (hone : ∀ u ∈ news, u.oneCell' = true) :
    ∃ w', (storeCells ⟨b, off, none⟩ news).run P w = .ok () w' ∧ Fr w Im O w' Im O ∧ Inv w' Im O β ⟨st.slots, st.store.set id (cells.take off ++ cs ++ cells.drop (off + cs.length))⟩ a := by
  obtain ⟨g1, cs0, e, g2, g3, g4⟩ := hI.good.box id b cells hb hc
  have hrun := run_storeCells_at P b off e news 0 cs0 w g2 (by omega) hone
  simp only [Nat.add_zero] at hrun
  have hup := Good.update (w' := w.setRow b (cs0.toList.take off ++ news ++ cs0.toList.drop (off + news.length)).toArray) (O' := O) (cells' := cells.take off ++ cs ++ cells.drop (off + cs.length))
    (cs' := (cs0.toList.take off ++ news ++ cs0.toList.drop (off + news.length)).toArray) (e := e) hI.good hb hc (by simp) (fun k hk => setRow_other w b k _ hk) (setRow_heap w b cs0 _ e (0, 0) g2)
    (by simp; omega) (fun k id' hk => hk) (fun k id' j hk _ => hk) (fun k id' hk => hk) (fun k hk => hk)
    (fun hk j q u hq hu => by
      have hkeep : ∀ {q : PV} {u : Value}, RepP w Im β q u → RepP (w.setRow b (cs0.toList.take off ++ news ++ cs0.toList.drop (off + news.length)).toArray) Im β q u := fun h => h.keep hk (fun _ _ h => h)
      have hlow : ∀ (j : Nat) (q : PV) (u : Value), cells[j]? = some q → cs0[j]? = some u →
          RepP (w.setRow b (cs0.toList.take off ++ news ++ cs0.toList.drop (off + news.length)).toArray) Im β q u ∧
          OwnP (w.setRow b (cs0.toList.take off ++ news ++ cs0.toList.drop (off + news.length)).toArray) Im O (.cell id j) q u ∧ True := by
        intro j q u hq hu
        obtain ⟨k1, k2, k3⟩ := g4 j q u hq hu
        exact ⟨hkeep k1, k2.mono fun k hk' => ⟨hk', setRow_other w b k _ (fun he => by rw [he, g1] at hk'; cases hk'), fun _ h => h⟩, k3⟩
      simp only [List.getElem?_toArray] at hu
      by_cases hj : j < off
      · rw [List.append_assoc, List.getElem?_append_left (by simp; omega), List.getElem?_take, if_pos hj] at hq
        rw [List.append_assoc, List.getElem?_append_left (by simp; omega), List.getElem?_take, if_pos hj] at hu
        exact hlow j q u hq (by simpa using hu)
      · by_cases hj2 : j < off + cs.length
        · rw [List.append_assoc, List.getElem?_append_right (by simp; omega), List.getElem?_append_left (by simp; omega)] at hq
          rw [List.append_assoc, List.getElem?_append_right (by simp; omega), List.getElem?_append_left (by simp; omega)] at hu
          simp only [List.length_take] at hq hu
          rw [show min off cells.length = off by omega] at hq
          rw [show min off cs0.toList.length = off by simp; omega] at hu
          exact ⟨hkeep (hrep _ q u hq hu), .of_not (hno q (List.mem_of_getElem? hq)), trivial⟩
        · rw [List.getElem?_append_right (by simp; omega)] at hq
          rw [List.getElem?_append_right (by simp; omega)] at hu
          simp only [List.length_append, List.length_take, List.getElem?_drop] at hq hu
          rw [show off + cs.length + (j - (min off cells.length + cs.length)) = j by omega] at hq
          rw [show off + news.length + (j - (min off cs0.toList.length + news.length)) = j by simp; omega] at hu
          exact hlow j q u hq (by simpa using hu))
  refine ⟨_, hrun, ⟨⟨rfl, rfl, rfl⟩, by simp, fun k _ hn => setRow_other w b k _ (fun he => by rw [he, g1] at hn; cases hn), hup.2, fun _ _ h => .inl h, fun k _ hn => hn⟩, hup.1, ?_⟩
  refine ⟨hI.slots.len, fun i q u hq hu => ?_⟩
  obtain ⟨k1, k2⟩ := hI.slots.rep i q u hq hu
  exact ⟨k1.keep hup.2 (fun _ _ h => h), k2.mono fun k hk' => ⟨hk', setRow_other w b k _ (fun he => by rw [he, g1] at hk'; cases hk'), fun _ h => h⟩⟩
end step
end Go.Pv

namespace Go.Pv
open Go
section step
variable {P : Program} {w : World} {Im : ImT} {O : OwT} {β : List Nat} {st : St} {a : Act}
theorem rowsOk_len {sz : Nat} {rows : List (List DV)} (h : rowsOk sz rows = true) : ∀ r ∈ rows, r.length = sz := by
  intro r hr
  have := List.all_eq_true.1 h r hr
  simpa using this
theorem pos_lt {rows : List (List DV)} {sz i j : Nat} {r : List DV} {x : DV} (hl : ∀ r ∈ rows, r.length = sz) (hi : rows[i]? = some r) (hj : r[j]? = some x) :
    i * sz + j < rows.length * sz := by
  have h1 : i < rows.length := (List.getElem?_eq_some_iff.1 hi).1
  have h2 : j < sz := by rw [← hl r (List.mem_of_getElem? hi)]; exact (List.getElem?_eq_some_iff.1 hj).1
  have := Nat.mul_le_mul_right sz (show i + 1 ≤ rows.length from h1)
  rw [Nat.add_mul, Nat.one_mul] at this
  omega
theorem pos_split {rows : List (List DV)} {sz k : Nat} (hl : ∀ r ∈ rows, r.length = sz) (hk : k < rows.length * sz) :
    ∃ i j r x, rows[i]? = some r ∧ r[j]? = some x ∧ k = i * sz + j := by
  have hsz : 0 < sz := Nat.pos_of_ne_zero (fun h => by subst h; simp at hk)
  have hi : k / sz < rows.length := Nat.div_lt_of_lt_mul (by rw [Nat.mul_comm]; exact hk)
  have hr : (rows[k / sz]).length = sz := hl _ (List.getElem_mem hi)
  have hj : k % sz < (rows[k / sz]).length := by rw [hr]; exact Nat.mod_lt _ hsz
  exact ⟨k / sz, k % sz, _, _, List.getElem?_eq_getElem hi, List.getElem?_eq_getElem hj, by rw [Nat.mul_comm]; exact (Nat.div_add_mod k sz).symm⟩
theorem rows_values {rows : List (List DV)} {y : Option Addr} {m c sz : Nat} (h : RepD w Im (.slice rows) (.slice y m c)) (hok : rowsOk sz rows = true) :
    m = rows.length ∧ m ≤ c ∧ (y = none → rows = [] ∧ c = 0) ∧ ∃ news : List Value, news.length = m * sz ∧ (∀ x, y = some x → ∀ j u, news[j]? = some u → w.cell? (x.add j) = some u) ∧
      (∀ x, y = some x → m * sz ≠ 0 → x.spot = none) ∧ (∀ x, y = some x → ∀ j, j < m * sz → Im x.block (x.off + j)) ∧
      (∀ i j r d, rows[i]? = some r → r[j]? = some d → ∃ u, news[i * sz + j]? = some u ∧ RepD w Im d u) ∧ ∀ u ∈ news, u.oneCell' = true := by
  have hl := rowsOk_len hok
  cases h with
  | nil => exact ⟨rfl, Nat.le_refl _, fun _ => ⟨rfl, rfl⟩, [], by simp, by simp, by simp, by simp, by simp, by simp⟩
  | slice _ x c sz' cv hlen hcap hsp hcell him hrep =>
    have hsz : rows.length * sz = rows.length * sz' := by
      cases rows with
      | nil => simp
      | cons r rs => rw [← hl r (by simp), hlen r (by simp)]
    have hsame : ∀ i r, rows[i]? = some r → sz = sz' := fun i r hi => by rw [← hl r (List.mem_of_getElem? hi), hlen r (List.mem_of_getElem? hi)]
    refine ⟨rfl, hcap, by simp, (List.range (rows.length * sz)).map cv, by simp, ?_, ?_, ?_, ?_, ?_⟩
    · intro x' hx' j u hu
      cases hx'
      rw [List.getElem?_map] at hu
      have hj : j < rows.length * sz := by
        rcases Nat.lt_or_ge j (rows.length * sz) with h | h
        · exact h
        · rw [List.getElem?_eq_none (by simpa using h)] at hu; simp at hu
      rw [List.getElem?_range hj] at hu
      simp at hu
      subst hu
      rw [Addr.add_none (hsp (by omega))]
      exact hcell j (by omega)
    · intro x' hx' hne
      cases hx'
      exact hsp (by omega)
    · intro x' hx' j hj
      cases hx'
      exact him j (by omega)
    · intro i j r d hi hj
      have hp := pos_lt hl hi hj
      refine ⟨cv (i * sz + j), by rw [List.getElem?_map, List.getElem?_range hp]; rfl, ?_⟩
      rw [hsame i r hi]
      exact hrep i j r d hi hj
    · intro u hu
      obtain ⟨k, hk, rfl⟩ := List.mem_map.1 hu
      obtain ⟨i, j, r, d, hi, hj, rfl⟩ := pos_split hl (List.mem_range.1 hk)
      rw [hsame i r hi]
      exact (hrep i j r d hi hj).oneCell
theorem acc_repP {rows : List (List DV)} {v : Value} (h : RepD w Im (.slice rows) v) (hne : rows ≠ []) : RepP w Im β (acc rows) v := by
  cases rows with
  | nil => exact absurd rfl hne
  | cons r rs => exact .os h
theorem rowsOk_append {sz : Nat} {a b : List (List DV)} (ha : rowsOk sz a = true) (hb : rowsOk sz b = true) : rowsOk sz (a ++ b) = true := by
  unfold rowsOk at *
  rw [List.all_append, ha, hb]; rfl
theorem grown_rep {rs xs : List (List DV)} {sz : Nat} (hin : ImIn w Im) (h1 : rowsOk sz rs = true) (h2 : rowsOk sz xs = true) (olds news rest : List Value) (e : TypeId) (cap : Nat)
    (hlo : olds.length = rs.length * sz) (hln : news.length = xs.length * sz) (hcap : rs.length + xs.length ≤ cap)
    (ho : ∀ i j r d, rs[i]? = some r → r[j]? = some d → ∃ u, olds[i * sz + j]? = some u ∧ RepD w Im d u)
    (hn : ∀ i j r d, xs[i]? = some r → r[j]? = some d → ∃ u, news[i * sz + j]? = some u ∧ RepD w Im d u) :
    let w' := w.drew.alloc (.cells (olds ++ news ++ rest).toArray e)
    let Im' : ImT := fun b o => Im b o ∨ (b = w.heap.size ∧ o < (rs.length + xs.length) * sz)
    RepD w' Im' (.slice (rs ++ xs)) (.slice (some ⟨w.heap.size, 0, none⟩) (rs.length + xs.length) cap) ∧ NewW w w' ∧
      (∀ b o, Im' b o → Im b o ∨ (w.heap.size ≤ b ∧ ∃ u, w'.cell? ⟨b, o, none⟩ = some u)) := by
  intro w' Im'
  have hw : NewW w w' := (NewW.alloc w.drew _).drew
  have hk : Keep w Im w' Im' := fun b o hb => ⟨.inl hb, ((hw.keep hin) b o hb).2⟩
  have hcl : ∀ j, w'.cell? ⟨w.heap.size, j, none⟩ = (olds ++ news ++ rest)[j]? := by
    intro j
    have := World.cell?_alloc_new w.drew (olds ++ news ++ rest).toArray e j
    simp only [World.size_drew, List.getElem?_toArray] at this
    exact this
  have hmul : (rs.length + xs.length) * sz = olds.length + news.length := by rw [Nat.add_mul, hlo, hln]
  refine ⟨?_, hw, fun b o hb => ?_⟩
  · rw [← List.length_append]
    refine .slice (rs ++ xs) ⟨w.heap.size, 0, none⟩ cap sz (fun j => (olds ++ news ++ rest).getD j default) (rowsOk_len (rowsOk_append h1 h2)) (by simpa using hcap) (fun _ => rfl) ?_ ?_ ?_
    · intro j hj
      rw [List.length_append, hmul] at hj
      simp only [Nat.zero_add]
      rw [hcl, List.getElem?_eq_getElem (by simp; omega)]
      simp [List.getD, show j < olds.length + (news.length + rest.length) by omega]
    · intro j hj
      rw [List.length_append] at hj
      exact .inr ⟨rfl, by simpa using hj⟩
    · intro i j r d hi hj
      by_cases hil : i < rs.length
      · rw [List.getElem?_append_left hil] at hi
        obtain ⟨u, g1, g2⟩ := ho i j r d hi hj
        have hlt := pos_lt (rowsOk_len h1) hi hj
        have : (olds ++ news ++ rest).getD (i * sz + j) default = u := by
          rw [List.getD_eq_getElem?_getD, List.append_assoc, List.getElem?_append_left (by omega), g1]; rfl
        rw [this]
        exact g2.keep hk
      · rw [List.getElem?_append_right (by omega)] at hi
        obtain ⟨u, g1, g2⟩ := hn (i - rs.length) j r d hi hj
        have hlt := pos_lt (rowsOk_len h2) hi hj
        have hpos : i * sz + j = olds.length + ((i - rs.length) * sz + j) := by
          have : i * sz = rs.length * sz + (i - rs.length) * sz := by rw [← Nat.add_mul]; congr 1; omega
          omega
        have : (olds ++ news ++ rest).getD (i * sz + j) default = u := by
          rw [List.getD_eq_getElem?_getD, List.append_assoc, hpos, List.getElem?_append_right (by omega), Nat.add_sub_cancel_left, List.getElem?_append_left (by omega), g1]; rfl
        rw [this]
        exact g2.keep hk
  · rcases hb with hb | ⟨rfl, hb⟩
    · exact .inl hb
    · refine .inr ⟨Nat.le_refl _, (olds ++ news ++ rest).getD o default, ?_⟩
      rw [hcl, List.getElem?_eq_getElem (by simp; omega)]
      simp [List.getD, show o < olds.length + (news.length + rest.length) by omega]
theorem own_new {σ : Store} {w' : World} {Im' : ImT} {tmps : Array Value} {slots : List PV} (hg : Good w' Im' O β σ) (hs : Slots w' Im' O β slots tmps) (hf : Fr w Im O w' Im' O) (l : Loc) (hl : ∀ id, l ≠ .box id)
    (hno : O w.heap.size = none) (hlt : w.heap.size < w'.heap.size) :
    let O' : OwT := fun b => if b = w.heap.size then some l else O b
    Good w' Im' O' β σ ∧ Slots w' Im' O' β slots tmps ∧ Fr w Im O w' Im' O' := by
  intro O'
  have hO' : ∀ (b : Nat) (l' : Loc), O b = some l' → O' b = some l' := by
    intro b l' hb
    show (if b = w.heap.size then some l else O b) = some l'
    rw [if_neg (fun h => by subst h; rw [hno] at hb; cases hb)]
    exact hb
  refine ⟨⟨hg.len, ?_, hg.im, ?_, ?_⟩, ⟨hs.len, fun i p u hp hu => ?_⟩, ⟨hf.env, hf.size, hf.same, hf.keep, hf.new, fun b hb ho => ?_⟩⟩
  · intro id b cells hb hc
    obtain ⟨h1, cs, e, h2, h3, h4⟩ := hg.box id b cells hb hc
    refine ⟨hO' _ _ h1, cs, e, h2, h3, fun j p v hp hv => ?_⟩
    obtain ⟨k1, k2, k3⟩ := h4 j p v hp hv
    exact ⟨k1, k2.mono fun b hb => ⟨hO' _ _ hb, rfl, fun _ h => h⟩, k3⟩
  · intro b o hb id ho
    replace ho : (if b = w.heap.size then some l else O b) = some (.box id) := ho
    split at ho
    · simp at ho; exact hl id ho
    · exact hg.box' b o hb id ho
  · intro b hb
    replace hb : (if b = w.heap.size then some l else O b) ≠ none := hb
    split at hb
    · rename_i h; rw [h]; exact hlt
    · exact hg.lim b hb
  · obtain ⟨k1, k2⟩ := hs.rep i p u hp hu
    exact ⟨k1, k2.mono fun b hb => ⟨hO' _ _ hb, rfl, fun _ h => h⟩⟩
  · show (if b = w.heap.size then some l else O b) = none
    rw [if_neg (by omega)]
    exact ho
theorem slots_untake_same (hs : Slots w Im O β st.slots a.tmps) (x : Operand) : Slots w Im O β (untake st.slots (slotOf x)) a.tmps := by
  cases hx : slotOf x with
  | none => exact hs
  | some s =>
    refine ⟨by simp [untake, hs.len], fun i p u hp hu => ?_⟩
    simp only [untake] at hp
    rw [List.getElem?_set] at hp
    split at hp
    · rename_i hsi
      subst hsi
      split at hp
      · cases hp
        have := (hs.get s).1
        have hts : a.tmps.getD s undef = u := by rw [Array.getD_eq_getD_getElem?, hu]; rfl
        rw [hts] at this
        exact ⟨this.strip, .of_not (strip_not_os _)⟩
      · cases hp
    · exact hs.rep i p u hp hu
theorem append_core (hI : Inv w Im O β st a) {t : TypeId} {s x : Operand} {sv xv r : PV} (hs : opv (rd st.slots) s = some sv) (hx : use (rd st.slots) x = some xv) (h : evAppend P t sv xv = some r)
    (ty : TypeId) (l : Loc) (hl : ∀ id, l ≠ .box id) (hl2 : ∀ id j, l ≠ .cell id j) :
    ∃ v w' Im' O', (Builtin.append_ #[t, t] ty #[a.eval s, a.eval x]).run P w = .ok v w' ∧ Fr w Im O w' Im' O' ∧ Good w' Im' O' β st.store ∧
      Slots w' Im' O' β (untake st.slots (slotOf s)) a.tmps ∧ RepP w' Im' β r v ∧ OwnP w' Im' O' l r v := by
  unfold evAppend appT at h
  cases hu : P.underlying t with
  | none => simp [hu] at h
  | some ud =>
  cases ud <;> simp only [hu] at h <;> try (simp at h; done)
  rename_i e
  cases hie : P.info? e with
  | none => simp [hie] at h
  | some ie =>
  simp only [hie] at h
  split at h
  case isFalse => simp at h
  rename_i hcond
  obtain ⟨hpos, hby, hz⟩ := hcond
  simp only [Option.bind_some] at h
  cases hrs : ownRows sv with
  | none => simp [hrs] at h
  | some rs =>
  cases hxs : elemsOf xv with
  | none => simp [hrs, hxs] at h
  | some xs =>
  simp only [hrs, hxs, Option.bind_some] at h
  split at h
  case isFalse => cases h
  rename_i hc
  cases h
  simp only [Bool.and_eq_true, decide_eq_true_eq] at hc
  obtain ⟨⟨hok1, hok2⟩, hroom⟩ := hc
  obtain ⟨z, hz1, hz2⟩ : ∃ z, ie.zero = some z ∧ z.cells.size = ie.size := by
    cases hz0 : ie.zero with
    | none => simp [hz0] at hz
    | some z => simp [hz0] at hz; exact ⟨z, rfl, hz⟩
  have hxD : RepD w Im (.slice xs) (a.eval x) := by
    have := use_rep hI.reps hx
    cases xv <;> simp [elemsOf] at hxs
    rename_i dx
    cases dx <;> simp at hxs
    subst hxs
    exact this.slice_inv
  obtain ⟨y, cx, hxv, hcx⟩ := hxD.slice_form
  rw [hxv] at hxD ⊢
  obtain ⟨_, _, hyn, news, n1, n2, _, _, n5, n6⟩ := rows_values hxD hok2
  -- what is appended to
  have hS : ∃ A c, a.eval s = .slice A rs.length c ∧ RepD w Im (.slice rs) (.slice A rs.length c) ∧ ((A = none → c = 0)) ∧
      (c = rs.length ∨ ∃ g cs ce, A = some g ∧ g.spot = none ∧ rs ≠ [] ∧ w.heap[g.block]? = some (.cells cs ce (0, 0)) ∧ g.off + c * ie.size ≤ cs.size ∧ (∀ o, Im g.block o → o < g.off + rs.length * ie.size) ∧
        ∃ k, s = .tmp k ∧ O g.block = some (.slot k)) := by
    have hsp := opv_rep hI.reps hs
    cases sv <;> simp [ownRows] at hrs
    · subst hrs
      generalize a.eval s = vs at hsp
      cases hsp with
      | e0 A =>
        refine ⟨A, 0, rfl, ?_, fun _ => rfl, .inl rfl⟩
        cases A with
        | none => exact .nil
        | some b => exact .slice [] b 0 0 (fun _ => default) (by simp) (by simp) (by simp) (by simp) (by simp) (by simp)
    · rename_i rows
      cases rows with
      | nil => simp at hrs
      | cons r0 rs0 =>
        simp at hrs
        subst hrs
        have hD : RepD w Im (.slice (r0 :: rs0)) (a.eval s) := by cases hsp with | os h => exact h
        obtain ⟨A, c, hv, hcap⟩ := hD.slice_form
        rw [hv] at hD
        have hnone : A = none → c = 0 := fun hA => ((rows_values hD hok1).2.2.1 hA).2
        refine ⟨A, c, hv, hD, hnone, ?_⟩
        cases s with
        | tmp k =>
          simp [opv] at hs
          have hown := (hI.slots.get k).2
          rw [hs] at hown
          have hv' : a.tmps.getD k undef = .slice A (r0 :: rs0).length c := hv
          rw [hv'] at hown
          rcases hown _ rfl with ⟨a1, n1', he⟩ | ⟨g, n', c', sz', cs, ce, he, g2, g3, g4, g5, g6, g7, g8⟩
          · cases he; exact .inl rfl
          · cases he
            have hsz : sz' = ie.size := by rw [← g6 r0 (by simp), rowsOk_len hok1 r0 (by simp)]
            subst hsz
            exact .inr ⟨g, cs, ce, rfl, g2, by simp, g4, g7, g8, k, rfl, g3⟩
        | const cv => simp [opv] at hs; exact absurd rfl ((ofValue_rep (w := w) (Im := Im) (β := β) hs).2 _)
        | func f => simp [opv] at hs
        | global f => simp [opv] at hs
  obtain ⟨A, c, hsv, hsD, hAn, hcase⟩ := hS
  rw [hsv]
  obtain ⟨_, hle, hAe, olds, o1, o2, o3, _, o5, o6⟩ := rows_values hsD hok1
  have hrb : (rs.length + xs.length) * ie.bytes ≤ 140737488355328 := Nat.le_trans hroom (by unfold roomB; decide)
  have hsmall : rs.length + xs.length ≤ 140737488355328 := Nat.le_trans (Nat.le_mul_of_pos_right _ hby) hrb
  by_cases hfit : rs.length + xs.length ≤ c
  · -- there is room
    rcases hcase with hc0 | ⟨g, cs, ce, rfl, g2, gne, g4, g7, g8, k, rfl, gO⟩
    · -- nothing is appended
      have hx0 : xs = [] := List.eq_nil_of_length_eq_zero (by omega)
      subst hx0
      have hf : (Builtin.firstCells ie.size 0 (.slice y 0 cx)).run P w = .ok #[] w := by
        cases y with
        | none => simp [Builtin.firstCells]
        | some b => simp [Builtin.firstCells, loadCells, loadCellsFrom]
      refine ⟨.slice A rs.length c, w, Im, O, ?_, .refl _ _ _, hI.good, slots_untake_same hI.slots s, ?_, ?_⟩
      · have hnle : rs.length ≤ c := by omega
        cases A with
        | none => simp [Builtin.append_, run_underlying hu, sizeOf, typeInfo, hie, Builtin.lenOf, hnle, hf]
        | some b => simp [Builtin.append_, run_underlying hu, sizeOf, typeInfo, hie, Builtin.lenOf, hnle, hf, storeCells]
      · rw [List.append_nil]
        cases rs with
        | nil =>
          obtain rfl : c = 0 := by simpa using hc0
          exact .e0 _
        | cons r0 rs0 => exact .os hsD
      · rw [hc0]
        exact acc_own
    · -- in place
      have hfc : (Builtin.firstCells ie.size xs.length (.slice y xs.length cx)).run P w = .ok news.toArray w := by
        cases y with
        | none =>
          have : news = [] := List.eq_nil_of_length_eq_zero (by rw [n1, (hyn rfl).1]; simp)
          rw [this]; simp [Builtin.firstCells]
        | some b => exact run_firstCells_some (P := P) w ie.size xs.length b xs.length cx news n1 (n2 b rfl)
      have hmul : (rs.length + xs.length) * ie.size = rs.length * ie.size + news.length := by rw [Nat.add_mul, n1]
      have hcm : (rs.length + xs.length) * ie.size ≤ c * ie.size := Nat.mul_le_mul_right _ hfit
      have hst := run_storeCells_at P g.block (g.off + rs.length * ie.size) ce news 0 cs w g4 (by omega) n6
      simp only [Nat.add_zero] at hst
      generalize hcs' : (cs.toList.take (g.off + rs.length * ie.size) ++ news ++ cs.toList.drop (g.off + rs.length * ie.size + news.length)).toArray = cs' at hst
      have hcs'sz : cs'.size = cs.size := by rw [← hcs']; simp; omega
      have hcs'in : ∀ j, j < news.length → cs'[g.off + rs.length * ie.size + j]? = news[j]? := by
        intro j hj
        rw [← hcs', List.getElem?_toArray, List.append_assoc, List.getElem?_append_right (by simp; omega), List.getElem?_append_left (by simp; omega)]
        congr 1
        simp
        omega
      have hcs'low : ∀ o, o < g.off + rs.length * ie.size → cs'[o]? = cs[o]? := by
        intro o ho
        rw [← hcs', List.getElem?_toArray, List.append_assoc, List.getElem?_append_left (by simp; omega), List.getElem?_take, if_pos ho]
        simp
      let w' := w.setRow g.block cs'
      let Im' : ImT := fun b o => Im b o ∨ (b = g.block ∧ g.off + rs.length * ie.size ≤ o ∧ o < g.off + rs.length * ie.size + news.length)
      have hk : Keep w Im w' Im' := by
        intro b o hb
        refine ⟨.inl hb, ?_⟩
        by_cases hbg : b = g.block
        · subst hbg
          show (w.setRow g.block cs').cell? ⟨g.block, o, none⟩ = w.cell? ⟨g.block, o, none⟩
          rw [cell_setRow_same w g.block o cs cs' ce (0, 0) g4, hcs'low o (g8 o hb)]
          simp [World.cell?, g4]
        · exact cell_setRow_other w g.block cs' _ hbg
      have hnb : ∀ b id, O b = some (.box id) → b ≠ g.block := fun b id hb he => by rw [he, gO] at hb; cases hb
      have hother : ∀ (loc : Loc) (p : PV) (v : Value), loc ≠ .slot k → OwnP w Im O loc p v → OwnP w' Im' (retag O (.slot k) l) loc p v := by
        intro loc p v hne ho
        refine ho.mono fun b hb => ⟨by unfold retag; rw [if_neg (by rw [hb]; simpa using hne)]; exact hb, setRow_other w g.block b cs' (fun he => ?_), fun o ho => ?_⟩
        · rw [he, gO] at hb; cases hb; exact hne rfl
        · rcases ho with ho | ⟨ho, _⟩
          · exact ho
          · rw [ho, gO] at hb; cases hb; exact absurd rfl hne
      have hgood : Good w' Im' (retag O (.slot k) l) β st.store := by
        refine ⟨hI.good.len, ?_, ?_, ?_, ?_⟩
        · intro id b cells hb hc
          obtain ⟨q1, cs0, e0, q2, q3, q4⟩ := hI.good.box id b cells hb hc
          refine ⟨by unfold retag; rw [if_neg (by rw [q1]; simp)]; exact q1, cs0, e0, (setRow_other w g.block b cs' (hnb b id q1)).trans q2, q3, fun j p v hp hv => ?_⟩
          obtain ⟨k1, k2, k3⟩ := q4 j p v hp hv
          exact ⟨k1.keep hk (fun _ _ h => h), hother _ _ _ (by simp) k2, k3⟩
        · intro b o hb
          rcases hb with hb | ⟨rfl, hb1, hb2⟩
          · obtain ⟨v, hv⟩ := hI.good.im b o hb
            exact ⟨v, (hk b o hb).2.trans hv⟩
          · have hlt : o - (g.off + rs.length * ie.size) < news.length := by omega
            refine ⟨news[o - (g.off + rs.length * ie.size)], ?_⟩
            show (w.setRow g.block cs').cell? ⟨g.block, o, none⟩ = _
            rw [cell_setRow_same w g.block o cs cs' ce (0, 0) g4]
            have := hcs'in _ hlt
            rw [show g.off + rs.length * ie.size + (o - (g.off + rs.length * ie.size)) = o by omega] at this
            rw [this, List.getElem?_eq_getElem hlt]
        · intro b o hb id ho
          have hb' : b = g.block → False := by
            intro he
            subst he
            unfold retag at ho
            rw [if_pos gO] at ho
            simp at ho
            exact hl id ho
          rcases hb with hb | ⟨hb, _⟩
          · unfold retag at ho
            split at ho
            · simp at ho; exact hl id ho
            · exact hI.good.box' b o hb id ho
          · exact hb' hb
        · intro b hb
          show b < (w.setRow g.block cs').heap.size
          rw [setRow_size]
          exact hI.good.lim b (fun hn => hb (retag_none.2 hn))
      have hslots : Slots w' Im' (retag O (.slot k) l) β (untake st.slots (slotOf (.tmp k))) a.tmps := by
        have hu' := hI.slots.untake k l
        refine ⟨hu'.len, fun i p u hp hu => ?_⟩
        obtain ⟨k1, k2⟩ := hu'.rep i p u hp hu
        refine ⟨k1.keep hk (fun _ _ h => h), ?_⟩
        by_cases hik : i = k
        · subst hik
          -- stripped
          refine .of_not (fun rows he => ?_)
          subst he
          simp only [slotOf, untake] at hp
          rw [List.getElem?_set] at hp
          simp only [if_true] at hp
          split at hp
          · simp at hp; exact absurd hp (strip_not_os _ rows)
          · cases hp
        · simp only [slotOf, untake] at hp
          rw [List.getElem?_set, if_neg (fun h => hik h.symm)] at hp
          exact hother _ _ _ (by simpa using hik) (hI.slots.rep i p u hp hu).2
      have hfr : Fr w Im O w' Im' (retag O (.slot k) l) := by
        refine ⟨⟨rfl, rfl, rfl⟩, by show w.heap.size ≤ (w.setRow g.block cs').heap.size; simp, fun b hb ho => setRow_other w g.block b cs' (fun he => by rw [he, gO] at ho; cases ho), hk, fun b o hb => ?_, fun b _ ho => retag_none.2 ho⟩
        rcases hb with hb | ⟨rfl, _⟩
        · exact .inl hb
        · exact .inr (.inl (by rw [gO]; simp))
      have hD' : RepD w' Im' (.slice (rs ++ xs)) (.slice (some g) (rs.length + xs.length) c) := by
        rw [← List.length_append]
        refine .slice (rs ++ xs) g c ie.size (fun j => (cs'[g.off + j]?).getD default) (rowsOk_len (rowsOk_append hok1 hok2)) (by simpa using hfit) (fun _ => g2) ?_ ?_ ?_
        · intro j hj
          rw [List.length_append, hmul] at hj
          show (w.setRow g.block cs').cell? ⟨g.block, g.off + j, none⟩ = _
          rw [cell_setRow_same w g.block _ cs cs' ce (0, 0) g4, Array.getElem?_eq_getElem (by omega)]
          rfl
        · intro j hj
          rw [List.length_append, hmul] at hj
          by_cases hj2 : j < rs.length * ie.size
          · refine .inl ?_
            have := rows_values hsD hok1
            obtain ⟨_, _, _, _, _, _, _, p4, _⟩ := this
            exact p4 g rfl j hj2
          · exact .inr ⟨rfl, by omega, by omega⟩
        · intro i j r d hi hj
          by_cases hil : i < rs.length
          · rw [List.getElem?_append_left hil] at hi
            obtain ⟨u, q1, q2⟩ := o5 i j r d hi hj
            have hlt := pos_lt (rowsOk_len hok1) hi hj
            have hq := o2 g rfl _ u q1
            rw [Addr.add_none g2] at hq
            have : cs'[g.off + (i * ie.size + j)]? = some u := by
              rw [hcs'low _ (by omega)]
              simpa [World.cell?, g4] using hq
            rw [this]
            exact q2.keep hk
          · rw [List.getElem?_append_right (by omega)] at hi
            obtain ⟨u, q1, q2⟩ := n5 (i - rs.length) j r d hi hj
            have hlt := pos_lt (rowsOk_len hok2) hi hj
            have hpos : i * ie.size + j = rs.length * ie.size + ((i - rs.length) * ie.size + j) := by
              have : i * ie.size = rs.length * ie.size + (i - rs.length) * ie.size := by rw [← Nat.add_mul]; congr 1; omega
              omega
            have : cs'[g.off + (i * ie.size + j)]? = some u := by
              rw [hpos, ← Nat.add_assoc, hcs'in _ (by omega)]
              exact q1
            rw [this]
            exact q2.keep hk
      refine ⟨.slice (some g) (rs.length + xs.length) c, w', Im', retag O (.slot k) l, ?_, hfr, hgood, hslots, acc_repP hD' (by simp [gne]), ?_⟩
      · simp [Builtin.append_, run_underlying hu, sizeOf, typeInfo, hie, Builtin.lenOf, hfit, hfc, Addr.add_none g2, hst]
        rfl
      · intro rows hrows
        refine .inr ⟨g, _, c, ie.size, cs', ce, rfl, g2, by unfold retag; rw [if_pos gO], setRow_heap w g.block cs cs' ce (0, 0) g4, ?_, ?_, by omega, ?_⟩
        · intro he
          subst he
          cases hra : rs ++ xs with
          | nil => simp [gne] at hra
          | cons q qs => rw [hra] at hrows; cases hrows
        · intro q hq
          have : acc (rs ++ xs) = .os (rs ++ xs) := by
            cases hra : rs ++ xs with
            | nil => simp [gne] at hra
            | cons q qs => rfl
          rw [this] at hrows
          cases hrows
          exact rowsOk_len (rowsOk_append hok1 hok2) q hq
        · intro o ho
          rcases ho with ho | ⟨_, _, ho⟩
          · have := g8 o ho; omega
          · omega
  · -- a new block
    have hg' : c < rs.length + xs.length := by omega
    have hxne : xs ≠ [] := by
      intro h0
      subst h0
      simp at hg'
      omega
    obtain ⟨b, rfl⟩ : ∃ b, y = some b := by
      cases y with
      | none => exact absurd (hyn rfl).1 hxne
      | some b => exact ⟨b, rfl⟩
    have hxpos : 0 < xs.length := List.length_pos_iff.2 hxne
    have hcap := grownCap_ge w (rs.length + xs.length) c e
    have hrun : (Builtin.append_ #[t, t] ty #[.slice A rs.length c, .slice (some b) xs.length cx]).run P w =
        .ok (.slice (some ⟨w.heap.size, 0, none⟩) (rs.length + xs.length) (grownCap w (rs.length + xs.length) c e))
          (w.drew.alloc (.cells (olds ++ news ++ (Builtin.zeroCells z.cells (grownCap w (rs.length + xs.length) c e - (rs.length + xs.length))).toList).toArray e)) := by
      cases A with
      | none =>
        obtain ⟨h0, h0'⟩ := hAe rfl
        subst h0
        subst h0'
        have ho : olds = [] := List.eq_nil_of_length_eq_zero (by rw [o1]; simp)
        subst ho
        have := run_append_nil (P := P) w t ty e ie z hu hie hz1 b xs.length cx news n1 (n2 b rfl) hxpos (by omega) (by simp at hrb; omega)
        simp only [List.length_nil, Nat.zero_add, List.nil_append]
        rw [this]
        congr 2
        congr 1
        apply Array.ext'
        simp
      | some g =>
        have := run_append_grow (P := P) w t ty e ie z hu hie hz1 g rs.length c olds o1 (o2 g rfl) b xs.length cx news n1 (n2 b rfl) hg' (by omega) (growslice_fits hg' hrb)
        rw [this]
        congr 2
        congr 1
        apply Array.ext'
        simp
    obtain ⟨hD, hnw, hnew⟩ := grown_rep hI.good.im hok1 hok2 olds news (Builtin.zeroCells z.cells (grownCap w (rs.length + xs.length) c e - (rs.length + xs.length))).toList e
      (grownCap w (rs.length + xs.length) c e) o1 n1 hcap o5 n5
    have hOn : O w.heap.size = none := by
      cases hO : O w.heap.size with
      | none => rfl
      | some l => exact absurd (hI.good.lim _ (by rw [hO]; simp)) (Nat.lt_irrefl _)
    obtain ⟨q1, q2, q3⟩ := hI.good.newW hnw (fun b o h => .inl h) hnew
    obtain ⟨r1, r2, r3⟩ := own_new q1 (q3 _ _ (slots_untake_same hI.slots s)) q2 l hl hOn (by simp)
    refine ⟨_, _, _, _, hrun, r3, r1, r2, acc_repP hD (by simp [hxne]), ?_⟩
    intro rows hrows
    have hacc : acc (rs ++ xs) = .os (rs ++ xs) := by
      cases hra : rs ++ xs with
      | nil => simp [hxne] at hra
      | cons q qs => rfl
    rw [hacc] at hrows
    cases hrows
    have hcells : (w.drew.alloc (.cells (olds ++ news ++ (Builtin.zeroCells z.cells (grownCap w (rs.length + xs.length) c e - (rs.length + xs.length))).toList).toArray e)).heap[w.heap.size]? = _ := alloc_new w.drew _
    refine .inr ⟨⟨w.heap.size, 0, none⟩, _, _, ie.size, _, e, rfl, rfl, by simp, hcells, by simp [hxne], rowsOk_len (rowsOk_append hok1 hok2), ?_, ?_⟩
    · have : (rs.length + xs.length) * ie.size = olds.length + news.length := by rw [Nat.add_mul, o1, n1]
      have h2 : grownCap w (rs.length + xs.length) c e * ie.size = (rs.length + xs.length) * ie.size + (grownCap w (rs.length + xs.length) c e - (rs.length + xs.length)) * ie.size := by
        rw [← Nat.add_mul]; congr 1; omega
      simp [Builtin.zeroCells, hz2]
      omega
    · intro o ho
      rcases ho with ho | ⟨_, ho⟩
      · exact absurd (hI.good.im.lt ho) (Nat.lt_irrefl _)
      · simpa using ho
end step
end Go.Pv

