/- Arguments that came in, read as pure values; and a law's call. -/
import Derived.Test.YtnnindnmpfmaaaaGreatEv2
import Derived.RowKit3
import Derived.Carry
import Derived.ProofKit
import Derived.OpenShut
import Derived.ShutString
import Derived.ChangeOld
set_option linter.unusedVariables false
set_option linter.unusedSimpArgs false
namespace Go.Pv
open Go

def contig (P : Program) : Nat → List Field → Option Nat
  | off, [] => some off
  | off, f :: fs => if f.offset = off then contig P (off + P.cellsOf f.type) fs else none

def plainT (P : Program) : Nat → TypeId → Bool
  | 0, _ => false
  | d + 1, t => match P.underlying t with
    | some .bool => true
    | some (.int _) => true
    | some .string => true
    | some (.slice e) => plainT P d e
    | some (.struct fs) => fs.toList.all (fun f => plainT P d f.type) && (contig P 0 fs.toList == some (P.cellsOf t))
    | some (.array n e) => plainT P d e && (P.cellsOf t == n * P.cellsOf e)
    | _ => false

def OkFs (ok : TypeId → List DV → Prop) (P : Program) : List Field → List DV → Prop
  | [], xs => xs = []
  | f :: fs, xs => ok f.type (xs.take (P.cellsOf f.type)) ∧ OkFs ok P fs (xs.drop (P.cellsOf f.type))

def OkArr (ok : List DV → Prop) (s : Nat) : Nat → List DV → Prop
  | 0, xs => xs = []
  | n + 1, xs => ok (xs.take s) ∧ OkArr ok s n (xs.drop s)

/-- Cells that are a value of a type. -/
def OkD (P : Program) : Nat → TypeId → List DV → Prop
  | 0, _, _ => False
  | d + 1, t, xs => match P.underlying t with
    | some .bool => ∃ b, xs = [.bool b]
    | some (.int k) => ∃ n, xs = [.int k n] ∧ k.min ≤ n ∧ n ≤ k.max
    | some .string => ∃ s, xs = [.str s] ∧ s.size ≤ maxLen
    | some (.slice e) => ∃ rows, xs = [.slice rows] ∧ rows.length ≤ maxLen ∧ ∀ r ∈ rows, OkD P d e r
    | some (.struct fs) => OkFs (OkD P d) P fs.toList xs
    | some (.array n e) => OkArr (OkD P d e) (P.cellsOf e) n xs
    | _ => False

section read
variable {H : Type} {enc : TypeId × Value → H} {P : Program} {W : World}

def ImAll (W : World) : ImT := fun b o => ∃ v, W.cell? ⟨b, o, none⟩ = some v

def RepAll (W : World) (ds : List DV) (cs : List Value) : Prop := ds.length = cs.length ∧ ∀ (i : Nat) (y : DV) (v : Value), ds[i]? = some y → cs[i]? = some v → RepD W (ImAll W) y v

theorem RepAll.append {ds ds' : List DV} {cs cs' : List Value} (h : RepAll W ds cs) (h' : RepAll W ds' cs') : RepAll W (ds ++ ds') (cs ++ cs') := by
  refine ⟨by simp [h.1, h'.1], fun i y v hy hv => ?_⟩
  by_cases hi : i < ds.length
  · rw [List.getElem?_append_left hi] at hy
    rw [List.getElem?_append_left (by rw [← h.1]; exact hi)] at hv
    exact h.2 i y v hy hv
  · rw [List.getElem?_append_right (by omega)] at hy
    rw [List.getElem?_append_right (by rw [← h.1]; omega), ← h.1] at hv
    exact h'.2 _ y v hy hv

theorem RepAll.one {y : DV} {v : Value} (h : RepD W (ImAll W) y v) : RepAll W [y] [v] :=
  ⟨rfl, fun i y' v' hy hv => by cases i <;> simp at hy hv; subst hy; subst hv; exact h⟩

theorem read_fs {n d : Nat} (ih : ∀ (fuel : Nat) (t : TypeId) (cs : List Value) (x : DataW H × List MemPlace), plainT P d t = true → DataW.trod enc P W 0 (fun _ => true) true fuel t cs = some x → ∃ ds, RepAll W ds cs ∧ OkD P d t ds)
    (cs : List Value) (all : List Field) (hpl : ∀ f ∈ all, plainT P d f.type = true) (hlen : ∀ f ∈ all, ∃ x : DataW H × List MemPlace, DataW.trod enc P W 0 (fun _ => true) true n f.type ((cs.drop f.offset).take (P.cellsOf f.type)) = some x) :
    ∀ (fs : List Field) (off fin : Nat), (∀ f ∈ fs, f ∈ all) → contig P off fs = some fin → cs.length = fin → off ≤ cs.length → ∃ ds, RepAll W ds (cs.drop off) ∧ OkFs (OkD P d) P fs ds
  | [], off, fin, _, hc, hl, _ => by
    simp [contig] at hc
    refine ⟨[], ⟨by simp; omega, by simp⟩, rfl⟩
  | f :: fs, off, fin, hin, hc, hl, ho => by
    simp only [contig] at hc
    split at hc
    · rename_i hoff
      have hmono : ∀ (fs : List Field) (off fin : Nat), contig P off fs = some fin → off ≤ fin := by
        intro fs
        induction fs with
        | nil => intro off fin h; simp [contig] at h; omega
        | cons g gs ihg =>
          intro off fin h
          simp only [contig] at h
          split at h
          · have := ihg _ _ h; omega
          · cases h
      have hle := hmono _ _ _ hc
      obtain ⟨x, hx⟩ := hlen f (hin f (by simp))
      obtain ⟨d1, h1, h2⟩ := ih n f.type _ x (hpl f (hin f (by simp))) hx
      obtain ⟨d2, h3, h4⟩ := read_fs ih cs all hpl hlen fs (off + P.cellsOf f.type) fin (fun g hg => hin g (by simp [hg])) hc hl (by omega)
      have hd1 : d1.length = P.cellsOf f.type := by rw [h1.1]; simp; omega
      refine ⟨d1 ++ d2, ?_, ?_⟩
      · have := h1.append h3
        have e : (cs.drop f.offset).take (P.cellsOf f.type) ++ cs.drop (off + P.cellsOf f.type) = cs.drop off := by
          rw [hoff, ← List.drop_drop]
          exact List.take_append_drop _ _
        rwa [e] at this
      · simp only [OkFs]
        rw [← hd1, List.take_left, List.drop_left]
        exact ⟨h2, h4⟩
    · cases hc

theorem read_arr {s : Nat} {ok : List DV → Prop} (cs : List Value) : ∀ (n i : Nat), cs.length = (i + n) * s → (∀ k, k < i + n → ∃ ds, RepAll W ds ((cs.drop (k * s)).take s) ∧ ok ds) → ∃ ds, RepAll W ds (cs.drop (i * s)) ∧ OkArr ok s n ds
  | 0, i, hl, _ => ⟨[], ⟨by rw [List.length_drop, hl]; simp, by simp⟩, rfl⟩
  | n + 1, i, hl, h => by
    obtain ⟨d1, h1, h2⟩ := h i (by omega)
    obtain ⟨d2, h3, h4⟩ := read_arr cs n (i + 1) (by rw [hl]; congr 1; omega) (fun k hk => h k (by omega))
    have hmul : i * s + s ≤ cs.length := by
      rw [hl, show i + (n + 1) = (i + 1) + n by omega, Nat.add_mul (i + 1), Nat.add_mul]
      omega
    have hd1 : d1.length = s := by rw [h1.1]; simp; omega
    refine ⟨d1 ++ d2, ?_, ?_⟩
    · have := h1.append h3
      have e : (cs.drop (i * s)).take s ++ cs.drop ((i + 1) * s) = cs.drop (i * s) := by
        rw [Nat.add_mul, Nat.one_mul, ← List.drop_drop]
        exact List.take_append_drop _ _
      rwa [e] at this
    · simp only [OkArr]
      rw [← hd1, List.take_left, List.drop_left]
      exact ⟨h2, by rw [hd1]; exact h4⟩

theorem choose_rows {ok : List DV → Prop} {len : Nat} {R : Nat → List DV → Prop} (h : ∀ i, i < len → ∃ r, R i r ∧ ok r) : ∃ rows : List (List DV), rows.length = len ∧ (∀ r ∈ rows, ok r) ∧ ∀ (i : Nat) (r : List DV), rows[i]? = some r → R i r := by
  induction len with
  | zero => exact ⟨[], rfl, by simp, by simp⟩
  | succ n ih =>
    obtain ⟨rows, h1, h2, h3⟩ := ih (fun i hi => h i (by omega))
    obtain ⟨r, hr, hok⟩ := h n (by omega)
    refine ⟨rows ++ [r], by simp [h1], ?_, ?_⟩
    · intro q hq
      rcases List.mem_append.1 hq with hq | hq
      · exact h2 q hq
      · simp at hq; subst hq; exact hok
    · intro i q hq
      by_cases hi : i < rows.length
      · rw [List.getElem?_append_left hi] at hq; exact h3 i q hq
      · have hi' : i = rows.length := by
          have := (List.getElem?_eq_some_iff.1 hq).1
          simp at this
          omega
        subst hi'
        rw [List.getElem?_concat_length] at hq
        cases hq
        rw [h1]
        exact hr

theorem read_ok : ∀ (d fuel : Nat) (t : TypeId) (cs : List Value) (x : DataW H × List MemPlace), plainT P d t = true → DataW.trod enc P W 0 (fun _ => true) true fuel t cs = some x →
    ∃ ds, RepAll W ds cs ∧ OkD P d t ds
  | 0, fuel, t, cs, x, hp, h => by simp [plainT] at hp
  | d + 1, fuel, t, cs, x, hp, h => by
    simp only [plainT] at hp
    simp only [OkD]
    cases hu : P.underlying t with
    | none => simp [hu] at hp
    | some td =>
      rw [hu] at hp
      cases td <;> simp only [] at hp <;> try (cases hp; done)
      case bool =>
        obtain ⟨b, rfl, _⟩ := DataW.trod_bool hu h
        exact ⟨[.bool b], .one (.bool b), b, rfl⟩
      case int k =>
        obtain ⟨n, rfl, _, hw⟩ := DataW.trod_int hu h
        simp only [Lit.wf, Bool.and_eq_true, decide_eq_true_eq] at hw
        exact ⟨[.int k n], .one (.int k n), n, rfl, hw.1, hw.2⟩
      case string =>
        obtain ⟨s, rfl, _, hs⟩ := DataW.trod_string hu h
        exact ⟨[.str s], .one (.str s), s, rfl, hs⟩
      case slice e =>
        rcases DataW.trod_slice hu h with ⟨rfl, _⟩ | ⟨a, len, cap, elems, rest, n, _, rfl, _, _, hlc, hcm, hel, hget, _, _⟩
        · exact ⟨[.slice []], .one .nil, [], rfl, by simp, by simp⟩
        · have hrow : ∀ i, i < len → ∃ r, (∃ cs', W.cells? 0 (a.add (i * P.cellsOf e)) (P.cellsOf e) = some cs' ∧ RepAll W r cs') ∧ OkD P d e r := by
            intro i hi
            have hg := hget i hi
            rw [List.getElem?_eq_getElem (by omega)] at hg
            cases hc : W.cells? 0 (a.add (i * P.cellsOf e)) (P.cellsOf e) with
            | none => rw [hc] at hg; cases hg
            | some cs' =>
              rw [hc] at hg
              obtain ⟨r, h1, h2⟩ := read_ok d n e cs' _ hp hg
              exact ⟨r, ⟨cs', rfl, h1⟩, h2⟩
          obtain ⟨rows, r1, r2, r3⟩ := choose_rows hrow
          have hlens : ∀ r ∈ rows, r.length = P.cellsOf e := by
            intro r hr
            obtain ⟨i, hi⟩ := List.mem_iff_getElem?.1 hr
            obtain ⟨cs', hc, hrep⟩ := r3 i r hi
            rw [hrep.1]
            exact (World.cells?_some hc).2.1
          -- where there is a cell there is no odd address
          have hspot : rows.length * P.cellsOf e ≠ 0 → a.spot = none := by
            intro hne
            have h0 : 0 < len := by rcases Nat.eq_zero_or_pos len with hz | hz; · rw [r1, hz] at hne; simp at hne
                                    · exact hz
            have hs0 : 0 < P.cellsOf e := by rcases Nat.eq_zero_or_pos (P.cellsOf e) with hz | hz; · rw [hz] at hne; simp at hne
                                             · exact hz
            obtain ⟨r, ⟨cs', hc, hrep⟩, _⟩ := hrow 0 h0
            obtain ⟨_, hcl, hcg⟩ := World.cells?_some hc
            have h00 := hcg 0 hs0
            rw [List.getElem?_eq_getElem (by omega)] at h00
            simp only [Nat.zero_mul] at h00
            have ha : (a.add 0).add 0 = a := by simp [Addr.add]
            rw [ha] at h00
            unfold World.cell? at h00
            split at h00
            · split at h00
              · cases h00
              · rename_i hsp; simpa using hsp
            · cases h00
          have hcell : ∀ j, j < rows.length * P.cellsOf e → ∃ i k r, i < len ∧ k < P.cellsOf e ∧ j = i * P.cellsOf e + k ∧ rows[i]? = some r ∧ ∃ cs', W.cells? 0 (a.add (i * P.cellsOf e)) (P.cellsOf e) = some cs' ∧ RepAll W r cs' := by
            intro j hj
            obtain ⟨i, k, r, y, hi, hk, rfl⟩ := pos_split hlens hj
            refine ⟨i, k, r, ?_, ?_, rfl, hi, r3 i r hi⟩
            · have := (List.getElem?_eq_some_iff.1 hi).1; omega
            · rw [← hlens r (List.mem_of_getElem? hi)]; exact (List.getElem?_eq_some_iff.1 hk).1
          have haddr : rows.length * P.cellsOf e ≠ 0 → ∀ i k, (a.add (i * P.cellsOf e)).add k = ⟨a.block, a.off + (i * P.cellsOf e + k), none⟩ := by
            intro hne i k
            rw [Addr.add_none (hspot hne), Addr.add_none rfl]
            simp [Nat.add_assoc]
          have hval : ∀ j, j < rows.length * P.cellsOf e → ∃ v, W.cell? ⟨a.block, a.off + j, none⟩ = some v := by
            intro j hj
            obtain ⟨i, k, r, hi, hk, rfl, hr, cs', hc, hrep⟩ := hcell j hj
            obtain ⟨_, hcl, hcg⟩ := World.cells?_some hc
            have := hcg k hk
            rw [haddr (by omega), List.getElem?_eq_getElem (by omega)] at this
            exact ⟨_, this⟩
          refine ⟨[.slice rows], .one ?_, rows, rfl, by omega, r2⟩
          rw [← r1]
          refine .slice rows a cap (P.cellsOf e) (fun j => (W.cell? ⟨a.block, a.off + j, none⟩).getD default) hlens (by omega) hspot ?_ (fun j hj => hval j hj) ?_
          · intro j hj
            obtain ⟨v, hv⟩ := hval j hj
            simp [hv]
          · intro i k r y hi hk
            have hlt := pos_lt hlens hi hk
            obtain ⟨cs', hc, hrep⟩ := r3 i r hi
            obtain ⟨_, hcl, hcg⟩ := World.cells?_some hc
            have hk' : k < P.cellsOf e := by rw [← hlens r (List.mem_of_getElem? hi)]; exact (List.getElem?_eq_some_iff.1 hk).1
            have := hcg k hk'
            rw [haddr (by omega), List.getElem?_eq_getElem (by omega)] at this
            rw [this]
            exact hrep.2 k y _ hk (List.getElem?_eq_getElem (by omega))
      case struct fs =>
        simp only [Bool.and_eq_true, beq_iff_eq, List.all_eq_true] at hp
        obtain ⟨xs, n, _, _, hlen, hxl, hget⟩ := DataW.trod_struct hu h
        have := read_fs (n := n) (enc := enc) (fun fuel t cs x => read_ok d fuel t cs x) cs fs.toList hp.1 (fun f hf => by
          obtain ⟨i, hi⟩ := List.mem_iff_getElem?.1 hf
          have hi' : fs[i]? = some f := by simpa using hi
          have hil : i < xs.length := by rw [hxl]; exact (Array.getElem?_eq_some_iff.1 hi').1
          exact ⟨xs[i], by rw [hget i f hi', List.getElem?_eq_getElem hil]⟩) fs.toList 0 (P.cellsOf t) (fun f hf => hf) hp.2 hlen (Nat.zero_le _)
        simpa using this
      case array n e =>
        simp only [Bool.and_eq_true, beq_iff_eq] at hp
        obtain ⟨xs, m, _, _, hlen, hxl, hget⟩ := DataW.trod_array hu h
        have := read_arr (W := W) (s := P.cellsOf e) (ok := OkD P d e) cs n 0 (by rw [hlen, hp.2]; simp) (fun k hk => by
          have hkx : k < xs.length := by omega
          have hg := hget k (by omega)
          rw [List.getElem?_eq_getElem hkx] at hg
          exact read_ok d m e _ _ hp.1 hg)
        simpa using this
end read

/-! #### A law's call -/

def argP (P : Program) (t : TypeId) (ds : List DV) : PV :=
  match P.underlying t with
  | some (.struct _) => .agg (ds.map .d)
  | some (.array _ _) => .agg (ds.map .d)
  | _ => match ds with | [y] => .d y | _ => .undef

/-- Arguments of their types. -/
def OkArgs (P : Program) (depth : Nat) : List TypeId → List PV → Prop
  | [], ps => ps = []
  | t :: ts, ps => ∃ ds rest, OkD P depth t ds ∧ ps = argP P t ds :: rest ∧ OkArgs P depth ts rest

theorem argP_rep {P : Program} {W : World} {t : TypeId} {v : Value} {d : Nat} {base : Nat} {ds : List DV} (hval : Value.okWide P W .any base t v) (hp : plainT P d t = true) (hr : RepAll W ds v.cells.toList) :
    RepP W (ImAll W) [] (argP P t ds) v ∧ ∀ rows, argP P t ds ≠ .os rows := by
  have one : v.cells = #[v] → (∃ y, ds = [y]) → (∀ fs, P.underlying t ≠ some (.struct fs)) → (∀ n e, P.underlying t ≠ some (.array n e)) → RepP W (ImAll W) [] (argP P t ds) v ∧ ∀ rows, argP P t ds ≠ .os rows := by
    rintro hv ⟨y, rfl⟩ h1 h2
    have ha : argP P t [y] = .d y := by
      unfold argP
      split
      · rename_i fs hh; exact absurd hh (h1 fs)
      · rename_i n e hh; exact absurd hh (h2 n e)
      · rfl
    rw [ha]
    exact ⟨.d (hr.2 0 y v rfl (by rw [hv]; rfl)), by simp⟩
  have len1 : v.cells = #[v] → ∃ y, ds = [y] := by
    intro hv
    have := hr.1
    rw [hv] at this
    simp at this
    match ds, this with
    | [y], _ => exact ⟨y, rfl⟩
  cases d with
  | zero => simp [plainT] at hp
  | succ d =>
    simp only [plainT] at hp
    cases hu : P.underlying t with
    | none => rw [hu] at hp; cases hp
    | some td =>
      rw [hu] at hp
      cases td <;> simp only [] at hp <;> try (cases hp; done)
      case bool => obtain ⟨b, rfl⟩ := WideShapes.okWide_bool hu hval; exact one rfl (len1 rfl) (by simp [hu]) (by simp [hu])
      case int k => obtain ⟨n, rfl⟩ := WideShapes.okWide_int hu hval; exact one rfl (len1 rfl) (by simp [hu]) (by simp [hu])
      case string => obtain ⟨n, rfl⟩ := WideShapes.okWide_string hu hval; exact one rfl (len1 rfl) (by simp [hu]) (by simp [hu])
      case slice e => obtain ⟨a, l, c, rfl⟩ := WideShapes.okWide_slice hu hval; exact one rfl (len1 rfl) (by simp [hu]) (by simp [hu])
      case struct fs =>
        simp only [Value.okWide, hu] at hval
        obtain ⟨cs, rfl, _, _⟩ := hval
        have ha : argP P t ds = .agg (ds.map .d) := by unfold argP; rw [hu]
        rw [ha]
        refine ⟨.agg _ cs (by have := hr.1; simpa [Value.cells] using this) (fun i p v hp hv => ?_), by simp⟩
        rw [List.getElem?_map] at hp
        cases hy : ds[i]? with
        | none => simp [hy] at hp
        | some y => simp [hy] at hp; subst hp; exact .d (hr.2 i y v hy (by simpa [Value.cells] using hv))
      case array n e =>
        simp only [Value.okWide, hu] at hval
        obtain ⟨cs, rfl, _, _⟩ := hval
        have ha : argP P t ds = .agg (ds.map .d) := by unfold argP; rw [hu]
        rw [ha]
        refine ⟨.agg _ cs (by have := hr.1; simpa [Value.cells] using this) (fun i p v hp hv => ?_), by simp⟩
        rw [List.getElem?_map] at hp
        cases hy : ds[i]? with
        | none => simp [hy] at hp
        | some y => simp [hy] at hp; subst hp; exact .d (hr.2 i y v hy (by simpa [Value.cells] using hv))

open Go.RowKit in
/-- A LAW's CALL: where the evaluator says true of all arguments of the types, the machine does, and nothing that was there has changed. -/
theorem law_calls {E : Env} (hE : EnvOk E) {H : Type} {enc : TypeId × Value → H} {f : FuncId} {types : List TypeId} {depth : Nat} (hpl : types.all (plainT E.P depth) = true)
    (hlaw : ∀ ps, OkArgs E.P depth types ps → ∃ σ', evI E f ps [] = some (.d (.bool true), σ'))
    {W : World} {base : Nat} {args : Array Value} {ds : List (DataW H)} {ps : List MemPlace} (hA : DataW.TrodAll enc E.P W 0 (fun _ => true) true types args.toList ds ps)
    (hval : ∀ (j : Nat) (t : TypeId) (v : Value), types[j]? = some t → args[j]? = some v → Value.okWide E.P W .any base t v) :
    Calls E.P f args W fun e W' => e = .returned (.bool true) ∧ Below W.heap.size W W' := by
  have key : ∀ (types : List TypeId) (vs : List Value) (ds : List (DataW H)) (ps : List MemPlace), types.all (plainT E.P depth) = true → DataW.TrodAll enc E.P W 0 (fun _ => true) true types vs ds ps →
      (∀ (j : Nat) (t : TypeId) (v : Value), types[j]? = some t → vs[j]? = some v → Value.okWide E.P W .any base t v) →
      ∃ pvs, OkArgs E.P depth types pvs ∧ pvs.length = vs.length ∧ ∀ (i : Nat) (p : PV) (v : Value), pvs[i]? = some p → vs[i]? = some v → RepP W (ImAll W) [] p v ∧ ∀ rows, p ≠ .os rows := by
    intro types
    induction types with
    | nil =>
      intro vs ds ps _ hA _
      obtain ⟨rfl, _, _⟩ := ChangeShapes.trodAll_nil hA
      exact ⟨[], rfl, rfl, by simp⟩
    | cons t ts ih =>
      intro vs ds ps hpl hA hval
      simp only [List.all_cons, Bool.and_eq_true] at hpl
      obtain ⟨v, vs', d, ds', p, q, rfl, rfl, rfl, ht, hr⟩ := ChangeShapes.trodAll_cons hA
      obtain ⟨fuel, hf⟩ := ht
      obtain ⟨xs, h1, h2⟩ := read_ok depth fuel t _ _ hpl.1 hf
      obtain ⟨pvs, k1, k2, k3⟩ := ih vs' ds' q hpl.2 hr (fun j t v hj hv => hval (j + 1) t v (by simpa using hj) (by simpa using hv))
      refine ⟨argP E.P t xs :: pvs, ⟨xs, pvs, h2, rfl, k1⟩, by simp [k2], fun i p u hp hu => ?_⟩
      cases i with
      | zero =>
        simp at hp hu
        subst hp; subst hu
        exact argP_rep (hval 0 t v rfl rfl) hpl.1 h1
      | succ i => exact k3 i p u (by simpa using hp) (by simpa using hu)
  obtain ⟨pvs, k1, k2, k3⟩ := key types args.toList ds ps hpl hA (fun j t v hj hv => hval j t v hj (by simpa using hv))
  obtain ⟨σ', hev⟩ := hlaw pvs k1
  have hc := evI_ok hE f pvs [] _ σ' hev
  refine (hc.1.2 W (ImAll W) (fun _ => none) [] args ⟨rfl, by simp, fun b o h => h, by simp, by simp⟩ (by simp) ⟨by simpa using k2, fun i p v hp hv => k3 i p v hp (by simpa using hv)⟩).mono ?_
  rintro e w' ⟨v, Im', O', β', l, rfl, hf, _, _, hrep, _⟩
  rw [hrep.bool_inv]
  exact ⟨rfl, hf.env.1, hf.env.2.1, hf.env.2.2, hf.size, fun k hk => hf.same k hk rfl⟩

end Go.Pv

