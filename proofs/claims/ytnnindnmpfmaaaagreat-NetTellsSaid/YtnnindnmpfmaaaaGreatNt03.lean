/- A region whose order the machine draws: the evaluator's order stands for each of them; A region whose order the machine draws: the theorem; Two boxes made in either order: what holds with one numbering holds with the other. -/
import Derived.Test.YtnnindnmpfmaaaaGreatNt02
set_option linter.unusedVariables false
set_option linter.unusedSimpArgs false
namespace Go.Pv
open Go
def untakeU (ρ : Nat → PV) : Option Nat → List (Nat × PV)
  | some s => [(s, (ρ s).strip)]
  | none => []
def putU : Option Tmp → PV → List (Nat × PV)
  | some d, v => [(d, v)]
  | none, _ => []
def sets (l : List PV) (u : List (Nat × PV)) : List PV := u.foldl (fun l x => l.set x.1 x.2) l
noncomputable def evOpR (E : Env) (F : FnEv) (ops : Array Oper) (o : Oper) (ρ : Nat → PV) (σ : Store) : Option (List (Nat × PV) × Store) :=
  (evWant ops o ρ).bind fun w =>
  if w then (evCore E F (appendFirst ops.toList) o.dst o.op ρ σ).map fun g => (untakeU ρ g.2.1 ++ putU o.dst g.1, g.2.2)
  else some (putU o.dst .undef, σ)
theorem evOp_eq (E : Env) (F : FnEv) (ops : Array Oper) (o : Oper) (st : St) :
    evOp E F ops o st = (evOpR E F ops o (rd st.slots) st.store).map fun r => ⟨sets st.slots r.1, r.2⟩ := by
  unfold evOp evOpR
  cases evWant ops o (rd st.slots) with
  | none => rfl
  | some b =>
    cases b with
    | true =>
      simp only [Option.bind_some, if_true, Option.map_map]
      congr 1
      funext g
      simp only [Function.comp]
      obtain ⟨v, tr, σ'⟩ := g
      cases tr <;> cases o.dst <;> rfl
    | false =>
      simp only [Option.bind_some, Bool.false_eq_true, if_false, Option.map_some]
      cases o.dst <;> rfl
theorem rd_sets : ∀ (u : List (Nat × PV)) (l : List PV) (t : Nat), (∀ x ∈ u, x.1 ≠ t) → rd (sets l u) t = rd l t
  | [], l, t, _ => rfl
  | (s, v) :: u, l, t, h => by
    show rd (sets (l.set s v) u) t = rd l t
    rw [rd_sets u (l.set s v) t (fun x hx => h x (by simp [hx]))]
    have : s ≠ t := h (s, v) (by simp)
    simp [rd, List.getD, List.getElem?_set, this]
theorem sets_set : ∀ (u : List (Nat × PV)) (l : List PV) (s : Nat) (v : PV), (∀ x ∈ u, x.1 ≠ s) → sets (l.set s v) u = (sets l u).set s v
  | [], l, s, v, _ => rfl
  | (s', v') :: u, l, s, v, h => by
    show sets ((l.set s v).set s' v') u = (sets (l.set s' v') u).set s v
    have hne : s' ≠ s := h (s', v') (by simp)
    rw [List.set_comm _ _ (Ne.symm hne), sets_set u (l.set s' v') s v (fun x hx => h x (by simp [hx]))]
theorem sets_comm : ∀ (u v : List (Nat × PV)) (l : List PV), (∀ x ∈ u, ∀ y ∈ v, x.1 ≠ y.1) → sets (sets l u) v = sets (sets l v) u
  | [], v, l, _ => rfl
  | (s, p) :: u, v, l, h => by
    show sets (sets (l.set s p) u) v = sets ((sets l v).set s p) u
    rw [sets_comm u v (l.set s p) (fun x hx => h x (by simp [hx])), sets_set v l s p (fun y hy => Ne.symm (h (s, p) (by simp) y hy))]
/-! #### What an operation reads -/
section congr
variable {ρ ρ' : Nat → PV}
theorem opv_congr {x : Operand} (h : ∀ t, x = .tmp t → ρ t = ρ' t) : opv ρ x = opv ρ' x := by
  cases x <;> simp [opv]
  exact h _ rfl
theorem use_congr {x : Operand} (h : ∀ t, x = .tmp t → ρ t = ρ' t) : use ρ x = use ρ' x := by simp [use, opv_congr h]
theorem useL_congr : ∀ {xs : List Operand}, (∀ x ∈ xs, ∀ t, x = .tmp t → ρ t = ρ' t) → useL ρ xs = useL ρ' xs
  | [], _ => rfl
  | x :: xs, h => by simp only [useL]; rw [use_congr (h x (by simp)), useL_congr (fun y hy => h y (by simp [hy]))]
theorem useParts_congr : ∀ {xs : List (Nat × Operand)}, (∀ x ∈ xs, ∀ t, x.2 = .tmp t → ρ t = ρ' t) → useParts ρ xs = useParts ρ' xs
  | [], _ => rfl
  | (i, x) :: xs, h => by simp only [useParts]; rw [use_congr (h (i, x) (by simp)), useParts_congr (fun y hy => h y (by simp [hy]))]
theorem bound_congr {x : Option Operand} {n : Nat} (h : ∀ o, x = some o → ∀ t, o = .tmp t → ρ t = ρ' t) : bound ρ x n = bound ρ' x n := by
  cases x with
  | none => rfl
  | some o => simp only [bound]; rw [use_congr (h o rfl)]
def Agree (ρ ρ' : Nat → PV) (op : Op) : Prop := ∀ x ∈ op.operands.toList, ∀ t, x = .tmp t → ρ t = ρ' t
theorem evPure_congr {P : Program} {op : Op} (h : Agree ρ ρ' op) : evPure P ρ op = evPure P ρ' op := by
  unfold Agree at h
  cases op with
  | pick c a b => simp only [evPure]; rw [use_congr (h c (by simp [Op.operands])), use_congr (h a (by simp [Op.operands])), use_congr (h b (by simp [Op.operands]))]
  | build t ps =>
    simp only [evPure]
    rw [useParts_congr (fun x hx t ht => h x.2 (by simp only [Op.operands]; exact List.mem_map.2 ⟨x, hx, rfl⟩) t ht)]
  | buildSlice t n ps =>
    simp only [evPure]
    rw [useParts_congr (fun x hx t ht => h x.2 (by simp only [Op.operands]; exact List.mem_map.2 ⟨x, hx, rfl⟩) t ht)]
  | nilCheck x => simp only [evPure]; rw [use_congr (h x (by simp [Op.operands]))]
  | binOp o t x y yt => simp only [evPure]; rw [use_congr (h x (by simp [Op.operands])), use_congr (h y (by simp [Op.operands]))]
  | unOp o t x => simp only [evPure]; rw [use_congr (h x (by simp [Op.operands]))]
  | convert s d x => simp only [evPure]; rw [use_congr (h x (by simp [Op.operands]))]
  | makeInterface t x => simp only [evPure]; rw [use_congr (h x (by simp [Op.operands]))]
  | makeFunc fn f c =>
    simp only [evPure]
    rw [useL_congr (xs := f.toList) (fun x hx => h x (by simp [Op.operands] at hx ⊢; exact .inl hx)), useL_congr (xs := c.toList) (fun x hx => h x (by simp [Op.operands] at hx ⊢; exact .inr hx))]
  | slice t x lo hi mx =>
    simp only [evPure, evSlice]
    rw [use_congr (h x (by simp [Op.operands])), bound_congr (x := lo) (fun o ho => h o (by subst ho; simp [Op.operands]))]
    have e1 : ∀ n, bound ρ hi n = bound ρ' hi n := fun n => bound_congr (fun o ho => h o (by subst ho; simp [Op.operands]))
    have e2 : ∀ m, mx = some m → bound ρ (some m) 0 = bound ρ' (some m) 0 := fun m hm => bound_congr (fun o ho => h o (by cases ho; subst hm; simp [Op.operands]))
    cases mx with
    | none => simp only [e1]
    | some m => simp only [e1, e2 m rfl]
  | fieldAddr t x f => simp only [evPure]; rw [use_congr (h x (by simp [Op.operands]))]
  | field t x f => simp only [evPure]; rw [use_congr (h x (by simp [Op.operands]))]
  | indexAddr t x i => simp only [evPure]; rw [use_congr (h x (by simp [Op.operands])), use_congr (h i (by simp [Op.operands]))]
  | index t x i => simp only [evPure]; rw [use_congr (h x (by simp [Op.operands])), use_congr (h i (by simp [Op.operands]))]
  | extract x i => simp only [evPure]; rw [use_congr (h x (by simp [Op.operands]))]
  | _ => rfl
theorem moveIt_congr {take : Bool} {σ : Store} {x : Operand} (h : ∀ t, x = .tmp t → ρ t = ρ' t) : moveIt ρ take σ x = moveIt ρ' take σ x := by
  cases x with
  | tmp s => simp only [moveIt]; rw [h s rfl]
  | const c => rfl
  | global c => rfl
  | func c => rfl
theorem evCall_congr {E : Env} {F : FnEv} {σ : Store} {c : Call} (h : Agree ρ ρ' (.call c)) : evCall E F ρ σ c = evCall E F ρ' σ c := by
  have hargs : ∀ x ∈ c.args.toList, ∀ t, x = .tmp t → ρ t = ρ' t := fun x hx => h x (by simp [Op.operands, Call.operands] at hx ⊢; exact .inr hx)
  unfold evCall
  split
  · split
    · rename_i tS tX s x _ ha
      rw [opv_congr (hargs s (by rw [ha]; simp)), use_congr (hargs x (by rw [ha]; simp))]
    · rfl
  · split
    · rename_i t x _ ha
      rw [use_congr (hargs x (by rw [ha]; simp))]
    · rfl
  · split
    · rename_i t t' x y _ ha
      rw [use_congr (hargs x (by rw [ha]; simp)), use_congr (hargs y (by rw [ha]; simp))]
    · rfl
  · split
    · rename_i t x _ ha
      rw [use_congr (hargs x (by rw [ha]; simp))]
    · rfl
  · rw [useL_congr hargs]
  · rw [useL_congr hargs]
  · rfl
  · rfl
  · rename_i f hf
    rw [useL_congr hargs, use_congr (h f (by simp [Op.operands, Call.operands, hf]))]
theorem evMkApp_congr {E : Env} {σ : Store} {c : Call} (h : Agree ρ ρ' (.call c)) : evMkApp E ρ σ c = evMkApp E ρ' σ c := by
  have hargs : ∀ x ∈ c.args.toList, ∀ t, x = .tmp t → ρ t = ρ' t := fun x hx => h x (by simp [Op.operands, Call.operands] at hx ⊢; exact .inr hx)
  unfold evMkApp
  split
  · split
    · rename_i tS tX s x _ ha
      rw [opv_congr (hargs s (by rw [ha]; simp)), use_congr (hargs x (by rw [ha]; simp))]
    · rfl
  · rfl
theorem evCore_congr {E : Env} {F : FnEv} {aps : List Nat} {dst : Option Tmp} {op : Op} {σ : Store} (h : Agree ρ ρ' op) : evCore E F aps dst op ρ σ = evCore E F aps dst op ρ' σ := by
  cases op with
  | move x => exact moveIt_congr (h x (by simp [Op.operands]))
  | assign x => exact moveIt_congr (h x (by simp [Op.operands]))
  | alloc t => rfl
  | box t x => simp only [evCore]; rw [opv_congr (h x (by simp [Op.operands]))]
  | load t x => simp only [evCore]; rw [use_congr (h x (by simp [Op.operands]))]
  | store t x v => simp only [evCore]; rw [use_congr (h x (by simp [Op.operands])), opv_congr (h v (by simp [Op.operands]))]
  | call c =>
    simp only [evCore]
    split
    · exact evMkApp_congr h
    · exact evCall_congr h
  | makeSlice t l c => simp only [evCore]; rw [use_congr (h l (by simp [Op.operands])), use_congr (h c (by simp [Op.operands]))]
  | _ => simp only [evCore]; rw [evPure_congr h]
end congr
theorem looksAt_agree {ops : Array Oper} {o : Oper} {ρ ρ' : Nat → PV} (h : ∀ t ∈ o.looksAt ops, ρ t = ρ' t) : Agree ρ ρ' o.op := by
  intro x hx t ht
  subst ht
  refine h t ?_
  unfold Oper.looksAt
  rw [List.mem_append]
  exact .inl (List.mem_filterMap.2 ⟨.tmp t, hx, rfl⟩)
/-! #### What it writes -/
inductive Cls where
  | pure | rd | al | wr | ro
  deriving DecidableEq
def clsOf (E : Env) (aps : List Nat) (o : Oper) : Cls :=
  match o.op with
  | .alloc _ => .al
  | .box _ _ => .al
  | .load _ _ => if takes aps o.dst then .wr else .rd
  | .store _ _ _ => .wr
  | .makeSlice _ _ _ => if mkSel E o.dst then .pure else .al
  | .call c => if mkSel E o.dst then .al else (match c.callee with
    | .builtin .copy => .wr
    | .builtin .clear => .wr
    | .builtin _ => .pure
    | .value (.func f) => if (E.ext E.loose f).isSome then .wr else if (E.ov f).isSome || E.pure f then .pure else if E.ro f then .ro else .wr
    | _ => .wr)
  | _ => .pure
section cls
variable {E : Env} {F : FnEv} {ρ : Nat → PV}
theorem moveIt_cls {take : Bool} {σ : Store} {x : Operand} {g : Gives} (h : moveIt ρ take σ x = some g) :
    g.2.2 = σ ∧ (∀ σ', moveIt ρ take σ' x = some (g.1, g.2.1, σ')) ∧ ∀ s, g.2.1 = some s → s ∈ (if take then (slotOf x).toList else []) := by
  cases x with
  | tmp s => cases take <;> simp [moveIt] at h <;> subst h <;> simp [moveIt, slotOf]
  | const c =>
    simp only [moveIt] at h
    cases ho : opv ρ (.const c) with
    | none => simp [ho] at h
    | some p => simp [ho] at h; subst h; simp [moveIt, ho]
  | func f => simp [moveIt, opv] at h; subst h; simp [moveIt, opv]
  | global f => simp [moveIt, opv] at h
theorem callIt_pure {f : FuncId} {args : List PV} {σ : Store} {r : PV × Store} (hx : (E.ext E.loose f).isSome ≠ true) (hp : ((E.ov f).isSome || E.pure f) = true) (h : callIt E F f args σ = some r) : r.2 = σ ∧ ∀ σ', callIt E F f args σ' = some (r.1, σ') := by
  have hx' : E.ext E.loose f = none := by simpa using hx
  unfold callIt at h ⊢
  simp only [hx'] at h ⊢
  cases hg : E.ov f with
  | some g =>
    simp only [hg] at h ⊢
    split at h
    · rename_i hd
      cases hr : g args with
      | none => simp [hr] at h
      | some x =>
        simp only [hr, Option.bind_some] at h ⊢
        split at h
        · rename_i hx; cases h; simp [hd, hx]
        · cases h
    · cases h
  | none =>
    simp only [hg, Option.isSome_none, Bool.false_or] at hp
    simp only [hg, hp, if_true] at h ⊢
    split at h
    · rename_i hd
      cases hr : F f args [] with
      | none => simp [hr] at h
      | some x =>
        simp only [hr, Option.bind_some] at h ⊢
        split at h
        · rename_i hx; cases h; simp [hd, hx]
        · rename_i hx
          cases hz : frzP x.2 (x.2.length + 1) x.1 with
          | none => simp [hz] at h
          | some q => simp [hz] at h; subst h; simp [hd, hx, hz]
    · cases h
theorem core_cls {aps : List Nat} {o : Oper} {σ : Store} {g : Gives} (h : evCore E F aps o.dst o.op ρ σ = some g) :
    (∀ s, g.2.1 = some s → s ∈ takenFrom aps o) ∧
    (clsOf E aps o = .pure → g.2.2 = σ ∧ ∀ σ', evCore E F aps o.dst o.op ρ σ' = some (g.1, g.2.1, σ')) ∧
    (clsOf E aps o = .rd → g.2.2 = σ ∧ ∀ c, evCore E F aps o.dst o.op ρ (σ ++ c) = some (g.1, g.2.1, σ ++ c)) ∧
    (clsOf E aps o = .al → ∃ c, g.2.2 = σ ++ c) := by
  have pure : ∀ {op : Op}, (evPure E.P ρ op).map (fun r => (r, (none : Option Nat), σ)) = some g → g.2.1 = none ∧ g.2.2 = σ ∧ ∀ σ' : Store, (evPure E.P ρ op).map (fun r => (r, (none : Option Nat), σ')) = some (g.1, g.2.1, σ') := by
    intro op h
    cases hr : evPure E.P ρ op with
    | none => simp [hr] at h
    | some r => simp [hr] at h; subst h; simp
  obtain ⟨dst, op, ty, pos, after, guard⟩ := o
  simp only at h
  cases op with
  | move x =>
    obtain ⟨h1, h2, h3⟩ := moveIt_cls h
    exact ⟨by simpa [takenFrom] using h3, fun _ => ⟨h1, h2⟩, fun hc => by simp [clsOf] at hc, fun hc => by simp [clsOf] at hc⟩
  | assign x =>
    obtain ⟨h1, h2, h3⟩ := moveIt_cls h
    exact ⟨by simpa [takenFrom] using h3, fun _ => ⟨h1, h2⟩, fun hc => by simp [clsOf] at hc, fun hc => by simp [clsOf] at hc⟩
  | alloc t =>
    simp only [evCore] at h
    cases hz : zeroT E.P t with
    | none => simp [hz] at h
    | some z => simp [hz] at h; subst h; exact ⟨by simp, fun hc => by simp [clsOf] at hc, fun hc => by simp [clsOf] at hc, fun _ => ⟨_, rfl⟩⟩
  | makeSlice t l c =>
    simp only [evCore] at h
    cases hl : use ρ l with
    | none => simp [hl] at h
    | some lv =>
      cases hcv : use ρ c with
      | none => simp [hl, hcv] at h
      | some cv =>
        simp only [hl, hcv, Option.bind_some] at h
        cases hn : natOf lv with
        | none => simp [hn] at h
        | some n =>
          cases hm : natOf cv with
          | none => simp [hn, hm] at h
          | some m =>
            simp only [hn, hm, Option.bind_some] at h
            by_cases hmk : mkSel E dst = true
            · rw [if_pos hmk] at h
              cases hr : evMakeD E.P t n m with
              | none => simp [hr] at h
              | some r => simp [hr] at h; subst h; exact ⟨by simp, fun _ => ⟨rfl, fun σ' => by simp [evCore, hl, hcv, hn, hm, hmk, hr]⟩, fun hc => by simp [clsOf, hmk] at hc, fun hc => by simp [clsOf, hmk] at hc⟩
            have hmf : mkSel E dst = false := by simpa using hmk
            rw [if_neg hmk] at h
            cases hr : evMake E.P t n m with
            | none => simp [hr] at h
            | some r => simp [hr] at h; subst h; exact ⟨by simp, fun hc => by simp [clsOf, hmf] at hc, fun hc => by simp [clsOf, hmf] at hc, fun _ => ⟨_, rfl⟩⟩
  | box t x =>
    simp only [evCore] at h
    cases hx : opv ρ x with
    | none => simp [hx] at h
    | some p =>
      simp only [hx, Option.map_some, Option.some.injEq] at h
      subst h
      exact ⟨by simp, fun hc => by simp [clsOf] at hc, fun hc => by simp [clsOf] at hc, fun _ => ⟨_, rfl⟩⟩
  | load t x =>
    simp only [evCore] at h ⊢
    cases hx : use ρ x with
    | none => simp [hx] at h
    | some p =>
      simp only [hx, Option.bind_some] at h ⊢
      cases hr : loadAs E.P t σ (takes aps dst) p with
      | none => simp [hr] at h
      | some r =>
        rw [hr] at h
        simp only [Option.map_some, Option.some.injEq] at h
        subst h
        refine ⟨by simp, fun hc => by simp only [clsOf] at hc; split at hc <;> simp at hc, fun hc => ?_, fun hc => by simp only [clsOf] at hc; split at hc <;> simp at hc⟩
        have ht : takes aps dst = false := by
          simp only [clsOf] at hc
          split at hc
          · simp at hc
          · rename_i h; simpa using h
        rw [ht] at hr ⊢
        have key : r.2 = σ ∧ ∀ c, loadAs E.P t (σ ++ c) false p = some (r.1, σ ++ c) := by
          have hl : ∀ {id off n : Nat} {ps : List PV} (c : Store), loadS σ id off n = some ps → loadS (σ ++ c) id off n = some ps := by
            intro id off n ps c hh
            obtain ⟨cells, h1, h2, h3⟩ := loadS_get hh
            unfold loadS at hh ⊢
            rw [List.getElem?_append_left (List.getElem?_eq_some_iff.1 h1).1]
            exact hh
          unfold loadAs at hr ⊢
          cases ha : aggT E.P t with
          | none => simp [ha] at hr
          | some ag =>
            simp only [ha, Option.bind_some] at hr ⊢
            split at hr
            · cases ag with
              | true =>
                simp only [if_true] at hr ⊢
                cases hs : szT E.P t with
                | none => simp [hs] at hr
                | some sz =>
                  simp only [hs, Option.bind_some] at hr ⊢
                  rename_i id off
                  cases hq : loadS σ id off sz with
                  | none => simp [hq] at hr
                  | some ps => simp [hq] at hr; subst hr; exact ⟨rfl, fun c => by rw [hl c hq]; rfl⟩
              | false =>
                simp only [Bool.false_eq_true, if_false] at hr ⊢
                rename_i id off
                cases hq : loadS σ id off 1 with
                | none => simp [hq] at hr
                | some ps =>
                  simp only [hq, Option.bind_some] at hr
                  split at hr
                  · cases hr; exact ⟨rfl, fun c => by rw [hl c hq]; rfl⟩
                  · cases hr
            · cases ag with
              | true =>
                simp only [if_true] at hr ⊢
                cases hs : szT E.P t with
                | none => simp [hs] at hr
                | some sz =>
                  simp only [hs, Option.bind_some] at hr ⊢
                  split at hr
                  · rename_i hle; cases hr; exact ⟨rfl, fun c => by rw [if_pos hle]⟩
                  · cases hr
              | false =>
                simp only [Bool.false_eq_true, if_false] at hr ⊢
                rename_i cells
                cases hq : cells[0]? with
                | none => simp [hq] at hr
                | some y => simp [hq] at hr; subst hr; exact ⟨rfl, fun c => rfl⟩
            · cases hr
        exact ⟨key.1, fun c => by rw [key.2 c]; rfl⟩
  | store t x v =>
    simp only [evCore] at h
    cases hx : use ρ x with
    | none => simp [hx] at h
    | some p =>
      cases hv : opv ρ v with
      | none => simp [hx, hv] at h
      | some u =>
        simp only [hx, hv, Option.bind_some] at h
        cases hs : storeAs E.P E.loose t σ p u with
        | none => simp [hs] at h
        | some σ' =>
          simp [hs] at h
          subst h
          exact ⟨fun s hs => by simp only at hs; simp [takenFrom, hs], fun hc => by simp [clsOf] at hc, fun hc => by simp [clsOf] at hc, fun hc => by simp [clsOf] at hc⟩
  | call c =>
    simp only [evCore] at h ⊢
    by_cases hmk : mkSel E dst = true
    · rw [if_pos hmk] at h
      obtain ⟨m1, m2⟩ := evMkApp_ext h
      exact ⟨fun s hs => (by rw [m1] at hs; cases hs), fun hc => by simp [clsOf, hmk] at hc, fun hc => by simp [clsOf, hmk] at hc, fun _ => m2⟩
    have hmf : mkSel E dst = false := by simpa using hmk
    simp only [hmf, Bool.false_eq_true, if_false] at h ⊢
    obtain ⟨callee, args, tys⟩ := c
    simp only [evCall] at h ⊢
    split at h
    · split at h
      · rename_i tS tX s x h1 h2
        split at h
        · rename_i htt
          subst htt
          cases hs : opv ρ s with
          | none => simp [hs] at h
          | some sv =>
            cases hx : use ρ x with
            | none => simp [hs, hx] at h
            | some xv =>
              simp only [hs, hx, Option.bind_some] at h
              cases hr : evAppend E.P tS sv xv with
              | none => simp [hr] at h
              | some r =>
                simp [hr] at h
                subst h
                refine ⟨fun k hk => by simp only at hk; simp [takenFrom, h2, hk], fun _ => ⟨rfl, fun σ' => by simp [hs, hx, hr]⟩, fun hc => by simp [clsOf, hmf] at hc, fun hc => by simp [clsOf, hmf] at hc⟩
        · cases h
      · cases h
    · split at h
      · rename_i t x h1 h2
        cases hx : use ρ x with
        | none => simp [hx] at h
        | some p =>
          simp only [hx, Option.bind_some] at h
          cases hr : evLen E.P t p with
          | none => simp [hr] at h
          | some r =>
            simp [hr] at h
            subst h
            refine ⟨by simp, fun _ => ⟨rfl, fun σ' => by simp [hx, hr]⟩, fun hc => by simp [clsOf, hmf] at hc, fun hc => by simp [clsOf, hmf] at hc⟩
      · cases h
    · split at h
      · rename_i t t' x y h1 h2
        cases hx : use ρ x with
        | none => simp [hx] at h
        | some p =>
          cases hy : use ρ y with
          | none => simp [hx, hy] at h
          | some q =>
            simp only [hx, hy, Option.bind_some] at h
            cases hr : evCopy E.P E.loose t σ p q with
            | none => simp [hr] at h
            | some r =>
              simp [hr] at h
              subst h
              refine ⟨by simp, fun hc => by simp [clsOf, hmf] at hc, fun hc => by simp [clsOf, hmf] at hc, fun hc => by simp [clsOf, hmf] at hc⟩
      · cases h
    · split at h
      · rename_i t x h1 h2
        cases hx : use ρ x with
        | none => simp [hx] at h
        | some p =>
          simp only [hx, Option.bind_some] at h
          cases hr : evClear E.P t σ p with
          | none => simp [hr] at h
          | some r =>
            simp [hr] at h
            subst h
            refine ⟨by simp, fun hc => by simp [clsOf, hmf] at hc, fun hc => by simp [clsOf, hmf] at hc, fun hc => by simp [clsOf, hmf] at hc⟩
      · cases h
    · cases hps : useL ρ args.toList with
      | none => simp [hps] at h
      | some ps =>
        simp only [hps, Option.bind_some] at h
        cases hr : evMinMax E.P false ps with
        | none => simp [hr] at h
        | some r =>
          simp [hr] at h
          subst h
          refine ⟨by simp, fun _ => ⟨rfl, fun σ' => by simp [hps, hr]⟩, fun hc => by simp [clsOf, hmf] at hc, fun hc => by simp [clsOf, hmf] at hc⟩
    · cases hps : useL ρ args.toList with
      | none => simp [hps] at h
      | some ps =>
        simp only [hps, Option.bind_some] at h
        cases hr : evMinMax E.P true ps with
        | none => simp [hr] at h
        | some r =>
          simp [hr] at h
          subst h
          refine ⟨by simp, fun _ => ⟨rfl, fun σ' => by simp [hps, hr]⟩, fun hc => by simp [clsOf, hmf] at hc, fun hc => by simp [clsOf, hmf] at hc⟩
    · cases h
    · cases h
    · rename_i f
      cases hfv : use ρ f with
      | none => simp [hfv] at h
      | some fv =>
        cases hps : useL ρ args.toList with
        | none => simp [hfv, hps] at h
        | some ps =>
          simp only [hfv, hps, Option.bind_some] at h
          split at h
          · rename_i g' first captured
            cases hr : callIt E F g' (first.map PV.strip ++ ps ++ captured.map PV.strip) σ with
            | none => rw [hr] at h; cases h
            | some r =>
              rw [hr] at h
              cases h
              have hcls : ∀ {C : Cls}, clsOf E aps ⟨dst, .call ⟨.value f, args, tys⟩, ty, pos, after, guard⟩ = C → C ≠ .wr → C ≠ .ro → C = .pure ∧ ∃ f', f = .func f' ∧ (E.ext E.loose f').isSome ≠ true ∧ ((E.ov f').isSome || E.pure f') = true := by
                intro C hC hn1 hn2
                simp only [clsOf, hmf, Bool.false_eq_true, if_false] at hC
                split at hC
                all_goals first
                  | (rename_i hb; cases hb; done)
                  | (rename_i b hb; cases hb; done)
                  | (rename_i b hb h1 h2; cases hb; done)
                  | (rename_i f' hb
                     cases hb
                     split at hC
                     · exact absurd hC.symm hn1
                     · split at hC
                       · rename_i e1 e2
                         exact ⟨hC.symm, f', rfl, e1, e2⟩
                       · split at hC
                         · exact absurd hC.symm hn2
                         · exact absurd hC.symm hn1)
                  | exact absurd hC.symm hn1
              refine ⟨by simp, fun hc => ?_, fun hc => ?_, fun hc => ?_⟩
              · obtain ⟨_, f', rfl, hxx, hpp⟩ := hcls hc (by simp) (by simp)
                simp [use, opv, PV.strip, PV.strip1] at hfv
                obtain ⟨rfl, rfl, rfl⟩ := hfv
                obtain ⟨c1, c2⟩ := callIt_pure hxx hpp hr
                simp only [List.map_nil, List.nil_append, List.append_nil] at c2
                exact ⟨c1, fun σ' => by simp [c2 σ', use, opv, PV.strip, PV.strip1]⟩
              · exact absurd (hcls hc (by simp) (by simp)).1 (by simp)
              · exact absurd (hcls hc (by simp) (by simp)).1 (by simp)
          · cases h
  | _ =>
    first
      | (simp [evCore, evPure] at h; done)
      | (have hp := pure h
         exact ⟨fun s hs => (by rw [hp.1] at hs; cases hs), fun _ => ⟨hp.2.1, fun σ' => hp.2.2 σ'⟩, fun hc => (by simp [clsOf] at hc), fun hc => (by simp [clsOf] at hc)⟩)
end cls
end Go.Pv

namespace Go.Pv
open Go
def disj (a b : List Nat) : Bool := a.all fun x => !b.contains x
def compat : Cls → Cls → Bool
  | .pure, _ => true
  | _, .pure => true
  | .rd, .rd => true
  | .rd, .al => true
  | .ro, .ro => true
  | .ro, .rd => true
  | .rd, .ro => true
  | _, _ => false
def apOps (D : List (Nat × Nat)) (aps : List Nat) (x y : Oper) : Bool :=
  match x.op, y.op with
  | .load _ (.tmp a), .store _ (.tmp b) _ => D.contains (a, b) && !takes aps x.dst
  | _, _ => false
def tkOps (aps : List Nat) (x y : Oper) : Bool :=
  match x.op, y.op with
  | .load _ _, .load _ _ => takes aps x.dst != takes aps y.dst
  | _, _ => false
def indep (E : Env) (ops : Array Oper) (aps : List Nat) (D : List (Nat × Nat)) (x y : Oper) : Bool :=
  disj (writesOf aps x) (y.looksAt ops) && disj (writesOf aps x) (writesOf aps y) && disj (writesOf aps y) (x.looksAt ops) && (compat (clsOf E aps x) (clsOf E aps y) || apOps D aps x y || tkOps aps x y)
def Apart (D : List (Nat × Nat)) (ρ : Nat → PV) : Prop := ∀ x ∈ D, apartB ρ x = true
theorem apart_of {ρ : Nat → PV} : ∀ {D : List (Nat × Nat)}, apartL ρ D = true → Apart D ρ
  | [], _, x, hx => by simp at hx
  | y :: D, h, x, hx => by
    simp only [apartL, Bool.and_eq_true] at h
    cases hx with
    | head => exact h.1
    | tail _ hx => exact apart_of h.2 x hx
theorem Apart.congr {D : List (Nat × Nat)} {ρ ρ' : Nat → PV} (h : Apart D ρ) (he : ∀ x ∈ D, ρ' x.1 = ρ x.1 ∧ ρ' x.2 = ρ x.2) : Apart D ρ' := fun x hx => by
  unfold apartB
  rw [(he x hx).1, (he x hx).2]
  exact h x hx
theorem disj_spec {a b : List Nat} (h : disj a b = true) : ∀ x ∈ a, ∀ y ∈ b, x ≠ y := by
  intro x hx y hy he
  subst he
  have := List.all_eq_true.1 h x hx
  simp at this
  exact this hy
section comm
variable {E : Env} {F : FnEv} {ops : Array Oper}
theorem want_congr {o : Oper} {ρ ρ' : Nat → PV} (h : ∀ t ∈ o.looksAt ops, ρ t = ρ' t) : evWant ops o ρ = evWant ops o ρ' := by
  unfold evWant
  cases hg : o.guard with
  | none => rfl
  | some jw =>
    obtain ⟨j, want⟩ := jw
    simp only []
    cases hd : (ops[j]?).bind (·.dst) with
    | none => rfl
    | some s =>
      simp only []
      rw [h s]
      unfold Oper.looksAt
      rw [List.mem_append]
      refine .inr ?_
      simp [hg, hd]
theorem evOpR_congr {o : Oper} {ρ ρ' : Nat → PV} {σ : Store} (h : ∀ t ∈ o.looksAt ops, ρ t = ρ' t) (ht : ∀ t ∈ takenFrom (appendFirst ops.toList) o, ρ t = ρ' t) : evOpR E F ops o ρ σ = evOpR E F ops o ρ' σ := by
  unfold evOpR
  rw [want_congr h]
  cases evWant ops o ρ' with
  | none => rfl
  | some b =>
    simp only [Option.bind_some]
    rw [evCore_congr (looksAt_agree h)]
    cases hc : evCore E F (appendFirst ops.toList) o.dst o.op ρ' σ with
    | none => rfl
    | some g =>
      have hk := (core_cls hc).1
      have : untakeU ρ g.2.1 = untakeU ρ' g.2.1 := by
        cases hs : g.2.1 with
        | none => rfl
        | some s => simp only [untakeU]; rw [ht s (hk s hs)]
      simp only [Option.map_some, this]
theorem opR_cls {o : Oper} {ρ : Nat → PV} {σ : Store} {r : List (Nat × PV) × Store} (h : evOpR E F ops o ρ σ = some r) :
    (∀ x ∈ r.1, x.1 ∈ writesOf (appendFirst ops.toList) o) ∧
    (clsOf E (appendFirst ops.toList) o = .pure → r.2 = σ ∧ ∀ σ', evOpR E F ops o ρ σ' = some (r.1, σ')) ∧
    (clsOf E (appendFirst ops.toList) o = .rd → r.2 = σ ∧ ∀ c, evOpR E F ops o ρ (σ ++ c) = some (r.1, σ ++ c)) ∧
    (clsOf E (appendFirst ops.toList) o = .al → ∃ c, r.2 = σ ++ c) := by
  unfold evOpR at h ⊢
  cases hw : evWant ops o ρ with
  | none => simp [hw] at h
  | some b =>
    simp only [hw, Option.bind_some] at h ⊢
    have hput : ∀ v, ∀ x ∈ putU o.dst v, x.1 ∈ writesOf (appendFirst ops.toList) o := by
      intro v x hx
      unfold writesOf
      rw [List.mem_append]
      refine .inr ?_
      cases hd : o.dst with
      | none => rw [hd] at hx; simp [putU] at hx
      | some d => rw [hd] at hx; simp [putU] at hx; subst hx; simp
    cases b with
    | true =>
      simp only [if_true] at h ⊢
      cases hc : evCore E F (appendFirst ops.toList) o.dst o.op ρ σ with
      | none => simp [hc] at h
      | some g =>
        simp [hc] at h
        subst h
        obtain ⟨h1, h2, h3, h4⟩ := core_cls hc
        refine ⟨fun x hx => ?_, fun hcl => ⟨(h2 hcl).1, fun σ' => by rw [(h2 hcl).2 σ']; rfl⟩, fun hcl => ⟨(h3 hcl).1, fun c => by rw [(h3 hcl).2 c]; rfl⟩, fun hcl => h4 hcl⟩
        rcases List.mem_append.1 hx with hx | hx
        · unfold writesOf
          rw [List.mem_append]
          refine .inl (h1 x.1 ?_)
          cases ht : g.2.1 with
          | none => rw [ht] at hx; simp [untakeU] at hx
          | some s => rw [ht] at hx; simp [untakeU] at hx; subst hx; rfl
        · exact hput _ x hx
    | false =>
      simp at h
      subst h
      exact ⟨hput _, fun _ => ⟨rfl, fun σ' => by simp⟩, fun _ => ⟨rfl, fun c => by simp⟩, fun _ => ⟨[], by simp⟩⟩
theorem takenFrom_reads (aps : List Nat) (o : Oper) : ∀ s ∈ takenFrom aps o, s ∈ o.looksAt ops := by
  have key : ∀ x : Operand, x ∈ o.op.operands.toList → ∀ s ∈ (slotOf x).toList, s ∈ o.looksAt ops := by
    intro x hx s hs
    unfold Oper.looksAt
    rw [List.mem_append]
    refine .inl (List.mem_filterMap.2 ⟨x, hx, ?_⟩)
    cases x <;> simp [slotOf] at hs
    subst hs
    rfl
  intro s hs
  unfold takenFrom at hs
  split at hs
  · rename_i x hop
    split at hs
    · exact key x (by rw [hop]; simp [Op.operands]) s hs
    · simp at hs
  · rename_i x hop
    exact key x (by rw [hop]; simp [Op.operands]) s hs
  · rename_i t p x hop
    exact key x (by rw [hop]; simp [Op.operands]) s hs
  · rename_i c hop
    split at hs
    · rename_i s0 rest _ ha
      refine key s0 ?_ s hs
      rw [hop]
      simp only [Op.operands, Call.operands, Array.toList_append, List.mem_append]
      exact .inr (by rw [ha]; simp)
    · simp at hs
  · simp at hs
theorem core_ro {aps : List Nat} {o : Oper} {ρ : Nat → PV} {σ : Store} {g : Gives} (hc : clsOf E aps o = .ro) (h : evCore E F aps o.dst o.op ρ σ = some g) : g.2.2 = σ := by
  obtain ⟨dst, op, ty, pos, after, guard⟩ := o
  unfold clsOf at hc
  cases op <;> simp only [] at hc <;> try (cases hc; done)
  case load t x => split at hc <;> cases hc
  case makeSlice t l c => split at hc <;> cases hc
  case call c =>
    split at hc
    · cases hc
    rename_i hmk
    simp only [evCore, hmk, if_false] at h
    obtain ⟨callee, args, argTypes⟩ := c
    cases callee with
    | builtin b => cases b <;> simp at hc
    | invoke r n => simp at hc
    | value f =>
      cases f with
      | func f =>
        simp only at hc
        split at hc
        · cases hc
        rename_i hx0
        have hx' : E.ext E.loose f = none := by simpa using hx0
        split at hc
        · cases hc
        · rename_i hp
          split at hc
          · rename_i hro
            simp only [Bool.or_eq_true, not_or, Bool.not_eq_true] at hp
            have hov : E.ov f = none := by
              have := hp.1
              cases hq : E.ov f with
              | none => rfl
              | some _ => rw [hq] at this; cases this
            simp only [evCall] at h
            have hu : use ρ (.func f) = some (.func (.func f) [] []) := rfl
            rw [hu] at h
            simp only [Option.bind_some] at h
            cases ha : useL ρ args.toList with
            | none => simp [ha] at h
            | some as =>
              simp only [ha, Option.bind_some, callIt, hx', hov, hp.2, hro, if_true, Bool.false_eq_true, if_false] at h
              cases hr : F f (([] : List PV).map PV.strip ++ as ++ ([] : List PV).map PV.strip) σ with
              | none => rw [hr] at h; cases h
              | some r =>
                rw [hr] at h
                simp only [Option.bind_some] at h
                split at h
                · cases h; rfl
                · cases h
          · cases hc
      | _ => simp at hc
theorem opR_ro {o : Oper} {ρ : Nat → PV} {σ : Store} {r : List (Nat × PV) × Store} (hc : clsOf E (appendFirst ops.toList) o = .ro) (h : evOpR E F ops o ρ σ = some r) : r.2 = σ := by
  unfold evOpR at h
  cases hw : evWant ops o ρ with
  | none => simp [hw] at h
  | some w =>
    cases w with
    | false => simp [hw] at h; subst h; rfl
    | true =>
      simp only [hw, Option.bind_some, if_true] at h
      cases hg : evCore E F (appendFirst ops.toList) o.dst o.op ρ σ with
      | none => simp [hg] at h
      | some g => simp [hg] at h; subst h; exact core_ro hc hg
theorem loadAs_other {P : Program} {t : TypeId} {σ : Store} {i o j : Nat} {c : List PV} {r : PV × Store} (hij : i ≠ j) (h : loadAs P t σ false (.ptr i o) = some r) :
    r.2 = σ ∧ loadAs P t (σ.set j c) false (.ptr i o) = some (r.1, σ.set j c) := by
  have hl : ∀ n, loadS (σ.set j c) i o n = loadS σ i o n := fun n => by
    unfold loadS
    rw [List.getElem?_set, if_neg (Ne.symm hij)]
  unfold loadAs at h ⊢
  cases ha : aggT P t with
  | none => simp [ha] at h
  | some b =>
    cases b with
    | true =>
      simp only [ha, Option.bind_some, if_true] at h ⊢
      cases hs : szT P t with
      | none => simp [hs] at h
      | some n =>
        simp only [hs, Option.bind_some, hl] at h ⊢
        cases hv : loadS σ i o n with
        | none => simp [hv] at h
        | some v => simp [hv] at h ⊢; subst h; exact ⟨rfl, rfl⟩
    | false =>
      simp only [ha, Option.bind_some, Bool.false_eq_true, if_false, hl] at h ⊢
      cases hv : loadS σ i o 1 with
      | none => simp [hv] at h
      | some v =>
        simp only [hv, Option.bind_some] at h ⊢
        split at h
        · cases h; exact ⟨rfl, rfl⟩
        · cases h
theorem load_apart {D : List (Nat × Nat)} {x y : Oper} {ρ : Nat → PV} {σ : Store} {rx ry : List (Nat × PV) × Store} (hap : apOps D (appendFirst ops.toList) x y = true) (hD : Apart D ρ)
    (hx : evOpR E F ops x ρ σ = some rx) (hy : evOpR E F ops y ρ σ = some ry) : rx.2 = σ ∧ evOpR E F ops x ρ ry.2 = some (rx.1, ry.2) := by
  unfold apOps at hap
  split at hap
  · rename_i t a t' b v hxo hyo
    simp only [Bool.and_eq_true, Bool.not_eq_true', List.contains_iff_mem] at hap
    obtain ⟨hmem, htk⟩ := hap
    have hab := hD _ hmem
    unfold apartB at hab
    split at hab
    · rename_i i oi j oj hi hj
      simp only [bne_iff_ne] at hab
      -- the store's store
      have hσ : ry.2 = σ ∨ ∃ c, ry.2 = σ.set j c := by
        unfold evOpR at hy
        cases hw : evWant ops y ρ with
        | none => simp [hw] at hy
        | some w =>
          cases w with
          | false => simp [hw] at hy; subst hy; exact .inl rfl
          | true =>
            simp only [hw, Option.bind_some, if_true, evCore, hyo] at hy
            have hu : use ρ (.tmp b) = some (.ptr j oj) := by simp only [use, opv, Option.map_some, hj]; rfl
            rw [hu] at hy
            simp only [Option.bind_some] at hy
            cases hv : opv ρ v with
            | none => simp [hv] at hy
            | some u =>
              simp only [hv, Option.bind_some] at hy
              cases hs : storeAs E.P E.loose t' σ (.ptr j oj) u with
              | none => simp [hs] at hy
              | some σ' =>
                simp [hs] at hy
                subst hy
                unfold storeAs at hs
                simp only at hs
                split at hs
                · unfold storeS at hs
                  cases hg : σ[j]? with
                  | none => simp [hg] at hs
                  | some cs =>
                    simp only [hg, Option.bind_some] at hs
                    split at hs
                    · cases hs; exact .inr ⟨_, rfl⟩
                    · cases hs
                · cases hs
      unfold evOpR at hx ⊢
      cases hw : evWant ops x ρ with
      | none => simp [hw] at hx
      | some w =>
        cases w with
        | false => simp [hw] at hx ⊢; subst hx; exact ⟨rfl, rfl⟩
        | true =>
          simp only [hw, Option.bind_some, if_true, evCore, hxo, htk] at hx ⊢
          have hu : use ρ (.tmp a) = some (.ptr i oi) := by simp only [use, opv, Option.map_some, hi]; rfl
          rw [hu] at hx ⊢
          simp only [Option.bind_some] at hx ⊢
          cases hl : loadAs E.P t σ false (.ptr i oi) with
          | none => simp [hl] at hx
          | some r =>
            rw [hl] at hx
            rcases hσ with hσ | ⟨c, hσ⟩
            · rw [hσ, hl]
              have := (loadAs_other (c := []) hab hl).1
              simp at hx
              subst hx
              refine ⟨this, ?_⟩
              simp [this]
            · obtain ⟨h1, h2⟩ := loadAs_other (c := c) hab hl
              rw [hσ, h2]
              simp at hx
              subst hx
              exact ⟨h1, by simp⟩
    · cases hab
  · cases hap
theorem apOps_rd {D : List (Nat × Nat)} {x y : Oper} {ρ : Nat → PV} {σ : Store} {rx : List (Nat × PV) × Store} (hap : apOps D (appendFirst ops.toList) x y = true) (hx : evOpR E F ops x ρ σ = some rx) : rx.2 = σ := by
  unfold apOps at hap
  split at hap
  · rename_i t a t' b v hxo hyo
    simp only [Bool.and_eq_true, Bool.not_eq_true'] at hap
    exact ((opR_cls hx).2.2.1 (by simp [clsOf, hxo, hap.2])).1
  · cases hap
theorem strip_strip1 (p : PV) : p.strip1.strip = p.strip := by cases p <;> rfl
theorem strip1_strip1 (p : PV) : p.strip1.strip1 = p.strip1 := by cases p <;> rfl
theorem take_effect {P : Program} {t : TypeId} {σ : Store} {tk : Bool} {p : PV} {r : PV × Store} (h : loadAs P t σ tk p = some r) :
    r.2 = σ ∨ ∃ (id off : Nat) (cells : List PV) (c : PV), σ[id]? = some cells ∧ cells[off]? = some c ∧ r.2 = σ.set id (cells.set off c.strip1) := by
  unfold loadAs at h
  cases ha : aggT P t with
  | none => simp [ha] at h
  | some b =>
    simp only [ha, Option.bind_some] at h
    split at h
    · rename_i id off
      split at h
      · cases hs : szT P t with
        | none => simp [hs] at h
        | some n =>
          simp only [hs, Option.bind_some] at h
          cases hv : loadS σ id off n with
          | none => simp [hv] at h
          | some v => simp [hv] at h; subst h; exact .inl rfl
      · cases hv : loadS σ id off 1 with
        | none => simp [hv] at h
        | some v =>
          simp only [hv, Option.bind_some] at h
          split at h
          · rename_i c
            split at h
            · cases hst : storeS σ id off [c.strip1] with
              | none => simp [hst] at h
              | some σ' =>
                simp [hst] at h
                subst h
                obtain ⟨cells, hc, hlen, hps⟩ := loadS_get hv
                have hcc : cells[off]? = some c := by
                  have : ([c] : List PV)[0]? = ((cells.drop off).take 1)[0]? := by rw [← hps]
                  rw [List.getElem?_take] at this
                  simpa using this.symm
                refine .inr ⟨id, off, cells, c, hc, hcc, ?_⟩
                unfold storeS at hst
                simp only [hc, Option.bind_some] at hst
                split at hst
                · rename_i hle
                  cases hst
                  show σ.set id _ = σ.set id _
                  congr 1
                  apply List.ext_getElem?
                  intro j
                  simp only [List.length_cons, List.length_nil] at hle
                  rw [List.getElem?_set]
                  by_cases hj : off = j
                  · subst hj
                    rw [if_pos rfl, List.append_assoc, List.getElem?_append_right (by simp; omega)]
                    simp
                    rw [show off - min off cells.length = 0 by omega, if_pos (by omega)]
                    simp
                  · rw [if_neg hj, List.append_assoc]
                    by_cases hj2 : j < off
                    · rw [List.getElem?_append_left (by simp; omega), List.getElem?_take, if_pos hj2]
                    · rw [List.getElem?_append_right (by simp; omega), List.getElem?_append_right (by simp; omega), List.getElem?_drop]
                      congr 1
                      simp
                      omega
                · cases hst
            · cases h; exact .inl rfl
          · cases h
    · split at h
      · cases hs : szT P t with
        | none => simp [hs] at h
        | some n =>
          simp only [hs, Option.bind_some] at h
          split at h
          · cases h; exact .inl rfl
          · cases h
      · rename_i cells _
        cases hc : cells[0]? with
        | none => simp [hc] at h
        | some c => simp [hc] at h; subst h; exact .inl rfl
    · cases h
theorem plain_after {P : Program} {t : TypeId} {σ : Store} {q : PV} {id off : Nat} {cells : List PV} {c : PV} (hc : σ[id]? = some cells) (hcc : cells[off]? = some c) :
    loadAs P t (σ.set id (cells.set off c.strip1)) false q = (loadAs P t σ false q).map fun r => (r.1, σ.set id (cells.set off c.strip1)) := by
  have hol : off < cells.length := (List.getElem?_eq_some_iff.1 hcc).1
  have hidl : id < σ.length := (List.getElem?_eq_some_iff.1 hc).1
  have hl : ∀ i o n, (loadS σ i o n = none ∧ loadS (σ.set id (cells.set off c.strip1)) i o n = none) ∨ ∃ v v', loadS σ i o n = some v ∧ loadS (σ.set id (cells.set off c.strip1)) i o n = some v' ∧ v'.map PV.strip1 = v.map PV.strip1 ∧ v'.map PV.strip = v.map PV.strip := by
    intro i o n
    unfold loadS
    rw [List.getElem?_set]
    by_cases hi : id = i
    · subst hi
      rw [if_pos rfl, if_pos hidl, hc]
      simp only [Option.bind_some, List.length_set]
      by_cases hle : o + n ≤ cells.length
      · rw [if_pos hle, if_pos hle]
        have key : ∀ f : PV → PV, (f c.strip1 = f c) → (((cells.set off c.strip1).drop o).take n).map f = ((cells.drop o).take n).map f := by
          intro f hf
          have : (cells.set off c.strip1).map f = cells.map f := by
            apply List.ext_getElem?
            intro j
            rw [List.getElem?_map, List.getElem?_map, List.getElem?_set]
            split
            · rename_i hj
              subst hj
              rw [hcc]
              simp [hf]
            · rfl
          rw [List.map_take, List.map_drop, this, List.map_take, List.map_drop]
        exact .inr ⟨_, _, rfl, rfl, key _ (strip1_strip1 c), key _ (strip_strip1 c)⟩
      · rw [if_neg hle, if_neg hle]
        exact .inl ⟨rfl, rfl⟩
    · rw [if_neg hi]
      cases hs : σ[i]? with
      | none => exact .inl ⟨rfl, rfl⟩
      | some cs =>
        simp only [Option.bind_some]
        by_cases hle : o + n ≤ cs.length
        · rw [if_pos hle]; exact .inr ⟨_, _, rfl, rfl, rfl, rfl⟩
        · rw [if_neg hle]; exact .inl ⟨rfl, rfl⟩
  unfold loadAs
  cases ha : aggT P t with
  | none => rfl
  | some b =>
    simp only [Option.bind_some]
    cases q with
    | ptr i o =>
      simp only
      cases b with
      | true =>
        simp only [if_true]
        cases hs : szT P t with
        | none => rfl
        | some n =>
          simp only [Option.bind_some]
          rcases hl i o n with ⟨h1, h2⟩ | ⟨v, v', h1, h2, h3, _⟩
          · rw [h1, h2]; rfl
          · rw [h1, h2]; simp [h3]
      | false =>
        simp only [Bool.false_eq_true, if_false]
        rcases hl i o 1 with ⟨h1, h2⟩ | ⟨v, v', h1, h2, _, h4⟩
        · rw [h1, h2]; rfl
        · rw [h1, h2]
          simp only [Option.bind_some]
          cases v with
          | nil => cases v' with
            | nil => rfl
            | cons _ _ => simp at h4
          | cons a as => cases v' with
            | nil => simp at h4
            | cons a' as' =>
              simp at h4
              cases as with
              | nil =>
                have : as' = [] := by simpa using h4.2
                subst this
                simp [h4.1]
              | cons x xs => cases as' with
                | nil => simp at h4
                | cons _ _ => rfl
    | ro cs =>
      simp only
      cases b with
      | true =>
        simp only [if_true]
        cases hs : szT P t with
        | none => rfl
        | some n =>
          simp only [Option.bind_some]
          split <;> rfl
      | false =>
        simp only [Bool.false_eq_true, if_false]
        cases cs[0]? <;> rfl
    | _ => rfl
theorem opR_load {o : Oper} {t : TypeId} {x : Operand} (ho : o.op = .load t x) (ρ : Nat → PV) : (∀ σ, evOpR E F ops o ρ σ = none) ∨ (∃ l, ∀ σ, evOpR E F ops o ρ σ = some (l, σ)) ∨
    ∃ (p : PV) (g : PV → List (Nat × PV)), ∀ σ, evOpR E F ops o ρ σ = (loadAs E.P t σ (takes (appendFirst ops.toList) o.dst) p).map fun r => (g r.1, r.2) := by
  unfold evOpR
  cases hw : evWant ops o ρ with
  | none => exact .inl (fun σ => rfl)
  | some w =>
    cases w with
    | false => exact .inr (.inl ⟨_, fun σ => rfl⟩)
    | true =>
      simp only [Option.bind_some, if_true, evCore, ho]
      cases hx : use ρ x with
      | none => exact .inl (fun σ => rfl)
      | some p =>
        simp only [Option.bind_some]
        refine .inr (.inr ⟨p, fun v => (untakeU ρ none) ++ (putU o.dst v), fun σ => ?_⟩)
        cases loadAs E.P t σ (takes (appendFirst ops.toList) o.dst) p <;> rfl
theorem load_take {x y : Oper} {ρ : Nat → PV} {σ : Store} {rx ry : List (Nat × PV) × Store} (htk : tkOps (appendFirst ops.toList) x y = true)
    (hx : evOpR E F ops x ρ σ = some rx) (hy : evOpR E F ops y ρ rx.2 = some ry) : ∃ σ1, evOpR E F ops y ρ σ = some (ry.1, σ1) ∧ evOpR E F ops x ρ σ1 = some (rx.1, ry.2) := by
  unfold tkOps at htk
  split at htk
  · rename_i t a t' b hxo hyo
    rcases opR_load (E := E) (F := F) (ops := ops) hxo ρ with h | ⟨l, h⟩ | ⟨p, g, h⟩
    · rw [h] at hx; cases hx
    · rw [h] at hx
      cases hx
      exact ⟨ry.2, hy, h _⟩
    · rcases opR_load (E := E) (F := F) (ops := ops) hyo ρ with h' | ⟨l, h'⟩ | ⟨q, g', h'⟩
      · rw [h'] at hy; cases hy
      · rw [h'] at hy
        cases hy
        exact ⟨σ, h' _, hx⟩
      · rw [h] at hx
        rw [h'] at hy
        cases hl : loadAs E.P t σ (takes (appendFirst ops.toList) x.dst) p with
        | none => rw [hl] at hx; cases hx
        | some r =>
          rw [hl] at hx
          simp at hx
          subst hx
          simp only at hy
          cases hl' : loadAs E.P t' r.2 (takes (appendFirst ops.toList) y.dst) q with
          | none => rw [hl'] at hy; cases hy
          | some r' =>
            rw [hl'] at hy
            simp at hy
            subst hy
            simp only [h, h']
            have hplain : ∀ {t : TypeId} {σ : Store} {p : PV} {r : PV × Store}, loadAs E.P t σ false p = some r → r.2 = σ := by
              intro t σ p r hh
              unfold loadAs at hh
              cases ha : aggT E.P t with
              | none => simp [ha] at hh
              | some b =>
                simp only [ha, Option.bind_some] at hh
                split at hh
                · split at hh
                  · cases hs : szT E.P t with
                    | none => simp [hs] at hh
                    | some n =>
                      simp only [hs, Option.bind_some] at hh
                      rename_i id off _
                      cases hv : loadS σ id off n with
                      | none => simp [hv] at hh
                      | some v => simp [hv] at hh; subst hh; rfl
                  · rename_i id off _
                    cases hv : loadS σ id off 1 with
                    | none => simp [hv] at hh
                    | some v =>
                      simp only [hv, Option.bind_some] at hh
                      split at hh
                      · simp only [Bool.false_eq_true, if_false] at hh; cases hh; rfl
                      · cases hh
                · split at hh
                  · cases hs : szT E.P t with
                    | none => simp [hs] at hh
                    | some n =>
                      simp only [hs, Option.bind_some] at hh
                      split at hh
                      · cases hh; rfl
                      · cases hh
                  · rename_i cells _
                    cases hc : cells[0]? with
                    | none => simp [hc] at hh
                    | some c => simp [hc] at hh; subst hh; rfl
                · cases hh
            cases hkx : takes (appendFirst ops.toList) x.dst with
            | true =>
              have hky : takes (appendFirst ops.toList) y.dst = false := by rw [hkx] at htk; simpa using htk
              rw [hkx] at hl
              rw [hky] at hl' ⊢
              have hr' := hplain hl'
              rcases take_effect hl with he | ⟨id, off, cells, c, h1, h2, h3⟩
              · refine ⟨σ, ?_, ?_⟩
                · rw [he] at hl'
                  rw [hl']
                  simp [hr', he]
                · rw [hl]; simp [hr']
              · rw [h3, plain_after h1 h2] at hl'
                cases hl0 : loadAs E.P t' σ false q with
                | none => rw [hl0] at hl'; cases hl'
                | some r0 =>
                  rw [hl0] at hl'
                  simp at hl'
                  refine ⟨σ, ?_, ?_⟩
                  · have := hplain hl0
                    simp [← hl', this]
                  · rw [hl]; simp [hr']
            | false =>
              have hky : takes (appendFirst ops.toList) y.dst = true := by rw [hkx] at htk; simpa using htk
              rw [hkx] at hl
              rw [hky] at hl' ⊢
              have hr := hplain hl
              rw [hr] at hl'
              refine ⟨r'.2, by rw [hl']; rfl, ?_⟩
              rcases take_effect hl' with he | ⟨id, off, cells, c, h1, h2, h3⟩
              · rw [he, hl]; simp [hr]
              · rw [h3, plain_after h1 h2, hl]; simp
  · cases htk
def noWrite (ops : Array Oper) (D : List (Nat × Nat)) : Bool :=
  D.all fun x => ops.toList.all fun o => !(writesOf (appendFirst ops.toList) o).contains x.1 && !(writesOf (appendFirst ops.toList) o).contains x.2
theorem evOp_apart {D : List (Nat × Nat)} (hN : noWrite ops D = true) {i : Nat} {o : Oper} (ho : ops[i]? = some o) {st st' : St} (h : evOp E F ops o st = some st') (hD : Apart D (rd st.slots)) : Apart D (rd st'.slots) := by
  rw [evOp_eq] at h
  cases hr : evOpR E F ops o (rd st.slots) st.store with
  | none => simp [hr] at h
  | some r =>
    simp [hr] at h
    subst h
    obtain ⟨k, _⟩ := opR_cls hr
    refine hD.congr fun x hx => ?_
    have hm : o ∈ ops.toList := by
      have := List.mem_of_getElem? (l := ops.toList) (i := i) (by simpa using ho)
      exact this
    have := List.all_eq_true.1 (List.all_eq_true.1 hN x hx) o hm
    simp only [Bool.and_eq_true, Bool.not_eq_true', List.contains_eq_mem, decide_eq_false_iff_not] at this
    exact ⟨rd_sets _ _ _ fun u hu he => this.1 (he ▸ k u hu), rd_sets _ _ _ fun u hu he => this.2 (he ▸ k u hu)⟩
theorem commute {D : List (Nat × Nat)} {x y : Oper} (hi : indep E ops (appendFirst ops.toList) D x y = true) {st s1 s2 : St} (hD : Apart D (rd st.slots)) (hx : evOp E F ops x st = some s1) (hy : evOp E F ops y s1 = some s2) :
    ∃ s1', evOp E F ops y st = some s1' ∧ evOp E F ops x s1' = some s2 := by
  unfold indep at hi
  simp only [Bool.and_eq_true] at hi
  obtain ⟨⟨⟨d1, d2⟩, d3⟩, hc⟩ := hi
  rw [evOp_eq] at hx hy
  cases hrx : evOpR E F ops x (rd st.slots) st.store with
  | none => simp [hrx] at hx
  | some rx =>
    simp [hrx] at hx
    subst hx
    simp only at hy
    obtain ⟨kx, px, rx', ax⟩ := opR_cls hrx
    -- y sees the same slots
    have hsame : ∀ σ, evOpR E F ops y (rd (sets st.slots rx.1)) σ = evOpR E F ops y (rd st.slots) σ := by
      intro σ
      have hrd : ∀ t ∈ y.looksAt ops, rd (sets st.slots rx.1) t = rd st.slots t := fun t ht => rd_sets _ _ _ (fun u hu => disj_spec d1 _ (kx u hu) t ht)
      exact evOpR_congr hrd (fun t ht => hrd t (takenFrom_reads _ y t ht))
    rw [hsame] at hy
    cases hry : evOpR E F ops y (rd st.slots) rx.2 with
    | none => simp [hry] at hy
    | some ry =>
      simp [hry] at hy
      subst hy
      obtain ⟨ky, py, ry', ay⟩ := opR_cls hry
      have hcomm : sets (sets st.slots rx.1) ry.1 = sets (sets st.slots ry.1) rx.1 := sets_comm _ _ _ (fun u hu v hv => disj_spec d2 _ (kx u hu) _ (ky v hv))
      have hsame' : ∀ σ, evOpR E F ops x (rd (sets st.slots ry.1)) σ = evOpR E F ops x (rd st.slots) σ := by
        intro σ
        have hrd : ∀ t ∈ x.looksAt ops, rd (sets st.slots ry.1) t = rd st.slots t := fun t ht => rd_sets _ _ _ (fun u hu => disj_spec d3 _ (ky u hu) t ht)
        exact evOpR_congr hrd (fun t ht => hrd t (takenFrom_reads _ x t ht))
      -- the stores
      have fin : ∀ σ1, evOpR E F ops y (rd st.slots) st.store = some (ry.1, σ1) → evOpR E F ops x (rd st.slots) σ1 = some (rx.1, ry.2) →
          ∃ s1', evOp E F ops y st = some s1' ∧ evOp E F ops x s1' = some ⟨sets (sets st.slots rx.1) ry.1, ry.2⟩ := by
        intro σ1 h1 h2
        refine ⟨⟨sets st.slots ry.1, σ1⟩, by rw [evOp_eq, h1]; rfl, ?_⟩
        rw [evOp_eq]
        simp only [hsame', h2, Option.map_some, hcomm]
      rw [Bool.or_eq_true, Bool.or_eq_true] at hc
      rcases hc with (hc | hap) | htk
      rotate_left 2
      · obtain ⟨σ1, h1, h2⟩ := load_take htk hrx hry
        exact fin σ1 h1 h2
      rotate_left
      · have hry' : evOpR E F ops y (rd st.slots) st.store = some ry := by
          have h0 := apOps_rd hap hrx
          rw [h0] at hry
          exact hry
        obtain ⟨_, h2⟩ := load_apart hap hD hrx hry'
        exact fin ry.2 hry' h2
      cases hcx : clsOf E (appendFirst ops.toList) x <;> cases hcy : clsOf E (appendFirst ops.toList) y <;> rw [hcx, hcy] at hc <;> simp [compat] at hc
      case pure.pure =>
        have h2 := py hcy
        exact fin st.store (h2.2 _) (by rw [hrx, h2.1])
      case pure.rd =>
        have h1 := px hcx; have h2 := ry' hcy
        exact fin ry.2 (by rw [h1.1] at hry; exact hry) ((h1.2 ry.2))
      case pure.al =>
        have h1 := px hcx
        exact fin ry.2 (by rw [h1.1] at hry; exact hry) (h1.2 ry.2)
      case pure.ro =>
        have h1 := px hcx
        exact fin ry.2 (by rw [h1.1] at hry; exact hry) (h1.2 ry.2)
      case ro.pure =>
        have h2 := py hcy
        exact fin st.store (h2.2 _) (by rw [hrx, h2.1])
      case rd.ro =>
        have h1 := rx' hcx
        have h2 := opR_ro hcy hry
        rw [h1.1] at hry
        exact fin st.store (by rw [hry]; exact congrArg some (Prod.ext rfl (h2.trans h1.1))) (by rw [hrx]; exact congrArg some (Prod.ext rfl h2.symm))
      case ro.rd =>
        have h1 := opR_ro hcx hrx; have h2 := ry' hcy
        rw [h1] at hry
        exact fin st.store (by rw [hry]; exact congrArg some (Prod.ext rfl (h2.1.trans h1))) (by rw [hrx]; exact congrArg some (Prod.ext rfl h2.1.symm))
      case ro.ro =>
        have h1 := opR_ro hcx hrx; have h2 := opR_ro hcy hry
        rw [h1] at hry
        exact fin st.store (by rw [hry]; exact congrArg some (Prod.ext rfl (h2.trans h1))) (by rw [hrx]; exact congrArg some (Prod.ext rfl h2.symm))
      case pure.wr =>
        have h1 := px hcx
        exact fin ry.2 (by rw [h1.1] at hry; exact hry) (h1.2 ry.2)
      case rd.pure =>
        have h1 := rx' hcx; have h2 := py hcy
        exact fin st.store (h2.2 _) (by rw [hrx, h2.1])
      case rd.rd =>
        have h1 := rx' hcx; have h2 := ry' hcy
        rw [h1.1] at hry
        exact fin st.store (by rw [hry]; exact congrArg some (Prod.ext rfl (h2.1.trans h1.1))) (by rw [hrx]; exact congrArg some (Prod.ext rfl h2.1.symm))
      case rd.al =>
        have h1 := rx' hcx
        rw [h1.1] at hry
        obtain ⟨c, hcc⟩ := ay hcy
        rw [h1.1] at hcc
        exact fin ry.2 hry (by rw [hcc]; exact h1.2 c)
      case al.pure =>
        have h2 := py hcy
        exact fin st.store (h2.2 _) (by rw [hrx, h2.1])
      case wr.pure =>
        have h2 := py hcy
        exact fin st.store (h2.2 _) (by rw [hrx, h2.1])
/-! #### The order -/
def okEdges (ops : Array Oper) : Bool :=
  (List.range ops.size).all fun j => match ops[j]? with
    | none => true
    | some o => o.after.toList.all fun e => !Region.binds .any e || decide (e.on < j)
def pairOk (E : Env) (ops : Array Oper) (aps : List Nat) (D : List (Nat × Nat)) (bef : Array Nat) (i j : Nat) : Bool :=
  (bef.getD j 0).testBit i || (match ops[i]?, ops[j]? with | some x, some y => indep E ops aps D x y | _, _ => false)
def pw (f : Nat → Nat → Bool) : List Nat → Bool
  | [] => true
  | k :: l => l.all (f k) && pw f l
theorem pw_spec {f : Nat → Nat → Bool} : ∀ {l : List Nat}, pw f l = true → l.Pairwise fun k i => f k i = true
  | [], _ => .nil
  | k :: l, h => by
    simp only [pw, Bool.and_eq_true, List.all_eq_true] at h
    exact .cons h.1 (pw_spec h.2)
def regOkL (E : Env) (ops : Array Oper) (D : List (Nat × Nat)) (bef : Array Nat) (ex : Nat → Nat → Bool) (L : List Nat) : Bool :=
  L.all (fun i => decide (i < ops.size)) && (List.range ops.size).all (fun i => L.contains i) && pw (fun k i => k != i) L && pw (fun k i => ex k i || pairOk E ops (appendFirst ops.toList) D bef k i) L
def regOk (E : Env) (ops : Array Oper) (D : List (Nat × Nat)) : Bool :=
  noWrite ops D && okEdges ops && regOkL E ops D (Region.before ops) (fun _ _ => false) (List.range ops.size)
def regOk2 (E : Env) (ops : Array Oper) (D : List (Nat × Nat)) (L : List Nat) (A B : Nat) : Bool :=
  noWrite ops D && okEdges ops && (A != B && decide (A < ops.size) && decide (B < ops.size)) && regOkL E ops D (Region.before ops) (fun k i => k == A && i == B) (List.range ops.size) && regOkL E ops D (Region.before ops) (fun k i => k == B && i == A) L
theorem before_spec (ops : Array Oper) : ∀ (l : List Oper) (acc : Array Nat) (done : List Oper), ops.toList = done ++ l → acc.size = done.length →
    (∀ j o, done[j]? = some o → ∀ i, (acc.getD j 0).testBit i = true → ∃ e ∈ o.after.toList, Region.binds .any e = true ∧ (e.on = i ∨ (e.on < j ∧ (acc.getD e.on 0).testBit i = true))) →
    let fin := l.foldl (fun acc o => acc.push (o.after.foldl (fun s e => if Region.binds .any e then s ||| 2 ^ e.on ||| acc.getD e.on 0 else s) 0)) acc
    (∀ j o, ops.toList[j]? = some o → ∀ i, (fin.getD j 0).testBit i = true → ∃ e ∈ o.after.toList, Region.binds .any e = true ∧ (e.on = i ∨ (e.on < j ∧ (fin.getD e.on 0).testBit i = true)))
  | [], acc, done, h, hs, hd => by
    intro fin j o hj
    rw [h, List.append_nil] at hj
    exact hd j o hj
  | o :: l, acc, done, h, hs, hd => by
    intro fin
    have hbits : ∀ (es : List Edge) (s : Nat) (i : Nat), (es.foldl (fun s e => if Region.binds .any e then s ||| 2 ^ e.on ||| acc.getD e.on 0 else s) s).testBit i = true →
        s.testBit i = true ∨ ∃ e ∈ es, Region.binds .any e = true ∧ (e.on = i ∨ (e.on < acc.size ∧ (acc.getD e.on 0).testBit i = true)) := by
      intro es
      induction es with
      | nil => intro s i hb; exact .inl hb
      | cons e es ih =>
        intro s i hb
        simp only [List.foldl_cons] at hb
        rcases ih _ i hb with hb | ⟨e', he', hb⟩
        · split at hb
          · rename_i hbind
            simp only [Nat.testBit_or, Bool.or_eq_true] at hb
            rcases hb with (hb | hb) | hb
            · exact .inl hb
            · refine .inr ⟨e, by simp, hbind, .inl ?_⟩
              rw [Nat.testBit_two_pow] at hb
              simpa using hb
            · refine .inr ⟨e, by simp, hbind, .inr ⟨?_, hb⟩⟩
              rcases Nat.lt_or_ge e.on acc.size with hlt | hge
              · exact hlt
              · have : acc.getD e.on 0 = 0 := by simp [Array.getD, Nat.not_lt.2 hge]
                rw [this] at hb
                simp at hb
          · exact .inl hb
        · exact .inr ⟨e', by simp [he'], hb⟩
    have hpush : ∀ k, k < acc.size → (acc.push (o.after.foldl (fun s e => if Region.binds .any e then s ||| 2 ^ e.on ||| acc.getD e.on 0 else s) 0)).getD k 0 = acc.getD k 0 := by
      intro k hk
      simp [Array.getD, hk, Nat.lt_succ_of_lt hk, Array.getElem_push_lt hk]
    refine before_spec ops l _ (done ++ [o]) (by rw [h]; simp) (by simp [hs]) ?_
    intro j o' hj i hb
    by_cases hjl : j < done.length
    · rw [List.getElem?_append_left hjl] at hj
      rw [hpush j (by omega)] at hb
      obtain ⟨e, he, h1, h2⟩ := hd j o' hj i hb
      refine ⟨e, he, h1, ?_⟩
      rcases h2 with h2 | ⟨h2, h3⟩
      · exact .inl h2
      · exact .inr ⟨h2, by rw [hpush e.on (by omega)]; exact h3⟩
    · have hj0 : j = done.length := by
        have := (List.getElem?_eq_some_iff.1 hj).1
        simp at this
        omega
      subst hj0
      rw [List.getElem?_concat_length] at hj
      cases hj
      have : (acc.push (o.after.foldl (fun s e => if Region.binds .any e then s ||| 2 ^ e.on ||| acc.getD e.on 0 else s) 0)).getD done.length 0 = o.after.toList.foldl (fun s e => if Region.binds .any e then s ||| 2 ^ e.on ||| acc.getD e.on 0 else s) 0 := by
        rw [← hs]
        simp [Array.getD]
      rw [this] at hb
      rcases hbits o.after.toList 0 i hb with hb | ⟨e, he, h1, h2⟩
      · simp at hb
      · refine ⟨e, he, h1, ?_⟩
        rcases h2 with h2 | ⟨h2, h3⟩
        · exact .inl h2
        · exact .inr ⟨by omega, by rw [hpush e.on h2]; exact h3⟩
theorem before_bits (ops : Array Oper) {j : Nat} {o : Oper} (ho : ops[j]? = some o) {i : Nat} (hb : ((Region.before ops).getD j 0).testBit i = true) :
    ∃ e ∈ o.after.toList, Region.binds .any e = true ∧ (e.on = i ∨ (e.on < j ∧ ((Region.before ops).getD e.on 0).testBit i = true)) := by
  have := before_spec ops ops.toList #[] [] (by simp) (by simp) (by simp) j o (by simpa using ho) i
  have hf : Region.before ops = ops.toList.foldl (fun acc o => acc.push (o.after.foldl (fun s e => if Region.binds .any e then s ||| 2 ^ e.on ||| acc.getD e.on 0 else s) 0)) #[] := by
    unfold Region.before
    rw [← Array.foldl_toList]
  rw [← hf] at this
  exact this hb
def Closed (ops : Array Oper) (listed : Array Bool) : Prop := ∀ j o, ops[j]? = some o → listed.getD j false = true → ∀ e ∈ o.after.toList, Region.binds .any e = true → listed.getD e.on false = true
theorem closed_before {ops : Array Oper} {listed : Array Bool} (hcl : Closed ops listed) : ∀ (j : Nat) (o : Oper), ops[j]? = some o → (∀ e ∈ o.after.toList, Region.binds .any e = true → listed.getD e.on false = true) → (hsz : listed.size = ops.size) →
    ∀ i, ((Region.before ops).getD j 0).testBit i = true → listed.getD i false = true := by
  intro j
  induction j using Nat.strongRecOn with
  | _ j ih =>
    intro o ho hpre hsz i hb
    obtain ⟨e, he, h1, h2⟩ := before_bits ops ho hb
    have hl := hpre e he h1
    rcases h2 with rfl | ⟨h2, h3⟩
    · exact hl
    · have hlt : e.on < ops.size := by
        rcases Nat.lt_or_ge e.on ops.size with h | h
        · exact h
        · simp [Array.getD, hsz, Nat.not_lt.2 h] at hl
      exact ih e.on h2 ops[e.on] (Array.getElem?_eq_getElem hlt) (fun e' he' hb' => hcl e.on _ (Array.getElem?_eq_getElem hlt) hl e' he' hb') hsz i h3
theorem bubble {D : List (Nat × Nat)} (hN : noWrite ops D = true) {i : Nat} {y : Oper} (hy : ops[i]? = some y) : ∀ (l : List Nat) (l' : List Nat) {st st' : St}, Apart D (rd st.slots) → (∀ k ∈ l, ∃ x, ops[k]? = some x ∧ indep E ops (appendFirst ops.toList) D x y = true) →
    evIdx E F ops (l ++ i :: l') st = some st' → evIdx E F ops (i :: (l ++ l')) st = some st'
  | [], l', st, st', _, _, h => h
  | k :: l, l', st, st', hA, hk, h => by
    obtain ⟨x, hx, hind⟩ := hk k (by simp)
    simp only [List.cons_append, evIdx, hx] at h
    cases hs : evOp E F ops x st with
    | none => simp [hs] at h
    | some s1 =>
      simp only [hs, Option.bind_some] at h
      have h' := bubble hN hy l l' (evOp_apart hN hx hs hA) (fun k' hk' => hk k' (by simp [hk'])) h
      simp only [evIdx, hy] at h'
      cases hs2 : evOp E F ops y s1 with
      | none => simp [hs2] at h'
      | some s2 =>
        simp only [hs2, Option.bind_some] at h'
        obtain ⟨s1', g1, g2⟩ := commute hind hA hs hs2
        simp only [evIdx, hy, List.cons_append, hx, g1, g2, Option.bind_some]
        exact h'
end comm
end Go.Pv

namespace Go.Pv
open Go
def swLoc (n : Nat) : Loc → Loc
  | .box i => .box (swId n i)
  | .cell i j => .cell (swId n i) j
  | .slot i => .slot i
def swO (n : Nat) (O : OwT) : OwT := fun b => (O b).map (swLoc n)
def swB (n : Nat) (β : List Nat) : List Nat := (List.range β.length).map fun i => β.getD (swId n i) 0
theorem swId_low {n i : Nat} (h : i < n) : swId n i = i := by unfold swId; rw [if_neg (by omega), if_neg (by omega)]
theorem swId_swId (n i : Nat) : swId n (swId n i) = i := by
  unfold swId
  by_cases h1 : i = n
  · subst h1; simp
  · by_cases h2 : i = n + 1
    · subst h2; simp
    · simp [h1, h2]
theorem swId_lt {n i : Nat} (h : i < n + 2) : swId n i < n + 2 := by
  unfold swId
  by_cases h1 : i = n
  · rw [if_pos h1]; omega
  · rw [if_neg h1]
    by_cases h2 : i = n + 1
    · rw [if_pos h2]; omega
    · rw [if_neg h2]; omega
theorem swB_len (n : Nat) (β : List Nat) : (swB n β).length = β.length := by simp [swB]
theorem swB_get {n : Nat} {β : List Nat} (hl : n + 2 ≤ β.length) (i : Nat) : (swB n β)[i]? = β[swId n i]? := by
  unfold swB
  rw [List.getElem?_map]
  by_cases hi : i < β.length
  · have h2 : swId n i < β.length := by
      by_cases h3 : i < n + 2
      · have := swId_lt h3; omega
      · unfold swId; rw [if_neg (by omega), if_neg (by omega)]; exact hi
    rw [List.getElem?_range (by omega)]
    simp [List.getD, h2]
  · rw [List.getElem?_eq_none (by simp; omega), List.getElem?_eq_none]
    · rfl
    · unfold swId; rw [if_neg (by omega), if_neg (by omega)]; omega
section sw
variable {w : World} {Im : ImT} {O : OwT} {β : List Nat} {n : Nat}
theorem swB_low (hl : n + 2 ≤ β.length) {p : PV} {v : Value} (h : RepP w Im β p v) (hb : p.Below n) : RepP w Im (swB n β) p v := by
  refine (h.cut hb).keep (.refl _ _) fun id b hid => ?_
  rw [List.getElem?_take] at hid
  split at hid
  · rename_i hlt
    rw [swB_get hl, swId_low hlt]
    exact hid
  · cases hid
theorem swO_own {loc loc' : Loc} {p : PV} {v : Value} (h : OwnP w Im O loc p v) (hl : swLoc n loc = loc') : OwnP w Im (swO n O) loc' p v :=
  fun rows hp => by
    rcases h rows hp with h | ⟨a, m, c, sz, cs, e, h1, h2, h3, h4⟩
    · exact .inl h
    · exact .inr ⟨a, m, c, sz, cs, e, h1, h2, by unfold swO; rw [h3, Option.map_some, hl], h4⟩
mutual
theorem swPV_rep (hl : n + 2 ≤ β.length) : ∀ (p q : PV), swPV n p q = true → ∀ {v : Value}, RepP w Im β q v → RepP w Im (swB n β) p v
  | .undef, q, h, v, hr => by cases q <;> simp [swPV] at h; cases hr; exact .undef
  | .any, q, h, v, hr => by cases q <;> simp [swPV] at h; cases hr; rename_i h; exact .any v h
  | .d x, q, h, v, hr => by
    cases q <;> simp [swPV] at h
    rename_i y
    obtain rfl := DV.same_eq x y h
    cases hr with | d h => exact .d h
  | .e0, q, h, v, hr => by cases q <;> simp [swPV] at h; cases hr; exact .e0 _
  | .os r, q, h, v, hr => by
    cases q <;> simp [swPV] at h
    rename_i y
    obtain rfl := sameRows_eq r y h
    cases hr with | os h => exact .os h
  | .agg xs, q, h, v, hr => by
    cases q <;> simp [swPV] at h
    rename_i ys
    cases hr with
    | agg _ vs hv hc =>
      obtain ⟨k1, k2⟩ := swL_rep hl xs ys h vs hc
      exact .agg _ vs (by rw [k1]; exact hv) k2
  | .tup xs, q, h, v, hr => by
    cases q <;> simp [swPV] at h
    rename_i ys
    cases hr with
    | tup _ vs hv hc =>
      obtain ⟨k1, k2⟩ := swL_rep hl xs ys h vs hc
      exact .tup _ vs (by rw [k1]; exact hv) k2
  | .ptr i o, q, h, v, hr => by
    cases q <;> simp [swPV] at h
    obtain ⟨h1, rfl⟩ := h
    cases hr with
    | ptr _ _ b hb => exact .ptr i _ b (by rw [swB_get hl, h1]; exact hb)
  | .ms i o l z, q, h, v, hr => by
    cases q <;> simp [swPV] at h
    obtain ⟨h1, rfl, rfl, rfl⟩ := h
    cases hr with
    | ms _ _ _ _ b c x hb hc hx => exact .ms i _ _ _ b c x (by rw [swB_get hl, h1]; exact hb) hc hx
  | .nilptr, q, h, v, hr => by cases q <;> simp [swPV] at h; cases hr; exact .nilptr
  | .ro _, q, h, v, hr => by cases q <;> simp [swPV] at h
  | .func f a c, q, h, v, hr => by
    cases q <;> simp [swPV] at h
    rename_i g b d
    obtain ⟨rfl, h1, h2⟩ := h
    cases hr with
    | func _ _ _ vf vc hf hc r1 r2 =>
      obtain ⟨k1, k2⟩ := swL_rep hl a b h1 vf r1
      obtain ⟨k3, k4⟩ := swL_rep hl c d h2 vc r2
      exact .func f _ _ vf vc (by rw [k1]; exact hf) (by rw [k3]; exact hc) k2 k4
  | .nilFunc, q, h, v, hr => by cases q <;> simp [swPV] at h; cases hr; exact .nilFunc
  | .iface _ _, q, h, v, hr => by cases q <;> simp [swPV] at h
  | .nilIface, q, h, v, hr => by cases q <;> simp [swPV] at h; cases hr; exact .nilIface
theorem swL_rep (hl : n + 2 ≤ β.length) : ∀ (ps qs : List PV), swL n ps qs = true → ∀ (vs : Array Value), (∀ (i : Nat) (q : PV) (v : Value), qs[i]? = some q → vs[i]? = some v → RepP w Im β q v) →
    ps.length = qs.length ∧ ∀ (i : Nat) (p : PV) (v : Value), ps[i]? = some p → vs[i]? = some v → RepP w Im (swB n β) p v
  | [], [], _, vs, _ => ⟨rfl, by simp⟩
  | [], _ :: _, h, _, _ => by simp [swL] at h
  | _ :: _, [], h, _, _ => by simp [swL] at h
  | p :: ps, q :: qs, h, vs, hr => by
    simp only [swL, Bool.and_eq_true] at h
    have ih := fun (vs : Array Value) => swL_rep hl ps qs h.2 vs
    have hp := fun (v : Value) => swPV_rep hl p q h.1 (v := v)
    have h1 := (ih #[] (by simp)).1
    refine ⟨by simp [h1], fun i p' v hi hv => ?_⟩
    cases i with
    | zero =>
      simp at hi
      subst hi
      exact hp v (hr 0 q v (by simp) hv)
    | succ i =>
      refine (ih (vs.extract 1 vs.size) fun j q' v' hq hv' => hr (j + 1) q' v' (by simpa using hq) ?_).2 i p' v (by simpa using hi) ?_
      · rw [Array.getElem?_extract] at hv'
        split at hv'
        · rwa [Nat.add_comm] at hv'
        · cases hv'
      · have := (Array.getElem?_eq_some_iff.1 hv).1
        rw [Array.getElem?_extract, if_pos (by omega), Nat.add_comm]
        exact hv
end
theorem swPV_own {loc loc' : Loc} {p q : PV} {v : Value} (h : swPV n p q = true) (ho : OwnP w Im O loc q v) (hl : swLoc n loc = loc') : OwnP w Im (swO n O) loc' p v := by
  intro rows hp
  subst hp
  cases q <;> simp [swPV] at h
  rename_i r
  obtain rfl := sameRows_eq rows r h
  exact swO_own ho hl rows rfl
theorem swL_len {n : Nat} : ∀ {ps qs : List PV}, swL n ps qs = true → ps.length = qs.length ∧ ∀ (i : Nat) (p q : PV), ps[i]? = some p → qs[i]? = some q → swPV n p q = true
  | [], [], _ => ⟨rfl, by simp⟩
  | [], _ :: _, h => by simp [swL] at h
  | _ :: _, [], h => by simp [swL] at h
  | p :: ps, q :: qs, h => by
    simp only [swL, Bool.and_eq_true] at h
    obtain ⟨h1, h2⟩ := swL_len h.2
    refine ⟨by simp [h1], fun i p' q' hp hq => ?_⟩
    cases i with
    | zero => simp at hp hq; subst hp; subst hq; exact h.1
    | succ i => exact h2 i p' q' (by simpa using hp) (by simpa using hq)
theorem swRest_get {n : Nat} : ∀ {r q : List (List PV)}, swRest n r q = true → r.length = q.length ∧ ∀ (k : Nat) (a b : List PV), r[k]? = some a → q[k]? = some b → swL n a b = true
  | [], [], _ => ⟨rfl, by simp⟩
  | [], _ :: _, h => by simp [swRest] at h
  | _ :: _, [], h => by simp [swRest] at h
  | a :: r, b :: q, h => by
    simp only [swRest, Bool.and_eq_true] at h
    obtain ⟨h1, h2⟩ := swRest_get h.2
    refine ⟨by simp [h1], fun k a' b' ha hb => ?_⟩
    cases k with
    | zero => simp at ha hb; subst ha; subst hb; exact h.1
    | succ k => exact h2 k a' b' (by simpa using ha) (by simpa using hb)
theorem Inv.swap {w0 : World} {Im0 : ImT} {O0 : OwT} {β0 : List Nat} {a0 a : Act} {st s1 s2 : St} {ws : List Nat} (h0 : Inv w0 Im0 O0 β0 st a0) (h : Inv w Im O β s2 a) (hok : swOk st.store.length st.store ws s1 s2 = true)
    (hlen : s1.slots.length = s2.slots.length) (hs1 : ∀ i, i ∉ ws → rd s1.slots i = rd st.slots i) (hs2 : ∀ i, i ∉ ws → rd s2.slots i = rd st.slots i) :
    Inv w Im (swO st.store.length O) (swB st.store.length β) s1 a := by
  generalize hn : st.store.length = n at hok ⊢
  unfold swOk at hok
  simp only [Bool.and_eq_true, decide_eq_true_eq] at hok
  obtain ⟨t1, t2, hbx, hws⟩ := hok
  rw [List.all_eq_true] at hws
  have hform : ∃ a b c d r q, s1.store.drop n = a :: b :: r ∧ s2.store.drop n = c :: d :: q ∧ swL n a d = true ∧ swL n b c = true ∧ swRest n r q = true := by
    unfold swBoxes at hbx
    split at hbx
    · rename_i a b r c d q e1 e2
      simp only [Bool.and_eq_true] at hbx
      exact ⟨a, b, c, d, r, q, e1, e2, hbx.1, hbx.2.1, hbx.2.2⟩
    · cases hbx
  obtain ⟨ba, bb, bc, bd, br, bq, d1, d2, w1, w2, w3⟩ := hform
  obtain ⟨w4, w5⟩ := swRest_get w3
  have e1 : s1.store = st.store ++ ba :: bb :: br := by rw [← t1, ← d1]; exact (List.take_append_drop n _).symm
  have e2 : s2.store = st.store ++ bc :: bd :: bq := by rw [← t2, ← d2]; exact (List.take_append_drop n _).symm
  have hl : n + 2 ≤ β.length := by rw [h.good.len, e2]; simp [hn]
  have hO : ∀ {b : Nat} {l : Loc}, O b = some l → swO n O b = some (swLoc n l) := fun hb => by unfold swO; rw [hb]; rfl
  have hbox : ∀ (k k' : Nat) (b : Nat) (ps qs : List PV), swId n k = k' → β[k']? = some b → s2.store[k']? = some qs → swL n ps qs = true →
      swO n O b = some (.box k) ∧ ∃ (cs : Array Value) (e : TypeId), w.heap[b]? = some (.cells cs e (0, 0)) ∧ ps.length ≤ cs.size ∧
        ∀ (j : Nat) (p : PV) (v : Value), ps[j]? = some p → cs[j]? = some v → RepP w Im (swB n β) p v ∧ OwnP w Im (swO n O) (.cell k j) p v ∧ True := by
    intro k k' b ps qs hk hb hq hsw
    obtain ⟨g1, cs, e, g2, g3, g4⟩ := h.good.box k' b qs hb hq
    have hkk : swId n k' = k := by rw [← hk, swId_swId]
    obtain ⟨l1, l2⟩ := swL_len hsw
    refine ⟨by rw [hO g1]; simp [swLoc, hkk], cs, e, g2, by rw [l1]; exact g3, fun j p v hp hv => ?_⟩
    have hjq : j < qs.length := by rw [← l1]; exact (List.getElem?_eq_some_iff.1 hp).1
    have hq' : qs[j]? = some qs[j] := List.getElem?_eq_getElem hjq
    obtain ⟨r1, r2, _⟩ := g4 j _ v hq' hv
    have hs := l2 j p _ hp hq'
    exact ⟨swPV_rep hl p _ hs r1, swPV_own hs r2 (by simp [swLoc, hkk]), trivial⟩
  refine ⟨⟨by rw [swB_len, h.good.len, e1, e2]; simp [w4], ?_, h.good.im, ?_, ?_⟩, ⟨by rw [hlen, h.slots.len], ?_⟩⟩
  · intro id b cells hb hc
    rw [swB_get hl] at hb
    by_cases hid : id < n
    · rw [swId_low hid] at hb
      rw [e1, List.getElem?_append_left (by omega)] at hc
      have hc2 : s2.store[id]? = some cells := by rw [e2, List.getElem?_append_left (by omega)]; exact hc
      obtain ⟨g1, cs, e, g2, g3, g4⟩ := h.good.box id b cells hb hc2
      refine ⟨by rw [hO g1]; simp [swLoc, swId_low hid], cs, e, g2, g3, fun j p v hp hv => ?_⟩
      obtain ⟨r1, r2, _⟩ := g4 j p v hp hv
      have hbel := h0.good.eld id cells (by omega) hc p (List.mem_of_getElem? hp)
      rw [hn] at hbel
      exact ⟨swB_low hl r1 hbel, swO_own r2 (by simp [swLoc, swId_low hid]), trivial⟩
    · by_cases hid3 : n + 2 ≤ id
      · have ee : swId n id = id := by unfold swId; rw [if_neg (by omega), if_neg (by omega)]
        rw [ee] at hb
        obtain ⟨k, rfl⟩ : ∃ k, id = n + 2 + k := ⟨id - (n + 2), by omega⟩
        have hck : br[k]? = some cells := by
          rw [e1, List.getElem?_append_right (by omega), hn, show n + 2 + k - n = k + 1 + 1 by omega] at hc
          simpa using hc
        have hkq : k < bq.length := by rw [← w4]; exact (List.getElem?_eq_some_iff.1 hck).1
        exact hbox (n + 2 + k) (n + 2 + k) b cells bq[k] ee hb (by rw [e2, List.getElem?_append_right (by omega), hn, show n + 2 + k - n = k + 1 + 1 by omega]; simp [List.getElem?_eq_getElem hkq]) (w5 k cells bq[k] hck (List.getElem?_eq_getElem hkq))
      rcases (show id = n ∨ id = n + 1 by omega) with rfl | rfl
      · have ee : swId id id = id + 1 := by simp [swId]
        rw [ee] at hb
        rw [e1, List.getElem?_append_right (by omega), hn] at hc
        simp at hc
        subst hc
        exact hbox id (id + 1) b _ bd ee hb (by rw [e2, List.getElem?_append_right (by omega), hn]; simp) w1
      · have ee : swId n (n + 1) = n := by simp [swId]
        rw [ee] at hb
        rw [e1, List.getElem?_append_right (by omega), hn] at hc
        simp at hc
        subst hc
        exact hbox (n + 1) n b _ bc ee hb (by rw [e2, List.getElem?_append_right (by omega), hn]; simp) w2
  · intro b o hb id ho
    unfold swO at ho
    cases hOb : O b with
    | none => rw [hOb] at ho; cases ho
    | some l =>
      rw [hOb] at ho
      cases l with
      | box i => exact h.good.box' b o hb i hOb
      | cell i j => simp [swLoc] at ho
      | slot i => simp [swLoc] at ho
  · intro b hb
    refine h.good.lim b fun hn => hb ?_
    unfold swO
    rw [hn]; rfl
  · intro i p v hp hv
    have hp' : rd s1.slots i = p := by simp [rd, List.getD, hp]
    have hil : i < s2.slots.length := by rw [← hlen]; exact (List.getElem?_eq_some_iff.1 hp).1
    obtain ⟨r1, r2⟩ := h.slots.rep i s2.slots[i] v (List.getElem?_eq_getElem hil) hv
    have hq' : rd s2.slots i = s2.slots[i] := by simp [rd, List.getD, hil]
    by_cases hi : i ∈ ws
    · have := hws i hi
      rw [hp', hq'] at this
      exact ⟨swPV_rep hl p _ this r1, swPV_own this r2 rfl⟩
    · have h1 := hs1 i hi
      have h2 := hs2 i hi
      rw [hp'] at h1
      rw [hq'] at h2
      rw [h2, ← h1] at r1 r2
      have hbel := (h0.slots.get i).1.bel
      rw [← h1, h0.good.len, hn] at hbel
      exact ⟨swB_low hl r1 hbel, swO_own r2 rfl⟩
end sw
/-! #### What a row of operations leaves alone -/
section leaves
variable {E : Env} {F : FnEv} {ops : Array Oper}
theorem sets_len : ∀ (u : List (Nat × PV)) (l : List PV), (sets l u).length = l.length
  | [], l => rfl
  | (s, v) :: u, l => by
    show (sets (l.set s v) u).length = l.length
    rw [sets_len u]; simp
theorem evOp_leaves {k : Nat} {o : Oper} (ho : ops[k]? = some o) {st st' : St} (h : evOp E F ops o st = some st') : st'.slots.length = st.slots.length ∧ ∀ i, i ∉ ops.toList.flatMap (writesOf (appendFirst ops.toList)) → rd st'.slots i = rd st.slots i := by
  rw [evOp_eq] at h
  cases hr : evOpR E F ops o (rd st.slots) st.store with
  | none => simp [hr] at h
  | some r =>
    simp [hr] at h
    subst h
    refine ⟨sets_len _ _, fun i hi => rd_sets _ _ _ fun x hx he => hi ?_⟩
    have hm : o ∈ ops.toList := List.mem_of_getElem? (l := ops.toList) (i := k) (by simpa using ho)
    exact List.mem_flatMap.2 ⟨o, hm, he ▸ (opR_cls hr).1 x hx⟩
theorem evIdx_leaves : ∀ (l : List Nat) {st st' : St}, evIdx E F ops l st = some st' → st'.slots.length = st.slots.length ∧ ∀ i, i ∉ ops.toList.flatMap (writesOf (appendFirst ops.toList)) → rd st'.slots i = rd st.slots i
  | [], st, st', h => by simp [evIdx] at h; subst h; exact ⟨rfl, fun _ _ => rfl⟩
  | k :: l, st, st', h => by
    simp only [evIdx] at h
    cases ho : ops[k]? with
    | none => rw [ho] at h; exact evIdx_leaves l h
    | some o =>
      rw [ho] at h
      simp only at h
      cases hs : evOp E F ops o st with
      | none => simp [hs] at h
      | some s1 =>
        simp only [hs, Option.bind_some] at h
        obtain ⟨a1, a2⟩ := evOp_leaves ho hs
        obtain ⟨b1, b2⟩ := evIdx_leaves l h
        exact ⟨b1.trans a1, fun i hi => (b2 i hi).trans (a2 i hi)⟩
theorem evOps_listed : ∀ (L : List Nat) (st : St), evOps E F ops (listed ops L) st = evIdx E F ops L st
  | [], st => rfl
  | k :: L, st => by
    unfold listed
    cases ho : ops[k]? with
    | none => rw [List.filterMap_cons_none ho]; simp only [evIdx, ho]; exact evOps_listed L st
    | some o =>
      rw [List.filterMap_cons_some ho]
      simp only [evIdx, evOps, ho]
      congr 1
      funext s
      exact evOps_listed L s
end leaves
end Go.Pv

