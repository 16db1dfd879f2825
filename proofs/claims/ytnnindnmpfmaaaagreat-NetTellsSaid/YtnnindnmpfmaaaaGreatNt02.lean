/- Calls; and one operation, whatever it is; What is appended to nothing and shall be written then: a new box; One operation, whatever it is; and a row of them. -/
import Derived.Test.YtnnindnmpfmaaaaGreatNt01
import Derived.Laws.MakeOwn
set_option linter.unusedVariables false
set_option linter.unusedSimpArgs false
namespace Go.Pv
open Go
def Callable (P : Program) (f : FuncId) : Prop := ∃ fn, P.funcs[f]? = some fn ∧ fn.body.isSome = true ∧ fn.name ≠ "runtime.NumGoroutine"
def RepArgs (w : World) (Im : ImT) (β : List Nat) (args : List PV) (vs : Array Value) : Prop :=
  args.length = vs.size ∧ ∀ (i : Nat) (p : PV) (v : Value), args[i]? = some p → vs[i]? = some v → RepP w Im β p v ∧ ∀ rows, p ≠ .os rows
def CallOk (P : Program) (f : FuncId) (args : List PV) (σ : Store) (res : PV) (σ' : Store) : Prop :=
  Callable P f ∧ ∀ (w : World) (Im : ImT) (O : OwT) (β : List Nat) (vs : Array Value), Good w Im O β σ → (∀ b i, O b ≠ some (.slot i)) → RepArgs w Im β args vs →
    Calls P f vs w fun e w' => ∃ v Im' O' β' l, e = .returned v ∧ Fr w Im O w' Im' O' ∧ Ext β β' ∧ Good w' Im' O' β' σ' ∧ RepP w' Im' β' res v ∧ OwnP w' Im' O' (.slot l) res v
def Eld (n : Nat) (σ : Store) : Prop := ∀ (id : Nat) (cells : List PV), id < n → σ[id]? = some cells → ∀ p ∈ cells, p.Below n
def EldTo (σ σ' : Store) : Prop := σ.length ≤ σ'.length ∧ ∀ n, n ≤ σ.length → Eld n σ → Eld n σ'
theorem EldTo.refl (σ : Store) : EldTo σ σ := ⟨Nat.le_refl _, fun _ _ h => h⟩
theorem EldTo.trans {σ σ' σ'' : Store} (h : EldTo σ σ') (h' : EldTo σ' σ'') : EldTo σ σ'' := ⟨Nat.le_trans h.1 h'.1, fun n hn he => h'.2 n (Nat.le_trans hn h.1) (h.2 n hn he)⟩
theorem EldTo.append (σ c : Store) : EldTo σ (σ ++ c) := ⟨by simp, fun n hn he id cells hid hc p hp => he id cells hid (by rwa [List.getElem?_append_left (by omega)] at hc) p hp⟩
theorem EldTo.same {σ σ' : Store} (h : σ'.take σ.length = σ) : EldTo σ σ' := by
  have hl : σ.length ≤ σ'.length := by have := congrArg List.length h; simp at this; omega
  refine ⟨hl, fun n hn he id cells hid hc p hp => he id cells hid ?_ p hp⟩
  rw [← h, List.getElem?_take, if_pos (by omega)]
  exact hc
theorem Good.eld {w : World} {Im : ImT} {O : OwT} {β : List Nat} {σ : Store} (h : Good w Im O β σ) : Eld σ.length σ := by
  intro id cells hid hc p hp
  have hb : id < β.length := by rw [h.len]; exact hid
  obtain ⟨_, cs, e, _, h3, h4⟩ := h.box id β[id] cells (List.getElem?_eq_getElem hb) hc
  obtain ⟨j, hj⟩ := List.mem_iff_getElem?.1 hp
  have hjs : j < cs.size := Nat.lt_of_lt_of_le (List.getElem?_eq_some_iff.1 hj).1 h3
  have := (h4 j p cs[j] hj (Array.getElem?_eq_getElem hjs)).1.bel
  rwa [h.len] at this
def FnOk (P : Program) (F : FnEv) : Prop := ∀ f args σ res σ', F f args σ = some (res, σ') → CallOk P f args σ res σ' ∧ EldTo σ σ'
def OvOk (E : Env) : Prop := (∀ f g, E.ov f = some g → ∀ args res, g args = some res → isDataL args = true → res.isData = true → CallOk E.P f args [] res []) ∧
  ∀ b f g, E.ext b f = some g → ∀ args σ r, g args σ = some r → CallOk E.P f args σ r.1 r.2 ∧ EldTo σ r.2
section step
variable {P : Program} {w : World} {Im : ImT} {O : OwT} {β : List Nat} {st : St} {a : Act}
theorem OpOk.enter {o : Oper} {st' : St} {f : FuncId} {vs : Array Value} (hrun : (execOp a.eval o).run P w = .ok (.enter f vs) w)
    (hc : Calls P f vs w fun e w' => ∃ v, e = .returned v ∧ ∃ Im' O' β', Fr w Im O w' Im' O' ∧ Ext β β' ∧ Inv w' Im' O' β' st' (a.put o.dst v)) : OpOk P w Im O β a o st' := by
  intro K Q hK
  unfold Oper.wp
  rw [hrun]
  refine hc.mono ?_
  rintro e w' ⟨v, rfl, Im', O', β', h1, h2, h3⟩
  exact hK w' Im' O' β' _ h1 h2 h3 (put_defers a o.dst v)
theorem data_ext {p : PV} {v : Value} {β' : List Nat} (h : RepP w Im β p v) (hd : p.Data) : RepP w Im β' p v := by
  have := h.cut (n := 0) (hd.toBelow 0)
  simp only [List.take_zero] at this
  exact this.keep (.refl _ _) (fun id b hb => by simp at hb)
def ImBox (Im : ImT) (β : List Nat) (σ : Store) : ImT := fun b o => Im b o ∨ ∃ (id : Nat) (cells : List PV), β[id]? = some b ∧ σ[id]? = some cells ∧ o < cells.length
theorem allD_get {f : PV → Option DV} : ∀ {ps : List PV} {ds : List DV}, allD f ps = some ds → ds.length = ps.length ∧ ∀ (i : Nat) (p : PV), ps[i]? = some p → ∃ x, ds[i]? = some x ∧ f p = some x
  | [], ds, h => by simp [allD] at h; subst h; exact ⟨rfl, by simp⟩
  | p :: ps, ds, h => by
    simp only [allD] at h
    cases hp : f p with
    | none => simp [hp] at h
    | some x =>
      cases hs : allD f ps with
      | none => simp [hp, hs] at h
      | some xs =>
        simp [hp, hs] at h
        subst h
        obtain ⟨h1, h2⟩ := allD_get hs
        refine ⟨by simp [h1], fun i q hi => ?_⟩
        cases i with
        | zero => simp at hi; subst hi; exact ⟨x, rfl, hp⟩
        | succ i => simpa using h2 i q (by simpa using hi)
theorem allP_get {f : PV → Option PV} : ∀ {ps ds : List PV}, allP f ps = some ds → ds.length = ps.length ∧ ∀ (i : Nat) (p : PV), ps[i]? = some p → ∃ x, ds[i]? = some x ∧ f p = some x
  | [], ds, h => by simp [allP] at h; subst h; exact ⟨rfl, by simp⟩
  | p :: ps, ds, h => by
    simp only [allP] at h
    cases hp : f p with
    | none => simp [hp] at h
    | some x =>
      cases hs : allP f ps with
      | none => simp [hp, hs] at h
      | some xs =>
        simp [hp, hs] at h
        subst h
        obtain ⟨h1, h2⟩ := allP_get hs
        refine ⟨by simp [h1], fun i q hi => ?_⟩
        cases i with
        | zero => simp at hi; subst hi; exact ⟨x, rfl, hp⟩
        | succ i => simpa using h2 i q (by simpa using hi)
theorem chunks_len (sz : Nat) : ∀ (n : Nat) (ds : List DV), (chunks sz n ds).length = n
  | 0, _ => rfl
  | n + 1, ds => by simp [chunks, chunks_len sz n]
theorem chunks_get (sz : Nat) : ∀ (n : Nat) (ds : List DV), ds.length = n * sz → (∀ r ∈ chunks sz n ds, r.length = sz) ∧ ∀ (i j : Nat) (r : List DV) (x : DV), (chunks sz n ds)[i]? = some r → r[j]? = some x → ds[i * sz + j]? = some x ∧ i * sz + j < n * sz
  | 0, ds, h => ⟨by simp [chunks], by simp [chunks]⟩
  | n + 1, ds, h => by
    have hmul : (n + 1) * sz = n * sz + sz := by rw [Nat.add_mul]; omega
    obtain ⟨h1, h2⟩ := chunks_get sz n (ds.drop sz) (by simp; omega)
    refine ⟨fun r hr => ?_, fun i j r x hi hj => ?_⟩
    · rcases List.mem_cons.1 (show r ∈ ds.take sz :: chunks sz n (ds.drop sz) from hr) with rfl | hr
      · simp; omega
      · exact h1 r hr
    · cases i with
      | zero =>
        have hi' : ds.take sz = r := by simpa [chunks] using hi
        subst hi'
        have hjl := (List.getElem?_eq_some_iff.1 hj).1
        rw [List.length_take] at hjl
        rw [List.getElem?_take, if_pos (by omega)] at hj
        refine ⟨by simpa using hj, by omega⟩
      | succ i =>
        obtain ⟨g1, g2⟩ := h2 i j r x (by simpa [chunks] using hi) hj
        rw [List.getElem?_drop] at g1
        have e : (i + 1) * sz + j = sz + (i * sz + j) := by rw [Nat.add_mul]; omega
        rw [e]
        exact ⟨g1, by omega⟩
theorem frzD_ok {w : World} {Im : ImT} {O : OwT} {β : List Nat} {σ : Store} (hg : Good w Im O β σ) : ∀ (k : Nat) (p : PV) (v : Value) (x : DV), RepP w Im β p v → frzD σ k p = some x → RepD w (ImBox Im β σ) x v
  | 0, p, v, x, _, h => by simp [frzD] at h
  | k + 1, p, v, x, hp, h => by
    have hk : Keep w Im w (ImBox Im β σ) := fun b o hb => ⟨.inl hb, rfl⟩
    simp only [frzD] at h
    split at h
    · cases h
      cases hp with | d hd => exact hd.keep hk
    · cases h
      cases hp with
      | e0 a =>
        cases a with
        | none => exact .nil
        | some a => exact .slice [] a 0 0 (fun _ => default) (by simp) (by simp) (by simp) (by simp) (by simp) (by simp)
    · cases h
      cases hp with | os hd => exact hd.keep hk
    · rename_i id off len sz
      cases hc : σ[id]? with
      | none => simp [hc] at h
      | some cells =>
        simp only [hc, Option.bind_some] at h
        split at h
        · rename_i hle
          cases ha : allD (frzD σ k) ((cells.drop off).take (len * sz)) with
          | none => simp [ha] at h
          | some ds =>
            simp [ha] at h
            subst h
            obtain ⟨g1, g2⟩ := allD_get ha
            have hdl : ds.length = len * sz := by rw [g1]; simp; omega
            obtain ⟨c1, c2⟩ := chunks_get sz len ds hdl
            cases hp with
            | ms _ _ _ _ b c a hb hcap hx =>
              obtain ⟨hO, cs, e, hh, hcs, hcell⟩ := hg.box id b cells hb hc
              have hlen := chunks_len sz len ds
              have main : RepD w (ImBox Im β σ) (.slice (chunks sz len ds)) (.slice (some a) (chunks sz len ds).length c) := by
                have haa : (chunks sz len ds).length * sz ≠ 0 → a = ⟨b, off, none⟩ := fun hne => hx (by rw [hlen] at hne; intro h0; subst h0; simp at hne)
                have hca : ∀ j, j < (chunks sz len ds).length * sz → ∃ (p : PV) (u : Value), cells[off + j]? = some p ∧ cs[off + j]? = some u ∧ w.cell? ⟨b, off + j, none⟩ = some u := by
                  intro j hj
                  rw [hlen] at hj
                  have h1 : off + j < cells.length := by omega
                  have h2 : off + j < cs.size := by omega
                  refine ⟨cells[off + j], cs[off + j], List.getElem?_eq_getElem h1, Array.getElem?_eq_getElem h2, ?_⟩
                  simp [World.cell?, hh, h2]
                refine .slice _ a c sz (fun j => (w.cell? ⟨b, off + j, none⟩).getD default) c1 (by rw [hlen]; exact hcap) (fun hne => by rw [haa hne]) (fun j hj => ?_) (fun j hj => ?_) (fun i j r x hi hj => ?_)
                · obtain ⟨p, u, h1, h2, h3⟩ := hca j hj
                  rw [haa (by omega)]
                  simp [h3]
                · obtain ⟨p, u, h1, h2, h3⟩ := hca j hj
                  rw [haa (by omega)]
                  exact .inr ⟨id, cells, hb, hc, (List.getElem?_eq_some_iff.1 h1).1⟩
                · obtain ⟨k1, k2⟩ := c2 i j r x hi hj
                  obtain ⟨p, u, h1, h2, h3⟩ := hca (i * sz + j) (by rw [hlen]; exact k2)
                  have hp' : ((cells.drop off).take (len * sz))[i * sz + j]? = some p := by
                    rw [List.getElem?_take, if_pos k2, List.getElem?_drop]; exact h1
                  obtain ⟨y, hy1, hy2⟩ := g2 _ p hp'
                  rw [k1] at hy1
                  cases hy1
                  simp only [h3, Option.getD_some]
                  exact frzD_ok hg k p u x (hcell _ p u h1 h2).1 hy2
              rw [hlen] at main
              exact main
        · cases h
    · cases h
theorem frz1_ok {w : World} {Im : ImT} {O : OwT} {β β' : List Nat} {σ : Store} (hg : Good w Im O β σ) {k : Nat} {p r : PV} {v : Value} (hp : RepP w Im β p v) (h : frz1 σ k p = some r) : RepP w (ImBox Im β σ) β' r v ∧ ∀ rows, r ≠ .os rows := by
  unfold frz1 at h
  split at h
  · rename_i cs
    cases ha : allD (frzD σ k) cs with
    | none => simp [ha] at h
    | some ds =>
      simp [ha] at h
      subst h
      obtain ⟨g1, g2⟩ := allD_get ha
      cases hp with
      | agg _ vs hl hr =>
        refine ⟨.agg _ vs (by simp [g1, hl]) (fun i q u hq hu => ?_), by simp⟩
        have hi : i < cs.length := by have := (Array.getElem?_eq_some_iff.1 hu).1; omega
        obtain ⟨x, h1, h2⟩ := g2 i _ (List.getElem?_eq_getElem hi)
        rw [List.getElem?_map, h1] at hq
        simp at hq
        subst hq
        exact .d (frzD_ok hg k _ u x (hr i _ u (List.getElem?_eq_getElem hi) hu) h2)
  · cases ha : frzD σ k p with
    | none => simp [ha] at h
    | some x =>
      simp [ha] at h
      subst h
      exact ⟨.d (frzD_ok hg k p v x hp ha), by simp⟩
theorem frzP_ok {w : World} {Im : ImT} {O : OwT} {β β' : List Nat} {σ : Store} (hg : Good w Im O β σ) {k : Nat} {p r : PV} {v : Value} (hp : RepP w Im β p v) (h : frzP σ k p = some r) : RepP w (ImBox Im β σ) β' r v ∧ ∀ rows, r ≠ .os rows := by
  unfold frzP at h
  split at h
  · rename_i ps
    cases ha : allP (frz1 σ k) ps with
    | none => simp [ha] at h
    | some ds =>
      simp [ha] at h
      subst h
      obtain ⟨g1, g2⟩ := allP_get ha
      cases hp with
      | tup _ vs hl hr =>
        refine ⟨.tup _ vs (by simp [g1, hl]) (fun i q u hq hu => ?_), by simp⟩
        have hi : i < ps.length := by have := (Array.getElem?_eq_some_iff.1 hu).1; omega
        obtain ⟨x, h1, h2⟩ := g2 i _ (List.getElem?_eq_getElem hi)
        rw [h1] at hq
        cases hq
        exact (frz1_ok hg (hr i _ u (List.getElem?_eq_getElem hi) hu) h2).1
  · exact frz1_ok hg hp h
theorem pureFrz_ok (hI : Inv w Im O β st a) {o : Oper} {f : FuncId} {args : List PV} {vs : Array Value} {res r : PV} {σ1 : Store} {k : Nat} (hrun : (execOp a.eval o).run P w = .ok (.enter f vs) w)
    (hargs : RepArgs w Im β args vs) (hd : ∀ p ∈ args, p.Data) (hr : frzP σ1 k res = some r) (hc : CallOk P f args [] res σ1) :
    OpOk P w Im O β a o { slots := putS (untake st.slots none) o.dst r, store := st.store } := by
  refine .enter hrun ?_
  refine (hc.2 w Im (fun _ => none) [] vs ⟨rfl, by simp, hI.good.im, by simp, by simp⟩ (by simp) ⟨hargs.1, fun i p v hp hv => ⟨data_ext (hargs.2 i p v hp hv).1 (hd p (List.mem_of_getElem? hp)), (hargs.2 i p v hp hv).2⟩⟩).mono ?_
  rintro e w' ⟨v, Im', Oc, βc, l, rfl, hf, _, hg, hrep, hown⟩
  refine ⟨v, rfl, ?_⟩
  have hn : NewW w w' := ⟨hf.env, hf.size, fun b hb => hf.same b hb rfl⟩
  obtain ⟨g1, g2, g3⟩ := hI.good.newW (Im' := ImBox Im' βc σ1) hn (fun b o h => .inl (hf.keep b o h).1) (fun b o h => by
    rcases h with h | ⟨id, cells, h1, h2, h3⟩
    · rcases hf.new b o h with h1 | h1 | h1
      · exact .inl h1
      · exact absurd rfl h1
      · exact .inr ⟨h1, hg.im b o h⟩
    · obtain ⟨hO, cs, e, hh, hcs, _⟩ := hg.box id b cells h1 h2
      have ho : o < cs.size := by omega
      refine .inr ⟨?_, cs[o], by simp [World.cell?, hh, ho]⟩
      rcases Nat.lt_or_ge b w.heap.size with hlt | hge
      · have := hf.own b hlt rfl
        rw [hO] at this
        cases this
      · exact hge)
  obtain ⟨r1, r2⟩ := frzP_ok (β' := β) hg hrep hr
  exact ⟨_, O, β, g2, .refl β, ⟨g1, (g3 _ _ hI.slots).put r1 (fun d _ => .of_not r2)⟩⟩
theorem pureCall_ok (hI : Inv w Im O β st a) {o : Oper} {f : FuncId} {args : List PV} {vs : Array Value} {res : PV} {σ1 : Store} (hrun : (execOp a.eval o).run P w = .ok (.enter f vs) w)
    (hargs : RepArgs w Im β args vs) (hd : ∀ p ∈ args, p.Data) (hr : res.Data) (hc : CallOk P f args [] res σ1) :
    OpOk P w Im O β a o { slots := putS (untake st.slots none) o.dst res, store := st.store } := by
  refine .enter hrun ?_
  refine (hc.2 w Im (fun _ => none) [] vs ⟨rfl, by simp, hI.good.im, by simp, by simp⟩ (by simp) ⟨hargs.1, fun i p v hp hv => ⟨data_ext (hargs.2 i p v hp hv).1 (hd p (List.mem_of_getElem? hp)), (hargs.2 i p v hp hv).2⟩⟩).mono ?_
  rintro e w' ⟨v, Im', Oc, βc, l, rfl, hf, _, hg, hrep, hown⟩
  refine ⟨v, rfl, ?_⟩
  have hn : NewW w w' := ⟨hf.env, hf.size, fun b hb => hf.same b hb rfl⟩
  obtain ⟨g1, g2, g3⟩ := hI.good.newW hn (fun b o h => (hf.keep b o h).1) (fun b o h => by
    rcases hf.new b o h with h1 | h1 | h1
    · exact .inl h1
    · exact absurd rfl h1
    · exact .inr ⟨h1, hg.im b o h⟩)
  have hOc : ∀ b, b < w.heap.size → Oc b = none := fun b hb => hf.own b hb rfl
  let l' : Loc := match o.dst with | some d => .slot d | none => .slot 0
  let O' : OwT := fun b => if Oc b = some (.slot l) then some l' else O b
  have hl' : ∀ id, l' ≠ .box id := by intro id; show (match o.dst with | some d => Loc.slot d | none => .slot 0) ≠ .box id; cases o.dst <;> simp
  have hO' : ∀ b x, O b = some x → O' b = some x := by
    intro b x hb
    show (if Oc b = some (.slot l) then some l' else O b) = some x
    rw [if_neg (by rw [hOc b (hI.good.lim b (by simp [hb]))]; simp)]
    exact hb
  have hmono : ∀ {loc : Loc} {p : PV} {v : Value}, OwnP w' Im' O loc p v → OwnP w' Im' O' loc p v := fun h => h.mono fun b hb => ⟨hO' _ _ hb, rfl, fun _ h => h⟩
  refine ⟨Im', O', β, ⟨g2.env, g2.size, g2.same, g2.keep, g2.new, fun b hb ho => ?_⟩, .refl β, ⟨⟨g1.len, ?_, g1.im, ?_, ?_⟩, ?_⟩⟩
  · show (if Oc b = some (.slot l) then some l' else O b) = none
    rw [if_neg (by rw [hOc b hb]; simp)]
    exact ho
  · intro id b cells hb hcl
    obtain ⟨h1, cs, e, h2, h3, h4⟩ := g1.box id b cells hb hcl
    refine ⟨hO' _ _ h1, cs, e, h2, h3, fun j p v hp hv => ?_⟩
    obtain ⟨k1, k2, k3⟩ := h4 j p v hp hv
    exact ⟨k1, hmono k2, k3⟩
  · intro b o hb id ho
    replace ho : (if Oc b = some (.slot l) then some l' else O b) = some (.box id) := ho
    split at ho
    · simp at ho; exact hl' id ho
    · exact g1.box' b o hb id ho
  · intro b hb
    replace hb : (if Oc b = some (.slot l) then some l' else O b) ≠ none := hb
    split at hb
    · rename_i h; exact hg.lim b (by rw [h]; simp)
    · exact g1.lim b hb
  · have hs := g3 _ _ hI.slots
    refine Slots.put (a := a) ⟨hs.len, fun i p u hp hu => ⟨(hs.rep i p u hp hu).1, hmono (hs.rep i p u hp hu).2⟩⟩ (data_ext hrep hr) (fun d hd => ?_)
    refine hown.mono fun b hb => ⟨?_, rfl, fun _ h => h⟩
    show (if Oc b = some (.slot l) then some l' else O b) = some (.slot d)
    rw [if_pos hb]
    show some (match o.dst with | some d => Loc.slot d | none => .slot 0) = some (.slot d)
    rw [hd]
def isSlot : Option Loc → Bool
  | some (.slot _) => true
  | _ => false
theorem impureCall_ok (hI : Inv w Im O β st a) {o : Oper} {f : FuncId} {args : List PV} {vs : Array Value} {res : PV} {σ1 : Store} (hrun : (execOp a.eval o).run P w = .ok (.enter f vs) w)
    (hargs : RepArgs w Im β args vs) (hc : CallOk P f args st.store res σ1) (hel : EldTo st.store σ1) :
    OpOk P w Im O β a o { slots := putS (untake st.slots none) o.dst res.strip, store := if res.isData then σ1.take st.store.length else σ1 } := by
  have hg := hI.good
  let Oc0 : OwT := fun b => if isSlot (O b) then none else O b
  have hOc0 : ∀ b x, O b = some x → (∀ s, x ≠ .slot s) → Oc0 b = some x := by
    intro b x hb hx
    show (if isSlot (O b) then none else O b) = some x
    rw [hb]
    cases x <;> first | rfl | exact absurd rfl (hx _)
  have hOcn : ∀ b, Oc0 b = none ↔ (O b = none ∨ isSlot (O b) = true) := by
    intro b
    show (if isSlot (O b) then none else O b) = none ↔ _
    split
    · rename_i h; simp [h]
    · rename_i h; simp [h]
  have hOcs : ∀ b x, Oc0 b = some x → O b = some x := by
    intro b x hb
    replace hb : (if isSlot (O b) then none else O b) = some x := hb
    split at hb
    · cases hb
    · exact hb
  have hgc : Good w Im Oc0 β st.store := by
    refine ⟨hg.len, ?_, hg.im, fun b o hb id ho => hg.box' b o hb id (hOcs _ _ ho), fun b hb => hg.lim b (fun hn => hb ((hOcn b).2 (.inl hn)))⟩
    intro id b cells hb hcl
    obtain ⟨h1, cs, e, h2, h3, h4⟩ := hg.box id b cells hb hcl
    refine ⟨hOc0 _ _ h1 (by simp), cs, e, h2, h3, fun j p v hp hv => ?_⟩
    obtain ⟨k1, k2, k3⟩ := h4 j p v hp hv
    exact ⟨k1, k2.mono fun b hb => ⟨hOc0 _ _ hb (by simp), rfl, fun _ h => h⟩, k3⟩
  refine .enter hrun ?_
  refine (hc.2 w Im Oc0 β vs hgc (fun b i hb => by
    replace hb : (if isSlot (O b) then none else O b) = some (.slot i) := hb
    split at hb
    · cases hb
    · rename_i h; rw [hb] at h; simp [isSlot] at h) hargs).mono ?_
  rintro e w' ⟨v, Im', Oc, β', l, rfl, hf, hext, hg', hrep, hown⟩
  refine ⟨v, rfl, ?_⟩
  let O' : OwT := fun b => if b < w.heap.size ∧ isSlot (O b) = true then O b else if isSlot (Oc b) then none else Oc b
  have hnoc : ∀ b, b < w.heap.size → isSlot (O b) = true → Oc b = none := fun b hb hs => hf.own b hb ((hOcn b).2 (.inr hs))
  have hO1 : ∀ b x, Oc b = some x → (∀ s, x ≠ .slot s) → O' b = some x := by
    intro b x hb hx
    show (if b < w.heap.size ∧ isSlot (O b) = true then O b else if isSlot (Oc b) then none else Oc b) = some x
    rw [if_neg (fun h => by rw [hnoc b h.1 h.2] at hb; cases hb), hb]
    cases x <;> first | rfl | exact absurd rfl (hx _)
  have hO2 : ∀ b i, O b = some (.slot i) → O' b = some (.slot i) := by
    intro b i hb
    show (if b < w.heap.size ∧ isSlot (O b) = true then O b else if isSlot (Oc b) then none else Oc b) = some (.slot i)
    rw [if_pos ⟨hg.lim b (by simp [hb]), by rw [hb]; rfl⟩]
    exact hb
  have hO3 : ∀ b id, O' b = some (.box id) → Oc b = some (.box id) := by
    intro b id hb
    replace hb : (if b < w.heap.size ∧ isSlot (O b) = true then O b else if isSlot (Oc b) then none else Oc b) = some (.box id) := hb
    split at hb
    · rename_i h; rw [hb] at h; simp [isSlot] at h
    · split at hb
      · cases hb
      · exact hb
  have hlim : ∀ b, O' b ≠ none → b < w'.heap.size := by
    intro b hb
    replace hb : (if b < w.heap.size ∧ isSlot (O b) = true then O b else if isSlot (Oc b) then none else Oc b) ≠ none := hb
    split at hb
    · rename_i h; exact Nat.lt_of_lt_of_le h.1 hf.size
    · split at hb
      · exact absurd rfl hb
      · exact hg'.lim b hb
  have hgood : Good w' Im' O' β' σ1 := by
    refine ⟨hg'.len, ?_, hg'.im, fun b o hb id ho => hg'.box' b o hb id (hO3 _ _ ho), hlim⟩
    intro id b cells hb hcl
    obtain ⟨h1, cs, e, h2, h3, h4⟩ := hg'.box id b cells hb hcl
    refine ⟨hO1 _ _ h1 (by simp), cs, e, h2, h3, fun j p v hp hv => ?_⟩
    obtain ⟨k1, k2, k3⟩ := h4 j p v hp hv
    exact ⟨k1, k2.mono fun b hb => ⟨hO1 _ _ hb (by simp), rfl, fun _ h => h⟩, k3⟩
  have hfr : Fr w Im O w' Im' O' := by
    refine ⟨hf.env, hf.size, fun b hb ho => hf.same b hb ((hOcn b).2 (.inl ho)), hf.keep, fun b o hb => ?_, fun b hb ho => ?_⟩
    · rcases hf.new b o hb with h | h | h
      · exact .inl h
      · exact .inr (.inl fun ho => h ((hOcn b).2 (.inl ho)))
      · exact .inr (.inr h)
    · show (if b < w.heap.size ∧ isSlot (O b) = true then O b else if isSlot (Oc b) then none else Oc b) = none
      rw [if_neg (by rw [ho]; simp [isSlot]), hf.own b hb ((hOcn b).2 (.inl ho))]
      rfl
  have hslots : ∀ {β2 : List Nat}, (∀ id b : Nat, β[id]? = some b → β2[id]? = some b) → Slots w' Im' O' β2 st.slots a.tmps := by
    intro β2 h2
    refine ⟨hI.slots.len, fun i p u hp hu => ?_⟩
    obtain ⟨k1, k2⟩ := hI.slots.rep i p u hp hu
    refine ⟨k1.keep hf.keep h2, k2.mono fun b hb => ⟨hO2 _ _ hb, hf.same b (hg.lim b (by simp [hb])) ((hOcn b).2 (.inr (by rw [hb]; rfl))), fun o ho => ?_⟩⟩
    rcases hf.new b o ho with h | h | h
    · exact h
    · exact absurd ((hOcn b).2 (.inr (by rw [hb]; rfl))) h
    · exact absurd (hg.lim b (by simp [hb])) (by omega)
  by_cases hdata : res.isData = true
  · have hd := PV.data_of res hdata
    have htake : ∀ id, id < st.store.length → (σ1.take st.store.length)[id]? = σ1[id]? := fun id hid => by rw [List.getElem?_take, if_pos hid]
    have hβ : β'.take st.store.length = β := by
      apply List.ext_getElem?
      intro id
      rw [List.getElem?_take]
      split
      · rename_i hid
        have hid' : id < β.length := by rw [hg.len]; exact hid
        rw [List.getElem?_eq_getElem hid']
        exact hext id _ (List.getElem?_eq_getElem hid')
      · rename_i hid
        rw [List.getElem?_eq_none (by rw [hg.len]; omega)]
    refine ⟨Im', O', β, hfr, .refl β, ⟨?_, ?_⟩⟩
    · simp only [hdata, if_true]
      refine ⟨?_, ?_, hg'.im, fun b o hb id ho => hg'.box' b o hb id (hO3 _ _ ho), hlim⟩
      · have h1 := hg'.len
        have h2 : (β'.take st.store.length).length = β.length := by rw [hβ]
        simp at h2 ⊢
        rw [← h1]
        omega
      · intro id b cells hb hcl
        have hid : id < st.store.length := by rw [← hg.len]; exact (List.getElem?_eq_some_iff.1 hb).1
        rw [htake id hid] at hcl
        obtain ⟨h1, cs, e, h2, h3, h4⟩ := hgood.box id b cells (hext id b hb) hcl
        refine ⟨h1, cs, e, h2, h3, fun j p v hp hv => ?_⟩
        obtain ⟨k1, k2, k3⟩ := h4 j p v hp hv
        refine ⟨?_, k2, k3⟩
        have := k1.cut (n := st.store.length) (hel.2 _ (Nat.le_refl _) hg.eld id cells hid hcl p (List.mem_of_getElem? hp))
        rwa [hβ] at this
    · exact Slots.put (a := a) (hslots (fun _ _ h => h)) (data_ext hrep hd).strip (fun d _ => .of_not (strip_not_os _))
  · refine ⟨Im', O', β', hfr, hext, ⟨?_, ?_⟩⟩
    · simp only [hdata, if_false, Bool.false_eq_true]
      exact hgood
    · exact Slots.put (a := a) (hslots hext) hrep.strip (fun d _ => .of_not (strip_not_os _))
theorem callIt_ok {E : Env} {F : FnEv} (hF : FnOk E.P F) (hov : OvOk E) (hI : Inv w Im O β st a) {o : Oper} {f : FuncId} {args : List PV} {vs : Array Value} {r : PV × Store}
    (hrun : Callable E.P f → (execOp a.eval o).run E.P w = .ok (.enter f vs) w) (hargs : RepArgs w Im β args vs) (h : callIt E F f args st.store = some r) :
    OpOk E.P w Im O β a o { slots := putS (untake st.slots none) o.dst r.1, store := r.2 } := by
  unfold callIt at h
  cases hx : E.ext E.loose f with
  | some g =>
    simp only [hx] at h
    cases hr : g args st.store with
    | none => simp [hr] at h
    | some res =>
      simp only [hr, Option.map_some, Option.some.injEq] at h
      subst h
      obtain ⟨hc, hel⟩ := hov.2 _ f g hx args st.store res hr
      exact impureCall_ok hI (hrun hc.1) hargs hc hel
  | none =>
  simp only [hx] at h
  cases hg : E.ov f with
  | some g =>
    simp only [hg] at h
    split at h
    · rename_i hd
      cases hr : g args with
      | none => simp [hr] at h
      | some res =>
        simp only [hr, Option.bind_some] at h
        split at h
        · rename_i hrd
          cases h
          have hc := hov.1 f g hg args res hr hd hrd
          exact pureCall_ok hI (hrun hc.1) hargs (dataL_of args hd) (PV.data_of res hrd) hc
        · cases h
    · cases h
  | none =>
    simp only [hg] at h
    split at h
    · split at h
      · rename_i hd
        cases hr : F f args [] with
        | none => simp [hr] at h
        | some res =>
          simp only [hr, Option.bind_some] at h
          split at h
          · rename_i hrd
            cases h
            have hc := hF f args [] res.1 res.2 hr
            exact pureCall_ok hI (hrun hc.1.1) hargs (dataL_of args hd) (PV.data_of res.1 hrd) hc.1
          · cases hz : frzP res.2 (res.2.length + 1) res.1 with
            | none => simp [hz] at h
            | some q =>
              simp [hz] at h
              subst h
              have hc := hF f args [] res.1 res.2 hr
              exact pureFrz_ok hI (hrun hc.1.1) hargs (dataL_of args hd) hz hc.1
      · cases h
    · split at h
      · cases hr : F f args st.store with
        | none => simp [hr] at h
        | some res =>
          simp only [hr, Option.bind_some] at h
          have hc := hF f args st.store res.1 res.2 hr
          have := impureCall_ok hI (hrun hc.1.1) hargs hc.1 hc.2
          split at h
          · rename_i hd
            cases h
            simp only [hd.1, if_true] at this
            rw [hd.2] at this
            exact this
          · cases h
      cases hr : F f args st.store with
      | none => simp [hr] at h
      | some res =>
        simp only [hr, Option.bind_some] at h
        have hc := hF f args st.store res.1 res.2 hr
        have := impureCall_ok hI (hrun hc.1.1) hargs hc.1 hc.2
        split at h
        · rename_i hd
          cases h
          simpa only [hd, if_true] using this
        · rename_i hd
          cases h
          simpa only [hd, if_false, Bool.false_eq_true] using this
theorem useL_args {ρ : Nat → PV} (h : Reps w Im β ρ a) {xs : List Operand} {ps : List PV} (hu : useL ρ xs = some ps) : RepArgs w Im β ps (xs.map a.eval).toArray := by
  obtain ⟨h1, h2⟩ := useL_rep h hu
  exact ⟨by simp [h1], fun i p v hp hv => h2 i p v hp (by simpa using hv)⟩
theorem RepArgs.append {l l' : List PV} {us us' : Array Value} (h : RepArgs w Im β l us) (h' : RepArgs w Im β l' us') : RepArgs w Im β (l ++ l') (us ++ us') := by
  refine ⟨by simp [h.1, h'.1], fun i p v hp hv => ?_⟩
  by_cases hi : i < l.length
  · rw [List.getElem?_append_left hi] at hp
    rw [Array.getElem?_append_left (by rw [← h.1]; exact hi)] at hv
    exact h.2 i p v hp hv
  · rw [List.getElem?_append_right (by omega)] at hp
    rw [Array.getElem?_append_right (by rw [← h.1]; omega), ← h.1] at hv
    exact h'.2 _ p v hp hv
theorem toVL_rep {ρ : Nat → PV} : ∀ {ps : List PV} {vs : List Value} {us : List Value}, toVL ps = some us → ps.length = vs.length → (∀ (i : Nat) (p : PV) (v : Value), ps[i]? = some p → vs[i]? = some v → RepP w Im β p v) → us = vs
  | [], vs, us, h, hl, _ => by
    simp [toVL] at h
    subst h
    cases vs with
    | nil => rfl
    | cons v vs => simp at hl
  | p :: ps, [], us, h, hl, _ => by simp at hl
  | p :: ps, v :: vs, us, h, hl, hr => by
    cases hp : toV p with
    | none => simp [toVL, hp] at h
    | some u =>
      cases ht : toVL ps with
      | none => simp [toVL, hp, ht] at h
      | some us' =>
        simp [toVL, hp, ht] at h
        subst h
        have h1 := toV_rep (hr 0 p v (by simp) (by simp)) hp
        have h2 := toVL_rep (ρ := ρ) ht (by simpa using hl) (fun i p v hp hv => hr (i + 1) p v (by simpa using hp) (by simpa using hv))
        rw [h1, h2]
theorem flatD_get {sz : Nat} : ∀ {rows : List (List DV)}, rowsOk sz rows = true → (flatD rows).length = rows.length * sz ∧ ∀ (k : Nat) (q : PV), (flatD rows)[k]? = some q → ∃ i j r d, rows[i]? = some r ∧ r[j]? = some d ∧ k = i * sz + j ∧ q = .d d
  | [], _ => ⟨by simp [flatD], by simp [flatD]⟩
  | r :: rs, h => by
    simp only [rowsOk, List.all_cons, Bool.and_eq_true] at h
    obtain ⟨h1, h2⟩ := h
    have hr : r.length = sz := by simpa using h1
    obtain ⟨g1, g2⟩ := flatD_get (rows := rs) h2
    refine ⟨by simp [flatD, g1, hr, Nat.add_mul]; omega, fun k q hq => ?_⟩
    simp only [flatD] at hq
    by_cases hk : k < r.length
    · rw [List.getElem?_append_left (by simpa using hk), List.getElem?_map] at hq
      cases hd : r[k]? with
      | none => simp [hd] at hq
      | some d => simp [hd] at hq; exact ⟨0, k, r, d, by simp, hd, by simp, hq.symm⟩
    · rw [List.getElem?_append_right (by simpa using hk)] at hq
      simp only [List.length_map] at hq
      obtain ⟨i, j, r', d, e1, e2, e3, e4⟩ := g2 _ q hq
      exact ⟨i + 1, j, r', d, by simpa using e1, e2, by rw [Nat.add_mul]; omega, e4⟩
theorem rowsOk_take {sz n : Nat} {rows : List (List DV)} (h : rowsOk sz rows = true) : rowsOk sz (rows.take n) = true := by
  unfold rowsOk at h ⊢
  rw [List.all_eq_true] at h ⊢
  exact fun x hx => h x (List.mem_of_mem_take hx)
theorem storeS_spec {σ σ' : Store} {id off : Nat} {vs : List PV} (h : storeS σ id off vs = some σ') : ∃ cells, σ[id]? = some cells ∧ off + vs.length ≤ cells.length ∧ σ' = σ.set id (cells.take off ++ vs ++ cells.drop (off + vs.length)) := by
  unfold storeS at h
  cases hc : σ[id]? with
  | none => simp [hc] at h
  | some cells =>
    simp only [hc, Option.bind_some] at h
    split at h
    · rename_i hl; cases h; exact ⟨cells, rfl, hl, rfl⟩
    · cases h
theorem putMs_ok {P : Program} (hI : Inv w Im O β st a) {id off len sz : Nat} {v : Value} (hp : RepP w Im β (.ms id off len sz) v) {cs : List PV} {σ' : Store} (hs : storeS st.store id off cs = some σ') {news : List Value}
    (hlen : news.length = cs.length) (hle : cs.length ≠ 0 → len ≠ 0) (hrep : ∀ (i : Nat) (q : PV) (u : Value), cs[i]? = some q → news[i]? = some u → RepP w Im β q u) (hno : ∀ q ∈ cs, ∀ rows, q ≠ .os rows) (hone : ∀ u ∈ news, u.oneCell' = true) :
    ∃ x c w', v = .slice (some x) len c ∧ (storeCells x news).run P w = .ok () w' ∧ Fr w Im O w' Im O ∧ Inv w' Im O β ⟨st.slots, σ'⟩ a := by
  obtain ⟨cells, hc, hfit, rfl⟩ := storeS_spec hs
  cases hp with
  | ms _ _ _ _ b c x hb hcap hx =>
    obtain ⟨w', h1, h2, h3⟩ := putCells_ok (P := P) hI hb hc hfit hlen hrep hno hone
    refine ⟨x, c, w', rfl, ?_, h2, h3⟩
    by_cases h0 : cs.length = 0
    · have : news = [] := List.eq_nil_of_length_eq_zero (by omega)
      subst this
      exact h1
    · rw [hx (hle h0)]
      exact h1
theorem OpOk.putV {o : Oper} {P : Program} {w' : World} {slots : List PV} {σ' : Store} {r : PV} {v : Value} (hrun : (execOp a.eval o).run P w = .ok (.value v) w') (hf : Fr w Im O w' Im O) (hi : Inv w' Im O β ⟨slots, σ'⟩ a)
    (hr : RepP w' Im β r v) (hno : ∀ rows, r ≠ .os rows) : OpOk P w Im O β a o { slots := putS slots o.dst r, store := σ' } :=
  .value hrun hf (.refl β) ⟨hi.good, hi.slots.put hr (fun d _ => .of_not hno)⟩
theorem copy_ok {P : Program} (hI : Inv w Im O β st a) {o : Oper} {argTypes : Array TypeId} {lo : Bool} {t t' : TypeId} {x y : Operand} {p q : PV} {r : PV × Store} (hx : use (rd st.slots) x = some p) (hy : use (rd st.slots) y = some q)
    (ho : o.op = .call ⟨.builtin .copy, #[x, y], argTypes⟩) (ht : argTypes = #[t, t']) (h : evCopy P lo t st.store p q = some r) : OpOk P w Im O β a o { slots := putS (untake st.slots none) o.dst r.1, store := r.2 } := by
  have hp := use_rep hI.reps hx
  have hq := use_rep hI.reps hy
  unfold evCopy at h
  split at h
  · rename_i e id off len sz rows hu
    split at h
    · rename_i hcond
      obtain ⟨hsz, hok⟩ := hcond
      cases hs : storeS st.store id off (flatD (rows.take (min rows.length len))) with
      | none => simp [hs] at h
      | some σ' =>
        simp [hs] at h
        subst h
        have hD := hq.slice_inv
        obtain ⟨y0, cap, hv, hcap⟩ := hD.slice_form
        rw [hv] at hD
        obtain ⟨-, -, hnil, news, n1, n2, n3, n4, n5, n6⟩ := rows_values hD hok
        generalize hn : min rows.length len = n at hs ⊢
        have hn1 : n ≤ rows.length := by omega
        have hn2 : n ≤ len := by omega
        have hok' := rowsOk_take (n := n) hok
        obtain ⟨f1, f2⟩ := flatD_get hok'
        rw [List.length_take, Nat.min_eq_left hn1] at f1
        have hmul : n * sz ≤ rows.length * sz := Nat.mul_le_mul_right _ hn1
        have hsr := szT_run hsz w
        obtain ⟨xa, c, w', e1, e2, e3, e4⟩ := putMs_ok (P := P) hI hp hs (news := news.take (n * sz)) (by rw [f1, List.length_take]; omega) (by intro hne; rw [f1] at hne; intro h0; apply hne; rw [show n = 0 by omega]; simp)
          (fun i q u hq hu => by
            obtain ⟨i', j, r, d, k1, k2, k3, k4⟩ := f2 i q hq
            subst k4
            rw [List.getElem?_take] at k1
            split at k1
            · obtain ⟨u', m1, m2⟩ := n5 i' j r d k1 k2
              rw [List.getElem?_take] at hu
              split at hu
              · rw [k3, m1] at hu
                cases hu
                exact .d m2
              · cases hu
            · cases k1)
          (fun q hq => by
            obtain ⟨k, hk⟩ := List.mem_iff_getElem?.1 hq
            obtain ⟨_, _, _, d, _, _, _, rfl⟩ := f2 k q hk
            simp)
          (fun u hu => n6 u (List.mem_of_mem_take hu))
        have hfc : (Builtin.firstCells sz n (.slice y0 rows.length cap)).run P w = .ok (news.take (n * sz)).toArray w := by
          cases y0 with
          | none =>
            obtain ⟨h1, _⟩ := hnil rfl
            have : news = [] := List.eq_nil_of_length_eq_zero (by rw [n1, h1]; simp)
            subst this
            simp [Builtin.firstCells]
          | some ya =>
            simp only [Builtin.firstCells]
            have := run_loadCells w ya (n * sz) (fun j => news.getD j default) (P := P) (fun j hj => by
              have hj' : j < news.length := by omega
              have := n2 ya rfl j news[j] (List.getElem?_eq_getElem hj')
              rw [this]
              simp [List.getD, hj'])
            rw [this]
            congr 2
            apply List.ext_getElem?
            intro j
            by_cases hj : j < n * sz
            · have hj' : j < news.length := by omega
              simp [hj, List.getD, hj']
            · rw [List.getElem?_eq_none (by simp; omega), List.getElem?_eq_none (by simp; omega)]
        refine .putV (v := .int .i64 (n : Nat)) ?_ e3 e4 (.d (.int _ _)) (by simp)
        subst ht
        have hgo : Nat.min rows.length len = n := hn
        simp [execOp, ho, resolve, invoke, builtin, Builtin.copy_, e1, hv, run_underlying hu, Builtin.lenOf, hsr, hgo, hfc, e2, goInt]
    · cases h
  · rename_i e id off len sz id' off' len' sz' hu
    split at h
    · rename_i hcond
      obtain ⟨hsz, rfl⟩ := hcond
      cases hl : loadS st.store id' off' (min len' len * sz') with
      | none => simp [hl] at h
      | some cs =>
        simp only [hl, Option.bind_some] at h
        split at h
        · rename_i hcond2
          cases hs : storeS st.store id off (cs.map PV.strip1) with
          | none => simp [hs] at h
          | some σ' =>
            simp [hs] at h
            subst h
            obtain ⟨cells, hc, hfit, hcs⟩ := loadS_get hl
            generalize hn : min len' len = n at hs hl hfit hcs ⊢
            generalize hvq : a.eval y = vq at hq
            cases hq with
            | ms _ _ _ _ b' c' x' hb' hcap' hx' =>
              obtain ⟨g1, cs0, e0, g2, g3, g4⟩ := hI.good.box id' b' cells hb' hc
              have hlen0 : cs.length = n * sz' := by rw [hcs]; simp; omega
              have hsr := szT_run hsz w
              have hcell : ∀ j, j < n * sz' → ∃ p u, cs[j]? = some p ∧ cs0[off' + j]? = some u ∧ w.cell? ⟨b', off' + j, none⟩ = some u ∧ RepP w Im β p u := by
                intro j hj
                have h1 : off' + j < cells.length := by omega
                have h2 : off' + j < cs0.size := by omega
                refine ⟨cells[off' + j], cs0[off' + j], ?_, Array.getElem?_eq_getElem h2, by simp [World.cell?, g2, h2], (g4 _ _ _ (List.getElem?_eq_getElem h1) (Array.getElem?_eq_getElem h2)).1⟩
                rw [hcs, List.getElem?_take, if_pos hj, List.getElem?_drop]
                exact List.getElem?_eq_getElem h1
              obtain ⟨xa, c, w', e1, e2, e3, e4⟩ := putMs_ok (P := P) hI hp hs (news := (List.range (n * sz')).map fun j => cs0.getD (off' + j) default) (by simp [hlen0]) (by intro hne; intro h0; apply hne; rw [List.length_map, hlen0, show n = 0 by omega]; simp)
                (fun i q u hq hu => by
                  rw [List.getElem?_map] at hq
                  cases hci : cs[i]? with
                  | none => simp [hci] at hq
                  | some p0 =>
                    simp [hci] at hq
                    subst hq
                    have hi : i < n * sz' := by rw [← hlen0]; exact (List.getElem?_eq_some_iff.1 hci).1
                    obtain ⟨p1, u1, k1, k2, k3, k4⟩ := hcell i hi
                    rw [hci] at k1
                    cases k1
                    rw [List.getElem?_map, List.getElem?_range hi] at hu
                    simp [Array.getD_eq_getD_getElem?, k2] at hu
                    subst hu
                    exact k4.strip1)
                (fun q hq => by obtain ⟨q', _, rfl⟩ := List.mem_map.1 hq; exact strip1_not_os q')
                (fun u hu => by
                  obtain ⟨j, hj, rfl⟩ := List.mem_map.1 hu
                  have hj' := List.mem_range.1 hj
                  obtain ⟨p1, u1, k1, k2, k3, k4⟩ := hcell j hj'
                  rw [Array.getD_eq_getD_getElem?, k2]
                  exact oneP_cell k4.strip1 (List.all_eq_true.1 hcond2.2 _ (List.mem_map.2 ⟨p1, List.mem_of_getElem? k1, rfl⟩)))
              have hfc : (Builtin.firstCells sz' n (.slice (some x') len' c')).run P w = .ok ((List.range (n * sz')).map fun j => cs0.getD (off' + j) default).toArray w := by
                simp only [Builtin.firstCells]
                by_cases h0 : n * sz' = 0
                · rw [h0]; rfl
                · have hl0 : len' ≠ 0 := by intro h1; apply h0; rw [show n = 0 by omega]; simp
                  rw [hx' hl0]
                  exact loadCells_run (x := ⟨b', off', none⟩) rfl (n * sz') _ (fun j hj => by
                    obtain ⟨p1, u1, k1, k2, k3, k4⟩ := hcell j hj
                    rw [Array.getD_eq_getD_getElem?, k2]
                    exact k3)
              generalize ((List.range (n * sz')).map fun j => cs0.getD (off' + j) default) = news at e2 hfc
              refine .putV (v := .int .i64 (n : Nat)) ?_ e3 e4 (.d (.int _ _)) (by simp)
              subst ht
              have hgo : Nat.min len' len = n := hn
              simp [execOp, ho, resolve, invoke, builtin, Builtin.copy_, e1, hvq, run_underlying hu, Builtin.lenOf, hsr, hgo, hfc, e2, goInt]
        · cases h
    · cases h
  · cases h
theorem repCells_len (z : List PV) : ∀ n, (repCells n z).length = n * z.length
  | 0 => by simp [repCells]
  | n + 1 => by rw [repCells, List.length_append, repCells_len z n, Nat.add_mul]; omega
theorem repCells_get (z : List PV) : ∀ (n j : Nat), j < n * z.length → (repCells n z)[j]? = z[j % z.length]?
  | 0, j, h => by simp at h
  | n + 1, j, h => by
    rw [repCells]
    by_cases hj : j < z.length
    · rw [List.getElem?_append_left hj, Nat.mod_eq_of_lt hj]
    · rw [List.getElem?_append_right (by omega), repCells_get z n (j - z.length) (by rw [Nat.add_mul] at h; omega)]
      congr 1
      rw [Nat.mod_eq_sub_mod (by omega : j ≥ z.length)]
theorem repCells_mem {z : List PV} {p : PV} : ∀ {n : Nat}, p ∈ repCells n z → p ∈ z
  | 0, h => by simp [repCells] at h
  | n + 1, h => by
    rw [repCells] at h
    rcases List.mem_append.1 h with h | h
    · exact h
    · exact repCells_mem h
theorem oneP_not_os_cells {v : Value} {z : PV} (h : ofValue v = some z) : ∀ q ∈ cellsOf z, ∀ rows, q ≠ .os rows := by
  unfold ofValue at h
  split at h
  · rename_i cs
    cases hm : cs.toList.mapM ofCell with
    | none => simp [hm] at h
    | some ps =>
      simp [hm] at h
      subst h
      intro q hq
      obtain ⟨i, hi⟩ := List.mem_iff_getElem?.1 hq
      obtain ⟨h1, h2⟩ := mapM_get hm
      have hil : i < cs.toList.length := by rw [h1]; exact (List.getElem?_eq_some_iff.1 hi).1
      obtain ⟨y, hy, hf⟩ := h2 i _ (List.getElem?_eq_getElem hil)
      simp only [cellsOf] at hi
      rw [hi] at hy
      cases hy
      exact (ofCell_rep (w := default) (Im := fun _ _ => False) (β := []) hf).2
  · have hp : cellsOf z = [z] := by
      unfold ofCell at h
      split at h <;> simp at h <;> subst h <;> rfl
    intro q hq
    rw [hp] at hq
    simp at hq
    subst hq
    exact (ofCell_rep (w := default) (Im := fun _ _ => False) (β := []) h).2
theorem clear_ok {P : Program} (hI : Inv w Im O β st a) {o : Oper} {argTypes : Array TypeId} {t : TypeId} {x : Operand} {p : PV} {r : PV × Store} (hx : use (rd st.slots) x = some p)
    (ho : o.op = .call ⟨.builtin .clear, #[x], argTypes⟩) (ht : argTypes = #[t]) (h : evClear P t st.store p = some r) : OpOk P w Im O β a o { slots := putS (untake st.slots none) o.dst r.1, store := r.2 } := by
  have hp := use_rep hI.reps hx
  unfold evClear at h
  split at h
  · rename_i e id off len sz hu
    cases hz : zeroT P e with
    | none => simp [hz] at h
    | some z =>
      simp only [hz, Option.bind_some] at h
      split at h
      · rename_i hcond
        obtain ⟨hzl, hsz, hone⟩ := hcond
        cases hs : storeS st.store id off (repCells len (cellsOf z)) with
        | none => simp [hs] at h
        | some σ' =>
          simp [hs] at h
          subst h
          obtain ⟨zv, h1, h2⟩ := zeroT_run hz w
          obtain ⟨g1, g2⟩ := cellsOf_rep (w := w) (Im := Im) (β := β) (ofValue_rep h2).1
          have hnos := oneP_not_os_cells h2
          have hzs : zv.cells.size = sz := by rw [← g1, hzl]
          have hget : ∀ j, j < len * sz → ∃ q u, (repCells len (cellsOf z))[j]? = some q ∧ (Builtin.zeroCells zv.cells len).toList[j]? = some u ∧ RepP w Im β q u ∧ q ∈ cellsOf z := by
            intro j hj
            have hsz0 : 0 < sz := by
              rcases Nat.eq_zero_or_pos sz with h0 | h0
              · rw [h0] at hj; simp at hj
              · exact h0
            have hm : j % sz < sz := Nat.mod_lt _ hsz0
            have e1 : (cellsOf z)[j % sz]? = some (cellsOf z)[j % sz] := List.getElem?_eq_getElem (by omega)
            have e2 : zv.cells[j % sz]? = some zv.cells[j % sz] := Array.getElem?_eq_getElem (by omega)
            refine ⟨_, zv.cells[j % sz], ?_, ?_, g2 _ _ _ e1 e2, List.getElem_mem _⟩
            · have := repCells_get (cellsOf z) len j (by rw [hzl]; exact hj)
              rw [hzl] at this
              exact this.trans e1
            · unfold Builtin.zeroCells
              simp [hzs, hj, getElem!_pos zv.cells (j % sz) (by omega)]
          obtain ⟨xa, c, w', e1, e2, e3, e4⟩ := putMs_ok (P := P) hI hp hs (news := (Builtin.zeroCells zv.cells len).toList) (by rw [repCells_len, hzl]; simp [Builtin.zeroCells, hzs]) (by rw [repCells_len]; intro hne h0; apply hne; simp [h0])
            (fun i q u hq hu => by
              have hi : i < len * sz := by rw [← hzl, ← repCells_len]; exact (List.getElem?_eq_some_iff.1 hq).1
              obtain ⟨q', u', k1, k2, k3, _⟩ := hget i hi
              rw [k1] at hq; cases hq
              rw [k2] at hu; cases hu
              exact k3)
            (fun q hq => hnos q (repCells_mem hq))
            (fun u hu => by
              obtain ⟨i, hi⟩ := List.mem_iff_getElem?.1 hu
              have hi' : i < len * sz := by have := (List.getElem?_eq_some_iff.1 hi).1; simpa [Builtin.zeroCells, hzs] using this
              obtain ⟨q', u', k1, k2, k3, k4⟩ := hget i hi'
              rw [k2] at hi; cases hi
              exact oneP_cell k3 (List.all_eq_true.1 hone _ k4))
          refine .putV (v := .tuple #[]) ?_ e3 e4 (.tup [] #[] rfl (by simp)) (by simp)
          subst ht
          cases len with
          | zero =>
            have hnil : (Builtin.zeroCells zv.cells 0).toList = [] := by simp [Builtin.zeroCells]
            rw [hnil] at e2
            simp [execOp, ho, resolve, invoke, builtin, Builtin.clear_, e1, run_underlying hu]
            simpa [storeCells] using e2
          | succ n => simp [execOp, ho, resolve, invoke, builtin, Builtin.clear_, e1, run_underlying hu, h1, e2]
      · cases h
  · cases h
theorem call_ok {E : Env} {F : FnEv} (hF : FnOk E.P F) (hov : OvOk E) (hI : Inv w Im O β st a) {o : Oper} {c : Call} {g : Gives} (ho : o.op = .call c)
    (h : evCall E F (rd st.slots) st.store c = some g) : OpOk E.P w Im O β a o { slots := putS (untake st.slots g.2.1) o.dst g.1, store := g.2.2 } := by
  obtain ⟨callee, args, argTypes⟩ := c
  have minmax : ∀ (isMax : Bool) (hb : callee = .builtin (if isMax then .max else .min)) (ps : List PV) (r : PV), useL (rd st.slots) args.toList = some ps → evMinMax E.P isMax ps = some r →
      OpOk E.P w Im O β a o { slots := putS (untake st.slots none) o.dst r, store := st.store } := by
    intro isMax hb ps r hps hr
    unfold evMinMax at hr
    cases hv : toVL ps with
    | none => simp [hv] at hr
    | some us =>
      simp only [hv, Option.bind_some] at hr
      cases hp : pureRun E.P (if isMax then Builtin.max_ #[] 0 us.toArray else Builtin.min_ #[] 0 us.toArray) with
      | none => simp [hp] at hr
      | some u =>
        simp only [hp, Option.bind_some] at hr
        obtain ⟨u1, u2⟩ := useL_rep hI.reps hps
        have hus := toVL_rep (ρ := rd st.slots) hv (vs := args.toList.map a.eval) (by simp [u1]) (fun i p v hp hv => (u2 i p v hp hv).1)
        obtain ⟨s1, s2⟩ := ofScalar_rep (w := w) (Im := Im) (β := β) hr
        have hrun := pureRun_run _ _ hp w
        refine .value (v := u) (Im' := Im) (O' := O) (β' := β) ?_ (.refl _ _ _) (.refl β) ⟨hI.good, hI.slots.put s1 (fun d _ => .of_not s2)⟩
        have hargs : us.toArray = args.map a.eval := by rw [hus]; apply Array.ext'; simp
        rw [hargs] at hrun
        subst hb
        cases isMax with
        | true =>
          simp only [if_true] at hrun
          have : (Builtin.max_ argTypes o.type (args.map a.eval)).run E.P w = .ok u w := hrun
          simp [execOp, ho, resolve, invoke, builtin, this]
        | false =>
          simp only [Bool.false_eq_true, if_false] at hrun
          have : (Builtin.min_ argTypes o.type (args.map a.eval)).run E.P w = .ok u w := hrun
          simp [execOp, ho, resolve, invoke, builtin, this]
  unfold evCall at h
  simp only at h
  split at h
  · -- append
    split at h
    · rename_i tS tX s x htys hargs
      split at h
      · rename_i htt
        subst htt
        cases hs : opv (rd st.slots) s with
        | none => simp [hs] at h
        | some sv =>
          cases hx : use (rd st.slots) x with
          | none => simp [hs, hx] at h
          | some xv =>
            simp only [hs, hx, Option.bind_some] at h
            cases hr : evAppend E.P tS sv xv with
            | none => simp [hr] at h
            | some r =>
              simp [hr] at h
              subst h
              have htys' : argTypes = #[tS, tS] := by apply Array.ext'; simpa using htys
              have hargs' : args = #[s, x] := by apply Array.ext'; simpa using hargs
              let l : Loc := match o.dst with | some d => .slot d | none => .slot 0
              have hl1 : ∀ id, l ≠ .box id := by intro id; show (match o.dst with | some d => Loc.slot d | none => .slot 0) ≠ .box id; cases o.dst <;> simp
              have hl2 : ∀ id j, l ≠ .cell id j := by intro id j; show (match o.dst with | some d => Loc.slot d | none => .slot 0) ≠ .cell id j; cases o.dst <;> simp
              obtain ⟨v, w', Im', O', h1, h2, h3, h4, h5, h6⟩ := append_core hI hs hx hr o.type l hl1 hl2
              refine .value (v := v) (by simp [execOp, ho, resolve, invoke, builtin, htys', hargs', h1]) h2 (.refl β) ⟨h3, h4.put h5 (fun d hd => ?_)⟩
              have : l = .slot d := by show (match o.dst with | some d => Loc.slot d | none => .slot 0) = .slot d; rw [hd]
              rw [← this]
              exact h6
      · cases h
    · cases h
  · -- len
    split at h
    · rename_i t x htys hargs
      cases hx : use (rd st.slots) x with
      | none => simp [hx] at h
      | some p =>
        simp only [hx, Option.bind_some] at h
        cases hr : evLen E.P t p with
        | none => simp [hr] at h
        | some r =>
          simp [hr] at h
          subst h
          have htys' : argTypes = #[t] := by apply Array.ext'; simpa using htys
          have hargs' : args = #[x] := by apply Array.ext'; simpa using hargs
          have hp := use_rep hI.reps hx
          have key : ∃ u, (Builtin.len_ #[t] o.type #[a.eval x]).run E.P w = .ok u w ∧ RepP w Im β r u ∧ ∀ rows, r ≠ .os rows := by
            unfold evLen at hr
            split at hr
            · rename_i s hu
              cases hr
              rw [hp.str_inv]
              exact ⟨_, by simp [Builtin.len_, run_underlying hu, goInt], .d (.int _ _), by simp⟩
            · rename_i e rows hu
              cases hr
              obtain ⟨y, c, hv, _⟩ := hp.slice_inv.slice_form
              rw [hv]
              exact ⟨_, by simp [Builtin.len_, run_underlying hu, goInt], .d (.int _ _), by simp⟩
            · rename_i e id off len sz hu
              cases hr
              generalize hv : a.eval x = v at hp
              cases hp with
              | ms _ _ _ _ b c y hb hcap hy => exact ⟨_, by simp [Builtin.len_, run_underlying hu, goInt], .d (.int _ _), by simp⟩
            · rename_i n e hu hx2
              cases hr
              exact ⟨_, by simp [Builtin.len_, run_underlying hx2, goInt], .d (.int _ _), by simp⟩
            · cases hr
          obtain ⟨u, h1, h2, h3⟩ := key
          exact .value (v := u) (Im' := Im) (O' := O) (β' := β) (by simp [execOp, ho, resolve, invoke, builtin, htys', hargs', h1]) (.refl _ _ _) (.refl β) ⟨hI.good, hI.slots.put h2 (fun d _ => .of_not h3)⟩
    · cases h
  · -- copy
    split at h
    · rename_i t t' x y htys hargs
      cases hx : use (rd st.slots) x with
      | none => simp [hx] at h
      | some p =>
        cases hy : use (rd st.slots) y with
        | none => simp [hx, hy] at h
        | some q =>
          simp only [hx, hy, Option.bind_some] at h
          cases hr : evCopy E.P E.loose t st.store p q with
          | none => simp [hr] at h
          | some r =>
            simp [hr] at h
            subst h
            have htys' : argTypes = #[t, t'] := by apply Array.ext'; simpa using htys
            have hargs' : args = #[x, y] := by apply Array.ext'; simpa using hargs
            subst hargs'
            exact copy_ok hI hx hy ho htys' hr
    · cases h
  · -- clear
    split at h
    · rename_i t x htys hargs
      cases hx : use (rd st.slots) x with
      | none => simp [hx] at h
      | some p =>
        simp only [hx, Option.bind_some] at h
        cases hr : evClear E.P t st.store p with
        | none => simp [hr] at h
        | some r =>
          simp [hr] at h
          subst h
          have htys' : argTypes = #[t] := by apply Array.ext'; simpa using htys
          have hargs' : args = #[x] := by apply Array.ext'; simpa using hargs
          subst hargs'
          exact clear_ok hI hx ho htys' hr
    · cases h
  · -- min
    cases hps : useL (rd st.slots) args.toList with
    | none => simp [hps] at h
    | some ps =>
      simp only [hps, Option.bind_some] at h
      cases hr : evMinMax E.P false ps with
      | none => simp [hr] at h
      | some r => simp [hr] at h; subst h; exact minmax false rfl ps r hps hr
  · -- max
    cases hps : useL (rd st.slots) args.toList with
    | none => simp [hps] at h
    | some ps =>
      simp only [hps, Option.bind_some] at h
      cases hr : evMinMax E.P true ps with
      | none => simp [hr] at h
      | some r => simp [hr] at h; subst h; exact minmax true rfl ps r hps hr
  · cases h
  · cases h
  · -- a function
    rename_i f
    cases hfv : use (rd st.slots) f with
    | none => simp [hfv] at h
    | some fv =>
      cases hps : useL (rd st.slots) args.toList with
      | none => simp [hfv, hps] at h
      | some ps =>
        simp only [hfv, hps, Option.bind_some] at h
        split at h
        · rename_i g' first captured
          cases hr : callIt E F g' (first.map PV.strip ++ ps ++ captured.map PV.strip) st.store with
          | none => rw [hr] at h; cases h
          | some r =>
            rw [hr] at h
            cases h
            have hf := use_rep hI.reps hfv
            generalize hfe : a.eval f = fe at hf
            cases hf with
            | func _ _ _ vf vc hlf hlc h1 h2 =>
              have ha := useL_args hI.reps hps
              have hst : ∀ {l : List PV} {us : Array Value}, l.length = us.size → (∀ (i : Nat) (p : PV) (v : Value), l[i]? = some p → us[i]? = some v → RepP w Im β p v) →
                  RepArgs w Im β (l.map PV.strip) us := fun {l us} hl hh => ⟨by simpa using hl, fun i p v hp hv => by
                rw [List.getElem?_map] at hp
                cases hq : l[i]? with
                | none => simp [hq] at hp
                | some q => simp [hq] at hp; subst hp; exact ⟨(hh i q v hq hv).strip, strip_not_os q⟩⟩
              have ha' : RepArgs w Im β ps (args.map a.eval) := by
                have : (args.toList.map a.eval).toArray = args.map a.eval := by apply Array.ext'; simp
                rwa [this] at ha
              have hargs := ((hst hlf h1).append ha').append (hst hlc h2)
              refine callIt_ok hF hov hI (vs := vf ++ args.map a.eval ++ vc) (fun hcall => ?_) hargs hr
              obtain ⟨fn, q1, q2, q3⟩ := hcall
              obtain ⟨cb, hcb⟩ := Option.isSome_iff_exists.1 q2
              simp [execOp, ho, resolve, invoke, hfe, Deferred.ofValue, callFunc, q1, hcb, q3]
        · cases h
end step
end Go.Pv

namespace Go.Pv
open Go
section step
variable {P : Program} {w : World} {Im : ImT} {O : OwT} {β : List Nat} {st : St} {a : Act}
theorem newBox_w (hI : Inv w Im O β st a) {o : Oper} {cells : List PV} {cs0 : Array Value} {t : TypeId} {r : PV} {u : Value} {w' : World} (hnw : NewW w w') (hobj : w'.heap[w.heap.size]? = some (.cells cs0 t (0, 0)))
    (hrun : (execOp a.eval o).run P w = .ok (.value u) w')
    (hr : RepP w' Im (β ++ [w.heap.size]) r u) (hro : ∀ rows, r ≠ .os rows)
    (hcl : cells.length ≤ cs0.size) (hc : ∀ (j : Nat) (p : PV) (v : Value), cells[j]? = some p → cs0[j]? = some v → RepP w Im β p v) (hno : ∀ p ∈ cells, ∀ rows, p ≠ .os rows) :
    OpOk P w Im O β a o { slots := putS (untake st.slots none) o.dst r, store := st.store ++ [cells] } := by
  have hsz : w.heap.size < w'.heap.size := (Array.getElem?_eq_some_iff.1 hobj).1
  have hno' : ¬ (O w.heap.size ≠ none) := fun h => Nat.lt_irrefl _ (hI.good.lim _ h)
  have hOn : O w.heap.size = none := by simpa using hno'
  obtain ⟨g1, g2, g3⟩ := hI.good.newW hnw (fun _ _ h => h) (fun _ _ h => .inl h)
  have hExt : Ext β (β ++ [w.heap.size]) := fun id b h => by rw [List.getElem?_append_left (List.getElem?_eq_some_iff.1 h).1]; exact h
  have hO' : ∀ (b : Nat) (l : Loc), O b = some l → (fun b => if b = w.heap.size then some (Loc.box st.store.length) else O b) b = some l := by
    intro b l hl
    show (if b = w.heap.size then some (Loc.box st.store.length) else O b) = some l
    rw [if_neg (fun h => by subst h; rw [hOn] at hl; cases hl)]
    exact hl
  refine .value (Im' := Im) (O' := fun b => if b = w.heap.size then some (.box st.store.length) else O b) (β' := β ++ [w.heap.size]) hrun ?_ hExt ⟨⟨by simp [g1.len], ?_, g1.im, ?_, ?_⟩, ?_⟩
  · refine ⟨g2.env, g2.size, fun b hb ho => g2.same b hb ho, g2.keep, fun b o hb => g2.new b o hb, fun b hb ho => ?_⟩
    rw [if_neg (by omega)]
    exact ho
  · intro id b cs' hb hc'
    by_cases hid : id < st.store.length
    · rw [List.getElem?_append_left (by have := g1.len; omega)] at hb
      rw [List.getElem?_append_left hid] at hc'
      obtain ⟨h1, cs, e, h2, h3, h4⟩ := g1.box id b cs' hb hc'
      refine ⟨hO' _ _ h1, cs, e, h2, h3, fun j p v hp hv => ?_⟩
      obtain ⟨k1, k2, k3⟩ := h4 j p v hp hv
      exact ⟨k1.keep (.refl _ _) hExt, k2.mono fun b hb => ⟨hO' _ _ hb, rfl, fun _ h => h⟩, k3⟩
    · have hl := g1.len
      have hid' : id = st.store.length := by
        have := (List.getElem?_eq_some_iff.1 hc').1
        simp at this
        omega
      subst hid'
      rw [← hl, List.getElem?_concat_length] at hb
      rw [List.getElem?_concat_length] at hc'
      cases hb; cases hc'
      refine ⟨by simp, cs0, t, hobj, hcl, fun j p u hp hu => ⟨((hc j p u hp hu).keep g2.keep hExt), .of_not (hno p (List.mem_of_getElem? hp)), trivial⟩⟩
  · intro b o hb' id ho
    split at ho
    · rename_i he
      subst he
      exact absurd (hI.good.im.lt hb') (Nat.lt_irrefl _)
    · exact hI.good.box' b o hb' id ho
  · intro b hb'
    split at hb'
    · rename_i he; subst he; exact hsz
    · have := hI.good.lim b hb'; omega
  · have hs := g3 _ _ hI.slots
    refine Slots.put ⟨hs.len, fun i p u hp hu => ?_⟩ hr (fun d _ => .of_not hro)
    obtain ⟨k1, k2⟩ := hs.rep i p u hp hu
    exact ⟨k1.keep (.refl _ _) hExt, k2.mono fun b hb => ⟨hO' _ _ hb, rfl, fun _ h => h⟩⟩
theorem mkappM_ok (hI : Inv w Im O β st a) {o : Oper} {t : TypeId} {s x : Operand} {sv : PV} {id off len sz : Nat} {r : PV × Store}
    (ho : o.op = .call ⟨.builtin .append, #[s, x], #[t, t]⟩) (hs : opv (rd st.slots) s = some sv) (hx : use (rd st.slots) x = some (.ms id off len sz)) (h : mkApp P t st.store sv (.ms id off len sz) = some r) :
    OpOk P w Im O β a o { slots := putS (untake st.slots none) o.dst r.1, store := r.2 } := by
  simp only [mkApp, appT] at h
  cases hu : P.underlying t with
  | none => simp [hu] at h
  | some ud =>
  cases ud <;> simp only [hu] at h <;> try (simp at h; done)
  rename_i e
  cases hie : P.info? e with
  | none => simp [hie] at h
  | some ie =>
  simp only [hie] at h
  split at h
  case isFalse => simp at h
  rename_i hcond
  obtain ⟨hpos, hby, hz⟩ := hcond
  simp only [Option.bind_some] at h
  cases hrs : ownRows sv with
  | none => simp [hrs] at h
  | some rs =>
  cases hl : loadS st.store id off (len * sz) with
  | none => simp [hrs, hl] at h
  | some cs =>
  simp only [hrs, hl, Option.bind_some] at h
  split at h
  case isFalse => cases h
  rename_i hc
  simp only [Bool.and_eq_true, decide_eq_true_eq, List.isEmpty_iff] at hc
  obtain ⟨rfl, rfl, hpl, hroom, hone⟩ := hc
  cases h
  obtain ⟨z, hz1, hz2⟩ : ∃ z, ie.zero = some z ∧ z.cells.size = ie.size := by
    cases hz0 : ie.zero with
    | none => simp [hz0] at hz
    | some z => simp [hz0] at hz; exact ⟨z, rfl, hz⟩
  obtain ⟨A, hsv⟩ : ∃ A, a.eval s = .slice A 0 0 := by
    have hsp := opv_rep hI.reps hs
    cases sv <;> simp [ownRows] at hrs
    · generalize a.eval s = vs at hsp
      cases hsp with | e0 A => exact ⟨A, rfl⟩
    · rename_i rows
      cases rows <;> simp at hrs
  have hrb : len * ie.bytes ≤ 140737488355328 := Nat.le_trans hroom (by unfold roomB; decide)
  have hsmall : len ≤ 140737488355328 := Nat.le_trans (Nat.le_mul_of_pos_right _ hby) hrb
  obtain ⟨cells, hcl, hfit, hcs⟩ := loadS_get hl
  have hq := use_rep hI.reps hx
  generalize hvq : a.eval x = vq at hq
  cases hq with
  | ms _ _ _ _ b' c' x' hb' hcap' hx' =>
    obtain rfl := hx' (by omega)
    obtain ⟨g1, cs0, e0, g2, g3, g4⟩ := hI.good.box id b' cells hb' hcl
    have hlen0 : cs.length = len * ie.size := by rw [hcs]; simp; omega
    have hcell : ∀ j, j < len * ie.size → ∃ p u, cs[j]? = some p ∧ cs0[off + j]? = some u ∧ w.cell? ⟨b', off + j, none⟩ = some u ∧ RepP w Im β p u := by
      intro j hj
      have h1 : off + j < cells.length := by omega
      have h2 : off + j < cs0.size := by omega
      refine ⟨cells[off + j], cs0[off + j], ?_, Array.getElem?_eq_getElem h2, by simp [World.cell?, g2, h2], (g4 _ _ _ (List.getElem?_eq_getElem h1) (Array.getElem?_eq_getElem h2)).1⟩
      rw [hcs, List.getElem?_take, if_pos hj, List.getElem?_drop]
      exact List.getElem?_eq_getElem h1
    generalize hN : ((List.range (len * ie.size)).map fun j => cs0.getD (off + j) default) = news
    have n1 : news.length = len * ie.size := by rw [← hN]; simp
    have hget : ∀ j, j < len * ie.size → ∃ p u, cs[j]? = some p ∧ news[j]? = some u ∧ w.cell? ⟨b', off + j, none⟩ = some u ∧ RepP w Im β p u := by
      intro j hj
      obtain ⟨p, u, k1, k2, k3, k4⟩ := hcell j hj
      refine ⟨p, u, k1, ?_, k3, k4⟩
      rw [← hN, List.getElem?_map, List.getElem?_range hj]
      simp [Array.getD_eq_getD_getElem?, k2]
    have n2 : ∀ j u, news[j]? = some u → w.cell? ((⟨b', off, none⟩ : Addr).add j) = some u := by
      intro j u hu
      have hj : j < len * ie.size := by rw [← n1]; exact (List.getElem?_eq_some_iff.1 hu).1
      obtain ⟨p, u', k1, k2, k3, k4⟩ := hget j hj
      rw [hu] at k2
      cases k2
      rw [Addr.add_none rfl]
      exact k3
    have hcap := grownCap_ge w len 0 e
    have hrun : (Builtin.append_ #[t, t] o.type #[.slice A 0 0, .slice (some ⟨b', off, none⟩) len c']).run P w =
        .ok (.slice (some ⟨w.heap.size, 0, none⟩) len (grownCap w len 0 e))
          (w.drew.alloc (.cells (news ++ (Builtin.zeroCells z.cells (grownCap w len 0 e - len)).toList).toArray e)) := by
      cases A with
      | none =>
        have := run_append_nil (P := P) w t o.type e ie z hu hie hz1 ⟨b', off, none⟩ len c' news n1 n2 hpl (by omega) (by omega)
        rw [this]
        congr 2
        congr 1
        apply Array.ext'
        simp
      | some g =>
        have := run_append_grow (P := P) w t o.type e ie z hu hie hz1 g 0 0 [] (by simp) (by simp) ⟨b', off, none⟩ len c' news n1 n2 (by omega) (by omega) (growslice_fits (by omega) (by simpa using hrb))
        simp only [Nat.zero_add] at this
        rw [this]
        congr 2
        congr 1
        apply Array.ext'
        simp
    generalize hZ : (Builtin.zeroCells z.cells (grownCap w len 0 e - len)).toList = Z at hrun
    generalize grownCap w len 0 e = cap at hrun hcap hZ
    refine newBox_w (cs0 := (news ++ Z).toArray) (t := e) (u := .slice (some ⟨w.heap.size, 0, none⟩) len cap) hI (NewW.alloc w.drew _).drew (alloc_new w.drew _) (by simp [execOp, ho, resolve, invoke, builtin, hsv, hvq, hrun])
      (.ms _ 0 _ _ w.heap.size cap _ (by rw [← hI.good.len, List.getElem?_concat_length]) hcap (fun _ => rfl)) (by simp) (by simp; omega) (fun j p v hp hv => ?_) (fun p hp => by obtain ⟨q', _, rfl⟩ := List.mem_map.1 hp; exact strip1_not_os q')
    rw [List.getElem?_map] at hp
    cases hci : cs[j]? with
    | none => simp [hci] at hp
    | some p0 =>
      simp [hci] at hp
      subst hp
      have hj : j < len * ie.size := by rw [← hlen0]; exact (List.getElem?_eq_some_iff.1 hci).1
      obtain ⟨p1, u1, k1, k2, k3, k4⟩ := hget j hj
      rw [hci] at k1
      cases k1
      rw [List.getElem?_toArray, List.getElem?_append_left (by omega), k2] at hv
      cases hv
      exact k4.strip1
theorem mkapp_ok (hI : Inv w Im O β st a) {o : Oper} {t : TypeId} {s x : Operand} {sv xv : PV} {r : PV × Store}
    (ho : o.op = .call ⟨.builtin .append, #[s, x], #[t, t]⟩) (hs : opv (rd st.slots) s = some sv) (hx : use (rd st.slots) x = some xv) (h : mkApp P t st.store sv xv = some r) :
    OpOk P w Im O β a o { slots := putS (untake st.slots none) o.dst r.1, store := r.2 } := by
  by_cases hms : ∃ id off len sz, xv = .ms id off len sz
  · obtain ⟨id, off, len, sz, rfl⟩ := hms
    exact mkappM_ok hI ho hs hx h
  have h' : ((appT P t).bind fun k => (ownRows sv).bind fun rs => (elemsOf xv).bind fun xs =>
    if rs.isEmpty && (rowsOk k.1 xs && decide (xs.length * k.2 ≤ roomB)) then
      (if xs.isEmpty then some (.e0, st.store) else some (.ms st.store.length 0 xs.length k.1, st.store ++ [flatD xs])) else none) = some r := by
    cases xv <;> first | exact h | exact absurd ⟨_, _, _, _, rfl⟩ hms
  clear h
  have h := h'
  unfold appT at h
  cases hu : P.underlying t with
  | none => simp [hu] at h
  | some ud =>
  cases ud <;> simp only [hu] at h <;> try (simp at h; done)
  rename_i e
  cases hie : P.info? e with
  | none => simp [hie] at h
  | some ie =>
  simp only [hie] at h
  split at h
  case isFalse => simp at h
  rename_i hcond
  obtain ⟨hpos, hby, hz⟩ := hcond
  simp only [Option.bind_some] at h
  cases hrs : ownRows sv with
  | none => simp [hrs] at h
  | some rs =>
  cases hxs : elemsOf xv with
  | none => simp [hrs, hxs] at h
  | some xs =>
  simp only [hrs, hxs, Option.bind_some] at h
  split at h
  case isFalse => cases h
  rename_i hc
  simp only [Bool.and_eq_true, decide_eq_true_eq, List.isEmpty_iff] at hc
  obtain ⟨rfl, hok2, hroom⟩ := hc
  obtain ⟨z, hz1, hz2⟩ : ∃ z, ie.zero = some z ∧ z.cells.size = ie.size := by
    cases hz0 : ie.zero with
    | none => simp [hz0] at hz
    | some z => simp [hz0] at hz; exact ⟨z, rfl, hz⟩
  have hxD : RepD w Im (.slice xs) (a.eval x) := by
    have := use_rep hI.reps hx
    cases xv <;> simp [elemsOf] at hxs
    rename_i dx
    cases dx <;> simp at hxs
    subst hxs
    exact this.slice_inv
  obtain ⟨y, cx, hxv, hcx⟩ := hxD.slice_form
  rw [hxv] at hxD
  obtain ⟨_, _, hyn, news, n1, n2, _, _, n5, n6⟩ := rows_values hxD hok2
  obtain ⟨A, hsv⟩ : ∃ A, a.eval s = .slice A 0 0 := by
    have hsp := opv_rep hI.reps hs
    cases sv <;> simp [ownRows] at hrs
    · generalize a.eval s = vs at hsp
      cases hsp with | e0 A => exact ⟨A, rfl⟩
    · rename_i rows
      cases rows <;> simp at hrs
  have hrb : xs.length * ie.bytes ≤ 140737488355328 := Nat.le_trans hroom (by unfold roomB; decide)
  have hsmall : xs.length ≤ 140737488355328 := Nat.le_trans (Nat.le_mul_of_pos_right _ hby) hrb
  by_cases hxe : xs = []
  · subst hxe
    simp at h
    subst h
    have hf : (Builtin.firstCells ie.size 0 (.slice y 0 cx)).run P w = .ok #[] w := by
      cases y with
      | none => simp [Builtin.firstCells]
      | some b => simp [Builtin.firstCells, loadCells, loadCellsFrom]
    have hrun : (Builtin.append_ #[t, t] o.type #[.slice A 0 0, .slice y 0 cx]).run P w = .ok (.slice A 0 0) w := by
      cases A with
      | none => simp [Builtin.append_, run_underlying hu, sizeOf, typeInfo, hie, Builtin.lenOf, hf]
      | some b => simp [Builtin.append_, run_underlying hu, sizeOf, typeInfo, hie, Builtin.lenOf, hf, storeCells]
    have hxv' : a.eval x = .slice y 0 cx := hxv
    exact .value (v := .slice A 0 0) (by simp [execOp, ho, resolve, invoke, builtin, hsv, hxv', hrun]) (.refl _ _ _) (.refl β) ⟨hI.good, hI.slots.put (.e0 A) (fun _ _ => .of_not (by simp))⟩
  · have hxe' : xs.isEmpty = false := by cases xs <;> simp at hxe ⊢
    rw [hxe'] at h
    simp only [Bool.false_eq_true, if_false, Option.some.injEq] at h
    subst h
    obtain ⟨b, rfl⟩ : ∃ b, y = some b := by
      cases y with
      | none => exact absurd (hyn rfl).1 hxe
      | some b => exact ⟨b, rfl⟩
    have hxpos : 0 < xs.length := List.length_pos_iff.2 hxe
    have hcap := grownCap_ge w xs.length 0 e
    have hrun : (Builtin.append_ #[t, t] o.type #[.slice A 0 0, .slice (some b) xs.length cx]).run P w =
        .ok (.slice (some ⟨w.heap.size, 0, none⟩) xs.length (grownCap w xs.length 0 e))
          (w.drew.alloc (.cells (news ++ (Builtin.zeroCells z.cells (grownCap w xs.length 0 e - xs.length)).toList).toArray e)) := by
      cases A with
      | none =>
        have := run_append_nil (P := P) w t o.type e ie z hu hie hz1 b xs.length cx news n1 (n2 b rfl) hxpos (by omega) (by omega)
        rw [this]
        congr 2
        congr 1
        apply Array.ext'
        simp
      | some g =>
        have := run_append_grow (P := P) w t o.type e ie z hu hie hz1 g 0 0 [] (by simp) (by simp) b xs.length cx news n1 (n2 b rfl) (by omega) (by omega) (growslice_fits (by omega) (by simpa using hrb))
        simp only [Nat.zero_add] at this
        rw [this]
        congr 2
        congr 1
        apply Array.ext'
        simp
    generalize hZ : (Builtin.zeroCells z.cells (grownCap w xs.length 0 e - xs.length)).toList = Z at hrun
    generalize grownCap w xs.length 0 e = cap at hrun hcap hZ
    obtain ⟨f1, f2⟩ := flatD_get hok2
    refine newBox_w (cs0 := (news ++ Z).toArray) (t := e) (u := .slice (some ⟨w.heap.size, 0, none⟩) xs.length cap) hI (NewW.alloc w.drew _).drew (alloc_new w.drew _) (by simp [execOp, ho, resolve, invoke, builtin, hsv, hxv, hrun])
      (.ms _ 0 _ _ w.heap.size cap _ (by rw [← hI.good.len, List.getElem?_concat_length]) hcap (fun _ => rfl)) (by simp) (by rw [f1]; simp; omega) (fun j p v hp hv => ?_) (fun p hp rows he => ?_)
    · obtain ⟨i, k, rr, d, e1, e2, e3, rfl⟩ := f2 j p hp
      obtain ⟨u', h1, h2⟩ := n5 i k rr d e1 e2
      have hlt := (List.getElem?_eq_some_iff.1 h1).1
      rw [List.getElem?_toArray, List.getElem?_append_left (by omega), e3, h1] at hv
      cases hv
      exact .d h2
    · subst he
      obtain ⟨j, hj⟩ := List.mem_iff_getElem?.1 hp
      obtain ⟨i, k, rr, d, e1, e2, e3, he⟩ := f2 j _ hj
      cases he
theorem evMkApp_ok {E : Env} (hI : Inv w Im O β st a) {o : Oper} {c : Call} {g : Gives} (ho : o.op = .call c) (h : evMkApp E (rd st.slots) st.store c = some g) :
    OpOk E.P w Im O β a o { slots := putS (untake st.slots g.2.1) o.dst g.1, store := g.2.2 } := by
  obtain ⟨callee, args, argTypes⟩ := c
  unfold evMkApp at h
  simp only at h
  split at h
  · split at h
    · rename_i tS tX s x htys hargs
      split at h
      · rename_i htt
        subst htt
        cases hs : opv (rd st.slots) s with
        | none => simp [hs] at h
        | some sv =>
          cases hx : use (rd st.slots) x with
          | none => simp [hs, hx] at h
          | some xv =>
            simp only [hs, hx, Option.bind_some] at h
            cases hr : mkApp E.P tS st.store sv xv with
            | none => simp [hr] at h
            | some r =>
              simp [hr] at h
              subst h
              have htys' : argTypes = #[tS, tS] := by apply Array.ext'; simpa using htys
              have hargs' : args = #[s, x] := by apply Array.ext'; simpa using hargs
              subst htys' hargs'
              exact mkapp_ok hI ho hs hx hr
      · cases h
    · cases h
  · cases h
end step
theorem evMkApp_ext {E : Env} {ρ : Nat → PV} {σ : Store} {c : Call} {g : Gives} (h : evMkApp E ρ σ c = some g) : g.2.1 = none ∧ ∃ cc, g.2.2 = σ ++ cc := by
  unfold evMkApp at h
  split at h
  · split at h
    · rename_i tS tX s x htys hargs
      split at h
      · cases hs : opv ρ s with
        | none => simp [hs] at h
        | some sv =>
          cases hx : use ρ x with
          | none => simp [hs, hx] at h
          | some xv =>
            simp only [hs, hx, Option.bind_some] at h
            cases hr : mkApp E.P tS σ sv xv with
            | none => simp [hr] at h
            | some r =>
              simp [hr] at h
              subst h
              refine ⟨rfl, ?_⟩
              by_cases hms : ∃ id off len sz, xv = .ms id off len sz
              · obtain ⟨id, off, len, sz, rfl⟩ := hms
                simp only [mkApp] at hr
                cases hk : appT E.P tS with
                | none => simp [hk] at hr
                | some k =>
                  cases hrs : ownRows sv with
                  | none => simp [hk, hrs] at hr
                  | some rs =>
                    cases hxs : loadS σ id off (len * sz) with
                    | none => simp [hk, hrs, hxs] at hr
                    | some xs =>
                      simp only [hk, hrs, hxs, Option.bind_some] at hr
                      split at hr
                      · cases hr; exact ⟨_, rfl⟩
                      · cases hr
              replace hr : ((appT E.P tS).bind fun k => (ownRows sv).bind fun rs => (elemsOf xv).bind fun xs =>
                if rs.isEmpty && (rowsOk k.1 xs && decide (xs.length * k.2 ≤ roomB)) then
                  (if xs.isEmpty then some (.e0, σ) else some (.ms σ.length 0 xs.length k.1, σ ++ [flatD xs])) else none) = some r := by
                cases xv <;> first | exact hr | exact absurd ⟨_, _, _, _, rfl⟩ hms
              cases hk : appT E.P tS with
              | none => simp [hk] at hr
              | some k =>
                cases hrs : ownRows sv with
                | none => simp [hk, hrs] at hr
                | some rs =>
                  cases hxs : elemsOf xv with
                  | none => simp [hk, hrs, hxs] at hr
                  | some xs =>
                    simp only [hk, hrs, hxs, Option.bind_some] at hr
                    split at hr
                    · split at hr
                      · cases hr; exact ⟨[], by simp⟩
                      · cases hr; exact ⟨_, rfl⟩
                    · cases hr
      · cases h
    · cases h
  · cases h
end Go.Pv

namespace Go.Pv
open Go
theorem ofCell_plain {v : Value} {p : PV} (h : ofCell v = some p) (n : Nat) : p.Below n ∧ ∀ rows, p ≠ .os rows := by
  unfold ofCell at h
  split at h <;> simp at h <;> subst h <;> refine ⟨?_, by simp⟩
  · exact .d _
  · exact .d _
  · exact .d _
  · exact .e0
  · exact .nilptr
  · exact .nilFunc
  · exact .nilIface
theorem ofValue_cells {v : Value} {p : PV} (h : ofValue v = some p) (n : Nat) : ∀ q ∈ cellsOf p, q.Below n ∧ ∀ rows, q ≠ .os rows := by
  unfold ofValue at h
  split at h
  · rename_i cs
    cases hm : cs.toList.mapM ofCell with
    | none => simp [hm] at h
    | some ps =>
      simp [hm] at h
      subst h
      intro q hq
      obtain ⟨i, hi⟩ := List.mem_iff_getElem?.1 hq
      obtain ⟨h1, h2⟩ := mapM_get hm
      have hil : i < cs.toList.length := by rw [h1]; exact (List.getElem?_eq_some_iff.1 hi).1
      obtain ⟨y, hy, hf⟩ := h2 i _ (List.getElem?_eq_getElem hil)
      simp only [cellsOf] at hi
      rw [hi] at hy
      cases hy
      exact ofCell_plain hf n
  · have := ofCell_plain h n
    intro q hq
    have hp : cellsOf p = [p] := by
      unfold ofCell at h
      split at h <;> simp at h <;> subst h <;> rfl
    rw [hp] at hq
    simp at hq
    subst hq
    exact this
section step
variable {w : World} {Im : ImT} {O : OwT} {β : List Nat} {st : St} {a : Act} {E : Env} {F : FnEv}
theorem make_ok {P : Program} {w : World} {Im : ImT} {β : List Nat} {t : TypeId} {n m : Nat} {r : Nat × List PV} (kl kc : IntKind) (h : evMake P t n m = some r) :
    ∃ e cs, (Instr.makeSlice t (.int kl n) (.int kc m)).run P w = .ok (.slice (some ⟨w.heap.size, 0, none⟩) n m) (w.alloc (.cells cs e)) ∧ RepCells w Im β r.2 cs ∧ (∀ p ∈ r.2, (∀ k, p.Below k) ∧ ∀ rows, p ≠ .os rows) ∧ n ≤ m := by
  unfold evMake at h
  cases hk : appT P t with
  | none => simp [hk] at h
  | some k =>
    simp only [hk, Option.bind_some] at h
    split at h
    · rename_i e hu
      cases hz : zeroT P e with
      | none => simp [hz] at h
      | some z =>
        simp only [hz, Option.bind_some] at h
        split at h
        · rename_i hc
          cases h
          unfold appT at hk
          rw [hu] at hk
          simp only at hk
          cases hi : P.info? e with
          | none => simp [hi] at hk
          | some ie =>
            simp only [hi] at hk
            split at hk
            · rename_i hcond
              cases hk
              obtain ⟨c1, c2, c3⟩ := hcond
              cases hzv : ie.zero with
              | none => rw [hzv] at c3; simp at c3
              | some zv =>
                rw [hzv] at c3
                simp at c3
                have hov : ofValue zv = some z := by
                  unfold zeroT at hz
                  rw [hi] at hz
                  simpa [hzv] using hz
                obtain ⟨g1, g2⟩ := cellsOf_rep (w := w) (Im := Im) (β := β) (ofValue_rep hov).1
                have hroom : m * ie.bytes ≤ 2 ^ 45 := hc.2
                have hm : m ≤ 2 ^ 45 := by
                  have : m * 1 ≤ m * ie.bytes := Nat.mul_le_mul_left m c2
                  omega
                have hrun := run_make (P := P) w t e ie zv hu hi hzv kl kc (n : Int) (m : Int) (by omega) (by have := hc.1; omega) (by
                  have : ((ie.bytes : Int)) * (m : Int) = ((m * ie.bytes : Nat) : Int) := by rw [Int.natCast_mul, Int.mul_comm]
                  rw [this]; omega) (by omega)
                simp only [Int.toNat_natCast] at hrun
                refine ⟨e, _, hrun, ⟨?_, fun j p v hp hv => ?_⟩, fun p hp => ⟨fun k => (ofValue_cells hov k p (repCells_mem hp)).1, (ofValue_cells hov 0 p (repCells_mem hp)).2⟩, hc.1⟩
                · rw [repCells_len, size_madeCells, g1, c3]
                · have hj : j < m * (cellsOf z).length := by rw [← repCells_len]; exact (List.getElem?_eq_some_iff.1 hp).1
                  rw [repCells_get _ _ _ hj] at hp
                  have hsz : 0 < zv.cells.size := by omega
                  have hjs : j < m * ie.size := by rw [← c3, ← g1]; exact hj
                  have hv' : zv.cells[j % zv.cells.size]? = some v := by
                    unfold madeCells at hv
                    rw [Array.getElem?_map, Array.getElem?_range, if_pos hjs] at hv
                    simp only [Option.map_some, Option.some.injEq] at hv
                    rw [← hv, getElem!_pos zv.cells (j % zv.cells.size) (Nat.mod_lt _ hsz)]
                    exact Array.getElem?_eq_getElem _
                  rw [g1] at hp
                  exact g2 _ p v hp hv'
            · cases hk
        · cases h
    · cases h
theorem makeD_eq {P : Program} {t : TypeId} {n m : Nat} {r : PV} (h : evMakeD P t n m = some r) :
    ∃ q z, evMake P t n m = some q ∧ q.2 = repCells m z ∧ ∃ r0, toDL z = some r0 ∧ r0.length = q.1 ∧ r = .d (.slice (List.replicate n r0)) := by
  unfold evMakeD at h
  unfold evMake
  cases hk : appT P t with
  | none => simp [hk] at h
  | some k =>
    simp only [hk, Option.bind_some] at h ⊢
    split at h
    · rename_i e hu
      cases hz : zeroT P e with
      | none => simp [hz] at h
      | some z =>
        cases hd : toDL (cellsOf z) with
        | none => simp [hz, hd] at h
        | some r0 =>
          simp only [hz, hd, Option.bind_some] at h ⊢
          split at h
          · rename_i hc
            cases h
            exact ⟨_, _, by rw [if_pos ⟨hc.1, hc.2.1⟩], rfl, r0, hd, hc.2.2, rfl⟩
          · cases h
    · cases h
theorem makeD_rep {w : World} {Im : ImT} {β : List Nat} {e : TypeId} {cs : Array Value} {n m sz : Nat} {z cells : List PV} {r0 : List DV} (hin : ImIn w Im) (hlen : n ≤ m) (hz : cells = repCells m z) (hr : toDL z = some r0) (hrl : r0.length = sz) (hc : RepCells w Im β cells cs) :
    ∃ Im' : ImT, (∀ b o, Im b o → Im' b o) ∧ (∀ b o, Im' b o → Im b o ∨ (w.heap.size ≤ b ∧ ∃ u, (w.alloc (.cells cs e)).cell? ⟨b, o, none⟩ = some u)) ∧ RepD (w.alloc (.cells cs e)) Im' (.slice (List.replicate n r0)) (.slice (some ⟨w.heap.size, 0, none⟩) n m) := by
  obtain ⟨d1, d2⟩ := toDL_get hr
  have hcs : cs.size = m * sz := by rw [← hc.1, hz, repCells_len, d1, hrl]
  have hmul : n * sz ≤ m * sz := Nat.mul_le_mul_right _ hlen
  have hcl : ∀ j, (w.alloc (.cells cs e)).cell? ⟨w.heap.size, j, none⟩ = cs.toList[j]? := fun j => by
    rw [World.cell?_alloc_new]
    simp
  refine ⟨fun b o => Im b o ∨ (b = w.heap.size ∧ o < n * sz), fun _ _ h => .inl h, ?_, ?_⟩
  · rintro b o (h | ⟨rfl, h⟩)
    · exact .inl h
    · refine .inr ⟨Nat.le_refl _, cs[o]'(by omega), ?_⟩
      rw [hcl]
      simp [show o < cs.size by omega]
  · have hk : Keep w Im (w.alloc (.cells cs e)) (fun b o => Im b o ∨ (b = w.heap.size ∧ o < n * sz)) := fun b o hb => ⟨.inl hb, ((NewW.alloc w (.cells cs e)).keep hin b o hb).2⟩
    have key : RepD (w.alloc (.cells cs e)) (fun b o => Im b o ∨ (b = w.heap.size ∧ o < n * sz)) (.slice (List.replicate n r0)) (.slice (some ⟨w.heap.size, 0, none⟩) (List.replicate n r0).length m) := by
      refine .slice _ ⟨w.heap.size, 0, none⟩ m sz (fun j => cs.toList.getD j default) (fun r hr => ?_) (by simpa using hlen) (fun _ => rfl) ?_ ?_ ?_
      · rw [List.eq_of_mem_replicate hr]; exact hrl
      · intro j hj
        rw [List.length_replicate] at hj
        simp only [Nat.zero_add]
        rw [hcl, List.getD_eq_getElem?_getD, List.getElem?_eq_getElem (by simp; omega)]
        rfl
      · intro j hj
        rw [List.length_replicate] at hj
        exact .inr ⟨rfl, by simpa using hj⟩
      · intro i j r x hi hj
        rw [List.getElem?_replicate] at hi
        split at hi
        · rename_i hin'
          cases hi
          have hjs : j < sz := by rw [← hrl]; exact (List.getElem?_eq_some_iff.1 hj).1
          obtain ⟨p, hp, hpx⟩ := d2 j x hj
          have hpos : i * sz + j < m * sz := by
            have := Nat.mul_le_mul_right sz (show i + 1 ≤ m by omega)
            rw [Nat.add_mul, Nat.one_mul] at this
            omega
          have hcp : cells[i * sz + j]? = some p := by
            rw [hz, repCells_get _ _ _ (by rw [d1, hrl]; exact hpos), d1, hrl]
            rw [show (i * sz + j) % sz = j by rw [Nat.add_comm, Nat.add_mul_mod_self_right]; exact Nat.mod_eq_of_lt hjs]
            exact hp
          have hcv : cs[i * sz + j]? = some (cs[i * sz + j]'(by omega)) := Array.getElem?_eq_getElem (by omega)
          have := toD_rep (hc.2 _ p _ hcp hcv) hpx
          have hg : cs.toList.getD (i * sz + j) default = cs[i * sz + j]'(by omega) := by
            rw [List.getD_eq_getElem?_getD, Array.getElem?_toList, hcv]; rfl
          rw [hg]
          exact this.keep hk
        · cases hi
    rwa [List.length_replicate] at key
theorem core_ok (hF : FnOk E.P F) (hov : OvOk E) (hI : Inv w Im O β st a) {o : Oper} {aps : List Nat} {g : Gives}
    (h : evCore E F aps o.dst o.op (rd st.slots) st.store = some g) : OpOk E.P w Im O β a o { slots := putS (untake st.slots g.2.1) o.dst g.1, store := g.2.2 } := by
  have pure : (evPure E.P (rd st.slots) o.op).map (fun r => (r, (none : Option Nat), st.store)) = some g → OpOk E.P w Im O β a o { slots := putS (untake st.slots g.2.1) o.dst g.1, store := g.2.2 } := by
    intro h
    cases hr : evPure E.P (rd st.slots) o.op with
    | none => simp [hr] at h
    | some r => simp [hr] at h; subst h; exact pure_step hI hr
  cases hop : o.op with
  | move x =>
    rw [hop] at h
    exact moveIt_ok hI (by simp [execOp, hop]) h
  | assign x =>
    rw [hop] at h
    exact moveIt_ok hI (by simp [execOp, hop]) h
  | alloc t =>
    rw [hop] at h
    simp only [evCore] at h
    cases hz : zeroT E.P t with
    | none => simp [hz] at h
    | some z =>
      simp [hz] at h
      subst h
      obtain ⟨zv, h1, h2⟩ := zeroT_run hz w
      exact newBox_ok (v := zv) (t := t) hI (by simp [execOp, hop, Instr.alloc, h1, newVar, newRow]) (cellsOf_rep (ofValue_rep h2).1) (fun p hp => (ofValue_cells h2 0 p hp).2)
  | makeSlice t l c =>
    rw [hop] at h
    simp only [evCore] at h
    cases hl : use (rd st.slots) l with
    | none => simp [hl] at h
    | some lv =>
      cases hcv : use (rd st.slots) c with
      | none => simp [hl, hcv] at h
      | some cv =>
        simp only [hl, hcv, Option.bind_some] at h
        cases hn : natOf lv with
        | none => simp [hn] at h
        | some n =>
          cases hm : natOf cv with
          | none => simp [hn, hm] at h
          | some m =>
            simp only [hn, hm, Option.bind_some] at h
            split at h
            · cases hr : evMakeD E.P t n m with
              | none => simp [hr] at h
              | some r =>
                simp [hr] at h
                subst h
                obtain ⟨kl, h1⟩ := natOf_rep (use_rep hI.reps hl) hn
                obtain ⟨kc, h2⟩ := natOf_rep (use_rep hI.reps hcv) hm
                obtain ⟨q, z, hz1, hz2, r0, hr0, hrl, hrr⟩ := makeD_eq hr
                obtain ⟨e, cs, hrun, hcells, hno, hlen⟩ := make_ok (w := w) (Im := Im) (β := β) kl kc hz1
                subst hrr
                obtain ⟨Im', q1, q2, q3⟩ := makeD_rep (w := w) (e := e) (cs := cs) (β := β) hI.good.im hlen hz2 hr0 hrl hcells
                obtain ⟨g1, g2, g3⟩ := hI.good.newW (NewW.alloc w (.cells cs e)) q1 q2
                exact .value (v := .slice (some ⟨w.heap.size, 0, none⟩) n m) (by simp [execOp, hop, h1, h2, hrun]) g2 (.refl β) ⟨g1, (g3 _ _ hI.slots).put (.d q3) (fun d _ => .of_not (by simp))⟩
            cases hr : evMake E.P t n m with
            | none => simp [hr] at h
            | some r =>
              simp [hr] at h
              subst h
              obtain ⟨kl, h1⟩ := natOf_rep (use_rep hI.reps hl) hn
              obtain ⟨kc, h2⟩ := natOf_rep (use_rep hI.reps hcv) hm
              obtain ⟨e, cs, hrun, hcells, hno, hlen⟩ := make_ok (w := w) (Im := Im) (β := β) kl kc hr
              refine newBox_gen (cs0 := cs) (t := e) (u := .slice (some ⟨w.heap.size, 0, none⟩) n m) hI (by simp [execOp, hop, h1, h2, hrun]) (.ms _ 0 n _ w.heap.size m _ (by rw [← hI.good.len, List.getElem?_concat_length]) hlen (fun _ => rfl)) (by simp) hcells (fun p hp => (hno p hp).2)
  | box t x =>
    rw [hop] at h
    simp only [evCore] at h
    cases hx : opv (rd st.slots) x with
    | none => simp [hx] at h
    | some p =>
      simp only [hx, Option.map_some, Option.some.injEq] at h
      subst h
      have hp := opv_rep hI.reps hx
      obtain ⟨c1, c2⟩ := cellsOf_rep hp
      refine newBox_ok (v := a.eval x) (t := t) hI (by simp [execOp, hop, Instr.box, newVar, newRow]) ?_ ?_
      · cases p with
        | agg cs =>
          refine ⟨by simpa [boxCells, cellsOf] using c1, fun j q u hq hu => ?_⟩
          simp only [boxCells] at hq
          rw [List.getElem?_map] at hq
          cases hc : cs[j]? with
          | none => rw [hc] at hq; cases hq
          | some q' =>
            rw [hc] at hq
            simp at hq
            subst hq
            exact (c2 j q' u hc hu).keep0
        | _ =>
          refine ⟨by simpa [boxCells, cellsOf] using c1, fun j q u hq hu => ?_⟩
          simp only [boxCells] at hq
          cases j with
          | succ j => simp at hq
          | zero => simp at hq; subst hq; exact (c2 0 _ u rfl hu).keep0
      · intro q hq rows hr
        cases p with
        | agg cs =>
          obtain ⟨q', _, rfl⟩ := List.mem_map.1 (show q ∈ cs.map PV.keep0 from hq)
          cases q' <;> simp [PV.keep0] at hr
        | _ => simp [boxCells] at hq; subst hq; simp [PV.keep0] at hr
  | load t x =>
    rw [hop] at h
    simp only [evCore] at h
    cases hx : use (rd st.slots) x with
    | none => simp [hx] at h
    | some p =>
      simp only [hx, Option.bind_some] at h
      cases hr : loadAs E.P t st.store (takes aps o.dst) p with
      | none => rw [hr] at h; cases h
      | some r =>
        rw [hr] at h
        cases h
        refine load_step hI hop hx (fun ht => ?_) hr
        cases hd : o.dst with
        | none => rw [hd] at ht; simp [takes] at ht
        | some d => exact ⟨d, rfl⟩
  | store t x v =>
    rw [hop] at h
    simp only [evCore] at h
    cases hx : use (rd st.slots) x with
    | none => simp [hx] at h
    | some p =>
      cases hv : opv (rd st.slots) v with
      | none => simp [hx, hv] at h
      | some u =>
        simp only [hx, hv, Option.bind_some] at h
        cases hs : storeAs E.P E.loose t st.store p u with
        | none => simp [hs] at h
        | some σ' =>
          simp [hs] at h
          subst h
          exact store_step hI hop hx hv hs
  | call c =>
    rw [hop] at h
    simp only [evCore] at h
    split at h
    · exact evMkApp_ok hI hop h
    · exact call_ok hF hov hI hop h
  | _ =>
    apply pure
    rw [hop] at h ⊢
    exact h
theorem want_ok (hI : Inv w Im O β st a) {ops : Array Oper} {o : Oper} {b : Bool} (h : evWant ops o (rd st.slots) = some b) : Region.wanted o (yielded ops a.tmps) = b := by
  unfold evWant at h
  unfold Region.wanted
  split at h
  · rename_i hg
    cases h
    simp [hg]
  · rename_i j want hg
    simp only [hg]
    unfold yielded
    split at h
    · rename_i hj
      cases h
      simp [hj]
    · rename_i s hj
      simp only [hj, Option.bind_some]
      have hr := (hI.slots.get s).1
      rw [Array.getD_eq_getD_getElem?] at hr
      split at h
      · rename_i x hx
        cases h
        rw [hx] at hr
        have hb := hr.bool_inv
        cases ht : a.tmps[s]? with
        | none => rw [ht] at hb; cases hb
        | some u =>
          rw [ht] at hb
          simp at hb
          subst hb
          simp
      · rename_i hx
        cases h
        rw [hx] at hr
        cases ht : a.tmps[s]? with
        | none => simp
        | some u =>
          rw [ht] at hr
          simp only [Option.getD_some] at hr
          cases hr
          simp [undef]
      · cases h
theorem evOp_ok (hF : FnOk E.P F) (hov : OvOk E) (hI : Inv w Im O β st a) {ops : Array Oper} {i : Nat} {o : Oper} {st' : St} (ho : ops[i]? = some o) (h : evOp E F ops o st = some st')
    {K : Act → World → Prop} {Q : Exit → Act → World → Prop}
    (hK : ∀ w' Im' O' β' a', Fr w Im O w' Im' O' → Ext β β' → Inv w' Im' O' β' st' a' → a'.defers = a.defers → K a' w') : wpOp E.P ops Q i K a w := by
  unfold wpOp
  simp only [ho]
  unfold evOp at h
  cases hw : evWant ops o (rd st.slots) with
  | none => simp [hw] at h
  | some b =>
    simp only [hw, Option.bind_some] at h
    rw [want_ok hI hw]
    cases b with
    | true =>
      simp only [if_true] at h ⊢
      cases hc : evCore E F (appendFirst ops.toList) o.dst o.op (rd st.slots) st.store with
      | none => simp [hc] at h
      | some g =>
        simp [hc] at h
        subst h
        exact .inl (core_ok hF hov hI hc K Q hK)
    | false =>
      simp at h ⊢
      subst h
      exact hK w Im O β _ (.refl _ _ _) (.refl β) ⟨hI.good, hI.slots.put .undef (fun d _ => .of_not (by simp))⟩ (put_defers a o.dst undef)
noncomputable def evIdx (E : Env) (F : FnEv) (ops : Array Oper) : List Nat → St → Option St
  | [], st => some st
  | i :: l, st => match ops[i]? with
    | none => evIdx E F ops l st
    | some o => (evOp E F ops o st).bind (evIdx E F ops l)
theorem evOps_idx (ops : Array Oper) : ∀ (l : List Oper) (k : Nat) (st : St), ops.toList.drop k = l → evOps E F ops l st = evIdx E F ops (List.range' k l.length) st
  | [], k, st, _ => rfl
  | o :: l, k, st, h => by
    obtain ⟨h1, h2⟩ := drop_cons h
    rw [List.length_cons, List.range'_succ]
    have ho : ops[k]? = some o := by simpa using h1
    simp only [evOps, evIdx, ho]
    congr 1
    funext st'
    exact evOps_idx ops l (k + 1) st' h2
theorem evOps_range (ops : Array Oper) (st : St) : evOps E F ops ops.toList st = evIdx E F ops (List.range ops.size) st := by
  rw [evOps_idx ops ops.toList 0 st (by simp), List.range_eq_range']
  simp
theorem evIdx_ok (hF : FnOk E.P F) (hov : OvOk E) {ops : Array Oper} {Q : Exit → Act → World → Prop} : ∀ (l : List Nat) {w : World} {Im : ImT} {O : OwT} {β : List Nat} {st st' : St} {a : Act}, Inv w Im O β st a → evIdx E F ops l st = some st' →
    (∀ w' Im' O' β' a', Fr w Im O w' Im' O' → Ext β β' → Inv w' Im' O' β' st' a' → a'.defers = a.defers → Q .normal a' w') → wpOps E.P ops Q l a w
  | [], w, Im, O, β, st, st', a, hI, h, hQ => by
    simp [evIdx] at h
    subst h
    exact hQ w Im O β a (.refl _ _ _) (.refl β) hI rfl
  | i :: l, w, Im, O, β, st, st', a, hI, h, hQ => by
    rw [wpOps_cons]
    cases ho : ops[i]? with
    | none =>
      unfold wpOp
      simp only [ho]
      exact evIdx_ok hF hov l hI (by simpa [evIdx, ho] using h) hQ
    | some o =>
      simp only [evIdx, ho] at h
      cases hs : evOp E F ops o st with
      | none => simp [hs] at h
      | some s1 =>
        simp only [hs, Option.bind_some] at h
        refine evOp_ok hF hov hI ho hs (fun w' Im' O' β' a' h1 h2 h3 h4 => evIdx_ok hF hov l h3 h (fun w'' Im'' O'' β'' a'' k1 k2 k3 k4 => hQ w'' Im'' O'' β'' a'' (h1.trans k1) (h2.trans k2) k3 (k4.trans h4)))
end step
end Go.Pv

