/- net.Slot's closure: a frame that the gateway's own node has got is taken from it; net.Slot's loop: what the gateway's own node has got goes into the gateway; A slot, of the code and of the reference; what is the same as itself; A slot of a net, by the code; A slot of a net, by the code: the gateway relays a frame; Who wins on a line, and who sends along: plain; What a slot leaves is right where what went in was; many slots in plain Lean; A slot of a net, by the code: both cases joined; A net that is as it should be stays so: in plain Lean; The bytes of the frames that wait in a gateway: plain; What a slot leaves to each node: what it got, what waits, its filters; what it told; A net that is as it should be stays so behind a slot, a frame that is sent, a calm: plain; A net calmed, by the code; The law of nets: rows of fresh nodes; Slots in which one node alone has a frame, or none has: plain; Nets whose answers are fixed: plain; The law of nets: its head, calls whose answers are fixed; Many slots of the code; The bus's arguments read; The nets' arguments read, but acts; The law of nets: its question whether there is too much; The nets' arguments read: acts. -/
import Derived.Test.YtnnindnmpfmaaaaGreatNt10
import Derived.Test.YtnnindnmpfmaaaaGreatNt09
import Derived.Test.YtnnindnmpfmaaaaGreatNt08
set_option linter.unusedVariables false
set_option linter.unusedSimpArgs false
set_option maxRecDepth 100000
set_option maxHeartbeats 8000000
namespace Go.Proofs
open Go.RowKit Go.Shelf Go.Pv
def Nt.C (bs : List (List Nd)) (g : Gt) : List PV := [.d (.slice (bs.map ndsD)), .d (.slice (g.rs.map Rt.D)), .d (.int .i64 g.cap), .d (.slice (g.out.map frsD)), .d (.slice (g.lost.map intD))]
def SlS (bs : List (List Nd)) (g : Gt) (k : Int) (b2 b3 b4 : List PV) (row : List Nd) (a : Nat) (J : Store) : Store :=
 Nt.C bs g :: [.d (.int .i64 k)] :: b2 :: b3 :: b4 :: [.d (.slice (row.map Nd.D))] :: [.d (.int .i64 a)] :: J
theorem c_take0 (bs : List (List Nd)) (g : Gt) (k : Int) (b2 b3 b4 : List PV) (row : List Nd) (a : Nat) (J : Store) (ha : a < row.length) (hl : row.length ≤ 1000) (hg : row[a].g = []) :
  callIt E1 (evI E1) 102 [.ptr 5 0, .ptr 6 0, .ptr 0 0, .ptr 1 0] (SlS bs g k b2 b3 b4 row a J) = some (.d (.bool false), SlS bs g k b2 b3 b4 row a J) := by
 have c1 := fun σ => b_Take row[a] (by rw [hg]; simp) σ
 have ht : row[a].Take = (row[a], fr0, false) := by unfold Nd.Take; rw [hg]
 rw [ht] at c1
 have hx : (row.map Nd.D)[a]? = some (Nd.D row[a]) := by simp [ha]
 have haI : (a : Int) < (row.length : Int) := by omega
 have hmr : (row.map Nd.D).length = row.length := by simp
 unfold SlS Nt.C
 refine call_np (σ' := (Nt.C bs g :: [.d (.int .i64 k)] :: b2 :: b3 :: b4 :: [.d (.slice (row.map Nd.D))] :: [.d (.int .i64 a)] :: J) ++ [cellsOf row[a].P, cellsOf fr0.P]) rfl rfl rfl ?_ rfl rfl (by simp [Nt.C])
 unfold Nt.C
 generalize row[a] = x at c1 hx ⊢
 obtain ⟨q, fs, ⟨t, r, s, z⟩, gg⟩ := x
 generalize row.map Nd.D = R at hx hmr ⊢
 obtain ⟨hi1, hx⟩ := List.getElem?_eq_some_iff.1 hx
 simp only [Nd.D] at hx
 simp [fr0] at c1
 refine evI_run (fn := Tryz.f102) 5 rfl Tryz.func102 rfl ?_
 simp [Tryz.f102, -loadS, -storeS, loadS_cons0, loadS_consS, storeS_cons0, storeS_consS, sfx_load0, sfx_load, sfx_store0, sfx_store, cellsOf, fr0, hi1, ha, hmr, hx, c1]
 done
theorem c_take1 (bs : List (List Nd)) (g : Gt) (hok : g.ok) (k : Int) (b2 b3 b4 : List PV) (row : List Nd) (a : Nat) (J : Store) (ha : a < row.length) (hl : row.length ≤ 1000) {f : Fr} {gs : List Fr} (hg : row[a].g = f :: gs) (hgl : row[a].g.length ≤ 1000) :
  callIt E1 (evI E1) 102 [.ptr 5 0, .ptr 6 0, .ptr 0 0, .ptr 1 0] (SlS bs g k b2 b3 b4 row a J) = some (.d (.bool true), SlS bs (g.In k f) k b2 b3 b4 (row.set a { row[a] with g := gs }) a J) := by
 have c1 := fun σ => b_Take row[a] (by omega) σ
 have ht : row[a].Take = ({ row[a] with g := gs }, f, true) := by unfold Nd.Take; rw [hg]
 rw [ht] at c1
 have hx : (row.map Nd.D)[a]? = some (Nd.D row[a]) := by simp [ha]
 have haI : (a : Int) < (row.length : Int) := by omega
 have hmr : (row.map Nd.D).length = row.length := by simp
 have c2 := fun x σ => b_withN row a ha (by omega) x σ
 have c3 := fun σ => b_gIn g hok k f σ
 have c2' := c2 { row[a] with g := gs }
 refine call_im (σ' := SlS bs (g.In k f) k b2 b3 b4 (row.set a { row[a] with g := gs }) a (J ++ [cellsOf ({ row[a] with g := gs } : Nd).P, cellsOf f.P])) rfl rfl rfl ?_ rfl rfl (by simp [SlS])
 unfold SlS Nt.C
 generalize (row.set a { row[a] with g := gs }).map Nd.D = R2 at c2' ⊢
 generalize row[a] = x at c1 hx c2' ⊢
 obtain ⟨q, fs, ⟨t, r, s, z⟩, gg⟩ := x
 generalize row.map Nd.D = R at hx hmr c2' ⊢
 generalize g.In k f = g' at c3 ⊢
 obtain ⟨hi1, hx⟩ := List.getElem?_eq_some_iff.1 hx
 simp only [Nd.D] at hx
 clear c2
 simp at c1 c2' c3
 refine evI_run (fn := Tryz.f102) 5 rfl Tryz.func102 rfl ?_
 simp [Tryz.f102, -loadS, -storeS, loadS_cons0, loadS_consS, storeS_cons0, storeS_consS, sfx_load0, sfx_load, sfx_store0, sfx_store, cellsOf, hi1, ha, hmr, hx, c1, c2', c3]
 done
end Go.Proofs

set_option maxRecDepth 100000
set_option maxHeartbeats 8000000
namespace Go.Proofs
open Go.RowKit Go.Shelf Go.Pv
theorem Gt.In_ok {g : Gt} (hg : g.ok) (k : Int) (f : Fr) : (g.In k f).ok ∧ (g.In k f).out.length = g.out.length ∧ (g.In k f).rs = g.rs ∧ (g.In k f).cap = g.cap :=
 puts_ok _ hg (hops_b hg k f)
def Gt.Ins (g : Gt) (k : Int) (fs : List Fr) : Gt := fs.foldl (fun g f => g.In k f) g
theorem Gt.Ins_ok (k : Int) : ∀ (fs : List Fr) (g : Gt), g.ok → (g.Ins k fs).ok ∧ (g.Ins k fs).out.length = g.out.length ∧ (g.Ins k fs).rs = g.rs ∧ (g.Ins k fs).cap = g.cap
 | [], g, h => ⟨h, rfl, rfl, rfl⟩
 | f :: fs, g, h => by
  obtain ⟨h1, h2, h3, h4⟩ := Gt.In_ok h k f
  obtain ⟨i1, i2, i3, i4⟩ := Gt.Ins_ok k fs (g.In k f) h1
  exact ⟨i1, i2.trans h2, i3.trans h3, i4.trans h4⟩
theorem l_slot (m : Nat) (bs : List (List Nd)) (g : Gt) (hok : g.ok) (kk : Int) (b2 b3 b4 : List PV) (row : List Nd) (a : Nat) (J : Store) (ha : a < row.length) (hl : row.length ≤ 1000) (hgl : row[a].g.length ≤ 1000) (S : List PV) (hS : S.length = 101)
  (h3 : rd S 3 = .ptr 0 0) (h4 : rd S 4 = .ptr 1 0) (h6 : rd S 6 = .ptr 3 0) (h7 : rd S 7 = .ptr 4 0) (h8 : rd S 8 = .ptr 5 0) (v13 : PV) (h13 : rd S 13 = v13) (h14 : rd S 14 = .func (.func 102) [] [.ptr 5 0, .ptr 6 0, .ptr 0 0, .ptr 1 0]) (k : Nat) (hk : row[a].g.length < k) :
  Lp (loopN (evCode E1 (evI E1) m (theLoop Tryz.f39 0)) k ⟨S, SlS bs g kk b2 b3 b4 row a J⟩) fun r => ∃ (S' : List PV), r = (.exit 0, ⟨S', SlS bs (g.Ins kk row[a].g) kk b2 b3 b4 (row.set a { row[a] with g := [] }) a J⟩) ∧ S'.length = 101 ∧ rd S' 3 = .ptr 0 0 ∧ rd S' 4 = .ptr 1 0 ∧ rd S' 6 = .ptr 3 0 ∧ rd S' 7 = .ptr 4 0 ∧ rd S' 8 = .ptr 5 0 ∧ rd S' 13 = v13 := by
 have hset0 : row.set a { row[a] with g := row[a].g.drop 0 } = row := List.set_getElem_self ha
 refine loop_inv (fun i st => ∃ (S : List PV), st = ⟨S, SlS bs (g.Ins kk (row[a].g.take i)) kk b2 b3 b4 (row.set a { row[a] with g := row[a].g.drop i }) a J⟩ ∧ S.length = 101 ∧ rd S 3 = .ptr 0 0 ∧ rd S 4 = .ptr 1 0 ∧ rd S 6 = .ptr 3 0 ∧ rd S 7 = .ptr 4 0 ∧ rd S 8 = .ptr 5 0 ∧ rd S 13 = v13 ∧ rd S 14 = .func (.func 102) [] [.ptr 5 0, .ptr 6 0, .ptr 0 0, .ptr 1 0]) _ row[a].g.length ?_ ?_ k 0 _ (by omega) (by omega) ⟨S, by rw [hset0]; rfl, hS, h3, h4, h6, h7, h8, h13, h14⟩
 ·rintro i st hi ⟨S, rfl, hS, h3, h4, h6, h7, h8, h13, h14⟩
  have hd : row[a].g.drop i = row[a].g[i] :: row[a].g.drop (i + 1) := List.drop_eq_getElem_cons hi
  have hrs : (row.set a { row[a] with g := row[a].g.drop i })[a]'(by simpa using ha) = { row[a] with g := row[a].g.drop i } := by simp
  have c1 := c_take1 bs (g.Ins kk (row[a].g.take i)) (Gt.Ins_ok kk _ _ hok).1 kk b2 b3 b4 (row.set a { row[a] with g := row[a].g.drop i }) a J (by simpa using ha) (by simpa using hl) (f := row[a].g[i]) (gs := row[a].g.drop (i + 1)) (by rw [hrs]; exact hd) (by rw [hrs]; simp; omega)
  rw [hrs] at c1
  have hins : (g.Ins kk (row[a].g.take i)).In kk row[a].g[i] = g.Ins kk (row[a].g.take (i + 1)) := by
   rw [List.take_add_one, List.getElem?_eq_getElem hi]
   unfold Gt.Ins
   rw [List.foldl_append]
   rfl
  rw [hins, List.set_set] at c1
  simp only at c1
  generalize SlS bs (g.Ins kk (row[a].g.take i)) kk b2 b3 b4 (row.set a { row[a] with g := row[a].g.drop i }) a J = T0 at c1 ⊢
  generalize hT : SlS bs (g.Ins kk (row[a].g.take (i + 1))) kk b2 b3 b4 (row.set a { row[a] with g := row[a].g.drop (i + 1) }) a J = T1 at c1 ⊢
  simp [theLoop, Tryz.f39, loopsAll, Lp_some, and_assoc, -rd, rd_ne, rd_eq, hS, h3, h4, h6, h7, h8, h13, h14, c1]
  done
 ·rintro st ⟨S, rfl, hS, h3, h4, h6, h7, h8, h13, h14⟩
  have hrs : (row.set a { row[a] with g := row[a].g.drop row[a].g.length })[a]'(by simpa using ha) = { row[a] with g := row[a].g.drop row[a].g.length } := by simp
  have c1 := c_take0 bs (g.Ins kk (row[a].g.take row[a].g.length)) kk b2 b3 b4 (row.set a { row[a] with g := row[a].g.drop row[a].g.length }) a J (by simpa using ha) (by simpa using hl) (by rw [hrs]; simp)
  simp only [List.take_length, List.drop_length] at c1 ⊢
  generalize SlS bs (g.Ins kk row[a].g) kk b2 b3 b4 (row.set a { row[a] with g := [] }) a J = T0 at c1 ⊢
  simp [theLoop, Tryz.f39, loopsAll, Lp_some, and_assoc, -rd, rd_ne, rd_eq, hS, h3, h4, h6, h7, h8, h13, h14, c1]
end Go.Proofs

set_option maxRecDepth 100000
set_option maxHeartbeats 8000000
namespace Go.Proofs
open Go.RowKit Go.Shelf Go.Pv
theorem b_Slot (l : List Nd) (hg : ∀ n ∈ l, n.good) (hb : bytesOk l) (hl : l.length ≤ 1000) (who : List Int) (hwl : who.length ≤ 1000000) (σ : Store) : callIt E1 (evI E1) 24 [.d (.slice (l.map Nd.D)), .agg [.d (.slice (who.map intD))]] σ = some (.tup [.d (.slice ((slotL l who).1.map Nd.D)), (slotL l who).2.P], σ) := by
 by_cases hs : sndL l = []
 ·exact b_slot0 l hg hl who hs σ
 ·exact b_slot1 l hg hb hl who hwl hs σ
theorem l_sameNs (m : Nat) (l : List Nd) (hg : ∀ n ∈ l, n.good) (hl : l.length ≤ 1000000) (S : List PV) (hS : S.length = 27) (h0 : rd S 0 = .d (.slice (l.map Nd.D))) (h1 : rd S 1 = .d (.slice (l.map Nd.D))) (h5 : rd S 5 = .d (.int .i64 0)) (k : Nat) (hk : l.length < k) :
  Lp (loopN (evCode E1 (evI E1) m (theLoop Tryz.f22 0)) k ⟨S, []⟩) fun r => ∃ S' : List PV, r = (.exit 0, ⟨S', []⟩) ∧ S'.length = 27 := by
 refine loop_inv (fun i st => ∃ S : List PV, st = ⟨S, []⟩ ∧ S.length = 27 ∧ rd S 0 = .d (.slice (l.map Nd.D)) ∧ rd S 1 = .d (.slice (l.map Nd.D)) ∧ rd S 5 = .d (.int .i64 i)) _ l.length ?_ ?_ k 0 _ (by omega) (by omega) ⟨S, rfl, hS, h0, h1, h5⟩
 ·rintro i st hi ⟨S, rfl, hS, h0, h1, h5⟩
  have hgi := hg l[i] (List.getElem_mem hi)
  generalize hx : l[i] = n at hgi
  have hn := fun σ => r_sameNd n (Nat.le_trans hgi.fs (by omega)) (Nat.le_trans hgi.q (by omega)) (Nat.le_trans hgi.g (by omega)) σ
  have hlt : (i : Int) < (l.length : Int) := by omega
  try simp at hn
  simp [theLoop, Tryz.f22, loopsAll, Lp_some, and_assoc, -rd, rd_set, hS, h0, h1, h5, hlt, hi, hx, hn, wrap_succ i (by omega)]
  done
 ·rintro st ⟨S, rfl, hS, h0, h1, h5⟩
  simp [theLoop, Tryz.f22, loopsAll, Lp_some, and_assoc, -rd, rd_set, hS, h0, h1, h5]
theorem r_sameNs (l : List Nd) (hg : ∀ n ∈ l, n.good) (hl : l.length ≤ 1000000) (σ : Store) : callIt E1 (evI E1) 22 [.d (.slice (l.map Nd.D)), .d (.slice (l.map Nd.D))] σ = some (.d (.bool true), σ) := by
 refine call_run (fn := Tryz.f22) (l.length + 1) rfl rfl rfl Tryz.func22 rfl rfl ?_ rfl
 simp [Tryz.f22, ec_loop]
 generalize hLL : loopN _ _ _ = L
 obtain ⟨r, rfl, S, rfl, hS⟩ := at_loop hLL (l_sameNs (l.length + 1) l hg hl _ rfl rfl rfl rfl (l.length + 1) (by omega))
 simp [-rd, rd_set, hS]
end Go.Proofs

set_option maxRecDepth 100000
set_option maxHeartbeats 8000000
namespace Go.Proofs
open Go.RowKit Go.Shelf Go.Pv
def relays (g : Gt) (k : Nat) (own : Nd) : Bool := (g.Next k).2 && ((own.q.length : Int) == 0) && (own.c.s != 3)
def ownOf (g : Gt) (k : Nat) (own : Nd) : Nd := if relays g k own then (own.Send (g.Next k).1).1 else own
def gateOf (g : Gt) (k : Nat) (own : Nd) : Gt := if relays g k own then g.Done k else g
def heardOf (g : Gt) (k : Nat) (own x : Nd) : Gt := if decide (0 < own.q.length) && ((x.q.length : Int) == 0) then g.In k (own.q.headD fr0) else g
theorem b_netSlotNo (bs : List (List Nd)) (g : Gt) (hok : g.ok) (k : Nat) (hk : k < bs.length) (hbs : bs.length ≤ 1000) (row : List Nd) (hrow : bs[k] = row) (a : Nat) (ha : row.length = a + 1) (hl : row.length ≤ 1000) (own : Nd) (hown : row[a]'(by omega) = own) (hq : own.q = [] ∨ own.q ≠ [])
  (who : List Int) (R : List Nd) (t : Td) (hRl : R.length = a + 1) (x : Nd) (hx : R[a]'(by omega) = x) (hxg : x.g.length ≤ 1000) (hno : relays g k own = false)
  (hslot : ∀ σ, callIt E1 (evI E1) 24 [.d (.slice (row.map Nd.D)), .agg [.d (.slice (who.map intD))]] σ = some (.tup [.d (.slice (R.map Nd.D)), t.P], σ)) (σ : Store) :
  callIt E1 (evI E1) 39 [(Nt.mk bs g).P, .d (.int .i64 k), .agg [.d (.slice (who.map intD))]] σ = some (.tup [(Nt.mk (bs.set k (R.set a { x with g := [] })) ((heardOf g k own x).Ins k x.g)).P, t.P], σ) := by
 refine call_run (fn := Tryz.f39) 1001 rfl rfl rfl Tryz.func39 rfl rfl ?_ rfl
 have haR : a < R.length := by omega
 have c1 := fun σ => b_gNext g k σ
 have hI := Gt.In_ok hok k (own.q.headD fr0)
 have c2 := fun σ => b_gIn g hok k (own.q.headD fr0) σ
 have hloop := fun m g (hg : Gt.ok g) b2 b3 b4 J => l_slot m bs g hg k b2 b3 b4 R a J haR (by omega) (by rw [hx]; exact hxg)
 rw [hx] at hloop
 have c3 := fun σ => b_withR bs k hk (by omega) (R.set a { x with g := [] }) σ
 have hw1 : IntKind.i64.wrap ((row.length : Int) - 1) = (a : Int) := by rw [wrap_ok (by omega) (by omega)]; omega
 have hbk : (bs.map ndsD)[k]? = some (ndsD row) := by simp [hk, hrow]
 have hra : (row.map Nd.D)[a]? = some (Nd.D own) := by simp [ha, hown]
 have hRa : (R.map Nd.D)[a]? = some (Nd.D x) := by simp [haR, hx]
 have hml : (bs.map ndsD).length = bs.length := by simp
 have hmr : (row.map Nd.D).length = row.length := by simp
 have hmR : (R.map Nd.D).length = a + 1 := by simp [hRl]
 unfold relays at hno
 unfold heardOf
 have har : a < row.length := by omega
 unfold SlS Nt.C at hloop
 obtain ⟨q, fs, ⟨ct, cr, cs, cz⟩, gg⟩ := own
 obtain ⟨tw, tf, tb, tz⟩ := t
 generalize hnx : g.Next k = nx at c1 hno
 obtain ⟨nf, ni⟩ := nx
 simp only at c1 hno
 have hc4 := fun g' : Gt => c3
 generalize hB2 : (bs.set k (R.set a { x with g := [] })).map ndsD = B2 at c3
 simp only [Nt.P, hB2]
 generalize hR2 : (R.set a { x with g := [] }).map Nd.D = R2 at c3 hloop
 generalize hB : bs.map ndsD = B at hbk hml c3 hloop ⊢
 simp only [ndsD] at hbk
 generalize row.map Nd.D = RW at hbk hra hmr hslot
 generalize who.map intD = W at hslot ⊢
 simp only [Nd.D] at hra
 generalize R.map Nd.D = RR at hRa hmR hslot hloop
 obtain ⟨hk0, hbk⟩ := List.getElem?_eq_some_iff.1 hbk
 obtain ⟨ha0, hra⟩ := List.getElem?_eq_some_iff.1 hra
 obtain ⟨hR0, hRa⟩ := List.getElem?_eq_some_iff.1 hRa
 simp only [Nd.D] at hRa
 simp at hslot c3 c1
 have haR' : a < a + 1 := by omega
 have har' : a < row.length := har
 cases q with
 | nil =>
  simp only [List.length_nil, Nat.lt_irrefl, decide_false, Bool.false_and, Bool.false_eq_true, if_false]
  cases ni
  ·clear c2 hno
   simp [Tryz.f39, ec_loop, -loadS, -storeS, loadS_cons0, loadS_consS, storeS_cons0, storeS_consS, sfx_load0, sfx_load, sfx_store0, sfx_store, cellsOf, hml, hmr, hmR, hw1, hbk, hk0, hra, ha0, hRa, hR0, hk, haR, har, haR', har', c1, hslot]
   generalize hLL : loopN _ _ _ = LL
   obtain ⟨r, rfl, S, rfl, hS, h3', h4', h6', h7', h8', h13'⟩ := at_loop hLL (hloop _ g hok _ _ _ _ _ rfl rfl rfl rfl rfl rfl _ rfl rfl 1001 (by omega))
   simp at h13'
   change rd S 13 = _ at h13'
   simp [-rd, rd_ne, rd_eq, -loadS, -storeS, loadS_cons0, loadS_consS, storeS_cons0, storeS_consS, hS, h3', h4', h6', h7', h8', h13', hk, c3, rd_el h6' (by omega), rd_el h7' (by omega)]
   done
  ·have h3 : (cs != 3) = false := by simpa using hno
   clear c2 hno
   simp [Tryz.f39, ec_loop, -loadS, -storeS, loadS_cons0, loadS_consS, storeS_cons0, storeS_consS, sfx_load0, sfx_load, sfx_store0, sfx_store, cellsOf, hml, hmr, hmR, hw1, hbk, hk0, hra, ha0, hRa, hR0, hk, haR, har, haR', har', c1, hslot, h3]
   generalize hLL : loopN _ _ _ = LL
   obtain ⟨r, rfl, S, rfl, hS, h3', h4', h6', h7', h8', h13'⟩ := at_loop hLL (hloop _ g hok _ _ _ _ _ rfl rfl rfl rfl rfl rfl _ rfl rfl 1001 (by omega))
   simp at h13'
   change rd S 13 = _ at h13'
   simp [-rd, rd_ne, rd_eq, -loadS, -storeS, loadS_cons0, loadS_consS, storeS_cons0, storeS_consS, hS, h3', h4', h6', h7', h8', h13', hk, c3, rd_el h6' (by omega), rd_el h7' (by omega)]
   done
 | cons f qs =>
  have hqz : (((f :: qs).length : Int) == 0) = false := by simp; omega
  have hqz2 : (((qs.length : Int) + 1) == 0) = false := by simp; omega
  have hqp : decide (0 < (f :: qs).length) = true := by simp
  simp only [List.headD_cons] at c2 hI ⊢
  rw [hqp]
  cases hxq : ((x.q.length : Int) == 0)
  ·simp only [Bool.and_false, Bool.false_eq_true, if_false]
   cases ni
   ·clear c2 hno
    simp (maxSteps := 2000000) [Tryz.f39, ec_loop, -loadS, -storeS, loadS_cons0, loadS_consS, storeS_cons0, storeS_consS, sfx_load0, sfx_load, sfx_store0, sfx_store, cellsOf, hml, hmr, hmR, hw1, hbk, hk0, hra, ha0, hRa, hR0, hk, haR, har, haR', har', c1, hqz, hqz2, hslot, hxq]
    generalize hLL : loopN _ _ _ = LL
    obtain ⟨r, rfl, S, rfl, hS, h3', h4', h6', h7', h8', h13'⟩ := at_loop hLL (hloop _ g hok _ _ _ _ _ rfl rfl rfl rfl rfl rfl _ rfl rfl 1001 (by omega))
    simp at h13'
    change rd S 13 = _ at h13'
    simp [-rd, rd_ne, rd_eq, -loadS, -storeS, loadS_cons0, loadS_consS, storeS_cons0, storeS_consS, hS, h3', h4', h6', h7', h8', h13', hk, c3, rd_el h6' (by omega), rd_el h7' (by omega)]
    done
   ·clear c2 hno
    simp (maxSteps := 2000000) [Tryz.f39, ec_loop, -loadS, -storeS, loadS_cons0, loadS_consS, storeS_cons0, storeS_consS, sfx_load0, sfx_load, sfx_store0, sfx_store, cellsOf, hml, hmr, hmR, hw1, hbk, hk0, hra, ha0, hRa, hR0, hk, haR, har, haR', har', c1, hqz, hqz2, hslot, hxq]
    generalize hLL : loopN _ _ _ = LL
    obtain ⟨r, rfl, S, rfl, hS, h3', h4', h6', h7', h8', h13'⟩ := at_loop hLL (hloop _ g hok _ _ _ _ _ rfl rfl rfl rfl rfl rfl _ rfl rfl 1001 (by omega))
    simp at h13'
    change rd S 13 = _ at h13'
    simp [-rd, rd_ne, rd_eq, -loadS, -storeS, loadS_cons0, loadS_consS, storeS_cons0, storeS_consS, hS, h3', h4', h6', h7', h8', h13', hk, c3, rd_el h6' (by omega), rd_el h7' (by omega)]
    done
  ·simp only [Bool.and_true, if_true]
   simp at c2
   cases ni
   ·clear hno
    simp (maxSteps := 2000000) [Tryz.f39, ec_loop, -loadS, -storeS, loadS_cons0, loadS_consS, storeS_cons0, storeS_consS, sfx_load0, sfx_load, sfx_store0, sfx_store, cellsOf, hml, hmr, hmR, hw1, hbk, hk0, hra, ha0, hRa, hR0, hk, haR, har, haR', har', c1, hqz, hqz2, hslot, hxq, c2]
    generalize hLL : loopN _ _ _ = LL
    obtain ⟨r, rfl, S, rfl, hS, h3', h4', h6', h7', h8', h13'⟩ := at_loop hLL (hloop _ (g.In k f) hI.1 _ _ _ _ _ rfl rfl rfl rfl rfl rfl _ rfl rfl 1001 (by omega))
    simp at h13'
    change rd S 13 = _ at h13'
    simp [-rd, rd_ne, rd_eq, -loadS, -storeS, loadS_cons0, loadS_consS, storeS_cons0, storeS_consS, hS, h3', h4', h6', h7', h8', h13', hk, c3, rd_el h6' (by omega), rd_el h7' (by omega)]
    done
   ·clear hno
    simp (maxSteps := 2000000) [Tryz.f39, ec_loop, -loadS, -storeS, loadS_cons0, loadS_consS, storeS_cons0, storeS_consS, sfx_load0, sfx_load, sfx_store0, sfx_store, cellsOf, hml, hmr, hmR, hw1, hbk, hk0, hra, ha0, hRa, hR0, hk, haR, har, haR', har', c1, hqz, hqz2, hslot, hxq, c2]
    generalize hLL : loopN _ _ _ = LL
    obtain ⟨r, rfl, S, rfl, hS, h3', h4', h6', h7', h8', h13'⟩ := at_loop hLL (hloop _ (g.In k f) hI.1 _ _ _ _ _ rfl rfl rfl rfl rfl rfl _ rfl rfl 1001 (by omega))
    simp at h13'
    change rd S 13 = _ at h13'
    simp [-rd, rd_ne, rd_eq, -loadS, -storeS, loadS_cons0, loadS_consS, storeS_cons0, storeS_consS, hS, h3', h4', h6', h7', h8', h13', hk, c3, rd_el h6' (by omega), rd_el h7' (by omega)]
    done
end Go.Proofs

set_option maxRecDepth 100000
set_option maxHeartbeats 8000000
namespace Go.Proofs
open Go.RowKit Go.Shelf Go.Pv
theorem b_netSlotYes (bs : List (List Nd)) (g : Gt) (k : Nat) (hok : (g.Done k).ok) (hgo : g.out.length ≤ 1000) (hk : k < bs.length) (hbs : bs.length ≤ 1000) (row : List Nd) (hrow : bs[k] = row) (a : Nat) (ha : row.length = a + 1) (hl : row.length ≤ 1000) (own : Nd) (hown : row[a]'(by omega) = own)
  (hq : own.q = []) (hs : (own.c.s != 3) = true) (hn : (g.Next k).2 = true) (own1 : Nd) (hown1 : (own.Send (g.Next k).1).1 = own1)
  (who : List Int) (R : List Nd) (t : Td) (hRl : R.length = a + 1) (x : Nd) (hx : R[a]'(by omega) = x) (hxg : x.g.length ≤ 1000)
  (hslot : ∀ σ, callIt E1 (evI E1) 24 [.d (.slice ((row.set a own1).map Nd.D)), .agg [.d (.slice (who.map intD))]] σ = some (.tup [.d (.slice (R.map Nd.D)), t.P], σ)) (σ : Store) :
  callIt E1 (evI E1) 39 [(Nt.mk bs g).P, .d (.int .i64 k), .agg [.d (.slice (who.map intD))]] σ = some (.tup [(Nt.mk (bs.set k (R.set a { x with g := [] })) ((heardOf (g.Done k) k own1 x).Ins k x.g)).P, t.P], σ) := by
 refine call_run (fn := Tryz.f39) 1001 rfl rfl rfl Tryz.func39 rfl rfl ?_ rfl
 have haR : a < R.length := by omega
 have c1 := fun σ => b_gNext g k σ
 have hI := Gt.In_ok hok k (own1.q.headD fr0)
 have c2 := fun σ => b_gIn (g.Done k) hok k (own1.q.headD fr0) σ
 have c5 := fun σ => b_Send own (g.Next k).1 (by rw [hq]; simp) σ
 rw [hown1] at c5
 have c6 := fun σ => b_withN row a (by omega) (by omega) own1 σ
 have c7 := fun σ => b_gDone g k hgo σ
 have hloop := fun m g (hg : Gt.ok g) b2 b3 b4 J => l_slot m bs g hg k b2 b3 b4 R a J haR (by omega) (by rw [hx]; exact hxg)
 rw [hx] at hloop
 have c3 := fun σ => b_withR bs k hk (by omega) (R.set a { x with g := [] }) σ
 have hw1 : IntKind.i64.wrap ((row.length : Int) - 1) = (a : Int) := by rw [wrap_ok (by omega) (by omega)]; omega
 have hbk : (bs.map ndsD)[k]? = some (ndsD row) := by simp [hk, hrow]
 have hra : (row.map Nd.D)[a]? = some (Nd.D own) := by simp [ha, hown]
 have hRa : (R.map Nd.D)[a]? = some (Nd.D x) := by simp [haR, hx]
 have hml : (bs.map ndsD).length = bs.length := by simp
 have hmr : (row.map Nd.D).length = row.length := by simp
 have hmR : (R.map Nd.D).length = a + 1 := by simp [hRl]
 unfold heardOf
 have har : a < row.length := by omega
 unfold SlS Nt.C at hloop
 generalize (own.Send (g.Next k).1).2 = e5 at c5
 generalize g.Done k = g1 at hok c2 c7 hI ⊢
 clear hown hown1
 obtain ⟨q, fs, ⟨ct, cr, cs, cz⟩, gg⟩ := own
 obtain ⟨q1, fs1, ⟨ct1, cr1, cs1, cz1⟩, gg1⟩ := own1
 obtain ⟨tw, tf, tb, tz⟩ := t
 generalize hnx : g.Next k = nx at c1 c5 hn
 obtain ⟨nf, ni⟩ := nx
 simp only at c1 c5 hn hq hs
 subst hn hq
 generalize hB2 : (bs.set k (R.set a { x with g := [] })).map ndsD = B2 at c3
 simp only [Nt.P, hB2]
 generalize hR2 : (R.set a { x with g := [] }).map Nd.D = R2 at c3 hloop
 generalize hB : bs.map ndsD = B at hbk hml c3 hloop ⊢
 simp only [ndsD] at hbk
 generalize (row.set a _).map Nd.D = RW1 at c6 hslot
 generalize row.map Nd.D = RW at hbk hra hmr c6
 generalize who.map intD = W at hslot ⊢
 simp only [Nd.D] at hra
 generalize R.map Nd.D = RR at hRa hmR hslot hloop
 obtain ⟨hk0, hbk⟩ := List.getElem?_eq_some_iff.1 hbk
 obtain ⟨ha0, hra⟩ := List.getElem?_eq_some_iff.1 hra
 obtain ⟨hR0, hRa⟩ := List.getElem?_eq_some_iff.1 hRa
 simp only [Nd.D] at hRa
 simp at hslot c3 c1 c5 c6 c7
 have haR' : a < a + 1 := by omega
 have har' : a < row.length := har
 cases q1 with
 | nil =>
  simp only [List.length_nil, Nat.lt_irrefl, decide_false, Bool.false_and, Bool.false_eq_true, if_false]
  clear c2
  simp at c5 c6
  simp (maxSteps := 2000000) [Tryz.f39, ec_loop, -loadS, -storeS, loadS_cons0, loadS_consS, storeS_cons0, storeS_consS, sfx_load0, sfx_load, sfx_store0, sfx_store, cellsOf, hml, hmr, hmR, hw1, hbk, hk0, hra, ha0, hRa, hR0, hk, haR, har, haR', har', hs, c1, c5, c6, c7, hslot]
  generalize hLL : loopN _ _ _ = LL
  obtain ⟨r, rfl, S, rfl, hS, h3', h4', h6', h7', h8', h13'⟩ := at_loop hLL (hloop _ g1 hok _ _ _ _ _ rfl rfl rfl rfl rfl rfl _ rfl rfl 1001 (by omega))
  simp at h13'
  change rd S 13 = _ at h13'
  simp [-rd, rd_ne, rd_eq, -loadS, -storeS, loadS_cons0, loadS_consS, storeS_cons0, storeS_consS, hS, h3', h4', h6', h7', h8', h13', hk, c3, rd_el h6' (by omega), rd_el h7' (by omega)]
  done
 | cons f qs =>
  have hqz : (((f :: qs).length : Int) == 0) = false := by simp; omega
  have hqz2 : (((qs.length : Int) + 1) == 0) = false := by simp; omega
  have hqp : decide (0 < (f :: qs).length) = true := by simp
  simp only [List.headD_cons] at c2 hI ⊢
  rw [hqp]
  simp at c5 c6
  cases hxq : ((x.q.length : Int) == 0)
  ·simp only [Bool.and_false, Bool.false_eq_true, if_false]
   clear c2
   simp (maxSteps := 2000000) [Tryz.f39, ec_loop, -loadS, -storeS, loadS_cons0, loadS_consS, storeS_cons0, storeS_consS, sfx_load0, sfx_load, sfx_store0, sfx_store, cellsOf, hml, hmr, hmR, hw1, hbk, hk0, hra, ha0, hRa, hR0, hk, haR, har, haR', har', hs, c1, c5, c6, c7, hslot, hqz, hqz2, hxq]
   generalize hLL : loopN _ _ _ = LL
   obtain ⟨r, rfl, S, rfl, hS, h3', h4', h6', h7', h8', h13'⟩ := at_loop hLL (hloop _ g1 hok _ _ _ _ _ rfl rfl rfl rfl rfl rfl _ rfl rfl 1001 (by omega))
   simp at h13'
   change rd S 13 = _ at h13'
   simp [-rd, rd_ne, rd_eq, -loadS, -storeS, loadS_cons0, loadS_consS, storeS_cons0, storeS_consS, hS, h3', h4', h6', h7', h8', h13', hk, c3, rd_el h6' (by omega), rd_el h7' (by omega)]
   done
  ·simp only [Bool.and_true, if_true]
   simp at c2
   simp (maxSteps := 2000000) [Tryz.f39, ec_loop, -loadS, -storeS, loadS_cons0, loadS_consS, storeS_cons0, storeS_consS, sfx_load0, sfx_load, sfx_store0, sfx_store, cellsOf, hml, hmr, hmR, hw1, hbk, hk0, hra, ha0, hRa, hR0, hk, haR, har, haR', har', hs, c1, c5, c6, c7, hslot, hqz, hqz2, hxq, c2]
   generalize hLL : loopN _ _ _ = LL
   obtain ⟨r, rfl, S, rfl, hS, h3', h4', h6', h7', h8', h13'⟩ := at_loop hLL (hloop _ (g1.In k f) hI.1 _ _ _ _ _ rfl rfl rfl rfl rfl rfl _ rfl rfl 1001 (by omega))
   simp at h13'
   change rd S 13 = _ at h13'
   simp [-rd, rd_ne, rd_eq, -loadS, -storeS, loadS_cons0, loadS_consS, storeS_cons0, storeS_consS, hS, h3', h4', h6', h7', h8', h13', hk, c3, rd_el h6' (by omega), rd_el h7' (by omega)]
   done
end Go.Proofs

set_option maxRecDepth 100000
set_option maxHeartbeats 8000000
namespace Go.Proofs
open Go.RowKit Go.Shelf Go.Pv
def winS (b : Option (Int × Fr)) (p : Int × Fr) : Option (Int × Fr) := match b with | none => some p | some q => if rankCmp p.2 q.2 < 0 then some p else some q
def winP (P : List (Int × Fr)) : Option (Int × Fr) := P.foldl winS none
def atP (o : Option (Int × Fr)) : Int := (o.map (·.1)).getD (-1)
theorem winS_plc : ∀ (Q P : List (Int × Fr)) (i b : Nat) (q : Int × Fr), P.drop i = Q → P[b]? = some q → Q.foldl winS (some q) = P[(plc (Q.map (·.2)) i b q.2).1]?
 | [], P, i, b, q, _, hb => by simp [plc, hb]
 | p :: Q, P, i, b, q, hd, hb => by
  have hi : P[i]? = some p := by
   have : (P.drop i)[0]? = some p := by rw [hd]; rfl
   simpa using this
  have hd' : P.drop (i + 1) = Q := by rw [← List.drop_drop, hd]; rfl
  rw [List.foldl_cons, List.map_cons, plc]
  by_cases h : rankCmp p.2 q.2 < 0
  ·rw [show winS (some q) p = some p by unfold winS; simp [h], if_pos h]
   exact winS_plc Q P (i + 1) i p hd' hi
  ·rw [show winS (some q) p = some q by unfold winS; simp [h], if_neg h]
   exact winS_plc Q P (i + 1) b q hd' hb
theorem winP_nil : winP [] = none := rfl
theorem winP_eq {P : List (Int × Fr)} (h : P ≠ []) : winP P = P[nxt (P.map (·.2))]? := by
 cases P with
 | nil => exact absurd rfl h
 | cons p Q =>
  have h1 := winS_plc Q (p :: Q) 1 0 p rfl rfl
  have h2 := (nxt_spec p.2 (Q.map (·.2))).1
  rw [List.map_cons, h2, ← h1]
  rfl
theorem sends_eq {l : List Nd} (who : List Int) {i : Nat} {n : Nd} (hi : l[i]? = some n) : (lineOf l who).sends i = (n.Next.2 && decide (n.Next.1.rank = (lineOf l who).f.rank)) := by
 have hal : (lineOf l who).al = alongL (sndL l) (lineOf l who).f := rfl
 unfold Ln.sends
 rw [hal]
 generalize (lineOf l who).f = f
 rw [Bool.eq_iff_iff]
 simp only [List.contains_iff_mem, Bool.and_eq_true, decide_eq_true_eq]
 constructor
 ·intro h
  obtain ⟨p, hp, h2⟩ := List.mem_filterMap.1 h
  obtain ⟨k, m, hk, hm, rfl⟩ := sndL_mem hp
  by_cases hr : m.Next.1.rank = f.rank
  ·simp only [hr, if_true, Option.some.injEq] at h2
   have : k = i := by omega
   subst this
   rw [hi] at hk
   obtain rfl := Option.some.inj hk
   exact ⟨hm, hr⟩
  ·simp only [hr, if_false] at h2
   exact absurd h2 (by simp)
 ·rintro ⟨h1, h2⟩
  refine List.mem_filterMap.2 ⟨((i : Int), n.Next.1), ?_, by simp [h2]⟩
  simp only [sndL, List.mem_filterMap]
  exact ⟨(n, i), List.mem_zipIdx_iff_getElem?.2 hi, by simp [h1]⟩
theorem winP_line {l : List Nd} (who : List Int) (hs : sndL l ≠ []) : winP (sndL l) = some ((lineOf l who).w, (lineOf l who).f) ∧ ((lineOf l who).w, (lineOf l who).f) ∈ sndL l := by
 have hm : (sndL l).map (·.2) ≠ [] := by simpa using hs
 have hk := nxt_lt hm
 rw [List.length_map] at hk
 have he : (sndL l).getD (nxt ((sndL l).map (·.2))) (0, fr0) = (sndL l)[nxt ((sndL l).map (·.2))] := by simp [List.getD, List.getElem?_eq_getElem hk]
 have h1 : ((lineOf l who).w, (lineOf l who).f) = (sndL l)[nxt ((sndL l).map (·.2))] := by
  unfold lineOf
  simp only [he]
 rw [h1]
 exact ⟨by rw [winP_eq hs, List.getElem?_eq_getElem hk], List.getElem_mem hk⟩
theorem sends_none {l : List Nd} (who : List Int) (hs : sndL l = []) (i : Nat) : (lineOf l who).sends i = false := by
 have : (lineOf l who).al = [] := by
  unfold lineOf
  simp only [hs]
  rfl
 simp [Ln.sends, this]
end Go.Proofs

set_option maxRecDepth 100000
set_option maxHeartbeats 8000000
namespace Go.Proofs
open Go.RowKit Go.Shelf Go.Pv
def rights (l : List Nd) : Prop := ∀ n ∈ l, n.right = true
theorem Nd.right_good {n : Nd} (h : n.right = true) : n.good := by
 rw [Nd.right_iff] at h
 exact ⟨by omega, by omega, by omega, h.1.2, Cn.right_ok h.2.2.2⟩
theorem rights.good {l : List Nd} (h : rights l) : ∀ n ∈ l, n.good := fun n hn => Nd.right_good (h n hn)
theorem Sent_q (n : Nd) (ok : Bool) : ∀ f ∈ (n.Sent ok).q, f ∈ n.q := by
 intro f hf
 unfold Nd.Sent at hf
 split at hf
 ·exact hf
 ·cases ok
  ·simpa using hf
  ·simp only [if_true] at hf
   exact List.mem_of_mem_eraseIdx hf
theorem Heard_q (n : Nd) (f : Fr) (ok long : Bool) : (n.Heard f ok long).q = n.q := by unfold Nd.Heard; split <;> rfl
theorem nd_mem {l : List Nd} {i : Nat} (hi : i < l.length) : nd l i ∈ l := by
 have : nd l i = l[i] := by simp [nd, List.getD, hi]
 rw [this]; exact List.getElem_mem hi
theorem slotL_len (l : List Nd) (who : List Int) : (slotL l who).1.length = l.length := by
 unfold slotL
 split
 ·simp
 ·dsimp only
  split <;> simp
theorem line_right {l : List Nd} (h : rights l) (who : List Int) (hs : sndL l ≠ []) : (lineOf l who).f.right = true := sndL_right h.good _ (winP_line who hs).2
theorem slotL_right {l : List Nd} (h : rights l) (who : List Int) : rights (slotL l who).1 := by
 unfold slotL
 by_cases hs : sndL l = []
 ·rw [if_pos hs]
  intro n hn
  obtain ⟨i, hi, rfl⟩ := List.mem_map.1 hn
  exact Nd.Quiet_right (h _ (nd_mem (by simpa using hi)))
 ·rw [if_neg hs]
  have hf := line_right h who hs
  have hx : (lineOf l who).l = l := rfl
  generalize lineOf l who = x at hf hx
  subst hx
  dsimp only
  split
  ·intro n hn
   obtain ⟨i, hi, rfl⟩ := List.mem_map.1 hn
   have hr := h _ (nd_mem (by simpa using hi))
   unfold Ln.two
   split
   ·exact Nd.Sent_right hr true
   ·exact Nd.Heard_right hr _ hf _ _
  ·intro n hn
   obtain ⟨i, hi, rfl⟩ := List.mem_map.1 hn
   have hr := h _ (nd_mem (by simpa using hi))
   unfold Ln.three
   split
   ·split
    ·exact hr
    ·exact Nd.Sent_right hr false
   ·exact Nd.Heard_right hr _ hf _ _
theorem slotL_bytes {l : List Nd} (h : bytesOk l) (who : List Int) : bytesOk (slotL l who).1 := by
 unfold slotL
 by_cases hs : sndL l = []
 ·rw [if_pos hs]
  intro n hn
  obtain ⟨i, hi, rfl⟩ := List.mem_map.1 hn
  exact h (nd l i) (nd_mem (by simpa using hi))
 ·rw [if_neg hs]
  have hx : (lineOf l who).l = l := rfl
  generalize lineOf l who = x at hx
  subst hx
  dsimp only
  split
  ·intro n hn
   obtain ⟨i, hi, rfl⟩ := List.mem_map.1 hn
   have hr := h _ (nd_mem (by simpa using hi))
   unfold Ln.two
   split
   ·exact fun f hf => hr f (Sent_q _ _ f hf)
   ·rw [Heard_q]; exact hr
  ·intro n hn
   obtain ⟨i, hi, rfl⟩ := List.mem_map.1 hn
   have hr := h _ (nd_mem (by simpa using hi))
   unfold Ln.three
   split
   ·split
    ·exact hr
    ·exact fun f hf => hr f (Sent_q _ _ f hf)
   ·rw [Heard_q]; exact hr
end Go.Proofs

set_option maxRecDepth 100000
set_option maxHeartbeats 8000000
namespace Go.Proofs
open Go.RowKit Go.Shelf Go.Pv
theorem Gt.Done_ok {g : Gt} (hg : g.ok) (k : Int) : (g.Done k).ok := by
 unfold Gt.Done
 split
 ·obtain ⟨h1, h2, h3, h4, h5, h6⟩ := hg
  refine ⟨h1, by simpa using h2, by simpa using h3, by simpa using h4, h5, fun r hr => ?_⟩
  rcases List.mem_or_eq_of_mem_set hr with h | rfl
  ·exact h6 r h
  ·have : (g.row k).length ≤ 64 := by
    unfold Gt.row
    rw [List.getD_eq_getElem?_getD]
    cases hx : g.out[k.toNat]? with
    | none => simp
    | some r => simpa using h6 r (List.mem_of_getElem? hx)
   simp; omega
 ·exact hg
def Nt.own (n : Nt) (k : Nat) : Nd := nd (rw_ n.bs k) ((rw_ n.bs k).length - 1)
def Nt.row1 (n : Nt) (k : Nat) : List Nd := (rw_ n.bs k).set ((rw_ n.bs k).length - 1) (ownOf n.g k (n.own k))
def Nt.Slot (n : Nt) (k : Nat) (who : List Int) : Nt × Td :=
 let R := slotL (n.row1 k) who
 let x := nd R.1 ((rw_ n.bs k).length - 1)
 (⟨n.bs.set k (R.1.set ((rw_ n.bs k).length - 1) { x with g := [] }), (heardOf (gateOf n.g k (n.own k)) k (ownOf n.g k (n.own k)) x).Ins k x.g⟩, R.2)
theorem b_netSlot (n : Nt) (k : Nat) (who : List Int) (hk : k < n.bs.length) (hbs : n.bs.length ≤ 1000) (hg : n.g.ok) (hr0 : rw_ n.bs k ≠ []) (hrl : (rw_ n.bs k).length ≤ 1000)
  (h1 : ∀ x ∈ n.row1 k, x.good) (h2 : bytesOk (n.row1 k)) (hwl : who.length ≤ 1000000) (h3 : (nd (slotL (n.row1 k) who).1 ((rw_ n.bs k).length - 1)).g.length ≤ 1000) (σ : Store) :
  callIt E1 (evI E1) 39 [n.P, .d (.int .i64 k), .agg [.d (.slice (who.map intD))]] σ = some (.tup [(n.Slot k who).1.P, (n.Slot k who).2.P], σ) := by
 have hs := fun σ => b_Slot (n.row1 k) h1 h2 (by unfold Nt.row1; simpa using hrl) who hwl σ
 have hlen : (slotL (n.row1 k) who).1.length = (rw_ n.bs k).length := by rw [slotL_len]; unfold Nt.row1; simp
 obtain ⟨bs, g⟩ := n
 simp only at hk hbs hg hr0 hrl h3 hlen
 have hp : 0 < (rw_ bs k).length := List.length_pos_iff.2 hr0
 have ha : (rw_ bs k).length = ((rw_ bs k).length - 1) + 1 := by omega
 have hown : (rw_ bs k)[(rw_ bs k).length - 1]'(by omega) = (Nt.mk bs g).own k := (nd_at (by omega)).symm
 unfold Nt.Slot
 dsimp only
 have hx : (slotL ((Nt.mk bs g).row1 k) who).1[(rw_ bs k).length - 1]'(by omega) = nd (slotL ((Nt.mk bs g).row1 k) who).1 ((rw_ bs k).length - 1) := (nd_at (by omega)).symm
 cases hrel : relays g k ((Nt.mk bs g).own k)
 ·have e1 : ownOf g k ((Nt.mk bs g).own k) = (Nt.mk bs g).own k := by unfold ownOf; rw [hrel]; rfl
  have e2 : gateOf g k ((Nt.mk bs g).own k) = g := by unfold gateOf; rw [hrel]; rfl
  have e3 : (Nt.mk bs g).row1 k = rw_ bs k := by
   unfold Nt.row1
   dsimp only
   rw [e1, ← hown, List.set_getElem_self]
  rw [e1, e2]
  have hs' := hs
  rw [e3] at hs'
  have hq : ((Nt.mk bs g).own k).q = [] ∨ ((Nt.mk bs g).own k).q ≠ [] := by by_cases h : ((Nt.mk bs g).own k).q = [] <;> simp [h]
  have := b_netSlotNo bs g hg k hk hbs (rw_ bs k) (rw_get hk).symm _ ha hrl _ hown hq who (slotL ((Nt.mk bs g).row1 k) who).1 (slotL ((Nt.mk bs g).row1 k) who).2 (by omega) _ hx h3 hrel (by rw [e3]; exact hs') σ
  exact this
 ·have e1 : ownOf g k ((Nt.mk bs g).own k) = (((Nt.mk bs g).own k).Send (g.Next k).1).1 := by unfold ownOf; rw [hrel]; rfl
  have e2 : gateOf g k ((Nt.mk bs g).own k) = g.Done k := by unfold gateOf; rw [hrel]; rfl
  have hrel' := hrel
  unfold relays at hrel'
  simp only [Bool.and_eq_true] at hrel'
  obtain ⟨⟨r1, r2⟩, r3⟩ := hrel'
  have hq : ((Nt.mk bs g).own k).q = [] := by
   have := eq_of_beq r2
   exact List.eq_nil_of_length_eq_zero (by omega)
  rw [e1, e2]
  have hs' := hs
  have e3 : (Nt.mk bs g).row1 k = (rw_ bs k).set ((rw_ bs k).length - 1) (((Nt.mk bs g).own k).Send (g.Next k).1).1 := by
   unfold Nt.row1
   dsimp only
   rw [e1]
  rw [e3] at hs'
  have := b_netSlotYes bs g k (Gt.Done_ok hg k) (by have := hg.n; omega) hk hbs (rw_ bs k) (rw_get hk).symm _ ha hrl _ hown hq r3 r1 _ rfl who (slotL ((Nt.mk bs g).row1 k) who).1 (slotL ((Nt.mk bs g).row1 k) who).2 (by omega) _ hx h3 (by rw [e3]; exact hs') σ
  exact this
end Go.Proofs

set_option maxRecDepth 100000
set_option maxHeartbeats 8000000
namespace Go.Proofs
open Go.RowKit Go.Shelf Go.Pv
theorem Send_right {n : Nd} (h : n.right = true) (f : Fr) : (n.Send f).1.right = true := by
 unfold Nd.Send
 split
 ·exact h
 ·rename_i h1
  split
  ·exact h
  ·split
   ·exact h
   ·rw [Nd.right_iff] at h ⊢
    obtain ⟨⟨a1, a2⟩, b, c, d⟩ := h
    refine ⟨⟨by simp; omega, fun x hx => ?_⟩, b, c, d⟩
    rcases List.mem_append.1 hx with hx | hx
    ·exact a2 x hx
    ·simp at hx; subst hx; simpa using h1
theorem Send_q (n : Nd) (f : Fr) : ∀ x ∈ (n.Send f).1.q, x ∈ n.q ∨ x = f := by
 intro x hx
 unfold Nd.Send at hx
 split at hx
 ·exact .inl hx
 ·split at hx
  ·exact .inl hx
  ·split at hx
   ·exact .inl hx
   ·rcases List.mem_append.1 hx with hx | hx
    ·exact .inl hx
    ·exact .inr (by simpa using hx)
theorem rights_set {l : List Nd} (h : rights l) {i : Nat} {x : Nd} (hx : x.right = true) : rights (l.set i x) := by
 intro n hn
 rcases List.mem_or_eq_of_mem_set hn with hn | rfl
 ·exact h n hn
 ·exact hx
theorem bytes_set {l : List Nd} (h : bytesOk l) {i : Nat} {x : Nd} (hx : ∀ f ∈ x.q, byOk f.data) : bytesOk (l.set i x) := by
 intro n hn
 rcases List.mem_or_eq_of_mem_set hn with hn | rfl
 ·exact h n hn
 ·exact hx
theorem empty_right {n : Nd} (h : n.right = true) : ({ n with g := [] } : Nd).right = true := by
 rw [Nd.right_iff] at h ⊢
 obtain ⟨a, b, c, d⟩ := h
 exact ⟨a, ⟨by simp, by simp⟩, c, d⟩
structure Nt.fit (N : Nt) : Prop where
 few : N.bs.length ≤ 4
 rows : ∀ r ∈ N.bs, r ≠ [] ∧ r.length ≤ 8 ∧ rights r ∧ bytesOk r
 gt : N.g.ok
 out : ∀ r ∈ N.g.out, ∀ f ∈ r, byOk f.data
theorem Next_bytes {g : Gt} (h : ∀ r ∈ g.out, ∀ f ∈ r, byOk f.data) (k : Int) : byOk (g.Next k).1.data := by
 unfold Gt.Next
 split
 ·unfold Gt.row
  rw [List.getD_eq_getElem?_getD]
  cases hx : g.out[k.toNat]? with
  | none => simp [fr0, byOk]
  | some r =>
   cases r with
   | nil => simp [fr0, byOk]
   | cons f r => exact h _ (List.mem_of_getElem? hx) f (by simp)
 ·simp [fr0, byOk]
theorem ownOf_right {g : Gt} {k : Nat} {own : Nd} (h : own.right = true) : (ownOf g k own).right = true := by
 unfold ownOf
 split
 ·exact Send_right h _
 ·exact h
theorem ownOf_bytes {g : Gt} (hg : ∀ r ∈ g.out, ∀ f ∈ r, byOk f.data) {k : Nat} {own : Nd} (h : ∀ f ∈ own.q, byOk f.data) : ∀ f ∈ (ownOf g k own).q, byOk f.data := by
 unfold ownOf
 split
 ·intro x hx
  rcases Send_q _ _ x hx with hx | rfl
  ·exact h x hx
  ·exact Next_bytes hg k
 ·exact h
theorem row1_fit {n : Nt} (h : n.fit) {k : Nat} (hk : k < n.bs.length) : rights (n.row1 k) ∧ bytesOk (n.row1 k) := by
 have hm : rw_ n.bs k ∈ n.bs := by rw [rw_get hk]; exact List.getElem_mem hk
 obtain ⟨h0, h1, h2, h3⟩ := h.rows _ hm
 have hp := List.length_pos_iff.2 h0
 have ho : n.own k ∈ rw_ n.bs k := nd_mem (by omega)
 exact ⟨rights_set h2 (ownOf_right (h2 _ ho)), bytes_set h3 (ownOf_bytes h.out (h3 _ ho))⟩
end Go.Proofs

set_option maxRecDepth 100000
set_option maxHeartbeats 8000000
namespace Go.Proofs
open Go.RowKit Go.Shelf Go.Pv
def outB (g : Gt) : Prop := ∀ r ∈ g.out, ∀ f ∈ r, byOk f.data
theorem row_outB {g : Gt} (h : outB g) (k : Int) : ∀ f ∈ g.row k, byOk f.data := by
 unfold Gt.row
 rw [List.getD_eq_getElem?_getD]
 cases hx : g.out[k.toNat]? with
 | none => simp
 | some r => exact h _ (List.mem_of_getElem? hx)
theorem put_outB {g : Gt} (h : outB g) {p : Hp} (hp : byOk p.f.data) : outB (g.put p) := by
 unfold Gt.put
 split
 ·intro r hr f hf
  rcases List.mem_or_eq_of_mem_set hr with hr | rfl
  ·exact h r hr f hf
  ·rcases List.mem_append.1 hf with hf | hf
   ·exact row_outB h _ f hf
   ·simp at hf; subst hf; exact hp
 ·exact h
theorem puts_outB : ∀ (l : List Hp) {g : Gt}, outB g → (∀ p ∈ l, byOk p.f.data) → outB (l.foldl Gt.put g)
 | [], _, h, _ => h
 | p :: l, _, h, hl => puts_outB l (put_outB h (hl p (by simp))) (fun q hq => hl q (by simp [hq]))
theorem hops_data {l : List Rt} {k : Int} {f : Fr} : ∀ p ∈ hopsL l k f, p.f.data = f.data := by
 intro p hp
 unfold hopsL at hp
 obtain ⟨r, _, hr⟩ := List.mem_filterMap.1 hp
 unfold Rt.hop at hr
 split at hr
 ·simp only [Option.some.injEq] at hr
  subst hr
  dsimp only
  split <;> rfl
 ·simp at hr
theorem In_outB {g : Gt} (h : outB g) (k : Int) {f : Fr} (hf : byOk f.data) : outB (g.In k f) :=
 puts_outB _ h (fun p hp => by rw [hops_data p hp]; exact hf)
theorem Ins_outB (k : Int) : ∀ (fs : List Fr) {g : Gt}, outB g → (∀ f ∈ fs, byOk f.data) → outB (g.Ins k fs)
 | [], _, h, _ => h
 | f :: fs, _, h, hf => Ins_outB k fs (In_outB h k (hf f (by simp))) (fun x hx => hf x (by simp [hx]))
theorem Done_outB {g : Gt} (h : outB g) (k : Int) : outB (g.Done k) := by
 unfold Gt.Done
 split
 ·intro r hr f hf
  rcases List.mem_or_eq_of_mem_set hr with hr | rfl
  ·exact h r hr f hf
  ·exact row_outB h k f (List.mem_of_mem_tail hf)
 ·exact h
end Go.Proofs

set_option maxRecDepth 100000
set_option maxHeartbeats 8000000
namespace Go.Proofs
open Go.RowKit Go.Shelf Go.Pv
def fr5 : Fr := ⟨false, 5, false, 0, []⟩
theorem nd_get {l : List Nd} {i : Nat} (hi : i < l.length) : nd l i = l[i] := by simp [nd, List.getD, hi]
theorem nd_map {M : Nat → Nd} {n i : Nat} (hi : i < n) : nd ((List.range n).map M) i = M i := by simp [nd, List.getD, hi]
theorem Sent_g (n : Nd) (ok : Bool) : (n.Sent ok).g = n.g := by unfold Nd.Sent; split; rfl; split <;> rfl
theorem Heard_g (n : Nd) (f : Fr) (ok long : Bool) (hg : n.g.length < 64) : (n.Heard f ok long).g = n.g ++ if !n.off && (ok && anyF n.fs f) then [f] else [] := by
 unfold Nd.Heard
 have h : decide ((n.g.length : Int) < 64) = true := by simp; omega
 rw [h]
 cases n.off <;> cases ok <;> cases anyF n.fs f <;> simp
theorem slotL_none {l : List Nd} (who : List Int) (hs : sndL l = []) : slotL l who = ((List.range l.length).map fun i => (nd l i).Quiet, ⟨-1, fr0, false, 11⟩) := by
 unfold slotL
 rw [if_pos hs]
theorem slotL_good {l : List Nd} (who : List Int) (hs : sndL l ≠ []) (h : (!(lineOf l who).anyLoud && (lineOf l who).anyHears) = true) : slotL l who = ((List.range l.length).map (lineOf l who).two, ⟨(lineOf l who).w, (lineOf l who).f, true, ((lineOf l who).f.wire.length : Int) + 3⟩) := by
 unfold slotL
 rw [if_neg hs]
 simp only [h, if_true]
theorem slotL_bad {l : List Nd} (who : List Int) (hs : sndL l ≠ []) (h : (!(lineOf l who).anyLoud && (lineOf l who).anyHears) = false) : slotL l who = ((List.range l.length).map ((lineOf l who).three (lineOf l who).anyLoud), ⟨(lineOf l who).w, (lineOf l who).f, false, ((lineOf l who).f.wire.length : Int) + 23⟩) := by
 unfold slotL
 rw [if_neg hs]
 simp only [h, Bool.false_eq_true, if_false]
theorem slotL_got {l : List Nd} (who : List Int) {i : Nat} (hi : i < l.length) (hg : (nd l i).g.length < 64) : (nd (slotL l who).1 i).g = (nd l i).g ++ if (slotL l who).2.bad && (!(lineOf l who).sends i && ((nd l i).c.s != 3) && !who.contains (i : Int) && anyF (nd l i).fs (slotL l who).2.f) then [(slotL l who).2.f] else [] := by
 by_cases hs : sndL l = []
 ·rw [slotL_none who hs]
  simp only [nd_map hi]
  simp [Nd.Quiet]
 ·have hx : (lineOf l who).l = l := rfl
  have hw : (lineOf l who).who = who := rfl
  cases hc : (!(lineOf l who).anyLoud && (lineOf l who).anyHears)
  ·rw [slotL_bad who hs hc]
   generalize lineOf l who = x at hx hw
   simp only [nd_map hi, Bool.false_and, Bool.false_eq_true, if_false, List.append_nil]
   unfold Ln.three
   rw [hx]
   split
   ·split
    ·rfl
    ·exact Sent_g _ _
   ·rw [Heard_g _ _ _ _ hg]
    simp
  ·rw [slotL_good who hs hc]
   generalize lineOf l who = x at hx hw
   simp only [nd_map hi, Bool.true_and]
   unfold Ln.two
   rw [hx]
   cases hsd : x.sends i
   ·simp only [Bool.false_eq_true, if_false, Bool.not_false, Bool.true_and]
    rw [Heard_g _ _ _ _ hg]
    unfold Nd.off Ln.sees
    rw [hw]
    have : ((nd l i).c.s != 3) = !((nd l i).c.s == 3) := rfl
    rw [this]
    cases ((nd l i).c.s == 3) <;> cases who.contains (i : Int) <;> simp
   ·simp only [if_true, Bool.not_true, Bool.false_and, Bool.false_eq_true, if_false, List.append_nil]
    exact Sent_g _ _
theorem slotL_w (l : List Nd) (who : List Int) : (slotL l who).2.w = atP (winP (sndL l)) := by
 by_cases hs : sndL l = []
 ·rw [slotL_none who hs, hs]; rfl
 ·have hw := (winP_line who hs).1
  rw [hw]
  cases hc : (!(lineOf l who).anyLoud && (lineOf l who).anyHears)
  ·rw [slotL_bad who hs hc]; rfl
  ·rw [slotL_good who hs hc]; rfl
theorem slotL_f {l : List Nd} (who : List Int) (hs : sndL l ≠ []) : (slotL l who).2.f = (lineOf l who).f := by
 cases hc : (!(lineOf l who).anyLoud && (lineOf l who).anyHears)
 ·rw [slotL_bad who hs hc]
 ·rw [slotL_good who hs hc]
theorem slotL_ok {l : List Nd} {who : List Int} (h : (slotL l who).2.bad = true) : sndL l ≠ [] ∧ (!(lineOf l who).anyLoud && (lineOf l who).anyHears) = true := by
 by_cases hs : sndL l = []
 ·rw [slotL_none who hs] at h; cases h
 ·refine ⟨hs, ?_⟩
  cases hc : (!(lineOf l who).anyLoud && (lineOf l who).anyHears)
  ·rw [slotL_bad who hs hc] at h; cases h
  ·rfl
theorem slotL_won {l : List Nd} {who : List Int} (hs : sndL l ≠ []) : ∃ k : Nat, k < l.length ∧ (slotL l who).2.w = (k : Int) ∧ (nd l k).Next.2 = true ∧ (slotL l who).2.f = (nd l k).Next.1 := by
 have hw := slotL_w l who
 obtain ⟨h1, h2⟩ := winP_line who hs
 rw [h1] at hw
 obtain ⟨k, n, hn, h3, h4⟩ := sndL_mem h2
 obtain ⟨h5, h6⟩ := Prod.mk.inj h4
 obtain ⟨hk, rfl⟩ := List.getElem?_eq_some_iff.1 hn
 refine ⟨k, hk, ?_, ?_, ?_⟩
 ·rw [hw]; exact h5
 ·rw [nd_get hk]; exact h3
 ·rw [nd_get hk, slotL_f who hs, h6]
end Go.Proofs

set_option maxRecDepth 100000
set_option maxHeartbeats 8000000
namespace Go.Proofs
open Go.RowKit Go.Shelf Go.Pv
def lastE (r : List Nd) : Prop := (nd r (r.length - 1)).g = []
structure Nt.fits (N : Nt) : Prop extends N.fit where
 last : ∀ r ∈ N.bs, lastE r
theorem Nt.fits.mem {N : Nt} (h : N.fits) {k : Nat} (hk : k < N.bs.length) : rw_ N.bs k ∈ N.bs := by rw [rw_get hk]; exact List.getElem_mem hk
theorem nd_set_eq {l : List Nd} {i : Nat} (hi : i < l.length) (x : Nd) : nd (l.set i x) i = x := by simp [nd, List.getD, hi]
theorem nd_set_ne {l : List Nd} {i j : Nat} (h : i ≠ j) (x : Nd) : nd (l.set i x) j = nd l j := by simp [nd, List.getD, h]
theorem Send_g (n : Nd) (f : Fr) : (n.Send f).1.g = n.g := by unfold Nd.Send; split; rfl; split; rfl; split <;> rfl
theorem ownOf_g (g : Gt) (k : Nat) (own : Nd) : (ownOf g k own).g = own.g := by unfold ownOf; split; exact Send_g _ _; rfl
theorem told_bytes {l : List Nd} (hb : bytesOk l) {who : List Int} (h : (slotL l who).2.bad = true) : byOk (slotL l who).2.f.data := by
 obtain ⟨hs, _⟩ := slotL_ok h
 obtain ⟨k, hk, _, h2, h3⟩ := slotL_won hs (who := who)
 rw [h3]
 exact hb _ (nd_mem hk) _ (Next_mem h2)
theorem own_got {l : List Nd} (who : List Int) {i : Nat} (hi : i < l.length) (hg : (nd l i).g = []) (hb : bytesOk l) : (nd (slotL l who).1 i).g.length ≤ 1 ∧ ∀ f ∈ (nd (slotL l who).1 i).g, byOk f.data := by
 rw [slotL_got who hi (by rw [hg]; simp), hg, List.nil_append]
 split
 ·rename_i h
  rw [Bool.and_eq_true] at h
  refine ⟨by simp, fun f hf => ?_⟩
  simp at hf
  subst hf
  exact told_bytes hb h.1
 ·simp
theorem row1_len (n : Nt) (k : Nat) : (n.row1 k).length = (rw_ n.bs k).length := by unfold Nt.row1; simp
theorem row1_own {n : Nt} (h : n.fits) {k : Nat} (hk : k < n.bs.length) : (nd (n.row1 k) ((rw_ n.bs k).length - 1)).g = [] := by
 have hm := h.mem hk
 have hp := List.length_pos_iff.2 (h.rows _ hm).1
 unfold Nt.row1
 rw [nd_set_eq (by omega), ownOf_g]
 exact h.last _ hm
theorem fits_got {n : Nt} (h : n.fits) {k : Nat} (hk : k < n.bs.length) (who : List Int) : (nd (slotL (n.row1 k) who).1 ((rw_ n.bs k).length - 1)).g.length ≤ 1 ∧ ∀ f ∈ (nd (slotL (n.row1 k) who).1 ((rw_ n.bs k).length - 1)).g, byOk f.data := by
 have hm := h.mem hk
 have hp := List.length_pos_iff.2 (h.rows _ hm).1
 exact own_got who (by rw [row1_len]; omega) (row1_own h hk) (row1_fit h.tofit hk).2
def Nt.like (a b : Nt) : Prop := a.bs.map List.length = b.bs.map List.length ∧ a.g.rs = b.g.rs ∧ a.g.cap = b.g.cap ∧ a.g.out.length = b.g.out.length
theorem Nt.like.rfl' (a : Nt) : a.like a := ⟨rfl, rfl, rfl, rfl⟩
theorem Nt.like.trans {a b c : Nt} (h : a.like b) (h' : b.like c) : a.like c := ⟨h.1.trans h'.1, h.2.1.trans h'.2.1, h.2.2.1.trans h'.2.2.1, h.2.2.2.trans h'.2.2.2⟩
theorem Nt.like.len {a b : Nt} (h : a.like b) : a.bs.length = b.bs.length := by have := congrArg List.length h.1; simpa using this
theorem Nt.like.row {a b : Nt} (h : a.like b) (k : Nat) : (rw_ a.bs k).length = (rw_ b.bs k).length := by
 have h1 := congrArg (fun l : List Nat => l[k]?) h.1
 simp only [List.getElem?_map] at h1
 unfold rw_
 rw [List.getD_eq_getElem?_getD, List.getD_eq_getElem?_getD]
 cases ha : a.bs[k]? <;> cases hb : b.bs[k]? <;> rw [ha, hb] at h1 <;> simp at h1 ⊢
 exact h1
theorem set_lens {l : List (List Nd)} {k : Nat} {r : List Nd} (h : r.length = (rw_ l k).length) : (l.set k r).map List.length = l.map List.length := by
 apply List.ext_getElem?
 intro i
 rw [List.getElem?_map, List.getElem?_map, List.getElem?_set]
 split
 ·rename_i hi
  subst hi
  split
  ·rename_i hk
   rw [List.getElem?_eq_getElem hk]
   simp [h, rw_get hk]
  ·rename_i hk
   rw [List.getElem?_eq_none (by omega)]
 ·rfl
theorem heardOf_ok {g : Gt} (h : g.ok) (k : Nat) (a b : Nd) : (heardOf g k a b).ok ∧ (heardOf g k a b).out.length = g.out.length ∧ (heardOf g k a b).rs = g.rs ∧ (heardOf g k a b).cap = g.cap := by
 unfold heardOf
 split
 ·exact Gt.In_ok h _ _
 ·exact ⟨h, rfl, rfl, rfl⟩
theorem gateOf_ok {g : Gt} (h : g.ok) (k : Nat) (a : Nd) : (gateOf g k a).ok ∧ (gateOf g k a).out.length = g.out.length ∧ (gateOf g k a).rs = g.rs ∧ (gateOf g k a).cap = g.cap := by
 unfold gateOf
 split
 ·refine ⟨Gt.Done_ok h _, ?_, ?_, ?_⟩ <;> (unfold Gt.Done; split <;> simp)
 ·exact ⟨h, rfl, rfl, rfl⟩
theorem gateOf_outB {g : Gt} (h : outB g) (k : Nat) (a : Nd) : outB (gateOf g k a) := by
 unfold gateOf
 split
 ·exact Done_outB h _
 ·exact h
theorem heardOf_outB {g : Gt} (h : outB g) (k : Nat) (a b : Nd) (ha : ∀ f ∈ a.q, byOk f.data) : outB (heardOf g k a b) := by
 unfold heardOf
 split
 ·refine In_outB h _ ?_
  cases hq : a.q with
  | nil => simp [fr0, byOk]
  | cons f q => exact ha f (by rw [hq]; simp)
 ·exact h
theorem fits_slot {n : Nt} (h : n.fits) {k : Nat} (hk : k < n.bs.length) (who : List Int) : (n.Slot k who).1.fits ∧ (n.Slot k who).1.like n := by
 have hm := h.mem hk
 obtain ⟨h0, h1, h2, h3⟩ := h.rows _ hm
 have hp := List.length_pos_iff.2 h0
 obtain ⟨r1, r2⟩ := row1_fit h.tofit hk
 obtain ⟨g1, g2⟩ := fits_got h hk who
 have ho : n.own k ∈ rw_ n.bs k := nd_mem (by omega)
 have sr := slotL_right r1 who
 have sb := slotL_bytes r2 who
 have sl := slotL_len (n.row1 k) who
 rw [row1_len] at sl
 unfold Nt.Slot
 dsimp only
 generalize hx : nd (slotL (n.row1 k) who).1 ((rw_ n.bs k).length - 1) = x at g1 g2 ⊢
 have hxm : x ∈ (slotL (n.row1 k) who).1 := by rw [← hx]; exact nd_mem (by omega)
 generalize (slotL (n.row1 k) who).1 = R at sr sb sl hx hxm ⊢
 obtain ⟨a1, a2, a3, a4⟩ := gateOf_ok h.gt k (n.own k)
 have a5 := gateOf_outB h.out k (n.own k)
 generalize gateOf n.g k (n.own k) = G1 at a1 a2 a3 a4 a5 ⊢
 obtain ⟨b1, b2, b3, b4⟩ := heardOf_ok a1 k (ownOf n.g k (n.own k)) x
 have b5 := heardOf_outB a5 k (ownOf n.g k (n.own k)) x (ownOf_bytes h.out (h3 _ ho))
 generalize heardOf G1 k (ownOf n.g k (n.own k)) x = G2 at b1 b2 b3 b4 b5 ⊢
 obtain ⟨c1, c2, c3, c4⟩ := Gt.Ins_ok k x.g G2 b1
 have c5 := Ins_outB k x.g b5 g2
 generalize G2.Ins k x.g = G3 at c1 c2 c3 c4 c5 ⊢
 refine ⟨⟨⟨by simpa using h.few, fun r hr => ?_, c1, c5⟩, fun r hr => ?_⟩, ?_, by rw [c3, b3, a3], by rw [c4, b4, a4], by rw [c2, b2, a2]⟩
 ·rcases List.mem_or_eq_of_mem_set hr with hr | rfl
  ·exact h.rows r hr
  ·refine ⟨?_, by simp; omega, rights_set sr (empty_right (sr x hxm)), bytes_set sb (sb x hxm)⟩
   apply List.length_pos_iff.1
   simp; omega
 ·rcases List.mem_or_eq_of_mem_set hr with hr | rfl
  ·exact h.last r hr
  ·unfold lastE
   rw [List.length_set, sl, nd_set_eq (by omega)]
 ·exact set_lens (by simp [sl])
def Nt.slots : List Nat → Nt → Nt
 | [], n => n
 | k :: ks, n => Nt.slots ks (n.Slot k []).1
def Nt.round (n : Nt) : Nt := Nt.slots (List.range n.bs.length) n
def Nt.calmF : Nat → Nt → Nt × Nat
 | 0, n => (n, 0)
 | k + 1, n => if n.Still then (n, 0) else ((Nt.calmF k n.round).1, (Nt.calmF k n.round).2 + 1)
def most (m : Int) : Nat := (min (max m 0) 10000).toNat
def Nt.Calm (n : Nt) (m : Int) : Nt × Int := ((Nt.calmF (most m) n).1, ((Nt.calmF (most m) n).2 : Int))
theorem slots_append : ∀ (a b : List Nat) (n : Nt), Nt.slots (a ++ b) n = Nt.slots b (Nt.slots a n)
 | [], _, _ => rfl
 | k :: a, b, n => slots_append a b _
theorem fits_slots : ∀ (ks : List Nat) {n : Nt}, n.fits → (∀ k ∈ ks, k < n.bs.length) → (Nt.slots ks n).fits ∧ (Nt.slots ks n).like n
 | [], n, h, _ => ⟨h, .rfl' n⟩
 | k :: ks, n, h, hk => by
  obtain ⟨h1, h2⟩ := fits_slot h (hk k (by simp)) []
  obtain ⟨h3, h4⟩ := fits_slots ks h1 (fun j hj => by rw [h2.len]; exact hk j (by simp [hj]))
  exact ⟨h3, h4.trans h2⟩
theorem fits_round {n : Nt} (h : n.fits) : n.round.fits ∧ n.round.like n := fits_slots _ h (fun k hk => by simpa using hk)
theorem fits_calmF : ∀ (k : Nat) {n : Nt}, n.fits → (Nt.calmF k n).1.fits ∧ (Nt.calmF k n).1.like n
 | 0, n, h => ⟨h, .rfl' n⟩
 | k + 1, n, h => by
  unfold Nt.calmF
  split
  ·exact ⟨h, .rfl' n⟩
  ·obtain ⟨h1, h2⟩ := fits_round h
   obtain ⟨h3, h4⟩ := fits_calmF k h1
   exact ⟨h3, h4.trans h2⟩
theorem fits_calm {n : Nt} (h : n.fits) (m : Int) : (n.Calm m).1.fits ∧ (n.Calm m).1.like n := fits_calmF _ h
theorem calmF_of_still (k : Nat) {n : Nt} (h : n.Still = true) : Nt.calmF k n = (n, 0) := by
 cases k with
 | zero => rfl
 | succ k => unfold Nt.calmF; rw [if_pos h]
theorem Send_bytes {n : Nd} (h : ∀ f ∈ n.q, byOk f.data) {f : Fr} (hf : byOk f.data) : ∀ x ∈ (n.Send f).1.q, byOk x.data := by
 intro x hx
 rcases Send_q _ _ x hx with hx | rfl
 ·exact h x hx
 ·exact hf
theorem fits_send {n : Nt} (h : n.fits) (b a : Int) {f : Fr} (hf : byOk f.data) : (n.Send b a f).1.fits ∧ (n.Send b a f).1.like n := by
 unfold Nt.Send
 split
 ·exact ⟨h, .rfl' n⟩
 ·split
  ·exact ⟨h, .rfl' n⟩
  ·rename_i hb ha
   have hk : b.toNat < n.bs.length := by omega
   have hm := h.mem hk
   generalize b.toNat = k at ha hk hm ⊢
   have hal : a.toNat < (rw_ n.bs k).length - 1 := by omega
   generalize a.toNat = j at hal ⊢
   obtain ⟨h0, h1, h2, h3⟩ := h.rows _ hm
   have hy : nd (rw_ n.bs k) j ∈ rw_ n.bs k := nd_mem (by omega)
   refine ⟨⟨⟨by simpa using h.few, fun r hr => ?_, h.gt, h.out⟩, fun r hr => ?_⟩, set_lens (by simp), rfl, rfl, rfl⟩
   ·rcases List.mem_or_eq_of_mem_set hr with hr | rfl
    ·exact h.rows r hr
    ·refine ⟨?_, by simpa using h1, rights_set h2 (Send_right (h2 _ hy) f), bytes_set h3 (Send_bytes (h3 _ hy) hf)⟩
     apply List.length_pos_iff.1
     simp; omega
   ·rcases List.mem_or_eq_of_mem_set hr with hr | rfl
    ·exact h.last r hr
    ·unfold lastE
     rw [List.length_set, nd_set_ne (by omega)]
     exact h.last _ hm
theorem own0_right : own0.right = true := by kernel_rfl
theorem fits_new {l : List (List Nd)} {r : List Rt} {room : Int} (hb : ∀ x ∈ l, bytesOk x) (h : (Nt.New l r room).2 = 0) : (Nt.New l r room).1.fits ∧ (Nt.New l r room).1.bs = l.map ownIn ∧ l.length ≤ 4 ∧ l ≠ [] ∧ (∀ x ∈ l, x ≠ [] ∧ x.length ≤ 7) := by
 unfold Nt.New at h ⊢
 split
 ·rename_i h1; rw [if_pos h1] at h; simp at h
 ·rename_i h1
  rw [if_neg h1] at h
  split
  ·rename_i h2; rw [if_pos h2] at h; exact absurd h h2
  ·rename_i h2
   have h1' : (decide ((l.length : Int) < 1) || (decide ((l.length : Int) > 4) || l.any wrongL)) = false := by simpa using h1
   rw [Bool.or_eq_false_iff, Bool.or_eq_false_iff] at h1'
   obtain ⟨q1, q2, q3⟩ := h1'
   have q1 := of_decide_eq_false q1
   have q2 := of_decide_eq_false q2
   have hrow : ∀ x ∈ l, x ≠ [] ∧ x.length ≤ 7 ∧ rights x := by
    intro x hx
    have h3 := List.any_eq_false.1 q3 x hx
    unfold wrongL at h3
    rw [Bool.not_eq_true, Bool.or_eq_false_iff, Bool.or_eq_false_iff] at h3
    obtain ⟨h4, h5, h6⟩ := h3
    have h4 := of_decide_eq_false h4
    have h5 := of_decide_eq_false h5
    refine ⟨?_, by omega, fun n hn => by simpa using List.any_eq_false.1 h6 n hn⟩
    apply List.length_pos_iff.1
    omega
   have h2' : (Gt.New r l.length room).2 = 0 := by simpa using h2
   unfold Gt.New at h2' ⊢
   split at h2'
   ·simp at h2'
   ·rename_i k1
    split at h2'
    ·simp at h2'
    ·rename_i k2
     split at h2'
     ·simp at h2'
     ·rename_i k3
      rw [if_neg k1, if_neg k2, if_neg k3]
      have k1 : routesOk r l.length = true := by simpa using k1
      obtain ⟨m1, m2, m3, m4⟩ := routesOk_on k1
      refine ⟨⟨⟨by simp; omega, fun x hx => ?_, ⟨m3, by simp, by simp; omega, fun r hr => ?_, by simp only; omega, fun x hx => ?_⟩, fun x hx => ?_⟩, fun x hx => ?_⟩, rfl, by omega, ?_, fun x hx => ⟨(hrow x hx).1, (hrow x hx).2.1⟩⟩
      ·obtain ⟨y, hy, rfl⟩ := List.mem_map.1 hx
       obtain ⟨y1, y2, y3⟩ := hrow y hy
       refine ⟨by simp [ownIn], by simp [ownIn]; omega, fun n hn => ?_, fun n hn => ?_⟩
       ·rcases List.mem_append.1 hn with hn | hn
        ·exact y3 n hn
        ·simp at hn; subst hn; exact own0_right
       ·rcases List.mem_append.1 hn with hn | hn
        ·exact hb y hy n hn
        ·simp at hn; subst hn; simp [own0]
      ·have := m4 r hr
       simp
       omega
      ·simp at hx; rw [hx.2]; simp
      ·simp at hx; rw [hx.2]; simp
      ·obtain ⟨y, hy, rfl⟩ := List.mem_map.1 hx
       unfold lastE ownIn
       have : (y ++ [own0]).length - 1 = y.length := by simp
       rw [this]
       simp [nd, List.getD, own0]
      ·apply List.length_pos_iff.1
       omega
end Go.Proofs

set_option maxRecDepth 100000
set_option maxHeartbeats 8000000
namespace Go.Proofs
open Go.RowKit Go.Shelf Go.Pv
theorem Nt.fits.ok {n : Nt} (h : n.fits) : n.ok ∧ n.g.out.length ≤ 1000 ∧ (∀ r ∈ n.g.out, r.length ≤ 100000) := by
 refine ⟨⟨by have := h.few; omega, fun r hr => by have := (h.rows r hr).2.1; omega, fun r hr x hx => ?_⟩, by have := h.gt.n; omega, fun r hr => by have := h.gt.row r hr; omega⟩
 have := (Nd.right_iff x).1 ((h.rows r hr).2.2.1 x hx)
 omega
theorem f_still {n : Nt} (h : n.fits) (σ : Store) : callIt E1 (evI E1) 40 [n.P] σ = some (.d (.bool n.Still), σ) := by
 obtain ⟨h1, h2, h3⟩ := h.ok
 exact b_netStill n h1 h2 h3 σ
theorem f_slot {n : Nt} (h : n.fits) {k : Nat} (hk : k < n.bs.length) (who : List Int) (hw : who.length ≤ 1000000) (σ : Store) :
  callIt E1 (evI E1) 39 [n.P, .d (.int .i64 k), .agg [.d (.slice (who.map intD))]] σ = some (.tup [(n.Slot k who).1.P, (n.Slot k who).2.P], σ) := by
 have hm := h.mem hk
 obtain ⟨h0, h1, h2, h3⟩ := h.rows _ hm
 obtain ⟨r1, r2⟩ := row1_fit h.tofit hk
 exact b_netSlot n k who hk (by have := h.few; omega) h.gt h0 (by omega) r1.good r2 hw (by have := (fits_got h hk who).1; omega) σ
theorem Nt.P_C (n : Nt) : n.P = .agg (Nt.C n.bs n.g) := rfl
theorem l_netRound (m : Nat) (n : Nt) (h : n.fits) (X : List PV) (v1 v10 v11 : PV) (S : List PV) (hS : S.length = 37) (h1 : rd S 1 = v1) (h2 : rd S 2 = .ptr 0 0) (h4 : rd S 4 = .ptr 1 0) (h10 : rd S 10 = v10) (h11 : rd S 11 = v11)
  (h20 : rd S 20 = .d (.int .i64 n.bs.length)) (h21 : rd S 21 = .d (.int .i64 0)) (k : Nat) (hk : n.bs.length < k) :
  Lp (loopN (evCode E1 (evI E1) m (theLoop Tryz.f41 1)) k ⟨S, [Nt.C n.bs n.g, X]⟩) fun r => ∃ (S' : List PV), r = (.exit 2, ⟨S', [Nt.C n.round.bs n.round.g, X]⟩) ∧ S'.length = 37 ∧ rd S' 1 = v1 ∧ rd S' 2 = .ptr 0 0 ∧ rd S' 4 = .ptr 1 0 ∧ rd S' 10 = v10 ∧ rd S' 11 = v11 := by
 have hfew := h.few
 refine loop_inv (fun i st => ∃ (S : List PV), st = ⟨S, [Nt.C (Nt.slots (List.range i) n).bs (Nt.slots (List.range i) n).g, X]⟩ ∧ S.length = 37 ∧ rd S 1 = v1 ∧ rd S 2 = .ptr 0 0 ∧ rd S 4 = .ptr 1 0 ∧ rd S 10 = v10 ∧ rd S 11 = v11 ∧ rd S 20 = .d (.int .i64 n.bs.length) ∧ rd S 21 = .d (.int .i64 i)) _ n.bs.length ?_ ?_ k 0 _ (by omega) (by omega) ⟨S, rfl, hS, h1, h2, h4, h10, h11, h20, h21⟩
 ·rintro i st hi ⟨S, rfl, hS, h1, h2, h4, h10, h11, h20, h21⟩
  have hlt : (i : Int) < (n.bs.length : Int) := by omega
  have hsl : Nt.slots (List.range (i + 1)) n = ((Nt.slots (List.range i) n).Slot i []).1 := by
   rw [List.range_succ, slots_append]; rfl
  obtain ⟨f1, f2⟩ := fits_slots (List.range i) h (fun j hj => by have := List.mem_range.1 hj; omega)
  rw [hsl]
  generalize Nt.slots (List.range i) n = N at f1 f2 ⊢
  have c1 := fun σ => f_slot f1 (k := i) (by rw [f2.len]; exact hi) [] (by simp) σ
  generalize N.Slot i [] = R at c1 ⊢
  obtain ⟨N', t⟩ := R
  simp only at c1 ⊢
  obtain ⟨tw, tf, tb, tz⟩ := t
  clear hsl f1 f2
  simp only [Nt.C, Nt.P] at c1 ⊢
  generalize N.bs.map ndsD = a0 at c1 ⊢
  generalize N.g.rs.map Rt.D = a1 at c1 ⊢
  generalize N.g.out.map frsD = a3 at c1 ⊢
  generalize N.g.lost.map intD = a4 at c1 ⊢
  generalize N'.bs.map ndsD = b0 at c1 ⊢
  generalize N'.g.rs.map Rt.D = b1 at c1 ⊢
  generalize N'.g.out.map frsD = b3 at c1 ⊢
  generalize N'.g.lost.map intD = b4 at c1 ⊢
  try simp at c1
  simp [theLoop, Tryz.f41, loopsAll, Lp_some, and_assoc, -rd, rd_ne, rd_eq, -loadS, -storeS, loadS_cons0, loadS_consS, storeS_cons0, storeS_consS, cellsOf, hS, h1, h2, h4, h10, h11, h20, h21, hlt, c1, wrap_succ i (by omega)]
  done
 ·rintro st ⟨S, rfl, hS, h1, h2, h4, h10, h11, h20, h21⟩
  show Lp _ _
  rw [show Nt.slots (List.range n.bs.length) n = n.round from rfl]
  generalize Nt.C n.round.bs n.round.g = B
  simp [theLoop, Tryz.f41, loopsAll, Lp_some, and_assoc, -rd, rd_ne, rd_eq, hS, h1, h2, h4, h10, h11, h20, h21]
  done
theorem l_calm (n0 : Nt) (h0 : n0.fits) (mo : Int) (x0 x1 x2 x3 x4 : PV) (S : List PV) (hS : S.length = 37) (h1 : rd S 1 = .d (.int .i64 mo)) (h2 : rd S 2 = .ptr 0 0) (h4 : rd S 4 = .ptr 1 0) (h10 : rd S 10 = .d (.int .i64 (most mo))) (h11 : rd S 11 = .d (.int .i64 0)) (k : Nat) (hk : most mo < k) :
  Lp (loopN (evCode E1 (evI E1) 10001 (theLoop Tryz.f41 0)) k ⟨S, [Nt.C n0.bs n0.g, [x0, x1, x2, x3, x4]]⟩) fun r => ∃ (S' : List PV), S'.length = 37 ∧ rd S' 1 = .d (.int .i64 mo) ∧ rd S' 2 = .ptr 0 0 ∧ rd S' 4 = .ptr 1 0 ∧
   ((r = (.exit 0, ⟨S', [Nt.C (n0.Calm mo).1.bs (n0.Calm mo).1.g, [x0, x1, x2, x3, x4]]⟩) ∧ (n0.Calm mo).2 = (most mo : Int)) ∨
    (∃ B0 : List PV, r = (.ret, ⟨S', [B0, Nt.C (n0.Calm mo).1.bs (n0.Calm mo).1.g]⟩) ∧ rd S' 5 = .d (.int .i64 (n0.Calm mo).2))) := by
 unfold Nt.Calm
 simp only
 have hM : most mo ≤ 10000 := by unfold most; omega
 generalize most mo = M at h10 hk hM ⊢
 refine loop_inv (fun i st => ∃ (N : Nt) (S : List PV), st = ⟨S, [Nt.C N.bs N.g, [x0, x1, x2, x3, x4]]⟩ ∧ N.fits ∧ Nt.calmF M n0 = ((Nt.calmF (M - i) N).1, (Nt.calmF (M - i) N).2 + i) ∧ S.length = 37 ∧ rd S 1 = .d (.int .i64 mo) ∧ rd S 2 = .ptr 0 0 ∧ rd S 4 = .ptr 1 0 ∧ rd S 10 = .d (.int .i64 M) ∧ rd S 11 = .d (.int .i64 i)) _ M ?_ ?_ k 0 _ (by omega) (by omega) ⟨n0, S, rfl, h0, rfl, hS, h1, h2, h4, h10, h11⟩
 ·rintro i st hi ⟨N, S, rfl, hf, he, hS, h1, h2, h4, h10, h11⟩
  have hlt : (i : Int) < (M : Int) := by omega
  have hfew := hf.few
  have c1 := fun σ => f_still hf σ
  have hMi : M - i = (M - (i + 1)) + 1 := by omega
  rw [hMi] at he
  have hloop := fun X => l_netRound 10001 N hf X
  have hml : (N.bs.map ndsD).length = N.bs.length := by simp
  cases hs : N.Still
  ·have he' : Nt.calmF M n0 = ((Nt.calmF (M - (i + 1)) N.round).1, (Nt.calmF (M - (i + 1)) N.round).2 + (i + 1)) := by
    rw [he, Nt.calmF, hs, if_neg (by simp)]
    simp only
    congr 1
    omega
   have hfr := (fits_round hf).1
   rw [hs] at c1
   clear he
   simp only [Nt.C, Nt.P] at c1 hloop ⊢
   generalize hB0 : N.bs.map ndsD = a0 at c1 hloop hml ⊢
   generalize N.g.rs.map Rt.D = a1 at c1 hloop ⊢
   generalize N.g.out.map frsD = a3 at c1 hloop ⊢
   generalize N.g.lost.map intD = a4 at c1 hloop ⊢
   try simp at c1
   simp [theLoop, Tryz.f41, loopsAll, ec_loop, Lp_some, and_assoc, -rd, rd_ne, rd_eq, -loadS, -storeS, loadS_cons0, loadS_consS, storeS_cons0, storeS_consS, cellsOf, hS, h1, h2, h4, h10, h11, hlt, hml, c1, wrap_succ i (by omega)]
   generalize hLL : loopN _ _ _ = LL
   obtain ⟨r, rfl, S', rfl, hS', g1, g2, g4, g10, g11⟩ := at_loop hLL (hloop _ _ _ _ _ (by simp [hS]) (by simp [-rd, rd_ne, rd_eq, hS, h1]; rfl) (by simp [-rd, rd_ne, rd_eq, hS, h2]) (by simp [-rd, rd_ne, rd_eq, hS, h4]) (by simp [-rd, rd_ne, rd_eq, hS, h10]; rfl) (by simp [-rd, rd_ne, rd_eq, hS, h11]; rfl) (by simp [-rd, rd_ne, rd_eq, hS]) (by simp [-rd, rd_ne, rd_eq, hS]) 10001 (by omega))
   simp [Lp_some, and_assoc, -rd, rd_ne, rd_eq, hS', g1, g2, g4, g10, g11, wrap_succ i (by omega)]
   exact ⟨N.round, rfl, rfl, rfl, rfl, rfl, hfr, he'⟩
  ·have he' : Nt.calmF M n0 = (N, i) := by
    rw [he, calmF_of_still _ hs]
    simp
   rw [he']
   rw [hs] at c1
   clear he hloop
   simp only [Nt.C, Nt.P] at c1 ⊢
   generalize hB0 : N.bs.map ndsD = a0 at c1 hml ⊢
   generalize N.g.rs.map Rt.D = a1 at c1 ⊢
   generalize N.g.out.map frsD = a3 at c1 ⊢
   generalize N.g.lost.map intD = a4 at c1 ⊢
   try simp at c1
   simp [theLoop, Tryz.f41, loopsAll, ec_loop, Lp_some, and_assoc, -rd, rd_ne, rd_eq, -loadS, -storeS, loadS_cons0, loadS_consS, storeS_cons0, storeS_consS, cellsOf, hS, h1, h2, h4, h10, h11, hlt, hml, c1]
   refine ⟨_, ?_, ?_, ?_, ?_, rfl, ?_⟩ <;> simp [-rd, rd_ne, rd_eq, hS, h1, h2, h4]
 ·rintro st ⟨N, S, rfl, hf, he, hS, h1, h2, h4, h10, h11⟩
  have he' : Nt.calmF M n0 = (N, M) := by rw [he, Nat.sub_self]; simp [Nt.calmF]
  rw [he']
  generalize Nt.C N.bs N.g = B
  simp [theLoop, Tryz.f41, loopsAll, Lp_some, and_assoc, -rd, rd_ne, rd_eq, hS, h1, h2, h4, h10, h11]
  refine ⟨_, ?_, ?_, ?_, ?_, rfl⟩ <;> simp [-rd, rd_ne, rd_eq, hS, h1, h2, h4]
theorem b_netCalm (n : Nt) (h : n.fits) (mo : Int) (σ : Store) : callIt E1 (evI E1) 41 [n.P, .d (.int .i64 mo)] σ = some (.tup [(n.Calm mo).1.P, .d (.int .i64 (n.Calm mo).2)], σ) := by
 refine call_run (fn := Tryz.f41) 10001 rfl rfl rfl Tryz.func41 rfl rfl ?_ rfl
 have hloop := l_calm n h mo
 have hM : most mo ≤ 10000 := by unfold most; omega
 have hm : min (max mo 0) 10000 = (most mo : Int) := by unfold most; omega
 rw [Nt.P_C, Nt.P_C]
 simp only [Nt.C] at hloop ⊢
 generalize n.bs.map ndsD = a0 at hloop ⊢
 generalize n.g.rs.map Rt.D = a1 at hloop ⊢
 generalize n.g.out.map frsD = a3 at hloop ⊢
 generalize n.g.lost.map intD = a4 at hloop ⊢
 generalize n.Calm mo = R at hloop ⊢
 obtain ⟨N, c⟩ := R
 simp only at hloop ⊢
 generalize N.bs.map ndsD = b0 at hloop ⊢
 generalize N.g.rs.map Rt.D = b1 at hloop ⊢
 generalize N.g.out.map frsD = b3 at hloop ⊢
 generalize N.g.lost.map intD = b4 at hloop ⊢
 generalize most mo = M at hloop hM hm
 simp [Tryz.f41, ec_loop, -loadS, -storeS, loadS_cons0, loadS_consS, storeS_cons0, storeS_consS, cellsOf, hm]
 generalize hLL : loopN _ _ _ = LL
 obtain ⟨r, rfl, S, hS, h1, h2, h4, hr⟩ := at_loop hLL (hloop _ _ _ _ _ _ rfl rfl rfl rfl rfl rfl 10001 (by omega))
 rcases hr with ⟨rfl, hc⟩ | ⟨B0, rfl, h5⟩
 ·subst hc
  simp [-rd, rd_ne, rd_eq, -loadS, -storeS, loadS_cons0, loadS_consS, storeS_cons0, storeS_consS, hS, h1, h2, h4, hm, rd_el h4 (by omega)]
 ·simp [-rd, rd_ne, rd_eq, -loadS, -storeS, loadS_cons0, loadS_consS, storeS_cons0, storeS_consS, hS, h1, h2, h4, h5, rd_el h4 (by omega), rd_el h5 (by omega)]
end Go.Proofs

set_option maxRecDepth 100000
set_option maxHeartbeats 8000000
namespace Go.Proofs
open Go.RowKit Go.Shelf Go.Pv
def freshR (k : Int) : List Nd := List.replicate k.toNat own0
def freshL (many : List Int) : List (List Nd) := many.map freshR
theorem l_fr1 (m : Nat) (M : List (List DV)) (i : Nat) (n : Int) (hx : M[i]? = some [.int .i64 n]) (hn : n ≤ 1000) (v3 : PV) (S : List PV) (hS : S.length = 36) (h0 : rd S 0 = .d (.slice M)) (h3 : rd S 3 = v3) (h4 : rd S 4 = .d (.int .i64 i)) (h5 : rd S 5 = .e0) (h6 : rd S 6 = .d (.int .i64 0)) (J : Store) (k : Nat) (hk : n.toNat < k) :
  Lp (loopN (evCode E1 (evI E1) m (theLoop Tryz.f51 1)) k ⟨S, J⟩) fun r => ∃ (J : Store) (S' : List PV), r = (.exit 2, ⟨S', J⟩) ∧ S'.length = 36 ∧ rd S' 0 = .d (.slice M) ∧ rd S' 3 = v3 ∧ rd S' 4 = .d (.int .i64 i) ∧ rd S' 5 = acc ((freshR n).map Nd.D) := by
 obtain ⟨hi0, hx⟩ := List.getElem?_eq_some_iff.1 hx
 refine loop_inv (fun j st => ∃ (J : Store) (S : List PV), st = ⟨S, J⟩ ∧ S.length = 36 ∧ rd S 0 = .d (.slice M) ∧ rd S 3 = v3 ∧ rd S 4 = .d (.int .i64 i) ∧ rd S 5 = acc ((List.replicate j own0).map Nd.D) ∧ rd S 6 = .d (.int .i64 j)) _ n.toNat ?_ ?_ k 0 _ (by omega) (by omega) ⟨J, S, rfl, hS, h0, h3, h4, h5, h6⟩
 ·rintro j st hj ⟨J, S, rfl, hS, h0, h3, h4, h5, h6⟩
  have hlt : (j : Int) < n := by omega
  have hN := b_ndNew0
  have happ : evAppend Tryz.prog 22 (acc ((List.replicate j own0).map Nd.D)) (.d (.slice [own0.D])) = some (acc ((List.replicate (j + 1) own0).map Nd.D)) := by
   rw [appN _ _ (rowsOk_Nd _) rfl (by simp [roomB]; omega)]
   rw [List.replicate_succ', List.map_append]; rfl
  generalize (List.replicate (j + 1) own0).map Nd.D = A1 at happ ⊢
  generalize (List.replicate j own0).map Nd.D = A0 at happ h5
  simp [own0] at hN happ
  simp [theLoop, Tryz.f51, loopsAll, Lp_some, and_assoc, -rd, rd_ne, rd_eq, -loadS, -storeS, loadS_cons0, loadS_consS, storeS_cons0, storeS_consS, sfx_load0, sfx_load, sfx_store0, sfx_store, cellsOf, rowsFrom, hS, h0, h3, h4, h5, h6, hi0, hx, hlt, hN, happ, wrap_succ j (by omega)]
  done
 ·rintro st ⟨J, S, rfl, hS, h0, h3, h4, h5, h6⟩
  have hlt : ¬ ((n.toNat : Int) < n) := by omega
  unfold freshR
  generalize (List.replicate n.toNat own0).map Nd.D = A at h5 ⊢
  generalize n.toNat = j at h6 hlt
  simp [theLoop, Tryz.f51, loopsAll, Lp_some, and_assoc, -rd, rd_ne, rd_eq, hS, h0, h3, h4, h5, h6, hi0, hx, hlt]
  done
theorem l_fr0 (m : Nat) (hm : 1001 < m) (many : List Int) (hl : many.length ≤ 1000) (hs : ∀ n ∈ many, n ≤ 1000) (S : List PV) (hS : S.length = 36) (h0 : rd S 0 = .d (.slice (many.map intD))) (h3 : rd S 3 = .e0) (h4 : rd S 4 = .d (.int .i64 0)) (J : Store) (k : Nat) (hk : many.length < k) :
  Lp (loopN (evCode E1 (evI E1) m (theLoop Tryz.f51 0)) k ⟨S, J⟩) fun r => ∃ (J : Store) (S' : List PV), r = (.exit 0, ⟨S', J⟩) ∧ S'.length = 36 ∧ rd S' 3 = acc ((freshL many).map ndsD) := by
 have hml : (many.map intD).length = many.length := by simp
 refine loop_inv (fun i st => ∃ (J : Store) (S : List PV), st = ⟨S, J⟩ ∧ S.length = 36 ∧ rd S 0 = .d (.slice (many.map intD)) ∧ rd S 3 = acc ((freshL (many.take i)).map ndsD) ∧ rd S 4 = .d (.int .i64 i)) _ many.length ?_ ?_ k 0 _ (by omega) (by omega) ⟨J, S, rfl, hS, h0, h3, h4⟩
 ·rintro i st hi ⟨J, S, rfl, hS, h0, h3, h4⟩
  have hlt : (i : Int) < (many.length : Int) := by omega
  have hx : (many.map intD)[i]? = some [.int .i64 many[i]] := by simp [hi, intD]
  have hn := hs _ (List.getElem_mem hi)
  have hA : (freshL (many.take (i + 1))).map ndsD = (freshL (many.take i)).map ndsD ++ [ndsD (freshR many[i])] := by
   unfold freshL
   rw [List.take_add_one, List.getElem?_eq_getElem hi, List.map_append, List.map_append]
   rfl
  have happ : evAppend Tryz.prog 66 (acc ((freshL (many.take i)).map ndsD)) (.d (.slice [ndsD (freshR many[i])])) = some (acc ((freshL (many.take (i + 1))).map ndsD)) := by
   rw [appW _ _ (rowsOk_nds _) rfl (by simp [roomB, freshL]; omega), hA]
  have hloop := l_fr1 m (many.map intD) i many[i] hx hn
  generalize many[i] = n at hx hn happ hloop
  generalize (freshL (many.take (i + 1))).map ndsD = A1 at happ ⊢
  generalize (freshL (many.take i)).map ndsD = A0 at happ h3
  generalize many.map intD = M at hx hml h0 hloop ⊢
  simp only [ndsD] at happ
  generalize (freshR n).map Nd.D = F at happ hloop
  clear hA
  simp [theLoop, Tryz.f51, loopsAll, ec_loop, Lp_some, and_assoc, -rd, rd_ne, rd_eq, -loadS, -storeS, hS, h0, h3, h4, hml, hlt]
  generalize hLL : loopN _ _ _ = LL
  obtain ⟨r, rfl, J', S', rfl, hS', g0, g3, g4, g5⟩ := at_loop hLL (hloop _ _ (by simp [hS]) (by simp [-rd, rd_ne, rd_eq, hS, h0]) (by simp [-rd, rd_ne, rd_eq, hS, h3]; rfl) (by simp [-rd, rd_ne, rd_eq, hS, h4]) (by simp [-rd, rd_ne, rd_eq, hS]) (by simp [-rd, rd_ne, rd_eq, hS]) _ m (by omega))
  simp [Lp_some, and_assoc, -rd, rd_ne, rd_eq, cellsOf, rowsFrom, hS', g0, g3, g4, g5, happ, wrap_succ i (by omega)]
  done
 ·rintro st ⟨J, S, rfl, hS, h0, h3, h4⟩
  rw [List.take_length] at h3
  generalize (freshL many).map ndsD = A at h3 ⊢
  generalize many.map intD = M at hml h0 ⊢
  simp [theLoop, Tryz.f51, loopsAll, Lp_some, and_assoc, -rd, rd_ne, rd_eq, hS, h0, h3, h4, hml]
  done
theorem b_fresh (many : List Int) (hl : many.length ≤ 1000) (hs : ∀ n ∈ many, n ≤ 1000) (σ : Store) : callIt E1 (evI E1) 51 [.d (.slice (many.map intD))] σ = some (.d (.slice ((freshL many).map ndsD)), σ) := by
 refine call_runF (fn := Tryz.f51) 1002 rfl rfl rfl Tryz.func51 rfl rfl ?_
 have hloop := l_fr0 1002 (by omega) many hl hs
 generalize (freshL many).map ndsD = A at hloop ⊢
 generalize many.map intD = M at hloop ⊢
 simp [Tryz.f51, ec_loop, -loadS, -storeS]
 generalize hLL : loopN _ _ _ = LL
 obtain ⟨r, rfl, J, S, rfl, hS, g3⟩ := at_loop hLL (hloop _ rfl rfl rfl rfl _ 1002 (by omega))
 simp [-rd, rd_ne, rd_eq, hS, g3]
end Go.Proofs

set_option maxRecDepth 100000
set_option maxHeartbeats 8000000
namespace Go.Proofs
open Go.RowKit Go.Shelf Go.Pv
def c0 : Cn := ⟨0, 0, 1, 0⟩
end Go.Proofs

set_option maxRecDepth 100000
set_option maxHeartbeats 8000000
namespace Go.Proofs
open Go.RowKit Go.Shelf Go.Pv
def rt5 : Rt := ⟨0, 1, ⟨false, 2047, 5⟩, -1⟩
def gotN (f : Fr) : Nd := ⟨[], [], ⟨0, 0, 1, 0⟩, [f]⟩
def qN (f : Fr) : Nd := ⟨[f], [], ⟨0, 0, 1, 0⟩, []⟩
def netA : Nt := ⟨[[own0, own0, own0], [own0, own0]], ⟨[rt5], 3, [[], []], [0, 0]⟩⟩
def netB : Nt := ⟨[[own0, qN fr5, own0], [own0, own0]], ⟨[rt5], 3, [[], []], [0, 0]⟩⟩
def netC : Nt := ⟨[[gotN fr5, own0, own0], [gotN fr5, own0]], ⟨[rt5], 3, [[], []], [0, 0]⟩⟩
theorem hN_new : Nt.New [[own0, own0], [own0]] [rt5] 3 = (netA, 0) := by kernel_rfl
theorem hN_none : Nt.New [] [] 3 = (nt0, 1) := by kernel_rfl
theorem hN_send : netA.Send 0 1 fr5 = (netB, 0) := by kernel_rfl
theorem hN_send2 : netA.Send 0 2 fr5 = (netA, 1) := by kernel_rfl
theorem hN_calm : netB.Calm 9 = (netC, 1) := by kernel_rfl
theorem hN_stillC : netC.Still = true := by kernel_rfl
theorem hN_stillB : netB.Still = false := by kernel_rfl
theorem fr5_by : byOk fr5.data := by intro x hx; simp [fr5] at hx
theorem netA_fits : netA.fits := by
 have h := fits_new (l := [[own0, own0], [own0]]) (r := [rt5]) (room := 3) (by intro x hx n hn f hf; simp at hx; rcases hx with rfl | rfl <;> (simp at hn; subst hn; simp [own0] at hf)) (by rw [hN_new])
 rw [hN_new] at h
 exact h.1
theorem netB_fits : netB.fits := by
 have h := (fits_send netA_fits 0 1 fr5_by).1
 rw [hN_send] at h
 exact h
theorem netC_fits : netC.fits := by
 have h := (fits_calm netB_fits 9).1
 rw [hN_calm] at h
 exact h
/- The top layer's own question. -/
end Go.Proofs

set_option maxRecDepth 100000
set_option maxHeartbeats 8000000
namespace Go.Proofs
open Go.RowKit Go.Shelf Go.Pv
theorem small_own0 : own0.small := ⟨by simp [own0], by simp [own0], by simp [own0]⟩
theorem b_netHead (σ : Store) : callIt E1 (evI E1) 42 [] σ = some (.d (.bool true), σ) := by
 refine call_run (fn := Tryz.f42) 5 rfl rfl rfl Tryz.func42 rfl rfl ?_ rfl
 have e1 := fun σ => b_fresh [2, 1] (by simp) (by simp) σ
 have ef : freshL [2, 1] = [[own0, own0], [own0]] := rfl
 rw [ef] at e1
 have e2 := fun σ => b_netNew [[own0, own0], [own0]] [rt5] 3 (by intro x hx n hn; simp at hx; rcases hx with rfl | rfl <;> (simp at hn; subst hn; exact small_own0)) (by simp) σ
 have e3 := fun σ => b_netNew [] [] 3 (by simp) (by simp) σ
 have e4 := fun σ => b_netSend netA netA_fits.ok.1 0 1 fr5 σ
 have e5 := fun σ => b_netSend netA netA_fits.ok.1 0 2 fr5 σ
 have e6 := fun σ => b_netCalm netB netB_fits 9 σ
 have e7 := fun σ => f_still netB_fits σ
 have e8 := fun σ => f_still netC_fits σ
 rw [hN_new] at e2
 rw [hN_none] at e3
 rw [hN_send] at e4
 rw [hN_send2] at e5
 rw [hN_calm] at e6
 rw [hN_stillB] at e7
 rw [hN_stillC] at e8
 simp [netA, netB, netC, own0, gotN, qN, fr5, rt5, nt0, gt0, ndsD, frsD, intD] at e1 e2 e3 e4 e5 e6 e7 e8
 generalize hS0 : ([] : List PV) ++ List.replicate (Tryz.f42.ntmps - ([] : List PV).length) PV.undef = S
 have hS : S.length = 141 := by rw [← hS0]; rfl
 clear hS0
 simp (maxSteps := 3000000) [Tryz.f42, -rd, rd_ne, rd_eq, hS, -loadS, -storeS, loadS_cons0, loadS_consS, storeS_cons0, storeS_consS, cellsOf, rowsFrom, e1, e2, e3, e4, e5, e6, e7, e8]
 done
end Go.Proofs

set_option maxRecDepth 100000
set_option maxHeartbeats 8000000
namespace Go.Proofs
open Go.RowKit Go.Shelf Go.Pv
end Go.Proofs

set_option maxRecDepth 100000
set_option maxHeartbeats 4000000
namespace Go.Proofs
open Go.RowKit Go.Shelf Go.Pv
theorem Nd.wf_bytes {n : Nd} (h : n.wf) : ∀ f ∈ n.q, byOk f.data := by
 intro f hf x hx
 have := (h.1.2 f hf).2.2.2 x hx
 omega
theorem ok_NdD {d : Nat} {ds : List DV} (h : OkD Tryz.prog (d + 5) 49 ds) : ∃ n : Nd, ds = n.D ∧ n.wf := by
 rw [show d + 5 = (d + 4) + 1 from rfl] at h
 rw [OkD_succ] at h
 simp only [Tryz.underlying49, OkFs, Ty.c44, Ty.c45, Ty.c47] at h
 obtain ⟨h1, h2, h3, h4, h5⟩ := h
 obtain ⟨q, h1, w1⟩ := ok_Frs h1
 obtain ⟨_, rfl, k1⟩ := take1 h1
 rw [k1] at h2 h3 h4 h5
 obtain ⟨fs, h2, w2⟩ := ok_Fls (d := d + 1) h2
 obtain ⟨r2, rfl, k2⟩ := take1 h2
 rw [k2] at h3 h4 h5
 obtain ⟨c, h3, w3⟩ := ok_Cn (d := d + 2) h3
 have hr : r2 = [.int .i64 c.t, .int .i64 c.r, .int .i64 c.s, .int .i64 c.z] ++ r2.drop 4 := by rw [← h3]; exact (List.take_append_drop 4 r2).symm
 obtain ⟨g, h4, w4⟩ := ok_Frs h4
 obtain ⟨r3, hr3, k3⟩ := take1 h4
 rw [k3] at h5
 subst h5
 rw [hr3] at hr
 rw [hr]
 exact ⟨⟨q, fs, c, g⟩, by simp, w1, w2, w3, w4⟩
theorem ok_Nds {d : Nat} {ds : List DV} (h : OkD Tryz.prog (d + 6) 22 ds) : ∃ l : List Nd, ds = [.slice (l.map Nd.D)] ∧ bytesOk l ∧ ∀ n ∈ l, n.wf := by
 rw [show d + 6 = (d + 5) + 1 from rfl] at h
 rw [OkD_succ] at h
 simp only [Tryz.underlying22] at h
 obtain ⟨rows, rfl, h1, h2⟩ := h
 obtain ⟨l, rfl, hl⟩ := rows_map rows (fun r hr => ok_NdD (h2 r hr))
 exact ⟨l, rfl, fun n hn => Nd.wf_bytes (hl n hn), hl⟩
theorem ok_ints {d : Nat} {ds : List DV} (h : OkD Tryz.prog (d + 2) 39 ds) : ∃ l : List Int, ds = [.slice (l.map intD)] ∧ l.length ≤ maxLen ∧ ∀ x ∈ l, I64 x := by
 rw [show d + 2 = (d + 1) + 1 from rfl] at h
 rw [OkD_succ] at h
 simp only [Tryz.underlying39] at h
 obtain ⟨rows, rfl, h1, h2⟩ := h
 obtain ⟨l, rfl, hl⟩ := rows_map rows (fun r hr => ok_int (h2 r hr))
 exact ⟨l, rfl, by simpa using h1, hl⟩
theorem Ty.cints : Tryz.prog.cellsOf 39 = 1 := by kernel_rfl
end Go.Proofs

set_option maxRecDepth 100000
set_option maxHeartbeats 4000000
namespace Go.Proofs
open Go.RowKit Go.Shelf Go.Pv
def Rt.wf (r : Rt) : Prop := I64 r.a ∧ I64 r.b ∧ r.f.wf ∧ I64 r.n
theorem Fr.wf_by {f : Fr} (h : f.wf) : byOk f.data := fun x hx => by have := h.2.2.2 x hx; omega
theorem Ty.cN140 : Tryz.prog.cellsOf 140 = 3 := by kernel_rfl
theorem Ty.cN34 : Tryz.prog.cellsOf 34 = 5 := by kernel_rfl
theorem ok_u8 {d : Nat} {ds : List DV} (h : OkD Tryz.prog (d + 1) 5 ds) : ∃ b, ds = [.int .u8 b] ∧ 0 ≤ b ∧ b ≤ 255 := ok_by h
theorem ok_Rt {d : Nat} {ds : List DV} (h : OkD Tryz.prog (d + 3) 145 ds) : ∃ r : Rt, ds = r.D ∧ r.wf := by
 rw [show d + 3 = (d + 2) + 1 from rfl] at h
 rw [OkD_succ] at h
 simp only [Tryz.underlying145, OkFs, Ty.c3, Ty.cN140] at h
 obtain ⟨h1, h2, h3, h4, h5⟩ := h
 obtain ⟨a, h1, w1⟩ := ok_int h1
 obtain ⟨_, rfl, k1⟩ := take1 h1
 rw [k1] at h2 h3 h4 h5
 obtain ⟨b, h2, w2⟩ := ok_int h2
 obtain ⟨r2, rfl, k2⟩ := take1 h2
 rw [k2] at h3 h4 h5
 obtain ⟨f, h3, w3⟩ := ok_Fl (d := d) h3
 have hr : r2 = f.D ++ r2.drop 3 := by rw [← h3]; exact (List.take_append_drop 3 r2).symm
 obtain ⟨n, h4, w4⟩ := ok_int h4
 obtain ⟨r3, hr3, k3⟩ := take1 h4
 rw [k3] at h5
 subst h5
 rw [hr3] at hr
 rw [hr]
 exact ⟨⟨a, b, f, n⟩, rfl, w1, w2, w3, w4⟩
theorem ok_Rts {d : Nat} {ds : List DV} (h : OkD Tryz.prog (d + 4) 63 ds) : ∃ l : List Rt, ds = [.slice (l.map Rt.D)] ∧ l.length ≤ maxLen ∧ ∀ r ∈ l, r.wf := by
 rw [show d + 4 = (d + 3) + 1 from rfl] at h
 rw [OkD_succ] at h
 simp only [Tryz.underlying63] at h
 obtain ⟨rows, rfl, h1, h2⟩ := h
 obtain ⟨l, rfl, hl⟩ := rows_map rows (fun r hr => ok_Rt (h2 r hr))
 exact ⟨l, rfl, by simpa using h1, hl⟩
theorem ok_Ndss {d : Nat} {ds : List DV} (h : OkD Tryz.prog (d + 7) 66 ds) : ∃ l : List (List Nd), ds = [.slice (l.map ndsD)] ∧ ∀ x ∈ l, bytesOk x ∧ ∀ n ∈ x, n.wf := by
 rw [show d + 7 = (d + 6) + 1 from rfl] at h
 rw [OkD_succ] at h
 simp only [Tryz.underlying66] at h
 obtain ⟨rows, rfl, h1, h2⟩ := h
 obtain ⟨l, rfl, hl⟩ := rows_map (D := ndsD) (p := fun x => bytesOk x ∧ ∀ n ∈ x, n.wf) rows (fun r hr => by
  obtain ⟨x, hx, h3, h4⟩ := ok_Nds (h2 r hr)
  exact ⟨x, hx, h3, h4⟩)
 exact ⟨l, rfl, hl⟩
theorem arg_Ndss (l : List (List Nd)) : argP Tryz.prog 66 [.slice (l.map ndsD)] = .d (.slice (l.map ndsD)) := by simp [argP]
theorem arg_Rts (l : List Rt) : argP Tryz.prog 63 [.slice (l.map Rt.D)] = .d (.slice (l.map Rt.D)) := by simp [argP]
theorem arg_int (n : Int) : argP Tryz.prog 3 [.int .i64 n] = .d (.int .i64 n) := by simp [argP]
theorem Nd.wf_small {n : Nd} (h : n.great = false) : n.small := by
 have := Nd.great_len h
 exact ⟨by omega, by omega, by omega⟩
end Go.Proofs

set_option maxRecDepth 100000
set_option maxHeartbeats 8000000
namespace Go.Proofs
open Go.RowKit Go.Shelf Go.Pv
structure Act where
 d : Int
 b : Int
 n : Int
 f : Fr
 who : List Int
 m : Int
@[simp] def Act.D (a : Act) : List DV := [.int .u8 a.d, .int .i64 a.b, .int .i64 a.n, .bool a.f.e, .int .i64 a.f.id, .bool a.f.rm, .int .i64 a.f.ln, .slice (a.f.data.map byD), .slice (a.who.map intD), .int .i64 a.m]
@[simp] theorem rowsOk_Act (l : List Act) : rowsOk 10 (l.map Act.D) = true := rowsOk_map (D := Act.D) (fun _ => rfl) l
def Act.great (a : Act) : Bool := decide (30 < (a.who.length : Int)) || a.f.great || decide (30 < a.m)
def rowGreat (row : List Nd) : Bool := decide (20 < (row.length : Int)) || row.any Nd.great
def great14 (l : List (List Nd)) (r : List Rt) (a : List Act) : Bool := decide (10 < (l.length : Int)) || decide (40 < (r.length : Int)) || decide (30 < (a.length : Int)) || l.any rowGreat || a.any Act.great
theorem l_gr14i (m : Nat) (L : List (List DV)) (row : List Nd) (i : Nat) (hx : L[i]? = some (ndsD row)) (hrl : row.length ≤ 20) (S : List PV) (hS : S.length = 81) (v1 v2 : PV) (h0 : rd S 0 = .d (.slice L)) (h1 : rd S 1 = v1) (h2 : rd S 2 = v2) (h6 : rd S 6 = .d (.bool false)) (h7 : rd S 7 = .d (.int .i64 i)) (h8 : rd S 8 = .d (.int .i64 0)) (J : Store) (k : Nat) (hk : row.length < k) :
  Lp (loopN (evCode E1 (evI E1) m (theLoop Tryz.f43 1)) k ⟨S, J⟩) fun r => ∃ (J : Store) (S' : List PV), S'.length = 81 ∧ rd S' 0 = .d (.slice L) ∧ rd S' 1 = v1 ∧ rd S' 2 = v2 ∧ rd S' 7 = .d (.int .i64 i) ∧ ((r = (.exit 2, ⟨S', J⟩) ∧ rd S' 6 = .d (.bool false) ∧ row.any Nd.great = false) ∨ (r = (.ret, ⟨S', J⟩) ∧ rd S' 6 = .d (.bool true) ∧ row.any Nd.great = true)) := by
 obtain ⟨hi0, hx⟩ := List.getElem?_eq_some_iff.1 hx
 have hml : (row.map Nd.D).length = row.length := by simp
 refine loop_inv (fun j st => ∃ (J : Store) (S : List PV), st = ⟨S, J⟩ ∧ S.length = 81 ∧ (row.take j).any Nd.great = false ∧ rd S 0 = .d (.slice L) ∧ rd S 1 = v1 ∧ rd S 2 = v2 ∧ rd S 6 = .d (.bool false) ∧ rd S 7 = .d (.int .i64 i) ∧ rd S 8 = .d (.int .i64 j)) _ row.length ?_ ?_ k 0 _ (by omega) (by omega) ⟨J, S, rfl, hS, rfl, h0, h1, h2, h6, h7, h8⟩
 ·rintro j st hj ⟨J, S, rfl, hS, he, h0, h1, h2, h6, h7, h8⟩
  have hlt : (j : Int) < (row.length : Int) := by omega
  have htk := any_take (p := Nd.great) hj
  rw [he, Bool.false_or] at htk
  have hall := any_of (p := Nd.great) hj
  have hy : (row.map Nd.D)[j]? = some (row[j]).D := by simp [hj]
  have c1 := fun σ => b_great row[j] σ
  generalize (row.take (j + 1)).any Nd.great = z1 at htk ⊢
  generalize row.any Nd.great = z2 at hall ⊢
  generalize row[j] = x at htk hall hy c1
  generalize x.great = gr at htk hall c1
  obtain ⟨q, fs, ⟨ct, cr, cs, cz⟩, gg⟩ := x
  simp only [ndsD] at hx
  generalize row.map Nd.D = R at hx hml hy
  obtain ⟨hj0, hy⟩ := List.getElem?_eq_some_iff.1 hy
  simp only [Nd.D] at hy
  clear he
  try simp at c1
  cases gr
  ·subst htk
   clear hall
   simp [theLoop, Tryz.f43, loopsAll, Lp_some, and_assoc, -rd, rd_ne, rd_eq, -loadS, -storeS, hS, h0, h1, h2, h6, h7, h8, hi0, hx, hml, hj, hj0, hy, hlt, c1, wrap_succ j (by omega)]
   done
  ·have h2' := hall rfl
   clear htk hall
   subst h2'
   simp [theLoop, Tryz.f43, loopsAll, Lp_some, and_assoc, -rd, rd_ne, rd_eq, -loadS, -storeS, hS, h0, h1, h2, h6, h7, h8, hi0, hx, hml, hj, hj0, hy, hlt, c1]
   refine ⟨_, _, ?_, ?_, ?_, ?_, ?_, rfl, rfl, ?_⟩ <;> simp [-rd, rd_ne, rd_eq, hS, h0, h1, h2, h6, h7]
 ·rintro st ⟨J, S, rfl, hS, he, h0, h1, h2, h6, h7, h8⟩
  rw [List.take_length] at he
  generalize row.any Nd.great = z at he ⊢
  subst he
  simp only [ndsD] at hx
  generalize row.map Nd.D = R at hx hml
  simp [theLoop, Tryz.f43, loopsAll, Lp_some, and_assoc, -rd, rd_ne, rd_eq, hS, h0, h1, h2, h6, h7, h8, hi0, hx, hml]
  refine ⟨_, _, ?_, ?_, ?_, ?_, ?_, rfl, rfl, ?_⟩ <;> simp [-rd, rd_ne, rd_eq, hS, h0, h1, h2, h6, h7]
theorem l_gr14o (m : Nat) (l : List (List Nd)) (hl : l.length ≤ 10) (hm : 21 < m) (S : List PV) (hS : S.length = 81) (v1 v2 : PV) (h0 : rd S 0 = .d (.slice (l.map ndsD))) (h1 : rd S 1 = v1) (h2 : rd S 2 = v2) (h6 : rd S 6 = .d (.bool false)) (h7 : rd S 7 = .d (.int .i64 0)) (J : Store) (k : Nat) (hk : l.length < k) :
  Lp (loopN (evCode E1 (evI E1) m (theLoop Tryz.f43 0)) k ⟨S, J⟩) fun r => ∃ (J : Store) (S' : List PV), S'.length = 81 ∧ rd S' 2 = v2 ∧ ((r = (.exit 0, ⟨S', J⟩) ∧ rd S' 6 = .d (.bool false) ∧ l.any rowGreat = false) ∨ (r = (.ret, ⟨S', J⟩) ∧ rd S' 6 = .d (.bool true) ∧ l.any rowGreat = true)) := by
 have hml : (l.map ndsD).length = l.length := by simp
 refine loop_inv (fun i st => ∃ (J : Store) (S : List PV), st = ⟨S, J⟩ ∧ S.length = 81 ∧ (l.take i).any rowGreat = false ∧ rd S 0 = .d (.slice (l.map ndsD)) ∧ rd S 1 = v1 ∧ rd S 2 = v2 ∧ rd S 6 = .d (.bool false) ∧ rd S 7 = .d (.int .i64 i)) _ l.length ?_ ?_ k 0 _ (by omega) (by omega) ⟨J, S, rfl, hS, rfl, h0, h1, h2, h6, h7⟩
 ·rintro i st hi ⟨J, S, rfl, hS, he, h0, h1, h2, h6, h7⟩
  have hlt : (i : Int) < (l.length : Int) := by omega
  have htk := any_take (p := rowGreat) hi
  rw [he, Bool.false_or] at htk
  have hall := any_of (p := rowGreat) hi
  have hx : (l.map ndsD)[i]? = some (ndsD l[i]) := by simp [hi]
  generalize (l.take (i + 1)).any rowGreat = z1 at htk ⊢
  generalize l.any rowGreat = z2 at hall ⊢
  generalize l[i] = row at htk hall hx
  unfold rowGreat at htk hall
  have hloop := fun h => l_gr14i m (l.map ndsD) row i hx h
  generalize l.map ndsD = L at hx hml hloop h0 ⊢
  have hmr : (row.map Nd.D).length = row.length := by simp
  obtain ⟨hi0, hx⟩ := List.getElem?_eq_some_iff.1 hx
  simp only [ndsD] at hx
  generalize row.map Nd.D = R at hx hmr
  clear he
  by_cases hc : 20 < (row.length : Int)
  ·have h2' := hall (by simp [hc])
   clear htk hall hloop
   subst h2'
   simp [theLoop, Tryz.f43, loopsAll, ec_loop, Lp_some, and_assoc, -rd, rd_ne, rd_eq, -loadS, -storeS, hS, h0, h1, h2, h6, h7, hi, hi0, hx, hml, hmr, hlt, hc]
   refine ⟨_, _, ?_, ?_, rfl, rfl, ?_⟩ <;> simp [-rd, rd_ne, rd_eq, hS, h0, h1, h2, h6, h7]
  ·have hd : decide (20 < (row.length : Int)) = false := by simpa using hc
   rw [hd, Bool.false_or] at htk
   rw [hd, Bool.false_or] at hall
   have hloop := hloop (by omega)
   generalize row.any Nd.great = z at htk hall hloop
   simp [theLoop, Tryz.f43, loopsAll, ec_loop, Lp_some, and_assoc, -rd, rd_ne, rd_eq, -loadS, -storeS, hS, h0, h1, h2, h6, h7, hi, hi0, hx, hml, hmr, hlt, hc]
   generalize hLL : loopN _ _ _ = LL
   obtain ⟨r, rfl, J', S', hS', g0, g1, g2, g7, hr⟩ := at_loop hLL (hloop _ (by simp [hS]) _ _ (by simp [-rd, rd_ne, rd_eq, hS, h0]) (by simp [-rd, rd_ne, rd_eq, hS, h1]; rfl) (by simp [-rd, rd_ne, rd_eq, hS, h2]; rfl) (by simp [-rd, rd_ne, rd_eq, hS, h6]) (by simp [-rd, rd_ne, rd_eq, hS, h7]) (by simp [-rd, rd_ne, rd_eq, hS]) _ m (by omega))
   rcases hr with ⟨rfl, g6, rfl⟩ | ⟨rfl, g6, rfl⟩
   ·subst htk
    simp [Lp_some, and_assoc, -rd, rd_ne, rd_eq, hS', g0, g1, g2, g6, g7, wrap_succ i (by omega)]
    done
   ·have h2' := hall rfl
    subst h2'
    simp [Lp_some, and_assoc, -rd, rd_ne, rd_eq, hS', g0, g1, g2, g6, g7]
    refine ⟨_, _, ?_, ?_, rfl, rfl, ?_⟩ <;> simp [-rd, rd_ne, rd_eq, hS', g0, g1, g2, g6, g7]
 ·rintro st ⟨J, S, rfl, hS, he, h0, h1, h2, h6, h7⟩
  rw [List.take_length] at he
  generalize l.any rowGreat = z at he ⊢
  subst he
  generalize l.map ndsD = L at hml h0 ⊢
  simp [theLoop, Tryz.f43, loopsAll, Lp_some, and_assoc, -rd, rd_ne, rd_eq, hS, h0, h1, h2, h6, h7, hml]
  refine ⟨_, _, ?_, ?_, rfl, rfl, ?_⟩ <;> simp [-rd, rd_ne, rd_eq, hS, h0, h1, h2, h6, h7]
theorem l_gr14a (m : Nat) (l : List Act) (hl : l.length ≤ 30) (S : List PV) (hS : S.length = 81) (h2 : rd S 2 = .d (.slice (l.map Act.D))) (h6 : rd S 6 = .d (.bool false)) (h9 : rd S 9 = .d (.int .i64 0)) (J : Store) (k : Nat) (hk : l.length < k) :
  Lp (loopN (evCode E1 (evI E1) m (theLoop Tryz.f43 2)) k ⟨S, J⟩) fun r => ∃ (J : Store) (S' : List PV), S'.length = 81 ∧ ((r = (.exit 4, ⟨S', J⟩) ∧ l.any Act.great = false) ∨ (r = (.ret, ⟨S', J⟩) ∧ rd S' 6 = .d (.bool true) ∧ l.any Act.great = true)) := by
 have hml : (l.map Act.D).length = l.length := by simp
 refine loop_inv (fun i st => ∃ (J : Store) (S : List PV), st = ⟨S, J⟩ ∧ S.length = 81 ∧ (l.take i).any Act.great = false ∧ rd S 2 = .d (.slice (l.map Act.D)) ∧ rd S 6 = .d (.bool false) ∧ rd S 9 = .d (.int .i64 i)) _ l.length ?_ ?_ k 0 _ (by omega) (by omega) ⟨J, S, rfl, hS, rfl, h2, h6, h9⟩
 ·rintro i st hi ⟨J, S, rfl, hS, he, h2, h6, h9⟩
  have hlt : (i : Int) < (l.length : Int) := by omega
  have htk := any_take (p := Act.great) hi
  rw [he, Bool.false_or] at htk
  have hall := any_of (p := Act.great) hi
  have hx : (l.map Act.D)[i]? = some (l[i]).D := by simp [hi]
  generalize (l.take (i + 1)).any Act.great = z1 at htk ⊢
  generalize l.any Act.great = z2 at hall ⊢
  generalize l[i] = a at htk hall hx
  unfold Act.great at htk hall
  have c1 := fun σ => r_great a.f σ
  generalize a.f.great = gr at htk hall c1
  obtain ⟨d, b, n, ⟨e, id, rm, ln, data⟩, who, mm⟩ := a
  simp only [Act.D] at htk hall hx c1
  have hmw : (who.map intD).length = who.length := by simp
  generalize who.map intD = W at hx hmw
  generalize l.map Act.D = L at hx hml h2 ⊢
  obtain ⟨hi0, hx⟩ := List.getElem?_eq_some_iff.1 hx
  clear he
  try simp at c1
  by_cases hw : 30 < (who.length : Int)
  ·have h2' := hall (by simp [hw])
   clear htk hall
   subst h2'
   simp [theLoop, Tryz.f43, loopsAll, ec_loop, Lp_some, and_assoc, -rd, rd_ne, rd_eq, -loadS, -storeS, hS, h2, h6, h9, hi, hi0, hx, hml, hmw, hlt, hw]
   refine ⟨_, _, ?_, rfl, rfl, ?_⟩ <;> simp [-rd, rd_ne, rd_eq, hS, h2, h6, h9]
  ·have hd : decide (30 < (who.length : Int)) = false := by simpa using hw
   rw [hd, Bool.false_or] at htk hall
   cases gr
   ·rw [Bool.false_or] at htk hall
    by_cases hm : 30 < mm
    ·have h2' := hall (by simp [hm])
     clear htk hall
     subst h2'
     simp [theLoop, Tryz.f43, loopsAll, ec_loop, Lp_some, and_assoc, -rd, rd_ne, rd_eq, -loadS, -storeS, hS, h2, h6, h9, hi, hi0, hx, hml, hmw, hlt, hw, hm, c1]
     refine ⟨_, _, ?_, rfl, rfl, ?_⟩ <;> simp [-rd, rd_ne, rd_eq, hS, h2, h6, h9]
    ·have hdm : decide (30 < mm) = false := by simpa using hm
     rw [hdm] at htk
     clear hall
     subst htk
     simp [theLoop, Tryz.f43, loopsAll, ec_loop, Lp_some, and_assoc, -rd, rd_ne, rd_eq, -loadS, -storeS, hS, h2, h6, h9, hi, hi0, hx, hml, hmw, hlt, hw, hm, c1, wrap_succ i (by omega)]
     done
   ·have h2' := hall (by simp)
    clear htk hall
    subst h2'
    simp [theLoop, Tryz.f43, loopsAll, ec_loop, Lp_some, and_assoc, -rd, rd_ne, rd_eq, -loadS, -storeS, hS, h2, h6, h9, hi, hi0, hx, hml, hmw, hlt, hw, c1]
    refine ⟨_, _, ?_, rfl, rfl, ?_⟩ <;> simp [-rd, rd_ne, rd_eq, hS, h2, h6, h9]
 ·rintro st ⟨J, S, rfl, hS, he, h2, h6, h9⟩
  rw [List.take_length] at he
  generalize l.any Act.great = z at he ⊢
  subst he
  generalize l.map Act.D = L at hml h2 ⊢
  simp [theLoop, Tryz.f43, loopsAll, Lp_some, and_assoc, -rd, rd_ne, rd_eq, hS, h2, h6, h9, hml]
  refine ⟨_, _, ?_, rfl, rfl⟩ <;> simp [-rd, rd_ne, rd_eq, hS, h2, h6, h9]
theorem b_great14 (l : List (List Nd)) (r : List Rt) (a : List Act) (σ : Store) : callIt E1 (evI E1) 43 [.d (.slice (l.map ndsD)), .d (.slice (r.map Rt.D)), .d (.slice (a.map Act.D))] σ = some (.d (.bool (great14 l r a)), σ) := by
 refine call_run (fn := Tryz.f43) 100 rfl rfl rfl Tryz.func43 rfl rfl ?_ rfl
 unfold great14
 have hml : (l.map ndsD).length = l.length := by simp
 have hmr : (r.map Rt.D).length = r.length := by simp
 have hma : (a.map Act.D).length = a.length := by simp
 have hloop := fun h => l_gr14o 100 l h (by omega)
 have hloop2 := fun h => l_gr14a 100 a h
 generalize l.map ndsD = L at hml hloop ⊢
 generalize r.map Rt.D = R at hmr ⊢
 generalize a.map Act.D = A at hma hloop2 ⊢
 generalize l.any rowGreat = z1 at hloop ⊢
 generalize a.any Act.great = z2 at hloop2 ⊢
 by_cases h1 : 10 < (l.length : Int)
 ·simp [Tryz.f43, ec_loop, -loadS, -storeS, hml, hmr, hma, h1]
 ·by_cases h2 : 40 < (r.length : Int)
  ·simp [Tryz.f43, ec_loop, -loadS, -storeS, hml, hmr, hma, h1, h2]
  ·by_cases h3 : 30 < (a.length : Int)
   ·simp [Tryz.f43, ec_loop, -loadS, -storeS, hml, hmr, hma, h1, h2, h3]
   ·simp [Tryz.f43, ec_loop, -loadS, -storeS, hml, hmr, hma, h1, h2, h3]
    generalize hLL : loopN _ _ _ = LL
    obtain ⟨r', rfl, J', S', hS', g2, hr⟩ := at_loop hLL (hloop (by omega) _ rfl _ _ rfl rfl rfl rfl rfl _ 100 (by omega))
    rcases hr with ⟨rfl, g6, rfl⟩ | ⟨rfl, g6, rfl⟩
    ·simp at g2
     change rd S' 2 = _ at g2
     simp [-rd, rd_ne, rd_eq, hS', g2, g6, ec_loop]
     generalize hLL2 : loopN _ _ _ = LL2
     obtain ⟨r', rfl, J2, S2, hS2, hr⟩ := at_loop hLL2 (hloop2 (by omega) _ (by simp [hS']) (by simp [-rd, rd_ne, rd_eq, hS', g2]) (by simp [-rd, rd_ne, rd_eq, hS', g6]) (by simp [-rd, rd_ne, rd_eq, hS']) _ 100 (by omega))
     rcases hr with ⟨rfl, rfl⟩ | ⟨rfl, g6, rfl⟩
     ·simp [-rd, rd_ne, rd_eq, hS2]
     ·simp [-rd, rd_ne, rd_eq, hS2, g6, rd_el g6 (by omega)]
    ·simp [-rd, rd_ne, rd_eq, hS', g6, rd_el g6 (by omega)]
theorem great14_no {l : List (List Nd)} {r : List Rt} {a : List Act} (h : great14 l r a = false) : l.length ≤ 10 ∧ r.length ≤ 40 ∧ a.length ≤ 30 ∧ (∀ x ∈ l, x.length ≤ 20 ∧ ∀ n ∈ x, n.great = false) ∧ ∀ x ∈ a, x.who.length ≤ 30 ∧ x.f.data.length ≤ 100 ∧ x.m ≤ 30 := by
 unfold great14 at h
 simp only [Bool.or_eq_false_iff, decide_eq_false_iff_not, List.any_eq_false] at h
 obtain ⟨⟨⟨⟨h1, h2⟩, h3⟩, h4⟩, h5⟩ := h
 refine ⟨by omega, by omega, by omega, fun x hx => ?_, fun x hx => ?_⟩
 ·have := h4 x hx
  unfold rowGreat at this
  simp only [Bool.not_eq_true, Bool.or_eq_false_iff, decide_eq_false_iff_not, List.any_eq_false] at this
  exact ⟨by omega, fun n hn => this.2 n hn⟩
 ·have := h5 x hx
  unfold Act.great Fr.great at this
  simp only [Bool.not_eq_true, Bool.or_eq_false_iff, decide_eq_false_iff_not] at this
  omega
end Go.Proofs

set_option maxRecDepth 100000
set_option maxHeartbeats 4000000
namespace Go.Proofs
open Go.RowKit Go.Shelf Go.Pv
def Act.wf (a : Act) : Prop := (0 ≤ a.d ∧ a.d ≤ 255) ∧ I64 a.b ∧ I64 a.n ∧ a.f.wf ∧ a.who.length ≤ maxLen ∧ I64 a.m
theorem ok_Act {d : Nat} {ds : List DV} (h : OkD Tryz.prog (d + 4) 93 ds) : ∃ a : Act, ds = a.D ∧ a.wf := by
 rw [show d + 4 = (d + 3) + 1 from rfl] at h
 rw [OkD_succ] at h
 simp only [Tryz.underlying93, OkFs, Ty.c3, Ty.c5, Ty.cints, Ty.cN34] at h
 obtain ⟨h1, h2, h3, h4, h5, h6, h7⟩ := h
 obtain ⟨dd, h1, w1⟩ := ok_u8 h1
 obtain ⟨_, rfl, k1⟩ := take1 h1
 rw [k1] at h2 h3 h4 h5 h6 h7
 obtain ⟨b, h2, w2⟩ := ok_int h2
 obtain ⟨_, rfl, k2⟩ := take1 h2
 rw [k2] at h3 h4 h5 h6 h7
 obtain ⟨n, h3, w3⟩ := ok_int h3
 obtain ⟨r3, rfl, k3⟩ := take1 h3
 rw [k3] at h4 h5 h6 h7
 obtain ⟨f, h4, w4⟩ := ok_Fr h4
 have hr : r3 = f.D ++ r3.drop 5 := by rw [← h4]; exact (List.take_append_drop 5 r3).symm
 obtain ⟨who, h5, w5, _⟩ := ok_ints (d := d + 1) h5
 obtain ⟨r4, hr4, k4⟩ := take1 h5
 rw [k4] at h6 h7
 obtain ⟨m, h6, w6⟩ := ok_int h6
 obtain ⟨r5, hr5, k5⟩ := take1 h6
 rw [k5] at h7
 subst h7
 rw [hr4, hr5] at hr
 rw [hr]
 exact ⟨⟨dd, b, n, f, who, m⟩, rfl, w1, w2, w3, w4, w5, w6⟩
theorem ok_Acts {d : Nat} {ds : List DV} (h : OkD Tryz.prog (d + 5) 86 ds) : ∃ l : List Act, ds = [.slice (l.map Act.D)] ∧ ∀ a ∈ l, a.wf := by
 rw [show d + 5 = (d + 4) + 1 from rfl] at h
 rw [OkD_succ] at h
 simp only [Tryz.underlying86] at h
 obtain ⟨rows, rfl, h1, h2⟩ := h
 obtain ⟨l, rfl, hl⟩ := rows_map rows (fun r hr => ok_Act (h2 r hr))
 exact ⟨l, rfl, hl⟩
theorem arg_Acts (l : List Act) : argP Tryz.prog 86 [.slice (l.map Act.D)] = .d (.slice (l.map Act.D)) := by simp [argP]
end Go.Proofs

