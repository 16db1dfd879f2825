/- A slot of a net, by the code. -/
import Derived.Test.YtnnindnmpfmaaaaGreatPd
import Derived.Test.YtnnindnmpfmaaaaGreatOf2
set_option linter.unusedVariables false
set_option linter.unusedSimpArgs false
set_option maxRecDepth 100000
set_option maxHeartbeats 8000000
namespace Go.Proofs
open Go.RowKit Go.Shelf Go.Pv

/-- What the gateway's own node does ahead of a slot: it may send what waits for this bus. -/
def relays (g : Gt) (k : Nat) (own : Nd) : Bool := (g.Next k).2 && ((own.q.length : Int) == 0) && (own.c.s != 3)
def ownOf (g : Gt) (k : Nat) (own : Nd) : Nd := if relays g k own then (own.Send (g.Next k).1).1 else own
def gateOf (g : Gt) (k : Nat) (own : Nd) : Gt := if relays g k own then g.Done k else g
/-- Behind the slot: what the own node has sent is told to the gateway. -/
def heardOf (g : Gt) (k : Nat) (own x : Nd) : Gt := if decide (0 < own.q.length) && ((x.q.length : Int) == 0) then g.In k (own.q.headD fr0) else g

theorem b_netSlotNo (bs : List (List Nd)) (g : Gt) (hok : g.ok) (k : Nat) (hk : k < bs.length) (hbs : bs.length ≤ 1000) (row : List Nd) (hrow : bs[k] = row) (a : Nat) (ha : row.length = a + 1) (hl : row.length ≤ 1000) (own : Nd) (hown : row[a]'(by omega) = own) (hq : own.q = [] ∨ own.q ≠ [])
    (who : List Int) (R : List Nd) (t : Td) (hRl : R.length = a + 1) (x : Nd) (hx : R[a]'(by omega) = x) (hxg : x.g.length ≤ 1000) (hno : relays g k own = false)
    (hslot : ∀ σ, callIt E1 (evI E1) 24 [.d (.slice (row.map Nd.D)), .agg [.d (.slice (who.map intD))]] σ = some (.tup [.d (.slice (R.map Nd.D)), t.P], σ)) (σ : Store) :
    callIt E1 (evI E1) 39 [(Nt.mk bs g).P, .d (.int .i64 k), .agg [.d (.slice (who.map intD))]] σ = some (.tup [(Nt.mk (bs.set k (R.set a { x with g := [] })) ((heardOf g k own x).Ins k x.g)).P, t.P], σ) := by
  refine call_run (fn := Tryz.f39) 1001 rfl rfl rfl Tryz.func39 rfl rfl ?_ rfl
  have haR : a < R.length := by omega
  have c1 := fun σ => b_gNext g k σ
  have hI := Gt.In_ok hok k (own.q.headD fr0)
  have c2 := fun σ => b_gIn g hok k (own.q.headD fr0) σ
  have hloop := fun m g (hg : Gt.ok g) b2 b3 b4 J => l_slot m bs g hg k b2 b3 b4 R a J haR (by omega) (by rw [hx]; exact hxg)
  rw [hx] at hloop
  have c3 := fun σ => b_withR bs k hk (by omega) (R.set a { x with g := [] }) σ
  have hw1 : IntKind.i64.wrap ((row.length : Int) - 1) = (a : Int) := by rw [wrap_ok (by omega) (by omega)]; omega
  have hbk : (bs.map ndsD)[k]? = some (ndsD row) := by simp [hk, hrow]
  have hra : (row.map Nd.D)[a]? = some (Nd.D own) := by simp [ha, hown]
  have hRa : (R.map Nd.D)[a]? = some (Nd.D x) := by simp [haR, hx]
  have hml : (bs.map ndsD).length = bs.length := by simp
  have hmr : (row.map Nd.D).length = row.length := by simp
  have hmR : (R.map Nd.D).length = a + 1 := by simp [hRl]
  unfold relays at hno
  unfold heardOf
  have har : a < row.length := by omega
  unfold SlS Nt.C at hloop
  obtain ⟨q, fs, ⟨ct, cr, cs, cz⟩, gg⟩ := own
  obtain ⟨tw, tf, tb, tz⟩ := t
  generalize hnx : g.Next k = nx at c1 hno
  obtain ⟨nf, ni⟩ := nx
  simp only at c1 hno
  have hc4 := fun g' : Gt => c3
  generalize hB2 : (bs.set k (R.set a { x with g := [] })).map ndsD = B2 at c3
  simp only [Nt.P, hB2]
  generalize hR2 : (R.set a { x with g := [] }).map Nd.D = R2 at c3 hloop
  generalize hB : bs.map ndsD = B at hbk hml c3 hloop ⊢
  simp only [ndsD] at hbk
  generalize row.map Nd.D = RW at hbk hra hmr hslot
  generalize who.map intD = W at hslot ⊢
  simp only [Nd.D] at hra
  generalize R.map Nd.D = RR at hRa hmR hslot hloop
  obtain ⟨hk0, hbk⟩ := List.getElem?_eq_some_iff.1 hbk
  obtain ⟨ha0, hra⟩ := List.getElem?_eq_some_iff.1 hra
  obtain ⟨hR0, hRa⟩ := List.getElem?_eq_some_iff.1 hRa
  simp only [Nd.D] at hRa
  simp at hslot c3 c1
  have haR' : a < a + 1 := by omega
  have har' : a < row.length := har
  cases q with
  | nil =>
    simp only [List.length_nil, Nat.lt_irrefl, decide_false, Bool.false_and, Bool.false_eq_true, if_false]
    cases ni
    · clear c2 hno
      simp [Tryz.f39, ec_loop, -loadS, -storeS, loadS_cons0, loadS_consS, storeS_cons0, storeS_consS, sfx_load0, sfx_load, sfx_store0, sfx_store, cellsOf, hml, hmr, hmR, hw1, hbk, hk0, hra, ha0, hRa, hR0, hk, haR, har, haR', har', c1, hslot]
      generalize hLL : loopN _ _ _ = LL
      obtain ⟨r, rfl, S, rfl, hS, h3', h4', h6', h7', h8', h13'⟩ := at_loop hLL (hloop _ g hok _ _ _ _ _ rfl rfl rfl rfl rfl rfl _ rfl rfl 1001 (by omega))
      simp at h13'
      change rd S 13 = _ at h13'
      simp [-rd, rd_ne, rd_eq, -loadS, -storeS, loadS_cons0, loadS_consS, storeS_cons0, storeS_consS, hS, h3', h4', h6', h7', h8', h13', hk, c3, rd_el h6' (by omega), rd_el h7' (by omega)]
      done
    · have h3 : (cs != 3) = false := by simpa using hno
      clear c2 hno
      simp [Tryz.f39, ec_loop, -loadS, -storeS, loadS_cons0, loadS_consS, storeS_cons0, storeS_consS, sfx_load0, sfx_load, sfx_store0, sfx_store, cellsOf, hml, hmr, hmR, hw1, hbk, hk0, hra, ha0, hRa, hR0, hk, haR, har, haR', har', c1, hslot, h3]
      generalize hLL : loopN _ _ _ = LL
      obtain ⟨r, rfl, S, rfl, hS, h3', h4', h6', h7', h8', h13'⟩ := at_loop hLL (hloop _ g hok _ _ _ _ _ rfl rfl rfl rfl rfl rfl _ rfl rfl 1001 (by omega))
      simp at h13'
      change rd S 13 = _ at h13'
      simp [-rd, rd_ne, rd_eq, -loadS, -storeS, loadS_cons0, loadS_consS, storeS_cons0, storeS_consS, hS, h3', h4', h6', h7', h8', h13', hk, c3, rd_el h6' (by omega), rd_el h7' (by omega)]
      done
  | cons f qs =>
    have hqz : (((f :: qs).length : Int) == 0) = false := by simp; omega
    have hqz2 : (((qs.length : Int) + 1) == 0) = false := by simp; omega
    have hqp : decide (0 < (f :: qs).length) = true := by simp
    simp only [List.headD_cons] at c2 hI ⊢
    rw [hqp]
    cases hxq : ((x.q.length : Int) == 0)
    · simp only [Bool.and_false, Bool.false_eq_true, if_false]
      cases ni
      · clear c2 hno
        simp (maxSteps := 2000000) [Tryz.f39, ec_loop, -loadS, -storeS, loadS_cons0, loadS_consS, storeS_cons0, storeS_consS, sfx_load0, sfx_load, sfx_store0, sfx_store, cellsOf, hml, hmr, hmR, hw1, hbk, hk0, hra, ha0, hRa, hR0, hk, haR, har, haR', har', c1, hqz, hqz2, hslot, hxq]
        generalize hLL : loopN _ _ _ = LL
        obtain ⟨r, rfl, S, rfl, hS, h3', h4', h6', h7', h8', h13'⟩ := at_loop hLL (hloop _ g hok _ _ _ _ _ rfl rfl rfl rfl rfl rfl _ rfl rfl 1001 (by omega))
        simp at h13'
        change rd S 13 = _ at h13'
        simp [-rd, rd_ne, rd_eq, -loadS, -storeS, loadS_cons0, loadS_consS, storeS_cons0, storeS_consS, hS, h3', h4', h6', h7', h8', h13', hk, c3, rd_el h6' (by omega), rd_el h7' (by omega)]
        done
      · clear c2 hno
        simp (maxSteps := 2000000) [Tryz.f39, ec_loop, -loadS, -storeS, loadS_cons0, loadS_consS, storeS_cons0, storeS_consS, sfx_load0, sfx_load, sfx_store0, sfx_store, cellsOf, hml, hmr, hmR, hw1, hbk, hk0, hra, ha0, hRa, hR0, hk, haR, har, haR', har', c1, hqz, hqz2, hslot, hxq]
        generalize hLL : loopN _ _ _ = LL
        obtain ⟨r, rfl, S, rfl, hS, h3', h4', h6', h7', h8', h13'⟩ := at_loop hLL (hloop _ g hok _ _ _ _ _ rfl rfl rfl rfl rfl rfl _ rfl rfl 1001 (by omega))
        simp at h13'
        change rd S 13 = _ at h13'
        simp [-rd, rd_ne, rd_eq, -loadS, -storeS, loadS_cons0, loadS_consS, storeS_cons0, storeS_consS, hS, h3', h4', h6', h7', h8', h13', hk, c3, rd_el h6' (by omega), rd_el h7' (by omega)]
        done
    · simp only [Bool.and_true, if_true]
      simp at c2
      cases ni
      · clear hno
        simp (maxSteps := 2000000) [Tryz.f39, ec_loop, -loadS, -storeS, loadS_cons0, loadS_consS, storeS_cons0, storeS_consS, sfx_load0, sfx_load, sfx_store0, sfx_store, cellsOf, hml, hmr, hmR, hw1, hbk, hk0, hra, ha0, hRa, hR0, hk, haR, har, haR', har', c1, hqz, hqz2, hslot, hxq, c2]
        generalize hLL : loopN _ _ _ = LL
        obtain ⟨r, rfl, S, rfl, hS, h3', h4', h6', h7', h8', h13'⟩ := at_loop hLL (hloop _ (g.In k f) hI.1 _ _ _ _ _ rfl rfl rfl rfl rfl rfl _ rfl rfl 1001 (by omega))
        simp at h13'
        change rd S 13 = _ at h13'
        simp [-rd, rd_ne, rd_eq, -loadS, -storeS, loadS_cons0, loadS_consS, storeS_cons0, storeS_consS, hS, h3', h4', h6', h7', h8', h13', hk, c3, rd_el h6' (by omega), rd_el h7' (by omega)]
        done
      · clear hno
        simp (maxSteps := 2000000) [Tryz.f39, ec_loop, -loadS, -storeS, loadS_cons0, loadS_consS, storeS_cons0, storeS_consS, sfx_load0, sfx_load, sfx_store0, sfx_store, cellsOf, hml, hmr, hmR, hw1, hbk, hk0, hra, ha0, hRa, hR0, hk, haR, har, haR', har', c1, hqz, hqz2, hslot, hxq, c2]
        generalize hLL : loopN _ _ _ = LL
        obtain ⟨r, rfl, S, rfl, hS, h3', h4', h6', h7', h8', h13'⟩ := at_loop hLL (hloop _ (g.In k f) hI.1 _ _ _ _ _ rfl rfl rfl rfl rfl rfl _ rfl rfl 1001 (by omega))
        simp at h13'
        change rd S 13 = _ at h13'
        simp [-rd, rd_ne, rd_eq, -loadS, -storeS, loadS_cons0, loadS_consS, storeS_cons0, storeS_consS, hS, h3', h4', h6', h7', h8', h13', hk, c3, rd_el h6' (by omega), rd_el h7' (by omega)]
        done
end Go.Proofs

