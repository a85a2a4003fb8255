/-
  shape.Table of a history that the automaton runs over.
-/
import Derived.Test.YtgfmlaflochffaaGreatDoorShTxsZ
namespace Go.Proofs.YtgfmlaflochffaaGreatDoor
open Go.RowKit Go.Maps W
attribute [local go_sem ↓] Go.wp_at_zero Go.wp_at_succ

def TabPost (w : World) (A : Au) (r : Ending) (w' : World) : Prop := ∃ v ps, r = .returned (.tuple #[v, .nilIface]) ∧ ps.map Prod.fst = A.sts ∧ (∀ p ∈ ps, ∃ a c, p.2 = .slice a p.1.deeds.length c) ∧ w'.ownsRow w.heap.size tTx 7 v A.sts.length (flatTx ps) ∧ Below w.heap.size w w'
theorem Runs.bnd {nc : Nat} {es : List Ev} {A : Au} (h : Runs nc es A) : AuB A ∧ A.many = es.length := by
  obtain ⟨f, h0, h1, h2⟩ := h
  rw [← h1]
  exact runs_bnd h0 h2 es.length (Nat.le_refl _)
set_option maxHeartbeats 4000000 in
set_option maxRecDepth 100000 in
theorem tableCall {B : Nat} {w : World} {vo vl : Value} {cs : List Int} {es : List Ev} {A : Au} (ho : w.ownsRow B tOb 2 vo cs.length (flatOb cs)) (hl : w.ownsRow B tEv 8 vl es.length (flatEv es)) (h0 : 0 < cs.length) (hc8 : cs.length ≤ 8) (he4 : es.length ≤ 400) (hcs : ∀ c ∈ cs, -1000000 ≤ c ∧ c ≤ 1000000) (hr : Runs cs.length es A) (hL : LaidE w) :
    Calls Tryz.prog 10 #[.agg #[vo, vl]] w fun r w' => TabPost w A r w' := by
  obtain ⟨Ao, co, rfl⟩ := row_shape ho
  obtain ⟨Al, cl, rfl⟩ := row_shape hl
  have hb0 := (Below.refl w.heap.size w).alloc (Nat.le_refl _) (.cells #[.slice Ao cs.length co, .slice Al es.length cl] tHi)
  have HB0 := hid hb0
  have HT := hid (takenCall (row_call ho hb0) (row_call hl hb0) h0 hc8 he4 hcs hr (hL.below hb0))
  have hbn := hr.bnd
  have HBN := hid hbn
  clear hb0 ho hl hcs hr hL hbn
  go_enter Tryz.func10, Tryz.ntmps10
  go_wp2_with fail
  refine HT.out.mono ?_
  rintro r w1 ⟨L, ab, vo', m1, m2, rfl, hsh, hLw, hb1⟩
  have HB1 := hid (HB0.out.trans (hb1.mono (by simp)))
  have HX := hid (txsCall hsh (by have h1 := HBN.out.1.len; have h2 := HBN.out.2; omega) (fun s hs => by have h1 := (HBN.out.1.each s hs).1; have h2 := HBN.out.2; omega))
  clear hsh hLw hb1 HT
  go_wp2_with fail
  refine HX.out.mono ?_
  rintro r w2 ⟨v, ps, rfl, hps, hds, hown, hb2⟩
  obtain ⟨Av, cv, rfl⟩ := row_shape hown
  have HPS := hid hps
  have HDS := hid hds
  have HOW := hid (row_base hown HB1.out.size)
  have HB2 := hid (HB1.out.trans (hb2.mono HB1.out.size))
  clear hps hds hown hb2
  go_wp2_with fail
  go_ret2
  exact ⟨_, ps, rfl, HPS.out, HDS.out, HOW.out, HB2.out⟩
end Go.Proofs.YtgfmlaflochffaaGreatDoor
