/-
  event.Read of the chapter's example '  try   3 '.
-/
import Derived.Test.YtdinjplbbmhleaaDoorFrom
import Derived.Test.YtdinjplbbmhleaaDoorEvLine
namespace Go.Proofs.YtdinjplbbmhleaaDoor
open Go.RowKit Go.Maps W
attribute [local go_sem ↓] Go.wp_at_zero Go.wp_at_succ

theorem itoa3p : Lib.itoa 3 = [51] := by
  unfold Lib.itoa
  rw [if_neg (by decide), Lib.decDigits, dif_pos (by decide)]
  rfl
theorem num3 : number [51] = some 3 := by
  have h := number_itoa 3 (by decide) (by decide)
  rw [itoa3p, if_pos (by decide)] at h
  exact h
theorem readT (w : World) (hL : LaidE w) : Calls Tryd.prog 91 #[.agg (fcells .T), .string ⟨#[51]⟩] w fun r w' => r = .returned (.tuple #[.int .i64 3, .nilIface]) ∧ Below w.heap.size w w' := by
  have hb0 := (Below.refl w.heap.size w).alloc (Nat.le_refl _) (.cells (fcells .T) 106)
  have HB0 := hid hb0
  have hn := numberT [51] (by simp) 3 num3 _ (hL.below hb0).tab
  have HN := hid hn
  clear hn hb0 hL
  unfold fcells at HN HB0
  unfold fcells
  go_enter Tryd.func91, Tryd.ntmps91
  go_wp2_with fail
  refine HN.out.mono ?_
  rintro r w1 ⟨rfl, hb1⟩
  have HB1 := hid (HB0.out.trans (hb1.mono (by simp)))
  clear hb1 HN
  go_wp2_with fail
  go_ret2
  exact ⟨rfl, HB1.out⟩
def evR (k : Nat) : Ev := ⟨4, if k = 0 then 0 else 3, 0, 0, 0, 0, 0, 0⟩
theorem words4 : W.words [32, 32, 116, 114, 121, 32, 32, 32, 51, 32] = [[116, 114, 121], [51]] := by decide
theorem code4 : codeOf 2 [116, 114, 121] = 4 := by decide

theorem evR_ok : (evR 1).Ok := by
  refine ⟨⟨by decide, by decide, by decide, by decide⟩, fun f hf => ?_, rfl⟩
  obtain rfl : f = .T := by simpa [Ev.fl, evR, flds] using hf
  unfold Ev.In
  decide

theorem lookKindS {L : Nat} {W : World} {b : Nat} {k : Int} (h : FieldsSince L W b) (hk : KindOk k) : ∃ v, NextS L W v k ∧ (Instr.lookup tMap (.map (some b)) (.int .i64 k) false).run Tryd.prog W = .ok v W := by
  obtain ⟨n, f, hm, hn⟩ := h
  exact ⟨f k, hn k, hm.look hk.1 hk.2⟩
set_option maxHeartbeats 8000000 in
set_option maxRecDepth 100000 in
theorem readLine (w : World) (hL : LaidE w) :
    Calls Tryd.prog 64 #[.string ⟨#[32, 32, 116, 114, 121, 32, 32, 32, 51, 32]⟩] w fun r w' => r = .returned (.tuple #[.agg (evArr (evR 1)), .nilIface]) ∧ Below w.heap.size w w' := by
  have HL := hid hL
  have HB0 := hid (Blk.new w 62 (evArr .zero))
  have HW0 := hid ((Below.refl w.heap.size w).alloc (Nat.le_refl _) (.cells (evArr .zero) 62))
  have hws := wordsCall [32, 32, 116, 114, 121, 32, 32, 32, 51, 32] (by simp) (w.alloc (.cells (evArr .zero) 62))
  rw [words4] at hws
  have HWS := hid hws
  clear hL hws
  unfold evArr Ev.zero at HWS HB0 HW0
  go_enter Tryd.func64, Tryd.ntmps64
  go_wp2_with fail
  refine HWS.out.mono ?_
  rintro r w1 ⟨A, rfl, hA, hown, hb1⟩
  have HB1 := hid (HB0.out.below hb1 (by simp))
  have HW1 := hid (HW0.out.trans (hb1.mono (by simp)))
  have HO1 := hid hown
  have a0 : w1.cell? ⟨A, 0, none⟩ = some (str [116, 114, 121]) := hown.cellAt 0 (by decide)
  have hc := codeCall 2 [116, 114, 121] w1 (HL.out.below HW1.out)
  rw [code4] at hc
  have HC := hid hc
  have l1 := HB1.out.lt
  clear hc hA hown hb1 HWS HB0 HW0
  unfold str at a0
  change w1.cell? ⟨A, 0, none⟩ = some (.string ⟨#[116, 114, 121]⟩) at a0
  go_wp2_with fail
  refine HC.out.mono ?_
  rintro r w2 ⟨rfl, hb2⟩
  have HB2 := hid (HB1.out.below hb2 l1)
  have HW2 := hid (HW1.out.trans (hb2.mono HW1.out.size))
  have HO2 := hid (row_call HO1.out hb2)
  have HBE := hid (Blk.new w2 62 (evArr (evR 0)))
  have HBW := hid ((Below.refl w2.heap.size w2).alloc (Nat.le_refl _) (.cells (evArr (evR 0)) 62))
  have l2 := HB2.out.lt
  clear hb2 HC a0 HB1 HW1 HO1
  have d4 : decide (codeOf 2 [116, 114, 121] ≠ 0) = true := by rw [code4]; rfl
  go_wp2_with fail
  refine (fieldsCallS _).mono ?_
  rintro r w3 ⟨bm, rfl, hF, hb3⟩
  obtain ⟨vn, hn, hlk⟩ := lookKindS (k := 4) hF ⟨by decide, by decide⟩
  unfold NextS at hn
  rw [if_pos (by decide)] at hn
  obtain ⟨F, c, rfl, hE, hC⟩ := hn
  rw [World.size_alloc] at hC
  have HC := hid hC
  have HE := hid hE
  have HBX := hid (HBE.out.below hb3 (by simp))
  have HW3 := hid (((Below.refl w2.heap.size w2).alloc (Nat.le_refl _) (.cells (evArr (evR 0)) 62)).trans (hb3.mono (by simp)))
  have l3e := HBX.out.lt
  clear hE hC hF hb3 HBE HBW
  go_wp2_with fail
  clear hlk
  go_loopw [4, 9] (fun sl si wr => ∃ k : Nat, sl = .slice (some ⟨A, 0, none⟩) 2 2 ∧ si = .int .i64 k ∧ k ≤ 1 ∧ Blk wr w2.heap.size 62 (evArr (evR k)) ∧ Below w2.heap.size w2 wr ∧ Since (w2.heap.size + 1) w3 wr) (fun _ si _ => 6 - (intOf si).toNat)
  case atStart => exact ⟨0, rfl, rfl, by omega, HBX.out, HW3.out, Since.of (Below.refl _ _)⟩
  case round =>
    obtain ⟨k, rfl, rfl, hk1, hev, hbr, hsi⟩ := hrel
    have HEV := hid hev
    have HBR := hid hbr
    have HSI := hid hsi
    have HWR := hid (HW2.out.trans (hbr.mono HW2.out.size))
    have lE := hev.lt
    have lR := hbr.size
    have k0 := HEV.out.cell 0
    have k1 := HEV.out.cell 1
    have k2 := HEV.out.cell 2
    have k3 := HEV.out.cell 3
    have k4 := HEV.out.cell 4
    have k5 := HEV.out.cell 5
    have k6 := HEV.out.cell 6
    have k7 := HEV.out.cell 7
    simp only [evArr] at k0 k1 k2 k3 k4 k5 k6 k7
    have hE := HE.out
    rcases (show k = 0 ∨ k = 1 by omega) with rfl | rfl
    · have hCk := HC.out (evR 0) 0 wr hsi rfl
      rw [show fat (evR 0).fl 0 = fcells .T from rfl, show decide (0 < (evR 0).fl.length) = true from rfl] at hCk
      unfold fcells evArr at hCk
      have HCk := hid hCk
      have HT := hid (fun g W => toCall .T g W)
      have hTE := fun args W => toEnters .T args W
      have HOR := hid (row_call HO2.out hbr)
      clear hev hbr hsi hCk hk1
      go_wp2_with fail
      refine HCk.out.mono ?_
      rintro r x3 ⟨rfl, hb3⟩
      have HB3 := hid hb3
      have HEV3 := hid (HEV.out.below hb3 lE)
      have HO3 := hid (row_call HOR.out hb3)
      have HW3' := hid (HWR.out.trans (hb3.mono HWR.out.size))
      have HX3 := hid (HW3'.out.alloc HW3'.out.size (.cells (fcells .T) 106))
      have HFB := hid (Blk.new x3 106 (fcells .T))
      have a1 : x3.cell? ⟨A, 1, none⟩ = some (.string ⟨#[51]⟩) := HO3.out.cellAt 1 (by decide)
      have lA := World.block_lt_of_cell? _ _ a1
      clear hb3 HCk k0 k1 k2 k3 k4 k5 k6 k7
      go_upto_region 16 with fail
      go_cut [12, 13] from 60 to 69 (fun s12 s13 wx => s12 = .int .i64 3 ∧ s13 = .nilIface ∧ Below (x3.heap.size + 1) (x3.alloc (.cells (fcells .T) 106)) wx)
      case first =>
        go_region_with (go_at_call 91; go_loud (refine (readT _ (HL.out.below HX3.out.drew)).mono ?_); rintro r x4 ⟨rfl, hb4⟩; have HB4 := hid ((Below.refl (x3.heap.size + 1) (x3.alloc (.cells (fcells .T) 106))).drew.trans (hb4.mono (by simp))); clear hb4)
        all_goals (go_wp2_with fail; go_meet)
        all_goals exact ⟨rfl, rfl, HB4.out⟩
      case rest =>
      obtain ⟨rfl, rfl, hb4⟩ := hcut
      have HB4 := hid hb4
      have HEV4 := hid (HEV3.out.alloc (.cells (fcells .T) 106) |>.below hb4 (by have := HEV3.out.lt; omega))
      have HFB4 := hid (HFB.out.below hb4 (by omega))
      have d0 := HFB4.out.cell 0
      simp only [fcells] at d0
      have lF4 := HFB4.out.lt
      have q0 := HEV4.out.cell (Fld.T).off
      rw [evArr_at] at q0
      have q1 := HEV4.out.frozen (Fld.T).off
      have l4 := HEV4.out.lt
      have ls3 := HB3.out.size
      have HBZ := hid (((HBR.out.trans (HB3.out.mono HBR.out.size)).alloc (by omega) (.cells (fcells .T) 106)).trans (hb4.mono (by omega)))
      have HSZ := hid (HSI.out.trans ((Since.of HB3.out).trans (Since.trans (Since.of ((Below.refl x3.heap.size x3).alloc (Nat.le_refl _) (.cells (fcells .T) 106))) (Since.of (by rw [World.size_alloc]; exact hb4)))))
      clear hb4 a1 lA
      go_wp2_with fail
      refine (HT.out _ _).mono ?_
      rintro r x5 ⟨rfl, rfl⟩
      go_wp2_with fail
      go_roundw
      case rel => exact ⟨1, rfl, by go_num, by omega, by rw [show evArr (evR 1) = evArr ((evR 0).put .T 3) from rfl, ← evArr_put]; exact HEV4.out.put _ _, HBZ.out.setCell (p := ⟨w2.heap.size, (Fld.T).off, none⟩) (Nat.le_refl _) _, HSZ.out.setCell (p := ⟨w2.heap.size, (Fld.T).off, none⟩) (by simp) _⟩
      case measure => simp [intOf] <;> omega
    · have hCk := HC.out (evR 1) 1 wr hsi rfl
      rw [show fat (evR 1).fl 1 = noField from rfl, show decide (1 < (evR 1).fl.length) = false from rfl] at hCk
      unfold noField evArr at hCk
      have HCk := hid hCk
      clear hev hbr hsi hCk hk1
      go_wp2_with fail
      refine HCk.out.mono ?_
      rintro r x3 ⟨rfl, hb3⟩
      have HW3' := hid (HWR.out.trans (hb3.mono HWR.out.size))
      have HX3 := hid (HW3'.out.alloc HW3'.out.size (.cells noField 106))
      have HEV3 := hid (HEV.out.below hb3 lE)
      have HBT3 := hid (HB2.out.below (HBR.out.trans (hb3.mono HBR.out.size)) l2)
      have hvd := validCall (evR 1) (x3.alloc (.cells noField 106)) (HL.out.below HX3.out) ⟨by decide, by decide⟩ (by decide)
      have HVD := hid hvd
      have l3 := HEV3.out.lt
      have l3b := HBT3.out.lt
      clear hb3 HCk k0 k1 k2 k3 k4 k5 k6 k7 hvd
      have k0 := HEV3.out.cell 0
      have k1 := HEV3.out.cell 1
      have k2 := HEV3.out.cell 2
      have k3 := HEV3.out.cell 3
      have k4 := HEV3.out.cell 4
      have k5 := HEV3.out.cell 5
      have k6 := HEV3.out.cell 6
      have k7 := HEV3.out.cell 7
      simp only [evArr] at k0 k1 k2 k3 k4 k5 k6 k7
      unfold noField evArr at HVD
      go_wp2_with fail
      refine HVD.out.mono ?_
      rintro r x4 ⟨v, rfl, hv, hb4⟩
      obtain rfl : v = .nilIface := by
        rcases hv with ⟨_, h⟩ | ⟨hno, _⟩
        · exact h
        · exact absurd evR_ok hno
      have HW4 := hid (HX3.out.trans (hb4.mono HX3.out.size))
      have HEV4 := hid ((HEV3.out.alloc (.cells noField 106)).below hb4 (by simp; omega))
      have HBT4 := hid ((HBT3.out.alloc (.cells noField 106)).below hb4 (by simp; omega))
      have l4 := HEV4.out.lt
      have l4b := HBT4.out.lt
      clear k0 k1 k2 k3 k4 k5 k6 k7 hb4 hv
      have k0 := HEV4.out.cell 0
      have k1 := HEV4.out.cell 1
      have k2 := HEV4.out.cell 2
      have k3 := HEV4.out.cell 3
      have k4 := HEV4.out.cell 4
      have k5 := HEV4.out.cell 5
      have k6 := HEV4.out.cell 6
      have k7 := HEV4.out.cell 7
      have p0 := HBT4.out.cell 0
      have p1 := HBT4.out.cell 1
      have p2 := HBT4.out.cell 2
      have p3 := HBT4.out.cell 3
      have p4 := HBT4.out.cell 4
      have p5 := HBT4.out.cell 5
      have p6 := HBT4.out.cell 6
      have p7 := HBT4.out.cell 7
      have z0 := HBT4.out.frozen 0
      have z1 := HBT4.out.frozen 1
      have z2 := HBT4.out.frozen 2
      have z3 := HBT4.out.frozen 3
      have z4 := HBT4.out.frozen 4
      have z5 := HBT4.out.frozen 5
      have z6 := HBT4.out.frozen 6
      have z7 := HBT4.out.frozen 7
      simp only [evArr] at k0 k1 k2 k3 k4 k5 k6 k7 p0 p1 p2 p3 p4 p5 p6 p7
      go_wp2_with fail
      exact bodyPost_ret (res2E _ rfl _ _ _ _ _ _ _ _ _ _ _ _ rfl rfl (HBT4.out.put8 _ _ _ _ _ _ _ _)) rfl ⟨rfl, below_put8 HW4.out (Nat.le_refl _) _ _ _ _ _ _ _ _⟩
end Go.Proofs.YtdinjplbbmhleaaDoor
