/-
  umpireref.SameEvent of an event and itself; event.ValidObject and ObjectLine of a register that begins with 5 (the chapter's example).
-/
import Derived.Test.YtdinjplbbmhleaaDoorValid
import Derived.Test.YtdinjplbbmhleaaDoorApp
import Derived.Test.YtdinjplbbmhleaaDoorNumT
namespace Go.Proofs.YtdinjplbbmhleaaDoor
open Go.RowKit Go.Maps W
attribute [local go_sem ↓] Go.wp_at_zero Go.wp_at_succ

set_option maxHeartbeats 1000000 in
theorem sameEv (e : Ev) (w : World) : Calls Tryd.prog 46 #[.agg (evArr e), .agg (evArr e)] w fun r w' => r = .returned (.bool true) ∧ Below w.heap.size w w' := by
  have HB := hid (((Below.refl w.heap.size w).alloc (Nat.le_refl _) (.cells (evArr e) 62)).alloc (by simp) (.cells (evArr e) 62))
  unfold evArr at HB
  unfold evArr
  go_enter Tryd.func46, Tryd.ntmps46
  go_wp2
  go_ret
  exact ⟨rfl, HB.out⟩

theorem w11 : wordOf 1 1 = [114, 101, 103, 105, 115, 116, 101, 114] := by rfl
set_option maxHeartbeats 1000000 in
theorem validObj (w : World) (hL : LaidE w) : Calls Tryd.prog 92 #[.agg #[.int .i64 1, .int .i64 5]] w fun r w' => r = .returned .nilIface ∧ Below w.heap.size w w' := by
  have hb0 := (Below.refl w.heap.size w).alloc (Nat.le_refl _) (.cells #[.int .i64 1, .int .i64 5] 96)
  have hw := wordCall 1 1 (by decide) _ (hL.below hb0)
  rw [w11] at hw
  unfold str at hw
  have HW := hid hw
  have HB0 := hid hb0
  have HO := hid (Blk.new w 96 #[.int .i64 1, .int .i64 5])
  clear hw hb0 hL
  go_enter Tryd.func92, Tryd.ntmps92
  go_wp2_with fail
  refine HW.out.mono ?_
  rintro r w1 ⟨rfl, hb1⟩
  have HB1 := hid (HB0.out.trans (hb1.mono (by simp)))
  have HO1 := hid (HO.out.below hb1 (by simp))
  have c0 := HO1.out.cell 0
  have c1 := HO1.out.cell 1
  clear hb1 HW
  go_wp2_with fail
  go_ret
  exact ⟨rfl, HB1.out⟩

theorem itoa5p : Lib.itoa 5 = [53] := by
  unfold Lib.itoa
  rw [if_neg (by decide), Lib.decDigits, dif_pos (by decide)]
  rfl
/-- 'object register 5'. -/
def objText : List UInt8 := [111, 98, 106, 101, 99, 116, 32, 114, 101, 103, 105, 115, 116, 101, 114, 32, 53]
theorem objJoin : Lib.join [[111, 98, 106, 101, 99, 116], [114, 101, 103, 105, 115, 116, 101, 114], [53]] [32] = objText := by decide
set_option maxHeartbeats 2000000 in
theorem objLine (w : World) (hL : LaidE w) : Calls Tryd.prog 65 #[.agg #[.int .i64 1, .int .i64 5]] w fun r w' => r = .returned (.tuple #[str objText, .nilIface]) ∧ Below w.heap.size w w' := by
  obtain ⟨i0, hi, hz0, hz1, hz2⟩ := info_parts infoS
  have hb0 := (Below.refl w.heap.size w).alloc (Nat.le_refl _) (.cells #[.int .i64 1, .int .i64 5] 96)
  have HV := hid (validObj _ (hL.below hb0))
  have HB0 := hid hb0
  have HL := hid hL
  have HO := hid (Blk.new w 96 #[.int .i64 1, .int .i64 5])
  clear hb0 hL
  go_enter Tryd.func65, Tryd.ntmps65
  go_wp2_with fail
  refine HV.out.mono ?_
  rintro r w1 ⟨rfl, hb1⟩
  have HB1 := hid (HB0.out.trans (hb1.mono (by simp)))
  have HO1 := hid (HO.out.below hb1 (by simp))
  have c0 := HO1.out.cell 0
  have l1 := HO1.out.lt
  have hw := wordCall 1 1 (by decide) w1 (HL.out.below HB1.out)
  rw [w11] at hw
  unfold str at hw
  have HW := hid hw
  clear hb1 HV HO HB0 hw
  go_wp2_with fail
  refine HW.out.mono ?_
  rintro r w2 ⟨rfl, hb2⟩
  have HB2 := hid (HB1.out.trans (hb2.mono HB1.out.size))
  have HO2 := hid (HO1.out.below hb2 l1)
  have l2 := HO2.out.lt
  clear hb2 HW HO1 HB1 c0
  have c0 := HO2.out.cell 0
  have c1 := HO2.out.cell 1
  have HB3 := hid (HB2.out.alloc HB2.out.size (.cells #[str [111, 98, 106, 101, 99, 116], str [114, 101, 103, 105, 115, 116, 101, 114]] 9))
  have hp := printT 5 (by decide) (by decide) _ (HL.out.below HB3.out).tab
  rw [itoa5p] at hp
  have HP := hid hp
  have HR := hid (row_new (w := w2) (cs := #[str [111, 98, 106, 101, 99, 116], str [114, 101, 103, 105, 115, 116, 101, 114]]) (t := 9) (B := w.heap.size) (size := 1) (n := 2) rfl HB2.out.size (by unfold maxLen; omega))
  clear hp
  unfold str at HP
  go_wp2_with fail
  refine HP.out.mono ?_
  rintro r w3 ⟨rfl, hb3⟩
  have HB4 := hid (HB3.out.trans (hb3.mono HB3.out.size))
  have HR3 := hid (row_call HR.out hb3)
  clear hb3 HP HR HB3 HB2
  go_wp2_with (at_builtin; refine wpList_append_own _ rfl (.tmp 23) (.tmp 27) 22 rfl w.heap.size 9 i0 (.string .empty) 1 16 Tryd.underlying22 hi hz0 hz1 hz2 rfl (by decide) _ 2 _ rfl (HR3.out.alloc _) ⟨w3.heap.size, 0, none⟩ 1 1 [str [53]] rfl rfl (cell_one_new _ _ _) (by simp [str, Value.oneCell']) (by unfold maxLen; omega) (by omega) (by have := HB4.out.size; simp; omega) ?_; intro v4 w4 hown4 hgrow4 _)
  have HB5 := hid ((HB4.out.alloc HB4.out.size (.cells #[str [53]] 9)).grown hgrow4 (by have := HB4.out.size; simp; omega) (fun x hx => (row_own (HR3.out.alloc (.cells #[str [53]] 9)) hx).1))
  obtain ⟨A4, c4, rfl⟩ := row_shape hown4
  have hj := joinCall (.slice A4 3 c4) [[111, 98, 106, 101, 99, 116], [114, 101, 103, 105, 115, 116, 101, 114], [53]] w4 (reads_of_row hown4) (by simp) (by rw [objJoin]; simp [objText])
  rw [objJoin] at hj
  have HJ := hid hj
  clear hj hown4 hgrow4 c0 c1 hi hz0 hz1 hz2
  go_wp2_with fail
  refine HJ.out.mono ?_
  rintro r w5 ⟨rfl, hb5⟩
  have HB6 := hid (HB5.out.trans (hb5.mono HB5.out.size))
  clear hb5 HJ
  go_wp2_with fail
  go_ret2
  exact ⟨rfl, HB6.out⟩
end Go.Proofs.YtdinjplbbmhleaaDoor
