/-
  The chapter's examples (umpirelaw2.first): true, in every memory in which the package variables hold what their texts lay.
-/
import Derived.Test.YtdinjplbbmhleaaDoorEvRead
import Derived.Test.YtdinjplbbmhleaaDoorObj
namespace Go.Proofs.YtdinjplbbmhleaaDoor
open Go.RowKit Go.Maps W
attribute [local go_sem ↓] Go.wp_at_zero Go.wp_at_succ

/-- call 3 0 put 7 -5. -/
def evF : Ev := ⟨2, 3, 0, 0, 7, 7, -5, 0⟩
theorem evF_ok : evF.Ok := by
  refine ⟨⟨by decide, by decide, by decide, by decide⟩, fun f hf => ?_, rfl⟩
  have hf2 : f ∈ [Fld.T, .O, .P, .K, .V] := hf
  unfold Ev.In
  simp only [List.mem_cons, List.not_mem_nil, or_false] at hf2
  rcases hf2 with rfl | rfl | rfl | rfl | rfl <;> decide
theorem itoa0p : Lib.itoa 0 = [48] := by
  unfold Lib.itoa
  rw [if_neg (by decide), Lib.decDigits, dif_pos (by decide)]
  rfl
def lineText : List UInt8 := [99, 97, 108, 108, 32, 51, 32, 48, 32, 112, 117, 116, 32, 55, 32, 45, 53]
theorem lineF : Lib.join (lineW evF evF.fl.length) [32] = lineText := by
  have h : lineW evF evF.fl.length = [wordOf 2 2, Lib.itoa 3, Lib.itoa 0, wordOf 3 7, Lib.itoa 7, Lib.itoa (-5)] := rfl
  rw [h, itoa3p, itoa0p, itoa7', itoa5]
  decide
theorem bytesF : evF.bytes = [4, 6, 0, 14, 14, 9] := by
  have h : evF.bytes = vb (zig 2) ++ (vb (zig 3) ++ (vb (zig 0) ++ (vb (zig 7) ++ (vb (zig 7) ++ (vb (zig (-5)) ++ []))))) := rfl
  rw [h, show zig 2 = 4 from rfl, show zig 3 = 6 from rfl, show zig 0 = 0 from rfl, show zig 7 = 14 from rfl, show zig (-5) = 9 from rfl, vb_small (u := 4) (by decide), vb_small (u := 6) (by decide), vb_small (u := 0) (by decide), vb_small (u := 14) (by decide), vb_small (u := 9) (by decide)]
  rfl
theorem w64 : wordOf 6 4 = [111, 112, 97, 113, 117, 101] := by rfl

set_option maxHeartbeats 8000000 in
set_option maxRecDepth 100000 in
theorem first2 (w : World) (hL : LaidE w) : Calls Tryd.prog 30 #[] w fun e w' => e = .returned (.bool true) ∧ Below w.heap.size w w' := by
  have HL := hid hL
  have HB0 := hid (Blk.new w 62 (evArr evF))
  have HW0 := hid ((Below.refl w.heap.size w).alloc (Nat.le_refl _) (.cells (evArr evF) 62))
  have hln := lineCall evF _ (hL.below HW0.out) evF_ok (by decide)
  rw [lineF] at hln
  have HLN := hid hln
  clear hln hL
  unfold evArr evF at HLN HB0 HW0
  unfold str lineText at HLN
  go_enter Tryd.func30, Tryd.ntmps30
  go_wp2_with fail
  refine HLN.out.mono ?_
  rintro r w1 ⟨rfl, hb1⟩
  have HB1 := hid (HB0.out.below hb1 (by simp))
  have HW1 := hid (HW0.out.trans (hb1.mono (by simp)))
  have HBY := hid (bytesCall evF w1 (HL.out.below HW1.out) ⟨by decide, by decide⟩ (by decide))
  have l1 := HB1.out.lt
  have k0 := HB1.out.cell 0
  have k1 := HB1.out.cell 1
  have k2 := HB1.out.cell 2
  have k3 := HB1.out.cell 3
  have k4 := HB1.out.cell 4
  have k5 := HB1.out.cell 5
  have k6 := HB1.out.cell 6
  have k7 := HB1.out.cell 7
  clear hb1 HLN HB0 HW0
  unfold evArr evF at HBY
  go_wp2_with fail
  refine HBY.out.mono ?_
  rintro r w2 ⟨x, v, rfl, hv, hx, ⟨A, n, cc, rfl⟩, hb2⟩
  obtain rfl : v = .nilIface := by
    rcases hv with ⟨_, h⟩ | ⟨hno, _⟩
    · exact h
    · exact absurd evF_ok hno
  have hown := hx evF_ok
  have HO2 := hid hown
  have HW2 := hid (HW1.out.trans (hb2.mono HW1.out.size))
  have HRD := hid (readLine w2 (HL.out.below HW2.out))
  clear hv hx hown hb2 HBY k0 k1 k2 k3 k4 k5 k6 k7 HB1
  unfold evArr evR at HRD
  simp only [Nat.one_ne_zero, if_false] at HRD
  go_wp2_with fail
  refine HRD.out.mono ?_
  rintro r w3 ⟨rfl, hb3⟩
  have HW3 := hid (HW2.out.trans (hb3.mono HW2.out.size))
  have HO3 := hid (row_call HO2.out hb3)
  have HE3 := hid (Blk.new w3 62 (evArr (evR 1)))
  have HX3 := hid (HW3.out.alloc HW3.out.size (.cells (evArr (evR 1)) 62))
  clear hb3 HRD HO2
  have hr := reads_block (heap_alloc_new (w3.alloc (.cells (evArr (evR 1)) 62)) (.cells #[.int .u8 4, .int .u8 6, .int .u8 0, .int .u8 14, .int .u8 14, .int .u8 9] 5)) (n := 6) rfl
  rw [World.size_alloc] at hr
  have HSB := hid (sameBytes_same (.slice A n cc) (.slice (some ⟨w3.heap.size + 1, 0, none⟩) 6 6) [4, 6, 0, 14, 14, 9] ((w3.alloc (.cells (evArr (evR 1)) 62)).alloc (.cells #[.int .u8 4, .int .u8 6, .int .u8 0, .int .u8 14, .int .u8 14, .int .u8 9] 5))
    (by rw [← bytesF]; exact reads_of_row ((HO3.out.alloc _).alloc _)) hr)
  have HX4 := hid (HX3.out.alloc HX3.out.size (.cells #[.int .u8 4, .int .u8 6, .int .u8 0, .int .u8 14, .int .u8 14, .int .u8 9] 5))
  have HSE := hid (sameEv (evR 1) ((w3.alloc (.cells (evArr (evR 1)) 62)).alloc (.cells #[.int .u8 4, .int .u8 6, .int .u8 0, .int .u8 14, .int .u8 14, .int .u8 9] 5)))
  clear hr
  unfold evArr evR at HSB HSE
  simp only [Nat.one_ne_zero, if_false] at HSB HSE
  go_wp2_with fail
  refine HSB.out.mono ?_
  rintro r w4 ⟨rfl, rfl⟩
  clear HSB
  go_wp2_with fail
  refine HSE.out.mono ?_
  rintro r w5 ⟨rfl, hb5⟩
  have HW5 := hid (HX4.out.trans (hb5.mono HX4.out.size))
  have hol := objLine w5 (HL.out.below HW5.out)
  unfold str objText at hol
  have HOL := hid hol
  clear hb5 HSE hol HX4 HX3 HE3 HO3
  go_wp2_with fail
  refine HOL.out.mono ?_
  rintro r w6 ⟨rfl, hb6⟩
  have HW6 := hid (HW5.out.trans (hb6.mono HW5.out.size))
  have hwd := wordCall 6 4 (by decide) w6 (HL.out.below HW6.out)
  rw [w64] at hwd
  unfold str at hwd
  have HWD := hid hwd
  clear hb6 HOL hwd
  go_wp2_with fail
  refine HWD.out.mono ?_
  rintro r w7 ⟨rfl, hb7⟩
  have HW7 := hid (HW6.out.trans (hb7.mono HW6.out.size))
  clear hb7 HWD
  go_wp2_with fail
  go_ret
  exact ⟨rfl, HW7.out⟩
end Go.Proofs.YtdinjplbbmhleaaDoor
