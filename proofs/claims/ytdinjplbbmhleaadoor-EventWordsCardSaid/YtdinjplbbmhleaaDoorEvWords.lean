/-
  The walk of EventWords: it answers true, whatever it is called with.
-/
import Derived.Test.YtdinjplbbmhleaaDoorEvFirst
import Derived.Test.YtdinjplbbmhleaaDoorCodeRef
namespace Go.Proofs.YtdinjplbbmhleaaDoor
open Go.RowKit Go.Maps W
attribute [local go_sem ↓] Go.wp_at_zero Go.wp_at_succ

set_option maxHeartbeats 8000000 in
set_option maxRecDepth 100000 in
theorem evWords (t c : Int) (x : List UInt8) (op ret : Int) (h0 : -9223372036854775808 ≤ c) (h1 : c ≤ 9223372036854775807) (w : World) (hL : LaidE w) (hs : x.length ≤ 9223372036854775807) :
    Calls Tryd.prog 7 #[.int .i64 t, .int .i64 c, .string ⟨x.toArray⟩, .int .i64 op, .int .i64 ret] w fun e w' => e = .returned (.bool true) ∧ Below w.heap.size w w' := by
  have HL := hid hL
  have HF := hid (first2 w hL)
  by_cases hbig : 16384 < x.length
  case pos =>
    have t1 : decide ((16384 : Int) < (x.length : Int)) = true := by simp; omega
    clear hL
    go_enter Tryd.func7, Tryd.ntmps7
    go_wp2_with fail
    refine HF.out.mono ?_
    rintro e w1 ⟨rfl, hb⟩
    have HB := hid hb
    clear hb
    go_wp2
    go_ret
    exact ⟨rfl, HB.out⟩
  case neg =>
  have t1 : decide ((16384 : Int) < (x.length : Int)) = false := by simp; omega
  have HC := hid (fun W (hb : Below w.heap.size w W) => codeCall t x W (HL.out.below hb))
  have HCR := hid (fun W => codeR t x W)
  have HWC := hid (fun W (hb : Below w.heap.size w W) => wordCall t c h1 W (HL.out.below hb))
  have HWR := hid (fun W => wordR t c h0 h1 W)
  have HO := hid (fun W => ofCall op W)
  have HOR := hid (fun W => ofR op W)
  have HK := hid (fun W => keyedCall op W)
  have HKR := hid (fun W => keyedCallR op W)
  have HV := hid (fun W => valuedCall op W)
  have HVR := hid (fun W => valuedCallR op W)
  have HT := hid (fun W => fitsCall op ret W)
  have HTR := hid (fun W => fitsCallR op ret W)
  unfold str at HWC HWR
  obtain ⟨k, hk⟩ : ∃ k, codeOf t x = k := ⟨_, rfl⟩
  rw [hk] at HC HCR
  obtain ⟨kz, hkz⟩ : ∃ b : Bool, decide (k ≠ 0) = b := ⟨_, rfl⟩
  have tz : ((k : Int) != 0) = kz := by
    rw [← hkz]
    by_cases h : k = 0
    · subst h; rfl
    · simp [h]
  rw [hkz] at HC
  have HTZ := hid tz
  generalize wordOf t c = wd at *
  generalize ofOp op = o1 at *
  generalize keyed op = o2 at *
  generalize valued op = o3 at *
  generalize fitsOf op ret = o4 at *
  clear hL hk hkz tz hbig
  go_enter Tryd.func7, Tryd.ntmps7
  go_wp2_with fail
  refine HF.out.mono ?_
  rintro e w1 ⟨rfl, hb1⟩
  have HB1 := hid hb1
  clear hb1 HF
  go_wp2_with fail
  refine (HC.out _ HB1.out).mono ?_
  rintro e w2 ⟨rfl, hb2⟩
  have HB2 := hid (HB1.out.trans (hb2.mono HB1.out.size))
  clear hb2 HC HB1
  go_wp2_with fail
  refine (HCR.out _).mono ?_
  rintro e w3 ⟨rfl, hb3⟩
  have HB3 := hid (HB2.out.trans (hb3.mono HB2.out.size))
  clear hb3 HCR HB2
  go_wp2_with fail
  refine (HO.out _).mono ?_
  rintro e w4 ⟨rfl, rfl⟩
  go_wp2_with fail
  refine (HOR.out _).mono ?_
  rintro e w5 ⟨rfl, hb5⟩
  have HB5 := hid (HB3.out.trans (hb5.mono HB3.out.size))
  clear hb5 HOR HO HB3
  go_wp2_with fail
  refine (HK.out _).mono ?_
  rintro e w6 ⟨rfl, rfl⟩
  go_wp2_with fail
  refine (HKR.out _).mono ?_
  rintro e w7 ⟨rfl, rfl⟩
  go_wp2_with fail
  refine (HV.out _).mono ?_
  rintro e w8 ⟨rfl, rfl⟩
  go_wp2_with fail
  refine (HVR.out _).mono ?_
  rintro e w9 ⟨rfl, rfl⟩
  go_wp2_with fail
  refine (HT.out _).mono ?_
  rintro e w10 ⟨rfl, rfl⟩
  go_wp2_with fail
  refine (HTR.out _).mono ?_
  rintro e w11 ⟨rfl, rfl⟩
  go_wp2_with fail
  refine (HWC.out _ HB5.out).mono ?_
  rintro e w12 ⟨rfl, hb12⟩
  have HB12 := hid (HB5.out.trans (hb12.mono HB5.out.size))
  clear hb12 HB5
  go_wp2_with fail
  refine (HWR.out _).mono ?_
  rintro e w13 ⟨rfl, hb13⟩
  have HB13 := hid (HB12.out.trans (hb13.mono HB12.out.size))
  have tz := HTZ.out
  clear hb13 HB12
  go_wp2_with fail
  go_ret
  exact ⟨rfl, HB13.out⟩
end Go.Proofs.YtdinjplbbmhleaaDoor
