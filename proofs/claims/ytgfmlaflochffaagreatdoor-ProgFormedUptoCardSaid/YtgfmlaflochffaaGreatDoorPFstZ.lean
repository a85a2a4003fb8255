/-
  The chapter's examples (umpirelaw18.first): true.
-/
import Derived.Test.YtgfmlaflochffaaGreatDoorPCountZ
import Derived.Test.YtgfmlaflochffaaGreatDoorWkNoZ
import Derived.Test.YtgfmlaflochffaaGreatDoorWkNextCZ
import Derived.Test.YtgfmlaflochffaaGreatDoorWkAnsZ
namespace Go.Proofs.YtgfmlaflochffaaGreatDoor
open Go.RowKit Go.Maps W
attribute [local go_sem ↓] Go.wp_at_zero Go.wp_at_succ

theorem exOk : pgOk exPg = true := by decide
def exD1 : Wd := ((Wd.start exPg).next 0).2
def exD2 : Wd := (exD1.next 0).2
def exD3 : Wd := (exD2.next 0).2
theorem exN1 : (Wd.start exPg).next 0 = (({ evB 0 with tx := 1 }, true), exD1) := rfl
theorem exN2 : exD1.next 0 = (({ evR 0 with tx := 1 }, true), exD2) := rfl
theorem exN3 : exD2.next 0 = ((Ev.zero, false), exD3) := rfl
theorem exA : (exD3.answer 0 9 false).1 = ({ evA 9 3 with tx := 1 }, true) := rfl
theorem exL : exD3.live 0 = some (⟨0, 0, true, false, 0, 2⟩, [[⟨1, 0, 0⟩, ⟨3, 1, 2⟩]]) := rfl
theorem exOk1 : WdOk exD1 := (WdOk.start exOk).next 0
theorem exOk2 : WdOk exD2 := exOk1.next 0
theorem exOk3 : WdOk exD3 := exOk2.next 0
theorem exCall1 {B wb : Nat} {W : World} {vc vt ve : Value} {g n c : Nat} (h : Wk B wb W (Wd.start exPg) vc vt (.slice (some ⟨g, 0, none⟩) n c) ve) :
    Calls Tryz.prog 7 #[.pointer (some ⟨wb, 0, none⟩), .int .i64 0] W fun e w' => ∃ ve', e = .returned (.tuple #[.agg #[.int .i64 1, .int .i64 1, .int .i64 0, .int .i64 0, .int .i64 0, .int .i64 0, .int .i64 0, .int .i64 0], .bool true]) ∧ Wk B wb w' exD1 vc vt (.slice (some ⟨g, 0, none⟩) n c) ve' ∧ Only (Foot wb (.slice (some ⟨g, 0, none⟩) n c) ve) W w' ∧ VeStep W ve ve' := by
  have h1 := nextCall h (WdOk.start exOk) (by decide) 0
  rw [exN1] at h1
  exact h1
theorem exCall2 {B wb : Nat} {W : World} {vc vt ve : Value} {g n c : Nat} (h : Wk B wb W exD1 vc vt (.slice (some ⟨g, 0, none⟩) n c) ve) :
    Calls Tryz.prog 7 #[.pointer (some ⟨wb, 0, none⟩), .int .i64 0] W fun e w' => ∃ ve', e = .returned (.tuple #[.agg #[.int .i64 2, .int .i64 1, .int .i64 0, .int .i64 0, .int .i64 1, .int .i64 0, .int .i64 0, .int .i64 0], .bool true]) ∧ Wk B wb w' exD2 vc vt (.slice (some ⟨g, 0, none⟩) n c) ve' ∧ Only (Foot wb (.slice (some ⟨g, 0, none⟩) n c) ve) W w' ∧ VeStep W ve ve' := by
  have h1 := nextCall h exOk1 (by decide) 0
  rw [exN2] at h1
  exact h1
theorem exCall3 {B wb : Nat} {W : World} {vc vt ve : Value} {g n c : Nat} (h : Wk B wb W exD2 vc vt (.slice (some ⟨g, 0, none⟩) n c) ve) :
    Calls Tryz.prog 7 #[.pointer (some ⟨wb, 0, none⟩), .int .i64 0] W fun e w' => ∃ ve', e = .returned (.tuple #[.agg #[.int .i64 0, .int .i64 0, .int .i64 0, .int .i64 0, .int .i64 0, .int .i64 0, .int .i64 0, .int .i64 0], .bool false]) ∧ Wk B wb w' exD3 vc vt (.slice (some ⟨g, 0, none⟩) n c) ve' ∧ Only (Foot wb (.slice (some ⟨g, 0, none⟩) n c) ve) W w' ∧ VeStep W ve ve' := by
  have h1 := nextCall h exOk2 (by decide) 0
  rw [exN3] at h1
  exact h1
def exD4 : Wd := (exD3.answer 0 9 false).2
theorem exAns {B wb : Nat} {W : World} {vc vt ve : Value} {g n c : Nat} (h : Wk B wb W exD3 vc vt (.slice (some ⟨g, 0, none⟩) n c) ve) :
    Calls Tryz.prog 8 #[.pointer (some ⟨wb, 0, none⟩), .int .i64 0, .int .i64 9, .bool false] W fun e w' => ∃ ve', e = .returned (.tuple #[.agg #[.int .i64 3, .int .i64 1, .int .i64 0, .int .i64 0, .int .i64 0, .int .i64 0, .int .i64 9, .int .i64 3], .bool true]) ∧ Wk B wb w' exD4 vc vt (.slice (some ⟨g, 0, none⟩) n c) ve' ∧ Only (Foot wb (.slice (some ⟨g, 0, none⟩) n c) ve) W w' ∧ VeStep W ve ve' := by
  have h1 := ansRead h exOk3 9 (k := 0) (t := ⟨0, 0, true, false, 0, 2⟩) (l := [[⟨1, 0, 0⟩, ⟨3, 1, 2⟩]]) exL rfl (by decide) (a := ⟨1, 0, 0⟩) rfl rfl (by decide)
  exact h1
set_option maxHeartbeats 16000000 in
set_option maxRecDepth 100000 in
theorem first18 (w : World) (hL : LaidP w) : Calls Tryz.prog 4 #[] w fun e w' => e = .returned (.bool true) ∧ Below w.heap.size w w' := by
  have HX := hid (exampleCall w)
  have HL := hid hL
  have HI := hid (fun W => idCall 1 0 W)
  clear hL
  go_enter Tryz.func4, Tryz.ntmps4
  go_wp2_with fail
  refine HX.out.mono ?_
  rintro e w1 ⟨vc, vt, rfl, hpg, hb1⟩
  obtain ⟨Ac, cc, hvc⟩ := hpg.1.shape
  obtain ⟨At, ct, hvt⟩ := hpg.2.shape
  subst hvc hvt
  rw [ints_len] at hpg ⊢
  have hb2 := hb1.alloc hb1.size (.cells #[.slice Ac exPg.cells.length cc, .slice At exPg.threads.length ct] tP)
  have hPB := Blk.new w1 tP #[.slice Ac exPg.cells.length cc, .slice At exPg.threads.length ct]
  have hpg2 := hpg.below ((Below.refl w1.heap.size w1).alloc (Nat.le_refl _) (.cells #[.slice Ac exPg.cells.length cc, .slice At exPg.threads.length ct] tP))
  have HT := hid (textCall _ _ exPg _ hpg2 (HL.out.below hb2))
  have HB2 := hid hb2
  have HPB2 := hid hPB
  have HPG2 := hid hpg2
  clear hb1 hb2 hPB hpg hpg2 HX
  go_wp2_with fail
  refine HT.out.mono ?_
  rintro e w3 ⟨x, v, rfl, herr, hrow, ⟨Ax, nx, cx, rfl⟩, hb3⟩
  obtain rfl : v = .nilIface := by
    rcases herr with ⟨_, h⟩ | ⟨h, _⟩
    · exact h
    · rw [exOk] at h; cases h
  have hrow3 := hrow exOk
  rw [exText_is] at hrow3
  have HR3 := hid hrow3
  have HB3 := hid (HB2.out.trans (hb3.mono HB2.out.size))
  have hPB3 := HPB2.out.below hb3 (by simp)
  have HPG3 := hid (HPG2.out.below hb3)
  have HPB3 := hid hPB3
  have p0 := hPB3.cell 0
  have p1 := hPB3.cell 1
  have lp := hPB3.lt
  have HST := hid (startYes _ _ exPg w3 HPG3.out (HL.out.below HB3.out) exOk)
  clear herr hrow hrow3 hb3 hPB3 HT HPB2 HPG2 HB2
  go_wp2_with fail
  refine HST.out.mono ?_
  rintro e w4 ⟨wb, vc', vt', g, n, c, rfl, hwk, hb4⟩
  have HWK4 := hid hwk
  have HB34 := hid hb4
  have hcv := conv_bytes (reads_of_row (row_call HR3.out hb4))
  have HN1 := hid (exCall1 hwk)
  have hxe : (exText == [112, 114, 111, 103, 114, 97, 109, 10, 99, 101, 108, 108, 115, 32, 48, 32, 53, 10, 116, 104, 114, 101, 97, 100, 10, 116, 120, 32, 114, 101, 97, 100, 32, 48, 32, 97, 100, 100, 32, 49, 32, 50, 10, 116, 104, 114, 101, 97, 100, 10, 116, 120, 32, 119, 114, 105, 116, 101, 32, 48, 32, 55, 32, 99, 97, 110, 99, 101, 108, 10]) = true := by decide
  clear hwk hb4 HST p0 p1
  go_wp2_with fail
  refine HN1.out.mono ?_
  rintro e w5 ⟨ve5, rfl, hwk5, ho5, hv5⟩
  have HWK5 := hid hwk5
  have HB35 := hid (HB34.out.trans (HWK4.out.only_below ho5))
  have HN2 := hid (exCall2 hwk5)
  clear hwk5 ho5 hv5 HN1 HWK4 HB34 hxe hcv
  go_wp2_with fail
  refine HN2.out.mono ?_
  rintro e w6 ⟨ve6, rfl, hwk6, ho6, hv6⟩
  have HB36 := hid ((HB35.out.trans (HWK5.out.only_below ho6)).alloc (Nat.le_trans HB35.out.size ho6.size) (.cells #[.int .i64 2, .int .i64 1, .int .i64 0, .int .i64 0, .int .i64 1, .int .i64 0, .int .i64 0, .int .i64 0] tEv))
  have hwk6' := hwk6.alloc (.cells #[.int .i64 2, .int .i64 1, .int .i64 0, .int .i64 0, .int .i64 1, .int .i64 0, .int .i64 0, .int .i64 0] tEv)
  have HX6 := hid (Blk.new w6 tEv #[.int .i64 2, .int .i64 1, .int .i64 0, .int .i64 0, .int .i64 1, .int .i64 0, .int .i64 0, .int .i64 0])
  have HOF6 := hid (hwk6.off_new (Nat.le_refl _))
  have HWK6 := hid hwk6'
  have HN3 := hid (exCall3 hwk6')
  clear hwk6 hwk6' ho6 hv6 HN2 HWK5 HB35
  go_wp2_with fail
  refine HN3.out.mono ?_
  rintro e w7 ⟨ve7, rfl, hwk7, ho7, hv7⟩
  have HB37 := hid ((HB36.out.trans (HWK6.out.only_below ho7)).alloc (Nat.le_trans HB36.out.size ho7.size) (.cells #[.int .i64 0, .int .i64 0, .int .i64 0, .int .i64 0, .int .i64 0, .int .i64 0, .int .i64 0, .int .i64 0] tEv))
  have hwk7' := hwk7.alloc (.cells #[.int .i64 0, .int .i64 0, .int .i64 0, .int .i64 0, .int .i64 0, .int .i64 0, .int .i64 0, .int .i64 0] tEv)
  have hx7 := HX6.out.only ho7 HOF6.out.notin
  have HOF7 := hid (HOF6.out.step HX6.out.lt hv7)
  have HX7 := hid (hx7.alloc (.cells #[.int .i64 0, .int .i64 0, .int .i64 0, .int .i64 0, .int .i64 0, .int .i64 0, .int .i64 0, .int .i64 0] tEv))
  have HWK7 := hid hwk7'
  have HA := hid (exAns hwk7')
  clear hwk7 hwk7' ho7 hv7 hx7 HN3 HWK6 HB36 HX6 HOF6
  go_wp2_with fail
  refine HA.out.mono ?_
  rintro e w8 ⟨ve8, rfl, hwk8, ho8, hv8⟩
  have HB38 := hid ((HB37.out.trans (HWK7.out.only_below ho8)).alloc (Nat.le_trans HB37.out.size ho8.size) (.cells #[.int .i64 3, .int .i64 1, .int .i64 0, .int .i64 0, .int .i64 0, .int .i64 0, .int .i64 9, .int .i64 3] tEv))
  have hx8 := (HX7.out.only ho8 HOF7.out.notin).alloc (.cells #[.int .i64 3, .int .i64 1, .int .i64 0, .int .i64 0, .int .i64 0, .int .i64 0, .int .i64 9, .int .i64 3] tEv)
  have x4 := hx8.cell 4
  have lx := hx8.lt
  have hp8 := HPB3.out.below HB38.out lp
  have p0 := hp8.cell 0
  have p1 := hp8.cell 1
  have lp8 := hp8.lt
  have HPL := hid (fun W => placeCall 4 W)
  have HC := hid (countCall _ _ exPg _ (HPG3.out.below HB38.out) exOk)
  clear hwk8 ho8 hv8 hx8 hp8 HA HWK7 HB37 HX7 HOF7
  go_wp2_with fail
  refine (HPL.out _).mono ?_
  rintro e w9 ⟨r, rfl, hr, rfl⟩
  obtain rfl : r = .tuple #[.int .i64 1, .int .i64 0, .bool true] := by
    unfold placeIs at hr
    rw [if_neg (by decide)] at hr
    simpa using hr
  have hi : idOf 1 0 = 4 := by decide
  have hc : cntPg exPg exPg.threads.length = 2 := by decide
  rw [hi] at HI
  rw [hc] at HC
  clear hr HPL hi hc
  go_wp2_with fail
  refine (HI.out _).mono ?_
  rintro e w9 ⟨rfl, rfl⟩
  go_wp2_with fail
  refine HC.out.mono ?_
  rintro e w10 ⟨rfl, hb10⟩
  have HB10 := hid ((HB3.out.trans (HB38.out.mono HB3.out.size)).trans (hb10.mono (Nat.le_trans HB3.out.size HB38.out.size)))
  clear hb10 HC HI
  go_wp2_with fail
  go_ret
  exact ⟨rfl, HB10.out⟩
end Go.Proofs.YtgfmlaflochffaaGreatDoor
