/-
  WordBack: for every number and every bytes the law answers true, and nothing that was there has turned.
-/
import Derived.Test.YtdinjplbbmhleaaDoorApp
import Derived.Lib.ItoaLen
namespace Go.Proofs.YtdinjplbbmhleaaDoor
open Go.RowKit Go.Maps W

theorem back_big (n : Int) (A : Option Addr) (k c : Nat) (w : World) (hL : Laid w) (hbig : 65536 < k) :
    Calls Tryd.prog 4 #[.int .i64 n, .slice A k c] w fun e w' => e = .returned (.bool true) ∧ Below w.heap.size w w' := by
  have hF := hid (first w hL)
  have t1 : decide ((65536 : Int) < (k : Int)) = true := by simp; omega
  clear hL
  go_enter Tryd.func4, Tryd.ntmps4
  go_wp2_with fail
  refine hF.out.mono ?_
  rintro e w1 ⟨rfl, hb⟩
  have HB := hid hb
  clear hb
  go_wp2
  go_ret
  exact ⟨rfl, HB.out⟩

set_option maxHeartbeats 4000000 in
set_option maxRecDepth 100000 in
theorem back (n : Int) (h0 : -9223372036854775808 ≤ n) (h1 : n ≤ 9223372036854775807) (v : Value) (beh : List UInt8) (w : World) (hL : Laid w) (hv : Reads w v (bys beh)) :
    Calls Tryd.prog 4 #[.int .i64 n, v] w fun e w' => e = .returned (.bool true) ∧ Below w.heap.size w w' := by
  obtain ⟨A, c, rfl⟩ := hv.shape
  rw [bys_len] at hv ⊢
  by_cases hbig : 65536 < beh.length
  · exact back_big n A _ c w hL hbig
  have t1 : decide ((65536 : Int) < (beh.length : Int)) = false := by simp; omega
  have hsm : beh.length ≤ 65536 := by omega
  obtain ⟨i0, hi, hz0, hz1, hz2⟩ := info_parts infoB
  have hF := hid (first w hL)
  have hz := zig_lt n h0 h1
  have hP := hid (fun W => put (.slice none 0 0) [] n h0 h1 W (Reads.nil W) (by simp))
  have hS := hid (fun W => size n h0 h1 W)
  have hg := vget_vb (zig n) hz beh
  have hl1 := vb_pos (zig n)
  have hl2 := vb_ten (zig n) hz
  have HR := hid hv
  have HL := hid hL
  simp only [List.nil_append] at hP
  have hzz := hid (zag_zig n)
  generalize vb (zig n) = l at *
  have HG := hid hg
  have HN := hid (fun W (hW : Laid W) => print n h0 h1 W hW)
  have hnn : (n != n) = false := by simp
  have hne : n == n := by simp
  have hll : ((l.length : Int) != (l.length : Int)) = false := by simp
  clear hL hv hg hz hbig
  go_enter Tryd.func4, Tryd.ntmps4
  go_wp2_with fail
  refine hF.out.mono ?_
  rintro e w1 ⟨rfl, hb1⟩
  have HB1 := hid hb1
  clear hF hb1
  go_wp2_with fail
  refine (hP.out _).mono ?_
  rintro e w2 ⟨r2, rfl, hown2, hb2⟩
  obtain ⟨A2, cap2, rfl⟩ := row_shape hown2
  have HB2 := hid (HB1.out.trans (hb2.mono HB1.out.size))
  have HC := hid (copyBytes _ l w2 (reads_of_row hown2) (by omega))
  clear hb2 HB1 hP hown2
  go_wp2_with fail
  refine HC.out.mono ?_
  rintro e w3 ⟨r3, rfl, hown3, hb3⟩
  obtain ⟨A3, cap3, rfl⟩ := row_shape hown3
  have HB3 := hid (HB2.out.trans (hb3.mono HB2.out.size))
  have HR3 := hid (HR.out.below HB3.out (Nat.le_refl _))
  have HO3 := hid hown3
  have hs3 := hb3.size
  clear hb3 hown3 HC HR
  go_wp2_with (at_builtin; refine wpList_append_reads rfl (.tmp 26) (.tmp 27) 31 rfl w2.heap.size 5 i0 (.int .u8 0) 1 Tryd.underlying31 hi hz0 hz1 hz2 rfl _ _ _ rfl HO3.out (bys beh) _ rfl HR3.out (bys_one _) (by rw [bys_len]; unfold maxLen; omega) (by rw [bys_len]; omega) hs3 ?_; intro v4 w4 hown4 hgrow4)
  have hb4 : Below w.heap.size w w4 := HB3.out.grown hgrow4 HB3.out.size (fun x hx => by have := (row_own HO3.out hx).1; have := HB2.out.size; omega)
  rw [← bys_append] at hown4
  have HB4 := hid hb4
  have HG4 := hid ((get v4 (l ++ beh) w4 (reads_of_row hown4) (by simp; omega) (HL.out.below hb4)).mono (R' := fun e w' => e = .returned (.tuple #[.int .i64 n, .int .i64 (l.length : Int), .nilIface]) ∧ Below w4.heap.size w4 w') (fun e w' ⟨r, he, hgi, hb⟩ => by
    unfold GetIs at hgi
    rw [HG.out] at hgi
    simp only [hzz.out] at hgi
    exact ⟨by rw [he, hgi], hb⟩))
  clear hown4 hgrow4 hb4 HR3 HO3 hs3 HG HB3 HB2 hi hz0 hz1 hz2
  go_wp2_with fail
  refine HG4.out.mono ?_
  rintro e w5 ⟨rfl, hb5⟩
  have HB5 := hid (HB4.out.trans (hb5.mono HB4.out.size))
  clear hb5 HG4 HB4
  have hlen1 : ¬ (l.length : Int) < 1 := by omega
  go_wp2_with fail
  refine (hS.out _).mono ?_
  rintro e w6 ⟨rfl, hb6⟩
  have HB6 := hid (HB5.out.trans (hb6.mono HB5.out.size))
  clear hb6 HB5 hS
  go_wp2_with fail
  refine (HN.out _ (HL.out.below HB6.out)).mono ?_
  rintro e w7 ⟨rfl, hb7⟩
  have HB7 := hid (HB6.out.trans (hb7.mono HB6.out.size))
  have hil : (Lib.itoa n).length ≤ 1000000000 := Nat.le_trans (Lib.itoa_length_le n h0 h1) (by omega)
  have hnum := number_itoa n h0 h1
  clear hb7 HB6 HN
  by_cases hw : -1000000000 ≤ n ∧ n ≤ 1000000000
  · rw [if_pos hw] at hnum
    have HM := hid (number_ok _ hil n hnum w7 (HL.out.below HB7.out))
    obtain ⟨hw1, hw2⟩ := hw
    clear hnum hil
    go_wp2_with fail
    refine HM.out.mono ?_
    rintro e w8 ⟨rfl, hb8⟩
    have HB8 := hid (HB7.out.trans (hb8.mono HB7.out.size))
    clear hb8 HM HB7
    go_wp2
    go_ret
    exact ⟨rfl, HB8.out⟩
  · rw [if_neg hw] at hnum
    have HM := hid (number_bad _ hil hnum w7 (HL.out.below HB7.out))
    have hen := fun W a => eq_nil a W
    clear hnum hil
    by_cases hw1 : -1000000000 ≤ n
    · have hw2 : ¬ n ≤ 1000000000 := fun h => hw ⟨hw1, h⟩
      clear hw
      go_wp2_with fail
      refine HM.out.mono ?_
      rintro e w8 ⟨a8, rfl, hb8⟩
      have HB8 := hid (HB7.out.trans (hb8.mono HB7.out.size))
      clear hb8 HM HB7
      go_wp2
      go_ret
      exact ⟨rfl, HB8.out⟩
    · clear hw
      go_wp2_with fail
      refine HM.out.mono ?_
      rintro e w8 ⟨a8, rfl, hb8⟩
      have HB8 := hid (HB7.out.trans (hb8.mono HB7.out.size))
      clear hb8 HM HB7
      go_wp2
      go_ret
      exact ⟨rfl, HB8.out⟩
end Go.Proofs.YtdinjplbbmhleaaDoor
