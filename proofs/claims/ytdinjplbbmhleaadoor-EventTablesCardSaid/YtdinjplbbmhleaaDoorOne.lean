/-
  WordOne: for every two numbers, every text and every bytes the law answers true, and nothing that was there has turned.
-/
import Derived.Test.YtdinjplbbmhleaaDoorApp
import Derived.Lib.ItoaLen
import Derived.Deep.Cut
import Derived.Deep.CutRange
import Derived.Deep.DeepCutAuto
import Derived.Deep.RegionWith
import Derived.Deep.DrawnRows
namespace Go.Proofs.YtdinjplbbmhleaaDoor
open Go.RowKit Go.Maps W
attribute [local go_sem ↓] Go.wp_at_zero Go.wp_at_succ

theorem quiet_left {P : Program} {f : FuncId} {args : Array Value} {w : World} {n : Nat} {v : Value}
    (h : Calls P f args (w.drewN n) fun e w' => e = .returned v ∧ w.drewN n = w') : Calls P f args (w.drewN n) fun e w'' => e = .returned v ∧ ∃ m, w'' = w.drewN m :=
  h.mono fun _ _ ⟨he, hm⟩ => ⟨he, n, hm.symm⟩
theorem reads_take {w : World} {A : Option Addr} {n c : Nat} {l : List UInt8} (h : Reads w (.slice A n c) (bys l)) (k : Nat) (hk : k ≤ l.length) : Reads w (.slice A k c) (bys (l.take k)) := by
  obtain ⟨A', c', b, o, he, hA, hA2, hc, hcells⟩ := h
  injection he with e1 e2 e3
  subst e1 e3
  rw [bys_len] at e2 hA hA2 hc
  have hl : (bys (l.take k)).length = k := by simp [bys_len]; omega
  refine ⟨A, c, b, o, by rw [hl], fun h => ?_, fun a ha hp => hA2 a ha (by omega), by omega, fun j u hj => hcells j u ?_⟩
  · have := hA h
    omega
  · unfold bys at hj ⊢
    rw [List.map_take] at hj
    have hjk : j < k := by
      have := (List.getElem?_eq_some_iff.1 hj).1
      simp at this
      omega
    rwa [List.getElem?_take_of_lt hjk] at hj
theorem Reads.cap {w : World} {A : Option Addr} {n c : Nat} {xs : List Value} (h : Reads w (.slice A n c) xs) : n ≤ c := by
  obtain ⟨A', c', b, o, he, _, _, hc, _⟩ := h
  injection he with e1 e2 e3
  omega
theorem below_reads {B : Nat} {w w' : World} {v : Value} {xs : List Value} (hb : Below B w w') (hB : w.heap.size ≤ B) (h : Reads w v xs) : Reads w' v xs := h.below hb hB
theorem Reads.addr {w : World} {A : Option Addr} {n c : Nat} {xs : List Value} (h : Reads w (.slice A n c) xs) (h0 : 0 < xs.length) : ∃ b o, A = some ⟨b, o, none⟩ := by
  obtain ⟨A', c', b, o, he, hA, hA2, _, _⟩ := h
  injection he with e1 e2 e3
  subst e1
  cases A with
  | none => have := (hA rfl).1; omega
  | some a => exact ⟨b, o, by rw [hA2 a rfl h0]⟩
theorem Reads.drewN {w : World} {v : Value} {xs : List Value} (h : Reads w v xs) (n : Nat) : Reads (w.drewN n) v xs := h

theorem one_big (n m : Int) (s : ByteArray) (A : Option Addr) (k c : Nat) (w : World) (hL : Laid w) (hs : s.size ≤ 9223372036854775807) (hk : k ≤ 9223372036854775807) (hbig : 65536 < s.size ∨ 65536 < k) :
    Calls Tryd.prog 5 #[.int .i64 n, .int .i64 m, .string s, .slice A k c] w fun e w' => e = .returned (.bool true) ∧ Below w.heap.size w w' := by
  have hF := hid (first w hL)
  clear hL
  by_cases h1 : 65536 < s.size
  · have t1 : decide ((65536 : Int) < (s.size : Int)) = true := by simp; omega
    clear hbig
    go_enter Tryd.func5, Tryd.ntmps5
    go_wp2_with fail
    refine hF.out.mono ?_
    rintro e w1 ⟨rfl, hb⟩
    have HB := hid hb
    clear hb
    go_wp2
    go_ret
    exact ⟨rfl, HB.out⟩
  · have t1 : decide ((65536 : Int) < (s.size : Int)) = false := by simp; omega
    have t2 : decide ((65536 : Int) < (k : Int)) = true := by simp; omega
    clear hbig
    go_enter Tryd.func5, Tryd.ntmps5
    go_wp2_with fail
    refine hF.out.mono ?_
    rintro e w1 ⟨rfl, hb⟩
    have HB := hid hb
    clear hb
    go_wp2
    go_ret
    exact ⟨rfl, HB.out⟩

set_option maxHeartbeats 8000000 in
set_option maxRecDepth 100000 in
theorem one (n m : Int) (h0 : -9223372036854775808 ≤ n) (h1 : n ≤ 9223372036854775807) (h2 : -9223372036854775808 ≤ m) (h3 : m ≤ 9223372036854775807) (sl : List UInt8) (v : Value) (bl : List UInt8) (w : World) (hL : Laid w) (hv : Reads w v (bys bl))
    (hs : sl.length ≤ 9223372036854775807) (hb9 : bl.length ≤ 9223372036854775807) :
    Calls Tryd.prog 5 #[.int .i64 n, .int .i64 m, .string ⟨sl.toArray⟩, v] w fun e w' => e = .returned (.bool true) ∧ Below w.heap.size w w' := by
  obtain ⟨A, c, rfl⟩ := hv.shape
  rw [bys_len] at hv ⊢
  by_cases hbig : 65536 < sl.length ∨ 65536 < bl.length
  · exact one_big n m _ A _ c w hL (by simp [ByteArray.size]; omega) hb9 (by simpa [ByteArray.size] using hbig)
  have hsm1 : sl.length ≤ 65536 := by omega
  have hsm2 : bl.length ≤ 65536 := by omega
  have hF := hid (first w hL)
  have HR := hid hv
  have HL := hid hL
  clear hL hv hbig hs hb9
  go_enter Tryd.func5, Tryd.ntmps5
  go_wp2_with fail
  refine hF.out.mono ?_
  rintro e w1 ⟨rfl, hb1⟩
  have HB1 := hid hb1
  have hP1 := hid (put (.slice none 0 0) [] n h0 h1 w1 (Reads.nil w1) (by simp))
  have hP2 := hid (fun W => put (.slice none 0 0) [] m h2 h3 W (Reads.nil W) (by simp))
  simp only [List.nil_append] at hP1 hP2
  have hz1 := zig_lt n h0 h1
  have hz2 := zig_lt m h2 h3
  have hl1 := vb_pos (zig n)
  have hl2 := vb_ten (zig n) hz1
  have hl3 := vb_pos (zig m)
  have hl4 := vb_ten (zig m) hz2
  have hpre := hid (fun (h : n ≠ m) (he : (vb (zig n)).take (min (vb (zig n)).length (vb (zig m)).length) = (vb (zig m)).take (min (vb (zig n)).length (vb (zig m)).length)) => h (zig_inj (vb_prefix hz1 hz2 he)))
  generalize vb (zig n) = lx at *
  generalize vb (zig m) = ly at *
  clear hF hb1 hz1 hz2
  go_wp2_with fail
  refine hP1.out.mono ?_
  rintro e w2 ⟨r2, rfl, hown2, hb2⟩
  obtain ⟨A2, cap2, rfl⟩ := row_shape hown2
  have HB2 := hid (HB1.out.trans (hb2.mono HB1.out.size))
  have HO2 := hid (fun w' (hb : Below w2.heap.size w2 w') => (reads_of_row hown2).below hb (Nat.le_refl _))
  clear hb2 HB1 hP1 hown2
  go_wp2_with fail
  refine (hP2.out _).mono ?_
  rintro e w3 ⟨r3, rfl, hown3, hb3⟩
  obtain ⟨A3, cap3, rfl⟩ := row_shape hown3
  have HB3 := hid (HB2.out.trans (hb3.mono HB2.out.size))
  have HX := hid (HO2.out w3 hb3)
  have HY := hid (reads_of_row hown3)
  have hcx := HX.out.cap
  have hcy := HY.out.cap
  clear hb3 HB2 hP2 hown3 HO2
  go_upto_if 39 with fail
  go_cut [12, 13] (fun _ _ wx => Below w.heap.size w wx)
  case first =>
    by_cases hnm : n = m
    · have t5 : (n != m) = false := by simpa using hnm
      clear hnm hpre
      go_wp2_with fail
      go_meet
      exact HB3.out
    · have t5 : (n != m) = true := by simpa using hnm
      by_cases hle : (ly.length : Int) < (lx.length : Int)
      · have hkm : min lx.length ly.length = ly.length := by omega
        have hmin : min (lx.length : Int) (ly.length : Int) = (ly.length : Int) := by omega
        have hk1 : (ly.length : Int) ≤ (cap2 : Int) := by omega
        have hk2 : (ly.length : Int) ≤ (cap3 : Int) := by omega
        have hk0 : (0 : Int) ≤ (ly.length : Int) := by omega
        have hne : decide (lx.take ly.length = ly.take ly.length) = false := by
          rw [hkm] at hpre
          simpa using hpre.out hnm
        have HE := hid hne
        have hi1 : (Lib.itoa n == Lib.itoa m) = false := by
          rw [beq_eq_false_iff_ne]
          exact fun e => hnm (itoa_inj ⟨h0, h1⟩ ⟨h2, h3⟩ e)
        have HI := hid hi1
        clear hkm hne hpre hi1 hnm
        go_wp2_with fail
        go_quiet ((go_at_call 28; exact quiet_left ((sameBytes _ _ (lx.take ly.length) (ly.take ly.length) _ ((reads_take HX.out ly.length (by omega)).drewN _) ((reads_take HY.out ly.length (by omega)).drewN _)).mono fun e w' ⟨he, hw⟩ => ⟨by rw [he, HE.out], hw⟩)))
        rename_i nq
        have hbq := HB3.out.trans (((Only.refl [] w3).drewN nq).below_of (B := w.heap.size) HB3.out.size (by simp))
        have HBq := hid hbq
        have hPn := hid (print n h0 h1 (w3.drewN nq) (HL.out.below hbq))
        have hPm := hid (fun W hW => print m h2 h3 W hW)
        clear hbq HB3
        go_wp2_with fail
        refine hPn.out.mono ?_
        rintro e w4 ⟨rfl, hb4⟩
        have HB4 := hid (HBq.out.trans (hb4.mono HBq.out.size))
        clear hb4 hPn HBq
        go_wp2_with fail
        refine (hPm.out _ (HL.out.below HB4.out)).mono ?_
        rintro e w5 ⟨rfl, hb5⟩
        have HB5 := hid (HB4.out.trans (hb5.mono HB4.out.size))
        have hi1 := HI.out
        clear hb5 hPm HB4
        go_wp2_with fail
        go_meet
        exact HB5.out
      · have hkm : min lx.length ly.length = lx.length := by omega
        have hmin : min (lx.length : Int) (ly.length : Int) = (lx.length : Int) := by omega
        have hk1 : (lx.length : Int) ≤ (cap2 : Int) := by omega
        have hk2 : (lx.length : Int) ≤ (cap3 : Int) := by omega
        have hk0 : (0 : Int) ≤ (lx.length : Int) := by omega
        have hne : decide (lx.take lx.length = ly.take lx.length) = false := by
          rw [hkm] at hpre
          simpa using hpre.out hnm
        have HE := hid hne
        have hi1 : (Lib.itoa n == Lib.itoa m) = false := by
          rw [beq_eq_false_iff_ne]
          exact fun e => hnm (itoa_inj ⟨h0, h1⟩ ⟨h2, h3⟩ e)
        have HI := hid hi1
        clear hkm hne hpre hi1 hnm
        go_wp2_with fail
        go_quiet ((go_at_call 28; exact quiet_left ((sameBytes _ _ (lx.take lx.length) (ly.take lx.length) _ ((reads_take HX.out lx.length (by omega)).drewN _) ((reads_take HY.out lx.length (by omega)).drewN _)).mono fun e w' ⟨he, hw⟩ => ⟨by rw [he, HE.out], hw⟩)))
        rename_i nq
        have hbq := HB3.out.trans (((Only.refl [] w3).drewN nq).below_of (B := w.heap.size) HB3.out.size (by simp))
        have HBq := hid hbq
        have hPn := hid (print n h0 h1 (w3.drewN nq) (HL.out.below hbq))
        have hPm := hid (fun W hW => print m h2 h3 W hW)
        clear hbq HB3
        go_wp2_with fail
        refine hPn.out.mono ?_
        rintro e w4 ⟨rfl, hb4⟩
        have HB4 := hid (HBq.out.trans (hb4.mono HBq.out.size))
        clear hb4 hPn HBq
        go_wp2_with fail
        refine (hPm.out _ (HL.out.below HB4.out)).mono ?_
        rintro e w5 ⟨rfl, hb5⟩
        have HB5 := hid (HB4.out.trans (hb5.mono HB4.out.size))
        have hi1 := HI.out
        clear hb5 hPm HB4
        go_wp2_with fail
        go_meet
        exact HB5.out
  case rest =>
  have HB4 := hid hcut
  clear hcut HX HY HB3 hpre hl1 hl2 hl3 hl4
  have hen := fun W a => eq_nil a W
  have hnn := fun W a => neq_nil 211 a (.inr rfl) W
  cases hnum : number sl with
  | some a =>
    obtain ⟨hp, hp0, hp1⟩ := number_print hnum
    have HM := hid (number_ok sl (by omega) a hnum wc (HL.out.below HB4.out))
    have HPa := hid (fun W hW => print a (by omega) (by omega) W hW)
    rw [hp] at HPa
    clear hnum hp
    go_wp2_with fail
    refine HM.out.mono ?_
    rintro e w5 ⟨rfl, hb5⟩
    have HB5 := hid (HB4.out.trans (hb5.mono HB4.out.size))
    clear hb5 HM HB4
    go_wp2_with fail
    refine (HPa.out _ (HL.out.below HB5.out)).mono ?_
    rintro e w6 ⟨rfl, hb6⟩
    have HB6 := hid (HB5.out.trans (hb6.mono HB5.out.size))
    clear hb6 HPa HB5
    have HGt := hid (get _ bl w6 (HR.out.below HB6.out (Nat.le_refl _)) (by omega) (HL.out.below HB6.out))
    cases hgv : vget bl with
    | ok u k =>
      obtain ⟨e1, e2, e3, e4⟩ := vget_ok hgv
      have hk1 : 1 ≤ k := by rw [e2]; exact vb_pos u
      obtain ⟨bb, oo, rfl⟩ := HR.out.addr (by rw [bys_len]; omega)
      have hcc := HR.out.cap
      have HGu := hid (HGt.out.mono (R' := fun e w' => e = .returned (.tuple #[.int .i64 (zag u), .int .i64 (k : Int), .nilIface]) ∧ Below w6.heap.size w6 w') (fun e w' ⟨r, he, hgi, hb⟩ => by
        unfold GetIs at hgi
        rw [hgv] at hgi
        exact ⟨by rw [he, hgi], hb⟩))
      have hzb := zag_bd u e4
      have HPu := hid (fun W => put (.slice none 0 0) [] (zag u) hzb.1 hzb.2 W (Reads.nil W) (by simp))
      simp only [List.nil_append, zig_zag, e1] at HPu
      clear hgv e1 e2 e4 hzb HGt
      generalize zag u = z at *
      go_wp2_with fail
      refine HGu.out.mono ?_
      rintro e w8 ⟨rfl, hb8⟩
      have HB8 := hid (HB6.out.trans (hb8.mono HB6.out.size))
      have HR8 := hid (HR.out.below HB8.out (Nat.le_refl _))
      have hk2 : (k : Int) ≤ (c : Int) := by omega
      have hk3 : (0 : Int) ≤ (k : Int) := by omega
      have hk4 : (k : Int) ≤ (bl.length : Int) := by omega
      clear hb8 HGu HB6
      go_wp2_with fail
      go_region_with (first
        | (go_at_call 22; refine (HPu.out _).mono ?_; rintro e w9 ⟨r9, rfl, hown9, hb9⟩)
        | (go_at_call 28; refine (sameBytes_same _ _ (bl.take k) _ (reads_of_row hown9) (reads_take (below_reads hb9 (Nat.le_refl _) HR8.out) k (by omega))).mono ?_; rintro e w10 ⟨rfl, rfl⟩))
      all_goals go_wp2_with fail
      all_goals go_ret
      all_goals exact ⟨rfl, HB8.out.drew.trans (hb9.mono HB8.out.size)⟩
    | long =>
      have HGu := hid (HGt.out.mono (R' := fun e w' => ∃ a, e = .returned (.tuple #[.int .i64 0, .int .i64 0, .iface 211 (.pointer (some a))]) ∧ Below w6.heap.size w6 w') (fun e w' ⟨r, he, hgi, hb⟩ => by
        unfold GetIs at hgi
        rw [hgv] at hgi
        obtain ⟨a, ha⟩ := hgi
        exact ⟨a, by rw [he, ha], hb⟩))
      clear hgv HGt
      go_wp2_with fail
      refine HGu.out.mono ?_
      rintro e w8 ⟨a8, rfl, hb8⟩
      have HB8 := hid (HB6.out.trans (hb8.mono HB6.out.size))
      clear hb8 HGu HB6
      go_wp2_with fail
      go_ret
      exact ⟨rfl, HB8.out⟩
    | ends =>
      have HGu := hid (HGt.out.mono (R' := fun e w' => ∃ a, e = .returned (.tuple #[.int .i64 0, .int .i64 0, .iface 211 (.pointer (some a))]) ∧ Below w6.heap.size w6 w') (fun e w' ⟨r, he, hgi, hb⟩ => by
        unfold GetIs at hgi
        rw [hgv] at hgi
        obtain ⟨a, ha⟩ := hgi
        exact ⟨a, by rw [he, ha], hb⟩))
      clear hgv HGt
      go_wp2_with fail
      refine HGu.out.mono ?_
      rintro e w8 ⟨a8, rfl, hb8⟩
      have HB8 := hid (HB6.out.trans (hb8.mono HB6.out.size))
      clear hb8 HGu HB6
      go_wp2_with fail
      go_ret
      exact ⟨rfl, HB8.out⟩
  | none =>
    have HM := hid (number_bad sl (by omega) hnum wc (HL.out.below HB4.out))
    clear hnum
    go_wp2_with fail
    refine HM.out.mono ?_
    rintro e w5 ⟨a5, rfl, hb5⟩
    have HB5 := hid (HB4.out.trans (hb5.mono HB4.out.size))
    clear hb5 HM HB4
    have HGt := hid (get _ bl w5 (HR.out.below HB5.out (Nat.le_refl _)) (by omega) (HL.out.below HB5.out))
    cases hgv : vget bl with
    | ok u k =>
      obtain ⟨e1, e2, e3, e4⟩ := vget_ok hgv
      have hk1 : 1 ≤ k := by rw [e2]; exact vb_pos u
      obtain ⟨bb, oo, rfl⟩ := HR.out.addr (by rw [bys_len]; omega)
      have hcc := HR.out.cap
      have HGu := hid (HGt.out.mono (R' := fun e w' => e = .returned (.tuple #[.int .i64 (zag u), .int .i64 (k : Int), .nilIface]) ∧ Below w5.heap.size w5 w') (fun e w' ⟨r, he, hgi, hb⟩ => by
        unfold GetIs at hgi
        rw [hgv] at hgi
        exact ⟨by rw [he, hgi], hb⟩))
      have hzb := zag_bd u e4
      have HPu := hid (fun W => put (.slice none 0 0) [] (zag u) hzb.1 hzb.2 W (Reads.nil W) (by simp))
      simp only [List.nil_append, zig_zag, e1] at HPu
      clear hgv e1 e2 e4 hzb HGt
      generalize zag u = z at *
      go_wp2_with fail
      refine HGu.out.mono ?_
      rintro e w8 ⟨rfl, hb8⟩
      have HB8 := hid (HB5.out.trans (hb8.mono HB5.out.size))
      have HR8 := hid (HR.out.below HB8.out (Nat.le_refl _))
      have hk2 : (k : Int) ≤ (c : Int) := by omega
      have hk3 : (0 : Int) ≤ (k : Int) := by omega
      have hk4 : (k : Int) ≤ (bl.length : Int) := by omega
      clear hb8 HGu HB5
      go_wp2_with fail
      go_region_with (first
        | (go_at_call 22; refine (HPu.out _).mono ?_; rintro e w9 ⟨r9, rfl, hown9, hb9⟩)
        | (go_at_call 28; refine (sameBytes_same _ _ (bl.take k) _ (reads_of_row hown9) (reads_take (below_reads hb9 (Nat.le_refl _) HR8.out) k (by omega))).mono ?_; rintro e w10 ⟨rfl, rfl⟩))
      all_goals go_wp2_with fail
      all_goals go_ret
      all_goals exact ⟨rfl, HB8.out.drew.trans (hb9.mono HB8.out.size)⟩
    | long =>
      have HGu := hid (HGt.out.mono (R' := fun e w' => ∃ a, e = .returned (.tuple #[.int .i64 0, .int .i64 0, .iface 211 (.pointer (some a))]) ∧ Below w5.heap.size w5 w') (fun e w' ⟨r, he, hgi, hb⟩ => by
        unfold GetIs at hgi
        rw [hgv] at hgi
        obtain ⟨a, ha⟩ := hgi
        exact ⟨a, by rw [he, ha], hb⟩))
      clear hgv HGt
      go_wp2_with fail
      refine HGu.out.mono ?_
      rintro e w8 ⟨a8, rfl, hb8⟩
      have HB8 := hid (HB5.out.trans (hb8.mono HB5.out.size))
      clear hb8 HGu HB5
      go_wp2_with fail
      go_ret
      exact ⟨rfl, HB8.out⟩
    | ends =>
      have HGu := hid (HGt.out.mono (R' := fun e w' => ∃ a, e = .returned (.tuple #[.int .i64 0, .int .i64 0, .iface 211 (.pointer (some a))]) ∧ Below w5.heap.size w5 w') (fun e w' ⟨r, he, hgi, hb⟩ => by
        unfold GetIs at hgi
        rw [hgv] at hgi
        obtain ⟨a, ha⟩ := hgi
        exact ⟨a, by rw [he, ha], hb⟩))
      clear hgv HGt
      go_wp2_with fail
      refine HGu.out.mono ?_
      rintro e w8 ⟨a8, rfl, hb8⟩
      have HB8 := hid (HB5.out.trans (hb8.mono HB5.out.size))
      clear hb8 HGu HB5
      go_wp2_with fail
      go_ret
      exact ⟨rfl, HB8.out⟩
end Go.Proofs.YtdinjplbbmhleaaDoor
