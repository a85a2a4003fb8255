/-
  WordOwn: for every line and every number the law answers true, and nothing that was there has turned.
-/
import Derived.Test.YtdinjplbbmhleaaDoorRef
namespace Go.Proofs.YtdinjplbbmhleaaDoor
open Go.RowKit Go.Maps W

theorem rows_apart {w : World} {b1 b2 e1 e2 n c m : Nat} {g : Nat} {v : Value} {xs ys : List Value} (h : w.ownsRow b1 e1 1 (.slice (some ⟨g, 0, none⟩) n c) n xs) (h2 : w.ownsRow b2 e2 1 v m ys) (hne : e1 ≠ e2) : v.ownBlock ≠ some g := by
  intro e
  rcases h.2 with ⟨h', _⟩ | ⟨g', cap', cur, h', _, hg, _⟩
  · simp at h'
  · simp only [Value.slice.injEq, Option.some.injEq, Addr.mk.injEq, and_true, true_and] at h'
    obtain ⟨rfl, rfl⟩ := h'
    rcases h2.2 with ⟨rfl, _⟩ | ⟨g2, cap2, cur2, rfl, _, hg2, _⟩
    · simp [Value.ownBlock] at e
    · obtain rfl : g2 = g := by simpa [Value.ownBlock] using e
      rw [hg] at hg2
      injection hg2 with hg2
      injection hg2 with _ h3
      exact hne h3
theorem row_at {w : World} {b e n c g : Nat} {xs : List Value} (h : w.ownsRow b e 1 (.slice (some ⟨g, 0, none⟩) n c) n xs) (j : Nat) (hj : j < n) : ∃ u, w.cell? ⟨g, j, none⟩ = some u := by
  have h1 := h.cellAt j (by omega)
  have hl : xs.length = n := by simpa using h.1
  exact ⟨xs[j]'(by omega), by rw [h1]; exact List.getElem?_eq_getElem (by omega)⟩
theorem row_some {w : World} {b e n : Nat} {v : Value} {xs : List Value} (h : w.ownsRow b e 1 v n xs) (h0 : 0 < n) : ∃ g c, v = .slice (some ⟨g, 0, none⟩) n c := by
  rcases row_cases h with ⟨_, h0', _⟩ | ⟨g, cap, h', _⟩
  · omega
  · exact ⟨g, cap, h'⟩

theorem wl_len : ∀ (l cur : List UInt8), (wl cur l).length ≤ l.length + 1
  | [], cur => by rw [wl]; split <;> simp
  | c :: r, cur => by
    rw [wl]
    split
    · split
      · have := wl_len r []
        simp; omega
      · have := wl_len r []
        simp; omega
    · have := wl_len r (cur ++ [c])
      simp; omega

theorem own_big (sl : List UInt8) (n : Int) (w : World) (hL : Laid w) (hbig : 65536 < sl.length) (hs : sl.length ≤ 9223372036854775807) :
    Calls Tryd.prog 6 #[.string ⟨sl.toArray⟩, .int .i64 n] w fun e w' => e = .returned (.bool true) ∧ Below w.heap.size w w' := by
  have hF := hid (first w hL)
  have t1 : decide ((65536 : Int) < (sl.length : Int)) = true := by simp; omega
  clear hL
  go_enter Tryd.func6, Tryd.ntmps6
  go_wp2_with fail
  refine hF.out.mono ?_
  rintro e w1 ⟨rfl, hb⟩
  have HB := hid hb
  clear hb
  go_wp2
  go_ret
  exact ⟨rfl, HB.out⟩

set_option maxHeartbeats 8000000 in
set_option maxRecDepth 100000 in
theorem ownLaw (sl : List UInt8) (n : Int) (h0 : -9223372036854775808 ≤ n) (h1 : n ≤ 9223372036854775807) (w : World) (hL : Laid w) (hs : sl.length ≤ 9223372036854775807) :
    Calls Tryd.prog 6 #[.string ⟨sl.toArray⟩, .int .i64 n] w fun e w' => e = .returned (.bool true) ∧ Below w.heap.size w w' := by
  by_cases hbig : 65536 < sl.length
  · exact own_big sl n w hL hbig hs
  have t1 : decide ((65536 : Int) < (sl.length : Int)) = false := by simp; omega
  have hsm : sl.length ≤ 65536 := by omega
  have hF := hid (first w hL)
  obtain ⟨i0, hi, hz0, hz1, hz2⟩ := info_parts infoB
  obtain ⟨j0, ji, jz0, jz1, jz2⟩ := info_parts infoS
  have hP := hid (fun W => put (.slice none 0 0) [] n h0 h1 W (Reads.nil W) (by simp))
  simp only [List.nil_append] at hP
  have hWc := hid (fun W => wordsCall sl (by omega) W)
  have hWr := hid (fun W => wordsRef sl (by omega) W)
  have hBr := hid (fun W => bytesRef n h0 h1 W)
  have hwl : (W.words sl).length ≤ 65537 := by have := wl_len sl []; unfold W.words; omega
  have hl1 := vb_pos (zig n)
  have hl2 := vb_ten (zig n) (zig_lt n h0 h1)
  generalize vb (zig n) = lb at *
  generalize W.words sl = ws at *
  clear hL hbig hs
  go_enter Tryd.func6, Tryd.ntmps6
  go_wp2_with fail
  refine hF.out.mono ?_
  rintro e w1 ⟨rfl, hb1⟩
  clear hF
  go_wp2_with fail
  go_loopw [6] (fun si wr => ∃ k : Nat, si = .int .i64 k ∧ k ≤ 2 ∧ Below w.heap.size w wr) (fun si _ => 2 - (intOf si).toNat)
  case atStart => exact ⟨0, rfl, by omega, hb1⟩
  case round =>
    obtain ⟨k, rfl, hk, hb⟩ := hrel
    have HB := hid hb
    clear hb hb1
    obtain ⟨wo, rfl⟩ : ∃ wo : World, wo = wr := ⟨_, rfl⟩
    by_cases hlt : k < 2
    · go_wp2_with fail
      refine (hWc.out _).mono ?_
      rintro e w2 ⟨A2, rfl, hA2, hown2, hb2⟩
      have HB2 := hid (HB.out.trans (hb2.mono HB.out.size))
      have HO2 := hid (fun w' (hb : Below w2.heap.size w2 w') => row_only hown2 (Only.of_below (S := []) hb (Nat.le_refl _)) (by simp))
      clear hb2 hown2
      go_wp2_with fail
      refine (hP.out _).mono ?_
      rintro e w3 ⟨r3, rfl, hown3, hb3⟩
      obtain ⟨g3, cap3, rfl⟩ := row_some hown3 (by omega)
      have HB3 := hid (HB2.out.trans (hb3.mono HB2.out.size))
      have HA3 := hid (row_base (HO2.out w3 hb3) HB.out.size)
      have HR3 := hid (row_base hown3 HB2.out.size)
      have hge : w.heap.size ≤ wo.heap.size := HB.out.size
      have hge2 : w.heap.size ≤ w2.heap.size := HB2.out.size
      have hg3 : w2.heap.size ≤ g3 := (row_own hown3 rfl).1
      clear hb3 hown3 HO2 HB HB2
      go_wp2_with fail
      go_loopw [9] (fun si wx => ∃ (j : Nat) (xs : List Value), si = .int .i64 j ∧ j ≤ ws.length ∧ wx.ownsRow w.heap.size 9 1 (.slice (some ⟨A2, 0, none⟩) ws.length ws.length) ws.length xs ∧ wx.ownsRow w.heap.size 5 1 (.slice (some ⟨g3, 0, none⟩) lb.length cap3) lb.length (bys lb) ∧ Below w.heap.size w wx) (fun si _ => ws.length - (intOf si).toNat)
      case atStart => exact ⟨0, _, rfl, Nat.zero_le _, HA3.out, HR3.out, HB3.out⟩
      case round =>
        obtain ⟨j, xs, rfl, hj, hoa, hob, hbx⟩ := hrel
        have HA := hid hoa
        have HR := hid hob
        have HBx := hid hbx
        clear hoa hob hbx HA3 HR3 HB3
        by_cases hjl : j < ws.length
        · obtain ⟨u, hu⟩ := row_at HA.out j hjl
          have fz := HA.out.frozenAt j
          have hst := HA.out.stored j (.string ⟨#[115, 112, 111, 105, 108, 116]⟩)
          have HS := hid hst.1
          have HT := hid (HR.out.kept hst.2 (.inr (rows_apart HA.out HR.out (by decide))))
          have HU := hid (HBx.out.setCell (p := ⟨A2, j, none⟩) (by show w.heap.size ≤ A2; omega) (.string ⟨#[115, 112, 111, 105, 108, 116]⟩))
          clear hst
          go_wp2
          go_roundw
          case rel => exact ⟨j + 1, _, by go_num, by omega, HS.out, HT.out, HU.out⟩
          case measure => simp [intOf] <;> omega
        · go_wp2_with fail
          obtain ⟨wo2, rfl⟩ : ∃ wo : World, wo = wr := ⟨_, rfl⟩
          go_loopw [10] (fun si wx => ∃ (j : Nat) (ys : List Value), si = .int .i64 j ∧ j ≤ lb.length ∧ wx.ownsRow w.heap.size 9 1 (.slice (some ⟨A2, 0, none⟩) ws.length ws.length) ws.length xs ∧ wx.ownsRow w.heap.size 5 1 (.slice (some ⟨g3, 0, none⟩) lb.length cap3) lb.length ys ∧ Below w.heap.size w wx) (fun si _ => lb.length - (intOf si).toNat)
          case atStart => exact ⟨0, _, rfl, Nat.zero_le _, HA.out, HR.out, HBx.out⟩
          case round =>
            obtain ⟨j2, ys, rfl, hj2, hoa, hob, hbx⟩ := hrel
            have HA5 := hid hoa
            have HR5 := hid hob
            have HB5 := hid hbx
            clear hoa hob hbx HA HR HBx
            by_cases hjl2 : j2 < lb.length
            · obtain ⟨u, hu⟩ := row_at HR5.out j2 hjl2
              have fz := HR5.out.frozenAt j2
              have hst := HR5.out.stored j2 (.int .u8 238)
              have HS := hid hst.1
              have HT := hid (HA5.out.kept hst.2 (.inr (rows_apart HR5.out HA5.out (by decide))))
              have HU := hid (HB5.out.setCell (p := ⟨g3, j2, none⟩) (by show w.heap.size ≤ g3; omega) (.int .u8 238))
              clear hst
              go_wp2
              go_roundw
              case rel => exact ⟨j2 + 1, _, by go_num, by omega, HT.out, HS.out, HU.out⟩
              case measure => simp [intOf] <;> omega
            · obtain ⟨wp, rfl⟩ : ∃ wo : World, wo = wr := ⟨_, rfl⟩
              go_wp2_with (first
                | (at_builtin; refine wpList_append_own _ rfl (.tmp 48) (.tmp 49) 22 rfl w.heap.size 9 j0 (.string .empty) 1 16 Tryd.underlying22 ji jz0 jz1 jz2 rfl (by decide) _ _ _ rfl (HA5.out.alloc _) ⟨wp.heap.size, 0, none⟩ 1 1 [_] rfl rfl (cell_one_new _ _ _) (by simp [Value.oneCell']) (by unfold maxLen; omega) (by omega) (by have := HB5.out.size; simp; omega) ?_; intro v6 w6 hown6 hgrow6 _; obtain ⟨A6, cap6, rfl⟩ := row_shape hown6; have hr6 := (HR5.out.alloc (.cells #[.string ⟨#[109, 111, 114, 101]⟩] 9)).kept hgrow6 (.inr (rows_apart HA5.out HR5.out (by decide))); have hb6 := grown_below HB5.out HB5.out.size HA5.out (Nat.le_refl _) hgrow6)
                | (at_builtin; refine wpList_append_own _ rfl (.tmp 51) (.tmp 52) 31 rfl w.heap.size 5 i0 (.int .u8 0) 1 1 Tryd.underlying31 hi hz0 hz1 hz2 rfl (by decide) _ _ _ rfl (hr6.alloc _) ⟨w6.heap.size, 0, none⟩ 1 1 [_] rfl rfl (cell_one_new _ _ _) (by simp [Value.oneCell']) (by unfold maxLen; omega) (by omega) (by have := hb6.size; simp; omega) ?_; intro v7 w7 hown7 hgrow7 _; obtain ⟨A7, cap7, rfl⟩ := row_shape hown7))
              have HB7 := hid (grown_below hb6 hb6.size hr6 (Nat.le_refl _) hgrow7)
              clear hown6 hgrow6 hown7 hgrow7 hr6 hb6
              go_roundw
              case rel => exact ⟨k + 1, by go_num, by omega, HB7.out⟩
              case measure => simp [intOf] <;> omega
    · go_wp2_with fail
      refine (hWc.out _).mono ?_
      rintro e w2 ⟨A2, rfl, hA2, hown2, hb2⟩
      have HB2 := hid (HB.out.trans (hb2.mono HB.out.size))
      have HO2 := hid (fun w' (hb : Below w2.heap.size w2 w') => (reads_of_row hown2).below hb (Nat.le_refl _))
      clear hb2 hown2
      go_wp2_with fail
      refine (hWr.out _).mono ?_
      rintro e w3 ⟨r3, rfl, hown3, hb3⟩
      have HB3 := hid (HB2.out.trans (hb3.mono HB2.out.size))
      have hs3 := sameTexts_same _ _ ws w3 (HO2.out w3 hb3) (reads_of_row hown3) (by omega)
      have HS3 := hid hs3
      clear hb3 hown3 HO2 HB2 hs3 HB
      go_wp2_with fail
      refine HS3.out.mono ?_
      rintro e w4 ⟨rfl, hb4⟩
      have HB4 := hid (HB3.out.trans (hb4.mono HB3.out.size))
      clear hb4 HB3 HS3
      go_wp2_with fail
      refine (hP.out _).mono ?_
      rintro e w5 ⟨r5, rfl, hown5, hb5⟩
      have HB5 := hid (HB4.out.trans (hb5.mono HB4.out.size))
      have HO5 := hid (fun w' (hb : Below w5.heap.size w5 w') => (reads_of_row hown5).below hb (Nat.le_refl _))
      clear hb5 hown5 HB4
      go_wp2_with fail
      refine (hBr.out _).mono ?_
      rintro e w6 ⟨r6, rfl, hown6, hb6⟩
      have HB6 := hid (HB5.out.trans (hb6.mono HB5.out.size))
      have HS6 := hid (sameBytes_same _ _ lb w6 (HO5.out w6 hb6) (reads_of_row hown6))
      clear hb6 hown6 HO5 HB5
      go_wp2_with fail
      refine HS6.out.mono ?_
      rintro e w7 ⟨rfl, rfl⟩
      clear HS6
      go_wp2_with fail
      go_ret
      exact ⟨rfl, HB6.out⟩
end Go.Proofs.YtdinjplbbmhleaaDoor
