/-
  WordWords: for every line and every words (joined not longer than a bound) the law answers true, and nothing that was there has turned.
-/
import Derived.Test.YtdinjplbbmhleaaDoorJoin
import Derived.Test.YtdinjplbbmhleaaDoorOwn
namespace Go.Proofs.YtdinjplbbmhleaaDoor
open Go.RowKit Go.Maps W

theorem reads_prefix {w : World} {A : Option Addr} {n c : Nat} {xs : List Value} (h : Reads w (.slice A n c) xs) (k : Nat) (hk : k ≤ xs.length) : Reads w (.slice A k c) (xs.take k) := by
  obtain ⟨A', c', b, o, he, hA, hA2, hc, hcells⟩ := h
  injection he with e1 e2 e3
  subst e1 e3
  have hl : (xs.take k).length = k := by simp; omega
  refine ⟨A, c, b, o, by rw [hl], fun h => ?_, fun a ha hp => hA2 a ha (by omega), by omega, fun j u hj => hcells j u ?_⟩
  · have := hA h
    omega
  · have hjk : j < k := by
      have := (List.getElem?_eq_some_iff.1 hj).1
      omega
    rwa [List.getElem?_take_of_lt hjk] at hj

set_option maxHeartbeats 8000000 in
set_option maxRecDepth 100000 in
theorem wordsLaw (sl : List UInt8) (v : Value) (ws : List (List UInt8)) (w : World) (hL : Laid w) (hv : Reads w v (txs ws)) (hs : sl.length ≤ 1000000000) (hn : ws.length ≤ 100000000) (hlen : (Lib.join ws [32]).length ≤ 1000000000) :
    Calls Tryd.prog 3 #[.string ⟨sl.toArray⟩, v] w fun e w' => e = .returned (.bool true) ∧ Below w.heap.size w w' := by
  obtain ⟨j0, ji, jz0, jz1, jz2⟩ := info_parts infoS
  obtain ⟨A, c, b, o, rfl, hA, hA2, hc, hcells⟩ := hv
  rw [txs_len] at hA hA2 hc ⊢
  have HRv := hid (show Reads w (.slice A ws.length c) (txs ws) from ⟨A, c, b, o, by rw [txs_len], by rw [txs_len]; exact hA, by rw [txs_len]; exact hA2, by rw [txs_len]; exact hc, hcells⟩)
  have HV := hid hcells
  have HA := hid (And.intro hA hA2)
  have hF := hid (first w hL)
  have hwl : (W.words sl).length ≤ sl.length + 1 := by have := wl_len sl []; unfold W.words; omega
  have hWc := hid (fun W => wordsCall sl (by omega) W)
  have hWr := hid (fun W => wordsRef sl (by omega) W)
  have hSc := hid (fun W => silentCall sl (by omega) W)
  have hSr := hid (fun W => silentRef sl (by omega) W)
  generalize silent sl = sb at *
  generalize W.words sl = lw at *
  clear hcells hA hA2 hL
  go_enter Tryd.func3, Tryd.ntmps3
  go_wp2_with fail
  refine hF.out.mono ?_
  rintro e w1 ⟨rfl, hb1⟩
  have HB1 := hid hb1
  clear hF hb1
  go_wp2_with fail
  go_loop [6, 7] (fun a i => ∃ k s : Nat, k ≤ ws.length ∧ k ≤ 1001 ∧ a = .int .i64 s ∧ i = .int .i64 k ∧ s ≤ 65536 * k) (fun _ i => 1002 - (intOf i).toNat)
  case atStart => exact ⟨0, 0, Nat.zero_le _, by omega, rfl, rfl, by omega⟩
  case round =>
    obtain ⟨k, s, hk, hk3, rfl, rfl, hs2⟩ := hrel
    by_cases hlt : k < ws.length
    · by_cases hk1 : k ≤ 1000
      · obtain ⟨x, hx⟩ : ∃ x, ws[k]? = some x := ⟨ws[k], List.getElem?_eq_getElem hlt⟩
        have hA' : A = some ⟨b, o, none⟩ := by
          cases A with
          | none => have := HA.out.1 rfl; omega
          | some z => rw [HA.out.2 z rfl (by omega)]
        subst hA'
        have c0 : w.cell? ⟨b, o + k, none⟩ = some (str x) := HV.out k _ (by simp [txs, hx])
        have c1 : w1.cell? ⟨b, o + k, none⟩ = some (.string ⟨x.toArray⟩) := (HB1.out.cell (p := ⟨b, o + k, none⟩) (World.block_lt_of_cell? w _ c0)).trans c0
        have t1 : decide ((k : Int) ≤ 1000) = true := by simp; omega
        clear c0 hx
        go_wp2
        exact ⟨⟨k + 1, s + min x.length 65536, by omega, by omega, by rw [show ((s + min x.length 65536 : Nat) : Int) = (s : Int) + min (x.length : Int) 65536 by omega], by go_num, by omega⟩, by simp [intOf]; omega⟩
      · have t1 : decide ((k : Int) ≤ 1000) = false := by simp; omega
        by_cases h1 : 65536 < sl.length
        · have t2 : decide ((65536 : Int) < (sl.length : Int)) = true := by simp; omega
          go_wp2
          go_ret
          exact ⟨rfl, HB1.out⟩
        · have t2 : decide ((65536 : Int) < (sl.length : Int)) = false := by simp; omega
          have t3 : decide ((1000 : Int) < (ws.length : Int)) = true := by simp; omega
          go_wp2
          go_ret
          exact ⟨rfl, HB1.out⟩
    · by_cases h1 : 65536 < sl.length
      · have t2 : decide ((65536 : Int) < (sl.length : Int)) = true := by simp; omega
        go_wp2
        go_ret
        exact ⟨rfl, HB1.out⟩
      have t2 : decide ((65536 : Int) < (sl.length : Int)) = false := by simp; omega
      by_cases h2 : 1000 < ws.length
      · have t3 : decide ((1000 : Int) < (ws.length : Int)) = true := by simp; omega
        go_wp2
        go_ret
        exact ⟨rfl, HB1.out⟩
      have t3 : decide ((1000 : Int) < (ws.length : Int)) = false := by simp; omega
      by_cases h3 : 65536 < s
      · have t4 : decide ((65536 : Int) < (s : Int)) = true := by simp; omega
        go_wp2
        go_ret
        exact ⟨rfl, HB1.out⟩
      have t4 : decide ((65536 : Int) < (s : Int)) = false := by simp; omega
      have HR1 := hid (HRv.out.below HB1.out (Nat.le_refl _))
      have HC := hid (copyTexts _ ws w1 HR1.out (by omega))
      go_wp2_with fail
      refine HC.out.mono ?_
      rintro e w2 ⟨r2, rfl, hown2, hb2⟩
      obtain ⟨A2, cap2, rfl⟩ := row_shape hown2
      have HB2 := hid (HB1.out.trans (hb2.mono HB1.out.size))
      have HO2 := hid (row_base hown2 HB1.out.size)
      clear hb2 hown2 HC HR1 HB1
      have HRd := hid (show Reads (w2.alloc (.cells #[.string ⟨#[98, 101, 104, 105, 110, 100]⟩, .string ⟨#[105, 116]⟩] 9)) (.slice (some ⟨w2.heap.size, 0, none⟩) 2 2) (txs [[98, 101, 104, 105, 110, 100], [105, 116]]) from reads_block (heap_alloc_new w2 _) rfl)
      have hl2 : (txs [[98, 101, 104, 105, 110, 100], [105, 116]]).length = 2 := rfl
      have HL2 := hid hl2
      clear hl2
      go_wp2_with (at_builtin; refine wpList_append_reads rfl (.tmp 49) (.tmp 50) 22 rfl w.heap.size 9 j0 (.string .empty) 16 Tryd.underlying22 ji jz0 jz1 jz2 rfl _ _ _ rfl (HO2.out.alloc _) _ _ rfl HRd.out (txs_one _) (by rw [HL2.out]; unfold maxLen; omega) (by rw [HL2.out]; omega) (by have := HB2.out.size; simp; omega) ?_; rw [HL2.out]; intro v3 w3 hown3 hgrow3; obtain ⟨g3, cap3, rfl⟩ := row_some hown3 (by omega))
      have HB3 := hid (grown_below HB2.out HB2.out.size HO2.out (Nat.le_refl _) hgrow3)
      rw [← txs_append] at hown3
      have HO3 := hid hown3
      clear hown3 hgrow3 HO2 HB2 HRd HL2
      have HM := hid (fun w' (hb : Below w3.heap.size w3 w') => row_only HO3.out (Only.of_below (S := []) hb (Nat.le_refl _)) (by simp))
      have hcap : ws.length + 2 ≤ cap3 := by
        have h := reads_of_row HO3.out
        obtain ⟨A', c', b', o', he, _, _, hc', _⟩ := h
        injection he with e1 e2 e3
        omega
      have hcap0 : (ws.length : Int) ≤ (cap3 : Int) := by omega
      have htk : (txs (ws ++ [[98, 101, 104, 105, 110, 100], [105, 116]])).take ws.length = txs ws := by rw [txs_append, List.take_append_of_le_length (by rw [txs_len]; omega), List.take_of_length_le (by rw [txs_len]; omega)]
      have HP := hid (fun w' (hb : Below w3.heap.size w3 w') => by have h := reads_prefix (reads_of_row (HM.out w' hb)) ws.length (by rw [txs_len]; simp); rwa [htk] at h)
      clear HO3 htk
      refine (hWc.out _).mono ?_
      rintro e w4 ⟨A4, rfl, _, hown4, hb4⟩
      have HB4 := hid (HB3.out.trans (hb4.mono HB3.out.size))
      have HO4 := hid (fun w' (hb : Below w4.heap.size w4 w') => (reads_of_row hown4).below hb (Nat.le_refl _))
      have HE4 := hid hb4
      clear hb4 hown4 HB3
      go_wp2_with fail
      refine (hWr.out _).mono ?_
      rintro e w5 ⟨r5, rfl, hown5, hb5⟩
      have HB5 := hid (HB4.out.trans (hb5.mono HB4.out.size))
      have HE5 := hid (HE4.out.trans (hb5.mono HE4.out.size))
      have HS5 := hid (sameTexts_same _ _ lw w5 (HO4.out w5 hb5) (reads_of_row hown5) (by omega))
      clear hb5 hown5 HO4 HB4 HE4
      go_wp2_with fail
      refine HS5.out.mono ?_
      rintro e w6 ⟨rfl, hb6⟩
      have HB6 := hid (HB5.out.trans (hb6.mono HB5.out.size))
      have HE6 := hid (HE5.out.trans (hb6.mono HE5.out.size))
      have HJ := hid (joinCall _ ws w6 (HP.out w6 HE6.out) (by omega) hlen)
      clear hb6 HS5 HB5 HE5
      go_wp2_with fail
      refine HJ.out.mono ?_
      rintro e w7 ⟨rfl, hb7⟩
      have HB7 := hid (HB6.out.trans (hb7.mono HB6.out.size))
      have HE7 := hid (HE6.out.trans (hb7.mono HE6.out.size))
      have HS7 := hid (sameTexts_same _ _ ws w7 (HP.out w7 HE7.out) (HRv.out.below HB7.out (Nat.le_refl _)) (by omega))
      clear hb7 HJ HB6 HE6
      go_wp2_with fail
      refine HS7.out.mono ?_
      rintro e w8 ⟨rfl, hb8⟩
      have HB8 := hid (HB7.out.trans (hb8.mono HB7.out.size))
      have HE8 := hid (HE7.out.trans (hb8.mono HE7.out.size))
      have c8 : w8.cell? ⟨g3, ws.length, none⟩ = some (.string ⟨#[98, 101, 104, 105, 110, 100]⟩) := by
        rw [(HM.out w8 HE8.out).cellAt ws.length (by omega)]
        simp [txs, str]
      have c9 : w8.cell? ⟨g3, ws.length + 1, none⟩ = some (.string ⟨#[105, 116]⟩) := by
        rw [(HM.out w8 HE8.out).cellAt (ws.length + 1) (by omega)]
        simp [txs, str]
      have HJ2 := hid (joinRef _ ws w8 (HRv.out.below HB8.out (Nat.le_refl _)) (by omega) hlen)
      clear hb8 HS7 HB7 HE7 HM HP HE8
      generalize Lib.join ws [32] = jl at *
      go_wp2_with fail
      refine HJ2.out.mono ?_
      rintro e w9 ⟨rfl, hb9⟩
      have HB9 := hid (HB8.out.trans (hb9.mono HB8.out.size))
      clear hb9 HJ2 HB8 c8 c9
      go_wp2_with fail
      refine (hSc.out _).mono ?_
      rintro e w10 ⟨rfl, rfl⟩
      go_wp2_with fail
      refine (hSr.out _).mono ?_
      rintro e w10 ⟨rfl, rfl⟩
      have hsb : (sb == sb) = true := by simp
      go_wp2_with fail
      go_ret
      exact ⟨rfl, HB9.out⟩
end Go.Proofs.YtdinjplbbmhleaaDoor
