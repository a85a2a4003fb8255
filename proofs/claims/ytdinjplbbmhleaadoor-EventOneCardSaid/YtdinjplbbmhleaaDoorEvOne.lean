/-
  The walk of EventOne: it answers true, whatever bytes it is called with.
-/
import Derived.Test.YtdinjplbbmhleaaDoorEvFirst
namespace Go.Proofs.YtdinjplbbmhleaaDoor
open Go.RowKit Go.Maps W
attribute [local go_sem ↓] Go.wp_at_zero Go.wp_at_succ

theorem row_blk {w : World} {base n : Nat} {v : Value} {xs : List Value} {t : TypeId} (h : w.ownsRow base t 1 v n xs) (h0 : 0 < n) : ∃ g c cs, v = .slice (some ⟨g, 0, none⟩) n c ∧ base ≤ g ∧ Blk w g t cs ∧ n ≤ cs.size ∧ n ≤ c := by
  rcases h.2 with ⟨_, h1⟩ | ⟨g, cap, cur, rfl, hb, hg, hn, hc, hs, _⟩
  · omega
  · exact ⟨g, cap, cur, rfl, hb, hg, by omega, hn⟩
theorem bytes_pos (e : Ev) : 1 ≤ e.bytes.length := by
  unfold Ev.bytes
  have := vb_pos (zig e.kind)
  simp
  omega

set_option maxHeartbeats 8000000 in
set_option maxRecDepth 100000 in
theorem evOne (v : Value) (b : List UInt8) (w : World) (hL : LaidE w) (hLW : Laid w) (hv : Reads w v (bys b)) (hs : b.length ≤ 9223372036854775807) :
    Calls Tryd.prog 11 #[v] w fun e w' => e = .returned (.bool true) ∧ Below w.heap.size w w' := by
  obtain ⟨A, cap, rfl⟩ := hv.shape
  rw [bys_len] at hv ⊢
  have HL := hid hL
  have HF := hid (first2 w hL)
  by_cases hbig : 16384 < b.length
  case pos =>
    have t1 : decide ((16384 : Int) < (b.length : Int)) = true := by simp; omega
    clear hL hLW hv
    go_enter Tryd.func11, Tryd.ntmps11
    go_wp2_with fail
    refine HF.out.mono ?_
    rintro e w1 ⟨rfl, hb⟩
    have HB := hid hb
    clear hb
    go_wp2
    go_ret
    exact ⟨rfl, HB.out⟩
  case neg =>
  have t1 : decide ((16384 : Int) < (b.length : Int)) = false := by simp; omega
  have hcap := hv.cap
  have HV := hid hv
  have HFR := hid (fun W (hb : Below w.heap.size w W) => fromCall (.slice A b.length cap) b W (hv.below hb (Nat.le_refl _)) (by omega) (HL.out.below hb) (hLW.below hb))
  clear hL hLW hv
  go_enter Tryd.func11, Tryd.ntmps11
  go_wp2_with fail
  refine HF.out.mono ?_
  rintro e w1 ⟨rfl, hb1⟩
  have HB1 := hid hb1
  clear hb1 HF
  go_wp2_with fail
  refine (HFR.out _ HB1.out).mono ?_
  rintro e w2 ⟨x, n, ve, rfl, hfo, hb2⟩
  have HB2 := hid (HB1.out.trans (hb2.mono HB1.out.size))
  clear hb2 HFR HB1
  rcases hfo with ⟨rfl, rfl, a, rfl⟩ | ⟨e, pos, rfl, rfl, rfl, hok, hei, hbt, hpl, hp1⟩
  case inl =>
    have hN := fun W a => neq_nil 211 a (.inr rfl) W
    have HSE := hid (sameEv .zero (w2.alloc (.cells (evArr .zero) 62)))
    have HX2 := hid (HB2.out.alloc HB2.out.size (.cells (evArr .zero) 62))
    unfold evArr Ev.zero at HSE
    unfold evArr Ev.zero
    go_wp2_with fail
    refine HSE.out.mono ?_
    rintro e w3 ⟨rfl, hb3⟩
    have HB3 := hid (HX2.out.trans (hb3.mono HX2.out.size))
    clear hb3 HSE
    go_wp2_with fail
    go_ret
    exact ⟨rfl, HB3.out⟩
  case inr =>
  have HOK := hid hok
  have HEI := hid hei
  have HBT := hid hbt
  obtain ⟨bb, oo, rfl⟩ := HV.out.addr (by rw [bys_len]; omega)
  have HX2 := hid (HB2.out.alloc HB2.out.size (.cells (evArr e) 62))
  have HE2 := hid (Blk.new w2 62 (evArr e))
  have HBY := hid (bytesCall e (w2.alloc (.cells (evArr e) 62)) (HL.out.below HX2.out) hei.1 (hei.2 .R).2)
  clear hok hei hbt
  unfold evArr at HBY
  unfold evArr
  go_wp2_with fail
  refine HBY.out.mono ?_
  rintro r w3 ⟨y, ve, rfl, hve, hy, _, hb3⟩
  obtain rfl : ve = .nilIface := by
    rcases hve with ⟨_, h⟩ | ⟨hno, _⟩
    · exact h
    · exact absurd HOK.out hno
  have hown := hy HOK.out
  obtain ⟨g, cy, cs, rfl, hg, hblk, hcs, hcy⟩ := row_blk hown (bytes_pos e)
  rw [World.size_alloc] at hg
  have HO3 := hid hown
  have HB3 := hid (HX2.out.trans (hb3.mono HX2.out.size))
  have HE3 := hid (HE2.out.below hb3 (by simp))
  have HK3 := hid hblk
  have hbl := bytes_pos e
  have hble : e.bytes.length ≤ b.length := by rw [← HBT.out, List.length_take]; omega
  have HSB := hid (sameBytes_same (.slice (some ⟨g, 0, none⟩) e.bytes.length cy) (.slice (some ⟨bb, oo, none⟩) pos cap) e.bytes w3 (reads_of_row hown) (by rw [← HBT.out]; exact reads_take (HV.out.below HB3.out (Nat.le_refl _)) pos hpl))
  clear hve hy hown hb3 HBY hblk
  obtain ⟨nb, hnb⟩ : ∃ nb, e.bytes.length = nb := ⟨_, rfl⟩
  rw [hnb] at hcs hcy HSB hbl hble ⊢
  have HNB := hid hnb
  clear hnb
  go_wp2_with fail
  refine HSB.out.mono ?_
  rintro r w4 ⟨rfl, rfl⟩
  go_wp2_with fail
  go_loopw [10] (fun si wr => ∃ (k : Nat) (cs : Array Value), si = .int .i64 k ∧ k ≤ nb ∧ Blk wr g 5 cs ∧ nb ≤ cs.size ∧ Below (w2.heap.size + 1) w3 wr) (fun si _ => nb - (intOf si).toNat)
  case atStart => exact ⟨0, cs, rfl, Nat.zero_le _, HK3.out, hcs, Below.refl _ _⟩
  case round =>
    obtain ⟨k, cs2, rfl, hk, hblk, hcs2, hbr⟩ := hrel
    have HK := hid hblk
    have HBR := hid hbr
    have HC2 := hid hcs2
    have hbf := hblk.frozen k
    have lg := hblk.lt
    by_cases hlt : k < nb
    · obtain ⟨u, hu⟩ : ∃ u, wr.cell? ⟨g, k, none⟩ = some u := ⟨cs2[k], by rw [hblk.cell]; exact Array.getElem?_eq_getElem (by omega)⟩
      clear hblk hcs2 hbr
      go_wp2_with fail
      go_roundw
      case rel => exact ⟨k + 1, _, by go_num, by omega, HK.out.put k _, by rw [Array.size_setIfInBounds]; exact HC2.out, HBR.out.setCell (p := ⟨g, k, none⟩) hg _⟩
      case measure => simp [intOf] <;> omega
    · have HER := hid (HE3.out.below hbr (by omega))
      have HBW := hid (HB3.out.trans (hbr.mono (by have := HB2.out.size; omega)))
      have HBY2 := hid (bytesCall e wr (HL.out.below HBW.out) HEI.out.1 (HEI.out.2 .R).2)
      have k0 := HER.out.cell 0
      have k1 := HER.out.cell 1
      have k2 := HER.out.cell 2
      have k3 := HER.out.cell 3
      have k4 := HER.out.cell 4
      have k5 := HER.out.cell 5
      have k6 := HER.out.cell 6
      have k7 := HER.out.cell 7
      have lE := HER.out.lt
      simp only [evArr] at k0 k1 k2 k3 k4 k5 k6 k7
      unfold evArr at HBY2
      clear hblk hcs2 hbr
      go_wp2_with fail
      refine HBY2.out.mono ?_
      rintro r w5 ⟨y2, ve2, rfl, hve2, hy2, _, hb5⟩
      obtain rfl : ve2 = .nilIface := by
        rcases hve2 with ⟨_, h⟩ | ⟨hno, _⟩
        · exact h
        · exact absurd HOK.out hno
      have hown2 := hy2 HOK.out
      obtain ⟨g2, cy2, _, rfl, _, _, _, _⟩ := row_blk hown2 (bytes_pos e)
      have HB5 := hid (HBW.out.trans (hb5.mono HBW.out.size))
      have HSB2 := hid (sameBytes_same (.slice (some ⟨g2, 0, none⟩) e.bytes.length cy2) (.slice (some ⟨bb, oo, none⟩) pos cap) e.bytes w5 (reads_of_row hown2) (by rw [← HBT.out]; exact reads_take (HV.out.below HB5.out (Nat.le_refl _)) pos hpl))
      rw [HNB.out] at HSB2 ⊢
      clear hve2 hy2 hown2 hb5 HBY2 k0 k1 k2 k3 k4 k5 k6 k7
      go_wp2_with fail
      refine HSB2.out.mono ?_
      rintro r w6 ⟨rfl, rfl⟩
      go_wp2_with fail
      go_ret
      exact ⟨rfl, HB5.out⟩
end Go.Proofs.YtdinjplbbmhleaaDoor
