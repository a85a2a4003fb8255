/-
  The walk of EventTables: it answers true, whatever it is called with; the plain law on codes and words beside it.
-/
import Derived.Test.YtdinjplbbmhleaaDoorEvFirst
import Derived.Test.YtdinjplbbmhleaaDoorCodeRef
namespace Go.Proofs.YtdinjplbbmhleaaDoor
open Go.RowKit Go.Maps W
attribute [local go_sem ↓] Go.wp_at_zero Go.wp_at_succ

/-- A code's word has that code. -/
theorem word_code (t c : Int) (h : wordOf t c ≠ []) : (codeOf t (wordOf t c) : Int) = c := by
  unfold wordOf at h ⊢
  by_cases hc : 1 ≤ c
  · rw [if_pos hc] at h ⊢
    obtain ⟨j, hj⟩ : ∃ j : Nat, c = (j : Int) + 1 := ⟨(c - 1).toNat, by omega⟩
    subst hj
    have e : ((j : Int) + 1 - 1).toNat = j := by omega
    rw [e] at h ⊢
    cases hx : (tabOf t)[j]? with
    | none => rw [hx] at h; simp at h
    | some y =>
      simp only [Option.getD_some]
      have key : ∀ k : Fin 9, ∀ n : Fin 7, ∀ y, (tabs n.val)[k.val]? = some y → codeL (tabs n.val) y = k.val + 1 := by
        have : ∀ k : Fin 9, ∀ n : Fin 7, codeL (tabs n.val) (((tabs n.val)[k.val]?).getD []) = k.val + 1 ∨ (tabs n.val)[k.val]? = none := by decide
        intro k n y hy
        rcases this k n with h | h
        · rw [hy] at h
          exact h
        · rw [hy] at h
          cases h
      have hlen := tab_len t
      have hj : j < (tabOf t).length := (List.getElem?_eq_some_iff.1 hx).1
      unfold codeOf
      have ht : t.toNat < 7 := by
        rcases tabs_cases t with ⟨h0, _⟩ | rfl | rfl | rfl | rfl | rfl | rfl
        · rw [h0] at hj; simp at hj
        all_goals decide
      have := key ⟨j, by omega⟩ ⟨t.toNat, ht⟩ y hx
      unfold tabOf
      simp only at this
      rw [this]
      omega
  · rw [if_neg hc] at h
    exact absurd rfl h
theorem codeL_get : ∀ (l : List (List UInt8)) (x : List UInt8) (k : Nat), codeL l x = k + 1 → l[k]? = some x
  | [], x, k, h => by simp [codeL] at h
  | y :: r, x, k, h => by
    unfold codeL at h
    by_cases hy : y = x
    · rw [if_pos hy] at h
      obtain rfl : k = 0 := by omega
      simp [hy]
    · rw [if_neg hy] at h
      cases hc : codeL r x with
      | zero => rw [hc] at h; simp at h
      | succ m =>
        rw [hc] at h
        obtain rfl : k = m + 1 := by simp at h; omega
        simpa using codeL_get r x m hc
/-- A word that has a code is that code's. -/
theorem code_word (t : Int) (x : List UInt8) (h : codeOf t x ≠ 0) : wordOf t (codeOf t x : Int) = x := by
  obtain ⟨m, hm⟩ : ∃ m, codeOf t x = m + 1 := ⟨codeOf t x - 1, by omega⟩
  have h2 := codeL_get (tabOf t) x m (by unfold codeOf at hm; exact hm)
  rw [hm]
  unfold wordOf
  rw [if_pos (by omega), show ((m + 1 : Nat) : Int) - 1 = (m : Int) by omega, Int.toNat_natCast, h2]
  rfl
theorem code_le (t : Int) (x : List UInt8) : codeOf t x ≤ 9 := by
  rcases Nat.eq_zero_or_pos (codeOf t x) with h | h
  · omega
  · obtain ⟨m, hm⟩ : ∃ m, codeOf t x = m + 1 := ⟨codeOf t x - 1, by omega⟩
    have h2 := codeL_get (tabOf t) x m (by unfold codeOf at hm; exact hm)
    have := (List.getElem?_eq_some_iff.1 h2).1
    have := tab_len t
    omega
/-- How many of the answers 1 to k fit. -/
def fitsN (op : Int) : Nat → Nat
  | 0 => 0
  | k + 1 => fitsN op k + (if fitsOf op ((k : Int) + 1) then 1 else 0)
theorem fits_le (op : Int) : ∀ k, fitsN op k ≤ k
  | 0 => Nat.le_refl _
  | k + 1 => by
    have := fits_le op k
    unfold fitsN
    split <;> omega
theorem op_known (op : Int) : (decide (ofOp op ≠ 0) = (decide (1 ≤ op) && decide (op ≤ 9))) ∧ (decide (0 < fitsN op 3) = (decide (1 ≤ op) && decide (op ≤ 9))) ∧ (valued op = true → fitsN op 3 = 1 ∧ fitsOf op 1 = true) := by
  rcases op_cases op with h | ⟨h1, h2, h3, h4, h5, h6, h7, h8, h9⟩
  · rcases h with h | h | h | h | h | h | h | h | h <;> subst h <;> decide
  · have e1 : ofOp op = 0 := by simp [ofOp, h1, h2, h3, h4, h5, h6, h7, h8, h9]
    have e2 : valued op = false := by simp [valued, h2, h3, h5, h7]
    have e3 : ∀ r, fitsOf op r = false := fun r => by simp [fitsOf, e2, h1, h4, h6, h8, h9]
    have e4 : fitsN op 3 = 0 := by simp [fitsN, e3]
    have e5 : (decide (1 ≤ op) && decide (op ≤ 9)) = false := by
      rw [Bool.and_eq_false_iff]
      by_cases h : 1 ≤ op
      · right; simp; omega
      · left; simp; omega
    rw [e1, e4, e5, e2]
    simp

set_option maxHeartbeats 8000000 in
set_option maxRecDepth 100000 in
theorem evTables (t c : Int) (x : List UInt8) (op : Int) (h1 : c ≤ 9223372036854775807) (w : World) (hL : LaidE w) (hs : x.length ≤ 9223372036854775807) :
    Calls Tryd.prog 8 #[.int .i64 t, .int .i64 c, .string ⟨x.toArray⟩, .int .i64 op] w fun e w' => e = .returned (.bool true) ∧ Below w.heap.size w w' := by
  have HL := hid hL
  have HF := hid (first2 w hL)
  by_cases hbig : 16384 < x.length
  case pos =>
    have t1 : decide ((16384 : Int) < (x.length : Int)) = true := by simp; omega
    clear hL
    go_enter Tryd.func8, Tryd.ntmps8
    go_wp2_with fail
    refine HF.out.mono ?_
    rintro e w1 ⟨rfl, hb⟩
    have HB := hid hb
    clear hb
    go_wp2
    go_ret
    exact ⟨rfl, HB.out⟩
  case neg =>
  have t1 : decide ((16384 : Int) < (x.length : Int)) = false := by simp; omega
  have HW := hid (fun W (hb : Below w.heap.size w W) => wordCall t c h1 W (HL.out.below hb))
  have HC := hid (fun W (hb : Below w.heap.size w W) => codeCall t (wordOf t c) W (HL.out.below hb))
  have HC2 := hid (fun W (hb : Below w.heap.size w W) => codeCall t x W (HL.out.below hb))
  have hd9 := code_le t x
  have HW2 := hid (fun W (hb : Below w.heap.size w W) => wordCall t (codeOf t x : Int) (by omega) W (HL.out.below hb))
  have HT := hid (fun (r : Int) W => fitsCall op r W)
  have HO := hid (fun W => ofCall op W)
  have HV := hid (fun W => valuedCall op W)
  have HKN := hid (op_known op)
  have HFL := hid (fits_le op)
  have hwc := word_code t c
  have hcw := code_word t x
  unfold str at HW HW2
  go_enter Tryd.func8, Tryd.ntmps8
  clear hL hbig
  obtain ⟨k, hk⟩ : ∃ k, codeOf t (wordOf t c) = k := ⟨_, rfl⟩
  rw [hk] at HC hwc
  clear hk
  obtain ⟨wd, hwd⟩ : ∃ wd, wordOf t c = wd := ⟨_, rfl⟩
  have HWZ := hid hwd
  rw [hwd] at HC hwc HW
  clear hwd
  obtain ⟨d, hd⟩ : ∃ d, codeOf t x = d := ⟨_, rfl⟩
  rw [hd] at HC2 hd9 HW2 hcw
  clear hd
  obtain ⟨dz, hdz⟩ : ∃ b : Bool, decide (d ≠ 0) = b := ⟨_, rfl⟩
  rw [hdz] at HC2
  have HDZ := hid hdz
  clear hdz
  have HWC := hid hwc
  have HCW := hid hcw
  clear hwc hcw
  go_wp2_with fail
  refine HF.out.mono ?_
  rintro e w1 ⟨rfl, hb1⟩
  have HB1 := hid hb1
  clear hb1 HF
  go_wp2_with fail
  refine (HW.out _ HB1.out).mono ?_
  rintro e w2 ⟨rfl, hb2⟩
  have HB2 := hid (HB1.out.trans (hb2.mono HB1.out.size))
  clear hb2 HW HB1
  go_wp2_with fail
  refine (HC.out _ HB2.out).mono ?_
  rintro e w3 ⟨rfl, hb3⟩
  have HB3 := hid (HB2.out.trans (hb3.mono HB2.out.size))
  clear hb3 HC HB2
  have hgo : wd = [] ∨ (wd ≠ [] ∧ (k : Int) = c) := by
    by_cases h : wd = []
    · exact .inl h
    · exact .inr ⟨h, HWC.out h⟩
  go_upto_region 6 with fail
  go_cut [42] from 32 to 42 (fun s42 wx => s42 = .bool false ∧ wx = w3)
  case first =>
    rcases hgo with rfl | ⟨hne, hkc⟩
    · go_wp2_with fail
      go_meet
      exact ⟨rfl, rfl⟩
    · have u1 : (wd == []) = false := by simpa using hne
      have hc1 : k ≠ 0 := fun h => hne (by
        have h2 : c = 0 := by omega
        have hw := HWZ.out
        rw [h2] at hw
        rw [← hw]
        rfl)
      have u2 : decide (k = 0) = false := by simpa using hc1
      have u3 : ((k : Int) != c) = false := by simpa using hkc
      clear hkc hne hc1
      go_wp2_with fail
      go_meet
      exact ⟨by first | rfl | rw [u3], rfl⟩
  case rest =>
  obtain ⟨rfl, rfl⟩ := hcut
  go_wp2_with fail
  refine (HC2.out _ HB3.out).mono ?_
  rintro e w4 ⟨rfl, hb4⟩
  have HB4 := hid (HB3.out.trans (hb4.mono HB3.out.size))
  clear hb4 HC2 HB3
  go_upto_region 9 with fail
  go_cut [56] from 49 to 56 (fun s56 wx => s56 = .bool false ∧ Below w.heap.size w wx)
  case first =>
    cases dz
    · go_wp2_with fail
      go_meet
      exact ⟨rfl, HB4.out⟩
    · have hx := HCW.out (of_decide_eq_true HDZ.out)
      rw [hx] at HW2
      clear hx
      go_wp2_with fail
      refine (HW2.out _ HB4.out).mono ?_
      rintro e w5 ⟨rfl, hb5⟩
      have HB5 := hid (HB4.out.trans (hb5.mono HB4.out.size))
      clear hb5
      go_wp2_with fail
      go_meet
      exact ⟨by simp, HB5.out⟩
  case rest =>
  obtain ⟨rfl, hb5⟩ := hcut
  have HB5 := hid hb5
  clear hb5 HB4
  go_wp2_with fail
  go_loopw [15, 16] (fun sf sr wr => ∃ k : Nat, sf = .int .i64 (fitsN op k : Int) ∧ sr = .int .i64 ((k : Int) + 1) ∧ k ≤ 3 ∧ Below w.heap.size w wr) (fun _ sr _ => 5 - (intOf sr).toNat)
  case atStart => exact ⟨0, rfl, rfl, by omega, HB5.out⟩
  case round =>
    obtain ⟨k, rfl, rfl, hk3, hbr⟩ := hrel
    have HBR := hid hbr
    have hfl := HFL.out k
    obtain ⟨fk, hfk⟩ : ∃ fk, fitsN op k = fk := ⟨_, rfl⟩
    rw [hfk] at hfl ⊢
    have HFK := hid hfk
    clear hbr hfk
    by_cases hlt : k < 3
    · have HTk := hid (fun W => HT.out ((k : Int) + 1) W)
      cases hf : fitsOf op ((k : Int) + 1) with
      | true =>
        rw [hf] at HTk
        have HN := hid (show fitsN op (k + 1) = fk + 1 by unfold fitsN; rw [HFK.out, if_pos hf])
        clear hf
        go_wp2_with fail
        refine (HTk.out _).mono ?_
        rintro e w6 ⟨rfl, rfl⟩
        go_wp2_with fail
        go_roundw
        case rel => exact ⟨k + 1, by rw [HN.out]; go_num, by go_num, by omega, HBR.out⟩
        case measure => simp [intOf] <;> omega
      | false =>
        rw [hf] at HTk
        have HN := hid (show fitsN op (k + 1) = fk by unfold fitsN; rw [HFK.out, hf]; simp)
        clear hf
        go_wp2_with fail
        refine (HTk.out _).mono ?_
        rintro e w6 ⟨rfl, rfl⟩
        go_wp2_with fail
        go_roundw
        case rel => exact ⟨k + 1, by rw [HN.out], by go_num, by omega, HBR.out⟩
        case measure => simp [intOf] <;> omega
    · obtain rfl : k = 3 := by omega
      have hkn := HKN.out
      rw [HFK.out] at hkn
      obtain ⟨k1, k2, k3⟩ := hkn
      have HT1 := hid (fun W => HT.out 1 W)
      obtain ⟨oo, hoo⟩ : ∃ oo, ofOp op = oo := ⟨_, rfl⟩
      obtain ⟨vv, hvv⟩ : ∃ vv, valued op = vv := ⟨_, rfl⟩
      rw [hoo] at HO k1
      rw [hvv] at HV k3
      clear hoo hvv hlt hfl
      by_cases h1 : 1 ≤ op ∧ op ≤ 9
      · have u1 : decide (1 ≤ op) = true := by simp; omega
        have u2 : decide (op ≤ 9) = true := by simp; omega
        have u3 : (oo != 0) = true := by
          rw [u1, u2] at k1
          simpa using k1
        have u4 : 0 < fk := by
          rw [u1, u2] at k2
          simpa using k2
        cases vv with
        | false =>
          clear k1 k2 k3 h1
          go_wp2_with fail
          refine (HO.out _).mono ?_
          rintro e w6 ⟨rfl, rfl⟩
          go_wp2_with fail
          refine (HV.out _).mono ?_
          rintro e w7 ⟨rfl, rfl⟩
          go_wp2_with fail
          go_ret
          exact ⟨rfl, HBR.out⟩
        | true =>
          obtain ⟨rfl, hf1⟩ := k3 rfl
          rw [hf1] at HT1
          clear k1 k2 k3 h1 hf1 u4
          go_wp2_with fail
          refine (HO.out _).mono ?_
          rintro e w6 ⟨rfl, rfl⟩
          go_wp2_with fail
          refine (HV.out _).mono ?_
          rintro e w7 ⟨rfl, rfl⟩
          go_wp2_with fail
          refine (HT1.out _).mono ?_
          rintro e w8 ⟨rfl, rfl⟩
          go_wp2_with fail
          go_ret
          exact ⟨rfl, HBR.out⟩
      · have ub : (decide (1 ≤ op) && decide (op ≤ 9)) = false := by
          rw [Bool.and_eq_false_iff]
          by_cases h : 1 ≤ op
          · right; simp; omega
          · left; simp; omega
        rw [ub] at k1 k2
        obtain rfl : oo = 0 := by simpa using k1
        obtain rfl : fk = 0 := by simpa using k2
        obtain rfl : vv = false := by
          cases vv with
          | false => rfl
          | true => exact absurd (k3 rfl).1 (by omega)
        clear k1 k2 k3 h1
        by_cases h : 1 ≤ op
        · have u1 : decide (1 ≤ op) = true := by simpa using h
          have u2 : decide (op ≤ 9) = false := by rw [u1] at ub; simpa using ub
          clear ub h
          go_wp2_with fail
          refine (HO.out _).mono ?_
          rintro e w6 ⟨rfl, rfl⟩
          go_wp2_with fail
          refine (HV.out _).mono ?_
          rintro e w7 ⟨rfl, rfl⟩
          go_wp2_with fail
          go_ret
          exact ⟨rfl, HBR.out⟩
        · have u1 : decide (1 ≤ op) = false := by simpa using h
          clear ub h
          go_wp2_with fail
          refine (HO.out _).mono ?_
          rintro e w6 ⟨rfl, rfl⟩
          go_wp2_with fail
          refine (HV.out _).mono ?_
          rintro e w7 ⟨rfl, rfl⟩
          go_wp2_with fail
          go_ret
          exact ⟨rfl, HBR.out⟩
end Go.Proofs.YtdinjplbbmhleaaDoor
