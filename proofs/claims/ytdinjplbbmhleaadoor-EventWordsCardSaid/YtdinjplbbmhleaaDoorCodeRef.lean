/-
  umpireref2.Word, Code, Of: the document's tables.
-/
import Derived.Test.YtdinjplbbmhleaaDoorCode
namespace Go.Proofs.YtdinjplbbmhleaaDoor
open Go.RowKit Go.Maps W

set_option maxHeartbeats 1000000 in
theorem wordR (t c : Int) (h0 : -9223372036854775808 ≤ c) (h1 : c ≤ 9223372036854775807) (w : World) :
    Calls Tryd.prog 42 #[.int .i64 t, .int .i64 c] w fun e w' => e = .returned (str (wordOf t c)) ∧ Below w.heap.size w w' := by
  have HW := hid (wordsR t w)
  have hlen := tab_len t
  have HT := hid (show wordOf t c = if 1 ≤ c then ((tabOf t)[(c - 1).toNat]?).getD [] else [] from rfl)
  generalize wordOf t c = ans at *
  generalize tabOf t = tab at *
  by_cases hc : c < 1
  · have t1 : decide (c < 1) = true := by simpa using hc
    have HA := hid (show ans = [] by rw [HT.out, if_neg (by omega)])
    clear hc HT
    go_enter Tryd.func42, Tryd.ntmps42
    go_wp2_with fail
    refine HW.out.mono ?_
    rintro e w1 ⟨v, rfl, hr, hb⟩
    have HB := hid hb
    clear hb hr HW
    go_wp2
    go_ret
    exact ⟨by rw [HA.out]; rfl, HB.out⟩
  have t1 : decide (c < 1) = false := by simpa using hc
  by_cases hl : (tab.length : Int) < c
  · have t2 : decide ((tab.length : Int) < c) = true := by simpa using hl
    have HA := hid (show ans = [] by rw [HT.out, if_pos (by omega), List.getElem?_eq_none (by omega)]; rfl)
    clear hc hl HT
    go_enter Tryd.func42, Tryd.ntmps42
    go_wp2_with fail
    refine HW.out.mono ?_
    rintro e w1 ⟨v, rfl, hr, hb⟩
    obtain ⟨A, cp, _, _, rfl, _⟩ := hr
    rw [txs_len]
    have HB := hid hb
    clear hb HW
    go_wp2
    go_ret
    exact ⟨by rw [HA.out]; rfl, HB.out⟩
  · obtain ⟨k, rfl⟩ : ∃ k : Nat, c = (k : Int) + 1 := ⟨(c - 1).toNat, by omega⟩
    have hk : k < tab.length := by omega
    have t2 : decide ((tab.length : Int) < (k : Int) + 1) = false := by simpa using hl
    have hs : (k : Int) + 1 - 1 = (k : Int) := by omega
    obtain ⟨x, hx⟩ : ∃ x, tab[k]? = some x := ⟨tab[k], List.getElem?_eq_getElem hk⟩
    have HA := hid (show ans = x by rw [HT.out, if_pos (by omega), hs, Int.toNat_natCast, hx]; rfl)
    have HX := hid hx
    clear hc hl HT hx
    go_enter Tryd.func42, Tryd.ntmps42
    go_wp2_with fail
    refine HW.out.mono ?_
    rintro e w1 ⟨v, rfl, hr, hb⟩
    obtain ⟨A, cp, b, o, rfl, hA, hA2, hcap, hcells⟩ := hr
    rw [txs_len] at hA hA2 hcap ⊢
    obtain rfl : A = some ⟨b, o, none⟩ := by
      cases A with
      | none => have := (hA rfl).1; omega
      | some z => rw [hA2 z rfl (by omega)]
    have c1 : w1.cell? ⟨b, o + k, none⟩ = some (str x) := hcells k _ (by simp [txs, HX.out])
    have HB := hid hb
    clear hb HW hA hA2 hcells
    go_wp2
    go_ret
    exact ⟨by rw [HA.out]; rfl, HB.out⟩

set_option maxHeartbeats 1000000 in
theorem codeR (t : Int) (x : List UInt8) (w : World) :
    Calls Tryd.prog 32 #[.int .i64 t, .string ⟨x.toArray⟩] w fun e w' => e = .returned (.int .i64 (codeOf t x : Int)) ∧ Below w.heap.size w w' := by
  have HW := hid (wordsR t w)
  have hlen := tab_len t
  have HC := hid (show codeOf t x = codeL (tabOf t) x from rfl)
  generalize codeOf t x = cd at *
  generalize tabOf t = tab at *
  go_enter Tryd.func32, Tryd.ntmps32
  go_wp2_with fail
  refine HW.out.mono ?_
  rintro e w1 ⟨v, rfl, hr, hb⟩
  obtain ⟨A, cp, b, o, rfl, hA, hA2, hcap, hcells⟩ := hr
  rw [txs_len] at hA hA2 hcap ⊢
  have HV := hid (And.intro hA (And.intro hA2 hcells))
  have HB := hid hb
  clear hb HW hA hA2 hcells
  go_wp2_with fail
  go_loop [6] (fun si => ∃ k : Nat, si = .int .i64 k ∧ k ≤ tab.length ∧ (∀ j, j < k → tab[j]? ≠ some x)) (fun si => tab.length - (intOf si).toNat)
  case atStart => exact ⟨0, rfl, Nat.zero_le _, by omega⟩
  case round =>
    obtain ⟨k, rfl, hk, hj⟩ := hrel
    have HJ := hid hj
    clear hj
    by_cases hlt : k < tab.length
    · obtain ⟨y, hy⟩ : ∃ y, tab[k]? = some y := ⟨tab[k], List.getElem?_eq_getElem hlt⟩
      obtain rfl : A = some ⟨b, o, none⟩ := by
        cases A with
        | none => have := (HV.out.1 rfl).1; omega
        | some z => rw [HV.out.2.1 z rfl (by omega)]
      have c1 : w1.cell? ⟨b, o + k, none⟩ = some (.string ⟨y.toArray⟩) := HV.out.2.2 k _ (by simp [txs, str, hy])
      have HY := hid hy
      clear hy
      by_cases hxy : y = x
      · subst hxy
        have hc := hid (codeL_hit tab y k HY.out HJ.out)
        go_wp2_with fail
        go_ret
        exact ⟨by rw [HC.out, hc.out]; rfl, HB.out⟩
      · have t1 : (y == x) = false := by simpa using hxy
        have HN := hid (show ∀ j, j < k + 1 → tab[j]? ≠ some x from fun j hj e => by
          rcases Nat.lt_or_ge j k with h | h
          · exact HJ.out j h e
          · obtain rfl : j = k := by omega
            rw [HY.out] at e
            injection e with e
            exact hxy e)
        clear hxy
        go_wp2_with fail
        go_round
        case rel => exact ⟨k + 1, by go_num, by omega, HN.out⟩
        case measure => simp [intOf] <;> omega
    · have hc := hid (codeL_miss tab x (fun j e => by
        rcases Nat.lt_or_ge j k with h | h
        · exact HJ.out j h e
        · rw [List.getElem?_eq_none (by omega)] at e
          cases e))
      go_wp2_with fail
      go_ret
      exact ⟨by rw [HC.out, hc.out]; rfl, HB.out⟩

set_option maxHeartbeats 2000000 in
theorem ofR (op : Int) (w : World) : Calls Tryd.prog 34 #[.int .i64 op] w fun e w' => e = .returned (.int .i64 (ofOp op)) ∧ Below w.heap.size w w' := by
  rcases op_cases op with h | h
  · rcases h with rfl | rfl | rfl | rfl | rfl | rfl | rfl | rfl | rfl
    all_goals
      go_enter Tryd.func34, Tryd.ntmps34
      go_wp2
      go_ret
      exact ⟨rfl, (Below.refl _ _).alloc (Nat.le_refl _) _⟩
  · have e1 : ofOp op = 0 := by unfold ofOp; rw [if_neg (by omega), if_neg (by omega), if_neg (by omega), if_neg (by omega)]
    rw [e1]
    by_cases hc : op < 1
    · have t1 : decide (op < 1) = true := by simpa using hc
      clear h e1
      go_enter Tryd.func34, Tryd.ntmps34
      go_wp2
      go_ret
      exact ⟨rfl, (Below.refl _ _).alloc (Nat.le_refl _) _⟩
    · have t1 : decide (op < 1) = false := by simpa using hc
      have t2 : decide (9 < op) = true := by simp; omega
      clear h e1 hc
      go_enter Tryd.func34, Tryd.ntmps34
      go_wp2
      go_ret
      exact ⟨rfl, (Below.refl _ _).alloc (Nat.le_refl _) _⟩
end Go.Proofs.YtdinjplbbmhleaaDoor
