/-
  event.Code, Of, Keyed, Valued, Fits, and umpireref2's: what they tell.
-/
import Derived.Test.YtdinjplbbmhleaaDoorTabs
import Derived.Test.YtdinjplbbmhleaaDoorSame
import Derived.Test.YtdinjplbbmhleaaDoorEv
import Derived.Test.YtdinjplbbmhleaaDoorFirst
namespace Go.Proofs.YtdinjplbbmhleaaDoor
open Go.RowKit Go.Maps W

/-- The place of a word from 1 on; 0: it is not there. -/
def codeL (l : List (List UInt8)) (x : List UInt8) : Nat := match l with
  | [] => 0
  | y :: r => if y = x then 1 else match codeL r x with
    | 0 => 0
    | k + 1 => k + 2
theorem codeL_hit : ∀ (l : List (List UInt8)) (x : List UInt8) (k : Nat), l[k]? = some x → (∀ j, j < k → l[j]? ≠ some x) → codeL l x = k + 1
  | [], x, k, h, _ => by simp at h
  | y :: r, x, 0, h, _ => by
    obtain rfl : y = x := by simpa using h
    simp [codeL]
  | y :: r, x, k + 1, h, hj => by
    have hy : y ≠ x := fun e => hj 0 (by omega) (by simp [e])
    have h2 := codeL_hit r x k (by simpa using h) (fun j hjk => by simpa using hj (j + 1) (by omega))
    simp [codeL, hy, h2]
theorem codeL_miss : ∀ (l : List (List UInt8)) (x : List UInt8), (∀ j : Nat, l[j]? ≠ some x) → codeL l x = 0
  | [], x, _ => rfl
  | y :: r, x, hj => by
    have hy : y ≠ x := fun e => hj 0 (by simp [e])
    have h2 := codeL_miss r x (fun j => by simpa using hj (j + 1))
    simp [codeL, hy, h2]
def codeOf (t : Int) (x : List UInt8) : Nat := codeL (tabOf t) x
theorem at_of {t : Int} {k : Nat} {x : List UInt8} (h : (tabOf t)[k]? = some x) : atOf t k = x := by
  unfold atOf
  rw [if_pos (by omega), Int.toNat_natCast, h]
  rfl
theorem tab_len (t : Int) : (tabOf t).length ≤ 9 := by
  rcases tabs_cases t with ⟨h, _⟩ | rfl | rfl | rfl | rfl | rfl | rfl
  · rw [h]; simp
  all_goals decide

set_option maxHeartbeats 1000000 in
theorem codeCall (t : Int) (x : List UInt8) (w : World) (hL : LaidE w) :
    Calls Tryd.prog 31 #[.int .i64 t, .string ⟨x.toArray⟩] w fun e w' => e = .returned (.tuple #[.int .i64 (codeOf t x : Int), .bool (decide (codeOf t x ≠ 0))]) ∧ Below w.heap.size w w' := by
  have HA := hid (fun i W (hb : Below w.heap.size w W) => atCall t i W (hL.below hb))
  have hlen := tab_len t
  have HT := hid (fun k y (h : (tabOf t)[k]? = some y) => at_of h)
  have HC := hid (show codeOf t x = codeL (tabOf t) x from rfl)
  generalize codeOf t x = cd at *
  generalize tabOf t = tab at *
  clear hL
  have HA0 := hid (HA.out 0 w (Below.refl _ _))
  simp only [str] at HA HA0
  go_enter Tryd.func31, Tryd.ntmps31
  go_wp2_with fail
  refine HA0.out.mono ?_
  rintro e w1 ⟨rfl, hb⟩
  have HB1 := hid hb
  clear hb HA0
  go_wp2_with fail
  go_loopw [17] (fun si wr => ∃ k : Nat, si = .int .i64 k ∧ k ≤ tab.length ∧ (∀ j, j < k → tab[j]? ≠ some x) ∧ Below w.heap.size w wr) (fun si _ => tab.length - (intOf si).toNat)
  case atStart => exact ⟨0, rfl, Nat.zero_le _, by omega, HB1.out⟩
  case round =>
    obtain ⟨k, rfl, hk, hj, hb⟩ := hrel
    have HJ := hid hj
    have HB := hid hb
    have HAk := hid (HA.out k wr hb)
    clear hj hb HA
    by_cases hlt : k < tab.length
    · obtain ⟨y, hy⟩ : ∃ y, tab[k]? = some y := ⟨tab[k], List.getElem?_eq_getElem hlt⟩
      have hAk := HAk.out
      rw [HT.out k y hy] at hAk
      have HAy := hid hAk
      have HY := hid hy
      clear hAk hy HAk HT
      by_cases hxy : y = x
      · subst hxy
        have hc := hid (codeL_hit tab y k HY.out HJ.out)
        go_wp2_with fail
        refine HAy.out.mono ?_
        rintro e w2 ⟨rfl, hb2⟩
        have HB2 := hid (HB.out.trans (hb2.mono HB.out.size))
        clear hb2 HAy
        go_wp2_with fail
        go_ret2
        exact ⟨by rw [HC.out, hc.out]; simp, HB2.out⟩
      · have t1 : (y == x) = false := by simpa using hxy
        have HN := hid (show ∀ j, j < k + 1 → tab[j]? ≠ some x from fun j hj e => by
          rcases Nat.lt_or_ge j k with h | h
          · exact HJ.out j h e
          · obtain rfl : j = k := by omega
            rw [HY.out] at e
            injection e with e
            exact hxy e)
        clear hxy
        go_wp2_with fail
        refine HAy.out.mono ?_
        rintro e w2 ⟨rfl, hb2⟩
        have HB2 := hid (HB.out.trans (hb2.mono HB.out.size))
        clear hb2 HAy
        go_wp2_with fail
        go_roundw
        case rel => exact ⟨k + 1, by go_num, by omega, HN.out, HB2.out⟩
        case measure => simp [intOf] <;> omega
    · have hc := hid (codeL_miss tab x (fun j e => by
        rcases Nat.lt_or_ge j k with h | h
        · exact HJ.out j h e
        · rw [List.getElem?_eq_none (by omega)] at e
          cases e))
      go_wp2_with fail
      go_ret2
      exact ⟨by rw [HC.out, hc.out]; simp, HB.out⟩


theorem wordsR (t : Int) (w : World) : Calls Tryd.prog 67 #[.int .i64 t] w fun e w' => ∃ v, e = .returned v ∧ Reads w' v (txs (tabOf t)) ∧ Below w.heap.size w w' := by
  rcases tabs_cases t with ⟨h, t1, t2, t3, t4, t5, t6⟩ | h
  · rw [h]
    have t1 : (t == 1) = false := by simpa using t1
    have t2 : (t == 2) = false := by simpa using t2
    have t3 : (t == 3) = false := by simpa using t3
    have t4 : (t == 4) = false := by simpa using t4
    have t5 : (t == 5) = false := by simpa using t5
    have t6 : (t == 6) = false := by simpa using t6
    clear h
    go_enter Tryd.func67, Tryd.ntmps67
    go_wp2
    go_ret
    exact ⟨_, rfl, Reads.nil _, Below.refl _ _⟩
  · rcases h with rfl | rfl | rfl | rfl | rfl | rfl
    all_goals
      go_enter Tryd.func67, Tryd.ntmps67
      go_wp2
      go_ret
      exact ⟨_, rfl, reads_block (heap_alloc_new _ _) rfl, (Below.refl _ _).alloc (Nat.le_refl _) _⟩

def fitsOf (op ret : Int) : Bool := if valued op then ret == 1 else if op = 1 ∨ op = 4 then ret == 3 else if op = 6 ∨ op = 8 ∨ op = 9 then (ret == 2 || ret == 3) else false
def ofOp (op : Int) : Int := if op = 1 ∨ op = 2 then 1 else if op = 3 ∨ op = 4 then 2 else if op = 5 ∨ op = 6 then 3 else if op = 7 ∨ op = 8 ∨ op = 9 then 4 else 0
theorem op_cases (op : Int) : (op = 1 ∨ op = 2 ∨ op = 3 ∨ op = 4 ∨ op = 5 ∨ op = 6 ∨ op = 7 ∨ op = 8 ∨ op = 9) ∨ (op ≠ 1 ∧ op ≠ 2 ∧ op ≠ 3 ∧ op ≠ 4 ∧ op ≠ 5 ∧ op ≠ 6 ∧ op ≠ 7 ∧ op ≠ 8 ∧ op ≠ 9) := by omega

set_option maxHeartbeats 2000000 in
theorem ofCall (op : Int) (w : World) : Calls Tryd.prog 33 #[.int .i64 op] w fun e w' => e = .returned (.int .i64 (ofOp op)) ∧ w = w' := by
  rcases op_cases op with h | ⟨h1, h2, h3, h4, h5, h6, h7, h8, h9⟩
  · rcases h with rfl | rfl | rfl | rfl | rfl | rfl | rfl | rfl | rfl
    all_goals
      go_enter Tryd.func33, Tryd.ntmps33
      go_wp2
      go_ret
      exact ⟨rfl, rfl⟩
  · have e1 : ofOp op = 0 := by simp [ofOp, h1, h2, h3, h4, h5, h6, h7, h8, h9]
    rw [e1]
    have n1 : (op == 1) = false := by simpa using h1
    have n2 : (op == 2) = false := by simpa using h2
    have n3 : (op == 3) = false := by simpa using h3
    have n4 : (op == 4) = false := by simpa using h4
    have n5 : (op == 5) = false := by simpa using h5
    have n6 : (op == 6) = false := by simpa using h6
    have n7 : (op == 7) = false := by simpa using h7
    have n8 : (op == 8) = false := by simpa using h8
    have n9 : (op == 9) = false := by simpa using h9
    go_enter Tryd.func33, Tryd.ntmps33
    go_wp2
    go_ret
    exact ⟨rfl, rfl⟩

set_option maxHeartbeats 2000000 in
theorem keyedCall (op : Int) (w : World) : Calls Tryd.prog 35 #[.int .i64 op] w fun e w' => e = .returned (.bool (keyed op)) ∧ w = w' := by
  rcases op_cases op with h | ⟨h1, h2, h3, h4, h5, h6, h7, h8, h9⟩
  · rcases h with rfl | rfl | rfl | rfl | rfl | rfl | rfl | rfl | rfl
    all_goals
      go_enter Tryd.func35, Tryd.ntmps35
      go_wp2
      go_ret
      exact ⟨rfl, rfl⟩
  · have e1 : keyed op = false := by simp [keyed, h7, h8, h9]
    rw [e1]
    have n1 : (op == 1) = false := by simpa using h1
    have n2 : (op == 2) = false := by simpa using h2
    have n3 : (op == 3) = false := by simpa using h3
    have n4 : (op == 4) = false := by simpa using h4
    have n5 : (op == 5) = false := by simpa using h5
    have n6 : (op == 6) = false := by simpa using h6
    have n7 : (op == 7) = false := by simpa using h7
    have n8 : (op == 8) = false := by simpa using h8
    have n9 : (op == 9) = false := by simpa using h9
    go_enter Tryd.func35, Tryd.ntmps35
    go_wp2
    go_ret
    exact ⟨rfl, rfl⟩

set_option maxHeartbeats 2000000 in
theorem valuedCall (op : Int) (w : World) : Calls Tryd.prog 37 #[.int .i64 op] w fun e w' => e = .returned (.bool (valued op)) ∧ w = w' := by
  rcases op_cases op with h | ⟨h1, h2, h3, h4, h5, h6, h7, h8, h9⟩
  · rcases h with rfl | rfl | rfl | rfl | rfl | rfl | rfl | rfl | rfl
    all_goals
      go_enter Tryd.func37, Tryd.ntmps37
      go_wp2
      go_ret
      exact ⟨rfl, rfl⟩
  · have e1 : valued op = false := by simp [valued, h2, h3, h5, h7]
    rw [e1]
    have n1 : (op == 1) = false := by simpa using h1
    have n2 : (op == 2) = false := by simpa using h2
    have n3 : (op == 3) = false := by simpa using h3
    have n4 : (op == 4) = false := by simpa using h4
    have n5 : (op == 5) = false := by simpa using h5
    have n6 : (op == 6) = false := by simpa using h6
    have n7 : (op == 7) = false := by simpa using h7
    have n8 : (op == 8) = false := by simpa using h8
    have n9 : (op == 9) = false := by simpa using h9
    go_enter Tryd.func37, Tryd.ntmps37
    go_wp2
    go_ret
    exact ⟨rfl, rfl⟩

set_option maxHeartbeats 4000000 in
theorem fitsCall (op ret : Int) (w : World) : Calls Tryd.prog 39 #[.int .i64 op, .int .i64 ret] w fun e w' => e = .returned (.bool (fitsOf op ret)) ∧ w = w' := by
  have HV := hid (valuedCall op w)
  rcases op_cases op with h | ⟨h1, h2, h3, h4, h5, h6, h7, h8, h9⟩
  · by_cases r1 : ret = 1
    · subst r1
      rcases h with rfl | rfl | rfl | rfl | rfl | rfl | rfl | rfl | rfl
      all_goals
        go_enter Tryd.func39, Tryd.ntmps39
        go_wp2_with fail
        refine HV.out.mono ?_
        rintro e w' ⟨rfl, rfl⟩
        simp only [valued, Int.reduceBEq, Bool.or_false, Bool.or_true]
        go_wp2
        go_ret
        exact ⟨rfl, rfl⟩
    by_cases r2 : ret = 2
    · subst r2
      rcases h with rfl | rfl | rfl | rfl | rfl | rfl | rfl | rfl | rfl
      all_goals
        go_enter Tryd.func39, Tryd.ntmps39
        go_wp2_with fail
        refine HV.out.mono ?_
        rintro e w' ⟨rfl, rfl⟩
        simp only [valued, Int.reduceBEq, Bool.or_false, Bool.or_true]
        go_wp2
        go_ret
        exact ⟨rfl, rfl⟩
    by_cases r3 : ret = 3
    · subst r3
      rcases h with rfl | rfl | rfl | rfl | rfl | rfl | rfl | rfl | rfl
      all_goals
        go_enter Tryd.func39, Tryd.ntmps39
        go_wp2_with fail
        refine HV.out.mono ?_
        rintro e w' ⟨rfl, rfl⟩
        simp only [valued, Int.reduceBEq, Bool.or_false, Bool.or_true]
        go_wp2
        go_ret
        exact ⟨rfl, rfl⟩
    have e1 : fitsOf op ret = false := by
      unfold fitsOf
      repeat' split
      all_goals simp [r1, r2, r3]
    rw [e1]
    have n1 : (ret == 1) = false := by simpa using r1
    have n2 : (ret == 2) = false := by simpa using r2
    have n3 : (ret == 3) = false := by simpa using r3
    clear e1 r1 r2 r3
    rcases h with rfl | rfl | rfl | rfl | rfl | rfl | rfl | rfl | rfl
    all_goals
      go_enter Tryd.func39, Tryd.ntmps39
      go_wp2_with fail
      refine HV.out.mono ?_
      rintro e w' ⟨rfl, rfl⟩
      simp only [valued, Int.reduceBEq, Bool.or_false, Bool.or_true]
      go_wp2
      go_ret
      exact ⟨rfl, rfl⟩
  · have e1 : valued op = false := by simp [valued, h2, h3, h5, h7]
    have e2 : fitsOf op ret = false := by simp [fitsOf, e1, h1, h4, h6, h8, h9]
    rw [e1] at HV
    rw [e2]
    have n1 : (op == 1) = false := by simpa using h1
    have n2 : (op == 2) = false := by simpa using h2
    have n3 : (op == 3) = false := by simpa using h3
    have n4 : (op == 4) = false := by simpa using h4
    have n5 : (op == 5) = false := by simpa using h5
    have n6 : (op == 6) = false := by simpa using h6
    have n7 : (op == 7) = false := by simpa using h7
    have n8 : (op == 8) = false := by simpa using h8
    have n9 : (op == 9) = false := by simpa using h9
    clear e1 e2
    go_enter Tryd.func39, Tryd.ntmps39
    go_wp2_with fail
    refine HV.out.mono ?_
    rintro e w' ⟨rfl, rfl⟩
    go_wp2
    go_ret
    exact ⟨rfl, rfl⟩

set_option maxHeartbeats 2000000 in
theorem keyedCallR (op : Int) (w : World) : Calls Tryd.prog 36 #[.int .i64 op] w fun e w' => e = .returned (.bool (keyed op)) ∧ w = w' := by
  rcases op_cases op with h | ⟨h1, h2, h3, h4, h5, h6, h7, h8, h9⟩
  · rcases h with rfl | rfl | rfl | rfl | rfl | rfl | rfl | rfl | rfl
    all_goals
      go_enter Tryd.func36, Tryd.ntmps36
      go_wp2
      go_ret
      exact ⟨rfl, rfl⟩
  · have e1 : keyed op = false := by simp [keyed, h7, h8, h9]
    rw [e1]
    have n1 : (op == 1) = false := by simpa using h1
    have n2 : (op == 2) = false := by simpa using h2
    have n3 : (op == 3) = false := by simpa using h3
    have n4 : (op == 4) = false := by simpa using h4
    have n5 : (op == 5) = false := by simpa using h5
    have n6 : (op == 6) = false := by simpa using h6
    have n7 : (op == 7) = false := by simpa using h7
    have n8 : (op == 8) = false := by simpa using h8
    have n9 : (op == 9) = false := by simpa using h9
    go_enter Tryd.func36, Tryd.ntmps36
    go_wp2
    go_ret
    exact ⟨rfl, rfl⟩

set_option maxHeartbeats 2000000 in
theorem valuedCallR (op : Int) (w : World) : Calls Tryd.prog 38 #[.int .i64 op] w fun e w' => e = .returned (.bool (valued op)) ∧ w = w' := by
  rcases op_cases op with h | ⟨h1, h2, h3, h4, h5, h6, h7, h8, h9⟩
  · rcases h with rfl | rfl | rfl | rfl | rfl | rfl | rfl | rfl | rfl
    all_goals
      go_enter Tryd.func38, Tryd.ntmps38
      go_wp2
      go_ret
      exact ⟨rfl, rfl⟩
  · have e1 : valued op = false := by simp [valued, h2, h3, h5, h7]
    rw [e1]
    have n1 : (op == 1) = false := by simpa using h1
    have n2 : (op == 2) = false := by simpa using h2
    have n3 : (op == 3) = false := by simpa using h3
    have n4 : (op == 4) = false := by simpa using h4
    have n5 : (op == 5) = false := by simpa using h5
    have n6 : (op == 6) = false := by simpa using h6
    have n7 : (op == 7) = false := by simpa using h7
    have n8 : (op == 8) = false := by simpa using h8
    have n9 : (op == 9) = false := by simpa using h9
    go_enter Tryd.func38, Tryd.ntmps38
    go_wp2
    go_ret
    exact ⟨rfl, rfl⟩

set_option maxHeartbeats 4000000 in
theorem fitsCallR (op ret : Int) (w : World) : Calls Tryd.prog 40 #[.int .i64 op, .int .i64 ret] w fun e w' => e = .returned (.bool (fitsOf op ret)) ∧ w = w' := by
  have HV := hid (valuedCallR op w)
  rcases op_cases op with h | ⟨h1, h2, h3, h4, h5, h6, h7, h8, h9⟩
  · by_cases r1 : ret = 1
    · subst r1
      rcases h with rfl | rfl | rfl | rfl | rfl | rfl | rfl | rfl | rfl
      all_goals
        go_enter Tryd.func40, Tryd.ntmps40
        go_wp2_with fail
        refine HV.out.mono ?_
        rintro e w' ⟨rfl, rfl⟩
        simp only [valued, Int.reduceBEq, Bool.or_false, Bool.or_true]
        go_wp2
        go_ret
        exact ⟨rfl, rfl⟩
    by_cases r2 : ret = 2
    · subst r2
      rcases h with rfl | rfl | rfl | rfl | rfl | rfl | rfl | rfl | rfl
      all_goals
        go_enter Tryd.func40, Tryd.ntmps40
        go_wp2_with fail
        refine HV.out.mono ?_
        rintro e w' ⟨rfl, rfl⟩
        simp only [valued, Int.reduceBEq, Bool.or_false, Bool.or_true]
        go_wp2
        go_ret
        exact ⟨rfl, rfl⟩
    by_cases r3 : ret = 3
    · subst r3
      rcases h with rfl | rfl | rfl | rfl | rfl | rfl | rfl | rfl | rfl
      all_goals
        go_enter Tryd.func40, Tryd.ntmps40
        go_wp2_with fail
        refine HV.out.mono ?_
        rintro e w' ⟨rfl, rfl⟩
        simp only [valued, Int.reduceBEq, Bool.or_false, Bool.or_true]
        go_wp2
        go_ret
        exact ⟨rfl, rfl⟩
    have e1 : fitsOf op ret = false := by
      unfold fitsOf
      repeat' split
      all_goals simp [r1, r2, r3]
    rw [e1]
    have n1 : (ret == 1) = false := by simpa using r1
    have n2 : (ret == 2) = false := by simpa using r2
    have n3 : (ret == 3) = false := by simpa using r3
    clear e1 r1 r2 r3
    rcases h with rfl | rfl | rfl | rfl | rfl | rfl | rfl | rfl | rfl
    all_goals
      go_enter Tryd.func40, Tryd.ntmps40
      go_wp2_with fail
      refine HV.out.mono ?_
      rintro e w' ⟨rfl, rfl⟩
      simp only [valued, Int.reduceBEq, Bool.or_false, Bool.or_true]
      go_wp2
      go_ret
      exact ⟨rfl, rfl⟩
  · have e1 : valued op = false := by simp [valued, h2, h3, h5, h7]
    have e2 : fitsOf op ret = false := by simp [fitsOf, e1, h1, h4, h6, h8, h9]
    rw [e1] at HV
    rw [e2]
    have n1 : (op == 1) = false := by simpa using h1
    have n2 : (op == 2) = false := by simpa using h2
    have n3 : (op == 3) = false := by simpa using h3
    have n4 : (op == 4) = false := by simpa using h4
    have n5 : (op == 5) = false := by simpa using h5
    have n6 : (op == 6) = false := by simpa using h6
    have n7 : (op == 7) = false := by simpa using h7
    have n8 : (op == 8) = false := by simpa using h8
    have n9 : (op == 9) = false := by simpa using h9
    clear e1 e2
    go_enter Tryd.func40, Tryd.ntmps40
    go_wp2_with fail
    refine HV.out.mono ?_
    rintro e w' ⟨rfl, rfl⟩
    go_wp2
    go_ret
    exact ⟨rfl, rfl⟩
end Go.Proofs.YtdinjplbbmhleaaDoor
