/-
  event.Code, Of, Keyed, Valued, Fits, and umpireref2's: what they tell.
-/
import Derived.Test.YtgfmlaflochffaaGreatDoorTabsZ
import Derived.Test.YtgfmlaflochffaaGreatDoorOneZ
import Derived.Test.YtgfmlaflochffaaGreatDoorEvAZ
namespace Go.Proofs.YtgfmlaflochffaaGreatDoor
open Go.RowKit Go.Maps W

/-- The place of a word from 1 on; 0: it is not there. -/
def codeL (l : List (List UInt8)) (x : List UInt8) : Nat := match l with
  | [] => 0
  | y :: r => if y = x then 1 else match codeL r x with
    | 0 => 0
    | k + 1 => k + 2
theorem codeL_hit : ∀ (l : List (List UInt8)) (x : List UInt8) (k : Nat), l[k]? = some x → (∀ j, j < k → l[j]? ≠ some x) → codeL l x = k + 1
  | [], x, k, h, _ => by simp at h
  | y :: r, x, 0, h, _ => by
    obtain rfl : y = x := by simpa using h
    simp [codeL]
  | y :: r, x, k + 1, h, hj => by
    have hy : y ≠ x := fun e => hj 0 (by omega) (by simp [e])
    have h2 := codeL_hit r x k (by simpa using h) (fun j hjk => by simpa using hj (j + 1) (by omega))
    simp [codeL, hy, h2]
theorem codeL_miss : ∀ (l : List (List UInt8)) (x : List UInt8), (∀ j : Nat, l[j]? ≠ some x) → codeL l x = 0
  | [], x, _ => rfl
  | y :: r, x, hj => by
    have hy : y ≠ x := fun e => hj 0 (by simp [e])
    have h2 := codeL_miss r x (fun j => by simpa using hj (j + 1))
    simp [codeL, hy, h2]
def codeOf (t : Int) (x : List UInt8) : Nat := codeL (tabOf t) x
theorem at_of {t : Int} {k : Nat} {x : List UInt8} (h : (tabOf t)[k]? = some x) : atOf t k = x := by
  unfold atOf
  rw [if_pos (by omega), Int.toNat_natCast, h]
  rfl
theorem tab_len (t : Int) : (tabOf t).length ≤ 9 := by
  rcases tabs_cases t with ⟨h, _⟩ | rfl | rfl | rfl | rfl | rfl | rfl
  · rw [h]; simp
  all_goals decide

def fitsOf (op ret : Int) : Bool := if valued op then ret == 1 else if op = 1 ∨ op = 4 then ret == 3 else if op = 6 ∨ op = 8 ∨ op = 9 then (ret == 2 || ret == 3) else false
def ofOp (op : Int) : Int := if op = 1 ∨ op = 2 then 1 else if op = 3 ∨ op = 4 then 2 else if op = 5 ∨ op = 6 then 3 else if op = 7 ∨ op = 8 ∨ op = 9 then 4 else 0
theorem op_cases (op : Int) : (op = 1 ∨ op = 2 ∨ op = 3 ∨ op = 4 ∨ op = 5 ∨ op = 6 ∨ op = 7 ∨ op = 8 ∨ op = 9) ∨ (op ≠ 1 ∧ op ≠ 2 ∧ op ≠ 3 ∧ op ≠ 4 ∧ op ≠ 5 ∧ op ≠ 6 ∧ op ≠ 7 ∧ op ≠ 8 ∧ op ≠ 9) := by omega

set_option maxHeartbeats 2000000 in
theorem ofCall (op : Int) (w : World) : Calls Tryz.prog 42 #[.int .i64 op] w fun e w' => e = .returned (.int .i64 (ofOp op)) ∧ w = w' := by
  rcases op_cases op with h | ⟨h1, h2, h3, h4, h5, h6, h7, h8, h9⟩
  · rcases h with rfl | rfl | rfl | rfl | rfl | rfl | rfl | rfl | rfl
    all_goals
      go_enter Tryz.func42, Tryz.ntmps42
      go_wp2
      go_ret
      exact ⟨rfl, rfl⟩
  · have e1 : ofOp op = 0 := by simp [ofOp, h1, h2, h3, h4, h5, h6, h7, h8, h9]
    rw [e1]
    have n1 : (op == 1) = false := by simpa using h1
    have n2 : (op == 2) = false := by simpa using h2
    have n3 : (op == 3) = false := by simpa using h3
    have n4 : (op == 4) = false := by simpa using h4
    have n5 : (op == 5) = false := by simpa using h5
    have n6 : (op == 6) = false := by simpa using h6
    have n7 : (op == 7) = false := by simpa using h7
    have n8 : (op == 8) = false := by simpa using h8
    have n9 : (op == 9) = false := by simpa using h9
    go_enter Tryz.func42, Tryz.ntmps42
    go_wp2
    go_ret
    exact ⟨rfl, rfl⟩

set_option maxHeartbeats 2000000 in
theorem keyedCall (op : Int) (w : World) : Calls Tryz.prog 71 #[.int .i64 op] w fun e w' => e = .returned (.bool (keyed op)) ∧ w = w' := by
  rcases op_cases op with h | ⟨h1, h2, h3, h4, h5, h6, h7, h8, h9⟩
  · rcases h with rfl | rfl | rfl | rfl | rfl | rfl | rfl | rfl | rfl
    all_goals
      go_enter Tryz.func71, Tryz.ntmps71
      go_wp2
      go_ret
      exact ⟨rfl, rfl⟩
  · have e1 : keyed op = false := by simp [keyed, h7, h8, h9]
    rw [e1]
    have n1 : (op == 1) = false := by simpa using h1
    have n2 : (op == 2) = false := by simpa using h2
    have n3 : (op == 3) = false := by simpa using h3
    have n4 : (op == 4) = false := by simpa using h4
    have n5 : (op == 5) = false := by simpa using h5
    have n6 : (op == 6) = false := by simpa using h6
    have n7 : (op == 7) = false := by simpa using h7
    have n8 : (op == 8) = false := by simpa using h8
    have n9 : (op == 9) = false := by simpa using h9
    go_enter Tryz.func71, Tryz.ntmps71
    go_wp2
    go_ret
    exact ⟨rfl, rfl⟩

set_option maxHeartbeats 2000000 in
theorem valuedCall (op : Int) (w : World) : Calls Tryz.prog 73 #[.int .i64 op] w fun e w' => e = .returned (.bool (valued op)) ∧ w = w' := by
  rcases op_cases op with h | ⟨h1, h2, h3, h4, h5, h6, h7, h8, h9⟩
  · rcases h with rfl | rfl | rfl | rfl | rfl | rfl | rfl | rfl | rfl
    all_goals
      go_enter Tryz.func73, Tryz.ntmps73
      go_wp2
      go_ret
      exact ⟨rfl, rfl⟩
  · have e1 : valued op = false := by simp [valued, h2, h3, h5, h7]
    rw [e1]
    have n1 : (op == 1) = false := by simpa using h1
    have n2 : (op == 2) = false := by simpa using h2
    have n3 : (op == 3) = false := by simpa using h3
    have n4 : (op == 4) = false := by simpa using h4
    have n5 : (op == 5) = false := by simpa using h5
    have n6 : (op == 6) = false := by simpa using h6
    have n7 : (op == 7) = false := by simpa using h7
    have n8 : (op == 8) = false := by simpa using h8
    have n9 : (op == 9) = false := by simpa using h9
    go_enter Tryz.func73, Tryz.ntmps73
    go_wp2
    go_ret
    exact ⟨rfl, rfl⟩

set_option maxHeartbeats 4000000 in
theorem fitsCall (op ret : Int) (w : World) : Calls Tryz.prog 56 #[.int .i64 op, .int .i64 ret] w fun e w' => e = .returned (.bool (fitsOf op ret)) ∧ w = w' := by
  have HV := hid (valuedCall op w)
  rcases op_cases op with h | ⟨h1, h2, h3, h4, h5, h6, h7, h8, h9⟩
  · by_cases r1 : ret = 1
    · subst r1
      rcases h with rfl | rfl | rfl | rfl | rfl | rfl | rfl | rfl | rfl
      all_goals
        go_enter Tryz.func56, Tryz.ntmps56
        go_wp2_with fail
        refine HV.out.mono ?_
        rintro e w' ⟨rfl, rfl⟩
        simp only [valued, Int.reduceBEq, Bool.or_false, Bool.or_true]
        go_wp2
        go_ret
        exact ⟨rfl, rfl⟩
    by_cases r2 : ret = 2
    · subst r2
      rcases h with rfl | rfl | rfl | rfl | rfl | rfl | rfl | rfl | rfl
      all_goals
        go_enter Tryz.func56, Tryz.ntmps56
        go_wp2_with fail
        refine HV.out.mono ?_
        rintro e w' ⟨rfl, rfl⟩
        simp only [valued, Int.reduceBEq, Bool.or_false, Bool.or_true]
        go_wp2
        go_ret
        exact ⟨rfl, rfl⟩
    by_cases r3 : ret = 3
    · subst r3
      rcases h with rfl | rfl | rfl | rfl | rfl | rfl | rfl | rfl | rfl
      all_goals
        go_enter Tryz.func56, Tryz.ntmps56
        go_wp2_with fail
        refine HV.out.mono ?_
        rintro e w' ⟨rfl, rfl⟩
        simp only [valued, Int.reduceBEq, Bool.or_false, Bool.or_true]
        go_wp2
        go_ret
        exact ⟨rfl, rfl⟩
    have e1 : fitsOf op ret = false := by
      unfold fitsOf
      repeat' split
      all_goals simp [r1, r2, r3]
    rw [e1]
    have n1 : (ret == 1) = false := by simpa using r1
    have n2 : (ret == 2) = false := by simpa using r2
    have n3 : (ret == 3) = false := by simpa using r3
    clear e1 r1 r2 r3
    rcases h with rfl | rfl | rfl | rfl | rfl | rfl | rfl | rfl | rfl
    all_goals
      go_enter Tryz.func56, Tryz.ntmps56
      go_wp2_with fail
      refine HV.out.mono ?_
      rintro e w' ⟨rfl, rfl⟩
      simp only [valued, Int.reduceBEq, Bool.or_false, Bool.or_true]
      go_wp2
      go_ret
      exact ⟨rfl, rfl⟩
  · have e1 : valued op = false := by simp [valued, h2, h3, h5, h7]
    have e2 : fitsOf op ret = false := by simp [fitsOf, e1, h1, h4, h6, h8, h9]
    rw [e1] at HV
    rw [e2]
    have n1 : (op == 1) = false := by simpa using h1
    have n2 : (op == 2) = false := by simpa using h2
    have n3 : (op == 3) = false := by simpa using h3
    have n4 : (op == 4) = false := by simpa using h4
    have n5 : (op == 5) = false := by simpa using h5
    have n6 : (op == 6) = false := by simpa using h6
    have n7 : (op == 7) = false := by simpa using h7
    have n8 : (op == 8) = false := by simpa using h8
    have n9 : (op == 9) = false := by simpa using h9
    clear e1 e2
    go_enter Tryz.func56, Tryz.ntmps56
    go_wp2_with fail
    refine HV.out.mono ?_
    rintro e w' ⟨rfl, rfl⟩
    go_wp2
    go_ret
    exact ⟨rfl, rfl⟩

end Go.Proofs.YtgfmlaflochffaaGreatDoor
