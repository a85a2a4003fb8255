/-
  umpireref.SameTexts; umpireref1.Silent. Bounds on lengths alone.
-/
import Derived.Test.YtdfkegflnebckaaDoorText
namespace Go.Proofs.YtdfkegflnebckaaDoor
open Go.RowKit Go.Maps W

theorem take_same {α : Type} {a b : List α} {k : Nat} {x : α} (h : a.take k = b.take k) (ha : a[k]? = some x) (hb : b[k]? = some x) : a.take (k + 1) = b.take (k + 1) := by
  rw [List.take_add_one, List.take_add_one, h, ha, hb]
theorem take_differ {α : Type} {a b : List α} {k : Nat} {x y : α} (ha : a[k]? = some x) (hb : b[k]? = some y) (hne : x ≠ y) : a ≠ b := by
  rintro rfl
  rw [ha] at hb
  injection hb with hb
  exact hne hb

theorem silent_drop (l : List UInt8) (k : Nat) (hk : ∀ j, j < k → l[j]? = some 32) : l.dropWhile (· == 32) = (l.drop k).dropWhile (· == 32) := by
  induction k generalizing l with
  | zero => simp
  | succ k ih =>
    cases l with
    | nil => simp
    | cons c r =>
      obtain rfl : c = 32 := by have := hk 0 (by omega); simpa using this
      rw [List.dropWhile_cons_of_pos (by decide), List.drop_succ_cons]
      exact ih r (fun j hj => by have := hk (j + 1) (by omega); simpa using this)

end Go.Proofs.YtdfkegflnebckaaDoor
