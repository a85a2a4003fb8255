/-
  word.Get: the number whose bytes come first, and how many they are; else an error that is not nil.
-/
import Derived.Test.YtdfkegflnebckaaDoorBytes
import Derived.Test.YtdfkegflnebckaaDoorShift
namespace Go.Proofs.YtdfkegflnebckaaDoor
open Go.RowKit Go.Maps W

/-- What Get answers. -/
def GetIs (l : List UInt8) (r : Value) : Prop :=
  match vget l with
  | .ok u k => r = .tuple #[.int .i64 (zag u), .int .i64 (k : Int), .nilIface]
  | _ => ∃ a, r = .tuple #[.int .i64 0, .int .i64 0, .iface 162 (.pointer (some a))]

def Bad (k x : Nat) : Prop := (k = 9 ∧ 1 < x) ∨ (0 < k ∧ x = 0)
theorem vg_drop {l : List UInt8} {k : Nat} {ch : UInt8} (h : l[k]? = some ch) : l.drop k = ch :: l.drop (k + 1) := by
  obtain ⟨hlt, rfl⟩ := List.getElem?_eq_some_iff.1 h
  exact List.drop_eq_getElem_cons hlt
theorem vg_ok {l : List UInt8} {k a : Nat} {ch : UInt8} (hg : vgo k a (l.drop k) = vget l) (h : l[k]? = some ch) (hb : ¬ Bad k ch.toNat) (h1 : ch.toNat < 128) : vget l = .ok (a + ch.toNat % 128 * 128 ^ k) (k + 1) := by
  unfold Bad at hb
  rw [← hg, vg_drop h, vgo, if_neg hb, if_pos h1, show ch.toNat % 128 = ch.toNat by omega]
theorem vg_next {l : List UInt8} {k a : Nat} {ch : UInt8} (hg : vgo k a (l.drop k) = vget l) (h : l[k]? = some ch) (hb : ¬ Bad k ch.toNat) (h1 : ¬ ch.toNat < 128) : vgo (k + 1) (a + ch.toNat % 128 * 128 ^ k) (l.drop (k + 1)) = vget l := by
  unfold Bad at hb
  rw [← hg, vg_drop h, vgo, if_neg hb, if_neg h1]
theorem vg_long {l : List UInt8} {k a : Nat} {ch : UInt8} (hg : vgo k a (l.drop k) = vget l) (h : l[k]? = some ch) (hb : Bad k ch.toNat) : vget l = .long := by
  unfold Bad at hb
  rw [← hg, vg_drop h, vgo, if_pos hb]
theorem vg_end {l : List UInt8} {a k : Nat} (hg : vgo k a (l.drop k) = vget l) (h : l.length ≤ k) : vget l = .ends := by
  rw [← hg, List.drop_of_length_le h, vgo]
theorem zag_odd {u : Nat} (h : u % 2 = 1) : zag u = -((u : Int) / 2) - 1 := by unfold zag; rw [if_pos h]; omega
theorem zag_even {u : Nat} (h : ¬ u % 2 = 1) : zag u = (u : Int) / 2 := by unfold zag; rw [if_neg h]; omega

end Go.Proofs.YtdfkegflnebckaaDoor
