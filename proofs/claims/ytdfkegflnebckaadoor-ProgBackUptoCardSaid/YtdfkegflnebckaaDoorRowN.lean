/-
  A new row of the call's own; a row behind a call that leaves all that was there. (The same two words stand in Next: a text imports the one or the other.)
-/
import Derived.Test.YtdfkegflnebckaaDoorFirst
namespace Go.Proofs.YtdfkegflnebckaaDoor
open Go.RowKit Go.Maps W

theorem row_new {w : World} {cs : Array Value} {t : TypeId} {B size n : Nat} (hn : cs.size = n * size) (hB : B ≤ w.heap.size) (hm : n ≤ maxLen) : (w.alloc (.cells cs t)).ownsRow B t size (.slice (some ⟨w.heap.size, 0, none⟩) n n) n cs.toList :=
  ⟨by simpa using hn, .inr ⟨_, _, cs, rfl, hB, heap_alloc_new w _, Nat.le_refl _, hm, hn, by rw [← hn]; exact List.take_of_length_le (by simp)⟩⟩
theorem row_call {w w' : World} {B n size : Nat} {e : TypeId} {v : Value} {xs : List Value} (h : w.ownsRow B e size v n xs) (hb : Below w.heap.size w w') : w'.ownsRow B e size v n xs := row_only h (Only.of_below (S := []) hb (Nat.le_refl _)) (by simp)
end Go.Proofs.YtdfkegflnebckaaDoor
