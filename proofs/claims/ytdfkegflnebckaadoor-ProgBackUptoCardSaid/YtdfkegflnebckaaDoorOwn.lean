/-
  WordOwn: for every line and every number the law answers true, and nothing that was there has turned.
-/
import Derived.Test.YtdfkegflnebckaaDoorRef
namespace Go.Proofs.YtdfkegflnebckaaDoor
open Go.RowKit Go.Maps W

theorem rows_apart {w : World} {b1 b2 e1 e2 n c m : Nat} {g : Nat} {v : Value} {xs ys : List Value} (h : w.ownsRow b1 e1 1 (.slice (some ⟨g, 0, none⟩) n c) n xs) (h2 : w.ownsRow b2 e2 1 v m ys) (hne : e1 ≠ e2) : v.ownBlock ≠ some g := by
  intro e
  rcases h.2 with ⟨h', _⟩ | ⟨g', cap', cur, h', _, hg, _⟩
  · simp at h'
  · simp only [Value.slice.injEq, Option.some.injEq, Addr.mk.injEq, and_true, true_and] at h'
    obtain ⟨rfl, rfl⟩ := h'
    rcases h2.2 with ⟨rfl, _⟩ | ⟨g2, cap2, cur2, rfl, _, hg2, _⟩
    · simp [Value.ownBlock] at e
    · obtain rfl : g2 = g := by simpa [Value.ownBlock] using e
      rw [hg] at hg2
      injection hg2 with hg2
      injection hg2 with _ h3
      exact hne h3
theorem row_at {w : World} {b e n c g : Nat} {xs : List Value} (h : w.ownsRow b e 1 (.slice (some ⟨g, 0, none⟩) n c) n xs) (j : Nat) (hj : j < n) : ∃ u, w.cell? ⟨g, j, none⟩ = some u := by
  have h1 := h.cellAt j (by omega)
  have hl : xs.length = n := by simpa using h.1
  exact ⟨xs[j]'(by omega), by rw [h1]; exact List.getElem?_eq_getElem (by omega)⟩
theorem row_some {w : World} {b e n : Nat} {v : Value} {xs : List Value} (h : w.ownsRow b e 1 v n xs) (h0 : 0 < n) : ∃ g c, v = .slice (some ⟨g, 0, none⟩) n c := by
  rcases row_cases h with ⟨_, h0', _⟩ | ⟨g, cap, h', _⟩
  · omega
  · exact ⟨g, cap, h'⟩

theorem wl_len : ∀ (l cur : List UInt8), (wl cur l).length ≤ l.length + 1
  | [], cur => by rw [wl]; split <;> simp
  | c :: r, cur => by
    rw [wl]
    split
    · split
      · have := wl_len r []
        simp; omega
      · have := wl_len r []
        simp; omega
    · have := wl_len r (cur ++ [c])
      simp; omega

end Go.Proofs.YtdfkegflnebckaaDoor
