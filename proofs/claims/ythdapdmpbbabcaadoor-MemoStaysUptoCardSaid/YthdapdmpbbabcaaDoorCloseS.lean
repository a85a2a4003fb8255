/-
  A slice of texts that came in, opened: its cells, and that each may be a key.
-/
import Derived.Test.YthdapdmpbbabcaaDoorClose
import Derived.SliceStrings
namespace Go.Proofs.YthdapdmpbbabcaaDoor
open Go.RowKit Go.ChangeShapes
section
variable {H : Type} {enc : TypeId × Value → H} {base : Nat} {spare : Nat → Bool} {held : Bool}
theorem texts_at {w : World} {a : Addr} {ss : List ByteArray} (hcell : ∀ i, i < ss.length → w.cell? (a.add i) = some (.string (ss.getD i ByteArray.empty))) (h0 : 0 < ss.length) :
    ∃ b off, a = ⟨b, off, none⟩ ∧ ∀ i, i < ss.length → w.cell? ⟨b, off + i, none⟩ = some (.string (ss.getD i ByteArray.empty)) := by
  obtain ⟨b, off, spot⟩ := a
  have hspot : spot = none := by simpa [Addr.add] using World.cell?_spot (hcell 0 h0)
  subst hspot
  exact ⟨b, off, rfl, fun j hj => by rw [← Go.WideShapes.add_plain]; exact hcell j hj⟩
theorem texts_open {W : World} {v : Value} {d : DataW H} {ps : List MemPlace} (hv : ∃ a n c, v = .slice a n c) (h : DataW.Trod enc Tryd.prog W base spare held 55 v d ps) :
    ∃ (A : Option Addr) (n c b off : Nat) (Z : Nat → ByteArray), v = .slice A n c ∧ n ≤ maxLen ∧ (0 < n → A = some ⟨b, off, none⟩) ∧ ∀ j, j < n → W.cell? ⟨b, off + j, none⟩ = some (.string (Z j)) ∧ (Z j).size ≤ maxLen := by
  obtain ⟨a0, n0, c0, rfl⟩ := hv
  obtain ⟨fuel, h⟩ := h
  rcases open_strings Tryd.underlying55 Tryd.underlying9 (by kernel_rfl) h with ⟨h0, _⟩ | ⟨a, len, cap, zs, hcs, _, hl, hm, hz, _, hcell, hw⟩
  · simp [Value.cells] at h0
    obtain ⟨rfl, rfl, rfl⟩ := h0
    exact ⟨none, 0, 0, 0, 0, fun _ => .empty, rfl, Nat.zero_le _, fun h => absurd h (Nat.lt_irrefl 0), fun j hj => absurd hj (Nat.not_lt_zero j)⟩
  · simp [Value.cells] at hcs
    obtain ⟨rfl, rfl, rfl⟩ := hcs
    have hnz : n0 ≤ zs.length := by rw [hz]; split <;> omega
    rcases Nat.eq_zero_or_pos n0 with h0 | h0
    · subst h0
      exact ⟨some a, 0, c0, 0, 0, fun _ => .empty, rfl, Nat.zero_le _, fun h => absurd h (Nat.lt_irrefl 0), fun j hj => absurd hj (Nat.not_lt_zero j)⟩
    · obtain ⟨b, off, rfl, hc⟩ := texts_at hcell (by omega)
      refine ⟨_, n0, c0, b, off, fun j => zs.getD j .empty, rfl, by omega, fun _ => rfl, fun j hj => ⟨hc j (by omega), ?_⟩⟩
      have hjl : j < zs.length := by omega
      have e : zs.getD j .empty = zs[j] := by simp [List.getD, hjl]
      show (zs.getD j .empty).size ≤ maxLen
      rw [e]
      exact hw _ (List.getElem_mem hjl)
end
end Go.Proofs.YthdapdmpbbabcaaDoor
