/-
  A slice of texts that came in, opened to what it reads as; how long its texts are, joined, by the bulk of what was read.
-/
import Derived.Test.YtdinjplbbmhleaaDoorWClose
import Derived.Test.YtdinjplbbmhleaaDoorJoin
namespace Go.Proofs.YtdinjplbbmhleaaDoor
open Go.ChangeShapes Go.WideShapes Go.ChangeAt Go.RowKit

theorem bulk_strs {H : Type} : ∀ (ss : List ByteArray), Rows.uptoBulkAll (strs (H := H) ss) = Lib.lens (ss.map (·.data.toList)) + ss.length
  | [] => by simp [strs, Rows.uptoBulkAll, Lib.lens]
  | s :: r => by
    have ih := bulk_strs (H := H) r
    simp only [strs, List.map_cons, Rows.uptoBulkAll, Rows.uptoBulk, Lib.lens, List.sum_cons, List.length_cons] at ih ⊢
    omega
theorem join_le (l : List (List UInt8)) : (Lib.join l [32]).length ≤ Lib.lens l + l.length := by
  cases l with
  | nil => simp [Lib.join_nil]
  | cons x r =>
    rw [Lib.join_length]
    simp
    omega
section
variable {H : Type} {enc : TypeId × Value → H} {base : Nat} {spare : Nat → Bool} {held : Bool}
theorem texts_at {w : World} {a : Addr} {ss : List ByteArray} (hcell : ∀ i, i < ss.length → w.cell? (a.add i) = some (.string (ss.getD i ByteArray.empty))) (h0 : 0 < ss.length) :
    ∃ b off, a = ⟨b, off, none⟩ ∧ ∀ i, i < ss.length → w.cell? ⟨b, off + i, none⟩ = some (.string (ss.getD i ByteArray.empty)) := by
  obtain ⟨b, off, spot⟩ := a
  have hspot : spot = none := by simpa [Addr.add] using World.cell?_spot (hcell 0 h0)
  subst hspot
  exact ⟨b, off, rfl, fun j hj => by rw [← Go.WideShapes.add_plain]; exact hcell j hj⟩
theorem texts_open {W : World} {v : Value} {d : DataW H} {ps : List MemPlace} (hv : ∃ a n c, v = .slice a n c) (h : DataW.Trod enc Tryd.prog W base spare held 22 v d ps) :
    ∃ l : List (List UInt8), Reads W v (txs l) ∧ l.length ≤ Rows.uptoBulk d ∧ (Lib.join l [32]).length ≤ Rows.uptoBulk d := by
  obtain ⟨a0, n0, c0, rfl⟩ := hv
  obtain ⟨fuel, h⟩ := h
  rcases open_strings Tryd.underlying22 Tryd.underlying9 (by kernel_rfl) h with ⟨h0, _⟩ | ⟨a, len, cap, zs, hcs, _, hl, hm, hz, hx, hcell, hw⟩
  · simp [Value.cells] at h0
    obtain ⟨rfl, rfl, rfl⟩ := h0
    exact ⟨[], Reads.nil W, Nat.zero_le _, by simp [Lib.join_nil]⟩
  · simp [Value.cells] at hcs
    obtain ⟨rfl, rfl, rfl⟩ := hcs
    have hnz : n0 ≤ zs.length := by rw [hz]; split <;> omega
    obtain ⟨hd, _⟩ := Prod.mk.inj hx
    have hbk := bulk_strs (H := H) (zs.take n0)
    have hjl := join_le ((zs.take n0).map (·.data.toList))
    have hbd : Rows.uptoBulkAll (strs (H := H) (zs.take n0)) ≤ Rows.uptoBulk d := by
      rw [hd]
      simp only [Rows.uptoBulk]
      omega
    have hlen : (txs ((zs.take n0).map (·.data.toList))).length = n0 := by simp [txs_len]; omega
    have hlm : ((zs.take n0).map (·.data.toList)).length = (zs.take n0).length := by simp
    refine ⟨(zs.take n0).map (·.data.toList), ?_, by omega, by omega⟩
    rcases Nat.eq_zero_or_pos n0 with h0 | h0
    · subst h0
      exact ⟨some a, c0, 0, 0, by simp [txs], by simp, fun _ _ h => by simp [txs] at h, by simp [txs], fun j u hj => by simp [txs] at hj⟩
    · obtain ⟨b, off, rfl, hc⟩ := texts_at hcell (by omega)
      refine ⟨some ⟨b, off, none⟩, c0, b, off, by rw [hlen], by simp, fun x hx _ => by injection hx with hx; exact hx.symm, by omega, fun j u hj => ?_⟩
      have hj2 : j < n0 := by
        have := (List.getElem?_eq_some_iff.1 hj).1
        omega
      rw [hc j (by omega)]
      have hjl2 : j < zs.length := by omega
      have e : (txs ((zs.take n0).map (·.data.toList)))[j]? = some (.string zs[j]) := by
        simp only [txs, List.map_map, List.getElem?_map, List.getElem?_take_of_lt hj2, List.getElem?_eq_getElem hjl2, Option.map_some, Function.comp, ← str_of]
      rw [e] at hj
      rw [← hj]
      simp [List.getD, hjl2]
end
end Go.Proofs.YtdinjplbbmhleaaDoor
