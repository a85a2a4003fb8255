/-
  The chapter's examples (umpirelaw1.first): true, in every memory in which the package variables hold what their texts lay.
-/
import Derived.Test.YtdfkegflnebckaaDoorSame
import Derived.Test.YtdfkegflnebckaaDoorGet
namespace Go.Proofs.YtdfkegflnebckaaDoor
open Go.RowKit Go.Maps W

theorem itoa5 : Lib.itoa (-5) = [45, 53] := by
  unfold Lib.itoa
  rw [if_pos (by decide), Lib.decDigits, dif_pos (by decide)]
  rfl
theorem itoa7' : Lib.itoa 7 = [55] := by
  unfold Lib.itoa
  rw [if_neg (by decide), Lib.decDigits, dif_pos (by decide)]
  rfl
theorem itoa7 : Lib.itoa (-7) = [45, 55] := by
  unfold Lib.itoa
  rw [if_pos (by decide), Lib.decDigits, dif_pos (by decide)]
  rfl
theorem num5 : number [45, 53] = some (-5) := by
  have h := number_itoa (-5) (by decide) (by decide)
  rw [itoa5, if_pos (by decide)] at h
  exact h
theorem num007 : number [48, 48, 55] = none := by
  unfold number
  have h : Lib.atoiAll [48, 48, 55] = .ok 7 := by decide
  rw [h]
  simp [itoa7']
theorem words1 : W.words [32, 32, 97, 32, 32, 98, 99, 32] = [[97], [98, 99]] := by decide
theorem vb128 : vb (zig 64) = [128, 1] := by
  have h : zig 64 = 128 := by decide
  rw [h, vb_big (by decide), vb_small (by decide)]
  rfl
theorem vb129 : (vb (zig (-65))).length = 2 := by
  have h : zig (-65) = 129 := by decide
  rw [h, vb_big (by decide), vb_small (by decide)]
  rfl
theorem vget128 : vget [128, 1, 7] = .ok 128 2 := by
  unfold vget
  simp [vgo]
theorem silent1 : silent [32, 35, 32, 120] = true := by decide
theorem join1 : Lib.join [[97], [98, 99]] [32] = [97, 32, 98, 99] := by decide

theorem reads_block {w : World} {g : Nat} {t : TypeId} {cs : Array Value} {fr : Nat × Nat} {n : Nat} (h : w.heap[g]? = some (.cells cs t fr)) (hn : n = cs.toList.length) : Reads w (.slice (some ⟨g, 0, none⟩) n n) cs.toList := by
  subst hn
  refine ⟨some ⟨g, 0, none⟩, cs.toList.length, g, 0, rfl, by simp, fun a ha _ => by injection ha with ha; exact ha.symm, Nat.le_refl _, fun j u hj => ?_⟩
  rw [Nat.zero_add, cell_of_row w g j cs t fr h]
  simpa using hj
theorem below_al {B : Nat} {w a b : World} {o : Obj} (h : Below B w a) (hB : B ≤ a.heap.size) (hb : Below (a.alloc o).heap.size (a.alloc o) b) : Below B w b :=
  (h.alloc hB o).trans (hb.mono (by simp; omega))
theorem Laid.of {w w' : World} (h : Laid w) (hb : Below w.heap.size w w') : Laid w' := h.below hb

end Go.Proofs.YtdfkegflnebckaaDoor
