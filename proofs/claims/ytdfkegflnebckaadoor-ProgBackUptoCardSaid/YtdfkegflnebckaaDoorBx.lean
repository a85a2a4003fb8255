/-
  A caller's own blocks, known whole, and a row of bytes of its own, as one word that is carried along; nothing older turned.
-/
import Derived.RangeFuncNested
import Derived.RangeFuncBound
import Derived.RangeFuncCalls
import Derived.RangeFuncLeaves
import Derived.OwnWalkIn
import Derived.TacticsInMore
import Derived.LoopNIn
import Derived.LoopIn
import Derived.Test.YtdfkegflnebckaaDoorOwn
namespace Go.Proofs.YtdfkegflnebckaaDoor
open Go.RowKit Go.Maps W

/-- The block of a box. -/
def bx (t : TypeId) (v : Value) : Obj := .cells #[v] t (0, 0)
theorem lt_of_get {W : World} {k : Nat} {o : Obj} (h : W.heap[k]? = some o) : k < W.heap.size := by
  rcases Nat.lt_or_ge k W.heap.size with h' | h'
  · exact h'
  · rw [Array.getElem?_eq_none h'] at h; cases h

structure Bx (w : World) (L : List (Nat × Obj)) (msl : Value) (m : List UInt8) (W : World) : Prop where
  objs : ∀ p ∈ L, W.heap[p.1]? = some p.2 ∧ w.heap.size ≤ p.1 ∧ msl.ownBlock ≠ some p.1
  nodup : (L.map Prod.fst).Nodup
  row : W.ownsRow w.heap.size 5 1 msl m.length (bys m)
  below : Below w.heap.size w W

section
variable {w W W' : World} {L : List (Nat × Obj)} {B : Nat} {msl : Value} {m : List UInt8}
theorem Bx.lt (h : Bx w L msl m W) {p : Nat × Obj} (hp : p ∈ L) : p.1 < W.heap.size := lt_of_get (h.objs p hp).1
theorem Bx.size (h : Bx w L msl m W) : w.heap.size ≤ W.heap.size := h.below.size
theorem Bx.blk (h : Bx w L msl m W) {g : Nat} {t : TypeId} {cs : Array Value} (hp : (g, (.cells cs t (0, 0) : Obj)) ∈ L) : Blk W g t cs := (h.objs _ hp).1
theorem Bx.cell (h : Bx w L msl m W) {g : Nat} {t : TypeId} {v : Value} (hp : (g, bx t v) ∈ L) : W.cell? ⟨g, 0, none⟩ = some v := by
  have h1 : Blk W g t #[v] := (h.objs _ hp).1
  rw [h1.cell]
  rfl
theorem Bx.frozen (h : Bx w L msl m W) {g : Nat} {t : TypeId} {v : Value} (hp : (g, bx t v) ∈ L) : W.frozen? ⟨g, 0, none⟩ = false := by
  have h1 : Blk W g t #[v] := (h.objs _ hp).1
  exact h1.frozen 0
theorem Bx.sub {L' : List (Nat × Obj)} (h : Bx w L msl m W) (hs : L'.Sublist L) : Bx w L' msl m W :=
  ⟨fun p hp => h.objs p (hs.subset hp), h.nodup.sublist (hs.map _), h.row, h.below⟩
theorem Bx.perm {L' : List (Nat × Obj)} (h : Bx w L msl m W) (hp : L'.Perm L) : Bx w L' msl m W :=
  ⟨fun p hm => h.objs p (hp.subset hm), (hp.map _).nodup_iff.2 h.nodup, h.row, h.below⟩
theorem Bx.swap {x y : Nat × Obj} (h : Bx w (x :: y :: L) msl m W) : Bx w (y :: x :: L) msl m W := h.perm (List.Perm.swap x y L)
theorem Bx.drewN (h : Bx w L msl m W) (n : Nat) : Bx w L msl m (W.drewN n) :=
  ⟨h.objs, h.nodup, h.row, below_only h.below ((Only.refl [] W).drewN n) h.below.size (by simp)⟩
/-- A call that leaves all that was there. -/
theorem Bx.call (h : Bx w L msl m W) (hb : Below W.heap.size W W') : Bx w L msl m W' :=
  ⟨fun p hp => ⟨(hb.block p.1 (h.lt hp)).trans (h.objs p hp).1, (h.objs p hp).2⟩, h.nodup, row_only h.row (Only.of_below (S := []) hb (Nat.le_refl _)) (by simp), h.below.trans (hb.mono h.below.size)⟩
theorem Bx.alloc (h : Bx w L msl m W) (o : Obj) : Bx w ((W.heap.size, o) :: L) msl m (W.alloc o) := by
  have hO : Only [] W (W.alloc o) := (Only.refl _ _).alloc o
  refine ⟨?_, ?_, row_only h.row hO (by simp), below_only h.below hO h.below.size (by simp)⟩
  · intro p hp
    rcases List.mem_cons.1 hp with rfl | hp
    · refine ⟨World.alloc_heap_new W o, h.below.size, fun e => ?_⟩
      have := (row_own h.row e).2
      simp at this
    · exact ⟨(Below.heap_alloc W o p.1 (h.lt hp)).trans (h.objs p hp).1, (h.objs p hp).2⟩
  · rw [List.map_cons, List.nodup_cons]
    refine ⟨fun hm => ?_, h.nodup⟩
    obtain ⟨p, hp, e⟩ := List.mem_map.1 hm
    have := h.lt hp
    simp only at e
    omega
theorem Bx.alloc' (h : Bx w L msl m W) (o : Obj) : Bx w L msl m (W.alloc o) := (h.alloc o).sub (List.sublist_cons_self _ _)
theorem Bx.put {g : Nat} {t : TypeId} {v : Value} (h : Bx w ((g, bx t v) :: L) msl m W) (u : Value) : Bx w ((g, bx t u) :: L) msl m (W.setCell ⟨g, 0, none⟩ u) := by
  have hg := h.objs (g, bx t v) (by simp)
  have hO : Only [g] W (W.setCell ⟨g, 0, none⟩ u) := (Only.refl _ _).setCell (.inl (by simp)) u
  have hnd := h.nodup
  rw [List.map_cons, List.nodup_cons] at hnd
  refine ⟨?_, ?_, row_only h.row hO (fun g' e hm => by simp at hm; subst hm; exact hg.2.2 e), below_only h.below hO h.below.size (by simpa using hg.2.1)⟩
  · intro p hp
    rcases List.mem_cons.1 hp with rfl | hp
    · have h1 : Blk W g t #[v] := hg.1
      exact ⟨h1.put 0 u, hg.2⟩
    · have hne : p.1 ≠ g := fun e => hnd.1 (List.mem_map.2 ⟨p, hp, e⟩)
      have h6 := h.objs p (List.mem_cons_of_mem _ hp)
      exact ⟨(Below.heap_setCell W ⟨g, 0, none⟩ u p.1 hne).trans h6.1, h6.2⟩
  · rw [List.map_cons, List.nodup_cons]
    exact hnd
/-- The book-keeping of a loop over a function turns a block of its own. -/
theorem Bx.turn (h : Bx w L msl m W) {row : Option Nat} (hL : ∀ p ∈ L, p.1 < B) (hB : w.heap.size ≤ B) (hg : W.grownBy W' row) (hr : ∀ r, row = some r → B ≤ r ∧ ∃ o : Obj, W.heap[r]? = some o ∧ o.isCells = false) : Bx w L msl m W' := by
  have hO : Only row.toList W W' := (Only.refl _ W).grown hg (fun k e => .inl (by simp [e]))
  refine ⟨?_, h.nodup, row_only h.row hO (fun g e hm => ?_), below_only h.below hO h.below.size ?_⟩
  · intro p hp
    refine ⟨(hg.block p.1 (h.lt hp) (fun e => ?_)).trans (h.objs p hp).1, (h.objs p hp).2⟩
    have := (hr p.1 e.symm).1
    have := hL p hp
    omega
  · have hm' : row = some g := by simpa using hm
    obtain ⟨_, o, ho1, ho2⟩ := hr g hm'
    rcases h.row.2 with ⟨rfl, _⟩ | ⟨g', cap, cur, rfl, _, hh, _⟩
    · simp [Value.ownBlock] at e
    · obtain rfl : g' = g := by simpa [Value.ownBlock] using e
      rw [hh] at ho1
      injection ho1 with ho1
      subst ho1
      simp [Obj.isCells] at ho2
  · intro x hx
    have := (hr x (by simpa using hx)).1
    omega
/-- The caller's own bytes have grown. -/
theorem Bx.grow {msl' : Value} {m' : List UInt8} (h : Bx w L msl m W) (hrow : W'.ownsRow w.heap.size 5 1 msl' m'.length (bys m')) (hg : W.grownBy W' msl.ownBlock) (hloc : msl'.ownBlock = msl.ownBlock ∨ ∃ k, msl'.ownBlock = some k ∧ W.heap.size ≤ k) : Bx w L msl' m' W' := by
  have hO : Only msl.ownBlock.toList W W' := (Only.refl _ W).grown hg (fun k e => .inl (by simp [e]))
  refine ⟨?_, h.nodup, hrow, below_only h.below hO h.below.size ?_⟩
  · intro p hp
    refine ⟨(hg.block p.1 (h.lt hp) (fun e => (h.objs p hp).2.2 e.symm)).trans (h.objs p hp).1, (h.objs p hp).2.1, fun e => ?_⟩
    rcases hloc with hl | ⟨k, hl, hk⟩
    · exact (h.objs p hp).2.2 (hl ▸ e)
    · rw [hl] at e
      have := h.lt hp
      simp at e
      omega
  · intro x hx
    exact (row_own h.row (by simpa using hx)).1
/-- The block for the rounds' deferred calls, behind a loop over a function. -/
theorem Bx.mark {D : Nat} (h : Bx w L msl m W) (hK : W.heap[D]? = some (.deferred (some []))) (hL : ∀ p ∈ L, p.1 < B) (hB : w.heap.size ≤ B) (hD : B ≤ D) : Bx w ((D, .deferred (some [])) :: L) msl m W := by
  refine ⟨?_, ?_, h.row, h.below⟩
  · intro p hp
    rcases List.mem_cons.1 hp with rfl | hp
    · refine ⟨hK, by simp only; omega, fun e => ?_⟩
      rcases h.row.2 with ⟨rfl, _⟩ | ⟨g', cap, cur, rfl, _, hh, _⟩
      · simp [Value.ownBlock] at e
      · obtain rfl : g' = D := by simpa [Value.ownBlock] using e
        rw [hh] at hK
        cases hK
    · exact h.objs p hp
  · rw [List.map_cons, List.nodup_cons]
    refine ⟨fun hm => ?_, h.nodup⟩
    obtain ⟨p, hp, e⟩ := List.mem_map.1 hm
    have := hL p hp
    simp only at e
    omega
end
end Go.Proofs.YtdfkegflnebckaaDoor
