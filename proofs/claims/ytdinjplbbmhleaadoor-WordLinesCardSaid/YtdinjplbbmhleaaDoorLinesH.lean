/-
  For WordLines: a row that a call has laid is kept beside the caller's blocks; the law's result lies in a box; how the law's call ends behind its loops.
-/
import Derived.Test.YtdinjplbbmhleaaDoorJoins
import Derived.Test.YtdinjplbbmhleaaDoorLinesRef
namespace Go.Proofs.YtdinjplbbmhleaaDoor
open Go.RowKit Go.Maps W

/-- A row of bytes that a call has laid, where there was none. -/
theorem Bx.adopt {w W W' : World} {L : List (Nat × Obj)} {msl : Value} {m : List UInt8} (h : Bx w L (.slice none 0 0) [] W) (hown : W'.ownsRow W.heap.size 5 1 msl m.length (bys m)) (hb : Below W.heap.size W W') : Bx w L msl m W' := by
  have h2 := h.call hb
  refine ⟨fun p hp => ⟨(h2.objs p hp).1, (h2.objs p hp).2.1, fun e => ?_⟩, h2.nodup, row_base hown h.size, h2.below⟩
  have h3 := (row_own hown e).1
  have h4 := h.lt hp
  omega
/-- A row of another kind that a call has laid: its block, if there is one, stands beside the others. -/
theorem Bx.adoptRow {w W W' : World} {L : List (Nat × Obj)} {msl : Value} {m : List UInt8} {e n : Nat} {r : Value} {xs : List Value} (h : Bx w L msl m W) (he : e ≠ 5) (hown : W'.ownsRow W.heap.size e 1 r n xs) (hb : Below W.heap.size W W') :
    ∃ Lw : List (Nat × Obj), Bx w (L ++ Lw) msl m W' ∧ (∀ V : World, (∀ p ∈ Lw, V.heap[p.1]? = some p.2) → Reads V r xs) ∧ (∀ p ∈ Lw, ∀ cs fr, p.2 ≠ (.cells cs 5 fr : Obj)) := by
  have h2 := h.call hb
  have hown0 := hown
  rcases hown.2 with ⟨rfl, rfl⟩ | ⟨g, cap, cur, rfl, hg, hh, hn, hc, hs, ht⟩
  · have hx : xs = [] := by simpa using hown.1
    subst hx
    exact ⟨[], by rw [List.append_nil]; exact h2, fun V _ => Reads.nil V, by simp⟩
  · refine ⟨[(g, .cells cur e (0, 0))], ?_, ?_, ?_⟩
    · refine Bx.perm (L := (g, .cells cur e (0, 0)) :: L) ⟨fun p hp => ?_, ?_, h2.row, h2.below⟩ (List.perm_append_comm (l₁ := L) (l₂ := [_]))
      · rcases List.mem_cons.1 hp with rfl | hp
        · refine ⟨hh, Nat.le_trans h.size hg, fun e2 => ?_⟩
          have := (row_own h.row e2).2
          simp only at this
          omega
        · exact h2.objs p hp
      · rw [List.map_cons, List.nodup_cons]
        refine ⟨fun hm => ?_, h2.nodup⟩
        obtain ⟨p, hp, e2⟩ := List.mem_map.1 hm
        have := h.lt hp
        simp only at e2
        omega
    · intro V hV
      exact reads_of_row (base := 0) ⟨hown0.1, .inr ⟨g, cap, cur, rfl, Nat.zero_le _, hV (g, .cells cur e (0, 0)) (by simp), hn, hc, hs, ht⟩⟩
    · intro p hp cs fr e2
      obtain rfl : p = _ := by simpa using hp
      injection e2 with _ e3
      exact he e3
theorem func_nil9 (lb : Array Value) (w : World) : (binOp .eql 57 (.func (.func 68) #[] lb) .nilFunc).run Tryd.prog w = .ok (.bool false) w := by
  simp only [binOp]
  simp [Op.equal, Op.maxDepth, go_sem]
  kernel_rfl
theorem res9 (tmps : Array Value) (w : World) (g : Nat) (x : Bool) (hp : tmps.getD 4 undef = .pointer (some ⟨g, 0, none⟩)) (hc : w.cell? ⟨g, 0, none⟩ = some (.bool x)) : (results Tryd.f9 tmps).run Tryd.prog w = .ok (.bool x) w := by
  have hp' : tmps[4]?.getD undef = .pointer (some ⟨g, 0, none⟩) := by simpa using hp
  simp [results, Tryd.f9, hp', go_sem, hc]
theorem leave_marks9 (w : World) (g : Nat) (tmps : Array Value) (ht : tmps.getD 4 undef = .pointer (some ⟨g, 0, none⟩)) : ∀ (Ds : List Nat) (W : World), Ds.Nodup → (∀ D ∈ Ds, W.heap[D]? = some (.deferred (some [])) ∧ w.heap.size ≤ D) →
    W.cell? ⟨g, 0, none⟩ = some (.bool true) → Below w.heap.size w W →
    LeavesInM Fence.wide 8 Tryd.prog Tryd.f9 tmps (fun e w' => e = .returned (.bool true) ∧ Below w.heap.size w w') (Ds.map fun D => { target := .collected D, args := #[] }) .returning W
  | [], W, _, _, hc, hb => ⟨_, res9 tmps W g true ht hc, rfl, hb⟩
  | D :: Ds, W, hn, hD, hc, hb => by
    have hK := (hD D (by simp)).1
    refine ⟨by simp, .inl ⟨D, _, rfl, run_takeDeferred hK, ?_⟩⟩
    rw [List.nodup_cons] at hn
    refine leave_marks9 w g tmps ht Ds _ hn.2 (fun D' hD' => ?_) (cell_kept hc (grownBy_putObj' W D (.deferred none)) (fun r e => by cases e; exact ⟨_, hK, rfl⟩)) (hb.trans (belowK_b (w := w) (Nat.le_refl _) W D _ _ (hD D (by simp)).2 hK rfl rfl))
    have hne : D' ≠ D := fun e => hn.1 (e ▸ hD')
    exact ⟨(World.putObj_heap_other hne).trans (hD D' (List.mem_cons_of_mem _ hD')).1, (hD D' (List.mem_cons_of_mem _ hD')).2⟩
theorem range_snoc {k x : Nat} {pre : List Nat} (h : List.range k = pre ++ [x]) : x = pre.length := by
  have hl := congrArg List.length h
  simp at hl
  have h2 : (List.range k)[pre.length]? = some x := by rw [h]; simp
  rw [List.getElem?_range (by omega)] at h2
  injection h2 with h2
  exact h2.symm
end Go.Proofs.YtdinjplbbmhleaaDoor
