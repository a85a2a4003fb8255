/-
  What is done with a transaction at an event: shape.moves' functions.
-/
import Derived.Test.YtgfmlaflochffaaGreatDoorShMZ
import Derived.Test.YtgfmlaflochffaaGreatDoorShMvZ
import Derived.Test.YtgfmlaflochffaaGreatDoorCodeZ
import Derived.Deep.RegionHeld3
import Derived.Deep.RegionHeldLaw
import Derived.Deep.DrawnRows
import Derived.Deep.AppendLies
import Derived.Outline
namespace Go.Proofs.YtgfmlaflochffaaGreatDoor
open Go.RowKit Go.Maps W
attribute [local go_sem ↓] Go.wp_at_zero Go.wp_at_succ

abbrev DoPost (L : Nat) (W : World) (b : Nat) (vd : Value) (s' : St) (e : Ending) (w' : World) : Prop :=
  e = .returned .nilIface ∧ ∃ vd', StAt L w' s' ⟨b, vd'⟩ ∧ VeStep W vd vd' ∧ Only (b :: vd.ownBlock.toList) W w'
theorem StAt.put {L : Nat} {W : World} {s s' : St} {b : Nat} {vd : Value} (h : StAt L W s ⟨b, vd⟩) (j : Nat) (v : Value) (hs : stArr s' vd = (stArr s vd).setIfInBounds j v) (hd : s'.deeds = s.deeds) : StAt L (W.setCell ⟨b, j, none⟩ v) s' ⟨b, vd⟩ := by
  refine ⟨h.le, ?_, ?_⟩
  · rw [hs]
    exact h.blk.put j v
  · rw [hd]
    exact row_far h.row (p := ⟨b, j, none⟩) (h.blk.apartRow h.row (by decide)) v
theorem StAt.alloc {L : Nat} {W : World} {s : St} {h : Hd} (hh : StAt L W s h) (o : Obj) : StAt L (W.alloc o) s h := hh.call ((Below.refl _ _).alloc (Nat.le_refl _) o)
set_option maxHeartbeats 2000000 in
theorem do5 {L : Nat} {W : World} {s : St} {b : Nat} {vd : Value} (h : StAt L W s ⟨b, vd⟩) (e : Ev) (n : Int) :
    Calls Tryz.prog 58 #[.pointer (some ⟨b, 0, none⟩), .agg (evArr e), .int .i64 n] W fun r w' => DoPost L W b vd { s with stand := 4 } r w' := by
  have HP := hid ((h.put (s' := { s with stand := 4 }) 7 (.int .i64 4) (by simp [stArr]) rfl).alloc (.cells (evArr e) 37))
  have HO := hid (((Only.refl (b :: vd.ownBlock.toList) W).setCell (p := ⟨b, 7, none⟩) (.inl (by simp)) (.int .i64 4)).alloc (.cells (evArr e) 37))
  have c7 := h.blk.cell 7
  have f7 := h.blk.frozen 7
  have lb := h.blk.lt
  clear h
  simp only [stArr] at c7
  go_enter Tryz.func58, Tryz.ntmps58
  go_wp2_with fail
  go_ret
  exact ⟨rfl, vd, HP.out, .inl rfl, HO.out⟩
set_option maxHeartbeats 2000000 in
theorem do4 {L : Nat} {W : World} {s : St} {b : Nat} {vd : Value} (h : StAt L W s ⟨b, vd⟩) (e : Ev) (n : Int) :
    Calls Tryz.prog 57 #[.pointer (some ⟨b, 0, none⟩), .agg (evArr e), .int .i64 n] W fun r w' => DoPost L W b vd { s with stand := 3, tri := n, status := 2 } r w' := by
  have HP := hid ((((h.put (s' := { s with stand := 3 }) 7 (.int .i64 3) (by simp [stArr]) rfl).put (s' := { s with stand := 3, tri := n }) 5 (.int .i64 n) (by simp [stArr]) rfl).put (s' := { s with stand := 3, tri := n, status := 2 }) 2 (.int .i64 2) (by simp [stArr]) rfl).alloc (.cells (evArr e) 37))
  have HO := hid (((((Only.refl (b :: vd.ownBlock.toList) W).setCell (p := ⟨b, 7, none⟩) (.inl (by simp)) (.int .i64 3)).setCell (p := ⟨b, 5, none⟩) (.inl (by simp)) (.int .i64 n)).setCell (p := ⟨b, 2, none⟩) (.inl (by simp)) (.int .i64 2)).alloc (.cells (evArr e) 37))
  have c7 := h.blk.cell 7
  have c5 := h.blk.cell 5
  have c2 := h.blk.cell 2
  have f7 := h.blk.frozen 7
  have f5 := h.blk.frozen 5
  have f2 := h.blk.frozen 2
  have lb := h.blk.lt
  clear h
  simp only [stArr] at c7 c5 c2
  go_enter Tryz.func57, Tryz.ntmps57
  go_wp2_with fail
  go_ret
  exact ⟨rfl, vd, HP.out, .inl rfl, HO.out⟩
set_option maxHeartbeats 8000000 in
set_option maxRecDepth 100000 in
theorem do1 {L : Nat} {W : World} {s : St} {b c : Nat} {vd : Value} (h : StAt L W s ⟨b, vd⟩) (e : Ev) (n st : Int) (hc : Blk W c 3 #[.int .i64 st]) :
    Calls Tryz.prog 53 #[.pointer (some ⟨b, 0, none⟩), .agg (evArr e), .int .i64 n, .pointer (some ⟨c, 0, none⟩)] W fun r w' => DoPost L W b vd { s with stand := 5, fin := n, status := st } r w' := by
  have HP := hid (((((h.put (s' := { s with stand := 5 }) 7 (.int .i64 5) (by simp [stArr]) rfl).put (s' := { s with stand := 5, fin := n }) 4 (.int .i64 n) (by simp [stArr]) rfl).put (s' := { s with stand := 5, fin := n, status := st }) 2 (.int .i64 st) (by simp [stArr]) rfl).alloc (.cells (evArr e) 37)).call (Below.refl _ _).drew)
  have HO := hid (((((Only.refl (b :: vd.ownBlock.toList) W).setCell (p := ⟨b, 7, none⟩) (.inl (by simp)) (.int .i64 5)).setCell (p := ⟨b, 4, none⟩) (.inl (by simp)) (.int .i64 n)).setCell (p := ⟨b, 2, none⟩) (.inl (by simp)) (.int .i64 st)).alloc (.cells (evArr e) 37) |>.drew)
  have c7 := h.blk.cell 7
  have c4 := h.blk.cell 4
  have c2 := h.blk.cell 2
  have f7 := h.blk.frozen 7
  have f4 := h.blk.frozen 4
  have f2 := h.blk.frozen 2
  have lb := h.blk.lt
  have q0 := hc.cell 0
  have lc := hc.lt
  have hbc : b ≠ c := h.blk.apart hc (by decide)
  clear h hc
  simp only [stArr] at c7 c4 c2
  go_enter Tryz.func53, Tryz.ntmps53
  go_wp2_with fail
  go_region_held3 (fun w' => w'.cell? ⟨c, 0, none⟩ = some (.int .i64 st)) (go_keep) (fail)
  all_goals (
    go_wp2_with fail
    go_ret
    exact ⟨rfl, vd, HP.out, .inl rfl, HO.out⟩)
theorem infoDd : (Tryz.prog.info? 139).map (fun i => (i.zero, i.size, i.bytes)) = some (some (.agg #[.int .i64 0, .int .i64 0, .int .i64 0, .int .i64 0, .int .i64 0, .int .i64 0, .int .i64 0, .int .i64 0]), 8, 64) := by kernel_rfl
theorem ddArr_one (d : Dd) : ∀ u ∈ (ddArr d).toList, u.oneCell' = true := by
  intro u hu
  simp [ddArr] at hu
  rcases hu with rfl | rfl | rfl | rfl | rfl | rfl | rfl | rfl <;> rfl
theorem flatD_snoc (l : List Dd) (d : Dd) : flatD (l ++ [d]) = flatD l ++ (ddArr d).toList := by simp [flatD]
end Go.Proofs.YtgfmlaflochffaaGreatDoor
