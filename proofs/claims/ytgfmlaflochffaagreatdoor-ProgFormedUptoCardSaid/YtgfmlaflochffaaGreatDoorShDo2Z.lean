/-
  What is done with a transaction at a call: shape.moves' second function.
-/
import Derived.Test.YtgfmlaflochffaaGreatDoorShDoZ
import Derived.Deep.RegionHeldLaw
namespace Go.Proofs.YtgfmlaflochffaaGreatDoor
open Go.RowKit Go.Maps W
attribute [local go_sem ↓] Go.wp_at_zero Go.wp_at_succ

set_option linter.unusedSimpArgs false in
set_option maxHeartbeats 8000000 in
set_option maxRecDepth 100000 in
theorem do2 {L : Nat} {W : World} {s : St} {b : Nat} {vd : Value} (h : StAt L W s ⟨b, vd⟩) (hL : L ≤ W.heap.size) (hn : s.deeds.length ≤ 1000) (e : Ev) (n : Int) :
    Calls Tryz.prog 54 #[.pointer (some ⟨b, 0, none⟩), .agg (evArr e), .int .i64 n] W fun r w' => DoPost L W b vd { s with stand := 2, deeds := s.deeds ++ [⟨e.obj, e.op, e.key, e.val, 0, 0, n, -1⟩] } r w' := by
  obtain ⟨i0, hi, hz0, hz1, hz2⟩ := info_parts infoDd
  obtain ⟨Ad, cd, rfl⟩ := row_shape h.row
  obtain ⟨dd, hdd⟩ : ∃ dd : Dd, (⟨e.obj, e.op, e.key, e.val, 0, 0, n, -1⟩ : Dd) = dd := ⟨_, rfl⟩
  have hda : ddArr dd = #[.int .i64 e.obj, .int .i64 e.op, .int .i64 e.key, .int .i64 e.val, .int .i64 0, .int .i64 0, .int .i64 n, .int .i64 (-1)] := by rw [← hdd]; rfl
  have hs1 := h.put (s' := { s with stand := 2 }) 7 (.int .i64 2) (by simp [stArr]) rfl
  have nb : (Value.slice Ad s.deeds.length cd).ownBlock ≠ some b := Blk.apartRow h.blk h.row (by decide)
  have HNB := hid nb
  have HST := hid hs1
  have HRW := hid hs1.row
  have HBX := hid hs1.blk
  have c7 := h.blk.cell 7
  have f7 := h.blk.frozen 7
  have c6 := h.blk.cell 6
  have f6 := h.blk.frozen 6
  have lb : b < W.heap.size := h.blk.lt
  have HLE := hid h.le
  have HDA := hid hda
  have HEB : Hid (Blk ((W.setCell ⟨b, 7, none⟩ (.int .i64 2)).alloc (.cells #[.int .i64 e.kind, .int .i64 e.tx, .int .i64 e.thr, .int .i64 e.obj, .int .i64 e.op, .int .i64 e.key, .int .i64 e.val, .int .i64 e.ret] tEv)) W.heap.size tEv #[.int .i64 e.kind, .int .i64 e.tx, .int .i64 e.thr, .int .i64 e.obj, .int .i64 e.op, .int .i64 e.key, .int .i64 e.val, .int .i64 e.ret]) := hid (by have h9 := Blk.new (W.setCell ⟨b, 7, none⟩ (.int .i64 2)) tEv #[.int .i64 e.kind, .int .i64 e.tx, .int .i64 e.thr, .int .i64 e.obj, .int .i64 e.op, .int .i64 e.key, .int .i64 e.val, .int .i64 e.ret]; simpa using h9)
  have HNW := hid (show some W.heap.size ≠ (Value.slice Ad s.deeds.length cd).ownBlock from fun x => by have := (row_own h.row x.symm).2; omega)
  have HWB := hid (show b ≠ W.heap.size by omega)
  have HN3 : Hid (∀ o1, (((W.setCell ⟨b, 7, none⟩ (.int .i64 2)).alloc o1).alloc (.cells (ddArr dd) tDd)).drew.heap[W.heap.size + 1]? = some (.cells (ddArr dd) tDd)) := hid (fun o1 => by
    have h9 := heap_alloc_new ((W.setCell ⟨b, 7, none⟩ (.int .i64 2)).alloc o1) (.cells (ddArr dd) tDd)
    have h10 : (((W.setCell ⟨b, 7, none⟩ (.int .i64 2)).alloc o1).alloc (.cells (ddArr dd) tDd)).heap[W.heap.size + 1]? = some (.cells (ddArr dd) tDd) := by simpa using h9
    exact h10)
  rw [hda] at HN3
  have HFIN : Hid (∀ (o1 o2 : Obj) (w1 : World) (gg cap : Nat), w1.ownsRow L tDd 8 (.slice (some ⟨gg, 0, none⟩) (s.deeds.length + 1) cap) (s.deeds.length + 1) (flatD s.deeds ++ (ddArr dd).toList) → (((W.setCell ⟨b, 7, none⟩ (.int .i64 2)).alloc o1).alloc o2).drew.grownBy w1 (Value.slice Ad s.deeds.length cd).ownBlock → ((Value.slice Ad s.deeds.length cd).ownBlock = some gg ∨ gg = W.heap.size + 1 + 1) →
      ∃ vd', StAt L (w1.setCell ⟨b, 6, none⟩ (.slice (some ⟨gg, 0, none⟩) (s.deeds.length + 1) cap)) { s with stand := 2, deeds := s.deeds ++ [dd] } ⟨b, vd'⟩ ∧ VeStep W (.slice Ad s.deeds.length cd) vd' ∧ Only (b :: (Value.slice Ad s.deeds.length cd).ownBlock.toList) W (w1.setCell ⟨b, 6, none⟩ (.slice (some ⟨gg, 0, none⟩) (s.deeds.length + 1) cap))) := hid (by
    intro o1 o2 w1 gg cap hown hgrow hat
    have lb : b < W.heap.size := h.blk.lt
    have hB1 := (Blk.drew (Blk.alloc (Blk.alloc hs1.blk o1) o2)).grown hgrow (Ne.symm nb)
    have hgb : (Value.slice (some ⟨gg, 0, none⟩) (s.deeds.length + 1) cap).ownBlock ≠ some b := by
      intro x
      have x2 : gg = b := by simpa [Value.ownBlock] using x
      rcases hat with y | y
      · exact nb (by rw [y, x2])
      · omega
    refine ⟨.slice (some ⟨gg, 0, none⟩) (s.deeds.length + 1) cap, ⟨h.le, ?_, ?_⟩, ?_, ?_⟩
    · have := hB1.put 6 (.slice (some ⟨gg, 0, none⟩) (s.deeds.length + 1) cap)
      simpa [stArr] using this
    · have := row_far hown (p := ⟨b, 6, none⟩) hgb (.slice (some ⟨gg, 0, none⟩) (s.deeds.length + 1) cap)
      simpa [flatD_snoc] using this
    · rcases hat with y | y
      · exact .inl (by rw [y]; rfl)
      · exact .inr ⟨gg, rfl, by omega⟩
    · exact (((((Only.refl (b :: (Value.slice Ad s.deeds.length cd).ownBlock.toList) W).setCell (p := ⟨b, 7, none⟩) (.inl (by simp)) (.int .i64 2)).alloc o1).alloc o2).drew.grown hgrow (fun k e => .inl (by simp [e]))).setCell (p := ⟨b, 6, none⟩) (.inl (by simp)) _)
  rw [hdd]
  clear h hs1 nb hdd hda
  simp only [stArr] at c7 c6 HBX
  unfold evArr
  go_enter Tryz.func54, Tryz.ntmps54
  go_wp2_with fail
  have kk3 := (Blk.drew HEB.out).cell 3
  have kk4 := (Blk.drew HEB.out).cell 4
  have kk5 := (Blk.drew HEB.out).cell 5
  have kk6 := (Blk.drew HEB.out).cell 6
  refine wp_region_held_drew (S := (fun w' => w'.cell? ⟨W.heap.size, 3, none⟩ = some (.int .i64 e.obj) ∧ w'.cell? ⟨W.heap.size, 4, none⟩ = some (.int .i64 e.op) ∧ w'.cell? ⟨W.heap.size, 5, none⟩ = some (.int .i64 e.key) ∧ w'.cell? ⟨W.heap.size, 6, none⟩ = some (.int .i64 e.val))) (by kernel_rfl) ?hS0 (fun hHeld => ?_)
  case hS0 => exact ⟨kk3, kk4, kk5, kk6⟩
  refine wpAnyH_take (i := 0) (v := (.pointer (some ⟨b, 0, none⟩))) rfl (by kernel_rfl) (by kernel_rfl) (by kernel_rfl) (fun _ _ _ h => h) (Or.inl ⟨by rfl, ?_⟩) (by assumption) ?_
  · intro w hSw
    (try dsimp only at hSw)
    first | (go_simp; done) | (go_simp; with_reducible rfl)
  try simp only [Act.put, List.setIfInBounds_toArray, List.set_cons_zero, List.set_cons_succ]
  refine wpAnyH_take (i := 1) (v := (.pointer (some ⟨b, 0, none⟩))) rfl (by kernel_rfl) (by kernel_rfl) (by kernel_rfl) (fun _ _ _ h => h) (Or.inl ⟨by rfl, ?_⟩) (by assumption) ?_
  · intro w hSw
    (try dsimp only at hSw)
    first | (go_simp; done) | (go_simp; with_reducible rfl)
  try simp only [Act.put, List.setIfInBounds_toArray, List.set_cons_zero, List.set_cons_succ]
  refine wpAnyH_take (i := 2) (v := (.pointer (some ⟨b, 0, none⟩))) rfl (by kernel_rfl) (by kernel_rfl) (by kernel_rfl) (fun _ _ _ h => h) (Or.inl ⟨by rfl, ?_⟩) (by assumption) ?_
  · intro w hSw
    (try dsimp only at hSw)
    first | (go_simp; done) | (go_simp; with_reducible rfl)
  try simp only [Act.put, List.setIfInBounds_toArray, List.set_cons_zero, List.set_cons_succ]
  refine wpAnyH_take (i := 3) (v := (.pointer (some ⟨b, 0, none⟩))) rfl (by kernel_rfl) (by kernel_rfl) (by kernel_rfl) (fun _ _ _ h => h) (Or.inl ⟨by rfl, ?_⟩) (by assumption) ?_
  · intro w hSw
    (try dsimp only at hSw)
    first | (go_simp; done) | (go_simp; with_reducible rfl)
  try simp only [Act.put, List.setIfInBounds_toArray, List.set_cons_zero, List.set_cons_succ]
  refine wpAnyH_take (i := 4) (v := (.pointer (some ⟨b, 6, none⟩))) rfl (by kernel_rfl) (by kernel_rfl) (by kernel_rfl) (fun _ _ _ h => h) (Or.inl ⟨by rfl, ?_⟩) (by assumption) ?_
  · intro w hSw
    (try dsimp only at hSw)
    first | (go_simp; done) | (go_simp; with_reducible rfl)
  try simp only [Act.put, List.setIfInBounds_toArray, List.set_cons_zero, List.set_cons_succ]
  refine wpAnyH_take (i := 6) (v := (.pointer (some ⟨W.heap.size, 3, none⟩))) rfl (by kernel_rfl) (by kernel_rfl) (by kernel_rfl) (fun _ _ _ h => h) (Or.inl ⟨by rfl, ?_⟩) (by assumption) ?_
  · intro w hSw
    (try dsimp only at hSw)
    first | (go_simp; done) | (go_simp; with_reducible rfl)
  try simp only [Act.put, List.setIfInBounds_toArray, List.set_cons_zero, List.set_cons_succ]
  refine wpAnyH_take (i := 7) (v := (.int .i64 e.obj)) rfl (by kernel_rfl) (by kernel_rfl) (by kernel_rfl) (fun _ _ _ h => h) (Or.inl ⟨by rfl, ?_⟩) (by assumption) ?_
  · intro w hSw
    (try dsimp only at hSw)
    first | (go_simp; done) | (go_simp; with_reducible rfl)
  try simp only [Act.put, List.setIfInBounds_toArray, List.set_cons_zero, List.set_cons_succ]
  refine wpAnyH_take (i := 8) (v := (.pointer (some ⟨W.heap.size, 4, none⟩))) rfl (by kernel_rfl) (by kernel_rfl) (by kernel_rfl) (fun _ _ _ h => h) (Or.inl ⟨by rfl, ?_⟩) (by assumption) ?_
  · intro w hSw
    (try dsimp only at hSw)
    first | (go_simp; done) | (go_simp; with_reducible rfl)
  try simp only [Act.put, List.setIfInBounds_toArray, List.set_cons_zero, List.set_cons_succ]
  refine wpAnyH_take (i := 9) (v := (.int .i64 e.op)) rfl (by kernel_rfl) (by kernel_rfl) (by kernel_rfl) (fun _ _ _ h => h) (Or.inl ⟨by rfl, ?_⟩) (by assumption) ?_
  · intro w hSw
    (try dsimp only at hSw)
    first | (go_simp; done) | (go_simp; with_reducible rfl)
  try simp only [Act.put, List.setIfInBounds_toArray, List.set_cons_zero, List.set_cons_succ]
  refine wpAnyH_take (i := 10) (v := (.pointer (some ⟨W.heap.size, 5, none⟩))) rfl (by kernel_rfl) (by kernel_rfl) (by kernel_rfl) (fun _ _ _ h => h) (Or.inl ⟨by rfl, ?_⟩) (by assumption) ?_
  · intro w hSw
    (try dsimp only at hSw)
    first | (go_simp; done) | (go_simp; with_reducible rfl)
  try simp only [Act.put, List.setIfInBounds_toArray, List.set_cons_zero, List.set_cons_succ]
  refine wpAnyH_take (i := 11) (v := (.int .i64 e.key)) rfl (by kernel_rfl) (by kernel_rfl) (by kernel_rfl) (fun _ _ _ h => h) (Or.inl ⟨by rfl, ?_⟩) (by assumption) ?_
  · intro w hSw
    (try dsimp only at hSw)
    first | (go_simp; done) | (go_simp; with_reducible rfl)
  try simp only [Act.put, List.setIfInBounds_toArray, List.set_cons_zero, List.set_cons_succ]
  refine wpAnyH_take (i := 12) (v := (.pointer (some ⟨W.heap.size, 6, none⟩))) rfl (by kernel_rfl) (by kernel_rfl) (by kernel_rfl) (fun _ _ _ h => h) (Or.inl ⟨by rfl, ?_⟩) (by assumption) ?_
  · intro w hSw
    (try dsimp only at hSw)
    first | (go_simp; done) | (go_simp; with_reducible rfl)
  try simp only [Act.put, List.setIfInBounds_toArray, List.set_cons_zero, List.set_cons_succ]
  refine wpAnyH_take (i := 13) (v := (.int .i64 e.val)) rfl (by kernel_rfl) (by kernel_rfl) (by kernel_rfl) (fun _ _ _ h => h) (Or.inl ⟨by rfl, ?_⟩) (by assumption) ?_
  · intro w hSw
    (try dsimp only at hSw)
    first | (go_simp; done) | (go_simp; with_reducible rfl)
  try simp only [Act.put, List.setIfInBounds_toArray, List.set_cons_zero, List.set_cons_succ]
  refine wpAnyH_take (i := 14) (v := (.int .i64 n)) rfl (by kernel_rfl) (by kernel_rfl) (by kernel_rfl) (fun _ _ _ h => h) (Or.inl ⟨by rfl, ?_⟩) (by assumption) ?_
  · intro w hSw
    (try dsimp only at hSw)
    first | (go_simp; done) | (go_simp; with_reducible rfl)
  try simp only [Act.put, List.setIfInBounds_toArray, List.set_cons_zero, List.set_cons_succ]
  refine wpAnyH_take (i := 15) (v := (.agg #[.int .i64 e.obj, .int .i64 e.op, .int .i64 e.key, .int .i64 e.val, .int .i64 0, .int .i64 0, .int .i64 n, .int .i64 (-1)])) rfl (by kernel_rfl) (by kernel_rfl) (by kernel_rfl) (fun _ _ _ h => h) (Or.inl ⟨by rfl, ?_⟩) (by assumption) ?_
  · intro w hSw
    (try dsimp only at hSw)
    first | (go_simp; done) | (go_simp; with_reducible rfl)
  try simp only [Act.put, List.setIfInBounds_toArray, List.set_cons_zero, List.set_cons_succ]
  refine wpAnyH_ready (rs := [5, 16]) (by kernel_rfl) (by simp) ?_
  refine AllReadyH.cons rfl (fun K hK => ?_) (AllReadyH.cons rfl (fun K hK => ?_) AllReadyH.nil)
  · go_simp
    refine hK.out _ _ ?_ (fun h5 => ?_)
    · exact hHeld
    clear hK K
    try simp only [Act.put, List.setIfInBounds_toArray, List.set_cons_zero, List.set_cons_succ]
    refine wpAnyH_ready (rs := [16]) (by kernel_rfl) (by simp) ?_
    refine AllReadyH.cons rfl (fun K hK => ?_) AllReadyH.nil
    go_simp
    refine hK.out _ _ ?_ (fun h16 => ?_)
    · exact ⟨(Blk.drew (Blk.alloc HEB.out _)).cell 3, (Blk.drew (Blk.alloc HEB.out _)).cell 4, (Blk.drew (Blk.alloc HEB.out _)).cell 5, (Blk.drew (Blk.alloc HEB.out _)).cell 6⟩
    clear hK K
    try simp only [Act.put, List.setIfInBounds_toArray, List.set_cons_zero, List.set_cons_succ]
    refine wpAnyH_ready (rs := [17]) (by kernel_rfl) (by simp) ?_
    refine AllReadyH.cons rfl (fun K hK => ?_) AllReadyH.nil
    refine step_append_lies _ (by rfl) _ _ _ (by rfl) L tDd i0 _ 8 64 Tryz.underlying53 hi hz0 hz1 hz2 rfl (by omega) (.slice Ad s.deeds.length cd) s.deeds.length (flatD s.deeds) (by rfl) ((HRW.out.alloc _).alloc _).drew ⟨W.heap.size + 1, 0, none⟩ 1 1 (ddArr dd).toList (by rfl) (by rw [HDA.out]; rfl) (World.news_of_block (cs := ddArr dd) (t := tDd) (fr := (0, 0)) (by rw [HDA.out]; exact HN3.out _)) (ddArr_one _) (by omega) (by unfold maxLen; omega) (by omega) (by simp; omega) (W.heap.size + 1 + 1) (by simp) ?_
    intro gg cap w1 hown1 hgrow hat hlt
    have hB1 := (Blk.drew (Blk.alloc (Blk.alloc HBX.out _) _)).grown hgrow (Ne.symm HNB.out)
    have g6 := hB1.frozen 6
    have g66 := hB1.cell 6
    have l6 := hB1.lt
    have hE9 := (Blk.drew (Blk.alloc HEB.out _)).grown hgrow HNW.out
    refine hK.out _ _ ?_ (fun h17 => ?_)
    · exact ⟨hE9.cell 3, hE9.cell 4, hE9.cell 5, hE9.cell 6⟩
    clear hK K
    try simp only [Act.put, List.setIfInBounds_toArray, List.set_cons_zero, List.set_cons_succ]
    refine wpAnyH_take (i := 18) (v := (.pointer (some ⟨b, 0, none⟩))) rfl (by kernel_rfl) (by kernel_rfl) (by kernel_rfl) (fun _ _ _ h => h) (Or.inl ⟨by rfl, ?_⟩) (by assumption) ?_
    · intro w hSw
      (try dsimp only at hSw)
      first | (go_simp; done) | (go_simp; with_reducible rfl)
    try simp only [Act.put, List.setIfInBounds_toArray, List.set_cons_zero, List.set_cons_succ]
    refine wpAnyH_take (i := 19) (v := (.pointer (some ⟨b, 0, none⟩))) rfl (by kernel_rfl) (by kernel_rfl) (by kernel_rfl) (fun _ _ _ h => h) (Or.inl ⟨by rfl, ?_⟩) (by assumption) ?_
    · intro w hSw
      (try dsimp only at hSw)
      first | (go_simp; done) | (go_simp; with_reducible rfl)
    try simp only [Act.put, List.setIfInBounds_toArray, List.set_cons_zero, List.set_cons_succ]
    refine wpAnyH_take (i := 20) (v := (.pointer (some ⟨b, 6, none⟩))) rfl (by kernel_rfl) (by kernel_rfl) (by kernel_rfl) (fun _ _ _ h => h) (Or.inl ⟨by rfl, ?_⟩) (by assumption) ?_
    · intro w hSw
      (try dsimp only at hSw)
      first | (go_simp; done) | (go_simp; with_reducible rfl)
    try simp only [Act.put, List.setIfInBounds_toArray, List.set_cons_zero, List.set_cons_succ]
    refine wpAnyH_ready (rs := [21]) (by kernel_rfl) (by simp) ?_
    refine AllReadyH.cons rfl (fun K hK => ?_) AllReadyH.nil
    go_simp
    refine hK.out _ _ ?_ (fun h21 => ?_)
    · obtain ⟨u1, u2, u3, u4⟩ := h17
      exact ⟨(World.cell?_setCell_far _ _ _ _ HWB.out).trans u1, (World.cell?_setCell_far _ _ _ _ HWB.out).trans u2, (World.cell?_setCell_far _ _ _ _ HWB.out).trans u3, (World.cell?_setCell_far _ _ _ _ HWB.out).trans u4⟩
    clear hK K
    try simp only [Act.put, List.setIfInBounds_toArray, List.set_cons_zero, List.set_cons_succ]
    refine wpAnyH_done (by kernel_rfl) ?_ _
    have HF := hid (HFIN.out _ _ _ _ _ hown1 hgrow hat)
    clear hown1 hgrow hB1 hE9 h17 h21
    go_wp2_with fail
    go_ret
    exact ⟨rfl, HF.out⟩
  · go_simp
    refine hK.out _ _ ?_ (fun h16 => ?_)
    · exact ⟨(Blk.drew (Blk.alloc HEB.out _)).cell 3, (Blk.drew (Blk.alloc HEB.out _)).cell 4, (Blk.drew (Blk.alloc HEB.out _)).cell 5, (Blk.drew (Blk.alloc HEB.out _)).cell 6⟩
    clear hK K
    try simp only [Act.put, List.setIfInBounds_toArray, List.set_cons_zero, List.set_cons_succ]
    refine wpAnyH_ready (rs := [5]) (by kernel_rfl) (by simp) ?_
    refine AllReadyH.cons rfl (fun K hK => ?_) AllReadyH.nil
    go_simp
    refine hK.out _ _ ?_ (fun h5 => ?_)
    · exact h16
    clear hK K
    try simp only [Act.put, List.setIfInBounds_toArray, List.set_cons_zero, List.set_cons_succ]
    refine wpAnyH_ready (rs := [17]) (by kernel_rfl) (by simp) ?_
    refine AllReadyH.cons rfl (fun K hK => ?_) AllReadyH.nil
    refine step_append_lies _ (by rfl) _ _ _ (by rfl) L tDd i0 _ 8 64 Tryz.underlying53 hi hz0 hz1 hz2 rfl (by omega) (.slice Ad s.deeds.length cd) s.deeds.length (flatD s.deeds) (by rfl) ((HRW.out.alloc _).alloc _).drew ⟨W.heap.size + 1, 0, none⟩ 1 1 (ddArr dd).toList (by rfl) (by rw [HDA.out]; rfl) (World.news_of_block (cs := ddArr dd) (t := tDd) (fr := (0, 0)) (by rw [HDA.out]; exact HN3.out _)) (ddArr_one _) (by omega) (by unfold maxLen; omega) (by omega) (by simp; omega) (W.heap.size + 1 + 1) (by simp) ?_
    intro gg cap w1 hown1 hgrow hat hlt
    have hB1 := (Blk.drew (Blk.alloc (Blk.alloc HBX.out _) _)).grown hgrow (Ne.symm HNB.out)
    have g6 := hB1.frozen 6
    have g66 := hB1.cell 6
    have l6 := hB1.lt
    have hE9 := (Blk.drew (Blk.alloc HEB.out _)).grown hgrow HNW.out
    refine hK.out _ _ ?_ (fun h17 => ?_)
    · exact ⟨hE9.cell 3, hE9.cell 4, hE9.cell 5, hE9.cell 6⟩
    clear hK K
    try simp only [Act.put, List.setIfInBounds_toArray, List.set_cons_zero, List.set_cons_succ]
    refine wpAnyH_take (i := 18) (v := (.pointer (some ⟨b, 0, none⟩))) rfl (by kernel_rfl) (by kernel_rfl) (by kernel_rfl) (fun _ _ _ h => h) (Or.inl ⟨by rfl, ?_⟩) (by assumption) ?_
    · intro w hSw
      (try dsimp only at hSw)
      first | (go_simp; done) | (go_simp; with_reducible rfl)
    try simp only [Act.put, List.setIfInBounds_toArray, List.set_cons_zero, List.set_cons_succ]
    refine wpAnyH_take (i := 19) (v := (.pointer (some ⟨b, 0, none⟩))) rfl (by kernel_rfl) (by kernel_rfl) (by kernel_rfl) (fun _ _ _ h => h) (Or.inl ⟨by rfl, ?_⟩) (by assumption) ?_
    · intro w hSw
      (try dsimp only at hSw)
      first | (go_simp; done) | (go_simp; with_reducible rfl)
    try simp only [Act.put, List.setIfInBounds_toArray, List.set_cons_zero, List.set_cons_succ]
    refine wpAnyH_take (i := 20) (v := (.pointer (some ⟨b, 6, none⟩))) rfl (by kernel_rfl) (by kernel_rfl) (by kernel_rfl) (fun _ _ _ h => h) (Or.inl ⟨by rfl, ?_⟩) (by assumption) ?_
    · intro w hSw
      (try dsimp only at hSw)
      first | (go_simp; done) | (go_simp; with_reducible rfl)
    try simp only [Act.put, List.setIfInBounds_toArray, List.set_cons_zero, List.set_cons_succ]
    refine wpAnyH_ready (rs := [21]) (by kernel_rfl) (by simp) ?_
    refine AllReadyH.cons rfl (fun K hK => ?_) AllReadyH.nil
    go_simp
    refine hK.out _ _ ?_ (fun h21 => ?_)
    · obtain ⟨u1, u2, u3, u4⟩ := h17
      exact ⟨(World.cell?_setCell_far _ _ _ _ HWB.out).trans u1, (World.cell?_setCell_far _ _ _ _ HWB.out).trans u2, (World.cell?_setCell_far _ _ _ _ HWB.out).trans u3, (World.cell?_setCell_far _ _ _ _ HWB.out).trans u4⟩
    clear hK K
    try simp only [Act.put, List.setIfInBounds_toArray, List.set_cons_zero, List.set_cons_succ]
    refine wpAnyH_done (by kernel_rfl) ?_ _
    have HF := hid (HFIN.out _ _ _ _ _ hown1 hgrow hat)
    clear hown1 hgrow hB1 hE9 h17 h21
    go_wp2_with fail
    go_ret
    exact ⟨rfl, HF.out⟩
end Go.Proofs.YtgfmlaflochffaaGreatDoor
