/-
  prog.Walk: ends; Answer's other answers.
-/
import Derived.Test.YtgfmlaflochffaaGreatDoorWkAnsZ
import Derived.StillTailTactics
import Derived.ChangeAlike
import Derived.Outline
namespace Go.Proofs.YtgfmlaflochffaaGreatDoor
open Go.RowKit Go.Maps W
attribute [local go_sem ↓] Go.wp_at_zero Go.wp_at_succ

theorem resEnds (tmps : Array Value) (X : World) (b : Nat) (a0 a1 a2 a3 a4 a5 a6 a7 v : Value) (h1 : tmps.getD 6 undef = .pointer (some ⟨b, 0, none⟩)) (h2 : tmps.getD 7 undef = v) (h : Blk X b tEv #[a0, a1, a2, a3, a4, a5, a6, a7]) :
    (results Tryz.f23 tmps).run Tryz.prog X = .ok (.tuple #[.agg #[a0, a1, a2, a3, a4, a5, a6, a7], v]) X := by
  have h1' : tmps[6]?.getD undef = .pointer (some ⟨b, 0, none⟩) := by simpa using h1
  have h2' : tmps[7]?.getD undef = v := by simpa using h2
  obtain ⟨c0, c1, c2, c3, c4, c5, c6, c7⟩ := evCells h
  simp [results, Tryz.f23, h1', h2', go_sem, c0, c1, c2, c3, c4, c5, c6, c7]
set_option linter.unusedSimpArgs false in
set_option maxHeartbeats 8000000 in
set_option maxRecDepth 100000 in
theorem endsCall {B wb : Nat} {W : World} {d : Wd} {vc vt ve : Value} {g n c : Nat} (h : Wk B wb W d vc vt (.slice (some ⟨g, 0, none⟩) n c) ve) (hok : WdOk d) {k : Nat} {t : Th} {l : List (List PAct)} (hl : d.live k = some (t, l)) (he9 : d.es.length ≤ 100000) (kind : Int) :
    Calls Tryz.prog 23 #[.pointer (some ⟨wb, 0, none⟩), .int .i64 (k : Int), .int .i64 kind] W fun e w' => NextPost B wb W vc vt (.slice (some ⟨g, 0, none⟩) n c) ve (d.ends k t kind) e w' := by
  have hle : B ≤ W.heap.size := by have := h.le; have := h.box.lt; omega
  obtain ⟨_, h1, h2, hne⟩ := live_at hl
  simp only [Int.toNat_natCast] at h1 h2
  have ht := hok.th _ _ _ h1 h2
  obtain ⟨j, hj⟩ : ∃ j : Nat, t.tx = (j : Int) := ⟨t.tx.toNat, by have := ht.t0; omega⟩
  have hl3 : l.length ≤ 3 := by
    have h9 := (pgOk_parts hok.ok).2.2.2.2.2 l (List.mem_of_getElem? h2)
    exact (thrOk_parts h9).1
  have hj3 : j ≤ 3 := by have := ht.t1; omega
  have hk4 : k ≤ 4 := by
    have := (pgOk_parts hok.ok).2.2.2.1
    have := (List.getElem?_eq_some_iff.1 h2).1
    omega
  have HN0 := hid (Nx.start (X := W.alloc outO) h (m := 0) rfl)
  have HK := hid h1
  have HJ := hid hj
  have HH := hid (happensCall HN0.out.wk hok h1 he9 (evK kind))
  simp only [evArr, evK] at HH
  clear h hok hl h1 h2 hne ht hj he9
  go_enter Tryz.func23, Tryz.ntmps23
  go_wp2_with fail
  refine HH.out.mono ?_
  rintro e X2 ⟨ve', rfl, hwk, hon, hvs⟩
  have hN2 := HN0.out.step hwk hon hvs
  obtain ⟨g', c', hv, _, lg, hkl, hnc, hcl, hfz⟩ := hN2.wk.thAt HK.out
  injection hv with e1 e2 e3
  injection e1 with e1
  injection e1 with e1
  subst e1 e2 e3
  replace hkl : k < d.ts.length := hkl
  have x2 : X2.cell? ⟨wb, 2, none⟩ = some (.slice (some ⟨g, 0, none⟩) d.ts.length c) := hN2.wk.box.cell 2
  have lb := hN2.wk.box.lt
  have y0 : X2.cell? ⟨g, k * 6, none⟩ = some (.int .i64 t.tx) := hcl 0 (by omega)
  have y1 : X2.cell? ⟨g, k * 6 + 1, none⟩ = some (.int .i64 t.act) := hcl 1 (by omega)
  have y2 : X2.cell? ⟨g, k * 6 + 2, none⟩ = some (.bool t.begun) := hcl 2 (by omega)
  have y3 : X2.cell? ⟨g, k * 6 + 3, none⟩ = some (.bool t.adding) := hcl 3 (by omega)
  have y4 : X2.cell? ⟨g, k * 6 + 4, none⟩ = some (.int .i64 t.read) := hcl 4 (by omega)
  have y5 : X2.cell? ⟨g, k * 6 + 5, none⟩ = some (.int .i64 t.waits) := hcl 5 (by omega)
  have f0 := hfz (k * 6)
  have f1 := hfz (k * 6 + 1)
  have f2 := hfz (k * 6 + 2)
  have f3 := hfz (k * 6 + 3)
  have f4 := hfz (k * 6 + 4)
  have f5 := hfz (k * 6 + 5)
  rw [HJ.out] at y0
  have hl0 : (0 : Int) ≤ (k : Int) := by omega
  have hl1 : (k : Int) < (d.ts.length : Int) := by omega
  have HN2 := hid hN2
  clear hN2 hwk hon hvs HH HN0 hcl hfz
  go_wp2_with fail
  refine wp_region_still_tail 15 (by kernel_rfl) (by kernel_rfl) ?_
  change wpStill _ _ (X2.alloc (.cells #[.int .i64 kind, .int .i64 (idOf k t.tx), .int .i64 0, .int .i64 0, .int .i64 0, .int .i64 0, .int .i64 0, .int .i64 0] tEv)).drew (fun a' => wpList _ _ _ _ a' (X2.alloc (.cells #[.int .i64 kind, .int .i64 (idOf k t.tx), .int .i64 0, .int .i64 0, .int .i64 0, .int .i64 0, .int .i64 0, .int .i64 0] tEv)).drew) _ _
  have hN3 : Nx B wb W (X2.alloc (.cells #[.int .i64 kind, .int .i64 (idOf k t.tx), .int .i64 0, .int .i64 0, .int .i64 0, .int .i64 0, .int .i64 0, .int .i64 0] tEv)).drew _ vc vt _ ve ve' := (HN2.out.alloc _).drewN 1
  have hE : Blk (X2.alloc (.cells #[.int .i64 kind, .int .i64 (idOf k t.tx), .int .i64 0, .int .i64 0, .int .i64 0, .int .i64 0, .int .i64 0, .int .i64 0] tEv)).drew X2.heap.size tEv #[.int .i64 kind, .int .i64 (idOf k t.tx), .int .i64 0, .int .i64 0, .int .i64 0, .int .i64 0, .int .i64 0, .int .i64 0] := Blk.drew (Blk.new X2 tEv _)
  have hbY : Below X2.heap.size X2 (X2.alloc (.cells #[.int .i64 kind, .int .i64 (idOf k t.tx), .int .i64 0, .int .i64 0, .int .i64 0, .int .i64 0, .int .i64 0, .int .i64 0] tEv)).drew := ((Below.refl X2.heap.size X2).alloc (Nat.le_refl _) _).drew
  generalize (X2.alloc (.cells #[.int .i64 kind, .int .i64 (idOf k t.tx), .int .i64 0, .int .i64 0, .int .i64 0, .int .i64 0, .int .i64 0, .int .i64 0] tEv)).drew = Y at hN3 hE hbY ⊢
  have z9 := (hbY.cell (p := ⟨wb, 2, none⟩) lb).trans x2
  have z0 := (hbY.cell (p := ⟨g, k * 6, none⟩) lg).trans y0
  have z1 := (hbY.cell (p := ⟨g, k * 6 + 1, none⟩) lg).trans y1
  have z2 := (hbY.cell (p := ⟨g, k * 6 + 2, none⟩) lg).trans y2
  have z3 := (hbY.cell (p := ⟨g, k * 6 + 3, none⟩) lg).trans y3
  have z4 := (hbY.cell (p := ⟨g, k * 6 + 4, none⟩) lg).trans y4
  have z5 := (hbY.cell (p := ⟨g, k * 6 + 5, none⟩) lg).trans y5
  have q0 := (hbY.frozen (p := ⟨g, k * 6, none⟩) lg).trans f0
  have q1 := (hbY.frozen (p := ⟨g, k * 6 + 1, none⟩) lg).trans f1
  have q2 := (hbY.frozen (p := ⟨g, k * 6 + 2, none⟩) lg).trans f2
  have q3 := (hbY.frozen (p := ⟨g, k * 6 + 3, none⟩) lg).trans f3
  have q4 := (hbY.frozen (p := ⟨g, k * 6 + 4, none⟩) lg).trans f4
  have q5 := (hbY.frozen (p := ⟨g, k * 6 + 5, none⟩) lg).trans f5
  have zl : g < Y.heap.size := by have := hbY.size; omega
  have hwr : IntKind.i64.wrap ((j : Int) + 1) = (j : Int) + 1 := by simp [IntKind.wrap, IntKind.bits, IntKind.signed]; omega
  have HN3 := hid hN3
  have HE := hid hE
  clear hN3 hE hbY HN2 f0 f1 f2 f3 f4 f5 x2 y0 y1 y2 y3 y4 y5
  simp only [List.take_succ_cons, List.take_zero, List.drop_succ_cons, List.drop_zero]
  iterate 15 still_step
  refine wpStill_nil ?_
  clear hwr
  go_upto_region 3 with fail
  have hM0 := HN3.out
  have hM1 := hM0.setTh (k := k) (r := 0) (t := t) (t' := { t with tx := t.tx + 1 }) (v := (.int .i64 ((j : Int) + 1))) HK.out (by omega) (by simp [thArr, HJ.out])
  have hM2 := hM1.setTh (k := k) (r := 1) (t := { t with tx := t.tx + 1 }) (t' := { t with tx := t.tx + 1, act := 0 }) (v := (.int .i64 0)) (List.getElem?_set_self (by simpa using (List.getElem?_eq_some_iff.1 HK.out).1)) (by omega) (by simp [thArr])
  have hM3 := hM2.setTh (k := k) (r := 2) (t := { t with tx := t.tx + 1, act := 0 }) (t' := { t with tx := t.tx + 1, act := 0, begun := false }) (v := (.bool false)) (List.getElem?_set_self (by simpa using (List.getElem?_eq_some_iff.1 HK.out).1)) (by omega) (by simp [thArr])
  have hM4 := hM3.setTh (k := k) (r := 3) (t := { t with tx := t.tx + 1, act := 0, begun := false }) (t' := { t with tx := t.tx + 1, act := 0, begun := false, adding := false }) (v := (.bool false)) (List.getElem?_set_self (by simpa using (List.getElem?_eq_some_iff.1 HK.out).1)) (by omega) (by simp [thArr])
  have hM5 := hM4.setTh (k := k) (r := 4) (t := { t with tx := t.tx + 1, act := 0, begun := false, adding := false }) (t' := { t with tx := t.tx + 1, act := 0, begun := false, adding := false, read := 0 }) (v := (.int .i64 0)) (List.getElem?_set_self (by simpa using (List.getElem?_eq_some_iff.1 HK.out).1)) (by omega) (by simp [thArr])
  have hM6 := hM5.setTh (k := k) (r := 5) (t := { t with tx := t.tx + 1, act := 0, begun := false, adding := false, read := 0 }) (t' := ⟨t.tx + 1, 0, false, false, 0, 0⟩) (v := (.int .i64 0)) (List.getElem?_set_self (by simpa using (List.getElem?_eq_some_iff.1 HK.out).1)) (by omega) (by simp [thArr])
  simp only [List.set_set, Nat.add_zero] at hM6
  have hE0 := HE.out
  have hE1 := hE0.far (p := ⟨g, k * 6, none⟩) (show X2.heap.size ≠ g by omega) (.int .i64 ((j : Int) + 1))
  have hE2 := hE1.far (p := ⟨g, k * 6 + 1, none⟩) (show X2.heap.size ≠ g by omega) (.int .i64 0)
  have hE3 := hE2.far (p := ⟨g, k * 6 + 2, none⟩) (show X2.heap.size ≠ g by omega) (.bool false)
  have hE4 := hE3.far (p := ⟨g, k * 6 + 3, none⟩) (show X2.heap.size ≠ g by omega) (.bool false)
  have hE5 := hE4.far (p := ⟨g, k * 6 + 4, none⟩) (show X2.heap.size ≠ g by omega) (.int .i64 0)
  have hE6 := hE5.far (p := ⟨g, k * 6 + 5, none⟩) (show X2.heap.size ≠ g by omega) (.int .i64 0)
  generalize ((((((Y.setCell ⟨g, k * 6, none⟩ (.int .i64 ((j : Int) + 1))).setCell ⟨g, k * 6 + 1, none⟩ (.int .i64 0)).setCell ⟨g, k * 6 + 2, none⟩ (.bool false)).setCell ⟨g, k * 6 + 3, none⟩ (.bool false)).setCell ⟨g, k * 6 + 4, none⟩ (.int .i64 0)).setCell ⟨g, k * 6 + 5, none⟩ (.int .i64 0)) = Z at hM6 hE6 ⊢
  obtain ⟨e0, e1, e2, e3, e4, e5, e6, e7⟩ := evCells hE6
  have hO := hM6.out
  simp only [evArr, Ev.zero] at hO
  have o0 := hO.cell 0
  have o1 := hO.cell 1
  have o2 := hO.cell 2
  have o3 := hO.cell 3
  have o4 := hO.cell 4
  have o5 := hO.cell 5
  have o6 := hO.cell 6
  have o7 := hO.cell 7
  have f0 := hO.frozen 0
  have f1 := hO.frozen 1
  have f2 := hO.frozen 2
  have f3 := hO.frozen 3
  have f4 := hO.frozen 4
  have f5 := hO.frozen 5
  have f6 := hO.frozen 6
  have f7 := hO.frozen 7
  have l := hO.lt
  have HD := hid (hM6.done hle (.int .i64 kind) (.int .i64 (idOf k t.tx)) (.int .i64 0) (.int .i64 0) (.int .i64 0) (.int .i64 0) (.int .i64 0) (.int .i64 0))
  clear hM0 hM1 hM2 hM3 hM4 hM5 hM6 hE0 hE1 hE2 hE3 hE4 hE5 hE6 hO HE HN3 z0 z1 z2 z3 z4 z5 z9 q0 q1 q2 q3 q4 q5
  go_wp2_with fail
  refine bodyPost_ret (resEnds _ _ _ _ _ _ _ _ _ _ _ _ rfl rfl HD.out.2.2.2) rfl ?_
  exact ⟨rfl, ve', HD.out.1, HD.out.2.1, HD.out.2.2.1⟩
end Go.Proofs.YtgfmlaflochffaaGreatDoor
