/-
  prog.Walk: Answer.
-/
import Derived.Test.YtgfmlaflochffaaGreatDoorWkNext2Z
import Derived.Deep.RegionHeld3
import Derived.Deep.DrawnRows
import Derived.Outline
namespace Go.Proofs.YtgfmlaflochffaaGreatDoor
open Go.RowKit Go.Maps W
attribute [local go_sem ↓] Go.wp_at_zero Go.wp_at_succ

theorem resAns (tmps : Array Value) (X : World) (b : Nat) (a0 a1 a2 a3 a4 a5 a6 a7 v : Value) (h1 : tmps.getD 8 undef = .pointer (some ⟨b, 0, none⟩)) (h2 : tmps.getD 9 undef = v) (h : Blk X b tEv #[a0, a1, a2, a3, a4, a5, a6, a7]) :
    (results Tryz.f8 tmps).run Tryz.prog X = .ok (.tuple #[.agg #[a0, a1, a2, a3, a4, a5, a6, a7], v]) X := by
  have h1' : tmps[8]?.getD undef = .pointer (some ⟨b, 0, none⟩) := by simpa using h1
  have h2' : tmps[9]?.getD undef = v := by simpa using h2
  obtain ⟨c0, c1, c2, c3, c4, c5, c6, c7⟩ := evCells h
  simp [results, Tryz.f8, h1', h2', go_sem, c0, c1, c2, c3, c4, c5, c6, c7]
theorem withinYes (n : Int) (h : wthn n) (w : World) : Calls Tryz.prog 24 #[.int .i64 n] w fun e w' => e = .returned (.bool true) ∧ w = w' := by
  obtain ⟨h1, h2⟩ := h
  go_enter Tryz.func24, Tryz.ntmps24
  go_wp2_with fail
  go_ret
  exact ⟨rfl, rfl⟩
theorem withinNo (n : Int) (h : ¬ wthn n) (w : World) : Calls Tryz.prog 24 #[.int .i64 n] w fun e w' => e = .returned (.bool false) ∧ w = w' := by
  by_cases h1 : -1000000000 ≤ n
  · have h2 : ¬ n ≤ 1000000000 := fun e => h ⟨h1, e⟩
    have t1 : decide (-1000000000 ≤ n) = true := by simpa using h1
    have t2 : decide (n ≤ 1000000000) = false := by simpa using h2
    clear h
    go_enter Tryz.func24, Tryz.ntmps24
    go_wp2_with fail
    go_ret
    exact ⟨rfl, rfl⟩
  · have t1 : decide (-1000000000 ≤ n) = false := by simpa using h1
    clear h
    go_enter Tryz.func24, Tryz.ntmps24
    go_wp2_with fail
    go_ret
    exact ⟨rfl, rfl⟩
set_option linter.unusedSimpArgs false in
set_option maxHeartbeats 8000000 in
set_option maxRecDepth 100000 in
theorem ansRead {B wb : Nat} {W : World} {d : Wd} {vc vt ve : Value} {g n c : Nat} (h : Wk B wb W d vc vt (.slice (some ⟨g, 0, none⟩) n c) ve) (hok : WdOk d) (v : Int) {k : Nat} {t : Th} {l : List (List PAct)} (hl : d.live k = some (t, l)) (hw : t.waits = 2) (he9 : d.es.length ≤ 100000) {a : PAct} (ha : (actsOf t l)[t.act.toNat]? = some a) (hak : a.kind = 1) (hv : wthn v) :
    Calls Tryz.prog 8 #[.pointer (some ⟨wb, 0, none⟩), .int .i64 (k : Int), .int .i64 v, .bool false] W fun e w' => NextPost B wb W vc vt (.slice (some ⟨g, 0, none⟩) n c) ve (d.answer (k : Int) v false) e w' := by
  have hle : B ≤ W.heap.size := by have := h.le; have := h.box.lt; omega
  obtain ⟨_, h1, h2, hne⟩ := live_at hl
  simp only [Int.toNat_natCast] at h1 h2
  have HO := hid (ofLive (h.alloc outO) hok hl)
  have H := hid h
  have HK := hid h1
  have hth := hok.th _ _ _ h1 h2
  have HOKD := hid hok
  have H1 := hid h1
  have H2 := hid h2
  have HNL := hid hne
  have hans : d.answer (k : Int) v false = d.put k t.tx { t with waits := 0, act := t.act + 1 } (evA v 3) := by
    unfold Wd.answer
    rw [hl]
    simp only [hw, Int.toNat_natCast, ha]
    simp [ansTo, Th.reads, hak, hv]
  have HSK : Hid (WdOk ⟨d.p, d.ts.set k { t with waits := 0, act := t.act + 1 }, d.es⟩) := hid (by
    have h9 := hok.answer (k : Int) v false
    rw [hans] at h9
    exact ⟨h9.ok, h9.len, h9.th⟩)
  rw [hans]
  clear hans
  clear h hok hl h1 h2 hne
  go_enter Tryz.func8, Tryz.ntmps8
  go_wp2_with fail
  refine HO.out.mono ?_
  rintro e X ⟨rfl, m, hX⟩
  have hN := Nx.start H.out hX
  have HN := hid hN
  obtain ⟨g', c', hv, _, lg, hkl, hnc, hcl, hfz⟩ := hN.wk.thAt HK.out
  injection hv with e1 e2 e3
  injection e1 with e1
  injection e1 with e1
  subst e1 e2 e3
  have y5 : X.cell? ⟨g, k * 6 + 5, none⟩ = some (.int .i64 t.waits) := hcl 5 (by omega)
  have y0 : X.cell? ⟨g, k * 6, none⟩ = some (.int .i64 t.tx) := hcl 0 (by omega)
  have y1 : X.cell? ⟨g, k * 6 + 1, none⟩ = some (.int .i64 t.act) := hcl 1 (by omega)
  have y3 : X.cell? ⟨g, k * 6 + 3, none⟩ = some (.bool t.adding) := hcl 3 (by omega)
  have y4 : X.cell? ⟨g, k * 6 + 4, none⟩ = some (.int .i64 t.read) := hcl 4 (by omega)
  rw [hw] at y5
  obtain ⟨gt, ct, u, rfl, hct, hcu, hru⟩ := hN.wk.txsAt H2.out
  have x1 : X.cell? ⟨wb, 1, none⟩ = some (.slice (some ⟨gt, 0, none⟩) d.p.threads.length ct) := hN.wk.box.cell 1
  have lb := hN.wk.box.lt
  have lt := World.block_lt_of_cell? X _ hcu
  have hkp := (List.getElem?_eq_some_iff.1 H2.out).1
  have hk4 : k ≤ 4 := by have := (pgOk_parts HOKD.out.ok).2.2.2.1; omega
  have hl3 : l.length ≤ 3 := by
    have h9 := (pgOk_parts HOKD.out.ok).2.2.2.2.2 l (List.mem_of_getElem? H2.out)
    exact (thrOk_parts h9).1
  obtain ⟨j, hj⟩ : ∃ j : Nat, t.tx = (j : Int) := ⟨t.tx.toNat, by have := hth.t0; omega⟩
  obtain ⟨q, hq⟩ : ∃ q : Nat, t.act = (q : Int) := ⟨t.act.toNat, by have := hth.a0; omega⟩
  have hjl : j < l.length := by have := hth.t1; have := HNL.out; omega
  obtain ⟨acts, hacts⟩ : ∃ acts, l[j]? = some acts := ⟨l[j], List.getElem?_eq_getElem hjl⟩
  have HAO : Hid (actsOf t l = acts) := hid (by unfold actsOf; rw [hj, Int.toNat_natCast, hacts]; rfl)
  have ha6 : acts.length ≤ 6 := by
    have h9 := (pgOk_parts HOKD.out.ok).2.2.2.2.2 l (List.mem_of_getElem? H2.out)
    exact (txOk_parts ((thrOk_parts h9).2 acts (List.mem_of_getElem? hacts))).2.1
  have hqa : acts[q]? = some a := by
    rw [HAO.out, hq, Int.toNat_natCast] at ha
    exact ha
  have hqlt := (List.getElem?_eq_some_iff.1 hqa).1
  obtain ⟨Au, cu, rfl⟩ := hru.shape
  obtain ⟨bu, ou, ua, rfl, hca, hra, _, hcu3⟩ := hru.at hacts
  obtain ⟨Aa, ca, rfl⟩ := hra.shape
  obtain ⟨ba, oa, rfl, r0, r1, r2, _, hca2⟩ := hra.at hqa
  have lu := World.block_lt_of_cell? X _ hca
  have la := World.block_lt_of_cell? X _ r0
  have HAV : Hid (-1000000 ≤ a.val ∧ a.val ≤ 1000000) := hid (by
    have h9 := (pgOk_parts HOKD.out.ok).2.2.2.2.2 l (List.mem_of_getElem? H2.out)
    have h10 := (txOk_parts ((thrOk_parts h9).2 acts (List.mem_of_getElem? hacts))).2.2
    obtain ⟨lb, hlb⟩ := acts_mem _ _ h10 a (List.mem_of_getElem? hqa)
    exact (act_len (pgOk_parts HOKD.out.ok).2.1 hlb).2.2)
  rw [hak] at r0
  rw [hj] at y0
  rw [hq] at y1
  have HJ := hid hj
  have HQ := hid hq
  have hl0 : (0 : Int) ≤ (k : Int) := by omega
  have hl2 : (k : Int) < (d.p.threads.length : Int) := by omega
  have hl4 : (0 : Int) ≤ (j : Int) := by omega
  have hl5 : (j : Int) < (l.length : Int) := by omega
  have hq0 : (0 : Int) ≤ (q : Int) := by omega
  have hq1 : (q : Int) < (acts.length : Int) := by omega
  have n1 := World.new_ne X _ x1
  have n2 := World.new_ne X _ hcu
  have n3 := World.new_ne X _ y0
  have n4 := World.new_ne X _ hca
  have n5 := World.new_ne X _ r0
  have HCL := hid hcl
  have HFZ := hid hfz
  have HW := hid hw
  have HHA := hid ha
  have HAK := hid hak
  have HWV := hid (fun w => withinYes v hv w)
  clear hv
  clear hj hq hacts hru hra hqa hX hN hfz hcl hth hw ha hak
  go_wp2_with fail
  go_region_held3 (fun w' => w'.cell? ⟨wb, 1, none⟩ = some (.slice (some ⟨gt, 0, none⟩) d.p.threads.length ct) ∧ w'.cell? ⟨gt, k, none⟩ = some (.slice (some ⟨bu, ou, none⟩) l.length cu) ∧ w'.cell? ⟨g, k * 6, none⟩ = some (.int .i64 (j : Int)) ∧ w'.cell? ⟨g, k * 6 + 1, none⟩ = some (.int .i64 (q : Int)) ∧ w'.cell? ⟨bu, ou + j, none⟩ = some (.slice (some ⟨ba, oa, none⟩) acts.length ca) ∧ w'.cell? ⟨ba, oa + q * 3, none⟩ = some (.int .i64 1) ∧ w'.cell? ⟨ba, oa + q * 3 + 1, none⟩ = some (.int .i64 a.cell) ∧ w'.cell? ⟨ba, oa + q * 3 + 2, none⟩ = some (.int .i64 a.val))
    (go_keep) (fail)
  have hbY : Below X.heap.size X (X.alloc (.cells #[.int .i64 1, .int .i64 a.cell, .int .i64 a.val] tA)).drew := ((Below.refl X.heap.size X).alloc (Nat.le_refl _) _).drew
  have hA : Blk (X.alloc (.cells #[.int .i64 1, .int .i64 a.cell, .int .i64 a.val] tA)).drew X.heap.size tA #[.int .i64 1, .int .i64 a.cell, .int .i64 a.val] := Blk.drew (Blk.new X tA _)
  generalize (X.alloc (.cells #[.int .i64 1, .int .i64 a.cell, .int .i64 a.val] tA)).drew = Y at hbY hA ⊢
  have z1 := (hbY.cell (p := ⟨g, k * 6 + 1, none⟩) lg).trans y1
  have z3 := (hbY.cell (p := ⟨g, k * 6 + 3, none⟩) lg).trans y3
  have z4 := (hbY.cell (p := ⟨g, k * 6 + 4, none⟩) lg).trans y4
  have z5 := (hbY.cell (p := ⟨g, k * 6 + 5, none⟩) lg).trans y5
  have f1 := (hbY.frozen (p := ⟨g, k * 6 + 1, none⟩) lg).trans (HFZ.out _)
  have f3 := (hbY.frozen (p := ⟨g, k * 6 + 3, none⟩) lg).trans (HFZ.out _)
  have f4 := (hbY.frozen (p := ⟨g, k * 6 + 4, none⟩) lg).trans (HFZ.out _)
  have f5 := (hbY.frozen (p := ⟨g, k * 6 + 5, none⟩) lg).trans (HFZ.out _)
  have zl : g < Y.heap.size := by have := hbY.size; omega
  have a0 := hA.cell 0
  have a2 := hA.cell 2
  have al := hA.lt
  have HN' := hid (HN.out.call hbY)
  clear hbY hA y0 y1 y3 y4 y5 lg hca lu hcu lt x1 lb HN n1 n2 n3 n4 n5 r0 r1 r2 la
  go_wp2_with fail
  refine (HWV.out _).mono ?_
  rintro e Y' ⟨rfl, rfl⟩
  have hN0 := HN'.out
  have hN1 := hN0.setTh (k := k) (r := 5) (t := t) (t' := { t with waits := 0 }) (v := (.int .i64 0)) H1.out (by omega) (by simp [thArr])
  have hN2 := hN1.setTh (k := k) (r := 1) (t := { t with waits := 0 }) (t' := { t with waits := 0, act := t.act + 1 }) (v := (.int .i64 ((q : Int) + 1))) (List.getElem?_set_self (by simpa using (List.getElem?_eq_some_iff.1 H1.out).1)) (by omega) (by simp [thArr, HQ.out])
  simp only [List.set_set] at hN2
  have HH := hid (happensCall hN2.wk HSK.out (List.getElem?_set_self (List.getElem?_eq_some_iff.1 H1.out).1) he9 (evA v 3))
  have HNZ := hid hN2
  simp only [evArr, evA] at HH
  clear hN0 hN1 hN2 he9
  go_wp2_with fail
  refine HH.out.mono ?_
  rintro e X2 ⟨ve', rfl, hwk, hon, hvs⟩
  have hN9 := HNZ.out.step hwk hon hvs
  have hO := hN9.out
  simp only [evArr, Ev.zero] at hO
  have o0 := hO.cell 0
  have o1 := hO.cell 1
  have o2 := hO.cell 2
  have o3 := hO.cell 3
  have o4 := hO.cell 4
  have o5 := hO.cell 5
  have o6 := hO.cell 6
  have o7 := hO.cell 7
  have f0 := hO.frozen 0
  have f1 := hO.frozen 1
  have f2 := hO.frozen 2
  have f3 := hO.frozen 3
  have f4 := hO.frozen 4
  have f5 := hO.frozen 5
  have f6 := hO.frozen 6
  have f7 := hO.frozen 7
  have l := hO.lt
  have HD := hid (hN9.done hle (.int .i64 3) (.int .i64 (idOf k t.tx)) (.int .i64 0) (.int .i64 0) (.int .i64 0) (.int .i64 0) (.int .i64 v) (.int .i64 3))
  clear hwk hon hvs hN9 hO HH HNZ
  go_wp2_with fail
  exact bodyPost_ret (resAns _ _ _ _ _ _ _ _ _ _ _ _ rfl rfl HD.out.2.2.2) rfl ⟨_, rfl, HD.out.1, HD.out.2.1, HD.out.2.2.1⟩

end Go.Proofs.YtgfmlaflochffaaGreatDoor
