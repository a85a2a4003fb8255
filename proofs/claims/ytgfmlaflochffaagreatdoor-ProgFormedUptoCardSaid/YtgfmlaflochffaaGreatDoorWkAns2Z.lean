/-
  prog.Walk: Answer: every other case.
-/
import Derived.Test.YtgfmlaflochffaaGreatDoorWkAnsZ
import Derived.Test.YtgfmlaflochffaaGreatDoorWkEndsZ
namespace Go.Proofs.YtgfmlaflochffaaGreatDoor
open Go.RowKit Go.Maps W
attribute [local go_sem ↓] Go.wp_at_zero Go.wp_at_succ

set_option linter.unusedSimpArgs false in
set_option maxHeartbeats 8000000 in
set_option maxRecDepth 100000 in
theorem ansDead {B wb : Nat} {W : World} {d : Wd} {vc vt ve : Value} {g n c : Nat} (h : Wk B wb W d vc vt (.slice (some ⟨g, 0, none⟩) n c) ve) (hok : WdOk d) (v : Int) {i : Int} (hl : d.live i = none) (b : Bool) :
    Calls Tryz.prog 8 #[.pointer (some ⟨wb, 0, none⟩), .int .i64 i, .int .i64 v, .bool b] W fun e w' => NextPost B wb W vc vt (.slice (some ⟨g, 0, none⟩) n c) ve ((Ev.zero, false), d) e w' := by
  have hle : B ≤ W.heap.size := by have := h.le; have := h.box.lt; omega
  have HO := hid (ofDead (h.alloc outO) hok hl)
  have H := hid h
  clear h hok hl
  go_enter Tryz.func8, Tryz.ntmps8
  go_wp2_with fail
  refine HO.out.mono ?_
  rintro e X ⟨rfl, m, hX⟩
  have hN := Nx.start H.out hX
  have HN := hid hN
  have hO := hN.out
  simp only [evArr, Ev.zero] at hO
  have o0 := hO.cell 0
  have o1 := hO.cell 1
  have o2 := hO.cell 2
  have o3 := hO.cell 3
  have o4 := hO.cell 4
  have o5 := hO.cell 5
  have o6 := hO.cell 6
  have o7 := hO.cell 7
  have f0 := hO.frozen 0
  have f1 := hO.frozen 1
  have f2 := hO.frozen 2
  have f3 := hO.frozen 3
  have f4 := hO.frozen 4
  have f5 := hO.frozen 5
  have f6 := hO.frozen 6
  have f7 := hO.frozen 7
  have l := hO.lt
  have HD := hid (hN.done hle (.int .i64 0) (.int .i64 0) (.int .i64 0) (.int .i64 0) (.int .i64 0) (.int .i64 0) (.int .i64 0) (.int .i64 0))
  clear hX hN hO HO H HN
  go_wp2_with fail
  refine bodyPost_ret (resAns _ _ _ _ _ _ _ _ _ _ _ _ rfl rfl HD.out.2.2.2) rfl ?_
  first
  | exact ⟨_, rfl, HD.out.1, HD.out.2.1, HD.out.2.2.1⟩
  | exact ⟨rfl, _, HD.out.1, HD.out.2.1, HD.out.2.2.1⟩

set_option linter.unusedSimpArgs false in
set_option maxHeartbeats 8000000 in
set_option maxRecDepth 100000 in
theorem ansIdle {B wb : Nat} {W : World} {d : Wd} {vc vt ve : Value} {g n c : Nat} (h : Wk B wb W d vc vt (.slice (some ⟨g, 0, none⟩) n c) ve) (hok : WdOk d) (v : Int) {k : Nat} {t : Th} {l : List (List PAct)} (hl : d.live k = some (t, l)) (hw : t.waits = 0) (b : Bool) :
    Calls Tryz.prog 8 #[.pointer (some ⟨wb, 0, none⟩), .int .i64 (k : Int), .int .i64 v, .bool b] W fun e w' => NextPost B wb W vc vt (.slice (some ⟨g, 0, none⟩) n c) ve ((Ev.zero, false), d) e w' := by
  have hle : B ≤ W.heap.size := by have := h.le; have := h.box.lt; omega
  obtain ⟨_, h1, h2, hne⟩ := live_at hl
  simp only [Int.toNat_natCast] at h1 h2
  have HO := hid (ofLive (h.alloc outO) hok hl)
  have H := hid h
  have HK := hid h1
  clear h hok hl h1 h2 hne
  go_enter Tryz.func8, Tryz.ntmps8
  go_wp2_with fail
  refine HO.out.mono ?_
  rintro e X ⟨rfl, m, hX⟩
  have hN := Nx.start H.out hX
  have HN := hid hN
  obtain ⟨g', c', hv, _, lg, hkl, hnc, hcl, hfz⟩ := hN.wk.thAt HK.out
  injection hv with e1 e2 e3
  injection e1 with e1
  injection e1 with e1
  subst e1 e2 e3
  have y5 : X.cell? ⟨g, k * 6 + 5, none⟩ = some (.int .i64 t.waits) := hcl 5 (by omega)
  rw [hw] at y5
  have hO := hN.out
  simp only [evArr, Ev.zero] at hO
  have o0 := hO.cell 0
  have o1 := hO.cell 1
  have o2 := hO.cell 2
  have o3 := hO.cell 3
  have o4 := hO.cell 4
  have o5 := hO.cell 5
  have o6 := hO.cell 6
  have o7 := hO.cell 7
  have f0 := hO.frozen 0
  have f1 := hO.frozen 1
  have f2 := hO.frozen 2
  have f3 := hO.frozen 3
  have f4 := hO.frozen 4
  have f5 := hO.frozen 5
  have f6 := hO.frozen 6
  have f7 := hO.frozen 7
  have l := hO.lt
  have HD := hid (hN.done hle (.int .i64 0) (.int .i64 0) (.int .i64 0) (.int .i64 0) (.int .i64 0) (.int .i64 0) (.int .i64 0) (.int .i64 0))
  clear hX hN hO HO H HN hcl hfz hw
  go_wp2_with fail
  refine bodyPost_ret (resAns _ _ _ _ _ _ _ _ _ _ _ _ rfl rfl HD.out.2.2.2) rfl ?_
  first
  | exact ⟨_, rfl, HD.out.1, HD.out.2.1, HD.out.2.2.1⟩
  | exact ⟨rfl, _, HD.out.1, HD.out.2.1, HD.out.2.2.1⟩

set_option linter.unusedSimpArgs false in
set_option maxHeartbeats 8000000 in
set_option maxRecDepth 100000 in
theorem ansSeven {B wb : Nat} {W : World} {d : Wd} {vc vt ve : Value} {g n c : Nat} (h : Wk B wb W d vc vt (.slice (some ⟨g, 0, none⟩) n c) ve) (hok : WdOk d) (v : Int) {k : Nat} {t : Th} {l : List (List PAct)} (hl : d.live k = some (t, l)) (hw : t.waits = 7) :
    Calls Tryz.prog 8 #[.pointer (some ⟨wb, 0, none⟩), .int .i64 (k : Int), .int .i64 v, .bool false] W fun e w' => NextPost B wb W vc vt (.slice (some ⟨g, 0, none⟩) n c) ve ((Ev.zero, false), d) e w' := by
  have hle : B ≤ W.heap.size := by have := h.le; have := h.box.lt; omega
  obtain ⟨_, h1, h2, hne⟩ := live_at hl
  simp only [Int.toNat_natCast] at h1 h2
  have HO := hid (ofLive (h.alloc outO) hok hl)
  have H := hid h
  have HK := hid h1
  clear h hok hl h1 h2 hne
  go_enter Tryz.func8, Tryz.ntmps8
  go_wp2_with fail
  refine HO.out.mono ?_
  rintro e X ⟨rfl, m, hX⟩
  have hN := Nx.start H.out hX
  have HN := hid hN
  obtain ⟨g', c', hv, _, lg, hkl, hnc, hcl, hfz⟩ := hN.wk.thAt HK.out
  injection hv with e1 e2 e3
  injection e1 with e1
  injection e1 with e1
  subst e1 e2 e3
  have y5 : X.cell? ⟨g, k * 6 + 5, none⟩ = some (.int .i64 t.waits) := hcl 5 (by omega)
  rw [hw] at y5
  have hO := hN.out
  simp only [evArr, Ev.zero] at hO
  have o0 := hO.cell 0
  have o1 := hO.cell 1
  have o2 := hO.cell 2
  have o3 := hO.cell 3
  have o4 := hO.cell 4
  have o5 := hO.cell 5
  have o6 := hO.cell 6
  have o7 := hO.cell 7
  have f0 := hO.frozen 0
  have f1 := hO.frozen 1
  have f2 := hO.frozen 2
  have f3 := hO.frozen 3
  have f4 := hO.frozen 4
  have f5 := hO.frozen 5
  have f6 := hO.frozen 6
  have f7 := hO.frozen 7
  have l := hO.lt
  have HD := hid (hN.done hle (.int .i64 0) (.int .i64 0) (.int .i64 0) (.int .i64 0) (.int .i64 0) (.int .i64 0) (.int .i64 0) (.int .i64 0))
  clear hX hN hO HO H HN hcl hfz hw
  go_wp2_with fail
  refine bodyPost_ret (resAns _ _ _ _ _ _ _ _ _ _ _ _ rfl rfl HD.out.2.2.2) rfl ?_
  first
  | exact ⟨_, rfl, HD.out.1, HD.out.2.1, HD.out.2.2.1⟩
  | exact ⟨rfl, _, HD.out.1, HD.out.2.1, HD.out.2.2.1⟩

set_option linter.unusedSimpArgs false in
set_option maxHeartbeats 8000000 in
set_option maxRecDepth 100000 in
theorem ansAbort {B wb : Nat} {W : World} {d : Wd} {vc vt ve : Value} {g n c : Nat} (h : Wk B wb W d vc vt (.slice (some ⟨g, 0, none⟩) n c) ve) (hok : WdOk d) (v : Int) {k : Nat} {t : Th} {l : List (List PAct)} (hl : d.live k = some (t, l)) (hw : t.waits ≠ 0) (he9 : d.es.length ≤ 100000) :
    Calls Tryz.prog 8 #[.pointer (some ⟨wb, 0, none⟩), .int .i64 (k : Int), .int .i64 v, .bool true] W fun e w' => NextPost B wb W vc vt (.slice (some ⟨g, 0, none⟩) n c) ve (d.ends k t 6) e w' := by
  have hle : B ≤ W.heap.size := by have := h.le; have := h.box.lt; omega
  obtain ⟨_, h1, h2, hne⟩ := live_at hl
  simp only [Int.toNat_natCast] at h1 h2
  have HO := hid (ofLive (h.alloc outO) hok hl)
  have H := hid h
  have HK := hid h1
  have hw0 : (t.waits == 0) = false := by simpa using hw
  have HOKD := hid hok
  have HL := hid hl
  clear h hok hl h1 h2 hne
  go_enter Tryz.func8, Tryz.ntmps8
  go_wp2_with fail
  refine HO.out.mono ?_
  rintro e X ⟨rfl, m, hX⟩
  have hN := Nx.start H.out hX
  have HN := hid hN
  obtain ⟨g', c', hv, _, lg, hkl, hnc, hcl, hfz⟩ := hN.wk.thAt HK.out
  injection hv with e1 e2 e3
  injection e1 with e1
  injection e1 with e1
  subst e1 e2 e3
  have y5 : X.cell? ⟨g, k * 6 + 5, none⟩ = some (.int .i64 t.waits) := hcl 5 (by omega)
  clear hw
  have HE := hid (endsCall hN.wk HOKD.out HL.out he9 6)
  simp only [NextPost, Wd.ends, Wd.put, evK, evArr] at HE
  clear hX hN HO H hcl hfz he9 HOKD HL
  go_wp2_with fail
  refine HE.out.mono ?_
  rintro e X2 ⟨ve', rfl, hwk, hon, hvs⟩
  have hN9 := HN.out.step hwk hon hvs
  have hO := hN9.out
  simp only [evArr, Ev.zero] at hO
  have o0 := hO.cell 0
  have o1 := hO.cell 1
  have o2 := hO.cell 2
  have o3 := hO.cell 3
  have o4 := hO.cell 4
  have o5 := hO.cell 5
  have o6 := hO.cell 6
  have o7 := hO.cell 7
  have f0 := hO.frozen 0
  have f1 := hO.frozen 1
  have f2 := hO.frozen 2
  have f3 := hO.frozen 3
  have f4 := hO.frozen 4
  have f5 := hO.frozen 5
  have f6 := hO.frozen 6
  have f7 := hO.frozen 7
  have l := hO.lt
  have HD := hid (hN9.done hle (.int .i64 6) (.int .i64 (idOf k t.tx)) (.int .i64 0) (.int .i64 0) (.int .i64 0) (.int .i64 0) (.int .i64 0) (.int .i64 0))
  clear hwk hon hvs hN9 hO HE HN
  go_wp2_with fail
  refine bodyPost_ret (resAns _ _ _ _ _ _ _ _ _ _ _ _ rfl rfl HD.out.2.2.2) rfl ?_
  first
  | exact ⟨_, rfl, HD.out.1, HD.out.2.1, HD.out.2.2.1⟩
  | exact ⟨rfl, _, HD.out.1, HD.out.2.1, HD.out.2.2.1⟩

set_option linter.unusedSimpArgs false in
set_option maxHeartbeats 8000000 in
set_option maxRecDepth 100000 in
theorem ansCommit {B wb : Nat} {W : World} {d : Wd} {vc vt ve : Value} {g n c : Nat} (h : Wk B wb W d vc vt (.slice (some ⟨g, 0, none⟩) n c) ve) (hok : WdOk d) (v : Int) {k : Nat} {t : Th} {l : List (List PAct)} (hl : d.live k = some (t, l)) (hw : t.waits = 4) (he9 : d.es.length ≤ 100000) :
    Calls Tryz.prog 8 #[.pointer (some ⟨wb, 0, none⟩), .int .i64 (k : Int), .int .i64 v, .bool false] W fun e w' => NextPost B wb W vc vt (.slice (some ⟨g, 0, none⟩) n c) ve (d.ends k t 5) e w' := by
  have hle : B ≤ W.heap.size := by have := h.le; have := h.box.lt; omega
  obtain ⟨_, h1, h2, hne⟩ := live_at hl
  simp only [Int.toNat_natCast] at h1 h2
  have HO := hid (ofLive (h.alloc outO) hok hl)
  have H := hid h
  have HK := hid h1
  have HOKD := hid hok
  have HL := hid hl
  clear h hok hl h1 h2 hne
  go_enter Tryz.func8, Tryz.ntmps8
  go_wp2_with fail
  refine HO.out.mono ?_
  rintro e X ⟨rfl, m, hX⟩
  have hN := Nx.start H.out hX
  have HN := hid hN
  obtain ⟨g', c', hv, _, lg, hkl, hnc, hcl, hfz⟩ := hN.wk.thAt HK.out
  injection hv with e1 e2 e3
  injection e1 with e1
  injection e1 with e1
  subst e1 e2 e3
  have y5 : X.cell? ⟨g, k * 6 + 5, none⟩ = some (.int .i64 t.waits) := hcl 5 (by omega)
  rw [hw] at y5
  have HE := hid (endsCall hN.wk HOKD.out HL.out he9 5)
  simp only [NextPost, Wd.ends, Wd.put, evK, evArr] at HE
  clear hX hN HO H hcl hfz he9 HOKD HL
  go_wp2_with fail
  refine HE.out.mono ?_
  rintro e X2 ⟨ve', rfl, hwk, hon, hvs⟩
  have hN9 := HN.out.step hwk hon hvs
  have hO := hN9.out
  simp only [evArr, Ev.zero] at hO
  have o0 := hO.cell 0
  have o1 := hO.cell 1
  have o2 := hO.cell 2
  have o3 := hO.cell 3
  have o4 := hO.cell 4
  have o5 := hO.cell 5
  have o6 := hO.cell 6
  have o7 := hO.cell 7
  have f0 := hO.frozen 0
  have f1 := hO.frozen 1
  have f2 := hO.frozen 2
  have f3 := hO.frozen 3
  have f4 := hO.frozen 4
  have f5 := hO.frozen 5
  have f6 := hO.frozen 6
  have f7 := hO.frozen 7
  have l := hO.lt
  have HD := hid (hN9.done hle (.int .i64 5) (.int .i64 (idOf k t.tx)) (.int .i64 0) (.int .i64 0) (.int .i64 0) (.int .i64 0) (.int .i64 0) (.int .i64 0))
  clear hwk hon hvs hN9 hO HE HN
  go_wp2_with fail
  refine bodyPost_ret (resAns _ _ _ _ _ _ _ _ _ _ _ _ rfl rfl HD.out.2.2.2) rfl ?_
  first
  | exact ⟨_, rfl, HD.out.1, HD.out.2.1, HD.out.2.2.1⟩
  | exact ⟨rfl, _, HD.out.1, HD.out.2.1, HD.out.2.2.1⟩

set_option linter.unusedSimpArgs false in
set_option maxHeartbeats 8000000 in
set_option maxRecDepth 100000 in
theorem ansReadNo {B wb : Nat} {W : World} {d : Wd} {vc vt ve : Value} {g n c : Nat} (h : Wk B wb W d vc vt (.slice (some ⟨g, 0, none⟩) n c) ve) (hok : WdOk d) (v : Int) {k : Nat} {t : Th} {l : List (List PAct)} (hl : d.live k = some (t, l)) (hw : t.waits = 2) {a : PAct} (ha : (actsOf t l)[t.act.toNat]? = some a) (hak : a.kind = 1) (hv : ¬ wthn v) :
    Calls Tryz.prog 8 #[.pointer (some ⟨wb, 0, none⟩), .int .i64 (k : Int), .int .i64 v, .bool false] W fun e w' => NextPost B wb W vc vt (.slice (some ⟨g, 0, none⟩) n c) ve ((Ev.zero, false), d) e w' := by
  have hle : B ≤ W.heap.size := by have := h.le; have := h.box.lt; omega
  obtain ⟨_, h1, h2, hne⟩ := live_at hl
  simp only [Int.toNat_natCast] at h1 h2
  have HO := hid (ofLive (h.alloc outO) hok hl)
  have H := hid h
  have HK := hid h1
  have hth := hok.th _ _ _ h1 h2
  have HOKD := hid hok
  have H1 := hid h1
  have H2 := hid h2
  have HNL := hid hne
  clear h hok hl h1 h2 hne
  go_enter Tryz.func8, Tryz.ntmps8
  go_wp2_with fail
  refine HO.out.mono ?_
  rintro e X ⟨rfl, m, hX⟩
  have hN := Nx.start H.out hX
  have HN := hid hN
  obtain ⟨g', c', hv, _, lg, hkl, hnc, hcl, hfz⟩ := hN.wk.thAt HK.out
  injection hv with e1 e2 e3
  injection e1 with e1
  injection e1 with e1
  subst e1 e2 e3
  have y5 : X.cell? ⟨g, k * 6 + 5, none⟩ = some (.int .i64 t.waits) := hcl 5 (by omega)
  have y0 : X.cell? ⟨g, k * 6, none⟩ = some (.int .i64 t.tx) := hcl 0 (by omega)
  have y1 : X.cell? ⟨g, k * 6 + 1, none⟩ = some (.int .i64 t.act) := hcl 1 (by omega)
  have y3 : X.cell? ⟨g, k * 6 + 3, none⟩ = some (.bool t.adding) := hcl 3 (by omega)
  have y4 : X.cell? ⟨g, k * 6 + 4, none⟩ = some (.int .i64 t.read) := hcl 4 (by omega)
  rw [hw] at y5
  obtain ⟨gt, ct, u, rfl, hct, hcu, hru⟩ := hN.wk.txsAt H2.out
  have x1 : X.cell? ⟨wb, 1, none⟩ = some (.slice (some ⟨gt, 0, none⟩) d.p.threads.length ct) := hN.wk.box.cell 1
  have lb := hN.wk.box.lt
  have lt := World.block_lt_of_cell? X _ hcu
  have hkp := (List.getElem?_eq_some_iff.1 H2.out).1
  have hk4 : k ≤ 4 := by have := (pgOk_parts HOKD.out.ok).2.2.2.1; omega
  have hl3 : l.length ≤ 3 := by
    have h9 := (pgOk_parts HOKD.out.ok).2.2.2.2.2 l (List.mem_of_getElem? H2.out)
    exact (thrOk_parts h9).1
  obtain ⟨j, hj⟩ : ∃ j : Nat, t.tx = (j : Int) := ⟨t.tx.toNat, by have := hth.t0; omega⟩
  obtain ⟨q, hq⟩ : ∃ q : Nat, t.act = (q : Int) := ⟨t.act.toNat, by have := hth.a0; omega⟩
  have hjl : j < l.length := by have := hth.t1; have := HNL.out; omega
  obtain ⟨acts, hacts⟩ : ∃ acts, l[j]? = some acts := ⟨l[j], List.getElem?_eq_getElem hjl⟩
  have HAO : Hid (actsOf t l = acts) := hid (by unfold actsOf; rw [hj, Int.toNat_natCast, hacts]; rfl)
  have ha6 : acts.length ≤ 6 := by
    have h9 := (pgOk_parts HOKD.out.ok).2.2.2.2.2 l (List.mem_of_getElem? H2.out)
    exact (txOk_parts ((thrOk_parts h9).2 acts (List.mem_of_getElem? hacts))).2.1
  have hqa : acts[q]? = some a := by
    rw [HAO.out, hq, Int.toNat_natCast] at ha
    exact ha
  have hqlt := (List.getElem?_eq_some_iff.1 hqa).1
  obtain ⟨Au, cu, rfl⟩ := hru.shape
  obtain ⟨bu, ou, ua, rfl, hca, hra, _, hcu3⟩ := hru.at hacts
  obtain ⟨Aa, ca, rfl⟩ := hra.shape
  obtain ⟨ba, oa, rfl, r0, r1, r2, _, hca2⟩ := hra.at hqa
  have lu := World.block_lt_of_cell? X _ hca
  have la := World.block_lt_of_cell? X _ r0
  have HAV : Hid (-1000000 ≤ a.val ∧ a.val ≤ 1000000) := hid (by
    have h9 := (pgOk_parts HOKD.out.ok).2.2.2.2.2 l (List.mem_of_getElem? H2.out)
    have h10 := (txOk_parts ((thrOk_parts h9).2 acts (List.mem_of_getElem? hacts))).2.2
    obtain ⟨lb, hlb⟩ := acts_mem _ _ h10 a (List.mem_of_getElem? hqa)
    exact (act_len (pgOk_parts HOKD.out.ok).2.1 hlb).2.2)
  rw [hak] at r0
  rw [hj] at y0
  rw [hq] at y1
  have HJ := hid hj
  have HQ := hid hq
  have hl0 : (0 : Int) ≤ (k : Int) := by omega
  have hl2 : (k : Int) < (d.p.threads.length : Int) := by omega
  have hl4 : (0 : Int) ≤ (j : Int) := by omega
  have hl5 : (j : Int) < (l.length : Int) := by omega
  have hq0 : (0 : Int) ≤ (q : Int) := by omega
  have hq1 : (q : Int) < (acts.length : Int) := by omega
  have n1 := World.new_ne X _ x1
  have n2 := World.new_ne X _ hcu
  have n3 := World.new_ne X _ y0
  have n4 := World.new_ne X _ hca
  have n5 := World.new_ne X _ r0
  have HCL := hid hcl
  have HFZ := hid hfz
  have HW := hid hw
  have HHA := hid ha
  have HAK := hid hak
  have HWV := hid (fun w => withinNo v hv w)
  clear hv
  clear hj hq hacts hru hra hqa hX hN hfz hcl hth hw ha hak
  go_wp2_with fail
  go_region_held3 (fun w' => w'.cell? ⟨wb, 1, none⟩ = some (.slice (some ⟨gt, 0, none⟩) d.p.threads.length ct) ∧ w'.cell? ⟨gt, k, none⟩ = some (.slice (some ⟨bu, ou, none⟩) l.length cu) ∧ w'.cell? ⟨g, k * 6, none⟩ = some (.int .i64 (j : Int)) ∧ w'.cell? ⟨g, k * 6 + 1, none⟩ = some (.int .i64 (q : Int)) ∧ w'.cell? ⟨bu, ou + j, none⟩ = some (.slice (some ⟨ba, oa, none⟩) acts.length ca) ∧ w'.cell? ⟨ba, oa + q * 3, none⟩ = some (.int .i64 1) ∧ w'.cell? ⟨ba, oa + q * 3 + 1, none⟩ = some (.int .i64 a.cell) ∧ w'.cell? ⟨ba, oa + q * 3 + 2, none⟩ = some (.int .i64 a.val))
    (go_keep) (fail)
  have hbY : Below X.heap.size X (X.alloc (.cells #[.int .i64 1, .int .i64 a.cell, .int .i64 a.val] tA)).drew := ((Below.refl X.heap.size X).alloc (Nat.le_refl _) _).drew
  have hA : Blk (X.alloc (.cells #[.int .i64 1, .int .i64 a.cell, .int .i64 a.val] tA)).drew X.heap.size tA #[.int .i64 1, .int .i64 a.cell, .int .i64 a.val] := Blk.drew (Blk.new X tA _)
  generalize (X.alloc (.cells #[.int .i64 1, .int .i64 a.cell, .int .i64 a.val] tA)).drew = Y at hbY hA ⊢
  have z1 := (hbY.cell (p := ⟨g, k * 6 + 1, none⟩) lg).trans y1
  have z3 := (hbY.cell (p := ⟨g, k * 6 + 3, none⟩) lg).trans y3
  have z4 := (hbY.cell (p := ⟨g, k * 6 + 4, none⟩) lg).trans y4
  have z5 := (hbY.cell (p := ⟨g, k * 6 + 5, none⟩) lg).trans y5
  have f1 := (hbY.frozen (p := ⟨g, k * 6 + 1, none⟩) lg).trans (HFZ.out _)
  have f3 := (hbY.frozen (p := ⟨g, k * 6 + 3, none⟩) lg).trans (HFZ.out _)
  have f4 := (hbY.frozen (p := ⟨g, k * 6 + 4, none⟩) lg).trans (HFZ.out _)
  have f5 := (hbY.frozen (p := ⟨g, k * 6 + 5, none⟩) lg).trans (HFZ.out _)
  have zl : g < Y.heap.size := by have := hbY.size; omega
  have a0 := hA.cell 0
  have a2 := hA.cell 2
  have al := hA.lt
  have HN' := hid (HN.out.call hbY)
  clear hbY hA y0 y1 y3 y4 y5 lg hca lu hcu lt x1 lb HN n1 n2 n3 n4 n5 r0 r1 r2 la
  go_wp2_with fail
  refine (HWV.out _).mono ?_
  rintro e Y' ⟨rfl, rfl⟩
  have hO := HN'.out.out
  simp only [evArr, Ev.zero] at hO
  have o0 := hO.cell 0
  have o1 := hO.cell 1
  have o2 := hO.cell 2
  have o3 := hO.cell 3
  have o4 := hO.cell 4
  have o5 := hO.cell 5
  have o6 := hO.cell 6
  have o7 := hO.cell 7
  have f0 := hO.frozen 0
  have f1 := hO.frozen 1
  have f2 := hO.frozen 2
  have f3 := hO.frozen 3
  have f4 := hO.frozen 4
  have f5 := hO.frozen 5
  have f6 := hO.frozen 6
  have f7 := hO.frozen 7
  have l := hO.lt
  have HD := hid (HN'.out.done hle (.int .i64 0) (.int .i64 0) (.int .i64 0) (.int .i64 0) (.int .i64 0) (.int .i64 0) (.int .i64 0) (.int .i64 0))
  clear hO
  go_wp2_with fail
  refine bodyPost_ret (resAns _ _ _ _ _ _ _ _ _ _ _ _ rfl rfl HD.out.2.2.2) rfl ?_
  first
  | exact ⟨_, rfl, HD.out.1, HD.out.2.1, HD.out.2.2.1⟩
  | exact ⟨rfl, _, HD.out.1, HD.out.2.1, HD.out.2.2.1⟩

set_option linter.unusedSimpArgs false in
set_option maxHeartbeats 8000000 in
set_option maxRecDepth 100000 in
theorem ansAddNo {B wb : Nat} {W : World} {d : Wd} {vc vt ve : Value} {g n c : Nat} (h : Wk B wb W d vc vt (.slice (some ⟨g, 0, none⟩) n c) ve) (hok : WdOk d) (v : Int) {k : Nat} {t : Th} {l : List (List PAct)} (hl : d.live k = some (t, l)) (hw : t.waits = 2) {a : PAct} (ha : (actsOf t l)[t.act.toNat]? = some a) (hak : a.kind = 3) (had : t.adding = false) (hv : ¬ wthn v) :
    Calls Tryz.prog 8 #[.pointer (some ⟨wb, 0, none⟩), .int .i64 (k : Int), .int .i64 v, .bool false] W fun e w' => NextPost B wb W vc vt (.slice (some ⟨g, 0, none⟩) n c) ve ((Ev.zero, false), d) e w' := by
  have hle : B ≤ W.heap.size := by have := h.le; have := h.box.lt; omega
  obtain ⟨_, h1, h2, hne⟩ := live_at hl
  simp only [Int.toNat_natCast] at h1 h2
  have HO := hid (ofLive (h.alloc outO) hok hl)
  have H := hid h
  have HK := hid h1
  have hth := hok.th _ _ _ h1 h2
  have HOKD := hid hok
  have H1 := hid h1
  have H2 := hid h2
  have HNL := hid hne
  clear h hok hl h1 h2 hne
  go_enter Tryz.func8, Tryz.ntmps8
  go_wp2_with fail
  refine HO.out.mono ?_
  rintro e X ⟨rfl, m, hX⟩
  have hN := Nx.start H.out hX
  have HN := hid hN
  obtain ⟨g', c', hv, _, lg, hkl, hnc, hcl, hfz⟩ := hN.wk.thAt HK.out
  injection hv with e1 e2 e3
  injection e1 with e1
  injection e1 with e1
  subst e1 e2 e3
  have y5 : X.cell? ⟨g, k * 6 + 5, none⟩ = some (.int .i64 t.waits) := hcl 5 (by omega)
  have y0 : X.cell? ⟨g, k * 6, none⟩ = some (.int .i64 t.tx) := hcl 0 (by omega)
  have y1 : X.cell? ⟨g, k * 6 + 1, none⟩ = some (.int .i64 t.act) := hcl 1 (by omega)
  have y3 : X.cell? ⟨g, k * 6 + 3, none⟩ = some (.bool t.adding) := hcl 3 (by omega)
  have y4 : X.cell? ⟨g, k * 6 + 4, none⟩ = some (.int .i64 t.read) := hcl 4 (by omega)
  rw [hw] at y5
  obtain ⟨gt, ct, u, rfl, hct, hcu, hru⟩ := hN.wk.txsAt H2.out
  have x1 : X.cell? ⟨wb, 1, none⟩ = some (.slice (some ⟨gt, 0, none⟩) d.p.threads.length ct) := hN.wk.box.cell 1
  have lb := hN.wk.box.lt
  have lt := World.block_lt_of_cell? X _ hcu
  have hkp := (List.getElem?_eq_some_iff.1 H2.out).1
  have hk4 : k ≤ 4 := by have := (pgOk_parts HOKD.out.ok).2.2.2.1; omega
  have hl3 : l.length ≤ 3 := by
    have h9 := (pgOk_parts HOKD.out.ok).2.2.2.2.2 l (List.mem_of_getElem? H2.out)
    exact (thrOk_parts h9).1
  obtain ⟨j, hj⟩ : ∃ j : Nat, t.tx = (j : Int) := ⟨t.tx.toNat, by have := hth.t0; omega⟩
  obtain ⟨q, hq⟩ : ∃ q : Nat, t.act = (q : Int) := ⟨t.act.toNat, by have := hth.a0; omega⟩
  have hjl : j < l.length := by have := hth.t1; have := HNL.out; omega
  obtain ⟨acts, hacts⟩ : ∃ acts, l[j]? = some acts := ⟨l[j], List.getElem?_eq_getElem hjl⟩
  have HAO : Hid (actsOf t l = acts) := hid (by unfold actsOf; rw [hj, Int.toNat_natCast, hacts]; rfl)
  have ha6 : acts.length ≤ 6 := by
    have h9 := (pgOk_parts HOKD.out.ok).2.2.2.2.2 l (List.mem_of_getElem? H2.out)
    exact (txOk_parts ((thrOk_parts h9).2 acts (List.mem_of_getElem? hacts))).2.1
  have hqa : acts[q]? = some a := by
    rw [HAO.out, hq, Int.toNat_natCast] at ha
    exact ha
  have hqlt := (List.getElem?_eq_some_iff.1 hqa).1
  obtain ⟨Au, cu, rfl⟩ := hru.shape
  obtain ⟨bu, ou, ua, rfl, hca, hra, _, hcu3⟩ := hru.at hacts
  obtain ⟨Aa, ca, rfl⟩ := hra.shape
  obtain ⟨ba, oa, rfl, r0, r1, r2, _, hca2⟩ := hra.at hqa
  have lu := World.block_lt_of_cell? X _ hca
  have la := World.block_lt_of_cell? X _ r0
  have HAV : Hid (-1000000 ≤ a.val ∧ a.val ≤ 1000000) := hid (by
    have h9 := (pgOk_parts HOKD.out.ok).2.2.2.2.2 l (List.mem_of_getElem? H2.out)
    have h10 := (txOk_parts ((thrOk_parts h9).2 acts (List.mem_of_getElem? hacts))).2.2
    obtain ⟨lb, hlb⟩ := acts_mem _ _ h10 a (List.mem_of_getElem? hqa)
    exact (act_len (pgOk_parts HOKD.out.ok).2.1 hlb).2.2)
  rw [hak] at r0
  rw [hj] at y0
  rw [hq] at y1
  have HJ := hid hj
  have HQ := hid hq
  have hl0 : (0 : Int) ≤ (k : Int) := by omega
  have hl2 : (k : Int) < (d.p.threads.length : Int) := by omega
  have hl4 : (0 : Int) ≤ (j : Int) := by omega
  have hl5 : (j : Int) < (l.length : Int) := by omega
  have hq0 : (0 : Int) ≤ (q : Int) := by omega
  have hq1 : (q : Int) < (acts.length : Int) := by omega
  have n1 := World.new_ne X _ x1
  have n2 := World.new_ne X _ hcu
  have n3 := World.new_ne X _ y0
  have n4 := World.new_ne X _ hca
  have n5 := World.new_ne X _ r0
  have HCL := hid hcl
  have HFZ := hid hfz
  have HW := hid hw
  have HHA := hid ha
  have HAK := hid hak
  rw [had] at y3
  have HWV := hid (fun w => withinNo v hv w)
  clear hv had
  clear hj hq hacts hru hra hqa hX hN hfz hcl hth hw ha hak
  go_wp2_with fail
  go_region_held3 (fun w' => w'.cell? ⟨wb, 1, none⟩ = some (.slice (some ⟨gt, 0, none⟩) d.p.threads.length ct) ∧ w'.cell? ⟨gt, k, none⟩ = some (.slice (some ⟨bu, ou, none⟩) l.length cu) ∧ w'.cell? ⟨g, k * 6, none⟩ = some (.int .i64 (j : Int)) ∧ w'.cell? ⟨g, k * 6 + 1, none⟩ = some (.int .i64 (q : Int)) ∧ w'.cell? ⟨bu, ou + j, none⟩ = some (.slice (some ⟨ba, oa, none⟩) acts.length ca) ∧ w'.cell? ⟨ba, oa + q * 3, none⟩ = some (.int .i64 3) ∧ w'.cell? ⟨ba, oa + q * 3 + 1, none⟩ = some (.int .i64 a.cell) ∧ w'.cell? ⟨ba, oa + q * 3 + 2, none⟩ = some (.int .i64 a.val))
    (go_keep) (fail)
  have hbY : Below X.heap.size X (X.alloc (.cells #[.int .i64 3, .int .i64 a.cell, .int .i64 a.val] tA)).drew := ((Below.refl X.heap.size X).alloc (Nat.le_refl _) _).drew
  have hA : Blk (X.alloc (.cells #[.int .i64 3, .int .i64 a.cell, .int .i64 a.val] tA)).drew X.heap.size tA #[.int .i64 3, .int .i64 a.cell, .int .i64 a.val] := Blk.drew (Blk.new X tA _)
  generalize (X.alloc (.cells #[.int .i64 3, .int .i64 a.cell, .int .i64 a.val] tA)).drew = Y at hbY hA ⊢
  have z1 := (hbY.cell (p := ⟨g, k * 6 + 1, none⟩) lg).trans y1
  have z3 := (hbY.cell (p := ⟨g, k * 6 + 3, none⟩) lg).trans y3
  have z4 := (hbY.cell (p := ⟨g, k * 6 + 4, none⟩) lg).trans y4
  have z5 := (hbY.cell (p := ⟨g, k * 6 + 5, none⟩) lg).trans y5
  have f1 := (hbY.frozen (p := ⟨g, k * 6 + 1, none⟩) lg).trans (HFZ.out _)
  have f3 := (hbY.frozen (p := ⟨g, k * 6 + 3, none⟩) lg).trans (HFZ.out _)
  have f4 := (hbY.frozen (p := ⟨g, k * 6 + 4, none⟩) lg).trans (HFZ.out _)
  have f5 := (hbY.frozen (p := ⟨g, k * 6 + 5, none⟩) lg).trans (HFZ.out _)
  have zl : g < Y.heap.size := by have := hbY.size; omega
  have a0 := hA.cell 0
  have a2 := hA.cell 2
  have al := hA.lt
  have HN' := hid (HN.out.call hbY)
  clear hbY hA y0 y1 y3 y4 y5 lg hca lu hcu lt x1 lb HN n1 n2 n3 n4 n5 r0 r1 r2 la
  go_wp2_with fail
  refine (HWV.out _).mono ?_
  rintro e Y' ⟨rfl, rfl⟩
  have hO := HN'.out.out
  simp only [evArr, Ev.zero] at hO
  have o0 := hO.cell 0
  have o1 := hO.cell 1
  have o2 := hO.cell 2
  have o3 := hO.cell 3
  have o4 := hO.cell 4
  have o5 := hO.cell 5
  have o6 := hO.cell 6
  have o7 := hO.cell 7
  have f0 := hO.frozen 0
  have f1 := hO.frozen 1
  have f2 := hO.frozen 2
  have f3 := hO.frozen 3
  have f4 := hO.frozen 4
  have f5 := hO.frozen 5
  have f6 := hO.frozen 6
  have f7 := hO.frozen 7
  have l := hO.lt
  have HD := hid (HN'.out.done hle (.int .i64 0) (.int .i64 0) (.int .i64 0) (.int .i64 0) (.int .i64 0) (.int .i64 0) (.int .i64 0) (.int .i64 0))
  clear hO
  go_wp2_with fail
  refine bodyPost_ret (resAns _ _ _ _ _ _ _ _ _ _ _ _ rfl rfl HD.out.2.2.2) rfl ?_
  first
  | exact ⟨_, rfl, HD.out.1, HD.out.2.1, HD.out.2.2.1⟩
  | exact ⟨rfl, _, HD.out.1, HD.out.2.1, HD.out.2.2.1⟩

set_option linter.unusedSimpArgs false in
set_option maxHeartbeats 8000000 in
set_option maxRecDepth 100000 in
theorem ansAddNo2 {B wb : Nat} {W : World} {d : Wd} {vc vt ve : Value} {g n c : Nat} (h : Wk B wb W d vc vt (.slice (some ⟨g, 0, none⟩) n c) ve) (hok : WdOk d) (v : Int) {k : Nat} {t : Th} {l : List (List PAct)} (hl : d.live k = some (t, l)) (hw : t.waits = 2) {a : PAct} (ha : (actsOf t l)[t.act.toNat]? = some a) (hak : a.kind = 3) (had : t.adding = false) (hv : wthn v) (hv2 : ¬ wthn (v + a.val)) :
    Calls Tryz.prog 8 #[.pointer (some ⟨wb, 0, none⟩), .int .i64 (k : Int), .int .i64 v, .bool false] W fun e w' => NextPost B wb W vc vt (.slice (some ⟨g, 0, none⟩) n c) ve ((Ev.zero, false), d) e w' := by
  have hle : B ≤ W.heap.size := by have := h.le; have := h.box.lt; omega
  obtain ⟨_, h1, h2, hne⟩ := live_at hl
  simp only [Int.toNat_natCast] at h1 h2
  have HO := hid (ofLive (h.alloc outO) hok hl)
  have H := hid h
  have HK := hid h1
  have hth := hok.th _ _ _ h1 h2
  have HOKD := hid hok
  have H1 := hid h1
  have H2 := hid h2
  have HNL := hid hne
  clear h hok hl h1 h2 hne
  go_enter Tryz.func8, Tryz.ntmps8
  go_wp2_with fail
  refine HO.out.mono ?_
  rintro e X ⟨rfl, m, hX⟩
  have hN := Nx.start H.out hX
  have HN := hid hN
  obtain ⟨g', c', hv, _, lg, hkl, hnc, hcl, hfz⟩ := hN.wk.thAt HK.out
  injection hv with e1 e2 e3
  injection e1 with e1
  injection e1 with e1
  subst e1 e2 e3
  have y5 : X.cell? ⟨g, k * 6 + 5, none⟩ = some (.int .i64 t.waits) := hcl 5 (by omega)
  have y0 : X.cell? ⟨g, k * 6, none⟩ = some (.int .i64 t.tx) := hcl 0 (by omega)
  have y1 : X.cell? ⟨g, k * 6 + 1, none⟩ = some (.int .i64 t.act) := hcl 1 (by omega)
  have y3 : X.cell? ⟨g, k * 6 + 3, none⟩ = some (.bool t.adding) := hcl 3 (by omega)
  have y4 : X.cell? ⟨g, k * 6 + 4, none⟩ = some (.int .i64 t.read) := hcl 4 (by omega)
  rw [hw] at y5
  obtain ⟨gt, ct, u, rfl, hct, hcu, hru⟩ := hN.wk.txsAt H2.out
  have x1 : X.cell? ⟨wb, 1, none⟩ = some (.slice (some ⟨gt, 0, none⟩) d.p.threads.length ct) := hN.wk.box.cell 1
  have lb := hN.wk.box.lt
  have lt := World.block_lt_of_cell? X _ hcu
  have hkp := (List.getElem?_eq_some_iff.1 H2.out).1
  have hk4 : k ≤ 4 := by have := (pgOk_parts HOKD.out.ok).2.2.2.1; omega
  have hl3 : l.length ≤ 3 := by
    have h9 := (pgOk_parts HOKD.out.ok).2.2.2.2.2 l (List.mem_of_getElem? H2.out)
    exact (thrOk_parts h9).1
  obtain ⟨j, hj⟩ : ∃ j : Nat, t.tx = (j : Int) := ⟨t.tx.toNat, by have := hth.t0; omega⟩
  obtain ⟨q, hq⟩ : ∃ q : Nat, t.act = (q : Int) := ⟨t.act.toNat, by have := hth.a0; omega⟩
  have hjl : j < l.length := by have := hth.t1; have := HNL.out; omega
  obtain ⟨acts, hacts⟩ : ∃ acts, l[j]? = some acts := ⟨l[j], List.getElem?_eq_getElem hjl⟩
  have HAO : Hid (actsOf t l = acts) := hid (by unfold actsOf; rw [hj, Int.toNat_natCast, hacts]; rfl)
  have ha6 : acts.length ≤ 6 := by
    have h9 := (pgOk_parts HOKD.out.ok).2.2.2.2.2 l (List.mem_of_getElem? H2.out)
    exact (txOk_parts ((thrOk_parts h9).2 acts (List.mem_of_getElem? hacts))).2.1
  have hqa : acts[q]? = some a := by
    rw [HAO.out, hq, Int.toNat_natCast] at ha
    exact ha
  have hqlt := (List.getElem?_eq_some_iff.1 hqa).1
  obtain ⟨Au, cu, rfl⟩ := hru.shape
  obtain ⟨bu, ou, ua, rfl, hca, hra, _, hcu3⟩ := hru.at hacts
  obtain ⟨Aa, ca, rfl⟩ := hra.shape
  obtain ⟨ba, oa, rfl, r0, r1, r2, _, hca2⟩ := hra.at hqa
  have lu := World.block_lt_of_cell? X _ hca
  have la := World.block_lt_of_cell? X _ r0
  have HAV : Hid (-1000000 ≤ a.val ∧ a.val ≤ 1000000) := hid (by
    have h9 := (pgOk_parts HOKD.out.ok).2.2.2.2.2 l (List.mem_of_getElem? H2.out)
    have h10 := (txOk_parts ((thrOk_parts h9).2 acts (List.mem_of_getElem? hacts))).2.2
    obtain ⟨lb, hlb⟩ := acts_mem _ _ h10 a (List.mem_of_getElem? hqa)
    exact (act_len (pgOk_parts HOKD.out.ok).2.1 hlb).2.2)
  rw [hak] at r0
  rw [hj] at y0
  rw [hq] at y1
  have HJ := hid hj
  have HQ := hid hq
  have hl0 : (0 : Int) ≤ (k : Int) := by omega
  have hl2 : (k : Int) < (d.p.threads.length : Int) := by omega
  have hl4 : (0 : Int) ≤ (j : Int) := by omega
  have hl5 : (j : Int) < (l.length : Int) := by omega
  have hq0 : (0 : Int) ≤ (q : Int) := by omega
  have hq1 : (q : Int) < (acts.length : Int) := by omega
  have n1 := World.new_ne X _ x1
  have n2 := World.new_ne X _ hcu
  have n3 := World.new_ne X _ y0
  have n4 := World.new_ne X _ hca
  have n5 := World.new_ne X _ r0
  have HCL := hid hcl
  have HFZ := hid hfz
  have HW := hid hw
  have HHA := hid ha
  have HAK := hid hak
  rw [had] at y3
  have HWV := hid (fun w => withinYes v hv w)
  have HWV2 := hid (fun w => withinNo (v + a.val) hv2 w)
  have hwr : IntKind.i64.wrap (v + a.val) = v + a.val := by have := HAV.out; have := hv.1; have := hv.2; simp [IntKind.wrap, IntKind.bits, IntKind.signed]; omega
  clear hv hv2 had
  clear hj hq hacts hru hra hqa hX hN hfz hcl hth hw ha hak
  go_wp2_with fail
  go_region_held3 (fun w' => w'.cell? ⟨wb, 1, none⟩ = some (.slice (some ⟨gt, 0, none⟩) d.p.threads.length ct) ∧ w'.cell? ⟨gt, k, none⟩ = some (.slice (some ⟨bu, ou, none⟩) l.length cu) ∧ w'.cell? ⟨g, k * 6, none⟩ = some (.int .i64 (j : Int)) ∧ w'.cell? ⟨g, k * 6 + 1, none⟩ = some (.int .i64 (q : Int)) ∧ w'.cell? ⟨bu, ou + j, none⟩ = some (.slice (some ⟨ba, oa, none⟩) acts.length ca) ∧ w'.cell? ⟨ba, oa + q * 3, none⟩ = some (.int .i64 3) ∧ w'.cell? ⟨ba, oa + q * 3 + 1, none⟩ = some (.int .i64 a.cell) ∧ w'.cell? ⟨ba, oa + q * 3 + 2, none⟩ = some (.int .i64 a.val))
    (go_keep) (fail)
  have hbY : Below X.heap.size X (X.alloc (.cells #[.int .i64 3, .int .i64 a.cell, .int .i64 a.val] tA)).drew := ((Below.refl X.heap.size X).alloc (Nat.le_refl _) _).drew
  have hA : Blk (X.alloc (.cells #[.int .i64 3, .int .i64 a.cell, .int .i64 a.val] tA)).drew X.heap.size tA #[.int .i64 3, .int .i64 a.cell, .int .i64 a.val] := Blk.drew (Blk.new X tA _)
  generalize (X.alloc (.cells #[.int .i64 3, .int .i64 a.cell, .int .i64 a.val] tA)).drew = Y at hbY hA ⊢
  have z1 := (hbY.cell (p := ⟨g, k * 6 + 1, none⟩) lg).trans y1
  have z3 := (hbY.cell (p := ⟨g, k * 6 + 3, none⟩) lg).trans y3
  have z4 := (hbY.cell (p := ⟨g, k * 6 + 4, none⟩) lg).trans y4
  have z5 := (hbY.cell (p := ⟨g, k * 6 + 5, none⟩) lg).trans y5
  have f1 := (hbY.frozen (p := ⟨g, k * 6 + 1, none⟩) lg).trans (HFZ.out _)
  have f3 := (hbY.frozen (p := ⟨g, k * 6 + 3, none⟩) lg).trans (HFZ.out _)
  have f4 := (hbY.frozen (p := ⟨g, k * 6 + 4, none⟩) lg).trans (HFZ.out _)
  have f5 := (hbY.frozen (p := ⟨g, k * 6 + 5, none⟩) lg).trans (HFZ.out _)
  have zl : g < Y.heap.size := by have := hbY.size; omega
  have a0 := hA.cell 0
  have a2 := hA.cell 2
  have al := hA.lt
  have HN' := hid (HN.out.call hbY)
  clear hbY hA y0 y1 y3 y4 y5 lg hca lu hcu lt x1 lb HN n1 n2 n3 n4 n5 r0 r1 r2 la
  go_wp2_with fail
  refine (HWV.out _).mono ?_
  rintro e Y' ⟨rfl, rfl⟩
  go_wp2_with fail
  refine (HWV2.out _).mono ?_
  rintro e Y' ⟨rfl, rfl⟩
  have hO := HN'.out.out
  simp only [evArr, Ev.zero] at hO
  have o0 := hO.cell 0
  have o1 := hO.cell 1
  have o2 := hO.cell 2
  have o3 := hO.cell 3
  have o4 := hO.cell 4
  have o5 := hO.cell 5
  have o6 := hO.cell 6
  have o7 := hO.cell 7
  have f0 := hO.frozen 0
  have f1 := hO.frozen 1
  have f2 := hO.frozen 2
  have f3 := hO.frozen 3
  have f4 := hO.frozen 4
  have f5 := hO.frozen 5
  have f6 := hO.frozen 6
  have f7 := hO.frozen 7
  have l := hO.lt
  have HD := hid (HN'.out.done hle (.int .i64 0) (.int .i64 0) (.int .i64 0) (.int .i64 0) (.int .i64 0) (.int .i64 0) (.int .i64 0) (.int .i64 0))
  clear hO
  go_wp2_with fail
  refine bodyPost_ret (resAns _ _ _ _ _ _ _ _ _ _ _ _ rfl rfl HD.out.2.2.2) rfl ?_
  first
  | exact ⟨_, rfl, HD.out.1, HD.out.2.1, HD.out.2.2.1⟩
  | exact ⟨rfl, _, HD.out.1, HD.out.2.1, HD.out.2.2.1⟩

set_option linter.unusedSimpArgs false in
set_option maxHeartbeats 8000000 in
set_option maxRecDepth 100000 in
theorem ansAddR {B wb : Nat} {W : World} {d : Wd} {vc vt ve : Value} {g n c : Nat} (h : Wk B wb W d vc vt (.slice (some ⟨g, 0, none⟩) n c) ve) (hok : WdOk d) (v : Int) {k : Nat} {t : Th} {l : List (List PAct)} (hl : d.live k = some (t, l)) (hw : t.waits = 2) (he9 : d.es.length ≤ 100000) {a : PAct} (ha : (actsOf t l)[t.act.toNat]? = some a) (hak : a.kind = 3) (had : t.adding = false) (hv : wthn v) (hv2 : wthn (v + a.val)) :
    Calls Tryz.prog 8 #[.pointer (some ⟨wb, 0, none⟩), .int .i64 (k : Int), .int .i64 v, .bool false] W fun e w' => NextPost B wb W vc vt (.slice (some ⟨g, 0, none⟩) n c) ve (d.answer (k : Int) v false) e w' := by
  have hle : B ≤ W.heap.size := by have := h.le; have := h.box.lt; omega
  obtain ⟨_, h1, h2, hne⟩ := live_at hl
  simp only [Int.toNat_natCast] at h1 h2
  have HO := hid (ofLive (h.alloc outO) hok hl)
  have H := hid h
  have HK := hid h1
  have hth := hok.th _ _ _ h1 h2
  have HOKD := hid hok
  have H1 := hid h1
  have H2 := hid h2
  have HNL := hid hne
  have hans : d.answer (k : Int) v false = d.put k t.tx { t with waits := 0, adding := true, read := v } (evA v 3) := by
    unfold Wd.answer
    rw [hl]
    simp only [hw, Int.toNat_natCast, ha]
    simp [ansTo, Th.reads, hak, hv, hv2, had]
  have HSK : Hid (WdOk ⟨d.p, d.ts.set k { t with waits := 0, adding := true, read := v }, d.es⟩) := hid (by
    have h9 := hok.answer (k : Int) v false
    rw [hans] at h9
    exact ⟨h9.ok, h9.len, h9.th⟩)
  rw [hans]
  clear hans
  clear h hok hl h1 h2 hne
  go_enter Tryz.func8, Tryz.ntmps8
  go_wp2_with fail
  refine HO.out.mono ?_
  rintro e X ⟨rfl, m, hX⟩
  have hN := Nx.start H.out hX
  have HN := hid hN
  obtain ⟨g', c', hv, _, lg, hkl, hnc, hcl, hfz⟩ := hN.wk.thAt HK.out
  injection hv with e1 e2 e3
  injection e1 with e1
  injection e1 with e1
  subst e1 e2 e3
  have y5 : X.cell? ⟨g, k * 6 + 5, none⟩ = some (.int .i64 t.waits) := hcl 5 (by omega)
  have y0 : X.cell? ⟨g, k * 6, none⟩ = some (.int .i64 t.tx) := hcl 0 (by omega)
  have y1 : X.cell? ⟨g, k * 6 + 1, none⟩ = some (.int .i64 t.act) := hcl 1 (by omega)
  have y3 : X.cell? ⟨g, k * 6 + 3, none⟩ = some (.bool t.adding) := hcl 3 (by omega)
  have y4 : X.cell? ⟨g, k * 6 + 4, none⟩ = some (.int .i64 t.read) := hcl 4 (by omega)
  rw [hw] at y5
  obtain ⟨gt, ct, u, rfl, hct, hcu, hru⟩ := hN.wk.txsAt H2.out
  have x1 : X.cell? ⟨wb, 1, none⟩ = some (.slice (some ⟨gt, 0, none⟩) d.p.threads.length ct) := hN.wk.box.cell 1
  have lb := hN.wk.box.lt
  have lt := World.block_lt_of_cell? X _ hcu
  have hkp := (List.getElem?_eq_some_iff.1 H2.out).1
  have hk4 : k ≤ 4 := by have := (pgOk_parts HOKD.out.ok).2.2.2.1; omega
  have hl3 : l.length ≤ 3 := by
    have h9 := (pgOk_parts HOKD.out.ok).2.2.2.2.2 l (List.mem_of_getElem? H2.out)
    exact (thrOk_parts h9).1
  obtain ⟨j, hj⟩ : ∃ j : Nat, t.tx = (j : Int) := ⟨t.tx.toNat, by have := hth.t0; omega⟩
  obtain ⟨q, hq⟩ : ∃ q : Nat, t.act = (q : Int) := ⟨t.act.toNat, by have := hth.a0; omega⟩
  have hjl : j < l.length := by have := hth.t1; have := HNL.out; omega
  obtain ⟨acts, hacts⟩ : ∃ acts, l[j]? = some acts := ⟨l[j], List.getElem?_eq_getElem hjl⟩
  have HAO : Hid (actsOf t l = acts) := hid (by unfold actsOf; rw [hj, Int.toNat_natCast, hacts]; rfl)
  have ha6 : acts.length ≤ 6 := by
    have h9 := (pgOk_parts HOKD.out.ok).2.2.2.2.2 l (List.mem_of_getElem? H2.out)
    exact (txOk_parts ((thrOk_parts h9).2 acts (List.mem_of_getElem? hacts))).2.1
  have hqa : acts[q]? = some a := by
    rw [HAO.out, hq, Int.toNat_natCast] at ha
    exact ha
  have hqlt := (List.getElem?_eq_some_iff.1 hqa).1
  obtain ⟨Au, cu, rfl⟩ := hru.shape
  obtain ⟨bu, ou, ua, rfl, hca, hra, _, hcu3⟩ := hru.at hacts
  obtain ⟨Aa, ca, rfl⟩ := hra.shape
  obtain ⟨ba, oa, rfl, r0, r1, r2, _, hca2⟩ := hra.at hqa
  have lu := World.block_lt_of_cell? X _ hca
  have la := World.block_lt_of_cell? X _ r0
  have HAV : Hid (-1000000 ≤ a.val ∧ a.val ≤ 1000000) := hid (by
    have h9 := (pgOk_parts HOKD.out.ok).2.2.2.2.2 l (List.mem_of_getElem? H2.out)
    have h10 := (txOk_parts ((thrOk_parts h9).2 acts (List.mem_of_getElem? hacts))).2.2
    obtain ⟨lb, hlb⟩ := acts_mem _ _ h10 a (List.mem_of_getElem? hqa)
    exact (act_len (pgOk_parts HOKD.out.ok).2.1 hlb).2.2)
  rw [hak] at r0
  rw [hj] at y0
  rw [hq] at y1
  have HJ := hid hj
  have HQ := hid hq
  have hl0 : (0 : Int) ≤ (k : Int) := by omega
  have hl2 : (k : Int) < (d.p.threads.length : Int) := by omega
  have hl4 : (0 : Int) ≤ (j : Int) := by omega
  have hl5 : (j : Int) < (l.length : Int) := by omega
  have hq0 : (0 : Int) ≤ (q : Int) := by omega
  have hq1 : (q : Int) < (acts.length : Int) := by omega
  have n1 := World.new_ne X _ x1
  have n2 := World.new_ne X _ hcu
  have n3 := World.new_ne X _ y0
  have n4 := World.new_ne X _ hca
  have n5 := World.new_ne X _ r0
  have HCL := hid hcl
  have HFZ := hid hfz
  have HW := hid hw
  have HHA := hid ha
  have HAK := hid hak
  rw [had] at y3
  have HWV := hid (fun w => withinYes v hv w)
  have HWV2 := hid (fun w => withinYes (v + a.val) hv2 w)
  have hwr : IntKind.i64.wrap (v + a.val) = v + a.val := by have := HAV.out; have := hv.1; have := hv.2; simp [IntKind.wrap, IntKind.bits, IntKind.signed]; omega
  clear hv hv2 had
  clear hj hq hacts hru hra hqa hX hN hfz hcl hth hw ha hak
  go_wp2_with fail
  go_region_held3 (fun w' => w'.cell? ⟨wb, 1, none⟩ = some (.slice (some ⟨gt, 0, none⟩) d.p.threads.length ct) ∧ w'.cell? ⟨gt, k, none⟩ = some (.slice (some ⟨bu, ou, none⟩) l.length cu) ∧ w'.cell? ⟨g, k * 6, none⟩ = some (.int .i64 (j : Int)) ∧ w'.cell? ⟨g, k * 6 + 1, none⟩ = some (.int .i64 (q : Int)) ∧ w'.cell? ⟨bu, ou + j, none⟩ = some (.slice (some ⟨ba, oa, none⟩) acts.length ca) ∧ w'.cell? ⟨ba, oa + q * 3, none⟩ = some (.int .i64 3) ∧ w'.cell? ⟨ba, oa + q * 3 + 1, none⟩ = some (.int .i64 a.cell) ∧ w'.cell? ⟨ba, oa + q * 3 + 2, none⟩ = some (.int .i64 a.val))
    (go_keep) (fail)
  have hbY : Below X.heap.size X (X.alloc (.cells #[.int .i64 3, .int .i64 a.cell, .int .i64 a.val] tA)).drew := ((Below.refl X.heap.size X).alloc (Nat.le_refl _) _).drew
  have hA : Blk (X.alloc (.cells #[.int .i64 3, .int .i64 a.cell, .int .i64 a.val] tA)).drew X.heap.size tA #[.int .i64 3, .int .i64 a.cell, .int .i64 a.val] := Blk.drew (Blk.new X tA _)
  generalize (X.alloc (.cells #[.int .i64 3, .int .i64 a.cell, .int .i64 a.val] tA)).drew = Y at hbY hA ⊢
  have z1 := (hbY.cell (p := ⟨g, k * 6 + 1, none⟩) lg).trans y1
  have z3 := (hbY.cell (p := ⟨g, k * 6 + 3, none⟩) lg).trans y3
  have z4 := (hbY.cell (p := ⟨g, k * 6 + 4, none⟩) lg).trans y4
  have z5 := (hbY.cell (p := ⟨g, k * 6 + 5, none⟩) lg).trans y5
  have f1 := (hbY.frozen (p := ⟨g, k * 6 + 1, none⟩) lg).trans (HFZ.out _)
  have f3 := (hbY.frozen (p := ⟨g, k * 6 + 3, none⟩) lg).trans (HFZ.out _)
  have f4 := (hbY.frozen (p := ⟨g, k * 6 + 4, none⟩) lg).trans (HFZ.out _)
  have f5 := (hbY.frozen (p := ⟨g, k * 6 + 5, none⟩) lg).trans (HFZ.out _)
  have zl : g < Y.heap.size := by have := hbY.size; omega
  have a0 := hA.cell 0
  have a2 := hA.cell 2
  have al := hA.lt
  have HN' := hid (HN.out.call hbY)
  clear hbY hA y0 y1 y3 y4 y5 lg hca lu hcu lt x1 lb HN n1 n2 n3 n4 n5 r0 r1 r2 la
  go_wp2_with fail
  refine (HWV.out _).mono ?_
  rintro e Y' ⟨rfl, rfl⟩
  go_wp2_with fail
  refine (HWV2.out _).mono ?_
  rintro e Y' ⟨rfl, rfl⟩
  have hN0 := HN'.out
  have hN1 := hN0.setTh (k := k) (r := 5) (t := t) (t' := { t with waits := 0 }) (v := (.int .i64 0)) H1.out (by omega) (by simp [thArr])
  have hN2 := hN1.setTh (k := k) (r := 3) (t := { t with waits := 0 }) (t' := { t with waits := 0, adding := true }) (v := (.bool true)) (List.getElem?_set_self (by simpa using (List.getElem?_eq_some_iff.1 H1.out).1)) (by omega) (by simp [thArr])
  have hN3 := hN2.setTh (k := k) (r := 4) (t := { t with waits := 0, adding := true }) (t' := { t with waits := 0, adding := true, read := v }) (v := (.int .i64 v)) (List.getElem?_set_self (by simpa using (List.getElem?_eq_some_iff.1 H1.out).1)) (by omega) (by simp [thArr])
  simp only [List.set_set] at hN3
  have HH := hid (happensCall hN3.wk HSK.out (List.getElem?_set_self (List.getElem?_eq_some_iff.1 H1.out).1) he9 (evA v 3))
  have HNZ := hid hN3
  simp only [evArr, evA] at HH
  clear hN0 hN1 hN2 hN3 he9
  go_wp2_with fail
  refine HH.out.mono ?_
  rintro e X2 ⟨ve', rfl, hwk, hon, hvs⟩
  have hN9 := HNZ.out.step hwk hon hvs
  have hO := hN9.out
  simp only [evArr, Ev.zero] at hO
  have o0 := hO.cell 0
  have o1 := hO.cell 1
  have o2 := hO.cell 2
  have o3 := hO.cell 3
  have o4 := hO.cell 4
  have o5 := hO.cell 5
  have o6 := hO.cell 6
  have o7 := hO.cell 7
  have f0 := hO.frozen 0
  have f1 := hO.frozen 1
  have f2 := hO.frozen 2
  have f3 := hO.frozen 3
  have f4 := hO.frozen 4
  have f5 := hO.frozen 5
  have f6 := hO.frozen 6
  have f7 := hO.frozen 7
  have l := hO.lt
  have HD := hid (hN9.done hle (.int .i64 3) (.int .i64 (idOf k t.tx)) (.int .i64 0) (.int .i64 0) (.int .i64 0) (.int .i64 0) (.int .i64 v) (.int .i64 3))
  clear hwk hon hvs hN9 hO HH HNZ
  go_wp2_with fail
  exact bodyPost_ret (resAns _ _ _ _ _ _ _ _ _ _ _ _ rfl rfl HD.out.2.2.2) rfl ⟨_, rfl, HD.out.1, HD.out.2.1, HD.out.2.2.1⟩


set_option linter.unusedSimpArgs false in
set_option maxHeartbeats 8000000 in
set_option maxRecDepth 100000 in
theorem ansWrite {B wb : Nat} {W : World} {d : Wd} {vc vt ve : Value} {g n c : Nat} (h : Wk B wb W d vc vt (.slice (some ⟨g, 0, none⟩) n c) ve) (hok : WdOk d) (v : Int) {k : Nat} {t : Th} {l : List (List PAct)} (hl : d.live k = some (t, l)) (hw : t.waits = 2) (he9 : d.es.length ≤ 100000) {a : PAct} (ha : (actsOf t l)[t.act.toNat]? = some a) (hak : a.kind = 2) :
    Calls Tryz.prog 8 #[.pointer (some ⟨wb, 0, none⟩), .int .i64 (k : Int), .int .i64 v, .bool false] W fun e w' => NextPost B wb W vc vt (.slice (some ⟨g, 0, none⟩) n c) ve (d.answer (k : Int) v false) e w' := by
  have hle : B ≤ W.heap.size := by have := h.le; have := h.box.lt; omega
  obtain ⟨_, h1, h2, hne⟩ := live_at hl
  simp only [Int.toNat_natCast] at h1 h2
  have HO := hid (ofLive (h.alloc outO) hok hl)
  have H := hid h
  have HK := hid h1
  have hth := hok.th _ _ _ h1 h2
  have HOKD := hid hok
  have H1 := hid h1
  have H2 := hid h2
  have HNL := hid hne
  have hans : d.answer (k : Int) v false = d.put k t.tx { t with waits := 0, adding := false, act := t.act + 1 } (evA 0 1) := by
    unfold Wd.answer
    rw [hl]
    simp only [hw, Int.toNat_natCast, ha]
    simp [ansTo, Th.reads, hak]
  have HSK : Hid (WdOk ⟨d.p, d.ts.set k { t with waits := 0, adding := false, act := t.act + 1 }, d.es⟩) := hid (by
    have h9 := hok.answer (k : Int) v false
    rw [hans] at h9
    exact ⟨h9.ok, h9.len, h9.th⟩)
  rw [hans]
  clear hans
  clear h hok hl h1 h2 hne
  go_enter Tryz.func8, Tryz.ntmps8
  go_wp2_with fail
  refine HO.out.mono ?_
  rintro e X ⟨rfl, m, hX⟩
  have hN := Nx.start H.out hX
  have HN := hid hN
  obtain ⟨g', c', hv, _, lg, hkl, hnc, hcl, hfz⟩ := hN.wk.thAt HK.out
  injection hv with e1 e2 e3
  injection e1 with e1
  injection e1 with e1
  subst e1 e2 e3
  have y5 : X.cell? ⟨g, k * 6 + 5, none⟩ = some (.int .i64 t.waits) := hcl 5 (by omega)
  have y0 : X.cell? ⟨g, k * 6, none⟩ = some (.int .i64 t.tx) := hcl 0 (by omega)
  have y1 : X.cell? ⟨g, k * 6 + 1, none⟩ = some (.int .i64 t.act) := hcl 1 (by omega)
  have y3 : X.cell? ⟨g, k * 6 + 3, none⟩ = some (.bool t.adding) := hcl 3 (by omega)
  have y4 : X.cell? ⟨g, k * 6 + 4, none⟩ = some (.int .i64 t.read) := hcl 4 (by omega)
  rw [hw] at y5
  obtain ⟨gt, ct, u, rfl, hct, hcu, hru⟩ := hN.wk.txsAt H2.out
  have x1 : X.cell? ⟨wb, 1, none⟩ = some (.slice (some ⟨gt, 0, none⟩) d.p.threads.length ct) := hN.wk.box.cell 1
  have lb := hN.wk.box.lt
  have lt := World.block_lt_of_cell? X _ hcu
  have hkp := (List.getElem?_eq_some_iff.1 H2.out).1
  have hk4 : k ≤ 4 := by have := (pgOk_parts HOKD.out.ok).2.2.2.1; omega
  have hl3 : l.length ≤ 3 := by
    have h9 := (pgOk_parts HOKD.out.ok).2.2.2.2.2 l (List.mem_of_getElem? H2.out)
    exact (thrOk_parts h9).1
  obtain ⟨j, hj⟩ : ∃ j : Nat, t.tx = (j : Int) := ⟨t.tx.toNat, by have := hth.t0; omega⟩
  obtain ⟨q, hq⟩ : ∃ q : Nat, t.act = (q : Int) := ⟨t.act.toNat, by have := hth.a0; omega⟩
  have hjl : j < l.length := by have := hth.t1; have := HNL.out; omega
  obtain ⟨acts, hacts⟩ : ∃ acts, l[j]? = some acts := ⟨l[j], List.getElem?_eq_getElem hjl⟩
  have HAO : Hid (actsOf t l = acts) := hid (by unfold actsOf; rw [hj, Int.toNat_natCast, hacts]; rfl)
  have ha6 : acts.length ≤ 6 := by
    have h9 := (pgOk_parts HOKD.out.ok).2.2.2.2.2 l (List.mem_of_getElem? H2.out)
    exact (txOk_parts ((thrOk_parts h9).2 acts (List.mem_of_getElem? hacts))).2.1
  have hqa : acts[q]? = some a := by
    rw [HAO.out, hq, Int.toNat_natCast] at ha
    exact ha
  have hqlt := (List.getElem?_eq_some_iff.1 hqa).1
  obtain ⟨Au, cu, rfl⟩ := hru.shape
  obtain ⟨bu, ou, ua, rfl, hca, hra, _, hcu3⟩ := hru.at hacts
  obtain ⟨Aa, ca, rfl⟩ := hra.shape
  obtain ⟨ba, oa, rfl, r0, r1, r2, _, hca2⟩ := hra.at hqa
  have lu := World.block_lt_of_cell? X _ hca
  have la := World.block_lt_of_cell? X _ r0
  have HAV : Hid (-1000000 ≤ a.val ∧ a.val ≤ 1000000) := hid (by
    have h9 := (pgOk_parts HOKD.out.ok).2.2.2.2.2 l (List.mem_of_getElem? H2.out)
    have h10 := (txOk_parts ((thrOk_parts h9).2 acts (List.mem_of_getElem? hacts))).2.2
    obtain ⟨lb, hlb⟩ := acts_mem _ _ h10 a (List.mem_of_getElem? hqa)
    exact (act_len (pgOk_parts HOKD.out.ok).2.1 hlb).2.2)
  rw [hak] at r0
  rw [hj] at y0
  rw [hq] at y1
  have HJ := hid hj
  have HQ := hid hq
  have hl0 : (0 : Int) ≤ (k : Int) := by omega
  have hl2 : (k : Int) < (d.p.threads.length : Int) := by omega
  have hl4 : (0 : Int) ≤ (j : Int) := by omega
  have hl5 : (j : Int) < (l.length : Int) := by omega
  have hq0 : (0 : Int) ≤ (q : Int) := by omega
  have hq1 : (q : Int) < (acts.length : Int) := by omega
  have n1 := World.new_ne X _ x1
  have n2 := World.new_ne X _ hcu
  have n3 := World.new_ne X _ y0
  have n4 := World.new_ne X _ hca
  have n5 := World.new_ne X _ r0
  have HCL := hid hcl
  have HFZ := hid hfz
  have HW := hid hw
  have HHA := hid ha
  have HAK := hid hak
  clear hj hq hacts hru hra hqa hX hN hfz hcl hth hw ha hak
  go_wp2_with fail
  go_region_held3 (fun w' => w'.cell? ⟨wb, 1, none⟩ = some (.slice (some ⟨gt, 0, none⟩) d.p.threads.length ct) ∧ w'.cell? ⟨gt, k, none⟩ = some (.slice (some ⟨bu, ou, none⟩) l.length cu) ∧ w'.cell? ⟨g, k * 6, none⟩ = some (.int .i64 (j : Int)) ∧ w'.cell? ⟨g, k * 6 + 1, none⟩ = some (.int .i64 (q : Int)) ∧ w'.cell? ⟨bu, ou + j, none⟩ = some (.slice (some ⟨ba, oa, none⟩) acts.length ca) ∧ w'.cell? ⟨ba, oa + q * 3, none⟩ = some (.int .i64 2) ∧ w'.cell? ⟨ba, oa + q * 3 + 1, none⟩ = some (.int .i64 a.cell) ∧ w'.cell? ⟨ba, oa + q * 3 + 2, none⟩ = some (.int .i64 a.val))
    (go_keep) (fail)
  have hbY : Below X.heap.size X (X.alloc (.cells #[.int .i64 2, .int .i64 a.cell, .int .i64 a.val] tA)).drew := ((Below.refl X.heap.size X).alloc (Nat.le_refl _) _).drew
  have hA : Blk (X.alloc (.cells #[.int .i64 2, .int .i64 a.cell, .int .i64 a.val] tA)).drew X.heap.size tA #[.int .i64 2, .int .i64 a.cell, .int .i64 a.val] := Blk.drew (Blk.new X tA _)
  generalize (X.alloc (.cells #[.int .i64 2, .int .i64 a.cell, .int .i64 a.val] tA)).drew = Y at hbY hA ⊢
  have z1 := (hbY.cell (p := ⟨g, k * 6 + 1, none⟩) lg).trans y1
  have z3 := (hbY.cell (p := ⟨g, k * 6 + 3, none⟩) lg).trans y3
  have z4 := (hbY.cell (p := ⟨g, k * 6 + 4, none⟩) lg).trans y4
  have z5 := (hbY.cell (p := ⟨g, k * 6 + 5, none⟩) lg).trans y5
  have f1 := (hbY.frozen (p := ⟨g, k * 6 + 1, none⟩) lg).trans (HFZ.out _)
  have f3 := (hbY.frozen (p := ⟨g, k * 6 + 3, none⟩) lg).trans (HFZ.out _)
  have f4 := (hbY.frozen (p := ⟨g, k * 6 + 4, none⟩) lg).trans (HFZ.out _)
  have f5 := (hbY.frozen (p := ⟨g, k * 6 + 5, none⟩) lg).trans (HFZ.out _)
  have zl : g < Y.heap.size := by have := hbY.size; omega
  have a0 := hA.cell 0
  have a2 := hA.cell 2
  have al := hA.lt
  have HN' := hid (HN.out.call hbY)
  clear hbY hA y0 y1 y3 y4 y5 lg hca lu hcu lt x1 lb HN n1 n2 n3 n4 n5 r0 r1 r2 la
  have hN0 := HN'.out
  have hN1 := hN0.setTh (k := k) (r := 5) (t := t) (t' := { t with waits := 0 }) (v := (.int .i64 0)) H1.out (by omega) (by simp [thArr])
  have hN2 := hN1.setTh (k := k) (r := 3) (t := { t with waits := 0 }) (t' := { t with waits := 0, adding := false }) (v := (.bool false)) (List.getElem?_set_self (by simpa using (List.getElem?_eq_some_iff.1 H1.out).1)) (by omega) (by simp [thArr])
  have hN3 := hN2.setTh (k := k) (r := 1) (t := { t with waits := 0, adding := false }) (t' := { t with waits := 0, adding := false, act := t.act + 1 }) (v := (.int .i64 ((q : Int) + 1))) (List.getElem?_set_self (by simpa using (List.getElem?_eq_some_iff.1 H1.out).1)) (by omega) (by simp [thArr, HQ.out])
  simp only [List.set_set] at hN3
  have HH := hid (happensCall hN3.wk HSK.out (List.getElem?_set_self (List.getElem?_eq_some_iff.1 H1.out).1) he9 (evA 0 1))
  have HNZ := hid hN3
  simp only [evArr, evA] at HH
  clear hN0 hN1 hN2 hN3 he9
  go_wp2_with fail
  refine HH.out.mono ?_
  rintro e X2 ⟨ve', rfl, hwk, hon, hvs⟩
  have hN9 := HNZ.out.step hwk hon hvs
  have hO := hN9.out
  simp only [evArr, Ev.zero] at hO
  have o0 := hO.cell 0
  have o1 := hO.cell 1
  have o2 := hO.cell 2
  have o3 := hO.cell 3
  have o4 := hO.cell 4
  have o5 := hO.cell 5
  have o6 := hO.cell 6
  have o7 := hO.cell 7
  have f0 := hO.frozen 0
  have f1 := hO.frozen 1
  have f2 := hO.frozen 2
  have f3 := hO.frozen 3
  have f4 := hO.frozen 4
  have f5 := hO.frozen 5
  have f6 := hO.frozen 6
  have f7 := hO.frozen 7
  have l := hO.lt
  have HD := hid (hN9.done hle (.int .i64 3) (.int .i64 (idOf k t.tx)) (.int .i64 0) (.int .i64 0) (.int .i64 0) (.int .i64 0) (.int .i64 0) (.int .i64 1))
  clear hwk hon hvs hN9 hO HH HNZ
  go_wp2_with fail
  exact bodyPost_ret (resAns _ _ _ _ _ _ _ _ _ _ _ _ rfl rfl HD.out.2.2.2) rfl ⟨_, rfl, HD.out.1, HD.out.2.1, HD.out.2.2.1⟩


set_option linter.unusedSimpArgs false in
set_option maxHeartbeats 8000000 in
set_option maxRecDepth 100000 in
theorem ansAddW {B wb : Nat} {W : World} {d : Wd} {vc vt ve : Value} {g n c : Nat} (h : Wk B wb W d vc vt (.slice (some ⟨g, 0, none⟩) n c) ve) (hok : WdOk d) (v : Int) {k : Nat} {t : Th} {l : List (List PAct)} (hl : d.live k = some (t, l)) (hw : t.waits = 2) (he9 : d.es.length ≤ 100000) {a : PAct} (ha : (actsOf t l)[t.act.toNat]? = some a) (hak : a.kind = 3) (had : t.adding = true) :
    Calls Tryz.prog 8 #[.pointer (some ⟨wb, 0, none⟩), .int .i64 (k : Int), .int .i64 v, .bool false] W fun e w' => NextPost B wb W vc vt (.slice (some ⟨g, 0, none⟩) n c) ve (d.answer (k : Int) v false) e w' := by
  have hle : B ≤ W.heap.size := by have := h.le; have := h.box.lt; omega
  obtain ⟨_, h1, h2, hne⟩ := live_at hl
  simp only [Int.toNat_natCast] at h1 h2
  have HO := hid (ofLive (h.alloc outO) hok hl)
  have H := hid h
  have HK := hid h1
  have hth := hok.th _ _ _ h1 h2
  have HOKD := hid hok
  have H1 := hid h1
  have H2 := hid h2
  have HNL := hid hne
  have hans : d.answer (k : Int) v false = d.put k t.tx { t with waits := 0, adding := false, act := t.act + 1 } (evA 0 1) := by
    unfold Wd.answer
    rw [hl]
    simp only [hw, Int.toNat_natCast, ha]
    simp [ansTo, Th.reads, hak, had]
  have HSK : Hid (WdOk ⟨d.p, d.ts.set k { t with waits := 0, adding := false, act := t.act + 1 }, d.es⟩) := hid (by
    have h9 := hok.answer (k : Int) v false
    rw [hans] at h9
    exact ⟨h9.ok, h9.len, h9.th⟩)
  rw [hans]
  clear hans
  clear h hok hl h1 h2 hne
  go_enter Tryz.func8, Tryz.ntmps8
  go_wp2_with fail
  refine HO.out.mono ?_
  rintro e X ⟨rfl, m, hX⟩
  have hN := Nx.start H.out hX
  have HN := hid hN
  obtain ⟨g', c', hv, _, lg, hkl, hnc, hcl, hfz⟩ := hN.wk.thAt HK.out
  injection hv with e1 e2 e3
  injection e1 with e1
  injection e1 with e1
  subst e1 e2 e3
  have y5 : X.cell? ⟨g, k * 6 + 5, none⟩ = some (.int .i64 t.waits) := hcl 5 (by omega)
  have y0 : X.cell? ⟨g, k * 6, none⟩ = some (.int .i64 t.tx) := hcl 0 (by omega)
  have y1 : X.cell? ⟨g, k * 6 + 1, none⟩ = some (.int .i64 t.act) := hcl 1 (by omega)
  have y3 : X.cell? ⟨g, k * 6 + 3, none⟩ = some (.bool t.adding) := hcl 3 (by omega)
  have y4 : X.cell? ⟨g, k * 6 + 4, none⟩ = some (.int .i64 t.read) := hcl 4 (by omega)
  rw [hw] at y5
  obtain ⟨gt, ct, u, rfl, hct, hcu, hru⟩ := hN.wk.txsAt H2.out
  have x1 : X.cell? ⟨wb, 1, none⟩ = some (.slice (some ⟨gt, 0, none⟩) d.p.threads.length ct) := hN.wk.box.cell 1
  have lb := hN.wk.box.lt
  have lt := World.block_lt_of_cell? X _ hcu
  have hkp := (List.getElem?_eq_some_iff.1 H2.out).1
  have hk4 : k ≤ 4 := by have := (pgOk_parts HOKD.out.ok).2.2.2.1; omega
  have hl3 : l.length ≤ 3 := by
    have h9 := (pgOk_parts HOKD.out.ok).2.2.2.2.2 l (List.mem_of_getElem? H2.out)
    exact (thrOk_parts h9).1
  obtain ⟨j, hj⟩ : ∃ j : Nat, t.tx = (j : Int) := ⟨t.tx.toNat, by have := hth.t0; omega⟩
  obtain ⟨q, hq⟩ : ∃ q : Nat, t.act = (q : Int) := ⟨t.act.toNat, by have := hth.a0; omega⟩
  have hjl : j < l.length := by have := hth.t1; have := HNL.out; omega
  obtain ⟨acts, hacts⟩ : ∃ acts, l[j]? = some acts := ⟨l[j], List.getElem?_eq_getElem hjl⟩
  have HAO : Hid (actsOf t l = acts) := hid (by unfold actsOf; rw [hj, Int.toNat_natCast, hacts]; rfl)
  have ha6 : acts.length ≤ 6 := by
    have h9 := (pgOk_parts HOKD.out.ok).2.2.2.2.2 l (List.mem_of_getElem? H2.out)
    exact (txOk_parts ((thrOk_parts h9).2 acts (List.mem_of_getElem? hacts))).2.1
  have hqa : acts[q]? = some a := by
    rw [HAO.out, hq, Int.toNat_natCast] at ha
    exact ha
  have hqlt := (List.getElem?_eq_some_iff.1 hqa).1
  obtain ⟨Au, cu, rfl⟩ := hru.shape
  obtain ⟨bu, ou, ua, rfl, hca, hra, _, hcu3⟩ := hru.at hacts
  obtain ⟨Aa, ca, rfl⟩ := hra.shape
  obtain ⟨ba, oa, rfl, r0, r1, r2, _, hca2⟩ := hra.at hqa
  have lu := World.block_lt_of_cell? X _ hca
  have la := World.block_lt_of_cell? X _ r0
  have HAV : Hid (-1000000 ≤ a.val ∧ a.val ≤ 1000000) := hid (by
    have h9 := (pgOk_parts HOKD.out.ok).2.2.2.2.2 l (List.mem_of_getElem? H2.out)
    have h10 := (txOk_parts ((thrOk_parts h9).2 acts (List.mem_of_getElem? hacts))).2.2
    obtain ⟨lb, hlb⟩ := acts_mem _ _ h10 a (List.mem_of_getElem? hqa)
    exact (act_len (pgOk_parts HOKD.out.ok).2.1 hlb).2.2)
  rw [hak] at r0
  rw [hj] at y0
  rw [hq] at y1
  have HJ := hid hj
  have HQ := hid hq
  have hl0 : (0 : Int) ≤ (k : Int) := by omega
  have hl2 : (k : Int) < (d.p.threads.length : Int) := by omega
  have hl4 : (0 : Int) ≤ (j : Int) := by omega
  have hl5 : (j : Int) < (l.length : Int) := by omega
  have hq0 : (0 : Int) ≤ (q : Int) := by omega
  have hq1 : (q : Int) < (acts.length : Int) := by omega
  have n1 := World.new_ne X _ x1
  have n2 := World.new_ne X _ hcu
  have n3 := World.new_ne X _ y0
  have n4 := World.new_ne X _ hca
  have n5 := World.new_ne X _ r0
  have HCL := hid hcl
  have HFZ := hid hfz
  have HW := hid hw
  have HHA := hid ha
  have HAK := hid hak
  rw [had] at y3
  clear hj hq hacts hru hra hqa hX hN hfz hcl hth hw ha hak
  go_wp2_with fail
  go_region_held3 (fun w' => w'.cell? ⟨wb, 1, none⟩ = some (.slice (some ⟨gt, 0, none⟩) d.p.threads.length ct) ∧ w'.cell? ⟨gt, k, none⟩ = some (.slice (some ⟨bu, ou, none⟩) l.length cu) ∧ w'.cell? ⟨g, k * 6, none⟩ = some (.int .i64 (j : Int)) ∧ w'.cell? ⟨g, k * 6 + 1, none⟩ = some (.int .i64 (q : Int)) ∧ w'.cell? ⟨bu, ou + j, none⟩ = some (.slice (some ⟨ba, oa, none⟩) acts.length ca) ∧ w'.cell? ⟨ba, oa + q * 3, none⟩ = some (.int .i64 3) ∧ w'.cell? ⟨ba, oa + q * 3 + 1, none⟩ = some (.int .i64 a.cell) ∧ w'.cell? ⟨ba, oa + q * 3 + 2, none⟩ = some (.int .i64 a.val))
    (go_keep) (fail)
  have hbY : Below X.heap.size X (X.alloc (.cells #[.int .i64 3, .int .i64 a.cell, .int .i64 a.val] tA)).drew := ((Below.refl X.heap.size X).alloc (Nat.le_refl _) _).drew
  have hA : Blk (X.alloc (.cells #[.int .i64 3, .int .i64 a.cell, .int .i64 a.val] tA)).drew X.heap.size tA #[.int .i64 3, .int .i64 a.cell, .int .i64 a.val] := Blk.drew (Blk.new X tA _)
  generalize (X.alloc (.cells #[.int .i64 3, .int .i64 a.cell, .int .i64 a.val] tA)).drew = Y at hbY hA ⊢
  have z1 := (hbY.cell (p := ⟨g, k * 6 + 1, none⟩) lg).trans y1
  have z3 := (hbY.cell (p := ⟨g, k * 6 + 3, none⟩) lg).trans y3
  have z4 := (hbY.cell (p := ⟨g, k * 6 + 4, none⟩) lg).trans y4
  have z5 := (hbY.cell (p := ⟨g, k * 6 + 5, none⟩) lg).trans y5
  have f1 := (hbY.frozen (p := ⟨g, k * 6 + 1, none⟩) lg).trans (HFZ.out _)
  have f3 := (hbY.frozen (p := ⟨g, k * 6 + 3, none⟩) lg).trans (HFZ.out _)
  have f4 := (hbY.frozen (p := ⟨g, k * 6 + 4, none⟩) lg).trans (HFZ.out _)
  have f5 := (hbY.frozen (p := ⟨g, k * 6 + 5, none⟩) lg).trans (HFZ.out _)
  have zl : g < Y.heap.size := by have := hbY.size; omega
  have a0 := hA.cell 0
  have a2 := hA.cell 2
  have al := hA.lt
  have HN' := hid (HN.out.call hbY)
  clear hbY hA y0 y1 y3 y4 y5 lg hca lu hcu lt x1 lb HN n1 n2 n3 n4 n5 r0 r1 r2 la
  have hN0 := HN'.out
  have hN1 := hN0.setTh (k := k) (r := 5) (t := t) (t' := { t with waits := 0 }) (v := (.int .i64 0)) H1.out (by omega) (by simp [thArr])
  have hN2 := hN1.setTh (k := k) (r := 3) (t := { t with waits := 0 }) (t' := { t with waits := 0, adding := false }) (v := (.bool false)) (List.getElem?_set_self (by simpa using (List.getElem?_eq_some_iff.1 H1.out).1)) (by omega) (by simp [thArr])
  have hN3 := hN2.setTh (k := k) (r := 1) (t := { t with waits := 0, adding := false }) (t' := { t with waits := 0, adding := false, act := t.act + 1 }) (v := (.int .i64 ((q : Int) + 1))) (List.getElem?_set_self (by simpa using (List.getElem?_eq_some_iff.1 H1.out).1)) (by omega) (by simp [thArr, HQ.out])
  simp only [List.set_set] at hN3
  have HH := hid (happensCall hN3.wk HSK.out (List.getElem?_set_self (List.getElem?_eq_some_iff.1 H1.out).1) he9 (evA 0 1))
  have HNZ := hid hN3
  simp only [evArr, evA] at HH
  clear hN0 hN1 hN2 hN3 he9
  go_wp2_with fail
  refine HH.out.mono ?_
  rintro e X2 ⟨ve', rfl, hwk, hon, hvs⟩
  have hN9 := HNZ.out.step hwk hon hvs
  have hO := hN9.out
  simp only [evArr, Ev.zero] at hO
  have o0 := hO.cell 0
  have o1 := hO.cell 1
  have o2 := hO.cell 2
  have o3 := hO.cell 3
  have o4 := hO.cell 4
  have o5 := hO.cell 5
  have o6 := hO.cell 6
  have o7 := hO.cell 7
  have f0 := hO.frozen 0
  have f1 := hO.frozen 1
  have f2 := hO.frozen 2
  have f3 := hO.frozen 3
  have f4 := hO.frozen 4
  have f5 := hO.frozen 5
  have f6 := hO.frozen 6
  have f7 := hO.frozen 7
  have l := hO.lt
  have HD := hid (hN9.done hle (.int .i64 3) (.int .i64 (idOf k t.tx)) (.int .i64 0) (.int .i64 0) (.int .i64 0) (.int .i64 0) (.int .i64 0) (.int .i64 1))
  clear hwk hon hvs hN9 hO HH HNZ
  go_wp2_with fail
  exact bodyPost_ret (resAns _ _ _ _ _ _ _ _ _ _ _ _ rfl rfl HD.out.2.2.2) rfl ⟨_, rfl, HD.out.1, HD.out.2.1, HD.out.2.2.1⟩


theorem answerCall {B wb : Nat} {W : World} {d : Wd} {vc vt ve : Value} {g n c : Nat} (h : Wk B wb W d vc vt (.slice (some ⟨g, 0, none⟩) n c) ve) (hok : WdOk d) (he9 : d.es.length ≤ 100000) (i v : Int) (b : Bool) :
    Calls Tryz.prog 8 #[.pointer (some ⟨wb, 0, none⟩), .int .i64 i, .int .i64 v, .bool b] W fun e w' => NextPost B wb W vc vt (.slice (some ⟨g, 0, none⟩) n c) ve (d.answer i v b) e w' := by
  cases hl : d.live i with
  | none =>
    have e : d.answer i v b = ((Ev.zero, false), d) := by unfold Wd.answer; rw [hl]
    rw [e]; exact ansDead h hok v hl b
  | some tl =>
    obtain ⟨t, l⟩ := tl
    obtain ⟨hi, h1, h2, hne⟩ := live_at hl
    obtain ⟨k, rfl⟩ : ∃ k : Nat, i = (k : Int) := ⟨i.toNat, by omega⟩
    simp only [Int.toNat_natCast] at h1 h2
    have ht := hok.th _ _ _ h1 h2
    by_cases hw : t.waits = 0
    · have e : d.answer (k : Int) v b = ((Ev.zero, false), d) := by unfold Wd.answer; rw [hl]; simp [hw]
      rw [e]; exact ansIdle h hok v hl hw b
    · cases b with
      | true =>
        have e : d.answer (k : Int) v true = d.ends k t 6 := by unfold Wd.answer; rw [hl]; simp [hw]
        rw [e]; exact ansAbort h hok v hl hw he9
      | false =>
        rcases ht.w with hw2 | hw2 | hw2 | hw2
        · exact absurd hw2 hw
        · obtain ⟨a, ha, h4⟩ := ht.a2 hw2
          have hk : a.kind = 1 ∨ a.kind = 2 ∨ a.kind = 3 := by
            have hth := (pgOk_parts hok.ok).2.2.2.2.2 l (List.mem_of_getElem? h2)
            have hlt : t.tx.toNat < l.length := by have := ht.t0; have := ht.t1; omega
            have hacts : l[t.tx.toNat]? = some (actsOf t l) := by unfold actsOf; rw [List.getElem?_eq_getElem hlt]; rfl
            obtain ⟨_, _, hao⟩ := txOk_parts ((thrOk_parts hth).2 _ (List.mem_of_getElem? hacts))
            obtain ⟨lb, hlb⟩ := acts_mem _ _ hao a (List.mem_of_getElem? ha)
            have := actOk_kind hlb
            omega
          have e0 : d.answer (k : Int) v false = ansTo d k t a v := by unfold Wd.answer; rw [hl]; simp [hw2, ha]
          rcases hk with hk | hk | hk
          · by_cases hv : wthn v
            · exact ansRead h hok v hl hw2 he9 ha hk hv
            · have e : d.answer (k : Int) v false = ((Ev.zero, false), d) := by rw [e0]; unfold ansTo; simp [Th.reads, hk, hv]
              rw [e]; exact ansReadNo h hok v hl hw2 ha hk hv
          · exact ansWrite h hok v hl hw2 he9 ha hk
          · by_cases had : t.adding = true
            · exact ansAddW h hok v hl hw2 he9 ha hk had
            · have had : t.adding = false := by simpa using had
              by_cases hv : wthn v
              · by_cases hv2 : wthn (v + a.val)
                · exact ansAddR h hok v hl hw2 he9 ha hk had hv hv2
                · have e : d.answer (k : Int) v false = ((Ev.zero, false), d) := by rw [e0]; unfold ansTo; simp [Th.reads, hk, had, hv2]
                  rw [e]; exact ansAddNo2 h hok v hl hw2 ha hk had hv hv2
              · have e : d.answer (k : Int) v false = ((Ev.zero, false), d) := by rw [e0]; unfold ansTo; simp [Th.reads, hk, had, hv]
                rw [e]; exact ansAddNo h hok v hl hw2 ha hk had hv
        · have e : d.answer (k : Int) v false = d.ends k t 5 := by unfold Wd.answer; rw [hl]; simp [hw2]
          rw [e]; exact ansCommit h hok v hl hw2 he9
        · have e : d.answer (k : Int) v false = ((Ev.zero, false), d) := by unfold Wd.answer; rw [hl]; simp [hw2]
          rw [e]; exact ansSeven h hok v hl hw2
end Go.Proofs.YtgfmlaflochffaaGreatDoor
