/-
  prog.Walk: Next: the acts.
-/
import Derived.Test.YtgfmlaflochffaaGreatDoorWkNextZ
import Derived.Deep.QuietTactic
import Derived.BigQuiet
import Derived.Deep.RegionHeld3
import Derived.Outline
namespace Go.Proofs.YtgfmlaflochffaaGreatDoor
open Go.RowKit Go.Maps W
attribute [local go_sem ↓] Go.wp_at_zero Go.wp_at_succ

theorem Nx.drewN {B wb : Nat} {W X : World} {d : Wd} {vc vt vh ve0 ve : Value} (h : Nx B wb W X d vc vt vh ve0 ve) (m : Nat) : Nx B wb W (X.drewN m) d vc vt vh ve0 ve := ⟨h.wk.drewN m, h.out.drewN m, h.only.drewN m, h.vs, h.ap⟩
theorem Nx.alloc {B wb : Nat} {W X : World} {d : Wd} {vc vt vh ve0 ve : Value} (h : Nx B wb W X d vc vt vh ve0 ve) (o : Obj) : Nx B wb W (X.alloc o) d vc vt vh ve0 ve := h.call ((Below.refl _ _).alloc (Nat.le_refl _) o)
theorem set_ok {d : Wd} (hok : WdOk d) {k : Nat} {t : Th} {l : List (List PAct)} (h1 : d.ts[k]? = some t) (h2 : d.p.threads[k]? = some l) (hb : t.begun = true) {w : Int} (hw : w = 4 ∨ w = 7 ∨ (w = 2 ∧ ∃ a, (actsOf t l)[t.act.toNat]? = some a ∧ a.kind ≠ 4)) : WdOk ⟨d.p, d.ts.set k { t with waits := w }, d.es⟩ := hok.set fun l' hl' => by
  rw [h2] at hl'
  injection hl' with hl'
  subst hl'
  have ht := hok.th _ _ _ h1 h2
  refine ⟨ht.t0, ht.t1, ht.a0, ?_, fun _ => hb, ht.r, ht.a1, fun e => ?_, ht.a3⟩
  · simp only; omega
  · rcases hw with h | h | h
    · simp only at e; omega
    · simp only at e; omega
    · exact h.2
set_option maxHeartbeats 8000000 in
set_option maxRecDepth 100000 in
theorem nextTry {B wb : Nat} {W : World} {d : Wd} {vc vt ve : Value} {g n c : Nat} (h : Wk B wb W d vc vt (.slice (some ⟨g, 0, none⟩) n c) ve) (hok : WdOk d) {k : Nat} {t : Th} {l : List (List PAct)} (hl : d.live k = some (t, l)) (hw : t.waits = 0) (hb : t.begun = true) (he9 : d.es.length ≤ 100000) (ha : (actsOf t l)[t.act.toNat]? = none) :
    Calls Tryz.prog 7 #[.pointer (some ⟨wb, 0, none⟩), .int .i64 (k : Int)] W fun e w' => NextPost B wb W vc vt (.slice (some ⟨g, 0, none⟩) n c) ve (d.put k t.tx { t with waits := 4 } (evK 4)) e w' := by
  have hle : B ≤ W.heap.size := by have := h.le; have := h.box.lt; omega
  obtain ⟨_, h1, h2, hne⟩ := live_at hl
  simp only [Int.toNat_natCast] at h1 h2
  have HO := hid (ofLive (h.alloc outO) hok hl)
  have H := hid h
  have HK := hid h1
  have hw1 : (t.waits != 0) = false := by simpa using hw
  have hth := hok.th _ _ _ h1 h2
  have HTX := hid (h.txsAt h2)
  have HOKD := hid hok
  have H1 := hid h1
  have H2 := hid h2
  have HNL := hid hne
  clear hw
  clear h hok hl h1 h2 hne
  go_enter Tryz.func7, Tryz.ntmps7
  go_wp2_with fail
  refine HO.out.mono ?_
  rintro e X ⟨rfl, m, hX⟩
  have hN := Nx.start H.out hX
  have HN := hid hN
  obtain ⟨g', c', hv, _, lg, hkl, hnc, hcl, hfz⟩ := hN.wk.thAt HK.out
  injection hv with e1 e2 e3
  injection e1 with e1
  injection e1 with e1
  subst e1 e2 e3
  have y5 : X.cell? ⟨g, k * 6 + 5, none⟩ = some (.int .i64 t.waits) := hcl 5 (by omega)
  have y2 : X.cell? ⟨g, k * 6 + 2, none⟩ = some (.bool t.begun) := hcl 2 (by omega)
  have y0 : X.cell? ⟨g, k * 6, none⟩ = some (.int .i64 t.tx) := hcl 0 (by omega)
  have y1 : X.cell? ⟨g, k * 6 + 1, none⟩ = some (.int .i64 t.act) := hcl 1 (by omega)
  rw [hb] at y2
  have f5 := hfz (k * 6 + 5)
  obtain ⟨gt, ct, u, rfl, hct, hcu, hru⟩ := hN.wk.txsAt H2.out
  have x1 := hN.wk.box.cell 1
  have lb := hN.wk.box.lt
  have lt := World.block_lt_of_cell? X _ hcu
  have hkp := (List.getElem?_eq_some_iff.1 H2.out).1
  have hk4 : k ≤ 4 := by have := (pgOk_parts HOKD.out.ok).2.2.2.1; omega
  have hl3 : l.length ≤ 3 := by
    have h9 := (pgOk_parts HOKD.out.ok).2.2.2.2.2 l (List.mem_of_getElem? H2.out)
    exact (thrOk_parts h9).1
  obtain ⟨j, hj⟩ : ∃ j : Nat, t.tx = (j : Int) := ⟨t.tx.toNat, by have := hth.t0; omega⟩
  obtain ⟨q, hq⟩ : ∃ q : Nat, t.act = (q : Int) := ⟨t.act.toNat, by have := hth.a0; omega⟩
  have hjl : j < l.length := by have := hth.t1; have := HNL.out; omega
  obtain ⟨acts, hacts⟩ : ∃ acts, l[j]? = some acts := ⟨l[j], List.getElem?_eq_getElem hjl⟩
  have HAO : Hid (actsOf t l = acts) := hid (by unfold actsOf; rw [hj, Int.toNat_natCast, hacts]; rfl)
  have ha6 : acts.length ≤ 6 := by
    have h9 := (pgOk_parts HOKD.out.ok).2.2.2.2.2 l (List.mem_of_getElem? H2.out)
    exact (txOk_parts ((thrOk_parts h9).2 acts (List.mem_of_getElem? hacts))).2.1
  have hql : q ≤ acts.length := by have := hth.a1; rw [HAO.out] at this; omega
  obtain ⟨Au, cu, rfl⟩ := hru.shape
  obtain ⟨bu, ou, ua, rfl, hca, hra, _, hcu3⟩ := hru.at hacts
  obtain ⟨Aa, ca, rfl⟩ := hra.shape
  have lu := World.block_lt_of_cell? X _ hca
  rw [hj] at y0
  rw [hq] at y1
  have HJ := hid hj
  have HQ := hid hq
  have hl0 : (0 : Int) ≤ (k : Int) := by omega
  have hl2 : (k : Int) < (d.p.threads.length : Int) := by omega
  have hl4 : (0 : Int) ≤ (j : Int) := by omega
  have hl5 : (j : Int) < (l.length : Int) := by omega
  have hqe : q = acts.length := by
    rw [HAO.out, hq, Int.toNat_natCast] at ha
    have := List.getElem?_eq_none_iff.1 ha
    omega
  subst hqe
  clear ha
  have HCL := hid hcl
  have HB := hid hb
  clear hb hj hq hacts hru hX hN hfz hcl hth
  go_wp2_with fail
  go_quiet (fail)
  have HN' := hid (HN.out.drewN nq)
  have z1 : (X.drewN nq).cell? ⟨g, k * 6 + 1, none⟩ = some (.int .i64 (acts.length : Int)) := y1
  have z5 : (X.drewN nq).cell? ⟨g, k * 6 + 5, none⟩ = some (.int .i64 t.waits) := y5
  have zf : (X.drewN nq).frozen? ⟨g, k * 6 + 5, none⟩ = false := f5
  have zl : g < (X.drewN nq).heap.size := lg
  have ZAD : Hid ((X.drewN nq).cell? ⟨g, k * 6 + 3, none⟩ = some (.bool t.adding) ∧ (X.drewN nq).cell? ⟨g, k * 6 + 4, none⟩ = some (.int .i64 t.read)) := hid ⟨HCL.out 3 (by omega), HCL.out 4 (by omega)⟩
  have HRA : Hid (ReadsA (X.drewN nq) (.slice Aa acts.length ca) acts) := hid (by
    obtain ⟨A', c', b', o', r1, r2, r3, r4, r5⟩ := hra
    exact ⟨A', c', b', o', r1, r2, r3, r4, r5⟩)
  clear y0 y1 y2 y5 f5 lg hca lu hcu lt x1 lb hra HN
  generalize X.drewN nq = Y at HN' z1 z5 zf zl ZAD HRA ⊢
  all_goals (
    have hN1 := ((HN'.out.setTh (t' := { t with waits := 4 }) H1.out (by omega : 5 < 6) rfl).alloc (.cells (evArr (evK 4)) tEv))
    have HH := hid (happensCall hN1.wk (set_ok HOKD.out H1.out H2.out HB.out (.inl rfl)) (List.getElem?_set_self (List.getElem?_eq_some_iff.1 H1.out).1) he9 (evK 4))
    have HN1 := hid hN1
    simp only [evArr, evK] at HH
    clear hN1 he9
    go_wp2_with fail
    refine HH.out.mono ?_
    rintro e X2 ⟨ve', rfl, hwk, hon, hvs⟩
    have hN2 := HN1.out.step hwk hon hvs
    have hO := hN2.out
    simp only [evArr, Ev.zero] at hO
    have o0 := hO.cell 0
    have o1 := hO.cell 1
    have o2 := hO.cell 2
    have o3 := hO.cell 3
    have o4 := hO.cell 4
    have o5 := hO.cell 5
    have o6 := hO.cell 6
    have o7 := hO.cell 7
    have f0 := hO.frozen 0
    have f1 := hO.frozen 1
    have f2 := hO.frozen 2
    have f3 := hO.frozen 3
    have f4 := hO.frozen 4
    have f5 := hO.frozen 5
    have f6 := hO.frozen 6
    have f7 := hO.frozen 7
    have l := hO.lt
    have HD := hid (hN2.done hle (.int .i64 4) (.int .i64 (idOf k t.tx)) (.int .i64 0) (.int .i64 0) (.int .i64 0) (.int .i64 0) (.int .i64 0) (.int .i64 0))
    clear hwk hon hvs hN2 hO HH HN1
    go_wp2_with fail
    exact bodyPost_ret (resNext _ _ _ _ _ _ _ _ _ _ _ _ rfl rfl HD.out.2.2.2) rfl ⟨_, rfl, HD.out.1, HD.out.2.1, HD.out.2.2.1⟩)
set_option maxHeartbeats 8000000 in
set_option maxRecDepth 100000 in
theorem nextCancel {B wb : Nat} {W : World} {d : Wd} {vc vt ve : Value} {g n c : Nat} (h : Wk B wb W d vc vt (.slice (some ⟨g, 0, none⟩) n c) ve) (hok : WdOk d) {k : Nat} {t : Th} {l : List (List PAct)} (hl : d.live k = some (t, l)) (hw : t.waits = 0) (hb : t.begun = true) (he9 : d.es.length ≤ 100000) {a : PAct} (ha : (actsOf t l)[t.act.toNat]? = some a) (hak : a.kind = 4) :
    Calls Tryz.prog 7 #[.pointer (some ⟨wb, 0, none⟩), .int .i64 (k : Int)] W fun e w' => NextPost B wb W vc vt (.slice (some ⟨g, 0, none⟩) n c) ve (d.put k t.tx { t with waits := 7 } (evK 7)) e w' := by
  have hle : B ≤ W.heap.size := by have := h.le; have := h.box.lt; omega
  obtain ⟨_, h1, h2, hne⟩ := live_at hl
  simp only [Int.toNat_natCast] at h1 h2
  have HO := hid (ofLive (h.alloc outO) hok hl)
  have H := hid h
  have HK := hid h1
  have hw1 : (t.waits != 0) = false := by simpa using hw
  have hth := hok.th _ _ _ h1 h2
  have HTX := hid (h.txsAt h2)
  have HOKD := hid hok
  have H1 := hid h1
  have H2 := hid h2
  have HNL := hid hne
  clear hw
  clear h hok hl h1 h2 hne
  go_enter Tryz.func7, Tryz.ntmps7
  go_wp2_with fail
  refine HO.out.mono ?_
  rintro e X ⟨rfl, m, hX⟩
  have hN := Nx.start H.out hX
  have HN := hid hN
  obtain ⟨g', c', hv, _, lg, hkl, hnc, hcl, hfz⟩ := hN.wk.thAt HK.out
  injection hv with e1 e2 e3
  injection e1 with e1
  injection e1 with e1
  subst e1 e2 e3
  have y5 : X.cell? ⟨g, k * 6 + 5, none⟩ = some (.int .i64 t.waits) := hcl 5 (by omega)
  have y2 : X.cell? ⟨g, k * 6 + 2, none⟩ = some (.bool t.begun) := hcl 2 (by omega)
  have y0 : X.cell? ⟨g, k * 6, none⟩ = some (.int .i64 t.tx) := hcl 0 (by omega)
  have y1 : X.cell? ⟨g, k * 6 + 1, none⟩ = some (.int .i64 t.act) := hcl 1 (by omega)
  rw [hb] at y2
  have f5 := hfz (k * 6 + 5)
  obtain ⟨gt, ct, u, rfl, hct, hcu, hru⟩ := hN.wk.txsAt H2.out
  have x1 := hN.wk.box.cell 1
  have lb := hN.wk.box.lt
  have lt := World.block_lt_of_cell? X _ hcu
  have hkp := (List.getElem?_eq_some_iff.1 H2.out).1
  have hk4 : k ≤ 4 := by have := (pgOk_parts HOKD.out.ok).2.2.2.1; omega
  have hl3 : l.length ≤ 3 := by
    have h9 := (pgOk_parts HOKD.out.ok).2.2.2.2.2 l (List.mem_of_getElem? H2.out)
    exact (thrOk_parts h9).1
  obtain ⟨j, hj⟩ : ∃ j : Nat, t.tx = (j : Int) := ⟨t.tx.toNat, by have := hth.t0; omega⟩
  obtain ⟨q, hq⟩ : ∃ q : Nat, t.act = (q : Int) := ⟨t.act.toNat, by have := hth.a0; omega⟩
  have hjl : j < l.length := by have := hth.t1; have := HNL.out; omega
  obtain ⟨acts, hacts⟩ : ∃ acts, l[j]? = some acts := ⟨l[j], List.getElem?_eq_getElem hjl⟩
  have HAO : Hid (actsOf t l = acts) := hid (by unfold actsOf; rw [hj, Int.toNat_natCast, hacts]; rfl)
  have ha6 : acts.length ≤ 6 := by
    have h9 := (pgOk_parts HOKD.out.ok).2.2.2.2.2 l (List.mem_of_getElem? H2.out)
    exact (txOk_parts ((thrOk_parts h9).2 acts (List.mem_of_getElem? hacts))).2.1
  have hql : q ≤ acts.length := by have := hth.a1; rw [HAO.out] at this; omega
  obtain ⟨Au, cu, rfl⟩ := hru.shape
  obtain ⟨bu, ou, ua, rfl, hca, hra, _, hcu3⟩ := hru.at hacts
  obtain ⟨Aa, ca, rfl⟩ := hra.shape
  have lu := World.block_lt_of_cell? X _ hca
  rw [hj] at y0
  rw [hq] at y1
  have HJ := hid hj
  have HQ := hid hq
  have hl0 : (0 : Int) ≤ (k : Int) := by omega
  have hl2 : (k : Int) < (d.p.threads.length : Int) := by omega
  have hl4 : (0 : Int) ≤ (j : Int) := by omega
  have hl5 : (j : Int) < (l.length : Int) := by omega
  have hqa : acts[q]? = some a := by
    rw [HAO.out, hq, Int.toNat_natCast] at ha
    exact ha
  have hqlt := (List.getElem?_eq_some_iff.1 hqa).1
  have hqne : (q == acts.length) = false := by simp; omega
  have hq0 : (0 : Int) ≤ (q : Int) := by omega
  have hq1 : (q : Int) < (acts.length : Int) := by omega
  have HQA := hid hqa
  have HAK := hid hak
  clear ha hqa hak
  have HCL := hid hcl
  have HB := hid hb
  clear hb hj hq hacts hru hX hN hfz hcl hth
  go_wp2_with fail
  go_quiet (fail)
  have HN' := hid (HN.out.drewN nq)
  have z1 : (X.drewN nq).cell? ⟨g, k * 6 + 1, none⟩ = some (.int .i64 (q : Int)) := y1
  have z5 : (X.drewN nq).cell? ⟨g, k * 6 + 5, none⟩ = some (.int .i64 t.waits) := y5
  have zf : (X.drewN nq).frozen? ⟨g, k * 6 + 5, none⟩ = false := f5
  have zl : g < (X.drewN nq).heap.size := lg
  have ZAD : Hid ((X.drewN nq).cell? ⟨g, k * 6 + 3, none⟩ = some (.bool t.adding) ∧ (X.drewN nq).cell? ⟨g, k * 6 + 4, none⟩ = some (.int .i64 t.read)) := hid ⟨HCL.out 3 (by omega), HCL.out 4 (by omega)⟩
  have HRA : Hid (ReadsA (X.drewN nq) (.slice Aa acts.length ca) acts) := hid (by
    obtain ⟨A', c', b', o', r1, r2, r3, r4, r5⟩ := hra
    exact ⟨A', c', b', o', r1, r2, r3, r4, r5⟩)
  clear y0 y1 y2 y5 f5 lg hca lu hcu lt x1 lb hra HN
  generalize X.drewN nq = Y at HN' z1 z5 zf zl ZAD HRA ⊢
  obtain ⟨ba, oa, rfl, r0, r1, r2, _, hca2⟩ := HRA.out.at HQA.out
  have la := World.block_lt_of_cell? Y _ r0
  rw [HAK.out] at r0
  all_goals (
    have hN1 := ((HN'.out.setTh (t' := { t with waits := 7 }) H1.out (by omega : 5 < 6) rfl).alloc (.cells (evArr (evK 7)) tEv))
    have HH := hid (happensCall hN1.wk (set_ok HOKD.out H1.out H2.out HB.out (.inr (.inl rfl))) (List.getElem?_set_self (List.getElem?_eq_some_iff.1 H1.out).1) he9 (evK 7))
    have HN1 := hid hN1
    simp only [evArr, evK] at HH
    clear hN1 he9
    go_wp2_with fail
    refine HH.out.mono ?_
    rintro e X2 ⟨ve', rfl, hwk, hon, hvs⟩
    have hN2 := HN1.out.step hwk hon hvs
    have hO := hN2.out
    simp only [evArr, Ev.zero] at hO
    have o0 := hO.cell 0
    have o1 := hO.cell 1
    have o2 := hO.cell 2
    have o3 := hO.cell 3
    have o4 := hO.cell 4
    have o5 := hO.cell 5
    have o6 := hO.cell 6
    have o7 := hO.cell 7
    have f0 := hO.frozen 0
    have f1 := hO.frozen 1
    have f2 := hO.frozen 2
    have f3 := hO.frozen 3
    have f4 := hO.frozen 4
    have f5 := hO.frozen 5
    have f6 := hO.frozen 6
    have f7 := hO.frozen 7
    have l := hO.lt
    have HD := hid (hN2.done hle (.int .i64 7) (.int .i64 (idOf k t.tx)) (.int .i64 0) (.int .i64 0) (.int .i64 0) (.int .i64 0) (.int .i64 0) (.int .i64 0))
    clear hwk hon hvs hN2 hO HH HN1
    go_wp2_with fail
    exact bodyPost_ret (resNext _ _ _ _ _ _ _ _ _ _ _ _ rfl rfl HD.out.2.2.2) rfl ⟨_, rfl, HD.out.1, HD.out.2.1, HD.out.2.2.1⟩)
end Go.Proofs.YtgfmlaflochffaaGreatDoor
