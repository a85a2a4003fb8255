/-
  prog.Walk: Next: the acts' calls.
  prog.Walk: Next, as a whole.
-/
import Derived.Test.YtgfmlaflochffaaGreatDoorWkNext2Z
import Derived.Deep.RegionHeld3
import Derived.Deep.DrawnRows
import Derived.Outline
namespace Go.Proofs.YtgfmlaflochffaaGreatDoor
open Go.RowKit Go.Maps W
attribute [local go_sem ↓] Go.wp_at_zero Go.wp_at_succ

set_option linter.unusedSimpArgs false in
set_option maxHeartbeats 8000000 in
set_option maxRecDepth 100000 in
theorem nextRead {B wb : Nat} {W : World} {d : Wd} {vc vt ve : Value} {g n c : Nat} (h : Wk B wb W d vc vt (.slice (some ⟨g, 0, none⟩) n c) ve) (hok : WdOk d) {k : Nat} {t : Th} {l : List (List PAct)} (hl : d.live k = some (t, l)) (hw : t.waits = 0) (hb : t.begun = true) (he9 : d.es.length ≤ 100000) {a : PAct} (ha : (actsOf t l)[t.act.toNat]? = some a) (hak : a.kind = 1) :
    Calls Tryz.prog 7 #[.pointer (some ⟨wb, 0, none⟩), .int .i64 (k : Int)] W fun e w' => NextPost B wb W vc vt (.slice (some ⟨g, 0, none⟩) n c) ve (d.put k t.tx { t with waits := 2 } (askEv t a)) e w' := by
  have hle : B ≤ W.heap.size := by have := h.le; have := h.box.lt; omega
  obtain ⟨_, h1, h2, hne⟩ := live_at hl
  simp only [Int.toNat_natCast] at h1 h2
  have HO := hid (ofLive (h.alloc outO) hok hl)
  have H := hid h
  have HK := hid h1
  have hw1 : (t.waits != 0) = false := by simpa using hw
  have hth := hok.th _ _ _ h1 h2
  have HTX := hid (h.txsAt h2)
  have HOKD := hid hok
  have H1 := hid h1
  have H2 := hid h2
  have HNL := hid hne
  clear hw
  have hae : askEv t a = (evR a.cell) := by
    unfold askEv
    rw [hak]
    simp
  rw [hae]
  clear hae
  clear h hok hl h1 h2 hne
  go_enter Tryz.func7, Tryz.ntmps7
  go_wp2_with fail
  refine HO.out.mono ?_
  rintro e X ⟨rfl, m, hX⟩
  have hN := Nx.start H.out hX
  have HN := hid hN
  obtain ⟨g', c', hv, _, lg, hkl, hnc, hcl, hfz⟩ := hN.wk.thAt HK.out
  injection hv with e1 e2 e3
  injection e1 with e1
  injection e1 with e1
  subst e1 e2 e3
  have y5 : X.cell? ⟨g, k * 6 + 5, none⟩ = some (.int .i64 t.waits) := hcl 5 (by omega)
  have y2 : X.cell? ⟨g, k * 6 + 2, none⟩ = some (.bool t.begun) := hcl 2 (by omega)
  have y0 : X.cell? ⟨g, k * 6, none⟩ = some (.int .i64 t.tx) := hcl 0 (by omega)
  have y1 : X.cell? ⟨g, k * 6 + 1, none⟩ = some (.int .i64 t.act) := hcl 1 (by omega)
  rw [hb] at y2
  have f5 := hfz (k * 6 + 5)
  obtain ⟨gt, ct, u, rfl, hct, hcu, hru⟩ := hN.wk.txsAt H2.out
  have x1 := hN.wk.box.cell 1
  have lb := hN.wk.box.lt
  have lt := World.block_lt_of_cell? X _ hcu
  have hkp := (List.getElem?_eq_some_iff.1 H2.out).1
  have hk4 : k ≤ 4 := by have := (pgOk_parts HOKD.out.ok).2.2.2.1; omega
  have hl3 : l.length ≤ 3 := by
    have h9 := (pgOk_parts HOKD.out.ok).2.2.2.2.2 l (List.mem_of_getElem? H2.out)
    exact (thrOk_parts h9).1
  obtain ⟨j, hj⟩ : ∃ j : Nat, t.tx = (j : Int) := ⟨t.tx.toNat, by have := hth.t0; omega⟩
  obtain ⟨q, hq⟩ : ∃ q : Nat, t.act = (q : Int) := ⟨t.act.toNat, by have := hth.a0; omega⟩
  have hjl : j < l.length := by have := hth.t1; have := HNL.out; omega
  obtain ⟨acts, hacts⟩ : ∃ acts, l[j]? = some acts := ⟨l[j], List.getElem?_eq_getElem hjl⟩
  have HAO : Hid (actsOf t l = acts) := hid (by unfold actsOf; rw [hj, Int.toNat_natCast, hacts]; rfl)
  have ha6 : acts.length ≤ 6 := by
    have h9 := (pgOk_parts HOKD.out.ok).2.2.2.2.2 l (List.mem_of_getElem? H2.out)
    exact (txOk_parts ((thrOk_parts h9).2 acts (List.mem_of_getElem? hacts))).2.1
  have hql : q ≤ acts.length := by have := hth.a1; rw [HAO.out] at this; omega
  obtain ⟨Au, cu, rfl⟩ := hru.shape
  obtain ⟨bu, ou, ua, rfl, hca, hra, _, hcu3⟩ := hru.at hacts
  obtain ⟨Aa, ca, rfl⟩ := hra.shape
  have lu := World.block_lt_of_cell? X _ hca
  rw [hj] at y0
  rw [hq] at y1
  have HJ := hid hj
  have HQ := hid hq
  have hl0 : (0 : Int) ≤ (k : Int) := by omega
  have hl2 : (k : Int) < (d.p.threads.length : Int) := by omega
  have hl4 : (0 : Int) ≤ (j : Int) := by omega
  have hl5 : (j : Int) < (l.length : Int) := by omega
  have hqa : acts[q]? = some a := by
    rw [HAO.out, hq, Int.toNat_natCast] at ha
    exact ha
  have HS2 : Hid (WdOk ⟨d.p, d.ts.set k { t with waits := 2 }, d.es⟩) := hid (set_ok HOKD.out H1.out H2.out hb (.inr (.inr ⟨rfl, a, ha, by omega⟩)))
  have hqlt := (List.getElem?_eq_some_iff.1 hqa).1
  have hqne : (q == acts.length) = false := by simp; omega
  have hq0 : (0 : Int) ≤ (q : Int) := by omega
  have hq1 : (q : Int) < (acts.length : Int) := by omega
  have HQA := hid hqa
  have HAK := hid hak
  clear ha hqa hak
  have HCL := hid hcl
  have HB := hid hb
  clear hb hj hq hacts hru hX hN hfz hcl hth
  go_wp2_with fail
  go_quiet (fail)
  have HN' := hid (HN.out.drewN nq)
  have z1 : (X.drewN nq).cell? ⟨g, k * 6 + 1, none⟩ = some (.int .i64 (q : Int)) := y1
  have z5 : (X.drewN nq).cell? ⟨g, k * 6 + 5, none⟩ = some (.int .i64 t.waits) := y5
  have zf : (X.drewN nq).frozen? ⟨g, k * 6 + 5, none⟩ = false := f5
  have zl : g < (X.drewN nq).heap.size := lg
  have ZAD : Hid ((X.drewN nq).cell? ⟨g, k * 6 + 3, none⟩ = some (.bool t.adding) ∧ (X.drewN nq).cell? ⟨g, k * 6 + 4, none⟩ = some (.int .i64 t.read)) := hid ⟨HCL.out 3 (by omega), HCL.out 4 (by omega)⟩
  have HRA : Hid (ReadsA (X.drewN nq) (.slice Aa acts.length ca) acts) := hid (by
    obtain ⟨A', c', b', o', r1, r2, r3, r4, r5⟩ := hra
    exact ⟨A', c', b', o', r1, r2, r3, r4, r5⟩)
  clear y0 y1 y2 y5 f5 lg hca lu hcu lt x1 lb hra HN
  generalize X.drewN nq = Y at HN' z1 z5 zf zl ZAD HRA ⊢
  obtain ⟨ba, oa, rfl, r0, r1, r2, _, hca2⟩ := HRA.out.at HQA.out
  have la := World.block_lt_of_cell? Y _ r0
  rw [HAK.out] at r0
  have HE0 : Hid (Blk ((Y.alloc (.cells (evArr Ev.zero) tEv)).drew) Y.heap.size tEv (evArr Ev.zero)) := hid (Blk.drew (Blk.new Y tEv _))
  have HCC := hid (fun tp W => askRead tp ⟨1, a.cell, a.val⟩ W)
  simp only [evArr, evR] at HCC
  go_wp2_with fail
  refine wp_region_held_drew (S := fun w' => w'.cell? ⟨g, k * 6 + 1, none⟩ = some (.int .i64 (q : Int)) ∧ w'.cell? ⟨ba, oa + q * 3, none⟩ = some (.int .i64 1) ∧ w'.cell? ⟨ba, oa + q * 3 + 1, none⟩ = some (.int .i64 a.cell) ∧ w'.cell? ⟨ba, oa + q * 3 + 2, none⟩ = some (.int .i64 a.val)) (by kernel_rfl) ?hS0 (fun hHeld => ?_)
  case hS0 =>
    try dsimp only
    go_keep
  refine wpAnyH_take (i := 1) (v := (.slice (some ⟨ba, oa, none⟩) acts.length ca)) rfl (by kernel_rfl) (by kernel_rfl) (by kernel_rfl) (fun _ _ _ h => h) (Or.inl ⟨by rfl, ?_⟩) (by assumption) ?_
  · intro w hSw
    (try dsimp only at hSw)
    first | (go_simp; done) | (go_simp; with_reducible rfl)
  try simp only [Act.put, List.setIfInBounds_toArray, List.set_cons_zero, List.set_cons_succ]
  refine wpAnyH_take (i := 2) (v := (.pointer (some ⟨g, k * 6, none⟩))) rfl (by kernel_rfl) (by kernel_rfl) (by kernel_rfl) (fun _ _ _ h => h) (Or.inl ⟨by rfl, ?_⟩) (by assumption) ?_
  · intro w hSw
    (try dsimp only at hSw)
    first | (go_simp; done) | (go_simp; with_reducible rfl)
  try simp only [Act.put, List.setIfInBounds_toArray, List.set_cons_zero, List.set_cons_succ]
  refine wpAnyH_take (i := 3) (v := (.pointer (some ⟨g, k * 6, none⟩))) rfl (by kernel_rfl) (by kernel_rfl) (by kernel_rfl) (fun _ _ _ h => h) (Or.inl ⟨by rfl, ?_⟩) (by assumption) ?_
  · intro w hSw
    (try dsimp only at hSw)
    first | (go_simp; done) | (go_simp; with_reducible rfl)
  try simp only [Act.put, List.setIfInBounds_toArray, List.set_cons_zero, List.set_cons_succ]
  refine wpAnyH_take (i := 4) (v := (.pointer (some ⟨g, k * 6 + 1, none⟩))) rfl (by kernel_rfl) (by kernel_rfl) (by kernel_rfl) (fun _ _ _ h => h) (Or.inl ⟨by rfl, ?_⟩) (by assumption) ?_
  · intro w hSw
    (try dsimp only at hSw)
    first | (go_simp; done) | (go_simp; with_reducible rfl)
  try simp only [Act.put, List.setIfInBounds_toArray, List.set_cons_zero, List.set_cons_succ]
  refine wpAnyH_take (i := 5) (v := (.int .i64 (q : Int))) rfl (by kernel_rfl) (by kernel_rfl) (by kernel_rfl) (fun _ _ _ h => h) (Or.inl ⟨by rfl, ?_⟩) (by assumption) ?_
  · intro w hSw
    (try dsimp only at hSw)
    first | (go_simp; done) | (go_simp; with_reducible rfl)
  try simp only [Act.put, List.setIfInBounds_toArray, List.set_cons_zero, List.set_cons_succ]
  refine wpAnyH_take (i := 6) (v := (.pointer (some ⟨ba, oa + q * 3, none⟩))) rfl (by kernel_rfl) (by kernel_rfl) (by kernel_rfl) (fun _ _ _ h => h) (Or.inl ⟨by rfl, ?_⟩) (by assumption) ?_
  · intro w hSw
    (try dsimp only at hSw)
    first | (go_simp; done) | (go_simp; with_reducible rfl)
  try simp only [Act.put, List.setIfInBounds_toArray, List.set_cons_zero, List.set_cons_succ]
  refine wpAnyH_take (i := 7) (v := (.pointer (some ⟨ba, oa + q * 3, none⟩))) rfl (by kernel_rfl) (by kernel_rfl) (by kernel_rfl) (fun _ _ _ h => h) (Or.inl ⟨by rfl, ?_⟩) (by assumption) ?_
  · intro w hSw
    (try dsimp only at hSw)
    first | (go_simp; done) | (go_simp; with_reducible rfl)
  try simp only [Act.put, List.setIfInBounds_toArray, List.set_cons_zero, List.set_cons_succ]
  refine wpAnyH_take (i := 8) (v := (.int .i64 1)) rfl (by kernel_rfl) (by kernel_rfl) (by kernel_rfl) (fun _ _ _ h => h) (Or.inl ⟨by rfl, ?_⟩) (by assumption) ?_
  · intro w hSw
    (try dsimp only at hSw)
    first | (go_simp; done) | (go_simp; with_reducible rfl)
  try simp only [Act.put, List.setIfInBounds_toArray, List.set_cons_zero, List.set_cons_succ]
  refine wpAnyH_take (i := 11) (v := (.pointer (some ⟨g, k * 6, none⟩))) rfl (by kernel_rfl) (by kernel_rfl) (by kernel_rfl) (fun _ _ _ h => h) (Or.inl ⟨by rfl, ?_⟩) (by assumption) ?_
  · intro w hSw
    (try dsimp only at hSw)
    first | (go_simp; done) | (go_simp; with_reducible rfl)
  try simp only [Act.put, List.setIfInBounds_toArray, List.set_cons_zero, List.set_cons_succ]
  refine wpAnyH_take (i := 12) (v := (.slice (some ⟨ba, oa, none⟩) acts.length ca)) rfl (by kernel_rfl) (by kernel_rfl) (by kernel_rfl) (fun _ _ _ h => h) (Or.inl ⟨by rfl, ?_⟩) (by assumption) ?_
  · intro w hSw
    (try dsimp only at hSw)
    first | (go_simp; done) | (go_simp; with_reducible rfl)
  try simp only [Act.put, List.setIfInBounds_toArray, List.set_cons_zero, List.set_cons_succ]
  refine wpAnyH_take (i := 13) (v := (.pointer (some ⟨g, k * 6, none⟩))) rfl (by kernel_rfl) (by kernel_rfl) (by kernel_rfl) (fun _ _ _ h => h) (Or.inl ⟨by rfl, ?_⟩) (by assumption) ?_
  · intro w hSw
    (try dsimp only at hSw)
    first | (go_simp; done) | (go_simp; with_reducible rfl)
  try simp only [Act.put, List.setIfInBounds_toArray, List.set_cons_zero, List.set_cons_succ]
  refine wpAnyH_take (i := 14) (v := (.pointer (some ⟨g, k * 6, none⟩))) rfl (by kernel_rfl) (by kernel_rfl) (by kernel_rfl) (fun _ _ _ h => h) (Or.inl ⟨by rfl, ?_⟩) (by assumption) ?_
  · intro w hSw
    (try dsimp only at hSw)
    first | (go_simp; done) | (go_simp; with_reducible rfl)
  try simp only [Act.put, List.setIfInBounds_toArray, List.set_cons_zero, List.set_cons_succ]
  refine wpAnyH_take (i := 15) (v := (.pointer (some ⟨g, k * 6 + 1, none⟩))) rfl (by kernel_rfl) (by kernel_rfl) (by kernel_rfl) (fun _ _ _ h => h) (Or.inl ⟨by rfl, ?_⟩) (by assumption) ?_
  · intro w hSw
    (try dsimp only at hSw)
    first | (go_simp; done) | (go_simp; with_reducible rfl)
  try simp only [Act.put, List.setIfInBounds_toArray, List.set_cons_zero, List.set_cons_succ]
  refine wpAnyH_take (i := 16) (v := (.int .i64 (q : Int))) rfl (by kernel_rfl) (by kernel_rfl) (by kernel_rfl) (fun _ _ _ h => h) (Or.inl ⟨by rfl, ?_⟩) (by assumption) ?_
  · intro w hSw
    (try dsimp only at hSw)
    first | (go_simp; done) | (go_simp; with_reducible rfl)
  try simp only [Act.put, List.setIfInBounds_toArray, List.set_cons_zero, List.set_cons_succ]
  refine wpAnyH_take (i := 17) (v := (.pointer (some ⟨ba, oa + q * 3, none⟩))) rfl (by kernel_rfl) (by kernel_rfl) (by kernel_rfl) (fun _ _ _ h => h) (Or.inl ⟨by rfl, ?_⟩) (by assumption) ?_
  · intro w hSw
    (try dsimp only at hSw)
    first | (go_simp; done) | (go_simp; with_reducible rfl)
  try simp only [Act.put, List.setIfInBounds_toArray, List.set_cons_zero, List.set_cons_succ]
  refine wpAnyH_take (i := 18) (v := (.agg #[.int .i64 1, .int .i64 a.cell, .int .i64 a.val])) rfl (by kernel_rfl) (by kernel_rfl) (by kernel_rfl) (fun _ _ _ h => h) (Or.inl ⟨by rfl, ?_⟩) (by assumption) ?_
  · intro w hSw
    (try dsimp only at hSw)
    first | (go_simp; done) | (go_simp; with_reducible rfl)
  try simp only [Act.put, List.setIfInBounds_toArray, List.set_cons_zero, List.set_cons_succ]
  refine wpAnyH_ready (rs := [0]) (by kernel_rfl) (by simp) ?_
  refine AllReadyH.cons rfl (fun K hK => ?_) AllReadyH.nil
  go_simp
  refine (asksCall _).mono ?_
  rintro e X1 ⟨rfl, hb1, hr1, hw1b, hk1⟩
  have hE1 := HE0.out.below hb1 (by simp)
  have hs1 := hb1.size
  simp only [World.size_drew, World.size_alloc] at hs1
  have c1 : X1.cell? ⟨Y.heap.size + 1 + 1 + 1, 1, none⟩ = some (.func (.func 31) #[] #[]) := (by simpa [rdV, wrV, adV] using hk1.cell 1)
  go_wp2_with fail
  refine hK.out _ _ ?_ (fun hHeld1 => ?_)
  · obtain ⟨u1, u2, u3, u4⟩ := hHeld
    exact ⟨(hb1.cell (by simp; omega)).trans u1, (hb1.cell (by simp; omega)).trans u2, (hb1.cell (by simp; omega)).trans u3, (hb1.cell (by simp; omega)).trans u4⟩
  clear hK K
  try simp only [Act.put, List.setIfInBounds_toArray, List.set_cons_zero, List.set_cons_succ]
  refine wpAnyH_take (i := 9) (v := (.pointer (some ⟨Y.heap.size + 1 + 1 + 1, 1, none⟩))) rfl (by kernel_rfl) (by kernel_rfl) (by kernel_rfl) (fun _ _ _ h => h) (Or.inl ⟨by rfl, ?_⟩) (by assumption) ?_
  · intro w hSw
    (try dsimp only at hSw)
    first | (go_simp; done) | (go_simp; with_reducible rfl)
  try simp only [Act.put, List.setIfInBounds_toArray, List.set_cons_zero, List.set_cons_succ]
  refine wpAnyH_ready (rs := [10]) (by kernel_rfl) (by simp) ?_
  refine AllReadyH.cons rfl (fun K hK => ?_) AllReadyH.nil
  go_simp
  refine hK.out _ _ ?_ (fun hHeld2 => ?_)
  · exact hHeld1
  clear hK K
  try simp only [Act.put, List.setIfInBounds_toArray, List.set_cons_zero, List.set_cons_succ]
  refine wpAnyH_ready (rs := [19]) (by kernel_rfl) (by simp) ?_
  refine AllReadyH.cons rfl (fun K hK => ?_) AllReadyH.nil
  go_simp
  refine (HCC.out _ _).mono ?_
  rintro e X2 ⟨rfl, hb2⟩
  have hE2 := hE1.below hb2 (by omega)
  have hE2' := hE2
  simp only [evArr, Ev.zero] at hE2'
  have eo0 := hE2'.cell 0
  have eo1 := hE2'.cell 1
  have eo2 := hE2'.cell 2
  have eo3 := hE2'.cell 3
  have eo4 := hE2'.cell 4
  have eo5 := hE2'.cell 5
  have eo6 := hE2'.cell 6
  have eo7 := hE2'.cell 7
  have ef0 := hE2'.frozen 0
  have ef1 := hE2'.frozen 1
  have ef2 := hE2'.frozen 2
  have ef3 := hE2'.frozen 3
  have ef4 := hE2'.frozen 4
  have ef5 := hE2'.frozen 5
  have ef6 := hE2'.frozen 6
  have ef7 := hE2'.frozen 7
  have el := hE2'.lt
  go_wp2_with fail
  refine hK.out _ _ ?_ (fun hHeld3 => ?_)
  · obtain ⟨u1, u2, u3, u4⟩ := hHeld1
    exact ⟨(hb2.cell (by simp; omega)).trans u1, (hb2.cell (by simp; omega)).trans u2, (hb2.cell (by simp; omega)).trans u3, (hb2.cell (by simp; omega)).trans u4⟩
  clear hK K
  try simp only [Act.put, List.setIfInBounds_toArray, List.set_cons_zero, List.set_cons_succ]
  refine wpAnyH_ready (rs := [20]) (by kernel_rfl) (by simp) ?_
  refine AllReadyH.cons rfl (fun K hK => ?_) AllReadyH.nil
  go_simp
  refine hK.out _ _ ?_ (fun hHeld4 => ?_)
  · obtain ⟨u1, u2, u3, u4⟩ := hHeld3
    exact ⟨(evOnly _ _ _ _ _ _ _ _ _ _).cell u1 (by simp; omega), (evOnly _ _ _ _ _ _ _ _ _ _).cell u2 (by simp; omega), (evOnly _ _ _ _ _ _ _ _ _ _).cell u3 (by simp; omega), (evOnly _ _ _ _ _ _ _ _ _ _).cell u4 (by simp; omega)⟩
  clear hK K
  try simp only [Act.put, List.setIfInBounds_toArray, List.set_cons_zero, List.set_cons_succ]
  refine wpAnyH_done (by kernel_rfl) ?_ _
  clear hHeld hHeld1 hHeld2 hHeld3 hHeld4
  have k0 := evSet hE2 rfl (Nat.le_refl Y.heap.size) (.int .i64 2) (.int .i64 0) (.int .i64 0) (.int .i64 a.cell) (.int .i64 1) (.int .i64 0) (.int .i64 0) (.int .i64 0)
  obtain ⟨k1, k2⟩ := k0
  have hB3 : Below Y.heap.size Y ((((((((X2.setCell ⟨Y.heap.size, 0, none⟩ (.int .i64 2)).setCell ⟨Y.heap.size, 1, none⟩ (.int .i64 0)).setCell ⟨Y.heap.size, 2, none⟩ (.int .i64 0)).setCell ⟨Y.heap.size, 3, none⟩ (.int .i64 a.cell)).setCell ⟨Y.heap.size, 4, none⟩ (.int .i64 1)).setCell ⟨Y.heap.size, 5, none⟩ (.int .i64 0)).setCell ⟨Y.heap.size, 6, none⟩ (.int .i64 0)).setCell ⟨Y.heap.size, 7, none⟩ (.int .i64 0)) := ((((Below.refl Y.heap.size Y).alloc (Nat.le_refl _) _).drew.trans (hb1.mono (by simp))).trans (hb2.mono (by omega))).trans k1
  clear k1 hb1 hb2 hr1 hw1b hk1 hE1 hE2 hE2' HCC HE0 c1 eo0 ef0 eo1 ef1 eo2 ef2 eo3 ef3 eo4 ef4 eo5 ef5 eo6 ef6 eo7 ef7 el hs1
  generalize ((((((((X2.setCell ⟨Y.heap.size, 0, none⟩ (.int .i64 2)).setCell ⟨Y.heap.size, 1, none⟩ (.int .i64 0)).setCell ⟨Y.heap.size, 2, none⟩ (.int .i64 0)).setCell ⟨Y.heap.size, 3, none⟩ (.int .i64 a.cell)).setCell ⟨Y.heap.size, 4, none⟩ (.int .i64 1)).setCell ⟨Y.heap.size, 5, none⟩ (.int .i64 0)).setCell ⟨Y.heap.size, 6, none⟩ (.int .i64 0)).setCell ⟨Y.heap.size, 7, none⟩ (.int .i64 0)) = X3 at k2 hB3 ⊢
  have v5 := (hB3.cell (p := ⟨g, k * 6 + 5, none⟩) zl).trans z5
  have vf := (hB3.frozen (p := ⟨g, k * 6 + 5, none⟩) zl).trans zf
  have vl : g < X3.heap.size := by have := hB3.size; omega
  have hN4 := (HN'.out.call hB3).setTh (t' := { t with waits := 2 }) H1.out (by omega : 5 < 6) rfl
  have HH := hid (happensCall hN4.wk HS2.out (List.getElem?_set_self (List.getElem?_eq_some_iff.1 H1.out).1) he9 (evR a.cell))
  have HN4 := hid hN4
  simp only [evArr, evR] at HH
  have e0 := k2.cell 0
  have e1 := k2.cell 1
  have e2 := k2.cell 2
  have e3 := k2.cell 3
  have e4 := k2.cell 4
  have e5 := k2.cell 5
  have e6 := k2.cell 6
  have e7 := k2.cell 7
  have ek := k2.lt
  clear hN4 he9 hB3 k2 z1 z5 zf r0 r1 r2 la
  go_wp2_with fail
  refine HH.out.mono ?_
  rintro e X5 ⟨ve', rfl, hwk, hon, hvs⟩
  have hN5 := HN4.out.step hwk hon hvs
  have hO := hN5.out
  simp only [evArr, Ev.zero] at hO
  have o0 := hO.cell 0
  have o1 := hO.cell 1
  have o2 := hO.cell 2
  have o3 := hO.cell 3
  have o4 := hO.cell 4
  have o5 := hO.cell 5
  have o6 := hO.cell 6
  have o7 := hO.cell 7
  have f0 := hO.frozen 0
  have f1 := hO.frozen 1
  have f2 := hO.frozen 2
  have f3 := hO.frozen 3
  have f4 := hO.frozen 4
  have f5 := hO.frozen 5
  have f6 := hO.frozen 6
  have f7 := hO.frozen 7
  have l := hO.lt
  have HD := hid (hN5.done hle (.int .i64 2) (.int .i64 (idOf k t.tx)) (.int .i64 0) (.int .i64 a.cell) (.int .i64 1) (.int .i64 0) (.int .i64 0) (.int .i64 0))
  clear hwk hon hvs hN5 hO HH HN4
  go_wp2_with fail
  exact bodyPost_ret (resNext _ _ _ _ _ _ _ _ _ _ _ _ rfl rfl HD.out.2.2.2) rfl ⟨_, rfl, HD.out.1, HD.out.2.1, HD.out.2.2.1⟩

set_option linter.unusedSimpArgs false in
set_option maxHeartbeats 8000000 in
set_option maxRecDepth 100000 in
theorem nextWrite {B wb : Nat} {W : World} {d : Wd} {vc vt ve : Value} {g n c : Nat} (h : Wk B wb W d vc vt (.slice (some ⟨g, 0, none⟩) n c) ve) (hok : WdOk d) {k : Nat} {t : Th} {l : List (List PAct)} (hl : d.live k = some (t, l)) (hw : t.waits = 0) (hb : t.begun = true) (he9 : d.es.length ≤ 100000) {a : PAct} (ha : (actsOf t l)[t.act.toNat]? = some a) (hak : a.kind = 2) :
    Calls Tryz.prog 7 #[.pointer (some ⟨wb, 0, none⟩), .int .i64 (k : Int)] W fun e w' => NextPost B wb W vc vt (.slice (some ⟨g, 0, none⟩) n c) ve (d.put k t.tx { t with waits := 2 } (askEv t a)) e w' := by
  have hle : B ≤ W.heap.size := by have := h.le; have := h.box.lt; omega
  obtain ⟨_, h1, h2, hne⟩ := live_at hl
  simp only [Int.toNat_natCast] at h1 h2
  have HO := hid (ofLive (h.alloc outO) hok hl)
  have H := hid h
  have HK := hid h1
  have hw1 : (t.waits != 0) = false := by simpa using hw
  have hth := hok.th _ _ _ h1 h2
  have HTX := hid (h.txsAt h2)
  have HOKD := hid hok
  have H1 := hid h1
  have H2 := hid h2
  have HNL := hid hne
  clear hw
  have hae : askEv t a = (evW a.cell a.val) := by
    unfold askEv
    rw [hak]
    simp
  rw [hae]
  clear hae
  clear h hok hl h1 h2 hne
  go_enter Tryz.func7, Tryz.ntmps7
  go_wp2_with fail
  refine HO.out.mono ?_
  rintro e X ⟨rfl, m, hX⟩
  have hN := Nx.start H.out hX
  have HN := hid hN
  obtain ⟨g', c', hv, _, lg, hkl, hnc, hcl, hfz⟩ := hN.wk.thAt HK.out
  injection hv with e1 e2 e3
  injection e1 with e1
  injection e1 with e1
  subst e1 e2 e3
  have y5 : X.cell? ⟨g, k * 6 + 5, none⟩ = some (.int .i64 t.waits) := hcl 5 (by omega)
  have y2 : X.cell? ⟨g, k * 6 + 2, none⟩ = some (.bool t.begun) := hcl 2 (by omega)
  have y0 : X.cell? ⟨g, k * 6, none⟩ = some (.int .i64 t.tx) := hcl 0 (by omega)
  have y1 : X.cell? ⟨g, k * 6 + 1, none⟩ = some (.int .i64 t.act) := hcl 1 (by omega)
  rw [hb] at y2
  have f5 := hfz (k * 6 + 5)
  obtain ⟨gt, ct, u, rfl, hct, hcu, hru⟩ := hN.wk.txsAt H2.out
  have x1 := hN.wk.box.cell 1
  have lb := hN.wk.box.lt
  have lt := World.block_lt_of_cell? X _ hcu
  have hkp := (List.getElem?_eq_some_iff.1 H2.out).1
  have hk4 : k ≤ 4 := by have := (pgOk_parts HOKD.out.ok).2.2.2.1; omega
  have hl3 : l.length ≤ 3 := by
    have h9 := (pgOk_parts HOKD.out.ok).2.2.2.2.2 l (List.mem_of_getElem? H2.out)
    exact (thrOk_parts h9).1
  obtain ⟨j, hj⟩ : ∃ j : Nat, t.tx = (j : Int) := ⟨t.tx.toNat, by have := hth.t0; omega⟩
  obtain ⟨q, hq⟩ : ∃ q : Nat, t.act = (q : Int) := ⟨t.act.toNat, by have := hth.a0; omega⟩
  have hjl : j < l.length := by have := hth.t1; have := HNL.out; omega
  obtain ⟨acts, hacts⟩ : ∃ acts, l[j]? = some acts := ⟨l[j], List.getElem?_eq_getElem hjl⟩
  have HAO : Hid (actsOf t l = acts) := hid (by unfold actsOf; rw [hj, Int.toNat_natCast, hacts]; rfl)
  have ha6 : acts.length ≤ 6 := by
    have h9 := (pgOk_parts HOKD.out.ok).2.2.2.2.2 l (List.mem_of_getElem? H2.out)
    exact (txOk_parts ((thrOk_parts h9).2 acts (List.mem_of_getElem? hacts))).2.1
  have hql : q ≤ acts.length := by have := hth.a1; rw [HAO.out] at this; omega
  obtain ⟨Au, cu, rfl⟩ := hru.shape
  obtain ⟨bu, ou, ua, rfl, hca, hra, _, hcu3⟩ := hru.at hacts
  obtain ⟨Aa, ca, rfl⟩ := hra.shape
  have lu := World.block_lt_of_cell? X _ hca
  rw [hj] at y0
  rw [hq] at y1
  have HJ := hid hj
  have HQ := hid hq
  have hl0 : (0 : Int) ≤ (k : Int) := by omega
  have hl2 : (k : Int) < (d.p.threads.length : Int) := by omega
  have hl4 : (0 : Int) ≤ (j : Int) := by omega
  have hl5 : (j : Int) < (l.length : Int) := by omega
  have hqa : acts[q]? = some a := by
    rw [HAO.out, hq, Int.toNat_natCast] at ha
    exact ha
  have HS2 : Hid (WdOk ⟨d.p, d.ts.set k { t with waits := 2 }, d.es⟩) := hid (set_ok HOKD.out H1.out H2.out hb (.inr (.inr ⟨rfl, a, ha, by omega⟩)))
  have hqlt := (List.getElem?_eq_some_iff.1 hqa).1
  have hqne : (q == acts.length) = false := by simp; omega
  have hq0 : (0 : Int) ≤ (q : Int) := by omega
  have hq1 : (q : Int) < (acts.length : Int) := by omega
  have HQA := hid hqa
  have HAK := hid hak
  clear ha hqa hak
  have HCL := hid hcl
  have HB := hid hb
  clear hb hj hq hacts hru hX hN hfz hcl hth
  go_wp2_with fail
  go_quiet (fail)
  have HN' := hid (HN.out.drewN nq)
  have z1 : (X.drewN nq).cell? ⟨g, k * 6 + 1, none⟩ = some (.int .i64 (q : Int)) := y1
  have z5 : (X.drewN nq).cell? ⟨g, k * 6 + 5, none⟩ = some (.int .i64 t.waits) := y5
  have zf : (X.drewN nq).frozen? ⟨g, k * 6 + 5, none⟩ = false := f5
  have zl : g < (X.drewN nq).heap.size := lg
  have ZAD : Hid ((X.drewN nq).cell? ⟨g, k * 6 + 3, none⟩ = some (.bool t.adding) ∧ (X.drewN nq).cell? ⟨g, k * 6 + 4, none⟩ = some (.int .i64 t.read)) := hid ⟨HCL.out 3 (by omega), HCL.out 4 (by omega)⟩
  have HRA : Hid (ReadsA (X.drewN nq) (.slice Aa acts.length ca) acts) := hid (by
    obtain ⟨A', c', b', o', r1, r2, r3, r4, r5⟩ := hra
    exact ⟨A', c', b', o', r1, r2, r3, r4, r5⟩)
  clear y0 y1 y2 y5 f5 lg hca lu hcu lt x1 lb hra HN
  generalize X.drewN nq = Y at HN' z1 z5 zf zl ZAD HRA ⊢
  obtain ⟨ba, oa, rfl, r0, r1, r2, _, hca2⟩ := HRA.out.at HQA.out
  have la := World.block_lt_of_cell? Y _ r0
  rw [HAK.out] at r0
  have HE0 : Hid (Blk ((Y.alloc (.cells (evArr Ev.zero) tEv)).drew) Y.heap.size tEv (evArr Ev.zero)) := hid (Blk.drew (Blk.new Y tEv _))
  have HCC := hid (fun tp W => askWrite tp ⟨2, a.cell, a.val⟩ W)
  simp only [evArr, evW] at HCC
  go_wp2_with fail
  refine wp_region_held_drew (S := fun w' => w'.cell? ⟨g, k * 6 + 1, none⟩ = some (.int .i64 (q : Int)) ∧ w'.cell? ⟨ba, oa + q * 3, none⟩ = some (.int .i64 2) ∧ w'.cell? ⟨ba, oa + q * 3 + 1, none⟩ = some (.int .i64 a.cell) ∧ w'.cell? ⟨ba, oa + q * 3 + 2, none⟩ = some (.int .i64 a.val)) (by kernel_rfl) ?hS0 (fun hHeld => ?_)
  case hS0 =>
    try dsimp only
    go_keep
  refine wpAnyH_take (i := 1) (v := (.slice (some ⟨ba, oa, none⟩) acts.length ca)) rfl (by kernel_rfl) (by kernel_rfl) (by kernel_rfl) (fun _ _ _ h => h) (Or.inl ⟨by rfl, ?_⟩) (by assumption) ?_
  · intro w hSw
    (try dsimp only at hSw)
    first | (go_simp; done) | (go_simp; with_reducible rfl)
  try simp only [Act.put, List.setIfInBounds_toArray, List.set_cons_zero, List.set_cons_succ]
  refine wpAnyH_take (i := 2) (v := (.pointer (some ⟨g, k * 6, none⟩))) rfl (by kernel_rfl) (by kernel_rfl) (by kernel_rfl) (fun _ _ _ h => h) (Or.inl ⟨by rfl, ?_⟩) (by assumption) ?_
  · intro w hSw
    (try dsimp only at hSw)
    first | (go_simp; done) | (go_simp; with_reducible rfl)
  try simp only [Act.put, List.setIfInBounds_toArray, List.set_cons_zero, List.set_cons_succ]
  refine wpAnyH_take (i := 3) (v := (.pointer (some ⟨g, k * 6, none⟩))) rfl (by kernel_rfl) (by kernel_rfl) (by kernel_rfl) (fun _ _ _ h => h) (Or.inl ⟨by rfl, ?_⟩) (by assumption) ?_
  · intro w hSw
    (try dsimp only at hSw)
    first | (go_simp; done) | (go_simp; with_reducible rfl)
  try simp only [Act.put, List.setIfInBounds_toArray, List.set_cons_zero, List.set_cons_succ]
  refine wpAnyH_take (i := 4) (v := (.pointer (some ⟨g, k * 6 + 1, none⟩))) rfl (by kernel_rfl) (by kernel_rfl) (by kernel_rfl) (fun _ _ _ h => h) (Or.inl ⟨by rfl, ?_⟩) (by assumption) ?_
  · intro w hSw
    (try dsimp only at hSw)
    first | (go_simp; done) | (go_simp; with_reducible rfl)
  try simp only [Act.put, List.setIfInBounds_toArray, List.set_cons_zero, List.set_cons_succ]
  refine wpAnyH_take (i := 5) (v := (.int .i64 (q : Int))) rfl (by kernel_rfl) (by kernel_rfl) (by kernel_rfl) (fun _ _ _ h => h) (Or.inl ⟨by rfl, ?_⟩) (by assumption) ?_
  · intro w hSw
    (try dsimp only at hSw)
    first | (go_simp; done) | (go_simp; with_reducible rfl)
  try simp only [Act.put, List.setIfInBounds_toArray, List.set_cons_zero, List.set_cons_succ]
  refine wpAnyH_take (i := 6) (v := (.pointer (some ⟨ba, oa + q * 3, none⟩))) rfl (by kernel_rfl) (by kernel_rfl) (by kernel_rfl) (fun _ _ _ h => h) (Or.inl ⟨by rfl, ?_⟩) (by assumption) ?_
  · intro w hSw
    (try dsimp only at hSw)
    first | (go_simp; done) | (go_simp; with_reducible rfl)
  try simp only [Act.put, List.setIfInBounds_toArray, List.set_cons_zero, List.set_cons_succ]
  refine wpAnyH_take (i := 7) (v := (.pointer (some ⟨ba, oa + q * 3, none⟩))) rfl (by kernel_rfl) (by kernel_rfl) (by kernel_rfl) (fun _ _ _ h => h) (Or.inl ⟨by rfl, ?_⟩) (by assumption) ?_
  · intro w hSw
    (try dsimp only at hSw)
    first | (go_simp; done) | (go_simp; with_reducible rfl)
  try simp only [Act.put, List.setIfInBounds_toArray, List.set_cons_zero, List.set_cons_succ]
  refine wpAnyH_take (i := 8) (v := (.int .i64 2)) rfl (by kernel_rfl) (by kernel_rfl) (by kernel_rfl) (fun _ _ _ h => h) (Or.inl ⟨by rfl, ?_⟩) (by assumption) ?_
  · intro w hSw
    (try dsimp only at hSw)
    first | (go_simp; done) | (go_simp; with_reducible rfl)
  try simp only [Act.put, List.setIfInBounds_toArray, List.set_cons_zero, List.set_cons_succ]
  refine wpAnyH_take (i := 11) (v := (.pointer (some ⟨g, k * 6, none⟩))) rfl (by kernel_rfl) (by kernel_rfl) (by kernel_rfl) (fun _ _ _ h => h) (Or.inl ⟨by rfl, ?_⟩) (by assumption) ?_
  · intro w hSw
    (try dsimp only at hSw)
    first | (go_simp; done) | (go_simp; with_reducible rfl)
  try simp only [Act.put, List.setIfInBounds_toArray, List.set_cons_zero, List.set_cons_succ]
  refine wpAnyH_take (i := 12) (v := (.slice (some ⟨ba, oa, none⟩) acts.length ca)) rfl (by kernel_rfl) (by kernel_rfl) (by kernel_rfl) (fun _ _ _ h => h) (Or.inl ⟨by rfl, ?_⟩) (by assumption) ?_
  · intro w hSw
    (try dsimp only at hSw)
    first | (go_simp; done) | (go_simp; with_reducible rfl)
  try simp only [Act.put, List.setIfInBounds_toArray, List.set_cons_zero, List.set_cons_succ]
  refine wpAnyH_take (i := 13) (v := (.pointer (some ⟨g, k * 6, none⟩))) rfl (by kernel_rfl) (by kernel_rfl) (by kernel_rfl) (fun _ _ _ h => h) (Or.inl ⟨by rfl, ?_⟩) (by assumption) ?_
  · intro w hSw
    (try dsimp only at hSw)
    first | (go_simp; done) | (go_simp; with_reducible rfl)
  try simp only [Act.put, List.setIfInBounds_toArray, List.set_cons_zero, List.set_cons_succ]
  refine wpAnyH_take (i := 14) (v := (.pointer (some ⟨g, k * 6, none⟩))) rfl (by kernel_rfl) (by kernel_rfl) (by kernel_rfl) (fun _ _ _ h => h) (Or.inl ⟨by rfl, ?_⟩) (by assumption) ?_
  · intro w hSw
    (try dsimp only at hSw)
    first | (go_simp; done) | (go_simp; with_reducible rfl)
  try simp only [Act.put, List.setIfInBounds_toArray, List.set_cons_zero, List.set_cons_succ]
  refine wpAnyH_take (i := 15) (v := (.pointer (some ⟨g, k * 6 + 1, none⟩))) rfl (by kernel_rfl) (by kernel_rfl) (by kernel_rfl) (fun _ _ _ h => h) (Or.inl ⟨by rfl, ?_⟩) (by assumption) ?_
  · intro w hSw
    (try dsimp only at hSw)
    first | (go_simp; done) | (go_simp; with_reducible rfl)
  try simp only [Act.put, List.setIfInBounds_toArray, List.set_cons_zero, List.set_cons_succ]
  refine wpAnyH_take (i := 16) (v := (.int .i64 (q : Int))) rfl (by kernel_rfl) (by kernel_rfl) (by kernel_rfl) (fun _ _ _ h => h) (Or.inl ⟨by rfl, ?_⟩) (by assumption) ?_
  · intro w hSw
    (try dsimp only at hSw)
    first | (go_simp; done) | (go_simp; with_reducible rfl)
  try simp only [Act.put, List.setIfInBounds_toArray, List.set_cons_zero, List.set_cons_succ]
  refine wpAnyH_take (i := 17) (v := (.pointer (some ⟨ba, oa + q * 3, none⟩))) rfl (by kernel_rfl) (by kernel_rfl) (by kernel_rfl) (fun _ _ _ h => h) (Or.inl ⟨by rfl, ?_⟩) (by assumption) ?_
  · intro w hSw
    (try dsimp only at hSw)
    first | (go_simp; done) | (go_simp; with_reducible rfl)
  try simp only [Act.put, List.setIfInBounds_toArray, List.set_cons_zero, List.set_cons_succ]
  refine wpAnyH_take (i := 18) (v := (.agg #[.int .i64 2, .int .i64 a.cell, .int .i64 a.val])) rfl (by kernel_rfl) (by kernel_rfl) (by kernel_rfl) (fun _ _ _ h => h) (Or.inl ⟨by rfl, ?_⟩) (by assumption) ?_
  · intro w hSw
    (try dsimp only at hSw)
    first | (go_simp; done) | (go_simp; with_reducible rfl)
  try simp only [Act.put, List.setIfInBounds_toArray, List.set_cons_zero, List.set_cons_succ]
  refine wpAnyH_ready (rs := [0]) (by kernel_rfl) (by simp) ?_
  refine AllReadyH.cons rfl (fun K hK => ?_) AllReadyH.nil
  go_simp
  refine (asksCall _).mono ?_
  rintro e X1 ⟨rfl, hb1, hr1, hw1b, hk1⟩
  have hE1 := HE0.out.below hb1 (by simp)
  have hs1 := hb1.size
  simp only [World.size_drew, World.size_alloc] at hs1
  have c1 : X1.cell? ⟨Y.heap.size + 1 + 1 + 1, 2, none⟩ = some (.func (.func 32) #[] #[]) := (by simpa [rdV, wrV, adV] using hk1.cell 2)
  go_wp2_with fail
  refine hK.out _ _ ?_ (fun hHeld1 => ?_)
  · obtain ⟨u1, u2, u3, u4⟩ := hHeld
    exact ⟨(hb1.cell (by simp; omega)).trans u1, (hb1.cell (by simp; omega)).trans u2, (hb1.cell (by simp; omega)).trans u3, (hb1.cell (by simp; omega)).trans u4⟩
  clear hK K
  try simp only [Act.put, List.setIfInBounds_toArray, List.set_cons_zero, List.set_cons_succ]
  refine wpAnyH_take (i := 9) (v := (.pointer (some ⟨Y.heap.size + 1 + 1 + 1, 2, none⟩))) rfl (by kernel_rfl) (by kernel_rfl) (by kernel_rfl) (fun _ _ _ h => h) (Or.inl ⟨by rfl, ?_⟩) (by assumption) ?_
  · intro w hSw
    (try dsimp only at hSw)
    first | (go_simp; done) | (go_simp; with_reducible rfl)
  try simp only [Act.put, List.setIfInBounds_toArray, List.set_cons_zero, List.set_cons_succ]
  refine wpAnyH_ready (rs := [10]) (by kernel_rfl) (by simp) ?_
  refine AllReadyH.cons rfl (fun K hK => ?_) AllReadyH.nil
  go_simp
  refine hK.out _ _ ?_ (fun hHeld2 => ?_)
  · exact hHeld1
  clear hK K
  try simp only [Act.put, List.setIfInBounds_toArray, List.set_cons_zero, List.set_cons_succ]
  refine wpAnyH_ready (rs := [19]) (by kernel_rfl) (by simp) ?_
  refine AllReadyH.cons rfl (fun K hK => ?_) AllReadyH.nil
  go_simp
  refine (HCC.out _ _).mono ?_
  rintro e X2 ⟨rfl, hb2⟩
  have hE2 := hE1.below hb2 (by omega)
  have hE2' := hE2
  simp only [evArr, Ev.zero] at hE2'
  have eo0 := hE2'.cell 0
  have eo1 := hE2'.cell 1
  have eo2 := hE2'.cell 2
  have eo3 := hE2'.cell 3
  have eo4 := hE2'.cell 4
  have eo5 := hE2'.cell 5
  have eo6 := hE2'.cell 6
  have eo7 := hE2'.cell 7
  have ef0 := hE2'.frozen 0
  have ef1 := hE2'.frozen 1
  have ef2 := hE2'.frozen 2
  have ef3 := hE2'.frozen 3
  have ef4 := hE2'.frozen 4
  have ef5 := hE2'.frozen 5
  have ef6 := hE2'.frozen 6
  have ef7 := hE2'.frozen 7
  have el := hE2'.lt
  go_wp2_with fail
  refine hK.out _ _ ?_ (fun hHeld3 => ?_)
  · obtain ⟨u1, u2, u3, u4⟩ := hHeld1
    exact ⟨(hb2.cell (by simp; omega)).trans u1, (hb2.cell (by simp; omega)).trans u2, (hb2.cell (by simp; omega)).trans u3, (hb2.cell (by simp; omega)).trans u4⟩
  clear hK K
  try simp only [Act.put, List.setIfInBounds_toArray, List.set_cons_zero, List.set_cons_succ]
  refine wpAnyH_ready (rs := [20]) (by kernel_rfl) (by simp) ?_
  refine AllReadyH.cons rfl (fun K hK => ?_) AllReadyH.nil
  go_simp
  refine hK.out _ _ ?_ (fun hHeld4 => ?_)
  · obtain ⟨u1, u2, u3, u4⟩ := hHeld3
    exact ⟨(evOnly _ _ _ _ _ _ _ _ _ _).cell u1 (by simp; omega), (evOnly _ _ _ _ _ _ _ _ _ _).cell u2 (by simp; omega), (evOnly _ _ _ _ _ _ _ _ _ _).cell u3 (by simp; omega), (evOnly _ _ _ _ _ _ _ _ _ _).cell u4 (by simp; omega)⟩
  clear hK K
  try simp only [Act.put, List.setIfInBounds_toArray, List.set_cons_zero, List.set_cons_succ]
  refine wpAnyH_done (by kernel_rfl) ?_ _
  clear hHeld hHeld1 hHeld2 hHeld3 hHeld4
  have k0 := evSet hE2 rfl (Nat.le_refl Y.heap.size) (.int .i64 2) (.int .i64 0) (.int .i64 0) (.int .i64 a.cell) (.int .i64 2) (.int .i64 0) (.int .i64 a.val) (.int .i64 0)
  obtain ⟨k1, k2⟩ := k0
  have hB3 : Below Y.heap.size Y ((((((((X2.setCell ⟨Y.heap.size, 0, none⟩ (.int .i64 2)).setCell ⟨Y.heap.size, 1, none⟩ (.int .i64 0)).setCell ⟨Y.heap.size, 2, none⟩ (.int .i64 0)).setCell ⟨Y.heap.size, 3, none⟩ (.int .i64 a.cell)).setCell ⟨Y.heap.size, 4, none⟩ (.int .i64 2)).setCell ⟨Y.heap.size, 5, none⟩ (.int .i64 0)).setCell ⟨Y.heap.size, 6, none⟩ (.int .i64 a.val)).setCell ⟨Y.heap.size, 7, none⟩ (.int .i64 0)) := ((((Below.refl Y.heap.size Y).alloc (Nat.le_refl _) _).drew.trans (hb1.mono (by simp))).trans (hb2.mono (by omega))).trans k1
  clear k1 hb1 hb2 hr1 hw1b hk1 hE1 hE2 hE2' HCC HE0 c1 eo0 ef0 eo1 ef1 eo2 ef2 eo3 ef3 eo4 ef4 eo5 ef5 eo6 ef6 eo7 ef7 el hs1
  generalize ((((((((X2.setCell ⟨Y.heap.size, 0, none⟩ (.int .i64 2)).setCell ⟨Y.heap.size, 1, none⟩ (.int .i64 0)).setCell ⟨Y.heap.size, 2, none⟩ (.int .i64 0)).setCell ⟨Y.heap.size, 3, none⟩ (.int .i64 a.cell)).setCell ⟨Y.heap.size, 4, none⟩ (.int .i64 2)).setCell ⟨Y.heap.size, 5, none⟩ (.int .i64 0)).setCell ⟨Y.heap.size, 6, none⟩ (.int .i64 a.val)).setCell ⟨Y.heap.size, 7, none⟩ (.int .i64 0)) = X3 at k2 hB3 ⊢
  have v5 := (hB3.cell (p := ⟨g, k * 6 + 5, none⟩) zl).trans z5
  have vf := (hB3.frozen (p := ⟨g, k * 6 + 5, none⟩) zl).trans zf
  have vl : g < X3.heap.size := by have := hB3.size; omega
  have hN4 := (HN'.out.call hB3).setTh (t' := { t with waits := 2 }) H1.out (by omega : 5 < 6) rfl
  have HH := hid (happensCall hN4.wk HS2.out (List.getElem?_set_self (List.getElem?_eq_some_iff.1 H1.out).1) he9 (evW a.cell a.val))
  have HN4 := hid hN4
  simp only [evArr, evW] at HH
  have e0 := k2.cell 0
  have e1 := k2.cell 1
  have e2 := k2.cell 2
  have e3 := k2.cell 3
  have e4 := k2.cell 4
  have e5 := k2.cell 5
  have e6 := k2.cell 6
  have e7 := k2.cell 7
  have ek := k2.lt
  clear hN4 he9 hB3 k2 z1 z5 zf r0 r1 r2 la
  go_wp2_with fail
  refine HH.out.mono ?_
  rintro e X5 ⟨ve', rfl, hwk, hon, hvs⟩
  have hN5 := HN4.out.step hwk hon hvs
  have hO := hN5.out
  simp only [evArr, Ev.zero] at hO
  have o0 := hO.cell 0
  have o1 := hO.cell 1
  have o2 := hO.cell 2
  have o3 := hO.cell 3
  have o4 := hO.cell 4
  have o5 := hO.cell 5
  have o6 := hO.cell 6
  have o7 := hO.cell 7
  have f0 := hO.frozen 0
  have f1 := hO.frozen 1
  have f2 := hO.frozen 2
  have f3 := hO.frozen 3
  have f4 := hO.frozen 4
  have f5 := hO.frozen 5
  have f6 := hO.frozen 6
  have f7 := hO.frozen 7
  have l := hO.lt
  have HD := hid (hN5.done hle (.int .i64 2) (.int .i64 (idOf k t.tx)) (.int .i64 0) (.int .i64 a.cell) (.int .i64 2) (.int .i64 0) (.int .i64 a.val) (.int .i64 0))
  clear hwk hon hvs hN5 hO HH HN4
  go_wp2_with fail
  exact bodyPost_ret (resNext _ _ _ _ _ _ _ _ _ _ _ _ rfl rfl HD.out.2.2.2) rfl ⟨_, rfl, HD.out.1, HD.out.2.1, HD.out.2.2.1⟩

set_option linter.unusedSimpArgs false in
set_option maxHeartbeats 8000000 in
set_option maxRecDepth 100000 in
theorem nextAddR {B wb : Nat} {W : World} {d : Wd} {vc vt ve : Value} {g n c : Nat} (h : Wk B wb W d vc vt (.slice (some ⟨g, 0, none⟩) n c) ve) (hok : WdOk d) {k : Nat} {t : Th} {l : List (List PAct)} (hl : d.live k = some (t, l)) (hw : t.waits = 0) (hb : t.begun = true) (he9 : d.es.length ≤ 100000) {a : PAct} (ha : (actsOf t l)[t.act.toNat]? = some a) (hak : a.kind = 3) (had : t.adding = false) :
    Calls Tryz.prog 7 #[.pointer (some ⟨wb, 0, none⟩), .int .i64 (k : Int)] W fun e w' => NextPost B wb W vc vt (.slice (some ⟨g, 0, none⟩) n c) ve (d.put k t.tx { t with waits := 2 } (askEv t a)) e w' := by
  have hle : B ≤ W.heap.size := by have := h.le; have := h.box.lt; omega
  obtain ⟨_, h1, h2, hne⟩ := live_at hl
  simp only [Int.toNat_natCast] at h1 h2
  have HO := hid (ofLive (h.alloc outO) hok hl)
  have H := hid h
  have HK := hid h1
  have hw1 : (t.waits != 0) = false := by simpa using hw
  have hth := hok.th _ _ _ h1 h2
  have HTX := hid (h.txsAt h2)
  have HOKD := hid hok
  have H1 := hid h1
  have H2 := hid h2
  have HNL := hid hne
  clear hw
  have hae : askEv t a = (evR a.cell) := by
    unfold askEv
    rw [hak]
    simp [had]
  rw [hae]
  clear hae
  clear h hok hl h1 h2 hne
  go_enter Tryz.func7, Tryz.ntmps7
  go_wp2_with fail
  refine HO.out.mono ?_
  rintro e X ⟨rfl, m, hX⟩
  have hN := Nx.start H.out hX
  have HN := hid hN
  obtain ⟨g', c', hv, _, lg, hkl, hnc, hcl, hfz⟩ := hN.wk.thAt HK.out
  injection hv with e1 e2 e3
  injection e1 with e1
  injection e1 with e1
  subst e1 e2 e3
  have y5 : X.cell? ⟨g, k * 6 + 5, none⟩ = some (.int .i64 t.waits) := hcl 5 (by omega)
  have y2 : X.cell? ⟨g, k * 6 + 2, none⟩ = some (.bool t.begun) := hcl 2 (by omega)
  have y0 : X.cell? ⟨g, k * 6, none⟩ = some (.int .i64 t.tx) := hcl 0 (by omega)
  have y1 : X.cell? ⟨g, k * 6 + 1, none⟩ = some (.int .i64 t.act) := hcl 1 (by omega)
  rw [hb] at y2
  have f5 := hfz (k * 6 + 5)
  obtain ⟨gt, ct, u, rfl, hct, hcu, hru⟩ := hN.wk.txsAt H2.out
  have x1 := hN.wk.box.cell 1
  have lb := hN.wk.box.lt
  have lt := World.block_lt_of_cell? X _ hcu
  have hkp := (List.getElem?_eq_some_iff.1 H2.out).1
  have hk4 : k ≤ 4 := by have := (pgOk_parts HOKD.out.ok).2.2.2.1; omega
  have hl3 : l.length ≤ 3 := by
    have h9 := (pgOk_parts HOKD.out.ok).2.2.2.2.2 l (List.mem_of_getElem? H2.out)
    exact (thrOk_parts h9).1
  obtain ⟨j, hj⟩ : ∃ j : Nat, t.tx = (j : Int) := ⟨t.tx.toNat, by have := hth.t0; omega⟩
  obtain ⟨q, hq⟩ : ∃ q : Nat, t.act = (q : Int) := ⟨t.act.toNat, by have := hth.a0; omega⟩
  have hjl : j < l.length := by have := hth.t1; have := HNL.out; omega
  obtain ⟨acts, hacts⟩ : ∃ acts, l[j]? = some acts := ⟨l[j], List.getElem?_eq_getElem hjl⟩
  have HAO : Hid (actsOf t l = acts) := hid (by unfold actsOf; rw [hj, Int.toNat_natCast, hacts]; rfl)
  have ha6 : acts.length ≤ 6 := by
    have h9 := (pgOk_parts HOKD.out.ok).2.2.2.2.2 l (List.mem_of_getElem? H2.out)
    exact (txOk_parts ((thrOk_parts h9).2 acts (List.mem_of_getElem? hacts))).2.1
  have hql : q ≤ acts.length := by have := hth.a1; rw [HAO.out] at this; omega
  obtain ⟨Au, cu, rfl⟩ := hru.shape
  obtain ⟨bu, ou, ua, rfl, hca, hra, _, hcu3⟩ := hru.at hacts
  obtain ⟨Aa, ca, rfl⟩ := hra.shape
  have lu := World.block_lt_of_cell? X _ hca
  rw [hj] at y0
  rw [hq] at y1
  have HJ := hid hj
  have HQ := hid hq
  have hl0 : (0 : Int) ≤ (k : Int) := by omega
  have hl2 : (k : Int) < (d.p.threads.length : Int) := by omega
  have hl4 : (0 : Int) ≤ (j : Int) := by omega
  have hl5 : (j : Int) < (l.length : Int) := by omega
  have hqa : acts[q]? = some a := by
    rw [HAO.out, hq, Int.toNat_natCast] at ha
    exact ha
  have HS2 : Hid (WdOk ⟨d.p, d.ts.set k { t with waits := 2 }, d.es⟩) := hid (set_ok HOKD.out H1.out H2.out hb (.inr (.inr ⟨rfl, a, ha, by omega⟩)))
  have HAD := hid had
  have HV : Hid (t.adding = true → -1000000000 ≤ a.val + t.read ∧ a.val + t.read ≤ 1000000000) := hid (fun e => by
    obtain ⟨a', e1, _, e2⟩ := hth.a3 e
    rw [ha] at e1
    injection e1 with e1
    subst e1
    exact e2)
  clear had
  have hqlt := (List.getElem?_eq_some_iff.1 hqa).1
  have hqne : (q == acts.length) = false := by simp; omega
  have hq0 : (0 : Int) ≤ (q : Int) := by omega
  have hq1 : (q : Int) < (acts.length : Int) := by omega
  have HQA := hid hqa
  have HAK := hid hak
  clear ha hqa hak
  have HCL := hid hcl
  have HB := hid hb
  clear hb hj hq hacts hru hX hN hfz hcl hth
  go_wp2_with fail
  go_quiet (fail)
  have HN' := hid (HN.out.drewN nq)
  have z1 : (X.drewN nq).cell? ⟨g, k * 6 + 1, none⟩ = some (.int .i64 (q : Int)) := y1
  have z5 : (X.drewN nq).cell? ⟨g, k * 6 + 5, none⟩ = some (.int .i64 t.waits) := y5
  have zf : (X.drewN nq).frozen? ⟨g, k * 6 + 5, none⟩ = false := f5
  have zl : g < (X.drewN nq).heap.size := lg
  have ZAD : Hid ((X.drewN nq).cell? ⟨g, k * 6 + 3, none⟩ = some (.bool t.adding) ∧ (X.drewN nq).cell? ⟨g, k * 6 + 4, none⟩ = some (.int .i64 t.read)) := hid ⟨HCL.out 3 (by omega), HCL.out 4 (by omega)⟩
  have HRA : Hid (ReadsA (X.drewN nq) (.slice Aa acts.length ca) acts) := hid (by
    obtain ⟨A', c', b', o', r1, r2, r3, r4, r5⟩ := hra
    exact ⟨A', c', b', o', r1, r2, r3, r4, r5⟩)
  clear y0 y1 y2 y5 f5 lg hca lu hcu lt x1 lb hra HN
  generalize X.drewN nq = Y at HN' z1 z5 zf zl ZAD HRA ⊢
  obtain ⟨ba, oa, rfl, r0, r1, r2, _, hca2⟩ := HRA.out.at HQA.out
  have la := World.block_lt_of_cell? Y _ r0
  rw [HAK.out] at r0
  have HE0 : Hid (Blk ((Y.alloc (.cells (evArr Ev.zero) tEv)).drew) Y.heap.size tEv (evArr Ev.zero)) := hid (Blk.drew (Blk.new Y tEv _))
  go_wp2_with fail
  refine wp_region_held_drew (S := fun w' => w'.cell? ⟨g, k * 6 + 1, none⟩ = some (.int .i64 (q : Int)) ∧ w'.cell? ⟨ba, oa + q * 3, none⟩ = some (.int .i64 3) ∧ w'.cell? ⟨ba, oa + q * 3 + 1, none⟩ = some (.int .i64 a.cell) ∧ w'.cell? ⟨ba, oa + q * 3 + 2, none⟩ = some (.int .i64 a.val)) (by kernel_rfl) ?hS0 (fun hHeld => ?_)
  case hS0 =>
    try dsimp only
    go_keep
  refine wpAnyH_take (i := 1) (v := (.slice (some ⟨ba, oa, none⟩) acts.length ca)) rfl (by kernel_rfl) (by kernel_rfl) (by kernel_rfl) (fun _ _ _ h => h) (Or.inl ⟨by rfl, ?_⟩) (by assumption) ?_
  · intro w hSw
    (try dsimp only at hSw)
    first | (go_simp; done) | (go_simp; with_reducible rfl)
  try simp only [Act.put, List.setIfInBounds_toArray, List.set_cons_zero, List.set_cons_succ]
  refine wpAnyH_take (i := 2) (v := (.pointer (some ⟨g, k * 6, none⟩))) rfl (by kernel_rfl) (by kernel_rfl) (by kernel_rfl) (fun _ _ _ h => h) (Or.inl ⟨by rfl, ?_⟩) (by assumption) ?_
  · intro w hSw
    (try dsimp only at hSw)
    first | (go_simp; done) | (go_simp; with_reducible rfl)
  try simp only [Act.put, List.setIfInBounds_toArray, List.set_cons_zero, List.set_cons_succ]
  refine wpAnyH_take (i := 3) (v := (.pointer (some ⟨g, k * 6, none⟩))) rfl (by kernel_rfl) (by kernel_rfl) (by kernel_rfl) (fun _ _ _ h => h) (Or.inl ⟨by rfl, ?_⟩) (by assumption) ?_
  · intro w hSw
    (try dsimp only at hSw)
    first | (go_simp; done) | (go_simp; with_reducible rfl)
  try simp only [Act.put, List.setIfInBounds_toArray, List.set_cons_zero, List.set_cons_succ]
  refine wpAnyH_take (i := 4) (v := (.pointer (some ⟨g, k * 6 + 1, none⟩))) rfl (by kernel_rfl) (by kernel_rfl) (by kernel_rfl) (fun _ _ _ h => h) (Or.inl ⟨by rfl, ?_⟩) (by assumption) ?_
  · intro w hSw
    (try dsimp only at hSw)
    first | (go_simp; done) | (go_simp; with_reducible rfl)
  try simp only [Act.put, List.setIfInBounds_toArray, List.set_cons_zero, List.set_cons_succ]
  refine wpAnyH_take (i := 5) (v := (.int .i64 (q : Int))) rfl (by kernel_rfl) (by kernel_rfl) (by kernel_rfl) (fun _ _ _ h => h) (Or.inl ⟨by rfl, ?_⟩) (by assumption) ?_
  · intro w hSw
    (try dsimp only at hSw)
    first | (go_simp; done) | (go_simp; with_reducible rfl)
  try simp only [Act.put, List.setIfInBounds_toArray, List.set_cons_zero, List.set_cons_succ]
  refine wpAnyH_take (i := 6) (v := (.pointer (some ⟨ba, oa + q * 3, none⟩))) rfl (by kernel_rfl) (by kernel_rfl) (by kernel_rfl) (fun _ _ _ h => h) (Or.inl ⟨by rfl, ?_⟩) (by assumption) ?_
  · intro w hSw
    (try dsimp only at hSw)
    first | (go_simp; done) | (go_simp; with_reducible rfl)
  try simp only [Act.put, List.setIfInBounds_toArray, List.set_cons_zero, List.set_cons_succ]
  refine wpAnyH_take (i := 7) (v := (.pointer (some ⟨ba, oa + q * 3, none⟩))) rfl (by kernel_rfl) (by kernel_rfl) (by kernel_rfl) (fun _ _ _ h => h) (Or.inl ⟨by rfl, ?_⟩) (by assumption) ?_
  · intro w hSw
    (try dsimp only at hSw)
    first | (go_simp; done) | (go_simp; with_reducible rfl)
  try simp only [Act.put, List.setIfInBounds_toArray, List.set_cons_zero, List.set_cons_succ]
  refine wpAnyH_take (i := 8) (v := (.int .i64 3)) rfl (by kernel_rfl) (by kernel_rfl) (by kernel_rfl) (fun _ _ _ h => h) (Or.inl ⟨by rfl, ?_⟩) (by assumption) ?_
  · intro w hSw
    (try dsimp only at hSw)
    first | (go_simp; done) | (go_simp; with_reducible rfl)
  try simp only [Act.put, List.setIfInBounds_toArray, List.set_cons_zero, List.set_cons_succ]
  refine wpAnyH_take (i := 11) (v := (.pointer (some ⟨g, k * 6, none⟩))) rfl (by kernel_rfl) (by kernel_rfl) (by kernel_rfl) (fun _ _ _ h => h) (Or.inl ⟨by rfl, ?_⟩) (by assumption) ?_
  · intro w hSw
    (try dsimp only at hSw)
    first | (go_simp; done) | (go_simp; with_reducible rfl)
  try simp only [Act.put, List.setIfInBounds_toArray, List.set_cons_zero, List.set_cons_succ]
  refine wpAnyH_take (i := 12) (v := (.slice (some ⟨ba, oa, none⟩) acts.length ca)) rfl (by kernel_rfl) (by kernel_rfl) (by kernel_rfl) (fun _ _ _ h => h) (Or.inl ⟨by rfl, ?_⟩) (by assumption) ?_
  · intro w hSw
    (try dsimp only at hSw)
    first | (go_simp; done) | (go_simp; with_reducible rfl)
  try simp only [Act.put, List.setIfInBounds_toArray, List.set_cons_zero, List.set_cons_succ]
  refine wpAnyH_take (i := 13) (v := (.pointer (some ⟨g, k * 6, none⟩))) rfl (by kernel_rfl) (by kernel_rfl) (by kernel_rfl) (fun _ _ _ h => h) (Or.inl ⟨by rfl, ?_⟩) (by assumption) ?_
  · intro w hSw
    (try dsimp only at hSw)
    first | (go_simp; done) | (go_simp; with_reducible rfl)
  try simp only [Act.put, List.setIfInBounds_toArray, List.set_cons_zero, List.set_cons_succ]
  refine wpAnyH_take (i := 14) (v := (.pointer (some ⟨g, k * 6, none⟩))) rfl (by kernel_rfl) (by kernel_rfl) (by kernel_rfl) (fun _ _ _ h => h) (Or.inl ⟨by rfl, ?_⟩) (by assumption) ?_
  · intro w hSw
    (try dsimp only at hSw)
    first | (go_simp; done) | (go_simp; with_reducible rfl)
  try simp only [Act.put, List.setIfInBounds_toArray, List.set_cons_zero, List.set_cons_succ]
  refine wpAnyH_take (i := 15) (v := (.pointer (some ⟨g, k * 6 + 1, none⟩))) rfl (by kernel_rfl) (by kernel_rfl) (by kernel_rfl) (fun _ _ _ h => h) (Or.inl ⟨by rfl, ?_⟩) (by assumption) ?_
  · intro w hSw
    (try dsimp only at hSw)
    first | (go_simp; done) | (go_simp; with_reducible rfl)
  try simp only [Act.put, List.setIfInBounds_toArray, List.set_cons_zero, List.set_cons_succ]
  refine wpAnyH_take (i := 16) (v := (.int .i64 (q : Int))) rfl (by kernel_rfl) (by kernel_rfl) (by kernel_rfl) (fun _ _ _ h => h) (Or.inl ⟨by rfl, ?_⟩) (by assumption) ?_
  · intro w hSw
    (try dsimp only at hSw)
    first | (go_simp; done) | (go_simp; with_reducible rfl)
  try simp only [Act.put, List.setIfInBounds_toArray, List.set_cons_zero, List.set_cons_succ]
  refine wpAnyH_take (i := 17) (v := (.pointer (some ⟨ba, oa + q * 3, none⟩))) rfl (by kernel_rfl) (by kernel_rfl) (by kernel_rfl) (fun _ _ _ h => h) (Or.inl ⟨by rfl, ?_⟩) (by assumption) ?_
  · intro w hSw
    (try dsimp only at hSw)
    first | (go_simp; done) | (go_simp; with_reducible rfl)
  try simp only [Act.put, List.setIfInBounds_toArray, List.set_cons_zero, List.set_cons_succ]
  refine wpAnyH_take (i := 18) (v := (.agg #[.int .i64 3, .int .i64 a.cell, .int .i64 a.val])) rfl (by kernel_rfl) (by kernel_rfl) (by kernel_rfl) (fun _ _ _ h => h) (Or.inl ⟨by rfl, ?_⟩) (by assumption) ?_
  · intro w hSw
    (try dsimp only at hSw)
    first | (go_simp; done) | (go_simp; with_reducible rfl)
  try simp only [Act.put, List.setIfInBounds_toArray, List.set_cons_zero, List.set_cons_succ]
  refine wpAnyH_ready (rs := [0]) (by kernel_rfl) (by simp) ?_
  refine AllReadyH.cons rfl (fun K hK => ?_) AllReadyH.nil
  go_simp
  refine (asksCall _).mono ?_
  rintro e X1 ⟨rfl, hb1, hr1, hw1b, hk1⟩
  have hE1 := HE0.out.below hb1 (by simp)
  have hs1 := hb1.size
  simp only [World.size_drew, World.size_alloc] at hs1
  have c1 : X1.cell? ⟨Y.heap.size + 1 + 1 + 1, 3, none⟩ = some (.func (.func 33) #[] #[.pointer (some ⟨Y.heap.size + 1, 0, none⟩), .pointer (some ⟨Y.heap.size + 1 + 1, 0, none⟩)]) := (by simpa [rdV, wrV, adV] using hk1.cell 3)
  go_wp2_with fail
  refine hK.out _ _ ?_ (fun hHeld1 => ?_)
  · obtain ⟨u1, u2, u3, u4⟩ := hHeld
    exact ⟨(hb1.cell (by simp; omega)).trans u1, (hb1.cell (by simp; omega)).trans u2, (hb1.cell (by simp; omega)).trans u3, (hb1.cell (by simp; omega)).trans u4⟩
  clear hK K
  try simp only [Act.put, List.setIfInBounds_toArray, List.set_cons_zero, List.set_cons_succ]
  refine wpAnyH_take (i := 9) (v := (.pointer (some ⟨Y.heap.size + 1 + 1 + 1, 3, none⟩))) rfl (by kernel_rfl) (by kernel_rfl) (by kernel_rfl) (fun _ _ _ h => h) (Or.inl ⟨by rfl, ?_⟩) (by assumption) ?_
  · intro w hSw
    (try dsimp only at hSw)
    first | (go_simp; done) | (go_simp; with_reducible rfl)
  try simp only [Act.put, List.setIfInBounds_toArray, List.set_cons_zero, List.set_cons_succ]
  refine wpAnyH_ready (rs := [10]) (by kernel_rfl) (by simp) ?_
  refine AllReadyH.cons rfl (fun K hK => ?_) AllReadyH.nil
  go_simp
  refine hK.out _ _ ?_ (fun hHeld2 => ?_)
  · exact hHeld1
  clear hK K
  try simp only [Act.put, List.setIfInBounds_toArray, List.set_cons_zero, List.set_cons_succ]
  refine wpAnyH_ready (rs := [19]) (by kernel_rfl) (by simp) ?_
  refine AllReadyH.cons rfl (fun K hK => ?_) AllReadyH.nil
  go_simp
  have hby : Below Y.heap.size Y X1 := ((Below.refl Y.heap.size Y).alloc (Nat.le_refl _) _).drew.trans (hb1.mono (by simp))
  have hcc := askAdd ⟨g, k * 6, none⟩ ⟨3, a.cell, a.val⟩ t (Y.heap.size + 1) (Y.heap.size + 1 + 1) g (k * 6) X1 rfl ((hby.cell (p := ⟨g, k * 6 + 3, none⟩) zl).trans ZAD.out.1) ((hby.cell (p := ⟨g, k * 6 + 4, none⟩) zl).trans ZAD.out.2) (by simpa using hr1.cell 0) (by simpa using hw1b.cell 0) HV.out
  rw [if_neg (by rw [HAD.out]; decide)] at hcc
  simp only [evArr, evR] at hcc
  clear hby
  refine hcc.mono ?_
  rintro e X2 ⟨rfl, hb2⟩
  have hE2 := hE1.below hb2 (by omega)
  have hE2' := hE2
  simp only [evArr, Ev.zero] at hE2'
  have eo0 := hE2'.cell 0
  have eo1 := hE2'.cell 1
  have eo2 := hE2'.cell 2
  have eo3 := hE2'.cell 3
  have eo4 := hE2'.cell 4
  have eo5 := hE2'.cell 5
  have eo6 := hE2'.cell 6
  have eo7 := hE2'.cell 7
  have ef0 := hE2'.frozen 0
  have ef1 := hE2'.frozen 1
  have ef2 := hE2'.frozen 2
  have ef3 := hE2'.frozen 3
  have ef4 := hE2'.frozen 4
  have ef5 := hE2'.frozen 5
  have ef6 := hE2'.frozen 6
  have ef7 := hE2'.frozen 7
  have el := hE2'.lt
  go_wp2_with fail
  refine hK.out _ _ ?_ (fun hHeld3 => ?_)
  · obtain ⟨u1, u2, u3, u4⟩ := hHeld1
    exact ⟨(hb2.cell (by simp; omega)).trans u1, (hb2.cell (by simp; omega)).trans u2, (hb2.cell (by simp; omega)).trans u3, (hb2.cell (by simp; omega)).trans u4⟩
  clear hK K
  try simp only [Act.put, List.setIfInBounds_toArray, List.set_cons_zero, List.set_cons_succ]
  refine wpAnyH_ready (rs := [20]) (by kernel_rfl) (by simp) ?_
  refine AllReadyH.cons rfl (fun K hK => ?_) AllReadyH.nil
  go_simp
  refine hK.out _ _ ?_ (fun hHeld4 => ?_)
  · obtain ⟨u1, u2, u3, u4⟩ := hHeld3
    exact ⟨(evOnly _ _ _ _ _ _ _ _ _ _).cell u1 (by simp; omega), (evOnly _ _ _ _ _ _ _ _ _ _).cell u2 (by simp; omega), (evOnly _ _ _ _ _ _ _ _ _ _).cell u3 (by simp; omega), (evOnly _ _ _ _ _ _ _ _ _ _).cell u4 (by simp; omega)⟩
  clear hK K
  try simp only [Act.put, List.setIfInBounds_toArray, List.set_cons_zero, List.set_cons_succ]
  refine wpAnyH_done (by kernel_rfl) ?_ _
  clear hHeld hHeld1 hHeld2 hHeld3 hHeld4
  have k0 := evSet hE2 rfl (Nat.le_refl Y.heap.size) (.int .i64 2) (.int .i64 0) (.int .i64 0) (.int .i64 a.cell) (.int .i64 1) (.int .i64 0) (.int .i64 0) (.int .i64 0)
  obtain ⟨k1, k2⟩ := k0
  have hB3 : Below Y.heap.size Y ((((((((X2.setCell ⟨Y.heap.size, 0, none⟩ (.int .i64 2)).setCell ⟨Y.heap.size, 1, none⟩ (.int .i64 0)).setCell ⟨Y.heap.size, 2, none⟩ (.int .i64 0)).setCell ⟨Y.heap.size, 3, none⟩ (.int .i64 a.cell)).setCell ⟨Y.heap.size, 4, none⟩ (.int .i64 1)).setCell ⟨Y.heap.size, 5, none⟩ (.int .i64 0)).setCell ⟨Y.heap.size, 6, none⟩ (.int .i64 0)).setCell ⟨Y.heap.size, 7, none⟩ (.int .i64 0)) := ((((Below.refl Y.heap.size Y).alloc (Nat.le_refl _) _).drew.trans (hb1.mono (by simp))).trans (hb2.mono (by omega))).trans k1
  clear k1 hb1 hb2 hr1 hw1b hk1 hE1 hE2 hE2' HE0 c1 eo0 ef0 eo1 ef1 eo2 ef2 eo3 ef3 eo4 ef4 eo5 ef5 eo6 ef6 eo7 ef7 el hs1
  generalize ((((((((X2.setCell ⟨Y.heap.size, 0, none⟩ (.int .i64 2)).setCell ⟨Y.heap.size, 1, none⟩ (.int .i64 0)).setCell ⟨Y.heap.size, 2, none⟩ (.int .i64 0)).setCell ⟨Y.heap.size, 3, none⟩ (.int .i64 a.cell)).setCell ⟨Y.heap.size, 4, none⟩ (.int .i64 1)).setCell ⟨Y.heap.size, 5, none⟩ (.int .i64 0)).setCell ⟨Y.heap.size, 6, none⟩ (.int .i64 0)).setCell ⟨Y.heap.size, 7, none⟩ (.int .i64 0)) = X3 at k2 hB3 ⊢
  have v5 := (hB3.cell (p := ⟨g, k * 6 + 5, none⟩) zl).trans z5
  have vf := (hB3.frozen (p := ⟨g, k * 6 + 5, none⟩) zl).trans zf
  have vl : g < X3.heap.size := by have := hB3.size; omega
  have hN4 := (HN'.out.call hB3).setTh (t' := { t with waits := 2 }) H1.out (by omega : 5 < 6) rfl
  have HH := hid (happensCall hN4.wk HS2.out (List.getElem?_set_self (List.getElem?_eq_some_iff.1 H1.out).1) he9 (evR a.cell))
  have HN4 := hid hN4
  simp only [evArr, evR] at HH
  have e0 := k2.cell 0
  have e1 := k2.cell 1
  have e2 := k2.cell 2
  have e3 := k2.cell 3
  have e4 := k2.cell 4
  have e5 := k2.cell 5
  have e6 := k2.cell 6
  have e7 := k2.cell 7
  have ek := k2.lt
  clear hN4 he9 hB3 k2 z1 z5 zf r0 r1 r2 la
  go_wp2_with fail
  refine HH.out.mono ?_
  rintro e X5 ⟨ve', rfl, hwk, hon, hvs⟩
  have hN5 := HN4.out.step hwk hon hvs
  have hO := hN5.out
  simp only [evArr, Ev.zero] at hO
  have o0 := hO.cell 0
  have o1 := hO.cell 1
  have o2 := hO.cell 2
  have o3 := hO.cell 3
  have o4 := hO.cell 4
  have o5 := hO.cell 5
  have o6 := hO.cell 6
  have o7 := hO.cell 7
  have f0 := hO.frozen 0
  have f1 := hO.frozen 1
  have f2 := hO.frozen 2
  have f3 := hO.frozen 3
  have f4 := hO.frozen 4
  have f5 := hO.frozen 5
  have f6 := hO.frozen 6
  have f7 := hO.frozen 7
  have l := hO.lt
  have HD := hid (hN5.done hle (.int .i64 2) (.int .i64 (idOf k t.tx)) (.int .i64 0) (.int .i64 a.cell) (.int .i64 1) (.int .i64 0) (.int .i64 0) (.int .i64 0))
  clear hwk hon hvs hN5 hO HH HN4
  go_wp2_with fail
  exact bodyPost_ret (resNext _ _ _ _ _ _ _ _ _ _ _ _ rfl rfl HD.out.2.2.2) rfl ⟨_, rfl, HD.out.1, HD.out.2.1, HD.out.2.2.1⟩

set_option linter.unusedSimpArgs false in
set_option maxHeartbeats 8000000 in
set_option maxRecDepth 100000 in
theorem nextAddW {B wb : Nat} {W : World} {d : Wd} {vc vt ve : Value} {g n c : Nat} (h : Wk B wb W d vc vt (.slice (some ⟨g, 0, none⟩) n c) ve) (hok : WdOk d) {k : Nat} {t : Th} {l : List (List PAct)} (hl : d.live k = some (t, l)) (hw : t.waits = 0) (hb : t.begun = true) (he9 : d.es.length ≤ 100000) {a : PAct} (ha : (actsOf t l)[t.act.toNat]? = some a) (hak : a.kind = 3) (had : t.adding = true) :
    Calls Tryz.prog 7 #[.pointer (some ⟨wb, 0, none⟩), .int .i64 (k : Int)] W fun e w' => NextPost B wb W vc vt (.slice (some ⟨g, 0, none⟩) n c) ve (d.put k t.tx { t with waits := 2 } (askEv t a)) e w' := by
  have hle : B ≤ W.heap.size := by have := h.le; have := h.box.lt; omega
  obtain ⟨_, h1, h2, hne⟩ := live_at hl
  simp only [Int.toNat_natCast] at h1 h2
  have HO := hid (ofLive (h.alloc outO) hok hl)
  have H := hid h
  have HK := hid h1
  have hw1 : (t.waits != 0) = false := by simpa using hw
  have hth := hok.th _ _ _ h1 h2
  have HTX := hid (h.txsAt h2)
  have HOKD := hid hok
  have H1 := hid h1
  have H2 := hid h2
  have HNL := hid hne
  clear hw
  have hae : askEv t a = (evW a.cell (a.val + t.read)) := by
    unfold askEv
    rw [hak]
    simp [had]
  rw [hae]
  clear hae
  clear h hok hl h1 h2 hne
  go_enter Tryz.func7, Tryz.ntmps7
  go_wp2_with fail
  refine HO.out.mono ?_
  rintro e X ⟨rfl, m, hX⟩
  have hN := Nx.start H.out hX
  have HN := hid hN
  obtain ⟨g', c', hv, _, lg, hkl, hnc, hcl, hfz⟩ := hN.wk.thAt HK.out
  injection hv with e1 e2 e3
  injection e1 with e1
  injection e1 with e1
  subst e1 e2 e3
  have y5 : X.cell? ⟨g, k * 6 + 5, none⟩ = some (.int .i64 t.waits) := hcl 5 (by omega)
  have y2 : X.cell? ⟨g, k * 6 + 2, none⟩ = some (.bool t.begun) := hcl 2 (by omega)
  have y0 : X.cell? ⟨g, k * 6, none⟩ = some (.int .i64 t.tx) := hcl 0 (by omega)
  have y1 : X.cell? ⟨g, k * 6 + 1, none⟩ = some (.int .i64 t.act) := hcl 1 (by omega)
  rw [hb] at y2
  have f5 := hfz (k * 6 + 5)
  obtain ⟨gt, ct, u, rfl, hct, hcu, hru⟩ := hN.wk.txsAt H2.out
  have x1 := hN.wk.box.cell 1
  have lb := hN.wk.box.lt
  have lt := World.block_lt_of_cell? X _ hcu
  have hkp := (List.getElem?_eq_some_iff.1 H2.out).1
  have hk4 : k ≤ 4 := by have := (pgOk_parts HOKD.out.ok).2.2.2.1; omega
  have hl3 : l.length ≤ 3 := by
    have h9 := (pgOk_parts HOKD.out.ok).2.2.2.2.2 l (List.mem_of_getElem? H2.out)
    exact (thrOk_parts h9).1
  obtain ⟨j, hj⟩ : ∃ j : Nat, t.tx = (j : Int) := ⟨t.tx.toNat, by have := hth.t0; omega⟩
  obtain ⟨q, hq⟩ : ∃ q : Nat, t.act = (q : Int) := ⟨t.act.toNat, by have := hth.a0; omega⟩
  have hjl : j < l.length := by have := hth.t1; have := HNL.out; omega
  obtain ⟨acts, hacts⟩ : ∃ acts, l[j]? = some acts := ⟨l[j], List.getElem?_eq_getElem hjl⟩
  have HAO : Hid (actsOf t l = acts) := hid (by unfold actsOf; rw [hj, Int.toNat_natCast, hacts]; rfl)
  have ha6 : acts.length ≤ 6 := by
    have h9 := (pgOk_parts HOKD.out.ok).2.2.2.2.2 l (List.mem_of_getElem? H2.out)
    exact (txOk_parts ((thrOk_parts h9).2 acts (List.mem_of_getElem? hacts))).2.1
  have hql : q ≤ acts.length := by have := hth.a1; rw [HAO.out] at this; omega
  obtain ⟨Au, cu, rfl⟩ := hru.shape
  obtain ⟨bu, ou, ua, rfl, hca, hra, _, hcu3⟩ := hru.at hacts
  obtain ⟨Aa, ca, rfl⟩ := hra.shape
  have lu := World.block_lt_of_cell? X _ hca
  rw [hj] at y0
  rw [hq] at y1
  have HJ := hid hj
  have HQ := hid hq
  have hl0 : (0 : Int) ≤ (k : Int) := by omega
  have hl2 : (k : Int) < (d.p.threads.length : Int) := by omega
  have hl4 : (0 : Int) ≤ (j : Int) := by omega
  have hl5 : (j : Int) < (l.length : Int) := by omega
  have hqa : acts[q]? = some a := by
    rw [HAO.out, hq, Int.toNat_natCast] at ha
    exact ha
  have HS2 : Hid (WdOk ⟨d.p, d.ts.set k { t with waits := 2 }, d.es⟩) := hid (set_ok HOKD.out H1.out H2.out hb (.inr (.inr ⟨rfl, a, ha, by omega⟩)))
  have HAD := hid had
  have HV : Hid (t.adding = true → -1000000000 ≤ a.val + t.read ∧ a.val + t.read ≤ 1000000000) := hid (fun e => by
    obtain ⟨a', e1, _, e2⟩ := hth.a3 e
    rw [ha] at e1
    injection e1 with e1
    subst e1
    exact e2)
  clear had
  have hqlt := (List.getElem?_eq_some_iff.1 hqa).1
  have hqne : (q == acts.length) = false := by simp; omega
  have hq0 : (0 : Int) ≤ (q : Int) := by omega
  have hq1 : (q : Int) < (acts.length : Int) := by omega
  have HQA := hid hqa
  have HAK := hid hak
  clear ha hqa hak
  have HCL := hid hcl
  have HB := hid hb
  clear hb hj hq hacts hru hX hN hfz hcl hth
  go_wp2_with fail
  go_quiet (fail)
  have HN' := hid (HN.out.drewN nq)
  have z1 : (X.drewN nq).cell? ⟨g, k * 6 + 1, none⟩ = some (.int .i64 (q : Int)) := y1
  have z5 : (X.drewN nq).cell? ⟨g, k * 6 + 5, none⟩ = some (.int .i64 t.waits) := y5
  have zf : (X.drewN nq).frozen? ⟨g, k * 6 + 5, none⟩ = false := f5
  have zl : g < (X.drewN nq).heap.size := lg
  have ZAD : Hid ((X.drewN nq).cell? ⟨g, k * 6 + 3, none⟩ = some (.bool t.adding) ∧ (X.drewN nq).cell? ⟨g, k * 6 + 4, none⟩ = some (.int .i64 t.read)) := hid ⟨HCL.out 3 (by omega), HCL.out 4 (by omega)⟩
  have HRA : Hid (ReadsA (X.drewN nq) (.slice Aa acts.length ca) acts) := hid (by
    obtain ⟨A', c', b', o', r1, r2, r3, r4, r5⟩ := hra
    exact ⟨A', c', b', o', r1, r2, r3, r4, r5⟩)
  clear y0 y1 y2 y5 f5 lg hca lu hcu lt x1 lb hra HN
  generalize X.drewN nq = Y at HN' z1 z5 zf zl ZAD HRA ⊢
  obtain ⟨ba, oa, rfl, r0, r1, r2, _, hca2⟩ := HRA.out.at HQA.out
  have la := World.block_lt_of_cell? Y _ r0
  rw [HAK.out] at r0
  have HE0 : Hid (Blk ((Y.alloc (.cells (evArr Ev.zero) tEv)).drew) Y.heap.size tEv (evArr Ev.zero)) := hid (Blk.drew (Blk.new Y tEv _))
  go_wp2_with fail
  refine wp_region_held_drew (S := fun w' => w'.cell? ⟨g, k * 6 + 1, none⟩ = some (.int .i64 (q : Int)) ∧ w'.cell? ⟨ba, oa + q * 3, none⟩ = some (.int .i64 3) ∧ w'.cell? ⟨ba, oa + q * 3 + 1, none⟩ = some (.int .i64 a.cell) ∧ w'.cell? ⟨ba, oa + q * 3 + 2, none⟩ = some (.int .i64 a.val)) (by kernel_rfl) ?hS0 (fun hHeld => ?_)
  case hS0 =>
    try dsimp only
    go_keep
  refine wpAnyH_take (i := 1) (v := (.slice (some ⟨ba, oa, none⟩) acts.length ca)) rfl (by kernel_rfl) (by kernel_rfl) (by kernel_rfl) (fun _ _ _ h => h) (Or.inl ⟨by rfl, ?_⟩) (by assumption) ?_
  · intro w hSw
    (try dsimp only at hSw)
    first | (go_simp; done) | (go_simp; with_reducible rfl)
  try simp only [Act.put, List.setIfInBounds_toArray, List.set_cons_zero, List.set_cons_succ]
  refine wpAnyH_take (i := 2) (v := (.pointer (some ⟨g, k * 6, none⟩))) rfl (by kernel_rfl) (by kernel_rfl) (by kernel_rfl) (fun _ _ _ h => h) (Or.inl ⟨by rfl, ?_⟩) (by assumption) ?_
  · intro w hSw
    (try dsimp only at hSw)
    first | (go_simp; done) | (go_simp; with_reducible rfl)
  try simp only [Act.put, List.setIfInBounds_toArray, List.set_cons_zero, List.set_cons_succ]
  refine wpAnyH_take (i := 3) (v := (.pointer (some ⟨g, k * 6, none⟩))) rfl (by kernel_rfl) (by kernel_rfl) (by kernel_rfl) (fun _ _ _ h => h) (Or.inl ⟨by rfl, ?_⟩) (by assumption) ?_
  · intro w hSw
    (try dsimp only at hSw)
    first | (go_simp; done) | (go_simp; with_reducible rfl)
  try simp only [Act.put, List.setIfInBounds_toArray, List.set_cons_zero, List.set_cons_succ]
  refine wpAnyH_take (i := 4) (v := (.pointer (some ⟨g, k * 6 + 1, none⟩))) rfl (by kernel_rfl) (by kernel_rfl) (by kernel_rfl) (fun _ _ _ h => h) (Or.inl ⟨by rfl, ?_⟩) (by assumption) ?_
  · intro w hSw
    (try dsimp only at hSw)
    first | (go_simp; done) | (go_simp; with_reducible rfl)
  try simp only [Act.put, List.setIfInBounds_toArray, List.set_cons_zero, List.set_cons_succ]
  refine wpAnyH_take (i := 5) (v := (.int .i64 (q : Int))) rfl (by kernel_rfl) (by kernel_rfl) (by kernel_rfl) (fun _ _ _ h => h) (Or.inl ⟨by rfl, ?_⟩) (by assumption) ?_
  · intro w hSw
    (try dsimp only at hSw)
    first | (go_simp; done) | (go_simp; with_reducible rfl)
  try simp only [Act.put, List.setIfInBounds_toArray, List.set_cons_zero, List.set_cons_succ]
  refine wpAnyH_take (i := 6) (v := (.pointer (some ⟨ba, oa + q * 3, none⟩))) rfl (by kernel_rfl) (by kernel_rfl) (by kernel_rfl) (fun _ _ _ h => h) (Or.inl ⟨by rfl, ?_⟩) (by assumption) ?_
  · intro w hSw
    (try dsimp only at hSw)
    first | (go_simp; done) | (go_simp; with_reducible rfl)
  try simp only [Act.put, List.setIfInBounds_toArray, List.set_cons_zero, List.set_cons_succ]
  refine wpAnyH_take (i := 7) (v := (.pointer (some ⟨ba, oa + q * 3, none⟩))) rfl (by kernel_rfl) (by kernel_rfl) (by kernel_rfl) (fun _ _ _ h => h) (Or.inl ⟨by rfl, ?_⟩) (by assumption) ?_
  · intro w hSw
    (try dsimp only at hSw)
    first | (go_simp; done) | (go_simp; with_reducible rfl)
  try simp only [Act.put, List.setIfInBounds_toArray, List.set_cons_zero, List.set_cons_succ]
  refine wpAnyH_take (i := 8) (v := (.int .i64 3)) rfl (by kernel_rfl) (by kernel_rfl) (by kernel_rfl) (fun _ _ _ h => h) (Or.inl ⟨by rfl, ?_⟩) (by assumption) ?_
  · intro w hSw
    (try dsimp only at hSw)
    first | (go_simp; done) | (go_simp; with_reducible rfl)
  try simp only [Act.put, List.setIfInBounds_toArray, List.set_cons_zero, List.set_cons_succ]
  refine wpAnyH_take (i := 11) (v := (.pointer (some ⟨g, k * 6, none⟩))) rfl (by kernel_rfl) (by kernel_rfl) (by kernel_rfl) (fun _ _ _ h => h) (Or.inl ⟨by rfl, ?_⟩) (by assumption) ?_
  · intro w hSw
    (try dsimp only at hSw)
    first | (go_simp; done) | (go_simp; with_reducible rfl)
  try simp only [Act.put, List.setIfInBounds_toArray, List.set_cons_zero, List.set_cons_succ]
  refine wpAnyH_take (i := 12) (v := (.slice (some ⟨ba, oa, none⟩) acts.length ca)) rfl (by kernel_rfl) (by kernel_rfl) (by kernel_rfl) (fun _ _ _ h => h) (Or.inl ⟨by rfl, ?_⟩) (by assumption) ?_
  · intro w hSw
    (try dsimp only at hSw)
    first | (go_simp; done) | (go_simp; with_reducible rfl)
  try simp only [Act.put, List.setIfInBounds_toArray, List.set_cons_zero, List.set_cons_succ]
  refine wpAnyH_take (i := 13) (v := (.pointer (some ⟨g, k * 6, none⟩))) rfl (by kernel_rfl) (by kernel_rfl) (by kernel_rfl) (fun _ _ _ h => h) (Or.inl ⟨by rfl, ?_⟩) (by assumption) ?_
  · intro w hSw
    (try dsimp only at hSw)
    first | (go_simp; done) | (go_simp; with_reducible rfl)
  try simp only [Act.put, List.setIfInBounds_toArray, List.set_cons_zero, List.set_cons_succ]
  refine wpAnyH_take (i := 14) (v := (.pointer (some ⟨g, k * 6, none⟩))) rfl (by kernel_rfl) (by kernel_rfl) (by kernel_rfl) (fun _ _ _ h => h) (Or.inl ⟨by rfl, ?_⟩) (by assumption) ?_
  · intro w hSw
    (try dsimp only at hSw)
    first | (go_simp; done) | (go_simp; with_reducible rfl)
  try simp only [Act.put, List.setIfInBounds_toArray, List.set_cons_zero, List.set_cons_succ]
  refine wpAnyH_take (i := 15) (v := (.pointer (some ⟨g, k * 6 + 1, none⟩))) rfl (by kernel_rfl) (by kernel_rfl) (by kernel_rfl) (fun _ _ _ h => h) (Or.inl ⟨by rfl, ?_⟩) (by assumption) ?_
  · intro w hSw
    (try dsimp only at hSw)
    first | (go_simp; done) | (go_simp; with_reducible rfl)
  try simp only [Act.put, List.setIfInBounds_toArray, List.set_cons_zero, List.set_cons_succ]
  refine wpAnyH_take (i := 16) (v := (.int .i64 (q : Int))) rfl (by kernel_rfl) (by kernel_rfl) (by kernel_rfl) (fun _ _ _ h => h) (Or.inl ⟨by rfl, ?_⟩) (by assumption) ?_
  · intro w hSw
    (try dsimp only at hSw)
    first | (go_simp; done) | (go_simp; with_reducible rfl)
  try simp only [Act.put, List.setIfInBounds_toArray, List.set_cons_zero, List.set_cons_succ]
  refine wpAnyH_take (i := 17) (v := (.pointer (some ⟨ba, oa + q * 3, none⟩))) rfl (by kernel_rfl) (by kernel_rfl) (by kernel_rfl) (fun _ _ _ h => h) (Or.inl ⟨by rfl, ?_⟩) (by assumption) ?_
  · intro w hSw
    (try dsimp only at hSw)
    first | (go_simp; done) | (go_simp; with_reducible rfl)
  try simp only [Act.put, List.setIfInBounds_toArray, List.set_cons_zero, List.set_cons_succ]
  refine wpAnyH_take (i := 18) (v := (.agg #[.int .i64 3, .int .i64 a.cell, .int .i64 a.val])) rfl (by kernel_rfl) (by kernel_rfl) (by kernel_rfl) (fun _ _ _ h => h) (Or.inl ⟨by rfl, ?_⟩) (by assumption) ?_
  · intro w hSw
    (try dsimp only at hSw)
    first | (go_simp; done) | (go_simp; with_reducible rfl)
  try simp only [Act.put, List.setIfInBounds_toArray, List.set_cons_zero, List.set_cons_succ]
  refine wpAnyH_ready (rs := [0]) (by kernel_rfl) (by simp) ?_
  refine AllReadyH.cons rfl (fun K hK => ?_) AllReadyH.nil
  go_simp
  refine (asksCall _).mono ?_
  rintro e X1 ⟨rfl, hb1, hr1, hw1b, hk1⟩
  have hE1 := HE0.out.below hb1 (by simp)
  have hs1 := hb1.size
  simp only [World.size_drew, World.size_alloc] at hs1
  have c1 : X1.cell? ⟨Y.heap.size + 1 + 1 + 1, 3, none⟩ = some (.func (.func 33) #[] #[.pointer (some ⟨Y.heap.size + 1, 0, none⟩), .pointer (some ⟨Y.heap.size + 1 + 1, 0, none⟩)]) := (by simpa [rdV, wrV, adV] using hk1.cell 3)
  go_wp2_with fail
  refine hK.out _ _ ?_ (fun hHeld1 => ?_)
  · obtain ⟨u1, u2, u3, u4⟩ := hHeld
    exact ⟨(hb1.cell (by simp; omega)).trans u1, (hb1.cell (by simp; omega)).trans u2, (hb1.cell (by simp; omega)).trans u3, (hb1.cell (by simp; omega)).trans u4⟩
  clear hK K
  try simp only [Act.put, List.setIfInBounds_toArray, List.set_cons_zero, List.set_cons_succ]
  refine wpAnyH_take (i := 9) (v := (.pointer (some ⟨Y.heap.size + 1 + 1 + 1, 3, none⟩))) rfl (by kernel_rfl) (by kernel_rfl) (by kernel_rfl) (fun _ _ _ h => h) (Or.inl ⟨by rfl, ?_⟩) (by assumption) ?_
  · intro w hSw
    (try dsimp only at hSw)
    first | (go_simp; done) | (go_simp; with_reducible rfl)
  try simp only [Act.put, List.setIfInBounds_toArray, List.set_cons_zero, List.set_cons_succ]
  refine wpAnyH_ready (rs := [10]) (by kernel_rfl) (by simp) ?_
  refine AllReadyH.cons rfl (fun K hK => ?_) AllReadyH.nil
  go_simp
  refine hK.out _ _ ?_ (fun hHeld2 => ?_)
  · exact hHeld1
  clear hK K
  try simp only [Act.put, List.setIfInBounds_toArray, List.set_cons_zero, List.set_cons_succ]
  refine wpAnyH_ready (rs := [19]) (by kernel_rfl) (by simp) ?_
  refine AllReadyH.cons rfl (fun K hK => ?_) AllReadyH.nil
  go_simp
  have hby : Below Y.heap.size Y X1 := ((Below.refl Y.heap.size Y).alloc (Nat.le_refl _) _).drew.trans (hb1.mono (by simp))
  have hcc := askAdd ⟨g, k * 6, none⟩ ⟨3, a.cell, a.val⟩ t (Y.heap.size + 1) (Y.heap.size + 1 + 1) g (k * 6) X1 rfl ((hby.cell (p := ⟨g, k * 6 + 3, none⟩) zl).trans ZAD.out.1) ((hby.cell (p := ⟨g, k * 6 + 4, none⟩) zl).trans ZAD.out.2) (by simpa using hr1.cell 0) (by simpa using hw1b.cell 0) HV.out
  rw [if_pos HAD.out] at hcc
  simp only [evArr, evW] at hcc
  clear hby
  refine hcc.mono ?_
  rintro e X2 ⟨rfl, hb2⟩
  have hE2 := hE1.below hb2 (by omega)
  have hE2' := hE2
  simp only [evArr, Ev.zero] at hE2'
  have eo0 := hE2'.cell 0
  have eo1 := hE2'.cell 1
  have eo2 := hE2'.cell 2
  have eo3 := hE2'.cell 3
  have eo4 := hE2'.cell 4
  have eo5 := hE2'.cell 5
  have eo6 := hE2'.cell 6
  have eo7 := hE2'.cell 7
  have ef0 := hE2'.frozen 0
  have ef1 := hE2'.frozen 1
  have ef2 := hE2'.frozen 2
  have ef3 := hE2'.frozen 3
  have ef4 := hE2'.frozen 4
  have ef5 := hE2'.frozen 5
  have ef6 := hE2'.frozen 6
  have ef7 := hE2'.frozen 7
  have el := hE2'.lt
  go_wp2_with fail
  refine hK.out _ _ ?_ (fun hHeld3 => ?_)
  · obtain ⟨u1, u2, u3, u4⟩ := hHeld1
    exact ⟨(hb2.cell (by simp; omega)).trans u1, (hb2.cell (by simp; omega)).trans u2, (hb2.cell (by simp; omega)).trans u3, (hb2.cell (by simp; omega)).trans u4⟩
  clear hK K
  try simp only [Act.put, List.setIfInBounds_toArray, List.set_cons_zero, List.set_cons_succ]
  refine wpAnyH_ready (rs := [20]) (by kernel_rfl) (by simp) ?_
  refine AllReadyH.cons rfl (fun K hK => ?_) AllReadyH.nil
  go_simp
  refine hK.out _ _ ?_ (fun hHeld4 => ?_)
  · obtain ⟨u1, u2, u3, u4⟩ := hHeld3
    exact ⟨(evOnly _ _ _ _ _ _ _ _ _ _).cell u1 (by simp; omega), (evOnly _ _ _ _ _ _ _ _ _ _).cell u2 (by simp; omega), (evOnly _ _ _ _ _ _ _ _ _ _).cell u3 (by simp; omega), (evOnly _ _ _ _ _ _ _ _ _ _).cell u4 (by simp; omega)⟩
  clear hK K
  try simp only [Act.put, List.setIfInBounds_toArray, List.set_cons_zero, List.set_cons_succ]
  refine wpAnyH_done (by kernel_rfl) ?_ _
  clear hHeld hHeld1 hHeld2 hHeld3 hHeld4
  have k0 := evSet hE2 rfl (Nat.le_refl Y.heap.size) (.int .i64 2) (.int .i64 0) (.int .i64 0) (.int .i64 a.cell) (.int .i64 2) (.int .i64 0) (.int .i64 (a.val + t.read)) (.int .i64 0)
  obtain ⟨k1, k2⟩ := k0
  have hB3 : Below Y.heap.size Y ((((((((X2.setCell ⟨Y.heap.size, 0, none⟩ (.int .i64 2)).setCell ⟨Y.heap.size, 1, none⟩ (.int .i64 0)).setCell ⟨Y.heap.size, 2, none⟩ (.int .i64 0)).setCell ⟨Y.heap.size, 3, none⟩ (.int .i64 a.cell)).setCell ⟨Y.heap.size, 4, none⟩ (.int .i64 2)).setCell ⟨Y.heap.size, 5, none⟩ (.int .i64 0)).setCell ⟨Y.heap.size, 6, none⟩ (.int .i64 (a.val + t.read))).setCell ⟨Y.heap.size, 7, none⟩ (.int .i64 0)) := ((((Below.refl Y.heap.size Y).alloc (Nat.le_refl _) _).drew.trans (hb1.mono (by simp))).trans (hb2.mono (by omega))).trans k1
  clear k1 hb1 hb2 hr1 hw1b hk1 hE1 hE2 hE2' HE0 c1 eo0 ef0 eo1 ef1 eo2 ef2 eo3 ef3 eo4 ef4 eo5 ef5 eo6 ef6 eo7 ef7 el hs1
  generalize ((((((((X2.setCell ⟨Y.heap.size, 0, none⟩ (.int .i64 2)).setCell ⟨Y.heap.size, 1, none⟩ (.int .i64 0)).setCell ⟨Y.heap.size, 2, none⟩ (.int .i64 0)).setCell ⟨Y.heap.size, 3, none⟩ (.int .i64 a.cell)).setCell ⟨Y.heap.size, 4, none⟩ (.int .i64 2)).setCell ⟨Y.heap.size, 5, none⟩ (.int .i64 0)).setCell ⟨Y.heap.size, 6, none⟩ (.int .i64 (a.val + t.read))).setCell ⟨Y.heap.size, 7, none⟩ (.int .i64 0)) = X3 at k2 hB3 ⊢
  have v5 := (hB3.cell (p := ⟨g, k * 6 + 5, none⟩) zl).trans z5
  have vf := (hB3.frozen (p := ⟨g, k * 6 + 5, none⟩) zl).trans zf
  have vl : g < X3.heap.size := by have := hB3.size; omega
  have hN4 := (HN'.out.call hB3).setTh (t' := { t with waits := 2 }) H1.out (by omega : 5 < 6) rfl
  have HH := hid (happensCall hN4.wk HS2.out (List.getElem?_set_self (List.getElem?_eq_some_iff.1 H1.out).1) he9 (evW a.cell (a.val + t.read)))
  have HN4 := hid hN4
  simp only [evArr, evW] at HH
  have e0 := k2.cell 0
  have e1 := k2.cell 1
  have e2 := k2.cell 2
  have e3 := k2.cell 3
  have e4 := k2.cell 4
  have e5 := k2.cell 5
  have e6 := k2.cell 6
  have e7 := k2.cell 7
  have ek := k2.lt
  clear hN4 he9 hB3 k2 z1 z5 zf r0 r1 r2 la
  go_wp2_with fail
  refine HH.out.mono ?_
  rintro e X5 ⟨ve', rfl, hwk, hon, hvs⟩
  have hN5 := HN4.out.step hwk hon hvs
  have hO := hN5.out
  simp only [evArr, Ev.zero] at hO
  have o0 := hO.cell 0
  have o1 := hO.cell 1
  have o2 := hO.cell 2
  have o3 := hO.cell 3
  have o4 := hO.cell 4
  have o5 := hO.cell 5
  have o6 := hO.cell 6
  have o7 := hO.cell 7
  have f0 := hO.frozen 0
  have f1 := hO.frozen 1
  have f2 := hO.frozen 2
  have f3 := hO.frozen 3
  have f4 := hO.frozen 4
  have f5 := hO.frozen 5
  have f6 := hO.frozen 6
  have f7 := hO.frozen 7
  have l := hO.lt
  have HD := hid (hN5.done hle (.int .i64 2) (.int .i64 (idOf k t.tx)) (.int .i64 0) (.int .i64 a.cell) (.int .i64 2) (.int .i64 0) (.int .i64 (a.val + t.read)) (.int .i64 0))
  clear hwk hon hvs hN5 hO HH HN4
  go_wp2_with fail
  exact bodyPost_ret (resNext _ _ _ _ _ _ _ _ _ _ _ _ rfl rfl HD.out.2.2.2) rfl ⟨_, rfl, HD.out.1, HD.out.2.1, HD.out.2.2.1⟩

end Go.Proofs.YtgfmlaflochffaaGreatDoor

namespace Go.Proofs.YtgfmlaflochffaaGreatDoor
open Go.RowKit Go.Maps W

theorem askEv_kind (t : Th) (a : PAct) : (askEv t a).kind = 2 := by
  unfold askEv
  by_cases h1 : a.kind = 1
  · rw [if_pos h1]; rfl
  · rw [if_neg h1]
    by_cases h2 : a.kind = 2
    · rw [if_pos h2]; rfl
    · rw [if_neg h2]
      by_cases h3 : t.adding = true
      · rw [if_pos h3]; rfl
      · rw [if_neg h3]; rfl
theorem nextCall {B wb : Nat} {W : World} {d : Wd} {vc vt ve : Value} {g n c : Nat} (h : Wk B wb W d vc vt (.slice (some ⟨g, 0, none⟩) n c) ve) (hok : WdOk d) (he9 : d.es.length ≤ 100000) (i : Int) :
    Calls Tryz.prog 7 #[.pointer (some ⟨wb, 0, none⟩), .int .i64 i] W fun e w' => NextPost B wb W vc vt (.slice (some ⟨g, 0, none⟩) n c) ve (d.next i) e w' := by
  unfold Wd.next
  cases hl : d.live i with
  | none => exact nextDead h hok hl
  | some tl =>
    obtain ⟨t, l⟩ := tl
    obtain ⟨hi, h1, h2, hne⟩ := live_at hl
    obtain ⟨k, rfl⟩ : ∃ k : Nat, i = (k : Int) := ⟨i.toNat, by omega⟩
    simp only [Int.toNat_natCast] at h1 h2 ⊢
    have ht := hok.th _ _ _ h1 h2
    by_cases hw : t.waits ≠ 0
    · rw [if_pos hw]; exact nextWaits h hok hl hw
    · rw [if_neg hw]
      have hw0 : t.waits = 0 := by omega
      by_cases hb : t.begun = false
      · rw [if_pos hb]; exact nextBegin h hok hl hw0 hb he9
      · rw [if_neg hb]
        have hb1 : t.begun = true := by simpa using hb
        cases ha : (actsOf t l)[t.act.toNat]? with
        | none =>
          have e : nextEv t (actsOf t l) = evK 4 := by unfold nextEv; rw [ha]
          rw [e]
          exact nextTry h hok hl hw0 hb1 he9 ha
        | some a =>
          by_cases h4 : a.kind = 4
          · have e : nextEv t (actsOf t l) = evK 7 := by unfold nextEv; rw [ha]; simp [h4]
            rw [e]
            exact nextCancel h hok hl hw0 hb1 he9 ha h4
          · have e : nextEv t (actsOf t l) = askEv t a := by unfold nextEv; rw [ha]; simp [h4]
            have e2 : (askEv t a).kind = 2 := askEv_kind t a
            rw [e, e2]
            have hk : a.kind = 1 ∨ a.kind = 2 ∨ a.kind = 3 := by
              have hth := (pgOk_parts hok.ok).2.2.2.2.2 l (List.mem_of_getElem? h2)
              have hlt : t.tx.toNat < l.length := by have := ht.t0; have := ht.t1; omega
              have hacts : l[t.tx.toNat]? = some (actsOf t l) := by unfold actsOf; rw [List.getElem?_eq_getElem hlt]; rfl
              obtain ⟨_, _, hao⟩ := txOk_parts ((thrOk_parts hth).2 _ (List.mem_of_getElem? hacts))
              obtain ⟨lb, hlb⟩ := acts_mem _ _ hao a (List.mem_of_getElem? ha)
              have := actOk_kind hlb
              omega
            rcases hk with hk | hk | hk
            · exact nextRead h hok hl hw0 hb1 he9 ha hk
            · exact nextWrite h hok hl hw0 hb1 he9 ha hk
            · by_cases had : t.adding = true
              · exact nextAddW h hok hl hw0 hb1 he9 ha hk had
              · exact nextAddR h hok hl hw0 hb1 he9 ha hk (by simpa using had)
end Go.Proofs.YtgfmlaflochffaaGreatDoor
