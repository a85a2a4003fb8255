/-
  prog.Walk: Next: what goes before the acts' own calls.
-/
import Derived.Test.YtgfmlaflochffaaGreatDoorWkOfZ
import Derived.Test.YtgfmlaflochffaaGreatDoorWkHapZ
import Derived.Test.YtgfmlaflochffaaGreatDoorWkAskZ
import Derived.Deep.Cut
namespace Go.Proofs.YtgfmlaflochffaaGreatDoor
open Go.RowKit Go.Maps W
attribute [local go_sem ↓] Go.wp_at_zero Go.wp_at_succ

theorem resNext (tmps : Array Value) (X : World) (b : Nat) (a0 a1 a2 a3 a4 a5 a6 a7 v : Value) (h1 : tmps.getD 4 undef = .pointer (some ⟨b, 0, none⟩)) (h2 : tmps.getD 5 undef = v) (h : Blk X b tEv #[a0, a1, a2, a3, a4, a5, a6, a7]) :
    (results Tryz.f7 tmps).run Tryz.prog X = .ok (.tuple #[.agg #[a0, a1, a2, a3, a4, a5, a6, a7], v]) X := by
  have h1' : tmps[4]?.getD undef = .pointer (some ⟨b, 0, none⟩) := by simpa using h1
  have h2' : tmps[5]?.getD undef = v := by simpa using h2
  obtain ⟨c0, c1, c2, c3, c4, c5, c6, c7⟩ := evCells h
  simp [results, Tryz.f7, h1', h2', go_sem, c0, c1, c2, c3, c4, c5, c6, c7]
/-- The box of the answer, laid ahead of all. -/
def outO : Obj := .cells (evArr Ev.zero) tEv
structure Nx (B wb : Nat) (W X : World) (d : Wd) (vc vt vh ve0 ve : Value) : Prop where
  wk : Wk B wb X d vc vt vh ve
  out : Blk X W.heap.size tEv (evArr Ev.zero)
  only : Only (Foot wb vh ve0) W X
  vs : VeStep W ve0 ve
  ap : ve.ownBlock ≠ some W.heap.size
theorem Nx.start {B wb : Nat} {W X : World} {d : Wd} {vc vt vh ve : Value} (h : Wk B wb W d vc vt vh ve) {m : Nat} (hX : X = (W.alloc outO).drewN m) : Nx B wb W X d vc vt vh ve ve := by
  subst hX
  exact ⟨(h.alloc _).drewN m, (Blk.new W tEv _).drewN m, ((Only.refl _ W).alloc outO).drewN m, .inl rfl, fun e => by have := (row_own h.ev e).2; omega⟩
theorem Nx.lt {B wb : Nat} {W X : World} {d : Wd} {vc vt vh ve0 ve : Value} (h : Nx B wb W X d vc vt vh ve0 ve) : W.heap.size < X.heap.size := h.out.lt
theorem Nx.call {B wb : Nat} {W X X' : World} {d : Wd} {vc vt vh ve0 ve : Value} (h : Nx B wb W X d vc vt vh ve0 ve) (hb : Below X.heap.size X X') : Nx B wb W X' d vc vt vh ve0 ve :=
  ⟨h.wk.call hb, h.out.below hb h.out.lt, h.only.trans (Only.of_below (S := []) hb (Nat.le_refl _)) (by simp), h.vs, h.ap⟩
/-- A store into a thread. -/
theorem Nx.setTh {B wb : Nat} {W X : World} {d : Wd} {vc vt ve0 ve : Value} {g n c : Nat} (h : Nx B wb W X d vc vt (.slice (some ⟨g, 0, none⟩) n c) ve0 ve) {k r : Nat} {t t' : Th} {v : Value} (hk : d.ts[k]? = some t) (hr : r < 6) (ht : (thArr t').toList = (thArr t).toList.set r v) :
    Nx B wb W (X.setCell ⟨g, k * 6 + r, none⟩ v) ⟨d.p, d.ts.set k t', d.es⟩ vc vt (.slice (some ⟨g, 0, none⟩) n c) ve0 ve := by
  obtain ⟨cg, hg⟩ := row_type h.wk.th (g := g) rfl
  exact ⟨(h.wk.setTh hk hr ht).1, h.out.far (p := ⟨g, k * 6 + r, none⟩) (type_ne h.out hg (by decide)) v, h.only.setCell (p := ⟨g, k * 6 + r, none⟩) (.inl (foot_vh rfl)) v, h.vs, h.ap⟩
/-- A step of the walk's own. -/
theorem Nx.step {B wb : Nat} {W X X' : World} {d d' : Wd} {vc vt vh ve0 ve ve' : Value} (h : Nx B wb W X d vc vt vh ve0 ve) (hw : Wk B wb X' d' vc vt vh ve') (ho : Only (Foot wb vh ve) X X') (hv : VeStep X ve ve') : Nx B wb W X' d' vc vt vh ve0 ve' := by
  have hlt := h.out.lt
  have hs := h.only.size
  have hoff : Off wb vh ve W.heap.size := ⟨fun e => type_ne h.out h.wk.box (by decide) e, fun e => by
    obtain ⟨cg, hg⟩ := row_type h.wk.th e
    exact type_ne h.out hg (by decide) rfl, h.ap⟩
  exact ⟨hw, h.out.only ho hoff.notin, h.only.trans ho (fun x hx => foot_step h.vs x hx), h.vs.trans hv hs, (hoff.step hlt hv).2.2⟩
theorem Nx.done {B wb : Nat} {W X : World} {d : Wd} {vc vt vh ve0 ve : Value} (h : Nx B wb W X d vc vt vh ve0 ve) (hB : B ≤ W.heap.size) (a0 a1 a2 a3 a4 a5 a6 a7 : Value) :
    Wk B wb ((((((((X.setCell ⟨W.heap.size, 0, none⟩ a0).setCell ⟨W.heap.size, 1, none⟩ a1).setCell ⟨W.heap.size, 2, none⟩ a2).setCell ⟨W.heap.size, 3, none⟩ a3).setCell ⟨W.heap.size, 4, none⟩ a4).setCell ⟨W.heap.size, 5, none⟩ a5).setCell ⟨W.heap.size, 6, none⟩ a6).setCell ⟨W.heap.size, 7, none⟩ a7) d vc vt vh ve ∧ Only (Foot wb vh ve0) W ((((((((X.setCell ⟨W.heap.size, 0, none⟩ a0).setCell ⟨W.heap.size, 1, none⟩ a1).setCell ⟨W.heap.size, 2, none⟩ a2).setCell ⟨W.heap.size, 3, none⟩ a3).setCell ⟨W.heap.size, 4, none⟩ a4).setCell ⟨W.heap.size, 5, none⟩ a5).setCell ⟨W.heap.size, 6, none⟩ a6).setCell ⟨W.heap.size, 7, none⟩ a7) ∧ VeStep W ve0 ve ∧ Blk ((((((((X.setCell ⟨W.heap.size, 0, none⟩ a0).setCell ⟨W.heap.size, 1, none⟩ a1).setCell ⟨W.heap.size, 2, none⟩ a2).setCell ⟨W.heap.size, 3, none⟩ a3).setCell ⟨W.heap.size, 4, none⟩ a4).setCell ⟨W.heap.size, 5, none⟩ a5).setCell ⟨W.heap.size, 6, none⟩ a6).setCell ⟨W.heap.size, 7, none⟩ a7) W.heap.size tEv #[a0, a1, a2, a3, a4, a5, a6, a7] := by
  obtain ⟨k1, k2, k3⟩ := evOut h.wk h.out rfl h.ap hB a0 a1 a2 a3 a4 a5 a6 a7
  exact ⟨k1, h.only.trans (evOnly _ _ _ _ _ _ _ _ _ _) (fun x hx => .inr (by simp at hx; omega)), h.vs, k3⟩
abbrev NextPost (B wb : Nat) (W : World) (vc vt vh ve : Value) (r : (Ev × Bool) × Wd) (e : Ending) (w' : World) : Prop :=
  ∃ ve', e = .returned (.tuple #[.agg (evArr r.1.1), .bool r.1.2]) ∧ Wk B wb w' r.2 vc vt vh ve' ∧ Only (Foot wb vh ve) W w' ∧ VeStep W ve ve'
set_option maxHeartbeats 8000000 in
set_option maxRecDepth 100000 in
theorem nextDead {B wb : Nat} {W : World} {d : Wd} {vc vt ve : Value} {g n c : Nat} (h : Wk B wb W d vc vt (.slice (some ⟨g, 0, none⟩) n c) ve) (hok : WdOk d) {i : Int} (hl : d.live i = none) :
    Calls Tryz.prog 7 #[.pointer (some ⟨wb, 0, none⟩), .int .i64 i] W fun e w' => NextPost B wb W vc vt (.slice (some ⟨g, 0, none⟩) n c) ve ((Ev.zero, false), d) e w' := by
  have hle : B ≤ W.heap.size := by have := h.le; have := h.box.lt; omega
  have HO := hid (ofDead (h.alloc outO) hok hl)
  have H := hid h
  clear h hok hl
  go_enter Tryz.func7, Tryz.ntmps7
  go_wp2_with fail
  refine HO.out.mono ?_
  rintro e X ⟨rfl, m, hX⟩
  have hN := Nx.start H.out hX
  have HN := hid hN
  have hO := hN.out
  simp only [evArr, Ev.zero] at hO
  have o0 := hO.cell 0
  have o1 := hO.cell 1
  have o2 := hO.cell 2
  have o3 := hO.cell 3
  have o4 := hO.cell 4
  have o5 := hO.cell 5
  have o6 := hO.cell 6
  have o7 := hO.cell 7
  have f0 := hO.frozen 0
  have f1 := hO.frozen 1
  have f2 := hO.frozen 2
  have f3 := hO.frozen 3
  have f4 := hO.frozen 4
  have f5 := hO.frozen 5
  have f6 := hO.frozen 6
  have f7 := hO.frozen 7
  have l := hO.lt
  have HD := hid (HN.out.done hle (.int .i64 0) (.int .i64 0) (.int .i64 0) (.int .i64 0) (.int .i64 0) (.int .i64 0) (.int .i64 0) (.int .i64 0))
  clear hX hN hO HO H
  go_wp2_with fail
  exact bodyPost_ret (resNext _ _ _ _ _ _ _ _ _ _ _ _ rfl rfl HD.out.2.2.2) rfl ⟨_, rfl, HD.out.1, HD.out.2.1, HD.out.2.2.1⟩
set_option maxHeartbeats 8000000 in
set_option maxRecDepth 100000 in
theorem nextWaits {B wb : Nat} {W : World} {d : Wd} {vc vt ve : Value} {g n c : Nat} (h : Wk B wb W d vc vt (.slice (some ⟨g, 0, none⟩) n c) ve) (hok : WdOk d) {k : Nat} {t : Th} {l : List (List PAct)} (hl : d.live k = some (t, l)) (hw : t.waits ≠ 0) :
    Calls Tryz.prog 7 #[.pointer (some ⟨wb, 0, none⟩), .int .i64 (k : Int)] W fun e w' => NextPost B wb W vc vt (.slice (some ⟨g, 0, none⟩) n c) ve ((Ev.zero, false), d) e w' := by
  have hle : B ≤ W.heap.size := by have := h.le; have := h.box.lt; omega
  obtain ⟨_, h1, h2, hne⟩ := live_at hl
  simp only [Int.toNat_natCast] at h1 h2
  have HO := hid (ofLive (h.alloc outO) hok hl)
  have H := hid h
  have HK := hid h1
  have hw1 : (t.waits != 0) = true := by simpa using hw
  clear hw
  clear h hok hl h1 h2 hne
  go_enter Tryz.func7, Tryz.ntmps7
  go_wp2_with fail
  refine HO.out.mono ?_
  rintro e X ⟨rfl, m, hX⟩
  have hN := Nx.start H.out hX
  have HN := hid hN
  obtain ⟨g', c', hv, _, lg, hkl, hnc, hcl, hfz⟩ := hN.wk.thAt HK.out
  injection hv with e1 e2 e3
  injection e1 with e1
  injection e1 with e1
  subst e1 e2 e3
  have y5 : X.cell? ⟨g, k * 6 + 5, none⟩ = some (.int .i64 t.waits) := hcl 5 (by omega)
  have hO := hN.out
  simp only [evArr, Ev.zero] at hO
  have o0 := hO.cell 0
  have o1 := hO.cell 1
  have o2 := hO.cell 2
  have o3 := hO.cell 3
  have o4 := hO.cell 4
  have o5 := hO.cell 5
  have o6 := hO.cell 6
  have o7 := hO.cell 7
  have f0 := hO.frozen 0
  have f1 := hO.frozen 1
  have f2 := hO.frozen 2
  have f3 := hO.frozen 3
  have f4 := hO.frozen 4
  have f5 := hO.frozen 5
  have f6 := hO.frozen 6
  have f7 := hO.frozen 7
  have l := hO.lt
  have HD := hid (HN.out.done hle (.int .i64 0) (.int .i64 0) (.int .i64 0) (.int .i64 0) (.int .i64 0) (.int .i64 0) (.int .i64 0) (.int .i64 0))
  clear hX hN hO HO H hcl hfz
  go_wp2_with fail
  exact bodyPost_ret (resNext _ _ _ _ _ _ _ _ _ _ _ _ rfl rfl HD.out.2.2.2) rfl ⟨_, rfl, HD.out.1, HD.out.2.1, HD.out.2.2.1⟩
set_option maxHeartbeats 8000000 in
set_option maxRecDepth 100000 in
theorem nextBegin {B wb : Nat} {W : World} {d : Wd} {vc vt ve : Value} {g n c : Nat} (h : Wk B wb W d vc vt (.slice (some ⟨g, 0, none⟩) n c) ve) (hok : WdOk d) {k : Nat} {t : Th} {l : List (List PAct)} (hl : d.live k = some (t, l)) (hw : t.waits = 0) (hb : t.begun = false) (he9 : d.es.length ≤ 100000) :
    Calls Tryz.prog 7 #[.pointer (some ⟨wb, 0, none⟩), .int .i64 (k : Int)] W fun e w' => NextPost B wb W vc vt (.slice (some ⟨g, 0, none⟩) n c) ve (d.put k t.tx { t with begun := true } (evB k)) e w' := by
  have hle : B ≤ W.heap.size := by have := h.le; have := h.box.lt; omega
  obtain ⟨_, h1, h2, hne⟩ := live_at hl
  simp only [Int.toNat_natCast] at h1 h2
  have HO := hid (ofLive (h.alloc outO) hok hl)
  have H := hid h
  have HK := hid h1
  have hw1 : (t.waits != 0) = false := by simpa using hw
  have HT1 := hid (show (thArr { t with begun := true }).toList = (thArr t).toList.set 2 (.bool true) from rfl)
  have HOK : Hid (WdOk ⟨d.p, d.ts.set k { t with begun := true }, d.es⟩) := hid (hok.set fun l' hl' => by
    rw [h2] at hl'
    injection hl' with hl'
    subst hl'
    have ht := hok.th _ _ _ h1 h2
    exact ⟨ht.t0, ht.t1, ht.a0, ht.w, fun _ => rfl, ht.r, ht.a1, ht.a2, ht.a3⟩)
  have HK1 : Hid ((d.ts.set k { t with begun := true })[k]? = some { t with begun := true }) := hid (List.getElem?_set_self (List.getElem?_eq_some_iff.1 h1).1)
  clear hw
  clear h hok hl h1 h2 hne
  go_enter Tryz.func7, Tryz.ntmps7
  go_wp2_with fail
  refine HO.out.mono ?_
  rintro e X ⟨rfl, m, hX⟩
  have hN := Nx.start H.out hX
  have HN := hid hN
  obtain ⟨g', c', hv, _, lg, hkl, hnc, hcl, hfz⟩ := hN.wk.thAt HK.out
  injection hv with e1 e2 e3
  injection e1 with e1
  injection e1 with e1
  subst e1 e2 e3
  have y5 : X.cell? ⟨g, k * 6 + 5, none⟩ = some (.int .i64 t.waits) := hcl 5 (by omega)
  have y2 : X.cell? ⟨g, k * 6 + 2, none⟩ = some (.bool t.begun) := hcl 2 (by omega)
  rw [hb] at y2
  have f2 := hfz (k * 6 + 2)
  have hN1 := HN.out.setTh (t' := { t with begun := true }) HK.out (by omega) HT1.out
  have HH := hid (happensCall hN1.wk HOK.out HK1.out he9 (evB k))
  have HN1 := hid hN1
  clear hX hN hN1 HO H hcl hfz hb he9
  simp only [evArr, evB] at HH
  go_wp2_with fail
  refine HH.out.mono ?_
  rintro e X2 ⟨ve', rfl, hwk, hon, hvs⟩
  have hN2 := HN1.out.step hwk hon hvs
  have hO := hN2.out
  simp only [evArr, Ev.zero] at hO
  have o0 := hO.cell 0
  have o1 := hO.cell 1
  have o2 := hO.cell 2
  have o3 := hO.cell 3
  have o4 := hO.cell 4
  have o5 := hO.cell 5
  have o6 := hO.cell 6
  have o7 := hO.cell 7
  have f0 := hO.frozen 0
  have f1 := hO.frozen 1
  have f2 := hO.frozen 2
  have f3 := hO.frozen 3
  have f4 := hO.frozen 4
  have f5 := hO.frozen 5
  have f6 := hO.frozen 6
  have f7 := hO.frozen 7
  have l := hO.lt
  have HD := hid (hN2.done hle (.int .i64 1) (.int .i64 (idOf k t.tx)) (.int .i64 k) (.int .i64 0) (.int .i64 0) (.int .i64 0) (.int .i64 0) (.int .i64 0))
  clear hwk hon hvs hN2 hO HH HN1
  go_wp2_with fail
  exact bodyPost_ret (resNext _ _ _ _ _ _ _ _ _ _ _ _ rfl rfl HD.out.2.2.2) rfl ⟨_, rfl, HD.out.1, HD.out.2.1, HD.out.2.2.1⟩
end Go.Proofs.YtgfmlaflochffaaGreatDoor
