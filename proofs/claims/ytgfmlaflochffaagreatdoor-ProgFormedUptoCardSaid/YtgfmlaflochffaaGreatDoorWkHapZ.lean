/-
  prog.Walk: happens.
-/
import Derived.Test.YtgfmlaflochffaaGreatDoorWkZ
import Derived.Deep.RegionHeld3
import Derived.Deep.AppendLies
import Derived.Deep.DrawnRows
import Derived.Outline
namespace Go.Proofs.YtgfmlaflochffaaGreatDoor
open Go.RowKit Go.Maps W
attribute [local go_sem ↓] Go.wp_at_zero Go.wp_at_succ

theorem res_cells {X : World} {b : Nat} {a0 a1 a2 a3 a4 a5 a6 a7 : Value} (h : Blk X b tEv #[a0, a1, a2, a3, a4, a5, a6, a7]) : X.cell? ⟨b, 0, none⟩ = some a0 ∧ X.cell? ⟨b, 1, none⟩ = some a1 ∧ X.cell? ⟨b, 2, none⟩ = some a2 ∧ X.cell? ⟨b, 3, none⟩ = some a3 ∧ X.cell? ⟨b, 4, none⟩ = some a4 ∧ X.cell? ⟨b, 5, none⟩ = some a5 ∧ X.cell? ⟨b, 6, none⟩ = some a6 ∧ X.cell? ⟨b, 7, none⟩ = some a7 := ⟨h.cell 0, h.cell 1, h.cell 2, h.cell 3, h.cell 4, h.cell 5, h.cell 6, h.cell 7⟩
theorem resHap (tmps : Array Value) (X : World) (b : Nat) (a0 a1 a2 a3 a4 a5 a6 a7 v : Value) (h6 : tmps.getD 6 undef = .pointer (some ⟨b, 0, none⟩)) (h7 : tmps.getD 7 undef = v) (h : Blk X b tEv #[a0, a1, a2, a3, a4, a5, a6, a7]) :
    (results Tryz.f21 tmps).run Tryz.prog X = .ok (.tuple #[.agg #[a0, a1, a2, a3, a4, a5, a6, a7], v]) X := by
  have h6' : tmps[6]?.getD undef = .pointer (some ⟨b, 0, none⟩) := by simpa using h6
  have h7' : tmps[7]?.getD undef = v := by simpa using h7
  obtain ⟨c0, c1, c2, c3, c4, c5, c6, c7⟩ := res_cells h
  simp [results, Tryz.f21, h6', h7', go_sem, c0, c1, c2, c3, c4, c5, c6, c7]

set_option maxHeartbeats 16000000 in
set_option maxRecDepth 100000 in
theorem happensCall {B wb : Nat} {W : World} {d : Wd} {vc vt ve : Value} {g n c : Nat} (h : Wk B wb W d vc vt (.slice (some ⟨g, 0, none⟩) n c) ve) (hok : WdOk d) {k : Nat} {t : Th} (hk : d.ts[k]? = some t) (he9 : d.es.length ≤ 100000) (e : Ev) :
    Calls Tryz.prog 21 #[.pointer (some ⟨wb, 0, none⟩), .int .i64 (k : Int), .agg (evArr e)] W fun r w' => ∃ ve', r = .returned (.tuple #[.agg (evArr { e with tx := idOf k t.tx }), .bool true]) ∧ Wk B wb w' ⟨d.p, d.ts, d.es ++ [{ e with tx := idOf k t.tx }]⟩ vc vt (.slice (some ⟨g, 0, none⟩) n c) ve' ∧ Only (Foot wb (.slice (some ⟨g, 0, none⟩) n c) ve) W w' ∧ VeStep W ve ve' := by
  obtain ⟨g', c', hv, _, lg, hkl, hnc, hcl, hfz⟩ := h.thAt hk
  injection hv with e1 e2 e3
  injection e1 with e1
  injection e1 with e1
  subst e1 e2 e3
  obtain ⟨i0, hi, hz0, hz1, hz2⟩ := info_parts infoEv
  obtain ⟨Ae, ce, rfl⟩ := row_shape h.ev
  have x2 := h.box.cell 2
  have x3 := h.box.cell 3
  have f3 := h.box.frozen 3
  have lb := h.box.lt
  have y0 : W.cell? ⟨g, k * 6, none⟩ = some (.int .i64 t.tx) := hcl 0 (by omega)
  have hok4 := (pgOk_parts hok.ok).2.2.2.1
  have hlen := hok.len
  have hl0 : (0 : Int) ≤ (k : Int) := by omega
  have hl1 : (k : Int) < (d.ts.length : Int) := by omega
  have hk4 : k ≤ 4 := by omega
  have HI := hid (fun w => idCall (k : Int) t.tx w)
  have H := hid h
  have nb : (Value.slice Ae d.es.length ce).ownBlock ≠ some wb := Blk.apartRow h.box h.ev (by decide)
  have ne : (Value.slice Ae d.es.length ce).ownBlock ≠ some W.heap.size := fun e => by have := (row_own h.ev e).2; omega
  have HNB := hid nb
  have HNE := hid ne
  have HEV := hid h.ev
  have HBX := hid h.box
  have HC3 : ∀ o1 o2 o3, (((W.alloc o1).alloc o2).alloc o3).cell? ⟨wb, 3, none⟩ = some (Value.slice Ae d.es.length ce) := fun o1 o2 o3 => Blk.cell (Blk.alloc (Blk.alloc (Blk.alloc h.box o1) o2) o3) 3
  have HNO := hid (show (Value.slice Ae d.es.length ce).ownBlock ≠ some (W.heap.size + 1) from fun e => by have := (row_own h.ev e).2; omega)
  have hle : B ≤ W.heap.size := by have := h.le; omega
  clear nb ne
  obtain ⟨m, hm⟩ : ∃ m, idOf (k : Int) t.tx = m := ⟨_, rfl⟩
  rw [hm] at HI ⊢
  clear h hok hk hcl hfz hlen hm
  have HE2 : Hid (∀ o2, Blk ((W.alloc (.cells (evArr { e with tx := m }) tEv)).alloc o2) W.heap.size tEv (evArr { e with tx := m })) := hid (fun o2 => (Blk.new W tEv _).alloc o2)
  have HO2 : Hid (∀ o1, Blk ((W.alloc o1).alloc (.cells (evArr Ev.zero) tEv)) (W.heap.size + 1) tEv (evArr Ev.zero)) := hid (fun o1 => by have h9 := Blk.new (W.alloc o1) tEv (evArr Ev.zero); simpa using h9)
  have HADD : Hid (∀ (o1 o2 o3 : Obj) (w1 : World) (v' : Value), w1.ownsRow B tEv 8 v' (d.es.length + 1) (flatEv d.es ++ (evArr { e with tx := m }).toList) → (((W.alloc o1).alloc o2).alloc o3).drew.grownBy w1 (Value.slice Ae d.es.length ce).ownBlock → Wk B wb (w1.setCell ⟨wb, 3, none⟩ v') ⟨d.p, d.ts, d.es ++ [{ e with tx := m }]⟩ vc vt (.slice (some ⟨g, 0, none⟩) d.ts.length c) v' ∧ Only (Foot wb (.slice (some ⟨g, 0, none⟩) d.ts.length c) (.slice Ae d.es.length ce)) W (w1.setCell ⟨wb, 3, none⟩ v')) := hid (by
    intro o1 o2 o3 w1 v' ho hg
    obtain ⟨k1, k2⟩ := Wk.addEv (((H.out.alloc o1).alloc o2).alloc o3).drew ho hg
    exact ⟨k1, ((((((Only.refl _ W).alloc o1).alloc o2).alloc o3).drew.grown hg (fun k e => .inl (foot_ve e)))).setCell (p := ⟨wb, 3, none⟩) (.inl (foot_wb _ _ _)) v'⟩)
  have HN3 : Hid (∀ o1 o2, (((W.alloc o1).alloc o2).alloc (.cells (evArr { e with tx := m }) tEv)).drew.heap[W.heap.size + 1 + 1]? = some (.cells (evArr { e with tx := m }) tEv)) := hid (fun o1 o2 => by
    have h9 := heap_alloc_new ((W.alloc o1).alloc o2) (.cells (evArr { e with tx := m }) tEv)
    have h10 : (((W.alloc o1).alloc o2).alloc (.cells (evArr { e with tx := m }) tEv)).heap[W.heap.size + 1 + 1]? = some (.cells (evArr { e with tx := m }) tEv) := by simpa using h9
    exact h10)
  simp only [evArr]
  go_enter Tryz.func21, Tryz.ntmps21
  go_wp2_with fail
  refine (HI.out _).mono ?_
  rintro r w1 ⟨rfl, rfl⟩
  go_wp2_with fail
  go_region_law (refine step_append_lies _ (by rfl) _ _ _ (by rfl) B tEv i0 _ 8 64 Tryz.underlying44 hi hz0 hz1 hz2 rfl (by omega) (.slice Ae d.es.length ce) d.es.length (flatEv d.es) (by rfl) (((HEV.out.alloc _).alloc _).alloc _).drew ⟨W.heap.size + 1 + 1, 0, none⟩ 1 1 (evArr { e with tx := m }).toList (by rfl) (by simp [evArr]) (World.news_of_block (cs := evArr { e with tx := m }) (t := tEv) (fr := (0, 0)) (HN3.out _ _)) (evArr_one _) (by omega) (by unfold maxLen; omega) (by omega) (by simp; omega) (W.heap.size + 1 + 1 + 1) (by simp) ?_; intro gg cap w1 hown1 hgrow hat hlt; have hB1 := (Blk.drew (Blk.alloc (Blk.alloc (Blk.alloc HBX.out _) _) _)).grown hgrow (Ne.symm HNB.out); have g3 := hB1.frozen 3; have g4 := hB1.cell 3; have l3 := hB1.lt)
  all_goals (
    have hX1 := hid (HADD.out _ _ _ _ _ hown1 hgrow)
    have hEb := ((Blk.drew (Blk.alloc (HE2.out _) _)).grown hgrow (Ne.symm HNE.out)).far (p := ⟨wb, 3, none⟩) (by simp; omega) (.slice (some ⟨gg, 0, none⟩) (d.es.length + 1) cap)
    have hOb := ((Blk.drew (Blk.alloc (HO2.out _) _)).grown hgrow (Ne.symm HNO.out)).far (p := ⟨wb, 3, none⟩) (by simp; omega) (.slice (some ⟨gg, 0, none⟩) (d.es.length + 1) cap)
    have HOB := hid hOb
    have HAT := hid hat
    clear hown1 hgrow hB1
    have hgo : (Value.slice (some ⟨gg, 0, none⟩) (d.es.length + 1) cap).ownBlock ≠ some (W.heap.size + 1) := by
      intro x
      have x2 : gg = W.heap.size + 1 := by simpa [Value.ownBlock] using x
      rcases hat with y | y
      · exact HNO.out (by rw [y, x2])
      · omega
    have HVS := hid (show VeStep W (.slice Ae d.es.length ce) (.slice (some ⟨gg, 0, none⟩) (d.es.length + 1) cap) from by
      rcases hat with y | y
      · exact .inl (by rw [y]; rfl)
      · exact .inr ⟨gg, rfl, by omega⟩)
    have HO8 := hid (evOut hX1.out.1 hOb rfl hgo (show B ≤ W.heap.size + 1 by omega) (.int .i64 e.kind) (.int .i64 m) (.int .i64 e.thr) (.int .i64 e.obj) (.int .i64 e.op) (.int .i64 e.key) (.int .i64 e.val) (.int .i64 e.ret))
    simp only [evArr] at hEb
    simp only [evArr, Ev.zero] at hOb
    have e0 := hEb.cell 0
    have e1 := hEb.cell 1
    have e2 := hEb.cell 2
    have e3 := hEb.cell 3
    have e4 := hEb.cell 4
    have e5 := hEb.cell 5
    have e6 := hEb.cell 6
    have e7 := hEb.cell 7
    have o0 := hOb.cell 0
    have o1 := hOb.cell 1
    have o2 := hOb.cell 2
    have o3 := hOb.cell 3
    have o4 := hOb.cell 4
    have o5 := hOb.cell 5
    have o6 := hOb.cell 6
    have o7 := hOb.cell 7
    have fo0 := hOb.frozen 0
    have fo1 := hOb.frozen 1
    have fo2 := hOb.frozen 2
    have fo3 := hOb.frozen 3
    have fo4 := hOb.frozen 4
    have fo5 := hOb.frozen 5
    have fo6 := hOb.frozen 6
    have fo7 := hOb.frozen 7
    have lo := hOb.lt
    clear hat hEb hOb hgo
    go_wp2_with fail
    exact bodyPost_ret (resHap _ _ _ _ _ _ _ _ _ _ _ _ rfl rfl HO8.out.2.2) rfl ⟨_, rfl, HO8.out.1, hX1.out.2.trans (evOnly _ _ _ _ _ _ _ _ _ _) (fun x hx => .inr (by simp at hx; omega)), HVS.out⟩)
end Go.Proofs.YtgfmlaflochffaaGreatDoor
