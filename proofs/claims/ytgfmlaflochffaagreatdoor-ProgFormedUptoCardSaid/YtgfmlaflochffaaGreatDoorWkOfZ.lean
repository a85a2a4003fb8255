/-
  prog.Walk: of.
-/
import Derived.Test.YtgfmlaflochffaaGreatDoorWkZ
import Derived.Deep.QuietTactic
import Derived.BigQuiet
import Derived.RegionTactic
import Derived.Outline
namespace Go.Proofs.YtgfmlaflochffaaGreatDoor
open Go.RowKit Go.Maps W
attribute [local go_sem ↓] Go.wp_at_zero Go.wp_at_succ

set_option maxHeartbeats 4000000 in
set_option maxRecDepth 100000 in
theorem ofLive {B wb : Nat} {W : World} {d : Wd} {vc vt ve : Value} {g n c : Nat} (h : Wk B wb W d vc vt (.slice (some ⟨g, 0, none⟩) n c) ve) (hok : WdOk d) {k : Nat} {t : Th} {l : List (List PAct)} (hl : d.live k = some (t, l)) :
    Calls Tryz.prog 20 #[.pointer (some ⟨wb, 0, none⟩), .int .i64 (k : Int)] W fun e w' => e = .returned (.tuple #[.pointer (some ⟨g, k * 6, none⟩), .bool true]) ∧ ∃ m, w' = W.drewN m := by
  obtain ⟨_, h1, h2, hne⟩ := live_at hl
  simp only [Int.toNat_natCast] at h1 h2
  obtain ⟨g', c', he, _, lg, hk, hnc, hcl, hfz⟩ := h.thAt h1
  injection he with e1 e2 e3
  injection e1 with e1
  injection e1 with e1
  subst e1 e2 e3
  obtain ⟨gt, ct, u, rfl, hct, hcu, hru⟩ := h.txsAt h2
  obtain ⟨Au, cu, rfl⟩ := hru.shape
  have x1 := h.box.cell 1
  have x2 := h.box.cell 2
  have lb := h.box.lt
  have y0 : W.cell? ⟨g, k * 6, none⟩ = some (.int .i64 t.tx) := hcl 0 (by omega)
  have lt := World.block_lt_of_cell? W _ hcu
  have hlen := hok.len
  have hok4 := (pgOk_parts hok.ok).2.2.2.1
  have q0 : decide ((k : Int) < 0) = false := by simp
  have q1 : decide (d.ts.length ≤ k) = false := by simpa using hk
  have q2 : (t.tx == (l.length : Int)) = false := by simpa using hne
  have hl0 : (0 : Int) ≤ (k : Int) := by omega
  have hl1 : (k : Int) < (d.ts.length : Int) := by omega
  have hl2 : (k : Int) < (d.p.threads.length : Int) := by omega
  have hk4 : k ≤ 4 := by omega
  clear h hok hl h1 h2 hne hcl hfz hru hlen
  go_enter Tryz.func20, Tryz.ntmps20
  go_wp2_with fail
  go_quiet (fail)
  all_goals (go_wp2_with fail; go_ret2; exact ⟨rfl, _, rfl⟩)
theorem live_none {d : Wd} {i : Int} (h : d.live i = none) (hok : WdOk d) : i < 0 ∨ ∃ k : Nat, i = (k : Int) ∧ (d.ts.length ≤ k ∨ ∃ t l, d.ts[k]? = some t ∧ d.p.threads[k]? = some l ∧ t.tx = l.length) := by
  by_cases hi : i < 0
  · exact .inl hi
  · refine .inr ⟨i.toNat, by omega, ?_⟩
    unfold Wd.live at h
    rw [if_neg hi] at h
    by_cases hlt : i.toNat < d.ts.length
    · have hlt2 : i.toNat < d.p.threads.length := by rw [← hok.len]; exact hlt
      rw [List.getElem?_eq_getElem hlt, List.getElem?_eq_getElem hlt2] at h
      simp only at h
      by_cases he : (d.ts[i.toNat]).tx = (d.p.threads[i.toNat]).length
      · exact .inr ⟨_, _, List.getElem?_eq_getElem hlt, List.getElem?_eq_getElem hlt2, he⟩
      · rw [if_neg he] at h; cases h
    · exact .inl (by omega)
set_option maxHeartbeats 4000000 in
set_option maxRecDepth 100000 in
theorem ofDead {B wb : Nat} {W : World} {d : Wd} {vc vt ve : Value} {g n c : Nat} (h : Wk B wb W d vc vt (.slice (some ⟨g, 0, none⟩) n c) ve) (hok : WdOk d) {i : Int} (hl : d.live i = none) :
    Calls Tryz.prog 20 #[.pointer (some ⟨wb, 0, none⟩), .int .i64 i] W fun e w' => e = .returned (.tuple #[.pointer none, .bool false]) ∧ ∃ m, w' = W.drewN m := by
  have x2 := h.box.cell 2
  have lb := h.box.lt
  rcases live_none hl hok with hi | ⟨k, rfl, hk | ⟨t, l, h1, h2, he⟩⟩
  · have q0 : decide (i < 0) = true := by simpa using hi
    clear h hok hl hi
    go_enter Tryz.func20, Tryz.ntmps20
    go_wp2_with fail
    go_quiet (fail)
    all_goals (go_wp2_with fail; go_ret2; exact ⟨rfl, _, rfl⟩)
  · obtain ⟨An, cn, he⟩ := row_shape h.th
    injection he with e1 e2 e3
    subst e2
    have q0 : decide ((k : Int) < 0) = false := by simp
    have q1 : decide (d.ts.length ≤ k) = true := by simpa using hk
    clear h hok hl hk e1 e3
    go_enter Tryz.func20, Tryz.ntmps20
    go_wp2_with fail
    go_quiet (fail)
    all_goals (go_wp2_with fail; go_ret2; exact ⟨rfl, _, rfl⟩)
  · obtain ⟨g', c', hv, _, lg, hk, hnc, hcl, hfz⟩ := h.thAt h1
    injection hv with e1 e2 e3
    injection e1 with e1
    injection e1 with e1
    subst e1 e2 e3
    obtain ⟨gt, ct, u, rfl, hct, hcu, hru⟩ := h.txsAt h2
    obtain ⟨Au, cu, rfl⟩ := hru.shape
    have x1 := h.box.cell 1
    have y0 : W.cell? ⟨g, k * 6, none⟩ = some (.int .i64 t.tx) := hcl 0 (by omega)
    have lt := World.block_lt_of_cell? W _ hcu
    have hlen := hok.len
    have hok4 := (pgOk_parts hok.ok).2.2.2.1
    have q0 : decide ((k : Int) < 0) = false := by simp
    have q1 : decide (d.ts.length ≤ k) = false := by simpa using hk
    have q2 : (t.tx == (l.length : Int)) = true := by simpa using he
    have hl0 : (0 : Int) ≤ (k : Int) := by omega
    have hl1 : (k : Int) < (d.ts.length : Int) := by omega
    have hl2 : (k : Int) < (d.p.threads.length : Int) := by omega
    have hk4 : k ≤ 4 := by omega
    clear h hok hl h1 h2 he hcl hfz hru hlen
    go_enter Tryz.func20, Tryz.ntmps20
    go_wp2_with fail
    go_quiet (fail)
    all_goals (go_wp2_with fail; go_ret2; exact ⟨rfl, _, rfl⟩)
end Go.Proofs.YtgfmlaflochffaaGreatDoor
