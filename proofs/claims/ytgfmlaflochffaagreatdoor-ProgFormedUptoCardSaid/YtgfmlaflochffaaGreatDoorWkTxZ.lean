/-
  prog.Walk: Tx, Done.
-/
import Derived.Test.YtgfmlaflochffaaGreatDoorWkOfZ
import Derived.Test.YtgfmlaflochffaaGreatDoorPMemZ
namespace Go.Proofs.YtgfmlaflochffaaGreatDoor
open Go.RowKit Go.Maps W
attribute [local go_sem ↓] Go.wp_at_zero Go.wp_at_succ

def Wd.txOf (d : Wd) (i : Int) : Int × Bool := match d.live i with
  | none => (0, false)
  | some (t, _) => if t.begun = true then (idOf i t.tx, true) else (0, false)
def Wd.doneOf (d : Wd) (i : Int) : Bool := (d.live i).isNone
theorem doneCall {B wb : Nat} {W : World} {d : Wd} {vc vt ve : Value} {g n c : Nat} (h : Wk B wb W d vc vt (.slice (some ⟨g, 0, none⟩) n c) ve) (hok : WdOk d) (i : Int) :
    Calls Tryz.prog 13 #[.pointer (some ⟨wb, 0, none⟩), .int .i64 i] W fun e w' => e = .returned (.bool (d.doneOf i)) ∧ ∃ m, w' = W.drewN m := by
  unfold Wd.doneOf
  cases hl : d.live i with
  | none =>
    have HO := hid (ofDead h hok hl)
    clear h hok hl
    go_enter Tryz.func13, Tryz.ntmps13
    go_wp2_with fail
    refine HO.out.mono ?_
    rintro e w1 ⟨rfl, m, rfl⟩
    go_wp2_with fail
    go_ret
    exact ⟨rfl, _, rfl⟩
  | some tl =>
    obtain ⟨t, l⟩ := tl
    obtain ⟨hi, _⟩ := live_at hl
    obtain ⟨k, rfl⟩ : ∃ k : Nat, i = (k : Int) := ⟨i.toNat, by omega⟩
    have HO := hid (ofLive h hok hl)
    clear h hok hl hi
    go_enter Tryz.func13, Tryz.ntmps13
    go_wp2_with fail
    refine HO.out.mono ?_
    rintro e w1 ⟨rfl, m, rfl⟩
    go_wp2_with fail
    go_ret
    exact ⟨rfl, _, rfl⟩
theorem txCall {B wb : Nat} {W : World} {d : Wd} {vc vt ve : Value} {g n c : Nat} (h : Wk B wb W d vc vt (.slice (some ⟨g, 0, none⟩) n c) ve) (hok : WdOk d) (i : Int) :
    Calls Tryz.prog 12 #[.pointer (some ⟨wb, 0, none⟩), .int .i64 i] W fun e w' => e = .returned (.tuple #[.int .i64 (d.txOf i).1, .bool (d.txOf i).2]) ∧ ∃ m, w' = W.drewN m := by
  cases hl : d.live i with
  | none =>
    rw [show d.txOf i = (0, false) by unfold Wd.txOf; rw [hl]]
    have HO := hid (ofDead h hok hl)
    clear h hok hl
    go_enter Tryz.func12, Tryz.ntmps12
    go_wp2_with fail
    refine HO.out.mono ?_
    rintro e w1 ⟨rfl, m, rfl⟩
    go_wp2_with fail
    go_ret2
    exact ⟨rfl, _, rfl⟩
  | some tl =>
    obtain ⟨t, l⟩ := tl
    obtain ⟨hi, h1, h2, hne⟩ := live_at hl
    obtain ⟨k, rfl⟩ : ∃ k : Nat, i = (k : Int) := ⟨i.toNat, by omega⟩
    simp only [Int.toNat_natCast] at h1
    obtain ⟨g', c', he, _, lg, hk, hnc, hcl, hfz⟩ := h.thAt h1
    injection he with e1 e2 e3
    injection e1 with e1
    injection e1 with e1
    subst e1 e2 e3
    have HO := hid (ofLive h hok hl)
    have y0 : W.cell? ⟨g, k * 6, none⟩ = some (.int .i64 t.tx) := hcl 0 (by omega)
    have y2 : W.cell? ⟨g, k * 6 + 2, none⟩ = some (.bool t.begun) := hcl 2 (by omega)
    clear h hok hi h1 h2 hne hcl hfz
    cases hb : t.begun with
    | false =>
      rw [show d.txOf (k : Int) = (0, false) by unfold Wd.txOf; rw [hl]; simp [hb]]
      rw [hb] at y2
      clear hb hl
      go_enter Tryz.func12, Tryz.ntmps12
      go_wp2_with fail
      refine HO.out.mono ?_
      rintro e w1 ⟨rfl, m, rfl⟩
      go_wp2_with fail
      go_ret2
      exact ⟨rfl, _, rfl⟩
    | true =>
      rw [show d.txOf (k : Int) = (idOf (k : Int) t.tx, true) by unfold Wd.txOf; rw [hl]; simp [hb]]
      rw [hb] at y2
      clear hb hl
      have HI := hid (fun w => idCall (k : Int) t.tx w)
      go_enter Tryz.func12, Tryz.ntmps12
      go_wp2_with fail
      refine HO.out.mono ?_
      rintro e w1 ⟨rfl, m, rfl⟩
      go_wp2_with fail
      refine (HI.out _).mono ?_
      rintro e w1 ⟨rfl, rfl⟩
      go_wp2_with fail
      go_ret2
      exact ⟨rfl, _, rfl⟩
end Go.Proofs.YtgfmlaflochffaaGreatDoor
