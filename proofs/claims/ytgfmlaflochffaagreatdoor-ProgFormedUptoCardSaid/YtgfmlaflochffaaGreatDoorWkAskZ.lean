/-
  prog.asks, and the functions that it makes.
-/
import Derived.Test.YtgfmlaflochffaaGreatDoorWkZ
import Derived.Deep.Cut
import Derived.RegionTactic
import Derived.ChangeAlike
import Derived.Outline
namespace Go.Proofs.YtgfmlaflochffaaGreatDoor
open Go.RowKit Go.Maps W
attribute [local go_sem ↓] Go.wp_at_zero Go.wp_at_succ

abbrev tK : TypeId := 81
def rdV : Value := .func (.func 31) #[] #[]
def wrV : Value := .func (.func 32) #[] #[]
def adV (a b : Nat) : Value := .func (.func 33) #[] #[.pointer (some ⟨a, 0, none⟩), .pointer (some ⟨b, 0, none⟩)]
theorem evCells {X : World} {b : Nat} {a0 a1 a2 a3 a4 a5 a6 a7 : Value} (h : Blk X b tEv #[a0, a1, a2, a3, a4, a5, a6, a7]) : X.cell? ⟨b, 0, none⟩ = some a0 ∧ X.cell? ⟨b, 1, none⟩ = some a1 ∧ X.cell? ⟨b, 2, none⟩ = some a2 ∧ X.cell? ⟨b, 3, none⟩ = some a3 ∧ X.cell? ⟨b, 4, none⟩ = some a4 ∧ X.cell? ⟨b, 5, none⟩ = some a5 ∧ X.cell? ⟨b, 6, none⟩ = some a6 ∧ X.cell? ⟨b, 7, none⟩ = some a7 := ⟨h.cell 0, h.cell 1, h.cell 2, h.cell 3, h.cell 4, h.cell 5, h.cell 6, h.cell 7⟩
theorem resAsk1 (tmps : Array Value) (X : World) (b : Nat) (a0 a1 a2 a3 a4 a5 a6 a7 : Value) (h : tmps.getD 4 undef = .pointer (some ⟨b, 0, none⟩)) (hb : Blk X b tEv #[a0, a1, a2, a3, a4, a5, a6, a7]) :
    (results Tryz.f31 tmps).run Tryz.prog X = .ok (.agg #[a0, a1, a2, a3, a4, a5, a6, a7]) X := by
  have h' : tmps[4]?.getD undef = .pointer (some ⟨b, 0, none⟩) := by simpa using h
  obtain ⟨c0, c1, c2, c3, c4, c5, c6, c7⟩ := evCells hb
  simp [results, Tryz.f31, h', go_sem, c0, c1, c2, c3, c4, c5, c6, c7]
theorem resAsk2 (tmps : Array Value) (X : World) (b : Nat) (a0 a1 a2 a3 a4 a5 a6 a7 : Value) (h : tmps.getD 4 undef = .pointer (some ⟨b, 0, none⟩)) (hb : Blk X b tEv #[a0, a1, a2, a3, a4, a5, a6, a7]) :
    (results Tryz.f32 tmps).run Tryz.prog X = .ok (.agg #[a0, a1, a2, a3, a4, a5, a6, a7]) X := by
  have h' : tmps[4]?.getD undef = .pointer (some ⟨b, 0, none⟩) := by simpa using h
  obtain ⟨c0, c1, c2, c3, c4, c5, c6, c7⟩ := evCells hb
  simp [results, Tryz.f32, h', go_sem, c0, c1, c2, c3, c4, c5, c6, c7]
theorem resAsk3 (tmps : Array Value) (X : World) (b : Nat) (a0 a1 a2 a3 a4 a5 a6 a7 : Value) (h : tmps.getD 6 undef = .pointer (some ⟨b, 0, none⟩)) (hb : Blk X b tEv #[a0, a1, a2, a3, a4, a5, a6, a7]) :
    (results Tryz.f33 tmps).run Tryz.prog X = .ok (.agg #[a0, a1, a2, a3, a4, a5, a6, a7]) X := by
  have h' : tmps[6]?.getD undef = .pointer (some ⟨b, 0, none⟩) := by simpa using h
  obtain ⟨c0, c1, c2, c3, c4, c5, c6, c7⟩ := evCells hb
  simp [results, Tryz.f33, h', go_sem, c0, c1, c2, c3, c4, c5, c6, c7]
theorem evSet {B b : Nat} {X : World} {cs : Array Value} (hb : Blk X b tEv cs) (hn : cs.size = 8) (hB : B ≤ b) (a0 a1 a2 a3 a4 a5 a6 a7 : Value) :
    Below B X ((((((((X.setCell ⟨b, 0, none⟩ a0).setCell ⟨b, 1, none⟩ a1).setCell ⟨b, 2, none⟩ a2).setCell ⟨b, 3, none⟩ a3).setCell ⟨b, 4, none⟩ a4).setCell ⟨b, 5, none⟩ a5).setCell ⟨b, 6, none⟩ a6).setCell ⟨b, 7, none⟩ a7) ∧ Blk ((((((((X.setCell ⟨b, 0, none⟩ a0).setCell ⟨b, 1, none⟩ a1).setCell ⟨b, 2, none⟩ a2).setCell ⟨b, 3, none⟩ a3).setCell ⟨b, 4, none⟩ a4).setCell ⟨b, 5, none⟩ a5).setCell ⟨b, 6, none⟩ a6).setCell ⟨b, 7, none⟩ a7) b tEv #[a0, a1, a2, a3, a4, a5, a6, a7] := by
  obtain ⟨l, rfl⟩ : ∃ l : List Value, cs = l.toArray := ⟨cs.toList, by simp⟩
  match l, hn with
  | [c0, c1, c2, c3, c4, c5, c6, c7], _ =>
    have b0 := Blk.put hb 0 a0
    have b1 := Blk.put b0 1 a1
    have b2 := Blk.put b1 2 a2
    have b3 := Blk.put b2 3 a3
    have b4 := Blk.put b3 4 a4
    have b5 := Blk.put b4 5 a5
    have b6 := Blk.put b5 6 a6
    have b7 := Blk.put b6 7 a7
    refine ⟨?_, by simpa using b7⟩
    exact (((((((((Below.refl B X).setCell (p := ⟨b, 0, none⟩) hB _).setCell (p := ⟨b, 1, none⟩) hB _).setCell (p := ⟨b, 2, none⟩) hB _).setCell (p := ⟨b, 3, none⟩) hB _).setCell (p := ⟨b, 4, none⟩) hB _).setCell (p := ⟨b, 5, none⟩) hB _).setCell (p := ⟨b, 6, none⟩) hB _).setCell (p := ⟨b, 7, none⟩) hB _)
theorem blk_two (W : World) (o : Obj) (t : TypeId) (cs : Array Value) : Blk ((W.alloc o).alloc (.cells cs t)) (W.heap.size + 1) t cs := by
  have h := Blk.new (W.alloc o) t cs
  simpa using h
theorem below_two (W : World) (o1 o2 : Obj) : Below W.heap.size W ((W.alloc o1).alloc o2) := ((Below.refl _ _).alloc (Nat.le_refl _) o1).alloc (by simp) o2
set_option maxHeartbeats 1000000 in
theorem askRead (tp : Value) (a : PAct) (W : World) : Calls Tryz.prog 31 #[tp, .agg (actArr a)] W fun e w' => e = .returned (.agg (evArr (evR a.cell))) ∧ Below W.heap.size W w' := by
  unfold actArr
  go_enter Tryz.func31, Tryz.ntmps31
  go_wp2_with fail
  exact bodyPost_ret (resAsk1 _ _ (W.heap.size + 1) _ _ _ _ _ _ _ _ rfl (blk_two W _ _ _)) rfl ⟨rfl, below_two W _ _⟩
set_option maxHeartbeats 1000000 in
theorem askWrite (tp : Value) (a : PAct) (W : World) : Calls Tryz.prog 32 #[tp, .agg (actArr a)] W fun e w' => e = .returned (.agg (evArr (evW a.cell a.val))) ∧ Below W.heap.size W w' := by
  unfold actArr
  go_enter Tryz.func32, Tryz.ntmps32
  go_wp2_with fail
  exact bodyPost_ret (resAsk2 _ _ (W.heap.size + 1) _ _ _ _ _ _ _ _ rfl (blk_two W _ _ _)) rfl ⟨rfl, below_two W _ _⟩
set_option maxHeartbeats 4000000 in
theorem askAdd (tp : Addr) (a : PAct) (t : Th) (s1 s2 g o : Nat) (W : World) (htp : tp = ⟨g, o, none⟩) (c3 : W.cell? ⟨g, o + 3, none⟩ = some (.bool t.adding)) (c4 : W.cell? ⟨g, o + 4, none⟩ = some (.int .i64 t.read)) (h1 : W.cell? ⟨s1, 0, none⟩ = some rdV) (h2 : W.cell? ⟨s2, 0, none⟩ = some wrV)
    (hv : t.adding = true → -1000000000 ≤ a.val + t.read ∧ a.val + t.read ≤ 1000000000) :
    Calls Tryz.prog 33 #[.pointer (some tp), .agg (actArr a), .pointer (some ⟨s1, 0, none⟩), .pointer (some ⟨s2, 0, none⟩)] W fun e w' => e = .returned (.agg (evArr (if t.adding = true then evW a.cell (a.val + t.read) else evR a.cell))) ∧ Below W.heap.size W w' := by
  subst htp
  have lg := World.block_lt_of_cell? W _ c3
  have l1 := World.block_lt_of_cell? W _ h1
  have l2 := World.block_lt_of_cell? W _ h2
  simp only at lg l1 l2
  unfold rdV at h1
  unfold wrV at h2
  cases hx : t.adding with
  | false =>
    clear hv
    rw [hx] at c3
    have HR := hid (fun W => askRead (.pointer (some ⟨g, o, none⟩)) a W)
    unfold actArr at HR ⊢
    clear hx
    go_enter Tryz.func33, Tryz.ntmps33
    go_wp2_with fail
    refine (HR.out _).mono ?_
    rintro e w1 ⟨rfl, hb1⟩
    have hO := (blk_two W (.cells #[.int .i64 a.kind, .int .i64 a.cell, .int .i64 a.val] 80) tEv (evArr Ev.zero)).below hb1 (by simp)
    have HB := hid ((below_two W _ _).trans (hb1.mono (by simp; omega)))
    have HS := hid (evSet hO rfl (show W.heap.size ≤ W.heap.size + 1 by omega) (.int .i64 2) (.int .i64 0) (.int .i64 0) (.int .i64 a.cell) (.int .i64 1) (.int .i64 0) (.int .i64 0) (.int .i64 0))
    simp only [evArr, Ev.zero] at hO
    have o0 := hO.cell 0
    have o1 := hO.cell 1
    have o2 := hO.cell 2
    have o3 := hO.cell 3
    have o4 := hO.cell 4
    have o5 := hO.cell 5
    have o6 := hO.cell 6
    have o7 := hO.cell 7
    have fo0 := hO.frozen 0
    have fo1 := hO.frozen 1
    have fo2 := hO.frozen 2
    have fo3 := hO.frozen 3
    have fo4 := hO.frozen 4
    have fo5 := hO.frozen 5
    have fo6 := hO.frozen 6
    have fo7 := hO.frozen 7
    have lo := hO.lt
    clear hb1 hO c3 c4 h1 h2
    unfold evArr
    go_wp2_with fail
    exact bodyPost_ret (resAsk3 _ _ (W.heap.size + 1) _ _ _ _ _ _ _ _ rfl HS.out.2) rfl ⟨rfl, HB.out.trans HS.out.1⟩
  | true =>
    obtain ⟨hv1, hv2⟩ := hv hx
    clear hv
    rw [hx] at c3
    have HW := hid (fun v W => askWrite (.pointer (some ⟨g, o, none⟩)) ⟨a.kind, a.cell, v⟩ W)
    unfold actArr at HW ⊢
    clear hx
    go_enter Tryz.func33, Tryz.ntmps33
    go_wp2_with fail
    go_region
    go_wp2_with fail
    refine (HW.out _ _).mono ?_
    rintro e w1 ⟨rfl, hb1⟩
    have hO := Blk.below (Blk.drew (blk_two W (.cells #[.int .i64 a.kind, .int .i64 a.cell, .int .i64 (a.val + t.read)] 80) tEv (evArr Ev.zero))) hb1 (by simp)
    have HB := hid ((below_two W _ _).drew.trans (hb1.mono (by simp; omega)))
    have HS := hid (evSet hO rfl (show W.heap.size ≤ W.heap.size + 1 by omega) (.int .i64 2) (.int .i64 0) (.int .i64 0) (.int .i64 a.cell) (.int .i64 2) (.int .i64 0) (.int .i64 (a.val + t.read)) (.int .i64 0))
    simp only [evArr, Ev.zero] at hO
    have o0 := hO.cell 0
    have o1 := hO.cell 1
    have o2 := hO.cell 2
    have o3 := hO.cell 3
    have o4 := hO.cell 4
    have o5 := hO.cell 5
    have o6 := hO.cell 6
    have o7 := hO.cell 7
    have fo0 := hO.frozen 0
    have fo1 := hO.frozen 1
    have fo2 := hO.frozen 2
    have fo3 := hO.frozen 3
    have fo4 := hO.frozen 4
    have fo5 := hO.frozen 5
    have fo6 := hO.frozen 6
    have fo7 := hO.frozen 7
    have lo := hO.lt
    clear hb1 hO c3 c4 h1 h2
    unfold evArr
    go_wp2_with fail
    exact bodyPost_ret (resAsk3 _ _ (W.heap.size + 1) _ _ _ _ _ _ _ _ rfl HS.out.2) rfl ⟨rfl, HB.out.trans HS.out.1⟩
set_option maxHeartbeats 1000000 in
theorem asksCall (W : World) : Calls Tryz.prog 22 #[] W fun e w' => e = .returned (.slice (some ⟨W.heap.size + 1 + 1, 0, none⟩) 5 5) ∧ Below W.heap.size W w' ∧ Blk w' W.heap.size tK #[rdV] ∧ Blk w' (W.heap.size + 1) tK #[wrV] ∧ Blk w' (W.heap.size + 1 + 1) 82 #[.nilFunc, rdV, wrV, adV W.heap.size (W.heap.size + 1), .nilFunc] := by
  have hmf : ∀ (fn : Fn) (first cap : Array Value) (w : World), (Instr.makeFunc fn first cap).run Tryz.prog w = .ok (.func fn first cap) w := fun _ _ _ _ => rfl
  go_enter Tryz.func22, Tryz.ntmps22
  go_wp2_with fail
  go_ret
  refine ⟨rfl, (below_two W _ _).alloc (by simp; omega) _, ((Blk.new W _ _).alloc _).alloc _, (blk_two W _ _ _).alloc _, ?_⟩
  have h := Blk.new ((W.alloc (.cells #[rdV] tK)).alloc (.cells #[wrV] tK)) 82 #[.nilFunc, rdV, wrV, adV W.heap.size (W.heap.size + 1), .nilFunc]
  simpa [rdV, wrV, adV] using h
end Go.Proofs.YtgfmlaflochffaaGreatDoor
