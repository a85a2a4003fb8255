/-
  prog.Walk: Events.
-/
import Derived.Test.YtgfmlaflochffaaGreatDoorWkTxZ
import Derived.Test.YtgfmlaflochffaaGreatDoorStepAZ
import Derived.Deep.RegionHeld3
import Derived.Deep.DrawnRows
import Derived.Outline
namespace Go.Proofs.YtgfmlaflochffaaGreatDoor
open Go.RowKit Go.Maps W
attribute [local go_sem ↓] Go.wp_at_zero Go.wp_at_succ

def zEv : Value := .agg #[.int .i64 0, .int .i64 0, .int .i64 0, .int .i64 0, .int .i64 0, .int .i64 0, .int .i64 0, .int .i64 0]
theorem row_cells {W : World} {B n size : Nat} {t : TypeId} {v : Value} {xs : List Value} (h : W.ownsRow B t size v n xs) : ∃ A c, v = .slice A n c ∧ (A = none → n = 0 ∧ c = 0) ∧ ∀ ad, A = some ad → ∃ g, ad = ⟨g, 0, none⟩ ∧ g < W.heap.size ∧ ∀ j u, xs[j]? = some u → W.cell? (ad.add j) = some u := by
  have h0 := h
  rcases h.2 with ⟨rfl, rfl⟩ | ⟨g, cap, cur, rfl, hB, hg, _⟩
  · exact ⟨none, 0, rfl, fun _ => ⟨rfl, rfl⟩, fun ad e => by cases e⟩
  · refine ⟨_, cap, rfl, fun e => (by cases e), fun ad e => ?_⟩
    obtain rfl := Option.some.inj e
    refine ⟨g, rfl, lt_of_at hg, fun j u hu => ?_⟩
    rw [Addr.add_lit, Nat.zero_add, h0.cellAt j (by have := (List.getElem?_eq_some_iff.1 hu).1; rw [h0.1] at this; exact this), hu]
set_option maxHeartbeats 8000000 in
set_option maxRecDepth 100000 in
theorem eventsCall {B wb : Nat} {W : World} {d : Wd} {vc vt vh ve : Value} (h : Wk B wb W d vc vt vh ve) (he9 : d.es.length ≤ 100000) :
    Calls Tryz.prog 9 #[.pointer (some ⟨wb, 0, none⟩)] W fun e w' => ∃ q, e = .returned (.slice (some ⟨q, 0, none⟩) d.es.length d.es.length) ∧ W.heap.size ≤ q ∧ w'.ownsRow W.heap.size tEv 8 (.slice (some ⟨q, 0, none⟩) d.es.length d.es.length) d.es.length (flatEv d.es) ∧ Only [] W w' := by
  obtain ⟨i0, hi, hz0, hz1, hz2⟩ := info_parts infoEv
  have hmk : ∀ W : World, (Instr.makeSlice 44 (.int .i64 0) (.int .i64 (d.es.length : Int))).run Tryz.prog W = .ok (.slice (some ⟨W.heap.size, 0, none⟩) 0 d.es.length) (W.alloc (.cells (madeCells zEv.cells (d.es.length * 8)) tEv)) := fun W => by
    have h := run_make (P := Tryz.prog) W 44 tEv i0 zEv Tryz.underlying44 hi hz0 .i64 .i64 0 d.es.length (Int.le_refl _) (by omega) (by rw [hz2]; omega) (by omega)
    simpa [hz1] using h
  obtain ⟨A, c, rfl, hnone, hcells⟩ := row_cells h.ev
  have x3 := h.box.cell 3
  have lb := h.box.lt
  have hfl : (flatEv d.es).length = d.es.length * 8 := fq_len (n := 8) (fun a => evArr_len a) d.es
  have HO : Hid (((W.alloc (.cells (madeCells zEv.cells (d.es.length * 8)) tEv)).drew).ownsRow W.heap.size tEv 8 (.slice (some ⟨W.heap.size, 0, none⟩) 0 d.es.length) 0 []) := hid (World.ownsRow_made (base := W.heap.size) (e := tEv) (size := 8) W (madeCells zEv.cells (d.es.length * 8)) d.es.length (Nat.le_refl _) (by unfold maxLen; omega) (by simp [size_madeCells]))
  have HN : Hid (∀ ad, A = some ad → ∀ j u, (flatEv d.es)[j]? = some u → ((W.alloc (.cells (madeCells zEv.cells (d.es.length * 8)) tEv)).drew).cell? (ad.add j) = some u) := hid (fun ad e j u hu => by
    obtain ⟨g, rfl, hg, hx⟩ := hcells ad e
    have h9 := hx j u hu
    rw [Addr.add_lit, Nat.zero_add] at h9 ⊢
    have hb := (Below.refl W.heap.size W).alloc (Nat.le_refl _) (.cells (madeCells zEv.cells (d.es.length * 8)) tEv)
    exact (hb.drew.cell (p := ⟨g, j, none⟩) hg).trans h9)
  have HA := hid hnone
  have H1 : Hid (∀ u ∈ flatEv d.es, u.oneCell' = true) := hid (fun u hu => by
    obtain ⟨e, _, he⟩ := List.mem_flatMap.1 hu
    exact evArr_one e u he)
  have HF := hid hfl
  have HB : Hid (Only [] W ((W.alloc (.cells (madeCells zEv.cells (d.es.length * 8)) tEv)).drew)) := hid (((Only.refl [] W).alloc _).drew)
  have HX : Hid (((W.alloc (.cells (madeCells zEv.cells (d.es.length * 8)) tEv)).drew).cell? ⟨wb, 3, none⟩ = some (.slice A d.es.length c)) := hid ((((Below.refl W.heap.size W).alloc (Nat.le_refl _) (.cells (madeCells zEv.cells (d.es.length * 8)) tEv)).drew.cell (p := ⟨wb, 3, none⟩) lb).trans x3)
  clear h hcells hnone hfl hz0 hz2
  go_enter Tryz.func9, Tryz.ntmps9
  go_wp2_with fail
  go_region_held3 (fun w' => w'.cell? ⟨wb, 3, none⟩ = some (.slice A d.es.length c)) (go_keep)
    ((refine step_append_fits_any (by rfl) (.tmp 8) (.tmp 12) 44 (by rfl) W.heap.size tEv i0 8 Tryz.underlying44 hi hz1 W.heap.size 0 d.es.length [] (by rfl) HO.out A d.es.length c (flatEv d.es) (by rfl) HF.out HA.out HN.out H1.out (by omega) ?_; intro w5 hown5 hgrow5; have x5 := (hgrow5.cell_far ⟨wb, 3, none⟩ (by simp; omega) (by simp; omega)).trans HX.out))
  go_wp2_with fail
  go_ret
  exact ⟨_, rfl, Nat.le_refl _, by simpa using hown5, HB.out.grown hgrow5 (fun k e => by injection e with e; subst e; exact .inr (Nat.le_refl _))⟩
end Go.Proofs.YtgfmlaflochffaaGreatDoor
