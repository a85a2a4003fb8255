/-
  prog.Start.
  prog.Start of a program that may not be.
-/
import Derived.Test.YtgfmlaflochffaaGreatDoorWkZ
import Derived.Deep.RegionHeld3
import Derived.Deep.DrawnRows
import Derived.Outline
namespace Go.Proofs.YtgfmlaflochffaaGreatDoor
open Go.RowKit Go.Maps W
attribute [local go_sem ↓] Go.wp_at_zero Go.wp_at_succ

theorem made_new (n : Nat) (h : n ≤ 4) : (madeCells #[Value.int .i64 0, .int .i64 0, .bool false, .bool false, .int .i64 0, .int .i64 0] (n * 6)).toList = flatTh (List.replicate n Th.new) := by
  rcases (show n = 0 ∨ n = 1 ∨ n = 2 ∨ n = 3 ∨ n = 4 by omega) with rfl | rfl | rfl | rfl | rfl <;> kernel_rfl
theorem start_ts (p : Pg) : (Wd.start p).ts = List.replicate p.threads.length Th.new := by
  show p.threads.map (fun _ => Th.new) = _
  induction p.threads with
  | nil => rfl
  | cons a r ih => rw [List.map_cons, ih]; rfl
/-- The walk's box, laid behind its rows. -/
theorem startWk {B : Nat} {X : World} {p : Pg} {vc vt vh : Value} (h : PgOwn X B vc vt p) (hh : X.ownsRow B tTh 6 vh p.threads.length (flatTh (List.replicate p.threads.length Th.new))) (hB : B ≤ X.heap.size) :
    Wk B X.heap.size (X.alloc (.cells #[vc, vt, vh, .slice none 0 0] tW)) (Wd.start p) vc vt vh (.slice none 0 0) := by
  have hb : Below X.heap.size X (X.alloc (.cells #[vc, vt, vh, .slice none 0 0] tW)) := (Below.refl _ _).alloc (Nat.le_refl _) _
  refine ⟨Blk.new X tW _, hB, h.keep (fun g _ _ _ hg => hb.block g (lt_of_at hg)), ?_, World.ownsRow_nil _ _ _ _⟩
  rw [start_ts, List.length_replicate]
  exact row_call hh hb
theorem ThrAt.base {F : List Nat} {W : World} {B B' : Nat} {vt : Value} {ts : List (List (List PAct))} (h : ThrAt F W B' vt ts) (hB : B ≤ B') : ThrAt F W B vt ts := by
  obtain ⟨us, k1, k2, k3, k4, k5⟩ := h
  exact ⟨us, row_base k1 hB, k2, fun i u t hu ht => (k3 i u t hu ht).base hB, k4, k5⟩
theorem PgOwn.base {W : World} {B B' : Nat} {vc vt : Value} {p : Pg} (h : PgOwn W B' vc vt p) (hB : B ≤ B') : PgOwn W B vc vt p := ⟨row_base h.1 hB, h.2.base hB⟩
def madeTh (n : Nat) : Obj := .cells (madeCells #[Value.int .i64 0, .int .i64 0, .bool false, .bool false, .int .i64 0, .int .i64 0] (n * 6)) tTh
theorem made_row (X : World) {B n : Nat} (hB : B ≤ X.heap.size) (hn : n ≤ 4) : (X.alloc (madeTh n)).ownsRow B tTh 6 (.slice (some ⟨X.heap.size, 0, none⟩) n n) n (flatTh (List.replicate n Th.new)) := by
  have h := row_new (w := X) (cs := madeCells #[Value.int .i64 0, .int .i64 0, .bool false, .bool false, .int .i64 0, .int .i64 0] (n * 6)) (t := tTh) (B := B) (size := 6) (n := n) (by rw [size_madeCells]) hB (by unfold maxLen; omega)
  rw [made_new n hn] at h
  exact h
theorem startA {w w1 X : World} {p : Pg} {vc vt : Value} (hB : Below w.heap.size w w1) (hpo : PgOwn X w1.heap.size vc vt p) (hb : Below w1.heap.size w1.drew X) (h4 : p.threads.length ≤ 4) :
    Wk w.heap.size (X.heap.size + 1) ((X.alloc (madeTh p.threads.length)).alloc (.cells #[vc, vt, .slice (some ⟨X.heap.size, 0, none⟩) p.threads.length p.threads.length, .slice none 0 0] tW)) (Wd.start p) vc vt (.slice (some ⟨X.heap.size, 0, none⟩) p.threads.length p.threads.length) (.slice none 0 0) ∧
    Below w.heap.size w ((X.alloc (madeTh p.threads.length)).alloc (.cells #[vc, vt, .slice (some ⟨X.heap.size, 0, none⟩) p.threads.length p.threads.length, .slice none 0 0] tW)) := by
  have hs := hB.size
  have hs2 : w1.heap.size ≤ X.heap.size := hb.size
  have ha : Below X.heap.size X (X.alloc (madeTh p.threads.length)) := (Below.refl _ _).alloc (Nat.le_refl _) _
  have h := startWk (B := w.heap.size) (X := X.alloc (madeTh p.threads.length)) ((hpo.base hs).keep (fun g _ _ _ hg => ha.block g (lt_of_at hg))) (made_row X (by omega) h4) (by simp; omega)
  rw [World.size_alloc] at h
  refine ⟨h, ?_⟩
  have h1 : Below w.heap.size w X := hB.trans ((Below.refl _ w1).drew.trans (hb.mono hs))
  exact (h1.alloc (by omega) _).alloc (by simp; omega) _
theorem startB {w w1 X : World} {p : Pg} {vc vt : Value} (hB : Below w.heap.size w w1) (hpo : PgOwn X (w1.heap.size + 1) vc vt p) (hb : Below (w1.heap.size + 1) (w1.alloc (madeTh p.threads.length)).drew X) (h4 : p.threads.length ≤ 4) :
    Wk w.heap.size X.heap.size (X.alloc (.cells #[vc, vt, .slice (some ⟨w1.heap.size, 0, none⟩) p.threads.length p.threads.length, .slice none 0 0] tW)) (Wd.start p) vc vt (.slice (some ⟨w1.heap.size, 0, none⟩) p.threads.length p.threads.length) (.slice none 0 0) ∧
    Below w.heap.size w (X.alloc (.cells #[vc, vt, .slice (some ⟨w1.heap.size, 0, none⟩) p.threads.length p.threads.length, .slice none 0 0] tW)) := by
  have hs := hB.size
  have hs2 : w1.heap.size + 1 ≤ X.heap.size := by have := hb.size; simpa using this
  have hr := made_row w1 (B := w.heap.size) (n := p.threads.length) hs h4
  have hr2 : X.ownsRow w.heap.size tTh 6 (.slice (some ⟨w1.heap.size, 0, none⟩) p.threads.length p.threads.length) p.threads.length (flatTh (List.replicate p.threads.length Th.new)) := row_keep hr (fun g _ _ hg => hb.block g (by have := lt_of_at hg; simpa using this))
  have h := startWk (hpo.base (by omega)) hr2 (by omega)
  refine ⟨h, ?_⟩
  have h1 : Below w.heap.size w X := hB.trans (((Below.refl _ w1).alloc hs _).drew.trans (hb.mono (by omega)))
  exact h1.alloc (by omega) _
abbrev StartPost (w : World) (p : Pg) (e : Ending) (w' : World) : Prop :=
  ∃ wb vc vt g n c, e = .returned (.tuple #[.pointer (some ⟨wb, 0, none⟩), .nilIface]) ∧ Wk w.heap.size wb w' (Wd.start p) vc vt (.slice (some ⟨g, 0, none⟩) n c) (.slice none 0 0) ∧ Below w.heap.size w w'
set_option maxHeartbeats 16000000 in
set_option maxRecDepth 100000 in
theorem startYes (vc vt : Value) (p : Pg) (w : World) (hp : PgAt w vc vt p) (hL : LaidP w) (hok : pgOk p = true) :
    Calls Tryz.prog 6 #[.agg #[vc, vt]] w fun e w' => StartPost w p e w' := by
  obtain ⟨i0, hi, hz0, hz1, hz2⟩ := info_parts infoTh
  obtain ⟨hc1, hc4, ht1, ht4, _, _⟩ := pgOk_parts hok
  obtain ⟨Ac, cc, hvc⟩ := hp.1.shape
  obtain ⟨At, ct, hvt⟩ := hp.2.shape
  subst hvc hvt
  rw [ints_len] at hp ⊢
  have hb0 := (Below.refl w.heap.size w).alloc (Nat.le_refl _) (.cells #[.slice Ac p.cells.length cc, .slice At p.threads.length ct] tP)
  have HV := hid (pgValid _ _ p _ (hp.below hb0) (hL.below hb0))
  have HB0 := hid hb0
  have HP := hid (hp.below hb0)
  have HX0 := hid (Blk.new w tP #[.slice Ac p.cells.length cc, .slice At p.threads.length ct])
  have HOK := hid hok
  have hmk : ∀ W : World, (Instr.makeSlice 70 (.int .i64 (p.threads.length : Int)) (.int .i64 (p.threads.length : Int))).run Tryz.prog W = .ok (.slice (some ⟨W.heap.size, 0, none⟩) p.threads.length p.threads.length) (W.alloc (.cells (madeCells #[Value.int .i64 0, .int .i64 0, .bool false, .bool false, .int .i64 0, .int .i64 0] (p.threads.length * 6)) tTh)) := fun W => by
    have h := run_make (P := Tryz.prog) W 70 77 i0 (.agg #[.int .i64 0, .int .i64 0, .bool false, .bool false, .int .i64 0, .int .i64 0]) Tryz.underlying70 hi hz0 .i64 .i64 p.threads.length p.threads.length (by omega) (by omega) (by rw [hz2]; omega) (by omega)
    simpa [hz1, Value.cells] using h
  clear hp hL hb0 hok hi hz0 hz1 hz2
  go_enter Tryz.func6, Tryz.ntmps6
  go_wp2_with fail
  refine HV.out.mono ?_
  rintro r w1 ⟨v, rfl, hv, hb⟩
  rcases hv with ⟨_, rfl⟩ | ⟨hno, a, rfl⟩
  case inr => rw [HOK.out] at hno; cases hno
  case inl =>
  have HB1 := hid (HB0.out.trans (hb.mono (by simp)))
  have HX1 := HX0.out.below hb (by simp)
  have HP1 := hid (HP.out.below hb)
  have x0 := HX1.cell 0
  have x1 := HX1.cell 1
  have lx := HX1.lt
  have HS1 := hid HB1.out.size
  clear hb HV HX1 HX0 HP HB0
  go_wp2_with fail
  go_region_held3 (fun w' => w'.cell? ⟨w.heap.size, 0, none⟩ = some (.slice Ac p.cells.length cc) ∧ w'.cell? ⟨w.heap.size, 1, none⟩ = some (.slice At p.threads.length ct))
    (first
      | (go_keep; done)
      | (go_split_ands; (with_reducible refine ⟨(hb1.cell ?_).trans ?_, (hb1.cell ?_).trans ?_⟩) <;> first | assumption | (simp; omega)))
    (first
      | (go_at_call 19; refine (cloneCall _ _ p _ ?_ HOK.out).mono ?_; (first | exact HP1.out.below (Below.refl _ _).drew | exact HP1.out.below ((Below.refl _ _).alloc (Nat.le_refl _) _).drew); rintro e X1 ⟨vc', vt', rfl, hpo, hb1⟩))
  · have hA := hid (startA HB1.out hpo hb1 ht4)
    clear hpo hb1
    go_wp2_with fail
    go_ret2
    exact ⟨_, _, _, _, _, _, rfl, hA.out.1, hA.out.2⟩
  · have hA := hid (startB HB1.out (by simpa using hpo) (by simpa [madeTh] using hb1) ht4)
    clear hpo hb1
    go_wp2_with fail
    go_ret2
    exact ⟨_, _, _, _, _, _, rfl, hA.out.1, hA.out.2⟩
end Go.Proofs.YtgfmlaflochffaaGreatDoor

namespace Go.Proofs.YtgfmlaflochffaaGreatDoor
open Go.RowKit Go.Maps W
attribute [local go_sem ↓] Go.wp_at_zero Go.wp_at_succ

set_option maxHeartbeats 16000000 in
set_option maxRecDepth 100000 in
theorem startNo (vc vt : Value) (p : Pg) (w : World) (hp : PgAt w vc vt p) (hL : LaidP w) (hok : pgOk p = false) :
    Calls Tryz.prog 6 #[.agg #[vc, vt]] w fun e w' => ∃ a, e = .returned (.tuple #[.pointer none, .iface 172 (.pointer (some a))]) ∧ Below w.heap.size w w' := by
  obtain ⟨Ac, cc, hvc⟩ := hp.1.shape
  obtain ⟨At, ct, hvt⟩ := hp.2.shape
  subst hvc hvt
  rw [ints_len] at hp ⊢
  have hb0 := (Below.refl w.heap.size w).alloc (Nat.le_refl _) (.cells #[.slice Ac p.cells.length cc, .slice At p.threads.length ct] tP)
  have HV := hid (pgValid _ _ p _ (hp.below hb0) (hL.below hb0))
  have HB0 := hid hb0
  have HOK := hid hok
  clear hp hL hb0 hok
  go_enter Tryz.func6, Tryz.ntmps6
  go_wp2_with fail
  refine HV.out.mono ?_
  rintro r w1 ⟨v, rfl, hv, hb⟩
  rcases hv with ⟨hyes, _⟩ | ⟨hno, a, rfl⟩
  case inl => rw [HOK.out] at hyes; cases hyes
  case inr =>
  have HB1 := hid (HB0.out.trans (hb.mono (by simp)))
  clear hb HV hno
  go_wp2_with fail
  go_ret2
  exact ⟨a, rfl, HB1.out⟩
end Go.Proofs.YtgfmlaflochffaaGreatDoor
