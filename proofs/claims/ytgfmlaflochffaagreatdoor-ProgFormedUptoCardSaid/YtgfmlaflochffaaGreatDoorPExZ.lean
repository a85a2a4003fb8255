/-
  The chapter's example (umpirelaw18.example).
-/
import Derived.Test.YtgfmlaflochffaaGreatDoorPSetZ
import Derived.Deep.Cut
import Derived.Deep.CutRange
import Derived.Deep.AppendLies
import Derived.Deep.DrawnRows
namespace Go.Proofs.YtgfmlaflochffaaGreatDoor
open Go.RowKit Go.Maps W
attribute [local go_sem ↓] Go.wp_at_zero Go.wp_at_succ

def exPg : Pg := ⟨[0, 5], [[[⟨1, 0, 0⟩, ⟨3, 1, 2⟩]], [[⟨2, 0, 7⟩, ⟨4, 0, 0⟩]]]⟩
/-- A block is a row. -/
theorem row_blk {W : World} {g n size : Nat} {t : TypeId} {cs : Array Value} (h : Blk W g t cs) (hn : cs.size = n * size) (hm : n ≤ maxLen) : W.ownsRow 0 t size (.slice (some ⟨g, 0, none⟩) n n) n cs.toList :=
  ⟨by simpa using hn, .inr ⟨g, n, cs, rfl, Nat.zero_le _, h, Nat.le_refl _, hm, hn, by rw [← hn]; exact List.take_of_length_le (by simp)⟩⟩
theorem reads_blk {W : World} {g n : Nat} {t : TypeId} {cs : Array Value} (h : Blk W g t cs) (hn : cs.size = n) (hm : n ≤ maxLen) : Reads W (.slice (some ⟨g, 0, none⟩) n n) cs.toList := by
  subst hn
  have h1 := reads_of_row (base := 0) (w := W) (e := t) (v := .slice (some ⟨g, 0, none⟩) cs.size cs.size) (xs := cs.toList) (by simpa using row_blk (size := 1) h (by simp) hm)
  exact h1
theorem readsT_blk {W : World} {ga gt : Nat} {l : List PAct} {cs : Array Value} (ha : Blk W ga tA cs) (hc : cs.toList = flatA l) (hs : cs.size = l.length * 3) (hm : l.length ≤ maxLen) (ht : Blk W gt tT #[.slice (some ⟨ga, 0, none⟩) l.length l.length]) : ReadsT W (.slice (some ⟨gt, 0, none⟩) 1 1) [l] := by
  refine ⟨[.slice (some ⟨ga, 0, none⟩) l.length l.length], reads_blk ht rfl (by unfold maxLen; omega), rfl, fun j u x hu hx => ?_⟩
  cases j with
  | zero =>
    simp at hu hx
    subst hu hx
    have h := row_blk ha hs hm
    rw [hc] at h
    exact reads_acts h
  | succ j => simp at hu

/-- What lies ahead of the first append. -/
structure Ex0 (S : Nat) (w W : World) : Prop where
  r : Blk W S tP #[.slice none 0 0, .slice none 0 0]
  i : Blk W (S + 1) tI #[.int .i64 0, .int .i64 5]
  p : Blk W (S + 1 + 1) tP #[.slice (some ⟨S + 1, 0, none⟩) 2 2, .slice none 0 0]
  a : Blk W (S + 1 + 1 + 1) tA #[.int .i64 1, .int .i64 0, .int .i64 0, .int .i64 3, .int .i64 1, .int .i64 2]
  t : Blk W (S + 1 + 1 + 1 + 1) tT #[.slice (some ⟨S + 1 + 1 + 1, 0, none⟩) 2 2]
  h : Blk W (S + 1 + 1 + 1 + 1 + 1) tH #[.slice (some ⟨S + 1 + 1 + 1 + 1, 0, none⟩) 1 1]
  size : W.heap.size = S + 1 + 1 + 1 + 1 + 1 + 1
  below : Below S w W
theorem ex_start (w : World) : Ex0 w.heap.size w ((((((w.alloc (.cells #[.slice none 0 0, .slice none 0 0] tP)).alloc (.cells #[.int .i64 0, .int .i64 5] tI)).alloc (.cells #[.slice (some ⟨w.heap.size + 1, 0, none⟩) 2 2, .slice none 0 0] tP)).alloc
    (.cells #[.int .i64 1, .int .i64 0, .int .i64 0, .int .i64 3, .int .i64 1, .int .i64 2] tA)).alloc (.cells #[.slice (some ⟨w.heap.size + 1 + 1 + 1, 0, none⟩) 2 2] tT)).alloc (.cells #[.slice (some ⟨w.heap.size + 1 + 1 + 1 + 1, 0, none⟩) 1 1] tH)) := by
  have K := fun (W : World) (o : Obj) (k : Nat) (h : k < W.heap.size) => Below.heap_alloc W o k h
  have B := fun (W : World) (o : Obj) (hb : Below w.heap.size w W) => hb.alloc hb.size o
  refine ⟨?_, ?_, ?_, ?_, ?_, ?_, by simp, B _ _ (B _ _ (B _ _ (B _ _ (B _ _ (B _ _ (Below.refl _ _))))))⟩
  · exact ((((((Blk.new w tP _).alloc _).alloc _).alloc _).alloc _).alloc _)
  · have h := (((((Blk.new (w.alloc (.cells #[.slice none 0 0, .slice none 0 0] tP)) tI #[.int .i64 0, .int .i64 5]).alloc (.cells #[.slice (some ⟨w.heap.size + 1, 0, none⟩) 2 2, .slice none 0 0] tP)).alloc (.cells #[.int .i64 1, .int .i64 0, .int .i64 0, .int .i64 3, .int .i64 1, .int .i64 2] tA)).alloc (.cells #[.slice (some ⟨w.heap.size + 1 + 1 + 1, 0, none⟩) 2 2] tT)).alloc (.cells #[.slice (some ⟨w.heap.size + 1 + 1 + 1 + 1, 0, none⟩) 1 1] tH))
    simpa using h
  · have h := ((((Blk.new ((w.alloc (.cells #[.slice none 0 0, .slice none 0 0] tP)).alloc (.cells #[.int .i64 0, .int .i64 5] tI)) tP #[.slice (some ⟨w.heap.size + 1, 0, none⟩) 2 2, .slice none 0 0]).alloc (.cells #[.int .i64 1, .int .i64 0, .int .i64 0, .int .i64 3, .int .i64 1, .int .i64 2] tA)).alloc (.cells #[.slice (some ⟨w.heap.size + 1 + 1 + 1, 0, none⟩) 2 2] tT)).alloc (.cells #[.slice (some ⟨w.heap.size + 1 + 1 + 1 + 1, 0, none⟩) 1 1] tH))
    simpa using h
  · have h := (((Blk.new (((w.alloc (.cells #[.slice none 0 0, .slice none 0 0] tP)).alloc (.cells #[.int .i64 0, .int .i64 5] tI)).alloc (.cells #[.slice (some ⟨w.heap.size + 1, 0, none⟩) 2 2, .slice none 0 0] tP)) tA #[.int .i64 1, .int .i64 0, .int .i64 0, .int .i64 3, .int .i64 1, .int .i64 2]).alloc (.cells #[.slice (some ⟨w.heap.size + 1 + 1 + 1, 0, none⟩) 2 2] tT)).alloc (.cells #[.slice (some ⟨w.heap.size + 1 + 1 + 1 + 1, 0, none⟩) 1 1] tH))
    simpa using h
  · have h := ((Blk.new ((((w.alloc (.cells #[.slice none 0 0, .slice none 0 0] tP)).alloc (.cells #[.int .i64 0, .int .i64 5] tI)).alloc (.cells #[.slice (some ⟨w.heap.size + 1, 0, none⟩) 2 2, .slice none 0 0] tP)).alloc (.cells #[.int .i64 1, .int .i64 0, .int .i64 0, .int .i64 3, .int .i64 1, .int .i64 2] tA)) tT #[.slice (some ⟨w.heap.size + 1 + 1 + 1, 0, none⟩) 2 2]).alloc (.cells #[.slice (some ⟨w.heap.size + 1 + 1 + 1 + 1, 0, none⟩) 1 1] tH))
    simpa using h
  · have h := (Blk.new (((((w.alloc (.cells #[.slice none 0 0, .slice none 0 0] tP)).alloc (.cells #[.int .i64 0, .int .i64 5] tI)).alloc (.cells #[.slice (some ⟨w.heap.size + 1, 0, none⟩) 2 2, .slice none 0 0] tP)).alloc (.cells #[.int .i64 1, .int .i64 0, .int .i64 0, .int .i64 3, .int .i64 1, .int .i64 2] tA)).alloc (.cells #[.slice (some ⟨w.heap.size + 1 + 1 + 1, 0, none⟩) 2 2] tT)) tH #[.slice (some ⟨w.heap.size + 1 + 1 + 1 + 1, 0, none⟩) 1 1])
    simpa using h

/-- What lies behind the first append, and its store. -/
structure Ex1 (S : Nat) (w : World) (v1 : Value) (W : World) : Prop where
  r : Blk W S tP #[.slice none 0 0, .slice none 0 0]
  i : Blk W (S + 1) tI #[.int .i64 0, .int .i64 5]
  p : Blk W (S + 1 + 1) tP #[.slice (some ⟨S + 1, 0, none⟩) 2 2, v1]
  a : Blk W (S + 1 + 1 + 1) tA #[.int .i64 1, .int .i64 0, .int .i64 0, .int .i64 3, .int .i64 1, .int .i64 2]
  t : Blk W (S + 1 + 1 + 1 + 1) tT #[.slice (some ⟨S + 1 + 1 + 1, 0, none⟩) 2 2]
  below : Below S w W
theorem Ex0.first {S : Nat} {w W w1 : World} {v1 : Value} (h : Ex0 S w W) (hg : W.grownBy w1 none) : Ex1 S w v1 (w1.setCell ⟨S + 1 + 1, 1, none⟩ v1) := by
  have F := fun (g : Nat) (t : TypeId) (cs : Array Value) (hb : Blk W g t cs) (hn : g ≠ S + 1 + 1) => (hb.grown hg (by simp)).far (p := ⟨S + 1 + 1, 1, none⟩) hn v1
  refine ⟨F _ _ _ h.r (by omega), F _ _ _ h.i (by omega), ?_, F _ _ _ h.a (by omega), F _ _ _ h.t (by omega), ?_⟩
  · simpa using (h.p.grown hg (by simp)).put 1 v1
  · have hsz := h.size
    exact (below_only h.below ((Only.refl [] W).grown hg (fun k e => by cases e)) (by omega) (by simp)).setCell (p := ⟨S + 1 + 1, 1, none⟩) (by simp; omega) _
/-- The second thread. -/
structure Ex2 (S T : Nat) (w : World) (v1 : Value) (W : World) : Prop where
  e1 : Ex1 S w v1 W
  a : Blk W T tA #[.int .i64 2, .int .i64 0, .int .i64 7, .int .i64 4, .int .i64 0, .int .i64 0]
  t : Blk W (T + 1) tT #[.slice (some ⟨T, 0, none⟩) 2 2]
  h : Blk W (T + 1 + 1) tH #[.slice (some ⟨T + 1, 0, none⟩) 1 1]
  row : W.ownsRow S tH 1 v1 1 [.slice (some ⟨S + 1 + 1 + 1 + 1, 0, none⟩) 1 1]
  size : W.heap.size = T + 1 + 1 + 1
theorem Ex1.alloc {S : Nat} {w W : World} {v1 : Value} (h : Ex1 S w v1 W) (o : Obj) : Ex1 S w v1 (W.alloc o) := ⟨h.r.alloc o, h.i.alloc o, h.p.alloc o, h.a.alloc o, h.t.alloc o, h.below.alloc (by have := h.r.lt; omega) o⟩
theorem Ex1.second {S : Nat} {w W : World} {v1 : Value} (h : Ex1 S w v1 W) (hrow : W.ownsRow S tH 1 v1 1 [.slice (some ⟨S + 1 + 1 + 1 + 1, 0, none⟩) 1 1]) :
    Ex2 S W.heap.size w v1 (((W.alloc (.cells #[.int .i64 2, .int .i64 0, .int .i64 7, .int .i64 4, .int .i64 0, .int .i64 0] tA)).alloc (.cells #[.slice (some ⟨W.heap.size, 0, none⟩) 2 2] tT)).alloc (.cells #[.slice (some ⟨W.heap.size + 1, 0, none⟩) 1 1] tH)) := by
  refine ⟨((h.alloc _).alloc _).alloc _, ((Blk.new W tA _).alloc _).alloc _, ?_, ?_, ((hrow.alloc _).alloc _).alloc _, by simp⟩
  · have k := (Blk.new (W.alloc (.cells #[.int .i64 2, .int .i64 0, .int .i64 7, .int .i64 4, .int .i64 0, .int .i64 0] tA)) tT #[.slice (some ⟨W.heap.size, 0, none⟩) 2 2]).alloc (.cells #[.slice (some ⟨W.heap.size + 1, 0, none⟩) 1 1] tH)
    simpa using k
  · have k := (Blk.new ((W.alloc (.cells #[.int .i64 2, .int .i64 0, .int .i64 7, .int .i64 4, .int .i64 0, .int .i64 0] tA)).alloc (.cells #[.slice (some ⟨W.heap.size, 0, none⟩) 2 2] tT)) tH #[.slice (some ⟨W.heap.size + 1, 0, none⟩) 1 1])
    simpa using k
theorem resX (tmps : Array Value) (W : World) (g : Nat) (v0 v1 : Value) (h2 : tmps.getD 0 undef = .pointer (some ⟨g, 0, none⟩)) (c0 : W.cell? ⟨g, 0, none⟩ = some v0) (c1 : W.cell? ⟨g, 1, none⟩ = some v1) :
    (results Tryz.f14 tmps).run Tryz.prog W = .ok (.agg #[v0, v1]) W := by
  have h2' : tmps[0]?.getD undef = .pointer (some ⟨g, 0, none⟩) := by simpa using h2
  simp [results, Tryz.f14, h2', go_sem, c0, c1]
/-- The example, read behind all. -/
theorem Ex2.done {S T : Nat} {w W w2 : World} {v1 v2 : Value} (h : Ex2 S T w v1 W) (hT : S + 1 + 1 + 1 + 1 + 1 ≤ T) (hg : W.grownBy w2 v1.ownBlock) (hown : w2.ownsRow S tH 1 v2 2 [.slice (some ⟨S + 1 + 1 + 1 + 1, 0, none⟩) 1 1, .slice (some ⟨T + 1, 0, none⟩) 1 1]) :
    PgAt (((w2.setCell ⟨S + 1 + 1, 1, none⟩ v2).setCell ⟨S, 0, none⟩ (.slice (some ⟨S + 1, 0, none⟩) 2 2)).setCell ⟨S, 1, none⟩ v2) (.slice (some ⟨S + 1, 0, none⟩) 2 2) v2 exPg ∧
    Below S w (((w2.setCell ⟨S + 1 + 1, 1, none⟩ v2).setCell ⟨S, 0, none⟩ (.slice (some ⟨S + 1, 0, none⟩) 2 2)).setCell ⟨S, 1, none⟩ v2) ∧ (((w2.setCell ⟨S + 1 + 1, 1, none⟩ v2).setCell ⟨S, 0, none⟩ (.slice (some ⟨S + 1, 0, none⟩) 2 2)).setCell ⟨S, 1, none⟩ v2).cell? ⟨S, 0, none⟩ = some (.slice (some ⟨S + 1, 0, none⟩) 2 2) ∧ (((w2.setCell ⟨S + 1 + 1, 1, none⟩ v2).setCell ⟨S, 0, none⟩ (.slice (some ⟨S + 1, 0, none⟩) 2 2)).setCell ⟨S, 1, none⟩ v2).cell? ⟨S, 1, none⟩ = some v2 := by
  have G := fun (g : Nat) (t : TypeId) (cs : Array Value) (hb : Blk W g t cs) (ht : tH ≠ t) => hb.grown hg (fun e => hb.apartRow h.row ht e.symm)
  have F := fun (g : Nat) (t : TypeId) (cs : Array Value) (hb : Blk W g t cs) (ht : tH ≠ t) (h1 : g ≠ S + 1 + 1) (h2 : g ≠ S) => (((G g t cs hb ht).far (p := ⟨S + 1 + 1, 1, none⟩) h1 v2).far (p := ⟨S, 0, none⟩) h2 (.slice (some ⟨S + 1, 0, none⟩) 2 2)).far (p := ⟨S, 1, none⟩) h2 v2
  have bi := F _ _ _ h.e1.i (by decide) (by omega) (by omega)
  have ba := F _ _ _ h.e1.a (by decide) (by omega) (by omega)
  have bt := F _ _ _ h.e1.t (by decide) (by omega) (by omega)
  have ca := F _ _ _ h.a (by decide) (by omega) (by omega)
  have ct := F _ _ _ h.t (by decide) (by omega) (by omega)
  have bp := G _ _ _ h.e1.p (by decide)
  have br := G _ _ _ h.e1.r (by decide)
  have r1 := row_keep hown (W' := w2.setCell ⟨S + 1 + 1, 1, none⟩ v2) (fun g cs _ hh => Below.heap_setCell w2 ⟨S + 1 + 1, 1, none⟩ _ g (type_ne hh bp (by decide)))
  have br1 := br.far (p := ⟨S + 1 + 1, 1, none⟩) (by simp; omega) v2
  have r2 := row_keep r1 (W' := (w2.setCell ⟨S + 1 + 1, 1, none⟩ v2).setCell ⟨S, 0, none⟩ (.slice (some ⟨S + 1, 0, none⟩) 2 2)) (fun g cs _ hh => Below.heap_setCell _ ⟨S, 0, none⟩ _ g (type_ne hh br1 (by decide)))
  have br2 := br1.put 0 (.slice (some ⟨S + 1, 0, none⟩) 2 2)
  have r3 := row_keep r2 (W' := ((w2.setCell ⟨S + 1 + 1, 1, none⟩ v2).setCell ⟨S, 0, none⟩ (.slice (some ⟨S + 1, 0, none⟩) 2 2)).setCell ⟨S, 1, none⟩ v2) (fun g cs _ hh => Below.heap_setCell _ ⟨S, 1, none⟩ _ g (type_ne hh br2 (by decide)))
  have hlt := h.e1.r.lt
  refine ⟨⟨reads_blk bi rfl (by unfold maxLen; omega), _, reads_of_row r3, rfl, fun j u t hu ht => ?_⟩, ?_, by simpa using (br2.put 1 v2).cell 0, by simpa using (br2.put 1 v2).cell 1⟩
  · rcases j with _ | _ | j
    · simp [exPg] at hu ht
      subst hu ht
      exact readsT_blk ba rfl rfl (by unfold maxLen; simp) bt
    · simp [exPg] at hu ht
      subst hu ht
      exact readsT_blk ca rfl rfl (by unfold maxLen; simp) ct
    · simp at hu
  · have hb2 : Below S w w2 := below_only h.e1.below ((Only.refl v1.ownBlock.toList W).grown hg (fun k e => .inl (by simp [e]))) (by omega) (fun x hx => (row_own h.row (by simpa using hx)).1)
    exact ((hb2.setCell (p := ⟨S + 1 + 1, 1, none⟩) (by simp; omega) _).setCell (p := ⟨S, 0, none⟩) (by simp) _).setCell (p := ⟨S, 1, none⟩) (by simp) _

set_option maxHeartbeats 16000000 in
set_option maxRecDepth 100000 in
theorem exampleCall (w : World) : Calls Tryz.prog 14 #[] w fun e w' => ∃ vc vt, e = .returned (.agg #[vc, vt]) ∧ PgAt w' vc vt exPg ∧ Below w.heap.size w w' := by
  obtain ⟨i0, hi, hz0, hz1, hz2⟩ := info_parts infoH
  have HX := hid (ex_start w)
  go_enter Tryz.func14, Tryz.ntmps14
  go_wp2_with (first
    | (at_builtin; refine wpList_append_own_at _ rfl (.tmp 5) (.tmp 10) 23 rfl w.heap.size 57 i0 (.slice none 0 0) 1 24 Tryz.underlying23 hi hz0 hz1 hz2 rfl (by decide) (.slice none 0 0) 0 [] rfl (World.ownsRow_nil _ _ _ _) ⟨w.heap.size + 1 + 1 + 1 + 1 + 1, 0, none⟩ 1 1 [.slice (some ⟨w.heap.size + 1 + 1 + 1 + 1, 0, none⟩) 1 1] rfl rfl (World.news_of_block (cs := #[.slice (some ⟨w.heap.size + 1 + 1 + 1 + 1, 0, none⟩) 1 1]) (t := tH) (fr := (0, 0)) HX.out.h) (by simp [Value.oneCell']) (by unfold maxLen; omega) (by omega) (by simp; omega) ?_; intro v1 w1 hown1 hgrow1 _ hat1; obtain ⟨A1, c1, rfl⟩ := row_shape hown1; have hP1 := HX.out.p.grown hgrow1 (by simp [Value.ownBlock]); have x1 := hP1.cell 1; have f1 := hP1.frozen 1; have l1 := hP1.lt; have hE1 : Ex1 w.heap.size w (.slice A1 1 c1) (w1.setCell ⟨w.heap.size + 1 + 1, 1, none⟩ (.slice A1 1 c1)) := HX.out.first hgrow1; have hrow1 := row_keep hown1 (W' := w1.setCell ⟨w.heap.size + 1 + 1, 1, none⟩ (.slice A1 1 c1)) (fun g cs _ hh => Below.heap_setCell w1 ⟨w.heap.size + 1 + 1, 1, none⟩ _ g (type_ne hh hP1 (by decide))); have hE2 := hE1.second hrow1; go_loud (rw [show (w1.setCell ⟨w.heap.size + 1 + 1, 1, none⟩ (.slice A1 1 c1)).heap.size = w1.heap.size by simp] at hE2); have HE2 := hid hE2; go_loud (have hT : w.heap.size + 1 + 1 + 1 + 1 + 1 ≤ w1.heap.size := by have h9 := hgrow1.size; simp at h9; omega); clear hE2; have y1 := hE1.p.cell 1; clear hown1 hgrow1 hP1 hE1 hrow1)
    | (at_builtin; go_loud (refine wpList_append_own_at _ rfl (.tmp 14) (.tmp 19) 23 rfl w.heap.size 57 i0 (.slice none 0 0) 1 24 Tryz.underlying23 hi hz0 hz1 hz2 rfl (by decide) (.slice A1 1 c1) 1 _ rfl HE2.out.row ⟨w1.heap.size + 1 + 1, 0, none⟩ 1 1 [.slice (some ⟨w1.heap.size + 1, 0, none⟩) 1 1] rfl rfl (World.news_of_block (cs := #[.slice (some ⟨w1.heap.size + 1, 0, none⟩) 1 1]) (t := tH) (fr := (0, 0)) HE2.out.h) (by simp [Value.oneCell']) (by unfold maxLen; omega) (by omega) (by simp; omega) ?_); intro v2 w2 hown2 hgrow2 _ hat2; obtain ⟨A2, c2, rfl⟩ := row_shape hown2; have hP2 := HE2.out.e1.p.grown hgrow2 (fun e => HE2.out.e1.p.apartRow HE2.out.row (by decide) e.symm); have hR2 := HE2.out.e1.r.grown hgrow2 (fun e => HE2.out.e1.r.apartRow HE2.out.row (by decide) e.symm); have p0 := hP2.cell 0; have p1 := hP2.cell 1; have q1 := hP2.frozen 1; have lp := hP2.lt; have r0 := hR2.cell 0; have r1 := hR2.cell 1; have s0 := hR2.frozen 0; have s1 := hR2.frozen 1; have lr := hR2.lt; have HD := hid (HE2.out.done hT hgrow2 hown2); clear hown2 hgrow2 hP2 hR2))
  exact bodyPost_ret (resX _ _ _ _ _ rfl HD.out.2.2.1 HD.out.2.2.2) rfl ⟨_, _, rfl, HD.out.1, HD.out.2.1⟩
end Go.Proofs.YtgfmlaflochffaaGreatDoor
