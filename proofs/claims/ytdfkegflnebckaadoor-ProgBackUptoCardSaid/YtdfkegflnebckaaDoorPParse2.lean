/-
  prog.Parse: the walk.
-/
import Derived.Test.YtdfkegflnebckaaDoorPParse
import Derived.Deep.Cut
import Derived.Deep.CutRange
import Derived.Deep.DrawnRows
import Derived.Deep.AppendLies
import Derived.BigRegion
namespace Go.Proofs.YtdfkegflnebckaaDoor
open Go.RowKit Go.Maps W
attribute [local go_sem ↓] Go.wp_at_zero Go.wp_at_succ
attribute [local go_sem] Oper.semAt_some

/-- No panic. -/
def calmP (Q : Exit → Act → World → Prop) : Exit → Act → World → Prop
  | .panic _, _, _ => False
  | .normal, a, w => Q .normal a w
  | .ret, a, w => Q .ret a w
  | .exit i, a, w => Q (.exit i) a w
  | .goto l, a, w => Q (.goto l) a w
  | .outgrown, a, w => Q .outgrown a w
theorem calmP_le (Q : Exit → Act → World → Prop) : ∀ e a w, calmP Q e a w → Q e a w := by
  intro e a w h
  cases e with
  | panic c => exact h.elim
  | normal => exact h
  | ret => exact h
  | exit i => exact h
  | goto l => exact h
  | outgrown => exact h
theorem wp_midP {P : Program} {c : Code} {id : Nat} {Q2 : Exit → Act → World → Prop} {a : Act} {w : World} (J K : Nat → World → Prop)
    (h : c.wp P (fun e a' W => ∃ D, a' = { a with defers := { target := .collected D, args := #[] } :: a.defers } ∧ ((e = .normal ∨ e = .exit id) ∧ J D W ∨ e = .ret ∧ K D W)) a w)
    (hq : ∀ D W, J D W → Q2 .normal { a with defers := { target := .collected D, args := #[] } :: a.defers } W) (hr : ∀ D W, K D W → Q2 .ret { a with defers := { target := .collected D, args := #[] } :: a.defers } W) : c.wp P (Exit.inBlock id Q2) a w := by
  refine wp_mono h ?_
  rintro e a' W ⟨D, rfl, ⟨rfl | rfl, hJ⟩ | ⟨rfl, hK⟩⟩
  · exact hq D W hJ
  · simp only [Exit.inBlock, if_true]
    exact hq D W hJ
  · exact hr D W hK
def ErrAny (v : Value) : Prop := ∃ t a, v = .iface t (.pointer (some a)) ∧ (t = 162 ∨ t = 68)
def ParseOut (b : List UInt8) (pv ev : Value) (W : World) : Prop :=
  (∃ vc vt q, parsePg b = some q ∧ pv = .agg #[vc, vt] ∧ ev = .nilIface ∧ PgAt W vc vt q) ∨ (parsePg b = none ∧ pv = .agg #[.slice none 0 0, .slice none 0 0] ∧ ErrAny ev)

theorem reads_kept {W W' : World} {v : Value} {xs : List Value} (h : Reads W v xs) (hk : ∀ a u, W.cell? a = some u → W'.cell? a = some u) : Reads W' v xs := by
  obtain ⟨A, c, b, o, h1, h2, h3, h4, h5⟩ := h
  exact ⟨A, c, b, o, h1, h2, h3, h4, fun j u hj => hk _ _ (h5 j u hj)⟩
theorem pgAt_kept {W W' : World} {vc vt : Value} {p : Pg} (h : PgAt W vc vt p) (hk : ∀ a u, W.cell? a = some u → W'.cell? a = some u) : PgAt W' vc vt p := by
  obtain ⟨h1, us, h2, h3, h4⟩ := h
  refine ⟨reads_kept h1 hk, us, reads_kept h2 hk, h3, fun i u t hu ht => ?_⟩
  obtain ⟨vs, k1, k2, k3⟩ := h4 i u t hu ht
  refine ⟨vs, reads_kept k1 hk, k2, fun j v l hv hl => ?_⟩
  obtain ⟨A, c, b, o, r1, r2, r3, r4, r5⟩ := k3 j v l hv hl
  exact ⟨A, c, b, o, r1, r2, r3, r4, fun m a hm => ⟨hk _ _ (r5 m a hm).1, hk _ _ (r5 m a hm).2.1, hk _ _ (r5 m a hm).2.2⟩⟩
theorem ParseOut.kept {b : List UInt8} {pv ev : Value} {W W' : World} (h : ParseOut b pv ev W) (hk : ∀ a u, W.cell? a = some u → W'.cell? a = some u) : ParseOut b pv ev W' := by
  rcases h with ⟨vc, vt, q, h1, h2, h3, h4⟩ | h
  · exact .inl ⟨vc, vt, q, h1, h2, h3, pgAt_kept h4 hk⟩
  · exact .inr h
theorem resP (tmps : Array Value) (W : World) (g : Nat) (v0 v1 ev : Value) (h2 : tmps.getD 2 undef = .pointer (some ⟨g, 0, none⟩)) (h3 : tmps.getD 3 undef = .pointer (some ⟨g + 1, 0, none⟩)) (c0 : W.cell? ⟨g, 0, none⟩ = some v0) (c1 : W.cell? ⟨g, 1, none⟩ = some v1) (c2 : W.cell? ⟨g + 1, 0, none⟩ = some ev) :
    (results Tryd.f8 tmps).run Tryd.prog W = .ok (.tuple #[.agg #[v0, v1], ev]) W := by
  have h2' : tmps[2]?.getD undef = .pointer (some ⟨g, 0, none⟩) := by simpa using h2
  have h3' : tmps[3]?.getD undef = .pointer (some ⟨g + 1, 0, none⟩) := by simpa using h3
  simp [results, Tryd.f8, h2', h3', go_sem, c0, c1, c2]
theorem leaveP (b : List UInt8) (w : World) (g : Nat) (tmps : Array Value) (v0 v1 ev : Value) (h2 : tmps.getD 2 undef = .pointer (some ⟨g, 0, none⟩)) (h3 : tmps.getD 3 undef = .pointer (some ⟨g + 1, 0, none⟩)) : ∀ (Ds : List Nat) (W : World), Ds.Nodup → (∀ D ∈ Ds, W.heap[D]? = some (.deferred (some [])) ∧ w.heap.size ≤ D) →
    W.cell? ⟨g, 0, none⟩ = some v0 → W.cell? ⟨g, 1, none⟩ = some v1 → W.cell? ⟨g + 1, 0, none⟩ = some ev → ParseOut b (.agg #[v0, v1]) ev W → Below w.heap.size w W →
    LeavesInM Fence.wide 8 Tryd.prog Tryd.f8 tmps (fun e w' => ∃ pv ev, e = .returned (.tuple #[pv, ev]) ∧ ParseOut b pv ev w' ∧ Below w.heap.size w w') (Ds.map fun D => { target := .collected D, args := #[] }) .returning W
  | [], W, _, _, c0, c1, c2, hp, hb => ⟨_, resP tmps W g v0 v1 ev h2 h3 c0 c1 c2, _, _, rfl, hp, hb⟩
  | D :: Ds, W, hn, hD, c0, c1, c2, hp, hb => by
    have hK := (hD D (by simp)).1
    refine ⟨by simp, .inl ⟨D, _, rfl, run_takeDeferred hK, ?_⟩⟩
    rw [List.nodup_cons] at hn
    have hk : ∀ a u, W.cell? a = some u → (W.putObj D (.deferred none)).cell? a = some u := fun a u h => cell_kept h (grownBy_putObj' W D (.deferred none)) (fun r e => by cases e; exact ⟨_, hK, rfl⟩)
    refine leaveP b w g tmps v0 v1 ev h2 h3 Ds _ hn.2 (fun D' hD' => ?_) (hk _ _ c0) (hk _ _ c1) (hk _ _ c2) (hp.kept hk) (hb.trans (belowK_b (w := w) (Nat.le_refl _) W D _ _ (hD D (by simp)).2 hK rfl rfl))
    have hne : D' ≠ D := fun e => hn.1 (e ▸ hD')
    exact ⟨(World.putObj_heap_other hne).trans (hD D' (List.mem_cons_of_mem _ hD')).1, (hD D' (List.mem_cons_of_mem _ hD')).2⟩

/-- Between two rounds: the boxes, the program. -/
structure Pi (S : Nat) (w : World) (b : List UInt8) (n : Nat) (p : Pg) (vc vt : Value) (W : World) : Prop where
  pp : Pp [S + 1 + 1 + 1, S + 1 + 1 + 1 + 1] (S + 1 + 1) (S + 1 + 1) W vc vt p
  t2 : Blk W S tP #[.slice none 0 0, .slice none 0 0]
  t3 : Blk W (S + 1) 30 #[.nilIface]
  said : Blk W (S + 1 + 1 + 1) tI #[.int .i64 n]
  lb : Blk W (S + 1 + 1 + 1 + 1) 9 #[.string ⟨b.toArray⟩]
  below : Below S w W
def PI (S : Nat) (w : World) (b : List UInt8) (ls : List (List UInt8)) (pre : List Nat) (W : World) : Prop := ∃ n p vc vt, goAll ls pre = some (n, p) ∧ PgBnd n p ∧ n ≤ pre.length ∧ Pi S w b n p vc vt W
def PX (S : Nat) (w : World) (ls : List (List UInt8)) (c : Code) (pre : List Nat) (W : World) : Prop := c = .ret ∧ goAll ls pre = none ∧ ∃ ev, ErrAny ev ∧ W.cell? ⟨S, 0, none⟩ = some (.slice none 0 0) ∧ W.cell? ⟨S, 1, none⟩ = some (.slice none 0 0) ∧ W.cell? ⟨S + 1, 0, none⟩ = some ev ∧ Below S w W
theorem turn_below {S B : Nat} {w W W' : World} {row : Option Nat} (h : Below S w W) (hS : S ≤ B) (hsz : S ≤ W.heap.size) (hg : W.grownBy W' row) (hr : ∀ r, row = some r → B ≤ r ∧ ∃ o : Obj, W.heap[r]? = some o ∧ o.isCells = false) : Below S w W' :=
  below_only h ((Only.refl row.toList W).grown hg (fun k e => .inl (by simp [e]))) hsz (fun x hx => by
    have := (hr x (by simpa using hx)).1
    omega)
theorem turn_cells {B : Nat} {W W' : World} {row : Option Nat} (hg : W.grownBy W' row) (hr : ∀ r, row = some r → B ≤ r ∧ ∃ o : Obj, W.heap[r]? = some o ∧ o.isCells = false) (k : Nat) (cs : Array Value) (t : TypeId) (h : W.heap[k]? = some (.cells cs t (0, 0))) : W'.heap[k]? = some (.cells cs t (0, 0)) :=
  (hg.block k (lt_of_at h) (fun e => by
    obtain ⟨_, o, ho, hc⟩ := hr k e.symm
    rw [h] at ho
    injection ho with ho
    subst ho
    simp [Obj.isCells] at hc)).trans h
theorem PI.turn {S B : Nat} {w W W' : World} {b : List UInt8} {ls : List (List UInt8)} {pre : List Nat} {row : Option Nat} (h : PI S w b ls pre W) (hS : S ≤ B) (hg : W.grownBy W' row) (hr : ∀ r, row = some r → B ≤ r ∧ ∃ o : Obj, W.heap[r]? = some o ∧ o.isCells = false) : PI S w b ls pre W' := by
  obtain ⟨n, p, vc, vt, h1, h2, h3, h4⟩ := h
  have hk := turn_cells hg hr
  have hlt := h4.t2.lt
  exact ⟨n, p, vc, vt, h1, h2, h3, h4.pp.cellsKept hg.size hk, hk _ _ _ h4.t2, hk _ _ _ h4.t3, hk _ _ _ h4.said, hk _ _ _ h4.lb, turn_below h4.below hS (by omega) hg hr⟩
theorem PX.turn {S B : Nat} {w W W' : World} {ls : List (List UInt8)} {c : Code} {pre : List Nat} {row : Option Nat} (h : PX S w ls c pre W) (hS : S ≤ B) (hg : W.grownBy W' row) (hr : ∀ r, row = some r → B ≤ r ∧ ∃ o : Obj, W.heap[r]? = some o ∧ o.isCells = false) : PX S w ls c pre W' := by
  obtain ⟨h1, h2, ev, h3, c0, c1, c2, h4⟩ := h
  have hlt := World.block_lt_of_cell? W _ c0
  have hk := fun a u h => cell_kept (a := a) (v := u) h hg (fun r e => (hr r e).2)
  exact ⟨h1, h2, ev, h3, hk _ _ c0, hk _ _ c1, hk _ _ c2, turn_below h4 hS (by simp at hlt; omega) hg hr⟩

theorem Pi.call {S : Nat} {w W W' : World} {b : List UInt8} {n : Nat} {p : Pg} {vc vt : Value} (h : Pi S w b n p vc vt W) (hb : Below W.heap.size W W') : Pi S w b n p vc vt W' := by
  have hlt := h.t2.lt
  exact ⟨h.pp.call hb, h.t2.below hb h.t2.lt, h.t3.below hb h.t3.lt, h.said.below hb h.said.lt, h.lb.below hb h.lb.lt, h.below.trans (hb.mono (by omega))⟩
theorem Pi.put {S : Nat} {w W : World} {b : List UInt8} {n m : Nat} {p : Pg} {vc vt : Value} (h : Pi S w b n p vc vt W) : Pi S w b m p vc vt (W.setCell ⟨S + 1 + 1 + 1, 0, none⟩ (.int .i64 m)) := by
  have hlt := h.t2.lt
  have hs : ∀ k, k ≠ S + 1 + 1 + 1 → (W.setCell ⟨S + 1 + 1 + 1, 0, none⟩ (.int .i64 m)).heap[k]? = W.heap[k]? := fun k hk => Below.heap_setCell W ⟨S + 1 + 1 + 1, 0, none⟩ _ k hk
  exact ⟨h.pp.set _ h.said (by omega) (h.pp.frn _ (by simp)).2.2 (by decide) (by decide) (by decide), (hs _ (by omega)).trans h.t2, (hs _ (by omega)).trans h.t3, h.said.put 0 _, (hs _ (by omega)).trans h.lb, h.below.trans ((Below.refl S W).setCell (p := ⟨S + 1 + 1 + 1, 0, none⟩) (by simp; omega) _)⟩
theorem Pi.drew {S : Nat} {w W : World} {b : List UInt8} {n : Nat} {p : Pg} {vc vt : Value} (h : Pi S w b n p vc vt W) : Pi S w b n p vc vt W.drew := ⟨h.pp.drew, h.t2, h.t3, h.said, h.lb, h.below.drew⟩
theorem roundCall {w W1 W2 : World} {b : List UInt8} {n A2 : Nat} {p : Pg} {vc vt : Value} {x0 : List UInt8} {r : List (List UInt8)} (hPi1 : Pi w.heap.size w b (n + 1) p vc vt W1) (hL : LaidP w) (hbnd : PgBnd n p) (hn : n ≤ 90000) (hb2 : Below W1.heap.size W1 W2) (hA : W1.heap.size ≤ A2)
    (hown : W2.ownsRow W1.heap.size 9 1 (.slice (some ⟨A2, 0, none⟩) (r.length + 1) (r.length + 1)) (r.length + 1) (txs (x0 :: r))) (hwl : r.length + 1 ≤ 100000) (hrl : ∀ y ∈ x0 :: r, y.length ≤ 1000000000) :
    Calls Tryd.prog 23 #[.pointer (some ⟨w.heap.size + 1 + 1, 0, none⟩), .int .i64 ((n : Int) + 1), .slice (some ⟨A2, 0, none⟩) (r.length + 1) (r.length + 1)] W2 fun e W3 => ∃ v vc' vt' p', e = .returned v ∧ LineOut p (n + 1) (x0 :: r) v p' ∧ Pi w.heap.size w b (n + 1) p' vc' vt' W3 ∧ KeepsOthers W2 W3 := by
  have hPi2 := hPi1.call hb2
  have hA2 : A2 < W2.heap.size := (row_own hown (show (Value.slice (some ⟨A2, 0, none⟩) (r.length + 1) (r.length + 1)).ownBlock = some A2 from rfl)).2
  have hpp := (hPi1.pp.addF hb2 hA hA2).addOthers
  have hbd : Below w.heap.size w W2 := hPi2.below
  have h := lineCall _ (w.heap.size + 1 + 1) (w.heap.size + 1 + 1) vc vt p (n + 1) (by omega) (by omega) x0 r (some ⟨A2, 0, none⟩) (r.length + 1) w W2 hL hbd (by omega) hpp (reads_of_row (by simpa using hown)) (fun b' o e => by injection e with e; injection e with e; subst e; simp) hrl (by have := hbnd.2.1; omega) (hbnd.small (by omega))
  rw [show ((n + 1 : Nat) : Int) = (n : Int) + 1 by simp] at h
  refine h.mono ?_
  rintro e W3 ⟨v, vc', vt', p', rfl, hlo, hp3, hk3, hb3⟩
  refine ⟨v, vc', vt', p', rfl, hlo, ⟨hp3.sub (fun g hg => (by simp at hg; rcases hg with rfl | rfl <;> simp)), ?_, ?_, ?_, ?_, hbd.trans (hb3.mono (by omega))⟩, keeps_others hb3.size hk3⟩
  · exact (hb3.block _ (by omega)).trans hPi2.t2
  · exact (hb3.block _ (by omega)).trans hPi2.t3
  · exact (hk3 _ (by simp)).trans hPi2.said
  · exact (hk3 _ (by simp)).trans hPi2.lb

theorem pi_start (w : World) (b : List UInt8) : Pi w.heap.size w b 0 ⟨[], []⟩ (.slice none 0 0) (.slice none 0 0) (((((w.alloc (.cells #[.slice none 0 0, .slice none 0 0] tP)).alloc (.cells #[.nilIface] 30)).alloc (.cells #[.slice none 0 0, .slice none 0 0] tP)).alloc (.cells #[.int .i64 0] tI)).alloc (.cells #[.string ⟨b.toArray⟩] 9)) := by
  have b0 := Blk.new w tP #[.slice none 0 0, .slice none 0 0]
  generalize hw1 : w.alloc (.cells #[.slice none 0 0, .slice none 0 0] tP) = w1 at *
  have s1 : w1.heap.size = w.heap.size + 1 := by rw [← hw1]; simp
  have e1 : Below w.heap.size w w1 := by rw [← hw1]; exact (Below.refl _ _).alloc (Nat.le_refl _) _
  clear hw1
  have b1 := Blk.new w1 30 #[.nilIface]
  have b0' := b0.alloc (.cells #[.nilIface] 30)
  generalize hw2 : w1.alloc (.cells #[.nilIface] 30) = w2 at *
  have s2 : w2.heap.size = w.heap.size + 1 + 1 := by rw [← hw2]; simp [s1]
  have e2 : Below w.heap.size w w2 := by rw [← hw2]; exact e1.alloc (by omega) _
  clear hw2
  have b2 := Blk.new w2 tP #[.slice none 0 0, .slice none 0 0]
  have b0'' := b0'.alloc (.cells #[.slice none 0 0, .slice none 0 0] tP)
  have b1' := b1.alloc (.cells #[.slice none 0 0, .slice none 0 0] tP)
  generalize hw3 : w2.alloc (.cells #[.slice none 0 0, .slice none 0 0] tP) = w3 at *
  have s3 : w3.heap.size = w.heap.size + 1 + 1 + 1 := by rw [← hw3]; simp [s2]
  have e3 : Below w.heap.size w w3 := by rw [← hw3]; exact e2.alloc (by omega) _
  clear hw3
  have b3 := Blk.new w3 tI #[.int .i64 0]
  have c0 := b0''.alloc (.cells #[.int .i64 0] tI)
  have c1 := b1'.alloc (.cells #[.int .i64 0] tI)
  have c2 := b2.alloc (.cells #[.int .i64 0] tI)
  generalize hw4 : w3.alloc (.cells #[.int .i64 0] tI) = w4 at *
  have s4 : w4.heap.size = w.heap.size + 1 + 1 + 1 + 1 := by rw [← hw4]; simp [s3]
  have e4 : Below w.heap.size w w4 := by rw [← hw4]; exact e3.alloc (by omega) _
  clear hw4
  have b4 := Blk.new w4 9 #[.string ⟨b.toArray⟩]
  have d0 := c0.alloc (.cells #[.string ⟨b.toArray⟩] 9)
  have d1 := c1.alloc (.cells #[.string ⟨b.toArray⟩] 9)
  have d2 := c2.alloc (.cells #[.string ⟨b.toArray⟩] 9)
  have d3 := b3.alloc (.cells #[.string ⟨b.toArray⟩] 9)
  have e5 : Below w.heap.size w (w4.alloc (.cells #[.string ⟨b.toArray⟩] 9)) := e4.alloc (by omega) _
  have s5 : (w4.alloc (.cells #[.string ⟨b.toArray⟩] 9)).heap.size = w.heap.size + 1 + 1 + 1 + 1 + 1 := by simp [s4]
  generalize w4.alloc (.cells #[.string ⟨b.toArray⟩] 9) = w5 at *
  rw [s1] at d1
  rw [s2] at d2
  rw [s3] at d3
  rw [s4] at b4
  refine ⟨⟨d2, Nat.le_refl _, World.ownsRow_nil _ _ _ _, ⟨[], World.ownsRow_nil _ _ _ _, rfl, fun i u t hu => by simp at hu, fun i j u v g _ hu => by simp at hu, fun g _ => ⟨by simp [Value.ownBlock], fun u hu => by simp at hu⟩⟩, fun g hg => ?_⟩, d0, d1, d3, b4, e5⟩
  simp at hg
  rcases hg with rfl | rfl
  · exact ⟨by omega, by omega, by simp [Value.ownBlock]⟩
  · exact ⟨by omega, by omega, by simp [Value.ownBlock]⟩
theorem Pi.ends {S : Nat} {w W : World} {b : List UInt8} {n : Nat} {p : Pg} {vc vt : Value} (h : Pi S w b n p vc vt W) (v0 v1 ev : Value) :
    (((W.setCell ⟨S, 0, none⟩ v0).setCell ⟨S, 1, none⟩ v1).setCell ⟨S + 1, 0, none⟩ ev).cell? ⟨S, 0, none⟩ = some v0 ∧ (((W.setCell ⟨S, 0, none⟩ v0).setCell ⟨S, 1, none⟩ v1).setCell ⟨S + 1, 0, none⟩ ev).cell? ⟨S, 1, none⟩ = some v1 ∧
    (((W.setCell ⟨S, 0, none⟩ v0).setCell ⟨S, 1, none⟩ v1).setCell ⟨S + 1, 0, none⟩ ev).cell? ⟨S + 1, 0, none⟩ = some ev ∧ Below S w (((W.setCell ⟨S, 0, none⟩ v0).setCell ⟨S, 1, none⟩ v1).setCell ⟨S + 1, 0, none⟩ ev) ∧
    KeepsOthers W (((W.setCell ⟨S, 0, none⟩ v0).setCell ⟨S, 1, none⟩ v1).setCell ⟨S + 1, 0, none⟩ ev) ∧ PgAt (((W.setCell ⟨S, 0, none⟩ v0).setCell ⟨S, 1, none⟩ v1).setCell ⟨S + 1, 0, none⟩ ev) vc vt p := by
  have E2 := (((h.t2.put 0 v0).put 1 v1).far (p := ⟨S + 1, 0, none⟩) (by simp) ev)
  have E3 := (((h.t3.far (p := ⟨S, 0, none⟩) (by simp) v0).far (p := ⟨S, 1, none⟩) (by simp) v1).put 0 ev)
  have E4 := (((h.below.setCell (p := ⟨S, 0, none⟩) (by simp) v0).setCell (p := ⟨S, 1, none⟩) (by simp) v1).setCell (p := ⟨S + 1, 0, none⟩) (by simp) ev)
  have hv : ∀ g, g < S + 1 + 1 → vc.ownBlock ≠ some g := fun g hg e => by
    have := (row_own h.pp.cells e).1
    omega
  have P1 := h.pp.set (j := 0) v0 h.t2 (by omega) (hv _ (by omega)) (by decide) (by decide) (by decide)
  have P2 := P1.set (j := 1) v1 (h.t2.put 0 v0) (by omega) (hv _ (by omega)) (by decide) (by decide) (by decide)
  have P3 := P2.set (j := 0) ev ((h.t3.far (p := ⟨S, 0, none⟩) (by simp) v0).far (p := ⟨S, 1, none⟩) (by simp) v1) (by omega) (hv _ (by omega)) (by decide) (by decide) (by decide)
  exact ⟨by simpa using E2.cell 0, by simpa using E2.cell 1, by simpa using E3.cell 0, E4, ((KeepsOthers.setCell _ _ _).trans (KeepsOthers.setCell _ _ _)).trans (KeepsOthers.setCell _ _ _), P3.pgAt⟩

set_option maxHeartbeats 16000000 in
set_option maxRecDepth 100000 in
theorem parseCall (v : Value) (b : List UInt8) (w : World) (hL : LaidP w) (hv : Reads w v (bys b)) (hb9 : b.length ≤ 9223372036854775807) :
    Calls Tryd.prog 8 #[v] w fun e w' => ∃ pv ev, e = .returned (.tuple #[pv, ev]) ∧ ParseOut b pv ev w' ∧ Below w.heap.size w w' := by
  obtain ⟨A, c, rfl⟩ := hv.shape
  rw [bys_len] at hv ⊢
  have HR := hid hv
  have HL := hid hL
  obtain ⟨a0, ha0⟩ := hL.word.errs 2 (by simp)
  obtain ⟨a1, ha1⟩ := hL.word.errs 3 (by simp)
  have l0 := World.block_lt_of_cell? w _ ha0
  have l1 := World.block_lt_of_cell? w _ ha1
  clear hv hL
  refine (callsIn_wide (n := 8)).1 (callsIn_of_wp_marks Tryd.func8 rfl trivial ?_)
  refine wpIn_wide.2 (wp_mono ?_ (calmP_le _))
  simp only [Tryd.ntmps8, List.size_toArray, List.length_cons, List.length_nil, Nat.reduceAdd, Nat.reduceSub, Array.replicate_succ, Array.replicate_zero, List.push_toArray, List.append_toArray, List.nil_append, List.cons_append]
  by_cases hbig : 65536 < b.length
  · have t1 : decide ((65536 : Int) < (b.length : Int)) = true := by simp; omega
    go_wp2_with fail
    go_region
    all_goals go_wp2_with fail
    all_goals exact leaveP b w w.heap.size _ _ _ _ rfl rfl [] _ List.nodup_nil (fun D h => by cases h) (by simp) (by simp) (by simp) (.inr ⟨by unfold parsePg; rw [if_pos hbig], rfl, _, a0, rfl, .inl rfl⟩) (((Below.refl w.heap.size w).alloc (Nat.le_refl _) _).alloc (by simp) _).drew
  have t1 : decide ((65536 : Int) < (b.length : Int)) = false := by simp; omega
  have HB0 : Hid (Below w.heap.size w ((((w.alloc (.cells #[.slice none 0 0, .slice none 0 0] tP)).alloc (.cells #[.nilIface] 30)).alloc (.cells #[.slice none 0 0, .slice none 0 0] tP)).alloc (.cells #[.int .i64 0] tI))) := hid (((((Below.refl w.heap.size w).alloc (Nat.le_refl _) _).alloc (by simp) _).alloc (by simp; omega) _).alloc (by simp; omega) _)
  have HLc := hid (linesCall (.slice A b.length c) b _ (HR.out.below HB0.out (Nat.le_refl _)))
  have HPI : Hid (PI w.heap.size w b (lines b) [] (((((w.alloc (.cells #[.slice none 0 0, .slice none 0 0] tP)).alloc (.cells #[.nilIface] 30)).alloc (.cells #[.slice none 0 0, .slice none 0 0] tP)).alloc (.cells #[.int .i64 0] tI)).alloc (.cells #[.string ⟨b.toArray⟩] 9))) := hid (by
    refine ⟨0, ⟨[], []⟩, .slice none 0 0, .slice none 0 0, rfl, ⟨fun _ => rfl, by simp, by simp, by simp⟩, by simp, ?_⟩
    exact pi_start w b)
  go_wp2_with (go_at_call 21; refine HLc.out.mono ?_; rintro e w6 ⟨rfl, rfl⟩)
  clear HLc HB0
  have hPI := HPI.out
  clear HPI
  generalize ((((w.alloc (.cells #[.slice none 0 0, .slice none 0 0] tP)).alloc (.cells #[.nilIface] 30)).alloc (.cells #[.slice none 0 0, .slice none 0 0] tP)).alloc (.cells #[.int .i64 0] tI)).alloc (.cells #[.string ⟨b.toArray⟩] 9) = wa at hPI ⊢
  refine wp_midP (fun D W => PI w.heap.size w b (lines b) (List.range (lines b).length) W ∧ W.heap[D]? = some (.deferred (some [])) ∧ w.heap.size ≤ D) (fun D W => (∃ k, k ≤ (lines b).length ∧ PX w.heap.size w (lines b) .ret (List.range k) W) ∧ W.heap[D]? = some (.deferred (some [])) ∧ w.heap.size ≤ D) ?range ?rest ?left
  case range =>
    have hbf : wa.cell? ⟨w.heap.size + 1 + 1 + 1 + 1, 0, none⟩ = some (.string ⟨b.toArray⟩) := by
      obtain ⟨n, p, vc, vt, _, _, _, h⟩ := hPI
      exact h.lb.cell 0
    have hBs : w.heap.size ≤ wa.heap.size := by
      have := World.block_lt_of_cell? wa _ hbf
      simp at this
      omega
    refine (wpIn_wide (n := 8)).1 ?_
    apply wpIn_rangeFunc_ownG (n := 8) rfl (by omega) (gf := 35) (lb := #[.pointer (some ⟨w.heap.size + 1 + 1 + 1 + 1, 0, none⟩)]) rfl trivial (enters_of Tryd.func35 (by kernel_rfl) rfl)
      (lines_stops Fence.wide (8 - 1) trivial rfl (by omega) (w.heap.size + 1 + 1 + 1 + 1) b (by omega) wa hbf)
      (fun h k => Kept.trans h k) (fun W l o o' _ h1 h2 _ => Kept.putObj W l o o' h1 h2) (Below.refl _ _) (fun _ => rfl)
      (fun (pre : List Nat) W => PI w.heap.size w b (lines b) pre W)
      (fun c (pre : List Nat) W => PX w.heap.size w (lines b) c pre W)
      (fun pre W W' row h hg hr => h.turn hBs hg hr)
      (fun c pre W W' row h hg hr => h.turn hBs hg hr)
      hPI (a₁ := _) ?assign ?body ?done ?stop
    case assign =>
      intro l x W K hK
      gi_wp2
      exact hK
    case body =>
      rintro l pre x W ⟨n, p, vc, vt, hg, hbnd, hnl, hPi⟩ hlt
      have hNc : (lines b).length ≤ 65537 := by have := ll_count b []; unfold lines; omega
      have hsl := line_len b x
      have hgs := goAll_snoc (lines b) pre x
      rw [hg] at hgs
      generalize hsd : (lines b)[x]?.getD [] = s at *
      clear hsd hg
      have HS := hid (fun W => silentCall s (by omega) W)
      have HG := hid hgs
      have HBND := hid hbnd
      have HPi := hid hPi
      clear hbnd hgs
      unfold str
      by_cases hsi : silent s = true
      · rw [hsi] at HS
        clear hPi
        gi_wp2_with (first | (gi_at_call 22; refine (CallsIn.inRound l (callsIn_wide.2 (HS.out _))).mono ?_; rintro e w' ⟨rfl, rfl⟩) | (refine ⟨trivial, ?_⟩; gi_at_call 22; refine (CallsIn.inRound l (callsIn_wide.2 (HS.out _))).mono ?_; rintro e w' ⟨rfl, rfl⟩))
        exact ⟨(KeepsOthers.refl _).from _, fun _ _ _ h => h, n, p, vc, vt, by rw [HG.out]; simp [goOne, hsi], HBND.out, by simp; omega, HPi.out⟩
      · have hsf : silent s = false := by simpa using hsi
        rw [hsf] at HS
        obtain ⟨x0, r, hws⟩ : ∃ x0 r, words s = x0 :: r := by
          cases h : words s with
          | nil => exact absurd h (words_ne s hsf)
          | cons x0 r => exact ⟨x0, r, rfl⟩
        have hwl : r.length + 1 ≤ 100000 := by
          have h := wl_len s []
          have e : (words s).length = r.length + 1 := by rw [hws]; rfl
          unfold words at e
          omega
        have hrl : ∀ y ∈ x0 :: r, y.length ≤ 1000000000 := fun y hy => by
          have := word_len s y (by rw [hws]; exact hy)
          omega
        have HWc := hid (fun W => wordsCall s (by omega) W)
        rw [hws] at HWc
        simp only [List.length_cons] at HWc
        have HP1 := hid ((hPi.put (m := n + 1)).drew)
        rw [show ((n + 1 : Nat) : Int) = (n : Int) + 1 by simp] at HP1
        have HRC := hid (fun W2 A2 (hb2 : Below _ _ W2) hA hown => roundCall (W2 := W2) (A2 := A2) HP1.out HL.out HBND.out (by omega) hb2 hA hown hwl hrl)
        have HG2 := hid (show goOne (some (n, p)) s = (lineStep p (n + 1) (x0 :: r)).map fun q => (n + 1, q) by simp [goOne, hsf, hws])
        have c5 := hPi.said.cell 0
        have f5 := hPi.said.frozen 0
        have l5 := hPi.said.lt
        have c6 := HP1.out.said.cell 0
        have hN := fun W a => neq_nil 162 a (.inr rfl) W
        have hmx : Tryd.prog.follows .mixedOrders = true := by kernel_rfl
        clear hPi hws hsf hsi
        gi_wp2_with (refine ⟨trivial, ?_⟩; gi_at_call 22; refine (CallsIn.inRound l (callsIn_wide.2 (HS.out _))).mono ?_; rintro e w' ⟨rfl, rfl⟩)
        gi_region_with_o (first | (refine ⟨trivial, ?_⟩; gi_at_call 24; refine (CallsIn.inRound l (callsIn_wide.2 (HWc.out _))).mono ?_; rintro e W2 ⟨A2, rfl, hA2, hown2, hb2⟩; have HP2 := hid (HP1.out.call hb2); have HR2 := hid (HRC.out W2 A2 hb2 hA2 hown2); have HB2 := hid hb2; have c7 := HP2.out.said.cell 0; clear hown2 hA2 hb2) | (refine ⟨trivial, ?_⟩; gi_at_call 23; refine (CallsIn.inRound l (callsIn_wide.2 HR2.out)).mono ?_; rintro e W3 ⟨v, vc', vt', p', rfl, hlo, hPi3, hk3⟩))
        all_goals (
          have HP3 := hid hPi3
          have HK3 := hid ((((KeepsOthers.setCell W ⟨w.heap.size + 1 + 1 + 1, 0, none⟩ (.int .i64 ((n : Int) + 1))).trans (KeepsOthers.drew _)).trans (keeps_below HB2.out)).trans hk3)
          rcases hlo with ⟨h1, rfl⟩ | ⟨h1, a, rfl⟩
          · clear hPi3 hk3
            gi_wp2
            refine ⟨HK3.out.from _, ?_, n + 1, p', vc', vt', by rw [HG.out, HG2.out, h1]; rfl, step_bnd HBND.out (by simp; omega) h1, by simp; omega, HP3.out⟩
            intro j u hj hu
            obtain rfl : j = 0 := by omega
            rw [HPi.out.lb.cell 0] at hu
            exact (HP3.out.lb.cell 0).trans hu
          · have d0 := hPi3.t2.cell 0
            have d1 := hPi3.t2.cell 1
            have d2 := hPi3.t3.cell 0
            have g0 := hPi3.t2.frozen 0
            have g1 := hPi3.t2.frozen 1
            have g2 := hPi3.t3.frozen 0
            have m0 := hPi3.t2.lt
            have m1 := hPi3.t3.lt
            have E2 := fun (ev : Value) (o : Obj) => ((((hPi3.t2.put 0 (.slice none 0 0)).put 1 (.slice none 0 0)).far (p := ⟨w.heap.size + 1, 0, none⟩) (by simp) ev).alloc o)
            have E3 := fun (ev : Value) (o : Obj) => ((((hPi3.t3.far (p := ⟨w.heap.size, 0, none⟩) (by simp) (.slice none 0 0)).far (p := ⟨w.heap.size, 1, none⟩) (by simp) (.slice none 0 0)).put 0 ev).alloc o)
            have E4 := fun (ev : Value) (o : Obj) => (((hPi3.below.setCell (p := ⟨w.heap.size, 0, none⟩) (by simp) (.slice none 0 0)).setCell (p := ⟨w.heap.size, 1, none⟩) (by simp) (.slice none 0 0)).setCell (p := ⟨w.heap.size + 1, 0, none⟩) (by simp) ev).alloc (by simp; omega) o
            have HE := hid (And.intro E2 (And.intro E3 E4))
            clear E2 E3 E4 hPi3 hk3
            gi_wp2
            exact ⟨((((HK3.out.trans (KeepsOthers.setCell _ _ _)).trans (KeepsOthers.setCell _ _ _)).trans (KeepsOthers.setCell _ _ _)).trans (KeepsOthers.alloc _ _)).from _, rfl, by rw [HG.out, HG2.out, h1]; rfl, _, ⟨_, _, rfl, .inr rfl⟩, by simpa using (HE.out.1 _ _).cell 0, by simpa using (HE.out.1 _ _).cell 1, by simpa using (HE.out.2.1 _ _).cell 0, HE.out.2.2 _ _⟩)
    case done =>
      rintro D ys W hD rfl hB hK
      exact ⟨D, rfl, .inl ⟨.inl rfl, hB, hK, by omega⟩⟩
    case stop =>
      rintro D c pre W hD ⟨kk, hkk, rfl⟩ hIx hK
      obtain ⟨rfl, hx⟩ := hIx
      refine wpIn_wide.2 ?_
      go_wp2_with fail
      exact ⟨⟨kk, hkk, rfl, hx⟩, by omega⟩
  case left =>
    rintro D W ⟨⟨k, hk, _, hno, ev, hev, c0, c1, c2, hb⟩, hD, hDS⟩
    exact leaveP b w w.heap.size _ _ _ _ rfl rfl [D] W (by simp) (fun D' h => (show D' = D by simpa using h) ▸ ⟨hD, hDS⟩) c0 c1 c2 (.inr ⟨by unfold parsePg; rw [if_neg hbig, goAll_stop _ k hk hno], rfl, hev⟩) hb
  case rest =>
    rintro D W ⟨⟨n, p, vc, vt, hg, hbnd, hnl, hPi⟩, hD, hDS⟩
    have HSH : Hid (∃ Ac nc cc At nt ct, vc = .slice Ac nc cc ∧ vt = .slice At nt ct) := hid (by
      obtain ⟨Ac, cc, h1⟩ := row_shape hPi.pp.cells
      obtain ⟨us, hus, _⟩ := hPi.pp.thr
      obtain ⟨At, ct, h2⟩ := row_shape hus
      exact ⟨_, _, _, _, _, _, h1, h2⟩)
    rw [goAll_all] at hg
    have hNc : (lines b).length ≤ 65537 := by have := ll_count b []; unfold lines; omega
    rw [List.length_range] at hnl
    have HPi := hid hPi
    have HG := hid hg
    have HD := hid hD
    have c5 := hPi.said.cell 0
    have d0 := hPi.t2.cell 0
    have d1 := hPi.t2.cell 1
    have d2 := hPi.t3.cell 0
    have g0 := hPi.t2.frozen 0
    have g1 := hPi.t2.frozen 1
    have g2 := hPi.t3.frozen 0
    have m0 := hPi.t2.lt
    have m1 := hPi.t3.lt
    have e1 := (hPi.below.cell (p := ⟨3, 0, none⟩) l1).trans ha1
    by_cases h2 : n < 2
    · have HO := hid (show parsePg b = none by unfold parsePg; rw [if_neg hbig, HG.out]; simp [h2])
      clear hPi hg hD hbnd
      go_wp2_with fail
      go_region
      all_goals go_wp2_with fail
      all_goals (
        have HE := HPi.out.ends (.slice none 0 0) (.slice none 0 0) (.iface 162 (.pointer (some a1)))
        exact leaveP b w w.heap.size _ _ _ _ rfl rfl [D] _ (by simp) (fun D' h => (show D' = D by simpa using h) ▸ ⟨(HE.2.2.2.2.1.trans (KeepsOthers.drew _)).same D _ HD.out rfl, hDS⟩) HE.1 HE.2.1 HE.2.2.1 (.inr ⟨HO.out, rfl, _, _, rfl, .inl rfl⟩) HE.2.2.2.1.drew)
    · have HV := hid (pgValid _ _ p W hPi.pp.pgAt (HL.out.below hPi.below))
      have p0 := hPi.pp.box.cell 0
      have p1 := hPi.pp.box.cell 1
      have HO := hid (show ∀ ok, pgOk p = ok → parsePg b = if ok then some p else none from fun ok hok => by unfold parsePg; rw [if_neg hbig, HG.out]; simp [h2, hok])
      have hN := fun W a => neq_nil 162 a (.inr rfl) W
      clear hPi hg hD hbnd
      go_wp2_with fail
      refine HV.out.mono ?_
      rintro e W4 ⟨v, rfl, hv, hb4⟩
      have hPi4 := HPi.out.call hb4
      have HPi4 := hid hPi4
      have HD4 := hid ((keeps_below hb4).same D _ HD.out rfl)
      clear d0 d1 d2 g0 g1 g2 m0 m1 p0 p1 c5 e1
      have d0 := hPi4.t2.cell 0
      have d1 := hPi4.t2.cell 1
      have d2 := hPi4.t3.cell 0
      have g0 := hPi4.t2.frozen 0
      have g1 := hPi4.t2.frozen 1
      have g2 := hPi4.t3.frozen 0
      have m0 := hPi4.t2.lt
      have m1 := hPi4.t3.lt
      have p0 := hPi4.pp.box.cell 0
      have p1 := hPi4.pp.box.cell 1
      clear hPi4 hb4
      rcases hv with ⟨hok, rfl⟩ | ⟨hok, a, rfl⟩
      · have HO2 := hid (HO.out true hok)
        clear hok HO HV HG HPi
        obtain ⟨Ac, nc, cc, At, nt, ct, rfl, rfl⟩ := HSH.out
        go_wp2_with fail
        have HE := HPi4.out.ends (.slice Ac nc cc) (.slice At nt ct) .nilIface
        exact leaveP b w w.heap.size _ _ _ _ rfl rfl [D] _ (by simp) (fun D' h => (show D' = D by simpa using h) ▸ ⟨HE.2.2.2.2.1.same D _ HD4.out rfl, hDS⟩) HE.1 HE.2.1 HE.2.2.1 (.inl ⟨_, _, p, HO2.out, rfl, rfl, HE.2.2.2.2.2⟩) HE.2.2.2.1
      · have HO2 := hid (HO.out false hok)
        clear hok
        go_wp2_with fail
        have HE := HPi4.out.ends (.slice none 0 0) (.slice none 0 0) (.iface 162 (.pointer (some a)))
        exact leaveP b w w.heap.size _ _ _ _ rfl rfl [D] _ (by simp) (fun D' h => (show D' = D by simpa using h) ▸ ⟨HE.2.2.2.2.1.same D _ HD4.out rfl, hDS⟩) HE.1 HE.2.1 HE.2.2.1 (.inr ⟨HO2.out, rfl, _, _, rfl, .inl rfl⟩) HE.2.2.2.1
end Go.Proofs.YtdfkegflnebckaaDoor
