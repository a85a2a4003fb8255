/-
  A caller's state beside a set of integers, as one word: its own blocks whole, its own list in a row, the set, and nothing older turned.
-/
import Derived.Test.YthdapdmpbbabcaaDoorKeepI
namespace Go.Proofs.YthdapdmpbbabcaaDoor
open Go.RowKit Go.Maps

structure St (w : World) (L : List (Nat × Obj)) (b bm M : Nat) (msl : Value) (m q : List Int) (W : World) : Prop where
  set : ∃ S, SetI.SetAt W b S M q ∧ S.take 2 = [b, bm] ∧ (∀ x ∈ S, w.heap.size ≤ x) ∧ (∀ p ∈ L, p.1 ∉ S) ∧ (∀ g, msl.ownBlock = some g → g ∉ S)
  objs : ∀ p ∈ L, W.heap[p.1]? = some p.2 ∧ w.heap.size ≤ p.1 ∧ msl.ownBlock ≠ some p.1
  nodup : (L.map Prod.fst).Nodup
  row : W.ownsRow w.heap.size 3 1 msl m.length (m.map (Value.int .i64))
  below : Below w.heap.size w W

/-- The block of a box. -/
def bx (t : TypeId) (v : Value) : Obj := .cells #[v] t (0, 0)

section
variable {w W W' : World} {L : List (Nat × Obj)} {b bm M B : Nat} {msl : Value} {m q : List Int}
theorem lt_of_get {W : World} {g : Nat} {o : Obj} (h : W.heap[g]? = some o) : g < W.heap.size := (Array.getElem?_eq_some_iff.1 h).1
theorem St.lt (h : St w L b bm M msl m q W) {p : Nat × Obj} (hp : p ∈ L) : p.1 < W.heap.size := lt_of_get (h.objs p hp).1
theorem St.size (h : St w L b bm M msl m q W) : w.heap.size ≤ W.heap.size := h.below.size
theorem St.cell (h : St w L b bm M msl m q W) {g : Nat} {t : TypeId} {v : Value} (hp : (g, bx t v) ∈ L) : W.cell? ⟨g, 0, none⟩ = some v := by
  have h1 : Blk W g t #[v] := (h.objs _ hp).1
  rw [h1.cell]
  rfl
theorem St.frozen (h : St w L b bm M msl m q W) {g : Nat} {t : TypeId} {v : Value} (hp : (g, bx t v) ∈ L) : W.frozen? ⟨g, 0, none⟩ = false := by
  have h1 : Blk W g t #[v] := (h.objs _ hp).1
  exact h1.frozen 0
theorem St.sub {L' : List (Nat × Obj)} (h : St w L b bm M msl m q W) (hs : L'.Sublist L) : St w L' b bm M msl m q W := by
  obtain ⟨S, h1, h2, h3, h4, h5⟩ := h.set
  exact ⟨⟨S, h1, h2, h3, fun p hp => h4 p (hs.subset hp), h5⟩, fun p hp => h.objs p (hs.subset hp), h.nodup.sublist (hs.map _), h.row, h.below⟩
theorem St.drewN (h : St w L b bm M msl m q W) (n : Nat) : St w L b bm M msl m q (W.drewN n) := by
  obtain ⟨S, h1, h2⟩ := h.set
  exact ⟨⟨S, h1.only ((Only.refl [] W).drewN n) (by simp), h2⟩, h.objs, h.nodup, h.row, below_only h.below ((Only.refl [] W).drewN n) h.below.size (by simp)⟩
theorem St.alloc (h : St w L b bm M msl m q W) (o : Obj) : St w ((W.heap.size, o) :: L) b bm M msl m q (W.alloc o) := by
  obtain ⟨S, h1, h2, h3, h4, h5⟩ := h.set
  have hO : Only [] W (W.alloc o) := (Only.refl _ _).alloc o
  refine ⟨⟨S, h1.only hO (by simp), h2, h3, ?_, h5⟩, ?_, ?_, row_only h.row hO (by simp), below_only h.below hO h.below.size (by simp)⟩
  · intro p hp
    rcases List.mem_cons.1 hp with rfl | hp
    · intro hm
      have := h1.lt _ hm
      simp at this
    · exact h4 p hp
  · intro p hp
    rcases List.mem_cons.1 hp with rfl | hp
    · refine ⟨World.alloc_heap_new W o, h.below.size, fun e => ?_⟩
      have := (row_own h.row e).2
      simp at this
    · exact ⟨(Below.heap_alloc W o p.1 (h.lt hp)).trans (h.objs p hp).1, (h.objs p hp).2⟩
  · rw [List.map_cons, List.nodup_cons]
    refine ⟨fun hm => ?_, h.nodup⟩
    obtain ⟨p, hp, e⟩ := List.mem_map.1 hm
    have := h.lt hp
    simp only at e
    omega
theorem St.alloc' (h : St w L b bm M msl m q W) (o : Obj) : St w L b bm M msl m q (W.alloc o) := (h.alloc o).sub (List.sublist_cons_self _ _)
theorem St.put {g : Nat} {t : TypeId} {v : Value} (h : St w ((g, bx t v) :: L) b bm M msl m q W) (u : Value) : St w ((g, bx t u) :: L) b bm M msl m q (W.setCell ⟨g, 0, none⟩ u) := by
  obtain ⟨S, h1, h2, h3, h4, h5⟩ := h.set
  have hg := h.objs (g, bx t v) (by simp)
  have hO : Only [g] W (W.setCell ⟨g, 0, none⟩ u) := (Only.refl _ _).setCell (.inl (by simp)) u
  have hgS : g ∉ S := h4 (g, bx t v) (by simp)
  have hnd := h.nodup
  rw [List.map_cons, List.nodup_cons] at hnd
  refine ⟨⟨S, h1.only hO (fun k hk hm => by simp at hm; subst hm; exact hgS hk), h2, h3, ?_, h5⟩, ?_, ?_, row_only h.row hO (fun g' e hm => by simp at hm; subst hm; exact hg.2.2 e), below_only h.below hO h.below.size (by simpa using hg.2.1)⟩
  · intro p hp
    rcases List.mem_cons.1 hp with rfl | hp
    · exact hgS
    · exact h4 p (List.mem_cons_of_mem _ hp)
  · intro p hp
    rcases List.mem_cons.1 hp with rfl | hp
    · have h1 : Blk W g t #[v] := hg.1
      exact ⟨h1.put 0 u, hg.2⟩
    · have hne : p.1 ≠ g := fun e => hnd.1 (List.mem_map.2 ⟨p, hp, e⟩)
      have h6 := h.objs p (List.mem_cons_of_mem _ hp)
      exact ⟨(Below.heap_setCell W ⟨g, 0, none⟩ u p.1 hne).trans h6.1, h6.2⟩
  · rw [List.map_cons, List.nodup_cons]
    exact hnd
/-- The book-keeping of a loop over a function turns a block of its own. -/
theorem St.turn (h : St w L b bm M msl m q W) {row : Option Nat} (hL : ∀ p ∈ L, p.1 < B) (hb : b < B) (hbm : bm < B) (hB : w.heap.size ≤ B) (hg : W.grownBy W' row) (hr : ∀ r, row = some r → B ≤ r ∧ ∃ o : Obj, W.heap[r]? = some o ∧ o.isCells = false) : St w L b bm M msl m q W' := by
  obtain ⟨S, h1, h2, h3, h4, h5⟩ := h.set
  have hO : Only row.toList W W' := (Only.refl _ W).grown hg (fun k e => .inl (by simp [e]))
  have cellsNot : ∀ {base e n : Nat} {v : Value} {xs : List Value} {g : Nat}, W.ownsRow base e 1 v n xs → v.ownBlock = some g → g ∉ row.toList := by
    intro base e n v xs g ho hv hm
    have hm' : row = some g := by simpa using hm
    obtain ⟨_, o, ho1, ho2⟩ := hr g hm'
    rcases ho.2 with ⟨rfl, _⟩ | ⟨g', cap, cur, rfl, _, hh, _⟩
    · simp [Value.ownBlock] at hv
    · obtain rfl : g' = g := by simpa [Value.ownBlock] using hv
      rw [hh] at ho1
      injection ho1 with ho1
      subst ho1
      simp [Obj.isCells] at ho2
  refine ⟨⟨S, ?_, h2, h3, h4, h5⟩, ?_, h.nodup, row_only h.row hO (fun g e => cellsNot h.row e), below_only h.below hO h.below.size ?_⟩
  · refine h1.only hO ?_
    obtain ⟨bm', sv, _, _, ho, _, rfl⟩ := h1
    have h2' : b = b ∧ bm' = bm := by simpa using h2
    intro k hk
    rcases List.mem_cons.1 hk with rfl | hk
    · intro hm
      have := (hr k (by simpa using hm)).1
      omega
    · rcases List.mem_cons.1 hk with rfl | hk
      · intro hm
        have := (hr k (by simpa using hm)).1
        omega
      · exact cellsNot ho (by simpa using hk)
  · intro p hp
    refine ⟨(hg.block p.1 (h.lt hp) (fun e => ?_)).trans (h.objs p hp).1, (h.objs p hp).2⟩
    have := (hr p.1 e.symm).1
    have := hL p hp
    omega
  · intro x hx
    have := (hr x (by simpa using hx)).1
    omega

/-- The caller's list has grown. -/
theorem St.grow {msl' : Value} {m' : List Int} (h : St w L b bm M msl m q W) (hrow : W'.ownsRow w.heap.size 3 1 msl' m'.length (m'.map (Value.int .i64))) (hg : W.grownBy W' msl.ownBlock) (hloc : msl'.ownBlock = msl.ownBlock ∨ msl'.ownBlock = some W.heap.size) : St w L b bm M msl' m' q W' := by
  obtain ⟨S, h1, h2, h3, h4, h5⟩ := h.set
  have hO : Only msl.ownBlock.toList W W' := (Only.refl _ W).grown hg (fun k e => .inl (by simp [e]))
  refine ⟨⟨S, h1.only hO (fun k hk hm => h5 k (by simpa using hm) hk), h2, h3, h4, ?_⟩, ?_, h.nodup, hrow, below_only h.below hO h.below.size ?_⟩
  · intro g e hm
    rcases hloc with hl | hl
    · exact h5 g (hl ▸ e) hm
    · rw [hl] at e
      have := h1.lt g hm
      simp at e
      omega
  · intro p hp
    refine ⟨(hg.block p.1 (h.lt hp) (fun e => (h.objs p hp).2.2 e.symm)).trans (h.objs p hp).1, (h.objs p hp).2.1, fun e => ?_⟩
    rcases hloc with hl | hl
    · exact (h.objs p hp).2.2 (hl ▸ e)
    · rw [hl] at e
      have := h.lt hp
      simp at e
      omega
  · intro x hx
    exact (row_own h.row (by simpa using hx)).1

theorem St.add (h : St w L b bm M msl m q W) (h0 : 0 < w.heap.size) (ev : Value) (he : w.cell? ⟨0, 0, none⟩ = some ev) (k : Int) (hk : SetI.KeyOk k) (hq : q.length ≤ 1000000) (hb : b < B) (hbm : bm < B) :
    Calls Tryd.prog 20 #[.pointer (some ⟨b, 0, none⟩), .int .i64 k] W fun e W' => ∃ q' x1 x2, e = .returned (.tuple #[.bool x1, x2]) ∧ ((q' = q ∧ x1 = false) ∨ (q' = q ++ [k] ∧ k ∉ q ∧ x1 = true)) ∧ St w L b bm M msl m q' W' ∧ KeepsFrom B W W' ∧ (∀ g, g ≠ b → g ≠ bm → SetI.Kept g q.length W W') := by
  obtain ⟨S, h1, h2, h3, h4, h5⟩ := h.set
  by_cases hin : k ∈ q
  · refine (SetI.add_old b M S q k W h1 hk hin).mono ?_
    rintro e W' ⟨rfl, rfl⟩
    exact ⟨q, _, _, rfl, .inl ⟨rfl, rfl⟩, h, KeepsFrom.refl _ _, fun g _ _ j v _ hv => hv⟩
  by_cases hf : q.length = M
  · refine (SetI.add_full b M S q k ev W h1 hk hin hf ((h.below.cell (p := ⟨0, 0, none⟩) h0).trans he)).mono ?_
    rintro e W' ⟨rfl, n, rfl⟩
    exact ⟨q, _, _, rfl, .inl ⟨rfl, rfl⟩, h.drewN n, ⟨Nat.le_refl _, fun k o _ hk _ => hk⟩, fun g _ _ j v _ hv => hv⟩
  have hle : q.length ≤ M := by obtain ⟨_, _, _, _, _, h, _⟩ := h1; exact h
  refine (SetI.add_keep b M S q k W h1 hk hin (by omega) hq).mono ?_
  rintro e W' ⟨rfl, S', g1, hO, g2, g3, g4⟩
  refine ⟨q ++ [k], _, _, rfl, .inr ⟨rfl, hin, rfl⟩, ⟨⟨S', g1, g3.trans h2, ?_, ?_, ?_⟩, ?_, h.nodup, row_only h.row hO h5, below_only h.below hO h.below.size h3⟩, ⟨hO.size, ?_⟩, ?_⟩
  · intro x hx
    rcases g2 x hx with hx | hx
    · exact h3 x hx
    · have := h.below.size
      omega
  · intro p hp hm
    rcases g2 _ hm with hx | hx
    · exact h4 p hp hx
    · have := h.lt hp
      omega
  · intro g e hm
    rcases g2 _ hm with hx | hx
    · exact h5 g e hx
    · have := (row_own h.row e).2
      omega
  · intro p hp
    exact ⟨(hO.block p.1 (h.lt hp) (h4 p hp)).trans (h.objs p hp).1, (h.objs p hp).2⟩
  · intro x o hx ho hc
    refine (hO.block x (lt_of_get ho) (fun hm => ?_)).trans ho
    obtain ⟨bm', sv, _, _, hro, _, rfl⟩ := h1
    have h2' : bm' = bm := by simpa using h2
    rcases List.mem_cons.1 hm with rfl | hm
    · omega
    · rcases List.mem_cons.1 hm with rfl | hm
      · omega
      · rcases hro.2 with ⟨rfl, _⟩ | ⟨g', cap, cur, rfl, _, hh, _⟩
        · simp [Value.ownBlock] at hm
        · obtain rfl : x = g' := by simpa [Value.ownBlock] using hm
          rw [hh] at ho
          injection ho with ho
          subst ho
          simp [Obj.isCells] at hc
  · intro g hgb hgm j v hj hv
    exact g4 g j v (by rw [h2]; simp [hgb, hgm]) hj hv
theorem St.perm {L' : List (Nat × Obj)} (h : St w L b bm M msl m q W) (hp : L'.Perm L) : St w L' b bm M msl m q W := by
  obtain ⟨S, h1, h2, h3, h4, h5⟩ := h.set
  exact ⟨⟨S, h1, h2, h3, fun p hm => h4 p (hp.subset hm), h5⟩, fun p hm => h.objs p (hp.subset hm), (hp.map _).nodup_iff.2 h.nodup, h.row, h.below⟩
theorem St.swap {x y : Nat × Obj} (h : St w (x :: y :: L) b bm M msl m q W) : St w (y :: x :: L) b bm M msl m q W := h.perm (List.Perm.swap x y L)
/-- The block for the rounds' deferred calls, behind a loop over a function. -/
theorem St.mark {D : Nat} (h : St w L b bm M msl m q W) (hK : W.heap[D]? = some (.deferred (some []))) (hL : ∀ p ∈ L, p.1 < B) (hb : b < B) (hbm : bm < B) (hB : w.heap.size ≤ B) (hD : B ≤ D) : St w ((D, .deferred (some [])) :: L) b bm M msl m q W := by
  obtain ⟨S, h1, h2, h3, h4, h5⟩ := h.set
  have cellsNot : ∀ {base e n : Nat} {v : Value} {xs : List Value}, W.ownsRow base e 1 v n xs → v.ownBlock ≠ some D := by
    intro base e n v xs ho hv
    rcases ho.2 with ⟨rfl, _⟩ | ⟨g', cap, cur, rfl, _, hh, _⟩
    · simp [Value.ownBlock] at hv
    · obtain rfl : g' = D := by simpa [Value.ownBlock] using hv
      rw [hh] at hK
      cases hK
  refine ⟨⟨S, h1, h2, h3, ?_, h5⟩, ?_, ?_, h.row, h.below⟩
  · intro p hp
    rcases List.mem_cons.1 hp with rfl | hp
    · obtain ⟨bm', sv, _, _, ho, _, rfl⟩ := h1
      have h2' : bm' = bm := by simpa using h2
      intro hm
      rcases List.mem_cons.1 hm with e | hm
      · simp only at e; omega
      · rcases List.mem_cons.1 hm with e | hm
        · simp only at e; omega
        · exact cellsNot ho (by simpa using hm)
    · exact h4 p hp
  · intro p hp
    rcases List.mem_cons.1 hp with rfl | hp
    · exact ⟨hK, by simp only; omega, cellsNot h.row⟩
    · exact h.objs p hp
  · rw [List.map_cons, List.nodup_cons]
    refine ⟨fun hm => ?_, h.nodup⟩
    obtain ⟨p, hp, e⟩ := List.mem_map.1 hm
    have := hL p hp
    simp only at e
    omega
theorem St.len (h : St w L b bm M msl m q W) : Calls Tryd.prog 22 #[.pointer (some ⟨b, 0, none⟩)] W fun e w' => e = .returned (.int .i64 (q.length : Int)) ∧ W = w' := by
  obtain ⟨S, h1, _⟩ := h.set
  exact SetI.len b M S q W h1
/-- The set's own row, as its iterator reads it. -/
theorem St.came (h : St w L b bm M msl m q W) : ∃ A cap g, W.cell? ⟨b, 2, none⟩ = some (.slice A q.length cap) ∧ (0 < q.length → A = some ⟨g, 0, none⟩) ∧ (∀ j, j < q.length → W.cell? ⟨g, j, none⟩ = some (.int .i64 (q[j]?.getD 0))) ∧
    (0 < q.length → g ≠ b ∧ g ≠ bm ∧ ∀ p ∈ L, g ≠ p.1) := by
  obtain ⟨S, h1, h2, h3, h4, h5⟩ := h.set
  obtain ⟨bm', sv, hB, hM, ho, hl, rfl⟩ := h1
  obtain rfl : bm' = bm := by simpa using h2
  have c2 : W.cell? ⟨b, 2, none⟩ = some sv := by rw [hB.cell]; rfl
  rcases row_cases ho with ⟨rfl, h0, _⟩ | ⟨g, cap, rfl, _, _, hx, _, hcs, _⟩
  · exact ⟨none, 0, 0, by rw [c2, h0], fun h => absurd h (by omega), fun j h => absurd h (by omega), fun h => absurd h (by omega)⟩
  · refine ⟨some ⟨g, 0, none⟩, cap, g, c2, fun _ => rfl, fun j hj => ?_, fun _ => ⟨?_, ?_, ?_⟩⟩
    · rw [hcs j hj]
      simp [List.getElem?_eq_getElem hj]
    · intro e
      exact hB.apartRow ho (by decide) (by rw [e]; rfl)
    · intro e
      exact hM.apartRow ho (by rw [e]; rfl)
    · intro p hp e
      exact h4 p hp (by rw [← e]; simp [Value.ownBlock])
/-- The caller's list, as it reads it. -/
theorem St.own (h : St w L b bm M msl m q W) : ∃ A cap, msl = .slice A m.length cap ∧ ∀ j, j < m.length → ∃ g, A = some ⟨g, 0, none⟩ ∧ W.cell? ⟨g, j, none⟩ = some (.int .i64 (m[j]?.getD 0)) := by
  rcases row_cases h.row with ⟨rfl, h0, _⟩ | ⟨g, cap, rfl, _, _, hx, _, hcs, _⟩
  · exact ⟨none, 0, by rw [h0], fun j hj => absurd hj (by omega)⟩
  · refine ⟨_, cap, rfl, fun j hj => ⟨g, rfl, ?_⟩⟩
    rw [hcs j hj]
    simp [List.getElem?_eq_getElem hj]
theorem St.own' {A : Option Addr} {n cap : Nat} (h : St w L b bm M (.slice A n cap) m q W) (j : Nat) (hj : j < m.length) : ∃ g, A = some ⟨g, 0, none⟩ ∧ W.cell? ⟨g, j, none⟩ = some (.int .i64 (m[j]?.getD 0)) := by
  obtain ⟨A', cap', he, hc⟩ := h.own
  injection he with e1 e2 e3
  subst e1
  exact hc j hj
theorem St.blt (h : St w L b bm M msl m q W) : b < W.heap.size ∧ bm < W.heap.size := by
  obtain ⟨S, h1, h2, _⟩ := h.set
  have hl := h1.lt
  obtain ⟨bm', sv, hB, hM, ho, hl', rfl⟩ := h1
  obtain rfl : bm' = bm := by simpa using h2
  exact ⟨hl _ (by simp), hl _ (by simp)⟩
end
/-- A loop over a function in a block of its own: it runs out, or it is left by a break. -/
theorem wp_mid {P : Program} {c : Code} {id : Nat} {Q2 : Exit → Act → World → Prop} {a : Act} {w : World} (J : Nat → World → Prop)
    (h : c.wp P (fun e a' W => (e = .normal ∨ e = .exit id) ∧ ∃ D, a' = { a with defers := { target := .collected D, args := #[] } :: a.defers } ∧ J D W) a w)
    (hq : ∀ D W, J D W → Q2 .normal { a with defers := { target := .collected D, args := #[] } :: a.defers } W) : c.wp P (Exit.inBlock id Q2) a w := by
  refine wp_mono h ?_
  rintro e a' W ⟨rfl | rfl, D, rfl, hJ⟩
  · exact hq D W hJ
  · simp only [Exit.inBlock, if_true]
    exact hq D W hJ
theorem range_snoc {k x : Nat} {pre : List Nat} (h : List.range k = pre ++ [x]) : x = pre.length := by
  have hl := congrArg List.length h
  simp at hl
  subst hl
  rw [List.range_succ] at h
  have := List.append_inj' h rfl
  simpa using this.2.symm
end Go.Proofs.YthdapdmpbbabcaaDoor
