/-
  A walk through a program in memory: its box, the program's rows, the row of threads, the row of events; what a store into a thread and one event more make of it.
-/
import Derived.Test.YtgfmlaflochffaaGreatDoorPCloneZ
import Derived.Test.YtgfmlaflochffaaGreatDoorShBZ
namespace Go.Proofs.YtgfmlaflochffaaGreatDoor
open Go.RowKit Go.Maps W

abbrev tW : TypeId := 72
abbrev tTh : TypeId := 77
abbrev tEv : TypeId := 37
theorem infoEv : (Tryz.prog.info? 37).map (fun i => (i.zero, i.size, i.bytes)) = some (some (.agg #[.int .i64 0, .int .i64 0, .int .i64 0, .int .i64 0, .int .i64 0, .int .i64 0, .int .i64 0, .int .i64 0]), 8, 64) := by kernel_rfl
theorem infoTh : (Tryz.prog.info? 77).map (fun i => (i.zero, i.size, i.bytes)) = some (some (.agg #[.int .i64 0, .int .i64 0, .bool false, .bool false, .int .i64 0, .int .i64 0]), 6, 40) := by kernel_rfl
def thArr (t : Th) : Array Value := #[.int .i64 t.tx, .int .i64 t.act, .bool t.begun, .bool t.adding, .int .i64 t.read, .int .i64 t.waits]
def flatTh (l : List Th) : List Value := l.flatMap fun t => (thArr t).toList
def flatEv (l : List Ev) : List Value := l.flatMap fun e => (evArr e).toList

section
variable {α β : Type} {f : α → List β} {n : Nat}
theorem fq_len (h : ∀ a, (f a).length = n) : ∀ l : List α, (l.flatMap f).length = l.length * n
  | [] => by simp
  | a :: l => by rw [List.flatMap_cons, List.length_append, fq_len h l, h, List.length_cons, Nat.succ_mul]; omega
theorem fq_at (h : ∀ a, (f a).length = n) : ∀ (l : List α) (k : Nat) (a : α), l[k]? = some a → ∀ r, r < n → (l.flatMap f)[k * n + r]? = (f a)[r]?
  | [], k, a, hk, _, _ => by simp at hk
  | g :: l, 0, a, hk, r, hr => by
    obtain rfl : g = a := by simpa using hk
    rw [List.flatMap_cons, List.getElem?_append_left (by rw [h]; omega)]
    simp
  | g :: l, k + 1, a, hk, r, hr => by
    have h2 := fq_at h l k a (by simpa using hk) r hr
    rw [List.flatMap_cons, List.getElem?_append_right (by rw [h, Nat.succ_mul]; omega), ← h2, h, Nat.succ_mul]
    congr 1
    omega
theorem fq_set (h : ∀ a, (f a).length = n) {a' : α} {v : β} {r : Nat} (hr : r < n) : ∀ (l : List α) (k : Nat) (a : α), l[k]? = some a → f a' = (f a).set r v → (l.set k a').flatMap f = (l.flatMap f).set (k * n + r) v
  | [], k, a, hk, _ => by simp at hk
  | g :: l, 0, a, hk, he => by
    obtain rfl : g = a := by simpa using hk
    rw [List.set_cons_zero, List.flatMap_cons, List.flatMap_cons, he, List.set_append_left _ _ (by rw [h]; omega)]
    simp
  | g :: l, k + 1, a, hk, he => by
    have h2 := fq_set h hr l k a (by simpa using hk) he
    rw [List.set_cons_succ, List.flatMap_cons, List.flatMap_cons, h2, List.set_append_right _ _ (by rw [h, Nat.succ_mul]; omega), h, Nat.succ_mul]
    congr 2
    omega
end
theorem thArr_len (t : Th) : (thArr t).toList.length = 6 := by simp [thArr]
theorem evArr_len (e : Ev) : (evArr e).toList.length = 8 := by simp [evArr]
theorem evArr_one (e : Ev) : ∀ u ∈ (evArr e).toList, u.oneCell' = true := by
  intro u hu
  simp only [evArr, List.mem_cons, List.not_mem_nil, or_false] at hu
  rcases hu with rfl | rfl | rfl | rfl | rfl | rfl | rfl | rfl <;> rfl
theorem flatEv_snoc (l : List Ev) (e : Ev) : flatEv (l ++ [e]) = flatEv l ++ (evArr e).toList := by simp [flatEv]

/-- A program's rows stay where blocks of other types turn. -/
theorem PgOwn.keep {W W' : World} {B : Nat} {vc vt : Value} {p : Pg} (h : PgOwn W B vc vt p) (hk : ∀ (g : Nat) (cs : Array Value) (t : TypeId), t = tI ∨ t = tH ∨ t = tT ∨ t = tA → W.heap[g]? = some (.cells cs t (0, 0)) → W'.heap[g]? = W.heap[g]?) : PgOwn W' B vc vt p :=
  ⟨row_keep h.1 (fun g cs _ hh => hk g cs _ (.inl rfl) hh), h.2.keep (fun g cs hh => hk g cs _ (.inr (.inl rfl)) hh) (fun g cs hh => hk g cs _ (.inr (.inr (.inl rfl))) hh) (fun g cs hh => hk g cs _ (.inr (.inr (.inr rfl))) hh)⟩
theorem ty_ne {t t' : TypeId} (h : t = tI ∨ t = tH ∨ t = tT ∨ t = tA) (h' : t' = tW ∨ t' = tTh ∨ t' = tEv) : t ≠ t' := by
  rcases h with rfl | rfl | rfl | rfl <;> rcases h' with rfl | rfl | rfl <;> decide

/-- A walk in memory. -/
structure Wk (B wb : Nat) (W : World) (d : Wd) (vc vt vh ve : Value) : Prop where
  box : Blk W wb tW #[vc, vt, vh, ve]
  le : B ≤ wb
  pg : PgOwn W B vc vt d.p
  th : W.ownsRow B tTh 6 vh d.ts.length (flatTh d.ts)
  ev : W.ownsRow B tEv 8 ve d.es.length (flatEv d.es)
theorem Wk.call {B wb : Nat} {W W' : World} {d : Wd} {vc vt vh ve : Value} (h : Wk B wb W d vc vt vh ve) (hb : Below W.heap.size W W') : Wk B wb W' d vc vt vh ve :=
  ⟨h.box.below hb h.box.lt, h.le, h.pg.keep (fun g _ _ _ hh => hb.block g (lt_of_at hh)), row_call h.th hb, row_call h.ev hb⟩
theorem Wk.alloc {B wb : Nat} {W : World} {d : Wd} {vc vt vh ve : Value} (h : Wk B wb W d vc vt vh ve) (o : Obj) : Wk B wb (W.alloc o) d vc vt vh ve := h.call ((Below.refl _ _).alloc (Nat.le_refl _) o)
theorem Wk.drewN {B wb : Nat} {W : World} {d : Wd} {vc vt vh ve : Value} (h : Wk B wb W d vc vt vh ve) (n : Nat) : Wk B wb (W.drewN n) d vc vt vh ve := ⟨h.box, h.le, h.pg, h.th, h.ev⟩
theorem Wk.drew {B wb : Nat} {W : World} {d : Wd} {vc vt vh ve : Value} (h : Wk B wb W d vc vt vh ve) : Wk B wb W.drew d vc vt vh ve := ⟨h.box, h.le, h.pg, h.th, h.ev⟩
/-- A store into a block that is none of the walk's. -/
theorem Wk.far {B wb : Nat} {W : World} {d : Wd} {vc vt vh ve : Value} (h : Wk B wb W d vc vt vh ve) {a : Addr} (ha : a.block < B) (u : Value) : Wk B wb (W.setCell a u) d vc vt vh ve := by
  have hk : ∀ g, B ≤ g → (W.setCell a u).heap[g]? = W.heap[g]? := fun g hg => Below.heap_setCell W a u g (by omega)
  have hown : ∀ {t : TypeId} {size n : Nat} {v : Value} {xs : List Value}, W.ownsRow B t size v n xs → (W.setCell a u).ownsRow B t size v n xs := fun hr => row_keep hr (fun g _ e _ => hk g (row_own hr e).1)
  obtain ⟨p0, us, k1, k2, k3, k4, k5⟩ := h.pg
  exact ⟨(hk wb h.le).trans h.box, h.le, ⟨hown p0, us, hown k1, k2, fun i u t hu ht => (by obtain ⟨vs, r1, r2, r3⟩ := k3 i u t hu ht; exact ⟨vs, hown r1, r2, fun j v l hv hl => hown (r3 j v l hv hl)⟩), k4, k5⟩, hown h.th, hown h.ev⟩
/-- A thread's cells. -/
theorem Wk.thAt {B wb : Nat} {W : World} {d : Wd} {vc vt vh ve : Value} (h : Wk B wb W d vc vt vh ve) {k : Nat} {t : Th} (hk : d.ts[k]? = some t) :
    ∃ g c, vh = .slice (some ⟨g, 0, none⟩) d.ts.length c ∧ B ≤ g ∧ g < W.heap.size ∧ k < d.ts.length ∧ d.ts.length ≤ c ∧ (∀ r, r < 6 → W.cell? ⟨g, k * 6 + r, none⟩ = (thArr t)[r]?) ∧ (∀ j, W.frozen? ⟨g, j, none⟩ = false) := by
  have hlt := (List.getElem?_eq_some_iff.1 hk).1
  have h0 := h.th
  rcases h.th.2 with ⟨_, hz⟩ | ⟨g, cap, cur, he, hB, hg, hn, _⟩
  · omega
  · subst he
    refine ⟨g, cap, rfl, hB, lt_of_at hg, hlt, hn, fun r hr => ?_, fun j => h0.frozenAt j⟩
    have h1 := fq_at thArr_len d.ts k t hk r hr
    rw [h0.cellAt (k * 6 + r) (by omega)]
    simpa [flatTh] using h1
theorem ev_th_ne {B wb : Nat} {W : World} {d : Wd} {vc vt ve : Value} {g n c : Nat} (h : Wk B wb W d vc vt (.slice (some ⟨g, 0, none⟩) n c) ve) : ve.ownBlock ≠ some g := by
  intro e
  obtain ⟨c1, h1⟩ := row_type h.ev e
  obtain ⟨c2, h2⟩ := row_type h.th (g := g) rfl
  exact type_ne h1 h2 (by decide) rfl
/-- A store into a thread. -/
theorem Wk.setTh {B wb : Nat} {W : World} {d : Wd} {vc vt ve : Value} {g n c : Nat} (h : Wk B wb W d vc vt (.slice (some ⟨g, 0, none⟩) n c) ve) {k r : Nat} {t t' : Th} {v : Value} (hk : d.ts[k]? = some t) (hr : r < 6) (ht : (thArr t').toList = (thArr t).toList.set r v) :
    Wk B wb (W.setCell ⟨g, k * 6 + r, none⟩ v) ⟨d.p, d.ts.set k t', d.es⟩ vc vt (.slice (some ⟨g, 0, none⟩) n c) ve ∧ Below B W (W.setCell ⟨g, k * 6 + r, none⟩ v) := by
  obtain ⟨cg, hg⟩ := row_type h.th (g := g) rfl
  have hs : ∀ g', g' ≠ g → (W.setCell ⟨g, k * 6 + r, none⟩ v).heap[g']? = W.heap[g']? := fun g' hne => Below.heap_setCell W _ v g' hne
  have hn : n = d.ts.length := by
    rcases h.th.2 with ⟨he, _⟩ | ⟨g', cap, cur, he, _⟩
    · cases he
    · injection he
  subst hn
  refine ⟨⟨(hs wb (type_ne h.box hg (by decide))).trans h.box, h.le, h.pg.keep (fun g' cs t' ht' hh => hs g' (type_ne hh hg (ty_ne ht' (.inr (.inl rfl))))), ?_, row_keep h.ev (fun g' cs _ hh => hs g' (type_ne hh hg (by decide)))⟩, (Below.refl B W).setCell (p := ⟨g, k * 6 + r, none⟩) (row_own h.th (g := g) rfl).1 v⟩
  have h1 := (World.ownsRow.stored h.th (k * 6 + r) v).1
  have h2 : flatTh (d.ts.set k t') = (flatTh d.ts).set (k * 6 + r) v := fq_set thArr_len hr d.ts k t hk ht
  simp only [h2, List.length_set]
  exact h1
/-- One event more. -/
theorem Wk.addEv {B wb : Nat} {W W2 : World} {d : Wd} {vc vt vh ve v' : Value} {e : Ev} (h : Wk B wb W d vc vt vh ve) (hown : W2.ownsRow B tEv 8 v' (d.es.length + 1) (flatEv d.es ++ (evArr e).toList)) (hg : W.grownBy W2 ve.ownBlock) :
    Wk B wb (W2.setCell ⟨wb, 3, none⟩ v') ⟨d.p, d.ts, d.es ++ [e]⟩ vc vt vh v' ∧ Below B W (W2.setCell ⟨wb, 3, none⟩ v') := by
  have hne : ∀ (g : Nat) (cs : Array Value) (t : TypeId), t ≠ tEv → W.heap[g]? = some (.cells cs t (0, 0)) → W2.heap[g]? = W.heap[g]? := fun g cs t ht hh => hg.block g (lt_of_at hh) (fun e => by
    obtain ⟨c1, h1⟩ := row_type h.ev e.symm
    exact type_ne hh h1 ht rfl)
  have hbx : W2.heap[wb]? = some (.cells #[vc, vt, vh, ve] tW (0, 0)) := (hne wb _ tW (by decide) h.box).trans h.box
  have hs : ∀ (g : Nat) (cs : Array Value) (t : TypeId), t ≠ tW → W2.heap[g]? = some (.cells cs t (0, 0)) → (W2.setCell ⟨wb, 3, none⟩ v').heap[g]? = W2.heap[g]? := fun g cs t ht hh => Below.heap_setCell W2 ⟨wb, 3, none⟩ v' g (type_ne hh hbx ht)
  have hb : ∀ (g : Nat) (cs : Array Value) (t : TypeId), t ≠ tEv → t ≠ tW → W.heap[g]? = some (.cells cs t (0, 0)) → (W2.setCell ⟨wb, 3, none⟩ v').heap[g]? = W.heap[g]? := fun g cs t h1 h2 hh => (hs g cs t h2 ((hne g cs t h1 hh).trans hh)).trans (hne g cs t h1 hh)
  have hB : B ≤ W.heap.size := by have := h.box.lt; have := h.le; omega
  refine ⟨⟨?_, h.le, h.pg.keep (fun g cs t ht hh => hb g cs t (ty_ne ht (.inr (.inr rfl))) (ty_ne ht (.inl rfl)) hh), row_keep h.th (fun g cs _ hh => hb g cs tTh (by decide) (by decide) hh), ?_⟩, ?_⟩
  · have := Blk.put (w := W2) hbx 3 v'
    simpa using this
  · have e1 : flatEv (d.es ++ [e]) = flatEv d.es ++ (evArr e).toList := flatEv_snoc _ _
    simp only [e1, List.length_append, List.length_singleton]
    exact row_keep hown (fun g cs _ hh => hs g cs tEv (by decide) hh)
  · exact ((Below.refl B W).grown hg hB (fun x hx => (row_own h.ev hx).1)).setCell (p := ⟨wb, 3, none⟩) h.le v'
/-- A thread's transactions, as cells tell them. -/
theorem Wk.txsAt {B wb : Nat} {W : World} {d : Wd} {vc vt vh ve : Value} (h : Wk B wb W d vc vt vh ve) {k : Nat} {l : List (List PAct)} (hk : d.p.threads[k]? = some l) :
    ∃ g c u, vt = .slice (some ⟨g, 0, none⟩) d.p.threads.length c ∧ d.p.threads.length ≤ c ∧ W.cell? ⟨g, k, none⟩ = some u ∧ ReadsT W u l := by
  have hlt := (List.getElem?_eq_some_iff.1 hk).1
  obtain ⟨_, us, k1, k2, k3, _, _⟩ := h.pg
  have hul : k < us.length := by omega
  have hu : us[k]? = some us[k] := List.getElem?_eq_getElem hul
  have h0 := k1
  rcases k1.2 with ⟨rfl, hz⟩ | ⟨g, cap, cur, rfl, hB, hg, hn, _⟩
  · rw [hz] at hul; simp at hul
  · refine ⟨g, cap, us[k], by rw [k2], by omega, ?_, ?_⟩
    · rw [h0.cellAt k (by omega), hu]
    · obtain ⟨vs, r1, r2, r3⟩ := k3 k _ l hu hk
      exact ⟨vs, reads_of_row r1, r2, fun j v x hv hx => reads_acts (r3 j v x hv hx)⟩
/-- A store into a block of events that is not the walk's row. -/
theorem Wk.putEv {B wb b : Nat} {X : World} {d : Wd} {vc vt vh ve : Value} {cs : Array Value} (h : Wk B wb X d vc vt vh ve) (hb : Blk X b tEv cs) (hne : ve.ownBlock ≠ some b) (j : Nat) (u : Value) : Wk B wb (X.setCell ⟨b, j, none⟩ u) d vc vt vh ve := by
  have hs : ∀ (g : Nat) (cs : Array Value) (t : TypeId), t ≠ tEv → X.heap[g]? = some (.cells cs t (0, 0)) → (X.setCell ⟨b, j, none⟩ u).heap[g]? = X.heap[g]? := fun g cs t ht hh => Below.heap_setCell X ⟨b, j, none⟩ u g (type_ne hh hb ht)
  exact ⟨(hs wb _ tW (by decide) h.box).trans h.box, h.le, h.pg.keep (fun g cs t ht hh => hs g cs t (ty_ne ht (.inr (.inr rfl))) hh), row_keep h.th (fun g cs _ hh => hs g cs tTh (by decide) hh), row_far h.ev hne u⟩
theorem evOut {B wb b : Nat} {X : World} {d : Wd} {vc vt vh ve : Value} {cs : Array Value} (h : Wk B wb X d vc vt vh ve) (hb : Blk X b tEv cs) (hn : cs.size = 8) (hne : ve.ownBlock ≠ some b) (hB : B ≤ b) (a0 a1 a2 a3 a4 a5 a6 a7 : Value) :
    Wk B wb ((((((((X.setCell ⟨b, 0, none⟩ a0).setCell ⟨b, 1, none⟩ a1).setCell ⟨b, 2, none⟩ a2).setCell ⟨b, 3, none⟩ a3).setCell ⟨b, 4, none⟩ a4).setCell ⟨b, 5, none⟩ a5).setCell ⟨b, 6, none⟩ a6).setCell ⟨b, 7, none⟩ a7) d vc vt vh ve ∧ Below B X ((((((((X.setCell ⟨b, 0, none⟩ a0).setCell ⟨b, 1, none⟩ a1).setCell ⟨b, 2, none⟩ a2).setCell ⟨b, 3, none⟩ a3).setCell ⟨b, 4, none⟩ a4).setCell ⟨b, 5, none⟩ a5).setCell ⟨b, 6, none⟩ a6).setCell ⟨b, 7, none⟩ a7) ∧ Blk ((((((((X.setCell ⟨b, 0, none⟩ a0).setCell ⟨b, 1, none⟩ a1).setCell ⟨b, 2, none⟩ a2).setCell ⟨b, 3, none⟩ a3).setCell ⟨b, 4, none⟩ a4).setCell ⟨b, 5, none⟩ a5).setCell ⟨b, 6, none⟩ a6).setCell ⟨b, 7, none⟩ a7) b tEv #[a0, a1, a2, a3, a4, a5, a6, a7] := by
  obtain ⟨l, rfl⟩ : ∃ l : List Value, cs = l.toArray := ⟨cs.toList, by simp⟩
  match l, hn with
  | [c0, c1, c2, c3, c4, c5, c6, c7], _ =>
    have b0 := Blk.put hb 0 a0
    have w0 := Wk.putEv h hb hne 0 a0
    have b1 := Blk.put b0 1 a1
    have w1 := Wk.putEv w0 b0 hne 1 a1
    have b2 := Blk.put b1 2 a2
    have w2 := Wk.putEv w1 b1 hne 2 a2
    have b3 := Blk.put b2 3 a3
    have w3 := Wk.putEv w2 b2 hne 3 a3
    have b4 := Blk.put b3 4 a4
    have w4 := Wk.putEv w3 b3 hne 4 a4
    have b5 := Blk.put b4 5 a5
    have w5 := Wk.putEv w4 b4 hne 5 a5
    have b6 := Blk.put b5 6 a6
    have w6 := Wk.putEv w5 b5 hne 6 a6
    have b7 := Blk.put b6 7 a7
    have w7 := Wk.putEv w6 b6 hne 7 a7
    refine ⟨w7, ?_, by simpa using b7⟩
    exact (((((((((Below.refl B X).setCell (p := ⟨b, 0, none⟩) hB _).setCell (p := ⟨b, 1, none⟩) hB _).setCell (p := ⟨b, 2, none⟩) hB _).setCell (p := ⟨b, 3, none⟩) hB _).setCell (p := ⟨b, 4, none⟩) hB _).setCell (p := ⟨b, 5, none⟩) hB _).setCell (p := ⟨b, 6, none⟩) hB _).setCell (p := ⟨b, 7, none⟩) hB _)
theorem evOnly (b : Nat) (X : World) (a0 a1 a2 a3 a4 a5 a6 a7 : Value) : Only [b] X ((((((((X.setCell ⟨b, 0, none⟩ a0).setCell ⟨b, 1, none⟩ a1).setCell ⟨b, 2, none⟩ a2).setCell ⟨b, 3, none⟩ a3).setCell ⟨b, 4, none⟩ a4).setCell ⟨b, 5, none⟩ a5).setCell ⟨b, 6, none⟩ a6).setCell ⟨b, 7, none⟩ a7) :=
  (((((((((Only.refl [b] X).setCell (p := ⟨b, 0, none⟩) (.inl (by simp)) _).setCell (p := ⟨b, 1, none⟩) (.inl (by simp)) _).setCell (p := ⟨b, 2, none⟩) (.inl (by simp)) _).setCell (p := ⟨b, 3, none⟩) (.inl (by simp)) _).setCell (p := ⟨b, 4, none⟩) (.inl (by simp)) _).setCell (p := ⟨b, 5, none⟩) (.inl (by simp)) _).setCell (p := ⟨b, 6, none⟩) (.inl (by simp)) _).setCell (p := ⟨b, 7, none⟩) (.inl (by simp)) _)
/-- The blocks of a walk that a step may turn. -/
def Foot (wb : Nat) (vh ve : Value) : List Nat := wb :: (vh.ownBlock.toList ++ ve.ownBlock.toList)
/-- The row of events behind a step: where it was, or new. -/
def VeStep (W : World) (ve ve' : Value) : Prop := ve'.ownBlock = ve.ownBlock ∨ ∃ g, ve'.ownBlock = some g ∧ W.heap.size ≤ g
theorem foot_ge {B wb : Nat} {W : World} {d : Wd} {vc vt vh ve : Value} (h : Wk B wb W d vc vt vh ve) : ∀ x ∈ Foot wb vh ve, B ≤ x := by
  intro x hx
  simp only [Foot, List.mem_cons, List.mem_append, Option.mem_toList] at hx
  rcases hx with rfl | hx | hx
  · exact h.le
  · exact (row_own h.th hx).1
  · exact (row_own h.ev hx).1
theorem Wk.only_below {B wb : Nat} {W W' : World} {d : Wd} {vc vt vh ve : Value} (h : Wk B wb W d vc vt vh ve) (ho : Only (Foot wb vh ve) W W') : Below B W W' :=
  ho.below_of (by have := h.le; have := h.box.lt; omega) (foot_ge h)
theorem foot_wb (wb : Nat) (vh ve : Value) : wb ∈ Foot wb vh ve := by simp [Foot]
theorem foot_ve {wb : Nat} {vh ve : Value} {g : Nat} (h : ve.ownBlock = some g) : g ∈ Foot wb vh ve := by simp [Foot, h]
theorem foot_vh {wb : Nat} {vh ve : Value} {g : Nat} (h : vh.ownBlock = some g) : g ∈ Foot wb vh ve := by simp [Foot, h]
/-- A block that is none of a walk's. -/
def Off (wb : Nat) (vh ve : Value) (g : Nat) : Prop := g ≠ wb ∧ vh.ownBlock ≠ some g ∧ ve.ownBlock ≠ some g
theorem Off.notin {wb : Nat} {vh ve : Value} {g : Nat} (h : Off wb vh ve g) : g ∉ Foot wb vh ve := by
  simp only [Foot, List.mem_cons, List.mem_append, Option.mem_toList, not_or]
  exact h
theorem Off.step {wb : Nat} {vh ve ve' : Value} {g : Nat} {W : World} (h : Off wb vh ve g) (hg : g < W.heap.size) (hv : VeStep W ve ve') : Off wb vh ve' g := by
  refine ⟨h.1, h.2.1, fun e => ?_⟩
  rcases hv with hv | ⟨g', hv, hle⟩
  · exact h.2.2 (hv ▸ e)
  · rw [hv] at e; injection e with e; omega
theorem Wk.off_new {B wb : Nat} {W : World} {d : Wd} {vc vt vh ve : Value} (h : Wk B wb W d vc vt vh ve) {g : Nat} (hg : W.heap.size ≤ g) : Off wb vh ve g :=
  ⟨by have := h.box.lt; omega, fun e => by have := (row_own h.th e).2; omega, fun e => by have := (row_own h.ev e).2; omega⟩
/-- The footprint behind a step lies in the footprint ahead of it, or is new. -/
theorem foot_step {wb : Nat} {vh ve ve' : Value} {W : World} (hv : VeStep W ve ve') : ∀ x ∈ Foot wb vh ve', x ∈ Foot wb vh ve ∨ W.heap.size ≤ x := by
  intro x hx
  simp only [Foot, List.mem_cons, List.mem_append, Option.mem_toList] at hx ⊢
  rcases hx with rfl | hx | hx
  · exact .inl (.inl rfl)
  · exact .inl (.inr (.inl hx))
  · rcases hv with hv | ⟨g', hv, hle⟩
    · rw [hv] at hx; exact .inl (.inr (.inr hx))
    · rw [hv] at hx; injection hx with hx; omega
theorem VeStep.trans {W W' : World} {ve ve' ve'' : Value} (h : VeStep W ve ve') (h' : VeStep W' ve' ve'') (hs : W.heap.size ≤ W'.heap.size) : VeStep W ve ve'' := by
  rcases h' with h' | ⟨g, h', hle⟩
  · rcases h with h | ⟨g, h, hle⟩
    · exact .inl (h'.trans h)
    · exact .inr ⟨g, h'.trans h, hle⟩
  · exact .inr ⟨g, h', by omega⟩
end Go.Proofs.YtgfmlaflochffaaGreatDoor
