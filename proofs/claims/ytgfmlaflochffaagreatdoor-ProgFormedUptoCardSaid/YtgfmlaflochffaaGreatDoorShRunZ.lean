/-
  shape.Auto in memory: a transaction more.
  shape.Auto: Feed: a transaction begins.
  A run of the automaton over a list of events; Feed takes each.
-/
import Derived.Test.YtgfmlaflochffaaGreatDoorShFdZ
import Derived.Deep.RegionHeld3
namespace Go.Proofs.YtgfmlaflochffaaGreatDoor
open Go.RowKit Go.Maps W

/-- What stays: all blocks of cells but the automaton's own box and its row of transactions. -/
def Stays (X W' : World) : Prop := X.heap.size ≤ W'.heap.size ∧ ∀ (g : Nat) (cs : Array Value) (t : TypeId), t ≠ tAu → t ≠ tSp → X.heap[g]? = some (.cells cs t (0, 0)) → W'.heap[g]? = X.heap[g]?
theorem Stays.blk {X W' : World} (h : Stays X W') {g : Nat} {t : TypeId} {cs : Array Value} (hb : Blk X g t cs) (h1 : t ≠ tAu) (h2 : t ≠ tSp) : Blk W' g t cs := (h.2 g cs t h1 h2 hb).trans hb
theorem Stays.row {X W' : World} (h : Stays X W') {B n size : Nat} {t : TypeId} {v : Value} {xs : List Value} (hr : X.ownsRow B t size v n xs) (h1 : t ≠ tAu) (h2 : t ≠ tSp) : W'.ownsRow B t size v n xs := row_keep hr fun g cs _ hh => h.2 g cs t h1 h2 hh
theorem Stays.of {X W' : World} (hb : Below X.heap.size X W') : Stays X W' := ⟨hb.size, fun g _ _ _ _ hh => hb.block g (lt_of_at hh)⟩
theorem Stays.trans {X Y Z : World} (h : Stays X Y) (k : Stays Y Z) : Stays X Z := ⟨Nat.le_trans h.1 k.1, fun g cs t h1 h2 hh => by
  have e := h.2 g cs t h1 h2 hh
  exact (k.2 g cs t h1 h2 (e.trans hh)).trans e⟩
theorem Stays.set {X : World} {ab : Nat} {cs : Array Value} (hb : Blk X ab tAu cs) (j : Nat) (v : Value) : Stays X (X.setCell ⟨ab, j, none⟩ v) :=
  ⟨by simp, fun g c t h1 _ hh => Below.heap_setCell X ⟨ab, j, none⟩ v g (type_ne hh hb h1)⟩
theorem Stays.grown {X W' : World} {v : Value} {B n size : Nat} {xs : List Value} (hr : X.ownsRow B tSp size v n xs) (hg : X.grownBy W' v.ownBlock) : Stays X W' :=
  ⟨hg.size, fun g c t _ h2 hh => hg.block g (lt_of_at hh) fun e => by
    obtain ⟨c1, h1⟩ := row_type hr e.symm
    exact type_ne hh h1 h2 rfl⟩
theorem Stays.map {X : World} {b n : Nat} {f : Int → Option Value} (hm : MapG X b n f) (o : Obj) : Stays X (ChangeMaps.setBlock X b o) := by
  obtain ⟨es, c, hb⟩ := hm.obj
  refine ⟨by simp [ChangeMaps.setBlock], fun g cs t _ _ hh => ?_⟩
  have hne : b ≠ g := fun e => by subst e; rw [hb] at hh; cases hh
  simp [ChangeMaps.setBlock, hne]
theorem MapG.stays {X : World} {b n : Nat} {f : Int → Option Value} (hm : MapG X b n f) {ab : Nat} {cs : Array Value} (hb : Blk X ab tAu cs) (j : Nat) (v : Value) : MapG (X.setCell ⟨ab, j, none⟩ v) b n f :=
  hm.at (Below.heap_setCell X ⟨ab, j, none⟩ v b fun e => by
    obtain ⟨es, c, h⟩ := hm.obj
    subst e
    unfold Blk at hb
    rw [h] at hb
    cases hb)
theorem MapG.far {X : World} {b b' n : Nat} {f : Int → Option Value} (hm : MapG X b n f) (hne : b ≠ b') (o : Obj) : MapG (ChangeMaps.setBlock X b' o) b n f := by
  refine hm.at ?_
  simp [ChangeMaps.setBlock, Ne.symm hne]
theorem cell_setMap {X : World} {b n : Nat} {f : Int → Option Value} (hm : MapG X b n f) (o : Obj) {p : Addr} {v : Value} (h : X.cell? p = some v) : (ChangeMaps.setBlock X b o).cell? p = some v := by
  obtain ⟨es, c, hb⟩ := hm.obj
  have hne : b ≠ p.block := fun e => by subst e; simp [World.cell?, hb] at h
  rw [World.cell?_of_block (w := X) (w' := ChangeMaps.setBlock X b o) (a := p) (by simp [ChangeMaps.setBlock, hne])]
  exact h
theorem below_setMap {X : World} {b B : Nat} (h : B ≤ b) (o : Obj) : Below B X (ChangeMaps.setBlock X b o) :=
  ⟨rfl, rfl, rfl, by simp [ChangeMaps.setBlock], fun g hg => by simp [ChangeMaps.setBlock, show b ≠ g by omega]⟩
/-- Two entries, into two maps. -/
structure Two (L : Nat) (Z : World) (m1 m2 n1 n2 : Nat) (k1 k2 : Int) (f1 f2 : Int → Option Value) (v : Value) (X1 X2 X3 X4 : World) (u1 u2 : Value) (s1 s2 : Nat) : Prop where
  r1 : (Instr.mapEntry tSm (.map (some m1)) (.int .i64 k1)).run Tryz.prog Z = .ok (.tuple #[u1, goInt s1]) X1
  r2 : (Instr.entryStore tSm (.map (some m1)) (goInt s1) v).run Tryz.prog X1 = .ok () X2
  r3 : (Instr.mapEntry tSm (.map (some m2)) (.int .i64 k2)).run Tryz.prog X2 = .ok (.tuple #[u2, goInt s2]) X3
  r4 : (Instr.entryStore tSm (.map (some m2)) (goInt s2) v).run Tryz.prog X3 = .ok () X4
  c1 : ∀ p u, Z.cell? p = some u → X1.cell? p = some u
  c2 : ∀ p u, Z.cell? p = some u → X2.cell? p = some u
  c3 : ∀ p u, Z.cell? p = some u → X3.cell? p = some u
  c4 : ∀ p u, Z.cell? p = some u → X4.cell? p = some u
  st : Stays Z X4
  box : ∀ (b : Nat) (t : TypeId) cs, Blk Z b t cs → Blk X4 b t cs
  row : ∀ (B n size : Nat) (t : TypeId) (v : Value) (xs : List Value), Z.ownsRow B t size v n xs → X4.ownsRow B t size v n xs
  g1 : MapG X4 m1 (n1 + 1) (updG f1 k1 v)
  g2 : MapG X4 m2 (n2 + 1) (updG f2 k2 v)
  below : Below L Z X4
theorem zeroSpA (W : World) : (zeroValue tSp).run Tryz.prog W = .ok (.pointer none) W := by kernel_rfl
theorem two {L : Nat} {Z : World} {m1 m2 n1 n2 : Nat} {k1 k2 : Int} {f1 f2 : Int → Option Value} (h1 : MapG Z m1 n1 f1) (h2 : MapG Z m2 n2 f2) (hne : m1 ≠ m2) (hl1 : L ≤ m1) (hl2 : L ≤ m2) (hn1 : n1 < maxLen) (hn2 : n2 < maxLen) (hk1 : 0 ≤ k1 ∧ k1 ≤ 1000000) (hk2 : 0 ≤ k2 ∧ k2 ≤ 1000000) (v : Value) :
    ∃ X1 X2 X3 X4 u1 u2 s1 s2, Two L Z m1 m2 n1 n2 k1 k2 f1 f2 v X1 X2 X3 X4 u1 u2 s1 s2 := by
  have ht : Tryz.prog.underlying tSm = some (.map 3 tSp) := Tryz.underlying103
  obtain ⟨u1, s1, es1, c1, hr1, hs1⟩ := h1.entry ht zeroSpA hn1 (k := k1) (by omega) (by omega)
  obtain ⟨eb1, cb1, hb1⟩ := h1.obj
  obtain ⟨es2, c2, hr2, hg1⟩ := hs1 _ v (ChangeMaps.heap_setBlock_same hb1 _)
  have h1x : MapG (ChangeMaps.setBlock Z m1 (.map es1 c1)) m2 n2 f2 := h2.far (Ne.symm hne) _
  have h2x : MapG (ChangeMaps.setBlock (ChangeMaps.setBlock Z m1 (.map es1 c1)) m1 (.map es2 c2)) m2 n2 f2 := h1x.far (Ne.symm hne) _
  obtain ⟨u2, s2, es3, c3, hr3, hs3⟩ := h2x.entry ht zeroSpA hn2 (k := k2) (by omega) (by omega)
  obtain ⟨eb2, cb2, hb2⟩ := h2x.obj
  obtain ⟨es4, c4, hr4, hg2⟩ := hs3 _ v (ChangeMaps.heap_setBlock_same hb2 _)
  have hB1 : (ChangeMaps.setBlock Z m1 (.map es1 c1)).heap[m1]? = some (.map es1 c1) := ChangeMaps.heap_setBlock_same hb1 _
  -- every step turns a map's block alone
  have step : ∀ (W : World) (b : Nat) (es : Array MapEntry) (c : Nat) (o : Obj), W.heap[b]? = some (.map es c) →
      (∀ p u, W.cell? p = some u → (ChangeMaps.setBlock W b o).cell? p = some u) ∧ (∀ (g : Nat) (cs : Array Value) (t : TypeId), W.heap[g]? = some (.cells cs t (0, 0)) → (ChangeMaps.setBlock W b o).heap[g]? = W.heap[g]?) := by
    intro W b es c o hb
    refine ⟨fun p u h => ?_, fun g cs t hh => ?_⟩
    · have hne : b ≠ p.block := fun e => by subst e; simp [World.cell?, hb] at h
      rw [World.cell?_of_block (w := W) (w' := ChangeMaps.setBlock W b o) (a := p) (by simp [ChangeMaps.setBlock, hne])]
      exact h
    · have hne : b ≠ g := fun e => by subst e; rw [hb] at hh; cases hh
      simp [ChangeMaps.setBlock, hne]
  obtain ⟨p1, q1⟩ := step Z m1 _ _ (.map es1 c1) hb1
  obtain ⟨p2, q2⟩ := step _ m1 _ _ (.map es2 c2) hB1
  obtain ⟨p3, q3⟩ := step _ m2 _ _ (.map es3 c3) hb2
  obtain ⟨p4, q4⟩ := step _ m2 _ _ (.map es4 c4) (ChangeMaps.heap_setBlock_same hb2 _)
  have hall : ∀ (g : Nat) (cs : Array Value) (t : TypeId), Z.heap[g]? = some (.cells cs t (0, 0)) → (ChangeMaps.setBlock (ChangeMaps.setBlock (ChangeMaps.setBlock (ChangeMaps.setBlock Z m1 (.map es1 c1)) m1 (.map es2 c2)) m2 (.map es3 c3)) m2 (.map es4 c4)).heap[g]? = Z.heap[g]? := by
    intro g cs t hh
    have e1 := q1 g cs t hh
    have e2 := q2 g cs t (e1.trans hh)
    have e3 := q3 g cs t (e2.trans (e1.trans hh))
    have e4 := q4 g cs t (e3.trans (e2.trans (e1.trans hh)))
    exact e4.trans (e3.trans (e2.trans e1))
  refine ⟨ChangeMaps.setBlock Z m1 (.map es1 c1), ChangeMaps.setBlock (ChangeMaps.setBlock Z m1 (.map es1 c1)) m1 (.map es2 c2), ChangeMaps.setBlock (ChangeMaps.setBlock (ChangeMaps.setBlock Z m1 (.map es1 c1)) m1 (.map es2 c2)) m2 (.map es3 c3), ChangeMaps.setBlock (ChangeMaps.setBlock (ChangeMaps.setBlock (ChangeMaps.setBlock Z m1 (.map es1 c1)) m1 (.map es2 c2)) m2 (.map es3 c3)) m2 (.map es4 c4), u1, u2, s1, s2, ?_⟩
  refine { r1 := hr1, r2 := hr2, r3 := hr3, r4 := hr4, c1 := p1, c2 := fun p u h => p2 p u (p1 p u h), c3 := fun p u h => p3 p u (p2 p u (p1 p u h)), c4 := fun p u h => p4 p u (p3 p u (p2 p u (p1 p u h))), st := ⟨by simp [ChangeMaps.setBlock], fun g cs t _ _ hh => hall g cs t hh⟩, box := fun b t cs hb => (hall b cs t hb).trans hb, row := fun B n size t v xs hr => row_keep hr fun g cs _ hh => hall g cs t hh, g1 := ?_, g2 := hg2, below := ?_ }
  · exact (hg1.far hne _).far hne _
  · exact (((below_setMap hl1 _).trans (below_setMap hl1 _)).trans (below_setMap hl2 _)).trans (below_setMap hl2 _)
def newSt (A : Au) (e : Ev) : St := ⟨e.tx, e.thr, 1, A.many, -1, -1, [], 1⟩
theorem Busy.add {A : Au} {hs : List Hd} {f2 : Int → Option Value} (h : Busy A hs f2) (hl : hs.length = A.sts.length) {e : Ev} (hthr : ∀ s ∈ A.sts, s.thr = e.thr → s.stand = 5) (b : Nat) (vd : Value) (m : Nat) : Busy ⟨m, A.sts ++ [newSt A e]⟩ (hs ++ [⟨b, vd⟩]) (updG f2 e.thr (ptrV b)) := by
  refine ⟨fun i s hd hi hh h5 => ?_, fun k hk => ?_⟩
  · simp only at hi
    by_cases hlt : i < A.sts.length
    · rw [List.getElem?_append_left hlt] at hi
      rw [List.getElem?_append_left (by omega)] at hh
      have hne : s.thr ≠ e.thr := fun e9 => h5 (hthr s (List.mem_of_getElem? hi) e9)
      unfold updG
      rw [if_neg hne]
      exact h.1 i s hd hi hh h5
    · obtain ⟨hi2, _⟩ := List.getElem?_eq_some_iff.1 hi
      simp at hi2
      obtain rfl : i = A.sts.length := by omega
      simp at hi
      subst hi
      rw [← hl] at hh
      simp at hh
      subst hh
      simp [updG, newSt]
  · unfold updG
    by_cases hke : k = e.thr
    · exact absurd (hk (newSt A e) (by simp) hke.symm) (by simp [newSt])
    · rw [if_neg hke]
      exact h.2 k fun s hs hsk => hk s (by simp [hs]) hsk
/-- A transaction has begun. -/
theorem ShC.add {L : Nat} {X W9 : World} {A : Au} {nc ab : Nat} {hs : List Hd} {vo vt v' : Value} {m1 m2 : Nat} {f2 f1 : Int → Option Value} (h : ShC L X A nc ab hs vo vt m1 m2 f2) {e : Ev} (hid : ∀ s ∈ A.sts, s.id ≠ e.tx)
    (hst : Stays X W9) (hbox : Blk W9 ab tAu #[vo, .int .i64 A.many, v', .map (some m1), .map (some m2)]) (htx : W9.ownsRow L tSp 1 v' (A.sts.length + 1) (hs.map (fun h => ptrV h.b) ++ [ptrV X.heap.size])) (hnew : Blk W9 X.heap.size tSt (stArr (newSt A e) (.slice none 0 0)))
    {n1 n2 : Nat} (hn1 : n1 ≤ A.many) (hn2 : n2 ≤ A.many) (hf1 : ∀ (i : Nat) s h, A.sts[i]? = some s → hs[i]? = some h → f1 s.id = some (ptrV h.b)) (hf1n : ∀ k, (∀ s ∈ A.sts, s.id ≠ k) → f1 k = none)
    (hm1 : MapG W9 m1 (n1 + 1) (updG f1 e.tx (ptrV X.heap.size))) (hm2 : MapG W9 m2 (n2 + 1) (updG f2 e.thr (ptrV X.heap.size))) :
    ShC L (W9.setCell ⟨ab, 1, none⟩ (.int .i64 ((A.many : Int) + 1))) ⟨A.many + 1, A.sts ++ [newSt A e]⟩ nc ab (hs ++ [⟨X.heap.size, .slice none 0 0⟩]) vo v' m1 m2 (updG f2 e.thr (ptrV X.heap.size)) := by
  obtain ⟨cs, o1, o2⟩ := h.ob
  have hL : L ≤ X.heap.size := by have := h.le; have := h.box.lt; omega
  have hs9 := Stays.set hbox 1 (.int .i64 ((A.many : Int) + 1))
  have hall := hst.trans hs9
  have hl := h.len
  have cases : ∀ (i : Nat) s hd, (A.sts ++ [newSt A e])[i]? = some s → (hs ++ [(⟨X.heap.size, .slice none 0 0⟩ : Hd)])[i]? = some hd → (A.sts[i]? = some s ∧ hs[i]? = some hd) ∨ (i = A.sts.length ∧ s = newSt A e ∧ hd = ⟨X.heap.size, .slice none 0 0⟩) := by
    intro i s hd hi hh
    by_cases hlt : i < A.sts.length
    · rw [List.getElem?_append_left hlt] at hi
      rw [List.getElem?_append_left (by omega)] at hh
      exact .inl ⟨hi, hh⟩
    · obtain ⟨hi2, _⟩ := List.getElem?_eq_some_iff.1 hi
      simp at hi2
      obtain rfl : i = A.sts.length := by omega
      simp at hi
      rw [← hl] at hh
      simp at hh
      exact .inr ⟨rfl, hi.symm, hh.symm⟩
  have hsplit : ∀ (i : Nat) hd, (hs ++ [(⟨X.heap.size, .slice none 0 0⟩ : Hd)])[i]? = some hd → hs[i]? = some hd ∨ (i = hs.length ∧ hd = ⟨X.heap.size, .slice none 0 0⟩) := by
    intro i hd hh
    by_cases hlt : i < hs.length
    · rw [List.getElem?_append_left hlt] at hh
      exact .inl hh
    · obtain ⟨hi2, _⟩ := List.getElem?_eq_some_iff.1 hh
      simp at hi2
      obtain rfl : i = hs.length := by omega
      simp at hh
      exact .inr ⟨rfl, hh.symm⟩
  have hblt : ∀ (i : Nat) hd, hs[i]? = some hd → hd.b < X.heap.size := by
    intro i hd hh
    obtain ⟨hi2, _⟩ := List.getElem?_eq_some_iff.1 hh
    have hi : A.sts[i]? = some (A.sts[i]'(by omega)) := List.getElem?_eq_getElem _
    exact (h.st i _ hd hi hh).blk.lt
  refine ⟨?_, h.le, ⟨cs, hall.row o1 (by decide) (by decide), o2⟩, ?_, by simp [hl], ?_, ?_, h.m1l, h.m2l, h.m12, ⟨n1 + 1, updG f1 e.tx (ptrV X.heap.size), by simp only; omega, hm1.stays hbox _ _, ?_, ?_⟩, ⟨n2 + 1, by simp only; omega, hm2.stays hbox _ _⟩⟩
  · have := hbox.put 1 (.int .i64 ((A.many : Int) + 1))
    simpa using this
  · have h9 := row_far htx (p := ⟨ab, 1, none⟩) (hbox.apartRow htx (by decide)) (.int .i64 ((A.many : Int) + 1))
    simpa using h9
  · intro i s hd hi hh
    rcases cases i s hd hi hh with ⟨hi, hh⟩ | ⟨_, rfl, rfl⟩
    · have k := h.st i s hd hi hh
      exact ⟨k.le, hall.blk k.blk (by decide) (by decide), hall.row k.row (by decide) (by decide)⟩
    · refine ⟨hL, hs9.blk hnew (by decide) (by decide), ?_⟩
      exact ⟨by simp [newSt, flatD], .inl ⟨rfl, by simp [newSt]⟩⟩
  · intro i j hd hd' hi hj hij
    rcases hsplit i hd hi with hi | ⟨ei, rfl⟩
    · rcases hsplit j hd' hj with hj | ⟨ej, rfl⟩
      · exact h.dif i j hd hd' hi hj hij
      · exact ⟨by have := hblt i hd hi; simp only; omega, fun g _ e => by cases e⟩
    · rcases hsplit j hd' hj with hj | ⟨ej, rfl⟩
      · exact ⟨by have := hblt j hd' hj; simp only; omega, fun g e => by cases e⟩
      · omega
  · intro i s hd hi hh
    unfold updG
    rcases cases i s hd hi hh with ⟨hi, hh⟩ | ⟨_, rfl, rfl⟩
    · rw [if_neg (hid s (List.mem_of_getElem? hi))]
      exact hf1 i s hd hi hh
    · simp [newSt]
  · intro k hk
    unfold updG
    rw [if_neg (fun e9 => hk (newSt A e) (by simp) e9.symm)]
    exact hf1n k fun s hs9 => hk s (by simp [hs9])
end Go.Proofs.YtgfmlaflochffaaGreatDoor

namespace Go.Proofs.YtgfmlaflochffaaGreatDoor
open Go.RowKit Go.Maps W
attribute [local go_sem ↓] Go.wp_at_zero Go.wp_at_succ

theorem name_world {P : World → Prop} {w : World} (h : ∀ X, X = w → P X) : P w := h w rfl
theorem infoSp : (Tryz.prog.info? tSp).map (fun i => (i.zero, i.size, i.bytes)) = some (some (.pointer none), 1, 8) := by kernel_rfl
set_option linter.unusedSimpArgs false in
set_option maxHeartbeats 16000000 in
set_option maxRecDepth 100000 in
theorem feedB {L : Nat} {W : World} {A : Au} {nc ab : Nat} {hs : List Hd} {vo vt : Value} {m1 m2 : Nat} {f2 : Int → Option Value} (h : ShC L W A nc ab hs vo vt m1 m2 f2) (hbz : Busy A hs f2) (hL : LaidE W) (hm : A.many < 400) {e : Ev} (hg : EvGood nc e) (hr : e.ret ≤ 3) (htx : 0 ≤ e.tx ∧ e.tx ≤ 1000000) (hthr : 0 ≤ e.thr ∧ e.thr ≤ 1000000)
    (hk1 : e.kind = 1) (hnew : ∀ s ∈ A.sts, s.id ≠ e.tx) (hidle : ∀ s ∈ A.sts, s.thr = e.thr → s.stand = 5) (hlen : A.sts.length ≤ 1000) :
    Calls Tryz.prog 36 #[.pointer (some ⟨ab, 0, none⟩), .agg (evArr e)] W fun r w' => FeedPost L W ⟨A.many + 1, A.sts ++ [newSt A e]⟩ nc ab vo m1 m2 r w' := by
  obtain ⟨i0, hi, hz0, hz1, hz2⟩ := info_parts infoSp
  obtain ⟨At, ct, rfl⟩ := row_shape h.tx
  have H := hid h
  have HBZ := hid hbz
  have lab := h.box.lt
  have b1 : W.cell? ⟨ab, 1, none⟩ = some (.int .i64 A.many) := h.box.cell 1
  have hmany : ((A.many : Int) == 400) = false := by simp; omega
  have t1 : (e.kind == 1) = true := by simpa using hk1
  have t2 : (e.kind == 2) = false := by simp [hk1]
  have HV := hid (fun w hL => validGood hg hr w hL)
  have HLE := hid (hL.below ((Below.refl W.heap.size W).alloc (Nat.le_refl _) (.cells (evArr e) 37)))
  have HE0 := hid (Blk.new W 37 (evArr e))
  have HG := hid hg
  have HNW := hid hnew
  have HID := hid hidle
  have HTX := hid htx
  have HTH := hid hthr
  have hE9 : evArr e = #[.int .i64 e.kind, .int .i64 e.tx, .int .i64 e.thr, .int .i64 e.obj, .int .i64 e.op, .int .i64 e.key, .int .i64 e.val, .int .i64 e.ret] := rfl
  rw [hE9] at HV HLE HE0 ⊢
  clear hE9 h hL hg hbz hnew hidle htx hthr hk1
  go_enter Tryz.func36, Tryz.ntmps36
  go_wp2_with fail
  refine (HV.out _ HLE.out).mono ?_
  rintro r w1 ⟨rfl, hb1⟩
  have HW1 := hid (((Below.refl W.heap.size W).alloc (Nat.le_refl _) (.cells #[.int .i64 e.kind, .int .i64 e.tx, .int .i64 e.thr, .int .i64 e.obj, .int .i64 e.op, .int .i64 e.key, .int .i64 e.val, .int .i64 e.ret] 37)).trans (hb1.mono (by simp)))
  have HC := hid ((H.out.alloc (.cells #[.int .i64 e.kind, .int .i64 e.tx, .int .i64 e.thr, .int .i64 e.obj, .int .i64 e.op, .int .i64 e.key, .int .i64 e.val, .int .i64 e.ret] 37)).call hb1)
  have HE := hid (HE0.out.below hb1 (by simp))
  have e0 := HE.out.cell 0
  have e1 := HE.out.cell 1
  have e2 := HE.out.cell 2
  have a1 : w1.cell? ⟨ab, 1, none⟩ = some (.int .i64 A.many) := HC.out.box.cell 1
  have a3 : w1.cell? ⟨ab, 3, none⟩ = some (.map (some m1)) := HC.out.box.cell 3
  have a4 : w1.cell? ⟨ab, 4, none⟩ = some (.map (some m2)) := HC.out.box.cell 4
  have le := HE.out.lt
  have la := HC.out.box.lt
  obtain ⟨n1, f1, hn1, hM1, hf1, hf1n⟩ := HC.out.byM
  obtain ⟨n2, hn2, hM2⟩ := HC.out.buM
  have hl1 : ∀ n, (Instr.lookup tSm (.map (some m1)) (.int .i64 e.tx) true).run Tryz.prog (w1.drewN n) = .ok (.tuple #[.pointer none, .bool false]) (w1.drewN n) := fun n => by
    have h9 := (hM1.drewN n).look_ok underSm (zeroSp _) (k := e.tx) (by have := HTX.out; omega) (by have := HTX.out; omega)
    rw [hf1n _ HNW.out] at h9
    exact h9
  have hl2 : ∀ n, (Instr.lookup tSm (.map (some m2)) (.int .i64 e.thr) false).run Tryz.prog (w1.drewN n) = .ok (.pointer none) (w1.drewN n) := fun n => by
    have h9 := (hM2.drewN n).look underSm (zeroSp _) (k := e.thr) (by have := HTH.out; omega) (by have := HTH.out; omega)
    rw [HBZ.out.2 _ HID.out] at h9
    exact h9
  have hl10 := hl1 0
  have hl20 := hl2 0
  have HM1 := hid hM1
  have HM2 := hid hM2
  have HF1 := hid hf1
  have HF1n := hid hf1n
  clear hb1 HV HLE HE0 b1 hM1 hM2 hf1 hf1n
  go_wp2_with fail
  go_quiet (fail)
  go_wp2_with fail
  go_quiet (fail)
  go_upto_region 17 with fail
  refine name_world (P := Code.wp _ _ _ _) ?_
  intro w2 hw2
  have HX0 : Hid (ShC L w2.drew A nc ab hs vo (.slice At A.sts.length ct) m1 m2 f2) := hid (hw2 ▸ ((HC.out.drewN _).drewN _).drewN 1)
  have HWX0 : Hid (Below W.heap.size W w2.drew) := hid (hw2 ▸ (below_drewN (below_drewN HW1.out _) _).drew)
  have x1 : w2.drew.cell? ⟨ab, 1, none⟩ = some (.int .i64 A.many) := hw2 ▸ a1
  have y0 : w2.drew.cell? ⟨W.heap.size, 0, none⟩ = some (.int .i64 e.kind) := hw2 ▸ e0
  have y1 : w2.drew.cell? ⟨W.heap.size, 1, none⟩ = some (.int .i64 e.tx) := hw2 ▸ e1
  have y2 : w2.drew.cell? ⟨W.heap.size, 2, none⟩ = some (.int .i64 e.thr) := hw2 ▸ e2
  have HM1X : Hid (MapG w2.drew m1 n1 f1) := hid (hw2 ▸ ((HM1.out.drewN _).drewN _).drewN 1)
  have HM2X : Hid (MapG w2.drew m2 n2 f2) := hid (hw2 ▸ ((HM2.out.drewN _).drewN _).drewN 1)
  have HEX0 : Hid (Blk w2.drew W.heap.size tEv #[.int .i64 e.kind, .int .i64 e.tx, .int .i64 e.thr, .int .i64 e.obj, .int .i64 e.op, .int .i64 e.key, .int .i64 e.val, .int .i64 e.ret]) := hid (hw2 ▸ ((HE.out.drewN _).drewN _).drew)
  clear hw2 hl1 hl2 hl10 hl20 HM1 HM2 HC HE HW1 a1 a3 a4 e0 e1 e2 le la
  refine wp_region_still_tail 10 (by kernel_rfl) (by kernel_rfl) ?_
  change wpStill _ _ w2.drew (fun a' => wpList _ _ _ _ a' w2.drew) _ _
  generalize w2.drew = X at HX0 HWX0 x1 y0 y1 y2 HM1X HM2X HEX0 ⊢
  have lE := HEX0.out.lt
  have lA := HX0.out.box.lt
  simp only [List.take_succ_cons, List.take_zero, List.drop_succ_cons, List.drop_zero]
  iterate 10 still_step
  refine wpStill_nil ?_
  go_upto_region 18 with fail
  have HY : Hid (Blk (X.alloc (.cells #[.int .i64 e.tx, .int .i64 e.thr, .int .i64 1, .int .i64 A.many, .int .i64 (-1), .int .i64 (-1), .slice none 0 0, .int .i64 1] tSt)) X.heap.size tSt (stArr (newSt A e) (.slice none 0 0))) := hid (Blk.new X tSt _)
  have HSY : Hid (Stays X (X.alloc (.cells #[.int .i64 e.tx, .int .i64 e.thr, .int .i64 1, .int .i64 A.many, .int .i64 (-1), .int .i64 (-1), .slice none 0 0, .int .i64 1] tSt))) := hid (Stays.of ((Below.refl _ _).alloc (Nat.le_refl _) _))
  have HCY : Hid (ShC L (X.alloc (.cells #[.int .i64 e.tx, .int .i64 e.thr, .int .i64 1, .int .i64 A.many, .int .i64 (-1), .int .i64 (-1), .slice none 0 0, .int .i64 1] tSt)) A nc ab hs vo (.slice At A.sts.length ct) m1 m2 f2) := hid (HX0.out.alloc _)
  have hYs : X.heap.size < (X.alloc (.cells #[.int .i64 e.tx, .int .i64 e.thr, .int .i64 1, .int .i64 A.many, .int .i64 (-1), .int .i64 (-1), .slice none 0 0, .int .i64 1] tSt)).heap.size := by simp
  have HMY1 : Hid (MapG (X.alloc (.cells #[.int .i64 e.tx, .int .i64 e.thr, .int .i64 1, .int .i64 A.many, .int .i64 (-1), .int .i64 (-1), .slice none 0 0, .int .i64 1] tSt)) m1 n1 f1) := hid (HM1X.out.alloc _)
  have HMY2 : Hid (MapG (X.alloc (.cells #[.int .i64 e.tx, .int .i64 e.thr, .int .i64 1, .int .i64 A.many, .int .i64 (-1), .int .i64 (-1), .slice none 0 0, .int .i64 1] tSt)) m2 n2 f2) := hid (HM2X.out.alloc _)
  have HEY : Hid (Blk (X.alloc (.cells #[.int .i64 e.tx, .int .i64 e.thr, .int .i64 1, .int .i64 A.many, .int .i64 (-1), .int .i64 (-1), .slice none 0 0, .int .i64 1] tSt)) W.heap.size tEv #[.int .i64 e.kind, .int .i64 e.tx, .int .i64 e.thr, .int .i64 e.obj, .int .i64 e.op, .int .i64 e.key, .int .i64 e.val, .int .i64 e.ret]) := hid (HEX0.out.alloc _)
  have HBY : Hid (Below L W (X.alloc (.cells #[.int .i64 e.tx, .int .i64 e.thr, .int .i64 1, .int .i64 A.many, .int .i64 (-1), .int .i64 (-1), .slice none 0 0, .int .i64 1] tSt))) := hid ((HWX0.out.mono (by have := H.out.le; omega)).alloc (by have := HX0.out.le; omega) _)
  generalize X.alloc (.cells #[.int .i64 e.tx, .int .i64 e.thr, .int .i64 1, .int .i64 A.many, .int .i64 (-1), .int .i64 (-1), .slice none 0 0, .int .i64 1] tSt) = Y at HY HSY HCY hYs HMY1 HMY2 HEY HBY ⊢
  clear y0 y1 y2 x1 lA lE HM1X HM2X HWX0 HEX0
  have c2 : Y.cell? ⟨ab, 2, none⟩ = some (.slice At A.sts.length ct) := HCY.out.box.cell 2
  have lA := HCY.out.box.lt
  have HTX9 := hid HCY.out.tx
  go_wp2_with (at_builtin; refine wpList_append_own_at _ rfl (.tmp 88) (.tmp 90) 102 rfl L tSp i0 (.pointer none) 1 8 Tryz.underlying102 hi hz0 hz1 hz2 rfl (by decide) (.slice At A.sts.length ct) A.sts.length (hs.map fun h => ptrV h.b) rfl (HTX9.out.alloc _) ⟨Y.heap.size, 0, none⟩ 1 1 [.pointer (some ⟨X.heap.size, 0, none⟩)] rfl rfl (cell_one_new _ _ _) (by simp [Value.oneCell']) (by unfold maxLen; omega) (by omega) (by have := HCY.out.le; simp; omega) ?_; intro v6 w6 hown6 hgrow6 _ hat6; obtain ⟨A6, c6, rfl⟩ := row_shape hown6; have HB6 := hid ((HCY.out.box.alloc (.cells #[.pointer (some ⟨X.heap.size, 0, none⟩)] tSp)).grown hgrow6 (fun e9 => HCY.out.box.apartRow HCY.out.tx (by decide) e9.symm)); have z2 := HB6.out.cell 2; have zf := HB6.out.frozen 2; have zl := HB6.out.lt)
  go_upto_region 19 with fail
  have hne6 : ∀ (b n : Nat) (f : Int → Option Value), MapG (Y.alloc (.cells #[.pointer (some ⟨X.heap.size, 0, none⟩)] tSp)) b n f → MapG w6 b n f := fun b n f hM => hM.grown hgrow6 (fun e9 => (HasT.row (HTX9.out.alloc _) e9.symm).neMap hM rfl)
  have hZB : Blk (w6.setCell ⟨ab, 2, none⟩ (.slice A6 (A.sts.length + 1) c6)) ab tAu #[vo, .int .i64 A.many, .slice A6 (A.sts.length + 1) c6, .map (some m1), .map (some m2)] := by
    have := HB6.out.put 2 (.slice A6 (A.sts.length + 1) c6)
    simpa using this
  have hZT : (w6.setCell ⟨ab, 2, none⟩ (.slice A6 (A.sts.length + 1) c6)).ownsRow L tSp 1 (.slice A6 (A.sts.length + 1) c6) (A.sts.length + 1) (hs.map (fun h => ptrV h.b) ++ [ptrV X.heap.size]) := row_far hown6 (p := ⟨ab, 2, none⟩) (HB6.out.apartRow hown6 (by decide)) _
  have hZS : Stays Y (w6.setCell ⟨ab, 2, none⟩ (.slice A6 (A.sts.length + 1) c6)) := ((Stays.of ((Below.refl _ _).alloc (Nat.le_refl _) _)).trans (Stays.grown (HTX9.out.alloc _) hgrow6)).trans (Stays.set HB6.out 2 _)
  have hZ1 : MapG (w6.setCell ⟨ab, 2, none⟩ (.slice A6 (A.sts.length + 1) c6)) m1 n1 f1 := (hne6 _ _ _ (HMY1.out.alloc _)).stays HB6.out 2 _
  have hZ2 : MapG (w6.setCell ⟨ab, 2, none⟩ (.slice A6 (A.sts.length + 1) c6)) m2 n2 f2 := (hne6 _ _ _ (HMY2.out.alloc _)).stays HB6.out 2 _
  have hZL : Below L W (w6.setCell ⟨ab, 2, none⟩ (.slice A6 (A.sts.length + 1) c6)) := ((HBY.out.alloc (by have := HCY.out.le; omega) _).grown hgrow6 (by have := HCY.out.le; have := HCY.out.box.lt; simp; omega) (fun x hx => (row_own HTX9.out hx).1)).setCell (p := ⟨ab, 2, none⟩) HCY.out.le _
  generalize w6.setCell ⟨ab, 2, none⟩ (.slice A6 (A.sts.length + 1) c6) = Z at hZB hZT hZS hZ1 hZ2 hZL ⊢
  obtain ⟨X1, X2, X3, X4, u1, u2, s1, s2, T⟩ := two (L := L) (Z := Z.drew) (k1 := e.tx) (k2 := e.thr) (hZ1.drewN 1) (hZ2.drewN 1) H.out.m12 H.out.m1l H.out.m2l (by unfold maxLen; omega) (by unfold maxLen; omega) HTX.out HTH.out (ptrV X.heap.size)
  have HT := hid T
  have r1 := T.r1
  have r2 := T.r2
  have r3 := T.r3
  have r4 := T.r4
  unfold ptrV at r2 r4
  simp only [goInt] at r1 r2 r3 r4
  have hZE := hZS.blk HEY.out (by decide) (by decide)
  have p3 : Z.cell? ⟨ab, 3, none⟩ = some (.map (some m1)) := hZB.cell 3
  have p4 : Z.cell? ⟨ab, 4, none⟩ = some (.map (some m2)) := hZB.cell 4
  have p1 : Z.cell? ⟨W.heap.size, 1, none⟩ = some (.int .i64 e.tx) := hZE.cell 1
  have p2 : Z.cell? ⟨W.heap.size, 2, none⟩ = some (.int .i64 e.thr) := hZE.cell 2
  have p13 := T.c1 _ _ p3
  have p14 := T.c1 _ _ p4
  have p11 := T.c1 _ _ p1
  have p12 := T.c1 _ _ p2
  have p23 := T.c2 _ _ p3
  have p24 := T.c2 _ _ p4
  have p21 := T.c2 _ _ p1
  have p22 := T.c2 _ _ p2
  have p33 := T.c3 _ _ p3
  have p34 := T.c3 _ _ p4
  have p31 := T.c3 _ _ p1
  have p32 := T.c3 _ _ p2
  have p43 := T.c4 _ _ p3
  have p44 := T.c4 _ _ p4
  have p41 := T.c4 _ _ p1
  have p42 := T.c4 _ _ p2
  have HZS := hid (HSY.out.trans hZS)
  have HZN := hid (hZS.blk HY.out (by decide) (by decide))
  have HZB := hid hZB
  have HZT := hid hZT
  have HZL := hid hZL
  have hx4 : X4.cell? ⟨ab, 1, none⟩ = some (.int .i64 A.many) := T.c4 _ _ (hZB.cell 1)
  have hx4f := (T.box _ _ _ hZB).frozen 1
  have hx4l := (T.box _ _ _ hZB).lt
  clear hne6 hZB hZT hZS hZ1 hZ2 hZL hZE T z2 zf zl hown6 hgrow6 hat6 HB6 c2 lA hYs hlen
  go_region_held3 (fun w' => w'.cell? ⟨ab, 3, none⟩ = some (.map (some m1)) ∧ w'.cell? ⟨ab, 4, none⟩ = some (.map (some m2)) ∧ w'.cell? ⟨W.heap.size, 1, none⟩ = some (.int .i64 e.tx) ∧ w'.cell? ⟨W.heap.size, 2, none⟩ = some (.int .i64 e.thr)) (go_keep) (fail)
  go_wp2_with fail
  go_ret
  have hsd : Stays Z Z.drew := Stays.of (Below.refl _ _).drew
  have hX := HX0.out.add HNW.out ((HZS.out.trans hsd).trans HT.out.st) (HT.out.box _ _ _ HZB.out.drew) (HT.out.row _ _ _ _ _ _ HZT.out.drew) (HT.out.box _ _ _ HZN.out.drew) hn1 hn2 HF1.out HF1n.out HT.out.g1 HT.out.g2
  exact ⟨rfl, _, _, _, hX, HBZ.out.add HX0.out.len HID.out _ _ (A.many + 1), (HZL.out.drew.trans HT.out.below).setCell (p := ⟨ab, 1, none⟩) H.out.le _⟩
end Go.Proofs.YtgfmlaflochffaaGreatDoor

namespace Go.Proofs.YtgfmlaflochffaaGreatDoor
open Go.RowKit Go.Maps W

theorem EvGood.tx {nc : Nat} {e : Ev} (h : EvGood nc e) : 1 ≤ e.tx ∧ e.tx ≤ 1000 := by
  have hT : Fld.T ∈ e.fl := by
    unfold Ev.fl flds callFl retFl
    split
    · simp
    · split
      · simp
      · split <;> simp
  exact h.1.2.1 _ hT
theorem EvGood.thr {nc : Nat} {e : Ev} (h : EvGood nc e) (hk : e.kind = 1) : 0 ≤ e.thr ∧ e.thr ≤ 7 := by
  have hH : Fld.H ∈ e.fl := by
    unfold Ev.fl flds
    rw [if_pos hk]
    simp
  exact h.1.2.1 _ hH
theorem strip_ret : ∀ (l : List Fld) (r : Ev), Fld.R ∉ l → (l.foldl (fun r f => r.put f 0) r).ret = r.ret
  | [], _, _ => rfl
  | f :: l, r, h => by
    simp only [List.mem_cons, not_or] at h
    rw [List.foldl_cons, strip_ret l _ h.2]
    exact Ev.put_other r f .R 0 h.1
theorem EvGood.ret {nc : Nat} {e : Ev} (h : EvGood nc e) : e.ret ≤ 3 := by
  by_cases hk : e.kind = 3
  · exact (h.1.1.2.2.2 hk).2
  · have hR : Fld.R ∉ e.fl := by
      unfold Ev.fl flds callFl
      split
      · simp
      · split
        · split <;> split <;> simp
        · try rw [if_neg hk]
          simp
    have h9 := congrArg Ev.ret h.1.2.2
    unfold Ev.strip at h9
    rw [List.take_length, strip_ret _ _ hR] at h9
    simp [Ev.zero] at h9
    omega
/-- Bounds on an automaton's numbers. -/
structure AuB (A : Au) : Prop where
  len : A.sts.length ≤ A.many
  each : ∀ s ∈ A.sts, s.deeds.length ≤ A.many ∧ 0 ≤ s.thr ∧ s.thr ≤ 7
theorem AuB.step {nc : Nat} {A A' : Au} {e : Ev} (h : AuB A) (hg : EvGood nc e) (hs : FStep A e A') : AuB A' ∧ A'.many = A.many + 1 := by
  by_cases hk : e.kind = 1
  · cases hs with
    | start h1 h2 h3 =>
      refine ⟨⟨by simp only [List.length_append, List.length_singleton]; have := h.len; omega, fun s hs => ?_⟩, rfl⟩
      rcases List.mem_append.1 hs with hs | hs
      · have := h.each s hs; simp only; omega
      · obtain rfl : s = _ := by simpa using hs
        have := hg.thr hk
        simp only [List.length_nil]; omega
    | call h1 => omega
    | ret h1 => omega
    | asks h1 => omega
    | cancel h1 => omega
    | ends h1 => rcases h1 with ⟨h1, _⟩ | ⟨h1, _⟩ <;> omega
  · obtain ⟨i, s, s', rfl, hi, _, hks, _⟩ := hs.turn hk
    have hb := h.each s (List.mem_of_getElem? hi)
    refine ⟨⟨by simp only [Au.upd, List.length_set]; have := h.len; omega, fun x hx => ?_⟩, rfl⟩
    simp only [Au.upd] at hx ⊢
    rcases List.mem_or_eq_of_mem_set hx with hx | rfl
    · have := h.each x hx; omega
    · have ht := hks.thr
      have hd : x.deeds.length ≤ s.deeds.length + 1 := by
        cases hks with
        | call => simp
        | ret _ _ h3 => simp [h3]
        | asks => simp
        | cancel => simp
        | ends => simp
      omega
/-- The automaton over a list of events. -/
def Runs (nc : Nat) (es : List Ev) (A : Au) : Prop := ∃ f : Nat → Au, f 0 = ⟨0, []⟩ ∧ f es.length = A ∧ ∀ k e, es[k]? = some e → EvGood nc e ∧ FStep (f k) e (f (k + 1))
theorem Runs.start (nc : Nat) : Runs nc [] ⟨0, []⟩ := ⟨fun _ => ⟨0, []⟩, rfl, rfl, fun k e h => by simp at h⟩
theorem Runs.more {nc : Nat} {es : List Ev} {A A' : Au} {e : Ev} (h : Runs nc es A) (hg : EvGood nc e) (hs : FStep A e A') : Runs nc (es ++ [e]) A' := by
  obtain ⟨f, h0, h1, h2⟩ := h
  refine ⟨fun k => if k ≤ es.length then f k else A', by simp [h0], by simp only [List.length_append, List.length_singleton]; rw [if_neg (by omega)], fun k x hx => ?_⟩
  by_cases hlt : k < es.length
  · rw [List.getElem?_append_left hlt] at hx
    simp only
    rw [if_pos (by omega), if_pos (by omega)]
    exact h2 k x hx
  · obtain ⟨hi2, _⟩ := List.getElem?_eq_some_iff.1 hx
    simp at hi2
    obtain rfl : k = es.length := by omega
    simp at hx
    subst hx
    simp only [Nat.le_refl, if_true, h1]
    rw [if_neg (by omega)]
    exact ⟨hg, hs⟩
theorem runs_bnd {nc : Nat} {es : List Ev} {f : Nat → Au} (h0 : f 0 = ⟨0, []⟩) (h2 : ∀ k e, es[k]? = some e → EvGood nc e ∧ FStep (f k) e (f (k + 1))) : ∀ k, k ≤ es.length → AuB (f k) ∧ (f k).many = k
  | 0, _ => by rw [h0]; exact ⟨⟨Nat.le_refl _, fun s hs => by cases hs⟩, rfl⟩
  | k + 1, hk => by
    obtain ⟨h3, h4⟩ := runs_bnd h0 h2 k (by omega)
    obtain ⟨g, s⟩ := h2 k _ (List.getElem?_eq_getElem (by omega))
    obtain ⟨h5, h6⟩ := h3.step g s
    exact ⟨h5, by rw [h6, h4]⟩
/-- The automaton in memory, all of it. -/
def Sh (L : Nat) (W : World) (A : Au) (nc ab : Nat) (vo : Value) (m1 m2 : Nat) : Prop := ∃ hs vt f2, ShC L W A nc ab hs vo vt m1 m2 f2 ∧ Busy A hs f2
theorem Sh.call {L : Nat} {W W' : World} {A : Au} {nc ab : Nat} {vo : Value} {m1 m2 : Nat} (h : Sh L W A nc ab vo m1 m2) (hb : Below W.heap.size W W') : Sh L W' A nc ab vo m1 m2 := by
  obtain ⟨hs, vt, f2, h1, h2⟩ := h
  exact ⟨hs, vt, f2, h1.call hb, h2⟩
theorem Sh.drewN {L : Nat} {W : World} {A : Au} {nc ab : Nat} {vo : Value} {m1 m2 : Nat} (h : Sh L W A nc ab vo m1 m2) (n : Nat) : Sh L (W.drewN n) A nc ab vo m1 m2 := by
  obtain ⟨hs, vt, f2, h1, h2⟩ := h
  exact ⟨hs, vt, f2, h1.drewN n, h2⟩
theorem feedCall {L : Nat} {W : World} {A A' : Au} {nc ab : Nat} {vo : Value} {m1 m2 : Nat} (h : Sh L W A nc ab vo m1 m2) (hL : LaidE W) (hm : A.many < 400) {e : Ev} (hg : EvGood nc e) (hb : AuB A) (hs : FStep A e A') :
    Calls Tryz.prog 36 #[.pointer (some ⟨ab, 0, none⟩), .agg (evArr e)] W fun r w' => r = .returned .nilIface ∧ Sh L w' A' nc ab vo m1 m2 ∧ Below L W w' := by
  obtain ⟨hds, vt, f2, h1, h2⟩ := h
  have ht := hg.tx
  by_cases hk : e.kind = 1
  · have ht1 := hg.thr hk
    cases hs with
    | start g1 g2 g3 =>
      have h9 := feedB h1 h2 hL hm hg hg.ret (by omega) (by omega) hk g2 g3 (by have := hb.len; omega)
      refine h9.mono ?_
      rintro r w' ⟨rfl, hs', vt', f2', k1, k2, k3⟩
      exact ⟨rfl, ⟨hs', vt', f2', k1, k2⟩, k3⟩
    | call h1 => omega
    | ret h1 => omega
    | asks h1 => omega
    | cancel h1 => omega
    | ends h1 => rcases h1 with ⟨h1, _⟩ | ⟨h1, _⟩ <;> omega
  · obtain ⟨i, s, s', rfl, hi, hid, hks, hu⟩ := hs.turn hk
    have hbs := hb.each s (List.mem_of_getElem? hi)
    obtain ⟨hd, hh⟩ : ∃ hd, hds[i]? = some hd := ⟨hds[i]'(by rw [h1.len]; exact (List.getElem?_eq_some_iff.1 hi).1), List.getElem?_eq_getElem _⟩
    have h9 := feedK h1 h2 hL hm hg hg.ret (by omega) hi hh hid hks hu (by omega) (by omega)
    refine h9.mono ?_
    rintro r w' ⟨rfl, hs', vt', f2', k1, k2, k3⟩
    exact ⟨rfl, ⟨hs', vt', f2', k1, k2⟩, k3⟩
end Go.Proofs.YtgfmlaflochffaaGreatDoor
