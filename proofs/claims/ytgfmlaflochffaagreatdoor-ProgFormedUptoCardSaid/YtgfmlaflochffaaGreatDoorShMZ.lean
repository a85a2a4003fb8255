/-
  The automaton in memory.
-/
import Derived.Test.YtgfmlaflochffaaGreatDoorShBZ
import Derived.Test.YtgfmlaflochffaaGreatDoorWkZ
import Derived.Test.YtgfmlaflochffaaGreatDoorMapGZ
namespace Go.Proofs.YtgfmlaflochffaaGreatDoor
open Go.RowKit Go.Maps Go.ChangeShapes Go.WideShapes W

abbrev tAu : TypeId := 105
abbrev tSt : TypeId := 108
abbrev tDd : TypeId := 139
abbrev tOb : TypeId := 43
abbrev tSp : TypeId := 106
abbrev tSm : TypeId := 103
def ddArr (d : Dd) : Array Value := #[.int .i64 d.obj, .int .i64 d.op, .int .i64 d.key, .int .i64 d.val, .int .i64 d.ret, .int .i64 d.got, .int .i64 d.pos, .int .i64 d.back]
def flatD (l : List Dd) : List Value := l.flatMap fun d => (ddArr d).toList
def stArr (s : St) (vd : Value) : Array Value := #[.int .i64 s.id, .int .i64 s.thr, .int .i64 s.status, .int .i64 s.beg, .int .i64 s.fin, .int .i64 s.tri, vd, .int .i64 s.stand]
/-- Where a transaction lies: its block, the slice of its deeds. -/
structure Hd where
  b : Nat
  vd : Value
def ptrV (b : Nat) : Value := .pointer (some ⟨b, 0, none⟩)
def HasT (W : World) (g : Nat) (t : TypeId) : Prop := ∃ cs, W.heap[g]? = some (.cells cs t (0, 0))
theorem HasT.of {W : World} {g : Nat} {t : TypeId} {cs : Array Value} (h : Blk W g t cs) : HasT W g t := ⟨cs, h⟩
theorem HasT.row {W : World} {B n size : Nat} {t : TypeId} {v : Value} {xs : List Value} (h : W.ownsRow B t size v n xs) {g : Nat} (hg : v.ownBlock = some g) : HasT W g t := row_type h hg
theorem HasT.ne {W : World} {g g' : Nat} {t t' : TypeId} (h : HasT W g t) (h' : HasT W g' t') (hn : t ≠ t') : g ≠ g' := by
  rintro rfl
  obtain ⟨cs, h⟩ := h
  obtain ⟨cs', h'⟩ := h'
  rw [h] at h'
  injection h' with h'
  injection h' with _ h'
  exact hn h'
theorem HasT.neMap {W : World} {g b n : Nat} {t : TypeId} {f : Int → Option Value} (h : HasT W g t) (hm : MapG W b n f) : b ≠ g := by
  rintro rfl
  obtain ⟨cs, h⟩ := h
  obtain ⟨es, c, h'⟩ := hm.obj
  rw [h] at h'
  cases h'
structure StAt (L : Nat) (W : World) (s : St) (h : Hd) : Prop where
  le : L ≤ h.b
  blk : Blk W h.b tSt (stArr s h.vd)
  row : W.ownsRow L tDd 8 h.vd s.deeds.length (flatD s.deeds)
structure ShC (L : Nat) (W : World) (A : Au) (nc ab : Nat) (hs : List Hd) (vo vt : Value) (m1 m2 : Nat) (f2 : Int → Option Value) : Prop where
  box : Blk W ab tAu #[vo, .int .i64 A.many, vt, .map (some m1), .map (some m2)]
  le : L ≤ ab
  ob : ∃ cs, W.ownsRow L tOb 2 vo nc cs ∧ ∀ j, j < nc → cs[j * 2]? = some (.int .i64 1)
  tx : W.ownsRow L tSp 1 vt A.sts.length (hs.map fun h => ptrV h.b)
  len : hs.length = A.sts.length
  st : ∀ (i : Nat) s h, A.sts[i]? = some s → hs[i]? = some h → StAt L W s h
  dif : ∀ (i j : Nat) h h', hs[i]? = some h → hs[j]? = some h' → i ≠ j → h.b ≠ h'.b ∧ ∀ g, h.vd.ownBlock = some g → h'.vd.ownBlock ≠ some g
  m1l : L ≤ m1
  m2l : L ≤ m2
  m12 : m1 ≠ m2
  byM : ∃ n f1, n ≤ A.many ∧ MapG W m1 n f1 ∧ (∀ (i : Nat) s h, A.sts[i]? = some s → hs[i]? = some h → f1 s.id = some (ptrV h.b)) ∧ ∀ k, (∀ s ∈ A.sts, s.id ≠ k) → f1 k = none
  buM : ∃ n, n ≤ A.many ∧ MapG W m2 n f2
/-- What the map of the busy threads says. -/
def Busy (A : Au) (hs : List Hd) (f2 : Int → Option Value) : Prop :=
  (∀ (i : Nat) s h, A.sts[i]? = some s → hs[i]? = some h → s.stand ≠ 5 → f2 s.thr = some (ptrV h.b)) ∧ ∀ k, (∀ s ∈ A.sts, s.thr = k → s.stand = 5) → f2 k = none
theorem StAt.call {L : Nat} {W W' : World} {s : St} {h : Hd} (hh : StAt L W s h) (hb : Below W.heap.size W W') : StAt L W' s h := ⟨hh.le, hh.blk.below hb hh.blk.lt, row_call hh.row hb⟩
theorem ShC.call {L : Nat} {W W' : World} {A : Au} {nc ab : Nat} {hs : List Hd} {vo vt : Value} {m1 m2 : Nat} {f2 : Int → Option Value} (h : ShC L W A nc ab hs vo vt m1 m2 f2) (hb : Below W.heap.size W W') : ShC L W' A nc ab hs vo vt m1 m2 f2 := by
  obtain ⟨cs, o1, o2⟩ := h.ob
  obtain ⟨n, f1, b1, b2, b3⟩ := h.byM
  obtain ⟨n2, c1, c2⟩ := h.buM
  exact ⟨h.box.below hb h.box.lt, h.le, ⟨cs, row_call o1 hb, o2⟩, row_call h.tx hb, h.len, fun i s hd h1 h2 => (h.st i s hd h1 h2).call hb, h.dif, h.m1l, h.m2l, h.m12, ⟨n, f1, b1, b2.call hb, b3⟩, ⟨n2, c1, c2.call hb⟩⟩
theorem ShC.alloc {L : Nat} {W : World} {A : Au} {nc ab : Nat} {hs : List Hd} {vo vt : Value} {m1 m2 : Nat} {f2 : Int → Option Value} (h : ShC L W A nc ab hs vo vt m1 m2 f2) (o : Obj) : ShC L (W.alloc o) A nc ab hs vo vt m1 m2 f2 := h.call ((Below.refl _ _).alloc (Nat.le_refl _) o)
theorem ShC.drewN {L : Nat} {W : World} {A : Au} {nc ab : Nat} {hs : List Hd} {vo vt : Value} {m1 m2 : Nat} {f2 : Int → Option Value} (h : ShC L W A nc ab hs vo vt m1 m2 f2) (k : Nat) : ShC L (W.drewN k) A nc ab hs vo vt m1 m2 f2 :=
  ⟨h.box, h.le, h.ob, h.tx, h.len, fun i s hd h1 h2 => ⟨(h.st i s hd h1 h2).le, (h.st i s hd h1 h2).blk, (h.st i s hd h1 h2).row⟩, h.dif, h.m1l, h.m2l, h.m12, h.byM, h.buM⟩
/-- A transaction has turned. -/
theorem ShC.upd {L : Nat} {W W' : World} {A : Au} {nc ab : Nat} {hs : List Hd} {vo vt : Value} {m1 m2 : Nat} {f2 : Int → Option Value} (h : ShC L W A nc ab hs vo vt m1 m2 f2) {i : Nat} {s s' : St} {hd : Hd} {vd' : Value} (hi : A.sts[i]? = some s) (hh : hs[i]? = some hd) {S : List Nat}
    (ho : Only S W W') (hS : ∀ x ∈ S, x = hd.b ∨ hd.vd.ownBlock = some x) (hn : StAt L W' s' ⟨hd.b, vd'⟩) (hv : VeStep W hd.vd vd') (hid : s'.id = s.id) : ShC L W' ⟨A.many, A.sts.set i s'⟩ nc ab (hs.set i ⟨hd.b, vd'⟩) vo vt m1 m2 f2 := by
  have hst := h.st i s hd hi hh
  have hT : ∀ x ∈ S, HasT W x tSt ∨ HasT W x tDd := fun x hx => by
    rcases hS x hx with rfl | e
    · exact .inl (HasT.of hst.blk)
    · exact .inr (HasT.row hst.row e)
  have notin : ∀ {g : Nat} {t : TypeId}, HasT W g t → t ≠ tSt → t ≠ tDd → g ∉ S := fun hg h1 h2 hx => by
    rcases hT _ hx with h | h
    · exact hg.ne h h1 rfl
    · exact hg.ne h h2 rfl
  obtain ⟨cs, o1, o2⟩ := h.ob
  obtain ⟨n, f1, b1, b2, b3, b4⟩ := h.byM
  obtain ⟨n2, c1, c2⟩ := h.buM
  have mnot : ∀ {b n : Nat} {f : Int → Option Value}, MapG W b n f → MapG W' b n f := fun {b n f} hm => hm.at (ho.block _ hm.lt fun hx => by
    rcases hT _ hx with h | h
    · exact h.neMap hm rfl
    · exact h.neMap hm rfl)
  have hlt := (List.getElem?_eq_some_iff.1 hi).1
  have hlt2 := (List.getElem?_eq_some_iff.1 hh).1
  have emap : ((hs.set i ⟨hd.b, vd'⟩).map fun h => ptrV h.b) = hs.map fun h => ptrV h.b := by
    rw [List.map_set]
    refine List.ext_getElem? fun j => ?_
    rw [List.getElem?_set]
    split
    · rename_i e
      subst e
      have e9 := (List.getElem?_eq_some_iff.1 hh).2
      simp [hlt2, e9]
    · rfl
  refine ⟨h.box.only ho (notin (HasT.of h.box) (by decide) (by decide)), h.le, ⟨cs, row_only o1 ho fun g hg => notin (HasT.row o1 hg) (by decide) (by decide), o2⟩, ?_, by simp [h.len], ?_, ?_, h.m1l, h.m2l, h.m12, ⟨n, f1, b1, mnot b2, ?_, ?_⟩, ⟨n2, c1, mnot c2⟩⟩
  · rw [emap]
    simp only [List.length_set]
    exact row_only h.tx ho fun g hg => notin (HasT.row h.tx hg) (by decide) (by decide)
  · intro j sj hj e1 e2
    by_cases hij : i = j
    · subst hij
      simp [hlt] at e1
      simp [hlt2] at e2
      subst e1 e2
      exact hn
    · rw [List.getElem?_set_ne hij] at e1 e2
      have k := h.st j sj hj e1 e2
      obtain ⟨d1, d2⟩ := h.dif i j hd hj hh e2 hij
      refine ⟨k.le, k.blk.only ho fun hx => ?_, row_only k.row ho fun g hg hx => ?_⟩
      · rcases hS _ hx with e | e
        · exact d1 e.symm
        · exact (HasT.of k.blk).ne (HasT.row hst.row e) (by decide) rfl
      · rcases hS _ hx with e | e
        · subst e
          exact (HasT.row k.row hg).ne (HasT.of hst.blk) (by decide) rfl
        · exact d2 g e hg
  · intro j j' hj hj' e1 e2 hne
    have old : ∀ (j : Nat) hj, (hs.set i ⟨hd.b, vd'⟩)[j]? = some hj → j ≠ i → hs[j]? = some hj := fun j hj e hji => by rwa [List.getElem?_set_ne (Ne.symm hji)] at e
    have new : ∀ hj, (hs.set i ⟨hd.b, vd'⟩)[i]? = some hj → hj = ⟨hd.b, vd'⟩ := fun hj e => by simp [hlt2] at e; exact e.symm
    have rowlt : ∀ (j : Nat) hj g, hs[j]? = some hj → hj.vd.ownBlock = some g → g < W.heap.size := fun j hj g e hg => by
      have hjl := (List.getElem?_eq_some_iff.1 e).1
      obtain ⟨sj, hsj⟩ : ∃ sj, A.sts[j]? = some sj := ⟨A.sts[j]'(by rw [← h.len]; exact hjl), List.getElem?_eq_getElem _⟩
      exact (row_own (h.st j sj hj hsj e).row hg).2
    by_cases hji : j = i
    · subst hji
      obtain rfl := new _ e1
      have e2' := old _ _ e2 (Ne.symm hne)
      obtain ⟨d1, d2⟩ := h.dif _ _ _ _ hh e2' hne
      refine ⟨d1, fun g hg e => ?_⟩
      rcases hv with hv | ⟨q, hq, hl⟩
      · exact d2 g (hv ▸ hg) e
      · rw [hq] at hg
        injection hg with hg
        have := rowlt _ _ _ e2' e
        omega
    · have e1' := old _ _ e1 hji
      by_cases hj2 : j' = i
      · subst hj2
        obtain rfl := new _ e2
        obtain ⟨d1, d2⟩ := h.dif _ _ _ _ e1' hh hne
        refine ⟨d1, fun g hg e => ?_⟩
        rcases hv with hv | ⟨q, hq, hl⟩
        · exact d2 g hg (hv ▸ e)
        · have e' : vd'.ownBlock = some g := e
          rw [hq] at e'
          injection e' with e'
          have := rowlt _ _ _ e1' hg
          omega
      · exact h.dif _ _ _ _ e1' (old _ _ e2 hj2) hne
  · intro j sj hj e1 e2
    by_cases hij : i = j
    · subst hij
      simp [hlt] at e1
      simp [hlt2] at e2
      subst e1 e2
      rw [hid]
      exact b3 i s hd hi hh
    · rw [List.getElem?_set_ne hij] at e1 e2
      exact b3 j sj hj e1 e2
  · intro k hk
    refine b4 k fun x hx => ?_
    obtain ⟨j, hj⟩ := List.getElem?_of_mem hx
    by_cases hij : i = j
    · subst hij
      rw [hi] at hj
      injection hj with hj
      subst hj
      rw [← hid]
      exact hk s' (List.mem_of_getElem? (i := i) (by simp [hlt]))
    · exact hk x (List.mem_of_getElem? (i := j) (by rw [List.getElem?_set_ne hij]; exact hj))
/-- One more event has been taken. -/
theorem ShC.more {L : Nat} {W : World} {A : Au} {nc ab : Nat} {hs : List Hd} {vo vt : Value} {m1 m2 : Nat} {f2 : Int → Option Value} (h : ShC L W A nc ab hs vo vt m1 m2 f2) : ShC L (W.setCell ⟨ab, 1, none⟩ (.int .i64 ((A.many : Int) + 1))) ⟨A.many + 1, A.sts⟩ nc ab hs vo vt m1 m2 f2 := by
  obtain ⟨cs, o1, o2⟩ := h.ob
  obtain ⟨n, f1, b1, b2, b3⟩ := h.byM
  obtain ⟨n2, c1, c2⟩ := h.buM
  have hc : W.cell? ⟨ab, 1, none⟩ = some (.int .i64 A.many) := h.box.cell 1
  refine ⟨?_, h.le, ⟨cs, row_far o1 (p := ⟨ab, 1, none⟩) (h.box.apartRow o1 (by decide)) _, o2⟩, row_far h.tx (p := ⟨ab, 1, none⟩) (h.box.apartRow h.tx (by decide)) _, h.len, fun i s hd h1 h2 => ?_, h.dif, h.m1l, h.m2l, h.m12, ⟨n, f1, Nat.le_succ_of_le b1, b2.setCell hc, b3⟩, ⟨n2, Nat.le_succ_of_le c1, c2.setCell hc⟩⟩
  · have := h.box.put 1 (.int .i64 ((A.many : Int) + 1))
    simpa using this
  · have k := h.st i s hd h1 h2
    exact ⟨k.le, k.blk.far (p := ⟨ab, 1, none⟩) (k.blk.apart h.box (by decide)) _, row_far k.row (p := ⟨ab, 1, none⟩) (h.box.apartRow k.row (by decide)) _⟩
/-- A thread is no longer busy. -/
theorem ShC.drop {L : Nat} {W W' : World} {A : Au} {nc ab : Nat} {hs : List Hd} {vo vt : Value} {m1 m2 : Nat} {f2 f2' : Int → Option Value} (h : ShC L W A nc ab hs vo vt m1 m2 f2) {n : Nat} (hn : n ≤ A.many) (hm : MapG W' m2 n f2') (ht : W.mapTurned W' m2) : ShC L W' A nc ab hs vo vt m1 m2 f2' := by
  obtain ⟨cs, o1, o2⟩ := h.ob
  obtain ⟨n1, f1, b1, b2, b3⟩ := h.byM
  obtain ⟨n2, c1, c2⟩ := h.buM
  have hg := ht.grown
  have K : ∀ {g : Nat} {t : TypeId}, HasT W g t → some g ≠ some m2 := fun hT e => by
    injection e with e
    exact hT.neMap c2 e.symm
  have R : ∀ {B n size : Nat} {t : TypeId} {v : Value} {xs : List Value}, W.ownsRow B t size v n xs → W'.ownsRow B t size v n xs := fun {B n size t v xs} hr =>
    row_only hr (S := [m2]) ((Only.refl [m2] W).grown hg (fun k e => by injection e with e; subst e; exact .inl (by simp))) (fun g hv hx => by
      simp at hx
      exact K (HasT.row hr hv) (by rw [hx]))
  refine ⟨h.box.grown hg (K (HasT.of h.box)), h.le, ⟨cs, R o1, o2⟩, R h.tx, h.len, fun i s hd h1 h2 => ?_, h.dif, h.m1l, h.m2l, h.m12, ⟨n1, f1, b1, b2.grown hg (fun e => h.m12 (by injection e)), b3⟩, ⟨n, hn, hm⟩⟩
  have k := h.st i s hd h1 h2
  exact ⟨k.le, k.blk.grown hg (K (HasT.of k.blk)), R k.row⟩
end Go.Proofs.YtgfmlaflochffaaGreatDoor
