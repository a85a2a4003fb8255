/-
  prog.Parse: what a text is read as, line by line; a line's words lie in a block of their own.
-/
import Derived.Test.YtdfkegflnebckaaDoorPLine2
import Derived.Test.YtdfkegflnebckaaDoorIter
import Derived.Shelf.RegionOpen
namespace Go.Proofs.YtdfkegflnebckaaDoor
open Go.RowKit Go.Maps W
attribute [local go_sem ↓] Go.wp_at_zero Go.wp_at_succ
attribute [local go_sem] Oper.semAt_some

/-- One block more that the program keeps apart from. -/
theorem Pp.addF {F : List Nat} {B pb : Nat} {W W' : World} {vc vt : Value} {p : Pg} (h : Pp F B pb W vc vt p) (hb : Below W.heap.size W W') {g : Nat} (h1 : W.heap.size ≤ g) (h2 : g < W'.heap.size) : Pp (g :: F) B pb W' vc vt p := by
  have h' := h.call hb
  have hlt := h.box.lt
  obtain ⟨us, k1, k2, k3, k4, k5⟩ := h.thr
  refine ⟨h'.box, h'.le, h'.cells, ⟨us, row_call k1 hb, k2, fun i u t hu ht => (k3 i u t hu ht).keep (fun g _ _ hg => hb.block g (lt_of_at hg)) (fun g _ hg => hb.block g (lt_of_at hg)), k4, ?_⟩, ?_⟩
  · intro x hx
    rcases List.mem_cons.1 hx with rfl | hx
    · refine ⟨fun e => by have := (row_own k1 e).2; omega, fun u hu e => ?_⟩
      obtain ⟨i, hi⟩ := List.getElem?_of_mem hu
      have hil := (List.getElem?_eq_some_iff.1 hi).1
      obtain ⟨vs, r1, _⟩ := k3 i u p.threads[i] hi (List.getElem?_eq_getElem _)
      have := (row_own r1 e).2
      omega
    · exact k5 x hx
  · intro x hx
    rcases List.mem_cons.1 hx with rfl | hx
    · exact ⟨h2, by omega, fun e => by have := (row_own h.cells e).2; omega⟩
    · exact h'.frn x hx
/-- A store into a block that is none of the program's. -/
theorem Pp.set {F : List Nat} {B pb : Nat} {W : World} {vc vt : Value} {p : Pg} (h : Pp F B pb W vc vt p) {g j : Nat} {cs : Array Value} {t : TypeId} (u : Value) (hb : W.heap[g]? = some (.cells cs t (0, 0))) (hpb : g ≠ pb) (hvc : vc.ownBlock ≠ some g) (h1 : t ≠ tH) (h2 : t ≠ tT) (h3 : t ≠ tA) : Pp F B pb (W.setCell ⟨g, j, none⟩ u) vc vt p := by
  refine ⟨(Below.heap_setCell W ⟨g, j, none⟩ u pb (fun e => hpb e.symm)).trans h.box, h.le, row_keep h.cells (fun g' _ e _ => Below.heap_setCell W ⟨g, j, none⟩ u g' (fun e2 => by cases e2; exact hvc e)), h.thr.keep (fun g' _ hh => Below.heap_setCell W ⟨g, j, none⟩ u g' (type_ne hh hb (fun e => h1 e.symm))) (fun g' _ hh => Below.heap_setCell W ⟨g, j, none⟩ u g' (type_ne hh hb (fun e => h2 e.symm))) (fun g' _ hh => Below.heap_setCell W ⟨g, j, none⟩ u g' (type_ne hh hb (fun e => h3 e.symm))), fun x hx => ⟨by simpa using (h.frn x hx).1, (h.frn x hx).2⟩⟩
theorem Pp.drew {F : List Nat} {B pb : Nat} {W : World} {vc vt : Value} {p : Pg} (h : Pp F B pb W vc vt p) : Pp F B pb W.drew vc vt p := ⟨h.box, h.le, h.cells, h.thr, h.frn⟩
/-- All blocks of cells lie as they lay. -/
theorem Pp.cellsKept {F : List Nat} {B pb : Nat} {W W' : World} {vc vt : Value} {p : Pg} (h : Pp F B pb W vc vt p) (hs : W.heap.size ≤ W'.heap.size) (hk : ∀ (k : Nat) (cs : Array Value) (t : TypeId), W.heap[k]? = some (.cells cs t (0, 0)) → W'.heap[k]? = some (.cells cs t (0, 0))) : Pp F B pb W' vc vt p :=
  ⟨hk _ _ _ h.box, h.le, row_keep h.cells (fun _ _ _ hg => (hk _ _ _ hg).trans hg.symm), h.thr.keep (fun _ _ hg => (hk _ _ _ hg).trans hg.symm) (fun _ _ hg => (hk _ _ _ hg).trans hg.symm) (fun _ _ hg => (hk _ _ _ hg).trans hg.symm), fun x hx => ⟨Nat.lt_of_lt_of_le (h.frn x hx).1 hs, (h.frn x hx).2⟩⟩
/-- The blocks that are no cells. -/
def others (W : World) : List Nat := (List.range W.heap.size).filter fun k => match W.heap[k]? with | some o => !o.isCells | none => false
theorem mem_others {W : World} {k : Nat} {o : Obj} (h : W.heap[k]? = some o) (ho : o.isCells = false) : k ∈ others W := by
  unfold others
  rw [List.mem_filter]
  exact ⟨List.mem_range.2 (lt_of_at h), by rw [h]; simp [ho]⟩
theorem of_others {W : World} {k : Nat} (h : k ∈ others W) : k < W.heap.size ∧ ∀ cs t fr, W.heap[k]? ≠ some (.cells cs t fr) := by
  unfold others at h
  rw [List.mem_filter] at h
  refine ⟨List.mem_range.1 h.1, fun cs t fr e => ?_⟩
  rw [e] at h
  simp [Obj.isCells] at h
theorem Pp.addOthers {F : List Nat} {B pb : Nat} {W : World} {vc vt : Value} {p : Pg} (h : Pp F B pb W vc vt p) : Pp (F ++ others W) B pb W vc vt p := by
  obtain ⟨us, k1, k2, k3, k4, k5⟩ := h.thr
  refine ⟨h.box, h.le, h.cells, ⟨us, k1, k2, k3, k4, ?_⟩, ?_⟩
  · intro x hx
    rcases List.mem_append.1 hx with hx | hx
    · exact k5 x hx
    · have hx2 := (of_others hx).2
      refine ⟨fun e => ?_, fun u hu e => ?_⟩
      · obtain ⟨cs, hc⟩ := row_type k1 e
        exact hx2 _ _ _ hc
      · obtain ⟨i, hi⟩ := List.getElem?_of_mem hu
        have hil := (List.getElem?_eq_some_iff.1 hi).1
        obtain ⟨vs, r1, _⟩ := k3 i u p.threads[i] hi (List.getElem?_eq_getElem _)
        obtain ⟨cs, hc⟩ := row_type r1 e
        exact hx2 _ _ _ hc
  · intro x hx
    rcases List.mem_append.1 hx with hx | hx
    · exact h.frn x hx
    · have hx2 := of_others hx
      refine ⟨hx2.1, fun e => ?_, fun e => ?_⟩
      · subst e
        exact hx2.2 _ _ _ h.box
      · obtain ⟨cs, hc⟩ := row_type h.cells e
        exact hx2.2 _ _ _ hc
theorem keeps_below {W W' : World} (hb : Below W.heap.size W W') : KeepsOthers W W' := ⟨hb.size, fun k _ h _ => (hb.block k (lt_of_at h)).trans h⟩
theorem keeps_others {F : List Nat} {W W' : World} (hs : W.heap.size ≤ W'.heap.size) (hk : KeptF (F ++ others W) W W') : KeepsOthers W W' := ⟨hs, fun k _ h ho => (hk k (List.mem_append.2 (.inr (mem_others h ho)))).trans h⟩
theorem reads_acts {W : World} {B : Nat} {v : Value} {l : List PAct} (h : W.ownsRow B tA 3 v l.length (flatA l)) : ReadsA W v l := by
  have h0 := h
  rcases h.2 with ⟨rfl, hz⟩ | ⟨g, cap, cur, rfl, hB, hg, hn, _⟩
  · have hl : l = [] := List.eq_nil_of_length_eq_zero (by omega)
    subst hl
    exact ⟨none, 0, 0, 0, rfl, fun _ => ⟨rfl, rfl⟩, fun a e => (by cases e), Nat.le_refl _, fun j a hj => (by simp at hj)⟩
  · refine ⟨some ⟨g, 0, none⟩, cap, g, 0, rfl, fun e => (by cases e), fun a e _ => (by injection e with e; exact e.symm), hn, fun j a hj => ?_⟩
    have hjl := (List.getElem?_eq_some_iff.1 hj).1
    have hf := flatA_at l j a hj
    have e0 := (h0.cellAt (j * 3 + 0) (by omega)).trans (hf 0 (by omega))
    have e1 := (h0.cellAt (j * 3 + 1) (by omega)).trans (hf 1 (by omega))
    have e2 := (h0.cellAt (j * 3 + 2) (by omega)).trans (hf 2 (by omega))
    simp only [Nat.zero_add]
    exact ⟨e0, e1, e2⟩
theorem Pp.pgAt {F : List Nat} {B pb : Nat} {W : World} {vc vt : Value} {p : Pg} (h : Pp F B pb W vc vt p) : PgAt W vc vt p := by
  obtain ⟨us, k1, k2, k3, k4, k5⟩ := h.thr
  refine ⟨reads_of_row (by simpa [ints_len] using h.cells), us, reads_of_row k1, k2, fun i u t hu ht => ?_⟩
  obtain ⟨vs, r1, r2, r3⟩ := k3 i u t hu ht
  refine ⟨vs, reads_of_row r1, r2, fun j v l hv hl => ?_⟩
  exact reads_acts (r3 j v l hv hl)

/-- What the lines make of what was read, one line more. -/
def goOne (st : Option (Nat × Pg)) (s : List UInt8) : Option (Nat × Pg) := match st with
  | none => none
  | some (n, p) => if silent s then some (n, p) else (lineStep p (n + 1) (words s)).map fun q => (n + 1, q)
def goAll (ls : List (List UInt8)) (pre : List Nat) : Option (Nat × Pg) := pre.foldl (fun st x => goOne st (ls[x]?.getD [])) (some (0, ⟨[], []⟩))
theorem goAll_snoc (ls : List (List UInt8)) (pre : List Nat) (x : Nat) : goAll ls (pre ++ [x]) = goOne (goAll ls pre) (ls[x]?.getD []) := by simp [goAll]
theorem goOne_none : ∀ ls : List (List UInt8), ls.foldl goOne none = none
  | [] => rfl
  | _ :: r => goOne_none r
theorem parseGo_fold : ∀ (ls : List (List UInt8)) (n : Nat) (p : Pg), parseGo ls n p = ls.foldl goOne (some (n, p))
  | [], _, _ => rfl
  | s :: r, n, p => by
    rw [parseGo, List.foldl_cons]
    unfold goOne
    simp only
    split
    · exact parseGo_fold r n p
    · cases h : lineStep p (n + 1) (words s) with
      | none => exact (goOne_none r).symm
      | some q => exact parseGo_fold r (n + 1) q
theorem goAll_take (ls : List (List UInt8)) (k : Nat) (hk : k ≤ ls.length) : goAll ls (List.range k) = (ls.take k).foldl goOne (some (0, ⟨[], []⟩)) := by
  induction k with
  | zero => rfl
  | succ k ih =>
    rw [List.range_succ, goAll_snoc, ih (by omega), List.take_add_one, List.foldl_append, List.getElem?_eq_getElem (by omega)]
    rfl
theorem goAll_all (ls : List (List UInt8)) : goAll ls (List.range ls.length) = parseGo ls 0 ⟨[], []⟩ := by
  rw [goAll_take ls _ (Nat.le_refl _), List.take_length, parseGo_fold]
theorem goAll_stop (ls : List (List UInt8)) (k : Nat) (hk : k ≤ ls.length) (h : goAll ls (List.range k) = none) : parseGo ls 0 ⟨[], []⟩ = none := by
  rw [goAll_take ls k hk] at h
  rw [parseGo_fold, ← List.take_append_drop k ls, List.foldl_append, h, goOne_none]
/-- How great what was read can be. -/
def PgBnd (n : Nat) (p : Pg) : Prop := (n < 2 → p.cells = []) ∧ p.cells.length ≤ 100000 ∧ p.threads.length ≤ n ∧ ∀ t ∈ p.threads, t.length ≤ n
theorem readNums_len : ∀ (l : List (List UInt8)) (ns : List Int), readNums l = some ns → ns.length = l.length
  | [], ns, h => by simp [readNums] at h; subst h; rfl
  | w :: r, ns, h => by
    rw [readNums] at h
    split at h
    · cases h
    · obtain ⟨m, hm, rfl⟩ := Option.map_eq_some_iff.1 h
      simp [readNums_len r m hm]
theorem step_bnd {p q : Pg} {n : Nat} {ws : List (List UInt8)} (h : PgBnd n p) (hw : ws.length ≤ 100000) (hs : lineStep p (n + 1) ws = some q) : PgBnd (n + 1) q := by
  obtain ⟨h1, h2, h3, h4⟩ := h
  unfold lineStep at hs
  split at hs
  · cases hs
  · rename_i w r
    split at hs
    · split at hs
      · injection hs with hs; subst hs
        exact ⟨fun _ => h1 (by omega), h2, by omega, fun t ht => by have := h4 t ht; omega⟩
      · cases hs
    · split at hs
      · split at hs
        · obtain ⟨ns, hns, rfl⟩ := Option.map_eq_some_iff.1 hs
          have := readNums_len _ _ hns
          have hc := h1 (by omega)
          refine ⟨by omega, ?_, ?_, fun t ht => ?_⟩
          · simp only [hc, List.nil_append, List.length_cons] at *; omega
          · simp only; omega
          · have := h4 t ht; omega
        · cases hs
      · split at hs
        · split at hs
          · injection hs with hs; subst hs
            refine ⟨by omega, h2, by simp; omega, fun t ht => ?_⟩
            rcases List.mem_append.1 ht with ht | ht
            · have := h4 t ht; omega
            · obtain rfl := List.mem_singleton.1 ht
              simp
          · cases hs
        · split at hs
          · rename_i hh
            obtain ⟨l, hl, rfl⟩ := Option.map_eq_some_iff.1 hs
            have hne := hh.2.1
            have hlen : p.threads.length ≠ 0 := fun e => hne (List.eq_nil_of_length_eq_zero e)
            refine ⟨by omega, h2, ?_, fun t ht => ?_⟩
            · simp only [addLast, List.length_append, List.length_dropLast, List.length_singleton]; omega
            · simp only [addLast] at ht
              rcases List.mem_append.1 ht with ht | ht
              · have := h4 t ((List.dropLast_sublist _).subset ht); omega
              · obtain rfl := List.mem_singleton.1 ht
                have h5 : (p.threads.getLast?.getD []).length ≤ n := by
                  cases hg : p.threads.getLast? with
                  | none => simp
                  | some t => exact h4 t (List.mem_of_getLast? hg)
                simp only [List.length_append, List.length_singleton]
                omega
          · cases hs
theorem wl_each : ∀ (l cur : List UInt8), ∀ x ∈ wl cur l, x.length ≤ cur.length + l.length
  | [], cur, x, hx => by
    rw [wl] at hx
    split at hx
    · cases hx
    · obtain rfl := List.mem_singleton.1 hx
      simp
  | c :: r, cur, x, hx => by
    rw [wl] at hx
    split at hx
    · split at hx
      · have := wl_each r [] x hx
        simp at this ⊢; omega
      · rcases List.mem_cons.1 hx with rfl | hx
        · simp
        · have := wl_each r [] x hx
          simp at this ⊢; omega
    · have := wl_each r (cur ++ [c]) x hx
      simp at this ⊢; omega
theorem word_len (l : List UInt8) : ∀ x ∈ words l, x.length ≤ l.length := fun x hx => by
  have := wl_each l [] x hx
  simpa using this
theorem PgBnd.small {n : Nat} {p : Pg} (h : PgBnd n p) (hn : n ≤ 100000) : PgSmall p 1000000000 :=
  ⟨by have := h.2.1; omega, by have := h.2.2.1; omega, fun t ht => by have := h.2.2.2 t ht; omega⟩
theorem lineCall (F : List Nat) (B pb : Nat) (vc vt : Value) (p : Pg) (n : Nat) (hn : 1 ≤ n) (hn9 : n ≤ 1000000000) (x : List UInt8) (r : List (List UInt8)) (A : Option Addr) (c : Nat) (w0 W : World) (hL : LaidP w0) (h0 : Below w0.heap.size w0 W) (hB0 : w0.heap.size ≤ B) (hp : Pp F B pb W vc vt p) (hr : Reads W (.slice A (r.length + 1) c) (txs (x :: r))) (hF : ∀ b o, A = some ⟨b, o, none⟩ → b ∈ F)
    (hrl : ∀ y ∈ x :: r, y.length ≤ 1000000000) (hlen : p.cells.length + (r.length + 1) ≤ 1000000000) (hsm : PgSmall p 1000000000) :
    Calls Tryd.prog 23 #[.pointer (some ⟨pb, 0, none⟩), .int .i64 n, .slice A (r.length + 1) c] W fun e W' => ∃ v vc' vt' p', e = .returned v ∧ LineOut p n (x :: r) v p' ∧ Pp F B pb W' vc' vt' p' ∧ KeptF F W W' ∧ Below B W W' := by
  by_cases h3 : 3 ≤ n
  · exact lineMore F B pb vc vt p n h3 hn9 x r A c w0 W hL h0 hB0 hp hr hrl (by omega) hsm
  · exact lineOne F B pb vc vt p n (by omega) x r A c w0 W hL h0 hB0 hp hr hF hrl hlen
theorem neq_at (a : Addr) (w : World) : (binOp .neq 30 (.iface 68 (.pointer (some a))) .nilIface).run Tryd.prog w = .ok (.bool true) w := by
  simp only [binOp]
  simp [Op.equal, Op.maxDepth, go_sem]
  try kernel_rfl
end Go.Proofs.YtdfkegflnebckaaDoor
