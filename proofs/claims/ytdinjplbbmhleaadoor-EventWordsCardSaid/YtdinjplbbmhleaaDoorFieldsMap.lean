/-
  A map from integers to functions, told as a function of its key; one store into it, as a world of its own name.
-/
import Derived.Test.YtdinjplbbmhleaaDoorNext
import Derived.Maps.OwnSet
import Derived.Maps.OwnOps
namespace Go.Proofs.YtdinjplbbmhleaaDoor
open Go.RowKit Go.Maps W

/-- How an element reads that is looked at as it stands. -/
def heldElem (v : Value) : Option (DataW Value × List MemPlace) := some (.held v, [])
def kindKey (x : Int) : Lit := .int .i64 x
theorem kindKey_is (y : Int) : WideAt.IsKeyLit (kindKey y) := by simp [WideAt.IsKeyLit, kindKey]
theorem lawK : Keyed Tryd.prog 3 := int_keyed Tryd.underlying3
abbrev tMap : TypeId := 102
theorem underMap : Tryd.prog.underlying tMap = some (.map 3 101) := Tryd.underlying102
/-- Block b is a map of n keys that holds f. -/
def MapV (W : World) (b n : Nat) (f : Int → Value) : Prop :=
  ∃ D : DataW Value, W.ownsMap Tryd.prog 3 heldElem b n D ∧ IsMap D ∧ ∀ k, D.atKey (kindKey k) (.held .nilFunc) = .held (f k)
def updV (f : Int → Value) (k : Int) (v : Value) : Int → Value := fun x => if x = k then v else f x
def nilF : Int → Value := fun _ => .nilFunc
theorem MapV.lt {W : World} {b n : Nat} {f : Int → Value} (h : MapV W b n f) : b < W.heap.size := by obtain ⟨D, h1, _⟩ := h; exact h1.lt
theorem MapV.made (W : World) : MapV (W.alloc (.map #[] 0)) W.heap.size 0 nilF := ⟨.map [], World.ownsMap_made W _ _ _, ⟨[], rfl⟩, fun _ => rfl⟩
theorem MapV.drew {W : World} {b n : Nat} {f : Int → Value} (h : MapV W b n f) : MapV W.drew b n f := h
theorem MapV.call {W W' : World} {b n : Nat} {f : Int → Value} (h : MapV W b n f) (hb : Below W.heap.size W W') : MapV W' b n f := by
  obtain ⟨D, h1, h2⟩ := h
  exact ⟨D, map_only h1 (Only.of_below (S := []) hb (Nat.le_refl _)) (by simp), h2⟩
theorem MapV.alloc {W : World} {b n : Nat} {f : Int → Value} (h : MapV W b n f) (o : Obj) : MapV (W.alloc o) b n f := h.call ((Below.refl _ _).alloc (Nat.le_refl _) o)
theorem wf_of {k : Int} (h0 : -9223372036854775808 ≤ k) (h1 : k ≤ 9223372036854775807) : (Lit.int .i64 k).wf = true := WalkArith.wf_i64 (by omega)
theorem zeroF (W : World) : (zeroValue 101).run Tryd.prog W = .ok .nilFunc W := by kernel_rfl
theorem MapV.look {W : World} {b n : Nat} {f : Int → Value} (h : MapV W b n f) {k : Int} (h0 : -9223372036854775808 ≤ k) (h1 : k ≤ 9223372036854775807) :
    (Instr.lookup tMap (.map (some b)) (.int .i64 k) false).run Tryd.prog W = .ok (f k) W := by
  obtain ⟨D, h1', _, hf⟩ := h
  obtain ⟨v, ps, hrun, hv⟩ := h1'.lookup lawK underMap (zeroF W) (zd := .held .nilFunc) (zp := []) rfl (keyOf_int_mk Tryd.underlying3 (wf_of h0 h1))
  rw [show (Lit.int .i64 k) = kindKey k from rfl, hf k] at hv
  have : v = f k := by
    unfold heldElem at hv
    simp only [Option.some.injEq, Prod.mk.injEq, DataW.held.injEq] at hv
    exact hv.1
  rw [hrun, this]
theorem MapV.put {W : World} {b n : Nat} {f : Int → Value} (h : MapV W b n f) (hn : n < 100) {k : Int} (h0 : -9223372036854775808 ≤ k) (h1 : k ≤ 9223372036854775807) (v : Value) :
    ∃ w', (Instr.mapUpdate tMap (.map (some b)) (.int .i64 k) v).run Tryd.prog W = .ok () w' ∧ MapV w' b (n + 1) (updV f k v) ∧ W.grownBy w' (some b) := by
  obtain ⟨D, h1', hD, hf⟩ := h
  obtain ⟨w', hrun, hw, hg⟩ := h1'.update lawK underMap (Nat.lt_trans hn (by unfold maxLen; omega)) (keyOf_int_mk Tryd.underlying3 (wf_of h0 h1)) (d := .held v) (ps := []) (val := v) rfl
  refine ⟨w', hrun, ⟨_, hw, hD.put _ _, fun x => ?_⟩, hg⟩
  by_cases hx : x = k
  · subst hx
    rw [show (Lit.int .i64 x) = kindKey x from rfl, Maps.atKey_put_same hD (kindKey_is x)]
    simp [updV]
  · have hne : kindKey x ≠ kindKey k := fun e => hx (by unfold kindKey at e; injection e)
    rw [show (Lit.int .i64 k) = kindKey k from rfl, Maps.atKey_put_other hne, hf x]
    simp [updV, hx]
/-- Some map of few keys. -/
def MapO (W : World) (b : Nat) : Prop := ∃ n f, n < 100 ∧ MapV W b n f
/-- The world behind a store. -/
noncomputable def insW (W : World) (b : Nat) (k : Int) (v : Value) : World :=
  open Classical in if h : ∃ w', (Instr.mapUpdate tMap (.map (some b)) (.int .i64 k) v).run Tryd.prog W = .ok () w' then h.choose else W
theorem insW_of {W w' : World} {b : Nat} {k : Int} {v : Value} (h : (Instr.mapUpdate tMap (.map (some b)) (.int .i64 k) v).run Tryd.prog W = .ok () w') : insW W b k v = w' := by
  have he : ∃ w', (Instr.mapUpdate tMap (.map (some b)) (.int .i64 k) v).run Tryd.prog W = .ok () w' := ⟨w', h⟩
  have h2 : (Instr.mapUpdate tMap (.map (some b)) (.int .i64 k) v).run Tryd.prog W = .ok () he.choose := he.choose_spec
  have h3 : (Result.ok () w' : Result Unit) = .ok () he.choose := h.symm.trans h2
  have h4 : w' = he.choose := by injection h3
  unfold insW
  rw [dif_pos he]
  exact h4.symm
theorem insW_run {W : World} {b : Nat} {k : Int} {v : Value} (h : MapO W b) (h0 : -9223372036854775808 ≤ k) (h1 : k ≤ 9223372036854775807) : (Instr.mapUpdate tMap (.map (some b)) (.int .i64 k) v).run Tryd.prog W = .ok () (insW W b k v) := by
  obtain ⟨n, f, hn, hm⟩ := h
  obtain ⟨w', hr, _⟩ := hm.put hn h0 h1 v
  have e := insW_of hr
  rw [e]
  exact hr
theorem insW_is {W : World} {b n : Nat} {f : Int → Value} (h : MapV W b n f) (hn : n < 100) {k : Int} (h0 : -9223372036854775808 ≤ k) (h1 : k ≤ 9223372036854775807) (v : Value) : MapV (insW W b k v) b (n + 1) (updV f k v) ∧ W.grownBy (insW W b k v) (some b) := by
  obtain ⟨w', hr, hw, hg⟩ := h.put hn h0 h1 v
  rw [insW_of hr]
  exact ⟨hw, hg⟩

/-- The function of a list. -/
def clV (g : Nat) : Value := .func (.func 101) #[] #[.pointer (some ⟨g, 0, none⟩)]
def ListFn (L : Nat) (W : World) (g : Nat) (fs : List Fld) : Prop := fs.length ≤ 5 ∧ L ≤ g ∧ ∃ (B : Nat) (v : Value), L ≤ B ∧ W.cell? ⟨g, 0, none⟩ = some v ∧ W.ownsRow B 106 4 v fs.length (flat fs)
theorem ListFn.call {W W' : World} {L g : Nat} {fs : List Fld} (h : ListFn L W g fs) (hb : Below W.heap.size W W') : ListFn L W' g fs := by
  obtain ⟨hl, hg0, B, v, hB0, h1, h2⟩ := h
  exact ⟨hl, hg0, B, v, hB0, (hb.cell (p := ⟨g, 0, none⟩) (World.block_lt_of_cell? _ _ h1)).trans h1, row_call h2 hb⟩
theorem ListFn.drew {W : World} {L g : Nat} {fs : List Fld} (h : ListFn L W g fs) : ListFn L W.drew g fs := h
theorem ListFn.alloc {W : World} {L g : Nat} {fs : List Fld} (h : ListFn L W g fs) (o : Obj) : ListFn L (W.alloc o) g fs := h.call ((Below.refl _ _).alloc (Nat.le_refl _) o)
theorem map_obj {W : World} {b n : Nat} {f : Int → Value} (h : MapV W b n f) : ∃ es c, W.heap[b]? = some (.map es c) := by
  obtain ⟨D, ⟨es, c, h1, _⟩, _⟩ := h
  exact ⟨es, c, h1⟩
theorem lt_of_heap {W : World} {k : Nat} {o : Obj} (h : W.heap[k]? = some o) : k < W.heap.size := by
  rcases Nat.lt_or_ge k W.heap.size with h' | h'
  · exact h'
  · rw [Array.getElem?_eq_none h'] at h; cases h
theorem ListFn.ins {W W' : World} {L g b n : Nat} {f : Int → Value} {fs : List Fld} (h : ListFn L W g fs) (hm : MapV W b n f) (hg : W.grownBy W' (some b)) : ListFn L W' g fs := by
  obtain ⟨hl, hg0, B, v, hB0, h1, h2⟩ := h
  obtain ⟨es, c, hb⟩ := map_obj hm
  refine ⟨hl, hg0, B, v, hB0, hg.cell h1 (fun e => ?_), ?_⟩
  · injection e with e
    simp only at e
    subst e
    simp [World.cell?, hb] at h1
  · rcases h2 with ⟨hx, ⟨rfl, h0⟩ | ⟨q, cap, cur, rfl, hB, hq, rest⟩⟩
    · exact ⟨hx, .inl ⟨rfl, h0⟩⟩
    · refine ⟨hx, .inr ⟨q, cap, cur, rfl, hB, (hg.block q (lt_of_heap hq) (fun e => ?_)).trans hq, rest⟩⟩
      injection e with e
      subst e
      rw [hq] at hb
      cases hb
theorem listFn_call {W : World} {L g : Nat} {fs : List Fld} (h : ListFn L W g fs) (e : Ev) (i : Nat) :
    Calls Tryd.prog 101 #[.agg (evArr e), .int .i64 i, .pointer (some ⟨g, 0, none⟩)] W fun r w' => r = .returned (.tuple #[.agg (fat fs i), .bool (decide (i < fs.length))]) ∧ Below W.heap.size W w' := by
  obtain ⟨hl, hg0, B, v, hB0, h1, h2⟩ := h
  exact listCall fs v g B e i W h1 h2 hl
theorem listMake2 (fs : List Fld) (hl : fs.length ≤ 5) (h0 : 0 < fs.length) (A : Option Addr) (n c : Nat) (L : Nat) (W : World) (hn : n = fs.length) (h : W.ownsRow (L + 1) 106 4 (.slice A n c) n (flat fs)) :
    Calls Tryd.prog 100 #[.slice A n c] W fun r w' => ∃ g, r = .returned (clV g) ∧ ListFn L w' g fs ∧ Below W.heap.size W w' := by
  subst hn
  have hs : L ≤ W.heap.size := by
    rcases h.2 with ⟨he, h1⟩ | ⟨g, cap, cur, he, hB, hg, _⟩
    · injection he with _ e2
      omega
    · have := lt_of_heap hg
      omega
  refine (listMake A fs.length c W).mono ?_
  rintro r w' ⟨rfl, rfl⟩
  exact ⟨_, rfl, ⟨hl, hs, L + 1, _, by omega, (Blk.new W _ _).cell 0, h.alloc _⟩, (Below.refl _ _).alloc (Nat.le_refl _) _⟩
/-- The blocks from L on that were there are as they were. -/
structure Since (L : Nat) (W W' : World) : Prop where
  size : W.heap.size ≤ W'.heap.size
  block : ∀ k, L ≤ k → k < W.heap.size → W'.heap[k]? = W.heap[k]?
theorem Since.of {L : Nat} {W W' : World} (h : Below W.heap.size W W') : Since L W W' := ⟨h.size, fun k _ hk => h.block k hk⟩
theorem Since.trans {L : Nat} {a b c : World} (h : Since L a b) (k : Since L b c) : Since L a c := ⟨Nat.le_trans h.size k.size, fun i h1 h2 => (k.block i h1 (Nat.lt_of_lt_of_le h2 h.size)).trans (h.block i h1 h2)⟩
theorem Since.setCell {L : Nat} {a b : World} (h : Since L a b) {p : Addr} (hp : p.block < L) (u : Value) : Since L a (b.setCell p u) :=
  ⟨by simpa [World.setCell] using h.size, fun i h1 h2 => (Below.heap_setCell b p u i (by omega)).trans (h.block i h1 h2)⟩
theorem Since.cell {L : Nat} {a b : World} (h : Since L a b) {p : Addr} (hp : L ≤ p.block) {v : Value} (hc : a.cell? p = some v) : b.cell? p = some v :=
  (World.cell?_of_block (h.block p.block hp (World.block_lt_of_cell? a p hc))).trans hc
theorem ListFn.since {L : Nat} {W W' : World} {g : Nat} {fs : List Fld} (h : ListFn L W g fs) (hb : Since L W W') : ListFn L W' g fs := by
  obtain ⟨hl, hg0, B, v, hB0, h1, h2⟩ := h
  refine ⟨hl, hg0, B, v, hB0, hb.cell (p := ⟨g, 0, none⟩) hg0 h1, h2.1, ?_⟩
  rcases h2.2 with h3 | ⟨q, cap, cur, rfl, hB, hq, rest⟩
  · exact .inl h3
  · exact .inr ⟨q, cap, cur, rfl, hB, (hb.block q (by omega) (lt_of_heap hq)).trans hq, rest⟩
end Go.Proofs.YtdinjplbbmhleaaDoor
