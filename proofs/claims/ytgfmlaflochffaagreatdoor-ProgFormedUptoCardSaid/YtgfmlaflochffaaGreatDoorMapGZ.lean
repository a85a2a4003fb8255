/-
  A map from integers to functions, told as a function of its key; one store into it, as a world of its own name.
  A map from integers to values of any type, told as a partial function of its key.
-/
import Derived.Test.YtgfmlaflochffaaGreatDoorNextZ
import Derived.Maps.OwnSet
import Derived.Maps.OwnOps
import Derived.WideKeyEntry
namespace Go.Proofs.YtgfmlaflochffaaGreatDoor
open Go.RowKit Go.Maps W

/-- How an element reads that is looked at as it stands. -/
def heldElem (v : Value) : Option (DataW Value × List MemPlace) := some (.held v, [])
def kindKey (x : Int) : Lit := .int .i64 x
theorem kindKey_is (y : Int) : WideAt.IsKeyLit (kindKey y) := by simp [WideAt.IsKeyLit, kindKey]
theorem lawK : Keyed Tryz.prog 3 := int_keyed Tryz.underlying3
abbrev tMap : TypeId := 129
theorem underMap : Tryz.prog.underlying tMap = some (.map 3 128) := Tryz.underlying129
/-- Block b is a map of n keys that holds f. -/
def MapV (W : World) (b n : Nat) (f : Int → Value) : Prop :=
  ∃ D : DataW Value, W.ownsMap Tryz.prog 3 heldElem b n D ∧ IsMap D ∧ ∀ k, D.atKey (kindKey k) (.held .nilFunc) = .held (f k)
def updV (f : Int → Value) (k : Int) (v : Value) : Int → Value := fun x => if x = k then v else f x
def nilF : Int → Value := fun _ => .nilFunc
theorem MapV.lt {W : World} {b n : Nat} {f : Int → Value} (h : MapV W b n f) : b < W.heap.size := by obtain ⟨D, h1, _⟩ := h; exact h1.lt
theorem MapV.made (W : World) : MapV (W.alloc (.map #[] 0)) W.heap.size 0 nilF := ⟨.map [], World.ownsMap_made W _ _ _, ⟨[], rfl⟩, fun _ => rfl⟩
theorem MapV.drew {W : World} {b n : Nat} {f : Int → Value} (h : MapV W b n f) : MapV W.drew b n f := h
theorem MapV.call {W W' : World} {b n : Nat} {f : Int → Value} (h : MapV W b n f) (hb : Below W.heap.size W W') : MapV W' b n f := by
  obtain ⟨D, h1, h2⟩ := h
  exact ⟨D, map_only h1 (Only.of_below (S := []) hb (Nat.le_refl _)) (by simp), h2⟩
theorem MapV.alloc {W : World} {b n : Nat} {f : Int → Value} (h : MapV W b n f) (o : Obj) : MapV (W.alloc o) b n f := h.call ((Below.refl _ _).alloc (Nat.le_refl _) o)
theorem wf_of {k : Int} (h0 : -9223372036854775808 ≤ k) (h1 : k ≤ 9223372036854775807) : (Lit.int .i64 k).wf = true := WalkArith.wf_i64 (by omega)
theorem zeroF (W : World) : (zeroValue 128).run Tryz.prog W = .ok .nilFunc W := by kernel_rfl
theorem MapV.look {W : World} {b n : Nat} {f : Int → Value} (h : MapV W b n f) {k : Int} (h0 : -9223372036854775808 ≤ k) (h1 : k ≤ 9223372036854775807) :
    (Instr.lookup tMap (.map (some b)) (.int .i64 k) false).run Tryz.prog W = .ok (f k) W := by
  obtain ⟨D, h1', _, hf⟩ := h
  obtain ⟨v, ps, hrun, hv⟩ := h1'.lookup lawK underMap (zeroF W) (zd := .held .nilFunc) (zp := []) rfl (keyOf_int_mk Tryz.underlying3 (wf_of h0 h1))
  rw [show (Lit.int .i64 k) = kindKey k from rfl, hf k] at hv
  have : v = f k := by
    unfold heldElem at hv
    simp only [Option.some.injEq, Prod.mk.injEq, DataW.held.injEq] at hv
    exact hv.1
  rw [hrun, this]
theorem MapV.put {W : World} {b n : Nat} {f : Int → Value} (h : MapV W b n f) (hn : n < 100) {k : Int} (h0 : -9223372036854775808 ≤ k) (h1 : k ≤ 9223372036854775807) (v : Value) :
    ∃ w', (Instr.mapUpdate tMap (.map (some b)) (.int .i64 k) v).run Tryz.prog W = .ok () w' ∧ MapV w' b (n + 1) (updV f k v) ∧ W.grownBy w' (some b) := by
  obtain ⟨D, h1', hD, hf⟩ := h
  obtain ⟨w', hrun, hw, hg⟩ := h1'.update lawK underMap (Nat.lt_trans hn (by unfold maxLen; omega)) (keyOf_int_mk Tryz.underlying3 (wf_of h0 h1)) (d := .held v) (ps := []) (val := v) rfl
  refine ⟨w', hrun, ⟨_, hw, hD.put _ _, fun x => ?_⟩, hg⟩
  by_cases hx : x = k
  · subst hx
    rw [show (Lit.int .i64 x) = kindKey x from rfl, Maps.atKey_put_same hD (kindKey_is x)]
    simp [updV]
  · have hne : kindKey x ≠ kindKey k := fun e => hx (by unfold kindKey at e; injection e)
    rw [show (Lit.int .i64 k) = kindKey k from rfl, Maps.atKey_put_other hne, hf x]
    simp [updV, hx]
/-- Some map of few keys. -/
def MapO (W : World) (b : Nat) : Prop := ∃ n f, n < 100 ∧ MapV W b n f
/-- The world behind a store. -/
noncomputable def insW (W : World) (b : Nat) (k : Int) (v : Value) : World :=
  open Classical in if h : ∃ w', (Instr.mapUpdate tMap (.map (some b)) (.int .i64 k) v).run Tryz.prog W = .ok () w' then h.choose else W
theorem insW_of {W w' : World} {b : Nat} {k : Int} {v : Value} (h : (Instr.mapUpdate tMap (.map (some b)) (.int .i64 k) v).run Tryz.prog W = .ok () w') : insW W b k v = w' := by
  have he : ∃ w', (Instr.mapUpdate tMap (.map (some b)) (.int .i64 k) v).run Tryz.prog W = .ok () w' := ⟨w', h⟩
  have h2 : (Instr.mapUpdate tMap (.map (some b)) (.int .i64 k) v).run Tryz.prog W = .ok () he.choose := he.choose_spec
  have h3 : (Result.ok () w' : Result Unit) = .ok () he.choose := h.symm.trans h2
  have h4 : w' = he.choose := by injection h3
  unfold insW
  rw [dif_pos he]
  exact h4.symm
theorem insW_run {W : World} {b : Nat} {k : Int} {v : Value} (h : MapO W b) (h0 : -9223372036854775808 ≤ k) (h1 : k ≤ 9223372036854775807) : (Instr.mapUpdate tMap (.map (some b)) (.int .i64 k) v).run Tryz.prog W = .ok () (insW W b k v) := by
  obtain ⟨n, f, hn, hm⟩ := h
  obtain ⟨w', hr, _⟩ := hm.put hn h0 h1 v
  have e := insW_of hr
  rw [e]
  exact hr
theorem insW_is {W : World} {b n : Nat} {f : Int → Value} (h : MapV W b n f) (hn : n < 100) {k : Int} (h0 : -9223372036854775808 ≤ k) (h1 : k ≤ 9223372036854775807) (v : Value) : MapV (insW W b k v) b (n + 1) (updV f k v) ∧ W.grownBy (insW W b k v) (some b) := by
  obtain ⟨w', hr, hw, hg⟩ := h.put hn h0 h1 v
  rw [insW_of hr]
  exact ⟨hw, hg⟩

/-- The function of a list. -/
def clV (g : Nat) : Value := .func (.func 65) #[] #[.pointer (some ⟨g, 0, none⟩)]
def ListFn (L : Nat) (W : World) (g : Nat) (fs : List Fld) : Prop := fs.length ≤ 5 ∧ L ≤ g ∧ ∃ (B : Nat) (v : Value), L ≤ B ∧ W.cell? ⟨g, 0, none⟩ = some v ∧ W.ownsRow B 133 4 v fs.length (flat fs)
theorem ListFn.call {W W' : World} {L g : Nat} {fs : List Fld} (h : ListFn L W g fs) (hb : Below W.heap.size W W') : ListFn L W' g fs := by
  obtain ⟨hl, hg0, B, v, hB0, h1, h2⟩ := h
  exact ⟨hl, hg0, B, v, hB0, (hb.cell (p := ⟨g, 0, none⟩) (World.block_lt_of_cell? _ _ h1)).trans h1, row_call h2 hb⟩
theorem ListFn.drew {W : World} {L g : Nat} {fs : List Fld} (h : ListFn L W g fs) : ListFn L W.drew g fs := h
theorem ListFn.alloc {W : World} {L g : Nat} {fs : List Fld} (h : ListFn L W g fs) (o : Obj) : ListFn L (W.alloc o) g fs := h.call ((Below.refl _ _).alloc (Nat.le_refl _) o)
theorem map_obj {W : World} {b n : Nat} {f : Int → Value} (h : MapV W b n f) : ∃ es c, W.heap[b]? = some (.map es c) := by
  obtain ⟨D, ⟨es, c, h1, _⟩, _⟩ := h
  exact ⟨es, c, h1⟩
theorem lt_of_heap {W : World} {k : Nat} {o : Obj} (h : W.heap[k]? = some o) : k < W.heap.size := by
  rcases Nat.lt_or_ge k W.heap.size with h' | h'
  · exact h'
  · rw [Array.getElem?_eq_none h'] at h; cases h
theorem ListFn.ins {W W' : World} {L g b n : Nat} {f : Int → Value} {fs : List Fld} (h : ListFn L W g fs) (hm : MapV W b n f) (hg : W.grownBy W' (some b)) : ListFn L W' g fs := by
  obtain ⟨hl, hg0, B, v, hB0, h1, h2⟩ := h
  obtain ⟨es, c, hb⟩ := map_obj hm
  refine ⟨hl, hg0, B, v, hB0, hg.cell h1 (fun e => ?_), ?_⟩
  · injection e with e
    simp only at e
    subst e
    simp [World.cell?, hb] at h1
  · rcases h2 with ⟨hx, ⟨rfl, h0⟩ | ⟨q, cap, cur, rfl, hB, hq, rest⟩⟩
    · exact ⟨hx, .inl ⟨rfl, h0⟩⟩
    · refine ⟨hx, .inr ⟨q, cap, cur, rfl, hB, (hg.block q (lt_of_heap hq) (fun e => ?_)).trans hq, rest⟩⟩
      injection e with e
      subst e
      rw [hq] at hb
      cases hb
theorem listFn_call {W : World} {L g : Nat} {fs : List Fld} (h : ListFn L W g fs) (e : Ev) (i : Nat) :
    Calls Tryz.prog 65 #[.agg (evArr e), .int .i64 i, .pointer (some ⟨g, 0, none⟩)] W fun r w' => r = .returned (.tuple #[.agg (fat fs i), .bool (decide (i < fs.length))]) ∧ Below W.heap.size W w' := by
  obtain ⟨hl, hg0, B, v, hB0, h1, h2⟩ := h
  exact listCall fs v g B e i W h1 h2 hl
theorem listMake2 (fs : List Fld) (hl : fs.length ≤ 5) (h0 : 0 < fs.length) (A : Option Addr) (n c : Nat) (L : Nat) (W : World) (hn : n = fs.length) (h : W.ownsRow (L + 1) 133 4 (.slice A n c) n (flat fs)) :
    Calls Tryz.prog 64 #[.slice A n c] W fun r w' => ∃ g, r = .returned (clV g) ∧ ListFn L w' g fs ∧ Below W.heap.size W w' := by
  subst hn
  have hs : L ≤ W.heap.size := by
    rcases h.2 with ⟨he, h1⟩ | ⟨g, cap, cur, he, hB, hg, _⟩
    · injection he with _ e2
      omega
    · have := lt_of_heap hg
      omega
  refine (listMake A fs.length c W).mono ?_
  rintro r w' ⟨rfl, rfl⟩
  exact ⟨_, rfl, ⟨hl, hs, L + 1, _, by omega, (Blk.new W _ _).cell 0, h.alloc _⟩, (Below.refl _ _).alloc (Nat.le_refl _) _⟩
/-- The blocks from L on that were there are as they were. -/
structure Since (L : Nat) (W W' : World) : Prop where
  size : W.heap.size ≤ W'.heap.size
  block : ∀ k, L ≤ k → k < W.heap.size → W'.heap[k]? = W.heap[k]?
theorem Since.of {L : Nat} {W W' : World} (h : Below W.heap.size W W') : Since L W W' := ⟨h.size, fun k _ hk => h.block k hk⟩
theorem Since.trans {L : Nat} {a b c : World} (h : Since L a b) (k : Since L b c) : Since L a c := ⟨Nat.le_trans h.size k.size, fun i h1 h2 => (k.block i h1 (Nat.lt_of_lt_of_le h2 h.size)).trans (h.block i h1 h2)⟩
theorem Since.setCell {L : Nat} {a b : World} (h : Since L a b) {p : Addr} (hp : p.block < L) (u : Value) : Since L a (b.setCell p u) :=
  ⟨by simpa [World.setCell] using h.size, fun i h1 h2 => (Below.heap_setCell b p u i (by omega)).trans (h.block i h1 h2)⟩
theorem Since.cell {L : Nat} {a b : World} (h : Since L a b) {p : Addr} (hp : L ≤ p.block) {v : Value} (hc : a.cell? p = some v) : b.cell? p = some v :=
  (World.cell?_of_block (h.block p.block hp (World.block_lt_of_cell? a p hc))).trans hc
theorem ListFn.since {L : Nat} {W W' : World} {g : Nat} {fs : List Fld} (h : ListFn L W g fs) (hb : Since L W W') : ListFn L W' g fs := by
  obtain ⟨hl, hg0, B, v, hB0, h1, h2⟩ := h
  refine ⟨hl, hg0, B, v, hB0, hb.cell (p := ⟨g, 0, none⟩) hg0 h1, h2.1, ?_⟩
  rcases h2.2 with h3 | ⟨q, cap, cur, rfl, hB, hq, rest⟩
  · exact .inl h3
  · exact .inr ⟨q, cap, cur, rfl, hB, (hb.block q (by omega) (lt_of_heap hq)).trans hq, rest⟩
end Go.Proofs.YtgfmlaflochffaaGreatDoor

namespace Go.Proofs.YtgfmlaflochffaaGreatDoor
open Go.RowKit Go.Maps Go.ChangeShapes Go.WideShapes W

/-- Block b is a map that holds f. -/
def MapG (W : World) (b n : Nat) (f : Int → Option Value) : Prop :=
  ∃ D : DataW Value, W.ownsMap Tryz.prog 3 heldElem b n D ∧ IsMap D ∧ ∀ k d, D.atKey (kindKey k) d = ((f k).map DataW.held).getD d
def updG (f : Int → Option Value) (k : Int) (v : Value) : Int → Option Value := fun x => if x = k then some v else f x
def delG (f : Int → Option Value) (k : Int) : Int → Option Value := fun x => if x = k then none else f x
def noneG : Int → Option Value := fun _ => none
theorem MapG.at {W W' : World} {b n : Nat} {f : Int → Option Value} (h : MapG W b n f) (e : W'.heap[b]? = W.heap[b]?) : MapG W' b n f := by
  obtain ⟨D, ⟨es, c, h1, h2⟩, h3⟩ := h
  exact ⟨D, ⟨es, c, e.trans h1, h2⟩, h3⟩
theorem MapG.obj {W : World} {b n : Nat} {f : Int → Option Value} (h : MapG W b n f) : ∃ es c, W.heap[b]? = some (.map es c) := by
  obtain ⟨D, ⟨es, c, h1, _⟩, _⟩ := h
  exact ⟨es, c, h1⟩
theorem MapG.lt {W : World} {b n : Nat} {f : Int → Option Value} (h : MapG W b n f) : b < W.heap.size := by
  obtain ⟨es, c, h1⟩ := h.obj
  exact lt_of_heap h1
theorem MapG.below {W W' : World} {b n B : Nat} {f : Int → Option Value} (h : MapG W b n f) (hb : Below B W W') (hB : b < B) : MapG W' b n f := h.at (hb.block _ hB)
theorem MapG.call {W W' : World} {b n : Nat} {f : Int → Option Value} (h : MapG W b n f) (hb : Below W.heap.size W W') : MapG W' b n f := h.below hb h.lt
theorem MapG.alloc {W : World} {b n : Nat} {f : Int → Option Value} (h : MapG W b n f) (o : Obj) : MapG (W.alloc o) b n f := h.call ((Below.refl _ _).alloc (Nat.le_refl _) o)
theorem MapG.drew {W : World} {b n : Nat} {f : Int → Option Value} (h : MapG W b n f) : MapG W.drew b n f := h
theorem MapG.drewN {W : World} {b n : Nat} {f : Int → Option Value} (h : MapG W b n f) (m : Nat) : MapG (W.drewN m) b n f := h
theorem MapG.setCell {W : World} {b n : Nat} {f : Int → Option Value} (h : MapG W b n f) {p : Addr} {v : Value} {c : Value} (hp : W.cell? p = some c) : MapG (W.setCell p v) b n f := by
  refine h.at (Below.heap_setCell W p v b fun e => ?_)
  obtain ⟨es, k, hb⟩ := h.obj
  subst e
  simp [World.cell?, hb] at hp
theorem MapG.grown {W W' : World} {b n : Nat} {f : Int → Option Value} {ob : Option Nat} (h : MapG W b n f) (hg : W.grownBy W' ob) (hn : some b ≠ ob) : MapG W' b n f := h.at (hg.block _ h.lt hn)
theorem MapG.made (W : World) : MapG (W.alloc (.map #[] 0)) W.heap.size 0 noneG := ⟨.map [], World.ownsMap_made W _ _ _, ⟨[], rfl⟩, fun _ _ => rfl⟩
section
variable {tm te : TypeId} {z : Value} {W : World} {b n : Nat} {f : Int → Option Value} {k : Int}
theorem held_at (o : Option Value) (z : Value) : (o.map DataW.held).getD (DataW.held z) = DataW.held (o.getD z) := by cases o <;> rfl
theorem MapG.look (h : MapG W b n f) (ht : Tryz.prog.underlying tm = some (.map 3 te)) (hz : (zeroValue te).run Tryz.prog W = .ok z W) (h0 : -9223372036854775808 ≤ k) (h1 : k ≤ 9223372036854775807) :
    (Instr.lookup tm (.map (some b)) (.int .i64 k) false).run Tryz.prog W = .ok ((f k).getD z) W := by
  obtain ⟨D, h1', _, hf⟩ := h
  obtain ⟨v, ps, hrun, hv⟩ := h1'.lookup lawK ht hz (zd := .held z) (zp := []) rfl (keyOf_int_mk Tryz.underlying3 (wf_of h0 h1))
  rw [show (Lit.int .i64 k) = kindKey k from rfl, hf k, held_at] at hv
  have : v = (f k).getD z := by
    unfold heldElem at hv
    simp only [Option.some.injEq, Prod.mk.injEq, DataW.held.injEq] at hv
    exact hv.1
  rw [hrun, this]
theorem MapG.look_ok (h : MapG W b n f) (ht : Tryz.prog.underlying tm = some (.map 3 te)) (hz : (zeroValue te).run Tryz.prog W = .ok z W) (h0 : -9223372036854775808 ≤ k) (h1 : k ≤ 9223372036854775807) :
    (Instr.lookup tm (.map (some b)) (.int .i64 k) true).run Tryz.prog W = .ok (.tuple #[(f k).getD z, .bool (f k).isSome]) W := by
  obtain ⟨D, h1', _, hf⟩ := h
  obtain ⟨v, ps, hrun, hv⟩ := h1'.look_ok lawK ht hz (zd := .held z) (zp := []) rfl (keyOf_int_mk Tryz.underlying3 (wf_of h0 h1))
  rw [show (Lit.int .i64 k) = kindKey k from rfl] at hv hrun
  rw [hf k, held_at] at hv
  have e1 : v = (f k).getD z := by
    unfold heldElem at hv
    simp only [Option.some.injEq, Prod.mk.injEq, DataW.held.injEq] at hv
    exact hv.1
  have e2 : Maps.has D (kindKey k) = (f k).isSome := by
    cases hk : f k with
    | none => exact Maps.has_false_of_atKey (fun d => by rw [hf k d, hk]; rfl)
    | some y => exact Maps.has_true_of_atKey (y := .held y) (fun d => by rw [hf k d, hk]; rfl)
  rw [show (Value.int .i64 k) = Value.int .i64 k from rfl, hrun, e1, e2]
theorem MapG.put (h : MapG W b n f) (ht : Tryz.prog.underlying tm = some (.map 3 te)) (hn : n < maxLen) (h0 : -9223372036854775808 ≤ k) (h1 : k ≤ 9223372036854775807) (v : Value) :
    ∃ w', (Instr.mapUpdate tm (.map (some b)) (.int .i64 k) v).run Tryz.prog W = .ok () w' ∧ MapG w' b (n + 1) (updG f k v) ∧ W.mapTurned w' b := by
  obtain ⟨D, h1', hD, hf⟩ := h
  obtain ⟨w', hrun, hw, hg⟩ := h1'.store lawK ht hn (keyOf_int_mk Tryz.underlying3 (wf_of h0 h1)) (d := .held v) (ps := []) (val := v) rfl
  refine ⟨w', hrun, ⟨_, hw, hD.put _ _, fun x d => ?_⟩, hg⟩
  by_cases hx : x = k
  · subst hx
    rw [show (Lit.int .i64 x) = kindKey x from rfl, Maps.atKey_put_same hD (kindKey_is x)]
    simp [updG]
  · have hne : kindKey x ≠ kindKey k := fun e => hx (by unfold kindKey at e; injection e)
    rw [show (Lit.int .i64 k) = kindKey k from rfl, Maps.atKey_put_other hne, hf x]
    simp [updG, hx]
theorem MapG.drop (h : MapG W b n f) (ht : Tryz.prog.underlying tm = some (.map 3 te)) (h0 : -9223372036854775808 ≤ k) (h1 : k ≤ 9223372036854775807) (ty : TypeId) :
    ∃ w', (Builtin.delete_ #[tm, 3] ty #[.map (some b), .int .i64 k]).run Tryz.prog W = .ok (.tuple #[]) w' ∧ MapG w' b n (delG f k) ∧ W.mapTurned w' b := by
  obtain ⟨D, h1', hD, hf⟩ := h
  obtain ⟨w', hrun, hw, hg⟩ := h1'.drop lawK ht (keyOf_int_mk Tryz.underlying3 (wf_of h0 h1)) ty
  refine ⟨w', hrun, ⟨_, hw, hD.del _, fun x d => ?_⟩, hg⟩
  by_cases hx : x = k
  · subst hx
    rw [show (Lit.int .i64 x) = kindKey x from rfl, Maps.atKey_del_same]
    simp [delG]
  · have hne : kindKey x ≠ kindKey k := fun e => hx (by unfold kindKey at e; injection e)
    rw [show (Lit.int .i64 k) = kindKey k from rfl, Maps.atKey_del_other hne, hf x]
    simp [delG, hx]
set_option maxRecDepth 100000 in
theorem entry_store (ht : Tryz.prog.underlying tm = some (.map 3 te)) (hz : ∀ u : World, (zeroValue te).run Tryz.prog u = .ok z u) {es : Array MapEntry} {clock : Nat} (hb : W.heap[b]? = some (.map es clock)) {R : Value → Option (DataW Value × List MemPlace)} (F : WideElems.Fit Tryz.prog 3 R es clock)
    {key : Value} {kl : Lit} (hkey : keyOf Tryz.prog 3 key = some kl) :
    ∃ (v0 : Value) (st : Nat) (es1 : Array MapEntry) (c1 : Nat), (Instr.mapEntry tm (.map (some b)) key).run Tryz.prog W = .ok (.tuple #[v0, goInt st]) (ChangeMaps.setBlock W b (.map es1 c1)) ∧
      ∀ (w2 : World) (val : Value), w2.heap[b]? = some (.map es1 c1) → ∃ es' c', (Instr.entryStore tm (.map (some b)) (goInt st) val).run Tryz.prog w2 = .ok () (ChangeMaps.setBlock w2 b (.map es' c')) ∧
        (Instr.mapUpdate tm (.map (some b)) key val).run Tryz.prog W = .ok () (ChangeMaps.setBlock W b (.map es' c')) := by
  have K := lawK
  obtain ⟨s1, s2, _⟩ := F.stamped
  rcases K.find W hkey es.toList F.keys with ⟨h1, h2⟩ | ⟨j, e0, h1, h2, h3⟩
  · refine ⟨z, clock, es.push ⟨key, z, clock⟩, clock + 1, ?_, fun w2 val hw2 => ⟨es.push ⟨key, val, clock⟩, clock + 1, ?_, ?_⟩⟩
    · simp [Instr.mapEntry, run_underlying ht, MapKept.run_getObj_map hb, K.check W false hkey, h1, hz, MapKept.run_setObj_map _ hb, Result.andThen, ChangeMaps.setBlock]
    · have hidx : (es.push ⟨key, z, clock⟩).findIdx? (fun e => ((e.born : Nat) : Int) == ((clock : Nat) : Int)) = some es.size := by
        rw [WideElems.findIdx_arr]
        have := WideElems.findIdx_born (l := (es.push ⟨key, z, clock⟩).toList) (j := es.size) (e0 := ⟨key, z, clock⟩) (by
          simp only [Array.toList_push, List.map_append, List.map_cons, List.map_nil]
          refine List.nodup_append.2 ⟨s2, by simp, fun a ha c hc e1 => ?_⟩
          simp only [List.mem_singleton] at hc
          obtain ⟨x, hx, rfl⟩ := List.mem_map.1 ha
          have := s1 x hx
          omega) (by simp)
        exact this
      have hmod : (es.push ⟨key, z, clock⟩).modify es.size (fun e => { e with val := val }) = es.push ⟨key, val, clock⟩ := by
        apply Array.ext'
        rw [Array.toList_modify, Array.toList_push, Array.toList_push, ← Array.length_toList, WideElems.modify_last]
      simp [Instr.entryStore, MapKept.run_getObj_map hw2, asInt, asIntOf, goInt, hidx, hmod, MapKept.run_setObj_map _ hw2, Result.andThen, ChangeMaps.setBlock]
    · simp [Instr.mapUpdate, run_underlying ht, MapKept.run_getObj_map hb, K.check W false hkey, h1, MapKept.run_setObj_map _ hb, Result.andThen, ChangeMaps.setBlock]
  · have hj : es[j]? = some e0 := by simpa using h2
    have hsame : es.modify j (fun e => { e with key := key }) = es := by
      apply Array.ext'
      rw [Array.toList_modify, ChangeMaps.modify_eq_set _ _ _ _ h2]
      have : ({ e0 with key := key } : MapEntry) = e0 := by rw [← h3]
      rw [this]
      exact WideElems.set_self _ _ _ h2
    refine ⟨e0.val, e0.born, es, clock, ?_, fun w2 val hw2 => ⟨es.modify j (fun e' => { e' with key := key, val := val }), clock, ?_, ?_⟩⟩
    · simp [Instr.mapEntry, run_underlying ht, MapKept.run_getObj_map hb, K.check W false hkey, h1, hj, h3, K.stays W hkey, hsame, MapKept.run_setObj_map _ hb, Result.andThen, ChangeMaps.setBlock]
    · have hidx : es.findIdx? (fun e => ((e.born : Nat) : Int) == ((e0.born : Nat) : Int)) = some j := by
        rw [WideElems.findIdx_arr]
        exact WideElems.findIdx_born s2 h2
      have hmod : es.modify j (fun e => { e with val := val }) = es.modify j (fun e' => { e' with key := key, val := val }) := by
        apply Array.ext'
        rw [Array.toList_modify, Array.toList_modify, ChangeMaps.modify_eq_set _ _ _ _ h2, ChangeMaps.modify_eq_set _ _ _ _ h2, ← h3]
      simp [Instr.entryStore, MapKept.run_getObj_map hw2, asInt, asIntOf, goInt, hidx, hmod, MapKept.run_setObj_map _ hw2, Result.andThen, ChangeMaps.setBlock]
    · simp [Instr.mapUpdate, run_underlying ht, MapKept.run_getObj_map hb, K.check W false hkey, h1, hj, h3, K.stays W hkey, MapKept.run_setObj_map _ hb, Result.andThen, ChangeMaps.setBlock]
set_option maxRecDepth 100000 in
theorem MapG.entry (h : MapG W b n f) (ht : Tryz.prog.underlying tm = some (.map 3 te)) (hz : ∀ u : World, (zeroValue te).run Tryz.prog u = .ok z u) (hn : n < maxLen) (h0 : -9223372036854775808 ≤ k) (h1 : k ≤ 9223372036854775807) :
    ∃ (v0 : Value) (st : Nat) (es1 : Array MapEntry) (c1 : Nat), (Instr.mapEntry tm (.map (some b)) (.int .i64 k)).run Tryz.prog W = .ok (.tuple #[v0, goInt st]) (ChangeMaps.setBlock W b (.map es1 c1)) ∧
      ∀ (w2 : World) (v : Value), w2.heap[b]? = some (.map es1 c1) → ∃ es2 c2, (Instr.entryStore tm (.map (some b)) (goInt st) v).run Tryz.prog w2 = .ok () (ChangeMaps.setBlock w2 b (.map es2 c2)) ∧ MapG (ChangeMaps.setBlock w2 b (.map es2 c2)) b (n + 1) (updG f k v) := by
  have h9 := h
  obtain ⟨D, ⟨es, clock, hb, F, hs, hD'⟩, hD, hf⟩ := h
  obtain ⟨v0, st, es1, c1, hrun, hsto⟩ := entry_store ht hz hb F (keyOf_int_mk Tryz.underlying3 (wf_of h0 h1))
  refine ⟨v0, st, es1, c1, hrun, fun w2 v hw2 => ?_⟩
  obtain ⟨es', c', hr1, hr2⟩ := hsto w2 v hw2
  refine ⟨es', c', hr1, ?_⟩
  obtain ⟨w', hr3, hm, _⟩ := h9.put ht hn h0 h1 v
  rw [hr2] at hr3
  injection hr3 with _ e
  subst e
  exact hm.at ((ChangeMaps.heap_setBlock_same hw2 _).trans (ChangeMaps.heap_setBlock_same hb _).symm)
end
end Go.Proofs.YtgfmlaflochffaaGreatDoor
