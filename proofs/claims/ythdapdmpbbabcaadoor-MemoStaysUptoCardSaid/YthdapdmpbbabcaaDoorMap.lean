/-
  A map from integers or texts to integers, told as a function: what it holds at each key, and how many keys it has. No condition.
-/
import Derived.Test.YthdapdmpbbabcaaDoorMem
import Derived.Maps.OwnSet
import Derived.Maps.OwnOps
import Derived.StringKeys
namespace Go.Proofs.YthdapdmpbbabcaaDoor
open Go.RowKit Go.Maps

/-- Block b is a map of n keys, which holds f. kl: how a key reads. -/
def MapAt {κ : Type} (P : Program) (K E : TypeId) (kl : κ → Lit) (w : World) (b n : Nat) (f : κ → Option Int) : Prop :=
  ∃ D : DataW Unit, w.ownsMap P K (plainElem P E) b n D ∧ Maps.size D = n ∧ ∀ x, Maps.has D (kl x) = (f x).isSome ∧ D.atKey (kl x) (.lit (.int .i64 0)) = .lit (.int .i64 ((f x).getD 0))

def upd {κ : Type} [DecidableEq κ] (f : κ → Option Int) (x : κ) (v : Int) : κ → Option Int := fun y => if y = x then some v else f y

section
variable {κ : Type} {P : Program} {K E : TypeId} {kl : κ → Lit} {w w' : World} {b n : Nat} {f : κ → Option Int}
theorem MapAt.lt (h : MapAt P K E kl w b n f) : b < w.heap.size := by obtain ⟨D, h1, _⟩ := h; exact h1.lt
theorem MapAt.only {S : List Nat} (h : MapAt P K E kl w b n f) (hb : Only S w w') (hn : b ∉ S) : MapAt P K E kl w' b n f := by
  obtain ⟨D, h1, h2⟩ := h
  exact ⟨D, map_only h1 hb hn, h2⟩
theorem MapAt.alloc (h : MapAt P K E kl w b n f) (o : Obj) : MapAt P K E kl (w.alloc o) b n f := by
  obtain ⟨D, h1, h2⟩ := h
  exact ⟨D, h1.alloc o, h2⟩
theorem MapAt.drew (h : MapAt P K E kl w b n f) : MapAt P K E kl w.drew b n f := h
theorem MapAt.grown {row : Option Nat} (h : MapAt P K E kl w b n f) (hg : w.grownBy w' row) (hne : some b ≠ row) : MapAt P K E kl w' b n f := by
  obtain ⟨D, h1, h2⟩ := h
  exact ⟨D, h1.kept hg hne, h2⟩
theorem MapAt.setCell (h : MapAt P K E kl w b n f) {a : Addr} (ha : b ≠ a.block) (u : Value) : MapAt P K E kl (w.setCell a u) b n f := by
  obtain ⟨D, h1, h2⟩ := h
  exact ⟨D, h1.setCell ha u, h2⟩
theorem MapAt.apart {g : Nat} {t : TypeId} {cs : Array Value} (h : MapAt P K E kl w b n f) (hB : Blk w g t cs) : g ≠ b := by
  obtain ⟨D, h1, _⟩ := h
  exact hB.apartMap h1
theorem MapAt.apartRow {base : Nat} {e : TypeId} {size m : Nat} {v : Value} {xs : List Value} (h : MapAt P K E kl w b n f) (ho : w.ownsRow base e size v m xs) : v.ownBlock ≠ some b := by
  obtain ⟨D, ⟨es, clock, hb, _⟩, _⟩ := h
  rcases ho.2 with ⟨rfl, _⟩ | ⟨g', cap, cur, rfl, _, hh, _⟩
  · simp [Value.ownBlock]
  · intro he
    have : g' = b := by simpa [Value.ownBlock] using he
    subst this
    rw [hh] at hb
    cases hb
theorem MapAt.made (P : Program) (K E : TypeId) (kl : κ → Lit) (w : World) : MapAt P K E kl (w.alloc (.map #[] 0)) w.heap.size 0 (fun _ => none) :=
  ⟨.map [], World.ownsMap_made w P K _, rfl, fun _ => ⟨rfl, rfl⟩⟩

theorem MapAt.store [DecidableEq κ] {D : DataW Unit} {x : κ} {v : Int} (hinj : ∀ y z, kl y = kl z → y = z) (hk : ∀ y, WideAt.IsKeyLit (kl y)) (hx : f x = none)
    (hD : w.ownsMap P K (plainElem P E) b n D) (hs : Maps.size D = n) (hf : ∀ x, Maps.has D (kl x) = (f x).isSome ∧ D.atKey (kl x) (.lit (.int .i64 0)) = .lit (.int .i64 ((f x).getD 0)))
    (law : Keyed P K) (h1 : w'.ownsMap P K (plainElem P E) b (n + 1) (D.put (kl x) (.lit (.int .i64 v)))) : MapAt P K E kl w' b (n + 1) (upd f x v) := by
  refine ⟨_, h1, ?_, fun y => ?_⟩
  · rw [Maps.size_put (hD.tidy law), (hf x).1, hx, hs]
    rfl
  · by_cases hy : y = x
    · subst hy
      rw [Maps.has_put_same hD.isMap (hk y), Maps.atKey_put_same hD.isMap (hk y)]
      simp [upd]
    · have hne : kl y ≠ kl x := fun e => hy (hinj _ _ e)
      rw [Maps.has_put_other hne, Maps.atKey_put_other hne]
      simpa [upd, hy] using hf y
end

theorem MapAt.update {κ : Type} [DecidableEq κ] {P : Program} {K E t : TypeId} {kl : κ → Lit} {w : World} {b n : Nat} {f : κ → Option Int} (h : MapAt P K E kl w b n f) (hinj : ∀ y z, kl y = kl z → y = z) (hk : ∀ y, WideAt.IsKeyLit (kl y))
    (law : Keyed P K) (ht : P.underlying t = some (.map K E)) (he : P.underlying E = some (.int .i64)) (hn : n < maxLen) {key : Value} {k : κ} {v : Int} (hkey : keyOf P K key = some (kl k)) (hwf : (Lit.int .i64 v).wf = true) (hnew : f k = none) :
    ∃ w', (Instr.mapUpdate t (.map (some b)) key (.int .i64 v)).run P w = .ok () w' ∧ MapAt P K E kl w' b (n + 1) (upd f k v) ∧ w.grownBy w' (some b) := by
  obtain ⟨D, h1, h2, hf⟩ := h
  obtain ⟨w', hr, hw', hg⟩ := h1.update law ht hn hkey (plainElem_int he hwf)
  exact ⟨w', hr, MapAt.store hinj hk hnew h1 h2 hf law hw', hg⟩

instance lawfulBytes : LawfulBEq ByteArray where
  eq_of_beq {a b} h := by
    cases a with | mk a => cases b with | mk b =>
    have h' : (a == b) = true := h
    rw [beq_iff_eq] at h'
    rw [h']
  rfl {a} := by
    cases a with | mk a =>
    show (a == a) = true
    simp

/-- The reading of a key: integers, texts. -/
def intKey (x : Int) : Lit := .int .i64 x
def strKey (s : ByteArray) : Lit := .string s.data.toList
theorem intKey_inj (x y : Int) (h : intKey x = intKey y) : x = y := by unfold intKey at h; injection h
theorem strKey_inj (x y : ByteArray) (h : strKey x = strKey y) : x = y := by
  unfold strKey at h
  injection h with h
  cases x with | mk a => cases y with | mk b => cases a; cases b; simp at h; subst h; rfl
theorem intKey_is (y : Int) : WideAt.IsKeyLit (intKey y) := by simp [WideAt.IsKeyLit, intKey]
theorem strKey_is (y : ByteArray) : WideAt.IsKeyLit (strKey y) := by simp [WideAt.IsKeyLit, strKey]

section
variable {κ : Type} {P : Program} (w : World) {ops : Array Oper} {rest : List Oper} {o : Oper} {a : Act} {Q : Exit → Act → World → Prop}
/-- 'v, ok := m[k]' at the operation. -/
theorem wpList_look (hg : o.guard = none) (m x : Operand) (t : TypeId) (hop : o.op = Op.lookup t m x true)
    (K E : TypeId) (kl : κ → Lit) (law : Keyed P K) (ht : P.underlying t = some (.map K E)) (he : P.underlying E = some (.int .i64)) (hz : (zeroValue E).run P w = .ok (.int .i64 0) w)
    (b n : Nat) (f : κ → Option Int) (hm : a.eval m = .map (some b)) (h : MapAt P K E kl w b n f) (key : Value) (k : κ) (hx : a.eval x = key) (hkey : keyOf P K key = some (kl k))
    (hK : wpList P ops Q rest (a.put o.dst (.tuple #[.int .i64 ((f k).getD 0), .bool (f k).isSome])) w) : wpList P ops Q (o :: rest) a w := by
  obtain ⟨D, h1, _, hf⟩ := h
  refine wpList_lookup_own_ok_int w hg m x t hop K E .i64 law ht he hz b n D hm h1 key (kl k) hx hkey ?_
  intro c hc _
  obtain ⟨f1, f2⟩ := hf k
  rw [f2] at hc
  injection hc with hc
  injection hc with _ hc
  rw [f1, ← hc]
  exact hK
/-- 'm[k] = v' at a key that is not there yet. -/
theorem wpList_put [DecidableEq κ] (hg : o.guard = none) (m x y : Operand) (t : TypeId) (hop : o.op = Op.mapUpdate t m x y)
    (K E : TypeId) (kl : κ → Lit) (hinj : ∀ y z, kl y = kl z → y = z) (hk : ∀ y, WideAt.IsKeyLit (kl y)) (law : Keyed P K) (ht : P.underlying t = some (.map K E)) (he : P.underlying E = some (.int .i64))
    (b n : Nat) (f : κ → Option Int) (hm : a.eval m = .map (some b)) (h : MapAt P K E kl w b n f) (hn : n < maxLen) (key : Value) (k : κ) (v : Int) (hx : a.eval x = key) (hv : a.eval y = .int .i64 v) (hkey : keyOf P K key = some (kl k))
    (hwf : (Lit.int .i64 v).wf = true) (hnew : f k = none)
    (hK : ∀ w', MapAt P K E kl w' b (n + 1) (upd f k v) → w.grownBy w' (some b) → wpList P ops Q rest (a.put o.dst undef) w') : wpList P ops Q (o :: rest) a w := by
  obtain ⟨D, h1, h2, hf⟩ := h
  refine wpList_mapUpdate_own w hg m x y t hop K E law ht _ b n D hm h1 hn key _ (kl k) hx hv hkey _ [] (plainElem_int he hwf) ?_
  intro w' hw' hgr
  exact hK w' (MapAt.store hinj hk hnew h1 h2 hf law hw') hgr
/-- 'len(m)'. -/
theorem wpList_size (hg : o.guard = none) (m : Operand) (t : TypeId) (hop : o.op = Op.call { callee := Callee.builtin Builtin.len, args := #[m], argTypes := #[t] })
    (K E : TypeId) (kl : κ → Lit) (ht : P.underlying t = some (.map K E)) (b n : Nat) (f : κ → Option Int) (hm : a.eval m = .map (some b)) (h : MapAt P K E kl w b n f)
    (hK : wpList P ops Q rest (a.put o.dst (.int .i64 n)) w) : wpList P ops Q (o :: rest) a w := by
  obtain ⟨D, h1, h2, hf⟩ := h
  refine wpList_len_own w hg m t hop K E ht _ b n D hm h1 ?_
  rw [h2]
  exact hK
end
end Go.Proofs.YthdapdmpbbabcaaDoor
