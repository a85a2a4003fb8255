/-
  Plain words for memory that the walks of this seat use: which blocks a call may have turned, a block that is known whole, a row of cells that a slice value owns. No condition.
  word.spread, Put, Size: the bytes of a number, behind any bytes. No condition but bounds on lengths.
  An append that fits, whatever is appended, as one step of a region that draws its order.
-/
import Derived.WalkKit
import Derived.Maps.OwnSet
import Derived.Maps.AppendAt
import Derived.Deep.Draws
import Derived.Test.YtgfmlaflochffaaGreatDoorEvAZ
import Derived.OwnWalk
import Derived.Test.YtgfmlaflochffaaGreatDoorProg
import Derived.Deep.AppendLies
namespace Go.Proofs.YtgfmlaflochffaaGreatDoor
open Go.RowKit

/-- A fact kept from the walk. -/
theorem hid {p : Prop} (h : p) : Hid p := h

/-- Of the blocks that were there at most those of S have turned; none has gone. -/
structure Only (S : List Nat) (w w' : World) : Prop where
  os : w'.os = w.os
  tape : w'.tape = w.tape
  output : w'.output = w.output
  size : w.heap.size ≤ w'.heap.size
  block : ∀ k, k < w.heap.size → k ∉ S → w'.heap[k]? = w.heap[k]?

section
variable {S T : List Nat} {a b c w w' : World}
theorem Only.refl (S : List Nat) (w : World) : Only S w w := ⟨rfl, rfl, rfl, Nat.le_refl _, fun _ _ _ => rfl⟩
theorem Only.trans (h : Only S a b) (k : Only T b c) (hT : ∀ x ∈ T, x ∈ S ∨ a.heap.size ≤ x) : Only S a c :=
  ⟨k.os.trans h.os, k.tape.trans h.tape, k.output.trans h.output, Nat.le_trans h.size k.size, fun i hi hn =>
    (k.block i (Nat.lt_of_lt_of_le hi h.size) (fun hm => (hT i hm).elim hn (fun hle => by omega))).trans (h.block i hi hn)⟩
theorem Only.mono (h : Only S a b) (hS : ∀ x ∈ S, x ∈ T ∨ a.heap.size ≤ x) : Only T a b :=
  ⟨h.os, h.tape, h.output, h.size, fun i hi hn => h.block i hi (fun hm => (hS i hm).elim hn (fun hle => by omega))⟩
theorem Only.drew (h : Only S a w) : Only S a w.drew := ⟨h.os, h.tape, h.output, h.size, h.block⟩
theorem Only.drewN (h : Only S a w) (n : Nat) : Only S a (w.drewN n) := ⟨h.os, h.tape, h.output, h.size, h.block⟩
theorem Only.alloc (h : Only S a w) (o : Obj) : Only S a (w.alloc o) :=
  ⟨h.os, h.tape, h.output, Nat.le_trans h.size (by simp), fun i hi hn => (Below.heap_alloc w o i (Nat.lt_of_lt_of_le hi h.size)).trans (h.block i hi hn)⟩
theorem Only.setCell (h : Only S a w) {p : Addr} (hp : p.block ∈ S ∨ a.heap.size ≤ p.block) (u : Value) : Only S a (w.setCell p u) :=
  ⟨h.os, h.tape, h.output, by simpa [World.setCell] using h.size, fun i hi hn => (Below.heap_setCell w p u i (by
    rintro rfl
    rcases hp with hp | hp
    · exact hn hp
    · omega)).trans (h.block i hi hn)⟩
theorem Only.grown {row : Option Nat} (h : Only S a w) (hg : w.grownBy w' row) (hr : ∀ k, row = some k → k ∈ S ∨ a.heap.size ≤ k) : Only S a w' :=
  ⟨hg.os.trans h.os, hg.tape.trans h.tape, hg.output.trans h.output, Nat.le_trans h.size hg.size, fun i hi hn =>
    (hg.block i (Nat.lt_of_lt_of_le hi h.size) (fun e => (hr i e.symm).elim hn (fun hle => by omega))).trans (h.block i hi hn)⟩
theorem Only.below_of {B : Nat} (h : Only S a b) (hB : B ≤ a.heap.size) (hS : ∀ x ∈ S, B ≤ x) : Below B a b :=
  ⟨h.os, h.tape, h.output, h.size, fun i hi => h.block i (by omega) (fun hm => by have := hS i hm; omega)⟩
theorem Only.of_below {B : Nat} (h : Below B a b) (hB : a.heap.size ≤ B) : Only S a b := ⟨h.os, h.tape, h.output, h.size, fun i hi _ => h.block i (by omega)⟩
theorem Only.cell (h : Only S a b) {p : Addr} {v : Value} (hc : a.cell? p = some v) (hn : p.block ∉ S) : b.cell? p = some v :=
  (World.cell?_of_block (h.block p.block (World.block_lt_of_cell? a p hc) hn)).trans hc
theorem below_only {B : Nat} (h : Below B a b) (k : Only S b c) (hB : B ≤ b.heap.size) (hS : ∀ x ∈ S, B ≤ x) : Below B a c := h.trans (k.below_of hB hS)
end

/-- Block g is just these cells of element type t, none of them frozen. -/
def Blk (w : World) (g : Nat) (t : TypeId) (cs : Array Value) : Prop := w.heap[g]? = some (.cells cs t (0, 0))

section
variable {S : List Nat} {w w' : World} {g : Nat} {t : TypeId} {cs : Array Value}
theorem Blk.lt (h : Blk w g t cs) : g < w.heap.size := by
  rcases Nat.lt_or_ge g w.heap.size with hlt | hge
  · exact hlt
  · unfold Blk at h; rw [Array.getElem?_eq_none hge] at h; cases h
theorem Blk.cell (h : Blk w g t cs) (i : Nat) : w.cell? ⟨g, i, none⟩ = cs[i]? := cell_of_row w g i cs t (0, 0) h
theorem Blk.frozen (h : Blk w g t cs) (i : Nat) : w.frozen? ⟨g, i, none⟩ = false := by
  unfold Blk at h
  simp [World.frozen?, h]
theorem Blk.new (w : World) (t : TypeId) (cs : Array Value) : Blk (w.alloc (.cells cs t)) w.heap.size t cs := heap_alloc_new w _
theorem Blk.drew (h : Blk w g t cs) : Blk w.drew g t cs := h
theorem Blk.drewN (h : Blk w g t cs) (n : Nat) : Blk (w.drewN n) g t cs := h
theorem Blk.alloc (h : Blk w g t cs) (o : Obj) : Blk (w.alloc o) g t cs := (Below.heap_alloc w o g h.lt).trans h
theorem Blk.put (h : Blk w g t cs) (i : Nat) (u : Value) : Blk (w.setCell ⟨g, i, none⟩ u) g t (cs.setIfInBounds i u) := by
  unfold Blk at h ⊢
  simp [World.setCell, Array.getElem?_modify, h]
theorem Blk.far (h : Blk w g t cs) {p : Addr} (hp : g ≠ p.block) (u : Value) : Blk (w.setCell p u) g t cs := (Below.heap_setCell w p u g hp).trans h
theorem Blk.below {B : Nat} (h : Blk w g t cs) (hb : Below B w w') (hg : g < B) : Blk w' g t cs := (hb.block g hg).trans h
theorem Blk.grown {row : Option Nat} (h : Blk w g t cs) (hb : w.grownBy w' row) (hg : some g ≠ row) : Blk w' g t cs := (hb.block g h.lt hg).trans h
theorem Blk.only (h : Blk w g t cs) (hb : Only S w w') (hg : g ∉ S) : Blk w' g t cs := (hb.block g h.lt hg).trans h
theorem Blk.apart {g' : Nat} {t' : TypeId} {cs' : Array Value} (h : Blk w g t cs) (h' : Blk w g' t' cs') (hne : t ≠ t') : g ≠ g' := by
  rintro rfl
  unfold Blk at h h'
  rw [h] at h'
  injection h' with h'
  injection h' with _ ht
  exact hne ht
theorem Blk.apartMap {H : Type} {P : Program} {k : TypeId} {R : Value → Option (DataW H × List MemPlace)} {b n : Nat} {D : DataW H} (h : Blk w g t cs) (hm : w.ownsMap P k R b n D) : g ≠ b := by
  rintro rfl
  obtain ⟨es, clock, hb, _⟩ := hm
  unfold Blk at h
  rw [h] at hb
  cases hb
theorem Blk.apartRow {base : Nat} {e : TypeId} {size n : Nat} {v : Value} {xs : List Value} (h : Blk w g t cs) (ho : w.ownsRow base e size v n xs) (hne : e ≠ t) : v.ownBlock ≠ some g := by
  rcases ho.2 with ⟨rfl, _⟩ | ⟨g', cap, cur, rfl, _, hh, _⟩
  · simp [Value.ownBlock]
  · intro he
    have : g' = g := by simpa [Value.ownBlock] using he
    subst this
    exact Blk.apart (t := e) hh h hne rfl
end

section
variable {S : List Nat} {w w' : World} {base : Nat} {e : TypeId} {size n : Nat} {v : Value} {xs : List Value}
theorem row_only (h : w.ownsRow base e size v n xs) (hb : Only S w w') (hn : ∀ g, v.ownBlock = some g → g ∉ S) : w'.ownsRow base e size v n xs := by
  refine ⟨h.1, ?_⟩
  rcases h.2 with h0 | ⟨g, cap, cur, rfl, hg, hgg, rest⟩
  · exact .inl h0
  · exact .inr ⟨g, cap, cur, rfl, hg, (hb.block g (Array.getElem?_eq_some_iff.1 hgg).1 (hn g rfl)).trans hgg, rest⟩
theorem row_far (h : w.ownsRow base e size v n xs) {p : Addr} (hp : v.ownBlock ≠ some p.block) (u : Value) : (w.setCell p u).ownsRow base e size v n xs := by
  refine ⟨h.1, ?_⟩
  rcases h.2 with h0 | ⟨g, cap, cur, rfl, hg, hgg, rest⟩
  · exact .inl h0
  · refine .inr ⟨g, cap, cur, rfl, hg, (Below.heap_setCell w p u g (fun e => hp (by simp [Value.ownBlock, e]))).trans hgg, rest⟩
theorem row_drewN (h : w.ownsRow base e size v n xs) (k : Nat) : (w.drewN k).ownsRow base e size v n xs := h
theorem row_cases (h : w.ownsRow base e 1 v n xs) : (v = .slice none 0 0 ∧ n = 0 ∧ xs = []) ∨ (∃ g cap, v = .slice (some ⟨g, 0, none⟩) n cap ∧ n ≤ cap ∧ cap ≤ maxLen ∧ xs.length = n ∧ g < w.heap.size ∧
    (∀ j, j < n → w.cell? ⟨g, j, none⟩ = xs[j]?) ∧ (∀ j, w.frozen? ⟨g, j, none⟩ = false)) := by
  have hl : xs.length = n := by simpa using h.1
  rcases h.2 with ⟨rfl, rfl⟩ | ⟨g, cap, cur, rfl, hb, hg, hn, hc, hs, ht⟩
  · exact .inl ⟨rfl, rfl, List.eq_nil_of_length_eq_zero hl⟩
  · refine .inr ⟨g, cap, rfl, hn, hc, hl, (Array.getElem?_eq_some_iff.1 hg).1, fun j hj => ?_, fun j => ?_⟩
    · exact World.ownsRow.cellAt h j (by omega)
    · exact World.ownsRow.frozenAt h j
theorem row_base {base' : Nat} (h : w.ownsRow base e size v n xs) (hb : base' ≤ base) : w.ownsRow base' e size v n xs := by
  refine ⟨h.1, ?_⟩
  rcases h.2 with h0 | ⟨g, cap, cur, rfl, hg, rest⟩
  · exact .inl h0
  · exact .inr ⟨g, cap, cur, rfl, Nat.le_trans hb hg, rest⟩
theorem row_shape (h : w.ownsRow base e size v n xs) : ∃ A cap, v = .slice A n cap := by
  rcases h.2 with ⟨rfl, rfl⟩ | ⟨g, cap, cur, rfl, _⟩
  · exact ⟨none, 0, rfl⟩
  · exact ⟨_, _, rfl⟩
theorem row_own (h : w.ownsRow base e size v n xs) {g : Nat} (hg : v.ownBlock = some g) : base ≤ g ∧ g < w.heap.size := h.lt g hg
theorem map_only {H : Type} {P : Program} {k : TypeId} {R : Value → Option (DataW H × List MemPlace)} {b m : Nat} {D : DataW H} (h : w.ownsMap P k R b m D) (hb : Only S w w') (hn : b ∉ S) : w'.ownsMap P k R b m D := by
  have hlt := h.lt
  obtain ⟨es, clock, hg, F, hs, hD⟩ := h
  exact ⟨es, clock, (hb.block b hlt hn).trans hg, F, hs, hD⟩
end
end Go.Proofs.YtgfmlaflochffaaGreatDoor

namespace Go.Proofs.YtgfmlaflochffaaGreatDoor
open Go.RowKit Go.Maps W

theorem infoB : (Tryz.prog.info? 5).map (fun i => (i.zero, i.size, i.bytes)) = some (some (.int .u8 0), 1, 1) := by kernel_rfl
theorem infoS : (Tryz.prog.info? 9).map (fun i => (i.zero, i.size, i.bytes)) = some (some (.string .empty), 1, 16) := by kernel_rfl
/-- Bytes as cells. -/
def bys (l : List UInt8) : List Value := l.map fun b => Value.int .u8 (b.toNat : Int)
theorem bys_append (a b : List UInt8) : bys (a ++ b) = bys a ++ bys b := by simp [bys]
theorem bys_len (l : List UInt8) : (bys l).length = l.length := by simp [bys]
theorem bys_one (l : List UInt8) : ∀ u ∈ bys l, u.oneCell' = true := by
  intro u hu
  obtain ⟨b, _, rfl⟩ := List.mem_map.1 hu
  rfl
/-- A slice value that reads as these cells, in whatever memory. -/
def Reads (w : World) (v : Value) (xs : List Value) : Prop :=
  ∃ (A : Option Addr) (c b o : Nat), v = .slice A xs.length c ∧ (A = none → xs.length = 0 ∧ c = 0) ∧ (∀ a, A = some a → 0 < xs.length → a = ⟨b, o, none⟩) ∧ xs.length ≤ c ∧ ∀ j u, xs[j]? = some u → w.cell? ⟨b, o + j, none⟩ = some u
theorem Reads.below {w w' : World} {v : Value} {xs : List Value} (h : Reads w v xs) {B : Nat} (hb : Below B w w') (hB : w.heap.size ≤ B) : Reads w' v xs := by
  obtain ⟨A, c, b, o, h1, h2, h3, h4, h5⟩ := h
  refine ⟨A, c, b, o, h1, h2, h3, h4, fun j u hj => ?_⟩
  have hc := h5 j u hj
  have hlt : b < w.heap.size := World.block_lt_of_cell? w _ hc
  exact (hb.cell (p := ⟨b, o + j, none⟩) (show b < B by omega)).trans hc
theorem Reads.nil (w : World) : Reads w (.slice none 0 0) [] := ⟨none, 0, 0, 0, rfl, fun _ => ⟨rfl, rfl⟩, by simp, Nat.le_refl _, by simp⟩
theorem reads_of_row {w : World} {base e n : Nat} {v : Value} {xs : List Value} (h : w.ownsRow base e 1 v n xs) : Reads w v xs := by
  rcases row_cases h with ⟨rfl, rfl, rfl⟩ | ⟨g, cap, rfl, h1, _, hx, _, hc, _⟩
  · exact Reads.nil w
  · refine ⟨some ⟨g, 0, none⟩, cap, g, 0, by rw [hx], by simp, fun a ha _ => by injection ha with ha; exact ha.symm, by omega, fun j u hj => ?_⟩
    have hl : j < xs.length := (List.getElem?_eq_some_iff.1 hj).1
    rw [Nat.zero_add, hc j (by omega), hj]

theorem or128 (k : Nat) : bits BinOp.or IntKind.u8 ((k : Int) % 256) 128 = ((UInt8.ofNat (k % 128 + 128)).toNat : Int) := by
  have h : ∀ m : Fin 256, bits BinOp.or IntKind.u8 ((m.val : Nat) : Int) 128 = ((UInt8.ofNat (m.val % 128 + 128)).toNat : Int) := by decide +kernel
  have e : ((k : Int) % 256) = ((k % 256 : Nat) : Int) := by omega
  have h1 := h ⟨k % 256, by omega⟩
  simp only at h1
  rw [e, h1]
  congr 3
  omega
theorem low256 {k : Nat} (h : k < 128) : (k : Int) = ((UInt8.ofNat k).toNat : Int) := by
  rw [ofNat_toNat (by omega)]
theorem grown_below {B : Nat} {w wr w2 : World} {o : Obj} {v : Value} {base e size n : Nat} {xs : List Value} (hb : Below B w wr) (hB : B ≤ wr.heap.size) (hown : wr.ownsRow base e size v n xs) (hbase : B ≤ base) (hg : (wr.alloc o).grownBy w2 v.ownBlock) : Below B w w2 :=
  (hb.alloc hB _).grown hg (by simp; omega) (fun x hx => Nat.le_trans hbase (row_own hown hx).1)

end Go.Proofs.YtgfmlaflochffaaGreatDoor

namespace Go.Proofs.YtgfmlaflochffaaGreatDoor
open Go.RowKit

theorem step_append_fits_any {P : Program} {ops : Array Oper} {o : Oper} {a : Act} {w : World} {K : Act → World → Prop} {Q : Exit → Act → World → Prop} {E : Prop} (hgd : o.guard = none) (s x : Operand) (t : TypeId)
    (ho : o.op = .call { callee := .builtin .append, args := #[s, x], argTypes := #[t, t] })
    (base : Nat) (e : TypeId) (i : TypeInfo) (size : Nat) (ht : P.underlying t = some (.slice e)) (hi : P.info? e = some i) (hsize : i.size = size)
    (g k cap : Nat) (xs : List Value) (hs : a.eval s = .slice (some ⟨g, 0, none⟩) k cap) (hown : w.ownsRow base e size (.slice (some ⟨g, 0, none⟩) k cap) k xs)
    (ao : Option Addr) (m c : Nat) (news : List Value) (hx : a.eval x = .slice ao m c) (hl : news.length = m * size) (hnone : ao = none → m = 0 ∧ c = 0) (hc : ∀ ad, ao = some ad → ∀ j u, news[j]? = some u → w.cell? (ad.add j) = some u) (h1 : ∀ u ∈ news, u.oneCell' = true)
    (b1 : k + m ≤ cap)
    (h : ∀ w', w'.ownsRow base e size (.slice (some ⟨g, 0, none⟩) (k + m) cap) (k + m) (xs ++ news) → w.grownBy w' (some g) → K (a.put o.dst (.slice (some ⟨g, 0, none⟩) (k + m) cap)) w') :
    if Region.wanted o (yielded ops a.tmps) = true then Oper.wp P o a w K Q else E := by
  have hw : Region.wanted o (yielded ops a.tmps) = true := by simp [Region.wanted, hgd]
  rw [if_pos hw]
  cases ao with
  | some ad =>
    obtain ⟨w', hrun, ho', hg'⟩ := run_append_fits w base t o.type e i size ht hi hsize g k cap xs hown ad m c news hl (hc ad rfl) h1 b1
    unfold Oper.wp
    simp [execOp, ho, resolve, invoke, builtin, hs, hx, hrun, Result.andThen]
    exact h w' ho' hg'
  | none =>
    obtain ⟨rfl, rfl⟩ := hnone rfl
    have hnews : news = [] := List.eq_nil_of_length_eq_zero (by simpa using hl)
    subst hnews
    have hrun := run_append_owned_none (P := P) w base t o.type e i size ht hi _ k xs hown
    unfold Oper.wp
    simp [execOp, ho, resolve, invoke, builtin, hs, hx, hrun, Result.andThen]
    have h9 := h w (by simpa using hown) (World.grownBy.refl _ _)
    simp only [Nat.add_zero] at h9
    exact h9
end Go.Proofs.YtgfmlaflochffaaGreatDoor
