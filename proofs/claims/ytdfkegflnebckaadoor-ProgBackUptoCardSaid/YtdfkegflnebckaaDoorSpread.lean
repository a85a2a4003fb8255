/-
  word.spread, Put, Size: the bytes of a number, behind any bytes. No condition but bounds on lengths.
-/
import Derived.Test.YtdfkegflnebckaaDoorMem
import Derived.Test.YtdfkegflnebckaaDoorNum
import Derived.OwnWalk
import Derived.Test.YtdfkegflnebckaaDoorProg
namespace Go.Proofs.YtdfkegflnebckaaDoor
open Go.RowKit Go.Maps W

theorem infoB : (Tryd.prog.info? 5).map (fun i => (i.zero, i.size, i.bytes)) = some (some (.int .u8 0), 1, 1) := by kernel_rfl
theorem infoS : (Tryd.prog.info? 9).map (fun i => (i.zero, i.size, i.bytes)) = some (some (.string .empty), 1, 16) := by kernel_rfl
/-- Bytes as cells. -/
def bys (l : List UInt8) : List Value := l.map fun b => Value.int .u8 (b.toNat : Int)
theorem bys_append (a b : List UInt8) : bys (a ++ b) = bys a ++ bys b := by simp [bys]
theorem bys_len (l : List UInt8) : (bys l).length = l.length := by simp [bys]
theorem bys_one (l : List UInt8) : ∀ u ∈ bys l, u.oneCell' = true := by
  intro u hu
  obtain ⟨b, _, rfl⟩ := List.mem_map.1 hu
  rfl
/-- A slice value that reads as these cells, in whatever memory. -/
def Reads (w : World) (v : Value) (xs : List Value) : Prop :=
  ∃ (A : Option Addr) (c b o : Nat), v = .slice A xs.length c ∧ (A = none → xs.length = 0 ∧ c = 0) ∧ (∀ a, A = some a → 0 < xs.length → a = ⟨b, o, none⟩) ∧ xs.length ≤ c ∧ ∀ j u, xs[j]? = some u → w.cell? ⟨b, o + j, none⟩ = some u
theorem Reads.below {w w' : World} {v : Value} {xs : List Value} (h : Reads w v xs) {B : Nat} (hb : Below B w w') (hB : w.heap.size ≤ B) : Reads w' v xs := by
  obtain ⟨A, c, b, o, h1, h2, h3, h4, h5⟩ := h
  refine ⟨A, c, b, o, h1, h2, h3, h4, fun j u hj => ?_⟩
  have hc := h5 j u hj
  have hlt : b < w.heap.size := World.block_lt_of_cell? w _ hc
  exact (hb.cell (p := ⟨b, o + j, none⟩) (show b < B by omega)).trans hc
theorem Reads.nil (w : World) : Reads w (.slice none 0 0) [] := ⟨none, 0, 0, 0, rfl, fun _ => ⟨rfl, rfl⟩, by simp, Nat.le_refl _, by simp⟩
theorem reads_of_row {w : World} {base e n : Nat} {v : Value} {xs : List Value} (h : w.ownsRow base e 1 v n xs) : Reads w v xs := by
  rcases row_cases h with ⟨rfl, rfl, rfl⟩ | ⟨g, cap, rfl, h1, _, hx, _, hc, _⟩
  · exact Reads.nil w
  · refine ⟨some ⟨g, 0, none⟩, cap, g, 0, by rw [hx], by simp, fun a ha _ => by injection ha with ha; exact ha.symm, by omega, fun j u hj => ?_⟩
    have hl : j < xs.length := (List.getElem?_eq_some_iff.1 hj).1
    rw [Nat.zero_add, hc j (by omega), hj]

theorem or128 (k : Nat) : bits BinOp.or IntKind.u8 ((k : Int) % 256) 128 = ((UInt8.ofNat (k % 128 + 128)).toNat : Int) := by
  have h : ∀ m : Fin 256, bits BinOp.or IntKind.u8 ((m.val : Nat) : Int) 128 = ((UInt8.ofNat (m.val % 128 + 128)).toNat : Int) := by decide +kernel
  have e : ((k : Int) % 256) = ((k % 256 : Nat) : Int) := by omega
  have h1 := h ⟨k % 256, by omega⟩
  simp only at h1
  rw [e, h1]
  congr 3
  omega
theorem low256 {k : Nat} (h : k < 128) : (k : Int) = ((UInt8.ofNat k).toNat : Int) := by
  rw [ofNat_toNat (by omega)]
theorem grown_below {B : Nat} {w wr w2 : World} {o : Obj} {v : Value} {base e size n : Nat} {xs : List Value} (hb : Below B w wr) (hB : B ≤ wr.heap.size) (hown : wr.ownsRow base e size v n xs) (hbase : B ≤ base) (hg : (wr.alloc o).grownBy w2 v.ownBlock) : Below B w w2 :=
  (hb.alloc hB _).grown hg (by simp; omega) (fun x hx => Nat.le_trans hbase (row_own hown hx).1)

end Go.Proofs.YtdfkegflnebckaaDoor
