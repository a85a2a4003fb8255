/-
  word.spread, Put, Size: the bytes of a number, behind any bytes. No condition but bounds on lengths.
-/
import Derived.Test.YtdinjplbbmhleaaDoorMem
import Derived.Test.YtdinjplbbmhleaaDoorNum
import Derived.OwnWalk
import Derived.Test.YtdinjplbbmhleaaDoorProg
namespace Go.Proofs.YtdinjplbbmhleaaDoor
open Go.RowKit Go.Maps W

theorem infoB : (Tryd.prog.info? 5).map (fun i => (i.zero, i.size, i.bytes)) = some (some (.int .u8 0), 1, 1) := by kernel_rfl
theorem infoS : (Tryd.prog.info? 9).map (fun i => (i.zero, i.size, i.bytes)) = some (some (.string .empty), 1, 16) := by kernel_rfl
/-- Bytes as cells. -/
def bys (l : List UInt8) : List Value := l.map fun b => Value.int .u8 (b.toNat : Int)
theorem bys_append (a b : List UInt8) : bys (a ++ b) = bys a ++ bys b := by simp [bys]
theorem bys_len (l : List UInt8) : (bys l).length = l.length := by simp [bys]
theorem bys_one (l : List UInt8) : ∀ u ∈ bys l, u.oneCell' = true := by
  intro u hu
  obtain ⟨b, _, rfl⟩ := List.mem_map.1 hu
  rfl
/-- A slice value that reads as these cells, in whatever memory. -/
def Reads (w : World) (v : Value) (xs : List Value) : Prop :=
  ∃ (A : Option Addr) (c b o : Nat), v = .slice A xs.length c ∧ (A = none → xs.length = 0 ∧ c = 0) ∧ (∀ a, A = some a → 0 < xs.length → a = ⟨b, o, none⟩) ∧ xs.length ≤ c ∧ ∀ j u, xs[j]? = some u → w.cell? ⟨b, o + j, none⟩ = some u
theorem Reads.below {w w' : World} {v : Value} {xs : List Value} (h : Reads w v xs) {B : Nat} (hb : Below B w w') (hB : w.heap.size ≤ B) : Reads w' v xs := by
  obtain ⟨A, c, b, o, h1, h2, h3, h4, h5⟩ := h
  refine ⟨A, c, b, o, h1, h2, h3, h4, fun j u hj => ?_⟩
  have hc := h5 j u hj
  have hlt : b < w.heap.size := World.block_lt_of_cell? w _ hc
  exact (hb.cell (p := ⟨b, o + j, none⟩) (show b < B by omega)).trans hc
theorem Reads.nil (w : World) : Reads w (.slice none 0 0) [] := ⟨none, 0, 0, 0, rfl, fun _ => ⟨rfl, rfl⟩, by simp, Nat.le_refl _, by simp⟩
theorem reads_of_row {w : World} {base e n : Nat} {v : Value} {xs : List Value} (h : w.ownsRow base e 1 v n xs) : Reads w v xs := by
  rcases row_cases h with ⟨rfl, rfl, rfl⟩ | ⟨g, cap, rfl, h1, _, hx, _, hc, _⟩
  · exact Reads.nil w
  · refine ⟨some ⟨g, 0, none⟩, cap, g, 0, by rw [hx], by simp, fun a ha _ => by injection ha with ha; exact ha.symm, by omega, fun j u hj => ?_⟩
    have hl : j < xs.length := (List.getElem?_eq_some_iff.1 hj).1
    rw [Nat.zero_add, hc j (by omega), hj]

theorem spread (n : Int) (h0 : -9223372036854775808 ≤ n) (h1 : n ≤ 9223372036854775807) (w : World) :
    Calls Tryd.prog 60 #[.int .i64 n] w fun e w' => e = .returned (.int .u64 (zig n : Int)) ∧ w = w' := by
  by_cases h : n < 0
  · obtain ⟨u, hu⟩ : ∃ u : Int, (zig n : Int) = u := ⟨_, rfl⟩
    have hz : 2 * -(n + 1) + 1 = u := by rw [← hu]; unfold zig; rw [if_pos h]; omega
    rw [hu]
    have HZ := hid hz
    clear hz hu
    go_enter Tryd.func60, Tryd.ntmps60
    go_wp2
    rw [HZ.out]
    go_ret
    exact ⟨rfl, rfl⟩
  · obtain ⟨u, hu⟩ : ∃ u : Int, (zig n : Int) = u := ⟨_, rfl⟩
    have hz : 2 * n = u := by rw [← hu]; unfold zig; rw [if_neg h]; omega
    rw [hu]
    have HZ := hid hz
    clear hz hu
    go_enter Tryd.func60, Tryd.ntmps60
    go_wp2
    rw [HZ.out]
    go_ret
    exact ⟨rfl, rfl⟩

theorem or128 (k : Nat) : bits BinOp.or IntKind.u8 ((k : Int) % 256) 128 = ((UInt8.ofNat (k % 128 + 128)).toNat : Int) := by
  have h : ∀ m : Fin 256, bits BinOp.or IntKind.u8 ((m.val : Nat) : Int) 128 = ((UInt8.ofNat (m.val % 128 + 128)).toNat : Int) := by decide +kernel
  have e : ((k : Int) % 256) = ((k % 256 : Nat) : Int) := by omega
  have h1 := h ⟨k % 256, by omega⟩
  simp only at h1
  rw [e, h1]
  congr 3
  omega
theorem low256 {k : Nat} (h : k < 128) : (k : Int) = ((UInt8.ofNat k).toNat : Int) := by
  rw [ofNat_toNat (by omega)]
theorem grown_below {B : Nat} {w wr w2 : World} {o : Obj} {v : Value} {base e size n : Nat} {xs : List Value} (hb : Below B w wr) (hB : B ≤ wr.heap.size) (hown : wr.ownsRow base e size v n xs) (hbase : B ≤ base) (hg : (wr.alloc o).grownBy w2 v.ownBlock) : Below B w w2 :=
  (hb.alloc hB _).grown hg (by simp; omega) (fun x hx => Nat.le_trans hbase (row_own hown hx).1)

set_option maxHeartbeats 1000000 in
set_option maxRecDepth 100000 in
/-- Put: a new slice: the bytes that were there, and behind them those of n. -/
theorem put (v : Value) (pre : List UInt8) (n : Int) (h0 : -9223372036854775808 ≤ n) (h1 : n ≤ 9223372036854775807) (w : World) (hv : Reads w v (bys pre)) (hlen : pre.length ≤ 1000000000) :
    Calls Tryd.prog 22 #[v, .int .i64 n] w fun e w' => ∃ r, e = .returned r ∧ w'.ownsRow w.heap.size 5 1 r (pre ++ vb (zig n)).length (bys (pre ++ vb (zig n))) ∧ Below w.heap.size w w' := by
  obtain ⟨i0, hi, hz0, hz1, hz2⟩ := info_parts infoB
  obtain ⟨A, c, b, o, rfl, hA, hA2, hc, hcells⟩ := hv
  rw [bys_len] at hA hA2 hc ⊢
  have hz := zig_lt n h0 h1
  have hsp := hid (fun W => spread n h0 h1 W)
  obtain ⟨u, hu⟩ : ∃ u, zig n = u := ⟨_, rfl⟩
  rw [hu] at hz ⊢
  have hsp' : ∀ W, Calls Tryd.prog 60 #[.int .i64 n] W fun e w' => e = .returned (.int .u64 (u : Int)) ∧ W = w' := by rw [← hu]; exact hsp.out
  have HSP := hid hsp'
  have HV := hid hcells
  have HA := hid (And.intro hA hA2)
  clear hsp hsp' hcells hA hA2 hu
  have HC := hid (show ∀ w0, w.grownBy w0 none → ∀ ad, A = some ad → ∀ j u, (bys pre)[j]? = some u → w0.cell? (ad.add j) = some u from fun w0 hg ad had j x hj => by
    have hl := (List.getElem?_eq_some_iff.1 hj).1
    rw [bys_len] at hl
    rw [HA.out.2 ad had (by omega), Addr.add_lit]
    exact hg.cell (HV.out j x hj) (by simp))
  go_enter Tryd.func22, Tryd.ntmps22
  go_wp2_with (first
    | (at_make; refine wpList_make_own _ rfl _ _ 31 rfl w.heap.size 5 i0 (.int .u8 0) 1 Tryd.underlying31 hi hz0 hz1 .i64 .i64 _ (pre.length + 10) rfl rfl (by omega) (by rw [hz2]; omega) (by unfold maxLen; omega) (Nat.le_refl _) ?_; intro w0 hown0 hgrow0)
    | (at_builtin; refine wpList_append_fits_any _ rfl (.tmp 10) (.tmp 11) 31 rfl w.heap.size 5 i0 1 Tryd.underlying31 hi hz1 w.heap.size 0 (pre.length + 10) _ rfl hown0 A pre.length c (bys pre) rfl (by simp [bys_len]) HA.out.1 (HC.out w0 hgrow0) (bys_one _) (by omega) ?_; intro w1 hown1 hgrow1)
    | (go_at_call 60; refine (HSP.out _).mono ?_; rintro e w2 ⟨rfl, rfl⟩))
  have hb1 : Below w.heap.size w w1 := ((Below.refl _ _).grown hgrow0 (Nat.le_refl _) (fun k h => by cases h)).grown hgrow1 (by have := hgrow0.size; omega) (fun k h => by cases h; exact Nat.le_refl _)
  have hown2 := hid (show w1.ownsRow w.heap.size 5 1 (.slice (some ⟨w.heap.size, 0, none⟩) pre.length (pre.length + 10)) pre.length (bys pre) by simpa using hown1)
  clear hgrow0 hgrow1 hown0 hown1 HC HV HA HSP
  go_loopw [5, 6] (fun sv su wr => ∃ (k : Nat) (l : List UInt8), su = .int .u64 (k : Int) ∧ k < 18446744073709551616 ∧ l ++ vb k = pre ++ vb u ∧ wr.ownsRow w.heap.size 5 1 sv l.length (bys l) ∧ Below w.heap.size w wr) (fun _ su _ => (intOf su).toNat)
  case atStart => exact ⟨u, pre, rfl, hz, rfl, hown2.out, hb1⟩
  case round =>
    obtain ⟨k, l, rfl, hk, hl, hown, hb⟩ := hrel
    clear hb1 hown2
    have hl2 : l.length + (vb k).length = pre.length + (vb u).length := by have := congrArg List.length hl; simpa using this
    have hu10 := vb_ten u hz
    have hll : l.length ≤ 1000000010 := by omega
    have HL := hid hl
    have HK := hid hk
    have HZ := hid hz
    have HO := hid hown
    have HB := hid hb
    clear hl hl2 hu10 hz hown hb
    by_cases hbig : 128 ≤ k
    · have t1 : decide ((128 : Int) ≤ (k : Int)) = true := by simp; omega
      clear hk
      go_wp2_with (at_builtin; refine wpList_append_own _ rfl (.tmp 19) (.tmp 23) 31 rfl w.heap.size 5 i0 (.int .u8 0) 1 1 Tryd.underlying31 hi hz0 hz1 hz2 rfl (by decide) _ _ _ rfl (HO.out.alloc _) ⟨wr.heap.size, 0, none⟩ 1 1 [_] rfl rfl (cell_one_new _ _ _) (by simp [Value.oneCell']) (by unfold maxLen; omega) (by omega) (by have := HB.out.size; simp; omega) ?_; intro v2 w2 hown2 hgrow2 _)
      rw [or128] at hown2
      have hb2 : Below w.heap.size w w2 := grown_below HB.out HB.out.size HO.out (Nat.le_refl _) hgrow2
      have hown3 : w2.ownsRow w.heap.size 5 1 v2 (l ++ [UInt8.ofNat (k % 128 + 128)]).length (bys (l ++ [UInt8.ofNat (k % 128 + 128)])) := by simpa [bys] using hown2
      clear hown2 hgrow2
      go_roundw
      case rel =>
        refine ⟨k / 128, l ++ [UInt8.ofNat (k % 128 + 128)], by simp, by have := HK.out; omega, ?_, hown3, hb2⟩
        rw [← HL.out, vb_big (show ¬ k < 128 by omega)]
        simp
      case measure => simp [intOf]; omega
    · have t1 : decide ((128 : Int) ≤ (k : Int)) = false := by simp; omega
      clear hk
      go_wp2_with (at_builtin; refine wpList_append_own _ rfl (.tmp 25) (.tmp 28) 31 rfl w.heap.size 5 i0 (.int .u8 0) 1 1 Tryd.underlying31 hi hz0 hz1 hz2 rfl (by decide) _ _ _ rfl (HO.out.alloc _) ⟨wr.heap.size, 0, none⟩ 1 1 [_] rfl rfl (cell_one_new _ _ _) (by simp [Value.oneCell']) (by unfold maxLen; omega) (by omega) (by have := HB.out.size; simp; omega) ?_; intro v2 w2 hown2 hgrow2 _)
      have hlow : Value.int IntKind.u8 (k : Int) = Value.int IntKind.u8 ((UInt8.ofNat k).toNat : Int) := by rw [← low256 (show k < 128 by omega)]
      rw [hlow] at hown2
      have hb2 : Below w.heap.size w w2 := grown_below HB.out HB.out.size HO.out (Nat.le_refl _) hgrow2
      have hown3 : w2.ownsRow w.heap.size 5 1 v2 (l ++ [UInt8.ofNat k]).length (bys (l ++ [UInt8.ofNat k])) := by simpa [bys] using hown2
      have hfin : l ++ [UInt8.ofNat k] = pre ++ vb u := by rw [← HL.out, vb_small (show k < 128 by omega)]
      rw [hfin] at hown3
      have HF := hid (And.intro hown3 hb2)
      clear hown2 hgrow2 hown3 hb2 hfin
      go_wp2
      go_ret
      exact ⟨_, rfl, HF.out⟩

/-- Size. -/
theorem size (n : Int) (h0 : -9223372036854775808 ≤ n) (h1 : n ≤ 9223372036854775807) (w : World) :
    Calls Tryd.prog 25 #[.int .i64 n] w fun e w' => e = .returned (.int .i64 ((vb (zig n)).length : Int)) ∧ Below w.heap.size w w' := by
  have hp := hid (put (.slice none 0 0) [] n h0 h1 w (Reads.nil w) (by simp))
  go_enter Tryd.func25, Tryd.ntmps25
  go_wp2_with fail
  refine hp.out.mono ?_
  rintro e w1 ⟨r, rfl, hown, hb⟩
  obtain ⟨A, cap, rfl⟩ := row_shape hown
  rw [List.nil_append]
  have HB := hid hb
  clear hown hb
  go_wp2
  go_ret
  exact ⟨rfl, HB.out⟩
end Go.Proofs.YtdinjplbbmhleaaDoor
