/-
  memo.Set.Each at int: what it hands back runs through the elements in the order in which they came. No condition but bounds on lengths.
-/
import Derived.RangeFuncNested
import Derived.RangeFuncBound
import Derived.RangeFuncCalls
import Derived.RangeFuncLeaves
import Derived.OwnWalkIn
import Derived.TacticsInMore
import Derived.LoopNIn
import Derived.LoopIn
import Derived.Test.YthdapdmpbbabcaaDoorSetI
namespace Go.Proofs.YthdapdmpbbabcaaDoor.SetI
open Go.RowKit Go.Maps
attribute [local go_sem] Oper.semAt_some

/-- The first cells of block g stay. -/
def Kept (g len : Nat) (W W' : World) : Prop := ∀ j v, j < len → W.cell? ⟨g, j, none⟩ = some v → W'.cell? ⟨g, j, none⟩ = some v
theorem Kept.trans {g len : Nat} {A B C : World} (h : Kept g len A B) (k : Kept g len B C) : Kept g len A C := fun j v hj hv => k j v hj (h j v hj hv)
theorem Kept.putObj {g len : Nat} (W : World) (l : Nat) (o o' : Obj) (h : W.heap[l]? = some o) (ho : o.isCells = false) : Kept g len W (W.putObj l o') :=
  fun j v _ hv => cell_kept hv (grownBy_putObj' W l o') (fun r e => by cases e; exact ⟨o, h, ho⟩)

theorem each (b : Nat) (w : World) :
    Calls Tryd.prog 25 #[.pointer (some ⟨b, 0, none⟩)] w fun e w' => e = .returned (.func (.func 38) #[] #[.pointer (some ⟨w.heap.size, 0, none⟩)]) ∧ w' = w.alloc (.cells #[.pointer (some ⟨b, 0, none⟩)] 43) := by
  go_enter Tryd.func25, Tryd.ntmps25
  go_wp2
  go_ret
  exact ⟨rfl, rfl⟩

set_option maxRecDepth 100000 in
set_option maxHeartbeats 2000000 in
theorem each1 (F : Fence) (n : Nat) (h38 : F.fn 38) (hro : F.round = none) (hn : 1 ≤ n) (l box b g len cap : Nat) (A : Option Addr) (hA : 0 < len → A = some ⟨g, 0, none⟩) (hlen : len ≤ 1000000) (Z : Nat → Value) (J Jx : List Nat → World → Prop)
    (hY : ∀ (pre : List Nat) (x : Nat) (W : World), J pre W → pre.length < len → YieldAt F (n - 1) Tryd.prog l #[.int .i64 (x : Int), Z x] W fun e W' =>
      (e = .returned (.bool true) ∧ J (pre ++ [x]) W' ∧ Kept g len W W') ∨ (e = .returned (.bool false) ∧ Jx (pre ++ [x]) W'))
    (W : World) (hb0 : W.cell? ⟨box, 0, none⟩ = some (.pointer (some ⟨b, 0, none⟩))) (hb2 : W.cell? ⟨b, 2, none⟩ = some (.slice A len cap)) (hc : ∀ j, j < len → W.cell? ⟨g, j, none⟩ = some (Z j)) (h0 : J [] W) :
    CallsIn F n Tryd.prog 38 #[.func (.yield l) #[] #[], .pointer (some ⟨box, 0, none⟩)] W fun e W' => (∃ v, e = .returned v) ∧
      ((∃ ys, ys = List.range len ∧ J ys W') ∨ (∃ pre, (∃ k, k ≤ len ∧ pre = List.range k) ∧ Jx pre W')) := by
  refine callsIn_of_wp Tryd.func38 rfl h38 ?_ hro
  simp only [Tryd.ntmps38, List.size_toArray, List.length_cons, List.length_nil, Nat.reduceAdd, Nat.reduceSub, Array.replicate_succ, Array.replicate_zero, List.push_toArray, List.append_toArray, List.nil_append, List.cons_append]
  gi_wp2
  gi_loopw [10] (fun i wr => ∃ k : Nat, k ≤ len ∧ i = .int .i64 k ∧ J (List.range k) wr ∧ ∀ j, j < len → wr.cell? ⟨g, j, none⟩ = some (Z j))
    (fun i _ => len - (intOf i).toNat)
  case atStart => exact ⟨0, Nat.zero_le _, rfl, h0, hc⟩
  case round =>
    obtain ⟨k, hk, rfl, hJs, hcw⟩ := hrel
    by_cases hlt : k < len
    · obtain ⟨fn, tmps, assign, body, hy, hR⟩ := hY _ k wr hJs (by rw [List.length_range]; exact hlt)
      have hA' := hA (by omega)
      subst hA'
      have hck := hcw k hlt
      generalize hz : Z k = z at *
      gi_wp2
      refine hR.mono ?_
      rintro e W3 (⟨rfl, hJ3, hk3⟩ | ⟨rfl, hJx3⟩)
      · gi_wp2
        go_roundw
        case rel => exact ⟨k + 1, by omega, by simp, by rw [List.range_succ]; exact hJ3, fun j hj => hk3 j _ hj (hcw j hj)⟩
        case measure => simp [intOf]; omega
      · gi_wp2
        refine bodyPost_ret (results_none rfl _ _ _) rfl ?_
        exact ⟨⟨_, rfl⟩, .inr ⟨_, ⟨k + 1, by omega, (List.range_succ).symm⟩, hJx3⟩⟩
    · obtain rfl : k = len := by omega
      gi_wp2
      go_end0
      exact ⟨⟨_, rfl⟩, .inl ⟨_, rfl, hJs⟩⟩

theorem each_stops (F : Fence) (n : Nat) (h38 : F.fn 38) (hro : F.round = none) (hn : 1 ≤ n) (box b g len cap : Nat) (A : Option Addr) (hA : 0 < len → A = some ⟨g, 0, none⟩) (hlen : len ≤ 1000000) (Z : Nat → Value)
    (w : World) (hb0 : w.cell? ⟨box, 0, none⟩ = some (.pointer (some ⟨b, 0, none⟩))) (hb2 : w.cell? ⟨b, 2, none⟩ = some (.slice A len cap)) (hc : ∀ j, j < len → w.cell? ⟨g, j, none⟩ = some (Z j)) :
    SeqStopsK F n Tryd.prog 38 #[.pointer (some ⟨box, 0, none⟩)] (fun x : Nat => #[Value.int .i64 (x : Int), Z x]) (Kept g len) (fun ys => ys = List.range len) (fun pre => ∃ k, k ≤ len ∧ pre = List.range k) len w := fun l J Jx W hW _ _ hY h0 =>
  each1 F n h38 hro hn l box b g len cap A hA hlen Z J Jx hY W ((hW.cell (World.block_lt_of_cell? w _ hb0)).trans hb0) ((hW.cell (World.block_lt_of_cell? w _ hb2)).trans hb2)
    (fun j hj => (hW.cell (World.block_lt_of_cell? w _ (hc j hj))).trans (hc j hj)) h0
end Go.Proofs.YthdapdmpbbabcaaDoor.SetI
