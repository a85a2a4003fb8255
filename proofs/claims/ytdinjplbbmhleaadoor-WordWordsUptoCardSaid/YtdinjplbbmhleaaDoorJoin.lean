/-
  umpireref1.Join: words with one blank between. Bounds on lengths alone.
-/
import Derived.Test.YtdinjplbbmhleaaDoorRef
namespace Go.Proofs.YtdinjplbbmhleaaDoor
open Go.RowKit Go.Maps W

theorem join_snoc (l : List (List UInt8)) (x : List UInt8) : Lib.join (l ++ [x]) [32] = if l = [] then x else Lib.join l [32] ++ [32] ++ x := by
  cases l with
  | nil => simp [Lib.join_one]
  | cons y r =>
    rw [if_neg (by simp), List.cons_append, Lib.join_cons, Lib.join_cons]
    simp [Lib.joinTail]
theorem join_prefix (a b : List (List UInt8)) : (Lib.join a [32]).length ≤ (Lib.join (a ++ b) [32]).length := by
  cases a with
  | nil => simp [Lib.join_nil]
  | cons y r =>
    rw [List.cons_append, Lib.join_cons, Lib.join_cons]
    simp [Lib.joinTail]
theorem join_take (l : List (List UInt8)) (k : Nat) : (Lib.join (l.take k) [32]).length ≤ (Lib.join l [32]).length := by
  have := join_prefix (l.take k) (l.drop k)
  rwa [List.take_append_drop] at this
theorem join_next {l : List (List UInt8)} {k : Nat} {x : List UInt8} (h : l[k]? = some x) : Lib.join (l.take (k + 1)) [32] = if k = 0 then x else Lib.join (l.take k) [32] ++ [32] ++ x := by
  have hlt : k < l.length := (List.getElem?_eq_some_iff.1 h).1
  rw [List.take_add_one, h]
  rw [show (some x).toList = [x] from rfl, join_snoc]
  by_cases hk : k = 0
  · subst hk; simp
  · rw [if_neg hk, if_neg (fun e => hk (by have h2 := congrArg List.length e; rw [List.length_take, List.length_nil] at h2; omega))]

set_option maxHeartbeats 4000000 in
set_option maxRecDepth 100000 in
theorem joinRef (v : Value) (ws : List (List UInt8)) (w : World) (hv : Reads w v (txs ws)) (hn : ws.length ≤ 1000000000) (hlen : (Lib.join ws [32]).length ≤ 1000000000) :
    Calls Tryd.prog 19 #[v] w fun e w' => e = .returned (.string ⟨(Lib.join ws [32]).toArray⟩) ∧ Below w.heap.size w w' := by
  obtain ⟨i0, hi, hz0, hz1, hz2⟩ := info_parts infoB
  obtain ⟨A, c, b, o, rfl, hA, hA2, hc, hcells⟩ := hv
  rw [txs_len] at hA hA2 hc ⊢
  have HV := hid hcells
  have HA := hid (And.intro hA hA2)
  clear hcells hA hA2
  go_enter Tryd.func19, Tryd.ntmps19
  go_wp2
  go_loopw [3, 4] (fun so si wr => ∃ k : Nat, si = .int .i64 k ∧ k ≤ ws.length ∧ wr.ownsRow w.heap.size 5 1 so (Lib.join (ws.take k) [32]).length (bys (Lib.join (ws.take k) [32])) ∧ Below w.heap.size w wr) (fun _ si _ => ws.length - (intOf si).toNat)
  case atStart => exact ⟨0, rfl, Nat.zero_le _, World.ownsRow_nil _ _ _ _, Below.refl _ _⟩
  case round =>
    obtain ⟨k, rfl, hk, hown, hb⟩ := hrel
    have HB := hid hb
    clear hb
    by_cases hlt : k < ws.length
    · obtain ⟨x, hx⟩ : ∃ x, ws[k]? = some x := ⟨ws[k], List.getElem?_eq_getElem hlt⟩
      have hA' : A = some ⟨b, o, none⟩ := by
        cases A with
        | none => have := HA.out.1 rfl; omega
        | some z => rw [HA.out.2 z rfl (by omega)]
      subst hA'
      have c0 : w.cell? ⟨b, o + k, none⟩ = some (str x) := HV.out k _ (by simp [txs, hx])
      have hlt0 : b < w.heap.size := World.block_lt_of_cell? w _ c0
      have c1 : wr.cell? ⟨b, o + k, none⟩ = some (.string ⟨x.toArray⟩) := (HB.out.cell (p := ⟨b, o + k, none⟩) hlt0).trans c0
      have hj := join_take ws (k + 1)
      have hj0 := join_take ws k
      have hnx := join_next hx
      have HC0 := hid c0
      clear c0 hx
      by_cases hk0 : k = 0
      · rw [if_pos hk0] at hnx
        have HX := hid hnx
        have hxl : x.length ≤ 1000000000 := by rw [hnx] at hj; omega
        have HO := hid (show wr.ownsRow w.heap.size 5 1 _ 0 [] by rw [hk0] at hown; exact hown)
        have hk1 : ¬ 0 < k := by omega
        have HK := hid hk0
        clear hnx hj hj0 hown hk0
        go_wp2_with (at_builtin; refine Lib.wpList_append_own_string _ rfl (.tmp 16) (.tmp 20) 31 9 rfl w.heap.size 5 i0 Tryd.underlying31 Tryd.underlying9 hi hz0 hz1 hz2 _ _ _ rfl HO.out ⟨x.toArray⟩ rfl (by simp [ByteArray.size]; unfold maxLen; omega) (by simp [ByteArray.size]; omega) HB.out.size ?_; intro v2 w2 hown2 hgrow2 _)
        have hb2 : Below w.heap.size w w2 := HB.out.grown hgrow2 HB.out.size (fun y hy => (row_own HO.out hy).1)
        have HF := hid (And.intro (show w2.ownsRow w.heap.size 5 1 v2 (Lib.join (ws.take (k + 1)) [32]).length (bys (Lib.join (ws.take (k + 1)) [32])) by
          rw [HX.out]
          simpa [ByteArray.size, Lib.strCells, bys] using hown2) hb2)
        clear hown2 hgrow2 hb2
        go_roundw
        case rel => exact ⟨k + 1, by go_num, by omega, HF.out.1, HF.out.2⟩
        case measure => simp [intOf] <;> omega
      · rw [if_neg hk0] at hnx
        have HX := hid hnx
        have hxl : (Lib.join (ws.take k) [32]).length + 1 + x.length ≤ 1000000000 := by rw [hnx] at hj; simp at hj; omega
        have HO := hid hown
        have hk1 : 0 < k := by omega
        clear hnx hj hj0 hown hk0
        generalize Lib.join (ws.take k) [32] = jk at *
        go_wp2_with (first
          | (at_builtin; refine wpList_append_own _ rfl (.tmp 13) (.tmp 14) 31 rfl w.heap.size 5 i0 (.int .u8 0) 1 1 Tryd.underlying31 hi hz0 hz1 hz2 rfl (by decide) _ _ _ rfl (HO.out.alloc _) ⟨wr.heap.size, 0, none⟩ 1 1 [_] rfl rfl (cell_one_new _ _ _) (by simp [Value.oneCell']) (by unfold maxLen; omega) (by omega) (by have := HB.out.size; simp; omega) ?_; intro v1 w1 hown1 hgrow1 _; have hb1 := grown_below HB.out HB.out.size HO.out (Nat.le_refl _) hgrow1; have c1' : w1.cell? ⟨b, o + k, none⟩ = some (.string ⟨x.toArray⟩) := (hb1.cell (p := ⟨b, o + k, none⟩) hlt0).trans HC0.out)
          | (at_builtin; refine Lib.wpList_append_own_string _ rfl (.tmp 16) (.tmp 20) 31 9 rfl w.heap.size 5 i0 Tryd.underlying31 Tryd.underlying9 hi hz0 hz1 hz2 _ _ _ rfl hown1 ⟨x.toArray⟩ rfl (by simp [ByteArray.size]; unfold maxLen; omega) (by simp [ByteArray.size]; omega) hb1.size ?_; intro v2 w2 hown2 hgrow2 _))
        have hb2 : Below w.heap.size w w2 := hb1.grown hgrow2 hb1.size (fun y hy => (row_own hown1 hy).1)
        have HF := hid (And.intro (show w2.ownsRow w.heap.size 5 1 v2 (Lib.join (ws.take (k + 1)) [32]).length (bys (Lib.join (ws.take (k + 1)) [32])) by
          rw [HX.out]
          simpa [ByteArray.size, Lib.strCells, bys, Nat.add_assoc, Nat.add_comm x.length 1] using hown2) hb2)
        clear hown2 hgrow2 hb2 hown1 hgrow1 hb1 c1'
        go_roundw
        case rel => exact ⟨k + 1, by go_num, by omega, HF.out.1, HF.out.2⟩
        case measure => simp [intOf] <;> omega
    · obtain rfl : k = ws.length := by omega
      rw [List.take_length] at hown
      have hcv := conv_bytes (reads_of_row hown)
      clear hown
      go_wp2
      go_ret
      exact ⟨rfl, HB.out⟩
end Go.Proofs.YtdinjplbbmhleaaDoor
