/-
  What place and Ints of the law's own text do, over a slice of numbers that the call itself owns. No condition but a bound on its length.
-/
import Derived.Test.YthdapdmpbbabcaaDoorQueue
namespace Go.Proofs.YthdapdmpbbabcaaDoor
open Go.RowKit Go.Maps

/-- Where a number stands in a list; -1: nowhere. -/
def pos (m : List Int) (x : Int) : Int := if x ∈ m then (m.idxOf x : Int) else -1
theorem idx_at {x : Int} : ∀ (m : List Int) (k : Nat), (∀ j, j < k → m[j]? ≠ some x) → m[k]? = some x → m.idxOf x = k
  | [], _, _, h => by simp at h
  | a :: m, 0, _, h => by
    simp at h
    simp [h]
  | a :: m, k + 1, hno, h => by
    have ha : a ≠ x := by
      have := hno 0 (by omega)
      simpa using this
    have ih := idx_at m k (fun j hj => by have := hno (j + 1) (by omega); simpa using this) (by simpa using h)
    rw [List.idxOf_cons]
    have hb : (a == x) = false := by simpa using ha
    simp [hb, ih]
theorem pos_at {m : List Int} {x : Int} {k : Nat} (h : ∀ j, j < k → m[j]? ≠ some x) (hk : m[k]? = some x) : pos m x = k := by
  have hm : x ∈ m := List.mem_of_getElem? hk
  simp [pos, hm, idx_at m k h hk]
theorem pos_none {m : List Int} {x : Int} (h : ∀ j, j < m.length → m[j]? ≠ some x) : pos m x = -1 := by
  have hm : x ∉ m := fun hm => by
    obtain ⟨j, hj⟩ := List.getElem?_of_mem hm
    exact h j (List.getElem?_eq_some_iff.1 hj).1 hj
  simp [pos, hm]
theorem ret_int {a b : Int} (h : a = b) : Ending.returned (.int .i64 a) = .returned (.int .i64 b) := by rw [h]

set_option maxHeartbeats 400000 in
theorem place {base : Nat} (sv : Value) (m : List Int) (x : Int) (w : World) (ho : w.ownsRow base 3 1 sv m.length (m.map (Value.int .i64))) (hn : m.length ≤ 1000000) :
    Calls Tryd.prog 13 #[sv, .int .i64 x] w fun e w' => e = .returned (.int .i64 (pos m x)) ∧ w = w' := by
  rcases row_cases ho with ⟨rfl, hl, _⟩ | ⟨g, cap, rfl, hcap, _, _, _, hcell, _⟩
  · have h0 : m = [] := List.eq_nil_of_length_eq_zero hl
    subst h0
    clear ho hl
    go_enter Tryd.func13, Tryd.ntmps13
    go_wp2
    go_loop [5] (fun i => i = .int .i64 0) (fun _ => 0)
    case atStart => rfl
    case round =>
      obtain rfl := hrel
      go_wp2
      go_ret
      exact ⟨ret_int (by simp [pos]), rfl⟩
  · have hc : ∀ j, j < m.length → w.cell? ⟨g, j, none⟩ = some (.int .i64 (m[j]?.getD 0)) := by
      intro j hj
      rw [hcell j hj, List.getElem?_map]
      simp [hj]
    clear ho hcell
    go_enter Tryd.func13, Tryd.ntmps13
    go_wp2
    go_loop [5] (fun i => ∃ k : Nat, k ≤ m.length ∧ i = .int .i64 k ∧ ∀ j, j < k → m[j]? ≠ some x) (fun i => m.length - (intOf i).toNat)
    case atStart => exact ⟨0, Nat.zero_le _, rfl, fun j hj => absurd hj (Nat.not_lt_zero _)⟩
    case round =>
      obtain ⟨k, hk, rfl, hno⟩ := hrel
      have HNo := hid hno
      clear hno
      by_cases hlt : k < m.length
      · obtain ⟨y, hy⟩ : ∃ y, m[k]? = some y := ⟨_, List.getElem?_eq_getElem hlt⟩
        have hck : w.cell? ⟨g, k, none⟩ = some (.int .i64 y) := by rw [hc k hlt, hy]; rfl
        have HY := hid hy
        clear hc hy
        by_cases hxy : y = x
        · have ht : (y == x) = true := by simpa using hxy
          have HXY := hid hxy
          clear hxy
          go_wp2
          go_ret
          exact ⟨ret_int (pos_at HNo.out (by rw [HY.out, HXY.out])).symm, rfl⟩
        · have ht : (y == x) = false := by simpa using hxy
          have HXY := hid hxy
          clear hxy
          go_wp2
          go_round
          case rel =>
            refine ⟨k + 1, by omega, by go_num, fun j hj => ?_⟩
            rcases Nat.lt_succ_iff_lt_or_eq.1 hj with h | rfl
            · exact HNo.out j h
            · rw [HY.out]
              intro e
              injection e with e
              exact HXY.out e
          case measure => simp [intOf]; omega
      · go_wp2
        go_ret
        exact ⟨ret_int (pos_none (fun j hj => HNo.out j (by omega))).symm, rfl⟩

theorem take_map_succ (m : List Int) (k : Nat) (y : Int) (h : m[k]? = some y) : (m.map (Value.int .i64)).take (k + 1) = (m.map (Value.int .i64)).take k ++ [.int .i64 y] := by
  rw [List.take_add_one, List.getElem?_map, h]
  rfl

set_option maxHeartbeats 400000 in
/-- Ints: a copy in a row of its own. -/
theorem ints (A : Option Addr) (n c : Nat) (m : List Int) (w : World) (hm : m.length = n) (hn : n ≤ 1000000) (hr : 0 < n → ∃ g off, A = some ⟨g, off, none⟩ ∧ ∀ j, j < n → w.cell? ⟨g, off + j, none⟩ = some (.int .i64 (m[j]?.getD 0))) :
    Calls Tryd.prog 11 #[.slice A n c] w fun e w' => ∃ v, e = .returned v ∧ w'.ownsRow w.heap.size 3 1 v n (m.map (Value.int .i64)) ∧ Below w.heap.size w w' := by
  obtain ⟨i0, hi, hz0, hz1, hz2⟩ := info_parts infoInt
  obtain ⟨g, off, hA, hc⟩ : ∃ g off, (0 < n → A = some ⟨g, off, none⟩) ∧ ∀ j, j < n → w.cell? ⟨g, off + j, none⟩ = some (.int .i64 (m[j]?.getD 0)) := by
    rcases Nat.eq_zero_or_pos n with h | h
    · exact ⟨0, 0, fun h' => by omega, fun j hj => by omega⟩
    · obtain ⟨g, off, h1, h2⟩ := hr h
      exact ⟨g, off, fun _ => h1, h2⟩
  have HM := hid hm
  clear hr hm
  go_enter Tryd.func11, Tryd.ntmps11
  go_wp2_with (at_make; refine wpList_make_own _ rfl _ _ 24 rfl w.heap.size 3 i0 (.int .i64 0) 1 Tryd.underlying24 hi hz0 hz1 .i64 .i64 _ n rfl rfl rfl (by rw [hz2]; omega) (by unfold maxLen; omega) (Nat.le_refl _) ?_; intro w0 hown0 hgrow0)
  have hb0 : Below w.heap.size w w0 := (Below.refl _ _).grown hgrow0 (Nat.le_refl _) (fun k hk => by cases hk)
  go_loopw [3, 4] (fun v i wr => ∃ k : Nat, k ≤ n ∧ i = .int .i64 k ∧ wr.ownsRow w.heap.size 3 1 v k ((m.map (Value.int .i64)).take k) ∧ Below w.heap.size w wr) (fun _ i _ => n - (intOf i).toNat)
  case atStart => exact ⟨0, Nat.zero_le _, rfl, by simpa using hown0, hb0⟩
  case round =>
    obtain ⟨k, hk, rfl, hown, hb⟩ := hrel
    clear hb0 hgrow0 hown0
    by_cases hlt : k < n
    · have hA' := hA (by omega)
      subst hA'
      obtain ⟨y, hy⟩ : ∃ y, m[k]? = some y := ⟨_, List.getElem?_eq_getElem (by rw [HM.out]; exact hlt)⟩
      have hck : wr.cell? ⟨g, off + k, none⟩ = some (.int .i64 y) := by
        have h := hc k hlt
        have hg : g < w.heap.size := World.block_lt_of_cell? w _ h
        rw [hb.cell (p := ⟨g, off + k, none⟩) hg, h, hy]
        rfl
      have HY := hid hy
      have hws := hb.size
      clear hc hy hA
      go_wp2_with (at_builtin; refine wpList_append_own _ rfl _ _ 24 rfl w.heap.size 3 i0 (.int .i64 0) 1 8 Tryd.underlying24 hi hz0 hz1 hz2 rfl (by decide) _ _ _ rfl (hown.alloc _) ⟨wr.heap.size, 0, none⟩ 1 1 [.int .i64 y] rfl rfl (cell_one_new _ _ _) (by simp [Value.oneCell']) (by unfold maxLen; omega) (by omega) (by simp; omega) ?_)
      intro v' w1 hown' hgrow _
      have hb1 : Below w.heap.size w w1 := (hb.alloc hb.size _).grown hgrow (by simp; omega) (fun x hx => (row_own hown hx).1)
      rw [← take_map_succ m k y HY.out] at hown'
      clear hown hgrow hb hck
      go_wp2
      go_roundw
      case rel => exact ⟨k + 1, by omega, by go_num, hown', hb1⟩
      case measure => simp [intOf]; omega
    · have hkn : k = n := by omega
      have HK := hid hkn
      clear hkn hc hA
      go_wp2
      go_ret
      refine ⟨_, rfl, ?_, hb⟩
      have h := hown
      rw [HK.out] at h
      rw [List.take_of_length_le (by rw [List.length_map, HM.out]; exact Nat.le_refl _)] at h
      exact h
end Go.Proofs.YthdapdmpbbabcaaDoor
