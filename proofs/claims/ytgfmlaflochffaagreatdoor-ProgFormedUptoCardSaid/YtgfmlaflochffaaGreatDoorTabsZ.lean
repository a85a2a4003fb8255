/-
  The tables of words of package event: at, Word, Code; what they tell as plain lists. The package variables hold their initialisers' words.
-/
import Derived.Test.YtgfmlaflochffaaGreatDoorTextZ
import Derived.Deep.QuietTactic
import Derived.BigQuiet
import Derived.WalkLawsBesides
namespace Go.Proofs.YtgfmlaflochffaaGreatDoor
open Go.RowKit Go.Maps W

/-- The words of a table. -/
def tabs : Nat → List (List UInt8)
  | 1 => [[114, 101, 103, 105, 115, 116, 101, 114], [99, 111, 117, 110, 116, 101, 114], [113, 117, 101, 117, 101], [109, 97, 112]]
  | 2 => [[98, 101, 103, 105, 110], [99, 97, 108, 108], [114, 101, 116, 117, 114, 110], [116, 114, 121], [99, 111, 109, 109, 105, 116], [97, 98, 111, 114, 116], [99, 97, 110, 99, 101, 108]]
  | 3 => [[114, 101, 97, 100], [119, 114, 105, 116, 101], [97, 100, 100], [103, 101, 116], [101, 110, 113], [100, 101, 113], [112, 117, 116], [108, 111, 111, 107], [100, 101, 108]]
  | 4 => [[111, 107], [110, 111, 110, 101], [118, 97, 108]]
  | 5 => [[108, 105, 118, 101], [112, 101, 110, 100, 105, 110, 103], [99, 111, 109, 109, 105, 116, 116, 101, 100], [97, 98, 111, 114, 116, 101, 100]]
  | 6 => [[115, 101, 114, 105, 97, 108], [115, 116, 114, 105, 99, 116], [102, 105, 110, 97, 108], [111, 112, 97, 113, 117, 101]]
  | _ => []
def tabOf (t : Int) : List (List UInt8) := tabs t.toNat
def wordOf (t c : Int) : List UInt8 := if 1 ≤ c then ((tabOf t)[(c - 1).toNat]?).getD [] else []
/-- The table's variable. -/
def tabG : Nat → Nat
  | 1 => 12
  | 2 => 13
  | 3 => 14
  | 4 => 15
  | 5 => 16
  | 6 => 17
  | _ => 0
/-- What the package variables of package event's world hold: errors that are not nil, the tables. -/
structure LaidE (w : World) : Prop where
  tab : Lib.TabIs Tryz.prog w "internal/strconv.uint64pow10" .u64 Lib.pow10Tab
  errs : ∀ g, g ∈ ([] : List Nat)
    ++ [9]
    ++ [10]
    ++ [3]
   → ∃ a, w.cell? ⟨g, 0, none⟩ = some (.iface 172 (.pointer (some a)))
  tabs : ∀ (t : Nat) (j : Nat) x, (tabs t)[j]? = some x → w.cell? ⟨tabG t, j, none⟩ = some (str x)
theorem LaidE.below {w w' : World} (h : LaidE w) (hb : Below w.heap.size w w') : LaidE w' :=
  ⟨tab_below h.tab hb, fun g hg => by
    obtain ⟨a, ha⟩ := h.errs g hg
    exact ⟨a, (hb.cell (p := ⟨g, 0, none⟩) (World.block_lt_of_cell? w _ ha)).trans ha⟩, fun t j x hx => (hb.cell (p := ⟨tabG t, j, none⟩) (World.block_lt_of_cell? w _ (h.tabs t j x hx))).trans (h.tabs t j x hx)⟩
theorem tabs_cases (t : Int) : (tabOf t = [] ∧ t ≠ 1 ∧ t ≠ 2 ∧ t ≠ 3 ∧ t ≠ 4 ∧ t ≠ 5 ∧ t ≠ 6) ∨ t = 1 ∨ t = 2 ∨ t = 3 ∨ t = 4 ∨ t = 5 ∨ t = 6 := by
  by_cases h : t = 1 ∨ t = 2 ∨ t = 3 ∨ t = 4 ∨ t = 5 ∨ t = 6
  · exact .inr h
  · refine .inl ⟨?_, by omega, by omega, by omega, by omega, by omega, by omega⟩
    unfold tabOf
    have hk : t.toNat = 0 ∨ 7 ≤ t.toNat := by omega
    rcases hk with h0 | h7
    · rw [h0]; rfl
    · obtain ⟨k, hk⟩ : ∃ k, t.toNat = k + 7 := ⟨t.toNat - 7, by omega⟩
      rw [hk]; rfl

theorem one_out (i n : Int) (f : Value) (w : World) (h : i < 0 ∨ n ≤ i) :
    Calls Tryz.prog 83 #[.int .i64 i, .int .i64 n, f] w fun e w' => e = .returned (.tuple #[.string ⟨#[]⟩, .int .i64 n]) ∧ w = w' := by
  by_cases h0 : i < 0
  · have t1 : decide (i < 0) = true := by simpa using h0
    clear h
    go_enter Tryz.func83, Tryz.ntmps83
    go_wp2
    go_ret2
    exact ⟨rfl, rfl⟩
  · have t1 : decide (i < 0) = false := by simpa using h0
    have t2 : decide (n ≤ i) = true := by simp; omega
    clear h
    go_enter Tryz.func83, Tryz.ntmps83
    go_wp2
    go_ret2
    exact ⟨rfl, rfl⟩
set_option maxRecDepth 100000 in
theorem one_in (i n : Int) (F : FuncId) (caps : Array Value) (s : Value) (w : World) (h0 : 0 ≤ i) (h1 : i < n) (hE : ∀ W, (callFunc F caps).run Tryz.prog W = .ok (.enter F caps) W) (hF : Calls Tryz.prog F caps w fun e w' => e = .returned s ∧ w = w') :
    Calls Tryz.prog 83 #[.int .i64 i, .int .i64 n, .func (.func F) #[] caps] w fun e w' => e = .returned (.tuple #[s, .int .i64 n]) ∧ w = w' := by
  have t1 : decide (i < 0) = false := by simpa using h0
  have t2 : decide (n ≤ i) = false := by simpa using h1
  have HF := hid hF
  clear hF
  go_enter Tryz.func83, Tryz.ntmps83
  go_wp2_with fail
  refine HF.out.mono ?_
  rintro e w' ⟨rfl, rfl⟩
  go_wp2
  go_ret2
  exact ⟨rfl, rfl⟩

theorem at_f1 (i : Nat) (bx : Nat) (s : Value) (w : World) (hi : i < 4) (hb : w.cell? ⟨bx, 0, none⟩ = some (.int .i64 i)) (hs : w.cell? ⟨12, i, none⟩ = some s) :
    Calls Tryz.prog 84 #[.pointer (some ⟨bx, 0, none⟩)] w fun e w' => e = .returned s ∧ w = w' := by
  go_enter Tryz.func84, Tryz.ntmps84
  go_wp2
  go_ret
  exact ⟨rfl, rfl⟩

theorem at_f2 (i : Nat) (bx : Nat) (s : Value) (w : World) (hi : i < 7) (hb : w.cell? ⟨bx, 0, none⟩ = some (.int .i64 i)) (hs : w.cell? ⟨13, i, none⟩ = some s) :
    Calls Tryz.prog 85 #[.pointer (some ⟨bx, 0, none⟩)] w fun e w' => e = .returned s ∧ w = w' := by
  go_enter Tryz.func85, Tryz.ntmps85
  go_wp2
  go_ret
  exact ⟨rfl, rfl⟩

theorem at_f3 (i : Nat) (bx : Nat) (s : Value) (w : World) (hi : i < 9) (hb : w.cell? ⟨bx, 0, none⟩ = some (.int .i64 i)) (hs : w.cell? ⟨14, i, none⟩ = some s) :
    Calls Tryz.prog 86 #[.pointer (some ⟨bx, 0, none⟩)] w fun e w' => e = .returned s ∧ w = w' := by
  go_enter Tryz.func86, Tryz.ntmps86
  go_wp2
  go_ret
  exact ⟨rfl, rfl⟩

theorem at_f4 (i : Nat) (bx : Nat) (s : Value) (w : World) (hi : i < 3) (hb : w.cell? ⟨bx, 0, none⟩ = some (.int .i64 i)) (hs : w.cell? ⟨15, i, none⟩ = some s) :
    Calls Tryz.prog 87 #[.pointer (some ⟨bx, 0, none⟩)] w fun e w' => e = .returned s ∧ w = w' := by
  go_enter Tryz.func87, Tryz.ntmps87
  go_wp2
  go_ret
  exact ⟨rfl, rfl⟩

theorem at_f5 (i : Nat) (bx : Nat) (s : Value) (w : World) (hi : i < 4) (hb : w.cell? ⟨bx, 0, none⟩ = some (.int .i64 i)) (hs : w.cell? ⟨16, i, none⟩ = some s) :
    Calls Tryz.prog 88 #[.pointer (some ⟨bx, 0, none⟩)] w fun e w' => e = .returned s ∧ w = w' := by
  go_enter Tryz.func88, Tryz.ntmps88
  go_wp2
  go_ret
  exact ⟨rfl, rfl⟩

theorem at_f6 (i : Nat) (bx : Nat) (s : Value) (w : World) (hi : i < 4) (hb : w.cell? ⟨bx, 0, none⟩ = some (.int .i64 i)) (hs : w.cell? ⟨17, i, none⟩ = some s) :
    Calls Tryz.prog 89 #[.pointer (some ⟨bx, 0, none⟩)] w fun e w' => e = .returned s ∧ w = w' := by
  go_enter Tryz.func89, Tryz.ntmps89
  go_wp2
  go_ret
  exact ⟨rfl, rfl⟩

/-- What at tells: a word, and how many the table has. -/
def atOf (t i : Int) : List UInt8 := if 0 ≤ i then ((tabOf t)[i.toNat]?).getD [] else []
set_option maxHeartbeats 1000000 in
theorem atCall (t i : Int) (w : World) (hL : LaidE w) :
    Calls Tryz.prog 63 #[.int .i64 t, .int .i64 i] w fun e w' => e = .returned (.tuple #[str (atOf t i), .int .i64 ((tabOf t).length : Int)]) ∧ Below w.heap.size w w' := by
  rcases tabs_cases t with ⟨h, t1, t2, t3, t4, t5, t6⟩ | h
  · have e1 : atOf t i = [] := by unfold atOf; rw [h]; simp
    rw [e1, h]
    have t1 : (t == 1) = false := by simpa using t1
    have t2 : (t == 2) = false := by simpa using t2
    have t3 : (t == 3) = false := by simpa using t3
    have t4 : (t == 4) = false := by simpa using t4
    have t5 : (t == 5) = false := by simpa using t5
    have t6 : (t == 6) = false := by simpa using t6
    clear h hL e1
    go_enter Tryz.func63, Tryz.ntmps63
    go_wp2
    go_ret2
    exact ⟨rfl, (Below.refl _ _).alloc (Nat.le_refl _) _⟩
  by_cases hi : i < 0 ∨ ((tabOf t).length : Int) ≤ i
  · have e1 : atOf t i = [] := by
      unfold atOf
      split
      · rw [List.getElem?_eq_none (by omega)]; rfl
      · rfl
    rw [e1]
    clear hL e1
    rcases h with rfl | rfl | rfl | rfl | rfl | rfl
    · have HO := hid (fun f W => one_out i 4 f W (by simpa [tabOf, tabs] using hi))
      clear hi
      go_enter Tryz.func63, Tryz.ntmps63
      go_wp2_with fail
      refine (HO.out _ _).mono ?_
      rintro e w1 ⟨rfl, rfl⟩
      go_wp2
      go_ret2
      exact ⟨rfl, (Below.refl _ _).alloc (Nat.le_refl _) _⟩
    · have HO := hid (fun f W => one_out i 7 f W (by simpa [tabOf, tabs] using hi))
      clear hi
      go_enter Tryz.func63, Tryz.ntmps63
      go_wp2_with fail
      refine (HO.out _ _).mono ?_
      rintro e w1 ⟨rfl, rfl⟩
      go_wp2
      go_ret2
      exact ⟨rfl, (Below.refl _ _).alloc (Nat.le_refl _) _⟩
    · have HO := hid (fun f W => one_out i 9 f W (by simpa [tabOf, tabs] using hi))
      clear hi
      go_enter Tryz.func63, Tryz.ntmps63
      go_wp2_with fail
      refine (HO.out _ _).mono ?_
      rintro e w1 ⟨rfl, rfl⟩
      go_wp2
      go_ret2
      exact ⟨rfl, (Below.refl _ _).alloc (Nat.le_refl _) _⟩
    · have HO := hid (fun f W => one_out i 3 f W (by simpa [tabOf, tabs] using hi))
      clear hi
      go_enter Tryz.func63, Tryz.ntmps63
      go_wp2_with fail
      refine (HO.out _ _).mono ?_
      rintro e w1 ⟨rfl, rfl⟩
      go_wp2
      go_ret2
      exact ⟨rfl, (Below.refl _ _).alloc (Nat.le_refl _) _⟩
    · have HO := hid (fun f W => one_out i 4 f W (by simpa [tabOf, tabs] using hi))
      clear hi
      go_enter Tryz.func63, Tryz.ntmps63
      go_wp2_with fail
      refine (HO.out _ _).mono ?_
      rintro e w1 ⟨rfl, rfl⟩
      go_wp2
      go_ret2
      exact ⟨rfl, (Below.refl _ _).alloc (Nat.le_refl _) _⟩
    · have HO := hid (fun f W => one_out i 4 f W (by simpa [tabOf, tabs] using hi))
      clear hi
      go_enter Tryz.func63, Tryz.ntmps63
      go_wp2_with fail
      refine (HO.out _ _).mono ?_
      rintro e w1 ⟨rfl, rfl⟩
      go_wp2
      go_ret2
      exact ⟨rfl, (Below.refl _ _).alloc (Nat.le_refl _) _⟩
  · obtain ⟨k, rfl⟩ : ∃ k : Nat, i = k := ⟨i.toNat, by omega⟩
    have hk : k < (tabOf t).length := by omega
    obtain ⟨x, hx⟩ : ∃ x, (tabOf t)[k]? = some x := ⟨(tabOf t)[k], List.getElem?_eq_getElem hk⟩
    have e1 : atOf t k = x := by
      unfold atOf
      rw [if_pos (by omega), Int.toNat_natCast, hx]
      rfl
    rw [e1]
    clear e1 hi
    rcases h with rfl | rfl | rfl | rfl | rfl | rfl
    · have hk' : k < 4 := hk
      have hc : w.cell? ⟨12, k, none⟩ = some (str x) := hL.tabs 1 k x hx
      have hb := Below.heap_alloc w (.cells #[.int .i64 (k : Int)] 3)
      have HI := hid (one_in k 4 84 #[.pointer (some ⟨w.heap.size, 0, none⟩)] (str x) (w.alloc (.cells #[.int .i64 (k : Int)] 3)) (by omega) (by omega) (fun W => enters_of Tryz.func84 (by kernel_rfl) rfl _ W) (at_f1 k w.heap.size (str x) _ hk' ((Blk.new w 3 #[.int .i64 (k : Int)]).cell 0) (by rw [← hc]; exact ((Below.refl w.heap.size w).alloc (Nat.le_refl _) _).cell (p := ⟨12, k, none⟩) (World.block_lt_of_cell? w _ hc))))
      clear hc hb hk hk' hx hL
      go_enter Tryz.func63, Tryz.ntmps63
      go_wp2_with fail
      refine HI.out.mono ?_
      rintro e w1 ⟨rfl, rfl⟩
      go_wp2
      go_ret2
      exact ⟨rfl, (Below.refl _ _).alloc (Nat.le_refl _) _⟩
    · have hk' : k < 7 := hk
      have hc : w.cell? ⟨13, k, none⟩ = some (str x) := hL.tabs 2 k x hx
      have hb := Below.heap_alloc w (.cells #[.int .i64 (k : Int)] 3)
      have HI := hid (one_in k 7 85 #[.pointer (some ⟨w.heap.size, 0, none⟩)] (str x) (w.alloc (.cells #[.int .i64 (k : Int)] 3)) (by omega) (by omega) (fun W => enters_of Tryz.func85 (by kernel_rfl) rfl _ W) (at_f2 k w.heap.size (str x) _ hk' ((Blk.new w 3 #[.int .i64 (k : Int)]).cell 0) (by rw [← hc]; exact ((Below.refl w.heap.size w).alloc (Nat.le_refl _) _).cell (p := ⟨13, k, none⟩) (World.block_lt_of_cell? w _ hc))))
      clear hc hb hk hk' hx hL
      go_enter Tryz.func63, Tryz.ntmps63
      go_wp2_with fail
      refine HI.out.mono ?_
      rintro e w1 ⟨rfl, rfl⟩
      go_wp2
      go_ret2
      exact ⟨rfl, (Below.refl _ _).alloc (Nat.le_refl _) _⟩
    · have hk' : k < 9 := hk
      have hc : w.cell? ⟨14, k, none⟩ = some (str x) := hL.tabs 3 k x hx
      have hb := Below.heap_alloc w (.cells #[.int .i64 (k : Int)] 3)
      have HI := hid (one_in k 9 86 #[.pointer (some ⟨w.heap.size, 0, none⟩)] (str x) (w.alloc (.cells #[.int .i64 (k : Int)] 3)) (by omega) (by omega) (fun W => enters_of Tryz.func86 (by kernel_rfl) rfl _ W) (at_f3 k w.heap.size (str x) _ hk' ((Blk.new w 3 #[.int .i64 (k : Int)]).cell 0) (by rw [← hc]; exact ((Below.refl w.heap.size w).alloc (Nat.le_refl _) _).cell (p := ⟨14, k, none⟩) (World.block_lt_of_cell? w _ hc))))
      clear hc hb hk hk' hx hL
      go_enter Tryz.func63, Tryz.ntmps63
      go_wp2_with fail
      refine HI.out.mono ?_
      rintro e w1 ⟨rfl, rfl⟩
      go_wp2
      go_ret2
      exact ⟨rfl, (Below.refl _ _).alloc (Nat.le_refl _) _⟩
    · have hk' : k < 3 := hk
      have hc : w.cell? ⟨15, k, none⟩ = some (str x) := hL.tabs 4 k x hx
      have hb := Below.heap_alloc w (.cells #[.int .i64 (k : Int)] 3)
      have HI := hid (one_in k 3 87 #[.pointer (some ⟨w.heap.size, 0, none⟩)] (str x) (w.alloc (.cells #[.int .i64 (k : Int)] 3)) (by omega) (by omega) (fun W => enters_of Tryz.func87 (by kernel_rfl) rfl _ W) (at_f4 k w.heap.size (str x) _ hk' ((Blk.new w 3 #[.int .i64 (k : Int)]).cell 0) (by rw [← hc]; exact ((Below.refl w.heap.size w).alloc (Nat.le_refl _) _).cell (p := ⟨15, k, none⟩) (World.block_lt_of_cell? w _ hc))))
      clear hc hb hk hk' hx hL
      go_enter Tryz.func63, Tryz.ntmps63
      go_wp2_with fail
      refine HI.out.mono ?_
      rintro e w1 ⟨rfl, rfl⟩
      go_wp2
      go_ret2
      exact ⟨rfl, (Below.refl _ _).alloc (Nat.le_refl _) _⟩
    · have hk' : k < 4 := hk
      have hc : w.cell? ⟨16, k, none⟩ = some (str x) := hL.tabs 5 k x hx
      have hb := Below.heap_alloc w (.cells #[.int .i64 (k : Int)] 3)
      have HI := hid (one_in k 4 88 #[.pointer (some ⟨w.heap.size, 0, none⟩)] (str x) (w.alloc (.cells #[.int .i64 (k : Int)] 3)) (by omega) (by omega) (fun W => enters_of Tryz.func88 (by kernel_rfl) rfl _ W) (at_f5 k w.heap.size (str x) _ hk' ((Blk.new w 3 #[.int .i64 (k : Int)]).cell 0) (by rw [← hc]; exact ((Below.refl w.heap.size w).alloc (Nat.le_refl _) _).cell (p := ⟨16, k, none⟩) (World.block_lt_of_cell? w _ hc))))
      clear hc hb hk hk' hx hL
      go_enter Tryz.func63, Tryz.ntmps63
      go_wp2_with fail
      refine HI.out.mono ?_
      rintro e w1 ⟨rfl, rfl⟩
      go_wp2
      go_ret2
      exact ⟨rfl, (Below.refl _ _).alloc (Nat.le_refl _) _⟩
    · have hk' : k < 4 := hk
      have hc : w.cell? ⟨17, k, none⟩ = some (str x) := hL.tabs 6 k x hx
      have hb := Below.heap_alloc w (.cells #[.int .i64 (k : Int)] 3)
      have HI := hid (one_in k 4 89 #[.pointer (some ⟨w.heap.size, 0, none⟩)] (str x) (w.alloc (.cells #[.int .i64 (k : Int)] 3)) (by omega) (by omega) (fun W => enters_of Tryz.func89 (by kernel_rfl) rfl _ W) (at_f6 k w.heap.size (str x) _ hk' ((Blk.new w 3 #[.int .i64 (k : Int)]).cell 0) (by rw [← hc]; exact ((Below.refl w.heap.size w).alloc (Nat.le_refl _) _).cell (p := ⟨17, k, none⟩) (World.block_lt_of_cell? w _ hc))))
      clear hc hb hk hk' hx hL
      go_enter Tryz.func63, Tryz.ntmps63
      go_wp2_with fail
      refine HI.out.mono ?_
      rintro e w1 ⟨rfl, rfl⟩
      go_wp2
      go_ret2
      exact ⟨rfl, (Below.refl _ _).alloc (Nat.le_refl _) _⟩

theorem word_at (t c : Int) : atOf t (max c 0 - 1) = wordOf t c := by
  unfold atOf wordOf
  by_cases h : 1 ≤ c
  · rw [if_pos (by omega), if_pos h, show max c 0 = c by omega]
  · rw [if_neg (by omega), if_neg h]
theorem wordCall (t c : Int) (hc : c ≤ 9223372036854775807) (w : World) (hL : LaidE w) :
    Calls Tryz.prog 50 #[.int .i64 t, .int .i64 c] w fun e w' => e = .returned (str (wordOf t c)) ∧ Below w.heap.size w w' := by
  have hA := atCall t (max c 0 - 1) w hL
  rw [word_at] at hA
  have HA := hid hA
  clear hA hL
  have h1 : 0 ≤ max c 0 := by omega
  have h2 : max c 0 ≤ 9223372036854775807 := by omega
  go_enter Tryz.func50, Tryz.ntmps50
  go_wp2_with fail
  refine HA.out.mono ?_
  rintro e w1 ⟨rfl, hb⟩
  have HB := hid hb
  clear hb HA
  go_wp2
  go_ret
  exact ⟨rfl, HB.out⟩
end Go.Proofs.YtgfmlaflochffaaGreatDoor
