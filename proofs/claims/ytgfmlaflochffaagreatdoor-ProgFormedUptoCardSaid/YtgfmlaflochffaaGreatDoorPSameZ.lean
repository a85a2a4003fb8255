/-
  umpireref.SameProgram of two programs in memory that read as the same; umpirelaw18.small.
-/
import Derived.Test.YtgfmlaflochffaaGreatDoorPMemZ
import Derived.Test.YtgfmlaflochffaaGreatDoorOneZ
import Derived.Deep.QuietTactic
import Derived.BigQuiet
import Derived.LoopTactic
namespace Go.Proofs.YtgfmlaflochffaaGreatDoor
open Go.RowKit Go.Maps W
attribute [local go_sem ↓] Go.wp_at_zero Go.wp_at_succ

/-- A truth value. -/
def IsB (v : Value) : Prop := v = .bool true ∨ v = .bool false
theorem isB (b : Bool) : IsB (.bool b) := by cases b <;> simp [IsB]
set_option maxHeartbeats 4000000 in
theorem smallCall (vc vt : Value) (p : Pg) (w : World) (hp : PgAt w vc vt p) :
    Calls Tryz.prog 5 #[.agg #[vc, vt]] w fun e w' => ∃ v, e = .returned v ∧ IsB v ∧ Below w.heap.size w w' := by
  obtain ⟨hpc, hpt⟩ := hp
  obtain ⟨Ac, cc, rfl⟩ := hpc.shape
  obtain ⟨At, ct, rfl⟩ := hpt.shape
  rw [ints_len] at hpc ⊢
  have HPT := hid hpt
  have HW0 := hid ((Below.refl w.heap.size w).alloc (Nat.le_refl _) (.cells #[.slice Ac p.cells.length cc, .slice At p.threads.length ct] 25))
  clear hpc hpt
  go_enter Tryz.func5, Tryz.ntmps5
  go_wp2_with fail
  go_loopw [3, 4] (fun sn si wr => ∃ (n : Int) (k : Nat), sn = .int .i64 n ∧ si = .int .i64 k ∧ k ≤ 21 ∧ wr = w.alloc (.cells #[.slice Ac p.cells.length cc, .slice At p.threads.length ct] 25)) (fun _ si _ => 22 - (intOf si).toNat)
  case atStart => exact ⟨0, 0, rfl, rfl, by omega, rfl⟩
  case round =>
    obtain ⟨n, k, rfl, rfl, hk, rfl⟩ := hrel
    by_cases hlt : k < p.threads.length
    · by_cases h20 : k ≤ 20
      · obtain ⟨t, ht⟩ : ∃ t, p.threads[k]? = some t := ⟨p.threads[k], List.getElem?_eq_getElem hlt⟩
        obtain ⟨b1, o1, u1, rfl, hcell, hR, _, hcap⟩ := HPT.out.at ht
        obtain ⟨A1, cp1, rfl⟩ := hR.shape
        have lB := World.block_lt_of_cell? w _ hcell
        have HR := hid hR
        clear ht hR
        go_wp2_with fail
        go_loopw [3, 5] (fun sn si wr => ∃ (n : Int) (j : Nat), sn = .int .i64 n ∧ si = .int .i64 j ∧ j ≤ 21 ∧ wr = w.alloc (.cells #[.slice Ac p.cells.length cc, .slice (some ⟨b1, o1, none⟩) p.threads.length ct] 25)) (fun _ si _ => 22 - (intOf si).toNat)
        case atStart => exact ⟨_, 0, rfl, rfl, by omega, rfl⟩
        case round =>
          obtain ⟨n2, j, rfl, rfl, hj, rfl⟩ := hrel
          by_cases hlt2 : j < t.length
          · by_cases h21 : j ≤ 20
            · obtain ⟨l, hl⟩ : ∃ l, t[j]? = some l := ⟨t[j], List.getElem?_eq_getElem hlt2⟩
              obtain ⟨b2, o2, u2, rfl, hcell2, hR2, _, hcap2⟩ := HR.out.at hl
              obtain ⟨A2, cp2, rfl⟩ := hR2.shape
              have lB2 := World.block_lt_of_cell? w _ hcell2
              clear hl hR2
              go_wp2_with fail
              go_roundw
              case rel => exact ⟨_, j + 1, rfl, by go_num, by omega, trivial⟩
              case measure => simp [intOf] <;> omega
            · go_wp2_with fail
              go_roundw
              case rel => exact ⟨_, k + 1, rfl, by go_num, by omega, trivial⟩
              case measure => simp [intOf] <;> omega
          · go_wp2_with fail
            go_roundw
            case rel => exact ⟨_, k + 1, rfl, by go_num, by omega, trivial⟩
            case measure => simp [intOf] <;> omega
      · go_wp2_with fail
        all_goals (go_ret; exact ⟨_, rfl, isB _, HW0.out⟩)
    · go_wp2_with fail
      all_goals (go_ret; exact ⟨_, rfl, isB _, HW0.out⟩)

theorem drewN_add (w : World) (a b : Nat) : (w.drewN a).drewN b = w.drewN (a + b) := by
  unfold World.drewN
  simp [Nat.add_assoc]
theorem quiet_more3 {P : Program} {f : FuncId} {args : Array Value} {w : World} {a x : Nat} {v : Value}
    (h : Calls P f args (w.drewN (a + x)) fun e w' => e = .returned v ∧ ∃ m, w' = (w.drewN (a + x)).drewN m) : Calls P f args (w.drewN (a + x)) fun e w'' => e = .returned v ∧ ∃ n, w'' = w.drewN (a + n) :=
  h.mono fun _ _ ⟨he, m, hm⟩ => ⟨he, x + m, by rw [hm, drewN_add, Nat.add_assoc]⟩
theorem ReadsA.drewN {w : World} {v : Value} {l : List PAct} (h : ReadsA w v l) (n : Nat) : ReadsA (w.drewN n) v l := h
end Go.Proofs.YtgfmlaflochffaaGreatDoor
