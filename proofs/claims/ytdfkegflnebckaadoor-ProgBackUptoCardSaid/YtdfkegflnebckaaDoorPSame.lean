/-
  umpireref.SameProgram of two programs in memory that read as the same; umpirelaw18.small.
-/
import Derived.Test.YtdfkegflnebckaaDoorPMem
import Derived.Test.YtdfkegflnebckaaDoorOne
import Derived.Deep.QuietTactic
import Derived.BigQuiet
import Derived.LoopTactic
namespace Go.Proofs.YtdfkegflnebckaaDoor
open Go.RowKit Go.Maps W
attribute [local go_sem ↓] Go.wp_at_zero Go.wp_at_succ

set_option maxHeartbeats 2000000 in
theorem sameInts (v1 v2 : Value) (l : List Int) (w : World) (h1 : Reads w v1 (ints l)) (h2 : Reads w v2 (ints l)) (hl : l.length ≤ 1000000000) :
    Calls Tryd.prog 25 #[v1, v2] w fun e w' => e = .returned (.bool true) ∧ ∃ n, w' = w.drewN n := by
  obtain ⟨A1, c1, rfl⟩ := h1.shape
  obtain ⟨A2, c2, rfl⟩ := h2.shape
  rw [ints_len] at h1 h2 ⊢
  have H1 := hid h1
  have H2 := hid h2
  clear h1 h2
  go_enter Tryd.func25, Tryd.ntmps25
  go_wp2
  go_loopw [5] (fun i wr => ∃ k n : Nat, i = .int .i64 k ∧ k ≤ l.length ∧ wr = w.drewN n) (fun i _ => l.length - (intOf i).toNat)
  case atStart => exact ⟨0, 0, rfl, Nat.zero_le _, rfl⟩
  case round =>
    obtain ⟨k, n, rfl, hk, rfl⟩ := hrel
    by_cases hlt : k < l.length
    · obtain ⟨x, hx⟩ : ∃ x, l[k]? = some x := ⟨l[k], List.getElem?_eq_getElem hlt⟩
      obtain ⟨b1, o1, rfl, d1, _, k1⟩ := reads_at H1.out (j := k) (u := .int .i64 x) (by simp [ints, hx])
      obtain ⟨b2, o2, rfl, d2, _, k2⟩ := reads_at H2.out (j := k) (u := .int .i64 x) (by simp [ints, hx])
      clear hx
      go_wp2_with fail
      go_quiet (fail)
      go_wp2_with fail
      go_roundw
      case rel => exact ⟨k + 1, _, by go_num, by omega, rfl⟩
      case measure => simp [intOf] <;> omega
    · go_wp2_with fail
      go_ret
      exact ⟨rfl, _, rfl⟩
set_option maxHeartbeats 4000000 in
theorem sameActs (v1 v2 : Value) (l : List PAct) (w : World) (h1 : ReadsA w v1 l) (h2 : ReadsA w v2 l) (hl : l.length ≤ 1000000000) :
    Calls Tryd.prog 26 #[v1, v2] w fun e w' => e = .returned (.bool true) ∧ ∃ n, w' = w.drewN n := by
  obtain ⟨A1, c1, rfl⟩ := h1.shape
  obtain ⟨A2, c2, rfl⟩ := h2.shape
  have H1 := hid h1
  have H2 := hid h2
  clear h1 h2
  go_enter Tryd.func26, Tryd.ntmps26
  go_wp2
  go_loopw [5] (fun i wr => ∃ k n : Nat, i = .int .i64 k ∧ k ≤ l.length ∧ wr = w.drewN n) (fun i _ => l.length - (intOf i).toNat)
  case atStart => exact ⟨0, 0, rfl, Nat.zero_le _, rfl⟩
  case round =>
    obtain ⟨k, n, rfl, hk, rfl⟩ := hrel
    by_cases hlt : k < l.length
    · obtain ⟨x, hx⟩ : ∃ x, l[k]? = some x := ⟨l[k], List.getElem?_eq_getElem hlt⟩
      obtain ⟨b1, o1, rfl, d1, d2, d3, _, k1⟩ := H1.out.at hx
      obtain ⟨b2, o2, rfl, e1, e2, e3, _, k2⟩ := H2.out.at hx
      clear hx
      go_wp2_with fail
      go_quiet (fail)
      go_wp2_with fail
      go_roundw
      case rel => exact ⟨k + 1, _, by go_num, by omega, rfl⟩
      case measure => simp [intOf] <;> omega
    · go_wp2_with fail
      go_ret
      exact ⟨rfl, _, rfl⟩

/-- A truth value. -/
def IsB (v : Value) : Prop := v = .bool true ∨ v = .bool false
theorem isB (b : Bool) : IsB (.bool b) := by cases b <;> simp [IsB]
set_option maxHeartbeats 4000000 in
theorem smallCall (vc vt : Value) (p : Pg) (w : World) (hp : PgAt w vc vt p) :
    Calls Tryd.prog 5 #[.agg #[vc, vt]] w fun e w' => ∃ v, e = .returned v ∧ IsB v ∧ Below w.heap.size w w' := by
  obtain ⟨hpc, hpt⟩ := hp
  obtain ⟨Ac, cc, rfl⟩ := hpc.shape
  obtain ⟨At, ct, rfl⟩ := hpt.shape
  rw [ints_len] at hpc ⊢
  have HPT := hid hpt
  have HW0 := hid ((Below.refl w.heap.size w).alloc (Nat.le_refl _) (.cells #[.slice Ac p.cells.length cc, .slice At p.threads.length ct] 25))
  clear hpc hpt
  go_enter Tryd.func5, Tryd.ntmps5
  go_wp2_with fail
  go_loopw [3, 4] (fun sn si wr => ∃ (n : Int) (k : Nat), sn = .int .i64 n ∧ si = .int .i64 k ∧ k ≤ 21 ∧ wr = w.alloc (.cells #[.slice Ac p.cells.length cc, .slice At p.threads.length ct] 25)) (fun _ si _ => 22 - (intOf si).toNat)
  case atStart => exact ⟨0, 0, rfl, rfl, by omega, rfl⟩
  case round =>
    obtain ⟨n, k, rfl, rfl, hk, rfl⟩ := hrel
    by_cases hlt : k < p.threads.length
    · by_cases h20 : k ≤ 20
      · obtain ⟨t, ht⟩ : ∃ t, p.threads[k]? = some t := ⟨p.threads[k], List.getElem?_eq_getElem hlt⟩
        obtain ⟨b1, o1, u1, rfl, hcell, hR, _, hcap⟩ := HPT.out.at ht
        obtain ⟨A1, cp1, rfl⟩ := hR.shape
        have lB := World.block_lt_of_cell? w _ hcell
        have HR := hid hR
        clear ht hR
        go_wp2_with fail
        go_loopw [3, 5] (fun sn si wr => ∃ (n : Int) (j : Nat), sn = .int .i64 n ∧ si = .int .i64 j ∧ j ≤ 21 ∧ wr = w.alloc (.cells #[.slice Ac p.cells.length cc, .slice (some ⟨b1, o1, none⟩) p.threads.length ct] 25)) (fun _ si _ => 22 - (intOf si).toNat)
        case atStart => exact ⟨_, 0, rfl, rfl, by omega, rfl⟩
        case round =>
          obtain ⟨n2, j, rfl, rfl, hj, rfl⟩ := hrel
          by_cases hlt2 : j < t.length
          · by_cases h21 : j ≤ 20
            · obtain ⟨l, hl⟩ : ∃ l, t[j]? = some l := ⟨t[j], List.getElem?_eq_getElem hlt2⟩
              obtain ⟨b2, o2, u2, rfl, hcell2, hR2, _, hcap2⟩ := HR.out.at hl
              obtain ⟨A2, cp2, rfl⟩ := hR2.shape
              have lB2 := World.block_lt_of_cell? w _ hcell2
              clear hl hR2
              go_wp2_with fail
              go_roundw
              case rel => exact ⟨_, j + 1, rfl, by go_num, by omega, trivial⟩
              case measure => simp [intOf] <;> omega
            · go_wp2_with fail
              go_roundw
              case rel => exact ⟨_, k + 1, rfl, by go_num, by omega, trivial⟩
              case measure => simp [intOf] <;> omega
          · go_wp2_with fail
            go_roundw
            case rel => exact ⟨_, k + 1, rfl, by go_num, by omega, trivial⟩
            case measure => simp [intOf] <;> omega
      · go_wp2_with fail
        all_goals (go_ret; exact ⟨_, rfl, isB _, HW0.out⟩)
    · go_wp2_with fail
      all_goals (go_ret; exact ⟨_, rfl, isB _, HW0.out⟩)

theorem drewN_add (w : World) (a b : Nat) : (w.drewN a).drewN b = w.drewN (a + b) := by
  unfold World.drewN
  simp [Nat.add_assoc]
theorem quiet_more3 {P : Program} {f : FuncId} {args : Array Value} {w : World} {a x : Nat} {v : Value}
    (h : Calls P f args (w.drewN (a + x)) fun e w' => e = .returned v ∧ ∃ m, w' = (w.drewN (a + x)).drewN m) : Calls P f args (w.drewN (a + x)) fun e w'' => e = .returned v ∧ ∃ n, w'' = w.drewN (a + n) :=
  h.mono fun _ _ ⟨he, m, hm⟩ => ⟨he, x + m, by rw [hm, drewN_add, Nat.add_assoc]⟩
theorem ReadsA.drewN {w : World} {v : Value} {l : List PAct} (h : ReadsA w v l) (n : Nat) : ReadsA (w.drewN n) v l := h
set_option maxHeartbeats 8000000 in
set_option maxRecDepth 100000 in
theorem sameProg (vc1 vt1 vc2 vt2 : Value) (p : Pg) (w : World) (h1 : PgAt w vc1 vt1 p) (h2 : PgAt w vc2 vt2 p) (hok : pgOk p = true) :
    Calls Tryd.prog 9 #[.agg #[vc1, vt1], .agg #[vc2, vt2]] w fun e w' => e = .returned (.bool true) ∧ Below w.heap.size w w' := by
  obtain ⟨c1, c4, d1, d4, _, hts⟩ := pgOk_parts hok
  obtain ⟨hc1, ht1⟩ := h1
  obtain ⟨hc2, ht2⟩ := h2
  obtain ⟨Ac1, cc1, rfl⟩ := hc1.shape
  obtain ⟨At1, ct1, rfl⟩ := ht1.shape
  obtain ⟨Ac2, cc2, rfl⟩ := hc2.shape
  obtain ⟨At2, ct2, rfl⟩ := ht2.shape
  rw [ints_len] at hc1 hc2 ⊢
  have HTS := hid hts
  have hb0 := ((Below.refl w.heap.size w).alloc (Nat.le_refl _) (.cells #[.slice Ac1 p.cells.length cc1, .slice At1 p.threads.length ct1] 25)).alloc (by simp) (.cells #[.slice Ac2 p.cells.length cc2, .slice At2 p.threads.length ct2] 25)
  have HW0 := hid hb0
  have HC := hid (sameInts _ _ p.cells _ (hc1.below hb0 (Nat.le_refl _)) (hc2.below hb0 (Nat.le_refl _)) (by omega))
  have HT1 := hid (ReadsH.below ht1 hb0)
  have HT2 := hid (ReadsH.below ht2 hb0)
  have HB1 := hid ((Blk.new w 25 #[.slice Ac1 p.cells.length cc1, .slice At1 p.threads.length ct1]).alloc (.cells #[.slice Ac2 p.cells.length cc2, .slice At2 p.threads.length ct2] 25))
  have hb2 := Blk.new (w.alloc (.cells #[.slice Ac1 p.cells.length cc1, .slice At1 p.threads.length ct1] 25)) 25 #[.slice Ac2 p.cells.length cc2, .slice At2 p.threads.length ct2]
  rw [World.size_alloc] at hb2
  have HB2 := hid hb2
  clear hts hc1 hc2 ht1 ht2 hb0 hb2
  go_enter Tryd.func9, Tryd.ntmps9
  go_wp2_with fail
  refine HC.out.mono ?_
  rintro e w1 ⟨rfl, n0, rfl⟩
  clear HC
  go_wp2_with fail
  generalize (w.alloc (.cells #[.slice Ac1 p.cells.length cc1, .slice At1 p.threads.length ct1] 25)).alloc (.cells #[.slice Ac2 p.cells.length cc2, .slice At2 p.threads.length ct2] 25) = w0 at *
  have x0 := HB1.out.cell 0
  have x1 := HB1.out.cell 1
  have y0 := HB2.out.cell 0
  have y1 := HB2.out.cell 1
  go_loopw [6] (fun si wr => ∃ k n : Nat, si = .int .i64 k ∧ k ≤ p.threads.length ∧ wr = w0.drewN n) (fun si _ => 5 - (intOf si).toNat)
  case atStart => exact ⟨0, _, rfl, Nat.zero_le _, rfl⟩
  case round =>
    obtain ⟨k, n, rfl, hk, rfl⟩ := hrel
    by_cases hlt : k < p.threads.length
    · obtain ⟨t, ht⟩ : ∃ t, p.threads[k]? = some t := ⟨p.threads[k], List.getElem?_eq_getElem hlt⟩
      obtain ⟨b1, o1, u1, rfl, e1, hR1, _, k1⟩ := HT1.out.at ht
      obtain ⟨b2, o2, u2, rfl, e2, hR2, _, k2⟩ := HT2.out.at ht
      obtain ⟨A1, cp1, rfl⟩ := hR1.shape
      obtain ⟨A2, cp2, rfl⟩ := hR2.shape
      have HTO := hid (thrOk_parts (HTS.out t (List.mem_of_getElem? ht)))
      have ht3 := HTO.out.1
      have HR1 := hid hR1
      have HR2 := hid hR2
      clear ht hR1 hR2
      go_wp2_with fail
      go_quiet (fail)
      rename_i nq
      go_wp2_with fail
      go_loopw [7] (fun si wr => ∃ j n : Nat, si = .int .i64 j ∧ j ≤ t.length ∧ wr = w0.drewN n) (fun si _ => 5 - (intOf si).toNat)
      case atStart => exact ⟨0, _, rfl, Nat.zero_le _, drewN_add _ _ _⟩
      case round =>
        obtain ⟨j, n2, rfl, hj, rfl⟩ := hrel
        by_cases hlt2 : j < t.length
        · obtain ⟨l, hl⟩ : ∃ l, t[j]? = some l := ⟨t[j], List.getElem?_eq_getElem hlt2⟩
          obtain ⟨b3, o3, u3, rfl, e3, hR3, _, k3⟩ := HR1.out.at hl
          obtain ⟨b4, o4, u4, rfl, e4, hR4, _, k4⟩ := HR2.out.at hl
          obtain ⟨A3, cp3, rfl⟩ := hR3.shape
          obtain ⟨A4, cp4, rfl⟩ := hR4.shape
          have HLO := hid (txOk_parts (HTO.out.2 l (List.mem_of_getElem? hl)))
          have HSA := hid (fun m => sameActs _ _ l (w0.drewN m) (hR3.drewN m) (hR4.drewN m) (by have := HLO.out.2.1; omega))
          clear hl hR3 hR4
          go_wp2_with fail
          go_quiet ((go_at_call 26; exact quiet_more3 (HSA.out _)))
          go_wp2_with fail
          go_roundw
          case rel => exact ⟨j + 1, _, by go_num, by omega, by first | rfl | exact drewN_add _ _ _⟩
          case measure => simp [intOf] <;> omega
        · go_wp2_with fail
          go_roundw
          case rel => exact ⟨k + 1, _, by go_num, by omega, rfl⟩
          case measure => simp [intOf] <;> omega
    · go_wp2_with fail
      go_ret
      exact ⟨rfl, ((Only.refl [] w0).drewN n).below_of (B := w.heap.size) HW0.out.size (by simp) |> HW0.out.trans⟩
end Go.Proofs.YtdfkegflnebckaaDoor
