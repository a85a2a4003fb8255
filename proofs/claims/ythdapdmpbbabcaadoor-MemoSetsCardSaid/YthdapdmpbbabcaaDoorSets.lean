/-
  MemoSets: for every budget, every list of numbers, every number that is asked for, the law answers true, and nothing that was there has turned.
-/
import Derived.Test.YthdapdmpbbabcaaDoorFirst
import Derived.Test.YthdapdmpbbabcaaDoorPlace
import Derived.Test.YthdapdmpbbabcaaDoorSetI
namespace Go.Proofs.YthdapdmpbbabcaaDoor
open Go.RowKit Go.Maps

theorem neq_sent (a : Addr) (w : World) : (binOp .neq 46 (.iface 77 (.pointer (some a))) (.iface 77 (.pointer (some a)))).run Tryd.prog w = .ok (.bool false) w := by
  obtain ⟨i, hi, hc⟩ := Option.map_eq_some_iff.1 comp77
  obtain ⟨j, hj, _⟩ := Option.map_eq_some_iff.1 info94
  simp only [binOp]
  simp [Op.equal, Op.maxDepth, run_equalIn_iface_ptr_same w 9998 a Tryd.underlying46 Tryd.underlying77 hi hc hj]

theorem sets_big (most ask : Int) (A : Option Addr) (n c : Nat) (w : World) (hs : Sent w) (hbig : (300 : Int) < (n : Int)) :
    Calls Tryd.prog 5 #[.int .i64 most, .slice A n c, .int .i64 ask] w fun e w' => e = .returned (.bool true) ∧ Below w.heap.size w w' := by
  have hF := hid (first w hs)
  clear hs
  go_enter Tryd.func5, Tryd.ntmps5
  go_wp2_with fail
  refine hF.out.mono ?_
  rintro e w1 ⟨rfl, hO⟩
  have hb := hO.below_of (Nat.le_refl _) (by simp)
  clear hF hO
  go_wp2
  go_ret
  exact ⟨rfl, hb⟩

set_option maxHeartbeats 8000000 in
set_option maxRecDepth 100000 in
theorem sets (most ask : Int) (A : Option Addr) (n c b off : Nat) (Z : Nat → Int) (w : World) (hs : Sent w) (hA : 0 < n → A = some ⟨b, off, none⟩) (hn : n ≤ 9223372036854775807) (hmost : most ≤ 9223372036854775807) (hmin : -9223372036854775808 ≤ most)
    (hask : SetI.KeyOk ask) (hc : ∀ j, j < n → w.cell? ⟨b, off + j, none⟩ = some (.int .i64 (Z j)) ∧ SetI.KeyOk (Z j)) :
    Calls Tryd.prog 5 #[.int .i64 most, .slice A n c, .int .i64 ask] w fun e w' => e = .returned (.bool true) ∧ Below w.heap.size w w' := by
  by_cases hbig : (300 : Int) < (n : Int)
  · exact sets_big most ask A n c w hs hbig
  have hsm : (n : Int) ≤ 300 := by omega
  have hF := hid (first w hs)
  obtain ⟨ea, hea⟩ := hs
  have hneq := neq_sent ea
  have h0 : 0 < w.heap.size := World.block_lt_of_cell? w _ hea
  have HEA := hid hea
  clear hea hbig
  obtain ⟨M, hM⟩ : ∃ M, M = most.toNat := ⟨_, rfl⟩
  have hM1 : (0 ≤ most → (M : Int) = most) ∧ (most < 0 → M = 0) := ⟨by omega, by omega⟩
  have hM9 : (M : Int) ≤ 9223372036854775807 := by omega
  have hNew := hid (fun W => SetI.new most W)
  rw [← hM] at hNew
  have HM := hid hM
  clear hM hM1
  go_enter Tryd.func5, Tryd.ntmps5
  go_wp2_with fail
  refine hF.out.mono ?_
  rintro e w1 ⟨rfl, hO⟩
  have hb1 : Below w.heap.size w w1 := hO.below_of (Nat.le_refl _) (by simp)
  have hsz := hb1.size
  clear hF hO
  go_wp2_with fail
  refine (hNew.out w1).mono ?_
  rintro e w2 ⟨rfl, hset2, hO2⟩
  have hb2 : Below w.heap.size w w2 := below_only hb1 hO2 hb1.size (by simp)
  clear hb1 hO2 hNew
  go_wp2_with fail
  go_loopw [9, 10] (fun sv i wr => ∃ (k : Nat) (m : List Int) (S : List Nat) (A2 : Option Addr) (cap2 : Nat), sv = .slice A2 m.length cap2 ∧ k ≤ n ∧ i = .int .i64 k ∧ m.length ≤ k ∧ SetI.SetAt wr (w1.heap.size + 1) S M m ∧
      wr.ownsRow w.heap.size 3 1 sv m.length (m.map (Value.int .i64)) ∧ (∀ g, sv.ownBlock = some g → g ∉ S) ∧ Below w.heap.size w wr ∧ (∀ x ∈ S, w.heap.size ≤ x)) (fun _ i _ => n - (intOf i).toNat)
  case atStart =>
    exact ⟨0, [], [w1.heap.size + 1, w1.heap.size], none, 0, rfl, Nat.zero_le _, rfl, Nat.zero_le _, hset2, World.ownsRow_nil _ _ _ _, by simp [Value.ownBlock], hb2, by intro x hx; simp at hx; omega⟩
  case round =>
    obtain ⟨k, m, S, A2, cap2, rfl, hk, rfl, hmk, hset, hown, hdis, hb, hSb⟩ := hrel
    clear hset2 hb2
    by_cases hlt : k < n
    · have hA' := hA (by omega)
      subst hA'
      obtain ⟨c1, kz⟩ := hc k hlt
      have hg : b < w.heap.size := World.block_lt_of_cell? w _ c1
      have c1w := hid c1
      rw [← hb.cell (p := ⟨b, off + k, none⟩) hg] at c1
      generalize Z k = z at *
      have hlen : m.length ≤ 300 := by omega
      have HS := hid hSb
      have HD := hid hdis
      have HSet := hid hset
      have HRow := hid hown
      have HB := hid hb
      have hge := hid ((hb.cell (p := ⟨0, 0, none⟩) h0).trans HEA.out)
      clear hc hA hSb hdis hset hown hb
      by_cases hzm : z ∈ m
      · -- it is there
        have hadd := hid (SetI.add_old _ M S m z wr HSet.out kz hzm)
        have hpz := hid (place _ m z wr HRow.out (by omega))
        obtain ⟨jz, hjz⟩ : ∃ j : Nat, pos m z = (j : Int) := ⟨m.idxOf z, by simp [pos, hzm]⟩
        rw [hjz] at hpz
        clear hzm hjz
        go_wp2_with fail
        refine hadd.out.mono ?_
        rintro e w3 ⟨rfl, rfl⟩
        go_wp2_with fail
        refine hpz.out.mono ?_
        rintro e w3 ⟨rfl, rfl⟩
        clear hadd hpz
        go_wp2_with fail
        have hpl := hid (SetI.place _ M _ m ask wr HSet.out hask)
        have hpc := hid (place _ m ask wr HRow.out (by omega))
        have hle := hid (SetI.len _ M _ m wr HSet.out)
        have hro := hid (SetI.room _ M _ m wr HSet.out hM9)
        have hlM : m.length ≤ M := by obtain ⟨_, _, _, _, _, h, _⟩ := HSet.out; exact h
        by_cases hin : ask ∈ m
        · have hdec : decide (ask ∈ m) = true := by simpa using hin
          obtain ⟨j, hp1, hp2⟩ : ∃ j : Nat, pos m ask = (j : Int) ∧ (SetI.plc m ask).getD 0 = (j : Int) := ⟨m.idxOf ask, by simp [pos, hin], by simp [SetI.plc, hin]⟩
          rw [hp2, hdec] at hpl
          rw [hp1] at hpc
          have HDec := hid hdec
          clear hin hp1 hp2 hdec
          rcases Int.lt_or_le most 0 with hneg | hnn
          · have hM0 : M = 0 := by have := HM.out; omega
            subst hM0
            have hz : ((0 : Int) - (m.length : Int) != 0 - (m.length : Int)) = false := by simp
            go_wp2_with fail
            refine hpl.out.mono ?_
            rintro e w6 ⟨rfl, rfl⟩
            go_wp2_with fail
            refine hpc.out.mono ?_
            rintro e w6 ⟨rfl, rfl⟩
            go_wp2_with fail
            refine hle.out.mono ?_
            rintro e w6 ⟨rfl, rfl⟩
            go_wp2_with fail
            refine hro.out.mono ?_
            rintro e w6 ⟨rfl, hd6⟩
            have hO6 := only_of_drew hd6
            have hset6 := HSet.out.only hO6 (by simp)
            have hrow6 := row_only HRow.out hO6 (by simp)
            have hb6 := below_only HB.out hO6 HB.out.size (by simp)
            have hha := hid (SetI.has _ _ _ m ask w6 hset6 hask)
            have HSet6 := hid hset6
            have HRow6 := hid hrow6
            have HB6 := hid hb6
            clear hd6 hO6 hset6 hrow6 hb6
            go_wp2_with fail
            refine hha.out.mono ?_
            rw [HDec.out]
            rintro e w7 ⟨rfl, rfl⟩
            go_wp2
            go_roundw
            case rel => exact ⟨k + 1, m, S, A2, cap2, rfl, by omega, by go_num, by omega, HSet6.out, HRow6.out, HD.out, HB6.out, HS.out⟩
            case measure => simp [intOf] <;> omega
          · have hz : ((M : Int) - (m.length : Int) != most - (m.length : Int)) = false := by
              have h : (M : Int) = most := by have := HM.out; omega
              rw [h]
              simp
            go_wp2_with fail
            refine hpl.out.mono ?_
            rintro e w6 ⟨rfl, rfl⟩
            go_wp2_with fail
            refine hpc.out.mono ?_
            rintro e w6 ⟨rfl, rfl⟩
            go_wp2_with fail
            refine hle.out.mono ?_
            rintro e w6 ⟨rfl, rfl⟩
            go_wp2_with fail
            refine hro.out.mono ?_
            rintro e w6 ⟨rfl, hd6⟩
            have hO6 := only_of_drew hd6
            have hset6 := HSet.out.only hO6 (by simp)
            have hrow6 := row_only HRow.out hO6 (by simp)
            have hb6 := below_only HB.out hO6 HB.out.size (by simp)
            have hha := hid (SetI.has _ _ _ m ask w6 hset6 hask)
            have HSet6 := hid hset6
            have HRow6 := hid hrow6
            have HB6 := hid hb6
            clear hd6 hO6 hset6 hrow6 hb6
            go_wp2_with fail
            refine hha.out.mono ?_
            rw [HDec.out]
            rintro e w7 ⟨rfl, rfl⟩
            go_wp2
            go_roundw
            case rel => exact ⟨k + 1, m, S, A2, cap2, rfl, by omega, by go_num, by omega, HSet6.out, HRow6.out, HD.out, HB6.out, HS.out⟩
            case measure => simp [intOf] <;> omega
        · have hdec : decide (ask ∈ m) = false := by simpa using hin
          have hp1 : pos m ask = -1 := by simp [pos, hin]
          have hp2 : (SetI.plc m ask).getD 0 = 0 := by simp [SetI.plc, hin]
          rw [hp2, hdec] at hpl
          rw [hp1] at hpc
          have HDec := hid hdec
          clear hin hp1 hp2 hdec
          rcases Int.lt_or_le most 0 with hneg | hnn
          · have hM0 : M = 0 := by have := HM.out; omega
            subst hM0
            have hz : ((0 : Int) - (m.length : Int) != 0 - (m.length : Int)) = false := by simp
            go_wp2_with fail
            refine hpl.out.mono ?_
            rintro e w6 ⟨rfl, rfl⟩
            go_wp2_with fail
            refine hpc.out.mono ?_
            rintro e w6 ⟨rfl, rfl⟩
            go_wp2_with fail
            refine hle.out.mono ?_
            rintro e w6 ⟨rfl, rfl⟩
            go_wp2_with fail
            refine hro.out.mono ?_
            rintro e w6 ⟨rfl, hd6⟩
            have hO6 := only_of_drew hd6
            have hset6 := HSet.out.only hO6 (by simp)
            have hrow6 := row_only HRow.out hO6 (by simp)
            have hb6 := below_only HB.out hO6 HB.out.size (by simp)
            have hha := hid (SetI.has _ _ _ m ask w6 hset6 hask)
            have HSet6 := hid hset6
            have HRow6 := hid hrow6
            have HB6 := hid hb6
            clear hd6 hO6 hset6 hrow6 hb6
            go_wp2_with fail
            refine hha.out.mono ?_
            rw [HDec.out]
            rintro e w7 ⟨rfl, rfl⟩
            go_wp2
            go_roundw
            case rel => exact ⟨k + 1, m, S, A2, cap2, rfl, by omega, by go_num, by omega, HSet6.out, HRow6.out, HD.out, HB6.out, HS.out⟩
            case measure => simp [intOf] <;> omega
          · have hz : ((M : Int) - (m.length : Int) != most - (m.length : Int)) = false := by
              have h : (M : Int) = most := by have := HM.out; omega
              rw [h]
              simp
            go_wp2_with fail
            refine hpl.out.mono ?_
            rintro e w6 ⟨rfl, rfl⟩
            go_wp2_with fail
            refine hpc.out.mono ?_
            rintro e w6 ⟨rfl, rfl⟩
            go_wp2_with fail
            refine hle.out.mono ?_
            rintro e w6 ⟨rfl, rfl⟩
            go_wp2_with fail
            refine hro.out.mono ?_
            rintro e w6 ⟨rfl, hd6⟩
            have hO6 := only_of_drew hd6
            have hset6 := HSet.out.only hO6 (by simp)
            have hrow6 := row_only HRow.out hO6 (by simp)
            have hb6 := below_only HB.out hO6 HB.out.size (by simp)
            have hha := hid (SetI.has _ _ _ m ask w6 hset6 hask)
            have HSet6 := hid hset6
            have HRow6 := hid hrow6
            have HB6 := hid hb6
            clear hd6 hO6 hset6 hrow6 hb6
            go_wp2_with fail
            refine hha.out.mono ?_
            rw [HDec.out]
            rintro e w7 ⟨rfl, rfl⟩
            go_wp2
            go_roundw
            case rel => exact ⟨k + 1, m, S, A2, cap2, rfl, by omega, by go_num, by omega, HSet6.out, HRow6.out, HD.out, HB6.out, HS.out⟩
            case measure => simp [intOf] <;> omega
      · have hpn : pos m z = -1 := by simp [pos, hzm]
        by_cases hfull : m.length = M
        · -- no room
          have hadd := hid (SetI.add_full _ M S m z _ wr HSet.out kz hzm hfull hge.out)
          have hmf : most ≤ (m.length : Int) := by have := HM.out; omega
          have hdf : decide (most ≤ (m.length : Int)) = true := by simpa using hmf
          clear hzm hfull
          go_wp2_with fail
          refine hadd.out.mono ?_
          rintro e w3 ⟨rfl, hd3⟩
          have hO3 := only_of_drew hd3
          have hset3 := HSet.out.only hO3 (by simp)
          have hrow3 := row_only HRow.out hO3 (by simp)
          have hb3 := below_only HB.out hO3 HB.out.size (by simp)
          have hpz := hid (place _ m z w3 hrow3 (by omega))
          rw [hpn] at hpz
          have c3 : w3.cell? ⟨b, off + k, none⟩ = some (.int .i64 z) := (hb3.cell (p := ⟨b, off + k, none⟩) hg).trans c1w.out
          have ge3 : w3.cell? ⟨0, 0, none⟩ = some (.iface 77 (.pointer (some ea))) := (hb3.cell (p := ⟨0, 0, none⟩) h0).trans HEA.out
          have HSet3 := hid hset3
          have HRow3 := hid hrow3
          have HB3 := hid hb3
          clear hadd hd3 hO3 hset3 hrow3 hb3 hpn c1
          go_wp2_with fail
          refine hpz.out.mono ?_
          rintro e w4 ⟨rfl, rfl⟩
          clear hpz
          go_wp2_with fail
          have hpl := hid (SetI.place _ M _ m ask w3 HSet3.out hask)
          have hpc := hid (place _ m ask w3 HRow3.out (by omega))
          have hle := hid (SetI.len _ M _ m w3 HSet3.out)
          have hro := hid (SetI.room _ M _ m w3 HSet3.out hM9)
          have hlM : m.length ≤ M := by obtain ⟨_, _, _, _, _, h, _⟩ := HSet3.out; exact h
          by_cases hin : ask ∈ m
          · have hdec : decide (ask ∈ m) = true := by simpa using hin
            obtain ⟨j, hp1, hp2⟩ : ∃ j : Nat, pos m ask = (j : Int) ∧ (SetI.plc m ask).getD 0 = (j : Int) := ⟨m.idxOf ask, by simp [pos, hin], by simp [SetI.plc, hin]⟩
            rw [hp2, hdec] at hpl
            rw [hp1] at hpc
            have HDec := hid hdec
            clear hin hp1 hp2 hdec
            rcases Int.lt_or_le most 0 with hneg | hnn
            · have hM0 : M = 0 := by have := HM.out; omega
              subst hM0
              have hz : ((0 : Int) - (m.length : Int) != 0 - (m.length : Int)) = false := by simp
              go_wp2_with fail
              refine hpl.out.mono ?_
              rintro e w6 ⟨rfl, rfl⟩
              go_wp2_with fail
              refine hpc.out.mono ?_
              rintro e w6 ⟨rfl, rfl⟩
              go_wp2_with fail
              refine hle.out.mono ?_
              rintro e w6 ⟨rfl, rfl⟩
              go_wp2_with fail
              refine hro.out.mono ?_
              rintro e w6 ⟨rfl, hd6⟩
              have hO6 := only_of_drew hd6
              have hset6 := HSet3.out.only hO6 (by simp)
              have hrow6 := row_only HRow3.out hO6 (by simp)
              have hb6 := below_only HB3.out hO6 HB3.out.size (by simp)
              have hha := hid (SetI.has _ _ _ m ask w6 hset6 hask)
              have HSet6 := hid hset6
              have HRow6 := hid hrow6
              have HB6 := hid hb6
              clear hd6 hO6 hset6 hrow6 hb6
              go_wp2_with fail
              refine hha.out.mono ?_
              rw [HDec.out]
              rintro e w7 ⟨rfl, rfl⟩
              go_wp2
              go_roundw
              case rel => exact ⟨k + 1, m, S, A2, cap2, rfl, by omega, by go_num, by omega, HSet6.out, HRow6.out, HD.out, HB6.out, HS.out⟩
              case measure => simp [intOf] <;> omega
            · have hz : ((M : Int) - (m.length : Int) != most - (m.length : Int)) = false := by
                have h : (M : Int) = most := by have := HM.out; omega
                rw [h]
                simp
              go_wp2_with fail
              refine hpl.out.mono ?_
              rintro e w6 ⟨rfl, rfl⟩
              go_wp2_with fail
              refine hpc.out.mono ?_
              rintro e w6 ⟨rfl, rfl⟩
              go_wp2_with fail
              refine hle.out.mono ?_
              rintro e w6 ⟨rfl, rfl⟩
              go_wp2_with fail
              refine hro.out.mono ?_
              rintro e w6 ⟨rfl, hd6⟩
              have hO6 := only_of_drew hd6
              have hset6 := HSet3.out.only hO6 (by simp)
              have hrow6 := row_only HRow3.out hO6 (by simp)
              have hb6 := below_only HB3.out hO6 HB3.out.size (by simp)
              have hha := hid (SetI.has _ _ _ m ask w6 hset6 hask)
              have HSet6 := hid hset6
              have HRow6 := hid hrow6
              have HB6 := hid hb6
              clear hd6 hO6 hset6 hrow6 hb6
              go_wp2_with fail
              refine hha.out.mono ?_
              rw [HDec.out]
              rintro e w7 ⟨rfl, rfl⟩
              go_wp2
              go_roundw
              case rel => exact ⟨k + 1, m, S, A2, cap2, rfl, by omega, by go_num, by omega, HSet6.out, HRow6.out, HD.out, HB6.out, HS.out⟩
              case measure => simp [intOf] <;> omega
          · have hdec : decide (ask ∈ m) = false := by simpa using hin
            have hp1 : pos m ask = -1 := by simp [pos, hin]
            have hp2 : (SetI.plc m ask).getD 0 = 0 := by simp [SetI.plc, hin]
            rw [hp2, hdec] at hpl
            rw [hp1] at hpc
            have HDec := hid hdec
            clear hin hp1 hp2 hdec
            rcases Int.lt_or_le most 0 with hneg | hnn
            · have hM0 : M = 0 := by have := HM.out; omega
              subst hM0
              have hz : ((0 : Int) - (m.length : Int) != 0 - (m.length : Int)) = false := by simp
              go_wp2_with fail
              refine hpl.out.mono ?_
              rintro e w6 ⟨rfl, rfl⟩
              go_wp2_with fail
              refine hpc.out.mono ?_
              rintro e w6 ⟨rfl, rfl⟩
              go_wp2_with fail
              refine hle.out.mono ?_
              rintro e w6 ⟨rfl, rfl⟩
              go_wp2_with fail
              refine hro.out.mono ?_
              rintro e w6 ⟨rfl, hd6⟩
              have hO6 := only_of_drew hd6
              have hset6 := HSet3.out.only hO6 (by simp)
              have hrow6 := row_only HRow3.out hO6 (by simp)
              have hb6 := below_only HB3.out hO6 HB3.out.size (by simp)
              have hha := hid (SetI.has _ _ _ m ask w6 hset6 hask)
              have HSet6 := hid hset6
              have HRow6 := hid hrow6
              have HB6 := hid hb6
              clear hd6 hO6 hset6 hrow6 hb6
              go_wp2_with fail
              refine hha.out.mono ?_
              rw [HDec.out]
              rintro e w7 ⟨rfl, rfl⟩
              go_wp2
              go_roundw
              case rel => exact ⟨k + 1, m, S, A2, cap2, rfl, by omega, by go_num, by omega, HSet6.out, HRow6.out, HD.out, HB6.out, HS.out⟩
              case measure => simp [intOf] <;> omega
            · have hz : ((M : Int) - (m.length : Int) != most - (m.length : Int)) = false := by
                have h : (M : Int) = most := by have := HM.out; omega
                rw [h]
                simp
              go_wp2_with fail
              refine hpl.out.mono ?_
              rintro e w6 ⟨rfl, rfl⟩
              go_wp2_with fail
              refine hpc.out.mono ?_
              rintro e w6 ⟨rfl, rfl⟩
              go_wp2_with fail
              refine hle.out.mono ?_
              rintro e w6 ⟨rfl, rfl⟩
              go_wp2_with fail
              refine hro.out.mono ?_
              rintro e w6 ⟨rfl, hd6⟩
              have hO6 := only_of_drew hd6
              have hset6 := HSet3.out.only hO6 (by simp)
              have hrow6 := row_only HRow3.out hO6 (by simp)
              have hb6 := below_only HB3.out hO6 HB3.out.size (by simp)
              have hha := hid (SetI.has _ _ _ m ask w6 hset6 hask)
              have HSet6 := hid hset6
              have HRow6 := hid hrow6
              have HB6 := hid hb6
              clear hd6 hO6 hset6 hrow6 hb6
              go_wp2_with fail
              refine hha.out.mono ?_
              rw [HDec.out]
              rintro e w7 ⟨rfl, rfl⟩
              go_wp2
              go_roundw
              case rel => exact ⟨k + 1, m, S, A2, cap2, rfl, by omega, by go_num, by omega, HSet6.out, HRow6.out, HD.out, HB6.out, HS.out⟩
              case measure => simp [intOf] <;> omega
        · -- a new one
          have hlM0 : m.length ≤ M := by obtain ⟨_, _, _, _, _, h, _⟩ := HSet.out; exact h
          have hfl : m.length < M := by omega
          have hadd := hid (SetI.add_new _ M S m z wr HSet.out kz hzm hfl (by omega))
          have hmf : (m.length : Int) < most := by have := HM.out; omega
          have hdf : decide (most ≤ (m.length : Int)) = false := by simpa using hmf
          clear hzm hfull
          go_wp2_with fail
          refine hadd.out.mono ?_
          rintro e w3 ⟨rfl, S3, hset3, hO3, hN3⟩
          have hrow3 := row_only HRow.out hO3 HD.out
          have hb3 := below_only HB.out hO3 HB.out.size HS.out
          have hpz := hid (place _ m z w3 hrow3 (by omega))
          rw [hpn] at hpz
          have c3 : w3.cell? ⟨b, off + k, none⟩ = some (.int .i64 z) := (hb3.cell (p := ⟨b, off + k, none⟩) hg).trans c1w.out
          have hd3 : ∀ g, (Value.slice A2 m.length cap2).ownBlock = some g → g ∉ S3 := fun g hg' hm => by
            rcases hN3 g hm with h | h
            · exact HD.out g hg' h
            · have := (row_own HRow.out hg').2; omega
          have hs3 : ∀ x ∈ S3, w.heap.size ≤ x := fun x hx => by
            rcases hN3 x hx with h | h
            · exact HS.out x h
            · have := HB.out.size; omega
          have HSet3 := hid hset3
          have HD3 := hid hd3
          have HS3 := hid hs3
          have hsz3 := hb3.size
          clear hadd hO3 hset3 hN3 hd3 hs3 hpn c1
          go_wp2_with fail
          refine hpz.out.mono ?_
          rintro e w4 ⟨rfl, rfl⟩
          clear hpz
          obtain ⟨i0, hi, hz0, hz1, hz2⟩ := info_parts infoInt
          go_wp2_with (at_builtin; refine wpList_append_own_at _ rfl _ _ 24 rfl w.heap.size 3 i0 (.int .i64 0) 1 8 Tryd.underlying24 hi hz0 hz1 hz2 rfl (by decide) _ _ _ rfl (hrow3.alloc _) ⟨w3.heap.size, 0, none⟩ 1 1 [.int .i64 z] rfl rfl (cell_one_new _ _ _) (by simp [Value.oneCell']) (by unfold maxLen; omega) (by omega) (by simp; omega) ?_)
          intro v' w5 hown' hgrow _ hloc
          have hb5 : Below w.heap.size w w5 := (hb3.alloc hb3.size _).grown hgrow (by simp; omega) (fun x hx => (row_own hrow3 hx).1)
          have hO5 : Only (Value.slice A2 m.length cap2).ownBlock.toList w3 w5 := ((Only.refl _ w3).alloc _).grown hgrow (fun x hx => .inl (by simp [hx]))
          have hset5 := HSet3.out.only hO5 (fun x hx hm => HD3.out x (by simpa using hm) hx)
          have hd5 : ∀ g, v'.ownBlock = some g → g ∉ S3 := fun g hg' hm => by
            rcases hloc with h | h
            · exact HD3.out g (by rw [← h]; exact hg') hm
            · rw [h] at hg'
              have := HSet3.out.lt g hm
              simp at hg'
              omega
          have hrow5 : w5.ownsRow w.heap.size 3 1 v' (m ++ [z]).length ((m ++ [z]).map (Value.int .i64)) := by simpa using hown'
          obtain ⟨A5, cap5, rfl⟩ := row_shape hrow5
          have hl5 : (m ++ [z]).length = m.length + 1 := by simp
          generalize m ++ [z] = m5 at *
          have hlen5 : m5.length ≤ 301 := by omega
          have HSet5 := hid hset5
          have HRow5 := hid hrow5
          have HB5 := hid hb5
          have HD5 := hid hd5
          have hmk5 : m5.length ≤ k + 1 := by omega
          clear hi hz0 hz1 hz2 hown' hgrow hloc hb5 hO5 hset5 hd5 hrow5 hrow3 hb3 c3 hl5 hlen hmk hsz3 HSet3 HD3
          go_wp2_with fail
          have hpl := hid (SetI.place _ M _ m5 ask w5 HSet5.out hask)
          have hpc := hid (place _ m5 ask w5 HRow5.out (by omega))
          have hle := hid (SetI.len _ M _ m5 w5 HSet5.out)
          have hro := hid (SetI.room _ M _ m5 w5 HSet5.out hM9)
          have hlM : m5.length ≤ M := by obtain ⟨_, _, _, _, _, h, _⟩ := HSet5.out; exact h
          by_cases hin : ask ∈ m5
          · have hdec : decide (ask ∈ m5) = true := by simpa using hin
            obtain ⟨j, hp1, hp2⟩ : ∃ j : Nat, pos m5 ask = (j : Int) ∧ (SetI.plc m5 ask).getD 0 = (j : Int) := ⟨m5.idxOf ask, by simp [pos, hin], by simp [SetI.plc, hin]⟩
            rw [hp2, hdec] at hpl
            rw [hp1] at hpc
            have HDec := hid hdec
            clear hin hp1 hp2 hdec
            rcases Int.lt_or_le most 0 with hneg | hnn
            · exact absurd hneg (by omega)
            · have hz : ((M : Int) - (m5.length : Int) != most - (m5.length : Int)) = false := by
                have h : (M : Int) = most := by have := HM.out; omega
                rw [h]
                simp
              go_wp2_with fail
              refine hpl.out.mono ?_
              rintro e w6 ⟨rfl, rfl⟩
              go_wp2_with fail
              refine hpc.out.mono ?_
              rintro e w6 ⟨rfl, rfl⟩
              go_wp2_with fail
              refine hle.out.mono ?_
              rintro e w6 ⟨rfl, rfl⟩
              go_wp2_with fail
              refine hro.out.mono ?_
              rintro e w6 ⟨rfl, hd6⟩
              have hO6 := only_of_drew hd6
              have hset6 := HSet5.out.only hO6 (by simp)
              have hrow6 := row_only HRow5.out hO6 (by simp)
              have hb6 := below_only HB5.out hO6 HB5.out.size (by simp)
              have hha := hid (SetI.has _ _ _ m5 ask w6 hset6 hask)
              have HSet6 := hid hset6
              have HRow6 := hid hrow6
              have HB6 := hid hb6
              clear hd6 hO6 hset6 hrow6 hb6
              go_wp2_with fail
              refine hha.out.mono ?_
              rw [HDec.out]
              rintro e w7 ⟨rfl, rfl⟩
              go_wp2
              go_roundw
              case rel => exact ⟨k + 1, m5, S3, A5, cap5, rfl, by omega, by go_num, by omega, HSet6.out, HRow6.out, HD5.out, HB6.out, HS3.out⟩
              case measure => simp [intOf] <;> omega
          · have hdec : decide (ask ∈ m5) = false := by simpa using hin
            have hp1 : pos m5 ask = -1 := by simp [pos, hin]
            have hp2 : (SetI.plc m5 ask).getD 0 = 0 := by simp [SetI.plc, hin]
            rw [hp2, hdec] at hpl
            rw [hp1] at hpc
            have HDec := hid hdec
            clear hin hp1 hp2 hdec
            rcases Int.lt_or_le most 0 with hneg | hnn
            · exact absurd hneg (by omega)
            · have hz : ((M : Int) - (m5.length : Int) != most - (m5.length : Int)) = false := by
                have h : (M : Int) = most := by have := HM.out; omega
                rw [h]
                simp
              go_wp2_with fail
              refine hpl.out.mono ?_
              rintro e w6 ⟨rfl, rfl⟩
              go_wp2_with fail
              refine hpc.out.mono ?_
              rintro e w6 ⟨rfl, rfl⟩
              go_wp2_with fail
              refine hle.out.mono ?_
              rintro e w6 ⟨rfl, rfl⟩
              go_wp2_with fail
              refine hro.out.mono ?_
              rintro e w6 ⟨rfl, hd6⟩
              have hO6 := only_of_drew hd6
              have hset6 := HSet5.out.only hO6 (by simp)
              have hrow6 := row_only HRow5.out hO6 (by simp)
              have hb6 := below_only HB5.out hO6 HB5.out.size (by simp)
              have hha := hid (SetI.has _ _ _ m5 ask w6 hset6 hask)
              have HSet6 := hid hset6
              have HRow6 := hid hrow6
              have HB6 := hid hb6
              clear hd6 hO6 hset6 hrow6 hb6
              go_wp2_with fail
              refine hha.out.mono ?_
              rw [HDec.out]
              rintro e w7 ⟨rfl, rfl⟩
              go_wp2
              go_roundw
              case rel => exact ⟨k + 1, m5, S3, A5, cap5, rfl, by omega, by go_num, by omega, HSet6.out, HRow6.out, HD5.out, HB6.out, HS3.out⟩
              case measure => simp [intOf] <;> omega
    · have HA := hid hA
      clear hc hA hset hown
      go_wp2
      go_ret
      exact ⟨rfl, hb⟩
end Go.Proofs.YthdapdmpbbabcaaDoor
