/-
  MemoStays: for every budget, every list of texts, the law answers true, and nothing that was there has turned.
-/
import Derived.Shelf.Abstract
import Derived.Deep.Cut
import Derived.Deep.CutRange
import Derived.Deep.RegionWith
import Derived.Deep.DrawnRows
import Derived.Deep.QuietTactic
import Derived.BigQuiet
import Derived.Test.YthdapdmpbbabcaaDoorFirst
import Derived.Test.YthdapdmpbbabcaaDoorStaysL
import Derived.Test.YthdapdmpbbabcaaDoorEach
namespace Go.Proofs.YthdapdmpbbabcaaDoor.SetS
open Go.RowKit Go.Maps Go.Shelf
attribute [local go_sem ↓] Go.wp_at_zero Go.wp_at_succ
attribute [local go_sem] Oper.semAt_some

theorem res7 (tmps : Array Value) (w : World) (g : Nat) (x : Bool) (hp : tmps.getD 4 undef = .pointer (some ⟨g, 0, none⟩)) (hc : w.cell? ⟨g, 0, none⟩ = some (.bool x)) : (results Tryd.f7 tmps).run Tryd.prog w = .ok (.bool x) w := by
  have hp' : tmps[4]?.getD undef = .pointer (some ⟨g, 0, none⟩) := by simpa using hp
  simp [results, Tryd.f7, hp', go_sem, hc]
theorem leave_marks7 (w : World) (g : Nat) (tmps : Array Value) (ht : tmps.getD 4 undef = .pointer (some ⟨g, 0, none⟩)) : ∀ (Ds : List Nat) (W : World), Ds.Nodup → (∀ D ∈ Ds, W.heap[D]? = some (.deferred (some [])) ∧ w.heap.size ≤ D) →
    W.cell? ⟨g, 0, none⟩ = some (.bool true) → Below w.heap.size w W →
    LeavesInM Fence.wide 8 Tryd.prog Tryd.f7 tmps (fun e w' => e = .returned (.bool true) ∧ Below w.heap.size w w') (Ds.map fun D => { target := .collected D, args := #[] }) .returning W
  | [], W, _, _, hc, hb => ⟨_, res7 tmps W g true ht hc, rfl, hb⟩
  | D :: Ds, W, hn, hD, hc, hb => by
    have hK := (hD D (by simp)).1
    refine ⟨by simp, .inl ⟨D, _, rfl, run_takeDeferred hK, ?_⟩⟩
    rw [List.nodup_cons] at hn
    refine leave_marks7 w g tmps ht Ds _ hn.2 (fun D' hD' => ?_) (cell_kept hc (grownBy_putObj' W D (.deferred none)) (fun r e => by cases e; exact ⟨_, hK, rfl⟩)) (hb.trans (belowK_b (w := w) (Nat.le_refl _) W D _ _ (hD D (by simp)).2 hK rfl rfl))
    have hne : D' ≠ D := fun e => hn.1 (e ▸ hD')
    exact ⟨(World.putObj_heap_other hne).trans (hD D' (List.mem_cons_of_mem _ hD')).1, (hD D' (List.mem_cons_of_mem _ hD')).2⟩

set_option maxHeartbeats 8000000 in
set_option maxRecDepth 100000 in
theorem stays (most : Int) (A : Option Addr) (n c b0 off : Nat) (Z : Nat → ByteArray) (w : World) (hs : Sent w) (hA : 0 < n → A = some ⟨b0, off, none⟩) (hn9 : n ≤ 9223372036854775807) (hmost : most ≤ 9223372036854775807) (hmin : -9223372036854775808 ≤ most)
    (hc : ∀ j, j < n → w.cell? ⟨b0, off + j, none⟩ = some (.string (Z j)) ∧ KeyOk (Z j)) :
    Calls Tryd.prog 7 #[.int .i64 most, .slice A n c] w fun e w' => e = .returned (.bool true) ∧ Below w.heap.size w w' := by
  obtain ⟨ea, hea⟩ := hs
  have hbx := Blk.new w 4 #[.bool false]
  have hO0 : Only [] w (w.alloc (.cells #[.bool false] 4)) := (Only.refl _ _).alloc _
  have hF := hid (first _ (sent3 ⟨ea, hea⟩ hO0))
  have h0 : 0 < w.heap.size := World.block_lt_of_cell? w _ hea
  have HEA := hid hea
  have hX := hid (And.intro hbx hO0)
  clear hbx hO0 hea
  obtain ⟨M, hM⟩ : ∃ M, M = most.toNat := ⟨_, rfl⟩
  have hM1 : (0 ≤ most → (M : Int) = most) ∧ (most < 0 → M = 0) := ⟨by omega, by omega⟩
  have hM9 : (M : Int) ≤ 9223372036854775807 := by omega
  have hNew := hid (fun W => new most W)
  rw [← hM] at hNew
  have HM := hid hM
  clear hM hM1
  refine (callsIn_wide (n := 8)).1 (callsIn_of_wp_marks Tryd.func7 rfl trivial ?_)
  refine wpIn_wide.2 (wp_mono ?_ (calm_le _))
  simp only [Tryd.ntmps7, List.size_toArray, List.length_cons, List.length_nil, Nat.reduceAdd, Nat.reduceSub, Array.replicate_succ, Array.replicate_zero, List.push_toArray, List.append_toArray, List.nil_append, List.cons_append]
  go_wp2_with fail
  refine hF.out.mono ?_
  rintro e w1 ⟨rfl, hO⟩
  have hb1 : Below w.heap.size w w1 := below_only (hX.out.2.below_of (Nat.le_refl _) (by simp)) hO (by simp) (by simp)
  have y3 := hid (hX.out.1.only hO (by simp))
  have hsz := hb1.size
  clear hF hO hX
  go_wp2_with fail
  go_loop [6, 7] (fun a i => ∃ k s : Nat, k ≤ n ∧ k ≤ 301 ∧ a = .int .i64 s ∧ i = .int .i64 k ∧ s ≤ 10000 * k) (fun _ i => 302 - (intOf i).toNat)
  case atStart => exact ⟨0, 0, Nat.zero_le _, by omega, rfl, rfl, by omega⟩
  case round =>
    have hc0 := And.intro hA hc
    obtain ⟨k, s, hk, hk3, rfl, rfl, hs⟩ := hrel
    by_cases hlt : k < n
    · by_cases hk1 : k ≤ 300
      · have hA' := hA (by omega)
        subst hA'
        obtain ⟨c1, kz⟩ := hc k hlt
        have hg : b0 < w.heap.size := World.block_lt_of_cell? w _ c1
        rw [← hb1.cell (p := ⟨b0, off + k, none⟩) hg] at c1
        generalize Z k = z at *
        have t1 : decide ((k : Int) ≤ 300) = true := by simp; omega
        have hz9 : z.size ≤ 9223372036854775807 := by have := kz; unfold KeyOk maxLen at this; omega
        have HC := hid hc
        clear hc hA hc0
        go_wp2
        refine ⟨?_, by simp [intOf] <;> omega⟩
        by_cases h10 : (10000 : Int) < (z.size : Int)
        · exact ⟨k + 1, s + 10000, by omega, by omega, by rw [if_pos h10]; simp, by simp, by omega⟩
        · exact ⟨k + 1, s + z.size, by omega, by omega, by rw [if_neg h10]; simp, by simp, by omega⟩
      · have t1 : decide ((k : Int) ≤ 300) = false := by simp; omega
        have t2 : decide ((300 : Int) < (n : Int)) = true := by simp; omega
        have c8 := y3.out.cell 0
        have f8 := y3.out.frozen 0
        have c8' := hid (World.cell?_setCell_same' w1 ⟨w.heap.size, 0, none⟩ (.bool true) (by rw [c8]; rfl))
        have hB := hid (hb1.setCell (p := ⟨w.heap.size, 0, none⟩) (Nat.le_refl _) (.bool true))
        clear hc hA hc0 hb1
        go_wp2
        exact leave_marks7 w w.heap.size _ rfl [] _ List.nodup_nil (fun D h => by cases h) c8'.out hB.out
    · by_cases hbig : 300 < n ∨ 20000 < s
      · have c8 := y3.out.cell 0
        have f8 := y3.out.frozen 0
        have c8' := hid (World.cell?_setCell_same' w1 ⟨w.heap.size, 0, none⟩ (.bool true) (by rw [c8]; rfl))
        have hB := hid (hb1.setCell (p := ⟨w.heap.size, 0, none⟩) (Nat.le_refl _) (.bool true))
        clear hc hA hc0 hb1
        by_cases h3 : 300 < n
        · have t2 : decide ((300 : Int) < (n : Int)) = true := by simp; omega
          go_wp2
          exact leave_marks7 w w.heap.size _ rfl [] _ List.nodup_nil (fun D h => by cases h) c8'.out hB.out
        · have t2 : decide ((300 : Int) < (n : Int)) = false := by simp; omega
          have t3 : decide ((20000 : Int) < (s : Int)) = true := by simp; omega
          go_wp2
          exact leave_marks7 w w.heap.size _ rfl [] _ List.nodup_nil (fun D h => by cases h) c8'.out hB.out
      · have t2 : decide ((300 : Int) < (n : Int)) = false := by simp; omega
        have t3 : decide ((20000 : Int) < (s : Int)) = false := by simp; omega
        have hn3 : n ≤ 300 := by omega
        clear hbig hc hA
        have HC := hid hc0
        go_wp2_with fail
        refine (hNew.out w1).mono ?_
        rintro e w2 ⟨rfl, hset2, hO2⟩
        have st : St w [(w.heap.size, bx 4 (.bool false))] (w1.heap.size + 1) w1.heap.size M (.slice none 0 0) [] [] w2 := by
          have z3 := y3.out.lt
          refine ⟨⟨_, hset2, rfl, by simp; omega, by simp; omega, by simp [Value.ownBlock]⟩, ?_, by simp, World.ownsRow_nil _ _ _ _, below_only hb1 hO2 hsz (by simp)⟩
          intro p hp
          simp only [List.mem_cons, List.not_mem_nil, or_false] at hp
          subst hp
          exact ⟨y3.out.only hO2 (by simp), by simp, by simp [Value.ownBlock]⟩
        have st5 := st.alloc (bx 56 (.pointer (some ⟨w1.heap.size + 1, 0, none⟩)))
        have hz2 := st.size
        clear hset2 hO2 y3 hb1 hNew st
        go_wp2_with fail
        go_loopw [9] (fun i wr => ∃ (k : Nat) (q : List ByteArray), k ≤ n ∧ i = .int .i64 k ∧ q.length ≤ k ∧ (∀ x ∈ q, KeyOk x) ∧ q.Nodup ∧
            St w [(w2.heap.size, bx 56 (.pointer (some ⟨w1.heap.size + 1, 0, none⟩))), (w.heap.size, bx 4 (.bool false))] (w1.heap.size + 1) w1.heap.size M (.slice none 0 0) [] q wr) (fun i _ => n - (intOf i).toNat)
        case atStart =>
          exact ⟨0, [], Nat.zero_le _, rfl, Nat.zero_le _, by simp, by simp, st5⟩
        case round =>
          -- REST
          obtain ⟨k, q, hk, rfl, hqk, hqok, hnd, st⟩ := hrel
          clear st5
          have c8 := st.cell (g := w2.heap.size) (t := 56) (v := (.pointer (some ⟨w1.heap.size + 1, 0, none⟩))) (by simp)
          by_cases hlt : k < n
          · have hA' := HC.out.1 (by omega)
            subst hA'
            obtain ⟨c1, kz⟩ := HC.out.2 k hlt
            have hg : b0 < w.heap.size := World.block_lt_of_cell? w _ c1
            have c1w := hid c1
            rw [← st.below.cell (p := ⟨b0, off + k, none⟩) hg] at c1
            generalize Z k = z at *
            have HQ := hid (And.intro hqok hnd)
            have hlen := hid st.len
            have hpl := hid (st.place z kz)
            have hle := st.le
            have ST := hid st
            clear hqok hnd st
            by_cases hzm : z ∈ q
            · have hd : decide (z ∈ q) = true := by simpa using hzm
              obtain ⟨j, hj⟩ : ∃ j : Nat, (plc q z).getD 0 = (j : Int) := ⟨q.idxOf z, by simp [plc, hzm]⟩
              rw [hj, hd] at hpl
              have hadd := hid (ST.out.add_old z kz hzm)
              have hjj : ((j : Int) != (j : Int)) = false := by simp
              clear hj hd hzm
              go_wp2_with (go_at_call 27; refine hlen.out.mono ?_; rintro e w3 ⟨rfl, rfl⟩)
              go_quiet ((go_at_call 28; first | exact quiet_more (hpl.out _) | exact quiet_add (hpl.out _)))
              rename_i nq1
              go_wp2_with fail
              go_quiet ((go_at_call 29; first | exact quiet_more (hadd.out _) | exact quiet_add (hadd.out _)))
              rename_i nq2
              go_wp2_with fail
              go_quiet ((go_at_call 28; first | exact quiet_more (hpl.out _) | exact quiet_add (hpl.out _)))
              rename_i nq3
              go_wp2_with fail
              obtain ⟨r, hr⟩ : ∃ r : Nat, q.length + r = M := ⟨M - q.length, by omega⟩
              have hlq := hid (ST.out.lenQ)
              have hrq := hid (ST.out.room hM9 (r : Int) (by omega))
              have hwr : IntKind.i64.wrap ((q.length : Int) + (r : Int)) = (q.length : Int) + (r : Int) := IntWalk.i64_in _ (by omega)
              rcases Int.lt_or_le most 0 with hneg | hnn
              · have hM0 : M = 0 := by have := HM.out; omega
                have hz : ((q.length : Int) + (r : Int) != 0) = false := by simp; omega
                clear hM0
                have HR := hid hr
                clear hr
                go_quiet ((first | (go_at_call 27; first | exact quiet_more (hlq.out _) | exact quiet_add (hlq.out _)) | (go_at_call 30; first | exact quiet_more (hrq.out _) | exact quiet_add (hrq.out _))))
                clear hwr hz
                go_wp2_with fail
                go_roundw
                case rel => exact ⟨k + 1, q, by omega, by go_num, by omega, HQ.out.1, HQ.out.2, ST.out.drewN _⟩
                case measure => simp [intOf] <;> omega
              · have hz : ((q.length : Int) + (r : Int) != most) = false := by have := HM.out; simp; omega
                have HR := hid hr
                clear hr
                go_quiet ((first | (go_at_call 27; first | exact quiet_more (hlq.out _) | exact quiet_add (hlq.out _)) | (go_at_call 30; first | exact quiet_more (hrq.out _) | exact quiet_add (hrq.out _))))
                clear hwr hz
                go_wp2_with fail
                go_roundw
                case rel => exact ⟨k + 1, q, by omega, by go_num, by omega, HQ.out.1, HQ.out.2, ST.out.drewN _⟩
                case measure => simp [intOf] <;> omega
            · by_cases hf : q.length = M
              · have hd : decide (z ∈ q) = false := by simpa using hzm
                have hj : (plc q z).getD 0 = 0 := by simp [plc, hzm]
                rw [hj, hd] at hpl
                have hadd := hid (ST.out.add_full h0 _ HEA.out z kz hzm hf)
                have hen := fun W => neq_nil ea W
                have hfM : M ≤ q.length := by omega
                clear hj hd hzm hf
                go_wp2_with (go_at_call 27; refine hlen.out.mono ?_; rintro e w3 ⟨rfl, rfl⟩)
                go_quiet ((go_at_call 28; first | exact quiet_more (hpl.out _) | exact quiet_add (hpl.out _)))
                rename_i nq1
                go_wp2_with fail
                go_quiet ((go_at_call 29; first | exact quiet_more (hadd.out _) | exact quiet_add (hadd.out _)))
                rename_i nq2
                go_wp2_with fail
                go_quiet ((go_at_call 28; first | exact quiet_more (hpl.out _) | exact quiet_add (hpl.out _)))
                rename_i nq3
                go_wp2_with fail
                obtain ⟨r, hr⟩ : ∃ r : Nat, q.length + r = M := ⟨M - q.length, by omega⟩
                have hlq := hid (ST.out.lenQ)
                have hrq := hid (ST.out.room hM9 (r : Int) (by omega))
                have hwr : IntKind.i64.wrap ((q.length : Int) + (r : Int)) = (q.length : Int) + (r : Int) := IntWalk.i64_in _ (by omega)
                rcases Int.lt_or_le most 0 with hneg | hnn
                · have hM0 : M = 0 := by have := HM.out; omega
                  have hz : ((q.length : Int) + (r : Int) != 0) = false := by simp; omega
                  clear hM0
                  have hr0 : ((r : Int) != 0) = false := by simp; omega
                  have HR := hid hr
                  clear hr
                  go_quiet ((first | (go_at_call 27; first | exact quiet_more (hlq.out _) | exact quiet_add (hlq.out _)) | (go_at_call 30; first | exact quiet_more (hrq.out _) | exact quiet_add (hrq.out _))))
                  clear hwr hz hr0 hen
                  go_wp2_with fail
                  go_roundw
                  case rel => exact ⟨k + 1, q, by omega, by go_num, by omega, HQ.out.1, HQ.out.2, ST.out.drewN _⟩
                  case measure => simp [intOf] <;> omega
                · have hz : ((q.length : Int) + (r : Int) != most) = false := by have := HM.out; simp; omega
                  have hr0 : ((r : Int) != 0) = false := by simp; omega
                  have HR := hid hr
                  clear hr
                  go_quiet ((first | (go_at_call 27; first | exact quiet_more (hlq.out _) | exact quiet_add (hlq.out _)) | (go_at_call 30; first | exact quiet_more (hrq.out _) | exact quiet_add (hrq.out _))))
                  clear hwr hz hr0 hen
                  go_wp2_with fail
                  go_roundw
                  case rel => exact ⟨k + 1, q, by omega, by go_num, by omega, HQ.out.1, HQ.out.2, ST.out.drewN _⟩
                  case measure => simp [intOf] <;> omega
              · have hd : decide (z ∈ q) = false := by simpa using hzm
                have hj : (plc q z).getD 0 = 0 := by simp [plc, hzm]
                rw [hj, hd] at hpl
                have hadd := hid (fun n => (ST.out.drewN n).add_new z kz hzm (by omega) (by omega))
                have hj2 : (plc (q ++ [z]) z).getD 0 = (q.length : Int) := by rw [← plc_snoc hzm]; simp [upd]
                have hd2 : decide (z ∈ q ++ [z]) = true := by simp
                have hqok2 : ∀ x ∈ q ++ [z], KeyOk x := by
                  intro x hx
                  rcases List.mem_append.1 hx with hx | hx
                  · exact HQ.out.1 x hx
                  · obtain rfl : x = z := by simpa using hx
                    exact kz
                have hnd2 : (q ++ [z]).Nodup := by
                  rw [List.nodup_append]
                  refine ⟨HQ.out.2, by simp, ?_⟩
                  intro a ha b hb e
                  obtain rfl : b = z := by simpa using hb
                  exact hzm (e ▸ ha)
                have hl2 : (q ++ [z]).length = q.length + 1 := by simp
                have hjj : ((q.length : Int) != (q.length : Int)) = false := by simp
                generalize q ++ [z] = q2 at *
                have HQ2 := hid (And.intro hqok2 hnd2)
                have HD2 := hid (And.intro hj2 hd2)
                have HL2 := hid hl2
                clear hj hd hzm hj2 hd2 hqok2 hnd2 hl2
                go_wp2_with (go_at_call 27; refine hlen.out.mono ?_; rintro e w3 ⟨rfl, rfl⟩)
                go_quiet ((go_at_call 28; first | exact quiet_more (hpl.out _) | exact quiet_add (hpl.out _)))
                rename_i nq1
                go_wp2_with fail
                go_upto_region 17 with fail
                go_cut [13, 14] from 74 to 83 (fun s13 s14 wx => s13 = .bool true ∧ s14 = .nilIface ∧ St w [(w2.heap.size, bx 56 (.pointer (some ⟨w1.heap.size + 1, 0, none⟩))), (w.heap.size, bx 4 (.bool false))] (w1.heap.size + 1) w1.heap.size M (.slice none 0 0) [] q2 wx)
                case first =>
                  go_region_with (go_at_call 29; refine (hadd.out _).mono ?_; rintro e w3 ⟨rfl, st3⟩)
                  all_goals (go_wp2_with fail; go_meet)
                  all_goals exact ⟨rfl, rfl, st3⟩
                case rest =>
                clear hadd hpl c8 c1
                obtain ⟨rfl, rfl, st3⟩ := hcut
                have hpl2 := hid (st3.place z kz)
                rw [HD2.out.1, HD2.out.2] at hpl2
                have hle2 := st3.le
                have c8 := st3.cell (g := w2.heap.size) (t := 56) (v := (.pointer (some ⟨w1.heap.size + 1, 0, none⟩))) (by simp)
                have c1 : wc.cell? ⟨b0, off + k, none⟩ = some (.string z) := (st3.below.cell (p := ⟨b0, off + k, none⟩) hg).trans c1w.out
                have ST3 := hid st3
                clear st3
                go_wp2_with fail
                go_quiet ((go_at_call 28; first | exact quiet_more (hpl2.out _) | exact quiet_add (hpl2.out _)))
                rename_i nq3
                go_wp2_with fail
                have hl2 : q2.length = q.length + 1 := HL2.out
                have hqk2 : q2.length ≤ k + 1 := by omega
                obtain ⟨r, hr⟩ : ∃ r : Nat, q2.length + r = M := ⟨M - q2.length, by omega⟩
                have hlq := hid (ST3.out.lenQ)
                have hrq := hid (ST3.out.room hM9 (r : Int) (by omega))
                have hwr : IntKind.i64.wrap ((q2.length : Int) + (r : Int)) = (q2.length : Int) + (r : Int) := IntWalk.i64_in _ (by omega)
                rcases Int.lt_or_le most 0 with hneg | hnn
                · have hM0 : M = 0 := by have := HM.out; omega
                  have hz : ((q2.length : Int) + (r : Int) != 0) = false := by simp; omega
                  clear hM0
                  have HR := hid (And.intro hr hl2)
                  clear hr hl2
                  go_quiet ((first | (go_at_call 27; first | exact quiet_more (hlq.out _) | exact quiet_add (hlq.out _)) | (go_at_call 30; first | exact quiet_more (hrq.out _) | exact quiet_add (hrq.out _))))
                  clear hwr hz
                  go_wp2_with fail
                  go_roundw
                  case rel => exact ⟨k + 1, q2, by omega, by go_num, by omega, HQ2.out.1, HQ2.out.2, ST3.out.drewN _⟩
                  case measure => simp [intOf] <;> omega
                · have hz : ((q2.length : Int) + (r : Int) != most) = false := by have := HM.out; simp; omega
                  have HR := hid (And.intro hr hl2)
                  clear hr hl2
                  go_quiet ((first | (go_at_call 27; first | exact quiet_more (hlq.out _) | exact quiet_add (hlq.out _)) | (go_at_call 30; first | exact quiet_more (hrq.out _) | exact quiet_add (hrq.out _))))
                  clear hwr hz
                  go_wp2_with fail
                  go_roundw
                  case rel => exact ⟨k + 1, q2, by omega, by go_num, by omega, HQ2.out.1, HQ2.out.2, ST3.out.drewN _⟩
                  case measure => simp [intOf] <;> omega
          · have HN := hid hnd
            clear hnd
            clear HC
            have hnd := HN.out
            have sta : St w [(wr.heap.size, bx 3 (.int .i64 0)), (wr.heap.size + 1, bx 56 (.pointer (some ⟨w1.heap.size + 1, 0, none⟩))), (w2.heap.size, bx 56 (.pointer (some ⟨w1.heap.size + 1, 0, none⟩))), (w.heap.size, bx 4 (.bool false))] (w1.heap.size + 1) w1.heap.size M (.slice none 0 0) [] q ((wr.alloc (.cells #[.int .i64 0] 3)).alloc (.cells #[(.pointer (some ⟨w1.heap.size + 1, 0, none⟩))] 56)) := by
              have h := (st.alloc (bx 3 (.int .i64 0))).alloc (bx 56 (.pointer (some ⟨w1.heap.size + 1, 0, none⟩)))
              rw [World.size_alloc] at h
              exact h.swap
            have HSTA := hid sta
            have HQ := hid (And.intro hqok hnd)
            have l8 := World.block_lt_of_cell? _ _ c8
            clear st sta hqok hnd HN
            go_wp2_with (go_at_call 31; refine (SetS.each _ _).mono ?_; rintro e w3 ⟨rfl, rfl⟩)
            clear c8 l8
            have sta := HSTA.out
            clear HSTA
            generalize (wr.alloc (.cells #[.int .i64 0] 3)).alloc (.cells #[(.pointer (some ⟨w1.heap.size + 1, 0, none⟩))] 56) = wa at sta ⊢
            have hq3 : q.length ≤ 300 := by omega
            refine wp_mid (fun D W => St w [(D, .deferred (some [])), (wr.heap.size, bx 3 (.int .i64 (q.length : Int))), (wr.heap.size + 1, bx 56 (.pointer (some ⟨w1.heap.size + 1, 0, none⟩))), (w2.heap.size, bx 56 (.pointer (some ⟨w1.heap.size + 1, 0, none⟩))), (w.heap.size, bx 4 (.bool false))] (w1.heap.size + 1) w1.heap.size M (.slice none 0 0) [] q W) ?range ?rest
            case range =>
              obtain ⟨A0, cap0, g, hb2, hA0, hcs, hgn⟩ := sta.came
              have hbf := sta.cell (g := wr.heap.size + 1) (t := 56) (v := (.pointer (some ⟨w1.heap.size + 1, 0, none⟩))) (by simp)
              have hLlt : ∀ (v : Value), ∀ p ∈ [(wr.heap.size, bx 3 v), (wr.heap.size + 1, bx 56 (.pointer (some ⟨w1.heap.size + 1, 0, none⟩))), (w2.heap.size, bx 56 (.pointer (some ⟨w1.heap.size + 1, 0, none⟩))), (w.heap.size, bx 4 (.bool false))], p.1 < wa.heap.size := by
                intro v p hp
                rcases List.mem_cons.1 hp with rfl | hp
                · exact sta.lt (p := (wr.heap.size, bx 3 (.int .i64 0))) (by simp)
                · exact sta.lt (List.mem_cons_of_mem _ hp)
              have hbb := sta.blt
              have hBs := sta.size
              have HG := hid hgn
              clear hgn
              refine (wpIn_wide (n := 8)).1 ?_
              apply wpIn_rangeFunc_ownG (n := 8) rfl (by omega) (gf := 39) (lb := #[.pointer (some ⟨wr.heap.size + 1, 0, none⟩)]) rfl trivial (enters_of Tryd.func39 (by kernel_rfl) rfl)
                (SetS.each_stops Fence.wide (8 - 1) trivial rfl (by omega) (wr.heap.size + 1) (w1.heap.size + 1) g q.length cap0 A0 hA0 (by omega) (fun j => .string (q[j]?.getD .empty)) wa hbf hb2 hcs)
                (fun h k => SetS.Kept.trans h k) (fun W l o o' _ h1 h2 _ => SetS.Kept.putObj W l o o' h1 h2) (Below.refl _ _) (fun _ => rfl)
                (fun (pre : List Nat) W => St w [(wr.heap.size, bx 3 (.int .i64 (pre.length : Int))), (wr.heap.size + 1, bx 56 (.pointer (some ⟨w1.heap.size + 1, 0, none⟩))), (w2.heap.size, bx 56 (.pointer (some ⟨w1.heap.size + 1, 0, none⟩))), (w.heap.size, bx 4 (.bool false))] (w1.heap.size + 1) w1.heap.size M (.slice none 0 0) [] q W)
                (fun c (pre : List Nat) W => c = .ret ∧ ∃ (pre' : List Nat) (x : Nat), pre = pre' ++ [x] ∧ x ≠ pre'.length)
                (fun pre W W' row h hg hr => h.turn (hLlt _) hbb.1 hbb.2 hBs hg hr)
                (fun c pre W W' row h hg hr => h)
                sta (a₁ := _) ?assign ?body ?done ?stop
              case assign =>
                intro l x W K hK
                gi_wp2
                exact hK
              case body =>
                rintro l pre x W st hlt
                have hpl0 : pre.length < q.length := hlt
                have c17 := st.cell (g := wr.heap.size) (t := 3) (v := .int .i64 (pre.length : Int)) (by simp)
                have f17 := st.frozen (g := wr.heap.size) (t := 3) (v := .int .i64 (pre.length : Int)) (by simp)
                have c10 := st.cell (g := w2.heap.size) (t := 56) (v := (.pointer (some ⟨w1.heap.size + 1, 0, none⟩))) (by simp)
                have c8 := st.cell (g := w.heap.size) (t := 4) (v := .bool false) (by simp)
                have f8 := st.frozen (g := w.heap.size) (t := 4) (v := .bool false) (by simp)
                by_cases hx : x = pre.length
                · subst hx
                  obtain ⟨v, hv, hvq, hvp⟩ : ∃ v, q[pre.length]?.getD .empty = v ∧ v ∈ q ∧ (plc q v).getD 0 = (pre.length : Int) := by
                    refine ⟨q[pre.length], by simp [List.getElem?_eq_getElem hpl0], List.getElem_mem hpl0, ?_⟩
                    simp [plc, HQ.out.2.idxOf_getElem pre.length hpl0]
                  have kv := HQ.out.1 v hvq
                  have hvd : decide (v ∈ q) = true := by simpa using hvq
                  have hpl := st.place0 v kv
                  have hha := st.has0 v kv
                  rw [hvp, hvd] at hpl
                  rw [hvd] at hha
                  have HPL := hid hpl
                  have HHA := hid hha
                  have hput := hid (st.put (.int .i64 ((pre.length : Int) + 1)))
                  have H17 := hid (HG.out (by omega)).2.2
                  have t2 : ((pre.length : Int) != (pre.length : Int)) = false := by simp
                  have hN := hid (show (((pre ++ [pre.length]).length : Nat) : Int) = (pre.length : Int) + 1 by simp)
                  rw [hv]
                  clear hv hvq hvp hvd hpl hha st hA0 hcs hb2 hbf c8 f8
                  gi_wp2_with fail
                  refine ⟨trivial, ?_⟩
                  refine (CallsIn.inRound l (callsIn_wide.2 HPL.out)).mono ?_
                  rintro e w3 ⟨rfl, rfl⟩
                  gi_wp2_with fail
                  refine ⟨trivial, ?_⟩
                  refine (CallsIn.inRound l (callsIn_wide.2 HHA.out)).mono ?_
                  rintro e w3 ⟨rfl, rfl⟩
                  gi_wp2
                  exact ⟨(KeepsOthers.setCell _ _ _).from _, fun j v hj hv => (World.cell?_of_block (Below.heap_setCell W _ _ g (H17.out (wr.heap.size, bx 3 (.int .i64 0)) (by simp)))).trans hv, by show St _ _ _ _ _ _ _ _ _; rw [hN.out]; exact hput.out⟩
                · have t2 : ((x : Int) != (pre.length : Int)) = true := by simp; omega
                  have kv : KeyOk (q[x]?.getD .empty) := by
                    cases h : q[x]? with
                    | none => simp [KeyOk, maxLen]
                    | some v => exact HQ.out.1 v (List.mem_of_getElem? h)
                  have HPL := hid (st.place0 _ kv)
                  generalize (q[x]?.getD .empty) = v at HPL ⊢
                  clear st hA0 hcs hb2 hbf
                  gi_wp2_with fail
                  refine ⟨trivial, ?_⟩
                  refine (CallsIn.inRound l (callsIn_wide.2 HPL.out)).mono ?_
                  rintro e w3 ⟨rfl, rfl⟩
                  gi_wp2_with fail
                  refine ⟨trivial, ?_⟩
                  gi_wp2
                  exact ⟨(KeepsOthers.setCell _ _ _).from _, rfl, pre, x, rfl, hx⟩
              case done =>
                rintro D ys W hD rfl st hK
                rw [List.length_range] at st
                exact ⟨.inl rfl, D, rfl, st.mark hK (hLlt _) hbb.1 hbb.2 hBs hD⟩
              case stop =>
                rintro D c pre W hD ⟨kk, hkk, rfl⟩ ⟨_, pre', x, e, hne⟩ hK
                exact absurd (range_snoc e) hne
            case rest =>
              rintro D wb st
              have c17 := st.cell (g := wr.heap.size) (t := 3) (v := .int .i64 (q.length : Int)) (by simp)
              have c10 := st.cell (g := w2.heap.size) (t := 56) (v := (.pointer (some ⟨w1.heap.size + 1, 0, none⟩))) (by simp)
              have c8 := st.cell (g := w.heap.size) (t := 4) (v := .bool false) (by simp)
              have f8 := st.frozen (g := w.heap.size) (t := 4) (v := .bool false) (by simp)
              have hne : D ≠ w.heap.size := fun e => by have h := st.nodup; simp [e] at h
              have HO := hid (fun n => (st.drewN n).objs (D, .deferred (some [])) (by simp))
              have HC8 := hid (fun n => (st.drewN n).cell (g := w.heap.size) (t := 4) (v := .bool false) (by simp))
              have HB := hid (fun n => (st.drewN n).below)
              have HND := hid hne
              have hlen := hid (fun n => (st.drewN n).len)
              have tb : ((q.length : Int) == (q.length : Int)) = true := by simp
              clear st sta hne
              go_wp2_with fail
              go_region_with (go_at_call 27; refine (hlen.out _).mono ?_; rintro e w3 ⟨rfl, rfl⟩)
              all_goals go_wp2_with fail
              all_goals
                exact leave_marks7 w w.heap.size _ rfl [D] _ (by simp)
                  (fun D' hD => by
                    obtain rfl : D' = D := by simpa using hD
                    exact ⟨(Below.heap_setCell _ ⟨w.heap.size, 0, none⟩ _ _ HND.out).trans (HO.out _).1, (HO.out 0).2.1⟩)
                  (World.cell?_setCell_same' _ ⟨w.heap.size, 0, none⟩ (.bool true) (by rw [HC8.out]; rfl)) ((HB.out _).setCell (p := ⟨w.heap.size, 0, none⟩) (by simp) _)
end Go.Proofs.YthdapdmpbbabcaaDoor.SetS
