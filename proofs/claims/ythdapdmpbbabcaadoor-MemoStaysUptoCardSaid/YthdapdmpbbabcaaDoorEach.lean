/-
  MemoEach: for every budget, every list of numbers, every place to stop at and every number to add on the way, the law answers true, and nothing that was there has turned.
-/
import Derived.Shelf.Abstract
import Derived.Deep.Cut
import Derived.Deep.CutRange
import Derived.Deep.RegionWith
import Derived.Deep.DrawnRows
import Derived.Deep.AppendLies
import Derived.Deep.RegionLaw
import Derived.Test.YthdapdmpbbabcaaDoorFirst
import Derived.Test.YthdapdmpbbabcaaDoorPlace
import Derived.Test.YthdapdmpbbabcaaDoorSt
namespace Go.Proofs.YthdapdmpbbabcaaDoor
open Go.RowKit Go.Maps Go.Shelf
attribute [local go_sem ↓] Go.wp_at_zero Go.wp_at_succ
attribute [local go_sem] Oper.semAt_some

theorem boxes3 (w : World) (v1 v2 v3 : Value) (t1 t2 t3 : TypeId) : Blk (((w.alloc (.cells #[v1] t1)).alloc (.cells #[v2] t2)).alloc (.cells #[v3] t3)) w.heap.size t1 #[v1] ∧ Blk (((w.alloc (.cells #[v1] t1)).alloc (.cells #[v2] t2)).alloc (.cells #[v3] t3)) (w.heap.size + 1) t2 #[v2] ∧
    Blk (((w.alloc (.cells #[v1] t1)).alloc (.cells #[v2] t2)).alloc (.cells #[v3] t3)) (w.heap.size + 1 + 1) t3 #[v3] ∧ Only [] w (((w.alloc (.cells #[v1] t1)).alloc (.cells #[v2] t2)).alloc (.cells #[v3] t3)) := by
  have h1 := Blk.new w t1 #[v1]
  have h2 := Blk.new (w.alloc (.cells #[v1] t1)) t2 #[v2]
  have h3 := Blk.new ((w.alloc (.cells #[v1] t1)).alloc (.cells #[v2] t2)) t3 #[v3]
  simp only [World.size_alloc] at h2 h3
  exact ⟨(h1.alloc _).alloc _, h2.alloc _, h3, (((Only.refl _ _).alloc _).alloc _).alloc _⟩
theorem res6 (tmps : Array Value) (w : World) (g : Nat) (x : Bool) (hp : tmps.getD 8 undef = .pointer (some ⟨g, 0, none⟩)) (hc : w.cell? ⟨g, 0, none⟩ = some (.bool x)) : (results Tryd.f6 tmps).run Tryd.prog w = .ok (.bool x) w := by
  have hp' : tmps[8]?.getD undef = .pointer (some ⟨g, 0, none⟩) := by simpa using hp
  simp [results, Tryd.f6, hp', go_sem, hc]
/-- No panic. -/
def calm (Q : Exit → Act → World → Prop) : Exit → Act → World → Prop
  | .panic _, _, _ => False
  | .normal, a, w => Q .normal a w
  | .ret, a, w => Q .ret a w
  | .exit i, a, w => Q (.exit i) a w
  | .goto l, a, w => Q (.goto l) a w
  | .outgrown, a, w => Q .outgrown a w
theorem calm_le (Q : Exit → Act → World → Prop) : ∀ e a w, calm Q e a w → Q e a w := by
  intro e a w h
  cases e with
  | panic c => exact h.elim
  | normal => exact h
  | ret => exact h
  | exit i => exact h
  | goto l => exact h
  | outgrown => exact h
theorem func_nil (lb : Array Value) (w : World) : (binOp .eql 52 (.func (.func 38) #[] lb) .nilFunc).run Tryd.prog w = .ok (.bool false) w := by
  simp only [binOp]
  simp [Op.equal, Op.maxDepth, go_sem]
  kernel_rfl
theorem leave_marks (w : World) (g : Nat) (tmps : Array Value) (ht : tmps.getD 8 undef = .pointer (some ⟨g, 0, none⟩)) : ∀ (Ds : List Nat) (W : World), Ds.Nodup → (∀ D ∈ Ds, W.heap[D]? = some (.deferred (some [])) ∧ w.heap.size ≤ D) →
    W.cell? ⟨g, 0, none⟩ = some (.bool true) → Below w.heap.size w W →
    LeavesInM Fence.wide 8 Tryd.prog Tryd.f6 tmps (fun e w' => e = .returned (.bool true) ∧ Below w.heap.size w w') (Ds.map fun D => { target := .collected D, args := #[] }) .returning W
  | [], W, _, _, hc, hb => ⟨_, res6 tmps W g true ht hc, rfl, hb⟩
  | D :: Ds, W, hn, hD, hc, hb => by
    have hK := (hD D (by simp)).1
    refine ⟨by simp, .inl ⟨D, _, rfl, run_takeDeferred hK, ?_⟩⟩
    rw [List.nodup_cons] at hn
    refine leave_marks w g tmps ht Ds _ hn.2 (fun D' hD' => ?_) (cell_kept hc (grownBy_putObj' W D (.deferred none)) (fun r e => by cases e; exact ⟨_, hK, rfl⟩)) (hb.trans (belowK_b (w := w) (Nat.le_refl _) W D _ _ (hD D (by simp)).2 hK rfl rfl))
    have hne : D' ≠ D := fun e => hn.1 (e ▸ hD')
    exact ⟨(World.putObj_heap_other hne).trans (hD D' (List.mem_cons_of_mem _ hD')).1, (hD D' (List.mem_cons_of_mem _ hD')).2⟩
theorem sent3 {w W : World} (hs : Sent w) (hO : Only [] w W) : Sent W := hs.only hO (by simp)

set_option maxHeartbeats 1000000 in
theorem each_big (most stop more : Int) (A : Option Addr) (n c : Nat) (w : World) (hs : Sent w) (hbig : (300 : Int) < (n : Int)) :
    Calls Tryd.prog 6 #[.int .i64 most, .slice A n c, .int .i64 stop, .int .i64 more] w fun e w' => e = .returned (.bool true) ∧ Below w.heap.size w w' := by
  obtain ⟨x1, x2, x3, x4⟩ := boxes3 w (.int .i64 stop) (.int .i64 more) (.bool false) 3 3 4
  have hF := hid (first _ (sent3 hs x4))
  have hX := hid (And.intro x3 x4)
  clear hs x1 x2 x3 x4
  go_enter Tryd.func6, Tryd.ntmps6
  go_wp2_with fail
  refine hF.out.mono ?_
  rintro e w1 ⟨rfl, hO⟩
  have hb : Below w.heap.size w w1 := below_only (hX.out.2.below_of (Nat.le_refl _) (by simp)) hO (by simp; omega) (by simp)
  have c8 := ((hX.out.1.only hO (by simp)).cell 0)
  have f8 := ((hX.out.1.only hO (by simp)).frozen 0)
  clear hF hO hX
  have c8' := World.cell?_setCell_same' w1 ⟨w.heap.size + 1 + 1, 0, none⟩ (.bool true) (by rw [c8]; rfl)
  have hb' := hid (hb.setCell (p := ⟨w.heap.size + 1 + 1, 0, none⟩) (by simp; omega) (.bool true))
  clear hb
  go_wp2
  refine bodyPost_ret (res6 _ _ (w.heap.size + 1 + 1) true rfl c8') rfl ?_
  exact ⟨rfl, hb'.out⟩

set_option maxHeartbeats 8000000 in
set_option maxRecDepth 100000 in
theorem each (most stop more : Int) (A : Option Addr) (n c b0 off : Nat) (Z : Nat → Int) (w : World) (hs : Sent w) (hA : 0 < n → A = some ⟨b0, off, none⟩) (hmost : most ≤ 9223372036854775807) (hmin : -9223372036854775808 ≤ most)
    (hmore : SetI.KeyOk more) (hc : ∀ j, j < n → w.cell? ⟨b0, off + j, none⟩ = some (.int .i64 (Z j)) ∧ SetI.KeyOk (Z j)) :
    Calls Tryd.prog 6 #[.int .i64 most, .slice A n c, .int .i64 stop, .int .i64 more] w fun e w' => e = .returned (.bool true) ∧ Below w.heap.size w w' := by
  by_cases hbig : (300 : Int) < (n : Int)
  · exact each_big most stop more A n c w hs hbig
  have hsm : (n : Int) ≤ 300 := by omega
  obtain ⟨ea, hea⟩ := hs
  obtain ⟨x1, x2, x3, x4⟩ := boxes3 w (.int .i64 stop) (.int .i64 more) (.bool false) 3 3 4
  have hF := hid (first _ (sent3 ⟨ea, hea⟩ x4))
  have h0 : 0 < w.heap.size := World.block_lt_of_cell? w _ hea
  have HEA := hid hea
  have hX := hid (And.intro x1 (And.intro x2 (And.intro x3 x4)))
  clear x1 x2 x3 x4 hea hbig
  obtain ⟨M, hM⟩ : ∃ M, M = most.toNat := ⟨_, rfl⟩
  have hM1 : (0 ≤ most → (M : Int) = most) ∧ (most < 0 → M = 0) := ⟨by omega, by omega⟩
  have hM9 : (M : Int) ≤ 9223372036854775807 := by omega
  have hNew := hid (fun W => SetI.new most W)
  rw [← hM] at hNew
  have HM := hid hM
  clear hM hM1
  refine (callsIn_wide (n := 8)).1 (callsIn_of_wp_marks Tryd.func6 rfl trivial ?_)
  refine wpIn_wide.2 (wp_mono ?_ (calm_le _))
  simp only [Tryd.ntmps6, List.size_toArray, List.length_cons, List.length_nil, Nat.reduceAdd, Nat.reduceSub, Array.replicate_succ, Array.replicate_zero, List.push_toArray, List.append_toArray, List.nil_append, List.cons_append]
  go_wp2_with fail
  refine hF.out.mono ?_
  rintro e w1 ⟨rfl, hO⟩
  have hb1 : Below w.heap.size w w1 := below_only (hX.out.2.2.2.below_of (Nat.le_refl _) (by simp)) hO (by simp; omega) (by simp)
  have y1 := hid (hX.out.1.only hO (by simp))
  have y2 := hid (hX.out.2.1.only hO (by simp))
  have y3 := hid (hX.out.2.2.1.only hO (by simp))
  have hsz := hb1.size
  clear hF hO hX
  go_wp2_with fail
  refine (hNew.out w1).mono ?_
  rintro e w2 ⟨rfl, hset2, hO2⟩
  have st : St w [(w.heap.size + 1 + 1, bx 4 (.bool false)), (w.heap.size, bx 3 (.int .i64 stop)), (w.heap.size + 1, bx 3 (.int .i64 more))] (w1.heap.size + 1) w1.heap.size M (.slice none 0 0) [] [] w2 := by
    have z1 := y1.out.lt
    have z2 := y2.out.lt
    have z3 := y3.out.lt
    refine ⟨⟨_, hset2, rfl, by simp; omega, by simp; omega, by simp [Value.ownBlock]⟩, ?_, by simp; omega, World.ownsRow_nil _ _ _ _, below_only hb1 hO2 hsz (by simp)⟩
    intro p hp
    simp only [List.mem_cons, List.not_mem_nil, or_false] at hp
    rcases hp with rfl | rfl | rfl
    · exact ⟨y3.out.only hO2 (by simp), by simp; omega, by simp [Value.ownBlock]⟩
    · exact ⟨y1.out.only hO2 (by simp), by simp, by simp [Value.ownBlock]⟩
    · exact ⟨y2.out.only hO2 (by simp), by simp, by simp [Value.ownBlock]⟩
  clear hset2 hO2 y1 y2 y3 hb1 hNew
  have st5 := (st.alloc (bx 43 (.pointer (some ⟨w1.heap.size + 1, 0, none⟩)))).alloc (bx 24 (.slice none 0 0))
  rw [World.size_alloc] at st5
  have hz2 := st.size
  clear st
  go_wp2_with fail
  go_loopw [12] (fun i wr => ∃ (k : Nat) (m : List Int) (A2 : Option Addr) (cap2 : Nat), k ≤ n ∧ i = .int .i64 k ∧ m.length ≤ k ∧
      St w [(w2.heap.size + 1, bx 24 (.slice A2 m.length cap2)), (w2.heap.size, bx 43 (.pointer (some ⟨w1.heap.size + 1, 0, none⟩))), (w.heap.size + 1 + 1, bx 4 (.bool false)), (w.heap.size, bx 3 (.int .i64 stop)), (w.heap.size + 1, bx 3 (.int .i64 more))]
        (w1.heap.size + 1) w1.heap.size M (.slice A2 m.length cap2) m m wr) (fun i _ => n - (intOf i).toNat)
  case atStart =>
    exact ⟨0, [], none, 0, Nat.zero_le _, rfl, Nat.zero_le _, st5⟩
  case round =>
    obtain ⟨k, m, A2, cap2, hk, rfl, hmk, st⟩ := hrel
    clear st5
    have c10 := st.cell (g := w2.heap.size) (t := 43) (v := .pointer (some ⟨w1.heap.size + 1, 0, none⟩)) (by simp)
    by_cases hlt : k < n
    · -- BEGIN1
      have hA' := hA (by omega)
      subst hA'
      obtain ⟨c1, kz⟩ := hc k hlt
      have hg : b0 < w.heap.size := World.block_lt_of_cell? w _ c1
      have c1w := hid c1
      rw [← st.below.cell (p := ⟨b0, off + k, none⟩) hg] at c1
      generalize Z k = z at *
      have hlen : m.length ≤ 300 := by omega
      have std : St w _ _ _ _ _ _ _ wr.drew := st.drewN 1
      have hadd := hid (std.add h0 _ HEA.out z kz (by omega) (B := w1.heap.size + 2) (by omega) (by omega))
      have hml := hid hmk
      clear hc hA st std hmk
      go_upto_region 11 with fail
      go_cut [13, 14] from 34 to 56 (fun s13 s14 wx => ∃ q', ((q' = m ∧ s13 = .bool false) ∨ (q' = m ++ [z] ∧ s13 = .bool true)) ∧
        St w [(w2.heap.size + 1, bx 24 (.slice A2 m.length cap2)), (w2.heap.size, bx 43 (.pointer (some ⟨w1.heap.size + 1, 0, none⟩))), (w.heap.size + 1 + 1, bx 4 (.bool false)), (w.heap.size, bx 3 (.int .i64 stop)), (w.heap.size + 1, bx 3 (.int .i64 more))]
          (w1.heap.size + 1) w1.heap.size M (.slice A2 m.length cap2) m q' wx)
      case first =>
        go_region_with (go_at_call 20; refine hadd.out.mono ?_; rintro e w3 ⟨q', x1, x2, rfl, hq3, st3, _, _⟩)
        all_goals (go_wp2_with fail; go_meet)
        all_goals (refine ⟨q', ?_, st3⟩; rcases hq3 with ⟨h1, rfl⟩ | ⟨h1, _, rfl⟩; exact .inl ⟨h1, rfl⟩; exact .inr ⟨h1, rfl⟩)
      case rest =>
      clear hadd c10 c1
      obtain ⟨q', (⟨rfl, rfl⟩ | ⟨rfl, rfl⟩), st3⟩ := hcut
      · have ST3 := hid st3
        clear st3
        go_wp2
        go_roundw
        case rel => exact ⟨k + 1, q', A2, cap2, by omega, by go_num, by have := hml.out; omega, ST3.out⟩
        case measure => simp [intOf] <;> omega
      · have st4 : St w _ _ _ _ _ _ _ wc.drew := st3.drewN 1
        have c11 := st3.cell (g := w2.heap.size + 1) (t := 24) (v := .slice A2 m.length cap2) (by simp)
        have l11 : w2.heap.size + 1 < wc.heap.size := World.block_lt_of_cell? _ _ c11
        have c3 : wc.cell? ⟨b0, off + k, none⟩ = some (.int .i64 z) := (st3.below.cell (p := ⟨b0, off + k, none⟩) hg).trans c1w.out
        have f11' := st4.frozen (g := w2.heap.size + 1) (t := 24) (v := .slice A2 m.length cap2) (by simp)
        have ST4 := hid st4
        clear c1w st3 st4
        go_upto_region 13 with fail
        obtain ⟨i0, hi, hz0, hz1, hz3⟩ := info_parts infoInt
        have hne := hid (fun e : some (w2.heap.size + 1) = (Value.slice A2 m.length cap2).ownBlock => (ST4.out.objs (w2.heap.size + 1, bx 24 (.slice A2 m.length cap2)) (by simp)).2.2 e.symm)
        have c11a := (ST4.out.alloc' (.cells #[.int .i64 z] 3)).cell (g := w2.heap.size + 1) (t := 24) (v := .slice A2 m.length cap2) (by simp)
        have f11a := (ST4.out.alloc' (.cells #[.int .i64 z] 3)).frozen (g := w2.heap.size + 1) (t := 24) (v := .slice A2 m.length cap2) (by simp)
        go_region_law (refine step_append_lies _ (by rfl) _ _ _ (by rfl) w.heap.size 3 i0 _ 1 8 Tryd.underlying24 hi hz0 hz1 hz3 rfl (by omega) (.slice A2 m.length cap2) m.length (m.map (Value.int .i64)) (by rfl) (ST4.out.row.alloc _) ⟨wc.heap.size, 0, none⟩ 1 1 [.int .i64 z] (by rfl) (by rfl) (World.news_of_block (cs := #[.int .i64 z]) (t := 3) (fr := (0, 0)) (heap_alloc_new wc _)) (by simp [Value.oneCell']) (by omega) (by unfold maxLen; omega) (by omega) (by have := ST4.out.size; simp at *; omega) (wc.heap.size + 1) (by simp) ?_; intro gg cap w5 hown1 hgrow hat hlt; have c5 := (hgrow.cell_far ⟨w2.heap.size + 1, 0, none⟩ (by simp; omega) hne.out).trans c11a; have f5 := (hgrow.frozen_far ⟨w2.heap.size + 1, 0, none⟩ (by simp; omega) hne.out).trans f11a)
        all_goals
          have st5 := ((ST4.out.alloc' (.cells #[.int .i64 z] 3)).grow (msl' := .slice (some ⟨gg, 0, none⟩) (m.length + 1) cap) (m' := m ++ [z]) (by simpa using hown1) hgrow (hat.elim (fun e => .inl (by rw [e]; rfl)) (fun e => .inr (by rw [e]; exact congrArg some (World.size_alloc wc.drew _).symm)))).put (.slice (some ⟨gg, 0, none⟩) (m.length + 1) cap)
          have ST5 := hid st5
          clear st5 hi hz0 hz1 hz3 hown1 hgrow hat hlt c5 f5 c11a f11a c11 f11' c3
          go_wp2
          go_roundw
        all_goals try exact ⟨k + 1, m ++ [z], some ⟨gg, 0, none⟩, cap, by omega, by go_num, by have := hml.out; simp; omega, by rw [show (m ++ [z]).length = m.length + 1 by simp]; exact ST5.out⟩
        all_goals (simp [intOf] <;> omega)
    · -- END1
      clear hc hA
      have hnf := fun W => func_nil #[.pointer (some ⟨wr.heap.size, 0, none⟩)] W
      have sta : St w [(wr.heap.size + 1, bx 3 (.int .i64 0)), (wr.heap.size, bx 43 (.pointer (some ⟨w1.heap.size + 1, 0, none⟩))), (w2.heap.size + 1, bx 24 (.slice A2 m.length cap2)), (w2.heap.size, bx 43 (.pointer (some ⟨w1.heap.size + 1, 0, none⟩))), (w.heap.size + 1 + 1, bx 4 (.bool false)), (w.heap.size, bx 3 (.int .i64 stop)), (w.heap.size + 1, bx 3 (.int .i64 more))] (w1.heap.size + 1) w1.heap.size M (.slice A2 m.length cap2) m m ((wr.alloc (.cells #[(.pointer (some ⟨w1.heap.size + 1, 0, none⟩))] 43)).alloc (.cells #[.int .i64 0] 3)) := by
        have h := (st.alloc (bx 43 (.pointer (some ⟨w1.heap.size + 1, 0, none⟩)))).alloc (bx 3 (.int .i64 0))
        rw [World.size_alloc] at h
        exact h
      have HSTA := hid sta
      have hmn : m.length ≤ 300 := by omega
      clear st sta hmk
      go_wp2_with (go_at_call 25; refine (SetI.each _ _).mono ?_; rintro e w3 ⟨rfl, rfl⟩)
      clear hnf c10
      have sta := HSTA.out
      clear HSTA
      generalize (wr.alloc (.cells #[(.pointer (some ⟨w1.heap.size + 1, 0, none⟩))] 43)).alloc (.cells #[.int .i64 0] 3) = wa at sta ⊢
      refine wp_loop_rounds 3 ?_
      rw [rounds_succ]
      obtain ⟨q, hqf, hqm⟩ : ∃ q, (q = m ∨ q = m ++ [more]) ∧ q = m := ⟨m, .inl rfl, rfl⟩
      replace sta : St w [(wr.heap.size + 1, bx 3 (.int .i64 0)), (wr.heap.size, bx 43 (.pointer (some ⟨w1.heap.size + 1, 0, none⟩))), (w2.heap.size + 1, bx 24 (.slice A2 m.length cap2)), (w2.heap.size, bx 43 (.pointer (some ⟨w1.heap.size + 1, 0, none⟩))), (w.heap.size + 1 + 1, bx 4 (.bool false)), (w.heap.size, bx 3 (.int .i64 stop)), (w.heap.size + 1, bx 3 (.int .i64 more))] (w1.heap.size + 1) w1.heap.size M (.slice A2 m.length cap2) m q wa := by rw [hqm]; exact sta
      clear hqm
      -- round 0
      have c16 := sta.cell (g := wr.heap.size + 1) (t := 3) (v := .int .i64 0) (by simp)
      have c10 := sta.cell (g := w2.heap.size) (t := 43) (v := (.pointer (some ⟨w1.heap.size + 1, 0, none⟩))) (by simp)
      have l10 := World.block_lt_of_cell? _ _ c10
      have stb : St w [(wa.heap.size, bx 3 (.int .i64 0)), (wr.heap.size + 1, bx 3 (.int .i64 0)), (wr.heap.size, bx 43 (.pointer (some ⟨w1.heap.size + 1, 0, none⟩))), (w2.heap.size + 1, bx 24 (.slice A2 m.length cap2)), (w2.heap.size, bx 43 (.pointer (some ⟨w1.heap.size + 1, 0, none⟩))), (w.heap.size + 1 + 1, bx 4 (.bool false)), (w.heap.size, bx 3 (.int .i64 stop)), (w.heap.size + 1, bx 3 (.int .i64 more))] (w1.heap.size + 1) w1.heap.size M (.slice A2 m.length cap2) m q (wa.alloc (.cells #[.int .i64 0] 3)) := sta.alloc _
      have hlen := hid stb.len
      have stc : St w [(wa.heap.size, bx 3 (.int .i64 0)), (wa.heap.size + 1, bx 3 (.int .i64 (q.length : Int))), (wr.heap.size + 1, bx 3 (.int .i64 0)), (wr.heap.size, bx 43 (.pointer (some ⟨w1.heap.size + 1, 0, none⟩))), (w2.heap.size + 1, bx 24 (.slice A2 m.length cap2)), (w2.heap.size, bx 43 (.pointer (some ⟨w1.heap.size + 1, 0, none⟩))), (w.heap.size + 1 + 1, bx 4 (.bool false)), (w.heap.size, bx 3 (.int .i64 stop)), (w.heap.size + 1, bx 3 (.int .i64 more))] (w1.heap.size + 1) w1.heap.size M (.slice A2 m.length cap2) m q ((wa.alloc (.cells #[.int .i64 0] 3)).alloc (.cells #[.int .i64 (q.length : Int)] 3)) := by
        have h := stb.alloc (bx 3 (.int .i64 (q.length : Int)))
        rw [World.size_alloc] at h
        exact h.swap
      have l16 : wr.heap.size + 1 < wa.heap.size := sta.lt (p := (wr.heap.size + 1, bx 3 (.int .i64 0))) (by simp)
      have l6 : w.heap.size < wa.heap.size := sta.lt (p := (w.heap.size, bx 3 (.int .i64 stop))) (by simp)
      have n16 : ¬ (wr.heap.size + 1 = wa.heap.size) ∧ ¬ (wa.heap.size = wr.heap.size + 1) := by omega
      have n6 : ¬ (w.heap.size = wa.heap.size) ∧ ¬ (wa.heap.size = w.heap.size) := by omega
      obtain ⟨n16, n16'⟩ := n16
      obtain ⟨n6, n6'⟩ := n6
      clear sta stb
      have HSTC := hid stc
      clear stc
      go_wp2_with (go_at_call 22; refine hlen.out.mono ?_; rintro e w3 ⟨rfl, rfl⟩)
      clear hlen c16 c10 l10
      have stc := HSTC.out
      clear HSTC
      generalize (wa.alloc (.cells #[.int .i64 0] 3)).alloc (.cells #[.int .i64 (q.length : Int)] 3) = wb at stc ⊢
      refine wp_mid (fun D W => ∃ (q' : List Int) (i : Nat), (q' = m ∨ q' = m ++ [more]) ∧ (i = q.length ∨ (i : Int) = stop) ∧ i ≤ q.length ∧ St w [(D, .deferred (some [])), (wa.heap.size, bx 3 (.int .i64 (i : Int))), (wa.heap.size + 1, bx 3 (.int .i64 (q.length : Int))), (wr.heap.size + 1, bx 3 (.int .i64 0)), (wr.heap.size, bx 43 (.pointer (some ⟨w1.heap.size + 1, 0, none⟩))), (w2.heap.size + 1, bx 24 (.slice A2 m.length cap2)), (w2.heap.size, bx 43 (.pointer (some ⟨w1.heap.size + 1, 0, none⟩))), (w.heap.size + 1 + 1, bx 4 (.bool false)), (w.heap.size, bx 3 (.int .i64 stop)), (w.heap.size + 1, bx 3 (.int .i64 more))] (w1.heap.size + 1) w1.heap.size M (.slice A2 m.length cap2) m q' W) ?range ?rest
      case range =>
        obtain ⟨A0, cap0, g, hb2, hA0, hcs, hgn⟩ := stc.came
        have hbf := stc.cell (g := wr.heap.size) (t := 43) (v := (.pointer (some ⟨w1.heap.size + 1, 0, none⟩))) (by simp)
        have hLlt : ∀ (v : Value), ∀ p ∈ [(wa.heap.size, bx 3 v), (wa.heap.size + 1, bx 3 (.int .i64 (q.length : Int))), (wr.heap.size + 1, bx 3 (.int .i64 0)), (wr.heap.size, bx 43 (.pointer (some ⟨w1.heap.size + 1, 0, none⟩))), (w2.heap.size + 1, bx 24 (.slice A2 m.length cap2)), (w2.heap.size, bx 43 (.pointer (some ⟨w1.heap.size + 1, 0, none⟩))), (w.heap.size + 1 + 1, bx 4 (.bool false)), (w.heap.size, bx 3 (.int .i64 stop)), (w.heap.size + 1, bx 3 (.int .i64 more))], p.1 < wb.heap.size := by
          intro v p hp
          rcases List.mem_cons.1 hp with rfl | hp
          · exact stc.lt (p := (wa.heap.size, bx 3 (.int .i64 0))) (by simp)
          · exact stc.lt (List.mem_cons_of_mem _ hp)
        have hbb := stc.blt
        have hBs := stc.size
        have HG := hid hgn
        have hq9 : q.length ≤ 301 := by
          rcases hqf with h | h
          · rw [h]; omega
          · rw [h]; simp; omega
        clear hgn
        refine (wpIn_wide (n := 8)).1 ?_
        apply wpIn_rangeFunc_ownG (n := 8) rfl (by omega) (gf := 38) (lb := #[.pointer (some ⟨wr.heap.size, 0, none⟩)]) rfl trivial (enters_of Tryd.func38 (by kernel_rfl) rfl)
          (SetI.each_stops Fence.wide (8 - 1) trivial rfl (by omega) wr.heap.size (w1.heap.size + 1) g q.length cap0 A0 hA0 (by omega) (fun j => .int .i64 (q[j]?.getD 0)) wb hbf hb2 hcs)
          (fun h k => SetI.Kept.trans h k) (fun W l o o' _ h1 h2 _ => SetI.Kept.putObj W l o o' h1 h2) (Below.refl _ _) (fun _ => rfl)
          (fun (pre : List Nat) W => ∃ q', (q' = m ∨ q' = m ++ [more]) ∧ q.length ≤ q'.length ∧ St w [(wa.heap.size, bx 3 (.int .i64 (pre.length : Int))), (wa.heap.size + 1, bx 3 (.int .i64 (q.length : Int))), (wr.heap.size + 1, bx 3 (.int .i64 0)), (wr.heap.size, bx 43 (.pointer (some ⟨w1.heap.size + 1, 0, none⟩))), (w2.heap.size + 1, bx 24 (.slice A2 m.length cap2)), (w2.heap.size, bx 43 (.pointer (some ⟨w1.heap.size + 1, 0, none⟩))), (w.heap.size + 1 + 1, bx 4 (.bool false)), (w.heap.size, bx 3 (.int .i64 stop)), (w.heap.size + 1, bx 3 (.int .i64 more))] (w1.heap.size + 1) w1.heap.size M (.slice A2 m.length cap2) m q' W)
          (fun c (pre : List Nat) W => (c = .ret ∧ ∃ (pre' : List Nat) (x : Nat), pre = pre' ++ [x] ∧ x ≠ pre'.length) ∨ (c = .exit 4 ∧ (pre.length : Int) = stop ∧ ∃ q', (q' = m ∨ q' = m ++ [more]) ∧ q.length ≤ q'.length ∧ St w [(wa.heap.size, bx 3 (.int .i64 (pre.length : Int))), (wa.heap.size + 1, bx 3 (.int .i64 (q.length : Int))), (wr.heap.size + 1, bx 3 (.int .i64 0)), (wr.heap.size, bx 43 (.pointer (some ⟨w1.heap.size + 1, 0, none⟩))), (w2.heap.size + 1, bx 24 (.slice A2 m.length cap2)), (w2.heap.size, bx 43 (.pointer (some ⟨w1.heap.size + 1, 0, none⟩))), (w.heap.size + 1 + 1, bx 4 (.bool false)), (w.heap.size, bx 3 (.int .i64 stop)), (w.heap.size + 1, bx 3 (.int .i64 more))] (w1.heap.size + 1) w1.heap.size M (.slice A2 m.length cap2) m q' W))
          (fun pre W W' row h hg hr => by
            obtain ⟨q', h1, h2, h3⟩ := h
            exact ⟨q', h1, h2, h3.turn (hLlt _) hbb.1 hbb.2 hBs hg hr⟩)
          (fun c pre W W' row h hg hr => by
            rcases h with h | h
            · exact .inl h
            · obtain ⟨e1, e2, q', h1, h2, h3⟩ := h
              exact .inr ⟨e1, e2, q', h1, h2, h3.turn (hLlt _) hbb.1 hbb.2 hBs hg hr⟩)
          ⟨q, hqf, Nat.le_refl _, stc⟩ (a₁ := _) ?assign ?body ?done ?stop
        case assign =>
          intro l x W K hK
          gi_wp2
          exact hK
        case body =>
          rintro l pre x W ⟨q', hq', hle', st⟩ hlt
          have hpl0 : pre.length < q.length := hlt
          have c17 := st.cell (g := wa.heap.size) (t := 3) (v := .int .i64 (pre.length : Int)) (by simp)
          have c18 := st.cell (g := (wa.heap.size + 1)) (t := 3) (v := .int .i64 (q.length : Int)) (by simp)
          have c11 := st.cell (g := w2.heap.size + 1) (t := 24) (v := .slice A2 m.length cap2) (by simp)
          have c10 := st.cell (g := w2.heap.size) (t := 43) (v := (.pointer (some ⟨w1.heap.size + 1, 0, none⟩))) (by simp)
          have c8 := st.cell (g := w.heap.size + 1 + 1) (t := 4) (v := .bool false) (by simp)
          have f8 := st.frozen (g := w.heap.size + 1 + 1) (t := 4) (v := .bool false) (by simp)
          have c7 := st.cell (g := w.heap.size + 1) (t := 3) (v := .int .i64 more) (by simp)
          have t1 : decide ((q.length : Int) ≤ (pre.length : Int)) = false := by simp; omega
          by_cases hx : x = pre.length
          · subst hx
            have t2 : ((pre.length : Int) != (pre.length : Int)) = false := by simp
            have hq8 : q'.length ≤ 1000000 := by
              rcases hq' with h | h
              · rw [h]; omega
              · rw [h]; simp; omega
            have hadd := hid (st.add h0 _ HEA.out more hmore hq8 (B := wb.heap.size) hbb.1 hbb.2)
            by_cases hkm : pre.length < m.length
            · obtain ⟨g2, hA2, c4⟩ := st.own' pre.length hkm
              subst hA2
              have hv : q[pre.length]?.getD 0 = m[pre.length]?.getD 0 := by
                rcases hqf with h | h
                · rw [h]
                · rw [h, List.getElem?_append_left hkm]
              rw [hv]
              generalize m[pre.length]?.getD 0 = v at c4 ⊢
              have t3 : (v != v) = false := by simp
              have t4 : decide ((pre.length : Int) < (m.length : Int)) = true := by simp; omega
              have t5 : decide ((m.length : Int) ≤ (pre.length : Int)) = false := by simp; omega
              have HQF := hid hqf
              clear hv st hA0 hcs hb2 hbf hqf
              gi_wp2_with fail
              refine ⟨trivial, ?_⟩
              refine (CallsIn.inRound l (callsIn_wide.2 hadd.out)).mono ?_
              rintro e w3 ⟨q3, x1, x2, rfl, hq3, st3, hkf, hkp⟩
              have hqq : q3 = m ∨ q3 = m ++ [more] := by
                rcases hq3 with ⟨h1, _⟩ | ⟨h1, hn, _⟩
                · rw [h1]; exact hq'
                · rcases hq' with h2 | h2
                  · exact .inr (by rw [h1, h2])
                  · exact absurd (by rw [h2]; simp) hn
              have hle3 : q.length ≤ q3.length := by
                rcases hq3 with ⟨h1, _⟩ | ⟨h1, _, _⟩
                · rw [h1]; exact hle'
                · rw [h1]; simp; omega
              have d17 := st3.cell (g := wa.heap.size) (t := 3) (v := .int .i64 (pre.length : Int)) (by simp)
              have e17 := st3.frozen (g := wa.heap.size) (t := 3) (v := .int .i64 (pre.length : Int)) (by simp)
              have d16 := st3.cell (g := wr.heap.size + 1) (t := 3) (v := .int .i64 0) (by simp)
              have d6 := st3.cell (g := w.heap.size) (t := 3) (v := .int .i64 stop) (by simp)
              have hpl : (((pre ++ [pre.length]).length : Nat) : Int) = (pre.length : Int) + 1 := by simp
              have hne17 : wa.heap.size ≠ w.heap.size := fun e => by have := st3.nodup; simp [e] at this
              have HK := hid (hkp g (HG.out (by omega)).1 (HG.out (by omega)).2.1)
              have H17 := hid (HG.out (by omega)).2.2
              have HQ := hid (And.intro hqq hle3)
              have HN := hid hpl
              have HKF := hid hkf
              have hput := hid (st3.put (.int .i64 ((pre.length : Int) + 1)))
              have hi9 : (pre.length : Int) ≤ 301 := by omega
              clear hq3 hqq hle3 hkf hkp hadd hpl st3 hne17
              by_cases hs : (pre.length : Int) + 1 = stop
              · have hsb : ((pre.length : Int) + 1 == stop) = true := by simpa using hs
                have HS := hid hs
                clear hs
                gi_wp2
                exact ⟨HKF.out.trans ((KeepsOthers.setCell _ _ _).from _), .inr ⟨rfl, by rw [HN.out]; exact HS.out, q3, HQ.out.1, HQ.out.2, by rw [HN.out]; exact hput.out⟩⟩
              · have hsb : ((pre.length : Int) + 1 == stop) = false := by simpa using hs
                clear hs
                gi_wp2
                exact ⟨HKF.out.trans ((KeepsOthers.setCell _ _ _).from _), fun j v hj hv => (World.cell?_of_block (Below.heap_setCell w3 _ _ g (H17.out (wa.heap.size, bx 3 (.int .i64 0)) (by simp)))).trans (HK.out j v (by omega) hv), q3, HQ.out.1, HQ.out.2, by rw [HN.out]; exact hput.out⟩
            · have hv : q[pre.length]?.getD 0 = more ∧ pre.length = m.length := by
                rcases hqf with h | h
                · rw [h] at hpl0; omega
                · rw [h] at hpl0 ⊢
                  have e : pre.length = m.length := by simp at hpl0; omega
                  rw [e]
                  simp
              rw [hv.1]
              have t3 : (more != more) = false := by simp
              have t4 : decide ((pre.length : Int) < (m.length : Int)) = false := by simp; omega
              have t5 : decide ((m.length : Int) ≤ (pre.length : Int)) = true := by simp; omega
              have HQF := hid hqf
              clear hv st hA0 hcs hb2 hbf hqf
              gi_wp2_with fail
              refine ⟨trivial, ?_⟩
              refine (CallsIn.inRound l (callsIn_wide.2 hadd.out)).mono ?_
              rintro e w3 ⟨q3, x1, x2, rfl, hq3, st3, hkf, hkp⟩
              have hqq : q3 = m ∨ q3 = m ++ [more] := by
                rcases hq3 with ⟨h1, _⟩ | ⟨h1, hn, _⟩
                · rw [h1]; exact hq'
                · rcases hq' with h2 | h2
                  · exact .inr (by rw [h1, h2])
                  · exact absurd (by rw [h2]; simp) hn
              have hle3 : q.length ≤ q3.length := by
                rcases hq3 with ⟨h1, _⟩ | ⟨h1, _, _⟩
                · rw [h1]; exact hle'
                · rw [h1]; simp; omega
              have d17 := st3.cell (g := wa.heap.size) (t := 3) (v := .int .i64 (pre.length : Int)) (by simp)
              have e17 := st3.frozen (g := wa.heap.size) (t := 3) (v := .int .i64 (pre.length : Int)) (by simp)
              have d16 := st3.cell (g := wr.heap.size + 1) (t := 3) (v := .int .i64 0) (by simp)
              have d6 := st3.cell (g := w.heap.size) (t := 3) (v := .int .i64 stop) (by simp)
              have hpl : (((pre ++ [pre.length]).length : Nat) : Int) = (pre.length : Int) + 1 := by simp
              have hne17 : wa.heap.size ≠ w.heap.size := fun e => by have := st3.nodup; simp [e] at this
              have HK := hid (hkp g (HG.out (by omega)).1 (HG.out (by omega)).2.1)
              have H17 := hid (HG.out (by omega)).2.2
              have HQ := hid (And.intro hqq hle3)
              have HN := hid hpl
              have HKF := hid hkf
              have hput := hid (st3.put (.int .i64 ((pre.length : Int) + 1)))
              have hi9 : (pre.length : Int) ≤ 301 := by omega
              clear hq3 hqq hle3 hkf hkp hadd hpl st3 hne17
              by_cases hs : (pre.length : Int) + 1 = stop
              · have hsb : ((pre.length : Int) + 1 == stop) = true := by simpa using hs
                have HS := hid hs
                clear hs
                gi_wp2
                exact ⟨HKF.out.trans ((KeepsOthers.setCell _ _ _).from _), .inr ⟨rfl, by rw [HN.out]; exact HS.out, q3, HQ.out.1, HQ.out.2, by rw [HN.out]; exact hput.out⟩⟩
              · have hsb : ((pre.length : Int) + 1 == stop) = false := by simpa using hs
                clear hs
                gi_wp2
                exact ⟨HKF.out.trans ((KeepsOthers.setCell _ _ _).from _), fun j v hj hv => (World.cell?_of_block (Below.heap_setCell w3 _ _ g (H17.out (wa.heap.size, bx 3 (.int .i64 0)) (by simp)))).trans (HK.out j v (by omega) hv), q3, HQ.out.1, HQ.out.2, by rw [HN.out]; exact hput.out⟩
          · have t2 : ((x : Int) != (pre.length : Int)) = true := by simp; omega
            clear st hA0 hcs hb2 hbf
            gi_wp2
            exact ⟨(KeepsOthers.setCell _ _ _).from _, .inl ⟨rfl, pre, x, rfl, hx⟩⟩
        case done =>
          rintro D ys W hD rfl ⟨q', hq', hle', st⟩ hK
          rw [List.length_range] at st
          exact ⟨.inl rfl, D, rfl, q', q.length, hq', (.inl rfl), Nat.le_refl _, st.mark hK (hLlt _) hbb.1 hbb.2 hBs hD⟩
        case stop =>
          rintro D c pre W hD ⟨kk, hkk, rfl⟩ hIx hK
          rcases hIx with ⟨_, pre', x, e, hne⟩ | hIx
          · exact absurd (range_snoc e) hne
          · obtain ⟨rfl, e2, q', h1, h2, h3⟩ := hIx
            rw [List.length_range] at e2 h3
            exact wpIn_wide.2 (wp_exit ⟨.inr rfl, D, rfl, q', kk, h1, .inr e2, hkk, h3.mark hK (hLlt _) hbb.1 hbb.2 hBs hD⟩)
      case rest =>
        rintro D0 wb' ⟨q0, i, hq0, hi, hil, st⟩
        have c17 := st.cell (g := wa.heap.size) (t := 3) (v := .int .i64 (i : Int)) (by simp)
        have c18 := st.cell (g := wa.heap.size + 1) (t := 3) (v := .int .i64 (q.length : Int)) (by simp)
        have c16 := st.cell (g := wr.heap.size + 1) (t := 3) (v := .int .i64 0) (by simp)
        have c6 := st.cell (g := w.heap.size) (t := 3) (v := .int .i64 stop) (by simp)
        go_upto_region 30 with fail
        go_cut [127] from 61 to 128 (fun s127 wx => s127 = .bool false ∧ wb' = wx)
        case first =>
          by_cases hi2 : i = q.length
          · have tb : ((i : Int) != (q.length : Int)) = false := by simp; omega
            go_wp2_with fail
            go_meet
            exact ⟨rfl, rfl⟩
          · have tb : ((i : Int) != (q.length : Int)) = true := by simp; omega
            have ts : ((i : Int) == stop) = true := by rcases hi with h | h; exact absurd h hi2; simpa using h
            go_wp2_with fail
            go_meet
            exact ⟨rfl, rfl⟩
        case rest =>
        obtain ⟨rfl, rfl⟩ := hcut
        clear c17 c18 c6
        have st5 := st.alloc (bx 3 (.int .i64 1))
        have ST5 := hid st5
        clear st st5
        go_wp2_with fail
        rw [rounds_succ]
        have sta : St w [(wb'.heap.size, bx 3 (.int .i64 1)), (D0, .deferred (some [])), (wr.heap.size, bx 43 (.pointer (some ⟨w1.heap.size + 1, 0, none⟩))), (w2.heap.size + 1, bx 24 (.slice A2 m.length cap2)), (w2.heap.size, bx 43 (.pointer (some ⟨w1.heap.size + 1, 0, none⟩))), (w.heap.size + 1 + 1, bx 4 (.bool false)), (w.heap.size, bx 3 (.int .i64 stop)), (w.heap.size + 1, bx 3 (.int .i64 more))] (w1.heap.size + 1) w1.heap.size M (.slice A2 m.length cap2) m q0 (wb'.alloc (.cells #[.int .i64 1] 3)) := ST5.out.sub (List.Sublist.cons_cons _ (List.Sublist.cons_cons _ (.cons _ (.cons _ (.cons _ (List.Sublist.refl _))))))
        clear ST5 c16
        generalize wb'.alloc (.cells #[.int .i64 1] 3) = wc at sta ⊢
        clear hqf hi hil
        have hqf := hq0
        clear hq0
        -- round 1
        have c16 := sta.cell (g := wb'.heap.size) (t := 3) (v := .int .i64 1) (by simp)
        have c10 := sta.cell (g := w2.heap.size) (t := 43) (v := (.pointer (some ⟨w1.heap.size + 1, 0, none⟩))) (by simp)
        have l10 := World.block_lt_of_cell? _ _ c10
        have stb : St w [(wc.heap.size, bx 3 (.int .i64 0)), (wb'.heap.size, bx 3 (.int .i64 1)), (D0, .deferred (some [])), (wr.heap.size, bx 43 (.pointer (some ⟨w1.heap.size + 1, 0, none⟩))), (w2.heap.size + 1, bx 24 (.slice A2 m.length cap2)), (w2.heap.size, bx 43 (.pointer (some ⟨w1.heap.size + 1, 0, none⟩))), (w.heap.size + 1 + 1, bx 4 (.bool false)), (w.heap.size, bx 3 (.int .i64 stop)), (w.heap.size + 1, bx 3 (.int .i64 more))] (w1.heap.size + 1) w1.heap.size M (.slice A2 m.length cap2) m q0 (wc.alloc (.cells #[.int .i64 0] 3)) := sta.alloc _
        have hlen := hid stb.len
        have stc : St w [(wc.heap.size, bx 3 (.int .i64 0)), (wc.heap.size + 1, bx 3 (.int .i64 (q0.length : Int))), (wb'.heap.size, bx 3 (.int .i64 1)), (D0, .deferred (some [])), (wr.heap.size, bx 43 (.pointer (some ⟨w1.heap.size + 1, 0, none⟩))), (w2.heap.size + 1, bx 24 (.slice A2 m.length cap2)), (w2.heap.size, bx 43 (.pointer (some ⟨w1.heap.size + 1, 0, none⟩))), (w.heap.size + 1 + 1, bx 4 (.bool false)), (w.heap.size, bx 3 (.int .i64 stop)), (w.heap.size + 1, bx 3 (.int .i64 more))] (w1.heap.size + 1) w1.heap.size M (.slice A2 m.length cap2) m q0 ((wc.alloc (.cells #[.int .i64 0] 3)).alloc (.cells #[.int .i64 (q0.length : Int)] 3)) := by
          have h := stb.alloc (bx 3 (.int .i64 (q0.length : Int)))
          rw [World.size_alloc] at h
          exact h.swap
        have l16 : wb'.heap.size < wc.heap.size := sta.lt (p := (wb'.heap.size, bx 3 (.int .i64 1))) (by simp)
        have l6 : w.heap.size < wc.heap.size := sta.lt (p := (w.heap.size, bx 3 (.int .i64 stop))) (by simp)
        have n16 : ¬ (wb'.heap.size = wc.heap.size) ∧ ¬ (wc.heap.size = wb'.heap.size) := by omega
        have n6 : ¬ (w.heap.size = wc.heap.size) ∧ ¬ (wc.heap.size = w.heap.size) := by omega
        obtain ⟨n16, n16'⟩ := n16
        obtain ⟨n6, n6'⟩ := n6
        clear sta stb
        have HSTC := hid stc
        clear stc
        go_wp2_with (go_at_call 22; refine hlen.out.mono ?_; rintro e w3 ⟨rfl, rfl⟩)
        clear hlen c16 c10 l10
        have stc := HSTC.out
        clear HSTC
        generalize (wc.alloc (.cells #[.int .i64 0] 3)).alloc (.cells #[.int .i64 (q0.length : Int)] 3) = wd at stc ⊢
        refine wp_mid (fun D W => ∃ (q' : List Int) (i : Nat), (q' = m ∨ q' = m ++ [more]) ∧ i = q0.length ∧ i ≤ q0.length ∧ St w [(D, .deferred (some [])), (wc.heap.size, bx 3 (.int .i64 (i : Int))), (wc.heap.size + 1, bx 3 (.int .i64 (q0.length : Int))), (wb'.heap.size, bx 3 (.int .i64 1)), (D0, .deferred (some [])), (wr.heap.size, bx 43 (.pointer (some ⟨w1.heap.size + 1, 0, none⟩))), (w2.heap.size + 1, bx 24 (.slice A2 m.length cap2)), (w2.heap.size, bx 43 (.pointer (some ⟨w1.heap.size + 1, 0, none⟩))), (w.heap.size + 1 + 1, bx 4 (.bool false)), (w.heap.size, bx 3 (.int .i64 stop)), (w.heap.size + 1, bx 3 (.int .i64 more))] (w1.heap.size + 1) w1.heap.size M (.slice A2 m.length cap2) m q' W) ?range ?rest
        case range =>
          obtain ⟨A0, cap0, g, hb2, hA0, hcs, hgn⟩ := stc.came
          have hbf := stc.cell (g := wr.heap.size) (t := 43) (v := (.pointer (some ⟨w1.heap.size + 1, 0, none⟩))) (by simp)
          have hLlt : ∀ (v : Value), ∀ p ∈ [(wc.heap.size, bx 3 v), (wc.heap.size + 1, bx 3 (.int .i64 (q0.length : Int))), (wb'.heap.size, bx 3 (.int .i64 1)), (D0, .deferred (some [])), (wr.heap.size, bx 43 (.pointer (some ⟨w1.heap.size + 1, 0, none⟩))), (w2.heap.size + 1, bx 24 (.slice A2 m.length cap2)), (w2.heap.size, bx 43 (.pointer (some ⟨w1.heap.size + 1, 0, none⟩))), (w.heap.size + 1 + 1, bx 4 (.bool false)), (w.heap.size, bx 3 (.int .i64 stop)), (w.heap.size + 1, bx 3 (.int .i64 more))], p.1 < wd.heap.size := by
            intro v p hp
            rcases List.mem_cons.1 hp with rfl | hp
            · exact stc.lt (p := (wc.heap.size, bx 3 (.int .i64 0))) (by simp)
            · exact stc.lt (List.mem_cons_of_mem _ hp)
          have hbb := stc.blt
          have hBs := stc.size
          have HG := hid hgn
          have hq9 : q0.length ≤ 301 := by
            rcases hqf with h | h
            · rw [h]; omega
            · rw [h]; simp; omega
          clear hgn
          refine (wpIn_wide (n := 8)).1 ?_
          apply wpIn_rangeFunc_ownG (n := 8) rfl (by omega) (gf := 38) (lb := #[.pointer (some ⟨wr.heap.size, 0, none⟩)]) rfl trivial (enters_of Tryd.func38 (by kernel_rfl) rfl)
            (SetI.each_stops Fence.wide (8 - 1) trivial rfl (by omega) wr.heap.size (w1.heap.size + 1) g q0.length cap0 A0 hA0 (by omega) (fun j => .int .i64 (q0[j]?.getD 0)) wd hbf hb2 hcs)
            (fun h k => SetI.Kept.trans h k) (fun W l o o' _ h1 h2 _ => SetI.Kept.putObj W l o o' h1 h2) (Below.refl _ _) (fun _ => rfl)
            (fun (pre : List Nat) W => ∃ q', (q' = m ∨ q' = m ++ [more]) ∧ q0.length ≤ q'.length ∧ St w [(wc.heap.size, bx 3 (.int .i64 (pre.length : Int))), (wc.heap.size + 1, bx 3 (.int .i64 (q0.length : Int))), (wb'.heap.size, bx 3 (.int .i64 1)), (D0, .deferred (some [])), (wr.heap.size, bx 43 (.pointer (some ⟨w1.heap.size + 1, 0, none⟩))), (w2.heap.size + 1, bx 24 (.slice A2 m.length cap2)), (w2.heap.size, bx 43 (.pointer (some ⟨w1.heap.size + 1, 0, none⟩))), (w.heap.size + 1 + 1, bx 4 (.bool false)), (w.heap.size, bx 3 (.int .i64 stop)), (w.heap.size + 1, bx 3 (.int .i64 more))] (w1.heap.size + 1) w1.heap.size M (.slice A2 m.length cap2) m q' W)
            (fun c (pre : List Nat) W => (c = .ret ∧ ∃ (pre' : List Nat) (x : Nat), pre = pre' ++ [x] ∧ x ≠ pre'.length) ∨ False)
            (fun pre W W' row h hg hr => by
              obtain ⟨q', h1, h2, h3⟩ := h
              exact ⟨q', h1, h2, h3.turn (hLlt _) hbb.1 hbb.2 hBs hg hr⟩)
            (fun c pre W W' row h hg hr => by
              rcases h with h | h
              · exact .inl h
              · exact h.elim)
            ⟨q0, hqf, Nat.le_refl _, stc⟩ (a₁ := _) ?assign ?body ?done ?stop
          case assign =>
            intro l x W K hK
            gi_wp2
            exact hK
          case body =>
            rintro l pre x W ⟨q', hq', hle', st⟩ hlt
            have hpl0 : pre.length < q0.length := hlt
            have c17 := st.cell (g := wc.heap.size) (t := 3) (v := .int .i64 (pre.length : Int)) (by simp)
            have c18 := st.cell (g := (wc.heap.size + 1)) (t := 3) (v := .int .i64 (q0.length : Int)) (by simp)
            have c11 := st.cell (g := w2.heap.size + 1) (t := 24) (v := .slice A2 m.length cap2) (by simp)
            have c10 := st.cell (g := w2.heap.size) (t := 43) (v := (.pointer (some ⟨w1.heap.size + 1, 0, none⟩))) (by simp)
            have c8 := st.cell (g := w.heap.size + 1 + 1) (t := 4) (v := .bool false) (by simp)
            have f8 := st.frozen (g := w.heap.size + 1 + 1) (t := 4) (v := .bool false) (by simp)
            have c7 := st.cell (g := w.heap.size + 1) (t := 3) (v := .int .i64 more) (by simp)
            have t1 : decide ((q0.length : Int) ≤ (pre.length : Int)) = false := by simp; omega
            by_cases hx : x = pre.length
            · subst hx
              have t2 : ((pre.length : Int) != (pre.length : Int)) = false := by simp
              have hq8 : q'.length ≤ 1000000 := by
                rcases hq' with h | h
                · rw [h]; omega
                · rw [h]; simp; omega
              have hadd := hid (st.add h0 _ HEA.out more hmore hq8 (B := wd.heap.size) hbb.1 hbb.2)
              by_cases hkm : pre.length < m.length
              · obtain ⟨g2, hA2, c4⟩ := st.own' pre.length hkm
                subst hA2
                have hv : q0[pre.length]?.getD 0 = m[pre.length]?.getD 0 := by
                  rcases hqf with h | h
                  · rw [h]
                  · rw [h, List.getElem?_append_left hkm]
                rw [hv]
                generalize m[pre.length]?.getD 0 = v at c4 ⊢
                have t3 : (v != v) = false := by simp
                have t4 : decide ((pre.length : Int) < (m.length : Int)) = true := by simp; omega
                have t5 : decide ((m.length : Int) ≤ (pre.length : Int)) = false := by simp; omega
                have HQF := hid hqf
                clear hv st hA0 hcs hb2 hbf hqf
                gi_wp2_with fail
                refine ⟨trivial, ?_⟩
                refine (CallsIn.inRound l (callsIn_wide.2 hadd.out)).mono ?_
                rintro e w3 ⟨q3, x1, x2, rfl, hq3, st3, hkf, hkp⟩
                have hqq : q3 = m ∨ q3 = m ++ [more] := by
                  rcases hq3 with ⟨h1, _⟩ | ⟨h1, hn, _⟩
                  · rw [h1]; exact hq'
                  · rcases hq' with h2 | h2
                    · exact .inr (by rw [h1, h2])
                    · exact absurd (by rw [h2]; simp) hn
                have hle3 : q0.length ≤ q3.length := by
                  rcases hq3 with ⟨h1, _⟩ | ⟨h1, _, _⟩
                  · rw [h1]; exact hle'
                  · rw [h1]; simp; omega
                have d17 := st3.cell (g := wc.heap.size) (t := 3) (v := .int .i64 (pre.length : Int)) (by simp)
                have e17 := st3.frozen (g := wc.heap.size) (t := 3) (v := .int .i64 (pre.length : Int)) (by simp)
                have d16 := st3.cell (g := wb'.heap.size) (t := 3) (v := .int .i64 1) (by simp)
                have d6 := st3.cell (g := w.heap.size) (t := 3) (v := .int .i64 stop) (by simp)
                have hpl : (((pre ++ [pre.length]).length : Nat) : Int) = (pre.length : Int) + 1 := by simp
                have hne17 : wc.heap.size ≠ w.heap.size := fun e => by have := st3.nodup; simp [e] at this
                have HK := hid (hkp g (HG.out (by omega)).1 (HG.out (by omega)).2.1)
                have H17 := hid (HG.out (by omega)).2.2
                have HQ := hid (And.intro hqq hle3)
                have HN := hid hpl
                have HKF := hid hkf
                have hput := hid (st3.put (.int .i64 ((pre.length : Int) + 1)))
                have hi9 : (pre.length : Int) ≤ 301 := by omega
                clear hq3 hqq hle3 hkf hkp hadd hpl st3 hne17
                gi_wp2
                exact ⟨HKF.out.trans ((KeepsOthers.setCell _ _ _).from _), fun j v hj hv => (World.cell?_of_block (Below.heap_setCell w3 _ _ g (H17.out (wc.heap.size, bx 3 (.int .i64 0)) (by simp)))).trans (HK.out j v (by omega) hv), q3, HQ.out.1, HQ.out.2, by rw [HN.out]; exact hput.out⟩
              · have hv : q0[pre.length]?.getD 0 = more ∧ pre.length = m.length := by
                  rcases hqf with h | h
                  · rw [h] at hpl0; omega
                  · rw [h] at hpl0 ⊢
                    have e : pre.length = m.length := by simp at hpl0; omega
                    rw [e]
                    simp
                rw [hv.1]
                have t3 : (more != more) = false := by simp
                have t4 : decide ((pre.length : Int) < (m.length : Int)) = false := by simp; omega
                have t5 : decide ((m.length : Int) ≤ (pre.length : Int)) = true := by simp; omega
                have HQF := hid hqf
                clear hv st hA0 hcs hb2 hbf hqf
                gi_wp2_with fail
                refine ⟨trivial, ?_⟩
                refine (CallsIn.inRound l (callsIn_wide.2 hadd.out)).mono ?_
                rintro e w3 ⟨q3, x1, x2, rfl, hq3, st3, hkf, hkp⟩
                have hqq : q3 = m ∨ q3 = m ++ [more] := by
                  rcases hq3 with ⟨h1, _⟩ | ⟨h1, hn, _⟩
                  · rw [h1]; exact hq'
                  · rcases hq' with h2 | h2
                    · exact .inr (by rw [h1, h2])
                    · exact absurd (by rw [h2]; simp) hn
                have hle3 : q0.length ≤ q3.length := by
                  rcases hq3 with ⟨h1, _⟩ | ⟨h1, _, _⟩
                  · rw [h1]; exact hle'
                  · rw [h1]; simp; omega
                have d17 := st3.cell (g := wc.heap.size) (t := 3) (v := .int .i64 (pre.length : Int)) (by simp)
                have e17 := st3.frozen (g := wc.heap.size) (t := 3) (v := .int .i64 (pre.length : Int)) (by simp)
                have d16 := st3.cell (g := wb'.heap.size) (t := 3) (v := .int .i64 1) (by simp)
                have d6 := st3.cell (g := w.heap.size) (t := 3) (v := .int .i64 stop) (by simp)
                have hpl : (((pre ++ [pre.length]).length : Nat) : Int) = (pre.length : Int) + 1 := by simp
                have hne17 : wc.heap.size ≠ w.heap.size := fun e => by have := st3.nodup; simp [e] at this
                have HK := hid (hkp g (HG.out (by omega)).1 (HG.out (by omega)).2.1)
                have H17 := hid (HG.out (by omega)).2.2
                have HQ := hid (And.intro hqq hle3)
                have HN := hid hpl
                have HKF := hid hkf
                have hput := hid (st3.put (.int .i64 ((pre.length : Int) + 1)))
                have hi9 : (pre.length : Int) ≤ 301 := by omega
                clear hq3 hqq hle3 hkf hkp hadd hpl st3 hne17
                gi_wp2
                exact ⟨HKF.out.trans ((KeepsOthers.setCell _ _ _).from _), fun j v hj hv => (World.cell?_of_block (Below.heap_setCell w3 _ _ g (H17.out (wc.heap.size, bx 3 (.int .i64 0)) (by simp)))).trans (HK.out j v (by omega) hv), q3, HQ.out.1, HQ.out.2, by rw [HN.out]; exact hput.out⟩
            · have t2 : ((x : Int) != (pre.length : Int)) = true := by simp; omega
              clear st hA0 hcs hb2 hbf
              gi_wp2
              exact ⟨(KeepsOthers.setCell _ _ _).from _, .inl ⟨rfl, pre, x, rfl, hx⟩⟩
          case done =>
            rintro D ys W hD rfl ⟨q', hq', hle', st⟩ hK
            rw [List.length_range] at st
            exact ⟨.inl rfl, D, rfl, q', q0.length, hq', rfl, Nat.le_refl _, st.mark hK (hLlt _) hbb.1 hbb.2 hBs hD⟩
          case stop =>
            rintro D c pre W hD ⟨kk, hkk, rfl⟩ hIx hK
            rcases hIx with ⟨_, pre', x, e, hne⟩ | hIx
            · exact absurd (range_snoc e) hne
            · exact hIx.elim
        case rest =>
          rintro D1 wd' ⟨q1, i, hq1, hi, hil, st⟩
          have c17 := st.cell (g := wc.heap.size) (t := 3) (v := .int .i64 (i : Int)) (by simp)
          have c18 := st.cell (g := wc.heap.size + 1) (t := 3) (v := .int .i64 (q0.length : Int)) (by simp)
          have c16 := st.cell (g := wb'.heap.size) (t := 3) (v := .int .i64 1) (by simp)
          have c6 := st.cell (g := w.heap.size) (t := 3) (v := .int .i64 stop) (by simp)
          go_upto_region 30 with fail
          go_cut [127] from 61 to 128 (fun s127 wx => s127 = .bool false ∧ wd' = wx)
          case first =>
            have tb : ((i : Int) != (q0.length : Int)) = false := by simp; omega
            go_wp2_with fail
            go_meet
            exact ⟨rfl, rfl⟩
          case rest =>
          obtain ⟨rfl, rfl⟩ := hcut
          clear c17 c18 c6
          have st5 := st.alloc (bx 3 (.int .i64 2))
          have ST5 := hid st5
          clear st st5
          go_wp2_with fail
          rw [rounds_succ]
          have st := ST5.out
          clear ST5
          change St _ _ _ _ _ _ _ _ (wd'.alloc (.cells #[.int .i64 2] 3)) at st
          generalize hwz : wd'.alloc (.cells #[.int .i64 2] 3) = wz at st ⊢
          clear hwz
          have c16 := st.cell (g := wd'.heap.size) (t := 3) (v := .int .i64 2) (by simp)
          have c8 := st.cell (g := w.heap.size + 1 + 1) (t := 4) (v := .bool false) (by simp)
          have f8 := st.frozen (g := w.heap.size + 1 + 1) (t := 4) (v := .bool false) (by simp)
          have hnd : D1 ≠ D0 ∧ D0 ≠ w.heap.size + 1 + 1 ∧ D1 ≠ w.heap.size + 1 + 1 := by
            have h := st.nodup
            refine ⟨fun e => ?_, fun e => ?_, fun e => ?_⟩ <;> simp [e] at h
          have HO0 := hid (st.objs (D0, .deferred (some [])) (by simp))
          have HO1 := hid (st.objs (D1, .deferred (some [])) (by simp))
          have HND := hid hnd
          have HC8 := hid c8
          have HB := hid st.below
          clear st hnd hq1 hi hil hqf
          go_wp2_with fail
          exact leave_marks w (w.heap.size + 1 + 1) _ rfl [D1, D0] _ (by simp [HND.out.1])
            (fun D hD => by
              simp only [List.mem_cons, List.not_mem_nil, or_false] at hD
              rcases hD with rfl | rfl
              · exact ⟨(Below.heap_setCell wz ⟨w.heap.size + 1 + 1, 0, none⟩ _ _ HND.out.2.2).trans HO1.out.1, HO1.out.2.1⟩
              · exact ⟨(Below.heap_setCell wz ⟨w.heap.size + 1 + 1, 0, none⟩ _ _ HND.out.2.1).trans HO0.out.1, HO0.out.2.1⟩)
            (World.cell?_setCell_same' wz ⟨w.heap.size + 1 + 1, 0, none⟩ (.bool true) (by rw [HC8.out]; rfl)) (HB.out.setCell (p := ⟨w.heap.size + 1 + 1, 0, none⟩) (by simp; omega) _)
end Go.Proofs.YthdapdmpbbabcaaDoor
