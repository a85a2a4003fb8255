/-
  WordLines: for every bytes and every stop the law answers true, and nothing that was there has turned.
-/
import Derived.Test.YtdinjplbbmhleaaDoorLinesH
namespace Go.Proofs.YtdinjplbbmhleaaDoor
open Go.RowKit Go.Maps W
attribute [local go_sem ↓] Go.wp_at_zero Go.wp_at_succ
attribute [local go_sem] Oper.semAt_some
set_option maxHeartbeats 16000000 in
set_option maxRecDepth 100000 in
theorem linesLaw (v : Value) (bl : List UInt8) (st : Int) (w : World) (hL : Laid w) (hv : Reads w v (bys bl)) (hb9 : bl.length ≤ 9223372036854775807) :
    Calls Tryd.prog 9 #[v, .int .i64 st] w fun e w' => e = .returned (.bool true) ∧ Below w.heap.size w w' := by
  obtain ⟨A, c, rfl⟩ := hv.shape
  rw [bys_len] at hv ⊢
  have HR := hid hv
  have HL := hid hL
  clear hv hL
  refine (callsIn_wide (n := 8)).1 (callsIn_of_wp_marks Tryd.func9 rfl trivial ?_)
  refine wpIn_wide.2 (wp_mono ?_ (calm_le _))
  simp only [Tryd.ntmps9, List.size_toArray, List.length_cons, List.length_nil, Nat.reduceAdd, Nat.reduceSub, Array.replicate_succ, Array.replicate_zero, List.push_toArray, List.append_toArray, List.nil_append, List.cons_append]
  have hX := hid (((⟨(fun p hp => by cases hp), by simp, World.ownsRow_nil _ _ _ _, Below.refl _ _⟩ : Bx w [] (.slice none 0 0) [] w).alloc (bx 3 (.int .i64 st))).alloc (bx 4 (.bool false)))
  rw [World.size_alloc] at hX
  go_wp2_with fail
  change Calls _ _ _ ((w.alloc (bx 3 (.int .i64 st))).alloc (bx 4 (.bool false))) _
  have HX := hid hX.out
  clear hX
  generalize (w.alloc (bx 3 (.int .i64 st))).alloc (bx 4 (.bool false)) = W0 at *
  refine (first W0 (HL.out.below HX.out.below)).mono ?_
  rintro e w1 ⟨rfl, hb1⟩
  have HX1 := hid (HX.out.call hb1)
  clear hb1 HX
  have c4 := HX1.out.cell (g := w.heap.size + 1) (t := 4) (v := .bool false) (by simp)
  have f4 := HX1.out.frozen (g := w.heap.size + 1) (t := 4) (v := .bool false) (by simp)
  have n43 : ¬ (w.heap.size + 1 = w.heap.size) ∧ ¬ (w.heap.size = w.heap.size + 1) := by omega
  by_cases hbig : 65536 < bl.length
  · have t1 : decide ((65536 : Int) < (bl.length : Int)) = true := by simp; omega
    have hput := hid (HX1.out.put (.bool true))
    go_wp2_with fail
    exact leave_marks9 w (w.heap.size + 1) _ rfl [] _ List.nodup_nil (fun D h => by cases h) (hput.out.cell (t := 4) (by simp)) hput.out.below
  have t1 : decide ((65536 : Int) < (bl.length : Int)) = false := by simp; omega
  have HC := hid (copyBytes _ bl w1 (HR.out.below HX1.out.below (Nat.le_refl _)) (by omega))
  have hsm : bl.length ≤ 65536 := by omega
  clear hbig c4 f4
  go_wp2_with fail
  refine HC.out.mono ?_
  rintro e w2 ⟨r2, rfl, hown2, hb2⟩
  obtain ⟨A2, cap2, rfl⟩ := row_shape hown2
  have HX2 := hid (HX1.out.adopt hown2 hb2)
  clear hown2 hb2 HX1 HC
  obtain ⟨i0, hi, hz0, hz1, hz2⟩ := info_parts infoB
  have hT : ∀ p ∈ [(w.heap.size + 1, bx 4 (.bool false)), (w.heap.size, bx 3 (.int .i64 st))], ∀ cs fr, p.2 ≠ (.cells cs 5 fr : Obj) := by
    intro p hp cs fr e
    simp only [List.mem_cons, List.not_mem_nil, or_false] at hp
    rcases hp with rfl | rfl <;> simp [bx] at e
  have HT := hid hT
  clear hT
  go_wp2_with (at_builtin; refine wpList_append_own _ rfl (.tmp 23) (.tmp 24) 31 rfl w.heap.size 5 i0 (.int .u8 0) 1 1 Tryd.underlying31 hi hz0 hz1 hz2 rfl (by decide) _ _ _ rfl (HX2.out.row.alloc _) ⟨w2.heap.size, 0, none⟩ 2 2 [.int .u8 47, .int .u8 11] rfl rfl (World.news_of_block (heap_alloc_new w2 _)) (by simp [Value.oneCell']) (by unfold maxLen; omega) (by omega) (by have := HX2.out.size; simp; omega) ?_; intro v3 w3 hown3 hgrow3 _)
  obtain ⟨m, hm⟩ : ∃ m, bl ++ [47, 11] = m := ⟨_, rfl⟩
  have hown3' : w3.ownsRow w.heap.size 5 1 v3 m.length (bys m) := by rw [← hm]; simpa [bys] using hown3
  have hml : m.length = bl.length + 2 := by rw [← hm]; simp
  have htk : m.take bl.length = bl := by rw [← hm]; simp
  have HM := hid (And.intro hm (And.intro hml htk))
  have HX3 := hid ((HX2.out.alloc' (.cells #[.int .u8 47, .int .u8 11] 5)).grow2 HT.out hown3' hgrow3)
  obtain ⟨A3, cap3, rfl⟩ := row_shape hown3'
  have hk1 : (bl.length : Int) ≤ (cap3 : Int) := by
    have h := (reads_of_row hown3').cap
    omega
  have hk0 : (0 : Int) ≤ (bl.length : Int) := by omega
  clear hm hml htk hown3 hown3' hgrow3 HX2 HT hi hz0 hz1 hz2
  have HLR := hid (linesRef _ bl (by omega) w3 (HR.out.below HX3.out.below (Nat.le_refl _)))
  have hln := ll_count bl []
  change (lines bl).length ≤ bl.length + 1 at hln
  obtain ⟨ls, hls⟩ : ∃ ls, lines bl = ls := ⟨_, rfl⟩
  rw [hls] at HLR hln
  have HLS := hid hls
  clear hls
  refine HLR.out.mono ?_
  rintro e w4 ⟨r4, rfl, hown4, hb4⟩
  obtain ⟨A4, cap4, rfl⟩ := row_shape hown4
  obtain ⟨Lw, hX4, hRW, hTW⟩ := HX3.out.adoptRow (by decide) hown4 hb4
  have hX5 := hX4.alloc (bx 22 (.slice A4 ls.length cap4))
  have HRW := hid hRW
  have htake := reads_take (reads_of_row hX5.row) bl.length (by have := HM.out.2.1; omega)
  rw [HM.out.2.2] at htake
  have HLc := hid (linesCall _ bl _ htake)
  have hX6 := hX5.alloc (bx 9 (.string ⟨bl.toArray⟩))
  rw [World.size_alloc] at hX6
  have HX6 := hid hX6
  unfold bx at HLc
  rw [World.size_alloc] at HLc
  clear hown4 hb4 hRW hTW hX4 hX5 hX6 htake HX3 HLR
  go_wp2_with (go_at_call 44; refine HLc.out.mono ?_; rintro e w6 ⟨rfl, rfl⟩; have hnf := fun W => func_nil9 #[.pointer (some ⟨w4.heap.size + 1, 0, none⟩)] W)
  clear HLc hnf
  have hX7 := HX6.out.alloc (bx 3 (.int .i64 0))
  rw [World.size_alloc, World.size_alloc] at hX7
  clear HX6
  change Bx w ((w4.heap.size + 1 + 1, bx 3 (.int .i64 0)) :: (w4.heap.size + 1, bx 9 (.string ⟨bl.toArray⟩)) :: (w4.heap.size, bx 22 (.slice A4 ls.length cap4)) :: (w.heap.size + 1, bx 4 (.bool false)) :: (w.heap.size, bx 3 (.int .i64 st)) :: Lw) _ _ (((w4.alloc (.cells #[.slice A4 ls.length cap4] 22)).alloc (.cells #[.string ⟨bl.toArray⟩] 9)).alloc (.cells #[.int .i64 0] 3)) at hX7
  generalize ((w4.alloc (.cells #[.slice A4 ls.length cap4] 22)).alloc (.cells #[.string ⟨bl.toArray⟩] 9)).alloc (.cells #[.int .i64 0] 3) = wa0 at hX7 ⊢
  obtain ⟨RB0, hRB0⟩ : ∃ k, w4.heap.size + 1 + 1 = k := ⟨_, rfl⟩
  rw [hRB0] at hX7 ⊢
  obtain ⟨LB, hLB⟩ : ∃ k, w4.heap.size + 1 = k := ⟨_, rfl⟩
  rw [hLB] at hX7 ⊢
  obtain ⟨WB, hWB⟩ : ∃ k, w4.heap.size = k := ⟨_, rfl⟩
  rw [hWB] at hX7 ⊢
  clear hRB0 hLB hWB
  refine wp_loop_rounds 3 ?_
  rw [rounds_succ]
  -- round 0
  have c9 := hX7.cell (g := RB0) (t := 3) (v := .int .i64 0) (by simp)
  have hXi := hX7.alloc (bx 3 (.int .i64 0))
  have HXi := hid hXi
  clear hXi hX7
  go_wp2_with fail
  clear c9
  have hXi := HXi.out
  clear HXi
  change Bx w ((wa0.heap.size, bx 3 (.int .i64 0)) :: (RB0, bx 3 (.int .i64 0)) :: (LB, bx 9 (.string ⟨bl.toArray⟩)) :: (WB, bx 22 (.slice A4 ls.length cap4)) :: (w.heap.size + 1, bx 4 (.bool false)) :: (w.heap.size, bx 3 (.int .i64 st)) :: Lw) _ _ (wa0.alloc (.cells #[.int .i64 0] 3)) at hXi
  generalize wa0.alloc (.cells #[.int .i64 0] 3) = wb0 at hXi ⊢
  obtain ⟨IB0, hIB⟩ : ∃ k, wa0.heap.size = k := ⟨_, rfl⟩
  rw [hIB] at hXi ⊢
  clear hIB
  refine wp_mid (fun D W => ∃ i : Nat, (i = ls.length ∨ (i : Int) = st) ∧ i ≤ ls.length ∧ Bx w ((D, .deferred (some [])) :: (IB0, bx 3 (.int .i64 (i : Int))) :: (RB0, bx 3 (.int .i64 0)) :: (LB, bx 9 (.string ⟨bl.toArray⟩)) :: (WB, bx 22 (.slice A4 ls.length cap4)) :: (w.heap.size + 1, bx 4 (.bool false)) :: (w.heap.size, bx 3 (.int .i64 st)) :: Lw) (.slice A3 m.length cap3) m W) ?range ?rest
  case range =>
    have hbf := hXi.cell (g := LB) (t := 9) (v := .string ⟨bl.toArray⟩) (by simp)
    have hLlt : ∀ (v : Value), ∀ p ∈ ((IB0, bx 3 v) :: (RB0, bx 3 (.int .i64 0)) :: (LB, bx 9 (.string ⟨bl.toArray⟩)) :: (WB, bx 22 (.slice A4 ls.length cap4)) :: (w.heap.size + 1, bx 4 (.bool false)) :: (w.heap.size, bx 3 (.int .i64 st)) :: Lw), p.1 < wb0.heap.size := by
      intro v p hp
      rcases List.mem_cons.1 hp with rfl | hp
      · exact hXi.lt (p := (IB0, bx 3 (.int .i64 0))) (by simp)
      · exact hXi.lt (List.mem_cons_of_mem _ hp)
    have hBs := hXi.size
    refine (wpIn_wide (n := 8)).1 ?_
    apply wpIn_rangeFunc_ownG (n := 8) rfl (by omega) (gf := 68) (lb := #[.pointer (some ⟨LB, 0, none⟩)]) rfl trivial (enters_of Tryd.func68 (by kernel_rfl) rfl)
      (lines_stops Fence.wide (8 - 1) trivial rfl (by omega) LB bl (by omega) wb0 hbf)
      (fun h k => Kept.trans h k) (fun W l o o' _ h1 h2 _ => Kept.putObj W l o o' h1 h2) (Below.refl _ _) (fun _ => rfl)
      (fun (pre : List Nat) W => Bx w ((IB0, bx 3 (.int .i64 (pre.length : Int))) :: (RB0, bx 3 (.int .i64 0)) :: (LB, bx 9 (.string ⟨bl.toArray⟩)) :: (WB, bx 22 (.slice A4 ls.length cap4)) :: (w.heap.size + 1, bx 4 (.bool false)) :: (w.heap.size, bx 3 (.int .i64 st)) :: Lw) (.slice A3 m.length cap3) m W)
      (fun c (pre : List Nat) W => (c = .ret ∧ ∃ (pre' : List Nat) (x : Nat), pre = pre' ++ [x] ∧ x ≠ pre'.length) ∨ (c = .exit 2 ∧ (pre.length : Int) = st ∧ Bx w ((IB0, bx 3 (.int .i64 (pre.length : Int))) :: (RB0, bx 3 (.int .i64 0)) :: (LB, bx 9 (.string ⟨bl.toArray⟩)) :: (WB, bx 22 (.slice A4 ls.length cap4)) :: (w.heap.size + 1, bx 4 (.bool false)) :: (w.heap.size, bx 3 (.int .i64 st)) :: Lw) (.slice A3 m.length cap3) m W))
      (fun pre W W' row h hg hr => h.turn (hLlt _) hBs hg hr)
      (fun c pre W W' row h hg hr => by
        rcases h with h | ⟨e1, e2, h3⟩
        · exact .inl h
        · exact .inr ⟨e1, e2, h3.turn (hLlt _) hBs hg hr⟩)
      hXi (a₁ := _) ?assign ?body ?done ?stop
    case assign =>
      intro l x W K hK
      gi_wp2
      exact hK
    case body =>
      rintro l pre x W hB hlt
      rw [HLS.out] at hlt
      have c10 := hB.cell (g := IB0) (t := 3) (v := .int .i64 (pre.length : Int)) (by simp)
      have f10 := hB.frozen (g := IB0) (t := 3) (v := .int .i64 (pre.length : Int)) (by simp)
      have c7 := hB.cell (g := WB) (t := 22) (v := .slice A4 ls.length cap4) (by simp)
      have c9 := hB.cell (g := RB0) (t := 3) (v := .int .i64 0) (by simp)
      have c4 := hB.cell (g := w.heap.size + 1) (t := 4) (v := .bool false) (by simp)
      have f4 := hB.frozen (g := w.heap.size + 1) (t := 4) (v := .bool false) (by simp)
      have c3 := hB.cell (g := w.heap.size) (t := 3) (v := .int .i64 st) (by simp)
      have hnd := hB.nodup
      have n93 : ¬ (IB0 = w.heap.size) ∧ ¬ (w.heap.size = IB0) := ⟨fun e => by simp [e] at hnd, fun e => by simp [← e] at hnd⟩
      have n99 : ¬ (IB0 = RB0) ∧ ¬ (RB0 = IB0) := ⟨fun e => by simp [e] at hnd, fun e => by simp [← e] at hnd⟩
      clear hnd
      have t1 : decide ((ls.length : Int) ≤ (pre.length : Int)) = false := by simp; omega
      have hpl9 : pre.length ≤ 1000000 := by omega
      by_cases hx : x = pre.length
      · subst hx
        obtain ⟨s, hs⟩ : ∃ s, ls[pre.length]? = some s := ⟨ls[pre.length], List.getElem?_eq_getElem hlt⟩
        obtain ⟨b4, o4, hA4, c8⟩ : ∃ b4 o4, A4 = some ⟨b4, o4, none⟩ ∧ W.cell? ⟨b4, o4 + pre.length, none⟩ = some (.string ⟨s.toArray⟩) := by
          have hr := HRW.out W (fun p hp => (hB.objs p (by simp [hp])).1)
          obtain ⟨b, o, hA⟩ := hr.addr (by rw [txs_len]; omega)
          obtain ⟨A', c', b', o', he, _, hA2, _, hcells⟩ := hr
          injection he with e1 e2 e3
          subst e1
          have := hA2 _ hA (by rw [txs_len]; omega)
          injection this with e4 e5
          exact ⟨b, o, hA, by rw [e4, e5]; exact hcells pre.length _ (by simp [txs, str, hs])⟩
        subst hA4
        have e9 : (lines bl)[pre.length]?.getD [] = s := by rw [HLS.out, hs]; rfl
        rw [e9]
        unfold str
        have t2 : (((pre.length : Int) + 1) != ((pre.length : Int) + 1)) = false := by simp
        have t3 : (s != s) = false := by simp
        have hput := hid (hB.put (.int .i64 ((pre.length : Int) + 1)))
        have HN := hid (show (((pre ++ [pre.length]).length : Nat) : Int) = (pre.length : Int) + 1 by simp)
        have HBL := hid (fun j v (hj : j < 1) (hv : W.cell? ⟨LB, j, none⟩ = some v) => (by
          obtain rfl : j = 0 := by omega
          rw [hB.cell (g := LB) (t := 9) (v := .string ⟨bl.toArray⟩) (by simp)] at hv
          rw [← hv]
          exact hput.out.cell (t := 9) (by simp) : (W.setCell ⟨IB0, 0, none⟩ (.int .i64 ((pre.length : Int) + 1))).cell? ⟨LB, j, none⟩ = some v))
        clear hs e9 hB hbf
        by_cases hst : (pre.length : Int) + 1 = st
        · have tb : ((pre.length : Int) + 1 == st) = true := by simpa using hst
          have HS := hid hst
          clear hst
          gi_wp2
          exact ⟨(KeepsOthers.setCell _ _ _).from _, .inr ⟨rfl, by (try dsimp only); rw [HN.out]; exact HS.out, by (try dsimp only); rw [HN.out]; exact hput.out⟩⟩
        · have tb : ((pre.length : Int) + 1 == st) = false := by simpa using hst
          clear hst
          gi_wp2
          exact ⟨(KeepsOthers.setCell _ _ _).from _, HBL.out, by (try dsimp only); rw [HN.out]; exact hput.out⟩
      · have t2 : ((x : Int) + 1 != (pre.length : Int) + 1) = true := by simp; omega
        have HB := hid hB
        clear hB hbf
        gi_wp2
        exact ⟨(KeepsOthers.setCell _ _ _).from _, .inl ⟨rfl, pre, x, rfl, hx⟩⟩
    case done =>
      rintro D ys W hD rfl hB hK
      rw [HLS.out, List.length_range] at hB
      exact ⟨.inl rfl, D, rfl, ls.length, .inl rfl, Nat.le_refl _, hB.mark hK (hLlt _) hBs hD⟩
    case stop =>
      rintro D c pre W hD ⟨kk, hkk, rfl⟩ hIx hK
      rcases hIx with ⟨_, pre', x, e, hne⟩ | ⟨rfl, e2, h3⟩
      · exact absurd (range_snoc e) hne
      · rw [List.length_range] at e2 h3
        exact wpIn_wide.2 (wp_exit ⟨.inr rfl, D, rfl, kk, .inr e2, by rw [HLS.out] at hkk; exact hkk, h3.mark hK (hLlt _) hBs hD⟩)
  case rest =>
    rintro D0 we0 ⟨i, hi, hil, hB⟩
    have c10 := hB.cell (g := IB0) (t := 3) (v := .int .i64 (i : Int)) (by simp)
    have c7 := hB.cell (g := WB) (t := 22) (v := .slice A4 ls.length cap4) (by simp)
    have c9 := hB.cell (g := RB0) (t := 3) (v := .int .i64 0) (by simp)
    have c3 := hB.cell (g := w.heap.size) (t := 3) (v := .int .i64 st) (by simp)
    have HB := hid hB
    clear hB
    go_upto_region 20 with fail
    go_cut [82] from 69 to 83 (fun s82 wx => s82 = .bool false ∧ we0 = wx)
    case first =>
      by_cases hi2 : i = ls.length
      · have tb : ((i : Int) != (ls.length : Int)) = false := by simp; omega
        go_wp2_with fail
        go_meet
        exact ⟨rfl, rfl⟩
      · have tb : ((i : Int) != (ls.length : Int)) = true := by simp; omega
        have ts : ((i : Int) == st) = true := by rcases hi with h | h; exact absurd h hi2; simpa using h
        go_wp2_with fail
        go_meet
        exact ⟨rfl, rfl⟩
    case rest =>
    obtain ⟨rfl, rfl⟩ := hcut
    clear c10 c7 c3 hi hil
    have hXn := hid (HB.out.alloc (bx 3 (.int .i64 1)))
    clear HB
    go_wp2_with fail
    rw [rounds_succ]
    have hXm : Bx w ((we0.heap.size, bx 3 (.int .i64 1)) :: (D0, .deferred (some [])) :: (LB, bx 9 (.string ⟨bl.toArray⟩)) :: (WB, bx 22 (.slice A4 ls.length cap4)) :: (w.heap.size + 1, bx 4 (.bool false)) :: (w.heap.size, bx 3 (.int .i64 st)) :: Lw) (.slice A3 m.length cap3) m (we0.alloc (.cells #[.int .i64 1] 3)) := hXn.out.sub (List.Sublist.cons_cons _ (List.Sublist.cons_cons _ (.cons _ (.cons _ (List.Sublist.refl _)))))
    clear hXn c9
    generalize we0.alloc (.cells #[.int .i64 1] 3) = wa1 at hXm ⊢
    obtain ⟨RB1, hRB⟩ : ∃ k, we0.heap.size = k := ⟨_, rfl⟩
    rw [hRB] at hXm ⊢
    clear hRB
    -- round 1
    have c9 := hXm.cell (g := RB1) (t := 3) (v := .int .i64 1) (by simp)
    have hXi := hXm.alloc (bx 3 (.int .i64 0))
    have HXi := hid hXi
    clear hXi hXm
    go_wp2_with fail
    clear c9
    have hXi := HXi.out
    clear HXi
    change Bx w ((wa1.heap.size, bx 3 (.int .i64 0)) :: (RB1, bx 3 (.int .i64 1)) :: (D0, .deferred (some [])) :: (LB, bx 9 (.string ⟨bl.toArray⟩)) :: (WB, bx 22 (.slice A4 ls.length cap4)) :: (w.heap.size + 1, bx 4 (.bool false)) :: (w.heap.size, bx 3 (.int .i64 st)) :: Lw) _ _ (wa1.alloc (.cells #[.int .i64 0] 3)) at hXi
    generalize wa1.alloc (.cells #[.int .i64 0] 3) = wb1 at hXi ⊢
    obtain ⟨IB1, hIB⟩ : ∃ k, wa1.heap.size = k := ⟨_, rfl⟩
    rw [hIB] at hXi ⊢
    clear hIB
    refine wp_mid (fun D W => ∃ i : Nat, (i = ls.length ∨ False) ∧ i ≤ ls.length ∧ Bx w ((D, .deferred (some [])) :: (IB1, bx 3 (.int .i64 (i : Int))) :: (RB1, bx 3 (.int .i64 1)) :: (D0, .deferred (some [])) :: (LB, bx 9 (.string ⟨bl.toArray⟩)) :: (WB, bx 22 (.slice A4 ls.length cap4)) :: (w.heap.size + 1, bx 4 (.bool false)) :: (w.heap.size, bx 3 (.int .i64 st)) :: Lw) (.slice A3 m.length cap3) m W) ?range ?rest
    case range =>
      have hbf := hXi.cell (g := LB) (t := 9) (v := .string ⟨bl.toArray⟩) (by simp)
      have hLlt : ∀ (v : Value), ∀ p ∈ ((IB1, bx 3 v) :: (RB1, bx 3 (.int .i64 1)) :: (D0, .deferred (some [])) :: (LB, bx 9 (.string ⟨bl.toArray⟩)) :: (WB, bx 22 (.slice A4 ls.length cap4)) :: (w.heap.size + 1, bx 4 (.bool false)) :: (w.heap.size, bx 3 (.int .i64 st)) :: Lw), p.1 < wb1.heap.size := by
        intro v p hp
        rcases List.mem_cons.1 hp with rfl | hp
        · exact hXi.lt (p := (IB1, bx 3 (.int .i64 0))) (by simp)
        · exact hXi.lt (List.mem_cons_of_mem _ hp)
      have hBs := hXi.size
      refine (wpIn_wide (n := 8)).1 ?_
      apply wpIn_rangeFunc_ownG (n := 8) rfl (by omega) (gf := 68) (lb := #[.pointer (some ⟨LB, 0, none⟩)]) rfl trivial (enters_of Tryd.func68 (by kernel_rfl) rfl)
        (lines_stops Fence.wide (8 - 1) trivial rfl (by omega) LB bl (by omega) wb1 hbf)
        (fun h k => Kept.trans h k) (fun W l o o' _ h1 h2 _ => Kept.putObj W l o o' h1 h2) (Below.refl _ _) (fun _ => rfl)
        (fun (pre : List Nat) W => Bx w ((IB1, bx 3 (.int .i64 (pre.length : Int))) :: (RB1, bx 3 (.int .i64 1)) :: (D0, .deferred (some [])) :: (LB, bx 9 (.string ⟨bl.toArray⟩)) :: (WB, bx 22 (.slice A4 ls.length cap4)) :: (w.heap.size + 1, bx 4 (.bool false)) :: (w.heap.size, bx 3 (.int .i64 st)) :: Lw) (.slice A3 m.length cap3) m W)
        (fun c (pre : List Nat) W => (c = .ret ∧ ∃ (pre' : List Nat) (x : Nat), pre = pre' ++ [x] ∧ x ≠ pre'.length))
        (fun pre W W' row h hg hr => h.turn (hLlt _) hBs hg hr)
        (fun c pre W W' row h hg hr => by
          exact h)
        hXi (a₁ := _) ?assign ?body ?done ?stop
      case assign =>
        intro l x W K hK
        gi_wp2
        exact hK
      case body =>
        rintro l pre x W hB hlt
        rw [HLS.out] at hlt
        have c10 := hB.cell (g := IB1) (t := 3) (v := .int .i64 (pre.length : Int)) (by simp)
        have f10 := hB.frozen (g := IB1) (t := 3) (v := .int .i64 (pre.length : Int)) (by simp)
        have c7 := hB.cell (g := WB) (t := 22) (v := .slice A4 ls.length cap4) (by simp)
        have c9 := hB.cell (g := RB1) (t := 3) (v := .int .i64 1) (by simp)
        have c4 := hB.cell (g := w.heap.size + 1) (t := 4) (v := .bool false) (by simp)
        have f4 := hB.frozen (g := w.heap.size + 1) (t := 4) (v := .bool false) (by simp)
        have c3 := hB.cell (g := w.heap.size) (t := 3) (v := .int .i64 st) (by simp)
        have hnd := hB.nodup
        have n93 : ¬ (IB1 = w.heap.size) ∧ ¬ (w.heap.size = IB1) := ⟨fun e => by simp [e] at hnd, fun e => by simp [← e] at hnd⟩
        have n99 : ¬ (IB1 = RB1) ∧ ¬ (RB1 = IB1) := ⟨fun e => by simp [e] at hnd, fun e => by simp [← e] at hnd⟩
        clear hnd
        have t1 : decide ((ls.length : Int) ≤ (pre.length : Int)) = false := by simp; omega
        have hpl9 : pre.length ≤ 1000000 := by omega
        by_cases hx : x = pre.length
        · subst hx
          obtain ⟨s, hs⟩ : ∃ s, ls[pre.length]? = some s := ⟨ls[pre.length], List.getElem?_eq_getElem hlt⟩
          obtain ⟨b4, o4, hA4, c8⟩ : ∃ b4 o4, A4 = some ⟨b4, o4, none⟩ ∧ W.cell? ⟨b4, o4 + pre.length, none⟩ = some (.string ⟨s.toArray⟩) := by
            have hr := HRW.out W (fun p hp => (hB.objs p (by simp [hp])).1)
            obtain ⟨b, o, hA⟩ := hr.addr (by rw [txs_len]; omega)
            obtain ⟨A', c', b', o', he, _, hA2, _, hcells⟩ := hr
            injection he with e1 e2 e3
            subst e1
            have := hA2 _ hA (by rw [txs_len]; omega)
            injection this with e4 e5
            exact ⟨b, o, hA, by rw [e4, e5]; exact hcells pre.length _ (by simp [txs, str, hs])⟩
          subst hA4
          have e9 : (lines bl)[pre.length]?.getD [] = s := by rw [HLS.out, hs]; rfl
          rw [e9]
          unfold str
          have t2 : (((pre.length : Int) + 1) != ((pre.length : Int) + 1)) = false := by simp
          have t3 : (s != s) = false := by simp
          have hput := hid (hB.put (.int .i64 ((pre.length : Int) + 1)))
          have HN := hid (show (((pre ++ [pre.length]).length : Nat) : Int) = (pre.length : Int) + 1 by simp)
          have HBL := hid (fun j v (hj : j < 1) (hv : W.cell? ⟨LB, j, none⟩ = some v) => (by
            obtain rfl : j = 0 := by omega
            rw [hB.cell (g := LB) (t := 9) (v := .string ⟨bl.toArray⟩) (by simp)] at hv
            rw [← hv]
            exact hput.out.cell (t := 9) (by simp) : (W.setCell ⟨IB1, 0, none⟩ (.int .i64 ((pre.length : Int) + 1))).cell? ⟨LB, j, none⟩ = some v))
          clear hs e9 hB hbf
          gi_wp2
          exact ⟨(KeepsOthers.setCell _ _ _).from _, HBL.out, by (try dsimp only); rw [HN.out]; exact hput.out⟩
        · have t2 : ((x : Int) + 1 != (pre.length : Int) + 1) = true := by simp; omega
          have HB := hid hB
          clear hB hbf
          gi_wp2
          exact ⟨(KeepsOthers.setCell _ _ _).from _,  ⟨rfl, pre, x, rfl, hx⟩⟩
      case done =>
        rintro D ys W hD rfl hB hK
        rw [HLS.out, List.length_range] at hB
        exact ⟨.inl rfl, D, rfl, ls.length, .inl rfl, Nat.le_refl _, hB.mark hK (hLlt _) hBs hD⟩
      case stop =>
        rintro D c pre W hD ⟨kk, hkk, rfl⟩ hIx hK
        obtain ⟨_, pre', x, e, hne⟩ := hIx
        exact absurd (range_snoc e) hne
    case rest =>
      rintro D1 we1 ⟨i, hi, hil, hB⟩
      have c10 := hB.cell (g := IB1) (t := 3) (v := .int .i64 (i : Int)) (by simp)
      have c7 := hB.cell (g := WB) (t := 22) (v := .slice A4 ls.length cap4) (by simp)
      have c9 := hB.cell (g := RB1) (t := 3) (v := .int .i64 1) (by simp)
      have c3 := hB.cell (g := w.heap.size) (t := 3) (v := .int .i64 st) (by simp)
      have HB := hid hB
      clear hB
      go_upto_region 20 with fail
      go_cut [82] from 69 to 83 (fun s82 wx => s82 = .bool false ∧ we1 = wx)
      case first =>
        by_cases hi2 : i = ls.length
        · have tb : ((i : Int) != (ls.length : Int)) = false := by simp; omega
          go_wp2_with fail
          go_meet
          exact ⟨rfl, rfl⟩
        · rcases hi with h | h; exact absurd h hi2; exact h.elim
      case rest =>
      obtain ⟨rfl, rfl⟩ := hcut
      clear c10 c7 c3 hi hil
      have hXn := hid (HB.out.alloc (bx 3 (.int .i64 2)))
      clear HB
      go_wp2_with fail
      rw [rounds_succ]
      have hXm : Bx w ((we1.heap.size, bx 3 (.int .i64 2)) :: (D1, .deferred (some [])) :: (D0, .deferred (some [])) :: (LB, bx 9 (.string ⟨bl.toArray⟩)) :: (WB, bx 22 (.slice A4 ls.length cap4)) :: (w.heap.size + 1, bx 4 (.bool false)) :: (w.heap.size, bx 3 (.int .i64 st)) :: Lw) (.slice A3 m.length cap3) m (we1.alloc (.cells #[.int .i64 2] 3)) := hXn.out.sub (List.Sublist.cons_cons _ (List.Sublist.cons_cons _ (.cons _ (.cons _ (List.Sublist.refl _)))))
      clear hXn c9
      generalize we1.alloc (.cells #[.int .i64 2] 3) = wa2 at hXm ⊢
      obtain ⟨RB2, hRB⟩ : ∃ k, we1.heap.size = k := ⟨_, rfl⟩
      rw [hRB] at hXm ⊢
      clear hRB
      have c9 := hXm.cell (g := RB2) (t := 3) (v := .int .i64 2) (by simp)
      have HXm := hid hXm
      have HCb := hid (copyBytes _ bl wa2 (HR.out.below hXm.below (Nat.le_refl _)) (by omega))
      clear hXm
      go_wp2_with fail
      refine HCb.out.mono ?_
      rintro e w8 ⟨r8, rfl, hown8, hb8⟩
      obtain ⟨A8, cap8, rfl⟩ := row_shape hown8
      have HO8 := hid hown8
      have HB8 := hid hb8
      obtain ⟨i0, hi, hz0, hz1, hz2⟩ := info_parts infoB
      clear hown8 hb8 HCb c9
      go_wp2_with (at_builtin; refine wpList_append_own _ rfl (.tmp 86) (.tmp 87) 31 rfl wa2.heap.size 5 i0 (.int .u8 0) 1 1 Tryd.underlying31 hi hz0 hz1 hz2 rfl (by decide) _ _ _ rfl (HO8.out.alloc _) ⟨w8.heap.size, 0, none⟩ 2 2 [.int .u8 47, .int .u8 11] rfl rfl (World.news_of_block (heap_alloc_new w8 _)) (by simp [Value.oneCell']) (by unfold maxLen; omega) (by omega) (by have := HB8.out.size; simp; omega) ?_; intro v9 w9 hown9 hgrow9 _)
      have hown9' : w9.ownsRow wa2.heap.size 5 1 v9 m.length (bys m) := by rw [← HM.out.1]; simpa [bys] using hown9
      have hb9 : Below wa2.heap.size wa2 w9 := grown_below HB8.out HB8.out.size HO8.out (Nat.le_refl _) hgrow9
      have HX9 := hid (HXm.out.call hb9)
      have HS9 := hid (sameBytes_same _ _ m w9 (reads_of_row HX9.out.row) (reads_of_row hown9'))
      have c4 := HX9.out.cell (g := w.heap.size + 1) (t := 4) (v := .bool false) (by simp)
      have f4 := HX9.out.frozen (g := w.heap.size + 1) (t := 4) (v := .bool false) (by simp)
      clear hown9 hown9' hb9 hgrow9 HO8 HB8 HXm hi hz0 hz1 hz2
      refine HS9.out.mono ?_
      rintro e w10 ⟨rfl, rfl⟩
      have hput := hid ((HX9.out.perm (L' := (w.heap.size + 1, bx 4 (.bool false)) :: (RB2, bx 3 (.int .i64 2)) :: (D1, .deferred (some [])) :: (D0, .deferred (some [])) :: (LB, bx 9 (.string ⟨bl.toArray⟩)) :: (WB, bx 22 (.slice A4 ls.length cap4)) :: (w.heap.size, bx 3 (.int .i64 st)) :: Lw) (List.perm_middle (l₁ := [_, _, _, _, _])).symm).put (.bool true))
      clear HS9
      go_wp2_with fail
      refine leave_marks9 w (w.heap.size + 1) _ rfl [D1, D0] _ ?_ (fun D h => ?_) (hput.out.cell (t := 4) (by simp)) hput.out.below
      · have hnd := hput.out.nodup
        simp only [List.map_cons, List.nodup_cons, List.mem_cons, not_or] at hnd ⊢
        exact ⟨⟨hnd.2.2.1.1, by simp⟩, by simp, List.nodup_nil⟩
      · simp only [List.mem_cons, List.not_mem_nil, or_false] at h
        rcases h with rfl | rfl
        · exact ⟨(hput.out.objs (D, .deferred (some [])) (by simp)).1, (hput.out.objs (D, .deferred (some [])) (by simp)).2.1⟩
        · exact ⟨(hput.out.objs (D, .deferred (some [])) (by simp)).1, (hput.out.objs (D, .deferred (some [])) (by simp)).2.1⟩
end Go.Proofs.YtdinjplbbmhleaaDoor
