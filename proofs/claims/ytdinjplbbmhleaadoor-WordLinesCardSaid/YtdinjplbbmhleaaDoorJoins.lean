/-
  WordJoins: for every line and every bytes the law answers true, and nothing that was there has turned.
-/
import Derived.Test.YtdinjplbbmhleaaDoorIter
import Derived.Test.YtdinjplbbmhleaaDoorOne
import Derived.Lib.AppendStr
import Derived.Deep.Cut
import Derived.Deep.CutRange
import Derived.Deep.DrawnRows
import Derived.Deep.AppendLies
namespace Go.Proofs.YtdinjplbbmhleaaDoor
open Go.RowKit Go.Maps W
attribute [local go_sem ↓] Go.wp_at_zero Go.wp_at_succ
attribute [local go_sem] Oper.semAt_some

/-- No panic. -/
def calm (Q : Exit → Act → World → Prop) : Exit → Act → World → Prop
  | .panic _, _, _ => False
  | .normal, a, w => Q .normal a w
  | .ret, a, w => Q .ret a w
  | .exit i, a, w => Q (.exit i) a w
  | .goto l, a, w => Q (.goto l) a w
  | .outgrown, a, w => Q .outgrown a w
theorem calm_le (Q : Exit → Act → World → Prop) : ∀ e a w, calm Q e a w → Q e a w := by
  intro e a w h
  cases e with
  | panic c => exact h.elim
  | normal => exact h
  | ret => exact h
  | exit i => exact h
  | goto l => exact h
  | outgrown => exact h
theorem wpListIn_append_str {F : Fence} {n' : Nat} {P : Program} {ops : Array Oper} {rest : List Oper} {o : Oper} {a : Act} {Q : Exit → Act → World → Prop} (w : World) (hgd : o.guard = none) (sl x : Operand) (t u : TypeId)
    (ho : o.op = .call { callee := .builtin .append, args := #[sl, x], argTypes := #[t, u] })
    (base : Nat) (e : TypeId) (i : TypeInfo) (ht : P.underlying t = some (.slice e)) (hu : P.underlying u = some .string) (hi : P.info? e = some i) (hz : i.zero = some (.int .u8 0))
    (hsize : i.size = 1) (hby : i.bytes = 1)
    (v : Value) (n : Nat) (xs : List Value) (hs : a.eval sl = v) (hown : w.ownsRow base e 1 v n xs) (s : ByteArray) (hx : a.eval x = .string s)
    (h63 : n + s.size ≤ maxLen) (hbytes : n + s.size ≤ 140737488355328) (hbase : base ≤ w.heap.size)
    (h : ∀ v' w', w'.ownsRow base e 1 v' (n + s.size) (xs ++ Lib.strCells s) → w.grownBy w' v.ownBlock → wpListIn F n' P ops Q rest (a.put o.dst v') w') : wpListIn F n' P ops Q (o :: rest) a w := by
  refine wpListIn_plain hgd fun K hK => ?_
  obtain ⟨v', w', hr, h2, h3, h4⟩ := Lib.run_append_own_string (P := P) w base t u o.type e i ht hu hi hz hsize hby v n xs hown s h63 hbytes hbase
  unfold Oper.wpIn
  refine ⟨?_, ?_⟩
  · simp [Oper.about, ho, resolve, Target.leads, Sem.run_pure]
  · rw [Oper.semAt_plain F _ _ (by rw [ho]; intro c hc'; cases hc')]
    simp [execOp, ho, resolve, invoke, builtin, hs, hx, hr, Result.andThen]
    exact hK _ _ (h v' w' h2 h3)

theorem wp_mid {P : Program} {c : Code} {id : Nat} {Q2 : Exit → Act → World → Prop} {a : Act} {w : World} (J : Nat → World → Prop)
    (h : c.wp P (fun e a' W => (e = .normal ∨ e = .exit id) ∧ ∃ D, a' = { a with defers := { target := .collected D, args := #[] } :: a.defers } ∧ J D W) a w)
    (hq : ∀ D W, J D W → Q2 .normal { a with defers := { target := .collected D, args := #[] } :: a.defers } W) : c.wp P (Exit.inBlock id Q2) a w := by
  refine wp_mono h ?_
  rintro e a' W ⟨rfl | rfl, D, rfl, hJ⟩
  · exact hq D W hJ
  · simp only [Exit.inBlock, if_true]
    exact hq D W hJ

/-- Where the caller's own bytes have grown, blocks of other kinds lie where they lay. -/
theorem Bx.grow2 {w W W' : World} {L : List (Nat × Obj)} {msl msl' : Value} {m m' : List UInt8} (h : Bx w L msl m W) (hT : ∀ p ∈ L, ∀ cs fr, p.2 ≠ .cells cs 5 fr) (hrow : W'.ownsRow w.heap.size 5 1 msl' m'.length (bys m')) (hg : W.grownBy W' msl.ownBlock) : Bx w L msl' m' W' := by
  have hO : Only msl.ownBlock.toList W W' := (Only.refl _ W).grown hg (fun k e => .inl (by simp [e]))
  have hobj : ∀ p ∈ L, W'.heap[p.1]? = some p.2 := fun p hp => (hg.block p.1 (h.lt hp) (fun e => (h.objs p hp).2.2 e.symm)).trans (h.objs p hp).1
  refine ⟨fun p hp => ⟨hobj p hp, (h.objs p hp).2.1, fun e => ?_⟩, h.nodup, hrow, below_only h.below hO h.below.size (fun x hx => (row_own h.row (by simpa using hx)).1)⟩
  rcases hrow.2 with ⟨rfl, _⟩ | ⟨g', cap, cur, rfl, _, hh, _⟩
  · simp [Value.ownBlock] at e
  · obtain rfl : g' = p.1 := by simpa [Value.ownBlock] using e
    rw [hobj p hp] at hh
    injection hh with hh
    exact hT p hp _ _ hh

/-- The bytes that the rounds have gathered. -/
def gath (l : List UInt8) (pre : List Nat) : List UInt8 := unlines (pre.map fun i => (lines l)[i]?.getD [])
theorem gath_snoc (l : List UInt8) (pre : List Nat) (x : Nat) : gath l (pre ++ [x]) = gath l pre ++ (lines l)[x]?.getD [] ++ [10] := by simp [gath, unlines]
theorem gath_all (l : List UInt8) : gath l (List.range (lines l).length) = unlines (lines l) := by
  unfold gath
  congr 1
  apply List.ext_getElem?
  intro i
  rcases Nat.lt_or_ge i (lines l).length with h | h
  · simp [List.getElem?_range h, List.getElem?_eq_getElem h]
  · simp [List.getElem?_eq_none (show ((List.range (lines l).length).map fun i => (lines l)[i]?.getD []).length ≤ i by simpa using h), List.getElem?_eq_none h]

theorem res10 (tmps : Array Value) (w : World) (x : Bool) (hp : tmps.getD 4 undef = .bool x) : (results Tryd.f10 tmps).run Tryd.prog w = .ok (.bool x) w := by
  have hp' : tmps[4]?.getD undef = .bool x := by simpa using hp
  simp [results, Tryd.f10, hp', go_sem]
theorem leave_marks10 (w : World) (tmps : Array Value) (ht : tmps.getD 4 undef = .bool true) : ∀ (Ds : List Nat) (W : World), Ds.Nodup → (∀ D ∈ Ds, W.heap[D]? = some (.deferred (some [])) ∧ w.heap.size ≤ D) → Below w.heap.size w W →
    LeavesInM Fence.wide 8 Tryd.prog Tryd.f10 tmps (fun e w' => e = .returned (.bool true) ∧ Below w.heap.size w w') (Ds.map fun D => { target := .collected D, args := #[] }) .returning W
  | [], W, _, _, hb => ⟨_, res10 tmps W true ht, rfl, hb⟩
  | D :: Ds, W, hn, hD, hb => by
    have hK := (hD D (by simp)).1
    refine ⟨by simp, .inl ⟨D, _, rfl, run_takeDeferred hK, ?_⟩⟩
    rw [List.nodup_cons] at hn
    refine leave_marks10 w tmps ht Ds _ hn.2 (fun D' hD' => ?_) (hb.trans (belowK_b (w := w) (Nat.le_refl _) W D _ _ (hD D (by simp)).2 hK rfl rfl))
    have hne : D' ≠ D := fun e => hn.1 (e ▸ hD')
    exact ⟨(World.putObj_heap_other hne).trans (hD D' (List.mem_cons_of_mem _ hD')).1, (hD D' (List.mem_cons_of_mem _ hD')).2⟩

theorem row_isCells {w : World} {b e n : Nat} {v : Value} {xs : List Value} (h : w.ownsRow b e 1 v n xs) : ∀ (j : Nat) (o : Obj), v.ownBlock = some j → w.heap[j]? = some o → o.isCells = true := by
  intro j o hj ho
  rcases h.2 with ⟨rfl, _⟩ | ⟨g', cap, cur, rfl, _, hh, _⟩
  · simp [Value.ownBlock] at hj
  · obtain rfl : g' = j := by simpa [Value.ownBlock] using hj
    rw [hh] at ho
    injection ho with ho
    subst ho
    rfl
theorem below_al_reads {w a : World} {o : Obj} {v : Value} {xs : List Value} (h : Reads w v xs) (hb : Below w.heap.size w a) : Reads (a.alloc o) v xs :=
  (h.below hb (Nat.le_refl _)).below ((Below.refl a.heap.size a).alloc (Nat.le_refl _) o) (Nat.le_refl _)
theorem join_le' (l : List (List UInt8)) : (Lib.join l [32]).length ≤ Lib.lens l + l.length := by
  cases l with
  | nil => simp [Lib.join_nil]
  | cons x r =>
    rw [Lib.join_length]
    simp
    omega
theorem len_le_lens {l : List (List UInt8)} {x : List UInt8} (h : x ∈ l) : x.length ≤ Lib.lens l := by
  induction l with
  | nil => cases h
  | cons y r ih =>
    simp only [Lib.lens, List.map_cons, List.sum_cons] at ih ⊢
    rcases List.mem_cons.1 h with rfl | h
    · omega
    · have := ih h
      omega
theorem wl_lens : ∀ (l cur : List UInt8), Lib.lens (wl cur l) ≤ cur.length + l.length
  | [], cur => by rw [wl]; split <;> simp [Lib.lens]
  | c :: r, cur => by
    rw [wl]
    split
    · split
      · have := wl_lens r []
        simp at this ⊢; omega
      · have := wl_lens r []
        simp [Lib.lens] at this ⊢; omega
    · have := wl_lens r (cur ++ [c])
      simp at this ⊢; omega

set_option maxHeartbeats 8000000 in
set_option maxRecDepth 100000 in
theorem joins (sl : List UInt8) (v : Value) (bl : List UInt8) (w : World) (hL : Laid w) (hv : Reads w v (bys bl)) (hs : sl.length ≤ 9223372036854775807) (hb9 : bl.length ≤ 9223372036854775807) :
    Calls Tryd.prog 10 #[.string ⟨sl.toArray⟩, v] w fun e w' => e = .returned (.bool true) ∧ Below w.heap.size w w' := by
  obtain ⟨A, c, rfl⟩ := hv.shape
  rw [bys_len] at hv ⊢
  have HR := hid hv
  have hF := hid (first w hL)
  clear hv hL
  refine (callsIn_wide (n := 8)).1 (callsIn_of_wp_marks Tryd.func10 rfl trivial ?_)
  refine wpIn_wide.2 (wp_mono ?_ (calm_le _))
  simp only [Tryd.ntmps10, List.size_toArray, List.length_cons, List.length_nil, Nat.reduceAdd, Nat.reduceSub, Array.replicate_succ, Array.replicate_zero, List.push_toArray, List.append_toArray, List.nil_append, List.cons_append]
  go_wp2_with fail
  refine hF.out.mono ?_
  rintro e w1 ⟨rfl, hb1⟩
  have HB1 := hid hb1
  clear hF hb1
  by_cases hbig1 : 65536 < sl.length
  · have t1 : decide ((65536 : Int) < (sl.length : Int)) = true := by simp; omega
    go_wp2
    exact leave_marks10 w _ rfl [] _ List.nodup_nil (fun D h => by cases h) HB1.out
  have t1 : decide ((65536 : Int) < (sl.length : Int)) = false := by simp; omega
  by_cases hbig2 : 65536 < bl.length
  · have t2 : decide ((65536 : Int) < (bl.length : Int)) = true := by simp; omega
    go_wp2
    exact leave_marks10 w _ rfl [] _ List.nodup_nil (fun D h => by cases h) HB1.out
  have t2 : decide ((65536 : Int) < (bl.length : Int)) = false := by simp; omega
  have hsm1 : sl.length ≤ 65536 := by omega
  have hsm2 : bl.length ≤ 65536 := by omega
  have hWc := hid (wordsCall sl (by omega) w1)
  have hwy := hid (words_wordy sl)
  have hwl : (W.words sl).length ≤ sl.length + 1 := by have := wl_len sl []; unfold W.words; omega
  have hwj := hid (words_join (W.words sl) (words_wordy sl))
  have hjl : (Lib.join (W.words sl) [32]).length ≤ 1000000000 := by
    have h1 := join_le' (W.words sl)
    have h2 := wl_lens sl []
    unfold W.words at h1 hwl ⊢
    simp at h2
    omega
  have hxs := hid (fun x (hx : x ∈ W.words sl) => Nat.le_trans (len_le_lens hx) (show Lib.lens (W.words sl) ≤ 65536 by have h2 := wl_lens sl []; unfold W.words; simp at h2; omega))
  generalize W.words sl = ws at *
  go_wp2_with fail
  refine hWc.out.mono ?_
  rintro e w2 ⟨A2, rfl, hA2, hown2, hb2⟩
  have HB2 := hid (HB1.out.trans (hb2.mono HB1.out.size))
  have HO2 := hid hown2
  clear hown2 hb2 HB1 hWc
  go_wp2_with fail
  go_loop [7] (fun si => ∃ i : Nat, si = .int .i64 i ∧ i ≤ ws.length) (fun si => ws.length - (intOf si).toNat)
  case atStart => exact ⟨0, rfl, Nat.zero_le _⟩
  case round =>
    obtain ⟨i, rfl, hi⟩ := hrel
    by_cases hlt : i < ws.length
    · obtain ⟨x, hx⟩ : ∃ x, ws[i]? = some x := ⟨ws[i], List.getElem?_eq_getElem hlt⟩
      have hxw := hwy.out x (List.mem_of_getElem? hx)
      have c1 : w2.cell? ⟨A2, i, none⟩ = some (.string ⟨x.toArray⟩) := by
        rw [HO2.out.cellAt i (by omega)]
        simp [txs, str, hx]
      have hxl : x.length ≤ 65536 := hxs.out x (List.mem_of_getElem? hx)
      have HXW := hid hxw
      clear hx hxw
      go_wp2_with fail
      go_loop [8] (fun sj => ∃ q : Nat, sj = .int .i64 q ∧ q ≤ x.length) (fun sj => x.length - (intOf sj).toNat)
      case atStart => exact ⟨0, rfl, Nat.zero_le _⟩
      case round =>
        obtain ⟨q, rfl, hq⟩ := hrel
        by_cases hql : q < x.length
        · obtain ⟨ch, hch⟩ : ∃ ch, x[q]? = some ch := ⟨x[q], List.getElem?_eq_getElem hql⟩
          have hgB : (⟨x.toArray⟩ : ByteArray)[q]'(by simpa [ByteArray.size] using hql) = ch := by
            rw [List.getElem?_eq_getElem hql] at hch
            injection hch
          have t5 : ((ch.toNat : Int) == 32) = false := by
            rw [beq_eq_false_iff_ne]
            intro e
            have e2 : ch = 32 := UInt8.toNat_inj.1 (by show ch.toNat = 32; omega)
            exact HXW.out.2 (e2 ▸ List.mem_of_getElem? hch)
          clear hch
          go_wp2
          go_round
          case rel => exact ⟨q + 1, by go_num, by omega⟩
          case measure => simp [intOf] <;> omega
        · have hne := HXW.out.1
          have t6 : (x == []) = false := by simpa using hne
          clear hne
          go_wp2_with fail
          go_round
          case rel => exact ⟨i + 1, by go_num, by omega⟩
          case measure => simp [intOf] <;> omega
    · have HJ := hid (joinCall _ ws w2 (reads_of_row HO2.out) (by omega) hjl)
      have hjl2 := hid (fun W => wordsCall (Lib.join ws [32]) hjl W)
      rw [hwj.out] at hjl2
      have HR2 := hid (fun w' (hb : Below w2.heap.size w2 w') => (reads_of_row HO2.out).below hb (Nat.le_refl _))
      clear HO2 hjl hxs
      generalize Lib.join ws [32] = jl at *
      go_wp2_with fail
      refine HJ.out.mono ?_
      rintro e w3 ⟨rfl, hb3⟩
      have HB3 := hid (HB2.out.trans (hb3.mono HB2.out.size))
      have HE3 := hid hb3
      clear hb3 HJ HB2
      go_wp2_with fail
      refine (hjl2.out _).mono ?_
      rintro e w4 ⟨A4, rfl, _, hown4, hb4⟩
      have HB4 := hid (HB3.out.trans (hb4.mono HB3.out.size))
      have HE4 := hid (HE3.out.trans (hb4.mono HE3.out.size))
      have HS4 := hid (sameTexts_same _ _ ws w4 (reads_of_row hown4) (HR2.out w4 HE4.out) (by omega))
      clear hb4 hown4 hjl2 HB3 HE3 HR2 HE4
      go_wp2_with fail
      refine HS4.out.mono ?_
      rintro e w5 ⟨rfl, hb5⟩
      have HB5 := hid (HB4.out.trans (hb5.mono HB4.out.size))
      clear hb5 HS4 HB4
      have hbx0 : Bx w [] (.slice none 0 0) [] w5 := ⟨(fun p hp => by cases hp), by simp, World.ownsRow_nil _ _ _ _, HB5.out⟩
      have hbx1 := hbx0.alloc (bx 31 (.slice none 0 0))
      have HLc := hid (linesCall (.slice A bl.length c) bl (w5.alloc (.cells #[.slice none 0 0] 31)) (below_al_reads HR.out HB5.out))
      have hbx2 := (hbx1.alloc (bx 9 (.string ⟨bl.toArray⟩)))
      rw [World.size_alloc] at hbx2
      have HX := hid hbx2
      clear hbx0 hbx1 hbx2
      go_wp2_with (go_at_call 44; refine HLc.out.mono ?_; rintro e w6 ⟨rfl, rfl⟩)
      have hX := HX.out
      clear HX HLc
      change Bx w _ _ _ ((w5.alloc (.cells #[.slice none 0 0] 31)).alloc (.cells #[.string ⟨bl.toArray⟩] 9)) at hX
      generalize (w5.alloc (.cells #[.slice none 0 0] 31)).alloc (.cells #[.string ⟨bl.toArray⟩] 9) = wa at hX ⊢
      refine wp_mid (fun D W => ∃ (A' : Option Addr) (cap' : Nat), Bx w [(D, .deferred (some [])), (w5.heap.size + 1, bx 9 (.string ⟨bl.toArray⟩)), (w5.heap.size, bx 31 (.slice A' (unlines (lines bl)).length cap'))] (.slice A' (unlines (lines bl)).length cap') (unlines (lines bl)) W) ?range ?rest
      case range =>
        have hbf := hX.cell (g := w5.heap.size + 1) (t := 9) (v := .string ⟨bl.toArray⟩) (by simp)
        have hLlt : ∀ (v : Value), ∀ p ∈ [(w5.heap.size + 1, bx 9 (.string ⟨bl.toArray⟩)), (w5.heap.size, bx 31 v)], p.1 < wa.heap.size := by
          intro v p hp
          simp only [List.mem_cons, List.not_mem_nil, or_false] at hp
          rcases hp with rfl | rfl
          · exact hX.lt (p := (w5.heap.size + 1, bx 9 (.string ⟨bl.toArray⟩))) (by simp)
          · exact hX.lt (p := (w5.heap.size, bx 31 (.slice none 0 0))) (by simp)
        have hBs := hX.size
        refine (wpIn_wide (n := 8)).1 ?_
        apply wpIn_rangeFunc_ownG (n := 8) rfl (by omega) (gf := 68) (lb := #[.pointer (some ⟨w5.heap.size + 1, 0, none⟩)]) rfl trivial (enters_of Tryd.func68 (by kernel_rfl) rfl)
          (lines_stops Fence.wide (8 - 1) trivial rfl (by omega) (w5.heap.size + 1) bl (by omega) wa hbf)
          (fun h k => Kept.trans h k) (fun W l o o' _ h1 h2 _ => Kept.putObj W l o o' h1 h2) (Below.refl _ _) (fun _ => rfl)
          (fun (pre : List Nat) W => ∃ (A' : Option Addr) (cap' : Nat), Bx w [(w5.heap.size + 1, bx 9 (.string ⟨bl.toArray⟩)), (w5.heap.size, bx 31 (.slice A' (gath bl pre).length cap'))] (.slice A' (gath bl pre).length cap') (gath bl pre) W ∧ (gath bl pre).length ≤ pre.length * 65537)
          (fun c (pre : List Nat) W => False)
          (fun pre W W' row h hg hr => by
            obtain ⟨A', cap', h1, h2⟩ := h
            exact ⟨A', cap', h1.turn (hLlt _) hBs hg hr, h2⟩)
          (fun c pre W W' row h hg hr => h)
          ⟨none, 0, hX, by simp [gath, unlines]⟩ (a₁ := _) ?assign ?body ?done ?stop
        case assign =>
          intro l x W K hK
          gi_wp2
          exact hK
        case body =>
          rintro l pre x W ⟨A', cap', hB, hlen⟩ hlt
          obtain ⟨i0, hi, hz0, hz1, hz2⟩ := info_parts infoB
          have hNc : (lines bl).length ≤ 65537 := by have := ll_count bl []; unfold lines; omega
          have hsl := line_len bl x
          have hg9 := hid (gath_snoc bl pre x)
          have hm9 : (gath bl pre).length ≤ 65537 * 65537 := Nat.le_trans hlen (Nat.mul_le_mul_right _ (by omega))
          have HLn := hid hlen
          generalize hsd : (lines bl)[x]?.getD [] = s at *
          clear hsd
          generalize hmd : gath bl pre = m at *
          clear hmd
          have c10 := hB.cell (g := w5.heap.size) (t := 31) (v := .slice A' m.length cap') (by simp)
          have f10 := hB.frozen (g := w5.heap.size) (t := 31) (v := .slice A' m.length cap') (by simp)
          have cbx := hid (hB.cell (g := w5.heap.size + 1) (t := 9) (v := .string ⟨bl.toArray⟩) (by simp))
          have HBd := hid hB
          have hT : ∀ (u : Value), ∀ p ∈ [(w5.heap.size + 1, bx 9 (.string ⟨bl.toArray⟩)), (w5.heap.size, bx 31 u)], ∀ cs fr, p.2 ≠ (.cells cs 5 fr : Obj) := by
            intro u p hp cs fr e
            simp only [List.mem_cons, List.not_mem_nil, or_false] at hp
            rcases hp with rfl | rfl <;> simp [bx] at e
          have HT := hid hT
          clear hB hT hlen
          gi_wp2_with (first
            | (gi_at_builtin; refine wpListIn_append_str _ rfl (.tmp 66) (.tmp 67) 31 9 rfl w.heap.size 5 i0 Tryd.underlying31 Tryd.underlying9 hi hz0 hz1 hz2 _ _ _ rfl HBd.out.row ⟨s.toArray⟩ rfl (by simp [ByteArray.size]; unfold maxLen; omega) (by simp [ByteArray.size]; omega) HBd.out.size ?_; intro v1 W1 hown1 hgrow1; have hown1' : W1.ownsRow w.heap.size 5 1 v1 (m ++ s).length (bys (m ++ s)) := (by simpa [ByteArray.size, Lib.strCells, bys] using hown1); obtain ⟨m2, hm2⟩ : ∃ m2, m ++ s = m2 := ⟨_, rfl⟩; rw [hm2] at hown1'; have hl2 : m2.length = m.length + s.length := (by rw [← hm2]; simp); have HM2 := hid hm2; have HL2 := hid hl2; clear hm2 hl2; have hB1 := HBd.out.grow2 (HT.out _) hown1' hgrow1; obtain ⟨A1, cap1, rfl⟩ := row_shape hown1'; have c11 := hB1.cell (g := w5.heap.size) (t := 31) (v := .slice A' m.length cap') (by simp); have f11 := hB1.frozen (g := w5.heap.size) (t := 31) (v := .slice A' m.length cap') (by simp); have hB2 := (hB1.swap.put (.slice A1 m2.length cap1)).swap; have hN1 := hid (fun u => (by have h := heap_alloc_new (W1.setCell ⟨w5.heap.size, 0, none⟩ u) (.cells #[.int .u8 10] 5); simpa using h : ((W1.setCell ⟨w5.heap.size, 0, none⟩ u).alloc (.cells #[.int .u8 10] 5)).heap[W1.heap.size]? = some (.cells #[.int .u8 10] 5 (0, 0)))); have HB2x := hid hB2; have HB1x := hid hB1; clear hB1 hB2 hown1 hown1')
            | (gi_at_builtin; refine wpListIn_append_own _ rfl (.tmp 69) (.tmp 70) 31 rfl w.heap.size 5 i0 (.int .u8 0) 1 1 Tryd.underlying31 hi hz0 hz1 hz2 rfl (by decide) _ _ _ rfl (HB2x.out.row.alloc _) ⟨W1.heap.size, 0, none⟩ 1 1 [.int .u8 10] rfl rfl (World.news_of_block (hN1.out _)) (by simp [Value.oneCell']) (by have := HL2.out; simp; unfold maxLen; omega) (by have := HL2.out; simp; omega) (by have := HB1x.out.size; simp; omega) ?_; intro v3 W3 hown3 hgrow3 _; have hown3' : W3.ownsRow w.heap.size 5 1 v3 (m2 ++ [10]).length (bys (m2 ++ [10])) := (by simpa [bys] using hown3); obtain ⟨m3, hm3⟩ : ∃ m3, m2 ++ [10] = m3 := ⟨_, rfl⟩; rw [hm3] at hown3'; have hl3 : m3.length = m2.length + 1 := (by rw [← hm3]; simp); have HM3 := hid hm3; have HL3 := hid hl3; clear hm3 hl3; have hB3 := (HB2x.out.alloc' (.cells #[.int .u8 10] 5)).grow2 (HT.out _) hown3' hgrow3; obtain ⟨A3, cap3, rfl⟩ := row_shape hown3'; have c13 := hB3.cell (g := w5.heap.size) (t := 31) (v := .slice A1 m2.length cap1) (by simp); have f13 := hB3.frozen (g := w5.heap.size) (t := 31) (v := .slice A1 m2.length cap1) (by simp); have HB3x := hid hB3; clear hB3 hown3 hown3'))
          have hgm : gath bl (pre ++ [x]) = m3 := by rw [hg9.out, HM2.out, HM3.out]
          have hB4 := (HB3x.out.swap.put (.slice A3 m3.length cap3)).swap
          have hg1 : W.grownBy W1 (Value.slice A' m.length cap').ownBlock := hgrow1
          have hg3 : ((W1.setCell ⟨w5.heap.size, 0, none⟩ (.slice A1 m2.length cap1)).alloc (.cells #[.int .u8 10] 5)).grownBy W3 (Value.slice A1 m2.length cap1).ownBlock := hgrow3
          refine ⟨(((((KeepsOthers.of_grownBy hg1 (row_isCells HBd.out.row)).trans (KeepsOthers.setCell _ _ _)).trans (KeepsOthers.alloc _ _)).trans (KeepsOthers.of_grownBy hg3 (row_isCells (HB2x.out.alloc' _).row))).trans (KeepsOthers.setCell _ _ _)).from _, ?_, A3, cap3, ?_, ?_⟩
          · intro j v hj hv
            obtain rfl : j = 0 := by omega
            rw [cbx.out] at hv
            rw [← hv]
            exact hB4.cell (t := 9) (by simp)
          · rw [hgm]
            exact hB4
          · rw [hgm, HL3.out, HL2.out, List.length_append, List.length_singleton, Nat.add_mul]
            have := HLn.out
            omega
        case done =>
          rintro D ys W hD rfl ⟨A', cap', hB, _⟩ hK
          simp only [gath_all] at hB
          exact ⟨.inl rfl, D, rfl, A', cap', hB.mark hK (hLlt _) hBs hD⟩
        case stop =>
          rintro D c pre W hD _ h _
          exact h.elim
      case rest =>
        rintro D wb ⟨A', cap', hB⟩
        have cr := hB.cell (g := w5.heap.size) (t := 31) (v := .slice A' (unlines (lines bl)).length cap') (by simp)
        have hul := unlines_lines bl
        have HD1 := hid (hB.objs (D, .deferred (some [])) (by simp))
        have hrb := hid ((HR.out).below hB.below (Nat.le_refl _))
        have hra := hid (reads_of_row hB.row)
        have HBe := hid hB.below
        have HC5 := hid (fun (g : Nat) (o : Obj) (h : (g, o) ∈ [(D, (.deferred (some []) : Obj)), (w5.heap.size + 1, bx 9 (.string ⟨bl.toArray⟩)), (w5.heap.size, bx 31 (.slice A' (unlines (lines bl)).length cap'))]) => (hB.objs (g, o) h).1)
        have hfr := hB.frozen (g := w5.heap.size) (t := 31) (v := .slice A' (unlines (lines bl)).length cap') (by simp)
        have HBB := hid hB
        clear hB
        generalize unlines (lines bl) = al at *
        by_cases h0 : bl = []
        · subst h0
          simp only [true_or, if_true] at hul
          subst hul
          have t7 : (((List.length ([] : List UInt8)) : Int) == 0) = true := rfl
          go_wp2_with (go_at_call 28; refine (sameBytes_same _ _ [] _ hra.out hrb.out).mono ?_; rintro e w9 ⟨rfl, rfl⟩)
          exact leave_marks10 w _ rfl [D] _ (by simp) (fun D' h => (show D' = D by simpa using h) ▸ ⟨HD1.out.1, HD1.out.2.1⟩) HBe.out
        · have hpos : 0 < bl.length := List.length_pos_iff.2 h0
          obtain ⟨q, hq⟩ : ∃ q, bl.length = q + 1 := ⟨bl.length - 1, by omega⟩
          obtain ⟨la, hla⟩ : ∃ la, bl[q]? = some la := ⟨bl[q], List.getElem?_eq_getElem (by omega)⟩
          have hlast : bl.getLast? = some la := by rw [List.getLast?_eq_getElem?, hq]; exact hla
          have t7 : (((List.length bl) : Int) == 0) = false := by rw [beq_eq_false_iff_ne]; omega
          obtain ⟨B1, b1, o1, rfl, hcl⟩ : ∃ (B1 : Unit) (b1 o1 : Nat), A = some ⟨b1, o1, none⟩ ∧ wb.cell? ⟨b1, o1 + q, none⟩ = some (.int .u8 (la.toNat : Int)) := by
            obtain ⟨A1, c1, b1, o1, he, hA1, hA2, hc1, hcells⟩ := hrb.out
            injection he with e1 e2 e3
            subst e1
            rw [bys_len] at hA1 hA2
            cases A with
            | none => exact absurd (hA1 rfl).1 (by omega)
            | some a =>
              obtain rfl := hA2 a rfl hpos
              exact ⟨(), b1, o1, rfl, hcells q _ (by simp [bys, hla])⟩
          have hqi : ((bl.length : Int) - 1) = (q : Int) := by omega
          have hqc : (q : Int) < bl.length := by omega
          have hqn : q < bl.length := by omega
          have HQ := hid hq
          clear hq
          by_cases h10 : la = 10
          · subst h10
            rw [if_pos (.inr hlast)] at hul
            subst hul
            have t8 : (((10 : UInt8).toNat : Int) == 10) = true := rfl
            clear hla hlast h0
            go_wp2_with (go_at_call 28; refine (sameBytes_same _ _ al _ hra.out hrb.out).mono ?_; rintro e w9 ⟨rfl, rfl⟩)
            exact leave_marks10 w _ rfl [D] _ (by simp) (fun D' h => (show D' = D by simpa using h) ▸ ⟨HD1.out.1, HD1.out.2.1⟩) HBe.out
          · rw [if_neg (by rw [hlast]; simp [h0, h10])] at hul
            have t8 : ((la.toNat : Int) == 10) = false := by
              rw [beq_eq_false_iff_ne]
              intro e
              exact h10 (UInt8.toNat_inj.1 (by show la.toNat = 10; omega))
            have hal : al.length = bl.length + 1 := by rw [hul]; simp
            have htk : al.take bl.length = bl := by rw [hul]; simp
            have hcap : al.length ≤ cap' := by
              obtain ⟨_, _, _, _, he, _, _, hc1, _⟩ := hra.out
              injection he with e1 e2 e3
              rw [bys_len] at hc1
              omega
            have t9 : decide ((0 : Int) < (al.length : Int)) = true := by simp; omega
            have hqa : ((al.length : Int) - 1) = (bl.length : Int) := by omega
            have hk2 : (bl.length : Int) ≤ (cap' : Int) := by omega
            have hk3 : (0 : Int) ≤ (bl.length : Int) := by omega
            have hput := (HBB.out.perm (List.perm_append_comm (l₁ := [_]) (l₂ := [_, _]))).put (.slice A' bl.length cap')
            have hrx := reads_take (reads_of_row hput.row) bl.length (by omega)
            rw [htk] at hrx
            have hry := hid ((HR.out).below hput.below (Nat.le_refl _))
            have HRX := hid hrx
            have HPD := hid (hput.objs (D, .deferred (some [])) (by simp))
            have HPB := hid hput.below
            clear hal htk hul hput hrx hla hlast h0 h10 hcap
            go_wp2_with (go_at_call 28; refine (sameBytes_same _ _ bl _ HRX.out hry.out).mono ?_; rintro e w9 ⟨rfl, rfl⟩)
            exact leave_marks10 w _ rfl [D] _ (by simp) (fun D' h => (show D' = D by simpa using h) ▸ ⟨HPD.out.1, HPD.out.2.1⟩) HPB.out
end Go.Proofs.YtdinjplbbmhleaaDoor
