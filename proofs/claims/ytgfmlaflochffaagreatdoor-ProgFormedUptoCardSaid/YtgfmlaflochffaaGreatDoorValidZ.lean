/-
  event.Valid: an error just where an event may not be. No condition.
-/
import Derived.Test.YtgfmlaflochffaaGreatDoorFieldsZ
import Derived.Laws.StructEq
import Derived.ChangeKeysEq
import Derived.Outline
namespace Go.Proofs.YtgfmlaflochffaaGreatDoor
open Go.RowKit Go.Maps W
attribute [local go_sem ↓] Go.wp_at_zero Go.wp_at_succ

/-- One of the package's errors. -/
def anErr (v : Value) : Prop := ∃ a, v = .iface 172 (.pointer (some a))
/-- No error just where it is ok. -/
def ErrIs (ok : Prop) (v : Value) : Prop := (ok ∧ v = .nilIface) ∨ (¬ ok ∧ anErr v)

theorem evArr_at (e : Ev) (f : Fld) : (evArr e)[f.off]? = some (.int .i64 (e.get f)) := by cases f <;> rfl
theorem evArr_put (e : Ev) (f : Fld) (n : Int) : (evArr e).setIfInBounds f.off (.int .i64 n) = evArr (e.put f n) := by cases f <;> rfl
theorem strip_step (e : Ev) (k : Nat) (f : Fld) (hf : e.fl[k]? = some f) : e.strip (k + 1) = (e.strip k).put f 0 := by
  obtain ⟨hk, h⟩ := List.getElem?_eq_some_iff.1 hf
  unfold Ev.strip
  rw [List.take_succ_eq_append_getElem hk, h, List.foldl_append]
  rfl
theorem func_nilE (F : Nat) (lb : Array Value) (w : World) : (binOp .eql 128 (.func (.func F) #[] lb) .nilFunc).run Tryz.prog w = .ok (.bool false) w := by
  simp only [binOp]
  simp [Op.equal, Op.maxDepth, go_sem]
  kernel_rfl
theorem nil_nilE (w : World) : (binOp .eql 128 .nilFunc .nilFunc).run Tryz.prog w = .ok (.bool true) w := by
  simp only [binOp]
  simp [Op.equal, Op.maxDepth, go_sem]
  kernel_rfl
theorem eqF_step {xs ys : Array Value} {f : Field} {fs : List Field} {r : List (Bool × TypeId × Nat)} {j : Nat} {a b : Int} (w : World) (hf : (f :: fs).map (fun f => (f.name == "_", f.type, f.offset)) = (false, 3, j) :: r) (hx : xs[j]? = some (.int .i64 a)) (hy : ys[j]? = some (.int .i64 b)) :
    (Op.eqFields 9999 xs ys (f :: fs)).run Tryz.prog w = (if a = b then (Op.eqFields 9999 xs ys fs).run Tryz.prog w else .ok false w) ∧ fs.map (fun f => (f.name == "_", f.type, f.offset)) = r := by
  rw [List.map_cons] at hf
  injection hf with h1 h2
  injection h1 with h3 h4
  injection h4 with h5 h6
  refine ⟨?_, h2⟩
  have hp : Tryz.prog.plainKey 3 = true := by kernel_rfl
  rw [Op.eqFields, if_pos (by simpa using h3), h5, h6]
  simp only [Sem.run_bind, run_part_plain w hp hx, run_part_plain w hp hy, Result.andThen_ok, run_equalIn_int w 9998 3 .i64 .i64 a b Tryz.underlying3]
  by_cases hab : a = b
  · simp [hab]
  · simp [hab]
theorem eqEv_run (a0 a1 a2 a3 a4 a5 a6 a7 b0 b1 b2 b3 b4 b5 b6 b7 : Int) (w : World) :
    (Op.equalIn 10000 37 (.agg #[.int .i64 a0, .int .i64 a1, .int .i64 a2, .int .i64 a3, .int .i64 a4, .int .i64 a5, .int .i64 a6, .int .i64 a7]) (.agg #[.int .i64 b0, .int .i64 b1, .int .i64 b2, .int .i64 b3, .int .i64 b4, .int .i64 b5, .int .i64 b6, .int .i64 b7])).run Tryz.prog w =
      .ok (decide (a0 = b0 ∧ a1 = b1 ∧ a2 = b2 ∧ a3 = b3 ∧ a4 = b4 ∧ a5 = b5 ∧ a6 = b6 ∧ a7 = b7)) w := by
  have ht : Tryz.prog.underlying 37 = some (.struct (Tryz.prog.fieldsOf 37)) := by kernel_rfl
  rw [run_equalIn_agg w 9999 37 _ _ ht (by kernel_rfl)]
  have hf : (Tryz.prog.fieldsOf 37).toList.map (fun f => (f.name == "_", f.type, f.offset)) = [(false, 3, 0), (false, 3, 1), (false, 3, 2), (false, 3, 3), (false, 3, 4), (false, 3, 5), (false, 3, 6), (false, 3, 7)] := by kernel_rfl
  obtain ⟨f0, f1, f2, f3, f4, f5, f6, f7, hl⟩ : ∃ f0 f1 f2 f3 f4 f5 f6 f7, (Tryz.prog.fieldsOf 37).toList = [f0, f1, f2, f3, f4, f5, f6, f7] := by
    have hn := congrArg List.length hf
    rw [List.length_map] at hn
    match (Tryz.prog.fieldsOf 37).toList, hn with
    | [f0, f1, f2, f3, f4, f5, f6, f7], _ => exact ⟨f0, f1, f2, f3, f4, f5, f6, f7, rfl⟩
  rw [hl] at hf ⊢
  obtain ⟨e0, hf⟩ := eqF_step (xs := #[.int .i64 a0, .int .i64 a1, .int .i64 a2, .int .i64 a3, .int .i64 a4, .int .i64 a5, .int .i64 a6, .int .i64 a7]) (ys := #[.int .i64 b0, .int .i64 b1, .int .i64 b2, .int .i64 b3, .int .i64 b4, .int .i64 b5, .int .i64 b6, .int .i64 b7]) w hf rfl rfl
  obtain ⟨e1, hf⟩ := eqF_step (xs := #[.int .i64 a0, .int .i64 a1, .int .i64 a2, .int .i64 a3, .int .i64 a4, .int .i64 a5, .int .i64 a6, .int .i64 a7]) (ys := #[.int .i64 b0, .int .i64 b1, .int .i64 b2, .int .i64 b3, .int .i64 b4, .int .i64 b5, .int .i64 b6, .int .i64 b7]) w hf rfl rfl
  obtain ⟨e2, hf⟩ := eqF_step (xs := #[.int .i64 a0, .int .i64 a1, .int .i64 a2, .int .i64 a3, .int .i64 a4, .int .i64 a5, .int .i64 a6, .int .i64 a7]) (ys := #[.int .i64 b0, .int .i64 b1, .int .i64 b2, .int .i64 b3, .int .i64 b4, .int .i64 b5, .int .i64 b6, .int .i64 b7]) w hf rfl rfl
  obtain ⟨e3, hf⟩ := eqF_step (xs := #[.int .i64 a0, .int .i64 a1, .int .i64 a2, .int .i64 a3, .int .i64 a4, .int .i64 a5, .int .i64 a6, .int .i64 a7]) (ys := #[.int .i64 b0, .int .i64 b1, .int .i64 b2, .int .i64 b3, .int .i64 b4, .int .i64 b5, .int .i64 b6, .int .i64 b7]) w hf rfl rfl
  obtain ⟨e4, hf⟩ := eqF_step (xs := #[.int .i64 a0, .int .i64 a1, .int .i64 a2, .int .i64 a3, .int .i64 a4, .int .i64 a5, .int .i64 a6, .int .i64 a7]) (ys := #[.int .i64 b0, .int .i64 b1, .int .i64 b2, .int .i64 b3, .int .i64 b4, .int .i64 b5, .int .i64 b6, .int .i64 b7]) w hf rfl rfl
  obtain ⟨e5, hf⟩ := eqF_step (xs := #[.int .i64 a0, .int .i64 a1, .int .i64 a2, .int .i64 a3, .int .i64 a4, .int .i64 a5, .int .i64 a6, .int .i64 a7]) (ys := #[.int .i64 b0, .int .i64 b1, .int .i64 b2, .int .i64 b3, .int .i64 b4, .int .i64 b5, .int .i64 b6, .int .i64 b7]) w hf rfl rfl
  obtain ⟨e6, hf⟩ := eqF_step (xs := #[.int .i64 a0, .int .i64 a1, .int .i64 a2, .int .i64 a3, .int .i64 a4, .int .i64 a5, .int .i64 a6, .int .i64 a7]) (ys := #[.int .i64 b0, .int .i64 b1, .int .i64 b2, .int .i64 b3, .int .i64 b4, .int .i64 b5, .int .i64 b6, .int .i64 b7]) w hf rfl rfl
  obtain ⟨e7, hf⟩ := eqF_step (xs := #[.int .i64 a0, .int .i64 a1, .int .i64 a2, .int .i64 a3, .int .i64 a4, .int .i64 a5, .int .i64 a6, .int .i64 a7]) (ys := #[.int .i64 b0, .int .i64 b1, .int .i64 b2, .int .i64 b3, .int .i64 b4, .int .i64 b5, .int .i64 b6, .int .i64 b7]) w hf rfl rfl
  rw [e0, e1, e2, e3, e4, e5, e6, e7]
  simp only [Op.eqFields, Sem.run_pure]
  by_cases h0 : a0 = b0 <;> by_cases h1 : a1 = b1 <;> by_cases h2 : a2 = b2 <;> by_cases h3 : a3 = b3 <;> by_cases h4 : a4 = b4 <;> by_cases h5 : a5 = b5 <;> by_cases h6 : a6 = b6 <;> by_cases h7 : a7 = b7 <;> simp [h0, h1, h2, h3, h4, h5, h6, h7]
def isZero (e : Ev) : Bool := decide (e.kind = 0 ∧ e.tx = 0 ∧ e.thr = 0 ∧ e.obj = 0 ∧ e.op = 0 ∧ e.key = 0 ∧ e.val = 0 ∧ e.ret = 0)
theorem isZero_iff (e : Ev) : isZero e = true ↔ e = .zero := by
  obtain ⟨k, tx, thr, obj, op, key, val, ret⟩ := e
  simp [isZero, Ev.zero]
theorem neqEv (e : Ev) (w : World) : (binOp .neq 37 (.agg (evArr e)) (.agg (evArr .zero))).run Tryz.prog w = .ok (.bool (!isZero e)) w := by
  rw [run_neq_struct]
  unfold evArr
  rw [eqEv_run]
  rfl
theorem guardEv (x y : Operand) (xs ys : Array Value) (w : World) : (eqGuard .neq 37 x y (.agg xs) (.agg ys)).run Tryz.prog w = .ok () w := run_eqGuard_agg w .neq 37 x y xs ys (by kernel_rfl)

/-- What tells the next field of an event of this kind. -/
theorem lookKind {W : World} {b : Nat} {k : Int} (h : FieldsAt W b) (hk : KindOk k) : ∃ v, NextV W v k ∧ (Instr.lookup tMap (.map (some b)) (.int .i64 k) false).run Tryz.prog W = .ok v W := by
  obtain ⟨n, f, hm, hn⟩ := h
  exact ⟨f k, hn k, hm.look hk.1 hk.2⟩
/-- The events' box, and the world, behind the look into the fields. -/
structure NextAt (w : World) (e : Ev) (v : Value) (W : World) : Prop where
  next : NextV W v e.kind
  ev : Blk W w.heap.size 37 (evArr e)
  below : Below w.heap.size w W
def codedB (e : Ev) : Bool := decide (1 ≤ e.kind) && decide (e.kind ≤ 7) && (!decide (e.kind = 2) || (decide (1 ≤ e.op) && decide (e.op ≤ 9))) && (!decide (e.kind = 3) || (decide (1 ≤ e.ret) && decide (e.ret ≤ 3)))
theorem codedB_iff (e : Ev) : codedB e = true ↔ e.Coded := by
  unfold codedB Ev.Coded
  simp only [Bool.and_eq_true, Bool.or_eq_true, decide_eq_true_eq, Bool.not_eq_true', decide_eq_false_iff_not]
  constructor
  · rintro ⟨⟨⟨h1, h2⟩, h3⟩, h4⟩
    exact ⟨h1, h2, fun h => (h3.resolve_left (fun k => k h)), fun h => (h4.resolve_left (fun k => k h))⟩
  · rintro ⟨h1, h2, h3, h4⟩
    refine ⟨⟨⟨h1, h2⟩, ?_⟩, ?_⟩
    · by_cases h : e.kind = 2
      · exact .inr (h3 h)
      · exact .inl h
    · by_cases h : e.kind = 3
      · exact .inr (h4 h)
      · exact .inl h

set_option maxHeartbeats 8000000 in
set_option maxRecDepth 100000 in
theorem validCall (e : Ev) (w : World) (hL : LaidE w) (hk : KindOk e.kind) (hr9 : e.ret ≤ 9223372036854775807) :
    Calls Tryz.prog 41 #[.agg (evArr e)] w fun r w' => ∃ v, r = .returned v ∧ ErrIs e.Ok v ∧ Below w.heap.size w w' := by
  have HL := hid hL
  have HB0 := hid (Blk.new w 37 (evArr e)).drew
  have HW0 := hid ((Below.refl w.heap.size w).alloc (Nat.le_refl _) (.cells (evArr e) 37)).drew
  clear hL
  unfold evArr at HB0 HW0
  unfold evArr
  go_enter Tryz.func41, Tryz.ntmps41
  go_upto_region 1 with fail
  go_cut [3] from 9 to 13 (fun s3 wx => NextAt w e s3 wx)
  case first =>
    go_region_with (go_at_call 51; go_loud (refine (fieldsCall _).mono ?_); rintro r x1 ⟨b, rfl, hF, hb⟩; have HB1 := hid (HB0.out.below hb (by simp)); have HW1 := hid (HW0.out.trans (hb.mono (by simp))); obtain ⟨vn, hn, hlk⟩ := lookKind hF hk; have HN := hid hn; have c0 := HB1.out.cell 0; clear hn hF hb)
    all_goals (go_wp2_with fail; go_meet)
    all_goals exact ⟨HN.out, HB1.out, HW1.out⟩
  case rest =>
  obtain ⟨wa, rfl⟩ : ∃ wa : World, wa = wc := ⟨_, rfl⟩
  obtain ⟨hn, hev, hbl⟩ := hcut
  have HN := hid hn
  have HEV := hid hev
  have HBL := hid hbl
  have k0 := hev.cell 0
  have k4 := hev.cell 4
  have k7 := hev.cell 7
  have lE := hev.lt
  simp only [evArr] at k0 k4 k7
  clear hn hev hbl HB0 HW0
  go_upto_region 2 with fail
  go_cut [36] from 13 to 37 (fun s36 wx => s36 = .bool (!codedB e) ∧ Below wa.heap.size wa wx)
  case first =>
    by_cases h17 : 1 ≤ e.kind ∧ e.kind ≤ 7
    · have hn := HN.out
      unfold NextV at hn
      rw [if_pos h17] at hn
      obtain ⟨F, c, rfl, _, _⟩ := hn
      have hfn := fun W => func_nilE F #[.pointer (some ⟨c, 0, none⟩)] W
      by_cases h2 : e.kind = 2
      · have t2 : (e.kind == 2) = true := by simpa using h2
        have t3 : (e.kind == 3) = false := by simp [h2]
        have HO := hid (fun W => ofCall e.op W)
        by_cases ho : 1 ≤ e.op ∧ e.op ≤ 9
        · have t4 : (ofOp e.op == 0) = false := by
            rcases op_cases e.op with h | h
            · rcases h with h | h | h | h | h | h | h | h | h <;> rw [h] <;> rfl
            · omega
          have hc : codedB e = true := (codedB_iff e).2 ⟨h17.1, h17.2, fun _ => ho, fun h => by omega⟩
          have HC := hid hc
          clear hc ho h2 h17 HN
          go_wp2_with fail
          refine (HO.out _).mono ?_
          rintro r x2 ⟨rfl, rfl⟩
          go_wp2_with fail
          go_meet
          exact ⟨by rw [HC.out]; rfl, Below.refl _ _⟩
        · have t4 : (ofOp e.op == 0) = true := by
            have : ofOp e.op = 0 := by unfold ofOp; rw [if_neg (by omega), if_neg (by omega), if_neg (by omega), if_neg (by omega)]
            rw [this]; rfl
          have hc : codedB e = false := by
            rw [← Bool.not_eq_true, codedB_iff]
            exact fun h => ho (h.2.2.1 h2)
          have HC := hid hc
          clear hc ho h2 h17 HN
          go_wp2_with fail
          refine (HO.out _).mono ?_
          rintro r x2 ⟨rfl, rfl⟩
          go_wp2_with fail
          go_meet
          exact ⟨by rw [HC.out]; rfl, Below.refl _ _⟩
      · have t2 : (e.kind == 2) = false := by simpa using h2
        by_cases h3 : e.kind = 3
        · have t3 : (e.kind == 3) = true := by simpa using h3
          have HO := hid (wordCall 4 e.ret hr9 wa (HL.out.below HBL.out))
          by_cases ho : 1 ≤ e.ret ∧ e.ret ≤ 3
          · have t4 : (wordOf 4 e.ret == []) = false := by
              rcases (show e.ret = 1 ∨ e.ret = 2 ∨ e.ret = 3 by omega) with h | h | h <;> rw [h] <;> rfl
            have hc : codedB e = true := (codedB_iff e).2 ⟨h17.1, h17.2, fun h => absurd h h2, fun _ => ho⟩
            have HC := hid hc
            clear hc ho h2 h3 h17 HN
            unfold str at HO
            generalize wordOf 4 e.ret = wd at *
            go_wp2_with fail
            refine HO.out.mono ?_
            rintro r x2 ⟨rfl, hb2⟩
            have HB2 := hid hb2
            clear hb2 HO
            go_wp2_with fail
            go_meet
            exact ⟨by rw [HC.out]; rfl, HB2.out⟩
          · have t4 : (wordOf 4 e.ret == []) = true := by
              have : wordOf 4 e.ret = [] := by
                unfold wordOf
                by_cases h1 : 1 ≤ e.ret
                · rw [if_pos h1, List.getElem?_eq_none (by have : (tabOf 4).length = 3 := rfl; omega)]; rfl
                · rw [if_neg h1]
              rw [this]; rfl
            have hc : codedB e = false := by
              rw [← Bool.not_eq_true, codedB_iff]
              exact fun h => ho (h.2.2.2 h3)
            have HC := hid hc
            clear hc ho h2 h3 h17 HN
            unfold str at HO
            generalize wordOf 4 e.ret = wd at *
            go_wp2_with fail
            refine HO.out.mono ?_
            rintro r x2 ⟨rfl, hb2⟩
            have HB2 := hid hb2
            clear hb2 HO
            go_wp2_with fail
            go_meet
            exact ⟨by rw [HC.out]; rfl, HB2.out⟩
        · have t3 : (e.kind == 3) = false := by simpa using h3
          have hc : codedB e = true := (codedB_iff e).2 ⟨h17.1, h17.2, fun h => absurd h h2, fun h => absurd h h3⟩
          have HC := hid hc
          clear hc h2 h3 h17 HN
          go_wp2_with fail
          go_meet
          exact ⟨by rw [HC.out]; rfl, Below.refl _ _⟩
    · have hn := HN.out
      unfold NextV at hn
      rw [if_neg h17] at hn
      have hc : codedB e = false := by
        rw [← Bool.not_eq_true, codedB_iff]
        exact fun h => h17 ⟨h.1, h.2.1⟩
      have HC := hid hc
      have hnn := fun W => nil_nilE W
      subst hn
      clear hc h17 HN
      go_wp2_with fail
      go_meet
      exact ⟨by rw [HC.out]; rfl, Below.refl _ _⟩
  case rest =>
  obtain ⟨rfl, hb2⟩ := hcut
  obtain ⟨wb, rfl⟩ : ∃ wb : World, wb = wc := ⟨_, rfl⟩
  have HB2 := hid hb2
  have HBW := hid (HBL.out.trans (hb2.mono HBL.out.size))
  have HEV2 := hid (HEV.out.below hb2 lE)
  clear k0 k4 k7 lE hb2 HEV
  cases hcd : codedB e with
  | false =>
    obtain ⟨a, ha⟩ := (HL.out.below HBW.out).errs 9 (by simp)
    have hno := hid (show ¬ e.Ok from fun h => by have := (codedB_iff e).2 h.1; rw [hcd] at this; cases this)
    clear hcd HN
    go_wp2_with fail
    go_ret
    exact ⟨_, rfl, .inr ⟨hno.out, a, rfl⟩, HBW.out⟩
  | true =>
    have HCD := hid ((codedB_iff e).1 hcd)
    have hn := HN.out
    unfold NextV at hn
    rw [if_pos ⟨HCD.out.1, HCD.out.2.1⟩] at hn
    obtain ⟨F, c, rfl, hE, hC⟩ := hn
    have HC := hid hC
    have HE := hid hE
    have k0 := HEV2.out.cell 0
    have k1 := HEV2.out.cell 1
    have k2 := HEV2.out.cell 2
    have k3 := HEV2.out.cell 3
    have k4 := HEV2.out.cell 4
    have k5 := HEV2.out.cell 5
    have k6 := HEV2.out.cell 6
    have k7 := HEV2.out.cell 7
    simp only [evArr] at k0 k1 k2 k3 k4 k5 k6 k7
    have HR0 := hid (Blk.new wb 37 (evArr (e.strip 0)))
    have HW1 := hid ((Below.refl wb.heap.size wb).alloc (Nat.le_refl _) (.cells (evArr (e.strip 0)) 37))
    have lE := HEV2.out.lt
    clear hcd HN hE hC
    go_wp2_with fail
    go_loopw [5] (fun si wr => ∃ k : Nat, si = .int .i64 k ∧ k ≤ e.fl.length ∧ Below wb.heap.size wb wr ∧ Blk wr wb.heap.size 37 (evArr (e.strip k)) ∧ ∀ f ∈ e.fl.take k, e.In f) (fun si _ => 6 - (intOf si).toNat)
    case atStart => exact ⟨0, rfl, Nat.zero_le _, HW1.out, HR0.out, by simp⟩
    case round =>
      obtain ⟨k, rfl, hkl, hbr, hR, hI⟩ := hrel
      have hk5 := (fl_len e.kind e.op e.ret).2
      change e.fl.length ≤ 5 at hk5
      have HBR := hid hbr
      have HRR := hid hR
      have HI := hid hI
      have HEV3 := hid (HEV2.out.below hbr lE)
      have HWR := hid (HBW.out.trans (hbr.mono HBW.out.size))
      have lR := hR.lt
      have lE3 := HEV3.out.lt
      clear k0 k1 k2 k3 k4 k5 k6 k7
      have k0 := HEV3.out.cell 0
      have k1 := HEV3.out.cell 1
      have k2 := HEV3.out.cell 2
      have k3 := HEV3.out.cell 3
      have k4 := HEV3.out.cell 4
      have k5 := HEV3.out.cell 5
      have k6 := HEV3.out.cell 6
      have k7 := HEV3.out.cell 7
      simp only [evArr] at k0 k1 k2 k3 k4 k5 k6 k7
      have hCk := HC.out e k wr (HB2.out.trans (hbr.mono HB2.out.size)) rfl
      have hE := HE.out
      clear hbr hR hI
      by_cases hlt : k < e.fl.length
      · obtain ⟨f, hf⟩ : ∃ f, e.fl[k]? = some f := ⟨e.fl[k], List.getElem?_eq_getElem hlt⟩
        have e1 : fat e.fl k = fcells f := by unfold fat; rw [hf]
        have e2 : decide (k < e.fl.length) = true := by simpa using hlt
        rw [e1, e2] at hCk
        unfold fcells evArr at hCk
        have HCk := hid hCk
        have HT := hid (fun g W => toCall f g W)
        have hTE := fun args W => toEnters f args W
        have HF := hid hf
        clear e1 e2 hCk hf hlt
        go_wp2_with fail
        refine HCk.out.mono ?_
        rintro r x3 ⟨rfl, hb3⟩
        have HB3 := hid hb3
        have cf := (HEV3.out.below hb3 lE3).cell f.off
        rw [evArr_at] at cf
        have l3 : w.heap.size < x3.heap.size := Nat.lt_of_lt_of_le lE3 hb3.size
        clear hb3 HCk k0 k1 k2 k3 k4 k5 k6 k7
        go_wp2_with fail
        refine (HT.out _ _).mono ?_
        rintro r x4 ⟨rfl, rfl⟩
        have HWX := hid (HWR.out.trans (HB3.out.mono HWR.out.size))
        have HRX := hid (HRR.out.below HB3.out lR)
        have HEX := hid (HEV3.out.below HB3.out lE3)
        obtain ⟨a, ha⟩ := (HL.out.below HWX.out).errs 10 (by simp)
        have lG := World.block_lt_of_cell? _ _ ha
        by_cases hlo : e.get f < f.lo
        · have t5 : decide (e.get f < f.lo) = true := by simpa using hlo
          have hno := hid (show ¬ e.Ok from fun h => by have := (h.2.1 f (List.mem_of_getElem? HF.out)).1; omega)
          clear hlo
          go_wp2_with fail
          go_ret
          exact ⟨_, rfl, .inr ⟨hno.out, a, rfl⟩, HWX.out.alloc HWX.out.size _⟩
        · have t5 : decide (e.get f < f.lo) = false := by simpa using hlo
          by_cases hhi : f.hi < e.get f
          · have t6 : decide (f.hi < e.get f) = true := by simpa using hhi
            have hno := hid (show ¬ e.Ok from fun h => by have := (h.2.1 f (List.mem_of_getElem? HF.out)).2; omega)
            clear hlo hhi
            go_wp2_with fail
            go_ret
            exact ⟨_, rfl, .inr ⟨hno.out, a, rfl⟩, HWX.out.alloc HWX.out.size _⟩
          · have t6 : decide (f.hi < e.get f) = false := by simpa using hhi
            have HIN := hid (show e.In f from ⟨by omega, by omega⟩)
            have q0 := HRX.out.cell f.off
            rw [evArr_at] at q0
            have q1 := HRX.out.frozen f.off
            have lR3 := HRX.out.lt
            have hkl' : k + 1 ≤ e.fl.length := (List.getElem?_eq_some_iff.1 HF.out).1
            have HKL := hid hkl'
            clear hlo hhi ha lG hkl'
            go_wp2_with fail
            refine (HT.out _ _).mono ?_
            rintro r x5 ⟨rfl, rfl⟩
            go_wp2_with fail
            go_roundw
            case rel =>
              (repeat apply Exists.intro)
              refine ⟨⟨k + 1, by go_num, HKL.out, ?_, ?_, ?_⟩, rfl⟩
              · exact ((HBR.out.trans (HB3.out.mono HBR.out.size)).setCell (p := ⟨wb.heap.size, f.off, none⟩) (Nat.le_refl _) _).alloc (by have := Nat.le_trans HBR.out.size HB3.out.size; simpa [World.setCell] using this) _
              · rw [strip_step e k f HF.out, ← evArr_put]
                exact (HRX.out.put _ _).alloc _
              · intro g hg
                rw [List.take_add_one, HF.out] at hg
                rcases List.mem_append.1 hg with hg | hg
                · exact HI.out g hg
                · obtain rfl : g = f := by simpa using hg
                  exact HIN.out
            case measure => simp [intOf] <;> omega
      · have e1 : fat e.fl k = noField := by unfold fat; rw [List.getElem?_eq_none (by omega)]
        have e2 : decide (k < e.fl.length) = false := by simpa using hlt
        rw [e1, e2] at hCk
        unfold noField evArr at hCk
        have HCk := hid hCk
        obtain rfl : k = e.fl.length := by omega
        have HNE := hid (fun W => neqEv (e.strip e.fl.length) W)
        have HG := hid (fun x y xs ys W => guardEv x y xs ys W)
        have HLE := hid hkl
        clear e1 e2 hCk hlt hk5 hkl
        go_wp2_with fail
        refine HCk.out.mono ?_
        rintro r x3 ⟨rfl, hb3⟩
        have HB3 := hid hb3
        have HWX := hid (HWR.out.trans (HB3.out.mono HWR.out.size))
        have HRX := hid (HRR.out.below HB3.out lR)
        obtain ⟨a, ha⟩ := (HL.out.below HWX.out).errs 10 (by simp)
        have lG := World.block_lt_of_cell? _ _ ha
        have q0 := HRX.out.cell 0
        have q1 := HRX.out.cell 1
        have q2 := HRX.out.cell 2
        have q3 := HRX.out.cell 3
        have q4 := HRX.out.cell 4
        have q5 := HRX.out.cell 5
        have q6 := HRX.out.cell 6
        have q7 := HRX.out.cell 7
        have lR3 := HRX.out.lt
        have hne := HNE.out
        have hgd := HG.out
        simp only [evArr] at q0 q1 q2 q3 q4 q5 q6 q7
        unfold evArr Ev.zero at hne
        clear hb3 HCk k0 k1 k2 k3 k4 k5 k6 k7
        cases hz : isZero (e.strip e.fl.length) with
        | true =>
          have hok := hid (show e.Ok from ⟨HCD.out, fun f hf => HI.out f (by rwa [List.take_length]), (isZero_iff _).1 hz⟩)
          rw [hz] at hne
          clear hz
          go_wp2_with fail
          go_ret
          exact ⟨_, rfl, .inl ⟨hok.out, rfl⟩, HWX.out.alloc HWX.out.size _⟩
        | false =>
          have hno := hid (show ¬ e.Ok from fun h => by have := (isZero_iff _).2 h.2.2; rw [hz] at this; cases this)
          rw [hz] at hne
          clear hz
          go_wp2_with fail
          go_ret
          exact ⟨_, rfl, .inr ⟨hno.out, a, rfl⟩, HWX.out.alloc HWX.out.size _⟩
end Go.Proofs.YtgfmlaflochffaaGreatDoor
