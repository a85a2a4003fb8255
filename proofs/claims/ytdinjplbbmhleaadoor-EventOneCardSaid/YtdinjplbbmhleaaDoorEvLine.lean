/-
  event.Line of an event that may be: its words, joined.
-/
import Derived.Test.YtdinjplbbmhleaaDoorEvBytes
import Derived.Test.YtdinjplbbmhleaaDoorApp
import Derived.Test.YtdinjplbbmhleaaDoorNumT
import Derived.Test.YtdinjplbbmhleaaDoorPg
import Derived.ArgAppend
import Derived.Lib.ItoaLen
namespace Go.Proofs.YtdinjplbbmhleaaDoor
open Go.RowKit Go.Maps W
attribute [local go_sem ↓] Go.wp_at_zero Go.wp_at_succ

/-- append to a slice of the call's own, or to one that is full. -/
theorem wpList_append_either {P : Program} {w : World} {ops : Array Oper} {rest : List Oper} {o : Oper} {a : Act} {Q : Exit → Act → World → Prop} (hgd : o.guard = none) (s x : Operand) (t : TypeId)
    (ho : o.op = .call { callee := .builtin .append, args := #[s, x], argTypes := #[t, t] })
    (base : Nat) (e : TypeId) (i : TypeInfo) (z : Value) (bytes : Nat) (ht : P.underlying t = some (.slice e)) (hi : P.info? e = some i) (hz : i.zero = some z)
    (hsize : i.size = 1) (hby : i.bytes = bytes) (hzs : z.cells.size = 1)
    (v : Value) (n : Nat) (xs : List Value) (hs : a.eval s = v) (hown : w.ownsRow base e 1 v n xs ∨ ∃ b, v = .slice (some b) n n ∧ xs.length = n ∧ ∀ j u, xs[j]? = some u → w.cell? (b.add j) = some u)
    (ad : Addr) (m c : Nat) (news : List Value) (hx : a.eval x = .slice (some ad) m c) (hl : news.length = m * 1) (hnews : ∀ j u, news[j]? = some u → w.cell? (ad.add j) = some u) (h1 : ∀ u ∈ news, u.oneCell' = true)
    (h63 : n + m ≤ maxLen) (hbytes : (n + m) * bytes ≤ 140737488355328) (hbase : base ≤ w.heap.size) (hm : 0 < m)
    (h : ∀ v' w', w'.ownsRow base e 1 v' (n + m) (xs ++ news) → Below base w w' → wpList P ops Q rest (a.put o.dst v') w') : wpList P ops Q (o :: rest) a w := by
  rcases hown with hown | ⟨b, rfl, hln, hc⟩
  · refine wpList_append_own w hgd s x t ho base e i z 1 bytes ht hi hz hsize hby hzs (by decide) v n xs hs hown ad m c news hx hl hnews h1 h63 hbytes hbase (fun v' w' h2 h3 _ => h v' w' h2 ?_)
    exact (Below.refl base w).grown h3 hbase (fun x hx => (row_own hown hx).1)
  · refine wpList_append_grows w hgd s x t ho e i z 1 bytes ht hi hz hsize hby hzs (by decide) (some b) n n xs hs (by simp) (by omega) (fun b' hb' => by injection hb' with hb'; subst hb'; exact hc) ad m c news hx hl hnews h1 (by omega) h63 hbytes (fun v' w' h2 h3 => h v' w' (row_base h2 hbase) ?_)
    exact (Below.refl base w).grown h3 hbase (fun x hx => by cases hx)

theorem word_len (t c : Int) : (wordOf t c).length ≤ 9 := by
  unfold wordOf
  split
  · cases h : (tabOf t)[(c - 1).toNat]? with
    | none => simp
    | some x =>
      simp only [Option.getD_some]
      have hx := List.mem_of_getElem? h
      have k1 : ∀ x ∈ tabOf 1, x.length ≤ 9 := by decide
      have k2 : ∀ x ∈ tabOf 2, x.length ≤ 9 := by decide
      have k3 : ∀ x ∈ tabOf 3, x.length ≤ 9 := by decide
      have k4 : ∀ x ∈ tabOf 4, x.length ≤ 9 := by decide
      have k5 : ∀ x ∈ tabOf 5, x.length ≤ 9 := by decide
      have k6 : ∀ x ∈ tabOf 6, x.length ≤ 9 := by decide
      rcases tabs_cases t with ⟨h0, _⟩ | rfl | rfl | rfl | rfl | rfl | rfl
      · rw [h0] at hx; cases hx
      · exact k1 x hx
      · exact k2 x hx
      · exact k3 x hx
      · exact k4 x hx
      · exact k5 x hx
      · exact k6 x hx
  · simp
/-- The word of a field. -/
def fldW (e : Ev) (f : Fld) : List UInt8 := if 0 < f.tab then wordOf (f.tab : Int) (e.get f) else Lib.itoa (e.get f)
/-- The words of the kind and of k fields. -/
def lineW (e : Ev) (k : Nat) : List (List UInt8) := wordOf 2 e.kind :: (e.fl.take k).map (fldW e)
theorem lineW_step (e : Ev) (k : Nat) (f : Fld) (hf : e.fl[k]? = some f) : lineW e (k + 1) = lineW e k ++ [fldW e f] := by
  unfold lineW
  rw [List.take_add_one, hf]
  simp
theorem lineW_len (e : Ev) (k : Nat) (hk : k ≤ e.fl.length) : (lineW e k).length = k + 1 := by
  unfold lineW
  simp
  omega
theorem lineW_each (e : Ev) (h : ∀ f ∈ e.fl, e.In f) (k : Nat) : ∀ x ∈ lineW e k, x.length ≤ 21 := by
  intro x hx
  unfold lineW at hx
  rcases List.mem_cons.1 hx with rfl | hx
  · have := word_len 2 e.kind; omega
  · obtain ⟨f, hf, rfl⟩ := List.mem_map.1 hx
    have hb := in_bounds (h f (List.mem_of_mem_take hf))
    unfold fldW
    split
    · have := word_len (f.tab : Int) (e.get f); omega
    · exact Lib.itoa_length_le _ (by omega) (by omega)

/-- The words up to now: a row of the call's own, or one that is full. -/
def LineRow (w : World) (B : Nat) (A : Option Addr) (n c : Nat) (ws : List (List UInt8)) : Prop :=
  w.ownsRow B 9 1 (.slice A n c) n (txs ws) ∨ ∃ b, Value.slice A n c = .slice (some b) n n ∧ (txs ws).length = n ∧ ∀ j u, (txs ws)[j]? = some u → w.cell? (b.add j) = some u
theorem LineRow.call {w w' : World} {B : Nat} {A : Option Addr} {n c : Nat} {ws : List (List UInt8)} (h : LineRow w B A n c ws) (hb : Below w.heap.size w w') : LineRow w' B A n c ws := by
  rcases h with h | ⟨b, h1, h2, h3⟩
  · exact .inl (row_call h hb)
  · exact .inr ⟨b, h1, h2, fun j u hj => (hb.cell (World.block_lt_of_cell? w _ (h3 j u hj))).trans (h3 j u hj)⟩
theorem LineRow.reads {w : World} {B : Nat} {A : Option Addr} {n c : Nat} {ws : List (List UInt8)} (h : LineRow w B A n c ws) : Reads w (.slice A n c) (txs ws) := by
  rcases h with h | ⟨⟨b, o, sp⟩, h1, h2, h3⟩
  · exact reads_of_row h
  · rw [h1, ← h2]
    rcases Nat.eq_zero_or_pos (txs ws).length with h0 | h0
    · exact ⟨_, _, b, o, rfl, by simp, fun _ _ h => by omega, Nat.le_refl _, fun j u hj => by have := (List.getElem?_eq_some_iff.1 hj).1; omega⟩
    · obtain ⟨u0, hu0⟩ : ∃ u, (txs ws)[0]? = some u := ⟨_, List.getElem?_eq_getElem h0⟩
      obtain rfl : sp = none := by simpa [Addr.add] using World.cell?_spot (h3 0 u0 hu0)
      refine ⟨_, _, b, o, rfl, by simp, fun a ha _ => by injection ha with ha; exact ha.symm, Nat.le_refl _, fun j u hj => ?_⟩
      have := h3 j u hj
      rwa [Addr.add_lit] at this

theorem LineRow.step {w : World} {B : Nat} {v : Value} {ws : List (List UInt8)} {wd : List UInt8} (h : w.ownsRow B 9 1 v (ws.length + 1) (txs ws ++ [str wd])) :
    ∃ A c, v = .slice A (ws ++ [wd]).length c ∧ LineRow w B A (ws ++ [wd]).length c (ws ++ [wd]) := by
  obtain ⟨A, c, rfl⟩ := row_shape h
  refine ⟨A, c, by simp, ?_⟩
  have e : txs (ws ++ [wd]) = txs ws ++ [str wd] := by simp [txs]
  exact .inl (by rw [e, List.length_append]; exact h)

set_option maxHeartbeats 8000000 in
set_option maxRecDepth 100000 in
theorem lineCall (e : Ev) (w : World) (hL : LaidE w) (hok : e.Ok) (hr9 : e.ret ≤ 9223372036854775807) :
    Calls Tryd.prog 63 #[.agg (evArr e)] w fun r w' => r = .returned (.tuple #[str (Lib.join (lineW e e.fl.length) [32]), .nilIface]) ∧ Below w.heap.size w w' := by
  obtain ⟨i0, hi, hz0, hz1, hz2⟩ := info_parts infoS
  have hk : KindOk e.kind := by have h1 := hok.1.1; have h2 := hok.1.2.1; exact ⟨by omega, by omega⟩
  have HL := hid hL
  have HOK := hid hok
  have HB0 := hid (Blk.new w 62 (evArr e))
  have HW0 := hid ((Below.refl w.heap.size w).alloc (Nat.le_refl _) (.cells (evArr e) 62))
  have HV := hid (validCall e (w.alloc (.cells (evArr e) 62)) (hL.below HW0.out) hk hr9)
  clear hL hok
  unfold evArr at HB0 HW0 HV
  unfold evArr
  go_enter Tryd.func63, Tryd.ntmps63
  go_wp2_with fail
  refine HV.out.mono ?_
  rintro r w1 ⟨v, rfl, hv, hb⟩
  have HW1 := hid (HW0.out.trans (hb.mono (by simp)))
  have HB1 : Hid (Blk w1 w.heap.size 62 (evArr e)) := hid (HB0.out.below hb (by simp))
  clear hb HV HB0 HW0
  obtain rfl : v = .nilIface := by
    rcases hv with ⟨_, h⟩ | ⟨hno, _⟩
    · exact h
    · exact absurd HOK.out hno
  have k0 := HB1.out.cell 0
  have l1 := HB1.out.lt
  simp only [evArr] at k0
  have hw := wordCall 2 e.kind hk.2 w1 (HL.out.below HW1.out)
  unfold str at hw
  have HW := hid hw
  have hwl := word_len 2 e.kind
  obtain ⟨kw, hkw⟩ : ∃ kw, wordOf 2 e.kind = kw := ⟨_, rfl⟩
  rw [hkw] at HW
  have HKW := hid hkw
  clear hw hv hkw hwl
  go_wp2_with fail
  refine HW.out.mono ?_
  rintro r w2 ⟨rfl, hb⟩
  have HB2a := hid (HB1.out.below hb l1)
  have HB2 : Hid (Blk (w2.alloc (.cells #[str kw] 9)).drew w.heap.size 62 (evArr e)) := hid ((HB1.out.below hb l1).alloc _).drew
  have HR2 := hid (Blk.new w2 9 #[str kw])
  have HW2 := hid (HW1.out.trans (hb.mono HW1.out.size))
  have HX2 := hid (HW2.out.alloc HW2.out.size (.cells #[str kw] 9))
  have l2 : w.heap.size < w2.heap.size := Nat.lt_of_lt_of_le l1 hb.size
  clear k0 hb HW
  have k0 := HB2a.out.cell 0
  simp only [evArr] at k0
  unfold str at HB2 HR2 HX2
  go_upto_region 5 with fail
  go_cut [6] from 20 to 23 (fun s6 wx => NextV wx s6 e.kind ∧ Below (w2.heap.size + 1) (w2.alloc (.cells #[.string ⟨kw.toArray⟩] 9)) wx)
  case first =>
    go_region_with (go_at_call 69; go_loud (refine (fieldsCall _).mono ?_); rintro r x1 ⟨b, rfl, hF, hb⟩; have HB3 := hid (HB2.out.below hb HB2.out.lt); have HBX := hid ((Below.refl (w2.heap.size + 1) (w2.alloc (.cells #[.string ⟨kw.toArray⟩] 9))).drew.trans (hb.mono (by simp))); obtain ⟨vn, hn, hlk⟩ := lookKind hF hk; have HN := hid hn; have c0 := HB3.out.cell 0; simp only [evArr] at c0; clear hn hF hb)
    all_goals (go_wp2_with fail; go_meet)
    all_goals exact ⟨HN.out, HBX.out⟩
  case rest =>
  obtain ⟨hn, hb3⟩ := hcut
  obtain ⟨wb, rfl⟩ : ∃ wb : World, wb = wc := ⟨_, rfl⟩
  unfold NextV at hn
  rw [if_pos ⟨HOK.out.1.1, HOK.out.1.2.1⟩] at hn
  obtain ⟨F, c, rfl, hE, hC⟩ := hn
  have HC := hid hC
  have HE := hid hE
  have HEV : Hid (Blk wb w.heap.size 62 (evArr e)) := hid (Blk.below (w := w2.alloc (.cells #[.string ⟨kw.toArray⟩] 9)) HB2.out hb3 (by omega))
  have HRB := hid (HR2.out.below hb3 (by omega))
  have HW3 := hid (HX2.out.trans (hb3.mono (by omega)))
  have lE := HEV.out.lt
  have lR := HRB.out.lt
  clear hE hC hb3 k0 HB2 HR2 HX2
  go_wp2_with fail
  have HLR : Hid (LineRow wb wb.heap.size (some ⟨w2.heap.size, 0, none⟩) (lineW e 0).length 1 (lineW e 0)) := hid (.inr ⟨⟨w2.heap.size, 0, none⟩, rfl, rfl, fun j u hj => by
    rw [Addr.add_lit, Nat.zero_add, HRB.out.cell]
    rw [← hj]
    simp [lineW, txs, str, HKW.out]⟩)
  go_loopw [5, 7] (fun sb si wr => ∃ (k : Nat) (A : Option Addr) (c : Nat), si = .int .i64 k ∧ k ≤ e.fl.length ∧ sb = .slice A (lineW e k).length c ∧ LineRow wr wb.heap.size A (lineW e k).length c (lineW e k) ∧ Below wb.heap.size wb wr) (fun _ si _ => 6 - (intOf si).toNat)
  case atStart => exact ⟨0, _, _, rfl, Nat.zero_le _, rfl, HLR.out, Below.refl _ _⟩
  case round =>
    obtain ⟨k, A, cc, rfl, hkl, rfl, hown, hbr⟩ := hrel
    have hk5 := (fl_len e.kind e.op e.ret).2
    change e.fl.length ≤ 5 at hk5
    have HBR := hid hbr
    have HOR := hid hown
    have HEV3 := hid (HEV.out.below hbr lE)
    have HWR := hid (HW3.out.trans (hbr.mono HW3.out.size))
    have lE3 := HEV3.out.lt
    have k0 := HEV3.out.cell 0
    have k1 := HEV3.out.cell 1
    have k2 := HEV3.out.cell 2
    have k3 := HEV3.out.cell 3
    have k4 := HEV3.out.cell 4
    have k5 := HEV3.out.cell 5
    have k6 := HEV3.out.cell 6
    have k7 := HEV3.out.cell 7
    simp only [evArr] at k0 k1 k2 k3 k4 k5 k6 k7
    have hCk := HC.out e k wr hbr rfl
    have hE := HE.out
    clear hbr hown
    by_cases hlt : k < e.fl.length
    · obtain ⟨f, hf⟩ : ∃ f, e.fl[k]? = some f := ⟨e.fl[k], List.getElem?_eq_getElem hlt⟩
      have e1 : fat e.fl k = fcells f := by unfold fat; rw [hf]
      have e2 : decide (k < e.fl.length) = true := by simpa using hlt
      rw [e1, e2] at hCk
      unfold fcells evArr at hCk
      have HCk := hid hCk
      have HT := hid (fun g W => toCall f g W)
      have hTE := fun args W => toEnters f args W
      have HF := hid hf
      have hin := in_bounds (HOK.out.2.1 f (List.mem_of_getElem? hf))
      have HIN := hid hin
      have hll := lineW_len e k hkl
      have HLL := hid hll
      have HST := hid (lineW_step e k f hf)
      have HKL := hid (show k + 1 ≤ e.fl.length from hlt)
      clear e1 e2 hCk hf hin hll hlt
      go_wp2_with fail
      refine HCk.out.mono ?_
      rintro r x3 ⟨rfl, hb3⟩
      have HB3 := hid hb3
      have cf := (HEV3.out.below hb3 lE3).cell f.off
      rw [evArr_at] at cf
      have l3 : w.heap.size < x3.heap.size := Nat.lt_of_lt_of_le lE3 hb3.size
      have HO4 := hid (HOR.out.call hb3)
      have HW4 := hid (HWR.out.trans (hb3.mono HWR.out.size))
      have HBX := hid (HBR.out.trans (hb3.mono HBR.out.size))
      have HFB := hid (Blk.new x3 106 (fcells f))
      have HX4 := hid (HW4.out.alloc HW4.out.size (.cells (fcells f) 106))
      clear hb3 HCk k0 k1 k2 k3 k4 k5 k6 k7
      go_wp2_with fail
      refine (HT.out _ _).mono ?_
      rintro r x4 ⟨rfl, rfl⟩
      by_cases htab : 0 < f.tab
      case pos =>
        have hw := wordCall (f.tab : Int) (e.get f) (by have := HIN.out; omega) (x3.alloc (.cells (fcells f) 106)) (HL.out.below HX4.out)
        have hfw : wordOf (f.tab : Int) (e.get f) = fldW e f := by unfold fldW; rw [if_pos htab]
        rw [hfw] at hw
        obtain ⟨wd, hwd⟩ : ∃ wd, fldW e f = wd := ⟨_, rfl⟩
        rw [hwd] at hw
        have HWD := hid hwd
        unfold str fcells at hw
        have HW := hid hw
        clear hw hfw hwd
        go_wp2_with fail
        refine HW.out.mono ?_
        rintro r x5 ⟨rfl, hb5⟩
        have HO5 := hid ((HO4.out.call ((Below.refl _ _).alloc (Nat.le_refl _) (.cells (fcells f) 106))).call hb5)
        have HBY := hid (below_al HBX.out HBX.out.size hb5)
        have HO6 := hid (HO5.out.call ((Below.refl _ _).alloc (Nat.le_refl _) (.cells #[str wd] 9)))
        have HNL := hid HLL.out
        clear hb5 cf htab
        go_wp2_with (at_builtin; refine wpList_append_either rfl (.tmp 45) (.tmp 50) 22 rfl wb.heap.size 9 i0 (.string .empty) 16 Tryd.underlying22 hi hz0 hz1 hz2 rfl _ (lineW e k).length (txs (lineW e k)) rfl HO6.out ⟨x5.heap.size, 0, none⟩ 1 1 [str wd] rfl rfl (cell_one_new _ _ _) (by simp [str, Value.oneCell']) (by rw [HLL.out]; unfold maxLen; omega) (by rw [HLL.out]; omega) (by have := HBY.out.size; simp; omega) (by decide) ?_; intro v6 w6 hown6 hgrow6)
        have HBZ := hid ((HBY.out.alloc HBY.out.size (.cells #[str wd] 9)).trans hgrow6)
        obtain ⟨A7, c7, hv7, hr7⟩ := LineRow.step hown6
        rw [← HWD.out, ← HST.out] at hv7 hr7
        have HV7 := hid hv7
        have HR7 := hid hr7
        clear hown6 hgrow6 hv7 hr7
        go_roundw
        case rel => exact ⟨k + 1, A7, c7, by go_num, HKL.out, HV7.out, HR7.out, HBZ.out⟩
        case measure => simp [intOf] <;> omega
      case neg =>
        have hp := printT (e.get f) (by have := HIN.out; omega) (by have := HIN.out; omega) (x3.alloc (.cells (fcells f) 106)) (HL.out.below HX4.out).tab
        have hfw : Lib.itoa (e.get f) = fldW e f := by unfold fldW; rw [if_neg htab]
        rw [hfw] at hp
        obtain ⟨wd, hwd⟩ : ∃ wd, fldW e f = wd := ⟨_, rfl⟩
        rw [hwd] at hp
        have HWD := hid hwd
        unfold fcells at hp
        have HP := hid hp
        clear hp hfw hwd
        go_wp2_with fail
        refine HP.out.mono ?_
        rintro r x5 ⟨rfl, hb5⟩
        have HO5 := hid ((HO4.out.call ((Below.refl _ _).alloc (Nat.le_refl _) (.cells (fcells f) 106))).call hb5)
        have HBY := hid (below_al HBX.out HBX.out.size hb5)
        have HO6 := hid (HO5.out.call ((Below.refl _ _).alloc (Nat.le_refl _) (.cells #[str wd] 9)))
        clear hb5 cf htab
        go_wp2_with (at_builtin; refine wpList_append_either rfl (.tmp 52) (.tmp 55) 22 rfl wb.heap.size 9 i0 (.string .empty) 16 Tryd.underlying22 hi hz0 hz1 hz2 rfl _ (lineW e k).length (txs (lineW e k)) rfl HO6.out ⟨x5.heap.size, 0, none⟩ 1 1 [str wd] rfl rfl (cell_one_new _ _ _) (by simp [str, Value.oneCell']) (by rw [HLL.out]; unfold maxLen; omega) (by rw [HLL.out]; omega) (by have := HBY.out.size; simp; omega) (by decide) ?_; intro v6 w6 hown6 hgrow6)
        have HBZ := hid ((HBY.out.alloc HBY.out.size (.cells #[str wd] 9)).trans hgrow6)
        obtain ⟨A7, c7, hv7, hr7⟩ := LineRow.step hown6
        rw [← HWD.out, ← HST.out] at hv7 hr7
        have HV7 := hid hv7
        have HR7 := hid hr7
        clear hown6 hgrow6 hv7 hr7
        go_roundw
        case rel => exact ⟨k + 1, A7, c7, by go_num, HKL.out, HV7.out, HR7.out, HBZ.out⟩
        case measure => simp [intOf] <;> omega
    · have e1 : fat e.fl k = noField := by unfold fat; rw [List.getElem?_eq_none (by omega)]
      have e2 : decide (k < e.fl.length) = false := by simpa using hlt
      rw [e1, e2] at hCk
      unfold noField evArr at hCk
      have HCk := hid hCk
      obtain rfl : k = e.fl.length := by omega
      have hjl := join_bound 21 6 (lineW e e.fl.length) (lineW_each e HOK.out.2.1 _) (by rw [lineW_len e _ (Nat.le_refl _)]; omega)
      have HJ := hid (fun W (hr : Reads W (.slice A (lineW e e.fl.length).length cc) (txs (lineW e e.fl.length))) => joinCall _ (lineW e e.fl.length) W hr (by rw [lineW_len e _ (Nat.le_refl _)]; omega) (by omega))
      clear e1 e2 hCk hlt hk5 hkl hjl
      go_wp2_with fail
      refine HCk.out.mono ?_
      rintro r x3 ⟨rfl, hb3⟩
      have HWX := hid (HWR.out.trans (hb3.mono HWR.out.size))
      have HOX := hid (HOR.out.call hb3)
      clear hb3 HCk k0 k1 k2 k3 k4 k5 k6 k7
      go_wp2_with fail
      refine (HJ.out _ (LineRow.reads (HOX.out.call ((Below.refl _ _).alloc (Nat.le_refl _) _)))).mono ?_
      rintro r x4 ⟨rfl, hb4⟩
      have HWY := hid (below_al HWX.out HWX.out.size hb4)
      clear hb4
      go_wp2_with fail
      go_ret2
      exact ⟨rfl, HWY.out⟩
end Go.Proofs.YtdinjplbbmhleaaDoor
