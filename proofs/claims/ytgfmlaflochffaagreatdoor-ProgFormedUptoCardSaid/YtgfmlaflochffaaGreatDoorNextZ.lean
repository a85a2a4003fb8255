/-
  The functions that tell an event's next field: of a call, of an answer.
-/
import Derived.Test.YtgfmlaflochffaaGreatDoorFldsZ
import Derived.Test.YtgfmlaflochffaaGreatDoorOneZ
import Derived.Deep.AppendLies
import Derived.Deep.DeepCutAuto
namespace Go.Proofs.YtgfmlaflochffaaGreatDoor
open Go.RowKit Go.Maps W
attribute [local go_sem ↓] Go.wp_at_zero Go.wp_at_succ

theorem infoF : (Tryz.prog.info? 133).map (fun i => (i.zero, i.size, i.bytes)) = some (some (.agg noField), 4, 32) := by kernel_rfl
/-- The function that makes a function out of a list. -/
def listV : Value := .func (.func 64) #[] #[]
theorem listMake (A : Option Addr) (n c : Nat) (w : World) : Calls Tryz.prog 64 #[.slice A n c] w fun e w' => e = .returned (.func (.func 65) #[] #[.pointer (some ⟨w.heap.size, 0, none⟩)]) ∧ w' = w.alloc (.cells #[.slice A n c] 147) := by
  go_enter Tryz.func64, Tryz.ntmps64
  go_wp2
  go_ret
  exact ⟨rfl, rfl⟩

/-- A function without what it has caught; or none. -/
def fnV : Option Nat → Value
  | none => .nilFunc
  | some f => .func (.func f) #[] #[]
/-- What a closure that tells the next field of an event keeps in mind while it runs. -/
structure Kp (w W : World) (e : Ev) (B0 : Nat) : Prop where
  ev : Blk W w.heap.size 37 (evArr e)
  out : Blk W (w.heap.size + 1) 133 noField
  lst : W.cell? ⟨B0, 0, none⟩ = some listV
  below : Below w.heap.size w W
theorem Kp.start (w : World) (e : Ev) (B0 : Nat) (h : w.cell? ⟨B0, 0, none⟩ = some listV) : Kp w ((w.alloc (.cells (evArr e) 37)).alloc (.cells noField 133)) e B0 := by
  have hb := ((Below.refl w.heap.size w).alloc (Nat.le_refl _) (.cells (evArr e) 37)).alloc (by simp) (.cells noField 133)
  refine ⟨(Blk.new w _ _).alloc _, ?_, (hb.cell (p := ⟨B0, 0, none⟩) (World.block_lt_of_cell? w _ h)).trans h, hb⟩
  have h2 := Blk.new (w.alloc (.cells (evArr e) 37)) 133 noField
  rwa [World.size_alloc] at h2
theorem Kp.call {w W W' : World} {e : Ev} {B0 : Nat} (h : Kp w W e B0) (hb : Below W.heap.size W W') : Kp w W' e B0 :=
  ⟨h.ev.below hb h.ev.lt, h.out.below hb h.out.lt, (hb.cell (p := ⟨B0, 0, none⟩) (World.block_lt_of_cell? _ _ h.lst)).trans h.lst, h.below.trans (hb.mono h.below.size)⟩
theorem Kp.alloc {w W : World} {e : Ev} {B0 : Nat} (h : Kp w W e B0) (o : Obj) : Kp w (W.alloc o) e B0 := h.call ((Below.refl _ _).alloc (Nat.le_refl _) o)

/-- A row of one's own has grown, a row that lies apart from what is kept in mind. -/
theorem Kp.grown {w W W' : World} {e : Ev} {B0 n : Nat} {v : Value} {xs : List Value} (h : Kp w W e B0) (hown : W.ownsRow (w.heap.size + 2) 133 4 v n xs) (hB : B0 < w.heap.size) (hg : W.grownBy W' v.ownBlock) : Kp w W' e B0 := by
  have hf : ∀ g, g < w.heap.size + 2 → some g ≠ v.ownBlock := fun g hg' e => by
    have := (row_own hown e.symm).1
    omega
  refine ⟨h.ev.grown hg (hf _ (by omega)), h.out.grown hg (hf _ (by omega)), hg.cell h.lst (hf _ (by simp only; omega)), ?_⟩
  exact h.below.grown hg h.below.size (fun k hk => by have := (row_own hown hk).1; omega)

theorem Kp.drew {w W : World} {e : Ev} {B0 : Nat} (h : Kp w W e B0) : Kp w W.drew e B0 := ⟨h.ev, h.out, h.lst, h.below.drew⟩

theorem res2 (F : Func) (hF : F.results = #[.cell 5 133, .tmp 6]) (tmps : Array Value) (W : World) (g : Nat) (a0 a1 a2 a3 b : Value) (h5 : tmps.getD 5 undef = .pointer (some ⟨g, 0, none⟩)) (h6 : tmps.getD 6 undef = b) (hb : Blk W g 133 #[a0, a1, a2, a3]) :
    (results F tmps).run Tryz.prog W = .ok (.tuple #[.agg #[a0, a1, a2, a3], b]) W := by
  have c0 := hb.cell 0
  have c1 := hb.cell 1
  have c2 := hb.cell 2
  have c3 := hb.cell 3
  have h5' : tmps[5]?.getD undef = .pointer (some ⟨g, 0, none⟩) := by simpa using h5
  have h6' : tmps[6]?.getD undef = b := by simpa using h6
  simp [results, hF, h5', h6', go_sem, c0, c1, c2, c3]
set_option maxHeartbeats 2000000 in
set_option maxRecDepth 100000 in
theorem next_call (e : Ev) (i : Nat) (B0 : Nat) (w : World) (hl : w.cell? ⟨B0, 0, none⟩ = some listV) :
    Calls Tryz.prog 68 #[.agg (evArr e), .int .i64 i, .pointer (some ⟨B0, 0, none⟩)] w fun r w' => r = .returned (.tuple #[.agg (fat (callFl e.op) i), .bool (decide (i < (callFl e.op).length))]) ∧ Below w.heap.size w w' := by
  have HK := hid (Kp.start w e B0 hl)
  have hB0 := World.block_lt_of_cell? w _ hl
  obtain ⟨i0, hi, hz0, hz1, hz2⟩ := info_parts infoF
  clear hl
  unfold evArr noField at HK
  unfold evArr
  go_enter Tryz.func68, Tryz.ntmps68
  go_wp2_with fail
  refine (fld_T _).mono ?_
  rintro r w1 ⟨rfl, hb⟩
  have HK1 := hid (HK.out.call hb)
  clear hb HK
  go_wp2_with fail
  refine (fld_O _).mono ?_
  rintro r w2 ⟨rfl, hb⟩
  have HK2 := hid (HK1.out.call hb)
  clear hb HK1
  go_wp2_with fail
  refine (fld_P _).mono ?_
  rintro r w3 ⟨rfl, hb⟩
  have HK3 := hid (HK2.out.call hb)
  clear hb HK2
  have c4 := HK3.out.ev.cell 4
  have l4 := HK3.out.ev.lt
  have l5 := HK3.out.out.lt
  have HV := hid (fun W => keyedCall e.op W)
  have HW := hid (fun W => valuedCall e.op W)
  have HO := hid (row_new (w := w3) (cs := (flat [.T, .O, .P]).toArray) (t := 133) (B := w.heap.size + 2) (size := 4) (n := 3) rfl (by omega) (by unfold maxLen; omega))
  have HK4 := hid (HK3.out.alloc (.cells (flat [.T, .O, .P]).toArray 133))
  simp only [evArr] at c4
  unfold fcells
  go_wp2_with fail
  refine (HV.out _).mono ?_
  rintro r w4 ⟨rfl, hw4⟩
  change w3.alloc (.cells (flat [.T, .O, .P]).toArray 133) = w4 at hw4
  subst hw4
  generalize w3.alloc (.cells (flat [.T, .O, .P]).toArray 133) = w4 at *
  clear c4 HK3
  go_upto_if 14 with fail
  go_cut [7] (fun s7 wx => ∃ A c, s7 = .slice A ([Fld.T, .O, .P] ++ (if keyed e.op then [Fld.K] else [])).length c ∧ wx.ownsRow (w.heap.size + 2) 133 4 s7 ([Fld.T, .O, .P] ++ (if keyed e.op then [Fld.K] else [])).length (flat ([Fld.T, .O, .P] ++ (if keyed e.op then [Fld.K] else []))) ∧ Kp w wx e B0)
  case first =>
    cases hk : keyed e.op with
    | false =>
      go_wp2_with fail
      go_meet
      rw [hk]
      exact ⟨_, _, rfl, HO.out, HK4.out⟩
    | true =>
      go_wp2_with fail
      refine (fld_K _).mono ?_
      rintro r w5 ⟨rfl, hb⟩
      have HK5 := hid (HK4.out.call hb)
      have HO5 := hid (row_call HO.out hb)
      clear hb HK4 HO
      unfold fcells
      go_wp2_with (at_builtin; go_loud (refine wpList_append_own _ rfl (.tmp 15) (.tmp 17) 147 rfl (w.heap.size + 2) 133 i0 (.agg noField) 4 32 Tryz.underlying147 hi hz0 hz1 hz2 rfl (by decide) _ 3 _ rfl (HO5.out.alloc _) ⟨w5.heap.size, 0, none⟩ 1 1 (flat [.K]) rfl rfl (World.news_of_block (cs := (flat [.K]).toArray) (heap_alloc_new w5 _)) (flat_one _) (by unfold maxLen; omega) (by omega) (by have := HK5.out.below.size; have := HK5.out.out.lt; simp; omega) ?_); intro v6 w6 hown6 hgrow6 _)
      have HK6 := hid ((HK5.out.alloc _).grown (HO5.out.alloc _) hB0 hgrow6)
      rw [← flat_append] at hown6
      obtain ⟨A6, c6, rfl⟩ := row_shape hown6
      have HO6 := hid hown6
      clear hown6 hgrow6 HK5 HO5
      go_meet
      rw [hk]
      exact ⟨_, _, rfl, HO6.out, HK6.out⟩
  case rest =>
  have hk1 : ([Fld.T, Fld.O, Fld.P] ++ if keyed e.op = true then [Fld.K] else []).length ≤ 4 := by cases keyed e.op <;> simp
  obtain ⟨l1, hl1⟩ : ∃ l1, [Fld.T, Fld.O, Fld.P] ++ (if keyed e.op = true then [Fld.K] else []) = l1 := ⟨_, rfl⟩
  have HL := hid (show callFl e.op = l1 ++ (if valued e.op then [Fld.V] else []) by rw [← hl1]; rfl)
  rw [hl1] at hcut hk1
  obtain ⟨A7, c7, rfl, hown7, hK7⟩ := hcut
  have c4 := hK7.ev.cell 4
  simp only [evArr] at c4
  have HO7 := hid hown7
  have HK7 := hid hK7
  clear hl1 hown7 hK7 HV HO HK4
  go_wp2_with fail
  refine (HW.out _).mono ?_
  rintro r w8 ⟨rfl, rfl⟩
  clear c4
  go_upto_if 21 with fail
  go_cut [7] (fun s7 wx => ∃ A c, s7 = .slice A (callFl e.op).length c ∧ wx.ownsRow (w.heap.size + 2) 133 4 s7 (callFl e.op).length (flat (callFl e.op)) ∧ Kp w wx e B0)
  case first =>
    cases hv : valued e.op with
    | false =>
      go_wp2_with fail
      go_meet
      rw [HL.out, hv, if_neg (by simp), List.append_nil]
      exact ⟨_, _, rfl, HO7.out, HK7.out⟩
    | true =>
      go_wp2_with fail
      refine (fld_V _).mono ?_
      rintro r w9 ⟨rfl, hb⟩
      have HK9 := hid (HK7.out.call hb)
      have HO9 := hid (row_call HO7.out hb)
      clear hb HK7 HO7
      unfold fcells
      go_wp2_with (at_builtin; refine wpList_append_own _ rfl (.tmp 22) (.tmp 24) 147 rfl (w.heap.size + 2) 133 i0 (.agg noField) 4 32 Tryz.underlying147 hi hz0 hz1 hz2 rfl (by decide) _ l1.length _ rfl (HO9.out.alloc _) ⟨w9.heap.size, 0, none⟩ 1 1 (flat [.V]) rfl rfl (World.news_of_block (cs := (flat [.V]).toArray) (heap_alloc_new w9 _)) (flat_one _) (by unfold maxLen; omega) (by omega) (by have := HK9.out.below.size; have := HK9.out.out.lt; simp; omega) ?_; intro v6 w6 hown6 hgrow6 _)
      have HK6 := hid ((HK9.out.alloc _).grown (HO9.out.alloc _) hB0 hgrow6)
      rw [← flat_append] at hown6
      obtain ⟨A6, c6, rfl⟩ := row_shape hown6
      have HO6 := hid hown6
      clear hown6 hgrow6 HK9 HO9
      go_meet
      rw [HL.out, hv, if_pos rfl, List.length_append, List.length_singleton]
      exact ⟨_, _, rfl, HO6.out, HK6.out⟩
  case rest =>
  obtain ⟨A9, c9, rfl, hown9, hK9⟩ := hcut
  have hlen9 : (callFl e.op).length ≤ 5 := (fl_len 2 e.op 0).2
  obtain ⟨fs, hfs⟩ : ∃ fs, callFl e.op = fs := ⟨_, rfl⟩
  rw [hfs] at hown9 hlen9 ⊢
  have HFS := hid hfs
  clear hfs
  have HO9 := hid hown9
  have HK9 := hid hK9
  have k0 := hK9.ev.cell 0
  have k1 := hK9.ev.cell 1
  have k2 := hK9.ev.cell 2
  have k3 := hK9.ev.cell 3
  have k4 := hK9.ev.cell 4
  have k5 := hK9.ev.cell 5
  have k6 := hK9.ev.cell 6
  have k7 := hK9.ev.cell 7
  have kB := hK9.lst
  have l9 := hK9.ev.lt
  have lo9 := hK9.out.lt
  have lB9 := World.block_lt_of_cell? _ _ kB
  simp only [evArr] at k0 k1 k2 k3 k4 k5 k6 k7
  unfold listV at kB
  clear hown9 hK9 HL HW HO7 HK7 hi hz0 hz1 hz2
  obtain ⟨a0, a1, a2, a3, hfat⟩ : ∃ a0 a1 a2 a3, fat fs i = #[fnV a0, .int .i64 a1, .int .i64 a2, .int .i64 a3] := by
    unfold fat
    cases fs[i]? with
    | none => exact ⟨none, 0, 0, 0, rfl⟩
    | some f => exact ⟨some (fid f), _, _, _, rfl⟩
  have HC := hid (fun W h1 h2 => listCall fs (.slice A9 fs.length c9) wc.heap.size (w.heap.size + 2) e i W h1 h2 hlen9)
  rw [hfat] at HC
  have HFT := hid hfat
  clear hfat
  cases a0
  all_goals
    unfold fnV at HC
    go_wp2_with fail
    go_region_with (first
      | (go_at_call 64; refine (listMake _ _ _ _).mono ?_; rintro r x1 ⟨rfl, rfl⟩)
      | (go_at_call 65; go_loud (refine (HC.out _ (by exact ((Blk.new wc _ _).drew.cell 0)) (by exact (HO9.out.alloc _).drew)).mono ?_); rintro r x1 ⟨rfl, hb1⟩; have KX := hid ((HK9.out.alloc (.cells #[.slice A9 fs.length c9] 147)).drew.call hb1); have s0 := KX.out.out.cell 0; have s1 := KX.out.out.cell 1; have s2 := KX.out.out.cell 2; have s3 := KX.out.out.cell 3; have f0 := KX.out.out.frozen 0; have f1 := KX.out.out.frozen 1; have f2 := KX.out.out.frozen 2; have f3 := KX.out.out.frozen 3; simp only [noField] at s0 s1 s2 s3; clear hb1))
  all_goals
    have HE := hid (fun v0 : Value => And.intro ((((KX.out.out.put 0 v0).put 1 (.int .i64 a1)).put 2 (.int .i64 a2)).put 3 (.int .i64 a3))
      ((((KX.out.below.setCell (p := ⟨w.heap.size + 1, 0, none⟩) (by simp) v0).setCell (p := ⟨w.heap.size + 1, 1, none⟩) (by simp) (.int .i64 a1)).setCell (p := ⟨w.heap.size + 1, 2, none⟩) (by simp) (.int .i64 a2)).setCell (p := ⟨w.heap.size + 1, 3, none⟩) (by simp) (.int .i64 a3)))
    clear KX s0 s1 s2 s3 f0 f1 f2 f3 k0 k1 k2 k3 k4 k5 k6 k7
    go_wp2_with fail
    exact bodyPost_ret (res2 _ rfl _ _ _ _ _ _ _ _ rfl rfl (HE.out _).1) rfl ⟨by rw [HFS.out, HFT.out]; rfl, (HE.out _).2⟩

set_option maxHeartbeats 2000000 in
set_option maxRecDepth 100000 in
theorem next_ret (e : Ev) (i : Nat) (B0 : Nat) (w : World) (hl : w.cell? ⟨B0, 0, none⟩ = some listV) :
    Calls Tryz.prog 75 #[.agg (evArr e), .int .i64 i, .pointer (some ⟨B0, 0, none⟩)] w fun r w' => r = .returned (.tuple #[.agg (fat (retFl e.ret) i), .bool (decide (i < (retFl e.ret).length))]) ∧ Below w.heap.size w w' := by
  have HK := hid (Kp.start w e B0 hl)
  have hB0 := World.block_lt_of_cell? w _ hl
  obtain ⟨i0, hi, hz0, hz1, hz2⟩ := info_parts infoF
  clear hl
  unfold evArr noField at HK
  unfold evArr
  go_enter Tryz.func75, Tryz.ntmps75
  go_wp2_with fail
  refine (fld_T _).mono ?_
  rintro r w1 ⟨rfl, hb⟩
  have HK1 := hid (HK.out.call hb)
  clear hb HK
  go_wp2_with fail
  refine (fld_R _).mono ?_
  rintro r w3 ⟨rfl, hb⟩
  have HK3 := hid (HK1.out.call hb)
  clear hb HK1
  have k7 := HK3.out.ev.cell 7
  have l4 := HK3.out.ev.lt
  have l5 := HK3.out.out.lt
  have HO := hid (row_new (w := w3) (cs := (flat [.T, .R]).toArray) (t := 133) (B := w.heap.size + 2) (size := 4) (n := 2) rfl (by omega) (by unfold maxLen; omega))
  have HK4 := hid (HK3.out.alloc (.cells (flat [.T, .R]).toArray 133))
  simp only [evArr] at k7
  unfold fcells
  go_upto_if 13 with fail
  go_cut [7] (fun s7 wx => ∃ A c, s7 = .slice A (retFl e.ret).length c ∧ wx.ownsRow (w.heap.size + 2) 133 4 s7 (retFl e.ret).length (flat (retFl e.ret)) ∧ Kp w wx e B0)
  case first =>
    by_cases hr : e.ret = 3
    · have t1 : (e.ret == 3) = true := by simpa using hr
      have HL := hid (show retFl e.ret = [.T, .R] ++ [.V] by unfold retFl; rw [if_pos hr])
      clear hr
      go_wp2_with fail
      refine (fld_V _).mono ?_
      rintro r w9 ⟨rfl, hb⟩
      have HK9 := hid (HK4.out.call hb)
      have HO9 := hid (row_call HO.out hb)
      clear hb HK4 HO
      unfold fcells
      go_wp2_with (at_builtin; refine wpList_append_own _ rfl (.tmp 14) (.tmp 16) 147 rfl (w.heap.size + 2) 133 i0 (.agg noField) 4 32 Tryz.underlying147 hi hz0 hz1 hz2 rfl (by decide) _ 2 _ rfl (HO9.out.alloc _) ⟨w9.heap.size, 0, none⟩ 1 1 (flat [.V]) rfl rfl (World.news_of_block (cs := (flat [.V]).toArray) (heap_alloc_new w9 _)) (flat_one _) (by unfold maxLen; omega) (by omega) (by have := HK9.out.below.size; have := HK9.out.out.lt; simp; omega) ?_; intro v6 w6 hown6 hgrow6 _)
      have HK6 := hid ((HK9.out.alloc _).grown (HO9.out.alloc _) hB0 hgrow6)
      have hown7 : w6.ownsRow (w.heap.size + 2) 133 4 v6 3 (flat ([.T, .R] ++ [.V])) := by rw [flat_append]; exact hown6
      obtain ⟨A6, c6, rfl⟩ := row_shape hown7
      have HO6 := hid hown7
      clear hown6 hgrow6 HK9 HO9 hown7
      go_meet
      rw [HL.out]
      exact ⟨_, _, rfl, HO6.out, HK6.out⟩
    · have t1 : (e.ret == 3) = false := by simpa using hr
      have HL := hid (show retFl e.ret = [.T, .R] by unfold retFl; rw [if_neg hr]; rfl)
      clear hr
      go_wp2_with fail
      go_meet
      rw [HL.out]
      exact ⟨_, _, rfl, HO.out, HK4.out⟩
  case rest =>
  obtain ⟨A9, c9, rfl, hown9, hK9⟩ := hcut
  have hlen9 : (retFl e.ret).length ≤ 5 := (fl_len 3 0 e.ret).2
  obtain ⟨fs, hfs⟩ : ∃ fs, retFl e.ret = fs := ⟨_, rfl⟩
  rw [hfs] at hown9 hlen9 ⊢
  have HFS := hid hfs
  clear hfs
  have HO9 := hid hown9
  have HK9 := hid hK9
  have k0 := hK9.ev.cell 0
  have k1 := hK9.ev.cell 1
  have k2 := hK9.ev.cell 2
  have k3 := hK9.ev.cell 3
  have k4 := hK9.ev.cell 4
  have k5 := hK9.ev.cell 5
  have k6 := hK9.ev.cell 6
  clear k7
  have k7 := hK9.ev.cell 7
  have kB := hK9.lst
  have l9 := hK9.ev.lt
  have lo9 := hK9.out.lt
  have lB9 := World.block_lt_of_cell? _ _ kB
  simp only [evArr] at k0 k1 k2 k3 k4 k5 k6 k7
  unfold listV at kB
  clear hown9 hK9 HO HK4 hi hz0 hz1 hz2
  obtain ⟨a0, a1, a2, a3, hfat⟩ : ∃ a0 a1 a2 a3, fat fs i = #[fnV a0, .int .i64 a1, .int .i64 a2, .int .i64 a3] := by
    unfold fat
    cases fs[i]? with
    | none => exact ⟨none, 0, 0, 0, rfl⟩
    | some f => exact ⟨some (fid f), _, _, _, rfl⟩
  have HC := hid (fun W h1 h2 => listCall fs (.slice A9 fs.length c9) wc.heap.size (w.heap.size + 2) e i W h1 h2 hlen9)
  rw [hfat] at HC
  have HFT := hid hfat
  clear hfat
  cases a0
  all_goals
    unfold fnV at HC
    go_wp2_with fail
    go_region_with (first
      | (go_at_call 64; refine (listMake _ _ _ _).mono ?_; rintro r x1 ⟨rfl, rfl⟩)
      | (go_at_call 65; go_loud (refine (HC.out _ (by exact ((Blk.new wc _ _).drew.cell 0)) (by exact (HO9.out.alloc _).drew)).mono ?_); rintro r x1 ⟨rfl, hb1⟩; have KX := hid ((HK9.out.alloc (.cells #[.slice A9 fs.length c9] 147)).drew.call hb1); have s0 := KX.out.out.cell 0; have s1 := KX.out.out.cell 1; have s2 := KX.out.out.cell 2; have s3 := KX.out.out.cell 3; have f0 := KX.out.out.frozen 0; have f1 := KX.out.out.frozen 1; have f2 := KX.out.out.frozen 2; have f3 := KX.out.out.frozen 3; simp only [noField] at s0 s1 s2 s3; clear hb1))
  all_goals
    have HE := hid (fun v0 : Value => And.intro ((((KX.out.out.put 0 v0).put 1 (.int .i64 a1)).put 2 (.int .i64 a2)).put 3 (.int .i64 a3))
      ((((KX.out.below.setCell (p := ⟨w.heap.size + 1, 0, none⟩) (by simp) v0).setCell (p := ⟨w.heap.size + 1, 1, none⟩) (by simp) (.int .i64 a1)).setCell (p := ⟨w.heap.size + 1, 2, none⟩) (by simp) (.int .i64 a2)).setCell (p := ⟨w.heap.size + 1, 3, none⟩) (by simp) (.int .i64 a3)))
    clear KX s0 s1 s2 s3 f0 f1 f2 f3 k0 k1 k2 k3 k4 k5 k6 k7
    go_wp2_with fail
    exact bodyPost_ret (res2 _ rfl _ _ _ _ _ _ _ _ rfl rfl (HE.out _).1) rfl ⟨by rw [HFS.out, HFT.out]; rfl, (HE.out _).2⟩

end Go.Proofs.YtgfmlaflochffaaGreatDoor
