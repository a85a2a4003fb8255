/-
  shape.Auto: Feed: an event of a transaction that has begun.
-/
import Derived.Test.YtgfmlaflochffaaGreatDoorShKZ
import Derived.Test.YtgfmlaflochffaaGreatDoorValidZ
import Derived.StillTailTactics
import Derived.Deep.DeepCutAuto
import Derived.Deep.RegionWith
import Derived.Test.YtgfmlaflochffaaGreatDoorShelfZ
namespace Go.Proofs.YtgfmlaflochffaaGreatDoor
open Go.RowKit Go.Maps W
attribute [local go_sem ↓] Go.wp_at_zero Go.wp_at_succ

theorem zeroSp (W : World) : (zeroValue tSp).run Tryz.prog W = .ok (.pointer none) W := by kernel_rfl
theorem underSm : Tryz.prog.underlying tSm = some (.map 3 tSp) := Tryz.underlying103
theorem zeroMv (W : World) : (zeroValue tMove).run Tryz.prog W = .ok (.agg #[.slice none 0 0, .nilFunc]) W := by kernel_rfl
theorem MvAt.mono {L L' : Nat} {W : World} {v : Value} {kind : Int} (h : MvAt L' W v kind) (hl : L ≤ L') : MvAt L W v kind := by
  obtain ⟨q, fn, h1, h2, h3, h4⟩ := h
  refine ⟨q, fn, h1, Nat.le_trans hl h2, h3, ?_⟩
  rcases h4 with h | h | h | h | ⟨hk, c, e, hc, hB⟩
  · exact .inl h
  · exact .inr (.inl h)
  · exact .inr (.inr (.inl h))
  · exact .inr (.inr (.inr (.inl h)))
  · exact .inr (.inr (.inr (.inr ⟨hk, c, e, Nat.le_trans hl hc, hB⟩)))
/-- A look into the moves. -/
theorem DoV.shape {L : Nat} {W : World} {kind : Int} {v : Value} (h : DoV L W kind v) : ∃ F caps, v = .func (.func F) #[] caps := by
  rcases h with ⟨_, h⟩ | ⟨_, h⟩ | ⟨_, h⟩ | ⟨_, h⟩ | ⟨_, c, h, _⟩ <;> exact ⟨_, _, h⟩
theorem Mvs.look {w W : World} {b : Nat} {ks : List Int} (h : Mvs w W b ks) {k : Int} (hk : k ∈ ks) (hk9 : 1 ≤ k ∧ k ≤ 7) : ∃ q n F caps, n = (fromOf k).length ∧ MvAt w.heap.size W (.agg #[.slice (some ⟨q, 0, none⟩) n n, .func (.func F) #[] caps]) k ∧
    (Instr.lookup tMv (.map (some b)) (.int .i64 k) false).run Tryz.prog W = .ok (.agg #[.slice (some ⟨q, 0, none⟩) n n, .func (.func F) #[] caps]) W ∧ ∀ o, (Instr.lookup tMv (.map (some b)) (.int .i64 k) false).run Tryz.prog (W.alloc o) = .ok (.agg #[.slice (some ⟨q, 0, none⟩) n n, .func (.func F) #[] caps]) (W.alloc o) := by
  obtain ⟨h1, h2, n0, f, hn, hm, hf⟩ := h
  obtain ⟨v, e, hv⟩ := hf k hk
  have hv9 := hv
  obtain ⟨q, fn, rfl, _, _, hv⟩ := hv
  obtain ⟨F, caps, rfl⟩ := hv.shape
  refine ⟨_, _, F, caps, rfl, hv9, ?_, fun o => ?_⟩
  · have h9 := hm.look underMv (zeroMv W) (k := k) (by omega) (by omega)
    rw [e] at h9
    exact h9
  · have h9 := (hm.alloc o).look underMv (zeroMv _) (k := k) (by omega) (by omega)
    rw [e] at h9
    exact h9
theorem MvAt.far {L : Nat} {W : World} {v : Value} {kind : Int} (h : MvAt L W v kind) {p : Addr} (hp : p.block < L) (u : Value) : MvAt L (W.setCell p u) v kind := by
  obtain ⟨q, fn, h1, h2, h3, h4⟩ := h
  refine ⟨q, fn, h1, h2, h3.far (p := p) (by omega) u, ?_⟩
  rcases h4 with h | h | h | h | ⟨hk, c, e, hc, hB⟩
  · exact .inl h
  · exact .inr (.inl h)
  · exact .inr (.inr (.inl h))
  · exact .inr (.inr (.inr (.inl h)))
  · exact .inr (.inr (.inr (.inr ⟨hk, c, e, hc, hB.far (p := p) (by omega) u⟩)))
abbrev MvIn (w2 : World) (kind : Int) (s8 : Value) (wx : World) : Prop := ∃ mb q n F caps, n = (fromOf kind).length ∧ s8 = .pointer (some ⟨mb, 0, none⟩) ∧ w2.heap.size ≤ mb ∧ Blk wx mb tMove #[.slice (some ⟨q, 0, none⟩) n n, .func (.func F) #[] caps] ∧ MvAt w2.heap.size wx (.agg #[.slice (some ⟨q, 0, none⟩) n n, .func (.func F) #[] caps]) kind ∧ Below w2.heap.size w2 wx
theorem mvInA {w2 x1 : World} {kind : Int} {q n F : Nat} {caps : Array Value} (hn : n = (fromOf kind).length) (hat : MvAt w2.drew.heap.size x1 (.agg #[.slice (some ⟨q, 0, none⟩) n n, .func (.func F) #[] caps]) kind) (hb : Below w2.drew.heap.size w2.drew x1) :
    MvIn w2 kind (.pointer (some ⟨x1.heap.size, 0, none⟩)) (x1.alloc (.cells #[.slice (some ⟨q, 0, none⟩) n n, .func (.func F) #[] caps] tMove)) := by
  have hs := hb.size
  simp only [World.size_drew] at hat hs hb
  exact ⟨_, q, n, F, caps, hn, rfl, hs, Blk.new x1 _ _, hat.call ((Below.refl _ _).alloc (Nat.le_refl _) _), ((Below.refl w2.heap.size w2).drew.trans hb).alloc hs _⟩
theorem mvInB {w2 x1 : World} {kind : Int} {q n F : Nat} {caps : Array Value} {o : Obj} (hn : n = (fromOf kind).length) (hat : MvAt (w2.drew.alloc o).heap.size x1 (.agg #[.slice (some ⟨q, 0, none⟩) n n, .func (.func F) #[] caps]) kind) (hb : Below (w2.drew.alloc o).heap.size (w2.drew.alloc o) x1) {a b : Value} (hB : Blk x1 w2.drew.heap.size tMove #[a, b]) :
    MvIn w2 kind (.pointer (some ⟨w2.heap.size, 0, none⟩)) ((x1.setCell ⟨w2.heap.size, 0, none⟩ (.slice (some ⟨q, 0, none⟩) n n)).setCell ⟨w2.heap.size, 1, none⟩ (.func (.func F) #[] caps)) := by
  simp only [World.size_drew, World.size_alloc] at hat hb hB
  have k0 := hB.put 0 (.slice (some ⟨q, 0, none⟩) n n)
  have k1 := k0.put 1 (.func (.func F) #[] caps)
  have m1 := (hat.far (p := ⟨w2.heap.size, 0, none⟩) (by simp) (.slice (some ⟨q, 0, none⟩) n n)).far (p := ⟨w2.heap.size, 1, none⟩) (by simp) (.func (.func F) #[] caps)
  refine ⟨_, q, n, F, caps, hn, rfl, Nat.le_refl _, by simpa using k1, m1.mono (by omega), ?_⟩
  exact ((((Below.refl w2.heap.size w2).drew.alloc (Nat.le_refl _) _).trans (hb.mono (by omega))).setCell (p := ⟨w2.heap.size, 0, none⟩) (Nat.le_refl _) _).setCell (p := ⟨w2.heap.size, 1, none⟩) (Nat.le_refl _) _
theorem kind_ok {nc : Nat} {e : Ev} (h : EvGood nc e) : 1 ≤ e.kind ∧ e.kind ≤ 7 := ⟨h.1.1.1, h.1.1.2.1⟩
/-- event.Valid says yes. -/
theorem validGood {nc : Nat} {e : Ev} (h : EvGood nc e) (hr : e.ret ≤ 3) (w : World) (hL : LaidE w) : Calls Tryz.prog 41 #[.agg (evArr e)] w fun r w' => r = .returned .nilIface ∧ Below w.heap.size w w' := by
  refine (validCall e w hL (by have := kind_ok h; constructor <;> omega) (by omega)).mono ?_
  rintro r w' ⟨v, rfl, hv | hv, hb⟩
  · exact ⟨by rw [hv.2], hb⟩
  · exact absurd h.1 hv.1
/-- What the busy threads' map says, where a transaction has turned that does not end. -/
theorem Busy.keep {A : Au} {hs : List Hd} {f2 : Int → Option Value} (h : Busy A hs f2) {i : Nat} {s s' : St} {hd hd' : Hd} (hi : A.sts[i]? = some s) (hh : hs[i]? = some hd) (hb : hd'.b = hd.b) (ht : s'.thr = s.thr) (h5 : s.stand ≠ 5) (h5' : s'.stand ≠ 5) (m : Nat) : Busy ⟨m, A.sts.set i s'⟩ (hs.set i hd') f2 := by
  have hlt := (List.getElem?_eq_some_iff.1 hi).1
  have hlt2 := (List.getElem?_eq_some_iff.1 hh).1
  refine ⟨fun j x y hx hy hx5 => ?_, fun k hk => h.2 k fun x hx hxk => ?_⟩
  · by_cases hij : i = j
    · subst hij
      simp [hlt] at hx
      simp [hlt2] at hy
      subst hx hy
      rw [ht, hb]
      exact h.1 i s hd hi hh h5
    · simp only at hx
      rw [List.getElem?_set_ne hij] at hx hy
      exact h.1 j x y hx hy hx5
  · obtain ⟨j, hj⟩ := List.getElem?_of_mem hx
    by_cases hij : i = j
    · subst hij
      rw [hi] at hj
      injection hj with hj
      subst hj
      exact absurd (hk s' (List.mem_of_getElem? (i := i) (by simp [hlt])) (ht.trans hxk)) h5'
    · exact hk x (List.mem_of_getElem? (i := j) (by simp only; rw [List.getElem?_set_ne hij]; exact hj)) hxk
/-- Where it ends. -/
theorem Busy.ends {A : Au} {hs : List Hd} {f2 : Int → Option Value} (h : Busy A hs f2) {i : Nat} {s s' : St} {hd hd' : Hd} (hi : A.sts[i]? = some s) (hh : hs[i]? = some hd) (h5' : s'.stand = 5) (hu : ∀ (j : Nat) (x : St), A.sts[j]? = some x → x.thr = s.thr → x.stand ≠ 5 → j = i) (m : Nat) : Busy ⟨m, A.sts.set i s'⟩ (hs.set i hd') (delG f2 s.thr) := by
  have hlt := (List.getElem?_eq_some_iff.1 hi).1
  have hlt2 := (List.getElem?_eq_some_iff.1 hh).1
  refine ⟨fun j x y hx hy hx5 => ?_, fun k hk => ?_⟩
  · by_cases hij : i = j
    · subst hij
      simp [hlt] at hx
      subst hx
      exact absurd h5' hx5
    · simp only at hx
      rw [List.getElem?_set_ne hij] at hx hy
      unfold delG
      rw [if_neg (fun e => hij (hu j x hx e hx5).symm)]
      exact h.1 j x y hx hy hx5
  · unfold delG
    by_cases hks : k = s.thr
    · rw [if_pos hks]
    · rw [if_neg hks]
      refine h.2 k fun x hx hxk => ?_
      obtain ⟨j, hj⟩ := List.getElem?_of_mem hx
      by_cases hij : i = j
      · subst hij
        rw [hi] at hj
        injection hj with hj
        subst hj
        exact absurd hxk.symm hks
      · exact hk x (List.mem_of_getElem? (i := j) (by simp only; rw [List.getElem?_set_ne hij]; exact hj)) hxk
def FeedPost (L : Nat) (W : World) (A' : Au) (nc ab : Nat) (vo : Value) (m1 m2 : Nat) (r : Ending) (w' : World) : Prop :=
  r = .returned .nilIface ∧ ∃ hs' vt' f2', ShC L w' A' nc ab hs' vo vt' m1 m2 f2' ∧ Busy A' hs' f2' ∧ Below L W w'
set_option linter.unusedSimpArgs false in
set_option maxHeartbeats 16000000 in
set_option maxRecDepth 100000 in
theorem feedK {L : Nat} {W : World} {A : Au} {nc ab : Nat} {hs : List Hd} {vo vt : Value} {m1 m2 : Nat} {f2 : Int → Option Value} (h : ShC L W A nc ab hs vo vt m1 m2 f2) (hbz : Busy A hs f2) (hL : LaidE W) (hm : A.many < 400) {e : Ev} (hg : EvGood nc e) (hr : e.ret ≤ 3) (htx : 0 ≤ e.tx ∧ e.tx ≤ 1000000)
    {i : Nat} {s s' : St} {hd : Hd} (hi : A.sts[i]? = some s) (hh : hs[i]? = some hd) (hid9 : s.id = e.tx) (hk : KStep A.many e s s') (hu : s'.stand = 5 → ∀ (j : Nat) (x : St), A.sts[j]? = some x → x.thr = s.thr → x.stand ≠ 5 → j = i) (hdl : s.deeds.length ≤ 1000) (hthr : 0 ≤ s.thr ∧ s.thr ≤ 1000000) :
    Calls Tryz.prog 36 #[.pointer (some ⟨ab, 0, none⟩), .agg (evArr e)] W fun r w' => FeedPost L W (A.upd i s') nc ab vo m1 m2 r w' := by
  have H := hid h
  have HBZ := hid hbz
  have lab := h.box.lt
  have b1 : W.cell? ⟨ab, 1, none⟩ = some (.int .i64 A.many) := h.box.cell 1
  have hmany : ((A.many : Int) == 400) = false := by simp; omega
  have hk1 : e.kind ≠ 1 := by have := hk.kind; simp at this; omega
  have t1 : (e.kind == 1) = false := by simpa using hk1
  have HV := hid (fun w hL => validGood hg hr w hL)
  have HLE := hid (hL.below ((Below.refl W.heap.size W).alloc (Nat.le_refl _) (.cells (evArr e) 37)))
  have HE0 := hid (Blk.new W 37 (evArr e))
  have HG := hid hg
  have HK := hid hk
  have HU := hid hu
  have HI := hid hi
  have HH := hid hh
  have HTX := hid htx
  have HTH := hid hthr
  have HDL := hid hdl
  have HID := hid hid9
  have hE9 : evArr e = #[.int .i64 e.kind, .int .i64 e.tx, .int .i64 e.thr, .int .i64 e.obj, .int .i64 e.op, .int .i64 e.key, .int .i64 e.val, .int .i64 e.ret] := rfl
  have HE9 := hid hE9
  rw [hE9] at HV HLE HE0 ⊢
  clear hE9 h hL hg hbz hk hu hi hh htx hthr hdl hid9 hk1
  go_enter Tryz.func36, Tryz.ntmps36
  go_wp2_with fail
  refine (HV.out _ HLE.out).mono ?_
  rintro r w1 ⟨rfl, hb1⟩
  have HW1 := hid (((Below.refl W.heap.size W).alloc (Nat.le_refl _) (.cells #[.int .i64 e.kind, .int .i64 e.tx, .int .i64 e.thr, .int .i64 e.obj, .int .i64 e.op, .int .i64 e.key, .int .i64 e.val, .int .i64 e.ret] 37)).trans (hb1.mono (by simp)))
  have HC := hid ((H.out.alloc (.cells #[.int .i64 e.kind, .int .i64 e.tx, .int .i64 e.thr, .int .i64 e.obj, .int .i64 e.op, .int .i64 e.key, .int .i64 e.val, .int .i64 e.ret] 37)).call hb1)
  have HE := hid (HE0.out.below hb1 (by simp))
  have e0 := HE.out.cell 0
  have a1 : w1.cell? ⟨ab, 1, none⟩ = some (.int .i64 A.many) := HC.out.box.cell 1
  have le := HE.out.lt
  have la := HC.out.box.lt
  clear hb1 HV HLE HE0 b1
  go_upto_if 23 with fail
  go_cut [45] from 24 to 46 (fun _ wx => ∃ n, wx = w1.drewN n)
  case first =>
    by_cases hk2 : e.kind = 2
    · obtain ⟨hob0, hob1, hop⟩ := HG.out.2 hk2
      have t2 : (e.kind == 2) = true := by simpa using hk2
      obtain ⟨cs, hrow, hcs⟩ := HC.out.ob
      obtain ⟨j, hj⟩ : ∃ j : Nat, e.obj = (j : Int) := ⟨e.obj.toNat, by omega⟩
      have hjn : j < nc := by omega
      obtain ⟨Ao, co, rfl⟩ := row_shape hrow
      obtain ⟨g, hg9, hgl⟩ : ∃ g, Ao = some ⟨g, 0, none⟩ ∧ g < w1.heap.size := by
        rcases hrow.2 with ⟨he, h0⟩ | ⟨g, cap, cur, he, hB, hg, _⟩
        · omega
        · injection he with he
          exact ⟨g, he, lt_of_at hg⟩
      subst hg9
      have hcell : w1.cell? ⟨g, j * 2, none⟩ = some (.int .i64 1) := by
        rw [hrow.cellAt (j * 2) (by omega)]
        exact hcs j hjn
      have a0 : w1.cell? ⟨ab, 0, none⟩ = some (.slice (some ⟨g, 0, none⟩) nc co) := HC.out.box.cell 0
      have e3 := HE.out.cell 3
      have e4 := HE.out.cell 4
      rw [hj] at e3
      have i0 : (0 : Int) ≤ (j : Int) := by omega
      have i1 : (j : Int) < (nc : Int) := by omega
      have q1 : decide (nc ≤ j) = false := by simpa using hjn
      have HF := hid (fun w => (ofCall e.op w).mono (R' := fun r w' => r = .returned (.int .i64 1) ∧ w' = w) (fun _ _ h9 => ⟨by rw [h9.1]; rcases hop with h | h <;> rw [h] <;> rfl, h9.2.symm⟩))
      clear hob0 hob1 hop hrow hcs hj hk2 hjn
      go_wp2_with fail
      go_quiet (fail)
      go_wp2_with fail
      go_quiet ((go_at_call 42; first | exact quiet_more4 (HF.out _) | exact Calls.quiet_of_same (HF.out _)))
      go_wp2_with fail
      go_meet
      exact ⟨_, World.drewN_drewN _ _ _⟩
    · have t2 : (e.kind == 2) = false := by simpa using hk2
      clear hk2
      go_wp2_with fail
      go_meet
      exact ⟨0, rfl⟩
  case rest =>
  obtain ⟨n0, hcw⟩ := hcut
  obtain ⟨n1, f1, hn1, hM1, hf1, _⟩ := HC.out.byM
  have HC2 : Hid (ShC L wc A nc ab hs vo vt m1 m2 f2) := hid (hcw ▸ HC.out.drewN n0)
  have HE2 : Hid (Blk wc W.heap.size tEv #[.int .i64 e.kind, .int .i64 e.tx, .int .i64 e.thr, .int .i64 e.obj, .int .i64 e.op, .int .i64 e.key, .int .i64 e.val, .int .i64 e.ret]) := hid (hcw ▸ HE.out.drewN n0)
  have HW2 : Hid (Below W.heap.size W wc) := hid (hcw ▸ below_drewN HW1.out n0)
  have hlk : ∀ n, (Instr.lookup tSm (.map (some m1)) (.int .i64 e.tx) true).run Tryz.prog (wc.drewN n) = .ok (.tuple #[.pointer (some ⟨hd.b, 0, none⟩), .bool true]) (wc.drewN n) := fun n => by
    subst hcw
    have h9 := ((hM1.drewN n0).drewN n).look_ok underSm (zeroSp _) (k := e.tx) (by have := HTX.out; omega) (by have := HTX.out; omega)
    have h10 := hf1 i s hd HI.out HH.out
    rw [HID.out] at h10
    rw [h10] at h9
    exact h9
  have a3 : wc.cell? ⟨ab, 3, none⟩ = some (.map (some m1)) := HC2.out.box.cell 3
  have e1 := HE2.out.cell 1
  have e0' := HE2.out.cell 0
  have le' := HE2.out.lt
  have la' := HC2.out.box.lt
  have hlk0 := hlk 0
  clear hcw hf1 hM1 HC HE HW1 e0 a1 le la
  go_wp2_with fail
  go_quiet (fail)
  go_upto_region 24 with fail
  obtain ⟨w2, hw2⟩ : ∃ w2, wc.drewN nq = w2 := ⟨_, rfl⟩
  rw [hw2]
  have HMV := hid (fun w => movesCall w)
  have HK27 := hid HK.out.kind
  have HC3 : Hid (ShC L w2 A nc ab hs vo vt m1 m2 f2) := hid (hw2 ▸ HC2.out.drewN nq)
  have HE3 : Hid (Blk w2 W.heap.size tEv #[.int .i64 e.kind, .int .i64 e.tx, .int .i64 e.thr, .int .i64 e.obj, .int .i64 e.op, .int .i64 e.key, .int .i64 e.val, .int .i64 e.ret]) := hid (hw2 ▸ HE2.out.drewN nq)
  have HW3 : Hid (Below W.heap.size W w2) := hid (hw2 ▸ below_drewN HW2.out nq)
  have k0 : w2.cell? ⟨W.heap.size, 0, none⟩ = some (.int .i64 e.kind) := HE3.out.cell 0
  have l2 : W.heap.size < w2.heap.size := HE3.out.lt
  clear hw2 e0' e1 a3 la' le' hlk hlk0 HC2 HE2 HW2
  go_cut [8] (fun s8 wx => MvIn w2 e.kind s8 wx)
  case first =>
    -- DEV<
    go_region_with (go_at_call 44; go_loud (refine (HMV.out _).mono ?_); rintro r x1 ⟨b, rfl, hM⟩; obtain ⟨mq, mn, mF, mc, hmn, hat, hl0, hl1⟩ := hM.look HK27.out (kind_ok HG.out); have HAT := hid hat; have HMN := hid hmn; clear hmn; have HB9 := hid hM.below; have k1 := HB9.out.cell (p := ⟨W.heap.size, 0, none⟩) (by simp; omega); have lx1 : W.heap.size < x1.heap.size := (by have h9 := HB9.out.size; simp at h9; omega); clear hat hM; (try (have hBk := (Blk.new w2.drew tMove #[.slice none 0 0, .nilFunc]).below HB9.out (by simp); have q0 := hBk.cell 0; have q1 := hBk.cell 1; have q2 := hBk.frozen 0; have q3 := hBk.frozen 1; have q4 := hBk.lt; simp only [World.size_drew] at q0 q1 q2 q3 q4)))
    all_goals go_wp2_with fail
    all_goals go_meet
    all_goals (first | exact mvInA HMN.out HAT.out HB9.out | exact mvInB HMN.out HAT.out HB9.out hBk)
    -- DEV>
  case rest =>
  obtain ⟨mb, q, n, F, caps, hn, rfl, hmb, hB3, hat, hbx⟩ := hcut
  obtain ⟨w3, rfl⟩ : ∃ w3 : World, w3 = wc := ⟨_, rfl⟩
  have HC4 := hid (HC3.out.call hbx)
  have HE4 := hid (HE3.out.below hbx HE3.out.lt)
  have HW4 := hid (HW3.out.trans (hbx.mono HW3.out.size))
  have HST := hid (HC4.out.st i s hd HI.out HH.out)
  have HAT := hid hat
  have hlM := hB3.lt
  have m0 := hB3.cell 0
  have m1' := hB3.cell 1
  have s7 : w3.cell? ⟨hd.b, 7, none⟩ = some (.int .i64 s.stand) := HST.out.blk.cell 7
  have s1 : w3.cell? ⟨hd.b, 1, none⟩ = some (.int .i64 s.thr) := HST.out.blk.cell 1
  have hlS := HST.out.blk.lt
  have a1 : w3.cell? ⟨ab, 1, none⟩ = some (.int .i64 A.many) := HC4.out.box.cell 1
  have hlA := HC4.out.box.lt
  have e0 := HE4.out.cell 0
  have e1 := HE4.out.cell 1
  have e2 := HE4.out.cell 2
  have e3 := HE4.out.cell 3
  have e4 := HE4.out.cell 4
  have e5 := HE4.out.cell 5
  have e6 := HE4.out.cell 6
  have e7 := HE4.out.cell 7
  have hlE := HE4.out.lt
  have HQ : Hid (∀ k, Calls Tryz.prog 45 #[.slice (some ⟨q, 0, none⟩) n n, .int .i64 s.stand] (w3.drewN k) fun r w' => r = .returned (.bool true) ∧ w' = w3.drewN k) := hid (fun k => by
    obtain ⟨q', fn', hq1, _, hq2, _⟩ := hat
    injection hq1 with hq1
    injection hq1 with hq1
    injection hq1 with hq1 _
    injection hq1 with hq1 _ _
    injection hq1 with hq1
    injection hq1 with hq1
    subst hq1
    have h9 := Tryz.slices_Contains_int q 0 n n (fromOf e.kind) s.stand (w3.drewN k) (by omega) (by have : n ≤ 4 := (by rw [hn]; unfold fromOf; split <;> (try split) <;> (try split) <;> (try split) <;> simp); omega) (fun j hj => by
      have h9 := (hq2.drewN k).cell (0 + j)
      rw [h9]
      rw [Nat.zero_add]
      simp [hj])
    refine h9.mono ?_
    rintro r w' ⟨rfl, rfl⟩
    refine ⟨?_, rfl⟩
    have hin := HK.out.from
    rw [hn, List.take_length]
    simp [hin])
  clear hat hB3 hbx hn HC3 HE3 HW3 k0 l2
  go_wp2_with fail
  go_quiet ((go_at_call 45; exact Calls.quiet_of_same (HQ.out _)))
  go_upto_region 27 with fail
  refine wp_region_still_tail 8 (by kernel_rfl) (by kernel_rfl) ?_
  change wpStill _ _ (w3.drewN (nq + 1)) (fun a' => wpList _ _ _ _ a' (w3.drewN (nq + 1))) _ _
  have HC5 : Hid (ShC L (w3.drewN (nq + 1)) A nc ab hs vo vt m1 m2 f2) := hid (HC4.out.drewN _)
  have HW5 : Hid (Below W.heap.size W (w3.drewN (nq + 1))) := hid (below_drewN HW4.out _)
  have HAT5 : Hid (MvAt w2.heap.size (w3.drewN (nq + 1)) (.agg #[.slice (some ⟨q, 0, none⟩) n n, .func (.func F) #[] caps]) e.kind) := hid (HAT.out.call (below_drewN (Below.refl _ _) _))
  have y1 : (w3.drewN (nq + 1)).cell? ⟨mb, 1, none⟩ = some (.func (.func F) #[] caps) := m1'
  have ye0 : (w3.drewN (nq + 1)).cell? ⟨W.heap.size, 0, none⟩ = some (.int .i64 e.kind) := e0
  have ye1 : (w3.drewN (nq + 1)).cell? ⟨W.heap.size, 1, none⟩ = some (.int .i64 e.tx) := e1
  have ye2 : (w3.drewN (nq + 1)).cell? ⟨W.heap.size, 2, none⟩ = some (.int .i64 e.thr) := e2
  have ye3 : (w3.drewN (nq + 1)).cell? ⟨W.heap.size, 3, none⟩ = some (.int .i64 e.obj) := e3
  have ye4 : (w3.drewN (nq + 1)).cell? ⟨W.heap.size, 4, none⟩ = some (.int .i64 e.op) := e4
  have ye5 : (w3.drewN (nq + 1)).cell? ⟨W.heap.size, 5, none⟩ = some (.int .i64 e.key) := e5
  have ye6 : (w3.drewN (nq + 1)).cell? ⟨W.heap.size, 6, none⟩ = some (.int .i64 e.val) := e6
  have ye7 : (w3.drewN (nq + 1)).cell? ⟨W.heap.size, 7, none⟩ = some (.int .i64 e.ret) := e7
  have ya : (w3.drewN (nq + 1)).cell? ⟨ab, 1, none⟩ = some (.int .i64 A.many) := a1
  generalize w3.drewN (nq + 1) = w5 at HC5 HW5 HAT5 y1 ye0 ye1 ye2 ye3 ye4 ye5 ye6 ye7 ya ⊢
  clear HC4 HE4 HW4 HST HAT hlM m0 m1' s7 s1 hlS a1 hlA e0 e1 e2 e3 e4 e5 e6 e7 hlE HQ
  have HB5 : Hid (L ≤ w5.heap.size) := hid (by have := HC5.out.box.lt; have := HC5.out.le; omega)
  obtain ⟨F', caps', hFe, hent, hcall⟩ := doAny HK.out HAT5.out HB5.out (HC5.out.st i s hd HI.out HH.out) HDL.out
  injection hFe with hF1 _ hF2
  injection hF1 with hF1
  subst hF1 hF2
  have HCALL := hid hcall
  clear hcall
  simp only [List.take_succ_cons, List.take_zero, List.drop_succ_cons, List.drop_zero]
  iterate 8 still_step
  refine wpStill_nil ?_
  go_wp2_with fail
  refine Calls.mono (HE9.out ▸ HCALL.out) ?_
  rintro r w6 ⟨rfl, vd', hst', hvs, hon⟩
  have hS6 : ∀ x ∈ hd.b :: hd.vd.ownBlock.toList, x = hd.b ∨ hd.vd.ownBlock = some x := by
    intro x hx
    simp only [List.mem_cons, Option.mem_toList] at hx
    exact hx
  have HST5 := hid (HC5.out.st i s hd HI.out HH.out)
  have HC6 := hid (HC5.out.upd HI.out HH.out hon hS6 hst' hvs HK.out.id)
  have HB6 : Hid (Below L W w6) := hid ((HW5.out.mono (by have := H.out.le; omega)).trans (hon.below_of HB5.out (fun x hx => by
    rcases hS6 x hx with rfl | h
    · exact HST5.out.le
    · exact (row_own HST5.out.row h).1)))
  have s7 : w6.cell? ⟨hd.b, 7, none⟩ = some (.int .i64 s'.stand) := hst'.blk.cell 7
  have s1 : w6.cell? ⟨hd.b, 1, none⟩ = some (.int .i64 s'.thr) := hst'.blk.cell 1
  have lS := hst'.blk.lt
  have b1 : w6.cell? ⟨ab, 1, none⟩ = some (.int .i64 A.many) := HC6.out.box.cell 1
  have b4 : w6.cell? ⟨ab, 4, none⟩ = some (.map (some m2)) := HC6.out.box.cell 4
  have bf := HC6.out.box.frozen 1
  have lA := HC6.out.box.lt
  have hw1 : IntKind.i64.wrap ((A.many : Int) + 1) = (A.many : Int) + 1 := by rw [IntKind.wrap_i64]; omega
  clear hst' hvs hon hS6 y1 ye0 ye1 ye2 ye3 ye4 ye5 ye6 ye7 ya HCALL hent HW5 HAT5 HC5 HB5
  by_cases h5 : s'.stand = 5
  · have q5 : (s'.stand == 5) = true := by simpa using h5
    have HU5 := hid (HU.out h5)
    have H5 := hid h5
    clear h5 hw1
    go_wp2_with fail
    obtain ⟨n9, hn9, hM2⟩ := HC6.out.buM
    have hthr9 : s'.thr = s.thr := HK.out.thr
    rw [hthr9] at s1
    have HTHR := hid hthr9
    obtain ⟨w7, hdel, hM7, ht7⟩ := (hM2.drew).drop underSm (k := s.thr) (by have := HTH.out; omega) (by have := HTH.out; omega) 0
    have HC7 : Hid (ShC L w6.drew ⟨A.many, A.sts.set i s'⟩ nc ab (hs.set i ⟨hd.b, vd'⟩) vo vt m1 m2 f2) := hid (HC6.out.drewN 1)
    have HC8 := hid (HC7.out.drop hn9 hM7 ht7)
    have HB8 : Hid (Below L w6.drew w7) := hid ((Below.refl L w6.drew).grown ht7.grown (by have := HC6.out.le; have := HC6.out.box.lt; simp; omega) (fun k e => by injection e with e; subst e; exact H.out.m2l))
    clear hthr9 hM2 hM7 ht7 hn9
    refine wp_region_still_tail 9 (by kernel_rfl) (by kernel_rfl) ?_
    change wpStill _ _ w6.drew (fun a' => wpList _ _ _ _ a' w6.drew) _ _
    have y4 : w6.drew.cell? ⟨ab, 4, none⟩ = some (.map (some m2)) := b4
    have y1 : w6.drew.cell? ⟨hd.b, 1, none⟩ = some (.int .i64 s.thr) := s1
    have hB6 := HB6.out.drew
    generalize w6.drew = w8 at hdel HC7 HB8 y4 y1 hB6 ⊢
    have HB9 := hid (hB6.trans HB8.out)
    have x1 : w7.cell? ⟨ab, 1, none⟩ = some (.int .i64 A.many) := HC8.out.box.cell 1
    have xf := HC8.out.box.frozen 1
    have xl := HC8.out.box.lt
    clear hB6 b4 s1 s7 lS b1 bf lA
    simp only [List.take_succ_cons, List.take_zero, List.drop_succ_cons, List.drop_zero]
    iterate 9 still_step
    refine wpStill_nil ?_
    have hw1 : IntKind.i64.wrap ((A.many : Int) + 1) = (A.many : Int) + 1 := by rw [IntKind.wrap_i64]; omega
    go_wp2_with fail
    go_ret
    have hX := HC8.out.more
    exact ⟨rfl, _, _, _, hX, (HBZ.out.ends (hd' := ⟨hd.b, vd'⟩) HI.out HH.out H5.out HU5.out (A.many + 1)), HB9.out.setCell (p := ⟨ab, 1, none⟩) H.out.le _⟩
  · have q5 : (s'.stand == 5) = false := by simpa using h5
    have H5 := hid h5
    clear h5
    go_wp2_with fail
    go_ret
    have hX := HC6.out.more
    exact ⟨rfl, _, _, _, hX, (HBZ.out.keep (hd' := ⟨hd.b, vd'⟩) HI.out HH.out rfl HK.out.thr HK.out.five H5.out (A.many + 1)), HB6.out.setCell (p := ⟨ab, 1, none⟩) H.out.le _⟩
end Go.Proofs.YtgfmlaflochffaaGreatDoor
