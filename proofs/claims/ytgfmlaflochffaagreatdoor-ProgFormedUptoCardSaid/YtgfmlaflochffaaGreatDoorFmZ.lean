/-
  ProgFormed answers true: the law's own walk.
-/
import Derived.Test.YtgfmlaflochffaaGreatDoorFmAZ
import Derived.StillTailTactics
import Derived.Deep.DeepCutAuto
import Derived.Deep.CutBlock
import Derived.Outline
namespace Go.Proofs.YtgfmlaflochffaaGreatDoor
open Go.RowKit Go.Maps W
attribute [local go_sem ↓] Go.wp_at_zero Go.wp_at_succ

set_option linter.unusedSimpArgs false in
set_option maxHeartbeats 32000000 in
set_option maxRecDepth 100000 in
theorem progFormed (vc vt mv : Value) (p : Pg) (ms : List Mv) (w : World) (hp : PgAt w vc vt p) (hm : ReadsM w mv ms) (hL : LaidP w) (hE : LaidE w) :
    Calls Tryz.prog 3 #[.agg #[vc, vt], mv] w fun e w' => e = .returned (.bool true) ∧ Below w.heap.size w w' := by
  obtain ⟨Ac, cc, hvc⟩ := hp.1.shape
  obtain ⟨At, ct, hvt⟩ := hp.2.shape
  obtain ⟨Am, cm, hvm⟩ := hm.shape
  subst hvc hvt hvm
  rw [ints_len] at hp ⊢
  have HW0 := hid (Lf.start hp hm hL hE)
  have HF := hid (first18 _ HW0.out.laid)
  have hN := fun W a => neq_nil 172 a (.inr (.inr rfl)) W
  clear hp hm hL hE
  go_enter Tryz.func3, Tryz.ntmps3
  go_wp2_with fail
  refine HF.out.mono ?_
  rintro e w1 ⟨rfl, hb1⟩
  have hl1 := HW0.out.call hb1
  have p0 := hl1.box.cell 0
  have p1 := hl1.box.cell 1
  have lp := hl1.box.lt
  have HS := hid (smallCall _ _ p w1 hl1.pg)
  have HW1 := hid hl1
  clear hb1 hl1 HF HW0
  go_wp2_with fail
  refine HS.out.mono ?_
  rintro e w2 ⟨v, rfl, hv, hb2⟩
  have HW2 := hid (HW1.out.call hb2)
  clear hb2 p0 p1 lp HS HW1
  rcases hv with rfl | rfl
  case inr =>
    go_wp2_with fail
    go_ret
    exact ⟨rfl, HW2.out.below⟩
  case inl =>
  by_cases hbig : 400 < ms.length
  · have t1 : decide ((400 : Int) < (ms.length : Int)) = true := by simp; omega
    have t2 : decide (400 < ms.length) = true := by simp; omega
    clear hbig
    go_wp2_with fail
    go_ret
    exact ⟨rfl, HW2.out.below⟩
  have t1 : decide ((400 : Int) < (ms.length : Int)) = false := by simp; omega
  have t2 : decide (400 < ms.length) = false := by simp; omega
  have HBIG := hid hbig
  clear hbig
  have p0 := HW2.out.box.cell 0
  have p1 := HW2.out.box.cell 1
  have lp := HW2.out.box.lt
  cases hok : pgOk p with
  | false =>
    have HSN := hid (startNo _ _ p w2 HW2.out.pg HW2.out.laid hok)
    clear hok
    go_wp2_with fail
    refine HSN.out.mono ?_
    rintro e w3 ⟨a, rfl, hb3⟩
    have HW3 := hid (HW2.out.call hb3)
    clear hb3 HSN p0 p1 lp
    go_wp2_with fail
    go_ret
    exact ⟨rfl, HW3.out.below⟩
  | true =>
  have HSY := hid (startYes _ _ p w2 HW2.out.pg HW2.out.laid hok)
  have HOK := hid hok
  clear hok
  go_wp2_with fail
  refine HSY.out.mono ?_
  rintro e w3 ⟨wb, vc', vt', g, gn, gc, rfl, hwk, hb3⟩
  have HF0 := hid (show Fm w w2 w3 _ _ _ p ms 0 wb (Wd.start p) ⟨0, []⟩ vc' vt' g gn gc (.slice none 0 0) from ⟨HW2.out, hwk, Jd.start HOK.out, hb3⟩)
  clear hwk hb3 HSY p0 p1 lp
  go_upto_block 0 with fail
  go_cut [8] from 52 to 87 (fun _ wx => ∃ (d : Wd) (A : Au) (ve : Value), Fm w w2 wx (.slice Ac p.cells.length cc) (.slice At p.threads.length ct) (.slice Am ms.length cm) p ms 400 wb d A vc' vt' g gn gc ve)
  case first =>
    -- DEV<
    go_wp2_with fail
    go_loopw [8] (fun si wr => ∃ (k : Nat) (d : Wd) (A : Au) (ve : Value), si = .int .i64 k ∧ k ≤ ms.length ∧ Fm w w2 wr (.slice Ac p.cells.length cc) (.slice At p.threads.length ct) (.slice Am ms.length cm) p ms k wb d A vc' vt' g gn gc ve) (fun si _ => 401 - (intOf si).toNat)
    case atStart => exact ⟨0, _, _, _, rfl, Nat.zero_le _, HF0.out⟩
    case round =>
      obtain ⟨k, d, A, ve, rfl, hk, hfm⟩ := hrel
      have HFM := hid hfm
      have h400 : ms.length ≤ 400 := by have := HBIG.out; omega
      by_cases hlt : k < ms.length
      · obtain ⟨m, hmk⟩ : ∃ m, ms[k]? = some m := ⟨ms[k], List.getElem?_eq_getElem hlt⟩
        obtain ⟨bm, om, rfl, lm, m0, m1, m2, m3, hk1, hk2⟩ := hfm.lfW.ms.at hmk
        obtain ⟨A', hj⟩ := hfm.jd.move m
        have HJ := hid hj
        have i0 : (0 : Int) ≤ (k : Int) := by omega
        have i1 : (k : Int) < (ms.length : Int) := by omega
        have hes9 : d.es.length ≤ 100000 := by have := hfm.jd.len; have := HBIG.out; omega
        by_cases hm1 : m.kind = 1
        · have q1 : (m.kind == 1) = true := by simpa using hm1
          have HNX := hid (nextCall hfm.wk hfm.jd.ok hes9 m.thr)
          have HMV : Hid (d.move m = (d.next m.thr).2) := hid (by unfold Wd.move; rw [if_pos hm1])
          clear hm1 hmk hfm hj hes9 HF0
          go_wp2_with fail
          refine HNX.out.mono ?_
          rintro e w4 ⟨ve', rfl, hwk, hon, _⟩
          have HF1 := hid (HFM.out.step hwk hon (by have := HJ.out; rw [HMV.out] at this; exact this))
          clear hwk hon HNX m0 m1 m2 m3
          go_wp2_with fail
          go_roundw
          case rel => exact ⟨k + 1, _, _, _, by go_num, by omega, HF1.out⟩
          case measure => simp [intOf]; omega
        · have q1 : (m.kind == 1) = false := by simpa using hm1
          have HMV : Hid (d.move m = (d.answer m.thr m.val m.ab).2) := hid (by unfold Wd.move; rw [if_neg hm1])
          clear hm1 hmk hfm hj HF0
          go_upto_region 12 with fail
          refine wp_region_still_tail 16 (by kernel_rfl) (by kernel_rfl) ?_
          change wpStill _ _ wr.drew (fun a' => wpList _ _ _ _ a' wr.drew) _ _
          have HFD : Hid (Fm w w2 wr.drew (.slice Ac p.cells.length cc) (.slice At p.threads.length ct) (.slice (some ⟨bm, om, none⟩) ms.length cm) p ms k wb d A vc' vt' g gn gc ve) := hid (HFM.out.call (Below.refl _ _).drew)
          have m1' : wr.drew.cell? ⟨bm, om + k * 4 + 1, none⟩ = some (.int .i64 m.thr) := m1
          have m2' : wr.drew.cell? ⟨bm, om + k * 4 + 2, none⟩ = some (.int .i64 m.val) := m2
          have m3' : wr.drew.cell? ⟨bm, om + k * 4 + 3, none⟩ = some (.bool m.ab) := m3
          generalize wr.drew = w9 at HFD m1' m2' m3' ⊢
          have HAN := hid (answerCall HFD.out.wk HFD.out.jd.ok hes9 m.thr m.val m.ab)
          clear m0 m1 m2 m3 lm hes9
          simp only [List.take_succ_cons, List.take_zero, List.drop_succ_cons, List.drop_zero]
          iterate 16 still_step
          refine wpStill_nil ?_
          go_wp2_with fail
          refine HAN.out.mono ?_
          rintro e w4 ⟨ve', rfl, hwk, hon, _⟩
          have HF1 := hid (HFD.out.step hwk hon (by have := HJ.out; rw [HMV.out] at this; exact this))
          clear hwk hon HAN m1' m2' m3'
          go_wp2_with fail
          go_roundw
          case rel => exact ⟨k + 1, _, _, _, by go_num, by omega, HF1.out⟩
          case measure => simp [intOf]; omega
      · have q3 : decide (k < ms.length) = false := by simpa using hlt
        have hke : k = ms.length := by omega
        clear hlt HF0
        go_wp2_with fail
        go_meet
        exact ⟨d, A, ve, HFM.out.lf, HFM.out.wk, ⟨HFM.out.jd.pg, HFM.out.jd.ok, HFM.out.jd.inv, HFM.out.jd.runs, by have := HFM.out.jd.len; have := HBIG.out; omega⟩, HFM.out.below⟩
    -- DEV>
  case rest =>
  obtain ⟨d, A, ve, hfm⟩ := hcut
  obtain ⟨Y, rfl⟩ : ∃ Y : World, Y = wc := ⟨_, rfl⟩
  have HFM := hid hfm
  obtain ⟨hc1, hc4, ht1, ht4, hcs, hts⟩ := pgOk_parts HOK.out
  have HCS := hid hcs
  have lp := hfm.lfW.box.lt
  clear hfm HF0 hcs hts
  obtain ⟨i0', hi, hz0, hz1, hz2⟩ := info_parts infoOb
  go_upto_block 2 with fail
  go_cut [9, 10] from 88 to 103 (fun s9 _ wx => wx.ownsRow Y.heap.size tOb 2 s9 p.cells.length (flatOb p.cells) ∧ Below Y.heap.size Y wx)
  case first =>
    -- DEV<
    go_wp2_with fail
    go_loopw [9, 10] (fun sv si wr => ∃ (k : Nat), si = .int .i64 k ∧ k ≤ p.cells.length ∧ wr.ownsRow Y.heap.size tOb 2 sv k (flatOb (p.cells.take k)) ∧ Below Y.heap.size Y wr) (fun _ si _ => 5 - (intOf si).toNat)
    case atStart => exact ⟨0, rfl, Nat.zero_le _, ⟨rfl, .inl ⟨rfl, rfl⟩⟩, Below.refl _ _⟩
    case round =>
      obtain ⟨k, rfl, hk, hown, hbr⟩ := hrel
      have HOW := hid hown
      have HBR := hid hbr
      have hfr := HFM.out.call hbr
      have p0 := hfr.lfW.box.cell 0
      have lpr := hfr.lfW.box.lt
      by_cases hlt : k < p.cells.length
      · obtain ⟨x, hx⟩ : ∃ x, p.cells[k]? = some x := ⟨p.cells[k], List.getElem?_eq_getElem hlt⟩
        obtain ⟨bc, oc, rfl, x0, hk1, hk2⟩ := reads_at hfr.lfW.pg.1 (j := k) (u := .int .i64 x) (by simp [ints, hx])
        have lx := World.block_lt_of_cell? wr _ x0
        have HTK : Hid (flatOb (p.cells.take (k + 1)) = flatOb (p.cells.take k) ++ obArr x) := hid (by rw [List.take_add_one, hx]; simp [flatOb])
        have i0 : (0 : Int) ≤ (k : Int) := by omega
        have i1 : (k : Int) < (p.cells.length : Int) := by omega
        obtain ⟨Ar, cr, rfl⟩ := row_shape hown
        have HYW := hid hbr.size
        clear hown hbr hfr hx
        go_wp2_with (at_builtin; refine wpList_append_own_at _ rfl (.tmp 95) (.tmp 102) 41 rfl Y.heap.size tOb i0' (.agg #[.int .i64 0, .int .i64 0]) 2 16 Tryz.underlying41 hi hz0 hz1 hz2 rfl (by decide) (.slice Ar k cr) k (flatOb (p.cells.take k)) rfl (HOW.out.alloc _) ⟨wr.heap.size, 0, none⟩ 1 1 (obArr x) rfl rfl (World.news_of_block (heap_alloc_new wr _)) (by simp [obArr, Value.oneCell']) (by unfold maxLen; omega) (by omega) (by have := HYW.out; simp; omega) ?_; intro v6 w6 hown6 hgrow6 _ hat6)
        have HO6 := hid (show w6.ownsRow Y.heap.size tOb 2 v6 (k + 1) (flatOb (p.cells.take (k + 1))) from by rw [HTK.out]; exact hown6)
        have HB6 := hid ((HBR.out.alloc HYW.out _).grown hgrow6 (by have := HYW.out; simp; omega) (fun x hx => (row_own HOW.out hx).1))
        clear hown6 hgrow6 hat6
        go_wp2_with fail
        go_roundw
        case rel => exact ⟨k + 1, by go_num, by omega, HO6.out, HB6.out⟩
        case measure => simp [intOf]; omega
      · have q3 : decide (k < p.cells.length) = false := by simpa using hlt
        have hke : k = p.cells.length := by omega
        subst hke
        clear hlt hown hbr hfr
        go_wp2_with fail
        go_meet
        exact ⟨by have := HOW.out; rwa [List.take_length] at this, HBR.out⟩
    -- DEV>
  case rest =>
  obtain ⟨hown, hbr⟩ := hcut
  obtain ⟨O, rfl⟩ : ∃ O : World, O = wc := ⟨_, rfl⟩
  obtain ⟨Ao, co, rfl⟩ := row_shape hown
  have HFO := hid (HFM.out.call hbr)
  have HOW := hid hown
  have HBO := hid hbr
  have hes : d.es.length ≤ 400 := HFM.out.jd.len
  have HEV := hid (eventsCall HFO.out.wk (by omega))
  clear hown hbr hi hz0 hz1 hz2
  go_wp2_with fail
  refine HEV.out.mono ?_
  rintro e w5 ⟨q, rfl, hq, hown5, hon5⟩
  have hb5 : Below O.heap.size O w5 := hon5.below_of (Nat.le_refl _) (fun x hx => by cases hx)
  have HF5 := hid (HFO.out.call hb5)
  have HB5 := hid hb5
  have HOB := hid HBO.out.size
  have HEL := hid hown5
  have HTB := hid (tableCall (B := Y.heap.size) (row_call HOW.out hb5) (row_base hown5 HOB.out) (by omega) (by omega) hes (cell_bnd HCS.out) HF5.out.jd.runs HF5.out.lfW.laidE)
  have HQ := hid hq
  clear hown5 hon5 hb5 HEV hq
  go_wp2_with fail
  refine HTB.out.mono ?_
  rintro e w6 ⟨v6, ps, rfl, hps, hds, hown6, hb6⟩
  obtain ⟨Av, cv, rfl⟩ := row_shape hown6
  have HPS := hid hps
  have HDS := hid hds
  have HTX := hid hown6
  have HB6 := hid hb6
  have HF6 := hid (HF5.out.call hb6)
  have hEL6 := hid (row_call HEL.out hb6)
  have p1 := HF6.out.lfW.box.cell 1
  have lp6 := HF6.out.lfW.box.lt
  obtain ⟨i1', gi, gz0, gz1, gz2⟩ := info_parts infoI
  have hmk : ∀ W : World, (Instr.makeSlice 22 (.int .i64 (p.threads.length : Int)) (.int .i64 (p.threads.length : Int))).run Tryz.prog W = .ok (.slice (some ⟨W.heap.size, 0, none⟩) p.threads.length p.threads.length) (W.alloc (.cells (madeCells #[Value.int .i64 0] p.threads.length) tI)) := fun W => by
    have h := run_make (P := Tryz.prog) W 22 3 i1' (.int .i64 0) Tryz.underlying22 gi gz0 .i64 .i64 p.threads.length p.threads.length (by omega) (by omega) (by rw [gz2]; omega) (by omega)
    simpa [gz1, Value.cells] using h
  clear hps hds hown6 hb6 HTB lp gi gz0 gz1 gz2
  go_upto_block 4 with fail
  have HNB0 : Hid (Blk (w6.alloc (.cells (madeCells #[Value.int .i64 0] p.threads.length) tI)) w6.heap.size tI (ints (cnts (A.sts.take 0) p.threads.length)).toArray) := hid (by have h9 := Blk.new w6 tI (madeCells #[Value.int .i64 0] p.threads.length); rw [made_ints] at h9 ⊢; exact h9)
  have HZ6 : Hid (Below w6.heap.size w6 (w6.alloc (.cells (madeCells #[Value.int .i64 0] p.threads.length) tI))) := hid ((Below.refl _ _).alloc (Nat.le_refl _) _)
  generalize w6.alloc (.cells (madeCells #[Value.int .i64 0] p.threads.length) tI) = Z at HNB0 HZ6 ⊢
  have hpl : p.threads.length ≤ 4 := ht4
  have hslen : A.sts.length ≤ 400 := by have h9 := HFM.out.jd.runs.bnd; have h10 := h9.1.len; have h11 := h9.2; omega
  clear p1 lp6 hmk hEL6
  go_cut [15, 16, 17, 18, 19, 20] from 119 to 209 (fun _ _ _ _ _ _ wx => Below w6.heap.size w6 wx ∧ Blk wx w6.heap.size tI (ints (cnts A.sts p.threads.length)).toArray)
  case first =>
    -- DEV<
    go_wp2_with fail
    go_loopw [15] (fun si wr => ∃ (i : Nat), si = .int .i64 i ∧ i ≤ A.sts.length ∧ Below w6.heap.size w6 wr ∧ Blk wr w6.heap.size tI (ints (cnts (A.sts.take i) p.threads.length)).toArray) (fun si _ => 401 - (intOf si).toNat)
    case atStart => exact ⟨0, rfl, Nat.zero_le _, HZ6.out, HNB0.out⟩
    case round =>
      obtain ⟨i, rfl, hi, hbr, hnb⟩ := hrel
      have HBR := hid hbr
      have HNB := hid hnb
      have lnb := hnb.lt
      by_cases hlt : i < A.sts.length
      · obtain ⟨s, hs⟩ : ∃ s, A.sts[i]? = some s := ⟨A.sts[i], List.getElem?_eq_getElem hlt⟩
        obtain ⟨k, j, acts, l, hfine⟩ := HFM.out.jd.fine hs
        have hpg := HFM.out.jd.pg
        have hkl : k < p.threads.length := by have := hfine.kl; rw [hpg] at this; exact this
        have htl : p.threads[k]? = some l := by have := hfine.tl; rw [hpg] at this; exact this
        obtain ⟨ac, hac, hpi⟩ : ∃ x, ps[i]? = some x ∧ x.1 = s := by
          have h9 : (ps.map Prod.fst)[i]? = some s := by rw [HPS.out]; exact hs
          rw [List.getElem?_map] at h9
          obtain ⟨x, hx, hxe⟩ := Option.map_eq_some_iff.1 h9
          exact ⟨x, hx, hxe⟩
        obtain ⟨da, dc, hda⟩ := HDS.out ac (List.mem_of_getElem? hac)
        rw [hpi] at hda
        obtain ⟨gv, cv', hgv, _, lgv, hcv⟩ := row_slice HTX.out (by omega)
        injection hgv with hg1 _ hg2
        subst hg1 hg2
        have hz := tx_at HTX.out hac hlt
        rw [hpi, hda] at hz
        have z0 : wr.cell? ⟨gv, i * 7, none⟩ = some (.int .i64 s.id) := (hbr.cell (p := ⟨gv, i * 7 + 0, none⟩) lgv).trans (hz 0 (by omega))
        have z1 : wr.cell? ⟨gv, i * 7 + 1, none⟩ = some (.int .i64 (k : Int)) := by rw [← hfine.thr]; exact (hbr.cell (p := ⟨gv, i * 7 + 1, none⟩) lgv).trans (hz 1 (by omega))
        have z4 : wr.cell? ⟨gv, i * 7 + 4, none⟩ = some (.int .i64 s.fin) := (hbr.cell (p := ⟨gv, i * 7 + 4, none⟩) lgv).trans (hz 4 (by omega))
        have z6 : wr.cell? ⟨gv, i * 7 + 6, none⟩ = some (.slice da s.deeds.length dc) := (hbr.cell (p := ⟨gv, i * 7 + 6, none⟩) lgv).trans (hz 6 (by omega))
        have lgr : gv < wr.heap.size := by have := hbr.size; omega
        have n0 : wr.cell? ⟨w6.heap.size, k, none⟩ = some (.int .i64 (j : Int)) := by
          rw [hnb.cell]
          simp only [List.getElem?_toArray, ints, List.getElem?_map]
          rw [cnts_at _ _ _ hkl, hfine.nth]
          rfl
        have nf := hnb.frozen k
        have hfr := HF6.out.call hbr
        have p1 := hfr.lfW.box.cell 1
        have lpr := hfr.lfW.box.lt
        obtain ⟨bt, ot, ut, rfl, ht0, hrt, _, hct⟩ := hfr.lfW.pg.2.at htl
        obtain ⟨Au, cu, rfl⟩ := hrt.shape
        obtain ⟨bu, ou, uu, rfl, hu0, hru, hjl, hcu⟩ := hrt.at hfine.al
        obtain ⟨Aa, ca, rfl⟩ := hru.shape
        have lbt := World.block_lt_of_cell? wr _ ht0
        have lbu := World.block_lt_of_cell? wr _ hu0
        have HPL := hid (fun w => placeGood hfine.id hfine.j3 (by omega) w)
        have HTXC := hid (fun (W : World) (hb : Below w6.heap.size w6 W) => txCall (HF6.out.call hb).wk (HF6.out.call hb).jd.ok (k : Int))
        have HFI := hid hfine
        have i0 : (0 : Int) ≤ (i : Int) := by omega
        have i1 : (i : Int) < (A.sts.length : Int) := by omega
        have k0 : (0 : Int) ≤ (k : Int) := by omega
        have k1 : (k : Int) < (p.threads.length : Int) := by omega
        have j0 : (0 : Int) ≤ (j : Int) := by omega
        have j1 : (j : Int) < (l.length : Int) := by omega
        have q1 : decide (p.threads.length ≤ k) = false := by simpa using hkl
        have q1' : decide ((p.threads.length : Int) ≤ (k : Int)) = false := by simpa using hkl
        have hdd := hfine.deeds
        have hal : acts.length ≤ 1000 := by
          have h9 := (txOk_parts ((thrOk_parts ((pgOk_parts HOK.out).2.2.2.2.2 l (List.mem_of_getElem? htl))).2 acts (List.mem_of_getElem? hfine.al))).2.1
          omega
        have hj3 := hfine.j3
        have q2 : decide (2 * (acts.length : Int) < (s.deeds.length : Int)) = false := by simp; omega
        have HS := hid hs
        clear hbr hnb hs hfine hpg htl hac hpi hda hz hfr hrt hru
        go_wp2_with fail
        refine (HPL.out _).mono ?_
        rintro e w7 ⟨rfl, rfl⟩
        go_wp2_with fail
        go_quiet (fail)
        go_upto_region 29 with fail
        have hN1 : Blk (wr.drewN nq) w6.heap.size tI (ints (cnts (A.sts.take i) p.threads.length)).toArray := HNB.out.drewN nq
        have hN2 := hN1.put k (.int .i64 ((j : Int) + 1))
        have HN3 : Hid (Blk ((wr.drewN nq).setCell ⟨w6.heap.size, k, none⟩ (.int .i64 ((j : Int) + 1))) w6.heap.size tI (ints (cnts (A.sts.take (i + 1)) p.threads.length)).toArray) := hid (by
          have e9 : A.sts.take (i + 1) = A.sts.take i ++ [s] := by rw [List.take_add_one, HS.out]; rfl
          have e8 : ints (cnts (A.sts.take (i + 1)) p.threads.length) = (ints (cnts (A.sts.take i) p.threads.length)).set k (.int .i64 ((j : Int) + 1)) := by
            rw [e9, cnts_snoc _ _ s k HFI.out.thr, HFI.out.nth]
            simp only [ints, List.map_set]
          rw [e8]
          simpa using hN2)
        have HB3 : Hid (Below w6.heap.size w6 ((wr.drewN nq).setCell ⟨w6.heap.size, k, none⟩ (.int .i64 ((j : Int) + 1)))) := hid ((below_drewN HBR.out nq).setCell (p := ⟨w6.heap.size, k, none⟩) (Nat.le_refl _) _)
        have hTX3 := HTXC.out _ HB3.out
        have z03 : ((wr.drewN nq).setCell ⟨w6.heap.size, k, none⟩ (.int .i64 ((j : Int) + 1))).cell? ⟨gv, i * 7, none⟩ = some (.int .i64 s.id) := by rw [World.cell?_setCell_far _ _ _ _ (show w6.heap.size ≠ gv by omega)]; exact z0
        have z43 : ((wr.drewN nq).setCell ⟨w6.heap.size, k, none⟩ (.int .i64 ((j : Int) + 1))).cell? ⟨gv, i * 7 + 4, none⟩ = some (.int .i64 s.fin) := by rw [World.cell?_setCell_far _ _ _ _ (show w6.heap.size ≠ gv by omega)]; exact z4
        clear hN1 hN2 q1 q1' q2 ht0 hu0
        by_cases hf : s.fin < 0
        · have q5 : decide (s.fin < 0) = true := by simpa using hf
          rw [HFI.out.tx hf] at hTX3
          have HTX3 := hid hTX3
          clear hTX3 hf
          go_wp2_with fail
          refine HTX3.out.mono ?_
          rintro e w8 ⟨rfl, mm, rfl⟩
          go_wp2_with fail
          go_roundw
          case rel => exact ⟨i + 1, by go_num, by omega, below_drewN HB3.out _, HN3.out.drewN _⟩
          case measure => simp [intOf]; omega
        · have q5 : decide (s.fin < 0) = false := by simpa using hf
          have HTX3 := hid hTX3
          clear hTX3 hf
          go_wp2_with fail
          refine HTX3.out.mono ?_
          rintro e w8 ⟨rfl, mm, rfl⟩
          go_wp2_with fail
          go_roundw
          case rel => exact ⟨i + 1, by go_num, by omega, below_drewN HB3.out _, HN3.out.drewN _⟩
          case measure => simp [intOf]; omega
      · have q3 : decide (i < A.sts.length) = false := by simpa using hlt
        have hie : i = A.sts.length := by omega
        subst hie
        clear hlt hbr hnb
        go_wp2_with fail
        go_meet
        exact ⟨HBR.out, by have := HNB.out; rwa [List.take_length] at this⟩
    -- DEV>
  case rest =>
  obtain ⟨hb3, hn3⟩ := hcut
  obtain ⟨V, rfl⟩ : ∃ V : World, V = wc := ⟨_, rfl⟩
  have HNV := hid hn3
  have HBV : Hid (Below O.heap.size O V) := hid (HB5.out.trans ((HB6.out.mono HB5.out.size).trans (hb3.mono (by have h1 := HB5.out.size; have h2 := HB6.out.size; omega))))
  have hrq := row_call (row_call HEL.out HB6.out) hb3
  have HQV : Hid (d.es.length = 0 ∨ ∃ cs, Blk V q tEv cs ∧ cs.size = d.es.length * 8) := hid (by
    rcases hrq.2 with ⟨e9, _⟩ | ⟨q', cap, cur, e9, _, hg9, hcap, _, hsz, _⟩
    · cases e9
    · injection e9 with e9 _ e10
      injection e9 with e9
      injection e9 with e9
      subst e9 e10
      exact .inr ⟨cur, hg9, hsz⟩)
  clear hb3 hn3 hrq
  go_upto_block 6 with fail
  go_cut [21] from 210 to 219 (fun _ wx => Below O.heap.size O wx ∧ Blk wx w6.heap.size tI (ints (cnts A.sts p.threads.length)).toArray)
  case first =>
    -- DEV<
    go_wp2_with fail
    go_loopw [21] (fun si wr => ∃ (j : Nat), si = .int .i64 j ∧ j ≤ d.es.length ∧ Below O.heap.size O wr ∧ Blk wr w6.heap.size tI (ints (cnts A.sts p.threads.length)).toArray ∧ (d.es.length = 0 ∨ ∃ cs, Blk wr q tEv cs ∧ cs.size = d.es.length * 8)) (fun si _ => 401 - (intOf si).toNat)
    case atStart => exact ⟨0, rfl, Nat.zero_le _, HBV.out, HNV.out, HQV.out⟩
    case round =>
      obtain ⟨j, rfl, hj, hbr, hnb, hq9⟩ := hrel
      have HBR := hid hbr
      have HNB := hid hnb
      by_cases hlt : j < d.es.length
      · rcases hq9 with hq9 | ⟨cs, hqb, hsz⟩
        · omega
        · have HQB := hid hqb
          have HSZ := hid hsz
          have hne : w6.heap.size ≠ q := hnb.apart hqb (by decide)
          have HNE := hid hne
          obtain ⟨v0, hv0⟩ : ∃ v0, wr.cell? ⟨q, j * 8 + 1, none⟩ = some v0 := ⟨cs[j * 8 + 1]'(by omega), by rw [hqb.cell]; exact Array.getElem?_eq_getElem _⟩
          have hfz := hqb.frozen (j * 8 + 1)
          have lq := hqb.lt
          have i0 : (0 : Int) ≤ (j : Int) := by omega
          have i1 : (j : Int) < (d.es.length : Int) := by omega
          clear hbr hnb hqb hsz hne
          go_wp2_with fail
          go_roundw
          case rel => exact ⟨j + 1, by go_num, by omega, HBR.out.setCell (p := ⟨q, j * 8 + 1, none⟩) HQ.out _, HNB.out.far (p := ⟨q, j * 8 + 1, none⟩) HNE.out _, .inr ⟨_, HQB.out.put (j * 8 + 1) _, by simpa using HSZ.out⟩⟩
          case measure => simp [intOf]; omega
      · have q3 : decide (j < d.es.length) = false := by simpa using hlt
        clear hlt hbr hnb hq9
        go_wp2_with fail
        go_meet
        exact ⟨HBR.out, HNB.out⟩
    -- DEV>
  case rest =>
  obtain ⟨hb4, hn4⟩ := hcut
  obtain ⟨V4, rfl⟩ : ∃ V4 : World, V4 = wc := ⟨_, rfl⟩
  have HN4 := hid hn4
  have HB4 := hid hb4
  have HF4 := hid (HFO.out.call hb4)
  have lnb := hn4.lt
  clear hb4 hn4 HNV HBV HQV
  go_upto_block 8 with fail
  go_cut [22, 23, 24] from 220 to 250 (fun _ _ _ wx => ∃ m, wx = V4.drewN m)
  case first =>
    -- DEV<
    go_wp2_with fail
    go_loopw [22] (fun si wr => ∃ (k m : Nat), si = .int .i64 k ∧ k ≤ p.threads.length ∧ wr = V4.drewN m) (fun si _ => 5 - (intOf si).toNat)
    case atStart => exact ⟨0, 0, rfl, Nat.zero_le _, rfl⟩
    case round =>
      obtain ⟨k, m, rfl, hk, rfl⟩ := hrel
      by_cases hlt : k < p.threads.length
      · obtain ⟨l, htl⟩ : ∃ l, p.threads[k]? = some l := ⟨p.threads[k], List.getElem?_eq_getElem hlt⟩
        have hfin := HF4.out.jd.fin (k := k) (l := l) (by rw [HF4.out.jd.pg]; exact htl)
        have n0 : V4.cell? ⟨w6.heap.size, k, none⟩ = some (.int .i64 (cntOf A.sts k : Int)) := by
          rw [HN4.out.cell]
          simp only [List.getElem?_toArray, ints, List.getElem?_map]
          rw [cnts_at _ _ _ hlt]
          rfl
        have p1 := HF4.out.lfW.box.cell 1
        have lp4 := HF4.out.lfW.box.lt
        obtain ⟨bt, ot, ut, rfl, ht0, hrt, _, hct⟩ := HF4.out.lfW.pg.2.at htl
        obtain ⟨Au, cu, rfl⟩ := hrt.shape
        have lbt := World.block_lt_of_cell? V4 _ ht0
        have HTX4 := hid (fun (n : Nat) => txCall (HF4.out.call (below_drewN (Below.refl _ _) n)).wk HF4.out.jd.ok (k : Int))
        have HDN4 := hid (fun (n : Nat) => doneCall (HF4.out.call (below_drewN (Below.refl _ _) n)).wk HF4.out.jd.ok (k : Int))
        have i0 : (0 : Int) ≤ (k : Int) := by omega
        have i1 : (k : Int) < (p.threads.length : Int) := by omega
        clear htl hrt
        by_cases he : cntOf A.sts k = l.length
        · have r1 : ((cntOf A.sts k : Int) == (l.length : Int)) = true := by simp; omega
          cases hb : (d.txOf (k : Int)).2 with
          | true =>
            have hdv : d.doneOf (k : Int) = false := by rw [hfin, hb]; simp
            have HT := hid (fun (n : Nat) => (HTX4.out n).mono (R' := fun e w' => e = .returned (.tuple #[.int .i64 (d.txOf (k : Int)).1, .bool true]) ∧ ∃ n', w' = V4.drewN n') (fun _ _ h9 => ⟨by rw [h9.1, hb], by obtain ⟨_, mm, h⟩ := h9; exact ⟨_, h.trans (drewN_add _ _ _)⟩⟩))
            have HD := hid (fun (n : Nat) => (HDN4.out n).mono (R' := fun e w' => e = .returned (.bool false) ∧ ∃ m, w' = (V4.drewN n).drewN m) (fun _ _ h9 => ⟨by rw [h9.1, hdv], h9.2⟩))
            clear hfin hb hdv he HTX4 HDN4
            go_wp2_with fail
            refine (HT.out _).mono ?_
            rintro e w8 ⟨rfl, mm, rfl⟩
            go_wp2_with fail
            go_quiet ((go_at_call 13; first | exact quiet_more3 (HD.out _) | exact Calls.quiet_of (HD.out _)))
            go_wp2_with fail
            go_roundw
            case rel => exact ⟨k + 1, _, by go_num, by omega, rfl⟩
            case measure => simp [intOf]; omega
          | false =>
            have hdv : d.doneOf (k : Int) = true := by rw [hfin, hb]; simp [he]
            have HT := hid (fun (n : Nat) => (HTX4.out n).mono (R' := fun e w' => e = .returned (.tuple #[.int .i64 (d.txOf (k : Int)).1, .bool false]) ∧ ∃ n', w' = V4.drewN n') (fun _ _ h9 => ⟨by rw [h9.1, hb], by obtain ⟨_, mm, h⟩ := h9; exact ⟨_, h.trans (drewN_add _ _ _)⟩⟩))
            have HD := hid (fun (n : Nat) => (HDN4.out n).mono (R' := fun e w' => e = .returned (.bool true) ∧ ∃ m, w' = (V4.drewN n).drewN m) (fun _ _ h9 => ⟨by rw [h9.1, hdv], h9.2⟩))
            clear hfin hb hdv he HTX4 HDN4
            go_wp2_with fail
            refine (HT.out _).mono ?_
            rintro e w8 ⟨rfl, mm, rfl⟩
            go_wp2_with fail
            go_quiet ((go_at_call 13; first | exact quiet_more3 (HD.out _) | exact Calls.quiet_of (HD.out _)))
            go_wp2_with fail
            go_roundw
            case rel => exact ⟨k + 1, _, by go_num, by omega, rfl⟩
            case measure => simp [intOf]; omega
        · have r1 : ((cntOf A.sts k : Int) == (l.length : Int)) = false := by simp; omega
          have hdv : d.doneOf (k : Int) = false := by rw [hfin]; simp; omega
          have HT := hid (fun (n : Nat) => (HTX4.out n).mono (R' := fun e w' => e = .returned (.tuple #[.int .i64 (d.txOf (k : Int)).1, .bool (d.txOf (k : Int)).2]) ∧ ∃ n', w' = V4.drewN n') (fun _ _ h9 => ⟨h9.1, by obtain ⟨_, mm, h⟩ := h9; exact ⟨_, h.trans (drewN_add _ _ _)⟩⟩))
          have HD := hid (fun (n : Nat) => (HDN4.out n).mono (R' := fun e w' => e = .returned (.bool false) ∧ ∃ m, w' = (V4.drewN n).drewN m) (fun _ _ h9 => ⟨by rw [h9.1, hdv], h9.2⟩))
          clear hfin hdv he HTX4 HDN4
          go_wp2_with fail
          refine (HT.out _).mono ?_
          rintro e w8 ⟨rfl, mm, rfl⟩
          go_wp2_with fail
          go_quiet ((go_at_call 13; first | exact quiet_more3 (HD.out _) | exact Calls.quiet_of (HD.out _)))
          go_wp2_with fail
          go_roundw
          case rel => exact ⟨k + 1, _, by go_num, by omega, rfl⟩
          case measure => simp [intOf]; omega
      · have q3 : decide (k < p.threads.length) = false := by simpa using hlt
        clear hlt
        go_wp2_with fail
        go_meet
        exact ⟨_, rfl⟩
    -- DEV>
  case rest =>
  obtain ⟨m5, hw5⟩ := hcut
  have HF7 : Hid (Fm w w2 wc (.slice Ac p.cells.length cc) (.slice At p.threads.length ct) (.slice Am ms.length cm) p ms 400 wb d A vc' vt' g gn gc ve) := hid (hw5 ▸ HF4.out.call (below_drewN (Below.refl _ _) m5))
  clear hw5 lnb HN4
  have HEV := hid (eventsCall HF7.out.wk (by omega))
  go_wp2_with fail
  refine HEV.out.mono ?_
  rintro e w8 ⟨q8, rfl, _, _, hon8⟩
  have hb8 := hon8.below_of (Nat.le_refl _) (fun x hx => by cases hx)
  have HF8 := hid (HF7.out.call hb8)
  have HEV8 := hid (eventsCall HF8.out.wk (by omega))
  clear hon8 hb8 HEV
  have r0 : ((d.es.length : Int) == (d.es.length : Int)) = true := by simp
  by_cases hz : d.es.length = 0
  · have r1 : ((d.es.length : Int) == 0) = true := by simpa using hz
    have r2 : (d.es.length == 0) = true := by simpa using hz
    clear hz HEV8
    go_wp2_with fail
    go_ret
    exact ⟨rfl, HF8.out.lfW.below⟩
  · have r1 : ((d.es.length : Int) == 0) = false := by simpa using hz
    have r2 : (d.es.length == 0) = false := by simpa using hz
    obtain ⟨e0, he0⟩ : ∃ e, d.es[0]? = some e := ⟨d.es[0]'(by omega), List.getElem?_eq_getElem _⟩
    have hgd := (HF8.out.jd.inv.good e0 (List.mem_of_getElem? he0)).tx
    have r3 : (e0.tx != -9) = true := by simp; omega
    have hz1 : (0 : Int) < (d.es.length : Int) := by omega
    go_wp2_with fail
    refine HEV8.out.mono ?_
    rintro e w9 ⟨q9, rfl, _, hown9, hon9⟩
    have hb9 := hon9.below_of (Nat.le_refl _) (fun x hx => by cases hx)
    have HF9 := hid (HF8.out.call hb9)
    have x1 : w9.cell? ⟨q9, 1, none⟩ = some (.int .i64 e0.tx) := by
      have h9 := ev_at hown9 he0 (by omega) 1 (by omega)
      simpa [evArr] using h9
    clear hown9 hon9 hb9 HEV8 he0 hgd hz
    go_wp2_with fail
    go_ret
    exact ⟨rfl, HF9.out.lfW.below⟩
end Go.Proofs.YtgfmlaflochffaaGreatDoor
