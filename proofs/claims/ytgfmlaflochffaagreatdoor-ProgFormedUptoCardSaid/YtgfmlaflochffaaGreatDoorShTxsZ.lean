/-
  shape.Auto: Txs.
-/
import Derived.Test.YtgfmlaflochffaaGreatDoorShTkZ
import Derived.Test.YtgfmlaflochffaaGreatDoorWkEvZ
import Derived.Deep.RegionLaw
namespace Go.Proofs.YtgfmlaflochffaaGreatDoor
open Go.RowKit Go.Maps W
attribute [local go_sem ↓] Go.wp_at_zero Go.wp_at_succ

abbrev tTx : TypeId := 55
def zTx : Value := .agg #[.int .i64 0, .int .i64 0, .int .i64 0, .int .i64 0, .int .i64 0, .int .i64 0, .slice none 0 0]
def zDd : Value := .agg #[.int .i64 0, .int .i64 0, .int .i64 0, .int .i64 0, .int .i64 0, .int .i64 0, .int .i64 0, .int .i64 0]
theorem infoTx : (Tryz.prog.info? tTx).map (fun i => (i.zero, i.size, i.bytes)) = some (some zTx, 7, 72) := by kernel_rfl
def txArr (s : St) (vd : Value) : List Value := [.int .i64 s.id, .int .i64 s.thr, .int .i64 s.status, .int .i64 s.beg, .int .i64 s.fin, .int .i64 s.tri, vd]
def flatTx (ps : List (St × Value)) : List Value := ps.flatMap fun p => txArr p.1 p.2
theorem flatTx_snoc (ps : List (St × Value)) (s : St) (v : Value) : flatTx (ps ++ [(s, v)]) = flatTx ps ++ txArr s v := by simp [flatTx]
def TxsPost (w : World) (A : Au) (r : Ending) (w' : World) : Prop := ∃ v ps, r = .returned v ∧ ps.map Prod.fst = A.sts ∧ (∀ p ∈ ps, ∃ a c, p.2 = .slice a p.1.deeds.length c) ∧ w'.ownsRow w.heap.size tTx 7 v A.sts.length (flatTx ps) ∧ Below w.heap.size w w'
set_option linter.unusedSimpArgs false in
set_option maxHeartbeats 16000000 in
set_option maxRecDepth 100000 in
theorem txsCall {L : Nat} {w : World} {A : Au} {nc ab : Nat} {vo : Value} {m1 m2 : Nat} (h : Sh L w A nc ab vo m1 m2) (hlen : A.sts.length ≤ 400) (hdl : ∀ s ∈ A.sts, s.deeds.length ≤ 400) :
    Calls Tryz.prog 26 #[.pointer (some ⟨ab, 0, none⟩)] w fun r w' => TxsPost w A r w' := by
  obtain ⟨hs, vt, f2, h, _⟩ := h
  obtain ⟨i0, hi, hz0, hz1, hz2⟩ := info_parts infoTx
  obtain ⟨j0, ji, jz0, jz1, jz2⟩ := info_parts infoDd
  obtain ⟨At, ct, rfl⟩ := row_shape h.tx
  have x2 : w.cell? ⟨ab, 2, none⟩ = some (.slice At A.sts.length ct) := h.box.cell 2
  have lab := h.box.lt
  have H := hid h
  have HDL := hid hdl
  clear h hdl
  go_enter Tryz.func26, Tryz.ntmps26
  go_wp2_with (at_make; refine wpList_make_own _ rfl _ _ 46 rfl w.heap.size tTx i0 zTx 7 Tryz.underlying46 hi hz0 hz1 .i64 .i64 _ A.sts.length rfl rfl rfl (by rw [hz2]; omega) (by unfold maxLen; omega) (Nat.le_refl _) ?_; intro w1 hown1 hgrow1; have y2 := (hgrow1.cell_far ⟨ab, 2, none⟩ lab (by simp)).trans x2; have lab1 : ab < w1.heap.size := Nat.lt_of_lt_of_le lab hgrow1.size)
  have HS0 := hid (show ([] : List (St × Value)).map Prod.fst = A.sts.take 0 ∧ (∀ p ∈ ([] : List (St × Value)), ∃ a c, p.2 = .slice a p.1.deeds.length c) ∧ w1.ownsRow w.heap.size tTx 7 (.slice (some ⟨w.heap.size, 0, none⟩) 0 A.sts.length) 0 (flatTx []) from ⟨rfl, fun p hp => by simp at hp, hown1⟩)
  have HB1 := hid (show Below w.heap.size w w1 from (Below.refl w.heap.size w).grown hgrow1 (Nat.le_refl _) (fun k e => by cases e))
  clear hown1 hgrow1 x2 y2 lab1
  go_loopw [3, 18] (fun sv si wr => ∃ (k : Nat) (ps : List (St × Value)), sv = .slice (some ⟨w.heap.size, 0, none⟩) k A.sts.length ∧ si = .int .i64 k ∧ k ≤ A.sts.length ∧ ps.map Prod.fst = A.sts.take k ∧ (∀ p ∈ ps, ∃ a c, p.2 = .slice a p.1.deeds.length c) ∧ wr.ownsRow w.heap.size tTx 7 (.slice (some ⟨w.heap.size, 0, none⟩) k A.sts.length) k (flatTx ps) ∧ Below w.heap.size w wr) (fun _ si _ => 401 - (intOf si).toNat)
  case atStart => exact ⟨0, [], rfl, rfl, Nat.zero_le _, HS0.out.1, HS0.out.2.1, HS0.out.2.2, HB1.out⟩
  case round =>
    obtain ⟨k, ps, rfl, rfl, hk, hps1, hps2, hrow, hbr⟩ := hrel
    have HP1 := hid hps1
    have HP2 := hid hps2
    have HRW := hid hrow
    have HBR := hid hbr
    clear hps1 hps2 hrow HS0 HB1
    by_cases hlt : k < A.sts.length
    · obtain ⟨s, hs9⟩ : ∃ s, A.sts[k]? = some s := ⟨A.sts[k], List.getElem?_eq_getElem hlt⟩
      obtain ⟨hd, hh⟩ : ∃ hd, hs[k]? = some hd := ⟨hs[k]'(by rw [H.out.len]; exact hlt), List.getElem?_eq_getElem _⟩
      have hC := H.out.call hbr
      obtain ⟨gt, ct', hgt, _, lgt, hct⟩ := row_slice hC.tx (by omega)
      injection hgt with hg1 _ hg2
      subst hg1 hg2
      have z0 : wr.cell? ⟨gt, k, none⟩ = some (.pointer (some ⟨hd.b, 0, none⟩)) := by
        rw [hC.tx.cellAt k (by omega), List.getElem?_map, hh]
        rfl
      have hst := hC.st k s hd hs9 hh
      have b0 : wr.cell? ⟨hd.b, 0, none⟩ = some (.int .i64 s.id) := hst.blk.cell 0
      have b1 : wr.cell? ⟨hd.b, 1, none⟩ = some (.int .i64 s.thr) := hst.blk.cell 1
      have b2 : wr.cell? ⟨hd.b, 2, none⟩ = some (.int .i64 s.status) := hst.blk.cell 2
      have b3 : wr.cell? ⟨hd.b, 3, none⟩ = some (.int .i64 s.beg) := hst.blk.cell 3
      have b4 : wr.cell? ⟨hd.b, 4, none⟩ = some (.int .i64 s.fin) := hst.blk.cell 4
      have b5 : wr.cell? ⟨hd.b, 5, none⟩ = some (.int .i64 s.tri) := hst.blk.cell 5
      obtain ⟨Ad, cd, hvd⟩ := row_shape hst.row
      have b6 : wr.cell? ⟨hd.b, 6, none⟩ = some (.slice Ad s.deeds.length cd) := by rw [← hvd]; exact hst.blk.cell 6
      have lb := hst.blk.lt
      have hrow := hst.row
      rw [hvd] at hrow
      obtain ⟨Ad', cd', hvd', hnone, hcells⟩ := row_cells hrow
      injection hvd' with hv1 _ hv2
      subst hv1 hv2
      have HNO := hid hnone
      have HCE := hid hcells
      have hd4 := HDL.out s (List.mem_of_getElem? hs9)
      have i0' : (0 : Int) ≤ (k : Int) := by omega
      have i1' : (k : Int) < (A.sts.length : Int) := by omega
      have HS9 := hid hs9
      clear hs9 hh hC hst hvd hrow hnone hcells hbr
      go_upto_region 6 with fail
      have hT : Blk (wr.alloc (.cells #[.int .i64 s.id, .int .i64 s.thr, .int .i64 s.status, .int .i64 s.beg, .int .i64 s.fin, .int .i64 s.tri, .slice Ad s.deeds.length cd] tTx)) wr.heap.size tTx #[.int .i64 s.id, .int .i64 s.thr, .int .i64 s.status, .int .i64 s.beg, .int .i64 s.fin, .int .i64 s.tri, .slice Ad s.deeds.length cd] := Blk.new wr tTx _
      have hR : (wr.alloc (.cells #[.int .i64 s.id, .int .i64 s.thr, .int .i64 s.status, .int .i64 s.beg, .int .i64 s.fin, .int .i64 s.tri, .slice Ad s.deeds.length cd] tTx)).ownsRow w.heap.size tTx 7 (.slice (some ⟨w.heap.size, 0, none⟩) k A.sts.length) k (flatTx ps) := HRW.out.alloc _
      have hB : Below w.heap.size w (wr.alloc (.cells #[.int .i64 s.id, .int .i64 s.thr, .int .i64 s.status, .int .i64 s.beg, .int .i64 s.fin, .int .i64 s.tri, .slice Ad s.deeds.length cd] tTx)) := HBR.out.alloc HBR.out.size _
      have hC : ∀ ad, Ad = some ad → ∃ g, ad = ⟨g, 0, none⟩ ∧ g < (wr.alloc (.cells #[.int .i64 s.id, .int .i64 s.thr, .int .i64 s.status, .int .i64 s.beg, .int .i64 s.fin, .int .i64 s.tri, .slice Ad s.deeds.length cd] tTx)).heap.size ∧ ∀ j u, (flatD s.deeds)[j]? = some u → (wr.alloc (.cells #[.int .i64 s.id, .int .i64 s.thr, .int .i64 s.status, .int .i64 s.beg, .int .i64 s.fin, .int .i64 s.tri, .slice Ad s.deeds.length cd] tTx)).cell? (ad.add j) = some u := fun ad had => by
        obtain ⟨g, rfl, hg, hx⟩ := HCE.out ad had
        refine ⟨g, rfl, by simp; omega, fun j u hu => ?_⟩
        have h9 := hx j u hu
        rw [Addr.add_lit, Nat.zero_add] at h9 ⊢
        exact (((Below.refl wr.heap.size wr).alloc (Nat.le_refl _) _).cell (p := ⟨g, j, none⟩) hg).trans h9
      have hwn : w.heap.size < wr.heap.size := by
        rcases HRW.out.2 with ⟨e9, _⟩ | ⟨g, cap, cur, e9, _, hg9, _⟩
        · cases e9
        · injection e9 with e9 _ _
          injection e9 with e9
          injection e9 with e9
          subst e9
          exact lt_of_at hg9
      generalize wr.alloc (.cells #[.int .i64 s.id, .int .i64 s.thr, .int .i64 s.status, .int .i64 s.beg, .int .i64 s.fin, .int .i64 s.tri, .slice Ad s.deeds.length cd] tTx) = X at hT hR hB hC ⊢
      have hmk : ∀ W : World, (Instr.makeSlice 53 (.int .i64 0) (.int .i64 (s.deeds.length : Int))).run Tryz.prog W = .ok (.slice (some ⟨W.heap.size, 0, none⟩) 0 s.deeds.length) (W.alloc (.cells (madeCells zDd.cells (s.deeds.length * 8)) tDd)) := fun W => by
        have h := run_make (P := Tryz.prog) W 53 tDd j0 zDd Tryz.underlying53 ji jz0 .i64 .i64 0 s.deeds.length (Int.le_refl _) (by omega) (by rw [jz2]; omega) (by omega)
        simpa [jz1] using h
      have HOD : Hid ((X.alloc (.cells (madeCells zDd.cells (s.deeds.length * 8)) tDd)).drew.ownsRow X.heap.size tDd 8 (.slice (some ⟨X.heap.size, 0, none⟩) 0 s.deeds.length) 0 []) := hid (World.ownsRow_made (base := X.heap.size) (e := tDd) (size := 8) X (madeCells zDd.cells (s.deeds.length * 8)) s.deeds.length (Nat.le_refl _) (by unfold maxLen; omega) (by simp [size_madeCells]))
      have HND : Hid (∀ ad, Ad = some ad → ∀ j u, (flatD s.deeds)[j]? = some u → ((X.alloc (.cells (madeCells zDd.cells (s.deeds.length * 8)) tDd)).drew).cell? (ad.add j) = some u) := hid (fun ad had j u hu => by
        obtain ⟨g, rfl, hg, hx⟩ := hC ad had
        have h9 := hx j u hu
        rw [Addr.add_lit, Nat.zero_add] at h9 ⊢
        exact (((Below.refl X.heap.size X).alloc (Nat.le_refl _) (.cells (madeCells zDd.cells (s.deeds.length * 8)) tDd)).drew.cell (p := ⟨g, j, none⟩) hg).trans h9)
      have HD1 : Hid (∀ u ∈ flatD s.deeds, u.oneCell' = true) := hid (fun u hu => by
        obtain ⟨d, _, hd⟩ := List.mem_flatMap.1 hu
        exact ddArr_one d u hd)
      have HDF : Hid ((flatD s.deeds).length = s.deeds.length * 8) := hid (fq_len (n := 8) (fun a => ddArr_len a) s.deeds)
      have HT : Hid (Blk ((X.alloc (.cells (madeCells zDd.cells (s.deeds.length * 8)) tDd)).drew) wr.heap.size tTx #[.int .i64 s.id, .int .i64 s.thr, .int .i64 s.status, .int .i64 s.beg, .int .i64 s.fin, .int .i64 s.tri, .slice Ad s.deeds.length cd]) := hid (hT.alloc _).drew
      have HR : Hid (((X.alloc (.cells (madeCells zDd.cells (s.deeds.length * 8)) tDd)).drew).ownsRow w.heap.size tTx 7 (.slice (some ⟨w.heap.size, 0, none⟩) k A.sts.length) k (flatTx ps)) := hid (hR.alloc _).drew
      have HB : Hid (Below w.heap.size w ((X.alloc (.cells (madeCells zDd.cells (s.deeds.length * 8)) tDd)).drew)) := hid (hB.alloc hB.size _).drew
      have hXl := hT.lt
      have hX6 := hT.cell 6
      have HHX : Hid (w.heap.size ≤ X.heap.size) := hid hB.size
      clear hT hR hB hC
      go_cut [33] from 26 to 33 (fun _ wx => ∃ a c, Blk wx wr.heap.size tTx #[.int .i64 s.id, .int .i64 s.thr, .int .i64 s.status, .int .i64 s.beg, .int .i64 s.fin, .int .i64 s.tri, .slice a s.deeds.length c] ∧ wx.ownsRow w.heap.size tTx 7 (.slice (some ⟨w.heap.size, 0, none⟩) k A.sts.length) k (flatTx ps) ∧ Below w.heap.size w wx)
      case first =>
        go_region_law ((refine step_append_fits_any (by rfl) (.tmp 29) (.tmp 31) 53 (by rfl) X.heap.size tDd j0 8 Tryz.underlying53 ji jz1 X.heap.size 0 s.deeds.length [] (by rfl) HOD.out Ad s.deeds.length cd (flatD s.deeds) (by rfl) HDF.out HNO.out HND.out HD1.out (by omega) ?_; intro w5 hown5 hgrow5; have hT5 := HT.out.grown hgrow5 (by simp; omega); have t6 := hT5.cell 6; have tf := hT5.frozen 6; have tl := hT5.lt))
        all_goals go_wp2_with fail
        all_goals go_meet
        all_goals
          refine ⟨_, _, by simpa using hT5.put 6 (.slice (some ⟨X.heap.size, 0, none⟩) s.deeds.length s.deeds.length), ?_, ?_⟩
          · refine row_far (row_keep HR.out (fun g cs e hh => hgrow5.block g (lt_of_at hh) (fun e9 => ?_))) (p := ⟨wr.heap.size, 6, none⟩) (by simp [Value.ownBlock]; omega) _
            have e2 : w.heap.size = g := Option.some.inj e
            have e3 : g = X.heap.size := Option.some.inj e9
            omega
          · exact (HB.out.grown hgrow5 HB.out.size (fun x hx => by injection hx with hx; have := HHX.out; omega)).setCell (p := ⟨wr.heap.size, 6, none⟩) (by simp; omega) _
      case rest =>
      obtain ⟨a, c, hT7, hR7, hB7⟩ := hcut
      obtain ⟨w7, rfl⟩ : ∃ w7 : World, w7 = wc := ⟨_, rfl⟩
      have HT7 := hid hT7
      have HR7 := hid hR7
      have HB7 := hid hB7
      have t0 := hT7.cell 0
      have t1 := hT7.cell 1
      have t2 := hT7.cell 2
      have t3 := hT7.cell 3
      have t4 := hT7.cell 4
      have t5 := hT7.cell 5
      have t6 := hT7.cell 6
      have tl := hT7.lt
      have HBS := hid hB7.size
      clear hT7 hR7 hB7 hmk HOD HND HD1 HDF HT HR HB HHX
      go_wp2_with (at_builtin; refine wpList_append_fits_any _ rfl (.tmp 34) (.tmp 36) 46 rfl w.heap.size tTx i0 7 Tryz.underlying46 hi hz1 w.heap.size k A.sts.length (flatTx ps) rfl (HR7.out.alloc _) (some ⟨w7.heap.size, 0, none⟩) 1 1 (txArr s (.slice a s.deeds.length c)) rfl rfl (fun e => by cases e) (fun ad had => by obtain rfl := Option.some.inj had; exact World.news_of_block (heap_alloc_new w7 _)) (by simp [txArr, Value.oneCell']) (by omega) ?_; intro w8 hown8 hgrow8)
      have HP3 := hid (show (ps ++ [(s, Value.slice a s.deeds.length c)]).map Prod.fst = A.sts.take (k + 1) from by rw [List.map_append, HP1.out, List.take_add_one, HS9.out]; rfl)
      have HP4 := hid (show ∀ p ∈ ps ++ [(s, Value.slice a s.deeds.length c)], ∃ a c, p.2 = .slice a p.1.deeds.length c from fun p hp => by
        rcases List.mem_append.1 hp with hp | hp
        · exact HP2.out p hp
        · obtain rfl : p = _ := by simpa using hp
          exact ⟨a, c, rfl⟩)
      have HO8 := hid (show w8.ownsRow w.heap.size tTx 7 (.slice (some ⟨w.heap.size, 0, none⟩) (k + 1) A.sts.length) (k + 1) (flatTx (ps ++ [(s, Value.slice a s.deeds.length c)])) from by rw [flatTx_snoc]; exact hown8)
      have HB8 := hid ((HB7.out.alloc HB7.out.size (.cells (txArr s (.slice a s.deeds.length c)).toArray tTx)).grown hgrow8 (by have := HBS.out; simp; omega) (fun x hx => by injection hx with hx; omega))
      clear hown8 hgrow8 t0 t1 t2 t3 t4 t5 t6
      go_wp2_with fail
      go_roundw
      case rel => exact ⟨k + 1, _, rfl, by go_num, by omega, HP3.out, HP4.out, HO8.out, HB8.out⟩
      case measure => simp [intOf]; omega
    · have q3 : decide (k < A.sts.length) = false := by simpa using hlt
      have hke : k = A.sts.length := by omega
      subst hke
      clear hlt
      go_wp2_with fail
      go_ret
      exact ⟨_, ps, rfl, by rw [HP1.out, List.take_length], HP2.out, HRW.out, HBR.out⟩
end Go.Proofs.YtgfmlaflochffaaGreatDoor
