/-
  prog.Text: a program's text where it may be; nil and an error elsewhere. No condition.
-/
import Derived.Test.YtgfmlaflochffaaGreatDoorPValidZ
import Derived.Lib.AppendStr
import Derived.Lib.ItoaLen
namespace Go.Proofs.YtgfmlaflochffaaGreatDoor
open Go.RowKit Go.Maps W
attribute [local go_sem ↓] Go.wp_at_zero Go.wp_at_succ

/-- A slice of texts of the call's own. -/
def RowS (w : World) (B : Nat) (v : Value) (ws : List (List UInt8)) : Prop := ∃ A c, v = .slice A ws.length c ∧ w.ownsRow B 9 1 (.slice A ws.length c) ws.length (txs ws)
theorem RowS.snoc {w : World} {B : Nat} {v : Value} {ws ws2 : List (List UInt8)} {x : List UInt8} (h : w.ownsRow B 9 1 v (ws.length + 1) (txs ws ++ [str x])) (e : ws ++ [x] = ws2) : RowS w B v ws2 := by
  subst e
  obtain ⟨A, c, rfl⟩ := row_shape h
  have e2 : txs (ws ++ [x]) = txs ws ++ [str x] := by simp [txs]
  exact ⟨A, c, by simp, by rw [e2, List.length_append]; exact h⟩
theorem RowS.call {w w' : World} {B : Nat} {v : Value} {ws : List (List UInt8)} (h : RowS w B v ws) (hb : Below w.heap.size w w') : RowS w' B v ws := by
  obtain ⟨A, c, e, h⟩ := h
  exact ⟨A, c, e, row_call h hb⟩
theorem row_later {w w' : World} {B C n : Nat} {e : TypeId} {v : Value} {xs : List Value} (h : w.ownsRow B e 1 v n xs) (hb : Below C w w') (hc : w.heap.size ≤ C) : w'.ownsRow B e 1 v n xs :=
  row_only h (Only.of_below (S := []) hb hc) (by simp)

def cellW (p : Pg) (k : Nat) : List (List UInt8) := wCells :: (p.cells.take k).map Lib.itoa
def lineL (p : Pg) (k : Nat) : List (List UInt8) := wProgram :: Lib.join (cellW p p.cells.length) [32] :: (p.threads.take k).flatMap thrLines
def lineT (p : Pg) (k : Nat) (t : List (List PAct)) (j : Nat) : List (List UInt8) := lineL p k ++ wThread :: (t.take j).map fun l => Lib.join (txWords l) [32]
def actW (l : List PAct) (m : Nat) : List (List UInt8) := wTx :: (l.take m).flatMap actWords
def numW (l : List PAct) (m : Nat) (a : PAct) (q : Nat) : List (List UInt8) := actW l m ++ actWord a.kind :: [Lib.itoa a.cell, Lib.itoa a.val].take q
theorem cellW_step (p : Pg) (k : Nat) (n : Int) (h : p.cells[k]? = some n) : cellW p k ++ [Lib.itoa n] = cellW p (k + 1) := by
  unfold cellW
  rw [List.take_add_one, h]
  simp
theorem cellW_len (p : Pg) (k : Nat) : (cellW p k).length ≤ k + 1 := by
  unfold cellW
  simp
  omega
theorem lineT_zero (p : Pg) (k : Nat) (t : List (List PAct)) : lineL p k ++ [wThread] = lineT p k t 0 := by simp [lineT]
theorem lineT_step (p : Pg) (k : Nat) (t : List (List PAct)) (j : Nat) (l : List PAct) (h : t[j]? = some l) : lineT p k t j ++ [Lib.join (txWords l) [32]] = lineT p k t (j + 1) := by
  unfold lineT
  rw [List.take_add_one, h]
  simp
theorem lineT_end (p : Pg) (k : Nat) (t : List (List PAct)) (h : p.threads[k]? = some t) : lineT p k t t.length = lineL p (k + 1) := by
  unfold lineT lineL
  rw [List.take_add_one, h, List.take_length]
  simp [thrLines]
theorem lineL_end (p : Pg) : lineL p p.threads.length = pgLines p := by simp [lineL, cellW, pgLines]
theorem actW_num (l : List PAct) (m : Nat) (a : PAct) : actW l m ++ [actWord a.kind] = numW l m a 0 := by simp [numW]
theorem numW_step (l : List PAct) (m : Nat) (a : PAct) (q : Nat) (x : List UInt8) (h : [Lib.itoa a.cell, Lib.itoa a.val][q]? = some x) : numW l m a q ++ [x] = numW l m a (q + 1) := by
  unfold numW
  rw [List.take_add_one, h]
  simp
theorem numW_end (l : List PAct) (m : Nat) (a : PAct) (h : l[m]? = some a) : numW l m a (numsOf a.kind) = actW l (m + 1) := by
  unfold numW actW
  rw [List.take_add_one, h]
  simp [actWords]
theorem actW_end (l : List PAct) : actW l l.length = txWords l := by simp [actW, txWords]
theorem fm_len (l : List PAct) : (l.flatMap actWords).length ≤ 3 * l.length := by
  induction l with
  | nil => simp
  | cons a r ih =>
    rw [List.flatMap_cons, List.length_append, List.length_cons]
    have := actWords_len a
    omega
theorem actW_len (l : List PAct) (m : Nat) : (actW l m).length ≤ 3 * m + 1 := by
  unfold actW
  have := fm_len (l.take m)
  have h2 : (l.take m).length ≤ m := by simp; omega
  simp only [List.length_cons]
  omega
theorem numW_len (l : List PAct) (m : Nat) (a : PAct) (q : Nat) : (numW l m a q).length ≤ 3 * m + 4 := by
  unfold numW
  have := actW_len l m
  simp
  omega
theorem lineL_len (p : Pg) (h : pgOk p = true) (k : Nat) : (lineL p k).length ≤ 18 := by
  unfold lineL
  obtain ⟨_, _, _, h4, _, ht⟩ := pgOk_parts h
  have h2 := thr_count p.cells.length (p.threads.take k) (fun t hm => ht t (List.mem_of_mem_take hm))
  have h3 : (p.threads.take k).length ≤ 4 := by simp; omega
  simp only [List.length_cons]
  omega
theorem lineT_len (p : Pg) (h : pgOk p = true) (k : Nat) (t : List (List PAct)) (j : Nat) : (lineT p k t j).length ≤ 19 + j := by
  unfold lineT
  have := lineL_len p h k
  simp
  omega
theorem actTab_at (k : Int) (h : 1 ≤ k) (h4 : k ≤ 4) : actTab[k.toNat - 1]? = some (actWord k) := by
  rcases kind_cases h h4 with rfl | rfl | rfl | rfl <;> rfl

/-- The text of the first lines. -/
def txtB (pl : List (List UInt8)) (i : Nat) : List UInt8 := unlines (pl.take i)
theorem unlines_app (a b : List (List UInt8)) : unlines (a ++ b) = unlines a ++ unlines b := by simp [unlines]
theorem txtB_step (pl : List (List UInt8)) (i : Nat) (x : List UInt8) (h : pl[i]? = some x) : txtB pl i ++ x ++ [10] = txtB pl (i + 1) := by
  unfold txtB
  rw [List.take_add_one, h, unlines_app]
  simp [unlines]
theorem txtB_le (pl : List (List UInt8)) (i : Nat) : (txtB pl i).length ≤ (unlines pl).length := by
  unfold txtB
  have h : unlines pl = unlines (pl.take i) ++ unlines (pl.drop i) := by rw [← unlines_app, List.take_append_drop]
  rw [h, List.length_append]
  omega
theorem txtB_end (pl : List (List UInt8)) : txtB pl pl.length = unlines pl := by simp [txtB]

set_option maxHeartbeats 16000000 in
set_option maxRecDepth 100000 in
theorem textCall (vc vt : Value) (p : Pg) (w : World) (hp : PgAt w vc vt p) (hL : LaidP w) :
    Calls Tryz.prog 15 #[.agg #[vc, vt]] w fun e w' => ∃ x v, e = .returned (.tuple #[x, v]) ∧ ErrB (pgOk p) v ∧ (pgOk p = true → w'.ownsRow w.heap.size 5 1 x (pgText p).length (bys (pgText p))) ∧ (∃ A n c, x = .slice A n c) ∧ Below w.heap.size w w' := by
  obtain ⟨i0, hi, hz0, hz1, hz2⟩ := info_parts infoS
  obtain ⟨j0, ji, jz0, jz1, jz2⟩ := info_parts infoB
  have HP := hid hp
  obtain ⟨hpc, hpt⟩ := hp
  obtain ⟨Ac, cc, rfl⟩ := hpc.shape
  obtain ⟨At, ct, rfl⟩ := hpt.shape
  rw [ints_len] at hpc HP ⊢
  have HPC := hid hpc
  have HPT := hid hpt
  have HL := hid hL
  have HB0 := hid (Blk.new w 25 #[.slice Ac p.cells.length cc, .slice At p.threads.length ct])
  have HW0 := hid ((Below.refl w.heap.size w).alloc (Nat.le_refl _) (.cells #[.slice Ac p.cells.length cc, .slice At p.threads.length ct] 25))
  have HV := hid (pgValid _ _ p _ (HP.out.below HW0.out) (hL.below HW0.out))
  have hN := fun W a => neq_nil 172 a (.inr (.inr rfl)) W
  clear hpc hpt hL
  go_enter Tryz.func15, Tryz.ntmps15
  go_wp2_with fail
  refine HV.out.mono ?_
  rintro r w1 ⟨v, rfl, hv, hb⟩
  have HW1 := hid (HW0.out.trans (hb.mono (by simp)))
  have HB1 := hid (HB0.out.below hb (by simp))
  clear hb HV HB0 HW0
  rcases hv with ⟨hok, rfl⟩ | ⟨hno, a, rfl⟩
  case inr =>
    have HNO := hid hno
    clear hno
    go_wp2_with fail
    go_ret2
    exact ⟨_, _, rfl, .inr ⟨HNO.out, a, rfl⟩, fun h => (by rw [HNO.out] at h; cases h), ⟨_, _, _, rfl⟩, HW1.out⟩
  case inl =>
  have HOK := hid hok
  obtain ⟨c1, c4, d1, d4, hcs, hts⟩ := pgOk_parts hok
  have HCS := hid hcs
  have HTS := hid hts
  have HPC1 := hid (HPC.out.below HW1.out (Nat.le_refl _))
  have HPT1 := hid (ReadsH.below HPT.out HW1.out)
  have x0 := HB1.out.cell 0
  have lW := HB1.out.lt
  have HR1 := hid (row_new (w := w1) (cs := #[str wCells]) (t := 9) (B := w1.heap.size) (size := 1) (n := 1) rfl (Nat.le_refl _) (by unfold maxLen; omega))
  clear hok hcs hts hN
  go_wp2_with fail
  go_loopw [5, 29] (fun sb si wr => ∃ k : Nat, si = .int .i64 k ∧ k ≤ p.cells.length ∧ RowS wr w1.heap.size sb (cellW p k) ∧ Below w1.heap.size w1 wr) (fun _ si _ => 5 - (intOf si).toNat)
  case atStart => exact ⟨0, rfl, Nat.zero_le _, ⟨_, _, rfl, HR1.out⟩, (Below.refl _ _).alloc (Nat.le_refl _) _⟩
  case round =>
    obtain ⟨k, rfl, hk, ⟨A, c, rfl, hown⟩, hbr⟩ := hrel
    have HOR := hid hown
    have HBR := hid hbr
    have hcl := cellW_len p k
    clear HR1 hown
    by_cases hlt : k < p.cells.length
    · obtain ⟨n, hn⟩ : ∃ n, p.cells[k]? = some n := ⟨p.cells[k], List.getElem?_eq_getElem hlt⟩
      obtain ⟨b, o, rfl, hcell, _, hcap⟩ := reads_at (HPC1.out) (j := k) (u := .int .i64 n) (by simp [ints, hn])
      have hcr := (hbr.cell (p := ⟨b, o + k, none⟩) (World.block_lt_of_cell? w1 _ hcell)).trans hcell
      have hcn := HCS.out n (List.mem_of_getElem? hn)
      unfold cellOk at hcn
      simp at hcn
      have HP := hid (fun W (hW : Below w.heap.size w W) => print n (by omega) (by omega) W (HL.out.below hW).word)
      have HST := hid (cellW_step p k n hn)
      clear hcell hn hcn hbr
      go_wp2_with fail
      refine (HP.out _ (HW1.out.trans (HBR.out.mono HW1.out.size))).mono ?_
      rintro e w3 ⟨rfl, hb3⟩
      have HBX3 := hid (HBR.out.trans (hb3.mono HBR.out.size))
      have HO3 := hid (row_call HOR.out hb3)
      clear hb3 HP hcr
      go_wp2_with (at_builtin; refine wpList_append_own _ rfl (.tmp 33) (.tmp 36) 90 rfl w1.heap.size 9 i0 (.string .empty) 1 16 Tryz.underlying90 hi hz0 hz1 hz2 rfl (by decide) _ (cellW p k).length _ rfl (HO3.out.alloc _) ⟨w3.heap.size, 0, none⟩ 1 1 [str (Lib.itoa n)] rfl rfl (cell_one_new _ _ _) (by simp [str, Value.oneCell']) (by unfold maxLen; omega) (by omega) (by have := HBX3.out.size; simp; omega) ?_; intro v6 w6 hown6 hgrow6 _)
      have HBZ := hid ((HBX3.out.alloc HBX3.out.size (.cells #[str (Lib.itoa n)] 9)).grown hgrow6 (by have := HBX3.out.size; simp; omega) (fun x hx => (row_own (HO3.out.alloc (.cells #[str (Lib.itoa n)] 9)) hx).1))
      have HRS := hid (RowS.snoc hown6 HST.out)
      clear hown6 hgrow6
      go_roundw
      case rel => exact ⟨k + 1, by go_num, by omega, HRS.out, HBZ.out⟩
      case measure => simp [intOf] <;> omega
    · obtain rfl : k = p.cells.length := by omega
      obtain ⟨wc, rfl⟩ : ∃ wc : World, wc = wr := ⟨_, rfl⟩
      have hj1 : (Lib.join (cellW p p.cells.length) [32]).length ≤ 171 := pgLines_each p HOK.out _ (by simp [pgLines, cellW])
      have HJ := hid (joinCall (.slice A (cellW p p.cells.length).length c) (cellW p p.cells.length) wc (reads_of_row HOR.out) (by omega) (by omega))
      have HWC := hid (HW1.out.trans (hbr.mono HW1.out.size))
      obtain ⟨sj, hsj⟩ : ∃ sj, Lib.join (cellW p p.cells.length) [32] = sj := ⟨_, rfl⟩
      rw [hsj] at HJ
      have HSJ := hid hsj
      clear hj1 hsj hlt hk hbr
      go_wp2_with fail
      refine HJ.out.mono ?_
      rintro e w4 ⟨rfl, hb4⟩
      have HW4 := hid (HWC.out.trans (hb4.mono HWC.out.size))
      have HB4 := hid (HB1.out.below (HBR.out.trans (hb4.mono HBR.out.size)) lW)
      have HPT4 := hid (ReadsH.below HPT1.out (HBR.out.trans (hb4.mono HBR.out.size)))
      have HR4 := hid (row_new (w := w4) (cs := #[str wProgram, str sj]) (t := 9) (B := w4.heap.size) (size := 1) (n := 2) rfl (Nat.le_refl _) (by unfold maxLen; omega))
      have HL0 : Hid (lineL p 0 = [wProgram, sj]) := hid (by rw [← HSJ.out]; rfl)
      have y1 := HB4.out.cell 1
      have lW4 := HB4.out.lt
      clear hb4 x0 lW HJ HOR HBR HPC1 HPT1 HPC HPT hcl
      go_wp2_with fail
      go_loopw [8, 45] (fun sl si wr => ∃ k : Nat, si = .int .i64 k ∧ k ≤ p.threads.length ∧ RowS wr w4.heap.size sl (lineL p k) ∧ Below w4.heap.size w4 wr) (fun _ si _ => 5 - (intOf si).toNat)
      case atStart => exact ⟨0, rfl, Nat.zero_le _, by rw [HL0.out]; exact ⟨_, _, rfl, HR4.out⟩, (Below.refl _ _).alloc (Nat.le_refl _) _⟩
      case round =>
        obtain ⟨k, rfl, hk, ⟨A, c, rfl, hown⟩, hbr⟩ := hrel
        have HO5 := hid hown
        have HBR := hid hbr
        have hcl := lineL_len p HOK.out k
        clear HR4 hown
        by_cases hlt : k < p.threads.length
        · obtain ⟨t, ht⟩ : ∃ t, p.threads[k]? = some t := ⟨p.threads[k], List.getElem?_eq_getElem hlt⟩
          obtain ⟨b1, o1, u1, rfl, hcell, hR, _, hcap⟩ := HPT4.out.at ht
          obtain ⟨A1, cp1, rfl⟩ := hR.shape
          have hcr := (hbr.cell (p := ⟨b1, o1 + k, none⟩) (World.block_lt_of_cell? w4 _ hcell)).trans hcell
          have HT := hid ht
          have HTO := hid (thrOk_parts (HTS.out t (List.mem_of_getElem? ht)))
          have HR1 := hid hR
          clear ht hR hcell hbr
          go_wp2_with (at_builtin; refine wpList_append_own _ rfl (.tmp 49) (.tmp 50) 90 rfl w4.heap.size 9 i0 (.string .empty) 1 16 Tryz.underlying90 hi hz0 hz1 hz2 rfl (by decide) _ (lineL p k).length _ rfl (HO5.out.alloc _) ⟨wr.heap.size, 0, none⟩ 1 1 [str wThread] rfl rfl (cell_one_new _ _ _) (by simp [str, Value.oneCell']) (by unfold maxLen; omega) (by omega) (by have := HBR.out.size; simp; omega) ?_; intro v6 w6 hown6 hgrow6 _)
          have HBZ := hid ((HBR.out.alloc HBR.out.size (.cells #[str wThread] 9)).grown hgrow6 (by have := HBR.out.size; simp; omega) (fun x hx => (row_own (HO5.out.alloc (.cells #[str wThread] 9)) hx).1))
          have HRS := hid (RowS.snoc hown6 (lineT_zero p k t))
          have ht3 := HTO.out.1
          clear hown6 hgrow6 hcr
          obtain ⟨wo, rfl⟩ : ∃ wo : World, wo = wr := ⟨_, rfl⟩
          go_loopw [8, 54] (fun sl si wr => ∃ j : Nat, si = .int .i64 j ∧ j ≤ t.length ∧ RowS wr w4.heap.size sl (lineT p k t j) ∧ Below w4.heap.size w4 wr) (fun _ si _ => 5 - (intOf si).toNat)
          case atStart => exact ⟨0, rfl, Nat.zero_le _, HRS.out, HBZ.out⟩
          case round =>
            obtain ⟨j, rfl, hj, ⟨A5, c5, rfl, hown⟩, hbr⟩ := hrel
            have HO6 := hid hown
            have HBR6 := hid hbr
            have hcl6 := lineT_len p HOK.out k t j
            clear HRS hown
            obtain ⟨wt, rfl⟩ : ∃ wt : World, wt = wr := ⟨_, rfl⟩
            by_cases hlt2 : j < t.length
            · obtain ⟨l, hl⟩ : ∃ l, t[j]? = some l := ⟨t[j], List.getElem?_eq_getElem hlt2⟩
              obtain ⟨b2, o2, u2, rfl, hcell, hR, _, hcap2⟩ := HR1.out.at hl
              obtain ⟨A2, cp2, rfl⟩ := hR.shape
              have hcr := (hbr.cell (p := ⟨b2, o2 + j, none⟩) (World.block_lt_of_cell? w4 _ hcell)).trans hcell
              have HLL := hid hl
              have HLO := hid (txOk_parts (HTO.out.2 l (List.mem_of_getElem? hl)))
              have HR2 := hid (hR.below hbr)
              have hl6 := HLO.out.2.1
              have HRt := hid (row_new (w := wt) (cs := #[str wTx]) (t := 9) (B := wt.heap.size) (size := 1) (n := 1) rfl (Nat.le_refl _) (by unfold maxLen; omega))
              have HWT := hid (HW4.out.trans (hbr.mono HW4.out.size))
              clear hl hR hcell hbr
              go_wp2_with fail
              go_loopw [13, 61] (fun sw si wr => ∃ m : Nat, si = .int .i64 m ∧ m ≤ l.length ∧ RowS wr wt.heap.size sw (actW l m) ∧ Below wt.heap.size wt wr) (fun _ si _ => 8 - (intOf si).toNat)
              case atStart => exact ⟨0, rfl, Nat.zero_le _, ⟨_, _, rfl, HRt.out⟩, (Below.refl _ _).alloc (Nat.le_refl _) _⟩
              case round =>
                obtain ⟨m, rfl, hm, ⟨A7, c7, rfl, hown⟩, hbr⟩ := hrel
                have HBR7 := hid hbr
                have HOW := hid hown
                have hcl7 := actW_len l m
                clear HRt hown hcr
                by_cases hlt3 : m < l.length
                · obtain ⟨a, ha⟩ : ∃ a, l[m]? = some a := ⟨l[m], List.getElem?_eq_getElem hlt3⟩
                  obtain ⟨b3, o3, rfl, e0, e1, e2, _, hcap3⟩ := HR2.out.at ha
                  have y0 := (hbr.cell (p := ⟨b3, o3 + m * 3, none⟩) (World.block_lt_of_cell? wt _ e0)).trans e0
                  have y1' := (hbr.cell (p := ⟨b3, o3 + m * 3 + 1, none⟩) (World.block_lt_of_cell? wt _ e1)).trans e1
                  have y2 := (hbr.cell (p := ⟨b3, o3 + m * 3 + 2, none⟩) (World.block_lt_of_cell? wt _ e2)).trans e2
                  obtain ⟨lb, hlb⟩ := acts_mem l p.cells.length HLO.out.2.2 a (List.mem_of_getElem? ha)
                  obtain ⟨k1, k4⟩ := actOk_kind hlb
                  have hnb := act_len c4 hlb
                  have HNB := hid hnb
                  have HA := hid ha
                  have HWR := hid (HWT.out.trans (hbr.mono HWT.out.size))
                  have hac := (HL.out.below HWR.out).acts _ _ (actTab_at a.kind k1 k4)
                  have HBA := hid (Blk.new wr 80 (actArr a))
                  have HO7 := hid (HOW.out.alloc (.cells (actArr a) 80))
                  have HX7 := hid (hbr.alloc hbr.size (.cells (actArr a) 80))
                  have hn7 := cell_one_new (wr.alloc (.cells (actArr a) 80)) (str (actWord a.kind)) 9
                  rw [World.size_alloc] at hn7
                  have HN7 := hid hn7
                  have lAc := World.block_lt_of_cell? wr _ hac
                  obtain ⟨aw, haw⟩ : ∃ aw, actWord a.kind = aw := ⟨_, rfl⟩
                  rw [haw] at HN7 hac
                  have HAW := hid haw
                  unfold str at hac
                  clear ha e0 e1 e2 hlb hnb hbr hn7 haw
                  go_wp2_with (at_builtin; refine wpList_append_own_at _ rfl (.tmp 65) (.tmp 71) 90 rfl wt.heap.size 9 i0 (.string .empty) 1 16 Tryz.underlying90 hi hz0 hz1 hz2 rfl (by decide) _ (actW l m).length _ rfl (HO7.out.alloc _) ⟨wr.heap.size + 1, 0, none⟩ 1 1 [str aw] rfl rfl HN7.out (by simp [str, Value.oneCell']) (by unfold maxLen; omega) (by omega) (by have := HBR7.out.size; simp; omega) ?_; intro v6 w6 hown6 hgrow6 _ hat6; have hne : ∀ g, (Value.slice A7 (actW l m).length c7).ownBlock = some g → g < wr.heap.size := fun g hg => (row_own HOW.out hg).2; have HNE := hid hne; have HBA6 := hid ((HBA.out.alloc (.cells #[str aw] 9)).grown hgrow6 (fun e => by have := hne _ e.symm; omega)); have z0 := HBA6.out.cell 0; have lz := HBA6.out.lt; simp only [actArr] at z0; clear hne)
                  have hne := HNE.out
                  have HBZ := hid ((HX7.out.alloc (by have := HBR7.out.size; simp; omega) (.cells #[str aw] 9)).grown hgrow6 (by have := HBR7.out.size; simp; omega) (fun x hx => (row_own HOW.out hx).1))
                  have HRS := hid (RowS.snoc (ws2 := numW l m a 0) hown6 (by rw [← HAW.out]; exact actW_num l m a))
                  have HAP := hid (show v6.ownBlock ≠ some wr.heap.size from fun e => by
                    rcases hat6 with h | h
                    · rw [h] at e; have := hne _ e; omega
                    · rw [h] at e; simp at e; try omega)
                  have HNS := hid (fun W => numsCall a.kind W)
                  have hn2 : numsOf a.kind ≤ 2 := by rcases nums_cases a.kind with ⟨h, _⟩ | ⟨h, _⟩ | ⟨h, _⟩ <;> omega
                  clear hown6 hgrow6 hat6 hne y0 y1' y2 hac k1 k4 lAc
                  go_wp2_with fail
                  refine (HNS.out _).mono ?_
                  rintro e wn ⟨rfl, rfl⟩
                  obtain ⟨wq, rfl⟩ : ∃ wq : World, wq = wr := ⟨_, rfl⟩
                  go_wp2_with fail
                  go_loopw [13, 76] (fun sw si wr => ∃ q : Nat, si = .int .i64 q ∧ q ≤ numsOf a.kind ∧ RowS wr wt.heap.size sw (numW l m a q) ∧ Below wt.heap.size wt wr ∧ Blk wr wq.heap.size 80 (actArr a) ∧ sw.ownBlock ≠ some wq.heap.size) (fun _ si _ => 3 - (intOf si).toNat)
                  case atStart => exact ⟨0, rfl, Nat.zero_le _, HRS.out, HBZ.out, HBA6.out, HAP.out⟩
                  case round =>
                    obtain ⟨q, rfl, hq, ⟨A8, c8, rfl, hown⟩, hbr, hba, hap⟩ := hrel
                    have HBR8 := hid hbr
                    have HOQ := hid hown
                    have HBA8 := hid hba
                    have HAP8 := hid hap
                    have hcl8 := numW_len l m a q
                    have g1 := hba.cell 1
                    have g2 := hba.cell 2
                    have lg := hba.lt
                    simp only [actArr] at g1 g2
                    clear HRS HBZ hown hba hap z0 lz
                    by_cases hlt4 : q < numsOf a.kind
                    · rcases (show q = 0 ∨ q = 1 by omega) with rfl | rfl
                      · have HP := hid (fun W (hW : Below w.heap.size w W) => print a.cell (by have := HNB.out; omega) (by have := HNB.out; omega) W (HL.out.below hW).word)
                        have HST := hid (numW_step l m a 0 (Lib.itoa a.cell) rfl)
                        have HKL := hid hlt4
                        obtain ⟨xq, hxq⟩ : ∃ xq, Lib.itoa a.cell = xq := ⟨_, rfl⟩
                        rw [hxq] at HP HST
                        have HWQ := hid (HWT.out.trans (hbr.mono HWT.out.size))
                        have HOQ2 := hid (HOQ.out.alloc (.cells #[.int .i64 a.cell, .int .i64 a.val] 3))
                        have HBA8b := hid (HBA8.out.alloc (.cells #[.int .i64 a.cell, .int .i64 a.val] 3))
                        clear hbr hxq hq
                        go_wp2_with fail
                        refine (HP.out _ (HWQ.out.alloc HWQ.out.size _)).mono ?_
                        rintro e W9 ⟨rfl, hb9⟩
                        have HB9 := hid (below_al HBR8.out HBR8.out.size hb9)
                        have HO9 := hid (row_call HOQ2.out hb9)
                        have HBA9 := hid (HBA8b.out.below hb9 (by simp; omega))
                        have l9 := HBA9.out.lt
                        clear hb9 HP g1 g2
                        go_wp2_with (at_builtin; refine wpList_append_own_at _ rfl (.tmp 79) (.tmp 89) 90 rfl wt.heap.size 9 i0 (.string .empty) 1 16 Tryz.underlying90 hi hz0 hz1 hz2 rfl (by decide) _ (numW l m a 0).length _ rfl (HO9.out.alloc _) ⟨W9.heap.size, 0, none⟩ 1 1 [str xq] rfl rfl (cell_one_new _ _ _) (by simp [str, Value.oneCell']) (by unfold maxLen; omega) (by omega) (by have := HB9.out.size; simp; omega) ?_; intro v6 w6 hown6 hgrow6 _ hat6)
                        have HBZ := hid ((HB9.out.alloc HB9.out.size (.cells #[str xq] 9)).grown hgrow6 (by have := HB9.out.size; simp; omega) (fun x hx => (row_own HO9.out hx).1))
                        have HRS := hid (RowS.snoc hown6 HST.out)
                        have HBA10 := hid ((HBA9.out.alloc (.cells #[str xq] 9)).grown hgrow6 (fun e => HAP8.out e.symm))
                        have HAP := hid (show v6.ownBlock ≠ some wq.heap.size from fun e => by
                          rcases hat6 with h | h
                          · rw [h] at e; exact HAP8.out e
                          · rw [h] at e; simp at e; try omega)
                        clear hown6 hgrow6 hat6
                        go_roundw
                        case rel => exact ⟨0 + 1, by go_num, HKL.out, HRS.out, HBZ.out, HBA10.out, HAP.out⟩
                        case measure => simp [intOf]
                      · have HP := hid (fun W (hW : Below w.heap.size w W) => print a.val (by have := HNB.out; omega) (by have := HNB.out; omega) W (HL.out.below hW).word)
                        have HST := hid (numW_step l m a 1 (Lib.itoa a.val) rfl)
                        have HKL := hid hlt4
                        obtain ⟨xq, hxq⟩ : ∃ xq, Lib.itoa a.val = xq := ⟨_, rfl⟩
                        rw [hxq] at HP HST
                        have HWQ := hid (HWT.out.trans (hbr.mono HWT.out.size))
                        have HOQ2 := hid (HOQ.out.alloc (.cells #[.int .i64 a.cell, .int .i64 a.val] 3))
                        have HBA8b := hid (HBA8.out.alloc (.cells #[.int .i64 a.cell, .int .i64 a.val] 3))
                        clear hbr hxq hq
                        go_wp2_with fail
                        refine (HP.out _ (HWQ.out.alloc HWQ.out.size _)).mono ?_
                        rintro e W9 ⟨rfl, hb9⟩
                        have HB9 := hid (below_al HBR8.out HBR8.out.size hb9)
                        have HO9 := hid (row_call HOQ2.out hb9)
                        have HBA9 := hid (HBA8b.out.below hb9 (by simp; omega))
                        have l9 := HBA9.out.lt
                        clear hb9 HP g1 g2
                        go_wp2_with (at_builtin; refine wpList_append_own_at _ rfl (.tmp 79) (.tmp 89) 90 rfl wt.heap.size 9 i0 (.string .empty) 1 16 Tryz.underlying90 hi hz0 hz1 hz2 rfl (by decide) _ (numW l m a 1).length _ rfl (HO9.out.alloc _) ⟨W9.heap.size, 0, none⟩ 1 1 [str xq] rfl rfl (cell_one_new _ _ _) (by simp [str, Value.oneCell']) (by unfold maxLen; omega) (by omega) (by have := HB9.out.size; simp; omega) ?_; intro v6 w6 hown6 hgrow6 _ hat6)
                        have HBZ := hid ((HB9.out.alloc HB9.out.size (.cells #[str xq] 9)).grown hgrow6 (by have := HB9.out.size; simp; omega) (fun x hx => (row_own HO9.out hx).1))
                        have HRS := hid (RowS.snoc hown6 HST.out)
                        have HBA10 := hid ((HBA9.out.alloc (.cells #[str xq] 9)).grown hgrow6 (fun e => HAP8.out e.symm))
                        have HAP := hid (show v6.ownBlock ≠ some wq.heap.size from fun e => by
                          rcases hat6 with h | h
                          · rw [h] at e; exact HAP8.out e
                          · rw [h] at e; simp at e; try omega)
                        clear hown6 hgrow6 hat6
                        go_roundw
                        case rel => exact ⟨1 + 1, by go_num, HKL.out, HRS.out, HBZ.out, HBA10.out, HAP.out⟩
                        case measure => simp [intOf]
                    · obtain rfl : q = numsOf a.kind := by omega
                      have HRS := hid (show RowS wr wt.heap.size (.slice A8 (numW l m a (numsOf a.kind)).length c8) (actW l (m + 1)) by rw [← numW_end l m a HA.out]; exact ⟨A8, c8, rfl, HOQ.out⟩)
                      clear hlt4 hq g1 g2 hbr
                      go_wp2_with fail
                      go_roundw
                      case rel => exact ⟨m + 1, by go_num, by omega, HRS.out, HBR8.out⟩
                      case measure => simp [intOf] <;> omega
                · obtain rfl : m = l.length := by omega
                  have hj2 : (Lib.join (actW l l.length) [32]).length ≤ 171 := by
                    rw [actW_end]
                    exact join_bound 8 19 _ (txWords_each c4 HLO.out.2.2) (by have := txWords_len l; omega)
                  have HJ := hid (joinCall (.slice A7 (actW l l.length).length c7) (actW l l.length) wr (reads_of_row HOW.out) (by omega) (by omega))
                  obtain ⟨st, hst⟩ : ∃ st, Lib.join (actW l l.length) [32] = st := ⟨_, rfl⟩
                  rw [hst] at HJ
                  have HST := hid (show lineT p k t j ++ [st] = lineT p k t (j + 1) by rw [← hst, actW_end]; exact lineT_step p k t j l HLL.out)
                  have HKJ := hid hlt2
                  clear hj2 hst hlt3 hm
                  go_wp2_with fail
                  refine HJ.out.mono ?_
                  rintro e W8 ⟨rfl, hb8⟩
                  have HB8 := hid ((HBR6.out.trans (HBR7.out.mono HBR6.out.size)).trans (hb8.mono (Nat.le_trans HBR6.out.size HBR7.out.size)))
                  have HO8 := hid (row_call (row_later HO6.out HBR7.out (Nat.le_refl _)) hb8)
                  clear hb8 HJ hbr
                  go_wp2_with (at_builtin; refine wpList_append_own _ rfl (.tmp 93) (.tmp 96) 90 rfl w4.heap.size 9 i0 (.string .empty) 1 16 Tryz.underlying90 hi hz0 hz1 hz2 rfl (by decide) _ (lineT p k t j).length _ rfl (HO8.out.alloc _) ⟨W8.heap.size, 0, none⟩ 1 1 [str st] rfl rfl (cell_one_new _ _ _) (by simp [str, Value.oneCell']) (by unfold maxLen; omega) (by omega) (by have := HB8.out.size; simp; omega) ?_; intro v6 w6 hown6 hgrow6 _)
                  have HBZ := hid ((HB8.out.alloc HB8.out.size (.cells #[str st] 9)).grown hgrow6 (by have := HB8.out.size; simp; omega) (fun x hx => (row_own HO8.out hx).1))
                  have HRS := hid (RowS.snoc hown6 HST.out)
                  clear hown6 hgrow6
                  go_roundw
                  case rel => exact ⟨j + 1, by go_num, HKJ.out, HRS.out, HBZ.out⟩
                  case measure => simp [intOf] <;> omega
            · obtain rfl : j = t.length := by omega
              have HRS := hid (show RowS wt w4.heap.size (.slice A5 (lineT p k t t.length).length c5) (lineL p (k + 1)) by rw [← lineT_end p k t HT.out]; exact ⟨A5, c5, rfl, HO6.out⟩)
              clear hlt2 hj hbr
              go_wp2_with fail
              go_roundw
              case rel => exact ⟨k + 1, by go_num, by omega, HRS.out, HBR6.out⟩
              case measure => simp [intOf] <;> omega
        · obtain rfl : k = p.threads.length := by omega
          obtain ⟨w6, rfl⟩ : ∃ w6 : World, w6 = wr := ⟨_, rfl⟩
          have hpl : (lineL p p.threads.length).length = (pgLines p).length := by rw [lineL_end]
          rw [hpl] at HO5 ⊢
          have HOL := hid (show w6.ownsRow w4.heap.size 9 1 (.slice A (pgLines p).length c) (pgLines p).length (txs (pgLines p)) by
            have h := HO5.out
            rwa [lineL_end] at h)
          have HW6 := hid (HW4.out.trans (hbr.mono HW4.out.size))
          have hpl18 : (pgLines p).length ≤ 18 := by rw [← hpl]; exact lineL_len p HOK.out _
          have htl := pgText_len p HOK.out
          obtain ⟨pl, hpl2⟩ : ∃ pl, pgLines p = pl := ⟨_, rfl⟩
          rw [hpl2] at HOL hpl18 ⊢
          have hte : pgText p = unlines pl := by rw [← hpl2]; rfl
          rw [hte] at htl
          have HTE := hid hte
          clear hlt hk hbr hpl HO5 hcl hpl2 hte y1 lW4
          go_wp2_with fail
          go_loopw [17, 102] (fun sb si wr => ∃ (i : Nat) (A : Option Addr) (c : Nat), si = .int .i64 i ∧ i ≤ pl.length ∧ sb = .slice A (txtB pl i).length c ∧ wr.ownsRow w6.heap.size 5 1 (.slice A (txtB pl i).length c) (txtB pl i).length (bys (txtB pl i)) ∧ Below w6.heap.size w6 wr) (fun _ si _ => 20 - (intOf si).toNat)
          case atStart => exact ⟨0, none, 0, rfl, Nat.zero_le _, rfl, World.ownsRow_nil _ _ _ _, Below.refl _ _⟩
          case round =>
            obtain ⟨i, Ab, cb, rfl, hi2, rfl, hown, hbr⟩ := hrel
            have HBR6 := hid hbr
            have HOB := hid hown
            have hbl := txtB_le pl i
            clear hown
            by_cases hlt : i < pl.length
            · obtain ⟨x, hx⟩ : ∃ x, pl[i]? = some x := ⟨pl[i], List.getElem?_eq_getElem hlt⟩
              obtain ⟨bL, oL, rfl, hcell, _, hcapL⟩ := reads_at (reads_of_row HOL.out) (j := i) (u := str x) (by simp [txs, hx])
              have hcr := (hbr.cell (p := ⟨bL, oL + i, none⟩) (World.block_lt_of_cell? w6 _ hcell)).trans hcell
              have HST := hid (txtB_step pl i x hx)
              have hxl := txtB_le pl (i + 1)
              rw [← HST.out, List.length_append, List.length_append, List.length_singleton] at hxl
              unfold str at hcr
              clear hcell hx hbr
              go_wp2_with (first
                | (at_builtin; refine Lib.wpList_append_own_string _ rfl (.tmp 106) (.tmp 107) 63 9 rfl w6.heap.size 5 j0 Tryz.underlying63 Tryz.underlying9 ji jz0 jz1 jz2 _ (txtB pl i).length _ rfl HOB.out ⟨x.toArray⟩ rfl (by simp [ByteArray.size]; unfold maxLen; omega) (by simp [ByteArray.size]; omega) HBR6.out.size ?_; intro v1 W1 hown1 hgrow1 _; have HO1 := hid (show W1.ownsRow w6.heap.size 5 1 v1 ((txtB pl i).length + x.length) (bys (txtB pl i ++ x)) by simpa [ByteArray.size, Lib.strCells, bys] using hown1); have HB1 := hid (HBR6.out.grown hgrow1 HBR6.out.size (fun z hz => (row_own HOB.out hz).1)); clear hown1 hgrow1)
                | (at_builtin; refine wpList_append_own _ rfl (.tmp 108) (.tmp 109) 63 rfl w6.heap.size 5 j0 (.int .u8 0) 1 1 Tryz.underlying63 ji jz0 jz1 jz2 rfl (by decide) _ ((txtB pl i).length + x.length) _ rfl (HO1.out.alloc _) ⟨W1.heap.size, 0, none⟩ 1 1 [.int .u8 10] rfl rfl (cell_one_new _ _ _) (by simp [Value.oneCell']) (by unfold maxLen; omega) (by omega) (by have := HB1.out.size; simp; omega) ?_; intro v2 W2 hown2 hgrow2 _))
              have HB2 := hid ((HB1.out.alloc HB1.out.size (.cells #[.int .u8 10] 5)).grown hgrow2 (by have := HB1.out.size; simp; omega) (fun z hz => (row_own HO1.out hz).1))
              have HO2 := hid (show W2.ownsRow w6.heap.size 5 1 v2 (txtB pl (i + 1)).length (bys (txtB pl (i + 1))) by
                rw [← HST.out, bys_append, List.length_append, List.length_append]
                exact hown2)
              obtain ⟨A9, c9, rfl⟩ := row_shape HO2.out
              clear hown2 hgrow2 hxl
              go_roundw
              case rel => exact ⟨i + 1, A9, c9, by go_num, by omega, rfl, HO2.out, HB2.out⟩
              case measure => simp [intOf] <;> omega
            · obtain rfl : i = pl.length := by omega
              have HOE := hid (show wr.ownsRow w.heap.size 5 1 (.slice Ab (txtB pl pl.length).length cb) (pgText p).length (bys (pgText p)) by
                have h := row_base (base' := w.heap.size) HOB.out HW6.out.size
                rw [txtB_end] at h ⊢
                rw [HTE.out]
                exact h)
              clear hlt hi2
              go_wp2_with fail
              go_ret2
              exact ⟨_, _, rfl, .inl ⟨HOK.out, rfl⟩, fun _ => HOE.out, ⟨_, _, _, rfl⟩, HW6.out.trans (HBR6.out.mono HW6.out.size)⟩
end Go.Proofs.YtgfmlaflochffaaGreatDoor
