/-
  The chapter's examples (umpirelaw1.first): true, in every memory in which the package variables hold what their texts lay.
-/
import Derived.Test.YtdinjplbbmhleaaDoorSame
import Derived.Test.YtdinjplbbmhleaaDoorGet
namespace Go.Proofs.YtdinjplbbmhleaaDoor
open Go.RowKit Go.Maps W

theorem itoa5 : Lib.itoa (-5) = [45, 53] := by
  unfold Lib.itoa
  rw [if_pos (by decide), Lib.decDigits, dif_pos (by decide)]
  rfl
theorem itoa7' : Lib.itoa 7 = [55] := by
  unfold Lib.itoa
  rw [if_neg (by decide), Lib.decDigits, dif_pos (by decide)]
  rfl
theorem itoa7 : Lib.itoa (-7) = [45, 55] := by
  unfold Lib.itoa
  rw [if_pos (by decide), Lib.decDigits, dif_pos (by decide)]
  rfl
theorem num5 : number [45, 53] = some (-5) := by
  have h := number_itoa (-5) (by decide) (by decide)
  rw [itoa5, if_pos (by decide)] at h
  exact h
theorem num007 : number [48, 48, 55] = none := by
  unfold number
  have h : Lib.atoiAll [48, 48, 55] = .ok 7 := by decide
  rw [h]
  simp [itoa7']
theorem words1 : W.words [32, 32, 97, 32, 32, 98, 99, 32] = [[97], [98, 99]] := by decide
theorem vb128 : vb (zig 64) = [128, 1] := by
  have h : zig 64 = 128 := by decide
  rw [h, vb_big (by decide), vb_small (by decide)]
  rfl
theorem vb129 : (vb (zig (-65))).length = 2 := by
  have h : zig (-65) = 129 := by decide
  rw [h, vb_big (by decide), vb_small (by decide)]
  rfl
theorem vget128 : vget [128, 1, 7] = .ok 128 2 := by
  unfold vget
  simp [vgo]
theorem silent1 : silent [32, 35, 32, 120] = true := by decide
theorem join1 : Lib.join [[97], [98, 99]] [32] = [97, 32, 98, 99] := by decide

theorem reads_block {w : World} {g : Nat} {t : TypeId} {cs : Array Value} {fr : Nat × Nat} {n : Nat} (h : w.heap[g]? = some (.cells cs t fr)) (hn : n = cs.toList.length) : Reads w (.slice (some ⟨g, 0, none⟩) n n) cs.toList := by
  subst hn
  refine ⟨some ⟨g, 0, none⟩, cs.toList.length, g, 0, rfl, by simp, fun a ha _ => by injection ha with ha; exact ha.symm, Nat.le_refl _, fun j u hj => ?_⟩
  rw [Nat.zero_add, cell_of_row w g j cs t fr h]
  simpa using hj
theorem sameTexts_same (v1 v2 : Value) (a : List (List UInt8)) (w : World) (h1 : Reads w v1 (txs a)) (h2 : Reads w v2 (txs a)) (hla : a.length ≤ 1000000000) :
    Calls Tryd.prog 15 #[v1, v2] w fun e w' => e = .returned (.bool true) ∧ Below w.heap.size w w' :=
  (sameTexts v1 v2 a a w h1 h2 hla hla).mono fun e w' ⟨he, n, hw⟩ => ⟨by simpa using he, hw ▸ ((Only.refl [] w).drewN n).below_of (Nat.le_refl _) (by simp)⟩
theorem sameBytes_same (v1 v2 : Value) (a : List UInt8) (w : World) (h1 : Reads w v1 (bys a)) (h2 : Reads w v2 (bys a)) :
    Calls Tryd.prog 28 #[v1, v2] w fun e w' => e = .returned (.bool true) ∧ w = w' :=
  (sameBytes v1 v2 a a w h1 h2).mono fun e w' ⟨he, hw⟩ => ⟨by simpa using he, hw⟩

theorem below_al {B : Nat} {w a b : World} {o : Obj} (h : Below B w a) (hB : B ≤ a.heap.size) (hb : Below (a.alloc o).heap.size (a.alloc o) b) : Below B w b :=
  (h.alloc hB o).trans (hb.mono (by simp; omega))
theorem Laid.of {w w' : World} (h : Laid w) (hb : Below w.heap.size w w') : Laid w' := h.below hb

set_option maxHeartbeats 4000000 in
set_option maxRecDepth 100000 in
theorem first (w : World) (hL : Laid w) : Calls Tryd.prog 13 #[] w fun e w' => e = .returned (.bool true) ∧ Below w.heap.size w w' := by
  have h1 := hid (number_ok [45, 53] (by simp) (-5) num5 w hL)
  have HL := hid hL
  have hN := fun W a => neq_nil 211 a (.inr rfl) W
  clear hL
  go_enter Tryd.func13, Tryd.ntmps13
  go_wp2_with fail
  refine h1.out.mono ?_
  rintro e w1 ⟨rfl, hb1⟩
  have hL1 := HL.out.below hb1
  have h2 := hid (number_bad [48, 48, 55] (by simp) num007 w1 hL1)
  have HL1 := hid hL1
  have HB1 := hid hb1
  clear hL1 hb1 h1 HL
  go_wp2_with fail
  refine h2.out.mono ?_
  rintro e w2 ⟨a2, rfl, hb2⟩
  have hL2 := HL1.out.below hb2
  have hb := HB1.out.trans (hb2.mono HB1.out.size)
  have h3 : Calls Tryd.prog 16 #[.string ⟨#[32, 32, 97, 32, 32, 98, 99, 32]⟩] w2 fun e w' => ∃ A, e = .returned (.slice (some ⟨A, 0, none⟩) 2 2) ∧ w2.heap.size ≤ A ∧ w'.ownsRow w2.heap.size 9 1 (.slice (some ⟨A, 0, none⟩) 2 2) 2 (txs [[97], [98, 99]]) ∧ Below w2.heap.size w2 w' := by
    have h := wordsCall [32, 32, 97, 32, 32, 98, 99, 32] (by simp) w2
    rw [words1] at h
    exact h
  have H3 := hid h3
  have HL2 := hid hL2
  have HB2 := hid hb
  clear hL2 hb2 hb h3 h2 HL1 HB1
  go_wp2_with fail
  refine H3.out.mono ?_
  rintro e w3 ⟨A3, rfl, _, hown3, hb3⟩
  have HL3 := hid (HL2.out.below hb3)
  have HB3 := hid (HB2.out.trans (hb3.mono HB2.out.size))
  have HO3 := hid hown3
  clear hown3 hb3 H3 HL2 HB2
  go_wp2_with fail
  refine (sameTexts_same _ _ [[97], [98, 99]] _ (reads_of_row (HO3.out.alloc _)) (reads_block (heap_alloc_new w3 _) rfl) (by simp)).mono ?_
  rintro e w4 ⟨rfl, hb4⟩
  have hb := below_al HB3.out HB3.out.size hb4
  have h5 : Calls Tryd.prog 22 #[.slice none 0 0, .int .i64 64] w4 fun e w' => ∃ r, e = .returned r ∧ w'.ownsRow w4.heap.size 5 1 r 2 (bys [128, 1]) ∧ Below w4.heap.size w4 w' := by
    have h := put (.slice none 0 0) [] 64 (by decide) (by decide) w4 (Reads.nil w4) (by simp)
    rw [vb128] at h
    exact h
  have HL4 := hid (HL3.out.below (below_al (Below.refl w3.heap.size w3) (Nat.le_refl _) hb4))
  have HB4 := hid hb
  have H5 := hid h5
  clear hb hb4 h5 HL3 HB3 HO3
  go_wp2_with fail
  refine H5.out.mono ?_
  rintro e w5 ⟨r5, rfl, hown5, hb5⟩
  obtain ⟨A5, cap5, rfl⟩ := row_shape hown5
  have HL5 := hid (HL4.out.below hb5)
  have HB5 := hid (HB4.out.trans (hb5.mono HB4.out.size))
  have HO5 := hid hown5
  clear hown5 hb5 H5 HL4 HB4
  go_wp2_with fail
  refine (sameBytes_same _ _ [128, 1] _ (reads_of_row (HO5.out.alloc _)) (reads_block (heap_alloc_new w5 _) rfl)).mono ?_
  rintro e w6 ⟨rfl, rfl⟩
  have hL6 : Laid ((w5.alloc (.cells #[.int .u8 128, .int .u8 1] 5)).alloc (.cells #[.int .u8 128, .int .u8 1, .int .u8 7] 5)) := HL5.out.below (((Below.refl w5.heap.size w5).alloc (Nat.le_refl _) _).alloc (by simp) _)
  have h7 : Calls Tryd.prog 23 #[.slice (some ⟨w5.heap.size + 1, 0, none⟩) 3 3] ((w5.alloc (.cells #[.int .u8 128, .int .u8 1] 5)).alloc (.cells #[.int .u8 128, .int .u8 1, .int .u8 7] 5)) fun e w' => e = .returned (.tuple #[.int .i64 64, .int .i64 2, .nilIface]) ∧
      Below ((w5.alloc (.cells #[.int .u8 128, .int .u8 1] 5)).alloc (.cells #[.int .u8 128, .int .u8 1, .int .u8 7] 5)).heap.size ((w5.alloc (.cells #[.int .u8 128, .int .u8 1] 5)).alloc (.cells #[.int .u8 128, .int .u8 1, .int .u8 7] 5)) w' := by
    have hr := reads_block (heap_alloc_new (w5.alloc (.cells #[.int .u8 128, .int .u8 1] 5)) (.cells #[.int .u8 128, .int .u8 1, .int .u8 7] 5)) (n := 3) rfl
    rw [World.size_alloc] at hr
    refine (get _ [128, 1, 7] _ hr (by simp) hL6).mono ?_
    rintro e w' ⟨r, rfl, hg, hb⟩
    unfold GetIs at hg
    rw [vget128] at hg
    have hz : zag 128 = 64 := by decide
    simp only [hz] at hg
    rw [hg]
    exact ⟨rfl, hb⟩
  have H7 := hid h7
  have HB7 := hid (show Below w.heap.size w ((w5.alloc (.cells #[.int .u8 128, .int .u8 1] 5)).alloc (.cells #[.int .u8 128, .int .u8 1, .int .u8 7] 5)) from (HB5.out.alloc HB5.out.size _).alloc (by have := HB5.out.size; simp; omega) _)
  have HL7 := hid hL6
  clear hL6 h7 HB5 HL5 HO5
  go_wp2_with fail
  refine H7.out.mono ?_
  rintro e w7 ⟨rfl, hb7⟩
  have HL8 := hid (HL7.out.below hb7)
  have HB8 := hid (HB7.out.trans (hb7.mono HB7.out.size))
  clear H7 hb7 HL7 HB7
  have h8 := size (-65) (by decide) (by decide) w7
  rw [vb129] at h8
  have H8 := hid h8
  clear h8
  go_wp2_with fail
  refine H8.out.mono ?_
  rintro e w8 ⟨rfl, hb8⟩
  have HL9 := hid (HL8.out.below hb8)
  have HB9 := hid (HB8.out.trans (hb8.mono HB8.out.size))
  clear H8 hb8 HL8 HB8
  have h9 := silentCall [32, 35, 32, 120] (by simp) w8
  rw [silent1] at h9
  have H9 := hid h9
  clear h9
  go_wp2_with fail
  refine H9.out.mono ?_
  rintro e w9 ⟨rfl, rfl⟩
  clear H9
  have h10 := joinCall (.slice (some ⟨w8.heap.size, 0, none⟩) 2 2) [[97], [98, 99]] (w8.alloc (.cells #[str [97], str [98, 99]] 9)) (reads_block (heap_alloc_new w8 _) rfl) (by simp) (by rw [join1]; simp)
  rw [join1] at h10
  have H10 := hid h10
  clear h10
  go_wp2_with fail
  refine H10.out.mono ?_
  rintro e w10 ⟨rfl, hb10⟩
  have hL11 := HL9.out.below (below_al (Below.refl w8.heap.size w8) (Nat.le_refl _) hb10)
  have HB11 := hid (below_al HB9.out HB9.out.size hb10)
  have h11 := print (-7) (by decide) (by decide) w10 hL11
  rw [itoa7] at h11
  have H11 := hid h11
  clear h11 hb10 hL11 H10 HL9 HB9
  go_wp2_with fail
  refine H11.out.mono ?_
  rintro e w11 ⟨rfl, hb11⟩
  have HB12 := hid (HB11.out.trans (hb11.mono HB11.out.size))
  clear hb11 H11 HB11
  go_wp2_with fail
  go_ret
  exact ⟨rfl, HB12.out⟩
end Go.Proofs.YtdinjplbbmhleaaDoor
