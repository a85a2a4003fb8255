/-
  umpireref1.Lines: the document's lines of any bytes.
-/
import Derived.Test.YtdinjplbbmhleaaDoorIter
import Derived.Test.YtdinjplbbmhleaaDoorOne
namespace Go.Proofs.YtdinjplbbmhleaaDoor
open Go.RowKit Go.Maps W

/-- A piece of a slice reads as the piece of its bytes. -/
theorem reads_piece {w : World} {b o n c : Nat} {l : List UInt8} (h : Reads w (.slice (some ⟨b, o, none⟩) n c) (bys l)) (f k : Nat) (hf : f ≤ k) (hk : k ≤ l.length) : Reads w (.slice (some ⟨b, o + f, none⟩) (k - f) (c - f)) (bys (Lib.pieceU l f k)) := by
  obtain ⟨A', c', b', o', he, hA, hA2, hc, hcells⟩ := h
  injection he with e1 e2 e3
  subst e1 e3
  rw [bys_len] at e2 hA hA2 hc
  have hl : (bys (Lib.pieceU l f k)).length = k - f := by simp [bys_len, Lib.pieceU]; omega
  refine ⟨some ⟨b, o + f, none⟩, c - f, b, o + f, by rw [hl], by simp, fun a ha _ => by injection ha with ha; exact ha.symm, by rw [hl]; omega, fun j u hj => ?_⟩
  have hjk : j < k - f := by
    have := (List.getElem?_eq_some_iff.1 hj).1
    omega
  have hb : (⟨b, o, none⟩ : Addr) = ⟨b', o', none⟩ := hA2 _ rfl (by omega)
  injection hb with hb1 hb2
  subst hb1 hb2
  rw [Nat.add_assoc]
  apply hcells
  rw [← hj]
  simp only [bys, Lib.pieceU, List.getElem?_map]
  rw [List.getElem?_take_of_lt (by omega), List.getElem?_drop]

set_option maxHeartbeats 4000000 in
set_option maxRecDepth 100000 in
theorem linesRef (v : Value) (l : List UInt8) (hlen : l.length ≤ 1000000000) (w : World) (hv : Reads w v (bys l)) :
    Calls Tryd.prog 43 #[v] w fun e w' => ∃ r, e = .returned r ∧ w'.ownsRow w.heap.size 9 1 r (lines l).length (txs (lines l)) ∧ Below w.heap.size w w' := by
  obtain ⟨i0, hi, hz0, hz1, hz2⟩ := info_parts infoS
  obtain ⟨A, c, rfl⟩ := hv.shape
  rw [bys_len] at hv ⊢
  have HV := hid hv
  clear hv
  go_enter Tryd.func43, Tryd.ntmps43
  go_wp2
  go_loopw [3, 4, 5] (fun so sf si wr => ∃ (k f : Nat) (ws : List (List UInt8)), si = .int .i64 k ∧ sf = .int .i64 f ∧ k ≤ l.length ∧ LinesAt l k f ws ∧ wr.ownsRow w.heap.size 9 1 so ws.length (txs ws) ∧ Below w.heap.size w wr) (fun _ _ si _ => l.length - (intOf si).toNat)
  case atStart => exact ⟨0, 0, [], rfl, rfl, Nat.zero_le _, lines_start l, World.ownsRow_nil _ _ _ _, Below.refl _ _⟩
  case round =>
    obtain ⟨k, f, ws, rfl, rfl, hk, hW, hown, hb⟩ := hrel
    have hf : f ≤ k := hW.2.1
    have hwk : ws.length ≤ k := hW.2.2.2.2
    have HW := hid hW
    have HO := hid hown
    have HB := hid hb
    have HR := hid (HV.out.below hb (Nat.le_refl _))
    clear hW hown hb
    by_cases hlt : k < l.length
    · obtain ⟨x, hc⟩ : ∃ x, l[k]? = some x := ⟨l[k], List.getElem?_eq_getElem hlt⟩
      obtain ⟨b1, o1, rfl, hcl, hcap⟩ : ∃ (b1 o1 : Nat), A = some ⟨b1, o1, none⟩ ∧ wr.cell? ⟨b1, o1 + k, none⟩ = some (.int .u8 (x.toNat : Int)) ∧ l.length ≤ c := by
        obtain ⟨A1, c1, b1, o1, he, hA1, hA2, hc1, hcells⟩ := HR.out
        injection he with e1 e2 e3
        subst e1 e3
        rw [bys_len] at hA1 hA2 hc1
        cases A with
        | none => exact absurd (hA1 rfl).1 (by omega)
        | some a =>
          obtain rfl := hA2 a rfl (by omega)
          exact ⟨b1, o1, rfl, hcells k _ (by simp [bys, hc]), hc1⟩
      have HC := hid hc
      clear hc
      by_cases h10 : x = 10
      · have t3 : ((x.toNat : Int) == 10) = true := by subst h10; rfl
        have HC2 := hid (show l[k]? = some 10 by rw [HC.out, h10])
        clear h10
        have hcv := conv_bytes (reads_piece HR.out f k hf hk)
        have hsub : (k : Int) - (f : Int) = ((k - f : Nat) : Int) := by omega
        go_wp2_with (at_builtin; refine wpList_append_own _ rfl (.tmp 17) (.tmp 23) 22 rfl w.heap.size 9 i0 (.string .empty) 1 16 Tryd.underlying22 hi hz0 hz1 hz2 rfl (by decide) _ _ _ rfl (HO.out.alloc _) ⟨wr.heap.size, 0, none⟩ 1 1 [_] rfl rfl (cell_one_new _ _ _) (by simp [Value.oneCell']) (by unfold maxLen; omega) (by omega) (by have := HB.out.size; simp; omega) ?_; intro v2 w2 hown2 hgrow2 _)
        have hb2 : Below w.heap.size w w2 := grown_below HB.out HB.out.size HO.out (Nat.le_refl _) hgrow2
        have hown3 : w2.ownsRow w.heap.size 9 1 v2 (ws ++ [Lib.pieceU l f k]).length (txs (ws ++ [Lib.pieceU l f k])) := by rw [txs_snoc]; simpa [str] using hown2
        exact ⟨⟨k + 1, k + 1, ws ++ [Lib.pieceU l f k], by go_num, by go_num, by omega, (lines_newline HW.out HC2.out).1, hown3, hb2⟩, by simp [intOf]; omega⟩
      · have t3 : ((x.toNat : Int) == 10) = false := by
          rw [beq_eq_false_iff_ne]
          intro e
          exact h10 (UInt8.toNat_inj.1 (by show x.toNat = 10; omega))
        have hnx := hid (lines_other HW.out HC.out h10)
        clear h10
        go_wp2
        exact ⟨⟨k + 1, f, ws, by go_num, rfl, by omega, hnx.out, HO.out, HB.out⟩, by simp [intOf]; omega⟩
    · obtain rfl : k = l.length := by omega
      by_cases hfk : f < l.length
      · obtain ⟨b1, o1, rfl, hcap⟩ : ∃ (b1 o1 : Nat), A = some ⟨b1, o1, none⟩ ∧ l.length ≤ c := by
          obtain ⟨A1, c1, b1, o1, he, hA1, hA2, hc1, hcells⟩ := HR.out
          injection he with e1 e2 e3
          subst e1 e3
          rw [bys_len] at hA1 hA2 hc1
          cases A with
          | none => exact absurd (hA1 rfl).1 (by omega)
          | some a =>
            obtain rfl := hA2 a rfl (by omega)
            exact ⟨b1, o1, rfl, hc1⟩
        have hcv := conv_bytes (reads_piece HR.out f l.length hf hk)
        have hsub : (l.length : Int) - (f : Int) = ((l.length - f : Nat) : Int) := by omega
        have hend := hid (lines_end_in HW.out rfl hfk).1
        have hfin := hid (lines_done hend.out rfl)
        go_wp2_with (at_builtin; refine wpList_append_own _ rfl (.tmp 31) (.tmp 36) 22 rfl w.heap.size 9 i0 (.string .empty) 1 16 Tryd.underlying22 hi hz0 hz1 hz2 rfl (by decide) _ _ _ rfl (HO.out.alloc _) ⟨wr.heap.size, 0, none⟩ 1 1 [_] rfl rfl (cell_one_new _ _ _) (by simp [Value.oneCell']) (by unfold maxLen; omega) (by omega) (by have := HB.out.size; simp; omega) ?_; intro v2 w2 hown2 hgrow2 _)
        have hb2 : Below w.heap.size w w2 := grown_below HB.out HB.out.size HO.out (Nat.le_refl _) hgrow2
        have hown3 : w2.ownsRow w.heap.size 9 1 v2 (ws ++ [Lib.pieceU l f l.length]).length (txs (ws ++ [Lib.pieceU l f l.length])) := by rw [txs_snoc]; simpa [str] using hown2
        rw [hfin.out] at hown3
        go_ret
        exact ⟨_, rfl, hown3, hb2⟩
      · have hfin := hid (lines_done (lines_end_out HW.out rfl hfk) rfl)
        have hge : ¬ (f : Int) < (l.length : Int) := by omega
        clear hk hwk
        go_wp2
        go_ret
        exact ⟨_, rfl, by rw [← hfin.out]; exact HO.out, HB.out⟩
end Go.Proofs.YtdinjplbbmhleaaDoor
