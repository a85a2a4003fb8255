/-
  The document's words, bytes, joins, and copies of texts (umpireref1.Words, Bytes, Join; umpireref.Texts). Bounds on lengths alone.
-/
import Derived.Test.YtdinjplbbmhleaaDoorApp
import Derived.Lib.AppendStr
namespace Go.Proofs.YtdinjplbbmhleaaDoor
open Go.RowKit Go.Maps W

/-- After k bytes, with the open word's beginning at f, the words ws are done. -/
def WordsAt (l : List UInt8) (k f : Nat) (ws : List (List UInt8)) : Prop :=
  k ≤ l.length + 1 ∧ f ≤ k ∧ (k ≤ l.length → ws ++ wl (Lib.pieceU l f k) (l.drop k) = W.words l) ∧ (k = l.length + 1 → ws = W.words l) ∧ ws.length ≤ k
theorem words_start (l : List UInt8) : WordsAt l 0 0 [] := ⟨by omega, by omega, fun _ => by simp [Lib.pieceU, W.words], by omega, by simp⟩
theorem piece_nil (l : List UInt8) (k : Nat) : Lib.pieceU l k k = [] := by simp [Lib.pieceU]
theorem piece_next {l : List UInt8} {f k : Nat} {c : UInt8} (hf : f ≤ k) (h : l[k]? = some c) : Lib.pieceU l f (k + 1) = Lib.pieceU l f k ++ [c] := by
  rw [← Lib.pieceU_grow l f k 1 hf]
  congr 1
  obtain ⟨hlt, rfl⟩ := List.getElem?_eq_some_iff.1 h
  rw [List.drop_eq_getElem_cons hlt, List.take_succ_cons, List.take_zero]
theorem ext_str (l : List UInt8) (f k : Nat) : Value.string ((⟨l.toArray⟩ : ByteArray).extract f k) = str (Lib.pieceU l f k) := by
  rw [str_of, extract_piece]
theorem txs_snoc (ws : List (List UInt8)) (x : List UInt8) : txs (ws ++ [x]) = txs ws ++ [str x] := by simp [txs]
theorem drop_at {l : List UInt8} {k : Nat} {c : UInt8} (h : l[k]? = some c) : l.drop k = c :: l.drop (k + 1) := by
  obtain ⟨hlt, rfl⟩ := List.getElem?_eq_some_iff.1 h
  exact List.drop_eq_getElem_cons hlt
theorem words_other {l : List UInt8} {k f : Nat} {ws : List (List UInt8)} {c : UInt8} (h : WordsAt l k f ws) (hc : l[k]? = some c) (h32 : c ≠ 32) : WordsAt l (k + 1) f ws := by
  obtain ⟨h1, h2, h3, h4, h5⟩ := h
  have hlt : k < l.length := (List.getElem?_eq_some_iff.1 hc).1
  refine ⟨by omega, by omega, fun _ => ?_, by omega, by omega⟩
  rw [← h3 (by omega), drop_at hc, wl, if_neg h32, piece_next h2 hc]
theorem words_blank_in {l : List UInt8} {k f : Nat} {ws : List (List UInt8)} (h : WordsAt l k f ws) (hc : l[k]? = some 32) (hf : f < k) : WordsAt l (k + 1) (k + 1) (ws ++ [Lib.pieceU l f k]) := by
  obtain ⟨h1, h2, h3, h4, h5⟩ := h
  have hlt : k < l.length := (List.getElem?_eq_some_iff.1 hc).1
  refine ⟨by omega, by omega, fun _ => ?_, by omega, by simp; omega⟩
  rw [← h3 (by omega), drop_at hc, wl, if_pos rfl, if_neg (Lib.pieceU_ne l f k hf (by omega)), piece_nil]
  simp
theorem words_blank_out {l : List UInt8} {k f : Nat} {ws : List (List UInt8)} (h : WordsAt l k f ws) (hc : l[k]? = some 32) (hf : ¬ f < k) : WordsAt l (k + 1) (k + 1) ws := by
  obtain ⟨h1, h2, h3, h4, h5⟩ := h
  obtain rfl : f = k := by omega
  have hlt : f < l.length := (List.getElem?_eq_some_iff.1 hc).1
  refine ⟨by omega, by omega, fun _ => ?_, by omega, by omega⟩
  rw [← h3 (by omega), drop_at hc, wl, if_pos rfl, if_pos (piece_nil l f), piece_nil]
theorem words_end_in {l : List UInt8} {k f : Nat} {ws : List (List UInt8)} (h : WordsAt l k f ws) (hk : k = l.length) (hf : f < k) : WordsAt l (k + 1) (k + 1) (ws ++ [Lib.pieceU l f k]) := by
  obtain ⟨h1, h2, h3, h4, h5⟩ := h
  refine ⟨by omega, by omega, by omega, fun _ => ?_, by simp; omega⟩
  rw [← h3 (by omega), List.drop_of_length_le (by omega), wl, if_neg (Lib.pieceU_ne l f k hf (by omega))]
theorem words_end_out {l : List UInt8} {k f : Nat} {ws : List (List UInt8)} (h : WordsAt l k f ws) (hk : k = l.length) (hf : ¬ f < k) : WordsAt l (k + 1) (k + 1) ws := by
  obtain ⟨h1, h2, h3, h4, h5⟩ := h
  obtain rfl : f = k := by omega
  refine ⟨by omega, by omega, by omega, fun _ => ?_, by omega⟩
  rw [← h3 (by omega), List.drop_of_length_le (by omega), wl, if_pos (piece_nil l f)]
  simp

set_option maxHeartbeats 4000000 in
set_option maxRecDepth 100000 in
theorem wordsRef (l : List UInt8) (hlen : l.length ≤ 1000000000) (w : World) :
    Calls Tryd.prog 17 #[.string ⟨l.toArray⟩] w fun e w' => ∃ r, e = .returned r ∧ w'.ownsRow w.heap.size 9 1 r (W.words l).length (txs (W.words l)) ∧ Below w.heap.size w w' := by
  obtain ⟨i0, hi, hz0, hz1, hz2⟩ := info_parts infoS
  go_enter Tryd.func17, Tryd.ntmps17
  go_wp2
  go_loopw [3, 4, 5] (fun so sf si wr => ∃ (k f : Nat) (ws : List (List UInt8)), si = .int .i64 k ∧ sf = .int .i64 f ∧ WordsAt l k f ws ∧ wr.ownsRow w.heap.size 9 1 so ws.length (txs ws) ∧ Below w.heap.size w wr) (fun _ _ si _ => l.length + 1 - (intOf si).toNat)
  case atStart => exact ⟨0, 0, [], rfl, rfl, words_start l, World.ownsRow_nil _ _ _ _, Below.refl _ _⟩
  case round =>
    obtain ⟨k, f, ws, rfl, rfl, hW, hown, hb⟩ := hrel
    have hk : k ≤ l.length + 1 := hW.1
    have hf : f ≤ k := hW.2.1
    have hwk : ws.length ≤ k := hW.2.2.2.2
    have HW := hid hW
    have HO := hid hown
    have HB := hid hb
    clear hW hown hb
    by_cases hend : k = l.length + 1
    · have hfin := hid (HW.out.2.2.2.1 hend)
      have t1 : decide ((k : Int) ≤ (l.length : Int)) = false := by simp; omega
      have hge : ¬ (k : Int) ≤ (l.length : Int) := by omega
      clear hend
      go_wp2
      go_ret
      exact ⟨_, rfl, by rw [← hfin.out]; exact HO.out, HB.out⟩
    · have hle : k ≤ l.length := by omega
      clear hend
      by_cases hkl : k = l.length
      · have t2 : ((k : Int) == (l.length : Int)) = true := by simp; omega
        have hkl' := hid hkl
        clear hkl
        by_cases hfk : f < k
        · go_wp2_with (at_builtin; refine wpList_append_own _ rfl (.tmp 25) (.tmp 30) 22 rfl w.heap.size 9 i0 (.string .empty) 1 16 Tryd.underlying22 hi hz0 hz1 hz2 rfl (by decide) _ _ _ rfl (HO.out.alloc _) ⟨wr.heap.size, 0, none⟩ 1 1 [_] rfl rfl (cell_one_new _ _ _) (by simp [Value.oneCell']) (by unfold maxLen; omega) (by omega) (by have := HB.out.size; simp; omega) ?_; intro v2 w2 hown2 hgrow2 _)
          rw [ext_str] at hown2
          have hb2 : Below w.heap.size w w2 := grown_below HB.out HB.out.size HO.out (Nat.le_refl _) hgrow2
          have hown3 : w2.ownsRow w.heap.size 9 1 v2 (ws ++ [Lib.pieceU l f k]).length (txs (ws ++ [Lib.pieceU l f k])) := by rw [txs_snoc]; simpa using hown2
          have HF := hid (And.intro hown3 hb2)
          clear hown2 hgrow2 hown3 hb2
          go_roundw
          case rel => exact ⟨k + 1, k + 1, ws ++ [Lib.pieceU l f k], by go_num, by go_num, words_end_in HW.out hkl'.out (by omega), HF.out.1, HF.out.2⟩
          case measure => simp [intOf] <;> omega
        · go_wp2
          go_roundw
          case rel => exact ⟨k + 1, k + 1, ws, by go_num, by go_num, words_end_out HW.out hkl'.out (by omega), HO.out, HB.out⟩
          case measure => simp [intOf] <;> omega
      · have hlt : k < l.length := by omega
        have t2 : ((k : Int) == (l.length : Int)) = false := by simp; omega
        obtain ⟨c, hc⟩ : ∃ c, l[k]? = some c := ⟨l[k], List.getElem?_eq_getElem hlt⟩
        have hgB : (⟨l.toArray⟩ : ByteArray)[k]'(by simpa [ByteArray.size] using hlt) = c := by
          rw [List.getElem?_eq_getElem hlt] at hc
          injection hc
        have HC := hid hc
        clear hc hkl
        by_cases h32 : c = 32
        · have t3 : ((c.toNat : Int) == 32) = true := by subst h32; rfl
          have HC2 := hid (show l[k]? = some 32 by rw [HC.out, h32])
          clear h32
          by_cases hfk : f < k
          · go_wp2_with (at_builtin; refine wpList_append_own _ rfl (.tmp 25) (.tmp 30) 22 rfl w.heap.size 9 i0 (.string .empty) 1 16 Tryd.underlying22 hi hz0 hz1 hz2 rfl (by decide) _ _ _ rfl (HO.out.alloc _) ⟨wr.heap.size, 0, none⟩ 1 1 [_] rfl rfl (cell_one_new _ _ _) (by simp [Value.oneCell']) (by unfold maxLen; omega) (by omega) (by have := HB.out.size; simp; omega) ?_; intro v2 w2 hown2 hgrow2 _)
            rw [ext_str] at hown2
            have hb2 : Below w.heap.size w w2 := grown_below HB.out HB.out.size HO.out (Nat.le_refl _) hgrow2
            have hown3 : w2.ownsRow w.heap.size 9 1 v2 (ws ++ [Lib.pieceU l f k]).length (txs (ws ++ [Lib.pieceU l f k])) := by rw [txs_snoc]; simpa using hown2
            have HF := hid (And.intro hown3 hb2)
            clear hown2 hgrow2 hown3 hb2
            go_roundw
            case rel => exact ⟨k + 1, k + 1, ws ++ [Lib.pieceU l f k], by go_num, by go_num, words_blank_in HW.out HC2.out (by omega), HF.out.1, HF.out.2⟩
            case measure => simp [intOf] <;> omega
          · go_wp2
            go_roundw
            case rel => exact ⟨k + 1, k + 1, ws, by go_num, by go_num, words_blank_out HW.out HC2.out (by omega), HO.out, HB.out⟩
            case measure => simp [intOf] <;> omega
        · have t3 : ((c.toNat : Int) == 32) = false := by
            rw [beq_eq_false_iff_ne]
            intro e
            exact h32 (UInt8.toNat_inj.1 (by show c.toNat = 32; omega))
          have hnx := hid (words_other HW.out HC.out h32)
          clear h32
          go_wp2
          go_roundw
          case rel => exact ⟨k + 1, f, ws, by go_num, rfl, hnx.out, HO.out, HB.out⟩
          case measure => simp [intOf] <;> omega

/-- The document's bytes of a number. -/
theorem or128'' {m : Nat} (h : m < 128) : bits BinOp.or IntKind.u8 (m : Int) 128 = ((UInt8.ofNat (m + 128)).toNat : Int) := by
  have e := or128 m
  rw [show ((m : Int) % 256) = (m : Int) by omega, show m % 128 = m by omega] at e
  exact e
theorem shl_one {n : Int} (h0 : 0 ≤ n) (h1 : n ≤ 9223372036854775807) : (zig n : Int) = n * 2 := by unfold zig; rw [if_neg (by omega)]; omega
set_option maxHeartbeats 4000000 in
set_option maxRecDepth 100000 in
theorem bytesRef (n : Int) (h0 : -9223372036854775808 ≤ n) (h1 : n ≤ 9223372036854775807) (w : World) :
    Calls Tryd.prog 29 #[.int .i64 n] w fun e w' => ∃ r, e = .returned r ∧ w'.ownsRow w.heap.size 5 1 r (vb (zig n)).length (bys (vb (zig n))) ∧ Below w.heap.size w w' := by
  obtain ⟨i0, hi, hz0, hz1, hz2⟩ := info_parts infoB
  have hz := zig_lt n h0 h1
  by_cases hneg : n < 0
  · have hx := not_shl h0 hneg
    generalize zig n = u at *
    go_enter Tryd.func29, Tryd.ntmps29
    go_wp2
    have hlu := vb_ten u hz
    go_loopw [3, 4] (fun su so wr => ∃ (k : Nat) (l : List UInt8), su = .int .u64 (k : Int) ∧ k < 18446744073709551616 ∧ l ++ vb k = vb u ∧ wr.ownsRow w.heap.size 5 1 so l.length (bys l) ∧ Below w.heap.size w wr) (fun su _ _ => (intOf su).toNat)
    case atStart => exact ⟨u, [], rfl, hz, rfl, World.ownsRow_nil _ _ _ _, Below.refl _ _⟩
    case round =>
      obtain ⟨k, l, rfl, hk, hl, hown, hb⟩ := hrel
      have hl2 : l.length + (vb k).length = (vb u).length := by have := congrArg List.length hl; simpa using this
      have hll : l.length ≤ 10 := by omega
      have HL := hid hl
      have HK := hid hk
      have HZ := hid hz
      have HO := hid hown
      have HB := hid hb
      clear hl hl2 hz hown hb hlu hx
      by_cases hbig : 128 ≤ k
      · have t1 : decide ((128 : Int) ≤ (k : Int)) = true := by simp; omega
        have hand := and_127 hk
        obtain ⟨m, hm⟩ : ∃ m, k % 128 = m := ⟨_, rfl⟩
        have hm1 : m < 128 := by omega
        have HM := hid hm
        rw [hm] at hand
        clear hk hm
        go_wp2_with (at_builtin; refine wpList_append_own _ rfl (.tmp 14) (.tmp 19) 31 rfl w.heap.size 5 i0 (.int .u8 0) 1 1 Tryd.underlying31 hi hz0 hz1 hz2 rfl (by decide) _ _ _ rfl (HO.out.alloc _) ⟨wr.heap.size, 0, none⟩ 1 1 [_] rfl rfl (cell_one_new _ _ _) (by simp [Value.oneCell']) (by unfold maxLen; omega) (by omega) (by have := HB.out.size; simp; omega) ?_; intro v2 w2 hown2 hgrow2 _)
        rw [or128'' hm1] at hown2
        have hb2 : Below w.heap.size w w2 := grown_below HB.out HB.out.size HO.out (Nat.le_refl _) hgrow2
        have hown3 : w2.ownsRow w.heap.size 5 1 v2 (l ++ [UInt8.ofNat (m + 128)]).length (bys (l ++ [UInt8.ofNat (m + 128)])) := by simpa [bys] using hown2
        clear hown2 hgrow2 hand
        go_roundw
        case rel =>
          refine ⟨k / 128, l ++ [UInt8.ofNat (m + 128)], by simp, by have := HK.out; omega, ?_, hown3, hb2⟩
          rw [← HL.out, vb_big (show ¬ k < 128 by omega), HM.out]
          simp
        case measure => simp [intOf]; omega
      · have t1 : decide ((128 : Int) ≤ (k : Int)) = false := by simp; omega
        clear hk
        go_wp2_with (at_builtin; refine wpList_append_own _ rfl (.tmp 23) (.tmp 26) 31 rfl w.heap.size 5 i0 (.int .u8 0) 1 1 Tryd.underlying31 hi hz0 hz1 hz2 rfl (by decide) _ _ _ rfl (HO.out.alloc _) ⟨wr.heap.size, 0, none⟩ 1 1 [_] rfl rfl (cell_one_new _ _ _) (by simp [Value.oneCell']) (by unfold maxLen; omega) (by omega) (by have := HB.out.size; simp; omega) ?_; intro v2 w2 hown2 hgrow2 _)
        have hlow : Value.int IntKind.u8 (k : Int) = Value.int IntKind.u8 ((UInt8.ofNat k).toNat : Int) := by rw [← low256 (show k < 128 by omega)]
        rw [hlow] at hown2
        have hb2 : Below w.heap.size w w2 := grown_below HB.out HB.out.size HO.out (Nat.le_refl _) hgrow2
        have hown3 : w2.ownsRow w.heap.size 5 1 v2 (l ++ [UInt8.ofNat k]).length (bys (l ++ [UInt8.ofNat k])) := by simpa [bys] using hown2
        have hfin : l ++ [UInt8.ofNat k] = vb u := by rw [← HL.out, vb_small (show k < 128 by omega)]
        rw [hfin] at hown3
        have HF := hid (And.intro hown3 hb2)
        clear hown2 hgrow2 hown3 hb2 hfin
        go_wp2
        go_ret
        exact ⟨_, rfl, HF.out⟩
  · have hx := (shl_one (by omega) h1).symm
    generalize zig n = u at *
    go_enter Tryd.func29, Tryd.ntmps29
    go_wp2
    have hlu := vb_ten u hz
    go_loopw [3, 4] (fun su so wr => ∃ (k : Nat) (l : List UInt8), su = .int .u64 (k : Int) ∧ k < 18446744073709551616 ∧ l ++ vb k = vb u ∧ wr.ownsRow w.heap.size 5 1 so l.length (bys l) ∧ Below w.heap.size w wr) (fun su _ _ => (intOf su).toNat)
    case atStart => exact ⟨u, [], rfl, hz, rfl, World.ownsRow_nil _ _ _ _, Below.refl _ _⟩
    case round =>
      obtain ⟨k, l, rfl, hk, hl, hown, hb⟩ := hrel
      have hl2 : l.length + (vb k).length = (vb u).length := by have := congrArg List.length hl; simpa using this
      have hll : l.length ≤ 10 := by omega
      have HL := hid hl
      have HK := hid hk
      have HZ := hid hz
      have HO := hid hown
      have HB := hid hb
      clear hl hl2 hz hown hb hlu hx
      by_cases hbig : 128 ≤ k
      · have t1 : decide ((128 : Int) ≤ (k : Int)) = true := by simp; omega
        have hand := and_127 hk
        obtain ⟨m, hm⟩ : ∃ m, k % 128 = m := ⟨_, rfl⟩
        have hm1 : m < 128 := by omega
        have HM := hid hm
        rw [hm] at hand
        clear hk hm
        go_wp2_with (at_builtin; refine wpList_append_own _ rfl (.tmp 14) (.tmp 19) 31 rfl w.heap.size 5 i0 (.int .u8 0) 1 1 Tryd.underlying31 hi hz0 hz1 hz2 rfl (by decide) _ _ _ rfl (HO.out.alloc _) ⟨wr.heap.size, 0, none⟩ 1 1 [_] rfl rfl (cell_one_new _ _ _) (by simp [Value.oneCell']) (by unfold maxLen; omega) (by omega) (by have := HB.out.size; simp; omega) ?_; intro v2 w2 hown2 hgrow2 _)
        rw [or128'' hm1] at hown2
        have hb2 : Below w.heap.size w w2 := grown_below HB.out HB.out.size HO.out (Nat.le_refl _) hgrow2
        have hown3 : w2.ownsRow w.heap.size 5 1 v2 (l ++ [UInt8.ofNat (m + 128)]).length (bys (l ++ [UInt8.ofNat (m + 128)])) := by simpa [bys] using hown2
        clear hown2 hgrow2 hand
        go_roundw
        case rel =>
          refine ⟨k / 128, l ++ [UInt8.ofNat (m + 128)], by simp, by have := HK.out; omega, ?_, hown3, hb2⟩
          rw [← HL.out, vb_big (show ¬ k < 128 by omega), HM.out]
          simp
        case measure => simp [intOf]; omega
      · have t1 : decide ((128 : Int) ≤ (k : Int)) = false := by simp; omega
        clear hk
        go_wp2_with (at_builtin; refine wpList_append_own _ rfl (.tmp 23) (.tmp 26) 31 rfl w.heap.size 5 i0 (.int .u8 0) 1 1 Tryd.underlying31 hi hz0 hz1 hz2 rfl (by decide) _ _ _ rfl (HO.out.alloc _) ⟨wr.heap.size, 0, none⟩ 1 1 [_] rfl rfl (cell_one_new _ _ _) (by simp [Value.oneCell']) (by unfold maxLen; omega) (by omega) (by have := HB.out.size; simp; omega) ?_; intro v2 w2 hown2 hgrow2 _)
        have hlow : Value.int IntKind.u8 (k : Int) = Value.int IntKind.u8 ((UInt8.ofNat k).toNat : Int) := by rw [← low256 (show k < 128 by omega)]
        rw [hlow] at hown2
        have hb2 : Below w.heap.size w w2 := grown_below HB.out HB.out.size HO.out (Nat.le_refl _) hgrow2
        have hown3 : w2.ownsRow w.heap.size 5 1 v2 (l ++ [UInt8.ofNat k]).length (bys (l ++ [UInt8.ofNat k])) := by simpa [bys] using hown2
        have hfin : l ++ [UInt8.ofNat k] = vb u := by rw [← HL.out, vb_small (show k < 128 by omega)]
        rw [hfin] at hown3
        have HF := hid (And.intro hown3 hb2)
        clear hown2 hgrow2 hown3 hb2 hfin
        go_wp2
        go_ret
        exact ⟨_, rfl, HF.out⟩

set_option maxHeartbeats 2000000 in
set_option maxRecDepth 100000 in
theorem copyTexts (v : Value) (l : List (List UInt8)) (w : World) (hv : Reads w v (txs l)) (hlen : l.length ≤ 1000000000) :
    Calls Tryd.prog 14 #[v] w fun e w' => ∃ r, e = .returned r ∧ w'.ownsRow w.heap.size 9 1 r l.length (txs l) ∧ Below w.heap.size w w' := by
  obtain ⟨i0, hi, hz0, hz1, hz2⟩ := info_parts infoS
  obtain ⟨A, c, b, o, rfl, hA, hA2, hc, hcells⟩ := hv
  rw [txs_len] at hA hA2 hc ⊢
  have HV := hid hcells
  have HA := hid (And.intro hA hA2)
  clear hcells hA hA2
  go_enter Tryd.func14, Tryd.ntmps14
  go_wp2_with (at_make; refine wpList_make_own _ rfl _ _ 22 rfl w.heap.size 9 i0 (.string .empty) 1 Tryd.underlying22 hi hz0 hz1 .i64 .i64 _ l.length rfl rfl rfl (by rw [hz2]; omega) (by unfold maxLen; omega) (Nat.le_refl _) ?_; intro w0 hown0 hgrow0)
  have hb0 : Below w.heap.size w w0 := (Below.refl _ _).grown hgrow0 (Nat.le_refl _) (fun k h => by cases h)
  clear hgrow0
  go_loopw [3, 4] (fun so si wr => ∃ k : Nat, si = .int .i64 k ∧ k ≤ l.length ∧ wr.ownsRow w.heap.size 9 1 so k (txs (l.take k)) ∧ Below w.heap.size w wr) (fun _ si _ => l.length - (intOf si).toNat)
  case atStart => exact ⟨0, rfl, Nat.zero_le _, hown0, hb0⟩
  case round =>
    obtain ⟨k, rfl, hk, hown, hb⟩ := hrel
    have HO := hid hown
    have HB := hid hb
    clear hown hb hown0 hb0
    by_cases hlt : k < l.length
    · obtain ⟨x, hx⟩ : ∃ x, l[k]? = some x := ⟨l[k], List.getElem?_eq_getElem hlt⟩
      have hA' : A = some ⟨b, o, none⟩ := by
        cases A with
        | none => have := HA.out.1 rfl; omega
        | some z => rw [HA.out.2 z rfl (by omega)]
      subst hA'
      have c0 : w.cell? ⟨b, o + k, none⟩ = some (str x) := HV.out k _ (by simp [txs, hx])
      have c1 : wr.cell? ⟨b, o + k, none⟩ = some (str x) := (HB.out.cell (p := ⟨b, o + k, none⟩) (World.block_lt_of_cell? w _ c0)).trans c0
      have hnext := hid (show txs (l.take k) ++ [str x] = txs (l.take (k + 1)) by rw [List.take_add_one, hx, ← txs_snoc]; rfl)
      clear c0 hx
      unfold str at c1
      go_wp2_with (at_builtin; refine wpList_append_own _ rfl (.tmp 14) (.tmp 19) 22 rfl w.heap.size 9 i0 (.string .empty) 1 16 Tryd.underlying22 hi hz0 hz1 hz2 rfl (by decide) _ _ _ rfl (HO.out.alloc _) ⟨wr.heap.size, 0, none⟩ 1 1 [_] rfl rfl (cell_one_new _ _ _) (by simp [Value.oneCell']) (by unfold maxLen; omega) (by omega) (by have := HB.out.size; simp; omega) ?_; intro v2 w2 hown2 hgrow2 _)
      have hb2 : Below w.heap.size w w2 := grown_below HB.out HB.out.size HO.out (Nat.le_refl _) hgrow2
      have HF := hid (And.intro (show w2.ownsRow w.heap.size 9 1 v2 (k + 1) (txs (l.take (k + 1))) by rw [← hnext.out]; exact hown2) hb2)
      clear hown2 hgrow2 hb2 c1
      go_roundw
      case rel => exact ⟨k + 1, by go_num, by omega, HF.out.1, HF.out.2⟩
      case measure => simp [intOf] <;> omega
    · obtain rfl : k = l.length := by omega
      have HF := hid (show wr.ownsRow w.heap.size 9 1 _ l.length (txs l) by have := HO.out; rwa [List.take_length] at this)
      go_wp2
      go_ret
      exact ⟨_, rfl, HF.out, HB.out⟩
end Go.Proofs.YtdinjplbbmhleaaDoor
