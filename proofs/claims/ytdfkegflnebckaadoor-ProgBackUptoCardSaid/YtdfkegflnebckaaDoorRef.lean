/-
  The document's words, bytes, joins, and copies of texts (umpireref1.Words, Bytes, Join; umpireref.Texts). Bounds on lengths alone.
-/
import Derived.Test.YtdfkegflnebckaaDoorApp
import Derived.Lib.AppendStr
namespace Go.Proofs.YtdfkegflnebckaaDoor
open Go.RowKit Go.Maps W

/-- After k bytes, with the open word's beginning at f, the words ws are done. -/
def WordsAt (l : List UInt8) (k f : Nat) (ws : List (List UInt8)) : Prop :=
  k ≤ l.length + 1 ∧ f ≤ k ∧ (k ≤ l.length → ws ++ wl (Lib.pieceU l f k) (l.drop k) = W.words l) ∧ (k = l.length + 1 → ws = W.words l) ∧ ws.length ≤ k
theorem words_start (l : List UInt8) : WordsAt l 0 0 [] := ⟨by omega, by omega, fun _ => by simp [Lib.pieceU, W.words], by omega, by simp⟩
theorem piece_nil (l : List UInt8) (k : Nat) : Lib.pieceU l k k = [] := by simp [Lib.pieceU]
theorem piece_next {l : List UInt8} {f k : Nat} {c : UInt8} (hf : f ≤ k) (h : l[k]? = some c) : Lib.pieceU l f (k + 1) = Lib.pieceU l f k ++ [c] := by
  rw [← Lib.pieceU_grow l f k 1 hf]
  congr 1
  obtain ⟨hlt, rfl⟩ := List.getElem?_eq_some_iff.1 h
  rw [List.drop_eq_getElem_cons hlt, List.take_succ_cons, List.take_zero]
theorem ext_str (l : List UInt8) (f k : Nat) : Value.string ((⟨l.toArray⟩ : ByteArray).extract f k) = str (Lib.pieceU l f k) := by
  rw [str_of, extract_piece]
theorem txs_snoc (ws : List (List UInt8)) (x : List UInt8) : txs (ws ++ [x]) = txs ws ++ [str x] := by simp [txs]
theorem drop_at {l : List UInt8} {k : Nat} {c : UInt8} (h : l[k]? = some c) : l.drop k = c :: l.drop (k + 1) := by
  obtain ⟨hlt, rfl⟩ := List.getElem?_eq_some_iff.1 h
  exact List.drop_eq_getElem_cons hlt
theorem words_other {l : List UInt8} {k f : Nat} {ws : List (List UInt8)} {c : UInt8} (h : WordsAt l k f ws) (hc : l[k]? = some c) (h32 : c ≠ 32) : WordsAt l (k + 1) f ws := by
  obtain ⟨h1, h2, h3, h4, h5⟩ := h
  have hlt : k < l.length := (List.getElem?_eq_some_iff.1 hc).1
  refine ⟨by omega, by omega, fun _ => ?_, by omega, by omega⟩
  rw [← h3 (by omega), drop_at hc, wl, if_neg h32, piece_next h2 hc]
theorem words_blank_in {l : List UInt8} {k f : Nat} {ws : List (List UInt8)} (h : WordsAt l k f ws) (hc : l[k]? = some 32) (hf : f < k) : WordsAt l (k + 1) (k + 1) (ws ++ [Lib.pieceU l f k]) := by
  obtain ⟨h1, h2, h3, h4, h5⟩ := h
  have hlt : k < l.length := (List.getElem?_eq_some_iff.1 hc).1
  refine ⟨by omega, by omega, fun _ => ?_, by omega, by simp; omega⟩
  rw [← h3 (by omega), drop_at hc, wl, if_pos rfl, if_neg (Lib.pieceU_ne l f k hf (by omega)), piece_nil]
  simp
theorem words_blank_out {l : List UInt8} {k f : Nat} {ws : List (List UInt8)} (h : WordsAt l k f ws) (hc : l[k]? = some 32) (hf : ¬ f < k) : WordsAt l (k + 1) (k + 1) ws := by
  obtain ⟨h1, h2, h3, h4, h5⟩ := h
  obtain rfl : f = k := by omega
  have hlt : f < l.length := (List.getElem?_eq_some_iff.1 hc).1
  refine ⟨by omega, by omega, fun _ => ?_, by omega, by omega⟩
  rw [← h3 (by omega), drop_at hc, wl, if_pos rfl, if_pos (piece_nil l f), piece_nil]
theorem words_end_in {l : List UInt8} {k f : Nat} {ws : List (List UInt8)} (h : WordsAt l k f ws) (hk : k = l.length) (hf : f < k) : WordsAt l (k + 1) (k + 1) (ws ++ [Lib.pieceU l f k]) := by
  obtain ⟨h1, h2, h3, h4, h5⟩ := h
  refine ⟨by omega, by omega, by omega, fun _ => ?_, by simp; omega⟩
  rw [← h3 (by omega), List.drop_of_length_le (by omega), wl, if_neg (Lib.pieceU_ne l f k hf (by omega))]
theorem words_end_out {l : List UInt8} {k f : Nat} {ws : List (List UInt8)} (h : WordsAt l k f ws) (hk : k = l.length) (hf : ¬ f < k) : WordsAt l (k + 1) (k + 1) ws := by
  obtain ⟨h1, h2, h3, h4, h5⟩ := h
  obtain rfl : f = k := by omega
  refine ⟨by omega, by omega, by omega, fun _ => ?_, by omega⟩
  rw [← h3 (by omega), List.drop_of_length_le (by omega), wl, if_pos (piece_nil l f)]
  simp

/-- The document's bytes of a number. -/
theorem or128'' {m : Nat} (h : m < 128) : bits BinOp.or IntKind.u8 (m : Int) 128 = ((UInt8.ofNat (m + 128)).toNat : Int) := by
  have e := or128 m
  rw [show ((m : Int) % 256) = (m : Int) by omega, show m % 128 = m by omega] at e
  exact e
theorem shl_one {n : Int} (h0 : 0 ≤ n) (h1 : n ≤ 9223372036854775807) : (zig n : Int) = n * 2 := by unfold zig; rw [if_neg (by omega)]; omega
end Go.Proofs.YtdfkegflnebckaaDoor
