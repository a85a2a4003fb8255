/-
  The plain layer under package word: words and lines. No program in sight.
-/
import Derived.Lib.FieldsP
import Derived.Lib.SpaceUEq
import Derived.Lib.Join
import Derived.Lib.TrimByte
namespace Go.Proofs.YtgfmlaflochffaaGreatDoor.W
open Go Go.Lib

/-- The words of what is left, with the word that stands open. -/
def wl : List UInt8 → List UInt8 → List (List UInt8)
  | cur, [] => if cur = [] then [] else [cur]
  | cur, c :: r => if c = 32 then (if cur = [] then wl [] r else cur :: wl [] r) else wl (cur ++ [c]) r
def words (l : List UInt8) : List (List UInt8) := wl [] l
/-- The lines of what is left, with the line that stands open. -/
def ll : List UInt8 → List UInt8 → List (List UInt8)
  | cur, [] => if cur = [] then [] else [cur]
  | cur, c :: r => if c = 10 then cur :: ll [] r else ll (cur ++ [c]) r
def lines (l : List UInt8) : List (List UInt8) := ll [] l

theorem wl_skip : ∀ (k : Nat) (cur l : List UInt8), k ≤ l.length → (∀ j, j < k → l.getD j 0 ≠ 32) → wl cur l = wl (cur ++ l.take k) (l.drop k)
  | 0, cur, l, _, _ => by simp
  | k + 1, cur, [], h, _ => by simp at h
  | k + 1, cur, c :: r, h, hj => by
    have h0 : c ≠ 32 := by have := hj 0 (by omega); simpa using this
    rw [wl, if_neg h0, wl_skip k (cur ++ [c]) r (by simpa using h) (fun j hk => by have := hj (j + 1) (by omega); simpa using this)]
    simp
theorem decode_blank (n b0 b1 b2 b3 : Nat) : ((decodeN n b0 b1 b2 b3).1 = 32 → b0 = 32 ∧ (decodeN n b0 b1 b2 b3).2 = 1) ∧ ((decodeN n b0 b1 b2 b3).1 ≠ 32 → b0 ≠ 32) := by
  unfold decodeN
  repeat' split
  all_goals first | (simp; done) | (simp; omega) | (simp only [ne_eq]; omega)

/-- A rune that is no blank has no blank among its bytes. -/
theorem rune_noblank (l : List UInt8) (pos : Nat) (hl : pos < l.length) (d : Nat × Nat) (hd : d = decodeN (l.length - pos) (l.getD pos 0).toNat (l.getD (pos + 1) 0).toNat (l.getD (pos + 2) 0).toNat (l.getD (pos + 3) 0).toNat) (h : d.1 ≠ 32) :
    pos + d.2 ≤ l.length ∧ ∀ j, j < d.2 → (l.drop pos).getD j 0 ≠ 32 := by
  have hb := (decode_blank (l.length - pos) (l.getD pos 0).toNat (l.getD (pos + 1) 0).toNat (l.getD (pos + 2) 0).toNat (l.getD (pos + 3) 0).toNat).2
  have hw := decodeN_le_n' (l.length - pos) (l.getD pos 0).toNat (l.getD (pos + 1) 0).toNat (l.getD (pos + 2) 0).toNat (l.getD (pos + 3) 0).toNat (by omega)
  have hc := decodeN_conts (l.length - pos) (l.getD pos 0).toNat (l.getD (pos + 1) 0).toNat (l.getD (pos + 2) 0).toNat (l.getD (pos + 3) 0).toNat
  rw [← hd] at hb hw hc
  obtain ⟨c2, c3, c4, c5⟩ := hc
  have hb0 := hb h
  refine ⟨by omega, fun j hj e => ?_⟩
  rw [getD_dropU] at e
  rcases Nat.lt_or_ge j 1 with h1 | h1
  · obtain rfl : j = 0 := by omega
    rw [Nat.add_zero] at e
    rw [e] at hb0
    exact hb0 rfl
  · rcases Nat.lt_or_ge j 2 with h2 | h2
    · obtain rfl : j = 1 := by omega
      have := (c2 (by omega)).1
      rw [e] at this
      exact absurd this (by decide)
    · rcases Nat.lt_or_ge j 3 with h3 | h3
      · obtain rfl : j = 2 := by omega
        have := (c3 (by omega)).1
        rw [e] at this
        exact absurd this (by decide)
      · obtain rfl : j = 3 := by omega
        have := (c4 (by omega)).1
        rw [e] at this
        exact absurd this (by decide)

def p32 (x : Nat) : Bool := decide (x = 32)
theorem extract_piece (s : ByteArray) (a b : Nat) : (s.extract a b).data.toList = pieceU s.data.toList a b := by
  unfold pieceU
  simp [ByteArray.data_extract, Array.toList_extract, List.extract]
theorem spans_words (s : ByteArray) : ∀ (f pos : Nat) (st : Option Nat) (acc : List (Nat × Nat)), s.size ≤ pos + f → pos ≤ s.size → (∀ a, st = some a → a < pos) →
    (closeSpans s (spansFromP p32 s f pos st acc)).map (fun x => pieceU s.data.toList x.1 x.2) = acc.map (fun x => pieceU s.data.toList x.1 x.2) ++ wl (openPiece s.data.toList st pos) (s.data.toList.drop pos) := by
  have hsz : s.data.toList.length = s.size := by simp
  have fin : ∀ (pos : Nat) (st : Option Nat) (acc : List (Nat × Nat)), pos = s.size → (∀ a, st = some a → a < pos) →
      (closeSpans s (acc, st)).map (fun x => pieceU s.data.toList x.1 x.2) = acc.map (fun x => pieceU s.data.toList x.1 x.2) ++ wl (openPiece s.data.toList st pos) (s.data.toList.drop pos) := by
    rintro pos st acc rfl hst
    rw [List.drop_of_length_le (by omega)]
    cases st with
    | none => simp [closeSpans, openPiece, wl]
    | some a =>
      have := pieceU_ne s.data.toList a s.size (hst a rfl) (by omega)
      simp [closeSpans, openPiece, wl, this]
  intro f
  induction f with
  | zero =>
    intro pos st acc h1 h2 h3
    exact fin pos st acc (by omega) h3
  | succ f ih =>
    intro pos st acc h1 h2 h3
    by_cases hlt : pos < s.size
    · simp only [spansFromP, hlt, if_true]
      have hd := decode_N s pos
      generalize hD : Utf8.decode s pos = d at *
      have hw1 : 1 ≤ d.2 := by rw [← hD]; exact width_pos s pos
      by_cases hp : d.1 = 32
      · have hb := (decode_blank (s.data.toList.length - pos) (s.data.toList.getD pos 0).toNat (s.data.toList.getD (pos + 1) 0).toNat (s.data.toList.getD (pos + 2) 0).toNat (s.data.toList.getD (pos + 3) 0).toNat).1
        rw [← hd] at hb
        obtain ⟨hb0, hK⟩ := hb hp
        have hpp : p32 d.1 = true := by simp [p32, hp]
        have hcons : s.data.toList.drop pos = (32 : UInt8) :: s.data.toList.drop (pos + 1) := by
          rw [List.drop_eq_getElem_cons (by omega)]
          congr 1
          have : (s.data.toList.getD pos 0) = s.data.toList[pos]'(by omega) := by simp [List.getD, List.getElem?_eq_getElem (show pos < s.data.toList.length by omega)]
          rw [← this]
          exact UInt8.toNat_inj.1 hb0
        rw [hpp, hK]
        simp only [if_true]
        cases st with
        | none =>
          rw [ih (pos + 1) none acc (by omega) (by omega) (by simp), hcons]
          simp [openPiece, wl]
        | some a =>
          have hne := pieceU_ne s.data.toList a pos (h3 a rfl) (by omega)
          simp only []
          rw [ih (pos + 1) none _ (by omega) (by omega) (by simp), hcons]
          simp [openPiece, wl, hne]
      · have hpp : p32 d.1 = false := by simp [p32, hp]
        obtain ⟨hle, hnb⟩ := rune_noblank s.data.toList pos (by omega) d hd hp
        rw [hpp]
        simp only [Bool.false_eq_true, if_false]
        rw [wl_skip d.2 _ (s.data.toList.drop pos) (by rw [List.length_drop]; omega) hnb, List.drop_drop]
        cases st with
        | none =>
          simp only []
          rw [ih (pos + d.2) (some pos) acc (by omega) (by omega) (by intro a e; cases e; omega)]
          simp only [openPiece, List.nil_append]
          congr 2
          unfold pieceU
          congr 1
          omega
        | some a =>
          simp only []
          rw [ih (pos + d.2) (some a) acc (by omega) (by omega) (by intro b e; cases e; have := h3 a rfl; omega)]
          simp only [openPiece]
          rw [pieceU_grow _ _ _ _ (by have := h3 a rfl; omega)]
    · rw [spansFromP_end _ _ _ _ _ _ hlt]
      exact fin pos st acc (by omega) h3
/-- What strings.FieldsFunc gives at blanks are the words. -/
theorem fields_words (s : ByteArray) : (goFieldsP p32 s).map (fun x => x.data.toList) = words s.data.toList := by
  have h := spans_words s s.size 0 none [] (by omega) (by omega) (by simp)
  simp only [List.map_nil, List.nil_append, openPiece, List.drop_zero] at h
  unfold goFieldsP spansOfP words
  rw [List.map_map, ← h]
  apply List.map_congr_left
  intro x _
  exact extract_piece s x.1 x.2

/-- A word is not empty, and has no blank. -/
def Wordy (x : List UInt8) : Prop := x ≠ [] ∧ (32 : UInt8) ∉ x
theorem wl_wordy : ∀ (l cur : List UInt8), (32 : UInt8) ∉ cur → ∀ x ∈ wl cur l, Wordy x
  | [], cur, hc, x, hx => by
    rw [wl] at hx
    split at hx
    · cases hx
    · rename_i h
      obtain rfl : x = cur := by simpa using hx
      exact ⟨h, hc⟩
  | c :: r, cur, hc, x, hx => by
    rw [wl] at hx
    split at hx
    · split at hx
      · exact wl_wordy r [] (by simp) x hx
      · rename_i h
        rcases List.mem_cons.1 hx with rfl | hx
        · exact ⟨h, hc⟩
        · exact wl_wordy r [] (by simp) x hx
    · rename_i h
      exact wl_wordy r (cur ++ [c]) (by simp [hc]; exact fun e => h e.symm) x hx
theorem wl_word (w : List UInt8) (hw : (32 : UInt8) ∉ w) (cur r : List UInt8) : wl cur (w ++ r) = wl (cur ++ w) r := by
  have := wl_skip w.length cur (w ++ r) (by simp) (fun j hj e => by
    apply hw
    have : (w ++ r).getD j 0 = w[j] := by simp [List.getD, List.getElem?_append_left hj, List.getElem?_eq_getElem hj]
    rw [this] at e
    rw [← e]
    exact List.getElem_mem hj)
  simpa using this
theorem wl_join : ∀ (x : List UInt8) (r : List (List UInt8)), Wordy x → (∀ y ∈ r, Wordy y) → wl x (joinTail [32] r) = x :: r
  | x, [], hx, _ => by
    have : joinTail [32] [] = [] := by simp [joinTail]
    rw [this, wl, if_neg hx.1]
  | x, y :: r, hx, hr => by
    have e : joinTail [32] (y :: r) = (32 : UInt8) :: (y ++ joinTail [32] r) := by simp [joinTail]
    rw [e, wl, if_pos rfl, if_neg hx.1, wl_word y (hr y (by simp)).2]
    rw [List.nil_append, wl_join y r (hr y (by simp)) (fun z hz => hr z (by simp [hz]))]
/-- Words joined, and cut, are they. -/
theorem words_join (l : List (List UInt8)) (h : ∀ x ∈ l, Wordy x) : words (join l [32]) = l := by
  cases l with
  | nil => simp [join_nil, words, wl]
  | cons x r =>
    rw [join_cons]
    unfold words
    rw [wl_word x (h x (by simp)).2, List.nil_append]
    exact wl_join x r (h x (by simp)) (fun z hz => h z (by simp [hz]))
theorem words_wordy (l : List UInt8) : ∀ x ∈ words l, Wordy x := wl_wordy l [] (by simp)

/-- Lines, each with a newline behind it. -/
def unlines (l : List (List UInt8)) : List UInt8 := l.flatMap (· ++ [10])
theorem unlines_ll : ∀ (l cur : List UInt8), unlines (ll cur l) = if cur ++ l = [] ∨ l.getLast? = some 10 then cur ++ l else cur ++ l ++ [10]
  | [], cur => by
    rw [ll]
    by_cases h : cur = []
    · simp [h, unlines]
    · simp [h, unlines]
  | c :: r, cur => by
    rw [ll]
    by_cases hc : c = 10
    · subst hc
      rw [if_pos rfl]
      have : unlines (cur :: ll [] r) = cur ++ [10] ++ unlines (ll [] r) := by simp [unlines]
      rw [this, unlines_ll r []]
      cases r with
      | nil => simp
      | cons d r =>
        rw [List.getLast?_cons_cons]
        simp only [List.nil_append, List.append_eq_nil_iff, reduceCtorEq, false_or, and_false]
        split <;> simp
    · rw [if_neg hc, unlines_ll r (cur ++ [c])]
      cases r with
      | nil => simp [hc]
      | cons d r =>
        rw [List.getLast?_cons_cons]
        simp
/-- Lines, each with a newline, are the text. -/
theorem unlines_lines (l : List UInt8) : unlines (lines l) = if l = [] ∨ l.getLast? = some 10 then l else l ++ [10] := by
  have := unlines_ll l []
  simpa [lines] using this
end Go.Proofs.YtgfmlaflochffaaGreatDoor.W
