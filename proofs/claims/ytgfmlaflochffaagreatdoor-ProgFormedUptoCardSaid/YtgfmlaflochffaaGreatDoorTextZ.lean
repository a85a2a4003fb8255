/-
  umpireref.Bytes, SameBytes; word.Print, Number. Number leans on what the package variables hold (errors that are not nil; the table of powers of ten).
  word.Words, Join, Silent; umpireref.SameTexts. Bounds on lengths alone.
-/
import Derived.Test.YtgfmlaflochffaaGreatDoorStepAZ
import Derived.Test.YtgfmlaflochffaaGreatDoorShelfZ
import Derived.Laws.IdiomStrings
import Derived.Laws.BytesArg
import Derived.Deep.QuietTactic
import Derived.BigQuiet
import Derived.Lib.LaidTab
import Derived.Lib.AtoiErrMem
import Derived.Lib.AppendIntMem
import Derived.Test.YtgfmlaflochffaaGreatDoorCutZ
namespace Go.Proofs.YtgfmlaflochffaaGreatDoor
open Go.RowKit Go.Maps W

theorem conv_bytes {w : World} {v : Value} {l : List UInt8} (h : Reads w v (bys l)) : (convert 63 9 v).run Tryz.prog w = .ok (.string ⟨l.toArray⟩) w := by
  obtain ⟨A, c, b, o, rfl, hA, hA2, hc, hcells⟩ := h
  cases A with
  | none =>
    obtain ⟨h0, rfl⟩ := hA rfl
    obtain rfl : l = [] := List.eq_nil_of_length_eq_zero (by simpa [bys_len] using h0)
    exact run_convert_bytes_nil w _ _ Tryz.underlying63 Tryz.underlying5 _ _ _ Tryz.underlying9
  | some a =>
    rw [bys_len]
    refine run_convert_bytes_back w _ _ _ a c l Tryz.underlying63 Tryz.underlying5 Tryz.underlying9 (fun j hj => ?_)
    rw [hA2 a rfl (by rw [bys_len]; omega), Addr.add_lit]
    exact hcells j _ (by simp [bys, List.getElem?_eq_getElem hj])

/-- What the package variables hold: errors that are not nil, and the table of powers of ten. -/
structure Laid (w : World) : Prop where
  errs : ∀ g, g ∈ ([] : List Nat)
   → ∃ a, w.cell? ⟨g, 0, none⟩ = some (.iface 172 (.pointer (some a)))
  tab : Lib.TabIs Tryz.prog w "internal/strconv.uint64pow10" .u64 Lib.pow10Tab
theorem Laid.size {w : World} (h : Laid w) : ∀ g, g ∈ ([] : List Nat)
   → g < w.heap.size := by
  intro g hg
  obtain ⟨a, ha⟩ := h.errs g hg
  exact World.block_lt_of_cell? w _ ha
theorem gTab : Tryz.prog.globalNamed "internal/strconv.uint64pow10" = some 18 := by kernel_rfl
theorem tab_below {w w' : World} (h : Lib.TabIs Tryz.prog w "internal/strconv.uint64pow10" .u64 Lib.pow10Tab) (hb : Below w.heap.size w w') : Lib.TabIs Tryz.prog w' "internal/strconv.uint64pow10" .u64 Lib.pow10Tab := by
  unfold Lib.TabIs World.var? at h ⊢
  rw [gTab] at h ⊢
  simp only [Option.bind_some] at h ⊢
  have hlt : 18 < w.heap.size := by
    rcases Nat.lt_or_ge 18 w.heap.size with h' | h'
    · exact h'
    · rw [Array.getElem?_eq_none h'] at h; cases h
  rw [hb.block _ hlt]
  exact h
theorem Laid.below {w w' : World} (h : Laid w) (hb : Below w.heap.size w w') : Laid w' :=
  ⟨fun g hg => by
    obtain ⟨a, ha⟩ := h.errs g hg
    exact ⟨a, (hb.cell (p := ⟨g, 0, none⟩) (h.size g hg)).trans ha⟩, tab_below h.tab hb⟩

/-- A text as bytes. -/
def str (l : List UInt8) : Value := .string ⟨l.toArray⟩
theorem str_of (s : ByteArray) : Value.string s = str s.data.toList := by simp [str]

theorem print (n : Int) (h0 : -9223372036854775808 ≤ n) (h1 : n ≤ 9223372036854775807) (w : World) (hL : Laid w) :
    Calls Tryz.prog 27 #[.int .i64 n] w fun e w' => e = .returned (.string ⟨(Lib.itoa n).toArray⟩) ∧ Below w.heap.size w w' := by
  have hI := hid ((Tryz.strconv_Itoa n h0 h1 w hL.tab).mono (R' := fun e w' => e = .returned (.string ⟨(Lib.itoa n).toArray⟩) ∧ Below w.heap.size w w') (fun e w' ⟨he, k, os, hw⟩ => ⟨he, hw ▸ Lib.below_grow _ _ (Nat.le_refl _) _ _⟩))
  clear hL
  go_enter Tryz.func27, Tryz.ntmps27
  go_wp2_with fail
  refine hI.out.mono ?_
  rintro e w1 ⟨rfl, hb⟩
  have HB := hid hb
  clear hb
  go_wp2
  go_ret
  exact ⟨rfl, HB.out⟩

theorem neq_nil (t : TypeId) (a : Addr) (ht : False
  ∨ False
   ∨ t = 172) (w : World) : (binOp .neq 31 (.iface t (.pointer (some a))) .nilIface).run Tryz.prog w = .ok (.bool true) w := by
  rcases ht with h | h | rfl
  · exact h.elim
  · exact h.elim
  · simp only [binOp]
    simp [Op.equal, Op.maxDepth, go_sem]
    try kernel_rfl

end Go.Proofs.YtgfmlaflochffaaGreatDoor

namespace Go.Proofs.YtgfmlaflochffaaGreatDoor
open Go.RowKit Go.Maps W

/-- Texts as cells. -/
def txs (l : List (List UInt8)) : List Value := l.map str
theorem txs_append (a b : List (List UInt8)) : txs (a ++ b) = txs a ++ txs b := by simp [txs]
theorem txs_len (l : List (List UInt8)) : (txs l).length = l.length := by simp [txs]
theorem txs_one (l : List (List UInt8)) : ∀ u ∈ txs l, u.oneCell' = true := by
  intro u hu
  obtain ⟨b, _, rfl⟩ := List.mem_map.1 hu
  rfl

theorem fields_cells (l : List UInt8) : (Lib.goFieldsP p32 ⟨l.toArray⟩).map Value.string = txs (W.words l) ∧ (Lib.goFieldsP p32 ⟨l.toArray⟩).length = (W.words l).length := by
  have h := fields_words ⟨l.toArray⟩
  simp only at h
  refine ⟨?_, by rw [← h]; simp⟩
  unfold txs
  rw [← h, List.map_map]
  apply List.map_congr_left
  intro x _
  exact str_of x

theorem joinCall (v : Value) (ws : List (List UInt8)) (w : World) (hv : Reads w v (txs ws)) (hn : ws.length ≤ 1000000000) (hlen : (Lib.join ws [32]).length ≤ 1000000000) :
    Calls Tryz.prog 28 #[v] w fun e w' => e = .returned (.string ⟨(Lib.join ws [32]).toArray⟩) ∧ Below w.heap.size w w' := by
  have hJ : Calls Tryz.prog 38 #[v, .string ⟨#[32]⟩] w fun e w' => e = .returned (.string ⟨(Lib.join ws [32]).toArray⟩) ∧ Below w.heap.size w w' := by
    obtain ⟨A, c, b, o, rfl, hA, hA2, hc, hcells⟩ := hv
    rw [txs_len] at hA hA2 hc ⊢
    rcases Nat.eq_zero_or_pos ws.length with h0 | h0
    · obtain rfl : ws = [] := List.eq_nil_of_length_eq_zero h0
      exact (Tryz.strings_Join_none A c ⟨#[32]⟩ w).mono fun e w' ⟨he, hw⟩ => ⟨he, hw ▸ Below.refl _ _⟩
    · have hA' : A = some ⟨b, o, none⟩ := by
        cases A with
        | none => have := (hA rfl).1; omega
        | some x => rw [hA2 x rfl h0]
      subst hA'
      have hm : (ws.map fun x => (⟨x.toArray⟩ : ByteArray)).map (·.data.toList) = ws := by rw [List.map_map]; exact (List.map_congr_left (g := id) fun x _ => rfl).trans (List.map_id _)
      have hcell : ∀ (j : Nat) x, (ws.map fun x => (⟨x.toArray⟩ : ByteArray))[j]? = some x → w.cell? ⟨b, o + j, none⟩ = some (.string x) := by
        intro j x hj
        refine hcells j _ ?_
        rw [List.getElem?_map] at hj
        obtain ⟨y, hy, rfl⟩ := Option.map_eq_some_iff.1 hj
        simp [txs, str, hy]
      have hbk : b < w.heap.size := by
        have h1 := hcell 0 ⟨ws[0].toArray⟩ (by simp [List.getElem?_eq_getElem h0])
        exact World.block_lt_of_cell? w _ h1
      have hJ := Tryz.strings_Join b o c (ws.map fun x => (⟨x.toArray⟩ : ByteArray)) ⟨#[32]⟩ w hcell hbk (by simp; omega) (by simpa using hc) (by rw [hm]; exact Nat.le_trans hlen (by omega))
      rw [hm] at hJ
      simpa using hJ
  have HJ := hid hJ
  clear hJ hv
  generalize Lib.join ws [32] = r at *
  go_enter Tryz.func28, Tryz.ntmps28
  go_wp2_with fail
  refine HJ.out.mono ?_
  rintro e w1 ⟨rfl, hb⟩
  have HB := hid hb
  clear hb
  go_wp2
  go_ret
  exact ⟨rfl, HB.out⟩

/-- Does a line say nothing? -/
def silent (l : List UInt8) : Bool := match l.dropWhile (· == 32) with | [] => true | c :: _ => c == 35
end Go.Proofs.YtgfmlaflochffaaGreatDoor
