/-
  word.Words, Join, Silent; umpireref.SameTexts. Bounds on lengths alone.
-/
import Derived.Test.YtdfkegflnebckaaDoorBytes
import Derived.Test.YtdfkegflnebckaaDoorCut
namespace Go.Proofs.YtdfkegflnebckaaDoor
open Go.RowKit Go.Maps W

/-- Texts as cells. -/
def txs (l : List (List UInt8)) : List Value := l.map str
theorem txs_append (a b : List (List UInt8)) : txs (a ++ b) = txs a ++ txs b := by simp [txs]
theorem txs_len (l : List (List UInt8)) : (txs l).length = l.length := by simp [txs]
theorem txs_one (l : List (List UInt8)) : ∀ u ∈ txs l, u.oneCell' = true := by
  intro u hu
  obtain ⟨b, _, rfl⟩ := List.mem_map.1 hu
  rfl

theorem blank_pays (w : World) : PredAt Tryd.prog 41 #[] encR p32 w := fun W r _ => by
  unfold FnGives
  by_cases h : r = 32
  · have hp : p32 r = true := by simp [p32, h]
    rw [hp]
    have hb : ((r : Int) == 32) = true := by simp; omega
    clear hp h
    go_enter Tryd.func41, Tryd.ntmps41
    go_wp2
    go_ret
    exact ⟨rfl, 0, rfl⟩
  · have hp : p32 r = false := by simp [p32, h]
    rw [hp]
    have hb : ((r : Int) == 32) = false := by simp; omega
    clear hp h
    go_enter Tryd.func41, Tryd.ntmps41
    go_wp2
    go_ret
    exact ⟨rfl, 0, rfl⟩
theorem fields_cells (l : List UInt8) : (Lib.goFieldsP p32 ⟨l.toArray⟩).map Value.string = txs (W.words l) ∧ (Lib.goFieldsP p32 ⟨l.toArray⟩).length = (W.words l).length := by
  have h := fields_words ⟨l.toArray⟩
  simp only at h
  refine ⟨?_, by rw [← h]; simp⟩
  unfold txs
  rw [← h, List.map_map]
  apply List.map_congr_left
  intro x _
  exact str_of x

theorem wordsCall (l : List UInt8) (hlen : l.length ≤ 1000000000) (w : World) :
    Calls Tryd.prog 24 #[.string ⟨l.toArray⟩] w fun e w' => ∃ A, e = .returned (.slice (some ⟨A, 0, none⟩) (W.words l).length (W.words l).length) ∧ w.heap.size ≤ A ∧
      w'.ownsRow w.heap.size 9 1 (.slice (some ⟨A, 0, none⟩) (W.words l).length (W.words l).length) (W.words l).length (txs (W.words l)) ∧ Below w.heap.size w w' := by
  have hF := hid (Tryd.strings_FieldsFunc 41 #[] (enters_of Tryd.func41 (by kernel_rfl) rfl) p32 ⟨l.toArray⟩ w (by simp [ByteArray.size]; omega) (blank_pays w))
  rw [(fields_cells l).1, (fields_cells l).2] at hF
  generalize W.words l = ws at *
  go_enter Tryd.func24, Tryd.ntmps24
  go_wp2_with fail
  refine hF.out.mono ?_
  rintro e w1 ⟨A, rfl, h1⟩
  have H := hid h1
  clear h1
  go_wp2
  go_ret
  exact ⟨A, rfl, H.out⟩

theorem joinCall (v : Value) (ws : List (List UInt8)) (w : World) (hv : Reads w v (txs ws)) (hn : ws.length ≤ 1000000000) (hlen : (Lib.join ws [32]).length ≤ 1000000000) :
    Calls Tryd.prog 18 #[v] w fun e w' => e = .returned (.string ⟨(Lib.join ws [32]).toArray⟩) ∧ Below w.heap.size w w' := by
  have hJ : Calls Tryd.prog 34 #[v, .string ⟨#[32]⟩] w fun e w' => e = .returned (.string ⟨(Lib.join ws [32]).toArray⟩) ∧ Below w.heap.size w w' := by
    obtain ⟨A, c, b, o, rfl, hA, hA2, hc, hcells⟩ := hv
    rw [txs_len] at hA hA2 hc ⊢
    rcases Nat.eq_zero_or_pos ws.length with h0 | h0
    · obtain rfl : ws = [] := List.eq_nil_of_length_eq_zero h0
      exact (Tryd.strings_Join_none A c ⟨#[32]⟩ w).mono fun e w' ⟨he, hw⟩ => ⟨he, hw ▸ Below.refl _ _⟩
    · have hA' : A = some ⟨b, o, none⟩ := by
        cases A with
        | none => have := (hA rfl).1; omega
        | some x => rw [hA2 x rfl h0]
      subst hA'
      have hm : (ws.map fun x => (⟨x.toArray⟩ : ByteArray)).map (·.data.toList) = ws := by rw [List.map_map]; exact (List.map_congr_left (g := id) fun x _ => rfl).trans (List.map_id _)
      have hcell : ∀ (j : Nat) x, (ws.map fun x => (⟨x.toArray⟩ : ByteArray))[j]? = some x → w.cell? ⟨b, o + j, none⟩ = some (.string x) := by
        intro j x hj
        refine hcells j _ ?_
        rw [List.getElem?_map] at hj
        obtain ⟨y, hy, rfl⟩ := Option.map_eq_some_iff.1 hj
        simp [txs, str, hy]
      have hbk : b < w.heap.size := by
        have h1 := hcell 0 ⟨ws[0].toArray⟩ (by simp [List.getElem?_eq_getElem h0])
        exact World.block_lt_of_cell? w _ h1
      have hJ := Tryd.strings_Join b o c (ws.map fun x => (⟨x.toArray⟩ : ByteArray)) ⟨#[32]⟩ w hcell hbk (by simp; omega) (by simpa using hc) (by rw [hm]; exact Nat.le_trans hlen (by omega))
      rw [hm] at hJ
      simpa using hJ
  have HJ := hid hJ
  clear hJ hv
  generalize Lib.join ws [32] = r at *
  go_enter Tryd.func18, Tryd.ntmps18
  go_wp2_with fail
  refine HJ.out.mono ?_
  rintro e w1 ⟨rfl, hb⟩
  have HB := hid hb
  clear hb
  go_wp2
  go_ret
  exact ⟨rfl, HB.out⟩

/-- Does a line say nothing? -/
def silent (l : List UInt8) : Bool := match l.dropWhile (· == 32) with | [] => true | c :: _ => c == 35
theorem silentCall (l : List UInt8) (hlen : l.length ≤ 1000000000) (w : World) :
    Calls Tryd.prog 22 #[.string ⟨l.toArray⟩] w fun e w' => e = .returned (.bool (silent l)) ∧ w = w' := by
  have hT := hid ((Tryd.strings_TrimLeft_one ⟨l.toArray⟩ 32 (by decide) w).mono (R' := fun e w' => e = .returned (.string ⟨(l.dropWhile (· == 32)).toArray⟩) ∧ w = w') (fun e w' ⟨he, hw⟩ => ⟨by simpa [Lib.trimLeftB] using he, hw.symm⟩))
  unfold silent
  have hl2 : (l.dropWhile (· == 32)).length ≤ 1000000000 := Nat.le_trans (List.dropWhile_sublist _).length_le hlen
  generalize l.dropWhile (· == 32) = r at *
  cases r with
  | nil =>
    go_enter Tryd.func22, Tryd.ntmps22
    go_wp2_with fail
    refine hT.out.mono ?_
    rintro e w1 ⟨rfl, rfl⟩
    go_wp2
    go_ret
    exact ⟨rfl, rfl⟩
  | cons c r =>
    have hc : (c == 35) = ((c.toNat : Int) == 35) := by
      rw [Bool.eq_iff_iff, beq_iff_eq, beq_iff_eq]
      constructor
      · rintro rfl; rfl
      · intro h; exact UInt8.toNat_inj.1 (by show c.toNat = 35; omega)
    simp only [hc]
    clear hc
    go_enter Tryd.func22, Tryd.ntmps22
    go_wp2_with fail
    refine hT.out.mono ?_
    rintro e w1 ⟨rfl, rfl⟩
    go_wp2
    go_ret
    exact ⟨rfl, rfl⟩
end Go.Proofs.YtdfkegflnebckaaDoor
