/-
  umpireref.Bytes, SameBytes; word.Print, Number. Number leans on what the package variables hold (errors that are not nil; the table of powers of ten).
-/
import Derived.Test.YtdfkegflnebckaaDoorSpread
import Derived.Test.YtdfkegflnebckaaDoorShelf
import Derived.Laws.IdiomStrings
import Derived.Laws.BytesArg
import Derived.Deep.QuietTactic
import Derived.BigQuiet
import Derived.Lib.LaidTab
import Derived.Lib.AtoiErrMem
import Derived.Lib.AppendIntMem
namespace Go.Proofs.YtdfkegflnebckaaDoor
open Go.RowKit Go.Maps W

theorem conv_bytes {w : World} {v : Value} {l : List UInt8} (h : Reads w v (bys l)) : (convert 26 9 v).run Tryd.prog w = .ok (.string ⟨l.toArray⟩) w := by
  obtain ⟨A, c, b, o, rfl, hA, hA2, hc, hcells⟩ := h
  cases A with
  | none =>
    obtain ⟨h0, rfl⟩ := hA rfl
    obtain rfl : l = [] := List.eq_nil_of_length_eq_zero (by simpa [bys_len] using h0)
    exact run_convert_bytes_nil w _ _ Tryd.underlying26 Tryd.underlying5 _ _ _ Tryd.underlying9
  | some a =>
    rw [bys_len]
    refine run_convert_bytes_back w _ _ _ a c l Tryd.underlying26 Tryd.underlying5 Tryd.underlying9 (fun j hj => ?_)
    rw [hA2 a rfl (by rw [bys_len]; omega), Addr.add_lit]
    exact hcells j _ (by simp [bys, List.getElem?_eq_getElem hj])

/-- What the package variables hold: errors that are not nil, and the table of powers of ten. -/
structure Laid (w : World) : Prop where
  errs : ∀ g, g ∈ [2, 3, 6, 11, 12] → ∃ a, w.cell? ⟨g, 0, none⟩ = some (.iface 162 (.pointer (some a)))
  tab : Lib.TabIs Tryd.prog w "internal/strconv.uint64pow10" .u64 Lib.pow10Tab
theorem Laid.size {w : World} (h : Laid w) : ∀ g, g ∈ [2, 3, 6, 11, 12] → g < w.heap.size := by
  intro g hg
  obtain ⟨a, ha⟩ := h.errs g hg
  exact World.block_lt_of_cell? w _ ha
theorem gTab : Tryd.prog.globalNamed "internal/strconv.uint64pow10" = some 7 := by kernel_rfl
theorem tab_below {w w' : World} (h : Lib.TabIs Tryd.prog w "internal/strconv.uint64pow10" .u64 Lib.pow10Tab) (hb : Below w.heap.size w w') : Lib.TabIs Tryd.prog w' "internal/strconv.uint64pow10" .u64 Lib.pow10Tab := by
  unfold Lib.TabIs World.var? at h ⊢
  rw [gTab] at h ⊢
  simp only [Option.bind_some] at h ⊢
  have hlt : 7 < w.heap.size := by
    rcases Nat.lt_or_ge 7 w.heap.size with h' | h'
    · exact h'
    · rw [Array.getElem?_eq_none h'] at h; cases h
  rw [hb.block _ hlt]
  exact h
theorem Laid.below {w w' : World} (h : Laid w) (hb : Below w.heap.size w w') : Laid w' :=
  ⟨fun g hg => by
    obtain ⟨a, ha⟩ := h.errs g hg
    exact ⟨a, (hb.cell (p := ⟨g, 0, none⟩) (h.size g hg)).trans ha⟩, tab_below h.tab hb⟩

/-- A text as bytes. -/
def str (l : List UInt8) : Value := .string ⟨l.toArray⟩
theorem str_of (s : ByteArray) : Value.string s = str s.data.toList := by simp [str]

theorem print (n : Int) (h0 : -9223372036854775808 ≤ n) (h1 : n ≤ 9223372036854775807) (w : World) (hL : Laid w) :
    Calls Tryd.prog 17 #[.int .i64 n] w fun e w' => e = .returned (.string ⟨(Lib.itoa n).toArray⟩) ∧ Below w.heap.size w w' := by
  have hI := hid ((Tryd.strconv_Itoa n h0 h1 w hL.tab).mono (R' := fun e w' => e = .returned (.string ⟨(Lib.itoa n).toArray⟩) ∧ Below w.heap.size w w') (fun e w' ⟨he, k, os, hw⟩ => ⟨he, hw ▸ Lib.below_grow _ _ (Nat.le_refl _) _ _⟩))
  clear hL
  go_enter Tryd.func17, Tryd.ntmps17
  go_wp2_with fail
  refine hI.out.mono ?_
  rintro e w1 ⟨rfl, hb⟩
  have HB := hid hb
  clear hb
  go_wp2
  go_ret
  exact ⟨rfl, HB.out⟩

theorem atoi_ok (l : List UInt8) (hlen : l.length ≤ 1000000000) (v : Int) (h : Lib.atoiAll l = .ok v) (w : World) :
    Calls Tryd.prog 61 #[.string ⟨l.toArray⟩] w fun e w' => e = .returned (.tuple #[.int .i64 v, .nilIface]) ∧ Below w.heap.size w w' :=
  (Tryd.strconv_Atoi_ok ⟨l.toArray⟩ (by simp [ByteArray.size]; omega) v (by simpa using h) w).mono fun e w' ⟨he, hw⟩ => ⟨he, by
    rcases hw with rfl | ⟨t, rfl⟩
    · exact Below.refl _ _
    · exact Lib.bytesWorld_below _ _ _⟩
theorem atoi_bad (l : List UInt8) (hlen : l.length ≤ 1000000000) (h : ∀ v, Lib.atoiAll l ≠ .ok v) (w : World) (hL : Laid w) :
    Calls Tryd.prog 61 #[.string ⟨l.toArray⟩] w fun e w' => ∃ (v : Int) (a : Addr), e = .returned (.tuple #[.int .i64 v, .iface 149 (.pointer (some a))]) ∧ Below w.heap.size w w' := by
  have hs : (⟨l.toArray⟩ : ByteArray).size ≤ 281474976710656 := by simp [ByteArray.size]; omega
  have hN : Lib.atoiAll l = Lib.atoiAll [] → Calls Tryd.prog 61 #[.string ⟨l.toArray⟩] w fun e w' => ∃ (v : Int) (a : Addr), e = .returned (.tuple #[.int .i64 v, .iface 149 (.pointer (some a))]) ∧ Below w.heap.size w w' := fun hA => by
    obtain ⟨a, ha⟩ := hL.errs 11 (by simp)
    have hC : Calls Tryd.prog 61 #[.string ⟨l.toArray⟩] w fun e w' => ∃ N, e = .returned (.tuple #[.int .i64 0, .iface 149 (.pointer (some ⟨N, 0, none⟩))]) ∧ _ ∧ _ ∧ Below w.heap.size w w' :=
      Any.strconv_Atoi_syntax Tryd.laysC172 ⟨l.toArray⟩ hs hA _ w ha (.inr ⟨_, _, rfl⟩)
    exact hC.mono fun e w' ⟨N, he, _, _, hb⟩ => ⟨_, _, he, hb⟩
  cases hA : Lib.atoiAll l
  · rename_i v
    exact absurd hA (h v)
  · exact hN (by rw [hA]; rfl)
  · obtain ⟨a, ha⟩ := hL.errs 12 (by simp)
    exact (Tryd.strconv_Atoi_range ⟨l.toArray⟩ hs (by simpa using hA) _ w ha (.inr ⟨_, _, rfl⟩)).mono fun e w' ⟨N, he, _, _, hb⟩ => ⟨_, _, he, hb⟩

theorem neq_nil (t : TypeId) (a : Addr) (ht : t = 149 ∨ t = 162) (w : World) : (binOp .neq 30 (.iface t (.pointer (some a))) .nilIface).run Tryd.prog w = .ok (.bool true) w := by
  rcases ht with rfl | rfl
  · simp only [binOp]
    simp [Op.equal, Op.maxDepth, go_sem]
    try kernel_rfl
  · simp only [binOp]
    simp [Op.equal, Op.maxDepth, go_sem]
    try kernel_rfl

set_option maxHeartbeats 1000000 in
theorem number_ok (l : List UInt8) (hlen : l.length ≤ 1000000000) (v : Int) (h : number l = some v) (w : World) (hL : Laid w) :
    Calls Tryd.prog 53 #[.string ⟨l.toArray⟩] w fun e w' => e = .returned (.tuple #[.int .i64 v, .nilIface]) ∧ Below w.heap.size w w' := by
  obtain ⟨hp, hv0, hv1⟩ := number_print h
  have ha : Lib.atoiAll l = .ok v := by rw [← hp]; exact atoi_itoa v (by omega) (by omega)
  have hA := hid (atoi_ok l hlen v ha w)
  have hP := hid (fun W (hW : Laid W) => print v (by omega) (by omega) W hW)
  rw [hp] at hP
  have HL := hid hL
  clear h hp ha hL
  go_enter Tryd.func53, Tryd.ntmps53
  go_wp2_with fail
  refine hA.out.mono ?_
  rintro e w1 ⟨rfl, hb⟩
  have hL1 := HL.out.below hb
  have HB := hid hb
  have hP1 := hid (hP.out w1 hL1)
  clear hb hL1 hP hA
  go_wp2_with fail
  refine hP1.out.mono ?_
  rintro e w2 ⟨rfl, hb⟩
  have HB2 := hid (HB.out.trans (hb.mono HB.out.size))
  clear hb
  go_wp2
  go_ret2
  exact ⟨rfl, HB2.out⟩

theorem atoi_bounds {l : List UInt8} {v : Int} (h : Lib.atoiAll l = .ok v) : -9223372036854775808 ≤ v ∧ v ≤ 9223372036854775807 := by
  obtain ⟨a, b⟩ := Lib.atoiAll_bounds h
  exact ⟨a, b⟩
set_option maxHeartbeats 1000000 in
theorem number_bad (l : List UInt8) (hlen : l.length ≤ 1000000000) (h : number l = none) (w : World) (hL : Laid w) :
    Calls Tryd.prog 53 #[.string ⟨l.toArray⟩] w fun e w' => ∃ a, e = .returned (.tuple #[.int .i64 0, .iface 162 (.pointer (some a))]) ∧ Below w.heap.size w w' := by
  obtain ⟨a2, ha2⟩ := hL.errs 6 (by simp)
  have hl2 := World.block_lt_of_cell? w _ ha2
  by_cases hbad : ∀ v, Lib.atoiAll l ≠ .ok v
  · have hA := hid (atoi_bad l hlen hbad w hL)
    have HA2 := hid ha2
    have hN := fun W a => neq_nil 149 a (.inl rfl) W
    clear h hL hbad ha2
    go_enter Tryd.func53, Tryd.ntmps53
    go_wp2_with fail
    refine hA.out.mono ?_
    rintro e w1 ⟨v, a, rfl, hb⟩
    have c2 : w1.cell? ⟨6, 0, none⟩ = some (.iface 162 (.pointer (some a2))) := (hb.cell (p := ⟨6, 0, none⟩) hl2).trans HA2.out
    have HB := hid hb
    clear hb hA hl2
    go_wp2_with fail
    go_quiet (fail)
    go_wp2_with fail
    go_ret2
    exact ⟨_, rfl, below_only HB.out ((Only.refl [] w1).drewN _) HB.out.size (by simp)⟩
  · obtain ⟨v, hv⟩ : ∃ v, Lib.atoiAll l = .ok v := by
      cases hA : Lib.atoiAll l
      · exact ⟨_, rfl⟩
      · exact absurd (fun v => by rw [hA]; simp) hbad
      · exact absurd (fun v => by rw [hA]; simp) hbad
    have hbd := atoi_bounds hv
    have hA := hid (atoi_ok l hlen v hv w)
    have HA2 := hid ha2
    have hno : ¬ (-1000000000 ≤ v ∧ v ≤ 1000000000 ∧ Lib.itoa v = l) := by
      intro hc
      unfold number at h
      rw [hv] at h
      simp only [hc, and_self, if_true] at h
      cases h
    by_cases h1 : -1000000000 ≤ v
    · by_cases h2 : v ≤ 1000000000
      · have h3 : ¬ Lib.itoa v = l := fun e => hno ⟨h1, h2, e⟩
        have t3 : (Lib.itoa v == l) = false := by simpa using h3
        have t4 : (Lib.itoa v != l) = true := by simpa using h3
        have hP := hid (fun W (hW : Laid W) => print v (by omega) (by omega) W hW)
        have HL := hid hL
        clear h hL hbad hno h3 hv hbd ha2
        go_enter Tryd.func53, Tryd.ntmps53
        go_wp2_with fail
        refine hA.out.mono ?_
        rintro e w1 ⟨rfl, hb⟩
        have hL1 := HL.out.below hb
        have HB := hid hb
        have hP1 := hid (hP.out w1 hL1)
        clear hb hL1 hP hA
        go_wp2_with fail
        refine hP1.out.mono ?_
        rintro e w2 ⟨rfl, hb⟩
        have hb2 := HB.out.trans (hb.mono HB.out.size)
        have c2 : w2.cell? ⟨6, 0, none⟩ = some (.iface 162 (.pointer (some a2))) := (hb2.cell (p := ⟨6, 0, none⟩) hl2).trans HA2.out
        have HB2 := hid hb2
        clear hb hb2 hl2
        go_wp2_with fail
        go_quiet (fail)
        go_wp2_with fail
        go_ret2
        exact ⟨_, rfl, below_only HB2.out ((Only.refl [] w2).drewN _) HB2.out.size (by simp)⟩
      · clear h hL hbad hno hv hbd ha2
        go_enter Tryd.func53, Tryd.ntmps53
        go_wp2_with fail
        refine hA.out.mono ?_
        rintro e w1 ⟨rfl, hb⟩
        have c2 : w1.cell? ⟨6, 0, none⟩ = some (.iface 162 (.pointer (some a2))) := (hb.cell (p := ⟨6, 0, none⟩) hl2).trans HA2.out
        have HB := hid hb
        clear hb hA hl2
        go_wp2_with fail
        go_quiet (fail)
        go_wp2_with fail
        go_ret2
        exact ⟨_, rfl, below_only HB.out ((Only.refl [] w1).drewN _) HB.out.size (by simp)⟩
    · clear h hL hbad hno hv hbd ha2
      go_enter Tryd.func53, Tryd.ntmps53
      go_wp2_with fail
      refine hA.out.mono ?_
      rintro e w1 ⟨rfl, hb⟩
      have c2 : w1.cell? ⟨6, 0, none⟩ = some (.iface 162 (.pointer (some a2))) := (hb.cell (p := ⟨6, 0, none⟩) hl2).trans HA2.out
      have HB := hid hb
      clear hb hA hl2
      go_wp2_with fail
      go_quiet (fail)
      go_wp2_with fail
      go_ret2
      exact ⟨_, rfl, below_only HB.out ((Only.refl [] w1).drewN _) HB.out.size (by simp)⟩
end Go.Proofs.YtdfkegflnebckaaDoor
