/-
  umpireref.Bytes, SameBytes; word.Print, Number. Number leans on what the package variables hold (errors that are not nil; the table of powers of ten).
-/
import Derived.Test.YtdinjplbbmhleaaDoorSpread
import Derived.Test.YtdinjplbbmhleaaDoorShelf
import Derived.Laws.IdiomStrings
import Derived.Laws.BytesArg
import Derived.Deep.QuietTactic
import Derived.BigQuiet
import Derived.Lib.LaidTab
import Derived.Lib.AtoiErrMem
import Derived.Lib.AppendIntMem
namespace Go.Proofs.YtdinjplbbmhleaaDoor
open Go.RowKit Go.Maps W

theorem conv_bytes {w : World} {v : Value} {l : List UInt8} (h : Reads w v (bys l)) : (convert 31 9 v).run Tryd.prog w = .ok (.string ⟨l.toArray⟩) w := by
  obtain ⟨A, c, b, o, rfl, hA, hA2, hc, hcells⟩ := h
  cases A with
  | none =>
    obtain ⟨h0, rfl⟩ := hA rfl
    obtain rfl : l = [] := List.eq_nil_of_length_eq_zero (by simpa [bys_len] using h0)
    exact run_convert_bytes_nil w _ _ Tryd.underlying31 Tryd.underlying5 _ _ _ Tryd.underlying9
  | some a =>
    rw [bys_len]
    refine run_convert_bytes_back w _ _ _ a c l Tryd.underlying31 Tryd.underlying5 Tryd.underlying9 (fun j hj => ?_)
    rw [hA2 a rfl (by rw [bys_len]; omega), Addr.add_lit]
    exact hcells j _ (by simp [bys, List.getElem?_eq_getElem hj])

theorem sameBytes (v1 v2 : Value) (a b : List UInt8) (w : World) (h1 : Reads w v1 (bys a)) (h2 : Reads w v2 (bys b)) :
    Calls Tryd.prog 28 #[v1, v2] w fun e w' => e = .returned (.bool (decide (a = b))) ∧ w = w' := by
  have c1 := conv_bytes h1
  have c2 := conv_bytes h2
  clear h1 h2
  by_cases h : a = b
  · subst h
    have hd : decide (a = a) = true := by simp
    rw [hd]
    clear hd
    go_enter Tryd.func28, Tryd.ntmps28
    go_wp2
    go_ret
    exact ⟨by simp, rfl⟩
  · have hd : decide (a = b) = false := by simpa using h
    have hb : (a == b) = false := by simpa using h
    have HD := hid hd
    clear h hd
    go_enter Tryd.func28, Tryd.ntmps28
    go_wp2
    go_ret
    exact ⟨by rw [HD.out]; rfl, rfl⟩

set_option maxHeartbeats 1000000 in
set_option maxRecDepth 100000 in
/-- A copy, in new memory. -/
theorem copyBytes (v : Value) (l : List UInt8) (w : World) (hv : Reads w v (bys l)) (hlen : l.length ≤ 1000000000) :
    Calls Tryd.prog 24 #[v] w fun e w' => ∃ r, e = .returned r ∧ w'.ownsRow w.heap.size 5 1 r l.length (bys l) ∧ Below w.heap.size w w' := by
  obtain ⟨i0, hi, hz0, hz1, hz2⟩ := info_parts infoB
  obtain ⟨A, c, b, o, rfl, hA, hA2, hc, hcells⟩ := hv
  rw [bys_len] at hA hA2 hc ⊢
  have HV := hid hcells
  have HA := hid (And.intro hA hA2)
  clear hcells hA hA2
  have HC := hid (show ∀ w0, w.grownBy w0 none → ∀ ad, A = some ad → ∀ j u, (bys l)[j]? = some u → w0.cell? (ad.add j) = some u from fun w0 hg ad had j x hj => by
    have hl := (List.getElem?_eq_some_iff.1 hj).1
    rw [bys_len] at hl
    rw [HA.out.2 ad had (by omega), Addr.add_lit]
    exact hg.cell (HV.out j x hj) (by simp))
  go_enter Tryd.func24, Tryd.ntmps24
  go_wp2_with (first
    | (at_make; refine wpList_make_own _ rfl _ _ 31 rfl w.heap.size 5 i0 (.int .u8 0) 1 Tryd.underlying31 hi hz0 hz1 .i64 .i64 _ l.length rfl rfl rfl (by rw [hz2]; omega) (by unfold maxLen; omega) (Nat.le_refl _) ?_; intro w0 hown0 hgrow0)
    | (at_builtin; refine wpList_append_fits_any _ rfl (.tmp 5) (.tmp 6) 31 rfl w.heap.size 5 i0 1 Tryd.underlying31 hi hz1 w.heap.size 0 l.length _ rfl hown0 A l.length c (bys l) rfl (by simp [bys_len]) HA.out.1 (HC.out w0 hgrow0) (bys_one _) (by omega) ?_; intro w1 hown1 hgrow1))
  have hb1 : Below w.heap.size w w1 := ((Below.refl _ _).grown hgrow0 (Nat.le_refl _) (fun k h => by cases h)).grown hgrow1 (by have := hgrow0.size; omega) (fun k h => by cases h; exact Nat.le_refl _)
  have hown2 := hid (show w1.ownsRow w.heap.size 5 1 (.slice (some ⟨w.heap.size, 0, none⟩) l.length l.length) l.length (bys l) by simpa using hown1)
  go_ret
  exact ⟨_, by simp, hown2.out, hb1⟩

/-- What the package variables hold: errors that are not nil, and the table of powers of ten. -/
structure Laid (w : World) : Prop where
  errs : ∀ g, g ∈ [0, 1, 2, 16, 17] → ∃ a, w.cell? ⟨g, 0, none⟩ = some (.iface 211 (.pointer (some a)))
  tab : Lib.TabIs Tryd.prog w "internal/strconv.uint64pow10" .u64 Lib.pow10Tab
theorem Laid.size {w : World} (h : Laid w) : ∀ g, g ∈ [0, 1, 2, 16, 17] → g < w.heap.size := by
  intro g hg
  obtain ⟨a, ha⟩ := h.errs g hg
  exact World.block_lt_of_cell? w _ ha
theorem gTab : Tryd.prog.globalNamed "internal/strconv.uint64pow10" = some 21 := by kernel_rfl
theorem tab_below {w w' : World} (h : Lib.TabIs Tryd.prog w "internal/strconv.uint64pow10" .u64 Lib.pow10Tab) (hb : Below w.heap.size w w') : Lib.TabIs Tryd.prog w' "internal/strconv.uint64pow10" .u64 Lib.pow10Tab := by
  unfold Lib.TabIs World.var? at h ⊢
  rw [gTab] at h ⊢
  simp only [Option.bind_some] at h ⊢
  have hlt : 21 < w.heap.size := by
    rcases Nat.lt_or_ge 21 w.heap.size with h' | h'
    · exact h'
    · rw [Array.getElem?_eq_none h'] at h; cases h
  rw [hb.block _ hlt]
  exact h
theorem Laid.below {w w' : World} (h : Laid w) (hb : Below w.heap.size w w') : Laid w' :=
  ⟨fun g hg => by
    obtain ⟨a, ha⟩ := h.errs g hg
    exact ⟨a, (hb.cell (p := ⟨g, 0, none⟩) (h.size g hg)).trans ha⟩, tab_below h.tab hb⟩

/-- A text as bytes. -/
def str (l : List UInt8) : Value := .string ⟨l.toArray⟩
theorem str_of (s : ByteArray) : Value.string s = str s.data.toList := by simp [str]

theorem print (n : Int) (h0 : -9223372036854775808 ≤ n) (h1 : n ≤ 9223372036854775807) (w : World) (hL : Laid w) :
    Calls Tryd.prog 27 #[.int .i64 n] w fun e w' => e = .returned (.string ⟨(Lib.itoa n).toArray⟩) ∧ Below w.heap.size w w' := by
  have hI := hid ((Tryd.strconv_Itoa n h0 h1 w hL.tab).mono (R' := fun e w' => e = .returned (.string ⟨(Lib.itoa n).toArray⟩) ∧ Below w.heap.size w w') (fun e w' ⟨he, k, os, hw⟩ => ⟨he, hw ▸ Lib.below_grow _ _ (Nat.le_refl _) _ _⟩))
  clear hL
  go_enter Tryd.func27, Tryd.ntmps27
  go_wp2_with fail
  refine hI.out.mono ?_
  rintro e w1 ⟨rfl, hb⟩
  have HB := hid hb
  clear hb
  go_wp2
  go_ret
  exact ⟨rfl, HB.out⟩

theorem atoi_ok (l : List UInt8) (hlen : l.length ≤ 1000000000) (v : Int) (h : Lib.atoiAll l = .ok v) (w : World) :
    Calls Tryd.prog 61 #[.string ⟨l.toArray⟩] w fun e w' => e = .returned (.tuple #[.int .i64 v, .nilIface]) ∧ Below w.heap.size w w' :=
  (Tryd.strconv_Atoi_ok ⟨l.toArray⟩ (by simp [ByteArray.size]; omega) v (by simpa using h) w).mono fun e w' ⟨he, hw⟩ => ⟨he, by
    rcases hw with rfl | ⟨t, rfl⟩
    · exact Below.refl _ _
    · exact Lib.bytesWorld_below _ _ _⟩
theorem atoi_bad (l : List UInt8) (hlen : l.length ≤ 1000000000) (h : ∀ v, Lib.atoiAll l ≠ .ok v) (w : World) (hL : Laid w) :
    Calls Tryd.prog 61 #[.string ⟨l.toArray⟩] w fun e w' => ∃ (v : Int) (a : Addr), e = .returned (.tuple #[.int .i64 v, .iface 185 (.pointer (some a))]) ∧ Below w.heap.size w w' := by
  have hs : (⟨l.toArray⟩ : ByteArray).size ≤ 281474976710656 := by simp [ByteArray.size]; omega
  have hN : Lib.atoiAll l = Lib.atoiAll [] → Calls Tryd.prog 61 #[.string ⟨l.toArray⟩] w fun e w' => ∃ (v : Int) (a : Addr), e = .returned (.tuple #[.int .i64 v, .iface 185 (.pointer (some a))]) ∧ Below w.heap.size w w' := fun hA => by
    obtain ⟨a, ha⟩ := hL.errs 16 (by simp)
    have hC : Calls Tryd.prog 61 #[.string ⟨l.toArray⟩] w fun e w' => ∃ N, e = .returned (.tuple #[.int .i64 0, .iface 185 (.pointer (some ⟨N, 0, none⟩))]) ∧ _ ∧ _ ∧ Below w.heap.size w w' :=
      Any.strconv_Atoi_syntax Tryd.laysC172 ⟨l.toArray⟩ hs hA _ w ha (.inr ⟨_, _, rfl⟩)
    exact hC.mono fun e w' ⟨N, he, _, _, hb⟩ => ⟨_, _, he, hb⟩
  cases hA : Lib.atoiAll l
  · rename_i v
    exact absurd hA (h v)
  · exact hN (by rw [hA]; rfl)
  · obtain ⟨a, ha⟩ := hL.errs 17 (by simp)
    exact (Tryd.strconv_Atoi_range ⟨l.toArray⟩ hs (by simpa using hA) _ w ha (.inr ⟨_, _, rfl⟩)).mono fun e w' ⟨N, he, _, _, hb⟩ => ⟨_, _, he, hb⟩

theorem neq_nil (t : TypeId) (a : Addr) (ht : t = 185 ∨ t = 211) (w : World) : (binOp .neq 34 (.iface t (.pointer (some a))) .nilIface).run Tryd.prog w = .ok (.bool true) w := by
  rcases ht with rfl | rfl
  · simp only [binOp]
    simp [Op.equal, Op.maxDepth, go_sem]
    try kernel_rfl
  · simp only [binOp]
    simp [Op.equal, Op.maxDepth, go_sem]
    try kernel_rfl

set_option maxHeartbeats 1000000 in
theorem number_ok (l : List UInt8) (hlen : l.length ≤ 1000000000) (v : Int) (h : number l = some v) (w : World) (hL : Laid w) :
    Calls Tryd.prog 26 #[.string ⟨l.toArray⟩] w fun e w' => e = .returned (.tuple #[.int .i64 v, .nilIface]) ∧ Below w.heap.size w w' := by
  obtain ⟨hp, hv0, hv1⟩ := number_print h
  have ha : Lib.atoiAll l = .ok v := by rw [← hp]; exact atoi_itoa v (by omega) (by omega)
  have hA := hid (atoi_ok l hlen v ha w)
  have hP := hid (fun W (hW : Laid W) => print v (by omega) (by omega) W hW)
  rw [hp] at hP
  have HL := hid hL
  clear h hp ha hL
  go_enter Tryd.func26, Tryd.ntmps26
  go_wp2_with fail
  refine hA.out.mono ?_
  rintro e w1 ⟨rfl, hb⟩
  have hL1 := HL.out.below hb
  have HB := hid hb
  have hP1 := hid (hP.out w1 hL1)
  clear hb hL1 hP hA
  go_wp2_with fail
  refine hP1.out.mono ?_
  rintro e w2 ⟨rfl, hb⟩
  have HB2 := hid (HB.out.trans (hb.mono HB.out.size))
  clear hb
  go_wp2
  go_ret2
  exact ⟨rfl, HB2.out⟩

theorem atoi_bounds {l : List UInt8} {v : Int} (h : Lib.atoiAll l = .ok v) : -9223372036854775808 ≤ v ∧ v ≤ 9223372036854775807 := by
  obtain ⟨a, b⟩ := Lib.atoiAll_bounds h
  exact ⟨a, b⟩
set_option maxHeartbeats 1000000 in
theorem number_bad (l : List UInt8) (hlen : l.length ≤ 1000000000) (h : number l = none) (w : World) (hL : Laid w) :
    Calls Tryd.prog 26 #[.string ⟨l.toArray⟩] w fun e w' => ∃ a, e = .returned (.tuple #[.int .i64 0, .iface 211 (.pointer (some a))]) ∧ Below w.heap.size w w' := by
  obtain ⟨a2, ha2⟩ := hL.errs 2 (by simp)
  have hl2 := World.block_lt_of_cell? w _ ha2
  by_cases hbad : ∀ v, Lib.atoiAll l ≠ .ok v
  · have hA := hid (atoi_bad l hlen hbad w hL)
    have HA2 := hid ha2
    have hN := fun W a => neq_nil 185 a (.inl rfl) W
    clear h hL hbad ha2
    go_enter Tryd.func26, Tryd.ntmps26
    go_wp2_with fail
    refine hA.out.mono ?_
    rintro e w1 ⟨v, a, rfl, hb⟩
    have c2 : w1.cell? ⟨2, 0, none⟩ = some (.iface 211 (.pointer (some a2))) := (hb.cell (p := ⟨2, 0, none⟩) hl2).trans HA2.out
    have HB := hid hb
    clear hb hA hl2
    go_wp2_with fail
    go_quiet (fail)
    go_wp2_with fail
    go_ret2
    exact ⟨_, rfl, below_only HB.out ((Only.refl [] w1).drewN _) HB.out.size (by simp)⟩
  · obtain ⟨v, hv⟩ : ∃ v, Lib.atoiAll l = .ok v := by
      cases hA : Lib.atoiAll l
      · exact ⟨_, rfl⟩
      · exact absurd (fun v => by rw [hA]; simp) hbad
      · exact absurd (fun v => by rw [hA]; simp) hbad
    have hbd := atoi_bounds hv
    have hA := hid (atoi_ok l hlen v hv w)
    have HA2 := hid ha2
    have hno : ¬ (-1000000000 ≤ v ∧ v ≤ 1000000000 ∧ Lib.itoa v = l) := by
      intro hc
      unfold number at h
      rw [hv] at h
      simp only [hc, and_self, if_true] at h
      cases h
    by_cases h1 : -1000000000 ≤ v
    · by_cases h2 : v ≤ 1000000000
      · have h3 : ¬ Lib.itoa v = l := fun e => hno ⟨h1, h2, e⟩
        have t3 : (Lib.itoa v == l) = false := by simpa using h3
        have t4 : (Lib.itoa v != l) = true := by simpa using h3
        have hP := hid (fun W (hW : Laid W) => print v (by omega) (by omega) W hW)
        have HL := hid hL
        clear h hL hbad hno h3 hv hbd ha2
        go_enter Tryd.func26, Tryd.ntmps26
        go_wp2_with fail
        refine hA.out.mono ?_
        rintro e w1 ⟨rfl, hb⟩
        have hL1 := HL.out.below hb
        have HB := hid hb
        have hP1 := hid (hP.out w1 hL1)
        clear hb hL1 hP hA
        go_wp2_with fail
        refine hP1.out.mono ?_
        rintro e w2 ⟨rfl, hb⟩
        have hb2 := HB.out.trans (hb.mono HB.out.size)
        have c2 : w2.cell? ⟨2, 0, none⟩ = some (.iface 211 (.pointer (some a2))) := (hb2.cell (p := ⟨2, 0, none⟩) hl2).trans HA2.out
        have HB2 := hid hb2
        clear hb hb2 hl2
        go_wp2_with fail
        go_quiet (fail)
        go_wp2_with fail
        go_ret2
        exact ⟨_, rfl, below_only HB2.out ((Only.refl [] w2).drewN _) HB2.out.size (by simp)⟩
      · clear h hL hbad hno hv hbd ha2
        go_enter Tryd.func26, Tryd.ntmps26
        go_wp2_with fail
        refine hA.out.mono ?_
        rintro e w1 ⟨rfl, hb⟩
        have c2 : w1.cell? ⟨2, 0, none⟩ = some (.iface 211 (.pointer (some a2))) := (hb.cell (p := ⟨2, 0, none⟩) hl2).trans HA2.out
        have HB := hid hb
        clear hb hA hl2
        go_wp2_with fail
        go_quiet (fail)
        go_wp2_with fail
        go_ret2
        exact ⟨_, rfl, below_only HB.out ((Only.refl [] w1).drewN _) HB.out.size (by simp)⟩
    · clear h hL hbad hno hv hbd ha2
      go_enter Tryd.func26, Tryd.ntmps26
      go_wp2_with fail
      refine hA.out.mono ?_
      rintro e w1 ⟨rfl, hb⟩
      have c2 : w1.cell? ⟨2, 0, none⟩ = some (.iface 211 (.pointer (some a2))) := (hb.cell (p := ⟨2, 0, none⟩) hl2).trans HA2.out
      have HB := hid hb
      clear hb hA hl2
      go_wp2_with fail
      go_quiet (fail)
      go_wp2_with fail
      go_ret2
      exact ⟨_, rfl, below_only HB.out ((Only.refl [] w1).drewN _) HB.out.size (by simp)⟩
end Go.Proofs.YtdinjplbbmhleaaDoor
