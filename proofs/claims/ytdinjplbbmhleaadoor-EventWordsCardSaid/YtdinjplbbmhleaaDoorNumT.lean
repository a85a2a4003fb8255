/-
  word.Print and word.Number where the table of powers of ten alone is known.
-/
import Derived.Test.YtdinjplbbmhleaaDoorText
namespace Go.Proofs.YtdinjplbbmhleaaDoor
open Go.RowKit Go.Maps W

theorem printT (n : Int) (h0 : -9223372036854775808 ≤ n) (h1 : n ≤ 9223372036854775807) (w : World) (hL : Lib.TabIs Tryd.prog w "internal/strconv.uint64pow10" .u64 Lib.pow10Tab) :
    Calls Tryd.prog 27 #[.int .i64 n] w fun e w' => e = .returned (.string ⟨(Lib.itoa n).toArray⟩) ∧ Below w.heap.size w w' := by
  have hI := hid ((Tryd.strconv_Itoa n h0 h1 w hL).mono (R' := fun e w' => e = .returned (.string ⟨(Lib.itoa n).toArray⟩) ∧ Below w.heap.size w w') (fun e w' ⟨he, k, os, hw⟩ => ⟨he, hw ▸ Lib.below_grow _ _ (Nat.le_refl _) _ _⟩))
  clear hL
  go_enter Tryd.func27, Tryd.ntmps27
  go_wp2_with fail
  refine hI.out.mono ?_
  rintro e w1 ⟨rfl, hb⟩
  have HB := hid hb
  clear hb
  go_wp2
  go_ret
  exact ⟨rfl, HB.out⟩

set_option maxHeartbeats 1000000 in
theorem numberT (l : List UInt8) (hlen : l.length ≤ 1000000000) (v : Int) (h : number l = some v) (w : World) (hL : Lib.TabIs Tryd.prog w "internal/strconv.uint64pow10" .u64 Lib.pow10Tab) :
    Calls Tryd.prog 26 #[.string ⟨l.toArray⟩] w fun e w' => e = .returned (.tuple #[.int .i64 v, .nilIface]) ∧ Below w.heap.size w w' := by
  obtain ⟨hp, hv0, hv1⟩ := number_print h
  have ha : Lib.atoiAll l = .ok v := by rw [← hp]; exact atoi_itoa v (by omega) (by omega)
  have hA := hid (atoi_ok l hlen v ha w)
  have hP := hid (fun W (hW : Lib.TabIs Tryd.prog W "internal/strconv.uint64pow10" .u64 Lib.pow10Tab) => printT v (by omega) (by omega) W hW)
  rw [hp] at hP
  have HL := hid hL
  clear h hp ha hL
  go_enter Tryd.func26, Tryd.ntmps26
  go_wp2_with fail
  refine hA.out.mono ?_
  rintro e w1 ⟨rfl, hb⟩
  have hL1 := tab_below HL.out hb
  have HB := hid hb
  have hP1 := hid (hP.out w1 hL1)
  clear hb hL1 hP hA
  go_wp2_with fail
  refine hP1.out.mono ?_
  rintro e w2 ⟨rfl, hb⟩
  have HB2 := hid (HB.out.trans (hb.mono HB.out.size))
  clear hb
  go_wp2
  go_ret2
  exact ⟨rfl, HB2.out⟩

end Go.Proofs.YtdinjplbbmhleaaDoor
