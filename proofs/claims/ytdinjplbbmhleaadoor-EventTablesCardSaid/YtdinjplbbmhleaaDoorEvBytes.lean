/-
  event.Bytes: the bytes of an event that may be; nil and an error for any other. No condition but that the numbers are int's.
-/
import Derived.Test.YtdinjplbbmhleaaDoorValid
namespace Go.Proofs.YtdinjplbbmhleaaDoor
open Go.RowKit Go.Maps W
attribute [local go_sem ↓] Go.wp_at_zero Go.wp_at_succ

/-- The bytes of the kind and of k fields. -/
def evPre (e : Ev) (k : Nat) : List UInt8 := vb (zig e.kind) ++ (e.fl.take k).flatMap fun f => vb (zig (e.get f))
theorem evPre_zero (e : Ev) : vb (zig e.kind) = evPre e 0 := by simp [evPre]
theorem evPre_step (e : Ev) (k : Nat) (f : Fld) (hf : e.fl[k]? = some f) : evPre e k ++ vb (zig (e.get f)) = evPre e (k + 1) := by
  unfold evPre
  rw [List.take_add_one, hf]
  simp
theorem evPre_end (e : Ev) : evPre e e.fl.length = e.bytes := by simp [evPre, Ev.bytes]
theorem fld_bounds (f : Fld) : -1000000000 ≤ f.lo ∧ f.hi ≤ 1000000000 := by cases f <;> decide
theorem in_bounds {e : Ev} {f : Fld} (h : e.In f) : -1000000000 ≤ e.get f ∧ e.get f ≤ 1000000000 := by
  have h1 := fld_bounds f
  unfold Ev.In at h
  omega
theorem vb_short (n : Int) (h0 : -9223372036854775808 ≤ n) (h1 : n ≤ 9223372036854775807) : (vb (zig n)).length ≤ 10 := vb_ten _ (zig_lt n h0 h1)
theorem pre_len (e : Ev) (hk : KindOk e.kind) (h : ∀ f ∈ e.fl, e.In f) : ∀ k, k ≤ e.fl.length → (evPre e k).length ≤ 10 * (k + 1)
  | 0, _ => by
    rw [← evPre_zero]
    exact vb_short _ hk.1 hk.2
  | k + 1, hk1 => by
    have hf : e.fl[k]? = some e.fl[k] := List.getElem?_eq_getElem (by omega)
    have h1 := pre_len e hk h k (by omega)
    have h2 := in_bounds (h _ (List.getElem_mem (by omega : k < e.fl.length)))
    have h3 := vb_short (e.get e.fl[k]) (by omega) (by omega)
    rw [← evPre_step e k _ hf, List.length_append]
    omega

set_option maxHeartbeats 8000000 in
set_option maxRecDepth 100000 in
theorem bytesCall (e : Ev) (w : World) (hL : LaidE w) (hk : KindOk e.kind) (hr9 : e.ret ≤ 9223372036854775807) :
    Calls Tryd.prog 47 #[.agg (evArr e)] w fun r w' => ∃ x v, r = .returned (.tuple #[x, v]) ∧ ErrIs e.Ok v ∧ (e.Ok → w'.ownsRow w.heap.size 5 1 x e.bytes.length (bys e.bytes)) ∧ (∃ A n c, x = .slice A n c) ∧ Below w.heap.size w w' := by
  have HL := hid hL
  have HB0 := hid (Blk.new w 62 (evArr e))
  have HW0 := hid ((Below.refl w.heap.size w).alloc (Nat.le_refl _) (.cells (evArr e) 62))
  have HV := hid (validCall e (w.alloc (.cells (evArr e) 62)) (hL.below HW0.out) hk hr9)
  have hN := fun W a => neq_nil 211 a (.inr rfl) W
  clear hL
  unfold evArr at HB0 HW0 HV
  unfold evArr
  go_enter Tryd.func47, Tryd.ntmps47
  go_wp2_with fail
  refine HV.out.mono ?_
  rintro r w1 ⟨v, rfl, hv, hb⟩
  have HW1 := hid (HW0.out.trans (hb.mono (by simp)))
  have HB1 : Hid (Blk w1 w.heap.size 62 (evArr e)) := hid (HB0.out.below hb (by simp))
  clear hb HV HB0 HW0
  rcases hv with ⟨hok, rfl⟩ | ⟨hno, a, rfl⟩
  case inr =>
    have HNO := hid hno
    clear hno
    go_wp2_with fail
    go_ret2
    exact ⟨_, _, rfl, .inr ⟨HNO.out, a, rfl⟩, fun h => absurd h HNO.out, ⟨_, _, _, rfl⟩, HW1.out⟩
  case inl =>
  have HOK := hid hok
  have k0 := HB1.out.cell 0
  have l1 := HB1.out.lt
  simp only [evArr] at k0
  have hp := put (.slice none 0 0) [] e.kind hk.1 hk.2 w1 (Reads.nil w1) (by simp)
  rw [List.nil_append, evPre_zero] at hp
  have HP := hid hp
  clear hp hok hN
  go_wp2_with fail
  refine HP.out.mono ?_
  rintro r w2 ⟨x, rfl, hown, hb⟩
  obtain ⟨A2, c2, rfl⟩ := row_shape hown
  have HO2 := hid (row_base hown HW1.out.size)
  have HB2 : Hid (Blk w2.drew w.heap.size 62 (evArr e)) := hid (HB1.out.below hb l1).drew
  have HW2 := hid (HW1.out.trans (hb.mono HW1.out.size))
  have l2 : w.heap.size < w2.heap.size := Nat.lt_of_lt_of_le l1 hb.size
  clear k0 hown hb HP
  have k0 := HB2.out.cell 0
  simp only [evArr] at k0
  go_upto_region 5 with fail
  go_cut [6] from 18 to 23 (fun s6 wx => NextV wx s6 e.kind ∧ Below w2.heap.size w2 wx)
  case first =>
    go_region_with (go_at_call 69; go_loud (refine (fieldsCall _).mono ?_); rintro r x1 ⟨b, rfl, hF, hb⟩; have HB3 := hid (HB2.out.below hb HB2.out.lt); have HBX := hid ((Below.refl w2.heap.size w2).drew.trans (hb.mono (by simp))); obtain ⟨vn, hn, hlk⟩ := lookKind hF hk; have HN := hid hn; have c0 := HB3.out.cell 0; simp only [evArr] at c0; clear hn hF hb)
    all_goals (go_wp2_with fail; go_meet)
    all_goals exact ⟨HN.out, HBX.out⟩
  case rest =>
  obtain ⟨hn, hb3⟩ := hcut
  obtain ⟨wb, rfl⟩ : ∃ wb : World, wb = wc := ⟨_, rfl⟩
  unfold NextV at hn
  rw [if_pos ⟨HOK.out.1.1, HOK.out.1.2.1⟩] at hn
  obtain ⟨F, c, rfl, hE, hC⟩ := hn
  have HC := hid hC
  have HE := hid hE
  have HEV : Hid (Blk wb w.heap.size 62 (evArr e)) := hid (Blk.below (w := w2) HB2.out hb3 l2)
  have HO3 := hid (row_call HO2.out hb3)
  have HW3 := hid (HW2.out.trans (hb3.mono HW2.out.size))
  have lE := HEV.out.lt
  clear hE hC hb3 k0 HO2 HB2
  go_wp2_with fail
  go_loopw [5, 7] (fun sb si wr => ∃ k : Nat, si = .int .i64 k ∧ k ≤ e.fl.length ∧ (∃ A c, sb = .slice A (evPre e k).length c) ∧ wr.ownsRow w.heap.size 5 1 sb (evPre e k).length (bys (evPre e k)) ∧ Below wb.heap.size wb wr) (fun _ si _ => 6 - (intOf si).toNat)
  case atStart => exact ⟨0, rfl, Nat.zero_le _, ⟨_, _, rfl⟩, HO3.out, Below.refl _ _⟩
  case round =>
    obtain ⟨k, rfl, hkl, ⟨A, cc, rfl⟩, hown, hbr⟩ := hrel
    have hk5 := (fl_len e.kind e.op e.ret).2
    change e.fl.length ≤ 5 at hk5
    have HBR := hid hbr
    have HOR := hid hown
    have HEV3 := hid (HEV.out.below hbr lE)
    have HWR := hid (HW3.out.trans (hbr.mono HW3.out.size))
    have lE3 := HEV3.out.lt
    have k0 := HEV3.out.cell 0
    have k1 := HEV3.out.cell 1
    have k2 := HEV3.out.cell 2
    have k3 := HEV3.out.cell 3
    have k4 := HEV3.out.cell 4
    have k5 := HEV3.out.cell 5
    have k6 := HEV3.out.cell 6
    have k7 := HEV3.out.cell 7
    simp only [evArr] at k0 k1 k2 k3 k4 k5 k6 k7
    have hCk := HC.out e k wr hbr rfl
    have hE := HE.out
    clear hbr hown
    by_cases hlt : k < e.fl.length
    · obtain ⟨f, hf⟩ : ∃ f, e.fl[k]? = some f := ⟨e.fl[k], List.getElem?_eq_getElem hlt⟩
      have e1 : fat e.fl k = fcells f := by unfold fat; rw [hf]
      have e2 : decide (k < e.fl.length) = true := by simpa using hlt
      rw [e1, e2] at hCk
      unfold fcells evArr at hCk
      have HCk := hid hCk
      have HT := hid (fun g W => toCall f g W)
      have hTE := fun args W => toEnters f args W
      have HF := hid hf
      have hin := in_bounds (HOK.out.2.1 f (List.mem_of_getElem? hf))
      have hpl := pre_len e hk HOK.out.2.1 k hkl
      have HP := hid (fun W (hr : Reads W (.slice A (evPre e k).length cc) (bys (evPre e k))) => put _ (evPre e k) (e.get f) (by omega) (by omega) W hr (by omega))
      rw [evPre_step e k f hf] at HP
      clear e1 e2 hCk hf hin hpl
      go_wp2_with fail
      refine HCk.out.mono ?_
      rintro r x3 ⟨rfl, hb3⟩
      have HB3 := hid hb3
      have cf := (HEV3.out.below hb3 lE3).cell f.off
      rw [evArr_at] at cf
      have l3 : w.heap.size < x3.heap.size := Nat.lt_of_lt_of_le lE3 hb3.size
      have HO4 := hid (row_call HOR.out hb3)
      clear hb3 HCk k0 k1 k2 k3 k4 k5 k6 k7
      go_wp2_with fail
      refine (HT.out _ _).mono ?_
      rintro r x4 ⟨rfl, rfl⟩
      go_wp2_with fail
      refine (HP.out _ (reads_of_row (HO4.out.alloc _))).mono ?_
      rintro r x5 ⟨y, rfl, hown5, hb5⟩
      obtain ⟨A5, c5, rfl⟩ := row_shape hown5
      have HB5 := hid (below_al (HBR.out.trans (HB3.out.mono HBR.out.size)) (Nat.le_trans HBR.out.size HB3.out.size) hb5)
      have HO5 := hid (row_base (base' := w.heap.size) hown5 (by have := Nat.le_trans HWR.out.size HB3.out.size; simp; omega))
      have HKL := hid (show k + 1 ≤ e.fl.length from hlt)
      clear hown5 hb5 cf hlt
      go_wp2_with fail
      go_roundw
      case rel =>
        exact ⟨k + 1, by go_num, HKL.out, ⟨_, _, rfl⟩, HO5.out, HB5.out⟩
      case measure => simp [intOf] <;> omega
    · have e1 : fat e.fl k = noField := by unfold fat; rw [List.getElem?_eq_none (by omega)]
      have e2 : decide (k < e.fl.length) = false := by simpa using hlt
      rw [e1, e2] at hCk
      unfold noField evArr at hCk
      have HCk := hid hCk
      obtain rfl : k = e.fl.length := by omega
      rw [evPre_end] at HOR ⊢
      have hN := fun W a => neq_nil 211 a (.inr rfl) W
      clear e1 e2 hCk hlt hk5 hkl
      go_wp2_with fail
      refine HCk.out.mono ?_
      rintro r x3 ⟨rfl, hb3⟩
      have HWX := hid (HWR.out.trans (hb3.mono HWR.out.size))
      have HOX := hid (row_call HOR.out hb3)
      clear hb3 HCk k0 k1 k2 k3 k4 k5 k6 k7
      go_wp2_with fail
      go_ret2
      exact ⟨_, _, rfl, .inl ⟨HOK.out, rfl⟩, fun _ => HOX.out.alloc _, ⟨_, _, _, rfl⟩, HWX.out.alloc HWX.out.size _⟩
end Go.Proofs.YtdinjplbbmhleaaDoor
