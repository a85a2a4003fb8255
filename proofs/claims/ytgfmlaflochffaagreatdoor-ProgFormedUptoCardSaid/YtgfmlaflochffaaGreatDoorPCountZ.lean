/-
  prog.Count; the text of the chapter's example.
-/
import Derived.Test.YtgfmlaflochffaaGreatDoorPExZ
import Derived.Test.YtgfmlaflochffaaGreatDoorPTextZ
namespace Go.Proofs.YtgfmlaflochffaaGreatDoor
open Go.RowKit Go.Maps W
attribute [local go_sem ↓] Go.wp_at_zero Go.wp_at_succ

def cntPg (p : Pg) (k : Nat) : Nat := ((p.threads.take k).map List.length).sum
theorem cnt_step (p : Pg) (k : Nat) (t : List (List PAct)) (h : p.threads[k]? = some t) : cntPg p (k + 1) = cntPg p k + t.length := by
  unfold cntPg
  obtain ⟨hk, h⟩ := List.getElem?_eq_some_iff.1 h
  rw [List.take_succ_eq_append_getElem hk, h]
  simp
theorem cnt_le (p : Pg) (hp : pgOk p = true) : ∀ k, k ≤ p.threads.length → cntPg p k ≤ 3 * k
  | 0, _ => by simp [cntPg]
  | k + 1, hk => by
    have ih := cnt_le p hp k (by omega)
    have ht : p.threads[k]? = some p.threads[k] := List.getElem?_eq_getElem (by omega)
    rw [cnt_step p k _ ht]
    have := (thrOk_parts ((pgOk_parts hp).2.2.2.2.2 _ (List.mem_of_getElem? ht))).1
    omega
set_option maxHeartbeats 4000000 in
theorem countCall (vc vt : Value) (p : Pg) (w : World) (hp : PgAt w vc vt p) (hok : pgOk p = true) :
    Calls Tryz.prog 17 #[.agg #[vc, vt]] w fun e w' => e = .returned (.int .i64 (cntPg p p.threads.length : Int)) ∧ Below w.heap.size w w' := by
  obtain ⟨_, _, ht1, ht4, _, hts⟩ := pgOk_parts hok
  obtain ⟨Ac, cc, hvc⟩ := hp.1.shape
  obtain ⟨At, ct, hvt⟩ := hp.2.shape
  subst hvc hvt
  rw [ints_len] at hp ⊢
  have HP := hid hp.2
  have HTS := hid hts
  have HL := hid (cnt_le p hok)
  have HB := hid ((Below.refl w.heap.size w).alloc (Nat.le_refl _) (.cells #[.slice Ac p.cells.length cc, .slice At p.threads.length ct] tP))
  clear hp hok hts
  go_enter Tryz.func17, Tryz.ntmps17
  go_wp2_with fail
  go_loop [3, 9] (fun s i => ∃ k : Nat, k ≤ p.threads.length ∧ i = .int .i64 k ∧ s = .int .i64 (cntPg p k : Int)) (fun _ i => 5 - (intOf i).toNat)
  case atStart => exact ⟨0, Nat.zero_le _, rfl, rfl⟩
  case round =>
    obtain ⟨k, hk, rfl, rfl⟩ := hrel
    have hl := HL.out k hk
    obtain ⟨s, hs⟩ : ∃ s, cntPg p k = s := ⟨_, rfl⟩
    rw [hs] at hl
    by_cases hlt : k < p.threads.length
    · obtain ⟨t, ht⟩ : ∃ t, p.threads[k]? = some t := ⟨p.threads[k], List.getElem?_eq_getElem hlt⟩
      obtain ⟨b1, o1, u1, rfl, hcell, hR, _, hcap⟩ := HP.out.at ht
      obtain ⟨A1, cp1, rfl⟩ := hR.shape
      have l1 := World.block_lt_of_cell? w _ hcell
      have hst := cnt_step p k t ht
      have ht3 := (thrOk_parts (HTS.out t (List.mem_of_getElem? ht))).1
      rw [hs] at hst ⊢
      have HS := hid hst
      clear hst hs ht hR
      go_wp2_with fail
      go_round
      case rel => exact ⟨k + 1, by omega, by go_num, by rw [HS.out]; go_num⟩
      case measure => simp [intOf] <;> omega
    · obtain rfl : k = p.threads.length := by omega
      have HS0 := hid hs
      clear hs
      go_wp2_with fail
      go_ret
      exact ⟨by rw [HS0.out]; rfl, HB.out⟩
theorem itoaN (n : Nat) (h : n < 10) : Lib.itoa (n : Int) = [UInt8.ofNat (48 + n)] := by
  rcases (show n = 0 ∨ n = 1 ∨ n = 2 ∨ n = 3 ∨ n = 4 ∨ n = 5 ∨ n = 6 ∨ n = 7 ∨ n = 8 ∨ n = 9 by omega) with rfl | rfl | rfl | rfl | rfl | rfl | rfl | rfl | rfl | rfl <;> (unfold Lib.itoa; rw [if_neg (by decide), Lib.decDigits, dif_pos (by decide)]; rfl)
def exText : List UInt8 := [112, 114, 111, 103, 114, 97, 109, 10, 99, 101, 108, 108, 115, 32, 48, 32, 53, 10, 116, 104, 114, 101, 97, 100, 10, 116, 120, 32, 114, 101, 97, 100, 32, 48, 32, 97, 100, 100, 32, 49, 32, 50, 10, 116, 104, 114, 101, 97, 100, 10, 116, 120, 32, 119, 114, 105, 116, 101, 32, 48, 32, 55, 32, 99, 97, 110, 99, 101, 108, 10]
theorem exText_is : pgText exPg = exText := by
  have i0 : Lib.itoa 0 = [48] := itoaN 0 (by decide)
  have i1 : Lib.itoa 1 = [49] := itoaN 1 (by decide)
  have i2 : Lib.itoa 2 = [50] := itoaN 2 (by decide)
  have i5 : Lib.itoa 5 = [53] := itoaN 5 (by decide)
  have i7 : Lib.itoa 7 = [55] := itoaN 7 (by decide)
  simp only [pgText, exPg, pgLines, thrLines, txWords, actWords, List.map, List.flatMap_cons, List.flatMap_nil, i0, i1, i2, i5, i7]
  decide
end Go.Proofs.YtgfmlaflochffaaGreatDoor
