/-
  umpireref.SameTexts; umpireref1.Silent. Bounds on lengths alone.
-/
import Derived.Test.YtdinjplbbmhleaaDoorText
namespace Go.Proofs.YtdinjplbbmhleaaDoor
open Go.RowKit Go.Maps W

theorem take_same {α : Type} {a b : List α} {k : Nat} {x : α} (h : a.take k = b.take k) (ha : a[k]? = some x) (hb : b[k]? = some x) : a.take (k + 1) = b.take (k + 1) := by
  rw [List.take_add_one, List.take_add_one, h, ha, hb]
theorem take_differ {α : Type} {a b : List α} {k : Nat} {x y : α} (ha : a[k]? = some x) (hb : b[k]? = some y) (hne : x ≠ y) : a ≠ b := by
  rintro rfl
  rw [ha] at hb
  injection hb with hb
  exact hne hb

set_option maxHeartbeats 2000000 in
theorem sameTexts (v1 v2 : Value) (a b : List (List UInt8)) (w : World) (h1 : Reads w v1 (txs a)) (h2 : Reads w v2 (txs b)) (hla : a.length ≤ 1000000000) (hlb : b.length ≤ 1000000000) :
    Calls Tryd.prog 15 #[v1, v2] w fun e w' => e = .returned (.bool (decide (a = b))) ∧ ∃ n, w' = w.drewN n := by
  obtain ⟨A1, c1, b1, o1, rfl, hA1, hA1', hc1, hcells1⟩ := h1
  obtain ⟨A2, c2, b2, o2, rfl, hA2, hA2', hc2, hcells2⟩ := h2
  rw [txs_len] at hA1 hA1' hc1 hA2 hA2' hc2 ⊢
  rw [txs_len]
  by_cases hlen : a.length = b.length
  · have hne : ((a.length : Int) != (b.length : Int)) = false := by simp; omega
    have HV1 := hid (And.intro hcells1 (And.intro hA1 hA1'))
    have HV2 := hid (And.intro hcells2 (And.intro hA2 hA2'))
    have hle : a.length ≤ b.length := by omega
    have hge : b.length ≤ a.length := by omega
    clear hcells1 hcells2 hA1 hA1' hA2 hA2' hlen
    go_enter Tryd.func15, Tryd.ntmps15
    go_wp2
    go_loopw [5] (fun i wr => ∃ k n : Nat, i = .int .i64 k ∧ k ≤ a.length ∧ a.take k = b.take k ∧ wr = w.drewN n) (fun i _ => a.length - (intOf i).toNat)
    case atStart => exact ⟨0, 0, rfl, Nat.zero_le _, by simp, rfl⟩
    case round =>
      obtain ⟨k, n, rfl, hk, hsame, rfl⟩ := hrel
      have HS := hid hsame
      clear hsame
      by_cases hlt : k < a.length
      · obtain ⟨x, hx⟩ : ∃ x, a[k]? = some x := ⟨a[k], List.getElem?_eq_getElem hlt⟩
        obtain ⟨y, hy⟩ : ∃ y, b[k]? = some y := ⟨b[k], List.getElem?_eq_getElem (by omega)⟩
        have hA1' : A1 = some ⟨b1, o1, none⟩ := by
          cases A1 with
          | none => have := (HV1.out.2.1 rfl).1; omega
          | some z => rw [HV1.out.2.2 z rfl (by omega)]
        have hA2' : A2 = some ⟨b2, o2, none⟩ := by
          cases A2 with
          | none => have := (HV2.out.2.1 rfl).1; omega
          | some z => rw [HV2.out.2.2 z rfl (by omega)]
        subst hA1' hA2'
        have d1 : w.cell? ⟨b1, o1 + k, none⟩ = some (.string ⟨x.toArray⟩) := HV1.out.1 k _ (by simp [txs, str, hx])
        have d2 : w.cell? ⟨b2, o2 + k, none⟩ = some (.string ⟨y.toArray⟩) := HV2.out.1 k _ (by simp [txs, str, hy])
        have HX := hid hx
        have HY := hid hy
        clear hx hy
        by_cases hxy : x = y
        · subst hxy
          go_wp2_with fail
          go_quiet (fail)
          go_wp2_with fail
          go_roundw
          case rel => exact ⟨k + 1, _, by go_num, by omega, take_same HS.out HX.out HY.out, rfl⟩
          case measure => simp [intOf] <;> omega
        · have t1 : (x == y) = false := by simpa using hxy
          have hd := hid (show decide (a = b) = false by simpa using take_differ HX.out HY.out hxy)
          clear hxy
          go_wp2_with fail
          go_quiet (fail)
          go_wp2_with fail
          go_ret
          exact ⟨by rw [hd.out]; rfl, _, rfl⟩
      · have hd := hid (show decide (a = b) = true by
          have h := HS.out
          rw [List.take_of_length_le (by omega), List.take_of_length_le (by omega)] at h
          simpa using h)
        go_wp2_with fail
        go_ret
        exact ⟨by rw [hd.out]; rfl, _, rfl⟩
  · have hne : ((a.length : Int) != (b.length : Int)) = true := by simp; omega
    have hd := hid (show decide (a = b) = false by simp; rintro rfl; exact hlen rfl)
    clear hcells1 hcells2 hA1 hA1' hA2 hA2' hlen
    go_enter Tryd.func15, Tryd.ntmps15
    go_wp2
    go_ret
    exact ⟨by rw [hd.out]; rfl, 0, rfl⟩

theorem silent_drop (l : List UInt8) (k : Nat) (hk : ∀ j, j < k → l[j]? = some 32) : l.dropWhile (· == 32) = (l.drop k).dropWhile (· == 32) := by
  induction k generalizing l with
  | zero => simp
  | succ k ih =>
    cases l with
    | nil => simp
    | cons c r =>
      obtain rfl : c = 32 := by have := hk 0 (by omega); simpa using this
      rw [List.dropWhile_cons_of_pos (by decide), List.drop_succ_cons]
      exact ih r (fun j hj => by have := hk (j + 1) (by omega); simpa using this)

set_option maxHeartbeats 1000000 in
theorem silentRef (l : List UInt8) (hlen : l.length ≤ 1000000000) (w : World) :
    Calls Tryd.prog 21 #[.string ⟨l.toArray⟩] w fun e w' => e = .returned (.bool (silent l)) ∧ w = w' := by
  go_enter Tryd.func21, Tryd.ntmps21
  go_wp2
  go_loop [3] (fun i => ∃ k : Nat, i = .int .i64 k ∧ k ≤ l.length ∧ ∀ j, j < k → l[j]? = some 32) (fun i => l.length - (intOf i).toNat)
  case atStart => exact ⟨0, rfl, Nat.zero_le _, by simp⟩
  case round =>
    obtain ⟨k, rfl, hk, hall⟩ := hrel
    have HA := hid hall
    clear hall
    by_cases hlt : k < l.length
    · obtain ⟨c, hc⟩ : ∃ c, l[k]? = some c := ⟨l[k], List.getElem?_eq_getElem hlt⟩
      have hg : l[k] = c := by
        rw [List.getElem?_eq_getElem hlt] at hc
        injection hc
      have hgB : (⟨l.toArray⟩ : ByteArray)[k]'(by simpa [ByteArray.size] using hlt) = c := hg
      have HG := hid hg
      have HC := hid hc
      clear hg
      by_cases h32 : c = 32
      · have t1 : ((c.toNat : Int) != 32) = false := by subst h32; rfl
        have hnext := hid (show ∀ j, j < k + 1 → l[j]? = some 32 from fun j hj => by
          rcases Nat.lt_or_ge j k with h | h
          · exact HA.out j h
          · obtain rfl : j = k := by omega
            rw [HC.out, h32])
        clear h32 hc
        go_wp2
        go_round
        case rel => exact ⟨k + 1, by go_num, by omega, hnext.out⟩
        case measure => simp [intOf] <;> omega
      · have t1 : ((c.toNat : Int) != 32) = true := by
          rw [bne_iff_ne]
          intro e
          exact h32 (UInt8.toNat_inj.1 (by show c.toNat = 32; omega))
        have hs : silent l = ((c.toNat : Int) == 35) := by
          unfold silent
          rw [silent_drop l k HA.out, List.drop_eq_getElem_cons hlt, HG.out, List.dropWhile_cons_of_neg (by simpa using h32)]
          simp only
          rw [Bool.eq_iff_iff, beq_iff_eq, beq_iff_eq]
          constructor
          · rintro rfl; rfl
          · intro h; exact UInt8.toNat_inj.1 (by show c.toNat = 35; omega)
        have HS := hid hs
        clear hs h32 hc
        go_wp2
        go_ret
        exact ⟨by rw [HS.out]; rfl, rfl⟩
    · have HS := hid (show silent l = true by
        unfold silent
        rw [silent_drop l k HA.out, List.drop_of_length_le (by omega)]
        rfl)
      go_wp2
      go_ret
      exact ⟨by rw [HS.out]; rfl, rfl⟩
end Go.Proofs.YtdinjplbbmhleaaDoor
