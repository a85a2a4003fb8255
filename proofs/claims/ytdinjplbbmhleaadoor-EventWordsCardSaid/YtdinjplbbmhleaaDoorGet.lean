/-
  word.Get: the number whose bytes come first, and how many they are; else an error that is not nil.
-/
import Derived.Test.YtdinjplbbmhleaaDoorBytes
import Derived.Test.YtdinjplbbmhleaaDoorShift
namespace Go.Proofs.YtdinjplbbmhleaaDoor
open Go.RowKit Go.Maps W

/-- What Get answers. -/
def GetIs (l : List UInt8) (r : Value) : Prop :=
  match vget l with
  | .ok u k => r = .tuple #[.int .i64 (zag u), .int .i64 (k : Int), .nilIface]
  | _ => ∃ a, r = .tuple #[.int .i64 0, .int .i64 0, .iface 211 (.pointer (some a))]

def Bad (k x : Nat) : Prop := (k = 9 ∧ 1 < x) ∨ (0 < k ∧ x = 0)
theorem vg_drop {l : List UInt8} {k : Nat} {ch : UInt8} (h : l[k]? = some ch) : l.drop k = ch :: l.drop (k + 1) := by
  obtain ⟨hlt, rfl⟩ := List.getElem?_eq_some_iff.1 h
  exact List.drop_eq_getElem_cons hlt
theorem vg_ok {l : List UInt8} {k a : Nat} {ch : UInt8} (hg : vgo k a (l.drop k) = vget l) (h : l[k]? = some ch) (hb : ¬ Bad k ch.toNat) (h1 : ch.toNat < 128) : vget l = .ok (a + ch.toNat % 128 * 128 ^ k) (k + 1) := by
  unfold Bad at hb
  rw [← hg, vg_drop h, vgo, if_neg hb, if_pos h1, show ch.toNat % 128 = ch.toNat by omega]
theorem vg_next {l : List UInt8} {k a : Nat} {ch : UInt8} (hg : vgo k a (l.drop k) = vget l) (h : l[k]? = some ch) (hb : ¬ Bad k ch.toNat) (h1 : ¬ ch.toNat < 128) : vgo (k + 1) (a + ch.toNat % 128 * 128 ^ k) (l.drop (k + 1)) = vget l := by
  unfold Bad at hb
  rw [← hg, vg_drop h, vgo, if_neg hb, if_neg h1]
theorem vg_long {l : List UInt8} {k a : Nat} {ch : UInt8} (hg : vgo k a (l.drop k) = vget l) (h : l[k]? = some ch) (hb : Bad k ch.toNat) : vget l = .long := by
  unfold Bad at hb
  rw [← hg, vg_drop h, vgo, if_pos hb]
theorem vg_end {l : List UInt8} {a k : Nat} (hg : vgo k a (l.drop k) = vget l) (h : l.length ≤ k) : vget l = .ends := by
  rw [← hg, List.drop_of_length_le h, vgo]
theorem zag_odd {u : Nat} (h : u % 2 = 1) : zag u = -((u : Int) / 2) - 1 := by unfold zag; rw [if_pos h]; omega
theorem zag_even {u : Nat} (h : ¬ u % 2 = 1) : zag u = (u : Int) / 2 := by unfold zag; rw [if_neg h]; omega

set_option maxHeartbeats 8000000 in
set_option maxRecDepth 100000 in
theorem get (v : Value) (l : List UInt8) (w : World) (hv : Reads w v (bys l)) (hlen : l.length ≤ 1000000000) (hL : Laid w) :
    Calls Tryd.prog 23 #[v] w fun e w' => ∃ r, e = .returned r ∧ GetIs l r ∧ Below w.heap.size w w' := by
  obtain ⟨A, c, b, o, rfl, hA, hA2, hc, hcells⟩ := hv
  rw [bys_len] at hA hA2 hc ⊢
  obtain ⟨aL, haL⟩ := hL.errs 0 (by simp)
  obtain ⟨aE, haE⟩ := hL.errs 1 (by simp)
  have HV := hid hcells
  have HA := hid (And.intro hA hA2)
  clear hcells hA hA2 hL
  go_enter Tryd.func23, Tryd.ntmps23
  go_wp2
  go_loop [5, 11] (fun su si => ∃ (k a : Nat), si = .int .i64 k ∧ su = .int .u64 (a : Int) ∧ k ≤ l.length ∧ k ≤ 10 ∧ (k < 10 → a < 128 ^ k) ∧ (k < l.length → k ≤ 9) ∧ vgo k a (l.drop k) = vget l) (fun _ si => l.length - (intOf si).toNat)
  case atStart => exact ⟨0, 0, rfl, rfl, Nat.zero_le _, by omega, by simp, by omega, by simp [vget]⟩
  case round =>
    obtain ⟨k, a, rfl, rfl, hk, hk9, ha, hkl, hg⟩ := hrel
    have HG := hid hg
    have HAk := hid ha
    clear hg ha
    by_cases hlt : k < l.length
    · have hk9' : k ≤ 9 := hkl hlt
      obtain ⟨ch, hch⟩ : ∃ ch, l[k]? = some ch := ⟨l[k], List.getElem?_eq_getElem hlt⟩
      have hA' : A = some ⟨b, o, none⟩ := by
        cases A with
        | none => have := HA.out.1 rfl; omega
        | some x => rw [HA.out.2 x rfl (by omega)]
      subst hA'
      have c1 : w.cell? ⟨b, o + k, none⟩ = some (.int .u8 (ch.toNat : Int)) := HV.out k _ (by simp [bys, hch])
      have hch9 : ch.toNat < 256 := UInt8.toNat_lt ch
      have Hok := hid (fun hb h1 => vg_ok HG.out hch hb h1)
      have Hnext := hid (fun hb h1 => vg_next HG.out hch hb h1)
      have Hlong := hid (fun hb => vg_long HG.out hch hb)
      clear hch hkl
      generalize ch.toNat = x at *
      by_cases hbad : Bad k x
      · have hl := Hlong.out hbad
        have hr : ∀ r, (∃ a, r = .tuple #[.int .i64 0, .int .i64 0, .iface 211 (.pointer (some a))]) → GetIs l r := fun r h => by unfold GetIs; rw [hl]; exact h
        have HR := hid hr
        have hcases : (((k : Int) == 9) = true ∧ decide ((1 : Int) < (x : Int)) = true) ∨ (((k : Int) == 9) = true ∧ decide ((1 : Int) < (x : Int)) = false ∧ 0 < k ∧ ((x : Int) == 0) = true) ∨
            (((k : Int) == 9) = false ∧ 0 < k ∧ ((x : Int) == 0) = true) := by
          unfold Bad at hbad
          simp only [beq_iff_eq, beq_eq_false_iff_ne, decide_eq_true_eq, decide_eq_false_iff_not]
          omega
        clear hl hr hbad Hok Hnext Hlong
        rcases hcases with ⟨t1, t2⟩ | ⟨t1, t2, t3, t4⟩ | ⟨t1, t2, t3⟩
        all_goals
          go_wp2_with fail
          go_quiet (fail)
          go_wp2_with fail
          go_ret3
          exact ⟨_, rfl, HR.out _ ⟨_, rfl⟩, below_only (Below.refl _ _) ((Only.refl [] w).drewN _) (Nat.le_refl _) (by simp)⟩
      · have h9x : k = 9 → x ≤ 1 := fun h => by
          rcases Nat.lt_or_ge 1 x with h1 | h1
          · exact absurd (.inl ⟨h, h1⟩) hbad
          · exact h1
        have hcases : (((k : Int) == 9) = true ∧ decide ((1 : Int) < (x : Int)) = false ∧ 0 < k ∧ ((x : Int) == 0) = false) ∨ (((k : Int) == 9) = false ∧ 0 < k ∧ ((x : Int) == 0) = false) ∨
            (((k : Int) == 9) = false ∧ ¬ 0 < k) := by
          unfold Bad at hbad
          simp only [beq_iff_eq, beq_eq_false_iff_ne, decide_eq_false_iff_not]
          omega
        have hU := get_or (HAk.out (by omega)) hch9 hk9' h9x
        have hUl := get_lt (HAk.out (by omega)) hk9' h9x
        have Hok' := hid (Hok.out hbad)
        have Hnext' := hid (Hnext.out hbad)
        have H9 := hid h9x
        have HA2 := hid (show k < 9 → a + x % 128 * 128 ^ k < 128 ^ (k + 1) from fun h => by
          have ha := HAk.out (by omega)
          rw [Nat.pow_succ]
          have h1 : x % 128 * 128 ^ k ≤ 127 * 128 ^ k := Nat.mul_le_mul_right _ (by omega)
          omega)
        clear hbad h9x Hok Hnext Hlong
        generalize a + x % 128 * 128 ^ k = U at *
        have hU2 : (U : Int) / 2 ≤ 9223372036854775807 := by omega
        have hU3 : 0 ≤ (U : Int) / 2 := by omega
        have hand := and_one hUl
        have HUl := hid hUl
        clear hUl
        by_cases h1 : x < 128
        · have t9 : decide ((x : Int) < 128) = true := by simp; omega
          have hr := Hok'.out h1
          by_cases hp : U % 2 = 1
          · rw [hp] at hand
            have hfin : GetIs l (.tuple #[.int .i64 (-((U : Int) / 2) - 1), .int .i64 ((k : Int) + 1), .nilIface]) := by
              unfold GetIs
              rw [hr, ← zag_odd hp]
              rfl
            have HF := hid hfin
            clear hr hfin hp Hok' Hnext' HA2
            rcases hcases with ⟨t1, t2, t3, t4⟩ | ⟨t1, t2, t3⟩ | ⟨t1, t2⟩
            all_goals
              go_wp2
              go_ret3
              exact ⟨_, rfl, HF.out, Below.refl _ _⟩
          · rw [show U % 2 = 0 by omega] at hand
            have hfin : GetIs l (.tuple #[.int .i64 ((U : Int) / 2), .int .i64 ((k : Int) + 1), .nilIface]) := by
              unfold GetIs
              rw [hr, ← zag_even hp]
              rfl
            have HF := hid hfin
            clear hr hfin hp Hok' Hnext' HA2
            rcases hcases with ⟨t1, t2, t3, t4⟩ | ⟨t1, t2, t3⟩ | ⟨t1, t2⟩
            all_goals
              go_wp2
              go_ret3
              exact ⟨_, rfl, HF.out, Below.refl _ _⟩
        · have t9 : decide ((x : Int) < 128) = false := by simp; omega
          have hk8 : k < 9 := by
            rcases Nat.lt_or_ge k 9 with h | h
            · exact h
            · have := H9.out (by omega); omega
          have HN := hid (Hnext'.out h1)
          have HA3 := hid (HA2.out hk8)
          clear hand Hok' Hnext' HA2
          rcases hcases with ⟨t1, t2, t3, t4⟩ | ⟨t1, t2, t3⟩ | ⟨t1, t2⟩
          all_goals
            go_wp2
            exact ⟨⟨k + 1, U, by go_num, rfl, by omega, by omega, fun _ => HA3.out, by omega, HN.out⟩, by simp [intOf]; omega⟩
    · have hr : ∀ r, (∃ a, r = .tuple #[.int .i64 0, .int .i64 0, .iface 211 (.pointer (some a))]) → GetIs l r := fun r h => by unfold GetIs; rw [vg_end HG.out (by omega)]; exact h
      have HR := hid hr
      clear hr hkl
      go_wp2_with fail
      go_quiet (fail)
      go_wp2_with fail
      go_ret3
      exact ⟨_, rfl, HR.out _ ⟨_, rfl⟩, below_only (Below.refl _ _) ((Only.refl [] w).drewN _) (Nat.le_refl _) (by simp)⟩
end Go.Proofs.YtdinjplbbmhleaaDoor
