/-
  The plain layer under package word: numbers without a sign, their bytes, decimal numerals. No program in sight.
-/
import Derived.Lib.AtoiAll
import Derived.Lib.ItoaNum
namespace Go.Proofs.YtdfkegflnebckaaDoor.W
open Go Go.Lib

/-- The number without a sign that stands for n. -/
def zig (n : Int) : Nat := if n < 0 then (-n - 1).toNat * 2 + 1 else n.toNat * 2
def zag (u : Nat) : Int := if u % 2 = 1 then -((u / 2 : Nat) : Int) - 1 else ((u / 2 : Nat) : Int)
theorem zag_zig (n : Int) : zag (zig n) = n := by
  unfold zag zig
  by_cases h : n < 0
  · rw [if_pos h, if_pos (by omega)]; omega
  · rw [if_neg h, if_neg (by omega)]; omega
theorem zig_zag (u : Nat) : zig (zag u) = u := by
  unfold zag zig
  by_cases h : u % 2 = 1
  · rw [if_pos h, if_pos (by omega)]; omega
  · rw [if_neg h, if_neg (by omega)]; omega
theorem zig_lt (n : Int) (h0 : -9223372036854775808 ≤ n) (h1 : n ≤ 9223372036854775807) : zig n < 18446744073709551616 := by
  unfold zig
  split <;> omega
theorem zag_bd (u : Nat) (h : u < 18446744073709551616) : -9223372036854775808 ≤ zag u ∧ zag u ≤ 9223372036854775807 := by
  unfold zag
  split <;> omega
theorem zig_inj {n m : Int} (h : zig n = zig m) : n = m := by rw [← zag_zig n, h, zag_zig]

/-- The bytes of a number without a sign. -/
def vb (u : Nat) : List UInt8 := if h : u < 128 then [UInt8.ofNat u] else UInt8.ofNat (u % 128 + 128) :: vb (u / 128)
termination_by u
decreasing_by omega
theorem vb_small {u : Nat} (h : u < 128) : vb u = [UInt8.ofNat u] := by rw [vb, dif_pos h]
theorem vb_big {u : Nat} (h : ¬ u < 128) : vb u = UInt8.ofNat (u % 128 + 128) :: vb (u / 128) := by rw [vb, dif_neg h]
theorem vb_pos (u : Nat) : 1 ≤ (vb u).length := by
  by_cases h : u < 128
  · rw [vb_small h]; simp
  · rw [vb_big h]; simp
theorem vb_len : ∀ (k u : Nat), u < 128 ^ k → 1 ≤ k → (vb u).length ≤ k
  | 0, _, _, h => by omega
  | k + 1, u, hu, _ => by
    by_cases h : u < 128
    · rw [vb_small h]; simp
    · rw [vb_big h]
      have hk : 1 ≤ k := by
        cases k with
        | zero => simp at hu; omega
        | succ k => omega
      have := vb_len k (u / 128) (by rw [Nat.pow_succ] at hu; omega) hk
      simp; omega
theorem vb_ten (u : Nat) (h : u < 18446744073709551616) : (vb u).length ≤ 10 := vb_len 10 u (by omega) (by omega)

/-- How Get ends. -/
inductive GetEnd where
  | ok (u : Nat) (used : Nat)
  | long
  | ends
/-- Get, with i bytes behind it that spell u. -/
def vgo : Nat → Nat → List UInt8 → GetEnd
  | _, _, [] => .ends
  | i, u, c :: r => if (i = 9 ∧ 1 < c.toNat) ∨ (0 < i ∧ c.toNat = 0) then .long
    else if c.toNat < 128 then .ok (u + c.toNat * 128 ^ i) (i + 1) else vgo (i + 1) (u + c.toNat % 128 * 128 ^ i) r
def vget (l : List UInt8) : GetEnd := vgo 0 0 l

theorem ofNat_toNat {x : Nat} (h : x < 256) : (UInt8.ofNat x).toNat = x := by
  rw [UInt8.toNat_ofNat']; omega

/-- What Put has written, Get reads, whatever stands behind. -/
theorem vgo_vb (u : Nat) : ∀ (i a : Nat) (rest : List UInt8), a < 128 ^ i → a + u * 128 ^ i < 18446744073709551616 → (0 < i → 0 < u) → i ≤ 9 → vgo i a (vb u ++ rest) = .ok (a + u * 128 ^ i) (i + (vb u).length) := by
  induction u using Nat.strongRecOn with
  | _ u ih =>
    intro i a rest ha hu hi h9
    have key : i = 9 → u ≤ 1 := fun h => by
      subst h
      have : (128 : Nat) ^ 9 = 9223372036854775808 := by decide
      rw [this] at hu
      omega
    by_cases h : u < 128
    · rw [vb_small h]
      simp only [List.cons_append, List.nil_append, vgo, ofNat_toNat (show u < 256 by omega)]
      rw [if_neg (by
        rintro (⟨h1, h2⟩ | ⟨h1, h2⟩)
        · have := key h1; omega
        · have := hi h1; omega), if_pos h]
      simp
    · rw [vb_big h]
      have h9' : i ≠ 9 := fun e => by have := key e; omega
      simp only [List.cons_append, vgo, ofNat_toNat (show u % 128 + 128 < 256 by omega)]
      rw [if_neg (by omega), if_neg (by omega), show (u % 128 + 128) % 128 = u % 128 by omega]
      have hp : (128 : Nat) ^ (i + 1) = 128 * 128 ^ i := by rw [Nat.pow_succ, Nat.mul_comm]
      have hsplit : a + u % 128 * 128 ^ i + u / 128 * 128 ^ (i + 1) = a + u * 128 ^ i := by
        rw [hp, ← Nat.mul_assoc, Nat.add_assoc, ← Nat.add_mul]
        congr 2
        omega
      have hlt : a + u % 128 * 128 ^ i < 128 ^ (i + 1) := by
        rw [hp]
        have h1 : u % 128 * 128 ^ i ≤ 127 * 128 ^ i := Nat.mul_le_mul_right _ (by omega)
        omega
      rw [ih (u / 128) (by omega) (i + 1) _ rest hlt (by rw [hsplit]; exact hu) (by omega) (by omega), hsplit]
      simp only [List.length_cons]
      congr 1
      omega
theorem vget_vb (u : Nat) (h : u < 18446744073709551616) (rest : List UInt8) : vget (vb u ++ rest) = .ok u (vb u).length := by
  have := vgo_vb u 0 0 rest (by simp) (by simpa using h) (by simp) (by omega)
  simpa [vget] using this

/-- What Get took is just the bytes of what it answers. -/
theorem vgo_ok : ∀ (l : List UInt8) (i a v k : Nat), i ≤ 9 → a < 128 ^ i → vgo i a l = .ok v k → ∃ u, v = a + u * 128 ^ i ∧ k = i + (vb u).length ∧ vb u = l.take (k - i) ∧ k - i ≤ l.length ∧ (0 < i → 0 < u) ∧ v < 18446744073709551616
  | [], i, a, v, k, _, _, h => by simp [vgo] at h
  | c :: r, i, a, v, k, hi, ha, h => by
    simp only [vgo] at h
    have hc := UInt8.toNat_lt c
    by_cases hb : (i = 9 ∧ 1 < c.toNat) ∨ (0 < i ∧ c.toNat = 0)
    · rw [if_pos hb] at h; cases h
    · rw [if_neg hb] at h
      have hb1 : i = 9 → c.toNat ≤ 1 := fun e => by
        by_cases h1 : c.toNat ≤ 1
        · exact h1
        · exact absurd (.inl ⟨e, by omega⟩) hb
      have hb2 : 0 < i → 0 < c.toNat := fun e => by
        by_cases h1 : 0 < c.toNat
        · exact h1
        · exact absurd (.inr ⟨e, by omega⟩) hb
      by_cases h1 : c.toNat < 128
      · rw [if_pos h1] at h
        injection h with hv hk
        subst hv hk
        refine ⟨c.toNat, rfl, ?_, ?_, ?_, hb2, ?_⟩
        · rw [vb_small h1]; rfl
        · rw [vb_small h1, show i + 1 - i = 1 by omega]
          simp
        · simp
        · by_cases h9 : i = 9
          · subst h9
            have := hb1 rfl
            have e : (128 : Nat) ^ 9 = 9223372036854775808 := by decide
            rw [e] at ha ⊢
            have : c.toNat * 9223372036854775808 ≤ 1 * 9223372036854775808 := Nat.mul_le_mul_right _ this
            omega
          · have hp : (128 : Nat) ^ (i + 1) ≤ 128 ^ 9 := Nat.pow_le_pow_right (by omega) (by omega)
            have e : (128 : Nat) ^ 9 = 9223372036854775808 := by decide
            rw [e, Nat.pow_succ] at hp
            have h2 : c.toNat * 128 ^ i ≤ 127 * 128 ^ i := Nat.mul_le_mul_right _ (by omega)
            omega
      · rw [if_neg h1] at h
        have h9 : i ≠ 9 := fun e => by have := hb1 e; omega
        have hp : (128 : Nat) ^ (i + 1) = 128 * 128 ^ i := by rw [Nat.pow_succ, Nat.mul_comm]
        have hlt : a + c.toNat % 128 * 128 ^ i < 128 ^ (i + 1) := by
          rw [hp]
          have h1 : c.toNat % 128 * 128 ^ i ≤ 127 * 128 ^ i := Nat.mul_le_mul_right _ (by omega)
          omega
        obtain ⟨u, e1, e2, e3, e4, e5, e6⟩ := vgo_ok r (i + 1) _ v k (by omega) hlt h
        have hu : 0 < u := e5 (by omega)
        have hbig : ¬ (c.toNat % 128 + u * 128) < 128 := by omega
        have hvb : vb (c.toNat % 128 + u * 128) = c :: vb u := by
          rw [vb_big hbig, show (c.toNat % 128 + u * 128) / 128 = u by omega, show (c.toNat % 128 + u * 128) % 128 + 128 = c.toNat by omega, UInt8.ofNat_toNat]
        refine ⟨c.toNat % 128 + u * 128, ?_, ?_, ?_, ?_, fun _ => by omega, e6⟩
        · rw [e1, hp, Nat.add_mul, Nat.mul_assoc u 128, Nat.add_assoc]
        · rw [hvb, e2]; simp; omega
        · rw [hvb, e3, show k - i = (k - (i + 1)) + 1 by have := vb_pos u; omega, List.take_succ_cons]
        · have := vb_pos u
          simp only [List.length_cons]
          omega
theorem vget_ok {l : List UInt8} {v k : Nat} (h : vget l = .ok v k) : vb v = l.take k ∧ k = (vb v).length ∧ k ≤ l.length ∧ v < 18446744073709551616 := by
  obtain ⟨u, e1, e2, e3, e4, _, e6⟩ := vgo_ok l 0 0 v k (by omega) (by simp) h
  have : v = u := by simpa using e1
  subst this
  exact ⟨by simpa using e3, by simpa using e2, by simpa using e4, e6⟩
/-- No bytes of a number begin another's. -/
theorem vb_prefix {u v : Nat} (hu : u < 18446744073709551616) (hv : v < 18446744073709551616) (h : (vb u).take (min (vb u).length (vb v).length) = (vb v).take (min (vb u).length (vb v).length)) : u = v := by
  rcases Nat.le_total (vb u).length (vb v).length with hl | hl
  · rw [Nat.min_eq_left hl, List.take_length] at h
    have h1 := vget_vb u hu ((vb v).drop (vb u).length)
    have h2 := vget_vb v hv []
    have e := List.take_append_drop (vb u).length (vb v)
    rw [← h] at e
    rw [e] at h1
    rw [List.append_nil, h1] at h2
    injection h2
  · rw [Nat.min_eq_right hl, List.take_length] at h
    have h1 := vget_vb v hv ((vb u).drop (vb v).length)
    have h2 := vget_vb u hu []
    have e := List.take_append_drop (vb v).length (vb u)
    rw [h] at e
    rw [e] at h1
    rw [List.append_nil, h1] at h2
    injection h2 with h2
    exact h2.symm

/-- A numeral is read as the number that it spells. -/
theorem parse_dec (u : Nat) : ∀ (r : List UInt8), u < 18446744073709551616 → parseUint10 0 (decDigits u ++ r) = parseUint10 u r := by
  induction u using Nat.strongRecOn with
  | _ u ih =>
    intro r hu
    by_cases h : u < 10
    · rw [decDigits, dif_pos h]
      simp only [List.cons_append, List.nil_append, parseUint10, ofNat_toNat (show 48 + u < 256 by omega)]
      rw [if_pos (by omega), if_neg (by omega), if_neg (by omega)]
      congr 1
      omega
    · rw [decDigits, dif_neg h, List.append_assoc, ih (u / 10) (by omega) _ (by omega)]
      simp only [List.cons_append, List.nil_append, parseUint10, ofNat_toNat (show 48 + u % 10 < 256 by omega)]
      rw [if_pos (by omega), if_neg (by omega), if_neg (by omega)]
      congr 1
      omega
theorem dec_head (u : Nat) : ∃ c r, decDigits u = c :: r ∧ 48 ≤ c.toNat ∧ c.toNat ≤ 57 := by
  induction u using Nat.strongRecOn with
  | _ u ih =>
    by_cases h : u < 10
    · refine ⟨_, [], by rw [decDigits, dif_pos h], ?_⟩
      rw [ofNat_toNat (by omega)]
      omega
    · obtain ⟨c, r, e, h1⟩ := ih (u / 10) (by omega)
      refine ⟨c, r ++ [UInt8.ofNat (48 + u % 10)], ?_, h1⟩
      rw [decDigits, dif_neg h, e]
      rfl
theorem mag_dec (u : Nat) (h : u < 18446744073709551616) : parseMag (decDigits u) = .ok u := by
  obtain ⟨c, r, e, _⟩ := dec_head u
  have h1 := parse_dec u [] h
  rw [List.append_nil] at h1
  unfold parseMag
  rw [if_neg (by rw [e]; simp), h1]
  rfl
theorem atoi_itoa (n : Int) (h0 : -9223372036854775808 ≤ n) (h1 : n ≤ 9223372036854775807) : atoiAll (itoa n) = .ok n := by
  unfold itoa
  by_cases h : n < 0
  · rw [if_pos h]
    unfold atoiAll
    simp only [show (45 : UInt8).toNat = 45 from rfl, or_true, if_true, mag_dec n.natAbs (by omega), not_true, false_and, if_false, true_and]
    rw [if_neg (by omega)]
    congr 1
    omega
  · rw [if_neg h]
    obtain ⟨c, r, e, hc1, hc2⟩ := dec_head n.toNat
    have hm := mag_dec n.toNat (by omega)
    rw [e] at hm ⊢
    unfold atoiAll
    have h43 : ¬ c.toNat = 43 := by omega
    have h45 : ¬ c.toNat = 45 := by omega
    simp only [h43, h45, or_self, if_false, hm, not_false_eq_true, true_and, false_and]
    rw [if_neg (by omega)]
    congr 1
    omega
theorem itoa_inj {n m : Int} (hn : -9223372036854775808 ≤ n ∧ n ≤ 9223372036854775807) (hm : -9223372036854775808 ≤ m ∧ m ≤ 9223372036854775807) (h : itoa n = itoa m) : n = m := by
  have h1 := atoi_itoa n hn.1 hn.2
  rw [h, atoi_itoa m hm.1 hm.2] at h1
  injection h1 with h1
  exact h1.symm

/-- The number whose Print a text is. -/
def number (l : List UInt8) : Option Int :=
  match atoiAll l with
  | .ok v => if -1000000000 ≤ v ∧ v ≤ 1000000000 ∧ itoa v = l then some v else none
  | _ => none
theorem number_print {l : List UInt8} {v : Int} (h : number l = some v) : itoa v = l ∧ -1000000000 ≤ v ∧ v ≤ 1000000000 := by
  unfold number at h
  split at h
  · split at h
    · rename_i h1
      injection h with h
      subst h
      exact ⟨h1.2.2, h1.1, h1.2.1⟩
    · cases h
  · cases h
theorem number_itoa (n : Int) (h0 : -9223372036854775808 ≤ n) (h1 : n ≤ 9223372036854775807) : number (itoa n) = if -1000000000 ≤ n ∧ n ≤ 1000000000 then some n else none := by
  unfold number
  rw [atoi_itoa n h0 h1]
  simp
end Go.Proofs.YtdfkegflnebckaaDoor.W
