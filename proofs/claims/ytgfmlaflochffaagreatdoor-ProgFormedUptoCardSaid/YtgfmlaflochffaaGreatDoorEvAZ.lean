/-
  The plain layer under package word: numbers without a sign, their bytes, decimal numerals. No program in sight.
  The bits that Get puts together, as sums. Plain arithmetic.
  Events as plain data: which fields an event uses, when it may be, its bytes, what a reader has read so far. Plain Lean alone.
  An event's cells.
-/
import Derived.Lib.AtoiAll
import Derived.Lib.ItoaNum
import Derived.Laws.BitsAllLaws
import Derived.Laws.Bits64
import Derived.WalkKit
namespace Go.Proofs.YtgfmlaflochffaaGreatDoor.W
open Go Go.Lib

/-- The number without a sign that stands for n. -/
def zig (n : Int) : Nat := if n < 0 then (-n - 1).toNat * 2 + 1 else n.toNat * 2
def zag (u : Nat) : Int := if u % 2 = 1 then -((u / 2 : Nat) : Int) - 1 else ((u / 2 : Nat) : Int)
theorem zag_zig (n : Int) : zag (zig n) = n := by
  unfold zag zig
  by_cases h : n < 0
  · rw [if_pos h, if_pos (by omega)]; omega
  · rw [if_neg h, if_neg (by omega)]; omega
theorem zig_zag (u : Nat) : zig (zag u) = u := by
  unfold zag zig
  by_cases h : u % 2 = 1
  · rw [if_pos h, if_pos (by omega)]; omega
  · rw [if_neg h, if_neg (by omega)]; omega
theorem zig_lt (n : Int) (h0 : -9223372036854775808 ≤ n) (h1 : n ≤ 9223372036854775807) : zig n < 18446744073709551616 := by
  unfold zig
  split <;> omega
theorem zag_bd (u : Nat) (h : u < 18446744073709551616) : -9223372036854775808 ≤ zag u ∧ zag u ≤ 9223372036854775807 := by
  unfold zag
  split <;> omega
theorem zig_inj {n m : Int} (h : zig n = zig m) : n = m := by rw [← zag_zig n, h, zag_zig]

/-- The bytes of a number without a sign. -/
def vb (u : Nat) : List UInt8 := if h : u < 128 then [UInt8.ofNat u] else UInt8.ofNat (u % 128 + 128) :: vb (u / 128)
termination_by u
decreasing_by omega
theorem vb_small {u : Nat} (h : u < 128) : vb u = [UInt8.ofNat u] := by rw [vb, dif_pos h]
theorem vb_big {u : Nat} (h : ¬ u < 128) : vb u = UInt8.ofNat (u % 128 + 128) :: vb (u / 128) := by rw [vb, dif_neg h]
theorem vb_pos (u : Nat) : 1 ≤ (vb u).length := by
  by_cases h : u < 128
  · rw [vb_small h]; simp
  · rw [vb_big h]; simp
theorem vb_len : ∀ (k u : Nat), u < 128 ^ k → 1 ≤ k → (vb u).length ≤ k
  | 0, _, _, h => by omega
  | k + 1, u, hu, _ => by
    by_cases h : u < 128
    · rw [vb_small h]; simp
    · rw [vb_big h]
      have hk : 1 ≤ k := by
        cases k with
        | zero => simp at hu; omega
        | succ k => omega
      have := vb_len k (u / 128) (by rw [Nat.pow_succ] at hu; omega) hk
      simp; omega
theorem vb_ten (u : Nat) (h : u < 18446744073709551616) : (vb u).length ≤ 10 := vb_len 10 u (by omega) (by omega)

/-- How Get ends. -/
inductive GetEnd where
  | ok (u : Nat) (used : Nat)
  | long
  | ends
/-- Get, with i bytes behind it that spell u. -/
def vgo : Nat → Nat → List UInt8 → GetEnd
  | _, _, [] => .ends
  | i, u, c :: r => if (i = 9 ∧ 1 < c.toNat) ∨ (0 < i ∧ c.toNat = 0) then .long
    else if c.toNat < 128 then .ok (u + c.toNat * 128 ^ i) (i + 1) else vgo (i + 1) (u + c.toNat % 128 * 128 ^ i) r
def vget (l : List UInt8) : GetEnd := vgo 0 0 l

theorem ofNat_toNat {x : Nat} (h : x < 256) : (UInt8.ofNat x).toNat = x := by
  rw [UInt8.toNat_ofNat']; omega

/-- What Put has written, Get reads, whatever stands behind. -/
theorem vgo_vb (u : Nat) : ∀ (i a : Nat) (rest : List UInt8), a < 128 ^ i → a + u * 128 ^ i < 18446744073709551616 → (0 < i → 0 < u) → i ≤ 9 → vgo i a (vb u ++ rest) = .ok (a + u * 128 ^ i) (i + (vb u).length) := by
  induction u using Nat.strongRecOn with
  | _ u ih =>
    intro i a rest ha hu hi h9
    have key : i = 9 → u ≤ 1 := fun h => by
      subst h
      have : (128 : Nat) ^ 9 = 9223372036854775808 := by decide
      rw [this] at hu
      omega
    by_cases h : u < 128
    · rw [vb_small h]
      simp only [List.cons_append, List.nil_append, vgo, ofNat_toNat (show u < 256 by omega)]
      rw [if_neg (by
        rintro (⟨h1, h2⟩ | ⟨h1, h2⟩)
        · have := key h1; omega
        · have := hi h1; omega), if_pos h]
      simp
    · rw [vb_big h]
      have h9' : i ≠ 9 := fun e => by have := key e; omega
      simp only [List.cons_append, vgo, ofNat_toNat (show u % 128 + 128 < 256 by omega)]
      rw [if_neg (by omega), if_neg (by omega), show (u % 128 + 128) % 128 = u % 128 by omega]
      have hp : (128 : Nat) ^ (i + 1) = 128 * 128 ^ i := by rw [Nat.pow_succ, Nat.mul_comm]
      have hsplit : a + u % 128 * 128 ^ i + u / 128 * 128 ^ (i + 1) = a + u * 128 ^ i := by
        rw [hp, ← Nat.mul_assoc, Nat.add_assoc, ← Nat.add_mul]
        congr 2
        omega
      have hlt : a + u % 128 * 128 ^ i < 128 ^ (i + 1) := by
        rw [hp]
        have h1 : u % 128 * 128 ^ i ≤ 127 * 128 ^ i := Nat.mul_le_mul_right _ (by omega)
        omega
      rw [ih (u / 128) (by omega) (i + 1) _ rest hlt (by rw [hsplit]; exact hu) (by omega) (by omega), hsplit]
      simp only [List.length_cons]
      congr 1
      omega
theorem vget_vb (u : Nat) (h : u < 18446744073709551616) (rest : List UInt8) : vget (vb u ++ rest) = .ok u (vb u).length := by
  have := vgo_vb u 0 0 rest (by simp) (by simpa using h) (by simp) (by omega)
  simpa [vget] using this

/-- What Get took is just the bytes of what it answers. -/
theorem vgo_ok : ∀ (l : List UInt8) (i a v k : Nat), i ≤ 9 → a < 128 ^ i → vgo i a l = .ok v k → ∃ u, v = a + u * 128 ^ i ∧ k = i + (vb u).length ∧ vb u = l.take (k - i) ∧ k - i ≤ l.length ∧ (0 < i → 0 < u) ∧ v < 18446744073709551616
  | [], i, a, v, k, _, _, h => by simp [vgo] at h
  | c :: r, i, a, v, k, hi, ha, h => by
    simp only [vgo] at h
    have hc := UInt8.toNat_lt c
    by_cases hb : (i = 9 ∧ 1 < c.toNat) ∨ (0 < i ∧ c.toNat = 0)
    · rw [if_pos hb] at h; cases h
    · rw [if_neg hb] at h
      have hb1 : i = 9 → c.toNat ≤ 1 := fun e => by
        by_cases h1 : c.toNat ≤ 1
        · exact h1
        · exact absurd (.inl ⟨e, by omega⟩) hb
      have hb2 : 0 < i → 0 < c.toNat := fun e => by
        by_cases h1 : 0 < c.toNat
        · exact h1
        · exact absurd (.inr ⟨e, by omega⟩) hb
      by_cases h1 : c.toNat < 128
      · rw [if_pos h1] at h
        injection h with hv hk
        subst hv hk
        refine ⟨c.toNat, rfl, ?_, ?_, ?_, hb2, ?_⟩
        · rw [vb_small h1]; rfl
        · rw [vb_small h1, show i + 1 - i = 1 by omega]
          simp
        · simp
        · by_cases h9 : i = 9
          · subst h9
            have := hb1 rfl
            have e : (128 : Nat) ^ 9 = 9223372036854775808 := by decide
            rw [e] at ha ⊢
            have : c.toNat * 9223372036854775808 ≤ 1 * 9223372036854775808 := Nat.mul_le_mul_right _ this
            omega
          · have hp : (128 : Nat) ^ (i + 1) ≤ 128 ^ 9 := Nat.pow_le_pow_right (by omega) (by omega)
            have e : (128 : Nat) ^ 9 = 9223372036854775808 := by decide
            rw [e, Nat.pow_succ] at hp
            have h2 : c.toNat * 128 ^ i ≤ 127 * 128 ^ i := Nat.mul_le_mul_right _ (by omega)
            omega
      · rw [if_neg h1] at h
        have h9 : i ≠ 9 := fun e => by have := hb1 e; omega
        have hp : (128 : Nat) ^ (i + 1) = 128 * 128 ^ i := by rw [Nat.pow_succ, Nat.mul_comm]
        have hlt : a + c.toNat % 128 * 128 ^ i < 128 ^ (i + 1) := by
          rw [hp]
          have h1 : c.toNat % 128 * 128 ^ i ≤ 127 * 128 ^ i := Nat.mul_le_mul_right _ (by omega)
          omega
        obtain ⟨u, e1, e2, e3, e4, e5, e6⟩ := vgo_ok r (i + 1) _ v k (by omega) hlt h
        have hu : 0 < u := e5 (by omega)
        have hbig : ¬ (c.toNat % 128 + u * 128) < 128 := by omega
        have hvb : vb (c.toNat % 128 + u * 128) = c :: vb u := by
          rw [vb_big hbig, show (c.toNat % 128 + u * 128) / 128 = u by omega, show (c.toNat % 128 + u * 128) % 128 + 128 = c.toNat by omega, UInt8.ofNat_toNat]
        refine ⟨c.toNat % 128 + u * 128, ?_, ?_, ?_, ?_, fun _ => by omega, e6⟩
        · rw [e1, hp, Nat.add_mul, Nat.mul_assoc u 128, Nat.add_assoc]
        · rw [hvb, e2]; simp; omega
        · rw [hvb, e3, show k - i = (k - (i + 1)) + 1 by have := vb_pos u; omega, List.take_succ_cons]
        · have := vb_pos u
          simp only [List.length_cons]
          omega
theorem vget_ok {l : List UInt8} {v k : Nat} (h : vget l = .ok v k) : vb v = l.take k ∧ k = (vb v).length ∧ k ≤ l.length ∧ v < 18446744073709551616 := by
  obtain ⟨u, e1, e2, e3, e4, _, e6⟩ := vgo_ok l 0 0 v k (by omega) (by simp) h
  have : v = u := by simpa using e1
  subst this
  exact ⟨by simpa using e3, by simpa using e2, by simpa using e4, e6⟩
/-- No bytes of a number begin another's. -/
theorem vb_prefix {u v : Nat} (hu : u < 18446744073709551616) (hv : v < 18446744073709551616) (h : (vb u).take (min (vb u).length (vb v).length) = (vb v).take (min (vb u).length (vb v).length)) : u = v := by
  rcases Nat.le_total (vb u).length (vb v).length with hl | hl
  · rw [Nat.min_eq_left hl, List.take_length] at h
    have h1 := vget_vb u hu ((vb v).drop (vb u).length)
    have h2 := vget_vb v hv []
    have e := List.take_append_drop (vb u).length (vb v)
    rw [← h] at e
    rw [e] at h1
    rw [List.append_nil, h1] at h2
    injection h2
  · rw [Nat.min_eq_right hl, List.take_length] at h
    have h1 := vget_vb v hv ((vb u).drop (vb v).length)
    have h2 := vget_vb u hu []
    have e := List.take_append_drop (vb v).length (vb u)
    rw [h] at e
    rw [e] at h1
    rw [List.append_nil, h1] at h2
    injection h2 with h2
    exact h2.symm

/-- A numeral is read as the number that it spells. -/
theorem parse_dec (u : Nat) : ∀ (r : List UInt8), u < 18446744073709551616 → parseUint10 0 (decDigits u ++ r) = parseUint10 u r := by
  induction u using Nat.strongRecOn with
  | _ u ih =>
    intro r hu
    by_cases h : u < 10
    · rw [decDigits, dif_pos h]
      simp only [List.cons_append, List.nil_append, parseUint10, ofNat_toNat (show 48 + u < 256 by omega)]
      rw [if_pos (by omega), if_neg (by omega), if_neg (by omega)]
      congr 1
      omega
    · rw [decDigits, dif_neg h, List.append_assoc, ih (u / 10) (by omega) _ (by omega)]
      simp only [List.cons_append, List.nil_append, parseUint10, ofNat_toNat (show 48 + u % 10 < 256 by omega)]
      rw [if_pos (by omega), if_neg (by omega), if_neg (by omega)]
      congr 1
      omega
theorem dec_head (u : Nat) : ∃ c r, decDigits u = c :: r ∧ 48 ≤ c.toNat ∧ c.toNat ≤ 57 := by
  induction u using Nat.strongRecOn with
  | _ u ih =>
    by_cases h : u < 10
    · refine ⟨_, [], by rw [decDigits, dif_pos h], ?_⟩
      rw [ofNat_toNat (by omega)]
      omega
    · obtain ⟨c, r, e, h1⟩ := ih (u / 10) (by omega)
      refine ⟨c, r ++ [UInt8.ofNat (48 + u % 10)], ?_, h1⟩
      rw [decDigits, dif_neg h, e]
      rfl
theorem mag_dec (u : Nat) (h : u < 18446744073709551616) : parseMag (decDigits u) = .ok u := by
  obtain ⟨c, r, e, _⟩ := dec_head u
  have h1 := parse_dec u [] h
  rw [List.append_nil] at h1
  unfold parseMag
  rw [if_neg (by rw [e]; simp), h1]
  rfl
theorem atoi_itoa (n : Int) (h0 : -9223372036854775808 ≤ n) (h1 : n ≤ 9223372036854775807) : atoiAll (itoa n) = .ok n := by
  unfold itoa
  by_cases h : n < 0
  · rw [if_pos h]
    unfold atoiAll
    simp only [show (45 : UInt8).toNat = 45 from rfl, or_true, if_true, mag_dec n.natAbs (by omega), not_true, false_and, if_false, true_and]
    rw [if_neg (by omega)]
    congr 1
    omega
  · rw [if_neg h]
    obtain ⟨c, r, e, hc1, hc2⟩ := dec_head n.toNat
    have hm := mag_dec n.toNat (by omega)
    rw [e] at hm ⊢
    unfold atoiAll
    have h43 : ¬ c.toNat = 43 := by omega
    have h45 : ¬ c.toNat = 45 := by omega
    simp only [h43, h45, or_self, if_false, hm, not_false_eq_true, true_and, false_and]
    rw [if_neg (by omega)]
    congr 1
    omega
theorem itoa_inj {n m : Int} (hn : -9223372036854775808 ≤ n ∧ n ≤ 9223372036854775807) (hm : -9223372036854775808 ≤ m ∧ m ≤ 9223372036854775807) (h : itoa n = itoa m) : n = m := by
  have h1 := atoi_itoa n hn.1 hn.2
  rw [h, atoi_itoa m hm.1 hm.2] at h1
  injection h1 with h1
  exact h1.symm

/-- The number whose Print a text is. -/
def number (l : List UInt8) : Option Int :=
  match atoiAll l with
  | .ok v => if -1000000000 ≤ v ∧ v ≤ 1000000000 ∧ itoa v = l then some v else none
  | _ => none
theorem number_print {l : List UInt8} {v : Int} (h : number l = some v) : itoa v = l ∧ -1000000000 ≤ v ∧ v ≤ 1000000000 := by
  unfold number at h
  split at h
  · split at h
    · rename_i h1
      injection h with h
      subst h
      exact ⟨h1.2.2, h1.1, h1.2.1⟩
    · cases h
  · cases h
theorem number_itoa (n : Int) (h0 : -9223372036854775808 ≤ n) (h1 : n ≤ 9223372036854775807) : number (itoa n) = if -1000000000 ≤ n ∧ n ≤ 1000000000 then some n else none := by
  unfold number
  rw [atoi_itoa n h0 h1]
  simp
end Go.Proofs.YtgfmlaflochffaaGreatDoor.W

namespace Go.Proofs.YtgfmlaflochffaaGreatDoor.W
open Go

theorem pow_eq (k : Nat) : (128 : Nat) ^ k = 2 ^ (7 * k) := by rw [Nat.pow_mul]
theorem get_lt {a x k : Nat} (ha : a < 128 ^ k) (hk : k ≤ 9) (h9 : k = 9 → x ≤ 1) : a + x % 128 * 128 ^ k < 18446744073709551616 := by
  by_cases h : k = 9
  · subst h
    have := h9 rfl
    have e : (128 : Nat) ^ 9 = 9223372036854775808 := by decide
    rw [e] at ha ⊢
    have : x % 128 * 9223372036854775808 ≤ 1 * 9223372036854775808 := Nat.mul_le_mul_right _ (by omega)
    omega
  · have hp : (128 : Nat) ^ (k + 1) ≤ 128 ^ 9 := Nat.pow_le_pow_right (by omega) (by omega)
    have e : (128 : Nat) ^ 9 = 9223372036854775808 := by decide
    rw [e, Nat.pow_succ] at hp
    have h2 : x % 128 * 128 ^ k ≤ 127 * 128 ^ k := Nat.mul_le_mul_right _ (by omega)
    omega
theorem get_or {a x k : Nat} (ha : a < 128 ^ k) (hx : x < 256) (hk : k ≤ 9) (h9 : k = 9 → x ≤ 1) :
    bits .or .u64 (a : Int) (IntKind.u64.wrap (IntKind.u64.wrap (bits .and .u8 (x : Int) 127) * 2 ^ (7 * k))) = ((a + x % 128 * 128 ^ k : Nat) : Int) := by
  have hlt := get_lt ha hk h9
  have h1 : bits .and .u8 (x : Int) 127 = ((x % 128 : Nat) : Int) := by
    have := u8_and_nat x 127 hx (by decide)
    rw [show ((127 : Nat) : Int) = 127 from rfl] at this
    rw [this]
    congr 1
    exact Nat.and_two_pow_sub_one_eq_mod x 7
  have h2 : IntKind.u64.wrap ((x % 128 : Nat) : Int) = ((x % 128 : Nat) : Int) := by rw [IntKind.wrap_u64]; omega
  have h3 : ((x % 128 : Nat) : Int) * 2 ^ (7 * k) = ((x % 128 * 128 ^ k : Nat) : Int) := by
    rw [pow_eq, Int.natCast_mul, Int.natCast_pow]
    rfl
  have h4 : IntKind.u64.wrap ((x % 128 * 128 ^ k : Nat) : Int) = ((x % 128 * 128 ^ k : Nat) : Int) := by rw [IntKind.wrap_u64]; omega
  rw [h1, h2, h3, h4, u64_or_nat _ _ (by omega) (by omega)]
  congr 1
  rw [pow_eq] at ha ⊢
  have h5 := Nat.two_pow_add_eq_or_of_lt ha (x % 128)
  rw [Nat.mul_comm (x % 128), Nat.or_comm, ← h5, Nat.add_comm]
theorem and_one {U : Nat} (h : U < 18446744073709551616) : bits .and .u64 (U : Int) 1 = ((U % 2 : Nat) : Int) := by
  have := u64_and_nat U 1 h (by decide)
  rw [show ((1 : Nat) : Int) = 1 from rfl] at this
  rw [this, Nat.and_one_is_mod]
theorem xor_ones (b : Nat) (h : b < 2 ^ 64) : (2 ^ 64 - 1) ^^^ b = 2 ^ 64 - (b + 1) := by
  apply Nat.eq_of_testBit_eq
  intro i
  rw [Nat.testBit_xor, Nat.testBit_two_pow_sub_one, Nat.testBit_two_pow_sub_succ h]
  by_cases hi : i < 64
  · simp [hi]
  · have hb : b.testBit i = false := Nat.testBit_lt_two_pow (Nat.lt_of_lt_of_le h (Nat.pow_le_pow_right (by omega) (by omega)))
    simp [hi, hb]
theorem not_shl {n : Int} (h0 : -9223372036854775808 ≤ n) (h1 : n < 0) : bits .xor .u64 IntKind.u64.max (IntKind.u64.wrap (IntKind.u64.wrap n * 2)) = (zig n : Int) := by
  have e1 : IntKind.u64.wrap (IntKind.u64.wrap n * 2) = ((18446744073709551616 - (-n).toNat * 2 : Nat) : Int) := by
    rw [IntKind.wrap_u64, IntKind.wrap_u64]
    omega
  have e2 : IntKind.u64.max = ((2 ^ 64 - 1 : Nat) : Int) := by decide
  rw [e1, e2, bits_xor_u64_nat _ _ (by decide) (by omega), xor_ones _ (by omega)]
  unfold zig
  rw [if_pos h1]
  omega
theorem and_127 {k : Nat} (h : k < 18446744073709551616) : bits .and .u64 (k : Int) 127 = ((k % 128 : Nat) : Int) := by
  have := u64_and_nat k 127 h (by decide)
  rw [show ((127 : Nat) : Int) = 127 from rfl] at this
  rw [this]
  congr 1
  exact Nat.and_two_pow_sub_one_eq_mod k 7
end Go.Proofs.YtgfmlaflochffaaGreatDoor.W

namespace Go.Proofs.YtgfmlaflochffaaGreatDoor.W

inductive Fld where
  | T | H | O | P | K | V | R
structure Ev where
  kind : Int
  tx : Int
  thr : Int
  obj : Int
  op : Int
  key : Int
  val : Int
  ret : Int
def Ev.zero : Ev := ⟨0, 0, 0, 0, 0, 0, 0, 0⟩
def Ev.get (e : Ev) : Fld → Int
  | .T => e.tx
  | .H => e.thr
  | .O => e.obj
  | .P => e.op
  | .K => e.key
  | .V => e.val
  | .R => e.ret
def Ev.put (e : Ev) : Fld → Int → Ev
  | .T, n => { e with tx := n }
  | .H, n => { e with thr := n }
  | .O, n => { e with obj := n }
  | .P, n => { e with op := n }
  | .K, n => { e with key := n }
  | .V, n => { e with val := n }
  | .R, n => { e with ret := n }
def Fld.off : Fld → Nat
  | .T => 1
  | .H => 2
  | .O => 3
  | .P => 4
  | .K => 5
  | .V => 6
  | .R => 7
def Fld.tab : Fld → Nat
  | .P => 3
  | .R => 4
  | _ => 0
def Fld.lo : Fld → Int
  | .T => 1
  | .P => 1
  | .R => 1
  | .V => -1000000000
  | _ => 0
def Fld.hi : Fld → Int
  | .T => 1000
  | .H => 7
  | .O => 7
  | .P => 9
  | .K => 1000
  | .V => 1000000000
  | .R => 3
def keyed (op : Int) : Bool := op == 7 || op == 8 || op == 9
def valued (op : Int) : Bool := op == 2 || op == 3 || op == 5 || op == 7
/-- The fields of a call: of its operation. -/
def callFl (op : Int) : List Fld := [.T, .O, .P] ++ (if keyed op then [.K] else []) ++ (if valued op then [.V] else [])
def retFl (ret : Int) : List Fld := [.T, .R] ++ (if ret = 3 then [.V] else [])
/-- The fields that an event uses, by its kind. -/
def flds (kind op ret : Int) : List Fld :=
  if kind = 1 then [.T, .H] else if kind = 2 then callFl op else if kind = 3 then retFl ret else [.T]
def Ev.fl (e : Ev) : List Fld := flds e.kind e.op e.ret
/-- The event without the fields that it uses. -/
def Ev.strip (e : Ev) (k : Nat) : Ev := (e.fl.take k).foldl (fun r f => r.put f 0) { e with kind := 0 }
def Ev.Coded (e : Ev) : Prop := 1 ≤ e.kind ∧ e.kind ≤ 7 ∧ (e.kind = 2 → 1 ≤ e.op ∧ e.op ≤ 9) ∧ (e.kind = 3 → 1 ≤ e.ret ∧ e.ret ≤ 3)
def Ev.In (e : Ev) (f : Fld) : Prop := f.lo ≤ e.get f ∧ e.get f ≤ f.hi
def Ev.Ok (e : Ev) : Prop := e.Coded ∧ (∀ f ∈ e.fl, e.In f) ∧ e.strip e.fl.length = .zero
def Ev.bytes (e : Ev) : List UInt8 := vb (zig e.kind) ++ e.fl.flatMap fun f => vb (zig (e.get f))

/-- A reader has read the kind and i fields; it stands at place 'at'. -/
structure FromAt (b : List UInt8) (e : Ev) (i pos : Nat) : Prop where
  le : i ≤ e.fl.length
  ple : pos ≤ b.length
  one : 1 ≤ pos
  text : b.take pos = vb (zig e.kind) ++ (e.fl.take i).flatMap fun f => vb (zig (e.get f))
  lo : 1 ≤ e.kind
  hi : e.kind ≤ 7
  op0 : e.kind = 2 → i ≤ 2 → e.op = 0
  ret0 : e.kind = 3 → i ≤ 1 → e.ret = 0

theorem Ev.put_get (e : Ev) (f : Fld) (n : Int) : (e.put f n).get f = n := by cases f <;> rfl
theorem Ev.put_other (e : Ev) (f g : Fld) (n : Int) (h : g ≠ f) : (e.put f n).get g = e.get g := by
  cases f <;> cases g <;> first | rfl | exact absurd rfl h
theorem Ev.put_kind (e : Ev) (f : Fld) (n : Int) : (e.put f n).kind = e.kind := by cases f <;> rfl
theorem fl_nodup (k op ret : Int) : (flds k op ret).Nodup := by
  unfold flds callFl retFl
  split
  · simp
  · split
    · cases keyed op <;> cases valued op <;> simp
    · split
      · split <;> simp
      · simp
theorem fl_len (k op ret : Int) : 1 ≤ (flds k op ret).length ∧ (flds k op ret).length ≤ 5 := by
  unfold flds callFl retFl
  split
  · simp
  · split
    · cases keyed op <;> cases valued op <;> simp
    · split
      · split <;> simp
      · simp

/-- What is put into the next field turns none of the fields that were read. -/
theorem fl_put (e : Ev) (i : Nat) (f : Fld) (n : Int) (h1 : 1 ≤ e.kind) (h7 : e.kind ≤ 7) (h2 : e.kind = 2 → i ≤ 2 → e.op = 0) (h3 : e.kind = 3 → i ≤ 1 → e.ret = 0) (hf : e.fl[i]? = some f) :
    (e.put f n).fl.take (i + 1) = e.fl.take i ++ [f] ∧ ((e.kind = 2 → i + 1 ≤ 2 → (e.put f n).op = 0) ∧ (e.kind = 3 → i + 1 ≤ 1 → (e.put f n).ret = 0)) ∧ i + 1 ≤ (e.put f n).fl.length := by
  have hi : i < e.fl.length := (List.getElem?_eq_some_iff.1 hf).1
  have hi5 : i < 5 := Nat.lt_of_lt_of_le hi (fl_len _ _ _).2
  obtain ⟨k, tx, thr, obj, op, key, val, ret⟩ := e
  unfold Ev.fl at *
  simp only at *
  have hk : k = 1 ∨ k = 2 ∨ k = 3 ∨ (k ≠ 1 ∧ k ≠ 2 ∧ k ≠ 3) := by omega
  have hi' : i = 0 ∨ i = 1 ∨ i = 2 ∨ i = 3 ∨ i = 4 := by omega
  rcases hk with rfl | rfl | rfl | ⟨k1, k2, k3⟩
  · rcases hi' with rfl | rfl | rfl | rfl | rfl <;> simp [flds] at hf <;> subst hf <;> simp [flds, Ev.put]
  · rcases hi' with rfl | rfl | rfl | rfl | rfl
    · simp [flds, callFl] at hf; subst hf; simp [flds, callFl, Ev.put]; exact h2 rfl (by omega)
    · simp [flds, callFl] at hf; subst hf; simp [flds, callFl, Ev.put]; exact h2 rfl (by omega)
    · simp [flds, callFl] at hf; subst hf; simp [flds, callFl, Ev.put]
    · have := h2
      cases hk : keyed op <;> cases hv : valued op <;> simp [flds, callFl, hk, hv] at hf <;> subst hf <;> simp [flds, callFl, Ev.put, hk, hv]
    · cases hk : keyed op <;> cases hv : valued op <;> simp [flds, callFl, hk, hv] at hf <;> subst hf <;> simp [flds, callFl, Ev.put, hk, hv]
  · rcases hi' with rfl | rfl | rfl | rfl | rfl
    · simp [flds, retFl] at hf; subst hf; simp [flds, retFl, Ev.put]; exact h3 rfl (by omega)
    · simp [flds, retFl] at hf; subst hf; simp [flds, retFl, Ev.put]
    · by_cases hr : ret = 3 <;> simp [flds, retFl, hr] at hf <;> subst hf <;> simp [flds, retFl, Ev.put, hr]
    · by_cases hr : ret = 3 <;> simp [flds, retFl, hr] at hf
    · by_cases hr : ret = 3 <;> simp [flds, retFl, hr] at hf
  · rcases hi' with rfl | rfl | rfl | rfl | rfl <;> simp [flds, k1, k2, k3] at hf <;> subst hf <;> simp [flds, Ev.put, k1, k2, k3]

theorem from_start {b : List UInt8} {u k : Nat} (h : vget b = .ok u k) (h1 : 1 ≤ zag u) (h7 : zag u ≤ 7) : FromAt b { Ev.zero with kind := zag u } 0 k := by
  obtain ⟨e1, e2, e3, _⟩ := vget_ok h
  have hp : 1 ≤ k := by rw [e2]; exact vb_pos u
  exact ⟨by simp, e3, hp, by simp [zig_zag, e1], h1, h7, fun _ _ => rfl, fun _ _ => rfl⟩
theorem from_step {b : List UInt8} {e : Ev} {i pos u k : Nat} {f : Fld} (h : FromAt b e i pos) (hf : e.fl[i]? = some f) (hg : vget (b.drop pos) = .ok u k) : FromAt b (e.put f (zag u)) (i + 1) (pos + k) := by
  obtain ⟨e1, e2, e3, _⟩ := vget_ok hg
  obtain ⟨p1, ⟨p2, p3⟩, p4⟩ := fl_put e i f (zag u) h.lo h.hi h.op0 h.ret0 hf
  rw [List.length_drop] at e3
  have hp := h.ple
  have hi : i < e.fl.length := (List.getElem?_eq_some_iff.1 hf).1
  have hnd : e.fl.Nodup := fl_nodup _ _ _
  have hne : ∀ g ∈ e.fl.take i, g ≠ f := by
    intro g hg e
    subst e
    obtain ⟨j, hj, hj2⟩ := List.getElem_of_mem hg
    rw [List.length_take] at hj
    rw [List.getElem_take] at hj2
    rw [List.getElem?_eq_getElem hi] at hf
    injection hf with hf
    have := (List.getElem_inj hnd).1 (hj2.trans hf.symm)
    omega
  have hm : (e.fl.take i).flatMap (fun g => vb (zig ((e.put f (zag u)).get g))) = (e.fl.take i).flatMap (fun g => vb (zig (e.get g))) := by
    rw [List.flatMap_def, List.flatMap_def]
    congr 1
    exact List.map_congr_left fun g hg => by rw [Ev.put_other _ _ _ _ (hne g hg)]
  refine ⟨p4, by omega, by have := h.one; omega, ?_, by rw [Ev.put_kind]; exact h.lo, by rw [Ev.put_kind]; exact h.hi, by rw [Ev.put_kind]; exact p2, by rw [Ev.put_kind]; exact p3⟩
  rw [p1, List.flatMap_append, hm, Ev.put_kind, ← List.append_assoc, ← h.text, List.flatMap_cons, List.flatMap_nil, List.append_nil, Ev.put_get, zig_zag, e1, List.take_add]
theorem from_end {b : List UInt8} {e : Ev} {i pos : Nat} (h : FromAt b e i pos) (hf : e.fl[i]? = none) : b.take pos = e.bytes ∧ pos ≤ b.length ∧ 1 ≤ pos := by
  have hi := List.getElem?_eq_none_iff.1 hf
  refine ⟨?_, h.ple, h.one⟩
  rw [h.text, List.take_of_length_le hi]
  rfl
end Go.Proofs.YtgfmlaflochffaaGreatDoor.W

namespace Go.Proofs.YtgfmlaflochffaaGreatDoor
open Go.RowKit W

def evArr (e : Ev) : Array Value := #[.int .i64 e.kind, .int .i64 e.tx, .int .i64 e.thr, .int .i64 e.obj, .int .i64 e.op, .int .i64 e.key, .int .i64 e.val, .int .i64 e.ret]
end Go.Proofs.YtgfmlaflochffaaGreatDoor
