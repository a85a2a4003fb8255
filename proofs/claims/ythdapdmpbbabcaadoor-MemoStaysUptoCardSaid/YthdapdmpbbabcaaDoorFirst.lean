/-
  The chapter's examples (first of the law's own text): true, wherever package api's ErrBudget holds a pointer. Nothing that was there has turned.
-/
import Derived.Test.YthdapdmpbbabcaaDoorQueue
import Derived.Test.YthdapdmpbbabcaaDoorSetS
import Derived.Test.YthdapdmpbbabcaaDoorLogS
import Derived.LaidEql
namespace Go.Proofs.YthdapdmpbbabcaaDoor
open Go.RowKit Go.Maps

/-- The sentinel's variable holds a pointer. -/
def Sent (w : World) : Prop := ∃ a, w.cell? ⟨0, 0, none⟩ = some (.iface 77 (.pointer (some a)))
theorem Sent.only {w w' : World} {S : List Nat} (h : Sent w) (hb : Only S w w') (hS : ∀ k ∈ S, w.heap.size ≤ k) : Sent w' := by
  obtain ⟨a, h⟩ := h
  refine ⟨a, hb.cell h (fun hm => ?_)⟩
  have h1 := hS _ hm
  have h2 := World.block_lt_of_cell? w _ h
  simp only at h1 h2
  omega
theorem Sent.below {w w' : World} (h : Sent w) (hb : Below w.heap.size w w') : Sent w' := by
  obtain ⟨a, h⟩ := h
  exact ⟨a, (hb.cell (p := ⟨0, 0, none⟩) (World.block_lt_of_cell? w _ h)).trans h⟩
theorem only_of_drew {w w' : World} (h : ∃ n, w' = w.drewN n) : Only [] w w' := by
  obtain ⟨n, rfl⟩ := h
  exact (Only.refl _ _).drewN _
theorem queue_new (w : World) : QueueAt (w.alloc (.cells #[.slice none 0 0, .int .i64 0] 26)) w.heap.size [w.heap.size] 0 [] :=
  ⟨.slice none 0 0, 0, 0, [], Blk.new _ _ _, World.ownsRow_nil _ _ _ _, Nat.le_refl _, rfl, .inr ⟨rfl, rfl, rfl⟩, rfl⟩
theorem logs_new (w : World) : LogS.LogAt (w.alloc (.cells #[.map none] 67)) w.heap.size [w.heap.size] 0 (fun _ => none) :=
  .inl ⟨Blk.new _ _ _, rfl, fun _ => rfl, rfl⟩

theorem comp77 : (Tryd.prog.info? 77).map (·.comparable) = some true := by kernel_rfl
theorem info94 : (Tryd.prog.info? 94).map (·.size) = some 1 := by kernel_rfl
theorem eql_sent (a : Addr) (w : World) : (binOp .eql 46 (.iface 77 (.pointer (some a))) (.iface 77 (.pointer (some a)))).run Tryd.prog w = .ok (.bool true) w := by
  obtain ⟨i, hi, hc⟩ := Option.map_eq_some_iff.1 comp77
  obtain ⟨j, hj, _⟩ := Option.map_eq_some_iff.1 info94
  exact run_eql_iface_ptr_same w a Tryd.underlying46 Tryd.underlying77 hi hc hj

def bs (b : UInt8) : ByteArray := ⟨#[b]⟩
theorem bs_ok (b : UInt8) : SetS.KeyOk (bs b) := by show (1 : Nat) ≤ maxLen; unfold maxLen; omega

theorem first1 (w : World) : Calls Tryd.prog 35 #[] w fun e w' => e = .returned (.int .i64 7) ∧ w = w' := by
  go_enter Tryd.func35, Tryd.ntmps35
  go_wp2
  go_ret
  exact ⟨rfl, rfl⟩

def A2 : List ByteArray := [bs 97, bs 98]
theorem ca : decide (bs 97 ∈ A2) = true := by decide
theorem cc : ¬ bs 99 ∈ A2 := by decide
theorem cb : decide (bs 98 ∈ A2) = true := by decide
theorem pb : (SetS.plc A2 (bs 98)).getD 0 = 1 := by decide

set_option maxHeartbeats 2000000 in
theorem first (w : World) (hs : Sent w) : Calls Tryd.prog 8 #[] w fun e w' => e = .returned (.bool true) ∧ Only [] w w' := by
  obtain ⟨ea, hea⟩ := hs
  have h0 : 0 < w.heap.size := World.block_lt_of_cell? w _ hea
  have hes := eql_sent ea
  have HEA := hid hea
  clear hea
  go_enter Tryd.func8, Tryd.ntmps8
  go_wp2_with fail
  refine (SetS.new 2 w).mono ?_
  rintro e w1 ⟨rfl, hS1, hO1⟩
  have b1 : Below w.heap.size w w1 := hO1.below_of (Nat.le_refl _) (by simp)
  have g1 : ∀ x ∈ [w.heap.size + 1, w.heap.size], w.heap.size ≤ x := by intro x hx; simp at hx; omega
  have hc1 := hid (SetS.add_new _ 2 _ [] (bs 97) w1 hS1 (bs_ok _) (by simp) (by decide) (by decide))
  have B1 := hid b1
  have G1 := hid g1
  clear hS1 hO1 b1 g1
  go_wp2_with fail
  refine hc1.out.mono ?_
  rintro e w2 ⟨rfl, S2, hS2, hO2, hN2⟩
  have b2 : Below w.heap.size w w2 := below_only B1.out hO2 B1.out.size G1.out
  have g2 : ∀ x ∈ S2, w.heap.size ≤ x := fun x hx => by rcases hN2 x hx with h | h; exact G1.out x h; have := B1.out.size; omega
  have hc2 := hid (SetS.add_new _ 2 _ [bs 97] (bs 98) w2 hS2 (bs_ok _) (by decide) (by decide) (by decide))
  have B2 := hid b2
  have G2 := hid g2
  clear hS2 hO2 b2 g2 hN2 hc1 B1 G1
  go_wp2_with fail
  refine hc2.out.mono ?_
  rintro e w3 ⟨rfl, S3, hS3, hO3, hN3⟩
  have b3 : Below w.heap.size w w3 := below_only B2.out hO3 B2.out.size G2.out
  have g3 : ∀ x ∈ S3, w.heap.size ≤ x := fun x hx => by rcases hN3 x hx with h | h; exact G2.out x h; have := B2.out.size; omega
  have B3 := hid b3
  have G3 := hid g3
  have hc3 := hid (SetS.add_old _ 2 _ A2 (bs 97) w3 hS3 (bs_ok _) (by decide))
  have HEA3 := hid ((b3.cell (p := ⟨0, 0, none⟩) h0).trans HEA.out)
  have hc4 := hid (SetS.add_full _ 2 _ A2 (bs 99) _ w3 hS3 (bs_ok _) cc rfl HEA3.out)
  have HS3 := hid hS3
  clear hS3 hO3 b3 g3 hN3 hc2 B2 G2
  go_wp2_with fail
  refine hc3.out.mono ?_
  rintro e w3' ⟨rfl, rfl⟩
  go_wp2_with fail
  refine hc4.out.mono ?_
  rintro e w4 ⟨rfl, hd4⟩
  have hO4 := only_of_drew hd4
  have hS4 := HS3.out.only hO4 (by simp)
  have b4 : Below w.heap.size w w4 := below_only B3.out hO4 B3.out.size (by simp)
  have hc5 := hid (SetS.place _ 2 _ A2 (bs 98) w4 hS4 (bs_ok _))
  have HS4 := hid hS4
  have B4 := hid b4
  have L4 := hid hS4.lt
  have HEA4 := hid ((b4.cell (p := ⟨0, 0, none⟩) h0).trans HEA.out)
  clear hd4 hO4 hS4 b4 hc3 hc4 HS3 HEA3 B3
  go_wp2_with fail
  refine hc5.out.mono ?_
  rw [pb, cb]
  rintro e w4' ⟨rfl, rfl⟩
  clear hc5
  -- the queue
  have hq0 := queue_new w4
  have hc6 := hid (qput _ 0 1 [] _ _ hq0 (by decide))
  have B4a := hid (B4.out.alloc B4.out.size (.cells #[.slice none 0 0, .int .i64 0] 26))
  have S4a := hid (World.size_alloc w4 (.cells #[.slice none 0 0, .int .i64 0] 26))
  have O4 := hid ((Only.refl [] w4).alloc (.cells #[.slice none 0 0, .int .i64 0] 26))
  clear hq0
  go_wp2_with fail
  refine hc6.out.mono ?_
  rintro e w5 ⟨rfl, T5, hq5, hO5, hN5⟩
  have t5 : ∀ x ∈ T5, w4.heap.size ≤ x := fun x hx => by
    rcases hN5 x hx with h | h
    · simp at h; omega
    · rw [S4a.out] at h; omega
  have o5 : Only [] w4 w5 := O4.out.trans hO5 (fun x hx => .inr (by simp at hx; omega))
  have hc7 := hid (qput _ 1 2 [1] _ w5 hq5 (by decide))
  have T5h := hid t5
  have O5 := hid o5
  clear hc6 B4a S4a O4 hq5 hO5 hN5 t5 o5
  go_wp2_with fail
  refine hc7.out.mono ?_
  rintro e w6 ⟨rfl, T6, hq6, hO6, hN6⟩
  have t6 : ∀ x ∈ T6, w4.heap.size ≤ x := fun x hx => by
    rcases hN6 x hx with h | h
    · exact T5h.out x h
    · have := O5.out.size; omega
  have o6 : Only [] w4 w6 := O5.out.trans hO6 (fun x hx => .inr (T5h.out x hx))
  have hc8 := hid (qtake _ 2 1 [2] _ w6 hq6 (by decide))
  have T6h := hid t6
  have O6 := hid o6
  clear hc7 T5h O5 hq6 hO6 hN6 t6 o6
  go_wp2_with fail
  refine hc8.out.mono ?_
  rintro e w7 ⟨rfl, T7, hq7, hO7, hN7⟩
  have t7 : ∀ x ∈ T7, w4.heap.size ≤ x := fun x hx => T6h.out x (hN7 x hx)
  have o7 : Only [] w4 w7 := O6.out.trans hO7 (fun x hx => .inr (T6h.out x hx))
  have T7h := hid t7
  have L7 := hid hq7.lt
  have O7 := hid o7
  have HQ7 := hid hq7
  clear hc8 T6h O6 hq7 hO7 hN7 t7 o7
  -- the log
  have hl0 := logs_new w7
  have hc9 := hid (LogS.note_new _ 0 _ _ (bs 97) 1 _ hl0 (bs_ok _) rfl (by decide) (by decide))
  have S7a := hid (World.size_alloc w7 (.cells #[.map none] 67))
  have O7a := hid ((Only.refl [] w7).alloc (.cells #[.map none] 67))
  clear hl0
  go_wp2_with fail
  refine hc9.out.mono ?_
  rintro e w8 ⟨rfl, U8, hl8, hO8, hN8⟩
  have u8 : ∀ x ∈ U8, w7.heap.size ≤ x := fun x hx => by
    rcases hN8 x hx with h | h
    · simp at h; omega
    · rw [S7a.out] at h; omega
  have o8 : Only [] w7 w8 := O7a.out.trans hO8 (fun x hx => .inr (by simp at hx; omega))
  have hc10 := hid (LogS.once_new35 _ 1 _ _ (bs 98) w8 hl8 (bs_ok _) (by decide) (fun y S1 n1 f1 w1 => y = 7 ∧ S1 = U8 ∧ n1 = 1 ∧ f1 = upd (fun _ => none) (bs 97) 1 ∧ w1 = w8)
    ((first1 w8).mono (fun e w1 ⟨he, hw⟩ => ⟨7, U8, 1, _, he, hw ▸ hl8, by decide, by decide, rfl, rfl, rfl, rfl, hw.symm⟩)))
  have U8h := hid u8
  have O8 := hid o8
  clear hc9 S7a O7a hl8 hO8 hN8 u8 o8
  go_wp2_with fail
  refine hc10.out.mono ?_
  rintro e w9 ⟨y, S1, n1, f1, w1', ⟨rfl, rfl, rfl, rfl, rfl⟩, h9⟩
  have hno : upd (fun _ => (none : Option Int)) (bs 97) 1 (bs 98) = none := by decide
  rcases h9 with ⟨v, hv, _⟩ | ⟨_, rfl, U9, hl9, hO9, hN9⟩
  · rw [hno] at hv
    cases hv
  have u9 : ∀ x ∈ U9, w7.heap.size ≤ x := fun x hx => by
    rcases hN9 x hx with h | h
    · exact U8h.out x h
    · have := O8.out.size; omega
  have o9 : Only [] w7 w9 := O8.out.trans hO9 (fun x hx => .inr (U8h.out x hx))
  have hc11 := hid (LogS.once_old _ 2 _ _ (bs 98) 7 (.func (.func 36) #[] #[]) w9 hl9 (bs_ok _) (by decide))
  have HL9 := hid hl9
  have O9 := hid o9
  clear hc10 U8h O8 hl9 hO9 hN9 u9 o9 hno
  go_wp2_with fail
  refine hc11.out.mono ?_
  rintro e w9' ⟨rfl, rfl⟩
  clear hc11
  -- the answers
  have o49 := O7.out.trans O9.out (by simp)
  have hS9 := HS4.out.only o49 (by simp)
  have hQ9 := HQ7.out.only O9.out (by simp)
  have b9 : Below w.heap.size w w9 := below_only B4.out o49 B4.out.size (by simp)
  have hc12 := hid (SetS.room _ 2 _ A2 w9 hS9 (by decide))
  have HQ9 := hid hQ9
  have HL9' := HL9
  have B9 := hid b9
  have HEA9 := (b9.cell (p := ⟨0, 0, none⟩) h0).trans HEA.out
  clear o49 hS9 hQ9 b9 HS4 B4 L4 HEA4 T7h L7 O7 HQ7 O9 HL9
  go_wp2_with fail
  refine hc12.out.mono ?_
  rintro e w10 ⟨rfl, hd10⟩
  have o10 := only_of_drew hd10
  have hc13 := hid (qlen _ 2 [2] _ w10 (HQ9.out.only o10 (by simp)) (by decide))
  have HL10 := hid (HL9'.out.only o10 (by simp))
  have B10 := hid (below_only B9.out o10 B9.out.size (by simp))
  clear hd10 o10 hc12 HQ9 HL9' B9 HEA9
  go_wp2_with fail
  refine hc13.out.mono ?_
  rintro e w11 ⟨rfl, hd11⟩
  have o11 := only_of_drew hd11
  have hc14 := hid (LogS.len _ 2 _ _ w11 (HL10.out.only o11 (by simp)))
  have B11 := hid (below_only B10.out o11 B10.out.size (by simp))
  clear hd11 o11 hc13 HL10 B10
  go_wp2_with fail
  refine hc14.out.mono ?_
  rintro e w12 ⟨rfl, rfl⟩
  go_wp2
  go_ret
  exact ⟨rfl, Only.of_below B11.out (Nat.le_refl _)⟩
end Go.Proofs.YthdapdmpbbabcaaDoor
