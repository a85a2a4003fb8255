/-
  What the set's calls do: New, Add, Has, Place, Len, Room of memo.Set at string. A set is told by the list of its elements in the order in which they came. No condition but bounds on lengths.
-/
import Derived.Test.YthdapdmpbbabcaaDoorMap
import Derived.Test.YthdapdmpbbabcaaDoorQueue
import Derived.Deep.QuietTactic
import Derived.BigQuiet
import Derived.StillTailTactics
import Derived.WalkSpells
import Derived.WalkLawsBesides
namespace Go.Proofs.YthdapdmpbbabcaaDoor.SetS
open Go.RowKit Go.Maps

theorem law : Keyed Tryd.prog 9 := string_keyed Tryd.underlying9
theorem zeroE (w : World) : (zeroValue 3).run Tryd.prog w = .ok (.int .i64 0) w := by kernel_rfl
theorem infoK : (Tryd.prog.info? 9).map (fun i => (i.zero, i.size, i.bytes)) = some (some (.string .empty), 1, 16) := by kernel_rfl

/-- What is asked of a key. -/
def KeyOk (k : ByteArray) : Prop := k.size ≤ maxLen
theorem good_key {k : ByteArray} (h : KeyOk k) : keyOf Tryd.prog 9 (Value.string k) = some (strKey k) := Go.WideMaps.keyOf_string_mk Tryd.underlying9 h

/-- As which one an element came. -/
def plc (m : List ByteArray) (k : ByteArray) : Option Int := if k ∈ m then some (m.idxOf k : Int) else none
theorem plc_snoc {m : List ByteArray} {k : ByteArray} (h : k ∉ m) : upd (plc m) k (m.length : Int) = plc (m ++ [k]) := by
  funext y
  unfold upd plc
  by_cases hy : y = k
  · subst hy
    simp [List.idxOf_append, h]
  · by_cases hm : y ∈ m
    · simp [hy, hm, List.idxOf_append]
    · simp [hy, hm]
theorem plc_nil : plc [] = fun _ => none := by funext y; simp [plc]
theorem plc_some (m : List ByteArray) (k : ByteArray) : (plc m k).isSome = decide (k ∈ m) := by unfold plc; by_cases h : k ∈ m <;> simp [h]
theorem plc_val (m : List ByteArray) (k : ByteArray) : (plc m k).getD 0 = if k ∈ m then (m.idxOf k : Int) else 0 := by unfold plc; by_cases h : k ∈ m <;> simp [h]

/-- Block b is a set that takes M elements and has those of m; S: the blocks that it lies in. -/
def SetAt (w : World) (b : Nat) (S : List Nat) (M : Nat) (m : List ByteArray) : Prop :=
  ∃ (bm : Nat) (sv : Value), Blk w b 75 #[.int .i64 (M : Int), .map (some bm), sv] ∧ MapAt Tryd.prog 9 3 strKey w bm m.length (plc m) ∧ w.ownsRow 0 9 1 sv m.length (m.map (Value.string)) ∧
    m.length ≤ M ∧ S = b :: bm :: sv.ownBlock.toList

theorem SetAt.only {w w' : World} {b : Nat} {S T : List Nat} {M : Nat} {m : List ByteArray} (h : SetAt w b S M m) (hb : Only T w w') (hd : ∀ k ∈ S, k ∉ T) : SetAt w' b S M m := by
  obtain ⟨bm, sv, hB, hM, ho, hl, rfl⟩ := h
  exact ⟨bm, sv, hB.only hb (hd b (by simp)), hM.only hb (hd bm (by simp)), row_only ho hb (fun g hg => hd g (by simp [hg])), hl, rfl⟩
theorem SetAt.lt {w : World} {b : Nat} {S : List Nat} {M : Nat} {m : List ByteArray} (h : SetAt w b S M m) : ∀ k ∈ S, k < w.heap.size := by
  obtain ⟨bm, sv, hB, hM, ho, hl, rfl⟩ := h
  intro k hk
  rcases List.mem_cons.1 hk with rfl | hk
  · exact hB.lt
  · rcases List.mem_cons.1 hk with rfl | hk
    · exact hM.lt
    · exact (row_own ho (by simpa using hk)).2

set_option maxHeartbeats 400000 in
theorem new (most : Int) (w : World) :
    Calls Tryd.prog 26 #[.int .i64 most] w fun e w' => e = .returned (.pointer (some ⟨w.heap.size + 1, 0, none⟩)) ∧ SetAt w' (w.heap.size + 1) [w.heap.size + 1, w.heap.size] most.toNat [] ∧ Only [] w w' := by
  have hmm := @run_makeMap Tryd.prog
  have fin : ∀ v : Int, v = (most.toNat : Int) → SetAt ((w.alloc (.map #[] 0)).alloc (.cells #[.int .i64 v, .map (some w.heap.size), .slice none 0 0] 75)) (w.heap.size + 1) [w.heap.size + 1, w.heap.size] most.toNat [] := by
    intro v hv
    have hB := Blk.new (w.alloc (.map #[] 0)) 75 #[.int .i64 v, .map (some w.heap.size), .slice none 0 0]
    rw [World.size_alloc, hv] at hB
    have hM := (MapAt.made Tryd.prog 9 3 strKey w).alloc (.cells #[.int .i64 v, .map (some w.heap.size), .slice none 0 0] 75)
    rw [hv] at hM
    rw [hv]
    exact ⟨w.heap.size, .slice none 0 0, hB, by rw [plc_nil]; exact hM, World.ownsRow_nil _ _ _ _, Nat.zero_le _, rfl⟩
  have Fin := hid fin
  clear fin
  go_enter Tryd.func26, Tryd.ntmps26
  go_wp2
  · go_ret
    exact ⟨rfl, Fin.out _ (by omega), ((Only.refl _ _).alloc _).alloc _⟩
  · go_ret
    exact ⟨rfl, Fin.out _ (by omega), ((Only.refl _ _).alloc _).alloc _⟩

set_option maxHeartbeats 400000 in
theorem has (b M : Nat) (S : List Nat) (m : List ByteArray) (k : ByteArray) (w : World) (h : SetAt w b S M m) (hk : KeyOk k) :
    Calls Tryd.prog 32 #[.pointer (some ⟨b, 0, none⟩), Value.string k] w fun e w' => e = .returned (.bool (decide (k ∈ m))) ∧ w = w' := by
  obtain ⟨bm, sv, hB, hM, ho, hl, rfl⟩ := h
  have c1 : w.cell? ⟨b, 1, none⟩ = some (.map (some bm)) := by rw [hB.cell]; rfl
  clear hB ho hl
  go_enter Tryd.func32, Tryd.ntmps32
  go_wp2_with (at_lookup; refine wpList_look _ rfl _ _ 65 rfl 9 3 strKey law Tryd.underlying65 Tryd.underlying3 (zeroE _) bm m.length (plc m) rfl hM _ k rfl (good_key hk) ?_)
  go_ret
  exact ⟨by rw [← plc_some]; rfl, rfl⟩

set_option maxHeartbeats 400000 in
theorem place (b M : Nat) (S : List Nat) (m : List ByteArray) (k : ByteArray) (w : World) (h : SetAt w b S M m) (hk : KeyOk k) :
    Calls Tryd.prog 28 #[.pointer (some ⟨b, 0, none⟩), Value.string k] w fun e w' => e = .returned (.tuple #[.int .i64 ((plc m k).getD 0), .bool (decide (k ∈ m))]) ∧ w = w' := by
  obtain ⟨bm, sv, hB, hM, ho, hl, rfl⟩ := h
  have c1 : w.cell? ⟨b, 1, none⟩ = some (.map (some bm)) := by rw [hB.cell]; rfl
  clear hB ho hl
  go_enter Tryd.func28, Tryd.ntmps28
  go_wp2_with (at_lookup; refine wpList_look _ rfl _ _ 65 rfl 9 3 strKey law Tryd.underlying65 Tryd.underlying3 (zeroE _) bm m.length (plc m) rfl hM _ k rfl (good_key hk) ?_)
  go_ret2
  exact ⟨by rw [← plc_some]; rfl, rfl⟩

set_option maxHeartbeats 400000 in
theorem len (b M : Nat) (S : List Nat) (m : List ByteArray) (w : World) (h : SetAt w b S M m) :
    Calls Tryd.prog 27 #[.pointer (some ⟨b, 0, none⟩)] w fun e w' => e = .returned (.int .i64 (m.length : Int)) ∧ w = w' := by
  obtain ⟨bm, sv, hB, hM, ho, hl, rfl⟩ := h
  have c2 : w.cell? ⟨b, 2, none⟩ = some sv := by rw [hB.cell]; rfl
  obtain ⟨A, cap, rfl⟩ : ∃ A cap, sv = .slice A m.length cap := by
    rcases row_cases ho with ⟨h, h0, _⟩ | ⟨g, cap, h, _⟩
    · exact ⟨none, 0, by rw [h, h0]⟩
    · exact ⟨_, _, h⟩
  clear hB hM ho hl
  go_enter Tryd.func27, Tryd.ntmps27
  go_wp2
  go_ret
  exact ⟨rfl, rfl⟩

set_option maxHeartbeats 400000 in
theorem room (b M : Nat) (S : List Nat) (m : List ByteArray) (w : World) (h : SetAt w b S M m) (hM9 : (M : Int) ≤ 9223372036854775807) :
    Calls Tryd.prog 30 #[.pointer (some ⟨b, 0, none⟩)] w fun e w' => e = .returned (.int .i64 ((M : Int) - (m.length : Int))) ∧ ∃ n, w' = w.drewN n := by
  obtain ⟨bm, sv, hB, hM, ho, hl, rfl⟩ := h
  have c0 : w.cell? ⟨b, 0, none⟩ = some (.int .i64 (M : Int)) := by rw [hB.cell]; rfl
  have c2 : w.cell? ⟨b, 2, none⟩ = some sv := by rw [hB.cell]; rfl
  obtain ⟨A, cap, rfl⟩ : ∃ A cap, sv = .slice A m.length cap := by
    rcases row_cases ho with ⟨h, h0, _⟩ | ⟨g, cap, h, _⟩
    · exact ⟨none, 0, by rw [h, h0]⟩
    · exact ⟨_, _, h⟩
  have hl' : (m.length : Int) ≤ (M : Int) := by omega
  clear hB hM ho
  go_enter Tryd.func30, Tryd.ntmps30
  go_wp2
  go_quiet (fail)
  go_wp2
  go_ret
  exact ⟨rfl, _, rfl⟩

set_option maxHeartbeats 400000 in
theorem add_old (b M : Nat) (S : List Nat) (m : List ByteArray) (k : ByteArray) (w : World) (h : SetAt w b S M m) (hk : KeyOk k) (hm : k ∈ m) :
    Calls Tryd.prog 29 #[.pointer (some ⟨b, 0, none⟩), Value.string k] w fun e w' => e = .returned (.tuple #[.bool false, .nilIface]) ∧ w = w' := by
  have hd : decide (k ∈ m) = true := by simpa using hm
  have hc := hid (fun W (hW : SetAt W b S M m) => has b M S m k W hW hk)
  clear hm
  go_enter Tryd.func29, Tryd.ntmps29
  go_wp2_with (go_at_call 32; refine (hc.out _ h).mono ?_; rw [hd]; rintro e w' ⟨rfl, rfl⟩)
  go_ret2
  exact ⟨rfl, rfl⟩

set_option maxHeartbeats 400000 in
theorem add_full (b M : Nat) (S : List Nat) (m : List ByteArray) (k : ByteArray) (ev : Value) (w : World) (h : SetAt w b S M m) (hk : KeyOk k) (hm : k ∉ m) (hf : m.length = M) (hg : w.cell? ⟨0, 0, none⟩ = some ev) :
    Calls Tryd.prog 29 #[.pointer (some ⟨b, 0, none⟩), Value.string k] w fun e w' => e = .returned (.tuple #[.bool false, ev]) ∧ ∃ n, w' = w.drewN n := by
  have hd : decide (k ∈ m) = false := by simpa using hm
  have hc := hid (has b M S m k w h hk)
  obtain ⟨bm, sv, hB, hM, ho, hl, rfl⟩ := h
  have c0 : w.cell? ⟨b, 0, none⟩ = some (.int .i64 (M : Int)) := by rw [hB.cell]; rfl
  have c2 : w.cell? ⟨b, 2, none⟩ = some sv := by rw [hB.cell]; rfl
  obtain ⟨A, cap, rfl⟩ : ∃ A cap, sv = .slice A m.length cap := by
    rcases row_cases ho with ⟨h, h0, _⟩ | ⟨g, cap, h, _⟩
    · exact ⟨none, 0, by rw [h, h0]⟩
    · exact ⟨_, _, h⟩
  have he : ((m.length : Int) == (M : Int)) = true := by rw [beq_iff_eq]; omega
  clear hB hM ho hm hf
  go_enter Tryd.func29, Tryd.ntmps29
  go_wp2_with (go_at_call 32; refine hc.out.mono ?_; rw [hd]; rintro e w' ⟨rfl, rfl⟩)
  go_quiet (fail)
  go_wp2
  go_quiet (fail)
  go_wp2
  go_ret2
  exact ⟨rfl, _, World.drewN_drewN _ _ _⟩

set_option maxHeartbeats 400000 in
theorem add_new (b M : Nat) (S : List Nat) (m : List ByteArray) (k : ByteArray) (w : World) (h : SetAt w b S M m) (hk : KeyOk k) (hm : k ∉ m) (hf : m.length < M) (hlen : m.length ≤ 1000000) :
    Calls Tryd.prog 29 #[.pointer (some ⟨b, 0, none⟩), Value.string k] w fun e w' => e = .returned (.tuple #[.bool true, .nilIface]) ∧ ∃ S', SetAt w' b S' M (m ++ [k]) ∧ Only S w w' ∧ ∀ x ∈ S', x ∈ S ∨ w.heap.size ≤ x := by
  have hd : decide (k ∈ m) = false := by simpa using hm
  have hc := hid (has b M S m k w h hk)
  obtain ⟨bm, sv, hB, hM, ho, hl, rfl⟩ := h
  have c0 : w.cell? ⟨b, 0, none⟩ = some (.int .i64 (M : Int)) := by rw [hB.cell]; rfl
  have c1 : w.cell? ⟨b, 1, none⟩ = some (.map (some bm)) := by rw [hB.cell]; rfl
  have c2 : w.cell? ⟨b, 2, none⟩ = some sv := by rw [hB.cell]; rfl
  have he : ((m.length : Int) == (M : Int)) = false := by rw [beq_eq_false_iff_ne]; omega
  obtain ⟨A, cap, hsv⟩ : ∃ A cap, sv = .slice A m.length cap := by
    rcases row_cases ho with ⟨h, h0, _⟩ | ⟨g, cap, h, _⟩
    · exact ⟨none, 0, by rw [h, h0]⟩
    · exact ⟨_, _, h⟩
  subst hsv
  have Hm := hid hm
  have hlt : m.length + 1 ≤ M := hf
  clear hm hf
  go_enter Tryd.func29, Tryd.ntmps29
  go_wp2_with (go_at_call 32; refine hc.out.mono ?_; rw [hd]; rintro e w' ⟨rfl, rfl⟩)
  go_quiet (fail)
  rename_i nq
  go_wp2
  obtain ⟨w1, hrun, hM1, hg1⟩ := MapAt.update (w := w.drewN (nq + 1)) (t := 65) hM strKey_inj strKey_is law Tryd.underlying65 Tryd.underlying3 (by unfold maxLen; omega) (good_key hk) (v := (m.length : Int)) (by exact WalkArith.wf_i64 (by omega)) (by unfold plc; rw [if_neg Hm.out])
  have hbm : b ≠ bm := hM.apart hB
  have hrm := hM.apartRow ho
  have hB1 : Blk w1 b 75 #[.int .i64 (M : Int), .map (some bm), .slice A m.length cap] := (hB.drewN _).grown hg1 (by simpa using hbm)
  have ho1 : w1.ownsRow 0 9 1 (.slice A m.length cap) m.length (m.map (Value.string)) := (row_drewN ho _).kept hg1 (.inr hrm)
  have hO1 : Only (b :: bm :: (Value.slice A m.length cap).ownBlock.toList) w w1 := ((Only.refl _ w).drewN _).grown hg1 (fun x hx => .inl (by simp at hx; simp [hx]))
  have c2' : w1.cell? ⟨b, 2, none⟩ = some (.slice A m.length cap) := by rw [hB1.cell]; rfl
  have hap : some b ≠ (Value.slice A m.length cap).ownBlock := fun e => hB1.apartRow ho1 (by decide) e.symm
  have hsz : w.heap.size ≤ w1.heap.size := hO1.size
  obtain ⟨i0, hi, hz0, hz1, hz2⟩ := info_parts infoK
  clear hB ho hM
  go_region
  clear hrun hg1 c0 c1 c2 he hc
  go_wp2_with (at_builtin; refine wpList_append_own_at _ rfl _ _ 55 rfl 0 9 i0 (.string .empty) 1 16 Tryd.underlying55 hi hz0 hz1 hz2 rfl (by decide) _ _ _ rfl (ho1.alloc _) ⟨w1.heap.size, 0, none⟩ 1 1 [Value.string k] rfl rfl (cell_one_new _ _ _) (by simp [Value.oneCell']) (by unfold maxLen; omega) (by omega) (by omega) ?_)
  intro v' w2 hown' hgrow _ hloc
  have hbig : Only (b :: bm :: (Value.slice A m.length cap).ownBlock.toList) w w2 := (hO1.alloc _).grown hgrow (fun x hx => .inl (by simp [hx]))
  have hB2 : Blk w2 b 75 #[.int .i64 (M : Int), .map (some bm), .slice A m.length cap] := (hB1.alloc _).grown hgrow hap
  have hM2 : MapAt Tryd.prog 9 3 strKey w2 bm (m.length + 1) (upd (plc m) k (m.length : Int)) := (hM1.alloc _).grown hgrow (fun e => hrm e.symm)
  obtain ⟨g, cap', rfl⟩ : ∃ g cap', v' = .slice (some ⟨g, 0, none⟩) (m.length + 1) cap' := by
    rcases row_cases hown' with ⟨_, h0, _⟩ | ⟨g, cap, h, _⟩
    · omega
    · exact ⟨g, cap, h⟩
  have c2'' : w2.cell? ⟨b, 2, none⟩ = some (.slice A m.length cap) := by rw [hB2.cell]; rfl
  have f2'' := hB2.frozen 2
  have hgb := hB2.apartRow hown' (by decide)
  have HLoc := hid hloc
  have HSz := hid hsz
  clear hgrow hi hz0 hz1 hz2 hloc hB1 ho1 hO1 c2' hap hM1 hsz
  go_wp2
  go_ret2
  refine ⟨rfl, b :: bm :: [g], ⟨bm, .slice (some ⟨g, 0, none⟩) (m.length + 1) cap', ?_, ?_, ?_, ?_, ?_⟩, hbig.setCell (.inl (by simp)) _, ?_⟩
  · exact hB2.put 2 (.slice (some ⟨g, 0, none⟩) (m.length + 1) cap')
  · rw [plc_snoc Hm.out] at hM2
    rw [List.length_append]
    exact hM2.setCell (a := ⟨b, 2, none⟩) (fun e => hbm e.symm) _
  · have h := row_far hown' (p := ⟨b, 2, none⟩) hgb (.slice (some ⟨g, 0, none⟩) (m.length + 1) cap')
    rw [List.length_append, List.map_append]
    exact h
  · rw [List.length_append]
    simp only [List.length_cons, List.length_nil]
    omega
  · simp [Value.ownBlock]
  · intro x hx
    simp only [List.mem_cons, List.not_mem_nil, or_false] at hx
    rcases hx with rfl | rfl | rfl
    · exact .inl (by simp)
    · exact .inl (by simp)
    · rcases HLoc.out with h | h
      · exact .inl (by rw [← h]; simp [Value.ownBlock])
      · simp [Value.ownBlock] at h
        have := HSz.out
        exact .inr (by omega)
end Go.Proofs.YthdapdmpbbabcaaDoor.SetS
