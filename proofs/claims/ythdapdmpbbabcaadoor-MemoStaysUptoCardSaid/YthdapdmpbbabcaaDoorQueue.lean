/-
  What the queue's calls do: Put, Take, Len of memo.Queue at int. A queue is told by the list of what is still in it. No condition but a bound on its length.
-/
import Derived.Test.YthdapdmpbbabcaaDoorMem
import Derived.Test.YthdapdmpbbabcaaDoorProg
import Derived.Deep.QuietTactic
import Derived.BigQuiet
import Derived.WalkSpells
import Derived.WalkLawsBesides
namespace Go.Proofs.YthdapdmpbbabcaaDoor
open Go.RowKit Go.Maps

theorem infoInt : (Tryd.prog.info? 3).map (fun i => (i.zero, i.size, i.bytes)) = some (some (.int .i64 0), 1, 8) := by kernel_rfl

/-- Block b is a queue that holds l; S: the blocks that it lies in; its row has at most N numbers. -/
def QueueAt (w : World) (b : Nat) (S : List Nat) (N : Nat) (l : List Int) : Prop :=
  ∃ (sv : Value) (at_ n : Nat) (xs : List Int), Blk w b 26 #[sv, .int .i64 (at_ : Int)] ∧ w.ownsRow 0 3 1 sv n (xs.map (Value.int .i64)) ∧ n ≤ N ∧
    l = xs.drop at_ ∧ (at_ < n ∨ (sv = .slice none 0 0 ∧ n = 0 ∧ at_ = 0)) ∧ S = b :: sv.ownBlock.toList

theorem QueueAt.only {w w' : World} {b : Nat} {S T : List Nat} {N : Nat} {l : List Int} (h : QueueAt w b S N l) (hb : Only T w w') (hd : ∀ k ∈ S, k ∉ T) : QueueAt w' b S N l := by
  obtain ⟨sv, at_, n, xs, hB, ho, hn, hl, hc, rfl⟩ := h
  exact ⟨sv, at_, n, xs, hB.only hb (hd b (by simp)), row_only ho hb (fun g hg => hd g (by simp [hg])), hn, hl, hc, rfl⟩
theorem QueueAt.lt {w : World} {b : Nat} {S : List Nat} {N : Nat} {l : List Int} (h : QueueAt w b S N l) : ∀ k ∈ S, k < w.heap.size := by
  obtain ⟨sv, at_, n, xs, hB, ho, hn, hl, hc, rfl⟩ := h
  intro k hk
  rcases List.mem_cons.1 hk with rfl | hk
  · exact hB.lt
  · exact (row_own ho (by simpa using hk)).2

set_option maxHeartbeats 400000 in
theorem qput (b N : Nat) (x : Int) (l : List Int) (S : List Nat) (w : World) (h : QueueAt w b S N l) (hN : N ≤ 1000000) :
    Calls Tryd.prog 9 #[.pointer (some ⟨b, 0, none⟩), .int .i64 x] w fun e w' => e = .returned (.tuple #[]) ∧ ∃ S', QueueAt w' b S' (N + 1) (l ++ [x]) ∧ Only S w w' ∧ ∀ k ∈ S', k ∈ S ∨ w.heap.size ≤ k := by
  obtain ⟨sv, at_, n, xs, hB, ho, hn, rfl, hc, rfl⟩ := h
  obtain ⟨i0, hi, hz0, hz1, hz2⟩ := info_parts infoInt
  have c0 : w.cell? ⟨b, 0, none⟩ = some sv := by rw [hB.cell]; rfl
  have hap : some b ≠ sv.ownBlock := fun e => hB.apartRow ho (by decide) e.symm
  have hbs := hB.lt
  have hat : at_ ≤ n := by rcases hc with h | ⟨_, h1, h2⟩ <;> omega
  have hlen : Hid (xs.length = n) := hid (by have := ho.1; simpa using this)
  go_enter Tryd.func9, Tryd.ntmps9
  go_wp2_with (at_builtin; refine wpList_append_own_at _ rfl _ _ 24 rfl 0 3 i0 (.int .i64 0) 1 8 Tryd.underlying24 hi hz0 hz1 hz2 rfl (by decide) _ _ _ rfl (ho.alloc _) ⟨w.heap.size, 0, none⟩ 1 1 [.int .i64 x] rfl rfl (cell_one_new _ _ _) (by simp [Value.oneCell']) (by unfold maxLen; omega) (by omega) (by omega) ?_)
  intro v' w1 hown' hgrow _ hloc
  have hbig : Only (b :: sv.ownBlock.toList) w w1 := (Only.refl _ w).alloc _ |>.grown hgrow (fun k hk => .inl (by simp [hk]))
  have hB1 : Blk w1 b 26 #[sv, .int .i64 (at_ : Int)] := (hB.alloc _).grown hgrow hap
  obtain ⟨g, cap, rfl⟩ : ∃ g cap, v' = .slice (some ⟨g, 0, none⟩) (n + 1) cap := by
    rcases row_cases hown' with ⟨_, h0, _⟩ | ⟨g, cap, h, _⟩
    · omega
    · exact ⟨g, cap, h⟩
  have c1 : w1.cell? ⟨b, 0, none⟩ = some sv := by rw [hB1.cell]; rfl
  have f1 := hB1.frozen 0
  have hgb := hB1.apartRow hown' (by decide)
  clear hgrow hc c0 hap ho hi hz0 hz1 hz2
  have HLoc := hid hloc
  clear hloc
  go_wp2
  go_end0
  refine ⟨rfl, b :: [g], ⟨.slice (some ⟨g, 0, none⟩) (n + 1) cap, at_, n + 1, xs ++ [x], ?_, ?_, by omega, ?_, ?_, rfl⟩, hbig.setCell (.inl (by simp)) _, ?_⟩
  · simpa using hB1.put 0 (.slice (some ⟨g, 0, none⟩) (n + 1) cap)
  · simpa using row_far hown' (p := ⟨b, 0, none⟩) hgb _
  · rw [List.drop_append_of_le_length (by rw [hlen.out]; exact hat)]
  · exact .inl (by omega)
  · intro k hk
    simp only [List.mem_cons, List.not_mem_nil, or_false] at hk
    rcases hk with rfl | rfl
    · exact .inl (by simp)
    · rcases HLoc.out with h | h
      · exact .inl (by rw [← h]; simp [Value.ownBlock])
      · simp [Value.ownBlock] at h
        exact .inr (by omega)

/-- The queue's length. -/
theorem qlen (b N : Nat) (l : List Int) (S : List Nat) (w : World) (h : QueueAt w b S N l) (hN : N ≤ 1000000) :
    Calls Tryd.prog 12 #[.pointer (some ⟨b, 0, none⟩)] w fun e w' => e = .returned (.int .i64 (l.length : Int)) ∧ ∃ k, w' = w.drewN k := by
  obtain ⟨sv, at_, n, xs, hB, ho, hn, rfl, hc, rfl⟩ := h
  have c0 : w.cell? ⟨b, 0, none⟩ = some sv := by rw [hB.cell]; rfl
  have c1 : w.cell? ⟨b, 1, none⟩ = some (.int .i64 (at_ : Int)) := by rw [hB.cell]; rfl
  have hat : at_ ≤ n := by rcases hc with h | ⟨_, h1, h2⟩ <;> omega
  have hlen : Hid (xs.length = n) := hid (by have := ho.1; simpa using this)
  obtain ⟨A, cap, rfl⟩ : ∃ A cap, sv = .slice A n cap := by
    rcases row_cases ho with ⟨h, h0, _⟩ | ⟨g, cap, h, _⟩
    · exact ⟨none, 0, by rw [h, h0]⟩
    · exact ⟨_, _, h⟩
  clear hc ho hB
  go_enter Tryd.func12, Tryd.ntmps12
  go_wp2
  go_quiet (fail)
  go_wp2
  go_ret
  refine ⟨?_, _, rfl⟩
  have e : ((xs.drop at_).length : Int) = (n : Int) - (at_ : Int) := by rw [List.length_drop, hlen.out]; omega
  rw [e]
  rfl

set_option maxHeartbeats 400000 in
/-- Take, where something is in it. -/
theorem qtake (b N : Nat) (x : Int) (l : List Int) (S : List Nat) (w : World) (h : QueueAt w b S N (x :: l)) (hN : N ≤ 1000000) :
    Calls Tryd.prog 10 #[.pointer (some ⟨b, 0, none⟩)] w fun e w' => e = .returned (.tuple #[.int .i64 x, .bool true]) ∧ ∃ S', QueueAt w' b S' N l ∧ Only S w w' ∧ ∀ k ∈ S', k ∈ S := by
  obtain ⟨sv, at_, n, xs, hB, ho, hn, hl, hc, rfl⟩ := h
  have hlen : xs.length = n := by have := ho.1; simpa using this
  have hat : at_ < n := by
    rcases hc with h | ⟨_, h1, h2⟩
    · exact h
    · have : xs = [] := List.eq_nil_of_length_eq_zero (by omega)
      simp [this] at hl
  clear hc
  obtain ⟨g, cap, rfl, hcap, hcm, _, hgl, hcell, hfr⟩ : ∃ g cap, sv = .slice (some ⟨g, 0, none⟩) n cap ∧ n ≤ cap ∧ cap ≤ maxLen ∧ True ∧ g < w.heap.size ∧ (∀ j, j < n → w.cell? ⟨g, j, none⟩ = (xs.map (Value.int .i64))[j]?) ∧ (∀ j, w.frozen? ⟨g, j, none⟩ = false) := by
    rcases row_cases ho with ⟨h, h0, _⟩ | ⟨g, cap, h, h1, h2, _, h3, h4, h5⟩
    · omega
    · exact ⟨g, cap, h, h1, h2, trivial, h3, h4, h5⟩
  have c0 : w.cell? ⟨b, 0, none⟩ = some (.slice (some ⟨g, 0, none⟩) n cap) := by rw [hB.cell]; rfl
  have c1 : w.cell? ⟨b, 1, none⟩ = some (.int .i64 (at_ : Int)) := by rw [hB.cell]; rfl
  have f0 := hB.frozen 0
  have f1 := hB.frozen 1
  have hx : w.cell? ⟨g, at_, none⟩ = some (.int .i64 x) := by
    rw [hcell at_ hat, List.getElem?_map]
    have : xs[at_]? = some x := by
      have h0 : (xs.drop at_)[0]? = some x := by rw [← hl]; rfl
      simpa using h0
    rw [this]; rfl
  have fx := hfr at_
  have hne : b ≠ g := fun e => hB.apartRow ho (by decide) (by simp [Value.ownBlock, e])
  have hatN : (at_ : Int) < 1000000 := by omega
  have hnN : (n : Int) ≤ 1000000 := by omega
  have hatI : (at_ : Int) < (n : Int) := by omega
  have heq : ((at_ : Int) == (n : Int)) = false := by rw [beq_eq_false_iff_ne]; omega
  have HO := hid ho
  have HB := hid hB
  have HL := hid hl
  have HLen := hid hlen
  clear ho hB hl hlen hcell hfr hcm
  have hne' : g ≠ b := fun e => hne e.symm
  by_cases hlast : at_ + 1 = n
  · have heq2 : ((at_ : Int) + 1 == (n : Int)) = true := by rw [beq_iff_eq]; omega
    have HLast := hid hlast
    clear hlast
    go_enter Tryd.func10, Tryd.ntmps10
    go_wp2
    go_quiet (fail)
    go_wp2
    go_quiet (fail)
    go_wp2
    go_region
    go_wp2
    go_quiet (fail)
    go_wp2
    go_ret2
    refine ⟨rfl, [b], ⟨.slice none 0 0, 0, 0, [], ?_, World.ownsRow_nil _ _ _ _, Nat.zero_le _, ?_, .inr ⟨rfl, rfl, rfl⟩, rfl⟩, ?_, by simp⟩
    · exact (((((HB.out.drewN _).far (p := ⟨g, at_, none⟩) hne (.int .i64 0)).put 1 (.int .i64 ((at_ : Int) + 1))).drewN _).put 0 (.slice none 0 0)).put 1 (.int .i64 0)
    · have h1 := HL.out
      have h2 := HLen.out
      have h3 := HLast.out
      have h4 : (x :: l).length = 1 := by rw [h1, List.length_drop]; omega
      have h5 : l = [] := by simpa using h4
      rw [h5]; rfl
    · exact (((((((Only.refl _ w).drewN _).setCell (.inl (by simp [Value.ownBlock])) _).setCell (.inl (by simp)) _).drewN _).setCell (.inl (by simp)) _).setCell (.inl (by simp)) _)
  · have heq2 : ((at_ : Int) + 1 == (n : Int)) = false := by rw [beq_eq_false_iff_ne]; omega
    have HLast := hid hlast
    clear hlast
    go_enter Tryd.func10, Tryd.ntmps10
    go_wp2
    go_quiet (fail)
    go_wp2
    go_quiet (fail)
    go_wp2
    go_region
    go_wp2
    go_quiet (fail)
    go_wp2
    go_ret2
    refine ⟨rfl, [b, g], ⟨.slice (some ⟨g, 0, none⟩) n cap, at_ + 1, n, xs.set at_ 0, ?_, ?_, hn, ?_, .inl ?_, rfl⟩, ?_, by simp [Value.ownBlock]⟩
    · exact (((HB.out.drewN _).far (p := ⟨g, at_, none⟩) hne (.int .i64 0)).put 1 (.int .i64 ((at_ : Int) + 1))).drewN _
    · rw [List.map_set]
      exact row_drewN (row_far (World.ownsRow.stored (row_drewN HO.out _) at_ (.int .i64 0)).1 (p := ⟨b, 1, none⟩) (by simpa [Value.ownBlock] using hne') (.int .i64 ((at_ : Int) + 1))) _
    · have h1 := HL.out
      have h2 := HLen.out
      have h3 : xs.drop (at_ + 1) = l := by
        have := congrArg List.tail h1
        simpa using this.symm
      rw [List.drop_set_of_lt (by omega), h3]
    · have h3 := HLast.out
      omega
    · exact ((((Only.refl _ w).drewN _).setCell (.inl (by simp [Value.ownBlock])) _).setCell (.inl (by simp)) _).drewN _

/-- Take, where nothing is in it. -/
theorem qtake_none (b N : Nat) (S : List Nat) (w : World) (h : QueueAt w b S N []) :
    Calls Tryd.prog 10 #[.pointer (some ⟨b, 0, none⟩)] w fun e w' => e = .returned (.tuple #[.int .i64 0, .bool false]) ∧ ∃ k, w' = w.drewN k := by
  obtain ⟨sv, at_, n, xs, hB, ho, hn, hl, hc, rfl⟩ := h
  have hlen : xs.length = n := by have := ho.1; simpa using this
  have h0 : sv = .slice none 0 0 ∧ n = 0 ∧ at_ = 0 := by
    rcases hc with h | h
    · have := congrArg List.length hl
      rw [List.length_drop] at this
      simp at this
      omega
    · exact h
  obtain ⟨rfl, rfl, rfl⟩ := h0
  have c0 : w.cell? ⟨b, 0, none⟩ = some (.slice none 0 0) := by rw [hB.cell]; rfl
  have c1 : w.cell? ⟨b, 1, none⟩ = some (.int .i64 0) := by rw [hB.cell]; rfl
  clear hB ho hl hc hlen
  go_enter Tryd.func10, Tryd.ntmps10
  go_wp2
  go_quiet (fail)
  go_wp2
  go_ret2
  exact ⟨rfl, _, rfl⟩
end Go.Proofs.YthdapdmpbbabcaaDoor
