/-
  Add at a new element: what it keeps of the old row.
-/
import Derived.Test.YthdapdmpbbabcaaDoorSetI
import Derived.Test.YthdapdmpbbabcaaDoorKeep
namespace Go.Proofs.YthdapdmpbbabcaaDoor.SetI
open Go.RowKit Go.Maps

set_option maxHeartbeats 400000 in
theorem add_keep (b M : Nat) (S : List Nat) (m : List Int) (k : Int) (w : World) (h : SetAt w b S M m) (hk : KeyOk k) (hm : k ∉ m) (hf : m.length < M) (hlen : m.length ≤ 1000000) :
    Calls Tryd.prog 20 #[.pointer (some ⟨b, 0, none⟩), Value.int IntKind.i64 k] w fun e w' => e = .returned (.tuple #[.bool true, .nilIface]) ∧ ∃ S', SetAt w' b S' M (m ++ [k]) ∧ Only S w w' ∧ (∀ x ∈ S', x ∈ S ∨ w.heap.size ≤ x) ∧ S'.take 2 = S.take 2 ∧ (∀ g j u, g ∉ S.take 2 → j < m.length → w.cell? ⟨g, j, none⟩ = some u → w'.cell? ⟨g, j, none⟩ = some u) := by
  have hd : decide (k ∈ m) = false := by simpa using hm
  have hc := hid (has b M S m k w h hk)
  obtain ⟨bm, sv, hB, hM, ho, hl, rfl⟩ := h
  have c0 : w.cell? ⟨b, 0, none⟩ = some (.int .i64 (M : Int)) := by rw [hB.cell]; rfl
  have c1 : w.cell? ⟨b, 1, none⟩ = some (.map (some bm)) := by rw [hB.cell]; rfl
  have c2 : w.cell? ⟨b, 2, none⟩ = some sv := by rw [hB.cell]; rfl
  have he : ((m.length : Int) == (M : Int)) = false := by rw [beq_eq_false_iff_ne]; omega
  obtain ⟨A, cap, hsv⟩ : ∃ A cap, sv = .slice A m.length cap := by
    rcases row_cases ho with ⟨h, h0, _⟩ | ⟨g, cap, h, _⟩
    · exact ⟨none, 0, by rw [h, h0]⟩
    · exact ⟨_, _, h⟩
  subst hsv
  have Hm := hid hm
  have hlt : m.length + 1 ≤ M := hf
  clear hm hf
  go_enter Tryd.func20, Tryd.ntmps20
  go_wp2_with (go_at_call 24; refine hc.out.mono ?_; rw [hd]; rintro e w' ⟨rfl, rfl⟩)
  go_quiet (fail)
  rename_i nq
  go_wp2
  obtain ⟨w1, hrun, hM1, hg1⟩ := MapAt.update (w := w.drewN (nq + 1)) (t := 35) hM intKey_inj intKey_is law Tryd.underlying35 Tryd.underlying3 (by unfold maxLen; omega) (good_key hk) (v := (m.length : Int)) (by exact WalkArith.wf_i64 (by omega)) (by unfold plc; rw [if_neg Hm.out])
  have HK1 := hid (show ∀ g j u, g ≠ bm → w.cell? ⟨g, j, none⟩ = some u → w1.cell? ⟨g, j, none⟩ = some u from fun g j u hne hcu => (World.cell?_of_block (hg1.block g (World.block_lt_of_cell? w ⟨g, j, none⟩ hcu) (by simpa using hne))).trans hcu)
  have hbm : b ≠ bm := hM.apart hB
  have hrm := hM.apartRow ho
  have hB1 : Blk w1 b 73 #[.int .i64 (M : Int), .map (some bm), .slice A m.length cap] := (hB.drewN _).grown hg1 (by simpa using hbm)
  have ho1 : w1.ownsRow 0 3 1 (.slice A m.length cap) m.length (m.map (Value.int IntKind.i64)) := (row_drewN ho _).kept hg1 (.inr hrm)
  have hO1 : Only (b :: bm :: (Value.slice A m.length cap).ownBlock.toList) w w1 := ((Only.refl _ w).drewN _).grown hg1 (fun x hx => .inl (by simp at hx; simp [hx]))
  have c2' : w1.cell? ⟨b, 2, none⟩ = some (.slice A m.length cap) := by rw [hB1.cell]; rfl
  have hap : some b ≠ (Value.slice A m.length cap).ownBlock := fun e => hB1.apartRow ho1 (by decide) e.symm
  have hsz : w.heap.size ≤ w1.heap.size := hO1.size
  obtain ⟨i0, hi, hz0, hz1, hz2⟩ := info_parts infoK
  clear hB ho hM
  go_region
  clear hrun hg1 c0 c1 c2 he hc
  go_wp2_with (at_builtin; refine wpList_append_keep _ rfl _ _ 24 rfl 0 3 i0 (.int .i64 0) 1 8 Tryd.underlying24 hi hz0 hz1 hz2 rfl (by decide) _ _ _ rfl (ho1.alloc _) ⟨w1.heap.size, 0, none⟩ 1 1 [Value.int IntKind.i64 k] rfl rfl (cell_one_new _ _ _) (by simp [Value.oneCell']) (by unfold maxLen; omega) (by omega) (by omega) ?_)
  intro v' w2 hown' hgrow hloc0
  have hloc := hloc0.imp_right And.left
  have hKc : ∀ g j u, g ≠ bm → j < m.length → w.cell? ⟨g, j, none⟩ = some u → w2.cell? ⟨g, j, none⟩ = some u := fun g j u hg hj hcu =>
    kept_of_append (ho1.alloc _) hown' hgrow (hloc0.imp_right And.right) g j u hj ((World.cell?_of_block (Below.heap_alloc w1 _ g (World.block_lt_of_cell? w1 _ (HK1.out g j u hg hcu)))).trans (HK1.out g j u hg hcu))
  have HKc := hid hKc
  clear hKc hloc0 HK1
  have hbig : Only (b :: bm :: (Value.slice A m.length cap).ownBlock.toList) w w2 := (hO1.alloc _).grown hgrow (fun x hx => .inl (by simp [hx]))
  have hB2 : Blk w2 b 73 #[.int .i64 (M : Int), .map (some bm), .slice A m.length cap] := (hB1.alloc _).grown hgrow hap
  have hM2 : MapAt Tryd.prog 3 3 intKey w2 bm (m.length + 1) (upd (plc m) k (m.length : Int)) := (hM1.alloc _).grown hgrow (fun e => hrm e.symm)
  obtain ⟨g, cap', rfl⟩ : ∃ g cap', v' = .slice (some ⟨g, 0, none⟩) (m.length + 1) cap' := by
    rcases row_cases hown' with ⟨_, h0, _⟩ | ⟨g, cap, h, _⟩
    · omega
    · exact ⟨g, cap, h⟩
  have c2'' : w2.cell? ⟨b, 2, none⟩ = some (.slice A m.length cap) := by rw [hB2.cell]; rfl
  have f2'' := hB2.frozen 2
  have hgb := hB2.apartRow hown' (by decide)
  have HLoc := hid hloc
  have HSz := hid hsz
  clear hgrow hi hz0 hz1 hz2 hloc hB1 ho1 hO1 c2' hap hM1 hsz
  go_wp2
  go_ret2
  refine ⟨rfl, b :: bm :: [g], ⟨bm, .slice (some ⟨g, 0, none⟩) (m.length + 1) cap', ?_, ?_, ?_, ?_, ?_⟩, hbig.setCell (.inl (by simp)) _, ?_, rfl, ?_⟩
  · exact hB2.put 2 (.slice (some ⟨g, 0, none⟩) (m.length + 1) cap')
  · rw [plc_snoc Hm.out] at hM2
    rw [List.length_append]
    exact hM2.setCell (a := ⟨b, 2, none⟩) (fun e => hbm e.symm) _
  · have h := row_far hown' (p := ⟨b, 2, none⟩) hgb (.slice (some ⟨g, 0, none⟩) (m.length + 1) cap')
    rw [List.length_append, List.map_append]
    exact h
  · rw [List.length_append]
    simp only [List.length_cons, List.length_nil]
    omega
  · simp [Value.ownBlock]
  · intro x hx
    simp only [List.mem_cons, List.not_mem_nil, or_false] at hx
    rcases hx with rfl | rfl | rfl
    · exact .inl (by simp)
    · exact .inl (by simp)
    · rcases HLoc.out with h | h
      · exact .inl (by rw [← h]; simp [Value.ownBlock])
      · simp [Value.ownBlock] at h
        have := HSz.out
        exact .inr (by omega)
  · intro g2 j u hg2 hj hcu
    have hn : g2 ≠ b ∧ g2 ≠ bm := by simpa using hg2
    exact (World.cell?_of_block (Below.heap_setCell w2 _ _ g2 hn.1)).trans (HKc.out g2 j u hn.2 hj hcu)
end Go.Proofs.YthdapdmpbbabcaaDoor.SetI
