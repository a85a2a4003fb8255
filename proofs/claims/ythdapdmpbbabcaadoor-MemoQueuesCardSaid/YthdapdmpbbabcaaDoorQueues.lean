/-
  MemoQueues: for every slice of calls the law answers true, and nothing that was there has turned.
-/
import Derived.Test.YthdapdmpbbabcaaDoorFirst
import Derived.Test.YthdapdmpbbabcaaDoorPlace
namespace Go.Proofs.YthdapdmpbbabcaaDoor
open Go.RowKit Go.Maps

set_option maxHeartbeats 1000000 in
theorem queues (A : Option Addr) (n c b off : Nat) (K X : Nat → Int) (w : World) (hs : Sent w) (hA : 0 < n → A = some ⟨b, off, none⟩) (hn : n ≤ 9223372036854775807)
    (hc : ∀ j, j < n → w.cell? ⟨b, off + j * 3, none⟩ = some (.int .i64 (K j)) ∧ w.cell? ⟨b, off + j * 3 + 1, none⟩ = some (.int .i64 (X j))) :
    Calls Tryd.prog 3 #[.slice A n c] w fun e w' => e = .returned (.bool true) ∧ Below w.heap.size w w' := by
  have hF := hid (first w hs)
  clear hs
  by_cases hbig : (300 : Int) < (n : Int)
  · go_enter Tryd.func3, Tryd.ntmps3
    go_wp2_with fail
    refine hF.out.mono ?_
    rintro e w1 ⟨rfl, hO⟩
    have hb := hO.below_of (Nat.le_refl _) (by simp)
    clear hF hO
    go_wp2
    go_ret
    exact ⟨rfl, hb⟩
  · have hsm : (n : Int) ≤ 300 := by omega
    go_enter Tryd.func3, Tryd.ntmps3
    go_wp2_with fail
    refine hF.out.mono ?_
    rintro e w1 ⟨rfl, hO⟩
    have hb1 : Below w.heap.size w w1 := hO.below_of (Nat.le_refl _) (by simp)
    have hq := queue_new w1
    have hb2 : Below w.heap.size w (w1.alloc (.cells #[.slice none 0 0, .int .i64 0] 26)) := hb1.alloc hb1.size _
    have hsz := hb1.size
    clear hF hO hbig
    go_wp2_with fail
    go_loopw [5, 6] (fun sv i wr => ∃ (k : Nat) (m : List Int) (S : List Nat) (A2 : Option Addr) (cap2 : Nat), sv = .slice A2 m.length cap2 ∧ k ≤ n ∧ i = .int .i64 k ∧ m.length ≤ k ∧ QueueAt wr w1.heap.size S k m ∧ wr.ownsRow w.heap.size 3 1 sv m.length (m.map (Value.int .i64)) ∧
        (∀ g, sv.ownBlock = some g → g ∉ S) ∧ Below w.heap.size w wr ∧ (∀ x ∈ S, w.heap.size ≤ x)) (fun _ i _ => n - (intOf i).toNat)
    case atStart =>
      exact ⟨0, [], [w1.heap.size], none, 0, rfl, Nat.zero_le _, rfl, Nat.zero_le _, hq, World.ownsRow_nil _ _ _ _, by simp [Value.ownBlock], hb2, by intro x hx; simp at hx; omega⟩
    case round =>
      obtain ⟨k, m, S, A2, cap2, rfl, hk, rfl, hmk, hQ, hown, hdis, hb, hSb⟩ := hrel
      clear hq hb2 hb1
      by_cases hlt : k < n
      · have hA' := hA (by omega)
        subst hA'
        obtain ⟨c1, c2⟩ := hc k hlt
        have hg : b < w.heap.size := World.block_lt_of_cell? w _ c1
        rw [← hb.cell (p := ⟨b, off + k * 3, none⟩) hg] at c1
        rw [← hb.cell (p := ⟨b, off + k * 3 + 1, none⟩) hg] at c2
        clear hc hA
        have hlen : m.length ≤ 300 := by omega
        have HS := hid hSb
        have HD := hid hdis
        clear hSb hdis
        by_cases hkd : K k = 1
        · have hkd' : (K k == 1) = true := by simpa using hkd
          have HK := hid hkd
          clear hkd
          -- Put
          have hput := hid (qput _ k (X k) m S wr hQ (by omega))
          have HQL := hid hQ.lt
          clear hQ
          go_wp2_with fail
          refine hput.out.mono ?_
          rintro e w2 ⟨rfl, S2, hQ2, hO2, hN2⟩
          have hown2 := row_only hown hO2 HD.out
          have hb2 : Below w.heap.size w w2 := below_only hb hO2 hb.size HS.out
          have hd2 : ∀ g, (Value.slice A2 m.length cap2).ownBlock = some g → g ∉ S2 := fun g hg hm => by
            rcases hN2 g hm with h | h
            · exact HD.out g hg h
            · have := (row_own hown hg).2; omega
          have hs2 : ∀ x ∈ S2, w.heap.size ≤ x := fun x hx => by
            rcases hN2 x hx with h | h
            · exact HS.out x h
            · have := hb.size; omega
          have c2' : w2.cell? ⟨b, off + k * 3 + 1, none⟩ = some (.int .i64 (X k)) := by
            rw [hb2.cell (p := ⟨b, off + k * 3 + 1, none⟩) hg, ← hb.cell (p := ⟨b, off + k * 3 + 1, none⟩) hg]; exact c2
          have HD2 := hid hd2
          have HS2 := hid hs2
          have HQ2 := hid hQ2
          have hsz2 := hb2.size
          obtain ⟨i0, hi, hz0, hz1, hz2⟩ := info_parts infoInt
          clear hput HQL hO2 hN2 hown hb c1 c2 hd2 hs2 hQ2 HS HD
          go_wp2_with (at_builtin; refine wpList_append_own_at _ rfl _ _ 24 rfl w.heap.size 3 i0 (.int .i64 0) 1 8 Tryd.underlying24 hi hz0 hz1 hz2 rfl (by decide) _ _ _ rfl (hown2.alloc _) ⟨w2.heap.size, 0, none⟩ 1 1 [.int .i64 (X k)] rfl rfl (cell_one_new _ _ _) (by simp [Value.oneCell']) (by unfold maxLen; omega) (by omega) (by simp; omega) ?_)
          intro v' w3 hown' hgrow _ hloc
          have hb3 : Below w.heap.size w w3 := (hb2.alloc hb2.size _).grown hgrow (by simp; omega) (fun x hx => (row_own hown2 hx).1)
          have hO3 : Only (Value.slice A2 m.length cap2).ownBlock.toList w2 w3 := ((Only.refl _ w2).alloc _).grown hgrow (fun x hx => .inl (by simp [hx]))
          have hQ3 := HQ2.out.only hO3 (fun x hx hm => HD2.out x (by simpa using hm) hx)
          have hd3 : ∀ g, v'.ownBlock = some g → g ∉ S2 := fun g hg' hm => by
            rcases hloc with h | h
            · exact HD2.out g (by rw [← h]; exact hg') hm
            · rw [h] at hg'
              have := HQ2.out.lt g hm
              simp at hg'
              omega
          obtain ⟨g', cap', rfl⟩ : ∃ g' cap', v' = .slice (some ⟨g', 0, none⟩) (m.length + 1) cap' := by
            rcases row_cases hown' with ⟨_, h0, _⟩ | ⟨g, cap, h, _⟩
            · omega
            · exact ⟨g, cap, h⟩
          have hql := hid (qlen _ (k + 1) _ S2 w3 hQ3 (by omega))
          have HQ3 := hid hQ3
          have HD3 := hid hd3
          clear hi hz0 hz1 hz2 hO3 hloc hgrow hown2 hb2 c2' HQ2 HD2 hsz2 hQ3 hd3
          go_wp2_with fail
          refine hql.out.mono ?_
          rw [show ((m ++ [X k]).length : Int) = (m.length : Int) + 1 from by simp]
          rintro e w4 ⟨rfl, hd4⟩
          have hO4 := only_of_drew hd4
          have hb4 : Below w.heap.size w w4 := below_only hb3 hO4 hb3.size (by simp)
          have hown4 := row_only hown' hO4 (by simp)
          have hQ4 := HQ3.out.only hO4 (by simp)
          clear hql hd4 hO4 hb3 hown' HQ3
          go_wp2
          go_roundw
          case rel =>
            refine ⟨k + 1, m ++ [X k], S2, some ⟨g', 0, none⟩, cap', by simp, by omega, by go_num, by simp; omega, hQ4, ?_, HD3.out, hb4, HS2.out⟩
            simpa using hown4
          case measure => simp [intOf]; omega
        · have hkd' : (K k == 1) = false := by simpa using hkd
          have HK := hid hkd
          clear hkd c2
          rcases m with _ | ⟨x, m⟩
          · -- Take, nothing there
            have htk := hid (qtake_none _ k S wr hQ)
            have HQ := hid hQ
            clear hQ
            go_wp2_with fail
            refine htk.out.mono ?_
            rintro e w2 ⟨rfl, hd2⟩
            have hO2 := only_of_drew hd2
            have hb2 : Below w.heap.size w w2 := below_only hb hO2 hb.size (by simp)
            have hown2 := row_only hown hO2 (by simp)
            have hQ2 := HQ.out.only hO2 (by simp)
            have hql := hid (qlen _ k _ S w2 hQ2 (by omega))
            have HQ2 := hid hQ2
            have hown2' := hid hown2
            clear htk hd2 hO2 hb hown HQ hQ2 hown2 c1
            go_wp2_with fail
            refine hql.out.mono ?_
            rw [show (([] : List Int).length : Int) = 0 from rfl]
            rintro e w4 ⟨rfl, hd4⟩
            have hO4 := only_of_drew hd4
            have hb4 : Below w.heap.size w w4 := below_only hb2 hO4 hb2.size (by simp)
            have hown4 := row_only hown2'.out hO4 (by simp)
            have hQ4 := HQ2.out.only hO4 (by simp)
            clear hql hd4 hO4 hb2 hown2' HQ2
            go_wp2
            go_roundw
            case rel =>
              refine ⟨k + 1, [], S, A2, cap2, rfl, by omega, by go_num, by simp, ?_, hown4, HD.out, hb4, HS.out⟩
              obtain ⟨sv, at_, n', xs, h1, h2, h3, h4⟩ := hQ4
              exact ⟨sv, at_, n', xs, h1, h2, by omega, h4⟩
            case measure => simp [intOf]; omega
          · -- Take, the first one
            obtain ⟨g, rfl, hcap⟩ : ∃ g, A2 = some ⟨g, 0, none⟩ ∧ m.length + 1 ≤ cap2 := by
              rcases row_cases hown with ⟨h, h0, _⟩ | ⟨g, cap, h, h1, _⟩
              · simp at h0
              · injection h with h2 _ h3
                exact ⟨g, h2, by rw [h3]; simpa using h1⟩
            have htk := hid (qtake _ k x m S wr hQ (by omega))
            clear hQ
            go_wp2_with fail
            refine htk.out.mono ?_
            rintro e w2 ⟨rfl, S2, hQ2, hO2, hN2⟩
            have hb2 : Below w.heap.size w w2 := below_only hb hO2 hb.size HS.out
            have hown2 := row_only hown hO2 HD.out
            have cx : w2.cell? ⟨g, 0, none⟩ = some (.int .i64 x) := by
              rw [hown2.cellAt 0 (by simp)]; rfl
            have hs2 : ∀ y ∈ S2, w.heap.size ≤ y := fun y hy => HS.out y (hN2 y hy)
            have HS2 := hid hs2
            have HQ2 := hid hQ2
            have L2 := hid hQ2.lt
            have HR2 := hid hown2
            have hmk' : m.length + 1 ≤ k := by simpa using hmk
            clear htk hO2 hb hown hN2 hs2 hQ2 hown2 HD HS c1 hmk hlen
            have hcells : ∀ j, j < m.length → w2.cell? ⟨g, 1 + j, none⟩ = some (.int .i64 (m[j]?.getD 0)) := fun j hj => by
              rw [HR2.out.cellAt (1 + j) (by simp; omega), List.getElem?_map, Nat.add_comm 1 j, List.getElem?_cons_succ]
              simp [hj]
            have HC := hid hcells
            clear hcells
            by_cases hone : cap2 = 1
            · obtain rfl : m = [] := List.eq_nil_of_length_eq_zero (by omega)
              subst hone
              clear hcap
              go_wp2_with fail
              refine (ints _ 0 _ [] w2 rfl (by omega) (fun h => absurd h (Nat.lt_irrefl 0))).mono ?_
              rintro e w3 ⟨v, rfl, hr3, hb3⟩
              obtain ⟨A4, cap4, rfl⟩ := row_shape hr3
              have hbw3 : Below w.heap.size w w3 := hb2.trans (hb3.mono hb2.size)
              have hO3 : Only [] w2 w3 := Only.of_below hb3 (Nat.le_refl _)
              have hQ3 := HQ2.out.only hO3 (by simp)
              have hd3 : ∀ y, (Value.slice A4 0 cap4).ownBlock = some y → y ∉ S2 := fun y hy hm => by
                have h1 := (row_own hr3 hy).1
                have h2 := L2.out y hm
                omega
              have hrow3 := row_base hr3 hb2.size
              have hql := hid (qlen _ k [] S2 w3 hQ3 (by omega))
              have HQ3 := hid hQ3
              have HD3 := hid hd3
              have HR3 := hid hrow3
              clear hr3 hb3 hO3 hQ3 hd3 hrow3 HQ2 L2 HR2 cx
              go_wp2_with fail
              refine hql.out.mono ?_
              rintro e w4 ⟨rfl, hd4⟩
              have hO4 := only_of_drew hd4
              have hb4 : Below w.heap.size w w4 := below_only hbw3 hO4 hbw3.size (by simp)
              have hown4 := row_only HR3.out hO4 (by simp)
              have hQ4 := HQ3.out.only hO4 (by simp)
              clear hql hd4 hO4 hbw3 HR3 HQ3
              go_wp2
              go_roundw
              case rel =>
                refine ⟨k + 1, [], S2, A4, cap4, rfl, by omega, by go_num, by omega, ?_, hown4, HD3.out, hb4, HS2.out⟩
                obtain ⟨sv, at_, n', xs, h1, h2, h3, h4⟩ := hQ4
                exact ⟨sv, at_, n', xs, h1, h2, by omega, h4⟩
              case measure => simp [intOf]; omega
            · go_wp2_with fail
              refine (ints _ m.length _ m w2 rfl (by omega) (fun _ => ⟨g, 1, rfl, HC.out⟩)).mono ?_
              rintro e w3 ⟨v, rfl, hr3, hb3⟩
              obtain ⟨A4, cap4, rfl⟩ := row_shape hr3
              have hbw3 : Below w.heap.size w w3 := hb2.trans (hb3.mono hb2.size)
              have hO3 : Only [] w2 w3 := Only.of_below hb3 (Nat.le_refl _)
              have hQ3 := HQ2.out.only hO3 (by simp)
              have hd3 : ∀ y, (Value.slice A4 m.length cap4).ownBlock = some y → y ∉ S2 := fun y hy hm => by
                have h1 := (row_own hr3 hy).1
                have h2 := L2.out y hm
                omega
              have hrow3 := row_base hr3 hb2.size
              have hql := hid (qlen _ k _ S2 w3 hQ3 (by omega))
              have HQ3 := hid hQ3
              have HD3 := hid hd3
              have HR3 := hid hrow3
              clear hr3 hb3 hO3 hQ3 hd3 hrow3 HQ2 L2 HR2 cx
              go_wp2_with fail
              refine hql.out.mono ?_
              rintro e w4 ⟨rfl, hd4⟩
              have hO4 := only_of_drew hd4
              have hb4 : Below w.heap.size w w4 := below_only hbw3 hO4 hbw3.size (by simp)
              have hown4 := row_only HR3.out hO4 (by simp)
              have hQ4 := HQ3.out.only hO4 (by simp)
              clear hql hd4 hO4 hbw3 HR3 HQ3
              go_wp2
              go_roundw
              case rel =>
                refine ⟨k + 1, m, S2, A4, cap4, rfl, by omega, by go_num, by omega, ?_, hown4, HD3.out, hb4, HS2.out⟩
                obtain ⟨sv, at_, n', xs, h1, h2, h3, h4⟩ := hQ4
                exact ⟨sv, at_, n', xs, h1, h2, by omega, h4⟩
              case measure => simp [intOf]; omega
      · have HA := hid hA
        clear hc hA
        go_wp2
        go_ret
        exact ⟨rfl, hb⟩
end Go.Proofs.YthdapdmpbbabcaaDoor
