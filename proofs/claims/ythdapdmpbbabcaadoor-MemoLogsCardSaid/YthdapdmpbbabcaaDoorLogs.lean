/-
  MemoLogs: for every slice of calls the law answers true, and nothing that was there has turned.
-/
import Derived.Test.YthdapdmpbbabcaaDoorFirst
import Derived.Test.YthdapdmpbbabcaaDoorPlace
import Derived.Test.YthdapdmpbbabcaaDoorLogI
namespace Go.Proofs.YthdapdmpbbabcaaDoor
open Go.RowKit Go.Maps

/-- What keys and values tell, one behind the other. -/
def lk (ks vs : List Int) (x : Int) : Option Int := if x ∈ ks then some (vs[ks.idxOf x]?.getD 0) else none
theorem lk_nil : lk [] [] = fun _ => none := by funext x; simp [lk]
theorem lk_snoc {ks vs : List Int} {x v : Int} (hx : x ∉ ks) (hv : vs.length = ks.length) : upd (lk ks vs) x v = lk (ks ++ [x]) (vs ++ [v]) := by
  funext y
  unfold upd lk
  by_cases hy : y = x
  · subst hy
    simp [List.idxOf_append, hx, ← hv]
  · by_cases hm : y ∈ ks
    · have hlt : ks.idxOf y < vs.length := by rw [hv]; exact List.idxOf_lt_length_iff.2 hm
      simp [hy, hm, List.idxOf_append, List.getElem?_append_left hlt]
    · simp [hy, hm]
theorem lk_none {ks vs : List Int} {x : Int} (hx : x ∉ ks) : lk ks vs x = none := by simp [lk, hx]
theorem lk_some {ks vs : List Int} {x : Int} (hx : x ∈ ks) : lk ks vs x = some (vs[ks.idxOf x]?.getD 0) := by simp [lk, hx]

/-- A row of numbers lies in none of the log's blocks. -/
theorem log_row {w : World} {b n : Nat} {S : List Nat} {f : Int → Option Int} {base size m : Nat} {v : Value} {xs : List Value} (h : LogI.LogAt w b S n f) (ho : w.ownsRow base 3 size v m xs) : ∀ g, v.ownBlock = some g → g ∉ S := by
  rcases h with ⟨h1, _, _, rfl⟩ | ⟨bm, h1, h2, rfl⟩
  · intro g hg hm
    have : g = b := by simpa using hm
    subst this
    exact h1.apartRow ho (by decide) hg
  · intro g hg hm
    simp only [List.mem_cons, List.not_mem_nil, or_false] at hm
    rcases hm with rfl | rfl
    · exact h1.apartRow ho (by decide) hg
    · exact h2.apartRow ho hg
/-- .. nor does a block of another element type. -/
theorem log_blk {w : World} {b n g : Nat} {S : List Nat} {f : Int → Option Int} {t : TypeId} {cs : Array Value} (h : LogI.LogAt w b S n f) (hB : Blk w g t cs) (ht : t ≠ 37) : g ∉ S := by
  rcases h with ⟨h1, _, _, rfl⟩ | ⟨bm, h1, h2, rfl⟩
  · intro hm
    have : g = b := by simpa using hm
    exact hB.apart h1 ht this
  · intro hm
    simp only [List.mem_cons, List.not_mem_nil, or_false] at hm
    rcases hm with h | h
    · exact hB.apart h1 ht h
    · exact h2.apart hB h

/-- What Once's function leaves. -/
def Ran (br bc : Nat) (K x y : Int) (S : List Nat) (n : Nat) (f : Int → Option Int) (w : World) (r : Int) (S1 : List Nat) (n1 : Nat) (f1 : Int → Option Int) (w1 : World) : Prop :=
  r = y ∧ Blk w1 br 3 #[.int .i64 1] ∧ Blk w1 bc 28 #[.int .i64 K, .int .i64 x, .int .i64 y] ∧ Only (br :: S) w w1 ∧ (∀ z ∈ S1, z ∈ S ∨ w.heap.size ≤ z) ∧ ((K = 4 ∧ n1 = n + 1 ∧ f1 = upd f x (wrap64 (y + 1))) ∨ (K ≠ 4 ∧ n1 = n ∧ f1 = f)) ∧
    LogI.LogAt w1 (S.headD 0) S1 n1 f1

set_option maxHeartbeats 400000 in
theorem ran17 (br bc bl n : Nat) (S : List Nat) (f : Int → Option Int) (K x y : Int) (w : World) (hr : Blk w br 3 #[.int .i64 0]) (hb : Blk w bc 28 #[.int .i64 K, .int .i64 x, .int .i64 y]) (hL : LogI.LogAt w bl S n f)
    (hx : SetI.KeyOk x) (hy : (Lit.int .i64 y).wf = true) (hf : f x = none) (hn : n ≤ 1000) :
    Calls Tryd.prog 17 #[.pointer (some ⟨br, 0, none⟩), .pointer (some ⟨bc, 0, none⟩), .pointer (some ⟨bl, 0, none⟩)] w fun e w1 => ∃ r S1 n1 f1, e = .returned (.int .i64 r) ∧ LogI.LogAt w1 bl S1 n1 f1 ∧ n1 ≤ 1000000 ∧ (Lit.int .i64 r).wf = true ∧ Ran br bc K x y S n f w r S1 n1 f1 w1 := by
  have c0 : w.cell? ⟨br, 0, none⟩ = some (.int .i64 0) := by rw [hr.cell]; rfl
  have f0 := hr.frozen 0
  have b0 : w.cell? ⟨bc, 0, none⟩ = some (.int .i64 K) := by rw [hb.cell]; rfl
  have b1 : w.cell? ⟨bc, 1, none⟩ = some (.int .i64 x) := by rw [hb.cell]; rfl
  have b2 : w.cell? ⟨bc, 2, none⟩ = some (.int .i64 y) := by rw [hb.cell]; rfl
  have hne : bc ≠ br := hb.apart hr (by decide)
  have hne' : br ≠ bc := fun e => hne e.symm
  have hbrS := log_blk hL hr (by decide)
  have hbcS := log_blk hL hb (by decide)
  have hhead : S.headD 0 = bl := by rcases hL with ⟨_, _, _, rfl⟩ | ⟨_, _, _, rfl⟩ <;> rfl
  have hr1 : Blk (w.setCell ⟨br, 0, none⟩ (.int .i64 1)) br 3 #[.int .i64 1] := hr.put 0 (.int .i64 1)
  have hb1 : Blk (w.setCell ⟨br, 0, none⟩ (.int .i64 1)) bc 28 #[.int .i64 K, .int .i64 x, .int .i64 y] := hb.far (p := ⟨br, 0, none⟩) hne _
  have hO1 : Only [br] w (w.setCell ⟨br, 0, none⟩ (.int .i64 1)) := (Only.refl _ w).setCell (.inl (by simp)) _
  have hL1 := hL.only hO1 (fun z hz hm => hbrS ((List.mem_singleton.1 hm) ▸ hz))
  have HL1 := hid hL1
  have HR1 := hid hr1
  have HB1 := hid hb1
  have HO1 := hid hO1
  have Hhead := hid hhead
  have HbrS := hid hbrS
  have HbcS := hid hbcS
  by_cases hK : K = 4
  · have hK' : (K == 4) = true := by simpa using hK
    have hN := hid (LogI.note_new bl n S f x (wrap64 (y + 1)) _ hL1 hx hf (wrap64_wf _) (by omega))
    have HK := hid hK
    clear hr hb hL hf hhead hbrS hbcS hr1 hb1 hO1 hL1 hK
    go_enter Tryd.func17, Tryd.ntmps17
    go_wp2_with fail
    refine hN.out.mono ?_
    rintro e w1 ⟨rfl, S1, hL2, hO2, hN2⟩
    have hr2 := HR1.out.only hO2 HbrS.out
    have hb2 := HB1.out.only hO2 HbcS.out
    have b2' : w1.cell? ⟨bc, 2, none⟩ = some (.int .i64 y) := by rw [hb2.cell]; rfl
    have hO3 : Only (br :: S) w w1 := (HO1.out.mono (T := br :: S) (fun z hz => .inl (List.mem_cons.2 (.inl (List.mem_singleton.1 hz))))).trans hO2 (fun z hz => .inl (by simp [hz]))
    have HL2 := hid hL2
    have HN2 := hid hN2
    have HR2 := hid hr2
    have HB2 := hid hb2
    have HO3 := hid hO3
    clear hL2 hO2 hN2 hr2 hb2 hO3 hN
    go_wp2
    go_ret
    refine ⟨y, S1, n + 1, _, rfl, HL2.out, by omega, hy, rfl, HR2.out, HB2.out, HO3.out, fun z hz => ?_, .inl ⟨HK.out, rfl, rfl⟩, by rw [Hhead.out]; exact HL2.out⟩
    rcases HN2.out z hz with h | h
    · exact .inl h
    · exact .inr (by simpa using h)
  · have hK' : (K == 4) = false := by simpa using hK
    have HK := hid hK
    clear hr hb hL hf hhead hbrS hbcS hr1 hb1 hO1 hL1 hK
    go_enter Tryd.func17, Tryd.ntmps17
    go_wp2
    go_ret
    exact ⟨y, S, n, f, rfl, HL1.out, by omega, hy, rfl, HR1.out, HB1.out, HO1.out.mono (fun z hz => .inl (List.mem_cons.2 (.inl (List.mem_singleton.1 hz)))), fun z hz => .inl hz, .inr ⟨HK.out, rfl, rfl⟩, by rw [Hhead.out]; exact HL1.out⟩

/-- What Once notes here. -/
def noted (K y : Int) : Int := if K = 4 then wrap64 (y + 1) else y

theorem once17 (br bc bl n : Nat) (S : List Nat) (f : Int → Option Int) (K x y : Int) (w : World) (hr : Blk w br 3 #[.int .i64 0]) (hb : Blk w bc 28 #[.int .i64 K, .int .i64 x, .int .i64 y]) (hL : LogI.LogAt w bl S n f)
    (hx : SetI.KeyOk x) (hy : (Lit.int .i64 y).wf = true) (hf : f x = none) (hn : n ≤ 1000) :
    Calls Tryd.prog 16 #[.pointer (some ⟨bl, 0, none⟩), .int .i64 x, .func (.func 17) #[] #[.pointer (some ⟨br, 0, none⟩), .pointer (some ⟨bc, 0, none⟩), .pointer (some ⟨bl, 0, none⟩)]] w fun e w' =>
      e = .returned (.int .i64 (noted K y)) ∧ ∃ S', LogI.LogAt w' bl S' (n + 1) (upd f x (noted K y)) ∧ Only (br :: S) w w' ∧ (∀ z ∈ S', z ∈ S ∨ w.heap.size ≤ z) ∧ Blk w' br 3 #[.int .i64 1] ∧ Blk w' bc 28 #[.int .i64 K, .int .i64 x, .int .i64 y] := by
  refine (LogI.once_new17 bl n S f x ⟨br, 0, none⟩ ⟨bc, 0, none⟩ ⟨bl, 0, none⟩ w hL hx hf _ (ran17 br bc bl n S f K x y w hr hb hL hx hy hf hn)).mono ?_
  rintro e w' ⟨r, S1, n1, f1, w1, ⟨rfl, hr1, hb1, hO1, hS1, hcase, hLL⟩, h⟩
  have hhead : S.headD 0 = bl := by rcases hL with ⟨_, _, _, rfl⟩ | ⟨_, _, _, rfl⟩ <;> rfl
  rw [hhead] at hLL
  rcases hcase with ⟨rfl, rfl, rfl⟩ | ⟨hK, rfl, rfl⟩
  · rcases h with ⟨v, hv, rfl, rfl⟩ | ⟨hno, _⟩
    · have : v = wrap64 (r + 1) := by simpa [upd] using hv.symm
      subst this
      exact ⟨by simp [noted], S1, by simpa [noted] using hLL, hO1, hS1, hr1, hb1⟩
    · simp [upd] at hno
  · rcases h with ⟨v, hv, _⟩ | ⟨_, rfl, S', hL', hO', hN'⟩
    · rw [hf] at hv
      cases hv
    · have hO2 : Only (br :: S) w w' := hO1.trans hO' (fun z hz => by
        rcases hS1 z hz with h | h
        · exact .inl (by simp [h])
        · exact .inr h)
      refine ⟨by simp [noted, hK], S', by simpa [noted, hK] using hL', hO2, fun z hz => ?_, hr1.only hO' ?_, hb1.only hO' ?_⟩
      · rcases hN' z hz with h | h
        · exact hS1 z h
        · have := hO1.size; exact .inr (by omega)
      · exact log_blk hLL hr1 (by decide)
      · exact log_blk hLL hb1 (by decide)

theorem logs_newI (w : World) : LogI.LogAt (w.alloc (.cells #[.map none] 37)) w.heap.size [w.heap.size] 0 (lk [] []) :=
  .inl ⟨Blk.new _ _ _, rfl, fun _ => by simp [lk], rfl⟩

theorem logs_big (A : Option Addr) (n c : Nat) (w : World) (hs : Sent w) (hbig : (300 : Int) < (n : Int)) :
    Calls Tryd.prog 4 #[.slice A n c] w fun e w' => e = .returned (.bool true) ∧ Below w.heap.size w w' := by
  have hF := hid (first w hs)
  clear hs
  go_enter Tryd.func4, Tryd.ntmps4
  go_wp2_with fail
  refine hF.out.mono ?_
  rintro e w1 ⟨rfl, hO⟩
  have hb := hO.below_of (Nat.le_refl _) (by simp)
  clear hF hO
  go_wp2
  go_ret
  exact ⟨rfl, hb⟩

set_option maxHeartbeats 8000000 in
set_option maxRecDepth 100000 in
theorem logs (A : Option Addr) (n c b off : Nat) (Kf Xf Yf : Nat → Int) (w : World) (hs : Sent w) (hA : 0 < n → A = some ⟨b, off, none⟩) (hn : n ≤ 9223372036854775807)
    (hc : ∀ j, j < n → w.cell? ⟨b, off + j * 3, none⟩ = some (.int .i64 (Kf j)) ∧ w.cell? ⟨b, off + j * 3 + 1, none⟩ = some (.int .i64 (Xf j)) ∧ w.cell? ⟨b, off + j * 3 + 2, none⟩ = some (.int .i64 (Yf j)) ∧
      (Lit.int .i64 (Xf j)).wf = true ∧ (Lit.int .i64 (Yf j)).wf = true) :
    Calls Tryd.prog 4 #[.slice A n c] w fun e w' => e = .returned (.bool true) ∧ Below w.heap.size w w' := by
  by_cases hbig : (300 : Int) < (n : Int)
  · exact logs_big A n c w hs hbig
  have hsm : (n : Int) ≤ 300 := by omega
  have hF := hid (first w hs)
  clear hbig hs
  go_enter Tryd.func4, Tryd.ntmps4
  go_wp2_with fail
  refine hF.out.mono ?_
  rintro e w1 ⟨rfl, hO⟩
  have hb1 : Below w.heap.size w w1 := hO.below_of (Nat.le_refl _) (by simp)
  have hl1 := logs_newI w1
  have hb2 : Below w.heap.size w (w1.alloc (.cells #[.map none] 37)) := hb1.alloc hb1.size _
  have hsz := hb1.size
  clear hF hO hb1
  go_wp2_with fail
  go_loopw [5, 6, 7] (fun s5 s6 i wr => ∃ (k : Nat) (ks vs : List Int) (S : List Nat) (A5 : Option Addr) (c5 : Nat) (A6 : Option Addr) (c6 : Nat), s5 = .slice A5 ks.length c5 ∧ s6 = .slice A6 ks.length c6 ∧ k ≤ n ∧ i = .int .i64 k ∧ ks.length ≤ k ∧
      LogI.LogAt wr w1.heap.size S ks.length (lk ks vs) ∧ wr.ownsRow w.heap.size 3 1 s5 ks.length (ks.map (Value.int .i64)) ∧ wr.ownsRow w.heap.size 3 1 s6 ks.length (vs.map (Value.int .i64)) ∧
      (∀ g, s5.ownBlock = some g → s6.ownBlock ≠ some g) ∧ Below w.heap.size w wr ∧ (∀ x ∈ S, w.heap.size ≤ x)) (fun _ _ i _ => n - (intOf i).toNat)
  case atStart =>
    exact ⟨0, [], [], [w1.heap.size], none, 0, none, 0, rfl, rfl, Nat.zero_le _, rfl, Nat.zero_le _, hl1, World.ownsRow_nil _ _ _ _, World.ownsRow_nil _ _ _ _, by simp [Value.ownBlock], hb2, by intro x hx; simp at hx; omega⟩
  case round =>
    obtain ⟨k, ks, vs, S, A5, c5, A6, c6, rfl, rfl, hk, rfl, hmk, hlog, hrow5, hrow6, hdis, hb, hSb⟩ := hrel
    clear hl1 hb2
    by_cases hlt : k < n
    · have hA' := hA (by omega)
      subst hA'
      obtain ⟨c1, c2, c3, kx, ky⟩ := hc k hlt
      have hg : b < w.heap.size := World.block_lt_of_cell? w _ c1
      rw [← hb.cell (p := ⟨b, off + k * 3, none⟩) hg] at c1
      rw [← hb.cell (p := ⟨b, off + k * 3 + 1, none⟩) hg] at c2
      rw [← hb.cell (p := ⟨b, off + k * 3 + 2, none⟩) hg] at c3
      generalize Kf k = K at *
      generalize Xf k = x at *
      generalize Yf k = y at *
      have hlen : ks.length ≤ 300 := by omega
      have hvl : vs.length = ks.length := by simpa using hrow6.1
      -- the block of c
      have hC2 : Blk (wr.alloc (.cells #[.int .i64 K, .int .i64 x, .int .i64 y] 28)) wr.heap.size 28 #[.int .i64 K, .int .i64 x, .int .i64 y] := Blk.new _ _ _
      have hO2 : Only [] wr (wr.alloc (.cells #[.int .i64 K, .int .i64 x, .int .i64 y] 28)) := (Only.refl _ wr).alloc _
      have hL2 := hlog.only hO2 (by simp)
      have h52 := row_only hrow5 hO2 (by simp)
      have h62 := row_only hrow6 hO2 (by simp)
      have hb2 := below_only hb hO2 hb.size (by simp)
      have hsz2 := hb2.size
      have hpz := hid (place _ ks x _ h52 (by omega))
      have HLg := hid hL2
      have H52 := hid h52
      have H62 := hid h62
      have HB2 := hid hb2
      have HC2 := hid hC2
      have HV := hid hvl
      have HSb := hid hSb
      have HDis := hid hdis
      clear hc hA hlog hrow5 hrow6 hb hSb hdis hC2 hO2 hL2 h52 h62 hb2 hvl
      go_wp2_with fail
      generalize wr.alloc (.cells #[.int .i64 K, .int .i64 x, .int .i64 y] 28) = w2 at *
      generalize wr.heap.size = bc at *
      have hbcl := HC2.out.lt
      have b0 : w2.cell? ⟨bc, 0, none⟩ = some (.int .i64 K) := by rw [HC2.out.cell]; rfl
      have b1 : w2.cell? ⟨bc, 1, none⟩ = some (.int .i64 x) := by rw [HC2.out.cell]; rfl
      have b2 : w2.cell? ⟨bc, 2, none⟩ = some (.int .i64 y) := by rw [HC2.out.cell]; rfl
      by_cases hx : x ∈ ks
      · -- it is noted already
        have hjl : ks.idxOf x < ks.length := List.idxOf_lt_length_iff.2 hx
        obtain ⟨v, hv⟩ : ∃ v, vs[ks.idxOf x]? = some v := ⟨_, List.getElem?_eq_getElem (by rw [HV.out]; exact hjl)⟩
        have hlk : lk ks vs x = some v := by rw [lk_some hx, hv]; rfl
        have hpos : pos ks x = ((ks.idxOf x : Nat) : Int) := by simp [pos, hx]
        generalize ks.idxOf x = j at *
        rw [hpos] at hpz
        have Hlk := hid hlk
        have Hv := hid hv
        clear hx hlk hpos hv
        refine hpz.out.mono ?_
        rintro e w9 ⟨rfl, rfl⟩
        clear hpz
        by_cases hK1 : K = 1
        · have hk1 : (K == 1) = true := by simpa using hK1
          have hno := hid (LogI.note_old _ _ _ _ x y w2 HLg.out kx (by rw [Hlk.out]; rfl))
          clear hK1
          go_wp2_with fail
          refine hno.out.mono ?_
          rintro e w9 ⟨rfl, rfl⟩
          have HL := HLg
          have H5 := H52
          have H6 := H62
          have HB := HB2
          have HD56 := HDis
          have HS := HSb
          have hle := hid (LogI.len _ _ _ _ _ HL.out)
          go_wp2_with fail
          refine hle.out.mono ?_
          rintro e w9 ⟨rfl, rfl⟩
          go_wp2
          go_roundw
          case rel => exact ⟨k + 1, ks, vs, S, A5, c5, A6, c6, rfl, rfl, by omega, by go_num, by omega, HL.out, H5.out, H6.out, HD56.out, HB.out, HS.out⟩
          case measure => simp [intOf] <;> omega
        · have hk1 : (K == 1) = false := by simpa using hK1
          clear hK1
          by_cases hK2 : K = 2
          · have hk2 : (K == 2) = true := by simpa using hK2
            have hge := hid (LogI.get _ _ _ _ x w2 HLg.out kx)
            rw [Hlk.out] at hge
            obtain ⟨g6, rfl⟩ : ∃ g6, A6 = some ⟨g6, 0, none⟩ := by
              rcases row_cases H62.out with ⟨_, h, _⟩ | ⟨g6, cap, h, _⟩
              · omega
              · injection h with h _ _
                exact ⟨g6, h⟩
            have hcv : w2.cell? ⟨g6, j, none⟩ = some (.int .i64 v) := by
              rw [H62.out.cellAt j (by omega), List.getElem?_map, Hv.out]
              rfl
            clear hK2
            go_wp2_with fail
            refine hge.out.mono ?_
            rintro e w9 ⟨rfl, rfl⟩
            go_wp2_with fail
            have HL := HLg
            have H5 := H52
            have H6 := H62
            have HB := HB2
            have HD56 := HDis
            have HS := HSb
            have hle := hid (LogI.len _ _ _ _ _ HL.out)
            go_wp2_with fail
            refine hle.out.mono ?_
            rintro e w9 ⟨rfl, rfl⟩
            go_wp2
            go_roundw
            case rel => exact ⟨k + 1, ks, vs, S, A5, c5, some ⟨g6, 0, none⟩, c6, rfl, rfl, by omega, by go_num, by omega, HL.out, H5.out, H6.out, HD56.out, HB.out, HS.out⟩
            case measure => simp [intOf] <;> omega
          · have hk2 : (K == 2) = false := by simpa using hK2
            obtain ⟨g6, rfl⟩ : ∃ g6, A6 = some ⟨g6, 0, none⟩ := by
              rcases row_cases H62.out with ⟨_, h, _⟩ | ⟨g6, cap, h, _⟩
              · omega
              · injection h with h _ _
                exact ⟨g6, h⟩
            have hO3 : Only [] w2 (w2.alloc (.cells #[.int .i64 0] 3)) := (Only.refl _ w2).alloc _
            have hL3 := HLg.out.only hO3 (by simp)
            have h53 := row_only H52.out hO3 (by simp)
            have h63 := row_only H62.out hO3 (by simp)
            have hb3 := below_only HB2.out hO3 HB2.out.size (by simp)
            have hon := hid (fun fv => LogI.once_old _ _ _ _ x v fv _ hL3 kx Hlk.out)
            have hcr := (Blk.new w2 3 #[.int .i64 0]).cell 0
            have hcv : (w2.alloc (.cells #[.int .i64 0] 3)).cell? ⟨g6, j, none⟩ = some (.int .i64 v) := by
              rw [h63.cellAt j (by omega), List.getElem?_map, Hv.out]
              rfl
            have HL := hid hL3
            have H5 := hid h53
            have H6 := hid h63
            have HB := hid hb3
            clear hK2 hO3 hL3 h53 h63 hb3
            go_wp2_with fail
            generalize w2.alloc (.cells #[.int .i64 0] 3) = w3 at *
            generalize w2.heap.size = br at *
            have hcr' : w3.cell? ⟨br, 0, none⟩ = some (.int .i64 0) := hcr
            clear hcr
            refine (hon.out _).mono ?_
            rintro e w9 ⟨rfl, rfl⟩
            clear hon
            have HD56 := HDis
            have HS := HSb
            go_wp2_with fail
            have hle := hid (LogI.len _ _ _ _ _ HL.out)
            go_wp2_with fail
            refine hle.out.mono ?_
            rintro e w9 ⟨rfl, rfl⟩
            go_wp2
            go_roundw
            case rel => exact ⟨k + 1, ks, vs, S, A5, c5, some ⟨g6, 0, none⟩, c6, rfl, rfl, by omega, by go_num, by omega, HL.out, H5.out, H6.out, HD56.out, HB.out, HS.out⟩
            case measure => simp [intOf] <;> omega
      · -- it is not noted yet
        have hpos : pos ks x = -1 := by simp [pos, hx]
        have hlk : lk ks vs x = none := lk_none hx
        rw [hpos] at hpz
        have Hlk := hid hlk
        have HNx := hid hx
        clear hx hlk hpos
        refine hpz.out.mono ?_
        rintro e w9 ⟨rfl, rfl⟩
        clear hpz
        by_cases hK1 : K = 1
        · have hk1 : (K == 1) = true := by simpa using hK1
          have hno := hid (LogI.note_new _ _ _ _ x y w2 HLg.out kx Hlk.out ky (by omega))
          clear hK1
          go_wp2_with fail
          refine hno.out.mono ?_
          rintro e w3 ⟨rfl, S3, hL3, hO3, hN3⟩
          have h53 := row_only H52.out hO3 (log_row HLg.out H52.out)
          have h63 := row_only H62.out hO3 (log_row HLg.out H62.out)
          have hb3 := below_only HB2.out hO3 HB2.out.size HSb.out
          have hs3 : ∀ z ∈ S3, w.heap.size ≤ z := fun z hz => by
            rcases hN3 z hz with h | h
            · exact HSb.out z h
            · have := HB2.out.size; omega
          have HL3 := hid hL3
          have H53 := hid h53
          have H63 := hid h63
          have HB3 := hid hb3
          have HS3 := hid hs3
          have HD3 := hid HDis.out
          clear h53 h63 hb3 hs3
          have HC3 := hid (HC2.out.only hO3 (log_blk HLg.out HC2.out (by decide)))
          have c0 : w3.cell? ⟨bc, 0, none⟩ = some (.int .i64 K) := by rw [HC3.out.cell]; rfl
          have c1 : w3.cell? ⟨bc, 1, none⟩ = some (.int .i64 x) := by rw [HC3.out.cell]; rfl
          have c2 : w3.cell? ⟨bc, 2, none⟩ = some (.int .i64 y) := by rw [HC3.out.cell]; rfl
          clear hL3 hO3 hN3 hno b0 b1 b2 HLg H52 H62 HB2 HC2 HDis HSb Hlk
          obtain ⟨i0, hi, hz0, hz1, hz2⟩ := info_parts infoInt
          have hsz3 := HB3.out.size
          have h5 := H53.out
          have h6 := H63.out
          go_wp2_with (first
            | (at_builtin; refine wpList_append_own_at _ rfl (.tmp 92) (.tmp 95) 24 rfl w.heap.size 3 i0 (.int .i64 0) 1 8 Tryd.underlying24 hi hz0 hz1 hz2 rfl (by decide) _ _ _ rfl (h5.alloc _) ⟨w3.heap.size, 0, none⟩ 1 1 [.int .i64 x] rfl rfl (cell_one_new _ _ _) (by simp [Value.oneCell']) (by unfold maxLen; omega) (by omega) (by simp; omega) ?_))
          intro v5 w4 hown5 hgrow5 _ hloc5
          have hb4 : Below w.heap.size w w4 := (HB3.out.alloc hsz3 _).grown hgrow5 (by simp; omega) (fun y hy => (row_own h5 hy).1)
          have hO4 : Only (Value.slice A5 ks.length c5).ownBlock.toList w3 w4 := ((Only.refl _ w3).alloc _).grown hgrow5 (fun y hy => .inl (by simp [hy]))
          have hsz34 := hO4.size
          have hL4 := HL3.out.only hO4 (fun y hy hm => log_row HL3.out h5 y (by simpa using hm) hy)
          have h64 : w4.ownsRow w.heap.size 3 1 (.slice A6 ks.length c6) ks.length (vs.map (Value.int .i64)) := row_only h6 hO4 (fun g hg' hm => HD3.out g (by simpa using hm) hg')
          have hc84 : Blk w4 bc 28 #[.int .i64 K, .int .i64 x, .int .i64 y] := HC3.out.only hO4 (fun hm => HC3.out.apartRow h5 (by decide) (by simpa using hm))
          have hd54 : ∀ g, v5.ownBlock = some g → (Value.slice A6 ks.length c6).ownBlock ≠ some g := fun g hg' hm => by
            rcases hloc5 with h | h
            · exact HD3.out g (by rw [← h]; exact hg') hm
            · rw [h] at hg'
              have := (row_own h6 hm).2
              simp at hg'
              omega
          have hrow5 : w4.ownsRow w.heap.size 3 1 v5 (ks ++ [x]).length ((ks ++ [x]).map (Value.int .i64)) := by simpa using hown5
          obtain ⟨A5', c5', rfl⟩ := row_shape hrow5
          have b0 := hc84.cell 0
          have b1 := hc84.cell 1
          have b2 := hc84.cell 2
          simp at b0 b1 b2
          have H54 := hid hrow5
          have HD54 := hid hd54
          have HL4 := hid hL4
          have HC4 := hid hc84
          have hsz4 := hb4.size
          have HB4 := hid hb4
          have hkl : ks.length ≤ 300 := by omega
          clear hown5 hgrow5 hloc5 hO4 h5 h6 hrow5 hd54 hL4 hc84 hb4 H53 H63 HB3 HD3 HL3 HC3 c0 c1 c2
          go_wp2_with (first
            | (at_builtin; refine wpList_append_own_at _ rfl (.tmp 97) (.tmp 100) 24 rfl w.heap.size 3 i0 (.int .i64 0) 1 8 Tryd.underlying24 hi hz0 hz1 hz2 rfl (by decide) _ _ _ rfl (h64.alloc _) ⟨w4.heap.size, 0, none⟩ 1 1 [.int .i64 y] rfl rfl (cell_one_new _ _ _) (by simp [Value.oneCell']) (by unfold maxLen; omega) (by omega) (by simp; omega) ?_))
          intro v6 w5 hown6 hgrow6 _ hloc6
          have hb5 : Below w.heap.size w w5 := (HB4.out.alloc hsz4 _).grown hgrow6 (by simp; omega) (fun y hy => (row_own h64 hy).1)
          have hO5 : Only (Value.slice A6 ks.length c6).ownBlock.toList w4 w5 := ((Only.refl _ w4).alloc _).grown hgrow6 (fun y hy => .inl (by simp [hy]))
          have hL5 := HL4.out.only hO5 (fun y hy hm => log_row HL4.out h64 y (by simpa using hm) hy)
          have h55 : w5.ownsRow w.heap.size 3 1 (.slice A5' (ks ++ [x]).length c5') (ks ++ [x]).length ((ks ++ [x]).map (Value.int .i64)) := row_only H54.out hO5 (fun g hg' hm => HD54.out g hg' (by simpa using hm))
          have hrow6 : w5.ownsRow w.heap.size 3 1 v6 (ks ++ [x]).length ((vs ++ [y]).map (Value.int .i64)) := by simpa using hown6
          have hd56 : ∀ g, (Value.slice A5' (ks ++ [x]).length c5').ownBlock = some g → v6.ownBlock ≠ some g := fun g hg' hm => by
            rcases hloc6 with h | h
            · exact HD54.out g hg' (by rw [← h]; exact hm)
            · rw [h] at hm
              have := (row_own H54.out hg').2
              simp at hm
              omega
          obtain ⟨A6', c6', rfl⟩ := row_shape hrow6
          have hl5 : (ks ++ [x]).length = ks.length + 1 := by simp
          rw [lk_snoc HNx.out HV.out] at hL5
          have HL0 := hid hL5
          rw [show ks.length + 1 = (ks ++ [x]).length from hl5.symm] at hL5
          have HLn := hid hl5
          generalize ks ++ [x] = ks5 at *
          have hkl5 : ks5.length ≤ 301 := by omega
          have hmk5 : ks5.length ≤ k + 1 := by omega
          generalize vs ++ [y] = vs5 at *
          have HL := hid hL5
          have H5 := hid h55
          have H6 := hid hrow6
          have HD56 := hid hd56
          have HB := hid hb5
          have HS := HS3
          clear hi hz0 hz1 hz2 hown6 hgrow6 hloc6 hO5 hL5 h55 hrow6 hd56 hb5 h64 b0 b1 b2 hl5 hkl hmk hlen H54 HD54 HL4 HC4 HB4 hsz4 HNx HV
          have hle := hid (LogI.len _ _ _ _ _ HL0.out)
          rw [show ((ks.length + 1 : Nat) : Int) = (ks.length : Int) + 1 from by omega] at hle
          go_wp2_with fail
          refine hle.out.mono ?_
          rintro e w9 ⟨rfl, rfl⟩
          go_wp2
          go_roundw
          case rel => rw [← HLn.out]; exact ⟨k + 1, ks5, vs5, S3, A5', c5', A6', c6', rfl, rfl, by omega, by go_num, by omega, HL.out, H5.out, H6.out, HD56.out, HB.out, HS.out⟩
          case measure => simp [intOf] <;> omega
        · have hk1 : (K == 1) = false := by simpa using hK1
          by_cases hK2 : K = 2
          · have hk2 : (K == 2) = true := by simpa using hK2
            have hge := hid (LogI.get _ _ _ _ x w2 HLg.out kx)
            rw [Hlk.out] at hge
            clear hK2 hK1
            go_wp2_with fail
            refine hge.out.mono ?_
            rintro e w9 ⟨rfl, rfl⟩
            go_wp2_with fail
            have HL := HLg
            have H5 := H52
            have H6 := H62
            have HB := HB2
            have HD56 := HDis
            have HS := HSb
            have hle := hid (LogI.len _ _ _ _ _ HL.out)
            go_wp2_with fail
            refine hle.out.mono ?_
            rintro e w9 ⟨rfl, rfl⟩
            go_wp2
            go_roundw
            case rel => exact ⟨k + 1, ks, vs, S, A5, c5, A6, c6, rfl, rfl, by omega, by go_num, by omega, HL.out, H5.out, H6.out, HD56.out, HB.out, HS.out⟩
            case measure => simp [intOf] <;> omega
          · have hk2 : (K == 2) = false := by simpa using hK2
            clear hK1 hK2
            have hO2' : Only [] w2 (w2.alloc (.cells #[.int .i64 0] 3)) := (Only.refl _ w2).alloc _
            have hr2 : Blk (w2.alloc (.cells #[.int .i64 0] 3)) w2.heap.size 3 #[.int .i64 0] := Blk.new _ _ _
            have hL2' := HLg.out.only hO2' (by simp)
            have h5' := row_only H52.out hO2' (by simp)
            have h6' := row_only H62.out hO2' (by simp)
            have hb2' := below_only HB2.out hO2' HB2.out.size (by simp)
            have hon := hid (once17 _ bc _ _ _ _ K x y _ hr2 (HC2.out.only hO2' (by simp)) hL2' kx ky Hlk.out (by omega))
            have H5r : Hid (∀ g, (Value.slice A5 ks.length c5).ownBlock = some g → g < w2.heap.size) := hid (fun g h => (row_own H52.out h).2)
            have H6r : Hid (∀ g, (Value.slice A6 ks.length c6).ownBlock = some g → g < w2.heap.size) := hid (fun g h => (row_own H62.out h).2)
            have HL2 := hid hL2'
            have HH5 := hid h5'
            have HH6 := hid h6'
            have HB2' := hid hb2'
            have hbr := HB2.out.size
            clear hO2' hr2 hL2' h5' h6' hb2'
            go_wp2_with fail
            generalize w2.alloc (.cells #[.int .i64 0] 3) = w2' at *
            generalize w2.heap.size = br at *
            by_cases hK4 : K = 4
            · have hk4 : (K == 4) = true := by simpa using hK4
              have hnt : noted K y = wrap64 (y + 1) := by simp [noted, hK4]
              rw [hnt] at hon
              clear hnt hK4
              refine hon.out.mono ?_
              rintro e w3 ⟨rfl, S3, hL3, hO3, hN3, hr3, hc3⟩
              have h53 := row_only HH5.out hO3 (fun g hg' hm => by
                rcases List.mem_cons.1 hm with h | h
                · have := H5r.out g hg'; omega
                · exact log_row HL2.out HH5.out g hg' h)
              have h63 := row_only HH6.out hO3 (fun g hg' hm => by
                rcases List.mem_cons.1 hm with h | h
                · have := H6r.out g hg'; omega
                · exact log_row HL2.out HH6.out g hg' h)
              have hs2 : ∀ z ∈ br :: S, w.heap.size ≤ z := fun z hz => by
                rcases List.mem_cons.1 hz with h | h
                · omega
                · exact HSb.out z h
              have hb3 := below_only HB2'.out hO3 HB2'.out.size hs2
              have hs3 : ∀ z ∈ S3, w.heap.size ≤ z := fun z hz => by
                rcases hN3 z hz with h | h
                · exact HSb.out z h
                · have := HB2'.out.size; omega
              have HL3 := hid hL3
              have H53 := hid h53
              have H63 := hid h63
              have HB3 := hid hb3
              have HS3 := hid hs3
              have HD3 := hid HDis.out
              have HC3 := hid hc3
              have cr : w3.cell? ⟨br, 0, none⟩ = some (.int .i64 1) := by rw [hr3.cell]; rfl
              have c0 : w3.cell? ⟨bc, 0, none⟩ = some (.int .i64 K) := by rw [hc3.cell]; rfl
              have c1 : w3.cell? ⟨bc, 1, none⟩ = some (.int .i64 x) := by rw [hc3.cell]; rfl
              have c2 : w3.cell? ⟨bc, 2, none⟩ = some (.int .i64 y) := by rw [hc3.cell]; rfl
              clear h53 h63 hs2 hb3 hs3 hL3 hO3 hN3 hr3 hc3 hon b0 b1 b2 HLg H52 H62 HB2 HC2 HDis HSb Hlk H5r H6r HL2 HH5 HH6 HB2'
              obtain ⟨i0, hi, hz0, hz1, hz2⟩ := info_parts infoInt
              have hsz3 := HB3.out.size
              have h5 := H53.out
              have h6 := H63.out
              go_wp2_with (first
                | (at_builtin; refine wpList_append_own_at _ rfl (.tmp 71) (.tmp 74) 24 rfl w.heap.size 3 i0 (.int .i64 0) 1 8 Tryd.underlying24 hi hz0 hz1 hz2 rfl (by decide) _ _ _ rfl (h5.alloc _) ⟨w3.heap.size, 0, none⟩ 1 1 [.int .i64 x] rfl rfl (cell_one_new _ _ _) (by simp [Value.oneCell']) (by unfold maxLen; omega) (by omega) (by simp; omega) ?_))
              intro v5 w4 hown5 hgrow5 _ hloc5
              have hb4 : Below w.heap.size w w4 := (HB3.out.alloc hsz3 _).grown hgrow5 (by simp; omega) (fun y hy => (row_own h5 hy).1)
              have hO4 : Only (Value.slice A5 ks.length c5).ownBlock.toList w3 w4 := ((Only.refl _ w3).alloc _).grown hgrow5 (fun y hy => .inl (by simp [hy]))
              have hsz34 := hO4.size
              have hL4 := HL3.out.only hO4 (fun y hy hm => log_row HL3.out h5 y (by simpa using hm) hy)
              have h64 : w4.ownsRow w.heap.size 3 1 (.slice A6 ks.length c6) ks.length (vs.map (Value.int .i64)) := row_only h6 hO4 (fun g hg' hm => HD3.out g (by simpa using hm) hg')
              have hc84 : Blk w4 bc 28 #[.int .i64 K, .int .i64 x, .int .i64 y] := HC3.out.only hO4 (fun hm => HC3.out.apartRow h5 (by decide) (by simpa using hm))
              have hd54 : ∀ g, v5.ownBlock = some g → (Value.slice A6 ks.length c6).ownBlock ≠ some g := fun g hg' hm => by
                rcases hloc5 with h | h
                · exact HD3.out g (by rw [← h]; exact hg') hm
                · rw [h] at hg'
                  have := (row_own h6 hm).2
                  simp at hg'
                  omega
              have hrow5 : w4.ownsRow w.heap.size 3 1 v5 (ks ++ [x]).length ((ks ++ [x]).map (Value.int .i64)) := by simpa using hown5
              obtain ⟨A5', c5', rfl⟩ := row_shape hrow5
              have b0 := hc84.cell 0
              have b1 := hc84.cell 1
              have b2 := hc84.cell 2
              simp at b0 b1 b2
              have H54 := hid hrow5
              have HD54 := hid hd54
              have HL4 := hid hL4
              have HC4 := hid hc84
              have hsz4 := hb4.size
              have HB4 := hid hb4
              have hkl : ks.length ≤ 300 := by omega
              clear hown5 hgrow5 hloc5 hO4 h5 h6 hrow5 hd54 hL4 hc84 hb4 H53 H63 HB3 HD3 HL3 HC3 c0 c1 c2 cr
              go_wp2_with (first
                | (at_builtin; refine wpList_append_own_at _ rfl (.tmp 76) (.tmp 78) 24 rfl w.heap.size 3 i0 (.int .i64 0) 1 8 Tryd.underlying24 hi hz0 hz1 hz2 rfl (by decide) _ _ _ rfl (h64.alloc _) ⟨w4.heap.size, 0, none⟩ 1 1 [.int .i64 (wrap64 (y + 1))] rfl rfl (cell_one_new _ _ _) (by simp [Value.oneCell']) (by unfold maxLen; omega) (by omega) (by simp; omega) ?_))
              intro v6 w5 hown6 hgrow6 _ hloc6
              have hb5 : Below w.heap.size w w5 := (HB4.out.alloc hsz4 _).grown hgrow6 (by simp; omega) (fun y hy => (row_own h64 hy).1)
              have hO5 : Only (Value.slice A6 ks.length c6).ownBlock.toList w4 w5 := ((Only.refl _ w4).alloc _).grown hgrow6 (fun y hy => .inl (by simp [hy]))
              have hL5 := HL4.out.only hO5 (fun y hy hm => log_row HL4.out h64 y (by simpa using hm) hy)
              have h55 : w5.ownsRow w.heap.size 3 1 (.slice A5' (ks ++ [x]).length c5') (ks ++ [x]).length ((ks ++ [x]).map (Value.int .i64)) := row_only H54.out hO5 (fun g hg' hm => HD54.out g hg' (by simpa using hm))
              have hrow6 : w5.ownsRow w.heap.size 3 1 v6 (ks ++ [x]).length ((vs ++ [(wrap64 (y + 1))]).map (Value.int .i64)) := by simpa using hown6
              have hd56 : ∀ g, (Value.slice A5' (ks ++ [x]).length c5').ownBlock = some g → v6.ownBlock ≠ some g := fun g hg' hm => by
                rcases hloc6 with h | h
                · exact HD54.out g hg' (by rw [← h]; exact hm)
                · rw [h] at hm
                  have := (row_own H54.out hg').2
                  simp at hm
                  omega
              obtain ⟨A6', c6', rfl⟩ := row_shape hrow6
              have hl5 : (ks ++ [x]).length = ks.length + 1 := by simp
              rw [lk_snoc HNx.out HV.out] at hL5
              have HL0 := hid hL5
              rw [show ks.length + 1 = (ks ++ [x]).length from hl5.symm] at hL5
              have HLn := hid hl5
              generalize ks ++ [x] = ks5 at *
              have hkl5 : ks5.length ≤ 301 := by omega
              have hmk5 : ks5.length ≤ k + 1 := by omega
              generalize vs ++ [(wrap64 (y + 1))] = vs5 at *
              have HL := hid hL5
              have H5 := hid h55
              have H6 := hid hrow6
              have HD56 := hid hd56
              have HB := hid hb5
              have HS := HS3
              clear hi hz0 hz1 hz2 hown6 hgrow6 hloc6 hO5 hL5 h55 hrow6 hd56 hb5 h64 b0 b1 b2 hl5 hkl hmk hlen H54 HD54 HL4 HC4 HB4 hsz4 HNx HV
              have hle := hid (LogI.len _ _ _ _ _ HL0.out)
              rw [show ((ks.length + 1 : Nat) : Int) = (ks.length : Int) + 1 from by omega] at hle
              go_wp2_with fail
              refine hle.out.mono ?_
              rintro e w9 ⟨rfl, rfl⟩
              go_wp2
              go_roundw
              case rel => rw [← HLn.out]; exact ⟨k + 1, ks5, vs5, S3, A5', c5', A6', c6', rfl, rfl, by omega, by go_num, by omega, HL.out, H5.out, H6.out, HD56.out, HB.out, HS.out⟩
              case measure => simp [intOf] <;> omega
            · have hk4 : (K == 4) = false := by simpa using hK4
              have hnt : noted K y = y := by simp [noted, hK4]
              rw [hnt] at hon
              clear hnt hK4
              refine hon.out.mono ?_
              rintro e w3 ⟨rfl, S3, hL3, hO3, hN3, hr3, hc3⟩
              have h53 := row_only HH5.out hO3 (fun g hg' hm => by
                rcases List.mem_cons.1 hm with h | h
                · have := H5r.out g hg'; omega
                · exact log_row HL2.out HH5.out g hg' h)
              have h63 := row_only HH6.out hO3 (fun g hg' hm => by
                rcases List.mem_cons.1 hm with h | h
                · have := H6r.out g hg'; omega
                · exact log_row HL2.out HH6.out g hg' h)
              have hs2 : ∀ z ∈ br :: S, w.heap.size ≤ z := fun z hz => by
                rcases List.mem_cons.1 hz with h | h
                · omega
                · exact HSb.out z h
              have hb3 := below_only HB2'.out hO3 HB2'.out.size hs2
              have hs3 : ∀ z ∈ S3, w.heap.size ≤ z := fun z hz => by
                rcases hN3 z hz with h | h
                · exact HSb.out z h
                · have := HB2'.out.size; omega
              have HL3 := hid hL3
              have H53 := hid h53
              have H63 := hid h63
              have HB3 := hid hb3
              have HS3 := hid hs3
              have HD3 := hid HDis.out
              have HC3 := hid hc3
              have cr : w3.cell? ⟨br, 0, none⟩ = some (.int .i64 1) := by rw [hr3.cell]; rfl
              have c0 : w3.cell? ⟨bc, 0, none⟩ = some (.int .i64 K) := by rw [hc3.cell]; rfl
              have c1 : w3.cell? ⟨bc, 1, none⟩ = some (.int .i64 x) := by rw [hc3.cell]; rfl
              have c2 : w3.cell? ⟨bc, 2, none⟩ = some (.int .i64 y) := by rw [hc3.cell]; rfl
              clear h53 h63 hs2 hb3 hs3 hL3 hO3 hN3 hr3 hc3 hon b0 b1 b2 HLg H52 H62 HB2 HC2 HDis HSb Hlk H5r H6r HL2 HH5 HH6 HB2'
              obtain ⟨i0, hi, hz0, hz1, hz2⟩ := info_parts infoInt
              have hsz3 := HB3.out.size
              have h5 := H53.out
              have h6 := H63.out
              go_wp2_with (first
                | (at_builtin; refine wpList_append_own_at _ rfl (.tmp 71) (.tmp 74) 24 rfl w.heap.size 3 i0 (.int .i64 0) 1 8 Tryd.underlying24 hi hz0 hz1 hz2 rfl (by decide) _ _ _ rfl (h5.alloc _) ⟨w3.heap.size, 0, none⟩ 1 1 [.int .i64 x] rfl rfl (cell_one_new _ _ _) (by simp [Value.oneCell']) (by unfold maxLen; omega) (by omega) (by simp; omega) ?_))
              intro v5 w4 hown5 hgrow5 _ hloc5
              have hb4 : Below w.heap.size w w4 := (HB3.out.alloc hsz3 _).grown hgrow5 (by simp; omega) (fun y hy => (row_own h5 hy).1)
              have hO4 : Only (Value.slice A5 ks.length c5).ownBlock.toList w3 w4 := ((Only.refl _ w3).alloc _).grown hgrow5 (fun y hy => .inl (by simp [hy]))
              have hsz34 := hO4.size
              have hL4 := HL3.out.only hO4 (fun y hy hm => log_row HL3.out h5 y (by simpa using hm) hy)
              have h64 : w4.ownsRow w.heap.size 3 1 (.slice A6 ks.length c6) ks.length (vs.map (Value.int .i64)) := row_only h6 hO4 (fun g hg' hm => HD3.out g (by simpa using hm) hg')
              have hc84 : Blk w4 bc 28 #[.int .i64 K, .int .i64 x, .int .i64 y] := HC3.out.only hO4 (fun hm => HC3.out.apartRow h5 (by decide) (by simpa using hm))
              have hd54 : ∀ g, v5.ownBlock = some g → (Value.slice A6 ks.length c6).ownBlock ≠ some g := fun g hg' hm => by
                rcases hloc5 with h | h
                · exact HD3.out g (by rw [← h]; exact hg') hm
                · rw [h] at hg'
                  have := (row_own h6 hm).2
                  simp at hg'
                  omega
              have hrow5 : w4.ownsRow w.heap.size 3 1 v5 (ks ++ [x]).length ((ks ++ [x]).map (Value.int .i64)) := by simpa using hown5
              obtain ⟨A5', c5', rfl⟩ := row_shape hrow5
              have b0 := hc84.cell 0
              have b1 := hc84.cell 1
              have b2 := hc84.cell 2
              simp at b0 b1 b2
              have H54 := hid hrow5
              have HD54 := hid hd54
              have HL4 := hid hL4
              have HC4 := hid hc84
              have hsz4 := hb4.size
              have HB4 := hid hb4
              have hkl : ks.length ≤ 300 := by omega
              clear hown5 hgrow5 hloc5 hO4 h5 h6 hrow5 hd54 hL4 hc84 hb4 H53 H63 HB3 HD3 HL3 HC3 c0 c1 c2 cr
              go_wp2_with (first
                | (at_builtin; refine wpList_append_own_at _ rfl (.tmp 76) (.tmp 78) 24 rfl w.heap.size 3 i0 (.int .i64 0) 1 8 Tryd.underlying24 hi hz0 hz1 hz2 rfl (by decide) _ _ _ rfl (h64.alloc _) ⟨w4.heap.size, 0, none⟩ 1 1 [.int .i64 y] rfl rfl (cell_one_new _ _ _) (by simp [Value.oneCell']) (by unfold maxLen; omega) (by omega) (by simp; omega) ?_))
              intro v6 w5 hown6 hgrow6 _ hloc6
              have hb5 : Below w.heap.size w w5 := (HB4.out.alloc hsz4 _).grown hgrow6 (by simp; omega) (fun y hy => (row_own h64 hy).1)
              have hO5 : Only (Value.slice A6 ks.length c6).ownBlock.toList w4 w5 := ((Only.refl _ w4).alloc _).grown hgrow6 (fun y hy => .inl (by simp [hy]))
              have hL5 := HL4.out.only hO5 (fun y hy hm => log_row HL4.out h64 y (by simpa using hm) hy)
              have h55 : w5.ownsRow w.heap.size 3 1 (.slice A5' (ks ++ [x]).length c5') (ks ++ [x]).length ((ks ++ [x]).map (Value.int .i64)) := row_only H54.out hO5 (fun g hg' hm => HD54.out g hg' (by simpa using hm))
              have hrow6 : w5.ownsRow w.heap.size 3 1 v6 (ks ++ [x]).length ((vs ++ [y]).map (Value.int .i64)) := by simpa using hown6
              have hd56 : ∀ g, (Value.slice A5' (ks ++ [x]).length c5').ownBlock = some g → v6.ownBlock ≠ some g := fun g hg' hm => by
                rcases hloc6 with h | h
                · exact HD54.out g hg' (by rw [← h]; exact hm)
                · rw [h] at hm
                  have := (row_own H54.out hg').2
                  simp at hm
                  omega
              obtain ⟨A6', c6', rfl⟩ := row_shape hrow6
              have hl5 : (ks ++ [x]).length = ks.length + 1 := by simp
              rw [lk_snoc HNx.out HV.out] at hL5
              have HL0 := hid hL5
              rw [show ks.length + 1 = (ks ++ [x]).length from hl5.symm] at hL5
              have HLn := hid hl5
              generalize ks ++ [x] = ks5 at *
              have hkl5 : ks5.length ≤ 301 := by omega
              have hmk5 : ks5.length ≤ k + 1 := by omega
              generalize vs ++ [y] = vs5 at *
              have HL := hid hL5
              have H5 := hid h55
              have H6 := hid hrow6
              have HD56 := hid hd56
              have HB := hid hb5
              have HS := HS3
              clear hi hz0 hz1 hz2 hown6 hgrow6 hloc6 hO5 hL5 h55 hrow6 hd56 hb5 h64 b0 b1 b2 hl5 hkl hmk hlen H54 HD54 HL4 HC4 HB4 hsz4 HNx HV
              have hle := hid (LogI.len _ _ _ _ _ HL0.out)
              rw [show ((ks.length + 1 : Nat) : Int) = (ks.length : Int) + 1 from by omega] at hle
              go_wp2_with fail
              refine hle.out.mono ?_
              rintro e w9 ⟨rfl, rfl⟩
              go_wp2
              go_roundw
              case rel => rw [← HLn.out]; exact ⟨k + 1, ks5, vs5, S3, A5', c5', A6', c6', rfl, rfl, by omega, by go_num, by omega, HL.out, H5.out, H6.out, HD56.out, HB.out, HS.out⟩
              case measure => simp [intOf] <;> omega
    · have HA := hid hA
      clear hc hA hlog hrow5 hrow6
      go_wp2
      go_ret
      exact ⟨rfl, hb⟩
end Go.Proofs.YthdapdmpbbabcaaDoor
