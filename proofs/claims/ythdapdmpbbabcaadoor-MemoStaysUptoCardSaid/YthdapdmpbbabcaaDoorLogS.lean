/-
  What the log's calls do: Note, Get, Len of memo.Log at (string, int), and memo.Once over it. A log is told as a function: what is noted of each key. No condition but bounds on numbers.
-/
import Derived.Test.YthdapdmpbbabcaaDoorSetS
namespace Go.Proofs.YthdapdmpbbabcaaDoor.LogS
open Go.RowKit Go.Maps Go.Proofs.YthdapdmpbbabcaaDoor.SetS

/-- Block b is a log of n values, which tell f; S: the blocks that it lies in. -/
def LogAt (w : World) (b : Nat) (S : List Nat) (n : Nat) (f : ByteArray → Option Int) : Prop :=
  (Blk w b 67 #[.map none] ∧ n = 0 ∧ (∀ k, f k = none) ∧ S = [b]) ∨ (∃ bm, Blk w b 67 #[.map (some bm)] ∧ MapAt Tryd.prog 9 3 strKey w bm n f ∧ S = [b, bm])

theorem LogAt.only {w w' : World} {b n : Nat} {S T : List Nat} {f : ByteArray → Option Int} (h : LogAt w b S n f) (hb : Only T w w') (hd : ∀ k ∈ S, k ∉ T) : LogAt w' b S n f := by
  rcases h with ⟨h1, h2, h3, rfl⟩ | ⟨bm, h1, h2, rfl⟩
  · exact .inl ⟨h1.only hb (hd b (by simp)), h2, h3, rfl⟩
  · exact .inr ⟨bm, h1.only hb (hd b (by simp)), h2.only hb (hd bm (by simp)), rfl⟩
theorem LogAt.lt {w : World} {b n : Nat} {S : List Nat} {f : ByteArray → Option Int} (h : LogAt w b S n f) : ∀ k ∈ S, k < w.heap.size := by
  rcases h with ⟨h1, h2, h3, rfl⟩ | ⟨bm, h1, h2, rfl⟩
  · intro k hk
    have : k = b := by simpa using hk
    subst this
    exact h1.lt
  · intro k hk
    rcases List.mem_cons.1 hk with rfl | hk
    · exact h1.lt
    · have : k = bm := by simpa using hk
      subst this
      exact h2.lt
theorem LogAt.self {w : World} {b n : Nat} {S : List Nat} {f : ByteArray → Option Int} (h : LogAt w b S n f) : b ∈ S := by
  rcases h with ⟨_, _, _, rfl⟩ | ⟨_, _, _, rfl⟩ <;> simp

set_option maxHeartbeats 400000 in
theorem get (b n : Nat) (S : List Nat) (f : ByteArray → Option Int) (k : ByteArray) (w : World) (h : LogAt w b S n f) (hk : KeyOk k) :
    Calls Tryd.prog 40 #[.pointer (some ⟨b, 0, none⟩), Value.string k] w fun e w' => e = .returned (.tuple #[.int .i64 ((f k).getD 0), .bool (f k).isSome]) ∧ w = w' := by
  rcases h with ⟨hB, _, hf, _⟩ | ⟨bm, hB, hM, _⟩
  · have c0 : w.cell? ⟨b, 0, none⟩ = some (.map none) := by rw [hB.cell]; rfl
    have hrun := look_nil (w := w) true law Tryd.underlying65 (zeroE _) (good_key hk)
    have Hf := hid (hf k)
    clear hB hf
    go_enter Tryd.func40, Tryd.ntmps40
    go_wp2
    go_ret2
    exact ⟨by rw [Hf.out]; rfl, rfl⟩
  · have c0 : w.cell? ⟨b, 0, none⟩ = some (.map (some bm)) := by rw [hB.cell]; rfl
    clear hB
    go_enter Tryd.func40, Tryd.ntmps40
    go_wp2_with (at_lookup; refine wpList_look _ rfl _ _ 65 rfl 9 3 strKey law Tryd.underlying65 Tryd.underlying3 (zeroE _) bm n f rfl hM _ k rfl (good_key hk) ?_)
    go_ret2
    exact ⟨rfl, rfl⟩

set_option maxHeartbeats 400000 in
theorem len (b n : Nat) (S : List Nat) (f : ByteArray → Option Int) (w : World) (h : LogAt w b S n f) :
    Calls Tryd.prog 37 #[.pointer (some ⟨b, 0, none⟩)] w fun e w' => e = .returned (.int .i64 (n : Int)) ∧ w = w' := by
  rcases h with ⟨hB, hn, hf, _⟩ | ⟨bm, hB, hM, _⟩
  · have c0 : w.cell? ⟨b, 0, none⟩ = some (.map none) := by rw [hB.cell]; rfl
    have hrun := fun ty => Maps.len_nil (P := Tryd.prog) (w := w) Tryd.underlying65 ty
    have Hn := hid hn
    clear hB hf hn
    go_enter Tryd.func37, Tryd.ntmps37
    go_wp2
    go_ret
    exact ⟨by rw [Hn.out]; rfl, rfl⟩
  · have c0 : w.cell? ⟨b, 0, none⟩ = some (.map (some bm)) := by rw [hB.cell]; rfl
    clear hB
    go_enter Tryd.func37, Tryd.ntmps37
    go_wp2_with (at_len; refine wpList_size _ rfl _ 65 rfl 9 3 strKey Tryd.underlying65 bm n f rfl hM ?_)
    go_ret
    exact ⟨rfl, rfl⟩

set_option maxHeartbeats 400000 in
theorem note_old (b n : Nat) (S : List Nat) (f : ByteArray → Option Int) (k : ByteArray) (v : Int) (w : World) (h : LogAt w b S n f) (hk : KeyOk k) (hf : (f k).isSome = true) :
    Calls Tryd.prog 33 #[.pointer (some ⟨b, 0, none⟩), Value.string k, .int .i64 v] w fun e w' => e = .returned (.bool false) ∧ w = w' := by
  rcases h with ⟨hB, hn, h0, _⟩ | ⟨bm, hB, hM, _⟩
  · rw [h0 k] at hf
    cases hf
  · have c0 : w.cell? ⟨b, 0, none⟩ = some (.map (some bm)) := by rw [hB.cell]; rfl
    clear hB
    go_enter Tryd.func33, Tryd.ntmps33
    go_wp2_with (at_lookup; refine wpList_look _ rfl _ _ 65 rfl 9 3 strKey law Tryd.underlying65 Tryd.underlying3 (zeroE _) bm n f rfl hM _ k rfl (good_key hk) ?_)
    go_ret
    exact ⟨rfl, rfl⟩

set_option maxHeartbeats 400000 in
theorem note_new (b n : Nat) (S : List Nat) (f : ByteArray → Option Int) (k : ByteArray) (v : Int) (w : World) (h : LogAt w b S n f) (hk : KeyOk k) (hf : f k = none) (hv : (Lit.int .i64 v).wf = true) (hn : n ≤ 1000000) :
    Calls Tryd.prog 33 #[.pointer (some ⟨b, 0, none⟩), Value.string k, .int .i64 v] w fun e w' => e = .returned (.bool true) ∧ ∃ S', LogAt w' b S' (n + 1) (upd f k v) ∧ Only S w w' ∧ ∀ x ∈ S', x ∈ S ∨ w.heap.size ≤ x := by
  have hmm := @run_makeMap Tryd.prog
  have q1 : ∀ (w : World) (r : Option Nat), (binOp .eql 65 (.map r) (.map none)).run Tryd.prog w = .ok (.bool r.isNone) w := fun w r => run_eql_map_nil w _ _ _ r Tryd.underlying65
  rcases h with ⟨hB, rfl, h0, rfl⟩ | ⟨bm, hB, hM, rfl⟩
  · have c0 : w.cell? ⟨b, 0, none⟩ = some (.map none) := by rw [hB.cell]; rfl
    have f0 := hB.frozen 0
    have hrun := look_nil (w := w) true law Tryd.underlying65 (zeroE _) (good_key hk)
    have hbl := hB.lt
    have hne : ¬ w.heap.size = b := by omega
    have hM0 : MapAt Tryd.prog 9 3 strKey ((w.setCell ⟨b, 0, none⟩ (.map (some w.heap.size))).alloc (.map #[] 0)) w.heap.size 0 f := by
      have h := MapAt.made Tryd.prog 9 3 strKey (w.setCell ⟨b, 0, none⟩ (.map (some w.heap.size)))
      have e : f = fun _ => none := funext h0
      rw [World.size_setCell] at h
      rw [e]
      exact h
    have HB := hid hB
    have Hf := hid hf
    clear hB h0 hf
    go_enter Tryd.func33, Tryd.ntmps33
    go_wp2_with (at_mapUpdate; refine wpList_put _ rfl _ _ _ 65 rfl 9 3 strKey strKey_inj strKey_is law Tryd.underlying65 Tryd.underlying3 w.heap.size 0 f rfl hM0 (by unfold maxLen; omega) _ k v rfl rfl (good_key hk) hv Hf.out ?_; intro w1 hM1 hg1)
    go_ret
    refine ⟨rfl, [b, w.heap.size], .inr ⟨w.heap.size, ?_, hM1, rfl⟩, ?_, ?_⟩
    · have h := ((HB.out.put 0 (.map (some w.heap.size))).alloc (.map #[] 0)).grown hg1 (by simpa using fun e => hne e.symm)
      exact h
    · exact (((Only.refl _ w).setCell (.inl (by simp)) _).alloc _).grown hg1 (fun x hx => .inr (by simp at hx; omega))
    · intro x hx
      simp only [List.mem_cons, List.not_mem_nil, or_false] at hx
      rcases hx with rfl | rfl
      · exact .inl (by simp)
      · exact .inr (Nat.le_refl _)
  · have c0 : w.cell? ⟨b, 0, none⟩ = some (.map (some bm)) := by rw [hB.cell]; rfl
    have hs : (f k).isSome = false := by rw [hf]; rfl
    have Hf := hid hf
    have HB := hid hB
    clear hB hf
    go_enter Tryd.func33, Tryd.ntmps33
    go_wp2_with (first | (at_lookup; refine wpList_look _ rfl _ _ 65 rfl 9 3 strKey law Tryd.underlying65 Tryd.underlying3 (zeroE _) bm n f rfl hM _ k rfl (good_key hk) ?_) | (at_mapUpdate; refine wpList_put _ rfl _ _ _ 65 rfl 9 3 strKey strKey_inj strKey_is law Tryd.underlying65 Tryd.underlying3 bm n f rfl hM (by unfold maxLen; omega) _ k v rfl rfl (good_key hk) hv Hf.out ?_; intro w1 hM1 hg1))
    go_ret
    refine ⟨rfl, [b, bm], .inr ⟨bm, HB.out.grown hg1 ?_, hM1, rfl⟩, (Only.refl _ w).grown hg1 (fun x hx => .inl (by simp at hx; simp [hx])), fun x hx => .inl hx⟩
    have := hM.apart HB.out
    simpa using this

set_option maxHeartbeats 400000 in
theorem once_old (b n : Nat) (S : List Nat) (f : ByteArray → Option Int) (k : ByteArray) (v : Int) (fv : Value) (w : World) (h : LogAt w b S n f) (hk : KeyOk k) (hf : f k = some v) :
    Calls Tryd.prog 34 #[.pointer (some ⟨b, 0, none⟩), Value.string k, fv] w fun e w' => e = .returned (.int .i64 v) ∧ w = w' := by
  have hc := hid (get b n S f k w h hk)
  have Hf := hid hf
  clear h hf
  go_enter Tryd.func34, Tryd.ntmps34
  go_wp2_with (go_at_call 40; refine hc.out.mono ?_; rw [Hf.out]; rintro e w' ⟨rfl, rfl⟩)
  go_ret
  exact ⟨rfl, rfl⟩

/-- What Once leaves, where nothing was noted: X: what is known behind the function that was called; it may have noted the value itself. -/
def Left35 (b : Nat) (k : ByteArray) (X : Int → List Nat → Nat → (ByteArray → Option Int) → World → Prop) (e : Ending) (w' : World) : Prop :=
  ∃ (y : Int) (S1 : List Nat) (n1 : Nat) (f1 : ByteArray → Option Int) (w1 : World), X y S1 n1 f1 w1 ∧
    ((∃ v, f1 k = some v ∧ e = .returned (.int .i64 v) ∧ w1 = w') ∨ (f1 k = none ∧ e = .returned (.int .i64 y) ∧ ∃ S', LogAt w' b S' (n1 + 1) (upd f1 k y) ∧ Only S1 w1 w' ∧ ∀ x ∈ S', x ∈ S1 ∨ w1.heap.size ≤ x))

set_option maxHeartbeats 400000 in
theorem once_new35 (b n : Nat) (S : List Nat) (f : ByteArray → Option Int) (k : ByteArray) (w : World) (h : LogAt w b S n f) (hk : KeyOk k) (hf : f k = none)
    (X : Int → List Nat → Nat → (ByteArray → Option Int) → World → Prop)
    (hF : Calls Tryd.prog 35 #[] w fun e w1 => ∃ y S1 n1 f1, e = .returned (.int .i64 y) ∧ LogAt w1 b S1 n1 f1 ∧ n1 ≤ 1000000 ∧ (Lit.int .i64 y).wf = true ∧ X y S1 n1 f1 w1) :
    Calls Tryd.prog 34 #[.pointer (some ⟨b, 0, none⟩), Value.string k, .func (.func 35) #[] #[]] w (Left35 b k X) := by
  have hc := hid (get b n S f k w h hk)
  have Hf := hid hf
  have HF := hid hF
  clear h hf hF
  go_enter Tryd.func34, Tryd.ntmps34
  go_wp2_with fail
  refine hc.out.mono ?_
  rw [Hf.out]
  rintro e w' ⟨rfl, rfl⟩
  go_wp2_with fail
  refine HF.out.mono ?_
  rintro e w1 ⟨y, S1, n1, f1, rfl, hL, hn1, hy, hX⟩
  have HX := hid hX
  clear hc HF hX
  have hg1 := hid (fun (f2 : ByteArray → Option Int) (n2 : Nat) (S2 : List Nat) (w2 : World) (h2 : LogAt w2 b S2 n2 f2) => get b n2 S2 f2 k w2 h2 hk)
  rcases hf1 : f1 k with _ | v
  · have hN := hid (note_new b n1 S1 f1 k y w1 hL hk hf1 hy hn1)
    have Hf1 := hid hf1
    clear hf1 hL
    go_wp2_with fail
    refine hN.out.mono ?_
    rintro e w2 ⟨rfl, S', hL2, hO, hS⟩
    have HO := hid hO
    have HS := hid hS
    clear hO hS hN
    go_wp2_with fail
    refine (hg1.out _ _ _ _ hL2).mono ?_
    rw [show upd f1 k y k = some y from by simp [upd]]
    rintro e w3 ⟨rfl, rfl⟩
    go_wp2
    go_ret
    exact ⟨y, S1, n1, f1, w1, HX.out, .inr ⟨Hf1.out, rfl, S', hL2, HO.out, HS.out⟩⟩
  · have hN := hid (note_old b n1 S1 f1 k y w1 hL hk (by rw [hf1]; rfl))
    have Hf1 := hid hf1
    clear hf1
    go_wp2_with fail
    refine hN.out.mono ?_
    rintro e w2 ⟨rfl, rfl⟩
    go_wp2_with fail
    refine (hg1.out _ _ _ _ hL).mono ?_
    rw [Hf1.out]
    rintro e w3 ⟨rfl, rfl⟩
    go_wp2
    go_ret
    exact ⟨y, S1, n1, f1, w1, HX.out, .inl ⟨v, Hf1.out, rfl, rfl⟩⟩

end Go.Proofs.YthdapdmpbbabcaaDoor.LogS
