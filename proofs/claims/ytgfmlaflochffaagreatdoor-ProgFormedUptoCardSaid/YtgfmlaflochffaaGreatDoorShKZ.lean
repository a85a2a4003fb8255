/-
  What is done with a transaction at an answer: shape.moves' third function.
  What an event does with its transaction, in one word for all kinds but begin; and that shape.moves' function for the kind does just that.
-/
import Derived.Test.YtgfmlaflochffaaGreatDoorShDo2Z
import Derived.Deep.QuietTactic
import Derived.BigQuiet
namespace Go.Proofs.YtgfmlaflochffaaGreatDoor
open Go.RowKit Go.Maps W
attribute [local go_sem ↓] Go.wp_at_zero Go.wp_at_succ

theorem fits_of {op ret : Int} (h : fitsR op ret) : fitsOf op ret = true := by
  rcases h with ⟨rfl, rfl⟩ | ⟨rfl, rfl⟩ <;> rfl
theorem ddArr_len (d : Dd) : (ddArr d).toList.length = 8 := by simp [ddArr]
theorem flatD_last (dl : List Dd) (d d' : Dd) {r : Nat} {v : Value} (hr : r < 8) (h : (ddArr d').toList = (ddArr d).toList.set r v) : (flatD (dl ++ [d])).set (dl.length * 8 + r) v = flatD (dl ++ [d']) := by
  have h1 := fq_set (f := fun d => (ddArr d).toList) (n := 8) (fun a => ddArr_len a) hr (dl ++ [d]) dl.length d (by simp) h
  have e : (dl ++ [d]).set dl.length d' = dl ++ [d'] := by simp
  rw [e] at h1
  exact h1.symm
theorem deed_row {L : Nat} {Z : World} {q cap : Nat} {cur : Array Value} {dl : List Dd} {d d' : Dd} (hB : L ≤ q) (hcap : dl.length + 1 ≤ cap) (hmx : cap ≤ maxLen) (hsz : cur.size = cap * 8) (hcur : cur.toList.take ((dl.length + 1) * 8) = flatD (dl ++ [d])) {x y z : Value}
    (hd : (ddArr d').toList = (((ddArr d).toList.set 4 x).set 5 y).set 7 z) (hq : Blk Z q tDd (((cur.setIfInBounds (dl.length * 8 + 4) x).setIfInBounds (dl.length * 8 + 5) y).setIfInBounds (dl.length * 8 + 7) z)) :
    Z.ownsRow L tDd 8 (.slice (some ⟨q, 0, none⟩) (dl.length + 1) cap) (dl.length + 1) (flatD (dl ++ [d'])) := by
  have hx : flatD (dl ++ [d']) = (((flatD (dl ++ [d])).set (dl.length * 8 + 4) x).set (dl.length * 8 + 5) y).set (dl.length * 8 + 7) z := by
    simp only [flatD, List.flatMap_append, List.flatMap_cons, List.flatMap_nil, List.append_nil]
    have hl : (List.flatMap (fun d => (ddArr d).toList) dl).length = dl.length * 8 := fq_len (n := 8) (fun a => ddArr_len a) dl
    rw [hd]
    have e : ∀ (A B : List Value) (k : Nat) (v : Value), A.length = dl.length * 8 → (A ++ B).set (dl.length * 8 + k) v = A ++ B.set k v := fun A B k v h => by
      rw [List.set_append_right _ _ (by omega)]
      congr 2
      omega
    rw [e _ _ _ _ hl, e _ _ _ _ hl, e _ _ _ _ hl]
  refine ⟨?_, .inr ⟨q, cap, _, rfl, hB, hq, hcap, hmx, by simp [hsz], ?_⟩⟩
  · have hl : (flatD (dl ++ [d'])).length = (dl ++ [d']).length * 8 := fq_len (n := 8) (fun a => ddArr_len a) _
    simpa using hl
  · rw [hx, ← hcur]
    simp only [Array.toList_setIfInBounds, List.take_set]
theorem quiet_more4 {P : Program} {f : FuncId} {args : Array Value} {w : World} {a x : Nat} {v : Value}
    (h : Calls P f args (w.drewN (a + x)) fun e w' => e = .returned v ∧ w' = w.drewN (a + x)) : Calls P f args (w.drewN (a + x)) fun e w'' => e = .returned v ∧ ∃ n, w'' = w.drewN (a + n) :=
  h.mono fun _ _ ⟨he, hm⟩ => ⟨he, x, hm⟩
set_option linter.unusedSimpArgs false in
set_option maxHeartbeats 8000000 in
set_option maxRecDepth 100000 in
theorem do3 {L : Nat} {W : World} {s : St} {b : Nat} {vd : Value} (h : StAt L W s ⟨b, vd⟩) (hn : s.deeds.length ≤ 1000) (e : Ev) (n : Int) {dl : List Dd} {d : Dd} (hd : s.deeds = dl ++ [d]) (hf : fitsR d.op e.ret) :
    Calls Tryz.prog 55 #[.pointer (some ⟨b, 0, none⟩), .agg (evArr e), .int .i64 n] W fun r w' => DoPost L W b vd { s with stand := 1, deeds := dl ++ [{ d with ret := e.ret, got := e.val, back := n }] } r w' := by
  have hlen : s.deeds.length = dl.length + 1 := by rw [hd]; simp
  obtain ⟨q, cap, cur, hvd, hB, hq, hcap, hmx, hsz, hcur⟩ : ∃ q cap cur, vd = .slice (some ⟨q, 0, none⟩) (dl.length + 1) cap ∧ L ≤ q ∧ W.heap[q]? = some (.cells cur tDd (0, 0)) ∧ dl.length + 1 ≤ cap ∧ cap ≤ maxLen ∧ cur.size = cap * 8 ∧ cur.toList.take ((dl.length + 1) * 8) = flatD s.deeds := by
    have hr := h.row
    rw [hlen] at hr
    rcases hr.2 with ⟨hx, h0⟩ | ⟨q, cap, cur, hx, hB, hq, r1, r2, r3, r4⟩
    · omega
    · exact ⟨q, cap, cur, hx, hB, hq, r1, r2, r3, r4⟩
  have hblk : Blk W q tDd cur := hq
  have hcell : ∀ r, r < 8 → W.cell? ⟨q, dl.length * 8 + r, none⟩ = (ddArr d)[r]? := fun r hr => by
    have h1 := fq_at (f := fun d => (ddArr d).toList) (n := 8) (fun a => ddArr_len a) s.deeds dl.length d (by rw [hd]; simp) r hr
    rw [hblk.cell, ← Array.getElem?_toList]
    have h2 : (cur.toList.take ((dl.length + 1) * 8))[dl.length * 8 + r]? = cur.toList[dl.length * 8 + r]? := List.getElem?_take_of_lt (by omega)
    rw [← h2, hcur]
    simpa [flatD] using h1
  have hfz : ∀ r, W.frozen? ⟨q, dl.length * 8 + r, none⟩ = false := fun r => hblk.frozen _
  have x1 : W.cell? ⟨q, dl.length * 8 + 1, none⟩ = some (.int .i64 d.op) := hcell 1 (by omega)
  have x4 : W.cell? ⟨q, dl.length * 8 + 4, none⟩ = some (.int .i64 d.ret) := hcell 4 (by omega)
  have x5 : W.cell? ⟨q, dl.length * 8 + 5, none⟩ = some (.int .i64 d.got) := hcell 5 (by omega)
  have x7 : W.cell? ⟨q, dl.length * 8 + 7, none⟩ = some (.int .i64 d.back) := hcell 7 (by omega)
  have z4 := hfz 4
  have z5 := hfz 5
  have z7 := hfz 7
  subst hvd
  have c7 := h.blk.cell 7
  have f7 := h.blk.frozen 7
  have c6 : W.cell? ⟨b, 6, none⟩ = some (.slice (some ⟨q, 0, none⟩) (dl.length + 1) cap) := h.blk.cell 6
  have lb : b < W.heap.size := h.blk.lt
  have lq := hblk.lt
  have hbq : b ≠ q := h.blk.apart hblk (by decide)
  have H := hid h
  have HD := hid hd
  have HQ := hid hblk
  have HC := hid hcur
  have hF := fun w => fitsCall d.op e.ret w
  rw [fits_of hf] at hF
  have HF := hid (fun w => (hF w).mono (R' := fun r w' => r = .returned (.bool true) ∧ w' = w) (fun _ _ h9 => ⟨h9.1, h9.2.symm⟩))
  have HL := hid (show dl.length ≤ 1000 by omega)
  clear hF h hd hf hlen hq hblk hcell hfz hcur
  simp only [stArr] at c7
  have hl3 : dl.length ≤ 1000 := by have := HL.out; omega
  have i0 : (0 : Int) ≤ (dl.length : Int) := by omega
  have i1 : (dl.length : Int) < ((dl.length : Int) + 1) := by omega
  have hw1 : IntKind.i64.wrap (dl.length : Int) = (dl.length : Int) := by rw [IntKind.wrap_i64]; omega
  unfold evArr
  go_enter Tryz.func55, Tryz.ntmps55
  go_wp2_with fail
  go_quiet (fail)
  go_wp2_with fail
  have hS : StAt L ((W.alloc (.cells #[.int .i64 e.kind, .int .i64 e.tx, .int .i64 e.thr, .int .i64 e.obj, .int .i64 e.op, .int .i64 e.key, .int .i64 e.val, .int .i64 e.ret] tEv)).drewN nq) s ⟨b, .slice (some ⟨q, 0, none⟩) (dl.length + 1) cap⟩ := ⟨H.out.le, (H.out.alloc _).blk, (H.out.alloc _).row⟩
  have hQ : Blk ((W.alloc (.cells #[.int .i64 e.kind, .int .i64 e.tx, .int .i64 e.thr, .int .i64 e.obj, .int .i64 e.op, .int .i64 e.key, .int .i64 e.val, .int .i64 e.ret] tEv)).drewN nq) q tDd cur := HQ.out.alloc _
  have hE : Blk ((W.alloc (.cells #[.int .i64 e.kind, .int .i64 e.tx, .int .i64 e.thr, .int .i64 e.obj, .int .i64 e.op, .int .i64 e.key, .int .i64 e.val, .int .i64 e.ret] tEv)).drewN nq) W.heap.size tEv #[.int .i64 e.kind, .int .i64 e.tx, .int .i64 e.thr, .int .i64 e.obj, .int .i64 e.op, .int .i64 e.key, .int .i64 e.val, .int .i64 e.ret] := Blk.new W tEv _
  have hO : Only (b :: q :: []) W ((W.alloc (.cells #[.int .i64 e.kind, .int .i64 e.tx, .int .i64 e.thr, .int .i64 e.obj, .int .i64 e.op, .int .i64 e.key, .int .i64 e.val, .int .i64 e.ret] tEv)).drewN nq) := ((Only.refl _ W).alloc _).drewN nq
  have y1 : ((W.alloc (.cells #[.int .i64 e.kind, .int .i64 e.tx, .int .i64 e.thr, .int .i64 e.obj, .int .i64 e.op, .int .i64 e.key, .int .i64 e.val, .int .i64 e.ret] tEv)).drewN nq).cell? ⟨q, dl.length * 8 + 1, none⟩ = some (.int .i64 d.op) := (HQ.out.alloc _).cell _ |>.trans ((HQ.out.cell _).symm.trans x1)
  have y4 : ((W.alloc (.cells #[.int .i64 e.kind, .int .i64 e.tx, .int .i64 e.thr, .int .i64 e.obj, .int .i64 e.op, .int .i64 e.key, .int .i64 e.val, .int .i64 e.ret] tEv)).drewN nq).cell? ⟨q, dl.length * 8 + 4, none⟩ = some (.int .i64 d.ret) := (HQ.out.alloc _).cell _ |>.trans ((HQ.out.cell _).symm.trans x4)
  have y5 : ((W.alloc (.cells #[.int .i64 e.kind, .int .i64 e.tx, .int .i64 e.thr, .int .i64 e.obj, .int .i64 e.op, .int .i64 e.key, .int .i64 e.val, .int .i64 e.ret] tEv)).drewN nq).cell? ⟨q, dl.length * 8 + 5, none⟩ = some (.int .i64 d.got) := (HQ.out.alloc _).cell _ |>.trans ((HQ.out.cell _).symm.trans x5)
  have y7 : ((W.alloc (.cells #[.int .i64 e.kind, .int .i64 e.tx, .int .i64 e.thr, .int .i64 e.obj, .int .i64 e.op, .int .i64 e.key, .int .i64 e.val, .int .i64 e.ret] tEv)).drewN nq).cell? ⟨q, dl.length * 8 + 7, none⟩ = some (.int .i64 d.back) := (HQ.out.alloc _).cell _ |>.trans ((HQ.out.cell _).symm.trans x7)
  generalize ((W.alloc (.cells #[.int .i64 e.kind, .int .i64 e.tx, .int .i64 e.thr, .int .i64 e.obj, .int .i64 e.op, .int .i64 e.key, .int .i64 e.val, .int .i64 e.ret] tEv)).drewN nq) = Y at hS hQ hE hO y1 y4 y5 y7 ⊢
  have s7 := hS.blk.cell 7
  have g7 := hS.blk.frozen 7
  have lY := hS.blk.lt
  have lQ := hQ.lt
  have lE := hE.lt
  have z4 := hQ.frozen (dl.length * 8 + 4)
  have z5 := hQ.frozen (dl.length * 8 + 5)
  have z7 := hQ.frozen (dl.length * 8 + 7)
  have e6 := hE.cell 6
  have e7 := hE.cell 7
  have hWb : b ≠ W.heap.size := by omega
  have hWq : q ≠ W.heap.size := by omega
  have hS := hid hS
  have hQ := hid hQ
  have hE := hid hE
  have hO := hid hO
  simp only [stArr] at s7
  clear x1 x4 x5 x7 c7 f7 c6 lq
  go_quiet ((go_at_call 56; first | exact quiet_more4 (HF.out _) | exact Calls.quiet_of_same (HF.out _)))
  go_wp2_with fail
  go_region_held3 (fun w' => w'.cell? ⟨W.heap.size, 7, none⟩ = some (.int .i64 e.ret) ∧ w'.cell? ⟨W.heap.size, 6, none⟩ = some (.int .i64 e.val)) (first | go_keep | (simp [*, World.cell?_setCell_far]; done)) (fail)
  go_wp2_with fail
  go_ret
  refine ⟨rfl, _, ⟨H.out.le, ?_, ?_⟩, .inl rfl, ?_⟩
  · have k := (((((hS.out.blk.drewN (nq + 1)).put 7 (.int .i64 1)).far (p := ⟨q, dl.length * 8 + 4, none⟩) hbq (.int .i64 e.ret)).far (p := ⟨q, dl.length * 8 + 5, none⟩) hbq (.int .i64 e.val)).far (p := ⟨q, dl.length * 8 + 7, none⟩) hbq (.int .i64 n))
    simpa [stArr] using k
  · show World.ownsRow _ L tDd 8 _ (dl ++ [({ d with ret := e.ret, got := e.val, back := n } : Dd)]).length _
    rw [show (dl ++ [({ d with ret := e.ret, got := e.val, back := n } : Dd)]).length = dl.length + 1 by simp]
    exact deed_row (d' := { d with ret := e.ret, got := e.val, back := n }) hB hcap hmx hsz (HC.out.trans (by rw [HD.out])) (by simp [ddArr]) (((((hQ.out.drewN (nq + 1)).far (p := ⟨b, 7, none⟩) (Ne.symm hbq) (.int .i64 1)).put (dl.length * 8 + 4) (.int .i64 e.ret)).put (dl.length * 8 + 5) (.int .i64 e.val)).put (dl.length * 8 + 7) (.int .i64 n))
  · exact ((((((hO.out.drewN (nq + 1)).setCell (p := ⟨b, 7, none⟩) (.inl (by simp)) _).setCell (p := ⟨q, dl.length * 8 + 4, none⟩) (.inl (by simp)) _).setCell (p := ⟨q, dl.length * 8 + 5, none⟩) (.inl (by simp)) _).setCell (p := ⟨q, dl.length * 8 + 7, none⟩) (.inl (by simp)) _))
end Go.Proofs.YtgfmlaflochffaaGreatDoor

namespace Go.Proofs.YtgfmlaflochffaaGreatDoor
open Go.RowKit Go.Maps W

/-- One event, that does not begin a transaction, turns one. -/
inductive KStep (n : Nat) (e : Ev) (s : St) : St → Prop
  | call : e.kind = 2 → s.stand = 1 → KStep n e s { s with stand := 2, deeds := s.deeds ++ [⟨e.obj, e.op, e.key, e.val, 0, 0, n, -1⟩] }
  | ret {dl : List Dd} {d : Dd} : e.kind = 3 → s.stand = 2 → s.deeds = dl ++ [d] → fitsR d.op e.ret → KStep n e s { s with stand := 1, deeds := dl ++ [{ d with ret := e.ret, got := e.val, back := n }] }
  | asks : e.kind = 4 → s.stand = 1 → KStep n e s { s with stand := 3, tri := n, status := 2 }
  | cancel : e.kind = 7 → s.stand = 1 → KStep n e s { s with stand := 4 }
  | ends : (e.kind = 5 ∧ s.stand = 3 ∨ e.kind = 6 ∧ (s.stand = 1 ∨ s.stand = 2 ∨ s.stand = 3 ∨ s.stand = 4)) → KStep n e s { s with stand := 5, fin := n, status := if e.kind = 5 then 3 else 4 }
theorem KStep.id {n : Nat} {e : Ev} {s s' : St} (h : KStep n e s s') : s'.id = s.id := by cases h <;> rfl
theorem KStep.thr {n : Nat} {e : Ev} {s s' : St} (h : KStep n e s s') : s'.thr = s.thr := by cases h <;> rfl
theorem KStep.from {n : Nat} {e : Ev} {s s' : St} (h : KStep n e s s') : s.stand ∈ fromOf e.kind := by
  unfold fromOf
  cases h with
  | call h1 h2 => simp [h1, h2]
  | ret h1 h2 => simp [h1, h2]
  | asks h1 h2 => simp [h1, h2]
  | cancel h1 h2 => simp [h1, h2]
  | ends h1 => rcases h1 with ⟨h1, h2⟩ | ⟨h1, h2⟩ <;> simp [h1, h2]
theorem KStep.kind {n : Nat} {e : Ev} {s s' : St} (h : KStep n e s s') : e.kind ∈ [(6 : Int), 5, 7, 4, 3, 2] := by
  cases h with
  | call h1 h2 => simp [h1]
  | ret h1 h2 => simp [h1]
  | asks h1 h2 => simp [h1]
  | cancel h1 h2 => simp [h1]
  | ends h1 => rcases h1 with ⟨h1, h2⟩ | ⟨h1, h2⟩ <;> simp [h1]
theorem KStep.five {n : Nat} {e : Ev} {s s' : St} (h : KStep n e s s') : s.stand ≠ 5 := by
  cases h with
  | call h1 h2 => rw [h2]; decide
  | ret h1 h2 => rw [h2]; decide
  | asks h1 h2 => rw [h2]; decide
  | cancel h1 h2 => rw [h2]; decide
  | ends h1 => rcases h1 with ⟨h1, h2⟩ | ⟨h1, h2 | h2 | h2 | h2⟩ <;> rw [h2] <;> decide
/-- An event that does not begin a transaction, taken. -/
theorem FStep.turn {A A' : Au} {e : Ev} (h : FStep A e A') (hk : e.kind ≠ 1) : ∃ (i : Nat) (s s' : St), A' = A.upd i s' ∧ A.sts[i]? = some s ∧ s.id = e.tx ∧ KStep A.many e s s' ∧ (s'.stand = 5 → ∀ (j : Nat) (x : St), A.sts[j]? = some x → x.thr = s.thr → x.stand ≠ 5 → j = i) := by
  cases h with
  | start h1 => exact absurd h1 hk
  | call h1 h2 h3 h4 => exact ⟨_, _, _, rfl, h2, h3, .call h1 h4, fun e => by simp at e⟩
  | ret h1 h2 h3 h4 h5 h6 => exact ⟨_, _, _, rfl, h2, h3, .ret h1 h4 h5 h6, fun e => by simp at e⟩
  | asks h1 h2 h3 h4 => exact ⟨_, _, _, rfl, h2, h3, .asks h1 h4, fun e => by simp at e⟩
  | cancel h1 h2 h3 h4 => exact ⟨_, _, _, rfl, h2, h3, .cancel h1 h4, fun e => by simp at e⟩
  | ends h1 h2 h3 h4 => exact ⟨_, _, _, rfl, h2, h3, .ends h1, fun _ => h4⟩
theorem enter54 (args : Array Value) (w : World) : (callFunc 54 args).run Tryz.prog w = .ok (.enter 54 args) w := by kernel_rfl
theorem enter55 (args : Array Value) (w : World) : (callFunc 55 args).run Tryz.prog w = .ok (.enter 55 args) w := by kernel_rfl
theorem enter57 (args : Array Value) (w : World) : (callFunc 57 args).run Tryz.prog w = .ok (.enter 57 args) w := by kernel_rfl
theorem enter58 (args : Array Value) (w : World) : (callFunc 58 args).run Tryz.prog w = .ok (.enter 58 args) w := by kernel_rfl
theorem enter53 (args : Array Value) (w : World) : (callFunc 53 args).run Tryz.prog w = .ok (.enter 53 args) w := by kernel_rfl
/-- The kind's function does it. -/
theorem doAny {L L2 : Nat} {Z : World} {n : Nat} {e : Ev} {s s' : St} {b : Nat} {vd fn v : Value} (hk : KStep n e s s') (hat : MvAt L2 Z (.agg #[v, fn]) e.kind) (hL : L ≤ Z.heap.size) (h : StAt L Z s ⟨b, vd⟩) (hn : s.deeds.length ≤ 1000) :
    ∃ F caps, fn = .func (.func F) #[] caps ∧ (∀ (args : Array Value) (w : World), (callFunc F args).run Tryz.prog w = .ok (.enter F args) w) ∧ Calls Tryz.prog F (#[.pointer (some ⟨b, 0, none⟩), .agg (evArr e), .int .i64 n] ++ caps) Z fun r w' => DoPost L Z b vd s' r w' := by
  obtain ⟨q, fn', e1, _, _, hd⟩ := hat
  obtain rfl : fn = fn' := by injection e1 with e1; injection e1 with e1; injection e1 with _ e1; injection e1
  have hk9 := hk
  cases hk with
  | call h1 h2 =>
    rw [h1] at hd
    rcases hd with ⟨_, rfl⟩ | ⟨k, _⟩ | ⟨k, _⟩ | ⟨k, _⟩ | ⟨k, _⟩
    · exact ⟨_, _, rfl, enter54, do2 h hL hn e n⟩
    all_goals exact absurd k (by decide)
  | ret h1 h2 h3 h4 =>
    rw [h1] at hd
    rcases hd with ⟨k, _⟩ | ⟨_, rfl⟩ | ⟨k, _⟩ | ⟨k, _⟩ | ⟨k, _⟩
    · exact absurd k (by decide)
    · exact ⟨_, _, rfl, enter55, do3 h hn e n h3 h4⟩
    all_goals exact absurd k (by decide)
  | asks h1 h2 =>
    rw [h1] at hd
    rcases hd with ⟨k, _⟩ | ⟨k, _⟩ | ⟨_, rfl⟩ | ⟨k, _⟩ | ⟨k, _⟩
    · exact absurd k (by decide)
    · exact absurd k (by decide)
    · exact ⟨_, _, rfl, enter57, do4 h e n⟩
    all_goals exact absurd k (by decide)
  | cancel h1 h2 =>
    rw [h1] at hd
    rcases hd with ⟨k, _⟩ | ⟨k, _⟩ | ⟨k, _⟩ | ⟨_, rfl⟩ | ⟨k, _⟩
    · exact absurd k (by decide)
    · exact absurd k (by decide)
    · exact absurd k (by decide)
    · exact ⟨_, _, rfl, enter58, do5 h e n⟩
    · exact absurd k (by decide)
  | ends h1 =>
    have hkk : e.kind = 5 ∨ e.kind = 6 := by rcases h1 with ⟨h1, _⟩ | ⟨h1, _⟩ <;> simp [h1]
    rcases hd with ⟨k, _⟩ | ⟨k, _⟩ | ⟨k, _⟩ | ⟨k, _⟩ | ⟨_, c, rfl, _, hB⟩
    · omega
    · omega
    · omega
    · omega
    · have h9 := do1 h e n (if e.kind = 5 then 3 else 4) hB
      exact ⟨_, _, rfl, enter53, h9⟩
end Go.Proofs.YtgfmlaflochffaaGreatDoor
