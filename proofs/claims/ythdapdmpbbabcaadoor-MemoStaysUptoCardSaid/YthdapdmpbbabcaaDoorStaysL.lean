/-
  The caller's state beside a set of texts: what Place, Has, Len, Room, Add give there.
-/
import Derived.Test.YthdapdmpbbabcaaDoorFirst
import Derived.Test.YthdapdmpbbabcaaDoorStS
namespace Go.Proofs.YthdapdmpbbabcaaDoor.SetS
open Go.RowKit Go.Maps

section
variable {w W : World} {L : List (Nat × Obj)} {b bm M : Nat} {msl : Value} {m : List Int} {q : List ByteArray}
/-- A contract that only draws, as a drawn region wants it. -/
theorem quiet_more {P : Program} {f : FuncId} {args : Array Value} {w : World} {n : Nat} {v : Value}
    (h : Calls P f args (w.drewN n) fun e w' => e = .returned v ∧ ∃ k, w' = (w.drewN n).drewN k) : Calls P f args (w.drewN n) fun e w'' => e = .returned v ∧ ∃ m, w'' = w.drewN m :=
  h.mono fun _ _ ⟨he, k, hm⟩ => ⟨he, n + k, by rw [hm, World.drewN_drewN]⟩
theorem quiet_add {P : Program} {f : FuncId} {args : Array Value} {w : World} {a n : Nat} {v : Value}
    (h : Calls P f args (w.drewN (a + n)) fun e w' => e = .returned v ∧ ∃ m, w' = (w.drewN (a + n)).drewN m) : Calls P f args (w.drewN (a + n)) fun e w'' => e = .returned v ∧ ∃ m, w'' = w.drewN (a + m) :=
  h.mono fun _ _ ⟨he, m, hm⟩ => ⟨he, n + m, by rw [hm, World.drewN_drewN, Nat.add_assoc]⟩
theorem quiet_left {P : Program} {f : FuncId} {args : Array Value} {w : World} {v : Value} (h : Calls P f args w fun e w' => e = .returned v ∧ w = w') : Calls P f args w fun e w'' => e = .returned v ∧ ∃ m, w'' = w.drewN m :=
  h.mono fun _ _ ⟨he, hm⟩ => ⟨he, 0, hm.symm⟩
theorem neq_nil (a : Addr) (w : World) : (binOp .neq 46 (.iface 77 (.pointer (some a))) .nilIface).run Tryd.prog w = .ok (.bool true) w := by
  simp only [binOp]
  simp [Op.equal, Op.maxDepth, go_sem]
  try kernel_rfl
theorem St.le (h : St w L b bm M msl m q W) : q.length ≤ M := by
  obtain ⟨S, ⟨_, _, _, _, _, h1, _⟩, _⟩ := h.set
  exact h1
theorem St.place (h : St w L b bm M msl m q W) (k : ByteArray) (hk : KeyOk k) (n : Nat) : Calls Tryd.prog 28 #[.pointer (some ⟨b, 0, none⟩), .string k] (W.drewN n) fun e w' => e = .returned (.tuple #[.int .i64 ((plc q k).getD 0), .bool (decide (k ∈ q))]) ∧ ∃ m, w' = (W.drewN n).drewN m := by
  obtain ⟨S, h1, _⟩ := (h.drewN n).set
  exact quiet_left (SetS.place b M S q k _ h1 hk)
theorem St.has (h : St w L b bm M msl m q W) (k : ByteArray) (hk : KeyOk k) (n : Nat) : Calls Tryd.prog 32 #[.pointer (some ⟨b, 0, none⟩), .string k] (W.drewN n) fun e w' => e = .returned (.bool (decide (k ∈ q))) ∧ ∃ m, w' = (W.drewN n).drewN m := by
  obtain ⟨S, h1, _⟩ := (h.drewN n).set
  exact quiet_left (SetS.has b M S q k _ h1 hk)
theorem St.place0 (h : St w L b bm M msl m q W) (k : ByteArray) (hk : KeyOk k) : Calls Tryd.prog 28 #[.pointer (some ⟨b, 0, none⟩), .string k] W fun e w' => e = .returned (.tuple #[.int .i64 ((plc q k).getD 0), .bool (decide (k ∈ q))]) ∧ W = w' := by
  obtain ⟨S, h1, _⟩ := h.set
  exact SetS.place b M S q k _ h1 hk
theorem St.has0 (h : St w L b bm M msl m q W) (k : ByteArray) (hk : KeyOk k) : Calls Tryd.prog 32 #[.pointer (some ⟨b, 0, none⟩), .string k] W fun e w' => e = .returned (.bool (decide (k ∈ q))) ∧ W = w' := by
  obtain ⟨S, h1, _⟩ := h.set
  exact SetS.has b M S q k _ h1 hk
theorem St.lenQ (h : St w L b bm M msl m q W) (n : Nat) : Calls Tryd.prog 27 #[.pointer (some ⟨b, 0, none⟩)] (W.drewN n) fun e w' => e = .returned (.int .i64 (q.length : Int)) ∧ ∃ m, w' = (W.drewN n).drewN m := by
  obtain ⟨S, h1, _⟩ := (h.drewN n).set
  exact quiet_left (SetS.len b M S q _ h1)
theorem St.room (h : St w L b bm M msl m q W) (hM9 : (M : Int) ≤ 9223372036854775807) (r : Int) (hr : r = (M : Int) - (q.length : Int)) (n : Nat) : Calls Tryd.prog 30 #[.pointer (some ⟨b, 0, none⟩)] (W.drewN n) fun e w' => e = .returned (.int .i64 r) ∧ ∃ m, w' = (W.drewN n).drewN m := by
  obtain ⟨S, h1, _⟩ := (h.drewN n).set
  subst hr
  exact (SetS.room b M S q _ h1 hM9)
theorem St.add_old (h : St w L b bm M msl m q W) (k : ByteArray) (hk : KeyOk k) (hin : k ∈ q) (n : Nat) : Calls Tryd.prog 29 #[.pointer (some ⟨b, 0, none⟩), .string k] (W.drewN n) fun e w' => e = .returned (.tuple #[.bool false, .nilIface]) ∧ ∃ m, w' = (W.drewN n).drewN m := by
  obtain ⟨S, h1, _⟩ := (h.drewN n).set
  exact quiet_left (SetS.add_old b M S q k _ h1 hk hin)
theorem St.add_full (h : St w L b bm M msl m q W) (h0 : 0 < w.heap.size) (ev : Value) (he : w.cell? ⟨0, 0, none⟩ = some ev) (k : ByteArray) (hk : KeyOk k) (hin : k ∉ q) (hf : q.length = M) (n : Nat) : Calls Tryd.prog 29 #[.pointer (some ⟨b, 0, none⟩), .string k] (W.drewN n) fun e w' => e = .returned (.tuple #[.bool false, ev]) ∧ ∃ m, w' = (W.drewN n).drewN m := by
  obtain ⟨S, h1, _⟩ := (h.drewN n).set
  exact (SetS.add_full b M S q k ev _ h1 hk hin hf (((h.drewN n).below.cell (p := ⟨0, 0, none⟩) h0).trans he))
theorem St.add_new (h : St w L b bm M msl m q W) (k : ByteArray) (hk : KeyOk k) (hin : k ∉ q) (hf : q.length < M) (hq : q.length ≤ 1000000) : Calls Tryd.prog 29 #[.pointer (some ⟨b, 0, none⟩), .string k] W fun e w' => e = .returned (.tuple #[.bool true, .nilIface]) ∧ St w L b bm M msl m (q ++ [k]) w' := by
  obtain ⟨S, h1, h2, h3, h4, h5⟩ := h.set
  refine (SetS.add_keep b M S q k W h1 hk hin hf hq).mono ?_
  rintro e W' ⟨rfl, S', g1, hO, g2, g3, g4⟩
  refine ⟨rfl, ⟨S', g1, g3.trans h2, ?_, ?_, ?_⟩, ?_, h.nodup, row_only h.row hO h5, below_only h.below hO h.below.size h3⟩
  · intro x hx
    rcases g2 x hx with hx | hx
    · exact h3 x hx
    · have := h.below.size
      omega
  · intro p hp hm
    rcases g2 _ hm with hx | hx
    · exact h4 p hp hx
    · have := h.lt hp
      omega
  · intro g e hm
    rcases g2 _ hm with hx | hx
    · exact h5 g e hx
    · have := (row_own h.row e).2
      omega
  · intro p hp
    exact ⟨(hO.block p.1 (h.lt hp) (h4 p hp)).trans (h.objs p hp).1, (h.objs p hp).2⟩
end
end Go.Proofs.YthdapdmpbbabcaaDoor.SetS
