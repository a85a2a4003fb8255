/-
  shape.moves: a map from the kinds to where a transaction must stand and what is then done.
-/
import Derived.Test.YtgfmlaflochffaaGreatDoorMapGZ
import Derived.Test.YtgfmlaflochffaaGreatDoorPMemZ
import Derived.Carry
namespace Go.Proofs.YtgfmlaflochffaaGreatDoor
open Go.RowKit Go.Maps Go.ChangeShapes Go.WideShapes W
attribute [local go_sem ↓] Go.wp_at_zero Go.wp_at_succ

abbrev tMv : TypeId := 117
abbrev tMove : TypeId := 116
def fromOf (kind : Int) : List Int := if kind = 2 ∨ kind = 4 ∨ kind = 7 then [1] else if kind = 3 then [2] else if kind = 5 then [3] else if kind = 6 then [1, 2, 3, 4] else []
/-- What is done at an event of this kind. -/
def DoV (L : Nat) (W : World) (kind : Int) (v : Value) : Prop :=
  kind = 2 ∧ v = .func (.func 54) #[] #[] ∨ kind = 3 ∧ v = .func (.func 55) #[] #[] ∨ kind = 4 ∧ v = .func (.func 57) #[] #[] ∨ kind = 7 ∧ v = .func (.func 58) #[] #[] ∨
    (kind = 5 ∨ kind = 6) ∧ ∃ c, v = .func (.func 53) #[] #[.pointer (some ⟨c, 0, none⟩)] ∧ L ≤ c ∧ Blk W c 3 #[.int .i64 (if kind = 5 then 3 else 4)]
def MvAt (L : Nat) (W : World) (v : Value) (kind : Int) : Prop :=
  ∃ q fn, v = .agg #[.slice (some ⟨q, 0, none⟩) (fromOf kind).length (fromOf kind).length, fn] ∧ L ≤ q ∧ Blk W q 3 ((fromOf kind).map fun x => Value.int .i64 x).toArray ∧ DoV L W kind fn
structure Mvs (w W : World) (b : Nat) (ks : List Int) : Prop where
  le : w.heap.size ≤ b
  below : Below w.heap.size w W
  map : ∃ n f, n < 50 + ks.length ∧ MapG W b n f ∧ ∀ kind ∈ ks, ∃ v, f kind = some v ∧ MvAt w.heap.size W v kind
theorem Blk.turn {W W' : World} {q b : Nat} {t : TypeId} {cs : Array Value} {n : Nat} {f : Int → Option Value} (h : Blk W q t cs) (hm : MapG W b n f) (ht : W.mapTurned W' b) : Blk W' q t cs := by
  obtain ⟨es, c, hb⟩ := hm.obj
  refine h.grown ht.grown (fun e => ?_)
  injection e with e
  subst e
  unfold Blk at h
  rw [h] at hb
  cases hb
theorem MvAt.call {L : Nat} {W W' : World} {v : Value} {kind : Int} (h : MvAt L W v kind) (hb : Below W.heap.size W W') : MvAt L W' v kind := by
  obtain ⟨q, fn, h1, h2, h3, h4⟩ := h
  refine ⟨q, fn, h1, h2, h3.below hb h3.lt, ?_⟩
  rcases h4 with h | h | h | h | ⟨hk, c, e, hc, hB⟩
  · exact .inl h
  · exact .inr (.inl h)
  · exact .inr (.inr (.inl h))
  · exact .inr (.inr (.inr (.inl h)))
  · exact .inr (.inr (.inr (.inr ⟨hk, c, e, hc, hB.below hb hB.lt⟩)))
theorem MvAt.turn {L : Nat} {W W' : World} {v : Value} {kind : Int} {b n : Nat} {f : Int → Option Value} (h : MvAt L W v kind) (hm : MapG W b n f) (ht : W.mapTurned W' b) : MvAt L W' v kind := by
  obtain ⟨q, fn, h1, h2, h3, h4⟩ := h
  refine ⟨q, fn, h1, h2, h3.turn hm ht, ?_⟩
  rcases h4 with h | h | h | h | ⟨hk, c, e, hc, hB⟩
  · exact .inl h
  · exact .inr (.inl h)
  · exact .inr (.inr (.inl h))
  · exact .inr (.inr (.inr (.inl h)))
  · exact .inr (.inr (.inr (.inr ⟨hk, c, e, hc, hB.turn hm ht⟩)))
theorem Mvs.start (w : World) : Mvs w (w.alloc (.map #[] 0)) w.heap.size [] :=
  ⟨Nat.le_refl _, (Below.refl _ _).alloc (Nat.le_refl _) _, 0, noneG, by simp, MapG.made w, fun _ h => by cases h⟩
theorem Mvs.call {w W W' : World} {b : Nat} {ks : List Int} (h : Mvs w W b ks) (hb : Below W.heap.size W W') : Mvs w W' b ks := by
  obtain ⟨h1, h2, n, f, hn, hm, hf⟩ := h
  exact ⟨h1, h2.trans (hb.mono h2.size), n, f, hn, hm.call hb, fun kind hk => by obtain ⟨v, e, hv⟩ := hf kind hk; exact ⟨v, e, hv.call hb⟩⟩
theorem Mvs.alloc {w W : World} {b : Nat} {ks : List Int} (h : Mvs w W b ks) (o : Obj) : Mvs w (W.alloc o) b ks := h.call ((Below.refl _ _).alloc (Nat.le_refl _) o)
theorem underMv : Tryz.prog.underlying tMv = some (.map 3 tMove) := Tryz.underlying117
theorem Mvs.put {w W : World} {b : Nat} {ks : List Int} (h : Mvs w W b ks) {k : Int} (hk : 1 ≤ k ∧ k ≤ 7) (hks : ks.length ≤ 10) (v : Value) (hv : MvAt w.heap.size W v k) :
    ∃ w', (Instr.mapUpdate tMv (.map (some b)) (.int .i64 k) v).run Tryz.prog W = .ok () w' ∧ Mvs w w' b (k :: ks) := by
  obtain ⟨h1, h2, n, f, hn, hm, hf⟩ := h
  obtain ⟨w', hrun, hm', ht⟩ := hm.put (k := k) underMv (by unfold maxLen; omega) (by omega) (by omega) v
  refine ⟨w', hrun, h1, h2.grown ht.grown h2.size (fun q hq => by cases hq; exact h1), n + 1, _, by simp; omega, hm', fun kind hkind => ?_⟩
  unfold updG
  by_cases e : kind = k
  · subst e
    exact ⟨v, if_pos rfl, hv.turn hm ht⟩
  · obtain ⟨v', e', hv'⟩ := hf kind (by simpa [e] using hkind)
    exact ⟨v', by rw [if_neg e]; exact e', hv'.turn hm ht⟩
theorem wpList_mv {w W : World} {ops : Array Oper} {rest : List Oper} {o : Oper} {a : Act} {Q : Exit → Act → World → Prop} (hg : o.guard = none) (m x v : Operand) (hop : o.op = Op.insert tMv m x v) (b : Nat) (k : Int) (val : Value)
    (hm : a.eval m = .map (some b)) (hx : a.eval x = .int .i64 k) (hv : a.eval v = val) {ks : List Int} (h : Mvs w W b ks) (hk : 1 ≤ k ∧ k ≤ 7) (hks : ks.length ≤ 10) (hat : MvAt w.heap.size W val k)
    (hK : ∀ w', Mvs w w' b (k :: ks) → wpList Tryz.prog ops Q rest (a.put o.dst undef) w') : wpList Tryz.prog ops Q (o :: rest) a W := by
  refine wpList_plain hg fun K' hK' => ?_
  obtain ⟨w', hrun, hm'⟩ := h.put hk hks val hat
  unfold Oper.wp
  simp [execOp, hop, hm, hx, hv, hrun, Result.andThen]
  exact hK' _ _ (hK w' hm')
theorem mvA {w W : World} {b : Nat} {ks : List Int} (h : Mvs w W b ks) (kind : Int) (F : Nat) (hk : kind = 2 ∧ F = 54 ∨ kind = 3 ∧ F = 55 ∨ kind = 4 ∧ F = 57 ∨ kind = 7 ∧ F = 58) {cs : Array Value} (hc : cs = ((fromOf kind).map fun x => Value.int .i64 x).toArray) {n q : Nat} (hn : n = (fromOf kind).length) (hq : q = W.heap.size) :
    MvAt w.heap.size (W.alloc (.cells cs 3)) (.agg #[.slice (some ⟨q, 0, none⟩) n n, .func (.func F) #[] #[]]) kind := by
  subst hc hn hq
  refine ⟨_, _, rfl, h.below.size, Blk.new W _ _, ?_⟩
  rcases hk with ⟨rfl, rfl⟩ | ⟨rfl, rfl⟩ | ⟨rfl, rfl⟩ | ⟨rfl, rfl⟩
  · exact .inl ⟨rfl, rfl⟩
  · exact .inr (.inl ⟨rfl, rfl⟩)
  · exact .inr (.inr (.inl ⟨rfl, rfl⟩))
  · exact .inr (.inr (.inr (.inl ⟨rfl, rfl⟩)))
theorem mvB {w W : World} {b c : Nat} {ks : List Int} (h : Mvs w W b ks) (kind st : Int) (hk : kind = 5 ∧ st = 3 ∨ kind = 6 ∧ st = 4) {cs : Array Value} (hc : cs = ((fromOf kind).map fun x => Value.int .i64 x).toArray) {n q : Nat} (hn : n = (fromOf kind).length) (hq : q = W.heap.size) (hc2 : c = W.heap.size + 1) :
    MvAt w.heap.size ((W.alloc (.cells cs 3)).alloc (.cells #[.int .i64 st] 3)) (.agg #[.slice (some ⟨q, 0, none⟩) n n, .func (.func 53) #[] #[.pointer (some ⟨c, 0, none⟩)]]) kind := by
  subst hc hn hq hc2
  have h9 := Blk.new (W.alloc (.cells ((fromOf kind).map fun x => Value.int .i64 x).toArray 3)) 3 #[.int .i64 st]
  rw [World.size_alloc] at h9
  refine ⟨_, _, rfl, h.below.size, (Blk.new W _ _).alloc _, ?_⟩
  rcases hk with ⟨rfl, rfl⟩ | ⟨rfl, rfl⟩
  · exact .inr (.inr (.inr (.inr ⟨.inl rfl, _, rfl, by have := h.below.size; omega, h9⟩)))
  · exact .inr (.inr (.inr (.inr ⟨.inr rfl, _, rfl, by have := h.below.size; omega, h9⟩)))
theorem endMake (st : Int) (w : World) : Calls Tryz.prog 52 #[.int .i64 st] w fun e w' => e = .returned (.func (.func 53) #[] #[.pointer (some ⟨w.heap.size, 0, none⟩)]) ∧ w' = w.alloc (.cells #[.int .i64 st] 3) := by
  go_enter Tryz.func52, Tryz.ntmps52
  go_wp2
  go_ret
  exact ⟨rfl, rfl⟩
set_option maxHeartbeats 4000000 in
set_option maxRecDepth 100000 in
theorem movesCall (w : World) : Calls Tryz.prog 44 #[] w fun e w' => ∃ b, e = .returned (.map (some b)) ∧ Mvs w w' b [6, 5, 7, 4, 3, 2] := by
  have HM := hid (Mvs.start w)
  have hmm := @run_makeMap Tryz.prog
  go_enter Tryz.func44, Tryz.ntmps44
  go_wp2_with (refine wpList_mv rfl _ _ _ rfl _ _ _ rfl rfl rfl (HM.out.alloc _) (by omega) (by simp) (by first | exact mvA HM.out 2 _ (by simp) rfl rfl (by simp) | exact mvA HM.out 3 _ (by simp) rfl rfl (by simp) | exact mvA HM.out 4 _ (by simp) rfl rfl (by simp) | exact mvA HM.out 7 _ (by simp) rfl rfl (by simp)) ?_; intro w' h'; replace HM := hid h'; clear h')
  refine (endMake _ _).mono ?_
  rintro e w1 ⟨rfl, rfl⟩
  go_wp2_with (refine wpList_mv rfl _ _ _ rfl _ _ _ rfl rfl rfl ((HM.out.alloc _).alloc _) (by omega) (by simp) (mvB HM.out 5 3 (by simp) rfl rfl (by simp) (by simp)) ?_; intro w' h'; replace HM := hid h'; clear h')
  refine (endMake _ _).mono ?_
  rintro e w1 ⟨rfl, rfl⟩
  go_wp2_with (refine wpList_mv rfl _ _ _ rfl _ _ _ rfl rfl rfl ((HM.out.alloc _).alloc _) (by omega) (by simp) (mvB HM.out 6 4 (by simp) rfl rfl (by simp) (by simp)) ?_; intro w' h'; replace HM := hid h'; clear h')
  go_ret
  exact ⟨_, rfl, HM.out⟩
end Go.Proofs.YtgfmlaflochffaaGreatDoor
