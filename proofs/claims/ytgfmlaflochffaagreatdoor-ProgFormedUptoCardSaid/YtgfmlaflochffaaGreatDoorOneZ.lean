/-
  umpireref.SameTexts; umpireref1.Silent. Bounds on lengths alone.
  word.Get: the number whose bytes come first, and how many they are; else an error that is not nil.
  The chapter's examples (umpirelaw1.first): true, in every memory in which the package variables hold what their texts lay.
  append to a slice of the call's own, whatever the source reads as (nil, empty or not).
  A new row of the call's own; a row behind a call that leaves all that was there. (The same two words stand in Next: a text imports the one or the other.)
  WordOne: for every two numbers, every text and every bytes the law answers true, and nothing that was there has turned.
-/
import Derived.Test.YtgfmlaflochffaaGreatDoorTextZ
import Derived.Test.YtgfmlaflochffaaGreatDoorEvAZ
import Derived.Laws.AppendOwnNone
import Derived.Lib.ItoaLen
import Derived.Deep.Cut
import Derived.Deep.CutRange
import Derived.Deep.DeepCutAuto
import Derived.Deep.RegionWith
import Derived.Deep.DrawnRows
namespace Go.Proofs.YtgfmlaflochffaaGreatDoor
open Go.RowKit Go.Maps W

theorem take_same {α : Type} {a b : List α} {k : Nat} {x : α} (h : a.take k = b.take k) (ha : a[k]? = some x) (hb : b[k]? = some x) : a.take (k + 1) = b.take (k + 1) := by
  rw [List.take_add_one, List.take_add_one, h, ha, hb]
theorem take_differ {α : Type} {a b : List α} {k : Nat} {x y : α} (ha : a[k]? = some x) (hb : b[k]? = some y) (hne : x ≠ y) : a ≠ b := by
  rintro rfl
  rw [ha] at hb
  injection hb with hb
  exact hne hb

theorem silent_drop (l : List UInt8) (k : Nat) (hk : ∀ j, j < k → l[j]? = some 32) : l.dropWhile (· == 32) = (l.drop k).dropWhile (· == 32) := by
  induction k generalizing l with
  | zero => simp
  | succ k ih =>
    cases l with
    | nil => simp
    | cons c r =>
      obtain rfl : c = 32 := by have := hk 0 (by omega); simpa using this
      rw [List.dropWhile_cons_of_pos (by decide), List.drop_succ_cons]
      exact ih r (fun j hj => by have := hk (j + 1) (by omega); simpa using this)

end Go.Proofs.YtgfmlaflochffaaGreatDoor

namespace Go.Proofs.YtgfmlaflochffaaGreatDoor
open Go.RowKit Go.Maps W

/-- What Get answers. -/
def GetIs (l : List UInt8) (r : Value) : Prop :=
  match vget l with
  | .ok u k => r = .tuple #[.int .i64 (zag u), .int .i64 (k : Int), .nilIface]
  | _ => ∃ a, r = .tuple #[.int .i64 0, .int .i64 0, .iface 172 (.pointer (some a))]

def Bad (k x : Nat) : Prop := (k = 9 ∧ 1 < x) ∨ (0 < k ∧ x = 0)
theorem vg_drop {l : List UInt8} {k : Nat} {ch : UInt8} (h : l[k]? = some ch) : l.drop k = ch :: l.drop (k + 1) := by
  obtain ⟨hlt, rfl⟩ := List.getElem?_eq_some_iff.1 h
  exact List.drop_eq_getElem_cons hlt
theorem vg_ok {l : List UInt8} {k a : Nat} {ch : UInt8} (hg : vgo k a (l.drop k) = vget l) (h : l[k]? = some ch) (hb : ¬ Bad k ch.toNat) (h1 : ch.toNat < 128) : vget l = .ok (a + ch.toNat % 128 * 128 ^ k) (k + 1) := by
  unfold Bad at hb
  rw [← hg, vg_drop h, vgo, if_neg hb, if_pos h1, show ch.toNat % 128 = ch.toNat by omega]
theorem vg_next {l : List UInt8} {k a : Nat} {ch : UInt8} (hg : vgo k a (l.drop k) = vget l) (h : l[k]? = some ch) (hb : ¬ Bad k ch.toNat) (h1 : ¬ ch.toNat < 128) : vgo (k + 1) (a + ch.toNat % 128 * 128 ^ k) (l.drop (k + 1)) = vget l := by
  unfold Bad at hb
  rw [← hg, vg_drop h, vgo, if_neg hb, if_neg h1]
theorem vg_long {l : List UInt8} {k a : Nat} {ch : UInt8} (hg : vgo k a (l.drop k) = vget l) (h : l[k]? = some ch) (hb : Bad k ch.toNat) : vget l = .long := by
  unfold Bad at hb
  rw [← hg, vg_drop h, vgo, if_pos hb]
theorem vg_end {l : List UInt8} {a k : Nat} (hg : vgo k a (l.drop k) = vget l) (h : l.length ≤ k) : vget l = .ends := by
  rw [← hg, List.drop_of_length_le h, vgo]
theorem zag_odd {u : Nat} (h : u % 2 = 1) : zag u = -((u : Int) / 2) - 1 := by unfold zag; rw [if_pos h]; omega
theorem zag_even {u : Nat} (h : ¬ u % 2 = 1) : zag u = (u : Int) / 2 := by unfold zag; rw [if_neg h]; omega

end Go.Proofs.YtgfmlaflochffaaGreatDoor

namespace Go.Proofs.YtgfmlaflochffaaGreatDoor
open Go.RowKit Go.Maps W

theorem itoa5 : Lib.itoa (-5) = [45, 53] := by
  unfold Lib.itoa
  rw [if_pos (by decide), Lib.decDigits, dif_pos (by decide)]
  rfl
theorem itoa7' : Lib.itoa 7 = [55] := by
  unfold Lib.itoa
  rw [if_neg (by decide), Lib.decDigits, dif_pos (by decide)]
  rfl
theorem itoa7 : Lib.itoa (-7) = [45, 55] := by
  unfold Lib.itoa
  rw [if_pos (by decide), Lib.decDigits, dif_pos (by decide)]
  rfl
theorem num5 : number [45, 53] = some (-5) := by
  have h := number_itoa (-5) (by decide) (by decide)
  rw [itoa5, if_pos (by decide)] at h
  exact h
theorem num007 : number [48, 48, 55] = none := by
  unfold number
  have h : Lib.atoiAll [48, 48, 55] = .ok 7 := by decide
  rw [h]
  simp [itoa7']
theorem words1 : W.words [32, 32, 97, 32, 32, 98, 99, 32] = [[97], [98, 99]] := by decide
theorem vb128 : vb (zig 64) = [128, 1] := by
  have h : zig 64 = 128 := by decide
  rw [h, vb_big (by decide), vb_small (by decide)]
  rfl
theorem vb129 : (vb (zig (-65))).length = 2 := by
  have h : zig (-65) = 129 := by decide
  rw [h, vb_big (by decide), vb_small (by decide)]
  rfl
theorem vget128 : vget [128, 1, 7] = .ok 128 2 := by
  unfold vget
  simp [vgo]
theorem silent1 : silent [32, 35, 32, 120] = true := by decide
theorem join1 : Lib.join [[97], [98, 99]] [32] = [97, 32, 98, 99] := by decide

theorem reads_block {w : World} {g : Nat} {t : TypeId} {cs : Array Value} {fr : Nat × Nat} {n : Nat} (h : w.heap[g]? = some (.cells cs t fr)) (hn : n = cs.toList.length) : Reads w (.slice (some ⟨g, 0, none⟩) n n) cs.toList := by
  subst hn
  refine ⟨some ⟨g, 0, none⟩, cs.toList.length, g, 0, rfl, by simp, fun a ha _ => by injection ha with ha; exact ha.symm, Nat.le_refl _, fun j u hj => ?_⟩
  rw [Nat.zero_add, cell_of_row w g j cs t fr h]
  simpa using hj
theorem below_al {B : Nat} {w a b : World} {o : Obj} (h : Below B w a) (hB : B ≤ a.heap.size) (hb : Below (a.alloc o).heap.size (a.alloc o) b) : Below B w b :=
  (h.alloc hB o).trans (hb.mono (by simp; omega))
theorem Laid.of {w w' : World} (h : Laid w) (hb : Below w.heap.size w w') : Laid w' := h.below hb

end Go.Proofs.YtgfmlaflochffaaGreatDoor

namespace Go.Proofs.YtgfmlaflochffaaGreatDoor
open Go.RowKit Go.Maps W

theorem wpList_append_reads {P : Program} {w : World} {ops : Array Oper} {rest : List Oper} {o : Oper} {a : Act} {Q : Exit → Act → World → Prop} (hgd : o.guard = none) (s x : Operand) (t : TypeId)
    (ho : o.op = .call { callee := .builtin .append, args := #[s, x], argTypes := #[t, t] })
    (base : Nat) (e : TypeId) (i : TypeInfo) (z : Value) (bytes : Nat) (ht : P.underlying t = some (.slice e)) (hi : P.info? e = some i) (hz : i.zero = some z)
    (hsize : i.size = 1) (hby : i.bytes = bytes) (hzs : z.cells.size = 1)
    (v : Value) (n : Nat) (xs : List Value) (hs : a.eval s = v) (hown : w.ownsRow base e 1 v n xs) (news : List Value) (xv : Value) (hx : a.eval x = xv) (hr : Reads w xv news) (h1 : ∀ u ∈ news, u.oneCell' = true)
    (h63 : n + news.length ≤ maxLen) (hbytes : (n + news.length) * bytes ≤ 140737488355328) (hbase : base ≤ w.heap.size)
    (h : ∀ v' w', w'.ownsRow base e 1 v' (n + news.length) (xs ++ news) → w.grownBy w' v.ownBlock → wpList P ops Q rest (a.put o.dst v') w') : wpList P ops Q (o :: rest) a w := by
  obtain ⟨A, c, b, o', rfl, hA, hA2, hc, hcells⟩ := hr
  cases A with
  | none =>
    obtain ⟨h0, rfl⟩ := hA rfl
    obtain rfl : news = [] := List.eq_nil_of_length_eq_zero h0
    exact wpList_append_own_none hgd s x t ho base e i 1 ht hi v n xs hs hown hx (h v w (by simpa using hown) (World.grownBy.refl _ _))
  | some ad =>
    refine wpList_append_own w hgd s x t ho base e i z 1 bytes ht hi hz hsize hby hzs (by decide) v n xs hs hown ad news.length c news hx (by simp) (fun j u hj => ?_) h1 h63 hbytes hbase (fun v' w' h2 h3 _ => h v' w' h2 h3)
    rw [hA2 ad rfl (by have := (List.getElem?_eq_some_iff.1 hj).1; omega), Addr.add_lit]
    exact hcells j u hj
theorem eq_nil (a : Addr) (w : World) : (binOp .eql 31 (.iface 172 (.pointer (some a))) .nilIface).run Tryz.prog w = .ok (.bool false) w := by
  simp only [binOp]
  simp [Op.equal, Op.maxDepth, go_sem]
  try kernel_rfl
theorem Reads.shape {w : World} {v : Value} {xs : List Value} (h : Reads w v xs) : ∃ A c, v = .slice A xs.length c := by
  obtain ⟨A, c, _, _, h, _⟩ := h
  exact ⟨A, c, h⟩
end Go.Proofs.YtgfmlaflochffaaGreatDoor

namespace Go.Proofs.YtgfmlaflochffaaGreatDoor
open Go.RowKit Go.Maps W

theorem row_new {w : World} {cs : Array Value} {t : TypeId} {B size n : Nat} (hn : cs.size = n * size) (hB : B ≤ w.heap.size) (hm : n ≤ maxLen) : (w.alloc (.cells cs t)).ownsRow B t size (.slice (some ⟨w.heap.size, 0, none⟩) n n) n cs.toList :=
  ⟨by simpa using hn, .inr ⟨_, _, cs, rfl, hB, heap_alloc_new w _, Nat.le_refl _, hm, hn, by rw [← hn]; exact List.take_of_length_le (by simp)⟩⟩
theorem row_call {w w' : World} {B n size : Nat} {e : TypeId} {v : Value} {xs : List Value} (h : w.ownsRow B e size v n xs) (hb : Below w.heap.size w w') : w'.ownsRow B e size v n xs := row_only h (Only.of_below (S := []) hb (Nat.le_refl _)) (by simp)
end Go.Proofs.YtgfmlaflochffaaGreatDoor

namespace Go.Proofs.YtgfmlaflochffaaGreatDoor
open Go.RowKit Go.Maps W
attribute [local go_sem ↓] Go.wp_at_zero Go.wp_at_succ

theorem quiet_left {P : Program} {f : FuncId} {args : Array Value} {w : World} {n : Nat} {v : Value}
    (h : Calls P f args (w.drewN n) fun e w' => e = .returned v ∧ w.drewN n = w') : Calls P f args (w.drewN n) fun e w'' => e = .returned v ∧ ∃ m, w'' = w.drewN m :=
  h.mono fun _ _ ⟨he, hm⟩ => ⟨he, n, hm.symm⟩
theorem reads_take {w : World} {A : Option Addr} {n c : Nat} {l : List UInt8} (h : Reads w (.slice A n c) (bys l)) (k : Nat) (hk : k ≤ l.length) : Reads w (.slice A k c) (bys (l.take k)) := by
  obtain ⟨A', c', b, o, he, hA, hA2, hc, hcells⟩ := h
  injection he with e1 e2 e3
  subst e1 e3
  rw [bys_len] at e2 hA hA2 hc
  have hl : (bys (l.take k)).length = k := by simp [bys_len]; omega
  refine ⟨A, c, b, o, by rw [hl], fun h => ?_, fun a ha hp => hA2 a ha (by omega), by omega, fun j u hj => hcells j u ?_⟩
  · have := hA h
    omega
  · unfold bys at hj ⊢
    rw [List.map_take] at hj
    have hjk : j < k := by
      have := (List.getElem?_eq_some_iff.1 hj).1
      simp at this
      omega
    rwa [List.getElem?_take_of_lt hjk] at hj
theorem Reads.cap {w : World} {A : Option Addr} {n c : Nat} {xs : List Value} (h : Reads w (.slice A n c) xs) : n ≤ c := by
  obtain ⟨A', c', b, o, he, _, _, hc, _⟩ := h
  injection he with e1 e2 e3
  omega
theorem below_reads {B : Nat} {w w' : World} {v : Value} {xs : List Value} (hb : Below B w w') (hB : w.heap.size ≤ B) (h : Reads w v xs) : Reads w' v xs := h.below hb hB
theorem Reads.addr {w : World} {A : Option Addr} {n c : Nat} {xs : List Value} (h : Reads w (.slice A n c) xs) (h0 : 0 < xs.length) : ∃ b o, A = some ⟨b, o, none⟩ := by
  obtain ⟨A', c', b, o, he, hA, hA2, _, _⟩ := h
  injection he with e1 e2 e3
  subst e1
  cases A with
  | none => have := (hA rfl).1; omega
  | some a => exact ⟨b, o, by rw [hA2 a rfl h0]⟩
theorem Reads.drewN {w : World} {v : Value} {xs : List Value} (h : Reads w v xs) (n : Nat) : Reads (w.drewN n) v xs := h

end Go.Proofs.YtgfmlaflochffaaGreatDoor
