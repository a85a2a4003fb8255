/-
  append to a slice of the call's own, whatever the source reads as (nil, empty or not).
-/
import Derived.Test.YtdfkegflnebckaaDoorFirst
import Derived.Laws.AppendOwnNone
namespace Go.Proofs.YtdfkegflnebckaaDoor
open Go.RowKit Go.Maps W

theorem wpList_append_reads {P : Program} {w : World} {ops : Array Oper} {rest : List Oper} {o : Oper} {a : Act} {Q : Exit → Act → World → Prop} (hgd : o.guard = none) (s x : Operand) (t : TypeId)
    (ho : o.op = .call { callee := .builtin .append, args := #[s, x], argTypes := #[t, t] })
    (base : Nat) (e : TypeId) (i : TypeInfo) (z : Value) (bytes : Nat) (ht : P.underlying t = some (.slice e)) (hi : P.info? e = some i) (hz : i.zero = some z)
    (hsize : i.size = 1) (hby : i.bytes = bytes) (hzs : z.cells.size = 1)
    (v : Value) (n : Nat) (xs : List Value) (hs : a.eval s = v) (hown : w.ownsRow base e 1 v n xs) (news : List Value) (xv : Value) (hx : a.eval x = xv) (hr : Reads w xv news) (h1 : ∀ u ∈ news, u.oneCell' = true)
    (h63 : n + news.length ≤ maxLen) (hbytes : (n + news.length) * bytes ≤ 140737488355328) (hbase : base ≤ w.heap.size)
    (h : ∀ v' w', w'.ownsRow base e 1 v' (n + news.length) (xs ++ news) → w.grownBy w' v.ownBlock → wpList P ops Q rest (a.put o.dst v') w') : wpList P ops Q (o :: rest) a w := by
  obtain ⟨A, c, b, o', rfl, hA, hA2, hc, hcells⟩ := hr
  cases A with
  | none =>
    obtain ⟨h0, rfl⟩ := hA rfl
    obtain rfl : news = [] := List.eq_nil_of_length_eq_zero h0
    exact wpList_append_own_none hgd s x t ho base e i 1 ht hi v n xs hs hown hx (h v w (by simpa using hown) (World.grownBy.refl _ _))
  | some ad =>
    refine wpList_append_own w hgd s x t ho base e i z 1 bytes ht hi hz hsize hby hzs (by decide) v n xs hs hown ad news.length c news hx (by simp) (fun j u hj => ?_) h1 h63 hbytes hbase (fun v' w' h2 h3 _ => h v' w' h2 h3)
    rw [hA2 ad rfl (by have := (List.getElem?_eq_some_iff.1 hj).1; omega), Addr.add_lit]
    exact hcells j u hj
theorem eq_nil (a : Addr) (w : World) : (binOp .eql 30 (.iface 162 (.pointer (some a))) .nilIface).run Tryd.prog w = .ok (.bool false) w := by
  simp only [binOp]
  simp [Op.equal, Op.maxDepth, go_sem]
  try kernel_rfl
theorem Reads.shape {w : World} {v : Value} {xs : List Value} (h : Reads w v xs) : ∃ A c, v = .slice A xs.length c := by
  obtain ⟨A, c, _, _, h, _⟩ := h
  exact ⟨A, c, h⟩
end Go.Proofs.YtdfkegflnebckaaDoor
