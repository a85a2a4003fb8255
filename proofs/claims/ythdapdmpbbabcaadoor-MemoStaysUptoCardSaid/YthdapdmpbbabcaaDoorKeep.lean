/-
  More plain words for memory: an append that keeps what lay in the old row; a caller's state beside a set, told as one word (for a loop over a function, whose body adds to the very set).
-/
import Derived.RangeFuncWrites
import Derived.Test.YthdapdmpbbabcaaDoorEachI
namespace Go.Proofs.YthdapdmpbbabcaaDoor
open Go.RowKit Go.Maps

/-- append onto a row of the call's own: either in its place, or at a new place and nothing that was there has turned. -/
theorem run_append_keep {P : Program} (w : World) (base : Nat) (t ty e : TypeId) (i : TypeInfo) (z : Value) (size bytes : Nat) (ht : P.underlying t = some (.slice e)) (hi : P.info? e = some i) (hz : i.zero = some z)
    (hsize : i.size = size) (hby : i.bytes = bytes) (hzs : z.cells.size = size) (hsz : 0 < size) (v : Value) (n : Nat) (xs : List Value) (hown : w.ownsRow base e size v n xs)
    (a : Addr) (m c : Nat) (news : List Value) (hl : news.length = m * size) (hnews : ∀ j u, news[j]? = some u → w.cell? (a.add j) = some u) (h1 : ∀ u ∈ news, u.oneCell' = true)
    (h63 : n + m ≤ maxLen) (hbytes : (n + m) * bytes ≤ 140737488355328) (hbase : base ≤ w.heap.size) :
    ∃ v' w', (Builtin.append_ #[t, t] ty #[v, .slice (some a) m c]).run P w = .ok v' w' ∧ w'.ownsRow base e size v' (n + m) (xs ++ news) ∧ w.grownBy w' v.ownBlock ∧
      (v'.ownBlock = v.ownBlock ∨ (v'.ownBlock = some w.heap.size ∧ w.grownBy w' none)) := by
  obtain ⟨v', w', hr, h2, h3, _, h5⟩ := run_append_own_at (P := P) w base t ty e i z size bytes ht hi hz hsize hby hzs hsz v n xs hown a m c news hl hnews h1 h63 hbytes hbase
  refine ⟨v', w', hr, h2, h3, ?_⟩
  rcases h5 with h5 | h5
  · exact .inl h5
  have hown0 := hown
  rcases hown.2 with ⟨rfl, rfl⟩ | ⟨g, cap, cur, rfl, hbg, hg, hnc, hcm, hcs, htake⟩
  · exact .inr ⟨h5, h3⟩
  · by_cases hroom : n + m ≤ cap
    · obtain ⟨w2, hr2, _, _⟩ := run_append_fits (P := P) (ty := ty) w base t e i size ht hi hsize g n cap xs hown0 a m c news hl hnews h1 hroom
      rw [hr] at hr2
      injection hr2 with e1 e2
      subst e1
      exact .inl rfl
    · refine .inr ⟨h5, ?_⟩
      subst hsize
      subst hby
      have holds : ∀ j u, xs[j]? = some u → w.cell? ((⟨g, 0, none⟩ : Addr).add j) = some u := hown0.cells (g := g) rfl
      have hr2 := run_append_grow (P := P) w t ty e i z ht hi hz ⟨g, 0, none⟩ n cap xs hown0.1 holds a m c news hl hnews (by omega) (by simp only [maxLen] at h63; omega) (growslice_fits (by omega) hbytes)
      rw [hr] at hr2
      injection hr2 with e1 e2
      subst e2
      exact ⟨rfl, rfl, rfl, by simp, fun k hk _ => heap_alloc_old w.drew _ k hk⟩

theorem wpList_append_keep {P : Program} (w : World) {ops : Array Oper} {rest : List Oper} {o : Oper} {a : Act} {Q : Exit → Act → World → Prop} (hgd : o.guard = none) (s x : Operand) (t : TypeId)
    (ho : o.op = .call { callee := .builtin .append, args := #[s, x], argTypes := #[t, t] })
    (base : Nat) (e : TypeId) (i : TypeInfo) (z : Value) (size bytes : Nat) (ht : P.underlying t = some (.slice e)) (hi : P.info? e = some i) (hz : i.zero = some z)
    (hsize : i.size = size) (hby : i.bytes = bytes) (hzs : z.cells.size = size) (hsz : 0 < size) (v : Value) (n : Nat) (xs : List Value) (hs : a.eval s = v) (hown : w.ownsRow base e size v n xs)
    (ad : Addr) (m c : Nat) (news : List Value) (hx : a.eval x = .slice (some ad) m c) (hl : news.length = m * size) (hnews : ∀ j u, news[j]? = some u → w.cell? (ad.add j) = some u) (h1 : ∀ u ∈ news, u.oneCell' = true)
    (h63 : n + m ≤ maxLen) (hbytes : (n + m) * bytes ≤ 140737488355328) (hbase : base ≤ w.heap.size)
    (h : ∀ v' w', w'.ownsRow base e size v' (n + m) (xs ++ news) → w.grownBy w' v.ownBlock → (v'.ownBlock = v.ownBlock ∨ (v'.ownBlock = some w.heap.size ∧ w.grownBy w' none)) → wpList P ops Q rest (a.put o.dst v') w') :
    wpList P ops Q (o :: rest) a w := by
  refine wpList_plain hgd fun K hK => ?_
  obtain ⟨v', w', hr, h2, h3, h4⟩ := run_append_keep (P := P) w base t o.type e i z size bytes ht hi hz hsize hby hzs hsz v n xs hown ad m c news hl hnews h1 h63 hbytes hbase
  unfold Oper.wp execOp
  simp only [ho, resolve, invoke, builtin, Sem.run_bind, Sem.run_pure, Result.andThen_ok, List.map_toArray, List.map_cons, List.map_nil, hs, hx, hr]
  exact hK _ _ (h v' w' h2 h3 h4)

theorem kept_of_append {w1 w2 : World} {base e n : Nat} {v v' x : Value} {xs : List Value} (ho : w1.ownsRow base e 1 v n xs) (ho' : w2.ownsRow base e 1 v' (n + 1) (xs ++ [x])) (hg : w1.grownBy w2 v.ownBlock)
    (hl : v'.ownBlock = v.ownBlock ∨ w1.grownBy w2 none) (g j : Nat) (u : Value) (hj : j < n) (hc : w1.cell? ⟨g, j, none⟩ = some u) : w2.cell? ⟨g, j, none⟩ = some u := by
  have hlt : g < w1.heap.size := World.block_lt_of_cell? w1 ⟨g, j, none⟩ hc
  by_cases hgo : v.ownBlock = some g
  · rcases hl with hl | hn
    · rcases row_cases ho with ⟨rfl, _⟩ | ⟨g1, cap, rfl, _, _, hx, _, hcs, _⟩
      · simp [Value.ownBlock] at hgo
      · obtain rfl : g1 = g := by simpa [Value.ownBlock] using hgo
        rcases row_cases ho' with ⟨rfl, h0, _⟩ | ⟨g2, cap2, rfl, _, _, hx2, _, hcs2, _⟩
        · omega
        · obtain rfl : g2 = g1 := by simpa [Value.ownBlock] using hl
          have h1 := hcs j hj
          have h2 := hcs2 j (by omega)
          rw [hc] at h1
          rw [h2, List.getElem?_append_left (by omega), ← h1]
    · exact (World.cell?_of_block (hn.block g hlt (by simp))).trans hc
  · exact (World.cell?_of_block (hg.block g hlt (fun e => hgo e.symm))).trans hc
end Go.Proofs.YthdapdmpbbabcaaDoor
