/-
  What the law asks, of the plain automaton behind any moves.
  The law ProgFormed: its moves in memory; what stands between its parts.
-/
import Derived.Test.YtgfmlaflochffaaGreatDoorShRunZ
import Derived.Test.YtgfmlaflochffaaGreatDoorWkTxZ
import Derived.Test.YtgfmlaflochffaaGreatDoorShTabZ
import Derived.Test.YtgfmlaflochffaaGreatDoorWkNextCZ
import Derived.Test.YtgfmlaflochffaaGreatDoorWkAns2Z
import Derived.Test.YtgfmlaflochffaaGreatDoorWkNoZ
import Derived.Test.YtgfmlaflochffaaGreatDoorPFstZ
import Derived.Test.YtgfmlaflochffaaGreatDoorPSameZ
namespace Go.Proofs.YtgfmlaflochffaaGreatDoor
open Go.RowKit W

/-- A call of a walk. -/
structure Mv where
  kind : Int
  thr : Int
  val : Int
  ab : Bool
def Wd.move (d : Wd) (m : Mv) : Wd := if m.kind = 1 then (d.next m.thr).2 else (d.answer m.thr m.val m.ab).2
def Wd.moves (d : Wd) (ms : List Mv) : Wd := ms.foldl Wd.move d
theorem moves_snoc (d : Wd) (ms : List Mv) (m : Mv) : d.moves (ms ++ [m]) = (d.moves ms).move m := by simp [Wd.moves]
theorem Inv.start (p : Pg) : Inv (Wd.start p) ⟨0, []⟩ := by
  have hnew : ∀ (k : Nat) t, (Wd.start p).ts[k]? = some t → t = Th.new := fun k t hk => by
    simp only [Wd.start, List.getElem?_map] at hk
    obtain ⟨x, _, rfl⟩ := Option.map_eq_some_iff.1 hk
    rfl
  refine ⟨rfl, fun k t hk => ?_, fun s hs => by simp at hs, by simp, fun k t l hk hl he => ?_, fun k t hk _ => ?_, fun e he => by simp [Wd.start] at he⟩
  · obtain rfl := hnew k t hk
    simp [cntT, Th.new]
  · obtain rfl := hnew k t hk
    rfl
  · obtain rfl := hnew k t hk
    exact ⟨rfl, rfl⟩
/-- A walk behind some moves, and the automaton. -/
structure Jd (p : Pg) (n : Nat) (d : Wd) (A : Au) : Prop where
  pg : d.p = p
  ok : WdOk d
  inv : Inv d A
  runs : Runs p.cells.length d.es A
  len : d.es.length ≤ n
theorem Jd.start {p : Pg} (h : pgOk p = true) : Jd p 0 (Wd.start p) ⟨0, []⟩ := ⟨rfl, WdOk.start h, Inv.start p, Runs.start _, Nat.le_refl _⟩
theorem next_pg (d : Wd) (i : Int) : (d.next i).2.p = d.p := by
  unfold Wd.next
  split
  · rfl
  · split
    · rfl
    · split <;> rfl
theorem answer_pg (d : Wd) (i v : Int) (b : Bool) : (d.answer i v b).2.p = d.p := by
  unfold Wd.answer
  split
  · rfl
  · split
    · rfl
    · split
      · rfl
      · split
        · rfl
        · split
          · rfl
          · split
            · rfl
            · unfold ansTo
              split
              · split
                · rfl
                · split <;> rfl
              · rfl
theorem Jd.taken {p : Pg} {n : Nat} {d d' : Wd} {A : Au} (h : Jd p n d A) (hp : d'.p = d.p) (hok : WdOk d') (ht : Taken d d' A) : ∃ A', Jd p (n + 1) d' A' := by
  rcases ht with rfl | ⟨e, A', he, hs, hi⟩
  · exact ⟨A, h.pg, h.ok, h.inv, h.runs, Nat.le_succ_of_le h.len⟩
  · have hg : EvGood p.cells.length e := by
      have := hi.good e (by rw [he]; simp)
      rw [hp, h.pg] at this
      exact this
    exact ⟨A', hp.trans h.pg, hok, hi, by rw [he]; exact h.runs.more hg hs, by rw [he]; simp only [List.length_append, List.length_singleton]; have := h.len; omega⟩
theorem Jd.move {p : Pg} {n : Nat} {d : Wd} {A : Au} (h : Jd p n d A) (m : Mv) : ∃ A', Jd p (n + 1) (d.move m) A' := by
  unfold Wd.move
  split
  · exact h.taken (next_pg d _) (h.ok.next _) (h.inv.next h.ok _)
  · exact h.taken (answer_pg d _ _ _) (h.ok.answer _ _ _) (h.inv.answer h.ok _ _ _)
/-- How many transactions of a thread stand among the first ones. -/
def cntOf (l : List St) (k : Nat) : Nat := (l.filter fun s => s.thr == (k : Int)).length
theorem cntOf_snoc (l : List St) (s : St) (k : Nat) : cntOf (l ++ [s]) k = cntOf l k + (if s.thr = (k : Int) then 1 else 0) := by
  unfold cntOf
  rw [List.filter_append, List.length_append]
  by_cases h : s.thr = (k : Int) <;> simp [h]
theorem curLen {t : Th} {l : List (List PAct)} (ht : ThOk t l) {ds : List Dd} (hc : CurOk t (actsOf t l) ds) : ds.length ≤ 2 * (actsOf t l).length := by
  obtain ⟨c1, _⟩ := hc
  have a1 := ht.a1
  have a0 := ht.a0
  by_cases hlt : t.act < (actsOf t l).length
  · have g1 : (if t.adding = true then (1 : Int) else 0) ≤ 1 := by split <;> omega
    have g2 : (if t.waits = 2 then (1 : Int) else 0) ≤ 1 := by split <;> omega
    omega
  · have na : ¬ t.adding = true := fun e => by
      obtain ⟨a, q, _⟩ := ht.a3 e
      have := (List.getElem?_eq_some_iff.1 q).1
      omega
    have nw : ¬ t.waits = 2 := fun e => by
      obtain ⟨a, q, _⟩ := ht.a2 e
      have := (List.getElem?_eq_some_iff.1 q).1
      omega
    rw [if_neg na, if_neg nw] at c1
    omega
/-- What the law asks of a transaction. -/
structure TxFine (d : Wd) (A : Au) (i : Nat) (s : St) (k j : Nat) (acts : List PAct) (l : List (List PAct)) : Prop where
  id : s.id = 3 * (k : Int) + j + 1
  j3 : j < 3
  thr : s.thr = k
  kl : k < d.p.threads.length
  tl : d.p.threads[k]? = some l
  al : l[j]? = some acts
  nth : cntOf (A.sts.take i) k = j
  deeds : s.deeds.length ≤ 2 * acts.length
  tx : s.fin < 0 → d.txOf (k : Int) = (s.id, true)
theorem filter_nth {α : Type} (P : α → Bool) : ∀ (l : List α) (i : Nat) (a : α), l[i]? = some a → P a = true → (l.filter P)[((l.take i).filter P).length]? = some a
  | [], i, a, h, _ => by simp at h
  | x :: l, 0, a, h, hp => by
    obtain rfl : x = a := by simpa using h
    simp [hp]
  | x :: l, i + 1, a, h, hp => by
    have ih := filter_nth P l i a (by simpa using h) hp
    simp only [List.take_succ_cons, List.filter_cons]
    split
    · simpa using ih
    · exact ih
theorem Jd.fine {p : Pg} {n : Nat} {d : Wd} {A : Au} (h : Jd p n d A) {i : Nat} {s : St} (hi : A.sts[i]? = some s) : ∃ k j acts l, TxFine d A i s k j acts l := by
  obtain ⟨k, j, t, l, ho⟩ := h.inv.each s (List.mem_of_getElem? hi)
  have hl3 := (thrOk_parts ((pgOk_parts h.ok.ok).2.2.2.2.2 l (List.mem_of_getElem? ho.tl))).1
  have hjl := ho.jl
  obtain ⟨acts, ha⟩ : ∃ acts, l[j]? = some acts := ⟨l[j], List.getElem?_eq_getElem hjl⟩
  have hth := h.ok.th k t l ho.ts ho.tl
  have hP : (fun s : St => s.thr == (k : Int)) s = true := by simpa using ho.thr
  have hn := filter_nth (fun s : St => s.thr == (k : Int)) A.sts i s hi hP
  have hper := h.inv.per k t ho.ts
  have hid : ((A.sts.filter fun s => s.thr == (k : Int)).map (·.id))[cntOf (A.sts.take i) k]? = some s.id := by
    rw [List.getElem?_map]
    unfold cntOf
    rw [hn]
    rfl
  rw [hper, List.getElem?_map] at hid
  obtain ⟨x, hx, hxe⟩ := Option.map_eq_some_iff.1 hid
  have hx2 : x = cntOf (A.sts.take i) k := by
    have := (List.getElem?_eq_some_iff.1 hx).2
    simpa using this.symm
  have hnth : cntOf (A.sts.take i) k = j := by
    have := ho.id
    rw [← hx2]
    omega
  refine ⟨k, j, acts, l, ho.id, by omega, ho.thr, (List.getElem?_eq_some_iff.1 ho.tl).1, ho.tl, ha, hnth, ?_, fun hf => ?_⟩
  · rcases ho.how with ⟨_, _, _, q⟩ | ⟨hj, _, _, _, q⟩
    · rw [ha] at q; exact q
    · have := curLen hth q
      have e : actsOf t l = acts := by
        unfold actsOf
        rw [← hj]
        simp [ha]
      rw [e] at this
      exact this
  · rcases ho.how with ⟨_, _, q, _⟩ | ⟨hj, hb, _, _, _⟩
    · omega
    · have hlive : d.live (k : Int) = some (t, l) := by
        unfold Wd.live
        rw [if_neg (by omega), Int.toNat_natCast, ho.ts, ho.tl]
        simp only
        rw [if_neg (by omega)]
      obtain ⟨e1, _⟩ := idLive h.ok hlive
      unfold Wd.txOf
      rw [hlive]
      simp only
      rw [if_pos hb, e1, ho.id]
      simp
      omega
/-- What the law asks of a thread at the end. -/
theorem Jd.fin {p : Pg} {n : Nat} {d : Wd} {A : Au} (h : Jd p n d A) {k : Nat} {l : List (List PAct)} (hl : d.p.threads[k]? = some l) : d.doneOf (k : Int) = (decide ((cntOf A.sts k : Int) = (l.length : Int)) && !(d.txOf (k : Int)).2) := by
  have hkl := (List.getElem?_eq_some_iff.1 hl).1
  obtain ⟨t, ht⟩ : ∃ t, d.ts[k]? = some t := ⟨d.ts[k]'(by rw [h.ok.len]; exact hkl), List.getElem?_eq_getElem _⟩
  have hth := h.ok.th k t l ht hl
  have hper := congrArg List.length (h.inv.per k t ht)
  simp only [List.length_map, List.length_range] at hper
  have hcnt : cntOf A.sts k = cntT t := hper
  have ht0 := hth.t0
  have ht1 := hth.t1
  unfold Wd.doneOf Wd.txOf Wd.live
  rw [if_neg (by omega), Int.toNat_natCast, ht, hl, hcnt]
  simp only
  unfold cntT
  by_cases he : t.tx = l.length
  · have hb := h.inv.fresh k t l ht hl he
    rw [if_pos he]
    simp [hb]
    omega
  · rw [if_neg he]
    simp only [Option.isNone_some]
    by_cases hb : t.begun = true
    · simp [hb]
    · simp [hb]
      omega
end Go.Proofs.YtgfmlaflochffaaGreatDoor

namespace Go.Proofs.YtgfmlaflochffaaGreatDoor
open Go.RowKit Go.Maps W

/-- A slice of moves. -/
def ReadsM (w : World) (v : Value) (l : List Mv) : Prop :=
  ∃ (A : Option Addr) (c b o : Nat), v = .slice A l.length c ∧ (A = none → l.length = 0 ∧ c = 0) ∧ (∀ a, A = some a → 0 < l.length → a = ⟨b, o, none⟩) ∧ l.length ≤ c ∧
    ∀ j m, l[j]? = some m → w.cell? ⟨b, o + j * 4, none⟩ = some (.int .i64 m.kind) ∧ w.cell? ⟨b, o + j * 4 + 1, none⟩ = some (.int .i64 m.thr) ∧ w.cell? ⟨b, o + j * 4 + 2, none⟩ = some (.int .i64 m.val) ∧ w.cell? ⟨b, o + j * 4 + 3, none⟩ = some (.bool m.ab)
theorem ReadsM.below {w w' : World} {v : Value} {l : List Mv} (h : ReadsM w v l) (hb : Below w.heap.size w w') : ReadsM w' v l := by
  obtain ⟨A, c, b, o, h1, h2, h3, h4, h5⟩ := h
  refine ⟨A, c, b, o, h1, h2, h3, h4, fun j a hj => ?_⟩
  obtain ⟨c0, c1, c2, c3⟩ := h5 j a hj
  exact ⟨(hb.cell (p := ⟨b, o + j * 4, none⟩) (World.block_lt_of_cell? w _ c0)).trans c0, (hb.cell (p := ⟨b, o + j * 4 + 1, none⟩) (World.block_lt_of_cell? w _ c1)).trans c1, (hb.cell (p := ⟨b, o + j * 4 + 2, none⟩) (World.block_lt_of_cell? w _ c2)).trans c2, (hb.cell (p := ⟨b, o + j * 4 + 3, none⟩) (World.block_lt_of_cell? w _ c3)).trans c3⟩
theorem ReadsM.shape {w : World} {v : Value} {l : List Mv} (h : ReadsM w v l) : ∃ A c, v = .slice A l.length c := by
  obtain ⟨A, c, _, _, h, _⟩ := h
  exact ⟨A, c, h⟩
theorem ReadsM.at {w : World} {A : Option Addr} {n c : Nat} {l : List Mv} (h : ReadsM w (.slice A n c) l) {j : Nat} {m : Mv} (hj : l[j]? = some m) :
    ∃ b o, A = some ⟨b, o, none⟩ ∧ b < w.heap.size ∧ w.cell? ⟨b, o + j * 4, none⟩ = some (.int .i64 m.kind) ∧ w.cell? ⟨b, o + j * 4 + 1, none⟩ = some (.int .i64 m.thr) ∧ w.cell? ⟨b, o + j * 4 + 2, none⟩ = some (.int .i64 m.val) ∧ w.cell? ⟨b, o + j * 4 + 3, none⟩ = some (.bool m.ab) ∧ j < n ∧ n ≤ c := by
  obtain ⟨A1, c1, b, o, he, h2, h3, h4, h5⟩ := h
  injection he with e1 e2 e3
  subst e1 e3
  have hlt := (List.getElem?_eq_some_iff.1 hj).1
  cases A with
  | none => exact absurd (h2 rfl).1 (by omega)
  | some q =>
    obtain rfl := h3 q rfl (by omega)
    obtain ⟨c0, c2, c3, c4⟩ := h5 j m hj
    exact ⟨b, o, rfl, World.block_lt_of_cell? w _ c0, c0, c2, c3, c4, by omega, by omega⟩
/-- What stands between the law's parts: the caller's program and moves, the package's variables. -/
structure Lf (w W : World) (Ac At mv : Value) (p : Pg) (ms : List Mv) : Prop where
  pg : PgAt W Ac At p
  ms : ReadsM W mv ms
  laid : LaidP W
  laidE : LaidE W
  box : Blk W w.heap.size tP #[Ac, At]
  below : Below w.heap.size w W
theorem Lf.call {w W W' : World} {Ac At mv : Value} {p : Pg} {ms : List Mv} (h : Lf w W Ac At mv p ms) (hb : Below W.heap.size W W') : Lf w W' Ac At mv p ms :=
  ⟨h.pg.below hb, h.ms.below hb, h.laid.below hb, h.laidE.below hb, h.box.below hb h.box.lt, h.below.trans (hb.mono h.below.size)⟩
theorem Lf.start {w : World} {Ac At mv : Value} {p : Pg} {ms : List Mv} (hp : PgAt w Ac At p) (hm : ReadsM w mv ms) (hL : LaidP w) (hE : LaidE w) : Lf w (w.alloc (.cells #[Ac, At] tP)) Ac At mv p ms := by
  have h0 := (Below.refl w.heap.size w).alloc (Nat.le_refl _) (.cells #[Ac, At] tP)
  exact ⟨hp.below h0, hm.below h0, hL.below h0, hE.below h0, Blk.new w tP _, h0⟩
/-- The walk behind some moves. -/
structure Fm (w X W : World) (Ac At mv : Value) (p : Pg) (ms : List Mv) (n wb : Nat) (d : Wd) (A : Au) (vc vt : Value) (g gn gc : Nat) (ve : Value) : Prop where
  lf : Lf w X Ac At mv p ms
  wk : Wk X.heap.size wb W d vc vt (.slice (some ⟨g, 0, none⟩) gn gc) ve
  jd : Jd p n d A
  below : Below X.heap.size X W
theorem Fm.lfW {w X W : World} {Ac At mv : Value} {p : Pg} {ms : List Mv} {n wb : Nat} {d : Wd} {A : Au} {vc vt : Value} {g gn gc : Nat} {ve : Value} (h : Fm w X W Ac At mv p ms n wb d A vc vt g gn gc ve) : Lf w W Ac At mv p ms := h.lf.call h.below
theorem Fm.step {w X W W' : World} {Ac At mv : Value} {p : Pg} {ms : List Mv} {n wb : Nat} {d d' : Wd} {A A' : Au} {vc vt : Value} {g gn gc : Nat} {ve ve' : Value} (h : Fm w X W Ac At mv p ms n wb d A vc vt g gn gc ve) (hw : Wk X.heap.size wb W' d' vc vt (.slice (some ⟨g, 0, none⟩) gn gc) ve') (ho : Only (Foot wb (.slice (some ⟨g, 0, none⟩) gn gc) ve) W W') (hj : Jd p (n + 1) d' A') : Fm w X W' Ac At mv p ms (n + 1) wb d' A' vc vt g gn gc ve' :=
  ⟨h.lf, hw, hj, h.below.trans (h.wk.only_below ho)⟩
theorem Fm.call {w X W W' : World} {Ac At mv : Value} {p : Pg} {ms : List Mv} {n wb : Nat} {d : Wd} {A : Au} {vc vt : Value} {g gn gc : Nat} {ve : Value} (h : Fm w X W Ac At mv p ms n wb d A vc vt g gn gc ve) (hb : Below W.heap.size W W') : Fm w X W' Ac At mv p ms n wb d A vc vt g gn gc ve :=
  ⟨h.lf, h.wk.call hb, h.jd, h.below.trans (hb.mono h.below.size)⟩
theorem cell_bnd {p : Pg} (h : ∀ n ∈ p.cells, cellOk n = true) : ∀ c ∈ p.cells, -1000000 ≤ c ∧ c ≤ 1000000 := fun c hc => by
  have h9 := h c hc
  simp [cellOk] at h9
  omega
theorem placeGood {id : Int} {k j : Nat} (h : id = 3 * (k : Int) + j + 1) (hj : j < 3) (hk : k < 4) (w : World) : Calls Tryz.prog 11 #[.int .i64 id] w fun e w' => e = .returned (.tuple #[.int .i64 (k : Int), .int .i64 (j : Int), .bool true]) ∧ w = w' := by
  refine (placeCall id w).mono ?_
  rintro e w' ⟨r, rfl, hr, rfl⟩
  unfold placeIs at hr
  rw [if_neg (by omega)] at hr
  rw [hr, show (id - 1) / 3 = (k : Int) by omega, show (id - 1) % 3 = (j : Int) by omega]
  exact ⟨rfl, rfl⟩
/-- How many of each thread's transactions have been seen. -/
def cnts (l : List St) (T : Nat) : List Int := (List.range T).map fun k => (cntOf l k : Int)
theorem cnts_at (l : List St) (T k : Nat) (h : k < T) : (cnts l T)[k]? = some (cntOf l k : Int) := by simp [cnts, h]
theorem cnts_snoc (l : List St) (T : Nat) (s : St) (k : Nat) (h : s.thr = (k : Int)) : cnts (l ++ [s]) T = (cnts l T).set k ((cntOf l k : Int) + 1) := by
  refine List.ext_getElem? fun j => ?_
  by_cases hj : j < T
  · rw [cnts_at _ _ _ hj, cntOf_snoc]
    by_cases hjk : k = j
    · subst hjk
      rw [List.getElem?_set_self (by simpa [cnts] using hj), if_pos h]
      simp
    · rw [List.getElem?_set_ne hjk, cnts_at _ _ _ hj, if_neg (by omega)]
      simp
  · rw [List.getElem?_eq_none (by simp [cnts]; omega), List.getElem?_eq_none (by simp [cnts]; omega)]
theorem cnts_nil (T : Nat) : cnts [] T = List.replicate T 0 := by
  refine List.ext_getElem? fun j => ?_
  by_cases hj : j < T
  · rw [cnts_at _ _ _ hj]; simp [cntOf, hj]
  · rw [List.getElem?_eq_none (by simp [cnts]; omega), List.getElem?_eq_none (by simp; omega)]
theorem made_ints (n : Nat) : madeCells #[Value.int .i64 0] n = (ints (cnts [] n)).toArray := by
  rw [cnts_nil]
  apply Array.ext'
  rw [toList_madeCells_one]
  simp [ints]
theorem tx_at {W : World} {B : Nat} {g n c : Nat} {ps : List (St × Value)} (h : W.ownsRow B tTx 7 (.slice (some ⟨g, 0, none⟩) n c) n (flatTx ps)) {k : Nat} {x : St × Value} (hk : ps[k]? = some x) (hkn : k < n) : ∀ r, r < 7 → W.cell? ⟨g, k * 7 + r, none⟩ = (txArr x.1 x.2)[r]? := by
  intro r hr
  have h0 := fq_at (f := fun p : St × Value => txArr p.1 p.2) (n := 7) (fun _ => rfl) ps k x hk r hr
  rw [h.cellAt (k * 7 + r) (by omega)]
  exact h0
end Go.Proofs.YtgfmlaflochffaaGreatDoor
