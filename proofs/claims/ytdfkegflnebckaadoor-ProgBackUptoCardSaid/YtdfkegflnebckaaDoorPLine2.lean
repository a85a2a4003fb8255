/-
  prog.line: what the n-th line that says something does to the program that is being read.
-/
import Derived.Test.YtdfkegflnebckaaDoorPLine
import Derived.Deep.RegionLaw
namespace Go.Proofs.YtdfkegflnebckaaDoor
open Go.RowKit Go.Maps W
attribute [local go_sem ↓] Go.wp_at_zero Go.wp_at_succ

/-- What line tells, and does. -/
def LineOut (p : Pg) (n : Nat) (ws : List (List UInt8)) (v : Value) (p' : Pg) : Prop := (lineStep p n ws = some p' ∧ v = .nilIface) ∨ (lineStep p n ws = none ∧ someErr v)
/-- The program is no longer than this. -/
def PgSmall (p : Pg) (k : Nat) : Prop := p.cells.length ≤ k ∧ p.threads.length ≤ k ∧ ∀ t ∈ p.threads, t.length ≤ k
theorem first_cell {W : World} {A : Option Addr} {n c : Nat} {x : List UInt8} {r : List (List UInt8)} (h : Reads W (.slice A n c) (txs (x :: r))) : ∃ b o, A = some ⟨b, o, none⟩ ∧ W.cell? ⟨b, o, none⟩ = some (str x) := by
  obtain ⟨b, o, e, h1, _, _⟩ := reads_at h (j := 0) (u := str x) (by simp [txs])
  exact ⟨b, o, e, h1⟩

set_option maxHeartbeats 16000000 in
set_option maxRecDepth 100000 in
theorem lineOne (F : List Nat) (B pb : Nat) (vc vt : Value) (p : Pg) (n : Nat) (hn : n = 1 ∨ n = 2) (x : List UInt8) (r : List (List UInt8)) (A : Option Addr) (c : Nat) (w0 W : World) (hL : LaidP w0) (h0 : Below w0.heap.size w0 W) (hB0 : w0.heap.size ≤ B) (hp : Pp F B pb W vc vt p) (hr : Reads W (.slice A (r.length + 1) c) (txs (x :: r))) (hF : ∀ b o, A = some ⟨b, o, none⟩ → b ∈ F)
    (hrl : ∀ y ∈ x :: r, y.length ≤ 1000000000) (hlen : p.cells.length + (r.length + 1) ≤ 1000000000) :
    Calls Tryd.prog 23 #[.pointer (some ⟨pb, 0, none⟩), .int .i64 n, .slice A (r.length + 1) c] W fun e W' => ∃ v vc' vt' p', e = .returned v ∧ LineOut p n (x :: r) v p' ∧ Pp F B pb W' vc' vt' p' ∧ KeptF F W W' ∧ Below B W W' := by
  have hLW := hL.below h0
  have HP := hid hp
  have HR := hid hr
  obtain ⟨bl, ol, rfl, hx0⟩ := first_cell hr
  obtain ⟨ae, ha⟩ := hLW.errs 4 (by simp)
  have hcap := hr.cap
  have hbF : bl ∈ F := hF bl ol rfl
  rcases hn with rfl | rfl
  · by_cases hx : x = wProgram
    · subst hx
      have HA := hid (aloneCall (some ⟨bl, ol, none⟩) (r.length + 1) c W hLW (by omega))
      unfold str wProgram at hx0
      clear hp hr hLW hL h0 hrl
      go_enter Tryd.func23, Tryd.ntmps23
      go_wp2_with fail
      refine HA.out.mono ?_
      rintro e W1 ⟨v, rfl, hv, rfl⟩
      have HO : Hid (LineOut p 1 (wProgram :: r) v p) := hid (by
        rcases hv with ⟨h1, rfl⟩ | ⟨h1, h2⟩
        · obtain rfl : r = [] := List.eq_nil_of_length_eq_zero (by simpa using h1)
          exact .inl ⟨by simp [lineStep], rfl⟩
        · have hrn : r ≠ [] := by rintro rfl; simp at h1
          exact .inr ⟨by simp [lineStep, hrn], h2⟩)
      clear hv
      go_wp2_with fail
      go_ret
      exact ⟨_, _, _, _, rfl, HO.out, HP.out, KeptF.refl _ _, Below.refl _ _⟩
    · have t1 : (x == [112, 114, 111, 103, 114, 97, 109]) = false := by
        have : x ≠ [112, 114, 111, 103, 114, 97, 109] := hx
        simpa using this
      have HO := hid (show lineStep p 1 (x :: r) = none by unfold lineStep; simp [hx])
      unfold str at hx0
      clear hx hp hr hLW hL h0 hrl
      go_enter Tryd.func23, Tryd.ntmps23
      go_wp2_with fail
      go_ret
      exact ⟨_, _, _, _, rfl, .inr ⟨HO.out, ae, rfl⟩, HP.out, KeptF.refl _ _, Below.refl _ _⟩
  · by_cases hx : x = wCells
    · subst hx
      have HO : Hid (∀ v p', CellsOut p r v p' → LineOut p 2 (wCells :: r) v p') := hid (by
        rintro v p' (⟨ns, h1, h2, rfl, rfl⟩ | ⟨h1, h2⟩)
        · exact .inl ⟨by simp [lineStep, h1, h2], rfl⟩
        · refine .inr ⟨?_, h2⟩
          rcases h1 with rfl | h1
          · simp [lineStep]
          · simp [lineStep, h1])
      unfold str wCells at hx0
      have hrl2 : ∀ y ∈ r, y.length ≤ 1000000000 := fun y hy => hrl y (List.mem_cons_of_mem _ hy)
      by_cases hc1 : 1 < c
      · have hrt : Reads W (.slice (some ⟨bl, ol + 1, none⟩) r.length (c - 1)) (txs r) := by simpa using reads_tail (x := str wCells) (xs := txs r) hr
        have HC := hid (cellsCall F B pb vc vt p r _ _ w0 W hL h0 hB0 hp hrt (fun b o e => by injection e with e; injection e with e; subst e; exact hbF) hrl2 (by omega))
        clear hp hr hLW hL h0 hrl hrl2 hrt
        go_enter Tryd.func23, Tryd.ntmps23
        go_wp2_with fail
        refine HC.out.mono ?_
        rintro e W1 ⟨v, vc', p', rfl, hco, hpp, hk, hb⟩
        have HX := hid (And.intro (HO.out v p' hco) (And.intro hpp (And.intro hk hb)))
        clear hco hpp hk hb
        go_wp2_with fail
        go_ret
        exact ⟨_, _, _, _, rfl, HX.out.1, HX.out.2.1, HX.out.2.2.1, HX.out.2.2.2⟩
      · obtain rfl : r = [] := List.eq_nil_of_length_eq_zero (by omega)
        have hrt : Reads W (.slice (some ⟨bl, ol, none⟩) ([] : List (List UInt8)).length (c - 1)) (txs []) := reads_none rfl
        have HC := hid (cellsCall F B pb vc vt p [] _ _ w0 W hL h0 hB0 hp hrt (fun b o e => by injection e with e; injection e with e; subst e; exact hbF) hrl2 (by simp at hlen ⊢; omega))
        clear hp hr hLW hL h0 hrl hrl2 hrt
        go_enter Tryd.func23, Tryd.ntmps23
        go_wp2_with fail
        refine HC.out.mono ?_
        rintro e W1 ⟨v, vc', p', rfl, hco, hpp, hk, hb⟩
        have HX := hid (And.intro (HO.out v p' hco) (And.intro hpp (And.intro hk hb)))
        clear hco hpp hk hb
        go_wp2_with fail
        go_ret
        exact ⟨_, _, _, _, rfl, HX.out.1, HX.out.2.1, HX.out.2.2.1, HX.out.2.2.2⟩
    · have t1 : (x == [99, 101, 108, 108, 115]) = false := by
        have : x ≠ [99, 101, 108, 108, 115] := hx
        simpa using this
      have HO := hid (show lineStep p 2 (x :: r) = none by unfold lineStep; simp [hx])
      unfold str at hx0
      clear hx hp hr hLW hL h0 hrl
      go_enter Tryd.func23, Tryd.ntmps23
      go_wp2_with fail
      go_ret
      exact ⟨_, _, _, _, rfl, .inr ⟨HO.out, ae, rfl⟩, HP.out, KeptF.refl _ _, Below.refl _ _⟩

set_option maxHeartbeats 16000000 in
set_option maxRecDepth 100000 in
theorem lineMore (F : List Nat) (B pb : Nat) (vc vt : Value) (p : Pg) (n : Nat) (hn : 3 ≤ n) (hn9 : n ≤ 1000000000) (x : List UInt8) (r : List (List UInt8)) (A : Option Addr) (c : Nat) (w0 W : World) (hL : LaidP w0) (h0 : Below w0.heap.size w0 W) (hB0 : w0.heap.size ≤ B) (hp : Pp F B pb W vc vt p) (hr : Reads W (.slice A (r.length + 1) c) (txs (x :: r)))
    (hrl : ∀ y ∈ x :: r, y.length ≤ 1000000000) (hlen : r.length + 1 ≤ 1000000000) (hsm : PgSmall p 1000000000) :
    Calls Tryd.prog 23 #[.pointer (some ⟨pb, 0, none⟩), .int .i64 n, .slice A (r.length + 1) c] W fun e W' => ∃ v vc' vt' p', e = .returned v ∧ LineOut p n (x :: r) v p' ∧ Pp F B pb W' vc' vt' p' ∧ KeptF F W W' ∧ Below B W W' := by
  obtain ⟨i0, hi, hz0, hz1, hz2⟩ := info_parts infoH
  obtain ⟨j0, ji, jz0, jz1, jz2⟩ := info_parts infoT
  have hLW := hL.below h0
  have HP := hid hp
  have HR := hid hr
  have HSM := hid hsm
  have HL := hid (fun W' (hb : Below B W W') => hL.below (h0.trans (hb.mono hB0)))
  obtain ⟨bl, ol, rfl, hx0⟩ := first_cell hr
  obtain ⟨ae, ha⟩ := hLW.errs 4 (by simp)
  have hcap := hr.cap
  have hBW : B ≤ W.heap.size := by have := hp.le; have := hp.box.lt; omega
  have hN := fun W a => neq_nil 162 a (.inr rfl) W
  have n1 : ((n : Int) == 1) = false := beq_eq_false_iff_ne.2 (by omega)
  have n2 : ((n : Int) == 2) = false := beq_eq_false_iff_ne.2 (by omega)
  obtain ⟨us, hrow, hul, hus⟩ := hp.thr
  have HROW := hid hrow
  have HUS := hid hus
  have hu9 : us.length ≤ 1000000000 := by rw [hul]; exact hsm.2.1
  have HUL := hid hul
  obtain ⟨Av, cv, rfl⟩ := row_shape hrow
  have x1 := hp.box.cell 1
  have lx := hp.box.lt
  have zf := hp.box.frozen 1
  clear hp hr hLW hL h0 hsm hrow hus hul
  by_cases hx : x = wThread
  · subst hx
    unfold str wThread at hx0
    have HP5 := hid (HP.out.alloc (.cells #[.slice none 0 0] 51))
    have HROW5 := hid (row_call HROW.out ((Below.refl W.heap.size W).alloc (Nat.le_refl _) (.cells #[.slice none 0 0] 51)))
    have HAP5 : Hid ((Value.slice Av us.length cv).ownBlock ≠ some pb) := hid (Blk.apartRow HP5.out.box HROW5.out (by decide))
    go_enter Tryd.func23, Tryd.ntmps23
    go_wp2_with (at_builtin; refine wpList_append_own_at _ rfl (.tmp 41) (.tmp 42) 23 rfl B 51 i0 (.slice none 0 0) 1 24 Tryd.underlying23 hi hz0 hz1 hz2 rfl (by decide) (.slice Av us.length cv) us.length _ rfl HROW5.out ⟨W.heap.size, 0, none⟩ 1 1 [.slice none 0 0] rfl rfl (cell_one_new _ _ _) (by simp [Value.oneCell']) (by unfold maxLen; omega) (by omega) (by simp; omega) ?_; intro v6 w6 hown6 hgrow6 _ hat6; obtain ⟨A6, c6, rfl⟩ := row_shape hown6; have HX6 := hid (HP5.out.box.grown hgrow6 (fun e => HAP5.out e.symm)); have z0 := HX6.out.cell 1; have zf6 := HX6.out.frozen 1; have lz := HX6.out.lt)
    have HUS5 := hid (show (∀ (i : Nat) u t, us[i]? = some u → p.threads[i]? = some t → TxAt (W.alloc (.cells #[.slice none 0 0] 51)) B u t) from fun i u t hu ht => (HUS.out.1 i u t hu ht).keep (fun g cs _ hh => Below.heap_alloc W _ g (lt_of_at hh)) (fun g cs hh => Below.heap_alloc W _ g (lt_of_at hh)))
    have HAT := hid (HP5.out.addThread HROW5.out HUL.out ⟨HUS5.out, HUS.out.2⟩ hown6 hgrow6 hat6 (by simp; omega))
    have HKF := hid ((KeptF.call (fun g hg => (HP.out.frn g hg).1) ((Below.refl W.heap.size W).alloc (Nat.le_refl _) (.cells #[.slice none 0 0] 51))).trans HAT.out.2.1)
    have HBF := hid (((Below.refl B W).alloc hBW (.cells #[.slice none 0 0] 51)).trans HAT.out.2.2)
    have HA := hid (aloneCall (some ⟨bl, ol, none⟩) (r.length + 1) c _ (HL.out _ HBF.out) hlen)
    clear hown6 hgrow6 hat6 z0 zf6 lz
    refine HA.out.mono ?_
    rintro e W1 ⟨v, rfl, hv, rfl⟩
    have HO : Hid (LineOut p n (wThread :: r) v { p with threads := p.threads ++ [[]] }) := hid (by
      unfold LineOut lineStep
      simp only
      rw [if_neg (by omega), if_neg (by omega), if_pos trivial]
      rcases hv with ⟨h1, rfl⟩ | ⟨h1, h2⟩
      · obtain rfl : r = [] := List.eq_nil_of_length_eq_zero (by omega)
        exact .inl ⟨rfl, rfl⟩
      · have hrn : r ≠ [] := by rintro rfl; simp at h1
        exact .inr ⟨by rw [if_neg hrn], h2⟩)
    clear hv
    go_wp2_with fail
    go_ret
    exact ⟨_, _, _, _, rfl, HO.out, HAT.out.1, HKF.out, HBF.out⟩
  · have t1 : (x == [116, 104, 114, 101, 97, 100]) = false := by
      have : x ≠ [116, 104, 114, 101, 97, 100] := hx
      simpa using this
    by_cases hx2 : x = wTx
    · subst hx2
      unfold str wTx at hx0
      by_cases hu0 : us.length = 0
      · have HO := hid (show lineStep p n (wTx :: r) = none by
          have : p.threads = [] := List.eq_nil_of_length_eq_zero (by rw [← HUL.out]; exact hu0)
          unfold lineStep
          simp only
          rw [if_neg (by omega), if_neg (by omega), if_neg (by decide), if_neg (by simp [this])])
        have tz : ((us.length : Int) == 0) = true := by rw [hu0]; rfl
        clear hu0 hx t1
        go_enter Tryd.func23, Tryd.ntmps23
        go_wp2_with fail
        go_ret
        exact ⟨_, _, _, _, rfl, .inr ⟨HO.out, ae, rfl⟩, HP.out, KeptF.refl _ _, Below.refl _ _⟩
      · have tz : ((us.length : Int) == 0) = false := beq_eq_false_iff_ne.2 (by omega)
        have HNT := hid (show p.threads ≠ [] from fun e => hu0 (by rw [HUL.out, e]; rfl))
        have hrl2 : ∀ y ∈ r, y.length ≤ 1000000000 := fun y hy => hrl y (List.mem_cons_of_mem _ hy)
        have hLW := HL.out W (Below.refl _ _)
        clear hx t1
        by_cases hc1 : 1 < c
        · have hrt : Reads W (.slice (some ⟨bl, ol + 1, none⟩) r.length (c - 1)) (txs r) := by simpa using reads_tail (x := str wTx) (xs := txs r) HR.out
          have HTX := hid (txCall _ r W hrt (by omega) hrl2 hLW)
          clear hrt hrl2 hrl
          clear hLW
          go_enter Tryd.func23, Tryd.ntmps23
          go_wp2_with fail
          refine HTX.out.mono ?_
          rintro e W1 ⟨av, v, rfl, hto, hb1⟩
          have HP1 := hid (HP.out.call hb1)
          have HB1 := hid ((Below.refl B W).trans (hb1.mono hBW))
          have HK1 := hid (KeptF.call (fun g hg => (HP.out.frn g hg).1) hb1)
          rcases hto with ⟨l, hrn, hra, rfl, hav⟩ | ⟨hre, a, rfl⟩
          case inr =>
            have HO := hid (show lineStep p n (wTx :: r) = none by
              unfold lineStep
              simp only
              rw [if_neg (by omega), if_neg (by omega), if_neg (by decide)]
              rcases hre with h | h
              · rw [if_neg (by simp [h])]
              · split
                · rw [h]; rfl
                · rfl)
            clear hre hb1
            go_wp2_with fail
            go_ret
            exact ⟨_, _, _, _, rfl, .inr ⟨HO.out, a, rfl⟩, HP1.out, HK1.out, HB1.out⟩
          case inl =>
          have HO := hid (show lineStep p n (wTx :: r) = some { p with threads := addLast p.threads l } by
            unfold lineStep
            simp only
            rw [if_neg (by omega), if_neg (by omega), if_neg (by decide), if_pos ⟨trivial, HNT.out, hrn⟩, hra]
            rfl)
          have HAV := hid (row_base hav hBW)
          obtain ⟨m, hm⟩ : ∃ m, us.length = m + 1 := ⟨us.length - 1, by omega⟩
          obtain ⟨u, hu⟩ : ∃ u, us[m]? = some u := ⟨us[m]'(by omega), List.getElem?_eq_getElem _⟩
          obtain ⟨t, ht⟩ : ∃ t, p.threads[m]? = some t := ⟨p.threads[m]'(by have := HUL.out; omega), List.getElem?_eq_getElem _⟩
          obtain ⟨vs, hvs, hvl, hac⟩ := HUS.out.1 m u t hu ht
          obtain ⟨Au, cu, rfl⟩ := row_shape hvs
          have HROW1 := hid (row_call HROW.out hb1)
          have HVS1 := hid (row_call hvs hb1)
          have hvl9 : vs.length ≤ 1000000000 := by rw [hvl]; exact HSM.out.2.2 t (List.mem_of_getElem? ht)
          have HUS1 := hid (show (∀ (i : Nat) u t, us[i]? = some u → p.threads[i]? = some t → TxAt (W1.alloc (.cells #[av] 52)).drew B u t) from fun i u t hu ht => (HUS.out.1 i u t hu ht).keep (fun g cs _ hh => (Below.heap_alloc W1 _ g (Nat.lt_of_lt_of_le (lt_of_at hh) hb1.size)).trans (hb1.block g (lt_of_at hh))) (fun g cs hh => (Below.heap_alloc W1 _ g (Nat.lt_of_lt_of_le (lt_of_at hh) hb1.size)).trans (hb1.block g (lt_of_at hh))))
          obtain ⟨gt, rfl⟩ : ∃ gt, Av = some ⟨gt, 0, none⟩ := by
            rcases HROW.out.2 with ⟨_, h⟩ | ⟨g, cap, cur, he, _⟩
            · omega
            · injection he with e _ _
              exact ⟨g, e⟩
          have HPA : Hid (Pp F B pb (W1.alloc (.cells #[av] 52)).drew vc (.slice (some ⟨gt, 0, none⟩) us.length cv) p) := hid (let h := HP1.out.alloc (.cells #[av] 52); ⟨h.box, h.le, h.cells, h.thr, h.frn⟩)
          have HROWA : Hid ((W1.alloc (.cells #[av] 52)).drew.ownsRow B tH 1 (.slice (some ⟨gt, 0, none⟩) us.length cv) us.length us) := hid (HROW1.out.alloc _)
          have HVSA : Hid ((W1.alloc (.cells #[av] 52)).drew.ownsRow B tT 1 (.slice Au vs.length cu) vs.length vs) := hid (HVS1.out.alloc _)
          have HAVA : Hid ((W1.alloc (.cells #[av] 52)).drew.ownsRow B tA 3 av l.length (flatA l)) := hid (HAV.out.alloc _)
          have HACA := hid (show ∀ (j : Nat) v l, vs[j]? = some v → t[j]? = some l → (W1.alloc (.cells #[av] 52)).drew.ownsRow B tA 3 v l.length (flatA l) from fun j v l hv hl => (row_call (hac j v l hv hl) hb1).alloc _)
          have HVL := hid hvl
          have HM := hid hm
          have HU := hid hu
          have HT := hid ht
          have z1 := HP1.out.box.cell 1
          have lz := HP1.out.box.lt
          have cm := HROW1.out.cellAt m (by omega)
          rw [hu] at cm
          have lg := World.block_lt_of_cell? W1 _ cm
          have lg2 : gt ≠ W1.heap.size := by simp at lg; omega
          have hml : m < us.length := by omega
          have HUG : Hid ((Value.slice Au vs.length cu).ownBlock ≠ some gt) := hid (fun e => by
            obtain ⟨c1, h1⟩ := row_type HVSA.out e
            obtain ⟨c2, h2⟩ := row_type HROWA.out rfl
            exact type_ne h1 h2 (by decide) rfl)
          have HUP : Hid ((Value.slice Au vs.length cu).ownBlock ≠ some pb) := hid (Blk.apartRow HPA.out.box HVSA.out (by decide))
          have hW1 := HB1.out.size
          have tm : ((us.length : Int) - 1) = (m : Int) := by omega
          obtain ⟨Aa, ca, rfl⟩ := row_shape HAV.out
          clear hac hvs hvl hm hu ht hb1 hrn hra hav x1 lx zf
          go_wp2_with fail
          go_region_law (refine step_append_lies _ (by rfl) _ _ _ (by rfl) B 52 j0 _ 1 24 Tryd.underlying51 ji jz0 jz1 jz2 rfl (by omega) (.slice Au vs.length cu) vs.length vs (by rfl) HVSA.out ⟨W1.heap.size, 0, none⟩ 1 1 [.slice Aa l.length ca] (by rfl) (by rfl) (World.news_of_block (cs := #[.slice Aa l.length ca]) (t := 52) (fr := (0, 0)) (heap_alloc_new W1 _)) (by simp [Value.oneCell']) (by omega) (by unfold maxLen; omega) (by omega) (by simp; omega) (W1.heap.size + 1) (by simp) ?_; intro gg cap w5 hown5 hgrow5 hat5 hlt5; have HX5 := hid (HPA.out.box.grown hgrow5 (fun e => HUP.out e.symm)); have HR5 := hid (row_keep HROWA.out (fun g cs e hh => hgrow5.block g (lt_of_at hh) (fun e2 => HUG.out (e2.symm.trans e.symm)))); have y1 := HX5.out.cell 1; have ly := HX5.out.lt; have cy := HR5.out.cellAt m (by omega); rw [HU.out] at cy; have fy := HR5.out.frozenAt m)
          all_goals (
            have HAT := hid (HPA.out.addTx HROWA.out HUL.out ⟨HUS1.out, HUS.out.2⟩ HM.out.symm HU.out HT.out HVSA.out HVL.out HACA.out HAVA.out hown5 hgrow5 (hat5.imp (fun e => e.symm) (fun e => by subst e; simp [Value.ownBlock])) (by simp; omega) rfl)
            clear hown5 hgrow5 hat5
            go_wp2_with fail
            go_ret
            exact ⟨_, _, _, _, rfl, .inl ⟨HO.out, rfl⟩, HAT.out.1, (HK1.out.trans (KeptF.call (fun g hg => (HP1.out.frn g hg).1) ((Below.refl W1.heap.size W1).alloc (Nat.le_refl _) (.cells #[.slice Aa l.length ca] 52)))).trans HAT.out.2.1, (HB1.out.alloc (Nat.le_trans hBW hW1) (.cells #[.slice Aa l.length ca] 52)).drew.trans HAT.out.2.2⟩)
        · obtain rfl : r = [] := List.eq_nil_of_length_eq_zero (by omega)
          have hrt : Reads W (.slice (some ⟨bl, ol, none⟩) ([] : List (List UInt8)).length (c - 1)) (txs []) := reads_none rfl
          have HTX := hid (txCall _ [] W hrt (by simp) hrl2 hLW)
          clear hrt hrl2 hrl hLW
          go_enter Tryd.func23, Tryd.ntmps23
          go_wp2_with fail
          refine HTX.out.mono ?_
          rintro e W1 ⟨av, v, rfl, hto, hb1⟩
          have HP1 := hid (HP.out.call hb1)
          have HB1 := hid ((Below.refl B W).trans (hb1.mono hBW))
          have HK1 := hid (KeptF.call (fun g hg => (HP.out.frn g hg).1) hb1)
          have HO := hid (show lineStep p n [wTx] = none by
            unfold lineStep
            simp only
            rw [if_neg (by omega), if_neg (by omega), if_neg (by decide), if_neg (by simp)])
          obtain ⟨a, rfl⟩ : ∃ a, v = .iface 162 (.pointer (some a)) := by
            rcases hto with ⟨_, h, _⟩ | ⟨_, h⟩
            · exact absurd rfl h
            · exact h
          clear hto hb1
          go_wp2_with fail
          go_ret
          exact ⟨_, _, _, _, rfl, .inr ⟨HO.out, a, rfl⟩, HP1.out, HK1.out, HB1.out⟩
    · have t2 : (x == [116, 120]) = false := by
        have : x ≠ [116, 120] := hx2
        simpa using this
      have HO := hid (show lineStep p n (x :: r) = none by
        unfold lineStep
        simp only
        rw [if_neg (by omega), if_neg (by omega), if_neg hx, if_neg (by simp [hx2])])
      unfold str at hx0
      clear hx hx2
      go_enter Tryd.func23, Tryd.ntmps23
      go_wp2_with fail
      go_ret
      exact ⟨_, _, _, _, rfl, .inr ⟨HO.out, ae, rfl⟩, HP.out, KeptF.refl _ _, Below.refl _ _⟩
end Go.Proofs.YtdfkegflnebckaaDoor
