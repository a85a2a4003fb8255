/-
  ProgBack answers true: the law's own walk.
-/
import Derived.Test.YtdfkegflnebckaaDoorPFst
import Derived.Test.YtdfkegflnebckaaDoorPSame
import Derived.Test.YtdfkegflnebckaaDoorPParse2
import Derived.Deep.RegionHeld3
import Derived.Deep.DeepCutAuto
import Derived.Outline
namespace Go.Proofs.YtdfkegflnebckaaDoor
open Go.RowKit Go.Maps W
attribute [local go_sem ↓] Go.wp_at_zero Go.wp_at_succ

theorem eq_at (a : Addr) (w : World) : (binOp .eql 30 (.iface 68 (.pointer (some a))) .nilIface).run Tryd.prog w = .ok (.bool false) w := by
  simp only [binOp]
  simp [Op.equal, Op.maxDepth, go_sem]
  try kernel_rfl
theorem validYes (vc vt : Value) (p : Pg) (w : World) (hp : PgAt w vc vt p) (hL : LaidP w) (hok : pgOk p = true) :
    Calls Tryd.prog 7 #[.agg #[vc, vt]] w fun e w' => e = .returned .nilIface ∧ Below w.heap.size w w' := by
  refine (pgValid vc vt p w hp hL).mono ?_
  rintro e w' ⟨v, rfl, hv, hb⟩
  rcases hv with ⟨_, rfl⟩ | ⟨h, _⟩
  · exact ⟨rfl, hb⟩
  · rw [hok] at h; cases h
theorem validNo (vc vt : Value) (p : Pg) (w : World) (hp : PgAt w vc vt p) (hL : LaidP w) (hok : pgOk p = false) :
    Calls Tryd.prog 7 #[.agg #[vc, vt]] w fun e w' => ∃ a, e = .returned (.iface 162 (.pointer (some a))) ∧ Below w.heap.size w w' := by
  refine (pgValid vc vt p w hp hL).mono ?_
  rintro e w' ⟨v, rfl, hv, hb⟩
  rcases hv with ⟨h, _⟩ | ⟨_, a, rfl⟩
  · rw [hok] at h; cases h
  · exact ⟨a, rfl, hb⟩
theorem textYes (vc vt : Value) (p : Pg) (w : World) (hp : PgAt w vc vt p) (hL : LaidP w) (hok : pgOk p = true) :
    Calls Tryd.prog 6 #[.agg #[vc, vt]] w fun e w' => ∃ A n c, e = .returned (.tuple #[.slice A n c, .nilIface]) ∧ Reads w' (.slice A n c) (bys (pgText p)) ∧ n = (pgText p).length ∧ Below w.heap.size w w' := by
  refine (textCall vc vt p w hp hL).mono ?_
  rintro e w' ⟨x, v, rfl, hv, hr, ⟨A, n, c, rfl⟩, hb⟩
  rcases hv with ⟨_, rfl⟩ | ⟨h, _⟩
  · have h1 := reads_of_row (hr hok)
    refine ⟨A, n, c, rfl, h1, ?_, hb⟩
    obtain ⟨_, _, _, _, he, _⟩ := h1
    injection he with _ e2 _
    rw [e2, bys_len]
  · rw [hok] at h; cases h
theorem textNo (vc vt : Value) (p : Pg) (w : World) (hp : PgAt w vc vt p) (hL : LaidP w) (hok : pgOk p = false) :
    Calls Tryd.prog 6 #[.agg #[vc, vt]] w fun e w' => ∃ A n c a, e = .returned (.tuple #[.slice A n c, .iface 162 (.pointer (some a))]) ∧ Below w.heap.size w w' := by
  refine (textCall vc vt p w hp hL).mono ?_
  rintro e w' ⟨x, v, rfl, hv, hr, ⟨A, n, c, rfl⟩, hb⟩
  rcases hv with ⟨h, _⟩ | ⟨_, a, rfl⟩
  · rw [hok] at h; cases h
  · exact ⟨A, n, c, a, rfl, hb⟩
theorem parseYes (v : Value) (b : List UInt8) (q : Pg) (w : World) (hL : LaidP w) (hv : Reads w v (bys b)) (hb9 : b.length ≤ 9223372036854775807) (hq : parsePg b = some q) :
    Calls Tryd.prog 8 #[v] w fun e w' => ∃ vc vt, e = .returned (.tuple #[.agg #[vc, vt], .nilIface]) ∧ PgAt w' vc vt q ∧ Below w.heap.size w w' := by
  refine (parseCall v b w hL hv hb9).mono ?_
  rintro e w' ⟨pv, ev, rfl, ho, hb⟩
  rcases ho with ⟨vc, vt, q', h1, rfl, rfl, h4⟩ | ⟨h1, _⟩
  · rw [hq] at h1
    injection h1 with h1
    subst h1
    exact ⟨vc, vt, rfl, h4, hb⟩
  · rw [hq] at h1; cases h1
theorem parseNo (v : Value) (b : List UInt8) (w : World) (hL : LaidP w) (hv : Reads w v (bys b)) (hb9 : b.length ≤ 9223372036854775807) (hq : parsePg b = none) :
    Calls Tryd.prog 8 #[v] w fun e w' => ∃ ev, e = .returned (.tuple #[.agg #[.slice none 0 0, .slice none 0 0], ev]) ∧ ErrAny ev ∧ Below w.heap.size w w' := by
  refine (parseCall v b w hL hv hb9).mono ?_
  rintro e w' ⟨pv, ev, rfl, ho, hb⟩
  rcases ho with ⟨vc, vt, q', h1, _⟩ | ⟨_, rfl, h3⟩
  · rw [hq] at h1; cases h1
  · exact ⟨ev, rfl, h3, hb⟩
/-- What stands between the parts: the caller's program, its bytes, the package's variables. -/
structure Lw (w W : World) (Ac At bv : Value) (p : Pg) (b : List UInt8) : Prop where
  pg : PgAt W Ac At p
  bs : Reads W bv (bys b)
  laid : LaidP W
  box : Blk W w.heap.size tP #[Ac, At]
  below : Below w.heap.size w W
theorem Lw.call {w W W' : World} {Ac At bv : Value} {p : Pg} {b : List UInt8} (h : Lw w W Ac At bv p b) (hb : Below W.heap.size W W') : Lw w W' Ac At bv p b :=
  ⟨h.pg.below hb, h.bs.below hb (Nat.le_refl _), h.laid.below hb, h.box.below hb h.box.lt, h.below.trans (hb.mono h.below.size)⟩
theorem Lw.alloc {w W : World} {Ac At bv : Value} {p : Pg} {b : List UInt8} (h : Lw w W Ac At bv p b) (o : Obj) : Lw w (W.alloc o) Ac At bv p b := h.call ((Below.refl _ _).alloc (Nat.le_refl _) o)
theorem Lw.drew {w W : World} {Ac At bv : Value} {p : Pg} {b : List UInt8} (h : Lw w W Ac At bv p b) : Lw w W.drew Ac At bv p b := h.call (Below.refl _ _).drew
theorem Lw.start {w : World} {Ac At bv : Value} {p : Pg} {b : List UInt8} (hp : PgAt w Ac At p) (hb : Reads w bv (bys b)) (hL : LaidP w) : Lw w (w.alloc (.cells #[Ac, At] tP)) Ac At bv p b := by
  have h0 := (Below.refl w.heap.size w).alloc (Nat.le_refl _) (.cells #[Ac, At] tP)
  exact ⟨hp.below h0, hb.below h0 (Nat.le_refl _), hL.below h0, Blk.new w tP _, h0⟩

set_option maxHeartbeats 32000000 in
set_option maxRecDepth 100000 in
theorem progBack (vc vt bv : Value) (p : Pg) (b : List UInt8) (th i id : Int) (w : World) (hp : PgAt w vc vt p) (hbv : Reads w bv (bys b)) (hb9 : b.length ≤ 9223372036854775807) (hL : LaidP w) :
    Calls Tryd.prog 3 #[.agg #[vc, vt], bv, .int .i64 th, .int .i64 i, .int .i64 id] w fun e w' => e = .returned (.bool true) ∧ Below w.heap.size w w' := by
  obtain ⟨Ac, cc, hvc⟩ := hp.1.shape
  obtain ⟨At, ct, hvt⟩ := hp.2.shape
  obtain ⟨Ab, cb, hvb⟩ := hbv.shape
  subst hvc hvt hvb
  rw [ints_len] at hp ⊢
  rw [bys_len] at hbv ⊢
  have HW0 := hid (Lw.start hp hbv hL)
  have HF := hid (first18 _ HW0.out.laid)
  have HB9 := hid hb9
  have hN := fun W a => neq_nil 162 a (.inr rfl) W
  have hE := fun a W => eq_nil a W
  have hEA := fun a W => eq_at a W
  clear hp hbv hL
  go_enter Tryd.func3, Tryd.ntmps3
  go_wp2_with fail
  refine HF.out.mono ?_
  rintro e w1 ⟨rfl, hb1⟩
  have hl1 := HW0.out.call hb1
  have p0 := hl1.box.cell 0
  have p1 := hl1.box.cell 1
  have lp := hl1.box.lt
  have HS := hid (smallCall _ _ p w1 hl1.pg)
  have HW1 := hid hl1
  clear hb1 hl1 HF HW0
  go_wp2_with fail
  refine HS.out.mono ?_
  rintro e w2 ⟨v, rfl, hv, hb2⟩
  have HW2 := hid (HW1.out.call hb2)
  clear hb2 p0 p1 lp HS HW1
  rcases hv with rfl | rfl
  case inr =>
    go_wp2_with fail
    go_ret
    exact ⟨rfl, HW2.out.below⟩
  case inl =>
  by_cases hbig : 65536 < b.length
  · have t1 : decide ((65536 : Int) < (b.length : Int)) = true := by simp; omega
    clear hbig
    go_wp2_with fail
    go_ret
    exact ⟨rfl, HW2.out.below⟩
  have t1 : decide ((65536 : Int) < (b.length : Int)) = false := by simp; omega
  have HBIG := hid hbig
  clear hbig
  have p0 := HW2.out.box.cell 0
  have p1 := HW2.out.box.cell 1
  have lp := HW2.out.box.lt
  cases hok : pgOk p with
  | true =>
    have HT := hid (textYes _ _ p w2 HW2.out.pg HW2.out.laid hok)
    have HOK := hid hok
    clear hok
    go_wp2_with fail
    refine HT.out.mono ?_
    rintro e w3 ⟨A3, n3, c3, rfl, hr3, hn3, hb3⟩
    have HW3 := hid (HW2.out.call hb3)
    have HR3 := hid hr3
    clear hb3 HT p0 p1 lp hr3 hn3
    have p0 := HW3.out.box.cell 0
    have p1 := HW3.out.box.cell 1
    have lp := HW3.out.box.lt
    go_wp2_with fail
    go_region_held3 (fun w' => w'.cell? ⟨w.heap.size, 0, none⟩ = some (.slice Ac p.cells.length cc) ∧ w'.cell? ⟨w.heap.size, 1, none⟩ = some (.slice At p.threads.length ct))
      (first
        | (go_keep; done)
        | (go_split_ands; (with_reducible refine ⟨(hb4.cell ?_).trans ?_, (hb4.cell ?_).trans ?_⟩) <;> first | assumption | (simp; omega)))
      ((go_at_call 7; refine (validYes _ _ p _ HW3.out.drew.pg HW3.out.drew.laid HOK.out).mono ?_; rintro e w4 ⟨rfl, hb4⟩))
    have HW4 := hid (HW3.out.drew.call hb4)
    have HP4 := hid (parseYes _ (pgText p) p w4 HW4.out.laid (HR3.out.below ((Below.refl w3.heap.size w3).drew.trans hb4) (Nat.le_refl _)) (by have := pgText_len p HOK.out; omega) (parse_text p HOK.out))
    clear p0 p1 lp hb4 HR3 HW3 HW2
    go_wp2_with fail
    refine HP4.out.mono ?_
    rintro e w5 ⟨vq, vu, rfl, hq5, hb5⟩
    obtain ⟨Aq, cq, hvq⟩ := hq5.1.shape
    obtain ⟨Au, cu, hvu⟩ := hq5.2.shape
    subst hvq hvu
    rw [ints_len] at hq5 ⊢
    have HW5 := hid ((HW4.out.call hb5).alloc (.cells #[.slice Aq p.cells.length cq, .slice Au p.threads.length cu] tP))
    have hQ := Blk.new w5 tP #[.slice Aq p.cells.length cq, .slice Au p.threads.length cu]
    have hq0 := hQ.cell 0
    have hq1 := hQ.cell 1
    have p0 := HW5.out.box.cell 0
    have p1 := HW5.out.box.cell 1
    have lp := HW5.out.box.lt
    have HSP := hid (sameProg _ _ _ _ p _ HW5.out.pg (hq5.below ((Below.refl w5.heap.size w5).alloc (Nat.le_refl _) _)) HOK.out)
    clear hb5 hq5 HP4 HW4 hQ
    go_wp2_with fail
    refine HSP.out.mono ?_
    rintro e w7 ⟨rfl, hb7⟩
    have HW7 := hid (HW5.out.call hb7)
    clear hb7 HSP HW5 hq0 hq1 p0 p1 lp HOK
    go_upto_if 76 with fail
    cases hpb : parsePg b with
    | none =>
      have HP7 := hid (parseNo _ b w7 HW7.out.laid HW7.out.bs HB9.out hpb)
      clear hpb
      refine HP7.out.mono ?_
      rintro e w8 ⟨ev, rfl, he, hb8⟩
      have HW9 := hid ((HW7.out.call hb8).alloc (.cells #[.slice none 0 0, .slice none 0 0] tP))
      clear hb8 HP7 HW7
      obtain ⟨te, ae, rfl, rfl | rfl⟩ := he
      · go_wp2_with fail
        have HI := hid (fun W => idCall th i W)
        have HPL := hid (fun W => placeCall (idOf th i) W)
        have HPI := hid (fun W => placeCall id W)
        by_cases g1 : 0 ≤ th
        · by_cases g2 : th < 4
          · by_cases g3 : 0 ≤ i
            · by_cases g4 : i < 3
              · have e0 : idOf th i = 3 * th + i + 1 := by unfold idOf; rw [if_neg (by omega)]
                have hpl : ∀ r, placeIs (3 * th + i + 1) r → r = .tuple #[.int .i64 th, .int .i64 i, .bool true] := by
                  intro r hr
                  unfold placeIs at hr
                  rw [if_neg (by omega)] at hr
                  rw [hr, show (3 * th + i + 1 - 1) / 3 = th by omega, show (3 * th + i + 1 - 1) % 3 = i by omega]
                rw [e0] at HI HPL
                have q1 : decide (0 ≤ th) = true := by simpa using g1
                have q2 : decide (th < 4) = true := by simpa using g2
                have q3 : decide (0 ≤ i) = true := by simpa using g3
                have q4 : decide (i < 3) = true := by simpa using g4
                have HPP := hid hpl
                clear hpl e0 g1 g2 g3 g4
                go_wp2_with fail
                refine (HI.out _).mono ?_
                rintro e x1 ⟨rfl, rfl⟩
                go_wp2_with fail
                refine (HPL.out _).mono ?_
                rintro e x1 ⟨r, rfl, hr, rfl⟩
                obtain rfl := HPP.out r hr
                clear hr HPP HI HPL
                go_wp2_with fail
                refine (HPI.out _).mono ?_
                rintro e x1 ⟨r, rfl, hr, rfl⟩
                by_cases hid1 : id < 1 ∨ 12 < id
                · obtain rfl : r = .tuple #[.int .i64 0, .int .i64 0, .bool false] := by
                    unfold placeIs at hr
                    rw [if_pos hid1] at hr
                    exact hr
                  clear hr hid1 HPI
                  go_wp2_with fail
                  go_ret
                  exact ⟨rfl, HW9.out.below⟩
                · obtain rfl : r = .tuple #[.int .i64 ((id - 1) / 3), .int .i64 ((id - 1) % 3), .bool true] := by
                    unfold placeIs at hr
                    rw [if_neg hid1] at hr
                    exact hr
                  have HJ := hid (fun W => idCall ((id - 1) / 3) ((id - 1) % 3) W)
                  have e1 : idOf ((id - 1) / 3) ((id - 1) % 3) = id := by unfold idOf; rw [if_neg (by omega)]; omega
                  rw [e1] at HJ
                  have HNI := hid (show 1 ≤ id ∧ id ≤ 12 by omega)
                  generalize (id - 1) / 3 = ia at HJ ⊢
                  generalize (id - 1) % 3 = ib at HJ ⊢
                  clear hr hid1 HPI e1
                  go_wp2_with fail
                  all_goals (
                    refine (HJ.out _).mono ?_
                    rintro e x1 ⟨rfl, rfl⟩
                    go_wp2_with fail
                    go_ret
                    exact ⟨rfl, HW9.out.below⟩)
              · have e0 : idOf th i = 0 := by unfold idOf; rw [if_pos (by omega)]
                have hpl : ∀ r, placeIs 0 r → r = .tuple #[.int .i64 0, .int .i64 0, .bool false] := by
                  intro r hr
                  unfold placeIs at hr
                  rw [if_pos (by omega)] at hr
                  exact hr
                rw [e0] at HI HPL
                have q1 : decide (0 ≤ th) = true := by simp; omega
                have q2 : decide (th < 4) = true := by simp; omega
                have q3 : decide (0 ≤ i) = true := by simp; omega
                have q4 : decide (i < 3) = false := by simp; omega
                have HPP := hid hpl
                clear hpl e0 g1 g2 g3 g4
                go_wp2_with fail
                refine (HI.out _).mono ?_
                rintro e x1 ⟨rfl, rfl⟩
                go_wp2_with fail
                refine (HPL.out _).mono ?_
                rintro e x1 ⟨r, rfl, hr, rfl⟩
                obtain rfl := HPP.out r hr
                clear hr HPP HI HPL
                go_wp2_with fail
                refine (HPI.out _).mono ?_
                rintro e x1 ⟨r, rfl, hr, rfl⟩
                by_cases hid1 : id < 1 ∨ 12 < id
                · obtain rfl : r = .tuple #[.int .i64 0, .int .i64 0, .bool false] := by
                    unfold placeIs at hr
                    rw [if_pos hid1] at hr
                    exact hr
                  clear hr hid1 HPI
                  go_wp2_with fail
                  go_ret
                  exact ⟨rfl, HW9.out.below⟩
                · obtain rfl : r = .tuple #[.int .i64 ((id - 1) / 3), .int .i64 ((id - 1) % 3), .bool true] := by
                    unfold placeIs at hr
                    rw [if_neg hid1] at hr
                    exact hr
                  have HJ := hid (fun W => idCall ((id - 1) / 3) ((id - 1) % 3) W)
                  have e1 : idOf ((id - 1) / 3) ((id - 1) % 3) = id := by unfold idOf; rw [if_neg (by omega)]; omega
                  rw [e1] at HJ
                  have HNI := hid (show 1 ≤ id ∧ id ≤ 12 by omega)
                  generalize (id - 1) / 3 = ia at HJ ⊢
                  generalize (id - 1) % 3 = ib at HJ ⊢
                  clear hr hid1 HPI e1
                  go_wp2_with fail
                  all_goals (
                    refine (HJ.out _).mono ?_
                    rintro e x1 ⟨rfl, rfl⟩
                    go_wp2_with fail
                    go_ret
                    exact ⟨rfl, HW9.out.below⟩)
            · have e0 : idOf th i = 0 := by unfold idOf; rw [if_pos (by omega)]
              have hpl : ∀ r, placeIs 0 r → r = .tuple #[.int .i64 0, .int .i64 0, .bool false] := by
                intro r hr
                unfold placeIs at hr
                rw [if_pos (by omega)] at hr
                exact hr
              rw [e0] at HI HPL
              have q1 : decide (0 ≤ th) = true := by simp; omega
              have q2 : decide (th < 4) = true := by simp; omega
              have q3 : decide (0 ≤ i) = false := by simp; omega
              have HPP := hid hpl
              clear hpl e0 g1 g2 g3
              go_wp2_with fail
              refine (HI.out _).mono ?_
              rintro e x1 ⟨rfl, rfl⟩
              go_wp2_with fail
              refine (HPL.out _).mono ?_
              rintro e x1 ⟨r, rfl, hr, rfl⟩
              obtain rfl := HPP.out r hr
              clear hr HPP HI HPL
              go_wp2_with fail
              refine (HPI.out _).mono ?_
              rintro e x1 ⟨r, rfl, hr, rfl⟩
              by_cases hid1 : id < 1 ∨ 12 < id
              · obtain rfl : r = .tuple #[.int .i64 0, .int .i64 0, .bool false] := by
                  unfold placeIs at hr
                  rw [if_pos hid1] at hr
                  exact hr
                clear hr hid1 HPI
                go_wp2_with fail
                go_ret
                exact ⟨rfl, HW9.out.below⟩
              · obtain rfl : r = .tuple #[.int .i64 ((id - 1) / 3), .int .i64 ((id - 1) % 3), .bool true] := by
                  unfold placeIs at hr
                  rw [if_neg hid1] at hr
                  exact hr
                have HJ := hid (fun W => idCall ((id - 1) / 3) ((id - 1) % 3) W)
                have e1 : idOf ((id - 1) / 3) ((id - 1) % 3) = id := by unfold idOf; rw [if_neg (by omega)]; omega
                rw [e1] at HJ
                have HNI := hid (show 1 ≤ id ∧ id ≤ 12 by omega)
                generalize (id - 1) / 3 = ia at HJ ⊢
                generalize (id - 1) % 3 = ib at HJ ⊢
                clear hr hid1 HPI e1
                go_wp2_with fail
                all_goals (
                  refine (HJ.out _).mono ?_
                  rintro e x1 ⟨rfl, rfl⟩
                  go_wp2_with fail
                  go_ret
                  exact ⟨rfl, HW9.out.below⟩)
          · have e0 : idOf th i = 0 := by unfold idOf; rw [if_pos (by omega)]
            have hpl : ∀ r, placeIs 0 r → r = .tuple #[.int .i64 0, .int .i64 0, .bool false] := by
              intro r hr
              unfold placeIs at hr
              rw [if_pos (by omega)] at hr
              exact hr
            rw [e0] at HI HPL
            have q1 : decide (0 ≤ th) = true := by simp; omega
            have q2 : decide (th < 4) = false := by simp; omega
            have HPP := hid hpl
            clear hpl e0 g1 g2
            go_wp2_with fail
            refine (HI.out _).mono ?_
            rintro e x1 ⟨rfl, rfl⟩
            go_wp2_with fail
            refine (HPL.out _).mono ?_
            rintro e x1 ⟨r, rfl, hr, rfl⟩
            obtain rfl := HPP.out r hr
            clear hr HPP HI HPL
            go_wp2_with fail
            refine (HPI.out _).mono ?_
            rintro e x1 ⟨r, rfl, hr, rfl⟩
            by_cases hid1 : id < 1 ∨ 12 < id
            · obtain rfl : r = .tuple #[.int .i64 0, .int .i64 0, .bool false] := by
                unfold placeIs at hr
                rw [if_pos hid1] at hr
                exact hr
              clear hr hid1 HPI
              go_wp2_with fail
              go_ret
              exact ⟨rfl, HW9.out.below⟩
            · obtain rfl : r = .tuple #[.int .i64 ((id - 1) / 3), .int .i64 ((id - 1) % 3), .bool true] := by
                unfold placeIs at hr
                rw [if_neg hid1] at hr
                exact hr
              have HJ := hid (fun W => idCall ((id - 1) / 3) ((id - 1) % 3) W)
              have e1 : idOf ((id - 1) / 3) ((id - 1) % 3) = id := by unfold idOf; rw [if_neg (by omega)]; omega
              rw [e1] at HJ
              have HNI := hid (show 1 ≤ id ∧ id ≤ 12 by omega)
              generalize (id - 1) / 3 = ia at HJ ⊢
              generalize (id - 1) % 3 = ib at HJ ⊢
              clear hr hid1 HPI e1
              go_wp2_with fail
              all_goals (
                refine (HJ.out _).mono ?_
                rintro e x1 ⟨rfl, rfl⟩
                go_wp2_with fail
                go_ret
                exact ⟨rfl, HW9.out.below⟩)
        · have e0 : idOf th i = 0 := by unfold idOf; rw [if_pos (by omega)]
          have hpl : ∀ r, placeIs 0 r → r = .tuple #[.int .i64 0, .int .i64 0, .bool false] := by
            intro r hr
            unfold placeIs at hr
            rw [if_pos (by omega)] at hr
            exact hr
          rw [e0] at HI HPL
          have q1 : decide (0 ≤ th) = false := by simp; omega
          have HPP := hid hpl
          clear hpl e0 g1
          go_wp2_with fail
          refine (HI.out _).mono ?_
          rintro e x1 ⟨rfl, rfl⟩
          go_wp2_with fail
          refine (HPL.out _).mono ?_
          rintro e x1 ⟨r, rfl, hr, rfl⟩
          obtain rfl := HPP.out r hr
          clear hr HPP HI HPL
          go_wp2_with fail
          refine (HPI.out _).mono ?_
          rintro e x1 ⟨r, rfl, hr, rfl⟩
          by_cases hid1 : id < 1 ∨ 12 < id
          · obtain rfl : r = .tuple #[.int .i64 0, .int .i64 0, .bool false] := by
              unfold placeIs at hr
              rw [if_pos hid1] at hr
              exact hr
            clear hr hid1 HPI
            go_wp2_with fail
            go_ret
            exact ⟨rfl, HW9.out.below⟩
          · obtain rfl : r = .tuple #[.int .i64 ((id - 1) / 3), .int .i64 ((id - 1) % 3), .bool true] := by
              unfold placeIs at hr
              rw [if_neg hid1] at hr
              exact hr
            have HJ := hid (fun W => idCall ((id - 1) / 3) ((id - 1) % 3) W)
            have e1 : idOf ((id - 1) / 3) ((id - 1) % 3) = id := by unfold idOf; rw [if_neg (by omega)]; omega
            rw [e1] at HJ
            have HNI := hid (show 1 ≤ id ∧ id ≤ 12 by omega)
            generalize (id - 1) / 3 = ia at HJ ⊢
            generalize (id - 1) % 3 = ib at HJ ⊢
            clear hr hid1 HPI e1
            go_wp2_with fail
            all_goals (
              refine (HJ.out _).mono ?_
              rintro e x1 ⟨rfl, rfl⟩
              go_wp2_with fail
              go_ret
              exact ⟨rfl, HW9.out.below⟩)
      · go_wp2_with fail
        have HI := hid (fun W => idCall th i W)
        have HPL := hid (fun W => placeCall (idOf th i) W)
        have HPI := hid (fun W => placeCall id W)
        by_cases g1 : 0 ≤ th
        · by_cases g2 : th < 4
          · by_cases g3 : 0 ≤ i
            · by_cases g4 : i < 3
              · have e0 : idOf th i = 3 * th + i + 1 := by unfold idOf; rw [if_neg (by omega)]
                have hpl : ∀ r, placeIs (3 * th + i + 1) r → r = .tuple #[.int .i64 th, .int .i64 i, .bool true] := by
                  intro r hr
                  unfold placeIs at hr
                  rw [if_neg (by omega)] at hr
                  rw [hr, show (3 * th + i + 1 - 1) / 3 = th by omega, show (3 * th + i + 1 - 1) % 3 = i by omega]
                rw [e0] at HI HPL
                have q1 : decide (0 ≤ th) = true := by simpa using g1
                have q2 : decide (th < 4) = true := by simpa using g2
                have q3 : decide (0 ≤ i) = true := by simpa using g3
                have q4 : decide (i < 3) = true := by simpa using g4
                have HPP := hid hpl
                clear hpl e0 g1 g2 g3 g4
                go_wp2_with fail
                refine (HI.out _).mono ?_
                rintro e x1 ⟨rfl, rfl⟩
                go_wp2_with fail
                refine (HPL.out _).mono ?_
                rintro e x1 ⟨r, rfl, hr, rfl⟩
                obtain rfl := HPP.out r hr
                clear hr HPP HI HPL
                go_wp2_with fail
                refine (HPI.out _).mono ?_
                rintro e x1 ⟨r, rfl, hr, rfl⟩
                by_cases hid1 : id < 1 ∨ 12 < id
                · obtain rfl : r = .tuple #[.int .i64 0, .int .i64 0, .bool false] := by
                    unfold placeIs at hr
                    rw [if_pos hid1] at hr
                    exact hr
                  clear hr hid1 HPI
                  go_wp2_with fail
                  go_ret
                  exact ⟨rfl, HW9.out.below⟩
                · obtain rfl : r = .tuple #[.int .i64 ((id - 1) / 3), .int .i64 ((id - 1) % 3), .bool true] := by
                    unfold placeIs at hr
                    rw [if_neg hid1] at hr
                    exact hr
                  have HJ := hid (fun W => idCall ((id - 1) / 3) ((id - 1) % 3) W)
                  have e1 : idOf ((id - 1) / 3) ((id - 1) % 3) = id := by unfold idOf; rw [if_neg (by omega)]; omega
                  rw [e1] at HJ
                  have HNI := hid (show 1 ≤ id ∧ id ≤ 12 by omega)
                  generalize (id - 1) / 3 = ia at HJ ⊢
                  generalize (id - 1) % 3 = ib at HJ ⊢
                  clear hr hid1 HPI e1
                  go_wp2_with fail
                  all_goals (
                    refine (HJ.out _).mono ?_
                    rintro e x1 ⟨rfl, rfl⟩
                    go_wp2_with fail
                    go_ret
                    exact ⟨rfl, HW9.out.below⟩)
              · have e0 : idOf th i = 0 := by unfold idOf; rw [if_pos (by omega)]
                have hpl : ∀ r, placeIs 0 r → r = .tuple #[.int .i64 0, .int .i64 0, .bool false] := by
                  intro r hr
                  unfold placeIs at hr
                  rw [if_pos (by omega)] at hr
                  exact hr
                rw [e0] at HI HPL
                have q1 : decide (0 ≤ th) = true := by simp; omega
                have q2 : decide (th < 4) = true := by simp; omega
                have q3 : decide (0 ≤ i) = true := by simp; omega
                have q4 : decide (i < 3) = false := by simp; omega
                have HPP := hid hpl
                clear hpl e0 g1 g2 g3 g4
                go_wp2_with fail
                refine (HI.out _).mono ?_
                rintro e x1 ⟨rfl, rfl⟩
                go_wp2_with fail
                refine (HPL.out _).mono ?_
                rintro e x1 ⟨r, rfl, hr, rfl⟩
                obtain rfl := HPP.out r hr
                clear hr HPP HI HPL
                go_wp2_with fail
                refine (HPI.out _).mono ?_
                rintro e x1 ⟨r, rfl, hr, rfl⟩
                by_cases hid1 : id < 1 ∨ 12 < id
                · obtain rfl : r = .tuple #[.int .i64 0, .int .i64 0, .bool false] := by
                    unfold placeIs at hr
                    rw [if_pos hid1] at hr
                    exact hr
                  clear hr hid1 HPI
                  go_wp2_with fail
                  go_ret
                  exact ⟨rfl, HW9.out.below⟩
                · obtain rfl : r = .tuple #[.int .i64 ((id - 1) / 3), .int .i64 ((id - 1) % 3), .bool true] := by
                    unfold placeIs at hr
                    rw [if_neg hid1] at hr
                    exact hr
                  have HJ := hid (fun W => idCall ((id - 1) / 3) ((id - 1) % 3) W)
                  have e1 : idOf ((id - 1) / 3) ((id - 1) % 3) = id := by unfold idOf; rw [if_neg (by omega)]; omega
                  rw [e1] at HJ
                  have HNI := hid (show 1 ≤ id ∧ id ≤ 12 by omega)
                  generalize (id - 1) / 3 = ia at HJ ⊢
                  generalize (id - 1) % 3 = ib at HJ ⊢
                  clear hr hid1 HPI e1
                  go_wp2_with fail
                  all_goals (
                    refine (HJ.out _).mono ?_
                    rintro e x1 ⟨rfl, rfl⟩
                    go_wp2_with fail
                    go_ret
                    exact ⟨rfl, HW9.out.below⟩)
            · have e0 : idOf th i = 0 := by unfold idOf; rw [if_pos (by omega)]
              have hpl : ∀ r, placeIs 0 r → r = .tuple #[.int .i64 0, .int .i64 0, .bool false] := by
                intro r hr
                unfold placeIs at hr
                rw [if_pos (by omega)] at hr
                exact hr
              rw [e0] at HI HPL
              have q1 : decide (0 ≤ th) = true := by simp; omega
              have q2 : decide (th < 4) = true := by simp; omega
              have q3 : decide (0 ≤ i) = false := by simp; omega
              have HPP := hid hpl
              clear hpl e0 g1 g2 g3
              go_wp2_with fail
              refine (HI.out _).mono ?_
              rintro e x1 ⟨rfl, rfl⟩
              go_wp2_with fail
              refine (HPL.out _).mono ?_
              rintro e x1 ⟨r, rfl, hr, rfl⟩
              obtain rfl := HPP.out r hr
              clear hr HPP HI HPL
              go_wp2_with fail
              refine (HPI.out _).mono ?_
              rintro e x1 ⟨r, rfl, hr, rfl⟩
              by_cases hid1 : id < 1 ∨ 12 < id
              · obtain rfl : r = .tuple #[.int .i64 0, .int .i64 0, .bool false] := by
                  unfold placeIs at hr
                  rw [if_pos hid1] at hr
                  exact hr
                clear hr hid1 HPI
                go_wp2_with fail
                go_ret
                exact ⟨rfl, HW9.out.below⟩
              · obtain rfl : r = .tuple #[.int .i64 ((id - 1) / 3), .int .i64 ((id - 1) % 3), .bool true] := by
                  unfold placeIs at hr
                  rw [if_neg hid1] at hr
                  exact hr
                have HJ := hid (fun W => idCall ((id - 1) / 3) ((id - 1) % 3) W)
                have e1 : idOf ((id - 1) / 3) ((id - 1) % 3) = id := by unfold idOf; rw [if_neg (by omega)]; omega
                rw [e1] at HJ
                have HNI := hid (show 1 ≤ id ∧ id ≤ 12 by omega)
                generalize (id - 1) / 3 = ia at HJ ⊢
                generalize (id - 1) % 3 = ib at HJ ⊢
                clear hr hid1 HPI e1
                go_wp2_with fail
                all_goals (
                  refine (HJ.out _).mono ?_
                  rintro e x1 ⟨rfl, rfl⟩
                  go_wp2_with fail
                  go_ret
                  exact ⟨rfl, HW9.out.below⟩)
          · have e0 : idOf th i = 0 := by unfold idOf; rw [if_pos (by omega)]
            have hpl : ∀ r, placeIs 0 r → r = .tuple #[.int .i64 0, .int .i64 0, .bool false] := by
              intro r hr
              unfold placeIs at hr
              rw [if_pos (by omega)] at hr
              exact hr
            rw [e0] at HI HPL
            have q1 : decide (0 ≤ th) = true := by simp; omega
            have q2 : decide (th < 4) = false := by simp; omega
            have HPP := hid hpl
            clear hpl e0 g1 g2
            go_wp2_with fail
            refine (HI.out _).mono ?_
            rintro e x1 ⟨rfl, rfl⟩
            go_wp2_with fail
            refine (HPL.out _).mono ?_
            rintro e x1 ⟨r, rfl, hr, rfl⟩
            obtain rfl := HPP.out r hr
            clear hr HPP HI HPL
            go_wp2_with fail
            refine (HPI.out _).mono ?_
            rintro e x1 ⟨r, rfl, hr, rfl⟩
            by_cases hid1 : id < 1 ∨ 12 < id
            · obtain rfl : r = .tuple #[.int .i64 0, .int .i64 0, .bool false] := by
                unfold placeIs at hr
                rw [if_pos hid1] at hr
                exact hr
              clear hr hid1 HPI
              go_wp2_with fail
              go_ret
              exact ⟨rfl, HW9.out.below⟩
            · obtain rfl : r = .tuple #[.int .i64 ((id - 1) / 3), .int .i64 ((id - 1) % 3), .bool true] := by
                unfold placeIs at hr
                rw [if_neg hid1] at hr
                exact hr
              have HJ := hid (fun W => idCall ((id - 1) / 3) ((id - 1) % 3) W)
              have e1 : idOf ((id - 1) / 3) ((id - 1) % 3) = id := by unfold idOf; rw [if_neg (by omega)]; omega
              rw [e1] at HJ
              have HNI := hid (show 1 ≤ id ∧ id ≤ 12 by omega)
              generalize (id - 1) / 3 = ia at HJ ⊢
              generalize (id - 1) % 3 = ib at HJ ⊢
              clear hr hid1 HPI e1
              go_wp2_with fail
              all_goals (
                refine (HJ.out _).mono ?_
                rintro e x1 ⟨rfl, rfl⟩
                go_wp2_with fail
                go_ret
                exact ⟨rfl, HW9.out.below⟩)
        · have e0 : idOf th i = 0 := by unfold idOf; rw [if_pos (by omega)]
          have hpl : ∀ r, placeIs 0 r → r = .tuple #[.int .i64 0, .int .i64 0, .bool false] := by
            intro r hr
            unfold placeIs at hr
            rw [if_pos (by omega)] at hr
            exact hr
          rw [e0] at HI HPL
          have q1 : decide (0 ≤ th) = false := by simp; omega
          have HPP := hid hpl
          clear hpl e0 g1
          go_wp2_with fail
          refine (HI.out _).mono ?_
          rintro e x1 ⟨rfl, rfl⟩
          go_wp2_with fail
          refine (HPL.out _).mono ?_
          rintro e x1 ⟨r, rfl, hr, rfl⟩
          obtain rfl := HPP.out r hr
          clear hr HPP HI HPL
          go_wp2_with fail
          refine (HPI.out _).mono ?_
          rintro e x1 ⟨r, rfl, hr, rfl⟩
          by_cases hid1 : id < 1 ∨ 12 < id
          · obtain rfl : r = .tuple #[.int .i64 0, .int .i64 0, .bool false] := by
              unfold placeIs at hr
              rw [if_pos hid1] at hr
              exact hr
            clear hr hid1 HPI
            go_wp2_with fail
            go_ret
            exact ⟨rfl, HW9.out.below⟩
          · obtain rfl : r = .tuple #[.int .i64 ((id - 1) / 3), .int .i64 ((id - 1) % 3), .bool true] := by
              unfold placeIs at hr
              rw [if_neg hid1] at hr
              exact hr
            have HJ := hid (fun W => idCall ((id - 1) / 3) ((id - 1) % 3) W)
            have e1 : idOf ((id - 1) / 3) ((id - 1) % 3) = id := by unfold idOf; rw [if_neg (by omega)]; omega
            rw [e1] at HJ
            have HNI := hid (show 1 ≤ id ∧ id ≤ 12 by omega)
            generalize (id - 1) / 3 = ia at HJ ⊢
            generalize (id - 1) % 3 = ib at HJ ⊢
            clear hr hid1 HPI e1
            go_wp2_with fail
            all_goals (
              refine (HJ.out _).mono ?_
              rintro e x1 ⟨rfl, rfl⟩
              go_wp2_with fail
              go_ret
              exact ⟨rfl, HW9.out.below⟩)
    | some q =>
      have hqo := parse_ok hpb
      have HP7 := hid (parseYes _ b q w7 HW7.out.laid HW7.out.bs HB9.out hpb)
      have HQO := hid hqo
      clear hpb hqo
      refine HP7.out.mono ?_
      rintro e w8 ⟨x1, y1, rfl, hq8, hb8⟩
      obtain ⟨Aq, cq, hx1⟩ := hq8.1.shape
      obtain ⟨Au, cu, hy1⟩ := hq8.2.shape
      subst hx1 hy1
      rw [ints_len] at hq8 ⊢
      have HW8 := hid ((HW7.out.call hb8).alloc (.cells #[.slice Aq q.cells.length cq, .slice Au q.threads.length cu] tP))
      have HQ8 := hid (Lw.start (b := []) hq8 (show Reads w8 (.slice none 0 0) (bys []) from Reads.nil w8) (HW7.out.call hb8).laid)
      have q0 := HQ8.out.box.cell 0
      have q1 := HQ8.out.box.cell 1
      have lq := HQ8.out.box.lt
      have HT8 := hid (textYes _ _ q _ HQ8.out.pg HQ8.out.laid HQO.out)
      clear hb8 hq8 HP7 HW7
      go_wp2_with fail
      refine HT8.out.mono ?_
      rintro e wa ⟨A3', n3', c3', rfl, hr3, hn3, hb3⟩
      have HWA := hid (HW8.out.call hb3)
      have HQA := hid (HQ8.out.call hb3)
      have HPA := hid (parseYes _ (pgText q) q wa HWA.out.laid hr3 (by have := pgText_len q HQO.out; omega) (parse_text q HQO.out))
      clear hb3 hr3 hn3 HT8 HW8 HQ8 q0 q1 lq
      go_wp2_with fail
      refine HPA.out.mono ?_
      rintro e wb ⟨x2, y2, rfl, hqb, hbb⟩
      obtain ⟨Ar, cr, hx1⟩ := hqb.1.shape
      obtain ⟨Av, cv, hy1⟩ := hqb.2.shape
      subst hx1 hy1
      rw [ints_len] at hqb ⊢
      have HWB := hid ((HWA.out.call hbb).alloc (.cells #[.slice Ar q.cells.length cr, .slice Av q.threads.length cv] tP))
      have HQB := hid ((HQA.out.call hbb).alloc (.cells #[.slice Ar q.cells.length cr, .slice Av q.threads.length cv] tP))
      have hR := Blk.new wb tP #[.slice Ar q.cells.length cr, .slice Av q.threads.length cv]
      have r0 := hR.cell 0
      have r1 := hR.cell 1
      have q0 := HQB.out.box.cell 0
      have q1 := HQB.out.box.cell 1
      have lq := HQB.out.box.lt
      have HSP := hid (sameProg _ _ _ _ q _ HQB.out.pg (hqb.below ((Below.refl wb.heap.size wb).alloc (Nat.le_refl _) _)) HQO.out)
      clear hbb hqb HPA HWA HQA hR
      go_wp2_with fail
      refine HSP.out.mono ?_
      rintro e wc ⟨rfl, hbc⟩
      have HW9 := hid (HWB.out.call hbc)
      clear hbc HSP HWB HQB r0 r1 q0 q1 lq HQO
      go_wp2_with fail
      have HI := hid (fun W => idCall th i W)
      have HPL := hid (fun W => placeCall (idOf th i) W)
      have HPI := hid (fun W => placeCall id W)
      by_cases g1 : 0 ≤ th
      · by_cases g2 : th < 4
        · by_cases g3 : 0 ≤ i
          · by_cases g4 : i < 3
            · have e0 : idOf th i = 3 * th + i + 1 := by unfold idOf; rw [if_neg (by omega)]
              have hpl : ∀ r, placeIs (3 * th + i + 1) r → r = .tuple #[.int .i64 th, .int .i64 i, .bool true] := by
                intro r hr
                unfold placeIs at hr
                rw [if_neg (by omega)] at hr
                rw [hr, show (3 * th + i + 1 - 1) / 3 = th by omega, show (3 * th + i + 1 - 1) % 3 = i by omega]
              rw [e0] at HI HPL
              have q1 : decide (0 ≤ th) = true := by simpa using g1
              have q2 : decide (th < 4) = true := by simpa using g2
              have q3 : decide (0 ≤ i) = true := by simpa using g3
              have q4 : decide (i < 3) = true := by simpa using g4
              have HPP := hid hpl
              clear hpl e0 g1 g2 g3 g4
              go_wp2_with fail
              refine (HI.out _).mono ?_
              rintro e x1 ⟨rfl, rfl⟩
              go_wp2_with fail
              refine (HPL.out _).mono ?_
              rintro e x1 ⟨r, rfl, hr, rfl⟩
              obtain rfl := HPP.out r hr
              clear hr HPP HI HPL
              go_wp2_with fail
              refine (HPI.out _).mono ?_
              rintro e x1 ⟨r, rfl, hr, rfl⟩
              by_cases hid1 : id < 1 ∨ 12 < id
              · obtain rfl : r = .tuple #[.int .i64 0, .int .i64 0, .bool false] := by
                  unfold placeIs at hr
                  rw [if_pos hid1] at hr
                  exact hr
                clear hr hid1 HPI
                go_wp2_with fail
                go_ret
                exact ⟨rfl, HW9.out.below⟩
              · obtain rfl : r = .tuple #[.int .i64 ((id - 1) / 3), .int .i64 ((id - 1) % 3), .bool true] := by
                  unfold placeIs at hr
                  rw [if_neg hid1] at hr
                  exact hr
                have HJ := hid (fun W => idCall ((id - 1) / 3) ((id - 1) % 3) W)
                have e1 : idOf ((id - 1) / 3) ((id - 1) % 3) = id := by unfold idOf; rw [if_neg (by omega)]; omega
                rw [e1] at HJ
                have HNI := hid (show 1 ≤ id ∧ id ≤ 12 by omega)
                generalize (id - 1) / 3 = ia at HJ ⊢
                generalize (id - 1) % 3 = ib at HJ ⊢
                clear hr hid1 HPI e1
                go_wp2_with fail
                all_goals (
                  refine (HJ.out _).mono ?_
                  rintro e x1 ⟨rfl, rfl⟩
                  go_wp2_with fail
                  go_ret
                  exact ⟨rfl, HW9.out.below⟩)
            · have e0 : idOf th i = 0 := by unfold idOf; rw [if_pos (by omega)]
              have hpl : ∀ r, placeIs 0 r → r = .tuple #[.int .i64 0, .int .i64 0, .bool false] := by
                intro r hr
                unfold placeIs at hr
                rw [if_pos (by omega)] at hr
                exact hr
              rw [e0] at HI HPL
              have q1 : decide (0 ≤ th) = true := by simp; omega
              have q2 : decide (th < 4) = true := by simp; omega
              have q3 : decide (0 ≤ i) = true := by simp; omega
              have q4 : decide (i < 3) = false := by simp; omega
              have HPP := hid hpl
              clear hpl e0 g1 g2 g3 g4
              go_wp2_with fail
              refine (HI.out _).mono ?_
              rintro e x1 ⟨rfl, rfl⟩
              go_wp2_with fail
              refine (HPL.out _).mono ?_
              rintro e x1 ⟨r, rfl, hr, rfl⟩
              obtain rfl := HPP.out r hr
              clear hr HPP HI HPL
              go_wp2_with fail
              refine (HPI.out _).mono ?_
              rintro e x1 ⟨r, rfl, hr, rfl⟩
              by_cases hid1 : id < 1 ∨ 12 < id
              · obtain rfl : r = .tuple #[.int .i64 0, .int .i64 0, .bool false] := by
                  unfold placeIs at hr
                  rw [if_pos hid1] at hr
                  exact hr
                clear hr hid1 HPI
                go_wp2_with fail
                go_ret
                exact ⟨rfl, HW9.out.below⟩
              · obtain rfl : r = .tuple #[.int .i64 ((id - 1) / 3), .int .i64 ((id - 1) % 3), .bool true] := by
                  unfold placeIs at hr
                  rw [if_neg hid1] at hr
                  exact hr
                have HJ := hid (fun W => idCall ((id - 1) / 3) ((id - 1) % 3) W)
                have e1 : idOf ((id - 1) / 3) ((id - 1) % 3) = id := by unfold idOf; rw [if_neg (by omega)]; omega
                rw [e1] at HJ
                have HNI := hid (show 1 ≤ id ∧ id ≤ 12 by omega)
                generalize (id - 1) / 3 = ia at HJ ⊢
                generalize (id - 1) % 3 = ib at HJ ⊢
                clear hr hid1 HPI e1
                go_wp2_with fail
                all_goals (
                  refine (HJ.out _).mono ?_
                  rintro e x1 ⟨rfl, rfl⟩
                  go_wp2_with fail
                  go_ret
                  exact ⟨rfl, HW9.out.below⟩)
          · have e0 : idOf th i = 0 := by unfold idOf; rw [if_pos (by omega)]
            have hpl : ∀ r, placeIs 0 r → r = .tuple #[.int .i64 0, .int .i64 0, .bool false] := by
              intro r hr
              unfold placeIs at hr
              rw [if_pos (by omega)] at hr
              exact hr
            rw [e0] at HI HPL
            have q1 : decide (0 ≤ th) = true := by simp; omega
            have q2 : decide (th < 4) = true := by simp; omega
            have q3 : decide (0 ≤ i) = false := by simp; omega
            have HPP := hid hpl
            clear hpl e0 g1 g2 g3
            go_wp2_with fail
            refine (HI.out _).mono ?_
            rintro e x1 ⟨rfl, rfl⟩
            go_wp2_with fail
            refine (HPL.out _).mono ?_
            rintro e x1 ⟨r, rfl, hr, rfl⟩
            obtain rfl := HPP.out r hr
            clear hr HPP HI HPL
            go_wp2_with fail
            refine (HPI.out _).mono ?_
            rintro e x1 ⟨r, rfl, hr, rfl⟩
            by_cases hid1 : id < 1 ∨ 12 < id
            · obtain rfl : r = .tuple #[.int .i64 0, .int .i64 0, .bool false] := by
                unfold placeIs at hr
                rw [if_pos hid1] at hr
                exact hr
              clear hr hid1 HPI
              go_wp2_with fail
              go_ret
              exact ⟨rfl, HW9.out.below⟩
            · obtain rfl : r = .tuple #[.int .i64 ((id - 1) / 3), .int .i64 ((id - 1) % 3), .bool true] := by
                unfold placeIs at hr
                rw [if_neg hid1] at hr
                exact hr
              have HJ := hid (fun W => idCall ((id - 1) / 3) ((id - 1) % 3) W)
              have e1 : idOf ((id - 1) / 3) ((id - 1) % 3) = id := by unfold idOf; rw [if_neg (by omega)]; omega
              rw [e1] at HJ
              have HNI := hid (show 1 ≤ id ∧ id ≤ 12 by omega)
              generalize (id - 1) / 3 = ia at HJ ⊢
              generalize (id - 1) % 3 = ib at HJ ⊢
              clear hr hid1 HPI e1
              go_wp2_with fail
              all_goals (
                refine (HJ.out _).mono ?_
                rintro e x1 ⟨rfl, rfl⟩
                go_wp2_with fail
                go_ret
                exact ⟨rfl, HW9.out.below⟩)
        · have e0 : idOf th i = 0 := by unfold idOf; rw [if_pos (by omega)]
          have hpl : ∀ r, placeIs 0 r → r = .tuple #[.int .i64 0, .int .i64 0, .bool false] := by
            intro r hr
            unfold placeIs at hr
            rw [if_pos (by omega)] at hr
            exact hr
          rw [e0] at HI HPL
          have q1 : decide (0 ≤ th) = true := by simp; omega
          have q2 : decide (th < 4) = false := by simp; omega
          have HPP := hid hpl
          clear hpl e0 g1 g2
          go_wp2_with fail
          refine (HI.out _).mono ?_
          rintro e x1 ⟨rfl, rfl⟩
          go_wp2_with fail
          refine (HPL.out _).mono ?_
          rintro e x1 ⟨r, rfl, hr, rfl⟩
          obtain rfl := HPP.out r hr
          clear hr HPP HI HPL
          go_wp2_with fail
          refine (HPI.out _).mono ?_
          rintro e x1 ⟨r, rfl, hr, rfl⟩
          by_cases hid1 : id < 1 ∨ 12 < id
          · obtain rfl : r = .tuple #[.int .i64 0, .int .i64 0, .bool false] := by
              unfold placeIs at hr
              rw [if_pos hid1] at hr
              exact hr
            clear hr hid1 HPI
            go_wp2_with fail
            go_ret
            exact ⟨rfl, HW9.out.below⟩
          · obtain rfl : r = .tuple #[.int .i64 ((id - 1) / 3), .int .i64 ((id - 1) % 3), .bool true] := by
              unfold placeIs at hr
              rw [if_neg hid1] at hr
              exact hr
            have HJ := hid (fun W => idCall ((id - 1) / 3) ((id - 1) % 3) W)
            have e1 : idOf ((id - 1) / 3) ((id - 1) % 3) = id := by unfold idOf; rw [if_neg (by omega)]; omega
            rw [e1] at HJ
            have HNI := hid (show 1 ≤ id ∧ id ≤ 12 by omega)
            generalize (id - 1) / 3 = ia at HJ ⊢
            generalize (id - 1) % 3 = ib at HJ ⊢
            clear hr hid1 HPI e1
            go_wp2_with fail
            all_goals (
              refine (HJ.out _).mono ?_
              rintro e x1 ⟨rfl, rfl⟩
              go_wp2_with fail
              go_ret
              exact ⟨rfl, HW9.out.below⟩)
      · have e0 : idOf th i = 0 := by unfold idOf; rw [if_pos (by omega)]
        have hpl : ∀ r, placeIs 0 r → r = .tuple #[.int .i64 0, .int .i64 0, .bool false] := by
          intro r hr
          unfold placeIs at hr
          rw [if_pos (by omega)] at hr
          exact hr
        rw [e0] at HI HPL
        have q1 : decide (0 ≤ th) = false := by simp; omega
        have HPP := hid hpl
        clear hpl e0 g1
        go_wp2_with fail
        refine (HI.out _).mono ?_
        rintro e x1 ⟨rfl, rfl⟩
        go_wp2_with fail
        refine (HPL.out _).mono ?_
        rintro e x1 ⟨r, rfl, hr, rfl⟩
        obtain rfl := HPP.out r hr
        clear hr HPP HI HPL
        go_wp2_with fail
        refine (HPI.out _).mono ?_
        rintro e x1 ⟨r, rfl, hr, rfl⟩
        by_cases hid1 : id < 1 ∨ 12 < id
        · obtain rfl : r = .tuple #[.int .i64 0, .int .i64 0, .bool false] := by
            unfold placeIs at hr
            rw [if_pos hid1] at hr
            exact hr
          clear hr hid1 HPI
          go_wp2_with fail
          go_ret
          exact ⟨rfl, HW9.out.below⟩
        · obtain rfl : r = .tuple #[.int .i64 ((id - 1) / 3), .int .i64 ((id - 1) % 3), .bool true] := by
            unfold placeIs at hr
            rw [if_neg hid1] at hr
            exact hr
          have HJ := hid (fun W => idCall ((id - 1) / 3) ((id - 1) % 3) W)
          have e1 : idOf ((id - 1) / 3) ((id - 1) % 3) = id := by unfold idOf; rw [if_neg (by omega)]; omega
          rw [e1] at HJ
          have HNI := hid (show 1 ≤ id ∧ id ≤ 12 by omega)
          generalize (id - 1) / 3 = ia at HJ ⊢
          generalize (id - 1) % 3 = ib at HJ ⊢
          clear hr hid1 HPI e1
          go_wp2_with fail
          all_goals (
            refine (HJ.out _).mono ?_
            rintro e x1 ⟨rfl, rfl⟩
            go_wp2_with fail
            go_ret
            exact ⟨rfl, HW9.out.below⟩)
  | false =>
    have HT := hid (textNo _ _ p w2 HW2.out.pg HW2.out.laid hok)
    have HOK := hid hok
    clear hok
    go_wp2_with fail
    refine HT.out.mono ?_
    rintro e w3 ⟨A3, n3, c3, a3, rfl, hb3⟩
    have HW3 := hid (HW2.out.call hb3)
    clear hb3 HT p0 p1 lp
    have p0 := HW3.out.box.cell 0
    have p1 := HW3.out.box.cell 1
    have lp := HW3.out.box.lt
    go_wp2_with fail
    go_region_held3 (fun w' => w'.cell? ⟨w.heap.size, 0, none⟩ = some (.slice Ac p.cells.length cc) ∧ w'.cell? ⟨w.heap.size, 1, none⟩ = some (.slice At p.threads.length ct))
      (first
        | (go_keep; done)
        | (go_split_ands; (with_reducible refine ⟨(hb4.cell ?_).trans ?_, (hb4.cell ?_).trans ?_⟩) <;> first | assumption | (simp; omega)))
      ((go_at_call 7; refine (validNo _ _ p _ HW3.out.drew.pg HW3.out.drew.laid HOK.out).mono ?_; rintro e w7 ⟨a7, rfl, hb4⟩))
    have HW7 := hid (HW3.out.drew.call hb4)
    clear p0 p1 lp hb4 HW3 HW2 HOK
    go_upto_if 76 with fail
    cases hpb : parsePg b with
    | none =>
      have HP7 := hid (parseNo _ b w7 HW7.out.laid HW7.out.bs HB9.out hpb)
      clear hpb
      refine HP7.out.mono ?_
      rintro e w8 ⟨ev, rfl, he, hb8⟩
      have HW9 := hid ((HW7.out.call hb8).alloc (.cells #[.slice none 0 0, .slice none 0 0] tP))
      clear hb8 HP7 HW7
      obtain ⟨te, ae, rfl, rfl | rfl⟩ := he
      · go_wp2_with fail
        have HI := hid (fun W => idCall th i W)
        have HPL := hid (fun W => placeCall (idOf th i) W)
        have HPI := hid (fun W => placeCall id W)
        by_cases g1 : 0 ≤ th
        · by_cases g2 : th < 4
          · by_cases g3 : 0 ≤ i
            · by_cases g4 : i < 3
              · have e0 : idOf th i = 3 * th + i + 1 := by unfold idOf; rw [if_neg (by omega)]
                have hpl : ∀ r, placeIs (3 * th + i + 1) r → r = .tuple #[.int .i64 th, .int .i64 i, .bool true] := by
                  intro r hr
                  unfold placeIs at hr
                  rw [if_neg (by omega)] at hr
                  rw [hr, show (3 * th + i + 1 - 1) / 3 = th by omega, show (3 * th + i + 1 - 1) % 3 = i by omega]
                rw [e0] at HI HPL
                have q1 : decide (0 ≤ th) = true := by simpa using g1
                have q2 : decide (th < 4) = true := by simpa using g2
                have q3 : decide (0 ≤ i) = true := by simpa using g3
                have q4 : decide (i < 3) = true := by simpa using g4
                have HPP := hid hpl
                clear hpl e0 g1 g2 g3 g4
                go_wp2_with fail
                refine (HI.out _).mono ?_
                rintro e x1 ⟨rfl, rfl⟩
                go_wp2_with fail
                refine (HPL.out _).mono ?_
                rintro e x1 ⟨r, rfl, hr, rfl⟩
                obtain rfl := HPP.out r hr
                clear hr HPP HI HPL
                go_wp2_with fail
                refine (HPI.out _).mono ?_
                rintro e x1 ⟨r, rfl, hr, rfl⟩
                by_cases hid1 : id < 1 ∨ 12 < id
                · obtain rfl : r = .tuple #[.int .i64 0, .int .i64 0, .bool false] := by
                    unfold placeIs at hr
                    rw [if_pos hid1] at hr
                    exact hr
                  clear hr hid1 HPI
                  go_wp2_with fail
                  go_ret
                  exact ⟨rfl, HW9.out.below⟩
                · obtain rfl : r = .tuple #[.int .i64 ((id - 1) / 3), .int .i64 ((id - 1) % 3), .bool true] := by
                    unfold placeIs at hr
                    rw [if_neg hid1] at hr
                    exact hr
                  have HJ := hid (fun W => idCall ((id - 1) / 3) ((id - 1) % 3) W)
                  have e1 : idOf ((id - 1) / 3) ((id - 1) % 3) = id := by unfold idOf; rw [if_neg (by omega)]; omega
                  rw [e1] at HJ
                  have HNI := hid (show 1 ≤ id ∧ id ≤ 12 by omega)
                  generalize (id - 1) / 3 = ia at HJ ⊢
                  generalize (id - 1) % 3 = ib at HJ ⊢
                  clear hr hid1 HPI e1
                  go_wp2_with fail
                  all_goals (
                    refine (HJ.out _).mono ?_
                    rintro e x1 ⟨rfl, rfl⟩
                    go_wp2_with fail
                    go_ret
                    exact ⟨rfl, HW9.out.below⟩)
              · have e0 : idOf th i = 0 := by unfold idOf; rw [if_pos (by omega)]
                have hpl : ∀ r, placeIs 0 r → r = .tuple #[.int .i64 0, .int .i64 0, .bool false] := by
                  intro r hr
                  unfold placeIs at hr
                  rw [if_pos (by omega)] at hr
                  exact hr
                rw [e0] at HI HPL
                have q1 : decide (0 ≤ th) = true := by simp; omega
                have q2 : decide (th < 4) = true := by simp; omega
                have q3 : decide (0 ≤ i) = true := by simp; omega
                have q4 : decide (i < 3) = false := by simp; omega
                have HPP := hid hpl
                clear hpl e0 g1 g2 g3 g4
                go_wp2_with fail
                refine (HI.out _).mono ?_
                rintro e x1 ⟨rfl, rfl⟩
                go_wp2_with fail
                refine (HPL.out _).mono ?_
                rintro e x1 ⟨r, rfl, hr, rfl⟩
                obtain rfl := HPP.out r hr
                clear hr HPP HI HPL
                go_wp2_with fail
                refine (HPI.out _).mono ?_
                rintro e x1 ⟨r, rfl, hr, rfl⟩
                by_cases hid1 : id < 1 ∨ 12 < id
                · obtain rfl : r = .tuple #[.int .i64 0, .int .i64 0, .bool false] := by
                    unfold placeIs at hr
                    rw [if_pos hid1] at hr
                    exact hr
                  clear hr hid1 HPI
                  go_wp2_with fail
                  go_ret
                  exact ⟨rfl, HW9.out.below⟩
                · obtain rfl : r = .tuple #[.int .i64 ((id - 1) / 3), .int .i64 ((id - 1) % 3), .bool true] := by
                    unfold placeIs at hr
                    rw [if_neg hid1] at hr
                    exact hr
                  have HJ := hid (fun W => idCall ((id - 1) / 3) ((id - 1) % 3) W)
                  have e1 : idOf ((id - 1) / 3) ((id - 1) % 3) = id := by unfold idOf; rw [if_neg (by omega)]; omega
                  rw [e1] at HJ
                  have HNI := hid (show 1 ≤ id ∧ id ≤ 12 by omega)
                  generalize (id - 1) / 3 = ia at HJ ⊢
                  generalize (id - 1) % 3 = ib at HJ ⊢
                  clear hr hid1 HPI e1
                  go_wp2_with fail
                  all_goals (
                    refine (HJ.out _).mono ?_
                    rintro e x1 ⟨rfl, rfl⟩
                    go_wp2_with fail
                    go_ret
                    exact ⟨rfl, HW9.out.below⟩)
            · have e0 : idOf th i = 0 := by unfold idOf; rw [if_pos (by omega)]
              have hpl : ∀ r, placeIs 0 r → r = .tuple #[.int .i64 0, .int .i64 0, .bool false] := by
                intro r hr
                unfold placeIs at hr
                rw [if_pos (by omega)] at hr
                exact hr
              rw [e0] at HI HPL
              have q1 : decide (0 ≤ th) = true := by simp; omega
              have q2 : decide (th < 4) = true := by simp; omega
              have q3 : decide (0 ≤ i) = false := by simp; omega
              have HPP := hid hpl
              clear hpl e0 g1 g2 g3
              go_wp2_with fail
              refine (HI.out _).mono ?_
              rintro e x1 ⟨rfl, rfl⟩
              go_wp2_with fail
              refine (HPL.out _).mono ?_
              rintro e x1 ⟨r, rfl, hr, rfl⟩
              obtain rfl := HPP.out r hr
              clear hr HPP HI HPL
              go_wp2_with fail
              refine (HPI.out _).mono ?_
              rintro e x1 ⟨r, rfl, hr, rfl⟩
              by_cases hid1 : id < 1 ∨ 12 < id
              · obtain rfl : r = .tuple #[.int .i64 0, .int .i64 0, .bool false] := by
                  unfold placeIs at hr
                  rw [if_pos hid1] at hr
                  exact hr
                clear hr hid1 HPI
                go_wp2_with fail
                go_ret
                exact ⟨rfl, HW9.out.below⟩
              · obtain rfl : r = .tuple #[.int .i64 ((id - 1) / 3), .int .i64 ((id - 1) % 3), .bool true] := by
                  unfold placeIs at hr
                  rw [if_neg hid1] at hr
                  exact hr
                have HJ := hid (fun W => idCall ((id - 1) / 3) ((id - 1) % 3) W)
                have e1 : idOf ((id - 1) / 3) ((id - 1) % 3) = id := by unfold idOf; rw [if_neg (by omega)]; omega
                rw [e1] at HJ
                have HNI := hid (show 1 ≤ id ∧ id ≤ 12 by omega)
                generalize (id - 1) / 3 = ia at HJ ⊢
                generalize (id - 1) % 3 = ib at HJ ⊢
                clear hr hid1 HPI e1
                go_wp2_with fail
                all_goals (
                  refine (HJ.out _).mono ?_
                  rintro e x1 ⟨rfl, rfl⟩
                  go_wp2_with fail
                  go_ret
                  exact ⟨rfl, HW9.out.below⟩)
          · have e0 : idOf th i = 0 := by unfold idOf; rw [if_pos (by omega)]
            have hpl : ∀ r, placeIs 0 r → r = .tuple #[.int .i64 0, .int .i64 0, .bool false] := by
              intro r hr
              unfold placeIs at hr
              rw [if_pos (by omega)] at hr
              exact hr
            rw [e0] at HI HPL
            have q1 : decide (0 ≤ th) = true := by simp; omega
            have q2 : decide (th < 4) = false := by simp; omega
            have HPP := hid hpl
            clear hpl e0 g1 g2
            go_wp2_with fail
            refine (HI.out _).mono ?_
            rintro e x1 ⟨rfl, rfl⟩
            go_wp2_with fail
            refine (HPL.out _).mono ?_
            rintro e x1 ⟨r, rfl, hr, rfl⟩
            obtain rfl := HPP.out r hr
            clear hr HPP HI HPL
            go_wp2_with fail
            refine (HPI.out _).mono ?_
            rintro e x1 ⟨r, rfl, hr, rfl⟩
            by_cases hid1 : id < 1 ∨ 12 < id
            · obtain rfl : r = .tuple #[.int .i64 0, .int .i64 0, .bool false] := by
                unfold placeIs at hr
                rw [if_pos hid1] at hr
                exact hr
              clear hr hid1 HPI
              go_wp2_with fail
              go_ret
              exact ⟨rfl, HW9.out.below⟩
            · obtain rfl : r = .tuple #[.int .i64 ((id - 1) / 3), .int .i64 ((id - 1) % 3), .bool true] := by
                unfold placeIs at hr
                rw [if_neg hid1] at hr
                exact hr
              have HJ := hid (fun W => idCall ((id - 1) / 3) ((id - 1) % 3) W)
              have e1 : idOf ((id - 1) / 3) ((id - 1) % 3) = id := by unfold idOf; rw [if_neg (by omega)]; omega
              rw [e1] at HJ
              have HNI := hid (show 1 ≤ id ∧ id ≤ 12 by omega)
              generalize (id - 1) / 3 = ia at HJ ⊢
              generalize (id - 1) % 3 = ib at HJ ⊢
              clear hr hid1 HPI e1
              go_wp2_with fail
              all_goals (
                refine (HJ.out _).mono ?_
                rintro e x1 ⟨rfl, rfl⟩
                go_wp2_with fail
                go_ret
                exact ⟨rfl, HW9.out.below⟩)
        · have e0 : idOf th i = 0 := by unfold idOf; rw [if_pos (by omega)]
          have hpl : ∀ r, placeIs 0 r → r = .tuple #[.int .i64 0, .int .i64 0, .bool false] := by
            intro r hr
            unfold placeIs at hr
            rw [if_pos (by omega)] at hr
            exact hr
          rw [e0] at HI HPL
          have q1 : decide (0 ≤ th) = false := by simp; omega
          have HPP := hid hpl
          clear hpl e0 g1
          go_wp2_with fail
          refine (HI.out _).mono ?_
          rintro e x1 ⟨rfl, rfl⟩
          go_wp2_with fail
          refine (HPL.out _).mono ?_
          rintro e x1 ⟨r, rfl, hr, rfl⟩
          obtain rfl := HPP.out r hr
          clear hr HPP HI HPL
          go_wp2_with fail
          refine (HPI.out _).mono ?_
          rintro e x1 ⟨r, rfl, hr, rfl⟩
          by_cases hid1 : id < 1 ∨ 12 < id
          · obtain rfl : r = .tuple #[.int .i64 0, .int .i64 0, .bool false] := by
              unfold placeIs at hr
              rw [if_pos hid1] at hr
              exact hr
            clear hr hid1 HPI
            go_wp2_with fail
            go_ret
            exact ⟨rfl, HW9.out.below⟩
          · obtain rfl : r = .tuple #[.int .i64 ((id - 1) / 3), .int .i64 ((id - 1) % 3), .bool true] := by
              unfold placeIs at hr
              rw [if_neg hid1] at hr
              exact hr
            have HJ := hid (fun W => idCall ((id - 1) / 3) ((id - 1) % 3) W)
            have e1 : idOf ((id - 1) / 3) ((id - 1) % 3) = id := by unfold idOf; rw [if_neg (by omega)]; omega
            rw [e1] at HJ
            have HNI := hid (show 1 ≤ id ∧ id ≤ 12 by omega)
            generalize (id - 1) / 3 = ia at HJ ⊢
            generalize (id - 1) % 3 = ib at HJ ⊢
            clear hr hid1 HPI e1
            go_wp2_with fail
            all_goals (
              refine (HJ.out _).mono ?_
              rintro e x1 ⟨rfl, rfl⟩
              go_wp2_with fail
              go_ret
              exact ⟨rfl, HW9.out.below⟩)
      · go_wp2_with fail
        have HI := hid (fun W => idCall th i W)
        have HPL := hid (fun W => placeCall (idOf th i) W)
        have HPI := hid (fun W => placeCall id W)
        by_cases g1 : 0 ≤ th
        · by_cases g2 : th < 4
          · by_cases g3 : 0 ≤ i
            · by_cases g4 : i < 3
              · have e0 : idOf th i = 3 * th + i + 1 := by unfold idOf; rw [if_neg (by omega)]
                have hpl : ∀ r, placeIs (3 * th + i + 1) r → r = .tuple #[.int .i64 th, .int .i64 i, .bool true] := by
                  intro r hr
                  unfold placeIs at hr
                  rw [if_neg (by omega)] at hr
                  rw [hr, show (3 * th + i + 1 - 1) / 3 = th by omega, show (3 * th + i + 1 - 1) % 3 = i by omega]
                rw [e0] at HI HPL
                have q1 : decide (0 ≤ th) = true := by simpa using g1
                have q2 : decide (th < 4) = true := by simpa using g2
                have q3 : decide (0 ≤ i) = true := by simpa using g3
                have q4 : decide (i < 3) = true := by simpa using g4
                have HPP := hid hpl
                clear hpl e0 g1 g2 g3 g4
                go_wp2_with fail
                refine (HI.out _).mono ?_
                rintro e x1 ⟨rfl, rfl⟩
                go_wp2_with fail
                refine (HPL.out _).mono ?_
                rintro e x1 ⟨r, rfl, hr, rfl⟩
                obtain rfl := HPP.out r hr
                clear hr HPP HI HPL
                go_wp2_with fail
                refine (HPI.out _).mono ?_
                rintro e x1 ⟨r, rfl, hr, rfl⟩
                by_cases hid1 : id < 1 ∨ 12 < id
                · obtain rfl : r = .tuple #[.int .i64 0, .int .i64 0, .bool false] := by
                    unfold placeIs at hr
                    rw [if_pos hid1] at hr
                    exact hr
                  clear hr hid1 HPI
                  go_wp2_with fail
                  go_ret
                  exact ⟨rfl, HW9.out.below⟩
                · obtain rfl : r = .tuple #[.int .i64 ((id - 1) / 3), .int .i64 ((id - 1) % 3), .bool true] := by
                    unfold placeIs at hr
                    rw [if_neg hid1] at hr
                    exact hr
                  have HJ := hid (fun W => idCall ((id - 1) / 3) ((id - 1) % 3) W)
                  have e1 : idOf ((id - 1) / 3) ((id - 1) % 3) = id := by unfold idOf; rw [if_neg (by omega)]; omega
                  rw [e1] at HJ
                  have HNI := hid (show 1 ≤ id ∧ id ≤ 12 by omega)
                  generalize (id - 1) / 3 = ia at HJ ⊢
                  generalize (id - 1) % 3 = ib at HJ ⊢
                  clear hr hid1 HPI e1
                  go_wp2_with fail
                  all_goals (
                    refine (HJ.out _).mono ?_
                    rintro e x1 ⟨rfl, rfl⟩
                    go_wp2_with fail
                    go_ret
                    exact ⟨rfl, HW9.out.below⟩)
              · have e0 : idOf th i = 0 := by unfold idOf; rw [if_pos (by omega)]
                have hpl : ∀ r, placeIs 0 r → r = .tuple #[.int .i64 0, .int .i64 0, .bool false] := by
                  intro r hr
                  unfold placeIs at hr
                  rw [if_pos (by omega)] at hr
                  exact hr
                rw [e0] at HI HPL
                have q1 : decide (0 ≤ th) = true := by simp; omega
                have q2 : decide (th < 4) = true := by simp; omega
                have q3 : decide (0 ≤ i) = true := by simp; omega
                have q4 : decide (i < 3) = false := by simp; omega
                have HPP := hid hpl
                clear hpl e0 g1 g2 g3 g4
                go_wp2_with fail
                refine (HI.out _).mono ?_
                rintro e x1 ⟨rfl, rfl⟩
                go_wp2_with fail
                refine (HPL.out _).mono ?_
                rintro e x1 ⟨r, rfl, hr, rfl⟩
                obtain rfl := HPP.out r hr
                clear hr HPP HI HPL
                go_wp2_with fail
                refine (HPI.out _).mono ?_
                rintro e x1 ⟨r, rfl, hr, rfl⟩
                by_cases hid1 : id < 1 ∨ 12 < id
                · obtain rfl : r = .tuple #[.int .i64 0, .int .i64 0, .bool false] := by
                    unfold placeIs at hr
                    rw [if_pos hid1] at hr
                    exact hr
                  clear hr hid1 HPI
                  go_wp2_with fail
                  go_ret
                  exact ⟨rfl, HW9.out.below⟩
                · obtain rfl : r = .tuple #[.int .i64 ((id - 1) / 3), .int .i64 ((id - 1) % 3), .bool true] := by
                    unfold placeIs at hr
                    rw [if_neg hid1] at hr
                    exact hr
                  have HJ := hid (fun W => idCall ((id - 1) / 3) ((id - 1) % 3) W)
                  have e1 : idOf ((id - 1) / 3) ((id - 1) % 3) = id := by unfold idOf; rw [if_neg (by omega)]; omega
                  rw [e1] at HJ
                  have HNI := hid (show 1 ≤ id ∧ id ≤ 12 by omega)
                  generalize (id - 1) / 3 = ia at HJ ⊢
                  generalize (id - 1) % 3 = ib at HJ ⊢
                  clear hr hid1 HPI e1
                  go_wp2_with fail
                  all_goals (
                    refine (HJ.out _).mono ?_
                    rintro e x1 ⟨rfl, rfl⟩
                    go_wp2_with fail
                    go_ret
                    exact ⟨rfl, HW9.out.below⟩)
            · have e0 : idOf th i = 0 := by unfold idOf; rw [if_pos (by omega)]
              have hpl : ∀ r, placeIs 0 r → r = .tuple #[.int .i64 0, .int .i64 0, .bool false] := by
                intro r hr
                unfold placeIs at hr
                rw [if_pos (by omega)] at hr
                exact hr
              rw [e0] at HI HPL
              have q1 : decide (0 ≤ th) = true := by simp; omega
              have q2 : decide (th < 4) = true := by simp; omega
              have q3 : decide (0 ≤ i) = false := by simp; omega
              have HPP := hid hpl
              clear hpl e0 g1 g2 g3
              go_wp2_with fail
              refine (HI.out _).mono ?_
              rintro e x1 ⟨rfl, rfl⟩
              go_wp2_with fail
              refine (HPL.out _).mono ?_
              rintro e x1 ⟨r, rfl, hr, rfl⟩
              obtain rfl := HPP.out r hr
              clear hr HPP HI HPL
              go_wp2_with fail
              refine (HPI.out _).mono ?_
              rintro e x1 ⟨r, rfl, hr, rfl⟩
              by_cases hid1 : id < 1 ∨ 12 < id
              · obtain rfl : r = .tuple #[.int .i64 0, .int .i64 0, .bool false] := by
                  unfold placeIs at hr
                  rw [if_pos hid1] at hr
                  exact hr
                clear hr hid1 HPI
                go_wp2_with fail
                go_ret
                exact ⟨rfl, HW9.out.below⟩
              · obtain rfl : r = .tuple #[.int .i64 ((id - 1) / 3), .int .i64 ((id - 1) % 3), .bool true] := by
                  unfold placeIs at hr
                  rw [if_neg hid1] at hr
                  exact hr
                have HJ := hid (fun W => idCall ((id - 1) / 3) ((id - 1) % 3) W)
                have e1 : idOf ((id - 1) / 3) ((id - 1) % 3) = id := by unfold idOf; rw [if_neg (by omega)]; omega
                rw [e1] at HJ
                have HNI := hid (show 1 ≤ id ∧ id ≤ 12 by omega)
                generalize (id - 1) / 3 = ia at HJ ⊢
                generalize (id - 1) % 3 = ib at HJ ⊢
                clear hr hid1 HPI e1
                go_wp2_with fail
                all_goals (
                  refine (HJ.out _).mono ?_
                  rintro e x1 ⟨rfl, rfl⟩
                  go_wp2_with fail
                  go_ret
                  exact ⟨rfl, HW9.out.below⟩)
          · have e0 : idOf th i = 0 := by unfold idOf; rw [if_pos (by omega)]
            have hpl : ∀ r, placeIs 0 r → r = .tuple #[.int .i64 0, .int .i64 0, .bool false] := by
              intro r hr
              unfold placeIs at hr
              rw [if_pos (by omega)] at hr
              exact hr
            rw [e0] at HI HPL
            have q1 : decide (0 ≤ th) = true := by simp; omega
            have q2 : decide (th < 4) = false := by simp; omega
            have HPP := hid hpl
            clear hpl e0 g1 g2
            go_wp2_with fail
            refine (HI.out _).mono ?_
            rintro e x1 ⟨rfl, rfl⟩
            go_wp2_with fail
            refine (HPL.out _).mono ?_
            rintro e x1 ⟨r, rfl, hr, rfl⟩
            obtain rfl := HPP.out r hr
            clear hr HPP HI HPL
            go_wp2_with fail
            refine (HPI.out _).mono ?_
            rintro e x1 ⟨r, rfl, hr, rfl⟩
            by_cases hid1 : id < 1 ∨ 12 < id
            · obtain rfl : r = .tuple #[.int .i64 0, .int .i64 0, .bool false] := by
                unfold placeIs at hr
                rw [if_pos hid1] at hr
                exact hr
              clear hr hid1 HPI
              go_wp2_with fail
              go_ret
              exact ⟨rfl, HW9.out.below⟩
            · obtain rfl : r = .tuple #[.int .i64 ((id - 1) / 3), .int .i64 ((id - 1) % 3), .bool true] := by
                unfold placeIs at hr
                rw [if_neg hid1] at hr
                exact hr
              have HJ := hid (fun W => idCall ((id - 1) / 3) ((id - 1) % 3) W)
              have e1 : idOf ((id - 1) / 3) ((id - 1) % 3) = id := by unfold idOf; rw [if_neg (by omega)]; omega
              rw [e1] at HJ
              have HNI := hid (show 1 ≤ id ∧ id ≤ 12 by omega)
              generalize (id - 1) / 3 = ia at HJ ⊢
              generalize (id - 1) % 3 = ib at HJ ⊢
              clear hr hid1 HPI e1
              go_wp2_with fail
              all_goals (
                refine (HJ.out _).mono ?_
                rintro e x1 ⟨rfl, rfl⟩
                go_wp2_with fail
                go_ret
                exact ⟨rfl, HW9.out.below⟩)
        · have e0 : idOf th i = 0 := by unfold idOf; rw [if_pos (by omega)]
          have hpl : ∀ r, placeIs 0 r → r = .tuple #[.int .i64 0, .int .i64 0, .bool false] := by
            intro r hr
            unfold placeIs at hr
            rw [if_pos (by omega)] at hr
            exact hr
          rw [e0] at HI HPL
          have q1 : decide (0 ≤ th) = false := by simp; omega
          have HPP := hid hpl
          clear hpl e0 g1
          go_wp2_with fail
          refine (HI.out _).mono ?_
          rintro e x1 ⟨rfl, rfl⟩
          go_wp2_with fail
          refine (HPL.out _).mono ?_
          rintro e x1 ⟨r, rfl, hr, rfl⟩
          obtain rfl := HPP.out r hr
          clear hr HPP HI HPL
          go_wp2_with fail
          refine (HPI.out _).mono ?_
          rintro e x1 ⟨r, rfl, hr, rfl⟩
          by_cases hid1 : id < 1 ∨ 12 < id
          · obtain rfl : r = .tuple #[.int .i64 0, .int .i64 0, .bool false] := by
              unfold placeIs at hr
              rw [if_pos hid1] at hr
              exact hr
            clear hr hid1 HPI
            go_wp2_with fail
            go_ret
            exact ⟨rfl, HW9.out.below⟩
          · obtain rfl : r = .tuple #[.int .i64 ((id - 1) / 3), .int .i64 ((id - 1) % 3), .bool true] := by
              unfold placeIs at hr
              rw [if_neg hid1] at hr
              exact hr
            have HJ := hid (fun W => idCall ((id - 1) / 3) ((id - 1) % 3) W)
            have e1 : idOf ((id - 1) / 3) ((id - 1) % 3) = id := by unfold idOf; rw [if_neg (by omega)]; omega
            rw [e1] at HJ
            have HNI := hid (show 1 ≤ id ∧ id ≤ 12 by omega)
            generalize (id - 1) / 3 = ia at HJ ⊢
            generalize (id - 1) % 3 = ib at HJ ⊢
            clear hr hid1 HPI e1
            go_wp2_with fail
            all_goals (
              refine (HJ.out _).mono ?_
              rintro e x1 ⟨rfl, rfl⟩
              go_wp2_with fail
              go_ret
              exact ⟨rfl, HW9.out.below⟩)
    | some q =>
      have hqo := parse_ok hpb
      have HP7 := hid (parseYes _ b q w7 HW7.out.laid HW7.out.bs HB9.out hpb)
      have HQO := hid hqo
      clear hpb hqo
      refine HP7.out.mono ?_
      rintro e w8 ⟨x1, y1, rfl, hq8, hb8⟩
      obtain ⟨Aq, cq, hx1⟩ := hq8.1.shape
      obtain ⟨Au, cu, hy1⟩ := hq8.2.shape
      subst hx1 hy1
      rw [ints_len] at hq8 ⊢
      have HW8 := hid ((HW7.out.call hb8).alloc (.cells #[.slice Aq q.cells.length cq, .slice Au q.threads.length cu] tP))
      have HQ8 := hid (Lw.start (b := []) hq8 (show Reads w8 (.slice none 0 0) (bys []) from Reads.nil w8) (HW7.out.call hb8).laid)
      have q0 := HQ8.out.box.cell 0
      have q1 := HQ8.out.box.cell 1
      have lq := HQ8.out.box.lt
      have HT8 := hid (textYes _ _ q _ HQ8.out.pg HQ8.out.laid HQO.out)
      clear hb8 hq8 HP7 HW7
      go_wp2_with fail
      refine HT8.out.mono ?_
      rintro e wa ⟨A3', n3', c3', rfl, hr3, hn3, hb3⟩
      have HWA := hid (HW8.out.call hb3)
      have HQA := hid (HQ8.out.call hb3)
      have HPA := hid (parseYes _ (pgText q) q wa HWA.out.laid hr3 (by have := pgText_len q HQO.out; omega) (parse_text q HQO.out))
      clear hb3 hr3 hn3 HT8 HW8 HQ8 q0 q1 lq
      go_wp2_with fail
      refine HPA.out.mono ?_
      rintro e wb ⟨x2, y2, rfl, hqb, hbb⟩
      obtain ⟨Ar, cr, hx1⟩ := hqb.1.shape
      obtain ⟨Av, cv, hy1⟩ := hqb.2.shape
      subst hx1 hy1
      rw [ints_len] at hqb ⊢
      have HWB := hid ((HWA.out.call hbb).alloc (.cells #[.slice Ar q.cells.length cr, .slice Av q.threads.length cv] tP))
      have HQB := hid ((HQA.out.call hbb).alloc (.cells #[.slice Ar q.cells.length cr, .slice Av q.threads.length cv] tP))
      have hR := Blk.new wb tP #[.slice Ar q.cells.length cr, .slice Av q.threads.length cv]
      have r0 := hR.cell 0
      have r1 := hR.cell 1
      have q0 := HQB.out.box.cell 0
      have q1 := HQB.out.box.cell 1
      have lq := HQB.out.box.lt
      have HSP := hid (sameProg _ _ _ _ q _ HQB.out.pg (hqb.below ((Below.refl wb.heap.size wb).alloc (Nat.le_refl _) _)) HQO.out)
      clear hbb hqb HPA HWA HQA hR
      go_wp2_with fail
      refine HSP.out.mono ?_
      rintro e wc ⟨rfl, hbc⟩
      have HW9 := hid (HWB.out.call hbc)
      clear hbc HSP HWB HQB r0 r1 q0 q1 lq HQO
      go_wp2_with fail
      have HI := hid (fun W => idCall th i W)
      have HPL := hid (fun W => placeCall (idOf th i) W)
      have HPI := hid (fun W => placeCall id W)
      by_cases g1 : 0 ≤ th
      · by_cases g2 : th < 4
        · by_cases g3 : 0 ≤ i
          · by_cases g4 : i < 3
            · have e0 : idOf th i = 3 * th + i + 1 := by unfold idOf; rw [if_neg (by omega)]
              have hpl : ∀ r, placeIs (3 * th + i + 1) r → r = .tuple #[.int .i64 th, .int .i64 i, .bool true] := by
                intro r hr
                unfold placeIs at hr
                rw [if_neg (by omega)] at hr
                rw [hr, show (3 * th + i + 1 - 1) / 3 = th by omega, show (3 * th + i + 1 - 1) % 3 = i by omega]
              rw [e0] at HI HPL
              have q1 : decide (0 ≤ th) = true := by simpa using g1
              have q2 : decide (th < 4) = true := by simpa using g2
              have q3 : decide (0 ≤ i) = true := by simpa using g3
              have q4 : decide (i < 3) = true := by simpa using g4
              have HPP := hid hpl
              clear hpl e0 g1 g2 g3 g4
              go_wp2_with fail
              refine (HI.out _).mono ?_
              rintro e x1 ⟨rfl, rfl⟩
              go_wp2_with fail
              refine (HPL.out _).mono ?_
              rintro e x1 ⟨r, rfl, hr, rfl⟩
              obtain rfl := HPP.out r hr
              clear hr HPP HI HPL
              go_wp2_with fail
              refine (HPI.out _).mono ?_
              rintro e x1 ⟨r, rfl, hr, rfl⟩
              by_cases hid1 : id < 1 ∨ 12 < id
              · obtain rfl : r = .tuple #[.int .i64 0, .int .i64 0, .bool false] := by
                  unfold placeIs at hr
                  rw [if_pos hid1] at hr
                  exact hr
                clear hr hid1 HPI
                go_wp2_with fail
                go_ret
                exact ⟨rfl, HW9.out.below⟩
              · obtain rfl : r = .tuple #[.int .i64 ((id - 1) / 3), .int .i64 ((id - 1) % 3), .bool true] := by
                  unfold placeIs at hr
                  rw [if_neg hid1] at hr
                  exact hr
                have HJ := hid (fun W => idCall ((id - 1) / 3) ((id - 1) % 3) W)
                have e1 : idOf ((id - 1) / 3) ((id - 1) % 3) = id := by unfold idOf; rw [if_neg (by omega)]; omega
                rw [e1] at HJ
                have HNI := hid (show 1 ≤ id ∧ id ≤ 12 by omega)
                generalize (id - 1) / 3 = ia at HJ ⊢
                generalize (id - 1) % 3 = ib at HJ ⊢
                clear hr hid1 HPI e1
                go_wp2_with fail
                all_goals (
                  refine (HJ.out _).mono ?_
                  rintro e x1 ⟨rfl, rfl⟩
                  go_wp2_with fail
                  go_ret
                  exact ⟨rfl, HW9.out.below⟩)
            · have e0 : idOf th i = 0 := by unfold idOf; rw [if_pos (by omega)]
              have hpl : ∀ r, placeIs 0 r → r = .tuple #[.int .i64 0, .int .i64 0, .bool false] := by
                intro r hr
                unfold placeIs at hr
                rw [if_pos (by omega)] at hr
                exact hr
              rw [e0] at HI HPL
              have q1 : decide (0 ≤ th) = true := by simp; omega
              have q2 : decide (th < 4) = true := by simp; omega
              have q3 : decide (0 ≤ i) = true := by simp; omega
              have q4 : decide (i < 3) = false := by simp; omega
              have HPP := hid hpl
              clear hpl e0 g1 g2 g3 g4
              go_wp2_with fail
              refine (HI.out _).mono ?_
              rintro e x1 ⟨rfl, rfl⟩
              go_wp2_with fail
              refine (HPL.out _).mono ?_
              rintro e x1 ⟨r, rfl, hr, rfl⟩
              obtain rfl := HPP.out r hr
              clear hr HPP HI HPL
              go_wp2_with fail
              refine (HPI.out _).mono ?_
              rintro e x1 ⟨r, rfl, hr, rfl⟩
              by_cases hid1 : id < 1 ∨ 12 < id
              · obtain rfl : r = .tuple #[.int .i64 0, .int .i64 0, .bool false] := by
                  unfold placeIs at hr
                  rw [if_pos hid1] at hr
                  exact hr
                clear hr hid1 HPI
                go_wp2_with fail
                go_ret
                exact ⟨rfl, HW9.out.below⟩
              · obtain rfl : r = .tuple #[.int .i64 ((id - 1) / 3), .int .i64 ((id - 1) % 3), .bool true] := by
                  unfold placeIs at hr
                  rw [if_neg hid1] at hr
                  exact hr
                have HJ := hid (fun W => idCall ((id - 1) / 3) ((id - 1) % 3) W)
                have e1 : idOf ((id - 1) / 3) ((id - 1) % 3) = id := by unfold idOf; rw [if_neg (by omega)]; omega
                rw [e1] at HJ
                have HNI := hid (show 1 ≤ id ∧ id ≤ 12 by omega)
                generalize (id - 1) / 3 = ia at HJ ⊢
                generalize (id - 1) % 3 = ib at HJ ⊢
                clear hr hid1 HPI e1
                go_wp2_with fail
                all_goals (
                  refine (HJ.out _).mono ?_
                  rintro e x1 ⟨rfl, rfl⟩
                  go_wp2_with fail
                  go_ret
                  exact ⟨rfl, HW9.out.below⟩)
          · have e0 : idOf th i = 0 := by unfold idOf; rw [if_pos (by omega)]
            have hpl : ∀ r, placeIs 0 r → r = .tuple #[.int .i64 0, .int .i64 0, .bool false] := by
              intro r hr
              unfold placeIs at hr
              rw [if_pos (by omega)] at hr
              exact hr
            rw [e0] at HI HPL
            have q1 : decide (0 ≤ th) = true := by simp; omega
            have q2 : decide (th < 4) = true := by simp; omega
            have q3 : decide (0 ≤ i) = false := by simp; omega
            have HPP := hid hpl
            clear hpl e0 g1 g2 g3
            go_wp2_with fail
            refine (HI.out _).mono ?_
            rintro e x1 ⟨rfl, rfl⟩
            go_wp2_with fail
            refine (HPL.out _).mono ?_
            rintro e x1 ⟨r, rfl, hr, rfl⟩
            obtain rfl := HPP.out r hr
            clear hr HPP HI HPL
            go_wp2_with fail
            refine (HPI.out _).mono ?_
            rintro e x1 ⟨r, rfl, hr, rfl⟩
            by_cases hid1 : id < 1 ∨ 12 < id
            · obtain rfl : r = .tuple #[.int .i64 0, .int .i64 0, .bool false] := by
                unfold placeIs at hr
                rw [if_pos hid1] at hr
                exact hr
              clear hr hid1 HPI
              go_wp2_with fail
              go_ret
              exact ⟨rfl, HW9.out.below⟩
            · obtain rfl : r = .tuple #[.int .i64 ((id - 1) / 3), .int .i64 ((id - 1) % 3), .bool true] := by
                unfold placeIs at hr
                rw [if_neg hid1] at hr
                exact hr
              have HJ := hid (fun W => idCall ((id - 1) / 3) ((id - 1) % 3) W)
              have e1 : idOf ((id - 1) / 3) ((id - 1) % 3) = id := by unfold idOf; rw [if_neg (by omega)]; omega
              rw [e1] at HJ
              have HNI := hid (show 1 ≤ id ∧ id ≤ 12 by omega)
              generalize (id - 1) / 3 = ia at HJ ⊢
              generalize (id - 1) % 3 = ib at HJ ⊢
              clear hr hid1 HPI e1
              go_wp2_with fail
              all_goals (
                refine (HJ.out _).mono ?_
                rintro e x1 ⟨rfl, rfl⟩
                go_wp2_with fail
                go_ret
                exact ⟨rfl, HW9.out.below⟩)
        · have e0 : idOf th i = 0 := by unfold idOf; rw [if_pos (by omega)]
          have hpl : ∀ r, placeIs 0 r → r = .tuple #[.int .i64 0, .int .i64 0, .bool false] := by
            intro r hr
            unfold placeIs at hr
            rw [if_pos (by omega)] at hr
            exact hr
          rw [e0] at HI HPL
          have q1 : decide (0 ≤ th) = true := by simp; omega
          have q2 : decide (th < 4) = false := by simp; omega
          have HPP := hid hpl
          clear hpl e0 g1 g2
          go_wp2_with fail
          refine (HI.out _).mono ?_
          rintro e x1 ⟨rfl, rfl⟩
          go_wp2_with fail
          refine (HPL.out _).mono ?_
          rintro e x1 ⟨r, rfl, hr, rfl⟩
          obtain rfl := HPP.out r hr
          clear hr HPP HI HPL
          go_wp2_with fail
          refine (HPI.out _).mono ?_
          rintro e x1 ⟨r, rfl, hr, rfl⟩
          by_cases hid1 : id < 1 ∨ 12 < id
          · obtain rfl : r = .tuple #[.int .i64 0, .int .i64 0, .bool false] := by
              unfold placeIs at hr
              rw [if_pos hid1] at hr
              exact hr
            clear hr hid1 HPI
            go_wp2_with fail
            go_ret
            exact ⟨rfl, HW9.out.below⟩
          · obtain rfl : r = .tuple #[.int .i64 ((id - 1) / 3), .int .i64 ((id - 1) % 3), .bool true] := by
              unfold placeIs at hr
              rw [if_neg hid1] at hr
              exact hr
            have HJ := hid (fun W => idCall ((id - 1) / 3) ((id - 1) % 3) W)
            have e1 : idOf ((id - 1) / 3) ((id - 1) % 3) = id := by unfold idOf; rw [if_neg (by omega)]; omega
            rw [e1] at HJ
            have HNI := hid (show 1 ≤ id ∧ id ≤ 12 by omega)
            generalize (id - 1) / 3 = ia at HJ ⊢
            generalize (id - 1) % 3 = ib at HJ ⊢
            clear hr hid1 HPI e1
            go_wp2_with fail
            all_goals (
              refine (HJ.out _).mono ?_
              rintro e x1 ⟨rfl, rfl⟩
              go_wp2_with fail
              go_ret
              exact ⟨rfl, HW9.out.below⟩)
      · have e0 : idOf th i = 0 := by unfold idOf; rw [if_pos (by omega)]
        have hpl : ∀ r, placeIs 0 r → r = .tuple #[.int .i64 0, .int .i64 0, .bool false] := by
          intro r hr
          unfold placeIs at hr
          rw [if_pos (by omega)] at hr
          exact hr
        rw [e0] at HI HPL
        have q1 : decide (0 ≤ th) = false := by simp; omega
        have HPP := hid hpl
        clear hpl e0 g1
        go_wp2_with fail
        refine (HI.out _).mono ?_
        rintro e x1 ⟨rfl, rfl⟩
        go_wp2_with fail
        refine (HPL.out _).mono ?_
        rintro e x1 ⟨r, rfl, hr, rfl⟩
        obtain rfl := HPP.out r hr
        clear hr HPP HI HPL
        go_wp2_with fail
        refine (HPI.out _).mono ?_
        rintro e x1 ⟨r, rfl, hr, rfl⟩
        by_cases hid1 : id < 1 ∨ 12 < id
        · obtain rfl : r = .tuple #[.int .i64 0, .int .i64 0, .bool false] := by
            unfold placeIs at hr
            rw [if_pos hid1] at hr
            exact hr
          clear hr hid1 HPI
          go_wp2_with fail
          go_ret
          exact ⟨rfl, HW9.out.below⟩
        · obtain rfl : r = .tuple #[.int .i64 ((id - 1) / 3), .int .i64 ((id - 1) % 3), .bool true] := by
            unfold placeIs at hr
            rw [if_neg hid1] at hr
            exact hr
          have HJ := hid (fun W => idCall ((id - 1) / 3) ((id - 1) % 3) W)
          have e1 : idOf ((id - 1) / 3) ((id - 1) % 3) = id := by unfold idOf; rw [if_neg (by omega)]; omega
          rw [e1] at HJ
          have HNI := hid (show 1 ≤ id ∧ id ≤ 12 by omega)
          generalize (id - 1) / 3 = ia at HJ ⊢
          generalize (id - 1) % 3 = ib at HJ ⊢
          clear hr hid1 HPI e1
          go_wp2_with fail
          all_goals (
            refine (HJ.out _).mono ?_
            rintro e x1 ⟨rfl, rfl⟩
            go_wp2_with fail
            go_ret
            exact ⟨rfl, HW9.out.below⟩)
end Go.Proofs.YtdfkegflnebckaaDoor
