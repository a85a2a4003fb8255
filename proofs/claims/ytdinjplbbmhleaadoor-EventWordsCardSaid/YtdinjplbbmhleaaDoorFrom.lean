/-
  event.From: an error, or an event that may be and how many bytes it takes: they are its bytes. Of at most 10^9 bytes.
-/
import Derived.Test.YtdinjplbbmhleaaDoorEvBytes
import Derived.Test.YtdinjplbbmhleaaDoorOne
import Derived.BigRegion
namespace Go.Proofs.YtdinjplbbmhleaaDoor
open Go.RowKit Go.Maps W
attribute [local go_sem ↓] Go.wp_at_zero Go.wp_at_succ

theorem get_cases {l : List UInt8} {r : Value} (h : GetIs l r) : (∃ u k, vget l = .ok u k ∧ r = .tuple #[.int .i64 (zag u), .int .i64 (k : Int), .nilIface]) ∨ ∃ a, r = .tuple #[.int .i64 0, .int .i64 0, .iface 211 (.pointer (some a))] := by
  unfold GetIs at h
  cases hv : vget l with
  | ok u k =>
    rw [hv] at h
    exact .inl ⟨u, k, rfl, h⟩
  | _ =>
    rw [hv] at h
    exact .inr h
theorem reads_drop {w : World} {b o n c : Nat} {l : List UInt8} (h : Reads w (.slice (some ⟨b, o, none⟩) n c) (bys l)) (k : Nat) (hk : k ≤ l.length) : Reads w (.slice (some ⟨b, o + k, none⟩) (n - k) (c - k)) (bys (l.drop k)) := by
  obtain ⟨A, c1, b1, o1, he, h2, h3, h4, h5⟩ := h
  injection he with e1 e2 e3
  subst e1 e3
  rw [bys_len] at e2 h2 h3 h4
  refine ⟨some ⟨b, o + k, none⟩, c - k, b, o + k, by rw [bys_len, List.length_drop, e2], by simp, fun a ha _ => by injection ha with ha; exact ha.symm, by rw [bys_len, List.length_drop]; omega, fun j u hj => ?_⟩
  have hj1 : j < (l.drop k).length := by
    have := (List.getElem?_eq_some_iff.1 hj).1
    rwa [bys_len] at this
  rw [List.length_drop] at hj1
  have h6 := h3 _ rfl (by omega)
  injection h6 with h7 h8
  subst h7 h8
  rw [Nat.add_assoc]
  apply h5
  rw [← hj]
  simp [bys]
theorem Blk.put8 {w : World} {g : Nat} {t : TypeId} {a0 a1 a2 a3 a4 a5 a6 a7 : Value} (h : Blk w g t #[a0, a1, a2, a3, a4, a5, a6, a7]) (v0 v1 v2 v3 v4 v5 v6 v7 : Value) :
    Blk ((((((((w.setCell ⟨g, 0, none⟩ v0).setCell ⟨g, 1, none⟩ v1).setCell ⟨g, 2, none⟩ v2).setCell ⟨g, 3, none⟩ v3).setCell ⟨g, 4, none⟩ v4).setCell ⟨g, 5, none⟩ v5).setCell ⟨g, 6, none⟩ v6).setCell ⟨g, 7, none⟩ v7) g t #[v0, v1, v2, v3, v4, v5, v6, v7] := by
  have h0 : Blk _ g t #[v0, a1, a2, a3, a4, a5, a6, a7] := h.put 0 v0
  have h1 : Blk _ g t #[v0, v1, a2, a3, a4, a5, a6, a7] := h0.put 1 v1
  have h2 : Blk _ g t #[v0, v1, v2, a3, a4, a5, a6, a7] := h1.put 2 v2
  have h3 : Blk _ g t #[v0, v1, v2, v3, a4, a5, a6, a7] := h2.put 3 v3
  have h4 : Blk _ g t #[v0, v1, v2, v3, v4, a5, a6, a7] := h3.put 4 v4
  have h5 : Blk _ g t #[v0, v1, v2, v3, v4, v5, a6, a7] := h4.put 5 v5
  have h6 : Blk _ g t #[v0, v1, v2, v3, v4, v5, v6, a7] := h5.put 6 v6
  have h7 : Blk _ g t #[v0, v1, v2, v3, v4, v5, v6, v7] := h6.put 7 v7
  exact h7
theorem below_put8 {B : Nat} {w W : World} {g : Nat} (h : Below B w W) (hg : B ≤ g) (v0 v1 v2 v3 v4 v5 v6 v7 : Value) :
    Below B w ((((((((W.setCell ⟨g, 0, none⟩ v0).setCell ⟨g, 1, none⟩ v1).setCell ⟨g, 2, none⟩ v2).setCell ⟨g, 3, none⟩ v3).setCell ⟨g, 4, none⟩ v4).setCell ⟨g, 5, none⟩ v5).setCell ⟨g, 6, none⟩ v6).setCell ⟨g, 7, none⟩ v7) :=
  (((((((h.setCell (p := ⟨g, 0, none⟩) hg v0).setCell (p := ⟨g, 1, none⟩) hg v1).setCell (p := ⟨g, 2, none⟩) hg v2).setCell (p := ⟨g, 3, none⟩) hg v3).setCell (p := ⟨g, 4, none⟩) hg v4).setCell (p := ⟨g, 5, none⟩) hg v5).setCell (p := ⟨g, 6, none⟩) hg v6).setCell (p := ⟨g, 7, none⟩) hg v7
theorem res3E (F : Func) (hF : F.results = #[.cell 2 62, .tmp 3, .tmp 4]) (tmps : Array Value) (W : World) (g : Nat) (a0 a1 a2 a3 a4 a5 a6 a7 b c : Value) (h2 : tmps.getD 2 undef = .pointer (some ⟨g, 0, none⟩)) (h3 : tmps.getD 3 undef = b) (h4 : tmps.getD 4 undef = c) (hb : Blk W g 62 #[a0, a1, a2, a3, a4, a5, a6, a7]) :
    (results F tmps).run Tryd.prog W = .ok (.tuple #[.agg #[a0, a1, a2, a3, a4, a5, a6, a7], b, c]) W := by
  have c0 := hb.cell 0
  have c1 := hb.cell 1
  have c2 := hb.cell 2
  have c3 := hb.cell 3
  have c4 := hb.cell 4
  have c5 := hb.cell 5
  have c6 := hb.cell 6
  have c7 := hb.cell 7
  have h2' : tmps[2]?.getD undef = .pointer (some ⟨g, 0, none⟩) := by simpa using h2
  have h3' : tmps[3]?.getD undef = b := by simpa using h3
  have h4' : tmps[4]?.getD undef = c := by simpa using h4
  simp [results, hF, h2', h3', h4', go_sem, c0, c1, c2, c3, c4, c5, c6, c7]
theorem res2E (F : Func) (hF : F.results = #[.cell 2 62, .tmp 3]) (tmps : Array Value) (W : World) (g : Nat) (a0 a1 a2 a3 a4 a5 a6 a7 b : Value) (h2 : tmps.getD 2 undef = .pointer (some ⟨g, 0, none⟩)) (h3 : tmps.getD 3 undef = b) (hb : Blk W g 62 #[a0, a1, a2, a3, a4, a5, a6, a7]) :
    (results F tmps).run Tryd.prog W = .ok (.tuple #[.agg #[a0, a1, a2, a3, a4, a5, a6, a7], b]) W := by
  have c0 := hb.cell 0
  have c1 := hb.cell 1
  have c2 := hb.cell 2
  have c3 := hb.cell 3
  have c4 := hb.cell 4
  have c5 := hb.cell 5
  have c6 := hb.cell 6
  have c7 := hb.cell 7
  have h2' : tmps[2]?.getD undef = .pointer (some ⟨g, 0, none⟩) := by simpa using h2
  have h3' : tmps[3]?.getD undef = b := by simpa using h3
  simp [results, hF, h2', h3', go_sem, c0, c1, c2, c3, c4, c5, c6, c7]

/-- Every number of an event is an int. -/
def EvInt (e : Ev) : Prop := KindOk e.kind ∧ ∀ f, KindOk (e.get f)
theorem EvInt.zero (u : Nat) (h : u < 18446744073709551616) : EvInt { Ev.zero with kind := zag u } := by
  refine ⟨zag_bd u h, fun f => ?_⟩
  cases f <;> (unfold KindOk Ev.zero Ev.get; simp)
theorem EvInt.put {e : Ev} (h : EvInt e) (f : Fld) {n : Int} (hn : KindOk n) : EvInt (e.put f n) := by
  refine ⟨by rw [Ev.put_kind]; exact h.1, fun g => ?_⟩
  by_cases hg : g = f
  · subst hg
    rw [Ev.put_get]
    exact hn
  · rw [Ev.put_other _ _ _ _ hg]
    exact h.2 g
/-- What From tells. -/
def FromOut (b : List UInt8) (x n v : Value) : Prop :=
  (x = .agg (evArr .zero) ∧ n = .int .i64 0 ∧ anErr v) ∨ ∃ (e : Ev) (pos : Nat), x = .agg (evArr e) ∧ n = .int .i64 pos ∧ v = .nilIface ∧ e.Ok ∧ EvInt e ∧ b.take pos = e.bytes ∧ pos ≤ b.length ∧ 1 ≤ pos

set_option maxHeartbeats 16000000 in
set_option maxRecDepth 100000 in
theorem fromCall (v : Value) (b : List UInt8) (w : World) (hv : Reads w v (bys b)) (hlen : b.length ≤ 1000000000) (hL : LaidE w) (hLW : Laid w) :
    Calls Tryd.prog 45 #[v] w fun r w' => ∃ x n v, r = .returned (.tuple #[x, n, v]) ∧ FromOut b x n v ∧ Below w.heap.size w w' := by
  obtain ⟨A, cap, rfl⟩ := hv.shape
  rw [bys_len] at hv ⊢
  have hcap := hv.cap
  have HV := hid hv
  have HL := hid hL
  have HB0 := hid (Blk.new w 62 (evArr .zero))
  have HW0 := hid ((Below.refl w.heap.size w).alloc (Nat.le_refl _) (.cells (evArr .zero) 62))
  have HG := hid (get _ b (w.alloc (.cells (evArr .zero) 62)) (hv.below HW0.out (Nat.le_refl _)) hlen (hLW.below HW0.out))
  have hN := fun W a => neq_nil 211 a (.inr rfl) W
  have HLW := hid hLW
  clear hL hv hLW
  unfold evArr Ev.zero at HG HB0 HW0
  go_enter Tryd.func45, Tryd.ntmps45
  go_wp2_with fail
  refine HG.out.mono ?_
  rintro r w1 ⟨r, rfl, hg, hb1⟩
  have HB1 : Hid (Blk w1 w.heap.size 62 (evArr .zero)) := hid (HB0.out.below hb1 (by simp))
  have HW1 := hid (HW0.out.trans (hb1.mono (by simp)))
  clear HG HB0 HW0 hb1
  have q0 := HB1.out.cell 0
  have q1 := HB1.out.cell 1
  have q2 := HB1.out.cell 2
  have q3 := HB1.out.cell 3
  have q4 := HB1.out.cell 4
  have q5 := HB1.out.cell 5
  have q6 := HB1.out.cell 6
  have q7 := HB1.out.cell 7
  have z0 := HB1.out.frozen 0
  have z1 := HB1.out.frozen 1
  have z2 := HB1.out.frozen 2
  have z3 := HB1.out.frozen 3
  have z4 := HB1.out.frozen 4
  have z5 := HB1.out.frozen 5
  have z6 := HB1.out.frozen 6
  have z7 := HB1.out.frozen 7
  have l1 := HB1.out.lt
  simp only [evArr, Ev.zero] at q0 q1 q2 q3 q4 q5 q6 q7
  rcases get_cases hg with ⟨u, k, hvg, rfl⟩ | ⟨a, rfl⟩
  case inr =>
    clear hg
    go_wp2_with fail
    exact bodyPost_ret (res3E _ rfl _ _ _ _ _ _ _ _ _ _ _ _ _ rfl rfl rfl (HB1.out.put8 _ _ _ _ _ _ _ _)) rfl ⟨_, _, _, rfl, .inl ⟨rfl, rfl, a, rfl⟩, below_put8 HW1.out (Nat.le_refl _) _ _ _ _ _ _ _ _⟩
  case inl =>
  obtain ⟨g1, g2, g3, g4⟩ := vget_ok hvg
  have hp := vb_pos u
  have HZ := hid (zag_bd u g4)
  have hk1 : 1 ≤ k := by omega
  obtain ⟨bb, oo, rfl⟩ := HV.out.addr (by rw [bys_len]; omega)
  have hk : KindOk (zag u) := HZ.out
  have HVG := hid hvg
  clear g1 g2 hp hg hvg q0 q1 q2 q3 q4 q5 q6 q7 z0 z1 z2 z3 z4 z5 z6 z7 hN
  go_wp2_with fail
  refine (fieldsCall _).mono ?_
  rintro r w2 ⟨bm, rfl, hF, hb2⟩
  obtain ⟨vn, hn, hlk⟩ := lookKind hF hk
  have HN := hid hn
  have HB2 := hid (HB1.out.below hb2 l1)
  have HW2 := hid (HW1.out.trans (hb2.mono HW1.out.size))
  have l2 := HB2.out.lt
  clear hn hF hb2 HB1 HW1 l1
  have q0 := HB2.out.cell 0
  have q1 := HB2.out.cell 1
  have q2 := HB2.out.cell 2
  have q3 := HB2.out.cell 3
  have q4 := HB2.out.cell 4
  have q5 := HB2.out.cell 5
  have q6 := HB2.out.cell 6
  have q7 := HB2.out.cell 7
  have z0 := HB2.out.frozen 0
  have z1 := HB2.out.frozen 1
  have z2 := HB2.out.frozen 2
  have z3 := HB2.out.frozen 3
  have z4 := HB2.out.frozen 4
  have z5 := HB2.out.frozen 5
  have z6 := HB2.out.frozen 6
  have z7 := HB2.out.frozen 7
  simp only [evArr, Ev.zero] at q0 q1 q2 q3 q4 q5 q6 q7
  by_cases h17 : 1 ≤ zag u ∧ zag u ≤ 7
  case neg =>
    have hn := HN.out
    unfold NextV at hn
    rw [if_neg h17] at hn
    have hnn := fun W => nil_nilE W
    obtain ⟨a, ha⟩ := (HL.out.below HW2.out).errs 3 (by simp)
    have lG : 3 < w.heap.size := by obtain ⟨a, ha⟩ := HL.out.errs 3 (by simp); exact World.block_lt_of_cell? w _ ha
    have lN : ¬ 3 = w.heap.size := by omega
    subst hn
    clear HN h17
    go_wp2_with fail
    go_region
    all_goals (go_wp2_with fail)
    all_goals exact bodyPost_ret (res3E _ rfl _ _ _ _ _ _ _ _ _ _ _ _ _ rfl rfl rfl (HB2.out.put8 _ _ _ _ _ _ _ _).drew) rfl ⟨_, _, _, rfl, .inl ⟨rfl, rfl, a, rfl⟩, (below_put8 HW2.out (Nat.le_refl _) _ _ _ _ _ _ _ _).drew⟩
  case pos =>
  have hn := HN.out
  unfold NextV at hn
  rw [if_pos h17] at hn
  obtain ⟨F, c, rfl, hE, hC⟩ := hn
  have HC := hid hC
  have HE := hid hE
  have hfn := fun W => func_nilE F #[.pointer (some ⟨c, 0, none⟩)] W
  have HFA := hid (from_start HVG.out h17.1 h17.2)
  have HBE : Hid (Blk (w2.alloc (.cells (evArr { Ev.zero with kind := zag u }) 62)) w2.heap.size 62 (evArr { Ev.zero with kind := zag u })) := hid (Blk.new w2 _ _)
  have HBW := hid ((Below.refl w2.heap.size w2).alloc (Nat.le_refl _) (.cells (evArr { Ev.zero with kind := zag u }) 62))
  have hgu : u < 18446744073709551616 := (vget_ok HVG.out).2.2.2
  have HEI := hid (EvInt.zero u hgu)
  clear hE hC HN h17 q0 q1 q2 q3 q4 q5 q6 q7 z0 z1 z2 z3 z4 z5 z6 z7 hgu
  unfold evArr Ev.zero at HBE HBW
  go_wp2_with fail
  clear hlk hfn
  go_loopw [6, 10] (fun sp si wr => ∃ (j : Nat) (e : Ev) (pos : Nat), sp = .int .i64 pos ∧ si = .int .i64 j ∧ FromAt b e j pos ∧ e.kind = zag u ∧ EvInt e ∧ Blk wr w2.heap.size 62 (evArr e) ∧ Below w2.heap.size w2 wr) (fun _ si _ => 6 - (intOf si).toNat)
  case atStart => exact ⟨0, _, k, rfl, rfl, HFA.out, rfl, HEI.out, HBE.out, HBW.out⟩
  case round =>
    obtain ⟨j, e, pos, rfl, rfl, hfa, hku, hei, hev, hbr⟩ := hrel
    have hj5 := Nat.le_trans hfa.le (fl_len e.kind e.op e.ret).2
    have hp0 := hfa.ple
    have hp1 := hfa.one
    have HFJ := hid hfa
    have HKU := hid hku
    have HEJ := hid hei
    have HEV := hid hev
    have HBR := hid hbr
    have HWR := hid (HW2.out.trans (hbr.mono HW2.out.size))
    have lE := hev.lt
    have lR := hbr.size
    have k0 := HEV.out.cell 0
    have k1 := HEV.out.cell 1
    have k2 := HEV.out.cell 2
    have k3 := HEV.out.cell 3
    have k4 := HEV.out.cell 4
    have k5 := HEV.out.cell 5
    have k6 := HEV.out.cell 6
    have k7 := HEV.out.cell 7
    simp only [evArr] at k0 k1 k2 k3 k4 k5 k6 k7
    have hCk := HC.out e j wr hbr hku
    have hE := HE.out
    clear hfa hku hei hev hbr
    by_cases hlt : j < e.fl.length
    case pos =>
      obtain ⟨f, hf⟩ : ∃ f, e.fl[j]? = some f := ⟨e.fl[j], List.getElem?_eq_getElem hlt⟩
      have e1 : fat e.fl j = fcells f := by unfold fat; rw [hf]
      have e2 : decide (j < e.fl.length) = true := by simpa using hlt
      rw [e1, e2] at hCk
      unfold fcells evArr at hCk
      have HCk := hid hCk
      have HT := hid (fun g W => toCall f g W)
      have hTE := fun args W => toEnters f args W
      have HF := hid hf
      clear e1 e2 hCk hf hlt
      by_cases hcp : pos < cap
      case neg =>
        have hbl : b.length - pos = 0 := by omega
        have HG := hid (fun W (hb : Below w.heap.size w W) => get (.slice (some ⟨bb, oo, none⟩) (b.length - pos) (cap - pos)) [] W ⟨some ⟨bb, oo, none⟩, cap - pos, bb, oo, by rw [hbl]; rfl, by simp, fun a ha _ => by injection ha with ha; exact ha.symm, Nat.zero_le _, by simp [bys]⟩ (by simp) (HLW.out.below hb))
        have hv0 : vget [] = .ends := rfl
        clear hbl
        go_wp2_with fail
        refine HCk.out.mono ?_
        rintro r x3 ⟨rfl, hb3⟩
        have HB3 := hid hb3
        have HW3 := hid (HWR.out.trans (hb3.mono HWR.out.size))
        have HEV3 := hid (HEV.out.below hb3 lE)
        have l3 : w.heap.size < x3.heap.size := by have := hb3.size; omega
        have lS3 := hb3.size
        clear hb3 HCk k0 k1 k2 k3 k4 k5 k6 k7
        go_wp2_with fail
        refine (HG.out _ (HW3.out.alloc (by omega) _)).mono ?_
        rintro r x4 ⟨r, rfl, hg, hb4⟩
        have HW4 := hid (HW3.out.trans ((below_al (Below.refl x3.heap.size x3) (Nat.le_refl _) hb4).mono HW3.out.size))
        have HEV4 := hid (HEV3.out.below (below_al (Below.refl x3.heap.size x3) (Nat.le_refl _) hb4) HEV3.out.lt)
        have HBX4 := hid (HBR.out.trans (HB3.out.mono HBR.out.size) |>.trans ((below_al (Below.refl x3.heap.size x3) (Nat.le_refl _) hb4).mono (by omega)))
        have HBT4 := hid (HB2.out.below HBX4.out l2)
        have l4 := HBT4.out.lt
        have p0 := HBT4.out.cell 0
        have p1 := HBT4.out.cell 1
        have p2 := HBT4.out.cell 2
        have p3 := HBT4.out.cell 3
        have p4 := HBT4.out.cell 4
        have p5 := HBT4.out.cell 5
        have p6 := HBT4.out.cell 6
        have p7 := HBT4.out.cell 7
        have z0 := HBT4.out.frozen 0
        have z1 := HBT4.out.frozen 1
        have z2 := HBT4.out.frozen 2
        have z3 := HBT4.out.frozen 3
        have z4 := HBT4.out.frozen 4
        have z5 := HBT4.out.frozen 5
        have z6 := HBT4.out.frozen 6
        have z7 := HBT4.out.frozen 7
        simp only [evArr, Ev.zero] at p0 p1 p2 p3 p4 p5 p6 p7
        have hN := fun W a => neq_nil 211 a (.inr rfl) W
        obtain ⟨a, rfl⟩ : ∃ a, r = .tuple #[.int .i64 0, .int .i64 0, .iface 211 (.pointer (some a))] := by
          rcases get_cases hg with ⟨u2, k2, h2, _⟩ | h2
          · rw [hv0] at h2
            cases h2
          · exact h2
        clear hg hb4
        go_wp2_with fail
        exact bodyPost_ret (res3E _ rfl _ _ _ _ _ _ _ _ _ _ _ _ _ rfl rfl rfl (HBT4.out.put8 _ _ _ _ _ _ _ _)) rfl ⟨_, _, _, rfl, .inl ⟨rfl, rfl, a, rfl⟩, below_put8 HW4.out (Nat.le_refl _) _ _ _ _ _ _ _ _⟩
      case pos =>
      have HG := hid (fun W (hb : Below w.heap.size w W) => get _ (b.drop pos) W ((reads_drop HV.out pos hp0).below hb (Nat.le_refl _)) (by rw [List.length_drop]; omega) (HLW.out.below hb))
      go_wp2_with fail
      refine HCk.out.mono ?_
      rintro r x3 ⟨rfl, hb3⟩
      have HB3 := hid hb3
      have HW3 := hid (HWR.out.trans (hb3.mono HWR.out.size))
      have HEV3 := hid (HEV.out.below hb3 lE)
      have l3 : w.heap.size < x3.heap.size := by have := hb3.size; omega
      have lS3 := hb3.size
      clear hb3 HCk k0 k1 k2 k3 k4 k5 k6 k7
      go_wp2_with fail
      refine (HG.out _ (HW3.out.alloc (by omega) _)).mono ?_
      rintro r x4 ⟨r, rfl, hg, hb4⟩
      have HW4 := hid (HW3.out.trans ((below_al (Below.refl x3.heap.size x3) (Nat.le_refl _) hb4).mono HW3.out.size))
      have HEV4 := hid (HEV3.out.below (below_al (Below.refl x3.heap.size x3) (Nat.le_refl _) hb4) HEV3.out.lt)
      have HBX4 := hid (HBR.out.trans (HB3.out.mono HBR.out.size) |>.trans ((below_al (Below.refl x3.heap.size x3) (Nat.le_refl _) hb4).mono (by omega)))
      have HBT4 := hid (HB2.out.below HBX4.out l2)
      have l4 := HBT4.out.lt
      have p0 := HBT4.out.cell 0
      have p1 := HBT4.out.cell 1
      have p2 := HBT4.out.cell 2
      have p3 := HBT4.out.cell 3
      have p4 := HBT4.out.cell 4
      have p5 := HBT4.out.cell 5
      have p6 := HBT4.out.cell 6
      have p7 := HBT4.out.cell 7
      have z0 := HBT4.out.frozen 0
      have z1 := HBT4.out.frozen 1
      have z2 := HBT4.out.frozen 2
      have z3 := HBT4.out.frozen 3
      have z4 := HBT4.out.frozen 4
      have z5 := HBT4.out.frozen 5
      have z6 := HBT4.out.frozen 6
      have z7 := HBT4.out.frozen 7
      simp only [evArr, Ev.zero] at p0 p1 p2 p3 p4 p5 p6 p7
      have hN := fun W a => neq_nil 211 a (.inr rfl) W
      rcases get_cases hg with ⟨u2, k2, hvg2, rfl⟩ | ⟨a, rfl⟩
      case inr =>
        clear hg hb4
        go_wp2_with fail
        exact bodyPost_ret (res3E _ rfl _ _ _ _ _ _ _ _ _ _ _ _ _ rfl rfl rfl (HBT4.out.put8 _ _ _ _ _ _ _ _)) rfl ⟨_, _, _, rfl, .inl ⟨rfl, rfl, a, rfl⟩, below_put8 HW4.out (Nat.le_refl _) _ _ _ _ _ _ _ _⟩
      case inl =>
      have HFB := hid ((Blk.new x3 106 (fcells f)).below hb4 (by simp))
      have HEI2 := hid (zag_bd u2 (vget_ok hvg2).2.2.2)
      have HST := hid (from_step HFJ.out HF.out hvg2)
      have d0 := HFB.out.cell 0
      have d1 := HFB.out.cell 1
      have lF := HFB.out.lt
      have lk := (vget_ok hvg2).2.2.1
      rw [List.length_drop] at lk
      simp only [fcells] at d0 d1
      clear hg hb4 hvg2 hN
      by_cases htab : 0 < f.tab
      case neg =>
        go_wp2_with fail
        refine (HT.out _ _).mono ?_
        rintro r x5 ⟨rfl, rfl⟩
        have q0 := HEV4.out.cell f.off
        rw [evArr_at] at q0
        have q1 := HEV4.out.frozen f.off
        have l5 := HEV4.out.lt
        clear p0 p1 p2 p3 p4 p5 p6 p7 z0 z1 z2 z3 z4 z5 z6 z7 d0 d1
        go_wp2_with fail
        go_roundw
        case rel => exact ⟨j + 1, e.put f (zag u2), pos + k2, by go_num, by go_num, HST.out, by rw [Ev.put_kind]; exact HKU.out, HEJ.out.put f HEI2.out, by rw [← evArr_put]; exact HEV4.out.put _ _, HBX4.out.setCell (p := ⟨w2.heap.size, f.off, none⟩) (Nat.le_refl _) _⟩
        case measure => simp [intOf] <;> omega
      case pos =>
        have HWO := hid (fun W (hb : Below w.heap.size w W) => wordCall (f.tab : Int) (zag u2) HEI2.out.2 W (HL.out.below hb))
        unfold str at HWO
        by_cases hwd : wordOf (f.tab : Int) (zag u2) = []
        case pos =>
          have t6 : (wordOf (f.tab : Int) (zag u2) == []) = true := by simpa using hwd
          clear hwd
          generalize wordOf (f.tab : Int) (zag u2) = wd at *
          go_wp2_with fail
          refine (HWO.out _ HW4.out).mono ?_
          rintro r x5 ⟨rfl, hb5⟩
          have HW5 := hid (HW4.out.trans (hb5.mono HW4.out.size))
          have HBT5 := hid (HBT4.out.below hb5 l4)
          obtain ⟨a, ha⟩ := (HL.out.below HW5.out).errs 3 (by simp)
          have lG : 3 < w.heap.size := by obtain ⟨a, ha⟩ := HL.out.errs 3 (by simp); exact World.block_lt_of_cell? w _ ha
          have lN : ¬ 3 = w.heap.size := by omega
          have l5 := HBT5.out.lt
          clear p0 p1 p2 p3 p4 p5 p6 p7 z0 z1 z2 z3 z4 z5 z6 z7 d0 d1 hb5
          have p0 := HBT5.out.cell 0
          have p1 := HBT5.out.cell 1
          have p2 := HBT5.out.cell 2
          have p3 := HBT5.out.cell 3
          have p4 := HBT5.out.cell 4
          have p5 := HBT5.out.cell 5
          have p6 := HBT5.out.cell 6
          have p7 := HBT5.out.cell 7
          have z0 := HBT5.out.frozen 0
          have z1 := HBT5.out.frozen 1
          have z2 := HBT5.out.frozen 2
          have z3 := HBT5.out.frozen 3
          have z4 := HBT5.out.frozen 4
          have z5 := HBT5.out.frozen 5
          have z6 := HBT5.out.frozen 6
          have z7 := HBT5.out.frozen 7
          simp only [evArr, Ev.zero] at p0 p1 p2 p3 p4 p5 p6 p7
          go_wp2_with fail
          go_region
          all_goals (go_wp2_with fail)
          all_goals exact bodyPost_ret (res3E _ rfl _ _ _ _ _ _ _ _ _ _ _ _ _ rfl rfl rfl (HBT5.out.put8 _ _ _ _ _ _ _ _).drew) rfl ⟨_, _, _, rfl, .inl ⟨rfl, rfl, a, rfl⟩, (below_put8 HW5.out (Nat.le_refl _) _ _ _ _ _ _ _ _).drew⟩
        case neg =>
          have t6 : (wordOf (f.tab : Int) (zag u2) == []) = false := by simpa using hwd
          clear hwd
          generalize wordOf (f.tab : Int) (zag u2) = wd at *
          go_wp2_with fail
          refine (HWO.out _ HW4.out).mono ?_
          rintro r x5 ⟨rfl, hb5⟩
          have HB5 := hid hb5
          have HEV5 := hid (HEV4.out.below hb5 HEV4.out.lt)
          have HFB5 := hid (HFB.out.below hb5 lF)
          clear d0 d1
          have d0 := HFB5.out.cell 0
          simp only [fcells] at d0
          have lF5 := HFB5.out.lt
          clear p0 p1 p2 p3 p4 p5 p6 p7 z0 z1 z2 z3 z4 z5 z6 z7 hb5
          go_wp2_with fail
          refine (HT.out _ _).mono ?_
          rintro r x6 ⟨rfl, rfl⟩
          have q0 := HEV5.out.cell f.off
          rw [evArr_at] at q0
          have q1 := HEV5.out.frozen f.off
          have l5 := HEV5.out.lt
          clear d0
          go_wp2_with fail
          go_roundw
          case rel => exact ⟨j + 1, e.put f (zag u2), pos + k2, by go_num, by go_num, HST.out, by rw [Ev.put_kind]; exact HKU.out, HEJ.out.put f HEI2.out, by rw [← evArr_put]; exact HEV5.out.put _ _, (HBX4.out.trans (HB5.out.mono HBX4.out.size)).setCell (p := ⟨w2.heap.size, f.off, none⟩) (Nat.le_refl _) _⟩
          case measure => simp [intOf] <;> omega
    case neg =>
      have e1 : fat e.fl j = noField := by unfold fat; rw [List.getElem?_eq_none (by omega)]
      have e2 : decide (j < e.fl.length) = false := by simpa using hlt
      rw [e1, e2] at hCk
      unfold noField evArr at hCk
      have HCk := hid hCk
      have HEND := hid (from_end HFJ.out (List.getElem?_eq_none (by omega)))
      clear e1 e2 hCk hlt
      go_wp2_with fail
      refine HCk.out.mono ?_
      rintro r x3 ⟨rfl, hb3⟩
      have HB3 := hid hb3
      have HW3 := hid (HWR.out.trans (hb3.mono HWR.out.size))
      have HX3 := hid (HW3.out.alloc HW3.out.size (.cells noField 106))
      have HEV3 := hid (HEV.out.below hb3 lE)
      have HBT3 := hid (HB2.out.below (HBR.out.trans (hb3.mono HBR.out.size)) l2)
      have HVD := hid (validCall e (x3.alloc (.cells noField 106)) (HL.out.below HX3.out) HEJ.out.1 (HEJ.out.2 .R).2)
      have l3 := HEV3.out.lt
      have l3b := HBT3.out.lt
      clear hb3 HCk k0 k1 k2 k3 k4 k5 k6 k7
      have k0 := HEV3.out.cell 0
      have k1 := HEV3.out.cell 1
      have k2 := HEV3.out.cell 2
      have k3 := HEV3.out.cell 3
      have k4 := HEV3.out.cell 4
      have k5 := HEV3.out.cell 5
      have k6 := HEV3.out.cell 6
      have k7 := HEV3.out.cell 7
      simp only [evArr] at k0 k1 k2 k3 k4 k5 k6 k7
      unfold noField evArr at HVD
      go_wp2_with fail
      refine HVD.out.mono ?_
      rintro r x4 ⟨v, rfl, hv, hb4⟩
      have HW4 := hid (HX3.out.trans (hb4.mono HX3.out.size))
      have HEV4 := hid ((HEV3.out.alloc (.cells noField 106)).below hb4 (by simp; omega))
      have HBT4 := hid ((HBT3.out.alloc (.cells noField 106)).below hb4 (by simp; omega))
      have hN := fun W a => neq_nil 211 a (.inr rfl) W
      have l4 := HEV4.out.lt
      have l4b := HBT4.out.lt
      clear k0 k1 k2 k3 k4 k5 k6 k7 hb4
      have k0 := HEV4.out.cell 0
      have k1 := HEV4.out.cell 1
      have k2 := HEV4.out.cell 2
      have k3 := HEV4.out.cell 3
      have k4 := HEV4.out.cell 4
      have k5 := HEV4.out.cell 5
      have k6 := HEV4.out.cell 6
      have k7 := HEV4.out.cell 7
      have p0 := HBT4.out.cell 0
      have p1 := HBT4.out.cell 1
      have p2 := HBT4.out.cell 2
      have p3 := HBT4.out.cell 3
      have p4 := HBT4.out.cell 4
      have p5 := HBT4.out.cell 5
      have p6 := HBT4.out.cell 6
      have p7 := HBT4.out.cell 7
      have z0 := HBT4.out.frozen 0
      have z1 := HBT4.out.frozen 1
      have z2 := HBT4.out.frozen 2
      have z3 := HBT4.out.frozen 3
      have z4 := HBT4.out.frozen 4
      have z5 := HBT4.out.frozen 5
      have z6 := HBT4.out.frozen 6
      have z7 := HBT4.out.frozen 7
      simp only [evArr, Ev.zero] at k0 k1 k2 k3 k4 k5 k6 k7 p0 p1 p2 p3 p4 p5 p6 p7
      rcases hv with ⟨hok, rfl⟩ | ⟨_, a, rfl⟩
      case inl =>
        have HOK := hid hok
        clear hok
        go_wp2_with fail
        exact bodyPost_ret (res3E _ rfl _ _ _ _ _ _ _ _ _ _ _ _ _ rfl rfl rfl (HBT4.out.put8 _ _ _ _ _ _ _ _)) rfl ⟨_, _, _, rfl, .inr ⟨e, pos, rfl, rfl, rfl, HOK.out, HEJ.out, HEND.out.1, HEND.out.2.1, HEND.out.2.2⟩, below_put8 HW4.out (Nat.le_refl _) _ _ _ _ _ _ _ _⟩
      case inr =>
        go_wp2_with fail
        exact bodyPost_ret (res3E _ rfl _ _ _ _ _ _ _ _ _ _ _ _ _ rfl rfl rfl (HBT4.out.put8 _ _ _ _ _ _ _ _)) rfl ⟨_, _, _, rfl, .inl ⟨rfl, rfl, a, rfl⟩, below_put8 HW4.out (Nat.le_refl _) _ _ _ _ _ _ _ _⟩
end Go.Proofs.YtdinjplbbmhleaaDoor
