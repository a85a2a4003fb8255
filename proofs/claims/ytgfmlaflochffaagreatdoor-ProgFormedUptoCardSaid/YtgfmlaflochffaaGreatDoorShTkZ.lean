/-
  hist.Valid says yes of a history of registers whose events may be.
  slices.Clone of a history's objects; shape.New.
  shape.taken of a history that the automaton runs over.
-/
import Derived.Test.YtgfmlaflochffaaGreatDoorShRunZ
namespace Go.Proofs.YtgfmlaflochffaaGreatDoor
open Go.RowKit Go.Maps W
attribute [local go_sem ↓] Go.wp_at_zero Go.wp_at_succ

abbrev tHi : TypeId := 50
def obArr (c : Int) : List Value := [.int .i64 1, .int .i64 c]
def flatOb (cs : List Int) : List Value := cs.flatMap obArr
theorem obArr_len (c : Int) : (obArr c).length = 2 := rfl
theorem w11' : wordOf 1 1 = [114, 101, 103, 105, 115, 116, 101, 114] := by rfl
set_option maxHeartbeats 1000000 in
theorem objGood (n : Int) (h0 : -1000000 ≤ n) (h1 : n ≤ 1000000) (w : World) (hL : LaidE w) : Calls Tryz.prog 39 #[.agg #[.int .i64 1, .int .i64 n]] w fun r w' => r = .returned .nilIface ∧ Below w.heap.size w w' := by
  have hb0 := (Below.refl w.heap.size w).alloc (Nat.le_refl _) (.cells #[.int .i64 1, .int .i64 n] 43)
  have hw := wordCall 1 1 (by decide) _ (hL.below hb0)
  rw [w11'] at hw
  unfold str at hw
  have HW := hid hw
  have HB0 := hid hb0
  have HO := hid (Blk.new w 43 #[.int .i64 1, .int .i64 n])
  have q1 : decide (n < -1000000000) = false := by simp; omega
  have q2 : decide (1000000000 < n) = false := by simp; omega
  clear hw hb0 hL
  go_enter Tryz.func39, Tryz.ntmps39
  go_wp2_with fail
  refine HW.out.mono ?_
  rintro r w1 ⟨rfl, hb1⟩
  have HB1 := hid (HB0.out.trans (hb1.mono (by simp)))
  have HO1 := hid (HO.out.below hb1 (by simp))
  have c0 := HO1.out.cell 0
  have c1 := HO1.out.cell 1
  clear hb1 HW
  go_wp2_with fail
  go_ret
  exact ⟨rfl, HB1.out⟩
theorem row_slice {W : World} {B n size : Nat} {t : TypeId} {v : Value} {xs : List Value} (h : W.ownsRow B t size v n xs) (hn : 0 < n) : ∃ g c, v = .slice (some ⟨g, 0, none⟩) n c ∧ B ≤ g ∧ g < W.heap.size ∧ n ≤ c := by
  rcases h.2 with ⟨_, rfl⟩ | ⟨g, cap, cur, rfl, hB, hg, hc, _⟩
  · omega
  · exact ⟨g, cap, rfl, hB, lt_of_at hg, hc⟩
theorem ob_at {W : World} {B : Nat} {g n c : Nat} {cs : List Int} (h : W.ownsRow B tOb 2 (.slice (some ⟨g, 0, none⟩) n c) n (flatOb cs)) {k : Nat} {x : Int} (hk : cs[k]? = some x) (hkn : k < n) : W.cell? ⟨g, k * 2, none⟩ = some (.int .i64 1) ∧ W.cell? ⟨g, k * 2 + 1, none⟩ = some (.int .i64 x) := by
  have h0 := fq_at (n := 2) (fun a => obArr_len a) cs k x hk 0 (by omega)
  have h1 := fq_at (n := 2) (fun a => obArr_len a) cs k x hk 1 (by omega)
  exact ⟨by rw [h.cellAt (k * 2) (by omega)]; exact h0, by rw [h.cellAt (k * 2 + 1) (by omega)]; exact h1⟩
theorem ev_at {W : World} {B : Nat} {g n c : Nat} {es : List Ev} (h : W.ownsRow B tEv 8 (.slice (some ⟨g, 0, none⟩) n c) n (flatEv es)) {k : Nat} {x : Ev} (hk : es[k]? = some x) (hkn : k < n) : ∀ r, r < 8 → W.cell? ⟨g, k * 8 + r, none⟩ = (evArr x)[r]? := by
  intro r hr
  have h0 := fq_at (n := 8) (fun a => evArr_len a) es k x hk r hr
  rw [h.cellAt (k * 8 + r) (by omega)]
  simpa [flatEv] using h0
set_option linter.unusedSimpArgs false in
set_option maxHeartbeats 16000000 in
set_option maxRecDepth 100000 in
theorem validHist {B : Nat} {w : World} {vo vl : Value} {cs : List Int} {es : List Ev} (ho : w.ownsRow B tOb 2 vo cs.length (flatOb cs)) (hl : w.ownsRow B tEv 8 vl es.length (flatEv es)) (hc8 : cs.length ≤ 8) (he4 : es.length ≤ 400) (hcs : ∀ c ∈ cs, -1000000 ≤ c ∧ c ≤ 1000000) (hes : ∀ e ∈ es, EvGood cs.length e) (hL : LaidE w) :
    Calls Tryz.prog 34 #[.agg #[vo, vl]] w fun r w' => r = .returned .nilIface ∧ Below w.heap.size w w' := by
  obtain ⟨Ao, co, rfl⟩ := row_shape ho
  obtain ⟨Al, cl, rfl⟩ := row_shape hl
  have hb0 := (Below.refl w.heap.size w).alloc (Nat.le_refl _) (.cells #[.slice Ao cs.length co, .slice Al es.length cl] tHi)
  have HB0 := hid hb0
  have HX := hid (Blk.new w tHi #[.slice Ao cs.length co, .slice Al es.length cl])
  have HL := hid hL
  have HO := hid (row_call ho hb0)
  have HE := hid (row_call hl hb0)
  have HCS := hid hcs
  have HES := hid hes
  have q1 : decide (8 < cs.length) = false := by simpa using hc8
  have q2 : decide (400 < es.length) = false := by simpa using he4
  clear hb0 ho hl hcs hes hL
  go_enter Tryz.func34, Tryz.ntmps34
  go_upto_region 3 with fail
  generalize hw0 : w.alloc (.cells #[.slice Ao cs.length co, .slice Al es.length cl] tHi) = w0 at HB0 HX HO HE ⊢
  have x0 := HX.out.cell 0
  have x1 := HX.out.cell 1
  have lx := HX.out.lt
  clear hw0
  go_wp2_with fail
  go_loopw [23] (fun si wr => ∃ k : Nat, si = .int .i64 k ∧ k ≤ cs.length ∧ Below w0.heap.size w0 wr) (fun si _ => 9 - (intOf si).toNat)
  case atStart => exact ⟨0, rfl, Nat.zero_le _, Below.refl _ _⟩
  case round =>
    obtain ⟨k, rfl, hk, hbr⟩ := hrel
    have HBR := hid hbr
    by_cases hlt : k < cs.length
    · obtain ⟨c, hc⟩ : ∃ c, cs[k]? = some c := ⟨cs[k], List.getElem?_eq_getElem hlt⟩
      obtain ⟨go, co', he, _, lgo, hco⟩ := row_slice HO.out (by omega)
      injection he with he1 _ he2
      subst he1 he2
      obtain ⟨z0, z1⟩ := ob_at HO.out hc hlt
      have y0 := (hbr.cell (p := ⟨go, k * 2, none⟩) lgo).trans z0
      have y1 := (hbr.cell (p := ⟨go, k * 2 + 1, none⟩) lgo).trans z1
      have lgr : go < wr.heap.size := by have := hbr.size; omega
      obtain ⟨hc0, hc1⟩ := HCS.out c (List.mem_of_getElem? hc)
      have i0 : (0 : Int) ≤ (k : Int) := by omega
      have i1 : (k : Int) < (cs.length : Int) := by omega
      have HG := hid (fun w hL => objGood c hc0 hc1 w hL)
      have HLR := hid ((HL.out.below HB0.out).below hbr)
      clear hbr hc z0 z1 hc0 hc1
      go_wp2_with fail
      refine (HG.out _ (HLR.out.below ((Below.refl _ _).alloc (Nat.le_refl _) _))).mono ?_
      rintro r w2 ⟨rfl, hb2⟩
      have HB2 := hid ((HBR.out.alloc HBR.out.size (.cells #[.int .i64 1, .int .i64 c] 43)).trans (hb2.mono (by have := HBR.out.size; simp; omega)))
      clear hb2 HG
      go_wp2_with fail
      go_roundw
      case rel => exact ⟨k + 1, by go_num, by omega, HB2.out⟩
      case measure => simp [intOf]; omega
    · have q3 : decide (k < cs.length) = false := by simpa using hlt
      have y0 := (hbr.cell (p := ⟨w.heap.size, 0, none⟩) lx).trans x0
      have y1 := (hbr.cell (p := ⟨w.heap.size, 1, none⟩) lx).trans x1
      have lx1 : w.heap.size < wr.heap.size := by have := hbr.size; omega
      clear hbr hlt
      go_wp2_with fail
      go_loopw [39] (fun si ws => ∃ j : Nat, si = .int .i64 j ∧ j ≤ es.length ∧ Below w0.heap.size w0 ws) (fun si _ => 401 - (intOf si).toNat)
      case atStart => exact ⟨0, rfl, Nat.zero_le _, HBR.out⟩
      case round =>
        obtain ⟨j, rfl, hj, hbs⟩ := hrel
        obtain ⟨ws', rfl⟩ : ∃ ws' : World, ws' = wr := ⟨_, rfl⟩
        have HBS := hid hbs
        by_cases hlt : j < es.length
        · obtain ⟨e, he⟩ : ∃ e, es[j]? = some e := ⟨es[j], List.getElem?_eq_getElem hlt⟩
          obtain ⟨ge, ce', hge, _, lge, hce⟩ := row_slice HE.out (by omega)
          injection hge with he1 _ he2
          subst he1 he2
          have hz := ev_at HE.out he hlt
          have z0 : ws'.cell? ⟨ge, j * 8, none⟩ = some (.int .i64 e.kind) := (hbs.cell (p := ⟨ge, j * 8 + 0, none⟩) lge).trans (hz 0 (by omega))
          have z1 : ws'.cell? ⟨ge, j * 8 + 1, none⟩ = some (.int .i64 e.tx) := (hbs.cell (p := ⟨ge, j * 8 + 1, none⟩) lge).trans (hz 1 (by omega))
          have z2 : ws'.cell? ⟨ge, j * 8 + 2, none⟩ = some (.int .i64 e.thr) := (hbs.cell (p := ⟨ge, j * 8 + 2, none⟩) lge).trans (hz 2 (by omega))
          have z3 : ws'.cell? ⟨ge, j * 8 + 3, none⟩ = some (.int .i64 e.obj) := (hbs.cell (p := ⟨ge, j * 8 + 3, none⟩) lge).trans (hz 3 (by omega))
          have z4 : ws'.cell? ⟨ge, j * 8 + 4, none⟩ = some (.int .i64 e.op) := (hbs.cell (p := ⟨ge, j * 8 + 4, none⟩) lge).trans (hz 4 (by omega))
          have z5 : ws'.cell? ⟨ge, j * 8 + 5, none⟩ = some (.int .i64 e.key) := (hbs.cell (p := ⟨ge, j * 8 + 5, none⟩) lge).trans (hz 5 (by omega))
          have z6 : ws'.cell? ⟨ge, j * 8 + 6, none⟩ = some (.int .i64 e.val) := (hbs.cell (p := ⟨ge, j * 8 + 6, none⟩) lge).trans (hz 6 (by omega))
          have z7 : ws'.cell? ⟨ge, j * 8 + 7, none⟩ = some (.int .i64 e.ret) := (hbs.cell (p := ⟨ge, j * 8 + 7, none⟩) lge).trans (hz 7 (by omega))
          have lgs : ge < ws'.heap.size := by have := hbs.size; omega
          have HG := hid (HES.out e (List.mem_of_getElem? he))
          have i0 : (0 : Int) ≤ (j : Int) := by omega
          have i1 : (j : Int) < (es.length : Int) := by omega
          have hE9 : evArr e = #[.int .i64 e.kind, .int .i64 e.tx, .int .i64 e.thr, .int .i64 e.obj, .int .i64 e.op, .int .i64 e.key, .int .i64 e.val, .int .i64 e.ret] := rfl
          have hV := fun w hL => validGood HG.out HG.out.ret w hL
          rw [hE9] at hV
          have HV := hid hV
          have HLR := hid (((HL.out.below HB0.out).below hbs).below ((Below.refl _ _).alloc (Nat.le_refl _) (.cells #[.int .i64 e.kind, .int .i64 e.tx, .int .i64 e.thr, .int .i64 e.obj, .int .i64 e.op, .int .i64 e.key, .int .i64 e.val, .int .i64 e.ret] tEv)))
          have HN := hid (Blk.new ws' tEv #[.int .i64 e.kind, .int .i64 e.tx, .int .i64 e.thr, .int .i64 e.obj, .int .i64 e.op, .int .i64 e.key, .int .i64 e.val, .int .i64 e.ret])
          clear hbs hV hE9 hz he y0 y1 lx1 hk q3
          go_wp2_with fail
          refine (HV.out _ HLR.out).mono ?_
          rintro r w2 ⟨rfl, hb2⟩
          have HB2 := hid ((HBS.out.alloc HBS.out.size (.cells #[.int .i64 e.kind, .int .i64 e.tx, .int .i64 e.thr, .int .i64 e.obj, .int .i64 e.op, .int .i64 e.key, .int .i64 e.val, .int .i64 e.ret] tEv)).trans (hb2.mono (by have := HBS.out.size; simp; omega)))
          have HN2 := HN.out.below hb2 (by simp)
          have e0 := HN2.cell 0
          have e3 := HN2.cell 3
          have e4 := HN2.cell 4
          have ln := HN2.lt
          have y0 := (HB2.out.cell (p := ⟨w.heap.size, 0, none⟩) lx).trans x0
          have ly : w.heap.size < w2.heap.size := by have := HB2.out.size; omega
          clear hb2 HV HLR HN HN2 z0 z1 z2 z3 z4 z5 z6 z7 lgs
          by_cases hk2 : e.kind = 2
          · obtain ⟨hob0, hob1, hop⟩ := HG.out.2 hk2
            have t2 : (e.kind != 2) = false := by simp [hk2]
            obtain ⟨o, ho9⟩ : ∃ o : Nat, e.obj = (o : Int) := ⟨e.obj.toNat, by omega⟩
            have hon : o < cs.length := by omega
            obtain ⟨c, hc⟩ : ∃ c, cs[o]? = some c := ⟨cs[o], List.getElem?_eq_getElem hon⟩
            obtain ⟨go, co', hgo, _, lgo, hco⟩ := row_slice HO.out (by omega)
            injection hgo with hg1 _ hg2
            subst hg1 hg2
            obtain ⟨u0, _⟩ := ob_at HO.out hc hon
            have u0' := (HB2.out.cell (p := ⟨go, o * 2, none⟩) lgo).trans u0
            rw [ho9] at e3
            have i2 : (0 : Int) ≤ (o : Int) := by omega
            have i3 : (o : Int) < (cs.length : Int) := by omega
            have q4 : decide (cs.length ≤ o) = false := by simpa using hon
            have HF := hid (fun w => (ofCall e.op w).mono (R' := fun r w' => r = .returned (.int .i64 1) ∧ w' = w) (fun _ _ h9 => ⟨by rw [h9.1]; rcases hop with h | h <;> rw [h] <;> rfl, h9.2.symm⟩))
            clear hob0 hob1 hop hc u0 hon hk2 ho9
            go_wp2_with fail
            go_quiet ((go_at_call 42; first | exact quiet_more4 (HF.out _) | exact Calls.quiet_of_same (HF.out _)))
            go_wp2_with fail
            go_roundw
            case rel => exact ⟨j + 1, by go_num, by omega, below_drewN HB2.out _⟩
            case measure => simp [intOf]; omega
          · have t2 : (e.kind != 2) = true := by simpa using hk2
            clear hk2
            go_wp2_with fail
            go_roundw
            case rel => exact ⟨j + 1, by go_num, by omega, HB2.out⟩
            case measure => simp [intOf]; omega
        · have q4 : decide (j < es.length) = false := by simpa using hlt
          clear hlt hbs
          go_wp2_with fail
          go_ret
          exact ⟨rfl, HB0.out.trans (HBS.out.mono HB0.out.size)⟩
end Go.Proofs.YtgfmlaflochffaaGreatDoor

namespace Go.Proofs.YtgfmlaflochffaaGreatDoor
open Go.RowKit Go.Maps W
attribute [local go_sem ↓] Go.wp_at_zero Go.wp_at_succ

theorem infoOb : (Tryz.prog.info? tOb).map (fun i => (i.zero, i.size, i.bytes)) = some (some (.agg #[.int .i64 0, .int .i64 0]), 2, 16) := by kernel_rfl
theorem flatOb_one (cs : List Int) : ∀ u ∈ flatOb cs, u.oneCell' = true := by
  intro u hu
  obtain ⟨c, _, hc⟩ := List.mem_flatMap.1 hu
  simp [obArr] at hc
  rcases hc with rfl | rfl <;> rfl
theorem flatOb_len (cs : List Int) : (flatOb cs).length = cs.length * 2 := fq_len (n := 2) (fun a => obArr_len a) cs
theorem slice_nilOb (a : Addr) (n c : Nat) (w : World) : (binOp .eql 41 (.slice (some a) n c) (.slice none 0 0)).run Tryz.prog w = .ok (.bool false) w := by
  simp only [binOp]
  simp [Op.equal, Op.maxDepth, go_sem]
  kernel_rfl
set_option maxHeartbeats 4000000 in
set_option maxRecDepth 100000 in
theorem cloneOb {B : Nat} {w : World} {vo : Value} {cs : List Int} (ho : w.ownsRow B tOb 2 vo cs.length (flatOb cs)) (h0 : 0 < cs.length) (hc8 : cs.length ≤ 8) :
    Calls Tryz.prog 43 #[vo] w fun r w' => ∃ v, r = .returned v ∧ w'.ownsRow w.heap.size tOb 2 v cs.length (flatOb cs) ∧ Below w.heap.size w w' := by
  obtain ⟨i0, hi, hz0, hz1, hz2⟩ := info_parts infoOb
  obtain ⟨go, co, rfl, _, lgo, hco⟩ := row_slice ho h0
  have hcell : ∀ j u, (flatOb cs)[j]? = some u → (w.alloc (.cells #[] tOb)).cell? ((⟨go, 0, none⟩ : Addr).add j) = some u := fun j u hu => by
    have hj := (List.getElem?_eq_some_iff.1 hu).1
    rw [flatOb_len] at hj
    rw [Addr.add_lit, Nat.zero_add]
    refine (((Below.refl w.heap.size w).alloc (Nat.le_refl _) _).cell (p := ⟨go, j, none⟩) lgo).trans ?_
    rw [ho.cellAt j hj, hu]
  have HCE := hid hcell
  have hsn := slice_nilOb ⟨go, 0, none⟩ cs.length co w
  have HR : Hid ((w.alloc (.cells #[] tOb)).ownsRow w.heap.size tOb 2 (.slice (some ⟨w.heap.size, 0, none⟩) 0 0) 0 []) := hid (row_new (w := w) (cs := #[]) (t := tOb) (B := w.heap.size) (size := 2) (n := 0) rfl (Nat.le_refl _) (by unfold maxLen; omega))
  have HFL := hid (flatOb_len cs)
  clear ho hcell
  go_enter Tryz.func43, Tryz.ntmps43
  go_wp2_with (at_builtin; refine wpList_append_own_at _ rfl (.tmp 5) (.tmp 6) 41 rfl w.heap.size tOb i0 (.agg #[.int .i64 0, .int .i64 0]) 2 16 Tryz.underlying41 hi hz0 hz1 hz2 rfl (by decide) (.slice (some ⟨w.heap.size, 0, none⟩) 0 0) 0 [] rfl HR.out ⟨go, 0, none⟩ cs.length co (flatOb cs) rfl HFL.out HCE.out (flatOb_one cs) (by unfold maxLen; omega) (by omega) (by simp) ?_; intro v6 w6 hown6 hgrow6 _ hat6)
  go_ret
  refine ⟨_, rfl, by simpa using hown6, ?_⟩
  exact ((Below.refl w.heap.size w).alloc (Nat.le_refl _) _).grown hgrow6 (by simp) (fun x hx => (row_own HR.out hx).1)
theorem shStart {L : Nat} {x : World} {vo : Value} {cs : List Int} (hL : L ≤ x.heap.size) (ho : x.ownsRow L tOb 2 vo cs.length (flatOb cs)) :
    Sh L (((x.alloc (.map #[] 0)).alloc (.map #[] 0)).alloc (.cells #[vo, .int .i64 0, .slice none 0 0, .map (some x.heap.size), .map (some (x.heap.size + 1))] tAu)) ⟨0, []⟩ cs.length (x.heap.size + 1 + 1) vo x.heap.size (x.heap.size + 1) := by
  have h1 : MapG (((x.alloc (.map #[] 0)).alloc (.map #[] 0)).alloc (.cells #[vo, .int .i64 0, .slice none 0 0, .map (some x.heap.size), .map (some (x.heap.size + 1))] tAu)) x.heap.size 0 noneG := ((MapG.made x).alloc _).alloc _
  have h2 : MapG (((x.alloc (.map #[] 0)).alloc (.map #[] 0)).alloc (.cells #[vo, .int .i64 0, .slice none 0 0, .map (some x.heap.size), .map (some (x.heap.size + 1))] tAu)) (x.heap.size + 1) 0 noneG := by
    have h := (MapG.made (x.alloc (.map #[] 0))).alloc (.cells #[vo, .int .i64 0, .slice none 0 0, .map (some x.heap.size), .map (some (x.heap.size + 1))] tAu)
    rw [World.size_alloc] at h
    exact h
  have hb := Blk.new ((x.alloc (.map #[] 0)).alloc (.map #[] 0)) tAu #[vo, .int .i64 0, .slice none 0 0, .map (some x.heap.size), .map (some (x.heap.size + 1))]
  simp only [World.size_alloc] at hb
  refine ⟨[], .slice none 0 0, noneG, ⟨hb, by omega, ⟨_, ((ho.alloc _).alloc _).alloc _, fun j hj => ?_⟩, ⟨rfl, .inl ⟨rfl, rfl⟩⟩, rfl, fun i s hd hi => by simp at hi, fun i j hd hd' hi => by simp at hi, hL, by omega, by omega, ⟨0, noneG, Nat.le_refl _, h1, fun i s hd hi => by simp at hi, fun _ _ => rfl⟩, ⟨0, Nat.le_refl _, h2⟩⟩, fun i s hd hi => by simp at hi, fun _ _ => rfl⟩
  obtain ⟨c, hc⟩ : ∃ c, cs[j]? = some c := ⟨cs[j], List.getElem?_eq_getElem hj⟩
  exact fq_at (n := 2) (fun a => obArr_len a) cs j c hc 0 (by omega)
def NewPost (w : World) (nc : Nat) (r : Ending) (w' : World) : Prop := ∃ ab vo' m1 m2, r = .returned (.tuple #[.pointer (some ⟨ab, 0, none⟩), .nilIface]) ∧ Sh w.heap.size w' ⟨0, []⟩ nc ab vo' m1 m2 ∧ Below w.heap.size w w'
set_option maxHeartbeats 4000000 in
set_option maxRecDepth 100000 in
theorem newCall {B : Nat} {w : World} {vo : Value} {cs : List Int} (ho : w.ownsRow B tOb 2 vo cs.length (flatOb cs)) (h0 : 0 < cs.length) (hc8 : cs.length ≤ 8) (hcs : ∀ c ∈ cs, -1000000 ≤ c ∧ c ≤ 1000000) (hL : LaidE w) :
    Calls Tryz.prog 35 #[vo] w fun r w' => NewPost w cs.length r w' := by
  obtain ⟨Ao, co, rfl⟩ := row_shape ho
  have HV := hid (validHist (es := []) (vl := .slice none 0 0) ho ⟨rfl, .inl ⟨rfl, rfl⟩⟩ hc8 (by simp) hcs (fun e he => by simp at he) hL)
  have HC := hid (fun (w1 : World) (hb : Below w.heap.size w w1) => cloneOb (row_call ho hb) h0 hc8)
  have hmm := @run_makeMap Tryz.prog
  clear ho hcs hL
  go_enter Tryz.func35, Tryz.ntmps35
  go_wp2_with fail
  refine HV.out.mono ?_
  rintro r w1 ⟨rfl, hb1⟩
  have HB1 := hid hb1
  clear hb1 HV
  go_wp2_with fail
  refine (HC.out _ HB1.out).mono ?_
  rintro r w2 ⟨v, rfl, hown, hb2⟩
  have HB2 := hid (HB1.out.trans (hb2.mono HB1.out.size))
  have HS := hid (shStart (L := w.heap.size) HB2.out.size (row_base hown HB1.out.size))
  obtain ⟨A2, c2, rfl⟩ := row_shape hown
  clear hb2 hown HC
  go_wp2_with fail
  go_ret2
  exact ⟨_, _, _, _, rfl, HS.out, (((HB2.out.alloc HB2.out.size _).alloc (by have := HB2.out.size; simp; omega) _).alloc (by have := HB2.out.size; simp; omega) _)⟩
end Go.Proofs.YtgfmlaflochffaaGreatDoor

namespace Go.Proofs.YtgfmlaflochffaaGreatDoor
open Go.RowKit Go.Maps W
attribute [local go_sem ↓] Go.wp_at_zero Go.wp_at_succ

def TakenPost (w : World) (nc : Nat) (A : Au) (r : Ending) (w' : World) : Prop := ∃ L ab vo' m1 m2, r = .returned (.tuple #[.pointer (some ⟨ab, 0, none⟩), .nilIface]) ∧ Sh L w' A nc ab vo' m1 m2 ∧ w.heap.size ≤ L ∧ Below w.heap.size w w'
set_option linter.unusedSimpArgs false in
set_option maxHeartbeats 16000000 in
set_option maxRecDepth 100000 in
theorem takenCall {B : Nat} {w : World} {vo vl : Value} {cs : List Int} {es : List Ev} {A : Au} (ho : w.ownsRow B tOb 2 vo cs.length (flatOb cs)) (hl : w.ownsRow B tEv 8 vl es.length (flatEv es)) (h0 : 0 < cs.length) (hc8 : cs.length ≤ 8) (he4 : es.length ≤ 400) (hcs : ∀ c ∈ cs, -1000000 ≤ c ∧ c ≤ 1000000) (hr : Runs cs.length es A) (hL : LaidE w) :
    Calls Tryz.prog 25 #[.agg #[vo, vl]] w fun r w' => TakenPost w cs.length A r w' := by
  obtain ⟨Ao, co, rfl⟩ := row_shape ho
  obtain ⟨Al, cl, rfl⟩ := row_shape hl
  obtain ⟨f, hf0, hf1, hf2⟩ := hr
  have hes : ∀ e ∈ es, EvGood cs.length e := fun e he => by
    obtain ⟨k, hk⟩ := List.getElem?_of_mem he
    exact (hf2 k e hk).1
  have hb0 := (Below.refl w.heap.size w).alloc (Nat.le_refl _) (.cells #[.slice Ao cs.length co, .slice Al es.length cl] tHi)
  have HB0 := hid hb0
  have HX := hid (Blk.new w tHi #[.slice Ao cs.length co, .slice Al es.length cl])
  have HV := hid (validHist (row_call ho hb0) (row_call hl hb0) hc8 he4 hcs hes (hL.below hb0))
  have HN := hid (fun (w1 : World) (hb : Below w.heap.size w w1) => newCall (row_call ho hb) h0 hc8 hcs (hL.below hb))
  have HL := hid hL
  have HE := hid hl
  have HF0 := hid hf0
  have HF1 := hid hf1
  have HF2 := hid hf2
  have HBN := hid (runs_bnd hf0 hf2)
  clear hb0 ho hl hcs hes hL hf0 hf1 hf2
  go_enter Tryz.func25, Tryz.ntmps25
  go_wp2_with fail
  refine HV.out.mono ?_
  rintro r w1 ⟨rfl, hb1⟩
  have HB1 := hid (HB0.out.trans (hb1.mono (by simp)))
  have HX1 := hid (HX.out.below hb1 (by simp))
  have x0 := HX1.out.cell 0
  have lx := HX1.out.lt
  clear hb1 HV
  go_wp2_with fail
  refine (HN.out _ HB1.out).mono ?_
  rintro r w2 ⟨ab, vo', m1, m2, rfl, hsh, hb2⟩
  have HB2 := hid (HB1.out.trans (hb2.mono HB1.out.size))
  have HX2 := hid (HX1.out.below hb2 lx)
  have HSH := hid hsh
  have HSZ := hid HB1.out.size
  have x1 := HX2.out.cell 1
  have lx2 := HX2.out.lt
  clear hb2 hsh x0 lx HN
  go_wp2_with fail
  go_loopw [27] (fun si wr => ∃ k : Nat, si = .int .i64 k ∧ k ≤ es.length ∧ Sh w1.heap.size wr (f k) cs.length ab vo' m1 m2 ∧ Below w.heap.size w wr) (fun si _ => 401 - (intOf si).toNat)
  case atStart => exact ⟨0, rfl, Nat.zero_le _, by rw [HF0.out]; exact HSH.out, HB2.out⟩
  case round =>
    obtain ⟨k, rfl, hk, hs, hbr⟩ := hrel
    have HS := hid hs
    have HBR := hid hbr
    by_cases hlt : k < es.length
    · obtain ⟨e, he⟩ : ∃ e, es[k]? = some e := ⟨es[k], List.getElem?_eq_getElem hlt⟩
      obtain ⟨ge, ce', hge, _, lge, hce⟩ := row_slice HE.out (by omega)
      injection hge with he1 _ he2
      subst he1 he2
      have hz := ev_at HE.out he hlt
      have z0 : wr.cell? ⟨ge, k * 8, none⟩ = some (.int .i64 e.kind) := (hbr.cell (p := ⟨ge, k * 8 + 0, none⟩) lge).trans (hz 0 (by omega))
      have z1 : wr.cell? ⟨ge, k * 8 + 1, none⟩ = some (.int .i64 e.tx) := (hbr.cell (p := ⟨ge, k * 8 + 1, none⟩) lge).trans (hz 1 (by omega))
      have z2 : wr.cell? ⟨ge, k * 8 + 2, none⟩ = some (.int .i64 e.thr) := (hbr.cell (p := ⟨ge, k * 8 + 2, none⟩) lge).trans (hz 2 (by omega))
      have z3 : wr.cell? ⟨ge, k * 8 + 3, none⟩ = some (.int .i64 e.obj) := (hbr.cell (p := ⟨ge, k * 8 + 3, none⟩) lge).trans (hz 3 (by omega))
      have z4 : wr.cell? ⟨ge, k * 8 + 4, none⟩ = some (.int .i64 e.op) := (hbr.cell (p := ⟨ge, k * 8 + 4, none⟩) lge).trans (hz 4 (by omega))
      have z5 : wr.cell? ⟨ge, k * 8 + 5, none⟩ = some (.int .i64 e.key) := (hbr.cell (p := ⟨ge, k * 8 + 5, none⟩) lge).trans (hz 5 (by omega))
      have z6 : wr.cell? ⟨ge, k * 8 + 6, none⟩ = some (.int .i64 e.val) := (hbr.cell (p := ⟨ge, k * 8 + 6, none⟩) lge).trans (hz 6 (by omega))
      have z7 : wr.cell? ⟨ge, k * 8 + 7, none⟩ = some (.int .i64 e.ret) := (hbr.cell (p := ⟨ge, k * 8 + 7, none⟩) lge).trans (hz 7 (by omega))
      have lgs : ge < wr.heap.size := by have := hbr.size; omega
      obtain ⟨hg, hst⟩ := HF2.out k e he
      obtain ⟨hbn, hmk⟩ := HBN.out k hk
      have hE9 : evArr e = #[.int .i64 e.kind, .int .i64 e.tx, .int .i64 e.thr, .int .i64 e.obj, .int .i64 e.op, .int .i64 e.key, .int .i64 e.val, .int .i64 e.ret] := rfl
      have hfd := feedCall (hs.call ((Below.refl _ _).alloc (Nat.le_refl _) (.cells #[.int .i64 e.kind, .int .i64 e.tx, .int .i64 e.thr, .int .i64 e.obj, .int .i64 e.op, .int .i64 e.key, .int .i64 e.val, .int .i64 e.ret] tEv))) ((HL.out.below hbr).below ((Below.refl _ _).alloc (Nat.le_refl _) _)) (by rw [hmk]; omega) hg hbn hst
      rw [hE9] at hfd
      have HFD := hid hfd
      have i0 : (0 : Int) ≤ (k : Int) := by omega
      have i1 : (k : Int) < (es.length : Int) := by omega
      clear hs hbr he hz hg hst hbn hmk hE9 hfd
      go_wp2_with fail
      refine HFD.out.mono ?_
      rintro r w3 ⟨rfl, hs3, hb3⟩
      have HS3 := hid hs3
      have HB3 := hid ((HBR.out.alloc HBR.out.size (.cells #[.int .i64 e.kind, .int .i64 e.tx, .int .i64 e.thr, .int .i64 e.obj, .int .i64 e.op, .int .i64 e.key, .int .i64 e.val, .int .i64 e.ret] tEv)).trans (hb3.mono HSZ.out))
      clear hs3 hb3 z0 z1 z2 z3 z4 z5 z6 z7 HFD
      go_wp2_with fail
      go_roundw
      case rel => exact ⟨k + 1, by go_num, by omega, HS3.out, HB3.out⟩
      case measure => simp [intOf]; omega
    · have q3 : decide (k < es.length) = false := by simpa using hlt
      have hke : k = es.length := by omega
      have HSE : Hid (Sh w1.heap.size wr A cs.length ab vo' m1 m2) := hid (by rw [← HF1.out, ← hke]; exact hs)
      clear hlt hs hbr hke
      go_wp2_with fail
      go_ret2
      exact ⟨_, _, _, _, _, rfl, HSE.out, HSZ.out, HBR.out⟩
end Go.Proofs.YtgfmlaflochffaaGreatDoor
