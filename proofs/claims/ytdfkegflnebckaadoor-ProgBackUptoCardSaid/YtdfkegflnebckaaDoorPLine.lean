/-
  prog.alone, prog.cells, prog.line: what a line does to the program that is being read.
-/
import Derived.Test.YtdfkegflnebckaaDoorPPp
namespace Go.Proofs.YtdfkegflnebckaaDoor
open Go.RowKit Go.Maps W
attribute [local go_sem ↓] Go.wp_at_zero Go.wp_at_succ

theorem infoI : (Tryd.prog.info? 3).map (fun i => (i.zero, i.size, i.bytes)) = some (some (.int .i64 0), 1, 8) := by kernel_rfl
theorem infoH : (Tryd.prog.info? 51).map (fun i => (i.zero, i.size, i.bytes)) = some (some (.slice none 0 0), 1, 24) := by kernel_rfl
theorem infoT : (Tryd.prog.info? 52).map (fun i => (i.zero, i.size, i.bytes)) = some (some (.slice none 0 0), 1, 24) := by kernel_rfl

theorem aloneCall (A : Option Addr) (n c : Nat) (w : World) (hL : LaidP w) (hlen : n ≤ 1000000000) :
    Calls Tryd.prog 37 #[.slice A n c] w fun e w' => ∃ v, e = .returned v ∧ ((n ≤ 1 ∧ v = .nilIface) ∨ (1 < n ∧ someErr v)) ∧ w = w' := by
  obtain ⟨a, ha⟩ := hL.errs 5 (by simp)
  clear hL
  by_cases h : 1 < n
  · have HG := hid h
    go_enter Tryd.func37, Tryd.ntmps37
    go_wp2_with fail
    go_ret
    exact ⟨_, rfl, .inr ⟨HG.out, a, rfl⟩, rfl⟩
  · have HG := hid h
    go_enter Tryd.func37, Tryd.ntmps37
    go_wp2_with fail
    go_ret
    exact ⟨_, rfl, .inl ⟨by have := HG.out; omega, rfl⟩, rfl⟩

/-- What cells tells, and does. -/
def CellsOut (p : Pg) (r : List (List UInt8)) (v : Value) (p' : Pg) : Prop :=
  (∃ ns, r ≠ [] ∧ readNums r = some ns ∧ v = .nilIface ∧ p' = { p with cells := p.cells ++ ns }) ∨ ((r = [] ∨ readNums r = none) ∧ someErr v)
theorem readNums_cons (y : List UInt8) (r : List (List UInt8)) : readNums (y :: r) = match number y with
  | none => none
  | some n => (readNums r).map (n :: ·) := rfl

set_option maxHeartbeats 16000000 in
set_option maxRecDepth 100000 in
theorem cellsCall (F : List Nat) (B pb : Nat) (vc vt : Value) (p : Pg) (r : List (List UInt8)) (A : Option Addr) (c : Nat) (w0 W : World) (hL : LaidP w0) (h0 : Below w0.heap.size w0 W) (hB0 : w0.heap.size ≤ B) (hp : Pp F B pb W vc vt p) (hr : Reads W (.slice A r.length c) (txs r)) (hF : ∀ b o, A = some ⟨b, o, none⟩ → b ∈ F)
    (hrl : ∀ x ∈ r, x.length ≤ 1000000000) (hlen : p.cells.length + r.length ≤ 1000000000) :
    Calls Tryd.prog 38 #[.pointer (some ⟨pb, 0, none⟩), .slice A r.length c] W fun e W' => ∃ v vc' p', e = .returned v ∧ CellsOut p r v p' ∧ Pp F B pb W' vc' vt p' ∧ KeptF F W W' ∧ Below B W W' := by
  obtain ⟨i0, hi, hz0, hz1, hz2⟩ := info_parts infoI
  have HL := hid (fun W' (hb : Below B W W') => hL.below (h0.trans (hb.mono hB0)))
  have HP := hid hp
  have HR := hid hr
  have HRL := hid hrl
  have hBW : B ≤ W.heap.size := by have := hp.le; have := hp.box.lt; omega
  have hN := fun W a => neq_nil 162 a (.inr rfl) W
  clear hp hr hrl h0 hL
  cases r with
  | nil =>
    obtain ⟨a, ha⟩ := (HL.out W (Below.refl _ _)).errs 5 (by simp)
    go_enter Tryd.func38, Tryd.ntmps38
    go_wp2_with fail
    go_ret
    exact ⟨_, _, _, rfl, .inr ⟨.inl rfl, a, rfl⟩, HP.out, KeptF.refl _ _, Below.refl _ _⟩
  | cons x0 r0 =>
    obtain ⟨r, hr0⟩ : ∃ r, x0 :: r0 = r := ⟨_, rfl⟩
    rw [hr0] at HR HRL hlen ⊢
    have hpos : 0 < r.length := by rw [← hr0]; simp
    have HNE := hid (show r ≠ [] by rw [← hr0]; simp)
    have tz : ((r.length : Int) == 0) = false := beq_eq_false_iff_ne.2 (by omega)
    clear hr0
    obtain ⟨bl, ol, rfl⟩ := HR.out.addr (by simpa [txs] using hpos)
    have hbF : bl ∈ F := hF bl ol rfl
    go_enter Tryd.func38, Tryd.ntmps38
    go_wp2_with fail
    go_loopw [15] (fun si wr => ∃ (k : Nat) (vc' : Value) (ns : List Int), si = .int .i64 k ∧ k ≤ r.length ∧ readNums r = (readNums (r.drop k)).map (ns ++ ·) ∧ ns.length ≤ k ∧ Pp F B pb wr vc' vt { p with cells := p.cells ++ ns } ∧ KeptF F W wr ∧ Below B W wr) (fun si _ => r.length - (intOf si).toNat)
    case atStart => exact ⟨0, vc, [], rfl, Nat.zero_le _, by simp, Nat.le_refl _, by simpa using HP.out, KeptF.refl _ _, Below.refl _ _⟩
    case round =>
      obtain ⟨k, vc', ns, rfl, hk, heq, hnl, hpp, hkp, hbr⟩ := hrel
      have HEQ := hid heq
      have HPP := hid hpp
      have HKP := hid hkp
      have HBR := hid hbr
      have hcap := HR.out.cap
      clear heq hpp hkp
      by_cases hlt : k < r.length
      · obtain ⟨y, hy⟩ : ∃ y, r[k]? = some y := ⟨r[k], List.getElem?_eq_getElem hlt⟩
        have hyc : wr.cell? ⟨bl, ol + k, none⟩ = some (str y) := by
          obtain ⟨b', o', e, h, _, _⟩ := reads_at HR.out (j := k) (u := str y) (by simp [txs, hy])
          injection e with e
          injection e with e1 e2
          subst e1 e2
          exact (World.cell?_of_block (HKP.out bl hbF)).trans h
        have hdr : r.drop k = y :: r.drop (k + 1) := by
          rw [List.drop_eq_getElem_cons hlt]
          congr 1
          rw [List.getElem?_eq_getElem hlt] at hy
          exact Option.some.inj hy
        have hyl := HRL.out y (List.mem_of_getElem? hy)
        rw [hdr, readNums_cons] at HEQ
        unfold str at hyc
        clear hdr hy
        cases hnum : number y with
        | none =>
          have HRN := hid (show readNums r = none by rw [HEQ.out, hnum]; rfl)
          have HNB := hid (number_bad y hyl hnum wr (HL.out wr hbr).word)
          clear hnum hbr
          go_wp2_with fail
          refine HNB.out.mono ?_
          rintro e w3 ⟨ae, rfl, hb3⟩
          have HB4 := hid (HBR.out.trans (hb3.mono (Nat.le_trans hBW HBR.out.size)))
          have HP4 := hid (HPP.out.call hb3)
          have HK4 := hid (HKP.out.trans (KeptF.call (fun g hg => (HPP.out.frn g hg).1) hb3))
          clear hb3
          go_wp2_with fail
          go_ret
          exact ⟨_, _, _, rfl, .inr ⟨.inr HRN.out, ae, rfl⟩, HP4.out, HK4.out, HB4.out⟩
        | some n =>
          have HRN := hid (show readNums r = (readNums (r.drop (k + 1))).map ((ns ++ [n]) ++ ·) by
            rw [HEQ.out, hnum]
            simp only [Option.map_map]
            congr 1
            funext l
            simp)
          have HNO := hid (number_ok y hyl n hnum wr (HL.out wr hbr).word)
          clear hnum hbr
          go_wp2_with fail
          refine HNO.out.mono ?_
          rintro e w3 ⟨rfl, hb3⟩
          have HB4 := hid (HBR.out.trans (hb3.mono (Nat.le_trans hBW HBR.out.size)))
          have HP4 := hid (HPP.out.call hb3)
          have HK4 := hid (HKP.out.trans (KeptF.call (fun g hg => (HPP.out.frn g hg).1) hb3))
          obtain ⟨pc, hpc⟩ : ∃ pc, p.cells ++ ns = pc := ⟨_, rfl⟩
          have hpcl : pc.length ≤ 1000000000 := by rw [← hpc, List.length_append]; omega
          rw [hpc] at HP4
          have HPC := hid hpc
          obtain ⟨Av, cv, rfl⟩ := row_shape HP4.out.cells
          have HP5 := hid (HP4.out.alloc (.cells #[.int .i64 n] 3))
          have HAP5 : Hid ((Value.slice Av pc.length cv).ownBlock ≠ some pb) := hid (Blk.apartRow HP5.out.box HP5.out.cells (by decide))
          have x0 := HP4.out.box.cell 0
          have lx := HP4.out.box.lt
          have hw3 := HB4.out.size
          clear hb3 hpc hyc HNO
          go_wp2_with (at_builtin; refine wpList_append_own_at _ rfl (.tmp 31) (.tmp 33) 22 rfl B 3 i0 (.int .i64 0) 1 8 Tryd.underlying22 hi hz0 hz1 hz2 rfl (by decide) (.slice Av pc.length cv) pc.length _ rfl HP5.out.cells ⟨w3.heap.size, 0, none⟩ 1 1 [.int .i64 n] rfl rfl (cell_one_new _ _ _) (by simp [Value.oneCell']) (by unfold maxLen; omega) (by omega) (by simp; omega) ?_; intro v6 w6 hown6 hgrow6 _ hat6; obtain ⟨A6, c6, rfl⟩ := row_shape hown6; have HX6 := hid (HP5.out.box.grown hgrow6 (fun e => HAP5.out e.symm)); have z0 := HX6.out.cell 0; have zf := HX6.out.frozen 0; have lz := HX6.out.lt)
          have hB5 : B ≤ (w3.alloc (.cells #[.int .i64 n] 3)).heap.size := by simp; omega
          have HAC := hid (HP5.out.addCell (n := n) hown6 hgrow6 hat6 hB5)
          have HPF : Hid (Pp F B pb (w6.setCell ⟨pb, 0, none⟩ (.slice A6 (pc.length + 1) c6)) (.slice A6 (pc.length + 1) c6) vt { p with cells := p.cells ++ (ns ++ [n]) }) := hid (by
            have h := HAC.out.1
            rw [← List.append_assoc, HPC.out]
            exact h)
          have HKF := hid (HK4.out.trans ((KeptF.call (fun g hg => (HP4.out.frn g hg).1) ((Below.refl w3.heap.size w3).alloc (Nat.le_refl _) (.cells #[.int .i64 n] 3))).trans HAC.out.2.1))
          have HBF := hid ((HB4.out.alloc (by omega) (.cells #[.int .i64 n] 3)).trans HAC.out.2.2)
          clear hown6 hgrow6 hat6 z0 zf lz x0 lx HAC
          go_roundw
          case rel => exact ⟨k + 1, .slice A6 (pc.length + 1) c6, ns ++ [n], by go_num, by omega, HRN.out, by simp; omega, HPF.out, HKF.out, HBF.out⟩
          case measure => simp [intOf] <;> omega
      · have hke : k = r.length := by omega
        have HRN := hid (show readNums r = some ns by rw [HEQ.out, hke, List.drop_length]; simp [readNums])
        clear hke hbr
        go_wp2_with fail
        go_ret
        exact ⟨_, _, _, rfl, .inl ⟨ns, HNE.out, HRN.out, rfl, rfl⟩, HPP.out, HKP.out, HBR.out⟩
end Go.Proofs.YtdfkegflnebckaaDoor
