/-
  word.Lines: what it hands back runs through the lines with their numbers; umpireref1.Lines. Bounds on lengths alone.
-/
import Derived.Test.YtdfkegflnebckaaDoorBx
namespace Go.Proofs.YtdfkegflnebckaaDoor
open Go.RowKit Go.Maps W
attribute [local go_sem] Oper.semAt_some

/-- After k bytes, with the open line's beginning at f, the lines ds are done. -/
def LinesAt (l : List UInt8) (k f : Nat) (ds : List (List UInt8)) : Prop :=
  k ≤ l.length + 1 ∧ f ≤ k ∧ (k ≤ l.length → ds ++ ll (Lib.pieceU l f k) (l.drop k) = lines l) ∧ (k = l.length + 1 → ds = lines l) ∧ ds.length ≤ k
theorem lines_start (l : List UInt8) : LinesAt l 0 0 [] := ⟨by omega, by omega, fun _ => by simp [Lib.pieceU, lines], by omega, by simp⟩
theorem lines_other {l : List UInt8} {k f : Nat} {ds : List (List UInt8)} {c : UInt8} (h : LinesAt l k f ds) (hc : l[k]? = some c) (h10 : c ≠ 10) : LinesAt l (k + 1) f ds := by
  obtain ⟨h1, h2, h3, h4, h5⟩ := h
  have hlt : k < l.length := (List.getElem?_eq_some_iff.1 hc).1
  refine ⟨by omega, by omega, fun _ => ?_, by omega, by omega⟩
  rw [← h3 (by omega), drop_at hc, ll, if_neg h10, piece_next h2 hc]
theorem lines_newline {l : List UInt8} {k f : Nat} {ds : List (List UInt8)} (h : LinesAt l k f ds) (hc : l[k]? = some 10) : LinesAt l (k + 1) (k + 1) (ds ++ [Lib.pieceU l f k]) ∧ (lines l)[ds.length]? = some (Lib.pieceU l f k) := by
  obtain ⟨h1, h2, h3, h4, h5⟩ := h
  have hlt : k < l.length := (List.getElem?_eq_some_iff.1 hc).1
  have e := h3 (by omega)
  rw [drop_at hc, ll, if_pos rfl] at e
  refine ⟨⟨by omega, by omega, fun _ => ?_, by omega, by simp; omega⟩, ?_⟩
  · rw [← e, piece_nil]
    simp
  · rw [← e]
    simp
theorem lines_end_in {l : List UInt8} {k f : Nat} {ds : List (List UInt8)} (h : LinesAt l k f ds) (hk : k = l.length) (hf : f < k) : LinesAt l (k + 1) (k + 1) (ds ++ [Lib.pieceU l f k]) ∧ (lines l)[ds.length]? = some (Lib.pieceU l f k) := by
  obtain ⟨h1, h2, h3, h4, h5⟩ := h
  have e := h3 (by omega)
  rw [List.drop_of_length_le (by omega), ll, if_neg (Lib.pieceU_ne l f k hf (by omega))] at e
  refine ⟨⟨by omega, by omega, by omega, fun _ => e, by simp; omega⟩, ?_⟩
  rw [← e]
  simp
theorem lines_end_out {l : List UInt8} {k f : Nat} {ds : List (List UInt8)} (h : LinesAt l k f ds) (hk : k = l.length) (hf : ¬ f < k) : LinesAt l (k + 1) f ds := by
  obtain ⟨h1, h2, h3, h4, h5⟩ := h
  obtain rfl : f = k := by omega
  refine ⟨by omega, by omega, by omega, fun _ => ?_, by omega⟩
  rw [← h3 (by omega), List.drop_of_length_le (by omega), ll, if_pos (piece_nil l f)]
  simp
theorem lines_done {l : List UInt8} {k f : Nat} {ds : List (List UInt8)} (h : LinesAt l k f ds) (hk : k = l.length + 1) : ds = lines l := h.2.2.2.1 hk

/-- The first cells of block g stay. -/
def Kept (g len : Nat) (W W' : World) : Prop := ∀ j v, j < len → W.cell? ⟨g, j, none⟩ = some v → W'.cell? ⟨g, j, none⟩ = some v
theorem Kept.trans {g len : Nat} {A B C : World} (h : Kept g len A B) (k : Kept g len B C) : Kept g len A C := fun j v hj hv => k j v hj (h j v hj hv)
theorem Kept.putObj {g len : Nat} (W : World) (l : Nat) (o o' : Obj) (h : W.heap[l]? = some o) (ho : o.isCells = false) : Kept g len W (W.putObj l o') :=
  fun j v _ hv => cell_kept hv (grownBy_putObj' W l o') (fun r e => by cases e; exact ⟨o, h, ho⟩)

theorem linesCall (v : Value) (l : List UInt8) (w : World) (hv : Reads w v (bys l)) :
    Calls Tryd.prog 21 #[v] w fun e w' => e = .returned (.func (.func 35) #[] #[.pointer (some ⟨w.heap.size, 0, none⟩)]) ∧ w' = w.alloc (.cells #[.string ⟨l.toArray⟩] 9) := by
  have c1 := conv_bytes hv
  clear hv
  go_enter Tryd.func21, Tryd.ntmps21
  go_wp2
  go_ret
  exact ⟨rfl, rfl⟩

set_option maxRecDepth 100000 in
set_option maxHeartbeats 8000000 in
theorem lines1 (F : Fence) (n : Nat) (hf68 : F.fn 35) (hro : F.round = none) (hn : 1 ≤ n) (y box : Nat) (l : List UInt8) (hlen : l.length ≤ 1000000000) (J Jx : List Nat → World → Prop)
    (hY : ∀ (pre : List Nat) (x : Nat) (W : World), J pre W → pre.length < (lines l).length → YieldAt F (n - 1) Tryd.prog y #[.int .i64 ((x : Int) + 1), str ((lines l)[x]?.getD [])] W fun e W' =>
      (e = .returned (.bool true) ∧ J (pre ++ [x]) W' ∧ Kept box 1 W W') ∨ (e = .returned (.bool false) ∧ Jx (pre ++ [x]) W'))
    (W : World) (hb0 : W.cell? ⟨box, 0, none⟩ = some (.string ⟨l.toArray⟩)) (h0 : J [] W) :
    CallsIn F n Tryd.prog 35 #[.func (.yield y) #[] #[], .pointer (some ⟨box, 0, none⟩)] W fun e W' => (∃ v, e = .returned v) ∧
      ((∃ ys, ys = List.range (lines l).length ∧ J ys W') ∨ (∃ pre, (∃ k, k ≤ (lines l).length ∧ pre = List.range k) ∧ Jx pre W')) := by
  refine callsIn_of_wp Tryd.func35 rfl hf68 ?_ hro
  simp only [Tryd.ntmps35, List.size_toArray, List.length_cons, List.length_nil, Nat.reduceAdd, Nat.reduceSub, Array.replicate_succ, Array.replicate_zero, List.push_toArray, List.append_toArray, List.nil_append, List.cons_append]
  gi_wp2
  gi_loopw [3, 4, 5] (fun sf sn si wr => ∃ (k f : Nat) (ds : List (List UInt8)), si = .int .i64 k ∧ sf = .int .i64 f ∧ sn = .int .i64 ((ds.length : Int) + 1) ∧ LinesAt l k f ds ∧ J (List.range ds.length) wr ∧ wr.cell? ⟨box, 0, none⟩ = some (.string ⟨l.toArray⟩)) (fun _ _ si _ => l.length + 1 - (intOf si).toNat)
  case atStart => exact ⟨0, 0, [], rfl, rfl, rfl, lines_start l, h0, hb0⟩
  case round =>
    obtain ⟨k, f, ds, rfl, rfl, rfl, hW, hJs, hcw⟩ := hrel
    have hk : k ≤ l.length + 1 := hW.1
    have hf : f ≤ k := hW.2.1
    have hdk : ds.length ≤ k := hW.2.2.2.2
    have HW := hid hW
    have HJ := hid hJs
    clear hW hJs
    by_cases hend : k = l.length + 1
    · have hfin := hid (lines_done HW.out hend)
      have hge : ¬ (k : Int) ≤ (l.length : Int) := by omega
      clear hend
      gi_wp2
      go_end0
      exact ⟨⟨_, rfl⟩, .inl (by rw [← hfin.out]; exact HJ.out)⟩
    · have hle : k ≤ l.length := by omega
      clear hend
      by_cases hkl : k = l.length
      · have t2 : decide ((k : Int) < (l.length : Int)) = false := by simp; omega
        have hnl : ¬ k < l.length := by omega
        have t3 : ((k : Int) == (l.length : Int)) = true := by simp; omega
        by_cases hfk : f < k
        · have t4 : ((f : Int) == (k : Int)) = false := by simp; omega
          obtain ⟨hn1, hat⟩ := lines_end_in HW.out hkl hfk
          have hlt2 : ds.length < (lines l).length := (List.getElem?_eq_some_iff.1 hat).1
          have e9 : str ((lines l)[ds.length]?.getD []) = .string ((⟨l.toArray⟩ : ByteArray).extract f k) := by rw [hat]; exact (ext_str l f k).symm
          have hy0 := hY _ ds.length wr HJ.out (by rw [List.length_range]; exact hlt2)
          rw [e9] at hy0
          obtain ⟨fn, tmps, assign, body, hy, hR⟩ := hy0
          have HN := hid hn1
          clear hn1 hat e9 hkl
          gi_wp2
          refine hR.mono ?_
          rintro e W3 (⟨rfl, hJ3, hk3⟩ | ⟨rfl, hJx3⟩)
          · have HF := hid (And.intro hJ3 (hk3 0 _ (by omega) hcw))
            clear hJ3 hk3 hR hy
            gi_wp2
            go_roundw
            case rel => exact ⟨k + 1, k + 1, ds ++ [Lib.pieceU l f k], by go_num, by go_num, by simp, HN.out, by rw [List.length_append, List.length_singleton, List.range_succ]; exact HF.out.1, HF.out.2⟩
            case measure => simp [intOf] <;> omega
          · clear hR hy
            gi_wp2
            refine bodyPost_ret (results_none rfl _ _ _) rfl ?_
            exact ⟨⟨_, rfl⟩, .inr ⟨_, ⟨ds.length + 1, by omega, (List.range_succ).symm⟩, hJx3⟩⟩
        · have t4 : ((f : Int) == (k : Int)) = true := by simp; omega
          have HN := hid (lines_end_out HW.out hkl hfk)
          clear hkl
          gi_wp2
          go_roundw
          case rel => exact ⟨k + 1, f, ds, by go_num, rfl, rfl, HN.out, HJ.out, hcw⟩
          case measure => simp [intOf] <;> omega
      · have hlt : k < l.length := by omega
        have t2 : decide ((k : Int) < (l.length : Int)) = true := by simp; omega
        have t3 : ((k : Int) == (l.length : Int)) = false := by simp; omega
        obtain ⟨c, hc⟩ : ∃ c, l[k]? = some c := ⟨l[k], List.getElem?_eq_getElem hlt⟩
        have hszB : k < (⟨l.toArray⟩ : ByteArray).size := by simpa [ByteArray.size] using hlt
        have hgB : (⟨l.toArray⟩ : ByteArray)[k]'hszB = c := by
          rw [List.getElem?_eq_getElem hlt] at hc
          injection hc
        by_cases h10 : c = 10
        · have t5 : ((⟨l.toArray⟩ : ByteArray)[k]'hszB).toNat = 10 := by rw [hgB, h10]; rfl
          clear hgB
          obtain ⟨hn1, hat⟩ := lines_newline HW.out (by rw [hc, h10])
          have hlt2 : ds.length < (lines l).length := (List.getElem?_eq_some_iff.1 hat).1
          have e9 : str ((lines l)[ds.length]?.getD []) = .string ((⟨l.toArray⟩ : ByteArray).extract f k) := by rw [hat]; exact (ext_str l f k).symm
          have hy0 := hY _ ds.length wr HJ.out (by rw [List.length_range]; exact hlt2)
          rw [e9] at hy0
          obtain ⟨fn, tmps, assign, body, hy, hR⟩ := hy0
          have HN := hid hn1
          clear hn1 hat e9 hc h10 hkl
          gi_wp2
          refine hR.mono ?_
          rintro e W3 (⟨rfl, hJ3, hk3⟩ | ⟨rfl, hJx3⟩)
          · have HF := hid (And.intro hJ3 (hk3 0 _ (by omega) hcw))
            clear hJ3 hk3 hR hy
            gi_wp2
            go_roundw
            case rel => exact ⟨k + 1, k + 1, ds ++ [Lib.pieceU l f k], by go_num, by go_num, by simp, HN.out, by rw [List.length_append, List.length_singleton, List.range_succ]; exact HF.out.1, HF.out.2⟩
            case measure => simp [intOf] <;> omega
          · clear hR hy
            gi_wp2
            refine bodyPost_ret (results_none rfl _ _ _) rfl ?_
            exact ⟨⟨_, rfl⟩, .inr ⟨_, ⟨ds.length + 1, by omega, (List.range_succ).symm⟩, hJx3⟩⟩
        · have t5 : ¬ ((((⟨l.toArray⟩ : ByteArray)[k]'hszB).toNat : Nat) : Int) = 10 := by
            rw [hgB]
            intro e
            exact h10 (UInt8.toNat_inj.1 (by show c.toNat = 10; omega))
          clear hgB
          have HN := hid (lines_other HW.out hc h10)
          clear hc h10 hkl
          gi_wp2
          go_roundw
          case rel => exact ⟨k + 1, f, ds, by go_num, rfl, rfl, HN.out, HJ.out, hcw⟩
          case measure => simp [intOf] <;> omega

theorem lines_stops (F : Fence) (n : Nat) (hf68 : F.fn 35) (hro : F.round = none) (hn : 1 ≤ n) (box : Nat) (l : List UInt8) (hlen : l.length ≤ 1000000000) (w : World) (hb0 : w.cell? ⟨box, 0, none⟩ = some (.string ⟨l.toArray⟩)) :
    SeqStopsK F n Tryd.prog 35 #[.pointer (some ⟨box, 0, none⟩)] (fun x : Nat => #[Value.int .i64 ((x : Int) + 1), str ((lines l)[x]?.getD [])]) (Kept box 1) (fun ys => ys = List.range (lines l).length) (fun pre => ∃ k, k ≤ (lines l).length ∧ pre = List.range k) (lines l).length w := fun y J Jx W hW _ _ hY h0 =>
  lines1 F n hf68 hro hn y box l hlen J Jx hY W ((hW.cell (World.block_lt_of_cell? w _ hb0)).trans hb0) h0
theorem ll_len : ∀ (l cur : List UInt8), ∀ x ∈ ll cur l, x.length ≤ cur.length + l.length
  | [], cur, x, hx => by
    rw [ll] at hx
    split at hx
    · cases hx
    · obtain rfl : x = cur := by simpa using hx
      simp
  | c :: r, cur, x, hx => by
    rw [ll] at hx
    split at hx
    · rcases List.mem_cons.1 hx with rfl | hx
      · simp
      · have := ll_len r [] x hx
        simp at this ⊢
        omega
    · have := ll_len r (cur ++ [c]) x hx
      simp at this ⊢
      omega
theorem line_len (l : List UInt8) (x : Nat) : ((lines l)[x]?.getD []).length ≤ l.length := by
  cases h : (lines l)[x]? with
  | none => simp
  | some s =>
    have := ll_len l [] s (List.mem_of_getElem? h)
    simpa using this
theorem ll_count : ∀ (l cur : List UInt8), (ll cur l).length ≤ l.length + 1
  | [], cur => by rw [ll]; split <;> simp
  | c :: r, cur => by
    rw [ll]
    split
    · have := ll_count r []
      simp; omega
    · have := ll_count r (cur ++ [c])
      simp; omega
end Go.Proofs.YtdfkegflnebckaaDoor
