/-
  From the row of ProgBack to what its walk asks: the package's variables, a program that came in.
-/
import Derived.Test.YtdfkegflnebckaaDoorWClose
import Derived.Test.YtdfkegflnebckaaDoorLaidB
import Derived.Test.YtdfkegflnebckaaDoorPValid
import Derived.Deep.Slices
import Derived.Deep.Strs
import Derived.Lib.SmallJoins
namespace Go.Proofs.YtdfkegflnebckaaDoor
open Go.ChangeShapes Go.WideShapes Go.ChangeAt Go.RowKit Go.Deep W

section
variable {H : Type} {enc : TypeId × Value → H} {base : Nat} {spare : Nat → Bool} {held : Bool} {U : World}
theorem addr_plain {V : Nat → Value} {a : Addr} {n : Nat} (h : ∀ i, i < n → U.cell? (a.add i) = some (V i)) (h0 : 0 < n) : ∃ b o, a = ⟨b, o, none⟩ ∧ ∀ i, i < n → U.cell? ⟨b, o + i, none⟩ = some (V i) := by
  obtain ⟨b, o, spot⟩ := a
  have hs : spot = none := by simpa [Addr.add] using World.cell?_spot (h 0 h0)
  subst hs
  exact ⟨b, o, rfl, fun j hj => by rw [← Go.WideShapes.add_plain]; exact h j hj⟩
set_option maxRecDepth 100000 in
theorem readsL_open {α : Type} [Inhabited α] {R : World → Value → α → Prop} {t e : TypeId} {fuel : Nat} {cs : List Value} {x : DataW H × List MemPlace} (ht : Tryd.prog.underlying t = some (.slice e)) (hc : Tryd.prog.cellsOf e = 1)
    (hR : ∀ (n : Nat) (V : Value) (y : DataW H × List MemPlace), DataW.trod enc Tryd.prog U base spare held n e [V] = some y → ∃ a, R U V a) (h : DataW.trod enc Tryd.prog U base spare held fuel t cs = some x) :
    ∃ v l, cs = [v] ∧ ReadsL R U v l := by
  rcases open_slice1 ht hc h with ⟨rfl, _⟩ | ⟨a, len, cap, m, n, V, D, Pl, rfl, _, hl, hm, hmm, _, hx⟩
  · exact ⟨_, [], rfl, [], Reads.nil U, rfl, by simp⟩
  · have hlm : len ≤ m := by rw [hmm]; split <;> omega
    obtain ⟨f, hf⟩ := choose_lt (p := fun i (y : α) => R U (V i) y) (fun i (hi : i < len) => hR n (V i) _ (hx i (by omega)).2)
    refine ⟨_, (List.range len).map f, rfl, (List.range len).map V, ?_, by simp, fun j u y hu hy => ?_⟩
    · rcases Nat.eq_zero_or_pos len with h0 | h0
      · subst h0
        exact ⟨some a, cap, 0, 0, by simp, by simp, fun _ _ h => by simp at h, by simp, by simp⟩
      · obtain ⟨b, o, rfl, hcell⟩ := addr_plain (V := V) (fun i (hi : i < len) => (hx i (by omega)).1) h0
        refine ⟨some ⟨b, o, none⟩, cap, b, o, by simp, by simp, fun x hx _ => by injection hx with hx; exact hx.symm, by simpa using hl, fun j u hj => ?_⟩
        have hjl : j < len := by have := (List.getElem?_eq_some_iff.1 hj).1; simpa using this
        rw [hcell j hjl]
        simpa [hjl] using hj
    · have hjl : j < len := by have := (List.getElem?_eq_some_iff.1 hu).1; simpa using this
      have e1 : V j = u := by simpa [hjl] using hu
      have e2 : f j = y := by simpa [hjl] using hy
      rw [← e1, ← e2]
      exact hf j hjl
theorem ints_open {t : TypeId} {fuel : Nat} {cs : List Value} {x : DataW H × List MemPlace} (ht : Tryd.prog.underlying t = some (.slice 3)) (h : DataW.trod enc Tryd.prog U base spare held fuel t cs = some x) :
    ∃ v l, cs = [v] ∧ Reads U v (ints l) := by
  obtain ⟨v, l, rfl, vs, h1, h2, h3⟩ := readsL_open (R := fun _ V (n : Int) => V = .int .i64 n) ht (by kernel_rfl) (fun n V y hy => by
    obtain ⟨k, hk, _⟩ := DataW.trod_int Tryd.underlying3 hy
    injection hk with hk
    exact ⟨k, hk⟩) h
  refine ⟨v, l, rfl, ?_⟩
  have e : vs = ints l := by
    apply List.ext_getElem?
    intro j
    by_cases hj : j < vs.length
    · have hu : vs[j]? = some vs[j] := List.getElem?_eq_getElem hj
      have hx : l[j]? = some l[j] := List.getElem?_eq_getElem (by omega)
      rw [hu, h3 j _ _ hu hx]
      simp [ints, hx]
    · rw [List.getElem?_eq_none (by omega), List.getElem?_eq_none (by simp [ints]; omega)]
  rw [← e]
  exact h1
instance : Inhabited PAct := ⟨⟨0, 0, 0⟩⟩
set_option maxRecDepth 100000 in
theorem acts_open (fuel : Nat) (V : Value) (x : DataW H × List MemPlace) (h : DataW.trod enc Tryd.prog U base spare held fuel 52 [V] = some x) : ∃ l, ReadsA U V l := by
  rcases open_slice Tryd.underlying52 h with ⟨h0, _⟩ | ⟨a, len, cap, m, n, D, Pl, h0, _, hl, hm, hmm, _, hx⟩
  · injection h0 with h0
    subst h0
    exact ⟨[], none, 0, 0, 0, rfl, fun _ => ⟨rfl, rfl⟩, by simp, Nat.le_refl _, by simp⟩
  · injection h0 with h0
    subst h0
    have hc3 : Tryd.prog.cellsOf 57 = 3 := by kernel_rfl
    rw [hc3] at hx
    have hlm : len ≤ m := by rw [hmm]; split <;> omega
    obtain ⟨f, hf⟩ := choose_lt (p := fun i (y : PAct) => U.cell? (a.add (i * 3)) = some (.int .i64 y.kind) ∧ U.cell? (a.add (i * 3 + 1)) = some (.int .i64 y.cell) ∧ U.cell? (a.add (i * 3 + 2)) = some (.int .i64 y.val)) (fun i (hi : i < len) => by
      obtain ⟨cs', h1, h2⟩ := hx i (by omega)
      obtain ⟨_, hlen, hcell⟩ := World.cells?_some h1
      match cs', hlen with
      | [c0, c1, c2], _ =>
        obtain ⟨y0, y1, y2, n', _, _, t0, t1, t2⟩ := trod_struct3 Tryd.underlying57 h2
        obtain ⟨k0, e0, _⟩ := DataW.trod_int Tryd.underlying3 t0
        obtain ⟨k1, e1, _⟩ := DataW.trod_int Tryd.underlying3 t1
        obtain ⟨k2, e2, _⟩ := DataW.trod_int Tryd.underlying3 t2
        have hI : Tryd.prog.cellsOf 3 = 1 := by kernel_rfl
        simp [hI] at e0 e1 e2
        have q0 := hcell 0 (by omega)
        have q1 := hcell 1 (by omega)
        have q2 := hcell 2 (by omega)
        simp [Addr.add_add, e0, e1, e2] at q0 q1 q2
        exact ⟨⟨k0, k1, k2⟩, q0, q1, q2⟩)
    rcases Nat.eq_zero_or_pos len with h0 | h0
    · subst h0
      exact ⟨[], some a, cap, 0, 0, by simp, by simp, fun _ _ h => by simp at h, by simp, by simp⟩
    · obtain ⟨b, o, spot⟩ := a
      have hs : spot = none := by simpa [Addr.add] using World.cell?_spot (hf 0 h0).1
      subst hs
      refine ⟨(List.range len).map f, some ⟨b, o, none⟩, cap, b, o, by simp, by simp, fun x hx _ => (by injection hx with hx; exact hx.symm), by simpa using hl, fun j y hj => ?_⟩
      have hjl : j < len := by have := (List.getElem?_eq_some_iff.1 hj).1; simpa using this
      have e2 : f j = y := by simpa [hjl] using hj
      obtain ⟨q0, q1, q2⟩ := hf j hjl
      rw [e2] at q0 q1 q2
      rw [Go.WideShapes.add_plain] at q0 q1 q2
      exact ⟨q0, (by rw [Nat.add_assoc]; exact q1), (by rw [Nat.add_assoc]; exact q2)⟩
set_option maxRecDepth 100000 in
theorem prog_open {v : Value} {d : DataW H} {ps : List MemPlace} {r : Reach} {b0 : Nat} (hv : Value.okWide Tryd.prog U r b0 25 v) (h : DataW.Trod enc Tryd.prog U base spare held 25 v d ps) : ∃ vc vt p, v = .agg #[vc, vt] ∧ PgAt U vc vt p := by
  obtain ⟨v0, v1, y0, y1, n, rfl, _, _, t0, t1⟩ := Go.Joins.open_agg2 Tryd.underlying25 (by kernel_rfl) (by kernel_rfl) hv h
  obtain ⟨v, l, e0, h0⟩ := ints_open (t := 22) Tryd.underlying22 t0
  injection e0 with e0
  subst e0
  obtain ⟨v, ts, e1, h1⟩ := readsL_open (R := ReadsT) (t := 23) Tryd.underlying23 (by kernel_rfl) (fun n V y hy => by
    obtain ⟨v, ts, e1, h1⟩ := readsL_open (R := ReadsA) (t := 51) Tryd.underlying51 (by kernel_rfl) (fun n V y hy => acts_open n V y hy) hy
    injection e1 with e1
    subst e1
    exact ⟨ts, h1⟩) t1
  injection e1 with e1
  subst e1
  exact ⟨_, _, ⟨l, ts⟩, rfl, h0, h1⟩
end
theorem cells_of_strs {H : Type} {enc : TypeId × Value → H} {P : Program} {w : World} {base : Nat} {sp : Nat → Bool} {held : Bool} {fuel : Nat} {t e : TypeId} {n : Nat} {cs : List Value} {zs : List (List UInt8)} {p : List MemPlace}
    (ht : P.underlying t = some (.array n e)) (he : P.underlying e = some .string) (hce : P.cellsOf e = 1) (hct : P.cellsOf t = n)
    (h : DataW.trod enc P w base sp held fuel t cs = some (.agg (zs.map fun z => .lit (.string z)), p)) : cs = zs.map fun z => Value.string ⟨z.toArray⟩ := by
  cases fuel with
  | zero => simp [DataW.trod] at h
  | succ fuel =>
    simp only [DataW.trod, ht, hce, hct, Nat.mul_one] at h
    split at h
    · rename_i hl
      obtain ⟨xs, hm, hx⟩ := Option.map_eq_some_iff.1 h
      have hxs : xs.map (·.1) = zs.map fun z => (DataW.lit (.string z) : DataW H) := by
        have := congrArg Prod.fst hx
        simpa using this
      have hxl : xs.length = n := by simpa using Lib.mapM_length hm
      have hzl : zs.length = n := by
        have := congrArg List.length hxs
        simp at this
        omega
      apply List.ext_getElem?
      intro i
      by_cases hi : i < n
      · obtain ⟨b, hb, hf⟩ := Lib.mapM_at hm i i (by simp [hi])
        obtain ⟨z, hc, rfl, _⟩ := DataW.trod_string he hf
        have h1 : cs[i]? = some (.string z) := by
          have := congrArg (·[0]?) hc
          simpa [List.getElem?_take, List.getElem?_drop] using this
        have h2 : (xs.map (·.1))[i]? = some (DataW.lit (.string z.data.toList) : DataW H) := by simp [hb]
        rw [hxs] at h2
        simp only [List.getElem?_map, Option.map_eq_some_iff, DataW.lit.injEq, Lit.string.injEq] at h2
        obtain ⟨z', hz', rfl⟩ := h2
        simp [h1, hz']
      · rw [List.getElem?_eq_none (by omega), List.getElem?_eq_none (by simp; omega)]
    · cases h
theorem strs_of {P : Program} {W : World} {name : String} {zs : List (List UInt8)} {g : Nat} {t e : TypeId} {n : Nat}
    (hg : P.globalNamed name = some g) (hty : (P.globals[g]?).map (·.type) = some t) (ht : P.underlying t = some (.array n e)) (he : P.underlying e = some .string) (hce : P.cellsOf e = 1) (hct : P.cellsOf t = n)
    (h : laidMet P [(name, .agg (zs.map fun z => .lit (.string z)))] W) (j : Nat) (x : List UInt8) (hx : zs[j]? = some x) : W.cell? ⟨g, j, none⟩ = some (.string ⟨x.toArray⟩) := by
  obtain ⟨ps, ⟨g', t', cs, fuel, p, q, hg', ht', hvar, hd, _, _⟩, _⟩ := h
  obtain rfl := Option.some.inj (hg.symm.trans hg')
  obtain rfl := Option.some.inj (hty.symm.trans ht')
  have hcs := cells_of_strs ht he hce hct hd
  have h1 := World.var?_cell hg hvar j
  rw [h1, ← Array.getElem?_toList, hcs]
  simp [hx]

theorem gProg : Tryd.prog.globalNamed "umpire/api.ErrProg" = some 1 := by kernel_rfl
theorem gProgType : (Tryd.prog.globals[1]?).map (·.type) = some 30 := by kernel_rfl
theorem gWord : Tryd.prog.globalNamed "umpire/api.ErrWord" = some 4 := by kernel_rfl
theorem gWordType : (Tryd.prog.globals[4]?).map (·.type) = some 30 := by kernel_rfl
theorem gWords : Tryd.prog.globalNamed "umpire/api.ErrWords" = some 5 := by kernel_rfl
theorem gWordsType : (Tryd.prog.globals[5]?).map (·.type) = some 30 := by kernel_rfl
theorem gActs : Tryd.prog.globalNamed "umpire/prog.acts" = some 0 := by kernel_rfl
theorem gActsType : (Tryd.prog.globals[0]?).map (·.type) = some 58 := by kernel_rfl
theorem cells4S : Tryd.prog.cellsOf 58 = 4 := by kernel_rfl
theorem laidWB_of {U : World} (h : laidMetH Tryd.prog LB.laid U) : Laid U := by
  refine ⟨fun g hg => ?_, ?_⟩
  · simp only [List.mem_cons, List.not_mem_nil, or_false] at hg
    rcases hg with rfl | rfl | rfl | rfl | rfl
    · have h1 := h.filter (fun x => x.1 == "umpire/api.ErrLong")
      rw [show LB.laid.filter (fun x => x.1 == "umpire/api.ErrLong") = [("umpire/api.ErrLong", Rows.laid_umpire_api_ErrLong)] from by kernel_rfl] at h1
      exact sent_one h1 gLong gLongType
    · have h1 := h.filter (fun x => x.1 == "umpire/api.ErrEnd")
      rw [show LB.laid.filter (fun x => x.1 == "umpire/api.ErrEnd") = [("umpire/api.ErrEnd", Rows.laid_umpire_api_ErrEnd)] from by kernel_rfl] at h1
      exact sent_one h1 gEnd gEndType
    · have h1 := h.filter (fun x => x.1 == "umpire/api.ErrNumber")
      rw [show LB.laid.filter (fun x => x.1 == "umpire/api.ErrNumber") = [("umpire/api.ErrNumber", Rows.laid_umpire_api_ErrNumber)] from by kernel_rfl] at h1
      exact sent_one h1 gNumber gNumberType
    · have h1 := h.filter (fun x => x.1 == "strconv.ErrSyntax")
      rw [show LB.laid.filter (fun x => x.1 == "strconv.ErrSyntax") = [("strconv.ErrSyntax", Rows.laid_strconv_ErrSyntax)] from by kernel_rfl] at h1
      exact sent_one h1 gSyntax gSyntaxType
    · have h1 := h.filter (fun x => x.1 == "strconv.ErrRange")
      rw [show LB.laid.filter (fun x => x.1 == "strconv.ErrRange") = [("strconv.ErrRange", Rows.laid_strconv_ErrRange)] from by kernel_rfl] at h1
      exact sent_one h1 gRange gRangeType
  · have h1 := h.filter (fun x => x.1 == "internal/strconv.uint64pow10")
    rw [show LB.laid.filter (fun x => x.1 == "internal/strconv.uint64pow10") = [("internal/strconv.uint64pow10", Lib.tabData .u64 Lib.pow10Tab)] from by kernel_rfl, MakeChecks.laidMetH_plain _ _ _ (by kernel_rfl)] at h1
    exact Lib.tabIs_of_head gTab gTabType Tryd.underlying135 Tryd.underlying124 cellsU64 cellsTab h1
/-- What the row's list gives. -/
theorem laidP_of {U : World} (h : laidMetH Tryd.prog LB.laid U) : LaidP U := by
  refine ⟨laidWB_of h, fun g hg => ?_, fun j x hx => ?_⟩
  · simp only [List.mem_cons, List.not_mem_nil, or_false] at hg
    rcases hg with rfl | rfl | rfl
    · have h1 := h.filter (fun x => x.1 == "umpire/api.ErrProg")
      rw [show LB.laid.filter (fun x => x.1 == "umpire/api.ErrProg") = [("umpire/api.ErrProg", Rows.laid_umpire_api_ErrProg)] from by kernel_rfl] at h1
      exact sent_one h1 gProg gProgType
    · have h1 := h.filter (fun x => x.1 == "umpire/api.ErrWord")
      rw [show LB.laid.filter (fun x => x.1 == "umpire/api.ErrWord") = [("umpire/api.ErrWord", Rows.laid_umpire_api_ErrWord)] from by kernel_rfl] at h1
      exact sent_one h1 gWord gWordType
    · have h1 := h.filter (fun x => x.1 == "umpire/api.ErrWords")
      rw [show LB.laid.filter (fun x => x.1 == "umpire/api.ErrWords") = [("umpire/api.ErrWords", Rows.laid_umpire_api_ErrWords)] from by kernel_rfl] at h1
      exact sent_one h1 gWords gWordsType
  · have h1 := h.filter (fun x => x.1 == "umpire/prog.acts")
    rw [show LB.laid.filter (fun x => x.1 == "umpire/prog.acts") = [("umpire/prog.acts", (DataW.agg (actTab.map fun z => .lit (.string z)) : DataW Unit))] from by kernel_rfl, MakeChecks.laidMetH_plain _ _ _ (by kernel_rfl)] at h1
    exact strs_of gActs gActsType Tryd.underlying58 Tryd.underlying9 cellsStr cells4S h1 j x hx
end Go.Proofs.YtdfkegflnebckaaDoor
