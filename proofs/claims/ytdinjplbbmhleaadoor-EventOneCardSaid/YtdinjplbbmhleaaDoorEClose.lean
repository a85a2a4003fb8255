/-
  From the lists of the Event rows to what their walks ask: the tables of words, errors that are not nil, the powers of ten.
-/
import Derived.Test.YtdinjplbbmhleaaDoorWClose
import Derived.Test.YtdinjplbbmhleaaDoorLaidE
import Derived.Test.YtdinjplbbmhleaaDoorLaidO
import Derived.Test.YtdinjplbbmhleaaDoorTabs
namespace Go.Proofs.YtdinjplbbmhleaaDoor
open Go.ChangeShapes Go.WideShapes Go.ChangeAt Go.RowKit

theorem cells_of_strs {H : Type} {enc : TypeId × Value → H} {P : Program} {w : World} {base : Nat} {sp : Nat → Bool} {held : Bool} {fuel : Nat} {t e : TypeId} {n : Nat} {cs : List Value} {zs : List (List UInt8)} {p : List MemPlace}
    (ht : P.underlying t = some (.array n e)) (he : P.underlying e = some .string) (hce : P.cellsOf e = 1) (hct : P.cellsOf t = n)
    (h : DataW.trod enc P w base sp held fuel t cs = some (.agg (zs.map fun z => .lit (.string z)), p)) : cs = zs.map fun z => Value.string ⟨z.toArray⟩ := by
  cases fuel with
  | zero => simp [DataW.trod] at h
  | succ fuel =>
    simp only [DataW.trod, ht, hce, hct, Nat.mul_one] at h
    split at h
    · rename_i hl
      obtain ⟨xs, hm, hx⟩ := Option.map_eq_some_iff.1 h
      have hxs : xs.map (·.1) = zs.map fun z => (DataW.lit (.string z) : DataW H) := by
        have := congrArg Prod.fst hx
        simpa using this
      have hxl : xs.length = n := by simpa using Lib.mapM_length hm
      have hzl : zs.length = n := by
        have := congrArg List.length hxs
        simp at this
        omega
      apply List.ext_getElem?
      intro i
      by_cases hi : i < n
      · obtain ⟨b, hb, hf⟩ := Lib.mapM_at hm i i (by simp [hi])
        obtain ⟨z, hc, rfl, _⟩ := DataW.trod_string he hf
        have h1 : cs[i]? = some (.string z) := by
          have := congrArg (·[0]?) hc
          simpa [List.getElem?_take, List.getElem?_drop] using this
        have h2 : (xs.map (·.1))[i]? = some (DataW.lit (.string z.data.toList) : DataW H) := by simp [hb]
        rw [hxs] at h2
        simp only [List.getElem?_map, Option.map_eq_some_iff, DataW.lit.injEq, Lit.string.injEq] at h2
        obtain ⟨z', hz', rfl⟩ := h2
        simp [h1, hz']
      · rw [List.getElem?_eq_none (by omega), List.getElem?_eq_none (by simp; omega)]
    · cases h
theorem strs_of {P : Program} {W : World} {name : String} {zs : List (List UInt8)} {g : Nat} {t e : TypeId} {n : Nat}
    (hg : P.globalNamed name = some g) (hty : (P.globals[g]?).map (·.type) = some t) (ht : P.underlying t = some (.array n e)) (he : P.underlying e = some .string) (hce : P.cellsOf e = 1) (hct : P.cellsOf t = n)
    (h : laidMet P [(name, .agg (zs.map fun z => .lit (.string z)))] W) (j : Nat) (x : List UInt8) (hx : zs[j]? = some x) : W.cell? ⟨g, j, none⟩ = some (.string ⟨x.toArray⟩) := by
  obtain ⟨ps, ⟨g', t', cs, fuel, p, q, hg', ht', hvar, hd, _, _⟩, _⟩ := h
  obtain rfl := Option.some.inj (hg.symm.trans hg')
  obtain rfl := Option.some.inj (hty.symm.trans ht')
  have hcs := cells_of_strs ht he hce hct hd
  have h1 := World.var?_cell hg hvar j
  rw [h1, ← Array.getElem?_toList, hcs]
  simp [hx]
theorem nErrCode : Tryd.prog.globalNamed "umpire/api.ErrCode" = some 3 := by kernel_rfl
theorem yErrCode : (Tryd.prog.globals[3]?).map (·.type) = some 34 := by kernel_rfl
theorem nErrEvent : Tryd.prog.globalNamed "umpire/api.ErrEvent" = some 14 := by kernel_rfl
theorem yErrEvent : (Tryd.prog.globals[14]?).map (·.type) = some 34 := by kernel_rfl
theorem nErrWord : Tryd.prog.globalNamed "umpire/api.ErrWord" = some 7 := by kernel_rfl
theorem yErrWord : (Tryd.prog.globals[7]?).map (·.type) = some 34 := by kernel_rfl
theorem nErrWords : Tryd.prog.globalNamed "umpire/api.ErrWords" = some 6 := by kernel_rfl
theorem yErrWords : (Tryd.prog.globals[6]?).map (·.type) = some 34 := by kernel_rfl
theorem nErrObject : Tryd.prog.globalNamed "umpire/api.ErrObject" = some 15 := by kernel_rfl
theorem yErrObject : (Tryd.prog.globals[15]?).map (·.type) = some 34 := by kernel_rfl
theorem nobjects : Tryd.prog.globalNamed "umpire/event.objects" = some 8 := by kernel_rfl
theorem yobjects : (Tryd.prog.globals[8]?).map (·.type) = some 123 := by kernel_rfl
theorem nevents : Tryd.prog.globalNamed "umpire/event.events" = some 9 := by kernel_rfl
theorem yevents : (Tryd.prog.globals[9]?).map (·.type) = some 151 := by kernel_rfl
theorem nops : Tryd.prog.globalNamed "umpire/event.ops" = some 10 := by kernel_rfl
theorem yops : (Tryd.prog.globals[10]?).map (·.type) = some 152 := by kernel_rfl
theorem nanswers : Tryd.prog.globalNamed "umpire/event.answers" = some 11 := by kernel_rfl
theorem yanswers : (Tryd.prog.globals[11]?).map (·.type) = some 153 := by kernel_rfl
theorem nstates : Tryd.prog.globalNamed "umpire/event.states" = some 12 := by kernel_rfl
theorem ystates : (Tryd.prog.globals[12]?).map (·.type) = some 123 := by kernel_rfl
theorem nlevels : Tryd.prog.globalNamed "umpire/event.levels" = some 13 := by kernel_rfl
theorem ylevels : (Tryd.prog.globals[13]?).map (·.type) = some 123 := by kernel_rfl
theorem cells3S : Tryd.prog.cellsOf 153 = 3 := by kernel_rfl
theorem cells4S : Tryd.prog.cellsOf 123 = 4 := by kernel_rfl
theorem cells7S : Tryd.prog.cellsOf 151 = 7 := by kernel_rfl
theorem cells9S : Tryd.prog.cellsOf 152 = 9 := by kernel_rfl
theorem laidE_of_tab {W : World} (h : laidMetH Tryd.prog LE.laid W) : Lib.TabIs Tryd.prog W "internal/strconv.uint64pow10" .u64 Lib.pow10Tab := by
  have h1 := h.filter (fun x => x.1 == "internal/strconv.uint64pow10")
  rw [show LE.laid.filter (fun x => x.1 == "internal/strconv.uint64pow10") = [("internal/strconv.uint64pow10", Lib.tabData .u64 Lib.pow10Tab)] from by kernel_rfl, MakeChecks.laidMetH_plain _ _ _ (by kernel_rfl)] at h1
  exact Lib.tabIs_of_head gTab gTabType Tryd.underlying215 Tryd.underlying87 cellsU64 cellsTab h1
theorem laidE_of {W : World} (h : laidMetH Tryd.prog LE.laid W) : LaidE W := by
  refine ⟨laidE_of_tab h, fun g hg => ?_, fun t j x hx => ?_⟩
  · simp only [List.mem_cons, List.not_mem_nil, or_false] at hg
    rcases hg with rfl | rfl | rfl | rfl | rfl
    · have h1 := h.filter (fun x => x.1 == "umpire/api.ErrCode")
      rw [show LE.laid.filter (fun x => x.1 == "umpire/api.ErrCode") = [("umpire/api.ErrCode", Rows.laid_umpire_api_ErrCode)] from by kernel_rfl] at h1
      exact sent_one h1 nErrCode yErrCode
    · have h1 := h.filter (fun x => x.1 == "umpire/api.ErrEvent")
      rw [show LE.laid.filter (fun x => x.1 == "umpire/api.ErrEvent") = [("umpire/api.ErrEvent", Rows.laid_umpire_api_ErrEvent)] from by kernel_rfl] at h1
      exact sent_one h1 nErrEvent yErrEvent
    · have h1 := h.filter (fun x => x.1 == "umpire/api.ErrWord")
      rw [show LE.laid.filter (fun x => x.1 == "umpire/api.ErrWord") = [("umpire/api.ErrWord", Rows.laid_umpire_api_ErrWord)] from by kernel_rfl] at h1
      exact sent_one h1 nErrWord yErrWord
    · have h1 := h.filter (fun x => x.1 == "umpire/api.ErrWords")
      rw [show LE.laid.filter (fun x => x.1 == "umpire/api.ErrWords") = [("umpire/api.ErrWords", Rows.laid_umpire_api_ErrWords)] from by kernel_rfl] at h1
      exact sent_one h1 nErrWords yErrWords
    · have h1 := h.filter (fun x => x.1 == "umpire/api.ErrObject")
      rw [show LE.laid.filter (fun x => x.1 == "umpire/api.ErrObject") = [("umpire/api.ErrObject", Rows.laid_umpire_api_ErrObject)] from by kernel_rfl] at h1
      exact sent_one h1 nErrObject yErrObject
  · match t, hx with
    | 1, hx =>
      have h1 := h.filter (fun x => x.1 == "umpire/event.objects")
      rw [show LE.laid.filter (fun x => x.1 == "umpire/event.objects") = [("umpire/event.objects", (DataW.agg ((tabs 1).map fun z => .lit (.string z)) : DataW Unit))] from by kernel_rfl, MakeChecks.laidMetH_plain _ _ _ (by kernel_rfl)] at h1
      exact strs_of nobjects yobjects Tryd.underlying123 Tryd.underlying9 cellsStr cells4S h1 j x hx
    | 2, hx =>
      have h1 := h.filter (fun x => x.1 == "umpire/event.events")
      rw [show LE.laid.filter (fun x => x.1 == "umpire/event.events") = [("umpire/event.events", (DataW.agg ((tabs 2).map fun z => .lit (.string z)) : DataW Unit))] from by kernel_rfl, MakeChecks.laidMetH_plain _ _ _ (by kernel_rfl)] at h1
      exact strs_of nevents yevents Tryd.underlying151 Tryd.underlying9 cellsStr cells7S h1 j x hx
    | 3, hx =>
      have h1 := h.filter (fun x => x.1 == "umpire/event.ops")
      rw [show LE.laid.filter (fun x => x.1 == "umpire/event.ops") = [("umpire/event.ops", (DataW.agg ((tabs 3).map fun z => .lit (.string z)) : DataW Unit))] from by kernel_rfl, MakeChecks.laidMetH_plain _ _ _ (by kernel_rfl)] at h1
      exact strs_of nops yops Tryd.underlying152 Tryd.underlying9 cellsStr cells9S h1 j x hx
    | 4, hx =>
      have h1 := h.filter (fun x => x.1 == "umpire/event.answers")
      rw [show LE.laid.filter (fun x => x.1 == "umpire/event.answers") = [("umpire/event.answers", (DataW.agg ((tabs 4).map fun z => .lit (.string z)) : DataW Unit))] from by kernel_rfl, MakeChecks.laidMetH_plain _ _ _ (by kernel_rfl)] at h1
      exact strs_of nanswers yanswers Tryd.underlying153 Tryd.underlying9 cellsStr cells3S h1 j x hx
    | 5, hx =>
      have h1 := h.filter (fun x => x.1 == "umpire/event.states")
      rw [show LE.laid.filter (fun x => x.1 == "umpire/event.states") = [("umpire/event.states", (DataW.agg ((tabs 5).map fun z => .lit (.string z)) : DataW Unit))] from by kernel_rfl, MakeChecks.laidMetH_plain _ _ _ (by kernel_rfl)] at h1
      exact strs_of nstates ystates Tryd.underlying123 Tryd.underlying9 cellsStr cells4S h1 j x hx
    | 6, hx =>
      have h1 := h.filter (fun x => x.1 == "umpire/event.levels")
      rw [show LE.laid.filter (fun x => x.1 == "umpire/event.levels") = [("umpire/event.levels", (DataW.agg ((tabs 6).map fun z => .lit (.string z)) : DataW Unit))] from by kernel_rfl, MakeChecks.laidMetH_plain _ _ _ (by kernel_rfl)] at h1
      exact strs_of nlevels ylevels Tryd.underlying123 Tryd.underlying9 cellsStr cells4S h1 j x hx
    | 0, hx => exact absurd hx (by simp [tabs])
    | t + 7, hx => exact absurd hx (by simp [tabs])
theorem laidO_of_tab {W : World} (h : laidMetH Tryd.prog LO.laid W) : Lib.TabIs Tryd.prog W "internal/strconv.uint64pow10" .u64 Lib.pow10Tab := by
  have h1 := h.filter (fun x => x.1 == "internal/strconv.uint64pow10")
  rw [show LO.laid.filter (fun x => x.1 == "internal/strconv.uint64pow10") = [("internal/strconv.uint64pow10", Lib.tabData .u64 Lib.pow10Tab)] from by kernel_rfl, MakeChecks.laidMetH_plain _ _ _ (by kernel_rfl)] at h1
  exact Lib.tabIs_of_head gTab gTabType Tryd.underlying215 Tryd.underlying87 cellsU64 cellsTab h1
theorem laidO_of {W : World} (h : laidMetH Tryd.prog LO.laid W) : LaidE W := by
  refine ⟨laidO_of_tab h, fun g hg => ?_, fun t j x hx => ?_⟩
  · simp only [List.mem_cons, List.not_mem_nil, or_false] at hg
    rcases hg with rfl | rfl | rfl | rfl | rfl
    · have h1 := h.filter (fun x => x.1 == "umpire/api.ErrCode")
      rw [show LO.laid.filter (fun x => x.1 == "umpire/api.ErrCode") = [("umpire/api.ErrCode", Rows.laid_umpire_api_ErrCode)] from by kernel_rfl] at h1
      exact sent_one h1 nErrCode yErrCode
    · have h1 := h.filter (fun x => x.1 == "umpire/api.ErrEvent")
      rw [show LO.laid.filter (fun x => x.1 == "umpire/api.ErrEvent") = [("umpire/api.ErrEvent", Rows.laid_umpire_api_ErrEvent)] from by kernel_rfl] at h1
      exact sent_one h1 nErrEvent yErrEvent
    · have h1 := h.filter (fun x => x.1 == "umpire/api.ErrWord")
      rw [show LO.laid.filter (fun x => x.1 == "umpire/api.ErrWord") = [("umpire/api.ErrWord", Rows.laid_umpire_api_ErrWord)] from by kernel_rfl] at h1
      exact sent_one h1 nErrWord yErrWord
    · have h1 := h.filter (fun x => x.1 == "umpire/api.ErrWords")
      rw [show LO.laid.filter (fun x => x.1 == "umpire/api.ErrWords") = [("umpire/api.ErrWords", Rows.laid_umpire_api_ErrWords)] from by kernel_rfl] at h1
      exact sent_one h1 nErrWords yErrWords
    · have h1 := h.filter (fun x => x.1 == "umpire/api.ErrObject")
      rw [show LO.laid.filter (fun x => x.1 == "umpire/api.ErrObject") = [("umpire/api.ErrObject", Rows.laid_umpire_api_ErrObject)] from by kernel_rfl] at h1
      exact sent_one h1 nErrObject yErrObject
  · match t, hx with
    | 1, hx =>
      have h1 := h.filter (fun x => x.1 == "umpire/event.objects")
      rw [show LO.laid.filter (fun x => x.1 == "umpire/event.objects") = [("umpire/event.objects", (DataW.agg ((tabs 1).map fun z => .lit (.string z)) : DataW Unit))] from by kernel_rfl, MakeChecks.laidMetH_plain _ _ _ (by kernel_rfl)] at h1
      exact strs_of nobjects yobjects Tryd.underlying123 Tryd.underlying9 cellsStr cells4S h1 j x hx
    | 2, hx =>
      have h1 := h.filter (fun x => x.1 == "umpire/event.events")
      rw [show LO.laid.filter (fun x => x.1 == "umpire/event.events") = [("umpire/event.events", (DataW.agg ((tabs 2).map fun z => .lit (.string z)) : DataW Unit))] from by kernel_rfl, MakeChecks.laidMetH_plain _ _ _ (by kernel_rfl)] at h1
      exact strs_of nevents yevents Tryd.underlying151 Tryd.underlying9 cellsStr cells7S h1 j x hx
    | 3, hx =>
      have h1 := h.filter (fun x => x.1 == "umpire/event.ops")
      rw [show LO.laid.filter (fun x => x.1 == "umpire/event.ops") = [("umpire/event.ops", (DataW.agg ((tabs 3).map fun z => .lit (.string z)) : DataW Unit))] from by kernel_rfl, MakeChecks.laidMetH_plain _ _ _ (by kernel_rfl)] at h1
      exact strs_of nops yops Tryd.underlying152 Tryd.underlying9 cellsStr cells9S h1 j x hx
    | 4, hx =>
      have h1 := h.filter (fun x => x.1 == "umpire/event.answers")
      rw [show LO.laid.filter (fun x => x.1 == "umpire/event.answers") = [("umpire/event.answers", (DataW.agg ((tabs 4).map fun z => .lit (.string z)) : DataW Unit))] from by kernel_rfl, MakeChecks.laidMetH_plain _ _ _ (by kernel_rfl)] at h1
      exact strs_of nanswers yanswers Tryd.underlying153 Tryd.underlying9 cellsStr cells3S h1 j x hx
    | 5, hx =>
      have h1 := h.filter (fun x => x.1 == "umpire/event.states")
      rw [show LO.laid.filter (fun x => x.1 == "umpire/event.states") = [("umpire/event.states", (DataW.agg ((tabs 5).map fun z => .lit (.string z)) : DataW Unit))] from by kernel_rfl, MakeChecks.laidMetH_plain _ _ _ (by kernel_rfl)] at h1
      exact strs_of nstates ystates Tryd.underlying123 Tryd.underlying9 cellsStr cells4S h1 j x hx
    | 6, hx =>
      have h1 := h.filter (fun x => x.1 == "umpire/event.levels")
      rw [show LO.laid.filter (fun x => x.1 == "umpire/event.levels") = [("umpire/event.levels", (DataW.agg ((tabs 6).map fun z => .lit (.string z)) : DataW Unit))] from by kernel_rfl, MakeChecks.laidMetH_plain _ _ _ (by kernel_rfl)] at h1
      exact strs_of nlevels ylevels Tryd.underlying123 Tryd.underlying9 cellsStr cells4S h1 j x hx
    | 0, hx => exact absurd hx (by simp [tabs])
    | t + 7, hx => exact absurd hx (by simp [tabs])
theorem laidOW_of {W : World} (h : laidMetH Tryd.prog LO.laid W) : Laid W := by
  refine ⟨fun g hg => ?_, laidO_of_tab h⟩
  simp only [List.mem_cons, List.not_mem_nil, or_false] at hg
  rcases hg with rfl | rfl | rfl | rfl | rfl
  · have h1 := h.filter (fun x => x.1 == "umpire/api.ErrLong")
    rw [show LO.laid.filter (fun x => x.1 == "umpire/api.ErrLong") = [("umpire/api.ErrLong", Rows.laid_umpire_api_ErrLong)] from by kernel_rfl] at h1
    exact sent_one h1 gLong gLongType
  · have h1 := h.filter (fun x => x.1 == "umpire/api.ErrEnd")
    rw [show LO.laid.filter (fun x => x.1 == "umpire/api.ErrEnd") = [("umpire/api.ErrEnd", Rows.laid_umpire_api_ErrEnd)] from by kernel_rfl] at h1
    exact sent_one h1 gEnd gEndType
  · have h1 := h.filter (fun x => x.1 == "umpire/api.ErrNumber")
    rw [show LO.laid.filter (fun x => x.1 == "umpire/api.ErrNumber") = [("umpire/api.ErrNumber", Rows.laid_umpire_api_ErrNumber)] from by kernel_rfl] at h1
    exact sent_one h1 gNumber gNumberType
  · have h1 := h.filter (fun x => x.1 == "strconv.ErrSyntax")
    rw [show LO.laid.filter (fun x => x.1 == "strconv.ErrSyntax") = [("strconv.ErrSyntax", Rows.laid_strconv_ErrSyntax)] from by kernel_rfl] at h1
    exact sent_one h1 gSyntax gSyntaxType
  · have h1 := h.filter (fun x => x.1 == "strconv.ErrRange")
    rw [show LO.laid.filter (fun x => x.1 == "strconv.ErrRange") = [("strconv.ErrRange", Rows.laid_strconv_ErrRange)] from by kernel_rfl] at h1
    exact sent_one h1 gRange gRangeType
end Go.Proofs.YtdinjplbbmhleaaDoor
