/-
  From a walk to a row: what every Word law's row asks beside its walk. 'law_post': a call that answers true and turns nothing that was there meets the row; 'laid_of': what the row's list gives; arguments opened to what they read as.
-/
import Derived.Test.YtdfkegflnebckaaDoorLaidW
import Derived.Test.YtdfkegflnebckaaDoorApp
import Derived.OpenShut
import Derived.SliceStrings
import Derived.ChangeSame
import Derived.ChangeMaps5
import Derived.MakeChecks
namespace Go.Proofs.YtdfkegflnebckaaDoor
open Go.ChangeShapes Go.WideShapes Go.ChangeAt Go.RowKit
open Go.ChangeMaps (open_string shut_string)

theorem own : ownKnob Tryd.prog.godebug = none := by kernel_rfl
theorem laidOut : laidOutB Tryd.prog = true := by kernel_rfl

section
variable {H : Type} {enc : TypeId × Value → H}
/-- The arguments read behind the call as they read before it. -/
theorem all_stays {W W' : World} (hb : Below W.heap.size W W') (ts : List TypeId) : ∀ (vs : List Value) (ds : List (DataW H)) (ps : List MemPlace),
    (ts.all fun t => Tryd.prog.readableRec t && decide (t < Tryd.prog.types.size)) = true → DataW.TrodAll enc Tryd.prog W 0 (fun _ => true) true ts vs ds ps → (∀ x ∈ ps, x.block < W.heap.size) →
    DataW.TrodAll enc Tryd.prog W' 0 (fun b => decide (b < W.heap.size)) true ts vs ds ps := by
  induction ts with
  | nil =>
    intro vs ds ps _ h _
    obtain ⟨rfl, rfl, rfl⟩ := trodAll_nil h
    exact trodAll_mk0
  | cons t ts ih =>
    intro vs ds ps hr h hlt
    obtain ⟨v, vs', d, ds', p, q, rfl, rfl, rfl, h1, h2⟩ := trodAll_cons h
    rw [List.all_cons, Bool.and_eq_true, Bool.and_eq_true, decide_eq_true_eq] at hr
    exact trodAll_cons_mk (Below.trod laidOut hr.1.1 hr.1.2 h1 hb (fun x hx => hlt x (List.mem_append.2 (.inl hx)))) (ih vs' ds' q hr.2 h2 (fun x hx => hlt x (List.mem_append.2 (.inr hx))))

/-- A law's row: the call has answered true, and nothing that was there has turned. -/
theorem law_post {s : ChangeSpec} {f : Func} {W W' : World} {args : Array Value} {ds gs : List (DataW H)} {before : List MemPlace} (hres : f.resultTypes = #[4]) (hv : s.vars = [])
    (hr : (f.params.toList.all fun t => Tryd.prog.readableRec t && decide (t < Tryd.prog.types.size)) = true)
    (hW : DataW.Whole enc Tryd.prog f.params.toList s.vars false W args.toList ds gs before) (hs : ∀ es : List (DataW H), es.length = f.params.size → s.fn H (es ++ []) = { results := [.lit (.bool true)], args := es })
    (hb : Below W.heap.size W W') : s.post enc Tryd.prog f false true false false W args (.bool true) W' := by
  have hW' := hW
  obtain ⟨p, q, hA, hV, rfl, hfz, hnd⟩ := hW
  rw [hv] at hV
  obtain ⟨rfl, rfl⟩ := trodVars_none hV
  have hlen : ds.length = f.params.size := by
    have h : ∀ (ts : List TypeId) (vs : List Value) (ds : List (DataW H)) (ps : List MemPlace), DataW.TrodAll enc Tryd.prog W 0 (fun _ => true) true ts vs ds ps → ds.length = ts.length := by
      intro ts
      induction ts with
      | nil => intro vs ds ps h; obtain ⟨rfl, rfl, rfl⟩ := trodAll_nil h; rfl
      | cons t ts ih =>
        intro vs ds ps h
        obtain ⟨v, vs', d, ds', p, q, rfl, rfl, rfl, h1, h2⟩ := trodAll_cons h
        simp [ih _ _ _ h2]
    simpa using h _ _ _ _ hA
  have e := hs ds hlen
  refine ⟨ds, [], p ++ [], [], p, [], hW', ?_, ?_, ?_, hb.frame _, fun h => by cases h⟩
  · rw [e, hres]
    exact trodAll_mk1 (shut_bool Tryd.underlying4 true)
  · rw [e]
    refine all_stays hb _ _ _ _ hr hA (fun x hx => ?_)
    have := hW'.lt x (by simpa using hx)
    simpa using this
  · rw [e, hv]
    rfl
end

theorem gLong : Tryd.prog.globalNamed "umpire/api.ErrLong" = some 2 := by kernel_rfl
theorem gLongType : (Tryd.prog.globals[2]?).map (·.type) = some 30 := by kernel_rfl
theorem gEnd : Tryd.prog.globalNamed "umpire/api.ErrEnd" = some 3 := by kernel_rfl
theorem gEndType : (Tryd.prog.globals[3]?).map (·.type) = some 30 := by kernel_rfl
theorem gNumber : Tryd.prog.globalNamed "umpire/api.ErrNumber" = some 6 := by kernel_rfl
theorem gNumberType : (Tryd.prog.globals[6]?).map (·.type) = some 30 := by kernel_rfl
theorem gSyntax : Tryd.prog.globalNamed "strconv.ErrSyntax" = some 11 := by kernel_rfl
theorem gSyntaxType : (Tryd.prog.globals[11]?).map (·.type) = some 30 := by kernel_rfl
theorem gRange : Tryd.prog.globalNamed "strconv.ErrRange" = some 12 := by kernel_rfl
theorem gRangeType : (Tryd.prog.globals[12]?).map (·.type) = some 30 := by kernel_rfl
theorem gTabType : (Tryd.prog.globals[7]?).map (·.type) = some 135 := by kernel_rfl
theorem cellsErr : Tryd.prog.cellsOf 164 = 1 := by kernel_rfl
theorem cellsStr : Tryd.prog.cellsOf 9 = 1 := by kernel_rfl
theorem cellsU64 : Tryd.prog.cellsOf 124 = 1 := by kernel_rfl
theorem cellsTab : Tryd.prog.cellsOf 135 = 20 := by kernel_rfl
theorem star : "*" ++ "errors.errorString" = "*errors.errorString" := by decide
theorem rowErr (u : TypeId) (h : Tryd.prog.typeName? 3 u = some "*errors.errorString") : u = 162 :=
  typeName_ptr_named (nm := "errors.errorString") (by rw [star]; kernel_rfl) (by kernel_rfl) (by decide) u (by rw [star]; exact h)
theorem sent_one {W : World} {n : String} {text : List UInt8} {g : Nat} (h : laidMetH Tryd.prog [(n, .iface "*errors.errorString" (.ptr (.agg [.lit (.string text)])))] W) (hg : Tryd.prog.globalNamed n = some g) (ht : (Tryd.prog.globals[g]?).map (·.type) = some 30) :
    ∃ a, W.cell? ⟨g, 0, none⟩ = some (.iface 162 (.pointer (some a))) := by
  rw [MakeChecks.laidMetH_plain _ _ _ (by rfl)] at h
  obtain ⟨a, s, hv, _⟩ := laid_sentinel h hg ht Tryd.underlying30 rowErr Tryd.underlying162 Tryd.underlying164 rfl rfl Tryd.underlying9 cellsErr cellsStr
  exact ⟨a, by simpa using World.var?_cell hg hv 0⟩
/-- What the row's list gives. -/
theorem laid_of {W : World} (h : laidMetH Tryd.prog LW.laid W) : Laid W := by
  refine ⟨fun g hg => ?_, ?_⟩
  · simp only [List.mem_cons, List.not_mem_nil, or_false] at hg
    rcases hg with rfl | rfl | rfl | rfl | rfl
    · have h1 := h.filter (fun x => x.1 == "umpire/api.ErrLong")
      rw [show LW.laid.filter (fun x => x.1 == "umpire/api.ErrLong") = [("umpire/api.ErrLong", Rows.laid_umpire_api_ErrLong)] from by kernel_rfl] at h1
      exact sent_one h1 gLong gLongType
    · have h1 := h.filter (fun x => x.1 == "umpire/api.ErrEnd")
      rw [show LW.laid.filter (fun x => x.1 == "umpire/api.ErrEnd") = [("umpire/api.ErrEnd", Rows.laid_umpire_api_ErrEnd)] from by kernel_rfl] at h1
      exact sent_one h1 gEnd gEndType
    · have h1 := h.filter (fun x => x.1 == "umpire/api.ErrNumber")
      rw [show LW.laid.filter (fun x => x.1 == "umpire/api.ErrNumber") = [("umpire/api.ErrNumber", Rows.laid_umpire_api_ErrNumber)] from by kernel_rfl] at h1
      exact sent_one h1 gNumber gNumberType
    · have h1 := h.filter (fun x => x.1 == "strconv.ErrSyntax")
      rw [show LW.laid.filter (fun x => x.1 == "strconv.ErrSyntax") = [("strconv.ErrSyntax", Rows.laid_strconv_ErrSyntax)] from by kernel_rfl] at h1
      exact sent_one h1 gSyntax gSyntaxType
    · have h1 := h.filter (fun x => x.1 == "strconv.ErrRange")
      rw [show LW.laid.filter (fun x => x.1 == "strconv.ErrRange") = [("strconv.ErrRange", Rows.laid_strconv_ErrRange)] from by kernel_rfl] at h1
      exact sent_one h1 gRange gRangeType
  · have h1 := h.filter (fun x => x.1 == "internal/strconv.uint64pow10")
    rw [show LW.laid.filter (fun x => x.1 == "internal/strconv.uint64pow10") = [("internal/strconv.uint64pow10", Lib.tabData .u64 Lib.pow10Tab)] from by kernel_rfl, MakeChecks.laidMetH_plain _ _ _ (by kernel_rfl)] at h1
    exact Lib.tabIs_of_head gTab gTabType Tryd.underlying135 Tryd.underlying124 cellsU64 cellsTab h1

section
variable {H : Type} {enc : TypeId × Value → H} {base : Nat} {spare : Nat → Bool} {held : Bool}
theorem wf_u8 {z : Int} (h : (Lit.int .u8 z).wf = true) : 0 ≤ z ∧ z < 256 := by
  simp [Lit.wf, IntKind.min, IntKind.max, IntKind.bits, IntKind.signed] at h
  omega
theorem wf_i64 {z : Int} (h : (Lit.int .i64 z).wf = true) : -9223372036854775808 ≤ z ∧ z ≤ 9223372036854775807 := by
  simp [Lit.wf, IntKind.min, IntKind.max, IntKind.bits, IntKind.signed] at h
  omega
/-- A slice of bytes that came in. -/
theorem bytes_open {W : World} {v : Value} {d : DataW H} {ps : List MemPlace} (hv : ∃ a n c, v = .slice a n c) (h : DataW.Trod enc Tryd.prog W base spare held 26 v d ps) :
    ∃ l : List UInt8, Reads W v (bys l) ∧ l.length ≤ maxLen := by
  obtain ⟨a0, n0, c0, rfl⟩ := hv
  obtain ⟨fuel, h⟩ := h
  rcases open_ints Tryd.underlying26 Tryd.underlying5 (by kernel_rfl) h with ⟨h0, _⟩ | ⟨a, len, cap, zs, hcs, _, hl, hm, hz, _, hcell, hw⟩
  · simp [Value.cells] at h0
    obtain ⟨rfl, rfl, rfl⟩ := h0
    exact ⟨[], Reads.nil W, Nat.zero_le _⟩
  · simp [Value.cells] at hcs
    obtain ⟨rfl, rfl, rfl⟩ := hcs
    have hnz : n0 ≤ zs.length := by rw [hz]; split <;> omega
    have hlen : (bys ((zs.take n0).map fun z => UInt8.ofNat z.toNat)).length = n0 := by simp [bys_len]; omega
    refine ⟨(zs.take n0).map fun z => UInt8.ofNat z.toNat, ?_, by simp; omega⟩
    rcases Nat.eq_zero_or_pos n0 with h0 | h0
    · subst h0
      exact ⟨some a, c0, 0, 0, by simp [bys], by simp, fun _ _ h => by simp [bys] at h, by simp [bys], fun j u hj => by simp [bys] at hj⟩
    · obtain ⟨b, off, rfl, hc⟩ := ints_at hcell (by omega)
      refine ⟨some ⟨b, off, none⟩, c0, b, off, by rw [hlen], by simp, fun x hx _ => by injection hx with hx; exact hx.symm, by omega, fun j u hj => ?_⟩
      have hj2 : j < n0 := by
        have := (List.getElem?_eq_some_iff.1 hj).1
        omega
      rw [hc j (by omega)]
      have hjl : j < zs.length := by omega
      have hwf := wf_u8 (hw _ (List.getElem_mem hjl))
      have e : (bys ((zs.take n0).map fun z => UInt8.ofNat z.toNat))[j]? = some (.int .u8 zs[j]) := by
        simp only [bys, List.map_map, List.getElem?_map, List.getElem?_take_of_lt hj2, List.getElem?_eq_getElem hjl, Option.map_some, Function.comp]
        congr 2
        rw [_root_.Go.Proofs.YtdfkegflnebckaaDoor.W.ofNat_toNat (by omega)]
        omega
      rw [e] at hj
      rw [← hj]
      simp [List.getD, hjl]
end
end Go.Proofs.YtdfkegflnebckaaDoor
