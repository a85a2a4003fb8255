/-
  ProgBack answers true for every argument, and leaves its arguments as they were; the package variables hold what their own text lays (tied).
-/
import Derived.Test.YtdfkegflnebckaaDoorPClose
import Derived.Test.YtdfkegflnebckaaDoorPLaw
namespace Go.Proofs.YtdfkegflnebckaaDoor.rowProgBack
open Go.ChangeShapes Go.WideShapes Go.ChangeAt Go.RowKit
open Go.ChangeMaps (open_string shut_string)

set_option maxRecDepth 100000 in
theorem contract (H : Type) (enc : TypeId × Value → H) (W : World) (base : Nat) (args : Array Value) (ds gs : List (DataW H)) (before : List MemPlace)
    (hval : ∀ (j : Nat) t v, Tryd.f3.params[j]? = some t → args[j]? = some v → Value.okWide Tryd.prog W .any base t v)
    (hW : DataW.Whole enc Tryd.prog Tryd.f3.params.toList Rows.progBackSpec.vars false W args.toList ds gs before) (hL : laidMetH Tryd.prog LB.laid W) (hk : Rows.uptoSmall H (ds ++ gs) = true) :
    Calls Tryd.prog 3 args W fun e W' => ∃ v, e = .returned v ∧ Rows.progBackSpec.post enc Tryd.prog Tryd.f3 false true false false W args v W' := by
  have hW' := hW
  obtain ⟨p, q, hA0, hV, rfl, hfz, hnd⟩ := hW
  have hA : DataW.TrodAll enc Tryd.prog W 0 (fun _ => true) true Tryd.f3.params.toList args.toList ds p := hA0
  rw [Tryd.params3] at hA hval
  obtain ⟨v0, vs0, d0, ds0, p0, q0, hargs, rfl, rfl, h0, r0⟩ := trodAll_cons hA
  obtain ⟨v1, vs1, d1, ds1, p1, q1, rfl, rfl, rfl, h1, r1⟩ := trodAll_cons r0
  obtain ⟨v2, vs2, d2, ds2, p2, q2, rfl, rfl, rfl, h2, r2⟩ := trodAll_cons r1
  obtain ⟨v3, vs3, d3, ds3, p3, q3, rfl, rfl, rfl, h3, r3⟩ := trodAll_cons r2
  obtain ⟨v4, vs4, d4, ds4, p4, q4, rfl, rfl, rfl, h4, r4⟩ := trodAll_cons r3
  obtain ⟨rfl, rfl, rfl⟩ := trodAll_nil r4
  obtain rfl : args = #[v0, v1, v2, v3, v4] := by cases args; simp_all
  obtain ⟨vc0, vt0, pg0, rfl, hp0⟩ := prog_open (hval 0 25 v0 rfl rfl) h0
  obtain ⟨l1, hr1, hl1⟩ := bytes_open (okWide_slice Tryd.underlying26 (hval 1 26 v1 rfl rfl)) h1
  obtain ⟨x2, rfl, rfl, rfl, wf2⟩ := open_int Tryd.underlying3 (hval 2 3 v2 rfl rfl) h2
  have b2 := wf_i64 wf2
  obtain ⟨x3, rfl, rfl, rfl, wf3⟩ := open_int Tryd.underlying3 (hval 3 3 v3 rfl rfl) h3
  have b3 := wf_i64 wf3
  obtain ⟨x4, rfl, rfl, rfl, wf4⟩ := open_int Tryd.underlying3 (hval 4 3 v4 rfl rfl) h4
  have b4 := wf_i64 wf4
  refine (progBack _ _ _ _ _ x2 x3 x4 W hp0 hr1 (by unfold maxLen at hl1; omega) (laidP_of hL)).mono fun e W' ⟨he, hb⟩ => ?_
  subst he
  exact ⟨_, rfl, law_post rfl rfl (by kernel_rfl) hW' (fun es hes => by
    match es, hes with
    | [d0, d1, d2, d3, d4], _ => rfl) hb⟩

theorem witness (os : Os) {H : Type} (enc : TypeId × Value → H) : (Rows.OpenSpec.upto Rows.progBackSpec).preRow enc Tryd.prog Tryd.f3 Rows.progBackUptoRow.domain false Rows.progBackUptoRow.laid ((LB.world os).forCall (fun _ _ => 0) ⟨#[], #[.agg #[.slice none 0 0, .slice none 0 0], .slice none 0 0, .int .i64 0, .int .i64 0, .int .i64 0], []⟩).memory #[.agg #[.slice none 0 0, .slice none 0 0], .slice none 0 0, .int .i64 0, .int .i64 0, .int .i64 0] := by
  have hx : DataW.whole enc Tryd.prog ((LB.world os).forCall (fun _ _ => 0) ⟨#[], #[.agg #[.slice none 0 0, .slice none 0 0], .slice none 0 0, .int .i64 0, .int .i64 0, .int .i64 0], []⟩).memory Tryd.f3.params.toList Rows.progBackSpec.vars false (#[.agg #[.slice none 0 0, .slice none 0 0], .slice none 0 0, .int .i64 0, .int .i64 0, .int .i64 0] : Array Value).toList 8 = some ([.agg [.nil, .nil], .nil, .lit (.int .i64 0), .lit (.int .i64 0), .lit (.int .i64 0)], [], []) := by kernel_rfl
  exact OpenSpec.preRow_of_cond 8 hx (by kernel_rfl) (fun k hk => by cases hk; kernel_rfl) (by kernel_rfl) (LB.met os _)

set_option maxRecDepth 100000 in
theorem lifted (os : Os) (started : os.Started) (H : Type) (enc : TypeId × Value → H) (F : Stop.Interp) :
    ReturnsInHanded {} Tryd.checked os 3 .any ((Rows.OpenSpec.upto Rows.progBackSpec).preRow enc Tryd.prog Tryd.f3 Rows.progBackUptoRow.domain false Rows.progBackUptoRow.laid) (((Rows.OpenSpec.upto Rows.progBackSpec).at F).post enc Tryd.prog Tryd.f3 false true false false) := by
  refine returnsInHanded_of_row (C := Tryd.checked) (s := Rows.OpenSpec.upto Rows.progBackSpec) own started (by kernel_rfl) Tryd.func3
    (witness_row_atRef (enc := enc) (C := Tryd.checked) false (LB.world os) #[.agg #[.slice none 0 0, .slice none 0 0], .slice none 0 0, .int .i64 0, .int .i64 0, .int .i64 0] rfl (by kernel_rfl) (by kernel_rfl) (by kernel_rfl) (witness os enc)) ?_
  intro W base args ds gs before hval hW _ hcond _ hL _ _
  exact contract H enc W base args ds gs before hval hW hL (hcond _ rfl)

theorem said : Rows.ProgBackUptoSaid :=
  OpenClaim.holds_of_cond 3 Tryd.f3 rfl rfl rfl rfl rfl rfl rfl ⟨rfl, rfl, rfl, rfl, rfl⟩ rfl rfl rfl rfl rfl (by kernel_rfl) Tryd.func3 (by kernel_rfl)
    (of_decide_eq_true (by kernel_rfl)) (by unfold Func.isWrapper; rw [if_neg (of_decide_eq_false (by kernel_rfl))]; exact ⟨rfl, rfl⟩)
    (fun os started H enc _ F => by rw [OpenClaim.pre_eq_preRow]; exact lifted os started H enc F)

/-- No parameter wants a stand-in; the program's own looks are as the card says. -/
theorem plain (f : FuncId) (fn : Func) (hf : Tryd.pinned.checked.prog.funcNamed "umpire/umpirelaw18.ProgBack" = some f) (hfn : Tryd.pinned.checked.prog.funcs[f]? = some fn) :
    true = Tryd.pinned.checked.prog.looks [] ∧ ∀ (j : Nat) t, fn.params[j]? = some t → Tryd.pinned.checked.prog.wantsStandIn t = false := by
  obtain rfl : f = 3 := Option.some.inj ((show Tryd.prog.funcNamed "umpire/umpirelaw18.ProgBack" = some 3 by kernel_rfl).symm.trans hf) |>.symm
  obtain rfl : fn = Tryd.f3 := (Option.some.inj (Tryd.func3.symm.trans hfn)).symm
  refine ⟨by kernel_rfl, fun j t ht => ?_⟩
  rw [Tryd.params3] at ht
  have hm := Array.mem_of_getElem? ht
  have h : ((#[25, 26, 3, 3, 3] : Array TypeId).toList.all fun t => !Tryd.prog.wantsStandIn t) = true := by kernel_rfl
  have := List.all_eq_true.1 h t (Array.mem_toList_iff.2 hm)
  have h2 : Tryd.prog.wantsStandIn t = false := by simpa using this
  exact h2

theorem card : Rows.ProgBackUptoCardSaid :=
  Claim7.holds_tied_plain_at .later [] _ _ _ _ said (fun _ h => by cases h) (by kernel_rfl) (fun _ h => by cases h) progBackUpto_row_tie rfl ⟨rfl, rfl⟩ (by kernel_rfl) rfl plain (by kernel_rfl)
#print axioms card
end Go.Proofs.YtdfkegflnebckaaDoor.rowProgBack
