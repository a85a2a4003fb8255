/-
  A part of the proof: TyA and what follows.
-/
import Derived.Test.YtpoacbcnhpbdmaaGreatDoorZD
import Derived.Test.YtpoacbcnhpbdmaaGreatDoorCards
import Derived.Lib.DecodeN
import Derived.Deep.DeepHandedRow
import Derived.Deep.DeepWitnessRowRef
import Derived.Stop.LaidErr
import Derived.LaidSub
set_option linter.all false
set_option maxRecDepth 100000
set_option maxHeartbeats 32000000
open Go.DataW renaming laidRun→Ui
open Go.OpenClaim renaming laidByTextAt_pinned→U6
open Go.Program renaming laidByTextLater_by_run→U4,listedFits→U5
open Go.Value renaming int→I,slice→C,pointer→Q,bool→T
open Go.IntKind renaming i64→J
open Go.Obj renaming cells→K
open Go.Obj renaming cells→H
open Go.Ending renaming returned→R
open Option renaming none→O,some→E
open Go renaming World→U,Value→N
namespace Go.Proofs.YtpoacbcnhpbdmaaGreatDoor
open Go.RowKit Go.Maps Go.Proofs.Tryz W
variable {w W X Y Z:World}{n k g c m i j b a:Nat}{v u z y:Value}{x t:Int}{p:TypeId}{q:List Value}{r:Array Value}{A:Option Addr}
attribute [local go_sem↓] Go.wp_at_zero Go.wp_at_succ
theorem ty0:prog.worded (varsWordLater true)=true:=by kernel_rfl
theorem ty1:prog.worded (varsWordLater !true)=false:=by kernel_rfl
theorem ty2:prog.worded rootWordLater=true:=by kernel_rfl
theorem ty3:L1.map (fun a=>prog.kindOfLater a.1)=AbP.map some:=by kernel_rfl
theorem ty4:(prog.funcNamed "gosem.cut.vars").isSome=true:=by kernel_rfl
theorem ty5:varsNamedLaterB prog (varsId prog) L1=true:=by kernel_rfl
theorem ty9:(L1.all fun a=>a.2.handleName?.isNone)=true:=by kernel_rfl
theorem ty6:∀os a,varsDone prog 1000 (varsId prog) os a=true:=fun _ _=>by kernel_rfl
theorem ty7:∀os a,(Ui prog (varsWorld prog 1000 (varsId prog) os a).memory 8 (L1.map (·.1))).map (·.1)=some L1:=fun _ _=>by kernel_rfl
theorem ty8:∀os a,(Ui prog (varsWorld prog 1000 (varsId prog) os a).memory 8 (L1.map (·.1))).map (fun b=>decide b.2.Nodup&&laidRowsB prog (varsWorld prog 1000 (varsId prog) os a).memory b.2)=some true:=fun _ _=>by kernel_rfl
theorem tie:prog.laidByTextLater L1 AbP true:=U4 1000 8 ty0 ty1 ty2 ty3 ty4 ty5 ty6 ty7 ty8 ty9
theorem Cj:Tryz.pinned.checked.prog.pinnedFits "unicode/utf8.first"=true:=by kernel_rfl
theorem Qh:Tryz.pinned.checked.prog.headLifts.contains "ownunsafe"=false:=by kernel_rfl
theorem AbQ:Tryz.pinned.checked.prog.listedFits [("umpire/api.ErrBudget",Rows.laid_umpire_api_ErrBudget),("umpire/api.ErrIndex",Rows.laid_umpire_api_ErrIndex),("umpire/api.ErrTooMany",Rows.laid_umpire_api_ErrTooMany),("umpire/api.ErrMany",Rows.laid_umpire_api_ErrMany),("umpire/api.ErrObject",Rows.laid_umpire_api_ErrObject),("umpire/api.ErrOp",Rows.laid_umpire_api_ErrOp),("umpire/event.objects",Rows.laid_umpire_event_objects),("umpire/event.events",Rows.laid_umpire_event_events),("umpire/event.ops",Rows.laid_umpire_event_ops),("umpire/event.answers",Rows.laid_umpire_event_answers),("umpire/event.states",Rows.laid_umpire_event_states),("umpire/event.levels",Rows.laid_umpire_event_levels),("umpire/api.ErrCode",Rows.laid_umpire_api_ErrCode),("umpire/api.ErrEvent",Rows.laid_umpire_api_ErrEvent),("umpire/api.ErrTwice",Rows.laid_umpire_api_ErrTwice),("umpire/api.ErrThread",Rows.laid_umpire_api_ErrThread),("umpire/api.ErrTx",Rows.laid_umpire_api_ErrTx),("umpire/api.ErrOrder",Rows.laid_umpire_api_ErrOrder),("umpire/api.ErrAnswer",Rows.laid_umpire_api_ErrAnswer),("umpire/api.ErrLevel",Rows.laid_umpire_api_ErrLevel),("umpire/api.ErrStop",Rows.laid_umpire_api_ErrStop),("internal/strconv.uint64pow10",Rows.laid_internal_strconv_uint64pow10),("math/bits.deBruijn32tab",Rows.laid_math_bits_deBruijn32tab),("math/bits.deBruijn64tab",Rows.laid_math_bits_deBruijn64tab),("umpire/api.ErrHolds",Rows.laid_umpire_api_ErrHolds),("umpire/api.ErrPremise",Rows.laid_umpire_api_ErrPremise),("umpire/api.ErrProg",Rows.laid_umpire_api_ErrProg),("umpire/api.ErrLong",Rows.laid_umpire_api_ErrLong),("umpire/api.ErrEnd",Rows.laid_umpire_api_ErrEnd),("unicode/utf8.first",Rows.laid_unicode_utf8_first),("unicode/utf8.acceptRanges",Rows.laid_unicode_utf8_acceptRanges),("umpire/api.ErrWords",Rows.laid_umpire_api_ErrWords),("umpire/api.ErrWord",Rows.laid_umpire_api_ErrWord),("umpire/api.ErrNumber",Rows.laid_umpire_api_ErrNumber),("strconv.ErrSyntax",Rows.laid_strconv_ErrSyntax),("strconv.ErrRange",Rows.laid_strconv_ErrRange),("umpire/api.ErrCert",Rows.laid_umpire_api_ErrCert),("umpire/prog.acts",Rows.laid_umpire_prog_acts)]=true:=by
 unfold U5;rw[Qh];kernel_rfl
theorem Hs:Rows.wholeBudgetRow.laidByTextAt .later Tryz.pinned [.sentinel,.sentinel,.sentinel,.sentinel,.sentinel,.sentinel,.data,.data,.data,.data,.data,.data,.sentinel,.sentinel,.sentinel,.sentinel,.sentinel,.sentinel,.sentinel,.sentinel,.sentinel,.data,.data,.data,.sentinel,.sentinel,.sentinel,.sentinel,.sentinel,.pinned,.data,.sentinel,.sentinel,.sentinel,.sentinel,.sentinel,.sentinel,.data] true:=
 U6 rfl rfl tie rfl rfl rfl rfl (λb a _e=>by
  simp only[Rows.wholeBudgetRow,List.zip_cons_cons,List.zip_nil_right,List.mem_cons,List.mem_nil_iff,or_false] at a;rcases a with rfl|rfl|rfl|rfl|rfl|rfl|rfl|rfl|rfl|rfl|rfl|rfl|rfl|rfl|rfl|rfl|rfl|rfl|rfl|rfl|rfl|rfl|rfl|rfl|rfl|rfl|rfl|rfl|rfl|rfl|rfl|rfl|rfl|rfl|rfl|rfl|rfl|rfl
  .cases _e
  .cases _e
  .cases _e
  .cases _e
  .cases _e
  .cases _e
  .cases _e
  .cases _e
  .cases _e
  .cases _e
  .cases _e
  .cases _e
  .cases _e
  .cases _e
  .cases _e
  .cases _e
  .cases _e
  .cases _e
  .cases _e
  .cases _e
  .cases _e
  .cases _e
  .cases _e
  .cases _e
  .cases _e
  .cases _e
  .cases _e
  .cases _e
  .cases _e
  .exact⟨Cj,by kernel_rfl⟩
  .cases _e
  .cases _e
  .cases _e
  .cases _e
  .cases _e
  .cases _e
  .cases _e
  .cases _e) AbQ
namespace LQ
open Go.ChangeShapes Go.WideShapes Go.ChangeAt
def laid:List (String×DataW Unit):=Rows.wholeBudgetRow.laid
def put(cs:Array N):Obj->Obj
 |.cells _ a frozen=>K cs a frozen
 |b=>b
def cs1:DataW Unit->List N
 |.lit (.string a)=>[.string ⟨a.toArray⟩]
 |.lit (.int b d)=>[.int b d]
 |_=>[]
def cs2:DataW Unit->List N
 |.agg a=>a.flatMap cs1
 |b=>cs1 b
def gs:List Nat:=[0,6,5,3,9,10,17,18,19,20,21,22,14,15,25,26,16,24,27,1,7,31,35,36,8,13,23,2,4,33,34,11,12,29,37,38,28,30]
def errs:List (Nat×List UInt8):=(laid.zip gs).filterMap λa=>match a.1.2 with
 |.iface _ (.ptr (.agg [.lit (.string b)]))=>E (a.2,b)
 |_=>O
noncomputable def world(os:Os):U:=
 let b:=World.holding prog os ⟨(errs.map λa=>Obj.cells #[.string ⟨a.2.toArray⟩] 565).toArray, #[],[]⟩
 {b with heap:=errs.zipIdx.foldl (λh a=>h.modify a.1.1 (put #[.iface 563 (Q (E ⟨(World.settled prog os).heap.size+a.2,0,O⟩))])) ((laid.zip gs).foldl (λh d=>match d.1.2 with
  |.agg e=>h.modify d.2 (put (e.flatMap cs2).toArray)
  |_=>h) b.heap)}
theorem met(os:Os)(args:Array N):laidMet prog laid ((world os).forCall (λ_ _=>0) ⟨#[],args,[]⟩).memory:=
 laidMet_of_run' 8 (by kernel_rfl) (by kernel_rfl)
end LQ
end Go.Proofs.YtpoacbcnhpbdmaaGreatDoor
