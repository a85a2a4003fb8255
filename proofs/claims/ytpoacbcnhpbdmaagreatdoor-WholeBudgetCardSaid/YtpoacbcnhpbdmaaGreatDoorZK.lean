/-
  A part of the proof: BudFact and what follows.
-/
import Derived.Test.YtpoacbcnhpbdmaaGreatDoorZD
import Derived.JoinedCond
import GoSem.ClaimGoes
set_option linter.all false
set_option maxRecDepth 100000
set_option maxHeartbeats 32000000
open Bool renaming or_false→HK
open Go.Func renaming goes→Uk
open Go.OpenClaim renaming goesBy→Vb
open Go.OpenSpec renaming ofChange→Iy
open Go.Program renaming goes→Va,goesAt→VS,goesFrom→V1,inPlace→U7,recurses→U8,unfollowed→Uj,varsNamed→U9
open Go.Value renaming int→I,slice→C,pointer→Q,bool→T
open Go.IntKind renaming i64→J
open Go.Obj renaming cells→K
open Go.Obj renaming cells→H
open Go.Ending renaming returned→R
open Option renaming none→O,some→E
open Go renaming World→U,Value→N
namespace Go.Proofs.YtpoacbcnhpbdmaaGreatDoor
open Go.RowKit Go.Maps Go.Proofs.Tryz W
variable {w W X Y Z:World}{n k g c m i j b a:Nat}{v u z y:Value}{x t:Int}{p:TypeId}{q:List Value}{r:Array Value}{A:Option Addr}
attribute [local go_sem↓] Go.wp_at_zero Go.wp_at_succ
namespace rowWholeBudget
open Go.ChangeShapes Go.WideShapes Go.ChangeAt
noncomputable abbrev P:=Tryz.pinned.checked.prog
abbrev f:FuncId:=3
noncomputable abbrev fn:=Tryz.f3
noncomputable abbrev s:=(Iy Rows.wholeBudgetSpec).bare
noncomputable abbrev cl:=Rows.wholeBudgetRow
def AbR:List Nat:=[3,4,7,18,19,8,20,36,82,28,62,66,107,167,166,168,169,170,171,172,63,64,69,110,111,112,177,113,178,114,115,179,116,180,117,118,181,119,120,182,121,122,183,65,140,222,141,223,263,264,265,266,267,268,269,224,270,83,50,91,27,23,60,61,6,17,38,59,86,146,84,142,143,225,39,40,42,88,147,230,148,67,108,173,238,278,279,333,334,335,280,281,336,337,369,370,68,109,174,239,282,240,283,175,176,41,87,43,44,45,46,89,149,231,271,232,272,273,309,310,311,312,313,314,315,316,317,358,359,318,360,361,397,411,319,320,321,322,362,233,274,150,47,48,90,49,9,10,21,22,51,92,93,152,151,94,144,153,11,24,52,25,53,54,96,95,154,26,55,56,97,98,155,156,157,158,159,160,161,162,99,100,57,101,164,236,163,234,275,235,277,332,276,323,329,368,324,363,325,364,365,326,366,367,398,327,328,330,331,103,102,104,58,105,106,165,237,12,29,30,13,31,70,124,185,241,242,284,338,339,243,285,340,342,341,186,244,188,247,187,245,286,288,345,287,343,371,344,246,189,190,123,184,133,218,262,134,71,14,32,72,125,73,126,127,74,128,191,192,193,248,194,249,289,250,290,346,372,399,347,348,349,75,33,34,76,129,195,251,291,196,252,197,198,253,260,308,356,392,408,413,414,357,393,409,394,395,410,396,37,85,145,226,227,228,229,199,201,81,77,200,202,203,204,254,292,350,293,294,351,295,302,296,299,297,298,300,301,206,207,256,303,352,373,400,374,401,402,375,376,208,257,304,353,377,378,379,380,403,381,382,205,255,209,210,211,212,213,259,307,258,305,354,306,355,383,389,407,384,404,385,386,405,406,412,387,388,390,391,130,214,220,131,78,132,215,216,217,261,79,80,135,136,137,138,219,139,221,35,15,16,5]
theorem GZ:P.closure f=AbR:=RK rfl (by kernel_rfl)
theorem k0:cl.wf (Iy s)=true:=by kernel_rfl
theorem k1:laidOutB P=true:=Jg
theorem k2:mapsRowed P=true:=by kernel_rfl
theorem k3:fn.params.all (P.readableRec ·)=true:=by kernel_rfl
theorem k4:namedTie P cl.named s.vars=true:=by kernel_rfl
theorem k5:(cl.stops==[])=true:=by kernel_rfl
theorem k6:(P.stops==[])=true:=by kernel_rfl
theorem k7:(cl.knobs==[])=true:=by kernel_rfl
theorem k8:(P.stopKnobs==[])=true:=by kernel_rfl
theorem k9:(cl.inPlace==P.inPlace f)=true:=by unfold U7;rw[GZ];kernel_rfl
theorem k10:(cl.unfollowed==P.unfollowed f)=true:=by unfold Uj;rw[GZ];kernel_rfl
theorem k11:(cl.recurses==P.recurses f)=true:=by unfold U8 Uj;rw[GZ];kernel_rfl
theorem k12:(cl.named==P.varsNamed f)=true:=by unfold U9;rw[GZ];kernel_rfl
theorem k13:(cl.maps==(fn.params.toList++s.plain.varTypes P).any (P.mapsRec ·))=true:=by kernel_rfl
theorem k14:(cl.ifaces==(fn.params.toList++s.plain.varTypes P).any (P.ifacesRec ·))=true:=by kernel_rfl
theorem k15:(cl.mapsOut==P.mapsAmong fn.resultTypes.toList)=true:=by kernel_rfl
theorem k16:(cl.loops==(fn.params.toList++s.plain.varTypes P).any (P.loopsFrom ·))=true:=by kernel_rfl
theorem k17:(cl.wideKeys==(fn.params.toList++s.plain.varTypes P++fn.resultTypes.toList).any (P.wideKeysFrom ·))=true:=by kernel_rfl
theorem k18:s.vars.all (P.varReadable ·)=true:=by kernel_rfl
theorem k19:fn.resultTypes.all (fun a=>P.readableRec a&&decide (a<P.types.size))=true:=by kernel_rfl
theorem k20:(cl.ifacesOut==fn.resultTypes.toList.any (P.ifacesRec ·))=true:=by kernel_rfl
theorem k21:(cl.loopsOut==fn.resultTypes.toList.any (P.loopsFrom ·))=true:=by kernel_rfl
theorem k22:(cl.plainKeys==P.plainKeys)=true:=by kernel_rfl
theorem k23:cl.shortTexts.isNone=true:=by kernel_rfl
theorem k24:P.stopsHeard=true:=by kernel_rfl
theorem k25:P.mayEnter=true:=by kernel_rfl
theorem k26:(cl.lifted==P.liftsFinal)=true:=by kernel_rfl
theorem k27:(P.make==some cl.make)=true:=by kernel_rfl
theorem k28:(cl.kinds==(if cl.domain.isEmpty then [] else fn.params.toList.map fun a=>match P.underlying a with|some (.int b)=>some b|_=>none))=true:=by kernel_rfl
theorem k29:(cl.pinned==cl.pinnedBy)=true:=by kernel_rfl
theorem k30:(cl.veiled==(fn.params.toList++s.plain.varTypes P++fn.resultTypes.toList).any (P.veiledRec ·))=true:=by kernel_rfl
theorem k31:cl.veiledFits P fn.params.toList (fn.params.toList++s.plain.varTypes P++fn.resultTypes.toList)=true:=by kernel_rfl
end rowWholeBudget
namespace rowWholeBudget
theorem CI{a b:Bool}(h:a=true)(g:b=true):(a&&b)=true:=by rw [h,g];rfl
theorem AdE:joinedFacts P f fn s cl=true:=by
 unfold joinedFacts;exact CI (CI (CI (CI (CI (CI (CI (CI (CI (CI (CI (CI (CI (CI (CI (CI (CI (CI (CI (CI (CI (CI (CI (CI (CI (CI (CI (CI (CI (CI (CI k0 k1) k2) k3) k4) k5) k6) k7) k8) k9) k10) k11) k12) k13) k14) k15) k16) k17) k18) k19) k20) k21) k22) k23) k24) k25) k26) k27) k28) k29) k30) k31
theorem g1:(AbR.any fun a=>(P.funcs[a]?).any Uk)=false:=by kernel_rfl
theorem g2:P.funcs.any Uk=false:=by kernel_rfl
theorem Afi:false=Rows.wholeBudgetRow.goesBy P:=by
 have h:P.funcNamed cl.func=some f:=by kernel_rfl
 have a:P.goes f=false:=by
  unfold Va
  rw[GZ,g1,g2,Bool.and_false,HK]
 unfold Vb VS V1
 show false=((P.funcNamed cl.func).any P.goes||false)
 rw[h,Option.any_some,a,HK]
end rowWholeBudget
end Go.Proofs.YtpoacbcnhpbdmaaGreatDoor
