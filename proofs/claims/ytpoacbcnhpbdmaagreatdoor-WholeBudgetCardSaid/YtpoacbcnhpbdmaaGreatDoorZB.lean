/-
  A part of the proof: Keys and what follows.
-/
import Derived.Shelf.SlIterI.Nil
import Derived.Shelf.SortM.Plain
import Derived.Shelf.SortM.SortNone
import Derived.Ground.GgzProg
import Derived.Ground.SlgmProg
import Derived.Test.YtpoacbcnhpbdmaaGreatDoorProg
import Derived.WalkKit
import Derived.Deep.DrawnRows
namespace Go.Proofs
open Go.Shelf Tryz
theorem Tryz.zb{i B}(h:((prog.funcs[i]?).elim "" Func.name== "runtime.NumGoroutine")=false)(g:prog.funcs[i]?=some {B with name:=(prog.funcs[i]?).elim "" Func.name}):Bears prog i B:=⟨_,h,g⟩
def Tryz.zqf:Ren:=⟨fun|7=>164|10=>236|n=>n,fun|23=>243|26=>3|3=>246|28=>328|0=>0|27=>327|33=>238|4=>4|n=>n,fun|n=>n⟩
theorem Tryz.keysA:SlLaysZI.n7 prog Tryz.zqf:=by constructor<;>first|kernel_rfl|(intro _;kernel_rfl)|exact zb (by kernel_rfl) (by kernel_rfl)
def Tryz.zqc:Ren:=⟨fun|7=>165|10=>237|n=>n,fun|23=>246|26=>3|3=>170|28=>328|0=>0|27=>327|33=>238|4=>4|n=>n,fun|n=>n⟩
theorem Tryz.keysB:SlLaysZI.n7 prog Tryz.zqc:=by constructor<;>first|kernel_rfl|(intro _;kernel_rfl)|exact zb (by kernel_rfl) (by kernel_rfl)
def Tryz.zqd:Ren:=⟨fun|7=>188|10=>247|n=>n,fun|23=>155|26=>3|3=>3|28=>328|0=>0|27=>327|33=>238|4=>4|n=>n,fun|n=>n⟩
theorem Tryz.keysC:SlLaysZI.n7 prog Tryz.zqd:=by constructor<;>first|kernel_rfl|(intro _;kernel_rfl)|exact zb (by kernel_rfl) (by kernel_rfl)
def Tryz.zqb:Ren:=⟨fun|7=>288|10=>345|n=>n,fun|23=>170|26=>3|3=>4|28=>328|0=>0|27=>327|33=>238|4=>4|n=>n,fun|n=>n⟩
theorem Tryz.keysD:SlLaysZI.n7 prog Tryz.zqb:=by constructor<;>first|kernel_rfl|(intro _;kernel_rfl)|exact zb (by kernel_rfl) (by kernel_rfl)
def Tryz.zqa:Ren:=⟨fun|6=>163|8=>234|9=>235|11=>275|13=>277|12=>276|23=>332|24=>333|14=>323|15=>324|16=>325|17=>326|18=>327|19=>328|20=>329|21=>330|22=>331|25=>363|26=>364|27=>365|28=>366|29=>367|30=>368|31=>398|n=>n,fun|26=>3|28=>328|24=>47|0=>0|3=>3|37=>439|48=>484|50=>441|4=>4|40=>478|39=>477|45=>163|5=>5|9=>9|51=>526|55=>188|57=>548|58=>473|33=>238|n=>n,fun|n=>n⟩
theorem Tryz.sortedA:SlLaysZI.n6 prog Tryz.zqa:=by constructor<;>first|kernel_rfl|(intro _;kernel_rfl)|exact zb (by kernel_rfl) (by kernel_rfl)
def Tryz.zqe:Ren:=⟨fun|5=>235|8=>277|7=>276|19=>332|20=>333|10=>323|11=>324|12=>325|13=>326|14=>327|15=>328|16=>329|17=>330|18=>331|30=>363|31=>364|32=>365|33=>366|34=>367|35=>368|40=>398|n=>n,fun|23=>47|25=>3|3=>3|32=>439|22=>47|0=>0|44=>484|46=>441|4=>4|36=>478|35=>477|41=>163|5=>5|9=>9|53=>526|57=>188|63=>548|64=>473|n=>n,fun|n=>n⟩
theorem Tryz.sortA:SlLaysM.n5 prog Tryz.zqe:=by constructor<;>first|kernel_rfl|(intro _;kernel_rfl)|exact zb (by kernel_rfl) (by kernel_rfl)
end Go.Proofs
