/-
  A part of the proof: Shelf and what follows.
-/
import Derived.Shelf.Strings.OnBuilder
import Derived.Shelf.Strings.Trim
import Derived.Shelf.LaysM
import Derived.Shelf.Strconv.Itoa3
import Derived.Shelf.LaysC
import Derived.Shelf.Strconv.AtoiAll
import Derived.Shelf.Strings.FieldsFuncAny
import Derived.Shelf.Slices.Turned
import Derived.Test.YtpoacbcnhpbdmaaGreatDoorProg
import Derived.WalkKit
import Derived.Deep.DrawnRows
namespace Go.Proofs
open Go.Shelf Tryz
def Tryz.yqf:Ren:=⟨fun|156=>109|165=>174|166=>175|169=>176|240=>239|241=>240|276=>282|277=>283|n=>n,fun|31=>63|9=>9|3=>3|4=>4|0=>0|20=>20|72=>338|76=>340|70=>336|37=>52|75=>32|127=>402|164=>446|5=>5|80=>211|n=>n,fun|n=>n⟩
theorem Tryz.yqj:Lays.n156 prog Tryz.yqf:=by constructor<;>first|kernel_rfl|(intro _;kernel_rfl)
theorem Tryz.yqz:Builder.Extra prog Tryz.yqf:={sizeBuilder:=by kernel_rfl,liesBuilder:=by kernel_rfl,t5:=underlying5,a5:=isAgg5,z5:=sizeOf5,v5:=zeroValue5,infoByte:=by kernel_rfl,cellsByte:=by kernel_rfl,sizeByte:=by kernel_rfl,neB5:=by decide}
open Go.RowKit in
theorem Tryz.strings_Join_none (a:Option Addr) (c:Nat) (sep:ByteArray) (w:World):
 Calls prog 109 #[.slice a 0 c,.string sep] w fun e w'=>e=.returned (.string ⟨#[]⟩)∧w'=w:=Any.strings_Join_none Tryz.yqj Tryz.yqz a c sep w
open Go.RowKit in
theorem Tryz.strings_Join (bk o c:Nat) (xs:List ByteArray) (sep:ByteArray) (w:World) (hcells:∀(j:Nat) x,xs[j]?=some x→w.cell? ⟨bk,o+j,none⟩=some (.string x)) (hbk:bk<w.heap.size) (hN:xs.length≤140737488355328) (hcap:xs.length≤c) (hlen:(Lib.join (xs.map (·.data.toList)) sep.data.toList).length≤140737488355328):
 Calls prog 109 #[.slice (some ⟨bk,o,none⟩) xs.length c,.string sep] w fun e w'=>e=.returned (.string ⟨(Lib.join (xs.map (·.data.toList)) sep.data.toList).toArray⟩)∧Below w.heap.size w w':=Any.strings_Join Tryz.yqj Tryz.yqz bk o c xs sep w hcells hbk hN hcap hlen
def Tryz.yqe:Ren:=⟨fun|161=>128|231=>191|227=>192|233=>193|235=>194|228=>248|197=>249|151=>250|260=>289|152=>290|137=>346|119=>347|224=>348|225=>349|217=>372|266=>399|n=>n,fun|9=>9|4=>4|3=>3|5=>5|117=>362|116=>361|0=>0|124=>365|105=>409|21=>21|119=>496|46=>439|139=>499|138=>498|n=>n,fun|3=>33|4=>34|n=>n⟩
theorem Tryz.yqn:Lays.n161 prog Tryz.yqe:=by constructor<;>first|kernel_rfl|(intro _;kernel_rfl)
open Go.RowKit in
theorem Tryz.strings_TrimLeft_one (s:ByteArray) (c:UInt8) (hc:c.toNat<128) (w:World):
 Calls prog 128 #[.string s,.string ⟨#[c]⟩] w fun e w'=>e=.returned (.string ⟨(Lib.trimLeftB s.data.toList c).toArray⟩)∧w'=w:=Any.strings_TrimLeft_one Tryz.yqn s c hc w
def Tryz.yqb:Ren:=⟨fun|171=>108|243=>173|246=>238|283=>278|284=>279|285=>280|286=>281|129=>333|317=>334|318=>335|319=>336|320=>337|337=>369|338=>370|n=>n,fun|3=>3|9=>9|2=>2|4=>4|171=>440|0=>0|53=>441|37=>52|5=>5|173=>444|212=>486|51=>484|20=>20|213=>487|46=>439|232=>550|233=>551|n=>n,fun|17=>31|18=>35|19=>36|n=>n⟩
theorem Tryz.yqi:LaysM.n171 prog Tryz.yqb:=by repeat' first|kernel_rfl|(intro _;kernel_rfl)|constructor
open Go.RowKit Go.Sort Go.Lib in
theorem Tryz.strconv_Itoa (n:Int) (h0: -9223372036854775808≤n) (h1:n≤9223372036854775807) (w:World) (htab:Lib.TabIs prog w "internal/strconv.uint64pow10" .u64 Lib.pow10Tab):
 Calls prog 108 #[.int .i64 n] w fun e w'=>e=.returned (.string ⟨(Lib.itoa n).toArray⟩)∧∃k os,w'=grow (w.drewN k) os:=Any.strconv_Itoa Tryz.yqi n h0 h1 w htab
def Tryz.yqa:Ren:=⟨fun|172=>308|244=>356|245=>357|247=>392|279=>393|280=>394|281=>395|282=>396|287=>408|316=>409|171=>108|205=>410|321=>413|322=>414|243=>173|246=>238|283=>278|284=>279|285=>280|286=>281|129=>333|317=>334|318=>335|319=>336|320=>337|337=>369|338=>370|n=>n,fun|9=>9|3=>3|75=>32|76=>340|4=>4|5=>5|167=>542|37=>52|0=>0|85=>543|2=>2|168=>545|53=>441|175=>555|46=>439|210=>558|127=>402|145=>565|143=>563|21=>21|171=>440|173=>444|212=>486|51=>484|20=>20|213=>487|232=>550|233=>551|80=>211|n=>n,fun|15=>37|16=>38|17=>31|18=>35|19=>36|n=>n⟩
theorem Tryz.yqh:LaysC.n172 prog Tryz.yqa:=by repeat' first|kernel_rfl|(intro _;kernel_rfl)|constructor
open Go.RowKit in
theorem Tryz.strconv_Atoi_ok (s:ByteArray) (hmax:s.size≤9223372036854775806) (v:Int) (h:Lib.atoiAll s.data.toList=.ok v) (w:World):
 Calls prog 308 #[.string s] w fun e w'=>e=.returned (.tuple #[.int .i64 v,.nilIface])∧(w'=w∨∃t,w'=Lib.bytesWorld w 5 t):=Any.strconv_Atoi_ok Tryz.yqh s hmax v h w
def Tryz.yqc:Ren:=⟨fun|229=>126|n=>n,fun|9=>9|40=>271|31=>63|152=>356|3=>3|0=>0|4=>4|21=>21|154=>358|n=>n,fun|n=>n⟩
theorem Tryz.yqm:Lays.n229 prog Tryz.yqc:=by constructor<;>first|kernel_rfl|(intro _;kernel_rfl)
open Go.RowKit Go.Lib in
theorem Tryz.strings_FieldsFunc (g:Nat) (lb:Array Value) (eg:∀args w,(callFunc g args).run prog w=.ok (.enter g args) w) (p:Nat→Bool) (s:ByteArray) (w:World) (hs:s.size≤4294967296) (hp:PredAt prog g lb encR p w):
 Calls prog 126 #[.string s,.func (.func g) #[] lb] w fun e w'=>∃A,e=.returned (.slice (some ⟨A,0,none⟩) (Lib.goFieldsP p s).length (Lib.goFieldsP p s).length)∧w.heap.size≤A∧
  w'.ownsRow w.heap.size 9 1 (.slice (some ⟨A,0,none⟩) (Lib.goFieldsP p s).length (Lib.goFieldsP p s).length) (Lib.goFieldsP p s).length ((Lib.goFieldsP p s).map Value.string)∧Below w.heap.size w w':=Any.strings_FieldsFunc Tryz.yqm g lb eg p s w hs hp (by kernel_rfl) (by kernel_rfl)
def Tryz.yqg:Ren:=⟨fun|107=>224|108=>270|n=>n,fun|28=>47|3=>3|4=>4|0=>0|n=>n,fun|n=>n⟩
theorem Tryz.yqk:Lays.n107 prog Tryz.yqg:=by constructor<;>first|kernel_rfl|(intro _;kernel_rfl)
open Go.Lib in
theorem Tryz.slices_Contains_int (b off n c:Nat) (zs:List Int) (x:Int) (w:World) (hz:n≤zs.length) (hbig:n≤9223372036854775807) (hc:∀j,j<zs.length→w.cell? ⟨b,off+j,none⟩=some (.int .i64 (zs.getD j 0))):
 Calls prog 224 #[.slice (some ⟨b,off,none⟩) n c,.int .i64 x] w fun e w'=>e=.returned (.bool ((zs.take n).contains x))∧w'=w:=Any.slices_Contains_int Tryz.yqk b off n c zs x w hz hbig hc
end Go.Proofs
