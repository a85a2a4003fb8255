/-
  A part of the proof: Mem and what follows.
-/
import Derived.Test.YtpoacbcnhpbdmaaGreatDoorZA
import Derived.Maps.OwnSet
import Derived.Maps.AppendAt
import Derived.Deep.Draws
import Derived.RowKit
import Derived.Lib.AtoiAll
import Derived.Lib.ItoaNum
import Derived.OwnWalk
import Derived.Laws.IdiomStrings
import Derived.Laws.BytesArg
import Derived.Deep.QuietTactic
import Derived.BigQuiet
import Derived.Lib.LaidTab
import Derived.Lib.AtoiErrMem
import Derived.Lib.AppendIntMem
import Derived.Lib.FieldsP
import Derived.Lib.SpaceUEq
import Derived.Lib.Join
import Derived.Lib.TrimByte
import Derived.Laws.BitsAllLaws
import Derived.Laws.Bits64
import Derived.Laws.AppendOwnNone
import Derived.WalkLawsBesides
import Derived.Laws.EntriesVeiled
import Derived.Deep.Cut
import Derived.Deep.CutRange
import Derived.Deep.RegionWith
import Derived.Deep.AppendLies
import Derived.Deep.DeepCutAuto
import Derived.Maps.OwnOps
import Derived.WideKeyEntry
import Derived.LoopTactic
import Derived.Lib.ItoaLen
import Derived.RegionTactic
set_option linter.all false
set_option maxRecDepth 100000
set_option maxHeartbeats 32000000
open Array renaming ext'→IW,getElem?_eq_none→HI,getElem?_eq_some_iff→ET,toList_modify→IX,toList_push→M1
open Go.RowKit.Below renaming heap_alloc→ER,heap_setCell→B3,refl→Ae
open Bool renaming and_eq_true→EG,or_false→HK,or_true→Ic
open Go.Builtin renaming delete_→UH
open ByteArray renaming data_extract→UE,size→HJ
open Go.ChangeMaps renaming heap_setBlock_same→Ii,modify_eq_set→Nt,setBlock→C1
open Go.DataW renaming held→Gr
open Decidable renaming byContradiction→I0
open Go.Instr renaming entryStore→If,lookup→B1,mapEntry→Ie,mapUpdate→D9
open Go.Lib renaming TabIs→G3,goFieldsP→Oz,itoa→Ei,join→Ea,lens→IZ,pow10Tab→G4
open List renaming append_nil→Ia,cons_append→Ez,eq_nil_of_length_eq_zero→EU,ext_getElem?→H2,flatMap_cons→E2,getElem?_append_left→Ek,getElem?_append_right→EW,getElem?_eq_getElem→An,getElem?_eq_none→EP,getElem?_eq_some_iff→Am,getElem?_map→EK,getElem?_set_ne→Et,getElem?_set_self→El,getElem_mem→H3,intercalate→I1,length→Fu,length_append→Ef,length_singleton→E3,map_append→H0,map_congr_left→IQ,map_cons→G9,map_map→HY,map_nil→Mx,mem_append→Eh,mem_cons→B2,mem_map→EE,mem_of_getElem?→Ap,mem_of_mem_drop→OI,mem_of_mem_take→Im,mem_or_eq_of_mem_set→Ik,nil_append→Es,nodup_append→M2,take_add_one→EO,take_of_length_le→IR
open Go.Lit renaming int→E4
open Go.MapKept renaming run_getObj_map→Ig,run_setObj_map→Ih
open Go.Maps renaming atKey_put_other→M0,atKey_put_same→MY,keyOf_int_mk→HZ
open Nat renaming le_refl→Aa,le_trans→A8,lt_of_lt_of_le→ED,lt_or_ge→ES,mul_add→OF,strongRecOn→IN
open Option renaming map_eq_some_iff→Eo
open Go.Result renaming andThen→FZ
open Go renaming TypeId→Ab,bodyPost_ret→Ao,heap_alloc_new→D4,info_parts→A1,maxLen→Al,results→As,run_underlying→G7,undef→Ac,zeroValue→Ew
open UInt8 renaming ofNat→Ox
open Go.Value renaming int→A0,ownBlock→A5,string→IP
open Go.WalkArith renaming wf_i64→UF
open Go.WideAt renaming IsKeyLit→IS
open Go.WideElems renaming Fit→UI,findIdx_arr→OC,findIdx_born→OD,modify_last→UJ,set_self→UK
open Go.World renaming block_lt_of_cell?→Ad,cell?→G5,cell?_of_block→HH,news_of_block→Ee,ownsMap_made→My,setCell→Gh
open Go.World.ownsRow renaming cellAt→Ow,frozenAt→UD
open Go.Proofs renaming enters_of→Eg
open Go.Value renaming int→I,slice→C,pointer→Q,bool→T
open Go.IntKind renaming i64→J
open Go.Obj renaming cells→K
open Go.Obj renaming cells→H
open Go.Ending renaming returned→R
open Option renaming none→O,some→E
open Go renaming World→U,Value→N
namespace Go.RowKit
theorem Hid.o{p:Prop}(h:Hid p):p:=h
end Go.RowKit
namespace Go.Proofs.YtpoacbcnhpbdmaaGreatDoor
open Go.RowKit Go.Maps Go.Proofs.Tryz
instance : Coe Int Value := ⟨fun n=>.int .i64 n⟩
instance : Coe Nat Addr := ⟨fun b=>⟨b,0,none⟩⟩
instance : Coe (Option Addr) Value := ⟨fun a=>.pointer a⟩
instance : Coe Bool Value := ⟨fun b=>.bool b⟩
instance : Coe Value Ending := ⟨fun v=>.returned v⟩
instance : Coe Unit Value := ⟨fun _=>.int .i64 0⟩
instance : Coe World Nat := ⟨fun w=>w.heap.size⟩
theorem Zb(w:World):Below w.heap.size w w:=Below.refl _ _
theorem Zc(w:World)(o:Obj):Below w.heap.size w (w.alloc o):=(Below.refl _ _).alloc (Nat.le_refl _) o
variable {w W X Y Z:World}{n k g c m i j b a:Nat}{v u z y:Value}{x t:Int}{p:TypeId}{q:List Value}{r:Array Value}{A:Option Addr}
attribute [local go_sem↓] Go.wp_at_zero Go.wp_at_succ
theorem Af{p:Prop}(h:p):Hid p:=h
structure Ay (S:List Nat) (w w':U):Prop where
 os:w'.os=w.os
 tape:w'.tape=w.tape
 output:w'.output=w.output
 size:w.heap.size<=w'.heap.size
 block:∀k,k<w.heap.size->k∉S->w'.heap[k]?=w.heap[k]?
section
variable {S T:List Nat} {a b c w w':World}
theorem Ay.refl(S:List Nat)(w:U):Ay S w w:=⟨rfl,rfl,rfl,Aa _,λ_ _ _=>rfl⟩
theorem Ay.trans(h:Ay S a b)(k:Ay T b c)(i:∀x∈T,x∈S∨a.heap.size<=x):Ay S a c:=
 ⟨k.os.trans h.os,k.tape.trans h.tape,k.output.trans h.output,A8 h.size k.size,λd e g=>
  (k.block d (ED e h.size) (λj=>(i d j).elim g (λl=>by omega))).trans (h.block d e g)⟩
theorem Ay.mono(h:Ay S a b)(e:∀x∈S,x∈T∨a.heap.size<=x):Ay T a b:=
 ⟨h.os,h.tape,h.output,h.size,λd g i=>h.block d g (λj=>(e d j).elim i (λk=>by omega))⟩
theorem Ay.drew(h:Ay S a w):Ay S a w.drew:=⟨h.os,h.tape,h.output,h.size,h.block⟩
theorem Ay.drewN(h:Ay S a w)(n:Nat):Ay S a (w.drewN n):=⟨h.os,h.tape,h.output,h.size,h.block⟩
theorem Ay.alloc(h:Ay S a w)(o:Obj):Ay S a (w.alloc o):=
 ⟨h.os,h.tape,h.output,A8 h.size (by simp),λb d e=>(ER w o b (ED d h.size)).trans (h.block b d e)⟩
theorem Ay.setCell(h:Ay S a w){p:Addr}(b:p.block∈S∨a.heap.size<=p.block)(u:N):Ay S a (w.setCell p u):=
 ⟨h.os,h.tape,h.output,by simpa[Gh] using h.size,λd g e=>(B3 w p u d (by
  rintro rfl;rcases b with b|b
  .exact e b
  .omega)).trans (h.block d g e)⟩
theorem Ay.grown{row:Option Nat}(h:Ay S a w)(b:w.grownBy w' row)(j:∀k,row=E k->k∈S∨a.heap.size<=k):Ay S a w':=
 ⟨b.os.trans h.os,b.tape.trans h.tape,b.output.trans h.output,A8 h.size b.size,λd g i=>
  (b.block d (ED g h.size) (λe=>(j d e.symm).elim i (λl=>by omega))).trans (h.block d g i)⟩
theorem Ay.below_of{B:Nat}(h:Ay S a b)(i:B<=a.heap.size)(e:∀x∈S,B<=x):Below B a b:=
 ⟨h.os,h.tape,h.output,h.size,λd j=>h.block d (by omega) (λg=>by have:=e d g;omega)⟩
theorem Ay.of_below{B:Nat}(h:Below B a b)(e:a.heap.size<=B):Ay S a b:=⟨h.os,h.tape,h.output,h.size,λd g _=>h.block d (by omega)⟩
theorem Ay.cell(h:Ay S a b){p:Addr}{v:N}(d:a.cell? p=v)(e:p.block∉S):b.cell? p=v:=
 (HH (h.block p.block (Ad a p d) e)).trans d
theorem BI{B:Nat}(h:Below B a b)(k:Ay S b c)(d:B<=b.heap.size)(e:∀x∈S,B<=x):Below B a c:=h.trans (k.below_of d e)
end
def Ah(w:U)(g:Nat)(t:Ab)(cs:Array N):Prop:=w.heap[g]?=E (K cs t (0,0))
section
variable {S:List Nat} {w w':World} {g:Nat} {t:TypeId} {cs:Array Value}
theorem Ah.lt(h:Ah w g t cs):g<w.heap.size:=by
 rcases ES g w.heap.size with a|b
 .exact a
 .unfold Ah at h;rw[HI b] at h;cases h
theorem Ah.cell(h:Ah w g t cs)(i:Nat):w.cell? ⟨g,i,O⟩=cs[i]?:=cell_of_row w g i cs t (0,0) h
theorem Ah.frozen(h:Ah w g t cs)(i:Nat):w.frozen? ⟨g,i,O⟩=false:=by
 unfold Ah at h;simp[World.frozen?,h]
theorem Ah.new(w:U)(t:Ab)(cs:Array N):Ah (w.alloc (K cs t)) w t cs:=D4 w _
theorem Ah.drew(h:Ah w g t cs):Ah w.drew g t cs:=h
theorem Ah.drewN(h:Ah w g t cs)(n:Nat):Ah (w.drewN n) g t cs:=h
theorem Ah.alloc(h:Ah w g t cs)(o:Obj):Ah (w.alloc o) g t cs:=(ER w o g h.lt).trans h
theorem Ah.put(h:Ah w g t cs)(i:Nat)(u:N):Ah (w.setCell ⟨g,i,O⟩ u) g t (cs.setIfInBounds i u):=by
 unfold Ah at h|-;simp[Gh,Array.getElem?_modify,h]
theorem Ah.far(h:Ah w g t cs){p:Addr}(a:g≠p.block)(u:N):Ah (w.setCell p u) g t cs:=(B3 w p u g a).trans h
theorem Ah.below{B:Nat}(h:Ah w g t cs)(a:Below B w w')(b:g<B):Ah w' g t cs:=(a.block g b).trans h
theorem Ah.grown{row:Option Nat}(h:Ah w g t cs)(a:w.grownBy w' row)(b:E g≠row):Ah w' g t cs:=(a.block g h.lt b).trans h
theorem Ah.only(h:Ah w g t cs)(a:Ay S w w')(b:g∉S):Ah w' g t cs:=(a.block g h.lt b).trans h
theorem Ah.apart{t':Ab}{r:Array N}(h:Ah w g t cs)(a:Ah w n t' r)(b:t≠t'):g≠n:=by
 rintro rfl;unfold Ah at h a;rw[h] at a;injection a with a;injection a with _ d;exact b d
theorem Ah.apartRow{base:Nat}{e:Ab}{size:Nat}{v:N}{xs:List N}(h:Ah w g t cs)(a:w.ownsRow base e size v n xs)(b:e≠t):v.ownBlock≠E g:=by
 rcases a.2 with ⟨rfl,_⟩|⟨d,k,cur,rfl,_,i,_⟩
 .simp[A5]
 .intro j;have:d=g:=by simpa[A5] using j
  subst this;exact Ah.apart (t:=e) i h b rfl
end
section
variable {S:List Nat} {w w':World} {base:Nat} {e:TypeId} {size n:Nat} {v:Value} {xs:List Value}
theorem BJ(h:w.ownsRow base e size v n xs)(b:Ay S w w')(d:∀g,v.ownBlock=E g->g∉S):w'.ownsRow base e size v n xs:=by
 refine⟨h.1,?_⟩;rcases h.2 with i|⟨g,j,cur,rfl,k,a,l⟩
 .exact .inl i
 .exact .inr ⟨g,j,cur,rfl,k,(b.block g (ET.1 a).1 (d g rfl)).trans a,l⟩
theorem Ak(h:w.ownsRow base e size v n xs){p:Addr}(a:v.ownBlock≠E p.block)(u:N):(w.setCell p u).ownsRow base e size v n xs:=by
 refine⟨h.1,?_⟩;rcases h.2 with b|⟨g,d,cur,rfl,i,j,k⟩
 .exact .inl b
 .refine .inr ⟨g,d,cur,rfl,i,(B3 w p u g (λe=>a (by simp[A5,e]))).trans j,k⟩
theorem G0(h:w.ownsRow base e size v n xs)(k:Nat):(w.drewN k).ownsRow base e size v n xs:=h
theorem Mn(h:w.ownsRow base e 1 v n xs):(v=C O 0 0/\n=0/\xs=[])∨(∃g b,v=C (E ⟨g,0,O⟩) n b/\n<=b/\b<=Al/\xs.length=n/\g<w.heap.size/\
 (∀a,a<n->w.cell? ⟨g,a,O⟩=xs[a]?)/\(∀a,w.frozen? ⟨g,a,O⟩=false)):=by
 have d:xs.length=n:=by simpa using h.1
 rcases h.2 with ⟨rfl,rfl⟩|⟨g,b,cur,rfl,l,i,j,k,m,o⟩
 .exact .inl ⟨rfl,rfl,EU d⟩
 .refine .inr ⟨g,b,rfl,j,k,d,(ET.1 i).1,λa p=>?_,λa=>?_⟩
  .exact Ow h a (by omega)
  .exact UD h a
theorem Aw{base':Nat}(h:w.ownsRow base e size v n xs)(a:base'<=base):w.ownsRow base' e size v n xs:=by
 refine⟨h.1,?_⟩;rcases h.2 with b|⟨g,d,cur,rfl,i,j⟩
 .exact .inl b
 .exact .inr ⟨g,d,cur,rfl,A8 a i,j⟩
theorem Ag(h:w.ownsRow base e size v n xs):∃b a,v=C b n a:=by
 rcases h.2 with ⟨rfl,rfl⟩|⟨g,a,cur,rfl,_⟩
 .exact⟨O,0,rfl⟩
 .exact⟨_,_,rfl⟩
theorem Ai(h:w.ownsRow base e size v n xs)(a:v.ownBlock=g):base<=g/\g<w.heap.size:=h.lt g a
theorem VK{H:Type}{P:Program}{k:Ab}{R:N->Option (DataW H×List MemPlace)}{D:DataW H}(h:w.ownsMap P k R b m D)(a:Ay S w w')(d:b∉S):w'.ownsMap P k R b m D:=by
 have e:=h.lt;obtain⟨g,i,j,l,n,o⟩:=h;exact⟨g,i,(a.block b e d).trans j,l,n,o⟩
end
namespace W
open Go.Lib
theorem Df{x:Nat}(h:x<256):(Ox x).toNat=x:=by
 rw[UInt8.toNat_ofNat'];omega
theorem SR(u:Nat):∀(r:List UInt8),u<18446744073709551616->parseUint10 0 (decDigits u++r)=parseUint10 u r:=by
 induction u using IN with
 |_ u a=>
  intro r b;by_cases h:u<10
  .rw[decDigits,dif_pos h];simp only[Ez,Es,parseUint10,Df (show 48+u<256 by omega)];rw[if_pos (by omega),if_neg (by omega),if_neg (by omega)]
   congr 1
   omega
  .rw[decDigits,dif_neg h,List.append_assoc,a (u/10) (by omega) _ (by omega)];simp only[Ez,Es,parseUint10,Df (show 48+u%10<256 by omega)];rw[if_pos (by omega),if_neg (by omega),if_neg (by omega)]
   congr 1
   omega
theorem NX(u:Nat):∃c a,decDigits u=c::a/\48<=c.toNat/\c.toNat<=57:=by
 induction u using IN with
 |_ u b=>
  by_cases h:u<10
  .refine⟨_,[],by rw[decDigits,dif_pos h],?_⟩;rw[Df (by omega)];omega
  .let⟨c,a,d,e⟩:=b (u/10) (by omega);refine⟨c,a++[Ox (48+u%10)],?_,e⟩;rw[decDigits,dif_neg h,d];rfl
theorem RL(u:Nat)(h:u<18446744073709551616):parseMag (decDigits u)=.ok u:=by
 let⟨c,d,b,_⟩:=NX u;have a:=SR u [] h;rw[Ia] at a;unfold parseMag;rw[if_neg (by rw[b];simp),a];rfl
theorem JV(n:Int)(g: -9223372036854775808<=n)(i:n<=9223372036854775807):atoiAll (itoa n)=.ok n:=by
 unfold itoa;by_cases h:n<0
 .rw[if_pos h];unfold atoiAll;simp only[show(45:UInt8).toNat=45 from rfl,or_true,if_true,RL n.natAbs (by omega),not_true,false_and,if_false,true_and];rw[if_neg (by omega)]
  congr 1
  omega
 .rw[if_neg h];let⟨c,j,b,k,l⟩:=NX n.toNat;have a:=RL n.toNat (by omega);rw[b] at a|-;unfold atoiAll;have d:¬c.toNat=43:=by omega
  have e:¬c.toNat=45:=by omega
  simp only[d,e,or_self,if_false,a,not_false_eq_true,true_and,false_and];rw[if_neg (by omega)]
  congr 1
  omega
theorem GA{n m:Int}(b: -9223372036854775808<=n/\n<=9223372036854775807)(d: -9223372036854775808<=m/\m<=9223372036854775807)(h:itoa n=itoa m):n=m:=by
 have a:=JV n b.1 b.2;rw[h,JV m d.1 d.2] at a;injection a with a;exact a.symm
def number(l:List UInt8):Option Int:=
 match atoiAll l with
 |.ok a=>if-1000000000<=a/\a<=1000000000/\itoa a=l then E a else O
 |_=>O
theorem M3{l:List UInt8}{v:Int}(h:number l=v):itoa v=l/\-1000000000<=v/\v<=1000000000:=by
 unfold number at h
 split at h
 .split at h
  .rename_i a;injection h with h;subst h;exact⟨a.2.2,a.1,a.2.1⟩
  .cases h
 .cases h
end W
open W
open W
theorem AdP:(prog.info? 5).map (λa=>(a.zero,a.size,a.bytes))=E (E (.int .u8 0),1,1):=by kernel_rfl
theorem RM:(prog.info? 9).map (λa=>(a.zero,a.size,a.bytes))=E (E (.string .empty),1,16):=by kernel_rfl
def bys(l:List UInt8):List N:=l.map λa=>A0 .u8 (a.toNat:Int)
theorem G6(l:List UInt8):(bys l).length=l.length:=by simp[bys]
def BU(w:U)(v:N)(xs:List N):Prop:=
 ∃(a:Option Addr) (c b d:Nat),v=C a xs.length c/\(a=O->xs.length=0/\c=0)/\(∀e,a=E e->0<xs.length->e=⟨b,d,O⟩)/\xs.length<=c/\∀g i,xs[g]?=E i->w.cell? ⟨b,d+g,O⟩=E i
theorem BU.below{w w':U}{v:N}{xs:List N}(h:BU w v xs){B:Nat}(g:Below B w w')(r:w.heap.size<=B):BU w' v xs:=by
 obtain⟨i,c,a,b,j,k,l,m,n⟩:=h;refine⟨i,c,a,b,j,k,l,m,λd o q=>?_⟩;have e:=n d o q;have t:a<w.heap.size:=Ad w _ e;exact(g.cell (p:=⟨a,b+d,O⟩) (show a<B by omega)).trans e
theorem BU.nil(w:U):BU w (C O 0 0) []:=⟨O,0,0,0,rfl,λ_=>⟨rfl,rfl⟩,by simp,Aa _,by simp⟩
theorem BC{w:U}{base e:Nat}{v:N}{xs:List N}(h:w.ownsRow base e 1 v n xs):BU w v xs:=by
 rcases Mn h with ⟨rfl,rfl,rfl⟩|⟨b,i,rfl,l,_,j,_,k,_⟩
 .exact BU.nil w
 .refine⟨E b,i,b,0,by rw[j],by simp,λm a _=>by injection a with a;exact a.symm,by omega,λd o g=>?_⟩;have p:d<xs.length:=(Am.1 g).1;rw[Nat.zero_add,k d (by omega),g]
theorem Qr{w:U}{v:N}{l:List UInt8}(h:BU w v (bys l)):(convert 52 9 v).run prog w=.ok (.string ⟨l.toArray⟩) w:=by
 obtain⟨b,c,m,n,rfl,d,e,o,g⟩:=h
 cases b with
 |none=>
  obtain⟨i,rfl⟩:=d rfl;obtain rfl:l=[]:=EU (by simpa[G6] using i);exact run_convert_bytes_nil w _ _ underlying52 underlying5 _ _ _ underlying9
 |some a=>
  rw[G6];refine run_convert_bytes_back w _ _ _ a c l underlying52 underlying5 underlying9 (λj k=>?_);rw[e a rfl (by rw[G6];omega),Addr.add_lit];exact g j _ (by simp[bys,An k])
structure Qs (w:U):Prop where
 errs:∀g,g∈([]:List Nat)
  ++[2]
  ++[4]
  ++[29]
  ++[37]
  ++[38]
  ->∃a,w.cell? ⟨g,0,O⟩=E (.iface 563 (Q (E a)))
 tab:G3 prog w "internal/strconv.uint64pow10" .u64 G4
theorem Qs.size{w:U}(h:Qs w):∀g,g∈([]:List Nat)
 ++[2]
 ++[4]
 ++[29]
 ++[37]
 ++[38]
 ->g<w.heap.size:=by
 intro g a;obtain⟨d,b⟩:=h.errs g a;exact Ad w _ b
theorem AdQ:prog.globalNamed "internal/strconv.uint64pow10"=E 31:=by kernel_rfl
theorem JW{w w':U}(h:G3 prog w "internal/strconv.uint64pow10" .u64 G4)(b:Below w w w'):G3 prog w' "internal/strconv.uint64pow10" .u64 G4:=by
 unfold G3 World.var? at h|-;rw[AdQ] at h|-;simp only[Option.bind_some] at h|-
 have d:31<w.heap.size:=by
  rcases ES 31 w.heap.size with a|a
  .exact a
  .rw[HI a] at h;cases h
 rw[b.block _ d];exact h
theorem Qs.below{w w':U}(h:Qs w)(b:Below w w w'):Qs w':=
 ⟨λa d=>by
  obtain⟨e,g⟩:=h.errs a d;exact⟨e,(b.cell (p:=a) (h.size a d)).trans g⟩,JW h.tab b⟩
def BH(l:List UInt8):N:=.string ⟨l.toArray⟩
theorem VL(s:ByteArray):IP s=BH s.data.toList:=by simp[BH]
theorem Zq(l:List UInt8)(g:l.length<=1000000000)(v:Int)(h:Lib.atoiAll l=.ok v)(w:U):
 Calls prog 308 #[.string ⟨l.toArray⟩] w λa b=>a=R (.tuple #[v,.nilIface])/\Below w w b:=
 (Tryz.strconv_Atoi_ok ⟨l.toArray⟩ (by simp[HJ];omega) v (by simpa using h) w).mono λa b ⟨d,e⟩=>⟨d,by
  rcases e with rfl|⟨i,rfl⟩
  .exact Ae _ _
  .exact Lib.bytesWorld_below _ _ _⟩
namespace W
open Go.Lib
def wl:List UInt8->List UInt8->List (List UInt8)
 |cur,[]=>if cur=[] then [] else [cur]
 |cur,c::a=>if c=32 then(if cur=[] then wl [] a else cur::wl [] a) else wl (cur++[c]) a
def words(l:List UInt8):List (List UInt8):=wl [] l
def ll:List UInt8->List UInt8->List (List UInt8)
 |cur,[]=>if cur=[] then [] else [cur]
 |cur,c::a=>if c=10 then cur::ll [] a else ll (cur++[c]) a
def Cd(l:List UInt8):List (List UInt8):=ll [] l
theorem RN:∀(k:Nat) (cur l:List UInt8),k<=l.length->(∀a,a<k->l.getD a 0≠32)->wl cur l=wl (cur++l.take k) (l.drop k)
 |0,cur,l,_,_=>by simp
 |k+1,cur,[],h,_=>by simp at h
 |k+1,cur,c::d,h,b=>by
  have e:c≠32:=by have:=b 0 (by omega);simpa using this
  rw[wl,if_neg e,RN k (cur++[c]) d (by simpa using h) (λa g=>by have:=b (a+1) (by omega);simpa using this)];simp
theorem Js(n a b d e:Nat):((decodeN n a b d e).1=32->a=32/\(decodeN n a b d e).2=1)/\((decodeN n a b d e).1≠32->a≠32):=by
 unfold decodeN
 repeat' split
 all_goals first|(simp;done)|(simp;omega)|(simp only[ne_eq];omega)
theorem M4(l:List UInt8)(a:Nat)(u:a<l.length)(d:Nat×Nat)(k:d=decodeN (l.length-a) (l.getD a 0).toNat (l.getD (a+1) 0).toNat (l.getD (a+2) 0).toNat (l.getD (a+3) 0).toNat)(h:d.1≠32):
 a+d.2<=l.length/\∀b,b<d.2->(l.drop a).getD b 0≠32:=by
 have g:=(Js (l.length-a) (l.getD a 0).toNat (l.getD (a+1) 0).toNat (l.getD (a+2) 0).toNat (l.getD (a+3) 0).toNat).2;have m:=decodeN_le_n' (l.length-a) (l.getD a 0).toNat (l.getD (a+1) 0).toNat (l.getD (a+2) 0).toNat (l.getD (a+3) 0).toNat (by omega);have i:=decodeN_conts (l.length-a) (l.getD a 0).toNat (l.getD (a+1) 0).toNat (l.getD (a+2) 0).toNat (l.getD (a+3) 0).toNat;rw[<-k] at g m i;obtain⟨n,o,p,v⟩:=i;have j:=g h;refine⟨by omega,λb w e=>?_⟩;rw[getD_dropU] at e;rcases ES b 1 with q|q
 .obtain rfl:b=0:=by omega
  rw[Nat.add_zero] at e;rw[e] at j;exact j rfl
 .rcases ES b 2 with r|r
  .obtain rfl:b=1:=by omega
   have:=(n (by omega)).1;rw[e] at this;exact absurd this (by decide)
  .rcases ES b 3 with t|t
   .obtain rfl:b=2:=by omega
    have:=(o (by omega)).1;rw[e] at this;exact absurd this (by decide)
   .obtain rfl:b=3:=by omega
    have:=(p (by omega)).1;rw[e] at this;exact absurd this (by decide)
def Qt(x:Nat):Bool:=decide (x=32)
theorem Ht(s:ByteArray)(a b:Nat):(s.extract a b).data.toList=pieceU s.data.toList a b:=by
 unfold pieceU;simp[UE,Array.toList_extract,List.extract]
theorem NY(s:ByteArray):∀(f a:Nat) (st:Option Nat) (d:List (Nat×Nat)),s.size<=a+f->a<=s.size->(∀b,st=E b->b<a)->
 (closeSpans s (spansFromP Qt s f a st d)).map (λe=>pieceU s.data.toList e.1 e.2)=d.map (λe=>pieceU s.data.toList e.1 e.2)++wl (openPiece s.data.toList st a) (s.data.toList.drop a):=by
 have B:s.data.toList.length=s.size:=by simp
 have n:∀(a:Nat) (st:Option Nat) (d:List (Nat×Nat)),a=s.size->(∀b,st=E b->b<a)->
  (closeSpans s (d,st)).map (λe=>pieceU s.data.toList e.1 e.2)=d.map (λe=>pieceU s.data.toList e.1 e.2)++wl (openPiece s.data.toList st a) (s.data.toList.drop a):=by
  rintro a st d rfl t;rw[List.drop_of_length_le (by omega)]
  cases st with
  |none=>simp[closeSpans,openPiece,wl]
  |some b=>
   have:=pieceU_ne s.data.toList b s.size (t b rfl) (by omega);simp[closeSpans,openPiece,wl,this]
 intro f
 induction f with
 |zero=>
  intro a st d u v i;exact n a st d (by omega) i
 |succ f j=>
  intro a st d u v i;by_cases o:a<s.size
  .simp only[spansFromP,o,if_true];have p:=decode_N s a;generalize w:Utf8.decode s a=g at*;have D:1<=g.2:=by rw[<-w];exact width_pos s a
   by_cases k:g.1=32
   .have q:=(Js (s.data.toList.length-a) (s.data.toList.getD a 0).toNat (s.data.toList.getD (a+1) 0).toNat (s.data.toList.getD (a+2) 0).toNat (s.data.toList.getD (a+3) 0).toNat).1;rw[<-p] at q;let⟨x,y⟩:=q k;have l:Qt g.1=true:=by simp[Qt,k]
    have r:s.data.toList.drop a=(32:UInt8)::s.data.toList.drop (a+1):=by
     rw[List.drop_eq_getElem_cons (by omega)]
     congr 1
     have:(s.data.toList.getD a 0)=s.data.toList[a]'(by omega):=by simp[List.getD,An (show a<s.data.toList.length by omega)]
     rw[<-this];exact UInt8.toNat_inj.1 x
    rw[l,y];simp only[if_true]
    cases st with
    |none=>
     rw[j (a+1) O d (by omega) (by omega) (by simp),r];simp[openPiece,wl]
    |some b=>
     have z:=pieceU_ne s.data.toList b a (i b rfl) (by omega);simp only[];rw[j (a+1) O _ (by omega) (by omega) (by simp),r];simp[openPiece,wl,z]
   .have l:Qt g.1=false:=by simp[Qt,k]
    let⟨F,A⟩:=M4 s.data.toList a (by omega) g p k;rw[l];simp only[Bool.false_eq_true,if_false];rw[RN g.2 _ (s.data.toList.drop a) (by rw[List.length_drop];omega) A,List.drop_drop]
    cases st with
    |none=>
     simp only[];rw[j (a+g.2) (E a) d (by omega) (by omega) (by intro b m;cases m;omega)];simp only[openPiece,Es]
     congr 2
     unfold pieceU
     congr 1
     omega
    |some b=>
     simp only[];rw[j (a+g.2) (E b) d (by omega) (by omega) (by intro G m;cases m;have:=i b rfl;omega)];simp only[openPiece];rw[pieceU_grow _ _ _ _ (by have:=i b rfl;omega)]
  .rw[spansFromP_end _ _ _ _ _ _ o];exact n a st d (by omega) i
theorem M5(s:ByteArray):(goFieldsP Qt s).map (λa=>a.data.toList)=words s.data.toList:=by
 have h:=NY s s.size 0 O [] (by omega) (by omega) (by simp);simp only[Mx,Es,openPiece,List.drop_zero] at h;unfold goFieldsP spansOfP words;rw[HY,<-h];apply IQ;intro a _;exact Ht s a.1 a.2
end W
open W
def txs(l:List (List UInt8)):List N:=l.map BH
theorem Lc(a b:List (List UInt8)):txs (a++b)=txs a++txs b:=by simp[txs]
theorem KP(l:List (List UInt8)):(txs l).length=l.length:=by simp[txs]
theorem Qu(w:U):PredAt prog 127 #[] encR Qt w:=λe a _=>by
 unfold FnGives;by_cases h:a=32
 .have b:Qt a=true:=by simp[Qt,h]
  rw[b];have d:((a:Int)==32)=true:=by simp;omega
  go_in;go_wp2;go_ret;exact⟨rfl,0,rfl⟩
 .have b:Qt a=false:=by simp[Qt,h]
  rw[b];have d:((a:Int)==32)=false:=by simp;omega
  go_in;go_wp2;go_ret;exact⟨rfl,0,rfl⟩
theorem Jt(l:List UInt8):(Oz Qt ⟨l.toArray⟩).map IP=txs (words l)/\(Oz Qt ⟨l.toArray⟩).length=(words l).length:=by
 have h:=M5 ⟨l.toArray⟩;simp only at h;refine⟨?_,by rw[<-h];simp⟩;unfold txs;rw[<-h,HY];apply IQ;intro a _;exact VL a
theorem FC(l:List UInt8)(g:l.length<=1000000000)(w:U):
 Calls prog 73 #[.string ⟨l.toArray⟩] w λb d=>∃a,b=R (C (E ⟨a,0,O⟩) (words l).length (words l).length)/\w.heap.size<=a/\
  d.ownsRow w 9 1 (C a (words l).length (words l).length) (words l).length (txs (words l))/\Below w w d:=by
 have hF:=Af<|Tryz.strings_FieldsFunc 127 #[] (Eg func127 (by kernel_rfl) rfl) Qt ⟨l.toArray⟩ w (by simp[HJ];omega) (Qu w);rw[(Jt l).1,(Jt l).2] at hF;generalize words l=i at*;go_in;go_wp2_with fail;refine hF.o.mono ?_;rintro b j ⟨a,rfl,e⟩;have H:=Af e;go_wp2;go_ret;exact⟨a,rfl,H⟩
theorem Ju(v:N)(ws:List (List UInt8))(w:U)(n:BU w v (txs ws))(W:ws.length<=1000000000)(y:(Ea ws [32]).length<=1000000000):
 Calls prog 68 #[v] w λb e=>b=R (.string ⟨(Ea ws [32]).toArray⟩)/\Below w w e:=by
 have d:Calls prog 109 #[v,.string ⟨#[32]⟩] w λb e=>b=R (.string ⟨(Ea ws [32]).toArray⟩)/\Below w w e:=by
  obtain⟨l,c,i,m,rfl,o,p,q,z⟩:=n;rw[KP] at o p q|-;rcases Nat.eq_zero_or_pos ws.length with j|j
  .obtain rfl:ws=[]:=EU j;exact(Tryz.strings_Join_none l c ⟨#[32]⟩ w).mono λb e ⟨A,B⟩=>⟨A,B▸Ae _ _⟩
  .have D:l=E ⟨i,m,O⟩:=by
    cases l with
    |none=>have:=(o rfl).1;omega
    |some a=>rw[p a rfl j]
   subst D;have r:(ws.map λa=>(⟨a.toArray⟩:ByteArray)).map (·.data.toList)=ws:=by rw[HY];exact(IQ (g:=id) λa _=>rfl).trans (List.map_id _)
   have t:∀(k:Nat) a,(ws.map λa=>(⟨a.toArray⟩:ByteArray))[k]?=E a->w.cell? ⟨i,m+k,O⟩=E (.string a):=by
    intro k a u;refine z k _ ?_;rw[EK] at u;obtain⟨X,F,rfl⟩:=Eo.1 u;simp[txs,BH,F]
   have G:i<w.heap.size:=by
    have L:=t 0 ⟨ws[0].toArray⟩ (by simp[An j]);exact Ad w _ L
   have d:=Tryz.strings_Join i m c (ws.map λa=>(⟨a.toArray⟩:ByteArray)) ⟨#[32]⟩ w t G (by simp;omega) (by simpa using q) (by rw[r];exact A8 y (by omega));rw[r] at d;simpa using d
 have M:=Af d;generalize Ea ws [32]=Y at*;go_in;go_wp2_with fail;refine M.o.mono ?_;rintro b Z ⟨rfl,x⟩;have S:=Af x;go_wp2;go_ret;exact⟨rfl,S⟩
def Qv(l:List UInt8):Bool:=match l.dropWhile (· ==32) with|[]=>true|c::_=>c==35
theorem Jc(l:List UInt8)(i:l.length<=1000000000)(w:U):
 Calls prog 74 #[.string ⟨l.toArray⟩] w λa b=>a=R (Qv l)/\w=b:=by
 have d:=Af<|(Tryz.strings_TrimLeft_one ⟨l.toArray⟩ 32 (by decide) w).mono (R':=λa b=>a=R (.string ⟨(l.dropWhile (· ==32)).toArray⟩)/\w=b) (λa b ⟨j,k⟩=>⟨by simpa[Lib.trimLeftB] using j,k.symm⟩);unfold Qv;have n:(l.dropWhile (· ==32)).length<=1000000000:=A8 (List.dropWhile_sublist _).length_le i;generalize l.dropWhile (· ==32)=e at*
 cases e with
 |nil=>
  go_in;go_wp2_with fail;refine d.o.mono ?_;rintro a m ⟨rfl,rfl⟩;go_wp2;go_ret;exact⟨rfl,rfl⟩
 |cons c e=>
  have g:(c==35)=((c.toNat:Int)==35):=by
   rw[Bool.eq_iff_iff,beq_iff_eq,beq_iff_eq];constructor
   .rintro rfl;rfl
   .intro h;exact UInt8.toNat_inj.1 (by show c.toNat=35;omega)
  simp only[g];go_in;go_wp2_with fail;refine d.o.mono ?_;rintro a m ⟨rfl,rfl⟩;go_wp2;go_ret;exact⟨rfl,rfl⟩
theorem SS{d:Type}{a b:List d}{x:d}(h:a.take k=b.take k)(e:a[k]?=x)(g:b[k]?=x):a.take (k+1)=b.take (k+1):=by
 rw[EO,EO,h,e,g]
theorem NZ{e:Type}{a b:List e}{x y:e}(g:a[k]?=x)(d:b[k]?=y)(i:x≠y):a≠b:=by
 rintro rfl;rw[g] at d;injection d with d;exact i d
theorem SU(A v2:N)(a b:List (List UInt8))(w:U)(Z:BU w A (txs a))(aa:BU w v2 (txs b))(ah:a.length<=1000000000)(ai:b.length<=1000000000):
 Calls prog 15 #[A,v2] w λab ac=>ab=R (T (decide (a=b)))/\∃l,ac=w.drewN l:=by
 obtain⟨B,aj,D,F,rfl,m,e,ad,p⟩:=Z;obtain⟨G,ak,L,M,rfl,n,g,ae,q⟩:=aa;rw[KP] at m e ad n g ae|-;rw[KP];by_cases r:a.length=b.length
 .have af:((a.length:Int) !=(b.length:Int))=false:=by simp;omega
  have t:=Af<|And.intro p (And.intro m e);have u:=Af<|And.intro q (And.intro n g);have al:a.length<=b.length:=by omega
  have am:b.length<=a.length:=by omega
  go_in;go_wp2
  go_loopw [5] (λv wr=>∃d l:Nat,v=I J d/\d<=a.length/\a.take d=b.take d/\wr=w.drewN l) (λv _=>a.length-(intOf v).toNat)
  case atStart=>exact⟨0,0,rfl,Nat.zero_le _,by simp,rfl⟩
  case round=>
   obtain⟨d,l,rfl,an,S,rfl⟩:=hrel;have W:=Af S;by_cases ag:d<a.length
   .obtain⟨i,x⟩:∃i,a[d]?=E i:=⟨a[d],An ag⟩;obtain⟨j,y⟩:∃j,b[d]?=E j:=⟨b[d],An (by omega)⟩
    have e:B=E ⟨D,F,O⟩:=by
     cases B with
     |none=>have:=(t.o.2.1 rfl).1;omega
     |some z=>rw[t.o.2.2 z rfl (by omega)]
    have g:G=E ⟨L,M,O⟩:=by
     cases G with
     |none=>have:=(u.o.2.1 rfl).1;omega
     |some z=>rw[u.o.2.2 z rfl (by omega)]
    subst e g;have ao:w.cell? ⟨D,F+d,O⟩=E (.string ⟨i.toArray⟩):=t.o.1 d _ (by simp[txs,BH,x]);have ap:w.cell? ⟨L,M+d,O⟩=E (.string ⟨j.toArray⟩):=u.o.1 d _ (by simp[txs,BH,y]);have X:=Af x;have Y:=Af y;by_cases o:i=j
    .subst o;go_wp2;go_quiet (fail);go_wp2
     go_roundw
     case rel=>exact⟨d+1,_,by go_num,by omega,SS W.o X.o Y.o,rfl⟩
     case measure=>simp[intOf]<;>omega
    .have aq:(i==j)=false:=by simpa using o
     have k:=Af (show decide (a=b)=false by simpa using NZ X.o Y.o o);go_wp2;go_quiet (fail);go_wp2;go_ret;exact⟨by rw[k.o];rfl,_,rfl⟩
   .have k:=Af (show decide (a=b)=true by
     have h:=W.o;rw[IR (by omega),IR (by omega)] at h;simpa using h)
    go_wp2;go_ret;exact⟨by rw[k.o];rfl,_,rfl⟩
 .have af:((a.length:Int) !=(b.length:Int))=true:=by simp;omega
  have k:=Af (show decide (a=b)=false by simp;rintro rfl;exact r rfl);go_in;go_wp2;go_ret;exact⟨by rw[k.o];rfl,0,rfl⟩
namespace W
end W
theorem GB{B:Nat}{w a b:U}{o:Obj}(h:Below B w a)(d:B<=a.heap.size)(e:Below (a.alloc o).heap.size (a.alloc o) b):Below B w b:=
 (h.alloc d o).trans (e.mono (by simp;omega))
theorem BU.shape{w:U}{v:N}{xs:List N}(h:BU w v xs):∃a c,v=C a xs.length c:=by
 obtain⟨a,c,_,_,h,_⟩:=h;exact⟨a,c,h⟩
def tabs:Nat->List (List UInt8)
 |1=>[[114,101,103,105,115,116,101,114],[99,111,117,110,116,101,114],[113,117,101,117,101],[109,97,112]]
 |2=>[[98,101,103,105,110],[99,97,108,108],[114,101,116,117,114,110],[116,114,121],[99,111,109,109,105,116],[97,98,111,114,116],[99,97,110,99,101,108]]
 |3=>[[114,101,97,100],[119,114,105,116,101],[97,100,100],[103,101,116],[101,110,113],[100,101,113],[112,117,116],[108,111,111,107],[100,101,108]]
 |4=>[[111,107],[110,111,110,101],[118,97,108]]
 |5=>[[108,105,118,101],[112,101,110,100,105,110,103],[99,111,109,109,105,116,116,101,100],[97,98,111,114,116,101,100]]
 |6=>[[115,101,114,105,97,108],[115,116,114,105,99,116],[102,105,110,97,108],[111,112,97,113,117,101]]
 |_=>[]
def Cm(t:Int):List (List UInt8):=tabs t.toNat
def AT(t c:Int):List UInt8:=if 1<=c then((Cm t)[(c-1).toNat]?).getD [] else []
def AdR:Nat->Nat
 |1=>17
 |2=>18
 |3=>19
 |4=>20
 |5=>21
 |6=>22
 |_=>0
structure AE (w:U):Prop where
 tab:G3 prog w "internal/strconv.uint64pow10" .u64 G4
 errs:∀g,g∈([]:List Nat)
  ++[14]
  ++[15]
  ++[12]
  ++[11]
  ++[9]
  ++[3]
  ++[10]
  ++[25]
  ++[26]
  ++[16]
  ++[24]
  ++[27]
  ++[1]
  ++[6]
  ++[5]
  ++[0]
  ++[28]
  ++[4]
  ++[8]
  ++[13]
  ++[7]
  ->∃a,w.cell? ⟨g,0,O⟩=E (.iface 563 (Q (E a)))
 tabs:∀(t:Nat) (j:Nat) x,(tabs t)[j]?=E x->w.cell? ⟨AdR t,j,O⟩=E (BH x)
theorem AE.below{w w':U}(h:AE w)(a:Below w.heap.size w w'):AE w':=
 ⟨JW h.tab a,λe k=>by
  obtain⟨l,g⟩:=h.errs e k;exact⟨l,(a.cell (p:=e) (Ad w _ g)).trans g⟩,λb d i j=>(a.cell (p:=⟨AdR b,d,O⟩) (Ad w _ (h.tabs b d i j))).trans (h.tabs b d i j)⟩
theorem Ld(t:Int):(Cm t=[]/\t≠1/\t≠2/\t≠3/\t≠4/\t≠5/\t≠6)∨t=1∨t=2∨t=3∨t=4∨t=5∨t=6:=by
 by_cases h:t=1∨t=2∨t=3∨t=4∨t=5∨t=6
 .exact .inr h
 .refine .inl ⟨?_,by omega,by omega,by omega,by omega,by omega,by omega⟩;unfold Cm;have a:t.toNat=0∨7<=t.toNat:=by omega
  rcases a with d|e
  .rw[d];rfl
  .obtain⟨b,a⟩:∃b,t.toNat=b+7:=⟨t.toNat-7,by omega⟩;rw[a];rfl
theorem G8(i n:Int)(f:N)(w:U)(h:i<0∨n<=i):
 Calls prog 166 #[i,n,f] w λb d=>b=R (.tuple #[.string ⟨#[]⟩,n])/\w=d:=by
 by_cases a:i<0
 .have e:decide (i<0)=true:=by simpa using a
  go_in;go_wp2;go_ret2;exact⟨rfl,rfl⟩
 .have e:decide (i<0)=false:=by simpa using a
  have g:decide (n<=i)=true:=by simp;omega
  go_in;go_wp2;go_ret2;exact⟨rfl,rfl⟩
theorem JX(i n:Int)(a:FuncId)(b:Array N)(s:N)(w:U)(g:0<=i)(j:i<n)(l:∀W,(callFunc a b).run prog W=.ok (.enter a b) W)(hF:Calls prog a b w λd e=>d=s/\w=e):
 Calls prog 166 #[i,n,.func (.func a) #[] b] w λd e=>d=R (.tuple #[s,n])/\w=e:=by
 have m:decide (i<0)=false:=by simpa using g
 have o:decide (n<=i)=false:=by simpa using j
 have k:=Af hF;go_in;go_wp2_with fail;refine k.o.mono ?_;rintro d e ⟨rfl,rfl⟩;go_wp2;go_ret2;exact⟨rfl,rfl⟩
theorem AdS(i:Nat)(a:Nat)(s:N)(w:U)(e:i<4)(g:w.cell? ⟨a,0,O⟩=E (I J i))(j:w.cell? ⟨17,i,O⟩=E s):
 Calls prog 167 #[Q (E ⟨a,0,O⟩)] w λb d=>b=R s/\w=d:=by
 go_in;go_wp2;go_ret;exact⟨rfl,rfl⟩
theorem AdT(i:Nat)(a:Nat)(s:N)(w:U)(e:i<7)(g:w.cell? ⟨a,0,O⟩=E (I J i))(j:w.cell? ⟨18,i,O⟩=E s):
 Calls prog 168 #[Q (E ⟨a,0,O⟩)] w λb d=>b=R s/\w=d:=by
 go_in;go_wp2;go_ret;exact⟨rfl,rfl⟩
theorem AdU(i:Nat)(a:Nat)(s:N)(w:U)(e:i<9)(g:w.cell? ⟨a,0,O⟩=E (I J i))(j:w.cell? ⟨19,i,O⟩=E s):
 Calls prog 169 #[Q (E ⟨a,0,O⟩)] w λb d=>b=R s/\w=d:=by
 go_in;go_wp2;go_ret;exact⟨rfl,rfl⟩
theorem AdV(i:Nat)(a:Nat)(s:N)(w:U)(e:i<3)(g:w.cell? ⟨a,0,O⟩=E (I J i))(j:w.cell? ⟨20,i,O⟩=E s):
 Calls prog 170 #[Q (E ⟨a,0,O⟩)] w λb d=>b=R s/\w=d:=by
 go_in;go_wp2;go_ret;exact⟨rfl,rfl⟩
theorem AdW(i:Nat)(a:Nat)(s:N)(w:U)(e:i<4)(g:w.cell? ⟨a,0,O⟩=E (I J i))(j:w.cell? ⟨21,i,O⟩=E s):
 Calls prog 171 #[Q (E ⟨a,0,O⟩)] w λb d=>b=R s/\w=d:=by
 go_in;go_wp2;go_ret;exact⟨rfl,rfl⟩
theorem AdX(i:Nat)(a:Nat)(s:N)(w:U)(e:i<4)(g:w.cell? ⟨a,0,O⟩=E (I J i))(j:w.cell? ⟨22,i,O⟩=E s):
 Calls prog 172 #[Q (E ⟨a,0,O⟩)] w λb d=>b=R s/\w=d:=by
 go_in;go_wp2;go_ret;exact⟨rfl,rfl⟩
def M7(t i:Int):List UInt8:=if 0<=i then((Cm t)[i.toNat]?).getD [] else []
theorem AbU(t i:Int)(w:U)(j:AE w):
 Calls prog 107 #[I J t,I J i] w λk F=>k=R (.tuple #[BH (M7 t i),I J ((Cm t).length:Int)])/\Below w.heap.size w F:=by
 rcases Ld t with ⟨h,x,y,z,A,B,D⟩|h
 .have v:M7 t i=[]:=by unfold M7;rw[h];simp
  rw[v,h];have x:(t==1)=false:=by simpa using x
  have y:(t==2)=false:=by simpa using y
  have z:(t==3)=false:=by simpa using z
  have A:(t==4)=false:=by simpa using A
  have B:(t==5)=false:=by simpa using B
  have D:(t==6)=false:=by simpa using D
  go_in;go_wp2;go_ret2;exact⟨rfl,(Ae _ _).alloc (Aa _) _⟩
 by_cases l:i<0∨((Cm t).length:Int)<=i
 .have v:M7 t i=[]:=by
   unfold M7
   split
   .rw[EP (by omega)];rfl
   .rfl
  rw[v];rcases h with rfl|rfl|rfl|rfl|rfl|rfl
  .have o:=Af (λf d=>G8 i 4 f d (by simpa[Cm,tabs] using l));go_in;go_wp2_with fail;refine(o.o _ _).mono ?_;rintro k q ⟨rfl,rfl⟩;go_wp2;go_ret2;exact⟨rfl,(Ae _ _).alloc (Aa _) _⟩
  .have o:=Af (λf d=>G8 i 7 f d (by simpa[Cm,tabs] using l));go_in;go_wp2_with fail;refine(o.o _ _).mono ?_;rintro k q ⟨rfl,rfl⟩;go_wp2;go_ret2;exact⟨rfl,(Ae _ _).alloc (Aa _) _⟩
  .have o:=Af (λf d=>G8 i 9 f d (by simpa[Cm,tabs] using l));go_in;go_wp2_with fail;refine(o.o _ _).mono ?_;rintro k q ⟨rfl,rfl⟩;go_wp2;go_ret2;exact⟨rfl,(Ae _ _).alloc (Aa _) _⟩
  .have o:=Af (λf d=>G8 i 3 f d (by simpa[Cm,tabs] using l));go_in;go_wp2_with fail;refine(o.o _ _).mono ?_;rintro k q ⟨rfl,rfl⟩;go_wp2;go_ret2;exact⟨rfl,(Ae _ _).alloc (Aa _) _⟩
  .have o:=Af (λf d=>G8 i 4 f d (by simpa[Cm,tabs] using l));go_in;go_wp2_with fail;refine(o.o _ _).mono ?_;rintro k q ⟨rfl,rfl⟩;go_wp2;go_ret2;exact⟨rfl,(Ae _ _).alloc (Aa _) _⟩
  .have o:=Af (λf d=>G8 i 4 f d (by simpa[Cm,tabs] using l));go_in;go_wp2_with fail;refine(o.o _ _).mono ?_;rintro k q ⟨rfl,rfl⟩;go_wp2;go_ret2;exact⟨rfl,(Ae _ _).alloc (Aa _) _⟩
 .obtain⟨a,rfl⟩:∃a:Nat,i=a:=⟨i.toNat,by omega⟩;have m:a<(Cm t).length:=by omega
  obtain⟨b,n⟩:∃b,(Cm t)[a]?=E b:=⟨(Cm t)[a],An m⟩
  have v:M7 t a=b:=by
   unfold M7;rw[if_pos (by omega),Int.toNat_natCast,n];rfl
  rw[v];rcases h with rfl|rfl|rfl|rfl|rfl|rfl
  .have g:a<4:=m;have e:w.cell? ⟨17,a,O⟩=E (BH b):=j.tabs 1 a b n;have r:=ER w<|K #[I J (a:Int)] 3;have u:=Af<|JX a 4 167 #[Q (E ⟨w.heap.size,0,O⟩)] (BH b) (w.alloc (K #[I J (a:Int)] 3)) (by omega) (by omega) (λd=>Eg func167 (by kernel_rfl) rfl _ d) (AdS a w.heap.size (BH b) _ g ((Ah.new w 3 #[I J (a:Int)]).cell 0) (by rw[<-e];exact(Zc w _).cell (p:=⟨17,a,O⟩) (Ad w _ e)));go_in;go_wp2_with fail;refine u.o.mono ?_;rintro k q ⟨rfl,rfl⟩;go_wp2;go_ret2;exact⟨rfl,(Ae _ _).alloc (Aa _) _⟩
  .have g:a<7:=m;have e:w.cell? ⟨18,a,O⟩=E (BH b):=j.tabs 2 a b n;have r:=ER w<|K #[I J (a:Int)] 3;have u:=Af<|JX a 7 168 #[Q (E ⟨w.heap.size,0,O⟩)] (BH b) (w.alloc (K #[I J (a:Int)] 3)) (by omega) (by omega) (λd=>Eg func168 (by kernel_rfl) rfl _ d) (AdT a w.heap.size (BH b) _ g ((Ah.new w 3 #[I J (a:Int)]).cell 0) (by rw[<-e];exact(Zc w _).cell (p:=⟨18,a,O⟩) (Ad w _ e)));go_in;go_wp2_with fail;refine u.o.mono ?_;rintro k q ⟨rfl,rfl⟩;go_wp2;go_ret2;exact⟨rfl,(Ae _ _).alloc (Aa _) _⟩
  .have g:a<9:=m;have e:w.cell? ⟨19,a,O⟩=E (BH b):=j.tabs 3 a b n;have r:=ER w<|K #[I J (a:Int)] 3;have u:=Af<|JX a 9 169 #[Q (E ⟨w.heap.size,0,O⟩)] (BH b) (w.alloc (K #[I J (a:Int)] 3)) (by omega) (by omega) (λd=>Eg func169 (by kernel_rfl) rfl _ d) (AdU a w.heap.size (BH b) _ g ((Ah.new w 3 #[I J (a:Int)]).cell 0) (by rw[<-e];exact(Zc w _).cell (p:=⟨19,a,O⟩) (Ad w _ e)));go_in;go_wp2_with fail;refine u.o.mono ?_;rintro k q ⟨rfl,rfl⟩;go_wp2;go_ret2;exact⟨rfl,(Ae _ _).alloc (Aa _) _⟩
  .have g:a<3:=m;have e:w.cell? ⟨20,a,O⟩=E (BH b):=j.tabs 4 a b n;have r:=ER w<|K #[I J (a:Int)] 3;have u:=Af<|JX a 3 170 #[Q (E ⟨w.heap.size,0,O⟩)] (BH b) (w.alloc (K #[I J (a:Int)] 3)) (by omega) (by omega) (λd=>Eg func170 (by kernel_rfl) rfl _ d) (AdV a w.heap.size (BH b) _ g ((Ah.new w 3 #[I J (a:Int)]).cell 0) (by rw[<-e];exact(Zc w _).cell (p:=⟨20,a,O⟩) (Ad w _ e)));go_in;go_wp2_with fail;refine u.o.mono ?_;rintro k q ⟨rfl,rfl⟩;go_wp2;go_ret2;exact⟨rfl,(Ae _ _).alloc (Aa _) _⟩
  .have g:a<4:=m;have e:w.cell? ⟨21,a,O⟩=E (BH b):=j.tabs 5 a b n;have r:=ER w<|K #[I J (a:Int)] 3;have u:=Af<|JX a 4 171 #[Q (E ⟨w.heap.size,0,O⟩)] (BH b) (w.alloc (K #[I J (a:Int)] 3)) (by omega) (by omega) (λd=>Eg func171 (by kernel_rfl) rfl _ d) (AdW a w.heap.size (BH b) _ g ((Ah.new w 3 #[I J (a:Int)]).cell 0) (by rw[<-e];exact(Zc w _).cell (p:=⟨21,a,O⟩) (Ad w _ e)));go_in;go_wp2_with fail;refine u.o.mono ?_;rintro k q ⟨rfl,rfl⟩;go_wp2;go_ret2;exact⟨rfl,(Ae _ _).alloc (Aa _) _⟩
  .have g:a<4:=m;have e:w.cell? ⟨22,a,O⟩=E (BH b):=j.tabs 6 a b n;have r:=ER w<|K #[I J (a:Int)] 3;have u:=Af<|JX a 4 172 #[Q (E ⟨w.heap.size,0,O⟩)] (BH b) (w.alloc (K #[I J (a:Int)] 3)) (by omega) (by omega) (λd=>Eg func172 (by kernel_rfl) rfl _ d) (AdX a w.heap.size (BH b) _ g ((Ah.new w 3 #[I J (a:Int)]).cell 0) (by rw[<-e];exact(Zc w _).cell (p:=⟨22,a,O⟩) (Ad w _ e)));go_in;go_wp2_with fail;refine u.o.mono ?_;rintro k q ⟨rfl,rfl⟩;go_wp2;go_ret2;exact⟨rfl,(Ae _ _).alloc (Aa _) _⟩
theorem Zr(t c:Int):M7 t (max c 0-1)=AT t c:=by
 unfold M7 AT;by_cases h:1<=c
 .rw[if_pos (by omega),if_pos h,show max c 0=c by omega]
 .rw[if_neg (by omega),if_neg h]
theorem FD(t c:Int)(k:c<=9223372036854775807)(w:U)(b:AE w):
 Calls prog 66 #[t,c] w λd i=>d=R (BH (AT t c))/\Below w.heap.size w i:=by
 have a:=AbU t (max c 0-1) w b;rw[Zr] at a;have e:=Af a;have l:0<=max c 0:=by omega
 have m:max c 0<=9223372036854775807:=by omega
 go_in;go_wp2_with fail;refine e.o.mono ?_;rintro d n ⟨rfl,g⟩;have j:=Af g;go_wp2;go_ret;exact⟨rfl,j.o⟩
namespace W
inductive BK where
 |T|H|O|P|K|V|R
structure Ev where
 kind:Int
 tx:Int
 thr:Int
 obj:Int
 op:Int
 key:Int
 val:Int
 ret:Int
def Ev.zero:Ev:=⟨0,0,0,0,0,0,0,0⟩
def Ev.get(e:Ev):BK->Int
 |.T=>e.tx
 |.H=>e.thr
 |.O=>e.obj
 |.P=>e.op
 |.K=>e.key
 |.V=>e.val
 |.R=>e.ret
def Ev.put(e:Ev):BK->Int->Ev
 |.T,a=>{e with tx:=a}
 |.H,a=>{e with thr:=a}
 |.O,a=>{e with obj:=a}
 |.P,a=>{e with op:=a}
 |.K,a=>{e with key:=a}
 |.V,a=>{e with val:=a}
 |.R,a=>{e with ret:=a}
def BK.off:BK->Nat
 |.T=>1
 |.H=>2
 |.O=>3
 |.P=>4
 |.K=>5
 |.V=>6
 |.R=>7
def BK.tab:BK->Nat
 |.P=>3
 |.R=>4
 |_=>0
def BK.lo:BK->Int
 |.T=>1
 |.P=>1
 |.R=>1
 |.V=> -1000000000
 |_=>0
def BK.hi:BK->Int
 |.T=>1000
 |.H=>7
 |.O=>7
 |.P=>9
 |.K=>1000
 |.V=>1000000000
 |.R=>3
def Dg(op:Int):Bool:=op==7||op==8||op==9
def B6(op:Int):Bool:=op==2||op==3||op==5||op==7
def BP(op:Int):List BK:=[.T,.O,.P]++(if Dg op then [.K] else [])++(if B6 op then [.V] else [])
def DL(ret:Int):List BK:=[.T,.R]++(if ret=3 then [.V] else [])
def Jd(kind op ret:Int):List BK:=
 if kind=1 then [.T,.H] else if kind=2 then BP op else if kind=3 then DL ret else [.T]
def Ev.fl(e:Ev):List BK:=Jd e.kind e.op e.ret
def Ev.strip(e:Ev)(k:Nat):Ev:=(e.fl.take k).foldl (λa f=>a.put f 0) {e with kind:=0}
def Ev.Coded(e:Ev):Prop:=1<=e.kind/\e.kind<=7/\(e.kind=2->1<=e.op/\e.op<=9)/\(e.kind=3->1<=e.ret/\e.ret<=3)
def Ev.In(e:Ev)(f:BK):Prop:=f.lo<=e.get f/\e.get f<=f.hi
def Ev.Ok(e:Ev):Prop:=e.Coded/\(∀f∈e.fl,e.In f)/\e.strip e.fl.length=.zero
theorem Ev.put_other(e:Ev)(f g:BK)(n:Int)(h:g≠f):(e.put f n).get g=e.get g:=by
 cases f<;>cases g<;>first|rfl|exact absurd rfl h
theorem Le(k op ret:Int):1<=(Jd k op ret).length/\(Jd k op ret).length<=5:=by
 unfold Jd BP DL
 split
 .simp
 .split
  .cases Dg op<;>cases B6 op<;>simp
  .split
   .split<;>simp
   .simp
end W
def Dt(op ret:Int):Bool:=if B6 op then ret==1 else if op=1∨op=4 then ret==3 else if op=6∨op=8∨op=9 then(ret==2||ret==3) else false
def Gq(op:Int):Int:=if op=1∨op=2 then 1 else if op=3∨op=4 then 2 else if op=5∨op=6 then 3 else if op=7∨op=8∨op=9 then 4 else 0
theorem GC(op:Int):(op=1∨op=2∨op=3∨op=4∨op=5∨op=6∨op=7∨op=8∨op=9)∨(op≠1/\op≠2/\op≠3/\op≠4/\op≠5/\op≠6/\op≠7/\op≠8/\op≠9):=by omega
theorem GD(op:Int)(w:U):Calls prog 65 #[op] w λm n=>m=R (Gq op)/\w=n:=by
 rcases GC op with h|⟨a,b,d,e,g,i,j,k,l⟩
 .rcases h with rfl|rfl|rfl|rfl|rfl|rfl|rfl|rfl|rfl
  all_goals
   go_in;go_wp2;go_ret;exact⟨rfl,rfl⟩
 .have o:Gq op=0:=by simp[Gq,a,b,d,e,g,i,j,k,l]
  rw[o];have p:(op==1)=false:=by simpa using a
  have q:(op==2)=false:=by simpa using b
  have r:(op==3)=false:=by simpa using d
  have t:(op==4)=false:=by simpa using e
  have u:(op==5)=false:=by simpa using g
  have v:(op==6)=false:=by simpa using i
  have x:(op==7)=false:=by simpa using j
  have y:(op==8)=false:=by simpa using k
  have z:(op==9)=false:=by simpa using l
  go_in;go_wp2;go_ret;exact⟨rfl,rfl⟩
theorem Mp(op:Int)(w:U):Calls prog 117 #[op] w λe g=>e=R (Dg op)/\w=g:=by
 rcases GC op with h|⟨i,j,k,l,m,n,a,b,d⟩
 .rcases h with rfl|rfl|rfl|rfl|rfl|rfl|rfl|rfl|rfl
  all_goals
   go_in;go_wp2;go_ret;exact⟨rfl,rfl⟩
 .have o:Dg op=false:=by simp[Dg,a,b,d]
  rw[o];have p:(op==1)=false:=by simpa using i
  have q:(op==2)=false:=by simpa using j
  have r:(op==3)=false:=by simpa using k
  have t:(op==4)=false:=by simpa using l
  have u:(op==5)=false:=by simpa using m
  have v:(op==6)=false:=by simpa using n
  have x:(op==7)=false:=by simpa using a
  have y:(op==8)=false:=by simpa using b
  have z:(op==9)=false:=by simpa using d
  go_in;go_wp2;go_ret;exact⟨rfl,rfl⟩
theorem Je(op:Int)(w:U):Calls prog 119 #[op] w λg i=>g=R (B6 op)/\w=i:=by
 rcases GC op with h|⟨j,a,b,k,d,l,e,m,n⟩
 .rcases h with rfl|rfl|rfl|rfl|rfl|rfl|rfl|rfl|rfl
  all_goals
   go_in;go_wp2;go_ret;exact⟨rfl,rfl⟩
 .have o:B6 op=false:=by simp[B6,a,b,d,e]
  rw[o];have p:(op==1)=false:=by simpa using j
  have q:(op==2)=false:=by simpa using a
  have r:(op==3)=false:=by simpa using b
  have t:(op==4)=false:=by simpa using k
  have u:(op==5)=false:=by simpa using d
  have v:(op==6)=false:=by simpa using l
  have x:(op==7)=false:=by simpa using e
  have y:(op==8)=false:=by simpa using m
  have z:(op==9)=false:=by simpa using n
  go_in;go_wp2;go_ret;exact⟨rfl,rfl⟩
theorem N6(op ret:Int)(w:U):Calls prog 267 #[op,ret] w λa b=>a=R (Dt op ret)/\w=b:=by
 have d:=Af<|Je op w;rcases GC op with h|⟨k,l,m,n,o,p,q,r,t⟩
 .by_cases g:ret=1
  .subst g;rcases h with rfl|rfl|rfl|rfl|rfl|rfl|rfl|rfl|rfl
   all_goals
    go_in;go_wp2_with fail;refine d.o.mono ?_;rintro a b ⟨rfl,rfl⟩;simp only[B6,Int.reduceBEq,HK,Ic];go_wp2;go_ret;exact⟨rfl,rfl⟩
  by_cases i:ret=2
  .subst i;rcases h with rfl|rfl|rfl|rfl|rfl|rfl|rfl|rfl|rfl
   all_goals
    go_in;go_wp2_with fail;refine d.o.mono ?_;rintro a b ⟨rfl,rfl⟩;simp only[B6,Int.reduceBEq,HK,Ic];go_wp2;go_ret;exact⟨rfl,rfl⟩
  by_cases j:ret=3
  .subst j;rcases h with rfl|rfl|rfl|rfl|rfl|rfl|rfl|rfl|rfl
   all_goals
    go_in;go_wp2_with fail;refine d.o.mono ?_;rintro a b ⟨rfl,rfl⟩;simp only[B6,Int.reduceBEq,HK,Ic];go_wp2;go_ret;exact⟨rfl,rfl⟩
  have e:Dt op ret=false:=by
   unfold Dt
   repeat' split
   all_goals simp[g,i,j]
  rw[e];have v:(ret==1)=false:=by simpa using g
  have x:(ret==2)=false:=by simpa using i
  have y:(ret==3)=false:=by simpa using j
  rcases h with rfl|rfl|rfl|rfl|rfl|rfl|rfl|rfl|rfl
  all_goals
   go_in;go_wp2_with fail;refine d.o.mono ?_;rintro a b ⟨rfl,rfl⟩;simp only[B6,Int.reduceBEq,HK,Ic];go_wp2;go_ret;exact⟨rfl,rfl⟩
 .have e:B6 op=false:=by simp[B6,l,m,o,q]
  have u:Dt op ret=false:=by simp[Dt,e,k,n,p,r,t]
  rw[e] at d;rw[u];have v:(op==1)=false:=by simpa using k
  have x:(op==2)=false:=by simpa using l
  have y:(op==3)=false:=by simpa using m
  have z:(op==4)=false:=by simpa using n
  have A:(op==5)=false:=by simpa using o
  have B:(op==6)=false:=by simpa using p
  have D:(op==7)=false:=by simpa using q
  have F:(op==8)=false:=by simpa using r
  have G:(op==9)=false:=by simpa using t
  go_in;go_wp2_with fail;refine d.o.mono ?_;rintro a b ⟨rfl,rfl⟩;go_wp2;go_ret;exact⟨rfl,rfl⟩
def Aj(e:Ev):Array N:= #[e.kind,e.tx,e.thr,e.obj,e.op,e.key,e.val,e.ret]
def SW:BK->Nat
 |.T=>177
 |.H=>178
 |.O=>179
 |.P=>180
 |.K=>181
 |.V=>182
 |.R=>183
def AS(f:BK):Array N:= #[.func (.func (SW f)) #[] #[],(f.tab:Int),f.lo,f.hi]
theorem RQ(w:U):Calls prog 112 #[] w λa b=>a=R (.agg (AS .T))/\Below w w b:=by
 go_in;go_wp2;exact Ao (v:=.agg (AS .T)) (by simp[As,Tryz.f112,go_sem];rfl) rfl ⟨rfl,(Ae _ _).alloc (Aa _) _⟩
theorem AfG(g:Nat)(w:U):Calls prog 177 #[g] w λa b=>a=R (Q (E ⟨g,(BK.T).off,O⟩))/\w=b:=by
 go_in;go_wp2;go_ret;exact⟨rfl,rfl⟩
theorem AdY(w:U):Calls prog 113 #[] w λa b=>a=R (.agg (AS .H))/\Below w w b:=by
 go_in;go_wp2;exact Ao (v:=.agg (AS .H)) (by simp[As,Tryz.f113,go_sem];rfl) rfl ⟨rfl,(Ae _ _).alloc (Aa _) _⟩
theorem AfH(g:Nat)(w:U):Calls prog 178 #[g] w λa b=>a=R (Q (E ⟨g,(BK.H).off,O⟩))/\w=b:=by
 go_in;go_wp2;go_ret;exact⟨rfl,rfl⟩
theorem AdZ(w:U):Calls prog 115 #[] w λa b=>a=R (.agg (AS .O))/\Below w w b:=by
 go_in;go_wp2;exact Ao (v:=.agg (AS .O)) (by simp[As,Tryz.f115,go_sem];rfl) rfl ⟨rfl,(Ae _ _).alloc (Aa _) _⟩
theorem AfI(g:Nat)(w:U):Calls prog 179 #[g] w λa b=>a=R (Q (E ⟨g,(BK.O).off,O⟩))/\w=b:=by
 go_in;go_wp2;go_ret;exact⟨rfl,rfl⟩
theorem Ad0(w:U):Calls prog 116 #[] w λa b=>a=R (.agg (AS .P))/\Below w w b:=by
 go_in;go_wp2;exact Ao (v:=.agg (AS .P)) (by simp[As,Tryz.f116,go_sem];rfl) rfl ⟨rfl,(Ae _ _).alloc (Aa _) _⟩
theorem AfJ(g:Nat)(w:U):Calls prog 180 #[g] w λa b=>a=R (Q (E ⟨g,(BK.P).off,O⟩))/\w=b:=by
 go_in;go_wp2;go_ret;exact⟨rfl,rfl⟩
theorem Ad1(w:U):Calls prog 118 #[] w λa b=>a=R (.agg (AS .K))/\Below w w b:=by
 go_in;go_wp2;exact Ao (v:=.agg (AS .K)) (by simp[As,Tryz.f118,go_sem];rfl) rfl ⟨rfl,(Ae _ _).alloc (Aa _) _⟩
theorem AfK(g:Nat)(w:U):Calls prog 181 #[g] w λa b=>a=R (Q (E ⟨g,(BK.K).off,O⟩))/\w=b:=by
 go_in;go_wp2;go_ret;exact⟨rfl,rfl⟩
theorem Abn(w:U):Calls prog 120 #[] w λa b=>a=R (.agg (AS .V))/\Below w w b:=by
 go_in;go_wp2;exact Ao (v:=.agg (AS .V)) (by simp[As,Tryz.f120,go_sem];rfl) rfl ⟨rfl,(Ae _ _).alloc (Aa _) _⟩
theorem AfL(g:Nat)(w:U):Calls prog 182 #[g] w λa b=>a=R (Q (E ⟨g,(BK.V).off,O⟩))/\w=b:=by
 go_in;go_wp2;go_ret;exact⟨rfl,rfl⟩
theorem Ad2(w:U):Calls prog 122 #[] w λa b=>a=R (.agg (AS .R))/\Below w w b:=by
 go_in;go_wp2;exact Ao (v:=.agg (AS .R)) (by simp[As,Tryz.f122,go_sem];rfl) rfl ⟨rfl,(Ae _ _).alloc (Aa _) _⟩
theorem AfM(g:Nat)(w:U):Calls prog 183 #[g] w λa b=>a=R (Q (E ⟨g,(BK.R).off,O⟩))/\w=b:=by
 go_in;go_wp2;go_ret;exact⟨rfl,rfl⟩
theorem VM(f:BK)(g:Nat)(w:U):Calls prog (SW f) #[g] w λa b=>a=R (Q (E ⟨g,f.off,O⟩))/\w=b:=by
 cases f
 .exact AfG g w
 .exact AfH g w
 .exact AfI g w
 .exact AfJ g w
 .exact AfK g w
 .exact AfL g w
 .exact AfM g w
theorem N7(f:BK)(args:Array N)(w:U):(callFunc (SW f) args).run prog w=.ok (.enter (SW f) args) w:=by
 cases f
 .exact Eg func177 (by kernel_rfl) rfl _ w
 .exact Eg func178 (by kernel_rfl) rfl _ w
 .exact Eg func179 (by kernel_rfl) rfl _ w
 .exact Eg func180 (by kernel_rfl) rfl _ w
 .exact Eg func181 (by kernel_rfl) rfl _ w
 .exact Eg func182 (by kernel_rfl) rfl _ w
 .exact Eg func183 (by kernel_rfl) rfl _ w
def CB(a:List BK):List N:=a.flatMap λf=>(AS f).toList
theorem Jv:∀(b:List BK) (k:Nat) (f:BK),b[k]?=f->∀a,a<4->(CB b)[k*4+a]?=(AS f)[a]?
 |[],k,f,h,_,_=>by simp at h
 |d::b,0,f,h,a,e=>by
  obtain rfl:d=f:=by simpa using h
  unfold CB;rw[E2,Ek (by simp[AS];omega)];simp
 |d::b,k+1,f,h,a,e=>by
  have g:=Jv b k f (by simpa using h) a e;unfold CB at g|-;rw[E2,EW (by simp[AS];omega)];rw[<-g]
  congr 1
  simp[AS];omega
theorem GF(a b:List BK):CB (a++b)=CB a++CB b:=by simp[CB]
theorem Lf(l:List BK):∀u∈CB l,u.oneCell'=true:=by
 intro u b;let⟨f,_,a⟩:=List.mem_flatMap.1 b;simp only[AS,B2,List.not_mem_nil,or_false] at a;rcases a with rfl|rfl|rfl|rfl<;>rfl
def BD:Array N:= #[.nilFunc,(),(),()]
def L3(a:List BK)(i:Nat):Array N:=match a[i]? with
 |some f=>AS f
 |none=>BD
theorem Lg(a:List BK)(v:N)(n B:Nat)(e:Ev)(i:Nat)(w:U)(o:w.cell? ⟨n,0,O⟩=E v)(b:w.ownsRow B 186 4 v a.length (CB a))(_hlen:a.length<=5):
 Calls prog 111 #[.agg (Aj e),I J i,Q (E ⟨n,0,O⟩)] w λp q=>p=R (.tuple #[.agg (L3 a i),T (decide (i<a.length))])/\Below w.heap.size w q:=by
 by_cases m:i<a.length
 .obtain⟨f,g⟩:∃f,a[i]?=E f:=⟨a[i],An m⟩;have k:L3 a i=AS f:=by unfold L3;rw[g]
  have l:decide (i<a.length)=true:=by simpa using m
  rw[k,l]
  obtain⟨d,j,rfl,D⟩:∃d j,v=C (E ⟨d,0,O⟩) a.length j/\a.length<=j:=by
   rcases b.2 with ⟨rfl,F⟩|⟨d,j,cur,rfl,_,_,r,_⟩
   .omega
   .exact⟨d,j,rfl,r⟩
  have t:w.cell? ⟨d,i*4,O⟩=E (.func (.func (SW f)) #[] #[]):=(b.cellAt (i*4) (by omega)).trans<|Jv a i f g 0 (by omega);have G:w.cell? ⟨d,i*4+1,O⟩=E (I J (f.tab:Int)):=(b.cellAt (i*4+1) (by omega)).trans<|Jv a i f g 1 (by omega);have L:w.cell? ⟨d,i*4+2,O⟩=E (I J f.lo):=(b.cellAt (i*4+2) (by omega)).trans<|Jv a i f g 2 (by omega);have M:w.cell? ⟨d,i*4+3,O⟩=E (I J f.hi):=(b.cellAt (i*4+3) (by omega)).trans<|Jv a i f g 3 (by omega);have u:=Ad w _ o;have S:=Ad w _ t;unfold AS;generalize SW f=x at*;generalize f.tab=y at*;generalize f.lo=z at*;generalize f.hi=A at*;unfold Aj;go_in;go_wp2;exact Ao (v:=.tuple #[.agg #[.func (.func x) #[] #[],I J (y:Int),I J z,I J A],T true]) (by simp[As,Tryz.f111,go_sem]) rfl ⟨rfl,((Ae _ _).alloc (Aa _) _).alloc (by simp) _⟩
 .have k:L3 a i=BD:=by unfold L3;rw[EP (by omega)]
  have l:decide (i<a.length)=false:=by simpa using m
  rw[k,l];obtain⟨W,j,rfl⟩:=Ag b;have u:=Ad w _ o;unfold Aj;go_in;go_wp2;exact Ao (v:=.tuple #[.agg BD,T false]) (by simp[As,Tryz.f111,go_sem];rfl) rfl ⟨rfl,((Ae _ _).alloc (Aa _) _).alloc (by simp) _⟩
theorem BX{w:U}{cs:Array N}{t:Ab}{B size:Nat}(a:cs.size=n*size)(b:B<=w.heap.size)(d:n<=Al):(w.alloc (K cs t)).ownsRow B t size (C w n n) n cs.toList:=
 ⟨by simpa using a,.inr ⟨_,_,cs,rfl,b,D4 w _,Aa _,d,a,by rw[<-a];exact IR (by simp)⟩⟩
theorem AA{w w':U}{B size:Nat}{e:Ab}{v:N}{xs:List N}(h:w.ownsRow B e size v n xs)(a:Below w w w'):w'.ownsRow B e size v n xs:=BJ h (Ay.of_below (S:=[]) a (Aa _)) (by simp)
theorem Abo:(prog.info? 186).map (fun a=>(a.zero,a.size,a.bytes))=some (some (.agg BD),4,32):=by kernel_rfl
def DM:Value:=.func (.func 110) #[] #[]
theorem Lh(A:Option Addr)(n c:Nat)(w:World):Calls prog 110 #[.slice A n c] w fun a b=>a=.returned (.func (.func 111) #[] #[.pointer (some ⟨w.heap.size,0,none⟩)])∧b=w.alloc (.cells #[.slice A n c] 254):=by
 go_enter func110,ntmps110
 go_wp2
 go_ret
 exact⟨rfl,rfl⟩
def fnV:Option Nat→Value
 |none=>.nilFunc
 |some f=>.func (.func f) #[] #[]
structure Kp (w W:World) (e:Ev) (B0:Nat):Prop where
 ev:Ah W w.heap.size 44 (Aj e)
 o:Ah W (w.heap.size+1) 186 BD
 lst:W.cell? ⟨B0,0,none⟩=some DM
 below:Below w.heap.size w W
theorem Kp.start(w:World)(e:Ev)(a:Nat)(h:w.cell? ⟨a,0,none⟩=some DM):Kp w ((w.alloc (.cells (Aj e) 44)).alloc (.cells BD 186)) e a:=by
 have b:=((Ae w.heap.size w).alloc (Aa _) (.cells (Aj e) 44)).alloc (by simp) (.cells BD 186)
 refine⟨(Ah.new w _ _).alloc _,?_,(b.cell (p:=⟨a,0,none⟩) (Ad w _ h)).trans h,b⟩
 have d:=Ah.new (w.alloc (.cells (Aj e) 44)) 186 BD
 rwa [World.size_alloc] at d
theorem Kp.call{w W W':World}{e:Ev}{n:Nat}(h:Kp w W e n)(a:Below W.heap.size W W'):Kp w W' e n:=
 ⟨h.ev.below a h.ev.lt,h.o.below a h.o.lt,(a.cell (p:=⟨n,0,none⟩) (Ad _ _ h.lst)).trans h.lst,h.below.trans (a.mono h.below.size)⟩
theorem Kp.alloc{w W:World}{e:Ev}{n:Nat}(h:Kp w W e n)(o:Obj):Kp w (W.alloc o) e n:=h.call ((Ae _ _).alloc (Aa _) o)
theorem Kp.grown{w W W':World}{e:Ev}{k n:Nat}{v:Value}{xs:List Value}(h:Kp w W e k)(g:W.ownsRow (w.heap.size+2) 186 4 v n xs)(j:k<w.heap.size)(a:W.grownBy W' v.ownBlock):Kp w W' e k:=by
 have b:∀d,d<w.heap.size+2→some d≠v.ownBlock:=fun d l e=>by
  have:=(Ai g e.symm).1
  omega
 refine⟨h.ev.grown a (b _ (by omega)),h.o.grown a (b _ (by omega)),a.cell h.lst (b _ (by simp only;omega)), ?_⟩
 exact h.below.grown a h.below.size (fun m i=>by have:=(Ai g i).1;omega)
theorem Kp.drew{w W:World}{e:Ev}{n:Nat}(h:Kp w W e n):Kp w W.drew e n:=⟨h.ev,h.o,h.lst,h.below.drew⟩
theorem Ad3(d:Func)(hF:d.results= #[.cell 5 186,.tmp 6])(tmps:Array Value)(W:World)(g:Nat)(a0 e a2 a3 b:Value)(i:tmps.getD 5 Ac=.pointer (some ⟨g,0,none⟩))(j:tmps.getD 6 Ac=b)(a:Ah W g 186 #[a0,e,a2,a3]):
 (As d tmps).run prog W=.ok (.tuple #[.agg #[a0,e,a2,a3],b]) W:=by
 have k:=a.cell 0
 have l:=a.cell 1
 have m:=a.cell 2
 have n:=a.cell 3
 have o:tmps[5]?.getD Ac=.pointer (some ⟨g,0,none⟩):=by simpa using i
 have p:tmps[6]?.getD Ac=b:=by simpa using j
 simp[As,hF,o,p,go_sem,k,l,m,n]
theorem SX(e:Ev)(i:Nat)(m:Nat)(w:World)(X:w.cell? ⟨m,0,none⟩=some DM):
 Calls prog 114 #[.agg (Aj e),.int .i64 i,.pointer (some ⟨m,0,none⟩)] w fun g bg=>g=.returned (.tuple #[.agg (L3 (BP e.op) i),.bool (decide (i<(BP e.op).length))])∧Below w.heap.size w bg:=by
 have Y:=Af (Kp.start w e m X)
 have aq:=Ad w _ X
 obtain⟨ar,Z,aa,ab,ac⟩:=A1 Abo
 clear X
 unfold Aj BD at Y
 unfold Aj
 go_enter func114,ntmps114
 go_wp2_with fail
 refine(RQ _).mono ?_
 rintro g bv ⟨rfl,a⟩
 have au:=Af (Y.o.call a)
 clear a Y
 go_wp2_with fail
 refine(AdZ _).mono ?_
 rintro g bw ⟨rfl,a⟩
 have av:=Af (au.o.call a)
 clear a au
 go_wp2_with fail
 refine(Ad0 _).mono ?_
 rintro g ad ⟨rfl,a⟩
 have o:=Af (av.o.call a)
 clear a av
 have q:=o.o.ev.cell 4
 have bx:=o.o.ev.lt
 have bz:=o.o.o.lt
 have aw:=Af (fun W=>Mp e.op W)
 have ax:=Af (fun W=>Je e.op W)
 have y:=Af (BX (w:=ad) (cs:=(CB [.T,.O,.P]).toArray) (t:=186) (B:=w.heap.size+2) (size:=4) (n:=3) rfl (by omega) (by unfold Al;omega))
 have z:=Af (o.o.alloc (.cells (CB [.T,.O,.P]).toArray 186))
 simp only [Aj] at q
 unfold AS
 go_wp2_with fail
 refine(aw.o _).mono ?_
 rintro g ay ⟨rfl,az⟩
 change ad.alloc (.cells (CB [.T,.O,.P]).toArray 186)=ay at az
 subst az
 generalize ad.alloc (.cells (CB [.T,.O,.P]).toArray 186)=ay at*
 clear q o
 go_upto_if 14 with fail
 go_cut [7] (fun r u=>∃ae c,r=.slice ae ([BK.T,.O,.P]++(if Dg e.op then [BK.K] else [])).length c∧u.ownsRow (w.heap.size+2) 186 4 r ([BK.T,.O,.P]++(if Dg e.op then [BK.K] else [])).length (CB ([BK.T,.O,.P]++(if Dg e.op then [BK.K] else [])))∧Kp w u e m)
 case first=>
  cases a0:Dg e.op with
  |false=>
   go_wp2_with fail
   go_meet
   rw [a0]
   exact⟨_,_,rfl,y.o,z.o⟩
  |true=>
   go_wp2_with fail
   refine(Ad1 _).mono ?_
   rintro g a1 ⟨rfl,a⟩
   have A:=Af (z.o.call a)
   have af:=Af (AA y.o a)
   clear a z y
   unfold AS
   go_wp2_with (at_builtin;go_loud (refine wpList_append_own _ rfl (.tmp 15) (.tmp 17) 254 rfl (w.heap.size+2) 186 ar (.agg BD) 4 32 underlying254 Z aa ab ac rfl (by decide) _ 3 _ rfl (af.o.alloc _) ⟨a1.heap.size,0,none⟩ 1 1 (CB [.K]) rfl rfl (Ee (cs:=(CB [.K]).toArray) (D4 a1 _)) (Lf _) (by unfold Al;omega) (by omega) (by have:=A.o.below.size;have:=A.o.o.lt;simp;omega) ?_);intro bh bi j v _)
   have ag:=Af ((A.o.alloc _).grown (af.o.alloc _) aq v)
   rw [←GF] at j
   obtain⟨bj,bk,rfl⟩:=Ag j
   have ah:=Af j
   clear j v A af
   go_meet
   rw [a0]
   exact⟨_,_,rfl,ah.o,ag.o⟩
 case rest=>
 have bl:([BK.T,BK.O,BK.P]++if Dg e.op=true then [BK.K] else []).length≤4:=by cases Dg e.op<;>simp
 obtain⟨D,ai⟩:∃D,[BK.T,BK.O,BK.P]++(if Dg e.op=true then [BK.K] else [])=D:=⟨_,rfl⟩
 have aj:=Af (show BP e.op=D++(if B6 e.op then [BK.V] else []) by rw [←ai];rfl)
 rw [ai] at hcut bl
 obtain⟨b0,b1,rfl,a2,ak⟩:=hcut
 have q:=ak.ev.cell 4
 simp only [Aj] at q
 have F:=Af a2
 have G:=Af ak
 clear ai a2 ak aw y z
 go_wp2_with fail
 refine(ax.o _).mono ?_
 rintro g b2 ⟨rfl,rfl⟩
 clear q
 go_upto_if 21 with fail
 go_cut [7] (fun r u=>∃ae c,r=.slice ae (BP e.op).length c∧u.ownsRow (w.heap.size+2) 186 4 r (BP e.op).length (CB (BP e.op))∧Kp w u e m)
 case first=>
  cases a3:B6 e.op with
  |false=>
   go_wp2_with fail
   go_meet
   rw[aj.o,a3,if_neg (by simp),Ia]
   exact⟨_,_,rfl,F.o,G.o⟩
  |true=>
   go_wp2_with fail
   refine(Abn _).mono ?_
   rintro g a4 ⟨rfl,a⟩
   have l:=Af (G.o.call a)
   have x:=Af (AA F.o a)
   clear a G F
   unfold AS
   go_wp2_with (at_builtin;refine wpList_append_own _ rfl (.tmp 22) (.tmp 24) 254 rfl (w.heap.size+2) 186 ar (.agg BD) 4 32 underlying254 Z aa ab ac rfl (by decide) _ D.length _ rfl (x.o.alloc _) ⟨a4.heap.size,0,none⟩ 1 1 (CB [.V]) rfl rfl (Ee (cs:=(CB [.V]).toArray) (D4 a4 _)) (Lf _) (by unfold Al;omega) (by omega) (by have:=l.o.below.size;have:=l.o.o.lt;simp;omega) ?_;intro bh bi j v _)
   have ag:=Af ((l.o.alloc _).grown (x.o.alloc _) aq v)
   rw [←GF] at j
   obtain⟨bj,bk,rfl⟩:=Ag j
   have ah:=Af j
   clear j v l x
   go_meet
   rw[aj.o,a3,if_pos rfl,Ef,E3]
   exact⟨_,_,rfl,ah.o,ag.o⟩
 case rest=>
 obtain⟨a5,a6,rfl,al,b⟩:=hcut
 have a7:(BP e.op).length≤5:=(Le 2 e.op 0).2
 obtain⟨k,am⟩:∃k,BP e.op=k:=⟨_,rfl⟩
 rw [am] at al a7⊢
 have bm:=Af am
 clear am
 have x:=Af al
 have l:=Af b
 have k0:=b.ev.cell 0
 have k1:=b.ev.cell 1
 have k2:=b.ev.cell 2
 have k3:=b.ev.cell 3
 have k4:=b.ev.cell 4
 have k5:=b.ev.cell 5
 have k6:=b.ev.cell 6
 have k7:=b.ev.cell 7
 have a8:=b.lst
 have b3:=b.ev.lt
 have b4:=b.o.lt
 have b5:=Ad _ _ a8
 simp only [Aj] at k0 k1 k2 k3 k4 k5 k6 k7
 unfold DM at a8
 clear al b aj ax F G Z aa ab ac
 obtain⟨an,L,M,S,ao⟩:∃an L M S,L3 k i= #[fnV an,.int .i64 L,.int .i64 M,.int .i64 S]:=by
  unfold L3
  cases k[i]? with
  |none=>exact⟨none,0,0,0,rfl⟩
  |some f=>exact⟨some (SW f),_,_,_,rfl⟩
 have ap:=Af (fun W bn bo=>Lg k (.slice a5 k.length a6) wc.heap.size (w.heap.size+2) e i W bn bo a7)
 rw [ao] at ap
 have bp:=Af ao
 clear ao
 cases an
 all_goals
  unfold fnV at ap
  go_wp2_with fail
  go_region_with (first
   |(go_at_call 110;refine(Lh _ _ _ _).mono ?_;rintro g bq ⟨rfl,rfl⟩)
   |(go_at_call 111;go_loud (refine(ap.o _ (by exact((Ah.new wc _ _).drew.cell 0)) (by exact(x.o.alloc _).drew)).mono ?_);rintro g bq ⟨rfl,a9⟩;have d:=Af ((l.o.alloc (.cells #[.slice a5 k.length a6] 254)).drew.call a9);have ba:=d.o.o.cell 0;have bb:=d.o.o.cell 1;have bc:=d.o.o.cell 2;have bd:=d.o.o.cell 3;have br:=d.o.o.frozen 0;have bs:=d.o.o.frozen 1;have bt:=d.o.o.frozen 2;have bu:=d.o.o.frozen 3;simp only [BD] at ba bb bc bd;clear a9))
 all_goals
  have be:=Af (fun bf:Value=>And.intro ((((d.o.o.put 0 bf).put 1 (.int .i64 L)).put 2 (.int .i64 M)).put 3 (.int .i64 S))
   ((((d.o.below.setCell (p:=⟨w.heap.size+1,0,none⟩) (by simp) bf).setCell (p:=⟨w.heap.size+1,1,none⟩) (by simp) (.int .i64 L)).setCell (p:=⟨w.heap.size+1,2,none⟩) (by simp) (.int .i64 M)).setCell (p:=⟨w.heap.size+1,3,none⟩) (by simp) (.int .i64 S)))
  clear d ba bb bc bd br bs bt bu k0 k1 k2 k3 k4 k5 k6 k7
  go_wp2_with fail
  exact Ao (Ad3 _ rfl _ _ _ _ _ _ _ _ rfl rfl (be.o _).1) rfl ⟨by rw[bm.o,bp.o];rfl,(be.o _).2⟩
theorem VN(e:Ev)(i:Nat)(o:Nat)(w:World)(z:w.cell? ⟨o,0,none⟩=some DM):
 Calls prog 121 #[.agg (Aj e),.int .i64 i,.pointer (some ⟨o,0,none⟩)] w fun j av=>j=.returned (.tuple #[.agg (L3 (DL e.ret) i),.bool (decide (i<(DL e.ret).length))])∧Below w.heap.size w av:=by
 have A:=Af (Kp.start w e o z)
 have aw:=Ad w _ z
 obtain⟨ax,Y,Z,aa,ab⟩:=A1 Abo
 clear z
 unfold Aj BD at A
 unfold Aj
 go_enter func121,ntmps121
 go_wp2_with fail
 refine(RQ _).mono ?_
 rintro j be ⟨rfl,d⟩
 have ac:=Af (A.o.call d)
 clear d A
 go_wp2_with fail
 refine(Ad2 _).mono ?_
 rintro j ay ⟨rfl,d⟩
 have q:=Af (ac.o.call d)
 clear d ac
 have k7:=q.o.ev.cell 7
 have bf:=q.o.ev.lt
 have bg:=q.o.o.lt
 have r:=Af (BX (w:=ay) (cs:=(CB [.T,.R]).toArray) (t:=186) (B:=w.heap.size+2) (size:=4) (n:=2) rfl (by omega) (by unfold Al;omega))
 have u:=Af (q.o.alloc (.cells (CB [.T,.R]).toArray 186))
 simp only [Aj] at k7
 unfold AS
 go_upto_if 13 with fail
 go_cut [7] (fun ad ae=>∃az c,ad=.slice az (DL e.ret).length c∧ae.ownsRow (w.heap.size+2) 186 4 ad (DL e.ret).length (CB (DL e.ret))∧Kp w ae e o)
 case first=>
  by_cases k:e.ret=3
  ·have a0:(e.ret==3)=true:=by simpa using k
   have D:=Af (show DL e.ret=[.T,.R]++[.V] by unfold DL;rw [if_pos k])
   clear k
   go_wp2_with fail
   refine(Abn _).mono ?_
   rintro j af ⟨rfl,d⟩
   have l:=Af (u.o.call d)
   have m:=Af (AA r.o d)
   clear d u r
   unfold AS
   go_wp2_with (at_builtin;refine wpList_append_own _ rfl (.tmp 14) (.tmp 16) 254 rfl (w.heap.size+2) 186 ax (.agg BD) 4 32 underlying254 Y Z aa ab rfl (by decide) _ 2 _ rfl (m.o.alloc _) ⟨af.heap.size,0,none⟩ 1 1 (CB [.V]) rfl rfl (Ee (cs:=(CB [.V]).toArray) (D4 af _)) (Lf _) (by unfold Al;omega) (by omega) (by have:=l.o.below.size;have:=l.o.o.lt;simp;omega) ?_;intro a1 a2 ag ah _)
   have a3:=Af ((l.o.alloc _).grown (m.o.alloc _) aw ah)
   have F:a2.ownsRow (w.heap.size+2) 186 4 a1 3 (CB ([.T,.R]++[.V])):=by rw [GF];exact ag
   obtain⟨bh,bi,rfl⟩:=Ag F
   have a4:=Af F
   clear ag ah l m F
   go_meet
   rw [D.o]
   exact⟨_,_,rfl,a4.o,a3.o⟩
  ·have a0:(e.ret==3)=false:=by simpa using k
   have D:=Af (show DL e.ret=[.T,.R] by unfold DL;rw [if_neg k];rfl)
   clear k
   go_wp2_with fail
   go_meet
   rw [D.o]
   exact⟨_,_,rfl,r.o,u.o⟩
 case rest=>
 obtain⟨ai,aj,rfl,G,a⟩:=hcut
 have ak:(DL e.ret).length≤5:=(Le 3 0 e.ret).2
 obtain⟨g,L⟩:∃g,DL e.ret=g:=⟨_,rfl⟩
 rw [L] at G ak⊢
 have a5:=Af L
 clear L
 have m:=Af G
 have l:=Af a
 have k0:=a.ev.cell 0
 have k1:=a.ev.cell 1
 have k2:=a.ev.cell 2
 have k3:=a.ev.cell 3
 have k4:=a.ev.cell 4
 have k5:=a.ev.cell 5
 have k6:=a.ev.cell 6
 clear k7
 have k7:=a.ev.cell 7
 have al:=a.lst
 have bj:=a.ev.lt
 have bk:=a.o.lt
 have bl:=Ad _ _ al
 simp only [Aj] at k0 k1 k2 k3 k4 k5 k6 k7
 unfold DM at al
 clear G a r u Y Z aa ab
 obtain⟨M,v,x,y,S⟩:∃M v x y,L3 g i= #[fnV M,.int .i64 v,.int .i64 x,.int .i64 y]:=by
  unfold L3
  cases g[i]? with
  |none=>exact⟨none,0,0,0,rfl⟩
  |some f=>exact⟨some (SW f),_,_,_,rfl⟩
 have X:=Af (fun W a6 a7=>Lg g (.slice ai g.length aj) wc.heap.size (w.heap.size+2) e i W a6 a7 ak)
 rw [S] at X
 have a8:=Af S
 clear S
 cases M
 all_goals
  unfold fnV at X
  go_wp2_with fail
  go_region_with (first
   |(go_at_call 110;refine(Lh _ _ _ _).mono ?_;rintro j a9 ⟨rfl,rfl⟩)
   |(go_at_call 111;go_loud (refine(X.o _ (by exact((Ah.new wc _ _).drew.cell 0)) (by exact(m.o.alloc _).drew)).mono ?_);rintro j a9 ⟨rfl,am⟩;have b:=Af ((l.o.alloc (.cells #[.slice ai g.length aj] 254)).drew.call am);have an:=b.o.o.cell 0;have ao:=b.o.o.cell 1;have ap:=b.o.o.cell 2;have aq:=b.o.o.cell 3;have ba:=b.o.o.frozen 0;have bb:=b.o.o.frozen 1;have bc:=b.o.o.frozen 2;have bd:=b.o.o.frozen 3;simp only [BD] at an ao ap aq;clear am))
 all_goals
  have ar:=Af (fun au:Value=>And.intro ((((b.o.o.put 0 au).put 1 (.int .i64 v)).put 2 (.int .i64 x)).put 3 (.int .i64 y))
   ((((b.o.below.setCell (p:=⟨w.heap.size+1,0,none⟩) (by simp) au).setCell (p:=⟨w.heap.size+1,1,none⟩) (by simp) (.int .i64 v)).setCell (p:=⟨w.heap.size+1,2,none⟩) (by simp) (.int .i64 x)).setCell (p:=⟨w.heap.size+1,3,none⟩) (by simp) (.int .i64 y)))
  clear b an ao ap aq ba bb bc bd k0 k1 k2 k3 k4 k5 k6 k7
  go_wp2_with fail
  exact Ao (Ad3 _ rfl _ _ _ _ _ _ _ _ rfl rfl (ar.o _).1) rfl ⟨by rw[a5.o,a8.o];rfl,(ar.o _).2⟩
def Cf(v:Value):Option (DataW Value×List MemPlace):=some (.held v,[])
def AV(x:Int):Lit:=.int .i64 x
theorem Li(y:Int):IS (AV y):=by simp[IS,AV]
theorem Mb:Keyed prog 3:=int_keyed underlying3
abbrev Mc:Ab:=182
theorem N8:prog.underlying Mc=some (.map 3 181):=underlying182
def BA(W:World)(b n:Nat)(f:Int→Value):Prop:=
 ∃a:DataW Value,W.ownsMap prog 3 Cf b n a∧IsMap a∧∀d,a.atKey (AV d) (.held .nilFunc)=.held (f d)
def JY(f:Int→Value)(k:Int)(v:Value):Int→Value:=fun a=>if a=k then v else f a
def VO:Int→Value:=fun _=>.nilFunc
theorem BA.made(W:World):BA (W.alloc (.map #[] 0)) W.heap.size 0 VO:=⟨.map [],My W _ _ _,⟨[],rfl⟩,fun _=>rfl⟩
theorem BA.drew{W:World}{b n:Nat}{f:Int→Value}(h:BA W b n f):BA W.drew b n f:=h
theorem BA.call{W W':World}{b n:Nat}{f:Int->Value}(h:BA W b n f)(a:Below W.heap.size W W'):BA W' b n f:=by
 obtain⟨d,e,g⟩:=h;exact⟨d,VK e (Ay.of_below (S:=[]) a (Aa _)) (by simp),g⟩
theorem BA.alloc{W:World}{b n:Nat}{f:Int→Value}(h:BA W b n f)(o:Obj):BA (W.alloc o) b n f:=h.call ((Ae _ _).alloc (Aa _) o)
theorem Lj{k:Int}(a: -9223372036854775808≤k)(b:k≤9223372036854775807):(E4 .i64 k).wf=true:=UF (by omega)
theorem Ad4(W:World):(Ew 181).run prog W=.ok .nilFunc W:=by kernel_rfl
theorem BA.look{W:U}{b n:Nat}{f:Int->N}(h:BA W b n f){k:Int}(d: -9223372036854775808<=k)(e:k<=9223372036854775807):
 (B1 Mc (.map (E b)) (I J k) false).run prog W=.ok (f k) W:=by
 obtain⟨m,g,_,i⟩:=h;obtain⟨j,o,l,a⟩:=g.lookup Mb N8 (Ad4 W) (zd:=.held .nilFunc) (zp:=[]) rfl (HZ underlying3 (Lj d e));rw[show(E4 .i64 k)=AV k from rfl,i k] at a
 have:j=f k:=by
  unfold Cf at a;simp only[Option.some.injEq,Prod.mk.injEq,DataW.held.injEq] at a;exact a.1
 rw[l,this]
theorem BA.put{W:U}{b n:Nat}{f:Int->N}(h:BA W b n f)(l:n<100){k:Int}(m: -9223372036854775808<=k)(o:k<=9223372036854775807)(v:N):
 ∃e,(D9 Mc (.map (E b)) (I J k) v).run prog W=.ok () e/\BA e b (n+1) (JY f k v)/\W.grownBy e (E b):=by
 obtain⟨x,p,i,q⟩:=h;obtain⟨e,r,t,u⟩:=p.update Mb N8 (Nat.lt_trans l (by unfold Al;omega)) (HZ underlying3 (Lj m o)) (d:=.held v) (ps:=[]) (val:=v) rfl;refine⟨e,r,⟨_,t,i.put _ _,λa=>?_⟩,u⟩;by_cases g:a=k
 .subst g;rw[show(E4 .i64 a)=AV a from rfl,MY i (Li a)];simp[JY]
 .have w:AV a≠AV k:=λj=>g (by unfold AV at j;injection j);rw[show(E4 .i64 k)=AV k from rfl,M0 w,q a];simp[JY,g]
def JZ(W:World)(b:Nat):Prop:=∃a f,a<100∧BA W b a f
noncomputable def Md (W:World) (b:Nat) (k:Int) (v:Value):World:=
 open Classical in if h:∃a,(D9 Mc (.map (some b)) (.int .i64 k) v).run prog W=.ok () a then h.choose else W
theorem RR{W w':World}{b:Nat}{k:Int}{v:Value}(h:(D9 Mc (.map (some b)) (.int .i64 k) v).run prog W=.ok () w'):Md W b k v=w':=by
 have a:∃w',(D9 Mc (.map (some b)) (.int .i64 k) v).run prog W=.ok () w':=⟨w',h⟩;have d:(D9 Mc (.map (some b)) (.int .i64 k) v).run prog W=.ok () a.choose:=a.choose_spec;have e:(Result.ok () w':Result Unit)=.ok () a.choose:=h.symm.trans d;have g:w'=a.choose:=by injection e
 unfold Md;rw[dif_pos a];exact g.symm
theorem VP{W:U}{b:Nat}{k:Int}{v:N}(h:JZ W b)(d: -9223372036854775808<=k)(e:k<=9223372036854775807):(D9 Mc (.map (E b)) (I J k) v).run prog W=.ok () (Md W b k v):=by
 obtain⟨l,f,g,i⟩:=h;obtain⟨m,a,_⟩:=i.put g d e v;have j:=RR a;rw[j];exact a
theorem KQ{W:World}{b n:Nat}{f:Int->Value}(h:BA W b n f)(a:n<100){k:Int}(d: -9223372036854775808<=k)(e:k<=9223372036854775807)(v:Value):BA (Md W b k v) b (n+1) (JY f k v)/\W.grownBy (Md W b k v) (some b):=by
 obtain⟨l,g,i,j⟩:=h.put a d e v;rw[RR g];exact⟨i,j⟩
def VQ(g:Nat):Value:=.func (.func 111) #[] #[.pointer (some ⟨g,0,none⟩)]
def BM(L:Nat)(W:World)(g:Nat)(a:List BK):Prop:=a.length<=5/\L<=g/\∃(b:Nat) (d:Value),L<=b/\W.cell? ⟨g,0,none⟩=some d/\W.ownsRow b 186 4 d a.length (CB a)
theorem BM.call{W W':U}{L g:Nat}{a:List BK}(h:BM L W g a)(b:Below W.heap.size W W'):BM L W' g a:=by
 obtain⟨e,i,j,k,l,d,m⟩:=h;exact⟨e,i,j,k,l,(b.cell (p:=⟨g,0,O⟩) (Ad _ _ d)).trans d,AA m b⟩
theorem BM.alloc{W:World}{L g:Nat}{a:List BK}(h:BM L W g a)(o:Obj):BM L (W.alloc o) g a:=h.call ((Ae _ _).alloc (Aa _) o)
theorem M8{W:World}{b n:Nat}{f:Int->Value}(h:BA W b n f):∃a c,W.heap[b]?=some (.map a c):=by
 obtain⟨e,⟨a,c,d,_⟩,_⟩:=h
 exact⟨a,c,d⟩
theorem DN{W:World}{k:Nat}{o:Obj}(h:W.heap[k]?=some o):k<W.heap.size:=by
 rcases ES k W.heap.size with a|a
 .exact a
 .rw[HI a] at h;cases h
theorem BM.ins{W W':World}{L g b n:Nat}{f:Int->Value}{i:List BK}(h:BM L W g i)(o:BA W b n f)(j:W.grownBy W' (some b)):BM L W' g i:=by
 obtain⟨p,q,r,t,u,k,v⟩:=h;obtain⟨A,c,d⟩:=M8 o;refine⟨p,q,r,t,u,j.cell k (λa=>?_),?_⟩
 .injection a with a;simp only at a;subst a;simp[G5,d] at k
 .rcases v with ⟨l,⟨rfl,w⟩|⟨m,x,cur,rfl,y,e,z⟩⟩
  .exact⟨l,.inl ⟨rfl,w⟩⟩
  .refine⟨l,.inr ⟨m,x,cur,rfl,y,(j.block m (DN e) (λa=>?_)).trans e,z⟩⟩;injection a with a;subst a;rw[e] at d
   cases d
theorem Pb{W:U}{L g:Nat}{a:List BK}(h:BM L W g a)(e:Ev)(i:Nat):
 Calls prog 111 #[.agg (Aj e),I J i,Q (E ⟨g,0,O⟩)] W λb d=>b=R (.tuple #[.agg (L3 a i),T (decide (i<a.length))])/\Below W.heap.size W d:=by
 obtain⟨j,o,k,l,p,m,n⟩:=h;exact Lg a l g k e i W m n j
theorem Mq(a:List BK)(i:a.length<=5)(m:0<a.length)(A:Option Addr)(n c:Nat)(L:Nat)(W:World)(j:n=a.length)(h:W.ownsRow (L+1) 186 4 (.slice A n c) n (CB a)):
 Calls prog 110 #[.slice A n c] W λe b=>∃d,e=.returned (VQ d)/\BM L b d a/\Below W.heap.size W b:=by
 subst j
 have k:L<=W.heap.size:=by
  rcases h.2 with ⟨g,o⟩|⟨d,p,cur,g,q,l,_⟩
  ·injection g with _ r
   omega
  ·have:=DN l
   omega
 refine(Lh A a.length c W).mono ?_
 rintro e b ⟨rfl,rfl⟩
 exact⟨_,rfl,⟨i,k,L+1,_,by omega,(Ah.new W _ _).cell 0,h.alloc _⟩,(Ae _ _).alloc (Aa _) _⟩
structure Lk (L:Nat) (W W':World):Prop where
 size:W.heap.size≤W'.heap.size
 block:∀k,L≤k→k<W.heap.size→W'.heap[k]?=W.heap[k]?
theorem Lk.of{L:Nat}{W W':World}(h:Below W.heap.size W W'):Lk L W W':=⟨h.size,fun a _ b=>h.block a b⟩
theorem Lk.cell{L:Nat}{a b:World}(h:Lk L a b){p:Addr}(e:L≤p.block){v:Value}(d:a.cell? p=some v):b.cell? p=some v:=
 (HH (h.block p.block e (Ad a p d))).trans d
theorem BM.since{L:Nat}{W W':World}{g:Nat}{a:List BK}(h:BM L W g a)(b:Lk L W W'):BM L W' g a:=by
 obtain⟨k,d,l,m,n,o,e⟩:=h;refine⟨k,d,l,m,n,b.cell (p:=⟨g,0,none⟩) d o,e.1,?_⟩;rcases e.2 with q|⟨i,r,cur,rfl,t,j,u⟩
 .exact .inl q
 .exact .inr ⟨i,r,cur,rfl,t,(b.block i (by omega) (DN j)).trans j,u⟩
section
open Go.ChangeShapes Go.WideShapes
def Az(W:U)(b n:Nat)(f:Int->Option N):Prop:=
 ∃a:DataW N,W.ownsMap prog 3 Cf b n a/\IsMap a/\∀k d,a.atKey (AV k) d=((f k).map Gr).getD d
def AC(f:Int->Option N)(k:Int)(v:N):Int->Option N:=λa=>if a=k then E v else f a
def SY(f:Int->Option N)(k:Int):Int->Option N:=λa=>if a=k then O else f a
def AF:Int->Option N:=λ_=>O
theorem Az.at{W W':U}{f:Int->Option N}(h:Az W b n f)(e:W'.heap[b]?=W.heap[b]?):Az W' b n f:=by
 obtain⟨a,⟨d,c,g,i⟩,j⟩:=h;exact⟨a,⟨d,c,e.trans g,i⟩,j⟩
theorem Az.obj{W:U}{f:Int->Option N}(h:Az W b n f):∃a c,W.heap[b]?=E (.map a c):=by
 obtain⟨e,⟨a,c,d,_⟩,_⟩:=h;exact⟨a,c,d⟩
theorem Az.lt{W:U}{f:Int->Option N}(h:Az W b n f):b<W.heap.size:=by
 let⟨d,c,a⟩:=h.obj;exact DN a
theorem Az.below{W W':U}{B:Nat}{f:Int->Option N}(h:Az W b n f)(a:Below B W W')(d:b<B):Az W' b n f:=h.at (a.block _ d)
theorem Az.call{W W':U}{f:Int->Option N}(h:Az W b n f)(a:Below W W W'):Az W' b n f:=h.below a h.lt
theorem Az.alloc{W:U}{f:Int->Option N}(h:Az W b n f)(o:Obj):Az (W.alloc o) b n f:=h.call ((Ae _ _).alloc (Aa _) o)
theorem Az.drew{W:U}{f:Int->Option N}(h:Az W b n f):Az W.drew b n f:=h
theorem Az.drewN{W:U}{f:Int->Option N}(h:Az W b n f)(m:Nat):Az (W.drewN m) b n f:=h
theorem Az.setCell{W:U}{f:Int->Option N}(h:Az W b n f){p:Addr}{v:N}{c:N}(a:W.cell? p=c):Az (W.setCell p v) b n f:=by
 refine h.at (B3 W p v b λd=>?_);let⟨g,k,e⟩:=h.obj;subst d;simp[G5,e] at a
theorem Az.grown{W W':U}{f:Int->Option N}{a:Option Nat}(h:Az W b n f)(d:W.grownBy W' a)(e:E b≠a):Az W' b n f:=h.at (d.block _ h.lt e)
theorem Az.made(W:U):Az (W.alloc (.map #[] 0)) W 0 AF:=⟨.map [],My W _ _ _,⟨[],rfl⟩,λ_ _=>rfl⟩
section
variable {tm te:TypeId} {z:Value} {W:World} {b n:Nat} {f:Int→Option Value} {k:Int}
theorem KR(o:Option N)(z:N):(o.map Gr).getD (Gr z)=Gr (o.getD z):=by cases o<;>rfl
theorem Az.look(h:Az W b n f)(d:prog.underlying tm=E (.map 3 te))(e:(Ew te).run prog W=.ok z W)(g: -9223372036854775808<=k)(i:k<=9223372036854775807):
 (B1 tm (.map (E b)) k false).run prog W=.ok ((f k).getD z) W:=by
 obtain⟨p,j,_,l⟩:=h;let⟨m,q,o,a⟩:=j.lookup Mb d e (zd:=.held z) (zp:=[]) rfl<|HZ underlying3 (Lj g i);rw[show(E4 .i64 k)=AV k from rfl,l k,KR] at a
 have:m=(f k).getD z:=by
  unfold Cf at a;simp only[Option.some.injEq,Prod.mk.injEq,DataW.held.injEq] at a;exact a.1
 rw[o,this]
theorem Az.look_ok(h:Az W b n f)(j:prog.underlying tm=E (.map 3 te))(l:(Ew te).run prog W=.ok z W)(m: -9223372036854775808<=k)(o:k<=9223372036854775807):
 (B1 tm (.map (E b)) k true).run prog W=.ok (.tuple #[(f k).getD z,T (f k).isSome]) W:=by
 obtain⟨p,q,_,d⟩:=h;let⟨r,w,g,a⟩:=q.look_ok Mb j l (zd:=.held z) (zp:=[]) rfl<|HZ underlying3 (Lj m o);rw[show(E4 .i64 k)=AV k from rfl] at a g;rw[d k,KR] at a
 have t:r=(f k).getD z:=by
  unfold Cf at a;simp only[Option.some.injEq,Prod.mk.injEq,DataW.held.injEq] at a;exact a.1
 have u:Maps.has p (AV k)=(f k).isSome:=by
  cases i:f k with
  |none=>exact Maps.has_false_of_atKey (λe=>by rw[d k e,i];rfl)
  |some v=>exact Maps.has_true_of_atKey (y:=.held v) (λe=>by rw[d k e,i];rfl)
 rw[show(A0 .i64 k)=A0 .i64 k from rfl,g,t,u]
theorem Az.put(h:Az W b n f)(j:prog.underlying tm=E (.map 3 te))(l:n<Al)(m: -9223372036854775808<=k)(o:k<=9223372036854775807)(v:N):
 ∃d,(D9 tm (.map (E b)) k v).run prog W=.ok () d/\Az d b (n+1) (AC f k v)/\W.mapTurned d b:=by
 obtain⟨x,p,g,q⟩:=h;let⟨d,r,t,u⟩:=p.store Mb j l (HZ underlying3 (Lj m o)) (d:=.held v) (ps:=[]) (val:=v) rfl;refine⟨d,r,⟨_,t,g.put _ _,λa y=>?_⟩,u⟩;by_cases e:a=k
 .subst e;rw[show(E4 .i64 a)=AV a from rfl,MY g (Li a)];simp[AC]
 .have w:AV a≠AV k:=λi=>e (by unfold AV at i;injection i);rw[show(E4 .i64 k)=AV k from rfl,M0 w,q a];simp[AC,e]
theorem Az.drop(h:Az W b n f)(j:prog.underlying tm=E (.map 3 te))(l: -9223372036854775808<=k)(m:k<=9223372036854775807)(g:Ab):
 ∃a,(UH #[tm,3] g #[.map (E b),k]).run prog W=.ok (.tuple #[]) a/\Az a b n (SY f k)/\W.mapTurned a b:=by
 obtain⟨w,o,p,q⟩:=h;let⟨a,r,t,u⟩:=o.drop Mb j (HZ underlying3 (Lj l m)) g;refine⟨a,r,⟨_,t,p.del _,λd x=>?_⟩,u⟩;by_cases e:d=k
 .subst e;rw[show(E4 .i64 d)=AV d from rfl,Maps.atKey_del_same];simp[SY]
 .have v:AV d≠AV k:=λi=>e (by unfold AV at i;injection i);rw[show(E4 .i64 k)=AV k from rfl,Maps.atKey_del_other v,q d];simp[SY,e]
theorem Pc(p:prog.underlying tm=E (.map 3 te))(L:∀u:U,(Ew te).run prog u=.ok z u){es:Array MapEntry}{clock:Nat}(e:W.heap[b]?=E (.map es clock)){R:N->Option (DataW N×List MemPlace)}(w:UI prog 3 R es clock)
 {key:N} {M:Lit} (g:keyOf prog 3 key=M):
 ∃(S:N) (x:Nat) (y:Array MapEntry) (A:Nat),(Ie tm (.map (E b)) key).run prog W=.ok (.tuple #[S,goInt x]) (C1 W b (.map y A))/\
  ∀(m:U) (a:N),m.heap[b]?=E (.map y A)->∃B D,(If tm (.map (E b)) (goInt x) a).run prog m=.ok () (C1 m b (.map B D))/\
   (D9 tm (.map (E b)) key a).run prog W=.ok () (C1 W b (.map B D)):=by
 have K:=Mb;let⟨X,F,_⟩:=w.stamped;rcases K.find W g es.toList w.keys with ⟨n,i⟩|⟨j,k,n,i,q⟩
 .refine⟨z,clock,es.push ⟨key,z,clock⟩,clock+1,?_,λm a o=>⟨es.push ⟨key,a,clock⟩,clock+1,?_,?_⟩⟩
  .simp[Ie,G7 p,Ig e,K.check W false g,n,L,Ih _ e,FZ,C1]
  .have r:(es.push ⟨key,z,clock⟩).findIdx? (λd=>((d.born:Nat):Int)==((clock:Nat):Int))=es.size:=by
    rw[OC]
    have:=OD (l:=(es.push ⟨key,z,clock⟩).toList) (j:=es.size) (e0:=⟨key,z,clock⟩) (by
     simp only[M1,H0,G9,Mx];refine M2.2 ⟨F,by simp,λad Y c Z ae=>?_⟩;simp only[List.mem_singleton] at Z;obtain⟨aa,ab,rfl⟩:=EE.1 Y;have:=X aa ab;omega) (by simp)
    exact this
   have t:(es.push ⟨key,z,clock⟩).modify es.size (λd=>{d with val:=a})=es.push ⟨key,a,clock⟩:=by
    apply IW;rw[IX,M1,M1,<-Array.length_toList,UJ]
   simp[If,Ig o,asInt,asIntOf,goInt,r,t,Ih _ o,FZ,C1]
  .simp[D9,G7 p,Ig e,K.check W false g,n,Ih _ e,FZ,C1]
 .have G:es[j]?=k:=by simpa using i
  have ac:es.modify j (λd=>{d with key:=key})=es:=by
   apply IW;rw[IX,Nt _ _ _ _ i];have:({k with key:=key}:MapEntry)=k:=by rw[<-q]
   rw[this];exact UK _ _ _ i
  refine⟨k.val,k.born,es,clock,?_,λm a o=>⟨es.modify j (λv=>{v with key:=key,val:=a}),clock,?_,?_⟩⟩
  .simp[Ie,G7 p,Ig e,K.check W false g,n,G,q,K.stays W g,ac,Ih _ e,FZ,C1]
  .have r:es.findIdx? (λd=>((d.born:Nat):Int)==((k.born:Nat):Int))=j:=by
    rw[OC];exact OD F i
   have t:es.modify j (λd=>{d with val:=a})=es.modify j (λv=>{v with key:=key,val:=a}):=by
    apply IW;rw[IX,IX,Nt _ _ _ _ i,Nt _ _ _ _ i,<-q]
   simp[If,Ig o,asInt,asIntOf,goInt,r,t,Ih _ o,FZ,C1]
  .simp[D9,G7 p,Ig e,K.check W false g,n,G,q,K.stays W g,Ih _ e,FZ,C1]
theorem Az.entry(h:Az W b n f)(l:prog.underlying tm=E (.map 3 te))(w:∀u:U,(Ew te).run prog u=.ok z u)(x:n<Al)(m: -9223372036854775808<=k)(o:k<=9223372036854775807):
 ∃(j:N) (e:Nat) (g:Array MapEntry) (i:Nat),(Ie tm (.map (E b)) k).run prog W=.ok (.tuple #[j,goInt e]) (C1 W b (.map g i))/\
  ∀(a:U) (d:N),a.heap[b]?=E (.map g i)->∃p q,(If tm (.map (E b)) (goInt e) d).run prog a=.ok () (C1 a b (.map p q))/\Az (C1 a b (.map p q)) b (n+1) (AC f k d):=by
 have y:=h;obtain⟨Y,⟨Z,aa,r,A,ab,ac⟩,ad,ae⟩:=h;let⟨j,e,g,i,B,D⟩:=Pc l w r A<|HZ underlying3 (Lj m o);refine⟨j,e,g,i,B,λa d t=>?_⟩;let⟨F,G,L,M⟩:=D a d t;refine⟨F,G,L,?_⟩;let⟨af,v,S,_⟩:=y.put l x m o d;rw[M] at v;injection v with _ X;subst X;exact S.at<|(Ii t _).trans (Ii r _).symm
end
end
namespace W
open Go.Lib
structure Bb where
 kind:Int
 cell:Int
 val:Int
structure Pg where
 cells:List Int
 threads:List (List (List Bb))
def Ad5:List UInt8:=[114,101,97,100]
def AbV:List UInt8:=[119,114,105,116,101]
def AfN:List UInt8:=[97,100,100]
def Zs:List UInt8:=[99,97,110,99,101,108]
def VR:List (List UInt8):=[Ad5,AbV,AfN,Zs]
def Cn(k:Int):Nat:=if k=1 then 1 else if k=2∨k=3 then 2 else 0
def Fb(a:Bb)(b:Nat)(d:Bool):Bool:=
 if Cn a.kind=0 then decide (a.kind=4)&&d&&decide (a.cell=0)&&decide (a.val=0)
 else(decide (Cn a.kind=2)||decide (a.val=0))&&decide (0<=a.cell)&&decide (a.cell<b)&&decide (-1000<=a.val)&&decide (a.val<=1000)
def F1(n:Nat):List Bb->Bool
 |[]=>true
 |b::a=>Fb b n a.isEmpty&&F1 n a
def M9(n:Nat)(l:List Bb):Bool:=decide (1<=l.length)&&decide (l.length<=6)&&F1 n l
def Jw(n:Nat)(t:List (List Bb)):Bool:=decide (t.length<=3)&&t.all (M9 n)
def F3(n:Int):Bool:=decide (-1000000<=n)&&decide (n<=1000000)
def Fm(p:Pg):Bool:=decide (1<=p.cells.length)&&decide (p.cells.length<=4)&&decide (1<=p.threads.length)&&decide (p.threads.length<=4)&&p.cells.all F3&&p.threads.all (Jw p.cells.length)
theorem Ll(u:Nat):∀c∈decDigits u,48<=c.toNat/\c.toNat<=57:=by
 induction u using IN with
 |_ u b=>
  intro c a;by_cases h:u<10
  .rw[decDigits,dif_pos h] at a;rw[List.mem_singleton.1 a,Df (by omega)];omega
  .rw[decDigits,dif_neg h] at a;rcases Eh.1 a with a|a
   .exact b (u/10) (by omega) c a
   .rw[List.mem_singleton.1 a,Df (by omega)];omega
theorem Qy(n:Int):∀c∈itoa n,c=45∨(48<=c.toNat/\c.toNat<=57):=by
 intro c a;unfold itoa at a
 split at a
 .rcases B2.1 a with rfl|a
  .exact .inl rfl
  .exact .inr (Ll _ c a)
 .exact .inr (Ll _ c a)
theorem Lm:∀(l:List Bb) (n:Nat),F1 n l=true->∀b∈l,∃d,Fb b n d=true
 |[],_,_,b,a=>by cases a
 |g::e,n,h,b,a=>by
  unfold F1 at h;rw[EG] at h;rcases B2.1 a with rfl|a
  .exact⟨_,h.1⟩
  .exact Lm e n h.2 b a
theorem CG{l:List Bb}(h:M9 n l=true):1<=l.length/\l.length<=6/\F1 n l=true:=by
 unfold M9 at h;simp at h;exact⟨by omega,h.1.2,h.2⟩
theorem Bp{t:List (List Bb)}(h:Jw n t=true):t.length<=3/\∀a∈t,M9 n a=true:=by
 unfold Jw at h;simp at h;exact h
theorem AM{p:Pg}(h:Fm p=true):1<=p.cells.length/\p.cells.length<=4/\1<=p.threads.length/\p.threads.length<=4/\(∀a∈p.cells,F3 a=true)/\∀b∈p.threads,Jw p.cells.length b=true:=by
 unfold Fm at h;simp only[EG,decide_eq_true_eq,List.all_eq_true] at h;exact⟨h.1.1.1.1.1,h.1.1.1.1.2,h.1.1.1.2,h.1.1.2,h.1.2,h.2⟩
theorem RS(c:Nat):∀(l:List (List UInt8)),(∀a∈l,a.length<=c)->IZ l<=l.length*c
 |[],_=>by simp[IZ]
 |a::b,h=>by
  have i:=h a (by simp);have d:=RS c b (λe g=>h e (by simp[g]));simp only[IZ,G9,List.sum_cons,List.length_cons] at d|-;rw[Nat.add_mul];omega
theorem Qz(c k:Nat)(l:List (List UInt8))(h:∀a∈l,a.length<=c)(d:l.length<=k):(join l [32]).length<=k*(c+1):=by
 have e:(join l [32]).length<=IZ l+l.length:=by
  cases l with
  |nil=>simp[Lib.join_nil]
  |cons a g=>
   rw[Lib.join_length];simp;omega
 have i:=RS c l h;have b:l.length*(c+1)<=k*(c+1):=Nat.mul_le_mul_right _ d;rw[OF] at b;rw[OF] at b|-;omega
theorem RT{a:Bb}{b:Bool}(d:n<=4)(h:Fb a n b=true): -1000000<=a.cell/\a.cell<=1000000/\-1000000<=a.val/\a.val<=1000000:=by
 unfold Fb at h
 split at h
 .simp at h;omega
 .simp at h;omega
end W
def Gs(l:List Int):List N:=l.map (A0 .i64)
theorem BY(l:List Int):(Gs l).length=l.length:=by simp[Gs]
def BQ(a:Bb):Array N:= #[a.kind,a.cell,a.val]
def CQ(w:U)(v:N)(l:List Bb):Prop:=
 ∃(g:Option Addr) (c b d:Nat),v=C g l.length c/\(g=O->l.length=0/\c=0)/\(∀a,g=E a->0<l.length->a=⟨b,d,O⟩)/\l.length<=c/\
  ∀e a,l[e]?=E a->w.cell? ⟨b,d+e*3,O⟩=E (I J a.kind)/\w.cell? ⟨b,d+e*3+1,O⟩=E (I J a.cell)/\w.cell? ⟨b,d+e*3+2,O⟩=E (I J a.val)
def DO{b:Type}(R:U->N->b->Prop)(w:U)(v:N)(l:List b):Prop:=
 ∃a:List N,BU w v a/\a.length=l.length/\∀(d:Nat) e g,a[d]?=E e->l[d]?=E g->R w e g
abbrev GG:=DO CQ
abbrev J0:=DO GG
def Ln(w:U)(a b:N)(p:Pg):Prop:=BU w a (Gs p.cells)/\J0 w b p.threads
theorem CQ.below{w w':U}{v:N}{l:List Bb}(h:CQ w v l)(e:Below w w w'):CQ w' v l:=by
 obtain⟨k,c,a,b,m,n,o,q,r⟩:=h;refine⟨k,c,a,b,m,n,o,q,λd t u=>?_⟩;let⟨g,i,j⟩:=r d t u;exact⟨(e.cell (p:=⟨a,b+d*3,O⟩) (Ad w _ g)).trans g,(e.cell (p:=⟨a,b+d*3+1,O⟩) (Ad w _ i)).trans i,(e.cell (p:=⟨a,b+d*3+2,O⟩) (Ad w _ j)).trans j⟩
theorem DO.below{a:Type}{R:U->N->a->Prop}(d:∀ {w w' v x},R w v x->Below w w w'->R w' v x){w w':U}{v:N}{l:List a}(h:DO R w v l)(b:Below w w w'):DO R w' v l:=by
 obtain⟨e,g,i,j⟩:=h;exact⟨e,g.below b (Aa _),i,λk m x n o=>d (j k m x n o) b⟩
theorem GG.below{w w':U}{v:N}{l:List (List Bb)}(h:GG w v l)(a:Below w w w'):GG w' v l:=DO.below (R:=CQ) (λh a=>CQ.below h a) h a
theorem J0.below{w w':U}{v:N}{l:List (List (List Bb))}(h:J0 w v l)(a:Below w w w'):J0 w' v l:=DO.below (R:=GG) (λh a=>GG.below h a) h a
theorem Ln.below{w w':U}{v u:N}{p:Pg}(h:Ln w v u p)(a:Below w w w'):Ln w' v u p:=⟨h.1.below a (Aa _),J0.below h.2 a⟩
theorem CQ.shape{w:U}{v:N}{l:List Bb}(h:CQ w v l):∃a c,v=C a l.length c:=by
 obtain⟨a,c,_,_,h,_⟩:=h;exact⟨a,c,h⟩
theorem DO.shape{b:Type}{R:U->N->b->Prop}{w:U}{v:N}{l:List b}(h:DO R w v l):∃a c,v=C a l.length c:=by
 obtain⟨g,d,e,_⟩:=h;let⟨a,c,h⟩:=d.shape;exact⟨a,c,by rw[h,e]⟩
theorem GH{w:U}{xs:List N}(h:BU w (C A n c) xs){u:N}(d:xs[j]?=u):∃a b,A=E ⟨a,b,O⟩/\w.cell? ⟨a,b+j,O⟩=u/\j<n/\n<=c:=by
 obtain⟨p,q,a,b,e,g,i,r,k⟩:=h;injection e with l t m;subst l m;have v:=(Am.1 d).1
 cases A with
 |none=>exact absurd (g rfl).1 (by omega)
 |some o=>
  obtain rfl:=i o rfl (by omega);exact⟨a,b,rfl,k j u d,by omega,by omega⟩
theorem CQ.at{w:U}{l:List Bb}(h:CQ w (C A n c) l){a:Bb}(e:l[j]?=a):
 ∃b d,A=E ⟨b,d,O⟩/\w.cell? ⟨b,d+j*3,O⟩=a.kind/\w.cell? ⟨b,d+j*3+1,O⟩=a.cell/\w.cell? ⟨b,d+j*3+2,O⟩=a.val/\j<n/\n<=c:=by
 obtain⟨v,x,b,d,g,i,k,y,m⟩:=h;injection g with o z p;subst o p;have B:=(Am.1 e).1
 cases A with
 |none=>exact absurd (i rfl).1 (by omega)
 |some q=>
  obtain rfl:=k q rfl (by omega);let⟨r,t,u⟩:=m j a e;exact⟨b,d,rfl,r,t,u,by omega,by omega⟩
theorem DO.at{d:Type}{R:U->N->d->Prop}{w:U}{l:List d}(h:DO R w (C A n c) l){x:d}(g:l[j]?=x):
 ∃a b i,A=E ⟨a,b,O⟩/\w.cell? ⟨a,b+j,O⟩=E i/\R w i x/\j<n/\n<=c:=by
 obtain⟨e,m,r,o⟩:=h;have t:=(Am.1 g).1;have k:e[j]?=e[j]:=An (by omega);let⟨a,b,p,q,k1,k2⟩:=GH m k;exact⟨a,b,e[j],p,q,o j _ x k g,k1,k2⟩
def CC(t i:Int):Int:=if t<0∨4<=t∨i<0∨3<=i then 0 else 3*t+i+1
theorem VT(t i:Int)(w:U):Calls prog 339 #[t,i] w λj k=>j=R (CC t i)/\w=k:=by
 by_cases b:t<0
 .have a:CC t i=0:=by unfold CC;rw[if_pos (.inl b)]
  have l:decide (t<0)=true:=by simpa using b
  rw[a];go_in;go_wp2;go_ret;exact⟨rfl,rfl⟩
 .have l:decide (t<0)=false:=by simpa using b
  by_cases d:4<=t
  .have a:CC t i=0:=by unfold CC;rw[if_pos (.inr (.inl d))]
   have m:decide (4<=t)=true:=by simpa using d
   rw[a];go_in;go_wp2;go_ret;exact⟨rfl,rfl⟩
  .have m:decide (4<=t)=false:=by simpa using d
   by_cases e:i<0
   .have a:CC t i=0:=by unfold CC;rw[if_pos (.inr (.inr (.inl e)))]
    have n:decide (i<0)=true:=by simpa using e
    rw[a];go_in;go_wp2;go_ret;exact⟨rfl,rfl⟩
   .have n:decide (i<0)=false:=by simpa using e
    by_cases g:3<=i
    .have a:CC t i=0:=by unfold CC;rw[if_pos (.inr (.inr (.inr g)))]
     have o:decide (3<=i)=true:=by simpa using g
     rw[a];go_in;go_wp2;go_ret;exact⟨rfl,rfl⟩
    .have a:CC t i=3*t+i+1:=by unfold CC;rw[if_neg (by omega)]
     have o:decide (3<=i)=false:=by simpa using g
     rw[a];go_in;go_wp2;go_ret;exact⟨rfl,rfl⟩
structure Gi (w:U):Prop where
 word:Qs w
 errs:∀g,g∈([]:List Nat)
  ++[23]
  ++[12]
  ++[11]
  ->∃a,w.cell? ⟨g,0,O⟩=E (.iface 563 (Q (E a)))
 acts:∀(j:Nat) x,VR[j]?=E x->w.cell? ⟨30,j,O⟩=E (BH x)
theorem Gi.below{w w':U}(h:Gi w)(a:Below w w w'):Gi w':=
 ⟨h.word.below a,λd j=>by
  obtain⟨k,e⟩:=h.errs d j;exact⟨k,(a.cell (p:=d) (Ad w _ e)).trans e⟩,λb g i=>(a.cell (p:=⟨30,b,O⟩) (Ad w _ (h.acts b g i))).trans (h.acts b g i)⟩
def Aaf(p:Pg):Prop:=∀(b d:N) (a:U),Ln a b d p->Gi a->Calls prog 133 #[.agg #[b,d]] a λe g=>e=R .nilIface/\Below a.heap.size a g
theorem BU.addr{w:U}{xs:List N}(h:BU w (C A n c) xs)(d:0<xs.length):∃a b,A=E ⟨a,b,O⟩:=by
 obtain⟨l,m,a,b,e,g,i,_,_⟩:=h;injection e with j o p;subst j
 cases A with
 |none=>have:=(g rfl).1;omega
 |some k=>exact⟨a,b,by rw[i k rfl d]⟩
def DP(l:List Bb):List N:=l.flatMap λa=>(BQ a).toList
theorem QB(a:Bb):∀u∈(BQ a).toList,u.oneCell'=true:=by
 intro u b;simp only[BQ,B2,List.not_mem_nil,or_false] at b;rcases b with rfl|rfl|rfl<;>rfl
theorem Lo:∀(l:List Bb) (k:Nat) (a:Bb),l[k]?=a->∀b,b<3->(DP l)[k*3+b]?=(BQ a)[b]?
 |[],k,a,h,_,_=>by simp at h
 |d::l,0,a,h,b,e=>by
  obtain rfl:d=a:=by simpa using h
  unfold DP;rw[E2,Ek (by simp[BQ];omega)];simp
 |d::l,k+1,a,h,b,e=>by
  have g:=Lo l k a (by simpa using h) b e;unfold DP at g|-;rw[E2,EW (by simp[BQ];omega)];rw[<-g]
  congr 1
  simp[BQ];omega
theorem Zv:(prog.info? 56).map (λa=>(a.zero,a.size,a.bytes))=E (E (.agg #[(),(),()]),3,24):=by kernel_rfl
structure Th where
 tx:Int
 act:Int
 begun:Bool
 adding:Bool
 read:Int
 waits:Int
structure Wd where
 p:Pg
 ts:List Th
 es:List Ev
def Th.new:Th:=⟨0,0,false,false,0,0⟩
def Gt(n:Int):Prop:= -1000000000<=n/\n<=1000000000
def Wd.live(d:Wd)(i:Int):Option (Th×List (List Bb)):=
 if i<0 then O else match d.ts[i.toNat]?,d.p.threads[i.toNat]? with
  |some a,E b=>if a.tx=b.length then O else E (a,b)
  |_,_=>O
def Wd.put(d:Wd)(k:Nat)(n:Int)(t:Th)(e:Ev):(Ev×Bool)×Wd:=(({e with tx:=CC k n},true),⟨d.p,d.ts.set k t,d.es++[{e with tx:=CC k n}]⟩)
def evB(i:Int):Ev:=⟨1,0,i,0,0,0,0,0⟩
def RU(k:Int):Ev:=⟨k,0,0,0,0,0,0,0⟩
def evR(c:Int):Ev:=⟨2,0,0,c,1,0,0,0⟩
def evW(c v:Int):Ev:=⟨2,0,0,c,2,0,v,0⟩
def Zx(v r:Int):Ev:=⟨3,0,0,0,0,0,v,r⟩
def Kx(t:Th)(a:Bb):Ev:=if a.kind=1 then evR a.cell else if a.kind=2 then evW a.cell a.val else if t.adding=true then evW a.cell (a.val+t.read) else evR a.cell
def GI(t:Th)(l:List Bb):Ev:=match l[t.act.toNat]? with
 |none=>RU 4
 |some a=>if a.kind=4 then RU 7 else Kx t a
def Bk(t:Th)(l:List (List Bb)):List Bb:=l[t.tx.toNat]?.getD []
def Wd.next(d:Wd)(i:Int):(Ev×Bool)×Wd:=match d.live i with
 |none=>((Ev.zero,false),d)
 |some (a,b)=>if a.waits≠0 then((Ev.zero,false),d)
  else if a.begun=false then d.put i.toNat a.tx {a with begun:=true} (evB i)
  else d.put i.toNat a.tx {a with waits:=(GI a (Bk a b)).kind} (GI a (Bk a b))
def Wd.ends(d:Wd)(k:Nat)(t:Th)(kind:Int):(Ev×Bool)×Wd:=d.put k t.tx ⟨t.tx+1,0,false,false,0,0⟩ (RU kind)
def Th.reads(t:Th)(a:Bb):Prop:=a.kind=1∨a.kind=3/\t.adding=false
instance (t:Th) (a:Bb):Decidable (t.reads a):=by unfold Th.reads;infer_instance
instance (n:Int):Decidable (Gt n):=by unfold Gt;infer_instance
def Lp(d:Wd)(k:Nat)(t:Th)(a:Bb)(v:Int):(Ev×Bool)×Wd:=
 if t.reads a then
  if ¬Gt v∨a.kind=3/\¬Gt (v+a.val) then((Ev.zero,false),d)
  else if a.kind=3 then d.put k t.tx {t with waits:=0,adding:=true,read:=v} (Zx v 3)
  else d.put k t.tx {t with waits:=0,act:=t.act+1} (Zx v 3)
 else d.put k t.tx {t with waits:=0,adding:=false,act:=t.act+1} (Zx 0 1)
def Wd.answer(d:Wd)(i v:Int)(b:Bool):(Ev×Bool)×Wd:=match d.live i with
 |none=>((Ev.zero,false),d)
 |some (a,e)=>if a.waits=0 then((Ev.zero,false),d)
  else if b=true then d.ends i.toNat a 6
  else if a.waits=4 then d.ends i.toNat a 5
  else if a.waits=7 then((Ev.zero,false),d)
  else match (Bk a e)[a.act.toNat]? with
   |none=>((Ev.zero,false),d)
   |some g=>Lp d i.toNat a g v
structure S7 (t:Th) (l:List (List Bb)):Prop where
 t0:0<=t.tx
 t1:t.tx<=l.length
 a0:0<=t.act
 w:t.waits=0∨t.waits=2∨t.waits=4∨t.waits=7
 wb:t.waits≠0->t.begun=true
 r:Gt t.read
 a1:t.act<=(Bk t l).length
 a2:t.waits=2->∃a,(Bk t l)[t.act.toNat]?=E a/\a.kind≠4
 a3:t.adding=true->∃a,(Bk t l)[t.act.toNat]?=E a/\a.kind=3/\Gt (a.val+t.read)
def S8(p:Pg):Prop:=∀b∈p.threads,∀c∈b,∀a∈c,a.kind=3/\a.val=1
structure BL (d:Wd):Prop where
 ok:Fm d.p=true
 len:d.ts.length=d.p.threads.length
 th:∀(k:Nat) t l,d.ts[k]?=E t->d.p.threads[k]?=E l->S7 t l
 add:S8 d.p
theorem BE{d:Wd}{i:Int}{t:Th}{l:List (List Bb)}(h:d.live i=E (t,l)):0<=i/\d.ts[i.toNat]?=t/\d.p.threads[i.toNat]?=l/\t.tx≠l.length:=by
 unfold Wd.live at h;by_cases b:i<0
 .rw[if_pos b] at h;cases h
 .rw[if_neg b] at h
  split at h
  .rename_i e g j k;by_cases a:e.tx=g.length
   .rw[if_pos a] at h;cases h
   .rw[if_neg a] at h;injection h with h;injection h with m n;subst m n;exact⟨by omega,j,k,a⟩
  .cases h
theorem S7.ended{t:Th}{l:List (List Bb)}(h:S7 t l)(b:t.tx≠l.length):S7 ⟨t.tx+1,0,false,false,0,0⟩ l:=
 ⟨by have:=h.t0;simp only;omega,by have:=h.t1;simp only;omega,by simp,.inl rfl,λa=>absurd rfl a,by simp[Gt],by simp,λa=>by simp at a,λa=>by simp at a⟩
theorem BL.set{d:Wd}(h:BL d){k:Nat}{t':Th}{es:List Ev}(j:∀l,d.p.threads[k]?=E l->S7 t' l):BL ⟨d.p,d.ts.set k t',es⟩:=by
 refine⟨h.ok,by simpa using h.len,λb m l a e=>?_,h.add⟩;by_cases g:b=k
 .subst g
  have n:b<d.ts.length:=by
   have:=(Am.1 e).1;have i:=h.len;simp only at this;omega
  simp only at a;rw[El n] at a;injection a with a;subst a;exact j l e
 .simp only at a;rw[Et (λi=>g i.symm)] at a;exact h.th b m l a e
theorem BL.put{d:Wd}(h:BL d){n:Int}{t':Th}{e:Ev}(a:∀l,d.p.threads[k]?=E l->S7 t' l):BL (d.put k n t' e).2:=h.set a
theorem BL.next{d:Wd}(h:BL d)(i:Int):BL (d.next i).2:=by
 unfold Wd.next
 split
 .exact h
 .rename_i e o p;obtain⟨u,q,l,v⟩:=BE p;have a:=h.th _ _ _ q l;by_cases n:e.waits≠0
  .rw[if_pos n];exact h
  .rw[if_neg n];have w:e.waits=0:=by omega
   by_cases m:e.begun=false
   .rw[if_pos m];refine h.put λr b=>?_;rw[l] at b;injection b with b;subst b;exact⟨a.t0,a.t1,a.a0,a.w,λ_=>rfl,a.r,a.a1,a.a2,a.a3⟩
   .rw[if_neg m];refine h.put λr b=>?_;rw[l] at b;injection b with b;subst b;refine⟨a.t0,a.t1,a.a0,?_,λ_=>by simpa using m,a.r,a.a1,?_,a.a3⟩
    .simp only;unfold GI
     split
     .exact .inr (.inr (.inl rfl))
     .by_cases g:(‹Bb›).kind=4
      .rw[if_pos g];exact .inr (.inr (.inr rfl))
      .rw[if_neg g];refine .inr (.inl ?_);unfold Kx
       split
       .rfl
       .split
        .rfl
        .split<;>rfl
    .simp only;intro j;show∃k,(Bk e o)[e.act.toNat]?=E k/\k.kind≠4;unfold GI at j
     split at j
     .simp[RU] at j
     .rename_i k t;by_cases g:k.kind=4
      .rw[if_pos g] at j;simp[RU] at j
      .exact⟨k,t,g⟩
theorem BL.ends{d:Wd}(h:BL d){i:Int}{t:Th}{l:List (List Bb)}(e:d.live i=E (t,l))(kind:Int):BL (d.ends i.toNat t kind).2:=by
 obtain⟨k,g,b,j⟩:=BE e;refine h.put λm a=>?_;rw[b] at a;injection a with a;subst a;exact(h.th _ _ _ g b).ended j
theorem BL.answer{d:Wd}(h:BL d)(i v:Int)(q:Bool):BL (d.answer i v q).2:=by
 unfold Wd.answer
 split
 .exact h
 .rename_i g D r;have t:=λF=>h.ends r F;obtain⟨Y,G,l,Z⟩:=BE r;have e:=h.th _ _ _ G l;by_cases u:g.waits=0
  .rw[if_pos u];exact h
  .rw[if_neg u];by_cases w:q=true
   .rw[if_pos w];exact t 6
   .rw[if_neg w];by_cases x:g.waits=4
    .rw[if_pos x];exact t 5
    .rw[if_neg x];by_cases y:g.waits=7
     .rw[if_pos y];exact h
     .rw[if_neg y]
      split
      .exact h
      .rename_i j o;have aa:=(Am.1 o).1;have ab:=e.a0;have z:∀p,g.act+1=p->p<=(Bk g D).length:=by intro p a;omega
       unfold Lp;by_cases A:g.reads j
       .rw[if_pos A];by_cases m:¬Gt v∨j.kind=3/\¬Gt (v+j.val)
        .rw[if_pos m];exact h
        .rw[if_neg m];have L:Gt v:=I0 λa=>m (.inl a);by_cases k:j.kind=3
         .rw[if_pos k];have M:Gt (v+j.val):=I0 λa=>m (.inr ⟨k,a⟩);refine h.put λB b=>?_;rw[l] at b;injection b with b;subst b;exact⟨e.t0,e.t1,e.a0,.inl rfl,λa=>absurd rfl a,L,e.a1,λa=>by simp at a,λ_=>⟨j,o,k,by unfold Gt at M|-;simp only;omega⟩⟩
         .rw[if_neg k]
          have S:g.adding=false:=by
           cases W:g.adding with
           |false=>rfl
           |true=>
            obtain⟨ac,n,X,_⟩:=e.a3 W;rw[o] at n;injection n with n;subst n;exact absurd X k
          refine h.put λB b=>?_;rw[l] at b;injection b with b;subst b;exact⟨e.t0,e.t1,by simp only;omega,.inl rfl,λa=>absurd rfl a,e.r,by simp only[Bk];exact z _ rfl,λa=>by simp at a,λa=>by simp[S] at a⟩
       .rw[if_neg A];refine h.put λB b=>?_;rw[l] at b;injection b with b;subst b;exact⟨e.t0,e.t1,by simp only;omega,.inl rfl,λa=>absurd rfl a,e.r,by simp only[Bk];exact z _ rfl,λa=>by simp at a,λa=>by simp at a⟩
def Wd.start(p:Pg):Wd:=⟨p,p.threads.map λ_=>Th.new,[]⟩
theorem BL.start{p:Pg}(h:Fm p=true)(d:S8 p):BL (Wd.start p):=by
 refine⟨h,by simp[Wd.start],λe g i b j=>?_,d⟩
 simp only[Wd.start,EK] at b
 obtain⟨k,_,rfl⟩:=Eo.1 b
 exact⟨by simp[Th.new],by simp[Th.new],by simp[Th.new],.inl rfl,λa=>absurd rfl a,by simp[Gt,Th.new],by simp[Th.new],λa=>by simp[Th.new] at a,λa=>by simp[Th.new] at a⟩
structure Ob where
 kind:Int
 init:Int
deriving DecidableEq
structure Dd where
 obj:Int
 op:Int
 key:Int
 val:Int
 ret:Int
 got:Int
 pos:Int
 back:Int
deriving DecidableEq
structure St where
 id:Int
 thr:Int
 status:Int
 beg:Int
 fin:Int
 tri:Int
 deeds:List Dd
 stand:Int
deriving DecidableEq
structure Au where
 many:Nat
 sts:List St
def Au.upd(A:Au)(i:Nat)(s:St):Au:=⟨A.many+1,A.sts.set i s⟩
def VU(op ret:Int):Prop:=Dt op ret=true
def Ob.okB(o:Ob):Bool:=decide (1<=o.kind)&&decide (o.kind<=4)&&decide (-1000000000<=o.init)&&decide (o.init<=1000000000)&&(o.kind==1||o.kind==2||o.init==0)
def Hn(os:List Ob)(e:Ev):Prop:=e.Ok/\(e.kind=2->∃a,0<=e.obj/\os[e.obj.toNat]?=E a/\Gq e.op=a.kind)
def Bn(os:List Ob)(es:List Ev):Prop:=os.length<=8/\es.length<=400/\(∀a∈os,a.okB=true)/\∀b∈es,Hn os b
def Bc(kind:Int):List Int:=if kind=2∨kind=4∨kind=7 then [1] else if kind=3 then [2] else if kind=5 then [3] else if kind=6 then [1,2,3,4] else []
def CJ(A:Au)(e:Ev):St:=⟨e.tx,e.thr,1,A.many,-1,-1,[],1⟩
def VE(n:Nat)(e:Ev)(s:St):Option St:=
 if s.stand∈Bc e.kind then
  if e.kind=2 then E {s with stand:=2,deeds:=s.deeds++[⟨e.obj,e.op,e.key,e.val,0,0,n,-1⟩]}
  else if e.kind=3 then(match s.deeds.getLast? with
   |some a=>if Dt a.op e.ret=true then E {s with stand:=1,deeds:=s.deeds.dropLast++[{a with ret:=e.ret,got:=e.val,back:=n}]} else O
   |none=>O)
  else if e.kind=4 then E {s with stand:=3,tri:=n,status:=2}
  else if e.kind=7 then E {s with stand:=4}
  else E {s with stand:=5,fin:=n,status:=if e.kind=5 then 3 else 4}
 else O
def Au.fd(A:Au)(e:Ev):Option Au:=
 if e.kind=1 then(if(A.sts.any λs=>s.id==e.tx)||(A.sts.any λs=>s.thr==e.thr&&s.stand !=5) then O else E ⟨A.many+1,A.sts++[CJ A e]⟩)
 else match A.sts.findIdx? (λs=>s.id==e.tx) with
  |none=>O
  |some a=>match A.sts[a]? with
   |none=>O
   |some s=>(VE A.many e s).map (A.upd a)
def Au.feeds:Au->List Ev->Option Au
 |a,[]=>E a
 |a,b::d=>(a.fd b).bind λa=>a.feeds d
structure VF (A:Au):Prop where
 len:A.sts.length<=A.many
 each:∀s∈A.sts,s.deeds.length<=A.many/\(0<=s.thr/\s.thr<=7)/\(1<=s.id/\s.id<=1000)/\(1<=s.stand/\s.stand<=5)/\(s.stand=2->s.deeds≠[])
 nodup:(A.sts.map (·.id)).Nodup
 busy:∀(i j:Nat) s s',A.sts[i]?=E s->A.sts[j]?=E s'->s.thr=s'.thr->s.stand≠5->s'.stand≠5->i=j
theorem VF.start:VF ⟨0,[]⟩:=⟨Aa _,(fun s h=>by cases h),List.nodup_nil,(fun a b s d h=>by simp at h)⟩
theorem Hn.tx{os:List Ob}{e:Ev}(h:Hn os e):1<=e.tx/\e.tx<=1000:=by
 have a:BK.T∈e.fl:=by
  unfold Ev.fl Jd BP DL
  split
  .simp
  .split
   .simp
   .split<;>simp
 exact h.1.2.1 _ a
theorem Hn.thr{os:List Ob}{e:Ev}(h:Hn os e)(a:e.kind=1):0<=e.thr/\e.thr<=7:=by
 have b:BK.H∈e.fl:=by
  unfold Ev.fl Jd;rw[if_pos a];simp
 exact h.1.2.1 _ b
theorem Mv:∀(l:List BK) (r:Ev),BK.R∉l->(l.foldl (λr f=>r.put f 0) r).ret=r.ret
 |[],_,_=>rfl
 |f::l,r,h=>by
  simp only[B2,not_or] at h;rw[List.foldl_cons,Mv l _ h.2];exact Ev.put_other r f .R 0 h.1
theorem Hn.ret{os:List Ob}{e:Ev}(h:Hn os e):e.ret<=3:=by
 by_cases b:e.kind=3
 .exact(h.1.1.2.2.2 b).2
 .have d:BK.R∉e.fl:=by
   unfold Ev.fl Jd BP
   split
   .simp
   .split
    .split<;>split<;>simp
    .try rw[if_neg b]
     simp
  have a:=congrArg Ev.ret h.1.2.2;unfold Ev.strip at a;rw[List.take_length,Mv _ _ d] at a;simp[Ev.zero] at a;omega
theorem Hn.kind{os:List Ob}{e:Ev}(h:Hn os e):1<=e.kind/\e.kind<=7:=⟨h.1.1.1,h.1.1.2.1⟩
theorem J8{l:List St}:(l.findIdx? (λs=>s.id==x)=O/\∀s∈l,s.id≠x)∨∃a s,l.findIdx? (λs=>s.id==x)=E a/\l[a]?=E s/\s.id=x:=by
 cases h:l.findIdx? (λs=>s.id==x) with
 |none=>
  refine .inl ⟨rfl,λs b d=>?_⟩;rw[List.findIdx?_eq_none_iff] at h;have:=h s b;simp[d] at this
 |some a=>
  let⟨e,g,_⟩:=List.findIdx?_eq_some_iff_getElem.1 h;exact .inr ⟨a,l[a],rfl,An e,by simpa using g⟩
theorem VV{e:Ev}{s s':St}(h:VE n e s=s'):s'.id=s.id/\s'.thr=s.thr/\s'.deeds.length<=s.deeds.length+1/\(1<=s'.stand/\s'.stand<=5)/\(s'.stand=2->s'.deeds≠[])/\s.stand≠5:=by
 unfold VE at h
 split at h
 case isFalse=>cases h
 case isTrue a=>
  have b:s.stand≠5:=by
   intro d;rw[d] at a;unfold Bc at a
   split at a
   .simp at a
   .split at a
    .simp at a
    .split at a
     .simp at a
     .split at a<;>simp at a
  split at h
  .injection h with h;subst h;exact⟨rfl,rfl,by simp,by simp,by simp,b⟩
  .split at h
   .split at h
    case h_1 g i=>
     split at h
     .injection h with h;subst h;refine⟨rfl,rfl,?_,by simp,by simp,b⟩;simp only[Ef,List.length_dropLast,E3];omega
     .cases h
    case h_2=>cases h
   .split at h
    .injection h with h;subst h;exact⟨rfl,rfl,by simp,by simp,by simp,b⟩
    .split at h
     .injection h with h;subst h;exact⟨rfl,rfl,by simp,by simp,by simp,b⟩
     .injection h with h;subst h;exact⟨rfl,rfl,by simp,by simp,by simp,b⟩
theorem VF.fd{A x:Au}{os:List Ob}{e:Ev}(h:VF A)(F:Hn os e)(g:A.fd e=E x):VF x/\x.many=A.many+1:=by
 unfold Au.fd at g
 split at g
 case isTrue G=>
  split at g
  .cases g
  case isFalse r=>
   injection g with g;subst g;simp only[Bool.or_eq_true,List.any_eq_true,not_or,not_exists,not_and,beq_iff_eq,EG,bne_iff_ne] at r;obtain⟨W,L⟩:=r;have af:=F.thr G;have b:=F.tx;refine⟨⟨by simp only[Ef,E3];have:=h.len;omega,λs k=>?_,?_,?_⟩,rfl⟩
   .rcases Eh.1 k with k|k
    .obtain⟨X,y⟩:=h.each s k;exact⟨by simp only;omega,y⟩
    .rw[List.mem_singleton] at k;subst k;simp[CJ];omega
   .rw[H0,M2];refine⟨h.nodup,by simp,?_⟩;intro t Y p r;simp[CJ] at r;obtain⟨s,k,rfl⟩:=EE.1 Y;subst r;exact W s k
   .intro m i s n d a o u v;simp only at d a;rw[List.getElem?_append] at d a
    split at d
    .split at a
     .exact h.busy m i s n d a o u v
     .have z:n=CJ A e:=by
       have:=Ap a;simpa using this
      subst z;exact absurd (L s (Ap d) o) (by simpa using u)
    .split at a
     .have z:s=CJ A e:=by
       have:=Ap d;simpa using this
      subst z;exact absurd (L n (Ap a) o.symm) (by simpa using v)
     .have Z:=(Am.1 d).1;have aa:=(Am.1 a).1;simp at Z aa;omega
 case isFalse G=>
  rcases J8 (l:=A.sts) (x:=e.tx) with ⟨B,_⟩|⟨m,s,B,d,Af⟩
  .rw[B] at g;cases g
  .rw[B] at g;simp only[d] at g;obtain⟨n,ab,rfl⟩:=Eo.1 g;obtain⟨k1,k2,k3,k4,k5,k6⟩:=VV ab;have M:=(Am.1 d).1;obtain⟨ag,ac,ad,ah⟩:=h.each s<|Ap d
   have D:∀(i:Nat) j,(A.sts.set m n)[i]?=E j->(i=m/\j=n)∨(i≠m/\A.sts[i]?=E j):=by
    intro i j b;by_cases a:i=m
    .subst a;rw[El M] at b;injection b with b;exact .inl ⟨rfl,b.symm⟩
    .rw[Et (Ne.symm a)] at b;exact .inr ⟨a,b⟩
   refine⟨⟨by simp only[Au.upd,List.length_set];have:=h.len;omega,λj b=>?_,?_,?_⟩,rfl⟩
   .simp only[Au.upd] at b|-;rcases Ik b with b|rfl
    .obtain⟨X,y⟩:=h.each j b;exact⟨by omega,y⟩
    .exact⟨by omega,by rw[k2];exact ac,by rw[k1];exact ad,k4,k5⟩
   .have:(A.upd m n).sts.map (·.id)=A.sts.map (·.id):=by
     refine H2 λi=>?_;rw[EK,EK];simp only[Au.upd];by_cases a:m=i
     .subst a;rw[El M,d];simp[k1]
     .rw[Et a]
    rw[this];exact h.nodup
   .intro t p j w b q o u v;rcases D t j b with ⟨rfl,rfl⟩|⟨ai,S⟩
    .rcases D p w q with ⟨rfl,rfl⟩|⟨ae,q⟩
     .rfl
     .exact h.busy t p s w d q (by rw[<-k2];exact o) k6 v
    .rcases D p w q with ⟨rfl,rfl⟩|⟨ae,q⟩
     .exact h.busy t p j s S d (by rw[<-k2];exact o) u k6
     .exact h.busy t p j w S q o u v
def AR(es:List Ev):Option (List St):=(Au.feeds ⟨0,[]⟩ es).map (·.sts)
def Be(s:St)(level:Int):Bool:=if level=1∨level=2 then s.status==3||s.status==2 else level==3
def B8(a b:St):Bool:=decide (0<=a.fin)&&decide (a.fin<b.beg)
structure AO where
 kind:Int
 num:Int
 q:List Int
 ps:List (Int×Int)
deriving DecidableEq
def J9(ps:List (Int×Int))(key:Int):Nat->Nat->Nat->Nat
 |0,a,_=>a
 |f+1,a,b=>if a<b then(if((ps[(a+b)/2]?).getD (0,0)).1<key then J9 ps key f ((a+b)/2+1) b else J9 ps key f a ((a+b)/2)) else a
def AL(ps:List (Int×Int))(key:Int):Nat:=J9 ps key (ps.length+1) 0 ps.length
def B5(ps:List (Int×Int))(key:Int):Option Int:=match ps[AL ps key]? with
 |some a=>if a.1=key then E a.2 else O
 |none=>O
def Da(kind key val:Int):Bool:=let a:Int:=if kind=2 then 1000000000000000 else 1000000000;decide (key<0)||decide (1000<key)||decide (val< -a)||decide (a<val)
def AO.deed(s:AO)(op key val:Int):AO×Int×Int:=
 if op=1∨op=4 then(s,3,s.num)
 else if op=2 then({s with num:=val},1,0)
 else if op=3 then({s with num:=s.num+val},1,0)
 else if op=5 then({s with q:=s.q++[val]},1,0)
 else if op=6 then(match s.q with|[]=>(s,2,0)|a::b=>({s with q:=b},3,a))
 else if op=7 then({s with ps:=if(B5 s.ps key).isSome then s.ps.set (AL s.ps key) (key,val) else s.ps.take (AL s.ps key)++(key,val)::s.ps.drop (AL s.ps key)},1,0)
 else match B5 s.ps key with
  |some d=>(if op=8 then s else {s with ps:=s.ps.take (AL s.ps key)++s.ps.drop (AL s.ps key+1)},3,d)
  |none=>(s,2,0)
def AO.can(s:AO)(op key val:Int):Bool:=
 s.kind !=0&&Gq op==s.kind&& !(key !=0&& !Dg op||decide (key<0)||decide (1000<key)||val !=0&& !B6 op||decide (val< -1000000000)||decide (1000000000<val))&& !(op==3&&Da s.kind 0 (s.num+val))
def AO.doo(s:AO)(op key val:Int):Option (AO×Int×Int):=if s.can op key val then E (s.deed op key val) else O
def QE(x:Int):Prop:= -1000000000<=x/\x<=1000000000
structure AO.Ok (s:AO):Prop where
 k:1<=s.kind/\s.kind<=4
 n: -1000000000000000<=s.num/\s.num<=1000000000000000
 q:∀x∈s.q,QE x
 p:∀x∈s.ps,(0<=x.1/\x.1<=1000)/\QE x.2
def AO.Pure(s:AO):Prop:=(s.kind≠1/\s.kind≠2->s.num=0)/\(s.kind≠3->s.q=[])/\(s.kind≠4->s.ps=[])
theorem Tb{s:AO}{op key val:Int}(h:s.can op key val=true):s.kind≠0/\Gq op=s.kind/\(0<=key/\key<=1000)/\QE val/\(op=3->Da s.kind 0 (s.num+val)=false):=by
 unfold AO.can at h;simp only[EG,bne_iff_ne,ne_eq,beq_iff_eq,Bool.not_eq_true',Bool.or_eq_false_iff,decide_eq_false_iff_not,Bool.and_eq_false_iff] at h;obtain⟨⟨⟨b,d⟩,⟨⟨⟨⟨_,g⟩,i⟩,_⟩,j⟩,k⟩,a⟩:=h;refine⟨b,d,⟨by omega,by omega⟩,⟨by omega,by omega⟩,λe=>?_⟩;rcases a with a|a
 .simp[e] at a
 .exact a
theorem Mw{op k:Int}(h:Gq op=k)(a:k≠0):(k=1/\(op=1∨op=2))∨(k=2/\(op=3∨op=4))∨(k=3/\(op=5∨op=6))∨(k=4/\(op=7∨op=8∨op=9)):=by
 unfold Gq at h
 split at h
 .exact .inl ⟨h.symm,by assumption⟩
 .split at h
  .exact .inr (.inl ⟨h.symm,by assumption⟩)
  .split at h
   .exact .inr (.inr (.inl ⟨h.symm,by assumption⟩))
   .split at h
    .exact .inr (.inr (.inr ⟨h.symm,by assumption⟩))
    .exact absurd h.symm a
theorem ZC{s:AO}{op key val:Int}(a:s.Ok)(v:s.Pure)(h:s.can op key val=true):(s.deed op key val).1.Ok/\(s.deed op key val).1.Pure/\(s.deed op key val).1.kind=s.kind:=by
 let⟨w,x,p,m,y⟩:=Tb h;obtain⟨i,j,k⟩:=v;rcases Mw x w with ⟨g,l⟩|⟨g,l⟩|⟨g,l⟩|⟨g,l⟩
 .rcases l with rfl|rfl
  .exact⟨a,⟨i,j,k⟩,rfl⟩
  .refine⟨⟨a.k,?_,a.q,a.p⟩,⟨λe=>absurd g e.1,j,k⟩,rfl⟩;obtain⟨q,D⟩:=m;show-1000000000000000<=val/\val<=1000000000000000;omega
 .rcases l with rfl|rfl
  .refine⟨⟨a.k,?_,a.q,a.p⟩,⟨λe=>absurd g e.2,j,k⟩,rfl⟩;have n:=y rfl;unfold Da at n;rw[g] at n;simp at n;show-1000000000000000<=s.num+val/\s.num+val<=1000000000000000;omega
  .exact⟨a,⟨i,j,k⟩,rfl⟩
 .rcases l with rfl|rfl
  .refine⟨⟨a.k,a.n,?_,a.p⟩,⟨i,λe=>absurd g e,k⟩,rfl⟩;intro d b;rcases Eh.1 b with b|b
   .exact a.q d b
   .rw[List.mem_singleton.1 b];exact m
  .cases o:s.q with
   |nil=>
    have:s.deed 6 key val=(s,2,0):=by unfold AO.deed;simp[o]
    rw[this];exact⟨a,⟨i,j,k⟩,rfl⟩
   |cons q z=>
    have:s.deed 6 key val=({s with q:=z},3,q):=by unfold AO.deed;simp[o]
    rw[this];exact⟨⟨a.k,a.n,λd b=>a.q d (by rw[o];exact List.mem_cons_of_mem _ b),a.p⟩,⟨i,λe=>absurd g e,k⟩,rfl⟩
 .have A:∀(r t:Nat) d,d∈s.ps.take r++s.ps.drop t->d∈s.ps:=by
   intro r t d b;rcases Eh.1 b with b|b
   .exact Im b
   .exact OI b
  rcases l with rfl|rfl|rfl
  .have:s.deed 7 key val=({s with ps:=if(B5 s.ps key).isSome then s.ps.set (AL s.ps key) (key,val) else s.ps.take (AL s.ps key)++(key,val)::s.ps.drop (AL s.ps key)},1,0):=rfl;rw[this];refine⟨⟨a.k,a.n,a.q,?_⟩,⟨i,j,λe=>absurd g e⟩,rfl⟩;intro d b;simp only at b
   split at b
   .rcases Ik b with b|rfl
    .exact a.p d b
    .exact⟨p,m⟩
   .rcases Eh.1 b with b|b
    .exact a.p d<|Im b
    .rcases B2.1 b with rfl|b
     .exact⟨p,m⟩
     .exact a.p d<|OI b
  .have:(s.deed 8 key val).1=s:=by
    unfold AO.deed;simp
    cases B5 s.ps key<;>rfl
   rw[this];exact⟨a,⟨i,j,k⟩,rfl⟩
  .cases u:B5 s.ps key with
   |none=>
    have:s.deed 9 key val=(s,2,0):=by unfold AO.deed;simp[u]
    rw[this];exact⟨a,⟨i,j,k⟩,rfl⟩
   |some B=>
    have:s.deed 9 key val=({s with ps:=s.ps.take (AL s.ps key)++s.ps.drop (AL s.ps key+1)},3,B):=by unfold AO.deed;simp[u]
    rw[this];exact⟨⟨a.k,a.n,a.q,λd b=>a.p d (A _ _ d b)⟩,⟨i,j,λe=>absurd g e⟩,rfl⟩
def DR(p:Int×Int):List UInt8:=Ei p.1++58::Ei p.2
def AO.words(s:AO):List (List UInt8):=AT 1 s.kind::(if s.kind=1∨s.kind=2 then [Ei s.num] else if s.kind=3 then s.q.map Ei else if s.kind=4 then s.ps.map DR else [])
def AO.key(s:AO):List UInt8:=Ea s.words [32]
def keyOf(l:List AO):List UInt8:=Ea (l.map AO.key) [59,32]
theorem DI(x y:List UInt8)(l:List (List UInt8))(sep:List UInt8):Ea (x::y::l) sep=x++(sep++Ea (y::l) sep):=by simp[Ea,I1,List.intersperse]
theorem FF(x:List UInt8)(sep:List UInt8):Ea [x] sep=x:=by simp[Ea,I1]
theorem RX{c:UInt8}:∀ {x b r d:List UInt8},c∉x->c∉b->x++c::r=b++c::d->x=b/\r=d:=by
 intro x
 induction x with
 |nil=>
  intro b r d h e a
  cases b with
  |nil=>simp at a;exact⟨rfl,a⟩
  |cons i b=>simp at a;exact absurd (by simp[a.1]) e
 |cons i x j=>
  intro b r d h e a
  cases b with
  |nil=>simp at a;exact absurd (by simp[a.1]) h
  |cons m b=>
   simp at a;obtain⟨rfl,a⟩:=a;let⟨k,l⟩:=j (λg=>h (by simp[g])) (λg=>e (by simp[g])) a;exact⟨by rw[k],l⟩
theorem Pf{c:UInt8}{sep:List UInt8}:∀ {l l':List (List UInt8)},(∀a∈l,c∉a)->(∀a∈l',c∉a)->l≠[]->l'≠[]->Ea l (c::sep)=Ea l' (c::sep)->l=l':=by
 intro l
 induction l with
 |nil=>intro l' _ _ h;exact absurd rfl h
 |cons a l i=>
  intro l' h e _ j b
  cases l' with
  |nil=>exact absurd rfl j
  |cons k l'=>
   have d:=h a (by simp);have g:=e k (by simp)
   cases l with
   |nil=>
    cases l' with
    |nil=>rw[FF,FF] at b;rw[b]
    |cons m l'=>
     rw[FF,DI] at b;exact absurd (by rw[b];simp) d
   |cons q l=>
    cases l' with
    |nil=>
     rw[FF,DI] at b;exact absurd (by rw[<-b];simp) g
    |cons m l'=>
     rw[DI,DI] at b;let⟨n,o⟩:=RX d g b;have p:=i (λa d=>h a (by simp[d])) (λa d=>e a (by simp[d])) (by simp) (by simp)<|List.append_cancel_left o;rw[n,p]
theorem VW{sep:List UInt8}{c:UInt8}:∀ {l:List (List UInt8)},c∈Ea l sep->c∈sep∨∃a∈l,c∈a:=by
 intro l
 induction l with
 |nil=>intro h;simp[Ea,I1] at h
 |cons a l b=>
  intro h
  cases l with
  |nil=>rw[FF] at h;exact .inr ⟨a,by simp,h⟩
  |cons g l=>
   rw[DI] at h;rcases Eh.1 h with h|h
   .exact .inr ⟨a,by simp,h⟩
   .rcases Eh.1 h with h|h
    .exact .inl h
    .rcases b h with h|⟨d,e,h⟩
     .exact .inl h
     .exact .inr ⟨d,by simp[e],h⟩
theorem FG{c:UInt8}(n:Int)(h:c≠45)(d:c.toNat<48∨57<c.toNat):c∉Ei n:=by
 intro b;rcases Qy n c b with a|a
 .exact h a
 .omega
theorem Tc{c:UInt8}(p:Int×Int)(h:c≠45)(b:c.toNat<48∨58<c.toNat):c∉DR p:=by
 intro a;unfold DR at a;rcases Eh.1 a with a|a
 .exact FG _ h (by omega) a
 .rcases B2.1 a with rfl|a
  .revert b;decide
  .exact FG _ h (by omega) a
theorem Ka{c:UInt8}(s:AO)(g:1<=s.kind/\s.kind<=4)(h:c=32∨c=59):∀x∈s.words,c∉x:=by
 intro x a;have d:c≠45:=by rcases h with rfl|rfl<;>decide
 have e:c.toNat<48∨58<c.toNat:=by rcases h with rfl|rfl<;>decide
 unfold AO.words at a;rcases B2.1 a with rfl|a
 .rcases (show s.kind=1∨s.kind=2∨s.kind=3∨s.kind=4 by omega) with b|b|b|b<;>rw[b]<;>rcases h with rfl|rfl<;>decide
 .split at a
  .rw[List.mem_singleton.1 a];exact FG _ d (by omega)
  .split at a
   .obtain⟨i,_,rfl⟩:=EE.1 a;exact FG _ d (by omega)
   .split at a
    .obtain⟨j,_,rfl⟩:=EE.1 a;exact Tc _ d e
    .cases a
theorem Lq{d g:Type}{f:d->g}:∀ {l l':List d},(∀a∈l,∀b∈l',f a=f b->a=b)->l.map f=l'.map f->l=l':=by
 intro l
 induction l with
 |nil=>intro l' _ h;cases l' with|nil=>rfl|cons=>simp at h
 |cons a l i=>
  intro l' e h
  cases l' with
  |nil=>simp at h
  |cons b l'=>
   simp at h;rw[e a (by simp) b (by simp) h.1,i (λa j b k=>e a (by simp[j]) b (by simp[k])) h.2]
theorem Td{p a:Int×Int}(b: -9223372036854775808<=p.1/\p.1<=9223372036854775807)(d: -9223372036854775808<=p.2/\p.2<=9223372036854775807)(e: -9223372036854775808<=a.1/\a.1<=9223372036854775807)(g: -9223372036854775808<=a.2/\a.2<=9223372036854775807)(h:DR p=DR a):p=a:=by
 unfold DR at h;let⟨i,j⟩:=RX (FG _ (by decide) (by decide)) (FG _ (by decide) (by decide)) h;exact Prod.ext (GA b e i)<|GA d g j
theorem ZD{s s':AO}(h:s.Ok)(l:s'.Ok)(x:s.Pure)(y:s'.Pure)(w:s.kind=s'.kind)(e:s.key=s'.key):s=s':=by
 have a:=Pf (Ka s h.k (.inl rfl)) (Ka s' l.k (.inl rfl)) (by unfold AO.words;simp) (by unfold AO.words;simp) e;obtain⟨r,m,n⟩:=x;obtain⟨t,o,p⟩:=y;let⟨k0,k1⟩:=h.k;let⟨z,A⟩:=h.n;let⟨B,D⟩:=l.n;have u:=h.q;have v:=l.q;have j:=h.p;have k:=l.p;obtain⟨q,F,G,L⟩:=s;obtain⟨M,S,W,X⟩:=s';simp only at w r m n t o p k0 k1 z A B D u v j k;subst w;unfold AO.words at a;simp only[List.cons.injEq,true_and] at a;rcases (show q=1∨q=2∨q=3∨q=4 by omega) with rfl|rfl|rfl|rfl
 .simp at a;rw[GA ⟨by omega,by omega⟩ ⟨by omega,by omega⟩ a,m (by decide),n (by decide),o (by decide),p (by decide)]
 .simp at a;rw[GA ⟨by omega,by omega⟩ ⟨by omega,by omega⟩ a,m (by decide),n (by decide),o (by decide),p (by decide)]
 .simp only[show ¬((3:Int)=1∨(3:Int)=2) by decide,if_false,if_true] at a;rw[r (by decide),n (by decide),t (by decide),p (by decide)];rw[Lq (λb d g i e=>GA ⟨by have:=(u b d).1;omega,by have:=(u b d).2;omega⟩ ⟨by have:=(v g i).1;omega,by have:=(v g i).2;omega⟩ e) a]
 .simp only[show ¬((4:Int)=1∨(4:Int)=2) by decide,show ¬((4:Int)=3) by decide,if_false,if_true] at a;rw[r (by decide),m (by decide),t (by decide),o (by decide)];rw[Lq (λb d g i e=>Td ⟨by have:=(j b d).1.1;omega,by have:=(j b d).1.2;omega⟩ ⟨by have:=(j b d).2.1;omega,by have:=(j b d).2.2;omega⟩ ⟨by have:=(k g i).1.1;omega,by have:=(k g i).1.2;omega⟩ ⟨by have:=(k g i).2.1;omega,by have:=(k g i).2.2;omega⟩ e) a]
structure DC (ks:List Int) (l:List AO):Prop where
 kinds:l.map (·.kind)=ks
 ok:∀s∈l,s.Ok/\s.Pure
theorem Te{p:List Int}{l l':List AO}(h:DC p l)(a:DC p l')(e:keyOf l=keyOf l'):l=l':=by
 have i:l.length=l'.length:=by
  have q:=congrArg Fu h.kinds;have v:=congrArg Fu a.kinds;simp at q v;omega
 cases j:l with
 |nil=>
  subst j;exact(EU i.symm).symm
 |cons q A=>
  have w:l≠[]:=by simp[j]
  have x:l'≠[]:=by intro y;rw[y] at i;simp[j] at i
  have r:∀s:AO,s.Ok->(59:UInt8)∉s.key:=by
   intro s b d;rcases VW d with d|⟨o,g,d⟩
   .revert d;decide
   .exact Ka s b.k (.inr rfl) o g d
  have z:=Pf (c:=59) (sep:=[32]) (l:=l.map AO.key) (l':=l'.map AO.key) (by
   intro o g;obtain⟨s,b,rfl⟩:=EE.1 g;exact r s (h.ok s b).1) (by
   intro o g;obtain⟨s,b,rfl⟩:=EE.1 g;exact r s (a.ok s b).1) (by simp[w]) (by simp[x]) e
  rw[<-j];refine List.ext_getElem i λk m n=>?_;have t:(l.map (·.kind))[k]'(by simpa using m)=(l'.map (·.kind))[k]'(by simpa using n):=by simp only[h.kinds,a.kinds]
  have u:(l.map AO.key)[k]'(by simpa using m)=(l'.map AO.key)[k]'(by simpa using n):=by simp only[z]
  simp only[List.getElem_map] at t u;exact ZD (h.ok _ (H3 m)).1 (a.ok _ (H3 n)).1 (h.ok _ (H3 m)).2 (a.ok _ (H3 n)).2 t u
def Tf(l:List AO)(i op key val:Int):Option (List AO×Int×Int):=
 if 0<=i then match l[i.toNat]? with
  |some s=>(s.doo op key val).map λa=>(l.set i.toNat a.1,a.2)
  |none=>O
 else O
theorem Nb{e:List Int}{l l':List AO}{i op key val ret got:Int}(h:DC e l)(a:Tf l i op key val=E (l',ret,got)):DC e l':=by
 unfold Tf at a
 split at a
 .split at a
  case h_1 s b=>
   unfold AO.doo at a
   split at a
   case isTrue j=>
    simp only[Option.map_some,Option.some.injEq,Prod.mk.injEq] at a;obtain⟨rfl,_⟩:=a;have g:=Ap b;let⟨k,m,n⟩:=ZC (h.ok s g).1 (h.ok s g).2 j;refine⟨?_,λo d=>?_⟩
    .rw[List.map_set,n,<-h.kinds];refine H2 λp=>?_;rw[List.getElem?_set]
     split
     .subst_vars;rw[EK,b];simp[(Am.1 b).1]
     .rfl
    .rcases Ik d with d|rfl
     .exact h.ok o d
     .exact⟨k,m⟩
   case isFalse=>cases a
  case h_2=>cases a
 .cases a
def AP:List AO->List Dd->Option (List AO)
 |b,[]=>E b
 |b,a::d=>if a.ret=0 then AP b d else match Tf b a.obj a.op a.key a.val with
  |some (e,ret,got)=>if ret=a.ret/\got=a.got then AP e d else O
  |none=>O
theorem Ky{d:List Int}:∀ {b:List Dd} {l l':List AO},DC d l->AP l b=l'->DC d l':=by
 intro b
 induction b with
 |nil=>intro l l' h a;injection a with a;subst a;exact h
 |cons i j e=>
  intro l l' h a;unfold AP at a
  split at a
  .exact e h a
  .split at a
   case h_1 k ret got g=>
    split at a
    .exact e (Nb h g) a
    .cases a
   case h_2=>cases a
def Gk(v:N):Prop:=∃a b,v=.iface a (Q (E b))
end Go.Proofs.YtpoacbcnhpbdmaaGreatDoor
