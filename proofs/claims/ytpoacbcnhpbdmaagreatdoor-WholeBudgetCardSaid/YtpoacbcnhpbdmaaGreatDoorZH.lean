/-
  A part of the proof: Own and what follows.
-/
import Derived.Test.YtpoacbcnhpbdmaaGreatDoorZF
import Derived.Test.YtpoacbcnhpbdmaaGreatDoorZG
import Derived.Shelf.RegionOpen
import Derived.Deep.LoopGhost
import Derived.Sort.CutIn
import Derived.Stop.RegionWithIn
set_option linter.all false
set_option maxRecDepth 100000
set_option maxHeartbeats 32000000
open Go.Act renaming put→A6
open Go.AllReadyH renaming cons→EX,nil→Fa
open Go.AllReadyIn renaming cons→EA,nil→EJ
open Array renaming getElem?_eq_some_iff→ET,replicate_succ→Fy,replicate_zero→Fz
open Go.RowKit.Below renaming heap_alloc→ER,heap_setCell→B3,refl→Ae
open BitVec renaming ofInt→Ft,ofInt_natCast→Is,toNat_ofNat→It
open Bool renaming and_eq_true→EG,not_eq_true'→HM,or_assoc→R4
open Go.Builtin renaming append_→Oi
open ByteArray renaming data_append→UX,ext→UW
open Go.Calls renaming quiet_of_same→EY
open Go.CallsIn renaming inRound→Gg
open Go.Departure renaming mixedOrders→Ge
open Go.Fence renaming wide→Ed
open Go.Instr renaming lookup→B1,makeSlice→Fw
open Int renaming le_refl→HO,toNat_natCast→D6
open Go.IntKind renaming wrap_i64→Ey
open Go renaming KeepsFrom→E0,TypeId→Ab,bodyPost_ret→Ao,callFunc→EB,callsIn_wide→Dh,cell_one_new→En,grownBy_putObj'→GX,heap_alloc_new→D4,info_parts→A1,madeCells→A2,maxLen→Al,results→As,run_takeDeferred→HW,size_madeCells→Gz,step_append_lies→E6,undef→Ac,wpAnyH_ready→E9,wpAnyH_take→Ds,wpAnyIn_ready→EI,wpList_append_own_at→B9
open Go.KeepsFrom renaming of_grownBy→RB
open Go.KeepsOthers renaming drew→Ol,setCell→GY,trans→Oj
open Go.Lib renaming itoa→Ei,itoa_length_le→H8,join→Ea
open List renaming all_eq_true→HA,any_append→R1,append_nil→Ia,append_toArray→FV,cons_append→Ez,drop_eq_getElem_cons→FX,drop_length→HQ,eq_nil_of_length_eq_zero→EU,filter_append→II,filter_cons→Od,filter_nil→Oe,find?_eq_some_iff_getElem→Om,getElem?_append_left→Ek,getElem?_append_right→EW,getElem?_eq_getElem→An,getElem?_eq_none→EP,getElem?_eq_some_iff→Am,getElem?_map→EK,getElem?_of_mem→E8,length→Fu,length_append→Ef,length_cons→C4,length_filter_le→IH,length_map→HC,length_nil→Em,length_singleton→E3,length_take→EH,map_append→H0,map_map→HY,mem_append→Eh,mem_cons→B2,mem_cons_of_mem→Il,mem_map→EE,mem_of_find?_eq_some→X9,mem_of_getElem?→Ap,mem_of_mem_take→Im,mem_or_eq_of_mem_set→Ik,nil_append→Es,push_toArray→FE,range→EZ,range_succ→HU,setIfInBounds_toArray→A7,set_cons_succ→A3,set_cons_zero→A4,size_toArray→EQ,take_add_one→EO,take_length→Ex
open Nat renaming add_zero→EV,le_of_lt→HF,le_refl→Aa,le_succ→Ax,le_trans→A8,lt_of_le_of_lt→H5,lt_of_lt_of_le→ED,min_eq_left→HT,mod_eq_of_lt→Iu,one_mul→HR,pow_le_pow_right→Oc,shiftLeft_eq→Gc,two_pow_pos→R0,zero_add→Ej,zero_le→A9
open Ne renaming symm→Eu
open Go.Oper renaming wpIn→J2
open Option renaming bind_eq_some_iff→Fv,map_eq_some_iff→Eo,map_some→HN,toList_some→Ua
open Go.Region renaming Mode→Oo,free→S6,noSelect→S5,ready→FW,wanted→Gv
open Subtype renaming ext→IF
open Go.Value renaming agg→Gf,cells→F2,oneCell'→B4,ownBlock→A5,slice→Ar
open Go.World renaming alloc_heap_new→R6,block_lt_of_cell?→Ad,cell?_setCell_other→Er,grownBy_alloc→HV,news_of_block→Ee,ownsRow_made→HD,ownsRow_nil→Ep,putObj_heap_other→H7,putObj_heap_same→So,size_alloc→Eb
open Go.Proofs renaming enters_of→Eg
open Go.RowKit renaming run_makeMap→EC
open Go.Value renaming int→I,slice→C,pointer→Q,bool→T
open Go.IntKind renaming i64→J
open Go.Obj renaming cells→K
open Go.Obj renaming cells→H
open Go.Ending renaming returned→R
open Option renaming none→O,some→E
open Go renaming World→U,Value→N
namespace Go.Proofs.YtpoacbcnhpbdmaaGreatDoor
open Go.RowKit Go.Maps Go.Proofs.Tryz W
variable {w W X Y Z:World}{n k g c m i j b a:Nat}{v u z y:Value}{x t:Int}{p:TypeId}{q:List Value}{r:Array Value}{A:Option Addr}
attribute [local go_sem↓] Go.wp_at_zero Go.wp_at_succ
section
open Go.Lib
theorem Aex(o:Ob)(g:o.okB=true)(i:o.kind<=9223372036854775807)(w:U)(j:AE w):Calls prog 142 #[.agg #[o.kind,o.init]] w λk n=>k=R (.tuple #[.agg #[o.kind,o.init,C O 0 0,C O 0 0],.nilIface])/\Below w w n:=by
 have l:=Af<|AG w (K #[o.kind,o.init] 71) (K #[(),(),C O 0 0,C O 0 0] AZ);have p:=Af<|Bo w (K #[o.kind,o.init] 71) AZ #[(),(),C O 0 0,C O 0 0];have d:=Af<|(Ah.new w 71 #[o.kind,o.init]).alloc (K #[(),(),C O 0 0,C O 0 0] AZ);have m:=Af<|Np o.kind o.init i _ (j.below l);have q:=Af g;have r:=d.o.cell 0;have t:=d.o.cell 1;go_in;go_wp2_with fail;refine m.o.mono ?_;rintro k y ⟨z,rfl,u,b⟩;rcases u with ⟨_,rfl⟩|⟨v,_⟩
 .have x:=Af<|l.o.trans (b.mono (by simp;omega));have a:=Af<|p.o.below b (by simp);have e:=Af<|d.o.below b (by simp;omega);have A:=e.o.cell 0;have B:=e.o.cell 1;have D:=e.o.lt;have F:=a.o.cell 0;have G:=a.o.cell 1;have L:=a.o.cell 2;have M:=a.o.cell 3;have S:=a.o.frozen 0;have W:=a.o.frozen 1;have X:=a.o.frozen 2;have Y:=a.o.frozen 3;have Z:=a.o.lt;go_wp2_with fail;refine Ao (Wu _ rfl rfl _ _ (w+1) o.kind o.init (C O 0 0) (C O 0 0) _ rfl rfl (Cg a)) rfl ?_;exact⟨rfl,BR x (Ax _)⟩
 .exact absurd q v
theorem TI(w:U)(o:Ob):Gj w (.agg #[o.kind,o.init,C O 0 0,C O 0 0]) (Cq o):=⟨O,0,O,0,rfl,Cc.nil Cv 1 FH w,Cc.nil BN 2 AN w⟩
def TJ(w:U)(os:List Ob)(r:Ending)(w':U):Prop:=Below w w w'/\∃a,r=R (.tuple #[.agg #[a],.nilIface])/\CH w' a (os.map Cq)
theorem Abu{w:U}{vo:N}{os:List Ob}(o:Ba 2 CL w vo os)(A:∀a∈os,a.kind<=9223372036854775807)(d:∀a∈os,a.okB=true)(az:os.length<=8)(B:AE w):
 Calls prog 84 #[vo] w λq a0=>TJ w os q a0:=by
 have r:=Zc w<|K #[C O 0 0] BS;have ag:=Af<|FK (o.below r) (Ba.nil 8 BO _) A (λa1 D=>by cases D) (B.below r);obtain⟨bs,bt,rfl⟩:=o.shape;have a2:=Af r;have ah:=Af<|Ah.new w BS #[C O 0 0];have a3:=Af o;have a4:=Af A;have a5:=Af d;have a6:=Af B;have ai:Bn os []:=⟨az,by simp,d,λa1 D=>by cases D⟩;have a7:=Af ai;go_in;go_wp2_with fail;refine ag.o.mono ?_;rintro q t ⟨bu,rfl,a8,F⟩;rcases a8 with ⟨_,rfl⟩|⟨a9,_⟩
 rotate_left
 .exact absurd a7.o a9
 have G:=Af<|a2.o.trans (F.mono (by simp));have aj:=Af<|ah.o.below F (by simp);go_upto_region 5 with fail;have ba:=Af<|G.o.alloc G.o.size (K #[C O 0 0] Db);have bb:=Af<|aj.o.alloc (K #[C O 0 0] Db);have bc:=Af<|Ah.new t Db #[C O 0 0];have ak:=Af G.o.size;go_wp2
 go_loopw [19] (λL wr=>∃(b:Nat) (M:N) (e:List AO),L=I J b/\b<=os.length/\Hid (e=(os.take b).map Cq)/\Ah wr t.heap.size Db #[M]/\Ah wr w.heap.size BS #[C O 0 0]/\CH wr M e/\Below w.heap.size w wr) (λL _=>9-(intOf L).toNat)
 case atStart=>exact⟨0,_,[],rfl,A9 _,Af rfl,bc.o,bb.o,⟨DD.nil 4 Jz _,Hu.zero _ _ _ _⟩,ba.o⟩
 case round=>
  obtain⟨b,M,e,rfl,bv,S,j,g,u,k⟩:=hrel;obtain⟨bd,be,bf⟩:=u.shape;subst bf;have al:=Af j;have W:=Af g;have am:=Af u;have v:=Af k;by_cases x:b<os.length
  .obtain⟨a,d⟩:∃a,os[b]?=E a:=⟨os[b],An x⟩;obtain⟨X,an,bg,_,_,Y⟩:=(a3.o.below k).at d;subst bg;have ao:wr.cell? ⟨X,an+b*2,O⟩=E (I J a.kind):=Y 0 _ rfl (by omega);have bh:wr.cell? ⟨X,an+b*2+1,O⟩=E (I J a.init):=Y 1 _ rfl (by omega);have bi:X<wr.heap.size:=Ad wr _ ao;have bw:(0:Int)<=(b:Int):=by omega
   have bz:(b:Int)<(os.length:Int):=by omega
   have ap:=Af<|Aex a (a5.o a (Ap d)) (a4.o a (Ap d)) (wr.alloc (K #[I J a.kind,I J a.init] 71)) ((a6.o.below k).below ((Ae _ _).alloc (Aa _) _));have Z:Hid (e++[Cq a]=(os.take (b+1)).map Cq):=Af (by rw[S.o,EO,d];simp);have aq:e.length<=1000:=by rw[S.o];simp;omega
   have bj:=Af aq;have aa:=Af x;obtain⟨y,rfl⟩:∃y:U,y=wr:=⟨_,rfl⟩;go_wp2_with fail;refine ap.o.mono ?_;rintro q ab ⟨rfl,l⟩;have ac:=Af<|(v.o.alloc v.o.size (K #[I J a.kind,I J a.init] 71)).trans (l.mono (by have:=v.o.size;simp;omega));have i:=Af<|(al.o.alloc (K #[I J a.kind,I J a.init] 71)).below l (by have:=al.o.lt;simp;omega);have ar:=Af<|(W.o.alloc (K #[I J a.kind,I J a.init] 71)).below l (by have:=W.o.lt;simp;omega);have bk:=Af<|am.o.below ((Zc y (K #[I J a.kind,I J a.init] 71)).trans (l.mono (by simp)));have m:Below ab.heap.size ab (ab.alloc (K #[I J a.kind,I J a.init,C O 0 0,C O 0 0] AZ)):=(Ae _ _).alloc (Aa _) _;have b0:=Af m;have au:=(i.o.below m i.o.lt).cell 0;have av:=(i.o.below m i.o.lt).lt;have aw:=Af<|Aeo (bk.o.below m) (Ae _ _) (TI _ a) bj.o;go_wp2_with fail;refine aw.o.mono ?_;rintro q bl ⟨b1,rfl,ax,n⟩;have ad:=ax bl n (λ_ _ _=>rfl);obtain⟨b2,b3,bm⟩:=ad.shape;subst bm;have bn:=Af ad;have z:=Af<|(i.o.alloc (K #[I J a.kind,I J a.init,C O 0 0,C O 0 0] AZ)).below n (by have:=i.o.lt;simp;omega);have bo:=Af<|(ar.o.alloc (K #[I J a.kind,I J a.init,C O 0 0,C O 0 0] AZ)).below n (by have:=ar.o.lt;simp;omega);have bp:=Af<|(ac.o.alloc ac.o.size (K #[I J a.kind,I J a.init,C O 0 0,C O 0 0] AZ)).trans (n.mono (by have:=ac.o.size;simp;omega));have ae:=z.o.cell 0;have bq:=z.o.frozen 0;have br:=z.o.lt;have af:=Af ae;go_wp2
   go_roundw
   case rel=>exact⟨b+1,_,e++[Cq a],by have:=aa.o;go_num,aa.o,Af Z.o,by simpa using z.o.put 0 _,bo.o.far (p:=⟨t.heap.size,0,O⟩) (by have:=ak.o;have:=ah.o.lt;have:=aj.o.lt;simp;omega) _,bn.o.box af.o _,bp.o.setCell (p:=⟨t.heap.size,0,O⟩) ak.o _⟩
   case measure=>simp[intOf];have:=aa.o;omega
  .have b4:decide (b<os.length)=false:=by simpa using x
   have ay:b=os.length:=by omega
   have Z:Hid (e=os.map Cq):=Af (by rw[S.o,ay,Ex]);have au:=j.cell 0;have av:=j.lt;have ae:=g.cell 0;have bq:=g.frozen 0;have br:=g.lt;have af:=Af ae;go_wp2_with fail;refine Ao (Nn _ rfl rfl _ _ w.heap.size _ _ rfl rfl (by simpa using W.o.put 0 (C bd e.length be))) rfl ?_;exact⟨v.o.setCell (p:=⟨w.heap.size,0,O⟩) (Aa _) _,_,rfl,by rw[<-Z.o];exact am.o.box af.o _⟩
end
abbrev tGm:Ab:=128
theorem GN.far{a:Type}{t:Ab}{R:U->a->List N->Prop}{w0 w:U}{B:Nat}{v:N}{l:List a}(h:GN n t R w0 B w v l){p:Addr}(b:v.ownBlock≠E p.block)(u:N):GN n t R w0 B (w.setCell p u) v l:=by
 obtain⟨d,e,g,i⟩:=h;exact⟨d,e,Ak g b u,i⟩
theorem PC{d:Type}{f:d->List N}{w:U}{v:N}{l:List d}{p:Addr}(x:∀a,∀u∈f a,∃k,u=I J k)(h:Ba n f w v l)(y:w.cell? p=E (C A m c))(u:N):Ba n f (w.setCell p u) v l:=by
 obtain⟨z,B,e,g,D,k2,k3,k4,k5⟩:=h;refine⟨z,B,e,g,D,k2,k3,k4,λi j F o q r G=>?_⟩;have b:=k5 i j F o q r G;by_cases t:p=⟨e,g+i*n+o,O⟩
 .rw[<-t,y] at b;injection b with b;let⟨k,L⟩:=x j q<|Ap r;rw[L] at b
  cases b
 .rw[Er _ _ _ _ t];exact b
theorem CH.slot3{w:U}{v:N}{l:List AO}{t:Ab}{z:N}{ac ad:Option Addr}{c1 c2 c3:Nat}(h:CH w v l)(r:Ah w b t #[z,C A n c1,C ac k c2,C ad g c3])(u:N):CH (w.setCell ⟨b,3,O⟩ u) v l:=by
 obtain⟨⟨ae,af,⟨ag,ah,B,i,ai,k2,k3,k4,k5⟩,x⟩,aj⟩:=h;refine⟨?_,aj.set _ _⟩;have D:=r.cell 1;have F:=r.cell 2;have o:=r.cell 3;simp at D F o;refine⟨ae,af,⟨ag,ah,B,i,ai,k2,k3,k4,λa e p j G L ak=>?_⟩,λa e M S W=>⟨(x a e M S W).1,?_⟩⟩
 .have m:=k5 a e p j G L ak;by_cases q:(⟨b,3,O⟩:Addr)=⟨B,i+a*4+j,O⟩
  .have an:=(Am.1 p).1;let⟨_,X,Y,Z,_,_⟩:=x a _ e (An (by omega)) p;have d:=k5 a e p 1 (I J (l[a]'(by omega)).num) (by show e[1]?=_;rw[Z];rfl) (by omega);injection q with al ao;subst al;have am:j=0∨j=1∨j=2∨j=3:=by omega
   rcases am with rfl|rfl|rfl|rfl
   .rw[show i+a*4+0=3 by omega,o] at m;have y:e[0]?=G:=L;rw[Z] at y;simp at y;injection m with m;rw[<-y] at m
    cases m
   .rw[show i+a*4+1=3 by omega,o] at d;injection d with d;cases d
   .rw[show i+a*4+1=2 by omega,F] at d;injection d with d;cases d
   .rw[show i+a*4+1=1 by omega,D] at d;injection d with d;cases d
  .rw[Er _ _ _ _ q];exact m
 .let⟨X,Y,q,aa,ab⟩:=(x a e M S W).2;exact⟨X,Y,q,⟨PC Pt aa.1 o u,aa.2.set _ _⟩,⟨PC MC ab.1 o u,ab.2.set _ _⟩⟩
def JG(w:U)(g:Nat)(G:Bg):Prop:=∃(b:Option Addr) (d e a:Nat) (i:Option Addr) (j:Nat),Ah w g tGm #[G.level,C b G.txs.length d,C e a a,C i G.first.length j]/\DD 7 D3 w (C b G.txs.length d) G.txs/\a=G.masks.length/\Ah w e tI (Kn G.masks).toArray/\CH w (C i G.first.length j) G.first
theorem JG.call{w w':U}{G:Bg}(h:JG w g G)(a:Below w w w'):JG w' g G:=by
 obtain⟨e,i,j,k,l,m,b,n,o,d,p⟩:=h;exact⟨e,i,j,k,l,m,b.below a b.lt,n.below D3.keeps a,o,d.below a d.lt,CH.below p a⟩
def Aag(w:U)(os:List Ob)(es:List Ev)(level:Int)(r:Ending)(w':U):Prop:=Below w w w'/\((∃txs a,Bn os es/\AR es=E txs/\txs.length<=12/\r=R (.tuple #[Q (E ⟨a,0,O⟩),.nilIface])/\w.heap.size<=a/\JG w' a (BF os txs level))∨((∀txs,Bn os es->AR es=E txs->12<txs.length)/\∃b,Gk b/\r=R (.tuple #[Q O,b])))
theorem TK{w:U}{vo vl:N}{os:List Ob}{es:List Ev}{level:Int}(ah:Ba 2 CL w vo os)(ao:Ba 8 BO w vl es)(ap:∀bk∈os,bk.kind<=9223372036854775807)(bl:∀e∈es,AU e.kind/\e.ret<=9223372036854775807)(aq:AE w)(bm:1<=level/\level<=3):
 Calls prog 38 #[.agg #[vo,vl],I J level] w λW cw=>Aag w os es level W cw:=by
 obtain⟨cx,cy,cz,c0,c1⟩:=A1 QV;obtain⟨ar,au,rfl⟩:=ah.shape;obtain⟨av,aw,rfl⟩:=ao.shape;have y:=Zc w<|K #[C ar os.length au,C av es.length aw] AI;have ax:=Af y;have B:=Af<|Ah.new w AI #[C ar os.length au,C av es.length aw];have ay:=Af<|Jj (ah.below y) (ao.below y) ap bl (aq.below y);have bn:=Af<|ah.below y;have bo:=Af<|aq.below y;have c2:=Af ap;have c3:=Af bm;clear y ah ao ap bl aq bm;go_in;go_upto_region 1 with fail;generalize w.alloc (K #[C ar os.length au,C av es.length aw] AI)=ea at ax B ay bn bo|-;have az:=B.o.cell 0;have m:=B.o.cell 1;have D:=B.o.lt;go_wp2_with fail;refine ay.o.mono ?_;rintro W a ⟨X,c4⟩;have bp:=Af<|B.o.below X B.o.lt;have c5:=Af<|bn.o.below X;have bq:=Af<|bo.o.below X;have Y:=Af<|ax.o.trans (X.mono ax.o.size);clear az m D ay X;rcases c4 with ⟨txs,eb,br,bs,rfl,z⟩|⟨bt,e,⟨ec,c6,rfl⟩,rfl⟩
 .obtain⟨ed,ee,rfl⟩:=z.shape;have a0:=Af br;have bu:=Af bs;have bv:=Af z;clear br bs z;by_cases a1:12<txs.length
  .have c7:((12:Int)<(txs.length:Int)):=by omega
   have n:=Af a1;obtain⟨c6,ef⟩:=bq.o.errs 5 (by simp);clear a1;go_wp2;go_quiet (fail);go_wp2;go_ret2;exact⟨below_drewN Y.o _,.inr ⟨λb m o=>by rw[bu.o] at o;injection o with o;rw[<-o];exact n.o,_,⟨_,_,rfl⟩,rfl⟩⟩
  .have c7:¬((12:Int)<(txs.length:Int)):=by omega
   have n:Hid (txs.length<=12):=Af (by omega);clear a1;go_upto_region 7 with fail;have a2:=Af<|Ah.new a tGm #[I J level,C O 0 0,C O 0 0,C O 0 0];have a3:=Af<|Zc a (K #[I J level,C O 0 0,C O 0 0,C O 0 0] tGm);have bw:(a.alloc (K #[I J level,C O 0 0,C O 0 0,C O 0 0] tGm)).heap.size=a.heap.size+1:=by simp
   have bz:=Af bw;generalize a.alloc (K #[I J level,C O 0 0,C O 0 0,C O 0 0] tGm)=c8 at a2 a3 bz|-;clear bw;go_wp2
   go_loopw [28] (λa4 wr=>∃(g:Nat) (b:List St) (b0:N),a4=I J g/\g<=txs.length/\Hid (b=(txs.take g).filter (Be · level))/\Aew a (a.heap.size+1) wr b0 b/\Below a.heap.size a wr/\Ah wr a.heap.size tGm #[I J level,b0,C O 0 0,C O 0 0]) (λa4 _=>13-(intOf a4).toNat)
   case atStart=>exact⟨0,[],_,rfl,A9 _,Af rfl,GN.nil 7 Bq D3 a (a.heap.size+1) c8,a3.o,a2.o⟩
   case round=>
    obtain⟨g,b,eg,rfl,b1,a5,b2,k,b3⟩:=hrel;have Z:=Af k;have aa:=Af b3;have b4:Hid (b.length<=12):=Af (by rw[a5.o];exact A8 (IH _ _) (by have:=n.o;simp;omega));have b5:=Af b2;obtain⟨b6,b7,a6,b8⟩:=b2;obtain⟨F,G,c9⟩:=Ag a6;subst c9;have a7:=Af b7;have a8:=Af a6;have a9:=Af b8;clear b7 a6 b8 b3;by_cases D:g<txs.length
    .obtain⟨s,ba⟩:∃s,txs[g]?=E s:=⟨txs[g],An D⟩;obtain⟨da,bk,eh,ai,-,-,-,db,z,d⟩:=bv.o.at ba;subst ai;have bb:=Af z;obtain⟨q,r,rfl⟩:=z.cells;have bc:=(k.cell (Ad a _ (d 0 _ rfl))).trans<|d 0 _ rfl;have dc:=(k.cell (Ad a _ (d 1 _ rfl))).trans<|d 1 _ rfl;have dd:=(k.cell (Ad a _ (d 2 _ rfl))).trans<|d 2 _ rfl;have de:=(k.cell (Ad a _ (d 3 _ rfl))).trans<|d 3 _ rfl;have df:=(k.cell (Ad a _ (d 4 _ rfl))).trans<|d 4 _ rfl;have dh:=(k.cell (Ad a _ (d 5 _ rfl))).trans<|d 5 _ rfl;have di:=(k.cell (Ad a _ (d 6 _ rfl))).trans<|d 6 _ rfl;rw[EV] at bc;have dj:da<wr.heap.size:=Ad wr _ bc;have ei:(0:Int)<=(g:Int):=by omega
     have ej:(g:Int)<(txs.length:Int):=by omega
     have aj:Hid ((txs.take (g+1)).filter (Be · level)=b++if Be s level then [s] else []):=Af (by
      rw[a5.o,EO,ba,II]
      congr 1
      simp only[Option.toList,Od,Oe])
     have L:=Af D;have b9:=Af (λw=>Dl bb.o level w);have j:=Af<|Ah.new wr Bq #[I J s.id,I J s.thr,I J s.status,I J s.beg,I J s.fin,I J s.tri,C q s.deeds.length r];have ca:=Af<|Z.o.alloc Z.o.size (K #[I J s.id,I J s.thr,I J s.status,I J s.beg,I J s.fin,I J s.tri,C q s.deeds.length r] Bq);have ak:=Af<|aa.o.alloc (K #[I J s.id,I J s.thr,I J s.status,I J s.beg,I J s.fin,I J s.tri,C q s.deeds.length r] Bq);have cb:=Af<|a8.o.alloc (K #[I J s.id,I J s.thr,I J s.status,I J s.beg,I J s.fin,I J s.tri,C q s.deeds.length r] Bq);obtain⟨M,rfl⟩:∃M:U,M=wr:=⟨_,rfl⟩;clear ba d z k db b1;go_upto_region 10 with fail;generalize M.alloc (K #[I J s.id,I J s.thr,I J s.status,I J s.beg,I J s.fin,I J s.tri,C q s.deeds.length r] Bq)=ek at j ca ak cb|-;have cc:=j.o.cell 0;have cd:=j.o.cell 1;have ce:=j.o.cell 2;have cf:=j.o.cell 3;have cg:=j.o.cell 4;have ch:=j.o.cell 5;have ci:=j.o.cell 6;have cj:=j.o.lt;clear bc dc dd de df dh di dj;go_wp2_with fail;refine(b9.o _).mono ?_;rintro W ab ⟨rfl,l⟩;have ac:=Af<|ca.o.trans (l.mono (HF ak.o.lt));have i:=Af<|ak.o.below l ak.o.lt;have v:=Af<|j.o.below l j.o.lt;have ad:=Af<|AA cb.o l;clear l b9 cc cd ce cf cg ch ci cj
     cases al:Be s level with
     |false=>
      rw[al] at aj;clear al;go_wp2
      go_roundw
      case rel=>exact⟨g+1,b,_,by have:=L.o;have:=n.o;go_num,L.o,Af (by rw[aj.o];simp),⟨b6,a7.o,ad.o,a9.o⟩,ac.o,i.o⟩
      case measure=>simp[intOf];have m:=L.o;have o:=n.o;omega
     |true=>
      rw[al] at aj;clear al;have cc:=v.o.cell 0;have cd:=v.o.cell 1;have ce:=v.o.cell 2;have cf:=v.o.cell 3;have cg:=v.o.cell 4;have ch:=v.o.cell 5;have ci:=v.o.cell 6;have cj:=v.o.lt;have el:=i.o.cell 1;have bd:=i.o.frozen 1;have be:=i.o.lt;go_upto_region 11 with fail;have dk:E a.heap.size≠(Ar F b.length G).ownBlock:=λe=>by have dl:=(Ai ad.o e.symm).1;omega
      go_region_law (refine E6 _ (by rfl) (.tmp 39) (.tmp 41) tTl (by rfl) (a.heap.size+1) Bq cx zTx 7 72 underlying97 cy cz c0 c1 rfl (by decide) (.slice F b.length G) b.length b6.flatten (by rfl) (ad.o.alloc _) ⟨ab.heap.size,0,O⟩ 1 1 [I J s.id,I J s.thr,I J s.status,I J s.beg,I J s.fin,I J s.tri,.slice q s.deeds.length r] (by rfl) (by rfl) (Ee (cs:= #[I J s.id,I J s.thr,I J s.status,I J s.beg,I J s.fin,I J s.tri,.slice q s.deeds.length r]) (t:=Bq) (fr:=(0,0)) (D4 ab _)) bb.o.one (by omega) (by have:=b4.o;unfold Al;omega) (by have:=b4.o;omega) (by have:=i.o.lt;simp;omega) (ab.heap.size+1) (by simp) ?_;intro am ck em cl bf _ _;have ae:=(i.o.alloc (K #[I J s.id,I J s.thr,I J s.status,I J s.beg,I J s.fin,I J s.tri,.slice q s.deeds.length r] Bq)).drew.grown bf dk;have dm:=ae.cell 1;have dn:=ae.frozen 1;have dp:=ae.lt)
      all_goals
       have A:=Af<|(ac.o.alloc ac.o.size (K #[I J s.id,I J s.thr,I J s.status,I J s.beg,I J s.fin,I J s.tri,C q s.deeds.length r] Bq)).drew.grown bf (by have:=i.o.lt;simp;omega) (λen dq=>by have:=(Ai ad.o dq).1;omega);have an:=Af<|GN.snoc a7.o a9.o rfl bb.o cl;have S:=Af<|ae.put 1 (C (E ⟨am,0,O⟩) (b.length+1) ck);have dr:Hid (a.heap.size≠am):=Af (by rcases ‹_∨am=_›with e|e<;>(first|(have:=(Ai ad.o e).1;omega)|(have:=i.o.lt;omega)));clear cl bf dm dn dp ae;go_wp2
       go_roundw
       case rel=>exact⟨g+1,b++[s],C (E ⟨am,0,O⟩) (b.length+1) ck,by have:=L.o;have:=n.o;go_num,L.o,Af (by rw[aj.o];simp),an.o.far (p:=⟨a.heap.size,1,O⟩) (λe=>dr.o (by injection e with e;exact e.symm)) _,A.o.setCell (p:=⟨a.heap.size,1,O⟩) (Aa _) _,by simpa using S.o⟩
       case measure=>simp[intOf];have m:=L.o;have o:=n.o;omega
    .have eo:decide (g<txs.length)=false:=by simpa using D
     have cn:g=txs.length:=by omega
     have co:Hid (b=txs.filter (Be · level)):=Af (by rw[a5.o,cn,Ex]);have ds:=Af<|b5.o.read D3.keeps Z.o;have cp:=Af<|TH (w:=wr) (bv.o.below D3.keeps Z.o) c3.o n.o;obtain⟨M,rfl⟩:∃M:U,M=wr:=⟨_,rfl⟩;have cq:Hid ((Ar F b.length G).ownBlock≠E a.heap.size):=Af (λe=>by have dl:=(Ai a8.o e).1;omega);clear D k cn b1 a7 a8 a9 a2 bz a3 ds;go_wp2_with fail;refine cp.o.mono ?_;rintro W ab ⟨x,c,rfl,cr,ai,cs,l⟩;have dt:=Af cr;have du:=Af ai;have ac:=Af<|Z.o.trans (l.mono (HF aa.o.lt));have i:=Af<|aa.o.below l aa.o.lt;have dv:=Af cs;have dw:=Af<|b5.o.call l;have dx:=i.o.cell 2;have bd:=i.o.frozen 2;have be:=i.o.lt;clear cr ai cs l cp;go_upto_region 16 with fail;have ct:Hid (a.heap.size≠x):=Af (by have m:=du.o;have o:=aa.o.lt;omega);have S:=Af<|i.o.put 2 (C (E ⟨x,0,O⟩) c c);have A:=Af<|ac.o.setCell (p:=⟨a.heap.size,2,O⟩) (Aa _) (C (E ⟨x,0,O⟩) c c);have bg:=Af<|dv.o.far (p:=⟨a.heap.size,2,O⟩) (Eu ct.o) (C (E ⟨x,0,O⟩) c c);have an:=Af<|dw.o.far (p:=⟨a.heap.size,2,O⟩) cq.o (C (E ⟨x,0,O⟩) c c);generalize ab.setCell ⟨a.heap.size,2,O⟩ (C (E ⟨x,0,O⟩) c c)=dy at S A bg an|-;clear dx bd be;have bh:=bp.o.below A.o bp.o.lt;have az:=bh.cell 0;have m:=bh.lt;have cu:=Af<|Abu (w:=dy) (c5.o.below A.o) c2.o a0.o.2.2.1 a0.o.1 (bq.o.below A.o);clear bh;go_wp2_with fail;refine cu.o.mono ?_;rintro W dz ⟨af,ep,rfl,bi⟩;have d0:=Af bi;obtain⟨u,t,rfl⟩:=bi.shape;have ag:=Af<|S.o.below af S.o.lt;have d1:=Af<|A.o.trans (af.mono (HF S.o.lt));have d2:=Af<|bg.o.below af bg.o.lt;have d3:=Af<|an.o.call af;have eq:=ag.o.cell 3;have bd:=ag.o.frozen 3;have be:=ag.o.lt;clear bi af cu az m;go_wp2;go_ret2;have bj:(os.map Cq).length=os.length:=by simp
     have d4:=ag.o.put 3<|C u os.length t;have cv:=d1.o.setCell (p:=⟨a.heap.size,3,O⟩) (Aa _)<|C u os.length t;have d5:=d3.o.far (p:=⟨a.heap.size,3,O⟩) cq.o<|C u os.length t;have d6:=d2.o.far (p:=⟨a.heap.size,3,O⟩) (Eu ct.o)<|C u os.length t;have d7:CH dz (C u os.length t) (os.map Cq):=by rw[<-bj];exact d0.o
     have d8:=d7.slot3 ag.o<|C u os.length t;refine⟨Y.o.trans (cv.mono Y.o.size),.inl ⟨txs,a.heap.size,a0.o,bu.o,n.o,rfl,Y.o.size,F,G,x,c,u,t,?_,?_,?_,?_,?_⟩⟩
     .show Ah _ _ tGm #[I J level,C F (txs.filter (Be · level)).length G,C (E ⟨x,0,O⟩) c c,C u (os.map Cq).length t];rw[bj,<-co.o];simpa using d4
     .show DD 7 D3 _ (C F (txs.filter (Be · level)).length G) (txs.filter (Be · level));rw[<-co.o];exact d5.read D3.keeps cv
     .exact dt.o
     .exact d6
     .show CH _ (C u (os.map Cq).length t) (os.map Cq);rw[bj];exact d8
 .have d9:=Af bt;clear bt;go_wp2;go_ret2;exact⟨Y.o,.inr ⟨λtxs m o=>absurd ⟨m,by rw[o];rfl⟩ d9.o,_,⟨_,_,rfl⟩,rfl⟩⟩
section
open Go.Lib
abbrev F5:Ab:=9
theorem FM{sep:List UInt8}{m:Nat}:∀(ws:List (List UInt8)),(∀a∈ws,a.length<=m)->(Ea ws sep).length<=(m+sep.length)*ws.length
 |[],_=>by simp[Ea,List.intercalate]
 |[a],h=>by
  rw[FF];have:=h a (by simp);simp;omega
 |a::d::b,h=>by
  rw[DI];have j:=h a (by simp);have e:=FM (sep:=sep) (m:=m) (d::b) (λg i=>h g (by simp[i]));simp only[Ef,C4] at e|-;rw[Nat.mul_succ (m+sep.length) (b.length+1)];omega
theorem TL(k:Int)(b:1<=k/\k<=4):(AT 1 k).length<=8:=by
 rcases (show k=1∨k=2∨k=3∨k=4 by omega) with a|a|a|a<;>rw[a]<;>decide
theorem MF{s:AO}(b:s.Ok):∀x∈s.words,x.length<=50:=by
 intro x a;have g:=b.n;unfold AO.words at a;rcases B2.1 a with rfl|a
 .have:=TL s.kind b.k;omega
 .split at a
  .rw[List.mem_singleton.1 a];have:=H8 s.num (by omega) (by omega);omega
  .split at a
   .obtain⟨i,g,rfl⟩:=EE.1 a;have d:=b.q i g;unfold QE at d;have:=H8 i (by omega) (by omega);omega
   .split at a
    .obtain⟨e,j,rfl⟩:=EE.1 a;have d:=b.p e j;unfold QE at d;have k:=H8 e.1 (by omega) (by omega);have l:=H8 e.2 (by omega) (by omega);unfold DR;simp only[Ef,C4];omega
    .cases a
theorem LD(s:AO):s.words.length<=2+s.sz:=by
 unfold AO.words AO.sz
 split
 .simp only[C4,Em];omega
 .split
  .simp only[C4,HC];omega
  .split
   .simp only[C4,HC];omega
   .simp only[C4,Em];omega
theorem Acq{W:U}{B:Nat}{s:AO}(h:W.ownsRow B F5 1 (C A n c) n (txs s.words))(a:s.Ok)(g:s.sz<=1000000):
 Calls prog 68 #[C A n c] W λb d=>b=R (.string ⟨s.key.toArray⟩)/\Below W W d:=by
 have i:=LD s;have e:=FM (sep:=[32]) s.words<|MF a;refine Ju _ s.words W (BC h) (by omega)<|A8 e ?_;simp only[E3];omega
theorem Aaj{p:Int×Int}(h:(0<=p.1/\p.1<=1000)/\-1000000000<=p.2/\p.2<=1000000000):¬9223372036854775807<(itoa p.1).length+1/\¬9223372036854775807<(itoa p.1).length+1+(itoa p.2).length:=by
 have a:=H8 p.1 (by omega) (by omega);have b:=H8 p.2 (by omega) (by omega);omega
theorem WV(p:Int×Int):((({data:=(itoa p.1).toArray}:ByteArray)++({data:= #[58]}:ByteArray))++({data:=(itoa p.2).toArray}:ByteArray))=⟨(DR p).toArray⟩:=by
 apply UW;simp[DR,UX]
theorem Aey{w:U}{v:N}{s:AO}(b0:Gj w v s)(p:s.Ok)(ap:s.sz<=1000000)(aq:AE w):
 Calls prog 148 #[v] w λk b1=>k=R (.string ⟨s.key.toArray⟩)/\Below w.heap.size w b1:=by
 obtain⟨ar,au,av,aw,ax⟩:=A1 RM;obtain⟨bb,bc,bd,be,rfl,bf,bg⟩:=b0;have ay:=Zc w<|K #[I J s.kind,I J s.num,C bb s.q.length bc,C bd s.ps.length be] AZ;have b2:=Af ay;have bh:=Af<|Ah.new w AZ #[I J s.kind,I J s.num,C bb s.q.length bc,C bd s.ps.length be];have b3:=Af bf;have b4:=Af bg;have bi:=Af p;have bj:=Af ap;have af:=Af aq;have az:=FD 1 s.kind (by have:=p.k;omega) _<|aq.below ay;unfold BH at az;have bk:=Af az;have b5:=bh.o.cell 0;have a0:=Af (λ(a1:U) (b6 b c:Nat) (b7:Option Addr) (h:a1.ownsRow b6 F5 1 (C b7 b c) b (txs s.words))=>Acq h p ap);have W:=p.k;have ag:=Af<|GO s.num (by have:=p.n;omega) (by have:=p.n;omega);clear ay bf bg p ap aq az;go_in;go_wp2_with fail;refine bk.o.mono ?_;rintro k q ⟨rfl,r⟩;have a2:=Af<|b2.o.trans (r.mono (by simp));have b8:=Af<|bh.o.below r (by simp);clear r bk b5;go_upto_region 2 with fail;have ah:Hid ((q.alloc (K #[.string ⟨(AT 1 s.kind).toArray⟩] F5)).ownsRow w.heap.size F5 1 (C (E ⟨q.heap.size,0,O⟩) 1 1) 1 (txs [AT 1 s.kind])):=Af<|BX (w:=q) (cs:= #[.string ⟨(AT 1 s.kind).toArray⟩]) (t:=F5) (B:=w.heap.size) (size:=1) (n:=1) rfl a2.o.size (by unfold Al;omega);have A:=Af<|b8.o.alloc (K #[.string ⟨(AT 1 s.kind).toArray⟩] F5);have B:=Af<|a2.o.alloc a2.o.size (K #[.string ⟨(AT 1 s.kind).toArray⟩] F5);have bl:q.heap.size<(q.alloc (K #[.string ⟨(AT 1 s.kind).toArray⟩] F5)).heap.size:=by simp
 generalize q.alloc (K #[.string ⟨(AT 1 s.kind).toArray⟩] F5)=a1 at ah A B bl|-;have cv:=A.o.cell 0;have cw:=A.o.cell 1;have cx:=A.o.cell 2;have cy:=A.o.cell 3;have cz:=A.o.lt;have b9:=Af<|af.o.below B.o;clear bl;by_cases D:s.kind=1∨s.kind=2
 .have X:Hid (s.words=[AT 1 s.kind,Ei s.num]):=Af (by unfold AO.words;rw[if_pos D]);have ca:=Af<|ag.o a1 b9.o.tab;clear ag W;rcases D with bm|a3
  all_goals
   first
    |(have bn:(s.kind==1)=true:=by simp[bm])
    |((have bn:(s.kind==1)=false:=by simp[a3]);(have cb:(s.kind==2)=true:=by simp[a3]))
   first|clear bm|clear a3
   go_wp2_with fail;refine ca.o.mono ?_;rintro k ai ⟨rfl,u⟩;have x:=Af<|AA ah.o u;have g:=Af<|B.o.trans (u.mono B.o.size);clear u;go_wp2_with (at_builtin;refine B9 _ rfl (.tmp 17) (.tmp 21) 63 rfl w.heap.size F5 ar (.string .empty) 1 16 underlying63 au av aw ax rfl (by decide) (.slice (E ⟨q.heap.size,0,O⟩) 1 1) 1 (txs [AT 1 s.kind]) rfl (x.o.alloc _) ⟨ai.heap.size,0,O⟩ 1 1 [.string ⟨(Ei s.num).toArray⟩] rfl rfl (En _ _ _) (by simp[B4]) (by unfold Al;omega) (by omega) (by have:=g.o.size;simp;omega) ?_;intro cc bo F Y _ _;obtain⟨cd,ce,rfl⟩:=Ag F);have Z:Hid (bo.ownsRow w.heap.size F5 1 (C cd 2 ce) 2 (txs s.words)):=Af (by rw[X.o];exact F);have aj:=Af<|(g.o.alloc g.o.size (K #[.string ⟨(Ei s.num).toArray⟩] F5)).grown Y (by have:=g.o.size;simp;omega) (λbp aa=>(Ai (x.o.alloc (K #[.string ⟨(Ei s.num).toArray⟩] F5)) aa).1);have ab:=Af<|a0.o _ _ _ _ _ Z.o;clear F Y;go_wp2_with fail;refine ab.o.mono ?_;rintro k bq ⟨rfl,o⟩;have ac:=Af<|aj.o.trans (o.mono aj.o.size);clear o;go_wp2;go_ret;exact⟨rfl,ac.o⟩
 .have bn:(s.kind==1)=false:=by simp;omega
  have cb:(s.kind==2)=false:=by simp;omega
  by_cases G:s.kind=3
  .have cf:(s.kind==3)=true:=by simp[G]
   have X:Hid (s.words=AT 1 s.kind::s.q.map Ei):=Af (by unfold AO.words;rw[if_neg D,if_pos G]);have cg:s.q.length<=1000000:=by have:=bj.o;unfold AO.sz at this;omega
   clear D G W ag;go_wp2
   go_loopw [3,28] (λa4 y wr=>∃(a:Nat),y=I J a/\a<=s.q.length/\wr.ownsRow w.heap.size F5 1 a4 (a+1) (txs (AT 1 s.kind::(s.q.take a).map Ei))/\Below w.heap.size w wr) (λ_ y _=>s.q.length+1-(intOf y).toNat)
   case atStart=>exact⟨0,rfl,A9 _,ah.o,B.o⟩
   case round=>
    obtain⟨a,rfl,W,d,j⟩:=hrel;have a5:=Af d;have l:=Af j;obtain⟨ad,ae,rfl⟩:=Ag d;by_cases m:a<s.q.length
    .obtain⟨b,n⟩:∃b,s.q[a]?=E b:=⟨s.q[a],An m⟩;obtain⟨L,ak,a6,_,_,M⟩:=(b3.o.below j).at n;subst a6
     have al:wr.cell? ⟨L,ak+a,O⟩=E (I J b):=by
      have:=M 0 _ rfl (by omega);simpa using this
     have br:L<wr.heap.size:=Ad wr _ al;have ch:(0:Int)<=(a:Int):=by omega
     have ci:(a:Int)<(s.q.length:Int):=by omega
     have S:=bi.o.q b<|Ap n;unfold QE at S;have bs:=Af<|GO b (by omega) (by omega) wr (af.o.below j).tab;have a7:Hid (txs (AT 1 s.kind::(s.q.take (a+1)).map Ei)=txs (AT 1 s.kind::(s.q.take a).map Ei)++[.string ⟨(Ei b).toArray⟩]):=Af (by rw[EO,n];simp[txs,BH]);have i:=Af m;clear M n d j S;go_wp2_with fail;refine bs.o.mono ?_;rintro k ai ⟨rfl,u⟩;have x:=Af<|AA a5.o u;have g:=Af<|l.o.trans (u.mono l.o.size);clear u al br bs;go_wp2_with (at_builtin;refine B9 _ rfl (.tmp 32) (.tmp 35) 63 rfl w.heap.size F5 ar (.string .empty) 1 16 underlying63 au av aw ax rfl (by decide) (.slice ad (a+1) ae) (a+1) (txs (AT 1 s.kind::(s.q.take a).map Ei)) rfl (x.o.alloc _) ⟨ai.heap.size,0,O⟩ 1 1 [.string ⟨(Ei b).toArray⟩] rfl rfl (En _ _ _) (by simp[B4]) (by have:=i.o;unfold Al;omega) (by have:=i.o;omega) (by have:=g.o.size;simp;omega) ?_;intro cc bo F Y _ _);have aj:=Af<|(g.o.alloc g.o.size (K #[.string ⟨(Ei b).toArray⟩] F5)).grown Y (by have:=g.o.size;simp;omega) (λbp aa=>(Ai (x.o.alloc (K #[.string ⟨(Ei b).toArray⟩] F5)) aa).1);have cj:=Af F;clear F Y;go_wp2
     go_roundw
     case rel=>exact⟨a+1,by have:=i.o;go_num,i.o,by rw[a7.o];exact cj.o,aj.o⟩
     case measure=>simp[intOf];have:=i.o;omega
    .have ck:decide (a<s.q.length)=false:=by simpa using m
     have z:a=s.q.length:=by omega
     have Z:Hid (wr.ownsRow w.heap.size F5 1 (C ad (a+1) ae) (a+1) (txs s.words)):=Af (by rw[X.o];rw[z,Ex] at d;rw[z];exact d);have ab:=Af<|a0.o _ _ _ _ _ Z.o;clear m z d j;go_wp2_with fail;refine ab.o.mono ?_;rintro k bq ⟨rfl,o⟩;have ac:=Af<|l.o.trans (o.mono l.o.size);clear o;go_wp2;go_ret;exact⟨rfl,ac.o⟩
  .have cf:(s.kind==3)=false:=by simp[G]
   have a8:s.kind=4:=by omega
   have ck:(s.kind==4)=true:=by simp[a8]
   have X:Hid (s.words=AT 1 s.kind::s.ps.map DR):=Af (by unfold AO.words;rw[if_neg D,if_neg G,if_pos a8]);have cg:s.ps.length<=1000000:=by have:=bj.o;unfold AO.sz at this;omega
   clear D G W ag a8;go_wp2
   go_loopw [3,43] (λa4 y wr=>∃(a:Nat),y=I J a/\a<=s.ps.length/\wr.ownsRow w.heap.size F5 1 a4 (a+1) (txs (AT 1 s.kind::(s.ps.take a).map DR))/\Below w.heap.size w wr) (λ_ y _=>s.ps.length+1-(intOf y).toNat)
   case atStart=>exact⟨0,rfl,A9 _,ah.o,B.o⟩
   case round=>
    obtain⟨a,rfl,W,d,j⟩:=hrel;have a5:=Af d;have l:=Af j;obtain⟨ad,ae,rfl⟩:=Ag d;by_cases m:a<s.ps.length
    .obtain⟨e,n⟩:∃b,s.ps[a]?=E b:=⟨s.ps[a],An m⟩;obtain⟨L,ak,a6,_,_,M⟩:=(b4.o.below j).at n;subst a6;have al:wr.cell? ⟨L,ak+a*2,O⟩=E (I J e.1):=M 0 _ rfl (by omega);have c0:wr.cell? ⟨L,ak+a*2+1,O⟩=E (I J e.2):=M 1 _ rfl (by omega);have br:L<wr.heap.size:=Ad wr _ al;have ch:(0:Int)<=(a:Int):=by omega
     have ci:(a:Int)<(s.ps.length:Int):=by omega
     have S:=bi.o.p e<|Ap n;unfold QE at S;have cl:=Af S;have cn:=Af<|GO e.1 (by omega) (by omega);have co:=Af<|GO e.2 (by omega) (by omega);have a7:Hid (txs (AT 1 s.kind::(s.ps.take (a+1)).map DR)=txs (AT 1 s.kind::(s.ps.take a).map DR)++[.string ⟨(DR e).toArray⟩]):=Af (by rw[EO,n];simp[txs,BH]);have i:=Af m;clear M n d j S;go_upto_region 16 with fail;have a9:=Af<|l.o.alloc l.o.size (K #[I J e.1,I J e.2] BN);have cp:=Af<|a5.o.alloc (K #[I J e.1,I J e.2] BN);have bt:=Af<|Ah.new wr BN #[I J e.1,I J e.2];have c1:prog.follows Ge=true:=by kernel_rfl
     obtain⟨k1,k2⟩:=Aaj (p:=e) cl.o
     go_region_law (first
      |(refine E6 _ (by rfl) (.tmp 47) (.tmp 56) 63 (by rfl) w.heap.size F5 ar (.string .empty) 1 16 underlying63 au av aw ax rfl (by decide) (.slice ad (a+1) ae) (a+1) (txs (AT 1 s.kind::(s.ps.take a).map DR)) (by rfl) (bu.o.alloc _) ⟨bv.heap.size,0,O⟩ 1 1 [_] (by rfl) (by rfl) (En _ _ _) (by simp[B4]) (by omega) (by have:=i.o;unfold Al;omega) (by have:=i.o;omega) (by have:=am.o.size;simp;omega) (bv.heap.size+1) (by simp) ?_;intro c2 c3 ai bw bz _ _)
      |(go_simp;go_at_call 67;refine(cn.o _ (af.o.below a9.o.drew).tab).mono ?_;rintro k c4 ⟨rfl,an⟩;have ba:=Af (a9.o.drew.trans (an.mono a9.o.size));have cq:=Af (AA cp.o.drew an);have ao:=bt.o.drew.below an bt.o.lt;have cr:=ao.cell 0;have ct:=ao.cell 1;have cu:=ao.lt;clear an ao)
      |(go_simp;go_at_call 67;refine(co.o _ (af.o.below ba.o).tab).mono ?_;rintro k bv ⟨rfl,r⟩;have am:=Af (ba.o.trans (r.mono ba.o.size));have bu:=Af (AA cq.o r);clear r cr ct cu))
     all_goals go_wp2_with fail
     all_goals
      have g:=Af<|(am.o.alloc am.o.size _).grown bz (by have:=am.o.size;simp;omega) (λbp aa=>(Ai bu.o aa).1);have x:=Af bw;clear bz bw
      go_roundw
      case rel=>exact⟨a+1,by have:=i.o;go_num,i.o,by rw[a7.o,<-WV];exact x.o,g.o⟩
      case measure=>simp[intOf];have:=i.o;omega
    .have c5:decide (a<s.ps.length)=false:=by simpa using m
     have z:a=s.ps.length:=by omega
     have Z:Hid (wr.ownsRow w.heap.size F5 1 (C ad (a+1) ae) (a+1) (txs s.words)):=Af (by rw[X.o];rw[z,Ex] at d;rw[z];exact d);have ab:=Af<|a0.o _ _ _ _ _ Z.o;clear m z d j;go_wp2_with fail;refine ab.o.mono ?_;rintro k bq ⟨rfl,o⟩;have ac:=Af<|l.o.trans (o.mono l.o.size);clear o;go_wp2;go_ret;exact⟨rfl,ac.o⟩
end
section
attribute [local go_sem] Oper.semAt_some
theorem Aal(v:Value)(ws:List (List UInt8))(sep:List UInt8)(w:World)(u:BU w v (txs ws))(L:ws.length≤1000000000)(x:(Ea ws sep).length≤1000000000):
 Calls prog 109 #[v,.string ⟨sep.toArray⟩] w fun k l=>k=.returned (.string ⟨(Ea ws sep).toArray⟩)∧Below w.heap.size w l:=by
 obtain⟨i,c,b,j,rfl,m,n,o,y⟩:=u
 rw [KP] at m n o⊢
 rcases Nat.eq_zero_or_pos ws.length with d|d
 ·obtain rfl:ws=[]:=EU d
  exact(Tryz.strings_Join_none i c ⟨sep.toArray⟩ w).mono fun k l ⟨z,A⟩=>⟨z,A▸Ae _ _⟩
 ·have B:i=some ⟨b,j,none⟩:=by
   cases i with
   |none=>have:=(m rfl).1;omega
   |some a=>rw [n a rfl d]
  subst B
  have p:(ws.map fun a=>(⟨a.toArray⟩:ByteArray)).map (·.data.toList)=ws:=by rw[HY];exact(List.map_congr_left (g:=id) fun a _=>rfl).trans (List.map_id _)
  have q:∀(e:Nat) a,(ws.map fun a=>(⟨a.toArray⟩:ByteArray))[e]?=some a→w.cell? ⟨b,j+e,none⟩=some (.string a):=by
   intro e a r
   refine y e _ ?_
   rw[EK] at r
   obtain⟨M,D,rfl⟩:=Eo.1 r
   simp [txs,BH,D]
  have F:b<w.heap.size:=by
   have G:=q 0 ⟨ws[0].toArray⟩ (by simp[An d])
   exact Ad w _ G
  have t:=Tryz.strings_Join b j c (ws.map fun a=>(⟨a.toArray⟩:ByteArray)) ⟨sep.toArray⟩ w q F (by simp;omega) (by simpa using o) (by rw[p];exact A8 x (by omega))
  rw [p] at t
  simpa using t
def Gl{w0:World}{l:List AO}(x:Cz w0 l):List UInt8:=((l[x.1.1]?).map AO.key).getD []
theorem TM{w0:World}{l:List AO}{ys:List (Cz w0 l)}(h:De l.length ys):ys.map Gl=l.map AO.key:=by
 have a:ys.map Gl=(ys.map (fun b=>b.1.1)).map (fun d=>((l[d]?).map AO.key).getD []):=by rw[HY];rfl
 rw [a,h]
 refine List.ext_getElem? fun e=> ?_
 by_cases g:e<l.length
 ·simp [g]
 ·rw[EP (by simp;omega),EP (by simp;omega)]
theorem CD{d:Fence}{n:Nat}{P:Program}{e:Array Oper}{o:Oper}{a:Act}{w:World}{K:Act→World→Prop}{j:Exit→Act→World→Prop}{k:Prop}(l:o.guard=none)(s x:Operand)(t:Ab)
 (b:o.op=.call {callee:=.builtin .append,args:= #[s,x],argTypes:= #[t,t]}) (v g:Value) (m:a.eval s=v) (p:a.eval x=g) (i:Value) (w':World) (q:(Oi #[t,t] o.type #[v,g]).run P w=.ok i w') (h:K (a.put o.dst i) w'):
 if Gv o (yielded e a.tmps)=true then J2 d n P o a w K j else k:=by
 have r:Gv o (yielded e a.tmps)=true:=by simp[Gv,l]
 rw [if_pos r]
 unfold J2
 refine⟨?_, ?_⟩
 ·simp [Oper.about,b,resolve,Target.leads,Sem.run_pure]
 ·rw [Oper.semAt_plain d _ _ (by rw [b];intro c u;cases u)]
  simp [execOp,b,resolve,invoke,builtin,m,p,q,Result.andThen]
  exact h
theorem F6{W W':World}(a:Below W.heap.size W W'):KeepsOthers W W':=⟨a.size,fun b _ h _=>(a.block b (AB h)).trans h⟩
theorem Ns.of{W w:World}(b:Below W.drew.heap.size W.drew w):Ns W w:=fun d _ a=>(b.block d (AB a)).trans a
abbrev DW:Ab:=63
def KI(S:Nat)(w:World){w0:World}{l:List AO}(a:List (Cz w0 l))(W:World):Prop:=∃b,Ah W (S+1) DW #[b]∧W.ownsRow (S+1+1) F5 1 b a.length (txs (a.map Gl))∧Below S w W
theorem KI.turn{S B:Nat}{w W W' w0:World}{l:List AO}{d:List (Cz w0 l)}{row:Option Nat}(h:KI S w d W)(i:S≤B)(a:W.grownBy W' row)(b:∀r,row=some r→B≤r∧∃o:Obj,W.heap[r]?=some o∧o.isCells=false):KI S w d W':=by
 obtain⟨j,e,k,m⟩:=h
 have n:=e.lt
 exact⟨j,Bd a b _ _ _ e,AK k (fun p q _ g=>(Bd a b _ _ _ g).trans g.symm),Cr m i (by omega) a b⟩
theorem PD{w W:World}{S n:Nat}{v u:Value}{xs:List Value}{e:Obj}(j:w.ownsRow (S+1+1) F5 1 v n xs)(l:(w.alloc e).grownBy W v.ownBlock)(m:Ah W (S+1) DW #[v]){k:Nat}{o:Obj}(g:w.heap[k]?=some o)(p:∀cs,o≠.cells cs F5 (0,0))(q:∀cs,o≠.cells cs DW (0,0)):(W.setCell ⟨S+1,0,none⟩ u).heap[k]?=some o:=by
 have r:=AB g
 have i:(w.alloc e).heap[k]?=some o:=(ER w e k r).trans g
 have b:W.heap[k]?=some o:=(l.block k (AB i) (fun a=>by
  rcases j.2 with ⟨rfl,_⟩|⟨x,y,cur,rfl,_,d,_⟩
  ·cases a
  ·injection a with a
   subst a
   rw [g] at d
   injection d with d
   exact p _ d)).trans i
 refine(B3 W ⟨S+1,0,none⟩ u k (fun a=>?_)).trans b
 subst a
 have t:W.heap[S+1]?=some (.cells #[v] DW (0,0)):=m
 rw [t] at b
 injection b with b
 exact q _ b.symm
theorem KY{w W X Y w0:World}{l:List AO}{B n k m:Nat}{v:Value}{b:List (Cz w0 l)}{x:Cz w0 l}{d:Obj}{t:List UInt8}(A:Gl x=t)(D:n=b.length)(u:KeepsOthers W X)(F:Ns W X)(i:Below w.heap.size w X)(o:X.ownsRow (w.heap.size+1+1) F5 1 v n (txs (b.map Gl)))(j:(X.alloc d).grownBy Y v.ownBlock)(q:Ah Y (w.heap.size+1) DW #[v])
 (y:Y.ownsRow (w.heap.size+1+1) F5 1 (.slice (some ⟨k,0,none⟩) (n+1) m) (n+1) (txs (b.map Gl)++[.string ⟨t.toArray⟩])) (_hor:v.ownBlock=some k∨k=(X.alloc d).heap.size):
 E0 B W (Y.setCell ⟨w.heap.size+1,0,none⟩ (.slice (some ⟨k,0,none⟩) (n+1) m))∧Ns W (Y.setCell ⟨w.heap.size+1,0,none⟩ (.slice (some ⟨k,0,none⟩) (n+1) m))∧KI w.heap.size w (b++[x]) (Y.setCell ⟨w.heap.size+1,0,none⟩ (.slice (some ⟨k,0,none⟩) (n+1) m)):=by
 subst D
 have G:w.heap.size+1≠k:=by
  have L:=i.size
  have M:(X.alloc d).heap.size=X.heap.size+1:=by simp
  have ac:w.heap.size+1+1≤k:=(Ai y (g:=k) rfl).1
  omega
 refine⟨(show KeepsOthers W _ from⟨?_,fun S Z aa r=> ?_⟩).from B,fun g e a=> ?_,.slice (some ⟨k,0,none⟩) (b.length+1) m, ?_, ?_, ?_⟩
 ·have ad:=u.size
  have ae:=j.size
  have M:(X.alloc d).heap.size=X.heap.size+1:=by simp
  simp
  omega
 ·exact PD o j q (u.same S Z aa r) (fun e a=>by subst a;cases r) (fun e a=>by subst a;cases r)
 ·exact PD o j q (F g e a) (fun e a=>by injection a with _ a;exact absurd a (by decide)) (fun e a=>by injection a with _ a;exact absurd a (by decide))
 ·simpa using q.put 0 (.slice (some ⟨k,0,none⟩) (b.length+1) m)
 ·have z:=Ak y (p:=⟨w.heap.size+1,0,none⟩) (fun a=>G (by injection a with a;exact a.symm)) (.slice (some ⟨k,0,none⟩) (b.length+1) m)
  simpa [txs,BH,A] using z
 ·have L:=i.size
  exact((i.alloc i.size d).grown j (by simp;omega) (fun af ab=>by have z:=(Ai o ab).1;omega)).setCell (p:=⟨w.heap.size+1,0,none⟩) (by show w.heap.size≤w.heap.size+1;omega) _
theorem Sm{s:AO}(a:s.Ok)(e:s.sz≤1000000):s.key.length≤60000000:=by
 have g:=LD s
 have b:=FM (sep:=[32]) s.words (MF a)
 have d:s.key=Ea s.words [32]:=rfl
 rw [d]
 refine A8 b ?_
 simp only[E3]
 omega
theorem Af5(tmps:Array Value)(W:World)(r:Value)(a:tmps.getD 2 Ac=r):(As Tryz.f88 tmps).run prog W=.ok r W:=by
 have b:tmps[2]?.getD Ac=r:=by simpa using a
 simp[As,Tryz.f88,b,go_sem]
theorem WX(w:World)(tmps:Array Value)(r:Value)(l:tmps.getD 2 Ac=r):∀(b:List Nat) (W:World),b.Nodup→(∀a∈b,W.heap[a]?=some (.deferred (some []))∧w.heap.size≤a)→Below w.heap.size w W→
 LeavesInM Ed 8 prog Tryz.f88 tmps (fun e n=>e=.returned r∧Below w.heap.size w n) (b.map fun a=>{target:=.collected a,args:= #[]}) .returning W
 |[],W,_,_,g=>⟨_,Af5 tmps W r l,rfl,g⟩
 |a::b,W,i,d,g=>by
  have m:=(d a (by simp)).1
  refine⟨by simp,.inl ⟨a,_,rfl,HW m,?_⟩⟩
  rw [List.nodup_cons] at i
  refine WX w tmps r l b _ i.2 (fun j k=>?_) (g.trans (belowK_b (w:=w) (Aa _) W a _ _ (d a (by simp)).2 m rfl rfl))
  have o:j≠a:=fun e=>i.1 (e▸k)
  exact⟨(H7 o).trans (d j (Il _ k)).1,(d j (Il _ k)).2⟩
theorem AeA{w:World}{v:Value}{l:List AO}(a0:CH w v l)(ab:∀s∈l,s.Ok∧s.sz≤1000000)(cs:l.length≤8)(bg:AE w):
 Calls prog 88 #[.agg #[v]] w fun b4 b5=>b4=.returned (.string ⟨(keyOf l).toArray⟩)∧Below w.heap.size w b5:=by
 obtain⟨al,am,an,ao,ap⟩:=A1 RM
 obtain⟨k,c,rfl⟩:=a0.shape
 have b6:=Af a0
 have a1:=Af ab
 have b7:=Af bg
 refine(Dh (n:=8)).1 (callsIn_of_wp_marks func88 rfl trivial ?_)
 refine wpIn_wide.2 (wp_mono ?_ (WW _))
 simp only[ntmps88,EQ,C4,Em,Nat.reduceAdd,Nat.reduceSub,Fy,Fz,FE,FV,Es,Ez]
 have bh:=Af (fun b=>Acp (.slice k l.length c) b)
 go_wp2_with (go_at_call 147;refine(bh.o _).mono ?_;rintro i ct ⟨rfl,rfl⟩)
 have bi:=AG w (.cells #[.slice k l.length c] 119) (.cells #[.slice none 0 0] DW)
 have bj:=(Bo w (.cells #[.slice k l.length c] 119) DW #[.slice none 0 0]).alloc (.cells #[.slice k l.length c] 119)
 have a2:=Ah.new ((w.alloc (.cells #[.slice k l.length c] 119)).alloc (.cells #[.slice none 0 0] DW)) 119 #[.slice k l.length c]
 have bk:=bi.alloc (by simp;omega) (.cells #[.slice k l.length c] 119)
 simp only[Eb] at a2
 have bl:(((w.alloc (.cells #[.slice k l.length c] 119)).alloc (.cells #[.slice none 0 0] DW)).alloc (.cells #[.slice k l.length c] 119)).heap.size=w.heap.size+1+1+1:=by simp
 have a3:Hid (KI w.heap.size w ([]:List (Cz w l)) (((w.alloc (.cells #[.slice k l.length c] 119)).alloc (.cells #[.slice none 0 0] DW)).alloc (.cells #[.slice k l.length c] 119))):=Af ⟨.slice none 0 0,bj,by simpa [txs] using (show World.ownsRow _ (w.heap.size+1+1) F5 1 (.slice none 0 0) 0 [] from⟨by simp,.inl ⟨rfl,rfl⟩⟩),bk⟩
 have bm:=Af a2
 have b8:=Af bl
 generalize ((w.alloc (.cells #[.slice k l.length c] 119)).alloc (.cells #[.slice none 0 0] DW)).alloc (.cells #[.slice k l.length c] 119)=a4 at a3 bm b8⊢
 refine Aak (fun u b=>(∃ac:List (Cz w l),De l.length ac∧KI w.heap.size w ac b)∧b.heap[u]?=some (.deferred (some []))∧w.heap.size≤u) (fun u b=>False) ?range ?rest ?left
 case range=>
  have b9:=bm.o.cell 0
  have bn:Below w.heap.size w a4:=by obtain⟨_,_,_,h⟩:=a3.o;exact h
  have ca:w.heap.size≤a4.heap.size:=bn.size
  refine(wpIn_wide (n:=8)).1 ?_
  apply wpIn_rangeFunc_ownH (n:=8) rfl (by omega) (gf:=230) (lb:= #[.pointer (some ⟨w.heap.size+1+1,0,none⟩)]) rfl trivial (Eg func230 (by kernel_rfl) rfl)
   (Nu (w.heap.size+1+1) b6.o (by omega) a4 bn b9)
   (fun h cb=>Ns.trans h cb) (fun b l cc cd _ x y _=>Ns.putObj b l cc cd x y) (Ae _ _) (fun _=>rfl)
   (fun (e:List (Cz w l)) b=>KI w.heap.size w e b)
   (fun c (e:List (Cz w l)) b=>False)
   (fun e b bo bp h p aq=>h.turn ca p aq)
   (fun c e b bo bp h p aq=>h.elim)
   a3.o (fun ag a5 b=>∃A,Ah b A AZ ag.1.2.toArray∧a5={tmps:= #[.agg #[.slice k l.length c],.pointer (some ⟨w.heap.size,0,none⟩),.string ⟨#[]⟩,.pointer (some ⟨w.heap.size+1,0,none⟩),Ac,.pointer (some ⟨A,0,none⟩),.agg #[.slice k l.length c],.func (.func 230) #[] #[.pointer (some ⟨w.heap.size+1+1,0,none⟩)],.int .i64 (ag.1.1:Int),.agg ag.1.2.toArray,Ac,Ac,Ac,Ac,Ac,Ac,Ac],defers:=[]})
   (fun ag a5 s b bo bp h p aq=>by
    obtain⟨A,x,B⟩:=h
    exact⟨A,Bd p aq _ _ _ x,B⟩)
   ?assign ?body ?done ?stop
  case assign=>
   rintro ar e ⟨⟨bq,ah⟩,s,D,au⟩ b K av a
   obtain⟨br,bs,ai,F,G⟩:=au
   obtain⟨L,M,rfl⟩:=F.shape
   obtain⟨S,W,rfl⟩:=G.shape
   obtain rfl:ah=[.int .i64 s.kind,.int .i64 s.num,.slice L s.q.length M,.slice S s.ps.length W]:=ai
   unfold Cz.enc
   have ce:=Af a
   have cf:=Af av
   dsimp only
   gi_wp2_with fail
   refine ce.o _ _ (RB (HV b _ none) (fun cu i=>by cases i)) (fun A cv i=>(ER b _ A (AB i)).trans i) ?_ ⟨b.heap.size,Ah.new b AZ _,rfl⟩
   obtain⟨bt,x,y,B⟩:=cf.o
   exact⟨bt,x.alloc _,y.alloc _,B.alloc B.size _⟩
  case body=>
   rintro ar e ⟨⟨bq,ah⟩,s,D,au⟩ a5 b cw-⟨bt,aw,a6,bu⟩ ⟨A,p,rfl⟩ cx
   have bv:Gj w (.agg ah.toArray) s:=by
    obtain⟨br,bs,ai,F,G⟩:=au
    obtain⟨L,M,rfl⟩:=F.shape
    obtain⟨S,W,rfl⟩:=G.shape
    have cg:ah=[.int .i64 s.kind,.int .i64 s.num,.slice L s.q.length M,.slice S s.ps.length W]:=ai
    exact⟨L,M,S,W,by rw [cg],F,G⟩
   obtain⟨br,bs,ai,F,G⟩:=au
   obtain⟨L,M,rfl⟩:=F.shape
   obtain⟨S,W,rfl⟩:=G.shape
   obtain rfl:ah=[.int .i64 s.kind,.int .i64 s.num,.slice L s.q.length M,.slice S s.ps.length W]:=ai
   obtain⟨aj,ak,rfl⟩:=Ag a6
   have ab:=a1.o s (Ap D)
   have a7:=Af (fun (ch:World) (bw:Below w.heap.size w ch)=>Aey (Gj.below bv bw) ab.1 ab.2 (b7.o.below bw))
   have q:=Af bu
   have ad:=Af aw
   have a8:=Af a6
   have cy:=Af p
   have cz:=p.cell 0
   have c0:=p.cell 1
   have c1:=p.cell 2
   have c2:=p.cell 3
   have c3:=p.lt
   have ci:=aw.cell 0
   have cj:=aw.lt
   have ck:prog.follows Ge=true:=by kernel_rfl
   dsimp only
   gi_wp2_with fail
   have ax:=Af (show Gl (w0:=w) (l:=l) ⟨(bq,[.int .i64 s.kind,.int .i64 s.num,.slice L s.q.length M,.slice S s.ps.length W]),s,D,_,_,rfl,F,G⟩=s.key by unfold Gl;simp [D])
   refine wpIn_region_any ck ?_
   change wpAnyIn _ _ _ _ _ _ _ _ _ (World.drew _)
   refine EI (rs:=[0,1]) (by kernel_rfl) (by simp) ?_
   refine EA rfl (fun K a=>?_) ?_
   ·go_simp
    refine a _ _ ?_
    refine EI (rs:=[1]) (by kernel_rfl) (by simp) ?_
    refine EA rfl (fun K a=>?_) ?_
    ·go_simp
     refine a _ _ ?_
     refine EI (rs:=[2]) (by kernel_rfl) (by simp) ?_
     refine EA rfl (fun K a=>?_) ?_
     ·go_simp
      gi_wp2_with (refine⟨trivial,?_⟩;gi_at_call 148;refine(Gg ar (Dh.2 (a7.o _ q.o.drew))).mono ?_;rintro i r ⟨rfl,d⟩;have j:=Af (ad.o.drew.below d ad.o.drew.lt);have o:=Af (AA a8.o.drew d);have z:=Af (q.o.drew.trans (d.mono q.o.size));have ae:=Af (Oj (Ol b) (F6 d));have af:=Af (Ns.of (W:=b) d);have bz:=j.o.cell 0;have b0:=j.o.lt;clear d)
      refine EI (rs:=[3]) (by kernel_rfl) (by simp) ?_
      refine EA rfl (fun K a=>?_) ?_
      ·go_simp
       refine a _ _ ?_
       refine EI (rs:=[4]) (by kernel_rfl) (by simp) ?_
       refine EA rfl (fun K a=>?_) ?_
       ·obtain⟨a9,ba,bb,X,Y,t,Z,bc⟩:=run_append_lies (P:=prog) (r.alloc (.cells #[.string ⟨s.key.toArray⟩] F5)) DW DW (w.heap.size+1+1) F5 al (.string .empty) 1 16 underlying63 am an ao ap rfl (by decide) (.slice aj e.length ak) e.length (txs (e.map Gl)) (o.o.alloc _) ⟨r.heap.size,0,none⟩ 1 1 [.string ⟨s.key.toArray⟩] rfl (En _ _ _) (by simp[B4]) (by omega) (by unfold Al;omega) (by omega) (by have:=j.o.lt;simp;omega) _ rfl
        have g:=(j.o.alloc (.cells #[.string ⟨s.key.toArray⟩] F5)).grown t (fun i=>by have aa:=(Ai o.o i.symm).1;omega)
        refine CD rfl (.tmp 10) (.tmp 13) DW rfl _ _ (by rfl) (by rfl) _ _ X ?_
        refine a _ _ ?_
        have bd:=g.cell 0
        have be:=g.frozen 0
        have bf:=g.lt
        refine EI (rs:=[5]) (by kernel_rfl) (by simp) ?_
        refine EA rfl (fun K a=>?_) ?_
        ·go_simp
         refine a _ _ ?_
         refine wpAnyIn_done (by kernel_rfl) ?_ _
         exact KY ax.o rfl ae.o af.o z.o o.o t g Y Z
        exact EJ
       exact EJ
      exact EJ
     exact EJ
    exact EJ
   refine EA rfl (fun K a=>?_) ?_
   ·go_simp
    refine a _ _ ?_
    refine EI (rs:=[0,2]) (by kernel_rfl) (by simp) ?_
    refine EA rfl (fun K a=>?_) ?_
    ·go_simp
     refine a _ _ ?_
     refine EI (rs:=[2]) (by kernel_rfl) (by simp) ?_
     refine EA rfl (fun K a=>?_) ?_
     ·go_simp
      gi_wp2_with (refine⟨trivial,?_⟩;gi_at_call 148;refine(Gg ar (Dh.2 (a7.o _ q.o.drew))).mono ?_;rintro i r ⟨rfl,d⟩;have j:=Af (ad.o.drew.below d ad.o.drew.lt);have o:=Af (AA a8.o.drew d);have z:=Af (q.o.drew.trans (d.mono q.o.size));have ae:=Af (Oj (Ol b) (F6 d));have af:=Af (Ns.of (W:=b) d);have bz:=j.o.cell 0;have b0:=j.o.lt;clear d)
      refine EI (rs:=[3]) (by kernel_rfl) (by simp) ?_
      refine EA rfl (fun K a=>?_) ?_
      ·go_simp
       refine a _ _ ?_
       refine EI (rs:=[4]) (by kernel_rfl) (by simp) ?_
       refine EA rfl (fun K a=>?_) ?_
       ·obtain⟨a9,ba,bb,X,Y,t,Z,bc⟩:=run_append_lies (P:=prog) (r.alloc (.cells #[.string ⟨s.key.toArray⟩] F5)) DW DW (w.heap.size+1+1) F5 al (.string .empty) 1 16 underlying63 am an ao ap rfl (by decide) (.slice aj e.length ak) e.length (txs (e.map Gl)) (o.o.alloc _) ⟨r.heap.size,0,none⟩ 1 1 [.string ⟨s.key.toArray⟩] rfl (En _ _ _) (by simp[B4]) (by omega) (by unfold Al;omega) (by omega) (by have:=j.o.lt;simp;omega) _ rfl
        have g:=(j.o.alloc (.cells #[.string ⟨s.key.toArray⟩] F5)).grown t (fun i=>by have aa:=(Ai o.o i.symm).1;omega)
        refine CD rfl (.tmp 10) (.tmp 13) DW rfl _ _ (by rfl) (by rfl) _ _ X ?_
        refine a _ _ ?_
        have bd:=g.cell 0
        have be:=g.frozen 0
        have bf:=g.lt
        refine EI (rs:=[5]) (by kernel_rfl) (by simp) ?_
        refine EA rfl (fun K a=>?_) ?_
        ·go_simp
         refine a _ _ ?_
         refine wpAnyIn_done (by kernel_rfl) ?_ _
         exact KY ax.o rfl ae.o af.o z.o o.o t g Y Z
        exact EJ
       exact EJ
      exact EJ
     exact EJ
    refine EA rfl (fun K a=>?_) ?_
    ·go_simp
     gi_wp2_with (refine⟨trivial,?_⟩;gi_at_call 148;refine(Gg ar (Dh.2 (a7.o _ q.o.drew))).mono ?_;rintro i r ⟨rfl,d⟩;have j:=Af (ad.o.drew.below d ad.o.drew.lt);have o:=Af (AA a8.o.drew d);have z:=Af (q.o.drew.trans (d.mono q.o.size));have ae:=Af (Oj (Ol b) (F6 d));have af:=Af (Ns.of (W:=b) d);have bz:=j.o.cell 0;have b0:=j.o.lt;clear d)
     refine EI (rs:=[0,3]) (by kernel_rfl) (by simp) ?_
     refine EA rfl (fun K a=>?_) ?_
     ·go_simp
      refine a _ _ ?_
      refine EI (rs:=[3]) (by kernel_rfl) (by simp) ?_
      refine EA rfl (fun K a=>?_) ?_
      ·go_simp
       refine a _ _ ?_
       refine EI (rs:=[4]) (by kernel_rfl) (by simp) ?_
       refine EA rfl (fun K a=>?_) ?_
       ·obtain⟨a9,ba,bb,X,Y,t,Z,bc⟩:=run_append_lies (P:=prog) (r.alloc (.cells #[.string ⟨s.key.toArray⟩] F5)) DW DW (w.heap.size+1+1) F5 al (.string .empty) 1 16 underlying63 am an ao ap rfl (by decide) (.slice aj e.length ak) e.length (txs (e.map Gl)) (o.o.alloc _) ⟨r.heap.size,0,none⟩ 1 1 [.string ⟨s.key.toArray⟩] rfl (En _ _ _) (by simp[B4]) (by omega) (by unfold Al;omega) (by omega) (by have:=j.o.lt;simp;omega) _ rfl
        have g:=(j.o.alloc (.cells #[.string ⟨s.key.toArray⟩] F5)).grown t (fun i=>by have aa:=(Ai o.o i.symm).1;omega)
        refine CD rfl (.tmp 10) (.tmp 13) DW rfl _ _ (by rfl) (by rfl) _ _ X ?_
        refine a _ _ ?_
        have bd:=g.cell 0
        have be:=g.frozen 0
        have bf:=g.lt
        refine EI (rs:=[5]) (by kernel_rfl) (by simp) ?_
        refine EA rfl (fun K a=>?_) ?_
        ·go_simp
         refine a _ _ ?_
         refine wpAnyIn_done (by kernel_rfl) ?_ _
         exact KY ax.o rfl ae.o af.o z.o o.o t g Y Z
        exact EJ
       exact EJ
      exact EJ
     refine EA rfl (fun K a=>?_) ?_
     ·go_simp
      refine a _ _ ?_
      refine EI (rs:=[0]) (by kernel_rfl) (by simp) ?_
      refine EA rfl (fun K a=>?_) ?_
      ·go_simp
       refine a _ _ ?_
       refine EI (rs:=[4]) (by kernel_rfl) (by simp) ?_
       refine EA rfl (fun K a=>?_) ?_
       ·obtain⟨a9,ba,bb,X,Y,t,Z,bc⟩:=run_append_lies (P:=prog) (r.alloc (.cells #[.string ⟨s.key.toArray⟩] F5)) DW DW (w.heap.size+1+1) F5 al (.string .empty) 1 16 underlying63 am an ao ap rfl (by decide) (.slice aj e.length ak) e.length (txs (e.map Gl)) (o.o.alloc _) ⟨r.heap.size,0,none⟩ 1 1 [.string ⟨s.key.toArray⟩] rfl (En _ _ _) (by simp[B4]) (by omega) (by unfold Al;omega) (by omega) (by have:=j.o.lt;simp;omega) _ rfl
        have g:=(j.o.alloc (.cells #[.string ⟨s.key.toArray⟩] F5)).grown t (fun i=>by have aa:=(Ai o.o i.symm).1;omega)
        refine CD rfl (.tmp 10) (.tmp 13) DW rfl _ _ (by rfl) (by rfl) _ _ X ?_
        refine a _ _ ?_
        have bd:=g.cell 0
        have be:=g.frozen 0
        have bf:=g.lt
        refine EI (rs:=[5]) (by kernel_rfl) (by simp) ?_
        refine EA rfl (fun K a=>?_) ?_
        ·go_simp
         refine a _ _ ?_
         refine wpAnyIn_done (by kernel_rfl) ?_ _
         exact KY ax.o rfl ae.o af.o z.o o.o t g Y Z
        exact EJ
       exact EJ
      exact EJ
     exact EJ
    exact EJ
   exact EJ
  case done=>
   rintro u ac b ay az av a
   exact⟨u,rfl,.inl ⟨.inl rfl,⟨ac,az,av⟩,a,by omega⟩⟩
  case stop=>
   rintro u c e b ay _ cl a
   exact cl.elim
 case left=>
  rintro u b hF
  exact hF.elim
 case rest=>
  rintro u b ⟨⟨ac,az,v,x,y,B⟩,ay,b1⟩
  rw [TM az] at y
  have cn:ac.length=l.length:=by have aa:=congrArg Fu az;simpa using aa
  rw [cn] at y
  have b2:(Ea (l.map AO.key) [59,32]).length≤1000000000:=by
   have aa:=FM (sep:=[59,32]) (m:=60000000) (l.map AO.key) (fun ag co=>by
    obtain⟨s,D,rfl⟩:=EE.1 co
    exact Sm (a1.o s D).1 (a1.o s D).2)
   simp only[HC,C4,Em] at aa
   omega
  have cp:=Af (Aal v (l.map AO.key) [59,32] b (BC (by simpa using y)) (by simp;omega) b2)
  have q:=Af B
  have b3:=Af ay
  have cq:=Af b1
  obtain⟨aj,ak,rfl⟩:=Ag y
  have ci:=x.cell 0
  have cj:=x.lt
  dsimp only
  go_wp2_with (go_at_call 109;refine cp.o.mono ?_;rintro i r ⟨rfl,d⟩;have z:=Af d;clear d)
  exact WX w _ _ rfl [u] r (by simp) (fun cr h=>(show cr=u by simpa using h) ▸⟨(z.o.block _ (AB b3.o)).trans b3.o,cq.o⟩) (q.o.trans (z.o.mono q.o.size))
end
theorem Aam(a:Func){t:Ab}(hF:a.results= #[.cell i t])(e:t=KJ)(tmps:Array N)(W:U)(g:Nat)(a0 b:N)(j:tmps.getD i Ac=g)(d:Ah W g KJ #[a0,b]):
 (As a tmps).run prog W=.ok (.agg #[a0,b]) W:=by
 subst e;have k:=d.cell 0;have l:=d.cell 1;have m:tmps[i]?.getD Ac=g:=by simpa using j
 simp[As,hF,m,go_sem,k,l]
theorem WY{w:U}{v:N}{n:Nd}(i:CH w v n.st)(k:∀s∈n.st,s.Ok/\s.sz<=1000000)(l:n.st.length<=8)(m:AE w):
 Calls prog 42 #[.agg #[(n.placed:Int),v]] w λr t=>r=R (DT (n.placed,keyOf n.st))/\Below w w t:=by
 obtain⟨d,c,rfl⟩:=i.shape;have e:=Af<|AG w (K #[(n.placed:Int),C d n.st.length c] Ck) (K #[(),.string ⟨#[]⟩] KJ);have a:=Af<|(Ah.new w Ck #[(n.placed:Int),C d n.st.length c]).alloc (K #[(),.string ⟨#[]⟩] KJ);have j:=Af<|Bo w (K #[(n.placed:Int),C d n.st.length c] Ck) KJ #[(),.string ⟨#[]⟩];have u:=Af (λ(x:U) (o:Below w w x)=>AeA (CH.below i o) k l (m.below o));go_in;go_upto_region 1 with fail;generalize (w.alloc (K #[(n.placed:Int),C d n.st.length c] Ck)).alloc (K #[(),.string ⟨#[]⟩] KJ)=z at e a j|-;have A:=a.o.cell 0;have B:=a.o.cell 1;have D:=a.o.lt;have F:prog.follows Ge=true:=by kernel_rfl
 go_region_with (go_at_call 88;refine(u.o _ e.o.drew).mono ?_;rintro G L ⟨rfl,g⟩;have y:=Af (e.o.drew.trans (g.mono e.o.size));have b:=Af (j.o.drew.below g j.o.drew.lt);have q:=Af (a.o.drew.below g a.o.drew.lt);have M:=b.o.cell 0;have S:=b.o.cell 1;have W:=b.o.frozen 0;have X:=b.o.frozen 1;have Y:=b.o.lt;have Z:=q.o.cell 0;have aa:=q.o.cell 1;clear g)
 all_goals
  go_wp2_with fail;refine Ao (Aam _ rfl rfl _ _ (w+1) (n.placed:Int) (.string ⟨(keyOf n.st).toArray⟩) rfl (by simpa using (b.o.put 0 (n.placed:Int)).put 1 (.string ⟨(keyOf n.st).toArray⟩))) rfl ⟨rfl,?_⟩;exact(y.o.setCell (p:=(w+1:Nat)) (Ax _) _).setCell (p:=⟨w.heap.size+1,1,O⟩) (Ax _) _
theorem Aan(h:m<=12):wrap64 (wrap64 (2^m)-1)=((1<<<m-1:Nat):Int):=by
 have a:(2:Nat)^m<=2^12:=Oc (by omega) h;have b:0<(2:Nat)^m:=R0 m;rw[Gc,HR,show((2:Int)^m)=((2^m:Nat):Int) by push_cast;rfl];generalize (2:Nat)^m=d at a b|-;unfold wrap64;omega
theorem Abv{w:U}{G:Bg}(h:JG w g G)(b:G.txs.length<=12):
 Calls prog 90 #[g] w λd e=>d=R ((1<<<G.txs.length-1:Nat):Int)/\w=e:=by
 obtain⟨n,o,p,q,r,t,a,i,j,k,l⟩:=h;have u:=a.cell 1;have m:=Aan b;have v:(G.txs.length:Int)<=64:=by omega
 go_in;go_wp2;rw[m];go_ret;exact⟨rfl,rfl⟩
abbrev txC(s:St)(A:Option Addr)(c:Nat):Array N:= #[s.id,s.thr,s.status,s.beg,s.fin,s.tri,C A s.deeds.length c]
theorem TxV.at{w wr:U}{l:List St}{s:St}(h:DD 7 D3 w (C A m c) l)(r:Below w w wr)(t:l[k]?=s):
 ∃a b e g,A=E ⟨a,b,O⟩/\Ba 8 Qj w (C e s.deeds.length g) s.deeds/\wr.cell? ⟨a,b+k*7,O⟩=s.id/\wr.cell? ⟨a,b+k*7+1,O⟩=s.thr/\wr.cell? ⟨a,b+k*7+2,O⟩=s.status/\wr.cell? ⟨a,b+k*7+3,O⟩=s.beg/\wr.cell? ⟨a,b+k*7+4,O⟩=s.fin/\wr.cell? ⟨a,b+k*7+5,O⟩=s.tri/\wr.cell? ⟨a,b+k*7+6,O⟩=E (C e s.deeds.length g)/\a<wr.heap.size:=by
 obtain⟨a,b,v,u,-,-,-,x,⟨y,rfl,i⟩,j⟩:=h.at t;obtain⟨e,g,rfl⟩:=i.shape;have d:=λn o p=>(r.cell (Ad w _ (j n o p))).trans (j n o p);have q:=d 0 _ rfl;exact⟨a,b,e,g,u,i,q,d 1 _ rfl,d 2 _ rfl,d 3 _ rfl,d 4 _ rfl,d 5 _ rfl,d 6 _ rfl,Ad wr _ q⟩
theorem Acs{p:Nat}(d:p<4096)(j:k<12):(bits .and .i64 ((p:Int)/2^min k 64) 1==1)=p.testBit k:=by
 have e:(p:Int)/2^min k 64=((p/2^k:Nat):Int):=by
  rw[HT (by omega)]
  push_cast
  rfl
 have g:=WR (a:=p/2^k) (b:=1) (H5 (Nat.div_le_self _ _) d) (by omega);rw[e,show(1:Int)=((1:Nat):Int) from rfl,g,Nat.testBit,Nat.shiftRight_eq_div_pow,Nat.and_comm 1];have i:p/2^k&&&1=(p/2^k)%2:=Nat.and_one_is_mod _;rw[i];rcases Nat.mod_two_eq_zero_or_one (p/2^k) with h|h<;>rw[h]<;>rfl
theorem PE(a:m<4096)(h:i<12):bits .or .i64 (m:Int) (wrap64 (2^i))=((m|||1<<<i:Nat):Int):=by
 rw[<-WS a h,show IntKind.i64.wrap (2^i)=wrap64 (2^i) by rw[Ey];unfold wrap64;omega]
theorem TN{p:Nat}(b:m<4096)(j:p<4096):(bits .andNot .i64 (m:Int) (p:Int) !=0)=(m&&&p !=m):=by
 have e:bits .andNot .i64 (m:Int) (p:Int)=((m&&&p^^^m:Nat):Int):=by
  show IntKind.i64.wrap ((Ft 64 (m:Int)&&& ~~~Ft 64 (p:Int)).toNat:Int)=_
  have a:(Ft 64 (m:Int)&&& ~~~Ft 64 (p:Int))=(Ft 64 (m:Int)&&&Ft 64 (p:Int))^^^Ft 64 (m:Int):=by
   ext d k
   simp only[BitVec.getElem_and,BitVec.getElem_not,BitVec.getElem_xor]
   cases (Ft 64 (m:Int))[d]<;>cases (Ft 64 (p:Int))[d]<;>rfl
  rw[a,Is,Is,BitVec.toNat_xor,BitVec.toNat_and,It,It,Iu (by omega),Iu (by omega)];exact JF _<|Nat.xor_lt_two_pow (n:=12) (H5 Nat.and_le_left b) b
 rw[e];by_cases h:m&&&p=m
 .rw[h,Nat.xor_self];simp
 .have:(m&&&p^^^m)≠0:=λa=>h (by have g:=congrArg (· ^^^m) a;simpa[Nat.xor_assoc] using g);have i:(m&&&p !=m)=true:=by simpa using h
  rw[i,bne_iff_ne];omega
def TnR(w:U)(t:CE×Nd)(b:List N):Prop:=∃a c,b=[I J t.1.1,T t.1.2,I J (t.2.placed:Int),C a t.2.st.length c]/\CH w (C a t.2.st.length c) t.2.st
theorem TnR.kept{w w':World}{t:CE×Nd}{q:List Value}(h:TnR w t q)(a:Br w w'):TnR w' t q:=by
 obtain⟨b,c,d,e⟩:=h;exact⟨b,c,d,e.kept a⟩
theorem Br.grown{w w':U}{base size:Nat}{e:Ab}{v:N}{xs:List N}(d:w.ownsRow base e size v m xs)(g:¬(e=Cv∨e=BN∨e=AZ))(i:w.grownBy w' v.ownBlock):Br w w':=by
 have h:∀a,(a=Cv∨a=BN∨a=AZ)->AD a w w':=λa j k b=>i.block k b.lt (λl=>g (Nf d l.symm b▸j));exact⟨h _ (.inl rfl),h _ (.inr (.inl rfl)),h _ (.inr (.inr rfl))⟩
def Qk(B:Nat)(w:U)(v:N)(l:List (CE×Nd)):Prop:=∃a:List (List N),a.length=l.length/\w.ownsRow B Kb 4 v l.length a.flatten/\∀(d:Nat) (e:CE×Nd) (b:List N),l[d]?=e->a[d]?=b->b.length=4/\TnR w e b
theorem Qk.nil(B:Nat)(w:U):Qk B w (C O 0 0) []:=⟨[],rfl,⟨by simp,.inl ⟨rfl,rfl⟩⟩,λa b d h=>by simp at h⟩
theorem Qk.call{B:Nat}{w w':U}{v:N}{l:List (CE×Nd)}(h:Qk B w v l)(a:Below w w w'):Qk B w' v l:=by
 obtain⟨k,m,n,b⟩:=h;exact⟨k,m,AA n a,λd e g i j=>⟨(b d e g i j).1,(b d e g i j).2.kept (Br.below a)⟩⟩
theorem Qk.shape{B:Nat}{w:U}{v:N}{l:List (CE×Nd)}(h:Qk B w v l):∃a c,v=C a l.length c:=by
 obtain⟨d,e,b,g⟩:=h;exact Ag b
theorem Qk.snoc{B:Nat}{w w':U}{v u:N}{l:List (CE×Nd)}{rows:List (List N)}{x:CE×Nd}{q:List N}(e:rows.length=l.length)(n:w.ownsRow B Kb 4 v l.length rows.flatten)(g:∀(a:Nat) (x:CE×Nd) (q:List N),l[a]?=E x->rows[a]?=E q->q.length=4/\TnR w x q)
 (i:TnR w x q) (o:w.grownBy w' v.ownBlock) (h:w'.ownsRow B Kb 4 u (l.length+1) (rows.flatten++q)):Qk B w' u (l++[x]):=by
 have j:=Br.grown n (by decide) o;have p:q.length=4:=by obtain⟨_,_,rfl,_⟩:=i;rfl
 refine⟨rows++[q],by simp[e],by simpa using h,λa k m b d=>?_⟩;by_cases r:a<l.length
 .rw[Ek r] at b;rw[Ek (by omega)] at d;exact⟨(g a k m b d).1,(g a k m b d).2.kept j⟩
 .have t:=(Am.1 b).1;simp at t;obtain rfl:a=l.length:=by omega
  rw[EW (Aa _)] at b;rw[EW (by omega),e] at d;simp at b d;subst b d;exact⟨p,i.kept j⟩
def NU(w:U)(v:N)(l:List (CE×Nd)):Prop:=DD 4 TnR w v l/\Hu Kb w v
theorem Qk.read{B:Nat}{w:U}{v:N}{l:List (CE×Nd)}(h:Qk B w v l):NU w v l:=by
 obtain⟨k,e,a,b⟩:=h;refine⟨DD.of_row a e b (λg i=>?_),Hu.of_row a⟩;obtain⟨j,d⟩:=E8 i;have m:=(Am.1 d).1;exact(b j _ g (An (by omega)) d).1
theorem NU.kept{w w':U}{v:N}{l:List (CE×Nd)}(h:NU w v l)(m:Br w w')(a:AD Kb w w'):NU w' v l:=by
 obtain⟨⟨n,o,p,b⟩,d⟩:=h;exact⟨⟨n,o,p.of_ty d a,λe g i j k=>⟨(b e g i j k).1,(b e g i j k).2.kept m⟩⟩,d.of_heap a⟩
theorem NU.only{S:List Nat}{w w':U}{v:N}{l:List (CE×Nd)}(h:NU w v l)(a:Ay S w w')(d:∀b∈S,Nc w b):NU w' v l:=
 h.kept (Br.of_only a d) (.of_only a λb e g=>d b e _ g (.inr (.inr (.inr rfl))))
theorem NU.below{w w':U}{v:N}{l:List (CE×Nd)}(h:NU w v l)(a:Below w w w'):NU w' v l:=h.kept (Br.below a) (.below a)
theorem QX{G:Bg}{n:Nd}{l r:List (CE×Nd)}{s:St}(h:l++G.turnsFrom n k (G.txs.drop k)=r)(a:G.txs[k]?=s):(l++G.turn n k s)++G.turnsFrom n (k+1) (G.txs.drop (k+1))=r:=by
 obtain⟨b,a⟩:=Am.1 a;rw[<-h,FX b,a,List.append_assoc];rfl
theorem Acv:(prog.info? Kb).map (λa=>(a.zero,a.size,a.bytes))=E (E (.agg #[(),false,(),C O 0 0]),4,48):=by kernel_rfl
theorem QY(i:Int)(b:Bool)(p:Nat)(A:Option Addr)(m c:Nat):∀u∈[Value.int .i64 i,b,(p:Int),C A m c],u.oneCell'=true:=by
 intro u a;simp at a;rcases a with rfl|rfl|rfl|rfl<;>rfl
def WZ(n:Nd)(i:Nat)(t:St):List (CE×Nd):=match AP n.st t.deeds with|some a=>if JE t then [((t.id,true),⟨n.placed|||1<<<i,a⟩)] else []|none=>[]
def W7(G:Bg)(n:Nd)(i:Nat)(t:St):List (CE×Nd):=if t.status !=3&&(G.level !=3||(AP n.st t.deeds).isSome) then [((t.id,false),⟨n.placed|||1<<<i,n.st⟩)] else []
theorem QZ{G:Bg}{n:Nd}{t:St}(h:G.skips n i=false):G.turn n i t=WZ n i t++W7 G n i t:=by unfold Bg.turn;rw[h];rfl
theorem MG{G:Bg}{n:Nd}{t:St}(h:G.skips n i=true):G.turn n i t=[]:=by unfold Bg.turn;rw[h];rfl
theorem TO{w:U}{g:Nat}{G:Bg}{bs:List Int}{n:Nd}{A:Option Addr}{c M:Nat}(bt:JG w g G)(bu:CH w (C A n.st.length c) n.st)(ar:DC bs n.st)(a6:∀W∈G.txs,W.deeds.length<=400/\∀d∈W.deeds,Fp bs d)(cn:∀s∈n.st,s.sz<=M)(dj:M<=900000)(dk:bs.length<=8)(co:G.txs.length<=12)(cp:G.masks.length=G.txs.length)(cq:∀m∈G.masks,m<4096)(cr:n.placed<4096)(cs:AE w):
 Calls prog 46 #[Q (E ⟨g,0,O⟩),.agg #[I J (n.placed:Int),C A n.st.length c]] w λct cu=>∃bv,ct=R bv/\NU cu bv (G.gm.turns n)/\Below w.heap.size w cu:=by
 obtain⟨bw,bz,b0,b1,b2⟩:=A1 Acv;have cv:=λ(cw:U) (W:St) (v:Below w.heap.size w cw) (cx:W∈G.txs) (dl:N) (dm:Ba 8 Qj cw dl W.deeds)=>R9 (M:=M) (bu.below v) dm ar (a6 W cx).2 cn (by have:=(a6 W cx).1;omega) (by omega) (cs.below v);have cy:=Af cv;have ed:=Af bt;have cz:=Af bu;have ee:=Af a6;have e:=Af co;have dn:=Af cp;have dp:=Af cq;have a7:=Af cr;have x:=Af (Zc w (K #[I J (n.placed:Int),C A n.st.length c] Ck));have b3:=Af (Ah.new w Ck #[I J (n.placed:Int),C A n.st.length c]);obtain⟨ef,eg,dq,dr,eh,ei,ac,c0,ds,c1,-⟩:=bt.call x.o;have c2:=Af c0;have b4:=Af ac;have b5:=Af c1;obtain rfl:dr=G.txs.length:=by omega
 obtain⟨ad,c3,a8,c4⟩:((w.alloc (K #[I J (n.placed:Int),C A n.st.length c] Ck)).cell? ⟨g,0,O⟩=_/\_/\_/\_):=⟨ac.cell 0,ac.cell 1,ac.cell 2,ac.cell 3⟩;have dt:=Af ac.lt;clear cv bt bu ar a6 cn dj dk co cp cq cr cs ac c0 ds c1;go_in;go_upto_region 2 with fail;generalize w.alloc (K #[I J (n.placed:Int),C A n.st.length c] Ck)=am at x b3 c2 b4 b5 dt ad c3 a8 c4|-;go_wp2_with fail
 go_loopw [17,5] (λb6 du wr=>∃(a:Nat) (ae:List (CE×Nd)),b6=I J a/\a<=G.txs.length/\ae.length<=2*a/\Hid (ae++G.turnsFrom n a (G.txs.drop a)=G.gm.turns n)/\Qk am.heap.size wr du ae/\Below am.heap.size am wr) (λb6 _ _=>13-(intOf b6).toNat)
 case atStart=>exact⟨0,[],rfl,A9 _,Aa _,Af rfl,Qk.nil _ _,Ae _ _⟩
 case round=>
  obtain⟨a,ae,rfl,ar,b7,c5,a9,v⟩:=hrel;have y:=Af b7;obtain⟨ej,ek,rfl⟩:=a9.shape;have c6:=Af a9;have b8:=Af v;by_cases ba:a<G.txs.length
  .obtain⟨s,bb⟩:∃s,G.txs[a]?=E s:=⟨G.txs[a],An ba⟩;have bc:=Af (QX c5.o bb);obtain⟨el,em,af,ag,rfl,c7,dv,dw,dx,dy,dz,d0,d1,d2⟩:=TxV.at c2.o v bb;have d3:=Af (Ap bb);have o:=Af ba;have en:(0:Int)<=(a:Int):=by omega
   have eo:(a:Int)<(G.txs.length:Int):=by omega
   have ep:(a:Int)<100:=by have:=e.o;omega
   have d4:=Af c7;clear c7;obtain⟨bd,rfl⟩:∃bd:U,bd=wr:=⟨_,rfl⟩;have b9:=Af (Ah.new bd Bq (txC s af ag));have au:=Af (b8.o.alloc b8.o.size (K (txC s af ag) Bq));have av:=Af (c6.o.call ((Ae _ _).alloc (Aa _) (K (txC s af ag) Bq)));clear bb a9 ar b7;go_upto_region 5 with fail;have be:=Af ((b4.o.below v b4.o.lt).alloc (K (txC s af ag) Bq));have ca:=Af ((b5.o.below v b5.o.lt).alloc (K (txC s af ag) Bq));have bf:=Af ((b3.o.below v b3.o.lt).alloc (K (txC s af ag) Bq));clear dv dw dx dy dz d0 d1 d2 v ad c3 a8 c4;generalize bd.alloc (K (txC s af ag) Bq)=bg at b9 au av be ca bf|-;obtain⟨ah,t⟩:=bf.o.c2;have a8:=be.o.cell 2;obtain⟨m,bh⟩:∃m,G.masks[a]?=E m:=⟨_,An (by rw[dn.o];exact ba)⟩;have d5:=Af bh
   have d6:bg.cell? ⟨dq,a,O⟩=E (I J (m:Int)):=by
    rw[ca.o.cell,List.getElem?_toArray];exact Sl bh
   have c8:=dp.o m (Ap bh);clear bh;have c9:a<12:=by have:=e.o;omega
   have ai:=Acs a7.o c9;have bi:=TN c8 a7.o;clear c8 c9;have cb:Hid (G.skips n a=(n.placed.testBit a||(m&&&n.placed !=m))):=Af (by unfold Bg.skips;rw[d5.o];rfl)
   cases X:n.placed.testBit a with
   |true=>
    rw[X] at ai;have an:=Af (MG (t:=s) (cb.o.trans (by rw[X];rfl)));clear X bi;go_quiet (fail);go_wp2_with fail
    go_roundw
    case rel=>exact⟨a+1,ae,by have:=o.o;have:=e.o;go_num,o.o,by have:=y.o;omega,Af (by have i:=bc.o;rw[an.o,Ia] at i;exact i),av.o.call (below_drewN (Ae _ _) _),below_drewN au.o _⟩
    case measure=>simp[intOf];have cc:=o.o;have cd:=e.o;omega
   |false=>
    rw[X] at ai
    cases ao:(m&&&n.placed !=m) with
    |true=>
     rw[ao] at bi;have an:=Af (MG (t:=s) (cb.o.trans (by rw[X,ao];rfl)));clear X ao;go_quiet (fail);go_wp2_with fail
     go_roundw
     case rel=>exact⟨a+1,ae,by have:=o.o;have:=e.o;go_num,o.o,by have:=y.o;omega,Af (by have i:=bc.o;rw[an.o,Ia] at i;exact i),av.o.call (below_drewN (Ae _ _) _),below_drewN au.o _⟩
     case measure=>simp[intOf];have cc:=o.o;have cd:=e.o;omega
    |false=>
     rw[ao] at bi;have an:=Af (QZ (t:=s) (cb.o.trans (by rw[X,ao];rfl)));clear X ao;go_quiet (fail);have aw:=Af (below_drewN au.o nq);have da:=Af (av.o.call (below_drewN (Zb bg) nq));have bj:=Af (b9.o.drewN nq);have ce:=Af (be.o.drewN nq);have bk:=Af (bf.o.drewN nq);clear ah t a8 d6 ai bi b9 au av be ca bf;go_upto_region 6 with fail;generalize bg.drewN nq=V at aw da bj ce bk|-;have db:=Af (cy.o V s (x.o.trans (aw.o.mono x.o.size)) d3.o _ (d4.o.below aw.o));obtain⟨ah,t⟩:=bk.o.c2;have d7:=bj.o.cell 6;go_wp2_with fail;refine db.o.mono ?_;rintro ct Y ⟨ap,d8⟩;have aq:=Af (aw.o.trans (ap.mono aw.o.size));have bl:=Af (da.o.call ap);have bm:=Af (bj.o.below ap bj.o.lt);have bn:=Af (ce.o.below ap ce.o.lt);have bo:=Af (bk.o.below ap bk.o.lt);clear ah t d7 ap db cy;rcases d8 with ⟨z,bv,ax,rfl,cf⟩|⟨ax,p,⟨W,eq,rfl⟩,rfl⟩
     .obtain⟨B,D,rfl⟩:=cf.shape;have cg:=Af ax;clear ax;go_upto_region 7 with fail;have ay:=Af (bm.o.alloc (K #[C B z.length D] BS));have az:=Af (bn.o.alloc (K #[C B z.length D] BS));have aj:=Af (bo.o.alloc (K #[C B z.length D] BS));have a0:=Af (Ah.new Y BS #[C B z.length D]);have Z:=Zc Y (K #[C B z.length D] BS);have a1:=Af (aq.o.trans (Z.mono aq.o.size));have a2:=Af (bl.o.call Z);have dc:=Af (cf.below Z);clear cf;clear Z bm bn bo aq bl;generalize Y.alloc (K #[C B z.length D] BS)=F at*;obtain⟨ah,t⟩:=aj.o.c2;have ch:(a:Int)<=64:=by have:=e.o;omega
      have ai:=PE a7.o (show a<12 by have:=e.o;omega);go_quiet (fail);have j:=Af (ay.o.drewN nq);have q:=Af (az.o.drewN nq);have r:=Af (aj.o.drewN nq);have ci:=Af (a0.o.drewN nq);have k:=Af (below_drewN a1.o nq);have L:=Af (a2.o.call (below_drewN (Zb F) nq));have d9:=Af (dc.o.below (below_drewN (Zb F) nq));clear dc;clear ch ai ah t ay az aj a0 a1 a2;go_upto_region 8 with fail;generalize F.drewN nq=ea at*;have bp:=j.o.cell 0;have bq:=j.o.cell 2;have ad:=q.o.cell 0;have t:=r.o.cell 1;have eb:=ci.o.cell 0;obtain⟨S,ak,al,br,cj,ck,cl⟩:∃S ak al,(s.status==3)=S/\(s.status !=3)= !S/\(s.status==2)=ak/\(G.level !=3)=al:=⟨_,_,_,rfl,rfl,rfl,rfl⟩
      cases S<;>cases ak<;>cases al
      all_goals
       go_wp2_with (first|(at_builtin;obtain⟨a3,aa,b,ab⟩:=L.o.call ((Ae _ _).alloc (Aa _) (K #[I J s.id,.bool true,I J ((n.placed|||1<<<a:Nat):Int),.slice B z.length D] Kb));refine B9 _ rfl (.tmp 67) (.tmp 75) 132 rfl am.heap.size Kb bw (.agg #[I J 0,.bool false,I J 0,.slice O 0 0]) 4 48 underlying132 bz b0 b1 b2 rfl (by decide) _ _ a3.flatten rfl b ⟨_,0,O⟩ 1 1 [I J s.id,.bool true,I J ((n.placed|||1<<<a:Nat):Int),.slice B z.length D] rfl rfl (Ee (cs:= #[I J s.id,.bool true,I J ((n.placed|||1<<<a:Nat):Int),.slice B z.length D]) (t:=Kb) (fr:=(0,0)) (D4 _ _)) (QY _ _ _ _ _ _) (by have:=y.o;have:=o.o;have:=e.o;unfold Al;simp;omega) (by have:=y.o;have:=o.o;have:=e.o;simp;omega) (by have:=k.o.size;simp;omega) ?_;intro dd de u l _ a4;obtain⟨df,dh,rfl⟩:=Ag u;have L:=Af (Qk.snoc (x:=((s.id,true),⟨n.placed|||1<<<a,z⟩)) aa b ab ⟨_,_,rfl,d9.o.below ((Ae _ _).alloc (Aa _) _)⟩ l u);have j:=Af ((j.o.alloc _).grown l (λp=>(j.o.alloc _).apartRow b (by decide) p.symm));have q:=Af ((q.o.alloc _).grown l (λp=>(q.o.alloc _).apartRow b (by decide) p.symm));have r:=Af ((r.o.alloc _).grown l (λp=>(r.o.alloc _).apartRow b (by decide) p.symm));have k:=Af ((k.o.alloc k.o.size _).grown l (by have:=k.o.size;simp;omega) (λdi a5=>(Ai b a5).1));clear aa b ab u l a4;have bp:=j.o.cell 0;have bq:=j.o.cell 2;have ad:=q.o.cell 0;have t:=r.o.cell 1)|(at_builtin;obtain⟨a3,aa,b,ab⟩:=L.o.call ((Ae _ _).alloc (Aa _) (K #[I J s.id,.bool false,I J ((n.placed|||1<<<a:Nat):Int),.slice A n.st.length c] Kb));refine B9 _ rfl (.tmp 91) (.tmp 100) 132 rfl am.heap.size Kb bw (.agg #[I J 0,.bool false,I J 0,.slice O 0 0]) 4 48 underlying132 bz b0 b1 b2 rfl (by decide) _ _ a3.flatten rfl b ⟨_,0,O⟩ 1 1 [I J s.id,.bool false,I J ((n.placed|||1<<<a:Nat):Int),.slice A n.st.length c] rfl rfl (Ee (cs:= #[I J s.id,.bool false,I J ((n.placed|||1<<<a:Nat):Int),.slice A n.st.length c]) (t:=Kb) (fr:=(0,0)) (D4 _ _)) (QY _ _ _ _ _ _) (by have:=y.o;have:=o.o;have:=e.o;unfold Al;simp;omega) (by have:=y.o;have:=o.o;have:=e.o;simp;omega) (by have:=k.o.size;simp;omega) ?_;intro dd de u l _ a4;obtain⟨df,dh,rfl⟩:=Ag u;have L:=Af (Qk.snoc (x:=((s.id,false),⟨n.placed|||1<<<a,n.st⟩)) aa b ab ⟨_,_,rfl,(cz.o.below (x.o.trans (k.o.mono x.o.size))).below ((Ae _ _).alloc (Aa _) _)⟩ l u);have j:=Af ((j.o.alloc _).grown l (λp=>(j.o.alloc _).apartRow b (by decide) p.symm));have q:=Af ((q.o.alloc _).grown l (λp=>(q.o.alloc _).apartRow b (by decide) p.symm));have r:=Af ((r.o.alloc _).grown l (λp=>(r.o.alloc _).apartRow b (by decide) p.symm));have k:=Af ((k.o.alloc k.o.size _).grown l (by have:=k.o.size;simp;omega) (λdi a5=>(Ai b a5).1));clear aa b ab u l a4;have bp:=j.o.cell 0;have bq:=j.o.cell 2;have ad:=q.o.cell 0;have t:=r.o.cell 1))
       go_roundw
       case rel=>
        have i:=L.o
        try simp only[Ef,E3] at i
        exact⟨a+1,_,by have:=o.o;have:=e.o;go_num,o.o,by have:=y.o;simp;omega,Af (by have i:=bc.o;rw[an.o] at i;simpa[WZ,W7,JE,cg.o,br,ck,cj,cl] using i),i,k.o⟩
       case measure=>simp[intOf];have cc:=o.o;have cd:=e.o;omega
     .have cg:=Af ax;clear ax;go_upto_region 7 with fail;have ay:=Af (bm.o.alloc (K #[C O 0 0] BS));have az:=Af (bn.o.alloc (K #[C O 0 0] BS));have aj:=Af (bo.o.alloc (K #[C O 0 0] BS));have a0:=Af (Ah.new Y BS #[C O 0 0]);have Z:=Zc Y (K #[C O 0 0] BS);have a1:=Af (aq.o.trans (Z.mono aq.o.size));have a2:=Af (bl.o.call Z);clear Z bm bn bo aq bl;generalize Y.alloc (K #[C O 0 0] BS)=F at*;obtain⟨ah,t⟩:=aj.o.c2;have ch:(a:Int)<=64:=by have:=e.o;omega
      have ai:=PE a7.o (show a<12 by have:=e.o;omega);go_quiet (fail);have j:=Af (ay.o.drewN nq);have q:=Af (az.o.drewN nq);have r:=Af (aj.o.drewN nq);have ci:=Af (a0.o.drewN nq);have k:=Af (below_drewN a1.o nq);have L:=Af (a2.o.call (below_drewN (Zb F) nq));clear ch ai ah t ay az aj a0 a1 a2;go_upto_region 8 with fail;generalize F.drewN nq=ea at*;have bp:=j.o.cell 0;have bq:=j.o.cell 2;have ad:=q.o.cell 0;have t:=r.o.cell 1;have eb:=ci.o.cell 0;obtain⟨S,ak,al,br,cj,ck,cl⟩:∃S ak al,(s.status==3)=S/\(s.status !=3)= !S/\(s.status==2)=ak/\(G.level !=3)=al:=⟨_,_,_,rfl,rfl,rfl,rfl⟩
      cases S<;>cases ak<;>cases al
      all_goals
       go_wp2_with (first|(at_builtin;obtain⟨a3,aa,b,ab⟩:=L.o.call ((Ae _ _).alloc (Aa _) (K #[I J s.id,.bool false,I J ((n.placed|||1<<<a:Nat):Int),.slice A n.st.length c] Kb));refine B9 _ rfl (.tmp 91) (.tmp 100) 132 rfl am.heap.size Kb bw (.agg #[I J 0,.bool false,I J 0,.slice O 0 0]) 4 48 underlying132 bz b0 b1 b2 rfl (by decide) _ _ a3.flatten rfl b ⟨_,0,O⟩ 1 1 [I J s.id,.bool false,I J ((n.placed|||1<<<a:Nat):Int),.slice A n.st.length c] rfl rfl (Ee (cs:= #[I J s.id,.bool false,I J ((n.placed|||1<<<a:Nat):Int),.slice A n.st.length c]) (t:=Kb) (fr:=(0,0)) (D4 _ _)) (QY _ _ _ _ _ _) (by have:=y.o;have:=o.o;have:=e.o;unfold Al;simp;omega) (by have:=y.o;have:=o.o;have:=e.o;simp;omega) (by have:=k.o.size;simp;omega) ?_;intro dd de u l _ a4;obtain⟨df,dh,rfl⟩:=Ag u;have L:=Af (Qk.snoc (x:=((s.id,false),⟨n.placed|||1<<<a,n.st⟩)) aa b ab ⟨_,_,rfl,(cz.o.below (x.o.trans (k.o.mono x.o.size))).below ((Ae _ _).alloc (Aa _) _)⟩ l u);have j:=Af ((j.o.alloc _).grown l (λp=>(j.o.alloc _).apartRow b (by decide) p.symm));have q:=Af ((q.o.alloc _).grown l (λp=>(q.o.alloc _).apartRow b (by decide) p.symm));have r:=Af ((r.o.alloc _).grown l (λp=>(r.o.alloc _).apartRow b (by decide) p.symm));have k:=Af ((k.o.alloc k.o.size _).grown l (by have:=k.o.size;simp;omega) (λdi a5=>(Ai b a5).1));clear aa b ab u l a4;have bp:=j.o.cell 0;have bq:=j.o.cell 2;have ad:=q.o.cell 0;have t:=r.o.cell 1))
       go_roundw
       case rel=>
        have i:=L.o
        try simp only[Ef,E3] at i
        exact⟨a+1,_,by have:=o.o;have:=e.o;go_num,o.o,by have:=y.o;simp;omega,Af (by have i:=bc.o;rw[an.o] at i;simpa[WZ,W7,JE,cg.o,br,ck,cj,cl] using i),i,k.o⟩
       case measure=>simp[intOf];have cc:=o.o;have cd:=e.o;omega
  .obtain rfl:a=G.txs.length:=by omega
   have br:decide (G.txs.length<G.txs.length)=false:=by simp
   have ec:Hid (ae=G.gm.turns n):=Af (by have i:=c5.o;rw[HQ] at i;simpa[Bg.turnsFrom] using i);clear ba ar a9 v b7;go_wp2_with fail;go_ret;exact⟨_,rfl,ec.o▸c6.o.read,x.o.trans (b8.o.mono x.o.size)⟩
abbrev TP:Ab:=108
def Ql(W:U)(rs:List Rn)(d:List Nd):Prop:=rs.length=d.length/\∀(e:Nat) (a:Rn) (b:Nd),rs[e]?=a->d[e]?=b->a.p=b.placed/\a.m=b.st.length/\CH W a.vl b.st
theorem Ql.kept{W W':U}{rs:List Rn}{a:List Nd}(h:Ql W rs a)(d:Br W W'):Ql W' rs a:=⟨h.1,λe g i j k=>by obtain⟨l,b,c⟩:=h.2 e g i j k;exact⟨l,b,c.kept d⟩⟩
theorem Ql.snoc{W:U}{rs:List Rn}{e:List Nd}{r:Rn}{n:Nd}(h:Ql W rs e)(i:r.p=n.placed/\r.m=n.st.length/\CH W r.vl n.st):Ql W (rs++[r]) (e++[n]):=by
 refine⟨by simp[h.1],λd j k a b=>?_⟩;by_cases g:d<rs.length
 .rw[Ek g] at a;rw[Ek (by rw[<-h.1];exact g)] at b;exact h.2 d j k a b
 .have l:=(Am.1 a).1;simp at l;obtain rfl:d=rs.length:=by omega
  rw[EW (Aa _)] at a;rw[EW (by rw[h.1];exact Aa _),h.1] at b;simp at a b;subst a b;exact i
theorem Ql.tail{W:U}{r:Rn}{n:Nd}{rs:List Rn}{a:List Nd}(h:Ql W (r::rs) (n::a)):Ql W rs a:=⟨by simpa using h.1,λb d e g i=>h.2 (b+1) d e (by simpa using g) (by simpa using i)⟩
def Tys(W:U)(S:List Nat)(T:List Ab):Prop:=∀b∈S,∀a,Du W b a->a∈T
theorem Ah.cel{W:U}{t:Ab}{cs:Array N}(h:Ah W g t cs):Du W g t:=⟨cs,(0,0),h⟩
theorem He{W:U}{base size:Nat}{e:Ab}{v:N}{xs:List N}(b:W.ownsRow base e size v m xs)(a:v.ownBlock=g):Du W g e:=by
 rcases b.2 with ⟨rfl,_⟩|⟨d,j,cur,rfl,_,i,_⟩
 .simp[A5] at a
 .obtain rfl:g=d:=by simpa[A5] using a.symm
  exact⟨_,_,i⟩
theorem Dj.tys{w:U}{B M:Nat}{S:List Nat}{m:List Pa}(h:Dj w B b S M m):Tys w S [Tl,KJ]:=by
 obtain⟨l,n,e,g,i,o,rfl,_⟩:=h;intro p a q d;rcases B2.1 a with rfl|a
 .rw[e.is d];simp
 .rcases B2.1 a with rfl|a
  .let⟨r,c,j⟩:=g.obj;let⟨_,_,k⟩:=d.is j
   cases k
  .rw[Nf i (by simpa using a) d];simp
theorem Ph.cel{w:U}{B N:Nat}{S:List Nat}{l:List Rn}(h:Ph w B b S N l):∀k∈S,Du w k Wl∨Du w k Ck:=by
 obtain⟨g,i,j,d,e,m,n,o,rfl,p⟩:=h;intro k a;rcases B2.1 a with rfl|a
 .exact .inl d.cel
 .exact .inr (He e (by simpa using a))
theorem Du.uniq{W:U}{t t':Ab}(h:Du W b t)(a:Du W b t'):t=t':=by
 obtain⟨_,_,a⟩:=a;let⟨_,_,d⟩:=h.is a;injection d with _ d;exact d.symm
structure Sr (w W:World) (x1 x2 x3 most:Nat) (b:Sg.Bf Nd (Nat×List UInt8)) (S:List Nat):Prop where
 ex:∃(bs:Nat) (S1:List Nat) (met:List Pa) (S2:List Nat) (N:Nat) (qs:List Rn) (sv:Value) (os:List Rn),
  Ah W x1 TP #[.pointer (some ⟨bs,0,none⟩)]/\Dj W w.heap.size bs S1 most met/\met.map Subtype.val=b.met/\Ph W w.heap.size x2 S2 N qs/\N<=b.order.length/\Ql W qs b.todo/\
  Ah W x3 tNl #[sv]/\W.ownsRow w.heap.size Ck 2 sv os.length (os.flatMap L5)/\Ql W os b.order/\S=x1::x3::(S1++S2++sv.ownBlock.toList)/\∀g,sv.ownBlock=some g->g∉S2
 lo:w.heap.size<=x1/\w.heap.size<=x3
 below:Below w.heap.size w W
 len:b.met.length=b.order.length
section
variable {w W W':World} {x1 x2 x3 most:Nat} {b:Sg.Bf Nd (Nat×List UInt8)} {S T:List Nat}
theorem Sr.noSp(h:Sr w W x1 x2 x3 most b S):∀k∈S,Nc W k:=by
 obtain⟨l,m,met,n,o,p,q,r,d,e,t,g,u,v,i,j,x,rfl,y⟩:=h.ex
 intro k a
 simp only[B2,Eh] at a
 rcases a with rfl|rfl|(a|a)|a
 ·exact d.noSp (by decide)
 ·exact i.noSp (by decide)
 ·exact e.noSp k a
 ·exact g.noSp k a
 ·exact JA j (by decide) k a
theorem Sr.lt(h:Sr w W x1 x2 x3 most b S):∀k∈S,w.heap.size≤k∧k<W.heap.size:=by
 obtain⟨l,m,met,n,o,p,q,r,d,e,t,g,u,v,i,j,x,rfl,y⟩:=h.ex
 intro k a
 simp only[B2,Eh] at a
 rcases a with rfl|rfl|(a|a)|a
 ·exact⟨h.lo.1,d.lt⟩
 ·exact⟨h.lo.2,i.lt⟩
 ·exact e.lt k a
 ·exact g.lt k a
 ·exact Ai j (by simpa using a)
theorem Sr.only(h:Sr w W x1 x2 x3 most b S)(d:Ay T W W')(g:∀k∈T,w.heap.size≤k∧k∉S∧Nc W k):Sr w W' x1 x2 x3 most b S:=by
 have a:=Br.of_only d (fun k a=>(g k a).2.2)
 have e:∀k∈S,k∉T:=fun k a i=>(g k i).2.1 a
 obtain⟨j,l,met,m,n,o,p,q,r,t,u,v,x,y,z,A,B,rfl,D⟩:=h.ex
 exact⟨⟨j,l,met,m,n,o,p,q,r.only d (e _ (by simp)),t.only d (fun k a=>e k (by simp [a])),u,v.only d (fun k a=>e k (by simp [a])),x,y.kept a,z.only d (e _ (by simp)),BJ A d (fun k F=>e k (by simp [F])),B.kept a,rfl,D⟩,h.lo,BI h.below d h.below.size (fun k a=>(g k a).1),h.len⟩
theorem Sr.call(h:Sr w W x1 x2 x3 most b S)(a:Below W.heap.size W W'):Sr w W' x1 x2 x3 most b S:=h.only (T:=[]) (Ay.of_below a (Aa _)) (by simp)
end
structure NdG (ks:List Int) (n:Nd):Prop where
 placed:n.placed<4096
 ok:DC ks n.st
 sz:∀s∈n.st,s.sz<=900000
 few:ks.length<=8
theorem NdG.key{b:List Int}{n:Nd}(h:NdG b n):(keyOf n.st).length<=Al:=by
 have d:=FM (sep:=[59,32]) (m:=60000000) (n.st.map AO.key) (λi e=>by
  obtain⟨s,a,rfl⟩:=EE.1 e;exact Sm (h.ok.ok s a).1 (by have:=h.sz s a;omega))
 have g:n.st.length<=8:=by have:=h.ok.len;have:=h.few;omega
 unfold keyOf Al;simp only[C4,Em,HC] at d;have:=Nat.mul_le_mul_left (60000000+(0+1+1)) g;omega
def NdG.pa{a:List Int}{n:Nd}(h:NdG a n):Pa:=⟨(n.placed,keyOf n.st),h.placed,h.key⟩
def Af6(G:Bg)(w W:World)(x1 x2 x3 most:Nat)(b:Sg.Bf Nd (Nat×List UInt8))(S:List Nat)(n:Nd)(r:Ending)(W':World):Prop:=
 (∃a d,Sg.put G.gm most b n=some a∧r=.returned .nilIface∧Sr w W' x1 x2 x3 most a d∧Ay S W W'∧∀e∈d,e∈S∨W.heap.size≤e)∨
 (Sg.put G.gm most b n=none∧∃g,W.cell? ⟨0,0,none⟩=some (.iface 563 (.pointer (some g)))∧r=.returned (.iface 563 (.pointer (some g)))∧Ay S W W')
theorem Nv{b:Sg.Bf Nd (Nat×List UInt8)}{met:List Pa}(h:met.map Subtype.val=b.met)(k:Pa):k∈met↔k.1∈b.met:=by
 rw[<-h,EE];exact⟨λh=>⟨k,h,rfl⟩,λ⟨d,e,a⟩=>by rwa [<-IF a]⟩
theorem Sn{G:Bg}{c4:List Int}{w W:U}{x1 x2 x3 most:Nat}{b:Sg.Bf Nd (Nat×List UInt8)}{S:List Nat}{n:Nd}(h:Sr w W x1 x2 x3 most b S)(bv:CH W (C A n.st.length c) n.st)(bw:NdG c4 n)(a:most<=1000)(bz:b.met.length<=most)(a8:AE W):
 Calls prog 40 #[.agg #[(n.placed:Int),C A n.st.length c],x1,x2,x3] W λb0 W'=>Af6 G w W x1 x2 x3 most b S n b0 W':=by
 obtain⟨c5,c6,c7,c8,c9⟩:=A1 Wm;have ac:Below W W (W.alloc (K #[(n.placed:Int),C A n.st.length c] Ck)):=(Ae _ _).alloc (Aa _) _;have al:=Af<|Ah.new W Ck #[(n.placed:Int),C A n.st.length c];have am:=Af<|h.call ac;have m:=Af h;have a9:=Af<|bv.below ac;have ba:=Af<|a8.below ac;have b1:=Af ac;have o:=Af bw;have an:=Af<|And.intro a bz;obtain⟨ao,ah,met,da,b2,db,du,j,l,y,L,ap,b3,ad,b4,bb,aq,b5,b6⟩:=am.o.ex;obtain⟨ar,au,rfl⟩:=Ag bb;obtain⟨av,q⟩:=ba.o.errs 0 (by simp)
 have dc:Hid (W.cell? ⟨0,0,O⟩=E (.iface 563 av)):=Af (by
  obtain⟨dv,bc⟩:=a8.errs 0 (by simp);rw[bc,<-q];exact((ac.cell (Ad W _ bc)).trans bc).symm)
 have ae:=Af l;have aw:=Af y;have af:=Af L;have bd:=Af ap;have b7:=Af b3;have b8:=Af ad;have be:=Af b4;have ax:=Af bb;have b9:=Af aq;have r:=Af b5;have ca:=Af b6;have bf:=Af q;have bg:=Af (show(W.alloc (K #[(n.placed:Int),C A n.st.length c] Ck)).heap.size=W.heap.size+1 by simp);go_in;go_upto_region 1 with fail;generalize W.alloc (K #[(n.placed:Int),C A n.st.length c] Ck)=g at al am a9 ba b1 ae aw bd b8 be ax b9 bf bg|-;have ay:Below g g g.drew:=below_drewN (Zb g) 1;have cb:=Af<|WY (w:=g.drew) (v:=C A n.st.length c) (n:=n) (a9.o.below ay) (λs cc=>⟨(o.o.ok.ok s cc).1,by have:=o.o.sz s cc;omega⟩) (by have:=o.o.ok.len;have:=o.o.few;omega) (ba.o.below ay)
 have cd:Hid (∀V,Below g.drew.heap.size g.drew V->Calls prog 41 #[ao,DT o.o.pa.1] V λt dd=>Ab1 V w ao most ah met o.o.pa (.iface 563 av) t dd):=Af (λV de=>by
  have aa:Below g g V:=ay.trans de;exact AfU (w:=V) o.o.pa (aw.o.only (T:=[]) (Ay.of_below aa (Aa _)) (by simp)) (by have l:=congrArg Fu af.o;simp at l;have:=an.o;omega) (by have:=am.o.below.size;have:=aa.size;omega) ((aa.cell (Ad g _ bf.o)).trans bf.o))
 go_cut [6,7] (λaz a0 df=>∃M,Below g.drew.heap.size g.drew M/\Ab1 M w ao most ah met o.o.pa (.iface 563 av) (R (.tuple #[az,a0])) df)
 case first=>
  have bh:=al.o.cell 0;have bi:=al.o.cell 1;have dw:=ae.o.cell 0;have dx:prog.follows Ge=true:=by kernel_rfl
  go_region_with (first
   |(go_at_call 42;refine cb.o.mono ?_;rintro t V ⟨rfl,a1⟩;have dh:=Af a1;have di:=Af (cd.o V a1);have dy:=(ae.o.drew.below a1 ae.o.lt).cell 0;clear a1)
   |(go_at_call 41;refine di.o.mono ?_;rintro t dz ai;have dj:=Af ai;obtain⟨az,a0,rfl⟩:∃az a0,t=R (.tuple #[az,a0]):=(by rcases ai with ⟨_,rfl,_⟩|⟨_,_,rfl,_⟩|⟨_,_,rfl,_⟩<;>exact⟨_,_,rfl⟩);clear ai))
  all_goals
   go_wp2
   go_meet
   exact⟨_,dh.o,dj.o⟩
 case rest=>
  obtain⟨M,ce,ai⟩:=hcut;have aa:Below g g M:=(below_drewN (Zb g) 1).trans ce;have bj:=Af aa;have bk:=Af<|b1.o.trans (aa.mono (by have:=bg.o;omega));have cf:Hid (met.length=b.met.length):=Af (by have l:=congrArg Fu af.o;simpa using l);rcases ai with ⟨a,q,u⟩|⟨a,cg,q,u⟩|⟨a,dk,q,ch,ci,u,cj⟩
  .simp only[Ending.returned.injEq,Value.tuple.injEq,Array.mk.injEq,List.cons.injEq,and_true] at q;obtain⟨rfl,rfl⟩:=q;have aj:Hid (Sg.put G.gm most b n=b):=Af (by unfold Sg.put;rw[if_pos (show G.gm.key n∈b.met from(Nv af.o o.o.pa).1 a)]);have a2:=Af u;go_wp2;go_ret;have dl:Below M M wc:=a2.o.below_of (Aa _) (by simp);exact .inl ⟨b,S,aj.o,rfl,(am.o.call bj.o).call dl,(Ay.of_below bk.o (Aa _)).trans a2.o (by simp),λz e=>.inl e⟩
  .simp only[Ending.returned.injEq,Value.tuple.injEq,Array.mk.injEq,List.cons.injEq,and_true] at q;obtain⟨rfl,rfl⟩:=q;have aj:Hid (Sg.put G.gm most b n=O):=Af (by unfold Sg.put;rw[if_neg (show ¬G.gm.key n∈b.met from λh=>a ((Nv af.o o.o.pa).2 h)),if_pos (by rw[<-cf.o];exact cg)]);have a2:=Af u;go_wp2;go_ret;exact .inr ⟨aj.o,av,dc.o,rfl,(Ay.of_below bk.o (Aa _)).trans a2.o (by simp)⟩
  .simp only[Ending.returned.injEq,Value.tuple.injEq,Array.mk.injEq,List.cons.injEq,and_true] at q;obtain⟨rfl,rfl⟩:=q;have aj:Hid (Sg.put G.gm most b n=E ⟨b.met++[G.gm.key n],b.todo++[n],b.order++[n]⟩):=Af (by unfold Sg.put;rw[if_neg (show ¬G.gm.key n∈b.met from λh=>a ((Nv af.o o.o.pa).2 h)),if_neg (by have:=cf.o;omega)]);have ab:Ay ah g wc:=(Ay.of_below bj.o (Aa _)).trans u (λz e=>.inl e);have bl:=Af ci;have dm:=Af cj;have B:∀d D,Du g d D->D∉ [Tl,KJ]->d∉ah:=λd D l y L=>y (aw.o.tys d L D l);have bm:=Af<|ae.o.only ab (B _ _ ae.o.cel (by decide));have bn:=Af<|be.o.only ab (B _ _ be.o.cel (by decide));have a3:=Af<|bd.o.only ab (λd i=>by rcases bd.o.cel d i with h|h<;>exact B _ _ h (by decide));have dn:=Af<|BJ ax.o ab (λk x=>B _ _ (He ax.o x) (by decide));have a4:=Br.of_only ab (λd i=>aw.o.noSp d i);have ck:=Af<|b8.o.kept a4;have cl:=Af<|b9.o.kept a4;have cn:=Af<|a9.o.kept a4;have bo:=Af<|al.o.only ab (λa=>by have:=m.o.lt W (by rw[r.o];simp[a]);omega);have bp:Hid (Ay ah W wc):=Af<|(Ay.of_below bk.o (Aa _)).trans u (λz e=>.inl e);have co:=Af<|AfW (w:=wc) (N:=b2) ⟨n.placed,A,n.st.length,c⟩ a3.o (by have:=b7.o;have:=m.o.len;have:=an.o;omega) (by have:=m.o.below.size;have:=bp.o.size;omega);have cp:=Af (show g.heap.size<=M.heap.size/\M.heap.size<=wc.heap.size from⟨bj.o.size,u.size⟩);obtain⟨bh,bi⟩:=bo.o.c2;go_upto_region 3 with fail;go_wp2_with fail;refine co.o.mono ?_;rintro b0 a5 ⟨rfl,bq,cq,X,cr⟩
   have B:∀d D,Du wc d D->D≠Wl->D≠Ck->d∉da:=λd D l y L ap=>by
    rcases a3.o.cel d ap with h|h
    .exact y<|l.uniq h
    .exact L<|l.uniq h
   have br:=Af<|bm.o.only X (B _ _ bm.o.cel (by decide) (by decide));have F:=Af<|bn.o.only X (B _ _ bn.o.cel (by decide) (by decide))
   have bs:=Af (bl.o.only X (λd i dp=>by
    rcases a3.o.cel d dp with h|h<;>exact absurd (bl.o.tys d i _ h) (by decide)))
   have ag:=Af<|BJ dn.o X ca.o;have dq:=Af<|bo.o.only X (λa=>by have:=m.o.lt W (by rw[r.o];simp[a]);omega);have a6:=Br.of_only X a3.o.noSp;have dr:=Af<|ck.o.kept a6;have bt:=Af<|cl.o.kept a6;have ct:=Af<|cn.o.kept a6;have bu:=Af cq;have cu:=Af X;have cv:=Af cr;have cw:=Af cu.o.size;obtain⟨bh,bi⟩:=dq.o.c2;have d0:=F.o.cell 0;go_wp2_with (at_builtin;refine B9 _ rfl (.tmp 18) (.tmp 20) tNl rfl w Ck c5 (.agg #[(),.slice O 0 0]) 2 32 underlying112 c6 c7 c8 c9 rfl (by decide) (.slice ar j.length au) j.length (j.flatMap L5) rfl (ag.o.alloc _) _ 1 1 (L5 ⟨n.placed,A,n.st.length,c⟩) rfl rfl (Ee (cs:= #[(n.placed:Int),.slice A n.st.length c]) (t:=Ck) (fr:=(0,0)) (D4 a5 _)) (Wn _) (by have l:=bt.o.1;have y:=m.o.len;have L:=an.o;unfold Al;omega) (by have l:=bt.o.1;have y:=m.o.len;have L:=an.o;omega) (by have:=m.o.below.size;have:=bp.o.size;have:=cw.o;simp;omega) ?_;intro d1 cx cy cz _ ds;obtain⟨Y,Z,rfl⟩:=Ag cy;have a7:=Af ((F.o.alloc (K #[(n.placed:Int),.slice A n.st.length c] Ck)).grown cz (λt=>F.o.apartRow ag.o (by decide) t.symm));have d2:=a7.o.cell 0;have d3:=a7.o.frozen 0;have wl:=a7.o.lt);go_ret;have ak:Ay (x3::(Ar ar j.length au).ownBlock.toList) a5 (cx.setCell x3 (C Y (j.length+1) Z)):=(((Ay.refl _ a5).alloc _).grown cz (λd i=>.inl (by simp[i]))).setCell (.inl (by simp)) _
   have c0:∀k,(Ar ar j.length au).ownBlock=E k->k∉bq:=λk x a=>by
    rcases cv.o k a with h|h
    .exact ca.o k x h
    .have l:=(Ai ax.o x).2;have y:=cp.o;omega
   have ad:∀k,(Ar Y (j.length+1) Z).ownBlock=E k->(Ar ar j.length au).ownBlock=E k∨k=a5.heap.size+1:=λk x=>by
    rcases ds with h|h
    .exact .inl (by rw[<-h];exact x)
    .rw[h] at x;exact .inr (by simp at x;omega)
   have dt:(Ar Y (j.length+1) Z).ownBlock≠E x3:=λt=>by
    rcases ad _ t with h|h
    .exact F.o.apartRow ag.o (by decide) h
    .have:=F.o.lt;omega
   have c1:=Br.of_only ak (λd i=>by
    rcases B2.1 i with rfl|i
    .exact F.o.noSp (by decide)
    .exact JA ag.o (by decide) d i)
   have c2:x3∈S:=by rw[r.o];simp
   have c3:Ay S W (cx.setCell x3 (C Y (j.length+1) Z)):=by
    refine((bp.o.mono (λz e=>.inl (by rw[r.o];simp[e]))).trans cu.o (λz e=>.inl (by rw[r.o];simp[e]))).trans ak (λz e=>?_);rcases B2.1 e with rfl|e
    .exact .inl c2
    .exact .inl (by rw[r.o];simp at e;simp[e])
   refine .inl ⟨_,x1::x3::(ch++bq++(Ar Y (j.length+1) Z).ownBlock.toList),aj.o,rfl,⟨⟨ao,ch,met++[o.o.pa],bq,b2+1,db++[⟨n.placed,A,n.st.length,c⟩],C Y (j.length+1) Z,j++[⟨n.placed,A,n.st.length,c⟩],?_,?_,?_,?_,?_,?_,?_,?_,?_,rfl,?_⟩,m.o.lo,?_,?_⟩,c3,?_⟩
   .refine br.o.only ak (λa=>?_);rcases B2.1 a with t|a
    .exact br.o.apart F.o (by decide) t
    .exact br.o.apartRow ag.o (by decide) (by simpa using a)
   .refine bs.o.only ak (λd i a=>?_);rcases B2.1 a with rfl|a
    .exact absurd (bs.o.tys _ i _ F.o.cel) (by decide)
    .exact absurd (bs.o.tys _ i _ (He ag.o (by simpa using a))) (by decide)
   .rw[H0,af.o];rfl
   .refine bu.o.only ak (λd i a=>?_);rcases B2.1 a with rfl|a
    .rcases bu.o.cel _ i with h|h<;>exact absurd (F.o.is h) (by decide)
    .exact c0 d (by simpa using a) i
   .have:=b7.o;simp;omega
   .exact(dr.o.snoc (r:=⟨n.placed,A,n.st.length,c⟩) (n:=n) ⟨rfl,rfl,ct.o⟩).kept c1
   .simpa using a7.o.put 0 (C Y (j.length+1) Z)
   .have aq:=Ak cy (p:=x3) dt<|C Y (j.length+1) Z;simpa using aq
   .exact(bt.o.snoc (r:=⟨n.placed,A,n.st.length,c⟩) (n:=n) ⟨rfl,rfl,ct.o⟩).kept c1
   .intro k x a;rcases ad k x with h|h
    .exact c0 k h a
    .have:=(bu.o.lt k a).2;omega
   .exact BI m.o.below c3 m.o.below.size (λd i=>(m.o.lt d i).1)
   .have:=m.o.len;simp;exact this
   .intro z e;simp only[B2,Eh,Option.mem_toList] at e;have d4:=cp.o;have d5:=bg.o;rcases e with rfl|rfl|(e|e)|e
    .exact .inl (by rw[r.o];simp)
    .exact .inl c2
    .rcases dm.o z e with h|h
     .exact .inl (by rw[r.o];simp[h])
     .exact .inr (by omega)
    .rcases cv.o z e with h|h
     .exact .inl (by rw[r.o];simp[h])
     .exact .inr (by omega)
    .rcases ad z e with h|h
     .exact .inl (by rw[r.o];simp[h])
     .have:=cw.o;exact .inr (by omega)
theorem MH:∀(l:List BK) (r:Ev) (f:BK),f∉l->(l.foldl (λr f=>r.put f 0) r).get f=r.get f
 |[],_,_,_=>rfl
 |a::l,r,f,h=>by
  simp only[B2,not_or] at h;rw[List.foldl_cons,MH l _ f h.2]
  cases f<;>cases a<;>first|rfl|exact absurd rfl h.1
theorem Hn.zero{os:List Ob}{e:Ev}(h:Hn os e){f:BK}(b:f∉e.fl):e.get f=0:=by
 have a:=congrArg (Ev.get · f) h.1.2.2;unfold Ev.strip at a;simp only[Ex] at a;rw[MH _ _ _ b] at a
 cases f<;>simpa[Ev.get,Ev.zero] using a
theorem Hn.dd{os:List Ob}{e:Ev}(h:Hn os e)(i:e.kind=2)(n:Int):Fp (os.map (·.kind)) ⟨e.obj,e.op,e.key,e.val,0,0,n,-1⟩:=by
 let⟨l,m,o,p⟩:=h.2 i
 have j:e.fl=BP e.op:=by
  unfold Ev.fl Jd;rw[i];rfl
 have k:∀f∈BP e.op,f.lo<=e.get f/\e.get f<=f.hi:=λf a=>h.1.2.1 f (by rw[j];exact a);have d:∀f,f∉BP e.op->e.get f=0:=λf a=>h.zero (by rw[j];exact a);refine⟨m,⟨l.kind,by rw[EK,o];rfl,p⟩,?_,?_,?_,?_⟩
 .show 0<=e.key/\e.key<=1000;by_cases b:BK.K∈BP e.op
  .exact k _ b
  .have:=d _ b;simp only[Ev.get] at this;omega
 .intro g;by_cases b:Dg e.op=true
  .exact b
  .refine absurd (d BK.K (λa=>?_)) g;unfold BP at a;rw[if_neg b] at a
   split at a<;>simp at a
 .show-1000000000<=e.val/\e.val<=1000000000;by_cases b:BK.V∈BP e.op
  .exact k _ b
  .have:=d _ b;simp only[Ev.get] at this;omega
 .intro g;by_cases b:B6 e.op=true
  .exact b
  .refine absurd (d BK.V (λa=>?_)) g;unfold BP at a;rw[if_neg b] at a
   split at a<;>simp at a
theorem Fp.ans{a:List Int}{d:Dd}(h:Fp a d)(r g b:Int):Fp a {d with ret:=r,got:=g,back:=b}:=⟨h.obj,h.of,h.kb,h.kz,h.vb,h.vz⟩
theorem Acw{os:List Ob}{e:Ev}{s s':St}(g:Hn os e)(h:VE n e s=s')(b:∀d∈s.deeds,Fp (os.map (·.kind)) d):∀d∈s'.deeds,Fp (os.map (·.kind)) d:=by
 unfold VE at h
 split at h
 case isFalse=>cases h
 case isTrue l=>
  split at h
  case isTrue i=>
   injection h with h;subst h;intro d a;rcases Eh.1 a with a|a
   .exact b d a
   .rw[List.mem_singleton.1 a];exact g.dd i n
  .split at h
   .split at h
    case h_1 j k=>
     split at h
     .injection h with h;subst h;intro d a;rcases Eh.1 a with a|a
      .exact b d<|(List.dropLast_sublist _).subset a
      .rw[List.mem_singleton.1 a];exact(b j (List.mem_of_getLast? k)).ans _ _ _
     .cases h
    case h_2=>cases h
   .split at h
    .injection h with h;subst h;exact b
    .split at h
     .injection h with h;subst h;exact b
     .injection h with h;subst h;exact b
theorem W8{os:List Ob}:∀ {es:List Ev} {A e:Au},(∀i∈es,Hn os i)->VF A->(∀s∈A.sts,∀g∈s.deeds,Fp (os.map (·.kind)) g)->A.feeds es=e->VF e/\e.many=A.many+es.length/\∀s∈e.sts,∀g∈s.deeds,Fp (os.map (·.kind)) g:=by
 intro es
 induction es with
 |nil=>intro A e _ k b h;injection h with h;subst h;exact⟨k,rfl,b⟩
 |cons i z n=>
  intro A e m k b h;simp only[Au.feeds,Fv] at h;obtain⟨o,a,p⟩:=h;have j:=m i (by simp);let⟨q,r⟩:=k.fd j a
  have t:∀s∈o.sts,∀g∈s.deeds,Fp (os.map (·.kind)) g:=by
   unfold Au.fd at a
   split at a
   .split at a
    .cases a
    .injection a with a;subst a;intro s d;rcases Eh.1 d with d|d
     .exact b s d
     .rw[List.mem_singleton.1 d];intro g b
      cases b
   .split at a
    .cases a
    .split at a
     .cases a
     case h_2 s d=>
      obtain⟨B,u,rfl⟩:=Eo.1 a;intro v l;rcases Ik l with l|rfl
      .exact b v l
      .exact Acw j u<|b s (Ap d)
  let⟨w,x,y⟩:=n (λi j=>m i (by simp[j])) q t p;exact⟨w,by rw[x,r,C4];omega,y⟩
theorem JI{os:List Ob}{es:List Ev}{txs:List St}(h:Bn os es)(a:AR es=txs):∀t∈txs,t.deeds.length<=400/\∀b∈t.deeds,Fp (os.map (·.kind)) b:=by
 unfold AR at a;obtain⟨j,d,rfl⟩:=Eo.1 a;let⟨e,g,i⟩:=W8 h.2.2.2 VF.start (by simp) d;intro t a;have:=(e.each t a).1;have:=h.2.1;exact⟨by simp at g;omega,i t a⟩
structure PF (G:Bg) (ks:List Int):Prop where
 txs:∀t∈G.txs,t.deeds.length<=400/\∀d∈t.deeds,Fp ks d
 few:G.txs.length<=12
 mlen:G.masks.length=G.txs.length
 small:∀m∈G.masks,m<4096
 kl:ks.length<=8
 ok:DC ks G.first
 sz:∀s∈G.first,s.sz=0
def Nd.P(G:Bg)(a:List Int)(n:Nd):Prop:=n.Ok G a/\∀s∈n.st,s.sz+400*KK n.placed G.txs.length<=4800
theorem PG{level:Int}{b:St}:∀ {l:List St} {i m k:Nat},m<1<<<k->i+l.length<=k->Dm level b i l m<1<<<k:=by
 intro l
 induction l with
 |nil=>intro i m k h _;exact h
 |cons e l a=>
  intro i m k h d;rw[C4] at d;unfold Dm;refine a (k:=k) ?_ (by omega)
  split
  .rw[Gc,HR] at h|-;rw[Gc,HR];exact Nat.or_lt_two_pow h<|Nat.pow_lt_pow_right (by omega) (by omega)
  .exact h
theorem MI{os:List Ob}{es:List Ev}{txs:List St}{level:Int}(h:Bn os es)(i:AR es=txs)(j:txs.length<=12):PF (BF os txs level) (os.map (·.kind)):=by
 have l:(txs.filter (Be · level)).length<=12:=A8 (IH _ _) j;refine⟨λm n=>JI h i m ((List.mem_filter.1 n).1),l,by simp[BF,CV],λo b=>?_,by simp;exact h.1,⟨by show(os.map Cq).map (·.kind)=_;rw[HY];rfl,λs a=>?_⟩,λs a=>?_⟩
 .unfold BF CV at b;obtain⟨p,_,rfl⟩:=EE.1 b;exact PG (k:=12) (by decide) (by omega)
 .unfold BF at a;obtain⟨d,e,rfl⟩:=EE.1 a;have g:=h.2.2.1 d e;unfold Ob.okB at g;simp only[EG,decide_eq_true_eq,Bool.or_eq_true,beq_iff_eq] at g;exact⟨⟨by simp[Cq];omega,by simp[Cq];omega,by simp[Cq],by simp[Cq]⟩,⟨λh=>by simp[Cq] at h|-;omega,λ_=>rfl,λ_=>rfl⟩⟩
 .unfold BF at a;obtain⟨d,e,rfl⟩:=EE.1 a;rfl
theorem KA{r:List Int}:∀ {i:List Dd} {l l':List AO} {M:Nat},(∀b∈i,Fp r b)->DC r l->(∀s∈l,s.sz<=M)->AP l i=l'->∀s∈l',s.sz<=M+i.length:=by
 intro i
 induction i with
 |nil=>intro l l' M _ _ j a;injection a with a;subst a;simpa using j
 |cons b D t=>
  intro l l' M m n j a;unfold AP at a
  split at a
  .intro s d;have:=t (λb h=>m b (by simp[h])) n j a s d;simp;omega
  .split at a
   case h_1 u ret got e=>
    split at a
    .have v:=Nb n e
     have w:∀s∈u,s.sz<=M+1:=by
      unfold Tf at e
      split at e
      .split at e
       case h_1 s d=>
        let⟨F,g,o⟩:=Eo.1 e;injection o with o _;subst o;intro x p;rcases Ik p with p|rfl
        .have:=j x p;omega
        .unfold AO.doo at g
         split at g
         .injection g with g;subst g;let⟨G,q,y,k,z,A⟩:=(m b (by simp)).at n
          have B:q=s:=by
           rw[y] at d;simp only[D6] at d;rw[d] at k;injection k with k;exact k.symm
          subst B;have:=R8 (s:=q) (key:=b.key) (val:=b.val)<|FJ z A;have:=j q<|Ap d;omega
         .cases g
       case h_2=>cases e
      .cases e
     intro s d;have:=t (λb h=>m b (by simp[h])) v w a s d;simp;omega
    .cases a
   case h_2=>cases a
theorem Nd.P.root{G:Bg}{a:List Int}(h:PF G a):Nd.P G a G.root:=by
 refine⟨⟨by rw[Gc];simp[Bg.root,R0],h.ok⟩,λs b=>?_⟩;have:=h.sz s b;have:=KW G.root.placed G.txs.length;have:=h.few;omega
theorem Nd.P.turns{G:Bg}{e:List Int}{n:Nd}(h:PF G e)(d:n.P G e):∀t∈G.gm.turns n,Nd.P G e t.2:=by
 intro t g;refine⟨WQ d.1 t g,λs a=>?_⟩;have m:=LC t g;let⟨o,i,j,k⟩:=Km g;let⟨_,p,b⟩:=LB k;rcases b with b|b
 .rw[b] at a;have:=d.2 s a;omega
 .let⟨q,l⟩:=h.txs i<|Ap j;have:=KA (M:=4800-400*KK n.placed G.txs.length) l d.1.2 (λs a=>by have:=d.2 s a;omega) b s a;have:=KW n.placed G.txs.length;have:=h.few;omega
theorem Nd.P.gg{G:Bg}{a:List Int}{n:Nd}(h:PF G a)(b:n.P G a):NdG a n:=by
 refine⟨?_,b.1.2,λs d=>by have:=b.2 s d;omega,h.kl⟩;have e:=b.1.1;rw[Gc,HR] at e;have:=Oc (n:=2) (by omega) h.few;omega
theorem Nd.P.inj{G:Bg}{d:List Int}(a b:Nd)(e:a.P G d)(g:b.P G d)(h:G.gm.key a=G.gm.key b):a=b:=Acn a b e.1 g.1 h
abbrev tLm:Ab:=139
theorem Q0{w:U}{G:Bg}{d:List Int}{n:Nd}(j:JG w g G)(a:PF G d)(b:n.P G d)(k:CH w (C A n.st.length c) n.st)(l:AE w):
 Calls prog 46 #[g,.agg #[(n.placed:Int),C A n.st.length c]] w λm e=>∃i,m=R i/\NU e i (G.gm.turns n)/\Below w w e:=
 TO (M:=4800) j k b.1.2 a.txs (λs o=>by have:=b.2 s o;omega) (by omega) a.kl a.few a.mlen a.small (b.gg a).placed l
theorem Sq{w:U}{d:List Int}{n:Nd}(a:NdG d n)(e:CH w (C A n.st.length c) n.st)(g:AE w):
 Calls prog 42 #[.agg #[(n.placed:Int),C A n.st.length c]] w λi j=>i=R (DT a.pa.1)/\Below w w j:=
 WY e (λs b=>⟨(a.ok.ok s b).1,by have:=a.sz s b;omega⟩) (by have:=a.ok.len;have:=a.few;omega) g
theorem NU.at{w wr:U}{l:List (CE×Nd)}{t:CE×Nd}(h:NU w (C A m c) l)(q:Below w w wr)(r:l[k]?=t):
 ∃a b d e,A=E ⟨a,b,O⟩/\k<m/\m=l.length/\CH w (C d t.2.st.length e) t.2.st/\wr.cell? ⟨a,b+k*4,O⟩=t.1.1/\wr.cell? ⟨a,b+k*4+1,O⟩=t.1.2/\wr.cell? ⟨a,b+k*4+2,O⟩=E (t.2.placed:Int)/\wr.cell? ⟨a,b+k*4+3,O⟩=E (C d t.2.st.length e)/\a<wr.heap.size:=by
 obtain⟨a,b,z,u,v,-,x,B,⟨d,e,rfl,y⟩,i⟩:=h.1.at r;have g:=λj n o=>(q.cell (Ad w _ (i j n o))).trans (i j n o);have p:=g 0 _ rfl;exact⟨a,b,d,e,u,v,x,y,p,g 1 _ rfl,g 2 _ rfl,g 3 _ rfl,Ad wr _ p⟩
theorem Ko{G:Bg}(h:G.txs.length<=12)(n:Nd):(G.gm.turns n).length<=30:=by
 have i:∀(a:List St) (b:Nat),(G.turnsFrom n b a).length<=2*a.length:=by
  intro a
  induction a with
  |nil=>intro b;exact Aa _
  |cons j a k=>
   intro b;have:=k<|b+1
   have o:(G.turn n b j).length<=2:=by
    unfold Bg.turn
    split
    .simp
    .rw[Ef]
     have l:∀(d:Option (List AO)) (f:List AO->CE×Nd) (e:Bool),(match d with|some a=>if e then [f a] else []|none=>[]).length<=1:=by
      intro d f e
      cases d<;>cases e<;>simp
     have m:∀(c:Prop) [Decidable c] (g:CE×Nd),(if c then [g] else []).length<=1:=by intro c _ g;split<;>simp
     exact A8 (Nat.add_le_add (l _ _ _) (m _ _))<|Aa _
   unfold Bg.turnsFrom;rw[Ef,C4];omega
 have:=i G.txs 0;show(G.turnsFrom n 0 G.txs).length<=30;omega
def KB(G:Bg)(a:List Nd):Pa->Option N:=λb=>if b.1∈a.map G.gm.key then E (Sg.leads G.gm a b.1) else O
theorem PH{G:Bg}{k:Nat×List UInt8}:∀ {a:List Nd},k∉a.map G.gm.key->Sg.leads G.gm a k=false
 |[],_=>rfl
 |b::a,h=>by
  simp only[List.map_cons,B2,not_or] at h;unfold Sg.leads;rw[if_neg h.1];exact PH h.2
theorem FN(G:Bg)(a:List Nd)(k:Pa):(KB G a k).getD false=(Sg.leads G.gm a k.1):=by
 unfold KB
 split
 .rfl
 .rw[PH (by assumption)];rfl
theorem Q1(G:Bg)(n:Nd)(a:List Nd)(k:Nat×List UInt8):Sg.leads G.gm (n::a) k=if k=G.gm.key n then Sg.lead1 G.gm (Sg.leads G.gm a) n else Sg.leads G.gm a k:=rfl
theorem TQ{G:Bg}{a:List Nd}{n:Nd}(k:Pa)(d:k.1=G.gm.key n):Fo (KB G a) k (Sg.lead1 G.gm (Sg.leads G.gm a) n)=KB G (n::a):=by
 funext e
 unfold Fo KB;rw[Q1];by_cases b:e=k
 .subst b;simp[d]
 .have g:e.1≠G.gm.key n:=λi=>b (IF (i.trans d.symm));simp[b,g]
theorem Xa(G:Bg)(n:Nd):((n.placed:Int)==((1<<<G.txs.length-1:Nat):Int))=G.gm.all n:=by
 show _=(n.placed==1<<<G.txs.length-1);rw[Bool.eq_iff_iff,beq_iff_eq,beq_iff_eq];omega
theorem FO(W:U):(zeroValue 4).run prog W=.ok false W:=by kernel_rfl
theorem Rn.at{W wr:U}{B:Nat}{os:List Rn}{r:Rn}(e:W.ownsRow B Ck 2 (C A n c) os.length (os.flatMap L5))(g:Below W W wr)(i:os[k]?=r):
 ∃a,A=E ⟨a,0,O⟩/\wr.cell? ⟨a,k*2,O⟩=E (r.p:Int)/\wr.cell? ⟨a,k*2+1,O⟩=E (C r.A r.m r.c)/\a<wr.heap.size:=by
 have u:=(Am.1 i).1;rcases e.2 with ⟨_,b⟩|⟨a,v,cur,l,d,m,w,_⟩
 .omega
 .injection l with o p q;subst o p q;have b:=e.cellAt (k*2) (by omega);have d:=e.cellAt (k*2+1) (by omega);rw[Fc (n:=2) (f:=L5) (λ_=>rfl) os _ _ i 1 (by omega)] at d;have j:=Fc (n:=2) (f:=L5) (λ_=>rfl) os _ _ i 0 (by omega);rw[EV] at j;rw[j] at b;have t:=(ET.1 m).1;exact⟨a,rfl,(g.cell (Ad W _ b)).trans b,(g.cell (Ad W _ d)).trans d,ED t g.size⟩
theorem TR{w:U}{B:Nat}{G:Bg}{a6:List Int}{os:List Rn}{i:List Nd}(a7:JG w g G)(a8:PF G a6)(a9:w.ownsRow B Ck 2 (C A os.length c) os.length (os.flatMap L5))(Z:Ql w os i)(ba:∀a∈i,a.P G a6)(am:i.length<=1000)(bb:AE w):
 Calls prog 48 #[Q (E ⟨g,0,O⟩),C A os.length c] w λk aa=>k=R (.map (E w.heap.size))/\(∃q,Bi Ho aa w.heap.size q (KB G i))/\Below w.heap.size w aa:=by
 have cs:= @EC prog;have bc:=Af a7;have l:=Af a8;have b2:=Af a9;have b3:=Af Z;have b4:=Af ba;have ct:=Af am;have an:=Af bb;have bd:=Af Z.1;have be:=Af<|Bi.made Ho w;have bf:=Af<|Zc w (.map #[] 0);have b5:=Af (show w.heap.size<(w.alloc (.map #[] 0)).heap.size by simp);have bg:os.length<=1000:=by rw[Z.1];exact am
 have b6:=Af bg;have cu:(os.length:Int)<=1000:=by omega
 clear a7 a8 a9 Z ba am bb bg;go_in;go_upto_region 2 with fail;generalize w.alloc (.map #[] 0)=cv at be bf b5|-;go_wp2
 go_loopw [6] (λn wr=>∃(b z:Nat) (D:Int),n=I J D/\D=(b:Int)-1/\b<=os.length/\Bi Ho wr w.heap.size z (KB G (i.drop b))/\z+b<=os.length/\Below w.heap.size w wr) (λn _=>(intOf n+1).toNat)
 case atStart=>exact⟨os.length,0,(os.length:Int)-1,by go_num,rfl,Aa _,by rw[bd.o,HQ];exact be.o,by omega,bf.o⟩
 case round=>
  obtain⟨b,z,D,rfl,bh,ao,ab,ap,r⟩:=hrel;have b7:=Af r;have b8:=Af ab;have bi:=Af ap;have b9:=Af ao
  cases b with
  |zero=>
   obtain rfl:D= -1:=by omega
   clear ab ap r ao bh;go_wp2;go_ret;exact⟨rfl,⟨z,b8.o⟩,b7.o⟩
  |succ b=>
   obtain rfl:D=(b:Int):=by omega
   obtain⟨k,aq⟩:∃k,os[b]?=E k:=⟨os[b],An (by omega)⟩;obtain⟨a,ac⟩:∃a,i[b]?=E a:=⟨_,An (by rw[<-bd.o];omega)⟩;obtain⟨bj,bk,F⟩:=b3.o.2 b k a aq ac;obtain⟨cw,rfl,ad,ae,ar⟩:=Rn.at b2.o r aq;obtain⟨cx,au,cy,av⟩:=k;simp only at bj bk ad ae;subst bj bk;have bl:=Af F;have L:=Af<|b4.o a (Ap ac)
   have ca:Hid (i.drop b=a::i.drop (b+1)):=Af (by
    obtain⟨t,u⟩:=Am.1 ac;rw[FX t,u])
   have cz:(0:Int)<=(b:Int):=by omega
   have c0:(b:Int)<(os.length:Int):=by omega
   have af:=Af<|Ah.new wr Ck #[I J (a.placed:Int),C au a.st.length av];have o:=Zc wr<|K #[I J (a.placed:Int),C au a.st.length av] Ck;have j:=Af<|r.trans (o.mono r.size);have aw:=Af<|ab.call o;clear ab ap r ao bh aq ac F o;go_upto_region 6 with fail;generalize wr.alloc (K #[I J (a.placed:Int),C au a.st.length av] Ck)=v at af j aw|-;clear ad ae ar;have ax:Hid (∀q,Calls prog 90 #[Q (E ⟨g,0,O⟩)] (v.drewN q) λk aa=>k=R (I J ((1<<<G.txs.length-1:Nat):Int))/\aa=v.drewN q):=Af (λq=>(Abv (bc.o.call (below_drewN j.o q)) l.o.few).mono λ_ _ ⟨t,u⟩=>⟨t,u.symm⟩);obtain⟨M,S⟩:=af.o.c2;go_quiet ((go_at_call 90;first|exact Bw (ax.o _)|exact EY (ax.o _)));have W:=Af<|af.o.drewN nq;have p:=Af<|below_drewN j.o nq;have ay:=Af<|aw.o.call (below_drewN (Zb v) nq);clear M S ax af j aw;go_upto_region 7 with fail;generalize v.drewN nq=V at W p ay|-;have bm:=Af<|Q0 (bc.o.call p.o) l.o L.o (bl.o.below p.o) (an.o.below p.o);obtain⟨M,S⟩:=W.o.c2;have cb:=Xa G a;go_wp2_with fail;refine bm.o.mono ?_;rintro k bn ⟨c1,rfl,az,ag⟩;obtain⟨c2,c3,rfl⟩:=az.1.shape;have cc:=Af az;have ah:=Af<|p.o.trans (ag.mono p.o.size);have bo:=Af<|ay.o.call ag;have bp:=Af<|W.o.below ag W.o.lt;clear M S az ag bm W p ay;go_wp2;obtain⟨bq,rfl⟩:∃bq:U,bq=wr:=⟨_,rfl⟩;have a0:Hid ((G.gm.turns a).length<=30):=Af<|Ko l.o.few a;have c4:((G.gm.turns a).length:Int)<=30:=by have:=a0.o;omega
   go_loopw [32,8] (λn cd ce=>∃(e:Nat) (x:Bool),n=I J e/\cd=T x/\e<=(G.gm.turns a).length/\Hid (x=(G.gm.all a||((G.gm.turns a).take e).any λd=>Sg.leads G.gm (i.drop (b+1)) (G.gm.key d.2)))/\Below bn.heap.size bn ce) (λn _ _=>40-(intOf n).toNat)
   case atStart=>exact⟨0,_,rfl,rfl,A9 _,Af (by simp),Ae _ _⟩
   case round=>
    obtain⟨e,x,rfl,rfl,br,a1,m⟩:=hrel;by_cases ai:e<(G.gm.turns a).length
    .obtain⟨d,aj⟩:∃d,(G.gm.turns a)[e]?=E d:=⟨_,An ai⟩;obtain⟨c5,c6,a2,a3,rfl,-,-,F,ad,ae,cf,cg,ar⟩:=NU.at cc.o m aj;have bs:=Nd.P.turns l.o L.o d<|Ap aj;have bt:=Af bs;have bu:Hid ((G.gm.turns a).take (e+1)=(G.gm.turns a).take e++[d]):=Af (by rw[EO,aj];rfl);have ak:=Af ai;have c7:(0:Int)<=(e:Int):=by omega
     have c8:(e:Int)<((G.gm.turns a).length:Int):=by omega
     have a4:=Af<|Ah.new wr Kb #[I J d.1.1,T d.1.2,I J (d.2.placed:Int),C a2 d.2.st.length a3];have o:=Zc wr<|K #[I J d.1.1,T d.1.2,I J (d.2.placed:Int),C a2 d.2.st.length a3] Kb;have j:=Af<|m.trans (o.mono m.size);have bv:=Af<|(F.below m).below o;go_upto_region 10 with fail;obtain⟨a5,rfl⟩:∃a5:U,a5=wr:=⟨_,rfl⟩;generalize a5.alloc (K #[I J d.1.1,T d.1.2,I J (d.2.placed:Int),C a2 d.2.st.length a3] Kb)=v at a4 j bv|-
     cases x with
     |true=>
      go_wp2
      go_roundw
      case rel=>exact⟨e+1,true,by go_num,rfl,ak.o,Af (by rw[bu.o,R1,<-R4,<-a1.o];rfl),j.o⟩
      case measure=>simp[intOf];have t:=ak.o;have u:=a0.o;omega
     |false=>
      have X:=Af<|Sq (bt.o.gg l.o) bv.o (an.o.below (ah.o.trans (j.o.mono ah.o.size)));have ch:=a4.o.cell 2;have ci:=a4.o.cell 3;go_wp2_with (go_at_call 42;refine X.o.mono ?_;rintro cj ck ⟨rfl,y⟩;have Y:=Af (j.o.trans (y.mono j.o.size));have bw:=(bo.o.call Y.o).look (tm:=tLm) underlying139 (FO _) (bt.o.gg l.o).pa;rw[FN] at bw;simp only[Ho] at bw;clear y X ch ci)
      go_roundw
      case rel=>exact⟨e+1,_,by go_num,rfl,ak.o,Af (by rw[bu.o,R1,<-R4,<-a1.o];simp[NdG.pa,Bg.gm]),Y.o⟩
      case measure=>simp[intOf];have t:=ak.o;have u:=a0.o;omega
    .obtain rfl:e=(G.gm.turns a).length:=by omega
     have c9:decide ((G.gm.turns a).length<(G.gm.turns a).length)=false:=by simp
     have cl:Hid (x=Sg.lead1 G.gm (Sg.leads G.gm (i.drop (b+1))) a):=Af (by rw[a1.o,Ex];rfl);have al:=Af<|ah.o.trans (m.mono ah.o.size);have cn:=Af<|bo.o.call m;have co:=Af<|bp.o.below m bp.o.lt;have X:=Af<|Sq (L.o.gg l.o) (bl.o.below al.o) (an.o.below al.o);obtain⟨M,S⟩:=co.o.c2;go_wp2_with (go_at_call 42;refine X.o.mono ?_;rintro cj ck ⟨rfl,y⟩;have Y:=Af (al.o.trans (y.mono al.o.size));obtain⟨da,cp,bz,b0⟩:=(cn.o.call y).put (tm:=tLm) underlying139 (by have t:=bi.o;have u:=b6.o;unfold Al;omega) (L.o.gg l.o).pa (.bool x);simp only[Ho] at cp;have cq:=Af (Y.o.grown b0.grown Y.o.size (λdb b1=>by injection b1 with b1;omega));have cr:=Af bz;clear y bz b0 X M S)
     go_roundw
     case rel=>exact⟨b,z+1,(b:Int)-1,by go_num,rfl,by have:=b9.o;omega,by rw[ca.o,<-TQ (L.o.gg l.o).pa rfl,<-cl.o];exact cr.o,by have:=bi.o;omega,cq.o⟩
     case measure=>simp[intOf]
abbrev BW:Ab:=135
theorem Aao:(prog.info? BW).map (λa=>(a.zero,a.size,a.bytes))=E (E (.agg #[(),false]),2,16):=by kernel_rfl
def Q3(s:CE):List N:=[s.1,s.2]
def lenOf:N->Nat
 |.slice _ a _=>a
 |_=>0
theorem Br.trans{a b c:U}(h:Br a b)(k:Br b c):Br a c:=by
 have f:∀d,AD d a b->AD d b c->AD d a c:=λd h k e g=>(k e (by obtain⟨i,j,l⟩:=g;exact⟨i,j,(h e ⟨i,j,l⟩).trans l⟩)).trans (h e g);exact⟨f _ h.1 k.1,f _ h.2.1 k.2.1,f _ h.2.2 k.2.2⟩
theorem TS{G:Bg}{L:Nat×List UInt8->Bool}{f:Nat}{n:Nd}(h:G.gm.all n=true):Sg.least G.gm L f n=[]:=by
 cases f with
 |zero=>rfl
 |succ f=>unfold Sg.least;rw[if_pos h]
theorem Xb{G:Bg}{L:Nat×List UInt8->Bool}{f:Nat}{n:Nd}{t:CE×Nd}(h:G.gm.all n=false)(a:(G.gm.turns n)[j]?=t)(b:L (G.gm.key t.2)=true)(d:∀e∈(G.gm.turns n).take j,L (G.gm.key e.2)=false):Sg.least G.gm L (f+1) n=t.1::Sg.least G.gm L f t.2:=by
 have g:(G.gm.turns n).find? (λt=>L (G.gm.key t.2))=E t:=by
  let⟨i,k⟩:=Am.1 a;rw[Om];refine⟨b,j,i,k,λl m=>?_⟩;have:=d _<|List.mem_take_iff_getElem.2 ⟨l,by omega,rfl⟩;simp[this]
 simp only[Sg.least,h,g];simp
structure Acx (w wr:U) (G:Bg) (ks:List Int) (L:Nat×List UInt8->Bool) (sv:N) (b6:Nat) (acc:List CE) (n:Nd) (f:Nat) (A:Option Addr) (c:Nat):Prop where
 row:wr.ownsRow w BW 2 sv acc.length (acc.flatMap Q3)
 box:Ah wr b6 Ck #[(n.placed:Int),C A n.st.length c]
 st:CH wr (C A n.st.length c) n.st
 hi:w.heap.size<=b6
 ok:n.P G ks
 leads:L (G.gm.key n)=true
 fuel:KK n.placed G.txs.length<f
 len:acc.length+f<=13
 eq:acc++Sg.least G.gm L f n=Sg.least G.gm L 13 G.root
 below:Below w w wr
theorem TT{w:U}{G:Bg}{z:List Int}{q:List Nd}(bj:JG w g G)(ak:PF G z)(al:Bi Ho w n k (KB G q))(bk:∀b∈q,b.P G z)(bl:(q.map G.gm.key).Nodup)(am:Sg.leads G.gm q (G.gm.key G.root)=true)(bm:AE w):
 Calls prog 49 #[Q (E ⟨g,0,O⟩),.map (E n)] w λan ao=>∃bn,an=R bn/\ao.ownsRow w.heap.size BW 2 bn (Sg.least G.gm (Sg.leads G.gm q) 13 G.root).length ((Sg.least G.gm (Sg.leads G.gm q) 13 G.root).flatMap Q3)/\Below w.heap.size w ao:=by
 obtain⟨ci,cj,ck,cl,cn⟩:=A1 Aao;have bo:=Af bj;have o:=Af ak;have co:=Af al;have bp:=Af bm;have bq:Hid (∀b:Nd,b.P G z->Sg.leads G.gm q (G.gm.key b)=true->G.gm.all b=true∨∃a∈G.gm.turns b,Sg.leads G.gm q (G.gm.key a.2)=true):=Af (λb cp h=>Sg.leads_on (P:=λb=>Nd.P G z b) Nd.P.inj bl bk cp h);have br:=Af am;obtain⟨cq,cr,dc,dd,ap,aq,a2,cs,ct,cu,bs⟩:=bj;have bt:=Af<|Ah.new w Ck #[I J 0,C ap G.first.length aq];have a3:=Af<|Zc w (K #[I J 0,C ap G.first.length aq] Ck);have bu:=Af<|bs.below a3.o;have cv:=a2.cell 3;have cw:=a2.lt;generalize bv:Sg.leads G.gm q=v at bq br|-;have bw:=Af bv;go_in;go_upto_region 3 with fail;generalize w.alloc (K #[I J 0,C ap G.first.length aq] Ck)=de at bt a3 bu|-;go_wp2
 go_loopw [5,6] (λaa cx wr=>∃(l:List CE) (b:Nd) (f i:Nat) (ar:Option Addr) (c:Nat),cx=Q (E ⟨i,0,O⟩)/\Hid (Acx w wr G z v aa i l b f ar c)) (λaa _ _=>20-lenOf aa)
 case atStart=>exact⟨[],G.root,13,w.heap.size,ap,aq,rfl,Af ⟨Ep _ _ _ _,bt.o,bu.o,Aa _,Nd.P.root o.o,br.o,by have:=KW G.root.placed G.txs.length;have:=o.o.few;omega,by simp,rfl,a3.o⟩⟩
 case round=>
  obtain⟨l,b,f,i,ar,c,rfl,j⟩:=hrel;obtain⟨au,av,rfl⟩:=Ag j.o.row;obtain⟨x,rfl⟩:∃x:U,x=wr:=⟨_,rfl⟩;have a4:Hid (∀ab,Calls prog 90 #[Q (E ⟨g,0,O⟩)] (x.drewN ab) λan ao=>an=R (I J ((1<<<G.txs.length-1:Nat):Int))/\ao=x.drewN ab):=Af (λab=>(Abv (bo.o.call (below_drewN j.o.below ab)) o.o.few).mono λ_ _ ⟨aw,ac⟩=>⟨aw,ac.symm⟩);obtain⟨a5,a6⟩:=j.o.box.c2;have a7:((b.placed:Int) !=((1<<<G.txs.length-1:Nat):Int))= !(G.gm.all b):=by rw[<-Xa];rfl
  go_upto_region 3 with fail;go_quiet ((go_at_call 90;first|exact Bw (a4.o _)|exact EY (a4.o _)));have d:Hid (Acx w (x.drewN nq) G z v (C au l.length av) i l b f ar c):=Af ⟨j.o.row,j.o.box,j.o.st.below (below_drewN (Zb x) nq),j.o.hi,j.o.ok,j.o.leads,j.o.fuel,j.o.len,j.o.eq,below_drewN j.o.below nq⟩
  cases D:G.gm.all b with
  |true=>
   have cy:Hid (l=Sg.least G.gm v 13 G.root):=Af (by have ax:=d.o.eq;rw[TS D,Ia] at ax;exact ax);rw[D] at a7;go_wp2;go_ret;exact⟨_,rfl,cy.o▸d.o.row,d.o.below⟩
  |false=>
   have bz:=Af D;rw[D] at a7;go_upto_region 4 with fail;generalize x.drewN nq=V at d|-;obtain⟨a5,a6⟩:=d.o.box.c2;have b0:=Af<|Q0 (bo.o.call d.o.below) o.o d.o.ok d.o.st (bp.o.below d.o.below);go_wp2_with fail;refine b0.o.mono ?_;rintro an ad ⟨df,rfl,a8,ae⟩;obtain⟨cq,cr,rfl⟩:=a8.1.shape;have cz:=Af a8;have e:Hid (Acx w ad G z v (C au l.length av) i l b f ar c):=Af ⟨AA d.o.row ae,d.o.box.below ae d.o.box.lt,d.o.st.below ae,d.o.hi,d.o.ok,d.o.leads,d.o.fuel,d.o.len,d.o.eq,d.o.below.trans (ae.mono d.o.below.size)⟩;have b1:Hid ((G.gm.turns b).length<=30):=Af<|Ko o.o.few b;have dh:((G.gm.turns b).length:Int)<=30:=by have:=b1.o;omega
   have b2:=Af<|co.o.call e.o.below;go_wp2
   go_loopw [23,5] (λa9 aa wr=>∃(m:Nat),a9=I J m/\aa=C au l.length av/\m<=(G.gm.turns b).length/\Hid (∀a∈(G.gm.turns b).take m,v (G.gm.key a.2)=false)/\Below ad.heap.size ad wr) (λa9 _ _=>40-(intOf a9).toNat)
   case atStart=>exact⟨0,rfl,rfl,A9 _,Af (by simp),Ae _ _⟩
   case round=>
    obtain⟨m,rfl,rfl,c0,ay,F⟩:=hrel;by_cases ba:m<(G.gm.turns b).length
    .obtain⟨a,af⟩:∃a,(G.gm.turns b)[m]?=E a:=⟨_,An ba⟩;obtain⟨di,dj,r,t,rfl,-,-,b3,b4,b5,c1,c2,c3⟩:=NU.at cz.o F af;have b6:=Nd.P.turns o.o e.o.ok a<|Ap af;have L:=Af b6;have b7:=Af af;have c4:Hid ((G.gm.turns b).take (m+1)=(G.gm.turns b).take m++[a]):=Af (by rw[EO,af];rfl);have b8:=Af ba;have dk:(0:Int)<=(m:Int):=by omega
     have dl:(m:Int)<((G.gm.turns b).length:Int):=by omega
     have A:=Af<|Ah.new wr Kb #[I J a.1.1,T a.1.2,I J (a.2.placed:Int),C r a.2.st.length t];have ag:=Zc wr<|K #[I J a.1.1,T a.1.2,I J (a.2.placed:Int),C r a.2.st.length t] Kb;have M:=Af<|F.trans (ag.mono F.size);have az:=Af<|(b3.below F).below ag;have dm:=Af<|ED e.o.box.lt F.size;obtain⟨bb,rfl⟩:∃bb:U,bb=wr:=⟨_,rfl⟩;go_upto_region 7 with fail;generalize bb.alloc (K #[I J a.1.1,T a.1.2,I J (a.2.placed:Int),C r a.2.st.length t] Kb)=dn at A M az|-;have a0:=Af<|Sq (L.o.gg o.o) az.o (bp.o.below (e.o.below.trans (M.o.mono e.o.below.size)));have b9:=A.o.cell 2;have ca:=A.o.cell 3
     cases a1:v (G.gm.key a.2) with
     |false=>
      go_wp2_with (go_at_call 42;refine a0.o.mono ?_;rintro ah S ⟨rfl,u⟩;have B:=Af (M.o.trans (u.mono M.o.size));have y:=Af (A.o.below u A.o.lt);have cb:=Af (az.o.below u);have W:=(b2.o.call B.o).look (tm:=tLm) underlying139 (FO _) (L.o.gg o.o).pa;rw[FN,bw.o,show v (L.o.gg o.o).pa.1=_ from a1] at W;simp only[Ho] at W;clear u a0 b9 ca)
      go_roundw
      case rel=>exact⟨m+1,by go_num,rfl,b8.o,Af (λbc X=>by rw[c4.o] at X;exact(Eh.1 X).elim (ay.o bc) (λh=>by rw[List.mem_singleton.1 h];exact a1)),B.o⟩
      case measure=>simp[intOf];have aw:=b8.o;have ac:=b1.o;omega
     |true=>
      have cc:=Af a1;go_upto_region 8 with (go_at_call 42;refine a0.o.mono ?_;rintro ah S ⟨rfl,u⟩;have B:=Af (M.o.trans (u.mono M.o.size));have y:=Af (A.o.below u A.o.lt);have cb:=Af (az.o.below u);have W:=(b2.o.call B.o).look (tm:=tLm) underlying139 (FO _) (L.o.gg o.o).pa;rw[FN,bw.o,show v (L.o.gg o.o).pa.1=_ from a1] at W;simp only[Ho] at W;clear u a0 b9 ca);have ai:=Af<|AA (AA e.o.row ((Zb ad).trans (B.o))) (Zb S);have cd:=Af<|e.o.box.below B.o e.o.box.lt;have bd:=Af<|e.o.below.trans (B.o.mono e.o.below.size);have ce:=Af bd.o.size;obtain⟨dp,dq,c5,c6⟩:_/\_/\_/\_:=⟨y.o.cell 0,y.o.cell 1,y.o.cell 2,y.o.cell 3⟩;have c7:=y.o.lt;go_wp2_with ((at_builtin;refine B9 _ rfl (.tmp 32) (.tmp 35) 28 rfl w.heap.size BW ci (.agg #[I J 0,.bool false]) 2 16 underlying28 cj ck cl cn rfl (by decide) (.slice au l.length av) l.length (l.flatMap Q3) rfl (ai.o.alloc _) ⟨_,0,O⟩ 1 1 (Q3 a.1) rfl rfl (Ee (cs:= #[I J a.1.1,.bool a.1.2]) (t:=BW) (fr:=(0,0)) (D4 S _)) (by intro dr cf;simp[Q3] at cf;rcases cf with rfl|rfl<;>rfl) (by have:=e.o.len;unfold Al;omega) (by have:=e.o.len;omega) (by have:=ce.o;simp;omega) ?_;intro ds Y be aj _ c8;obtain⟨dt,du,rfl⟩:=Ag be;have bf:=Af ((y.o.alloc (K #[I J a.1.1,.bool a.1.2] BW)).grown aj (λah=>y.o.apartRow ai.o (by decide) ah.symm));have Z:=Af ((cd.o.alloc (K #[I J a.1.1,.bool a.1.2] BW)).grown aj (λah=>cd.o.apartRow ai.o (by decide) ah.symm));have c9:=Af ((Br.below (Zc S (K #[I J a.1.1,.bool a.1.2] BW))).trans (Br.grown (ai.o.alloc _) (by decide) aj));have cg:=Af be;have bg:=Af ((bd.o.alloc bd.o.size (K #[I J a.1.1,.bool a.1.2] BW)).grown aj (by have:=ce.o;simp;omega) (λbc X=>(Ai ai.o X).1));have c5:=bf.o.cell 2;have c6:=bf.o.cell 3;obtain⟨b4,b5⟩:=Z.o.c2;have dv:=Z.o.frozen 0;have dw:=Z.o.frozen 1;have dx:=Z.o.lt;have c7:=bf.o.lt;clear be aj c8))
      go_roundw
      case rel=>
       have bh:Ay [i] Y ((Y.setCell ⟨i,0,O⟩ (I J (a.2.placed:Int))).setCell ⟨i,1,O⟩ (C r a.2.st.length t)):=((Ay.refl [i] Y).setCell (p:=⟨i,0,O⟩) (.inl (by simp)) _).setCell (p:=⟨i,1,O⟩) (.inl (by simp)) _;have ch:=(Ae ((Y.setCell ⟨i,0,O⟩ (I J (a.2.placed:Int))).setCell ⟨i,1,O⟩ (C r a.2.st.length t)).heap.size _).alloc (Aa _)<|K #[I J (a.2.placed:Int),C r a.2.st.length t] Ck;have am:=BJ cg.o bh (λg da al=>Z.o.apartRow cg.o (by decide) (by rw[da,List.mem_singleton.1 al]));have db:=(cb.o.kept c9.o).kept<|Br.of_only bh (λab ak=>by rw[List.mem_singleton.1 ak];exact Z.o.noSp (by decide));have ag:=Ah.new ((Y.setCell ⟨i,0,O⟩ (I J (a.2.placed:Int))).setCell ⟨i,1,O⟩ (C r a.2.st.length t)) Ck #[I J (a.2.placed:Int),C r a.2.st.length t];have dy:=LC a<|Ap b7.o;obtain⟨bi,rfl⟩:∃bi,f=bi+1:=⟨f-1,by have:=e.o.fuel;omega⟩;refine⟨l++[a.1],a.2,bi,Y.heap.size,r,t,rfl,Af ⟨?_,by simpa using ag,db.below ch,bg.o.size,L.o,cc.o,by have:=e.o.fuel;omega,by have:=e.o.len;simp;omega,?_,?_⟩⟩
       .have ax:=AA am ch;simpa using ax
       .rw[<-e.o.eq,Xb bz.o b7.o cc.o ay.o];simp
       .exact BI bg.o (bh.alloc _) bg.o.size (λbc X=>by rw[List.mem_singleton.1 X];exact e.o.hi)
      case measure=>simp[lenOf];have:=e.o.len;omega
    .obtain rfl:m=(G.gm.turns b).length:=by omega
     exfalso;rw[Ex] at ay;rcases bq.o b e.o.ok e.o.leads with h|⟨a,aw,ac⟩
     .rw[bz.o] at h;cases h
     .rw[ay.o a aw] at ac;cases ac
abbrev JJ:Ab:=30
theorem Ql.nil(W:U):Ql W [] []:=⟨rfl,λa b d h=>by simp at h⟩
theorem Sr.start{w w3:U}{most:Nat}{a:List Nat}(h:Dj w3 w n a most [])(e:Ay [] w w3):
 Sr w (((w3.alloc (K #[n] TP)).alloc (K #[C O 0 0,()] Wl)).alloc (K #[C O 0 0] tNl)) w3 (w3+1) (w3+2) most ⟨[],[],[]⟩ (w3.heap.size::(w3.heap.size+2)::(a++[w3.heap.size+1]++[])):=by
 have g:=e.size;have k:∀(b d:Obj),Ay [] w3 ((w3.alloc b).alloc d):=λb d=>((Ay.refl _ _).alloc b).alloc d;have i:=Ah.new ((w3.alloc (K #[n] TP)).alloc (K #[C O 0 0,()] Wl)) tNl #[C O 0 0];have j:=Ph.new (w3.alloc (K #[n] TP)) w 0 (by simp;omega);simp only[Eb] at i j;refine⟨⟨n,a,[],[w3.heap.size+1],0,[],C O 0 0,[],?_,h.only ((k _ _).alloc _) (by simp),rfl,j.only ((Ay.refl [] _).alloc _) (by simp),Aa _,Ql.nil _,i,Ep _ _ _ _,Ql.nil _,by simp[A5],by simp[A5]⟩,⟨g,by omega⟩,?_,rfl⟩
 .exact((Ah.new w3 TP #[n]).alloc _).alloc _
 .exact(((e.below_of (Aa _) (by simp)).alloc g _).alloc (by simp;omega) _).alloc (by simp;omega) _
theorem Acy{w W:U}{most:Nat}{b:Sg.Bf Nd (Nat×List UInt8)}{S:List Nat}(h:Sr w W n k g most b S)(av:b.order.length<=10000):
 Calls prog 44 #[k] W λt p=>(b.todo=[]/\t=R (.tuple #[.agg #[(),C O 0 0],false])/\Sr w p n k g most b S)∨
  (∃a e q c Z,b.todo=a::e/\t=R (.tuple #[.agg #[(a.placed:Int),C q a.st.length c],true])/\Sr w p n k g most ⟨b.met,e,b.order⟩ Z/\CH p (C q a.st.length c) a.st):=by
 let⟨aa,u,met,ab,ac,aw,v,ad,x,y,ae,m,af,o,z,ag,ah,ax,A⟩:=h.ex;refine(Aej m (by omega)).mono ?_;rintro t p (⟨rfl,rfl,i⟩|⟨B,ai,D,rfl,rfl,aj,i,ak⟩)
 .exact .inl ⟨EU (by have:=o.1;simpa using this.symm),rfl,h.only i (by simp)⟩
 .obtain⟨a,e,F⟩:∃a e,b.todo=a::e:=by
   cases al:b.todo with
   |nil=>have:=o.1;rw[al] at this;simp at this
   |cons a e=>exact⟨a,e,rfl⟩
  rw[F] at o;let⟨G,L,am⟩:=o.2 0 B a rfl rfl;have j:=Br.of_only i m.noSp
  have M:∀d r,Du W d r->r≠Wl->r≠Ck->d∉ab:=λd r X an ao ap=>by
   rcases m.cel d ap with l|l
   .exact an<|X.uniq l
   .exact ao<|X.uniq l
  obtain⟨ay,q,az,c⟩:=B;simp only at G L;subst G L;refine .inr ⟨a,e,q,c,n::g::(u++D++v.ownBlock.toList),F,rfl,⟨⟨aa,u,met,D,ac,ai,v,ad,x.only i (M _ _ x.cel (by decide) (by decide)),y.only i (λd j aq=>?_),ae,aj,af,o.tail.kept j,z.only i (M _ _ z.cel (by decide) (by decide)),BJ ag i A,ah.kept j,rfl,λY ar au=>A Y ar (ak Y au)⟩,h.lo,BI h.below i h.below.size (λd j=>(m.lt d j).1),h.len⟩,am.kept j⟩;rcases m.cel d aq with l|l<;>exact absurd (y.tys d j _ l) (by decide)
def Q4(w:U)(os:List Ob)(es:List Ev)(level:Int)(most:Nat)(r:Ending)(w':U):Prop:=Below w w w'/\
 ((∃txs,Bn os es/\AR es=E txs/\txs.length<=12/\
  ((∃a s b d,(BF os txs level).search most=E (a,s,b)/\r=R (.tuple #[.agg #[T a,d,((b:Nat):Int)],.nilIface])/\w'.ownsRow w BW 2 d s.length (s.flatMap Q3))∨
   ((BF os txs level).search most=O/\∃e,w.cell? ⟨0,0,O⟩=E (.iface 563 (Q (E e)))/\r=R (.tuple #[.agg #[false,C O 0 0,()],.iface 563 (Q (E e))]))))∨
  ((∀txs,Bn os es->AR es=E txs->12<txs.length)/\∃g,Gk g/\r=R (.tuple #[.agg #[false,C O 0 0,()],g])))
theorem Aap{w W:U}{a:Addr}{v:N}(b:Below w w W)(h:w.cell? g=v)(d:W.cell? g=E (.iface 563 a)):v=.iface 563 a:=by
 have:=(b.cell (Ad w _ h)).trans h;rw[d] at this;injection this with this;exact this.symm
theorem Nw{w W X:U}{os:List Ob}{es:List Ev}{txs:List St}{level:Int}{most:Nat}{a:Addr}(d:Bn os es)(e:AR es=txs)(g:txs.length<=12)(i:(BF os txs level).search most=O)(j:AE w)(k:Below w w X)(l:X.cell? ⟨0,0,O⟩=E (.iface 563 a))(m:Below w w W):
 Q4 w os es level most (R (.tuple #[.agg #[false,C O 0 0,()],.iface 563 a])) (((W.setCell (w+1:Nat) false).setCell ⟨w.heap.size+1,1,O⟩ (C O 0 0)).setCell ⟨w.heap.size+1,2,O⟩ ()):=by
 let⟨o,b⟩:=j.errs 0 (by simp);have n:=Aap k b l;exact⟨((m.setCell (p:=(w+1:Nat)) (Ax _) _).setCell (p:=⟨w.heap.size+1,1,O⟩) (Ax _) _).setCell (p:=⟨w.heap.size+1,2,O⟩) (Ax _) _,.inl ⟨txs,d,e,g,.inr ⟨i,a,by rw[b,n],rfl⟩⟩⟩
theorem KC(d:Func){t:Ab}(hF:d.results= #[.cell i t,.tmp j])(k:t=JJ)(tmps:Array N)(W:U)(g:Nat)(a0 e a2 b:N)(l:tmps.getD i Ac=g)(m:tmps.getD j Ac=b)(a:Ah W g JJ #[a0,e,a2]):
 (As d tmps).run prog W=.ok (.tuple #[.agg #[a0,e,a2],b]) W:=by
 subst k;have n:=a.cell 0;have o:=a.cell 1;have p:=a.cell 2;have q:tmps[i]?.getD Ac=g:=by simpa using l
 have r:tmps[j]?.getD Ac=b:=by simpa using m
 simp[As,hF,q,r,go_sem,n,o,p]
theorem Q5{w:U}{vo vl:N}{os:List Ob}{es:List Ev}{level:Int}{most:Nat}(b5:Ba 2 CL w vo os)(b6:Ba 8 BO w vl es)(c9:∀er∈os,er.kind<=9223372036854775807)(da:∀k∈es,AU k.kind/\k.ret<=9223372036854775807)(bd:AE w)(b7:1<=level/\level<=3)(db:1<=most/\most<=150):
 Calls prog 17 #[.chan O,.agg #[vo,vl],I J level,I J (most:Int)] w λL et=>Q4 w os es level most L et:=by
 obtain⟨be,bf,rfl⟩:=b5.shape;obtain⟨bg,bh,rfl⟩:=b6.shape;have au:=AG w (K #[C be os.length bf,C bg es.length bh] AI)<|K #[T false,C O 0 0,I J 0] JJ;have bi:=Af au;have b8:=Af<|(Ah.new w AI #[C be os.length bf,C bg es.length bh]).alloc (K #[T false,C O 0 0,I J 0] JJ);have b9:=Af<|Bo w (K #[C be os.length bf,C bg es.length bh] AI) JJ #[T false,C O 0 0,I J 0];have ca:=Af<|TK (level:=level) (b5.below au) (b6.below au) c9 da (bd.below au) b7;have eu:=Af bd;have dc:=Af bd;have f3:=Af b7;have av:=Af db;have ev:decide (level<1)=false:=by simp;omega
 have ew:decide (3<level)=false:=by simp;omega
 have dd:((most:Int)<1)=False:=by simp;omega
 have ex:((65536:Int)<(most:Int))=False:=by simp;omega
 clear au b5 b6 c9 da bd b7 db;go_in;go_upto_region 5 with fail;generalize (w.alloc (K #[C be os.length bf,C bg es.length bh] AI)).alloc (K #[T false,C O 0 0,I J 0] JJ)=f4 at bi b8 b9 ca|-;clear ev ew dd ex;obtain⟨ey,ez⟩:=b8.o.c2;go_wp2_with fail;refine ca.o.mono ?_;rintro L aj ⟨cb,e0⟩;have r:=Af<|bi.o.trans (cb.mono bi.o.size);have l:=Af<|b9.o.below cb b9.o.lt;clear ey ez cb ca b8 bi;rcases e0 with ⟨txs,f5,cc,j,cd,rfl,de,ce⟩|⟨df,k,⟨g,dh,rfl⟩,rfl⟩
 .obtain⟨a,bj⟩:∃a,a=BF os txs level:=⟨_,rfl⟩;rw[<-bj] at ce;have o:=Af (show Bn os es/\AR es=E txs/\txs.length<=12/\a=BF os txs level from⟨cc,j,cd,bj⟩);have x:Hid (PF a (os.map (·.kind))):=Af (by rw[bj];exact MI cc j cd);have aw:=Af ce;have f6:=Af de;have ak:=Af<|eu.o.below r.o;clear cc j cd de ce bj;have di:=Af<|AfR (most:Int) aj;go_wp2_with fail;refine di.o.mono ?_;rintro L Y ⟨rfl,cf,dj⟩;rw[D6] at cf;have M:=Af<|Sr.start cf dj;have cg:=Af<|aw.o.call M.o.below;clear cf dj di;go_upto_region 11 with fail;generalize ((Y.alloc (K #[Q (E ⟨aj.heap.size+1,0,O⟩)] TP)).alloc (K #[C O 0 0,I J 0] Wl)).alloc (K #[C O 0 0] tNl)=f7 at M cg|-;obtain⟨f8,f9,ga,gb,gc,e1,S,ch,ci,cj,ax⟩:=cg.o;have gd:=Af S;have al:=Af<|Sn (G:=a) (n:=a.root) (c:=e1) M.o ax ((Nd.P.root x.o).gg x.o) (by have:=av.o;omega) (A9 _) (ak.o.below M.o.below);have e2:=S.cell 3;have e3:=S.lt;clear S ch ci cj ax cg;go_wp2_with fail;refine al.o.mono ?_;rintro L F e4;clear e2 e3 al;have e5:=Af M.o.below;rcases e4 with ⟨bk,dk,Z,rfl,dl,bl,-⟩|⟨Z,dh,ay,rfl,bl⟩
  rotate_left
  .have ck:Hid ((BF os txs level).search most=O):=Af (by rw[<-o.o.2.2.2];unfold Bg.search Sg.run;rw[Z];rfl);have dm:=Af<|BI M.o.below bl M.o.below.size (λaa cl=>(M.o.lt aa cl).1);have ab:=Af<|l.o.below dm.o l.o.lt;have cn:=Af ay;clear Z bl ay;obtain⟨am,an,ao⟩:_/\_/\_:=⟨ab.o.cell 0,ab.o.cell 1,ab.o.cell 2⟩;obtain⟨bm,bn,bo⟩:_/\_/\_:=⟨ab.o.frozen 0,ab.o.frozen 1,ab.o.frozen 2⟩;go_wp2_with fail;refine Ao (KC _ rfl rfl _ _ (w.heap.size+1) (T false) (C O 0 0) (I J 0) _ rfl rfl (by simpa using ((ab.o.put 0 (T false)).put 1 (C O 0 0)).put 2 (I J 0))) rfl ?_;exact Nw o.o.1 o.o.2.1 o.o.2.2.1 ck.o dc.o (r.o.trans (e5.o.mono r.o.size)) cn.o<|r.o.trans (dm.o.mono r.o.size)
  .have dn:=Af dl;have dp:=Af<|(Sg.Bf.Ok.nil a.gm (λb=>Nd.P a (os.map (·.kind)) b)).put (Nd.P.root x.o) Z
   have bp:Hid (bk.met.length<=most/\bk.mes most<152/\Sg.go a.gm most 152 bk=Sg.run a.gm most 152 a.root):=Af (by
    obtain⟨ac,G,bq⟩:=Sg.put_mes Z<|A9 _;have ge:=av.o;refine⟨G,?_,by unfold Sg.run;rw[Z];rfl⟩;have:(⟨[],[],[]⟩:Sg.Bf Nd (Nat×List UInt8)).mes most=most:=by simp[Sg.Bf.mes]
    omega)
   clear Z dl bl;go_wp2_with fail
   go_loopg [17] 152 (λf _ wr=>∃d dq,Hid (Sr aj wr Y.heap.size (Y.heap.size+1) (Y.heap.size+2) most d dq)/\Hid (d.Ok a.gm (λb=>Nd.P a (os.map (·.kind)) b))/\Hid (d.met.length<=most/\d.mes most<f/\f<=152/\Sg.go a.gm most f d=Sg.run a.gm most 152 a.root))
   case atStart=>exact⟨bk,dk,dn,dp,Af ⟨bp.o.1,bp.o.2.1,Aa _,bp.o.2.2⟩⟩
   case round=>
    obtain⟨d,dq,co,ad,ap⟩:=hrel;clear dn dp bp;have cp:=Af<|Acy co.o (by have:=co.o.len;have:=ap.o.1;have:=av.o;omega);obtain⟨f,rfl⟩:∃f,gk=f+1:=⟨gk-1,by have:=ap.o.2.1;omega⟩;obtain⟨dr,rfl⟩:∃dr:U,dr=wr:=⟨_,rfl⟩;go_wp2_with fail;refine cp.o.mono ?_;rintro L F (⟨j,rfl,az⟩|⟨b,a0,br,c,e6,j,rfl,az,a1⟩)
    .have e7:Hid (Sg.run a.gm most 152 a.root=E d):=Af (by rw[<-ap.o.2.2.2];unfold Sg.go;rw[j]);have a2:=Af az;clear j az cp;have m:=Zc F<|K #[I J 0,C O 0 0] Ck;have i:=Af<|a2.o.call m;clear m a2;go_upto_region 26 with fail;generalize F.alloc (K #[I J 0,C O 0 0] Ck)=e at i|-;obtain⟨gf,dk,met,ds,gh,gi,gj,gl,ac,G,bq,e8,e9,fa,dt,cq,du,-,fb⟩:=i.o.ex;obtain⟨gm,gn,rfl⟩:=Ag cq;have dv:=Af ac;have dw:=Af dt;have dx:=Af cq;have dy:=Af du;have dz:=Af<|AfT G;have d0:Hid (met.length=d.met.length):=Af (by have:=congrArg Fu bq;simpa using this);have a3:=Af i.o.below;have fc:=Af i.o.len;clear ac G bq e8 e9 fa dt cq du fb i;have fd:=dv.o.cell 0;go_upto_region 27 with (go_at_call 47;refine dz.o.mono ?_;rintro k fe ⟨rfl,rfl⟩);have cr:=Af<|Ah.new e JJ #[T false,C O 0 0,I J (met.length:Int)];have m:=Zc e<|K #[T false,C O 0 0,I J (met.length:Int)] JJ;have a4:=Af<|a3.o.trans (m.mono a3.o.size);have d1:=Af<|dw.o.alloc (K #[T false,C O 0 0,I J (met.length:Int)] JJ);have d2:=Af<|AA dx.o m;have d3:=Af<|dy.o.kept (Br.below m);have ff:=Af (show e.heap.size<(e.alloc (K #[T false,C O 0 0,I J (met.length:Int)] JJ)).heap.size by simp);clear fd m dv dw dx dy dz;generalize e.alloc (K #[T false,C O 0 0,I J (met.length:Int)] JJ)=gp at cr a4 d1 d2 d3 ff|-;have d4:=Af<|TR (aw.o.call a4.o) x.o d2.o d3.o ad.o.order (by have:=fc.o;have:=d0.o;have:=ap.o.1;have:=av.o;omega) (ak.o.below a4.o);have fg:=d1.o.cell 0;go_wp2_with (go_at_call 48;refine d4.o.mono ?_;rintro k cs ⟨rfl,⟨gq,d5⟩,aq⟩;have A:=Af (a4.o.trans (aq.mono a4.o.size));have ct:=Af d5;have bs:=Af (cr.o.below aq cr.o.lt);obtain⟨gr,gs,gt,gu,gv,gw,S,ch,ci,cj,ax⟩:=aw.o.call A.o;have bt:=Af ax;have bu:=S.cell 3;have d6:=S.lt;clear d5 aq d4 fg S ch ci cj ax);have a5:=(Nd.P.root x.o).gg x.o;have bv:=Af<|Sq (n:=a.root) a5 bt.o (ak.o.below A.o)
     have bw:Hid (∀cu,cu=Sg.leads a.gm d.order (a.gm.key a.root)->(BF os txs level).search most=E (if cu then(true,Sg.least a.gm (Sg.leads a.gm d.order) 13 a.root,met.length) else(false,[],met.length))):=Af (λcu fh=>by
      rw[<-o.o.2.2.2];unfold Bg.search;rw[e7.o,HN,fh,d0.o])
     cases a6:Sg.leads a.gm d.order (a.gm.key a.root) with
     |false=>
      have bz:=Af<|bw.o false a6.symm;clear bw;go_upto_region 30 with (go_at_call 42;refine bv.o.mono ?_;rintro k v ⟨rfl,B⟩;have a7:=Af (A.o.trans (B.mono A.o.size));have ae:=Af (bs.o.below B bs.o.lt);have af:=(ct.o.call B).look (tm:=tLm) underlying139 (FO _) a5.pa;rw[FN,show Sg.leads a.gm d.order a5.pa.1=_ from a6] at af;simp only[Ho] at af;clear B bv bu d6);clear af;have n:=Af<|l.o.below a7.o l.o.lt;obtain⟨am,an,ao⟩:_/\_/\_:=⟨ae.o.cell 0,ae.o.cell 1,ae.o.cell 2⟩;obtain⟨fi,ag,W⟩:_/\_/\_:=⟨n.o.cell 0,n.o.cell 1,n.o.cell 2⟩;obtain⟨bm,bn,bo⟩:_/\_/\_:=⟨n.o.frozen 0,n.o.frozen 1,n.o.frozen 2⟩;go_wp2_with fail;refine Ao (KC _ rfl rfl _ _ (w.heap.size+1) (T false) (C O 0 0) (I J (met.length:Int)) _ rfl rfl (by simpa using ((n.o.put 0 (T false)).put 1 (C O 0 0)).put 2 (I J (met.length:Int)))) rfl ?_;exact⟨(((r.o.trans (a7.o.mono r.o.size)).setCell (p:=⟨w.heap.size+1,0,O⟩) (Ax _) _).setCell (p:=⟨w.heap.size+1,1,O⟩) (Ax _) _).setCell (p:=⟨w.heap.size+1,2,O⟩) (Ax _) _,.inl ⟨txs,o.o.1,o.o.2.1,o.o.2.2.1,.inl ⟨false,[],met.length,_,bz.o,rfl,Ep _ _ _ _⟩⟩⟩
     |true=>
      have bz:=Af<|bw.o true a6.symm;have d7:=Af (λV (cv:Below cs.heap.size cs V)=>TT (aw.o.call (A.o.trans (cv.mono A.o.size))) x.o (ct.o.call cv) ad.o.order (by rw[<-ad.o.keys];exact ad.o.nodup) a6 (ak.o.below (A.o.trans (cv.mono A.o.size))));clear bw;go_upto_region 29 with (go_at_call 42;refine bv.o.mono ?_;rintro k v ⟨rfl,B⟩;have a7:=Af (A.o.trans (B.mono A.o.size));have ae:=Af (bs.o.below B bs.o.lt);have d8:=Af (d7.o v B);have af:=(ct.o.call B).look (tm:=tLm) underlying139 (FO _) a5.pa;rw[FN,show Sg.leads a.gm d.order a5.pa.1=_ from a6] at af;simp only[Ho] at af;clear B bv d7 bu d6);clear af;have X:=Af (show w.heap.size+1<aj.heap.size/\aj.heap.size<=e.heap.size/\e.heap.size<v.heap.size from⟨l.o.lt,a3.o.size,ae.o.lt⟩);go_upto_region 30 with (go_at_call 49;refine d8.o.mono ?_;rintro k cw ⟨gx,rfl,cx,cy⟩;obtain⟨y,z,rfl⟩:=Ag cx;have cz:=Af cx;have a8:=Af (a7.o.trans (cy.mono a7.o.size));have q:=Af (ae.o.below cy ae.o.lt);have am:=q.o.cell 0;have an:=q.o.cell 1;have ao:=q.o.cell 2;have fj:=q.o.frozen 0;have fk:=q.o.frozen 1;have fl:=q.o.lt;clear cy cx d8);obtain⟨t,d9⟩:∃t,t=(Sg.least a.gm (Sg.leads a.gm d.order) 13 a.root):=⟨_,rfl⟩;rw[<-d9] at cz bz|-;clear am an ao fj fk fl d9;have b0:∀aa,(Ar y t.length z).ownBlock=E aa->v.heap.size<=aa:=λaa k=>(Ai cz.o k).1;have ea:=Af<|Ak (Ak cz.o (p:=⟨e.heap.size,0,O⟩) (λk=>by have:=b0 _ k;have:=X.o;simp at*;omega) (T true)) (p:=⟨e.heap.size,1,O⟩) (λk=>by have:=b0 _ k;have:=X.o;simp at*;omega) (C y t.length z);have b1:Hid (Ah ((cw.setCell ⟨e.heap.size,0,O⟩ (T true)).setCell ⟨e.heap.size,1,O⟩ (C y t.length z)) e.heap.size JJ #[T true,C y t.length z,I J (met.length:Int)]):=Af (by simpa using (q.o.put 0 (T true)).put 1 (C y t.length z));have n:=Af<|((l.o.below a8.o l.o.lt).far (p:=⟨e.heap.size,0,O⟩) (by have:=X.o;show w.heap.size+1≠e.heap.size;omega) (T true)).far (p:=⟨e.heap.size,1,O⟩) (by have:=X.o;show w.heap.size+1≠e.heap.size;omega) (C y t.length z);have eb:=Af<|((r.o.trans (a8.o.mono r.o.size)).setCell (p:=⟨e.heap.size,0,O⟩) (by have:=X.o;show w.heap.size<=e.heap.size;omega) (T true)).setCell (p:=⟨e.heap.size,1,O⟩) (by have:=X.o;show w.heap.size<=e.heap.size;omega) (C y t.length z);generalize (cw.setCell ⟨e.heap.size,0,O⟩ (T true)).setCell ⟨e.heap.size,1,O⟩ (C y t.length z)=V at ea b1 n eb|-;obtain⟨am,an,ao⟩:_/\_/\_:=⟨b1.o.cell 0,b1.o.cell 1,b1.o.cell 2⟩;obtain⟨fi,ag,W⟩:_/\_/\_:=⟨n.o.cell 0,n.o.cell 1,n.o.cell 2⟩;obtain⟨bm,bn,bo⟩:_/\_/\_:=⟨n.o.frozen 0,n.o.frozen 1,n.o.frozen 2⟩;have ec:(Ar y t.length z).ownBlock≠E (w.heap.size+1):=λk=>by have:=b0 _ k;have:=X.o;omega
      have c0:=Af ec;have fm:=Af (show w.heap.size<=v.heap.size from by have:=X.o;omega);clear b0 ec;go_wp2_with fail;refine Ao (KC _ rfl rfl _ _ (w.heap.size+1) (T true) (C y t.length z) (I J (met.length:Int)) _ rfl rfl (by simpa using ((n.o.put 0 (T true)).put 1 (C y t.length z)).put 2 (I J (met.length:Int)))) rfl ?_;refine⟨((eb.o.setCell (p:=⟨w.heap.size+1,0,O⟩) (Ax _) _).setCell (p:=⟨w.heap.size+1,1,O⟩) (Ax _) _).setCell (p:=⟨w.heap.size+1,2,O⟩) (Ax _) _,.inl ⟨txs,o.o.1,o.o.2.1,o.o.2.2.1,.inl ⟨true,t,met.length,_,bz.o,rfl,?_⟩⟩⟩;exact Ak (Ak (Ak (Aw ea.o fm.o) (p:=⟨w.heap.size+1,0,O⟩) c0.o _) (p:=⟨w.heap.size+1,1,O⟩) c0.o _) (p:=⟨w.heap.size+1,2,O⟩) c0.o _
    .have a2:=Af az;have ed:=Af a1;have ee:Hid (Nd.P a (os.map (·.kind)) b):=Af<|ad.o.todo b (by simp[j]);have fo:Hid (Sg.Bf.Ok a.gm (λb=>Nd.P a (os.map (·.kind)) b) ⟨d.met,a0,d.order⟩):=Af (ad.o.take j).2
     have a9:Hid (d.met.length<=most/\(⟨d.met,a0,d.order⟩:Sg.Bf Nd (Nat×List UInt8)).mes most<f/\f+1<=152/\(Sg.puts a.gm most ⟨d.met,a0,d.order⟩ (a.gm.turns b)).bind (Sg.go a.gm most f)=Sg.run a.gm most 152 a.root):=Af (by
      obtain⟨ag,W,ba,fp⟩:=ap.o;refine⟨ag,?_,ba,?_⟩
      .unfold Sg.Bf.mes at W|-;rw[j] at W;simp at W|-;omega
      .rw[<-fp];rw[Sg.go,j])
     clear j az a1 cp ap ad co;have c1:=Af<|Xc (F.alloc (K #[I J (b.placed:Int),C br b.st.length c] Ck));have m:=Zc F<|K #[I J (b.placed:Int),C br b.st.length c] Ck;have i:=Af<|a2.o.call m;have ar:=Af<|ed.o.below m;have ah:=Af<|Ah.new F Ck #[I J (b.placed:Int),C br b.st.length c];clear m a2 ed;go_upto_region 17 with fail;generalize F.alloc (K #[I J (b.placed:Int),C br b.st.length c] Ck)=e at c1 i ar ah|-;have ef:=Af<|Q0 (aw.o.call i.o.below) x.o ee.o ar.o (ak.o.below i.o.below);obtain⟨fq,fr⟩:=ah.o.c2;go_wp2_with fail;refine c1.o.mono ?_;rintro L fe ⟨rfl,rfl⟩;go_wp2_with fail;refine ef.o.mono ?_;rintro L cs ⟨gy,rfl,c2,aq⟩;obtain⟨fs,ft,rfl⟩:=c2.1.shape;have eg:=Af c2;have bt:=Af<|i.o.call aq;have eh:Hid ((a.gm.turns b).length<=30):=Af<|Ko x.o.few b;have gz:((a.gm.turns b).length:Int)<=30:=by have:=eh.o;omega
     have fu:Hid (∀g∈a.gm.turns b,Nd.P a (os.map (·.kind)) g.2):=Af<|ee.o.turns x.o;clear fq fr c2 aq ef c1 i ar ah;go_wp2_with fail
     go_loopw [78] (λc3 wr=>∃(u:Nat) (D:Sg.Bf Nd (Nat×List UInt8)) (c4:List Nat),c3=I J u/\u<=(a.gm.turns b).length/\Hid (Sr aj wr Y.heap.size (Y.heap.size+1) (Y.heap.size+2) most D c4)/\Hid (D.Ok a.gm (λb=>Nd.P a (os.map (·.kind)) b))/\Hid (D.met.length<=most/\D.mes most<f/\Sg.puts a.gm most D ((a.gm.turns b).drop u)=Sg.puts a.gm most ⟨d.met,a0,d.order⟩ (a.gm.turns b))/\Hid (NU wr (C fs (a.gm.turns b).length ft) (a.gm.turns b))) (λc3 _=>40-(intOf c3).toNat)
     case atStart=>exact⟨0,_,e6,rfl,A9 _,bt,fo,Af ⟨a9.o.1,a9.o.2.1,rfl⟩,eg⟩
     case round=>
      obtain⟨u,D,c4,rfl,ei,c5,ej,bb,c6⟩:=hrel;obtain⟨v,rfl⟩:∃v:U,v=wr:=⟨_,rfl⟩;clear bt eg;by_cases b2:u<(a.gm.turns b).length
      .obtain⟨g,j⟩:∃g,(a.gm.turns b)[u]?=E g:=⟨_,An b2⟩;obtain⟨g0,g1,c7,b3,rfl,-,-,a1,fv,fw,fx,bu,fy⟩:=NU.at c6.o (Ae _ _) j;have ek:=Af<|fu.o g (Ap j)
       have el:Hid ((a.gm.turns b).drop u=g::(a.gm.turns b).drop (u+1)):=Af (by
        obtain⟨ac,G⟩:=Am.1 j;rw[FX ac,G])
       have em:=Af b2;have g2:(0:Int)<=(u:Int):=by omega
       have g3:(u:Int)<((a.gm.turns b).length:Int):=by omega
       have ah:=Af<|Ah.new v Kb #[I J g.1.1,T g.1.2,I J (g.2.placed:Int),C c7 g.2.st.length b3];have m:=Zc v<|K #[I J g.1.1,T g.1.2,I J (g.2.placed:Int),C c7 g.2.st.length b3] Kb;have i:=Af<|c5.o.call m;have ar:=Af<|c6.o.below m;have en:=Af<|a1.below m;clear a1 m j b2 ei c5 c6;go_upto_region 22 with fail;generalize v.alloc (K #[I J g.1.1,T g.1.2,I J (g.2.placed:Int),C c7 g.2.st.length b3] Kb)=e at ah i ar en|-;clear fv fw fx bu fy;have al:=Af<|Sn (G:=a) (n:=g.2) (c:=b3) i.o en.o (ek.o.gg x.o) (by have:=av.o;omega) bb.o.1 (ak.o.below i.o.below);have eo:=ah.o.cell 2;have ep:=ah.o.cell 3;go_wp2_with fail;refine al.o.mono ?_;rintro L cw (⟨b4,ds,ai,rfl,eq,bc,-⟩|⟨ai,dh,ay,rfl,bc⟩)
       .have fz:=Af eq;have f0:=Af<|ej.o.put ek.o ai
        have c8:Hid (b4.met.length<=most/\b4.mes most<f/\Sg.puts a.gm most b4 ((a.gm.turns b).drop (u+1))=Sg.puts a.gm most ⟨d.met,a0,d.order⟩ (a.gm.turns b)):=Af (by
         obtain⟨ag,W,ba⟩:=bb.o;obtain⟨ac,G,bq⟩:=Sg.put_mes ai ag;refine⟨G,by omega,?_⟩;rw[<-ba,el.o,Sg.puts,ai];rfl)
        have f1:=Af<|ar.o.only bc i.o.noSp;clear ai eq bc al eo ep;go_wp2_with fail
        go_roundw
        case rel=>exact⟨u+1,b4,ds,by go_num,em.o,fz,f0,c8,f1⟩
        case measure=>simp[intOf];have ac:=em.o;have G:=eh.o;omega
       .have ck:Hid ((BF os txs level).search most=O):=Af (by
         rw[<-o.o.2.2.2];unfold Bg.search;rw[<-a9.o.2.2.2,<-bb.o.2.2,el.o,Sg.puts,ai];rfl)
        have a8:=Af<|BI i.o.below bc i.o.below.size (λaa cl=>(i.o.lt aa cl).1);have a3:=Af i.o.below;have q:=Af<|l.o.below a8.o l.o.lt;have cn:=Af ay;clear ai bc ay al eo ep;obtain⟨am,an,ao⟩:_/\_/\_:=⟨q.o.cell 0,q.o.cell 1,q.o.cell 2⟩;obtain⟨bm,bn,bo⟩:_/\_/\_:=⟨q.o.frozen 0,q.o.frozen 1,q.o.frozen 2⟩;go_wp2_with fail;refine Ao (KC _ rfl rfl _ _ (w.heap.size+1) (T false) (C O 0 0) (I J 0) _ rfl rfl (by simpa using ((q.o.put 0 (T false)).put 1 (C O 0 0)).put 2 (I J 0))) rfl ?_;exact Nw o.o.1 o.o.2.1 o.o.2.2.1 ck.o dc.o (r.o.trans (a3.o.mono r.o.size)) cn.o<|r.o.trans (a8.o.mono r.o.size)
      .obtain rfl:u=(a.gm.turns b).length:=by omega
       have dd:decide ((a.gm.turns b).length<(a.gm.turns b).length)=false:=by simp
       have c8:Hid (D.met.length<=most/\D.mes most<f/\f<=152/\Sg.go a.gm most f D=Sg.run a.gm most 152 a.root):=Af (by
        obtain⟨ag,W,ba⟩:=bb.o;refine⟨ag,W,by have:=a9.o.2.2.1;omega,?_⟩;rw[<-a9.o.2.2.2,<-ba,HQ];rfl)
       clear b2 ei bb;go_wp2_with fail
       go_roundg f
       case measure=>omega
       case rel=>exact⟨D,c4,c5,ej,c8⟩
 .have f2:=Af df;clear df;obtain⟨am,an,ao⟩:_/\_/\_:=⟨l.o.cell 0,l.o.cell 1,l.o.cell 2⟩;obtain⟨bm,bn,bo⟩:_/\_/\_:=⟨l.o.frozen 0,l.o.frozen 1,l.o.frozen 2⟩;go_wp2_with fail;refine Ao (KC _ rfl rfl _ _ (w.heap.size+1) (T false) (C O 0 0) (I J 0) _ rfl rfl (by simpa using ((l.o.put 0 (T false)).put 1 (C O 0 0)).put 2 (I J 0))) rfl ?_;exact⟨((r.o.setCell (p:=⟨w.heap.size+1,0,O⟩) (Ax _) _).setCell (p:=⟨w.heap.size+1,1,O⟩) (Ax _) _).setCell (p:=⟨w.heap.size+1,2,O⟩) (Ax _) _,.inr ⟨f2.o,_,⟨_,_,rfl⟩,rfl⟩⟩
theorem Q6{w:U}{vo vl:N}{os:List Ob}{es:List Ev}{level:Int}{most:Nat}(q:Ba 2 CL w vo os)(r:Ba 8 BO w vl es)(L:∀ae∈os,ae.kind<=9223372036854775807)(M:∀d∈es,AU d.kind/\d.ret<=9223372036854775807)(t:AE w)(S:1<=level/\level<=3)(W:1<=most/\most<=150):
 Calls prog 6 #[.agg #[vo,vl],level,(most:Int)] w λX af=>Q4 w os es level most X af:=by
 obtain⟨g,i,rfl⟩:=q.shape;obtain⟨j,k,rfl⟩:=r.shape;have e:=AG w (K #[C g os.length i,C j es.length k] AI)<|K #[false,C O 0 0,()] JJ;have l:=Af e;have u:=Af<|(Ah.new w AI #[C g os.length i,C j es.length k]).alloc (K #[false,C O 0 0,()] JJ);have m:=Af<|Bo w (K #[C g os.length i,C j es.length k] AI) JJ #[false,C O 0 0,()];have v:=Af<|Q5 (q.below e) (r.below e) L M (t.below e) S W;have ag:=Af t;clear e q r L M t S W;go_in;go_upto_region 1 with fail;generalize (w.alloc (K #[C g os.length i,C j es.length k] AI)).alloc (K #[false,C O 0 0,()] JJ)=ah at l u m v|-;let⟨ai,aj⟩:=u.o.c2;go_wp2_with fail;refine v.o.mono ?_;rintro X ao ⟨x,ak⟩;have y:=Af<|l.o.trans (x.mono l.o.size);have a:=Af<|m.o.below x m.o.lt;have Y:=Af (show w.heap.size+1<ah.heap.size from m.o.lt);clear ai aj x v u;obtain⟨ap,aq,ar⟩:_/\_/\_:=⟨a.o.cell 0,a.o.cell 1,a.o.cell 2⟩;obtain⟨au,av,aw⟩:_/\_/\_:=⟨a.o.frozen 0,a.o.frozen 1,a.o.frozen 2⟩;rcases ak with ⟨txs,n,o,p,⟨z,s,A,ax,Z,rfl,B⟩|⟨aa,al,ab,rfl⟩⟩|⟨ac,d,⟨ay,al,rfl⟩,rfl⟩
 .obtain⟨D,F,rfl⟩:=Ag B;have b:=Af (show Bn os es/\AR es=txs/\txs.length<=12/\_ from⟨n,o,p,Z⟩);have ad:=Af B;clear n o p Z B;go_wp2_with fail;refine Ao (KC _ rfl rfl _ _ (w+1) z (C D s.length F) (A:Int) _ rfl rfl (by simpa using ((a.o.put 0 z).put 1 (C D s.length F)).put 2 (A:Int))) rfl ?_;have G:(Ar D s.length F).ownBlock≠E (w.heap.size+1):=λd=>by have:=(Ai ad d).1;have:=Y.o;omega
  exact⟨((y.o.setCell (p:=(w+1:Nat)) (Ax _) _).setCell (p:=⟨w.heap.size+1,1,O⟩) (Ax _) _).setCell (p:=⟨w.heap.size+1,2,O⟩) (Ax _) _,.inl ⟨txs,b.o.1,b.o.2.1,b.o.2.2.1,.inl ⟨z,s,A,_,b.o.2.2.2,rfl,Ak (Ak (Ak (Aw ad (by have:=Y.o;omega)) (p:=(w+1:Nat)) G _) (p:=⟨w.heap.size+1,1,O⟩) G _) (p:=⟨w.heap.size+1,2,O⟩) G _⟩⟩⟩
 .have b:=Af (show Bn os es/\AR es=txs/\txs.length<=12/\_ from⟨n,o,p,aa⟩);have am:=Af ab;clear n o p aa ab;go_wp2_with fail;refine Ao (KC _ rfl rfl _ _ (w+1) false (C O 0 0) () _ rfl rfl (by simpa using ((a.o.put 0 false).put 1 (C O 0 0)).put 2 ())) rfl ?_;exact Nw b.o.1 b.o.2.1 b.o.2.2.1 b.o.2.2.2 ag l am y
 .have an:=Af ac;clear ac;go_wp2_with fail;refine Ao (KC _ rfl rfl _ _ (w+1) false (C O 0 0) () _ rfl rfl (by simpa using ((a.o.put 0 false).put 1 (C O 0 0)).put 2 ())) rfl ?_;exact⟨((y.o.setCell (p:=(w+1:Nat)) (Ax _) _).setCell (p:=⟨w.heap.size+1,1,O⟩) (Ax _) _).setCell (p:=⟨w.heap.size+1,2,O⟩) (Ax _) _,.inr ⟨an,_,⟨_,_,rfl⟩,rfl⟩⟩
abbrev mOb(n:Nat):Obj:=K (A2 (Gf #[(),()]).cells (n*2)) Di
abbrev Xd(n:Nat):Obj:=K (A2 (Gf #[(),(),(),(),(),(),(),()]).cells (n*8)) AJ
theorem KD(a:Func){t:Ab}(hF:a.results= #[.cell i t])(e:t=AI)(tmps:Array N)(W:U)(g:Nat)(a0 b:N)(j:tmps.getD i Ac=g)(d:Ah W g AI #[a0,b]):
 (As a tmps).run prog W=.ok (.agg #[a0,b]) W:=by
 subst e;have k:=d.cell 0;have l:=d.cell 1;have m:tmps[i]?.getD Ac=g:=by simpa using j
 simp[As,hF,m,go_sem,k,l]
theorem Bs{W:U}{t:Ab}{a b a' b':N}(h:Ah W g t #[a,b]):Ah ((W.setCell g a').setCell ⟨g,1,O⟩ b') g t #[a',b']:=by
 have:=(h.put 0 a').put 1 b';simpa using this
def Hy(B:Nat)(w:U)(vo vl:N)(os:List Ob)(es:List Ev):Prop:=w.ownsRow B Di 2 vo os.length (os.flatMap CL)/\w.ownsRow B AJ 8 vl es.length (es.flatMap BO)
theorem Hy.call{B:Nat}{w w':U}{vo vl:N}{os:List Ob}{es:List Ev}(h:Hy B w vo vl os es)(a:Below w w w'):Hy B w' vo vl os es:=⟨AA h.1 a,AA h.2 a⟩
theorem Hy.end{B:Nat}{w W:U}{a:Option Addr}{k1 k2:Nat}{os:List Ob}{es:List Ev}(h:Hy B W (C A n k1) (C a k k2) os es)(g:w.heap.size+1<B)(x y:N):Hy w ((W.setCell (w+1:Nat) x).setCell ⟨w.heap.size+1,1,O⟩ y) (C A n k1) (C a k k2) os es:=by
 have d:(Ar A n k1).ownBlock≠E (w.heap.size+1):=λb=>by have:=(Ai h.1 b).1;omega
 have e:(Ar a k k2).ownBlock≠E (w.heap.size+1):=λb=>by have:=(Ai h.2 b).1;omega
 exact⟨Aw (Ak (Ak h.1 (p:=(w+1:Nat)) d _) (p:=⟨w.heap.size+1,1,O⟩) d _) (by omega),Aw (Ak (Ak h.2 (p:=(w+1:Nat)) e _) (p:=⟨w.heap.size+1,1,O⟩) e _) (by omega)⟩
theorem Hy.reads{B:Nat}{w:U}{vo vl:N}{os:List Ob}{es:List Ev}(h:Hy B w vo vl os es):Ba 2 CL w vo os/\Ba 8 BO w vl es:=⟨Ba.of_row h.1 (λ_=>rfl) rfl,Ba.of_row h.2 (λ_=>rfl) rfl⟩
theorem DG(q:List Ev):∀u∈q.flatMap BO,u.oneCell'=true:=by
 intro u b;let⟨c,_,a⟩:=List.mem_flatMap.1 b;simp[BO,Aj] at a;rcases a with rfl|rfl|rfl|rfl|rfl|rfl|rfl|rfl<;>rfl
theorem F7{w:U}{vo vl:N}{os:List Ob}{es:List Ev}(X:Ba 2 CL w vo os)(Y:Ba 8 BO w vl es)(o:os.length<=1000)(B:es.length<=1000):
 Calls prog 23 #[.agg #[vo,vl]] w λa3 y=>∃af ag,a3=R (.agg #[af,ag])/\Hy w y af ag os es/\Below w w y:=by
 let⟨ah,ai,a4,aj,a5⟩:=A1 Nq;let⟨ak,al,a6,am,a7⟩:=A1 GJ;obtain⟨q,r,rfl⟩:=X.shape;obtain⟨t,u,rfl⟩:=Y.shape;have D:=AG w (K #[C q os.length r,C t es.length u] AI)<|K #[C O 0 0,C O 0 0] AI;have F:=Af D;have j:=Af<|(Ah.new w AI #[C q os.length r,C t es.length u]).alloc (K #[C O 0 0,C O 0 0] AI);have k:=Af<|Bo w (K #[C q os.length r,C t es.length u] AI) AI #[C O 0 0,C O 0 0];have an:=Af<|X.below D;have ao:=Af<|Y.below D;have g:=Af<|And.intro o B;have bp:prog.follows Ge=true:=by kernel_rfl
 go_in;go_upto_region 1 with fail;generalize (w.alloc (K #[C q os.length r,C t es.length u] AI)).alloc (K #[C O 0 0,C O 0 0] AI)=a at F j k an ao|-
 have bq:∀d:U,(Fw 22 () (os.length:Int)).run prog d=.ok (C (E ⟨d.heap.size,0,O⟩) 0 os.length) (d.alloc (mOb os.length)):=λd=>by
  have h:=run_make (P:=prog) d 22 Di ah _ underlying22 ai a4 .i64 .i64 0 os.length (HO _) (by omega) (by have:=g.o;rw[a5];omega) (by have:=g.o;omega);simpa[aj] using h
 have br:∀d:U,(Fw 23 () (es.length:Int)).run prog d=.ok (C (E ⟨d.heap.size,0,O⟩) 0 es.length) (d.alloc (Xd es.length)):=λd=>by
  have h:=run_make (P:=prog) d 23 AJ ak _ underlying23 al a6 .i64 .i64 0 es.length (HO _) (by omega) (by have:=g.o;rw[a7];omega) (by have:=g.o;omega);simpa[am] using h
 let⟨a8,a9⟩:=j.o.c2;have bs:=j.o.lt;obtain⟨ba,bb⟩:_/\_:=⟨k.o.frozen 0,k.o.frozen 1⟩;let⟨bc,bd⟩:=k.o.c2;have bt:=k.o.lt;have ap:=λ(b:U) (Z:Below a a b)=>(an.o.below Z).news (λ_=>rfl) (by omega);have aq:=λ(b:U) (Z:Below a a b)=>(ao.o.below Z).news (λ_=>rfl) (by omega);have aa:=Af ap;have ab:=Af aq;have v:=Af<|F.o.size;have G:∀(b:U) (e:Nat),w.heap.size<=b.heap.size->e<=1000->(b.alloc (mOb e)).ownsRow w Di 2 (C (E ⟨b.heap.size,0,O⟩) 0 e) 0 []:=λb e o B=>HD b _ e o (by unfold Al;omega) (by simp[Gz,F2]);have L:∀(b:U) (e:Nat),w.heap.size<=b.heap.size->e<=1000->(b.alloc (Xd e)).ownsRow w AJ 8 (C (E ⟨b.heap.size,0,O⟩) 0 e) 0 []:=λb e o B=>HD b _ e o (by unfold Al;omega) (by simp[Gz,F2]);have be:Hid ((a.alloc (mOb os.length)).drew.ownsRow w Di 2 (C a 0 os.length) 0 []):=Af<|G a _ v.o g.o.1;have bf:Hid (((a.alloc (mOb os.length)).alloc (Xd es.length)).drew.ownsRow w Di 2 (C a 0 os.length) 0 []):=Af<|(G a _ v.o g.o.1).alloc _;have bg:Hid (((a.alloc (mOb os.length)).alloc (Xd es.length)).drew.ownsRow w AJ 8 (C (a+1:Nat) 0 es.length) 0 []):=Af (by have:=L (a.alloc (mOb os.length)) es.length (by have:=v.o;simp;omega) g.o.2;rw[Eb] at this;exact this);have bh:Hid (((a.alloc (Xd es.length)).alloc (mOb os.length)).drew.ownsRow w Di 2 (C (a+1:Nat) 0 os.length) 0 []):=Af (by have:=G (a.alloc (Xd es.length)) os.length (by have:=v.o;simp;omega) g.o.1;rw[Eb] at this;exact this);have bi:Hid (((a.alloc (Xd es.length)).alloc (mOb os.length)).drew.ownsRow w AJ 8 (C a 0 es.length) 0 []):=Af<|(L a _ v.o g.o.2).alloc _;have ar:∀l:Obj,Hid (Below a a (a.alloc l).drew):=λl=>Af ((Ae _ _).alloc (Aa _) l).drew;have au:∀l ac:Obj,Hid (Below a a ((a.alloc l).alloc ac).drew):=λl ac=>Af (((Ae _ _).alloc (Aa _) l).alloc (by simp) ac).drew;have bj:=Af L
 go_region_held_law (λy=>y.cell? w=E (C q os.length r)/\y.cell? ⟨w.heap.size,1,O⟩=E (C t es.length u)) (first|(go_keep;done)|with_reducible exact⟨a8,a9⟩|exact⟨m.o.cell 0,m.o.cell 1⟩|exact⟨av.o.cell 0,av.o.cell 1⟩|exact⟨(m.o.alloc _).cell 0,(m.o.alloc _).cell 1⟩) (first
  |(refine Bv (by rfl) (.tmp 6) (.tmp 8) 22 (by rfl) w Di ah 2 underlying22 ai aj _ 0 os.length [] (by rfl) (by first|with_reducible exact be.o|with_reducible exact bf.o|with_reducible exact bh.o) q os.length r (os.flatMap CL) (by rfl) (Sf os) (aa.o a (Ae _ _)).1 (by first|with_reducible exact(aa.o _ (ar _).o).2.2|with_reducible exact(aa.o _ (au _ _).o).2.2) (Si os) (by omega) ?_;intro ad aw z;have M:Below a a ad:=(by first|with_reducible exact(ar _).o.grown z (by simp) (λae n=>by injection n;omega)|with_reducible exact(au _ _).o.grown z (by simp;omega) (λae n=>by injection n;omega));have i:=Af M;have A:=Af (show a.heap.size+1<=ad.heap.size from by have bk:=z.size;simp at bk;omega);have bl:=Af (bj.o ad es.length (by have:=v.o;have:=M.size;omega) g.o.2);(first|with_reducible have ax:=Af (bg.o.kept z (.inr (by simp[A5])))|with_reducible have ax:=Af (bi.o.kept z (.inr (by simp[A5])))|skip);have m:=Af (j.o.below M j.o.lt);have k0:=m.o.cell 0;have k1:=m.o.cell 1;have bu:=m.o.lt;have ay:=Af aw;clear M aw)
  |(refine Bv (by rfl) (.tmp 13) (.tmp 15) 23 (by rfl) w AJ ak 8 underlying23 al am _ 0 es.length [] (by rfl) (by first|with_reducible exact bl.o|with_reducible exact ax.o) t es.length u (es.flatMap BO) (by rfl) (DQ (n:=8) (λ_=>rfl) es) (ab.o a (Ae _ _)).1 (by first|with_reducible exact(ab.o _ (i.o.alloc i.o.size _)).2.2|with_reducible exact(ab.o _ i.o).2.2) (DG es) (by omega) ?_;intro bm az S;have W:Below a a bm:=(by first|with_reducible exact(i.o.alloc i.o.size _).grown S (by have:=i.o.size;simp;omega) (λae n=>by injection n;have:=i.o.size;omega)|with_reducible exact i.o.grown S i.o.size (λae n=>by injection n;omega));have bn:=Af W;have av:=Af (j.o.below W j.o.lt);have x:=Af (k.o.below W k.o.lt);(first|with_reducible have a0:=Af ((ay.o.alloc (Xd es.length)).kept S (.inr (by have:=A.o;simp[A5];omega)))|with_reducible have a0:=Af (ay.o.kept S (.inr (by simp[A5]))));have bo:=Af az;have bc:=x.o.cell 0;have bd:=x.o.cell 1;have ba:=x.o.frozen 0;have bb:=x.o.frozen 1;have bv:=x.o.lt;clear W az))
 all_goals go_wp2_with fail
 all_goals
  have a1:=a0.o;have a2:=bo.o;simp only[Ej,Es] at a1 a2;refine Ao (KD _ rfl rfl _ _ (w+1) _ _ rfl (Bs x.o)) rfl ?_;exact⟨_,_,rfl,⟨Ak (Ak a1 (p:=(w+1:Nat)) (by have:=A.o;simp[A5];omega) _) (p:=⟨w.heap.size+1,1,O⟩) (by have:=A.o;simp[A5];omega) _,Ak (Ak a2 (p:=(w+1:Nat)) (by have:=A.o;simp[A5];omega) _) (p:=⟨w.heap.size+1,1,O⟩) (by have:=A.o;simp[A5];omega) _⟩,((F.o.trans (bn.o.mono F.o.size)).setCell (p:=(w+1:Nat)) (Ax _) _).setCell (p:=⟨w.heap.size+1,1,O⟩) (Ax _) _⟩
theorem Q7{w:U}{vo vl:N}{os:List Ob}{es:List Ev}(o:Ba 2 CL w vo os)(d:Ba 8 BO w vl es)(A:os.length<=1000)(B:es.length<=1000)(q:n<=es.length):
 Calls prog 61 #[.agg #[vo,vl],(n:Int)] w λD F=>∃r t,D=R (.agg #[r,t])/\Hy w F r t os (es.take n)/\Below w w F:=by
 obtain⟨e,g,rfl⟩:=o.shape;obtain⟨b,a,rfl⟩:=d.shape;have ac:es.length<=a:=by obtain⟨_,_,_,_,G,_,_,h,_⟩:=d;injection G with _ _ G;omega
 have L:=AG w (K #[C e os.length g,C b es.length a] AI)<|K #[C O 0 0,C O 0 0] AI;have M:=Af L;have i:=Af<|(Ah.new w AI #[C e os.length g,C b es.length a]).alloc (K #[C O 0 0,C O 0 0] AI);have S:=Af<|Bo w (K #[C e os.length g,C b es.length a] AI) AI #[C O 0 0,C O 0 0];have ad:=Af o;have ae:=Af<|d.take q;have W:=Af<|And.intro A B;have af:=Af q;have ag:(n:Int)<=(es.length:Int):=by omega
 have ah:(n:Int)<=(a:Int):=by omega
 have ai:(0:Int)<=(n:Int):=by omega
 have u:Hid ((es.take n).length=n):=Af (by rw[EH];omega);go_in;go_upto_region 1 with fail;generalize (w.alloc (K #[C e os.length g,C b es.length a] AI)).alloc (K #[C O 0 0,C O 0 0] AI)=X at M i S|-;let⟨v,x⟩:=i.o.c2;have Y:=i.o.frozen 1;have d:=i.o.lt;go_upto_region 2 with fail;have Z:(max (0:Int) (min (n:Int) (es.length:Int))).toNat=n:=by omega
 rw[Z];have j:=Af<|M.o.setCell (p:=⟨w.heap.size,1,O⟩) (Aa _) (C b n a);have aa:Hid (Ah (X.setCell ⟨w.heap.size,1,O⟩ (C b n a)) w AI #[C e os.length g,C b n a]):=Af (by simpa using i.o.put 1 (C b n a));have m:=Af<|S.o.far (p:=⟨w.heap.size,1,O⟩) (by simp) (C b n a);generalize X.setCell ⟨w.heap.size,1,O⟩ (C b n a)=aj at j aa m|-;have ab:=Af<|F7 (ad.o.below j) (ae.o.below j) W.o.1 (by have:=W.o;have:=u.o;have:=af.o;omega);let⟨v,x⟩:=aa.o.c2;go_wp2_with fail;refine ab.o.mono ?_;rintro D an ⟨r,t,rfl,y,z⟩;have ak:=Af y;have k:=y;unfold Hy at k;rw[u.o] at k;have al:=Af<|j.o.trans (z.mono j.o.size);have l:=Af<|m.o.below z m.o.lt;have am:=Af (show w.heap.size+1<aj.heap.size from m.o.lt);obtain⟨ao,k1,rfl⟩:=Ag k.1;obtain⟨ap,k2,rfl⟩:=Ag k.2;obtain⟨aq,Y⟩:_/\_:=⟨l.o.frozen 0,l.o.frozen 1⟩;let⟨ar,au⟩:=l.o.c2;have av:=l.o.lt;go_wp2_with fail;refine Ao (KD _ rfl rfl _ _ (w+1) _ _ rfl (Bs l)) rfl ?_;exact⟨_,_,rfl,ak.o.end am _ _,(al.o.setCell (p:=(w+1:Nat)) (Ax _) _).setCell (p:=⟨w.heap.size+1,1,O⟩) (Ax _) _⟩
theorem PI(l:List Ev)(e:Ev):(l++[e]).flatMap BO=l.flatMap BO++BO e:=by simp
theorem TU{w:U}{vl:N}{es:List Ev}(q:Ba 8 BO w vl es)(z:es.length<=1000):
 Calls prog 9 #[vl] w λd A=>∃B,d=R B/\A.ownsRow w AJ 8 B es.length (es.flatMap BO)/\Below w w A:=by
 let⟨D,F,G,L,M⟩:=A1 GJ;obtain⟨ar,au,rfl⟩:=q.shape;have ab:=Af q;have o:=Af z
 have ac:∀j:U,(Fw 23 () (es.length:Int)).run prog j=.ok (C (E ⟨j.heap.size,0,O⟩) 0 es.length) (j.alloc (Xd es.length)):=λj=>by
  have h:=run_make (P:=prog) j 23 AJ D _ underlying23 F G .i64 .i64 0 es.length (HO _) (by omega) (by rw[M];omega) (by omega);simpa[L] using h
 have r:=Af<|HD (base:=w.heap.size) (e:=AJ) (size:=8) w _ es.length (Aa _) (by unfold Al;omega) (by simp[Gz,F2]:(A2 (Gf #[(),(),(),(),(),(),(),()]).cells (es.length*8)).size=es.length*8);have u:=Af<|Zc w (Xd es.length);have av:(es.length:Int)<=1000:=by omega
 go_in;go_upto_region 3 with fail;generalize w.alloc (Xd es.length)=aw at r u|-
 go_loopw [4,3] (λv ad wr=>∃a,v=((a:Nat):Int)/\a<=es.length/\wr.ownsRow w AJ 8 ad (es.take a).length ((es.take a).flatMap BO)/\Below w w wr) (λv _ _=>1001-(intOf v).toNat)
 case atStart=>exact⟨0,rfl,A9 _,by simpa using r.o,u⟩
 case round=>
  obtain⟨a,rfl,S,k,p⟩:=hrel;rw[EH,HT S] at k;obtain⟨ax,ay,rfl⟩:=Ag k;have x:=Af k;have l:=Af p;by_cases g:a<es.length
  .obtain⟨e,i⟩:∃e,es[a]?=E e:=⟨es[a],An g⟩;obtain⟨W,X,rfl,_,az,y⟩:=ab.o.at i;have b:∀(d:Nat) (m:N),(BO e)[d]?=E m->d<8->wr.cell? ⟨W,X+a*8+d,O⟩=E m:=λd m h Y=>(p.cell (Ad w _ (y d m h Y))).trans (y d m h Y);have ae:wr.cell? ⟨W,X+a*8,O⟩=_:=b 0 _ rfl (by omega);have af:=b 1 _ rfl (by omega);have ag:=b 2 _ rfl (by omega);have ah:=b 3 _ rfl (by omega);have ai:=b 4 _ rfl (by omega);have aj:=b 5 _ rfl (by omega);have ak:=b 6 _ rfl (by omega);have al:=b 7 _ rfl (by omega);have am:Hid (es.take (a+1)=es.take a++[e]):=Af (by rw[List.take_succ_eq_append_getElem g];rw[An g] at i;injection i with i;rw[i]);have a0:(0:Int)<=(a:Int):=by omega
   have a1:(a:Int)<(es.length:Int):=by omega
   have n:=Af g;go_wp2_with (at_builtin;refine B9 _ rfl (.tmp 14) (.tmp 19) 23 rfl w AJ D (.agg #[(),(),(),(),(),(),(),()]) 8 64 underlying23 F G L M rfl (by decide) _ _ _ rfl (x.o.alloc _) _ 1 1 (BO e) rfl rfl (Ee (cs:=Aj e) (t:=AJ) (fr:=(0,0)) (D4 _ _)) (by have h:=DG [e];simpa using h) (by have:=o.o;have:=n.o;unfold Al;omega) (by have:=o.o;have:=n.o;omega) (by have:=l.o.size;simp;omega) ?_;intro a2 a3 Z aa _ an);have ao:=Af Z;have ap:=Af<|(l.o.alloc l.o.size (K (Aj e) AJ)).grown aa (by have:=l.o.size;simp;omega) (λa4 aq=>(Ai x aq).1);go_wp2
   go_roundw
   case rel=>exact⟨a+1,by have:=o.o;have:=n.o;go_num,n,by have h:=ao.o;rw[am.o,Ef,EH,HT S,PI];exact h,ap⟩
   case measure=>simp[intOf];have:=n.o;have:=o.o;omega
  .obtain rfl:a=es.length:=by omega
   have a5:decide (es.length<es.length)=false:=by simp
   go_wp2;go_ret;exact⟨_,rfl,by have h:=x.o;rwa [Ex] at h,l⟩
section
attribute [local go_sem] Oper.semAt_some
theorem JK(m':Nat){P:Program}{l:Nat}{args:Array N}{W:U}{R:Ending->U->Prop}(h:YieldAt Ed m P l args W R):YieldAt Ed m' P l args W R:=by
 obtain⟨fn,b,assign,body,d,a⟩:=h;exact⟨fn,b,assign,body,d,a.1,λc e _=>a.2 c e (λg h=>by cases h)⟩
def Aaq{d:Type}(P:Program)(g:Nat)(lb:Array N)(p:d->Array N)(q:d->U->Prop)(Kp:U->U->Prop)(S r:List d->Prop)(N:Nat)(w0:U):Prop:=
 ∀(n:Nat) (i m:List d->U->Prop) (e:U),Below w0 w0 e->OwnFrom e i->OwnFrom e m->
  (∀(a:List d) (k:d) (j:U),i a j->q k j->a.length<N->YieldAt Ed 6 P n (p k) j λl b=>
   E0 e j b/\((l=true/\i (a++[k]) b/\Kp j b)∨(l=false/\m (a++[k]) b)))->
  i [] e->Calls P g (#[.func (.yield n) #[] #[]]++lb) e λl b=>(∃t,l=R t)/\((∃o,S o/\i o b)∨∃a,r a/\m a b)
theorem KZ{B:Nat}{W W':U}(h:E0 B W W')(a:B<=n):E0 n W W':=⟨h.size,λb d e g i=>h.same b d (A8 a e) g i⟩
theorem PJ{B l:Nat}(W:U)(o:Obj)(a:l<B):E0 B W (W.putObj l o):=RB (GX W l o) (λd b=>by cases b;exact a)
theorem Bz{W W':U}(h:Below W W W'):E0 n W W':=⟨h.size,λb _ _ a _=>(h.block b (ET.1 a).1).trans a⟩
theorem Nz{P:Program}{q:Type}{g:Operand}{ps:Array Tmp}{assign body:Code}{am:Exit->Act->U->Prop}{a:Act}{w:U}{gf:Nat}{lb:Array N}(an:a.eval g=.func (.func gf) #[] lb)
 (az:∀args w,(EB gf args).run P w=.ok (.enter gf args) w) {ag:q->Array N} {ab:q->U->Prop} {Kp:U->U->Prop} {S ar:List q->Prop} {N:Nat} {w0:U} (a0:Aaq P gf lb ag ab Kp S ar N w0)
 (ao:∀ {A B C:U},Kp A B->Kp B C->Kp A C) (au:∀(W:U) (o o':Obj),W.heap[w.heap.size+1]?=o->o.isCells=false->Kp W (W.putObj (w+1) o')) (av:Below w0 w0 w) (a1:∀x,(ag x).size=ps.size)
 (a2:∀x,OwnFrom w (λ(_:Unit) W=>ab x W))
 (F:List q->U->Prop) (ah:Code->List q->U->Prop) (Y:OwnFrom w F) (ac:∀c,OwnFrom w (ah c)) (a3:F [] w) (ap:q->Act->U->Prop) (a4:∀x a',OwnFrom w (λ(_:Unit) W=>ap x a' W))
 (a5:∀(l:Nat) (d:List q) (x:q) (W:U) (K:Act->U->Prop),F d W->ab x W->(∀a' W',E0 w W W'->Kp W W'->F d W'->ab x W'->ap x a' W'->K a' W')->
  assign.wpIn (Fence.wide.inRound l) 6 P (Exit.then K (λ_ _ _=>False)) {tmps:=(ps.zip (ag x)).foldl (λt (p,v)=>t.setIfInBounds p v) a.tmps,defers:=[]} W)
 (a6:∀(l:Nat) (d:List q) (x:q) (a':Act) (W:U),w.heap.size<=l->F d W->ab x W->ap x a' W->d.length<N->body.wpIn (Fence.wide.inRound l) 6 P (ownPostG w Kp F ah (d++[x]) W) a' W)
 (a7:∀(D:Nat) (xs:List q) (W:U),w.heap.size<=D->S xs->F xs W->W.heap[D]?=E (.deferred (E []))->am .normal {a with defers:={target:=.collected D,args:= #[]}::a.defers} W)
 (a8:∀(D:Nat) (c:Code) (d:List q) (W:U),w.heap.size<=D->ar d->ah c d W->W.heap[D]?=E (.deferred (E []))->c.wpIn Ed 8 P am {a with defers:={target:=.collected D,args:= #[]}::a.defers} W):
 (Code.rangeFunc g ps assign body).wpIn Ed 8 P am a w:=by
 refine wpIn_rangeFunc λfn a9=>?_;obtain⟨e,G⟩:∃e:LoopState->Option Code->Loop,e=λba bb=>{state:=ba,pending:=bb,fn,tmps:=a.tmps,params:=ps,assign,body,defers:=w.heap.size}:=⟨_,rfl⟩;obtain⟨j,Z⟩:∃j,(w.alloc (.deferred (E []))).alloc (.loop (e .ready O))=j:=⟨_,rfl⟩;have bt:j.heap.size=w.heap.size+2:=by rw[<-Z];simp
 have bc:j.heap[w.heap.size+1]?=E (.loop (e .ready O)):=by
  rw[<-Z];have:=R6 (w.alloc (.deferred (E []))) (.loop (e .ready O));rwa [Eb] at this
 have bd:j.heap[w.heap.size]?=E (.deferred (E [])):=by
  rw[<-Z];exact(ER _ _ _ (by simp)).trans (R6 w _)
 have be:F [] j:=by rw[<-Z];exact Y.alloc _ (Y.alloc _ a3)
 have bf:Below w0 w0 j:=by
  rw[<-Z];exact av.trans ((((Ae _ w).alloc (Aa _) _).alloc (by simp) _).mono av.size)
 have ai:∀ {A B:U} {y:Option Nat},A.grownBy B y->(∀m,y=E m->j.heap.size<=m/\∃o:Obj,A.heap[m]?=o/\o.isCells=false)->∀ {aa:Nat} {o:Obj},aa<j.heap.size->A.heap[aa]?=o->B.heap[aa]?=o:=
  λ{A B y} an b {aa o} z aw=>(an.block aa (ET.1 aw).1 (λL=>by have:=(b aa L.symm).1;omega)).trans aw
 have ax:∀ {A:U} {y:Option Nat},(∀m,y=E m->j.heap.size<=m/\∃o:Obj,A.heap[m]?=o/\o.isCells=false)->∀m,y=E m->w.heap.size<=m/\∃o:Obj,A.heap[m]?=o/\o.isCells=false:=
  λb m L=>⟨by have:=(b m L).1;omega,(b m L).2⟩
 refine⟨w.heap.size+1,[{target:=.collected w,args:= #[]}],j,{target:=.fn (.func gf) lb,args:= #[.func (.yield (w+1)) #[] #[]]},j,gf,
  #[.func (.yield (w+1)) #[] #[]]++lb,j,?_,?_,?_,?_,(λ_=>by omega),?_⟩
 .rw[<-Z,G];exact run_enterLoop_outer _ _ _ _ _
 .simp only[resolve,an];simp[go_sem]
 .intro bu _;trivial
 .simp[invoke,go_sem,az]
 .refine(Dh.2 (a0 (w+1)
   (λd W=>F d W/\W.heap[w.heap.size+1]?=E (.loop (e .ready O))/\W.heap[w.heap.size]?=E (.deferred (E [])))
   (λd W=>∃c,ah c d W/\W.heap[w.heap.size+1]?=E (.loop (e .done (E c)))/\W.heap[w.heap.size]?=E (.deferred (E [])))
   j bf
   (λs A B y ad M b=>⟨Y s A B y ad.1 M (ax b),ai M b (by omega) ad.2.1,ai M b (by omega) ad.2.2⟩)
   (λs A B y ad M b=>by
    obtain⟨c,bg,i,z⟩:=ad;exact⟨c,ac c s A B y bg M (ax b),ai M b (by omega) i,ai M b (by omega) z⟩)
   ?_ ⟨be,bc,bd⟩)).mono ?_
  .rintro d x W ⟨ae,i,z⟩ hrel bh;have ay:=run_yield (P:=P) (args:=ag x) i (by rw[G];exact a1 x);rw[G] at ay;refine⟨fn,_,assign,body,ay,roundIn_of_wpIn a9 (a5 _ d x W _ ae hrel ?_)⟩;intro a' aj aq bi bj bk bl;have i:=aq.same _ _ (by omega) i rfl;have z:=aq.same _ _ (Aa _) z rfl;have bm:=(ET.1 i).1;refine⟨_,run_beginRound i (by rw[G]),?_⟩;have bn:(aj.putObj (w+1) (.loop {e .ready O with state:=.busy})).heap[w.heap.size+1]?=E (.loop {e .ready O with state:=.busy}):=So bm;have bo:(aj.putObj (w+1) (.loop {e .ready O with state:=.busy})).heap[w.heap.size]?=E (.deferred (E [])):=(H7 (by omega)).trans z;refine wpIn_mono (a6 _ d x a' _ (by omega) (Y.putObj _ bj (by omega) i rfl) ((a2 x).putObj (s:=()) _ bk (by omega) i rfl) ((a4 x a').putObj (s:=()) _ bl (by omega) i rfl) bh) ?_
   have ak:∀ {k:U} {o:Obj},E0 w (aj.putObj (w+1) (.loop {e .ready O with state:=.busy})) k->E0 j W (k.putObj (w+1) o):=λh=>
    ((KZ aq (by omega)).trans (PJ _ _ (by omega))).trans ((KZ h (by omega)).trans (PJ _ _ (by omega)))
   have al:∀(r:Option Code) (k:U),E0 w (aj.putObj (w+1) (.loop {e .ready O with state:=.busy})) k->
    k.heap[w.heap.size+1]?=E (.loop {e .ready O with state:=.busy})/\
    (Instr.endRound (w+1) r).run P k=.ok r.isNone (k.putObj (w+1) (.loop (e (if r.isNone then .ready else .done) r)))/\
    (k.putObj (w+1) (.loop (e (if r.isNone then .ready else .done) r))).heap[w.heap.size+1]?=E (.loop (e (if r.isNone then .ready else .done) r))/\
    (k.putObj (w+1) (.loop (e (if r.isNone then .ready else .done) r))).heap[w.heap.size]?=E (.deferred (E [])):=λr k af=>by
    have n:=af.same _ _ (by omega) bn rfl;have b:=run_endRound (P:=P) r n;rw[G] at b n|-;exact⟨n,b,So (ET.1 n).1,(H7 (by omega)).trans (af.same _ _ (Aa _) bo rfl)⟩
   rintro L bv k u
   cases L with
   |normal=>
    obtain⟨af,bp,bq⟩:=u;let⟨n,b,X⟩:=al O k af;exact⟨_,_,b,ak af,.inl ⟨rfl,⟨Y.putObj _ bq (by omega) n rfl,X⟩,ao bi (ao (ao (au _ _ _ i rfl) bp) (au _ _ _ n rfl))⟩⟩
   |ret=>
    let⟨n,b,X⟩:=al (E .ret) k u.1;exact⟨_,_,b,ak u.1,.inr ⟨rfl,.ret,(ac _).putObj _ u.2 (by omega) n rfl,X⟩⟩
   |exit id=>
    let⟨n,b,X⟩:=al (E (.exit id)) k u.1;exact⟨_,_,b,ak u.1,.inr ⟨rfl,.exit id,(ac _).putObj _ u.2 (by omega) n rfl,X⟩⟩
   |goto t=>
    let⟨n,b,X⟩:=al (E (.goto t)) k u.1;exact⟨_,_,b,ak u.1,.inr ⟨rfl,.goto t,(ac _).putObj _ u.2 (by omega) n rfl,X⟩⟩
   |panic bw=>exact u.elim
   |outgrown=>exact u.elim
  .rintro L bz ⟨⟨v,rfl⟩,(⟨xs,br,ae,i,z⟩|⟨d,bs,c,ae,i,z⟩)⟩
   .exact⟨O,_,by have:=run_endLoop (P:=P) i (by rw[G];simp);rw[G] at this;exact this,a7 _ xs _ (Aa _) br (Y.putObj _ ae (by omega) i rfl) ((H7 (by omega)).trans z)⟩
   .exact⟨E c,_,by have:=run_endLoop (P:=P) i (by rw[G];simp);rw[G] at this;exact this,a8 _ c d _ (Aa _) bs ((ac c).putObj _ ae (by omega) i rfl) ((H7 (by omega)).trans z)⟩
end
section
attribute [local go_sem] Oper.semAt_some
def BG(w w':U):Prop:=AD AI w w'/\AD Di w w'/\AD AJ w w'
theorem BG.below{w w':U}(a:Below w w w'):BG w w':=⟨.below a,.below a,.below a⟩
theorem Du.kept{w w':U}{t:Ab}(h:Du w b t)(g:AD t w w'):Du w' b t:=by
 obtain⟨a,d,e⟩:=h;exact⟨a,d,(g b ⟨a,d,e⟩).trans e⟩
theorem AD.trans{t:Ab}{A B C:U}(h:AD t A B)(k:AD t B C):AD t A C:=λa b=>(k a (b.kept h)).trans (h a b)
theorem AD.put{t:Ab}{W:U}{l:Nat}{o o':Obj}(b:W.heap[l]?=o)(d:o.isCells=false):AD t W (W.putObj l o'):=λg e=>H7 (by
 rintro rfl;obtain⟨i,j,a⟩:=e;rw[b] at a;injection a with a;subst a
 cases d)
theorem BG.trans{A B C:U}(h:BG A B)(k:BG B C):BG A C:=⟨h.1.trans k.1,h.2.1.trans k.2.1,h.2.2.trans k.2.2⟩
theorem BG.put(W:U)(l:Nat)(o o':Obj)(a:W.heap[l]?=o)(b:o.isCells=false):BG W (W.putObj l o'):=⟨.put a b,.put a b,.put a b⟩
def Gn(os:List Ob)(es:List Ev)(b:Nat)(W:U):Prop:=∃a d,Ah W b AI #[a,d]/\Cc Di 2 CL W a os/\Cc AJ 8 BO W d es
theorem Gn.kept{os:List Ob}{es:List Ev}{W W':U}(h:Gn os es b W)(k:BG W W'):Gn os es b W':=by
 obtain⟨d,e,a,g,i⟩:=h;exact⟨d,e,(k.1 b ⟨_,_,a⟩).trans a,g.of_ty k.2.1,i.of_ty k.2.2⟩
theorem Hy.typed{B:Nat}{w:U}{vo vl:N}{os:List Ob}{es:List Ev}(h:Hy B w vo vl os es):Cc Di 2 CL w vo os/\Cc AJ 8 BO w vl es:=⟨Cc.of_row h.1 (λ_=>rfl) rfl,Cc.of_row h.2 (λ_=>rfl) rfl⟩
theorem JL{w:U}{vo vl:N}{os:List Ob}{es:List Ev}(i:Ba 2 CL w vo os)(j:Ba 8 BO w vl es)(D:os.length<=1000)(F:es.length<=1000):
 Calls prog 27 #[.agg #[vo,vl]] w λu v=>∃k,u=R (.func (.func 60) #[] #[Q (E ⟨k,0,O⟩)])/\Gn os es k v/\w.heap.size<=k/\Below w w v:=by
 obtain⟨l,m,rfl⟩:=i.shape;obtain⟨n,o,rfl⟩:=j.shape;have a:=Af<|Ah.new w AI #[C l os.length m,C n es.length o];have b:=Af<|Zc w (K #[C l os.length m,C n es.length o] AI);have q:=Af<|F7 (i.below b) (j.below b) D F;go_in;go_upto_region 1 with fail;generalize w.alloc (K #[C l os.length m,C n es.length o] AI)=G at a b q|-;let⟨L,M⟩:=a.o.c2;go_wp2_with fail;refine q.o.mono ?_;rintro u S ⟨Y,Z,rfl,e,r⟩;have g:=Af e;have W:=Af<|b.o.trans (r.mono b.o.size);have d:=Af<|a.o.below r a.o.lt;have x:=Af a.o.lt;obtain⟨y,k1,rfl⟩:=Ag e.1;obtain⟨z,k2,rfl⟩:=Ag e.2;obtain⟨aa,ab⟩:_/\_:=⟨d.o.frozen 0,d.o.frozen 1⟩;let⟨ac,ad⟩:=d.o.c2;have ae:=d.o.lt;go_wp2;go_ret;have A:(Ar y os.length k1).ownBlock≠E w.heap.size:=λt=>by have:=(Ai g.o.1 t).1;have:=x.o;omega
 have B:(Ar z es.length k2).ownBlock≠E w.heap.size:=λt=>by have:=(Ai g.o.2 t).1;have:=x.o;omega
 have X:Hy G ((S.setCell w (C y os.length k1)).setCell ⟨w.heap.size,1,O⟩ (C z es.length k2)) _ _ os es:=⟨Ak (Ak g.o.1 (p:=w) A _) (p:=⟨w.heap.size,1,O⟩) A _,Ak (Ak g.o.2 (p:=w) B _) (p:=⟨w.heap.size,1,O⟩) B _⟩;exact⟨_,rfl,⟨_,_,Bs d,X.typed⟩,Aa _,(W.o.setCell (p:=w) (Aa _) _).setCell (p:=⟨w.heap.size,1,O⟩) (Aa _) _⟩
structure NA where
 n:Nat
 vo:N
 vl:N
def NA.enc(x:NA):Array N:= #[(x.n:Int),.agg #[x.vo,x.vl]]
def NA.Rel(os:List Ob)(es:List Ev)(x:NA)(W:U):Prop:=x.n<=es.length/\Ba 2 CL W x.vo os/\Ba 8 BO W x.vl (es.take x.n)
def PK(k:Nat)(ys:List NA):Prop:=ys.map NA.n=EZ k
theorem MJ{ys:List NA}(h:PK k ys)(x:NA)(a:x.n=k):PK (k+1) (ys++[x]):=by
 unfold PK at*;rw[H0,h,HU,<-a];rfl
theorem TV(y b:Nat){os:List Ob}{es:List Ev}(z:os.length<=1000)(A:es.length<=1000)(k B:List NA->U->Prop)(W:U)(D:OwnFrom W.heap.size k)
 (F:∀(i:List NA) (l:NA) (W:U),k i W->l.Rel os es W->i.length<es.length+1->YieldAt Ed 6 prog y l.enc W λe W'=>
  (e=R (T true)/\k (i++[l]) W'/\BG W W')∨(e=R (T false)/\B (i++[l]) W'))
 (G:Gn os es b W) (L:k [] W):
 CallsIn Ed 7 prog 60 #[.func (.yield y) #[] #[],Q (E ⟨b,0,O⟩)] W λe W'=>(∃ak,e=R ak)/\
  ((∃d,PK (es.length+1) d/\k d W')∨(∃i,(∃a,a<es.length+1/\PK (a+1) i)/\B i W')):=by
 have al:=Af D;have am:=Af F;have M:=Af L;have S:=Af G;have m:=Af<|And.intro z A;refine callsIn_of_wp func60 rfl trivial ?_ rfl;simp only[ntmps60,EQ,C4,Em,Nat.reduceAdd,Nat.reduceSub,Fy,Fz,FE,FV,Es,Ez];gi_wp2_with fail
 gi_loopw [3] (λo wr=>∃(a:Nat) (d:List NA),a<=es.length+1/\o=I J a/\PK a d/\k d wr/\Gn os es b wr)
  (λo _=>es.length+2-(intOf o).toNat)
 case atStart=>exact⟨0,[],A9 _,rfl,rfl,M.o,S.o⟩
 case round=>
  obtain⟨a,d,p,rfl,q,X,⟨a0,a1,r,t,u⟩⟩:=hrel;have Y:=Af X;have v:=Af q;have Z:d.length=a:=by have an:=congrArg Fu q;simpa using an
  have ao:=Af Z;have ap:=Af r;have aa:=Af t;have ab:=Af u;obtain⟨a2,a3,rfl⟩:=t.shape;obtain⟨a4,a5,rfl⟩:=u.shape;obtain⟨aq,ar⟩:=r.c2;by_cases ac:a<=es.length
  .have ad:=Af<|Q7 aa.o.1 ab.o.1 m.o.1 m.o.2 ac;have g:=Af ac;gi_wp2_with fail;refine⟨trivial,?_⟩;refine(Dh.2 ad.o).mono ?_;rintro au a6 ⟨av,aw,rfl,n,j⟩;have ax:=Af j;have ae:=al.o _ _ _ O Y.o ⟨j.os,j.tape,j.output,j.size,λa p _=>j.block a p⟩ (λau e=>by cases e);obtain⟨fn,a7,assign,body,af,ag⟩:=JK 6<|am.o d ⟨a,av,aw⟩ _ ae ⟨g.o,n.reads⟩ (by rw[ao.o];have:=g.o;omega);have ay:=Af ag;unfold NA.enc at af;simp only at af;obtain⟨a8,k1,rfl⟩:=Ag n.1;have w:=n.2;rw[show(es.take a).length=a by rw[EH];have:=g.o;omega] at w;obtain⟨a9,k2,rfl⟩:=Ag w;gi_wp2_with fail;refine ay.o.mono ?_;rintro e ba (⟨rfl,ah,ai⟩|⟨rfl,aj⟩)
   .have x:=Af ah;have az:=Af<|(BG.below ax.o).trans ai;have bb:(0:Int)<=(a:Int):=by omega
    have bc:(a:Int)<=1000:=by have:=g.o;have:=m.o;omega
    gi_wp2_with fail
    go_roundw
    case rel=>exact⟨a+1,_,by have:=g.o;omega,by have:=g.o;have:=m.o;go_num,MJ v.o _ rfl,x.o,Gn.kept ⟨_,_,ap.o,aa.o,ab.o⟩ az.o⟩
    case measure=>simp[intOf];have:=g.o;omega
   .have x:=Af aj;gi_wp2_with fail;refine Ao (results_none rfl _ _ _) rfl ?_;exact⟨⟨_,rfl⟩,.inr ⟨_,⟨a,by have:=g.o;omega,MJ v.o _ rfl⟩,x.o⟩⟩
  .obtain rfl:a=es.length+1:=by omega
   gi_wp2_with fail
   go_end0
   exact⟨⟨_,rfl⟩,.inl ⟨_,v.o,Y.o⟩⟩
theorem JM(b:Nat){os:List Ob}{es:List Ev}(e:os.length<=1000)(g:es.length<=1000)(w:U)(i:Gn os es b w):
 Aaq prog 60 #[b] NA.enc (NA.Rel os es) BG (PK (es.length+1)) (λa=>∃d,d<es.length+1/\PK (d+1) a) (es.length+1) w:=λj k l m n o _ p q=>
 Dh.1 (TV j b e g k l m o (λa r t u v x=>(p a r t u v x).mono λ_ _ h=>h.2) (i.kept (BG.below n)) q)
end
section
attribute [local go_sem] Oper.semAt_some
abbrev tYd:Ab:=232
def CW(m:Nat)(W W':U):Prop:=BG W W'/\AD Cv W W'/\AD tYd W W'/\Below m W W'
theorem CW.trans{A B C:U}(h:CW m A B)(k:CW m B C):CW m A C:=⟨h.1.trans k.1,h.2.1.trans k.2.1,h.2.2.1.trans k.2.2.1,h.2.2.2.trans k.2.2.2⟩
theorem CW.below{W W':U}(h:Below W W W')(a:m<=W.heap.size):CW m W W':=⟨.below h,.below h,.below h,h.mono a⟩
theorem MK{g:Type}{B:Nat}{a:g->U->Prop}(h:OwnFrom B a)(i:B<=n):OwnFrom n a:=λs j k l m o b=>h s j k l m o (λd e=>⟨A8 i (b d e).1,(b d e).2⟩)
theorem Ah.kept{W W':U}{t:Ab}{cs:Array N}(h:Ah W b t cs)(k:AD t W W'):Ah W' b t cs:=(k b ⟨_,_,h⟩).trans h
def LF(os:List Ob)(es:List Ev)(most:Nat)(b:Nat->Bool×List CE×Nat):Prop:=∀a,a<=es.length->∃txs,Bn os (es.take a)/\AR (es.take a)=E txs/\txs.length<=12/\(BF os txs 3).search most=E (b a)
theorem Q4.yes{w w':U}{os:List Ob}{es:List Ev}{level:Int}{most:Nat}{r:Ending}{txs:List St}{y:Bool}{s:List CE}{p:Nat}(h:Q4 w os es level most r w')(j:Bn os es)(e:AR es=txs)(o:txs.length<=12)(i:(BF os txs level).search most=E (y,s,p)):
 (∃d,r=R (.tuple #[.agg #[y,d,((p:Nat):Int)],.nilIface])/\Cc BW 2 Q3 w' d s)/\Below w w w':=by
 obtain⟨k,(⟨q,_,b,_,(⟨t,u,v,d,a,l,m⟩|⟨a,_⟩)⟩|⟨h,_⟩)⟩:=h
 .rw[e] at b;injection b with b;subst b;rw[i] at a;injection a with a;injection a with a g;injection g with g n;subst a g n;exact⟨⟨d,l,Cc.of_row m (λ_=>rfl) rfl⟩,k⟩
 .rw[e] at b;injection b with b;subst b;rw[i] at a
  cases a
 .have:=h txs j e;omega
theorem Hf{w:U}{v:N}{es:List Ev}(h:Ba 8 BO w v (es.take n))(b:n<=es.length):∃a c,v=C a n c:=by
 let⟨a,c,d⟩:=h.shape;exact⟨a,c,by rw[d,EH,HT b]⟩
structure LG where
 n:Nat
 v:N
def LG.enc(a:Nat->Bool×List CE×Nat)(x:LG):Array N:= #[(x.n:Int),.agg #[T (a x.n).1,x.v,(((a x.n).2.2:Nat):Int),.nilIface]]
def LG.Rel(a:Nat->Bool×List CE×Nat)(N:Nat)(x:LG)(W:U):Prop:=x.n<=N/\Cc BW 2 Q3 W x.v (a x.n).2.1
theorem KL{a:Fence}{P:Program}{l:Nat}{f:FuncId}{tmps:Array N}{assign body:Code}{w:U}{R:Ending->U->Prop}(l':Nat)(h:RoundIn a n P l f tmps assign body w R):RoundIn (a.inRound l') n P l f tmps assign body w R:=h
def Xe(k:Nat)(ys:List LG):Prop:=ys.map LG.n=EZ k
theorem Xf{w:U}{vo vl:N}{os:List Ob}{es:List Ev}{most:Nat}(b:Cc Di 2 CL w vo os)(d:Cc AJ 8 BO w vl es):
 Calls prog 50 #[.agg #[vo,vl],(most:Int)] w λm e=>∃l c,m=R (.func (.func 91) #[] #[Q (E ⟨l,0,O⟩),Q (E ⟨c,0,O⟩)])/\Gn os es l e/\Ah e c Cv #[(most:Int)]/\Below w w e:=by
 obtain⟨g,i,rfl⟩:=b.shape;obtain⟨j,k,rfl⟩:=d.shape;have a:=AG w (K #[C g os.length i,C j es.length k] AI)<|K #[(most:Int)] Cv;have n:=Af (show Gn os es w _ from⟨_,_,(Ah.new w AI #[C g os.length i,C j es.length k]).alloc (K #[(most:Int)] Cv),b.below a,d.below a⟩);have o:=Af<|Bo w (K #[C g os.length i,C j es.length k] AI) Cv #[(most:Int)];have p:=Af a;go_in;go_wp2;go_ret;exact⟨_,_,rfl,n,o,p⟩
theorem AeB(u b c:Nat){w0 W:U}{os:List Ob}{es:List Ev}{most:Nat}{q:Nat->Bool×List CE×Nat}(a7:AE w0)(a8:∀ac∈os,ac.kind<=9223372036854775807)(a9:∀e∈es,AU e.kind/\e.ret<=9223372036854775807)(n:os.length<=1000)(r:es.length<=1000)(ce:1<=most/\most<=150)(hF:LF os es most q)
 (G Y:List LG->U->Prop) (ba:Below w0 w0 W) (ad:OwnFrom W G) (bb:OwnFrom W Y)
 (bc:∀(d:List LG) (k:LG) (L:U),G d L->k.Rel q es.length L->d.length<es.length+1->YieldAt Ed 6 prog u (k.enc q) L λe W'=>
  E0 W L W'/\((e=true/\G (d++[k]) W'/\CW w0 L W')∨(e=false/\Y (d++[k]) W')))
 (bd:Gn os es b W) (be:Ah W c Cv #[(most:Int)]) (bf:G [] W):
 Calls prog 91 #[.func (.yield u) #[] #[],b,c] W λe W'=>(∃bg,e=R bg)/\
  ((∃a,Xe (es.length+1) a/\G a W')∨(∃d,(∃v,v<es.length+1/\Xe (v+1) d)/\Y d W')):=by
 have ae:=Zc W<|H #[.func (.yield u) #[] #[]] tYd;have bh:=Af ae;have bi:=Af<|ad.alloc (H #[.func (.yield u) #[] #[]] tYd) bf;have af:=Af<|Ah.new W tYd #[.func (.yield u) #[] #[]];have ag:=Af<|be.alloc (H #[.func (.yield u) #[] #[]] tYd);let⟨da,db,bj,ah,ai⟩:=bd.kept<|BG.below ae;obtain⟨cf,cg,rfl⟩:=ah.shape;obtain⟨ch,ci,rfl⟩:=ai.shape;let⟨cj,ck⟩:=bj.c2;have bk:=Af<|JL ah.1 ai.1 n r;have M:=Af ad;have bl:=Af bb;have cl:=Af bc;have cn:=Af a7;have aj:=Af ba;have co:=Af a8;have cp:=Af a9;have cq:=Af hF;have bm:=Af<|And.intro n r;refine(Dh (n:=8)).1<|callsIn_of_wp_marks func91 rfl trivial ?_ rfl;simp only[ntmps91,EQ,C4,Em,Nat.reduceAdd,Nat.reduceSub,Fy,Fz,FE,FV,Es,Ez];gi_wp2_with fail;refine⟨trivial,?_⟩;refine(Dh.2 bk).mono ?_;rintro w bn ⟨ak,rfl,bo,cr,t⟩;have bp:=M.o _ _ _ O bi ⟨t.os,t.tape,t.output,t.size,λv S _=>t.block v S⟩ (λw e=>by cases e);have cs:=Af bp;have ct:=Af bo;have cu:=Af<|ag.o.below t ag.o.lt;have cv:=Af<|af.o.below t af.o.lt;have bq:=Af<|bh.o.trans (t.mono bh.o.size);gi_wp2_with fail;have x:W.heap.size<=bn.heap.size:=bq.o.size;have br:=Af x
 apply Nz (gf:=60) (lb:= #[ak]) rfl (Eg func60 (by kernel_rfl) rfl)
  (JM ak bm.o.1 bm.o.2 bn ct) BG.trans (λW ac cw n r=>BG.put W _ ac cw n r) (Ae _ _) (λ_=>rfl)
  (λk s o al am h i p=>⟨h.1,h.2.1.of_cells λcx cy e=>cell_kept e i (λw e=>(p w e).2),h.2.2.of_cells λcx cy e=>cell_kept e i (λw e=>(p w e).2)⟩)
  (λd W'=>(∃a:List LG,a.map LG.n=d.map NA.n/\G a W')/\Ah W' c Cv #[(most:Int)]/\Ah W' W tYd #[.func (.yield u) #[] #[]]/\Below w0 w0 W')
  (λc d W'=>c=.ret/\∃a:List LG,a.map LG.n=d.map NA.n/\Y a W')
  (λd o al am h i p=>by
   obtain⟨⟨a,e,l⟩,n,r,B⟩:=h;exact⟨⟨a,e,(MK M x) _ _ _ _ l i p⟩,Bd i p _ _ _ n,Bd i p _ _ _ r,Cr B (A8 aj.o.size x) B.size i p⟩)
  (λ_ d o al am h i p=>by
   obtain⟨an,a,e,l⟩:=h;exact⟨an,a,e,(MK bl x) _ _ _ _ l i p⟩)
  ⟨⟨[],rfl,cs⟩,cu,cv,aj.o.trans (bq.o.mono aj.o.size)⟩
  (λk ao W'=>∃X,Ah W' X AI #[k.vo,k.vl]/\ao={tmps:= #[.func (.yield u) #[] #[],b,c,W,(k.n:Int),Q (E ⟨X,0,O⟩),Ac,Ac,.agg #[C cf os.length cg,C ch es.length ci],.func (.func 60) #[] #[ak],(k.n:Int),.agg #[k.vo,k.vl],Ac,Ac,Ac,Ac,Ac,Ac,Ac,Ac,Ac,Ac,Ac,Ac,Ac,Ac,Ac,Ac,Ac],defers:=[]})
  (λk ao s o al am h i p=>by
   obtain⟨X,n,B⟩:=h;exact⟨X,Bd i p _ _ _ n,B⟩)
  ?assign ?body ?done ?stop
 case assign=>
  rintro ap d ⟨g,aq,ar⟩ D K bs j z;obtain⟨bt,k1,rfl⟩:∃o c,aq=C o os.length c:=j.2.1.shape;obtain⟨bu,k2,rfl⟩:∃o c,ar=C o g c:=Hf j.2.2 j.1;have cz:=Af bs;have au:=Af j;have av:=Af z;unfold NA.enc;dsimp only;gi_wp2_with fail;have Z:=Zc D<|H #[C bt os.length k1,C bu g k2] AI;let⟨⟨a,e,l⟩,n,r,B⟩:=cz.o;exact av.o _ _ (Bz Z) (BG.below Z) ⟨⟨a,e,(MK M x).alloc _ l⟩,n.alloc _,r.alloc _,B.alloc B.size _⟩ ⟨au.o.1,au.o.2.1.below Z,au.o.2.2.below Z⟩ ⟨D.heap.size,Ah.new D AI _,rfl⟩
 case body=>
  rintro ap d ⟨g,aq,ar⟩ ao D dd ⟨⟨a,F,l⟩,aw,bv,ax⟩ j ⟨X,i,rfl⟩ c0;obtain⟨bt,k1,rfl⟩:∃o c,aq=C o os.length c:=j.2.1.shape;obtain⟨bu,k2,rfl⟩:∃o c,ar=C o g c:=Hf j.2.2 j.1;let⟨txs,bw,bz,b0,b1⟩:=cq.o g j.1;have b2:=Af<|(Q6 (level:=3) j.2.1 j.2.2 co (λe c1=>cp.o e (Im c1)) (cn.o.below ax) (by omega) ce).mono (λw de h=>Q4.yes (y:=(q g).1) (s:=(q g).2.1) (p:=(q g).2.2) h bw bz b0 b1);let⟨c2,c3⟩:=i.c2;have an:=aw.cell 0;have c4:=Af l;have c5:=Af aw;have ay:=Af bv;have b3:=Af ax;have c6:Hid (g<=es.length):=Af j.1;have b4:=Af F;have b5:a.length<es.length+1:=by have:=congrArg Fu F;simp at this;omega
  have c7:=Af b5;gi_wp2_with fail;refine⟨trivial,?_⟩;refine(Gg ap (Dh.2 b2)).mono ?_;rintro w df ⟨⟨bg,rfl,az⟩,a0⟩;obtain⟨b6,b7,rfl⟩:=az.shape;have A:=a0.alloc a0.size<|H #[T (q g).1,C b6 (q g).2.1.length b7,(((q g).2.2:Nat):Int)] JJ;have b8:=(MK M x) _ _ _ O c4 ⟨A.os,A.tape,A.output,A.size,λv S _=>A.block v S⟩ (λw e=>by cases e);let⟨fn,dc,assign,body,aa,b9⟩:=JK 5<|cl.o a ⟨g,C b6 (q g).2.1.length b7⟩ _ b8 ⟨c6,az.below ((Ae _ _).alloc (Aa _) _)⟩ c7;unfold LG.enc at aa;dsimp only at aa;have ca:=(ay.o.below A ay.o.lt).cell 0;have a1:=Af A;have c8:=Af<|KL ap b9;gi_wp2_with fail;refine c8.o.mono ?_;rintro e dh ⟨ab,(⟨rfl,cb,cc⟩|⟨rfl,cd⟩)⟩
  .have av:=Af cc;have a2:=Af cb;have a3:=Af ab;gi_wp2_with fail;have k4:=CW.below (m:=w0.heap.size) a1 b3.o.size;have k6:=k4.trans av;exact⟨KZ ((Bz (n:=W.heap.size) a1).trans a3) br,k6.1,⟨_,by simp[b4.o],a2⟩,c5.o.kept k6.2.1,ay.o.kept k6.2.2.1,b3.o.trans k6.2.2.2⟩
  .have a2:=Af cd;have a3:=Af ab;gi_wp2_with fail;exact⟨KZ ((Bz (n:=W.heap.size) a1).trans a3) br,rfl,_,by simp[b4.o],a2⟩
 case done=>
  rintro c9 d D a4 a5 ⟨⟨a,F,l⟩,-,-,-⟩ z;have a6:=(MK M x).putObj (.deferred O) l a4 z rfl;gi_wp2_with fail;refine⟨by simp,.inl ⟨_,_,rfl,HW z,?_⟩⟩;refine⟨_,results_none rfl _ _ _,⟨_,rfl⟩,.inl ⟨a,F.trans a5,a6⟩⟩
 case stop=>
  rintro c9 di d D a4 ⟨v,S,a5⟩ ⟨rfl,a,F,l⟩ z;have a6:=(MK bl x).putObj (.deferred O) l a4 z rfl;gi_wp2_with fail;refine⟨by simp,.inl ⟨_,_,rfl,HW z,?_⟩⟩;refine⟨_,results_none rfl _ _ _,⟨_,rfl⟩,.inr ⟨a,⟨v,S,F.trans a5⟩,a6⟩⟩
theorem Xg(b c:Nat){w0 w:U}{os:List Ob}{es:List Ev}{most:Nat}{a:Nat->Bool×List CE×Nat}(j:AE w0)(k:∀l∈os,l.kind<=9223372036854775807)(m:∀e∈es,AU e.kind/\e.ret<=9223372036854775807)(n:os.length<=1000)(o:es.length<=1000)(p:1<=most/\most<=150)(hF:LF os es most a)
 (g:Below w0 w0 w) (q:Gn os es b w) (r:Ah w c Cv #[(most:Int)]):
 Aaq prog 91 #[b,c] (LG.enc a) (LG.Rel a es.length) (CW w0) (Xe (es.length+1)) (λt=>∃i,i<es.length+1/\Xe (i+1) t) (es.length+1) w:=λu v x _ d y z A B=>
 AeB u b c j k m n o p hF v x (g.trans (d.mono g.size)) y z A (q.kept (BG.below d)) (r.kept (AD.below d)) B
end
section
attribute [local go_sem] Oper.semAt_some
abbrev D5:Ab:=39
abbrev tRu:Ab:=146
abbrev Gx:Ab:=32
abbrev Ss:Ab:=28
def CX:Array N:= #[false,C O 0 0,C O 0 0,(),()]
theorem AD.set{t t':Ab}{W:U}{cs:Array N}(h:Ah W g t' cs)(a:t≠t')(u:N):AD t W (W.setCell ⟨g,i,O⟩ u):=λb d=>
 B3 W ⟨g,i,O⟩ u b (by rintro rfl;exact a (h.is d))
theorem AD.row{t t':Ab}{W W':U}{B size:Nat}{v:N}{xs:List N}(e:W.ownsRow B t' size v n xs)(g:W.grownBy W' v.ownBlock)(i:t≠t'):AD t W W':=λj d=>g.block j d.lt (λa=>by
 let⟨m,o,cur,k,_,l,_⟩:=e.2.resolve_left (λh=>by rw[h.1] at a;cases a);subst k;injection a with a;subst a;let⟨_,_,b⟩:=d.is l;injection b with _ b;exact i b.symm)
theorem By{t:Ab}{A B:U}{row:Option Nat}(e:A.grownBy B row)(g:∀r,row=E r->∃o:Obj,A.heap[r]?=o/\o.isCells=false):AD t A B:=λb d=>e.block b d.lt (λi=>by
 let⟨o,a,j⟩:=g b i.symm;obtain⟨_,_,k⟩:=d;rw[k] at a;injection a with a;subst a
 cases j)
theorem CW.put(W:U)(l:Nat)(o o':Obj)(a:W.heap[l]?=o)(b:o.isCells=false)(d:m<=l):CW m W (W.putObj l o'):=
 ⟨BG.put W l o o' a b,.put a b,.put a b,(Ae m W).grown (GX W l o') (by have:=(ET.1 a).1;omega) (λg e=>by cases e;exact d)⟩
theorem PL{t:Ab}{W W':U}{B size:Nat}{v:N}{xs:List N}(g:W.ownsRow B t size v n xs)(e:W.grownBy W' v.ownBlock):E0 m W W':=⟨e.size,λi l _ d j=>(e.block i (ET.1 d).1 (λa=>by
 let⟨o,p,cur,k,_,b,_⟩:=g.2.resolve_left (λh=>by rw[h.1] at a;cases a);subst k;injection a with a;subst a;rw[d] at b;injection b with b;subst b
 cases j)).trans d⟩
theorem AeD{a:List LG}{x:LG}(h:Xe k a)(d:a[j]?=x):x.n=j:=by
 have b:=congrArg (λe:List Nat=>e[j]?) h;simp only[EK,d,HN] at b;let⟨i,g⟩:=Am.1 b.symm;simpa using g.symm
theorem Q8{V:Nat}{Y:U}{xs:List N}(h:Y.ownsRow (V+1) Ss 1 (C A k m) k xs):(Ar A k m).ownBlock≠E V:=λa=>by have:=(Ai h a).1;omega
def OqX(S:Nat)(w:U)(b:Nat->Bool×List CE×Nat)(N:Nat)(W:U):Prop:=(∃(a d:Nat),a<=N/\(b a).1=false/\Ah W (S+1) D5 #[false,C O 0 0,C O 0 0,(a:Int),(d:Int)])/\Ah W (S+1+1) Gx #[.nilIface]/\Below S w W
theorem OqX.turn{S B N:Nat}{w W W':U}{b:Nat->Bool×List CE×Nat}{row:Option Nat}(h:OqX S w b N W)(i:S<=B)(j:S<=w.heap.size)(a:W.grownBy W' row)(d:∀r,row=E r->B<=r/\∃o:Obj,W.heap[r]?=o/\o.isCells=false):OqX S w b N W':=by
 obtain⟨⟨k,l,m,n,p⟩,q,e⟩:=h;have g:=λr t=>(d r t).2;exact⟨⟨k,l,m,n,p.kept (By a g)⟩,q.kept (By a g),Cr e i (A8 j e.size) a d⟩
theorem AeE(X:U)(g:Nat)(u0 u1 u2 u3 u4 u5:N)(b:Nat)(a:b≠g)(d:b≠g+1):((((((X.setCell g u0).setCell ⟨g,1,O⟩ u1).setCell ⟨g,2,O⟩ u2).setCell ⟨g,3,O⟩ u3).setCell ⟨g,4,O⟩ u4).setCell (g+1:Nat) u5).heap[b]?=X.heap[b]?:=by
 rw[B3 _ (g+1:Nat) _ b d,B3 _ ⟨g,4,O⟩ _ b a,B3 _ ⟨g,3,O⟩ _ b a,B3 _ ⟨g,2,O⟩ _ b a,B3 _ ⟨g,1,O⟩ _ b a,B3 _ g _ b a]
theorem AeF{X:U}{t:Ab}{a0 v a2 a3 a4:N}(h:Ah X g t #[a0,v,a2,a3,a4])(u0 u1 u2 u3 u4 u5:N):Ah ((((((X.setCell g u0).setCell ⟨g,1,O⟩ u1).setCell ⟨g,2,O⟩ u2).setCell ⟨g,3,O⟩ u3).setCell ⟨g,4,O⟩ u4).setCell (g+1:Nat) u5) g t #[u0,u1,u2,u3,u4]:=by
 have:=((((h.put 0 u0).put 1 u1).put 2 u2).put 3 u3).put 4 u4;refine Ah.far ?_ (show g≠g+1 by omega) u5;simpa using this
theorem Aby(e:Func)(hF:e.results= #[.cell 4 D5,.cell 5 Gx])(tmps:Array N)(W:U)(g d:Nat)(a0 i a2 a3 a4 b:N)(j:tmps.getD 4 Ac=g)(k:tmps.getD 5 Ac=d)(a:Ah W g D5 #[a0,i,a2,a3,a4])(l:Ah W d Gx #[b]):
 (As e tmps).run prog W=.ok (.tuple #[.agg #[a0,i,a2,a3,a4],b]) W:=by
 have m:=a.cell 0;have n:=a.cell 1;have o:=a.cell 2;have p:=a.cell 3;have q:=a.cell 4;have r:=l.cell 0;have t:tmps[4]?.getD Ac=g:=by simpa using j
 have u:tmps[5]?.getD Ac=d:=by simpa using k
 simp[As,hF,t,u,go_sem,m,n,o,p,q,r]
def OqI(S V:Nat)(w:U)(d:Nat->Bool×List CE×Nat)(a:List LG)(W:U):Prop:=∃(e:N) (g:Nat),Ah W V D5 #[true,C O 0 0,e,(),(g:Int)]/\W.ownsRow (V+1) Ss 1 e a.length (a.map LG.v)/\(∀b∈a,(d b.n).1=true/\Cc BW 2 Q3 W b.v (d b.n).2.1)/\Ah W (S+1) D5 CX/\Ah W (S+1+1) Gx #[.nilIface]/\Below S w W
theorem OqI.turn{S V B:Nat}{w W W':U}{d:Nat->Bool×List CE×Nat}{e:List LG}{row:Option Nat}(h:OqI S V w d e W)(m:S<=B)(n:S<=w.heap.size)(a:W.grownBy W' row)(g:∀r,row=E r->B<=r/\∃o:Obj,W.heap[r]?=o/\o.isCells=false):OqI S V w d e W':=by
 obtain⟨p,q,u,v,i,x,y,j⟩:=h;have b:=λr z=>(g r z).2;exact⟨p,q,u.kept (By a b),AK v (λA F _ D=>By (t:=Ss) a b A ⟨_,_,D⟩),λk l=>⟨(i k l).1,(i k l).2.of_ty (By a b)⟩,x.kept (By a b),y.kept (By a b),Cr j m (A8 n j.size) a g⟩
theorem Q9{w:U}{vo vl:N}{os:List Ob}{es:List Ev}{most:Nat}{a:Nat->Bool×List CE×Nat}(bg:Cc Di 2 CL w vo os)(bh:Cc AJ 8 BO w vl es)(bs:∀bt∈os,bt.kind<=9223372036854775807)(bu:∀g∈es,AU g.kind/\g.ret<=9223372036854775807)(bv:AE w)(cr:1<=most/\most<=150)(hF:LF os es most a):
 Calls prog 20 #[.agg #[vo,vl],(most:Int)] w λz bw=>Below w w bw/\
  (((∀i,i<=es.length->(a i).1=true)/\∃bi p bz,z=R (.tuple #[.agg #[true,C O 0 0,bi,(),I J p],.nilIface])/\bz.length=es.length+1/\bw.ownsRow w Ss 1 bi (es.length+1) bz/\∀(i:Nat) ab,bz[i]?=E ab->Cc BW 2 Q3 bw ab (a i).2.1)∨
   (∃i p,i<=es.length/\(a i).1=false/\z=R (.tuple #[.agg #[false,C O 0 0,C O 0 0,(i:Int),I J p],.nilIface]))):=by
 obtain⟨txs,b0,b1,cs,-⟩:=hF es.length<|Aa _;rw[Ex] at b0 b1;let⟨dd,de,df,dh,di⟩:=A1 (show(prog.info? Ss).map (λb2=>(b2.zero,b2.size,b2.bytes))=E (E (C O 0 0),1,24) by kernel_rfl);obtain⟨A,B,rfl⟩:=bg.shape;obtain⟨D,F,rfl⟩:=bh.shape;have a4:=(AG w (H #[C A os.length B,C D es.length F] AI) (H CX D5)).alloc (by simp;omega)<|H #[.nilIface] Gx;have bj:=Af a4;have aw:=Af<|((Ah.new w AI #[C A os.length B,C D es.length F]).alloc (H CX D5)).alloc (H #[.nilIface] Gx);have a5:=Af<|(Bo w (H #[C A os.length B,C D es.length F] AI) D5 CX).alloc (H #[.nilIface] Gx);have ac:=Af<|Bo (w.alloc (H #[C A os.length B,C D es.length F] AI)) (H CX D5) Gx #[.nilIface];have bk:=Af<|Jj (bg.1.below a4) (bh.1.below a4) bs bu (bv.below a4);have dj:=Af bg;have dk:=Af bh;have dl:=Af bs;have dm:=Af bu;have dn:=Af bv;have dp:=Af hF;have ad:Hid (Bn os es/\AR es=txs/\txs.length<=12):=Af ⟨b0,b1,cs⟩;have ex:decide ((most:Int)<1)=false:=by simp;omega
 have ey:decide ((65536:Int)<(most:Int))=false:=by simp;omega
 have dq:=Af cr;refine(Dh (n:=8)).1<|callsIn_of_wp_marks func20 rfl trivial ?_ rfl;simp only[ntmps20,EQ,C4,Em,Nat.reduceAdd,Nat.reduceSub,Fy,Fz,FE,FV,Es,Ez]
 gi_upto_region 1 with fail
 have ct:(w.alloc (H #[C A os.length B,C D es.length F] AI)).heap.size=w.heap.size+1:=by simp
 rw[ct] at ac;simp only[CX] at bj aw a5 ac bk;generalize ((w.alloc (H #[C A os.length B,C D es.length F] AI)).alloc (H #[false,C O 0 0,C O 0 0,(),()] D5)).alloc (H #[.nilIface] Gx)=ez at bj aw a5 ac bk|-;let⟨dr,ds⟩:=aw.o.c2;gi_wp2_with fail;refine⟨trivial,?_⟩;refine(Dh.2 bk).mono ?_;rintro z d ⟨l,(⟨x,e0,bl,ae,rfl,cu⟩|⟨b3,-⟩)⟩
 case inr=>exact absurd ⟨ad.o.1,by rw[ad.o.2.1];rfl⟩ b3
 have dt:x.length<=12:=by rw[ad.o.2.1] at ae;injection ae with ae;subst ae;exact ad.o.2.2
 obtain⟨a6,a7,rfl⟩:=cu.shape;have e1:¬(12:Int)<(x.length:Int):=by omega
 have e2:(x.length:Int)<=12:=by omega
 have G:=Af<|bj.o.trans (l.mono bj.o.size);have cv:=Af<|aw.o.below l aw.o.lt;have cw:=Af<|a5.o.below l a5.o.lt;have b4:=Af<|ac.o.below l ac.o.lt;have du:=Af ac.o.lt;have dv:=Af l.size
 gi_upto_region 9 with fail
 have ax:=Af<|G.o.alloc G.o.size (H #[true,C O 0 0,C O 0 0,(),()] D5);have b5:=Af<|cv.o.alloc (H #[true,C O 0 0,C O 0 0,(),()] D5);have bm:=Af<|cw.o.alloc (H #[true,C O 0 0,C O 0 0,(),()] D5);have bn:=Af<|b4.o.alloc (H #[true,C O 0 0,C O 0 0,(),()] D5);have a8:=Af<|Ah.new d D5 #[true,C O 0 0,C O 0 0,(),()];have q:=Af (show w.heap.size+1+1<d.heap.size from b4.o.lt);generalize d.heap.size=V at a8 q|-;generalize d.alloc (H #[true,C O 0 0,C O 0 0,(),()] D5)=af at ax b5 bm bn a8|-;have M:=Af<|Xf (most:=most) (dj.o.below ax) (dk.o.below ax);let⟨dw,dx⟩:=b5.o.c2;gi_wp2_with fail;refine⟨trivial,?_⟩;refine(Dh.2 M).mono ?_;rintro z cx ⟨b6,b7,rfl,cy,cz,a9⟩;have b8:=Af<|ax.o.trans (a9.mono ax.o.size);have dy:=Af<|bm.o.below a9 bm.o.lt;have dz:=Af<|bn.o.below a9 bn.o.lt;have c0:=Af<|a8.o.below a9 a8.o.lt;have d0:=Af cy;have d1:=Af cz;gi_wp2_with fail;have b9:=b8.o.size;have e3:=c0.o.lt
 apply Nz (gf:=91) (lb:= #[b6,b7]) rfl (Eg func91 (by kernel_rfl) rfl)
  (Xg b6 b7 dn dl dm (by have:=ad.o.1.1;omega) (by have:=ad.o.1.2.1;omega) dq dp b8 d0 d1)
  CW.trans (λd2 bt d3 S ag=>CW.put d2 _ bt d3 S ag (by omega)) (Ae _ _) (λ_=>rfl)
  (λj s ah ca cb h ai aj=>⟨h.1,h.2.of_ty (By ai λz g=>(aj z g).2)⟩)
  (λe ba=>OqI w V w a e ba)
  (λc e ba=>c=.ret/\OqX w w a es.length ba)
  (λe ah ca cb h ai aj=>h.turn b9 (Aa _) ai aj)
  (λ_ e ah ca cb h ai aj=>⟨h.1,h.2.turn b9 (Aa _) ai aj⟩)
  ⟨C O 0 0,0,c0,Ep _ _ _ _,(λj m=>by cases m),dy,dz,b8⟩
  (λj cc ba=>∃r,Ah ba r tRu #[T (a j.n).1,j.v,(((a j.n).2.2:Nat):Int),.nilIface]/\V<r/\cc={tmps:= #[.agg #[C A os.length B,C D es.length F],I J (most:Int),Q (E ⟨w.heap.size,0,O⟩),Ac,Q (E ⟨w.heap.size+1,0,O⟩),Q (E ⟨w.heap.size+1+1,0,O⟩),C a6 x.length a7,.nilIface,Q (E ⟨V,0,O⟩),I J (j.n:Int),Q (E ⟨r,0,O⟩),I J (most:Int),T false,T false,I J (most:Int),T false,T false,Ac,Ac,.tuple #[C a6 x.length a7,.nilIface],.agg #[C A os.length B,C D es.length F],.tuple #[C a6 x.length a7,.nilIface],C a6 x.length a7,.nilIface,.nilIface,T false,Ac,Ac,C a6 x.length a7,I J (x.length:Int),T (decide ((12:Int)<(x.length:Int))),Ac,Ac,.agg #[T true,C O 0 0,C O 0 0,I J 0,I J 0],.agg #[C A os.length B,C D es.length F],I J (most:Int),.func (.func 91) #[] #[Q (E ⟨b6,0,O⟩),Q (E ⟨b7,0,O⟩)],I J (j.n:Int),.agg #[T (a j.n).1,j.v,I J (((a j.n).2.2:Nat):Int),.nilIface],Ac,Ac,Ac,Ac,Ac,Ac,Ac,Ac,Ac,Ac,Ac,Ac,Ac,Ac,Ac,Ac,Ac,Ac,Ac,Ac,Ac,Ac,Ac,Ac,Ac,Ac,Ac,Ac,Ac,Ac],defers:=[]})
  (λj cc s ah ca cb h ai aj=>by
   obtain⟨r,S,ag,cd⟩:=h;exact⟨r,S.kept (By ai λz g=>(aj z g).2),ag,cd⟩)
  ?assign ?body ?done ?stop
 case assign=>
  rintro d4 e ⟨b,ab⟩ d K c1 W u;obtain⟨X,Y,rfl⟩:∃ah c,ab=C ah (a b).2.1.length c:=W.2.shape;have ce:=Af c1;have M:=Af W;have cf:=Af u;unfold LG.enc;dsimp only;gi_wp2_with fail;have ay:=Zc d<|H #[T (a b).1,C X (a b).2.1.length Y,(((a b).2.2:Nat):Int),.nilIface] tRu;refine cf.o _ _ (Bz ay) (CW.below ay ?_) (ce.o.turn b9 (Aa _) (HV d _ O) (λz g=>by cases g)) ⟨M.o.1,M.o.2.below ay⟩ ⟨d.heap.size,Ah.new d tRu _,?_,rfl⟩
  .let⟨_,_,_,_,_,_,_,h⟩:=ce.o;exact h.size
  .let⟨_,_,h,_⟩:=ce.o;exact h.lt
 case body=>
  rintro d4 e ⟨b,ab⟩ cc d e4 ⟨bi,p,n,ak,c2,k,l,y⟩ W ⟨r,az,e5,rfl⟩ c3;obtain⟨X,Y,rfl⟩:∃ah c,ab=C ah (a b).2.1.length c:=W.2.shape;obtain⟨Z,aa,rfl⟩:=Ag ak;have bo:=Af n;have al:=Af ak;have a0:=Af c2;have bb:=Af k;have G:=Af l;have bp:=Af y;have M:=Af W;have d5:=Af W.1;have c4:=Af az;have d6:=Af c3;have cg:=n.cell 2;have ch:=n.cell 4;have d7:=n.frozen 4;have vl:=n.lt;have ci:=az.cell 0;have bl:=az.cell 1;have ae:=az.cell 2;have d8:=az.cell 3;dsimp only
  gi_upto_region 15 with fail
  have c5:max (p:Int) (((a b).2.2:Nat):Int)=((max p (a b).2.2:Nat):Int):=by omega
  rw[c5];have e6:=q.o;have a1:Hid (Ah (d.setCell ⟨V,4,O⟩ ((max p (a b).2.2:Nat):Int)) V D5 #[true,C O 0 0,C Z e.length aa,(),((max p (a b).2.2:Nat):Int)]):=Af (by simpa using bo.o.put 4 ((max p (a b).2.2:Nat):Int));have L:=Af<|Ak al (p:=⟨V,4,O⟩) (Q8 al) ((max p (a b).2.2:Nat):Int);have am:=Af<|c4.o.far (p:=⟨V,4,O⟩) (show r≠V by omega) ((max p (a b).2.2:Nat):Int);have o:=Af<|bb.o.far (p:=⟨V,4,O⟩) (show w.heap.size+1≠V by omega) ((max p (a b).2.2:Nat):Int);have a2:=Af<|G.o.far (p:=⟨V,4,O⟩) (show w.heap.size+1+1≠V by omega) ((max p (a b).2.2:Nat):Int);have bc:=Af<|bp.o.setCell (p:=⟨V,4,O⟩) (show w.heap.size<=V by omega) ((max p (a b).2.2:Nat):Int);have cj:=Af (λ(t:Ab) (h:t≠D5)=>AD.set bo (i:=4) h ((max p (a b).2.2:Nat):Int));have ck:=Af<|(GY d ⟨V,4,O⟩ ((max p (a b).2.2:Nat):Int)).from cx.heap.size;generalize d.setCell ⟨V,4,O⟩ ((max p (a b).2.2:Nat):Int)=v at a1 L am o a2 bc cj ck|-
  cases an:(a b).1 with
  |false=>
   have d9:Hid (Ah v r tRu #[false,C X (a b).2.1.length Y,(((a b).2.2:Nat):Int),.nilIface]):=Af (by have h:=am.o;rwa [an] at h);have ea:=Af an;have ch:=a1.o.cell 4;have vl:=a1.o.lt;have ci:=d9.o.cell 0;have eb:v.cell? (w+1:Nat)=false:=o.o.cell 0;have ec:v.cell? ⟨w.heap.size+1,1,O⟩=E (C O 0 0):=o.o.cell 1;have ed:v.cell? ⟨w.heap.size+1,2,O⟩=E (C O 0 0):=o.o.cell 2;have ee:v.cell? ⟨w.heap.size+1,3,O⟩=E ():=o.o.cell 3;have ef:v.cell? ⟨w.heap.size+1,4,O⟩=E ():=o.o.cell 4;have eg:=o.o.frozen 0;have eh:=o.o.frozen 1;have ei:=o.o.frozen 2;have ej:=o.o.frozen 3;have ek:=o.o.frozen 4;have el:=o.o.lt;have em:=a2.o.cell 0;have en:=a2.o.frozen 0;have eo:=a2.o.lt;gi_wp2_with fail;exact⟨((((((ck.o.trans ((GY _ _ _).from _)).trans ((GY _ _ _).from _)).trans ((GY _ _ _).from _)).trans ((GY _ _ _).from _)).trans ((GY _ _ _).from _)).trans ((GY _ _ _).from _)),rfl,⟨b,max p (a b).2.2,d5,ea,AeF o false (C O 0 0) (C O 0 0) (b:Int) ((max p (a b).2.2:Nat):Int) .nilIface⟩,by simpa using (((((a2.o.far (p:=(w+1:Nat)) (show w.heap.size+1+1≠w.heap.size+1 by omega) false).far (p:=⟨w.heap.size+1,1,O⟩) (show w.heap.size+1+1≠w.heap.size+1 by omega) (C O 0 0)).far (p:=⟨w.heap.size+1,2,O⟩) (show w.heap.size+1+1≠w.heap.size+1 by omega) (C O 0 0)).far (p:=⟨w.heap.size+1,3,O⟩) (show w.heap.size+1+1≠w.heap.size+1 by omega) (b:Int)).far (p:=⟨w.heap.size+1,4,O⟩) (show w.heap.size+1+1≠w.heap.size+1 by omega) ((max p (a b).2.2:Nat):Int)).put 0 .nilIface,(((((bc.o.setCell (p:=(w+1:Nat)) (Ax _) false).setCell (p:=⟨w.heap.size+1,1,O⟩) (Ax _) (C O 0 0)).setCell (p:=⟨w.heap.size+1,2,O⟩) (Ax _) (C O 0 0)).setCell (p:=⟨w.heap.size+1,3,O⟩) (Ax _) (b:Int)).setCell (p:=⟨w.heap.size+1,4,O⟩) (Ax _) ((max p (a b).2.2:Nat):Int)).setCell (p:=(w+1+1:Nat)) (show w.heap.size<=w.heap.size+1+1 by omega) .nilIface⟩
  |true=>
  have ep:=Af an;replace am:Hid (Ah v r tRu #[true,C X (a b).2.1.length Y,(((a b).2.2:Nat):Int),.nilIface]):=Af (by have h:=am.o;rwa [an] at h);have cg:=a1.o.cell 2;have ci:=am.o.cell 0;have bl:=am.o.cell 1;have vl:=a1.o.lt;have e7:=d6.o;have e8:=ad.o.1.2.1;gi_wp2_with (gi_at_builtin;refine wpListIn_append_own _ rfl (.tmp 61) (.tmp 65) 37 rfl (V+1) Ss dd (.slice O 0 0) 1 24 underlying37 de df dh di rfl (by decide) _ _ _ rfl (L.o.alloc _) v 1 1 [.slice X (a b).2.1.length Y] rfl rfl (En _ _ _) (by simp[B4]) (by unfold Al;omega) (by omega) (by simp;omega) ?_;intro e9 bq cl a3 _;obtain⟨ao,ap,rfl⟩:=Ag cl;have bd:=Af ((a1.o.alloc (H #[.slice X (a b).2.1.length Y] Ss)).grown a3 (λg=>Q8 L g.symm));have fa:=bd.o.cell 2;have fb:=bd.o.frozen 2;have fc:=bd.o.lt);have fd:=HV v (H #[C X (a b).2.1.length Y] Ss) O;have c6:=Zc v<|H #[C X (a b).2.1.length Y] Ss;have aq:∀t,t≠D5->t≠Ss->AD t d (bq.setCell ⟨V,2,O⟩ (C ao (e.length+1) ap)):=λt S ag=>((cj.o t S).trans (.below c6)).trans ((AD.row (L.o.alloc _) a3 ag).trans (AD.set bd S _));have be:Below w w (bq.setCell ⟨V,2,O⟩ (C ao (e.length+1) ap)):=((bc.o.alloc bc.o.size _).grown a3 (by have:=bc.o.size;simp;omega) (λfe an=>by have br:=(Ai L an).1;have:=q.o;omega)).setCell (p:=⟨V,2,O⟩) (show w.heap.size<=V by have:=q.o;omega) _;have c7:E0 cx d (bq.setCell ⟨V,2,O⟩ (C ao (e.length+1) ap)):=(ck.o.trans (Bz c6)).trans<|(PL (L.o.alloc _) a3).trans ((GY _ _ _).from _);have y:=bp.o;have eq:Below w d (bq.setCell ⟨V,2,O⟩ (C ao (e.length+1) ap)):=⟨be.os.trans y.os.symm,be.tape.trans y.tape.symm,be.output.trans y.output.symm,c7.size,λi bf=>(be.block i bf).trans (y.block i bf).symm⟩;refine⟨c7,⟨⟨aq _ (by decide) (by decide),aq _ (by decide) (by decide),aq _ (by decide) (by decide)⟩,aq _ (by decide) (by decide),aq _ (by decide) (by decide),eq⟩,C ao (e.length+1) ap,max p (a b).2.2,by simpa using bd.o.put 2 (C ao (e.length+1) ap),by simpa using Ak cl (p:=⟨V,2,O⟩) (Q8 cl) (C ao (e.length+1) ap),?_,?_,?_,be⟩
  .intro j m;rcases Eh.1 m with m|m
   .exact⟨(a0.o j m).1,(a0.o j m).2.of_ty (aq _ (by decide) (by decide))⟩
   .rw[List.mem_singleton] at m;subst m;exact⟨ep,M.o.2.of_ty (aq _ (by decide) (by decide))⟩
  .exact((o.o.alloc _).grown a3 (λg=>by have br:=(Ai L g.symm).1;have:=q.o;omega)).far (p:=⟨V,2,O⟩) (show w.heap.size+1≠V by have:=q.o;omega) _
  .exact((a2.o.alloc _).grown a3 (λg=>by have br:=(Ai L g.symm).1;have:=q.o;omega)).far (p:=⟨V,2,O⟩) (show w.heap.size+1+1≠V by have:=q.o;omega) _
 case done=>
  rintro ar e d cn co ⟨bi,p,n,ak,c8,k,l,y⟩ u;obtain⟨Z,aa,rfl⟩:=Ag ak;have ff:=n.cell 0;have fg:=n.cell 1;have cg:=n.cell 2;have fh:=n.cell 3;have ch:=n.cell 4;have eb:d.cell? (w+1:Nat)=false:=k.cell 0;have ec:d.cell? ⟨w.heap.size+1,1,O⟩=E (C O 0 0):=k.cell 1;have ed:d.cell? ⟨w.heap.size+1,2,O⟩=E (C O 0 0):=k.cell 2;have ee:d.cell? ⟨w.heap.size+1,3,O⟩=E ():=k.cell 3;have ef:d.cell? ⟨w.heap.size+1,4,O⟩=E ():=k.cell 4;have eg:=k.frozen 0;have eh:=k.frozen 1;have ei:=k.frozen 2;have ej:=k.frozen 3;have ek:=k.frozen 4;have el:=k.lt;have em:=l.cell 0;have en:=l.frozen 0;have eo:=l.lt;have bo:=Af n;have al:=Af ak;have a0:=Af c8;have bb:=Af k;have G:=Af l;have bp:=Af y;have cf:=Af u;have er:=Af cn;have cp:=Af co;gi_wp2_with fail;have fi:=er.o;have au:=AeE d (w+1) true (C O 0 0) (C Z e.length aa) () (p:Int) .nilIface;have c9:=AeF bb true (C O 0 0) (C Z e.length aa) () (p:Int) .nilIface;have da:=(((((G.o.far (p:=(w+1:Nat)) (show w.heap.size+1+1≠w.heap.size+1 by omega) true).far (p:=⟨w.heap.size+1,1,O⟩) (show w.heap.size+1+1≠w.heap.size+1 by omega) (C O 0 0)).far (p:=⟨w.heap.size+1,2,O⟩) (show w.heap.size+1+1≠w.heap.size+1 by omega) (C Z e.length aa)).far (p:=⟨w.heap.size+1,3,O⟩) (show w.heap.size+1+1≠w.heap.size+1 by omega) ()).far (p:=⟨w.heap.size+1,4,O⟩) (show w.heap.size+1+1≠w.heap.size+1 by omega) (p:Int)).put 0 .nilIface;have cq:=(((((bp.o.setCell (p:=(w+1:Nat)) (Ax _) true).setCell (p:=⟨w.heap.size+1,1,O⟩) (Ax _) (C O 0 0)).setCell (p:=⟨w.heap.size+1,2,O⟩) (Ax _) (C Z e.length aa)).setCell (p:=⟨w.heap.size+1,3,O⟩) (Ax _) ()).setCell (p:=⟨w.heap.size+1,4,O⟩) (Ax _) (p:Int)).setCell (p:=(w+1+1:Nat)) (show w.heap.size<=w.heap.size+1+1 by omega) .nilIface;generalize (((((d.setCell (w+1:Nat) true).setCell ⟨w.heap.size+1,1,O⟩ (C O 0 0)).setCell ⟨w.heap.size+1,2,O⟩ (C Z e.length aa)).setCell ⟨w.heap.size+1,3,O⟩ ()).setCell ⟨w.heap.size+1,4,O⟩ (p:Int)).setCell (w+1+1:Nat) .nilIface=af at au c9 da cq|-;have u:=(au ar (by have:=q.o;omega) (by have:=q.o;omega)).trans cf;have av:∀t,AD t af (af.putObj ar (.deferred O)):=λt=>AD.put u rfl;have db:e.length=es.length+1:=by have:=congrArg Fu cp;simpa using this
  refine⟨by simp,.inl ⟨_,_,rfl,HW u,?_⟩⟩;refine⟨_,Aby _ rfl _ _ (w+1) (w+1+1) _ _ _ _ _ _ rfl rfl (c9.kept (av _)) (da.kept (av _)),cq.grown (GX af ar (.deferred O)) (by have:=cq.size;omega) (λi g=>by cases g;omega),.inl ⟨λi bf=>?_,C Z e.length aa,p,e.map LG.v,rfl,by simpa using db,?_,?_⟩⟩
  .obtain⟨j,m⟩:∃j,e[i]?=E j:=⟨e[i]'(by omega),An _⟩;exact AeD cp m▸(a0.o j (Ap m)).1
  .have br:=AK (AK al (W':=af) (λr et g _=>au r (by have:=(Ai al g).1;have:=q.o;omega) (by have:=(Ai al g).1;have:=q.o;omega))) (W':=af.putObj ar (.deferred O)) (λr et _ eu=>av Ss r ⟨_,_,eu⟩);rw[<-db];exact Aw br (by have:=q.o;omega)
  .intro i ab dc;rw[EK] at dc;obtain⟨j,m,rfl⟩:=Eo.1 dc;have b3:j.n=i:=AeD cp m;subst b3;have bf:AD BW d af:=λev ay=>au ev (by rintro rfl;exact absurd (bb.o.is ay) (by decide)) (by rintro rfl;exact absurd (G.o.is ay) (by decide));exact((a0.o j (Ap m)).2.of_ty bf).of_ty<|av _
 case stop=>
  rintro ar fj e d cn co ⟨rfl,⟨i,p,S,ag,cd⟩,ew,au⟩ u;have av:∀t,AD t d (d.putObj ar (.deferred O)):=λt=>AD.put u rfl;gi_wp2_with fail;refine⟨by simp,.inl ⟨_,_,rfl,HW u,?_⟩⟩;exact⟨_,Aby _ rfl _ _ (w+1) (w+1+1) _ _ _ _ _ _ rfl rfl (cd.kept (av _)) (ew.kept (av _)),au.grown (GX d ar (.deferred O)) (by have:=au.size;omega) (λi g=>by cases g;omega),.inr ⟨i,_,S,ag,rfl⟩⟩
end
theorem AcS(d:Func)(hF:d.results= #[.cell 6 D5,.tmp 7])(tmps:Array N)(W:U)(g:Nat)(a0 e a2 a3 a4 b:N)(i:tmps.getD 6 Ac=g)(j:tmps.getD 7 Ac=b)(a:Ah W g D5 #[a0,e,a2,a3,a4]):
 (As d tmps).run prog W=.ok (.tuple #[.agg #[a0,e,a2,a3,a4],b]) W:=by
 have k:=a.cell 0;have l:=a.cell 1;have m:=a.cell 2;have n:=a.cell 3;have o:=a.cell 4;have p:tmps[6]?.getD Ac=g:=by simpa using i
 have q:tmps[7]?.getD Ac=b:=by simpa using j
 simp[As,hF,p,q,go_sem,k,l,m,n,o]
theorem AcT{X:U}{t:Ab}{a0 v a2 a3 a4:N}(h:Ah X g t #[a0,v,a2,a3,a4])(u0 u1 u2 u3 u4:N):Ah (((((X.setCell g u0).setCell ⟨g,1,O⟩ u1).setCell ⟨g,2,O⟩ u2).setCell ⟨g,3,O⟩ u3).setCell ⟨g,4,O⟩ u4) g t #[u0,u1,u2,u3,u4]:=by
 have:=((((h.put 0 u0).put 1 u1).put 2 u2).put 3 u3).put 4 u4;simpa using this
theorem XN(X:U)(g:Nat)(u0 u1 u2 u3 u4:N)(b:Nat)(a:b≠g):(((((X.setCell g u0).setCell ⟨g,1,O⟩ u1).setCell ⟨g,2,O⟩ u2).setCell ⟨g,3,O⟩ u3).setCell ⟨g,4,O⟩ u4).heap[b]?=X.heap[b]?:=by
 rw[B3 _ ⟨g,4,O⟩ _ b a,B3 _ ⟨g,3,O⟩ _ b a,B3 _ ⟨g,2,O⟩ _ b a,B3 _ ⟨g,1,O⟩ _ b a,B3 _ g _ b a]
theorem NH{w X:U}(h:Below m w X)(a:m<=g)(u0 u1 u2 u3 u4:N):Below m w (((((X.setCell g u0).setCell ⟨g,1,O⟩ u1).setCell ⟨g,2,O⟩ u2).setCell ⟨g,3,O⟩ u3).setCell ⟨g,4,O⟩ u4):=
 ((((h.setCell (p:=g) a u0).setCell (p:=⟨g,1,O⟩) a u1).setCell (p:=⟨g,2,O⟩) a u2).setCell (p:=⟨g,3,O⟩) a u3).setCell (p:=⟨g,4,O⟩) a u4
theorem AaM{w:U}{vo vl:N}{os:List Ob}{es:List Ev}{level:Int}{most p:Nat}{txs:List St}{y:Bool}{s:List CE}(t:Ba 2 CL w vo os)(u:Ba 8 BO w vl es)(B:∀ac∈os,ac.kind<=9223372036854775807)(D:∀F∈es,AU F.kind/\F.ret<=9223372036854775807)(G:AE w)(L:1<=level/\level<=3)(M:1<=most/\most<=150)
 (S:Bn os es) (W:AR es=txs) (X:txs.length<=12) (Y:(BF os txs level).search most=E (y,s,p)):
 Calls prog 8 #[.agg #[vo,vl],level,(most:Int)] w λv Z=>(∃x,v=R (.tuple #[.agg #[y,x,C O 0 0,(),(p:Int)],.nilIface])/\Cc BW 2 Q3 Z x s)/\Below w w Z:=by
 obtain⟨j,k,rfl⟩:=t.shape;obtain⟨l,m,rfl⟩:=u.shape;have d:=AG w (K #[C j os.length k,C l es.length m] AI)<|K CX D5;have e:=Af d;have n:=Af<|(Ah.new w AI #[C j os.length k,C l es.length m]).alloc (K CX D5);have a:=Af<|Bo w (K #[C j os.length k,C l es.length m] AI) D5 CX;have o:=Af<|(Q6 (t.below d) (u.below d) B D (G.below d) L M).mono (λv w h=>Q4.yes h S W X Y);have ag:(level==4)=false:=by simp;omega
 have ah:decide (level=4)=false:=by simp;omega
 have ai:¬level=4:=by omega
 simp only[CX] at e n a o;go_in;go_upto_region 1 with fail;generalize (w.alloc (K #[C j os.length k,C l es.length m] AI)).alloc (K #[false,C O 0 0,C O 0 0,(),()] D5)=aj at e n a o|-;let⟨ad,ae⟩:=n.o.c2;go_wp2_with fail;refine o.o.mono ?_;rintro v g ⟨⟨x,rfl,z⟩,b⟩;obtain⟨q,r,rfl⟩:=z.shape;have A:=Zc g<|K #[y,C q s.length r,(p:Int)] JJ;have aa:=Af<|z.below A;have ab:=Af<|(e.o.trans (b.mono e.o.size)).trans (A.mono (A8 e.o.size b.size));have i:=Af<|Ah.new g JJ #[y,C q s.length r,(p:Int)];have a:=Af<|(a.o.below b a.o.lt).alloc (K #[y,C q s.length r,(p:Int)] JJ);go_upto_region 4 with fail;generalize g.heap.size=ak at i|-;generalize g.alloc (K #[y,C q s.length r,(p:Int)] JJ)=al at aa ab i a|-;have am:=i.o.cell 0;have an:=i.o.cell 1;have ao:=i.o.cell 2;have ap:=a.o.cell 0;have aq:=a.o.cell 1;have ar:=a.o.cell 2;have au:=a.o.cell 3;have av:=a.o.cell 4;have aw:=a.o.frozen 0;have ax:=a.o.frozen 1;have ay:=a.o.frozen 2;have az:=a.o.frozen 3;have a0:=a.o.frozen 4;have a1:=a.o.lt;go_wp2_with fail;refine Ao (AcS _ rfl _ _ (w+1) _ _ _ _ _ _ rfl rfl (AcT a _ _ _ _ _)) rfl ?_;exact⟨⟨_,rfl,aa.o.of_ty (λaf b=>XN _ _ _ _ _ _ _ af (by rintro rfl;exact absurd (a.o.is b) (by decide)))⟩,NH ab (Ax _) _ _ _ _ _⟩
theorem SA{w:U}{vo vl:N}{os:List Ob}{es:List Ev}{most:Nat}{j:Nat->Bool×List CE×Nat}(u:Cc Di 2 CL w vo os)(v:Cc AJ 8 BO w vl es)(B:∀ab∈os,ab.kind<=9223372036854775807)(D:∀k∈es,AU k.kind/\k.ret<=9223372036854775807)(F:AE w)(G:1<=most/\most<=150)(hF:LF os es most j):
 Calls prog 8 #[.agg #[vo,vl],I J 4,(most:Int)] w λx y=>Below w.heap.size w y/\
  (((∀b,b<=es.length->(j b).1=true)/\∃z d e,x=R (.tuple #[.agg #[true,C O 0 0,z,(),I J d],.nilIface])/\e.length=es.length+1/\y.ownsRow w.heap.size Ss 1 z (es.length+1) e/\∀(b:Nat) l,e[b]?=E l->Cc BW 2 Q3 y l (j b).2.1)∨
   (∃b d,b<=es.length/\(j b).1=false/\x=R (.tuple #[.agg #[false,C O 0 0,C O 0 0,(b:Int),I J d],.nilIface]))):=by
 obtain⟨m,n,rfl⟩:=u.shape;obtain⟨o,p,rfl⟩:=v.shape;have g:=AG w (K #[C m os.length n,C o es.length p] AI)<|K CX D5;have q:=Af g;have r:=Af<|(Ah.new w AI #[C m os.length n,C o es.length p]).alloc (K CX D5);have a:=Af<|Bo w (K #[C m os.length n,C o es.length p] AI) D5 CX;have t:=Af<|Q9 (u.below g) (v.below g) B D (F.below g) G hF;simp only[CX] at q r a t;go_in;go_upto_region 1 with fail;generalize (w.alloc (K #[C m os.length n,C o es.length p] AI)).alloc (K #[false,C O 0 0,C O 0 0,(),()] D5)=ac at q r a t|-;obtain⟨ad,ae⟩:=r.o.c2;go_wp2_with fail;refine t.o.mono ?_;rintro x an ⟨i,h⟩;have L:=Af<|q.o.trans (i.mono q.o.size);have M:=Af (show w.heap.size+1<ac.heap.size from a.o.lt);have a:=Af<|a.o.below i a.o.lt;have ao:=a.o.cell 0;have ap:=a.o.cell 1;have aq:=a.o.cell 2;have ar:=a.o.cell 3;have au:=a.o.cell 4;have av:=a.o.frozen 0;have aw:=a.o.frozen 1;have ax:=a.o.frozen 2;have ay:=a.o.frozen 3;have az:=a.o.frozen 4;have a0:=a.o.lt;rcases h with ⟨S,z,d,e,rfl,W,A,X⟩|⟨b,d,Y,Z,rfl⟩
 .obtain⟨a1,a2,rfl⟩:=Ag A;have af:=Af S;have aa:=Af A;have ag:=Af X;have ah:=Af W;go_wp2_with fail;refine Ao (AcS _ rfl _ _ (w.heap.size+1) _ _ _ _ _ _ rfl rfl (AcT a.o _ _ _ _ _)) rfl ?_;refine⟨NH L.o (Ax _) _ _ _ _ _,.inl ⟨af.o,_,_,e,rfl,ah.o,?_,λb l ai=>(ag.o b l ai).of_ty (λaj i=>XN _ _ _ _ _ _ _ aj (by rintro rfl;exact absurd (a.o.is i) (by decide)))⟩⟩;exact Aw (AK aa.o (λak a3 k _=>XN _ _ _ _ _ _ _ ak (by have:=(Ai aa.o k).1;have:=M.o;omega))) (by have:=M.o;omega)
 .have al:=Af Z;have am:=Af Y;go_wp2_with fail;refine Ao (AcS _ rfl _ _ (w.heap.size+1) _ _ _ _ _ _ rfl rfl (AcT a.o _ _ _ _ _)) rfl ?_;exact⟨NH L.o (Ax _) _ _ _ _ _,.inr ⟨b,_,am.o,al.o,rfl⟩⟩
def K6(w:U)(h:N)(most:Nat)(ans:Nat->Bool):Prop:=∀a:Nat,1<=a->a<=4->∀b,Below w w b->Calls prog 8 #[h,(a:Int),(most:Int)] b λd e=>
 (∃g i j k l m n o,d=R (.tuple #[.agg #[(ans a),C g i j,C k l m,I J n,I J o],.nilIface]))/\Below b b e
theorem Rl(a:Addr)(w:U):(binOp .eql Gx .nilIface (.iface 563 a)).run prog w=.ok false w:=by
 simp only[binOp];simp[Op.equal,Op.maxDepth,go_sem];kernel_rfl
def Rm(b:Bool):N:=I J (if b then 1 else 2)
def MP(ans:Nat->Bool)(k:Nat):List N:=(EZ k).map λa=>Rm (ans (a+1))
theorem LJ(ans:Nat->Bool)(k:Nat):MP ans (k+1)=MP ans k++[Rm (ans (k+1))]:=by simp[MP,HU]
theorem Ro{w:U}{j:Option Addr}{c1 c2:Nat}{most:Nat}{ans:Nat->Bool}(af:K6 w (.agg #[C A n c1,C j k c2]) most ans)(ag:AE w):
 Calls prog 252 #[.agg #[C A n c1,C j k c2],(most:Int)] w λah ai=>∃aj,ah=R (.tuple #[aj,.nilIface])/\ai.ownsRow w Cv 1 aj 4 (MP ans 4)/\Below w w ai:=by
 let⟨ak,al,am,an,ao⟩:=A1 (show(prog.info? Cv).map (λx=>(x.zero,x.size,x.bytes))=E (E (I J 0),1,8) by kernel_rfl);have ar:=Af af;have au:=Af ag;have y:=Af<|Zc w (K #[C A n c1,C j k c2] AI);have e:=Af<|Ah.new w AI #[C A n c1,C j k c2];go_in;go_upto_region 3 with fail;generalize w.alloc (K #[C A n c1,C j k c2] AI)=a9 at y e|-
 go_loopw [7,6] (λz av wr=>∃a:Nat,z=((a+1:Nat):Int)/\a<=4/\wr.ownsRow (w+1) Cv 1 av a (MP ans a)/\Ah wr w AI #[C A n c1,C j k c2]/\Below w w wr) (λz _ _=>6-(intOf z).toNat)
 case atStart=>exact⟨0,rfl,by omega,Ep _ _ _ _,e,y⟩
 case round=>
  obtain⟨a,rfl,aw,r,b,t⟩:=hrel;obtain⟨ba,bb,rfl⟩:=Ag r;let⟨ax,ay⟩:=b.c2;have B:=Af r;have u:=Af t;have e:=Af b;by_cases az:a<4
  .have bc:((a+1:Nat):Int)<=4:=by omega
   have bd:decide (((a+1:Nat):Int)<=4)=true:=by simp;omega
   have be:decide (a+1<=4)=true:=by simp;omega
   have ap:=Af<|ar.o (a+1) (by omega) (by omega) wr t;have a0:=Af az;go_wp2_with fail;refine ap.o.mono ?_;rintro ah D ⟨⟨F,G,L,M,S,W,X,Y,rfl⟩,Z⟩;have v:=Z.alloc Z.size<|K #[(ans (a+1)),C F G L,C M S W,X,Y] D5;have g:=Af<|AA B v;have o:=Af<|e.o.below v e.o.lt;have d:=Af<|u.o.trans (v.mono u.o.size);have l:=Af<|Ah.new D D5 #[(ans (a+1)),C F G L,C M S W,X,Y];let⟨a1,a2⟩:=(au.o.below d).errs 0 (by simp);go_upto_region 7 with fail;generalize D.heap.size=aq at l|-;generalize D.alloc (K #[(ans (a+1)),C F G L,C M S W,X,Y] D5)=aa at g o d l a2|-;have bf:=a0.o;have bg:=Rl a1 aa
   cases m:ans (a+1) with
   |true=>
    have a3:aa.cell? aq=true:=m▸l.o.cell 0;have ab:=Af m;go_wp2_with (at_builtin;refine B9 _ rfl (.tmp 38) (.tmp 39) 47 rfl (w+1) Cv ak (I J 0) 1 8 underlying47 al am an ao rfl (by decide) _ _ _ rfl (g.o.alloc _) _ 1 1 [I J 1] rfl rfl (En _ _ _) (by simp[B4]) (by unfold Al;omega) (by omega) (by have:=o.o.lt;simp;omega) ?_;intro a4 a5 i p _ ac;have ad:=Af i;have q:=Af p;obtain⟨a6,a7,rfl⟩:=Ag i;clear i p ac);go_wp2
    go_roundw
    case rel=>
     refine⟨a+1,by go_num,by omega,?_,(o.o.alloc _).grown q (λae=>by have:=(Ai g ae.symm).1;omega),(d.o.alloc d.o.size _).grown q (by have:=d.o.size;simp;omega) (λa8 b=>by have:=(Ai g b).1;omega)⟩;rw[LJ,ab.o];exact ad
    case measure=>simp[intOf];omega
   |false=>
    have a3:aa.cell? aq=false:=m▸l.o.cell 0;have ab:=Af m;go_wp2_with (at_builtin;refine B9 _ rfl (.tmp 21) (.tmp 22) 47 rfl (w+1) Cv ak (I J 0) 1 8 underlying47 al am an ao rfl (by decide) _ _ _ rfl (g.o.alloc _) _ 1 1 [I J 2] rfl rfl (En _ _ _) (by simp[B4]) (by unfold Al;omega) (by omega) (by have:=o.o.lt;simp;omega) ?_;intro a4 a5 i p _ ac;have ad:=Af i;have q:=Af p;obtain⟨a6,a7,rfl⟩:=Ag i;clear i p ac);go_wp2
    go_roundw
    case rel=>
     refine⟨a+1,by go_num,by omega,?_,(o.o.alloc _).grown q (λae=>by have:=(Ai g ae.symm).1;omega),(d.o.alloc d.o.size _).grown q (by have:=d.o.size;simp;omega) (λa8 b=>by have:=(Ai g b).1;omega)⟩;rw[LJ,ab.o];exact ad
    case measure=>simp[intOf];omega
  .obtain rfl:a=4:=by omega
   go_wp2;go_ret2;exact⟨_,rfl,Aw B (Ax _),u⟩
theorem AcU{w:U}{v:N}{txs:List St}(q:DD 7 D3 w v txs)(id:Int)(D:txs.length<=1000):
 Calls prog 144 #[v,id] w λd Y=>Below w w Y/\((∃(a:Nat) (s:St),txs[a]?=s/\s.id=id/\(∀(b:Nat) (e:St),b<a->txs[b]?=e->e.id≠id)/\d=R (.tuple #[(a:Int),true]))∨((∀s∈txs,s.id≠id)/\d=R (.tuple #[(),false]))):=by
 obtain⟨al,c,rfl⟩:=q.shape;have Z:=Af q;have F:=Af D;go_in;go_upto_region 2 with fail
 go_loopw [10] (λr wr=>∃a:Nat,r=(a:Int)/\a<=txs.length/\(∀(b:Nat) (e:St),b<a->txs[b]?=e->e.id≠id)/\Below w w wr) (λr _=>1001-(intOf r).toNat)
 case atStart=>exact⟨0,rfl,A9 _,λb e h=>by omega,Ae _ _⟩
 case round=>
  obtain⟨a,rfl,aa,t,n⟩:=hrel;have u:=Af t;have x:=Af n;by_cases j:a<txs.length
  .obtain⟨s,k⟩:∃s,txs[a]?=E s:=⟨txs[a],An j⟩;obtain⟨G,L,am,rfl,-,-,-,ab,⟨an,rfl,M⟩,y⟩:=Z.o.at k;obtain⟨o,p,rfl⟩:=M.shape;have g:∀(d:Nat) (l:N),([s.id,s.thr,s.status,s.beg,s.fin,s.tri,C o s.deeds.length p]:List N)[d]?=E l->wr.cell? ⟨G,L+a*7+d,O⟩=E l:=λd l h=>(n.cell (Ad w _ (y d l h))).trans (y d l h);have ac:wr.cell? ⟨G,L+a*7,O⟩=_:=g 0 _ rfl;have ad:=g 1 _ rfl;have ae:=g 2 _ rfl;have af:=g 3 _ rfl;have ag:=g 4 _ rfl;have ah:=g 5 _ rfl;have ai:=g 6 _ rfl;have S:=Af k;have W:=Af j;have ao:(0:Int)<=(a:Int):=by omega
   have ap:(a:Int)<(txs.length:Int):=by omega
   have aq:(txs.length:Int)<=1000:=by have:=F.o;omega
   have aj:decide (a<txs.length)=true:=by simpa using j
   go_upto_region 4 with fail;have z:=Af<|x.o.alloc x.o.size (K #[s.id,s.thr,s.status,s.beg,s.fin,s.tri,C o s.deeds.length p] Bq);have A:=Af<|Ah.new wr Bq #[s.id,s.thr,s.status,s.beg,s.fin,s.tri,C o s.deeds.length p];generalize wr.heap.size=ar at A|-;generalize wr.alloc (K #[s.id,s.thr,s.status,s.beg,s.fin,s.tri,C o s.deeds.length p] Bq)=au at z A|-;have av:=A.o.cell 0;by_cases i:s.id=id
   .have X:=Af i;subst i;go_wp2;go_ret2;exact⟨z,.inl ⟨a,s,S,rfl,u,rfl⟩⟩
   .have aw:(s.id==id)=false:=by simpa using i
    have ax:decide (s.id=id)=false:=by simpa using i
    have X:=Af i;go_wp2
    go_roundw
    case rel=>exact⟨a+1,by go_num,W,λb e B m=>by
     by_cases ak:b=a
     .subst ak;rw[S.o] at m;injection m with m;exact m▸X.o
     .exact u.o b e (by omega) m,z⟩
    case measure=>simp[intOf];have:=W.o;have:=F.o;omega
  .obtain rfl:a=txs.length:=by omega
   have aj:decide (txs.length<txs.length)=false:=by simp
   go_wp2;go_ret2;refine⟨x,.inr ⟨λs k=>?_,rfl⟩⟩;let⟨b,B⟩:=E8 k;exact u.o b s (Am.1 B).1 B
abbrev tQn:Ab:=314
def XO:Array N:= #[.func (.func 226) #[] #[],.func (.func 227) #[] #[],.func (.func 228) #[] #[],.func (.func 229) #[] #[]]
theorem Mg(w:U):Calls prog 145 #[] w λb a=>b=R (C w 4 4)/\Ah a w tQn XO/\Below w w a:=by
 have d:=Af<|Ah.new w tQn XO;have e:=Af<|Zc w (K XO tQn);go_in;go_wp2;go_ret;exact⟨rfl,d,e⟩
def GS(s:St)(c:Bool):Bool:= !(c&&s.status !=3&&s.status !=2|| !c&&s.status==3)
theorem PX{w0 w:U}{s:St}{q:List N}(h:D3 w0 s q)(o:N)(id:Int)(cm:Bool)(g:GS s cm=true):
 Calls prog 227 #[o,.agg q.toArray,.agg #[id,cm]] w λp r=>p=R .nilIface/\Below w w r:=by
 obtain⟨x,rfl,i⟩:=h;obtain⟨d,e,rfl⟩:=i.shape;have j:=AG w (K #[s.id,s.thr,s.status,s.beg,s.fin,s.tri,C d s.deeds.length e] Bq)<|K #[id,cm] BW;have k:=Af j;have l:=Af<|(Ah.new w Bq #[s.id,s.thr,s.status,s.beg,s.fin,s.tri,C d s.deeds.length e]).alloc (K #[id,cm] BW);have m:=Af<|Bo w (K #[s.id,s.thr,s.status,s.beg,s.fin,s.tri,C d s.deeds.length e] Bq) BW #[id,cm];obtain⟨a,b,t,u,y,v⟩:∃a b,(s.status==3)=a/\(s.status !=3)= !a/\(s.status==2)=b/\(s.status !=2)= !b:=⟨_,_,rfl,rfl,rfl,rfl⟩;have n:(cm&& !a&& !b|| !cm&&a)=false:=by rwa [GS,t,u,v,HM] at g
 go_in;go_upto_region 1 with fail;generalize (w.alloc (K #[s.id,s.thr,s.status,s.beg,s.fin,s.tri,C d s.deeds.length e] Bq)).alloc (K #[id,cm] BW)=z at k l m|-;have A:=l.o.cell 2;have B:=m.o.cell 1
 cases cm<;>cases a<;>cases b<;>simp only[Bool.and_true,Bool.and_false,Bool.true_and,Bool.false_and,Bool.not_true,Bool.not_false,Bool.or_false,Bool.or_true,Bool.false_or,Bool.true_or,Bool.true_eq_false,Bool.false_eq_true] at n
 all_goals
  go_wp2;go_ret;exact⟨rfl,k⟩
abbrev Qn:Ab:=220
abbrev XP:Ab:=170
theorem Fk:prog.underlying XP=E (.map 3 4):=by kernel_rfl
theorem Kr(w:U):(zeroValue 4).run prog w=.ok false w:=by kernel_rfl
theorem T6{w0 w:U}{s:St}{q:List N}{v u z:N}{f:Int->Option N}(h:D3 w0 s q)(e:Ah w b Qn #[v,u,.map (E m),z])(g:Az w m n f)(k:f s.id=O)(l:0<=s.id)(o:s.id<=1000)(id:Int)(cm:Bool):
 Calls prog 226 #[b,.agg q.toArray,.agg #[id,cm]] w λD F=>D=R .nilIface/\Below w w F:=by
 obtain⟨S,rfl,p⟩:=h;obtain⟨i,j,rfl⟩:=p.shape;have a:=AG w (K #[s.id,s.thr,s.status,s.beg,s.fin,s.tri,C i s.deeds.length j] Bq)<|K #[id,cm] BW;have r:=Af a;have t:=Af<|(Ah.new w Bq #[s.id,s.thr,s.status,s.beg,s.fin,s.tri,C i s.deeds.length j]).alloc (K #[id,cm] BW);have x:=Af<|e.below a e.lt;have y:=Af<|g.below a g.lt;have G:=Af k;have A:=Af<|And.intro l o;go_in;go_upto_region 1 with fail;generalize (w.alloc (K #[s.id,s.thr,s.status,s.beg,s.fin,s.tri,C i s.deeds.length j] Bq)).alloc (K #[id,cm] BW)=B at r t x y|-
 have W:∀d,(B1 XP (.map (E m)) s.id false).run prog (B.drewN d)=.ok false (B.drewN d):=λd=>by
  have L:=(y.o.drewN d).look Fk (Kr _) (k:=s.id) (by have:=A.o;omega) (by have:=A.o;omega);rwa [G.o] at L
 have X:=t.o.cell 0;have Y:=x.o.cell 2;go_quiet (fail);have M:=Af<|below_drewN r nq;go_wp2;go_ret;exact⟨rfl,M⟩
theorem AeL{w:U}{s:St}{q:List N}{v u:N}{l l2:List AO}{ap:List Int}{M:Nat}(h:D3 w s q)(af:Ah w b Qn #[I J 3,v,u,C A l.length c])(aq:CH w (C A l.length c) l)(a4:DC ap l)(a5:∀d∈s.deeds,Fp ap d)(a6:∀bd∈l,bd.sz<=M)(a7:M+s.deeds.length<=1000000)(a8:ap.length<=1000)(a9:AE w)(ar:AP l s.deeds=l2)(id:Int)(cm:Bool):
 Calls prog 229 #[b,.agg q.toArray,.agg #[id,cm]] w λZ r=>Z=R .nilIface/\Ay [b] w r/\∃au,Ah r b Qn #[I J 3,v,u,au]/\CH r au (if cm then l2 else l):=by
 obtain⟨bk,rfl,av⟩:=h;obtain⟨L,S,rfl⟩:=av.shape;have am:=AG w (K #[s.id,s.thr,s.status,s.beg,s.fin,s.tri,C L s.deeds.length S] Bq)<|K #[id,cm] BW;have X:=Af am;have o:=Af<|(Ah.new w Bq #[s.id,s.thr,s.status,s.beg,s.fin,s.tri,C L s.deeds.length S]).alloc (K #[id,cm] BW);have x:=Af<|Bo w (K #[s.id,s.thr,s.status,s.beg,s.fin,s.tri,C L s.deeds.length S] Bq) BW #[id,cm];have m:=Af<|af.below am af.lt;have ag:=Af<|aq.below am
 have an:=Af (λ(aw:U) (ax:Below w w aw)=>(R9 (aq.below ax) (av.below ax) a4 a5 a6 a7 a8 (a9.below ax)).mono (R':=λZ r=>Below aw aw r/\∃a e,Z=R (.tuple #[.agg #[C a l2.length e],.nilIface])/\CH r (C a l2.length e) l2) (λZ r be=>by
  obtain⟨af,(⟨bl,au,ab,bf,ba⟩|⟨ab,_⟩)⟩:=be
  .rw[ar] at ab;injection ab with ab;subst ab;obtain⟨a,e,rfl⟩:=ba.shape;exact⟨af,a,e,bf,ba⟩
  .rw[ar] at ab
   cases ab))
 go_in;go_upto_region 1 with fail;generalize bg:(w.alloc (K #[s.id,s.thr,s.status,s.beg,s.fin,s.tri,C L s.deeds.length S] Bq)).alloc (K #[id,cm] BW)=g at X o x m ag|-;have bb:=o.o.cell 6;have aa:=x.o.cell 1;have bm:=m.o.cell 0;have bc:=m.o.cell 3
 cases cm
 case false=>
  go_upto_region 3 with fail;have ah:b≠g.heap.size:=by have:=m.o.lt;omega
  have ay:w.heap.size≠g.heap.size:=by have:=o.o.lt;omega
  have y:∀ {t:U},Ah t b Qn #[I J 3,v,u,C A l.length c]->Ah t w Bq #[s.id,s.thr,s.status,s.beg,s.fin,s.tri,C L s.deeds.length S]->t.cell? ⟨b,3,O⟩=E (C A l.length c)/\t.cell? ⟨w.heap.size,6,O⟩=E (C L s.deeds.length S):=λh az=>⟨h.cell 3,az.cell 6⟩;have ac:=Af X.o.drew;have ai:=Af (Zc g (K #[C O 0 0] BS)).drew;have ad:=Af<|(X.o.alloc X.o.size (K #[C O 0 0] BS)).drew;have aj:=Af<|(Ah.new g BS #[C O 0 0]).drew
  go_region_held_law (λr=>r.cell? ⟨b,3,O⟩=E (C A l.length c)/\r.cell? ⟨w.heap.size,6,O⟩=E (C L s.deeds.length S)) (first|(go_keep;done)|with_reducible exact⟨bc,bb⟩|with_reducible exact y n.o z.o|with_reducible exact y (m.o.alloc _).drew (o.o.alloc _).drew|with_reducible exact y (n.o.alloc _) (z.o.alloc _)|with_reducible exact y n.o.drew z.o.drew|with_reducible exact y (n.o.far ah _) (z.o.far ay _)) (first
   |(with_reducible refine(an.o ((g.alloc (K #[C O 0 0] BS)).drew) ad.o).mono ?_;rintro Z W ⟨j,a,e,rfl,B⟩;have k:=Af (aj.o.below j aj.o.lt);have a0:=k.o.cell 0;have a1:=k.o.frozen 0;have a2:=k.o.lt;have n:=Af (((m.o.alloc (K #[C O 0 0] BS)).drew).below j ((m.o.alloc (K #[C O 0 0] BS)).drew).lt);have z:=Af (((o.o.alloc (K #[C O 0 0] BS)).drew).below j ((o.o.alloc (K #[C O 0 0] BS)).drew).lt);have ae:=Af (((x.o.alloc (K #[C O 0 0] BS)).drew).below j ((x.o.alloc (K #[C O 0 0] BS)).drew).lt);have ak:=Af (ag.o.below (ai.o.trans (j.mono ai.o.size)));have Y:=Af (ad.o.trans (j.mono ad.o.size));have al:=Af B;have a3:=Af j;clear B j)
   |(with_reducible refine(an.o g.drew ac.o).mono ?_;rintro Z W ⟨j,a,e,rfl,B⟩;have n:=Af (m.o.drew.below j m.o.drew.lt);have z:=Af (o.o.drew.below j o.o.drew.lt);have ae:=Af (x.o.drew.below j x.o.drew.lt);have ak:=Af (ag.o.below ((Zb g).drew.trans (j.mono (show g.heap.size<=g.drew.heap.size from Aa _))));have Y:=Af (ac.o.trans (j.mono ac.o.size));have al:=Af B;have a3:=Af j;clear B j))
  .have k:=Af<|n.o.alloc (K #[C a l2.length e] BS);have aa:=(ae.o.alloc (K #[C a l2.length e] BS)).cell 1;have D:=Af<|Y.o.alloc Y.o.size (K #[C a l2.length e] BS);have F:=Af<|ak.o.below ((Ae _ _).alloc (Aa _) (K #[C a l2.length e] BS));generalize W.alloc (K #[C a l2.length e] BS)=t at k aa D F|-;go_wp2;go_ret;exact⟨rfl,Ay.of_below D.o (Aa _),_,k.o,F.o⟩
  .have G:=Af<|n.o.far (p:=g) ah (C a l2.length e);have aa:=(ae.o.far (p:=g) (show w.heap.size+1≠g.heap.size by have:=x.o.lt;omega) (C a l2.length e)).cell 1;have D:=Af<|Y.o.setCell (p:=g) (show w.heap.size<=g.heap.size from X.o.size) (C a l2.length e);have F:=Af<|ak.o.kept ⟨AD.set k.o (i:=0) (by decide) (C a l2.length e),AD.set k.o (i:=0) (by decide) (C a l2.length e),AD.set k.o (i:=0) (by decide) (C a l2.length e)⟩;generalize W.setCell g (C a l2.length e)=t at G aa D F|-;go_wp2;go_ret;exact⟨rfl,Ay.of_below D.o (Aa _),_,G.o,F.o⟩
 case true=>
  go_upto_region 3 with fail;have ah:b≠g.heap.size:=by have:=m.o.lt;omega
  have ay:w.heap.size≠g.heap.size:=by have:=o.o.lt;omega
  have y:∀ {t:U},Ah t b Qn #[I J 3,v,u,C A l.length c]->Ah t w Bq #[s.id,s.thr,s.status,s.beg,s.fin,s.tri,C L s.deeds.length S]->t.cell? ⟨b,3,O⟩=E (C A l.length c)/\t.cell? ⟨w.heap.size,6,O⟩=E (C L s.deeds.length S):=λh az=>⟨h.cell 3,az.cell 6⟩;have ac:=Af X.o.drew;have ai:=Af (Zc g (K #[C O 0 0] BS)).drew;have ad:=Af<|(X.o.alloc X.o.size (K #[C O 0 0] BS)).drew;have aj:=Af<|(Ah.new g BS #[C O 0 0]).drew
  go_region_held_law (λr=>r.cell? ⟨b,3,O⟩=E (C A l.length c)/\r.cell? ⟨w.heap.size,6,O⟩=E (C L s.deeds.length S)) (first|(go_keep;done)|with_reducible exact⟨bc,bb⟩|with_reducible exact y n.o z.o|with_reducible exact y (m.o.alloc _).drew (o.o.alloc _).drew|with_reducible exact y (n.o.alloc _) (z.o.alloc _)|with_reducible exact y n.o.drew z.o.drew|with_reducible exact y (n.o.far ah _) (z.o.far ay _)) (first
   |(with_reducible refine(an.o ((g.alloc (K #[C O 0 0] BS)).drew) ad.o).mono ?_;rintro Z W ⟨j,a,e,rfl,B⟩;have k:=Af (aj.o.below j aj.o.lt);have a0:=k.o.cell 0;have a1:=k.o.frozen 0;have a2:=k.o.lt;have n:=Af (((m.o.alloc (K #[C O 0 0] BS)).drew).below j ((m.o.alloc (K #[C O 0 0] BS)).drew).lt);have z:=Af (((o.o.alloc (K #[C O 0 0] BS)).drew).below j ((o.o.alloc (K #[C O 0 0] BS)).drew).lt);have ae:=Af (((x.o.alloc (K #[C O 0 0] BS)).drew).below j ((x.o.alloc (K #[C O 0 0] BS)).drew).lt);have ak:=Af (ag.o.below (ai.o.trans (j.mono ai.o.size)));have Y:=Af (ad.o.trans (j.mono ad.o.size));have al:=Af B;have a3:=Af j;clear B j)
   |(with_reducible refine(an.o g.drew ac.o).mono ?_;rintro Z W ⟨j,a,e,rfl,B⟩;have n:=Af (m.o.drew.below j m.o.drew.lt);have z:=Af (o.o.drew.below j o.o.drew.lt);have ae:=Af (x.o.drew.below j x.o.drew.lt);have ak:=Af (ag.o.below ((Zb g).drew.trans (j.mono (show g.heap.size<=g.drew.heap.size from Aa _))));have Y:=Af (ac.o.trans (j.mono ac.o.size));have al:=Af B;have a3:=Af j;clear B j))
  .have k:=Af<|n.o.alloc (K #[C a l2.length e] BS);have aa:=(ae.o.alloc (K #[C a l2.length e] BS)).cell 1;have D:=Af<|Y.o.alloc Y.o.size (K #[C a l2.length e] BS);have F:=Af<|al.o.below ((Ae _ _).alloc (Aa _) (K #[C a l2.length e] BS));have ao:=(Ah.new W BS #[C a l2.length e]).cell 0;generalize W.heap.size=bn at ao|-;generalize W.alloc (K #[C a l2.length e] BS)=t at k aa D F ao|-;have bh:=k.o.cell 3;have bi:=k.o.frozen 3;have bj:=k.o.lt;go_wp2;go_ret;exact⟨rfl,(Ay.of_below D.o (Aa _)).setCell (p:=⟨b,3,O⟩) (.inl (by simp)) _,_,by simpa using k.o.put 3 (C a l2.length e),F.o.kept ⟨AD.set k.o (i:=3) (by decide) _,AD.set k.o (i:=3) (by decide) _,AD.set k.o (i:=3) (by decide) _⟩⟩
  .have G:=Af<|n.o.far (p:=g) ah (C a l2.length e);have aa:=(ae.o.far (p:=g) (show w.heap.size+1≠g.heap.size by have:=x.o.lt;omega) (C a l2.length e)).cell 1;have D:=Af<|Y.o.setCell (p:=g) (show w.heap.size<=g.heap.size from X.o.size) (C a l2.length e);have F:=Af<|al.o.kept ⟨AD.set k.o (i:=0) (by decide) (C a l2.length e),AD.set k.o (i:=0) (by decide) (C a l2.length e),AD.set k.o (i:=0) (by decide) (C a l2.length e)⟩;have ao:(W.setCell g (C a l2.length e)).cell? g=E (C a l2.length e):=by simpa using (k.o.put 0 (C a l2.length e)).cell 0
   generalize W.setCell g (C a l2.length e)=t at G aa D F ao|-;have bh:=G.o.cell 3;have bi:=G.o.frozen 3;have bj:=G.o.lt;go_wp2;go_ret;exact⟨rfl,(Ay.of_below D.o (Aa _)).setCell (p:=⟨b,3,O⟩) (.inl (by simp)) _,_,by simpa using G.o.put 3 (C a l2.length e),F.o.kept ⟨AD.set G.o (i:=3) (by decide) _,AD.set G.o (i:=3) (by decide) _,AD.set G.o (i:=3) (by decide) _⟩⟩
def XQ(d:Oo)(a:Array Oper):Array Bool->Act->List (Nat×Nat)->Bool
 |_,_,[]=>true
 |e,g,(b,i)::k=>match a[b]? with
  |some j=>S5 a&&S6 d a e b&&(FW d a e).contains b&& !Gv j (yielded a g.tmps)&&decide (j.dst=i)&&XQ d a (e.setIfInBounds b true) (g.put (E i) Ac) k
  |none=>false
def NI:Act->List (Nat×Nat)->Act
 |a,[]=>a
 |a,(_,b)::d=>NI (a.put (E b) Ac) d
def SB:Array Bool->List (Nat×Nat)->Array Bool
 |a,[]=>a
 |a,(b,_)::d=>SB (a.setIfInBounds b true) d
theorem AeM{P:Program}{g:Oo}{i:Array Oper}{e:Exit->Act->U->Prop}{S:U->Prop}:∀(b:List (Nat×Nat)) {fuel:Nat} {l:Array Bool} {a:Act} {w:U},XQ g i l a b=true->(∀(j:Nat) c a w,e (.panic c) (a.put (E j) Ac) w->e (.panic c) a w)->S w->wpAnyH P g i e S fuel (SB l b) (NI a b) w->wpAnyH P g i e S (fuel+b.length) l a w
 |[],_,_,_,_,_,_,_,h=>h
 |(x,j)::b,fuel,l,a,w,d,k,m,h=>by
  unfold XQ at d;unfold NI SB at h
  split at d
  .next y o=>
   simp only[EG,HM,decide_eq_true_eq] at d;obtain⟨⟨⟨⟨⟨p,q⟩,r⟩,t⟩,n⟩,u⟩:=d;exact Ds (v:=Ac) (fuel:=fuel+b.length) o p q r (n▸k j) (Or.inr ⟨t,rfl⟩) m<|n▸AeM b u k m h
  .cases d
theorem XR{P:Program}{e:Oo}{b:Array Oper}{g:Exit->Act->U->Prop}{S:U->Prop}(i d:Nat){j:Oper}{v:N}{fuel:Nat}{l:Array Bool}{a:Act}{w:U}(m:b[i]?=j)(k:j.dst=d)(n:Gv j (yielded b a.tmps)=true)(o:∀w,S w->(execOp a.eval j).run P w=.ok (.value v) w)(p:S w)
 (h:wpAnyH P e b g S fuel (l.setIfInBounds i true) (a.put (E d) v) w) (q:S5 b=true:=by kernel_rfl) (r:S6 e b l i=true:=by kernel_rfl) (t:(FW e b l).contains i=true:=by kernel_rfl) (u:∀c a w,g (.panic c) (a.put (E d) v) w->g (.panic c) a w:=by exact λ_ _ _ h=>h):wpAnyH P e b g S (fuel+1) l a w:=Ds m q r t (k▸u) (Or.inl ⟨n,o⟩) p (k▸h)
theorem XS{w:U}{s:St}{q:List N}{u:N}{txs:List St}(h:D3 w s q)(M:Ah w b Qn #[I J 3,C A txs.length c,.map (E m),u])(ai:DD 7 D3 w (C A txs.length c) txs)(aj:txs.length<=12)(ak:∀o∈txs,B8 o s=false)(id:Int)(cm:Bool):
 Calls prog 228 #[b,.agg q.toArray,.agg #[id,cm]] w λi a=>i=R .nilIface/\Below w w a:=by
 obtain⟨az,rfl,n⟩:=h;obtain⟨r,t,rfl⟩:=n.shape;have W:=AG w (K #[s.id,s.thr,s.status,s.beg,s.fin,s.tri,C r s.deeds.length t] Bq)<|K #[id,cm] BW;have X:=Af W;have Y:=Af<|(Ah.new w Bq #[s.id,s.thr,s.status,s.beg,s.fin,s.tri,C r s.deeds.length t]).alloc (K #[id,cm] BW);have x:=Af<|M.below W M.lt;have a0:=Af ai;have al:=Af aj;have a1:=Af ak;have a2:=Af (show D3 w s _ from⟨_,rfl,n⟩);go_in;go_upto_region 1 with fail;generalize (w.alloc (K #[s.id,s.thr,s.status,s.beg,s.fin,s.tri,C r s.deeds.length t] Bq)).alloc (K #[id,cm] BW)=am at X Y x|-;have a3:=x.o.cell 0;have a4:=x.o.cell 1;go_upto_region 4 with fail
 go_loopw [19] (λZ wr=>∃e:Nat,Z=(e:Int)/\e<=txs.length/\Below am am wr) (λZ _=>13-(intOf Z).toNat)
 case atStart=>exact⟨0,rfl,A9 _,Ae _ _⟩
 case round=>
  obtain⟨e,rfl,a5,D⟩:=hrel;have F:=X.o.trans<|D.mono X.o.size;by_cases y:e<txs.length
  .obtain⟨o,aa⟩:∃o,txs[e]?=E o:=⟨txs[e],An y⟩;obtain⟨an,ao,q,rfl,-,-,-,a6,ap,ab⟩:=a0.o.at aa;have aq:=Af ap;obtain⟨az,rfl,n⟩:=ap;obtain⟨j,k,rfl⟩:=n.shape;have l:∀(i:Nat) (z:N),([o.id,o.thr,o.status,o.beg,o.fin,o.tri,C j o.deeds.length k]:List N)[i]?=E z->wr.cell? ⟨an,ao+e*7+i,O⟩=E z:=λi z h=>(F.cell (Ad w _ (ab i z h))).trans (ab i z h);have a7:wr.cell? ⟨an,ao+e*7,O⟩=_:=l 0 _ rfl;have a8:=l 1 _ rfl;have a9:=l 2 _ rfl;have ba:=l 3 _ rfl;have bb:=l 4 _ rfl;have bc:=l 5 _ rfl;have bd:=l 6 _ rfl;have be:=Af<|Ap aa;have ar:=Af y;have G:=Af D;have bk:(0:Int)<=(e:Int):=by omega
   have bl:(e:Int)<(txs.length:Int):=by omega
   have bm:(txs.length:Int)<=12:=by have:=al.o;omega
   have bf:decide (e<txs.length)=true:=by simpa using y
   go_upto_region 6 with fail;have ac:=Af<|G.o.alloc G.o.size (K #[o.id,o.thr,o.status,o.beg,o.fin,o.tri,C j o.deeds.length k] Bq);have L:=Af<|Ah.new wr Bq #[o.id,o.thr,o.status,o.beg,o.fin,o.tri,C j o.deeds.length k];have ad:=Af<|(x.o.below G x.o.lt).alloc (K #[o.id,o.thr,o.status,o.beg,o.fin,o.tri,C j o.deeds.length k] Bq);have ae:=Af<|(Y.o.below G Y.o.lt).alloc (K #[o.id,o.thr,o.status,o.beg,o.fin,o.tri,C j o.deeds.length k] Bq);generalize wr.heap.size=d at L|-;generalize wr.alloc (K #[o.id,o.thr,o.status,o.beg,o.fin,o.tri,C j o.deeds.length k] Bq)=p at ac L ad ae|-
   have af:∀ {a:U},Below p p a->a.cell? b=E (I J 3)/\a.cell? ⟨b,2,O⟩=E (.map (E m))/\a.cell? d=o.id/\a.cell? ⟨d,1,O⟩=o.thr/\a.cell? ⟨d,2,O⟩=o.status/\a.cell? ⟨d,3,O⟩=o.beg/\a.cell? ⟨d,4,O⟩=o.fin/\a.cell? ⟨d,5,O⟩=o.tri/\a.cell? ⟨d,6,O⟩=E (C j o.deeds.length k)/\a.cell? w=s.id/\a.cell? ⟨w.heap.size,1,O⟩=s.thr/\a.cell? ⟨w.heap.size,2,O⟩=s.status/\a.cell? ⟨w.heap.size,3,O⟩=s.beg/\a.cell? ⟨w.heap.size,4,O⟩=s.fin/\a.cell? ⟨w.heap.size,5,O⟩=s.tri/\a.cell? ⟨w.heap.size,6,O⟩=E (C r s.deeds.length t):=λh=>by
    have au:=ad.o.below h ad.o.lt;have b:=L.o.below h L.o.lt;have c:=ae.o.below h ae.o.lt;exact⟨au.cell 0,au.cell 2,b.cell 0,b.cell 1,b.cell 2,b.cell 3,b.cell 4,b.cell 5,b.cell 6,c.cell 0,c.cell 1,c.cell 2,c.cell 3,c.cell 4,c.cell 5,c.cell 6⟩
   have bg:=Af<|Zb p;have av:=Af bg.o.drew;have bh:Be o 3=true:=rfl;have bi:=a1.o o be;refine wp_region_held_drew (S:=λa=>a.cell? b=E (I J 3)/\a.cell? ⟨b,2,O⟩=E (.map (E m))/\a.cell? d=o.id/\a.cell? ⟨d,1,O⟩=o.thr/\a.cell? ⟨d,2,O⟩=o.status/\a.cell? ⟨d,3,O⟩=o.beg/\a.cell? ⟨d,4,O⟩=o.fin/\a.cell? ⟨d,5,O⟩=o.tri/\a.cell? ⟨d,6,O⟩=E (C j o.deeds.length k)/\a.cell? w=s.id/\a.cell? ⟨w.heap.size,1,O⟩=s.thr/\a.cell? ⟨w.heap.size,2,O⟩=s.status/\a.cell? ⟨w.heap.size,3,O⟩=s.beg/\a.cell? ⟨w.heap.size,4,O⟩=s.fin/\a.cell? ⟨w.heap.size,5,O⟩=s.tri/\a.cell? ⟨w.heap.size,6,O⟩=E (C r s.deeds.length t)) (by kernel_rfl) (af av) (λag=>?_);refine XR 0 23 (v:= ?_) rfl rfl rfl ?_ (by assumption) ?_
   rotate_left
   .intro w g;first|(go_simp;done)|(go_simp;with_reducible rfl)
   try simp only[A6,A7,A4,A3]
   refine XR 1 24 (v:= ?_) rfl rfl rfl ?_ (by assumption) ?_
   rotate_left
   .intro w g;first|(go_simp;done)|(go_simp;with_reducible rfl)
   try simp only[A6,A7,A4,A3]
   refine XR 2 25 (v:= ?_) rfl rfl rfl ?_ (by assumption) ?_
   rotate_left
   .intro w g;first|(go_simp;done)|(go_simp;with_reducible rfl)
   try simp only[A6,A7,A4,A3]
   refine XR 3 26 (v:= ?_) rfl rfl rfl ?_ (by assumption) ?_
   rotate_left
   .intro w g;first|(go_simp;done)|(go_simp;with_reducible rfl)
   try simp only[A6,A7,A4,A3]
   refine XR 4 27 (v:= ?_) rfl rfl rfl ?_ (by assumption) ?_
   rotate_left
   .intro w g;first|(go_simp;done)|(go_simp;with_reducible rfl)
   try simp only[A6,A7,A4,A3]
   refine E9 (rs:=[5]) (by kernel_rfl) (by simp) ?_;refine EX rfl (λK B=>?_) Fa;go_simp;refine(Dl aq 3 _).mono ?_;rintro i bn ⟨rfl,aw⟩;have ah:=Af<|av.o.trans (aw.mono (show p.heap.size<=p.drew.heap.size from Aa _));rw[bh];refine B.out _ _ (af ah) (λag=>?_)
   try simp only[A6,A7,A4,A3]
   refine XR 6 29 (v:= ?_) rfl rfl rfl ?_ (by assumption) ?_
   rotate_left
   .intro w g;first|(go_simp;done)|(go_simp;with_reducible rfl)
   try simp only[A6,A7,A4,A3]
   refine XR 7 30 (v:= ?_) rfl rfl rfl ?_ (by assumption) ?_
   rotate_left
   .intro w g;first|(go_simp;done)|(go_simp;with_reducible rfl)
   try simp only[A6,A7,A4,A3]
   refine XR 8 31 (v:= ?_) rfl rfl rfl ?_ (by assumption) ?_
   rotate_left
   .intro w g;first|(go_simp;done)|(go_simp;with_reducible rfl)
   try simp only[A6,A7,A4,A3]
   refine E9 (rs:=[9]) (by kernel_rfl) (by simp) ?_;refine EX rfl (λK B=>?_) Fa;go_simp;refine(Jk aq a2 _).mono ?_;rintro i bo ⟨rfl,ax⟩;have ay:=Af<|ah.o.trans (ax.mono ah.o.size);rw[bi];refine B.out _ _ (af ay) (λag=>?_)
   try simp only[A6,A7,A4,A3]
   refine XR 10 33 (v:= ?_) rfl rfl rfl ?_ (by assumption) ?_
   rotate_left
   .intro w g;first|(go_simp;done)|(go_simp;with_reducible rfl)
   try simp only[A6,A7,A4,A3]
   refine XR 11 34 (v:= ?_) rfl rfl rfl ?_ (by assumption) ?_
   rotate_left
   .intro w g;first|(go_simp;done)|(go_simp;with_reducible rfl)
   try simp only[A6,A7,A4,A3]
   refine AeM [(12,35),(13,36),(14,37),(15,38),(16,39),(17,40),(18,41),(19,42)] (fuel:=1) (by kernel_rfl) (λ_ _ _ _ h=>h) (by assumption) ?_;simp only[NI,SB,A6,A7,A4,A3];refine XR 20 43 (v:= ?_) rfl rfl rfl ?_ (by assumption) ?_
   rotate_left
   .intro w g;first|(go_simp;done)|(go_simp;with_reducible rfl)
   try simp only[A6,A7,A4,A3]
   refine wpAnyH_done (by kernel_rfl) ?_ _;go_wp2
   go_roundw
   case rel=>exact⟨e+1,by go_num,ar,ac.o.trans (ay.o.mono ac.o.size)⟩
   case measure=>simp[intOf];have:=ar.o;have:=al.o;omega
  .obtain rfl:e=txs.length:=by omega
   have bf:decide (txs.length<txs.length)=false:=by simp
   have bj:=Af F;go_wp2;go_ret;exact⟨rfl,bj⟩
def LK(txs:List St)(met:List Int)(l:List AO)(id:Int)(cm:Bool):Option (List AO):=
 match txs.find? (·.id==id) with
 |some s=>if Be s 3&& !met.contains id&&GS s cm&&txs.all (λa=> !B8 a s) then(AP l s.deeds).map λb=>if cm then b else l else O
 |none=>O
def PY(met:List Int):Int->Option N:=λa=>if met.contains a then E true else O
structure XT (w1 w:U) (b m n:Nat) (vt:N) (met:List Int) (l:List AO):Prop where
 blk:∃v,Ah w b Qn #[I J 3,vt,.map (E m),v]/\CH w v l
 map:Az w m n (PY met)
 hb:w1.heap.size<=b
 hm:w1.heap.size<=m
 below:Below w1 w1 w
theorem SC{w:U}{v:N}{txs:List St}(n:DD 7 D3 w v txs){id:Int}(o:txs.length<=1000){s:St}(p:txs.find? (·.id==id)=s):∃a:Nat,a<txs.length/\txs[a]?=s/\s.id=id/\∀ {d:U},Below w w d->
 Calls prog 144 #[v,id] d λk l=>k=R (.tuple #[(a:Int),true])/\Below d d l:=by
 let⟨q,a,e,g,r⟩:=Om.1 p;have i:s.id=id:=by simpa using q
 refine⟨a,e,by rw[An e,g],i,λ{d} t=>(AcU (DD.below D3.keeps n t) id o).mono ?_⟩;rintro k l ⟨u,(⟨j,z,b,x,y,rfl⟩|⟨b,_⟩)⟩
 .have:j=a:=by
   rcases Nat.lt_trichotomy j a with h|h|h
   .have m:=r j h;rw[An (by omega)] at b;injection b with b;rw[b] at m;simp[x] at m
   .exact h
   .exact absurd i<|y a s h (by rw[An e,g])
  subst this;exact⟨rfl,u⟩
 .exact absurd i<|b s (g▸List.getElem_mem e)
def SD:Nat->Nat
 |0=>226
 |1=>227
 |2=>228
 |_=>229
theorem Agk{w:U}{s:St}{q:List N}{v:N}{txs:List St}{met:List Int}{l l2:List AO}{o:List Int}{M:Nat}{id:Int}{cm:Bool}
 (h:D3 w s q) (i:Ah w b Qn #[I J 3,C A txs.length c,.map (E m),v]) (p:CH w v l) (x:DD 7 D3 w (C A txs.length c) txs) (y:txs.length<=12) (z:Az w m n (PY met)) (t:∀g∈txs,0<=g.id/\g.id<=1000) (u:s∈txs) (B:s.id=id)
 (D:met.contains id=false) (F:GS s cm=true) (G:txs.all (λg=> !B8 g s)=true) (L:AP l s.deeds=l2)
 (S:DC o l) (W:∀d∈s.deeds,Fp o d) (X:∀Y∈l,Y.sz<=M) (Z:M+s.deeds.length<=1000000) (aa:o.length<=1000) (ab:AE w) (k:Nat) (ac:k<4):
 Calls prog (SD k) #[b,.agg q.toArray,.agg #[id,cm]] w λe a=>e=R .nilIface/\Ay [b] w a/\∃j,Ah a b Qn #[I J 3,C A txs.length c,.map (E m),j]/\CH a j (if k=3 then(if cm then l2 else l) else l):=by
 subst B;have r:∀ {e:Ending} {a:U},e=R .nilIface/\Below w w a->e=R .nilIface/\Ay [b] w a/\∃j,Ah a b Qn #[I J 3,C A txs.length c,.map (E m),j]/\CH a j l:=λh=>⟨h.1,Ay.of_below h.2 (Aa _),v,i.below h.2 i.lt,p.below h.2⟩
 match k,ac with
 |0,_=>exact(T6 h i z (by rw[PY,D];rfl) (t s u).1 (t s u).2 s.id cm).mono λe a h=>r h
 |1,_=>exact(PX h _ s.id cm F).mono λe a h=>r h
 |2,_=>exact(XS h i x y (λg ad=>by simpa using HA.1 G g ad) s.id cm).mono λe a h=>r h
 |3,_=>
  obtain⟨ae,af,rfl⟩:=p.shape;exact(AeL h i p S W X Z aa ab L s.id cm).mono λe a h=>by simpa using h
theorem AeN{w1 w:U}{txs:List St}{met:List Int}{l l':List AO}{au:List Int}{M:Nat}{id:Int}{cm:Bool}
 (ak:DD 7 D3 w1 (C A txs.length c) txs) (av:txs.length<=12) (ab:∀al∈txs,0<=al.id/\al.id<=1000) (cs:XT w1 w b m n (C A txs.length c) met l) (aw:AE w1)
 (D:DC au l) (bc:∀s∈txs,∀d∈s.deeds,Fp au d) (bd:∀ac∈l,ac.sz<=M) (be:∀s∈txs,M+s.deeds.length<=1000000) (bf:au.length<=1000) (bg:n<Al) (u:LK txs met l id cm=l'):
 Calls prog 85 #[b,.agg #[id,cm]] w λk ct=>k=R .nilIface/\XT w1 ct b m (n+1) (C A txs.length c) (id::met) l':=by
 obtain⟨s,bh,bi,bj,bk,bl,F,bm,bn⟩:∃s,txs.find? (·.id==id)=E s/\Be s 3=true/\met.contains id=false/\GS s cm=true/\txs.all (λal=> !B8 al s)=true/\∃F,AP l s.deeds=E F/\(if cm then F else l)=l':=by
  unfold LK at u
  split at u
  .next s ad=>
   split at u
   .next h=>
    simp only[EG,HM] at h;obtain⟨⟨⟨cu,cv⟩,cw⟩,cx⟩:=h;let⟨F,cy,cz⟩:=Eo.1 u;exact⟨s,ad,cu,cv,cw,cx,F,cy,cz⟩
   .cases u
  .cases u
 let⟨i,q,ad,ax,hF⟩:=SC ak (by omega) bh;have ae:=Ap ad;obtain⟨e,g,du,rfl,-,-,-,c0,am,bo⟩:=ak.at ad;have c1:=am;obtain⟨dv,c2,bp⟩:=c1;obtain⟨G,L,rfl⟩:=bp.shape;subst c2;obtain⟨⟨S,bq,br⟩,bs,bt,bu,an⟩:=cs
 have af:∀(a:U),Below w1 w1 a->a.cell? ⟨e,g+i*7,O⟩=s.id/\a.cell? ⟨e,g+i*7+1,O⟩=s.thr/\a.cell? ⟨e,g+i*7+2,O⟩=s.status/\a.cell? ⟨e,g+i*7+3,O⟩=s.beg/\a.cell? ⟨e,g+i*7+4,O⟩=s.fin/\a.cell? ⟨e,g+i*7+5,O⟩=s.tri/\a.cell? ⟨e,g+i*7+6,O⟩=E (C G s.deeds.length L):=λa h=>by
  have af:∀(k:Nat) (W:N),([s.id,s.thr,s.status,s.beg,s.fin,s.tri,C G s.deeds.length L]:List N)[k]?=W->w1.cell? ⟨e,g+i*7+k,O⟩=W:=bo;have v:∀(k:Nat) (W:N),_->_:=λk W o=>(h.cell (Ad w1 _ (af k W o))).trans (af k W o);exact⟨v 0 _ rfl,v 1 _ rfl,v 2 _ rfl,v 3 _ rfl,v 4 _ rfl,v 5 _ rfl,v 6 _ rfl⟩
 have bv:=Zc w<|K #[id,cm] BW;have X:=Af<|an.alloc an.size (K #[id,cm] BW);have Y:=Af<|Ah.new w BW #[id,cm];have x:=Af<|bq.alloc (K #[id,cm] BW);have ay:=Af<|bs.alloc (K #[id,cm] BW);have bw:=Af<|br.below bv;have bz:=Af af;have c3:=Af (λ(a:U) (h:Below w1 w1 a)=>hF h);have c4:=Af am;have dw:=Af aw;have Z:=Af<|And.intro bi (And.intro bt bu);have c5:=Af (λ(a:U) (S:N) (i:Nat) (az:i<4) (a0:Below w1 w1 a) (c6:Ah a b Qn #[I J 3,C (E ⟨e,g,O⟩) txs.length c,.map (E m),S]) (c7:CH a S l) (c8:Az a m n (PY met))=>Agk (D3.keeps _ _ _ _ a0 am) c6 c7 (DD.below D3.keeps ak a0) av c8 ab ae ax bj bk bl bm D (bc s ae) bd (be s ae) bf (aw.below a0) i az (cm:=cm));have b0:=Af<|And.intro q av;have ao:=Af<|And.intro bg (And.intro (ax▸ab s ae) bn);have dx:=Af an.size;clear u bh bi bj bk bl bm bn ab aw bc D bd be bf bg c0 am bo bp bq br bs bt bu an bv af hF ad ae ax q av ak;go_in;go_upto_region 1 with fail;generalize dy:w.heap.size=p at Y|-;generalize w.alloc (K #[id,cm] BW)=r at X Y x ay bw|-;have b1:∀ {a:U},Below r r a->a.cell? ⟨b,1,O⟩=E (C (E ⟨e,g,O⟩) txs.length c)/\a.cell? p=id:=λh=>⟨(x.o.below h x.o.lt).cell 1,(Y.o.below h Y.o.lt).cell 0⟩;have b2:=Af (Zb r).drew
 go_region_held_law (λa=>a.cell? ⟨b,1,O⟩=E (C (E ⟨e,g,O⟩) txs.length c)/\a.cell? p=id) (first|(go_keep;done)|with_reducible exact b1 b2.o|with_reducible exact b1 b3.o) (with_reducible refine(c3.o r.drew X.o.drew).mono ?_;rintro k dz ⟨rfl,b4⟩;have b3:=Af (b2.o.trans (b4.mono (show r.heap.size<=r.drew.heap.size from Aa _)));clear b4)
 have b5:∀ {a:U},Below r r a->a.cell? b=E (I J 3)/\a.cell? ⟨b,1,O⟩=E (C (E ⟨e,g,O⟩) txs.length c)/\a.cell? ⟨e,g+i*7,O⟩=s.id/\a.cell? ⟨e,g+i*7+1,O⟩=s.thr/\a.cell? ⟨e,g+i*7+2,O⟩=s.status/\a.cell? ⟨e,g+i*7+3,O⟩=s.beg/\a.cell? ⟨e,g+i*7+4,O⟩=s.fin/\a.cell? ⟨e,g+i*7+5,O⟩=s.tri/\a.cell? ⟨e,g+i*7+6,O⟩=E (C G s.deeds.length L):=λ{a} h=>by
  have ap:=x.o.below h x.o.lt;exact⟨ap.cell 0,ap.cell 1,bz.o a (X.o.trans (h.mono X.o.size))⟩
 have d0:(0:Int)<=(i:Int):=by omega
 have d1:(i:Int)<(txs.length:Int):=by have:=b0.o.1;omega
 have d2:(txs.length:Int)<=12:=by have:=b0.o.2;omega
 have c9:=Z.o.1;have a1:=Af b3.o.drew;go_upto_region 2 with fail
 go_region_held_law (λa=>a.cell? b=E (I J 3)/\a.cell? ⟨b,1,O⟩=E (C (E ⟨e,g,O⟩) txs.length c)/\a.cell? ⟨e,g+i*7,O⟩=s.id/\a.cell? ⟨e,g+i*7+1,O⟩=s.thr/\a.cell? ⟨e,g+i*7+2,O⟩=s.status/\a.cell? ⟨e,g+i*7+3,O⟩=s.beg/\a.cell? ⟨e,g+i*7+4,O⟩=s.fin/\a.cell? ⟨e,g+i*7+5,O⟩=s.tri/\a.cell? ⟨e,g+i*7+6,O⟩=E (C G s.deeds.length L)) (first|(go_keep;done)|with_reducible exact b5 a1.o|with_reducible exact b5 a2.o) (with_reducible refine(Dl c4.o 3 _).mono ?_;rw[c9];rintro k da ⟨rfl,b6⟩;have a2:=Af (a1.o.trans (b6.mono a1.o.size));clear b6)
 go_upto_region 5 with (refine(Mg _).mono ?_;rintro k db ⟨rfl,b7,b8⟩;have b9:=Af b7;have ag:=Af (a2.o.trans (b8.mono a2.o.size));clear b7 b8);have ca:=Af<|X.o.trans (ag.o.mono X.o.size);have cb:=Af<|Y.o.below ag.o Y.o.lt;have aq:=Af<|x.o.below ag.o x.o.lt;have a3:=Af<|ay.o.below ag.o ay.o.lt;have dc:=Af<|bw.o.below ag.o;have cc:p≠b:=cb.o.apart aq.o (by decide)
 have dd:m≠b:=by
  rintro rfl;let⟨de,df,o⟩:=a3.o.obj;have y:=aq.o;rw[Ah,o] at y
  cases y
 go_loopw [40] (λa4 wr=>∃(j:Nat) (z:N),a4=(j:Int)/\j<=4/\Ay [b] db wr/\Ah wr b Qn #[I J 3,C (E ⟨e,g,O⟩) txs.length c,.map (E m),z]/\CH wr z (if j=4 then(if cm then F else l) else l)) (λa4 _=>5-(intOf a4).toNat)
 case atStart=>exact⟨0,S,rfl,by omega,Ay.refl _ _,aq.o,by simpa using dc.o⟩
 case round=>
  obtain⟨j,z,rfl,cd,B,a5,a6⟩:=hrel;have a7:=ca.o.trans<|B.below_of ca.o.size (λac t=>by rw[List.mem_singleton] at t;subst t;exact Z.o.2.1);have ah:=Af a7;have ai:=Af<|a3.o.at (B.block m a3.o.lt (by simp[dd]));have aj:=Af<|cb.o.only B (by simp[cc]);have dh:=Af<|b9.o.only B (by simp;exact b9.o.apart aq.o (by decide));have di:=Af B;have aa:=Af a5;have ce:=Af a6;by_cases q:j<4
  .have d3:wr.cell? ⟨da.heap.size,j,O⟩=E (.func (.func (SD j)) #[] #[]):=(dh.o.cell j).trans (by match j,q with|0,_=>rfl|1,_=>rfl|2,_=>rfl|3,_=>rfl);have d4:∀a8 w,(EB (SD j) a8).run prog w=.ok (.enter (SD j) a8) w:=λa8 w=>by match j,q with|0,_=>rfl|1,_=>rfl|2,_=>rfl|3,_=>rfl
   have cf:∀ {a:U} {S:N},Ay [b] wr a->Ah a b Qn #[I J 3,C (E ⟨e,g,O⟩) txs.length c,.map (E m),S]->a.cell? ⟨b,1,O⟩=E (C (E ⟨e,g,O⟩) txs.length c)/\a.cell? p=id/\a.cell? ⟨p,1,O⟩=cm/\a.cell? ⟨e,g+i*7,O⟩=s.id/\a.cell? ⟨e,g+i*7+1,O⟩=s.thr/\a.cell? ⟨e,g+i*7+2,O⟩=s.status/\a.cell? ⟨e,g+i*7+3,O⟩=s.beg/\a.cell? ⟨e,g+i*7+4,O⟩=s.fin/\a.cell? ⟨e,g+i*7+5,O⟩=s.tri/\a.cell? ⟨e,g+i*7+6,O⟩=E (C G s.deeds.length L):=λ{a} _ h ap=>by
    have b:=aj.o.only h (by simp[cc]);exact⟨ap.cell 1,b.cell 0,b.cell 1,bz.o a (ah.o.trans (h.below_of ah.o.size (λac t=>by rw[List.mem_singleton] at t;subst t;exact Z.o.2.1)))⟩
   have cg:=Af (Ay.refl [b] wr).drew;have dj:=Af aa.o.drew;have a9:=Af (Zb wr).drew;have ba:=Af q;have dk:=Af (show CH wr z l by have:=ce.o;rwa [if_neg (by omega)] at this);have dl:decide (j<4)=true:=by simpa using q
   have d5:(0:Int)<=(j:Int):=by omega
   have d6:(j:Int)<4:=by omega
   clear q cd B a5 a6 a7;go_upto_region 7 with fail
   go_region_held_law (λa=>a.cell? ⟨b,1,O⟩=E (C (E ⟨e,g,O⟩) txs.length c)/\a.cell? p=id/\a.cell? ⟨p,1,O⟩=cm/\a.cell? ⟨e,g+i*7,O⟩=s.id/\a.cell? ⟨e,g+i*7+1,O⟩=s.thr/\a.cell? ⟨e,g+i*7+2,O⟩=s.status/\a.cell? ⟨e,g+i*7+3,O⟩=s.beg/\a.cell? ⟨e,g+i*7+4,O⟩=s.fin/\a.cell? ⟨e,g+i*7+5,O⟩=s.tri/\a.cell? ⟨e,g+i*7+6,O⟩=E (C G s.deeds.length L)) (first|(go_keep;done)|with_reducible exact cf cg.o dj.o|with_reducible exact cf ch.o ci.o) (with_reducible refine(c5.o wr.drew z j ba.o ah.o.drew aa.o.drew (dk.o.below a9.o) ai.o.drew).mono ?_;rintro k d7 ⟨rfl,cj,dm,ck,cl⟩;have ch:=Af (cg.o.trans cj (λac t=>.inl t));have ci:=Af ck;have dn:=Af cl;clear cj ck cl)
   go_wp2
   go_roundw
   case rel=>
    refine⟨j+1,dm,by go_num,ba.o,di.o.trans ch.o (λac t=>.inl t),ci.o,?_⟩;have y:=dn.o;by_cases cn:j=3
    .subst cn;simpa using y
    .rw[if_neg cn] at y;rwa [if_neg (by omega)]
   case measure=>simp[intOf];have:=ba.o;omega
  .obtain rfl:j=4:=by omega
   have dl:decide (4<4)=false:=by simp
   have dp:=Af (show CH wr z l' by have:=ce.o;rwa [if_pos rfl,ao.o.2.2] at this);have d8:=aa.o.cell 2;have d9:=aj.o.cell 0;let⟨bb,ea,co,ar⟩:=ai.o.drew.put Fk ao.o.1 (k:=id) (by have:=ao.o.2.1;omega) (by have:=ao.o.2.1;omega) true;have dq:=Af co;have cp:=Af ar;have cq:=Af<|aa.o.drew.turn ai.o.drew ar;have dr:=Af<|aj.o.drew.turn ai.o.drew ar;have ds:bb.cell? ⟨b,2,O⟩=E (.map (E m))/\bb.cell? p=id:=⟨cq.o.cell 2,dr.o.cell 0⟩;clear co ar;clear q cd B a5 a6 a7;go_upto_region 11 with fail;have az:∀ {a:U},Below wr wr a->a.cell? ⟨b,2,O⟩=E (.map (E m))/\a.cell? p=id:=λh=>⟨(aa.o.below h aa.o.lt).cell 2,(aj.o.below h aj.o.lt).cell 0⟩;have a9:=Af (Zb wr).drew
   go_region_held_law (λa=>a.cell? ⟨b,2,O⟩=E (.map (E m))/\a.cell? p=id) (first|(go_keep;done)|with_reducible exact az a9.o|with_reducible exact ds) (fail)
   go_wp2;go_ret;refine⟨rfl,⟨z,cq.o,?_⟩,?_,Z.o.2.1,Z.o.2.2,?_⟩
   .have D:∀cr,AD cr wr bb:=λcr=>By (A:=wr.drew) cp.o.grown λk o=>by
     cases o
     let⟨de,df,o⟩:=ai.o.obj;exact⟨_,o,rfl⟩
    exact dp.o.kept ⟨D _,D _,D _⟩
   .have y:=dq.o
    rwa [show AC (PY met) id true=PY (id::met) from funext λdt=>by
     unfold AC PY;by_cases ab:dt=id<;>simp[ab]] at y
   .exact ah.o.drew.grown cp.o.grown ah.o.size (λeb o=>by cases o;exact Z.o.2.2)
def C8(txs:List St):List Int->List AO->List CE->Option (List Int×List AO)
 |met,a,[]=>E (met,a)
 |met,a,s::b=>(LK txs met a s.1 s.2).bind λd=>C8 txs (s.1::met) d b
def NJ(os:List Ob)(txs:List St)(a:List CE):Bool:=
 match C8 txs [] (os.map Cq) a with
 |some (met,_)=>txs.all λb=>met.contains b.id
 |none=>false
theorem Fs(txs:List St):∀(a b:List CE) (met:List Int) (l:List AO),C8 txs met l (a++b)=(C8 txs met l a).bind λd=>C8 txs d.1 d.2 b
 |[],_,_,_=>rfl
 |s::a,b,met,l=>by
  simp only[Ez,C8]
  cases LK txs met l s.1 s.2 with
  |none=>rfl
  |some e=>exact Fs txs a b _ e
theorem XU{txs:List St}{met:List Int}{l l':List AO}{id:Int}{cm:Bool}{b:List Int}{M:Nat}(h:LK txs met l id cm=l')(n:∀i∈txs,i.deeds.length<=400/\∀d∈i.deeds,Fp b d)(e:DC b l)(j:∀a∈l,a.sz<=M):DC b l'/\∀a∈l',a.sz<=M+400:=by
 unfold LK at h
 split at h
 .next s o=>
  split at h
  .obtain⟨p,k,rfl⟩:=Eo.1 h;have m:=n s<|X9 o
   cases cm
   .exact⟨e,λa g=>by have:=j a g;omega⟩
   .exact⟨Ky e k,λa g=>by have q:a.sz<=M+s.deeds.length:=KA m.2 e j k a g;have:=m.1;omega⟩
  .cases h
 .cases h
theorem MQ{txs:List St}{b:List Int}(j:∀k∈txs,k.deeds.length<=400/\∀d∈k.deeds,Fp b d):∀ {m:List CE} {met n:List Int} {l l':List AO} {M:Nat},C8 txs met l m=E (n,l')->DC b l->(∀a∈l,a.sz<=M)->DC b l'/\∀a∈l',a.sz<=M+400*m.length
 |[],_,_,_,_,_,h,e,g=>by
  injection h with h;injection h with _ h;subst h;exact⟨e,λa i=>by have:=g a i;simpa using this⟩
 |s::v,_,_,_,_,M,h,e,g=>by
  let⟨w,o,p⟩:=Fv.1 h;let⟨q,r⟩:=XU o j e g;let⟨t,u⟩:=MQ j p q r;exact⟨t,λa i=>by have:=u a i;simp only[C4];omega⟩
theorem T7{txs:List St}{l:List AO}{a:List CE}{p:List Int×List AO}(h:C8 txs [] l a=p){s:CE}(e:a[j]?=s):∃met b d,C8 txs [] l (a.take j)=E (met,b)/\LK txs met b s.1 s.2=E d/\C8 txs [] l (a.take (j+1))=E (s.1::met,d):=by
 have n:=(Am.1 e).1
 have m:a=a.take j++s::a.drop (j+1):=by
  let⟨g,i⟩:=Am.1 e;rw[<-i,List.getElem_cons_drop,List.take_append_drop]
 rw[m,Fs] at h;let⟨⟨met,b⟩,g,i⟩:=Fv.1 h;let⟨d,k,o⟩:=Fv.1 i;refine⟨met,b,d,g,k,?_⟩;rw[EO,e,Fs,g];simp only[Option.bind_some,Ua,C8];rw[k];rfl
theorem AcV{w:U}{vo vl v:N}{os:List Ob}{es:List Ev}{e:List CE}{txs:List St}(an:Ba 2 CL w vo os)(az:Ba 8 BO w vl es)(o:Ba 2 Q3 w v e)(F:Bn os es)(bp:∀G∈es,AU G.kind/\G.ret<=9223372036854775807)(a0:∀a∈os,a.kind<=9223372036854775807)(ao:AE w)
 (ap:AR es=txs) (a1:txs.length<=12) (bq:e.length<=1000) (br:∀a∈txs,0<=a.id/\a.id<=1000) (ac:NJ os txs e=true):
 Calls prog 37 #[.agg #[vo,vl],I J 3,v] w λk cn=>k=R .nilIface/\Below w w cn:=by
 obtain⟨met,ad,bs,bt⟩:∃met ad,C8 txs [] (os.map Cq) e=E (met,ad)/\∀a∈txs,met.contains a.id=true:=by
  unfold NJ at ac
  split at ac
  .next met ad G=>exact⟨met,ad,G,HA.1 ac⟩
  .cases ac
 obtain⟨a2,a3,rfl⟩:=an.shape;obtain⟨a4,a5,rfl⟩:=az.shape;obtain⟨dn,dp,rfl⟩:=o.shape;have a6:=Af<|MI (level:=3) F ap a1;have a7:=Af<|JI F ap;have ae:=Zc w<|K #[C a2 os.length a3,C a4 es.length a5] AI;have a8:=Af ae;have L:=Af<|Ah.new w AI #[C a2 os.length a3,C a4 es.length a5];have bu:=Af<|Jj (an.below ae) (az.below ae) a0 bp (ao.below ae);have co:=Af (λ(b:U) (h:Below w w b)=>Abu (an.below h) a0 F.2.2.1 F.1 (ao.below h));have cp:=Af o;have cq:=Af ao;have a9:=Af<|And.intro F ap;have ba:=Af br;have bv:=Af bs;have cr:=Af bt;have u:=Af<|And.intro a1 bq;have dq:decide ((12:Int)<(txs.length:Int))=false:=by simp;omega
 go_in;go_upto_region 3 with fail;generalize dr:w.heap.size=ds at L|-;generalize w.alloc (K #[C a2 os.length a3,C a4 es.length a5] AI)=dt at a8 L bu|-;obtain⟨bb,bc⟩:=L.o.c2;go_wp2_with fail;refine bu.o.mono ?_;rintro k cs ⟨bd,(⟨g,be,ct,bf,rfl,bg⟩|⟨cu,-⟩)⟩
 rotate_left
 .exact absurd ⟨a9.o.1,by rw[a9.o.2];rfl⟩ cu
 obtain rfl:g=txs:=by rw[a9.o.2] at bf;exact(Option.some.inj bf).symm
 obtain⟨S,W,rfl⟩:=DD.shape bg;have af:=Af<|a8.o.trans (bd.mono a8.o.size);have bw:=Af<|L.o.below bd L.o.lt;have bz:=Af bg;obtain⟨bb,bc⟩:=bw.o.c2;go_upto_region 8 with fail;go_wp2_with fail;refine(co.o cs af.o).mono ?_;rintro k ag ⟨b0,cv,rfl,bh⟩;obtain⟨x,y,rfl⟩:∃bi c,cv=C bi os.length c:=(by obtain⟨bi,c,G⟩:=bh.shape;exact⟨bi,c,by simpa using G⟩);have aq:=Af b0;have b1:=Af bh
 go_upto_region 9 with fail;go_upto_region 11 with fail;have ar:=Zc ag<|K #[C x os.length y] BS;have ah:=Af<|(af.o.trans (aq.o.mono af.o.size)).trans (ar.mono (af.o.trans (aq.o.mono af.o.size)).size);have bj:=Af<|DD.below D3.keeps bz.o (aq.o.trans (ar.mono aq.o.size));have b2:=Af<|b1.o.below ar;have au:=Af<|Ah.new ag BS #[C x os.length y];generalize ag.heap.size=du at au|-;generalize ag.alloc (K #[C x os.length y] BS)=d at ah bj b2 au|-;have cw:=(au.o.alloc (.map #[] 0)).cell 0;have cx:=Af<|cq.o.below ah.o;have bk:=(Zc d (.map #[] 0)).alloc (by simp)<|K #[I J 3,C S g.length W,.map (E d),C x os.length y] Qn;have bl:=Af (show XT d _ (d+1) d 0 (C S g.length W) [] (os.map Cq) from⟨⟨C x os.length y,by simpa using Ah.new (d.alloc (.map #[] 0)) Qn #[I J 3,C S g.length W,.map (E d),C x os.length y],b2.o.below bk⟩,(Az.made d).alloc _,Ax _,Aa _,bk⟩);have cy:= @EC prog;go_upto_region 13 with fail;generalize (d.alloc (.map #[] 0)).alloc (K #[I J 3,C S g.length W,.map (E d),C x os.length y] Qn)=dv at bl|-;have dw:=Af<|bl.o.below.size;have cz:=Af<|cp.o.below ah.o
 go_loopw [52] (λz wr=>∃(i:Nat) (mt:List Int) (X:List AO),z=(i:Int)/\i<=e.length/\C8 g [] (os.map Cq) (e.take i)=E (mt,X)/\XT d wr (d+1) d i (C S g.length W) mt X) (λz _=>1001-(intOf z).toNat)
 case atStart=>exact⟨0,[],_,rfl,A9 _,rfl,bl.o⟩
 case round=>
  obtain⟨i,mt,X,rfl,b3,Y,ai⟩:=hrel;have A:=Af ai;by_cases p:i<e.length
  .obtain⟨⟨id,cm⟩,b4⟩:∃s,e[i]?=E s:=⟨e[i],An p⟩;obtain⟨c0,c1,dx,Z,b5,b6⟩:=T7 bv.o b4;rw[Y] at Z;obtain⟨rfl,rfl⟩:mt=c0/\X=c1:=by injection Z with Z;injection Z with q m;exact⟨q,m⟩
   obtain⟨b7,b8⟩:=MQ a7.o Y a6.o.ok (M:=0) (λc3 c4=>Nat.le_of_eq (a6.o.sz c3 c4));obtain⟨aj,ak,rfl,-,-,B⟩:=cz.o.at b4;have n:=λk r h m=>(ai.below.cell (Ad d _ (B k r h m))).trans (B k r h m);have b9:wr.cell? ⟨aj,ak+i*2,O⟩=id:=n 0 _ rfl (by decide);have ca:wr.cell? ⟨aj,ak+i*2+1,O⟩=cm:=n 1 _ rfl (by decide)
   have cb:XT d (wr.alloc (K #[id,cm] BW)) (d+1) d i (C S g.length W) mt X:=by
    have c5:=Zc wr<|K #[id,cm] BW;obtain⟨⟨be,q,m⟩,av,c6,c8,cc⟩:=ai;exact⟨⟨be,q.alloc _,m.below c5⟩,av.alloc _,c6,c8,cc.alloc cc.size _⟩
   have cd:=λs o=>(a7.o s o).2;have ce:=Af<|AeN bj.o u.o.1 ba.o cb cx.o b7 cd (M:=0+400*(e.take i).length) b8 (λs o=>by have:=(a7.o s o).1;have:(e.take i).length<=e.length:=(by simp;omega);have:=u.o.2;omega) (by have:=a6.o.kl;omega) (by have:=u.o.2;unfold Al;omega) b5;have c9:=Af b6;have al:=Af p;have bm:decide (i<e.length)=true:=by simpa using p
   have dy:(0:Int)<=(i:Int):=by omega
   have dz:(i:Int)<(e.length:Int):=by omega
   have d0:(e.length:Int)<=1000:=by have:=u.o.2;omega
   go_upto_region 15 with fail;have aw:=(Ah.new wr BW #[id,cm]).c2;generalize wr.heap.size=j at aw|-;generalize wr.alloc (K #[id,cm] BW)=Wr at ce aw|-;obtain⟨aw,d1⟩:=aw;go_wp2_with fail;refine ce.o.mono ?_;rintro k da ⟨rfl,cf⟩;have db:=Af cf;go_wp2
   go_roundw
   case rel=>exact⟨i+1,_,_,by go_num,al.o,c9.o,db.o⟩
   case measure=>simp[intOf];have:=al.o;have:=u.o.2;omega
  .obtain rfl:i=e.length:=by omega
   have bm:decide (e.length<e.length)=false:=by simp
   rw[Ex,bv.o] at Y;obtain⟨rfl,rfl⟩:met=mt/\ad=X:=by injection Y with Z;injection Z with q m;exact⟨q,m⟩
   go_upto_region 20 with fail;generalize wr=V at A|-
   go_loopw [70] (λz b=>∃l:Nat,z=(l:Int)/\l<=g.length/\Below V V b) (λz _=>13-(intOf z).toNat)
   case atStart=>exact⟨0,rfl,A9 _,Ae _ _⟩
   case round=>
    obtain⟨l,rfl,cg,am⟩:=hrel;have ax:=A.o.below.trans<|am.mono A.o.below.size;by_cases p:l<g.length
    .obtain⟨a,o⟩:∃a,g[l]?=E a:=⟨g[l],An p⟩;obtain⟨aj,ak,d2,rfl,-,-,-,dc,ch,B⟩:=bj.o.at o;have dd:=Af ch;obtain⟨d3,rfl,ci⟩:=ch;obtain⟨aa,ab,rfl⟩:=ci.shape;have n:∀(k:Nat) (r:N),([a.id,a.thr,a.status,a.beg,a.fin,a.tri,C aa a.deeds.length ab]:List N)[k]?=E r->wr.cell? ⟨aj,ak+l*7+k,O⟩=E r:=λk r h=>(ax.cell (Ad d _ (B k r h))).trans (B k r h);have b9:wr.cell? ⟨aj,ak+l*7,O⟩=_:=n 0 _ rfl;have ca:=n 1 _ rfl;have de:=n 2 _ rfl;have df:=n 3 _ rfl;have dh:=n 4 _ rfl;have di:=n 5 _ rfl;have dj:=n 6 _ rfl;have bn:=Af<|Ap o;have al:=Af p;have D:=Af<|am.alloc am.size (K #[a.id,a.thr,a.status,a.beg,a.fin,a.tri,C aa a.deeds.length ab] Bq);have ay:=Af<|Ah.new wr Bq #[a.id,a.thr,a.status,a.beg,a.fin,a.tri,C aa a.deeds.length ab];have d4:(0:Int)<=(l:Int):=by omega
     have d5:(l:Int)<(g.length:Int):=by omega
     have d6:(g.length:Int)<=12:=by have:=u.o.1;omega
     have bm:decide (l<g.length)=true:=by simpa using p
     go_upto_region 22 with fail;generalize wr.heap.size=j at ay|-;generalize wr.alloc (K #[a.id,a.thr,a.status,a.beg,a.fin,a.tri,C aa a.deeds.length ab] Bq)=t at D ay|-;have dk:Be a 3=true:=rfl
     have cj:∀ {b:U},Below t t b->b.cell? ⟨d.heap.size+1,2,O⟩=E (.map (E d))/\b.cell? j=a.id/\b.cell? ⟨j,1,O⟩=a.thr/\b.cell? ⟨j,2,O⟩=a.status/\b.cell? ⟨j,3,O⟩=a.beg/\b.cell? ⟨j,4,O⟩=a.fin/\b.cell? ⟨j,5,O⟩=a.tri/\b.cell? ⟨j,6,O⟩=E (C aa a.deeds.length ab):=λ{b} h=>by
      obtain⟨⟨be,q,_⟩,_⟩:=A.o;have m:=D.o.trans<|h.mono D.o.size;exact⟨(q.below m q.lt).cell 2,(ay.o.below h ay.o.lt).c7⟩
     have dl:∀ {b:U},Below t t b->(B1 XP (.map (E d)) a.id false).run prog b=.ok true b:=λ{b} h=>by
      have m:=D.o.trans<|h.mono D.o.size;have av:=(A.o.map.below m A.o.map.lt).look Fk (Kr _) (k:=a.id) (by have:=(ba.o a bn.o).1;omega) (by have:=(ba.o a bn.o).2;omega);rw[PY,cr.o a bn.o] at av;exact av
     have ck:=Af (Zb t).drew
     go_region_held_law (λb=>b.cell? ⟨d.heap.size+1,2,O⟩=E (.map (E d))/\b.cell? j=a.id/\b.cell? ⟨j,1,O⟩=a.thr/\b.cell? ⟨j,2,O⟩=a.status/\b.cell? ⟨j,3,O⟩=a.beg/\b.cell? ⟨j,4,O⟩=a.fin/\b.cell? ⟨j,5,O⟩=a.tri/\b.cell? ⟨j,6,O⟩=E (C aa a.deeds.length ab)) (first|(go_keep;done)|with_reducible exact cj ck.o|with_reducible exact cj bo.o) (with_reducible refine(Dl dd.o 3 _).mono ?_;rw[dk];rintro k da ⟨rfl,cl⟩;have bo:=Af (ck.o.trans (cl.mono (show t.heap.size<=t.drew.heap.size from Aa _)));have d7:=dl bo.o;clear cl)
     go_wp2
     go_roundw
     case rel=>exact⟨l+1,by go_num,al.o,D.o.trans (bo.o.mono D.o.size)⟩
     case measure=>simp[intOf];have:=al.o;have:=u.o.1;omega
    .obtain rfl:l=g.length:=by omega
     have bm:decide (g.length<g.length)=false:=by simp
     have dm:=Af<|ah.o.trans (ax.mono ah.o.size);go_wp2;go_ret;exact⟨rfl,dm.o⟩
section
attribute [local go_sem] Oper.semAt_some
abbrev tLs:Ab:=37
def AbE(os:List Ob)(es:List Ev)(st:Nat->List CE):Prop:=∀a,a<=es.length->∃txs,Bn os (es.take a)/\AR (es.take a)=E txs/\txs.length<=12/\(st a).length<=1000/\(∀b∈txs,0<=b.id/\b.id<=1000)/\NJ os txs (st a)=true
def XV(w:U)(v:N)(N:Nat)(st:Nat->List CE):Prop:=∃b d c,v=C (E ⟨b,d,O⟩) (N+1) c/\∀a,a<=N->∃e,w.cell? ⟨b,d+a,O⟩=E e/\Ba 2 Q3 w e (st a)
theorem XV.below{w w':U}{v:N}{N:Nat}{st:Nat->List CE}(h:XV w v N st)(a:Below w w w'):XV w' v N st:=by
 obtain⟨d,e,c,rfl,h⟩:=h;refine⟨d,e,c,rfl,λg i=>?_⟩;let⟨j,b,k⟩:=h g i;exact⟨j,(a.cell (Ad w _ b)).trans b,k.below a⟩
theorem Agl{w:U}{vo vl v:N}{os:List Ob}{es:List Ev}{st:Nat->List CE}(ak:Ba 2 CL w vo os)(al:Ba 8 BO w vl es)(b7:XV w v es.length st)(aw:∀b∈es,AU b.kind/\b.ret<=9223372036854775807)(ax:∀X∈os,X.kind<=9223372036854775807)(ay:AE w)(az:AbE os es st):
 Calls prog 16 #[.agg #[vo,vl],v] w λu b8=>u=R .nilIface/\Below w w b8:=by
 let⟨txs,x,L,am,an,ao,ap⟩:=az es.length<|Aa _;rw[Ex] at x L;obtain⟨p,q,rfl⟩:=ak.shape;obtain⟨l,m,rfl⟩:=al.shape;obtain⟨y,z,A,rfl,bi⟩:=b7;obtain⟨b9,ca⟩:∃X:Obj,X=H #[C p os.length q,C l es.length m] AI:=⟨_,rfl⟩;have Y:=((AG w (H #[C p os.length q,C l es.length m] AI) (H #[C (E ⟨y,z,O⟩) (es.length+1) A] tLs)).alloc (by simp;omega) (H #[.nilIface] Gx));have a0:=Af Y;have aq:os.length<=1000/\es.length<=1000:=⟨by have:=x.1;omega,by have:=x.2.1;omega⟩;have bj:=Af<|Jj (ak.below Y) (al.below Y) ax aw (ay.below Y);have cb:=Af (λ(Z:U) (h:Below w w Z)=>JL (ak.below h) (al.below h) aq.1 aq.2);have M:=Af<|((Ah.new w AI #[C p os.length q,C l es.length m]).alloc (H #[C (E ⟨y,z,O⟩) (es.length+1) A] tLs)).alloc (H #[.nilIface] Gx);have aa:=Af<|(Bo w (H #[C p os.length q,C l es.length m] AI) tLs #[C (E ⟨y,z,O⟩) (es.length+1) A]).alloc (H #[.nilIface] Gx);have S:=Af<|Ah.new ((w.alloc (H #[C p os.length q,C l es.length m] AI)).alloc (H #[C (E ⟨y,z,O⟩) (es.length+1) A] tLs)) Gx #[.nilIface];have cc:=Af bi;have a1:=Af<|And.intro x L;have cd:=Af ay;have ce:=Af ax;have cf:=Af aw;have cg:=Af az;have ar:=Af aq;have cy:decide ((12:Int)<(txs.length:Int))=false:=by simp;omega
 refine(Dh (n:=8)).1<|callsIn_of_wp_marks func16 rfl trivial ?_ rfl;simp only[ntmps16,EQ,C4,Em,Nat.reduceAdd,Nat.reduceSub,Fy,Fz,FE,FV,Es,Ez]
 gi_upto_region 1 with fail
 generalize ch:w.heap.size=d at M aa S|-;simp only[Eb,ch] at S;generalize ((w.alloc (H #[C p os.length q,C l es.length m] AI)).alloc (H #[C (E ⟨y,z,O⟩) (es.length+1) A] tLs)).alloc (H #[.nilIface] Gx)=a at a0 bj M aa S|-;let⟨a2,a3⟩:=M.o.c2;gi_wp2_with fail;refine⟨trivial,?_⟩;refine(Dh.2 bj).mono ?_;rintro u ci ⟨ab,(⟨D,cz,cj,a4,rfl,bk⟩|⟨au,-⟩)⟩
 rotate_left
 .exact absurd ⟨a1.o.1,by rw[a1.o.2];rfl⟩ au
 obtain rfl:D=txs:=by rw[a1.o.2] at a4;exact(Option.some.inj a4).symm
 obtain⟨ac,ad,rfl⟩:=DD.shape bk;have a5:=Af<|a0.o.trans (ab.mono a0.o.size);have bl:=Af<|M.o.below ab M.o.lt;have av:=Af<|aa.o.below ab aa.o.lt;have a6:=Af<|S.o.below ab S.o.lt;let⟨a2,a3⟩:=bl.o.c2;have bm:=av.o.cell 0;have ck:(0:Int)<=(es.length:Int):=by omega
 have c0:(es.length:Int)<=1000:=by have:=ar.o.2;omega
 gi_upto_region 8 with fail
 gi_wp2_with fail;refine⟨trivial,?_⟩;refine(Dh.2 (cb.o ci a5)).mono ?_;rintro u bn ⟨a7,rfl,bo,cl,ae⟩;have cn:=Af bo;have bp:=Af<|a5.o.trans (ae.mono a5.o.size);have co:=Af<|av.o.below ae av.o.lt;have bq:=Af<|a6.o.below ae a6.o.lt;have c1:=Af ae.size;gi_wp2_with fail;have br:=Af (show d+1+1<bn.heap.size from bq.o.lt)
 apply Nz (gf:=60) (lb:= #[a7]) rfl (Eg func60 (by kernel_rfl) rfl)
  (JM a7 ar.o.1 ar.o.2 bn cn) BG.trans (λZ X cp g e=>BG.put Z _ X cp g e) (Ae _ _) (λ_=>rfl)
  (λB s k a8 a9 h j t=>⟨h.1,h.2.1.of_cells λcq bs b=>cell_kept b j (λu b=>(t u b).2),h.2.2.of_cells λcq bs b=>cell_kept b j (λu b=>(t u b).2)⟩)
  (λF W=>Ah W (d+1) tLs #[C (E ⟨y,z,O⟩) (es.length+1) A]/\Ah W (d+1+1) Gx #[.nilIface]/\Below w w W)
  (λc F W=>False)
  (λF k a8 a9 h j t=>by
   obtain⟨g,e,n⟩:=h;exact⟨Bd j t _ _ _ g,Bd j t _ _ _ e,Cr n bp.o.size n.size j t⟩)
  (λ_ F k a8 a9 h j t=>h.elim)
  ⟨co,bq,bp⟩
  (λB ba W=>∃af,Ah W af AI #[B.vo,B.vl]/\ba={tmps:= #[.agg #[C p os.length q,C l es.length m],C (E ⟨y,z,O⟩) (es.length+1) A,Q (E ⟨d,0,O⟩),Q (E ⟨d+1,0,O⟩),Q (E ⟨d+1+1,0,O⟩),C ac D.length ad,.nilIface,I J (B.n:Int),Q (E ⟨af,0,O⟩),Ac,.tuple #[C ac D.length ad,.nilIface],.agg #[C p os.length q,C l es.length m],.tuple #[C ac D.length ad,.nilIface],C ac D.length ad,.nilIface,.nilIface,T false,Ac,C ac D.length ad,I J (D.length:Int),T false,Ac,C (E ⟨y,z,O⟩) (es.length+1) A,I J ((es.length:Int)+1),Q (E ⟨d,1,O⟩),C l es.length m,I J (es.length:Int),I J ((es.length:Int)+1),T false,Ac,.agg #[C p os.length q,C l es.length m],.func (.func 60) #[] #[Q (E ⟨a7,0,O⟩)],I J (B.n:Int),.agg #[B.vo,B.vl],Ac,Ac,Ac,Ac,Ac,Ac,Ac,Ac,Ac,Ac,Ac,Ac,Ac],defers:=[]})
  (λB ba s k a8 a9 h j t=>by
   obtain⟨af,g,n⟩:=h;exact⟨af,Bd j t _ _ _ g,n⟩)
  ?assign ?body ?done ?stop
 case assign=>
  rintro bt F ⟨r,bb,bc⟩ a K bu i ag;obtain⟨bv,k1,rfl⟩:∃k c,bb=C k os.length c:=i.2.1.shape;obtain⟨bw,k2,rfl⟩:∃k c,bc=C k r c:=Hf i.2.2 i.1;have cr:=Af bu;have bd:=Af i;have ah:=Af ag;unfold NA.enc;dsimp only;gi_wp2_with fail;have o:=Zc a<|H #[C bv os.length k1,C bw r k2] AI;let⟨g,e,n⟩:=cr.o;exact ah.o _ _ (Bz o) (BG.below o) ⟨g.alloc _,e.alloc _,n.alloc n.size _⟩ ⟨bd.o.1,bd.o.2.1.below o,bd.o.2.2.below o⟩ ⟨a.heap.size,Ah.new a AI _,rfl⟩
 case body=>
  rintro bt F ⟨r,bb,bc⟩ ba a c2 ⟨g,e,G⟩ i ⟨af,j,rfl⟩ cs;obtain⟨bv,k1,rfl⟩:∃k c,bb=C k os.length c:=i.2.1.shape;obtain⟨bw,k2,rfl⟩:∃k c,bc=C k r c:=Hf i.2.2 i.1;have au:r<=es.length:=i.1;let⟨bs,be,bf⟩:=cc.o r au;obtain⟨Au,c3,rfl⟩:=bf.shape;let⟨c4,x,L,am,an,ao,ap⟩:=cg.o r au;have ct:=Af (λ(Z:U) (h:Below a a Z)=>AcV (i.2.1.below h) (i.2.2.below h) (bf.below (G.trans (h.mono G.size))) x (λb cu=>cf.o b (Im cu)) ce (cd.o.below (G.trans (h.mono G.size))) L am an ao ap);have cv:=j.c2;have bm:=g.cell 0;have c5:=(G.cell (Ad w _ be)).trans be;have c6:(0:Int)<=(r:Int):=by omega
  have c7:(r:Int)<(es.length:Int)+1:=by omega
  have c8:(es.length:Int)+1<=1001:=by have:=ar.o.2;omega
  have bz:=Af g;have ai:=Af e;have b0:=Af G;obtain⟨c9,da⟩:=cv
  gi_upto_region 11 with fail
  gi_region_with (refine⟨trivial,?_⟩;refine(Gg bt (Dh.2 (ct.o _ (below_drewN (Zb a) _)))).mono ?_;rintro u db ⟨rfl,b1⟩;have cw:=Af b1;clear b1)
  all_goals
   gi_wp2_with fail;have o:=(below_drewN (Zb a) _).trans cw;exact⟨Bz o,BG.below o,bz.o.below o bz.o.lt,ai.o.below o ai.o.lt,b0.o.trans (o.mono b0.o.size)⟩
 case done=>
  rintro aj F a bg b2 ⟨g,e,n⟩ ag;have ck:=e.cell 0;have dc:=e.frozen 0;have dd:=e.lt;have ai:=Af (by simpa using e.put 0 .nilIface:Ah (a.setCell (d+1+1:Nat) .nilIface) (d+1+1) Gx #[.nilIface]);have bh:=Af<|n.setCell (p:=(d+1+1:Nat)) (show w.heap.size<=d+1+1 by omega) .nilIface;have b3:=(B3 a (d+1+1:Nat) .nilIface aj (show aj≠d+1+1 by have:=br.o;omega)).trans ag;have ah:=Af b3;have cx:=Af bg;gi_wp2_with fail;generalize a.setCell (d+1+1:Nat) .nilIface=b4 at ai bh ah|-;refine⟨by simp,.inl ⟨_,_,rfl,HW ah,?_⟩⟩;have b5:=(ai.o.kept (AD.put ah (o':=.deferred O) rfl)).cell 0;have b6:=Af<|bh.o.grown (GX b4 aj (.deferred O)) bh.o.size (λde b=>by cases b;have:=br.o;have:=cx.o;omega);generalize b4.putObj aj (.deferred O)=df at b5 b6|-;refine⟨.nilIface,?_,rfl,b6⟩;simp[As,Tryz.f16,go_sem,b5]
 case stop=>rintro aj c F a bg b2 h;exact h.elim
end
def CA(p:Nat->Ev->Bool)(es:List Ev):List Ev:=(es.zipIdx.filter λa=>p a.2 a.1).map (·.1)
theorem Rp(p:Nat->Ev->Bool){es:List Ev}{e:Ev}(h:es[k]?=e):CA p (es.take (k+1))=CA p (es.take k)++(if p k e then [e] else []):=by
 have a:=(Am.1 h).1;rw[EO,h];unfold CA;rw[List.zipIdx_append,II,H0]
 congr 1
 simp only[Ua,EH,HT (HF a),Ej,List.zipIdx_singleton,Od,Oe]
 cases p k e<;>rfl
theorem T8(p:Nat->Ev->Bool)(es:List Ev):(CA p es).length<=es.length:=by
 unfold CA;rw[HC];refine A8 (IH _ _) ?_;simp
theorem T9{W:U}{B size:Nat}{t t':Ab}{v u:N}{xs q:List N}(h:W.ownsRow B t size v n xs)(k:W.ownsRow g t' i u m q)(a:t≠t'):v.ownBlock=O∨v.ownBlock≠u.ownBlock:=by
 cases b:v.ownBlock with
 |none=>exact .inl rfl
 |some e=>
  refine .inr λd=>?_;exact a<|Nf k d.symm (He h b)
def XW(w:U)(es:List Ev)(fn:Nat)(lb:Array N)(p:Nat->Ev->Bool):Prop:=(∀e w,(EB fn e).run prog w=.ok (.enter fn e) w)/\
 ∀(b:Nat) (d:Ev),es[b]?=E d->∀a,Below w.heap.size w a->Calls prog fn (#[I J (b:Int),.agg (Aj d)]++lb) a λg i=>g=R (T (p b d))/\Below a.heap.size a i
theorem PZ{w:U}{vo vl:N}{os:List Ob}{es:List Ev}{fn:Nat}{lb:Array N}{p:Nat->Ev->Bool}(ak:Ba 2 CL w vo os)(al:Ba 8 BO w vl es)(am:os.length<=1000)(ba:es.length<=1000)(hF:XW w es fn lb p):
 Calls prog 151 #[.agg #[vo,vl],.func (.func fn) #[] lb] w λi bb=>∃n o,i=R (.agg #[n,o])/\Hy w bb n o os (CA p es)/\Below w w bb:=by
 obtain⟨bs,bt,bu,bv,bw⟩:=A1 GJ;obtain⟨X,Y,rfl⟩:=ak.shape;obtain⟨Z,aa,rfl⟩:=al.shape;have an:=AG w (K #[C X os.length Y,C Z es.length aa] AI)<|K #[C O 0 0,C O 0 0] AI;have g:=Af an;have D:=Af<|(Ah.new w AI #[C X os.length Y,C Z es.length aa]).alloc (K #[C O 0 0,C O 0 0] AI);have q:=Af<|Bo w (K #[C X os.length Y,C Z es.length aa] AI) AI #[C O 0 0,C O 0 0];have bz:=Af al;have r:=Af<|And.intro am ba;have ao:=Af<|F7 (ak.below an) (Ba.nil 8 BO _) am (es:=[]) (by simp);have b0:=Af hF.2;have cq:=hF.1;go_in;go_upto_region 1 with fail;generalize cr:w.heap.size=d at D q|-;generalize (w.alloc (K #[C X os.length Y,C Z es.length aa] AI)).alloc (K #[C O 0 0,C O 0 0] AI)=v at g D q ao|-;obtain⟨b1,b2⟩:=D.o.c2;go_wp2_with fail;refine ao.o.mono ?_;rintro i F ⟨n,o,rfl,ab,ac⟩;obtain⟨x,k1,rfl⟩:=Ag ab.1;obtain⟨y,k2,rfl⟩:=Ag ab.2;have bc:=ac.alloc ac.size<|K #[C x os.length k1,C y ([]:List Ev).length k2] AI;have bd:d+1<v.heap.size:=q.o.lt;have be:=Af bd;have ap:=Af<|Hy.call ab (Zc F (K #[C x os.length k1,C y ([]:List Ev).length k2] AI));have ad:=Af<|Ah.new F AI #[C x os.length k1,C y ([]:List Ev).length k2];have z:=Af bc;have bf:=Af ac.size;simp only[Em] at ap ad z;go_upto_region 2 with fail;generalize F.heap.size=T at ad bf|-;generalize F.alloc (K #[C x os.length k1,C y 0 k2] AI)=ct at ap ad z|-;have cu:=Af<|g.o.trans (z.o.mono g.o.size);have b3:=Af<|D.o.below z.o D.o.lt;have b4:=Af<|q.o.below z.o q.o.lt;have b5:=b3.o.cell 1;go_upto_region 3 with fail
 go_loopw [15] (λaq wr=>∃(b:Nat) (n o:N),aq=(b:Int)/\b<=es.length/\Ah wr T AI #[n,o]/\Hy v wr n o os (CA p (es.take b))/\Below v v wr) (λaq _=>1001-(intOf aq).toNat)
 case atStart=>exact⟨0,_,_,rfl,A9 _,ad.o,ap.o,z.o⟩
 case round=>
  obtain⟨b,n,o,rfl,b6,G,k,u⟩:=hrel;obtain⟨x,k1,rfl⟩:=Ag k.1;obtain⟨y,k2,rfl⟩:=Ag k.2;have cv:=Af G;have b7:=Af k;have b8:=Af u;have bg:=g.o.trans<|u.mono g.o.size;by_cases ae:b<es.length
  .obtain⟨a,af⟩:∃a,es[b]?=E a:=⟨es[b],An ae⟩;obtain⟨bh,bi,rfl,_,cw,ar⟩:=bz.o.at af;have j:∀(i:Nat) (L:N),(BO a)[i]?=E L->i<8->wr.cell? ⟨bh,bi+b*8+i,O⟩=E L:=λi L h bj=>(bg.cell (Ad w _ (ar i L h bj))).trans (ar i L h bj);have b9:wr.cell? ⟨bh,bi+b*8,O⟩=_:=j 0 _ rfl (by omega);have ca:=j 1 _ rfl (by omega);have cb:=j 2 _ rfl (by omega);have cc:=j 3 _ rfl (by omega);have cd:=j 4 _ rfl (by omega);have ce:=j 5 _ rfl (by omega);have cf:=j 6 _ rfl (by omega);have cg:=j 7 _ rfl (by omega);have ag:=Af<|Rp p af;have bk:=Af<|T8 p (es.take b);have cx:(0:Int)<=(b:Int):=by omega
   have cy:(b:Int)<(es.length:Int):=by omega
   have cz:(es.length:Int)<=1000:=by have:=r.o.2;omega
   have l:=Af ae;have au:=u.alloc u.size<|K #[a.kind,a.tx,a.thr,a.obj,a.op,a.key,a.val,a.ret] AJ;have av:=Af<|b0.o b a af _ (g.o.trans (au.mono g.o.size));have e:=Af<|Ah.new wr AJ #[a.kind,a.tx,a.thr,a.obj,a.op,a.key,a.val,a.ret];have aw:=Af<|G.alloc (K #[a.kind,a.tx,a.thr,a.obj,a.op,a.key,a.val,a.ret] AJ);have bl:=Af<|k.call (Zc wr (K #[a.kind,a.tx,a.thr,a.obj,a.op,a.key,a.val,a.ret] AJ));have ax:=Af au;go_upto_region 5 with fail;generalize wr.heap.size=c0 at e|-;generalize wr.alloc (K #[a.kind,a.tx,a.thr,a.obj,a.op,a.key,a.val,a.ret] AJ)=c1 at e aw bl ax av|-;have ay:=e.o.cell 0;have az:=e.o.cell 1;have a0:=e.o.cell 2;have a1:=e.o.cell 3;have a2:=e.o.cell 4;have a3:=e.o.cell 5;have a4:=e.o.cell 6;have a5:=e.o.cell 7;go_wp2_with fail;refine av.o.mono ?_;rintro i c2 ⟨rfl,M⟩;have S:=Af<|ax.o.trans (M.mono ax.o.size);have m:=Af<|e.o.below M e.o.lt;have a6:=Af<|aw.o.below M aw.o.lt;have A:=Af<|bl.o.call M
   cases ah:p b a
   case false=>
    rw[ah] at ag;go_wp2
    go_roundw
    case rel=>exact⟨b+1,_,_,by have:=r.o.2;have:=l.o;go_num,l.o,a6.o,by rw[ag.o];simpa using A.o,S.o⟩
    case measure=>simp[intOf];have:=l.o;have:=r.o.2;omega
   case true=>
    rw[ah] at ag;have ay:=m.o.cell 0;have az:=m.o.cell 1;have a0:=m.o.cell 2;have a1:=m.o.cell 3;have a2:=m.o.cell 4;have a3:=m.o.cell 5;have a4:=m.o.cell 6;have a5:=m.o.cell 7;have bm:=a6.o.cell 1;go_wp2_with (at_builtin;refine B9 _ rfl (.tmp 25) (.tmp 27) 23 rfl v AJ bs (.agg #[(),(),(),(),(),(),(),()]) 8 64 underlying23 bt bu bv bw rfl (by decide) _ _ _ rfl (A.o.2.alloc _) _ 1 1 (BO a) rfl rfl (Ee (cs:=Aj a) (t:=AJ) (fr:=(0,0)) (D4 _ _)) (by have h:=DG [a];simpa using h) (by have:=r.o;have:=l.o;have:=bk.o;simp at this;unfold Al;omega) (by have:=r.o;have:=l.o;have:=bk.o;simp at this;omega) (by have:=S.o.size;simp;omega) ?_;intro c3 c4 a7 ai _ ch;obtain⟨c5,k8,rfl⟩:=Ag a7;have a8:=a6.o.alloc (K (Aj a) AJ);have B:=Af (a8.grown ai (λa=>a8.apartRow (A.o.2.alloc _) (by decide) a.symm));have ci:=B.o.cell 1;have cj:=B.o.frozen 1;have ck:=B.o.lt);have a9:=A.o.1.alloc<|K (Aj a) AJ;have bn:=A.o.2.alloc<|K (Aj a) AJ;have bo:=Af<|a9.kept ai (T9 a9 bn (by decide));have bp:=Af a7;have cl:=Af<|(S.o.alloc S.o.size (K (Aj a) AJ)).grown ai (by have:=S.o.size;simp;omega) (λc6 cn=>(Ai A.o.2 cn).1)
    go_roundw
    case rel=>
     refine⟨b+1,_,_,by have:=r.o.2;have:=l.o;go_num,l.o,by simpa using B.o.put 1 _,?_,cl.o.setCell (p:=⟨T,1,O⟩) (show v.heap.size<=T from bf.o) _⟩;rw[ag.o];exact⟨Ak bo.o (p:=⟨T,1,O⟩) (B.o.apartRow bo.o (by decide)) _,by simpa[PI] using Ak bp.o (p:=⟨T,1,O⟩) (B.o.apartRow bp.o (by decide)) _⟩
    case measure=>simp[intOf];have:=l.o;have:=r.o;omega
  .obtain rfl:b=es.length:=by omega
   have c7:decide (es.length<es.length)=false:=by simp
   rw[Ex] at k;have co:=Af k;have c8:=Af<|b4.o;obtain⟨c9,bm⟩:=G.c2;have W:=Af<|q.o.below u q.o.lt;obtain⟨da,db⟩:=W.o.c2;have dc:=W.o.frozen 0;have dd:=W.o.frozen 1;have de:=W.o.lt;have cp:=Af<|g.o.trans (b8.o.mono g.o.size);go_wp2_with fail;refine Ao (KD _ rfl rfl _ _ (d+1) _ _ rfl (Bs W.o)) rfl ?_;have aj:=co.o;have bq:(Ar x os.length k1).ownBlock≠E (d+1):=λa=>by have:=(Ai aj.1 a).1;have:=be.o;omega
   have br:(Ar y (CA p es).length k2).ownBlock≠E (d+1):=λa=>by have:=(Ai aj.2 a).1;have:=be.o;omega
   exact⟨_,_,rfl,⟨Aw (Ak (Ak aj.1 (p:=(d+1:Nat)) bq _) (p:=⟨d+1,1,O⟩) bq _) g.o.size,Aw (Ak (Ak aj.2 (p:=(d+1:Nat)) br _) (p:=⟨d+1,1,O⟩) br _) g.o.size⟩,(cp.o.setCell (p:=(d+1:Nat)) (show w.heap.size<=d+1 by omega) _).setCell (p:=⟨d+1,1,O⟩) (show w.heap.size<=d+1 by omega) _⟩
theorem XX{w:U}{tx:Int}(e:Ah w b Cv #[tx])(es:List Ev):XW w es 152 #[b] (λ_ a=>a.tx !=tx):=by
 refine⟨λ_ _=>rfl,λn a _ d g=>?_⟩;have i:=Af<|Ah.new d AJ #[a.kind,a.tx,a.thr,a.obj,a.op,a.key,a.val,a.ret];have j:=Af<|(e.below g e.lt).alloc (K #[a.kind,a.tx,a.thr,a.obj,a.op,a.key,a.val,a.ret] AJ);have k:=Af<|Zc d (K #[a.kind,a.tx,a.thr,a.obj,a.op,a.key,a.val,a.ret] AJ);obtain⟨l,m⟩:∃l,(a.tx !=tx)=l:=⟨_,rfl⟩;dsimp only;rw[m];unfold Aj;go_in;go_upto_region 1 with fail;generalize d.alloc (K #[a.kind,a.tx,a.thr,a.obj,a.op,a.key,a.val,a.ret] AJ)=o at i j k|-;have p:=i.o.cell 1;have q:=j.o.cell 0;go_wp2;go_ret;exact⟨rfl,k⟩
theorem P0{w:U}{vo vl:N}{os:List Ob}{es:List Ev}(q:Ba 2 CL w vo os)(r:Ba 8 BO w vl es)(z:os.length<=1000)(A:es.length<=1000)(tx:Int):
 Calls prog 93 #[.agg #[vo,vl],tx] w λB D=>∃t u,B=R (.agg #[t,u])/\Hy w D t u os (CA (λ_ b=>b.tx !=tx) es)/\Below w w D:=by
 obtain⟨e,g,rfl⟩:=q.shape;obtain⟨i,j,rfl⟩:=r.shape;have m:=(AG w (K #[C e os.length g,C i es.length j] AI) (K #[tx] Cv)).alloc (by simp;omega)<|K #[C O 0 0,C O 0 0] AI;have k:=Af m;have v:=Af<|((Ah.new w AI #[C e os.length g,C i es.length j]).alloc (K #[tx] Cv)).alloc (K #[C O 0 0,C O 0 0] AI);have F:=Af<|XX ((Bo w (K #[C e os.length g,C i es.length j] AI) Cv #[tx]).alloc (K #[C O 0 0,C O 0 0] AI)) es;have d:=Af<|Ah.new ((w.alloc (K #[C e os.length g,C i es.length j] AI)).alloc (K #[tx] Cv)) AI #[C O 0 0,C O 0 0];have x:=Af<|PZ (q.below m) (r.below m) z A F;go_in;go_upto_region 1 with fail;generalize S:w.heap.size=a at v d x|-;simp only[Eb,S] at d;generalize ((w.alloc (K #[C e os.length g,C i es.length j] AI)).alloc (K #[tx] Cv)).alloc (K #[C O 0 0,C O 0 0] AI)=W at k v d x|-;let⟨X,Y⟩:=v.o.c2;go_wp2_with fail;refine x.o.mono ?_;rintro B ad ⟨t,u,rfl,n,y⟩;obtain⟨Z,k1,rfl⟩:=Ag n.1;obtain⟨aa,k2,rfl⟩:=Ag n.2;have l:=Af<|d.o.below y d.o.lt;let⟨ae,af⟩:=l.o.c2;have ag:=l.o.frozen 0;have ah:=l.o.frozen 1;have ai:=l.o.lt;have G:=Af (show a+1+1<W.heap.size from d.o.lt);have ab:=Af n;have ac:=Af<|k.o.trans (y.mono k.o.size);go_wp2_with fail;refine Ao (KD _ rfl rfl _ _ (a+1+1) _ _ rfl (Bs l)) rfl ?_;have o:=ab.o;have L:(Ar Z os.length k1).ownBlock≠E (a+1+1):=λb=>by have:=(Ai o.1 b).1;have:=G.o;omega
 have M:(Ar aa (CA (λ_ b=>b.tx !=tx) es).length k2).ownBlock≠E (a+1+1):=λb=>by have:=(Ai o.2 b).1;have:=G.o;omega
 exact⟨_,_,rfl,⟨Aw (Ak (Ak o.1 (p:=(a+1+1:Nat)) L _) (p:=⟨a+1+1,1,O⟩) L _) k.o.size,Aw (Ak (Ak o.2 (p:=(a+1+1:Nat)) M _) (p:=⟨a+1+1,1,O⟩) M _) k.o.size⟩,(ac.o.setCell (p:=(a+1+1:Nat)) (show w.heap.size<=a+1+1 by omega) _).setCell (p:=⟨a+1+1,1,O⟩) (show w.heap.size<=a+1+1 by omega) _⟩
def Ja(d:Dd)(i:Nat)(_:Ev):Bool:=(i:Int) !=d.pos&&(i:Int) !=d.back
theorem AeO{w:U}{d:Dd}(i:Ah w b Bu (Bl d))(es:List Ev):XW w es 153 #[b] (Ja d):=by
 refine⟨λ_ _=>rfl,λg a _ j l=>?_⟩;have k:=Af<|(i.below l i.lt).alloc (K #[a.kind,a.tx,a.thr,a.obj,a.op,a.key,a.val,a.ret] AJ);have m:=Af<|Zc j (K #[a.kind,a.tx,a.thr,a.obj,a.op,a.key,a.val,a.ret] AJ);obtain⟨o,t,p⟩:∃e,((g:Int)==d.pos)=e/\((g:Int) !=d.pos)= !e:=⟨_,rfl,rfl⟩;obtain⟨q,u,r⟩:∃e,((g:Int)==d.back)=e/\((g:Int) !=d.back)= !e:=⟨_,rfl,rfl⟩;unfold Ja;rw[p,r];unfold Aj;go_in;go_upto_region 1 with fail;generalize j.alloc (K #[a.kind,a.tx,a.thr,a.obj,a.op,a.key,a.val,a.ret] AJ)=n at k m|-;have v:n.cell? ⟨b,6,O⟩=d.pos:=k.o.cell 6;have x:n.cell? ⟨b,7,O⟩=d.back:=k.o.cell 7
 cases o<;>cases q
 all_goals
  go_wp2;go_ret;exact⟨rfl,m⟩
theorem Rq(a:Func)(hF:a.results= #[.cell 6 AI,.tmp 7])(tmps:Array N)(W:U)(g:Nat)(a0 d b:N)(e:tmps.getD 6 Ac=g)(i:tmps.getD 7 Ac=b)(j:Ah W g AI #[a0,d]):
 (As a tmps).run prog W=.ok (.tuple #[.agg #[a0,d],b]) W:=by
 let⟨k,l⟩:=j.c2;have m:tmps[6]?.getD Ac=g:=by simpa using e
 have n:tmps[7]?.getD Ac=b:=by simpa using i
 simp[As,hF,m,n,go_sem,k,l]
theorem XY{w:U}{vo vl:N}{os:List Ob}{es:List Ev}{txs:List St}{id:Int}{s:St}{d:Dd}(r:Ba 2 CL w vo os)(t:Ba 8 BO w vl es)(l:Bn os es)(aj:∀i∈es,AU i.kind/\i.ret<=9223372036854775807)(ak:∀a7∈os,a7.kind<=9223372036854775807)(al:AE w)
 (W:AR es=txs) (am:txs.length<=12) (X:txs.find? (·.id==id)=s) (g:s.deeds[j]?=d):
 Calls prog 94 #[.agg #[vo,vl],id,(j:Int)] w λu an=>∃Y Z,u=R (.tuple #[.agg #[Y,Z],.nilIface])/\Hy w an Y Z os (CA (Ja d) es)/\Below w w an:=by
 obtain⟨v,x,rfl⟩:=r.shape;obtain⟨y,z,rfl⟩:=t.shape;have ao:=(Am.1 g).1;have ap:=(JI l W s (X9 X)).1;have m:=AG w (K #[C v os.length x,C y es.length z] AI)<|K #[C O 0 0,C O 0 0] AI;have k:=Af m;have n:=Af<|(Ah.new w AI #[C v os.length x,C y es.length z]).alloc (K #[C O 0 0,C O 0 0] AI);have o:=Af<|Bo w (K #[C v os.length x,C y es.length z] AI) AI #[C O 0 0,C O 0 0];have aa:=Af<|Jj (r.below m) (t.below m) ak aj (al.below m);have aq:=Af (λ(ar:U) (a8:Nat) (h:Below w w ar) (a9:Ah ar a8 Bu (Bl d))=>PZ (r.below h) (t.below h) (by have:=l.1;omega) (by have:=l.2.1;omega) (AeO a9 es));have ab:=Af<|And.intro l W;have ba:=Af X;have bb:=Af g;have A:=Af<|And.intro am (And.intro ao ap);go_in;go_upto_region 1 with fail;generalize b7:w.heap.size=a at n o|-;generalize (w.alloc (K #[C v os.length x,C y es.length z] AI)).alloc (K #[C O 0 0,C O 0 0] AI)=bc at k n o aa|-;let⟨ac,ad⟩:=n.o.c2;go_wp2_with fail;refine aa.o.mono ?_;rintro u B ⟨au,(⟨ae,b8,bd,af,rfl,D⟩|⟨be,-⟩)⟩
 rotate_left
 .exact absurd ⟨ab.o.1,by rw[ab.o.2];rfl⟩ be
 obtain rfl:ae=txs:=by rw[ab.o.2] at af;exact(Option.some.inj af).symm
 obtain⟨b9,ca,rfl⟩:=DD.shape D;let⟨av,bf,aw,bg,hF⟩:=SC D (by have:=A.o.1;omega) ba;obtain⟨cb,cc,cd,rfl,-,-,-,bh,bi,ax⟩:=D.at aw;obtain⟨ce,bj,g⟩:=bi;obtain⟨cf,cg,rfl⟩:=g.shape;subst bj;obtain⟨bk,bl,rfl,-,-,ay⟩:=g.at bb;have az:=Af au;have a0:=Af<|ax 6 _ rfl;have e:=Af ay;have bm:=Af<|hF (Zb B);have ch:(0:Int)<=(av:Int):=by omega
 have ci:(av:Int)<(ae.length:Int):=by omega
 have cj:(ae.length:Int)<=12:=by have:=A.o.1;omega
 have ck:(0:Int)<=(j:Int):=by omega
 have cl:(j:Int)<(s.deeds.length:Int):=by have:=A.o.2.1;omega
 have cn:(s.deeds.length:Int)<=400:=by have:=A.o.2.2;omega
 have co:decide ((j:Int)<0)=false:=by simp
 have cp:decide (s.deeds.length<=j)=false:=by simp;omega
 go_wp2_with fail;refine bm.o.mono ?_;rintro u F ⟨rfl,ag⟩;have a1:=Af<|az.o.trans (ag.mono az.o.size);have b:=Af (λ(bn:Addr) (bo:N) (h:B.cell? bn=bo)=>(ag.cell (Ad B _ h)).trans h);have bp:=b.o _ _ a0;have bq:F.cell? ⟨bk,bl+j*8,O⟩=_:=b.o _ _<|e.o 0 _ rfl (by decide);have br:=b.o _ _<|e.o 1 _ rfl (by decide);have bs:=b.o _ _<|e.o 2 _ rfl (by decide);have bt:=b.o _ _<|e.o 3 _ rfl (by decide);have bu:=b.o _ _<|e.o 4 _ rfl (by decide);have bv:=b.o _ _<|e.o 5 _ rfl (by decide);have bw:=b.o _ _<|e.o 6 _ rfl (by decide);have bz:=b.o _ _<|e.o 7 _ rfl (by decide);go_upto_region 10 with fail;have G:=a1.o.alloc a1.o.size<|K (Bl d) Bu;have L:=Af<|aq.o _ _ (k.o.trans (G.mono k.o.size)) (Ah.new F Bu (Bl d));have ah:=Af<|n.o.below G n.o.lt;have p:=Af G;have a2:=Af (show a+1<bc.heap.size from o.o.lt);unfold Bl at L ah p;generalize F.heap.size=cq at L|-;generalize F.alloc (K #[d.obj,d.op,d.key,d.val,d.ret,d.got,d.pos,d.back] Bu)=b0 at L ah p|-;let⟨ac,ad⟩:=ah.o.c2;go_wp2_with fail;refine L.o.mono ?_;rintro u cr ⟨Y,Z,rfl,M,a3⟩;obtain⟨b1,k1,rfl⟩:=Ag M.1;obtain⟨b2,k2,rfl⟩:=Ag M.2;have ai:=p.o.trans<|a3.mono p.o.size;have q:=Af<|o.o.below ai o.o.lt;let⟨cs,ct⟩:=q.o.c2;have cu:=q.o.frozen 0;have cv:=q.o.frozen 1;have cw:=q.o.lt;have b3:=Af M;have b4:=Af<|k.o.trans (ai.mono k.o.size);have b5:=Af p.o.size;go_wp2_with fail;refine Ao (Rq _ rfl _ _ (a+1) _ _ _ rfl rfl (Bs q)) rfl ?_;have S:=b3.o;have b6:=b5.o;have a4:(Ar b1 os.length k1).ownBlock≠E (a+1):=λi=>by have:=(Ai S.1 i).1;have:=a2.o;omega
 have a5:(Ar b2 (CA (Ja d) es).length k2).ownBlock≠E (a+1):=λi=>by have:=(Ai S.2 i).1;have:=a2.o;omega
 have a6:w.heap.size<=b0.heap.size:=A8 k.o.size b6;exact⟨_,_,rfl,⟨Aw (Ak (Ak S.1 (p:=(a+1:Nat)) a4 _) (p:=⟨a+1,1,O⟩) a4 _) a6,Aw (Ak (Ak S.2 (p:=(a+1:Nat)) a5 _) (p:=⟨a+1,1,O⟩) a5 _) a6⟩,(b4.o.setCell (p:=(a+1:Nat)) (show w.heap.size<=a+1 by omega) _).setCell (p:=⟨a+1,1,O⟩) (show w.heap.size<=a+1 by omega) _⟩
end Go.Proofs.YtpoacbcnhpbdmaaGreatDoor
