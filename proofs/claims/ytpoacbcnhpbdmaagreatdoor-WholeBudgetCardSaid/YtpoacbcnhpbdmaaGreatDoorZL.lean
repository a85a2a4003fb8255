/-
  A part of the proof: Cnd and what follows.
-/
import Derived.Test.YtpoacbcnhpbdmaaGreatDoorZH
import Derived.Maps.RangeWalk
import Derived.LaidEqlPtr
set_option linter.all false
set_option maxRecDepth 100000
set_option maxHeartbeats 32000000
open Go.Proofs.AnyZI renaming keys_gives→J5,keys_in→J4,sorted_in→KX
open Array renaming getElem?_eq_some_iff→ET,replicate_succ→Fy,replicate_zero→Fz
open Go.RowKit.Below renaming heap_alloc→ER,heap_setCell→B3,refl→Ae
open Go.Builtin renaming len_→Uf
open Go.CallsIn renaming inRound→Gg
open Classical renaming em→V3
open Go.DataW renaming held→Gr
open Go.Fence renaming wide→Ed
open Go renaming keyOf→IE,TypeId→Ab,binOp→Ec,bodyPost_ret→Ao,callFunc→EB,callsIn_wide→Dh,cell_one_new→En,grownBy_putObj'→GX,heap_alloc_new→D4,info_parts→A1,madeCells→A2,maxLen→Al,results→As,rounds_succ→Aq,run_underlying→G7,undef→Ac,wpList_append_own_at→B9,wp_loop_rounds→CO,zeroValue→Ew
open Go.Instr renaming lookup→B1
open Int renaming le_of_lt→Un,ne_of_lt→Um
open Go.IntKind renaming bits→Jx,max→OY,min→OX,signed→Jf
open List renaming append_toArray→FV,cons_append→Ez,getElem?_eq_getElem→An,getElem?_eq_some_iff→Am,length_cons→C4,length_nil→Em,map_cons→G9,mem_cons→B2,mem_flatMap→FY,mem_map→EE,mem_of_getElem?→Ap,mergeSort_of_pairwise→K1,nil_append→Es,pairwise_iff_getElem→Ul,push_toArray→FE,size_toArray→EQ
open Go.Maps renaming size→H4
open Nat renaming le_of_lt→HF,le_refl→Aa,le_succ→Ax,le_trans→A8,lt_irrefl→IC,lt_of_lt_of_le→ED,lt_or_ge→ES,ne_of_lt→Ot,zero_le→A9
open Go.Op renaming equal→EL,equalIn→HB,maxDepth→EM
open Option renaming map_eq_some_iff→Eo
open Go.Program renaming keyLits→O0
open Subtype renaming ext→IF
open Go.Value renaming int→A0,oneCell'→B4,ownBlock→A5,slice→Ar
open Go.World renaming block_lt_of_cell?→Ad,cell?→G5,grownBy_alloc→HV,news_of_block→Ee,ownsRow_nil→Ep,size_alloc→Eb
open Go.Proofs renaming enters_of→Eg
open Go.RowKit renaming run_makeMap→EC
open Go.Value renaming int→I,slice→C,pointer→Q,bool→T
open Go.IntKind renaming i64→J
open Go.Obj renaming cells→K
open Go.Obj renaming cells→H
open Go.Ending renaming returned→R
open Option renaming none→O,some→E
open Go renaming World→U,Value→N
namespace Go.Proofs.YtpoacbcnhpbdmaaGreatDoor
open Go.RowKit Go.Maps Go.Proofs.Tryz W
variable {w W X Y Z:World}{n k g c m i j b a:Nat}{v u z y:Value}{x t:Int}{p:TypeId}{q:List Value}{r:Array Value}{A:Option Addr}
attribute [local go_sem↓] Go.wp_at_zero Go.wp_at_succ
section
attribute [local go_sem] Oper.semAt_some
def Bj(m:Nat)(W W':U):Prop:=(∀a b,W.cell? a=E b->W'.cell? a=E b)/\Below m W W'
theorem Bj.trans{A B C:U}(h:Bj m A B)(k:Bj m B C):Bj m A C:=⟨λa b d=>k.1 a b (h.1 a b d),h.2.trans k.2⟩
theorem Bj.below{W W':U}(h:Below W W W')(b:m<=W.heap.size):Bj m W W':=⟨λd _ a=>(h.cell (Ad W d a)).trans a,h.mono b⟩
theorem Bj.put(W:U)(l:Nat)(o o':Obj)(b:W.heap[l]?=o)(d:o.isCells=false)(e:m<=l):Bj m W (W.putObj l o'):=
 ⟨λ_ _ a=>cell_kept a (GX W l o') (λi g=>by cases g;exact⟨o,b,d⟩),(Ae m W).grown (GX W l o') (by have:=(ET.1 b).1;omega) (λj a=>by cases a;exact e)⟩
def Jb(es:List Ev)(txs:List St):List (List Ev):=txs.flatMap λa=>CA (λ_ b=>b.tx !=a.id) es::a.deeds.map λd=>CA (Ja d) es
structure RE where
 n:Nat
 vo:N
 vl:N
def RE.enc(x:RE):Array N:= #[(x.n:Int),.agg #[x.vo,x.vl]]
def RE.Rel(os:List Ob)(cs:List (List Ev))(x:RE)(W:U):Prop:=∃c,c∈cs/\Ba 2 CL W x.vo os/\Ba 8 BO W x.vl c
theorem Yl{es:List Ev}{txs:List St}{t:St}(h:t∈txs):CA (λ_ a=>a.tx !=t.id) es∈Jb es txs:=FY.2 ⟨t,h,by simp⟩
theorem Ym{es:List Ev}{txs:List St}{t:St}{d:Dd}(h:t∈txs)(a:d∈t.deeds):CA (Ja d) es∈Jb es txs:=FY.2 ⟨t,h,by simp;exact .inr ⟨d,a,rfl⟩⟩
theorem AaT{txs:List St}(d:txs.Pairwise λe g=>e.id≠g.id){t:St}(h:txs[k]?=t):txs.find? (·.id==t.id)=t:=by
 let⟨a,b⟩:=Am.1 h;refine List.find?_eq_some_iff_getElem.2 ⟨by simp,k,a,b,λi j=>?_⟩;have:=Ul.1 d i k (by omega) a j;rw[b] at this;simpa using this
def HiC(os:List Ob)(es:List Ev)(b:Nat)(W:U):Prop:=∃a d e g,W.cell? b=E (C a os.length d)/\W.cell? ⟨b,1,O⟩=E (C e es.length g)/\Ba 2 CL W (C a os.length d) os/\Ba 8 BO W (C e es.length g) es
theorem HiC.kept{os:List Ob}{es:List Ev}{W W':U}(h:HiC os es b W)(k:Bj m W W'):HiC os es b W':=by
 obtain⟨a,d,e,g,i,j,l,n⟩:=h;exact⟨a,d,e,g,k.1 _ _ i,k.1 _ _ j,l.of_cells k.1,n.of_cells k.1⟩
theorem Ac4(bw b:Nat){w0 W:U}{os:List Ob}{es:List Ev}{txs:List St}(a8:AE w0)(a9:∀co∈os,co.kind<=9223372036854775807)(ba:∀e∈es,AU e.kind/\e.ret<=9223372036854775807)(bb:Bn os es)(bc:AR es=txs)(bz:txs.length<=12)(b0:txs.Pairwise λcp b=>cp.id≠b.id)
 (F b1:List RE->U->Prop) (bd:Below w0 w0 W) (b2:OwnFrom W F)
 (b3:∀(ae:List RE) (a1:RE) (a2:U),F ae a2->a1.Rel os (Jb es txs) a2->ae.length<5000->YieldAt Ed 6 prog bw a1.enc a2 λe W'=>
  (e=true/\F (ae++[a1]) W'/\Bj w0 a2 W')∨(e=false/\b1 (ae++[a1]) W'))
 (cq:HiC os es b W) (b4:F [] W):
 CallsIn Ed 7 prog 92 #[.func (.yield bw) #[] #[],b] W λe W'=>(∃b5,e=R b5)/\
  ((∃g,True/\F g W')∨(∃ae,True/\b1 ae W')):=by
 obtain⟨cr,cs,ct,cu,S,X,be,bf⟩:=cq;have cv:=Af (show HiC os es b W from⟨cr,cs,ct,cu,S,X,be,bf⟩);have b6:=Af<|Jj be bf a9 ba (a8.below bd);have am:=Af b2;have b7:=Af b3;have b8:=Af b4;have r:=Af<|And.intro bb (And.intro bc bz);have b9:=Af bd;have cw:=Af a9;have cx:=Af ba;have cy:=Af a8;have cz:=Af<|JI bb bc;have c0:=Af b0;refine callsIn_of_wp func92 rfl trivial ?_ rfl;simp only[ntmps92,EQ,C4,Em,Nat.reduceAdd,Nat.reduceSub,Fy,Fz,FE,FV,Es,Ez];gi_wp2_with fail;refine⟨trivial,?_⟩;refine(Dh.2 b6).mono ?_;rintro k ca ⟨Y,(⟨i,b5,c1,bg,rfl,bh⟩|⟨c2,-⟩)⟩
 rotate_left
 .exact absurd ⟨r.o.1,by rw[r.o.2.1];rfl⟩ c2
 obtain rfl:i=txs:=by rw[r.o.2.1] at bg;exact(Option.some.inj bg).symm
 obtain⟨dj,dk,rfl⟩:=DD.shape bh;have bi:=Bj.below Y b9.o.size;have cb:=Af<|cv.o.kept bi;have cc:=Af<|am.o _ _ _ O b8 ⟨Y.os,Y.tape,Y.output,Y.size,λd o _=>Y.block d o⟩ (λk e=>by cases e);have cd:=Af bh;have an:=Af<|b9.o.trans bi.2;have dl:(i.length:Int)<=12:=by have:=r.o.2.2;omega
 gi_upto_region 4 with fail
 gi_loopw [22,5] (λu ao wr=>∃(d:Nat) (g:List RE),d<=i.length/\u=(d:Int)/\ao=(g.length:Int)/\g.length<=d/\F g wr/\Bj w0 ca wr) (λu _ _=>13-(intOf u).toNat)
 case atStart=>exact⟨0,[],A9 _,rfl,rfl,Aa _,cc,λ_ _ h=>h,Ae _ _⟩
 case round=>
  obtain⟨d,g,o,rfl,rfl,v,q,j⟩:=hrel;have af:=Af q;have w:=Af v;have bj:=Af j;by_cases l:d<i.length
  .obtain⟨a,G⟩:∃a,i[d]?=E a:=⟨i[d],An l⟩;obtain⟨ap,aq,c3,rfl,-,-,-,bk,a3,ar⟩:=cd.o.at G;obtain⟨c4,rfl,y⟩:=a3;obtain⟨z,A,rfl⟩:=y.shape;have n:∀(k:Nat) (B:N),([a.id,a.thr,a.status,a.beg,a.fin,a.tri,C z a.deeds.length A]:List N)[k]?=E B->wr.cell? ⟨ap,aq+d*7+k,O⟩=E B:=λk B h=>j.1 _ _ (ar k B h);have bl:wr.cell? ⟨ap,aq+d*7,O⟩=_:=n 0 _ rfl;have bm:=n 1 _ rfl;have bn:=n 2 _ rfl;have bo:=n 3 _ rfl;have bp:=n 4 _ rfl;have bq:=n 5 _ rfl;have br:=n 6 _ rfl;have a4:=Af<|Ap G;have L:=Af l;have p:=Zc wr<|K #[a.id,a.thr,a.status,a.beg,a.fin,a.tri,C z a.deeds.length A] Bq;have ag:=j.trans<|Bj.below p (A8 an.o.size j.2.size);let⟨Z,k1,aa,k2,S,X,au,av⟩:=cb.o.kept ag;have ah:=Af<|P0 au av (by have:=r.o.1.1;omega) (by have:=r.o.1.2.1;omega) a.id;have ai:=Af<|am.o _ _ _ O q ⟨p.os,p.tape,p.output,p.size,λd o _=>p.block d o⟩ (λk e=>by cases e);have ab:=Af ag;have M:=Af<|Ah.new wr Bq #[a.id,a.thr,a.status,a.beg,a.fin,a.tri,C z a.deeds.length A];have c5:(0:Int)<=(d:Int):=by omega
   have c6:(d:Int)<(i.length:Int):=by omega
   have dm:(g.length:Int)<=(d:Int):=by omega
   have dn:(0:Int)<=(g.length:Int):=by omega
   have aw:decide (d<i.length)=true:=by simpa using l
   gi_upto_region 6 with fail
   generalize wr.heap.size=ce at M|-;generalize wr.alloc (K #[a.id,a.thr,a.status,a.beg,a.fin,a.tri,C z a.deeds.length A] Bq)=cf at ah ai ab M S X|-;have bs:=M.o.cell 0;gi_wp2_with fail;refine⟨trivial,?_⟩;refine(Dh.2 ah).mono ?_;rintro k aj ⟨cg,ch,rfl,D,x⟩;have ci:=am.o _ _ _ O ai ⟨x.os,x.tape,x.output,x.size,λd o _=>x.block d o⟩ (λk e=>by cases e);let⟨fn,c7,assign,body,ak,ax⟩:=JK 6<|b7.o g ⟨g.length,cg,ch⟩ _ ci ⟨_,Yl a4,D.reads⟩ (by have:=w.o;have:=r.o.2.2;have:=L.o;omega);have c8:=Af<|ab.o.trans (Bj.below x (A8 an.o.size ab.o.2.size));have a5:=Af ax;unfold RE.enc at ak;simp only at ak;obtain⟨Z,k1,rfl⟩:=Ag D.1;obtain⟨aa,k2,rfl⟩:=Ag D.2;gi_wp2_with fail;refine a5.o.mono ?_;rintro e c9 (⟨rfl,ay,az⟩|⟨rfl,a0⟩)
   .have ac:=Af ay;have bt:=Af<|c8.o.trans az;gi_wp2_with fail
    go_roundw
    case rel=>exact⟨d+1,g++[_],L,by go_num,by simp,by have:=w.o;simp;omega,ac,bt⟩
    case measure=>simp[intOf];have:=L.o;omega
   .have ac:=Af a0;gi_wp2_with fail;refine Ao (results_none rfl _ _ _) rfl ?_;exact⟨⟨_,rfl⟩,.inr ⟨_,trivial,ac⟩⟩
  .obtain rfl:d=i.length:=by omega
   have aw:decide (i.length<i.length)=false:=by simp
   gi_upto_region 10 with fail
   gi_loopw [39,5] (λu ao W=>∃(d:Nat) (g:List RE),d<=i.length/\u=(d:Int)/\ao=(g.length:Int)/\g.length<=12+400*d/\F g W/\Bj w0 ca W) (λu _ _=>13-(intOf u).toNat)
   case atStart=>exact⟨0,g,A9 _,rfl,rfl,by have:=w.o;have:=r.o.2.2;omega,af,bj⟩
   case round=>
    obtain⟨d,g,o,rfl,rfl,v,q,j⟩:=hrel;have af:=Af q;have w:=Af v;have bj:=Af j;by_cases l:d<i.length
    .obtain⟨a,G⟩:∃a,i[d]?=E a:=⟨i[d],An l⟩;obtain⟨ap,aq,c3,rfl,-,-,-,bk,a3,ar⟩:=cd.o.at G;have da:=a3;obtain⟨c4,rfl,y⟩:=da;obtain⟨z,A,rfl⟩:=y.shape;have n:∀(k:Nat) (B:N),([a.id,a.thr,a.status,a.beg,a.fin,a.tri,C z a.deeds.length A]:List N)[k]?=E B->wr.cell? ⟨ap,aq+d*7+k,O⟩=E B:=λk B h=>j.1 _ _ (ar k B h);have bl:wr.cell? ⟨ap,aq+d*7,O⟩=_:=n 0 _ rfl;have bm:=n 1 _ rfl;have bn:=n 2 _ rfl;have bo:=n 3 _ rfl;have bp:=n 4 _ rfl;have bq:=n 5 _ rfl;have br:=n 6 _ rfl;have a4:=Af<|Ap G;have db:=Af<|AaT c0 G;have L:=Af l;have p:=Zc wr<|K #[a.id,a.thr,a.status,a.beg,a.fin,a.tri,C z a.deeds.length A] Bq;have ag:=j.trans<|Bj.below p (A8 an.o.size j.2.size);have ai:=Af<|am.o _ _ _ O q ⟨p.os,p.tape,p.output,p.size,λd o _=>p.block d o⟩ (λk e=>by cases e);have ab:=Af ag;have M:=Af<|Ah.new wr Bq #[a.id,a.thr,a.status,a.beg,a.fin,a.tri,C z a.deeds.length A];have a6:=Af (cz.o a a4).1;have c5:(0:Int)<=(d:Int):=by omega
     have c6:(d:Int)<(i.length:Int):=by omega
     have aw:decide (d<i.length)=true:=by simpa using l
     gi_upto_region 12 with fail
     generalize wr.heap.size=ce at M|-;generalize wr.alloc (K #[a.id,a.thr,a.status,a.beg,a.fin,a.tri,C z a.deeds.length A] Bq)=cf at ai ab M|-;have dc:=M.o.cell 6
     gi_upto_region 13 with fail
     gi_loopw [46,5] (λu ao W=>∃(t:Nat) (g:List RE),t<=a.deeds.length/\u=(t:Int)/\ao=(g.length:Int)/\g.length<=12+400*d+t/\F g W/\Bj w0 cf W) (λu _ _=>401-(intOf u).toNat)
     case atStart=>exact⟨0,g,A9 _,rfl,rfl,w,ai,λ_ _ h=>h,Ae _ _⟩
     case round=>
      obtain⟨t,g,cj,rfl,rfl,v,q,j⟩:=hrel;have w:=Af v;by_cases l:t<a.deeds.length
      .obtain⟨al,y⟩:∃al,a.deeds[t]?=E al:=⟨a.deeds[t],An l⟩;have a7:=ab.o.trans j;let⟨Z,k1,aa,k2,S,X,au,av⟩:=cb.o.kept a7;have ah:=Af<|XY au av r.o.1 cx cw (cy.o.below (an.o.trans a7.2)) r.o.2.1 r.o.2.2 db y;have dd:=Af<|Ap y;have bu:=Af l;have af:=Af q;have de:=Af a7;have df:=Af j;have bs:wr.cell? ce=a.id:=j.1 _ _<|M.o.cell 0;have dp:(0:Int)<=(t:Int):=by omega
       have dq:(t:Int)<(a.deeds.length:Int):=by omega
       have dr:(a.deeds.length:Int)<=400:=by have:=a6.o;omega
       have ds:(g.length:Int)<=5000:=by have:=r.o.2.2;have:=L.o;omega
       have dt:(0:Int)<=(g.length:Int):=by omega
       have aw:decide (t<a.deeds.length)=true:=by simpa using l
       gi_wp2_with fail;refine⟨trivial,?_⟩;refine(Dh.2 ah).mono ?_;rintro k aj ⟨cg,ch,rfl,D,x⟩;obtain⟨Z,k1,rfl⟩:=Ag D.1;obtain⟨aa,k2,rfl⟩:=Ag D.2;have ad:=x.alloc x.size<|K #[C Z os.length k1,C aa (CA (Ja al) es).length k2] AI;have bv:=Af<|Ah.new aj AI #[C Z os.length k1,C aa (CA (Ja al) es).length k2];have ck:=am.o _ _ _ O af ⟨ad.os,ad.tape,ad.output,ad.size,λd o _=>ad.block d o⟩ (λk e=>by cases e);have cl:=(D.call (Zc aj (K #[C Z os.length k1,C aa (CA (Ja al) es).length k2] AI))).reads;have cn:=Af<|Bj.below ad (m:=w0.heap.size) (A8 an.o.size de.o.2.size);let⟨fn,c7,assign,body,ak,ax⟩:=JK 6<|b7.o g ⟨g.length,_,_⟩ _ ck ⟨_,Ym a4 dd,cl⟩ (by have:=w.o;have:=r.o.2.2;have:=L.o;have:=bu.o;have:=a6.o;omega);have a5:=Af ax;unfold RE.enc at ak;simp only at ak
       gi_upto_region 16 with fail
       generalize aj.heap.size=du at bv|-;generalize aj.alloc (K #[C Z os.length k1,C aa (CA (Ja al) es).length k2] AI)=dv at bv cn a5 ak|-;let⟨dw,dx⟩:=bv.o.c2;gi_wp2_with fail;refine a5.o.mono ?_;rintro e c9 (⟨rfl,ay,az⟩|⟨rfl,a0⟩)
       .have ac:=Af ay;have bt:=Af<|(df.o.trans cn).trans az;gi_wp2_with fail
        go_roundw
        case rel=>exact⟨t+1,g++[_],bu,by go_num,by simp,by have:=w.o;simp;omega,ac,bt⟩
        case measure=>simp[intOf];have:=bu.o;have:=a6.o;omega
       .have ac:=Af a0;gi_wp2_with fail;refine Ao (results_none rfl _ _ _) rfl ?_;exact⟨⟨_,rfl⟩,.inr ⟨_,trivial,ac⟩⟩
      .obtain rfl:t=a.deeds.length:=by omega
       have aw:decide (a.deeds.length<a.deeds.length)=false:=by simp
       have dh:=Af q;have di:=Af<|ab.o.trans j;gi_wp2_with fail
       go_roundw
       case rel=>exact⟨d+1,g,L,by go_num,rfl,by have:=w.o;have:=a6.o;omega,dh,di⟩
       case measure=>simp[intOf];have:=L.o;omega
    .obtain rfl:d=i.length:=by omega
     have aw:decide (i.length<i.length)=false:=by simp
     gi_wp2_with fail
     go_end0
     exact⟨⟨_,rfl⟩,.inl ⟨_,trivial,af⟩⟩
theorem Vg(b:Nat){w0 w:U}{os:List Ob}{es:List Ev}{txs:List St}(g:AE w0)(i:∀j∈os,j.kind<=9223372036854775807)(k:∀d∈es,AU d.kind/\d.ret<=9223372036854775807)(l:Bn os es)(m:AR es=txs)(n:txs.length<=12)(o:txs.Pairwise λp b=>p.id≠b.id)(a:Below w0 w0 w)(q:HiC os es b w):
 Aaq prog 92 #[b] RE.enc (RE.Rel os (Jb es txs)) (Bj w0) (λ_=>True) (λ_=>True) 5000 w:=λr t u L e v _ x y=>
 Dh.1 (Ac4 r b g i k l m n o t u (a.trans (e.mono a.size)) v (λz A B D F G=>(x z A B D F G).mono λ_ _ h=>h.2) (q.kept (Bj.below e a.size)) y)
theorem LO{w:U}{vo vl:N}{os:List Ob}{es:List Ev}(i:Ba 2 CL w vo os)(j:Ba 8 BO w vl es)(L:os.length<=1000)(M:es.length<=1000):
 Calls prog 51 #[.agg #[vo,vl]] w λv x=>∃y,v=R (.func (.func 92) #[] #[Q (E ⟨y,0,O⟩)])/\HiC os es y x/\Below w w x:=by
 obtain⟨k,l,rfl⟩:=i.shape;obtain⟨m,n,rfl⟩:=j.shape;have a:=Af<|Ah.new w AI #[C k os.length l,C m es.length n];have b:=Af<|Zc w (K #[C k os.length l,C m es.length n] AI);have o:=Af<|F7 (i.below b) (j.below b) L M;go_in;go_upto_region 1 with fail;generalize w.alloc (K #[C k os.length l,C m es.length n] AI)=S at a b o|-;let⟨W,X⟩:=a.o.c2;go_wp2_with fail;refine o.o.mono ?_;rintro v z ⟨Z,aa,rfl,e,q⟩;have g:=Af e;have Y:=Af<|b.o.trans (q.mono b.o.size);have d:=Af<|a.o.below q a.o.lt;have A:=Af a.o.lt;obtain⟨r,k1,rfl⟩:=Ag e.1;obtain⟨t,k2,rfl⟩:=Ag e.2;obtain⟨ab,ac⟩:_/\_:=⟨d.o.frozen 0,d.o.frozen 1⟩;let⟨ad,ae⟩:=d.o.c2;have af:=d.o.lt;go_wp2;go_ret;have B:(Ar r os.length k1).ownBlock≠E w.heap.size:=λu=>by have:=(Ai g.o.1 u).1;have:=A.o;omega
 have D:(Ar t es.length k2).ownBlock≠E w.heap.size:=λu=>by have:=(Ai g.o.2 u).1;have:=A.o;omega
 have F:Hy S ((z.setCell w (C r os.length k1)).setCell ⟨w.heap.size,1,O⟩ (C t es.length k2)) _ _ os es:=⟨Ak (Ak g.o.1 (p:=w) B _) (p:=⟨w.heap.size,1,O⟩) B _,Ak (Ak g.o.2 (p:=w) D _) (p:=⟨w.heap.size,1,O⟩) D _⟩;have G:Ah ((z.setCell w (C r os.length k1)).setCell ⟨w.heap.size,1,O⟩ (C t es.length k2)) w AI #[_,_]:=Bs d;exact⟨_,rfl,⟨_,_,_,_,G.c2.1,G.c2.2,F.reads.1,F.reads.2⟩,(Y.o.setCell (p:=w) (Aa _) _).setCell (p:=⟨w.heap.size,1,O⟩) (Aa _) _⟩
end
section
attribute [local go_sem] Oper.semAt_some
def JOk(level:Int)(os:List Ob)(es:List Ev)(most:Nat)(y:Bool):Prop:=∃txs s a,Bn os es/\AR es=E txs/\txs.length<=12/\(BF os txs level).search most=E (y,s,a)
theorem Kv{w:U}{vo vl:N}{os:List Ob}{es:List Ev}{level:Int}{most:Nat}{y:Bool}(i:Ba 2 CL w vo os)(j:Ba 8 BO w vl es)(k:∀l∈os,l.kind<=9223372036854775807)(m:∀b∈es,AU b.kind/\b.ret<=9223372036854775807)(n:AE w)(o:1<=level/\level<=3)(p:1<=most/\most<=150)(h:JOk level os es most y):
 Calls prog 8 #[.agg #[vo,vl],level,(most:Int)] w λd e=>(∃a q c g,d=R (.tuple #[.agg #[y,C a q c,C O 0 0,(),I J g],.nilIface]))/\Below w w e:=by
 obtain⟨txs,s,g,r,t,u,v⟩:=h;refine(AaM i j k m n o p r t u v).mono ?_;rintro d e ⟨⟨A,rfl,x⟩,z⟩;obtain⟨a,c,rfl⟩:=x.shape;exact⟨⟨a,_,c,_,rfl⟩,z⟩
theorem MU{p:Nat->Ev->Bool}{es:List Ev}{e:Ev}(h:e∈CA p es):e∈es:=by
 unfold CA at h;obtain⟨⟨b,d⟩,a,rfl⟩:=EE.1 h;exact(List.mem_zipIdx' (List.mem_filter.1 a).1).2▸List.getElem_mem _
theorem Vh{es:List Ev}{txs:List St}{c:List Ev}(h:c∈Jb es txs):∀e∈c,e∈es:=λe b=>by
 let⟨d,_,a⟩:=FY.1 h;rcases B2.1 a with rfl|a
 .exact MU b
 .obtain⟨g,_,rfl⟩:=EE.1 a;exact MU b
theorem NO{w:U}{vo vl:N}{os:List Ob}{es:List Ev}{level:Int}{most:Nat}(b:Ba 2 CL w vo os)(d:Ba 8 BO w vl es)(q:∀G∈os,G.kind<=9223372036854775807)(r:∀t∈es,AU t.kind/\t.ret<=9223372036854775807)(u:AE w)(v:1<=level/\level<=3)(x:1<=most/\most<=150)(h:JOk level os es most false):
 Calls prog 21 #[.agg #[vo,vl],level,(most:Int)] w λy L=>y=R .nilIface/\Below w w L:=by
 obtain⟨e,g,rfl⟩:=b.shape;obtain⟨i,j,rfl⟩:=d.shape;have a:=Zc w<|K #[C e os.length g,C i es.length j] AI;have k:=Af a;have z:=Af<|Ah.new w AI #[C e os.length g,C i es.length j];have A:=Af<|Kv (b.below a) (d.below a) q r (u.below a) v x h;go_in;go_upto_region 1 with fail;generalize w.alloc (K #[C e os.length g,C i es.length j] AI)=W at k z A|-;let⟨M,S⟩:=z.o.c2;go_wp2_with fail;refine A.o.mono ?_;rintro y l ⟨⟨m,n,c,o,rfl⟩,B⟩;have D:=Af<|k.o.trans (B.mono k.o.size);have p:=Af<|Ah.new l D5 #[false,C m n c,C O 0 0,(),o];have F:=Af<|D.o.alloc D.o.size (K #[false,C m n c,C O 0 0,(),o] D5);go_upto_region 2 with fail;generalize l.heap.size=X at p|-;generalize l.alloc (K #[false,C m n c,C O 0 0,(),o] D5)=Y at p F|-;have Z:=p.o.cell 0;go_wp2;go_ret;exact⟨rfl,F⟩
theorem Yn{w:U}{vo vl:N}{os:List Ob}{es:List Ev}{txs:List St}{level:Int}{most:Nat}(al:Ba 2 CL w vo os)(am:Ba 8 BO w vl es)(an:∀ao∈os,ao.kind<=9223372036854775807)(ap:∀g∈es,AU g.kind/\g.ret<=9223372036854775807)(aq:AE w)(a9:1<=level/\level<=3)(ba:1<=most/\most<=150)
 (ac:Bn os es) (bb:AR es=txs) (bc:txs.length<=12) (bd:txs.Pairwise λb2 ad=>b2.id≠ad.id) (be:∀c∈Jb es txs,JOk level os c most true):
 Calls prog 22 #[.agg #[vo,vl],level,(most:Int)] w λy b3=>y=R (.tuple #[.agg #[C O 0 0,C O 0 0],false,.nilIface])/\Below w w b3:=by
 obtain⟨p,q,rfl⟩:=al.shape;obtain⟨r,t,rfl⟩:=am.shape;have ae:Below w w ((((((w.alloc (H #[C p os.length q,C r es.length t] AI)).alloc (H #[(level:Int)] Cv)).alloc (H #[(most:Int)] Cv)).alloc (H #[C O 0 0,C O 0 0] AI)).alloc (H #[false] 4)).alloc (H #[.nilIface] Gx)):=(((((Zc w _).alloc (by simp) _).alloc (by simp;omega) _).alloc (by simp;omega) _).alloc (by simp;omega) _).alloc (by simp;omega) _;have ar:=Af ae;have af:=Af<|(((((Ah.new w AI #[C p os.length q,C r es.length t]).alloc (H #[(level:Int)] Cv)).alloc (H #[(most:Int)] Cv)).alloc (H #[C O 0 0,C O 0 0] AI)).alloc (H #[false] 4)).alloc (H #[.nilIface] Gx);have M:=Af<|((((Ah.new (w.alloc (H #[C p os.length q,C r es.length t] AI)) Cv #[(level:Int)]).alloc (H #[(most:Int)] Cv)).alloc (H #[C O 0 0,C O 0 0] AI)).alloc (H #[false] 4)).alloc (H #[.nilIface] Gx);have S:=Af<|(((Ah.new ((w.alloc (H #[C p os.length q,C r es.length t] AI)).alloc (H #[(level:Int)] Cv)) Cv #[(most:Int)]).alloc (H #[C O 0 0,C O 0 0] AI)).alloc (H #[false] 4)).alloc (H #[.nilIface] Gx);have W:=Af<|((Ah.new (((w.alloc (H #[C p os.length q,C r es.length t] AI)).alloc (H #[(level:Int)] Cv)).alloc (H #[(most:Int)] Cv)) AI #[C O 0 0,C O 0 0]).alloc (H #[false] 4)).alloc (H #[.nilIface] Gx);have X:=Af<|(Ah.new ((((w.alloc (H #[C p os.length q,C r es.length t] AI)).alloc (H #[(level:Int)] Cv)).alloc (H #[(most:Int)] Cv)).alloc (H #[C O 0 0,C O 0 0] AI)) 4 #[false]).alloc (H #[.nilIface] Gx);have Y:=Af<|Ah.new (((((w.alloc (H #[C p os.length q,C r es.length t] AI)).alloc (H #[(level:Int)] Cv)).alloc (H #[(most:Int)] Cv)).alloc (H #[C O 0 0,C O 0 0] AI)).alloc (H #[false] 4)) Gx #[.nilIface];have au:=Af<|LO (al.below ae) (am.below ae) (by have:=ac.1;omega) (by have:=ac.2.1;omega);have b4:=Af (λ(ad:Nat) (v:U) (h:Below w w v) (b:HiC os es ad v)=>Vg ad aq an ap ac bb bc bd h b);have b5:=Af (λ(v:U) (h:Below w w v) (vo vl:N) (c:List Ev) (x:c∈Jb es txs) (d:Ba 2 CL v vo os) (i:Ba 8 BO v vl c)=>Kv d i an (λg b6=>ap g (Vh x g b6)) (aq.below h) a9 ba (be c x));refine(Dh (n:=8)).1<|callsIn_of_wp_marks func22 rfl trivial ?_ rfl;simp only[ntmps22,EQ,C4,Em,Nat.reduceAdd,Nat.reduceSub,Fy,Fz,FE,FV,Es,Ez]
 gi_upto_region 1 with fail
 generalize b8:w.heap.size=a at af M S W X Y|-;simp only[Eb,b8] at M S W X Y;generalize ((((((w.alloc (H #[C p os.length q,C r es.length t] AI)).alloc (H #[(level:Int)] Cv)).alloc (H #[(most:Int)] Cv)).alloc (H #[C O 0 0,C O 0 0] AI)).alloc (H #[false] 4)).alloc (H #[.nilIface] Gx))=j at ar au af M S W X Y|-;let⟨b9,ca⟩:=af.o.c2;gi_wp2_with fail;refine⟨trivial,?_⟩;refine(Dh.2 au).mono ?_;rintro y bf ⟨av,rfl,bg,z⟩;have A:=Af bg;have ag:=Af<|ar.o.trans (z.mono ar.o.size);have cb:=Af<|M.o.below z M.o.lt;have cc:=Af<|S.o.below z S.o.lt;have cd:=Af<|W.o.below z W.o.lt;have ce:=Af<|X.o.below z X.o.lt;have bh:=Af<|Y.o.below z Y.o.lt;gi_wp2_with fail;have cf:=Af (show a+1+1+1+1+1<bf.heap.size from bh.o.lt)
 apply Nz (gf:=92) (lb:= #[av]) rfl (Eg func92 (by kernel_rfl) rfl)
  (b4.o av bf ag A) Bj.trans (λv ao cg d i=>Bj.put v _ ao cg d i (by have:=ag.o.size;omega)) (Ae _ _) (λ_=>rfl)
  (λB s D aw ax h k m=>by
   obtain⟨c,d,i,e⟩:=h;exact⟨c,d,i.of_cells λZ ch g=>cell_kept g k (λy g=>(m y g).2),e.of_cells λZ ch g=>cell_kept g k (λy g=>(m y g).2)⟩)
  (λF u=>Ah u (a+1) Cv #[(level:Int)]/\Ah u (a+1+1) Cv #[(most:Int)]/\Ah u (a+1+1+1) AI #[C O 0 0,C O 0 0]/\Ah u (a+1+1+1+1) 4 #[false]/\Ah u (a+1+1+1+1+1) Gx #[.nilIface]/\Below w w u)
  (λc F u=>False)
  (λF D aw ax h k m=>by
   obtain⟨d,i,e,n,o,h⟩:=h;exact⟨Bd k m _ _ _ d,Bd k m _ _ _ i,Bd k m _ _ _ e,Bd k m _ _ _ n,Bd k m _ _ _ o,Cr h ag.o.size h.size k m⟩)
  (λ_ F D aw ax h k m=>h.elim)
  ⟨cb,cc,cd,ce,bh,ag⟩
  (λB ay u=>∃aa,Ah u aa AI #[B.vo,B.vl]/\ay={tmps:= #[.agg #[C p os.length q,C r es.length t],I J level,I J (most:Int),Q (E ⟨a,0,O⟩),Q (E ⟨a+1,0,O⟩),Q (E ⟨a+1+1,0,O⟩),Q (E ⟨a+1+1+1,0,O⟩),Q (E ⟨a+1+1+1+1,0,O⟩),Q (E ⟨a+1+1+1+1+1,0,O⟩),Ac,Q (E ⟨aa,0,O⟩),Ac,Ac,.agg #[C p os.length q,C r es.length t],.func (.func 92) #[] #[Q (E ⟨av,0,O⟩)],I J (B.n:Int),.agg #[B.vo,B.vl],Ac,Ac,Ac,Ac,Ac,Ac,Ac,Ac,Ac,Ac,Ac,Ac,Ac,Ac,Ac,Ac],defers:=[]})
  (λB ay s D aw ax h k m=>by
   obtain⟨aa,d,e⟩:=h;exact⟨aa,Bd k m _ _ _ d,e⟩)
  ?assign ?body ?done ?stop
 case assign=>
  rintro bi F ⟨b7,ci,cj⟩ j K bj ⟨c,x,G,L⟩ ab;obtain⟨bk,k1,rfl⟩:=G.shape;obtain⟨bl,k2,rfl⟩:=L.shape;have ck:=Af bj;have az:=Af<|And.intro x (And.intro G L);have a0:=Af ab;unfold RE.enc;dsimp only;gi_wp2_with fail;have b:=Zc j<|H #[C bk os.length k1,C bl c.length k2] AI;let⟨d,i,e,n,o,h⟩:=ck.o;exact a0.o _ _ (Bz b) (Bj.below b h.size) ⟨d.alloc _,i.alloc _,e.alloc _,n.alloc _,o.alloc _,h.alloc h.size _⟩ ⟨c,az.o.1,az.o.2.1.below b,az.o.2.2.below b⟩ ⟨j.heap.size,Ah.new j AI _,rfl⟩
 case body=>
  rintro bi F ⟨b7,ci,cj⟩ ay j cs ⟨d,i,e,n,o,h⟩ ⟨c,x,G,L⟩ ⟨aa,k,rfl⟩ cl;obtain⟨bk,k1,rfl⟩:=G.shape;obtain⟨bl,k2,rfl⟩:=L.shape;have bm:=Af<|b5.o j h _ _ c x G L;let⟨cn,co⟩:=k.c2;have cp:=d.cell 0;have cq:=i.cell 0;have bn:=Af d;have bo:=Af i;have ah:=Af e;have ai:=Af n;have aj:=Af o;have A:=Af h;gi_wp2_with fail;refine⟨trivial,?_⟩;refine(Gg bi (Dh.2 bm)).mono ?_;rintro y a1 ⟨⟨D,a2,a3,Z,rfl⟩,a4⟩;have a5:=Af<|Ah.new a1 D5 #[true,C D a2 a3,C O 0 0,(),Z];have bp:=Af<|a4.alloc a4.size (H #[true,C D a2 a3,C O 0 0,(),Z] D5)
  gi_upto_region 4 with fail
  generalize a1.heap.size=ct at a5|-;generalize a1.alloc (H #[true,C D a2 a3,C O 0 0,(),Z] D5)=cu at a5 bp|-;have cv:=a5.o.cell 0;gi_wp2_with fail;have b:=bp.o;exact⟨Bz b,Bj.below b A.o.size,bn.o.below b bn.o.lt,bo.o.below b bo.o.lt,ah.o.below b ah.o.lt,ai.o.below b ai.o.lt,aj.o.below b aj.o.lt,A.o.trans (b.mono A.o.size)⟩
 case done=>
  rintro l F j a6 bq ⟨d,i,e,n,o,h⟩ ab;let⟨cw,cx⟩:=e.c2;have cy:=n.cell 0;have cz:=o.cell 0;have c0:=e.frozen 0;have c1:=e.frozen 1;have c3:=n.frozen 0;have c4:=o.frozen 0;have c5:=e.lt;have c6:=n.lt;have c7:=o.lt;have ah:=Af e;have ai:=Af n;have aj:=Af o;have A:=Af h;have a0:=Af ab;have cr:=Af a6;gi_wp2_with fail;have c8:=cf.o;have c9:=cr.o;have br:Ah ((((j.setCell (a+1+1+1:Nat) (C O 0 0)).setCell ⟨a+1+1+1,1,O⟩ (C O 0 0)).setCell (a+1+1+1+1:Nat) false).setCell (a+1+1+1+1+1:Nat) .nilIface) (a+1+1+1) AI #[C O 0 0,C O 0 0]:=((Bs ah).far (p:=(a+1+1+1+1:Nat)) (show a+1+1+1≠a+1+1+1+1 by omega) _).far (p:=(a+1+1+1+1+1:Nat)) (show a+1+1+1≠a+1+1+1+1+1 by omega) _;have bs:Ah ((((j.setCell (a+1+1+1:Nat) (C O 0 0)).setCell ⟨a+1+1+1,1,O⟩ (C O 0 0)).setCell (a+1+1+1+1:Nat) false).setCell (a+1+1+1+1+1:Nat) .nilIface) (a+1+1+1+1) 4 #[false]:=by simpa using (((((ai.o.far (p:=(a+1+1+1:Nat)) (show a+1+1+1+1≠a+1+1+1 by omega) (C O 0 0)).far (p:=⟨a+1+1+1,1,O⟩) (show a+1+1+1+1≠a+1+1+1 by omega) (C O 0 0)).put 0 false).far (p:=(a+1+1+1+1+1:Nat)) (show a+1+1+1+1≠a+1+1+1+1+1 by omega) .nilIface))
  have bt:Ah ((((j.setCell (a+1+1+1:Nat) (C O 0 0)).setCell ⟨a+1+1+1,1,O⟩ (C O 0 0)).setCell (a+1+1+1+1:Nat) false).setCell (a+1+1+1+1+1:Nat) .nilIface) (a+1+1+1+1+1) Gx #[.nilIface]:=by simpa using (((aj.o.far (p:=(a+1+1+1:Nat)) (show a+1+1+1+1+1≠a+1+1+1 by omega) (C O 0 0)).far (p:=⟨a+1+1+1,1,O⟩) (show a+1+1+1+1+1≠a+1+1+1 by omega) (C O 0 0)).far (p:=(a+1+1+1+1:Nat)) (show a+1+1+1+1+1≠a+1+1+1+1 by omega) false).put 0 .nilIface
  have b:Below w w ((((j.setCell (a+1+1+1:Nat) (C O 0 0)).setCell ⟨a+1+1+1,1,O⟩ (C O 0 0)).setCell (a+1+1+1+1:Nat) false).setCell (a+1+1+1+1+1:Nat) .nilIface):=(((A.o.setCell (p:=(a+1+1+1:Nat)) (show w.heap.size<=a+1+1+1 by omega) _).setCell (p:=⟨a+1+1+1,1,O⟩) (show w.heap.size<=a+1+1+1 by omega) _).setCell (p:=(a+1+1+1+1:Nat)) (show w.heap.size<=a+1+1+1+1 by omega) _).setCell (p:=(a+1+1+1+1+1:Nat)) (show w.heap.size<=a+1+1+1+1+1 by omega) _;have a7:((((j.setCell (a+1+1+1:Nat) (C O 0 0)).setCell ⟨a+1+1+1,1,O⟩ (C O 0 0)).setCell (a+1+1+1+1:Nat) false).setCell (a+1+1+1+1+1:Nat) .nilIface).heap[l]?=E (.deferred (E [])):=(B3 _ _ _ l (show l≠a+1+1+1+1+1 by omega)).trans<|(B3 _ _ _ l (show l≠a+1+1+1+1 by omega)).trans ((B3 _ _ _ l (show l≠a+1+1+1 by omega)).trans ((B3 _ _ _ l (show l≠a+1+1+1 by omega)).trans a0));generalize ((((j.setCell (a+1+1+1:Nat) (C O 0 0)).setCell ⟨a+1+1+1,1,O⟩ (C O 0 0)).setCell (a+1+1+1+1:Nat) false).setCell (a+1+1+1+1+1:Nat) .nilIface)=ak at br bs bt b a7|-;refine⟨by simp,.inl ⟨_,_,rfl,run_takeDeferred a7,?_⟩⟩;have a8:∀bu,AD bu ak (ak.putObj l (.deferred O)):=λbu=>AD.put a7 rfl;let⟨bv,bw⟩:=(br.kept (a8 _)).c2;have bz:=(bs.kept (a8 _)).cell 0;have b0:=(bt.kept (a8 _)).cell 0;have b1:=Af<|b.grown (GX ak l (.deferred O)) b.size (λda g=>by cases g;omega);generalize ak.putObj l (.deferred O)=db at bv bw bz b0 b1|-;refine⟨.tuple #[.agg #[C O 0 0,C O 0 0],false,.nilIface],?_,rfl,b1⟩;simp[As,Tryz.f22,go_sem,bv,bw,bz,b0]
 case stop=>rintro l c F j a6 bq h;exact h.elim
end
theorem Vi{w:U}{vo vl:N}{os:List Ob}{es:List Ev}{txs:List St}{level:Int}{most:Nat}(g:Ba 2 CL w vo os)(i:Ba 8 BO w vl es)(F:∀aw∈os,aw.kind<=9223372036854775807)(G:∀b∈es,AU b.kind/\b.ret<=9223372036854775807)(L:AE w)(M:1<=level/\level<=3)(S:1<=most/\most<=150)
 (q:Bn os es) (ag:AR es=txs) (ah:txs.length<=12) (ai:txs.Pairwise λax ay=>ax.id≠ay.id) (aj:JOk level os es most false) (ak:∀c∈Jb es txs,JOk level os c most true):
 Calls prog 10 #[.agg #[vo,vl],level,(most:Int)] w λr al=>∃W X,r=R (.tuple #[.agg #[W,X],.nilIface])/\Hy w al W X os es/\Below w w al:=by
 obtain⟨t,u,rfl⟩:=g.shape;obtain⟨v,x,rfl⟩:=i.shape;have j:=AG w (K #[C t os.length u,C v es.length x] AI)<|K #[C O 0 0,C O 0 0] AI;have y:=Af j;have d:=Af<|(Ah.new w AI #[C t os.length u,C v es.length x]).alloc (K #[C O 0 0,C O 0 0] AI);have e:=Af<|Bo w (K #[C t os.length u,C v es.length x] AI) AI #[C O 0 0,C O 0 0];have Y:=Af<|NO (g.below j) (i.below j) F G (L.below j) M S aj;have az:=Af (λ(Z:U) (h:Below w w Z)=>Yn (g.below h) (i.below h) F G (L.below h) M S q ag ah ai ak);have a0:=Af (λ(Z:U) (h:Below w w Z)=>F7 (g.below h) (i.below h) (by have:=q.1;omega) (by have:=q.2.1;omega));go_in;go_upto_region 1 with fail;generalize a8:w.heap.size=a at d e|-;generalize (w.alloc (K #[C t os.length u,C v es.length x] AI)).alloc (K #[C O 0 0,C O 0 0] AI)=am at y d e Y|-;let⟨k,l⟩:=d.o.c2;go_wp2_with fail;refine Y.o.mono ?_;rintro r a1 ⟨rfl,m⟩;have aa:=Af<|y.o.trans (m.mono y.o.size);have z:=Af<|d.o.below m d.o.lt;have ab:=Af<|e.o.below m e.o.lt;have an:=Af (show a+1<am.heap.size from e.o.lt);have a2:=Af m.size;let⟨k,l⟩:=z.o.c2;go_wp2_with fail;refine CO 1 ?_;rw[Aq];go_wp2_with fail;refine(az.o a1 aa).mono ?_;rintro r ao ⟨rfl,ac⟩;have n:=ac.alloc ac.size<|K #[C O 0 0,C O 0 0] AI;have A:=Af<|aa.o.trans (n.mono aa.o.size);have ap:=Af<|z.o.below n z.o.lt;have ad:=Af<|ab.o.below n ab.o.lt;have aq:=Af n.size;go_upto_region 5 with fail;generalize ao.heap.size=a9 at|-;generalize ao.alloc (K #[C O 0 0,C O 0 0] AI)=ae at A ap ad aq|-;let⟨k,l⟩:=ap.o.c2;go_wp2_with fail;refine(a0.o ae A).mono ?_;rintro r ba ⟨W,X,rfl,B,af⟩;obtain⟨a3,k1,rfl⟩:=Ag B.1;obtain⟨a4,k2,rfl⟩:=Ag B.2;have o:=Af<|ad.o.below af ad.o.lt;let⟨bb,bc⟩:=o.o.c2;have bd:=o.o.frozen 0;have be:=o.o.frozen 1;have bf:=o.o.lt;have a5:=Af B;have a6:=Af<|A.o.trans (af.mono A.o.size);go_wp2_with fail;refine Ao (Rq _ rfl _ _ (a+1) _ _ _ rfl rfl (Bs o)) rfl ?_;have D:=a5.o;have a7:am.heap.size<=ae.heap.size:=A8 a2 aq;have ar:w.heap.size<=ae.heap.size:=A8 y.o.size a7;have au:(Ar a3 os.length k1).ownBlock≠E (a+1):=λb=>by have:=(Ai D.1 b).1;have:=an.o;omega
 have av:(Ar a4 es.length k2).ownBlock≠E (a+1):=λb=>by have:=(Ai D.2 b).1;have:=an.o;omega
 exact⟨_,_,rfl,⟨Aw (Ak (Ak D.1 (p:=(a+1:Nat)) au _) (p:=⟨a+1,1,O⟩) au _) ar,Aw (Ak (Ak D.2 (p:=(a+1:Nat)) av _) (p:=⟨a+1,1,O⟩) av _) ar⟩,(a6.o.setCell (p:=(a+1:Nat)) (show w.heap.size<=a+1 by omega) _).setCell (p:=⟨a+1,1,O⟩) (show w.heap.size<=a+1 by omega) _⟩
abbrev Qq:Ab:=162
def ceV(p:Int×Int):N:=.agg #[p.1,p.2]
theorem Yo:(Qq:Ab)<prog.types.size:=of_decide_eq_true (by kernel_rfl)
theorem AeX:prog.keyTypeAt 2 Qq=true:=by kernel_rfl
theorem Yp:Keyed prog Qq:=Keyed.of_law (deep_law_laid Jg (m:=2) (by omega) Yo AeX (by rw[show prog.underlying Qq=_ from underlying162]))
def Yq(p:Int×Int):Lit:=.string (keyBytes [.int .i64 p.1,.int .i64 p.2])
theorem AeY:prog.keyType Qq=true:=by kernel_rfl
theorem Yr:prog.cellsOf Qq=2:=by kernel_rfl
abbrev CN(x:Int):Prop:= -1000000<=x/\x<=1000000
theorem La{p:Int×Int}(h:CN p.1)(i:CN p.2):IE prog Qq (ceV p)=some (Yq p):=by
 obtain⟨b,j⟩:∃b,prog.types.size+1=b+2:=⟨prog.types.size-1,by have m:0<prog.types.size:=Nat.lt_of_le_of_lt (A9 _) Yo;omega⟩
 have d:∀a:Int,CN a->(Lit.int .i64 a).wf=true:=λa e=>by
  simp[Lit.wf,OX,OY,Jf,Jx]
  have:=e.1
  have:=e.2
  omega
 have g:prog.underlying Qq=_:=underlying162
 have k:prog.underlying 3=_:=underlying3
 have l:prog.cellsOf 3=1:=by kernel_rfl
 unfold IE ceV
 rw[g,j]
 simp[AeY,Value.formed,g,Yr,O0,Value.cells,k,l,d _ h,d _ i,Yq]
theorem AaU{a b:Int×Int}(h:ceV a=ceV b):a=b:=by
 obtain⟨d,s⟩:=a;obtain⟨e,g⟩:=b;simp[ceV] at h;rw[h.1,h.2]
abbrev Ce:Type:={a:Int×Int//CN a.1/\CN a.2}
def NP:KS Ce:=⟨Qq,λa=>ceV a.1,λa=>Yq a.1,Yp,λa=>La a.2.1 a.2.2,λb d h=>IF (AaU (Yp.inj (La b.2.1 b.2.2) (by rw[La d.2.1 d.2.2];exact congrArg E h.symm))),λb=>Yp.key (La b.2.1 b.2.2)⟩
def L6(g p q:Int):Dd:=⟨0,1,0,0,3,g,p,q⟩
def Mj(v p q:Int):Dd:=⟨0,2,0,v,1,0,p,q⟩
def RW(s:St)(g v p q a q2:Int):Prop:=s.deeds=[L6 g p q,Mj v a q2]
abbrev Mk:Ab:=155
theorem Bh:prog.underlying Mk=E (.map 3 3):=by kernel_rfl
theorem Dx(w:U):(Ew 3).run prog w=.ok () w:=by kernel_rfl
theorem GU{w:U}{s:St}{m:List N}{g v p q q2:Int}(h:D3 w s m)(n:RW s g v p q x q2):∃e i o,m=[I J s.id,I J s.thr,I J s.status,I J s.beg,I J s.fin,I J s.tri,C (E ⟨e,i,O⟩) 2 o]/\2<=o/\
 (∀(a:Nat) (b:N),(Qj (L6 g p q))[a]?=E b->a<8->w.cell? ⟨e,i+a,O⟩=E b)/\(∀(a:Nat) (b:N),(Qj (Mj v x q2))[a]?=E b->a<8->w.cell? ⟨e,i+8+a,O⟩=E b):=by
 obtain⟨D,rfl,d⟩:=h;obtain⟨F,c,rfl⟩:=d.shape;rw[show s.deeds=_ from n] at d;obtain⟨r,t,rfl,G,u,y⟩:=d.at (j:=0) rfl;obtain⟨L,M,k,-,-,z⟩:=d.at (j:=1) rfl;injection k with k;injection k with A B;subst A B;refine⟨r,t,c,by rw[show s.deeds=_ from n];rfl,by simpa using u,λa b h l=>by simpa using y a b h l,λa b h l=>by simpa[Nat.add_assoc] using z a b h l⟩
theorem Az.apartRow{W:U}{base size:Nat}{e:Ab}{f:Int->Option N}{v:N}{xs:List N}(h:Az W b n f)(d:W.ownsRow base e size v m xs):v.ownBlock≠E b:=λg=>by
 let⟨j,c,i⟩:=h.obj;let⟨k,l,a⟩:=He d g;rw[i] at a
 cases a
theorem Vj{w:U}{s:St}{ah:List N}{g v p q q2:Int}(h:D3 w s ah)(ai:RW s g v p q x q2):
 Calls prog 53 #[.agg ah.toArray] w λm aj=>∃ak,m=R ak/\aj.ownsRow w Bu 8 ak 1 (Qj (L6 g p q))/\Below w w aj:=by
 let⟨ay,az,a0,a1,a2⟩:=A1 Nl;obtain⟨a,b,z,rfl,b3,al,am⟩:=GU h ai;have S:=Zc w<|K #[s.id,s.thr,s.status,s.beg,s.fin,s.tri,C (E ⟨a,b,O⟩) 2 z] Bq;have a3:=Af<|Ah.new w Bq #[s.id,s.thr,s.status,s.beg,s.fin,s.tri,C (E ⟨a,b,O⟩) 2 z];have A:=Af<|Az.made (w.alloc (K #[s.id,s.thr,s.status,s.beg,s.fin,s.tri,C (E ⟨a,b,O⟩) 2 z] Bq));have B:=Af<|S.alloc S.size (.map #[] 0);have a4:= @EC prog;have an:=Af al;have ao:=Af am;go_in;have a5:=(a3.o.alloc (.map #[] 0)).cell 6;go_upto_region 4 with fail;simp only[Eb] at A;generalize b4:w.heap.size+1=W at A|-;generalize (w.alloc (K #[s.id,s.thr,s.status,s.beg,s.fin,s.tri,C (E ⟨a,b,O⟩) 2 z] Bq)).alloc (.map #[] 0)=d at A B|-;have j:=λm o h r=>(B.o.cell (Ad w _ (an.o m o h r))).trans (an.o m o h r);have a6:d.cell? ⟨a,b,O⟩=E ():=j 0 _ rfl (by decide);have a7:d.cell? ⟨a,b+1,O⟩=E (I J 1):=j 1 _ rfl (by decide);have a8:d.cell? ⟨a,b+2,O⟩=E ():=j 2 _ rfl (by decide);have a9:d.cell? ⟨a,b+3,O⟩=E ():=j 3 _ rfl (by decide);have ba:d.cell? ⟨a,b+4,O⟩=E (I J 3):=j 4 _ rfl (by decide);have bb:d.cell? ⟨a,b+5,O⟩=g:=j 5 _ rfl (by decide);have bc:d.cell? ⟨a,b+6,O⟩=p:=j 6 _ rfl (by decide);have bd:d.cell? ⟨a,b+7,O⟩=q:=j 7 _ rfl (by decide);refine CO 3 ?_;rw[Aq];go_upto_region 7 with fail;have u:=Zc d<|K #[(),I J 1,(),(),I J 3,g,p,q] Bu;have n:=Af<|B.o.trans (u.mono B.o.size);have D:=Af<|A.o.alloc (K #[(),I J 1,(),(),I J 3,g,p,q] Bu);have i:=Af<|Ah.new d Bu #[(),I J 1,(),(),I J 3,g,p,q];generalize d.heap.size=b5 at i|-;generalize d.alloc (K #[(),I J 1,(),(),I J 3,g,p,q] Bu)=ap at n D i|-;have be:(B1 Mk (.map (E W)) () false).run prog ap=.ok () ap:=D.o.look Bh (Dx _) (k:=0) (by decide) (by decide);have aq:=i.o.cell 0;have ar:=i.o.cell 1;have bf:=i.o.cell 2;have bg:=i.o.cell 3;have bh:=i.o.cell 4;have bi:=i.o.cell 5;have bj:=i.o.cell 6;have bk:=i.o.cell 7;go_wp2_with (at_builtin;refine B9 _ rfl (.tmp 32) (.tmp 34) 151 rfl w Bu ay (.agg #[(),(),(),(),(),(),(),()]) 8 64 underlying151 az a0 a1 a2 rfl (by decide) (.slice O 0 0) 0 [] rfl (Ep _ _ _ _) _ 1 1 (Qj (L6 g p q)) rfl rfl (Ee (cs:= #[(),I J 1,(),(),I J 3,g,p,q]) (t:=Bu) (fr:=(0,0)) (D4 _ _)) (by simp[Qj,Bl,B4]) (by unfold Al;omega) (by omega) (by have:=n.o.size;simp;omega) ?_;intro b6 X Y F _ _;obtain⟨bl,k8,rfl⟩:=Ag Y;have G:=Af ((D.o.alloc (K #[(),I J 1,(),(),I J 3,g,p,q] Bu)).grown F (by simp[A5]));have Z:=Af ((i.o.alloc (K #[(),I J 1,(),(),I J 3,g,p,q] Bu)).grown F (by simp[A5]));have bm:(B1 Mk (.map (E W)) () false).run prog X=.ok () X:=G.o.look Bh (Dx _) (k:=0) (by decide) (by decide);have bn:=Z.o.cell 0;have bo:=Z.o.cell 1;obtain⟨e,bp,au,aa⟩:=G.o.put Bh (k:=0) (by unfold Al;omega) (by decide) (by decide) (I J 1));have ab:X.ownsRow w Bu 8 (C bl 1 k8) 1 (Qj (L6 g p q)):=Y;have ac:=(n.o.alloc n.o.size (K #[(),I J 1,(),(),I J 3,g,p,q] Bu)).grown F (by have:=n.o.size;simp;omega) (λav y=>by simp[A5] at y);have bq:=Af<|ab.kept aa.grown (.inr (λad=>G.o.apartRow ab ad));have ae:=Af<|ac.grown aa.grown ac.size (λav y=>by cases y;omega);have br:=Af au;have l:=λm o h r=>(ae.o.cell (Ad w _ (ao.o m o h r))).trans (ao.o m o h r);have bs:e.cell? ⟨a,b+8,O⟩=E ():=l 0 _ rfl (by decide);have bt:e.cell? ⟨a,b+8+1,O⟩=E (I J 2):=l 1 _ rfl (by decide);have bu:e.cell? ⟨a,b+8+2,O⟩=E ():=l 2 _ rfl (by decide);have bv:e.cell? ⟨a,b+8+3,O⟩=v:=l 3 _ rfl (by decide);have bw:e.cell? ⟨a,b+8+4,O⟩=E (I J 1):=l 4 _ rfl (by decide);have bz:e.cell? ⟨a,b+8+5,O⟩=E ():=l 5 _ rfl (by decide);have b0:e.cell? ⟨a,b+8+6,O⟩=x:=l 6 _ rfl (by decide);have b1:e.cell? ⟨a,b+8+7,O⟩=q2:=l 7 _ rfl (by decide);rw[Aq];go_upto_region 7 with fail;have u:=Zc e<|K #[(),I J 2,(),v,I J 1,(),x,q2] Bu;have af:=Af<|ae.o.trans (u.mono ae.o.size);have L:=Af<|br.o.alloc (K #[(),I J 2,(),v,I J 1,(),x,q2] Bu);have M:=Af<|Ah.new e Bu #[(),I J 2,(),v,I J 1,(),x,q2];have ag:=Af<|bq.o.alloc (K #[(),I J 2,(),v,I J 1,(),x,q2] Bu);generalize e.heap.size=b7 at M|-;generalize e.alloc (K #[(),I J 2,(),v,I J 1,(),x,q2] Bu)=aw at af L M ag|-;have b8:(B1 Mk (.map (E W)) () false).run prog aw=.ok (I J 1) aw:=L.o.look Bh (Dx _) (k:=0) (by decide) (by decide);have aq:=M.o.cell 0;have ar:=M.o.cell 1;let⟨b9,ca,cb,ax⟩:=L.o.put Bh (k:=0) (by unfold Al;omega) (by decide) (by decide)<|I J 2;go_wp2;rw[Aq];go_wp2;go_ret;have b2:=ag.o.kept ax.grown<|.inr (λad=>L.o.apartRow ag.o ad);exact⟨_,rfl,b2,af.o.grown ax.grown af.o.size (λav y=>by cases y;omega)⟩
theorem Ac5(w:U)(a:N)(b:∃f lb,a=.func (.func f) #[] lb):Calls prog 154 #[C O 0 0,a] w λd e=>d=R (I J (-1))/\e=w:=by
 obtain⟨f,lb,rfl⟩:=b;go_in;go_upto_region 2 with fail;refine CO 1 ?_;rw[Aq];go_wp2;go_ret;exact⟨rfl,rfl⟩
theorem Ac6(w:U)(a:N)(b:∃f lb,a=.func (.func f) #[] lb):Calls prog 95 #[C O 0 0,a] w λd e=>d=R (C O 0 0)/\e=w:=by
 have g:=Af<|Ac5 w a b;obtain⟨f,lb,rfl⟩:=b;go_in;go_wp2_with fail;refine g.o.mono ?_;rintro d i ⟨rfl,rfl⟩;go_wp2;go_ret;exact⟨rfl,rfl⟩
theorem RF{w:U}{s:St}{B:List N}{g v p q q2:Int}(h:D3 w s B)(D:RW s g v p q x q2):
 Calls prog 54 #[.agg B.toArray] w λl F=>∃G,l=R G/\F.ownsRow w Bu 8 G 1 (Qj (Mj v x q2))/\Below w w F:=by
 let⟨Z,aa,ab,ac,ad⟩:=A1 Nl;obtain⟨a,b,z,rfl,a0,L,M⟩:=GU h D;have ae:=Af<|Ah.new w Bq #[s.id,s.thr,s.status,s.beg,s.fin,s.tri,C (E ⟨a,b,O⟩) 2 z];have u:=Af<|Zc w (K #[s.id,s.thr,s.status,s.beg,s.fin,s.tri,C (E ⟨a,b,O⟩) 2 z] Bq);have S:=Af L;have W:=Af M;go_in;have af:=ae.o.cell 6;go_upto_region 3 with fail;generalize w.alloc (K #[s.id,s.thr,s.status,s.beg,s.fin,s.tri,C (E ⟨a,b,O⟩) 2 z] Bq)=d at u|-;have j:=λl m h n=>(u.o.cell (Ad w _ (S.o l m h n))).trans (S.o l m h n);have ag:d.cell? ⟨a,b,O⟩=E (I J 0):=j 0 _ rfl (by decide);have ah:d.cell? ⟨a,b+1,O⟩=E (I J 1):=j 1 _ rfl (by decide);have ai:d.cell? ⟨a,b+2,O⟩=E (I J 0):=j 2 _ rfl (by decide);have aj:d.cell? ⟨a,b+3,O⟩=E (I J 0):=j 3 _ rfl (by decide);have ak:d.cell? ⟨a,b+4,O⟩=E (I J 3):=j 4 _ rfl (by decide);have al:d.cell? ⟨a,b+5,O⟩=g:=j 5 _ rfl (by decide);have am:d.cell? ⟨a,b+6,O⟩=p:=j 6 _ rfl (by decide);have an:d.cell? ⟨a,b+7,O⟩=q:=j 7 _ rfl (by decide);refine CO 3 ?_;rw[Aq];go_upto_region 5 with fail;have o:=Zc d<|K #[I J 0,I J 1,I J 0,I J 0,I J 3,g,p,q] Bu;have y:=Af<|u.o.trans (o.mono u.o.size);have A:=Af<|Ah.new d Bu #[I J 0,I J 1,I J 0,I J 0,I J 3,g,p,q];generalize d.heap.size=a1 at A|-;generalize d.alloc (K #[I J 0,I J 1,I J 0,I J 0,I J 3,g,p,q] Bu)=e at y A|-;have X:=A.o.cell 1;go_wp2;rw[Aq];have k:=λl m h n=>(y.o.cell (Ad w _ (W.o l m h n))).trans (W.o l m h n);have ao:e.cell? ⟨a,b+8,O⟩=E (I J 0):=k 0 _ rfl (by decide);have ap:e.cell? ⟨a,b+8+1,O⟩=E (I J 2):=k 1 _ rfl (by decide);have aq:e.cell? ⟨a,b+8+2,O⟩=E (I J 0):=k 2 _ rfl (by decide);have ar:e.cell? ⟨a,b+8+3,O⟩=v:=k 3 _ rfl (by decide);have au:e.cell? ⟨a,b+8+4,O⟩=E (I J 1):=k 4 _ rfl (by decide);have av:e.cell? ⟨a,b+8+5,O⟩=E (I J 0):=k 5 _ rfl (by decide);have aw:e.cell? ⟨a,b+8+6,O⟩=x:=k 6 _ rfl (by decide);have ax:e.cell? ⟨a,b+8+7,O⟩=q2:=k 7 _ rfl (by decide);go_upto_region 5 with fail;have o:=Zc e<|K #[I J 0,I J 2,I J 0,v,I J 1,I J 0,x,q2] Bu;have r:=Af<|y.o.trans (o.mono y.o.size);have i:=Af<|Ah.new e Bu #[I J 0,I J 2,I J 0,v,I J 1,I J 0,x,q2];generalize e.heap.size=a2 at i|-;generalize e.alloc (K #[I J 0,I J 2,I J 0,v,I J 1,I J 0,x,q2] Bu)=a3 at r i|-;have a4:=i.o.cell 0;have X:=i.o.cell 1;have a5:=i.o.cell 2;have a6:=i.o.cell 3;have a7:=i.o.cell 4;have a8:=i.o.cell 5;have a9:=i.o.cell 6;have ba:=i.o.cell 7;go_wp2_with fail;refine(Ac6 _ _ ⟨_,_,rfl⟩).mono ?_;rintro l bb ⟨rfl,rfl⟩;go_wp2_with (at_builtin;refine B9 _ rfl (.tmp 24) (.tmp 26) 151 rfl w Bu Z (.agg #[I J 0,I J 0,I J 0,I J 0,I J 0,I J 0,I J 0,I J 0]) 8 64 underlying151 aa ab ac ad rfl (by decide) (.slice O 0 0) 0 [] rfl (Ep _ _ _ _) _ 1 1 (Qj (Mj v x q2)) rfl rfl (Ee (cs:= #[I J 0,I J 2,I J 0,v,I J 1,I J 0,x,q2]) (t:=Bu) (fr:=(0,0)) (D4 _ _)) (by simp[Qj,Bl,B4]) (by unfold Al;omega) (by omega) (by have:=r.o.size;simp;omega) ?_;intro bc bd Y ay _ _;obtain⟨be,k8,rfl⟩:=Ag Y);rw[Aq];go_wp2;go_ret;exact⟨_,rfl,Y,(r.o.alloc r.o.size (K #[I J 0,I J 2,I J 0,v,I J 1,I J 0,x,q2] Bu)).grown ay (by have:=r.o.size;simp;omega) (λbf az=>by simp[A5] at az)⟩
def wv(s:St):Int:=match s.deeds with
 |[_,a]=>a.val
 |_=>0
theorem RW.val{s:St}{g v p q q2:Int}(h:RW s g v p q x q2):wv s=v:=by
 unfold RW at h;unfold wv;rw[h];rfl
abbrev tCb:Ab:=233
theorem SJ:prog.underlying tCb=E (.map Qq 4):=by kernel_rfl
def wrF(l:List St):Ce->Option N:=λc=>if c.1.1=0/\c.1.2∈l.map wv then E true else O
theorem Ys(l:List St)(s:St)(h:CN 0/\CN (wv s)):Fo (wrF l) ⟨(0,wv s),h⟩ true=wrF (l++[s]):=by
 funext ⟨⟨a,b⟩,g⟩
 unfold Fo wrF;by_cases d:a=0<;>by_cases e:b=wv s<;>simp[d,e]
structure Prm (os:List Ob) (es:List Ev) (txs:List St) (init:Int):Prop where
 one:os=[⟨1,init⟩]
 ok:Bn os es
 tab:AR es=txs
 few:txs.length<=12
 deeds:∀s∈txs,∃g v p q p2 q2,RW s g v p q p2 q2
 small:∀s∈txs,CN (wv s)/\wv s≠init
 apart:txs.Pairwise λa b=>wv a≠wv b
theorem Prm.fresh{os:List Ob}{es:List Ev}{txs:List St}(h:Prm os es txs x){s:St}(b:txs[k]?=s):wv s∉(txs.take k).map wv:=λd=>by
 let⟨l,e,a⟩:=EE.1 d;obtain⟨g,i,rfl⟩:=List.mem_iff_getElem.1 e;obtain⟨j,rfl⟩:=Am.1 b;simp only[List.length_take] at i;have:=Ul.1 h.apart g k (by omega) j (by omega);simp only[List.getElem_take] at a;exact this a
theorem KF{w:U}{vo vl:N}{os:List Ob}{es:List Ev}{txs:List St}(ai:Ba 2 CL w vo os)(a6:Ba 8 BO w vl es)(bw:∀cr∈os,cr.kind<=9223372036854775807)(bz:∀t∈es,AU t.kind/\t.ret<=9223372036854775807)(b0:AE w)(a7:Prm os es txs x):
 Calls prog 52 #[.agg #[vo,vl]] w λk b1=>∃b2,k=R (.tuple #[b2,.nilIface])/\DD 7 D3 b1 b2 txs/\Below w w b1:=by
 obtain⟨d4,aj,rfl⟩:=ai.shape;obtain⟨a8,a9,rfl⟩:=a6.shape;obtain rfl:=a7.one;obtain⟨u,v,rfl,-,-,ba⟩:=ai.at (j:=0) rfl;have b3:w.cell? ⟨u,v,O⟩=E (I J 1):=by simpa using ba 0 _ rfl (by decide)
 have b4:w.cell? ⟨u,v+1,O⟩=x:=by simpa using ba 1 _ rfl (by decide)
 have M:=Zc w<|K #[C (E ⟨u,v,O⟩) 1 aj,C a8 es.length a9] AI;have y:=Af M;have D:=Af<|Ah.new w AI #[C (E ⟨u,v,O⟩) 1 aj,C a8 es.length a9];have ak:=Af<|Jj (ai.below M) (a6.below M) bw bz (b0.below M);have o:=Af a7;have al:=Af<|And.intro b3 b4;have d5:= @EC prog;go_in;go_upto_region 1 with fail;simp only[C4,Em,Nat.zero_add] at D ak y|-;generalize w.alloc (K #[C (E ⟨u,v,O⟩) 1 aj,C a8 es.length a9] AI)=d6 at y D ak|-;let⟨cs,ct⟩:=D.o.c2;go_wp2_with fail;refine ak.o.mono ?_;rintro k l ⟨S,(⟨g,i,cu,bb,rfl,bc⟩|⟨cv,-⟩)⟩
 rotate_left
 .exact absurd ⟨o.o.ok,by rw[o.o.tab];rfl⟩ cv
 obtain rfl:g=txs:=by rw[o.o.tab] at bb;exact(Option.some.inj bb).symm
 obtain⟨d7,d8,rfl⟩:=DD.shape bc;have b5:=Af<|D.o.below S D.o.lt;have b6:=Af bc;have cw:=Af S;have am:=Af<|Bi.made NP l;have b:=Zc l<|.map #[] 0;have cx:=Af<|(y.o.trans (S.mono y.o.size)).alloc (y.o.trans (S.mono y.o.size)).size (.map #[] 0);have an:=Af b;go_upto_region 6 with fail;generalize bd:l.heap.size=W at am an|-;generalize l.alloc (.map #[] 0)=d9 at am cx an|-;have ao:=Af<|y.o.trans (cw.o.mono y.o.size)
 go_loopw [24] (λbe z=>∃(a:Nat),be=(a:Int)/\a<=g.length/\Bi NP z W a (wrF (g.take a))/\Below W l z) (λbe _=>13-(intOf be).toNat)
 case atStart=>exact⟨0,rfl,A9 _,by rw[show wrF (g.take 0)=λ_=>O from funext λc=>by simp[wrF]];exact am.o,bd▸an.o⟩
 case round=>
  obtain⟨a,rfl,b7,ap,bf⟩:=hrel;have A:Below l l wr:=bd▸bf;have ea:=Af A;have eb:=Af ap;have cy:=Af<|ao.o.trans (A.mono ao.o.size);by_cases X:a<g.length
  .obtain⟨s,Y⟩:∃s,g[a]?=E s:=⟨g[a],An X⟩;obtain⟨b8,b9,ec,rfl,-,-,-,cz,ca,bg⟩:=b6.o.at Y;have aq:=Af<|Ap Y;have c0:=Af<|o.o.fresh Y;let⟨Z,i,aa,ab,ac,ad,bh⟩:=o.o.deeds s aq;have bi:=Af bh.val;obtain⟨d,e,ar,rfl,ed,cb,cc⟩:=GU ca bh;have B:∀(k:Nat) (p:N),([s.id,s.thr,s.status,s.beg,s.fin,s.tri,C (E ⟨d,e,O⟩) 2 ar]:List N)[k]?=E p->wr.cell? ⟨b8,b9+a*7+k,O⟩=E p:=λk p h=>(A.cell (Ad l _ (bg k p h))).trans (bg k p h);have c1:wr.cell? ⟨b8,b9+a*7,O⟩=_:=B 0 _ rfl;have c2:=B 1 _ rfl;have c3:=B 2 _ rfl;have c4:=B 3 _ rfl;have c5:=B 4 _ rfl;have c6:=B 5 _ rfl;have c7:=B 6 _ rfl;have bj:=Af X;have cd:=Af cb;have ce:=Af cc;have c8:=Af (show g.take (a+1)=g.take a++[s] by rw[List.take_add_one,Y];rfl);have b:=Zc wr<|K #[s.id,s.thr,s.status,s.beg,s.fin,s.tri,C (E ⟨d,e,O⟩) 2 ar] Bq;have au:=Af<|A.trans (b.mono A.size);have bk:=Af<|Ah.new wr Bq #[s.id,s.thr,s.status,s.beg,s.fin,s.tri,C (E ⟨d,e,O⟩) 2 ar];have bl:=Af<|ap.call b;have ee:(0:Int)<=(a:Int):=by omega
   have ef:(a:Int)<(g.length:Int):=by omega
   have eg:(g.length:Int)<=12:=by have:=o.o.few;omega
   have c9:decide (a<g.length)=true:=by simpa using X
   go_upto_region 8 with fail;generalize wr.heap.size=eh at bk|-;generalize wr.alloc (K #[s.id,s.thr,s.status,s.beg,s.fin,s.tri,C (E ⟨d,e,O⟩) 2 ar] Bq)=ae at au bk bl|-;have da:=(bk.o.alloc (.map #[] 0)).cell 6;have b:=Zc ae<|.map #[] 0;have av:=Af<|au.o.trans (b.mono au.o.size);have cf:=Af<|bl.o.call b;have bm:=Af<|Az.made ae;have aw:=Af bl.o.lt;go_upto_region 10 with fail;generalize ae.heap.size=R at bm aw|-;generalize ae.alloc (.map #[] 0)=m at av cf bm|-;have q:=λk p h af=>(av.o.cell (Ad l _ (cd.o k p h af))).trans (cd.o k p h af);have db:m.cell? ⟨d,e,O⟩=E ():=q 0 _ rfl (by decide);have dc:m.cell? ⟨d,e+1,O⟩=E (I J 1):=q 1 _ rfl (by decide);have dd:m.cell? ⟨d,e+2,O⟩=E ():=q 2 _ rfl (by decide);have de:m.cell? ⟨d,e+3,O⟩=E ():=q 3 _ rfl (by decide);have df:m.cell? ⟨d,e+4,O⟩=E (I J 3):=q 4 _ rfl (by decide);have dh:m.cell? ⟨d,e+5,O⟩=Z:=q 5 _ rfl (by decide);have di:m.cell? ⟨d,e+6,O⟩=aa:=q 6 _ rfl (by decide);have dj:m.cell? ⟨d,e+7,O⟩=ab:=q 7 _ rfl (by decide);refine CO 3 ?_;rw[Aq];have b:=Zc m<|K #[(),I J 1,(),(),I J 3,Z,aa,ab] Bu;have ag:=Af<|av.o.trans (b.mono av.o.size);have bn:=Af<|cf.o.call b;have ax:=Af<|bm.o.alloc (K #[(),I J 1,(),(),I J 3,Z,aa,ab] Bu);have F:=Af<|Ah.new m Bu #[(),I J 1,(),(),I J 3,Z,aa,ab];go_upto_region 12 with fail;generalize m.heap.size=ei at F|-;generalize m.alloc (K #[(),I J 1,(),(),I J 3,Z,aa,ab] Bu)=cg at ag bn ax F|-
   have bo:∀ {z:U},Below l l z->z.cell? w=E (C (E ⟨u,v,O⟩) 1 aj)/\z.cell? ⟨u,v,O⟩=E (I J 1)/\z.cell? ⟨u,v+1,O⟩=x:=λ{z} h=>
    have ch:=ao.o.trans<|h.mono ao.o.size
    ⟨(b5.o.below h b5.o.lt).cell 0,(ch.cell (Ad w _ al.o.1)).trans al.o.1,(ch.cell (Ad w _ al.o.2)).trans al.o.2⟩
   have dk:(B1 XP (.map (E R)) () false).run prog cg=.ok false cg:=ax.o.look Fk (Kr _) (k:=0) (by decide) (by decide);let⟨n,dl,ci,bp⟩:=ax.o.put Fk (k:=0) (by unfold Al;omega) (by decide) (by decide) true;let⟨ay,az,a0⟩:=bo ag;have a1:=F.o.cell 0;have bq:=F.o.cell 1;have dm:=F.o.cell 4;go_wp2;have br:=Af<|ag.o.grown bp.grown ag.o.size (λdn bs=>by cases bs;have:=aw.o;have:=au.o.size;omega);have dp:=Af<|bn.o.grown bp.grown (λt=>by cases t;exact absurd aw (IC _));have dq:=Af ci;have r:=λk p h af=>(br.o.cell (Ad l _ (ce.o k p h af))).trans (ce.o k p h af);have dr:n.cell? ⟨d,e+8,O⟩=E ():=r 0 _ rfl (by decide);have ds:n.cell? ⟨d,e+8+1,O⟩=E (I J 2):=r 1 _ rfl (by decide);have dt:n.cell? ⟨d,e+8+2,O⟩=E ():=r 2 _ rfl (by decide);have du:n.cell? ⟨d,e+8+3,O⟩=i:=r 3 _ rfl (by decide);have dv:n.cell? ⟨d,e+8+4,O⟩=E (I J 1):=r 4 _ rfl (by decide);have dw:n.cell? ⟨d,e+8+5,O⟩=E ():=r 5 _ rfl (by decide);have dx:n.cell? ⟨d,e+8+6,O⟩=ac:=r 6 _ rfl (by decide);have dy:n.cell? ⟨d,e+8+7,O⟩=ad:=r 7 _ rfl (by decide);rw[Aq];have b:=Zc n<|K #[(),I J 2,(),i,I J 1,(),ac,ad] Bu;have a2:=Af<|br.o.trans (b.mono br.o.size);have cj:=Af<|dp.o.call b;have ck:=Af<|dq.o.alloc (K #[(),I J 2,(),i,I J 1,(),ac,ad] Bu);have G:=Af<|Ah.new n Bu #[(),I J 2,(),i,I J 1,(),ac,ad];go_upto_region 12 with fail;generalize n.heap.size=ej at G|-;generalize n.alloc (K #[(),I J 2,(),i,I J 1,(),ac,ad] Bu)=ah at a2 cj ck G|-;let⟨ay,az,a0⟩:=bo a2;have a1:=G.o.cell 0;have bq:=G.o.cell 1;have cl:=G.o.cell 3;have b:=Zc ah<|K #[(),i] Qq;have a3:=Af<|a2.o.trans (b.mono a2.o.size);have bt:=Af<|cj.o.call b;have cn:=Af<|ck.o.alloc (K #[(),i] Qq);have bu:=Af<|G.o.alloc (K #[(),i] Qq);have bv:=Af<|Ah.new ah Qq #[(),i];go_upto_region 17 with fail;generalize ah.heap.size=ek at bv|-;generalize ah.alloc (K #[(),i] Qq)=L at a3 bt cn bu bv|-;have a4:CN 0/\CN (wv s):=⟨by decide,(o.o.small s aq).1⟩
   have co:NP.kv ⟨(0,wv s),a4⟩=.agg #[(),i]:=by
    show ceV (0,wv s)=_;rw[bi.o];rfl
   have el:∀a,(B1 XP (.map (E R)) () false).run prog (L.drewN a)=.ok true (L.drewN a):=λa=>(cn.o.drewN a).look Fk (Kr _) (k:=0) (by decide) (by decide)
   have em:∀a5,(B1 tCb (.map (E W)) (.agg #[(),i]) false).run prog (L.drewN a5)=.ok false (L.drewN a5):=λa5=>by
    have cp:=(show Bi NP (L.drewN a5) W a _ from bt.o).look SJ (Kr _) ⟨(0,wv s),a4⟩;rw[co] at cp
    have dz:wrF (g.take a) ⟨(0,wv s),a4⟩=O:=by
     unfold wrF;rw[if_neg (λh=>c0.o h.2)]
    rwa [dz] at cp
   have en:decide (x=i)=false:=by simp;exact λt=>(o.o.small s aq).2 (by rw[bi.o,t])
   have eo:(x==i)=false:=by simp;exact λt=>(o.o.small s aq).2 (by rw[bi.o,t])
   let⟨ay,az,a0⟩:=bo a3;have a1:=bu.o.cell 0;have cl:=bu.o.cell 3;let⟨ep,eq⟩:=bv.o.c2;go_quiet (fail);let⟨er,d0,cq,d1⟩:=(show Bi NP (L.drewN nq) W a _ from bt.o).put SJ (by have:=o.o.few;have:=bj.o;unfold Al;omega) ⟨(0,wv s),a4⟩ true;rw[co] at d0;go_wp2;rw[Aq];go_wp2;have d2:=Af<|(below_drewN a3 nq).grown d1.grown (below_drewN a3 nq).size (λdn bs=>by cases bs;have:=aw.o;omega);rw[Ys,<-c8.o] at cq
   go_roundw
   case rel=>exact⟨a+1,by go_num,bj,cq,bd▸d2.o⟩
   case measure=>simp[intOf];have:=bj.o;have:=o.o.few;omega
  .obtain rfl:a=g.length:=by omega
   have c9:decide (g.length<g.length)=false:=by simp
   have d3:=Af<|DD.below D3.keeps b6 A;go_wp2;go_ret2;exact⟨_,rfl,d3,cy⟩
def LP(W:U)(b r n:Nat)(f:Int->Option N)(left:Int->Bool)(cnt:Nat):Prop:=
 ∃d e,W.ranges prog 3 Cf b r n d e cnt/\IsMap d/\(∀a g,d.atKey (AV a) g=((f a).map Gr).getD g)/\∀a,e (AV a)=left a
section
variable {W W' w:World} {b r n cnt:Nat} {f:Int→Option Value} {left:Int→Bool} {ops:Array Oper} {Q:Exit→Act→World→Prop} {o:Oper} {rest:List Oper} {a:Act}
theorem LP.map(h:LP W b r n f left cnt):Az W b n f:=by
 obtain⟨a,i,d,e,g,_⟩:=h;exact⟨a,d.owns,e,g⟩
theorem LP.kept{row:Option Nat}(h:LP W b r n f left cnt)(a:W.grownBy W' row)(d:E b≠row)(e:E r≠row):LP W' b r n f left cnt:=by
 obtain⟨g,i,j,k⟩:=h;exact⟨g,i,j.kept a d e,k⟩
theorem LP.left_eq(h:LP W b r n f left cnt):W.rangeLeft b r=cnt:=by
 obtain⟨d,e,a,_⟩:=h;exact a.left_eq
theorem AW(k:o.guard=O)(m:Operand)(t e:Ab)(l:o.op=Op.range t m)(p:prog.underlying t=E (.map 3 e))(q:a.eval m=.map (E b))(h:Az w b n f)
 (r:∀w' cnt,LP w' b w n f (λx=>(f x).isSome) cnt->w.grownBy w' O->w'.heap.size=w.heap.size+1->wpList prog ops Q rest (a.put o.dst w) w'):
 wpList prog ops Q (o::rest) a w:=by
 obtain⟨d,u,v,g⟩:=h;refine wpList_range_own w k m t l _ _ Mb p _ b n d q u λw' y z A=>r w' _ ⟨d,_,y,v,g,λx=>?_⟩ z A;show Maps.has d (AV x)=(f x).isSome
 cases j:f x with
 |none=>exact Maps.has_false_of_atKey (λi=>by rw[g x i,j];rfl)
 |some B=>exact Maps.has_true_of_atKey (y:=.held B) (λi=>by rw[g x i,j];rfl)
theorem AH(F:o.guard=O)(j:Operand)(G:o.op=Op.next j false)(L:a.eval j=r)(h:LP w b r n f left cnt)
 (M:(∀x,left x=false)->wpList prog ops Q rest (a.put o.dst (.tuple #[false])) w)
 (S:∀(x:Int) (v:N) (w':U) (i:Nat),f x=v->left x=true->LP w' b r n f (λy=>left y&& !(y==x)) i->i<cnt->w.grownBy w' (E r)->w'.heap.size=w.heap.size->
  (Instr.entry r).run prog w'=.ok (.tuple #[x,v]) w'->wpList prog ops Q rest (a.put o.dst (.tuple #[true,x,v])) w'):
 wpList prog ops Q (o::rest) a w:=by
 obtain⟨t,u,W,X,k,l⟩:=h;refine wpList_next_ranges (H:=N) w F j G 3 Mb Cf (λx:Int=>I J x) (λv:N=>v) (λah z m=>?_) (λv y _=>⟨v,rfl⟩) b r n t u cnt L W (λ_ p=>M λx=>by rw[<-l x];exact p _) ?_
 .let⟨x,Y,_⟩:=keyOf_int_inv underlying3 m;exact⟨x,Y⟩
 .intro x c z y w' i m p Z A aa ab ac ad ae;let⟨ai,q,af,_⟩:=keyOf_int_inv underlying3 m;injection q with _ q;subst q;obtain rfl:z=AV x:=af
  have B:y.1=.held c:=by
   have d:E (Gr c,([]:List MemPlace))=y:=Z;exact(congrArg Prod.fst (Option.some.inj d)).symm
  have ag:f x=c:=by
   cases D:f x with
   |none=>
    have d:=(k x (.agg [])).symm.trans<|A _;rw[D,B] at d;have g:DataW.agg []=Gr c:=d
    cases g
   |some v=>
    have d:=(k x (.held v)).symm.trans<|A _;rw[D,B] at d;have g:Gr v=Gr c:=d;injection g with g;exact congrArg E g
  refine S x c w' i ag (by rw[<-l x];exact p) ⟨t,_,aa,X,k,λe=>?_⟩ ab ac ad ae;show(u (AV e)&& !(AV e).sameKey (AV x))=(left e&& !(e==x));exact congr (congrArg and (l e))<|congrArg not (by simp[AV,Lit.sameKey];by_cases h:e=x<;>simp[h])
end
abbrev P7:Ab:=157
abbrev tWo:Ab:=150
abbrev Ml:Ab:=154
abbrev tBy:Ab:=147
theorem NQ:prog.underlying tBy=E (.map Qq Ml):=by kernel_rfl
theorem Yt(w:U):(Ew Ml).run prog w=.ok (Q O) w:=by kernel_rfl
theorem Ac8:(prog.info? Ml).map (λa=>(a.zero,a.size,a.bytes))=E (E (Q O),1,8):=by kernel_rfl
def one(v:Int):Int->Option N:=AC AF 0 v
def rv(s:St):Int:=match s.deeds with
 |[a,_]=>a.got
 |_=>0
theorem RW.got{s:St}{g v p q q2:Int}(h:RW s g v p q x q2):rv s=g:=by
 unfold RW at h;unfold rv;rw[h];rfl
def Ac9(txs:List St)(a:Int):Prop:=∀s∈txs,s.status=3/\rv s=a
def AaV(s:St)(a b d e g:Nat):Array N:= #[s.id,s.thr,I J 3,s.beg,s.fin,s.tri,C (E ⟨a,b,O⟩) 2 d,.map (E e),.map (E g),true,true]
def Jr(w0:U)(e:Nat)(W:U)(b:Nat)(s:St):Prop:=∃g i j a d k l,Ah W b P7 (AaV s g i j a d)/\D3 w0 s [s.id,s.thr,I J 3,s.beg,s.fin,s.tri,C (E ⟨g,i,O⟩) 2 j]/\e<=a/\e<=d/\Az W a k (one (rv s))/\Az W d l (one (wv s))
theorem Jr.kept{w0 W W':U}{s:St}(h:Jr w0 n W b s)(j:AD P7 W W')(a:∀k es c,n<=k->W.heap[k]?=E (.map es c)->W'.heap[k]?=W.heap[k]?):Jr w0 n W' b s:=by
 obtain⟨l,m,o,p,q,r,t,u,v,d,e,g,i⟩:=h;let⟨w,x,k1⟩:=g.obj;let⟨y,z,k2⟩:=i.obj;exact⟨l,m,o,p,q,r,t,u.kept j,v,d,e,g.at (a _ _ _ d k1),i.at (a _ _ _ e k2)⟩
theorem Jr.below{w0 W W':U}{s:St}(h:Jr w0 n W b s)(a:Below W W W'):Jr w0 n W' b s:=h.kept (.below a) (λd _ _ _ e=>a.block d (ET.1 e).1)
theorem Jr.row{w0 W W':U}{B size:Nat}{s:St}{t:Ab}{v:N}{xs:List N}(h:Jr w0 k W b s)(a:W.ownsRow B t size v n xs)(i:P7≠t)(d:W.grownBy W' v.ownBlock):Jr w0 k W' b s:=
 h.kept (AD.row a d i) (λj m c _ e=>d.block j (ET.1 e).1 (λl=>by
  let⟨o,p,g⟩:=He a l.symm;rw[e] at g
  cases g))
theorem Jr.turn{w0 W W':U}{s:St}(h:Jr w0 n W b s)(j:m<n)(e:∃es c,W.heap[m]?=E (.map es c))(d:W.mapTurned W' m):Jr w0 n W' b s:=
 h.kept (By d.grown λk a=>by
  cases a
  obtain⟨es,c,h⟩:=e;exact⟨_,h,rfl⟩) (λg es c l i=>d.grown.block g (ET.1 i).1 (λa=>by cases a;omega))
theorem Jr.set{w0 W:U}{s:St}{t:Ab}{cs:Array N}(h:Jr w0 n W b s)(a:Ah W g t cs)(d:P7≠t)(u:N):Jr w0 n (W.setCell ⟨g,i,O⟩ u) b s:=
 h.kept (AD.set a d u) (λe k c _ j=>B3 _ _ _ _ (show e≠g by
  rintro rfl;rw[Ah,j] at a
  cases a))
def ptr(b:Nat):N:=b
theorem Hi:∀a:List Nat,a.map ptr=a.flatMap λb=>[ptr b]
 |[]=>rfl
 |b::d=>by rw[G9,Hi d];rfl
def WoL(w0:U)(j:Nat)(W:U)(g m:Nat)(k:Array N)(a:List Nat)(txs:List St)(l:Int):Prop:=∃(b:N) (d:Nat) (f:Ce->Option N),Ah W g tWo (k++ #[I J 2,b,.map (E m)])/\W.ownsRow w0 Ml 1 b a.length (a.map ptr)/\
 (∀(e i:Nat) (s:St),a[e]?=i->txs[e]?=s->Jr w0 j W i s)/\Bi NP W m d f/\d<=a.length/\∀c:Ce,c.1.2=l->f c=O
theorem AeZ{w:U}{vo vl:N}{os:List Ob}{es:List Ev}{txs:List St}(cw:Ba 2 CL w vo os)(al:Ba 8 BO w vl es)(e1:∀gb∈os,gb.kind<=9223372036854775807)(e2:∀e∈es,AU e.kind/\e.ret<=9223372036854775807)(e3:AE w)(cx:Prm os es txs x)(e4:Ac9 txs x)(e5:CN x):
 Calls prog 25 #[.agg #[vo,vl],I J 2] w λB cy=>∃be bf b,B=R (.tuple #[Q (E ⟨bf,0,O⟩),.nilIface])/\b.length=txs.length/\WoL be (bf+1) cy bf (bf-1) #[vo,vl] b txs x/\Below be be cy/\Below w w cy/\be.heap.size<bf/\w.heap.size<=be.heap.size:=by
 obtain⟨ad,ae,rfl⟩:=cw.shape;obtain⟨af,ag,rfl⟩:=al.shape;have bg:=Zc w<|K #[C ad os.length ae,C af es.length ag] AI;have cz:=Af bg;have bh:=Af<|Ah.new w AI #[C ad os.length ae,C af es.length ag];have c0:=Af<|KF (cw.below bg) (al.below bg) e1 e2 (e3.below bg) cx;have aa:=Af cx;have e6:=Af e4;have gc:=Af e5;have a9:= @EC prog;have e7:=Af a9;clear cw al e1 e2 e3 cx e4 e5 bg;go_in;go_upto_region 1 with fail;generalize w.alloc (K #[C ad os.length ae,C af es.length ag] AI)=ic at cz bh c0|-;let⟨c1,c2⟩:=bh.o.c2;go_wp2_with fail;refine c0.o.mono ?_;rintro B a ⟨ie,rfl,c3,ba⟩;obtain⟨ig,ih,rfl⟩:=DD.shape c3;have c4:=Af<|bh.o.below ba bh.o.lt;have gd:=Af c3;have az:=Af<|cz.o.trans (ba.mono cz.o.size);clear c3 ba c1 c2 bh c0 a9;let⟨c1,c2⟩:=c4.o.c2;have e8:=(Zc a (.map #[] 0)).alloc (by simp)<|K #[C ad os.length ae,C af es.length ag,I J 2,C O 0 0,.map (E a)] tWo;have a9:=e7.o;have c5:=Af (show WoL a (a+1+1) _ (a+1) a #[C ad os.length ae,C af es.length ag] [] txs x from⟨C O 0 0,0,λ_=>O,by simpa using Ah.new (a.alloc (.map #[] 0)) tWo #[C ad os.length ae,C af es.length ag,I J 2,C O 0 0,.map (E a)],Ep _ _ _ _,(λG k s h=>by simp at h),(Bi.made NP a).call ((Ae _ _).alloc (Aa _) _),Aa _,λ_ _=>rfl⟩);have c6:=Af e8;clear e8;have k0:=(c4.o.alloc (.map #[] 0)).cell 0;have k1:=(c4.o.alloc (.map #[] 0)).cell 1;go_upto_region 6 with fail;clear c1 c2 k0 k1 a9;generalize (a.alloc (.map #[] 0)).alloc (K #[C ad os.length ae,C af es.length ag,I J 2,C O 0 0,.map (E a)] tWo)=ii at c5 c6|-
 go_loopw [39] (λa0 W=>∃b:List Nat,a0=(b.length:Int)/\b.length<=txs.length/\WoL a (a+1+1) W (a+1) a #[C ad os.length ae,C af es.length ag] b txs x/\Below a a W) (λa0 _=>13-(intOf a0).toNat)
 case atStart=>exact⟨[],rfl,A9 _,c5,c6⟩
 case round=>
  obtain⟨b,rfl,bi,ge,D⟩:=hrel;clear c5 c6;obtain⟨vl,e9,f,c7,cc,bb,bj,c8,c9⟩:=ge;obtain⟨bk,bl,rfl⟩:=Ag cc;have L:=Af (show Ah wr (a+1) tWo #[C ad os.length ae,C af es.length ag,I J 2,C bk b.length bl,.map (E a)] from by simpa using c7);have cd:=Af cc;have ce:=Af bb;have am:=Af bj;have da:=Af c8;have db:=Af c9;have dc:=Af D;by_cases M:b.length<txs.length
  .obtain⟨s,an⟩:∃s,txs[b.length]?=E s:=⟨txs[b.length],An M⟩;obtain⟨fa,fb,ij,rfl,-,-,-,gf,cf,cg⟩:=gd.o.at an;have ch:=Af<|Ap an;have gg:=Af an;let⟨F,v,p,ah,ai,S,bm⟩:=aa.o.deeds s ch;have fc:=Af bm.val;have gh:=Af bm.got;have fd:=Af bm;obtain⟨r,t,u,rfl,ik,dd,de⟩:=GU cf bm;rw[(e6.o s ch.o).1] at cf cg;have df:=Af cf;have ao:∀(B:Nat) (bn:N),([s.id,s.thr,I J 3,s.beg,s.fin,s.tri,C (E ⟨r,t,O⟩) 2 u]:List N)[B]?=E bn->wr.cell? ⟨fa,fb+b.length*7+B,O⟩=E bn:=λB bn h=>(D.cell (Ad a _ (cg B bn h))).trans (cg B bn h);have gi:wr.cell? ⟨fa,fb+b.length*7,O⟩=_:=ao 0 _ rfl;have gj:=ao 1 _ rfl;have gl:=ao 2 _ rfl;have gm:=ao 3 _ rfl;have gn:=ao 4 _ rfl;have gp:=ao 5 _ rfl;have gq:=ao 6 _ rfl;have ap:=Af M;have gr:(0:Int)<=(b.length:Int):=by omega
   have gs:(b.length:Int)<(txs.length:Int):=by omega
   have gt:(txs.length:Int)<=12:=by have:=aa.o.few;omega
   have gu:decide (b.length<txs.length)=true:=by simpa using M
   have X:=Zc wr<|K #[s.id,s.thr,I J 3,s.beg,s.fin,s.tri,C (E ⟨r,t,O⟩) 2 u] Bq;have dh:=Af<|D.trans (X.mono D.size);have a1:=Af X;have ci:=Af<|Ah.new wr Bq #[s.id,s.thr,I J 3,s.beg,s.fin,s.tri,C (E ⟨r,t,O⟩) 2 u];clear an M bi cg ao gf cf bm D dd de c7 cc bb bj c8 c9 X;go_upto_region 8 with fail;clear gi gj gl gm gn gp gq;generalize il:wr.heap.size=T at ci|-;generalize wr.alloc (K #[s.id,s.thr,I J 3,s.beg,s.fin,s.tri,C (E ⟨r,t,O⟩) 2 u] Bq)=i at ci dh a1|-;have fe:=Af<|(ci.o.alloc (.map #[] 0)).alloc (.map #[] 0);have gv:=ci.o.c7;have a9:=e7.o;have ba:=(Zc i (.map #[] 0)).alloc (by simp)<|.map #[] 0;have ff:=Af<|(Az.made i).alloc (.map #[] 0);have fg:=Af (by simpa using Az.made (i.alloc (.map #[] 0)):Az ((i.alloc (.map #[] 0)).alloc (.map #[] 0)) (i+1) 0 AF);have az:=Af<|dh.o.trans (ba.mono dh.o.size);clear ba;go_upto_region 9 with fail;have bo:=Af<|az.o.alloc az.o.size (K #[s.id,s.thr,I J 3,s.beg,s.fin,s.tri,C (E ⟨r,t,O⟩) 2 u,.map (E i),.map (E (i+1)),false,false] P7);have bp:=Af<|fe.o.alloc (K #[s.id,s.thr,I J 3,s.beg,s.fin,s.tri,C (E ⟨r,t,O⟩) 2 u,.map (E i),.map (E (i+1)),false,false] P7);have di:=Af<|ff.o.alloc (K #[s.id,s.thr,I J 3,s.beg,s.fin,s.tri,C (E ⟨r,t,O⟩) 2 u,.map (E i),.map (E (i+1)),false,false] P7);have dj:=Af<|fg.o.alloc (K #[s.id,s.thr,I J 3,s.beg,s.fin,s.tri,C (E ⟨r,t,O⟩) 2 u,.map (E i),.map (E (i+1)),false,false] P7);have cj:=Af (by simpa using Ah.new ((i.alloc (.map #[] 0)).alloc (.map #[] 0)) P7 #[s.id,s.thr,I J 3,s.beg,s.fin,s.tri,C (E ⟨r,t,O⟩) 2 u,.map (E i),.map (E (i+1)),false,false]:Ah _ (i+1+1) P7 _);have ck:=Af<|((a1.o.alloc a1.o.size (.map #[] 0)).alloc (by have:=a1.o.size;simp;omega) (.map #[] 0)).alloc (by have:=a1.o.size;simp;omega) (K #[s.id,s.thr,I J 3,s.beg,s.fin,s.tri,C (E ⟨r,t,O⟩) 2 u,.map (E i),.map (E (i+1)),false,false] P7);have bq:=Af a1.o.size;clear gv a9 fe ff fg az;have a2:=Af (show a.heap.size+1+1<=i.heap.size from by have ab:=L.o.lt;have ac:=a1.o.size;omega);generalize i.heap.size=d at a2 bq bo bp di dj cj ck|-;generalize ((i.alloc (.map #[] 0)).alloc (.map #[] 0)).alloc (K #[s.id,s.thr,I J 3,s.beg,s.fin,s.tri,C (E ⟨r,t,O⟩) 2 u,.map (E d),.map (E (d+1)),false,false] P7)=im at bo bp di dj cj ck|-;let⟨dk,dl,br,dm,dn,dp,dq⟩:=bp.o.c7;go_upto_region 9 with fail;go_wp2_with fail;refine(Vj (D3.keeps _ _ _ _ bo df) fd).mono ?_;rintro B y ⟨io,rfl,dr,a3⟩;obtain⟨ip,iq,rfl⟩:=Ag dr;obtain⟨aq,ar,gw,-,-,aj⟩:=(Ba.of_row (f:=Qj) (l:=[L6 F p ah]) dr (λ_=>rfl) (by simp)).at (j:=0) rfl;subst gw;have fh:=Af<|bo.o.trans (a3.mono bo.o.size);have gx:=Af<|bp.o.below a3 bp.o.lt;have gy:=Af<|di.o.call a3;have gz:=Af<|dj.o.call a3;have g0:=Af<|cj.o.below a3 cj.o.lt;have fi:=Af<|ck.o.trans (a3.mono ck.o.size);have ds:y.cell? ⟨aq,ar,O⟩=E ():=by simpa[L6,Mj] using aj 0 _ rfl (by decide)
   have dt:y.cell? ⟨aq,ar+1,O⟩=E (I J 1):=by simpa[L6,Mj] using aj 1 _ rfl (by decide)
   have du:y.cell? ⟨aq,ar+2,O⟩=E ():=by simpa[L6,Mj] using aj 2 _ rfl (by decide)
   have dv:y.cell? ⟨aq,ar+3,O⟩=E ():=by simpa[L6,Mj] using aj 3 _ rfl (by decide)
   have dw:y.cell? ⟨aq,ar+4,O⟩=E (I J 3):=by simpa[L6,Mj] using aj 4 _ rfl (by decide)
   have dx:y.cell? ⟨aq,ar+5,O⟩=F:=by simpa[L6,Mj] using aj 5 _ rfl (by decide)
   have dy:y.cell? ⟨aq,ar+6,O⟩=p:=by simpa[L6,Mj] using aj 6 _ rfl (by decide)
   have dz:y.cell? ⟨aq,ar+7,O⟩=ah:=by simpa[L6,Mj] using aj 7 _ rfl (by decide)
   clear dr a3 aj dk dl br dm dn dp dq;go_upto_region 10 with fail;refine CO 2 ?_;rw[Aq];have X:=Zc y<|K #[(),I J 1,(),(),I J 3,F,p,ah] Bu;have cl:=Af<|Ah.new y Bu #[(),I J 1,(),(),I J 3,F,p,ah];have d0:=Af<|fh.o.trans (X.mono fh.o.size);have d1:=Af<|fi.o.trans (X.mono fi.o.size);have fj:=Af<|gx.o.alloc (K #[(),I J 1,(),(),I J 3,F,p,ah] Bu);have d2:=Af<|gy.o.alloc (K #[(),I J 1,(),(),I J 3,F,p,ah] Bu);have d3:=Af<|gz.o.alloc (K #[(),I J 1,(),(),I J 3,F,p,ah] Bu);have d4:=Af<|g0.o.alloc (K #[(),I J 1,(),(),I J 3,F,p,ah] Bu);go_upto_region 12 with fail;clear ds dt du dv dw dx dy dz X;generalize y.heap.size=cn at cl|-;generalize y.alloc (K #[(),I J 1,(),(),I J 3,F,p,ah] Bu)=bs at cl d0 d1 fj d2 d3 d4|-;let⟨g1,g2,fk,bt⟩:=(d2.o.drew).put Bh (k:=0) (by unfold Al;omega) (by decide) (by decide) F;have d5:∀ {W:U},AD P7 bs W->AD Bu bs W->W.cell? ⟨d+1+1,7,O⟩=E (.map (E d))/\W.cell? cn=E ()/\W.cell? ⟨cn,5,O⟩=F:=λab ac=>⟨(d4.o.kept ab).cell 7,(cl.o.kept ac).cell 0,(cl.o.kept ac).cell 5⟩
   have bu:∀bv,AD bv bs g1:=λbv=>By (A:=bs.drew) bt.grown λB e=>by
    cases e
    let⟨es,g3,e⟩:=d2.o.obj;exact⟨_,e,rfl⟩
   have d6:=d5 (bu _)<|bu _;have d7:=d5 (W:=bs.drew) (λ_ _=>rfl) (λ_ _=>rfl);have ir:=Af<|And.intro d6 d7;have bw:=d7;have bz:=d6
   go_region_held_law (λW=>W.cell? ⟨d+1+1,7,O⟩=E (.map (E d))/\W.cell? cn=E ()/\W.cell? ⟨cn,5,O⟩=F) (first|(go_keep;done)|with_reducible exact bw|with_reducible exact bz) (fail)
   have d8:=Af<|d0.o.drew.grown bt.grown d0.o.size (λn g=>by cases g;have:=a2.o;omega);have fl:=Af<|d1.o.drew.grown bt.grown d1.o.size (λn g=>by cases g;have:=bq.o;omega);have d9:=Af<|fj.o.kept (bu _);have fm:=Af<|d4.o.kept (bu _);have g4:=Af fk;have g5:=Af<|d3.o.at (bt.grown.block (d+1) d3.o.lt (by simp));clear g2 fk bt d5 bu d6 d7 bw bz;go_wp2_with fail;rw[Aq];go_upto_region 14 with fail;let⟨dk,dl,br,dm,dn,dp,dq⟩:=d9.o.c7;go_upto_region 14 with fail;go_wp2_with fail;refine(RF (D3.keeps _ _ _ _ d8 df) fd).mono ?_;rintro B z ⟨is,rfl,ea,a4⟩;obtain⟨it,iu,rfl⟩:=Ag ea;obtain⟨au,av,g6,-,-,ak⟩:=(Ba.of_row (f:=Qj) (l:=[Mj v ai S]) ea (λ_=>rfl) (by simp)).at (j:=0) rfl;subst g6;have fo:=Af<|d8.o.trans (a4.mono d8.o.size);have g7:=Af<|d9.o.below a4 d9.o.lt;have g8:=Af<|g4.o.call a4;have g9:=Af<|g5.o.call a4;have ha:=Af<|fm.o.below a4 fm.o.lt;have fp:=Af<|fl.o.trans (a4.mono fl.o.size);have ds:z.cell? ⟨au,av,O⟩=E ():=by simpa[L6,Mj] using ak 0 _ rfl (by decide)
   have dt:z.cell? ⟨au,av+1,O⟩=E (I J 2):=by simpa[L6,Mj] using ak 1 _ rfl (by decide)
   have du:z.cell? ⟨au,av+2,O⟩=E ():=by simpa[L6,Mj] using ak 2 _ rfl (by decide)
   have dv:z.cell? ⟨au,av+3,O⟩=v:=by simpa[L6,Mj] using ak 3 _ rfl (by decide)
   have dw:z.cell? ⟨au,av+4,O⟩=E (I J 1):=by simpa[L6,Mj] using ak 4 _ rfl (by decide)
   have dx:z.cell? ⟨au,av+5,O⟩=E ():=by simpa[L6,Mj] using ak 5 _ rfl (by decide)
   have dy:z.cell? ⟨au,av+6,O⟩=ai:=by simpa[L6,Mj] using ak 6 _ rfl (by decide)
   have dz:z.cell? ⟨au,av+7,O⟩=S:=by simpa[L6,Mj] using ak 7 _ rfl (by decide)
   clear ea a4 ak dk dl br dm dn dp dq;go_upto_region 15 with fail;refine CO 2 ?_;rw[Aq];have X:=Zc z<|K #[(),I J 2,(),v,I J 1,(),ai,S] Bu;have co:=Af<|Ah.new z Bu #[(),I J 2,(),v,I J 1,(),ai,S];have eb:=Af<|fo.o.trans (X.mono fo.o.size);have ec:=Af<|fp.o.trans (X.mono fp.o.size);have fq:=Af<|g7.o.alloc (K #[(),I J 2,(),v,I J 1,(),ai,S] Bu);have ed:=Af<|g8.o.alloc (K #[(),I J 2,(),v,I J 1,(),ai,S] Bu);have ee:=Af<|g9.o.alloc (K #[(),I J 2,(),v,I J 1,(),ai,S] Bu);have ef:=Af<|ha.o.alloc (K #[(),I J 2,(),v,I J 1,(),ai,S] Bu);go_upto_region 17 with fail;clear ds dt du dv dw dx dy dz X;generalize z.heap.size=cp at co|-;generalize z.alloc (K #[(),I J 2,(),v,I J 1,(),ai,S] Bu)=b0 at co eb ec fq ed ee ef|-;let⟨fr,hb,fs,b1⟩:=(ee.o.drew).put Bh (k:=0) (by unfold Al;omega) (by decide) (by decide) v;have eg:∀ {W:U},AD P7 b0 W->AD Bu b0 W->W.cell? ⟨d+1+1,8,O⟩=E (.map (E (d+1)))/\W.cell? cp=E ()/\W.cell? ⟨cp,3,O⟩=v:=λab ac=>⟨(ef.o.kept ab).cell 8,(co.o.kept ac).cell 0,(co.o.kept ac).cell 3⟩
   have b2:∀bv,AD bv b0 fr:=λbv=>By (A:=b0.drew) b1.grown λB e=>by
    cases e
    let⟨es,g3,e⟩:=ee.o.obj;exact⟨_,e,rfl⟩
   have eh:=eg (b2 _)<|b2 _;have ei:=eg (W:=b0.drew) (λ_ _=>rfl) (λ_ _=>rfl);have iv:=Af<|And.intro eh ei;have bw:=ei;have bz:=eh
   go_region_held_law (λW=>W.cell? ⟨d+1+1,8,O⟩=E (.map (E (d+1)))/\W.cell? cp=E ()/\W.cell? ⟨cp,3,O⟩=v) (first|(go_keep;done)|with_reducible exact bw|with_reducible exact bz) (fail)
   have hc:=Af<|eb.o.drew.grown b1.grown eb.o.size (λn g=>by cases g;have:=a2.o;omega);have hd:=Af<|ec.o.drew.grown b1.grown ec.o.size (λn g=>by cases g;have:=bq.o;omega);have cq:=Af<|fq.o.kept (b2 _);have aw:=Af<|ef.o.kept (b2 _);have he:=Af fs;have hf:=Af<|ed.o.at (b1.grown.block d ed.o.lt (by simp));clear hb fs b1 eg b2 eh ei bw bz;go_wp2_with fail;rw[Aq];go_upto_region 19 with fail;have br:=cq.o.cell 2;have ej:=aw.o.cell 10;have ek:=aw.o.cell 9;have hg:=aw.o.frozen 10;have hh:=aw.o.frozen 9;have hi:=aw.o.lt;go_upto_region 22 with fail;have cr:=aw.o.put 10 true;have b3:=Af (show Ah _ (d+1+1) P7 (AaV s r t u d (d+1)) from by simpa[AaV] using cr.put 9 true);have hj:=Af<|(cq.o.far (p:=⟨d+1+1,10,O⟩) (λe=>cq.o.apart aw (by decide) e) true).far (p:=⟨d+1+1,9,O⟩) (λe=>cq.o.apart aw (by decide) e) true;have cs:=Af<|(hf.o.setCell ej (v:=true)).setCell (cr.cell 9) (v:=true);have el:=Af<|(he.o.setCell ej (v:=true)).setCell (cr.cell 9) (v:=true);have bc:=Af<|(hc.o.setCell (p:=⟨d+1+1,10,O⟩) (show a.heap.size<=d+1+1 by have:=a2.o;omega) true).setCell (p:=⟨d+1+1,9,O⟩) (show a.heap.size<=d+1+1 by have:=a2.o;omega) true;have a5:=Af<|(hd.o.setCell (p:=⟨d+1+1,10,O⟩) (show wr.heap.size<=d+1+1 by have:=bq.o;omega) true).setCell (p:=⟨d+1+1,9,O⟩) (show wr.heap.size<=d+1+1 by have:=bq.o;omega) true;clear br ej ek hg hh hi cr;generalize (fr.setCell ⟨d+1+1,10,O⟩ true).setCell ⟨d+1+1,9,O⟩ true=hk at b3 hj cs el bc a5|-;have hl:hk.cell? ⟨d+1+1,8,O⟩=E (.map (E (d+1))):=b3.o.cell 8;go_wp2_with (at_range;refine AW rfl _ _ _ rfl Bh rfl el ?_;intro hm hn b4 Y ft)
   go_frame
   have em:CN 0/\CN (wv s):=⟨by decide,(aa.o.small s ch).1⟩
   have en:NP.kv ⟨(0,wv s),em⟩=.agg #[(),v]:=by
    show ceV (0,wv s)=_;rw[fc.o];rfl
   have iw:=Af en;refine CO 3 ?_;rw[Aq];go_wp2_with (at_next;refine AH rfl _ rfl rfl b4 ?_ ?_)
   .intro eo;exact absurd (eo 0) (by simp[AC])
   intro n b5 a6 ho m al b6 fu ax fv ep
   obtain⟨rfl,rfl⟩:n=0/\b5=v:=by
    unfold AC at m
    split at m
    .next h=>exact⟨h,(Option.some.inj m).symm⟩
    .cases m
   have Z:=Af<|(a5.o.grown Y a5.o.size (λn g=>by cases g)).grown ax (by have:=a5.o.size;have:=Y.size;omega) (λn g=>by cases g;exact a5.o.size);have fw:=Af<|(bc.o.grown Y bc.o.size (λn g=>by cases g)).grown ax (by have:=bc.o.size;have:=Y.size;omega) (λn g=>by cases g;exact bc.o.size);have hp:=Af<|(b3.o.grown Y (λe=>by cases e)).grown ax (λe=>absurd (Option.some.inj e) (Ot b3.o.lt));have hq:=Af<|(cs.o.grown Y (λe=>by cases e)).grown ax (λe=>absurd (Option.some.inj e) (Ot cs.o.lt));have hr:=Af b6.map;have fx:=Af<|L.o.below Z L.o.lt;have eq:a6.cell? ⟨a.heap.size+1,4,O⟩=E (.map (E a)):=fx.o.cell 4;let⟨b7,er,fy,a7⟩:=(am.o.call Z).put NQ (by have:=da.o;have:=ap.o;have:=aa.o.few;unfold Al;omega) ⟨(0,wv s),em⟩<|ptr (d+1+1);rw[en] at er;unfold ptr at er;have hs:=Af b6;have ht:=Af a5.o.size;clear en hl b4 m al Y ax ft fv fu a5 bc b3 cs el;go_wp2_with fail;rw[Aq];have bj:=am.o.obj;have hu:=L.o.lt;have fz:=hs.o.kept a7.grown (λe=>absurd (Option.some.inj e) (by have:=a2.o;omega)) (λe=>absurd (Option.some.inj e) (by have:=ht.o;omega));go_wp2_with (at_next;refine AH rfl _ rfl rfl fz ?_ ?_)
   rotate_left
   .intro n b5 hv hw m al g;unfold AC AF at m;rw[if_neg g] at m
    cases m
   intro _;have ix:=L.o.lt;have iy:=a2.o;have f0:=Af<|fx.o.grown a7.grown (λe=>absurd (Option.some.inj e) (by omega));have et:=AA cd Z;have f1:=Af<|et.kept a7.grown (.inr (λe=>(am.o.call Z).apartRow et e));have hx:=Af (λ(G k:Nat) (a8:St) (ab:b[G]?=k) (ac:txs[G]?=a8)=>((ce.o G k a8 ab ac).below Z).turn (m:=a.heap.size) (by omega) (am.o.call Z).obj a7)
   have hz:=Af (show Jr a (a+1+1) b7 (d+1+1) s from by
    have ay:Jr a (a+1+1) a6 (d+1+1) s:=⟨r,t,u,d,d+1,_,_,hp,df,by omega,by omega,by rw[gh.o];exact hq.o,by rw[fc.o];exact hr.o⟩;exact ay.turn (m:=a.heap.size) (by omega) (am.o.call Z).obj a7)
   have f2:=Af fy;have eu:=Af<|fw.o.grown a7.grown fw.o.size (λn g=>by cases g;exact Aa _);let⟨h0,b8,h1,dd,de⟩:=A1 Ac8;have f3:b7.cell? ⟨a.heap.size+1,3,O⟩=E (C bk b.length bl):=f0.o.cell 3;clear fz bj hu er fy a7 eq et ep;have ev:=f0.o.alloc<|K #[(d+1+1:Nat)] Ml;have ew:=f1.o.alloc<|K #[(d+1+1:Nat)] Ml;have b9:=Af<|And.intro ev (And.intro ew (ev.apartRow ew (by decide)));clear ev ew;go_wp2_with (at_builtin;refine B9 _ rfl (.tmp 128) (.tmp 130) 148 rfl a Ml h0 (.pointer O) 1 8 underlying148 b8 h1 dd de rfl (by decide) (.slice bk b.length bl) b.length (b.map ptr) rfl b9.o.2.1 _ 1 1 [(d+1+1:Nat)] rfl rfl (En _ _ _) (by simp[B4]) (by have:=ap.o;have:=aa.o.few;unfold Al;omega) (by have:=ap.o;have:=aa.o.few;omega) (by have:=eu.o.size;simp;omega) ?_;intro iz h2 ex ct _ _;obtain⟨cu,k8,rfl⟩:=Ag ex;have bd:=Af (b9.o.1.grown ct (λe=>b9.o.2.2 e.symm));have i0:=bd.o.cell 3;have i1:=bd.o.frozen 3;have i2:=bd.o.lt);have h3:=eu.o.size;have ey:=Zc b7<|K #[(d+1+1:Nat)] Ml;have bb:∀ {k:Nat} {a8:St},Jr a (a+1+1) b7 k a8->Jr a (a+1+1) (h2.setCell ⟨a.heap.size+1,3,O⟩ (C cu (b.length+1) k8)) k a8:=λh=>((h.below ey).row b9.o.2.1 (by decide) ct).set bd (by decide) _;refine⟨⟨b++[d+1+1],by simp,by simp;have:=ap.o;omega,⟨C cu (b.length+1) k8,e9+1,Fo f ⟨(0,wv s),em⟩ (ptr (d+1+1)),by simpa using bd.o.put 3 (C cu (b.length+1) k8),?_,?_,?_,by simp;exact da.o,?_⟩,?_⟩,?_⟩
   .have h:=Ak ex (p:=⟨a.heap.size+1,3,O⟩) (bd.o.apartRow ex (by decide))<|C cu (b.length+1) k8;simpa[ptr] using h
   .intro G k a8 o ca;rcases ES G b.length with b8|b8
    .rw[List.getElem?_append_left b8] at o;exact bb<|hx.o G k a8 o ca
    .rw[List.getElem?_append_right b8] at o
     obtain rfl:G=b.length:=by
      rcases ES b.length G with h|h
      .rw[List.getElem?_eq_none (by simp;omega)] at o;cases o
      .omega
     simp at o;subst o;rw[gg.o] at ca;injection ca with ca;subst ca;exact bb hz
   .have ab:=(f2.o.call ey).grown ct (λe=>(f2.o.call ey).apartRow b9.o.2.1 e.symm);exact ab.at<|B3 _ _ _ _ (show a.heap.size≠a.heap.size+1 by omega)
   .intro c f4;unfold Fo;rw[if_neg (λe=>(aa.o.small s ch.o).2 (by rw[<-f4,e])),db.o c f4]
   .exact((eu.o.alloc h3 (K #[(d+1+1:Nat)] Ml)).grown ct (by simp;omega) (λn g=>(Ai f1 g).1)).setCell (p:=⟨a.heap.size+1,3,O⟩) (Ax _) _
   .simp[intOf];have:=ap.o;have:=aa.o.few;omega
  .have ez:b.length=txs.length:=by omega
   have cv:=Af ez;have gu:decide (b.length<txs.length)=false:=by simp[ez]
   have f5:=Af<|Ba.of_row (f:=λk=>[ptr k]) (l:=b) cd (λ_=>rfl) (Hi b);clear bi M ez c7 cc bb bj c8 c9 D;generalize wr=V at L cd ce am dc f5|-;have f3:V.cell? ⟨a.heap.size+1,3,O⟩=E (C bk b.length bl):=L.o.cell 3;go_upto_region 29 with fail;refine CO 2 ?_;rw[Aq];go_upto_region 32 with fail;clear f3
   go_loopw [141,18] (λa0 hy W=>∃q:Nat,a0=(q:Int)/\hy=false/\q<=b.length/\Below V V W) (λa0 _ _=>13-(intOf a0).toNat)
   case atStart=>exact⟨0,rfl,rfl,A9 _,Ae _ _⟩
   case round=>
    obtain⟨q,rfl,rfl,bi,D⟩:=hrel;have cb:=Af D;by_cases M:q<b.length
    .obtain⟨k,e0⟩:∃k,b[q]?=E k:=⟨b[q],An M⟩;obtain⟨s,an⟩:∃s,txs[q]?=E s:=⟨txs[q]'(by have:=cv.o;omega),An _⟩;let⟨r,t,u,h4,i3,i4,i5,o,h5,h6,h7,f6,h8⟩:=(ce.o q k s e0 an).below D;obtain⟨h9,or,rfl,-,-,f7⟩:=f5.o.at e0;have ia:=(e6.o s (Ap an)).2;rw[ia] at f6
     have i6:wr.cell? ⟨h9,or+q,O⟩=k:=by
      have ay:=f7 0 (ptr k) rfl (by decide);rw[Nat.mul_one,Nat.add_zero] at ay;exact(D.cell (Ad V _ ay)).trans ay
     have i7:wr.cell? ⟨k,7,O⟩=E (.map (E h4)):=o.cell 7;have f8:=Af o;have ap:=Af M;have gr:(0:Int)<=(q:Int):=by omega
     have gs:(q:Int)<(b.length:Int):=by omega
     have gt:(b.length:Int)<=12:=by have:=aa.o.few;have:=cv.o;omega
     have S:decide (q<b.length)=true:=by simpa using M
     have f9:=Af (show CN 0/\CN x from⟨by decide,gc⟩);clear D M bi e0 an h5 h6 h7 h8 f7 o;go_wp2_with (at_range;refine AW rfl _ _ _ rfl Bh rfl f6 ?_;intro hm hn b4 Y ft)
     go_frame
     refine CO 3 ?_;rw[Aq];go_wp2_with (at_next;refine AH rfl _ rfl rfl b4 ?_ ?_)
     .intro eo;exact absurd (eo 0) (by simp[one,AC])
     intro n b5 a6 ho m al b6 fu ax fv ep
     obtain⟨rfl,rfl⟩:n=0/\b5=x:=by
      unfold one AC at m
      split at m
      .next h=>exact⟨h,(Option.some.inj m).symm⟩
      .cases m
     have Z:=Af<|(cb.o.grown Y cb.o.size (λn g=>by cases g)).grown ax (by have:=cb.o.size;have:=Y.size;omega) (λn g=>by cases g;exact cb.o.size);have eq:a6.cell? ⟨a.heap.size+1,4,O⟩=E (.map (E a)):=(L.o.below Z L.o.lt).cell 4;have ek:a6.cell? ⟨k,9,O⟩=true:=((f8.o.grown Y (λe=>by cases e)).grown ax (λe=>absurd (Option.some.inj e) (Ot f8.o.lt))).cell 9
     have ib:(B1 tBy (.map (E a)) (.agg #[(),x]) false).run prog a6=.ok (Q O) a6:=by
      have ay:=(am.o.call Z).look NQ (Yt _) ⟨(0,x),f9⟩;rw[db.o ⟨(0,x),f9.o⟩ rfl] at ay;exact ay
     go_wp2_with fail;rw[Aq];go_wp2_with (at_next;refine AH rfl _ rfl rfl b6 ?_ ?_)
     rotate_left
     .intro n b5 hv hw m al g;unfold one AC AF at m;rw[if_neg g] at m
      cases m
     intro _;clear b6 b4 ep ib eq ek;go_wp2_with fail
     go_roundw
     case rel=>exact⟨q+1,by go_num,rfl,ap,Z⟩
     case measure=>simp[intOf];have:=ap.o;have:=cv.o;have:=aa.o.few;omega
    .obtain rfl:q=b.length:=by omega
     have S:decide (b.length<b.length)=false:=by simp
     clear M bi D;go_wp2_with fail;rw[Aq];go_wp2_with fail;go_ret2;have o:=cb.o;have ga:=dc.o.trans<|o.mono dc.o.size;exact⟨a,a.heap.size+1,b,rfl,cv,⟨C bk b.length bl,e9,f,by simpa using L.o.below o L.o.lt,AA cd o,λG k s ab ac=>(ce.o G k s ab ac).below o,am.o.call o,da,db⟩,ga,az.o.trans (ga.mono az.o.size),Nat.lt_succ_self _,az.o.size⟩
def WoH(W:U)(d:Array N)(e:Int):Prop:=∃a b g i j c,d= #[C (E ⟨a,b,O⟩) 1 g,C i j c]/\W.cell? ⟨a,b+1,O⟩=e
theorem WoH.below{W W':U}{r:Array N}(h:WoH W r x)(b:Below W W W'):WoH W' r x:=by
 obtain⟨d,e,g,i,j,c,k,a⟩:=h;exact⟨d,e,g,i,j,c,k,(b.cell (Ad W _ a)).trans a⟩
theorem WoL.below{w0 W W':U}{r:Array N}{b:List Nat}{txs:List St}(h:WoL w0 n W g m r b txs x)(a:Below W W W'):WoL w0 n W' g m r b txs x:=by
 obtain⟨e,i,f,d,j,k,l,o⟩:=h;exact⟨e,i,f,d.below a d.lt,AA j a,λp q s t c=>(k p q s t c).below a,l.call a,o⟩
theorem LR{w0 W:U}{r:Array N}{ah:List Nat}{txs:List St}{s:St}(bj:WoL w0 n W g m r ah txs x)(bk:WoH W r x)(ai:Below w0 w0 W)(av:ah[i]?=b)(aw:txs[i]?=s)(F:∃g v p q A q2,RW s g v p q A q2)(aj:rv s=x)(ax:CN x):
 Calls prog 55 #[g,b] W λe bl=>e=R (.tuple #[(),true])/\Below W W bl:=by
 obtain⟨c0,bm,f,ay,az,a0,a1,bn,a2⟩:=bj;obtain⟨a3,a4,a5,bo,bp,bq,rfl,a6⟩:=bk;obtain⟨br,bs,rfl⟩:=Ag az;let⟨a,d,a7,a8,c1,c2,c3,ak,a9,bt,bu,al,bv⟩:=a0 i b s av aw;obtain⟨l,v,p,q,A,q2,F⟩:=F;obtain rfl:l=x:=by rw[<-aj,F.got]
 let⟨bw,bz,b0,G,b1,am,an⟩:=GU a9 F;obtain⟨rfl,rfl,rfl⟩:a=bw/\d=bz/\a7=b0:=by simp at G;exact⟨G.2.1.1,G.2.1.2,G.2.2⟩
 have ab:=Af (show Ah W g tWo #[C (E ⟨a3,a4,O⟩) 1 a5,C bo bp bq,I J 2,C br ah.length bs,.map (E m)] from by simpa using ay);have ao:=Af ak;rw[aj] at al;have b2:=Af al;have b3:=Af a1;have b4:=Af a2;have ba:=Af a6;have bb:=Af (λe o h t=>(ai.cell (Ad w0 _ (am e o h t))).trans (am e o h t));have bc:=Af (λe o h t=>(ai.cell (Ad w0 _ (an e o h t))).trans (an e o h t));have bd:=Af (show CN 0/\CN l from⟨by decide,ax⟩);have ap:=Af<|Az.made W;have ac:=Af<|Zc W (.map #[] 0);have b5:= @EC prog;go_in;have b6:(W.alloc (.map #[] 0)).cell? ⟨b,6,O⟩=E (C (E ⟨a,d,O⟩) 2 a7):=(ao.o.alloc _).cell 6;go_upto_region 3 with fail;generalize b7:W.heap.size=b8 at ap|-;generalize W.alloc (.map #[] 0)=j at ap ac|-;have w:=λe o h t=>(ac.o.cell (Ad W _ (bb.o e o h t))).trans (bb.o e o h t);have b9:j.cell? ⟨a,d,O⟩=E ():=w 0 _ rfl (by decide);have ca:j.cell? ⟨a,d+1,O⟩=E (I J 1):=w 1 _ rfl (by decide);have cb:j.cell? ⟨a,d+2,O⟩=E ():=w 2 _ rfl (by decide);have cc:j.cell? ⟨a,d+3,O⟩=E ():=w 3 _ rfl (by decide);have cd:j.cell? ⟨a,d+4,O⟩=E (I J 3):=w 4 _ rfl (by decide);have ce:j.cell? ⟨a,d+5,O⟩=l:=w 5 _ rfl (by decide);have cf:j.cell? ⟨a,d+6,O⟩=p:=w 6 _ rfl (by decide);have cg:j.cell? ⟨a,d+7,O⟩=q:=w 7 _ rfl (by decide);refine CO 3 ?_;rw[Aq];go_upto_region 5 with fail;have L:=Zc j<|K #[(),I J 1,(),(),I J 3,l,p,q] Bu;have M:=Af<|ac.o.trans (L.mono ac.o.size);have ad:=Af<|ap.o.alloc (K #[(),I J 1,(),(),I J 3,l,p,q] Bu);have z:=Af<|Ah.new j Bu #[(),I J 1,(),(),I J 3,l,p,q];generalize j.heap.size=c4 at z|-;generalize j.alloc (K #[(),I J 1,(),(),I J 3,l,p,q] Bu)=B at M ad z|-;have D:=z.o.cell 0;have be:=z.o.cell 1;have ch:=z.o.cell 4;have ci:(B1 Mk (.map (E b8)) () true).run prog B=.ok (.tuple #[(),false]) B:=ad.o.look_ok Bh (Dx _) (k:=0) (by decide) (by decide);go_upto_region 12 with fail;have S:=z.o.cell 5;have cj:B.cell? ⟨g,4,O⟩=E (.map (E m)):=(ab.o.below M ab.o.lt).cell 4
 have ck:∀u,(B1 tBy (.map (E m)) (.agg #[(),l]) false).run prog (B.drewN u)=.ok (Q O) (B.drewN u):=λu=>by
  have bf:=(show Bi NP (B.drewN u) m bm f from b3.o.call (below_drewN M u)).look NQ (Yt _) ⟨(0,l),bd⟩;rw[b4.o ⟨(0,l),bd.o⟩ rfl] at bf;exact bf
 go_quiet (fail);have X:=Af<|below_drewN M nq;have aq:=Af<|ad.o.drewN nq;have Y:=Af<|z.o.drewN nq;generalize B.drewN nq=bg at X aq Y|-;go_upto_region 13 with fail;have D:=Y.o.cell 0;have S:=Y.o.cell 5;have cl:bg.cell? g=E (C (E ⟨a3,a4,O⟩) 1 a5):=(ab.o.below X ab.o.lt).cell 0;have cn:=(X.o.cell (Ad W _ ba)).trans ba;go_quiet (fail);have Z:=Af<|below_drewN X nq;have ar:=Af<|aq.o.drewN nq;have ae:=Af<|Y.o.drewN nq;generalize bg.drewN nq=af at Z ar ae|-;go_upto_region 14 with fail;have D:=ae.o.cell 0;have S:=ae.o.cell 5;have co:af.cell? ⟨b,7,O⟩=E (.map (E a8)):=(ao.o.below Z ao.o.lt).cell 7;have cp:∀u,(B1 Mk (.map (E a8)) () false).run prog (af.drewN u)=.ok l (af.drewN u):=λu=>(b2.o.call (below_drewN Z u)).look Bh (Dx _) (k:=0) (by decide) (by decide);go_quiet (fail);have ag:=Af<|below_drewN Z nq;have bh:=Af<|ar.o.drewN nq;generalize af.drewN nq=k at ag bh|-;go_wp2;rw[Aq];have y:=λe o h t=>(ag.o.cell (Ad W _ (bc.o e o h t))).trans (bc.o e o h t);have cq:k.cell? ⟨a,d+8,O⟩=E ():=y 0 _ rfl (by decide);have cr:k.cell? ⟨a,d+8+1,O⟩=E (I J 2):=y 1 _ rfl (by decide);have cs:k.cell? ⟨a,d+8+2,O⟩=E ():=y 2 _ rfl (by decide);have ct:k.cell? ⟨a,d+8+3,O⟩=v:=y 3 _ rfl (by decide);have cu:k.cell? ⟨a,d+8+4,O⟩=E (I J 1):=y 4 _ rfl (by decide);have cv:k.cell? ⟨a,d+8+5,O⟩=E ():=y 5 _ rfl (by decide);have cw:k.cell? ⟨a,d+8+6,O⟩=A:=y 6 _ rfl (by decide);have cx:k.cell? ⟨a,d+8+7,O⟩=q2:=y 7 _ rfl (by decide);go_upto_region 5 with fail;have L:=Zc k<|K #[(),I J 2,(),v,I J 1,(),A,q2] Bu;have au:=Af<|ag.o.trans (L.mono ag.o.size);have bi:=Af<|bh.o.alloc (K #[(),I J 2,(),v,I J 1,(),A,q2] Bu);have aa:=Af<|Ah.new k Bu #[(),I J 2,(),v,I J 1,(),A,q2];generalize k.heap.size=c5 at aa|-;generalize k.alloc (K #[(),I J 2,(),v,I J 1,(),A,q2] Bu)=c6 at au bi aa|-;have D:=aa.o.cell 0;have be:=aa.o.cell 1;have c7:=aa.o.cell 3;let⟨c8,c9,ak,cy⟩:=bi.o.put Bh (k:=0) (by unfold Al;omega) (by decide) (by decide) v;go_wp2;rw[Aq];go_wp2;go_ret2;exact⟨rfl,au.o.grown cy.grown au.o.size (λda cz=>by cases cz;exact Nat.le_of_eq b7)⟩
abbrev Yu:Ab:=245
abbrev tM3:Ab:=243
abbrev tM2:Ab:=246
theorem CZ:prog.underlying tM3=E (.map 3 tM2):=by kernel_rfl
theorem Fl:prog.underlying tM2=E (.map 3 XP):=by kernel_rfl
theorem LS(w:U):(Ew tM2).run prog w=.ok (.map O) w:=by kernel_rfl
theorem Yv(w:U):(Ew XP).run prog w=.ok (.map O) w:=by kernel_rfl
theorem Yw(t:Ab)(a:t=tM2∨t=XP)(o:Option Nat)(w:U):(Ec .neq t (.map o) (.map O)).run prog w=.ok o.isSome w:=by
 rcases a with rfl|rfl<;>cases o<;>(simp only[Ec];simp[EL,EM,go_sem];try kernel_rfl)
theorem Adb(t:Ab)(a:t=tM2∨t=XP)(o:Option Nat)(w:U):(Ec .eql t (.map o) (.map O)).run prog w=.ok o.isNone w:=by
 rcases a with rfl|rfl<;>cases o<;>(simp only[Ec];simp[EL,EM,go_sem];try kernel_rfl)
abbrev AX(b:Nat):N:=.map (E b)
theorem Ae1(w:U):Calls prog 97 #[] w λb a=>b=R (w+1:Nat)/\Ah a (w+1) Yu #[AX w]/\Az a w 0 AF/\Below w w a:=by
 have d:= @EC prog;go_in;go_wp2;go_ret;exact⟨rfl,by simpa using Ah.new (w.alloc (.map #[] 0)) Yu #[AX w],(Az.made w).alloc _,((Ae _ _).alloc (Aa _) _).alloc (by simp) _⟩
theorem NR{w:U}{M:Nat}{f:Int->Option N}{k:Int}(a:Ah w g Yu #[AX M])(d:Az w M n f)(i:0<=k/\k<=1000)(e:f k=E (AX b)):
 Calls prog 99 #[g,k] w λj l=>j=false/\l=w:=by
 have o:w.cell? g=E (.map (E M)):=a.cell 0
 have p:(B1 tM3 (.map (E M)) k false).run prog w=.ok (.map (E b)) w:=by
  have m:=d.look CZ (LS _) (k:=k) (by omega) (by omega);rwa [e] at m
 have q:=Yw tM2 (.inl rfl) (E b) w;go_in;go_wp2;go_ret;exact⟨rfl,rfl⟩
theorem SK{w:U}{M:Nat}{f:Int->Option N}{k:Int}(b:Ah w g Yu #[AX M])(a:Az w M n f)(o:0<=k/\k<=1000)(i:f k=O)(u:n<1000):
 Calls prog 99 #[g,k] w λp d=>p=true/\Az d M (n+1) (AC f k (AX w))/\Az d w 0 AF/\Ay [M] w d:=by
 have v:w.cell? g=E (.map (E M)):=b.cell 0
 have x:(B1 tM3 (.map (E M)) k false).run prog w=.ok (.map O) w:=by
  have q:=a.look CZ (LS _) (k:=k) (by omega) (by omega);rwa [i] at q
 have y:(w.alloc (.map #[] 0)).cell? g=E (.map (E M)):=(b.alloc _).cell 0;have z:= @EC prog;let⟨A,B,j,l⟩:=(a.alloc (.map #[] 0)).put CZ (by unfold Al;omega) (k:=k) (by omega) (by omega)<|AX w;have r:=Af j;have m:=Af l;have t:=Af a.lt;have D:=Yw tM2 (.inl rfl) O w;go_in;go_wp2;go_ret;exact⟨rfl,r,(Az.made w).at (m.o.grown.block _ (by simp) (λe=>absurd (Option.some.inj e) (by have:=t.o;omega))),((Ay.refl [M] w).alloc _).grown m.o.grown (λk e=>by cases e;exact .inl (by simp))⟩
def VH(f:Int->Option Value)(b:Int)(N:Nat):Int->Option Value:=match f b with
 |some _=>f
 |none=>AC f b (AX N)
theorem Az.only{S:List Nat}{W W':U}{f:Int->Option N}(h:Az W b n f)(a:Ay S W W')(d:b∉S):Az W' b n f:=h.at (a.block b h.lt d)
theorem AaY{w:U}{M:Nat}{f:Int->Option N}{k:Int}(j:Ah w g Yu #[AX M])(e:Az w M n f)(l:0<=k/\k<=1000)(o:∀v,f k=E v->∃b,v=AX b)(p:n<1000):
 Calls prog 99 #[g,k] w λi a=>(∃b,i=R (T b))/\(∃m,m<=n+1/\Az a M m (VH f k w.heap.size))/\(f k=O->Az a w.heap.size 0 AF)/\Ay [M] w a:=by
 cases d:f k with
 |some v=>
  obtain⟨b,rfl⟩:=o v d;refine(NR j e l d).mono ?_;rintro i a ⟨rfl,rfl⟩;exact⟨⟨_,rfl⟩,⟨n,by omega,by unfold VH;rw[d];exact e⟩,λh=>(by cases h),Ay.refl _ _⟩
 |none=>
  refine(SK j e l d p).mono ?_;rintro i a ⟨rfl,q,r,t⟩;exact⟨⟨_,rfl⟩,⟨_,Aa _,by unfold VH;rw[d];exact q⟩,λ_=>r,t⟩
theorem AbN{w:U}{M:Nat}{f F:Int->Option N}{a b kind:Int}(l:Ah w g Yu #[AX M])(t:Az w M n f)(af:n<500)(X:0<=a/\a<=1000)(Y:0<=b/\b<=1000)(ag:0<=kind/\kind<=1000)(ah:a≠b)(B:f a=E (AX k))(ai:∀v,f b=E v->∃q,v=AX q)(D:Az w k m F)(aj:m<500)(ak:F b=O)(al:M≠k):
 Calls prog 100 #[g,a,b,kind] w λZ G=>Z=true/\Ay [M,k] w G/\(∃u,u<=n+1/\Az G M u (VH f b w))/\(f b=O->Az G w 0 AF)/\∃r,w.heap.size<=r/\Az G k (m+1) (AC F b (AX r)):=by
 have ax:=Af<|NR l t X B;have ay:=Af<|AaY l t Y ai (by omega);have az:=Af l;have a0:=Af D;have aa:=Af<|And.intro af (And.intro aj al);have e:=Af<|And.intro X (And.intro Y ag)
 have am:∀r,VH f b r a=E (AX k):=λr=>by
  unfold VH
  cases f b with
  |some _=>exact B
  |none=>show AC f b (AX r) a=_;unfold AC;rw[if_neg ah,B]
 have an:=Af am;have a1:=Af ak;have be:= @EC prog;have ao:=Af<|And.intro l.lt (And.intro t.lt D.lt)
 have ap:g≠M:=by
  rintro rfl;obtain⟨a2,c,d⟩:=t.obj;rw[Ah,d] at l
  cases l
 have aq:g≠k:=by
  rintro rfl;obtain⟨a2,c,d⟩:=D.obj;rw[Ah,d] at l
  cases l
 have ar:=Af<|And.intro ap aq;go_in;go_wp2_with fail;refine ax.o.mono ?_;rintro Z x ⟨rfl,rfl⟩;go_wp2_with fail;refine ay.o.mono ?_;rintro Z i ⟨⟨bf,rfl⟩,⟨u,au,L⟩,y,z⟩;have a3:M<x.heap.size:=ao.o.2.1;have ab:=az.o.only z (by simp;exact ar.o.1);have ac:=a0.o.only z (by simp;exact λd=>aa.o.2.2 d.symm);have bg:i.cell? g=E (.map (E M)):=ab.cell 0
 have bh:(B1 tM3 (.map (E M)) a false).run prog i=.ok (.map (E k)) i:=by
  have o:=L.look CZ (LS _) (k:=a) (by have:=e.o.1;omega) (by have:=e.o.1;omega);rwa [an.o] at o
 have bi:(B1 tM2 (.map (E k)) b false).run prog i=.ok (.map O) i:=by
  have o:=ac.look Fl (Yv _) (k:=b) (by have:=e.o.2.1;omega) (by have:=e.o.2.1;omega);rwa [a1.o] at o
 have bj:=Adb XP (.inr rfl) O i;obtain⟨j,bk,S,p⟩:=(ac.alloc (.map #[] 0)).put Fl (by have:=aa.o.2.1;unfold Al;omega) (k:=b) (by have:=e.o.2.1;omega) (by have:=e.o.2.1;omega)<|AX i;have ad:x.heap.size<=i.heap.size:=z.size;have a5:k<x.heap.size:=ao.o.2.2;have ae:Az j i 0 AF:=(Az.made i).at (p.grown.block _ (by simp) (λd=>absurd (Option.some.inj d) (by omega)));have W:Az j M u (VH f b x):=(L.alloc (.map #[] 0)).at (p.grown.block _ (L.alloc (.map #[] 0)).lt (λd=>absurd (Option.some.inj d) aa.o.2.2));have av:Ah j g Yu #[AX M]:=(ab.alloc (.map #[] 0)).grown p.grown (λd=>absurd (Option.some.inj d) ar.o.2);have bl:j.cell? g=E (.map (E M)):=av.cell 0
 have bm:(B1 tM3 (.map (E M)) a false).run prog j=.ok (.map (E k)) j:=by
  have o:=W.look CZ (LS _) (k:=a) (by have:=e.o.1;omega) (by have:=e.o.1;omega);rwa [an.o] at o
 have bn:(B1 tM2 (.map (E k)) b false).run prog j=.ok (.map (E i)) j:=by
  have o:=S.look Fl (Yv _) (k:=b) (by have:=e.o.2.1;omega) (by have:=e.o.2.1;omega);simpa[AC] using o
 have bo:(B1 XP (.map (E i)) kind false).run prog j=.ok false j:=ae.look Fk (Kr _) (k:=kind) (by have:=e.o.2.2;omega) (by have:=e.o.2.2;omega);obtain⟨a6,bp,a7,A⟩:=ae.put Fk (by unfold Al;omega) (k:=kind) (by have:=e.o.2.2;omega) (by have:=e.o.2.2;omega) true;have a8:=Af (show Ay [M,k] x a6 from(((z.mono (λbq aw=>.inl (by simp at aw;simp[aw]))).alloc (.map #[] 0)).grown p.grown (λa4 d=>by cases d;exact .inl (by simp))).grown A.grown (λa4 d=>by cases d;exact .inr ad));have a9:=Af<|W.at (A.grown.block _ W.lt (λd=>absurd (Option.some.inj d) (by omega)));have ba:=Af<|S.at (A.grown.block _ S.lt (λd=>absurd (Option.some.inj d) (by omega)));have bb:=Af (λh=>((((y h).alloc (.map #[] 0)).at (p.grown.block _ ((y h).alloc (.map #[] 0)).lt (λd=>absurd (Option.some.inj d) (by omega)))).at (A.grown.block _ (by have:=(y h).lt;have:=p.grown.size;simp at this;omega) (λd=>absurd (Option.some.inj d) (by have:=(y h).lt;omega)))));have bc:=Af au;have bd:=Af ad;go_wp2;go_ret;exact⟨rfl,a8,⟨u,bc,a9⟩,bb,_,bd,ba⟩
abbrev tSf:Ab:=325
abbrev tAn:Ab:=238
abbrev tWp:Ab:=78
theorem Yx{W:U}{L M fn:Nat}{u:Int}{lb:Array N}(i:Az W L n (one u))(j:Az W M g (one x))(l:x≠u):
 Calls prog 155 #[.map (E L),.map (E M),.func (.func fn) #[] lb] W λw y=>w=false/\Below W W y:=by
 have z:=Af j;have S:(x==u)=false:=by simpa using l
 have X:decide (x=u)=false:=by simpa using l
 go_in;go_wp2_with (at_range;refine AW rfl _ _ _ rfl Bh rfl i ?_;intro Y Z m e A)
 go_frame
 refine CO 3 ?_;rw[Aq];go_wp2_with (at_next;refine AH rfl _ rfl rfl m ?_ ?_)
 .intro B;exact absurd (B 0) (by simp[one,AC])
 intro d o p aa a q r ab t D F
 obtain⟨rfl,rfl⟩:d=0/\o=u:=by
  unfold one AC at a
  split at a
  .next h=>exact⟨h,(Option.some.inj a).symm⟩
  .cases a
 have v:=Af<|((Zb W).grown e (Aa _) (λd b=>by cases b)).grown t (by have:=e.size;omega) (λd b=>by cases b;exact Aa _);have G:(B1 Mk (.map (E M)) () true).run prog p=.ok (.tuple #[x,true]) p:=(z.o.call v).look_ok Bh (Dx _) (k:=0) (by decide) (by decide);go_wp2;rw[Aq];go_wp2_with (at_next;refine AH rfl _ rfl rfl r ?_ ?_)
 rotate_left
 .intro d o ac ad a q b;unfold one AC AF at a;rw[if_neg b] at a
  cases a
 intro _;go_wp2;go_ret;exact⟨rfl,v⟩
theorem AaZ{W:U}{L M fn:Nat}{u:Int}{lb:Array N}(l:Az W L n (one u))(m:Az W M g (one u))(X:∀args w,(EB fn args).run prog w=.ok (.enter fn args) w)(hF:∀w',Below W W w'->Calls prog fn (#[I J 0]++lb) w' λr t=>r=true/\Below w' w' t):
 Calls prog 155 #[.map (E L),.map (E M),.func (.func fn) #[] lb] W λr w'=>r=true/\Below W W w':=by
 have v:=Af m;have x:=Af hF;go_in;go_wp2_with (at_range;refine AW rfl _ _ _ rfl Bh rfl l ?_;intro Y Z o d y)
 go_frame
 refine CO 3 ?_;rw[Aq];go_wp2_with (at_next;refine AH rfl _ rfl rfl o ?_ ?_)
 .intro z;exact absurd (z 0) (by simp[one,AC])
 intro e A i aa a B D ab p F ac
 obtain⟨rfl,rfl⟩:e=0/\A=u:=by
  unfold one AC at a
  split at a
  .next h=>exact⟨h,(Option.some.inj a).symm⟩
  .cases a
 have b:=Af<|((Zb W).grown d (Aa _) (λe j=>by cases j)).grown p (by have:=d.size;omega) (λe j=>by cases j;exact Aa _);have ad:(B1 Mk (.map (E M)) (I J 0) true).run prog i=.ok (.tuple #[u,true]) i:=(v.o.call b).look_ok Bh (Dx _) (k:=0) (by decide) (by decide);have G:=Af<|x.o i b;go_wp2_with fail;refine G.o.mono ?_;rintro r ae ⟨rfl,q⟩;have S:=Af<|b.o.trans (q.mono b.o.size);go_wp2;go_ret;exact⟨rfl,S⟩
theorem Ago{W:U}{u:Int}(a:Ah W c Ml #[b])(j:W.cell? ⟨b,8,O⟩=E (.map (E g)))(d:Az W g n (one u)):
 Calls prog 162 #[(),c] W λe i=>e=true/\Below W W i:=by
 have l:=a.cell 0;have m:(B1 Mk (.map (E g)) () true).run prog W=.ok (.tuple #[u,true]) W:=d.look_ok Bh (Dx _) (k:=0) (by decide) (by decide);go_in;go_wp2;go_ret;exact⟨rfl,Ae _ _⟩
theorem Yy{w0 W:U}{x y:Nat}{s t:St}(d:Ah W c tWp #[g])(e:W.cell? ⟨g,2,O⟩=E (I J 2))(z:Jr w0 n W x s)(A:Jr w0 n W y t)(B:B8 s t=false):
 Calls prog 157 #[x,y,c] W λi a=>i=false/\Below W W a:=by
 obtain⟨j,k,l,G,L,M,S,b,D,-⟩:=z;obtain⟨m,o,p,X,Y,Z,aa,k1,k2,-⟩:=A;have q:=Af (λ(F:U)=>Jk D k2 F);rw[B] at q;go_in;go_upto_region 1 with fail;have r:∀ {a:U},Below W W a->a.cell? c=g/\a.cell? ⟨g,2,O⟩=E (I J 2)/\a.cell? x=s.id/\a.cell? ⟨x,1,O⟩=s.thr/\a.cell? ⟨x,2,O⟩=E (I J 3)/\a.cell? ⟨x,3,O⟩=s.beg/\a.cell? ⟨x,4,O⟩=s.fin/\a.cell? ⟨x,5,O⟩=s.tri/\a.cell? ⟨x,6,O⟩=E (C (E ⟨j,k,O⟩) 2 l)/\a.cell? y=t.id/\a.cell? ⟨y,1,O⟩=t.thr/\a.cell? ⟨y,2,O⟩=E (I J 3)/\a.cell? ⟨y,3,O⟩=t.beg/\a.cell? ⟨y,4,O⟩=t.fin/\a.cell? ⟨y,5,O⟩=t.tri/\a.cell? ⟨y,6,O⟩=E (C (E ⟨m,o,O⟩) 2 p):=λh=>⟨(d.below h d.lt).cell 0,(h.cell (Ad W _ e)).trans e,(b.below h b.lt).cell 0,(b.below h b.lt).cell 1,(b.below h b.lt).cell 2,(b.below h b.lt).cell 3,(b.below h b.lt).cell 4,(b.below h b.lt).cell 5,(b.below h b.lt).cell 6,(k1.below h k1.lt).cell 0,(k1.below h k1.lt).cell 1,(k1.below h k1.lt).cell 2,(k1.below h k1.lt).cell 3,(k1.below h k1.lt).cell 4,(k1.below h k1.lt).cell 5,(k1.below h k1.lt).cell 6⟩;have u:=Af (Zb W).drew
 go_region_held_law (λa=>a.cell? c=g/\a.cell? ⟨g,2,O⟩=E (I J 2)/\a.cell? x=s.id/\a.cell? ⟨x,1,O⟩=s.thr/\a.cell? ⟨x,2,O⟩=E (I J 3)/\a.cell? ⟨x,3,O⟩=s.beg/\a.cell? ⟨x,4,O⟩=s.fin/\a.cell? ⟨x,5,O⟩=s.tri/\a.cell? ⟨x,6,O⟩=E (C (E ⟨j,k,O⟩) 2 l)/\a.cell? y=t.id/\a.cell? ⟨y,1,O⟩=t.thr/\a.cell? ⟨y,2,O⟩=E (I J 3)/\a.cell? ⟨y,3,O⟩=t.beg/\a.cell? ⟨y,4,O⟩=t.fin/\a.cell? ⟨y,5,O⟩=t.tri/\a.cell? ⟨y,6,O⟩=E (C (E ⟨m,o,O⟩) 2 p)) (first|(go_keep;done)|with_reducible exact r u.o|with_reducible exact r v.o) (with_reducible refine(q.o W.drew).mono ?_;rintro i ab ⟨rfl,w⟩;have v:=Af (u.o.trans (w.mono (show W.heap.size<=W.drew.heap.size from Aa _)));clear w)
 go_wp2;go_ret;exact⟨rfl,v.o⟩
theorem Yz{w0 W:U}{d x y:Nat}{s t:St}(e:Ah W c tSf #[.func (.func 155) #[] #[]])(g:Ah W d tAn #[.func (.func 156) #[] #[]])(q:Jr w0 n W x s)(r:Jr w0 n W y t)(u:rv t≠wv s):
 Calls prog 158 #[x,y,c,d] W λi a=>i=false/\Below W W a:=by
 obtain⟨A,B,D,F,j,G,L,b,-,-,-,-,v⟩:=q;obtain⟨M,S,X,k,Y,Z,aa,k1,-,-,-,w,-⟩:=r;have z:=Af<|Yx (W:=W.drew) (fn:=156) (lb:= #[]) v w u;go_in;go_upto_region 1 with fail;have l:∀ {a:U},Below W W a->a.cell? c=E (.func (.func 155) #[] #[])/\a.cell? d=E (.func (.func 156) #[] #[])/\a.cell? ⟨x,10,O⟩=true/\a.cell? ⟨x,8,O⟩=E (.map (E j))/\a.cell? ⟨y,7,O⟩=E (.map (E k)):=λh=>⟨(e.below h e.lt).cell 0,(g.below h g.lt).cell 0,(b.below h b.lt).cell 10,(b.below h b.lt).cell 8,(k1.below h k1.lt).cell 7⟩;have m:=Af (Zb W).drew
 go_region_held_law (λa=>a.cell? c=E (.func (.func 155) #[] #[])/\a.cell? d=E (.func (.func 156) #[] #[])/\a.cell? ⟨x,10,O⟩=true/\a.cell? ⟨x,8,O⟩=E (.map (E j))/\a.cell? ⟨y,7,O⟩=E (.map (E k))) (first|(go_keep;done)|with_reducible exact l m.o|with_reducible exact l o.o) (with_reducible refine z.o.mono ?_;rintro i ab ⟨rfl,p⟩;have o:=Af (m.o.trans (p.mono (show W.heap.size<=W.drew.heap.size from Aa _)));clear p)
 go_wp2;go_ret;exact⟨rfl,o.o⟩
theorem Vk{w0 w:U}{x y:Nat}{s t:St}(j:Ah w c tSf #[.func (.func 155) #[] #[]])(S:Jr w0 n w x s)(W:Jr w0 n w y t)(X:rv t≠wv s):
 Calls prog 159 #[x,y,c] w λp a=>p=false/\Below w w a:=by
 obtain⟨ab,ac,ad,ae,q,af,ag,k,-,-,-,r,u⟩:=S;obtain⟨ah,ai,aj,v,ak,al,am,k1,-,-,-,z,A⟩:=W;have b:=Zc w<|K #[y] Ml;have l:=Af b;have i:=Af<|Ah.new w Ml #[y];have m:=Af<|j.below b j.lt;have e:=Af<|k.below b k.lt;have g:=Af<|k1.below b k1.lt;have Y:=Af<|r.call b;have B:=Af<|u.call b;have D:=Af<|z.call b;have Z:=Af<|A.call b;go_in;go_upto_region 1 with fail;generalize an:w.heap.size=o at i|-;generalize w.alloc (K #[y] Ml)=d at l i m e g Y B D Z|-;have aa:=Af<|Yx (W:=d.drew) (fn:=160) (lb:= #[o]) B.o D.o X;have F:∀ {a:U},Below d d a->a.cell? o=y/\a.cell? c=E (.func (.func 155) #[] #[])/\a.cell? ⟨x,10,O⟩=true/\a.cell? ⟨y,10,O⟩=true/\a.cell? ⟨x,8,O⟩=E (.map (E q))/\a.cell? ⟨y,7,O⟩=E (.map (E v)):=λh=>⟨(i.o.below h i.o.lt).cell 0,(m.o.below h m.o.lt).cell 0,(e.o.below h e.o.lt).cell 10,(g.o.below h g.o.lt).cell 10,(e.o.below h e.o.lt).cell 8,(g.o.below h g.o.lt).cell 7⟩;have G:=Af (Zb d).drew
 go_region_held_law (λa=>a.cell? o=y/\a.cell? c=E (.func (.func 155) #[] #[])/\a.cell? ⟨x,10,O⟩=true/\a.cell? ⟨y,10,O⟩=true/\a.cell? ⟨x,8,O⟩=E (.map (E q))/\a.cell? ⟨y,7,O⟩=E (.map (E v))) (first|(go_keep;done)|with_reducible exact F G.o|with_reducible exact F L.o) (with_reducible refine aa.o.mono ?_;rintro p ao ⟨rfl,M⟩;have L:=Af (G.o.trans (M.mono (show d.heap.size<=d.drew.heap.size from Aa _)));clear M)
 go_wp2;go_ret;exact⟨rfl,l.o.trans (L.o.mono l.o.size)⟩
theorem YA{w0 w:U}{x y:Nat}{s t:St}(k:Ah w c tSf #[.func (.func 155) #[] #[]])(Y:Jr w0 n w x s)(Z:Jr w0 n w y t)(aa:rv t=rv s):
 Calls prog 161 #[x,y,c] w λr a=>r=true/\Below w w a:=by
 obtain⟨ad,ae,af,u,ag,ah,ai,l,-,-,-,v,z⟩:=Y;obtain⟨aj,ak,al,A,am,an,ao,k1,-,-,-,B,D⟩:=Z;have d:=Zc w<|K #[y] Ml;have m:=Af d;have g:=Af<|Ah.new w Ml #[y];have o:=Af<|k.below d k.lt;have i:=Af<|l.below d l.lt;have e:=Af<|k1.below d k1.lt;have F:=Af<|v.call d;have ab:=Af<|z.call d;have G:=Af<|B.call d;have L:=Af<|D.call d;go_in;go_upto_region 1 with fail;generalize ap:w.heap.size=p at g|-;generalize w.alloc (K #[y] Ml)=b at m g o i e F ab G L|-;have q:=G.o;rw[aa] at q;have ac:=Af<|AaZ (W:=b.drew) (fn:=162) (lb:= #[p]) F.o q (λ_ _=>rfl) (λa j=>have j:=(Zb b).drew.trans (j.mono (show b.heap.size<=b.drew.heap.size from Aa _));Ago (g.o.below j g.o.lt) ((e.o.below j e.o.lt).cell 8) (L.o.call j));have M:∀ {a:U},Below b b a->a.cell? p=y/\a.cell? c=E (.func (.func 155) #[] #[])/\a.cell? ⟨x,10,O⟩=true/\a.cell? ⟨y,10,O⟩=true/\a.cell? ⟨x,7,O⟩=E (.map (E u))/\a.cell? ⟨y,7,O⟩=E (.map (E A)):=λh=>⟨(g.o.below h g.o.lt).cell 0,(o.o.below h o.o.lt).cell 0,(i.o.below h i.o.lt).cell 10,(e.o.below h e.o.lt).cell 10,(i.o.below h i.o.lt).cell 7,(e.o.below h e.o.lt).cell 7⟩;have S:=Af (Zb b).drew
 go_region_held_law (λa=>a.cell? p=y/\a.cell? c=E (.func (.func 155) #[] #[])/\a.cell? ⟨x,10,O⟩=true/\a.cell? ⟨y,10,O⟩=true/\a.cell? ⟨x,7,O⟩=E (.map (E u))/\a.cell? ⟨y,7,O⟩=E (.map (E A))) (first|(go_keep;done)|with_reducible exact M S.o|with_reducible exact M W.o) (with_reducible refine ac.o.mono ?_;rintro r aq ⟨rfl,X⟩;have W:=Af (S.o.trans (X.mono (show b.heap.size<=b.drew.heap.size from Aa _)));clear X)
 go_wp2;go_ret;exact⟨rfl,m.o.trans (W.o.mono m.o.size)⟩
abbrev NW:Ab:=241
def BV:Nat->Nat
 |0=>157
 |1=>158
 |2=>159
 |_=>161
def Do(c1 c3 c4:Nat):Nat->Array N
 |0=> #[c1]
 |1=> #[c3,c4]
 |_=> #[c3]
def RuE(W:U)(g c1 c3 c4 R:Nat):Prop:=Ah W c1 tWp #[g]/\Ah W c3 tSf #[.func (.func 155) #[] #[]]/\Ah W c4 tAn #[.func (.func 156) #[] #[]]/\
 Ah W R NW #[I J 1,.func (.func (BV 0)) #[] (Do c1 c3 c4 0),I J 2,.func (.func (BV 1)) #[] (Do c1 c3 c4 1),I J 3,.func (.func (BV 2)) #[] (Do c1 c3 c4 2),I J 4,.func (.func (BV 3)) #[] (Do c1 c3 c4 3)]
theorem RuE.kept{W W':U}{c1 c3 c4 R:Nat}(h:RuE W g c1 c3 c4 R)(a:∀t,AD t W W'):RuE W' g c1 c3 c4 R:=⟨h.1.kept (a _),h.2.1.kept (a _),h.2.2.1.kept (a _),h.2.2.2.kept (a _)⟩
theorem RuE.at{W:U}{c1 c3 c4 R:Nat}(h:RuE W g c1 c3 c4 R)(k:Nat)(a:k<4):W.cell? ⟨R,k*2,O⟩=E (I J ((k:Int)+1))/\W.cell? ⟨R,k*2+1,O⟩=E (.func (.func (BV k)) #[] (Do c1 c3 c4 k)):=by
 match k,a with
 |0,_=>exact⟨h.2.2.2.cell 0,h.2.2.2.cell 1⟩
 |1,_=>exact⟨h.2.2.2.cell 2,h.2.2.2.cell 3⟩
 |2,_=>exact⟨h.2.2.2.cell 4,h.2.2.2.cell 5⟩
 |3,_=>exact⟨h.2.2.2.cell 6,h.2.2.2.cell 7⟩
theorem Vl(W:U)(g:Nat):Calls prog 98 #[g] W λb a=>b=R (C (W+1+1+1:Nat) 4 4)/\RuE a g W (W+1) (W+1+1) (W.heap.size+1+1+1)/\Below W W a:=by
 go_in;go_wp2;go_ret;refine⟨rfl,⟨(((Ah.new W tWp _).alloc _).alloc _).alloc _,?_,?_,?_⟩,((((Ae _ _).alloc (Aa _) _).alloc (by simp) _).alloc (by simp;omega) _).alloc (by simp;omega) _⟩
 .exact((Bo W (K #[g] tWp) tSf #[.func (.func 155) #[] #[]]).alloc _).alloc _
 .have h:=(Ah.new ((W.alloc (K #[g] tWp)).alloc (K #[.func (.func 155) #[] #[]] tSf)) tAn #[.func (.func 156) #[] #[]]);simp only[Eb] at h;exact h.alloc _
 .have h:=(Ah.new (((W.alloc (K #[g] tWp)).alloc (K #[.func (.func 155) #[] #[]] tSf)).alloc (K #[.func (.func 156) #[] #[]] tAn)) NW #[I J 1,.func (.func (BV 0)) #[] (Do W (W+1) (W+1+1) 0),I J 2,.func (.func (BV 1)) #[] (Do W (W+1) (W+1+1) 1),I J 3,.func (.func (BV 2)) #[] (Do W (W+1) (W+1+1) 2),I J 4,.func (.func (BV 3)) #[] (Do W (W+1) (W+1+1) 3)]);simp only[Eb] at h;exact h
theorem YB{w0 W:World}{n g c1 c3 c4 R x y:Nat}{s t:St}{d:Int}(h:RuE W g c1 c3 c4 R)(j:W.cell? ⟨g,2,none⟩=some (.int .i64 2))(a:Jr w0 n W x s)(b:Jr w0 n W y t)(l:B8 s t=false)(m:rv s=d)(e:rv t=d)(o:wv s≠d)(k:Nat)(p:k<4):
 Calls prog (BV k) (#[.pointer (some ⟨x,0,none⟩),.pointer (some ⟨y,0,none⟩)]++Do c1 c3 c4 k) W λq r=>q=.returned (.bool (k==3))/\Below W.heap.size W r:=by
 have i:rv t≠wv s:=by rw[e];exact λu=>o u.symm
 match k,p with
 |0,_=>exact Yy h.1 j a b l
 |1,_=>exact Yz h.2.1 h.2.2.1 a b i
 |2,_=>exact Vk h.2.1 a b i
 |3,_=>exact YA h.2.1 a b (by rw[m,e])
theorem SL(k:Nat)(a:k<4):∀args w,(EB (BV k) args).run prog w=.ok (.enter (BV k) args) w:=λargs w=>by
 match k,a with
 |0,_=>rfl
 |1,_=>rfl
 |2,_=>rfl
 |3,_=>rfl
theorem Jn{W:U}{f:Int->Option N}(h:Az W b n f)(t:Ab):¬Du W b t:=λd=>by
 let⟨g,c,e⟩:=h.obj;obtain⟨i,j,a⟩:=d;rw[e] at a
 cases a
theorem YC:(prog.info? P7).map (λa=>a.size)=E 11:=by kernel_rfl
theorem SM:prog.underlying Ml=E (.pointer P7):=by kernel_rfl
theorem LU(a:Addr)(w:U):(Ec .neq Ml a a).run prog w=.ok false w:=by
 obtain⟨e,d,-⟩:=Eo.1 YC
 have h:∀b:Nat,(HB (b+1) Ml a a).run prog w=.ok true w:=λb=>by
  simp[HB,G7 SM,sizeOf,typeInfo,d,run_sameAddr_same]
 simp only[Ec];simp[EL,EM,h 9999]
theorem YD{x y:Nat}{r e:Array N}{g:Ab}{w:U}(i:x≠y)(j:Ah w x p r)(k:Ah w y g e):(Ec .neq Ml x y).run prog w=.ok true w:=by
 let⟨n,l,m⟩:=Eo.1 YC
 have h:∀d:Nat,(HB (d+1) Ml x y).run prog w=.ok false w:=λd=>by
  simp[HB,G7 SM,sizeOf,typeInfo,l,m,run_sameAddr_other w (a:=x) (b:=y) (by simpa using i) j k]
 simp only[Ec];simp[EL,EM,h 9999]
def EdP(V a:U)(M d n i:Nat)(f j:Int->Option N)(b:Int):Prop:=Ay [M,d] V a/\(∃e,e<=n+1/\Az a M e (VH f b V))/\(f b=O->Az a V 0 AF)/\∃g,V.heap.size<=g/\Az a d (i+1) (AC j b (AX g))
theorem KG{W:U}{M:Nat}{t:Ab}{cs:Array N}{f F:Int->Option N}(h:Ah W g t cs)(b:Az W M n f)(d:Az W k m F):g∉ [M,k]:=λa=>by
 rcases B2.1 a with rfl|a
 .exact Jn b t ⟨_,_,h⟩
 .rw[List.mem_singleton] at a;subst a;exact Jn d t ⟨_,_,h⟩
structure TwT (s t:St) (init:Int):Prop where
 rs:rv s=init
 rt:rv t=init
 ws:wv s≠init
 wt:wv t≠init
 st:B8 s t=false
 ts:B8 t s=false
 ids:0<=s.id/\s.id<=1000
 idt:0<=t.id/\t.id<=1000
 ne:s.id≠t.id
def Zo(W:U)(G:Nat)(a b:Int):Prop:=∃d e g i j k l m,Ah W G Yu #[AX d]/\Az W d k (AC (AC AF a (AX e)) b (AX g))/\Az W e l (AC AF b (AX i))/\Az W g m (AC AF a (AX j))
theorem Adf{w0 W:U}{x y:Nat}{r:Array N}{s t:St}{dr:Int}(ed:WoL w0 n W g m r [x,y] [s,t] dr)(ee:r.size=2)(bd:TwT s t dr)(ef:x≠y):
 Calls prog 56 #[g] W λak ad=>∃ds,ak=R (Q (E ⟨ds,0,O⟩))/\Zo ad ds s.id t.id/\Below W W ad:=by
 obtain⟨fh,fi,f,dt,b2,ab,-,-,-⟩:=ed
 obtain⟨eg,b3,rfl⟩:∃ck aq,r= #[ck,aq]:=by
  obtain⟨eh⟩:=r
  match eh,ee with
  |[ck,aq],_=>exact⟨ck,aq,rfl⟩
 obtain⟨fj,du,rfl⟩:=Ag b2;obtain⟨b4,or,rfl,-,-,b5⟩:=(Ba.of_row (f:=λaq=>[ptr aq]) (l:=[x,y]) b2 (λ_=>rfl) (Hi _)).at (j:=0) rfl;obtain⟨fk,fl,L,-,-,b6⟩:=(Ba.of_row (f:=λaq=>[ptr aq]) (l:=[x,y]) b2 (λ_=>rfl) (Hi _)).at (j:=1) rfl;injection L with L;injection L with ei ej;subst ei ej;have b5:W.cell? ⟨b4,or,O⟩=E (ptr x):=by simpa using b5 0 _ rfl (by decide)
 have b6:W.cell? ⟨b4,or+1,O⟩=E (ptr y):=by simpa using b6 0 _ rfl (by decide)
 have b7:=Af (show Ah W g tWo #[eg,b3,I J 2,C (E ⟨b4,or,O⟩) 2 du,.map (E m)] from by simpa using dt);have ek:=Af<|ab 0 x s rfl rfl;have el:=Af<|ab 1 y t rfl rfl;have b8:=Af<|And.intro b5 b6;have p:=Af bd;have dv:=Af ef;go_in;go_wp2_with fail;refine(Ae1 W).mono ?_;rintro ak b ⟨rfl,cl,cn,co⟩;go_wp2_with fail;refine(Vl b g).mono ?_;rintro ak k ⟨rfl,ae,b9⟩;have dw:=Af<|cl.below b9 cl.lt;have cp:=Af<|cn.below b9 cn.lt;have dx:=Af ae;have ar:=Af<|co.trans (b9.mono co.size);have ca:k.cell? ⟨g,3,O⟩=E (C (E ⟨b4,or,O⟩) 2 du):=(b7.o.below ar b7.o.lt).cell 3;go_upto_region 4 with fail;have cb:=Af (λ(e:U) (h:Below W W e)=>ek.o.below h);have cc:=Af (λ(e:U) (h:Below W W e)=>el.o.below h);have cq:=Af (λ(e:U) (h:Below W W e)=>(h.cell (Ad W _ b8.o.1)).trans b8.o.1);have cr:=Af (λ(e:U) (h:Below W W e)=>(h.cell (Ad W _ b8.o.2)).trans b8.o.2);have cd:=Af (λ(e:U) (h:Below W W e)=>b7.o.below h b7.o.lt);have dy:=ar.o.size;have fm:=Af ar;have fo:=Af dx;refine CO 3 ?_;rw[Aq];have ap:=cq.o _ ar;unfold ptr at ap;obtain⟨fp,fq,fr,fs,ft,fu,fv,cs,-⟩:=cb.o _ ar;have em:k.cell? ⟨x,9,O⟩=true:=cs.cell 9;have en:k.cell? x=s.id:=cs.cell 0;go_wp2_with fail;refine(SK dw cp p.o.ids rfl (by omega)).mono ?_;rintro ak ct ⟨rfl,dz,d0,ce⟩;have fw:=dy;have eo:=Af dz;have ep:=Af d0;have ba:=Af<|ar.o.trans ((ce.below_of (B:=W.heap.size) ar.o.size (λal l=>by simp at l;omega)));have eq:=Af<|dw.o.only ce (by simp);have d1:=Af<|dx.o.kept (λau=>AD.of_only ce (λal l=>by simp at l;subst l;exact Jn cp au));have ca:=(cd.o ct ba).cell 3;have ap:=cq.o _ ba;unfold ptr at ap;have d2:=Af ep;have d3:=Af eo;have d4:=Af eq;go_upto_region 9 with fail;refine CO 3 ?_;rw[Aq];go_upto_region 12 with fail
 go_loopw [46] (λz e=>∃a:Nat,z=(a:Int)/\a<=4/\Below ct ct e) (λz _=>5-(intOf z).toNat)
 case atStart=>exact⟨0,rfl,A9 _,Ae _ _⟩
 case round=>
  obtain⟨a,rfl,ac,d⟩:=hrel;by_cases i:a<4
  .let⟨be,bf⟩:=(d1.o.kept (λt=>AD.below d)).at a i;have A:=ba.o.trans<|d.mono ba.o.size;have D:=A.alloc A.size<|K #[I J ((a:Int)+1),.func (.func (BV a)) #[] (Do b (b+1) (b+1+1) a)] NW;obtain⟨bg,bh,bi,bj,bk,nq,bl,q,-⟩:=cb.o _ D;have av:G5 _ ⟨x,9,O⟩=true:=q.cell 9;have aw:=LU x<|wr.alloc (K #[I J ((a:Int)+1),.func (.func (BV a)) #[] (Do b (b+1) (b+1+1) a)] NW);have F:=Af<|d.alloc d.size (K #[I J ((a:Int)+1),.func (.func (BV a)) #[] (Do b (b+1) (b+1+1) a)] NW);have M:=Af i;have cu:(0:Int)<=(a:Int):=by omega
   have cv:(a:Int)<4:=by omega
   have ax:decide (a<4)=true:=by simpa using i
   go_wp2
   go_roundw
   case rel=>exact⟨a+1,by go_num,M,F⟩
   case measure=>simp[intOf];have:=M.o;omega
  .obtain rfl:a=4:=by omega
   have ax:decide (4<4)=false:=by simp
   have af:=Af<|ba.o.trans (d.mono ba.o.size);have bm:=Af<|d4.o.below d d4.o.lt;have Z:=Af<|d3.o.below d d3.o.lt;have aa:=Af<|d2.o.below d d2.o.lt;have cw:=Af<|d1.o.kept (λt=>AD.below d);go_wp2;generalize wr=cf at af bm Z aa cw|-;rw[Aq];have ay:=cr.o _ af;unfold ptr at ay;have er:=Af (show(AC AF s.id (AX k)) s.id=E (AX k) by simp[AC]);have es:=Af (show∀az,(AC AF s.id (AX k)) t.id=E az->∃al,az=AX al from λaz h=>by unfold AC at h;rw[if_neg (λL=>p.o.ne L.symm)] at h;cases h);have et:=Af (show AF t.id=O from rfl);have eu:=Af (show W.heap.size<=k.heap.size from dy);have d5:=Af (show W.heap.size≠k.heap.size by have:=cp.o.lt;omega);go_upto_region 12 with fail
   go_loopw [46] (λz e=>∃a:Nat,z=(a:Int)/\a<=4/\(a<4->Below cf cf e)/\(a=4->∃bn,Below cf cf bn/\EdP bn e W k (0+1) 0 (AC AF s.id (AX k)) AF t.id)) (λz _=>5-(intOf z).toNat)
   case atStart=>exact⟨0,rfl,A9 _,λ_=>Ae _ _,λh=>by cases h⟩
   case round=>
    obtain⟨a,rfl,ac,a0,a1⟩:=hrel;by_cases i:a<4
    .have d:=a0 i;have ae:=cw.o.kept (λt=>AD.below d);let⟨be,bf⟩:=ae.at a i;have A:=af.o.trans<|d.mono af.o.size;have D:=A.alloc A.size<|K #[I J ((a:Int)+1),.func (.func (BV a)) #[] (Do b (b+1) (b+1+1) a)] NW;have am:=Af<|cb.o _ D;have an:=Af<|cc.o _ D;obtain⟨cx,cy,cz,c0,c1,c2,c3,S,-⟩:=am.o;obtain⟨bg,bh,bi,bj,bk,nq,bl,q,-⟩:=an.o;have aw:=YD dv S q;have av:G5 _ ⟨y,9,O⟩=true:=q.cell 9;have F:=Af<|d.alloc d.size (K #[I J ((a:Int)+1),.func (.func (BV a)) #[] (Do b (b+1) (b+1+1) a)] NW);have bo:=Af<|ae.kept (λt=>AD.below (Zc wr (K #[I J ((a:Int)+1),.func (.func (BV a)) #[] (Do b (b+1) (b+1+1) a)] NW)));have G:=Af<|Ah.new wr NW #[I J ((a:Int)+1),.func (.func (BV a)) #[] (Do b (b+1) (b+1+1) a)];have bp:=Af D;have M:=Af i;have cu:(0:Int)<=(a:Int):=by omega
     have cv:(a:Int)<4:=by omega
     have ax:decide (a<4)=true:=by simpa using i
     have ev:=SL a i;go_upto_region 14 with fail;generalize wr.heap.size=a2 at G|-;generalize wr.alloc (K #[I J ((a:Int)+1),.func (.func (BV a)) #[] (Do b (b+1) (b+1+1) a)] NW)=c4 at G bp bo F am an aw av|-;have c5:=G.o.cell 1;go_wp2_with fail;refine(YB bo ((cd.o c4 bp).cell 2) am an p.o.st p.o.rs p.o.rt p.o.ws a M).mono ?_;rintro ak X ⟨rfl,bq⟩;have Y:=Af bq
     cases ao:(a==3)
     case false=>
      have c6:=Af (show a≠3 by simpa using ao);go_wp2
      go_roundw
      case rel=>exact⟨a+1,by go_num,M,λ_=>F.o.trans (Y.o.mono F.o.size),λh=>absurd h (by have:=c6.o;omega)⟩
      case measure=>simp[intOf];have:=M.o;omega
     case true=>
      obtain rfl:a=3:=by simpa using ao
      have o:=Af<|F.o.trans (Y.o.mono F.o.size);have ew:=Af<|af.o.trans (o.o.mono af.o.size);obtain⟨cx,cy,cz,c0,c1,c2,c3,S,-⟩:=am.o.below Y;obtain⟨bg,bh,bi,bj,bk,nq,bl,q,-⟩:=an.o.below Y;have a3:X.cell? x=s.id:=S.cell 0;have a4:X.cell? y=t.id:=q.cell 0;have a5:X.cell? a2=E (I J 4):=(G.o.below Y G.o.lt).cell 0;have c7:=Af S;have c8:=Af q;have c9:=Af<|G.o.below Y G.o.lt;have br:=AbN (w:=X.drew) (kind:=4) (bm.o.below o bm.o.lt).drew (Z.o.below o Z.o.lt).drew (by decide) p.o.ids p.o.idt (by decide) p.o.ne er es (aa.o.below o aa.o.lt).drew (by decide) et d5;have da:=Af br;have bs:=KG c7.o.drew (Z.o.below o Z.o.lt).drew (aa.o.below o aa.o.lt).drew;have bt:=KG c8.o.drew (Z.o.below o Z.o.lt).drew (aa.o.below o aa.o.lt).drew;have ag:=KG c9.o.drew (Z.o.below o Z.o.lt).drew (aa.o.below o aa.o.lt).drew;have db:=Af (λ(e:U) (h:Ay [W.heap.size,k.heap.size] X.drew e)=>(⟨h.cell a3 bs,h.cell a4 bt,h.cell a5 ag⟩:e.cell? x=s.id/\e.cell? y=t.id/\e.cell? a2=E (I J 4)));go_wp2
      go_region_held_law (λad=>ad.cell? x=s.id/\ad.cell? y=t.id/\ad.cell? a2=E (I J 4)) (first|(go_keep;done)|with_reducible exact⟨a3,a4,a5⟩|with_reducible exact bu) (with_reducible refine da.o.mono ?_;rintro ak dc ⟨rfl,a6,bv,bw,bz⟩;have dd:=Af (And.intro a6 (And.intro bv (And.intro bw bz)));have bu:=db.o dc a6;clear a6 bv bw bz)
      go_wp2
      go_roundw
      case rel=>exact⟨4,by go_num,Aa _,λh=>absurd h (IC _),λ_=>⟨X.drew,o.o.drew,dd⟩⟩
      case measure=>simp[intOf]
    .obtain rfl:a=4:=by omega
     have ax:decide (4<4)=false:=by simp
     let⟨v,u,ah,⟨d6,ag,b0⟩,cg,ex,de,b1⟩:=a1 rfl;have a7:=bm.o.below u bm.o.lt;have ab:=Z.o.below u Z.o.lt;have a8:=aa.o.below u aa.o.lt
     have bb:=Af (af.o.trans ((u.mono af.o.size).trans (ah.below_of (B:=W.heap.size) (A8 af.o.size u.size) (λal l=>by
      rcases B2.1 l with rfl|l
      .exact Aa _
      .rw[List.mem_singleton] at l;subst l;exact eu.o))))
     have df:=Af<|a7.only ah (KG a7 ab a8)
     have d7:=Af ((cw.o.kept (λt=>AD.below u)).kept (λau=>AD.of_only ah (λal l=>by
      rcases B2.1 l with rfl|l
      .exact Jn ab au
      .rw[List.mem_singleton] at l;subst l;exact Jn a8 au)))
     have dh:=Af (show Az wr W d6 (AC (AC AF s.id (AX k)) t.id (AX v)) from by
      have di:=b0
      rwa [show VH (AC AF s.id (AX k)) t.id v.heap.size=(AC (AC AF s.id (AX k)) t.id (AX v)) from by
       unfold VH;rw[show AC AF s.id (AX k) t.id=O from by unfold AC;rw[if_neg (λL=>p.o.ne L.symm)];rfl]] at di)
     have dj:=Af<|cg (by unfold AC;rw[if_neg (λL=>p.o.ne L.symm)];rfl);have dk:=Af b1;have ey:=Af (show W.heap.size<=v.heap.size from A8 af.o.size u.size);have ez:=Af (show W.heap.size≠v.heap.size by have b3:=u.size;have bd:=Z.o.lt;omega);have e0:=Af (show k.heap.size≠v.heap.size by have b3:=u.size;have bd:=aa.o.lt;omega);have d8:=Af (show(AC (AC AF s.id (AX k)) t.id (AX v)) t.id=E (AX v) by simp[AC]);have e1:=Af (show∀az,(AC (AC AF s.id (AX k)) t.id (AX v)) s.id=E az->∃al,az=AX al from λaz h=>⟨k.heap.size,by unfold AC at h;rw[if_neg p.o.ne,if_pos rfl] at h;exact(Option.some.inj h).symm⟩);have e2:=Af (show AF s.id=O from rfl);have e3:=Af ag;have e4:=Af (show v.heap.size<wr.heap.size from dj.o.lt);go_wp2;rw[Aq];go_wp2;rw[Aq];generalize wr=ch at bb df d7 dh dj dk e4|-;have ay:=cr.o _ bb;unfold ptr at ay;have ca:=(cd.o ch bb).cell 3;obtain⟨fx,fy,fz,f0,f1,f2,f3,dl,-⟩:=cc.o ch bb;have e5:ch.cell? ⟨y,9,O⟩=true:=dl.cell 9;have e6:ch.cell? y=t.id:=dl.cell 0;go_wp2_with fail;refine(NR df dh p.o.idt d8).mono ?_;rintro ak ci ⟨rfl,rfl⟩;have a9:=bb;have cj:=df;have d9:=d7;have ai:=dh;have aj:=dj;have e7:=d8;have e8:=e1;have e9:=e2;have fa:=ez;have fb:=ey;go_upto_region 9 with fail;refine CO 3 ?_;rw[Aq];have ap:=cq.o _ bb;unfold ptr at ap;go_upto_region 12 with fail
     go_loopw [46] (λz e=>∃a:Nat,z=(a:Int)/\a<=4/\(a<4->Below ci ci e)/\(a=4->∃bn,Below ci ci bn/\EdP bn e W v d6 0 (AC (AC AF s.id (AX k)) t.id (AX v)) AF s.id)) (λz _=>5-(intOf z).toNat)
     case atStart=>exact⟨0,rfl,A9 _,λ_=>Ae _ _,λh=>by cases h⟩
     case round=>
      obtain⟨a,rfl,ac,a0,a1⟩:=hrel;by_cases i:a<4
      .have d:=a0 i;have ae:=d9.o.kept (λt=>AD.below d);let⟨be,bf⟩:=ae.at a i;have A:=a9.o.trans<|d.mono a9.o.size;have D:=A.alloc A.size<|K #[I J ((a:Int)+1),.func (.func (BV a)) #[] (Do b (b+1) (b+1+1) a)] NW;have am:=Af<|cc.o _ D;have an:=Af<|cb.o _ D;obtain⟨cx,cy,cz,c0,c1,c2,c3,S,-⟩:=am.o;obtain⟨bg,bh,bi,bj,bk,nq,bl,q,-⟩:=an.o;have aw:=YD (λL=>dv.o L.symm) S q;have av:G5 _ ⟨x,9,O⟩=true:=q.cell 9;have F:=Af<|d.alloc d.size (K #[I J ((a:Int)+1),.func (.func (BV a)) #[] (Do b (b+1) (b+1+1) a)] NW);have bo:=Af<|ae.kept (λt=>AD.below (Zc wr (K #[I J ((a:Int)+1),.func (.func (BV a)) #[] (Do b (b+1) (b+1+1) a)] NW)));have G:=Af<|Ah.new wr NW #[I J ((a:Int)+1),.func (.func (BV a)) #[] (Do b (b+1) (b+1+1) a)];have bp:=Af D;have M:=Af i;have cu:(0:Int)<=(a:Int):=by omega
       have cv:(a:Int)<4:=by omega
       have ax:decide (a<4)=true:=by simpa using i
       have ev:=SL a i;go_upto_region 14 with fail;generalize wr.heap.size=a2 at G|-;generalize wr.alloc (K #[I J ((a:Int)+1),.func (.func (BV a)) #[] (Do b (b+1) (b+1+1) a)] NW)=c4 at G bp bo F am an aw av|-;have c5:=G.o.cell 1;go_wp2_with fail;refine(YB bo ((cd.o c4 bp).cell 2) am an p.o.ts p.o.rt p.o.rs p.o.wt a M).mono ?_;rintro ak X ⟨rfl,bq⟩;have Y:=Af bq
       cases ao:(a==3)
       case false=>
        have c6:=Af (show a≠3 by simpa using ao);go_wp2
        go_roundw
        case rel=>exact⟨a+1,by go_num,M,λ_=>F.o.trans (Y.o.mono F.o.size),λh=>absurd h (by have:=c6.o;omega)⟩
        case measure=>simp[intOf];have:=M.o;omega
       case true=>
        obtain rfl:a=3:=by simpa using ao
        have o:=Af<|F.o.trans (Y.o.mono F.o.size);have ew:=Af<|a9.o.trans (o.o.mono a9.o.size);obtain⟨cx,cy,cz,c0,c1,c2,c3,S,-⟩:=am.o.below Y;obtain⟨bg,bh,bi,bj,bk,nq,bl,q,-⟩:=an.o.below Y;have a3:X.cell? y=t.id:=S.cell 0;have a4:X.cell? x=s.id:=q.cell 0;have a5:X.cell? a2=E (I J 4):=(G.o.below Y G.o.lt).cell 0;have c7:=Af S;have c8:=Af q;have c9:=Af<|G.o.below Y G.o.lt;have br:=AbN (w:=X.drew) (kind:=4) (cj.o.below o cj.o.lt).drew (ai.o.below o ai.o.lt).drew (by have:=e3.o;omega) p.o.idt p.o.ids (by decide) (λL=>p.o.ne L.symm) e7 e8 (aj.o.below o aj.o.lt).drew (by decide) e9 fa;have da:=Af br;have bs:=KG c7.o.drew (ai.o.below o ai.o.lt).drew (aj.o.below o aj.o.lt).drew;have bt:=KG c8.o.drew (ai.o.below o ai.o.lt).drew (aj.o.below o aj.o.lt).drew;have ag:=KG c9.o.drew (ai.o.below o ai.o.lt).drew (aj.o.below o aj.o.lt).drew;have db:=Af (λ(e:U) (h:Ay [W.heap.size,v.heap.size] X.drew e)=>(⟨h.cell a3 bs,h.cell a4 bt,h.cell a5 ag⟩:e.cell? y=t.id/\e.cell? x=s.id/\e.cell? a2=E (I J 4)));go_wp2
        go_region_held_law (λad=>ad.cell? y=t.id/\ad.cell? x=s.id/\ad.cell? a2=E (I J 4)) (first|(go_keep;done)|with_reducible exact⟨a3,a4,a5⟩|with_reducible exact bu) (with_reducible refine da.o.mono ?_;rintro ak dc ⟨rfl,a6,bv,bw,bz⟩;have dd:=Af (And.intro a6 (And.intro bv (And.intro bw bz)));have bu:=db.o dc a6;clear a6 bv bw bz)
        go_wp2
        go_roundw
        case rel=>exact⟨4,by go_num,Aa _,λh=>absurd h (IC _),λ_=>⟨X.drew,o.o.drew,dd⟩⟩
        case measure=>simp[intOf]
      .obtain rfl:a=4:=by omega
       have ax:decide (4<4)=false:=by simp
       let⟨fc,u,ah,⟨fd,ag,b0⟩,cg,fe,de,b1⟩:=a1 rfl;have a7:=cj.o.below u cj.o.lt;have ab:=ai.o.below u ai.o.lt;have a8:=aj.o.below u aj.o.lt
       have bc:=Af (a9.o.trans ((u.mono a9.o.size).trans (ah.below_of (B:=W.heap.size) (A8 a9.o.size u.size) (λal l=>by
        rcases B2.1 l with rfl|l
        .exact Aa _
        .rw[List.mem_singleton] at l;subst l;exact fb.o))))
       have dm:=Af<|a7.only ah (KG a7 ab a8)
       have ea:=Af ((d9.o.kept (λt=>AD.below u)).kept (λau=>AD.of_only ah (λal l=>by
        rcases B2.1 l with rfl|l
        .exact Jn ab au
        .rw[List.mem_singleton] at l;subst l;exact Jn a8 au)))
       have dn:=Af (show Az wr W fd (AC (AC AF s.id (AX k)) t.id (AX v)) from by
        have di:=b0
        rwa [show VH (AC (AC AF s.id (AX k)) t.id (AX v)) s.id fc.heap.size=(AC (AC AF s.id (AX k)) t.id (AX v)) from by
         unfold VH;rw[show(AC (AC AF s.id (AX k)) t.id (AX v)) s.id=E (AX k) from by unfold AC;rw[if_neg p.o.ne,if_pos rfl]]] at di)
       have dp:=Af b1
       have eb:=(dk.o.below u (ED dk.o.lt (Aa _))).only ah (by
        have b3:=d5.o;have bd:=e0.o;simp;omega)
       have dq:=Af eb;go_wp2;rw[Aq];generalize wr=ec at bc dm ea dn dp dq|-;have ay:=cr.o _ bc;unfold ptr at ay;go_upto_region 12 with fail
       go_loopw [46] (λz e=>∃a:Nat,z=(a:Int)/\a<=4/\Below ec ec e) (λz _=>5-(intOf z).toNat)
       case atStart=>exact⟨0,rfl,A9 _,Ae _ _⟩
       case round=>
        obtain⟨a,rfl,ac,d⟩:=hrel;by_cases i:a<4
        .let⟨be,bf⟩:=(ea.o.kept (λt=>AD.below d)).at a i;have A:=bc.o.trans<|d.mono bc.o.size;have D:=A.alloc A.size<|K #[I J ((a:Int)+1),.func (.func (BV a)) #[] (Do b (b+1) (b+1+1) a)] NW;obtain⟨bg,bh,bi,bj,bk,nq,bl,q,-⟩:=cc.o _ D;have av:G5 _ ⟨y,9,O⟩=true:=q.cell 9;have aw:=LU y<|wr.alloc (K #[I J ((a:Int)+1),.func (.func (BV a)) #[] (Do b (b+1) (b+1+1) a)] NW);have F:=Af<|d.alloc d.size (K #[I J ((a:Int)+1),.func (.func (BV a)) #[] (Do b (b+1) (b+1+1) a)] NW);have M:=Af i;have cu:(0:Int)<=(a:Int):=by omega
         have cv:(a:Int)<4:=by omega
         have ax:decide (a<4)=true:=by simpa using i
         go_wp2
         go_roundw
         case rel=>exact⟨a+1,by go_num,M,F⟩
         case measure=>simp[intOf];have:=M.o;omega
        .obtain rfl:a=4:=by omega
         have ax:decide (4<4)=false:=by simp
         have ff:=Af<|bc.o.trans (d.mono bc.o.size);have fg:=Af (show Zo wr (W+1) s.id t.id from⟨W.heap.size,k.heap.size,v.heap.size,ex,fe,_,_,_,dm.o.below d dm.o.lt,dn.o.below d dn.o.lt,dq.o.below d dq.o.lt,dp.o.below d dp.o.lt⟩);go_wp2;rw[Aq];go_wp2;rw[Aq];go_wp2;go_ret;exact⟨_,rfl,fg,ff⟩
theorem YE{W:U}{f:Int->Option N}{k:Int}(a:Ah W c Mk #[AX g])(b:Az W g n f)(e:0<=k/\k<=1000)(d:f k=E (I J 1)):
 Calls prog 103 #[k,c] W λi j=>i=false/\j=W:=by
 have m:W.cell? c=E (.map (E g)):=a.cell 0
 have o:(B1 Mk (.map (E g)) k false).run prog W=.ok (I J 1) W:=by
  have l:=b.look Bh (Dx _) (k:=k) (by omega) (by omega);rwa [d] at l
 go_in;go_wp2;go_ret;exact⟨rfl,rfl⟩
theorem Adg{W:World}{R o cp fn:Nat}{lb:Array Value}{a b:Int}(m:W.cell? ⟨R,o,none⟩=some (.int .i64 a))(n:W.cell? ⟨R,o+1,none⟩=some (.int .i64 b))(p:∀args w,(EB fn args).run prog w=.ok (.enter fn args) w)
 (g:Calls prog fn (#[.int .i64 a]++lb) W λd e=>d=.returned (.bool false)/\e=W) (i:Calls prog fn (#[.int .i64 b]++lb) W λd e=>d=.returned (.bool false)/\e=W):
 Calls prog 102 #[.slice (some ⟨R,o,none⟩) 2 cp,.func (.func fn) #[] lb] W λd e=>d=.returned (.int .i64 (-1))/\e=W:=by
 have j:=Af g;have k:=Af i;go_in;go_upto_region 2 with fail;refine CO 3 ?_;rw[Aq];go_wp2_with fail;refine j.o.mono ?_;rintro d l ⟨rfl,rfl⟩;go_wp2;rw[Aq];go_wp2_with fail;refine k.o.mono ?_;rintro d l ⟨rfl,rfl⟩;go_wp2;rw[Aq];go_wp2;go_ret;exact⟨rfl,rfl⟩
section
open Go.Sort Go.Shelf
theorem YF{W:U}{G M:Nat}{f:Int->Option N}(p:Ah W G Yu #[AX M])(h:Az W M n f)(l:List Int)(j:l.Pairwise (· < ·))(q:∀x,x∈l↔(f x).isSome=true)(r:l.length<1000):
 Calls prog 101 #[G] W λz b=>∃e,z=R e/\b.ownsRow W 3 1 e l.length (l.map encZ)/\Below W W b:=by
 let⟨g,t,u,v⟩:=h.keys l (j.imp (λh=>Um h)) q
 have A:∀a:List Int,a.Perm (intKeys g)->(a.mergeSort (λx d=>decide (x<=d)))=l:=λa k=>by
  rw[show a.mergeSort (λx d=>decide (x<=d))=l.mergeSort (λx d=>decide (x<=d)) from mergeSort_of_perm_i (k.trans u.symm)];exact K1<|j.imp (λh=>by simpa using Un h)
 have B:=t.lt;have D:=p.cell 0;unfold AX at D;refine(Dh (n:=6)).1 ?_
 have F:SeqGives Ed 2 prog 236 #[W] encZ (λa=>a.Perm (intKeys g)) (H4 g) (W.alloc (K #[.map (E M)] 243)):=
  J5 (ρ:=Tryz.zqf) {Tryz.keysA with} Ed _ trivial rfl (by omega) W M n g _ (by simp) (by simp) (by
   obtain⟨L,S,m,X,r,Y⟩:=t;exact⟨L,S,(ER _ _ M B).trans m,X,r,Y⟩)
 have Z:∀i W,CallsIn Ed 5 prog 164 #[.map i] W λo b=>o=R (.func (.func 236) #[] #[Q (E ⟨W.heap.size,0,O⟩)])/\b=W.alloc (K #[.map i] 243):=λi W=>J4 Tryz.keysA Ed 5 trivial rfl i W;have w:=KX Tryz.sortedA Ed 5 trivial trivial trivial trivial rfl (by omega) (NG _) (Eg func235 (by kernel_rfl) rfl) 236 #[W] trivial (Eg func236 (by kernel_rfl) rfl) _ _ (by rw[v];unfold Al;omega) (by rw[v];omega) _ F
 change CallsIn _ _ prog 163 _ _ _ at w
 have ac:Fence.wide.fn 164:=trivial;have ad:Fence.wide.fn 163:=trivial;refine callsIn_of_wp func101 rfl trivial ?_ rfl;simp only[ntmps101,EQ,C4,Em,Nat.reduceAdd,Nat.reduceSub,Fy,Fz,FE,FV,Es,Ez]
 gi_wp2_with (first
  |(gi_at_call 164;refine(Z _ _).mono ?_;rintro o b ⟨rfl,rfl⟩)
  |(gi_at_call 163;refine w.mono ?_;rintro o b ⟨e,a,rfl,y,aa,ae,m⟩))
 go_ret;have ab:a.length=l.length:=y.length_eq.trans u.length_eq.symm;refine⟨e,rfl,?_,((Ae _ W).alloc (Aa _) _).trans (m.mono (by simp))⟩;have k:=ownsRow_base_a aa (base':=W.heap.size) (by simp);rwa [A a y,ab] at k
theorem Agp{W:U}{G M:Nat}{F f:Int->Option N}{k:Int}(t:Ah W G Yu #[AX g])(u:Az W g m F)(S:0<=k/\k<=1000)(v:F k=E (AX M))(h:Az W M n f)(l:List Int)(p:l.Pairwise (· < ·))(w:∀x,x∈l↔(f x).isSome=true)(y:l.length<1000):
 Calls prog 106 #[G,k] W λX b=>∃i,X=R i/\b.ownsRow W 3 1 i l.length (l.map encZ)/\Below W W b:=by
 let⟨j,z,A,B⟩:=h.keys l (p.imp (λh=>Um h)) w
 have Y:∀a:List Int,a.Perm (intKeys j)->(a.mergeSort (λx d=>decide (x<=d)))=l:=λa e=>by
  rw[show a.mergeSort (λx d=>decide (x<=d))=l.mergeSort (λx d=>decide (x<=d)) from mergeSort_of_perm_i (e.trans A.symm)];exact K1<|p.imp (λh=>by simpa using Un h)
 have aj:(B1 tM3 (.map (E g)) k false).run prog W=.ok (.map (E M)) W:=by
  have e:=u.look CZ (LS _) (k:=k) (by omega) (by omega);rwa [v] at e
 have Z:=z.lt;have aa:=t.cell 0;unfold AX at aa;refine(Dh (n:=6)).1 ?_
 have ab:SeqGives Ed 2 prog 237 #[W] encZ (λa=>a.Perm (intKeys j)) (H4 j) (W.alloc (K #[.map (E M)] 246)):=
  J5 (ρ:=Tryz.zqc) {Tryz.keysB with} Ed _ trivial rfl (by omega) W M n j _ (by simp) (by simp) (by
   obtain⟨ac,ad,q,ae,y,af⟩:=z;exact⟨ac,ad,(ER _ _ M Z).trans q,ae,y,af⟩)
 have ag:∀o W,CallsIn Ed 5 prog 165 #[.map o] W λr b=>r=R (.func (.func 237) #[] #[Q (E ⟨W.heap.size,0,O⟩)])/\b=W.alloc (K #[.map o] 246):=λo W=>J4 Tryz.keysB Ed 5 trivial rfl o W;have D:=KX Tryz.sortedA Ed 5 trivial trivial trivial trivial rfl (by omega) (NG _) (Eg func235 (by kernel_rfl) rfl) 237 #[W] trivial (Eg func237 (by kernel_rfl) rfl) _ _ (by rw[B];unfold Al;omega) (by rw[B];omega) _ ab
 change CallsIn _ _ prog 163 _ _ _ at D
 have ak:Fence.wide.fn 165:=trivial;have al:Fence.wide.fn 163:=trivial;refine callsIn_of_wp func106 rfl trivial ?_ rfl;simp only[ntmps106,EQ,C4,Em,Nat.reduceAdd,Nat.reduceSub,Fy,Fz,FE,FV,Es,Ez]
 gi_wp2_with (first
  |(gi_at_call 165;refine(ag _ _).mono ?_;rintro r b ⟨rfl,rfl⟩)
  |(gi_at_call 163;refine D.mono ?_;rintro r b ⟨i,a,rfl,L,ah,am,q⟩))
 go_ret;have ai:a.length=l.length:=L.length_eq.trans A.length_eq.symm;refine⟨i,rfl,?_,((Ae _ W).alloc (Aa _) _).trans (q.mono (by simp))⟩;have e:=ownsRow_base_a ah (base':=W.heap.size) (by simp);rwa [Y a L,ai] at e
end
theorem Zo.two{W:U}{G:Nat}{a b:Int}(h:Zo W G a b)(Z:a<b):∃k m f,Ah W G Yu #[AX k]/\Az W k m f/\(∀d,d∈[a,b]↔(f d).isSome=true)/\∀d,(f d).isSome=true->∃g,g≠d/\(∀e,(f e).isSome=true↔(e=d∨e=g))/\((d=a/\g=b)∨(d=b/\g=a))/\∃n z Nx o A B,f d=E (AX n)/\f g=E (AX o)/\Az W n z (AC AF g (AX Nx))/\Az W o A (AC AF d (AX B)):=by
 obtain⟨k,i,j,p,q,m,r,t,D,F,u,v⟩:=h;have w:b≠a:=by omega
 have l:∀d,(AC (AC AF a (AX i)) b (AX j) d).isSome=true↔(d=a∨d=b):=λd=>by
  unfold AC AF;by_cases L:d=a<;>by_cases M:d=b<;>by_cases S:a=b<;>simp[L,M,S]
 have x:AC (AC AF a (AX i)) b (AX j) a=E (AX i):=by unfold AC;rw[if_neg (by omega),if_pos rfl]
 have y:AC (AC AF a (AX i)) b (AX j) b=E (AX j):=by unfold AC;rw[if_pos rfl]
 refine⟨k,m,_,D,F,λd=>by rw[l d];simp,λd X=>?_⟩;rcases (l d).1 X with rfl|rfl
 .exact⟨b,w,λe=>l e,.inl ⟨rfl,rfl⟩,i,r,p,j,t,q,x,y,u,v⟩
 .exact⟨a,λY=>w Y.symm,λe=>by rw[l e];exact Or.comm,.inr ⟨rfl,rfl⟩,j,t,q,i,r,p,y,x,v,u⟩
theorem Dp{u:N}{y:Int}{v:N}(h:AC AF x u y=v):y=x/\v=u:=by
 unfold AC AF at h
 split at h
 .next a=>exact⟨a,(Option.some.inj h).symm⟩
 .cases h
theorem YG{y z:Int}{v:N}(h:z=x∨z=y):AC (AC AF y v) x v z=v:=by
 unfold AC
 split
 .rfl
 .rcases h with a|a
  .contradiction
  .rw[if_pos a]
theorem Ae2{W:U}{G:Nat}{a b:Int}(h:Zo W G a b)(bh:a<b)(b5:0<=a)(b6:b<=1000):
 Calls prog 57 #[G] W λZ c9=>Z=R (.tuple #[C O 0 0,false])/\Below W W c9:=by
 let⟨bi,d3,f,a7,a8,b7,b8⟩:=h.two bh;have b9:=Af a7;have ca:=Af a8;have bj:=Af b7;have da:=Af b8;have y:=Af<|And.intro bh (And.intro b5 b6);have S:=Af<|And.intro a7.lt a8.lt;have d4:= @EC prog;have cb:((W.alloc (.map #[] 0)).alloc (K #[.map (E W)] Mk)).cell? G=E (.map (E bi)):=((a7.alloc _).alloc _).cell 0;have cc:=(a8.alloc (.map #[] 0)).alloc<|K #[.map (E W)] Mk;clear h a7 a8 b7 b8 bh b5 b6;go_in;go_wp2_with (at_range;refine AW rfl _ _ _ rfl CZ rfl cc ?_;intro cd d5 X a9 bk;generalize ce:((W.alloc (.map #[] 0)).alloc (K #[.map (E W)] Mk)).heap.size=Z at X bk|-);have db:=Af<|((Az.made W).alloc (K #[.map (E W)] Mk)).grown a9 (by simp);have dc:=Af (show Ah cd (W+1) Mk #[.map (E W)] from by simpa using ((Ah.new (W.alloc (.map #[] 0)) Mk #[.map (E W)]).below ((Ae _ _).grown a9 (Aa _) (λe d=>by cases d)) (by simp)));have dd:=Af<|((Zc W (.map #[] 0)).alloc (by simp) (K #[.map (E W)] Mk)).grown a9 (by simp;omega) (λe d=>by cases d);have de:=Af X;have df:Z=W.heap.size+2:=by rw[<-ce];simp
 subst df;have cf:=Af (show W.heap.size+3<=cd.heap.size by rw[bk];omega);clear X a9 bk cc cb ce
 go_frame
 refine CO 4 ?_;rw[Aq];have X:=de.o;go_wp2_with (at_next;refine AH rfl _ rfl rfl X ?_ ?_)
 .intro z;have q:=(bj.o a).1 (by simp);rw[show f a=O by simpa using z a] at q
  cases q
 intro e aa ab dh n Y ac bl u ad bm;let⟨k,cg,ba,ch,di,d6,Nx,dj,d7,d8,bn,ci,cj,ck⟩:=da.o e (by rw[n];rfl);obtain rfl:aa=AX di:=Option.some.inj<|n.symm.trans bn;have cl:=Af (show ¬e=k from λg=>cg g.symm);have bo:=Af ba;have bp:=Af ch;have dk:=Af ci;have cn:=Af cj;have co:=Af ck;have d9:=Af bn;clear cg ba ch bn ci cj ck n Y bl;have A:=Af<|dd.o.grown u (by have:=cf.o;omega) (λe d=>by cases d;omega);have ae:=Af<|db.o.grown u (by simp);have af:=Af<|dc.o.grown u (by simp);have ag:=Af ac;have v:=Af (show W.heap.size+3<=ab.heap.size by rw[ad];exact cf.o);have ah:=cn.o.call A;clear u ad ac X;go_wp2_with (at_range;refine AW rfl _ _ _ rfl Fl rfl ah ?_;intro bq dl ai r aj);have ak:=Af<|A.o.grown r (by have:=v.o;omega) (λe d=>by cases d);have al:=Af<|ae.o.grown r (by simp);have am:=Af<|af.o.grown r (by simp);have an:=Af<|ag.o.kept r (by simp) (by simp);have B:=Af (show W.heap.size+3<=bq.heap.size by rw[aj];have:=v.o;omega);have m:=Af (show W.heap.size+3<=ab.heap.size from v.o);clear r aj ah bm
 go_frame
 refine CO 3 ?_;rw[Aq];go_wp2_with (at_next;refine AH rfl _ rfl rfl ai ?_ ?_)
 .intro z;exact absurd (z k) (by simp[AC])
 intro dm br w dn ao bs ap bt t aq bu;let⟨i,p⟩:=Dp ao;have i:=i.symm;subst i p;have ar:=Af<|ak.o.grown t (by have:=B.o;omega) (λe d=>by cases d;have:=m.o;omega);have D:=Af<|al.o.grown t (by simp;have:=m.o;omega);have F:=Af<|am.o.grown t (by simp;have:=m.o;omega);have au:=Af<|an.o.kept t (by simp;have:=S.o;have:=m.o;omega) (by simp;have:=m.o;omega);have L:=Af (show W.heap.size+3<=w.heap.size by rw[aq];exact B.o);have av:=Af<|ap;clear ao bs t aq bt ai ap;have bv:w.cell? (W+1:Nat)=E (.map (E W)):=F.o.cell 0;have x:=Af (show 0<=k/\k<=1000 by have q:=y.o;rcases bp.o with ⟨i,p⟩|⟨i,p⟩<;>omega)
 have bw:(B1 Mk (.map (E W)) k false).run prog w=.ok () w:=by
  have q:=D.o.look Bh (Dx _) (k:=k) (by have:=x.o;omega) (by have:=x.o;omega);rwa [show AF k=O from rfl] at q
 let⟨aw,ax,ay,o⟩:=D.o.put Bh (by decide) (k:=k) (by have:=x.o;omega) (by have:=x.o;omega)<|I J 1;have az:=Af<|ar.o.grown o.grown (by have:=L.o;omega) (λe d=>by cases d;exact Aa _);have a0:=Af ay;have a1:=Af<|F.o.grown o.grown (by simp);have a2:=Af<|au.o.kept o.grown (by simp;have:=S.o;omega) (by simp);have a3:=Af<|av.o.kept o.grown (by simp;have:=cn.o.lt;omega) (by simp;have:=m.o;omega);have a4:=Af (show W.heap.size+3<=aw.heap.size from A8 L o.grown.size);clear ay o;go_wp2;rw[Aq];have a5:=a3.o;clear bv bw ax bu;go_wp2_with (at_next;refine AH rfl _ rfl rfl a5 ?_ ?_)
 rotate_left
 .intro dp br cq cr n Y d;obtain⟨i,-⟩:=Dp n;exact absurd i d
 intro _;clear a5;go_wp2;have cs:=az;have ct:=a0;have cu:=a1;have cv:=a2;have bz:=a4;generalize aw=ea at cs ct cu cv bz|-;clear az a0 a1 a2 a4 a3 av ar D F au L ak al am an B m A ae af ag v;rw[Aq];have cw:=cv.o;go_wp2_with (at_next;refine AH rfl _ rfl rfl cw ?_ ?_)
 .intro z;have q:=z k;have cx:=(bo.o k).2<|.inr rfl;have dq:=cl.o
  cases cy:f k with
  |none=>rw[cy] at cx;cases cx
  |some aa=>exact absurd (z k (by simp[cy])) (λg=>dq g.symm)
 intro cz aa ab dh n Y d ac bl u ad bm
 have c0:cz=k:=by
  rcases (bo.o cz).1 (by rw[n];rfl) with g|g
  .exact absurd g d
  .exact g
 have g:=c0.symm;subst g;obtain rfl:aa=AX dj:=Option.some.inj<|n.symm.trans dk;clear n Y d bl c0;have A:=Af<|cs.o.grown u (by have:=bz.o;omega) (λe d=>by cases d;omega);have ae:=Af<|ct.o.grown u (by simp);have af:=Af<|cu.o.grown u (by simp);have ag:=Af ac;have v:=Af (show W.heap.size+3<=ab.heap.size by rw[ad];exact bz.o);have ah:=co.o.call A;clear u ad ac cw;go_wp2_with (at_range;refine AW rfl _ _ _ rfl Fl rfl ah ?_;intro bq dl ai r aj);have ak:=Af<|A.o.grown r (by have:=v.o;omega) (λe d=>by cases d);have al:=Af<|ae.o.grown r (by simp);have am:=Af<|af.o.grown r (by simp);have an:=Af<|ag.o.kept r (by simp) (by simp);have B:=Af (show W.heap.size+3<=bq.heap.size by rw[aj];have:=v.o;omega);have m:=Af (show W.heap.size+3<=ab.heap.size from v.o);clear r aj ah bm
 go_frame
 refine CO 3 ?_;rw[Aq];go_wp2_with (at_next;refine AH rfl _ rfl rfl ai ?_ ?_)
 .intro z;exact absurd (z e) (by simp[AC])
 intro dm br w dn ao bs ap bt t aq bu;let⟨i,p⟩:=Dp ao;have i:=i.symm;subst i p;have ar:=Af<|ak.o.grown t (by have:=B.o;omega) (λe d=>by cases d;have:=m.o;omega);have D:=Af<|al.o.grown t (by simp;have:=m.o;omega);have F:=Af<|am.o.grown t (by simp;have:=m.o;omega);have au:=Af<|an.o.kept t (by simp;have:=S.o;have:=m.o;omega) (by simp;have:=m.o;omega);have L:=Af (show W.heap.size+3<=w.heap.size by rw[aq];exact B.o);have av:=Af<|ap;clear ao bs t aq bt ai ap;have bv:w.cell? (W+1:Nat)=E (.map (E W)):=F.o.cell 0;have x:=Af (show 0<=e/\e<=1000 by have q:=y.o;rcases bp.o with ⟨i,p⟩|⟨i,p⟩<;>omega)
 have bw:(B1 Mk (.map (E W)) e false).run prog w=.ok () w:=by
  have q:=D.o.look Bh (Dx _) (k:=e) (by have:=x.o;omega) (by have:=x.o;omega);rwa [show(AC AF k (I J 1)) e=O from by simp only[AC,AF];rw[if_neg cl.o]] at q
 let⟨aw,ax,ay,o⟩:=D.o.put Bh (by decide) (k:=e) (by have:=x.o;omega) (by have:=x.o;omega)<|I J 1;have az:=Af<|ar.o.grown o.grown (by have:=L.o;omega) (λe d=>by cases d;exact Aa _);have a0:=Af ay;have a1:=Af<|F.o.grown o.grown (by simp);have a2:=Af<|au.o.kept o.grown (by simp;have:=S.o;omega) (by simp);have a3:=Af<|av.o.kept o.grown (by simp;have:=co.o.lt;omega) (by simp;have:=m.o;omega);have a4:=Af (show W.heap.size+3<=aw.heap.size from A8 L o.grown.size);clear ay o;go_wp2;rw[Aq];have a5:=a3.o;clear bv bw ax bu;go_wp2_with (at_next;refine AH rfl _ rfl rfl a5 ?_ ?_)
 rotate_left
 .intro dp br cq cr n Y d;obtain⟨i,-⟩:=Dp n;exact absurd i d
 intro _;clear a5;go_wp2;have a6:=az;have c1:=a0;have c2:=a1;have c3:=a2;have dr:=a4;generalize aw=M at a6 c1 c2 c3 dr|-;clear az a0 a1 a2 a4 a3 av ar D F au L ak al am an B m A ae af ag v;rw[Aq];have c4:=c3.o;go_wp2_with (at_next;refine AH rfl _ rfl rfl c4 ?_ ?_)
 rotate_left
 .intro ds aa cq cr n Y d eb;rcases (bo.o ds).1 (by rw[n];rfl) with g|g
  .exact absurd g (by assumption)
  .exact absurd g (by assumption)
 intro _;clear c4;let⟨ec,c5,ax,c6⟩:=Az.keys (ca.o.call a6) [a,b] (by simp;have:=y.o;omega) bj
 have ed:∀b0,(Uf #[tM3] b0 #[.map (E bi)]).run prog M=.ok (I J 2) M:=λb0=>by
  have q:=c5.len CZ b0;rwa [c6] at q
 have ee:(Instr.makeSlice 47 () (I J 2)).run prog M=.ok (C M 0 2) (M.alloc (K (A2 (A0 .i64 0).cells 2) 3)):=by
  let⟨dt,du,dv,dw,ba⟩:=A1 Mr;have h:=run_make (P:=prog) M 47 3 dt () underlying47 du dv .i64 .i64 0 2 (Int.le_refl _) (by omega) (by rw[ba];omega) (by omega);simpa[dw] using h
 have cb:M.cell? G=E (.map (E bi)):=(b9.o.below a6 S.o.1).cell 0;have bc:=Af<|a6.o.alloc a6.o.size (K (A2 (A0 .i64 0).cells 2) 3);have c7:=Af<|c2.o.alloc (K (A2 (A0 .i64 0).cells 2) 3);have dx:=Af<|c1.o.alloc (K (A2 (A0 .i64 0).cells 2) 3);clear c5 ax c6;go_wp2_with fail;refine(YF (b9.o.below bc S.o.1) (ca.o.call bc) [a,b] (by simpa using y.o.1) bj (by simp)).mono ?_;rintro Z c8 ⟨ef,rfl,bd,be⟩;obtain⟨dy,dz,rfl⟩:=Ag bd;obtain⟨b1,or,g,-,-,bf⟩:=(Ba.of_row (f:=λe:Int=>[encZ e]) (l:=[a,b]) bd (λ_=>rfl) (by simp)).at (j:=0) rfl;obtain rfl:dy=E ⟨b1,or,O⟩:=by simpa using g
 obtain⟨eg,eh,g,-,-,bg⟩:=(Ba.of_row (f:=λe:Int=>[encZ e]) (l:=[a,b]) bd (λ_=>rfl) (by simp)).at (j:=1) rfl;injection g with g;injection g with i p;subst i p;have bf:c8.cell? ⟨b1,or,O⟩=a:=by simpa using bf 0 _ rfl (by decide)
 have bg:c8.cell? ⟨b1,or+1,O⟩=b:=by simpa using bg 0 _ rfl (by decide)
 have b2:=dx.o.call be;have b3:=c7.o.below be c7.o.lt
 have b4:∀bb,bb=a∨bb=b->AC (AC AF k (I J 1)) e (I J 1) bb=E (I J 1):=λbb d0=>by
  refine YG ?_;rcases bp.o with ⟨i,p⟩|⟨i,p⟩<;>rcases d0 with g|g<;>subst i p g<;>simp
 have d1:=Af (Adg (fn:=103) (lb:= #[(W+1:Nat)]) (cp:=dz) bf bg (Eg func103 (by kernel_rfl) rfl)
  (YE b3 b2 ⟨y.o.2.1,by have:=y.o;omega⟩ (b4 a (.inl rfl))) (YE b3 b2 ⟨by have:=y.o;omega,y.o.2.2⟩ (b4 b (.inr rfl))))
 have d2:=Af<|bc.o.trans (be.mono bc.o.size);clear b2 b3 b4 bf bg g bd be;go_upto_region 11 with fail;refine CO 3 ?_;rw[Aq];go_wp2_with fail;refine d1.o.mono ?_;rintro Z ei ⟨rfl,rfl⟩;go_wp2;go_ret2;exact⟨rfl,d2⟩
def Adh(W a:U)(M r e g n:Nat)(f i:Int->Option N)(t:Int)(b:Bool)(v:N):Prop:=
 ∃left j,LP a M r n f left j/\Az a e g i/\Below W W a/\(∀d,left d=true->(f d).isSome=true)/\r<a.heap.size/\((b=true/\left t=false/\a.ownsRow (r+1) 3 1 v 1 [t])∨((b=true->left t=true)/\v=C O 0 0))
theorem GV{W:U}{F:Int->Option N}{k:Int}{u:N}{o:Bool}(h:Az W g n F)(e:0<=k/\k<=1000)(b:(F k).getD ()=u)(d:(F k).isSome=o):(B1 Mk (.map (E g)) k true).run prog W=.ok (.tuple #[u,o]) W:=by
 have a:=h.look_ok Bh (Dx _) (k:=k) (by omega) (by omega);rw[b,d] at a;exact a
theorem Agq{W:U}{G:Nat}{a b:Int}(h:Zo W G a b)(ch:a<b)(c8:0<=a)(c9:b<=1000):
 Calls prog 105 #[G,a] W λg da=>∃db b0,g=R (AX db)/\Az da db b0 (AC (AC AF b (I J 1)) a (I J 2))/\Below W W da:=by
 let⟨Y,b0,f,ci,cj,dc,dd⟩:=h.two ch;have ck:=Af ci;have cl:=Af cj;have cn:=Af dc;have co:=Af dd;have d:=Af<|And.intro ch (And.intro c8 c9);have bw:=Af<|And.intro ci.lt cj.lt;have dz:= @EC prog;have de:=Af<|Az.made W;have b1:=Af<|Zc W (.map #[] 0);have df:=Af (show W.heap.size<(W.alloc (.map #[] 0)).heap.size by simp);have d3:decide (b=a)=false:=by simp;omega
 have d4:(b==a)=false:=by simp;omega
 clear h ci cj dc dd ch c8 c9;go_in;go_upto_region 4 with fail;clear dz;refine CO 5 ?_;rw[Aq];generalize W.alloc (.map #[] 0)=dh at de b1 df|-;have b2:dh.cell? G=E (.map (E Y)):=(ck.o.below b1 bw.o.1).cell 0;have di:=cl.o.call b1;go_wp2_with (at_range;refine AW rfl _ _ _ rfl CZ rfl di ?_;intro b3 b4 ao ap aq;generalize a5:dh.heap.size=g at ao aq|-);have ar:=Af<|de.o.grown ap (by simp);have aa:=Af<|b1.o.grown ap b1.o.size (λq i=>by cases i);have a6:=Af ao;have D:=Af (show W.heap.size<g by rw[<-a5];exact df.o);have w:=Af (show W.heap.size<=g from HF D);have au:=Af (show g<b3.heap.size by rw[aq];omega);clear ao ap aq di b2 a5
 try go_frame
 go_loopw [7] (λb5 av=>∃ab,b5=ab/\Adh W av Y g W 0 b0 f AF b true ab) (λ_ av=>av.rangeLeft Y g)
 case atStart=>exact⟨_,rfl,_,b4,a6,ar,aa,λF h=>h,au,.inr ⟨λ_=>(cn.o b).1 (by simp),rfl⟩⟩
 case round=>
  clear ar aa a6 au;obtain⟨ab,aw,left,dj,ac,a7,a8,a9,ba,bb⟩:=hrel;have aw:=aw.symm;subst aw;have a2:=Af ac.left_eq;have aj:=Af a7;have ak:=Af a8;have a3:=Af a9;have y:=Af ba;have al:=Af bb;clear a7 a8 a9 ba bb;go_wp2_with (at_next;refine AH rfl _ rfl rfl ac ?_ ?_)
  rotate_left
  .intro q bc ad dk B Z ae af t ag bd;let⟨dl,dm,an,b6,be,dn,Nx,dp,dq,dr,z,bf,ax,bg⟩:=co.o q (by rw[B];rfl);clear ac;rcases b6 with ⟨m,p⟩|⟨m,p⟩
   .have m:=m.symm;have p:=p.symm;subst m p;obtain rfl:bc=AX be:=Option.some.inj<|B.symm.trans z;have x:=Af<|ak.o.grown t (by have n:=y.o;have r:=w.o;omega) (λq i=>by cases i;exact w.o);have A:=Af<|aj.o.grown t (λe=>absurd (Option.some.inj e) (by have:=D.o;omega));have ah:=Af ae;have L:=Af (show g<ad.heap.size from by rw[ag];exact y.o);have br:=Af Z;have b7:=Af (show(f a).isSome=true by rw[z];rfl);have ay:=Af af;have az:=GV (k:=a) A (by have:=d.o;omega) (u:=()) (o:=false) (by simp[AC,AF,show ¬b=a from by have:=d.o;omega,show ¬a=b from by have:=d.o;omega]) (by simp[AC,AF,show ¬b=a from by have:=d.o;omega,show ¬a=b from by have:=d.o;omega]);have bh:=ax.call x;have bi:=Af t;clear B Z ae af t ag z bf ax bg an;go_wp2_with (at_range;refine AW rfl _ _ _ rfl Fl rfl bh ?_;intro b8 ds bj M bk);have bl:=Af<|x.o.grown M x.o.size (λq i=>by cases i);have b9:=Af<|A.o.grown M (by simp);have ca:=Af<|ah.o.kept M (by simp) (by simp);have cb:=Af (show g<b8.heap.size by rw[bk];have:=L.o;omega);have ai:=Af (show g<ad.heap.size from L.o);have cp:=Af M;clear M bk bh bd az
    try go_frame
    refine CO 3 ?_;rw[Aq];go_wp2_with (at_next;refine AH rfl _ rfl rfl bj ?_ ?_)
    .intro am;exact absurd (am b) (by simp[AC])
    intro F cq bz dt bm cc bn cd S bo cr;let⟨m,p⟩:=Dp bm;have m:=m.symm;subst m p;have a4:=Af<|bl.o.grown S bl.o.size (λq i=>by cases i;have n:=ai.o;have r:=w.o;omega);have bp:=Af<|b9.o.grown S (λe=>absurd (Option.some.inj e) (by have n:=ai.o;have r:=D.o;omega));have bq:=Af<|ca.o.kept S (λe=>absurd (Option.some.inj e) (by have n:=ai.o;have r:=w.o;have a0:=bw.o;omega)) (λe=>absurd (Option.some.inj e) (by have n:=ai.o;omega));have bs:=Af (show g<bz.heap.size by rw[bo];exact cb.o);have cs:=Af bn;have ct:=Af S;clear bm cc S bo cd bj bn;have cu:=GV (k:=b) bp (by have:=d.o;omega) (u:=()) (o:=false) (by simp[AC,AF,show ¬b=a from by have:=d.o;omega,show ¬a=b from by have:=d.o;omega]) (by simp[AC,AF,show ¬b=a from by have:=d.o;omega,show ¬a=b from by have:=d.o;omega]);go_wp2;rw[Aq];clear cu cr;have du:=cs.o;go_wp2_with (at_next;refine AH rfl _ rfl rfl du ?_ ?_)
    rotate_left
    .intro d5 cq d6 d7 B Z i;obtain⟨m,-⟩:=Dp B;exact absurd m i
    intro _;clear du;go_wp2
    go_roundw
    case rel=>
     refine⟨_,rfl,_,_,bq,bp,a4,λF X=>a3.o F (by simp at X;exact X.1),bs,?_⟩;rcases al.o with ⟨n,r,a0⟩|⟨n,r⟩
     .refine .inl ⟨rfl,by simp[r],?_⟩;exact((a0.kept bi (.inr (λe=>absurd (Ai a0 e).1 (by omega)))).kept cp (V3 _)).kept ct<|.inr (λe=>absurd (Ai a0 e).2 (by have:=bi.o.size;omega))
     .refine .inr ⟨λ_=>?_,r⟩;have cv:left b=true:=by simpa using n
      simp[cv];have:=d.o;omega
    case measure=>rw[show bz.rangeLeft Y g=_ from(bq.o).left_eq,a2.o];exact ay
   .have m:=m.symm;have p:=p.symm;subst m p;obtain rfl:bc=AX be:=Option.some.inj<|B.symm.trans z;have x:=Af<|ak.o.grown t (by have n:=y.o;have r:=w.o;omega) (λq i=>by cases i;exact w.o);have A:=Af<|aj.o.grown t (λe=>absurd (Option.some.inj e) (by have:=D.o;omega));have ah:=Af ae;have L:=Af (show g<ad.heap.size from by rw[ag];exact y.o);have br:=Af Z;have b7:=Af (show(f b).isSome=true by rw[z];rfl);have ay:=Af af;have az:=GV (k:=b) A (by have:=d.o;omega) (u:=()) (o:=false) (by simp[AC,AF,show ¬b=a from by have:=d.o;omega,show ¬a=b from by have:=d.o;omega]) (by simp[AC,AF,show ¬b=a from by have:=d.o;omega,show ¬a=b from by have:=d.o;omega]);have bh:=ax.call x;have bi:=Af t;clear B Z ae af t ag z bf ax bg an;go_wp2_with (at_range;refine AW rfl _ _ _ rfl Fl rfl bh ?_;intro b8 ds bj M bk);have bl:=Af<|x.o.grown M x.o.size (λq i=>by cases i);have b9:=Af<|A.o.grown M (by simp);have ca:=Af<|ah.o.kept M (by simp) (by simp);have cb:=Af (show g<b8.heap.size by rw[bk];have:=L.o;omega);have ai:=Af (show g<ad.heap.size from L.o);have cp:=Af M;clear M bk bh bd az
    try go_frame
    refine CO 3 ?_;rw[Aq];go_wp2_with (at_next;refine AH rfl _ rfl rfl bj ?_ ?_)
    .intro am;exact absurd (am a) (by simp[AC])
    intro F cq bz dt bm cc bn cd S bo cr;let⟨m,p⟩:=Dp bm;have m:=m.symm;subst m p;have a4:=Af<|bl.o.grown S bl.o.size (λq i=>by cases i;have n:=ai.o;have r:=w.o;omega);have bp:=Af<|b9.o.grown S (λe=>absurd (Option.some.inj e) (by have n:=ai.o;have r:=D.o;omega));have bq:=Af<|ca.o.kept S (λe=>absurd (Option.some.inj e) (by have n:=ai.o;have r:=w.o;have a0:=bw.o;omega)) (λe=>absurd (Option.some.inj e) (by have n:=ai.o;omega));have bs:=Af (show g<bz.heap.size by rw[bo];exact cb.o);have cs:=Af bn;have ct:=Af S;clear bm cc S bo cd bj bn;have cu:=GV (k:=a) bp (by have:=d.o;omega) (u:=()) (o:=false) (by simp[AC,AF,show ¬b=a from by have:=d.o;omega,show ¬a=b from by have:=d.o;omega]) (by simp[AC,AF,show ¬b=a from by have:=d.o;omega,show ¬a=b from by have:=d.o;omega]);let⟨cw,cx,cy,cz,an⟩:=A1 Mr
    have c0:ab=C O 0 0:=by
     rcases al.o with ⟨_,v,_⟩|⟨_,v⟩
     .rw[br.o] at v;cases v
     .exact v
    subst c0;go_wp2_with (at_builtin;refine B9 _ rfl (.tmp 70) (.tmp 72) 47 rfl (g+1) 3 cw () 1 8 underlying47 cx cy cz an rfl (by decide) (.slice O 0 0) 0 [] rfl (Ep _ _ _ _) _ 1 1 [b] rfl rfl (En _ _ _) (by simp[B4]) (by decide) (by decide) (by have:=bs.o;simp;omega) ?_;intro d0 c1 c2 c3 _ d1;have c4:=Af c2;have a1:=Af c3)
    go_roundw
    case rel=>exact⟨_,rfl,_,_,((bq.o.kept (HV _ _ O) (by simp) (by simp)).kept a1 (by simp[A5]) (by simp[A5])),((bp.o.alloc _).grown a1 (by simp[A5])),((a4.o.alloc a4.o.size _).grown a1 (by have:=a4.o.size;simp;omega) (λq i=>by simp[A5] at i)),λF X=>a3.o F (by simp at X;exact X.1),(by have n:=a1.o.size;have r:=bs.o;simp at n;omega),.inl ⟨rfl,by simp,c4⟩⟩
    case measure=>rw[show c1.rangeLeft Y g=_ from(((bq.o.kept (HV _ _ O) (by simp) (by simp)).kept a1.o (by simp[A5]) (by simp[A5]))).left_eq,a2.o];exact ay
  .intro am;obtain⟨-,c5,bt⟩|⟨v,-⟩:=al.o
   rotate_left
   .exact absurd (show left b=true by simpa using v) (by rw[am b];simp)
   obtain⟨c6,d2,rfl⟩:=Ag bt;obtain⟨ce,or,e,-,-,bu⟩:=(Ba.of_row (f:=λq:Int=>[encZ q]) (l:=[b]) bt (λ_=>rfl) (by simp)).at (j:=0) rfl;obtain rfl:c6=E ⟨ce,or,O⟩:=by simpa using e
   have bu:wr.cell? ⟨ce,or,O⟩=b:=by simpa using bu 0 _ rfl (by decide)
   let⟨cf,c7,cg,bv⟩:=aj.o.put Bh (by decide) (k:=b) (by have:=d.o;omega) (by have:=d.o;omega)<|I J 1;have aa:=Af<|ak.o.grown bv.grown (by have n:=y.o;have r:=w.o;omega) (λq i=>by cases i;exact Aa _);have ar:=Af cg;have au:=Af (show W.heap.size<cf.heap.size by have n:=bv.grown.size;have r:=y.o;have a0:=D.o;omega);clear c5 bt e cg bv ac aj ak a3 y al a2 am;go_upto_region 19 with fail;refine CO 3 ?_;rw[Aq];go_wp2;rw[Aq];go_wp2;rw[Aq];clear c7 bu D w;generalize cf=dv at aa ar au|-;have b2:dv.cell? G=E (.map (E Y)):=(ck.o.below aa bw.o.1).cell 0;have dw:=cl.o.call aa;go_wp2_with (at_range;refine AW rfl _ _ _ rfl CZ rfl dw ?_;intro b3 b4 ao ap aq;generalize a5:dv.heap.size=g at ao aq|-);have ar:=Af<|ar.o.grown ap (by simp);have aa:=Af<|aa.o.grown ap aa.o.size (λq i=>by cases i);have a6:=Af ao;have D:=Af (show W.heap.size<g by rw[<-a5];exact au.o);have w:=Af (show W.heap.size<=g from HF D);have au:=Af (show g<b3.heap.size by rw[aq];omega);clear ao ap aq dw b2 a5
   try go_frame
   go_loopw [7] (λb5 av=>∃ab,b5=ab/\Adh W av Y g W (0+1) b0 f (AC AF b (I J 1)) a true ab) (λ_ av=>av.rangeLeft Y g)
   case atStart=>exact⟨_,rfl,_,b4,a6,ar,aa,λF h=>h,au,.inr ⟨λ_=>(cn.o a).1 (by simp),rfl⟩⟩
   case round=>
    clear ar aa a6 au;obtain⟨ab,aw,left,dj,ac,a7,a8,a9,ba,bb⟩:=hrel;have aw:=aw.symm;subst aw;have a2:=Af ac.left_eq;have aj:=Af a7;have ak:=Af a8;have a3:=Af a9;have y:=Af ba;have al:=Af bb;clear a7 a8 a9 ba bb;go_wp2_with (at_next;refine AH rfl _ rfl rfl ac ?_ ?_)
    rotate_left
    .intro q bc ad dk B Z ae af t ag bd;let⟨dl,dm,an,b6,be,dn,Nx,dp,dq,dr,z,bf,ax,bg⟩:=co.o q (by rw[B];rfl);clear ac;rcases b6 with ⟨m,p⟩|⟨m,p⟩
     .have m:=m.symm;have p:=p.symm;subst m p;obtain rfl:bc=AX be:=Option.some.inj<|B.symm.trans z;have x:=Af<|ak.o.grown t (by have n:=y.o;have r:=w.o;omega) (λq i=>by cases i;exact w.o);have A:=Af<|aj.o.grown t (λe=>absurd (Option.some.inj e) (by have:=D.o;omega));have ah:=Af ae;have L:=Af (show g<ad.heap.size from by rw[ag];exact y.o);have br:=Af Z;have b7:=Af (show(f a).isSome=true by rw[z];rfl);have ay:=Af af;have az:=GV (k:=a) A (by have:=d.o;omega) (u:=()) (o:=false) (by simp[AC,AF,show ¬b=a from by have:=d.o;omega,show ¬a=b from by have:=d.o;omega]) (by simp[AC,AF,show ¬b=a from by have:=d.o;omega,show ¬a=b from by have:=d.o;omega]);have bh:=ax.call x;have bi:=Af t;clear B Z ae af t ag z bf ax bg an;go_wp2_with (at_range;refine AW rfl _ _ _ rfl Fl rfl bh ?_;intro b8 ds bj M bk);have bl:=Af<|x.o.grown M x.o.size (λq i=>by cases i);have b9:=Af<|A.o.grown M (by simp);have ca:=Af<|ah.o.kept M (by simp) (by simp);have cb:=Af (show g<b8.heap.size by rw[bk];have:=L.o;omega);have ai:=Af (show g<ad.heap.size from L.o);have cp:=Af M;clear M bk bh bd az
      try go_frame
      refine CO 3 ?_;rw[Aq];go_wp2_with (at_next;refine AH rfl _ rfl rfl bj ?_ ?_)
      .intro am;exact absurd (am b) (by simp[AC])
      intro F cq bz dt bm cc bn cd S bo cr;let⟨m,p⟩:=Dp bm;have m:=m.symm;subst m p;have a4:=Af<|bl.o.grown S bl.o.size (λq i=>by cases i;have n:=ai.o;have r:=w.o;omega);have bp:=Af<|b9.o.grown S (λe=>absurd (Option.some.inj e) (by have n:=ai.o;have r:=D.o;omega));have bq:=Af<|ca.o.kept S (λe=>absurd (Option.some.inj e) (by have n:=ai.o;have r:=w.o;have a0:=bw.o;omega)) (λe=>absurd (Option.some.inj e) (by have n:=ai.o;omega));have bs:=Af (show g<bz.heap.size by rw[bo];exact cb.o);have cs:=Af bn;have ct:=Af S;clear bm cc S bo cd bj bn;have cu:=GV (k:=b) bp (by have:=d.o;omega) (u:=I J 1) (o:=true) (by simp[AC,AF,show ¬b=a from by have:=d.o;omega,show ¬a=b from by have:=d.o;omega]) (by simp[AC,AF,show ¬b=a from by have:=d.o;omega,show ¬a=b from by have:=d.o;omega]);let⟨cw,cx,cy,cz,an⟩:=A1 Mr
      have c0:ab=C O 0 0:=by
       rcases al.o with ⟨_,v,_⟩|⟨_,v⟩
       .rw[br.o] at v;cases v
       .exact v
      subst c0;go_wp2_with (at_builtin;refine B9 _ rfl (.tmp 70) (.tmp 72) 47 rfl (g+1) 3 cw () 1 8 underlying47 cx cy cz an rfl (by decide) (.slice O 0 0) 0 [] rfl (Ep _ _ _ _) _ 1 1 [a] rfl rfl (En _ _ _) (by simp[B4]) (by decide) (by decide) (by have:=bs.o;simp;omega) ?_;intro d0 c1 c2 c3 _ d1;have c4:=Af c2;have a1:=Af c3)
      go_roundw
      case rel=>exact⟨_,rfl,_,_,((bq.o.kept (HV _ _ O) (by simp) (by simp)).kept a1 (by simp[A5]) (by simp[A5])),((bp.o.alloc _).grown a1 (by simp[A5])),((a4.o.alloc a4.o.size _).grown a1 (by have:=a4.o.size;simp;omega) (λq i=>by simp[A5] at i)),λF X=>a3.o F (by simp at X;exact X.1),(by have n:=a1.o.size;have r:=bs.o;simp at n;omega),.inl ⟨rfl,by simp,c4⟩⟩
      case measure=>rw[show c1.rangeLeft Y g=_ from(((bq.o.kept (HV _ _ O) (by simp) (by simp)).kept a1.o (by simp[A5]) (by simp[A5]))).left_eq,a2.o];exact ay
     .have m:=m.symm;have p:=p.symm;subst m p;obtain rfl:bc=AX be:=Option.some.inj<|B.symm.trans z;have x:=Af<|ak.o.grown t (by have n:=y.o;have r:=w.o;omega) (λq i=>by cases i;exact w.o);have A:=Af<|aj.o.grown t (λe=>absurd (Option.some.inj e) (by have:=D.o;omega));have ah:=Af ae;have L:=Af (show g<ad.heap.size from by rw[ag];exact y.o);have br:=Af Z;have b7:=Af (show(f b).isSome=true by rw[z];rfl);have ay:=Af af;have az:=GV (k:=b) A (by have:=d.o;omega) (u:=I J 1) (o:=true) (by simp[AC,AF,show ¬b=a from by have:=d.o;omega,show ¬a=b from by have:=d.o;omega]) (by simp[AC,AF,show ¬b=a from by have:=d.o;omega,show ¬a=b from by have:=d.o;omega]);have bi:=Af t;clear B Z ae af t ag z bf ax bg an;go_wp2;clear az bd
      go_roundw
      case rel=>
       refine⟨_,rfl,_,_,ah,A,x,λF X=>a3.o F (by simp at X;exact X.1),L,?_⟩;rcases al.o with ⟨n,r,a0⟩|⟨n,r⟩
       .refine .inl ⟨rfl,by simp[r],?_⟩;exact a0.kept bi<|.inr (λe=>absurd (Ai a0 e).1 (by omega))
       .refine .inr ⟨λ_=>?_,r⟩;have cv:left a=true:=by simpa using n
        simp[cv];have:=d.o;omega
      case measure=>rw[show ad.rangeLeft Y g=_ from(ah.o).left_eq,a2.o];exact ay
    .intro am;obtain⟨-,c5,bt⟩|⟨v,-⟩:=al.o
     rotate_left
     .exact absurd (show left a=true by simpa using v) (by rw[am a];simp)
     obtain⟨c6,d2,rfl⟩:=Ag bt;obtain⟨ce,or,e,-,-,bu⟩:=(Ba.of_row (f:=λq:Int=>[encZ q]) (l:=[a]) bt (λ_=>rfl) (by simp)).at (j:=0) rfl;obtain rfl:c6=E ⟨ce,or,O⟩:=by simpa using e
     have bu:wr.cell? ⟨ce,or,O⟩=a:=by simpa using bu 0 _ rfl (by decide)
     let⟨cf,c7,cg,bv⟩:=aj.o.put Bh (by decide) (k:=a) (by have:=d.o;omega) (by have:=d.o;omega)<|I J 2;have x:=Af<|ak.o.grown bv.grown (by have n:=y.o;have r:=w.o;omega) (λq i=>by cases i;exact Aa _);have A:=Af cg;have L:=Af (show W.heap.size<cf.heap.size by have n:=bv.grown.size;have r:=y.o;have a0:=D.o;omega);clear c5 bt e cg bv ac aj ak a3 y al a2 am;go_upto_region 19 with fail;refine CO 3 ?_;rw[Aq];go_wp2;rw[Aq];go_wp2;rw[Aq];clear c7 bu D w;generalize cf=dx at x A L|-;have b2:dx.cell? G=E (.map (E Y)):=(ck.o.below x bw.o.1).cell 0;have dy:=cl.o.call x;go_wp2_with (at_range;refine AW rfl _ _ _ rfl CZ rfl dy ?_;intro b3 b4 ao ap aq;generalize a5:dx.heap.size=g at ao aq|-);have ar:=Af<|A.o.grown ap (by simp);have aa:=Af<|x.o.grown ap x.o.size (λq i=>by cases i);have a6:=Af ao;have D:=Af (show W.heap.size<g by rw[<-a5];exact L.o);have w:=Af (show W.heap.size<=g from HF D);have au:=Af (show g<b3.heap.size by rw[aq];omega);clear ao ap aq dy b2 a5
     try go_frame
     go_loopw [7] (λb5 av=>∃ab,b5=ab/\Adh W av Y g W (0+1+1) b0 f (AC (AC AF b (I J 1)) a (I J 2)) a false ab) (λ_ av=>av.rangeLeft Y g)
     case atStart=>exact⟨_,rfl,_,b4,a6,ar,aa,λF h=>h,au,.inr ⟨λ_=>(cn.o a).1 (by simp),rfl⟩⟩
     case round=>
      clear ar aa a6 au;obtain⟨ab,aw,left,dj,ac,a7,a8,a9,ba,bb⟩:=hrel;have aw:=aw.symm;subst aw;have a2:=Af ac.left_eq;have aj:=Af a7;have ak:=Af a8;have a3:=Af a9;have y:=Af ba;have al:=Af bb;clear a7 a8 a9 ba bb;go_wp2_with (at_next;refine AH rfl _ rfl rfl ac ?_ ?_)
      rotate_left
      .intro q bc ad dk B Z ae af t ag bd;let⟨dl,dm,an,b6,be,dn,Nx,dp,dq,dr,z,bf,ax,bg⟩:=co.o q (by rw[B];rfl);clear ac;rcases b6 with ⟨m,p⟩|⟨m,p⟩
       .have m:=m.symm;have p:=p.symm;subst m p;obtain rfl:bc=AX be:=Option.some.inj<|B.symm.trans z;have x:=Af<|ak.o.grown t (by have n:=y.o;have r:=w.o;omega) (λq i=>by cases i;exact w.o);have A:=Af<|aj.o.grown t (λe=>absurd (Option.some.inj e) (by have:=D.o;omega));have ah:=Af ae;have L:=Af (show g<ad.heap.size from by rw[ag];exact y.o);have br:=Af Z;have b7:=Af (show(f a).isSome=true by rw[z];rfl);have ay:=Af af;have az:=GV (k:=a) A (by have:=d.o;omega) (u:=I J 2) (o:=true) (by simp[AC,AF,show ¬b=a from by have:=d.o;omega,show ¬a=b from by have:=d.o;omega]) (by simp[AC,AF,show ¬b=a from by have:=d.o;omega,show ¬a=b from by have:=d.o;omega]);have bi:=Af t;clear B Z ae af t ag z bf ax bg an;go_wp2;clear az bd
        go_roundw
        case rel=>exact⟨_,rfl,_,_,ah,A,x,λF X=>a3.o F (by simp at X;exact X.1),L,.inr ⟨λe=>(by cases e),(by rcases al.o with ⟨v,_⟩|⟨_,v⟩;cases v;exact v)⟩⟩
        case measure=>rw[show ad.rangeLeft Y g=_ from(ah.o).left_eq,a2.o];exact ay
       .have m:=m.symm;have p:=p.symm;subst m p;obtain rfl:bc=AX be:=Option.some.inj<|B.symm.trans z;have x:=Af<|ak.o.grown t (by have n:=y.o;have r:=w.o;omega) (λq i=>by cases i;exact w.o);have A:=Af<|aj.o.grown t (λe=>absurd (Option.some.inj e) (by have:=D.o;omega));have ah:=Af ae;have L:=Af (show g<ad.heap.size from by rw[ag];exact y.o);have br:=Af Z;have b7:=Af (show(f b).isSome=true by rw[z];rfl);have ay:=Af af;have az:=GV (k:=b) A (by have:=d.o;omega) (u:=I J 1) (o:=true) (by simp[AC,AF,show ¬b=a from by have:=d.o;omega,show ¬a=b from by have:=d.o;omega]) (by simp[AC,AF,show ¬b=a from by have:=d.o;omega,show ¬a=b from by have:=d.o;omega]);have bi:=Af t;clear B Z ae af t ag z bf ax bg an;go_wp2;clear az bd
        go_roundw
        case rel=>exact⟨_,rfl,_,_,ah,A,x,λF X=>a3.o F (by simp at X;exact X.1),L,.inr ⟨λe=>(by cases e),(by rcases al.o with ⟨v,_⟩|⟨_,v⟩;cases v;exact v)⟩⟩
        case measure=>rw[show ad.rangeLeft Y g=_ from(ah.o).left_eq,a2.o];exact ay
      .intro am
       obtain rfl:ab=C O 0 0:=by
        rcases al.o with ⟨v,_⟩|⟨_,v⟩
        .cases v
        .exact v
       clear ac am;go_wp2;go_ret;exact⟨W.heap.size,rfl,⟨_,aj⟩,ak⟩
theorem Zo.below{W W':U}{G:Nat}{a b:Int}(h:Zo W G a b)(d:Below W W W'):Zo W' G a b:=by
 obtain⟨g,i,j,k,l,m,n,o,e,p,q,r⟩:=h;exact⟨g,i,j,k,l,m,n,o,e.below d e.lt,p.call d,q.call d,r.call d⟩
theorem SN:∀l:List Int,l.map encZ=l.flatMap λa=>[encZ a]
 |[]=>rfl
 |a::b=>by rw[G9,SN b];rfl
theorem MV{W:U}{base:Nat}{l:List Int}(h:W.ownsRow base 3 1 (C A (x::l).length c) (x::l).length ((x::l).map encZ)):∃a b,A=E ⟨a,b,O⟩/\W.cell? ⟨a,b,O⟩=x:=by
 obtain⟨d,or,e,-,-,g⟩:=(Ba.of_row (f:=λx:Int=>[encZ x]) (l:=x::l) h (λ_=>rfl) (SN _)).at (j:=0) rfl;exact⟨d,or,e,by simpa using g 0 _ rfl (by decide)⟩
theorem Adi{W:U}{G:Nat}{a b:Int}(h:Zo W G a b)(m:a<b)(F:0<=a)(L:b<=1000):
 Calls prog 58 #[G] W λn ak=>∃al M c,n=R (C al M c)/\Below W W ak:=by
 let⟨a7,M,f,t,v,w,S⟩:=h.two m;let⟨d,am,p,X,a8,a9,Nx,ba,bb,bc,Y,an,Z,ao⟩:=S a<|(w a).1 (by simp);obtain rfl:d=b:=by rcases X with ⟨_,q⟩|⟨q,_⟩;exact q;omega
 have aa:=Af t;have ap:=Af v;have aq:=Af h;have ar:=Af Z;have au:=Af Y;have av:=Af<|YF t v [a,d] (by simpa using m) w (by simp);have e:=Af<|And.intro m (And.intro F L);go_in;go_wp2_with fail;refine av.o.mono ?_;rintro n bd ⟨be,rfl,g,ab⟩;obtain⟨bf,bg,rfl⟩:=Ag g;obtain⟨bh,or,rfl,aw⟩:=MV g;have x:=Af ab;go_upto_region 2 with fail;refine CO 3 ?_;rw[Aq];go_wp2_with fail;refine(Agq (aq.o.below x) e.o.1 e.o.2.1 e.o.2.2).mono ?_;rintro n i ⟨bi,bj,rfl,y,ac⟩;have ad:¬d=a:=by have:=e.o;omega
 have ax:=GV (k:=a) y (by have:=e.o;omega) (u:=I J 2) (o:=true) (by simp[AC]) (by simp[AC]);have ay:=Af y;have z:=Af<|x.o.trans (ac.mono x.o.size);have r:=Af ad;go_upto_region 8 with fail;refine CO 3 ?_;rw[Aq];go_wp2_with fail;have ae:=Af<|World.ownsRow_lit (base:=i.heap.size) (e:=3) (size:=1) i #[a] 1 (Aa _) (by decide) rfl;have j:=Af<|z.o.alloc z.o.size (K #[a] 3);have af:=Af<|ay.o.alloc (K #[a] 3);have ag:=Af (show i.heap.size<(i.alloc (K #[a] 3)).heap.size by simp);generalize i.alloc (K #[a] 3)=bk at ae j af ag|-;refine(Agp (aa.o.below j aa.o.lt) (ap.o.call j) ⟨e.o.2.1,by have:=e.o;omega⟩ au (ar.o.call j) [d] (by simp) (λA=>by unfold AC AF;by_cases q:A=d<;>simp[q]) (by simp)).mono ?_;rintro n bl ⟨bm,rfl,g,l⟩;obtain⟨bn,bo,rfl⟩:=Ag g;obtain⟨bp,bq,rfl,az⟩:=MV g;have a0:=Af<|AA ae l;have B:=Af<|j.o.trans (l.mono j.o.size);have a1:=Af<|ED ag l.size;have a2:=GV (k:=d) (af.o.call l) (by have:=e.o;omega) (u:=I J 1) (o:=true) (by simp[AC,r.o]) (by simp[AC,r.o]);have br:decide (d=a)=false:=by simpa using r.o
 have bs:(d==a)=false:=by simpa using r.o
 let⟨a3,ah,ai,aj,p⟩:=A1 Mr;go_upto_region 11 with fail;refine CO 3 ?_;rw[Aq];go_wp2_with (at_builtin;refine B9 _ rfl (.tmp 68) (.tmp 70) 47 rfl i 3 a3 () 1 8 underlying47 ah ai aj p rfl (by decide) _ 1 [a] rfl (a0.o.alloc _) _ 1 1 [d] rfl rfl (En _ _ _) (by simp[B4]) (by decide) (by decide) (by have:=a1.o;simp;omega) ?_;intro bt bu a4 a5 _ bv;have a6:=Af a5;obtain⟨bw,bz,rfl⟩:=Ag a4);rw[Aq];go_wp2_with fail;go_ret;refine⟨_,_,_,rfl,(B.o.alloc B.o.size (K #[d] 3)).grown a6 (by have:=B.o.size;simp;omega) (λA D=>?_)⟩;have D:i.heap.size=A:=Option.some.inj D;rw[<-D];exact z.o.size
abbrev P8:Ab:=49
abbrev asC(k d e p a b g:N):Array N:= #[k,d,e,p,a,b,g]
abbrev Vm:Array N:=asC () (C O 0 0) (C O 0 0) () () () (C O 0 0)
theorem Ags(b:Func)(hF:b.results= #[.cell 2 P8])(tmps:Array N)(W:U)(g:Nat)(a0 d a2 a3 a4 a5 e:N)(i:tmps.getD 2 Ac=g)(a:Ah W g P8 #[a0,d,a2,a3,a4,a5,e]):
 (As b tmps).run prog W=.ok (.agg #[a0,d,a2,a3,a4,a5,e]) W:=by
 have j:=a.cell 0;have k:=a.cell 1;have l:=a.cell 2;have m:=a.cell 3;have n:=a.cell 4;have o:=a.cell 5;have p:=a.cell 6;have q:tmps[2]?.getD Ac=g:=by simpa using i
 simp[As,hF,q,go_sem,j,k,l,m,n,o,p]
theorem Ae4{X:U}{t:Ab}{a0 v a2 a3 a4 a5 u:N}(h:Ah X g t #[a0,v,a2,a3,a4,a5,u])(u0 u1 u2 u3 u4 u5 u6:N):Ah (((((((X.setCell g u0).setCell ⟨g,1,O⟩ u1).setCell ⟨g,2,O⟩ u2).setCell ⟨g,3,O⟩ u3).setCell ⟨g,4,O⟩ u4).setCell ⟨g,5,O⟩ u5).setCell ⟨g,6,O⟩ u6) g t #[u0,u1,u2,u3,u4,u5,u6]:=by
 have:=((((((h.put 0 u0).put 1 u1).put 2 u2).put 3 u3).put 4 u4).put 5 u5).put 6 u6;simpa using this
theorem YH{w X:U}(h:Below m w X)(a:m<=g)(u0 u1 u2 u3 u4 u5 u6:N):Below m w (((((((X.setCell g u0).setCell ⟨g,1,O⟩ u1).setCell ⟨g,2,O⟩ u2).setCell ⟨g,3,O⟩ u3).setCell ⟨g,4,O⟩ u4).setCell ⟨g,5,O⟩ u5).setCell ⟨g,6,O⟩ u6):=
 (NH h a u0 u1 u2 u3 u4|>.setCell (p:=⟨g,5,O⟩) a u5).setCell (p:=⟨g,6,O⟩) a u6
theorem Aa0{w0 W:U}{x y:Nat}{r:Array N}{s t:St}{S:Int}(X:WoL w0 n W g m r [x,y] [s,t] S)(ad:WoH W r S)(ae:Below w0 w0 W)(af:TwT s t S)(ar:CN S)
 (au:∃g v p q ag q2,RW s g v p q ag q2) (av:∃g v p q ag q2,RW t g v p q ag q2) (aw:s.id<t.id):
 Calls prog 26 #[g] W λo ba=>∃bb ah c,o=R (.agg (asC (I J 3) (C O 0 0) (C O 0 0) () () () (C bb ah c)))/\Below W W ba:=by
 have ax:x≠y:=λu=>by
  subst u;obtain⟨bc,ah,f,ai,B,w,-⟩:=X;obtain⟨_,_,_,_,_,_,_,aj,-⟩:=w 0 x s rfl rfl;obtain⟨_,_,_,_,_,_,_,ak,-⟩:=w 1 x t rfl rfl;have bd:=(aj.cell 0).symm.trans<|ak.cell 0;exact af.ne (by simpa[AaV] using bd)
 have al:r.size=2:=by obtain⟨_,_,_,_,_,_,u,-⟩:=ad;rw[u];rfl
 have z:=Zc W<|K Vm P8;have D:=Af<|X.below z;have Y:=Af<|ad.below z;have F:=Af<|ae.trans (z.mono ae.size);have Z:=Af z;have aa:=Af<|Ah.new W P8 Vm;have e:=Af af;have b:=Af<|And.intro au (And.intro av (And.intro ar (And.intro aw (And.intro ax al))));obtain⟨bc,ah,f,ai,B,w,-⟩:=X.below z;obtain⟨be,ay,rfl⟩:=Ag B;obtain⟨G,or,u,-,-,L⟩:=(Ba.of_row (f:=λk=>[ptr k]) (l:=[x,y]) B (λ_=>rfl) (Hi _)).at (j:=0) rfl;obtain⟨bj,bk,am,-,-,d⟩:=(Ba.of_row (f:=λk=>[ptr k]) (l:=[x,y]) B (λ_=>rfl) (Hi _)).at (j:=1) rfl;obtain rfl:be=E ⟨G,or,O⟩:=by simpa using u
 injection am with am;injection am with aj ak;subst aj ak;have L:(W.alloc (K Vm P8)).cell? ⟨G,or,O⟩=x:=by simpa[ptr] using L 0 _ rfl (by decide)
 have d:(W.alloc (K Vm P8)).cell? ⟨G,or+1,O⟩=y:=by simpa[ptr] using d 0 _ rfl (by decide)
 obtain⟨bg,bh,rfl⟩:∃an k,r= #[an,k]:=by
  obtain⟨bf⟩:=r
  match bf,al with
  |[an,k],_=>exact⟨an,k,rfl⟩
 have ao:(W.alloc (K Vm P8)).cell? ⟨g,3,O⟩=E (C (E ⟨G,or,O⟩) 2 ay):=(show Ah _ g tWo #[bg,bh,I J 2,C (E ⟨G,or,O⟩) 2 ay,.map (E m)] from by simpa using ai).cell 3;obtain⟨_,_,_,_,_,_,_,az,-⟩:=w 0 x s rfl rfl;obtain⟨_,_,_,_,_,_,_,a0,-⟩:=w 1 y t rfl rfl;have ab:(W.alloc (K Vm P8)).cell? ⟨x,10-1,O⟩=true:=az.cell 9;have l:(W.alloc (K Vm P8)).cell? ⟨y,10-1,O⟩=true:=a0.cell 9;simp only[Nat.reduceSub] at ab l;have A:=Af<|And.intro d l;simp only[Vm,asC] at D Y F Z aa A L d ao ab l;go_in;go_upto_region 2 with fail;generalize W.alloc (K #[(),C O 0 0,C O 0 0,(),(),(),C O 0 0] P8)=a1 at D Y F Z aa A L d ao ab l|-;refine CO 4 ?_;rw[Aq];go_wp2_with fail;refine(LR (i:=0) D Y F rfl rfl b.o.1 e.o.rs b.o.2.2.1).mono ?_;rintro o bl ⟨rfl,ac⟩;have M:=Af ac;have l:=(ac.cell (Ad a1 _ A.o.2)).trans A.o.2;have d:=(ac.cell (Ad a1 _ A.o.1)).trans A.o.1;go_wp2;rw[Aq];go_wp2_with fail;refine(LR (i:=1) (D.o.below M) (Y.o.below M) (F.o.trans (M.o.mono F.o.size)) rfl rfl b.o.2.1 e.o.rt b.o.2.2.1).mono ?_;rintro o bm ⟨rfl,a2⟩;have ap:=Af<|M.o.trans (a2.mono M.o.size);go_wp2;rw[Aq];go_wp2_with fail;refine(Adf (D.o.below ap) b.o.2.2.2.2.2 e b.o.2.2.2.2.1).mono ?_;rintro o bn ⟨bo,rfl,a3,a4⟩;have a5:=Af a3;have a6:=Af<|ap.o.trans (a4.mono ap.o.size);go_wp2_with fail;refine(Ae2 a5 b.o.2.2.2.1 e.o.ids.1 e.o.idt.2).mono ?_;rintro o bp ⟨rfl,aq⟩;have bi:=Af<|a5.o.below aq;have a7:=Af<|a6.o.trans (aq.mono a6.o.size);go_wp2_with fail;refine(Adi bi b.o.2.2.2.1 e.o.ids.1 e.o.idt.2).mono ?_;rintro o bq ⟨br,bs,bt,rfl,a8⟩;have a9:=Af<|a7.o.trans (a8.mono a7.o.size);have a:=Af<|aa.o.below a9 aa.o.lt;have bu:=a.o.cell 0;have bv:=a.o.cell 1;have bw:=a.o.cell 2;have bz:=a.o.cell 3;have b0:=a.o.cell 4;have b1:=a.o.cell 5;have b2:=a.o.cell 6;have b3:=a.o.frozen 0;have b4:=a.o.frozen 1;have b5:=a.o.frozen 2;have b6:=a.o.frozen 3;have b7:=a.o.frozen 4;have b8:=a.o.frozen 5;have b9:=a.o.frozen 6;have ca:=a.o.lt;go_wp2_with fail;refine Ao (Ags _ rfl _ _ W _ _ _ _ _ _ _ rfl (Ae4 a _ _ _ _ _ _ _)) rfl ?_;exact⟨_,_,_,rfl,YH (Z.o.trans (a9.o.mono Z.o.size)) (Aa _) _ _ _ _ _ _ _⟩
theorem Agt(d:Func)(hF:d.results= #[.cell 4 P8,.cell 5 Gx])(tmps:Array N)(W:U)(g q:Nat)(a0 e a2 a3 a4 a5 i b:N)(j:tmps.getD 4 Ac=g)(k:tmps.getD 5 Ac=q)(a:Ah W g P8 #[a0,e,a2,a3,a4,a5,i])(l:W.cell? q=b):
 (As d tmps).run prog W=.ok (.tuple #[.agg #[a0,e,a2,a3,a4,a5,i],b]) W:=by
 have m:=a.cell 0;have n:=a.cell 1;have o:=a.cell 2;have p:=a.cell 3;have r:=a.cell 4;have t:=a.cell 5;have u:=a.cell 6;have v:tmps[4]?.getD Ac=g:=by simpa using j
 have w:tmps[5]?.getD Ac=q:=by simpa using k
 simp[As,hF,v,w,go_sem,m,n,o,p,r,t,u,l]
theorem Agu{X:U}{q:Nat}{t:Ab}{cs:Array N}(h:Ah X q t cs)(a:q≠g)(u0 u1 u2 u3 u4 u5 u6:N):Ah (((((((X.setCell g u0).setCell ⟨g,1,O⟩ u1).setCell ⟨g,2,O⟩ u2).setCell ⟨g,3,O⟩ u3).setCell ⟨g,4,O⟩ u4).setCell ⟨g,5,O⟩ u5).setCell ⟨g,6,O⟩ u6) q t cs:=
 ((((((h.far (p:=g) a u0).far (p:=⟨g,1,O⟩) a u1).far (p:=⟨g,2,O⟩) a u2).far (p:=⟨g,3,O⟩) a u3).far (p:=⟨g,4,O⟩) a u4).far (p:=⟨g,5,O⟩) a u5).far (p:=⟨g,6,O⟩) a u6
theorem YI{w:U}{vo vl:N}{os:List Ob}{es:List Ev}{txs:List St}(b:Ba 2 CL w vo os)(d:Ba 8 BO w vl es)(l:∀v∈os,v.kind<=9223372036854775807)(m:∀n∈es,AU n.kind/\n.ret<=9223372036854775807)(o:AE w)(p:Prm os es txs x):
 Calls prog 24 #[.agg #[vo,vl]] w λq y=>q=R .nilIface/\Below w w y:=by
 obtain⟨e,g,rfl⟩:=b.shape;obtain⟨i,j,rfl⟩:=d.shape;have a:=Zc w<|K #[C e os.length g,C i es.length j] AI;have k:=Af a;have r:=Af<|Ah.new w AI #[C e os.length g,C i es.length j];have t:=Af<|KF (b.below a) (d.below a) l m (o.below a) p;go_in;go_upto_region 1 with fail;generalize w.alloc (K #[C e os.length g,C i es.length j] AI)=A at k r t|-;let⟨B,D⟩:=r.o.c2;go_wp2_with fail;refine t.o.mono ?_;rintro q F ⟨G,rfl,-,u⟩;have z:=Af<|k.o.trans (u.mono k.o.size);go_wp2;go_ret;exact⟨rfl,z⟩
theorem Vn{w:U}{vo vl:N}{os:List Ob}{es:List Ev}{s t:St}(k:Ba 2 CL w vo os)(r:Ba 8 BO w vl es)(F:∀ar∈os,ar.kind<=9223372036854775807)(G:∀ab∈es,AU ab.kind/\ab.ret<=9223372036854775807)(L:AE w)(l:Prm os es [s,t] x)(ac:Ac9 [s,t] x)(M:CN x)(ad:TwT s t x)(ae:s.id<t.id):
 Calls prog 11 #[.agg #[vo,vl],I J 2] w λu au=>∃av aw ax,u=R (.tuple #[.agg (asC (I J 3) (C O 0 0) (C O 0 0) () () () (C av aw ax)),.nilIface])/\Below w w au:=by
 obtain⟨m,n,rfl⟩:=r.shape;obtain⟨a6,i,rfl⟩:=k.shape;have ay:=l.one;subst ay;obtain⟨e,g,rfl,-,-,af⟩:=k.at (j:=0) rfl;have ag:w.cell? ⟨e,g+1,O⟩=x:=by simpa using af 1 _ rfl (by decide)
 have S:=AG w (K #[C (E ⟨e,g,O⟩) 1 i,C m es.length n] AI)<|K Vm P8;have b:=S.alloc S.size<|K #[.nilIface] Gx;have d:=Af b;have o:=Af<|((Ah.new w AI #[C (E ⟨e,g,O⟩) 1 i,C m es.length n]).alloc (K Vm P8)).alloc (K #[.nilIface] Gx);have v:=Af<|(Bo w (K #[C (E ⟨e,g,O⟩) 1 i,C m es.length n] AI) P8 Vm).alloc (K #[.nilIface] Gx);have y:=Af (show Ah _ (w+1+1) Gx #[.nilIface] from by simpa using Ah.new ((w.alloc (K #[C (E ⟨e,g,O⟩) 1 i,C m es.length n] AI)).alloc (K Vm P8)) Gx #[.nilIface]);have W:=Af<|YI (k.below b) (r.below b) F G (L.below b) l;have az:=Af (λ(a0:U) (h:Below w w a0)=>AeZ (k.below h) (r.below h) F G (L.below h) l ac M);have q:=Af<|And.intro ad (And.intro ae (And.intro M l));have ah:=Af ag;simp only[Vm,asC] at d o v y W;go_in;go_upto_region 1 with fail;generalize ((w.alloc (K #[C (E ⟨e,g,O⟩) 1 i,C m es.length n] AI)).alloc (K #[(),C O 0 0,C O 0 0,(),(),(),C O 0 0] P8)).alloc (K #[.nilIface] Gx)=a7 at d o v y W|-;let⟨X,Y⟩:=o.o.c2;go_wp2_with fail;refine W.o.mono ?_;rintro u a1 ⟨rfl,b⟩;have z:=Af b;let⟨X,Y⟩:=(o.o.below z o.o.lt).c2;go_wp2_with fail;refine(az.o a1 (d.o.trans (z.o.mono d.o.size))).mono ?_;rintro u a8 ⟨a9,ba,ai,rfl,aj,ak,al,am,-,-⟩
 obtain⟨A,B,rfl⟩:∃A B,ai=[A,B]:=by
  match ai,aj with
  |[A,B],_=>exact⟨A,B,rfl⟩
 have a2:=Af ak;have a3:=Af al;have Z:=Af<|z.o.trans (am.mono z.o.size);go_wp2_with fail;refine(Aa0 a2 ⟨e,g,i,_,_,_,rfl,((d.o.trans (Z.o.mono d.o.size)).cell (Ad w _ ah)).trans ah⟩ a3 q.o.1 q.o.2.2.1 (q.o.2.2.2.deeds s (by simp)) (q.o.2.2.2.deeds t (by simp)) q.o.2.1).mono ?_;rintro u bb ⟨an,ao,ap,rfl,aq⟩;have aa:=Af<|Z.o.trans (aq.mono Z.o.size);have a:=Af<|v.o.below aa v.o.lt;have D:=Af<|y.o.below aa y.o.lt;have bc:=a.o.cell 0;have bd:=a.o.frozen 0;have be:=a.o.cell 1;have bf:=a.o.frozen 1;have bg:=a.o.cell 2;have bh:=a.o.frozen 2;have bi:=a.o.cell 3;have bj:=a.o.frozen 3;have bk:=a.o.cell 4;have bl:=a.o.frozen 4;have bm:=a.o.cell 5;have bn:=a.o.frozen 5;have bo:=a.o.cell 6;have bp:=a.o.frozen 6;have bq:=a.o.lt;have br:=D.o.cell 0;have bs:=D.o.frozen 0;have bt:=D.o.lt;go_wp2;have a4:=(Ae4 a (I J 3) (C O 0 0) (C O 0 0) () () () (C an ao ap)).far (p:=(w+1+1:Nat)) (by simp) .nilIface;have a5:=((Agu (g:=w.heap.size+1) D (by omega) (I J 3) (C O 0 0) (C O 0 0) () () () (C an ao ap)).put 0 .nilIface).cell 0;refine Ao (Agt _ rfl _ _ (w+1) (w+1+1) _ _ _ _ _ _ _ .nilIface rfl rfl a4 (by simpa using a5)) rfl ?_;exact⟨_,_,_,rfl,(YH (d.o.trans (aa.o.mono d.o.size)) (Ax _) _ _ _ _ _ _ _).setCell (p:=(w+1+1:Nat)) (by simp;omega) _⟩
end Go.Proofs.YtpoacbcnhpbdmaaGreatDoor
