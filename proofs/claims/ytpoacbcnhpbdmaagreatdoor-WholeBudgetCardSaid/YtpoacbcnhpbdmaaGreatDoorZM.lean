/-
  A part of the proof: Bx and what follows.
-/
import Derived.Test.YtpoacbcnhpbdmaaGreatDoorZH
import Derived.Test.YtpoacbcnhpbdmaaGreatDoorZI
import Derived.Orders
import Derived.OrdersIn
import Derived.Lib.ConvBytes
set_option linter.all false
set_option maxRecDepth 100000
set_option maxHeartbeats 32000000
open Go.Act renaming eval→Of
open Go.Addr renaming add→GW
open Array renaming all_eq_true_iff_forall_mem→Ou,getElem?_eq_none→HI,getElem?_setIfInBounds_ne→K2,replicate→Ur,replicate_succ→Fy,replicate_zero→Fz
open Go.RowKit.Below renaming refl→Ae
open Bool renaming not_eq_true'→HM,or_eq_true→H1,toNat_false→K4,toNat_true→K3
open ByteArray renaming size→HJ
open Go.CallsIn renaming inRound→Gg
open Go.Code renaming region→Us
open Go.Departure renaming mixedOrders→Ge
open Go.Instr renaming lookup→B1,makeSlice→Fw,mapUpdate→D9
open Go.KeepsOthers renaming setCell→GY
open Go.Lib renaming itoa→Ei,join→Ea,pieceU→E5
open List renaming append_toArray→FV,cons_append→Ez,count_pos_iff→Up,count_set→Uq,drop_of_length_le→L2,eq_nil_iff_forall_not_mem→Ov,filter_append→II,flatMap_append→H6,getElem?_eq_getElem→An,getElem?_eq_some_iff→Am,length_append→Ef,length_cons→C4,length_nil→Em,length_range→Uo,length_singleton→E3,mem_cons→B2,mem_cons_of_mem→Il,mem_filter→J3,mem_of_getElem?→Ap,nil_append→Es,push_toArray→FE,range→EZ,range_succ→HU,size_toArray→EQ
open Nat renaming le_refl→Aa,le_succ→Ax,le_trans→A8,lt_or_ge→ES,sub_zero→Ut,zero_le→A9
open Ne renaming symm→Eu
open Go.Oper renaming wpIn→J2
open Option renaming getD_some→IJ,map_eq_some_iff→Eo,map_some→HN,mem_toList→F0
open Go.Region renaming binds→IL,ready→FW,wanted→Gv
open Subtype renaming ext→IF
open Go renaming TypeId→Ab,bodyPost_ret→Ao,callsIn_wide→Dh,cell_one_new→En,grownBy_putObj'→GX,heap_alloc_new→D4,info_parts→A1,maxLen→Al,results→As,rounds_succ→Aq,undef→Ac,wpList_append_own_at→B9,wp_loop_rounds→CO,zeroValue→Ew
open Go.Value renaming cells→F2,int→A0,oneCell'→B4,ownBlock→A5,slice→Ar
open Go.World renaming block_lt_of_cell?→Ad,news_of_block→Ee,ownsRow_nil→Ep,setCell→Gh
open Go.World.ownsRow renaming cellAt→Ow
open Go.RowKit renaming run_makeMap→EC
open Go.Value renaming int→I,slice→C,pointer→Q,bool→T
open Go.IntKind renaming i64→J
open Go.Obj renaming cells→K
open Go.Obj renaming cells→H
open Go.Ending renaming returned→R
open Option renaming none→O,some→E
open Go renaming World→U,Value→N
namespace Go.Proofs.YtpoacbcnhpbdmaaGreatDoor
open Go.RowKit Go.Maps Go.Proofs.Tryz W
variable {w W X Y Z:World}{n k g c m i j b a:Nat}{v u z y:Value}{x t:Int}{p:TypeId}{q:List Value}{r:Array Value}{A:Option Addr}
attribute [local go_sem↓] Go.wp_at_zero Go.wp_at_succ
section
variable {w W W':World} {L:List (Nat×Obj)} {B:Nat} {msl:Value} {m:List UInt8}
end
section
attribute [local go_sem] Oper.semAt_some
def CP(l:List UInt8)(k f:Nat)(a:List (List UInt8)):Prop:=
 k<=l.length+1/\f<=k/\(k<=l.length->a++ll (E5 l f k) (l.drop k)=Cd l)/\(k=l.length+1->a=Cd l)/\a.length<=k
theorem N0(l:List UInt8):CP l 0 0 []:=⟨by omega,by omega,λ_=>by simp[E5,Cd],by omega,by simp⟩
theorem N3{l:List UInt8}{f:Nat}{b:List (List UInt8)}{c:UInt8}(h:CP l k f b)(a:l[k]?=c)(d:c≠10):CP l (k+1) f b:=by
 obtain⟨i,e,g,j,m⟩:=h;have n:k<l.length:=(Am.1 a).1;refine⟨by omega,by omega,λ_=>?_,by omega,by omega⟩;rw[<-g (by omega),RP a,ll,if_neg d,Qw e a]
theorem L8{l:List UInt8}{f:Nat}{a:List (List UInt8)}(h:CP l k f a)(d:l[k]?=E 10):CP l (k+1) (k+1) (a++[E5 l f k])/\(Cd l)[a.length]?=E (E5 l f k):=by
 obtain⟨g,i,e,j,m⟩:=h;have n:k<l.length:=(Am.1 d).1;have b:=e (by omega);rw[RP d,ll,if_pos rfl] at b;refine⟨⟨by omega,by omega,λ_=>?_,by omega,by simp;omega⟩,?_⟩
 .rw[<-b,Mo];simp
 .rw[<-b];simp
theorem M6{l:List UInt8}{f:Nat}{a:List (List UInt8)}(h:CP l k f a)(g:k=l.length)(d:f<k):CP l (k+1) (k+1) (a++[E5 l f k])/\(Cd l)[a.length]?=E (E5 l f k):=by
 obtain⟨i,j,e,m,n⟩:=h;have b:=e (by omega);rw[L2 (by omega),ll,if_neg (Lib.pieceU_ne l f k d (by omega))] at b;refine⟨⟨by omega,by omega,by omega,λ_=>b,by simp;omega⟩,?_⟩;rw[<-b];simp
theorem L9{l:List UInt8}{f:Nat}{a:List (List UInt8)}(h:CP l k f a)(d:k=l.length)(e:¬f<k):CP l (k+1) f a:=by
 obtain⟨g,i,b,j,m⟩:=h;obtain rfl:f=k:=by omega
 refine⟨by omega,by omega,by omega,λ_=>?_,by omega⟩;rw[<-b (by omega),L2 (by omega),ll,if_pos (Mo l f)];simp
theorem Qx{l:List UInt8}{f:Nat}{a:List (List UInt8)}(h:CP l k f a)(b:k=l.length+1):a=Cd l:=h.2.2.2.1 b
def KH(g d:Nat)(W W':U):Prop:=∀a b,a<d->W.cell? ⟨g,a,O⟩=E b->W'.cell? ⟨g,a,O⟩=E b
theorem KH.trans{A B C:U}(h:KH g n A B)(k:KH g n B C):KH g n A C:=λa b d e=>k a b d (h a b d e)
theorem KH.putObj(W:U)(l:Nat)(o o':Obj)(h:W.heap[l]?=o)(a:o.isCells=false):KH g n W (W.putObj l o'):=
 λe i _ b=>cell_kept b (GX W l o') (λj d=>by cases d;exact⟨o,h,a⟩)
theorem SV(v:N)(l:List UInt8)(w:U)(a:BU w v (bys l)):
 Calls prog 72 #[v] w λb d=>b=R (.func (.func 125) #[] #[w])/\d=w.alloc (K #[.string ⟨l.toArray⟩] 9):=by
 have e:=Qr a;go_in;go_wp2;go_ret;exact⟨rfl,rfl⟩
theorem AbT(D:Fence)(n:Nat)(ag:D.fn 125)(ah:D.round=O)(aw:1<=n)(y box:Nat)(l:List UInt8)(ax:l.length<=1000000000)(p ab:List Nat->U->Prop)
 (ac:∀(d:List Nat) (F:Nat) (W:U),p d W->d.length<(Cd l).length->YieldAt D (n-1) prog y #[I J ((F:Int)+1),BH ((Cd l)[F]?.getD [])] W λe W'=>
  (e=R (T true)/\p (d++[F]) W'/\KH box 1 W W')∨(e=R (T false)/\ab (d++[F]) W'))
 (W:U) (ai:W.cell? ⟨box,0,O⟩=E (.string ⟨l.toArray⟩)) (aj:p [] W):
 CallsIn D n prog 125 #[.func (.yield y) #[] #[],Q (E ⟨box,0,O⟩)] W λe W'=>(∃ak,e=R ak)/\
  ((∃ad,ad=EZ (Cd l).length/\p ad W')∨(∃d,(∃a,a<=(Cd l).length/\d=EZ a)/\ab d W')):=by
 refine callsIn_of_wp func125 rfl ag ?_ ah;simp only[ntmps125,EQ,C4,Em,Nat.reduceAdd,Nat.reduceSub,Fy,Fz,FE,FV,Es,Ez];gi_wp2
 gi_loopw [3,4,5] (λal am M wr=>∃(a f:Nat) (b:List (List UInt8)),M=I J a/\al=I J f/\am=I J ((b.length:Int)+1)/\CP l a f b/\p (EZ b.length) wr/\wr.cell? ⟨box,0,O⟩=E (.string ⟨l.toArray⟩)) (λ_ _ M _=>l.length+1-(intOf M).toNat)
 case atStart=>exact⟨0,0,[],rfl,rfl,rfl,N0 l,aj,ai⟩
 case round=>
  obtain⟨a,f,b,rfl,rfl,rfl,q,ae,G⟩:=hrel;have ay:a<=l.length+1:=q.1;have az:f<=a:=q.2.1;have a0:b.length<=a:=q.2.2.2.2;have r:=Af q;have t:=Af ae;clear q ae;by_cases S:a=l.length+1
  .have an:=Af<|Qx r.o S;have a1:¬(a:Int)<=(l.length:Int):=by omega
   clear S;gi_wp2
   go_end0
   exact⟨⟨_,rfl⟩,.inl (by rw[<-an.o];exact t.o)⟩
  .have a2:a<=l.length:=by omega
   clear S;by_cases k:a=l.length
   .have ao:decide ((a:Int)<(l.length:Int))=false:=by simp;omega
    have a3:¬a<l.length:=by omega
    have ap:((a:Int)==(l.length:Int))=true:=by simp;omega
    by_cases af:f<a
    .have aq:((f:Int)==(a:Int))=false:=by simp;omega
     obtain⟨u,g⟩:=M6 r.o k af;have X:b.length<(Cd l).length:=(Am.1 g).1;have v:BH ((Cd l)[b.length]?.getD [])=.string ((⟨l.toArray⟩:ByteArray).extract f a):=by rw[g];exact(RO l f a).symm
     have w:=ac _ b.length wr t.o (by rw[Uo];exact X);rw[v] at w;obtain⟨fn,ar,assign,body,x,i⟩:=w;have j:=Af u;clear u g v k;gi_wp2;refine i.mono ?_;rintro e au (⟨rfl,z,A⟩|⟨rfl,Y⟩)
     .have B:=Af<|And.intro z (A 0 _ (by omega) G);clear z A i x;gi_wp2
      go_roundw
      case rel=>exact⟨a+1,a+1,b++[E5 l f a],by go_num,by go_num,by simp,j.o,by rw[Ef,E3,HU];exact B.o.1,B.o.2⟩
      case measure=>simp[intOf]<;>omega
     .clear i x;gi_wp2;refine Ao (results_none rfl _ _ _) rfl ?_;exact⟨⟨_,rfl⟩,.inr ⟨_,⟨b.length+1,by omega,(HU).symm⟩,Y⟩⟩
    .have aq:((f:Int)==(a:Int))=true:=by simp;omega
     have j:=Af<|L9 r.o k af;clear k;gi_wp2
     go_roundw
     case rel=>exact⟨a+1,f,b,by go_num,rfl,rfl,j.o,t.o,G⟩
     case measure=>simp[intOf]<;>omega
   .have Z:a<l.length:=by omega
    have ao:decide ((a:Int)<(l.length:Int))=true:=by simp;omega
    have ap:((a:Int)==(l.length:Int))=false:=by simp;omega
    obtain⟨c,m⟩:∃c,l[a]?=E c:=⟨l[a],An Z⟩;have aa:a<(⟨l.toArray⟩:ByteArray).size:=by simpa[HJ] using Z
    have L:(⟨l.toArray⟩:ByteArray)[a]'aa=c:=by
     rw[An Z] at m;injection m
    by_cases o:c=10
    .have av:((⟨l.toArray⟩:ByteArray)[a]'aa).toNat=10:=by rw[L,o];rfl
     clear L;obtain⟨u,g⟩:=L8 r.o (by rw[m,o]);have X:b.length<(Cd l).length:=(Am.1 g).1;have v:BH ((Cd l)[b.length]?.getD [])=.string ((⟨l.toArray⟩:ByteArray).extract f a):=by rw[g];exact(RO l f a).symm
     have w:=ac _ b.length wr t.o (by rw[Uo];exact X);rw[v] at w;obtain⟨fn,ar,assign,body,x,i⟩:=w;have j:=Af u;clear u g v m o k;gi_wp2;refine i.mono ?_;rintro e au (⟨rfl,z,A⟩|⟨rfl,Y⟩)
     .have B:=Af<|And.intro z (A 0 _ (by omega) G);clear z A i x;gi_wp2
      go_roundw
      case rel=>exact⟨a+1,a+1,b++[E5 l f a],by go_num,by go_num,by simp,j.o,by rw[Ef,E3,HU];exact B.o.1,B.o.2⟩
      case measure=>simp[intOf]<;>omega
     .clear i x;gi_wp2;refine Ao (results_none rfl _ _ _) rfl ?_;exact⟨⟨_,rfl⟩,.inr ⟨_,⟨b.length+1,by omega,(HU).symm⟩,Y⟩⟩
    .have av:¬((((⟨l.toArray⟩:ByteArray)[a]'aa).toNat:Nat):Int)=10:=by
      rw[L];intro e;exact o<|UInt8.toNat_inj.1 (by show c.toNat=10;omega)
     clear L;have j:=Af<|N3 r.o m o;clear m o k;gi_wp2
     go_roundw
     case rel=>exact⟨a+1,f,b,by go_num,rfl,rfl,j.o,t.o,G⟩
     case measure=>simp[intOf]<;>omega
theorem N4(a:Fence)(n:Nat)(g:a.fn 125)(i:a.round=O)(j:1<=n)(box:Nat)(l:List UInt8)(k:l.length<=1000000000)(w:U)(b:w.cell? box=E (.string ⟨l.toArray⟩)):
 SeqStopsK a n prog 125 #[box] (λd:Nat=> #[A0 .i64 ((d:Int)+1),BH ((Cd l)[d]?.getD [])]) (KH box 1) (λm=>m=EZ (Cd l).length) (λo=>∃e,e<=(Cd l).length/\o=EZ e) (Cd l).length w:=λp q r t u _ _ v x=>
 AbT a n g i j p box l k q r v t ((u.cell (Ad w _ b)).trans b) x
end
section
open Go.WideMaps
section
variable {P:Program} {md:Region.Mode} {ops:Array Oper} {Q:Exit→Act→World→Prop}
theorem Hg{listed:Array Bool}(h:i∈FW md ops listed):∃e,ops[i]?=E e/\listed.getD i true=false/\∀a∈e.after,IL md a=true->listed.getD a.on false=true:=by
 unfold FW at h;rw[J3] at h;obtain⟨j,h⟩:=h;have g:i<ops.size:=by simpa using j
 simp only[Bool.and_eq_true,HM] at h;refine⟨ops[i],by simp[g],h.1,?_⟩;have d:=h.2;rw[show ops[i]?=ops[i] by simp[g]] at d;simp only[HN,IJ,Ou,H1,HM] at d;intro a k l;rcases d a k with b|b
 .rw[l] at b;cases b
 .exact b
theorem ML{l:Array Bool}(e:FW md ops l=[])(o:l.size=ops.size)(g:((EZ ops.size).all λi=>((ops[i]?.map (·.after)).getD #[]).all λa=>decide (a.on<i))=true):∀i,i<ops.size->l.getD i false=true:=by
 intro i
 induction i using Nat.strongRecOn with
 |ind i j=>
  intro b
  cases k:l.getD i false with
  |true=>rfl
  |false=>
   refine absurd ?_<|Ov.1 e i;unfold FW;rw[J3];refine⟨by simpa using b,?_⟩
   have m:l.getD i true=false:=by
    have:i<l.size:=by omega
    simpa[this] using k
   simp only[m,Bool.not_false,Bool.true_and];rw[show ops[i]?=ops[i] by simp[b]];simp only[HN,IJ,Ou,H1,HM];intro a n;refine Or.inr<|j a.on ?_ ?_
   all_goals
    have d:=List.all_eq_true.1 g i (by simpa using b);rw[show ops[i]?=ops[i] by simp[b]] at d;simp only[HN,IJ,Ou] at d;have:=of_decide_eq_true<|d a n;omega
theorem TW(d:Array Bool->Act->U->Prop)
 (step:∀l a w i o,d l a w->ops[i]?=E o->l.getD i true=false->(∀e∈o.after,IL md e=true->l.getD e.on false=true)->wpOp P ops Q i (λa' w'=>d (l.setIfInBounds i true) a' w') a w)
 (done:∀l a w,d l a w->FW md ops l=[]->Q .normal a w):∀(fuel:Nat) (l:Array Bool) (a:Act) (w:U),d l a w->l.toList.count false<=fuel->wpAny P md ops Q fuel l a w:=by
 intro fuel
 induction fuel with
 |zero=>
  intro l a w h n
  have g:FW md ops l=[]:=by
   refine Ov.2 λi k=>?_;let⟨o,m,b,_⟩:=Hg k
   have j:i<l.size:=by
    rcases ES i l.size with h|h
    .exact h
    .simp[HI h] at b
   have p:false∈l.toList:=by
    have:l[i]=false:=by simpa[j] using b
    rw[<-this];simp
   have:=Up.2 p;omega
  exact⟨g,done l a w h g⟩
 |succ fuel q=>
  intro l a w h n;refine⟨λg=>done l a w h g,λi k=>?_⟩;let⟨o,m,b,r⟩:=Hg k
  have j:i<l.size:=by
   rcases ES i l.size with h|h
   .exact h
   .simp[HI h] at b
  have t:l[i]=false:=by simpa[j] using b
  refine wpOp_mono (λa' w' u=>q _ a' w' u ?_)<|step l a w i o h m b r;have v:(l.setIfInBounds i true).toList=l.toList.set i true:=by simp
  have x:i<l.toList.length:=by simpa using j
  have y:l.toList[i]=false:=by simpa using t
  rw[v,Uq x,y,if_pos (by rfl),if_neg (by decide)];omega
theorem Me{id:Nat}{a:Act}{w:U}(d:P.follows .mixedOrders=true)(b:Array Bool->Act->U->Prop)(g:b (Ur ops.size false) a w.drew)
 (step:∀l a w i o,b l a w->ops[i]?=E o->l.getD i true=false->(∀e∈o.after,IL .any e=true->l.getD e.on false=true)->wpOp P ops Q i (λa' w'=>b (l.setIfInBounds i true) a' w') a w)
 (done:∀l a w,b l a w->FW .any ops l=[]->Q .normal a w):(Us id ops true).wp P Q a w:=
 wp_region_any d (TW b step done _ _ _ _ g (by simp))
end
abbrev KE:Type:={s:List UInt8//s.length<=100}
def F8:KS KE:=⟨9,λs=>.string ⟨s.1.toArray⟩,λs=>.string s.1,Keyed.of_law (string_law underlying9),λs=>keyOf_string_mk underlying9 (by have:=s.2;simp[HJ,Al];omega),λa b h=>IF (by injection h),λ_=>trivial⟩
end
section
open Go.WideMaps
section
variable {F:Fence} {m:Nat} {P:Program} {md:Region.Mode} {ops:Array Oper} {Q:Exit→Act→World→Prop}
theorem PM(d:Array Bool->Act->U->Prop)
 (step:∀l a w i o (K:Act->U->Prop),d l a w->ops[i]?=E o->l.getD i true=false->(∀e∈o.after,IL md e=true->l.getD e.on false=true)->(∀a' w',d (l.setIfInBounds i true) a' w'->K a' w')->if Gv o (yielded ops a.tmps)=true then J2 F m P o a w K Q else(∀f,o.about P w a.eval=E f->F.fn f)/\K (a.put o.dst Ac) w)
 (done:∀l a w,d l a w->FW md ops l=[]->Q .normal a w):∀(fuel:Nat) (l:Array Bool) (a:Act) (w:U),d l a w->l.toList.count false<=fuel->wpAnyIn F m P md ops Q fuel l a w:=by
 intro fuel
 induction fuel with
 |zero=>
  intro l a w h p
  have g:FW md ops l=[]:=by
   refine Ov.2 λi k=>?_;obtain⟨o,n,b,_⟩:=Hg k
   have j:i<l.size:=by
    rcases ES i l.size with h|h
    .exact h
    .simp[HI h] at b
   have q:false∈l.toList:=by
    have:l[i]=false:=by simpa[j] using b
    rw[<-this];simp
   have:=Up.2 q;omega
  exact⟨g,done l a w h g⟩
 |succ fuel r=>
  intro l a w h p;refine⟨λg=>done l a w h g,λi k=>?_⟩;obtain⟨o,n,b,t⟩:=Hg k
  have j:i<l.size:=by
   rcases ES i l.size with h|h
   .exact h
   .simp[HI h] at b
  have u:l[i]=false:=by simpa[j] using b
  refine wpOpIn_step n (λK v=>step l a w i o K h n b t (λa' w' x=>v a' w' (r _ a' w' x ?_)));have y:(l.setIfInBounds i true).toList=l.toList.set i true:=by simp
  have z:i<l.toList.length:=by simpa using j
  have A:l.toList[i]=false:=by simpa using u
  rw[y,Uq z,A,if_pos (by rfl),if_neg (by decide)];omega
theorem KM{id:Nat}{a:Act}{w:World}(d:P.follows .mixedOrders=true)(b:Array Bool->Act->World->Prop)(g:b (Ur ops.size false) a w.drew)
 (step:∀l a w i o (K:Act->World->Prop),b l a w->ops[i]?=some o->l.getD i true=false->(∀e∈o.after,IL .any e=true->l.getD e.on false=true)->(∀a' w',b (l.setIfInBounds i true) a' w'->K a' w')->if Gv o (yielded ops a.tmps)=true then J2 F m P o a w K Q else(∀f,o.about P w a.eval=some f->F.fn f)/\K (a.put o.dst Ac) w)
 (done:∀l a w,b l a w->FW .any ops l=[]->Q .normal a w):(Us id ops true).wpIn F m P Q a w:=
 wpIn_region_any d (PM b step done _ _ _ _ g (by simp))
end
end
def exR(tx:Int):List Ev:=[⟨2,tx,0,0,1,0,0,0⟩,⟨3,tx,0,0,0,0,0,3⟩]
def exW(tx:Int):List Ev:=[⟨2,tx,0,0,2,0,tx,0⟩,⟨3,tx,0,0,0,0,0,1⟩]
def exC:List Ev:=[⟨4,1,0,0,0,0,0,0⟩,⟨5,1,0,0,0,0,0,0⟩,⟨4,2,0,0,0,0,0,0⟩]
abbrev Aar:Obj:=K #[I J 4,I J 1,(),(),(),(),(),(),I J 5,I J 1,(),(),(),(),(),(),I J 4,I J 2,(),(),(),(),(),()] AJ
def ex0:List Ev:=[⟨1,1,0,0,0,0,0,0⟩,⟨1,2,1,0,0,0,0,0⟩]
def ex1:List Ev:=ex0++exR 1
def ex2:List Ev:=ex1++exR 2
def ex3:List Ev:=ex2++exW 1
def ex4:List Ev:=ex3++exW 2
def ex5:List Ev:=ex4++exC
abbrev NB(tx:Int):Obj:=K #[I J 2,tx,(),(),I J 1,(),(),(),I J 3,tx,(),(),(),(),(),I J 3] AJ
abbrev NC(tx:Int):Obj:=K #[I J 2,tx,(),(),I J 2,(),tx,(),I J 3,tx,(),(),(),(),(),I J 1] AJ
theorem Xh(tx:Int)(w:U):Calls prog 18 #[tx] w λa b=>a=R (C w 2 2)/\b=w.alloc (NB tx):=by
 go_in;go_wp2;go_ret;exact⟨rfl,rfl⟩
theorem Su(tx:Int)(w:U):Calls prog 19 #[tx] w λa b=>a=R (C w 2 2)/\b=w.alloc (NC tx):=by
 go_in;go_wp2;go_ret;exact⟨rfl,rfl⟩
theorem PN(w:U):Calls prog 7 #[] w λe ag=>∃ah ai,e=R (.agg #[ah,ai])/\Hy w.heap.size ag ah ai [⟨1,0⟩] ex5/\Below w.heap.size w ag:=by
 obtain⟨o,q,r,u,v⟩:=A1 GJ;have aj:=Af (BX (w:=w.alloc (K #[C O 0 0,C O 0 0] AI)) (cs:= #[I J 1,I J 1,I J 0,I J 0,I J 0,I J 0,I J 0,I J 0,I J 1,I J 2,I J 1,I J 0,I J 0,I J 0,I J 0,I J 0]) (t:=AJ) (B:=w.heap.size) (size:=8) (n:=2) rfl (by simp) (by unfold Al;omega));have L:=Af (AG w (K #[C O 0 0,C O 0 0] AI) (K #[I J 1,I J 1,I J 0,I J 0,I J 0,I J 0,I J 0,I J 0,I J 1,I J 2,I J 1,I J 0,I J 0,I J 0,I J 0,I J 0] AJ));have M:=Af ((Ah.new w AI #[C O 0 0,C O 0 0]).alloc (K #[I J 1,I J 1,I J 0,I J 0,I J 0,I J 0,I J 0,I J 0,I J 1,I J 2,I J 1,I J 0,I J 0,I J 0,I J 0,I J 0] AJ));go_in;go_upto_region 4 with fail;generalize ak:(w.alloc (K #[C O 0 0,C O 0 0] AI)).alloc (K #[I J 1,I J 1,I J 0,I J 0,I J 0,I J 0,I J 0,I J 0,I J 1,I J 2,I J 1,I J 0,I J 0,I J 0,I J 0,I J 0] AJ)=S at L M|-;have W:=Af (show S.ownsRow w.heap.size AJ 8 (C (E ⟨w.heap.size+1,0,O⟩) 2 2) 2 (ex0.flatMap BO) from by have d:=aj.o;rw[World.size_alloc,ak] at d;exact d);have x:=Af L.o;have al:=Af M.o;go_wp2_with fail;refine(Xh 1 S).mono ?_;rintro e X ⟨rfl,rfl⟩;go_wp2_with (at_builtin;refine B9 _ rfl (.tmp 7) (.tmp 9) 23 rfl w.heap.size AJ o (.agg #[I J 0,I J 0,I J 0,I J 0,I J 0,I J 0,I J 0,I J 0]) 8 64 underlying23 q r u v rfl (by decide) (.slice (E ⟨w.heap.size+1,0,O⟩) 2 2) 2 (ex0.flatMap BO) rfl (W.o.alloc _) ⟨_,0,O⟩ 2 2 ((exR 1).flatMap BO) rfl (by rfl) (Ee (D4 S (NB 1))) (DG _) (by unfold Al;omega) (by omega) (by have:=x.o.size;simp;omega) ?_;intro y Y a b _ j;obtain⟨am,an,rfl⟩:=Ag a;have Z:=Af (show Y.ownsRow w.heap.size AJ 8 (.slice am 4 an) 4 (ex1.flatMap BO) from by have d:=a;rw[<-H6] at d;exact d);have z:=Af ((x.o.alloc x.o.size (NB 1)).grown b (by have:=x.o.size;simp;omega) (λA g=>(Ai W.o g).1));have ao:=Af ((al.o.alloc (NB 1)).grown b (λe=>(al.o.alloc (NB 1)).apartRow (W.o.alloc _) (by decide) e.symm));clear a b j);refine(Xh 2 Y).mono ?_;rintro e X ⟨rfl,rfl⟩;go_wp2_with (at_builtin;refine B9 _ rfl (.tmp 11) (.tmp 13) 23 rfl w.heap.size AJ o (.agg #[I J 0,I J 0,I J 0,I J 0,I J 0,I J 0,I J 0,I J 0]) 8 64 underlying23 q r u v rfl (by decide) (.slice am 4 an) 4 (ex1.flatMap BO) rfl (Z.o.alloc _) ⟨_,0,O⟩ 2 2 ((exR 2).flatMap BO) rfl (by rfl) (Ee (D4 Y (NB 2))) (DG _) (by unfold Al;omega) (by omega) (by have:=z.o.size;simp;omega) ?_;intro y aa a b _ j;obtain⟨ap,aq,rfl⟩:=Ag a;have ab:=Af (show aa.ownsRow w.heap.size AJ 8 (.slice ap 6 aq) 6 (ex2.flatMap BO) from by have d:=a;rw[<-H6] at d;exact d);have D:=Af ((z.o.alloc z.o.size (NB 2)).grown b (by have:=z.o.size;simp;omega) (λA g=>(Ai Z.o g).1));have ar:=Af ((ao.o.alloc (NB 2)).grown b (λe=>(ao.o.alloc (NB 2)).apartRow (Z.o.alloc _) (by decide) e.symm));clear a b j);refine(Su 1 aa).mono ?_;rintro e X ⟨rfl,rfl⟩;go_wp2_with (at_builtin;refine B9 _ rfl (.tmp 15) (.tmp 17) 23 rfl w.heap.size AJ o (.agg #[I J 0,I J 0,I J 0,I J 0,I J 0,I J 0,I J 0,I J 0]) 8 64 underlying23 q r u v rfl (by decide) (.slice ap 6 aq) 6 (ex2.flatMap BO) rfl (ab.o.alloc _) ⟨_,0,O⟩ 2 2 ((exW 1).flatMap BO) rfl (by rfl) (Ee (D4 aa (NC 1))) (DG _) (by unfold Al;omega) (by omega) (by have:=D.o.size;simp;omega) ?_;intro y ac a b _ j;obtain⟨au,av,rfl⟩:=Ag a;have ad:=Af (show ac.ownsRow w.heap.size AJ 8 (.slice au 8 av) 8 (ex3.flatMap BO) from by have d:=a;rw[<-H6] at d;exact d);have F:=Af ((D.o.alloc D.o.size (NC 1)).grown b (by have:=D.o.size;simp;omega) (λA g=>(Ai ab.o g).1));have aw:=Af ((ar.o.alloc (NC 1)).grown b (λe=>(ar.o.alloc (NC 1)).apartRow (ab.o.alloc _) (by decide) e.symm));clear a b j);refine(Su 2 ac).mono ?_;rintro e X ⟨rfl,rfl⟩
 go_wp2_with (first
  |(at_builtin;refine B9 _ rfl (.tmp 19) (.tmp 21) 23 rfl w.heap.size AJ o (.agg #[I J 0,I J 0,I J 0,I J 0,I J 0,I J 0,I J 0,I J 0]) 8 64 underlying23 q r u v rfl (by decide) (.slice au 8 av) 8 (ex3.flatMap BO) rfl (ad.o.alloc _) ⟨_,0,O⟩ 2 2 ((exW 2).flatMap BO) rfl (by rfl) (Ee (D4 ac (NC 2))) (DG _) (by unfold Al;omega) (by omega) (by have:=F.o.size;simp;omega) ?_;intro y ax a b _ j;obtain⟨ay,az,rfl⟩:=Ag a;have ae:=Af (show ax.ownsRow w.heap.size AJ 8 (.slice ay 10 az) 10 (ex4.flatMap BO) from by have d:=a;rw[<-H6] at d;exact d);have G:=Af ((F.o.alloc F.o.size (NC 2)).grown b (by have:=F.o.size;simp;omega) (λA g=>(Ai ad.o g).1));have a0:=Af ((aw.o.alloc (NC 2)).grown b (λe=>(aw.o.alloc (NC 2)).apartRow (ad.o.alloc _) (by decide) e.symm));clear a b j)
  |(at_builtin;refine B9 _ rfl (.tmp 23) (.tmp 27) 23 rfl w.heap.size AJ o (.agg #[I J 0,I J 0,I J 0,I J 0,I J 0,I J 0,I J 0,I J 0]) 8 64 underlying23 q r u v rfl (by decide) (.slice ay 10 az) 10 (ex4.flatMap BO) rfl (ae.o.alloc _) ⟨_,0,O⟩ 3 3 ((exC).flatMap BO) rfl (by rfl) (Ee (D4 ax (Aar))) (DG _) (by unfold Al;omega) (by omega) (by have:=G.o.size;simp;omega) ?_;intro y i a b _ j;obtain⟨k,l,rfl⟩:=Ag a;have a1:=Af (show i.ownsRow w.heap.size AJ 8 (.slice k 13 l) 13 (ex5.flatMap BO) from by have d:=a;rw[<-H6] at d;exact d);have af:=Af ((G.o.alloc G.o.size (Aar)).grown b (by have:=G.o.size;simp;omega) (λA g=>(Ai ae.o g).1));have m:=Af ((a0.o.alloc (Aar)).grown b (λe=>(a0.o.alloc (Aar)).apartRow (ae.o.alloc _) (by decide) e.symm));obtain⟨a5,a6⟩:=m.o.c2;have a7:=m.o.frozen 0;have a8:=m.o.frozen 1;have a9:=m.o.lt;clear a b j))
 have ba:=Zc i (K #[I J 1,I J 0] Di);have g:=Bs (m.o) (a':=C (E ⟨i.heap.size,0,O⟩) 1 1) (b':=C k 13 l);refine Ao (KD _ rfl rfl _ _ w.heap.size (C (E ⟨i.heap.size,0,O⟩) 1 1) (C k 13 l) rfl (g.alloc _)) rfl ?_;have a2:(Ar k 13 l).ownBlock≠E w.heap.size:=m.o.apartRow a1.o (by decide);have a4:=AA (Ak (Ak a1.o (p:=⟨w.heap.size,0,O⟩) a2 (C (E ⟨i.heap.size,0,O⟩) 1 1)) (p:=⟨w.heap.size,1,O⟩) a2 (C k 13 l)) ((Ae _ _).alloc (Aa _) (K #[I J 1,I J 0] Di));have a3:=BX (w:=(i.setCell ⟨w.heap.size,0,O⟩ (C (E ⟨i.heap.size,0,O⟩) 1 1)).setCell ⟨w.heap.size,1,O⟩ (C k 13 l)) (cs:= #[I J 1,I J 0]) (t:=Di) (B:=w.heap.size) (size:=2) (n:=1) rfl (by have:=af.o.size;simpa[Gh] using this) (by unfold Al;omega);rw[show((i.setCell ⟨w.heap.size,0,O⟩ (C (E ⟨i.heap.size,0,O⟩) 1 1)).setCell ⟨w.heap.size,1,O⟩ (C k 13 l)).heap.size=i.heap.size by simp[Gh]] at a3;refine⟨_,_,rfl,⟨a3,a4⟩,?_⟩;exact(((af.o.setCell (p:=⟨w.heap.size,0,O⟩) (Aa _) _).setCell (p:=⟨w.heap.size,1,O⟩) (Aa _) _).alloc (by have:=af.o.size;simpa[Gh] using this) _)
abbrev tMk:Ab:=503
def D7(B:Nat)(W:U)(G:Nat)(os:List Ob)(es:List Ev):Prop:=∃a b,Ah W G tMk #[a,b]/\Hy B W a b os es/\B<=G
theorem D7.call{B:Nat}{W W':U}{G:Nat}{os:List Ob}{es:List Ev}(h:D7 B W G os es)(a:Below W W W'):D7 B W' G os es:=by
 obtain⟨d,e,b,g,i⟩:=h;exact⟨d,e,b.below a b.lt,g.call a,i⟩
theorem Aas{B:Nat}{W:U}{vo vl:N}{os:List Ob}{es:List Ev}(h:Hy B W vo vl os es):vo.ownBlock≠vl.ownBlock∨vo.ownBlock=O:=by
 cases a:vo.ownBlock with
 |none=>exact .inr rfl
 |some g=>
  refine .inl λb=>?_;let⟨i,d⟩:=Bm h.1 a;let⟨j,e⟩:=Bm h.2 b.symm;exact AQ d e (by decide) rfl
theorem LH{B:Nat}{W:U}{G:Nat}{os:List Ob}{es:List Ev}(h:D7 B W G os es)(ao:es.length<=100)(e:Ev):
 Calls prog 351 #[G,.agg (Aj e)] W λZ u=>Z=R (.tuple #[])/\D7 B u G os (es++[e])/\Below B W u/\∀i j,Ah W i 3 j->Ah u i 3 j:=by
 let⟨aa,ab,ac,ad,ae⟩:=A1 GJ;obtain⟨af,ap,d,v,z⟩:=h;obtain⟨ag,c,rfl⟩:=Ag v.2;have k:=Zc W<|K (Aj e) AJ;have g:=Af<|d.below k d.lt;have b:=Af<|v.call k;have a:=Af<|Ah.new W AJ (Aj e);have m:=Af<|k.mono (show B<=W.heap.size by have:=d.lt;omega);have A:=Af z;have ah:=Af (show B<=W.heap.size by have:=d.lt;omega);have w:=Af (λ(i:Nat) (j:Array N) (h:Ah W i 3 j)=>h.below k h.lt);unfold Aj at g b a m w|-;go_in;go_upto_region 1 with fail;have n:=Af<|A8 ah m.o.size;generalize W.heap.size=aq at a|-;generalize W.alloc (K #[e.kind,e.tx,e.thr,e.obj,e.op,e.key,e.val,e.ret] AJ)=o at g b a m n w|-;have ar:=g.o.cell 1;have au:=g.o.frozen 1;have av:=g.o.lt;have aw:=a.o.cell 0;have ax:=a.o.cell 1;have ay:=a.o.cell 2;have az:=a.o.cell 3;have a0:=a.o.cell 4;have a1:=a.o.cell 5;have a2:=a.o.cell 6;have a3:=a.o.cell 7;have a4:=a.o.lt
 go_region_law (refine step_append_lies _ (by rfl) (.tmp 9) (.tmp 11) 23 (by rfl) B AJ aa (.agg #[(),(),(),(),(),(),(),()]) 8 64 underlying23 ab ac ad ae rfl (by decide) (.slice ag es.length c) es.length (es.flatMap BO) (by rfl) (b.o.2.alloc _).drew o 1 1 (BO e) (by rfl) (by rfl) (Ee (cs:=Aj e) (t:=AJ) (fr:=(0,0)) ((Ah.new o AJ (Aj e)).drew)) (by have h:=DG [e];simpa using h) (by omega) (by unfold Al;omega) (by omega) (by have:=n.o;simp;omega) (o+1) (by simp) ?_;intro D F a5 L q _ _;have l:=((g.o.alloc (K (Aj e) AJ)).drew).grown q (λx=>((g.o.alloc (K (Aj e) AJ)).drew).apartRow ((b.o.2.alloc _).drew) (by decide) x.symm);have a6:=l.cell 1;have a7:=l.frozen 1;have a8:=l.lt;have r:=Af l;have ai:=q;have M:=Af L;have y:=Af q;clear l ai L q)
 all_goals
  go_end0
  have aj:=((m.o.alloc n (K (Aj e) AJ)).drew).grown y (by have:=n.o;simp;omega) (λa9 ak=>(Ai b.o.2 ak).1);have S:=((AA b.o.1 ((Ae _ o).alloc (Aa _) (K (Aj e) AJ)).drew)).kept y (Aas b).symm;have al:=r.o.apartRow S (by decide);have am:=r.o.apartRow M (by decide);refine⟨rfl,⟨af,_,by simpa using r.o.put 1 (C D (es.length+1) F),⟨Ak S (p:=⟨G,1,O⟩) al _,?_⟩,A⟩,aj.setCell (p:=⟨G,1,O⟩) A _,λi j d=>?_⟩
  rotate_left
  .have X:=(w.o i j d).alloc<|K (Aj e) AJ;have Y:=X.drew.grown y (λx=>X.apartRow (b.o.2.alloc _) (by decide) x.symm);exact Y.far (p:=⟨G,1,O⟩) (Y.apart r (by decide)) _
  have an:=Ak M (p:=⟨G,1,O⟩) am<|C D (es.length+1) F;simpa using an
theorem ND{B:Nat}{W:U}{G:Nat}{os:List Ob}{es:List Ev}(h:D7 B W G os es)(b:es.length<=100)(e:Ev):
 Calls prog 351 #[G,.agg (Aj e)] W λd a=>d=R (.tuple #[])/\D7 B a G os (es++[e])/\Below B W a:=
 (LH h b e).mono λ_ _ ⟨g,i,j,_⟩=>⟨g,i,j⟩
theorem Sv{B:Nat}{W:U}{G:Nat}{os:List Ob}{es:List Ev}(h:D7 B W G os es)(b:es.length<=100)(tx a:Int):
 Calls prog 294 #[G,tx,a] W λd e=>d=R (.tuple #[])/\D7 B e G os (es++[⟨1,tx,a,0,0,0,0,0⟩])/\Below B W e:=by
 have j:=Af h;have k:=Af b;go_in;go_wp2_with fail;refine(ND j (by have:=k.o;simp;omega) ⟨1,tx,a,0,0,0,0,0⟩).mono ?_;rintro d o ⟨rfl,g,i⟩;have l:=Af g;have m:=Af i;go_wp2
 go_end0
 exact⟨rfl,by have n:=l.o;simpa using n,m⟩
theorem Xi{B:Nat}{W:U}{G:Nat}{os:List Ob}{es:List Ev}(h:D7 B W G os es)(d:es.length<=90)(tx a op key val ret got:Int):
 Calls prog 302 #[G,tx,a,op,key,val,ret,got] W λb e=>b=R (.tuple #[])/\D7 B e G os (es++[⟨2,tx,0,a,op,key,val,0⟩,⟨3,tx,0,0,0,0,got,ret⟩])/\Below B W e:=by
 have m:=Af h;have g:=Af d;go_in;go_wp2_with fail;refine(ND m (by have:=g.o;simp;omega) ⟨2,tx,0,a,op,key,val,0⟩).mono ?_;rintro b t ⟨rfl,i,j⟩;have n:=Af i;have o:=Af j;go_wp2_with fail;refine(ND n (by have:=g.o;simp;omega) ⟨3,tx,0,0,0,0,got,ret⟩).mono ?_;rintro b u ⟨rfl,k,l⟩;have p:=Af k;have q:=Af<|o.o.trans l;go_wp2
 go_end0
 exact⟨rfl,by have r:=p.o;simpa using r,q⟩
theorem Xj{B:Nat}{W:U}{G:Nat}{os:List Ob}{es:List Ev}(h:D7 B W G os es)(b:es.length<=90)(tx a got:Int):
 Calls prog 297 #[G,tx,a,got] W λd e=>d=R (.tuple #[])/\D7 B e G os (es++[⟨2,tx,0,a,1,0,0,0⟩,⟨3,tx,0,0,0,0,got,3⟩])/\Below B W e:=by
 have j:=Af h;have k:=Af b;go_in;go_wp2_with fail;refine(Xi j (by have:=k.o;simp;omega) tx a 1 0 0 3 got).mono ?_;rintro d o ⟨rfl,g,i⟩;have l:=Af g;have m:=Af i;go_wp2
 go_end0
 exact⟨rfl,by have n:=l.o;simpa using n,m⟩
theorem PO{B:Nat}{W:U}{G:Nat}{os:List Ob}{es:List Ev}(h:D7 B W G os es)(b:es.length<=90)(tx a val:Int):
 Calls prog 295 #[G,tx,a,val] W λd e=>d=R (.tuple #[])/\D7 B e G os (es++[⟨2,tx,0,a,2,0,val,0⟩,⟨3,tx,0,0,0,0,0,1⟩])/\Below B W e:=by
 have j:=Af h;have k:=Af b;go_in;go_wp2_with fail;refine(Xi j (by have:=k.o;simp;omega) tx a 2 0 val 1 0).mono ?_;rintro d o ⟨rfl,g,i⟩;have l:=Af g;have m:=Af i;go_wp2
 go_end0
 exact⟨rfl,by have n:=l.o;simpa using n,m⟩
theorem PP{B:Nat}{W:U}{G:Nat}{os:List Ob}{es:List Ev}(h:D7 B W G os es)(i:es.length<=80)(tx a b:Int)(d:Ah W g 3 #[a,b]):
 Calls prog 299 #[G,tx,C g 2 2] W λe j=>e=R (.tuple #[])/\D7 B j G os (es++[⟨a,tx,0,0,0,0,0,0⟩,⟨b,tx,0,0,0,0,0,0⟩])/\Below B W j:=by
 have u:=Af h;have k:=Af i;have l:=Af d;let⟨m,n⟩:=d.c2;go_in;go_upto_region 1 with fail;refine CO 3 ?_;rw[Aq];go_wp2_with fail;refine(LH u (by have:=k.o;omega) ⟨a,tx,0,0,0,0,0,0⟩).mono ?_;rintro e D ⟨rfl,o,p,q⟩;have v:=Af o;have w:=Af p;have x:=Af<|q _ _ l;let⟨m,n⟩:=x.o.c2;go_wp2;rw[Aq];go_wp2_with fail;refine(LH v (by have:=k.o;simp;omega) ⟨b,tx,0,0,0,0,0,0⟩).mono ?_;rintro e F ⟨rfl,r,t,-⟩;have y:=Af r;have z:=Af<|w.o.trans t;go_wp2;rw[Aq];go_wp2
 go_end0
 exact⟨rfl,by have A:=y.o;simpa using A,z⟩
theorem TX{B:Nat}{W:U}{G:Nat}{os:List Ob}{es:List Ev}(h:D7 B W G os es)(b:es.length<=80)(tx:Int):
 Calls prog 296 #[G,tx] W λd e=>d=R (.tuple #[])/\D7 B e G os (es++[⟨4,tx,0,0,0,0,0,0⟩,⟨5,tx,0,0,0,0,0,0⟩])/\Below B W e:=by
 have g:B<=W.heap.size:=by obtain⟨p,q,k,_,r⟩:=h;have:=k.lt;omega
 have a:=Zc W<|K #[I J 4,I J 5] 3;have l:=Af<|PP (h.call a) b tx 4 5 (Ah.new W 3 #[I J 4,I J 5]);have m:=Af<|a.mono g;go_in;go_wp2_with fail;refine l.o.mono ?_;rintro d t ⟨rfl,i,j⟩;have n:=Af i;have o:=Af<|m.o.trans j;go_wp2
 go_end0
 exact⟨rfl,n,o⟩
def CY:List Ev:=[⟨1,2,1,0,0,0,0,0⟩,⟨2,2,0,0,1,0,0,0⟩,⟨3,2,0,0,0,0,0,3⟩,⟨1,1,0,0,0,0,0,0⟩,⟨2,1,0,0,2,0,1,0⟩,⟨3,1,0,0,0,0,0,1⟩,⟨2,1,0,1,2,0,1,0⟩,⟨3,1,0,0,0,0,0,1⟩,⟨4,1,0,0,0,0,0,0⟩,⟨5,1,0,0,0,0,0,0⟩,⟨2,2,0,1,1,0,0,0⟩,⟨3,2,0,0,0,0,1,3⟩,⟨7,2,0,0,0,0,0,0⟩,⟨6,2,0,0,0,0,0,0⟩]
theorem Acz{B:Nat}{W:U}{G:Nat}{os:List Ob}(h:D7 B W G os []):
 Calls prog 298 #[G] W λa e=>a=R (.tuple #[])/\D7 B e G os CY/\Below B W e:=by
 have A:=Af h;go_in;go_wp2_with fail;refine(Sv A (by decide) 2 1).mono ?_;rintro a ai ⟨rfl,g,i⟩;have D:=Af g;have F:=Af i;go_wp2_with fail;refine(Xj D (by decide) 2 0 0).mono ?_;rintro a aj ⟨rfl,j,k⟩;have L:=Af j;have M:=Af<|F.o.trans k;go_wp2_with fail;refine(Sv L (by decide) 1 0).mono ?_;rintro a ak ⟨rfl,l,m⟩;have S:=Af l;have X:=Af<|M.o.trans m;go_wp2_with fail;refine(PO S (by decide) 1 0 1).mono ?_;rintro a al ⟨rfl,n,o⟩;have Y:=Af n;have Z:=Af<|X.o.trans o;go_wp2_with fail;refine(PO Y (by decide) 1 1 1).mono ?_;rintro a am ⟨rfl,p,q⟩;have aa:=Af p;have ab:=Af<|Z.o.trans q;go_wp2_with fail;refine(TX aa (by decide) 1).mono ?_;rintro a an ⟨rfl,r,t⟩;have ac:=Af r;have ad:=Af<|ab.o.trans t;go_wp2_with fail;refine(Xj ac (by decide) 2 1 1).mono ?_;rintro a b ⟨rfl,u,v⟩;have w:=Af u;have ae:=Af<|ad.o.trans v;go_wp2_with fail;have d:=Zc b<|K #[I J 7,I J 6] 3;have x:B<=b.heap.size:=by obtain⟨ao,ap,af,_,aq⟩:=w.o;have:=af.lt;omega
 refine(PP (w.o.call d) (by decide) 2 7 6 (Ah.new b 3 #[I J 7,I J 6])).mono ?_;rintro a ar ⟨rfl,y,z⟩;have ag:=Af y;have ah:=Af<|ae.o.trans ((d.mono x).trans z);go_wp2_with fail
 go_end0
 exact⟨rfl,ag,ah⟩
abbrev tMf:Ab:=460
abbrev PQ:Ab:=22
theorem NE(a:FuncId)(A:Option Addr)(n c:Nat)(W:U):Calls prog 292 #[.func (.func a) #[] #[],C A n c] W λb d=>b=R (.func (.func 350) #[] #[(W+1:Nat),W])/\d=(W.alloc (K #[.func (.func a) #[] #[]] tMf)).alloc (K #[C A n c] PQ):=by
 go_in;go_wp2;go_ret;exact⟨rfl,rfl⟩
theorem Xk{W:U}{x y:Nat}(i:Ah W x tMf #[.func (.func 298) #[] #[]])(z:Ah W y PQ #[C b 2 2])(e:Ah W b Di #[I J 1,(),I J 1,()]):
 Calls prog 350 #[y,x] W λS X=>∃A D,S=R (.agg #[A,D])/\Hy W X A D [⟨1,0⟩,⟨1,0⟩] CY/\Below W W X:=by
 let⟨ak,al,am,an,ao⟩:=A1 Nq;have d:=Zc W<|K #[C O 0 0,C O 0 0] AI;have m:=Af d;have j:=Af<|Ah.new W AI #[C O 0 0,C O 0 0];have o:=Af<|i.below d i.lt;have q:=Af<|z.below d z.lt;have F:=Af<|e.below d e.lt;go_in;go_upto_region 1 with fail;generalize W.alloc (K #[C O 0 0,C O 0 0] AI)=a at m j o q F|-;have ap:=q.o.cell 0;have aq:=q.o.lt;have d:=Zc a<|K #[] Di;have Y:=Af (show(a.alloc (K #[] Di)).ownsRow a Di 2 (C a 0 0) 0 [] from BX (w:=a) (cs:= #[]) (t:=Di) (B:=a.heap.size) (size:=2) (n:=0) rfl (Aa _) (by unfold Al;omega));have Z:=Af<|F.o.alloc (K #[] Di);have aa:=Af d;go_wp2_with (at_builtin;refine B9 _ rfl (.tmp 4) (.tmp 5) 22 rfl a Di ak (.agg #[(),()]) 2 16 underlying22 al am an ao rfl (by decide) (.slice a 0 0) 0 [] rfl Y b 2 2 [I J 1,(),I J 1,()] rfl rfl (Ee Z) (by simp[B4]) (by unfold Al;omega) (by omega) (by simp) ?_;intro a2 g G ab _ ar;obtain⟨r,k6,rfl⟩:=Ag G;have k:=aa.o.grown ab (by simp) (λx i=>by simp[A5] at i;omega);have ac:=Af (j.o.below k j.o.lt);have ad:=Af (o.o.below k o.o.lt);have L:=Af (m.o.trans (k.mono m.o.size));have au:=Af (show g.ownsRow a Di 2 (.slice r 2 k6) 2 (([⟨1,0⟩,⟨1,0⟩]:List Ob).flatMap CL) from G);have ae:=Af (show W.heap.size+1<=a.heap.size from j.o.lt);have av:=Af (A8 ae (show a.heap.size<=g.heap.size from k.size));have aw:=ad.o.cell 0;have ax:=ad.o.lt;clear G ab ar k);have af:D7 (W+1) (g.alloc (K #[C r 2 k6,C O 0 0] tMk)) g.heap.size [⟨1,0⟩,⟨1,0⟩] []:=⟨_,_,Ah.new g tMk _,⟨AA (Aw au ae) ((Ae _ g).alloc (Aa _) _),Ep _ _ _ _⟩,av⟩;have ag:=L.o.alloc L.o.size<|K #[C r 2 k6,C O 0 0] tMk;refine(Acz af).mono ?_;rintro S a3 ⟨rfl,⟨A,D,ah,u,-⟩,e⟩;obtain⟨ay,k7,rfl⟩:=Ag u.1;obtain⟨az,k8,rfl⟩:=Ag u.2;have l:=Af<|(ac.o.alloc (K #[C r 2 k6,C O 0 0] tMk)).below e (Nat.lt_succ_self _);have a0:=Af<|ag.trans (e.mono (Ax _));have a1:=Af ah;have v:=Af u;let⟨a4,a5⟩:=a1.o.c2;let⟨a6,a7⟩:=l.o.c2;have a8:=l.o.frozen 0;have a9:=l.o.frozen 1;have ba:=l.o.lt;go_wp2_with fail;refine Ao (KD _ rfl rfl _ _ W _ _ rfl (Bs l)) rfl ?_;have ai:(Ar ay 2 k7).ownBlock≠E W.heap.size:=λM=>by have:=(Ai v.o.1 M).1;omega
 have aj:(Ar az 14 k8).ownBlock≠E W.heap.size:=λM=>by have:=(Ai v.o.2 M).1;omega
 exact⟨_,_,rfl,⟨Aw (Ak (Ak v.o.1 (p:=W) ai _) (p:=⟨W.heap.size,1,O⟩) ai _) (Ax _),Aw (Ak (Ak v.o.2 (p:=W) aj _) (p:=⟨W.heap.size,1,O⟩) aj _) (Ax _)⟩,(a0.o.setCell (p:=W) (Aa _) _).setCell (p:=⟨W.heap.size,1,O⟩) (Aa _) _⟩
abbrev Zl:Ab:=417
def JN:KE:=⟨[116,111,114,110],by decide⟩
def FnT(w:U)(v:N):Prop:=∃a b d,v=.func (.func 350) #[] #[Q (E ⟨b,0,O⟩),Q (E ⟨a,0,O⟩)]/\Ah w a tMf #[.func (.func 298) #[] #[]]/\Ah w b PQ #[C (E ⟨d,0,O⟩) 2 2]/\Ah w d Di #[I J 1,(),I J 1,()]
theorem FnT.kept{w w':U}{v:N}(h:FnT w v)(a:∀g cs t,Ah w g t cs->Ah w' g t cs):FnT w' v:=by
 obtain⟨b,d,e,i,j,k,l⟩:=h;exact⟨b,d,e,i,a _ _ _ j,a _ _ _ k,a _ _ _ l⟩
structure HsF (w0:U) (p:Nat) (L:Nat->Bool) (t:Nat->N) (w:U):Prop where
 bl:Below w0 w0 w
 t1:t 1=p
 bp:Ah w p Di #[I J 1,()]
 z1:L 1=true->t 4=.agg #[I J 1,()]
 z5:L 5=true->t 7=.agg #[I J 1,()]
 z6:L 6=true->t 8=.agg #[I J 1,()]
 z10:L 10=true->t 11=.agg #[I J 1,()]
 s2:L 2=true->∃b,t 5=C (E ⟨b,0,O⟩) 1 1
 s7:L 7=true->∃b,t 9=C (E ⟨b,0,O⟩) 2 2/\Ah w b Di #[I J 1,(),I J 1,()]
 s11:L 11=true->∃b,t 12=C (E ⟨b,0,O⟩) 1 1
 s18:L 18=true->∃b,t 18=C (E ⟨b,0,O⟩) 4 4
 f3:L 3=true->∃F c,t 6=.func (.func F) #[] c
 f8:L 8=true->FnT w (t 10)
 f12:L 12=true->∃F c,t 13=.func (.func F) #[] c
 f19:L 19=true->∃F c,t 19=.func (.func F) #[] c
 m0:L 0=true->∃m n f,t 3=.map (E m)/\Bi F8 w m n f/\n<=(L 4).toNat+(L 9).toNat+(L 13).toNat+(L 20).toNat/\w0.heap.size<=m/\(L 9=true->∃v,f JN=E v/\FnT w v)
 g14:L 14=true->t 14=.agg #[I J 1,I J 5]
 g15:L 15=true->t 15=.agg #[I J 2,()]
 g16:L 16=true->t 16=.agg #[I J 3,()]
 g17:L 17=true->t 17=.agg #[I J 4,()]
 d9:L 9=true->L 0=true
 d21:L 21=true->L 0=true
 d22:L 22=true->L 0=true
 v21:L 21=true->t 20=t 3
 v22:L 22=true->t 0=t 3
def JU(w0:U)(p:Nat)(l:Array Bool)(a:Act)(w:U):Prop:=l.size=23/\a.tmps.size=21/\a.defers=[]/\HsF w0 p (λb=>l.getD b false) (λd=>a.tmps[d]?.getD Ac) w
theorem AeH{l:Array Bool}(h:l.size=23)(d:i<23):(λa=>(l.setIfInBounds i true).getD a false)=λa=>if a=i then true else l.getD a false:=by
 funext a
 by_cases b:a=i
 .subst b;simp[h,d]
 .rw[if_neg b];simp[K2 (Eu b)]
theorem Agd{t:Array N}{d:Nat}(v:N)(h:t.size=21)(e:d<21):(λa=>(t.setIfInBounds d v)[a]?.getD Ac)=λa=>if a=d then v else t[a]?.getD Ac:=by
 funext a
 by_cases b:a=d
 .subst b;simp[h,e]
 .rw[if_neg b,K2 (Eu b)]
theorem JU.put{w0 w':U}{p d:Nat}{l:Array Bool}{a:Act}{v:N}(b:l.size=23)(e:a.tmps.size=21)(k:a.defers=[])(m:i<23)(n:d<21)(h:HsF w0 p (λg=>if g=i then true else l.getD g false) (λj=>if j=d then v else a.tmps[j]?.getD Ac) w'):
 JU w0 p (l.setIfInBounds i true) {tmps:=a.tmps.setIfInBounds d v,defers:=a.defers} w':=⟨by simpa using b,by simpa using e,k,by rw[AeH b m,Agd v e n];exact h⟩
theorem JU.none{w0 w':U}{p:Nat}{l:Array Bool}{a:Act}(b:l.size=23)(e:a.tmps.size=21)(g:a.defers=[])(j:i<23)(h:HsF w0 p (λd=>if d=i then true else l.getD d false) (λk=>a.tmps[k]?.getD Ac) w'):
 JU w0 p (l.setIfInBounds i true) a w':=⟨by simpa using b,e,g,by rw[AeH b j];exact h⟩
theorem HsF.call{w0 w w':U}{p:Nat}{L:Nat->Bool}{t:Nat->N}(h:HsF w0 p L t w)(b:Below w w w'):HsF w0 p L t w':=by
 have d:∀e g t,Ah w e t g->Ah w' e t g:=λe g t k=>k.below b k.lt;exact⟨h.bl.trans (b.mono h.bl.size),h.t1,h.bp.below b h.bp.lt,h.z1,h.z5,h.z6,h.z10,h.s2,λa=>by obtain⟨l,i,j⟩:=h.s7 a;exact⟨l,i,d _ _ _ j⟩,h.s11,h.s18,h.f3,λa=>(h.f8 a).kept d,h.f12,h.f19,λa=>by obtain⟨m,n,f,i,j,o,q,r⟩:=h.m0 a;exact⟨m,n,f,i,j.call b,o,q,λa=>by obtain⟨u,v,x⟩:=r a;exact⟨u,v,x.kept d⟩⟩,h.g14,h.g15,h.g16,h.g17,h.d9,h.d21,h.d22,h.v21,h.v22⟩
theorem Xl{l:Array Bool}(h:l.getD i true=false):l.getD i false=false:=by
 cases a:l[i]? with
 |none=>simp[a] at h
 |some b=>simp[a] at h|-;exact h
theorem Hz{l:Array Bool}{p:Prop}(h:l.getD i true=false)(e:l.getD i false=true):p:=by rw[Xl h] at e;cases e
theorem HsF.turn{w0 w w':U}{p:Nat}{L:Nat->Bool}{t:Nat->N}(h:HsF w0 p L t w){f:KE->Option N}(i:Bi F8 w m n f)(k:w0.heap.size<=m)(d:w.mapTurned w' m):(∀a b t,Ah w a t b->Ah w' a t b)/\Below w0 w0 w':=by
 refine⟨λa b t e=>e.grown d.grown (λj=>i.apart e (Option.some.inj j)),h.bl.grown d.grown h.bl.size (λl g=>by injection g with g;omega)⟩
theorem Mf(w:U):Calls prog 254 #[] w λm ag=>∃r n f G,m=R (.map (E r))/\Bi F8 ag r n f/\f JN=E G/\FnT ag G/\Below w w ag:=by
 have aq:=Zc w<|K #[I J 1,()] Di;have a0:=Af aq;have a1:=Af<|Ah.new w Di #[I J 1,()];clear aq;go_in;go_upto_region 2 with fail;refine Me (by kernel_rfl) (JU w w) ?start ?step ?done
 case start=>
  refine⟨rfl,rfl,rfl,?_⟩;refine⟨a0.o.drew,rfl,a1.o.drew,?_,?_,?_,?_,?_,?_,?_,?_,?_,?_,?_,?_,?_,?_,?_,?_,?_,?_,?_,?_,?_,?_⟩
  all_goals
   intro m;exact absurd m (by simp)
 case step=>
  intro e a2 w a3 a9 ah j k i;obtain⟨ar,au,av,a⟩:=ah;have b:=Af<|And.intro ar (And.intro au av);clear ar au av
  match a3,j with
  |1,j=>
   obtain rfl:=Option.some.inj j;have v:=a.t1;have ai:=a.bp.cell 0;have aj:=a.bp.cell 1;have g:=Af a;have o:=Af k;clear i k a;unfold wpOp;refine Or.inl ?_;go_simp;refine JU.put (i:=1) (d:=4) b.o.1 b.o.2.1 b.o.2.2 (by decide) (by decide) ?_;exact {g.o with z1:=λ_=>rfl}
  |5,j=>
   obtain rfl:=Option.some.inj j;have v:=a.t1;have ai:=a.bp.cell 0;have aj:=a.bp.cell 1;have g:=Af a;have o:=Af k;clear i k a;unfold wpOp;refine Or.inl ?_;go_simp;refine JU.put (i:=5) (d:=7) b.o.1 b.o.2.1 b.o.2.2 (by decide) (by decide) ?_;exact {g.o with z5:=λ_=>rfl}
  |6,j=>
   obtain rfl:=Option.some.inj j;have v:=a.t1;have ai:=a.bp.cell 0;have aj:=a.bp.cell 1;have g:=Af a;have o:=Af k;clear i k a;unfold wpOp;refine Or.inl ?_;go_simp;refine JU.put (i:=6) (d:=8) b.o.1 b.o.2.1 b.o.2.2 (by decide) (by decide) ?_;exact {g.o with z6:=λ_=>rfl}
  |10,j=>
   obtain rfl:=Option.some.inj j;have v:=a.t1;have ai:=a.bp.cell 0;have aj:=a.bp.cell 1;have g:=Af a;have o:=Af k;clear i k a;unfold wpOp;refine Or.inl ?_;go_simp;refine JU.put (i:=10) (d:=11) b.o.1 b.o.2.1 b.o.2.2 (by decide) (by decide) ?_;exact {g.o with z10:=λ_=>rfl}
  |14,j=>
   obtain rfl:=Option.some.inj j;have g:=Af a;have o:=Af k;clear i k a;unfold wpOp;refine Or.inl ?_;go_simp;refine JU.put (i:=14) (d:=14) b.o.1 b.o.2.1 b.o.2.2 (by decide) (by decide) ?_;exact {g.o with g14:=λ_=>rfl}
  |15,j=>
   obtain rfl:=Option.some.inj j;have g:=Af a;have o:=Af k;clear i k a;unfold wpOp;refine Or.inl ?_;go_simp;refine JU.put (i:=15) (d:=15) b.o.1 b.o.2.1 b.o.2.2 (by decide) (by decide) ?_;exact {g.o with g15:=λ_=>rfl}
  |16,j=>
   obtain rfl:=Option.some.inj j;have g:=Af a;have o:=Af k;clear i k a;unfold wpOp;refine Or.inl ?_;go_simp;refine JU.put (i:=16) (d:=16) b.o.1 b.o.2.1 b.o.2.2 (by decide) (by decide) ?_;exact {g.o with g16:=λ_=>rfl}
  |17,j=>
   obtain rfl:=Option.some.inj j;have g:=Af a;have o:=Af k;clear i k a;unfold wpOp;refine Or.inl ?_;go_simp;refine JU.put (i:=17) (d:=17) b.o.1 b.o.2.1 b.o.2.2 (by decide) (by decide) ?_;exact {g.o with g17:=λ_=>rfl}
  |0,j=>
   obtain rfl:=Option.some.inj j;have ba:= @EC prog;have x:=a.call<|(Ae _ w).alloc (Aa _) (.map #[] 0);have g:=Af a;have o:=Af k;clear i k a;unfold wpOp;refine Or.inl ?_;go_simp;refine JU.put (i:=0) (d:=3) b.o.1 b.o.2.1 b.o.2.2 (by decide) (by decide) ?_;exact {x with m0:=λ_=>⟨w.heap.size,0,λ_=>O,rfl,Bi.made F8 w,A9 _,g.o.bl.size,λm=>Hz o (g.o.d9 m)⟩,d9:=λ_=>rfl,d21:=λ_=>rfl,d22:=λ_=>rfl,v21:=λm=>Hz o (g.o.d21 m),v22:=λm=>Hz o (g.o.d22 m)}
  |2,j=>
   obtain rfl:=Option.some.inj j;have p:=a.z1<|i ⟨1,.data⟩ (by simp) rfl;have x:=a.call<|(Ae _ w).alloc (Aa _) (K #[I J 1,()] Di);have g:=Af a;have o:=Af k;clear i k a;unfold wpOp;refine Or.inl ?_;go_simp;refine JU.put (i:=2) (d:=5) b.o.1 b.o.2.1 b.o.2.2 (by decide) (by decide) ?_;exact {x with s2:=λ_=>⟨_,rfl⟩}
  |7,j=>
   obtain rfl:=Option.some.inj j;have p:=a.z5<|i ⟨5,.data⟩ (by simp) rfl;have v:=a.z6<|i ⟨6,.data⟩ (by simp) rfl;have x:=a.call<|(Ae _ w).alloc (Aa _) (K #[I J 1,(),I J 1,()] Di);have g:=Af a;have o:=Af k;clear i k a;unfold wpOp;refine Or.inl ?_;go_simp;refine JU.put (i:=7) (d:=9) b.o.1 b.o.2.1 b.o.2.2 (by decide) (by decide) ?_;exact {x with s7:=λ_=>⟨_,rfl,Ah.new w Di _⟩}
  |11,j=>
   obtain rfl:=Option.some.inj j;have p:=a.z10<|i ⟨10,.data⟩ (by simp) rfl;have x:=a.call<|(Ae _ w).alloc (Aa _) (K #[I J 1,()] Di);have g:=Af a;have o:=Af k;clear i k a;unfold wpOp;refine Or.inl ?_;go_simp;refine JU.put (i:=11) (d:=12) b.o.1 b.o.2.1 b.o.2.2 (by decide) (by decide) ?_;exact {x with s11:=λ_=>⟨_,rfl⟩}
  |18,j=>
   obtain rfl:=Option.some.inj j;have p:=a.g14<|i ⟨14,.data⟩ (by simp) rfl;have v:=a.g15<|i ⟨15,.data⟩ (by simp) rfl;have S:=a.g16<|i ⟨16,.data⟩ (by simp) rfl;have ak:=a.g17<|i ⟨17,.data⟩ (by simp) rfl;have x:=a.call<|(Ae _ w).alloc (Aa _) (K #[I J 1,I J 5,I J 2,(),I J 3,(),I J 4,()] Di);have g:=Af a;have o:=Af k;clear i k a;unfold wpOp;refine Or.inl ?_;go_simp;refine JU.put (i:=18) (d:=18) b.o.1 b.o.2.1 b.o.2.2 (by decide) (by decide) ?_;exact {x with s18:=λ_=>⟨_,rfl⟩}
  |3,j=>
   obtain rfl:=Option.some.inj j;let⟨l,p⟩:=a.s2<|i ⟨2,.data⟩ (by simp) rfl;have g:=Af a;have o:=Af k;clear i k a;unfold wpOp;refine Or.inl ?_;go_simp;refine(NE 293 _ _ _ w).mono ?_;rintro al B ⟨rfl,rfl⟩;have x:=g.o.call<|AG w (K #[.func (.func 293) #[] #[]] tMf) (K #[C l 1 1] PQ);refine JU.put (i:=3) (d:=6) b.o.1 b.o.2.1 b.o.2.2 (by decide) (by decide) ?_;exact {x with f3:=λ_=>⟨_,_,rfl⟩}
  |8,j=>
   obtain rfl:=Option.some.inj j;let⟨l,p,am⟩:=a.s7<|i ⟨7,.data⟩ (by simp) rfl;have g:=Af a;have o:=Af k;unfold wpOp;refine Or.inl ?_;go_simp;refine(NE 298 _ _ _ w).mono ?_;rintro al B ⟨rfl,rfl⟩;have x:=g.o.call<|AG w (K #[.func (.func 298) #[] #[]] tMf) (K #[C l 2 2] PQ);refine JU.put (i:=8) (d:=10) b.o.1 b.o.2.1 b.o.2.2 (by decide) (by decide) ?_;exact {x with f8:=λ_=>⟨w.heap.size,w.heap.size+1,l,rfl,(Ah.new w tMf _).alloc _,Bo w _ PQ _,(am.alloc _).alloc _⟩}
  |12,j=>
   obtain rfl:=Option.some.inj j;let⟨l,p⟩:=a.s11<|i ⟨11,.data⟩ (by simp) rfl;have g:=Af a;have o:=Af k;unfold wpOp;refine Or.inl ?_;go_simp;refine(NE 300 _ _ _ w).mono ?_;rintro al B ⟨rfl,rfl⟩;have x:=g.o.call<|AG w (K #[.func (.func 300) #[] #[]] tMf) (K #[C l 1 1] PQ);refine JU.put (i:=12) (d:=13) b.o.1 b.o.2.1 b.o.2.2 (by decide) (by decide) ?_;exact {x with f12:=λ_=>⟨_,_,rfl⟩}
  |19,j=>
   obtain rfl:=Option.some.inj j;let⟨l,p⟩:=a.s18<|i ⟨18,.data⟩ (by simp) rfl;have g:=Af a;have o:=Af k;unfold wpOp;refine Or.inl ?_;go_simp;refine(NE 301 _ _ _ w).mono ?_;rintro al B ⟨rfl,rfl⟩;have x:=g.o.call<|AG w (K #[.func (.func 301) #[] #[]] tMf) (K #[C l 4 4] PQ);refine JU.put (i:=19) (d:=19) b.o.1 b.o.2.1 b.o.2.2 (by decide) (by decide) ?_;exact {x with f19:=λ_=>⟨_,_,rfl⟩}
  |4,j=>
   obtain rfl:=Option.some.inj j;let⟨r,n,f,p,z,D,A,L⟩:=a.m0<|i ⟨0,.data⟩ (by simp) rfl;have W:=Af<|i ⟨0,.data⟩ (by simp) rfl;let⟨X,c,v⟩:=a.f3<|i ⟨3,.data⟩ (by simp) rfl
   have Y:n<Al:=by
    have u:∀l:Bool,l.toNat<=1:=λl=>by cases l<;>decide
    have:=u<|e.getD 4 false;have:=u<|e.getD 9 false;have:=u<|e.getD 13 false;have:=u<|e.getD 20 false;simp only[Al];have y:n<=(e.getD 4 false).toNat+(e.getD 9 false).toNat+(e.getD 13 false).toNat+(e.getD 20 false).toNat:=D;omega
   let⟨B,F,Z,M⟩:=z.put (tm:=Zl) underlying417 Y ⟨[115,116,97,108,101],by decide⟩<|.func (.func X) #[] c;have an:(D9 Zl (.map (E r)) (.string ⟨#[115,116,97,108,101]⟩) (.func (.func X) #[] c)).run prog w=.ok () B:=F;let⟨q,aa⟩:=a.turn z A M;have g:=Af a;have o:=Af k;unfold wpOp;refine Or.inl ?_;go_simp;refine JU.none (i:=4) b.o.1 b.o.2.1 b.o.2.2 (by decide) ?_;exact {g.o with bl:=aa,bp:=q _ _ _ g.o.bp,s7:=λm=>by obtain⟨l,v,S⟩:=g.o.s7 m;exact⟨l,v,q _ _ _ S⟩,f8:=λm=>(g.o.f8 m).kept q,m0:=λ_=>⟨r,n+1,_,p,Z,by have ab:=Xl o;have y:n<=(e.getD 4 false).toNat+(e.getD 9 false).toNat+(e.getD 13 false).toNat+(e.getD 20 false).toNat:=D;rw[ab] at y;show n+1<=true.toNat+(e.getD 9 false).toNat+(e.getD 13 false).toNat+(e.getD 20 false).toNat;simp only[K3,K4] at y|-;omega,A,λm=>by obtain⟨G,ac,ad⟩:=L m;exact⟨G,by simpa[Fo,JN] using ac,ad.kept q⟩⟩}
  |9,j=>
   obtain rfl:=Option.some.inj j;let⟨r,n,f,p,z,D,A,L⟩:=a.m0<|i ⟨0,.data⟩ (by simp) rfl;have W:=Af<|i ⟨0,.data⟩ (by simp) rfl;let⟨ao,ap,l,v,a4,a5,am⟩:=a.f8<|i ⟨8,.data⟩ (by simp) rfl
   have Y:n<Al:=by
    have u:∀l:Bool,l.toNat<=1:=λl=>by cases l<;>decide
    have:=u<|e.getD 4 false;have:=u<|e.getD 9 false;have:=u<|e.getD 13 false;have:=u<|e.getD 20 false;simp only[Al];have y:n<=(e.getD 4 false).toNat+(e.getD 9 false).toNat+(e.getD 13 false).toNat+(e.getD 20 false).toNat:=D;omega
   let⟨B,F,Z,M⟩:=z.put (tm:=Zl) underlying417 Y ⟨[116,111,114,110],by decide⟩<|.func (.func 350) #[] #[ap,ao];have an:(D9 Zl (.map (E r)) (.string ⟨#[116,111,114,110]⟩) (.func (.func 350) #[] #[ap,ao])).run prog w=.ok () B:=F;let⟨q,aa⟩:=a.turn z A M;have g:=Af a;have o:=Af k;unfold wpOp;refine Or.inl ?_;go_simp;refine JU.none (i:=9) b.o.1 b.o.2.1 b.o.2.2 (by decide) ?_;exact {g.o with bl:=aa,bp:=q _ _ _ g.o.bp,s7:=λm=>by obtain⟨l,v,S⟩:=g.o.s7 m;exact⟨l,v,q _ _ _ S⟩,f8:=λm=>(g.o.f8 m).kept q,m0:=λ_=>⟨r,n+1,_,p,Z,by have ab:=Xl o;have y:n<=(e.getD 4 false).toNat+(e.getD 9 false).toNat+(e.getD 13 false).toNat+(e.getD 20 false).toNat:=D;rw[ab] at y;show n+1<=(e.getD 4 false).toNat+true.toNat+(e.getD 13 false).toNat+(e.getD 20 false).toNat;simp only[K3,K4] at y|-;omega,A,λ_=>⟨_,by simp[Fo,JN],ao,ap,l,rfl,q _ _ _ a4,q _ _ _ a5,q _ _ _ am⟩⟩,d9:=λ_=>W.o}
  |13,j=>
   obtain rfl:=Option.some.inj j;let⟨r,n,f,p,z,D,A,L⟩:=a.m0<|i ⟨0,.data⟩ (by simp) rfl;have W:=Af<|i ⟨0,.data⟩ (by simp) rfl;let⟨X,c,v⟩:=a.f12<|i ⟨12,.data⟩ (by simp) rfl
   have Y:n<Al:=by
    have u:∀l:Bool,l.toNat<=1:=λl=>by cases l<;>decide
    have:=u<|e.getD 4 false;have:=u<|e.getD 9 false;have:=u<|e.getD 13 false;have:=u<|e.getD 20 false;simp only[Al];have y:n<=(e.getD 4 false).toNat+(e.getD 9 false).toNat+(e.getD 13 false).toNat+(e.getD 20 false).toNat:=D;omega
   let⟨B,F,Z,M⟩:=z.put (tm:=Zl) underlying417 Y ⟨[101,97,114,108,121],by decide⟩<|.func (.func X) #[] c;have an:(D9 Zl (.map (E r)) (.string ⟨#[101,97,114,108,121]⟩) (.func (.func X) #[] c)).run prog w=.ok () B:=F;let⟨q,aa⟩:=a.turn z A M;have g:=Af a;have o:=Af k;unfold wpOp;refine Or.inl ?_;go_simp;refine JU.none (i:=13) b.o.1 b.o.2.1 b.o.2.2 (by decide) ?_;exact {g.o with bl:=aa,bp:=q _ _ _ g.o.bp,s7:=λm=>by obtain⟨l,v,S⟩:=g.o.s7 m;exact⟨l,v,q _ _ _ S⟩,f8:=λm=>(g.o.f8 m).kept q,m0:=λ_=>⟨r,n+1,_,p,Z,by have ab:=Xl o;have y:n<=(e.getD 4 false).toNat+(e.getD 9 false).toNat+(e.getD 13 false).toNat+(e.getD 20 false).toNat:=D;rw[ab] at y;show n+1<=(e.getD 4 false).toNat+(e.getD 9 false).toNat+true.toNat+(e.getD 20 false).toNat;simp only[K3,K4] at y|-;omega,A,λm=>by obtain⟨G,ac,ad⟩:=L m;exact⟨G,by simpa[Fo,JN] using ac,ad.kept q⟩⟩}
  |20,j=>
   obtain rfl:=Option.some.inj j;let⟨r,n,f,p,z,D,A,L⟩:=a.m0<|i ⟨0,.data⟩ (by simp) rfl;have W:=Af<|i ⟨0,.data⟩ (by simp) rfl;let⟨X,c,v⟩:=a.f19<|i ⟨19,.data⟩ (by simp) rfl
   have Y:n<Al:=by
    have u:∀l:Bool,l.toNat<=1:=λl=>by cases l<;>decide
    have:=u<|e.getD 4 false;have:=u<|e.getD 9 false;have:=u<|e.getD 13 false;have:=u<|e.getD 20 false;simp only[Al];have y:n<=(e.getD 4 false).toNat+(e.getD 9 false).toNat+(e.getD 13 false).toNat+(e.getD 20 false).toNat:=D;omega
   let⟨B,F,Z,M⟩:=z.put (tm:=Zl) underlying417 Y ⟨[112,108,97,105,110],by decide⟩<|.func (.func X) #[] c;have an:(D9 Zl (.map (E r)) (.string ⟨#[112,108,97,105,110]⟩) (.func (.func X) #[] c)).run prog w=.ok () B:=F;let⟨q,aa⟩:=a.turn z A M;have g:=Af a;have o:=Af k;unfold wpOp;refine Or.inl ?_;go_simp;refine JU.none (i:=20) b.o.1 b.o.2.1 b.o.2.2 (by decide) ?_;exact {g.o with bl:=aa,bp:=q _ _ _ g.o.bp,s7:=λm=>by obtain⟨l,v,S⟩:=g.o.s7 m;exact⟨l,v,q _ _ _ S⟩,f8:=λm=>(g.o.f8 m).kept q,m0:=λ_=>⟨r,n+1,_,p,Z,by have ab:=Xl o;have y:n<=(e.getD 4 false).toNat+(e.getD 9 false).toNat+(e.getD 13 false).toNat+(e.getD 20 false).toNat:=D;rw[ab] at y;show n+1<=(e.getD 4 false).toNat+(e.getD 9 false).toNat+(e.getD 13 false).toNat+true.toNat;simp only[K3,K4] at y|-;omega,A,λm=>by obtain⟨G,ac,ad⟩:=L m;exact⟨G,by simpa[Fo,JN] using ac,ad.kept q⟩⟩}
  |21,j=>
   obtain rfl:=Option.some.inj j;obtain⟨r,n,f,p,-⟩:=a.m0<|i ⟨0,.data⟩ (by simp) rfl;have W:=Af<|i ⟨0,.data⟩ (by simp) rfl;have g:=Af a;have o:=Af k;unfold wpOp;refine Or.inl ?_;go_simp;refine JU.put (i:=21) (d:=20) b.o.1 b.o.2.1 b.o.2.2 (by decide) (by decide) ?_;exact {g.o with d21:=λ_=>W.o,v21:=λ_=>p.symm}
  |22,j=>
   obtain rfl:=Option.some.inj j;obtain⟨r,n,f,p,-⟩:=a.m0<|i ⟨0,.phase⟩ (by simp) rfl;have W:=Af<|i ⟨0,.phase⟩ (by simp) rfl;have v:=(a.v21 (i ⟨21,.data⟩ (by simp) rfl)).trans p;have g:=Af a;have o:=Af k;unfold wpOp;refine Or.inl ?_;go_simp;refine JU.put (i:=22) (d:=0) b.o.1 b.o.2.1 b.o.2.2 (by decide) (by decide) ?_;exact {g.o with d22:=λ_=>W.o,v22:=λ_=>p.symm}
  |n+23,j=>cases j
 case done=>
  intro e a2 B ah aw;obtain⟨k,M,a6,ae⟩:=ah;have af:=ML aw k (by kernel_rfl);obtain⟨r,n,f,ak,z,-,A,L⟩:=ae.m0<|af 0 (by decide);let⟨G,ax,ay⟩:=L<|af 9 (by decide);have p:=(ae.v22 (af 22 (by decide))).trans ak;have az:=And.intro z<|And.intro ax (And.intro ay ae.bl);have a7:=Af az;rename_i K a8;refine a8 _ _ ?_;refine wp_ret<|Ao (v:=.map (E r)) ?_ a6 ?_
  .refine(results_tmp (t:=0) ?_ _ _ _).trans ?_
   .rfl
   .simp[p]
  exact⟨r,n,f,G,rfl,a7⟩
def Cs.fin(s:Cs):Bool:=s.wd.doneOf 0&&s.wd.doneOf 1
theorem Cx.ptAt{B M:Nat}{W:U}{a:Ca}{s:Cs}(h:Cx B M W a s):∃b c,a.pt=C b 2 c:=by
 obtain⟨_,e,k1,k2,-⟩:=h.po;let⟨b,c,d⟩:=Ag k1;exact⟨b,c,by rw[d,k2,h.two.2.2.2]⟩
theorem AaN{B M:Nat}{W:U}{a:Ca}{s:Cs}(h:Cx B M W a s):
 Calls prog 435 #[a.T] W λd o=>d=s.fin/\∃b,o=W.drewN b:=by
 let⟨r,c,k⟩:=h.ptAt;have p:W.cell? ⟨a.T,1,O⟩=a.pt:=h.tb.cell 1;rw[k] at p;have t:=h.tb.cell 2;have e:=Af<|GP h.wk h.ok (0:Int);have l:=Af (λq=>GP (h.drewN q).wk h.ok (1:Int));have u:=h.tb.lt;unfold Cs.fin
 cases g:s.wd.doneOf 0 with
 |false=>
  rw[g] at e;go_in;go_upto_region 2 with fail;refine CO 1 ?_;rw[Aq];go_wp2_with fail;refine e.o.mono ?_;rintro d m ⟨rfl,b,rfl⟩;go_wp2;go_ret;exact⟨rfl,_,rfl⟩
 |true=>
  rw[g] at e;go_in;go_upto_region 2 with fail;refine CO 3 ?_;rw[Aq];go_wp2_with fail;refine e.o.mono ?_;rintro d m ⟨rfl,b,rfl⟩;go_wp2;rw[Aq];go_wp2_with fail;refine(l.o b).mono ?_;rintro d m ⟨rfl,n,rfl⟩
  cases i:s.wd.doneOf 1 with
  |false=>
   have j:=Af i;go_wp2;go_ret;rw[j.o];exact⟨rfl,b+n,rfl⟩
  |true=>
   have j:=Af i;go_wp2;rw[Aq];go_wp2;go_ret;rw[j.o];exact⟨rfl,b+n,rfl⟩
theorem AbF{B M:Nat}{W:U}{a:Ca}{s:Cs}(h:Cx B M W a s):
 Calls prog 432 #[M] W λd e=>d=s.fin/\∃b,e=W.drewN b:=by
 have g:=h.mb.cell 0;have H:=Af<|AaN h;go_in;go_wp2_with fail;refine H.o.mono ?_;rintro d i ⟨rfl,b,rfl⟩;go_wp2;go_ret;exact⟨rfl,b,rfl⟩
theorem AbG{B M:Nat}{W:U}{a:Ca}{s s':Cs}(h:Cx B M W a s)(b:k<2)(d:s.step k=s'):
 Calls prog 434 #[M,(k:Int)] W λe j=>GR B M W s' e j:=by
 have l:=h.mb.cell 0;have H:=Af<|XM h b d;go_in;go_wp2_with fail;refine H.o.mono ?_;rintro e q ⟨m,n,rfl,g,i⟩;have o:=Af g;have p:=Af i;go_wp2;go_ret;exact⟨m,n,rfl,o,p⟩
def HiN(n:Nat)(v:N):Prop:=∃a b d c,v=.agg #[C a 1 b,C d n c]
theorem Rr{B M:Nat}{W:U}{a:Ca}{s:Cs}(h:Cx B M W a s)(i:s.wd.p.cells.length=1):
 Calls prog 436 #[a.T] W λX am=>∃Y,X=R Y/\HiN s.wd.es.length Y/\Below W W am:=by
 let⟨an,ao,ap,aq,ar⟩:=A1 Nq;let⟨a6,a7,w⟩:=Ag h.po.1;have d:=BC (by simpa[BY] using h.po.1);rw[w,i] at d;obtain⟨au,av,rfl,Z,a8,_⟩:=GH d (j:=0) (u:=I J (s.wd.p.cells[0]'(by omega))) (by simp[Gs,i]);have k:=Zc W<|K #[C O 0 0,C O 0 0] AI;have x:=Af<|h.call k;have o:=Af k;have l:=Af<|Ah.new W AI #[C O 0 0,C O 0 0];have y:=Af<|Rf (h.call k).wk (by have:=h.few;omega);have aa:=(h.call k).tb.cell 2;have ab:=Af w;have a9:=Af Z;go_in;go_upto_region 1 with fail;generalize W.alloc (K #[C O 0 0,C O 0 0] AI)=ba at x o l y aa|-;go_wp2_with (fail);refine y.o.mono ?_;rintro X z ⟨q,rfl,bb,-,ac⟩;have r:=ac.below_of (Aa _) (by simp);have t:=r.alloc r.size<|K #[C O 0 0,C q s.wd.es.length s.wd.es.length] AI;have A:=Af<|x.o.call t;have D:=Af<|l.o.below t l.o.lt;have F:=Af<|o.o.trans (t.mono o.o.size);have m:=Af<|Ah.new z AI #[C O 0 0,C q s.wd.es.length s.wd.es.length];have G:=Af<|A8 l.o.lt r.size;go_upto_region 2 with fail;generalize z.heap.size=H at m G|-;generalize z.alloc (K #[C O 0 0,C q s.wd.es.length s.wd.es.length] AI)=b at A D F m|-;have ad:b.cell? a.T=a.pc:=A.o.tb.cell 0;rw[ab.o,i] at ad
 have ae:b.cell? ⟨au,av,O⟩=E (I J (s.wd.p.cells[0]'(by omega))):=by
  have d:=BC (by simpa[BY] using A.o.po.1);rw[ab.o,i] at d;let⟨bc,bd,L,aw,_⟩:=GH d (j:=0) (u:=I J (s.wd.p.cells[0]'(by omega))) (by simp[Gs,i]);injection L with L;injection L with ax ay;subst ax ay;exact aw
 generalize s.wd.p.cells[0]'(by omega)=S at ae;have az:b.cell? H=E (C O 0 0):=m.o.cell 0;go_upto_region 3 with fail;refine CO 2 ?_;rw[Aq];have a0:=Af<|Ep (b.alloc (K #[I J 1,S] Di)) b Di 2;go_wp2_with (at_builtin;refine B9 _ rfl (.tmp 23) (.tmp 26) 22 rfl b Di an (.agg #[(),()]) 2 16 underlying22 ao ap aq ar rfl (by decide) (.slice O 0 0) 0 [] rfl a0 b 1 1 [I J 1,S] rfl rfl (Ee (D4 b _)) (by simp[B4]) (by unfold Al;omega) (by omega) (by simp) ?_;intro be af ag ah _ a1;obtain⟨e,k6,rfl⟩:=Ag ag;have v:=(Zc b (K #[I J 1,S] Di)).grown ah (by simp) (λbf a2=>by cases a2);have n:=Af (m.o.below v m.o.lt);have ai:=Af (D.o.below v D.o.lt);have aj:=Af (F.o.trans (v.mono F.o.size));have a3:=n.o.cell 0;have a4:=n.o.frozen 0;have a5:=n.o.lt;clear ag ah a1 v);have ak:=Af (show Ah (af.setCell H (C e 1 k6)) H AI #[C e 1 k6,C q s.wd.es.length s.wd.es.length] from by simpa using n.o.put 0 (C e 1 k6));have g:=Af<|ai.o.far (p:=H) (show W.heap.size≠H by have:=G.o;omega) (C e 1 k6);have al:=Af<|aj.o.setCell (p:=H) (show W.heap.size<=H by have:=G.o;omega) (C e 1 k6);generalize af.setCell H (C e 1 k6)=bg at ak g al|-;let⟨bh,bi⟩:=ak.o.c2;let⟨bj,bk⟩:=g.o.c2;have bl:=g.o.frozen 0;have bm:=g.o.frozen 1;have bn:=g.o.lt;rw[Aq];go_wp2_with fail;refine Ao (KD _ rfl rfl _ _ W _ _ rfl (Bs g)) rfl ?_;exact⟨_,rfl,⟨_,_,_,_,rfl⟩,(al.o.setCell (p:=W) (Aa _) _).setCell (p:=⟨W.heap.size,1,O⟩) (Aa _) _⟩
theorem XZ{B M:Nat}{W:U}{a:Ca}{s:Cs}(h:Cx B M W a s)(k:s.wd.p.cells.length=1):
 Calls prog 433 #[M] W λl n=>∃i,l=R i/\HiN s.wd.es.length i/\Below W W n:=by
 have d:=Zc W<|K #[C O 0 0,C O 0 0] AI;have e:=Af<|Ah.new W AI #[C O 0 0,C O 0 0];have g:=Af d;have H:=Af<|Rr (h.call d) k;have m:=(h.call d).mb.cell 0;go_in;go_upto_region 1 with fail;generalize W.alloc (K #[C O 0 0,C O 0 0] AI)=q at g e H m|-;go_wp2_with fail;refine H.o.mono ?_;rintro l r ⟨i,rfl,⟨t,u,v,c,rfl⟩,j⟩;have b:=Af<|e.o.below j e.o.lt;have o:=Af<|g.o.trans (j.mono g.o.size);let⟨w,x⟩:=b.o.c2;have y:=b.o.frozen 0;have z:=b.o.frozen 1;have A:=b.o.lt;go_wp2_with fail;refine Ao (KD _ rfl rfl _ _ W _ _ rfl (Bs b)) rfl ?_;exact⟨_,rfl,⟨_,_,_,_,rfl⟩,(o.o.setCell (p:=W) (Aa _) _).setCell (p:=⟨W.heap.size,1,O⟩) (Aa _) _⟩
theorem Mh{P:Program}{d:Exit->Act->U->Prop}{a:Act}{w:U}{c:Code}(N:Nat)(b:Nat->Act->U->Prop)(g:b N a w)(i:∀a w,b 0 a w->c.wp P (Exit.then (λ_ _=>False) d) a w)
 (j:∀n a w,b (n+1) a w->c.wp P (Exit.then (b n) d) a w):(Code.loop c).wp P d a w:=by
 have k:∀n a w,b n a w->Code.rounds P c d (n+1) a w:=by
  intro n
  induction n with
  |zero=>
   intro a w h;rw[Aq];exact i a w h
  |succ n l=>
   intro a w h;rw[Aq];exact Code.wp_mono (λm o p e=>by cases m<;>first|exact l o p e|exact e)<|j n a w h
 exact CO (N+1)<|k N a w g
def Rs(s:Cs)(N:Nat):Prop:=(∀b,b<N->∃a,s.rounds b=E a/\a.fin=false)/\∃a,s.rounds N=E a/\a.fin=true
theorem NK(a:Func)(hF:a.results= #[.cell i AI,.tmp j])(tmps:Array N)(W:U)(g:Nat)(a0 d b:N)(e:tmps.getD i Ac=g)(k:tmps.getD j Ac=b)(l:Ah W g AI #[a0,d]):
 (As a tmps).run prog W=.ok (.tuple #[.agg #[a0,d],b]) W:=by
 let⟨m,n⟩:=l.c2;have o:tmps[i]?.getD Ac=g:=by simpa using e
 have p:tmps[j]?.getD Ac=b:=by simpa using k
 simp[As,hF,o,p,go_sem,m,n]
theorem X0{B M:Nat}{W:World}{a:Ca}{s t:Cs}(h:Cx B M W a s){N:Nat}(ay:Rs s N)(az:s.rounds N=some t)(a5:t.wd.p.cells.length=1):
 Calls prog 71 #[.iface 190 (.pointer (some ⟨M,0,none⟩)),.int .i64 2,.slice none 0 0,.bool true] W λb d=>∃aa,b=.returned (.tuple #[aa,.nilIface])/\HiN t.wd.es.length aa/\Below B W d:=by
 have ab:=Zc W (.cells #[.slice none 0 0,.slice none 0 0] AI);have F:=Af (h.call ab);have G:=Af (ab.mono h.lt);have r:=Af (Ah.new W AI #[.slice none 0 0,.slice none 0 0]);have ac:=Af ay;have ad:=Af az;have ae:=Af h.lt;go_in;go_upto_region 4 with fail;generalize W.heap.size=L at r ae|-;generalize W.alloc (.cells #[.slice none 0 0,.slice none 0 0] AI)=a6 at F G r|-;refine CO 1 ?_;rw[Aq];go_upto_region 8 with fail;refine Mh N (λe af d=>∃ag ah ai aj ak al am an ao ap aq ar au av aw:Value,af={tmps:= #[.iface 190 (.pointer (some ⟨M,0,none⟩)),.int .i64 2,.slice none 0 0,.bool true,Ac,Ac,Ac,Ac,.pointer (some ⟨L,0,none⟩),.nilIface,Ac,Ac,ag,.slice none 0 0,.int .i64 0,.bool false,Ac,Ac,.slice none 0 0,.int .i64 0,.int .i64 0,.bool false,Ac,Ac,Ac,Ac,Ac,Ac,ah,ai,aj,ak,al,am,an,ao,ap,aq,ar,au,av,aw,Ac,Ac],defers:=[]}/\e<=N/\∃(ax:Ca) (u:Cs),s.rounds (N-e)=some u/\Cx B M d ax u/\Sx B a6 d) ?h0 ?last ?round
 case h0=>exact⟨_,_,_,_,_,_,_,_,_,_,_,_,_,_,_,rfl,Aa _,a,s,by rw[Nat.sub_self];rfl,F.o,⟨Ae _ _,λ_ _ h=>h⟩⟩
 case last=>
  rintro af d ⟨ag,ah,ai,aj,ak,al,am,an,ao,ap,aq,ar,au,av,aw,rfl,-,ax,u,j,m,g⟩;rw[Ut,ad.o] at j;injection j with j;subst j;obtain⟨a7,i,v⟩:=ac.o.2;rw[ad.o] at i;injection i with i;subst i;have n:=AbF m;rw[v] at n;have w:=Af n;have x:=Af m;have q:=Af g;go_wp2_with fail;refine w.o.mono ?_;rintro b a8 ⟨rfl,k,rfl⟩;have l:=Af (x.o.drewN k);have S:=Af ((q.o.h _ _ r.o).drewN k);have o:=Af (G.o.trans (q.o.b.trans (Sx.drewN B d k).b));generalize d.drewN k=a9 at l S o|-;go_wp2_with fail;refine(XZ l.o a5).mono ?_;rintro b ba ⟨aa,rfl,⟨bh,bi,bg,c,rfl⟩,g⟩;have y:=Af (S.o.below g S.o.lt);have X:=Af (o.o.trans (g.mono l.o.lt));obtain⟨bj,bk⟩:=y.o.c2;have bl:=y.o.frozen 0;have bm:=y.o.frozen 1;have bn:=y.o.lt;go_wp2_with fail;refine Ao (NK _ rfl _ _ L _ _ _ rfl rfl (Bs y.o)) rfl ?_;exact⟨_,rfl,⟨_,_,_,_,rfl⟩,(X.o.setCell (p:=⟨L,0,none⟩) ae.o _).setCell (p:=⟨L,1,none⟩) ae.o _⟩
 case round=>
  rintro e af d ⟨ag,ah,ai,aj,ak,al,am,an,ao,ap,aq,ar,au,av,aw,rfl,a0,ax,u,j,m,g⟩;obtain⟨a7,i,v⟩:=ac.o.1 (N-(e+1)) (by omega);rw[j] at i;injection i with i;subst i
  obtain⟨Y,z⟩:∃Y,s.rounds (N-e)=some Y:=by
   rcases Nat.eq_zero_or_pos e with b|b
   .subst b;exact⟨t,by rw[Ut];exact ad.o⟩
   .obtain⟨bb,bc,_⟩:=ac.o.1 (N-e) (by omega);exact⟨bb,bc⟩
  have a1:u.round=some Y:=by
   have b:N-e=(N-(e+1))+1:=by omega
   rw[b] at z;simp only[Cs.rounds,j,Option.bind_some] at z;exact z
  obtain⟨bo,a2,a3⟩:=Option.bind_eq_some_iff.1 a1;have n:=AbF m;rw[v] at n;have w:=Af n;have x:=Af m;have q:=Af g;have Z:=Af (And.intro a2 (And.intro a3 (And.intro z a0)));go_wp2_with fail;refine w.o.mono ?_;rintro b a8 ⟨rfl,k,rfl⟩;have l:=Af (x.o.drewN k);have o:=Af (q.o.trans (Sx.drewN B d k));generalize d.drewN k=a9 at l o|-;go_wp2_with fail;refine CO 3 ?_;rw[Aq];go_wp2_with fail;refine(AbG l.o (k:=0) (by decide) Z.o.1).mono ?_;rintro b ba ⟨bp,bq,rfl,A,D⟩;have a4:=Af A;have X:=Af (o.o.trans D);go_wp2;rw[Aq];go_wp2_with fail;refine(AbG a4.o (k:=1) (by decide) Z.o.2.1).mono ?_;rintro b br ⟨bs,bd,rfl,A,D⟩;have be:=Af A;have bf:=Af (X.o.trans D);go_wp2;rw[Aq];go_wp2;exact⟨_,_,_,_,_,_,_,_,_,_,_,_,_,_,_,rfl,by have:=Z.o.2.2.2;omega,bd,Y,Z.o.2.2.1,be.o,bf.o⟩
theorem AcW(w:U):(Ew 36).run prog w=.ok .nilFunc w:=by kernel_rfl
theorem AaO:prog.underlying Zl=E (.map F8.K 36):=underlying417
abbrev SE:N:=.string ⟨#[116,111,114,110]⟩
theorem AaP(w:U):Calls prog 204 #[SE] w λl q=>∃m n,l=R (.tuple #[.agg #[m,n],true])/\Hy w q m n [⟨1,0⟩,⟨1,0⟩] CY/\Below w w q:=by
 have r:=Zc w<|K #[C O 0 0,C O 0 0] AI;have d:=Af r;have e:=Af<|Ah.new w AI #[C O 0 0,C O 0 0];go_in;go_upto_region 1 with fail;generalize w.alloc (K #[C O 0 0,C O 0 0] AI)=W at d e|-;go_wp2_with fail
 go_at_call 254
 refine(Mf W).mono ?_;rintro l t ⟨X,ae,f,af,rfl,u,v,⟨Y,Z,ag,rfl,x,y,z⟩,a⟩
 have aa:(B1 Zl (.map (E X)) SE true).run prog t=.ok (.tuple #[.func (.func 350) #[] #[Z,Y],true]) t:=by
  have A:=u.look_ok AaO (AcW _) JN;rw[v] at A;exact A
 have g:=Af<|e.o.below a e.o.lt;have i:=Af<|d.o.trans (a.mono d.o.size);have B:=Af x;have D:=Af y;have F:=Af z;go_wp2_with fail;refine(Xk B D F).mono ?_;rintro l ah ⟨m,n,rfl,j,a⟩;obtain⟨ab,k7,rfl⟩:=Ag j.1;obtain⟨ac,k8,rfl⟩:=Ag j.2;have b:=Af<|g.o.below a g.o.lt;have ad:=Af<|i.o.trans (a.mono i.o.size);have k:=Af j;have G:=Af g.o.lt;have L:=Af i.o.size;let⟨ai,aj⟩:=b.o.c2;have ak:=b.o.frozen 0;have al:=b.o.frozen 1;have am:=b.o.lt;go_wp2_with fail;refine Ao (NK _ rfl _ _ w _ _ _ rfl rfl (Bs b)) rfl ?_;have M:(Ar ab 2 k7).ownBlock≠E w.heap.size:=λo=>by have:=(Ai k.o.1 o).1;have:=G.o;omega
 have S:(Ar ac 14 k8).ownBlock≠E w.heap.size:=λo=>by have:=(Ai k.o.2 o).1;have:=G.o;omega
 exact⟨_,_,rfl,⟨Aw (Ak (Ak k.o.1 (p:=w) M _) (p:=⟨w.heap.size,1,O⟩) M _) L,Aw (Ak (Ak k.o.2 (p:=w) S _) (p:=⟨w.heap.size,1,O⟩) S _) L⟩,(ad.o.setCell (p:=w) (Aa _) _).setCell (p:=⟨w.heap.size,1,O⟩) (Aa _) _⟩
section
attribute [local go_sem] Oper.semAt_some
def JR(l:List UInt8):Prop:=1<=l.length/\l.length<=8/\∀c∈l,97<=c.toNat/\c.toNat<=122
instance (l:List UInt8):Decidable (JR l):=inferInstanceAs (Decidable (_/\_/\_))
theorem LL{l:List UInt8}(h:JR l)(w:U):Calls prog 77 #[.string ⟨l.toArray⟩] w λj k=>j=true/\k=w:=by
 obtain⟨q,r,g⟩:=h;have m:=Af g;have t:decide ((1:Int)<=(l.length:Int))=true:=by simp;omega
 have u:decide ((l.length:Int)<=8)=true:=by simp;omega
 have v:decide (1<=l.length)=true:=by simp;omega
 have x:decide (l.length<=8)=true:=by simp;omega
 go_in;go_upto_region 2 with fail
 go_loopw [6] (λb wr=>∃a:Nat,b=(a:Int)/\a<=l.length/\wr=w) (λb _=>l.length-(intOf b).toNat)
 case atStart=>exact⟨0,rfl,by omega,rfl⟩
 case round=>
  obtain⟨a,rfl,y,rfl⟩:=hrel;by_cases i:a<l.length
  .have n:decide ((a:Int)<(l.length:Int))=true:=by simp;omega
   have d:a<(⟨l.toArray⟩:ByteArray).size:=by simpa[HJ] using i
   have e:(⟨l.toArray⟩:ByteArray)[a]'d=l[a]:=rfl;let⟨o,p⟩:=m.o l[a]<|List.getElem_mem i;have z:decide ((((⟨l.toArray⟩:ByteArray)[a]'d).toNat:Int)<97)=false:=by rw[e];simp;omega
   have A:decide ((122:Int)<(((⟨l.toArray⟩:ByteArray)[a]'d).toNat:Int))=false:=by rw[e];simp;omega
   go_wp2
   go_roundw
   case rel=>exact⟨a+1,by go_num,by omega,trivial⟩
   case measure=>simp[intOf]<;>omega
  .have n:decide ((a:Int)<(l.length:Int))=false:=by simp;omega
   go_wp2;go_ret;exact⟨rfl,rfl⟩
end
abbrev LM:N:=.string ⟨#[]⟩
abbrev F9:N:=.string ⟨#[115,97,109,112,108,101]⟩
abbrev Ga:N:=.string ⟨#[108,101,118,101,108,115]⟩
theorem SF(w:U):Calls prog 75 #[F9] w λa b=>a=LM/\b=w:=by
 go_in;go_wp2;go_ret;exact⟨rfl,rfl⟩
theorem SG(w:U):Calls prog 75 #[Ga] w λa b=>a=LM/\b=w:=by
 go_in;go_wp2;go_ret;exact⟨rfl,rfl⟩
abbrev tHh:Ab:=201
abbrev tDk:Ab:=204
def Hq(W:U)(D m n:Nat)(f:KE->Option N):Prop:=∃a,Ah W D tDk #[.map (E m),.map (E a)]/\Bi F8 W m n f
theorem AaQ(w:U):Calls prog 33 #[] w λa d=>∃b e,a=R (Q (E ⟨b,0,O⟩))/\Hq d b e 0 (λ_=>O)/\w.heap.size<=b/\w.heap.size<=e/\Below w w d:=by
 have o:= @EC prog;go_in;go_wp2;go_ret;have g:=Zc w<|.map #[] 0;have i:=g.alloc g.size<|.map #[] 0;have k:=i.alloc i.size<|K #[.map (E w),.map (E (w+1))] tDk;have j:=Ah.new ((w.alloc (.map #[] 0)).alloc (.map #[] 0)) tDk #[.map (E w),.map (E (w+1))]
 have l:Bi F8 (((w.alloc (.map #[] 0)).alloc (.map #[] 0)).alloc (K #[.map (E w),.map (E (w+1))] tDk)) w 0 (λ_=>O):=by
  have m:=Bi.made F8 w;have n:=m.call<|(Ae _ (w.alloc (.map #[] 0))).alloc (Aa _) (.map #[] 0);exact n.call<|(Ae _ _).alloc (Aa _) _
 have a:((w.alloc (.map #[] 0)).alloc (.map #[] 0)).heap.size=w.heap.size+1+1:=by simp
 rw[a] at j;exact⟨_,_,rfl,⟨_,j,l⟩,by omega,Aa _,k⟩
theorem SH:prog.underlying tHh=E (.map F8.K 25):=underlying201
abbrev KN(s:KE):N:=.string ⟨s.1.toArray⟩
theorem Hq.call{D:Nat}{f:KE->Option N}{W W':U}(h:Hq W D m n f)(a:Below W W W'):Hq W' D m n f:=by
 obtain⟨d,b,e⟩:=h;exact⟨d,b.below a b.lt,e.call a⟩
theorem Hq.lt{D:Nat}{f:KE->Option N}{W:U}(h:Hq W D m n f):D<W.heap.size/\m<W.heap.size:=by
 obtain⟨d,a,b⟩:=h;exact⟨a.lt,b.lt⟩
theorem Yd{D:Nat}{f:KE->Option N}{w:U}{s:KE}{vo vl:N}{os:List Ob}{es:List Ev}(ax:Hq w D m n f)(ay:JR s.1)(W:Ba 2 CL w vo os)(X:Ba 8 BO w vl es)(az:os.length<=1000)(a0:es.length<=1000)(a1:∀a2∈os,a2.kind<=9223372036854775807)(a3:∀b∈es,AU b.kind/\b.ret<=9223372036854775807)(a4:Bn os es)(ah:AE w)(bl:n<1000):
 Calls prog 81 #[D,KN s,.agg #[vo,vl]] w λx d=>x=R .nilIface/\∃g i,Hq d D m (n+1) (Fo f s (.agg #[g,i]))/\Hy w d g i os es/\Ay [m] w d:=by
 obtain⟨j,k,rfl⟩:=W.shape;obtain⟨l,o,rfl⟩:=X.shape;obtain⟨ai,Y,y⟩:=ax;have aj:=LL ay;have e:=Zc w<|K #[C j os.length k,C l es.length o] AI;have z:=Af e;have q:=Af<|Ah.new w AI #[C j os.length k,C l es.length o];have A:=Af<|W.below e;have B:=Af<|X.below e;have F:=Af<|Y.below e Y.lt;have Z:=Af<|y.call e;have aa:=Af<|ah.below e;go_in;go_upto_region 1 with fail;generalize w.alloc (K #[C j os.length k,C l es.length o] AI)=a5 at z q A B F Z aa|-;let⟨ak,al⟩:=q.o.c2;go_wp2_with fail;refine(aj a5).mono ?_;rintro x bm ⟨rfl,rfl⟩;go_wp2_with fail;refine(FK A B a1 a3 aa).mono ?_;rintro x ab ⟨ac,rfl,(⟨-,rfl⟩|⟨a6,-⟩),a⟩
 case inr=>exact absurd a4 a6
 have r:=Af<|q.o.below a q.o.lt;have a7:=Af<|A.o.below a;have a8:=Af<|B.o.below a;have t:=Af<|F.o.below a F.o.lt;have a9:=Af<|Z.o.call a;have ad:=Af<|z.o.trans (a.mono z.o.size);go_upto_region 6 with fail;let⟨ak,al⟩:=r.o.c2;have bn:=t.o.cell 0;have G:∀ {u:U},Ah u w AI #[C j os.length k,C l es.length o]->Ah u D tDk #[.map (E m),.map (E ai)]->u.cell? w=E (C j os.length k)/\u.cell? ⟨w.heap.size,1,O⟩=E (C l es.length o)/\u.cell? D=E (.map (E m)):=λh p=>⟨h.cell 0,h.cell 1,p.cell 0⟩;have ba:=G r t;have bb:=G r.o.drew t.o.drew;have bc:=F7 (a7.o.below (Ae _ _).drew) (a8.o.below (Ae _ _).drew) az a0
 go_region_held_law (λd=>d.cell? w=E (C j os.length k)/\d.cell? ⟨w.heap.size,1,O⟩=E (C l es.length o)/\d.cell? D=E (.map (E m))) (first|(go_keep;done)|with_reducible exact ba|with_reducible exact bb|with_reducible exact bd|with_reducible exact be) (((with_reducible refine bc.mono ?_);rintro x v ⟨g,i,rfl,am,a⟩;have bf:Below ab ab.drew v:=a;have ae:=Af (r.o.drew.below a r.o.drew.lt);have af:=Af (t.o.drew.below a t.o.drew.lt);have L:=Af ((a9.o.call (Ae _ _).drew).call a);have an:=Af am;have bg:=Af (ad.o.drew.trans (a.mono ad.o.drew.size));have bd:=G ae af;obtain⟨ag,ao,ap,M⟩:=(L.o).put (tm:=tHh) SH (by unfold Al;omega) s (.agg #[g,i]);have bo:(D9 tHh (.map (E m)) (KN s) (.agg #[g,i])).run prog v=.ok () ag:=ao;have bh:=Af (ae.o.grown M.grown (λb=>L.o.apart ae (Option.some.inj b)));have aq:=Af (af.o.grown M.grown (λb=>L.o.apart af (Option.some.inj b)));have be:=G bh aq;have ar:=Af M;have bi:=Af ap;clear ao a bf am M ap))
 have bj:Ay [m] v ag:=(Ay.refl [m] v).grown ar.o.grown (λp b=>.inl (by injection b with b;simp[b]));have au:∀ {av:Ab} {size p:Nat} {ac:N} {aw:List N},v.ownsRow ab av size ac p aw->ag.ownsRow w av size ac p aw:=λh=>Aw (BJ h bj (λbp bk y=>L.o.apartRow h (bk.trans (by rw[List.mem_singleton.1 y])))) ad.o.size;have a:=(Ay.of_below (S:=[m]) bg (Aa _)).grown ar.o.grown (λp b=>.inl (by injection b with b;simp[b]));go_wp2;go_ret;exact⟨rfl,g,i,⟨ai,aq,bi⟩,⟨au an.o.1,au an.o.2⟩,a⟩
theorem Ye{B:Nat}{w:U}{vo vl:N}{os:List Ob}{es:List Ev}(h:Hy B w vo vl os es):Ba 2 CL w vo os/\Ba 8 BO w vl es:=⟨Ba.of_row h.1 (λ_=>rfl) rfl,Ba.of_row h.2 (λ_=>rfl) rfl⟩
theorem Yf{D:Nat}{f:KE->Option N}{w:U}{s:KE}{vo vl:N}{os:List Ob}{es:List Ev}(l:Hq w D m n f)(X:JR s.1)(o:Ba 2 CL w vo os)(p:Ba 8 BO w vl es)(am:os.length<=1000)(Y:es.length<=1000)(Z:∀an∈os,an.kind<=9223372036854775807)(aa:∀ab∈es,AU ab.kind/\ab.ret<=9223372036854775807)(ac:Bn os es){w0:U}(q:AE w0)(r:Below w0 w0 w)(ad:w0.heap.size<=m)(ao:n<1000):
 Calls prog 201 #[D,KN s,.agg #[vo,vl]] w λu g=>∃ae,u=R (.tuple #[ae,.nilIface])/\g.ownsRow w 9 1 ae 1 [.string ⟨(Ei es.length).toArray⟩]/\(∃v x,Hq g D m (n+1) (Fo f s (.agg #[v,x]))/\Hy w g v x os es)/\Ay [m] w g:=by
 obtain⟨y,z,rfl⟩:=o.shape;obtain⟨A,F,rfl⟩:=p.shape;have af:=Zc w<|K #[C y os.length z,C A es.length F] AI;have b:=Af af;have i:=Af<|Ah.new w AI #[C y os.length z,C A es.length F];have j:=Af (λ(ap:U) (k:Below w w ap)=>Yd (l.call k) X (o.below k) (p.below k) am Y Z aa ac ((q.below r).below k) ao);have a4:=Af Y;have aq:=Af l.lt.2;have ar:=Af q;have G:=Af<|And.intro r ad;go_in;go_upto_region 1 with fail;generalize w.alloc (K #[C y os.length z,C A es.length F] AI)=au at b i|-;let⟨ag,ah⟩:=i.o.c2;go_wp2_with fail;refine(j.o au b).mono ?_;rintro u ai ⟨rfl,v,x,aj,L,a⟩;have av:w.heap.size∉ [m]:=by have:=aq.o;simp;omega
 have aw:=Af<|i.o.only a av;have M:=Af (show Ay [m] w ai from(Ay.of_below b (Aa _)).trans a (λax W=>.inl W));have ay:=Af aj;have ak:=Af<|And.intro (Aw L.1 b.o.size) (Aw L.2 b.o.size);let⟨ag,ah⟩:=aw.o.c2;have al:=M.o.below_of (B:=w0.heap.size) (A8 G.o.1.size (Aa _)) (by simpa using G.o.2);have j:=Af<|GO (es.length:Int) (by omega) (by omega) ai (ar.o.below (G.o.1.trans al)).tab;go_wp2_with fail;refine j.o.mono ?_;rintro u d ⟨rfl,a⟩;have az:=Af (show(d.alloc (K #[.string ⟨(Ei (es.length:Int)).toArray⟩] 9)).ownsRow d 9 1 (C d 1 1) 1 [.string ⟨(Ei (es.length:Int)).toArray⟩] from BX (w:=d) (cs:= #[.string ⟨(Ei (es.length:Int)).toArray⟩]) (t:=9) (B:=d.heap.size) (size:=1) (n:=1) rfl (Aa _) (by unfold Al;omega));have e:=a.alloc a.size<|K #[.string ⟨(Ei (es.length:Int)).toArray⟩] 9;have a0:=Af<|ay.o.call e;have a1:=Af<|And.intro (AA ak.o.1 e) (AA ak.o.2 e);have a2:=Af<|M.o.trans (Ay.of_below (S:=[m]) e (Aa _)) (λax W=>.inl W);have a3:=Af<|A8 M.o.size a.size;go_wp2;go_ret2;exact⟨_,rfl,Aw az a3,⟨_,_,a0,a1⟩,a2⟩
abbrev DK:Ab:=280
theorem Bi.offCell{a:Type}{s:KS a}{W:U}{f:a->Option N}(h:Bi s W b n f){p:Addr}{v:N}(e:W.cell? p=v):p.block≠b:=by
 let⟨i,c,d⟩:=h.obj;intro g;rw[<-g] at d;simp[World.cell?,d] at e
theorem Cb:(∀d∈([⟨1,0⟩,⟨1,0⟩]:List Ob),d.kind<=9223372036854775807)/\(∀b∈CY,AU b.kind/\b.ret<=9223372036854775807)/\Bn [⟨1,0⟩,⟨1,0⟩] CY:=by
 refine⟨by decide,?_,by decide,by decide,by decide,?_⟩
 .intro b a;simp only[CY,B2,List.not_mem_nil,or_false] at a;rcases a with rfl|rfl|rfl|rfl|rfl|rfl|rfl|rfl|rfl|rfl|rfl|rfl|rfl|rfl<;>exact⟨⟨by decide,by decide⟩,by decide⟩
 .intro b a;simp only[CY,B2,List.not_mem_nil,or_false] at a;rcases a with rfl|rfl|rfl|rfl|rfl|rfl|rfl|rfl|rfl|rfl|rfl|rfl|rfl|rfl<;>refine⟨⟨by unfold Ev.Coded;decide,by unfold Ev.In;decide,rfl⟩,?_⟩<;>first|exact λh=>absurd h (by decide)|exact λ_=>⟨⟨1,0⟩,by decide,by rfl,by decide⟩
theorem AcX:Ei (CY.length:Int)=[49,52]:=by decide+kernel
theorem Vc{D:Nat}{f:KE->Option N}{w:U}{s:KE}{u1 u2 u3 u4 u5 u6:N}(ae:Hq w D m n f)(au:JR s.1)(af:w.cell? g=SE)(ag:w.cell? ⟨g,1,O⟩=E (KN s)){w0:U}(ah:AE w0)(ai:Below w0 w0 w)(aj:w0.heap.size<=m)(av:n<1000):
 Calls prog 203 #[D,.agg #[C g 2 c,u1,u2,u3,u4,u5,u6]] w λA a=>∃B,A=R (.tuple #[B,.nilIface])/\a.ownsRow w 9 1 B 1 [.string ⟨#[49,52]⟩]/\(∃q r,Hq a D m (n+1) (Fo f s (.agg #[q,r]))/\Hy w a q r [⟨1,0⟩,⟨1,0⟩] CY)/\Ay [m] w a:=by
 have ak:=Zc w<|K #[C g 2 c,u1,u2,u3,u4,u5,u6] DK;have k:=Af ak;have l:=Af<|Ah.new w DK #[C g 2 c,u1,u2,u3,u4,u5,u6];have o:=Af<|And.intro af ag;have al:=Af ae;have t:=Af<|And.intro ah (And.intro ai aj);go_in;go_upto_region 1 with fail;generalize w.alloc (K #[C g 2 c,u1,u2,u3,u4,u5,u6] DK)=a8 at k l|-;have F:=l.o.cell 0;have G:g<w.heap.size:=Ad w _ o.o.1;have aw:=(k.o.cell (p:=g) G).trans o.o.1;have am:=(k.o.cell (p:=⟨g,1,O⟩) G).trans o.o.2;go_wp2_with (go_at_call 204;refine(AaP _).mono ?_;rintro A i ⟨ba,bb,rfl,u,v⟩;obtain⟨b,k7,rfl⟩:=Ag u.1;obtain⟨d,k8,rfl⟩:=Ag u.2;have L:=Af (l.o.below v l.o.lt);have M:=Af (k.o.trans (v.mono k.o.size));have W:=Af u;have X:=Af (A8 l.o.lt v.size);clear v u);have Y:=Af<|Ah.new i AI #[C b 2 k7,C d 14 k8];have x:=Zc i<|K #[C b 2 k7,C d 14 k8] AI;have an:=Af<|L.o.below x L.o.lt;have j:=Af<|M.o.alloc M.o.size (K #[C b 2 k7,C d 14 k8] AI);have Z:=Af<|And.intro (AA W.o.1 x) (AA W.o.2 x);generalize i.heap.size=y at Y X|-;generalize ao:i.alloc (K #[C b 2 k7,C d 14 k8] AI)=e at Y an j Z;rw[show i.alloc (K #[C b 2 k7,C d CY.length k8] AI)=e from ao];have am:=(j.o.cell (p:=⟨g,1,O⟩) G).trans o.o.2;let⟨ax,ay⟩:=Y.o.c2;have F:=an.o.cell 0;let⟨a9,az,aa⟩:=al.o;have a0:g≠m:=aa.offCell o.o.1;have bc:=aa.lt;have ab:∀ {V:U},Ay [m] e V->V.cell? w=E (C g 2 c)/\V.cell? ⟨g,1,O⟩=E (KN s)/\V.cell? y=E (C b 2 k7)/\V.cell? ⟨y,1,O⟩=E (C d 14 k8):=λh=>⟨h.cell F (by simp;omega),h.cell am (by simpa using a0),h.cell ax (by have:=X.o;simp;omega),h.cell ay (by have:=X.o;simp;omega)⟩;have a1:=ab<|Ay.refl [m] e;have a2:=ab (Ay.refl [m] e).drew;have a3:=Yf (w:=e.drew) (vo:=C b 2 k7) (vl:=C d 14 k8) (al.o.call j.o.drew) au (Ba.of_row Z.o.1 (λ_=>rfl) rfl) (Ba.of_row Z.o.2 (λ_=>rfl) rfl) (by decide) (by decide) Cb.1 Cb.2.1 Cb.2.2 t.o.1 (t.o.2.1.trans (j.o.drew.mono t.o.2.1.size)) t.o.2.2 av
 go_region_held_law (λa=>a.cell? w=E (C g 2 c)/\a.cell? ⟨g,1,O⟩=E (KN s)/\a.cell? y=E (C b 2 k7)/\a.cell? ⟨y,1,O⟩=E (C d 14 k8)) (first|(go_keep;done)|with_reducible exact a1|with_reducible exact a2|with_reducible exact a4) (((with_reducible refine a3.mono ?_);rintro A bd ⟨B,rfl,p,z,ap⟩;have aq:=Af ((Ay.refl [m] e).drew.trans ap (λa5 ac=>.inl ac));have a4:=ab aq;have a6:=Af p;have a7:=Af z;clear p z ap))
 have ad:w.heap.size<=e.drew.heap.size:=j.o.size;let⟨q,r,z,ar⟩:=a7.o;have p:=Aw a6 ad;rw[AcX] at p;go_wp2;go_ret2;exact⟨_,rfl,p,⟨q,r,z,Aw ar.1 ad,Aw ar.2 ad⟩,(Ay.of_below (S:=[m]) j (Aa _)).trans aq (λa5 ac=>.inl ac)⟩
theorem SI:(prog.info? 9).map (fun a=>(a.zero,a.size,a.bytes))=some (some (.string ⟨#[]⟩),1,16):=by kernel_rfl
theorem Yg{B n k:Nat}{w:World}{s:KE}{v u1 u2 u3 u4 u5 u6:Value}{xs:List Value}(a:Ah w n DK #[v,u1,u2,u3,u4,u5,u6])(d:w.ownsRow B 9 1 v k xs)(ae:k≤100)(r:B≤w.heap.size)(t:JR s.1):
 Calls prog 214 #[.pointer (some ⟨n,0,none⟩),.int .u8 110,KN s] w fun j e=>j=.returned .nilIface∧∃l,Ah e n DK #[l,u1,u2,u3,u4,u5,u6]∧e.ownsRow B 9 1 l (k+1) (xs++[KN s])∧Ay (n::v.ownBlock.toList) w e:=by
 obtain⟨u,x,y,z,A⟩:=A1 SI
 obtain⟨D,c,rfl⟩:=Ag d
 have F:=a.apartRow d (by decide)
 have G:=Af a
 have L:=Af d
 have M:=Af (LL t)
 have S:=a.cell 0
 have W:=a.frozen 0
 have X:=a.lt
 have af:B≤w.heap.size:=r
 clear a d
 go_enter func214,ntmps214
 go_wp2_with (first
  |(go_at_call 77;refine(M.o _).mono ?_;rintro j Y ⟨rfl,rfl⟩)
  |(at_builtin;refine B9 _ rfl (.tmp 42) (.tmp 44) 63 rfl B 9 u (.string ⟨#[]⟩) 1 16 underlying63 x y z A rfl (by decide) _ _ _ rfl (L.o.alloc _) ⟨_,0,none⟩ 1 1 [KN s] rfl rfl (En _ _ _) (by simp[B4]) (by unfold Al;omega) (by omega) (by simp;omega) ?_;intro ag ah g i _ Z;have m:=Af g;have b:=Af ((G.o.alloc _).grown i (fun aa=>F aa.symm));have ab:=Af (((Ay.refl (n::(Ar D k c).ownBlock.toList) Y).alloc _).grown i (fun ai ac=>.inl (Il _ (F0.2 ac))));obtain⟨o,q,rfl⟩:=Ag g;have S:=b.o.cell 0;have W:=b.o.frozen 0;have X:=b.o.lt;clear g i Z))
 go_ret
 have ad:(Ar o (k+1) q).ownBlock≠some n:=b.o.apartRow m.o (by decide)
 exact⟨rfl,_,by simpa using b.o.put 0 (.slice o (k+1) q),Ak m.o (p:=⟨n,0,none⟩) ad _,ab.o.setCell (p:=⟨n,0,none⟩) (.inl (by simp)) _⟩
theorem AeR{B n k:Nat}{w:World}{l:List UInt8}{v:Int}{u0 u u2 u3 u4 u5 u6:Value}{xs:List Value}(e:Ah w n DK #[u0,u,u2,u3,u4,u5,u6])(g:w.ownsRow B Cv 1 u k xs)(an:k≤100)(X:B≤w.heap.size)(ao:l.length≤100)(r:number l=some v)(t:AE w):
 Calls prog 214 #[.pointer (some ⟨n,0,none⟩),.int .u8 105,.string ⟨l.toArray⟩] w fun x i=>x=.returned .nilIface∧∃y,Ah i n DK #[u0,y,u2,u3,u4,u5,u6]∧i.ownsRow B Cv 1 y (k+1) (xs++[.int .i64 v])∧Ay (n::u.ownBlock.toList) w i:=by
 obtain⟨Y,Z,aa,ab,ac⟩:=A1 QJ
 obtain⟨ad,c,rfl⟩:=Ag g
 have j:=Af e
 have z:=Af g
 have A:=Af (Aai l (by omega) v r w t.tab)
 have ap:=e.lt
 clear e g t r
 go_enter func214,ntmps214
 go_wp2_with fail
 refine A.o.mono ?_
 rintro x D ⟨rfl,d⟩
 have a:=Af (j.o.below d j.o.lt)
 have F:=Af (AA z.o d)
 have G:=Af d
 have ae:=a.o.apartRow F.o (by decide)
 have af:=a.o.cell 1
 have ag:=a.o.frozen 1
 have ah:=a.o.lt
 have aq:B≤D.heap.size:=A8 X G.o.size
 clear d A j z
 go_wp2_with (at_builtin;refine B9 _ rfl (.tmp 26) (.tmp 28) 47 rfl B Cv Y (.int .i64 0) 1 8 underlying47 Z aa ab ac rfl (by decide) _ _ _ rfl (F.o.alloc _) ⟨_,0,none⟩ 1 1 [.int .i64 v] rfl rfl (En _ _ _) (by simp[B4]) (by unfold Al;omega) (by omega) (by simp;omega) ?_;intro ar au m o _ ai;have L:=Af m;have b:=Af ((a.o.alloc _).grown o (fun aj=>ae aj.symm));have ak:=Af (((Ay.refl (n::(Ar ad k c).ownBlock.toList) D).alloc _).grown o (fun al q=>.inl (Il _ (F0.2 q))));obtain⟨M,S,rfl⟩:=Ag m;have af:=b.o.cell 1;have ag:=b.o.frozen 1;have ah:=b.o.lt;clear m o ai)
 go_ret
 have am:(Ar M (k+1) S).ownBlock≠some n:=b.o.apartRow L.o (by decide)
 exact⟨rfl,_,by simpa using b.o.put 1 (.slice M (k+1) S),Ak L.o (p:=⟨n,1,none⟩) am _,(Ay.of_below G.o (Aa _)).trans (ak.o.setCell (p:=⟨n,1,none⟩) (.inl (by simp)) _) (fun al q=>.inl q)⟩
abbrev Gp:Ab:=275
theorem AbH(a:Func)(hF:a.results= #[.cell i DK,.tmp j])(tmps:Array N)(W:U)(g:Nat)(a0 d a2 a3 a4 a5 e b:N)(k:tmps.getD i Ac=g)(l:tmps.getD j Ac=b)(m:Ah W g DK #[a0,d,a2,a3,a4,a5,e]):
 (As a tmps).run prog W=.ok (.tuple #[.agg #[a0,d,a2,a3,a4,a5,e],b]) W:=by
 let⟨n,o,p,q,r,t,u⟩:=m.c7;have v:tmps[i]?.getD Ac=g:=by simpa using k
 have w:tmps[j]?.getD Ac=b:=by simpa using l
 simp[As,hF,v,w,go_sem,n,o,p,q,r,t,u]
theorem JS{W:U}{t:Ab}{a b c d e f h a' b' c' d' v u z:N}(i:Ah W g t #[a,b,c,d,e,f,h]):Ah (((((((W.setCell g a').setCell ⟨g,1,O⟩ b').setCell ⟨g,2,O⟩ c').setCell ⟨g,3,O⟩ d').setCell ⟨g,4,O⟩ v).setCell ⟨g,5,O⟩ u).setCell ⟨g,6,O⟩ z) g t #[a',b',c',d',v,u,z]:=by
 have:=((((((i.put 0 a').put 1 b').put 2 c').put 3 d').put 4 v).put 5 u).put 6 z;simpa using this
theorem C9{B:Nat}{w W:U}{a b c d e f k:N}(h:Below B w W)(i:B<=g):Below B w (((((((W.setCell g a).setCell ⟨g,1,O⟩ b).setCell ⟨g,2,O⟩ c).setCell ⟨g,3,O⟩ d).setCell ⟨g,4,O⟩ e).setCell ⟨g,5,O⟩ f).setCell ⟨g,6,O⟩ k):=
 ((((((h.setCell (p:=g) i _).setCell (p:=⟨g,1,O⟩) i _).setCell (p:=⟨g,2,O⟩) i _).setCell (p:=⟨g,3,O⟩) i _).setCell (p:=⟨g,4,O⟩) i _).setCell (p:=⟨g,5,O⟩) i _).setCell (p:=⟨g,6,O⟩) i _
theorem FR{B size:Nat}{W:U}{t:Ab}{v:N}{xs:List N}{a b c d e f k:N}(h:W.ownsRow B t size v n xs)(i:v.ownBlock≠E g):(((((((W.setCell g a).setCell ⟨g,1,O⟩ b).setCell ⟨g,2,O⟩ c).setCell ⟨g,3,O⟩ d).setCell ⟨g,4,O⟩ e).setCell ⟨g,5,O⟩ f).setCell ⟨g,6,O⟩ k).ownsRow B t size v n xs:=
 Ak (Ak (Ak (Ak (Ak (Ak (Ak h (p:=g) i _) (p:=⟨g,1,O⟩) i _) (p:=⟨g,2,O⟩) i _) (p:=⟨g,3,O⟩) i _) (p:=⟨g,4,O⟩) i _) (p:=⟨g,5,O⟩) i _) (p:=⟨g,6,O⟩) i _
theorem AcY{w:U}{s1 s2:KE}{u d:N}(ab:JR s1.1)(ac:JR s2.1)(q:w.cell? ⟨g,1,O⟩=E (KN s1))(F:w.cell? ⟨g,2,O⟩=E (KN s2)):
 Calls prog 130 #[.agg #[.string ⟨#[110,110]⟩,u,d],C (E ⟨g,1,O⟩) 2 c] w λr G=>∃L,r=R (.tuple #[.agg #[L,C O 0 0,C O 0 0,C O 0 0,C O 0 0,C O 0 0,C O 0 0],.nilIface])/\G.ownsRow w 9 1 L 2 [KN s1,KN s2]/\Below w w G:=by
 have M:g<w.heap.size:=Ad w _ q;have S:=Af<|And.intro q F;have ad:=Zc w<|K #[.string ⟨#[110,110]⟩,u,d] Gp;have t:=AG w (K #[.string ⟨#[110,110]⟩,u,d] Gp)<|K #[C O 0 0,C O 0 0,C O 0 0,C O 0 0,C O 0 0,C O 0 0,C O 0 0] DK;have W:=t.alloc t.size<|K #[C O 0 0,C O 0 0,C O 0 0,C O 0 0,C O 0 0,C O 0 0,C O 0 0] DK;have l:=Af W;have m:=Af<|((Ah.new w Gp #[.string ⟨#[110,110]⟩,u,d]).alloc (K #[C O 0 0,C O 0 0,C O 0 0,C O 0 0,C O 0 0,C O 0 0,C O 0 0] DK)).alloc (K #[C O 0 0,C O 0 0,C O 0 0,C O 0 0,C O 0 0,C O 0 0,C O 0 0] DK);have v:=Af<|(Bo w (K #[.string ⟨#[110,110]⟩,u,d] Gp) DK #[C O 0 0,C O 0 0,C O 0 0,C O 0 0,C O 0 0,C O 0 0,C O 0 0]).alloc (K #[C O 0 0,C O 0 0,C O 0 0,C O 0 0,C O 0 0,C O 0 0,C O 0 0] DK);have n:=Af (show Ah _ (w+1+1) DK _ from(by have h:=Ah.new ((w.alloc (K #[.string ⟨#[110,110]⟩,u,d] Gp)).alloc (K #[C O 0 0,C O 0 0,C O 0 0,C O 0 0,C O 0 0,C O 0 0,C O 0 0] DK)) DK #[C O 0 0,C O 0 0,C O 0 0,C O 0 0,C O 0 0,C O 0 0,C O 0 0];simpa using h));go_in;go_upto_region 2 with fail;generalize ((w.alloc (K #[.string ⟨#[110,110]⟩,u,d] Gp)).alloc (K #[C O 0 0,C O 0 0,C O 0 0,C O 0 0,C O 0 0,C O 0 0,C O 0 0] DK)).alloc (K #[C O 0 0,C O 0 0,C O 0 0,C O 0 0,C O 0 0,C O 0 0,C O 0 0] DK)=x at l m v n|-;have ae:=m.o.cell 0;go_upto_region 8 with fail;have af:=(l.o.cell (p:=⟨g,1,O⟩) M).trans S.o.1;have y:=(l.o.cell (p:=⟨g,2,O⟩) M).trans S.o.2;refine CO 3 ?_;rw[Aq];go_wp2_with fail;refine(Yg (B:=x.heap.size) n (Ep _ _ _ _) (by omega) (Aa _) ab).mono ?_;rintro r o ⟨rfl,ag,j,i,a⟩;have z:∀e,e<w.heap.size+1+1->e∉((w.heap.size+1+1)::(Ar O 0 0).ownBlock.toList):=λe k=>by simp[A5];omega
 have A:=Af<|m.o.only a (z _ (by omega));have X:=Af<|v.o.only a (z _ (by omega));have Y:=Af a;have ah:=Af j;have D:=Af i;have ae:=A.o.cell 0;have y:o.cell? ⟨g,2,O⟩=E (KN s2):=a.cell y<|z g (by omega);go_wp2_with fail;rw[Aq];go_wp2_with fail;have ai:x.heap.size<=o.heap.size:=Y.o.size;refine(Yg ah D (by simp) ai ac).mono ?_;rintro r aj ⟨rfl,av,j,i,a⟩
 have Z:∀e,e<w.heap.size+1+1->e∉((w.heap.size+1+1)::ag.ownBlock.toList):=λe k ak=>by
  rcases B2.1 ak with h|h
  .omega
  .have:=(Ai D (F0.1 h)).1;have:=n.o.lt;omega
 have aw:=Af<|A.o.only a (Z _ (by omega));have b:=Af<|X.o.only a (Z _ (by omega));have al:=Af a;have am:=Af j;have aa:=Af i;obtain⟨an,ao,rfl⟩:=Ag i;let⟨ax,ay,az,a0,a1,a2,a3⟩:=am.o.c7;let⟨a4,a5,a6,a7,a8,a9,ba⟩:=b.o.c7;have bb:=b.o.frozen 0;have bc:=b.o.frozen 1;have bd:=b.o.frozen 2;have be:=b.o.frozen 3;have bf:=b.o.frozen 4;have bg:=b.o.frozen 5;have bh:=b.o.frozen 6;have bi:=b.o.lt;go_wp2_with fail;rw[Aq];go_wp2_with fail;refine Ao (AbH _ rfl _ _ (w+1) _ _ _ _ _ _ _ _ rfl rfl (JS b)) rfl ?_;have bj:=n.o.lt;have ap:(Ar an 2 ao).ownBlock≠E (w.heap.size+1):=λaq=>by have:=(Ai aa aq).1;omega
 have ar:Below w x o:=Y.o.below_of (by omega) (λe k=>by simp[A5] at k;omega)
 have au:Below w o aj:=al.o.below_of (by omega) (λe k=>by
  rcases B2.1 k with h|h
  .omega
  .have:=(Ai D (F0.1 h)).1;omega)
 exact⟨_,rfl,FR (Aw aa (by omega)) ap,C9 (l.o.trans (ar.trans au)) (by omega)⟩
theorem AcZ{w:U}{s1:KE}{l:List UInt8}{v:Int}{u d:N}(aj:JR s1.1)(ak:l.length<=100)(X:number l=v)(Y:AE w)(r:w.cell? ⟨g,1,O⟩=E (KN s1))(Z:w.cell? ⟨g,2,O⟩=E (.string ⟨l.toArray⟩)):
 Calls prog 130 #[.agg #[.string ⟨#[110,105]⟩,u,d],C (E ⟨g,1,O⟩) 2 c] w λt x=>∃aa ab,t=R (.tuple #[.agg #[aa,ab,C O 0 0,C O 0 0,C O 0 0,C O 0 0,C O 0 0],.nilIface])/\x.ownsRow w 9 1 aa 1 [KN s1]/\x.ownsRow w Cv 1 ab 1 [v]/\Below w w x:=by
 have ac:g<w.heap.size:=Ad w _ r;have ad:=Af<|And.intro r Z;have al:=Af Y;have am:=Af X;have an:=Zc w<|K #[.string ⟨#[110,105]⟩,u,d] Gp;have y:=AG w (K #[.string ⟨#[110,105]⟩,u,d] Gp)<|K #[C O 0 0,C O 0 0,C O 0 0,C O 0 0,C O 0 0,C O 0 0,C O 0 0] DK;have ae:=y.alloc y.size<|K #[C O 0 0,C O 0 0,C O 0 0,C O 0 0,C O 0 0,C O 0 0,C O 0 0] DK;have j:=Af ae;have o:=Af<|((Ah.new w Gp #[.string ⟨#[110,105]⟩,u,d]).alloc (K #[C O 0 0,C O 0 0,C O 0 0,C O 0 0,C O 0 0,C O 0 0,C O 0 0] DK)).alloc (K #[C O 0 0,C O 0 0,C O 0 0,C O 0 0,C O 0 0,C O 0 0,C O 0 0] DK);have z:=Af<|(Bo w (K #[.string ⟨#[110,105]⟩,u,d] Gp) DK #[C O 0 0,C O 0 0,C O 0 0,C O 0 0,C O 0 0,C O 0 0,C O 0 0]).alloc (K #[C O 0 0,C O 0 0,C O 0 0,C O 0 0,C O 0 0,C O 0 0,C O 0 0] DK);have q:=Af (show Ah _ (w+1+1) DK _ from(by have h:=Ah.new ((w.alloc (K #[.string ⟨#[110,105]⟩,u,d] Gp)).alloc (K #[C O 0 0,C O 0 0,C O 0 0,C O 0 0,C O 0 0,C O 0 0,C O 0 0] DK)) DK #[C O 0 0,C O 0 0,C O 0 0,C O 0 0,C O 0 0,C O 0 0,C O 0 0];simpa using h));go_in;go_upto_region 2 with fail;generalize ((w.alloc (K #[.string ⟨#[110,105]⟩,u,d] Gp)).alloc (K #[C O 0 0,C O 0 0,C O 0 0,C O 0 0,C O 0 0,C O 0 0,C O 0 0] DK)).alloc (K #[C O 0 0,C O 0 0,C O 0 0,C O 0 0,C O 0 0,C O 0 0,C O 0 0] DK)=A at j o z q|-;have ao:=o.o.cell 0;go_upto_region 8 with fail;have ap:=(j.o.cell (p:=⟨g,1,O⟩) ac).trans ad.o.1;have D:=(j.o.cell (p:=⟨g,2,O⟩) ac).trans ad.o.2;refine CO 3 ?_;rw[Aq];go_wp2_with fail;refine(Yg (B:=A.heap.size) q (Ep _ _ _ _) (by omega) (Aa _) aj).mono ?_;rintro t m ⟨rfl,a6,n,k,a⟩;have F:∀b,b<w.heap.size+1+1->b∉((w.heap.size+1+1)::(Ar O 0 0).ownBlock.toList):=λb i=>by simp[A5];omega
 have G:=Af<|o.o.only a (F _ (by omega));have af:=Af<|z.o.only a (F _ (by omega));have L:=Af a;have aq:=Af n;have ag:=Af k;have ao:=G.o.cell 0;have D:m.cell? ⟨g,2,O⟩=E (.string ⟨l.toArray⟩):=a.cell D<|F g (by omega);go_wp2_with fail;rw[Aq];go_wp2_with fail;have a7:A.heap.size<=m.heap.size:=L.o.size;have a8:=j.o.size;have ar:=Af<|al.o.below (j.o.trans (L.o.below_of (B:=w.heap.size) (by omega) (λb i=>by simp[A5] at i;omega)));refine(AeR (B:=m.heap.size) aq (Ep _ _ _ _) (by omega) (Aa _) ak am ar).mono ?_;rintro t au ⟨rfl,a9,n,k,a⟩;have ah:∀b,b<w.heap.size+1+1->b∉((w.heap.size+1+1)::(Ar O 0 0).ownBlock.toList):=λb i=>by simp[A5];omega
 have M:=Af (BJ ag a (λb i av=>by
  have:=(Ai ag i).1;have:=q.o.lt;simp[A5] at av;omega))
 have ba:=Af<|G.o.only a (ah _ (by omega));have e:=Af<|af.o.only a (ah _ (by omega));have aw:=Af a;have ax:=Af n;have ai:=Af k;obtain⟨ay,az,rfl⟩:=Ag k;obtain⟨a0,a1,rfl⟩:=Ag M;let⟨bb,bc,bd,be,bf,bg,bh⟩:=ax.o.c7;let⟨bi,bj,bk,bl,bm,bn,bo⟩:=e.o.c7;have bp:=e.o.frozen 0;have bq:=e.o.frozen 1;have br:=e.o.frozen 2;have bs:=e.o.frozen 3;have bt:=e.o.frozen 4;have bu:=e.o.frozen 5;have bv:=e.o.frozen 6;have bw:=e.o.lt;go_wp2_with fail;rw[Aq];go_wp2_with fail;refine Ao (AbH _ rfl _ _ (w+1) _ _ _ _ _ _ _ _ rfl rfl (JS e)) rfl ?_;have bz:=q.o.lt;have a2:(Ar ay 1 az).ownBlock≠E (w.heap.size+1):=λS=>by have:=(Ai ai S).1;omega
 have a3:(Ar a0 1 a1).ownBlock≠E (w.heap.size+1):=λS=>by have:=(Ai M S).1;omega
 have a4:Below w A m:=L.o.below_of (by omega) (λb i=>by simp[A5] at i;omega);have a5:Below w m au:=aw.o.below_of (by omega) (λb i=>by simp[A5] at i;omega);exact⟨_,_,rfl,FR (Aw M (by omega)) a3,FR (Aw ai (by omega)) a2,C9 (j.o.trans (a4.trans a5)) (by omega)⟩
abbrev MR:Ab:=277
abbrev Mi:Ab:=368
theorem Cw:prog.underlying MR=E (.map F8.K Gp):=underlying277
theorem FT:prog.underlying Mi=E (.map F8.K 419):=underlying368
def K7:KE:=⟨[115,97,109,112,108,101],by decide⟩
def K8:KE:=⟨[108,101,118,101,108,115],by decide⟩
abbrev DZ:N:=.agg #[.string ⟨#[110,110]⟩,.int .u8 0,.func (.func 203) #[] #[]]
abbrev D1:N:=.agg #[.string ⟨#[110,105]⟩,.int .u8 104,.func (.func 196) #[] #[]]
theorem Gy{W:U}{tm:Ab}{f:KE->Option N}(h:Bi F8 W m n f)(d:prog.underlying tm=E (.map F8.K p))(e:n<1000)(l:List UInt8)(b:l.length<=100)(v:N):
 ∃a,(D9 tm (.map (E m)) (.string ⟨l.toArray⟩) v).run prog W=.ok () a/\Bi F8 a m (n+1) (Fo f ⟨l,b⟩ v)/\W.mapTurned a m:=h.put d (by unfold Al;omega) ⟨l,b⟩ v
theorem AeS(b:Func)(hF:b.results= #[.cell i Gp])(tmps:Array N)(W:U)(g:Nat)(a0 d a2:N)(e:tmps.getD i Ac=g)(a:Ah W g Gp #[a0,d,a2]):
 (As b tmps).run prog W=.ok (.agg #[a0,d,a2]) W:=by
 have j:=a.cell 0;have k:=a.cell 1;have l:=a.cell 2;have m:tmps[i]?.getD Ac=g:=by simpa using e
 simp[As,hF,m,go_sem,j,k,l]
theorem LN{W:U}{t:Ab}{a b c a' b' c':N}(h:Ah W g t #[a,b,c]):Ah (((W.setCell g a').setCell ⟨g,1,O⟩ b').setCell ⟨g,2,O⟩ c') g t #[a',b',c']:=by
 have:=((h.put 0 a').put 1 b').put 2 c';simpa using this
theorem D2{B:Nat}{w W:U}{a b c:N}(h:Below B w W)(d:B<=g):Below B w (((W.setCell g a).setCell ⟨g,1,O⟩ b).setCell ⟨g,2,O⟩ c):=
 ((h.setCell (p:=g) d _).setCell (p:=⟨g,1,O⟩) d _).setCell (p:=⟨g,2,O⟩) d _
theorem MS(w:U)(e:Option Nat):Calls prog 205 #[.map e] w λg i=>∃c,g=R (.agg #[.string ⟨#[101,110,110,43]⟩,.int .u8 112,c])/\Below w w i:=by
 have b:=AG w (K #[.map e] Mi)<|K #[.string ⟨#[]⟩,.int .u8 0,.nilFunc] Gp;have d:=Af b;have a:=Af<|Bo w (K #[.map e] Mi) Gp #[.string ⟨#[]⟩,.int .u8 0,.nilFunc];go_in;go_upto_region 1 with fail;generalize (w.alloc (K #[.map e] Mi)).alloc (K #[.string ⟨#[]⟩,.int .u8 0,.nilFunc] Gp)=j at d a|-;have k:=a.o.frozen 0;have l:=a.o.frozen 1;have m:=a.o.frozen 2;have n:=a.o.cell 0;have o:=a.o.cell 1;have p:=a.o.cell 2;have q:=a.o.lt;go_wp2_with fail;refine Ao (AeS _ rfl _ _ (w+1) _ _ _ rfl (LN a)) rfl ?_;exact⟨_,rfl,D2 d (by omega)⟩
theorem DH(w:U):Calls prog 129 #[] w λp aq=>∃ar bv f,p=R (.map (E ar))/\Bi F8 aq ar bv f/\f K7=DZ/\f K8=D1/\Below w w aq:=by
 have b2:= @EC prog;have k0:=Bi.made F8 w;have b:=Zc w<|.map #[] 0;let⟨au,q,k1,av⟩:=Gy k0 Cw (by decide) [106,117,100,103,101] (by decide)<|.agg #[.string ⟨#[110,108,105]⟩,.int .u8 104,.func (.func 195) #[] #[]];have q:(D9 MR (.map (E w)) (.string ⟨#[106,117,100,103,101]⟩) (.agg #[.string ⟨#[110,108,105]⟩,.int .u8 104,.func (.func 195) #[] #[]])).run prog (w.alloc (.map #[] 0))=.ok () au:=q;have r:=b.grown av.grown (by have:=b.size;have:=b.size;omega) (λd a=>by injection a with a;omega);let⟨aw,t,k2,ax⟩:=Gy k1 Cw (by decide) [108,101,118,101,108,115] (by decide)<|.agg #[.string ⟨#[110,105]⟩,.int .u8 104,.func (.func 196) #[] #[]];have t:(D9 MR (.map (E w)) (.string ⟨#[108,101,118,101,108,115]⟩) (.agg #[.string ⟨#[110,105]⟩,.int .u8 104,.func (.func 196) #[] #[]])).run prog au=.ok () aw:=t;have u:=r.grown ax.grown (by have:=b.size;have:=r.size;omega) (λd a=>by injection a with a;omega);let⟨ay,v,k3,az⟩:=Gy k2 Cw (by decide) [102,97,115,116] (by decide)<|.agg #[.string ⟨#[110,108]⟩,.int .u8 104,.func (.func 197) #[] #[]];have v:(D9 MR (.map (E w)) (.string ⟨#[102,97,115,116]⟩) (.agg #[.string ⟨#[110,108]⟩,.int .u8 104,.func (.func 197) #[] #[]])).run prog aw=.ok () ay:=v;have x:=u.grown az.grown (by have:=b.size;have:=u.size;omega) (λd a=>by injection a with a;omega);let⟨a0,y,k4,a1⟩:=Gy k3 Cw (by decide) [99,101,114,116] (by decide)<|.agg #[.string ⟨#[110,108,115]⟩,.int .u8 104,.func (.func 198) #[] #[]];have y:(D9 MR (.map (E w)) (.string ⟨#[99,101,114,116]⟩) (.agg #[.string ⟨#[110,108,115]⟩,.int .u8 104,.func (.func 198) #[] #[]])).run prog ay=.ok () a0:=y;have z:=x.grown a1.grown (by have:=b.size;have:=x.size;omega) (λd a=>by injection a with a;omega);let⟨a2,A,k5,a3⟩:=Gy k4 Cw (by decide) [115,104,114,105,110,107] (by decide)<|.agg #[.string ⟨#[110,108,105,110]⟩,.int .u8 104,.func (.func 199) #[] #[]];have A:(D9 MR (.map (E w)) (.string ⟨#[115,104,114,105,110,107]⟩) (.agg #[.string ⟨#[110,108,105,110]⟩,.int .u8 104,.func (.func 199) #[] #[]])).run prog a0=.ok () a2:=A;have B:=z.grown a3.grown (by have:=b.size;have:=z.size;omega) (λd a=>by injection a with a;omega);let⟨a4,D,k6,a5⟩:=Gy k5 Cw (by decide) [99,117,116] (by decide)<|.agg #[.string ⟨#[110,105,110]⟩,.int .u8 104,.func (.func 200) #[] #[]];have D:(D9 MR (.map (E w)) (.string ⟨#[99,117,116]⟩) (.agg #[.string ⟨#[110,105,110]⟩,.int .u8 104,.func (.func 200) #[] #[]])).run prog a2=.ok () a4:=D;have F:=B.grown a5.grown (by have:=b.size;have:=B.size;omega) (λd a=>by injection a with a;omega);let⟨a6,G,k7,a7⟩:=Gy k6 Cw (by decide) [119,105,116,104,111,117,116] (by decide)<|.agg #[.string ⟨#[110,105,110]⟩,.int .u8 104,.func (.func 202) #[] #[]];have G:(D9 MR (.map (E w)) (.string ⟨#[119,105,116,104,111,117,116]⟩) (.agg #[.string ⟨#[110,105,110]⟩,.int .u8 104,.func (.func 202) #[] #[]])).run prog a4=.ok () a6:=G;have L:=F.grown a7.grown (by have:=b.size;have:=F.size;omega) (λd a=>by injection a with a;omega);let⟨g,M,k8,a8⟩:=Gy k7 Cw (by decide) [115,97,109,112,108,101] (by decide)<|.agg #[.string ⟨#[110,110]⟩,.int .u8 0,.func (.func 203) #[] #[]];have M:(D9 MR (.map (E w)) (.string ⟨#[115,97,109,112,108,101]⟩) (.agg #[.string ⟨#[110,110]⟩,.int .u8 0,.func (.func 203) #[] #[]])).run prog a6=.ok () g:=M;have n:=L.grown a8.grown (by have:=b.size;have:=L.size;omega) (λd a=>by injection a with a;omega);have l:=Bi.made F8 g;have m:=k8.call<|Zc g (.map #[] 0);have i:=n.alloc n.size<|.map #[] 0;have S:=k8.lt;have W:=n.size;let⟨a9,X,k9,Y⟩:=Gy l FT (by decide) [99,108,111,99,107] (by decide)<|.func (.func 206) #[] #[];have X:(D9 Mi (.map (E g)) (.string ⟨#[99,108,111,99,107]⟩) (.func (.func 206) #[] #[])).run prog (g.alloc (.map #[] 0))=.ok () a9:=X;have ba:=m.grown Y.grown (λh=>by injection h with h;omega);have Z:=i.grown Y.grown i.size (λd a=>by injection a with a;omega);let⟨bb,aa,k10,ab⟩:=Gy k9 FT (by decide) [108,97,116,99,104] (by decide)<|.func (.func 207) #[] #[];have aa:(D9 Mi (.map (E g)) (.string ⟨#[108,97,116,99,104]⟩) (.func (.func 207) #[] #[])).run prog a9=.ok () bb:=aa;have bc:=ba.grown ab.grown (λh=>by injection h with h;omega);have ac:=Z.grown ab.grown Z.size (λd a=>by injection a with a;omega);let⟨w11,ad,k11,ae⟩:=Gy k10 FT (by decide) [108,97,116,101] (by decide)<|.func (.func 208) #[] #[];have ad:(D9 Mi (.map (E g)) (.string ⟨#[108,97,116,101]⟩) (.func (.func 208) #[] #[])).run prog bb=.ok () w11:=ad;have bd:=bc.grown ae.grown (λh=>by injection h with h;omega);have be:=ac.grown ae.grown ac.size (λd a=>by injection a with a;omega);have j:=Af bd;have e:=Af be;go_in;go_wp2_with fail;refine(MS _ _).mono ?_;rintro p bw ⟨bf,rfl,k⟩;have k0:=j.o.call k;have b:=e.o.trans<|k.mono e.o.size;let⟨Zj,af,k12,bg⟩:=Gy k0 Cw (by decide) [114,117,110] (by decide)<|.agg #[.string ⟨#[101,110,110,43]⟩,.int .u8 112,bf];have af:(D9 MR (.map (E w)) (.string ⟨#[114,117,110]⟩) (.agg #[.string ⟨#[101,110,110,43]⟩,.int .u8 112,bf])).run prog bw=.ok () Zj:=af;have o:=b.grown bg.grown b.size (λd a=>by injection a with a;omega);have l:=Bi.made F8 Zj;have m:=k12.call<|Zc Zj (.map #[] 0);have i:=o.alloc o.size<|.map #[] 0;have S:=k12.lt;have W:=o.size;let⟨w13,ag,k13,ah⟩:=Gy l FT (by decide) [99,108,111,99,107] (by decide)<|.func (.func 13) #[] #[];have ag:(D9 Mi (.map (E Zj)) (.string ⟨#[99,108,111,99,107]⟩) (.func (.func 13) #[] #[])).run prog (Zj.alloc (.map #[] 0))=.ok () w13:=ag;have bh:=m.grown ah.grown (λh=>by injection h with h;omega);have ai:=i.grown ah.grown i.size (λd a=>by injection a with a;omega);let⟨w14,aj,k14,ak⟩:=Gy k13 FT (by decide) [108,97,116,99,104] (by decide)<|.func (.func 209) #[] #[];have aj:(D9 Mi (.map (E Zj)) (.string ⟨#[108,97,116,99,104]⟩) (.func (.func 209) #[] #[])).run prog w13=.ok () w14:=aj;have bi:=bh.grown ak.grown (λh=>by injection h with h;omega);have al:=ai.grown ak.grown ai.size (λd a=>by injection a with a;omega);let⟨bz,am,k15,an⟩:=Gy k14 FT (by decide) [108,97,116,101] (by decide)<|.func (.func 210) #[] #[];have am:(D9 Mi (.map (E Zj)) (.string ⟨#[108,97,116,101]⟩) (.func (.func 210) #[] #[])).run prog w14=.ok () bz:=am;have bj:=bi.grown an.grown (λh=>by injection h with h;omega);have bk:=al.grown an.grown al.size (λd a=>by injection a with a;omega);have j:=Af bj;have e:=Af bk;go_wp2_with fail;refine(MS _ _).mono ?_;rintro p b0 ⟨bl,rfl,k⟩;have k0:=j.o.call k;have b:=e.o.trans<|k.mono e.o.size;let⟨bm,bn,k16,bo⟩:=Gy k0 Cw (by decide) [102,117,108,108] (by decide)<|.agg #[.string ⟨#[101,110,110,43]⟩,.int .u8 112,bl];have bn:(D9 MR (.map (E w)) (.string ⟨#[102,117,108,108]⟩) (.agg #[.string ⟨#[101,110,110,43]⟩,.int .u8 112,bl])).run prog b0=.ok () bm:=bn;have ao:=b.grown bo.grown b.size (λd a=>by injection a with a;omega);let⟨bp,bq,k17,br⟩:=Gy k16 Cw (by decide) [115,104,111,119] (by decide)<|.agg #[.string ⟨#[110]⟩,.int .u8 104,.func (.func 211) #[] #[]];have bq:(D9 MR (.map (E w)) (.string ⟨#[115,104,111,119]⟩) (.agg #[.string ⟨#[110]⟩,.int .u8 104,.func (.func 211) #[] #[]])).run prog bm=.ok () bp:=bq;have ap:=ao.grown br.grown ao.size (λd a=>by injection a with a;omega);let⟨b1,bs,k18,bt⟩:=Gy k17 Cw (by decide) [108,105,115,116] (by decide)<|.agg #[.string ⟨#[]⟩,.int .u8 0,.func (.func 212) #[] #[]];have bs:(D9 MR (.map (E w)) (.string ⟨#[108,105,115,116]⟩) (.agg #[.string ⟨#[]⟩,.int .u8 0,.func (.func 212) #[] #[]])).run prog bp=.ok () b1:=bs;have bu:=ap.grown bt.grown ap.size (λd a=>by injection a with a;omega);have j:=Af k18;have e:=Af bu;go_wp2;go_ret;exact⟨_,_,_,rfl,j,by kernel_rfl,by kernel_rfl,e⟩
abbrev Qo:List UInt8:=[115,97,109,112,108,101,32,116,111,114,110,32,97]
def kA:KE:=⟨[97],by decide⟩
theorem Rt:words Qo=[[115,97,109,112,108,101],[116,111,114,110],[97]]:=by decide
theorem Ac0(w:U):(Ew Gp).run prog w=.ok (.agg #[.string ⟨#[]⟩,.int .u8 0,.nilFunc]) w:=by kernel_rfl
theorem Ks{W:U}{f:KE->Option N}(h:Bi F8 W m n f)(s:KE)(a:N)(d:f s=a):(B1 MR (.map (E m)) (KN s) true).run prog W=.ok (.tuple #[a,true]) W:=by
 have b:=h.look_ok Cw (Ac0 _) s;rw[d] at b;exact b
theorem Ru{W:U}{B:Nat}{t:Ab}{v:N}{xs:List N}(h:W.ownsRow B t 1 v n xs)(g:n≠0):∃a c,v=C (E ⟨a,0,O⟩) n c/\B<=a/\a<W.heap.size/\∀b d,xs[b]?=E d->W.cell? ⟨a,b,O⟩=E d:=by
 obtain⟨i,c,rfl,j,k⟩:=Kl h
 cases i with
 |none=>exact absurd (j rfl).1 g
 |some l=>
  obtain⟨a,rfl,m,o⟩:=k l rfl;refine⟨a,c,rfl,(Ai h rfl).1,m,λb d p=>?_⟩;have e:=o b d p
  cases b with
  |zero=>simpa[GW] using e
  |succ b=>simpa[GW] using e
def NL(X:U)(cm:Array N)(s7 d:N)(b:U):Prop:=∃a,s7=Q (E ⟨a,0,O⟩)/\d=true/\X.heap.size<=a/\Ah b a Gp cm/\Below X X b
def NM(X:U)(R:U->N->N->Prop)(g i:N)(a:U):Prop:=∃b d e,g=Q (E ⟨b,0,O⟩)/\i=.nilIface/\X.heap.size<=b/\Ah a b DK #[d,e,C O 0 0,C O 0 0,C O 0 0,C O 0 0,C O 0 0]/\R a d e/\Below X X a
theorem Yh{D:Nat}{f:KE->Option N}{w:U}(a3:Hq w D m n f){w0:U}(a4:AE w0)(a5:Below w0 w0 w)(a6:w0.heap.size<=m)(bm:n<1000):
 Calls prog 76 #[D,.string ⟨Qo.toArray⟩] w λz r=>∃ad,z=R (.tuple #[ad,.nilIface])/\r.ownsRow w 9 1 ad 1 [.string ⟨#[49,52]⟩]/\(∃ae af,Hq r D m (n+1) (Fo f kA (.agg #[ae,af]))/\Hy w r ae af [⟨1,0⟩,⟨1,0⟩] CY)/\Ay [m] w r:=by
 have an:=FC Qo (by simp) w;rw[Rt] at an;have a7:=Af an;have bn:=Af a3;have ag:=Af<|And.intro a4 (And.intro a5 a6);go_in;go_wp2_with fail;refine a7.o.mono ?_;rintro z j ⟨t,rfl,cf,A,B⟩;have ao:j.cell? t=F9:=A.cellAt 0 (by decide);have a8:j.cell? ⟨t,1,O⟩=SE:=A.cellAt 1 (by decide);have a9:j.cell? ⟨t,2,O⟩=E (KN kA):=A.cellAt 2 (by decide);have ah:t<j.heap.size:=Ad j _ ao;have ap:=Af<|And.intro a8 a9;have aq:=Af B;go_upto_region 4 with fail
 go_cut [7,8] (λbo bp ar=>NL j #[.string ⟨#[110,110]⟩,.int .u8 0,.func (.func 203) #[] #[]] bo bp ar)
 case first=>
  have l:∀ {V:U},Below j j V->V.cell? t=F9:=λh=>(h.cell (p:=t) ah).trans ao;have v:=Af (Zb j).drew;have x:=Af (Zc j (K #[.string ⟨#[]⟩,.int .u8 0,.nilFunc] Gp)).drew;have G:=Af<|(Ah.new j Gp #[.string ⟨#[]⟩,.int .u8 0,.nilFunc]).drew;have au:=l<|Zb j;have av:=l v.o;have aw:=l x.o
  go_region_held_law (λr=>r.cell? t=F9) (first|(go_keep;done)|with_reducible exact au|with_reducible exact av|with_reducible exact aw|with_reducible exact F|with_reducible exact Y|with_reducible exact Z) (first
   |((with_reducible refine(DH ((j.alloc (K #[.string ⟨#[]⟩,.int .u8 0,.nilFunc] Gp)).drew)).mono ?_);rintro z o ⟨ai,bq,br,rfl,L,M,ax,q⟩;have bs:(B1 MR (.map (E ai)) F9 true).run prog o=.ok (.tuple #[DZ,true]) o:=Ks L K7 DZ M;have e:=Af (G.o.below q G.o.lt);have ba:=e.o.cell 0;have bt:=e.o.frozen 0;have bb:=e.o.cell 1;have bu:=e.o.frozen 1;have bc:=e.o.cell 2;have bv:=e.o.frozen 2;have bw:=e.o.lt;have i:=Af (x.o.trans (q.mono x.o.size));have F:=l i.o;have Y:=F;have Z:=l (D2 (a:=.string ⟨#[110,110]⟩) (b:=.int .u8 0) (c:=.func (.func 203) #[] #[]) i.o (show j.heap.size<=j.heap.size from Aa _));clear L M ax q)
   |((with_reducible refine(DH j.drew).mono ?_);rintro z o ⟨ai,bq,br,rfl,L,M,ax,q⟩;have bs:(B1 MR (.map (E ai)) F9 true).run prog o=.ok (.tuple #[DZ,true]) o:=Ks L K7 DZ M;have cg:(B1 MR (.map (E ai)) F9 true).run prog (o.alloc (K #[.string ⟨#[]⟩,.int .u8 0,.nilFunc] Gp))=.ok (.tuple #[DZ,true]) (o.alloc (K #[.string ⟨#[]⟩,.int .u8 0,.nilFunc] Gp)):=Ks (L.call (Zc o (K #[.string ⟨#[]⟩,.int .u8 0,.nilFunc] Gp))) K7 DZ M;have i:=Af (v.o.trans (q.mono v.o.size));have F:=l i.o;have Y:=l (i.o.alloc i.o.size (K #[.string ⟨#[]⟩,.int .u8 0,.nilFunc] Gp));have Z:=l (i.o.alloc i.o.size (K #[.string ⟨#[110,110]⟩,.int .u8 0,.func (.func 203) #[] #[]] Gp));clear L M ax q))
  all_goals
   go_wp2
   go_meet
   unfold NL
   first
   |with_reducible exact⟨_,rfl,rfl,Aa _,LN e.o,D2 i.o (Aa _)⟩
   |with_reducible exact⟨_,rfl,rfl,i.o.size,Ah.new o Gp _,i.o.alloc i.o.size _⟩
 case rest=>
  obtain⟨W,rfl,rfl,bz,bd,B⟩:=hcut;have aa:=Af bd;have ay:=Af<|aq.o.trans (B.mono aq.o.size);have ab:=Af<|And.intro ((B.cell (p:=⟨t,1,O⟩) ah).trans ap.o.1) ((B.cell (p:=⟨t,2,O⟩) ah).trans ap.o.2);generalize wc=k at aa ay ab|-;go_upto_region 7 with fail
  go_cut [9,10] (λb0 b1 ar=>NM k (λb2 aj be=>be=C O 0 0/\b2.ownsRow k 9 1 aj 2 [KN JN,KN kA]) b0 b1 ar)
  case first=>
   have bf:=Af (λ(V:U) (h:Below k k V)=>AcY (w:=V) (s1:=JN) (s2:=kA) (g:=t) (c:=2) (u:=.int .u8 0) (d:=.func (.func 203) #[] #[]) (by decide) (by decide) ((h.cell (Ad k _ ab.o.1)).trans ab.o.1) ((h.cell (Ad k _ ab.o.2)).trans ab.o.2));have l:∀ {V:U},Below k k V->V.cell? W=E (.string ⟨#[110,110]⟩)/\V.cell? ⟨W,1,O⟩=E (.int .u8 0)/\V.cell? ⟨W,2,O⟩=E (.func (.func 203) #[] #[]):=λh=>have az:=aa.o.below h aa.o.lt;⟨az.cell 0,az.cell 1,az.cell 2⟩
   have v:=Af (Zb k).drew;have x:=Af (Zc k (K #[C O 0 0,C O 0 0,C O 0 0,C O 0 0,C O 0 0,C O 0 0,C O 0 0] DK)).drew;have G:=Af<|(Ah.new k DK #[C O 0 0,C O 0 0,C O 0 0,C O 0 0,C O 0 0,C O 0 0,C O 0 0]).drew;have au:=l<|Zb k;have av:=l v.o;have aw:=l x.o
   go_region_held_law (λr=>r.cell? W=E (.string ⟨#[110,110]⟩)/\r.cell? ⟨W,1,O⟩=E (.int .u8 0)/\r.cell? ⟨W,2,O⟩=E (.func (.func 203) #[] #[])) (first|(go_keep;done)|with_reducible exact au|with_reducible exact av|with_reducible exact aw|with_reducible exact F|with_reducible exact Y|with_reducible exact Z) (first
    |((with_reducible refine(bf.o ((k.alloc (K #[C O 0 0,C O 0 0,C O 0 0,C O 0 0,C O 0 0,C O 0 0,C O 0 0] DK)).drew) x.o).mono ?_);rintro z o ⟨aj,rfl,y,q⟩;obtain⟨ak,al,rfl⟩:=Ag y;have e:=Af (G.o.below q G.o.lt);have ba:=e.o.cell 0;have bt:=e.o.frozen 0;have bb:=e.o.cell 1;have bu:=e.o.frozen 1;have bc:=e.o.cell 2;have bv:=e.o.frozen 2;have b3:=e.o.cell 3;have ch:=e.o.frozen 3;have b4:=e.o.cell 4;have ci:=e.o.frozen 4;have b5:=e.o.cell 5;have cj:=e.o.frozen 5;have b6:=e.o.cell 6;have ck:=e.o.frozen 6;have bw:=e.o.lt;have i:=Af (x.o.trans (q.mono x.o.size));have a0:=Af (Aw y x.o.size);have b7:=Af (show(Ar ak 2 al).ownBlock≠E k.heap.size from λb8=>by have cl:=(Ai y b8).1;have cn:=G.o.lt;omega);have F:=l i.o;have Y:=F;have Z:=l (C9 (a:=(C ak 2 al)) (b:=C O 0 0) (c:=C O 0 0) (d:=C O 0 0) (e:=C O 0 0) (f:=C O 0 0) (k:=C O 0 0) i.o (show k.heap.size<=k.heap.size from Aa _));clear y q)
    |((with_reducible refine(bf.o k.drew v.o).mono ?_);rintro z o ⟨aj,rfl,y,q⟩;obtain⟨ak,al,rfl⟩:=Ag y;have i:=Af (v.o.trans (q.mono v.o.size));have a0:=Af (Aw y v.o.size);have F:=l i.o;have Y:=l (i.o.alloc i.o.size (K #[C O 0 0,C O 0 0,C O 0 0,C O 0 0,C O 0 0,C O 0 0,C O 0 0] DK));have Z:=l (i.o.alloc i.o.size (K #[C ak 2 al,C O 0 0,C O 0 0,C O 0 0,C O 0 0,C O 0 0,C O 0 0] DK));clear y q))
   all_goals
    go_wp2
    go_meet
    unfold NM
    first
    |with_reducible exact⟨_,_,_,rfl,rfl,Aa _,JS e.o,⟨rfl,FR a0.o b7.o⟩,C9 i.o (Aa _)⟩
    |with_reducible exact⟨_,_,_,rfl,rfl,i.o.size,Ah.new o DK _,⟨rfl,a0.o.alloc _⟩,i.o.alloc i.o.size _⟩
  case rest=>
   obtain⟨co,aj,be,rfl,rfl,b9,bg,⟨rfl,A⟩,a1⟩:=hcut;obtain⟨cp,ca,rfl,cb,cc,a2⟩:=Ru A (by decide);have am:=Af<|aa.o.below a1 aa.o.lt;have e:=Af bg;have X:=Af<|ay.o.trans (a1.mono ay.o.size);have bh:=Af<|bn.o.call X.o;let⟨ba,bb,bc,b3,b4,b5,b6⟩:=e.o.c7;have cq:=am.o.cell 0;have cr:=am.o.cell 1;have cs:=am.o.cell 2;have cd:=Af<|Vc (c:=ca) (u1:=C O 0 0) (u2:=C O 0 0) (u3:=C O 0 0) (u4:=C O 0 0) (u5:=C O 0 0) (u6:=C O 0 0) (s:=kA) bh.o (by decide) (a2 0 _ rfl) (a2 1 _ rfl) ag.o.1 (ag.o.2.1.trans (X.o.mono ag.o.2.1.size)) ag.o.2.2 bm;go_wp2_with fail;refine cd.o.mono ?_;rintro z ct ⟨ad,rfl,bi,⟨ae,af,bj,bk⟩,bl⟩;have ac:=Af<|And.intro bi (And.intro bj (And.intro bk bl));go_wp2;go_ret2;exact⟨ad,rfl,Aw ac.o.1 X.o.size,⟨ae,af,ac.o.2.1,Aw ac.o.2.2.1.1 X.o.size,Aw ac.o.2.2.1.2 X.o.size⟩,(Ay.of_below (S:=[m]) X.o (Aa _)).trans ac.o.2.2.2 (λcu ce=>.inl ce)⟩
theorem Ac1(w:U):(Ew 25).run prog w=.ok (.agg #[C O 0 0,C O 0 0]) w:=by kernel_rfl
theorem Yi{D:Nat}{f:KE->Option N}{w:U}{s:KE}{vo vl:N}{os:List Ob}{es:List Ev}(ag:Hq w D m n f)(ah:f s=E (.agg #[vo,vl]))(r:Ba 2 CL w vo os)(t:Ba 8 BO w vl es)(ai:os.length<=1000)(aj:es.length<=1000):
 Calls prog 131 #[D,KN s] w λL M=>∃u v,L=R (.tuple #[.agg #[u,v],true])/\Hy w M u v os es/\Below w w M:=by
 obtain⟨i,j,rfl⟩:=r.shape;obtain⟨k,l,rfl⟩:=t.shape;obtain⟨au,x,S⟩:=ag;have b:=Zc w<|K #[C O 0 0,C O 0 0] AI;have y:=Af b;have z:=Af<|Ah.new w AI #[C O 0 0,C O 0 0];have W:=Af<|r.below b;have X:=Af<|t.below b;have Y:=Af<|x.below b x.lt;have Z:=Af<|S.call b;go_in;go_upto_region 1 with fail;generalize w.alloc (K #[C O 0 0,C O 0 0] AI)=a at y z W X Y Z|-;have ak:=Y.o.cell 0
 have al:(B1 tHh (.map (E m)) (KN s) true).run prog a=.ok (.tuple #[.agg #[C i os.length j,C k es.length l],true]) a:=by
  have aa:=Z.o.look_ok SH (Ac1 _) s;rw[ah] at aa;exact aa
 have d:=Zc a<|K #[C i os.length j,C k es.length l] AI;have A:=Af<|Ah.new a AI #[C i os.length j,C k es.length l];have ab:=Af<|W.o.below d;have ac:=Af<|X.o.below d;have e:=Af<|z.o.below d z.o.lt;have o:=Af<|y.o.trans (d.mono y.o.size);go_upto_region 4 with fail;generalize a.heap.size=av at A|-;generalize a.alloc (K #[C i os.length j,C k es.length l] AI)=am at A ab ac e o|-;let⟨an,ao⟩:=A.o.c2;go_wp2_with fail;refine(F7 ab ac ai aj).mono ?_;rintro L aw ⟨u,v,rfl,p,B⟩;obtain⟨ap,k7,rfl⟩:=Ag p.1;obtain⟨aq,k8,rfl⟩:=Ag p.2;have g:=Af<|e.o.below B e.o.lt;have ar:=Af<|o.o.trans (B.mono o.o.size);have q:=Af p;have F:=Af e.o.lt;let⟨ax,ay⟩:=g.o.c2;have az:=g.o.frozen 0;have a0:=g.o.frozen 1;have a1:=g.o.lt;go_wp2_with fail;refine Ao (NK _ rfl _ _ w _ _ _ rfl rfl (Bs g)) rfl ?_;have ad:(Ar ap os.length k7).ownBlock≠E w.heap.size:=λG=>by have:=(Ai q.o.1 G).1;have:=F.o;omega
 have ae:(Ar aq es.length k8).ownBlock≠E w.heap.size:=λG=>by have:=(Ai q.o.2 G).1;have:=F.o;omega
 have af:w.heap.size<=am.heap.size:=by have:=F.o;omega
 exact⟨_,_,rfl,⟨Aw (Ak (Ak q.o.1 (p:=w) ad _) (p:=⟨w.heap.size,1,O⟩) ad _) af,Aw (Ak (Ak q.o.2 (p:=w) ae _) (p:=⟨w.heap.size,1,O⟩) ae _) af⟩,(ar.o.setCell (p:=w) (Aa _) _).setCell (p:=⟨w.heap.size,1,O⟩) (Aa _) _⟩
def Vd:List UInt8:=[121,101,115]
def noB:List UInt8:=[110,111]
def Hr(ans:Nat->Bool)(k:Nat):List (List UInt8):=(EZ k).map λa=>if ans (a+1) then Vd else noB
theorem Rv(ans:Nat->Bool):(Ea (Hr ans 4) [32]).length<=1000:=by
 have:∀a b c d:Bool,(Ea [if a then Vd else noB,if b then Vd else noB,if c then Vd else noB,if d then Vd else noB] [32]).length<=1000:=by decide
 exact this _ _ _ _
theorem P2(w:U)(o:Obj)(v:N)(t:Ab):∀(j:Nat) (u:N),[v][j]?=u->((w.alloc o).alloc (K #[v] t)).cell? (((w+1:Nat):Addr).add j)=u:=by
 have h:=En (w.alloc o) v t;have a:(w.alloc o).heap.size=w.heap.size+1:=by simp
 rw[a] at h;exact h
theorem MT(ans:Nat->Bool)(k:Nat):Hr ans (k+1)=Hr ans k++[if ans (k+1) then Vd else noB]:=by simp[Hr,HU]
theorem Ve{w:U}{i:Option Addr}{c1 c2 most:Nat}{ans:Nat->Bool}{u0 u2 u5 u6 d:N}(al:K6 w (.agg #[C A k c1,C i m c2]) most ans)(L:w.cell? g=E (most:Int))(M:AE w):
 Calls prog 196 #[d,.agg #[u0,C g 1 c,u2,C A k c1,C i m c2,u5,u6]] w λS j=>∃W,S=R (.tuple #[W,.nilIface])/\j.ownsRow w 9 1 W 1 [BH (Ea (Hr ans 4) [32])]/\Below w w j:=by
 let⟨am,an,ao,ap,aq⟩:=A1 (show(prog.info? 9).map (λX=>(X.zero,X.size,X.bytes))=E (E (.string ⟨#[]⟩),1,16) by kernel_rfl);have ar:=Zc w<|K #[u0,C g 1 c,u2,C A k c1,C i m c2,u5,u6] DK;have o:=Af ar;have q:=Af<|Ah.new w DK #[u0,C g 1 c,u2,C A k c1,C i m c2,u5,u6];have a6:g<w.heap.size:=Ad w _ L;have au:=Af (λ(av:U) (Y:Below w w av)=>Ro (w:=av) (λa7 a8 a9 V ba=>al a7 a8 a9 V (Y.trans (ba.mono Y.size))) (M.below Y));have bp:=Af M;clear ar al M;go_in;go_upto_region 1 with fail;generalize w.alloc (K #[u0,C g 1 c,u2,C A k c1,C i m c2,u5,u6] DK)=e at o q|-;have aw:=(o.o.cell (p:=g) a6).trans L;have ax:e.cell? ⟨w.heap.size,1,O⟩=E (C g 1 c):=q.o.cell 1;have ay:e.cell? ⟨w.heap.size,3,O⟩=E (C A k c1):=q.o.cell 3;have az:e.cell? ⟨w.heap.size,4,O⟩=E (C i m c2):=q.o.cell 4;have Z:=q.o.lt;have bb:g<e.heap.size:=by omega
 clear L;have D:∀ {V:U},Below e e V->V.cell? ⟨w.heap.size,1,O⟩=E (C g 1 c)/\V.cell? ⟨w.heap.size,3,O⟩=E (C A k c1)/\V.cell? ⟨w.heap.size,4,O⟩=E (C i m c2)/\V.cell? g=E (most:Int):=λh=>⟨(h.cell (p:=⟨_,1,O⟩) Z).trans ax,(h.cell (p:=⟨_,3,O⟩) Z).trans ay,(h.cell (p:=⟨_,4,O⟩) Z).trans az,(h.cell (p:=_) bb).trans aw⟩;have a0:=D<|Ae _ e;have a1:=D (Ae _ e).drew;have a2:=au.o e.drew o.o.drew
 go_region_held_law (λj=>j.cell? ⟨w.heap.size,1,O⟩=E (C g 1 c)/\j.cell? ⟨w.heap.size,3,O⟩=E (C A k c1)/\j.cell? ⟨w.heap.size,4,O⟩=E (C i m c2)/\j.cell? g=E (most:Int)) (first|(go_keep;done)|with_reducible exact a0|with_reducible exact a1|with_reducible exact bc) (((with_reducible refine a2.mono ?_);rintro S v ⟨W,rfl,aa,ab⟩;have bc:=D ((Ae _ e).drew.trans ab);obtain⟨F,bq,rfl,-⟩:=MD aa (by omega);have a3:=Af aa;have ac:=Af (o.o.drew.trans (ab.mono o.o.drew.size));clear aa ab))
 clear a0 a1 a2 D aw ax ay az q o au;go_upto_region 6 with fail
 go_loopw [26,8] (λad bd wr=>∃a:Nat,ad=(a:Int)/\a<=4/\wr.ownsRow v 9 1 bd a (txs (Hr ans a))/\Below v v wr) (λad _ _=>5-(intOf ad).toNat)
 case atStart=>exact⟨0,rfl,by omega,Ep _ _ _ _,Ae _ _⟩
 case round=>
  obtain⟨a,rfl,br,ae,a4⟩:=hrel;obtain⟨be,bf,rfl⟩:=Ag ae;have x:=Af ae;have b:=Af a4;clear ae a4;by_cases bg:a<4
  .have bs:decide ((a:Int)<4)=true:=by simp;omega
   have bt:decide (a<4)=true:=by simp;omega
   have r:wr.cell? ⟨F,a,O⟩=E (Rm (ans (a+1))):=(b.o.cell (p:=⟨F,a,O⟩) (Ai a3 rfl).2).trans<|(Ow a3 a (by omega)).trans (by simp[MP,bg])
   cases u:ans (a+1) with
   |true=>
    rw[u] at r;have af:=Af u;clear u;have ag:wr.cell? ⟨F,a,O⟩=E (I J 1):=r;clear r;go_wp2_with (at_builtin;refine B9 _ rfl (.tmp 30) (.tmp 35) 63 rfl v 9 am (.string ⟨#[]⟩) 1 16 underlying63 an ao ap aq rfl (by decide) _ _ _ rfl ((x.o.alloc _).alloc _) _ 1 1 [.string ⟨#[121,101,115]⟩] rfl rfl (P2 _ _ _ _) (by simp[B4]) (by unfold Al;omega) (by omega) (by have:=b.o.size;simp;omega) ?_;intro bh bi l y _ ah;have ai:=Af l;have aj:=Af y;obtain⟨bj,bk,rfl⟩:=Ag l;clear l y ah);clear ag;go_wp2
    go_roundw
    case rel=>
     refine⟨a+1,by go_num,by omega,?_,((b.o.alloc b.o.size _).alloc (by have:=b.o.size;simp;omega) _).grown aj (by have:=b.o.size;simp;omega) (λbl ak=>(Ai x ak).1)⟩;rw[MT,af.o,Lc];exact ai
    case measure=>simp[intOf];omega
   |false=>
    rw[u] at r;have af:=Af u;clear u;have ag:wr.cell? ⟨F,a,O⟩=E (I J 2):=r;clear r;go_wp2_with (at_builtin;refine B9 _ rfl (.tmp 30) (.tmp 35) 63 rfl v 9 am (.string ⟨#[]⟩) 1 16 underlying63 an ao ap aq rfl (by decide) _ _ _ rfl ((x.o.alloc _).alloc _) _ 1 1 [.string ⟨#[110,111]⟩] rfl rfl (P2 _ _ _ _) (by simp[B4]) (by unfold Al;omega) (by omega) (by have:=b.o.size;simp;omega) ?_;intro bh bi l y _ ah;have ai:=Af l;have aj:=Af y;obtain⟨bj,bk,rfl⟩:=Ag l;clear l y ah);clear ag;go_wp2
    go_roundw
    case rel=>
     refine⟨a+1,by go_num,by omega,?_,((b.o.alloc b.o.size _).alloc (by have:=b.o.size;simp;omega) _).grown aj (by have:=b.o.size;simp;omega) (λbl ak=>(Ai x ak).1)⟩;rw[MT,af.o,Lc];exact ai
    case measure=>simp[intOf];omega
  .obtain rfl:a=4:=by omega
   go_wp2_with fail;refine(Ju (C be 4 bf) (Hr ans 4) wr (BC x) (by simp[Hr]) (by have:=Rv ans;omega)).mono ?_;rintro S z ⟨rfl,G⟩;have a5:=G.alloc G.size<|K #[BH (Ea (Hr ans 4) [32])] 9;have bm:=Af<|ac.o.trans ((b.o.trans (a5.mono b.o.size)).mono ac.o.size);have bn:=Af (show(z.alloc (K #[BH (Ea (Hr ans 4) [32])] 9)).ownsRow z 9 1 (C z 1 1) 1 [BH (Ea (Hr ans 4) [32])] from BX (w:=z) (cs:= #[BH (Ea (Hr ans 4) [32])]) (t:=9) (B:=z.heap.size) (size:=1) (n:=1) rfl (Aa _) (by unfold Al;omega));have bo:=Af<|A8 ac.o.size (A8 b.o.size G.size);clear G a5;go_wp2;go_ret2;exact⟨_,rfl,Aw bn bo,bm⟩
abbrev Qp:List UInt8:=[108,101,118,101,108,115,32,97,32,49,48,48]
theorem Rw:words Qp=[[108,101,118,101,108,115],[97],[49,48,48]]:=by decide
theorem Yj{D:Nat}{f:KE->Option N}{w:U}{vo vl:N}{os:List Ob}{es:List Ev}{ans:Nat->Bool}(b2:Hq w D m n f)(b3:f kA=E (.agg #[vo,vl]))(b4:Ba 2 CL w vo os)(b5:Ba 8 BO w vl es)(a1:os.length<=1000)(a2:es.length<=1000)(b6:∀W vo vl,AE W->Cc Di 2 CL W vo os->Cc AJ 8 BO W vl es->K6 W (.agg #[vo,vl]) 100 ans)(b7:AE w):
 Calls prog 76 #[D,.string ⟨Qp.toArray⟩] w λL M=>∃a3,L=R (.tuple #[a3,.nilIface])/\M.ownsRow w 9 1 a3 1 [BH (Ea (Hr ans 4) [32])]/\Below w w M:=by
 have bf:=FC Qp (by simp) w;rw[Rw] at bf;have b8:=Af bf;have c0:=Af b2;have b9:=Af b7;have c1:=Af b6;have c2:=Af b3;have c3:=Af b4;have c4:=Af b5;have ca:=Af<|And.intro a1 a2;go_in;go_wp2_with fail;refine b8.o.mono ?_;rintro L o ⟨B,rfl,du,Y,Z⟩;have bg:o.cell? B=Ga:=Y.cellAt 0 (by decide);have cb:o.cell? ⟨B,1,O⟩=E (KN kA):=Y.cellAt 1 (by decide);have cc:o.cell? ⟨B,2,O⟩=E (.string ⟨#[49,48,48]⟩):=Y.cellAt 2 (by decide);have a4:B<o.heap.size:=Ad o _ bg;have bh:=Af<|And.intro cb cc;have bi:=Af Z;go_upto_region 4 with fail
 go_cut [7,8] (λc5 c6 bj=>NL o #[.string ⟨#[110,105]⟩,.int .u8 104,.func (.func 196) #[] #[]] c5 c6 bj)
 case first=>
  have q:∀ {V:U},Below o o V->V.cell? B=Ga:=λh=>(h.cell (p:=B) a4).trans bg;have F:=Af (Zb o).drew;have G:=Af (Zc o (K #[.string ⟨#[]⟩,.int .u8 0,.nilFunc] Gp)).drew;have aa:=Af<|(Ah.new o Gp #[.string ⟨#[]⟩,.int .u8 0,.nilFunc]).drew;have bk:=q<|Zb o;have bl:=q F.o;have bm:=q G.o
  go_region_held_law (λM=>M.cell? B=Ga) (first|(go_keep;done)|with_reducible exact bk|with_reducible exact bl|with_reducible exact bm|with_reducible exact ab|with_reducible exact ao|with_reducible exact ap) (first
   |((with_reducible refine(DH ((o.alloc (K #[.string ⟨#[]⟩,.int .u8 0,.nilFunc] Gp)).drew)).mono ?_);rintro L r ⟨a5,c7,c8,rfl,ae,bn,af,t⟩;have c9:(B1 MR (.map (E a5)) Ga true).run prog r=.ok (.tuple #[D1,true]) r:=Ks ae K8 D1 af;have e:=Af (aa.o.below t aa.o.lt);have ag:=e.o.cell 0;have da:=e.o.frozen 0;have ah:=e.o.cell 1;have db:=e.o.frozen 1;have ai:=e.o.cell 2;have dc:=e.o.frozen 2;have bo:=e.o.lt;have i:=Af (G.o.trans (t.mono G.o.size));have ab:=q i.o;have ao:=ab;have ap:=q (D2 (a:=.string ⟨#[110,105]⟩) (b:=.int .u8 104) (c:=.func (.func 196) #[] #[]) i.o (show o.heap.size<=o.heap.size from Aa _));clear ae bn af t)
   |((with_reducible refine(DH o.drew).mono ?_);rintro L r ⟨a5,c7,c8,rfl,ae,bn,af,t⟩;have c9:(B1 MR (.map (E a5)) Ga true).run prog r=.ok (.tuple #[D1,true]) r:=Ks ae K8 D1 af;have dv:(B1 MR (.map (E a5)) Ga true).run prog (r.alloc (K #[.string ⟨#[]⟩,.int .u8 0,.nilFunc] Gp))=.ok (.tuple #[D1,true]) (r.alloc (K #[.string ⟨#[]⟩,.int .u8 0,.nilFunc] Gp)):=Ks (ae.call (Zc r (K #[.string ⟨#[]⟩,.int .u8 0,.nilFunc] Gp))) K8 D1 af;have i:=Af (F.o.trans (t.mono F.o.size));have ab:=q i.o;have ao:=q (i.o.alloc i.o.size (K #[.string ⟨#[]⟩,.int .u8 0,.nilFunc] Gp));have ap:=q (i.o.alloc i.o.size (K #[.string ⟨#[110,105]⟩,.int .u8 104,.func (.func 196) #[] #[]] Gp));clear ae bn af t))
  all_goals
   go_wp2
   go_meet
   unfold NL
   first
   |with_reducible exact⟨_,rfl,rfl,Aa _,LN e.o,D2 i.o (Aa _)⟩
   |with_reducible exact⟨_,rfl,rfl,i.o.size,Ah.new r Gp _,i.o.alloc i.o.size _⟩
 case rest=>
  obtain⟨ac,rfl,rfl,dd,cd,Z⟩:=hcut;have aq:=Af cd;have aj:=Af<|bi.o.trans (Z.mono bi.o.size);have ar:=Af<|And.intro ((Z.cell (p:=⟨B,1,O⟩) a4).trans bh.o.1) ((Z.cell (p:=⟨B,2,O⟩) a4).trans bh.o.2);generalize wc=k at aq aj ar|-;go_upto_region 7 with fail
  go_cut [9,10] (λde df bj=>NM k (λW a6 a7=>W.ownsRow k 9 1 a6 1 [KN kA]/\W.ownsRow k Cv 1 a7 1 [I J 100]) de df bj)
  case first=>
   have ce:=Af (λ(V:U) (h:Below k k V)=>AcZ (w:=V) (s1:=kA) (l:=[49,48,48]) (v:=100) (g:=B) (c:=2) (u:=.int .u8 104) (d:=.func (.func 196) #[] #[]) (by decide) (by decide) (by decide+kernel) ((b9.o.below aj.o).below h) ((h.cell (Ad k _ ar.o.1)).trans ar.o.1) ((h.cell (Ad k _ ar.o.2)).trans ar.o.2));have q:∀ {V:U},Below k k V->V.cell? ac=E (.string ⟨#[110,105]⟩)/\V.cell? ⟨ac,1,O⟩=E (.int .u8 104)/\V.cell? ⟨ac,2,O⟩=E (.func (.func 196) #[] #[]):=λh=>have bp:=aq.o.below h aq.o.lt;⟨bp.cell 0,bp.cell 1,bp.cell 2⟩
   have F:=Af (Zb k).drew;have G:=Af (Zc k (K #[C O 0 0,C O 0 0,C O 0 0,C O 0 0,C O 0 0,C O 0 0,C O 0 0] DK)).drew;have aa:=Af<|(Ah.new k DK #[C O 0 0,C O 0 0,C O 0 0,C O 0 0,C O 0 0,C O 0 0,C O 0 0]).drew;have bk:=q<|Zb k;have bl:=q F.o;have bm:=q G.o
   go_region_held_law (λM=>M.cell? ac=E (.string ⟨#[110,105]⟩)/\M.cell? ⟨ac,1,O⟩=E (.int .u8 104)/\M.cell? ⟨ac,2,O⟩=E (.func (.func 196) #[] #[])) (first|(go_keep;done)|with_reducible exact bk|with_reducible exact bl|with_reducible exact bm|with_reducible exact ab|with_reducible exact ao|with_reducible exact ap) (first
    |((with_reducible refine(ce.o ((k.alloc (K #[C O 0 0,C O 0 0,C O 0 0,C O 0 0,C O 0 0,C O 0 0,C O 0 0] DK)).drew) G.o).mono ?_);rintro L r ⟨a6,a7,rfl,S,X,t⟩;obtain⟨a8,a9,rfl⟩:=Ag S;obtain⟨ba,bb,rfl⟩:=Ag X;have e:=Af (aa.o.below t aa.o.lt);have ag:=e.o.cell 0;have da:=e.o.frozen 0;have ah:=e.o.cell 1;have db:=e.o.frozen 1;have ai:=e.o.cell 2;have dc:=e.o.frozen 2;have au:=e.o.cell 3;have cf:=e.o.frozen 3;have av:=e.o.cell 4;have cg:=e.o.frozen 4;have aw:=e.o.cell 5;have dw:=e.o.frozen 5;have ax:=e.o.cell 6;have dx:=e.o.frozen 6;have bo:=e.o.lt;have i:=Af (G.o.trans (t.mono G.o.size));have bq:=Af (Aw S G.o.size);have br:=Af (Aw X G.o.size);have dh:=Af (show(Ar a8 1 a9).ownBlock≠E k.heap.size from λv=>by have a1:=(Ai S v).1;have a2:=aa.o.lt;omega);have di:=Af (show(Ar ba 1 bb).ownBlock≠E k.heap.size from λv=>by have a1:=(Ai X v).1;have a2:=aa.o.lt;omega);have ab:=q i.o;have ao:=ab;have ap:=q (C9 (a:=(C a8 1 a9)) (b:=(C ba 1 bb)) (c:=C O 0 0) (d:=C O 0 0) (e:=C O 0 0) (f:=C O 0 0) (k:=C O 0 0) i.o (show k.heap.size<=k.heap.size from Aa _));clear S X t)
    |((with_reducible refine(ce.o k.drew F.o).mono ?_);rintro L r ⟨a6,a7,rfl,S,X,t⟩;obtain⟨a8,a9,rfl⟩:=Ag S;obtain⟨ba,bb,rfl⟩:=Ag X;have i:=Af (F.o.trans (t.mono F.o.size));have bq:=Af (Aw S F.o.size);have br:=Af (Aw X F.o.size);have ab:=q i.o;have ao:=q (i.o.alloc i.o.size (K #[C O 0 0,C O 0 0,C O 0 0,C O 0 0,C O 0 0,C O 0 0,C O 0 0] DK));have ap:=q (i.o.alloc i.o.size (K #[C a8 1 a9,C ba 1 bb,C O 0 0,C O 0 0,C O 0 0,C O 0 0,C O 0 0] DK));clear S X t))
   all_goals
    go_wp2
    go_meet
    unfold NM
    first
    |with_reducible exact⟨_,_,_,rfl,rfl,Aa _,JS e.o,⟨FR bq.o dh.o,FR br.o di.o⟩,C9 i.o (Aa _)⟩
    |with_reducible exact⟨_,_,_,rfl,rfl,i.o.size,Ah.new r DK _,⟨bq.o.alloc _,br.o.alloc _⟩,i.o.alloc i.o.size _⟩
  case rest=>
   obtain⟨j,a6,a7,rfl,rfl,dy,ch,⟨Y,ci⟩,bs⟩:=hcut;obtain⟨bt,cj,rfl,dj,dk,ck⟩:=Ru Y (by decide);have ak:=Af<|aq.o.below bs aq.o.lt;have e:=Af ch;have ay:=Af<|aj.o.trans (bs.mono aj.o.size);have cl:=Af<|c0.o.call ay.o;let⟨ag,ah,ai,au,av,aw,ax⟩:=e.o.c7;have dl:=ak.o.cell 0;have dm:=ak.o.cell 1;have cn:=ak.o.cell 2;obtain⟨bc,cm,rfl,dn,dp,co⟩:=Ru ci (by decide);have dq:wc.cell? bt=E (KN kA):=ck 0 _ rfl;have cp:=Af<|Yi cl.o c2.o (c3.o.below ay.o) (c4.o.below ay.o) ca.o.1 ca.o.2;have bu:=Af<|co 0 _ rfl;go_wp2_with fail;refine cp.o.mono ?_;rintro L bd ⟨dz,d0,rfl,be,al⟩;obtain⟨x,y,rfl⟩:=Ag be.1;obtain⟨z,A,rfl⟩:=Ag be.2;have ad:=Af<|e.o.below al e.o.lt;have bv:=Af<|ak.o.below al ak.o.lt;have cq:=Af<|ay.o.trans (al.mono ay.o.size);have cr:=Af<|(al.cell dp).trans bu.o;have az:=Af be;have d1:=al.size;have d2:=e.o.lt
   have cs:bc≠j:=λv=>by
    have am:=e.o.cell 0;have an:=bu.o;rw[v] at an;rw[an] at am;simp at am
   let⟨ag,ah,ai,au,av,aw,ax⟩:=ad.o.c7;have cf:=ad.o.frozen 3;have cg:=ad.o.frozen 4;have bo:=ad.o.lt;go_upto_region 18 with fail
   have bw:ac≠j:=λv=>by
    have am:=ad.o;have an:=bv.o;rw[v] at an;unfold Ah at am an;rw[an] at am;simp at am
   have bz:(Ar x os.length y).ownBlock≠E j:=λv=>by have:=(Ai az.o.1 v).1;omega
   have b0:(Ar z es.length A).ownBlock≠E j:=λv=>by have:=(Ai az.o.2 v).1;omega
   have a0:=Af<|(cq.o.setCell (p:=⟨j,3,O⟩) (show w.heap.size<=j by have:=aj.o.size;omega) (C x os.length y)).setCell (p:=⟨j,4,O⟩) (show w.heap.size<=j by have:=aj.o.size;omega) (C z es.length A)
   have ct:=Af (show Ah ((bd.setCell ⟨j,3,O⟩ (C x os.length y)).setCell ⟨j,4,O⟩ (C z es.length A)) j DK #[C bt 1 cj,C bc 1 cm,C O 0 0,C x os.length y,C z es.length A,C O 0 0,C O 0 0] by
    have dr:=(ad.o.put 3 (C x os.length y)).put 4<|C z es.length A;simpa using dr)
   have cu:=Af<|(bv.o.far (p:=⟨j,3,O⟩) bw (C x os.length y)).far (p:=⟨j,4,O⟩) bw (C z es.length A);have cv:=Af (show((bd.setCell ⟨j,3,O⟩ (C x os.length y)).setCell ⟨j,4,O⟩ (C z es.length A)).cell? bc=E (I J 100) from(((Ay.refl [j] bd).setCell (p:=⟨j,3,O⟩) (.inl (by simp)) (C x os.length y)).setCell (p:=⟨j,4,O⟩) (.inl (by simp)) (C z es.length A)).cell (p:=bc) cr.o (by simpa using cs));have b1:=Af<|And.intro (Ak (Ak az.o.1 (p:=⟨j,3,O⟩) bz (C x os.length y)) (p:=⟨j,4,O⟩) bz (C z es.length A)) (Ak (Ak az.o.2 (p:=⟨j,3,O⟩) b0 (C x os.length y)) (p:=⟨j,4,O⟩) b0 (C z es.length A));generalize (bd.setCell ⟨j,3,O⟩ (C x os.length y)).setCell ⟨j,4,O⟩ (C z es.length A)=ds at a0 ct cu cv b1|-;have cw:=Af<|b9.o.below a0.o;have dt:=Af<|Ve (c:=cm) (u0:=C bt 1 cj) (u2:=C O 0 0) (u5:=C O 0 0) (u6:=C O 0 0) (d:=D) (c1.o ds _ _ cw.o (Cc.of_row b1.o.1 (λ_=>rfl) rfl) (Cc.of_row b1.o.2 (λ_=>rfl) rfl)) cv.o cw.o;let⟨ag,ah,ai,au,av,aw,ax⟩:=ct.o.c7;have cn:=cu.o.cell 2;go_wp2_with fail;refine dt.o.mono ?_;rintro L d3 ⟨a3,rfl,cx,cy⟩;have cz:=Af<|And.intro cx cy;go_wp2;go_ret2;exact⟨a3,rfl,Aw cz.o.1 a0.o.size,a0.o.trans (cz.o.2.mono a0.o.size)⟩
abbrev Ku:Ab:=94
theorem P3{w:World}{D:Nat}{l s0 s1 s2:List UInt8}{tv b:Value}(F:l.length<=1000)(i:words l=[s0,s1,s2])(j:∀W,Calls prog 75 #[BH s0] W λe w'=>e=.returned LM/\w'=W){R:World->Value->World->Prop}
 (k:∀X,Below w.heap.size w X->Calls prog 76 #[.pointer (some ⟨D,0,none⟩),.string ⟨l.toArray⟩] X λr w'=>∃v,r=.returned (.tuple #[v,.nilIface])/\R X v w'):
 Calls prog 34 #[.pointer (some ⟨D,0,none⟩),.agg #[.string ⟨l.toArray⟩,tv,b]] w λr w'=>∃v X,r=.returned (.tuple #[v,.nilIface])/\Below w.heap.size w X/\R X v w':=by
 have m:=Zc w (.cells #[.string ⟨l.toArray⟩,tv,b] Ku);have d:=Af m;have a:=Af (Ah.new w Ku #[.string ⟨l.toArray⟩,tv,b]);have u:=Af k;have x:=Af j
 have y:=Af (λX=>by
  have h:=FC l (by omega) X;rw[i] at h;exact h)
 go_in;go_upto_region 1 with fail;generalize w.alloc (.cells #[.string ⟨l.toArray⟩,tv,b] Ku)=X at d a|-;have n:=a.o.cell 0;go_wp2_with fail;refine(y.o X).mono ?_;rintro r o ⟨z,rfl,G,p,g⟩;have L:o.cell? ⟨z,0,none⟩=some (BH s0):=p.cellAt 0 (by simp);have A:=Af (a.o.below g a.o.lt);have q:=Af (d.o.trans (g.mono d.o.size));have n:=A.o.cell 0;go_wp2_with fail;refine(x.o o).mono ?_;rintro r M ⟨rfl,rfl⟩;go_wp2_with fail;refine(u.o _ q.o).mono ?_;rintro r S ⟨v,rfl,t⟩;have B:=Af t;go_wp2;go_ret2;exact⟨v,_,rfl,q.o,B.o⟩
section
attribute [local go_sem] Oper.semAt_some
abbrev Zn:Ab:=89
abbrev P4:List UInt8:=[115,97,109,112,108,101,32,116,111,114,110,32,97,10,108,101,118,101,108,115,32,97,32,49,48,48,10]
def Vf(x:Nat):List UInt8:=(Cd P4)[x]?.getD []
theorem FU:Cd P4=[Qo,Qp]:=by decide
theorem AeT(x:Nat)(h:2<=x):Vf x=[]:=by
 unfold Vf;rw[FU,List.getElem?_eq_none (by simpa using h)];rfl
def BlR(l:List Nat)(xs:List N):Prop:=∃b:List (Nat×Nat),b.length=l.length/\xs=(l.zip b).flatMap λa=>[BH (Vf a.1),C (E ⟨a.2.1,0,O⟩) 0 a.2.2,true]
theorem BlR.snoc{l:List Nat}{xs:List N}{x:Nat}(h:BlR l xs):BlR (l++[x]) (xs++[BH (Vf x),C g 0 k,true]):=by
 obtain⟨b,a,rfl⟩:=h;exact⟨b++[(g,k)],by simp[a],by rw[List.zip_append a.symm];simp⟩
def few(a:List Nat):List Nat:=a.filter λb=>decide (b<2)
theorem AaR(a:List Nat):(few a).length<=a.length:=List.length_filter_le _ _
theorem P5{a:List Nat}{x:Nat}(h:x<2):few (a++[x])=few a++[x]:=by simp[few,II,h]
theorem P6{a:List Nat}{x:Nat}(h:2<=x):few (a++[x])=few a:=by simp[few,II,show ¬x<2 by omega]
structure Rx (w:U) (pre:List Nat) (W:U):Prop where
 row:∃v xs,Ah W w Zn #[v]/\BlR (few pre) xs/\W.ownsRow w Ku 3 v (few pre).length xs
 tb:Ah W (w+1) 4 #[false]
 lb:Ah W (w+1+1) 9 #[.string ⟨P4.toArray⟩]
 below:Below w w W
theorem Rx.call{w W W':U}{b:List Nat}(h:Rx w b W)(a:Below W W W'):Rx w b W':=by
 obtain⟨⟨j,k,d,l,m⟩,e,g,i⟩:=h;exact⟨⟨j,k,d.below a d.lt,l,AA m a⟩,e.below a e.lt,g.below a g.lt,i.trans (a.mono i.size)⟩
theorem Rx.turn{B:Nat}{w W W':U}{d:List Nat}{row:Option Nat}(h:Rx w d W)(j:w.heap.size<=B)(a:W.grownBy W' row)(e:∀r,row=E r->B<=r/\∃o:Obj,W.heap[r]?=o/\o.isCells=false):Rx w d W':=by
 obtain⟨⟨k,l,m,n,p⟩,q,u,i⟩:=h;have b:=λr v=>(e r v).2;exact⟨⟨k,l,m.kept (By a b),n,AK p (λg y _ x=>By (t:=Ku) a b g ⟨_,_,x⟩)⟩,q.kept (By a b),u.kept (By a b),Cr i j i.size a e⟩
theorem Rx.junk{w W:U}{a:List Nat}{x:Nat}(h:Rx w a W)(b:2<=x):Rx w (a++[x]) W:=by
 obtain⟨⟨d,e,g,i,j⟩,k,l,m⟩:=h;exact⟨⟨d,e,g,by rw[P6 b];exact i,by rw[P6 b];exact j⟩,k,l,m⟩
theorem Rx.setTb{w W:U}{a:List Nat}(h:Rx w a W):Rx w a (W.setCell (w+1:Nat) false):=by
 obtain⟨⟨e,g,i,j,b⟩,d,k,l⟩:=h;exact⟨⟨e,g,i.far (p:=(w+1:Nat)) (show w.heap.size≠w.heap.size+1 by omega) _,j,Ak b (p:=(w+1:Nat)) (d.apartRow b (by decide)) _⟩,by simpa using d.put 0 false,k.far (p:=(w+1:Nat)) (show w.heap.size+1+1≠w.heap.size+1 by omega) _,l.setCell (p:=(w+1:Nat)) (show w.heap.size<=w.heap.size+1 by omega) _⟩
theorem NN{W W':U}{u:N}(h:W.cell? g=u)(b:W'.cell? g=u):KH g 1 W W':=λd e i a=>by
 obtain rfl:d=0:=by omega
 rw[h] at a;rw[b,a]
theorem AeV{w Z B w6:U}{e:List Nat}{x:Nat}{Av:Option Addr}{cv c6:Nat}{xs:List N}{o:Obj}(l:Ah Z w Zn #[C Av n cv])(z:BlR (few e) xs)(D:Z.ownsRow w Ku 3 (C Av n cv) n xs)(q:Ah Z (w+1) 4 #[false])(i:Ah Z (w+1+1) 9 #[.string ⟨P4.toArray⟩])(j:Below w w Z)(r:Below Z Z B)
 (t:w6.ownsRow w Ku 3 (C A (n+1) c6) (n+1) (xs++[BH (Vf x),C g 0 k,true])) (b:(B.alloc o).grownBy w6 (Ar Av n cv).ownBlock) (u:x<2) (F:(few e).length=n):
 KeepsFrom m Z (w6.setCell w (C A (n+1) c6))/\KH (w+1+1) 1 Z (w6.setCell w (C A (n+1) c6))/\Rx w (e++[x]) (w6.setCell w (C A (n+1) c6)):=by
 have a:Below Z Z (B.alloc o):=r.alloc r.size o;have k1:=l.below a l.lt;have k3:=AA D a;have k4:=q.below a q.lt;have k5:=i.below a i.lt;have v:=k1.grown b (λd=>k1.apartRow k3 (by decide) d.symm);have G:=k4.grown b (λd=>k4.apartRow k3 (by decide) d.symm);have L:=k5.grown b (λd=>k5.apartRow k3 (by decide) d.symm);have M:Below w w w6:=(j.trans (a.mono j.size)).grown b (by have W:=j.size;have X:=a.size;omega) (λY S=>(Ai k3 S).1);have y:=L.far (p:=w) (show w.heap.size+1+1≠w.heap.size by omega)<|C A (n+1) c6;refine⟨(Bz a).trans ((PL k3 b).trans ((GY _ _ _).from _)),NN (i.cell 0) (y.cell 0),⟨_,_,by simpa using v.put 0 (C A (n+1) c6),by rw[P5 u];exact z.snoc (g:=g) (k:=k),?_⟩,G.far (p:=w) (show w.heap.size+1≠w.heap.size by omega) _,y,M.setCell (p:=w) (Aa _) _⟩;rw[P5 u,Ef,E3,F];exact Ak t (p:=w) (v.apartRow t (by decide)) _
theorem Ry:words []=[]:=by decide
theorem Yk(W:U):∃g k B,(convert 9 52 LM).run prog W=.ok (C (E ⟨g,0,O⟩) 0 k) B/\Below W W B:=by
 refine⟨_,_,_,Lib.run_convert_string_bytes W 9 52 5 ⟨#[]⟩ underlying9 underlying52 underlying5,?_⟩;exact⟨rfl,rfl,rfl,by rw[Lib.bytesWorld_size];omega,λk a=>Lib.bytesWorld_at_old W _ _ k a⟩
structure B7 (ob tb A n:Nat) (Av:Option Addr) (cv g k gg c6:Nat) (lnV s0V:N) (Z B w6:U) (L:Nat->Bool) (t:Nat->N) (w:U):Prop where
 p3:t 3=ob
 p4:t 4=tb
 p6:t 6=lnV
 p7:t 7=C A 3 3
 q0:L 0=true->t 25=C Av n cv
 q1:L 1=true->t 26=lnV
 q2:L 2=true->t 27=C A 3 3
 q3:L 3=true->t 28=A
 q4:L 4=true->t 29=s0V
 q5:L 5=true->t 30=LM
 q6:L 6=true->t 31=C g 0 k
 q7:L 7=true->t 32=false
 q8:L 8=true->t 33=true
 q9:L 9=true->t 34=.agg #[lnV,C g 0 k,true]
 q10:L 10=true->t 35=C B 1 1
 q11:L 11=true->t 36=C gg (n+1) c6
 w0:L 6=false->w=Z.drew
 w1:L 6=true->L 10=false->w=B
 w2:L 10=true->L 11=false->w=B.alloc (K #[lnV,C g 0 k,true] Ku)
 w3:L 11=true->L 12=false->w=w6
 w4:L 12=true->w=w6.setCell ob (C gg (n+1) c6)
 e45:L 5=true->L 4=true
 e56:L 6=true->L 5=true
 e69:L 9=true->L 6=true
 e89:L 9=true->L 8=true
 e78:L 8=true->L 7=true
 e910:L 10=true->L 9=true
 e1011:L 11=true->L 10=true
 e011:L 11=true->L 0=true
 e1112:L 12=true->L 11=true
def NV(ob tb A n:Nat)(Av:Option Addr)(cv g k gg c6:Nat)(lnV s0V:N)(Z B w6:U)(l:Array Bool)(a:Act)(w:U):Prop:=l.size=13/\a.tmps.size=78/\a.defers=[]/\B7 ob tb A n Av cv g k gg c6 lnV s0V Z B w6 (λb=>l.getD b false) (λd=>a.tmps[d]?.getD Ac) w
section
variable {ob tb A n cv g k gg c6:Nat} {Av:Option Addr} {lnV s0V:Value} {Z B w6:World}
theorem AeW{l:Array Bool}(h:l.size=13)(d:i<13):(λa=>(l.setIfInBounds i true).getD a false)=λa=>if a=i then true else l.getD a false:=by
 funext a
 by_cases b:a=i
 .subst b;simp[h,d]
 .rw[if_neg b];simp[K2 (Eu b)]
theorem Agm{t:Array N}{d:Nat}(v:N)(h:t.size=78)(e:d<78):(λa=>(t.setIfInBounds d v)[a]?.getD Ac)=λa=>if a=d then v else t[a]?.getD Ac:=by
 funext a
 by_cases b:a=d
 .subst b;simp[h,e]
 .rw[if_neg b,K2 (Eu b)]
theorem NV.put{w':U}{d:Nat}{l:Array Bool}{a:Act}{v:N}(b:l.size=13)(e:a.tmps.size=78)(o:a.defers=[])(p:i<13)(q:d<78)(h:B7 ob tb A n Av cv g k gg c6 lnV s0V Z B w6 (λj=>if j=i then true else l.getD j false) (λm=>if m=d then v else a.tmps[m]?.getD Ac) w'):
 NV ob tb A n Av cv g k gg c6 lnV s0V Z B w6 (l.setIfInBounds i true) {tmps:=a.tmps.setIfInBounds d v,defers:=a.defers} w':=⟨by simpa using b,by simpa using e,o,by rw[AeW b p,Agm v e q];exact h⟩
theorem NV.none{w':U}{l:Array Bool}{a:Act}(b:l.size=13)(e:a.tmps.size=78)(j:a.defers=[])(m:i<13)(h:B7 ob tb A n Av cv g k gg c6 lnV s0V Z B w6 (λd=>if d=i then true else l.getD d false) (λo=>a.tmps[o]?.getD Ac) w'):
 NV ob tb A n Av cv g k gg c6 lnV s0V Z B w6 (l.setIfInBounds i true) a w':=⟨by simpa using b,by simpa using e,j,by rw[AeW b m];exact h⟩
theorem B7.cell{L:Nat->Bool}{t:Nat->N}{w:U}(h:B7 ob tb A n Av cv g k gg c6 lnV s0V Z B w6 L t w)(d:L 11=false){p:Addr}{u:N}(c0:Z.cell? p=u)(c1:B.cell? p=u)(c2:(B.alloc (K #[lnV,C (E ⟨g,0,Option.none⟩) 0 k,true] Ku)).cell? p=u):w.cell? p=u:=by
 cases a:L 6 with
 |false=>rw[h.w0 a];exact c0
 |true=>
  cases b:L 10 with
  |false=>rw[h.w1 a b];exact c1
  |true=>rw[h.w2 b d];exact c2
theorem Rz{l:Array Bool}(h:l.getD i true=false)(e:l.getD j false=true->l.getD i false=true):l.getD j false=false:=by
 cases a:l.getD j false with
 |false=>rfl
 |true=>exact Hz h (e a)
end
theorem AaS(x:Nat)(h:x<2):∃e c:ByteArray,BH ((Cd P4)[x]?.getD [])=.string e/\(∀V,Calls prog 73 #[.string e] V λb a=>∃A,b=R (C (E ⟨A,0,O⟩) 3 3)/\V.heap.size<=A/\a.cell? ⟨A,0,O⟩=E (.string c)/\Below V V a)/\(∀V,Calls prog 74 #[.string e] V λb a=>b=false/\V=a)/\(∀V,Calls prog 75 #[.string c] V λb a=>b=LM/\a=V)/\(c.toList==[104,105,115,116,111,114,121])=false/\(c.toList==[112,114,111,103,114,97,109])=false:=by
 have i:∀(d g j k:List UInt8),d.length<=1000->words d=[g,j,k]->∀V,Calls prog 73 #[.string ⟨d.toArray⟩] V λb a=>∃A,b=R (C (E ⟨A,0,O⟩) 3 3)/\V.heap.size<=A/\a.cell? ⟨A,0,O⟩=E (BH g)/\Below V V a:=λd g j k q l V=>by
  have h:=FC d (by omega) V;rw[l] at h;exact h.mono λb a ⟨A,m,n,o,p⟩=>⟨A,m,n,o.cellAt 0 (by simp),p⟩
 rcases (show x=0∨x=1 by omega) with rfl|rfl
 .exact⟨⟨Qo.toArray⟩,⟨#[115,97,109,112,108,101]⟩,by rw[FU];rfl,i _ _ _ _ (by decide) Rt,λV=>Jc Qo (by decide) V,SF,by decide+kernel,by decide+kernel⟩
 .exact⟨⟨Qp.toArray⟩,⟨#[108,101,118,101,108,115]⟩,by rw[FU];rfl,i _ _ _ _ (by decide) Rw,λV=>Jc Qp (by decide) V,SG,by decide+kernel,by decide+kernel⟩
theorem Ac2:prog.follows Ge=true:=by kernel_rfl
theorem Ac3:(prog.info? Ku).map (λa=>(a.zero,a.size,a.bytes))=E (E (.agg #[.string ⟨#[]⟩,C O 0 0,false]),3,48):=by kernel_rfl
theorem RD{w:U}{v:N}(a3:BU w v (bys P4)):Calls prog 32 #[v] w λab bm=>∃bn aj k1 ak k2,ab=R bn/\bm.ownsRow w Ku 3 bn 2 [BH Qo,C (E ⟨aj,0,O⟩) 0 k1,true,BH Qp,C (E ⟨ak,0,O⟩) 0 k2,true]/\Below w w bm:=by
 obtain⟨db,a4,rfl⟩:=a3.shape;rw[G6];let⟨ch,ci,cj,ck,cl⟩:=A1 Ac3;have a5:=AG w (K #[C O 0 0] Zn)<|K #[false] 4;have ap:=Af a5;have a6:=Af<|(Ah.new w Zn #[C O 0 0]).alloc (K #[false] 4);have a7:=Af<|Bo w (K #[C O 0 0] Zn) 4 #[false];have a8:=Af<|a3.below a5 (Aa _);clear a5 a3;refine(Dh (n:=8)).1<|callsIn_of_wp_marks func32 rfl trivial ?_ rfl;simp only[ntmps32,EQ,C4,Em,Nat.reduceAdd,Nat.reduceSub,Fy,Fz,FE,FV,Es,Ez]
 gi_upto_region 3 with fail
 have aq:((w.alloc (K #[C O 0 0] Zn)).alloc (K #[false] 4)).heap.size=w.heap.size+1+1:=by simp
 generalize (w.alloc (K #[C O 0 0] Zn)).alloc (K #[false] 4)=S at ap a6 a7 a8 aq|-;have bo:=Af<|SV _ P4 S a8;gi_wp2_with fail;refine⟨trivial,?_⟩;refine(Dh.2 bo).mono ?_;rintro ab dc ⟨rfl,rfl⟩;rw[aq];have bp:Rx w [] (S.alloc (K #[.string ⟨P4.toArray⟩] 9)):=⟨⟨_,_,a6.o.alloc _,⟨[],rfl,rfl⟩,Ep _ _ _ _⟩,a7.o.alloc _,by rw[<-aq];exact Ah.new S 9 #[.string ⟨P4.toArray⟩],ap.o.alloc ap.o.size _⟩;have ar:=Af bp;clear bp bo a8 a6 a7 ap;generalize S.alloc (K #[.string ⟨P4.toArray⟩] 9)=a9 at ar|-;clear aq;gi_wp2_with fail;have cn:=ar.o.below.size
 apply wpIn_rangeFunc_ownG (n:=8) rfl (by omega) (gf:=125) (lb:= #[(w+1+1:Nat)]) rfl trivial (enters_of func125 (by kernel_rfl) rfl)
  (N4 Fence.wide (8-1) trivial rfl (by omega) (w+1+1) P4 (by decide) a9 (ar.o.lb.cell 0))
  (λh k=>KH.trans h k) (λD W bq co _ t ba _=>KH.putObj D W bq co t ba) (Ae _ _) (λ_=>rfl)
  (λ(u:List Nat) D=>Rx w u D)
  (λc (u:List Nat) D=>False)
  (λu D W' cp h br al=>h.turn cn br al)
  (λc u D W' cp h br al=>h.elim)
  ar.o (a₁:=_) ?assign ?body ?done ?stop
 case assign=>
  intro W F D K am;gi_wp2;exact am
 case stop=>rintro bb c u S cq dd h;exact h.elim
 case body=>
  rintro W u F D ag bc;replace bc:u.length<2:=by rw[FU] at bc;simpa using bc
  rcases (show 2<=F∨F<2 by omega) with bs|bt
  .have cr:BH ((Cd P4)[F]?.getD [])=LM:=by rw[show(Cd P4)[F]?.getD []=[] from AeT F bs];rfl
   rw[cr]
   have au:=Af (λV=>by
    have h:=FC [] (by simp) V;rw[Ry] at h;exact h)
   have av:=Af (λV=>by
    have h:=Jc [] (by simp) V;rw[show Qv []=true from by decide] at h;exact h)
   have X:=Af ag;clear ag;gi_wp2_with fail;refine⟨trivial,?_⟩;refine(Gg W (Dh.2 (au.o D))).mono ?_;rintro ab ah ⟨A,rfl,aw,cs,ac⟩;have L:=Af<|X.o.call ac;have ax:=Af ac;have ay:=Af<|X.o.lb.cell 0;clear cs ac X aw;have bu:=L.o.tb.cell 0;gi_wp2_with fail;refine⟨trivial,?_⟩;refine(Gg W (Dh.2 (av.o ah))).mono ?_;rintro ab V ⟨rfl,rfl⟩;gi_wp2_with fail;exact⟨Bz ax,NN ay (L.o.lb.cell 0),L.o.junk bs⟩
  .let⟨M,ct,bv,bw,bz,b0,de,df⟩:=AaS F bt;have au:=Af bw;have av:=Af bz;have cu:=Af b0;rw[show BH ((Cd P4)[F]?.getD [])=.string M from bv];clear bw bz b0;have X:=Af ag;clear ag;gi_wp2_with fail;refine⟨trivial,?_⟩;refine(Gg W (Dh.2 (au.o D))).mono ?_;rintro ab ah ⟨A,rfl,aw,b1,ac⟩;have L:=Af<|X.o.call ac;have ax:=Af ac;have dh:w.heap.size+1+1<A:=Nat.lt_of_lt_of_le X.o.lb.lt aw;have ay:=Af<|X.o.lb.cell 0;clear ac X aw au;have bu:=L.o.tb.cell 0;have cw:=L.o.tb.frozen 0;have cx:=L.o.tb.lt;gi_wp2_with fail;refine⟨trivial,?_⟩;refine(Gg W (Dh.2 (av.o ah))).mono ?_;rintro ab V ⟨rfl,rfl⟩;clear av
   gi_upto_region 7 with fail
   have az:=Af L.o.setTb;have bd:=((Ay.refl [w.heap.size+1] ah).setCell (p:=(w+1:Nat)) (.inl (by simp)) false).cell (p:=A) b1 (by simp;omega);have a0:=Af<|(Bz (n:=a9.heap.size) ax).trans ((GY ah (w+1:Nat) false).from _);have b2:=Af<|NN ay (az.o.lb.cell 0);clear bu cw cx b1 L ax ay;generalize ah.setCell (w+1:Nat) false=Z at az bd a0 b2|-;let⟨⟨v,b3,t,an,G⟩,z,ad,r⟩:=az.o;obtain⟨Av,cv,rfl⟩:=Ag G;have ai:=Af<|And.intro an (And.intro t (And.intro G (And.intro z (And.intro ad r))));let⟨g,k,B,be,b4⟩:=Yk Z.drew;have Y:Below Z Z B:=(Ae _ Z).drew.trans b4;have di:(few u).length<=1:=by have:=AaR u;omega
   have cy:w.heap.size<=B.heap.size:=by have bf:=r.size;have bg:=Y.size;omega
   have k3:=(AA G Y).alloc<|K #[.string M,C g 0 k,true] Ku;have k1:=(t.below Y t.lt).alloc<|K #[.string M,C g 0 k,true] Ku;have k4:=(z.below Y z.lt).alloc<|K #[.string M,C g 0 k,true] Ku;have b5:=Ee<|D4 B (K #[.string M,C g 0 k,true] Ku);obtain⟨gg,c6,w6,b6,b7,bh,-,-⟩:=run_append_lies (P:=prog) (B.alloc (K #[.string M,.slice g 0 k,true] Ku)) Zn Zn w Ku ch (.agg #[.string ⟨#[]⟩,.slice O 0 0,false]) 3 48 underlying89 ci cj ck cl rfl (by decide) (.slice Av (few u).length cv) (few u).length b3 k3 B 1 1 [.string M,.slice g 0 k,true] rfl b5 (by simp[B4]) (by omega) (by unfold Al;omega) (by omega) (by simp;omega) _ rfl;have a1:=k1.grown bh (λb=>k1.apartRow k3 (by decide) b.symm);have cz:=Af<|And.intro (a1.cell 0) (And.intro (a1.frozen 0) a1.lt);have c0:=Af b6;have c1:=Af be;have c2:=Af Y;have bi:=Af<|And.intro b7 bh;have ae:=Af<|And.intro (t.cell 0) (And.intro ((t.below Y t.lt).cell 0) (And.intro (k1.cell 0) (And.intro (z.cell 0) (And.intro ((z.below Y z.lt).cell 0) (And.intro (k4.cell 0) bd)))));clear t an G z ad r b4 Y k1 k3 k4 b5 b7 bh a1 b6 be bd cy az;refine KM Ac2 (NV w (w+1) A (few u).length Av cv g k gg c6 (.string M) (.string ct) Z B w6) ?start7 ?step7 ?done7
   case start7=>
    refine⟨rfl,rfl,rfl,?_⟩;refine⟨rfl,rfl,rfl,rfl,?_,?_,?_,?_,?_,?_,?_,?_,?_,?_,?_,?_,λ_=>rfl,?_,?_,?_,?_,?_,?_,?_,?_,?_,?_,?_,?_,?_⟩
    all_goals
     intro b;exact absurd b (by simp)
   case step7=>
    intro af a2 w c3 bq dj bj l j o x;obtain⟨b8,b9,ca,a⟩:=bj;have e:=Af<|And.intro b8 (And.intro b9 ca);clear b8 b9 ca
    match c3,l with
    |0,l=>
     obtain rfl:=Option.some.inj l;have y:=a.p3;have a4:=a.cell (Rz j a.e011) ae.o.1 ae.o.2.1 ae.o.2.2.1;have i:=Af a;have q:=Af j;clear o j a;go_simp;refine x _ _ ?_;refine NV.put (i:=0) (d:=25) e.o.1 e.o.2.1 e.o.2.2 (by decide) (by decide) ?_;exact {i.o with q0:=λ_=>rfl,e011:=λ_=>rfl}
    |1,l=>
     obtain rfl:=Option.some.inj l;have y:=a.p6;have i:=Af a;have q:=Af j;clear o j a;go_simp;refine x _ _ ?_;refine NV.put (i:=1) (d:=26) e.o.1 e.o.2.1 e.o.2.2 (by decide) (by decide) ?_;exact {i.o with q1:=λ_=>rfl}
    |2,l=>
     obtain rfl:=Option.some.inj l;have y:=a.p7;have i:=Af a;have q:=Af j;go_simp;refine x _ _ ?_;refine NV.put (i:=2) (d:=27) e.o.1 e.o.2.1 e.o.2.2 (by decide) (by decide) ?_;exact {i.o with q2:=λ_=>rfl}
    |3,l=>
     obtain rfl:=Option.some.inj l;have ba:=o ⟨2,.data⟩ (by simp) rfl;have y:=a.q2 ba;have i:=Af a;have q:=Af j;go_simp;refine x _ _ ?_;refine NV.put (i:=3) (d:=28) e.o.1 e.o.2.1 e.o.2.2 (by decide) (by decide) ?_;exact {i.o with q3:=λ_=>rfl}
    |4,l=>
     obtain rfl:=Option.some.inj l;have G:=o ⟨3,.data⟩ (by simp) rfl;have y:=a.q3 G;obtain rfl:=a.w0<|Rz j (λb=>a.e45 (a.e56 b));have a4:=ae.o.2.2.2.2.2.2;have i:=Af a;have q:=Af j;go_simp;refine x _ _ ?_;refine NV.put (i:=4) (d:=29) e.o.1 e.o.2.1 e.o.2.2 (by decide) (by decide) ?_;exact {i.o with q4:=λ_=>rfl,e45:=λ_=>rfl}
    |5,l=>
     obtain rfl:=Option.some.inj l;have z:=o ⟨4,.data⟩ (by simp) rfl;have y:=a.q4 z;have i:=Af a;have q:=Af j;go_simp;refine⟨trivial,?_⟩;refine(Gg W (Dh.2 (cu.o _))).mono ?_;rintro ab V ⟨rfl,rfl⟩
     try go_simp
     refine x _ _ ?_;refine NV.put (i:=5) (d:=30) e.o.1 e.o.2.1 e.o.2.2 (by decide) (by decide) ?_;exact {i.o with q5:=λ_=>rfl,e45:=λ_=>z,e56:=λ_=>rfl}
    |6,l=>
     obtain rfl:=Option.some.inj l;have ad:=o ⟨5,.data⟩ (by simp) rfl;have y:=a.q5 ad;obtain rfl:=a.w0<|Rz j (λb=>b);have be:=c1.o;have i:=Af a;have q:=Af j;go_simp;refine x _ _ ?_;refine NV.put (i:=6) (d:=31) e.o.1 e.o.2.1 e.o.2.2 (by decide) (by decide) ?_;exact {i.o with q6:=λ_=>rfl,w0:=λb=>absurd (show true=false from b) (by decide),w1:=λ_ _=>rfl,w2:=λb _=>Hz q (i.o.e69 (i.o.e910 b)),w3:=λb _=>Hz q (i.o.e69 (i.o.e910 (i.o.e1011 b))),w4:=λb=>Hz q (i.o.e69 (i.o.e910 (i.o.e1011 (i.o.e1112 b)))),e56:=λ_=>ad,e69:=λ_=>rfl}
    |7,l=>
     obtain rfl:=Option.some.inj l;have y:=a.p4;have a4:=a.cell (Rz j (λb=>a.e78 (a.e89 (a.e910 (a.e1011 b))))) ae.o.2.2.2.1 ae.o.2.2.2.2.1 ae.o.2.2.2.2.2.1;have i:=Af a;have q:=Af j;go_simp;refine x _ _ ?_;refine NV.put (i:=7) (d:=32) e.o.1 e.o.2.1 e.o.2.2 (by decide) (by decide) ?_;exact {i.o with q7:=λ_=>rfl,e78:=λ_=>rfl}
    |8,l=>
     obtain rfl:=Option.some.inj l;have bf:=o ⟨7,.data⟩ (by simp) rfl;have y:=a.q7 bf;have i:=Af a;have q:=Af j;go_simp;refine x _ _ ?_;refine NV.put (i:=8) (d:=33) e.o.1 e.o.2.1 e.o.2.2 (by decide) (by decide) ?_;exact {i.o with q8:=λ_=>rfl,e89:=λ_=>rfl,e78:=λ_=>bf}
    |9,l=>
     obtain rfl:=Option.some.inj l;have t:=o ⟨1,.data⟩ (by simp) rfl;have r:=o ⟨6,.data⟩ (by simp) rfl;have bg:=o ⟨8,.data⟩ (by simp) rfl;have y:=a.q1 t;have bk:=a.q6 r;have dk:=a.q8 bg;have i:=Af a;have q:=Af j;go_simp;refine x _ _ ?_;refine NV.put (i:=9) (d:=34) e.o.1 e.o.2.1 e.o.2.2 (by decide) (by decide) ?_;exact {i.o with q9:=λ_=>rfl,e69:=λ_=>r,e89:=λ_=>bg,e910:=λ_=>rfl}
    |10,l=>
     obtain rfl:=Option.some.inj l;have bl:=o ⟨9,.data⟩ (by simp) rfl;have y:=a.q9 bl;have r:=a.e69 bl;obtain rfl:=a.w1 r<|Rz j (λb=>b);have i:=Af a;have q:=Af j;go_simp;refine x _ _ ?_;refine NV.put (i:=10) (d:=35) e.o.1 e.o.2.1 e.o.2.2 (by decide) (by decide) ?_;exact {i.o with q10:=λ_=>rfl,w0:=λb=>absurd (show af.getD 6 false=false from b) (by rw[r];decide),w1:=λ_ b=>absurd (show true=false from b) (by decide),w2:=λ_ _=>rfl,w3:=λb _=>Hz q (i.o.e1011 b),w4:=λb=>Hz q (i.o.e1011 (i.o.e1112 b)),e910:=λ_=>bl,e1011:=λ_=>rfl}
    |11,l=>
     obtain rfl:=Option.some.inj l;have cb:=o ⟨0,.data⟩ (by simp) rfl;have aa:=o ⟨10,.data⟩ (by simp) rfl;have y:=a.q0 cb;have bk:=a.q10 aa;have r:=a.e69<|a.e910 aa;obtain rfl:=a.w2 aa<|Rz j (λb=>b);have i:=Af a;have q:=Af j;refine CD rfl (.tmp 25) (.tmp 35) Zn rfl (C Av (few u).length cv) (C B 1 1) (by simpa[Of] using y) (by simpa[Of] using bk) _ _ c0 ?_;refine x _ _ ?_;refine NV.put (i:=11) (d:=36) e.o.1 e.o.2.1 e.o.2.2 (by decide) (by decide) ?_;exact {i.o with q11:=λ_=>rfl,w0:=λb=>absurd (show af.getD 6 false=false from b) (by rw[r];decide),w1:=λ_ b=>absurd (show af.getD 10 false=false from b) (by rw[aa];decide),w2:=λ_ b=>absurd (show true=false from b) (by decide),w3:=λ_ _=>rfl,w4:=λb=>Hz q (i.o.e1112 b),e1011:=λ_=>aa,e011:=λ_=>cb,e1112:=λ_=>rfl}
    |12,l=>
     obtain rfl:=Option.some.inj l;have ao:=o ⟨11,.data⟩ (by simp) rfl;have y:=a.p3;have bk:=a.q11 ao;have aa:=a.e1011 ao;have r:=a.e69<|a.e910 aa;obtain rfl:=a.w3 ao<|Rz j (λb=>b);let⟨dl,dm,dn⟩:=cz.o;have i:=Af a;have q:=Af j;go_simp;refine x _ _ ?_;refine NV.none (i:=12) e.o.1 e.o.2.1 e.o.2.2 (by decide) ?_;exact {i.o with w0:=λb=>absurd (show af.getD 6 false=false from b) (by rw[r];decide),w1:=λ_ b=>absurd (show af.getD 10 false=false from b) (by rw[aa];decide),w2:=λ_ b=>absurd (show af.getD 11 false=false from b) (by rw[ao];decide),w3:=λ_ b=>absurd (show true=false from b) (by decide),w4:=λ_=>rfl,e1112:=λ_=>ao}
    |n+13,l=>cases l
   case done7=>
    intro af a2 w bj al;obtain⟨j,c4,c5,cc⟩:=bj;have cd:=ML al j (by kernel_rfl);obtain rfl:=cc.w4<|cd 12 (by decide);gi_wp2_with fail;rw[<-show BH (Vf F)=.string M from bv] at bi;let⟨k1,k2,k3⟩:=AeV (m:=a9.heap.size) (x:=F) ai.o.2.1 ai.o.1 ai.o.2.2.1 ai.o.2.2.2.1 ai.o.2.2.2.2.1 ai.o.2.2.2.2.2 c2 bi.o.1 bi.o.2 bt rfl;exact⟨a0.o.trans k1,b2.o.trans k2,k3⟩
 case done=>
  rintro bb dp S cq rfl ag am;obtain⟨⟨v,b3,t,an,G⟩,z,ad,r⟩:=ag;have ce:few (EZ (Cd P4).length)=[0,1]:=by rw[FU];decide
  rw[ce] at an G;obtain⟨cf,c7,rfl⟩:=an
  obtain⟨aj,k1,ak,k2,rfl⟩:∃aj k1 ak k2,cf=[(aj,k1),(ak,k2)]:=by
   match cf,c7 with
   |[a2,cg],_=>exact⟨a2.1,a2.2,cg.1,cg.2,rfl⟩
  have dq:=t.cell 0;have c8:=Af<|AK G (W':=S.putObj bb (.deferred O)) (λg dr _ c9=>AD.put am rfl g ⟨_,_,c9⟩);have da:=Af<|r.grown (GX S bb (.deferred O)) r.size (λk b=>by cases b;omega);have a0:=Af am;gi_wp2_with fail;refine⟨by simp,.inl ⟨_,_,rfl,run_takeDeferred a0,?_⟩⟩;refine⟨v,?_,v,aj,k1,ak,k2,rfl,c8,da⟩;simp[As,Tryz.f32,go_sem]
end
theorem Adu:(prog.info? Ra).map (fun a=>(a.zero,a.size,a.bytes))=some (some .nilFunc,1,8):=by kernel_rfl
abbrev Vr:Obj:=.cells #[.nilFunc,.nilFunc] Ra
theorem Afa:madeCells #[Value.nilFunc] 2= #[.nilFunc,.nilFunc]:=by kernel_rfl
theorem Adv(W:World):(Fw 345 (.int .i64 2) (.int .i64 2)).run prog W=.ok (.slice (some ⟨W.heap.size,0,none⟩) 2 2) (W.alloc Vr):=by
 obtain⟨a,b,d,e,g⟩:=A1 Adu
 have h:=run_make (P:=prog) W 345 Ra a .nilFunc underlying345 b d .i64 .i64 2 2 (by decide) (by omega) (by rw [g];omega) (by omega)
 simpa[e,F2,Afa] using h
structure Zp (B:Nat) (w':World) (p:Pg) (rv:Value) (a:Ca):Prop where
 tb:Ah w' a.T Sw #[a.pc,a.pt,.pointer (some ⟨a.wb,0,none⟩),.slice (some ⟨a.nb,0,none⟩) 2 2,rv]
 wk:Wk B a.wb w' (Wd.start p) a.vc a.vt (.slice (some ⟨a.g,0,none⟩) a.gn a.gc) (.slice none 0 0)
 nx:Ah w' a.nb Ra #[.nilFunc,.nilFunc]
 nB:B≤a.nb
 po:Dy w' B a.pc a.pt p
theorem Zp.call{B:Nat}{W W':World}{p:Pg}{rv:Value}{a:Ca}(h:Zp B W p rv a)(b:Below W.heap.size W W'):Zp B W' p rv a:=
 ⟨h.tb.below b h.tb.lt,h.wk.call b,h.nx.below b h.nx.lt,h.nB,h.po.keep fun d _ _ _ e=>b.block d (AB e)⟩
theorem Wk.base{B n k:Nat}{W:World}{d:Wd}{v u z ve:Value}(h:Wk n k W d v u z ve)(a:B≤n):Wk B k W d v u z ve:=⟨h.box,A8 a h.le,h.pg.base a,Aw h.th a,Aw h.ev a⟩
theorem YS(an ao:Value)(p:Pg)(l:FuncId)(m:Array Value)(w:World)(x:Ln w an ao p)(ap:Gi w)(ac:Fm p=true)(aq:PgY p)(ad:p.threads.length=2):
 Calls prog 123 #[.agg #[an,ao],.func (.func l) m #[]] w fun ae F=>∃ar:Ca,ae=.returned (.tuple #[.pointer (some ⟨ar.T,0,none⟩),.nilIface])∧Zp w.heap.size F p (.func (.func l) m #[]) ar∧Below w.heap.size w F:=by
 obtain⟨o,q,rfl⟩:=x.1.shape
 obtain⟨r,t,rfl⟩:=x.2.shape
 rw [BY] at x⊢
 have G:=(Ae w.heap.size w).alloc (Aa _) (.cells #[.slice o p.cells.length q,.slice r p.threads.length t] tP)
 have S:=Af (YR _ _ p _ (x.below G) (ap.below G) ac (Aau aq))
 have y:=Af G
 have W:=Af (x.below G)
 have z:=Af (Ah.new w tP #[.slice o p.cells.length q,.slice r p.threads.length t])
 have au:=Af ac
 rw [ad] at S y W z⊢
 have a7:=Af ad
 have a8:=Adv
 go_enter func123,ntmps123
 go_upto_region 1 with fail
 generalize w.alloc (.cells #[.slice o p.cells.length q,.slice r 2 t] tP)=a9 at S y W z⊢
 obtain⟨a2,a3⟩:=z.o.c2
 go_wp2_with fail
 refine S.o.mono ?_
 rintro ba a ⟨n,X,Y,u,Z,c,rfl,av,i⟩
 have v:=Af (y.o.trans (i.mono y.o.size))
 have A:=Af (z.o.below i z.o.lt)
 have aw:=Af (W.o.below i)
 have ax:=Af (av.base y.o.size)
 go_upto_region 4 with fail
 have af:a.cell? ⟨w.heap.size,0,none⟩=some (.slice o p.cells.length q)∧a.cell? ⟨w.heap.size,1,none⟩=some (.slice r 2 t):=⟨A.o.cell 0,A.o.cell 1⟩
 have ay:a.drew.cell? ⟨w.heap.size,0,none⟩=some (.slice o p.cells.length q)∧a.drew.cell? ⟨w.heap.size,1,none⟩=some (.slice r 2 t):=af
 have e:=((Ae a.heap.size a).alloc (Aa _) Vr).drew
 have ag:∀aa:World,Below a.heap.size a aa→aa.cell? ⟨w.heap.size,0,none⟩=some (.slice o p.cells.length q)∧aa.cell? ⟨w.heap.size,1,none⟩=some (.slice r 2 t):=fun aa i=>⟨(A.o.below i A.o.lt).cell 0,(A.o.below i A.o.lt).cell 1⟩
 have az:=ag _ e
 have L:=Af ag
 have a0:=Af e
 have a4:=Af (J6 (.slice o p.cells.length q) (.slice r 2 t) p a.drew (aw.o.below ((Ae _ a).drew)) au.o)
 have a5:=Af (J6 (.slice o p.cells.length q) (.slice r 2 t) p (a.alloc Vr).drew (aw.o.below e) au.o)
 go_region_held3 (fun F=>F.cell? ⟨w.heap.size,0,none⟩=some (.slice o p.cells.length q)∧F.cell? ⟨w.heap.size,1,none⟩=some (.slice r 2 t)) (with_reducible assumption)
  (first
   |((with_reducible refine a4.o.mono ?_);rintro ae b ⟨j,k,rfl,M,B⟩;have g:=((Ae a.heap.size a).drew).trans B;have ah:=L.o _ g;have ai:=L.o _ (g.alloc g.size Vr);have a6:=L.o _ ((g.alloc g.size Vr).alloc (g.alloc g.size Vr).size (.cells #[j,k,.pointer (some ⟨n,0,none⟩),.slice (some ⟨b.heap.size,0,none⟩) 2 2,.func (.func l) m #[]] Sw));have aj:=Af (And.intro M g);clear M B)
   |((with_reducible refine a5.o.mono ?_);rintro ae b ⟨j,k,rfl,M,B⟩;have g:=a0.o.trans (B.mono a0.o.size);have ah:=L.o _ g;have ai:=L.o _ (g.alloc g.size (.cells #[j,k,.pointer (some ⟨n,0,none⟩),.slice (some ⟨a.heap.size,0,none⟩) 2 2,.func (.func l) m #[]] Sw));have aj:=Af (And.intro M (And.intro B g));clear M B))
 ·have d:=aj.o
  have D:a.heap.size≤b.heap.size:=d.2.size
  have e:=(Ae b.heap.size b).alloc (Aa _) Vr
  have i:=(Ae (b.alloc Vr).heap.size (b.alloc Vr)).alloc (Aa _) (.cells #[j,k,.pointer (some ⟨n,0,none⟩),.slice (some ⟨b.heap.size,0,none⟩) 2 2,.func (.func l) m #[]] Sw)
  have ab:=e.trans (i.mono e.size)
  have ak:=Af (show Zp w.heap.size ((b.alloc Vr).alloc (.cells #[j,k,.pointer (some ⟨n,0,none⟩),.slice (some ⟨b.heap.size,0,none⟩) 2 2,.func (.func l) m #[]] Sw)) p (.func (.func l) m #[]) ⟨b.heap.size+1,n,u,Z,c,b.heap.size,0,X,Y,.slice none 0 0,j,k,.slice none 0 0,[],[]⟩ from⟨Bo b Vr Sw _,(ax.o.call d.2).call ab,(Ah.new b Ra #[.nilFunc,.nilFunc]).below i (by simp),A8 v.o.size D,(d.1.base (A8 v.o.size (Aa a.drew.heap.size))).keep fun u _ _ _ d=>ab.block u (AB d)⟩)
  have al:=Af (v.o.trans ((d.2.trans (ab.mono D)).mono v.o.size))
  go_wp2
  go_ret2
  exact⟨⟨b.heap.size+1,n,u,Z,c,b.heap.size,0,X,Y,.slice none 0 0,j,k,.slice none 0 0,[],[]⟩,rfl,ak.o,al.o⟩
 ·have d:=aj.o
  have D:a.heap.size≤b.heap.size:=d.2.2.size
  have e:=(Ae b.heap.size b).alloc (Aa _) (.cells #[j,k,.pointer (some ⟨n,0,none⟩),.slice (some ⟨a.heap.size,0,none⟩) 2 2,.func (.func l) m #[]] Sw)
  have am:Ah b a.heap.size Ra #[.nilFunc,.nilFunc]:=(show Ah (a.alloc Vr).drew a.heap.size Ra #[.nilFunc,.nilFunc] from(Ah.new a Ra _).drew).below d.2.1 (by simp)
  have a1:w.heap.size≤(a.alloc Vr).drew.heap.size:=A8 v.o.size (by simp)
  have ak:=Af (show Zp w.heap.size (b.alloc (.cells #[j,k,.pointer (some ⟨n,0,none⟩),.slice (some ⟨a.heap.size,0,none⟩) 2 2,.func (.func l) m #[]] Sw)) p (.func (.func l) m #[]) ⟨b.heap.size,n,u,Z,c,a.heap.size,0,X,Y,.slice none 0 0,j,k,.slice none 0 0,[],[]⟩ from⟨Ah.new _ Sw _,(ax.o.call d.2.2).call e,am.below e am.lt,v.o.size,(d.1.base a1).keep fun u _ _ _ d=>e.block u (AB d)⟩)
  have al:=Af (v.o.trans ((d.2.2.trans (e.mono D)).mono v.o.size))
  go_wp2
  go_ret2
  exact⟨⟨b.heap.size,n,u,Z,c,a.heap.size,0,X,Y,.slice none 0 0,j,k,.slice none 0 0,[],[]⟩,rfl,ak.o,al.o⟩
theorem Adw:(prog.info? tWs).map (fun a=>(a.zero,a.size,a.bytes))=some (some (.agg #[.int .i64 0,.map none,.map none]),3,24):=by kernel_rfl
theorem Adx:(prog.info? TZ).map (fun a=>(a.zero,a.size,a.bytes))=some (some (.agg #[.int .i64 0,.int .i64 0,.int .i64 0]),3,24):=by kernel_rfl
abbrev wsO:Obj:=.cells #[.int .i64 0,.map none,.map none,.int .i64 0,.map none,.map none] tWs
theorem Afc:madeCells #[A0 .i64 0,.map none,.map none] 6= #[.int .i64 0,.map none,.map none,.int .i64 0,.map none,.map none]:=by kernel_rfl
theorem Ady(W:World):(Fw 257 (.int .i64 2) (.int .i64 2)).run prog W=.ok (.slice (some ⟨W.heap.size,0,none⟩) 2 2) (W.alloc wsO):=by
 obtain⟨a,b,d,e,g⟩:=A1 Adw
 have h:=run_make (P:=prog) W 257 tWs a (.agg #[.int .i64 0,.map none,.map none]) underlying257 b d .i64 .i64 2 2 (by decide) (by omega) (by rw [g];omega) (by omega)
 simpa[e,F2,Afc] using h
theorem Zp.far{B:Nat}{W:World}{p:Pg}{rv:Value}{a:Ca}(h:Zp B W p rv a){n:Nat}{r:Array Value}{t0:Ab}(m:W.heap[n]?=some (.cells r t0 (0,0)))(o:t0∉ [Sw,tW,QD,AJ,tI,tH,tT,tA,Ra])(i:Nat)(u:Value):Zp B (W.setCell ⟨n,i,none⟩ u) p rv a:=by
 have l:∀(d:Nat) (g:Array Value) (e:Ab),e∈[Sw,tW,QD,AJ,tI,tH,tT,tA,Ra]→W.heap[d]?=some (.cells g e (0,0))→(W.setCell ⟨n,i,none⟩ u).heap[d]?=W.heap[d]?:=fun d g e j k=>Below.heap_setCell W ⟨n,i,none⟩ u d (AQ k m (fun b=>o (b▸j)))
 exact⟨(l _ _ _ (by simp) h.tb).trans h.tb,h.wk.frame fun d g e j k=>l d g e (by rcases j with b|b|b|b|b|b|b<;>simp [b]) k,(l _ _ _ (by simp) h.nx).trans h.nx,h.nB,h.po.keep fun d g e j k=>l d g e (by rcases j with b|b|b|b<;>simp [b]) k⟩
def wr0:Wr:=⟨0,false,false,none⟩
theorem Afe{B n M kb:Nat}{W:World}{p:Pg}{v0:Int}{a:Ca}{A:Option Addr}{k:Nat}(h:Zp n W p (Xo M) a)(r:B≤n)(g:Ah W M Xn #[.pointer (some ⟨a.T,0,none⟩),.slice A 1 k,.slice (some ⟨kb,0,none⟩) 2 2,.int .i64 0])(y:B≤M)(z:Ah W kb tWs #[.int .i64 0,.map none,.map none,.int .i64 0,.map none,.map none])(D:B≤kb)
 (t:W.ownsRow B TZ 3 (.slice A 1 k) 1 [.int .i64 v0,.int .i64 0,.int .i64 0]) (v:Fm p=true∧S8 p) (i:p.threads.length=2):
 Cx B M W {a with kb:=kb,cl:=.slice A 1 k,ve:=.slice none 0 0,nv:=[.nilFunc,.nilFunc],wl:=[(wr0,0,0),(wr0,0,0)]} (Cs.start p v0):=by
 obtain⟨j,l,m⟩:∃j l,p.threads=[j,l]:=by
  match L:p.threads,i with
  |[j,l],_=>exact⟨j,l,rfl⟩
 have w:∀ {d:Nat} {e:Wr} {o q:Nat},([(wr0,0,0),(wr0,0,0)]:List (Wr×Nat×Nat))[d]?=some (e,o,q)→e.on=true→False:=fun {d e o q} F b=>by
  have g:=Ap F
  simp at g
  rw [g.1] at b
  cases b
 refine⟨g,h.tb,h.wk.base r,h.nx,t,z,h.po.base r,fun d e o q u b=>(w u b).elim,fun d S c G t=>?_,fun X d e o q Y Z aa _ u _ b _=>(w u b).elim,?_,⟨y,A8 r h.nB,D⟩,⟨rfl,rfl,?_,?_⟩,BL.start v.1 v.2,A9 _⟩
 ·have x:=Ap G
  have i:=Ap t
  simp at x
  simp [Cs.start,m] at i
  rw [x,i]
  rfl
 ·simp [Cs.start,m,wr0]
 ·simp [Cs.start,m]
 ·simp [Cs.start,Wd.start,m]
theorem YT(ad ae:Value)(p:Pg)(v0:Int)(w:World)(e:Ln w ad ae p)(af:Gi w)(M:Fm p=true∧S8 p)(ag:PgY p)(D:p.threads.length=2)(F:p.cells=[v0]):
 Calls prog 70 #[.agg #[ad,ae]] w fun S ah=>∃(ai:Nat) (a:Ca),S=.returned (.tuple #[.pointer (some ⟨ai,0,none⟩),.nilIface])∧Cx w.heap.size ai ah a (Cs.start p v0)∧Below w.heap.size w ah:=by
 obtain⟨aw,ax,ay,az,a0⟩:=A1 Adx
 obtain⟨bm,m,rfl⟩:=e.1.shape
 obtain⟨n,o,rfl⟩:=e.2.shape
 rw [BY] at e⊢
 obtain⟨g,i,rfl,W,-,-⟩:=GH e.1 (j:=0) (u:=.int .i64 v0) (by rw [F];rfl)
 have aj:=Af (And.intro W (Ad w _ W))
 have v:=(((Ae w.heap.size w).alloc (Aa _) (.cells #[.slice (some ⟨g,i,none⟩) p.cells.length m,.slice n p.threads.length o] tP)).alloc (by simp) wsO).alloc (by simp;omega) (.cells #[.pointer none,.slice none 0 0,.slice (some ⟨w.heap.size+1,0,none⟩) 2 2,.int .i64 0] Xn)
 have q:=Af v
 have X:=Af (e.below v)
 have k:=Af (((Ah.new w tP #[.slice (some ⟨g,i,none⟩) p.cells.length m,.slice n p.threads.length o]).alloc wsO).alloc (.cells #[.pointer none,.slice none 0 0,.slice (some ⟨w.heap.size+1,0,none⟩) 2 2,.int .i64 0] Xn))
 have x:=Af ((Bo w (.cells #[.slice (some ⟨g,i,none⟩) p.cells.length m,.slice n p.threads.length o] tP) tWs #[.int .i64 0,.map none,.map none,.int .i64 0,.map none,.map none]).alloc (.cells #[.pointer none,.slice none 0 0,.slice (some ⟨w.heap.size+1,0,none⟩) 2 2,.int .i64 0] Xn))
 have l:=Af (Rg w (.cells #[.slice (some ⟨g,i,none⟩) p.cells.length m,.slice n p.threads.length o] tP) wsO Xn #[.pointer none,.slice none 0 0,.slice (some ⟨w.heap.size+1,0,none⟩) 2 2,.int .i64 0])
 have G:=Af (YS (.slice (some ⟨g,i,none⟩) p.cells.length m) (.slice n p.threads.length o) p 124 #[.pointer (some ⟨w.heap.size+1+1,0,none⟩)] _ (e.below v) (af.below v) M.1 ag D)
 have ak:p.cells.length=1:=by rw [F];rfl
 have al:=Af (And.intro M (And.intro D F))
 rw [D,ak] at q X k x l G⊢
 have a1:=Ady
 go_enter func70,ntmps70
 go_upto_region 2 with fail
 generalize ((w.alloc (.cells #[.slice (some ⟨g,i,none⟩) 1 m,.slice n 2 o] tP)).alloc wsO).alloc (.cells #[.pointer none,.slice none 0 0,.slice (some ⟨w.heap.size+1,0,none⟩) 2 2,.int .i64 0] Xn)=bn at q X k x l G⊢
 have am:=k.o.c2.1
 have an:=k.o.c2.2
 go_wp2_with fail
 refine G.o.mono ?_
 rintro bo Y ⟨a,rfl,ao,r⟩
 have ap:=Af (ao.far ((l.o.below r l.o.lt)) (by decide) 0 (.pointer (some ⟨a.T,0,none⟩)))
 have y:=l.o.below r l.o.lt
 have a2:=y.cell 0
 have a3:=y.frozen 0
 have a4:=y.lt
 have L:=Af (show Ah (Y.setCell ⟨w.heap.size+1+1,0,none⟩ (.pointer (some ⟨a.T,0,none⟩))) (w.heap.size+1+1) Xn #[.pointer (some ⟨a.T,0,none⟩),.slice none 0 0,.slice (some ⟨w.heap.size+1,0,none⟩) 2 2,.int .i64 0] from by simpa using y.put 0 (.pointer (some ⟨a.T,0,none⟩)))
 have Z:=Af ((x.o.below r x.o.lt).far (p:=⟨w.heap.size+1+1,0,none⟩) (show w.heap.size+1≠w.heap.size+1+1 by omega) (.pointer (some ⟨a.T,0,none⟩)))
 have aa:=Af ((k.o.below r k.o.lt).far (p:=⟨w.heap.size+1+1,0,none⟩) (show w.heap.size≠w.heap.size+1+1 by omega) (.pointer (some ⟨a.T,0,none⟩)))
 have z:=Af ((q.o.trans (r.mono q.o.size)).setCell (p:=⟨w.heap.size+1+1,0,none⟩) (show w.heap.size≤w.heap.size+1+1 by omega) (.pointer (some ⟨a.T,0,none⟩)))
 have a5:=Af q.o.size
 have a6:(Y.setCell ⟨w.heap.size+1+1,0,none⟩ (.pointer (some ⟨a.T,0,none⟩))).cell? ⟨g,i,none⟩=some (.int .i64 v0):=(z.o.cell aj.o.2).trans aj.o.1
 go_upto_region 6 with fail
 generalize Y.setCell ⟨w.heap.size+1+1,0,none⟩ (.pointer (some ⟨a.T,0,none⟩))=b at ap L Z aa z a6⊢
 have am:=aa.o.c2.1
 have an:=aa.o.c2.2
 have bp:b.cell? ⟨w.heap.size+1+1,1,none⟩=some (.slice none 0 0):=L.o.cell 1
 go_upto_region 7 with fail
 refine CO 2 ?_
 rw[Aq]
 have a7:=Af (Ep (b.alloc (.cells #[.int .i64 v0,.int .i64 0,.int .i64 0] TZ)) b.heap.size TZ 3)
 go_wp2_with (at_builtin;refine B9 _ rfl (.tmp 40) (.tmp 43) 259 rfl b.heap.size TZ aw (.agg #[.int .i64 0,.int .i64 0,.int .i64 0]) 3 24 underlying259 ax ay az a0 rfl (by decide) (.slice none 0 0) 0 [] rfl a7.o ⟨b.heap.size,0,none⟩ 1 1 [.int .i64 v0,.int .i64 0,.int .i64 0] rfl rfl (Ee (D4 b _)) (by simp[B4]) (by unfold Al;omega) (by omega) (by simp) ?_;intro bq aq ab ar _ a8;obtain⟨d,k6,rfl⟩:=Ag ab;have A:=((Ae b.heap.size b).alloc (Aa _) (.cells #[.int .i64 v0,.int .i64 0,.int .i64 0] TZ)).grown ar (by simp) (fun br a9=>by cases a9);have t:=Af (L.o.below A L.o.lt);have ba:=Af (Z.o.below A Z.o.lt);have bb:=Af (ap.o.call A);have bc:=Af (z.o.trans (A.mono z.o.size));have bd:=Af ab;have be:=Af (show w.heap.size≤b.heap.size from z.o.size);have bf:aq.cell? ⟨w.heap.size+1+1,1,none⟩=some (.slice none 0 0):=t.o.cell 1;have bg:=t.o.frozen 1;have bh:=t.o.lt;clear ab ar a8 A)
 have bi:=Af (show Ah (aq.setCell ⟨w.heap.size+1+1,1,none⟩ (.slice d 1 k6)) (w.heap.size+1+1) Xn #[.pointer (some ⟨a.T,0,none⟩),.slice d 1 k6,.slice (some ⟨w.heap.size+1,0,none⟩) 2 2,.int .i64 0] from by simpa using t.o.put 1 (.slice d 1 k6))
 have ac:=bd.o
 have au:(Ar d 1 k6).ownBlock≠some (w.heap.size+1+1):=fun S=>by
  obtain⟨bs,bj⟩:=Bm ac S
  exact AQ bj t.o (by decide) rfl
 have av:=Afe (B:=w.heap.size) (v0:=v0) (p:=p) (bb.o.far t.o (by decide) 1 (.slice d 1 k6)) a5.o bi.o (by omega) (ba.o.far (p:=⟨w.heap.size+1+1,1,none⟩) (show w.heap.size+1≠w.heap.size+1+1 by omega) (.slice d 1 k6)) (by omega) (Aw (Ak (by simpa using ac) (p:=⟨w.heap.size+1+1,1,none⟩) au (.slice d 1 k6)) be.o) al.o.1 al.o.2.1
 have bk:=Af av
 have bl:=Af (bc.o.setCell (p:=⟨w.heap.size+1+1,1,none⟩) (show w.heap.size≤w.heap.size+1+1 by omega) (.slice d 1 k6))
 clear av au ac bf bg bh
 rw[Aq]
 go_wp2
 go_ret2
 exact⟨_,_,rfl,bk.o,bl.o⟩
theorem YU(z A:Value)(p:Pg)(v0:Int)(w:World)(g:Ln w z A p)(B:Gi w)(D:Fm p=true∧S8 p)(F:PgY p)(q:p.threads.length=2)(G:p.cells=[v0]){N:Nat}{t:Cs}(L:Rs (Cs.start p v0) N)(M:(Cs.start p v0).rounds N=some t)(S:t.wd.p.cells.length=1):
 Calls prog 31 #[.agg #[z,A],.slice none 0 0,.bool true] w fun aa ab=>∃r,aa=.returned (.tuple #[r,.nilIface])∧HiN t.wd.es.length r∧Below w.heap.size w ab:=by
 obtain⟨i,j,rfl⟩:=g.1.shape
 obtain⟨k,l,rfl⟩:=g.2.shape
 rw [BY] at g⊢
 have n:=AG w (.cells #[.slice i p.cells.length j,.slice k p.threads.length l] tP) (.cells #[.slice none 0 0,.slice none 0 0] AI)
 have b:=Af n
 have d:=Af ((Ah.new w tP #[.slice i p.cells.length j,.slice k p.threads.length l]).alloc (.cells #[.slice none 0 0,.slice none 0 0] AI))
 have e:=Af (Bo w (.cells #[.slice i p.cells.length j,.slice k p.threads.length l] tP) AI #[.slice none 0 0,.slice none 0 0])
 have o:=Af (YT (.slice i p.cells.length j) (.slice k p.threads.length l) p v0 _ (g.below n) (B.below n) D F q G)
 have u:=Af (And.intro L (And.intro M S))
 rw [q] at b d e o⊢
 clear g B n D F q G L M S
 go_enter func31,ntmps31
 go_upto_region 1 with fail
 generalize (w.alloc (.cells #[.slice i p.cells.length j,.slice k 2 l] tP)).alloc (.cells #[.slice none 0 0,.slice none 0 0] AI)=ah at b d e o⊢
 obtain⟨v,x⟩:=d.o.c2
 go_wp2_with fail
 refine o.o.mono ?_
 rintro ac ai ⟨aj,ak,rfl,y,a⟩
 have ad:=Af y
 have W:=Af (d.o.below a d.o.lt)
 have X:=Af (e.o.below a e.o.lt)
 have Y:=Af (b.o.trans (a.mono b.o.size))
 have ae:=Af e.o.lt
 have Z:=Af (X0 y u.o.1 u.o.2.1 u.o.2.2)
 have af:=Af b.o.size
 clear y a b d e o v x
 obtain⟨v,x⟩:=W.o.c2
 go_wp2_with fail
 refine Z.o.mono ?_
 rintro ac al ⟨r,rfl,⟨am,an,ao,c,rfl⟩,a⟩
 have m:=Af (X.o.below a ae.o)
 have ag:=Af (Y.o.trans (a.mono af.o))
 obtain⟨ap,aq⟩:=m.o.c2
 have ar:=m.o.frozen 0
 have au:=m.o.frozen 1
 have av:=m.o.lt
 go_wp2_with fail
 refine Ao (Rq _ rfl _ _ (w.heap.size+1) _ _ _ rfl rfl (Bs m.o)) rfl ?_
 exact⟨_,rfl,⟨_,_,_,_,rfl⟩,(ag.o.setCell (p:=⟨w.heap.size+1,0,none⟩) (show w.heap.size≤w.heap.size+1 by omega) _).setCell (p:=⟨w.heap.size+1,1,none⟩) (show w.heap.size≤w.heap.size+1 by omega) _⟩
theorem RI:(Cs.start DX 0).rounds 11=some (((Cs.start DX 0).rounds 11).getD (Cs.start DX 0))∧(((Cs.start DX 0).rounds 11).getD (Cs.start DX 0)).wd.es.length=14∧(((Cs.start DX 0).rounds 11).getD (Cs.start DX 0)).wd.p.cells.length=1:=by
 refine⟨?_,by decide,by decide⟩
 have h:(((Cs.start DX 0).rounds 11).map fun s=>s.wd.es.length)=some 14:=by decide
 cases a:(Cs.start DX 0).rounds 11 with
 |none=>rw [a] at h;cases h
 |some b=>rfl
theorem YV:Rs (Cs.start DX 0) 11:=by
 have h:∀a,a<11→((Cs.start DX 0).rounds a).map Cs.fin=some false:=by decide
 refine⟨fun a g=> ?_, ?_⟩
 ·obtain⟨b,d,e⟩:=Eo.1 (h a g)
  exact⟨b,d,e⟩
 ·have h:((Cs.start DX 0).rounds 11).map Cs.fin=some true:=by decide
  obtain⟨b,d,e⟩:=Eo.1 h
  exact⟨b,d,e⟩
theorem Aa5(a b:Value)(w:World)(e:Ln w a b DX)(n:Gi w):
 Calls prog 13 #[.agg #[a,b],.slice none 0 0] w fun q r=>∃i,q=.returned (.tuple #[i,.nilIface])∧HiN 14 i∧Below w.heap.size w r:=by
 have g:=AG w (.cells #[a,b] tP) (.cells #[.slice none 0 0,.slice none 0 0] AI)
 have j:=YU a b DX 0 _ (e.below g) (n.below g) ⟨by decide,by unfold S8;decide⟩ (by unfold PgY;decide) rfl rfl YV RI.1 RI.2.2
 rw [RI.2.1] at j
 have o:=Af j
 have k:=Af g
 have l:=Af (Bo w (.cells #[a,b] tP) AI #[.slice none 0 0,.slice none 0 0])
 obtain⟨u,v,rfl⟩:=e.1.shape
 obtain⟨x,y,rfl⟩:=e.2.shape
 clear j e n g
 go_enter func13,ntmps13
 go_wp2_with fail
 refine o.o.mono ?_
 rintro z A ⟨i,rfl,⟨B,D,F,c,rfl⟩,m⟩
 have d:=Af (l.o.below m l.o.lt)
 have t:=Af (k.o.trans (m.mono k.o.size))
 obtain⟨G,L⟩:=d.o.c2
 have M:=d.o.frozen 0
 have S:=d.o.frozen 1
 have W:=d.o.lt
 go_wp2_with fail
 refine Ao (NK _ rfl _ _ (w.heap.size+1) _ _ _ rfl rfl (Bs d.o)) rfl ?_
 exact⟨_,rfl,⟨_,_,_,_,rfl⟩,(t.o.setCell (p:=⟨w.heap.size+1,0,none⟩) (show w.heap.size≤w.heap.size+1 by omega) _).setCell (p:=⟨w.heap.size+1,1,none⟩) (show w.heap.size≤w.heap.size+1 by omega) _⟩
end Go.Proofs.YtpoacbcnhpbdmaaGreatDoor
