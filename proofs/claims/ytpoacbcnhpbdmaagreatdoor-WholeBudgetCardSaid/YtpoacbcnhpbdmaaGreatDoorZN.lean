/-
  WholeBudget answers true for every argument, and leaves its arguments as they were; the package variables hold what their own text lays (tied).
-/
import Derived.Test.YtpoacbcnhpbdmaaGreatDoorZJ
import Derived.Test.YtpoacbcnhpbdmaaGreatDoorZK
import Derived.Test.YtpoacbcnhpbdmaaGreatDoorZL
import Derived.Test.YtpoacbcnhpbdmaaGreatDoorZM
import Derived.Lib.SlBytesConst
import Derived.OpenShut
import Derived.SliceStrings
import Derived.ChangeSame
import Derived.ChangeMaps5
import Derived.MakeChecks
import Derived.Deep.Slices
import Derived.Deep.Strs
import Derived.Lib.SmallJoins
set_option linter.all false
set_option maxRecDepth 100000
set_option maxHeartbeats 32000000
open Go.Addr renaming add→GW
open Bool renaming and_eq_true→EG
open ByteArray renaming size→HJ
open Go.DataW renaming TrodAll→K5,Whole→UA,agg→HX,lit→UC,trod→H9,trod_int→G2,trod_struct→Uy
open Go.Joins renaming open_agg2→V6
open Go.WideShapes renaming add_plain→V5
open Int renaming tmod_lt_of_pos→Ux
open Go.IntKind renaming u8→V4,wrap_i64→Ey
open Go.Lib renaming itoa→Ei,join→Ea,pow10Tab→G4,run_convert_bytes_const→Uw,strCells→Uu,strCells_length→Uv
open List renaming all_eq_true→HA,append_assoc→E1,cons_append→Ez,getElem?_eq_getElem→An,getElem?_eq_none→EP,mem_append→Eh,mem_cons→B2,mem_of_getElem?→Ap,nil_append→Es,range→EZ
open Go.MakeChecks renaming laidMetH_plain→HG
open Nat renaming le_refl→Aa,le_trans→A8,mul_one→J1,zero_add→Ej
open Go.Op renaming equal→EL,equalIn→HB,maxDepth→EM
open Go.OpenClaim renaming holds_of_cond→V8,pre_eq_preRow→Wa
open Go.OpenSpec renaming ofChange→Iy,preRow_of_cond→V7
open Option renaming map_eq_some_iff→Eo
open Go renaming TypeId→Ab,binOp→Ec,cell_one_new→En,heap_alloc_new→D4,info_parts→A1,maxLen→Al,rounds_succ→Aq,run_underlying→G7,wpList_append_own_at→B9,wp_loop_rounds→CO
open Go.Value renaming okWide→Uz,oneCell'→B4
open Go.World renaming block_lt_of_cell?→Ad,size_alloc→Eb,var?_cell→UB
open Go.Value renaming int→I,slice→C,pointer→Q,bool→T
open Go.IntKind renaming i64→J
open Go.Obj renaming cells→K
open Go.Obj renaming cells→H
open Go.Ending renaming returned→R
open Option renaming none→O,some→E
open Go renaming World→U,Value→N
namespace Go.Proofs.YtpoacbcnhpbdmaaGreatDoor
open Go.RowKit Go.Maps Go.Proofs.Tryz W
variable {w W X Y Z:World}{n k g c m i j b a:Nat}{v u z y:Value}{x t:Int}{p:TypeId}{q:List Value}{r:Array Value}{A:Option Addr}
attribute [local go_sem↓] Go.wp_at_zero Go.wp_at_succ
def jB(level:Int)(os:List Ob)(es:List Ev)(most:Nat)(y:Bool):Bool:=match AR es with
 |some txs=>decide (txs.length<=12)&&(match (BF os txs level).search most with
  |some a=>a.1==y
  |none=>false)
 |none=>false
theorem LV{level:Int}{os:List Ob}{es:List Ev}{most:Nat}{y:Bool}(h:Bn os es)(a:jB level os es most y=true):JOk level os es most y:=by
 unfold jB at a
 split at a
 .rename_i txs d;simp only[EG,decide_eq_true_eq] at a;obtain⟨e,b⟩:=a
  split at b
  .rename_i g i;obtain⟨j,s,k⟩:=g;have l:j=y:=by simpa using b
   subst l;exact⟨txs,s,k,h,d,e,i⟩
  .cases b
 .cases a
theorem Bn.sub{os:List Ob}{es l:List Ev}(h:Bn os es)(a:∀e∈l,e∈es)(b:l.length<=es.length):Bn os l:=⟨h.1,A8 b h.2.1,h.2.2.1,λe d=>h.2.2.2 e (a e d)⟩
theorem Bn.take{os:List Ob}{es:List Ev}(h:Bn os es)(n:Nat):Bn os (es.take n):=h.sub (λ_ a=>List.mem_of_mem_take a) (by simp;omega)
def LW(os:List Ob)(es:List Ev)(most n:Nat):Bool×List CE×Nat:=(PB os (es.take n) 3 most).getD (false,[],0)
def rB(os:List Ob)(es:List Ev)(most:Nat)(p:Nat->List St->Bool×List CE×Nat->Bool):Bool:=(EZ (es.length+1)).all λa=>match AR (es.take a) with
 |some txs=>decide (txs.length<=12)&&(match (BF os txs 3).search most with
  |some b=>p a txs b
  |none=>false)
 |none=>false
theorem NS{os:List Ob}{es:List Ev}{most:Nat}{p:Nat->List St->Bool×List CE×Nat->Bool}(h:Bn os es)(e:rB os es most p=true):
 ∀n,n<=es.length->∃txs,Bn os (es.take n)/\AR (es.take n)=E txs/\txs.length<=12/\(BF os txs 3).search most=E (LW os es most n)/\p n txs (LW os es most n)=true:=by
 intro n j;have a:=HA.1 e n (by simp;omega);unfold LW PB
 split at a
 .rename_i txs d;simp only[EG,decide_eq_true_eq] at a;obtain⟨g,b⟩:=a
  split at b
  .rename_i k i;refine⟨txs,h.take n,d,g,?_⟩;simp only[d,show ¬12<txs.length by omega,if_false,i];exact⟨rfl,b⟩
  .cases b
 .cases a
theorem MW{os:List Ob}{es:List Ev}{most:Nat}{p:Nat->List St->Bool×List CE×Nat->Bool}(h:Bn os es)(a:rB os es most p=true):LF os es most (LW os es most):=λb d=>by
 obtain⟨txs,e,g,i,j,-⟩:=NS h a b d;exact⟨txs,e,g,i,j⟩
def stB(os:List Ob)(txs:List St)(st:List CE):Bool:=decide (st.length<=1000)&&txs.all (λa=>decide (0<=a.id)&&decide (a.id<=1000))&&NJ os txs st
theorem YJ{os:List Ob}{es:List Ev}{most:Nat}(h:Bn os es)(e:rB os es most (λ_ txs d=>d.1&&stB os txs d.2.1)=true):AbE os es (λb=>(LW os es most b).2.1):=λb g=>by
 let⟨txs,i,j,k,l,a⟩:=NS h e b g;simp only[stB,EG,decide_eq_true_eq,HA] at a;exact⟨txs,i,j,k,a.2.1.1,a.2.1.2,a.2.2⟩
theorem Adj{os:List Ob}{es:List Ev}{most:Nat}(h:Bn os es)(d:rB os es most (λ_ txs a=>a.1&&stB os txs a.2.1)=true):∀n,n<=es.length->(LW os es most n).1=true:=λn e=>by
 let⟨txs,g,i,j,k,b⟩:=NS h d n e;simp only[EG] at b;exact b.1
def VI:List Ev:=[⟨1,1,0,0,0,0,0,0⟩,⟨1,2,1,0,0,0,0,0⟩,⟨2,1,0,0,1,0,0,0⟩,⟨3,1,0,0,0,0,0,3⟩,⟨2,2,0,0,1,0,0,0⟩,⟨3,2,0,0,0,0,0,3⟩,⟨2,1,0,0,2,0,1,0⟩,⟨3,1,0,0,0,0,0,1⟩,⟨2,2,0,0,2,0,2,0⟩,⟨3,2,0,0,0,0,0,1⟩,⟨4,1,0,0,0,0,0,0⟩,⟨5,1,0,0,0,0,0,0⟩,⟨4,2,0,0,0,0,0,0⟩]
def P9:List Ev:=VI++[⟨5,2,0,0,0,0,0,0⟩]
instance:DecidableEq Ev:=λa b=>decidable_of_iff (a.kind=b.kind/\a.tx=b.tx/\a.thr=b.thr/\a.obj=b.obj/\a.op=b.op/\a.key=b.key/\a.val=b.val/\a.ret=b.ret) (by cases a;cases b;simp)
theorem Adk:ex5=VI:=by rfl
theorem C0:(∀d∈([⟨1,0⟩]:List Ob),d.kind<=9223372036854775807)/\(∀b∈P9,AU b.kind/\b.ret<=9223372036854775807)/\Bn [⟨1,0⟩] P9:=by
 refine⟨by decide,?_,by decide,by decide,by decide,?_⟩
 .intro b a;simp only[P9,VI,Ez,Es,B2,List.not_mem_nil,or_false] at a;rcases a with rfl|rfl|rfl|rfl|rfl|rfl|rfl|rfl|rfl|rfl|rfl|rfl|rfl|rfl<;>exact⟨⟨by decide,by decide⟩,by decide⟩
 .intro b a;simp only[P9,VI,Ez,Es,B2,List.not_mem_nil,or_false] at a;rcases a with rfl|rfl|rfl|rfl|rfl|rfl|rfl|rfl|rfl|rfl|rfl|rfl|rfl|rfl<;>refine⟨⟨by unfold Ev.Coded;decide,by unfold Ev.In;decide,rfl⟩,?_⟩<;>first|exact λh=>absurd h (by decide)|exact λ_=>⟨⟨1,0⟩,by decide,by rfl,by decide⟩
theorem SO:∀e∈VI,e∈P9:=λe a=>List.mem_append_left _ a
theorem Jo:(∀a∈VI,AU a.kind/\a.ret<=9223372036854775807)/\Bn [⟨1,0⟩] VI:=⟨λa b=>C0.2.1 a (SO a b),C0.2.2.sub SO (by decide)⟩
theorem LX:rB [⟨1,0⟩] VI 100 (λ_ txs a=>a.1&&stB [⟨1,0⟩] txs a.2.1)=true:=by decide+kernel
def exT:List St:=(AR P9).getD []
theorem YK:AR P9=exT:=by decide+kernel
theorem Adm:jB 1 [⟨1,0⟩] P9 100 false=true:=by decide+kernel
theorem Vo:((Jb P9 exT).all λc=>decide (c.length<=P9.length)&&c.all (λa=>decide (a∈P9))&&jB 1 [⟨1,0⟩] c 100 true)=true:=by decide+kernel
theorem AbO:JOk 1 [⟨1,0⟩] P9 100 false:=LV C0.2.2 Adm
theorem Ae5:∀c∈Jb P9 exT,JOk 1 [⟨1,0⟩] c 100 true:=λc a=>by
 have h:=HA.1 Vo c a;simp only[EG,decide_eq_true_eq,HA] at h;exact LV (C0.2.2.sub h.1.2 h.1.1) h.2
theorem YL:exT.Pairwise λa b=>a.id≠b.id:=by decide+kernel
theorem Aa1:exT.length<=12:=by decide+kernel
def VJ(i:Nat):St:=exT.getD i ⟨0,0,0,0,0,0,[],0⟩
theorem Aa2:exT=[VJ 0,VJ 1]:=by decide+kernel
theorem Ae6:RW (VJ 0) 0 1 2 3 6 7:=by unfold RW;decide+kernel
theorem Ae7:RW (VJ 1) 0 2 4 5 8 9:=by unfold RW;decide+kernel
theorem Ae8:Prm [⟨1,0⟩] P9 [VJ 0,VJ 1] 0:=by
 refine⟨rfl,C0.2.2,by rw[<-Aa2];exact YK,by decide,?_,?_,by decide+kernel⟩
 .intro s a;simp only[B2,List.not_mem_nil,or_false] at a;rcases a with rfl|rfl
  .exact⟨_,_,_,_,_,_,Ae6⟩
  .exact⟨_,_,_,_,_,_,Ae7⟩
 .intro s a;simp only[B2,List.not_mem_nil,or_false] at a;rcases a with rfl|rfl
  .exact⟨by decide+kernel,by decide+kernel⟩
  .exact⟨by decide+kernel,by decide+kernel⟩
theorem Ae9:Ac9 [VJ 0,VJ 1] 0:=by
 intro s a;simp only[B2,List.not_mem_nil,or_false] at a;rcases a with rfl|rfl
 .exact⟨by decide+kernel,by decide+kernel⟩
 .exact⟨by decide+kernel,by decide+kernel⟩
theorem Agv:TwT (VJ 0) (VJ 1) 0:=by constructor<;>decide+kernel
theorem Agw:(VJ 0).id<(VJ 1).id:=by decide+kernel
def Qa(l:Nat):Bool:=l==1||l==2
theorem Adn:jB 1 [⟨1,0⟩,⟨1,0⟩] CY 100 true=true:=by decide+kernel
theorem Ado:jB 2 [⟨1,0⟩,⟨1,0⟩] CY 100 true=true:=by decide+kernel
theorem Adp:jB 3 [⟨1,0⟩,⟨1,0⟩] CY 100 false=true:=by decide+kernel
theorem Adq:rB [⟨1,0⟩,⟨1,0⟩] CY 100 (λ_ _ _=>true)=true:=by decide+kernel
theorem Aa3:(LW [⟨1,0⟩,⟨1,0⟩] CY 100 CY.length).1=false:=by decide+kernel
theorem Vp{W:U}{vo vl:N}(g:AE W)(i:Cc Di 2 CL W vo [⟨1,0⟩,⟨1,0⟩])(j:Cc AJ 8 BO W vl CY):K6 W (.agg #[vo,vl]) 100 Qa:=by
 intro k n o V a;rcases (show k=1∨k=2∨k=3∨k=4 by omega) with rfl|rfl|rfl|rfl
 .refine(Kv (i.1.below a) (j.1.below a) Cb.1 Cb.2.1 (g.below a) (by omega) (by omega) (LV Cb.2.2 Adn)).mono ?_;rintro l m ⟨⟨d,e,c,b,rfl⟩,a⟩;exact⟨⟨d,e,c,O,0,0,0,b,rfl⟩,a⟩
 .refine(Kv (i.1.below a) (j.1.below a) Cb.1 Cb.2.1 (g.below a) (by omega) (by omega) (LV Cb.2.2 Ado)).mono ?_;rintro l m ⟨⟨d,e,c,b,rfl⟩,a⟩;exact⟨⟨d,e,c,O,0,0,0,b,rfl⟩,a⟩
 .refine(Kv (i.1.below a) (j.1.below a) Cb.1 Cb.2.1 (g.below a) (by omega) (by omega) (LV Cb.2.2 Adp)).mono ?_;rintro l m ⟨⟨d,e,c,b,rfl⟩,a⟩;exact⟨⟨d,e,c,O,0,0,0,b,rfl⟩,a⟩
 .refine(SA (i.below a) (j.below a) Cb.1 Cb.2.1 (g.below a) (by omega) (MW Cb.2.2 Adq)).mono ?_;rintro l m ⟨a,(⟨h,-⟩|⟨p,b,-,-,rfl⟩)⟩
  .have:=h CY.length<|Aa _;rw[Aa3] at this
   cases this
  .exact⟨⟨O,0,0,O,0,0,_,_,rfl⟩,a⟩
theorem Hj{W:U}{B size:Nat}{t:Ab}{v:N}{xs:List N}(h:W.ownsRow B t size v n xs)(g:n≠0):∃a c,v=C (E ⟨a,0,O⟩) n c/\B<=a/\a<W.heap.size/\∀b d,xs[b]?=E d->W.cell? ⟨a,b,O⟩=E d:=by
 obtain⟨i,c,rfl,j,k⟩:=Kl h
 cases i with
 |none=>exact absurd (j rfl).1 g
 |some l=>
  obtain⟨a,rfl,m,o⟩:=k l rfl;refine⟨a,c,rfl,(Ai h rfl).1,m,λb d p=>?_⟩;have e:=o b d p
  cases b with
  |zero=>simpa[GW] using e
  |succ b=>simpa[GW] using e
theorem SP{W:U}{B:Nat}{t:Ab}{xs:List N}(h:W.ownsRow B t 1 (C g n c) n xs)(d:n≠0):∀(j:Nat) (u:N),xs[j]?=u->W.cell? ((g:Addr).add j)=u:=by
 obtain⟨l,m,e,-,-,i⟩:=Hj h d;injection e with a _ _;injection a with a;injection a with a _ _;subst a;intro j u k;have b:=i j u k
 cases j with
 |zero=>simpa[GW] using b
 |succ j=>simpa[GW] using b
theorem Aa4{w:U}{v:N}(S:BU w v (bys P4))(ak:AE w):Calls prog 14 #[v] w λB al=>∃e,B=R (.tuple #[e,.nilIface])/\al.ownsRow w 9 1 e 2 [.string ⟨#[49,52]⟩,BH (Ea (Hr Qa 4) [32])]/\Below w w al:=by
 obtain⟨cc,cd,rfl⟩:=S.shape;let⟨am,an,ao,ap,aq⟩:=A1 SI;rw[G6];have W:=Af<|RD S;rw[G6] at W;have ar:=Af ak;go_in;go_wp2_with fail;refine W.o.mono ?_;rintro B bj ⟨e,m,k1,n,k2,rfl,au,t⟩;obtain⟨d,c,rfl,ce,bk,av⟩:=Hj au (by decide);have aw:=Af av;have G:=Af t;go_wp2_with fail;refine(AaQ bj).mono ?_;rintro B o ⟨ax,ay,rfl,az,cf,bl,t⟩;have a0:=Af<|G.o.trans (t.mono G.o.size);have D:=Af (λ(j:Nat) (e:N) (X:[BH Qo,C m 0 k1,true,BH Qp,C n 0 k2,true][j]?=e)=>((t.cell (p:=⟨d,j,O⟩) bk).trans (aw.o j e X)));have a1:=Af az;have bm:w.heap.size<=ay:=A8 G.o.size bl;have bn:d≠ay:=by omega
 have cg:=t.size;have bo:o.cell? d=E (.string ⟨Qo.toArray⟩):=D.o 0 _ rfl;have bp:o.cell? ⟨d,1,O⟩=E (C m 0 k1):=D.o 1 _ rfl;have bq:o.cell? ⟨d,2,O⟩=true:=D.o 2 _ rfl;go_wp2_with fail;refine CO 3 ?_;rw[Aq];have g:=Af<|a0.o.alloc a0.o.size (K #[.string ⟨Qo.toArray⟩,C m 0 k1,true] Ku);have q:=Zc o<|K #[.string ⟨Qo.toArray⟩,C m 0 k1,true] Ku;have k:=Af q;have i:=Af<|Ah.new o Ku #[.string ⟨Qo.toArray⟩,C m 0 k1,true];have u:=Af<|P3 (w:=o.alloc (K #[.string ⟨Qo.toArray⟩,C m 0 k1,true] Ku)) (D:=ax) (l:=Qo) (s0:=[115,97,109,112,108,101]) (s1:=[116,111,114,110]) (s2:=[97]) (tv:=C m 0 k1) (b:=true) (by decide) Rt SF (λV x=>Yh ((a1.o.call q).call x) ar (g.o.trans (x.mono g.o.size)) bm (by decide));go_upto_region 11 with fail;generalize br:o.alloc (K #[.string ⟨Qo.toArray⟩,C m 0 k1,true] Ku)=V at g k i u|-;have Y:=i.o.cell 0;have Z:=i.o.cell 1;have aa:=i.o.cell 2;go_wp2_with fail;refine u.o.mono ?_;rintro B r ⟨ch,ci,rfl,y,ab,⟨bs,bt,a2,a3⟩,ac⟩;have ad:=g.o.trans<|y.mono g.o.size;have a4:Below w w r:=BI ad ac ad.size (λa5 F=>by simp at F;omega)
 have a6:∀(j:Nat) (e:N),[BH Qo,C m 0 k1,true,BH Qp,C n 0 k2,true][j]?=E e->r.cell? ⟨d,j,O⟩=E e:=λj e X=>
  ac.cell (p:=⟨d,j,O⟩) (((k.o.trans (y.mono k.o.size)).cell (p:=⟨d,j,O⟩) (by show d<o.heap.size;omega)).trans (D.o j e X)) (by simpa using bn)
 obtain⟨bu,bv,rfl,cj,ck,-⟩:=Hj ab (by decide);have a7:=Af<|SP ab (by decide);have a8:=Af a2;have a9:=Af a3;have L:=Af a4;have z:=Af a6;go_wp2_with (at_builtin;refine B9 _ rfl (.tmp 44) (.tmp 45) 63 rfl w 9 am (.string ⟨#[]⟩) 1 16 underlying63 an ao ap aq rfl (by decide) (.slice O 0 0) 0 [] rfl (World.ownsRow_nil _ _ _ _) bu 1 bv [.string ⟨#[49,52]⟩] rfl rfl a7 (by simp[B4]) (by unfold Al;omega) (by omega) (by have:=L.o.size;omega) ?_;intro cl a ae ba _ bw;obtain⟨bb,bc,rfl⟩:=Ag ae;have af:=Af (And.intro ae ba);clear ae ba bw);have A:Below r r a:=(Zb r).grown af.o.2 (Aa _) (λa5 F=>by simp[Value.ownBlock] at F);have M:=Af<|L.o.trans (A.mono L.o.size);have bz:=Af (show a.ownsRow w 9 1 (C bb 1 bc) 1 [.string ⟨#[49,52]⟩] from af.o.1);have b0:=Af<|a8.o.call A;have bd:=Af<|Ye (a9.o.call A);have be:a.cell? ⟨d,3,O⟩=E (.string ⟨Qp.toArray⟩):=(A.cell (Ad r _ (z.o 3 _ rfl))).trans<|z.o 3 _ rfl;have b1:a.cell? ⟨d,4,O⟩=E (C n 0 k2):=(A.cell (Ad r _ (z.o 4 _ rfl))).trans<|z.o 4 _ rfl;have b2:a.cell? ⟨d,5,O⟩=true:=(A.cell (Ad r _ (z.o 5 _ rfl))).trans<|z.o 5 _ rfl;have cn:d<a.heap.size:=Ad a _ be;go_wp2;rw[Aq];have g:=Af<|M.o.alloc M.o.size (K #[.string ⟨Qp.toArray⟩,C n 0 k2,true] Ku);have q:=Zc a<|K #[.string ⟨Qp.toArray⟩,C n 0 k2,true] Ku;have k:=Af q;have i:=Af<|Ah.new a Ku #[.string ⟨Qp.toArray⟩,C n 0 k2,true];have u:=Af<|P3 (w:=a.alloc (K #[.string ⟨Qp.toArray⟩,C n 0 k2,true] Ku)) (D:=ax) (l:=Qp) (s0:=[108,101,118,101,108,115]) (s1:=[97]) (s2:=[49,48,48]) (tv:=C n 0 k2) (b:=true) (by decide) Rw SG (λV x=>Yj (ans:=Qa) ((b0.o.call q).call x) (by simp[Fo]) ((bd.o.1.below q).below x) ((bd.o.2.below q).below x) (by decide) (by decide) (λco bs bt b3 b4 b5=>Vp b3 b4 b5) (ar.o.below (g.o.trans (x.mono g.o.size))));go_upto_region 11 with fail;generalize a.alloc (K #[.string ⟨Qp.toArray⟩,C n 0 k2,true] Ku)=cp at g k i u|-;have Y:=i.o.cell 0;have Z:=i.o.cell 1;have aa:=i.o.cell 2;go_wp2_with fail;refine u.o.mono ?_;rintro B b6 ⟨cq,cr,rfl,y,ag,bf⟩;have ah:Below a a b6:=(k.o.trans (y.mono k.o.size)).trans<|bf.mono (A8 k.o.size y.size);obtain⟨b7,b8,rfl,cs,ct,-⟩:=Hj ag (by decide);have b9:=Af<|SP ag (by decide);have bg:=Af<|AA bz ah;have ai:=Af<|M.o.trans (ah.mono M.o.size);go_wp2_with (at_builtin;refine B9 _ rfl (.tmp 44) (.tmp 45) 63 rfl w 9 am (.string ⟨#[]⟩) 1 16 underlying63 an ao ap aq rfl (by decide) (.slice bb 1 bc) 1 [.string ⟨#[49,52]⟩] rfl bg b7 1 b8 [BH (Ea (Hr Qa 4) [32])] rfl rfl b9 (by simp[B4,BH]) (by unfold Al;omega) (by omega) (by have:=ai.o.size;omega) ?_;intro cu cv aj bh _ ca;obtain⟨cw,cx,rfl⟩:=Ag aj;have bi:=Af (And.intro aj bh);clear aj bh ca);have cb:=Af<|ai.o.grown bi.o.2 ai.o.size (λa5 F=>(Ai bg F).1);go_wp2;rw[Aq];go_wp2;go_ret2;exact⟨_,rfl,bi.o.1,cb⟩
theorem Adr:Ei 0=[48]:=by
 unfold Ei;rw[if_neg (by decide),Lib.decDigits,dif_pos (by decide)];rfl
def JT:List UInt8:=[111,98,106,101,99,116,32,114,101,103,105,115,116,101,114,32,48]
theorem Qb:Ea [[111,98,106,101,99,116],[114,101,103,105,115,116,101,114],[48]] [32]=JT:=by decide
theorem YN(w:U)(k:AE w):Calls prog 29 #[.agg #[I J 1,()]] w λa ae=>a=R (.tuple #[BH JT,.nilIface])/\Below w w ae:=by
 let⟨af,z,A,D,F⟩:=A1 RM;have l:=Zc w<|K #[I J 1,()] 71;have G:=Af<|Np 1 0 (by decide) _ (k.below l);have L:=Af l;have M:=Af k;have S:=Af<|Ah.new w 71 #[I J 1,()];go_in;go_wp2_with fail;refine G.o.mono ?_;rintro a ag ⟨ah,rfl,W,m⟩
 obtain rfl:ah=.nilIface:=by
  rcases W with ⟨_,h⟩|⟨ai,_⟩
  .exact h
  .exact absurd (by decide) ai
 have b:=Af<|L.o.trans (m.mono (by simp));have d:=Af<|S.o.below m (by simp);have o:=d.o.cell 0;have aj:=d.o.lt;have e:=FD 1 1 (by decide) ag<|M.o.below b;rw[w11] at e;unfold BH at e;have X:=Af e;go_wp2_with fail;refine X.o.mono ?_;rintro a ak ⟨rfl,p⟩;have g:=Af<|b.o.trans (p.mono b.o.size);have q:=Af<|d.o.below p aj;have au:=q.o.lt;have o:=q.o.cell 0;have al:=q.o.cell 1;have i:=Af<|g.o.alloc g.o.size (K #[BH [111,98,106,101,99,116],BH [114,101,103,105,115,116,101,114]] 9);have r:=GO 0 (by decide) (by decide) _ (M.o.below i).tab;rw[Adr] at r;have u:=Af r;have Y:=Af<|BX (w:=ak) (cs:= #[BH [111,98,106,101,99,116],BH [114,101,103,105,115,116,101,114]]) (t:=9) (B:=w.heap.size) (size:=1) (n:=2) rfl g.o.size (by unfold Al;omega);unfold BH at u;go_wp2_with fail;refine u.o.mono ?_;rintro a am ⟨rfl,v⟩;have j:=Af<|i.o.trans (v.mono i.o.size);have Z:=Af<|AA Y v;go_wp2_with (at_builtin;refine wpList_append_own _ rfl (.tmp 23) (.tmp 27) 63 rfl w 9 af (.string .empty) 1 16 underlying63 z A D F rfl (by decide) _ 2 _ rfl (Z.o.alloc _) am 1 1 [BH [48]] rfl rfl (En _ _ _) (by simp[BH,B4]) (by unfold Al;omega) (by omega) (by have:=j.o.size;simp;omega) ?_;intro av an x aa _);have ab:=Af<|(j.o.alloc j.o.size (K #[BH [48]] 9)).grown aa (by have:=j.o.size;simp;omega) (λaw ao=>(Ai (Z.o.alloc (K #[BH [48]] 9)) ao).1);obtain⟨ap,aq,rfl⟩:=Ag x;have y:=Ju (C ap 3 aq) [[111,98,106,101,99,116],[114,101,103,105,115,116,101,114],[48]] an (BC x) (by simp) (by rw[Qb];simp[JT]);rw[Qb] at y;have ac:=Af y;go_wp2_with fail;refine ac.o.mono ?_;rintro a ax ⟨rfl,ad⟩;have ar:=Af<|ab.o.trans (ad.mono ab.o.size);go_wp2;go_ret2;exact⟨rfl,ar⟩
theorem Qc(e:Ev)(h:e.Ok):(Ea (Ci e e.fl.length) [32]).length<=200:=by
 have a:=FM (sep:=[32]) (m:=21) (Ci e e.fl.length) (λb d=>LZ e h.2.1 _ b d);rw[Hk e _ (Aa _)] at a;have g:=(Le e.kind e.op e.ret).2;have i:e.fl.length<=5:=g;have j:(21+ [(32:UInt8)].length)*(e.fl.length+1)<=22*6:=Nat.mul_le_mul (Aa 22) (by omega);omega
theorem KO{P:Program}{w:U}{k:Array Oper}{l:List Oper}{o:Oper}{a:Act}{m:Exit->Act->U->Prop}(A:o.guard=O)(p x:Operand)(t u:Ab)
 (B:o.op=.call {callee:=.builtin .append,args:= #[p,x],argTypes:= #[t,u]})
 (base:Nat) (e:Ab) (i:TypeInfo) (D:P.underlying t=E (.slice e)) (F:P.underlying u=E .string) (G:P.info? e=i) (L:i.zero=E (.int .u8 0))
 (M:i.size=1) (S:i.bytes=1) (b:Addr) (n d:Nat) (g:List N) (W:a.eval p=C b n d) (q:g.length=n) (X:∀j v,g[j]?=E v->w.cell? (b.add j)=E v) (s:ByteArray) (Y:a.eval x=.string s)
 (Z:d<n+s.size) (r:n+s.size<=Al) (ah:n+s.size<=140737488355328) (aa:base<=w.heap.size)
 (h:∀y w',w'.ownsRow base e 1 y (n+s.size) (g++Uu s)->w.grownBy w' O->wpList P k m l (a.put o.dst y) w'):wpList P k m (o::l) a w:=by
 refine wpList_plain A λK ab=>?_;have ac:=Lib.run_append_grow_string (P:=P) (w:=w) t u o.type e i (.int .u8 0) D F G L b n d g (by rw[M];omega) X s Z (by simp only[Al] at r;omega) (by rw[S];exact growslice_fits (by omega) (by omega));have ad:=grownCap_ge w (n+s.size) d e;have ae:grownCap w (n+s.size) d e<=Al:=grownCap_le_maxLen w (n+s.size) d e r;have z:(g++Uu s).length=(n+s.size)*1:=by rw[List.length_append,q,Uv,J1]
 unfold Oper.wp execOp;simp only[B,resolve,invoke,builtin,Sem.run_bind,Sem.run_pure,Result.andThen_ok,List.map_toArray,List.map_cons,List.map_nil,W,Y,ac];refine ab _ _<|h _ _ ⟨z,.inr ⟨w.heap.size,_,_,rfl,aa,D4 w.drew _,ad,ae,?_,?_⟩⟩ ⟨rfl,rfl,rfl,by simp,λai af _=>heap_alloc_old w.drew _ _ af⟩
 .have ag:(Value.int V4 0).cells.size=1:=rfl;simp only[Array.size_append,List.size_toArray,size_zeroCells,ag,q,Uv];omega
 .simp only[Array.toList_append,E1];rw[<-E1,<-z];exact List.take_left
theorem YO{w:U}{vo vl:N}{es:List Ev}(W:Ba 2 CL w vo [⟨1,0⟩])(X:Ba 8 BO w vl es)(am:∀a∈es,AU a.kind/\a.ret<=9223372036854775807)(an:AE w)(a8:Bn [⟨1,0⟩] es):
 Calls prog 12 #[.agg #[vo,vl]] w λY br=>∃A g c,Y=R (.tuple #[C A g c,.nilIface])/\0<g/\Below w w br:=by
 obtain⟨co,ao,rfl⟩:=W.shape;obtain⟨ap,aq,rfl⟩:=X.shape;obtain⟨n,o,rfl,-,-,ar⟩:=W.at (j:=0) rfl;have a9:w.cell? ⟨n,o,O⟩=E (I J 1):=by simpa using ar 0 _ rfl (by decide)
 have ba:w.cell? ⟨n,o+1,O⟩=E ():=by simpa using ar 1 _ rfl (by decide)
 have B:=Zc w<|K #[C (E ⟨n,o,O⟩) 1 ao,C ap es.length aq] AI;have au:=Af B;have Z:=Af<|Ah.new w AI #[C (E ⟨n,o,O⟩) 1 ao,C ap es.length aq];have bb:=Af<|FK (W.below B) (X.below B) (λcp h=>by simp at h;subst h;decide) am (an.below B);have av:=Af a8;have bs:=Af am;have bc:=Af an;have aa:=Af<|And.intro a9 ba;have bt:=Af X;have bu:=λ(w:U) (bv:Array N) (g c:Nat)=>Uw (P:=prog) w 52 5 bv g c underlying52 underlying5;go_in;go_upto_region 1 with fail;generalize w.alloc (K #[C (E ⟨n,o,O⟩) 1 ao,C ap es.length aq] AI)=cq at au Z bb|-;let⟨q,r⟩:=Z.o.c2;go_wp2_with fail;refine bb.o.mono ?_;rintro Y t ⟨k,rfl,bd,u⟩
 obtain rfl:k=.nilIface:=by
  rcases bd with ⟨_,h⟩|⟨h,_⟩
  .exact h
  .exact absurd av h
 have v:=Af<|au.o.trans (u.mono au.o.size);have be:=Af<|Z.o.below u Z.o.lt;let⟨q,r⟩:=be.o.c2;go_upto_region 5 with fail;have j:=Af<|v.o.alloc v.o.size (K #[.int .u8 117,.int .u8 109,.int .u8 112,.int .u8 105,.int .u8 114,.int .u8 101,.int .u8 10] 5 (7,8));have ab:=Af<|be.o.alloc (K #[.int .u8 117,.int .u8 109,.int .u8 112,.int .u8 105,.int .u8 114,.int .u8 101,.int .u8 10] 5 (7,8));have aw:=Af (show∀p k,([.int .u8 117,.int .u8 109,.int .u8 112,.int .u8 105,.int .u8 114,.int .u8 101,.int .u8 10]:List N)[p]?=E k->(t.alloc (K #[.int .u8 117,.int .u8 109,.int .u8 112,.int .u8 105,.int .u8 114,.int .u8 101,.int .u8 10] 5 (7,8))).cell? ⟨t.heap.size,p,O⟩=E k from λp k h=>(cell_of_row _ _ p _ _ (7,8) (D4 t _)).trans (by simpa using h));have bw:=Af (show t.heap.size<(t.alloc (K #[.int .u8 117,.int .u8 109,.int .u8 112,.int .u8 105,.int .u8 114,.int .u8 101,.int .u8 10] 5 (7,8))).heap.size by simp);generalize t.alloc (K #[.int .u8 117,.int .u8 109,.int .u8 112,.int .u8 105,.int .u8 114,.int .u8 101,.int .u8 10] 5 (7,8))=e at j ab aw bw|-;let⟨q,r⟩:=ab.o.c2;go_upto_region 6 with fail;refine CO 3 ?_;rw[Aq];have bz:e.cell? ⟨n,o,O⟩=E (I J 1):=(j.o.cell (Ad w _ aa.o.1)).trans aa.o.1;have b0:e.cell? ⟨n,o+1,O⟩=E ():=(j.o.cell (Ad w _ aa.o.2)).trans aa.o.2;go_wp2_with fail;have ac:=Af<|Zc e (K #[I J 1,()] 71);generalize e.alloc (K #[I J 1,()] 71)=b1 at ac|-;refine(YN b1 (bc.o.below (j.o.trans (ac.o.mono j.o.size)))).mono ?_;rintro Y cr ⟨rfl,bf⟩;have ad:=Af<|ac.o.trans (bf.mono ac.o.size);unfold BH;let⟨ae,af,ag,ah,ai⟩:=A1 AdP
 go_wp2_with (first
  |(at_builtin;refine KO rfl (.tmp 36) (.tmp 37) 52 9 rfl e 5 ae underlying52 underlying9 af ag ah ai t 7 7 [.int .u8 117,.int .u8 109,.int .u8 112,.int .u8 105,.int .u8 114,.int .u8 101,.int .u8 10] rfl rfl (λp k h=>by rw[Addr.add_lit,Ej];exact(ad.o.cell (Ad e _ (aw.o p k h))).trans (aw.o p k h)) ⟨JT.toArray⟩ rfl (by decide) (by decide) (by decide) ad.o.size ?_;intro ax D F G;have x:=Af (show D.ownsRow e 5 1 ax 24 _ from F);have L:=Af (ad.o.grown G ad.o.size (λay b=>by cases b));clear F G)
  |(at_builtin;refine wpList_append_own _ rfl (.tmp 38) (.tmp 39) 52 rfl e 5 ae (.int .u8 0) 1 1 underlying52 af ag ah ai rfl (by decide) _ 24 _ rfl (x.o.alloc _) D 1 1 [.int .u8 10] rfl rfl (En _ _ _) (by simp[B4]) (by decide) (by decide) (by have:=L.o.size;simp;omega) ?_;intro bg bh y M _))
 have bi:=Af<|(L.o.alloc L.o.size (K #[.int .u8 10] 5)).grown M (by have:=L.o.size;simp;omega) (λay b=>(Ai x b).1);have bj:=Af (show bh.ownsRow e 5 1 bg 25 _ from y);obtain⟨b2,k2,rfl⟩:=Ag bj;rw[Aq];let⟨q,r⟩:=(ab.o.below bi ab.o.lt).c2;go_upto_region 14 with fail
 go_loopw [45,5] (λaz b3 bk=>∃(d g:Nat) (A:Option Addr) (c:Nat) (bl:List N),az=(d:Int)/\b3=C A g c/\d<=es.length/\bk.ownsRow e 5 1 (C A g c) g bl/\0<g/\g<=25+201*d/\Below e e bk) (λaz _ _=>401-(intOf az).toNat)
 case atStart=>exact⟨0,25,b2,k2,_,rfl,rfl,Nat.zero_le _,bj,by decide,by decide,bi⟩
 case round=>
  obtain⟨d,g,A,c,bl,rfl,rfl,bm,aj,a0,a1,z⟩:=hrel;have cs:=Af aj;have b4:=Af z;have a2:=Af<|And.intro a0 a1;have a3:=Af (show es.length<=400 from av.o.2.1);by_cases S:d<es.length
  .obtain⟨a,ak⟩:∃a,es[d]?=E a:=⟨es[d],An S⟩;obtain⟨l,m,rfl,_,_,b⟩:=bt.o.at ak;have i:=j.o.trans<|z.mono j.o.size;have b5:wr.cell? ⟨l,m+d*8,O⟩=a.kind:=(i.cell (Ad w _ (b 0 a.kind rfl (by decide)))).trans<|b 0 a.kind rfl (by decide);have b6:wr.cell? ⟨l,m+d*8+1,O⟩=a.tx:=(i.cell (Ad w _ (b 1 a.tx rfl (by decide)))).trans<|b 1 a.tx rfl (by decide);have b7:wr.cell? ⟨l,m+d*8+2,O⟩=a.thr:=(i.cell (Ad w _ (b 2 a.thr rfl (by decide)))).trans<|b 2 a.thr rfl (by decide);have b8:wr.cell? ⟨l,m+d*8+3,O⟩=a.obj:=(i.cell (Ad w _ (b 3 a.obj rfl (by decide)))).trans<|b 3 a.obj rfl (by decide);have b9:wr.cell? ⟨l,m+d*8+4,O⟩=a.op:=(i.cell (Ad w _ (b 4 a.op rfl (by decide)))).trans<|b 4 a.op rfl (by decide);have ca:wr.cell? ⟨l,m+d*8+5,O⟩=a.key:=(i.cell (Ad w _ (b 5 a.key rfl (by decide)))).trans<|b 5 a.key rfl (by decide);have cb:wr.cell? ⟨l,m+d*8+6,O⟩=a.val:=(i.cell (Ad w _ (b 6 a.val rfl (by decide)))).trans<|b 6 a.val rfl (by decide);have cc:wr.cell? ⟨l,m+d*8+7,O⟩=a.ret:=(i.cell (Ad w _ (b 7 a.ret rfl (by decide)))).trans<|b 7 a.ret rfl (by decide);have bn:=Af<|i.alloc i.size (K (Aj a) 44);have a4:=Af<|z.alloc z.size (K (Aj a) 44);have bo:=Af<|aj.alloc (K (Aj a) 44);have bp:=Af (show a.Ok from(av.o.2.2.2 a (Ap ak)).1);have cd:=Af (bs.o a (Ap ak)).2;have a5:=Af S;have ct:(0:Int)<=(d:Int):=by omega
   have cu:(d:Int)<(es.length:Int):=by omega
   have cv:(es.length:Int)<=400:=by have:=a3.o;omega
   have ce:decide (d<es.length)=true:=by simpa using S
   simp only[Aj] at bn a4 bo;have a6:=Af<|Qc a bp;go_wp2_with fail;refine(YM a _ (bc.o.below bn) bp cd).mono ?_;rintro Y cw ⟨rfl,u⟩;generalize Ea (Ci a a.fl.length) [32]=al at a6|-;have a7:=Af<|a4.o.trans (u.mono a4.o.size);have bq:=Af<|AA bo u;unfold BH;have cf:=a6.o;have cg:=a2.o;have ch:=a3.o;have ci:=a5.o
   go_wp2_with (first
    |(at_builtin;refine Lib.wpList_append_own_string _ rfl (.tmp 57) (.tmp 58) 52 9 rfl e 5 ae underlying52 underlying9 af ag ah ai _ g _ rfl bq ⟨al.toArray⟩ rfl (by simp[HJ];unfold Al;omega) (by simp[HJ];omega) a7.o.size ?_;intro ax D F G _;have x:=Af (show D.ownsRow e 5 1 ax (g+al.length) _ from by simpa[HJ] using F);have v:=Af (a7.o.grown G a7.o.size (λay b=>(Ai bq b).1));clear F G)
    |(at_builtin;refine wpList_append_own _ rfl (.tmp 59) (.tmp 60) 52 rfl e 5 ae (.int .u8 0) 1 1 underlying52 af ag ah ai rfl (by decide) _ (g+al.length) _ rfl (x.o.alloc _) D 1 1 [.int .u8 10] rfl rfl (En _ _ _) (by simp[B4]) (by unfold Al;omega) (by omega) (by have:=v.o.size;simp;omega) ?_;intro bg bh y M _))
   have cj:=Af<|(v.o.alloc v.o.size (K #[.int .u8 10] 5)).grown M (by have:=v.o.size;simp;omega) (λay b=>(Ai x b).1);obtain⟨ck,cl,rfl⟩:=Ag y;have cn:=Af y
   go_roundw
   case rel=>exact⟨d+1,g+al.length+1,ck,cl,_,by go_num,rfl,a5,cn,Nat.succ_pos _,by have:=a6.o;have:=a2.o;omega,cj⟩
   case measure=>simp[intOf];have:=a5.o;have:=a3.o;omega
  .obtain rfl:d=es.length:=by omega
   have ce:decide (es.length<es.length)=false:=by simp
   go_wp2_with fail;go_ret2;exact⟨_,_,_,rfl,a2.o.1,j.o.trans (b4.o.mono j.o.size)⟩
theorem Aa6{W:World}{B N:Nat}{v:Value}{rows:List Value}{st:Nat->List CE}(h:W.ownsRow B Ss 1 v (N+1) rows)(g:rows.length=N+1)(b:∀(k:Nat) u,rows[k]?=some u->Cc BW 2 Q3 W u (st k)):XV W v N st:=by
 obtain⟨d,c,rfl,-,-,e⟩:=Hj h (by omega);refine⟨d,0,c,rfl,λk i=>?_⟩;obtain⟨u,a⟩:∃u,rows[k]?=some u:=⟨rows[k]'(by omega),An _⟩;exact⟨u,by rw[Ej];exact e k u a,(b k u a).1⟩
theorem Hl{W:U}{t:Ab}{cs:Array N}(h:Ah W g t cs):BU W (C g cs.toList.length cs.toList.length) cs.toList:=by
 refine⟨_,_,g,0,rfl,(λa=>by cases a),(λe a _=>by injection a with a;exact a.symm),Aa _,λb i d=>?_⟩;rw[Ej,h.cell b];simpa using d
theorem Vs(W:U)(t:Ab)(cs:Array N)(fr:Nat×Nat):BU (W.alloc (K cs t fr)) (C W cs.toList.length cs.toList.length) cs.toList:=by
 refine⟨_,_,W.heap.size,0,rfl,(λa=>by cases a),(λe a _=>by injection a with a;exact a.symm),Aa _,λb g d=>?_⟩;rw[Ej];exact(cell_of_row _ _ b _ _ fr (D4 W _)).trans (by simpa using d)
theorem RJ{b:Type}{a x:b}(h:[a][j]?=x):j=0/\x=a:=by
 cases j with
 |zero=>exact⟨rfl,by simpa using h.symm⟩
 |succ j=>simp at h
theorem Aa7{W:U}{t:Ab}{k c v:Int}(h:Ah W g t #[k,c,v]):CQ W (C g 1 1) [⟨k,c,v⟩]:=by
 refine⟨_,1,g,0,rfl,(λa=>by cases a),(λb a _=>by injection a with a;exact a.symm),Aa _,λe b d=>?_⟩;obtain⟨rfl,rfl⟩:=RJ d;exact⟨h.cell 0,h.cell 1,h.cell 2⟩
theorem YW{W:U}{t t':Ab}{k c v:Int}(h:Ah W g t #[k,c,v])(a:Ah W b t' #[C g 1 1]):GG W (C b 1 1) [[⟨k,c,v⟩]]:=by
 refine⟨[C g 1 1],Hl a,rfl,λi j l d e=>?_⟩;obtain⟨rfl,rfl⟩:=RJ d;obtain⟨-,rfl⟩:=RJ e;exact Aa7 h
theorem Aa8{W:U}{a2 t:Nat}{t0 t2 t3 t4 t5:Ab}(d:Ah W c t0 #[()])(e:Ah W n p #[I J 3,(),I J 1])(k1:Ah W k t2 #[C n 1 1])(i:Ah W a2 t3 #[I J 3,(),I J 1])(k2:Ah W g t4 #[C a2 1 1])(j:Ah W t t5 #[C k 1 1,C g 1 1]):
 Ln W (C c 1 1) (C t 2 2) DX:=by
 refine⟨Hl d,[C k 1 1,C g 1 1],Hl j,rfl,λl m o a b=>?_⟩
 match l,a,b with
 |0,a,b=>
  obtain rfl:=Option.some.inj a;obtain rfl:=Option.some.inj b;exact YW e k1
 |1,a,b=>
  obtain rfl:=Option.some.inj a;obtain rfl:=Option.some.inj b;exact YW i k2
theorem Vt:Ea (Hr Qa 4) [32]=[121,101,115,32,121,101,115,32,110,111,32,110,111]:=by decide
abbrev exE:List N:=[I J 5,I J 2,(),(),(),(),(),()]
theorem Vu{w:U}(eq:AE w)(er:Gi w):Calls prog 4 #[] w λq a0=>q=true/\Below w w a0:=by
 let⟨f0,f1,f2,f3,f4⟩:=A1 GJ;have G:=Af (λ(V:U) (h:Below w w V)=>eq.below h);have f5:=Af (λ(V:U) (h:Below w w V)=>er.below h);go_in;go_wp2_with fail;refine(PN w).mono ?_;rintro q L ⟨f6,f7,rfl,a1,d⟩;rw[Adk] at a1;have ac:L.ownsRow w Di 2 f6 1 (([⟨1,0⟩]:List Ob).flatMap CL):=a1.1;have ad:L.ownsRow w AJ 8 f7 13 (VI.flatMap BO):=a1.2;obtain⟨z,A,rfl⟩:=Ag ac;obtain⟨M,S,rfl⟩:=Ag ad;have a:=Zc L<|H #[C z 1 A,C M 13 S] AI;have ak:=Af<|d.alloc d.size (H #[C z 1 A,C M 13 S] AI);have a2:=Af<|(Cc.of_row (l:=([⟨1,0⟩]:List Ob)) ac (λ_=>rfl) rfl).below a;have a3:=Af<|(Cc.of_row (l:=VI) ad (λ_=>rfl) rfl).below a;have ae:=Af<|Ah.new L AI #[C z 1 A,C M 13 S];go_upto_region 2 with fail;generalize L.heap.size=gy at ae|-;generalize L.alloc (H #[C z 1 A,C M 13 S] AI)=f8 at ak a2 a3 ae|-;have es:=Af<|SA (most:=100) a2 a3 C0.1 Jo.1 (G.o _ ak) (by decide) (MW Jo.2 LX);let⟨m,n⟩:=ae.o.c2;go_wp2_with fail;refine es.o.mono ?_;rintro q af ⟨d,(⟨-,f9,al,ga,rfl,et,eu,ev⟩|⟨gb,al,gc,ew,rfl⟩)⟩
 rotate_left
 .rw[Adj Jo.2 LX gb gc] at ew
  cases ew
 have cc:af.ownsRow f8 Ss 1 f9 14 ga:=eu;obtain⟨a4,a5,rfl⟩:=Ag cc;have ex:=Af<|Aa6 (N:=13) cc et ev;have a:=d.alloc d.size<|H #[true,C O 0 0,C a4 14 a5,(),(al:Int)] D5;have cd:=Af<|ex.o.below (Zc af (H #[true,C O 0 0,C a4 14 a5,(),(al:Int)] D5));have am:=Af<|Ah.new af D5 #[true,C O 0 0,C a4 14 a5,(),(al:Int)];have W:=Af<|ae.o.below a ae.o.lt;have a6:=Af<|ak.o.trans (a.mono ak.o.size);have ce:=Af<|a2.o.below a;have a7:=Af<|a3.o.below a;go_upto_region 3 with fail;generalize af.heap.size=gz at am|-;generalize af.alloc (H #[true,C O 0 0,C a4 14 a5,(),(al:Int)] D5)=v at cd am W a6 ce a7|-;let⟨m,n⟩:=W.o.c2;have a:=Zc v<|H #[C z 1 A,C M 13 S] AI;have a8:=Af<|Ah.new v AI #[C z 1 A,C M 13 S];have an:=Af a;have cf:=Af<|W.o.below a W.o.lt;have cg:=Af<|TU (a7.o.below a).1 (by decide);go_upto_region 4 with fail;generalize v.alloc (H #[C z 1 A,C M 13 S] AI)=ch at a8 an cf cg|-;let⟨m,n⟩:=cf.o.c2;go_wp2_with fail;refine cg.o.mono ?_;rintro q ey ⟨gd,rfl,ez,d⟩;have ci:ey.ownsRow ch AJ 8 gd 13 (VI.flatMap BO):=ez;obtain⟨ge,gf,rfl⟩:=Ag ci;have a9:=Af ci;have ba:=Af<|an.o.trans (d.mono an.o.size);have cj:=Af<|a8.o.below d a8.o.lt;have gg:=an.o.size;have gh:=d.size;go_wp2_with (at_builtin;refine B9 _ rfl (.tmp 29) (.tmp 31) 23 rfl ch AJ f0 (.agg #[(),(),(),(),(),(),(),()]) 8 64 underlying23 f1 f2 f3 f4 rfl (by decide) (.slice ge 13 gf) 13 (VI.flatMap BO) rfl (a9.o.alloc _) _ 1 1 exE rfl (by rfl) (World.news_of_block (D4 ey (H #[I J 5,I J 2,(),(),(),(),(),()] AJ))) (by simp[B4]) (by unfold Al;omega) (by omega) (by simp;omega) ?_;intro g0 ck cl cn _ gi;obtain⟨X,Y,rfl⟩:=Ag cl;have Z:=Af ((cj.o.alloc (H #[I J 5,I J 2,(),(),(),(),(),()] AJ)).grown cn (λbb=>(cj.o.alloc (H #[I J 5,I J 2,(),(),(),(),(),()] AJ)).apartRow (a9.o.alloc _) (by decide) bb.symm));have e0:=Af ((ba.o.alloc ba.o.size (H #[I J 5,I J 2,(),(),(),(),(),()] AJ)).grown cn (by have:=ba.o.size;simp;omega) (λg1 gj=>by have:=(Ai a9 gj).1;omega));have co:=Af (show ck.ownsRow ch AJ 8 (.slice X 14 Y) 14 (P9.flatMap BO) from cl);have gl:=Z.o.cell 0;have gm:=Z.o.cell 1;have e1:=Z.o.frozen 1;have gn:=Z.o.lt;clear cl cn gi);go_upto_region 5 with fail;have B:=Af<|e0.o.setCell (p:=⟨v.heap.size,1,O⟩) (Aa _) (C X 14 Y)
 have cp:=Af (show Ah (ck.setCell ⟨v.heap.size,1,O⟩ (C X 14 Y)) v AI #[C z 1 A,C X 14 Y] by
  have gp:=Z.o.put 1<|C X 14 Y;simpa using gp)
 have cq:=Af<|Ak co (p:=⟨v.heap.size,1,O⟩) (Z.o.apartRow co (by decide)) (C X 14 Y);generalize ck.setCell ⟨v.heap.size,1,O⟩ (C X 14 Y)=g2 at B cp cq|-;have e2:=Af<|Cc.of_row (l:=P9) cq (λ_=>rfl) rfl;have cr:=Af<|W.o.below B W.o.lt;have cs:=Af<|am.o.below B am.o.lt;have e3:=Af<|cd.o.below B;have ct:=Af<|ce.o.below B;have e4:=Af<|a7.o.below B;have bc:=Af<|a6.o.trans (B.o.mono a6.o.size);have ao:=Af cp;have cu:=Af e2;generalize v.heap.size=g3 at ao|-;have g:=Af<|Kv (most:=100) (level:=1) ct.o.1 cu.o.1 C0.1 C0.2.1 (G.o _ bc) (by decide) (by decide) AbO;let⟨m,n⟩:=ao.o.c2;go_wp2_with fail;refine g.o.mono ?_;rintro q cv ⟨⟨cw,p,k5,cx,rfl⟩,d⟩;have a:=d.alloc d.size<|H #[false,C cw p k5,C O 0 0,(),cx] D5;have j:=Af<|Ah.new cv D5 #[false,C cw p k5,C O 0 0,(),cx];have bd:=Af<|cr.o.below a cr.o.lt;have be:=Af<|cs.o.below a cs.o.lt;have cy:=Af<|e3.o.below a;have bf:=Af<|ct.o.below a;have cz:=Af<|e4.o.below a;have ap:=Af<|bc.o.trans (a.mono bc.o.size);have aq:=Af<|ao.o.below a ao.o.lt;have bg:=Af<|cu.o.below a;go_upto_region 6 with fail;generalize cv.heap.size=g4 at j|-;generalize cv.alloc (H #[false,C cw p k5,C O 0 0,(),cx] D5)=g5 at bd be cy bf cz ap aq bg j|-;have c0:=Af j;have g:=Af<|Vi (most:=100) (level:=1) bf.o.1 bg.o.1 C0.1 C0.2.1 (G.o _ ap) (by decide) (by decide) C0.2.2 YK Aa1 YL AbO Ae5;let⟨m,n⟩:=aq.o.c2;go_wp2_with fail;refine g.o.mono ?_;rintro q ar ⟨gq,gr,rfl,c1,d⟩;have ac:ar.ownsRow _ Di 2 gq 1 (([⟨1,0⟩]:List Ob).flatMap CL):=c1.1;have ad:ar.ownsRow _ AJ 8 gr 14 (P9.flatMap BO):=c1.2;obtain⟨c2,c3,rfl⟩:=Ag ac;obtain⟨c4,c5,rfl⟩:=Ag ad;have a:=d.alloc d.size<|H #[C c2 1 c3,C c4 14 c5] AI;have j:=Af<|Ah.new ar AI #[C c2 1 c3,C c4 14 c5];have bh:=Af<|bd.o.below a bd.o.lt;have bi:=Af<|be.o.below a be.o.lt;have c6:=Af<|cy.o.below a;have bj:=Af<|bf.o.below a;have c7:=Af<|cz.o.below a;have au:=Af<|ap.o.trans (a.mono ap.o.size);have av:=Af<|aq.o.below a aq.o.lt;have bk:=Af<|bg.o.below a;have bl:=Af<|c0.o.below a c0.o.lt;go_upto_region 7 with fail;generalize ar.heap.size=g6 at j|-;generalize ar.alloc (H #[C c2 1 c3,C c4 14 c5] AI)=g7 at bh bi c6 bj c7 au av bk bl j|-;have c8:=Af j;have g:=Af<|Vn (os:=[⟨1,0⟩]) bj.o.1 bk.o.1 C0.1 C0.2.1 (G.o _ au) Ae8 Ae9 (by decide) Agv Agw;let⟨m,n⟩:=av.o.c2;go_wp2_with fail;refine g.o.mono ?_;rintro q c9 ⟨da,aa,k7,rfl,d⟩;have a:=d.alloc d.size<|H #[I J 3,C O 0 0,C O 0 0,(),(),(),C da aa k7] 49;have j:=Af<|Ah.new c9 49 #[I J 3,C O 0 0,C O 0 0,(),(),(),C da aa k7];have aw:=Af<|bh.o.below a bh.o.lt;have bm:=Af<|bi.o.below a bi.o.lt;have db:=Af<|c6.o.below a;have bn:=Af<|bj.o.below a;have bo:=Af<|c7.o.below a;have ax:=Af<|au.o.trans (a.mono au.o.size);have bp:=Af<|av.o.below a av.o.lt;have dc:=Af<|bk.o.below a;have bq:=Af<|bl.o.below a bl.o.lt;have br:=Af<|c8.o.below a c8.o.lt;go_upto_region 8 with fail;generalize c9.heap.size=g8 at j|-;generalize c9.alloc (H #[I J 3,C O 0 0,C O 0 0,(),(),(),C da aa k7] 49)=g9 at aw bm db bn bo ax bp dc bq br j|-;have dd:=Af j;have g:=Af<|YO bn.o.1 bo.o.1 Jo.1 (G.o _ ax) Jo.2;let⟨m,n⟩:=aw.o.c2;go_wp2_with fail;refine g.o.mono ?_;rintro q b ⟨ha,gs,k8,rfl,hb,d⟩;have de:=Af<|aw.o.below d aw.o.lt;have df:=Af<|bm.o.below d bm.o.lt;have e5:=Af<|db.o.below d;have e6:=Af<|bn.o.below d;have e7:=Af<|bo.o.below d;have dh:=Af<|ax.o.trans (d.mono ax.o.size);have di:=Af<|bp.o.below d bp.o.lt;have e8:=Af<|dc.o.below d;have dj:=Af<|bq.o.below d bq.o.lt;have dk:=Af<|br.o.below d br.o.lt;have dl:=Af<|dd.o.below d dd.o.lt;go_upto_region 11 with fail;have dm:b.heap.size=b.heap.size:=rfl;have bs:=Below.refl b b;obtain⟨bt,ay⟩:∃V,b.alloc (H #[I J 3,(),I J 1] 56)=V:=⟨_,rfl⟩;have dn:bt.heap.size=b.heap.size+1:=by rw[<-ay,Eb,dm]
 have dp:Below b b bt:=by rw[<-ay];exact bs.alloc bs.size _
 have e:=Ah.new b 56 #[I J 3,(),I J 1];rw[dm,ay] at e;obtain⟨bu,ag⟩:∃V,bt.alloc (H #[()] 3)=V:=⟨_,rfl⟩;have dq:bu.heap.size=b.heap.size+1+1:=by rw[<-ag,Eb,dn]
 have bv:Below b b bu:=by rw[<-ag];exact dp.alloc dp.size _
 replace e:=e.alloc (H #[()] 3);rw[ag] at e;have i:=Ah.new bt 3 #[()];rw[dn,ag] at i;obtain⟨bw,ab⟩:∃V,bu.alloc (H #[I J 3,(),I J 1] 56)=V:=⟨_,rfl⟩;have dr:bw.heap.size=b.heap.size+1+1+1:=by rw[<-ab,Eb,dq]
 have ds:Below b b bw:=by rw[<-ab];exact bv.alloc bv.size _
 replace e:=e.alloc (H #[I J 3,(),I J 1] 56);rw[ab] at e;replace i:=i.alloc (H #[I J 3,(),I J 1] 56);rw[ab] at i;have k:=Ah.new bu 56 #[I J 3,(),I J 1];rw[dq,ab] at k;obtain⟨bz,D⟩:∃V,bw.alloc (H #[C (b+1+1:Nat) 1 1] 57)=V:=⟨_,rfl⟩;have dt:bz.heap.size=b.heap.size+1+1+1+1:=by rw[<-D,Eb,dr]
 have du:Below b b bz:=by rw[<-D];exact ds.alloc ds.size _
 replace e:=e.alloc (H #[C (b+1+1:Nat) 1 1] 57);rw[D] at e;replace i:=i.alloc (H #[C (b+1+1:Nat) 1 1] 57);rw[D] at i;replace k:=k.alloc (H #[C (b+1+1:Nat) 1 1] 57);rw[D] at k;have o:=Ah.new bw 57 #[C (b+1+1:Nat) 1 1];rw[dr,D] at o;obtain⟨b0,y⟩:∃V,bz.alloc (H #[I J 3,(),I J 1] 56)=V:=⟨_,rfl⟩;have dv:b0.heap.size=b.heap.size+1+1+1+1+1:=by rw[<-y,Eb,dt]
 have dw:Below b b b0:=by rw[<-y];exact du.alloc du.size _
 replace e:=e.alloc (H #[I J 3,(),I J 1] 56);rw[y] at e;replace i:=i.alloc (H #[I J 3,(),I J 1] 56);rw[y] at i;replace k:=k.alloc (H #[I J 3,(),I J 1] 56);rw[y] at k;replace o:=o.alloc (H #[I J 3,(),I J 1] 56);rw[y] at o;have r:=Ah.new bz 56 #[I J 3,(),I J 1];rw[dt,y] at r;obtain⟨b1,x⟩:∃V,b0.alloc (H #[C (b+1+1+1+1:Nat) 1 1] 57)=V:=⟨_,rfl⟩;have dx:b1.heap.size=b.heap.size+1+1+1+1+1+1:=by rw[<-x,Eb,dv]
 have dy:Below b b b1:=by rw[<-x];exact dw.alloc dw.size _
 replace e:=e.alloc (H #[C (b+1+1+1+1:Nat) 1 1] 57);rw[x] at e;replace i:=i.alloc (H #[C (b+1+1+1+1:Nat) 1 1] 57);rw[x] at i;replace k:=k.alloc (H #[C (b+1+1+1+1:Nat) 1 1] 57);rw[x] at k;replace o:=o.alloc (H #[C (b+1+1+1+1:Nat) 1 1] 57);rw[x] at o;replace r:=r.alloc (H #[C (b+1+1+1+1:Nat) 1 1] 57);rw[x] at r;have p:=Ah.new b0 57 #[C (b+1+1+1+1:Nat) 1 1];rw[dv,x] at p;obtain⟨b2,u⟩:∃V,b1.alloc (H #[C (b+1+1+1:Nat) 1 1,C (b+1+1+1+1+1:Nat) 1 1] 58)=V:=⟨_,rfl⟩;have e9:b2.heap.size=b.heap.size+1+1+1+1+1+1+1:=by rw[<-u,Eb,dx]
 have dz:Below b b b2:=by rw[<-u];exact dy.alloc dy.size _
 replace e:=e.alloc (H #[C (b+1+1+1:Nat) 1 1,C (b+1+1+1+1+1:Nat) 1 1] 58);rw[u] at e;replace i:=i.alloc (H #[C (b+1+1+1:Nat) 1 1,C (b+1+1+1+1+1:Nat) 1 1] 58);rw[u] at i;replace k:=k.alloc (H #[C (b+1+1+1:Nat) 1 1,C (b+1+1+1+1+1:Nat) 1 1] 58);rw[u] at k;replace o:=o.alloc (H #[C (b+1+1+1:Nat) 1 1,C (b+1+1+1+1+1:Nat) 1 1] 58);rw[u] at o;replace r:=r.alloc (H #[C (b+1+1+1:Nat) 1 1,C (b+1+1+1+1+1:Nat) 1 1] 58);rw[u] at r;replace p:=p.alloc (H #[C (b+1+1+1:Nat) 1 1,C (b+1+1+1+1+1:Nat) 1 1] 58);rw[u] at p;have ah:=Ah.new b1 58 #[C (b+1+1+1:Nat) 1 1,C (b+1+1+1+1+1:Nat) 1 1];rw[dx,u] at ah;obtain⟨d0,t⟩:∃V,b2.alloc (H #[C (b+1:Nat) 1 1,C (b+1+1+1+1+1+1:Nat) 2 2] 61)=V:=⟨_,rfl⟩;have gt:d0.heap.size=b.heap.size+1+1+1+1+1+1+1+1:=by rw[<-t,Eb,e9]
 have fa:Below b b d0:=by rw[<-t];exact dz.alloc dz.size _
 replace e:=e.alloc (H #[C (b+1:Nat) 1 1,C (b+1+1+1+1+1+1:Nat) 2 2] 61);rw[t] at e;replace i:=i.alloc (H #[C (b+1:Nat) 1 1,C (b+1+1+1+1+1+1:Nat) 2 2] 61);rw[t] at i;replace k:=k.alloc (H #[C (b+1:Nat) 1 1,C (b+1+1+1+1+1+1:Nat) 2 2] 61);rw[t] at k;replace o:=o.alloc (H #[C (b+1:Nat) 1 1,C (b+1+1+1+1+1+1:Nat) 2 2] 61);rw[t] at o;replace r:=r.alloc (H #[C (b+1:Nat) 1 1,C (b+1+1+1+1+1+1:Nat) 2 2] 61);rw[t] at r;replace p:=p.alloc (H #[C (b+1:Nat) 1 1,C (b+1+1+1+1+1+1:Nat) 2 2] 61);rw[t] at p;replace ah:=ah.alloc (H #[C (b+1:Nat) 1 1,C (b+1+1+1+1+1+1:Nat) 2 2] 61);rw[t] at ah;have aa:=Ah.new b2 61 #[C (b+1:Nat) 1 1,C (b+1+1+1+1+1+1:Nat) 2 2];rw[e9,t] at aa;rw[ay,ag,ab,D,y,x,u,t];have fb:=Af<|Aa8 i k o r p ah;have fc:=Af aa;have a:=fa;have d1:=Af<|de.o.below a de.o.lt;have d2:=Af<|df.o.below a df.o.lt;have fd:=Af<|e5.o.below a;have fe:=Af<|e6.o.below a;have ff:=Af<|e7.o.below a;have b3:=Af<|dh.o.trans (a.mono dh.o.size);have d3:=Af<|di.o.below a di.o.lt;have fg:=Af<|e8.o.below a;have d4:=Af<|dj.o.below a dj.o.lt;have d5:=Af<|dk.o.below a dk.o.lt;have d6:=Af<|dl.o.below a dl.o.lt;let⟨m,n⟩:=fc.o.c2;have g:=Af<|Aa5 _ _ d0 fb (f5.o _ b3);go_wp2_with fail;refine g.o.mono ?_;rintro q d7 ⟨hc,rfl,⟨d8,k9,d9,ea,rfl⟩,d⟩;have a:=d.alloc d.size<|H #[C d8 1 k9,C d9 14 ea] AI;have j:=Af<|Ah.new d7 AI #[C d8 1 k9,C d9 14 ea];have b4:=Af<|d1.o.below a d1.o.lt;have b5:=Af<|d2.o.below a d2.o.lt;have eb:=Af<|fd.o.below a;have ec:=Af<|fe.o.below a;have ed:=Af<|ff.o.below a;have ai:=Af<|b3.o.trans (a.mono b3.o.size);have b6:=Af<|d3.o.below a d3.o.lt;have ee:=Af<|fg.o.below a;have b7:=Af<|d4.o.below a d4.o.lt;have b8:=Af<|d5.o.below a d5.o.lt;have b9:=Af<|d6.o.below a d6.o.lt;go_upto_region 12 with fail;generalize d7.heap.size=hd at j|-;generalize d7.alloc (H #[C d8 1 k9,C d9 14 ea] AI)=az at b4 b5 eb ec ed ai b6 ee b7 b8 b9 j|-;have ef:=Af j;have gu:=λ(w:U) (gv:Array N) (eg c:Nat)=>Uw (P:=prog) w 52 5 gv eg c underlying52 underlying5;have fh:BU (az.alloc (H #[.int .u8 115,.int .u8 97,.int .u8 109,.int .u8 112,.int .u8 108,.int .u8 101,.int .u8 32,.int .u8 116,.int .u8 111,.int .u8 114,.int .u8 110,.int .u8 32,.int .u8 97,.int .u8 10,.int .u8 108,.int .u8 101,.int .u8 118,.int .u8 101,.int .u8 108,.int .u8 115,.int .u8 32,.int .u8 97,.int .u8 32,.int .u8 49,.int .u8 48,.int .u8 48,.int .u8 10] 5 (27,28))) (C az 27 27) (bys P4):=Vs az 5 #[.int .u8 115,.int .u8 97,.int .u8 109,.int .u8 112,.int .u8 108,.int .u8 101,.int .u8 32,.int .u8 116,.int .u8 111,.int .u8 114,.int .u8 110,.int .u8 32,.int .u8 97,.int .u8 10,.int .u8 108,.int .u8 101,.int .u8 118,.int .u8 101,.int .u8 108,.int .u8 115,.int .u8 32,.int .u8 97,.int .u8 32,.int .u8 49,.int .u8 48,.int .u8 48,.int .u8 10] (27,28);have a:=Zc az<|H #[.int .u8 115,.int .u8 97,.int .u8 109,.int .u8 112,.int .u8 108,.int .u8 101,.int .u8 32,.int .u8 116,.int .u8 111,.int .u8 114,.int .u8 110,.int .u8 32,.int .u8 97,.int .u8 10,.int .u8 108,.int .u8 101,.int .u8 118,.int .u8 101,.int .u8 108,.int .u8 115,.int .u8 32,.int .u8 97,.int .u8 32,.int .u8 49,.int .u8 48,.int .u8 48,.int .u8 10] 5 (27,28);have g:=Af<|Aa4 fh (G.o _ (ai.o.trans (a.mono ai.o.size)));have aj:=Af a;go_wp2_with fail;refine g.o.mono ?_;rintro q F ⟨he,rfl,ca,d⟩;obtain⟨fi,fj,rfl,-,-,-⟩:=Hj ca (by decide);rw[Vt] at ca;have fk:=Af (show BU F (C fi 2 fj) (txs [[49,52],[121,101,115,32,121,101,115,32,110,111,32,110,111]]) from BC ca);have a:=aj.o.trans<|d.mono aj.o.size;have eh:=Af<|b4.o.below a b4.o.lt;have ei:=Af<|b5.o.below a b5.o.lt;have fl:=Af<|eb.o.below a;have fm:=Af<|ec.o.below a;have fo:=Af<|ed.o.below a;have ej:=Af<|ai.o.trans (a.mono ai.o.size);have ek:=Af<|b6.o.below a b6.o.lt;have fp:=Af<|ee.o.below a;have el:=Af<|b7.o.below a b7.o.lt;have em:=Af<|b8.o.below a b8.o.lt;have en:=Af<|b9.o.below a b9.o.lt;have eo:=Af<|ef.o.below a ef.o.lt;have a:=Zc F<|H #[.string ⟨#[49,52]⟩,.string ⟨#[121,101,115,32,121,101,115,32,110,111,32,110,111]⟩] 9;have g:=Af<|(SU (C fi 2 fj) (C F 2 2) [[49,52],[121,101,115,32,121,101,115,32,110,111,32,110,111]] [[49,52],[121,101,115,32,121,101,115,32,110,111,32,110,111]] (F.alloc (H #[.string ⟨#[49,52]⟩,.string ⟨#[121,101,115,32,121,101,115,32,110,111,32,110,111]⟩] 9)) (fk.o.below a (Aa _)) (Hl (Ah.new F 9 #[.string ⟨#[49,52]⟩,.string ⟨#[121,101,115,32,121,101,115,32,110,111,32,110,111]⟩])) (by decide) (by decide)).mono (R':=λbb a0=>bb=true/\∃eg,a0=(F.alloc (H #[.string ⟨#[49,52]⟩,.string ⟨#[121,101,115,32,121,101,115,32,110,111,32,110,111]⟩] 9)).drewN eg) (λbb a0 h=>⟨by rw[h.1];simp,h.2⟩);have aj:=Af a;go_wp2_with fail;refine g.o.mono ?_;rintro q hf ⟨rfl,fq,rfl⟩;have a:=below_drewN aj fq;have fr:=Af<|eh.o.below a eh.o.lt;have ep:=Af<|ei.o.below a ei.o.lt;have fs:=Af<|fl.o.below a;have ft:=Af<|fm.o.below a;have fu:=Af<|fo.o.below a;have cb:=Af<|ej.o.trans (a.mono ej.o.size);have fv:=Af<|ek.o.below a ek.o.lt;have gw:=Af<|fp.o.below a;have fw:=Af<|el.o.below a el.o.lt;have fx:=Af<|em.o.below a em.o.lt;have fy:=Af<|en.o.below a en.o.lt;have fz:=Af<|eo.o.below a eo.o.lt;generalize (F.alloc (H #[.string ⟨#[49,52]⟩,.string ⟨#[121,101,115,32,121,101,115,32,110,111,32,110,111]⟩] 9)).drewN fq=hg at fr ep fs ft fu cb fv gw fw fx fy fz|-;let⟨hh,hi⟩:=fr.o.c2;have bs:=ep.o.cell 0;have bv:=ep.o.cell 2;have hj:=fv.o.cell 1;have hk:=fw.o.cell 0;have e1:=fx.o.cell 1;have hl:=fy.o.cell 0;have hm:=fz.o.cell 1;have hn:decide ((0:Int)<(gs:Int))=true:=by simp;omega
 have g:=Af<|Agl ft.o.1 fu.o.1 fs Jo.1 C0.1 (G.o _ cb) (YJ Jo.2 LX);go_wp2_with fail;refine g.o.mono ?_;rintro q ho ⟨rfl,d⟩;have gx:=Af<|cb.o.trans (d.mono cb.o.size);go_wp2;go_ret;exact⟨rfl,gx⟩
theorem Vv{w:U}{vo vl:N}{os:List Ob}{es:List Ev}(j:Ba 2 CL w vo os)(k:Ba 8 BO w vl es):Calls prog 5 #[.agg #[vo,vl]] w λo p=>o=R (T (decide ((os.length:Int)<=20)&&decide ((es.length:Int)<=60)))/\Below w w p:=by
 obtain⟨b,d,rfl⟩:=j.shape;obtain⟨e,g,rfl⟩:=k.shape;have l:=Zc w<|K #[C b os.length d,C e es.length g] AI;have a:=Af l;have m:=Af<|Ah.new w AI #[C b os.length d,C e es.length g];go_in;go_upto_region 1 with fail;generalize w.alloc (K #[C b os.length d,C e es.length g] AI)=q at a m|-;let⟨r,t⟩:=m.o.c2
 cases i:decide ((os.length:Int)<=20) with
 |false=>
  go_wp2;go_ret;exact⟨by rw[i];rfl,a⟩
 |true=>
  cases n:decide ((es.length:Int)<=60) with
  |false=>
   go_wp2;go_ret;exact⟨by rw[i,n];rfl,a⟩
  |true=>
   go_wp2;go_ret;exact⟨by rw[i,n];rfl,a⟩
theorem Qe(h: -100<=x/\x<=100):wrap64 x=x:=by unfold wrap64;omega
theorem YX(l:Int):1<=wrap64 ((wrap64 (l.tmod 3+3)).tmod 3+1)/\wrap64 ((wrap64 (l.tmod 3+3)).tmod 3+1)<=3:=by
 have a: -3<l.tmod 3:=Int.lt_tmod_of_pos l (by decide);have b:l.tmod 3<3:=Ux l (by decide);rw[Qe (x:=l.tmod 3+3) (by omega)];have d:0<=(l.tmod 3+3).tmod 3:=Int.tmod_nonneg 3 (by omega);have e:(l.tmod 3+3).tmod 3<3:=Ux _ (by decide);rw[Qe (by omega)];omega
abbrev tEp:Ab:=563
abbrev Aff:Ab:=565
theorem AdA:(prog.info? tEp).map (λa=>a.comparable)=true:=by kernel_rfl
theorem AdB:(prog.info? Aff).map (λa=>a.size)=E 1:=by kernel_rfl
theorem Aa9:prog.underlying tEp=E (.pointer Aff):=by kernel_rfl
theorem Vw(a:Addr)(w:U):(Ec .eql Gx (.iface tEp a) (.iface tEp a)).run prog w=.ok true w:=by
 let⟨l,d,e⟩:=Eo.1 AdA;let⟨m,g,i⟩:=Eo.1 AdB
 have j:∀b:Nat,(HB (b+1) tEp a a).run prog w=.ok true w:=λb=>by
  simp[HB,G7 Aa9,sizeOf,typeInfo,g,i,run_sameAddr_same]
 have k:∀b:Nat,(HB (b+2) Gx (.iface tEp a) (.iface tEp a)).run prog w=.ok true w:=λb=>by
  rw[HB];simp[G7 underlying32,typeInfo,d,e,j]
 simp only[Ec];simp[EL,EM,k 9998]
theorem L0{e:N}(h:Gk e)(w:U):(Ec .neq Gx e .nilIface).run prog w=.ok true w:=by
 obtain⟨a,b,rfl⟩:=h;simp only[Ec];simp[EL,EM,go_sem];kernel_rfl
theorem Vx{w:U}{vo vl:N}{os:List Ob}{es:List Ev}{l:Int}(X:Ba 2 CL w vo os)(Y:Ba 8 BO w vl es)(aq:∀be∈os,be.kind<=9223372036854775807)(ar:∀x∈es,AU x.kind/\x.ret<=9223372036854775807)(au:AE w)(av:Gi w):
 Calls prog 3 #[.agg #[vo,vl],l] w λq bf=>q=true/\Below w w bf:=by
 obtain⟨Z,aa,rfl⟩:=X.shape;obtain⟨ab,ac,rfl⟩:=Y.shape;have aw:=Zc w<|K #[C Z os.length aa,C ab es.length ac] AI;have r:=Af aw;have F:=Af<|Ah.new w AI #[C Z os.length aa,C ab es.length ac];have ax:=Af X;have ay:=Af Y;have az:=Af au;have bg:=Af av;have a0:=Af<|And.intro aq ar;go_in;go_upto_region 1 with fail;generalize w.alloc (K #[C Z os.length aa,C ab es.length ac] AI)=b3 at r F|-;go_wp2_with fail;refine(Vu (az.o.below r) (bg.o.below r)).mono ?_;rintro q b4 ⟨rfl,b⟩;have y:=Af<|r.o.trans (b.mono r.o.size);have G:=Af<|F.o.below b F.o.lt;let⟨t,u⟩:=G.o.c2;go_wp2_with fail;refine(Vv (ax.o.below y) (ay.o.below y)).mono ?_;rintro q bh ⟨rfl,b⟩;have k:=Af<|y.o.trans (b.mono y.o.size);have L:=Af<|G.o.below b G.o.lt
 cases m:(decide ((os.length:Int)<=20)&&decide ((es.length:Int)<=60)) with
 |false=>
  go_wp2;go_ret;exact⟨rfl,k⟩
 |true=>
  let⟨t,u⟩:=L.o.c2;go_upto_region 6 with fail;let⟨ad,ae⟩:=YX l;generalize wrap64 ((wrap64 (l.tmod 3+3)).tmod 3+1)=af at ad ae|-
  skip
  have bi:=Af<|And.intro ad ae;have ag:=Af (λ(ah:Nat) (bj:1<=ah/\ah<=150) (V:U) (h:Below w w V)=>Q6 (w:=V) (level:=af) (most:=ah) (ax.o.below h) (ay.o.below h) a0.o.1 a0.o.2 (az.o.below h) bi bj);have o:=Af<|ag.o 150 (by decide) bh k;go_wp2_with fail;refine o.o.mono ?_;rintro q ai ⟨b,(⟨txs,a1,a2,a3,(⟨n,s,a,b5,m,rfl,a4⟩|⟨m,z,v,rfl⟩)⟩|⟨M,x,S,rfl⟩)⟩
  rotate_left
  .have bk:=L0 (e:=.iface 563 z) ⟨_,z,rfl⟩;have j:=Af<|k.o.trans (b.mono k.o.size);go_wp2;go_ret;exact⟨rfl,j.o.alloc j.o.size _⟩
  .have bk:=L0 S;obtain⟨b6,b7,rfl⟩:=S;have j:=Af<|k.o.trans (b.mono k.o.size);go_wp2;go_ret;exact⟨rfl,j.o.alloc j.o.size _⟩
  obtain⟨aj,ak,rfl⟩:=Ag a4;have bl:1<=a:=(Fi (m':=0) m).2.2
  have bm:a<=150:=by
   rcases Nat.lt_or_ge 150 a with h|h
   .have a5:=(Fi (m':=150) m).2.1 h;rw[m] at a5
    cases a5
   .exact h
  have a6:(BF os txs af).search a=E (n,s,a):=(Fi (m':=a) m).1<|Aa _;have A:2<=a->(BF os txs af).search (a-1)=O:=λh=>(Fi (m':=a-1) m).2.1 (by omega);have g:=Af<|And.intro a1 (And.intro a2 (And.intro a3 (And.intro a6 A)));have i:=b.alloc b.size<|K #[n,C aj s.length ak,((a:Nat):Int)] JJ;have j:=Af<|k.o.trans (i.mono k.o.size);have B:=Af<|L.o.below i L.o.lt;have p:=Af<|Ah.new ai JJ #[n,C aj s.length ak,((a:Nat):Int)];go_upto_region 9 with fail;generalize ai.heap.size=b8 at p|-;generalize ai.alloc (K #[n,C aj s.length ak,((a:Nat):Int)] JJ)=bn at j B p|-;have o:=Af<|ag.o a ⟨bl,bm⟩ bn j;let⟨t,u⟩:=B.o.c2;have a7:=p.o.cell 0;have a8:=p.o.cell 2;go_wp2_with fail;refine o.o.mono ?_;rintro q al ⟨b,(⟨bo,a9,d,ba,(⟨bp,bq,br,bs,e,rfl,am⟩|⟨e,z,v,rfl⟩)⟩|⟨M,x,S,rfl⟩)⟩
  rotate_left
  .rw[g.o.2.1] at d;injection d with d;subst d;rw[g.o.2.2.2.1] at e
   cases e
  .have:=M txs g.o.1 g.o.2.1;have:=g.o.2.2.1;omega
  rw[g.o.2.1] at d;injection d with d;subst d;rw[g.o.2.2.2.1] at e;injection e with e;injection e with bt e;injection e with bu bv;subst bt bu bv;obtain⟨an,ao,rfl⟩:=Ag am;have i:=b.alloc b.size<|K #[n,C an s.length ao,((a:Nat):Int)] JJ;have D:=Af<|j.o.trans (i.mono j.o.size);have bb:=Af<|B.o.below i B.o.lt;have ap:=Af<|p.o.below i p.o.lt;have W:=Af<|Ah.new al JJ #[n,C an s.length ao,((a:Nat):Int)];go_upto_region 10 with fail;generalize al.heap.size=b9 at W|-;generalize al.alloc (K #[n,C an s.length ao,((a:Nat):Int)] JJ)=bc at D bb ap W|-;let⟨t,u⟩:=bb.o.c2;have a7:=ap.o.cell 0;have a8:=ap.o.cell 2;have ca:=W.o.cell 0;have cb:=W.o.cell 2;have cc:(n !=n)=false:=by simp
  have cd:(((a:Nat):Int) !=((a:Nat):Int))=false:=by simp
  by_cases bw:a=1
  .have bz:(((a:Nat):Int)==1)=true:=by simp[bw]
   go_wp2;go_ret;exact⟨rfl,D⟩
  .have bz:(((a:Nat):Int)==1)=false:=by simp;omega
   have ce:IntKind.i64.wrap (((a:Nat):Int)-1)=((a-1:Nat):Int):=by rw[Ey];omega
   have cf:wrap64 (((a:Nat):Int)-1)=((a-1:Nat):Int):=by unfold wrap64;omega
   have o:=Af<|ag.o (a-1) (by omega) bc D;have A:=g.o.2.2.2.2 (by omega);have b0:=Af A;go_wp2_with fail;refine o.o.mono ?_;rintro q b1 ⟨b,(⟨bo,a9,d,ba,(⟨bp,bq,br,bs,e,rfl,am⟩|⟨e,z,v,rfl⟩)⟩|⟨M,x,S,rfl⟩)⟩
   .rw[g.o.2.1] at d;injection d with d;subst d;rw[b0.o] at e
    cases e
   .have i:=b.alloc b.size<|K #[false,C O 0 0,()] JJ;have bd:=Af<|D.o.trans (i.mono D.o.size);have b2:=(i.cell (Ad bc _ v)).trans v;have cg:=Vw z;go_upto_region 15 with fail;generalize b1.alloc (K #[false,C O 0 0,()] JJ)=ch at bd b2|-;go_wp2;go_ret;exact⟨rfl,bd⟩
   .have:=M txs g.o.1 g.o.2.1;have:=g.o.2.2.1;omega
section
open Go.ChangeShapes Go.WideShapes Go.ChangeAt Go.Deep
section
variable {H:Type} {enc:TypeId×Value→H} {base:Nat} {spare:Nat→Bool} {held:Bool} {U:World}
theorem Qg{k:Type}[Inhabited k]{f:k->List N}{Pr:k->Prop}{t e:Ab}{fuel:Nat}{V:N}{x:DataW H×List MemPlace}(S:prog.underlying t=E (.slice e))(W:prog.cellsOf e=n)(z:0<n)(X:∀a,(f a).length=n)
 (Y:∀(m:Nat) (cs:List N) y,H9 enc prog U base spare held m e cs=E y->cs.length=n->∃a,cs=f a/\Pr a) (h:H9 enc prog U base spare held fuel t [V]=E x):∃A,Ba n f U V A/\∀a∈A,Pr a:=by
 rcases open_slice S h with ⟨b,_⟩|⟨a,i,B,m,ak,al,am,b,_,Z,an,aa,_,j⟩
 .injection b with b;subst b;exact⟨[],Ba.nil n f U,by simp⟩
 .injection b with b;subst b;rw[W] at j;have ao:i<=m:=by rw[aa];split<;>omega
  obtain⟨l,r⟩:=choose_lt (p:=λo (y:k)=>(∀g,g<n->U.cell? (a.add (o*n+g))=(f y)[g]?)/\Pr y) (λo (ap:o<i)=>by
   obtain⟨aq,ab,ac⟩:=j o (by omega);obtain⟨_,ad,ae⟩:=World.cells?_some ab;obtain⟨y,rfl,af⟩:=Y _ _ _ ac ad;exact⟨y,λg u=>by rw[<-Addr.add_add];exact ae g u,af⟩)
  rcases Nat.eq_zero_or_pos i with b|b
  .subst b;exact⟨[],⟨E a,B,0,0,rfl,by simp,(λ_ _ h=>by simp at h),by simp,by simp⟩,by simp⟩
  .obtain⟨D,F,ag⟩:=a
   have ah:ag=O:=by
    have G:=(r 0 b).1 0 z;obtain⟨v,w⟩:∃v,(f (l 0))[0]?=E v:=⟨_,An (by rw[X];exact z)⟩;rw[w] at G;simpa[GW] using World.cell?_spot G
   subst ah;refine⟨(EZ i).map l,⟨E ⟨D,F,O⟩,B,D,F,by simp,by simp,(λx j _=>by injection j with j;exact j.symm),by simpa using Z,λd y q g v w u=>?_⟩,λy ai=>?_⟩
   .have L:d<i:=by have:=(List.getElem?_eq_some_iff.1 q).1;simpa using this
    have aj:l d=y:=by simpa[L] using q
    have M:=(r d L).1 g u;rw[aj,V5,w] at M;rw[Nat.add_assoc];exact M
   .obtain⟨d,q,rfl⟩:∃d,d<i/\l d=y:=by simpa using ai
    exact(r d q).2
instance:Inhabited Ob:=⟨⟨0,0⟩⟩
instance:Inhabited Ev:=⟨.zero⟩
theorem AdC{k:Int}(h:(Lit.int .i64 k).wf=true): -9223372036854775808≤k∧k≤9223372036854775807:=bounds_i64 h
theorem Aba(m:Nat)(cs:List N)(y:DataW H×List MemPlace)(h:H9 enc prog U base spare held m Di cs=E y)(b:cs.length=2):∃a:Ob,cs=CL a/\a.kind<=9223372036854775807:=by
 match cs,b with
 |[g,i],_=>
  obtain⟨j,k,_,rfl,u,b,l⟩:=Uy underlying71 h
  obtain⟨d,e,rfl⟩:∃d e,j=[d,e]:=by
   match j,b with
   |[a,p],_=>exact⟨a,p,rfl⟩
  obtain⟨k0,n,_,q⟩:=G2 (t:=3) (cs:=([g,i].drop 0).take (prog.cellsOf 3)) (x:=d) (fuel:=k) underlying3<|l 0 _ rfl;obtain⟨k1,o,_,v⟩:=G2 (t:=3) (cs:=([g,i].drop 1).take (prog.cellsOf 3)) (x:=e) (fuel:=k) underlying3<|l 1 _ rfl;have r:prog.cellsOf 3=1:=by kernel_rfl
  simp[r] at n o;subst n o;exact⟨⟨k0,k1⟩,rfl,(AdC q).2⟩
theorem YY(m:Nat)(cs:List N)(y:DataW H×List MemPlace)(h:H9 enc prog U base spare held m AJ cs=E y)(p:cs.length=8):∃o:Ev,cs=BO o/\(AU o.kind/\o.ret<=9223372036854775807):=by
 match cs,p with
 |[a,b,d,e,g,i,j,k],_=>
  obtain⟨D,l,_,rfl,ah,p,n⟩:=Uy underlying44 h
  obtain⟨q,r,u,v,w,z,A,B,rfl⟩:∃q r u v w z A B,D=[q,r,u,v,w,z,A,B]:=by
   match D,p with
   |[Z,aa,c,ab,o,f,ac,ad],_=>exact⟨Z,aa,c,ab,o,f,ac,ad,rfl⟩
  obtain⟨k0,F,_,ae⟩:=G2 (t:=3) (cs:=([a,b,d,e,g,i,j,k].drop 0).take (prog.cellsOf 3)) (x:=q) (fuel:=l) underlying3<|n 0 _ rfl;obtain⟨k1,G,_,ai⟩:=G2 (t:=3) (cs:=([a,b,d,e,g,i,j,k].drop 1).take (prog.cellsOf 3)) (x:=r) (fuel:=l) underlying3<|n 1 _ rfl;obtain⟨k2,L,_,aj⟩:=G2 (t:=3) (cs:=([a,b,d,e,g,i,j,k].drop 2).take (prog.cellsOf 3)) (x:=u) (fuel:=l) underlying3<|n 2 _ rfl;obtain⟨k3,M,_,ak⟩:=G2 (t:=3) (cs:=([a,b,d,e,g,i,j,k].drop 3).take (prog.cellsOf 3)) (x:=v) (fuel:=l) underlying3<|n 3 _ rfl;obtain⟨k4,S,_,al⟩:=G2 (t:=3) (cs:=([a,b,d,e,g,i,j,k].drop 4).take (prog.cellsOf 3)) (x:=w) (fuel:=l) underlying3<|n 4 _ rfl;obtain⟨k5,W,_,am⟩:=G2 (t:=3) (cs:=([a,b,d,e,g,i,j,k].drop 5).take (prog.cellsOf 3)) (x:=z) (fuel:=l) underlying3<|n 5 _ rfl;obtain⟨k6,X,_,an⟩:=G2 (t:=3) (cs:=([a,b,d,e,g,i,j,k].drop 6).take (prog.cellsOf 3)) (x:=A) (fuel:=l) underlying3<|n 6 _ rfl;obtain⟨k7,Y,_,af⟩:=G2 (t:=3) (cs:=([a,b,d,e,g,i,j,k].drop 7).take (prog.cellsOf 3)) (x:=B) (fuel:=l) underlying3<|n 7 _ rfl;have ag:prog.cellsOf 3=1:=by kernel_rfl
  simp[ag] at F G L M S W X Y;subst F G L M S W X Y;exact⟨⟨k0,k1,k2,k3,k4,k5,k6,k7⟩,rfl,AdC ae,(AdC af).2⟩
theorem Vy{v:Value}{d:DataW H}{ps:List MemPlace}{r:Reach}{n:Nat}(p:Uz prog U r n 25 v)(h:DataW.Trod enc prog U base spare held 25 v d ps):
 ∃m o b e,v=.agg #[m,o]∧Ba 2 CL U m b∧Ba 8 BO U o e∧(∀g∈b,g.kind≤9223372036854775807)∧∀a∈e,AU a.kind∧a.ret≤9223372036854775807:=by
 obtain⟨q,t,B,D,F,rfl,_,_,u,w⟩:=V6 underlying25 (by kernel_rfl) (by kernel_rfl) p h
 obtain⟨b,x,y⟩:=Qg (n:=2) (f:=CL) (Pr:=fun g:Ob=>g.kind≤9223372036854775807) underlying22 (by kernel_rfl) (by decide) (fun _=>rfl) (fun i j k h l=>Aba i j k h l) u
 obtain⟨e,z,A⟩:=Qg (n:=8) (f:=BO) (Pr:=fun a:Ev=>AU a.kind∧a.ret≤9223372036854775807) underlying23 (by kernel_rfl) (by decide) (fun _=>rfl) (fun i j k h l=>YY i j k h l) w
 exact⟨q,t,b,e,rfl,x,z,y,A⟩
end
end
section
open Go.ChangeShapes Go.WideShapes Go.ChangeAt Go.Deep
open Go.ChangeMaps (open_string shut_string)
theorem own:ownKnob prog.godebug=O:=by kernel_rfl
theorem Abb:laidOutB prog=true:=Jg
section
variable {H:Type} {enc:TypeId×Value→H}
theorem Vz{W W':U}(l:Below W W W')(a:List Ab):∀(d:List N) (e:List (DataW H)) (ps:List MemPlace),
 (a.all λi=>prog.readableRec i&&decide (i<prog.types.size))=true->K5 enc prog W 0 (λ_=>true) true a d e ps->(∀b∈ps,b.block<W.heap.size)->
 K5 enc prog W' 0 (λm=>decide (m<W.heap.size)) true a d e ps:=by
 induction a with
 |nil=>
  intro d e ps _ h _;obtain⟨rfl,rfl,rfl⟩:=trodAll_nil h;exact trodAll_mk0
 |cons i a n=>
  intro d e ps g h k;obtain⟨u,o,v,p,w,q,rfl,rfl,rfl,r,t⟩:=trodAll_cons h;rw[List.all_cons,EG,EG,decide_eq_true_eq] at g;exact trodAll_cons_mk (Below.trod Abb g.1.1 g.1.2 r l (λb j=>k b (Eh.2 (.inl j))))<|n o p q g.2 t (λb j=>k b (Eh.2 (.inr j)))
theorem YZ{s:ChangeSpec}{f:Func}{W W':World}{args:Array Value}{a gs:List (DataW H)}{q:List MemPlace}(r:f.resultTypes= #[4])(k:s.vars=[])
 (t:(f.params.toList.all λd=>prog.readableRec d&&decide (d<prog.types.size))=true)
 (l:UA enc prog f.params.toList s.vars false W args.toList a gs q) (u:∀es:List (DataW H),es.length=f.params.size->s.fn H (es++[])={results:=[.lit (.bool true)],args:=es})
 (m:Below W.heap.size W W'):s.post enc prog f false true false false W args (.bool true) W':=by
 have n:=l;obtain⟨e,v,o,p,rfl,B,D⟩:=l;rw[k] at p;obtain⟨rfl,rfl⟩:=trodVars_none p
 have w:a.length=f.params.size:=by
  have h:∀(b:List Ab) (g:List Value) (a:List (DataW H)) (i:List MemPlace),K5 enc prog W 0 (λ_=>true) true b g a i->a.length=b.length:=by
   intro b
   induction b with
   |nil=>intro g a i h;obtain⟨rfl,rfl,rfl⟩:=trodAll_nil h;rfl
   |cons d b x=>
    intro g a i h;obtain⟨F,G,L,M,e,v,rfl,rfl,rfl,S,y⟩:=trodAll_cons h;simp[x _ _ _ y]
  simpa using h _ _ _ _ o
 have j:=u a w;refine⟨a,[],e++[],[],e,[],n,?_,?_,?_,m.frame _,λh=>by cases h⟩
 .rw[j,r];exact trodAll_mk1 (shut_bool underlying4 true)
 .rw[j];refine Vz m _ _ _ _ t o (λz A=>?_);have:=n.lt z (by simpa using A);simpa using this
 .rw[j,k];rfl
end
theorem Y7:(prog.globals[31]?).map (·.type)=E 486:=by kernel_rfl
theorem Y9:prog.cellsOf 565=1:=by kernel_rfl
theorem Dr:prog.cellsOf 9=1:=by kernel_rfl
theorem Za:prog.cellsOf 441=1:=by kernel_rfl
theorem Zzb:prog.cellsOf 486=20:=by kernel_rfl
theorem Afg: "*"++ "errors.errorString"= "*errors.errorString":=by decide
theorem AdD(u:Ab)(h:prog.typeName? 3 u=E "*errors.errorString"):u=563:=
 typeName_ptr_named (nm:= "errors.errorString") (by rw[Afg];kernel_rfl) (by kernel_rfl) (by decide) u (by rw[Afg];exact h)
theorem AY{W:U}{n:String}{d:List UInt8}(h:laidMetH prog [(n,.iface "*errors.errorString" (.ptr (.agg [.lit (.string d)])))] W)(b:prog.globalNamed n=g)(e:(prog.globals[g]?).map (·.type)=E 32):
 ∃a,W.cell? g=E (.iface 563 (Q (E a))):=by
 rw[HG _ _ _ (by rfl)] at h;obtain⟨a,s,i,_⟩:=laid_sentinel h b e underlying32 AdD underlying563 underlying565 rfl rfl underlying9 Y9 Dr;exact⟨a,by simpa using UB b i 0⟩
theorem Mm{H:Type}{enc:Ab×N->H}{P:Program}{w:U}{base:Nat}{l:Nat->Bool}{m:Bool}{fuel:Nat}{t e:Ab}{cs:List N}{d:List (List UInt8)}{p:List MemPlace}
 (o:P.underlying t=E (.array n e)) (q:P.underlying e=E .string) (r:P.cellsOf e=1) (u:P.cellsOf t=n)
 (h:H9 enc P w base l m fuel t cs=E (.agg (d.map λa=>.lit (.string a)),p)):cs=d.map λa=>Value.string ⟨a.toArray⟩:=by
 cases fuel with
 |zero=>simp[H9] at h
 |succ fuel=>
  simp only[H9,o,r,u,J1] at h
  split at h
  .rename_i F;obtain⟨g,j,v⟩:=Eo.1 h
   have k:g.map (·.1)=d.map λa=>(UC (.string a):DataW H):=by
    have:=congrArg Prod.fst v;simpa using this
   have G:g.length=n:=by simpa using Lib.mapM_length j
   have L:d.length=n:=by
    have:=congrArg List.length k;simp at this;omega
   apply List.ext_getElem?;intro b;by_cases x:b<n
   .obtain⟨M,y,z⟩:=Lib.mapM_at j b b (by simp[x]);obtain⟨a,A,rfl,_⟩:=DataW.trod_string q z
    have B:cs[b]?=E (.string a):=by
     have:=congrArg (·[0]?) A;simpa[List.getElem?_take,List.getElem?_drop] using this
    have i:(g.map (·.1))[b]?=E (UC (.string a.data.toList):DataW H):=by simp[y]
    rw[k] at i;simp only[List.getElem?_map,Eo,DataW.lit.injEq,Lit.string.injEq] at i;obtain⟨S,D,rfl⟩:=i;simp[B,D]
   .rw[EP (by omega),EP (by simp;omega)]
  .cases h
theorem Gb{P:Program}{W:U}{a:String}{b:List (List UInt8)}{t e:Ab}
 (d:P.globalNamed a=g) (i:(P.globals[g]?).map (·.type)=t) (k:P.underlying t=E (.array n e)) (l:P.underlying e=E .string) (m:P.cellsOf e=1) (o:P.cellsOf t=n)
 (h:laidMet P [(a,.agg (b.map λp=>.lit (.string p)))] W) (j:Nat) (x:List UInt8) (q:b[j]?=x):W.cell? ⟨g,j,O⟩=E (.string ⟨x.toArray⟩):=by
 obtain⟨A,⟨B,D,F,G,L,M,r,u,v,w,_,_⟩,_⟩:=h;obtain rfl:=Option.some.inj<|d.symm.trans r;obtain rfl:=Option.some.inj<|i.symm.trans u;have y:=Mm k l m o w;have z:=UB d v j;rw[z,<-Array.getElem?_toList,y];simp[q]
theorem Afh:prog.globalNamed "umpire/prog.acts"=E 30:=by kernel_rfl
theorem VA:(prog.globals[30]?).map (·.type)=E 332:=by kernel_rfl
theorem Lb:prog.cellsOf 332=4:=by kernel_rfl
theorem Zzc:prog.globalNamed "umpire/event.objects"=E 17:=by kernel_rfl
theorem Zd:(prog.globals[17]?).map (·.type)=E 332:=by kernel_rfl
theorem Abc:prog.globalNamed "umpire/event.events"=E 18:=by kernel_rfl
theorem Abd:(prog.globals[18]?).map (·.type)=E 333:=by kernel_rfl
theorem Agx:prog.globalNamed "umpire/event.ops"=E 19:=by kernel_rfl
theorem Agy:(prog.globals[19]?).map (·.type)=E 334:=by kernel_rfl
theorem Ze:prog.globalNamed "umpire/event.answers"=E 20:=by kernel_rfl
theorem Zf:(prog.globals[20]?).map (·.type)=E 335:=by kernel_rfl
theorem Abe:prog.globalNamed "umpire/event.states"=E 21:=by kernel_rfl
theorem Abf:(prog.globals[21]?).map (·.type)=E 332:=by kernel_rfl
theorem Abg:prog.globalNamed "umpire/event.levels"=E 22:=by kernel_rfl
theorem Abh:(prog.globals[22]?).map (·.type)=E 332:=by kernel_rfl
theorem Abi:prog.cellsOf 335=3:=by kernel_rfl
theorem Abj:prog.cellsOf 333=7:=by kernel_rfl
theorem Abk:prog.cellsOf 334=9:=by kernel_rfl
theorem AaF{W:U}(h:laidMetH prog LQ.laid W){n:String}{d:DataW Unit}(i:LQ.laid.filter (λa=>a.1==n)=[(n,d)])(j:∃b:List UInt8,d=.iface "*errors.errorString" (.ptr (.agg [.lit (.string b)])))(k:prog.globalNamed n=g)(l:(prog.globals[g]?).map (·.type)=E 32):
 ∃m,W.cell? g=E (.iface 563 (Q (E m))):=by
 obtain⟨b,rfl⟩:=j;have e:=h.filter (λa=>a.1==n);rw[i] at e;exact AY e k l
theorem MZ{W:U}(h:laidMetH prog LQ.laid W):Lib.TabIs prog W "internal/strconv.uint64pow10" .u64 G4:=by
 have b:=h.filter (λa=>a.1== "internal/strconv.uint64pow10");rw[show LQ.laid.filter (λa=>a.1== "internal/strconv.uint64pow10")=[("internal/strconv.uint64pow10",Lib.tabData .u64 G4)] from by kernel_rfl,HG _ _ _ (by kernel_rfl)] at b;exact Lib.tabIs_of_head AdQ Y7 underlying486 underlying441 Za Zzb b
theorem VB{W:U}(h:laidMetH prog LQ.laid W):AE W:=by
 refine⟨MZ h,λl j=>?_,λk i a b=>?_⟩
 .simp only[Es,Ez,B2,List.not_mem_nil,or_false] at j;rcases j with rfl|rfl|rfl|rfl|rfl|rfl|rfl|rfl|rfl|rfl|rfl|rfl|rfl|rfl|rfl|rfl|rfl|rfl|rfl|rfl|rfl
  .exact AaF h (n:= "umpire/api.ErrCode") (d:=Rows.laid_umpire_api_ErrCode) (by kernel_rfl) ⟨_,rfl⟩ (by kernel_rfl) (by kernel_rfl)
  .exact AaF h (n:= "umpire/api.ErrEvent") (d:=Rows.laid_umpire_api_ErrEvent) (by kernel_rfl) ⟨_,rfl⟩ (by kernel_rfl) (by kernel_rfl)
  .exact AaF h (n:= "umpire/api.ErrWord") (d:=Rows.laid_umpire_api_ErrWord) (by kernel_rfl) ⟨_,rfl⟩ (by kernel_rfl) (by kernel_rfl)
  .exact AaF h (n:= "umpire/api.ErrWords") (d:=Rows.laid_umpire_api_ErrWords) (by kernel_rfl) ⟨_,rfl⟩ (by kernel_rfl) (by kernel_rfl)
  .exact AaF h (n:= "umpire/api.ErrObject") (d:=Rows.laid_umpire_api_ErrObject) (by kernel_rfl) ⟨_,rfl⟩ (by kernel_rfl) (by kernel_rfl)
  .exact AaF h (n:= "umpire/api.ErrMany") (d:=Rows.laid_umpire_api_ErrMany) (by kernel_rfl) ⟨_,rfl⟩ (by kernel_rfl) (by kernel_rfl)
  .exact AaF h (n:= "umpire/api.ErrOp") (d:=Rows.laid_umpire_api_ErrOp) (by kernel_rfl) ⟨_,rfl⟩ (by kernel_rfl) (by kernel_rfl)
  .exact AaF h (n:= "umpire/api.ErrTwice") (d:=Rows.laid_umpire_api_ErrTwice) (by kernel_rfl) ⟨_,rfl⟩ (by kernel_rfl) (by kernel_rfl)
  .exact AaF h (n:= "umpire/api.ErrThread") (d:=Rows.laid_umpire_api_ErrThread) (by kernel_rfl) ⟨_,rfl⟩ (by kernel_rfl) (by kernel_rfl)
  .exact AaF h (n:= "umpire/api.ErrTx") (d:=Rows.laid_umpire_api_ErrTx) (by kernel_rfl) ⟨_,rfl⟩ (by kernel_rfl) (by kernel_rfl)
  .exact AaF h (n:= "umpire/api.ErrOrder") (d:=Rows.laid_umpire_api_ErrOrder) (by kernel_rfl) ⟨_,rfl⟩ (by kernel_rfl) (by kernel_rfl)
  .exact AaF h (n:= "umpire/api.ErrAnswer") (d:=Rows.laid_umpire_api_ErrAnswer) (by kernel_rfl) ⟨_,rfl⟩ (by kernel_rfl) (by kernel_rfl)
  .exact AaF h (n:= "umpire/api.ErrLevel") (d:=Rows.laid_umpire_api_ErrLevel) (by kernel_rfl) ⟨_,rfl⟩ (by kernel_rfl) (by kernel_rfl)
  .exact AaF h (n:= "umpire/api.ErrIndex") (d:=Rows.laid_umpire_api_ErrIndex) (by kernel_rfl) ⟨_,rfl⟩ (by kernel_rfl) (by kernel_rfl)
  .exact AaF h (n:= "umpire/api.ErrTooMany") (d:=Rows.laid_umpire_api_ErrTooMany) (by kernel_rfl) ⟨_,rfl⟩ (by kernel_rfl) (by kernel_rfl)
  .exact AaF h (n:= "umpire/api.ErrBudget") (d:=Rows.laid_umpire_api_ErrBudget) (by kernel_rfl) ⟨_,rfl⟩ (by kernel_rfl) (by kernel_rfl)
  .exact AaF h (n:= "umpire/api.ErrCert") (d:=Rows.laid_umpire_api_ErrCert) (by kernel_rfl) ⟨_,rfl⟩ (by kernel_rfl) (by kernel_rfl)
  .exact AaF h (n:= "umpire/api.ErrEnd") (d:=Rows.laid_umpire_api_ErrEnd) (by kernel_rfl) ⟨_,rfl⟩ (by kernel_rfl) (by kernel_rfl)
  .exact AaF h (n:= "umpire/api.ErrHolds") (d:=Rows.laid_umpire_api_ErrHolds) (by kernel_rfl) ⟨_,rfl⟩ (by kernel_rfl) (by kernel_rfl)
  .exact AaF h (n:= "umpire/api.ErrPremise") (d:=Rows.laid_umpire_api_ErrPremise) (by kernel_rfl) ⟨_,rfl⟩ (by kernel_rfl) (by kernel_rfl)
  .exact AaF h (n:= "umpire/api.ErrStop") (d:=Rows.laid_umpire_api_ErrStop) (by kernel_rfl) ⟨_,rfl⟩ (by kernel_rfl) (by kernel_rfl)
 .match k,b with
  |1,b=>
   have e:=h.filter (λa=>a.1== "umpire/event.objects");rw[show LQ.laid.filter (λa=>a.1== "umpire/event.objects")=[("umpire/event.objects",(HX ((tabs 1).map λg=>.lit (.string g)):DataW Unit))] from by kernel_rfl,HG _ _ _ (by kernel_rfl)] at e;exact Gb Zzc Zd underlying332 underlying9 Dr Lb e i a b
  |2,b=>
   have e:=h.filter (λa=>a.1== "umpire/event.events");rw[show LQ.laid.filter (λa=>a.1== "umpire/event.events")=[("umpire/event.events",(HX ((tabs 2).map λg=>.lit (.string g)):DataW Unit))] from by kernel_rfl,HG _ _ _ (by kernel_rfl)] at e;exact Gb Abc Abd underlying333 underlying9 Dr Abj e i a b
  |3,b=>
   have e:=h.filter (λa=>a.1== "umpire/event.ops");rw[show LQ.laid.filter (λa=>a.1== "umpire/event.ops")=[("umpire/event.ops",(HX ((tabs 3).map λg=>.lit (.string g)):DataW Unit))] from by kernel_rfl,HG _ _ _ (by kernel_rfl)] at e;exact Gb Agx Agy underlying334 underlying9 Dr Abk e i a b
  |4,b=>
   have e:=h.filter (λa=>a.1== "umpire/event.answers");rw[show LQ.laid.filter (λa=>a.1== "umpire/event.answers")=[("umpire/event.answers",(HX ((tabs 4).map λg=>.lit (.string g)):DataW Unit))] from by kernel_rfl,HG _ _ _ (by kernel_rfl)] at e;exact Gb Ze Zf underlying335 underlying9 Dr Abi e i a b
  |5,b=>
   have e:=h.filter (λa=>a.1== "umpire/event.states");rw[show LQ.laid.filter (λa=>a.1== "umpire/event.states")=[("umpire/event.states",(HX ((tabs 5).map λg=>.lit (.string g)):DataW Unit))] from by kernel_rfl,HG _ _ _ (by kernel_rfl)] at e;exact Gb Abe Abf underlying332 underlying9 Dr Lb e i a b
  |6,b=>
   have e:=h.filter (λa=>a.1== "umpire/event.levels");rw[show LQ.laid.filter (λa=>a.1== "umpire/event.levels")=[("umpire/event.levels",(HX ((tabs 6).map λg=>.lit (.string g)):DataW Unit))] from by kernel_rfl,HG _ _ _ (by kernel_rfl)] at e;exact Gb Abg Abh underlying332 underlying9 Dr Lb e i a b
  |0,b=>exact absurd b (by simp[tabs])
  |k+7,b=>exact absurd b (by simp[tabs])
theorem VC{W:U}(h:laidMetH prog LQ.laid W):Qs W:=by
 refine⟨λb a=>?_,MZ h⟩;simp only[Es,Ez,B2,List.not_mem_nil,or_false] at a;rcases a with rfl|rfl|rfl|rfl|rfl
 .exact AaF h (n:= "umpire/api.ErrLong") (d:=Rows.laid_umpire_api_ErrLong) (by kernel_rfl) ⟨_,rfl⟩ (by kernel_rfl) (by kernel_rfl)
 .exact AaF h (n:= "umpire/api.ErrEnd") (d:=Rows.laid_umpire_api_ErrEnd) (by kernel_rfl) ⟨_,rfl⟩ (by kernel_rfl) (by kernel_rfl)
 .exact AaF h (n:= "umpire/api.ErrNumber") (d:=Rows.laid_umpire_api_ErrNumber) (by kernel_rfl) ⟨_,rfl⟩ (by kernel_rfl) (by kernel_rfl)
 .exact AaF h (n:= "strconv.ErrSyntax") (d:=Rows.laid_strconv_ErrSyntax) (by kernel_rfl) ⟨_,rfl⟩ (by kernel_rfl) (by kernel_rfl)
 .exact AaF h (n:= "strconv.ErrRange") (d:=Rows.laid_strconv_ErrRange) (by kernel_rfl) ⟨_,rfl⟩ (by kernel_rfl) (by kernel_rfl)
theorem VD{w:U}(h:laidMetH prog LQ.laid w):Gi w:=by
 refine⟨VC h,λk b=>?_,λg a i=>?_⟩
 .simp only[Es,Ez,B2,List.not_mem_nil,or_false] at b;rcases b with rfl|rfl|rfl
  .exact AaF h (n:= "umpire/api.ErrProg") (d:=Rows.laid_umpire_api_ErrProg) (by kernel_rfl) ⟨_,rfl⟩ (by kernel_rfl) (by kernel_rfl)
  .exact AaF h (n:= "umpire/api.ErrWord") (d:=Rows.laid_umpire_api_ErrWord) (by kernel_rfl) ⟨_,rfl⟩ (by kernel_rfl) (by kernel_rfl)
  .exact AaF h (n:= "umpire/api.ErrWords") (d:=Rows.laid_umpire_api_ErrWords) (by kernel_rfl) ⟨_,rfl⟩ (by kernel_rfl) (by kernel_rfl)
 .have e:=h.filter (λa=>a.1== "umpire/prog.acts");rw[show LQ.laid.filter (λa=>a.1== "umpire/prog.acts")=[("umpire/prog.acts",(HX (VR.map λj=>.lit (.string j)):DataW Unit))] from by kernel_rfl,HG _ _ _ (by kernel_rfl)] at e;exact Gb Afh VA underlying332 underlying9 Dr Lb e g a i
end
namespace rowWholeBudget
open Go.ChangeShapes Go.WideShapes Go.ChangeAt
open Go.ChangeMaps (open_string shut_string)
theorem Zh(H:Type)(enc:Ab×Value→H)(W:World)(base:Nat)(args:Array Value)(b gs:List (DataW H))(o:List MemPlace)
 (a:∀(d:Nat) t v,Tryz.f3.params[d]?=some t→args[d]?=some v→Uz prog W .any base t v)
 (e:UA enc prog Tryz.f3.params.toList Rows.wholeBudgetSpec.vars false W args.toList b gs o) (g:laidMetH prog LQ.laid W):
 Calls prog 3 args W fun i j=>∃v,i=.returned v∧Rows.wholeBudgetSpec.post enc prog Tryz.f3 false true false false W args v j:=by
 have p:=e
 obtain⟨q,X,r,Y,rfl,Z,aa⟩:=e
 have k:K5 enc prog W 0 (fun _=>true) true Tryz.f3.params.toList args.toList b q:=r
 rw [params3] at k a
 obtain⟨l,ab,u,ac,ad,ae,af,rfl,rfl,w,x⟩:=trodAll_cons k
 obtain⟨m,ag,y,ah,ai,aj,rfl,rfl,rfl,z,A⟩:=trodAll_cons x
 obtain⟨rfl,rfl,rfl⟩:=trodAll_nil A
 obtain rfl:args= #[l,m]:=by cases args;simp_all
 obtain⟨ak,al,am,n,rfl,B,D,F,G⟩:=Vy (a 0 25 l rfl rfl) w
 obtain⟨an,rfl,rfl,rfl,ao⟩:=open_int underlying3 (a 1 3 m rfl rfl) z
 refine(Vx B D F G (VB g) (VD g)).mono fun i j ⟨L,M⟩=> ?_
 subst L
 exact⟨_,rfl,YZ rfl rfl (by kernel_rfl) p (fun n S=>by
  match n,S with
  |[u,y],_=>rfl) M⟩
theorem Abl(os:Os){H:Type}(enc:Ab×Value→H):(Iy Rows.wholeBudgetSpec).preRow enc prog Tryz.f3 Rows.wholeBudgetRow.domain false Rows.wholeBudgetRow.laid ((LQ.world os).forCall (fun _ _=>0) ⟨#[], #[.agg #[.slice none 0 0,.slice none 0 0],.int .i64 0],[]⟩).memory #[.agg #[.slice none 0 0,.slice none 0 0],.int .i64 0]:=by
 have a:DataW.whole enc prog ((LQ.world os).forCall (fun _ _=>0) ⟨#[], #[.agg #[.slice none 0 0,.slice none 0 0],.int .i64 0],[]⟩).memory Tryz.f3.params.toList Rows.wholeBudgetSpec.vars false (#[.agg #[.slice none 0 0,.slice none 0 0],.int .i64 0]:Array Value).toList 8=some ([.agg [.nil,.nil],.lit (.int .i64 0)],[],[]):=by kernel_rfl
 exact V7 8 a (by kernel_rfl) (fun d b=>by cases b) (by kernel_rfl) (LQ.met os _)
theorem lifted(os:Os)(a:os.Started)(H:Type)(enc:Ab×Value→H)(b:Stop.Interp):
 ReturnsInHanded {} Tryz.checked os 3 .any ((Iy Rows.wholeBudgetSpec).preRow enc prog Tryz.f3 Rows.wholeBudgetRow.domain false Rows.wholeBudgetRow.laid) (((Iy Rows.wholeBudgetSpec).at b).post enc prog Tryz.f3 false true false false):=by
 refine returnsInHanded_of_row (C:=Tryz.checked) (s:=Iy Rows.wholeBudgetSpec) own a (by kernel_rfl) func3
  (witness_row_atRef (enc:=enc) (C:=Tryz.checked) false (LQ.world os) #[.agg #[.slice none 0 0,.slice none 0 0],.int .i64 0] rfl (by kernel_rfl) (by kernel_rfl) (by kernel_rfl) (Abl os enc)) ?_
 intro d base e g gs i j k _ _ _ l _ _
 exact Zh H enc d base e g gs i j k l
theorem AgB:Rows.WholeBudgetSaid:=
 V8 3 Tryz.f3 rfl rfl rfl rfl rfl rfl rfl ⟨rfl,rfl,rfl,rfl,rfl⟩ rfl rfl rfl rfl rfl (by kernel_rfl) func3 AdE
  (of_decide_eq_true (by kernel_rfl)) (by unfold Func.isWrapper;rw [if_neg (of_decide_eq_false (by kernel_rfl))];exact⟨rfl,rfl⟩)
  (fun a b H d _ e=>by rw[Wa];exact lifted a b H d e)
theorem plain(f:FuncId)(fn:Func)(e:Tryz.pinned.checked.prog.funcNamed "umpire/umpiretop.WholeBudget"=some f)(g:Tryz.pinned.checked.prog.funcs[f]?=some fn):
 true=Tryz.pinned.checked.prog.looks []∧∀(b:Nat) a,fn.params[b]?=some a→Tryz.pinned.checked.prog.wantsStandIn a=false:=by
 obtain rfl:f=3:=Option.some.inj ((show prog.funcNamed "umpire/umpiretop.WholeBudget"=some 3 by kernel_rfl).symm.trans e)|>.symm
 obtain rfl:fn=Tryz.f3:=(Option.some.inj (func3.symm.trans g)).symm
 refine⟨by kernel_rfl,fun b a d=> ?_⟩
 rw [params3] at d
 have i:=Array.mem_of_getElem? d
 have h:((#[25,3]:Array Ab).toList.all fun a=> !prog.wantsStandIn a)=true:=by kernel_rfl
 have:=HA.1 h a (Array.mem_toList_iff.2 i)
 have j:prog.wantsStandIn a=false:=by simpa using this
 exact j
theorem card:Rows.WholeBudgetCardSaid:=
 Claim7.holds_tied_plain_at .later [] _ _ _ _ AgB (fun _ h=>by cases h) (by kernel_rfl) (fun _ h=>by cases h) Hs rfl ⟨rfl,rfl⟩ (by kernel_rfl) rfl plain Afi
#print axioms card
end rowWholeBudget
end Go.Proofs.YtpoacbcnhpbdmaaGreatDoor
