/-
  A part of the proof: WkOf and what follows.
-/
import Derived.Test.YtpoacbcnhpbdmaaGreatDoorZD
import Derived.Test.YtpoacbcnhpbdmaaGreatDoorZE
import Derived.ChangeAlike
import Derived.StillTailTactics
import Derived.BigRegion
import Derived.ArgAppend
set_option linter.all false
set_option maxRecDepth 100000
set_option maxHeartbeats 32000000
open Go.Act renaming put→A6
open Go.Addr renaming add_lit→EF
open Go.AllReadyH renaming cons→EX,nil→Fa
open Go.Proofs.AnyZI renaming keys_gives→J5,keys_in→J4,sorted_in→KX
open Go.RowKit.Below renaming heap_setCell→B3,refl→Ae
open Go.Builtin renaming len_→Uf
open Go.Calls renaming quiet_of→Ug
open Decidable renaming byContradiction→I0
open Go.Fence renaming wide→Ed
open Go.Instr renaming lookup→B1,makeSlice→Fw
open Int renaming toNat_natCast→D6
open Go.IntKind renaming bits→Jx,signed→Jf,wrap→Uc
open Go.Lib renaming itoa→Ei
open List renaming getElem?_eq_getElem→An,getElem?_eq_some_iff→Am,getElem?_set_ne→Et,getElem?_set_self→El,map_set→IA,mem_append→Eh,mem_cons→B2,mem_of_getElem?→Ap,mergeSort_of_pairwise→K1,replicate→HS,setIfInBounds_toArray→A7,set_cons_succ→A3,set_cons_zero→A4,set_set→Oq
open Go.Maps renaming size→H4
open Nat renaming add_zero→EV,le_refl→Aa,le_succ→Ax,le_trans→A8,lt_of_lt_of_le→ED,zero_add→Ej,zero_le→A9
open Ne renaming symm→Eu
open Go.Op renaming equal→EL,maxDepth→EM
open Option renaming map_eq_some_iff→Eo,mem_toList→F0
open Go renaming TypeId→Ab,binOp→Ec,bodyPost_ret→Ao,callsIn_wide→Dh,cell_one_new→En,info_parts→A1,madeCells→A2,maxLen→Al,results→As,rounds_succ→Aq,size_madeCells→Gz,undef→Ac,wpAnyH_ready→E9,wpAnyH_take→Ds
open Go.Value renaming int→A0,oneCell'→B4,slice→Ar
open Go.World renaming block_lt_of_cell?→Ad,new_ne→G1,setCell→Gh,setCell_alloc_past→Ue,size_alloc→Eb
open Go.World.ownsRow renaming stored→I8
open Go.Proofs renaming enters_of→Eg
open Go.Value renaming int→I,slice→C,pointer→Q,bool→T
open Go.IntKind renaming i64→J
open Go.Obj renaming cells→K
open Go.Obj renaming cells→H
open Go.Ending renaming returned→R
open Option renaming none→O,some→E
open Go renaming World→U,Value→N
namespace Go.Proofs.YtpoacbcnhpbdmaaGreatDoor
open Go.RowKit Go.Maps Go.Proofs.Tryz W
variable {w W X Y Z:World}{n k g c m i j b a:Nat}{v u z y:Value}{x t:Int}{p:TypeId}{q:List Value}{r:Array Value}{A:Option Addr}
attribute [local go_sem↓] Go.wp_at_zero Go.wp_at_succ
theorem Dw{B:Nat}{W:U}{d:Wd}{v u ve:N}(h:Wk B m W d v u (C g n c) ve)(b:BL d){t:Th}{l:List (List Bb)}(j:d.live k=E (t,l)):
 Calls prog 338 #[m,(k:Int)] W λr w=>r=R (.tuple #[Q (E ⟨g,k*6,O⟩),true])/\∃x,w=W.drewN x:=by
 let⟨_,e,i,o⟩:=BE j;simp only[D6] at e i;let⟨M,S,y,_,X,z,Y,p,A⟩:=h.thAt e;injection y with a D F;injection a with a;injection a with a;subst a D F;obtain⟨Z,aa,ab,rfl,ac,G,q⟩:=h.txsAt i;obtain⟨Au,ad,rfl⟩:=q.shape;have ae:=h.box.cell 1;have af:=h.box.cell 2;have ag:=h.box.lt;have ah:W.cell? ⟨g,k*6,O⟩=t.tx:=p 0 (by omega);have ai:=Ad W _ G;have L:=b.len;have aj:=(AM b.ok).2.2.2.1;have ak:decide ((k:Int)<0)=false:=by simp
 have al:decide (d.ts.length<=k)=false:=by simpa using z
 have am:(t.tx==(l.length:Int))=false:=by simpa using o
 have an:(0:Int)<=(k:Int):=by omega
 have ao:(k:Int)<(d.ts.length:Int):=by omega
 have ap:(k:Int)<(d.p.threads.length:Int):=by omega
 have aq:k<=4:=by omega
 clear h b j e i o p A q L;go_in;go_wp2;go_quiet (fail)
 all_goals (go_wp2;go_ret2;exact⟨rfl,_,rfl⟩)
theorem TY{d:Wd}{i:Int}(h:d.live i=O)(m:BL d):i<0∨∃a:Nat,i=(a:Int)/\(d.ts.length<=a∨∃e g,d.ts[a]?=E e/\d.p.threads[a]?=E g/\e.tx=g.length):=by
 by_cases j:i<0
 .exact .inl j
 .refine .inr ⟨i.toNat,by omega,?_⟩;unfold Wd.live at h;rw[if_neg j] at h;by_cases b:i.toNat<d.ts.length
  .have k:i.toNat<d.p.threads.length:=by rw[<-m.len];exact b
   rw[An b,An k] at h;simp only at h;by_cases l:(d.ts[i.toNat]).tx=(d.p.threads[i.toNat]).length
   .exact .inr ⟨_,_,An b,An k,l⟩
   .rw[if_neg l] at h;cases h
  .exact .inl (by omega)
theorem NF{B:Nat}{W:U}{d:Wd}{v u ve:N}(h:Wk B k W d v u (C g n c) ve)(e:BL d){i:Int}(j:d.live i=O):
 Calls prog 338 #[k,i] W λA D=>A=R (.tuple #[Q O,false])/\∃F,D=W.drewN F:=by
 have Z:=h.box.cell 2;have aa:=h.box.lt;rcases TY j e with q|⟨a,rfl,l|⟨r,G,t,w,m⟩⟩
 .have x:decide (i<0)=true:=by simpa using q
  go_in;go_wp2;go_quiet (fail)
  all_goals (go_wp2;go_ret2;exact⟨rfl,_,rfl⟩)
 .let⟨ab,ac,m⟩:=Ag h.th;injection m with b o p;subst o;have x:decide ((a:Int)<0)=false:=by simp
  have L:decide (d.ts.length<=a)=true:=by simpa using l
  go_in;go_wp2;go_quiet (fail)
  all_goals (go_wp2;go_ret2;exact⟨rfl,_,rfl⟩)
 .let⟨ad,ae,M,_,af,l,ag,y,S⟩:=h.thAt t;injection M with b o p;injection b with b;injection b with b;subst b o p;obtain⟨ah,ai,aj,rfl,ak,X,z⟩:=h.txsAt w;obtain⟨Au,al,rfl⟩:=z.shape;have am:=h.box.cell 1;have an:W.cell? ⟨g,a*6,O⟩=r.tx:=y 0 (by omega);have ao:=Ad W _ X;have Y:=e.len;have ap:=(AM e.ok).2.2.2.1;have x:decide ((a:Int)<0)=false:=by simp
  have L:decide (d.ts.length<=a)=false:=by simpa using l
  have aq:(r.tx==(G.length:Int))=true:=by simpa using m
  have ar:(0:Int)<=(a:Int):=by omega
  have au:(a:Int)<(d.ts.length:Int):=by omega
  have av:(a:Int)<(d.p.threads.length:Int):=by omega
  have aw:a<=4:=by omega
  clear h e j t w m y S z Y;go_in;go_wp2;go_quiet (fail)
  all_goals (go_wp2;go_ret2;exact⟨rfl,_,rfl⟩)
def Wd.txOf(d:Wd)(i:Int):Int×Bool:=match d.live i with
 |none=>(0,false)
 |some (a,_)=>if a.begun=true then(CC i a.tx,true) else(0,false)
def Wd.doneOf(d:Wd)(i:Int):Bool:=(d.live i).isNone
theorem GP{B:Nat}{W:U}{d:Wd}{v u ve:N}(h:Wk B k W d v u (C g n c) ve)(b:BL d)(i:Int):
 Calls prog 438 #[k,i] W λe o=>e=R (d.doneOf i)/\∃j,o=W.drewN j:=by
 unfold Wd.doneOf
 cases a:d.live i with
 |none=>
  have l:=Af<|NF h b a;go_in;go_wp2_with fail;refine l.o.mono ?_;rintro e p ⟨rfl,j,rfl⟩;go_wp2;go_ret;exact⟨rfl,_,rfl⟩
 |some q=>
  obtain⟨t,w⟩:=q;let⟨r,_⟩:=BE a;obtain⟨m,rfl⟩:∃m:Nat,i=(m:Int):=⟨i.toNat,by omega⟩;have l:=Af<|Dw h b a;go_in;go_wp2_with fail;refine l.o.mono ?_;rintro e p ⟨rfl,j,rfl⟩;go_wp2;go_ret;exact⟨rfl,_,rfl⟩
theorem Age{B:Nat}{W:U}{d:Wd}{v u ve:N}(h:Wk B k W d v u (C g n c) ve)(o:BL d)(i:Int):
 Calls prog 284 #[k,i] W λj y=>j=R (.tuple #[I J (d.txOf i).1,T (d.txOf i).2])/\∃p,y=W.drewN p:=by
 cases a:d.live i with
 |none=>
  rw[show d.txOf i=(0,false) by unfold Wd.txOf;rw[a]];have q:=Af<|NF h o a;clear h o a;go_in;go_wp2_with fail;refine q.o.mono ?_;rintro j r ⟨rfl,p,rfl⟩;go_wp2;go_ret2;exact⟨rfl,_,rfl⟩
 |some z=>
  obtain⟨l,Z⟩:=z;let⟨A,t,D,F⟩:=BE a;obtain⟨b,rfl⟩:∃b:Nat,i=(b:Int):=⟨i.toNat,by omega⟩;simp only[D6] at t;let⟨aa,ab,G,_,ac,ad,ae,w,L⟩:=h.thAt t;injection G with m M S;injection m with m;injection m with m;subst m M S;have q:=Af<|Dw h o a;have af:W.cell? ⟨g,b*6,O⟩=l.tx:=w 0 (by omega);have x:W.cell? ⟨g,b*6+2,O⟩=l.begun:=w 2 (by omega);clear h o A t D F w L
  cases e:l.begun with
  |false=>
   rw[show d.txOf (b:Int)=(0,false) by unfold Wd.txOf;rw[a];simp[e]];rw[e] at x;go_in;go_wp2_with fail;refine q.o.mono ?_;rintro j r ⟨rfl,p,rfl⟩;go_wp2;go_ret2;exact⟨rfl,_,rfl⟩
  |true=>
   rw[show d.txOf (b:Int)=(CC (b:Int) l.tx,true) by unfold Wd.txOf;rw[a];simp[e]];rw[e] at x;have X:=Af (λY=>VT (b:Int) l.tx Y);go_in;go_wp2_with fail;refine q.o.mono ?_;rintro j r ⟨rfl,p,rfl⟩;go_wp2_with fail;refine(X.o _).mono ?_;rintro j r ⟨rfl,rfl⟩;go_wp2;go_ret2;exact⟨rfl,_,rfl⟩
inductive Ct where
 |idle
 |ans (e:Ev)
 |lk
 |tk
 |look (now:Int)
 |wr (now:Int)
 |cm
structure Wr where
 time:Int
 on:Bool
 rd:Bool
 wr:Option Int
structure Cs where
 wd:Wd
 cv:Int
 cn:Int
 co:Int
 ws:List Wr
 clock:Int
 nx:List Ct
def Cs.react(s:Cs)(k:Nat)(e:Ev):Option (Cs×Ct):=
 if e.kind=1 then E ({s with ws:=s.ws.set k ⟨s.clock,true,false,O⟩},.idle)
 else if e.kind=4 then(match s.ws[k]? with
  |some ⟨_,true,_,E _⟩=>E (s,.lk)
  |_=>O)
 else if e.kind=2/\e.obj=0 then E (s,.ans e) else O
def Cs.goOn(s:Cs)(k:Nat):Option (Cs×Ct):=match s.wd.next k with
 |((a,true),b)=>Cs.react {s with wd:=b} k a
 |_=>O
def Cs.answer(s:Cs)(k:Nat)(e:Ev):Option (Cs×Ct):=match s.ws[k]? with
 |some ⟨a,true,d,b⟩=>
  if e.obj≠0 then O
  else if e.op=2 then(if b.isSome=true then O else E ({s with ws:=s.ws.set k ⟨a,true,d,E e.val⟩,wd:=(s.wd.answer k 0 false).2},.idle))
  else if b.isSome=true∨d=true∨s.co≠0∨a<s.cn∨¬(0<=s.cv/\s.cv<=1000) then O
  else E ({s with ws:=s.ws.set k ⟨a,true,true,b⟩,wd:=(s.wd.answer k s.cv false).2},.idle)
 |_=>O
def Cs.lock(s:Cs)(k:Nat):Option (Cs×Ct):=
 if s.co=0 then E ({s with co:=(s.wd.txOf k).1},.tk)
 else if s.co=(s.wd.txOf k).1 then O
 else E ({s with wd:=(s.wd.answer k 0 true).2},.idle)
def Cs.tick(s:Cs)(k:Nat):Option (Cs×Ct):=match s.ws[k]? with
 |some ⟨_,true,true,_⟩=>if 0<=s.clock/\s.clock<1000 then E ({s with clock:=s.clock+1},.look (s.clock+1)) else O
 |_=>O
def Cs.look(s:Cs)(k:Nat)(a:Int):Option (Cs×Ct):=match s.ws[k]? with
 |some ⟨b,true,_,E _⟩=>if s.co≠0/\s.co=(s.wd.txOf k).1/\¬b<s.cn then E (s,.wr a) else O
 |_=>O
def Cs.write(s:Cs)(k:Nat)(a:Int):Option (Cs×Ct):=match s.ws[k]? with
 |some ⟨_,true,_,E b⟩=>E ({s with cv:=b,cn:=a,co:=0},.cm)
 |_=>O
def Cs.commit(s:Cs)(k:Nat):Option (Cs×Ct):=E ({s with wd:=(s.wd.answer k 0 false).2},.idle)
def Cs.run(s:Cs)(k:Nat):Ct->Option (Cs×Ct)
 |.idle=>s.goOn k
 |.ans b=>s.answer k b
 |.lk=>s.lock k
 |.tk=>s.tick k
 |.look a=>s.look k a
 |.wr a=>s.write k a
 |.cm=>s.commit k
def Cs.step(s:Cs)(k:Nat):Option Cs:=
 if 900<s.wd.es.length then O else if s.wd.doneOf k=true then E s else(s.nx[k]?).bind λc=>(s.run k c).map λa=>{a.1 with nx:=s.nx.set k a.2}
def Cs.start(p:Pg)(v:Int):Cs:=⟨Wd.start p,v,0,0,p.threads.map λ_=>⟨0,false,false,O⟩,0,p.threads.map λ_=>.idle⟩
def Cs.round(s:Cs):Option Cs:=(s.step 0).bind λs=>s.step 1
def Cs.rounds(s:Cs):Nat->Option Cs
 |0=>E s
 |a+1=>(s.rounds a).bind Cs.round
theorem Aat(d:Wd)(i:Int):(d.next i).2.p=d.p/\(d.next i).2.es.length<=d.es.length+1:=by
 unfold Wd.next Wd.put
 split
 .exact⟨rfl,Ax _⟩
 .split
  .exact⟨rfl,Ax _⟩
  .split<;>exact⟨rfl,by simp⟩
theorem Xm(d:Wd)(k:Nat)(t:Th)(a:Bb)(v:Int):(Lp d k t a v).2.p=d.p/\(Lp d k t a v).2.es.length<=d.es.length+1:=by
 unfold Lp Wd.put
 split
 .split
  .exact⟨rfl,Ax _⟩
  .split<;>exact⟨rfl,by simp⟩
 .exact⟨rfl,by simp⟩
theorem MM(d:Wd)(i v:Int)(b:Bool):(d.answer i v b).2.p=d.p/\(d.answer i v b).2.es.length<=d.es.length+1:=by
 unfold Wd.answer
 split
 .exact⟨rfl,Ax _⟩
 .split
  .exact⟨rfl,Ax _⟩
  .split
   .exact⟨rfl,by simp[Wd.ends,Wd.put]⟩
   .split
    .exact⟨rfl,by simp[Wd.ends,Wd.put]⟩
    .split
     .exact⟨rfl,Ax _⟩
     .split
      .exact⟨rfl,Ax _⟩
      .exact Xm _ _ _ _ _
def DX:Pg:=⟨[0],[[[⟨3,0,1⟩]],[[⟨3,0,1⟩]]]⟩
abbrev Xn:Ab:=261
abbrev Sw:Ab:=347
abbrev Ra:Ab:=349
abbrev tWs:Ab:=352
abbrev TZ:Ab:=266
abbrev C7:Ab:=190
abbrev Zm:Ab:=258
abbrev Jq:Ab:=47
abbrev tHy:Ab:=25
def Fr(o:Option N):Int->Option N:=λa=>if a=0 then o else O
theorem MN:AF=Fr O:=by
 funext a
 simp[AF,Fr]
theorem PR(o:Option N)(v:N):AC (Fr o) 0 v=Fr (E v):=by
 funext a
 by_cases h:a=0<;>simp[AC,Fr,h]
def rdO(b:Bool):Option N:=if b=true then E true else O
def wrO(o:Option Int):Option N:=o.map (A0 .i64)
def mpV(a:Bool)(b:Nat):N:=.map (if a=true then E b else O)
def Qm(x:Wr×Nat×Nat):List N:=[x.1.time,mpV x.1.on x.2.1,mpV x.1.on x.2.2]
theorem JO(x:Wr×Nat×Nat):(Qm x).length=3:=rfl
abbrev Xo(M:Nat):N:=.func (.func 124) #[M] #[]
def Kt(M:Nat)(W:U)(ve:N)(k:Nat)(v:N):Ct->Prop
 |.idle=>v=.nilFunc
 |.ans j=>∃a b d,v=.func (.func 189) #[] #[Q (E ⟨a,0,O⟩),Q (E ⟨b,0,O⟩),Q (E ⟨d,0,O⟩)]/\Ah W a C7 #[M]/\Ah W b tI #[(k:Int)]/\Ah W d AJ (Aj j)/\ve.ownBlock≠E d
 |.lk=>∃a b d e,v=.func (.func 246) #[] #[Q (E ⟨a,0,O⟩),Q (E ⟨b,0,O⟩),Q (E ⟨d,0,O⟩)]/\Ah W a C7 #[M]/\Ah W b Jq #[e]/\Ah W d tI #[(k:Int)]/\W.ownsRow 0 tI 1 e 1 [()]
 |.tk=>∃a b,v=.func (.func 286) #[] #[Q (E ⟨a,0,O⟩),Q (E ⟨b,0,O⟩)]/\Ah W a C7 #[M]/\Ah W b tI #[(k:Int)]
 |.look i=>∃a b d g e,v=.func (.func 344) #[] #[Q (E ⟨a,0,O⟩),Q (E ⟨b,0,O⟩),Q (E ⟨d,0,O⟩),Q (E ⟨g,0,O⟩)]/\Ah W a C7 #[M]/\Ah W b Jq #[e]/\Ah W d tI #[(k:Int)]/\Ah W g tI #[i]/\W.ownsRow 0 tI 1 e 1 [()]
 |.wr i=>∃a b d g e,v=.func (.func 371) #[] #[Q (E ⟨a,0,O⟩),Q (E ⟨d,0,O⟩),Q (E ⟨b,0,O⟩),Q (E ⟨g,0,O⟩)]/\Ah W a C7 #[M]/\Ah W b Jq #[e]/\Ah W d tI #[(k:Int)]/\Ah W g tI #[i]/\W.ownsRow 0 tI 1 e 1 [()]
 |.cm=>∃a b,v=.func (.func 244) #[] #[Q (E ⟨a,0,O⟩),Q (E ⟨b,0,O⟩)]/\Ah W a C7 #[M]/\Ah W b tI #[(k:Int)]
def Kq(ve:N)(W W':U):Prop:=∀(b:Nat) (d:Array N) (a:Ab),W.heap[b]?=E (K d a (0,0))->(a=C7∨a=tI∨a=Jq∨a=AJ/\ve.ownBlock≠E b∨a=Zm∨a=tHy)->W'.heap[b]?=W.heap[b]?
theorem Kt.keep{M:Nat}{W W':U}{ve u:N}{v:N}{c:Ct}(h:Kt M W ve k v c)(o:Kq ve W W')(p:BZ W ve u):Kt M W' u k v c:=by
 have k1:∀ {l i},Ah W l C7 i->Ah W' l C7 i:=λh=>(o _ _ _ h (.inl rfl)).trans h;have k2:∀ {l i},Ah W l tI i->Ah W' l tI i:=λh=>(o _ _ _ h (.inr (.inl rfl))).trans h;have k3:∀ {l i},Ah W l Jq i->Ah W' l Jq i:=λh=>(o _ _ _ h (.inr (.inr (.inl rfl)))).trans h;have k4:∀ {v x},W.ownsRow 0 tI 1 v 1 x->W'.ownsRow 0 tI 1 v 1 x:=λh=>AK h λy i _ z=>o y i _ z (.inr (.inl rfl))
 cases c with
 |idle=>exact h
 |ans a=>
  obtain⟨b,d,n,a,e,g,j,m⟩:=h;refine⟨b,d,n,a,k1 e,k2 g,(o _ _ _ j (.inr (.inr (.inr (.inl ⟨rfl,m⟩))))).trans j,λr=>?_⟩;rcases p with p|⟨y,p,B⟩
  .exact m<|p▸r
  .rw[p] at r;injection r with r;have:=j.lt;omega
 |lk=>
  obtain⟨b,d,n,q,a,e,g,j,m⟩:=h;exact⟨b,d,n,q,a,k1 e,k3 g,k2 j,k4 m⟩
 |tk=>
  obtain⟨b,d,a,e,g⟩:=h;exact⟨b,d,a,k1 e,k2 g⟩
 |look A=>
  obtain⟨b,d,n,t,q,a,e,g,j,m,w⟩:=h;exact⟨b,d,n,t,q,a,k1 e,k3 g,k2 j,k2 m,k4 w⟩
 |wr A=>
  obtain⟨b,d,n,t,q,a,e,g,j,m,w⟩:=h;exact⟨b,d,n,t,q,a,k1 e,k3 g,k2 j,k2 m,k4 w⟩
 |cm=>
  obtain⟨b,d,a,e,g⟩:=h;exact⟨b,d,a,k1 e,k2 g⟩
structure Fx (B:Nat) (ve:N) (W W':U):Prop where
 b:Below B W W'
 q:Kq ve W W'
theorem Kq.below{ve:N}{W W':U}(a:Below W W W'):Kq ve W W':=λ_ _ _ b _=>a.block _ (AB b)
theorem Kq.cells{ve:N}{W W':U}{r:Array N}{t0:Ab}(b:W.heap[n]?=E (K r t0 (0,0)))(d:t0∉ [C7,tI,Jq,AJ,Zm,tHy])(e:∀g,g≠n->W'.heap[g]?=W.heap[g]?):Kq ve W W':=λg l m i j=>e g (AQ i b (λk=>d (by rcases j with a|a|a|⟨a,_⟩|a|a<;>simp[<-k,a])))
section
variable {B:Nat} {ve:Value} {W W' X:World}
theorem Fx.refl(B:Nat)(ve:N)(W:U):Fx B ve W W:=⟨Ae _ _,λ_ _ _ _ _=>rfl⟩
theorem Fx.trans(h:Fx B ve W W')(k:Fx B ve W' X):Fx B ve W X:=⟨h.b.trans k.b,λa b d e g=>(k.q a b d ((h.q a b d e g).trans e) g).trans (h.q a b d e g)⟩
theorem Fx.new(a:Below W W W')(b:B<=W.heap.size):Fx B ve W W':=⟨a.mono b,Kq.below a⟩
theorem Fx.drew(h:Fx B ve W W'):Fx B ve W W'.drew:=⟨h.b.drew,h.q⟩
theorem Fx.drewN(h:Fx B ve W W')(n:Nat):Fx B ve W (W'.drewN n):=⟨h.b.trans ⟨rfl,rfl,rfl,Aa _,λ_ _=>rfl⟩,h.q⟩
end
theorem Wk.frame{B:Nat}{W W':U}{d:Wd}{v u z ve:N}(h:Wk B n W d v u z ve)(e:∀(a:Nat) (cs:Array N) (t:Ab),t=tW∨t=QD∨t=AJ∨t=tI∨t=tH∨t=tT∨t=tA->W.heap[a]?=E (K cs t (0,0))->W'.heap[a]?=W.heap[a]?):Wk B n W' d v u z ve:=
 ⟨(e _ _ _ (.inl rfl) h.box).trans h.box,h.le,h.pg.keep (λa cs t g b=>e a cs t (by rcases g with h|h|h|h<;>simp[h]) b),AK h.th (λa cs _ b=>e a cs _ (.inr (.inl rfl)) b),AK h.ev (λa cs _ b=>e a cs _ (.inr (.inr (.inl rfl))) b)⟩
structure Ca where
 T:Nat
 wb:Nat
 g:Nat
 gn:Nat
 gc:Nat
 nb:Nat
 kb:Nat
 vc:N
 vt:N
 ve:N
 pc:N
 pt:N
 cl:N
 nv:List N
 wl:List (Wr×Nat×Nat)
def AeI(B:Nat)(W:U)(wl:List (Wr×Nat×Nat)):Prop:=∀(g:Nat) (a:Wr) (d e:Nat),wl[g]?=E (a,d,e)->a.on=true->B<=d/\B<=e/\d≠e/\(∃b,b<=a.rd.toNat/\Az W d b (Fr (rdO a.rd)))/\∃b,b<=a.wr.isSome.toNat/\Az W e b (Fr (wrO a.wr))
def Agf(wl:List (Wr×Nat×Nat)):Prop:=∀(g i:Nat) (j:Wr) (a b:Nat) (k:Wr) (d e:Nat),g≠i->wl[g]?=E (j,a,b)->wl[i]?=E (k,d,e)->j.on=true->k.on=true->a≠d/\a≠e/\b≠d/\b≠e
structure Cx (B M:Nat) (W:U) (a:Ca) (s:Cs):Prop where
 mb:Ah W M Xn #[a.T,a.cl,C a.kb 2 2,s.clock]
 tb:Ah W a.T Sw #[a.pc,a.pt,a.wb,C a.nb 2 2,Xo M]
 wk:Wk B a.wb W s.wd a.vc a.vt (C a.g a.gn a.gc) a.ve
 nx:Ah W a.nb Ra a.nv.toArray
 cl:W.ownsRow B TZ 3 a.cl 1 [s.cv,s.cn,s.co]
 ws:Ah W a.kb tWs (a.wl.flatMap Qm).toArray
 po:Dy W B a.pc a.pt s.wd.p
 mp:AeI B W a.wl
 kt:∀(k:Nat) (v:N) (c:Ct),a.nv[k]?=v->s.nx[k]?=c->Kt M W a.ve k v c
 ap:Agf a.wl
 wl:a.wl.map (·.1)=s.ws
 le:B<=M/\B<=a.nb/\B<=a.kb
 two:a.nv.length=2/\a.wl.length=2/\s.nx.length=2/\s.wd.p.threads.length=2
 ok:BL s.wd
 few:s.wd.es.length<=1000
def FP(o:Obj)(t:Ab):Prop:=∀a f,o≠K a t f
theorem Dn{cs:Array N}{t0 t:Ab}{f:Nat×Nat}(h:t0≠t):FP (K cs t0 f) t:=λ_ _ a=>by
 injection a with _ a;exact h a
theorem DJ{es:Array MapEntry}{t:Ab}:FP (.map es c) t:=λ_ _ a=>by cases a
structure Oth (B M:Nat) (W':U) (a:Ca) (s:Cs) (o:Obj):Prop where
 mb:FP o Xn->Ah W' M Xn #[a.T,a.cl,C a.kb 2 2,s.clock]
 tb:FP o Sw->Ah W' a.T Sw #[a.pc,a.pt,a.wb,C a.nb 2 2,Xo M]
 wk:(∀t∈[tW,QD,AJ,tI,tH,tT,tA],FP o t)->Wk B a.wb W' s.wd a.vc a.vt (C a.g a.gn a.gc) a.ve
 nx:FP o Ra->Ah W' a.nb Ra a.nv.toArray
 cl:FP o TZ->W'.ownsRow B TZ 3 a.cl 1 [s.cv,s.cn,s.co]
 ws:FP o tWs->Ah W' a.kb tWs (a.wl.flatMap Qm).toArray
 po:(∀t∈[tI,tH,tT,tA],FP o t)->Dy W' B a.pc a.pt s.wd.p
 mp:(∀es c,o≠.map es c)->AeI B W' a.wl
 kt:(∀t∈[C7,tI,Jq,AJ,Zm,tHy],FP o t)->∀(k:Nat) (v:N) (c:Ct),a.nv[k]?=v->s.nx[k]?=c->Kt M W' a.ve k v c
theorem Cx.oth{B M:Nat}{W W':U}{a:Ca}{s:Cs}(h:Cx B M W a s){o:Obj}(q:W.heap[n]?=o)(r:∀g,g<W.heap.size->g≠n->W'.heap[g]?=W.heap[g]?):Oth B M W' a s o:=by
 have j:∀ {g:Nat} {k:Array N} {i:Ab},FP o i->W.heap[g]?=E (K k i (0,0))->W'.heap[g]?=W.heap[g]?:=λ{g k i} v e=>r g (AB e) λb=>by
  subst b;rw[q] at e;exact v _ _<|Option.some.inj e
 refine⟨λd=>(j d h.mb).trans h.mb,λd=>(j d h.tb).trans h.tb,λd=>h.wk.frame λg k i m e=>j (d i (by rcases m with b|b|b|b|b|b|b<;>simp[b])) e,λd=>(j d h.nx).trans h.nx,λd=>AK h.cl λg k _ e=>j d e,λd=>(j d h.ws).trans h.ws,
  λd=>h.po.keep λg k i m e=>j (d i (by rcases m with b|b|b|b<;>simp[b])) e,λd=>?_,λd p w c x y=>(h.kt p w c x y).keep (λg k i e m=>j (d i (by rcases m with b|b|b|⟨b,_⟩|b|b<;>simp[b])) e) (.inl rfl)⟩
 intro p z A D F G;let⟨L,S,X,⟨Y,Z,aa⟩,ab,ac,ad⟩:=h.mp p z A D F G
 have l:∀ {t d:Nat} {f:Int->Option N},Az W t d f->Az W' t d f:=λl=>l.at (r _ l.lt λb=>by
  let⟨ae,c,u⟩:=l.obj;rw[b,q] at u;exact d ae c (Option.some.inj u))
 exact⟨L,S,X,⟨Y,Z,l aa⟩,ab,ac,l ad⟩
theorem Cx.call{B M:Nat}{W W':U}{a:Ca}{s:Cs}(h:Cx B M W a s)(d:Below W W W'):Cx B M W' a s:=by
 have b:∀ {e:Nat} {j:Obj},W.heap[e]?=j->W'.heap[e]?=W.heap[e]?:=λg=>d.block _ (AB g);refine⟨(b h.mb).trans h.mb,(b h.tb).trans h.tb,h.wk.call d,(b h.nx).trans h.nx,AA h.cl d,(b h.ws).trans h.ws,h.po.keep λe k l _ g=>b g,λi m n o p q=>?_,λi r c t u=>(h.kt i r c t u).keep (λe k l g _=>b g) (.inl rfl),h.ap,h.wl,h.le,h.two,h.ok,h.few⟩;let⟨v,w,x,⟨y,z,A⟩,D,F,G⟩:=h.mp i m n o p q;exact⟨v,w,x,⟨y,z,A.call d⟩,D,F,G.call d⟩
theorem Cx.drew{B M:Nat}{W:U}{a:Ca}{s:Cs}(h:Cx B M W a s):Cx B M W.drew a s:=h.call ((Ae _ W).drew)
theorem Cx.drewN{B M:Nat}{W:U}{a:Ca}{s:Cs}(h:Cx B M W a s)(n:Nat):Cx B M (W.drewN n) a s:=h.call ⟨rfl,rfl,rfl,Aa _,λ_ _=>rfl⟩
theorem Cx.foot{B M:Nat}{W W':U}{a:Ca}{s:Cs}(h:Cx B M W a s)(j:Ay (C5 a.wb (C a.g a.gn a.gc) a.ve) W W'):∀(g:Nat) (cs:Array N) (t:Ab),W.heap[g]?=E (K cs t (0,0))->t≠tW->t≠QD->(t=AJ->a.ve.ownBlock≠E g)->W'.heap[g]?=W.heap[g]?:=λg cs t d k l m=>j.block g (AB d) λb=>by
 simp only[C5,B2,Eh,F0] at b;rcases b with b|b|b
 .exact AQ d h.wk.box k b
 .let⟨n,e⟩:=Bm h.wk.th b;exact AQ d e l rfl
 .let⟨n,e⟩:=Bm h.wk.ev b;by_cases i:t=AJ
  .exact m i b
  .exact AQ d e i rfl
theorem Cx.kq{B M:Nat}{W W':U}{a:Ca}{s:Cs}(h:Cx B M W a s)(d:Ay (C5 a.wb (C a.g a.gn a.gc) a.ve) W W'):Kq a.ve W W':=λe g i j k=>by
 refine h.foot d e g i j ?_ ?_ ?_<;>rcases k with b|b|b|⟨b,l⟩|b|b<;>subst b<;>first|decide|(intro b;exact absurd b (by decide))|exact λ_=>l
theorem Cx.walk{B M:Nat}{W W':U}{a:Ca}{s:Cs}{d':Wd}{v:N}(h:Cx B M W a s)(x:Wk B a.wb W' d' a.vc a.vt (C a.g a.gn a.gc) v)(l:Ay (C5 a.wb (C a.g a.gn a.gc) a.ve) W W')(y:BZ W a.ve v)(z:BL d')(t:d'.p=s.wd.p)(A:d'.es.length<=1000):
 Cx B M W' {a with ve:=v} {s with wd:=d'}:=by
 have e:=h.foot l
 have u:∀ {k m:Nat} {f:Int->Option N},Az W k m f->Az W' k m f:=λ{k m f} n=>n.at (l.block k n.lt λd=>by
  let⟨al,c,o⟩:=n.obj;simp only[C5,B2,Eh,F0] at d;rcases d with d|d|d
  .have:=h.wk.box;unfold Ah at this;rw[<-d,o] at this;cases this
  .let⟨D,g⟩:=Bm h.wk.th d;rw[o] at g;cases g
  .let⟨D,g⟩:=Bm h.wk.ev d;rw[o] at g;cases g)
 refine⟨(e _ _ _ h.mb (by decide) (by decide) (λb=>absurd b (by decide))).trans h.mb,(e _ _ _ h.tb (by decide) (by decide) (λb=>absurd b (by decide))).trans h.tb,x,(e _ _ _ h.nx (by decide) (by decide) (λb=>absurd b (by decide))).trans h.nx,
  AK h.cl λp q _ i=>e _ _ _ i (by decide) (by decide) (λb=>absurd b (by decide)),(e _ _ _ h.ws (by decide) (by decide) (λb=>absurd b (by decide))).trans h.ws,?_,λr F G L S X=>?_,λr Y c Z aa=>(h.kt r Y c Z aa).keep (λp q w i j=>?_) y,h.ap,h.wl,h.le,⟨h.two.1,h.two.2.1,h.two.2.2.1,t▸h.two.2.2.2⟩,z,A⟩
 .show Dy W' B a.pc a.pt d'.p;rw[t];exact h.po.keep λp q w j i=>e _ _ _ i (by rcases j with b|b|b|b<;>subst b<;>decide) (by rcases j with b|b|b|b<;>subst b<;>decide) (λab=>by rcases j with b|b|b|b<;>subst b<;>exact absurd ab (by decide))
 .let⟨ac,ad,ae,⟨af,ag,ah⟩,ai,aj,ak⟩:=h.mp r F G L S X;exact⟨ac,ad,ae,⟨af,ag,u ah⟩,ai,aj,u ak⟩
 .exact h.kq l p q w i j
theorem T0{X:U}{a0 v a2 a3 a4 a5 u z:N}(h:Ah X b AJ #[a0,v,a2,a3,a4,a5,u,z]):X.cell? b=a0/\X.cell? ⟨b,1,O⟩=v/\X.cell? ⟨b,2,O⟩=a2/\X.cell? ⟨b,3,O⟩=a3/\X.cell? ⟨b,4,O⟩=a4/\X.cell? ⟨b,5,O⟩=a5/\X.cell? ⟨b,6,O⟩=u/\X.cell? ⟨b,7,O⟩=z:=⟨h.cell 0,h.cell 1,h.cell 2,h.cell 3,h.cell 4,h.cell 5,h.cell 6,h.cell 7⟩
theorem AcB(tmps:Array N)(X:U)(b:Nat)(a0 a a2 a3 a4 a5 d e v:N)(g:tmps.getD 6 Ac=b)(i:tmps.getD 7 Ac=v)(h:Ah X b AJ #[a0,a,a2,a3,a4,a5,d,e]):
 (As Tryz.f342 tmps).run prog X=.ok (.tuple #[.agg #[a0,a,a2,a3,a4,a5,d,e],v]) X:=by
 have j:tmps[6]?.getD Ac=b:=by simpa using g
 have k:tmps[7]?.getD Ac=v:=by simpa using i
 let⟨l,m,n,o,p,q,r,t⟩:=T0 h;simp[As,Tryz.f342,j,k,go_sem,l,m,n,o,p,q,r,t]
theorem CM{B:Nat}{W:U}{d:Wd}{v u ve:N}(h:Wk B m W d v u (C g n c) ve)(M:BL d){t:Th}(X:d.ts[k]?=t)(bd:d.es.length<=100000)(e:Ev):
 Calls prog 342 #[m,(k:Int),.agg (Aj e)] W λY Z=>∃aa,Y=R (.tuple #[.agg (Aj {e with tx:=CC k t.tx}),true])/\Wk B m Z ⟨d.p,d.ts,d.es++[{e with tx:=CC k t.tx}]⟩ v u (C g n c) aa/\Ay (C5 m (C g n c) ve) W Z/\BZ W ve aa:=by
 let⟨be,bf,aq,_,bg,bh,bi,ab,ar⟩:=h.thAt X;injection aq with x ac ad;injection x with x;injection x with x;subst x ac ad;let⟨au,av,aw,ax,ay⟩:=A1 GJ;obtain⟨q,r,rfl⟩:=Ag h.ev;have ae:=h.box.cell 2;have bj:=h.box.cell 3;have bk:=h.box.frozen 3;have bl:=h.box.lt;have bm:W.cell? ⟨g,k*6,O⟩=t.tx:=ab 0 (by omega);have bn:=(AM M.ok).2.2.2.1;have az:=M.len;have bo:(0:Int)<=(k:Int):=by omega
 have bp:(k:Int)<(d.ts.length:Int):=by omega
 have bq:k<=4:=by omega
 have af:=Af (λa0=>VT (k:Int) t.tx a0);have H:=Af h;have ag:(Ar q d.es.length r).ownBlock≠E m:=Ah.apartRow h.box h.ev (by decide);have ah:(Ar q d.es.length r).ownBlock≠E W.heap.size:=λe=>by have:=(Ai h.ev e).2;omega
 have a1:=Af ag;have a2:=Af ah;have a3:=Af h.ev;have a4:=Af h.box;have br:∀b i o,(((W.alloc b).alloc i).alloc o).cell? ⟨m,3,O⟩=E (Ar q d.es.length r):=λb i o=>Ah.cell (Ah.alloc (Ah.alloc (Ah.alloc h.box b) i) o) 3;have ai:=Af (show(Ar q d.es.length r).ownBlock≠E (W.heap.size+1) from λe=>by have:=(Ai h.ev e).2;omega);have bs:B<=W.heap.size:=by have:=h.le;omega
 obtain⟨j,aj⟩:∃j,CC (k:Int) t.tx=j:=⟨_,rfl⟩;rw[aj] at af|-;have a5:Hid (∀i,Ah ((W.alloc (K (Aj {e with tx:=j}) AJ)).alloc i) W AJ (Aj {e with tx:=j})):=Af (λi=>(Ah.new W AJ _).alloc i);have a6:Hid (∀b,Ah ((W.alloc b).alloc (K (Aj Ev.zero) AJ)) (W+1) AJ (Aj Ev.zero)):=Af (λb=>by have S:=Ah.new (W.alloc b) AJ (Aj Ev.zero);simpa using S)
 have a7:Hid (∀(b i o:Obj) (w:U) (y:N),w.ownsRow B AJ 8 y (d.es.length+1) (CR d.es++(Aj {e with tx:=j}).toList)->(((W.alloc b).alloc i).alloc o).drew.grownBy w (Ar q d.es.length r).ownBlock->Wk B m (w.setCell ⟨m,3,O⟩ y) ⟨d.p,d.ts,d.es++[{e with tx:=j}]⟩ v u (C g d.ts.length c) y/\Ay (C5 m (C g d.ts.length c) (C q d.es.length r)) W (w.setCell ⟨m,3,O⟩ y)):=Af (by
  intro b i o w y a8 ak;let⟨k1,k2⟩:=Wk.addEv (((H.o.alloc b).alloc i).alloc o).drew a8 ak;exact⟨k1,((((((Ay.refl _ W).alloc b).alloc i).alloc o).drew.grown ak (λk e=>.inl (ZA e)))).setCell (p:=⟨m,3,O⟩) (.inl (Zz _ _ _)) y⟩)
 have a9:Hid (∀b i,(((W.alloc b).alloc i).alloc (K (Aj {e with tx:=j}) AJ)).drew.heap[W.heap.size+1+1]?=E (K (Aj {e with tx:=j}) AJ)):=Af (λb i=>by
  have S:=heap_alloc_new ((W.alloc b).alloc i)<|K (Aj {e with tx:=j}) AJ;have ba:(((W.alloc b).alloc i).alloc (K (Aj {e with tx:=j}) AJ)).heap[W.heap.size+1+1]?=E (K (Aj {e with tx:=j}) AJ):=by simpa using S
  exact ba)
 simp only[Aj];go_in;go_wp2_with fail;refine(af.o _).mono ?_;rintro Y w ⟨rfl,rfl⟩;go_wp2
 go_region_law (refine step_append_lies _ (by rfl) _ _ _ (by rfl) B AJ au _ 8 64 underlying23 av aw ax ay rfl (by omega) (.slice q d.es.length r) d.es.length (CR d.es) (by rfl) (((a3.o.alloc _).alloc _).alloc _).drew (W+1+1:Nat) 1 1 (Aj {e with tx:=j}).toList (by rfl) (by simp[Aj]) (World.news_of_block (cs:=Aj {e with tx:=j}) (t:=AJ) (fr:=(0,0)) (a9.o _ _)) (Mu _) (by omega) (by unfold Al;omega) (by omega) (by simp;omega) (W+1+1+1) (by simp) ?_;intro z F w al A G bt;have L:=(Ah.drew (Ah.alloc (Ah.alloc (Ah.alloc a4 _) _) _)).grown A (Eu a1);have bu:=L.frozen 3;have bv:=L.cell 3;have bw:=L.lt)
 all_goals (
  have am:=Af<|a7.o _ _ _ _ _ al A;have l:=((Ah.drew (Ah.alloc (a5.o _) _)).grown A (Eu a2)).far (p:=⟨m,3,O⟩) (by simp;omega)<|C z (d.es.length+1) F;have a:=((Ah.drew (Ah.alloc (a6.o _) _)).grown A (Eu ai)).far (p:=⟨m,3,O⟩) (by simp;omega)<|C z (d.es.length+1) F;have bz:=Af a;have b0:=Af G
  have an:(Ar (E z) (d.es.length+1) F).ownBlock≠E (W.heap.size+1):=by
   intro ao;have ae:z=W.heap.size+1:=by simpa[Value.ownBlock] using ao
   rcases G with D|D
   .exact ai.o (by rw[D,ae])
   .omega
  have bb:=Af (show BZ W (C q d.es.length r) (C z (d.es.length+1) F) from by
   rcases G with D|D
   .exact .inl (by rw[D];rfl)
   .exact .inr ⟨z,rfl,by omega⟩)
  have ap:=Af<|Abp am.o.1 a rfl an (show B<=W.heap.size+1 by omega) e.kind j e.thr e.obj e.op e.key e.val e.ret;simp only[Aj] at l;simp only[Aj,Ev.zero] at a;have b1:=l.cell 0;have x:=l.cell 1;have ac:=l.cell 2;have ad:=l.cell 3;have b2:=l.cell 4;have b3:=l.cell 5;have b4:=l.cell 6;have b5:=l.cell 7;have b6:=a.cell 0;have b:=a.cell 1;have i:=a.cell 2;have o:=a.cell 3;have b7:=a.cell 4;have b8:=a.cell 5;have b9:=a.cell 6;have ca:=a.cell 7;have cb:=a.frozen 0;have cc:=a.frozen 1;have cd:=a.frozen 2;have ce:=a.frozen 3;have cf:=a.frozen 4;have cg:=a.frozen 5;have ch:=a.frozen 6;have ci:=a.frozen 7;have cj:=a.lt;go_wp2;exact Ao (AcB _ _ _ _ _ _ _ _ _ _ _ _ rfl rfl ap.o.2.2) rfl ⟨_,rfl,ap.o.1,am.o.2.trans (J7 _ _ _ _ _ _ _ _ _ _) (λao bc=>.inr (by simp at bc;omega)),bb⟩)
abbrev tK:Ab:=580
def rdV:N:=.func (.func 444) #[] #[]
def wrV:N:=.func (.func 445) #[] #[]
def adV(a b:Nat):N:=.func (.func 446) #[] #[a,b]
theorem Fj{X:U}{a0 v a2 a3 a4 a5 u z:N}(h:Ah X b AJ #[a0,v,a2,a3,a4,a5,u,z]):X.cell? b=a0/\X.cell? ⟨b,1,O⟩=v/\X.cell? ⟨b,2,O⟩=a2/\X.cell? ⟨b,3,O⟩=a3/\X.cell? ⟨b,4,O⟩=a4/\X.cell? ⟨b,5,O⟩=a5/\X.cell? ⟨b,6,O⟩=u/\X.cell? ⟨b,7,O⟩=z:=⟨h.cell 0,h.cell 1,h.cell 2,h.cell 3,h.cell 4,h.cell 5,h.cell 6,h.cell 7⟩
theorem Aav(tmps:Array N)(X:U)(b:Nat)(a0 a a2 a3 a4 a5 d e:N)(h:tmps.getD 4 Ac=b)(g:Ah X b AJ #[a0,a,a2,a3,a4,a5,d,e]):
 (As Tryz.f444 tmps).run prog X=.ok (.agg #[a0,a,a2,a3,a4,a5,d,e]) X:=by
 have i:tmps[4]?.getD Ac=b:=by simpa using h
 let⟨j,k,l,m,n,o,p,q⟩:=Fj g;simp[As,Tryz.f444,i,go_sem,j,k,l,m,n,o,p,q]
theorem Aaw(tmps:Array N)(X:U)(b:Nat)(a0 a a2 a3 a4 a5 d e:N)(h:tmps.getD 4 Ac=b)(g:Ah X b AJ #[a0,a,a2,a3,a4,a5,d,e]):
 (As Tryz.f445 tmps).run prog X=.ok (.agg #[a0,a,a2,a3,a4,a5,d,e]) X:=by
 have i:tmps[4]?.getD Ac=b:=by simpa using h
 let⟨j,k,l,m,n,o,p,q⟩:=Fj g;simp[As,Tryz.f445,i,go_sem,j,k,l,m,n,o,p,q]
theorem Sy(tmps:Array N)(X:U)(b:Nat)(a0 a a2 a3 a4 a5 d e:N)(h:tmps.getD 6 Ac=b)(g:Ah X b AJ #[a0,a,a2,a3,a4,a5,d,e]):
 (As Tryz.f446 tmps).run prog X=.ok (.agg #[a0,a,a2,a3,a4,a5,d,e]) X:=by
 have i:tmps[6]?.getD Ac=b:=by simpa using h
 let⟨j,k,l,m,n,o,p,q⟩:=Fj g;simp[As,Tryz.f446,i,go_sem,j,k,l,m,n,o,p,q]
theorem Xp{B:Nat}{X:U}{cs:Array N}(j:Ah X b AJ cs)(k:cs.size=8)(a:B<=b)(a0 d a2 a3 a4 a5 e g:N):
 Below B X ((((((((X.setCell b a0).setCell ⟨b,1,O⟩ d).setCell ⟨b,2,O⟩ a2).setCell ⟨b,3,O⟩ a3).setCell ⟨b,4,O⟩ a4).setCell ⟨b,5,O⟩ a5).setCell ⟨b,6,O⟩ e).setCell ⟨b,7,O⟩ g)/\Ah ((((((((X.setCell b a0).setCell ⟨b,1,O⟩ d).setCell ⟨b,2,O⟩ a2).setCell ⟨b,3,O⟩ a3).setCell ⟨b,4,O⟩ a4).setCell ⟨b,5,O⟩ a5).setCell ⟨b,6,O⟩ e).setCell ⟨b,7,O⟩ g) b AJ #[a0,d,a2,a3,a4,a5,e,g]:=by
 obtain⟨i,rfl⟩:∃i:List N,cs=i.toArray:=⟨cs.toList,by simp⟩
 match i,k with
 |[v,w,x,y,z,A,D,F],_=>
  have l:=Ah.put j 0 a0;have m:=Ah.put l 1 d;have n:=Ah.put m 2 a2;have o:=Ah.put n 3 a3;have q:=Ah.put o 4 a4;have r:=Ah.put q 5 a5;have t:=Ah.put r 6 e;have u:=Ah.put t 7 g;refine⟨?_,by simpa using u⟩;exact(((((((((Ae B X).setCell (p:=b) a _).setCell (p:=⟨b,1,O⟩) a _).setCell (p:=⟨b,2,O⟩) a _).setCell (p:=⟨b,3,O⟩) a _).setCell (p:=⟨b,4,O⟩) a _).setCell (p:=⟨b,5,O⟩) a _).setCell (p:=⟨b,6,O⟩) a _).setCell (p:=⟨b,7,O⟩) a _)
theorem JP(W:U)(o:Obj)(t:Ab)(cs:Array N):Ah ((W.alloc o).alloc (K cs t)) (W+1) t cs:=by
 have h:=Ah.new (W.alloc o) t cs;simpa using h
theorem FQ(W:U)(a b:Obj):Below W W ((W.alloc a).alloc b):=((Ae _ _).alloc (Aa _) a).alloc (by simp) b
theorem Aax(b:N)(a:Bb)(W:U):Calls prog 444 #[b,.agg (BQ a)] W λd e=>d=R (.agg (Aj (evR a.cell)))/\Below W W e:=by
 unfold BQ;go_in;go_wp2;exact Ao (Aav _ _ (W+1) _ _ _ _ _ _ _ _ rfl (JP W _ _ _)) rfl ⟨rfl,FQ W _ _⟩
theorem Xq(b:N)(a:Bb)(W:U):Calls prog 445 #[b,.agg (BQ a)] W λd e=>d=R (.agg (Aj (evW a.cell a.val)))/\Below W W e:=by
 unfold BQ;go_in;go_wp2;exact Ao (Aaw _ _ (W+1) _ _ _ _ _ _ _ _ rfl (JP W _ _ _)) rfl ⟨rfl,FQ W _ _⟩
theorem AcC(p:Addr)(a:Bb)(t:Th)(s1 s2 g o:Nat)(W:U)(u:p=⟨g,o,O⟩)(c3:W.cell? ⟨g,o+3,O⟩=t.adding)(c4:W.cell? ⟨g,o+4,O⟩=t.read)(j:W.cell? s1=rdV)(k:W.cell? s2=wrV)
 (l:t.adding=true->-1000000000<=a.val+t.read/\a.val+t.read<=1000000000):
 Calls prog 446 #[p,.agg (BQ a),s1,s2] W λm v=>m=R (.agg (Aj (if t.adding=true then evW a.cell (a.val+t.read) else evR a.cell)))/\Below W W v:=by
 subst u;have w:=Ad W _ c3;have x:=Ad W _ j;have y:=Ad W _ k;simp only at w x y;unfold rdV at j;unfold wrV at k
 cases e:t.adding with
 |false=>
  rw[e] at c3;have q:=Af (λW=>Aax (Q (E ⟨g,o,O⟩)) a W);unfold BQ at q|-;go_in;go_wp2_with fail;refine(q.o _).mono ?_;rintro m z ⟨rfl,d⟩;have b:=(JP W (K #[a.kind,a.cell,a.val] 56) AJ (Aj Ev.zero)).below d (by simp);have n:=Af<|(FQ W _ _).trans (d.mono (by simp;omega));have i:=Af<|Xp b rfl (show W.heap.size<=W.heap.size+1 by omega) (I J 2) () () a.cell (I J 1) () () ();simp only[Aj,Ev.zero] at b;have A:=b.cell 0;have B:=b.cell 1;have D:=b.cell 2;have F:=b.cell 3;have G:=b.cell 4;have L:=b.cell 5;have M:=b.cell 6;have S:=b.cell 7;have X:=b.frozen 0;have Y:=b.frozen 1;have Z:=b.frozen 2;have aa:=b.frozen 3;have ab:=b.frozen 4;have ac:=b.frozen 5;have ad:=b.frozen 6;have ae:=b.frozen 7;have af:=b.lt;unfold Aj;go_wp2;exact Ao (Sy _ _ (W+1) _ _ _ _ _ _ _ _ rfl i.o.2) rfl ⟨rfl,n.o.trans i.o.1⟩
 |true=>
  let⟨ah,ai⟩:=l e;rw[e] at c3;have r:=Af (λag W=>Xq (Q (E ⟨g,o,O⟩)) ⟨a.kind,a.cell,ag⟩ W);unfold BQ at r|-;go_in;go_wp2
  go_region
  go_wp2_with fail;refine(r.o _ _).mono ?_;rintro m z ⟨rfl,d⟩;have b:=Ah.below (Ah.drew (JP W (K #[a.kind,a.cell,I J (a.val+t.read)] 56) AJ (Aj Ev.zero))) d (by simp);have n:=Af<|(FQ W _ _).drew.trans (d.mono (by simp;omega));have i:=Af<|Xp b rfl (show W.heap.size<=W.heap.size+1 by omega) (I J 2) () () a.cell (I J 2) () (I J (a.val+t.read)) ();simp only[Aj,Ev.zero] at b;have A:=b.cell 0;have B:=b.cell 1;have D:=b.cell 2;have F:=b.cell 3;have G:=b.cell 4;have L:=b.cell 5;have M:=b.cell 6;have S:=b.cell 7;have X:=b.frozen 0;have Y:=b.frozen 1;have Z:=b.frozen 2;have aa:=b.frozen 3;have ab:=b.frozen 4;have ac:=b.frozen 5;have ad:=b.frozen 6;have ae:=b.frozen 7;have af:=b.lt;unfold Aj;go_wp2;exact Ao (Sy _ _ (W+1) _ _ _ _ _ _ _ _ rfl i.o.2) rfl ⟨rfl,n.o.trans i.o.1⟩
theorem Xr(W:U):Calls prog 443 #[] W λe a=>e=R (C (W+1+1:Nat) 5 5)/\Below W W a/\Ah a W tK #[rdV]/\Ah a (W+1) tK #[wrV]/\Ah a (W+1+1) 581 #[.nilFunc,rdV,wrV,adV W (W+1),.nilFunc]:=by
 have g:∀(fn:Fn) (first b:Array N) (d:U),(Instr.makeFunc fn first b).run prog d=.ok (.func fn first b) d:=λ_ _ _ _=>rfl;go_in;go_wp2;go_ret;refine⟨rfl,(FQ W _ _).alloc (by simp;omega) _,((Ah.new W _ _).alloc _).alloc _,(JP W _ _ _).alloc _,?_⟩;have h:=Ah.new ((W.alloc (K #[rdV] tK)).alloc (K #[wrV] tK)) 581 #[.nilFunc,rdV,wrV,adV W (W+1),.nilFunc];simpa[rdV,wrV,adV] using h
theorem JQ(tmps:Array Value)(X:World)(b:Nat)(a0 a a2 a3 a4 a5 d e v:Value)(g:tmps.getD 4 Ac=.pointer (some ⟨b,0,none⟩))(i:tmps.getD 5 Ac=v)(h:Ah X b AJ #[a0,a,a2,a3,a4,a5,d,e]):
 (As Tryz.f442 tmps).run prog X=.ok (.tuple #[.agg #[a0,a,a2,a3,a4,a5,d,e],v]) X:=by
 have j:tmps[4]?.getD Ac=.pointer (some ⟨b,0,none⟩):=by simpa using g
 have k:tmps[5]?.getD Ac=v:=by simpa using i
 obtain⟨l,m,n,o,p,q,r,t⟩:=Fj h
 simp[As,Tryz.f442,j,k,go_sem,l,m,n,o,p,q,r,t]
def D8:Obj:=.cells (Aj Ev.zero) AJ
structure Nx (B wb:Nat) (W X:World) (d:Wd) (vc vt vh ve0 ve:Value):Prop where
 wk:Wk B wb X d vc vt vh ve
 o:Ah X W.heap.size AJ (Aj Ev.zero)
 only:Ay (C5 wb vh ve0) W X
 vs:BZ W ve0 ve
 ap:ve.ownBlock≠some W.heap.size
theorem Nx.start{B n:Nat}{W X:World}{d:Wd}{v u z ve:Value}(h:Wk B n W d v u z ve){m:Nat}(a:X=(W.alloc D8).drewN m):Nx B n W X d v u z ve ve:=by
 subst a
 exact⟨(h.alloc _).drewN m,(Ah.new W AJ _).drewN m,((Ay.refl _ W).alloc D8).drewN m,.inl rfl,fun b=>by have:=(Ai h.ev b).2;omega⟩
theorem Nx.call{B n:Nat}{W X w:World}{d:Wd}{v u z y ve:Value}(h:Nx B n W X d v u z y ve)(a:Below X.heap.size X w):Nx B n W w d v u z y ve:=
 ⟨h.wk.call a,h.o.below a h.o.lt,h.only.trans (Ay.of_below (S:=[]) a (Aa _)) (by simp),h.vs,h.ap⟩
theorem Nx.setTh{B m:Nat}{W X:World}{d:Wd}{u z y ve:Value}{g n c:Nat}(h:Nx B m W X d u z (.slice (some ⟨g,0,none⟩) n c) y ve){k r:Nat}{t t':Th}{v:Value}(a:d.ts[k]?=some t)(b:r<6)(e:(Cy t').toList=(Cy t).toList.set r v):
 Nx B m W (X.setCell ⟨g,k*6+r,none⟩ v) ⟨d.p,d.ts.set k t',d.es⟩ u z (.slice (some ⟨g,0,none⟩) n c) y ve:=by
 obtain⟨j,i⟩:=Bm h.wk.th (g:=g) rfl;exact⟨(h.wk.setTh a b e).1,h.o.far (p:=⟨g,k*6+r,none⟩) (AQ h.o i (by decide)) v,h.only.setCell (p:=⟨g,k*6+r,none⟩) (.inl (ZB rfl)) v,h.vs,h.ap⟩
theorem Nx.step{B n:Nat}{W X w:World}{d d':Wd}{v u z y ve a:Value}(h:Nx B n W X d v u z y ve)(j:Wk B n w d' v u z a)(e:Ay (C5 n z ve) X w)(g:BZ X ve a):Nx B n W w d' v u z y a:=by
 have k:=h.o.lt
 have l:=h.only.size
 have i:Off n z ve W.heap.size:=⟨fun b=>AQ h.o h.wk.box (by decide) b,fun b=>by
  obtain⟨q,m⟩:=Bm h.wk.th b
  exact AQ h.o m (by decide) rfl,h.ap⟩
 exact⟨j,h.o.only e i.notin,h.only.trans e (fun o p=>Ta h.vs o p),h.vs.trans g l,(i.step k g).2.2⟩
theorem Nx.done{B n:Nat}{W X:World}{d:Wd}{v u z y ve:Value}(h:Nx B n W X d v u z y ve)(g:B<=W.heap.size)(a0 a a2 a3 a4 a5 b e:Value):
 Wk B n ((((((((X.setCell ⟨W.heap.size,0,none⟩ a0).setCell ⟨W.heap.size,1,none⟩ a).setCell ⟨W.heap.size,2,none⟩ a2).setCell ⟨W.heap.size,3,none⟩ a3).setCell ⟨W.heap.size,4,none⟩ a4).setCell ⟨W.heap.size,5,none⟩ a5).setCell ⟨W.heap.size,6,none⟩ b).setCell ⟨W.heap.size,7,none⟩ e) d v u z ve/\Ay (C5 n z y) W ((((((((X.setCell ⟨W.heap.size,0,none⟩ a0).setCell ⟨W.heap.size,1,none⟩ a).setCell ⟨W.heap.size,2,none⟩ a2).setCell ⟨W.heap.size,3,none⟩ a3).setCell ⟨W.heap.size,4,none⟩ a4).setCell ⟨W.heap.size,5,none⟩ a5).setCell ⟨W.heap.size,6,none⟩ b).setCell ⟨W.heap.size,7,none⟩ e)/\BZ W y ve/\Ah ((((((((X.setCell ⟨W.heap.size,0,none⟩ a0).setCell ⟨W.heap.size,1,none⟩ a).setCell ⟨W.heap.size,2,none⟩ a2).setCell ⟨W.heap.size,3,none⟩ a3).setCell ⟨W.heap.size,4,none⟩ a4).setCell ⟨W.heap.size,5,none⟩ a5).setCell ⟨W.heap.size,6,none⟩ b).setCell ⟨W.heap.size,7,none⟩ e) W.heap.size AJ #[a0,a,a2,a3,a4,a5,b,e]:=by
 obtain⟨k1,k2,k3⟩:=Abp h.wk h.o rfl h.ap g a0 a a2 a3 a4 a5 b e;exact⟨k1,h.only.trans (J7 _ _ _ _ _ _ _ _ _ _) (λj i=>.inr (by simp at i;omega)),h.vs,k3⟩
abbrev Bt(B a:Nat)(W:World)(g i b ve:Value)(r:(Ev×Bool)×Wd)(e:Ending)(w':World):Prop:=
 ∃d,e=.returned (.tuple #[.agg (Aj r.1.1),.bool r.1.2])∧Wk B a w' r.2 g i b d∧Ay (C5 a b ve) W w'∧BZ W ve d
theorem Xs{B k:Nat}{W:World}{d:Wd}{v u ve:Value}{g n c:Nat}(h:Wk B k W d v u (.slice (some ⟨g,0,none⟩) n c) ve)(j:BL d){i:Int}(l:d.live i=none):
 Calls prog 442 #[.pointer (some ⟨k,0,none⟩),.int .i64 i] W λm q=>Bt B k W v u (.slice (some ⟨g,0,none⟩) n c) ve ((Ev.zero,false),d) m q:=by
 have r:B<=W.heap.size:=by have:=h.le;have:=h.box.lt;omega
 have o:=Af (NF (h.alloc D8) j l)
 have H:=Af h
 go_enter func442,ntmps442
 go_wp2_with fail
 refine o.o.mono ?_
 rintro m w ⟨rfl,x,p⟩
 have e:=Nx.start H.o p
 have t:=Af e
 have a:=e.o
 simp only[Aj,Ev.zero] at a
 have y:=a.cell 0
 have z:=a.cell 1
 have A:=a.cell 2
 have D:=a.cell 3
 have F:=a.cell 4
 have G:=a.cell 5
 have L:=a.cell 6
 have M:=a.cell 7
 have S:=a.frozen 0
 have X:=a.frozen 1
 have Y:=a.frozen 2
 have Z:=a.frozen 3
 have aa:=a.frozen 4
 have ab:=a.frozen 5
 have ac:=a.frozen 6
 have ad:=a.frozen 7
 have ae:=a.lt
 have b:=Af (t.o.done r (.int .i64 0) (.int .i64 0) (.int .i64 0) (.int .i64 0) (.int .i64 0) (.int .i64 0) (.int .i64 0) (.int .i64 0))
 clear p e a o H
 go_wp2
 exact Ao (JQ _ _ _ _ _ _ _ _ _ _ _ _ rfl rfl b.o.2.2.2) rfl ⟨_,rfl,b.o.1,b.o.2.1,b.o.2.2.1⟩
theorem T1{B:Nat}{W:U}{d:Wd}{v u ve:N}(h:Wk B m W d v u (C (E ⟨g,0,O⟩) n c) ve)(p:BL d){t:Th}{l:List (List Bb)}(j:d.live k=E (t,l))(q:t.waits≠0):
 Calls prog 442 #[Q (E ⟨m,0,O⟩),I J (k:Int)] W λr A=>Bt B m W v u (C (E ⟨g,0,O⟩) n c) ve ((Ev.zero,false),d) r A:=by
 have D:B<=W.heap.size:=by have:=h.le;have:=h.box.lt;omega
 obtain⟨_,o,w,F⟩:=BE j;simp only[D6] at o w;have x:=Af<|Dw (h.alloc D8) p j;have H:=Af h;have G:=Af o;have aa:(t.waits !=0)=true:=by simpa using q
 clear h p j o w F;go_in;go_wp2_with fail;refine x.o.mono ?_;rintro r L ⟨rfl,ab,y⟩;have e:=Nx.start H.o y;have M:=Af e;obtain⟨ac,ad,S,_,ae,af,ag,z,X⟩:=e.wk.thAt G.o;injection S with b Y Z;injection b with b;injection b with b;subst b Y Z;have ah:L.cell? ⟨g,k*6+5,O⟩=E (I J t.waits):=z 5 (by omega);have a:=e.o;simp only[Aj,Ev.zero] at a;have ai:=a.cell 0;have aj:=a.cell 1;have ak:=a.cell 2;have al:=a.cell 3;have am:=a.cell 4;have an:=a.cell 5;have ao:=a.cell 6;have ap:=a.cell 7;have aq:=a.frozen 0;have ar:=a.frozen 1;have au:=a.frozen 2;have av:=a.frozen 3;have aw:=a.frozen 4;have ax:=a.frozen 5;have ay:=a.frozen 6;have az:=a.frozen 7;have l:=a.lt;have i:=Af<|M.o.done D (I J 0) (I J 0) (I J 0) (I J 0) (I J 0) (I J 0) (I J 0) (I J 0);clear y e a x H z X;go_wp2;exact Ao (JQ _ _ _ _ _ _ _ _ _ _ _ _ rfl rfl i.o.2.2.2) rfl ⟨_,rfl,i.o.1,i.o.2.1,i.o.2.2.1⟩
theorem T2{B:Nat}{W:U}{d:Wd}{v u ve:N}(h:Wk B m W d v u (C (E ⟨g,0,O⟩) n c) ve)(j:BL d){t:Th}{l:List (List Bb)}(r:d.live k=E (t,l))(F:t.waits=0)(G:t.begun=false)(L:d.es.length<=100000):
 Calls prog 442 #[Q (E ⟨m,0,O⟩),I J (k:Int)] W λw ae=>Bt B m W v u (C (E ⟨g,0,O⟩) n c) ve (d.put k t.tx {t with begun:=true} (evB k)) w ae:=by
 have af:B<=W.heap.size:=by have:=h.le;have:=h.box.lt;omega
 obtain⟨_,e,o,ag⟩:=BE r;simp only[D6] at e o;have M:=Af<|Dw (h.alloc D8) j r;have H:=Af h;have S:=Af e;have aq:(t.waits !=0)=false:=by simpa using F
 have ah:=Af (show(Cy {t with begun:=true}).toList=(Cy t).toList.set 2 (T true) from rfl)
 have ai:Hid (BL ⟨d.p,d.ts.set k {t with begun:=true},d.es⟩):=Af (j.set λar p=>by
  rw[o] at p;injection p with p;subst p;have b:=j.th _ _ _ e o;exact⟨b.t0,b.t1,b.a0,b.w,λ_=>rfl,b.r,b.a1,b.a2,b.a3⟩)
 have aj:Hid ((d.ts.set k {t with begun:=true})[k]?=E {t with begun:=true}):=Af<|El (Am.1 e).1;go_in;go_wp2_with fail;refine M.o.mono ?_;rintro w X ⟨rfl,au,Y⟩;have x:=Nx.start H.o Y;have ak:=Af x;obtain⟨av,aw,al,_,ax,ay,az,y,Z⟩:=x.wk.thAt S.o;injection al with i am an;injection i with i;injection i with i;subst i am an;have a0:X.cell? ⟨g,k*6+5,O⟩=E (I J t.waits):=y 5 (by omega);have ao:X.cell? ⟨g,k*6+2,O⟩=E (T t.begun):=y 2 (by omega);rw[G] at ao;have ap:=Z<|k*6+2;have z:=ak.o.setTh (t':={t with begun:=true}) S.o (by omega) ah.o;have A:=Af<|CM z.wk ai.o aj.o L (evB k);have aa:=Af z;clear Y x z M H y Z G L;simp only[Aj,evB] at A;go_wp2_with fail;refine A.o.mono ?_;rintro w a1 ⟨a2,rfl,ab,ac,ad⟩;have D:=aa.o.step ab ac ad;have a:=D.o;simp only[Aj,Ev.zero] at a;have a3:=a.cell 0;have a4:=a.cell 1;have a5:=a.cell 2;have a6:=a.cell 3;have a7:=a.cell 4;have a8:=a.cell 5;have a9:=a.cell 6;have ba:=a.cell 7;have bb:=a.frozen 0;have bc:=a.frozen 1;have ap:=a.frozen 2;have bd:=a.frozen 3;have be:=a.frozen 4;have bf:=a.frozen 5;have bg:=a.frozen 6;have bh:=a.frozen 7;have l:=a.lt;have q:=Af<|D.done af (I J 1) (I J (CC k t.tx)) (I J k) (I J 0) (I J 0) (I J 0) (I J 0) (I J 0);clear ab ac ad D a A aa;go_wp2;exact Ao (JQ _ _ _ _ _ _ _ _ _ _ _ _ rfl rfl q.o.2.2.2) rfl ⟨_,rfl,q.o.1,q.o.2.1,q.o.2.2.1⟩
theorem Nx.drewN{B:Nat}{W X:U}{d:Wd}{v u z y ve:N}(h:Nx B n W X d v u z y ve)(m:Nat):Nx B n W (X.drewN m) d v u z y ve:=⟨h.wk.drewN m,h.o.drewN m,h.only.drewN m,h.vs,h.ap⟩
theorem Nx.alloc{B:Nat}{W X:U}{d:Wd}{v u z y ve:N}(h:Nx B n W X d v u z y ve)(o:Obj):Nx B n W (X.alloc o) d v u z y ve:=h.call ((Ae _ _).alloc (Aa _) o)
theorem Xt{d:Wd}(e:BL d){t:Th}{l:List (List Bb)}(m:d.ts[k]?=t)(g:d.p.threads[k]?=l)(n:t.begun=true){w:Int}(o:w=4∨w=7∨(w=2/\∃i,(Bk t l)[t.act.toNat]?=E i/\i.kind≠4)):BL ⟨d.p,d.ts.set k {t with waits:=w},d.es⟩:=e.set λp b=>by
 rw[g] at b;injection b with b;subst b;have a:=e.th _ _ _ m g;refine⟨a.t0,a.t1,a.a0,?_,λ_=>n,a.r,a.a1,λj=>?_,a.a3⟩
 .simp only;omega
 .rcases o with h|h|h
  .simp only at j;omega
  .simp only at j;omega
  .exact h.2
theorem Aay{B:Nat}{W:U}{d:Wd}{v u ve:N}(h:Wk B m W d v u (C g n c) ve)(y:BL d){t:Th}{l:List (List Bb)}(M:d.live k=E (t,l))(ai:t.waits=0)(S:t.begun=true)(aj:d.es.length<=100000)(X:(Bk t l)[t.act.toNat]?=O):
 Calls prog 442 #[m,(k:Int)] W λY a4=>Bt B m W v u (C g n c) ve (d.put k t.tx {t with waits:=4} (RU 4)) Y a4:=by
 have a5:B<=W.heap.size:=by have:=h.le;have:=h.box.lt;omega
 let⟨_,p,q,ak⟩:=BE M;simp only[D6] at p q;have a6:=Af<|Dw (h.alloc D8) y M;have H:=Af h;have a7:=Af p;have b1:(t.waits !=0)=false:=by simpa using ai
 have r:=y.th _ _ _ p q;have b2:=Af<|h.txsAt q;have z:=Af y;have Z:=Af p;have w:=Af q;have a8:=Af ak;clear ai;clear h y M p q ak;go_in;go_wp2_with fail;refine a6.o.mono ?_;rintro Y b ⟨rfl,b3,al⟩;have j:=Nx.start H al;have am:=Af j;let⟨b4,an,a9,_,ao,b5,b6,o,ap⟩:=j.wk.thAt a7;injection a9 with x ba bb;injection x with x;injection x with x;subst x ba bb;have aq:b.cell? ⟨g,k*6+5,O⟩=t.waits:=o 5 (by omega);have ar:b.cell? ⟨g,k*6+2,O⟩=t.begun:=o 2 (by omega);have au:b.cell? ⟨g,k*6,O⟩=t.tx:=o 0 (by omega);have aa:b.cell? ⟨g,k*6+1,O⟩=t.act:=o 1 (by omega);rw[S] at ar;have ab:=ap<|k*6+5;obtain⟨b7,b8,b9,rfl,ca,av,ac⟩:=j.wk.txsAt w;have bc:=j.wk.box.cell 1;have bd:=j.wk.box.lt;have be:=Ad b _ av;have cb:=(Am.1 w).1;have cc:k<=4:=by have:=(AM z.o.ok).2.2.2.1;omega
 have cd:l.length<=3:=by
  have ad:=(AM z.o.ok).2.2.2.2.2 l<|Ap w;exact(Bp ad).1
 obtain⟨i,A⟩:∃i:Nat,t.tx=(i:Int):=⟨t.tx.toNat,by have:=r.t0;omega⟩;obtain⟨D,F⟩:∃D:Nat,t.act=(D:Int):=⟨t.act.toNat,by have:=r.a0;omega⟩;have bf:i<l.length:=by have:=r.t1;have:=a8.o;omega
 obtain⟨e,G⟩:∃e,l[i]?=E e:=⟨l[i],An bf⟩;have aw:Hid (Bk t l=e):=Af (by unfold Bk;rw[A,D6,G];rfl)
 have ce:e.length<=6:=by
  have ad:=(AM z.o.ok).2.2.2.2.2 l<|Ap w;exact(CG ((Bp ad).2 e (Ap G))).2.1
 have cf:D<=e.length:=by have:=r.a1;rw[aw.o] at this;omega
 obtain⟨Au,cg,rfl⟩:=ac.shape;obtain⟨ch,ci,cj,rfl,ax,ae,_,ck⟩:=ac.at G;obtain⟨bg,bh,rfl⟩:=ae.shape;have bi:=Ad b _ ax;rw[A] at au;rw[F] at aa;have cl:=Af A;have cn:=Af F;have co:(0:Int)<=(k:Int):=by omega
 have cp:(k:Int)<(d.p.threads.length:Int):=by omega
 have cq:(0:Int)<=(i:Int):=by omega
 have cr:(i:Int)<(l.length:Int):=by omega
 have bj:D=e.length:=by
  rw[aw.o,F,D6] at X;have:=List.getElem?_eq_none_iff.1 X;omega
 subst bj;clear X;have ay:=Af o;have bk:=Af S;clear S A F G ac al j ap o r;go_wp2;go_quiet (fail);have az:=Af<|am.o.drewN nq;have bl:(b.drewN nq).cell? ⟨g,k*6+1,O⟩=E (e.length:Int):=aa;have bm:(b.drewN nq).cell? ⟨g,k*6+5,O⟩=t.waits:=aq;have bn:(b.drewN nq).frozen? ⟨g,k*6+5,O⟩=false:=ab;have bo:g<(b.drewN nq).heap.size:=ao;have bp:Hid ((b.drewN nq).cell? ⟨g,k*6+3,O⟩=t.adding/\(b.drewN nq).cell? ⟨g,k*6+4,O⟩=t.read):=Af ⟨ay.o 3 (by omega),ay.o 4 (by omega)⟩
 have bq:Hid (CQ (b.drewN nq) (C bg e.length bh) e):=Af (by
  obtain⟨br,an,bs,bt,bu,bv,bw,bz,b0⟩:=ae;exact⟨br,an,bs,bt,bu,bv,bw,bz,b0⟩)
 generalize b.drewN nq=cs at az bl bm bn bo bp bq|-
 all_goals (
  have af:=((az.o.setTh (t':={t with waits:=4}) Z (by omega:5<6) rfl).alloc (K (Aj (RU 4)) AJ));have ag:=Af<|CM af.wk (Xt z Z w bk (.inl rfl)) (El (Am.1 Z).1) aj (RU 4);have a0:=Af af;simp only[Aj,RU] at ag;go_wp2_with fail;refine ag.o.mono ?_;rintro Y ct ⟨cu,rfl,a1,a2,a3⟩;have ah:=a0.o.step a1 a2 a3;have a:=ah.o;simp only[Aj,Ev.zero] at a;have cv:=a.cell 0;have cw:=a.cell 1;have cx:=a.cell 2;have cy:=a.cell 3;have cz:=a.cell 4;have c0:=a.cell 5;have c1:=a.cell 6;have c2:=a.cell 7;have c3:=a.frozen 0;have c4:=a.frozen 1;have c5:=a.frozen 2;have c6:=a.frozen 3;have c7:=a.frozen 4;have ab:=a.frozen 5;have c8:=a.frozen 6;have c9:=a.frozen 7;have l:=a.lt;have L:=Af<|ah.done a5 (I J 4) (CC k t.tx) () () () () () ();go_wp2;exact Ao (JQ _ _ _ _ _ _ _ _ _ _ _ _ rfl rfl L.o.2.2.2) rfl ⟨_,rfl,L.o.1,L.o.2.1,L.o.2.2.1⟩)
theorem Aaz{B:Nat}{W:U}{d:Wd}{v u ve:N}(h:Wk B m W d v u (C g n c) ve)(an:BL d){t:Th}{l:List (List Bb)}(ax:d.live k=E (t,l))(bm:t.waits=0)(ao:t.begun=true)(bn:d.es.length<=100000){a:Bb}(ae:(Bk t l)[t.act.toNat]?=a)(ay:a.kind=3):
 Calls prog 442 #[m,(k:Int)] W λM Z=>Bt B m W v u (C g n c) ve (d.put k t.tx {t with waits:=2} (Kx t a)) M Z:=by
 have ck:B<=W.heap.size:=by have:=h.le;have:=h.box.lt;omega
 let⟨_,af,ag,bo⟩:=BE ax;simp only[D6] at af ag;have cl:=Af<|Dw (h.alloc D8) an ax;have H:=Af h;have cn:=Af af;have dv:(t.waits !=0)=false:=by simpa using bm
 have aa:=an.th _ _ _ af ag;have dw:=Af<|h.txsAt ag;have ap:=Af an;have az:=Af af;have ah:=Af ag;have co:=Af bo;clear bm;obtain⟨D,F,a0⟩:∃D F,(if t.adding=true then evW a.cell (a.val+t.read) else evR a.cell)=(⟨2,0,0,a.cell,D,0,F,0⟩:Ev):=by split<;>exact⟨_,_,rfl⟩
 rw[show Kx t a=⟨2,0,0,a.cell,D,0,F,0⟩ from by unfold Kx;rw[ay];simpa using a0];have cp:=Af a0;clear a0;clear h an ax af ag bo;go_in;go_wp2_with fail;refine cl.o.mono ?_;rintro M w ⟨rfl,dx,bp⟩;have ab:=Nx.start H bp;have bq:=Af ab;let⟨dy,br,cq,_,bs,dz,d0,ac,bt⟩:=ab.wk.thAt cn;injection cq with y aq bu;injection y with y;injection y with y;subst y aq bu;have bv:w.cell? ⟨g,k*6+5,O⟩=t.waits:=ac 5 (by omega);have bw:w.cell? ⟨g,k*6+2,O⟩=t.begun:=ac 2 (by omega);have bz:w.cell? ⟨g,k*6,O⟩=t.tx:=ac 0 (by omega);have a1:w.cell? ⟨g,k*6+1,O⟩=t.act:=ac 1 (by omega);rw[ao] at bw;have a2:=bt<|k*6+5;obtain⟨d1,d2,d3,rfl,d4,b0,a3⟩:=ab.wk.txsAt ah;have cr:=ab.wk.box.cell 1;have cs:=ab.wk.box.lt;have ct:=Ad w _ b0;have d5:=(Am.1 ah).1;have d6:k<=4:=by have:=(AM ap.o.ok).2.2.2.1;omega
 have d7:l.length<=3:=by
  have a4:=(AM ap.o.ok).2.2.2.2.2 l<|Ap ah;exact(Bp a4).1
 obtain⟨X,ar⟩:∃X:Nat,t.tx=(X:Int):=⟨t.tx.toNat,by have:=aa.t0;omega⟩;obtain⟨q,au⟩:∃q:Nat,t.act=(q:Int):=⟨t.act.toNat,by have:=aa.a0;omega⟩;have cu:X<l.length:=by have:=aa.t1;have:=co.o;omega
 obtain⟨x,av⟩:∃x,l[X]?=E x:=⟨l[X],An cu⟩;have b1:Hid (Bk t l=x):=Af (by unfold Bk;rw[ar,D6,av];rfl)
 have d8:x.length<=6:=by
  have a4:=(AM ap.o.ok).2.2.2.2.2 l<|Ap ah;exact(CG ((Bp a4).2 x (Ap av))).2.1
 have d9:q<=x.length:=by have:=aa.a1;rw[b1.o] at this;omega
 obtain⟨Au,ea,rfl⟩:=a3.shape;obtain⟨eb,ec,ed,rfl,b2,a5,_,ee⟩:=a3.at av;obtain⟨cv,a6,rfl⟩:=a5.shape;have cw:=Ad w _ b2;rw[ar] at bz;rw[au] at a1;have ef:=Af ar;have eg:=Af au;have eh:(0:Int)<=(k:Int):=by omega
 have ei:(k:Int)<(d.p.threads.length:Int):=by omega
 have ej:(0:Int)<=(X:Int):=by omega
 have ek:(X:Int)<(l.length:Int):=by omega
 have a7:x[q]?=a:=by
  rw[b1.o,au,D6] at ae;exact ae
 have cx:Hid (BL ⟨d.p,d.ts.set k {t with waits:=2},d.es⟩):=Af<|Xt ap az ah ao (.inr (.inr ⟨rfl,a,ae,by omega⟩))
 have cy:Hid (t.adding=true->-1000000000<=a.val+t.read/\a.val+t.read<=1000000000):=Af (λM=>by
  let⟨el,y,_,aq⟩:=aa.a3 M;rw[ae] at y;injection y with y;subst y;exact aq)
 have em:=(Am.1 a7).1;have en:(q==x.length)=false:=by simp;omega
 have eo:(0:Int)<=(q:Int):=by omega
 have ep:(q:Int)<(x.length:Int):=by omega
 have cz:=Af a7;have c0:=Af ay;clear ae a7 ay;have b3:=Af ac;have eq:=Af ao;clear ao ar au av a3 bp ab bt ac aa;go_wp2;go_quiet (fail);have b4:=Af<|bq.o.drewN nq;have b5:(w.drewN nq).cell? ⟨g,k*6+1,O⟩=E (q:Int):=a1;have a8:(w.drewN nq).cell? ⟨g,k*6+5,O⟩=t.waits:=bv;have a9:(w.drewN nq).frozen? ⟨g,k*6+5,O⟩=false:=a2;have ai:g<(w.drewN nq).heap.size:=bs;have ba:Hid ((w.drewN nq).cell? ⟨g,k*6+3,O⟩=t.adding/\(w.drewN nq).cell? ⟨g,k*6+4,O⟩=t.read):=Af ⟨b3.o 3 (by omega),b3.o 4 (by omega)⟩
 have b6:Hid (CQ (w.drewN nq) (C cv x.length a6) x):=Af (by
  obtain⟨c1,br,c2,c3,bb,bc,c4,c5,c6⟩:=a5;exact⟨c1,br,c2,c3,bb,bc,c4,c5,c6⟩)
 clear bz a1 bw bv a2 bs b2 cw b0 ct cr cs a5 bq;generalize w.drewN nq=b at b4 b5 a8 a9 ai ba b6|-;obtain⟨G,L,rfl,bd,bb,bc,_,er⟩:=b6.o.at cz;have c7:=Ad b _ bd;rw[c0.o] at bd;have b7:Hid (Ah ((b.alloc (K (Aj Ev.zero) AJ)).drew) b AJ (Aj Ev.zero)):=Af<|Ah.drew (Ah.new b AJ _);go_wp2_with fail;refine wp_region_held_drew (S:=λZ=>Z.cell? ⟨g,k*6+1,O⟩=E (q:Int)/\Z.cell? ⟨G,L+q*3,O⟩=E (I J 3)/\Z.cell? ⟨G,L+q*3+1,O⟩=a.cell/\Z.cell? ⟨G,L+q*3+2,O⟩=a.val) (by kernel_rfl) ?hS0 (λb8=>?_)
 case hS0=>
  try dsimp only
  go_keep
 refine Ds (i:=1) (v:=(C (E ⟨G,L,O⟩) x.length a6)) rfl (by kernel_rfl) (by kernel_rfl) (by kernel_rfl) (λ_ _ _ h=>h) (Or.inl ⟨by rfl,?_⟩) (by assumption) ?_
 .intro r e
  (try dsimp only at e)
  first|(go_simp;done)|(go_simp;with_reducible rfl)
 try simp only[A6,A7,A4,A3]
 refine Ds (i:=2) (v:=(Q (E ⟨g,k*6,O⟩))) rfl (by kernel_rfl) (by kernel_rfl) (by kernel_rfl) (λ_ _ _ h=>h) (Or.inl ⟨by rfl,?_⟩) (by assumption) ?_
 .intro r e
  (try dsimp only at e)
  first|(go_simp;done)|(go_simp;with_reducible rfl)
 try simp only[A6,A7,A4,A3]
 refine Ds (i:=3) (v:=(Q (E ⟨g,k*6,O⟩))) rfl (by kernel_rfl) (by kernel_rfl) (by kernel_rfl) (λ_ _ _ h=>h) (Or.inl ⟨by rfl,?_⟩) (by assumption) ?_
 .intro r e
  (try dsimp only at e)
  first|(go_simp;done)|(go_simp;with_reducible rfl)
 try simp only[A6,A7,A4,A3]
 refine Ds (i:=4) (v:=(Q (E ⟨g,k*6+1,O⟩))) rfl (by kernel_rfl) (by kernel_rfl) (by kernel_rfl) (λ_ _ _ h=>h) (Or.inl ⟨by rfl,?_⟩) (by assumption) ?_
 .intro r e
  (try dsimp only at e)
  first|(go_simp;done)|(go_simp;with_reducible rfl)
 try simp only[A6,A7,A4,A3]
 refine Ds (i:=5) (v:=(q:Int)) rfl (by kernel_rfl) (by kernel_rfl) (by kernel_rfl) (λ_ _ _ h=>h) (Or.inl ⟨by rfl,?_⟩) (by assumption) ?_
 .intro r e
  (try dsimp only at e)
  first|(go_simp;done)|(go_simp;with_reducible rfl)
 try simp only[A6,A7,A4,A3]
 refine Ds (i:=6) (v:=(Q (E ⟨G,L+q*3,O⟩))) rfl (by kernel_rfl) (by kernel_rfl) (by kernel_rfl) (λ_ _ _ h=>h) (Or.inl ⟨by rfl,?_⟩) (by assumption) ?_
 .intro r e
  (try dsimp only at e)
  first|(go_simp;done)|(go_simp;with_reducible rfl)
 try simp only[A6,A7,A4,A3]
 refine Ds (i:=7) (v:=(Q (E ⟨G,L+q*3,O⟩))) rfl (by kernel_rfl) (by kernel_rfl) (by kernel_rfl) (λ_ _ _ h=>h) (Or.inl ⟨by rfl,?_⟩) (by assumption) ?_
 .intro r e
  (try dsimp only at e)
  first|(go_simp;done)|(go_simp;with_reducible rfl)
 try simp only[A6,A7,A4,A3]
 refine Ds (i:=8) (v:=(I J 3)) rfl (by kernel_rfl) (by kernel_rfl) (by kernel_rfl) (λ_ _ _ h=>h) (Or.inl ⟨by rfl,?_⟩) (by assumption) ?_
 .intro r e
  (try dsimp only at e)
  first|(go_simp;done)|(go_simp;with_reducible rfl)
 try simp only[A6,A7,A4,A3]
 refine Ds (i:=11) (v:=(Q (E ⟨g,k*6,O⟩))) rfl (by kernel_rfl) (by kernel_rfl) (by kernel_rfl) (λ_ _ _ h=>h) (Or.inl ⟨by rfl,?_⟩) (by assumption) ?_
 .intro r e
  (try dsimp only at e)
  first|(go_simp;done)|(go_simp;with_reducible rfl)
 try simp only[A6,A7,A4,A3]
 refine Ds (i:=12) (v:=(C (E ⟨G,L,O⟩) x.length a6)) rfl (by kernel_rfl) (by kernel_rfl) (by kernel_rfl) (λ_ _ _ h=>h) (Or.inl ⟨by rfl,?_⟩) (by assumption) ?_
 .intro r e
  (try dsimp only at e)
  first|(go_simp;done)|(go_simp;with_reducible rfl)
 try simp only[A6,A7,A4,A3]
 refine Ds (i:=13) (v:=(Q (E ⟨g,k*6,O⟩))) rfl (by kernel_rfl) (by kernel_rfl) (by kernel_rfl) (λ_ _ _ h=>h) (Or.inl ⟨by rfl,?_⟩) (by assumption) ?_
 .intro r e
  (try dsimp only at e)
  first|(go_simp;done)|(go_simp;with_reducible rfl)
 try simp only[A6,A7,A4,A3]
 refine Ds (i:=14) (v:=(Q (E ⟨g,k*6,O⟩))) rfl (by kernel_rfl) (by kernel_rfl) (by kernel_rfl) (λ_ _ _ h=>h) (Or.inl ⟨by rfl,?_⟩) (by assumption) ?_
 .intro r e
  (try dsimp only at e)
  first|(go_simp;done)|(go_simp;with_reducible rfl)
 try simp only[A6,A7,A4,A3]
 refine Ds (i:=15) (v:=(Q (E ⟨g,k*6+1,O⟩))) rfl (by kernel_rfl) (by kernel_rfl) (by kernel_rfl) (λ_ _ _ h=>h) (Or.inl ⟨by rfl,?_⟩) (by assumption) ?_
 .intro r e
  (try dsimp only at e)
  first|(go_simp;done)|(go_simp;with_reducible rfl)
 try simp only[A6,A7,A4,A3]
 refine Ds (i:=16) (v:=(q:Int)) rfl (by kernel_rfl) (by kernel_rfl) (by kernel_rfl) (λ_ _ _ h=>h) (Or.inl ⟨by rfl,?_⟩) (by assumption) ?_
 .intro r e
  (try dsimp only at e)
  first|(go_simp;done)|(go_simp;with_reducible rfl)
 try simp only[A6,A7,A4,A3]
 refine Ds (i:=17) (v:=(Q (E ⟨G,L+q*3,O⟩))) rfl (by kernel_rfl) (by kernel_rfl) (by kernel_rfl) (λ_ _ _ h=>h) (Or.inl ⟨by rfl,?_⟩) (by assumption) ?_
 .intro r e
  (try dsimp only at e)
  first|(go_simp;done)|(go_simp;with_reducible rfl)
 try simp only[A6,A7,A4,A3]
 refine Ds (i:=18) (v:=(.agg #[I J 3,a.cell,a.val])) rfl (by kernel_rfl) (by kernel_rfl) (by kernel_rfl) (λ_ _ _ h=>h) (Or.inl ⟨by rfl,?_⟩) (by assumption) ?_
 .intro r e
  (try dsimp only at e)
  first|(go_simp;done)|(go_simp;with_reducible rfl)
 try simp only[A6,A7,A4,A3]
 refine E9 (rs:=[0]) (by kernel_rfl) (by simp) ?_;refine EX rfl (λK z=>?_) Fa;go_simp;refine(Xr _).mono ?_;rintro M be ⟨rfl,A,b9,ca,cb⟩;have cc:=b7.o.below A (by simp);have cd:=A.size;simp only[World.size_drew,Eb] at cd;have c8:be.cell? ⟨b.heap.size+1+1+1,3,O⟩=E (.func (.func 446) #[] #[(b+1:Nat),(b+1+1:Nat)]):=(by simpa[rdV,wrV,adV] using cb.cell 3);go_wp2_with fail;refine z.out _ _ ?_ (λbf=>?_)
 .obtain⟨aj,ak,al,am⟩:=b8;exact⟨(A.cell (by simp;omega)).trans aj,(A.cell (by simp;omega)).trans ak,(A.cell (by simp;omega)).trans al,(A.cell (by simp;omega)).trans am⟩
 clear z K
 try simp only[A6,A7,A4,A3]
 refine Ds (i:=9) (v:=(Q (E ⟨b.heap.size+1+1+1,3,O⟩))) rfl (by kernel_rfl) (by kernel_rfl) (by kernel_rfl) (λ_ _ _ h=>h) (Or.inl ⟨by rfl,?_⟩) (by assumption) ?_
 .intro r e
  (try dsimp only at e)
  first|(go_simp;done)|(go_simp;with_reducible rfl)
 try simp only[A6,A7,A4,A3]
 refine E9 (rs:=[10]) (by kernel_rfl) (by simp) ?_;refine EX rfl (λK z=>?_) Fa;go_simp;refine z.out _ _ ?_ (λc9=>?_)
 .exact bf
 clear z K
 try simp only[A6,A7,A4,A3]
 refine E9 (rs:=[19]) (by kernel_rfl) (by simp) ?_;refine EX rfl (λK z=>?_) Fa;go_simp;have bg:Below b b be:=(Zc b _).drew.trans<|A.mono (by simp);have bh:=AcC ⟨g,k*6,O⟩ ⟨3,a.cell,a.val⟩ t (b+1) (b+1+1) g (k*6) be rfl ((bg.cell (p:=⟨g,k*6+3,O⟩) ai).trans ba.o.1) ((bg.cell (p:=⟨g,k*6+4,O⟩) ai).trans ba.o.2) (by simpa using b9.cell 0) (by simpa using ca.cell 0) cy;rw[cp.o] at bh;simp only[Aj] at bh;refine bh.mono ?_;rintro M ce ⟨rfl,Y⟩;have bi:=cc.below Y (by omega);have j:=bi;simp only[Aj,Ev.zero] at j;have da:=j.cell 0;have db:=j.cell 1;have dc:=j.cell 2;have dd:=j.cell 3;have de:=j.cell 4;have df:=j.cell 5;have dh:=j.cell 6;have di:=j.cell 7;have dj:=j.frozen 0;have dk:=j.frozen 1;have dl:=j.frozen 2;have dm:=j.frozen 3;have dn:=j.frozen 4;have dp:=j.frozen 5;have dq:=j.frozen 6;have dr:=j.frozen 7;have ds:=j.lt;go_wp2_with fail;refine z.out _ _ ?_ (λcf=>?_)
 .obtain⟨aj,ak,al,am⟩:=bf;exact⟨(Y.cell (by simp;omega)).trans aj,(Y.cell (by simp;omega)).trans ak,(Y.cell (by simp;omega)).trans al,(Y.cell (by simp;omega)).trans am⟩
 try simp only[A6,A7,A4,A3]
 refine E9 (rs:=[20]) (by kernel_rfl) (by simp) ?_;refine EX rfl (λK z=>?_) Fa;go_simp;refine z.out _ _ ?_ (λdt=>?_)
 .obtain⟨aj,ak,al,am⟩:=cf;exact⟨(J7 _ _ _ _ _ _ _ _ _ _).cell aj (by simp;omega),(J7 _ _ _ _ _ _ _ _ _ _).cell ak (by simp;omega),(J7 _ _ _ _ _ _ _ _ _ _).cell al (by simp;omega),(J7 _ _ _ _ _ _ _ _ _ _).cell am (by simp;omega)⟩
 try simp only[A6,A7,A4,A3]
 refine wpAnyH_done (by kernel_rfl) ?_ _;have k0:=Xp bi rfl (Aa b) (I J 2) () () a.cell D () F ();obtain⟨k1,k2⟩:=k0;have ad:Below b b ((((((((ce.setCell b (I J 2)).setCell ⟨b.heap.size,1,O⟩ ()).setCell ⟨b.heap.size,2,O⟩ ()).setCell ⟨b.heap.size,3,O⟩ a.cell).setCell ⟨b.heap.size,4,O⟩ D).setCell ⟨b.heap.size,5,O⟩ ()).setCell ⟨b.heap.size,6,O⟩ F).setCell ⟨b.heap.size,7,O⟩ ()):=(((Zc b _).drew.trans (A.mono (by simp))).trans (Y.mono (by omega))).trans k1;generalize ((((((((ce.setCell b (I J 2)).setCell ⟨b.heap.size,1,O⟩ ()).setCell ⟨b.heap.size,2,O⟩ ()).setCell ⟨b.heap.size,3,O⟩ a.cell).setCell ⟨b.heap.size,4,O⟩ D).setCell ⟨b.heap.size,5,O⟩ ()).setCell ⟨b.heap.size,6,O⟩ F).setCell ⟨b.heap.size,7,O⟩ ())=du at k2 ad|-;have es:=(ad.cell (p:=⟨g,k*6+5,O⟩) ai).trans a8;have et:=(ad.frozen (p:=⟨g,k*6+5,O⟩) ai).trans a9;have eu:g<du.heap.size:=by have:=ad.size;omega
 have bj:=(b4.o.call ad).setTh (t':={t with waits:=2}) az (by omega:5<6) rfl;have bk:=Af<|CM bj.wk cx (El (Am.1 az).1) bn ⟨2,0,0,a.cell,D,0,F,0⟩;have cg:=Af bj;simp only[Aj] at bk;have ev:=k2.cell 0;have y:=k2.cell 1;have aq:=k2.cell 2;have bu:=k2.cell 3;have ew:=k2.cell 4;have ex:=k2.cell 5;have ey:=k2.cell 6;have ez:=k2.cell 7;have e0:=k2.lt;go_wp2_with fail;refine bk.o.mono ?_;rintro M e1 ⟨e2,rfl,ch,ci,cj⟩;have bl:=cg.o.step ch ci cj;have o:=bl.o;simp only[Aj,Ev.zero] at o;have e3:=o.cell 0;have e4:=o.cell 1;have e5:=o.cell 2;have e6:=o.cell 3;have e7:=o.cell 4;have e8:=o.cell 5;have e9:=o.cell 6;have fa:=o.cell 7;have fb:=o.frozen 0;have fc:=o.frozen 1;have fd:=o.frozen 2;have fe:=o.frozen 3;have ff:=o.frozen 4;have a2:=o.frozen 5;have fg:=o.frozen 6;have fh:=o.frozen 7;have l:=o.lt;have aw:=Af<|bl.done ck (I J 2) (CC k t.tx) () a.cell D () F ();go_wp2;exact Ao (JQ _ _ _ _ _ _ _ _ _ _ _ _ rfl rfl aw.o.2.2.2) rfl ⟨_,rfl,aw.o.1,aw.o.2.1,aw.o.2.2.1⟩
theorem Rc(t:Th)(a:Bb):(Kx t a).kind=2:=by
 unfold Kx;by_cases b:a.kind=1
 .rw[if_pos b];rfl
 .rw[if_neg b];by_cases d:a.kind=2
  .rw[if_pos d];rfl
  .rw[if_neg d];by_cases e:t.adding=true
   .rw[if_pos e];rfl
   .rw[if_neg e];rfl
theorem PS{B:Nat}{W:U}{d:Wd}{v u ve:N}(h:Wk B k W d v u (C g n c) ve)(b:BL d)(q:d.es.length<=100000)(i:Int):
 Calls prog 442 #[k,i] W λl F=>Bt B k W v u (C g n c) ve (d.next i) l F:=by
 unfold Wd.next
 cases j:d.live i with
 |none=>exact Xs h b j
 |some G=>
  obtain⟨a,e⟩:=G;let⟨S,x,r,X⟩:=BE j;obtain⟨y,rfl⟩:∃y:Nat,i=(y:Int):=⟨i.toNat,by omega⟩;simp only[D6] at x r|-;have z:=b.th _ _ _ x r;by_cases t:a.waits≠0
  .rw[if_pos t];exact T1 h b j t
  .rw[if_neg t];have w:a.waits=0:=by omega
   by_cases o:a.begun=false
   .rw[if_pos o];exact T2 h b j w o q
   .rw[if_neg o];have A:a.begun=true:=by simpa using o
    cases m:(Bk a e)[a.act.toNat]? with
    |none=>
     have l:GI a (Bk a e)=RU 4:=by unfold GI;rw[m]
     rw[l];exact Aay h b j w A q m
    |some p=>
     have L:a.tx.toNat<e.length:=by have:=z.t0;have:=z.t1;omega
     have M:e[a.tx.toNat]?=E (Bk a e):=by unfold Bk;rw[An L];rfl
     have D:p.kind=3:=(b.add e (Ap r) _ (Ap M) p (Ap m)).1;have l:GI a (Bk a e)=Kx a p:=by unfold GI;rw[m];simp[D]
     rw[l,Rc a p];exact Aaz h b j w A q m D
theorem Jl(tmps:Array N)(X:U)(b:Nat)(a0 a a2 a3 a4 a5 d e v:N)(g:tmps.getD 8 Ac=b)(i:tmps.getD 9 Ac=v)(h:Ah X b AJ #[a0,a,a2,a3,a4,a5,d,e]):
 (As Tryz.f285 tmps).run prog X=.ok (.tuple #[.agg #[a0,a,a2,a3,a4,a5,d,e],v]) X:=by
 have j:tmps[8]?.getD Ac=b:=by simpa using g
 have k:tmps[9]?.getD Ac=v:=by simpa using i
 let⟨l,m,n,o,p,q,r,t⟩:=Fj h;simp[As,Tryz.f285,j,k,go_sem,l,m,n,o,p,q,r,t]
theorem MO(n:Int)(h:Gt n)(w:U):Calls prog 341 #[n] w λa b=>a=true/\w=b:=by
 obtain⟨d,e⟩:=h;go_in;go_wp2;go_ret;exact⟨rfl,rfl⟩
theorem AaA(tmps:Array N)(X:U)(b:Nat)(a0 a a2 a3 a4 a5 d e v:N)(g:tmps.getD 6 Ac=b)(i:tmps.getD 7 Ac=v)(h:Ah X b AJ #[a0,a,a2,a3,a4,a5,d,e]):
 (As Tryz.f340 tmps).run prog X=.ok (.tuple #[.agg #[a0,a,a2,a3,a4,a5,d,e],v]) X:=by
 have j:tmps[6]?.getD Ac=b:=by simpa using g
 have k:tmps[7]?.getD Ac=v:=by simpa using i
 let⟨l,m,n,o,p,q,r,t⟩:=Fj h;simp[As,Tryz.f340,j,k,go_sem,l,m,n,o,p,q,r,t]
theorem PT{B:Nat}{W:U}{d:Wd}{u z ve:N}(h:Wk B i W d u z (C g n c) ve)(A:BL d){t:Th}{l:List (List Bb)}(ak:d.live k=E (t,l))(al:d.es.length<=100000)(kind:Int):
 Calls prog 340 #[i,(k:Int),kind] W λam bk=>Bt B i W u z (C g n c) ve (d.ends k t kind) am bk:=by
 have bl:B<=W.heap.size:=by have:=h.le;have:=h.box.lt;omega
 let⟨_,D,F,bm⟩:=BE ak;simp only[D6] at D F;have S:=A.th _ _ _ D F;obtain⟨o,an⟩:∃o:Nat,t.tx=(o:Int):=⟨t.tx.toNat,by have:=S.t0;omega⟩
 have b7:l.length<=3:=by
  have bn:=(AM A.ok).2.2.2.2.2 l<|Ap F;exact(Bp bn).1
 have b8:o<=3:=by have:=S.t1;omega
 have b9:k<=4:=by
  have:=(AM A.ok).2.2.2.1;have:=(Am.1 F).1;omega
 have Y:=Af<|Nx.start (X:=W.alloc D8) h (m:=0) rfl;have q:=Af D;have ao:=Af an;have Z:=Af<|CM Y.o.wk A D al (RU kind);simp only[Aj,RU] at Z;clear h A ak D F bm S an al;go_in;go_wp2_with fail;refine Z.o.mono ?_;rintro am a ⟨ap,rfl,aq,ar,au⟩;have G:=Y.o.step aq ar au;let⟨ca,cb,bo,_,j,av,cc,w,x⟩:=G.wk.thAt q;injection bo with y aw ax;injection y with y;injection y with y;subst y aw ax;replace av:k<d.ts.length:=av;have ay:a.cell? ⟨i,2,O⟩=E (C g d.ts.length c):=G.wk.box.cell 2;have bp:=G.wk.box.lt;have aa:a.cell? ⟨g,k*6,O⟩=t.tx:=w 0 (by omega);have az:a.cell? ⟨g,k*6+1,O⟩=t.act:=w 1 (by omega);have a0:a.cell? ⟨g,k*6+2,O⟩=t.begun:=w 2 (by omega);have a1:a.cell? ⟨g,k*6+3,O⟩=t.adding:=w 3 (by omega);have a2:a.cell? ⟨g,k*6+4,O⟩=t.read:=w 4 (by omega);have a3:a.cell? ⟨g,k*6+5,O⟩=t.waits:=w 5 (by omega);have ab:=x<|k*6;have ac:=x<|k*6+1;have ad:=x<|k*6+2;have ae:=x<|k*6+3;have af:=x<|k*6+4;have ag:=x<|k*6+5;rw[ao.o] at aa;have cd:(0:Int)<=(k:Int):=by omega
 have ce:(k:Int)<(d.ts.length:Int):=by omega
 have a4:=Af G;clear G aq ar au Z Y w x;go_wp2_with fail;refine wp_region_still_tail 15 (by kernel_rfl) (by kernel_rfl) ?_
 change wpStill _ _ (a.alloc (K #[kind,(CC k t.tx),(),(),(),(),(),()] AJ)).drew (λbq=>wpList _ _ _ _ bq (a.alloc (K #[kind,(CC k t.tx),(),(),(),(),(),()] AJ)).drew) _ _
 have ah:Nx B i W (a.alloc (K #[kind,(CC k t.tx),(),(),(),(),(),()] AJ)).drew _ u z _ ve ap:=(a4.o.alloc _).drewN 1;have ai:Ah (a.alloc (K #[kind,(CC k t.tx),(),(),(),(),(),()] AJ)).drew a AJ #[kind,(CC k t.tx),(),(),(),(),(),()]:=Ah.drew<|Ah.new a AJ _;have e:Below a a (a.alloc (K #[kind,(CC k t.tx),(),(),(),(),(),()] AJ)).drew:=(Zc a _).drew;generalize (a.alloc (K #[kind,(CC k t.tx),(),(),(),(),(),()] AJ)).drew=a5 at ah ai e|-;have br:=(e.cell (p:=⟨i,2,O⟩) bp).trans ay;have bs:=(e.cell (p:=⟨g,k*6,O⟩) j).trans aa;have bt:=(e.cell (p:=⟨g,k*6+1,O⟩) j).trans az;have bu:=(e.cell (p:=⟨g,k*6+2,O⟩) j).trans a0;have bv:=(e.cell (p:=⟨g,k*6+3,O⟩) j).trans a1;have bw:=(e.cell (p:=⟨g,k*6+4,O⟩) j).trans a2;have bz:=(e.cell (p:=⟨g,k*6+5,O⟩) j).trans a3;have b0:=(e.frozen (p:=⟨g,k*6,O⟩) j).trans ab;have b1:=(e.frozen (p:=⟨g,k*6+1,O⟩) j).trans ac;have b2:=(e.frozen (p:=⟨g,k*6+2,O⟩) j).trans ad;have b3:=(e.frozen (p:=⟨g,k*6+3,O⟩) j).trans ae;have b4:=(e.frozen (p:=⟨g,k*6+4,O⟩) j).trans af;have b5:=(e.frozen (p:=⟨g,k*6+5,O⟩) j).trans ag;have cf:g<a5.heap.size:=by have:=e.size;omega
 have b6:IntKind.i64.wrap ((o:Int)+1)=(o:Int)+1:=by simp[Uc,Jx,Jf];omega
 have a6:=Af ah;have a7:=Af ai;clear ah ai e a4 ab ac ad ae af ag ay aa az a0 a1 a2 a3;simp only[List.take_succ_cons,List.take_zero,List.drop_succ_cons,List.drop_zero]
 iterate 15 still_step
 refine wpStill_nil ?_;go_upto_region 3 with fail;have a8:=a6.o;have a9:=a8.setTh (k:=k) (r:=0) (t:=t) (t':={t with tx:=t.tx+1}) (v:=(I J ((o:Int)+1))) q (by omega) (by simp[Cy,ao.o]);have ba:=a9.setTh (k:=k) (r:=1) (t:={t with tx:=t.tx+1}) (t':={t with tx:=t.tx+1,act:=0}) (v:=()) (El (by simpa using (Am.1 q).1)) (by omega) (by simp[Cy]);have bb:=ba.setTh (k:=k) (r:=2) (t:={t with tx:=t.tx+1,act:=0}) (t':={t with tx:=t.tx+1,act:=0,begun:=false}) (v:=false) (El (by simpa using (Am.1 q).1)) (by omega) (by simp[Cy]);have bc:=bb.setTh (k:=k) (r:=3) (t:={t with tx:=t.tx+1,act:=0,begun:=false}) (t':={t with tx:=t.tx+1,act:=0,begun:=false,adding:=false}) (v:=false) (El (by simpa using (Am.1 q).1)) (by omega) (by simp[Cy]);have bd:=bc.setTh (k:=k) (r:=4) (t:={t with tx:=t.tx+1,act:=0,begun:=false,adding:=false}) (t':={t with tx:=t.tx+1,act:=0,begun:=false,adding:=false,read:=0}) (v:=()) (El (by simpa using (Am.1 q).1)) (by omega) (by simp[Cy]);have L:=bd.setTh (k:=k) (r:=5) (t:={t with tx:=t.tx+1,act:=0,begun:=false,adding:=false,read:=0}) (t':=⟨t.tx+1,0,false,false,0,0⟩) (v:=()) (El (by simpa using (Am.1 q).1)) (by omega) (by simp[Cy]);simp only[Oq,EV] at L;have be:=a7.o;have bf:=be.far (p:=⟨g,k*6,O⟩) (show a.heap.size≠g by omega)<|I J ((o:Int)+1);have bg:=bf.far (p:=⟨g,k*6+1,O⟩) (show a.heap.size≠g by omega) ();have bh:=bg.far (p:=⟨g,k*6+2,O⟩) (show a.heap.size≠g by omega) false;have bi:=bh.far (p:=⟨g,k*6+3,O⟩) (show a.heap.size≠g by omega) false;have bj:=bi.far (p:=⟨g,k*6+4,O⟩) (show a.heap.size≠g by omega) ();have aj:=bj.far (p:=⟨g,k*6+5,O⟩) (show a.heap.size≠g by omega) ();generalize ((((((a5.setCell ⟨g,k*6,O⟩ (I J ((o:Int)+1))).setCell ⟨g,k*6+1,O⟩ ()).setCell ⟨g,k*6+2,O⟩ false).setCell ⟨g,k*6+3,O⟩ false).setCell ⟨g,k*6+4,O⟩ ()).setCell ⟨g,k*6+5,O⟩ ())=cg at L aj|-;let⟨ch,y,aw,ax,ci,cj,ck,cl⟩:=Fj aj;have b:=L.o;simp only[Aj,Ev.zero] at b;have cn:=b.cell 0;have co:=b.cell 1;have cp:=b.cell 2;have cq:=b.cell 3;have cr:=b.cell 4;have cs:=b.cell 5;have ct:=b.cell 6;have cu:=b.cell 7;have ab:=b.frozen 0;have ac:=b.frozen 1;have ad:=b.frozen 2;have ae:=b.frozen 3;have af:=b.frozen 4;have ag:=b.frozen 5;have cv:=b.frozen 6;have cw:=b.frozen 7;have l:=b.lt;have M:=Af<|L.done bl kind (CC k t.tx) () () () () () ();go_wp2_with fail;refine Ao (AaA _ _ _ _ _ _ _ _ _ _ _ _ rfl rfl M.o.2.2.2) rfl ?_;exact⟨rfl,ap,M.o.1,M.o.2.1,M.o.2.2.1⟩
theorem AaB{B:Nat}{W:U}{d:Wd}{u z ve:N}(h:Wk B k W d u z (C g n c) ve)(l:BL d)(v:Int){i:Int}(m:d.live i=O)(b:Bool):
 Calls prog 285 #[k,i,v,b] W λo r=>Bt B k W u z (C g n c) ve ((Ev.zero,false),d) o r:=by
 have t:B<=W.heap.size:=by have:=h.le;have:=h.box.lt;omega
 have p:=Af<|NF (h.alloc D8) l m;have H:=Af h;go_in;go_wp2_with fail;refine p.o.mono ?_;rintro o x ⟨rfl,y,q⟩;have j:=Nx.start H q;have w:=Af j;have a:=j.o;simp only[Aj,Ev.zero] at a;have A:=a.cell 0;have D:=a.cell 1;have F:=a.cell 2;have G:=a.cell 3;have L:=a.cell 4;have M:=a.cell 5;have S:=a.cell 6;have X:=a.cell 7;have Y:=a.frozen 0;have Z:=a.frozen 1;have aa:=a.frozen 2;have ab:=a.frozen 3;have ac:=a.frozen 4;have ad:=a.frozen 5;have ae:=a.frozen 6;have af:=a.frozen 7;have ag:=a.lt;have e:=Af<|j.done t () () () () () () () ();clear q j a p H w;go_wp2_with fail;refine Ao (Jl _ _ _ _ _ _ _ _ _ _ _ _ rfl rfl e.o.2.2.2) rfl ?_
 first
 |exact⟨_,rfl,e.o.1,e.o.2.1,e.o.2.2.1⟩
 |exact⟨rfl,_,e.o.1,e.o.2.1,e.o.2.2.1⟩
theorem AaC{B:Nat}{W:U}{d:Wd}{u z ve:N}(h:Wk B m W d u z (C g n c) ve)(q:BL d)(v:Int){t:Th}{l:List (List Bb)}(o:d.live k=E (t,l))(r:t.waits=0)(b:Bool):
 Calls prog 285 #[m,(k:Int),v,b] W λw F=>Bt B m W u z (C g n c) ve ((Ev.zero,false),d) w F:=by
 have G:B<=W.heap.size:=by have:=h.le;have:=h.box.lt;omega
 let⟨_,p,x,L⟩:=BE o;simp only[D6] at p x;have y:=Af<|Dw (h.alloc D8) q o;have H:=Af h;have M:=Af p;go_in;go_wp2_with fail;refine y.o.mono ?_;rintro w S ⟨rfl,ad,A⟩;have i:=Nx.start H A;have X:=Af i;let⟨ae,af,Y,_,ag,ah,ai,D,Z⟩:=i.wk.thAt M;injection Y with j aa ab;injection j with j;injection j with j;subst j aa ab;have ac:S.cell? ⟨g,k*6+5,O⟩=t.waits:=D 5 (by omega);rw[r] at ac;have a:=i.o;simp only[Aj,Ev.zero] at a;have aj:=a.cell 0;have ak:=a.cell 1;have al:=a.cell 2;have am:=a.cell 3;have an:=a.cell 4;have ao:=a.cell 5;have ap:=a.cell 6;have aq:=a.cell 7;have ar:=a.frozen 0;have au:=a.frozen 1;have av:=a.frozen 2;have aw:=a.frozen 3;have ax:=a.frozen 4;have ay:=a.frozen 5;have az:=a.frozen 6;have a0:=a.frozen 7;have l:=a.lt;have e:=Af<|i.done G () () () () () () () ();clear A i a y H X D Z r;go_wp2_with fail;refine Ao (Jl _ _ _ _ _ _ _ _ _ _ _ _ rfl rfl e.o.2.2.2) rfl ?_
 first
 |exact⟨_,rfl,e.o.1,e.o.2.1,e.o.2.2.1⟩
 |exact⟨rfl,_,e.o.1,e.o.2.1,e.o.2.2.1⟩
theorem Xu{B:Nat}{W:U}{d:Wd}{u z ve:N}(h:Wk B m W d u z (C g n c) ve)(p:BL d)(v:Int){t:Th}{l:List (List Bb)}(j:d.live k=E (t,l))(q:t.waits=7):
 Calls prog 285 #[m,(k:Int),v,false] W λr D=>Bt B m W u z (C g n c) ve ((Ev.zero,false),d) r D:=by
 have F:B<=W.heap.size:=by have:=h.le;have:=h.box.lt;omega
 let⟨_,o,w,G⟩:=BE j;simp only[D6] at o w;have x:=Af<|Dw (h.alloc D8) p j;have H:=Af h;have L:=Af o;go_in;go_wp2_with fail;refine x.o.mono ?_;rintro r M ⟨rfl,ac,y⟩;have e:=Nx.start H y;have S:=Af e;let⟨ad,ae,X,_,af,ag,ah,A,Y⟩:=e.wk.thAt L;injection X with i Z aa;injection i with i;injection i with i;subst i Z aa;have ab:M.cell? ⟨g,k*6+5,O⟩=t.waits:=A 5 (by omega);rw[q] at ab;have a:=e.o;simp only[Aj,Ev.zero] at a;have ai:=a.cell 0;have aj:=a.cell 1;have ak:=a.cell 2;have al:=a.cell 3;have am:=a.cell 4;have an:=a.cell 5;have ao:=a.cell 6;have ap:=a.cell 7;have aq:=a.frozen 0;have ar:=a.frozen 1;have au:=a.frozen 2;have av:=a.frozen 3;have aw:=a.frozen 4;have ax:=a.frozen 5;have ay:=a.frozen 6;have az:=a.frozen 7;have l:=a.lt;have b:=Af<|e.done F () () () () () () () ();clear y e a x H S A Y q;go_wp2_with fail;refine Ao (Jl _ _ _ _ _ _ _ _ _ _ _ _ rfl rfl b.o.2.2.2) rfl ?_
 first
 |exact⟨_,rfl,b.o.1,b.o.2.1,b.o.2.2.1⟩
 |exact⟨rfl,_,b.o.1,b.o.2.1,b.o.2.2.1⟩
theorem Xv{B:Nat}{W:U}{d:Wd}{u z ve:N}(h:Wk B m W d u z (C g n c) ve)(o:BL d)(v:Int){t:Th}{l:List (List Bb)}(i:d.live k=E (t,l))(x:t.waits≠0)(y:d.es.length<=100000):
 Calls prog 285 #[m,(k:Int),v,true] W λp aa=>Bt B m W u z (C g n c) ve (d.ends k t 6) p aa:=by
 have ab:B<=W.heap.size:=by have:=h.le;have:=h.box.lt;omega
 let⟨_,q,A,ac⟩:=BE i;simp only[D6] at q A;have D:=Af<|Dw (h.alloc D8) o i;have H:=Af h;have ad:=Af q;have aj:(t.waits==0)=false:=by simpa using x
 have F:=Af o;have G:=Af i;go_in;go_wp2_with fail;refine D.o.mono ?_;rintro p ae ⟨rfl,ak,L⟩;have j:=Nx.start H L;have M:=Af j;let⟨al,am,af,_,an,ao,ap,S,ag⟩:=j.wk.thAt ad;injection af with e ah ai;injection e with e;injection e with e;subst e ah ai;have aq:ae.cell? ⟨g,k*6+5,O⟩=t.waits:=S 5 (by omega);have r:=Af<|PT j.wk F G y 6;simp only[Bt,Wd.ends,Wd.put,RU,Aj] at r;clear L j D H S ag y F G;go_wp2_with fail;refine r.o.mono ?_;rintro p ar ⟨au,rfl,X,Y,Z⟩;have w:=M.o.step X Y Z;have a:=w.o;simp only[Aj,Ev.zero] at a;have av:=a.cell 0;have aw:=a.cell 1;have ax:=a.cell 2;have ay:=a.cell 3;have az:=a.cell 4;have a0:=a.cell 5;have a1:=a.cell 6;have a2:=a.cell 7;have a3:=a.frozen 0;have a4:=a.frozen 1;have a5:=a.frozen 2;have a6:=a.frozen 3;have a7:=a.frozen 4;have a8:=a.frozen 5;have a9:=a.frozen 6;have ba:=a.frozen 7;have l:=a.lt;have b:=Af<|w.done ab (I J 6) (CC k t.tx) () () () () () ();clear X Y Z w a r M;go_wp2_with fail;refine Ao (Jl _ _ _ _ _ _ _ _ _ _ _ _ rfl rfl b.o.2.2.2) rfl ?_
 first
 |exact⟨_,rfl,b.o.1,b.o.2.1,b.o.2.2.1⟩
 |exact⟨rfl,_,b.o.1,b.o.2.1,b.o.2.2.1⟩
theorem T3{B:Nat}{W:U}{d:Wd}{u z ve:N}(h:Wk B m W d u z (C g n c) ve)(o:BL d)(v:Int){t:Th}{l:List (List Bb)}(i:d.live k=E (t,l))(Z:t.waits=4)(x:d.es.length<=100000):
 Calls prog 285 #[m,(k:Int),v,false] W λp aa=>Bt B m W u z (C g n c) ve (d.ends k t 5) p aa:=by
 have ab:B<=W.heap.size:=by have:=h.le;have:=h.box.lt;omega
 let⟨_,q,y,ac⟩:=BE i;simp only[D6] at q y;have A:=Af<|Dw (h.alloc D8) o i;have H:=Af h;have ad:=Af q;have D:=Af o;have F:=Af i;clear h o i q y ac;go_in;go_wp2_with fail;refine A.o.mono ?_;rintro p ae ⟨rfl,ak,G⟩;have j:=Nx.start H G;have L:=Af j;let⟨al,am,af,_,an,ao,ap,M,ag⟩:=j.wk.thAt ad;injection af with e ah ai;injection e with e;injection e with e;subst e ah ai;have aj:ae.cell? ⟨g,k*6+5,O⟩=t.waits:=M 5 (by omega);rw[Z] at aj;have r:=Af<|PT j.wk D F x 5;simp only[Bt,Wd.ends,Wd.put,RU,Aj] at r;clear G j A H M ag x D F;go_wp2_with fail;refine r.o.mono ?_;rintro p aq ⟨ar,rfl,S,X,Y⟩;have w:=L.o.step S X Y;have a:=w.o;simp only[Aj,Ev.zero] at a;have au:=a.cell 0;have av:=a.cell 1;have aw:=a.cell 2;have ax:=a.cell 3;have ay:=a.cell 4;have az:=a.cell 5;have a0:=a.cell 6;have a1:=a.cell 7;have a2:=a.frozen 0;have a3:=a.frozen 1;have a4:=a.frozen 2;have a5:=a.frozen 3;have a6:=a.frozen 4;have a7:=a.frozen 5;have a8:=a.frozen 6;have a9:=a.frozen 7;have l:=a.lt;have b:=Af<|w.done ab (I J 5) (CC k t.tx) () () () () () ();go_wp2_with fail;refine Ao (Jl _ _ _ _ _ _ _ _ _ _ _ _ rfl rfl b.o.2.2.2) rfl ?_
 first
 |exact⟨_,rfl,b.o.1,b.o.2.1,b.o.2.2.1⟩
 |exact⟨rfl,_,b.o.1,b.o.2.1,b.o.2.2.1⟩
theorem AaD{B:Nat}{W:U}{d:Wd}{u z ve:N}(h:Wk B m W d u z (C g n c) ve)(G:BL d)(v:Int){t:Th}{l:List (List Bb)}(ac:d.live k=E (t,l))(ad:t.waits=2)(a8:d.es.length<=100000){a:Bb}(L:(Bk t l)[t.act.toNat]?=a)(ae:a.kind=3)(ar:t.adding=false)(A:Gt v)(au:Gt (v+a.val)):
 Calls prog 285 #[m,(k:Int),v,false] W λM o=>Bt B m W u z (C g n c) ve (d.answer (k:Int) v false) M o:=by
 have bq:B<=W.heap.size:=by have:=h.le;have:=h.box.lt;omega
 let⟨_,S,af,a9⟩:=BE ac;simp only[D6] at S af;have br:=Af<|Dw (h.alloc D8) G ac;have H:=Af h;have bs:=Af S;have ag:=G.th _ _ _ S af;have X:=Af G;have ah:=Af S;have Y:=Af af;have bt:=Af a9
 have av:d.answer (k:Int) v false=d.put k t.tx {t with waits:=0,adding:=true,read:=v} (Zx v 3):=by
  unfold Wd.answer;rw[ac];simp only[ad,D6,L];simp[Lp,Th.reads,ae,A,au,ar]
 have bu:Hid (BL ⟨d.p,d.ts.set k {t with waits:=0,adding:=true,read:=v},d.es⟩):=Af (by
  have j:=G.answer (k:Int) v false;rw[av] at j;exact⟨j.ok,j.len,j.th,j.add⟩)
 rw[av];clear av;clear h G ac S af a9;go_in;go_wp2_with fail;refine br.o.mono ?_;rintro M b ⟨rfl,cq,ba⟩;have F:=Nx.start H ba;have bb:=Af F;let⟨cr,cs,A,_,q,ct,cu,D,bc⟩:=F.wk.thAt bs;injection A with Z bv bw;injection Z with Z;injection Z with Z;subst Z bv bw;have aw:b.cell? ⟨g,k*6+5,O⟩=t.waits:=D 5 (by omega);have ax:b.cell? ⟨g,k*6,O⟩=t.tx:=D 0 (by omega);have ay:b.cell? ⟨g,k*6+1,O⟩=t.act:=D 1 (by omega);have az:b.cell? ⟨g,k*6+3,O⟩=t.adding:=D 3 (by omega);have bd:b.cell? ⟨g,k*6+4,O⟩=t.read:=D 4 (by omega);rw[ad] at aw;obtain⟨a0,be,cv,rfl,cw,a1,a2⟩:=F.wk.txsAt Y;have bf:b.cell? ⟨m,1,O⟩=E (C a0 d.p.threads.length be):=F.wk.box.cell 1;have bg:=F.wk.box.lt;have bz:=Ad b _ a1;have cx:=(Am.1 Y).1;have cy:k<=4:=by have:=(AM X.o.ok).2.2.2.1;omega
 have cz:l.length<=3:=by
  have j:=(AM X.o.ok).2.2.2.2.2 l<|Ap Y;exact(Bp j).1
 obtain⟨w,ai⟩:∃w:Nat,t.tx=(w:Int):=⟨t.tx.toNat,by have:=ag.t0;omega⟩;obtain⟨x,aj⟩:∃x:Nat,t.act=(x:Int):=⟨t.act.toNat,by have:=ag.a0;omega⟩;have b0:w<l.length:=by have:=ag.t1;have:=bt.o;omega
 obtain⟨y,aa⟩:∃y,l[w]?=E y:=⟨l[w],An b0⟩;have b1:Hid (Bk t l=y):=Af (by unfold Bk;rw[ai,D6,aa];rfl)
 have c0:y.length<=6:=by
  have j:=(AM X.o.ok).2.2.2.2.2 l<|Ap Y;exact(CG ((Bp j).2 y (Ap aa))).2.1
 have ak:y[x]?=a:=by
  rw[b1.o,aj,D6] at L;exact L
 have c1:=(Am.1 ak).1;obtain⟨Au,b2,rfl⟩:=a2.shape;obtain⟨bh,bi,c2,rfl,a3,a4,_,c3⟩:=a2.at aa;obtain⟨c4,b3,rfl⟩:=a4.shape;obtain⟨al,am,rfl,an,b4,b5,_,c5⟩:=a4.at ak;have b6:=Ad b _ a3;have b7:=Ad b _ an
 have b8:Hid (-1000000<=a.val/\a.val<=1000000):=Af (by
  have j:=(AM X.o.ok).2.2.2.2.2 l<|Ap Y;have b9:=(CG ((Bp j).2 y (Ap aa))).2.2;let⟨bg,ca⟩:=Lm _ _ b9 a<|Ap ak;exact(RT (AM X.o.ok).2.1 ca).2.2)
 rw[ae] at an;rw[ai] at ax;rw[aj] at ay;have c6:=Af ai;have c7:=Af aj;have c8:(0:Int)<=(k:Int):=by omega
 have c9:(k:Int)<(d.p.threads.length:Int):=by omega
 have da:(0:Int)<=(w:Int):=by omega
 have db:(w:Int)<(l.length:Int):=by omega
 have dc:(0:Int)<=(x:Int):=by omega
 have dd:(x:Int)<(y.length:Int):=by omega
 have cb:=G1 b _ bf;have cc:=G1 b _ a1;have cd:=G1 b _ ax;have ce:=G1 b _ a3;have cf:=G1 b _ an;have de:=Af D;have ao:=Af bc;have df:=Af ad;have dh:=Af L;have di:=Af ae;rw[ar] at az;have cg:=Af (λa5=>MO v A a5);have ch:=Af (λa5=>MO (v+a.val) au a5);have dj:IntKind.i64.wrap (v+a.val)=v+a.val:=by have:=b8.o;have:=A.1;have:=A.2;simp[Uc,Jx,Jf];omega
 clear A au ar;clear ai aj aa a2 a4 ak ba F bc D ag ad L ae;go_wp2
 go_region_held3 (λo=>o.cell? ⟨m,1,O⟩=E (C a0 d.p.threads.length be)/\o.cell? ⟨a0,k,O⟩=E (C (E ⟨bh,bi,O⟩) l.length b2)/\o.cell? ⟨g,k*6,O⟩=E (w:Int)/\o.cell? ⟨g,k*6+1,O⟩=E (x:Int)/\o.cell? ⟨bh,bi+w,O⟩=E (C (E ⟨al,am,O⟩) y.length b3)/\o.cell? ⟨al,am+x*3,O⟩=E (I J 3)/\o.cell? ⟨al,am+x*3+1,O⟩=a.cell/\o.cell? ⟨al,am+x*3+2,O⟩=a.val)
  (go_keep) (fail)
 have i:Below b b (b.alloc (K #[I J 3,a.cell,a.val] tA)).drew:=(Zc b _).drew;have ab:Ah (b.alloc (K #[I J 3,a.cell,a.val] tA)).drew b tA #[I J 3,a.cell,a.val]:=Ah.drew<|Ah.new b tA _;generalize (b.alloc (K #[I J 3,a.cell,a.val] tA)).drew=ci at i ab|-;have dk:=(i.cell (p:=⟨g,k*6+1,O⟩) q).trans ay;have dl:=(i.cell (p:=⟨g,k*6+3,O⟩) q).trans az;have dm:=(i.cell (p:=⟨g,k*6+4,O⟩) q).trans bd;have dn:=(i.cell (p:=⟨g,k*6+5,O⟩) q).trans aw;have cj:=(i.frozen (p:=⟨g,k*6+1,O⟩) q).trans<|ao.o _;have ck:=(i.frozen (p:=⟨g,k*6+3,O⟩) q).trans<|ao.o _;have cl:=(i.frozen (p:=⟨g,k*6+4,O⟩) q).trans<|ao.o _;have cn:=(i.frozen (p:=⟨g,k*6+5,O⟩) q).trans<|ao.o _;have dp:g<ci.heap.size:=by have:=i.size;omega
 have dq:=ab.cell 0;have dr:=ab.cell 2;have ds:=ab.lt;have co:=Af<|bb.o.call i;go_wp2_with fail;refine(cg.o _).mono ?_;rintro M cp ⟨rfl,rfl⟩;go_wp2_with fail;refine(ch.o _).mono ?_;rintro M cp ⟨rfl,rfl⟩;have bj:=co.o;have bk:=bj.setTh (k:=k) (r:=5) (t:=t) (t':={t with waits:=0}) (v:=()) ah (by omega) (by simp[Cy]);have bl:=bk.setTh (k:=k) (r:=3) (t:={t with waits:=0}) (t':={t with waits:=0,adding:=true}) (v:=true) (El (by simpa using (Am.1 ah).1)) (by omega) (by simp[Cy]);have ap:=bl.setTh (k:=k) (r:=4) (t:={t with waits:=0,adding:=true}) (t':={t with waits:=0,adding:=true,read:=v}) (v:=v) (El (by simpa using (Am.1 ah).1)) (by omega) (by simp[Cy]);simp only[Oq] at ap;have a6:=Af<|CM ap.wk bu (El (Am.1 ah).1) a8 (Zx v 3);have bm:=Af ap;simp only[Aj,Zx] at a6;go_wp2_with fail;refine a6.o.mono ?_;rintro M dt ⟨du,rfl,bn,bo,bp⟩;have a7:=bm.o.step bn bo bp;have e:=a7.o;simp only[Aj,Ev.zero] at e;have dv:=e.cell 0;have dw:=e.cell 1;have dx:=e.cell 2;have dy:=e.cell 3;have dz:=e.cell 4;have d0:=e.cell 5;have d1:=e.cell 6;have d2:=e.cell 7;have d3:=e.frozen 0;have cj:=e.frozen 1;have d4:=e.frozen 2;have ck:=e.frozen 3;have cl:=e.frozen 4;have cn:=e.frozen 5;have d5:=e.frozen 6;have d6:=e.frozen 7;have l:=e.lt;have aq:=Af<|a7.done bq (I J 3) (CC k t.tx) () () () () v (I J 3);go_wp2;exact Ao (Jl _ _ _ _ _ _ _ _ _ _ _ _ rfl rfl aq.o.2.2.2) rfl ⟨_,rfl,aq.o.1,aq.o.2.1,aq.o.2.2.1⟩
theorem AaE{B:Nat}{W:U}{d:Wd}{u z ve:N}(h:Wk B m W d u z (C g n c) ve)(F:BL d)(v:Int){t:Th}{l:List (List Bb)}(aa:d.live k=E (t,l))(ab:t.waits=2)(a4:d.es.length<=100000){a:Bb}(G:(Bk t l)[t.act.toNat]?=a)(ac:a.kind=3)(a5:t.adding=true):
 Calls prog 285 #[m,(k:Int),v,false] W λap o=>Bt B m W u z (C g n c) ve (d.answer (k:Int) v false) ap o:=by
 have bn:B<=W.heap.size:=by have:=h.le;have:=h.box.lt;omega
 let⟨_,L,ad,a6⟩:=BE aa;simp only[D6] at L ad;have bo:=Af<|Dw (h.alloc D8) F aa;have H:=Af h;have bp:=Af L;have ae:=F.th _ _ _ L ad;have M:=Af F;have af:=Af L;have S:=Af ad;have bq:=Af a6
 have aq:d.answer (k:Int) v false=d.put k t.tx {t with waits:=0,adding:=false,act:=t.act+1} (Zx 0 1):=by
  unfold Wd.answer;rw[aa];simp only[ab,D6,G];simp[Lp,Th.reads,ac,a5]
 have br:Hid (BL ⟨d.p,d.ts.set k {t with waits:=0,adding:=false,act:=t.act+1},d.es⟩):=Af (by
  have j:=F.answer (k:Int) v false;rw[aq] at j;exact⟨j.ok,j.len,j.th,j.add⟩)
 rw[aq];clear aq;clear h F aa L ad a6;go_in;go_wp2_with fail;refine bo.o.mono ?_;rintro ap b ⟨rfl,ck,a7⟩;have D:=Nx.start H a7;have a8:=Af D;let⟨cl,cn,bs,_,w,co,cp,A,a9⟩:=D.wk.thAt bp;injection bs with X bt bu;injection X with X;injection X with X;subst X bt bu;have ar:b.cell? ⟨g,k*6+5,O⟩=t.waits:=A 5 (by omega);have au:b.cell? ⟨g,k*6,O⟩=t.tx:=A 0 (by omega);have av:b.cell? ⟨g,k*6+1,O⟩=t.act:=A 1 (by omega);have aw:b.cell? ⟨g,k*6+3,O⟩=t.adding:=A 3 (by omega);have ba:b.cell? ⟨g,k*6+4,O⟩=t.read:=A 4 (by omega);rw[ab] at ar;obtain⟨ax,bb,cq,rfl,cr,ay,az⟩:=D.wk.txsAt S;have bc:b.cell? ⟨m,1,O⟩=E (C ax d.p.threads.length bb):=D.wk.box.cell 1;have bd:=D.wk.box.lt;have bv:=Ad b _ ay;have cs:=(Am.1 S).1;have ct:k<=4:=by have:=(AM M.o.ok).2.2.2.1;omega
 have cu:l.length<=3:=by
  have j:=(AM M.o.ok).2.2.2.2.2 l<|Ap S;exact(Bp j).1
 obtain⟨x,ag⟩:∃x:Nat,t.tx=(x:Int):=⟨t.tx.toNat,by have:=ae.t0;omega⟩;obtain⟨q,ah⟩:∃q:Nat,t.act=(q:Int):=⟨t.act.toNat,by have:=ae.a0;omega⟩;have bw:x<l.length:=by have:=ae.t1;have:=bq.o;omega
 obtain⟨y,Y⟩:∃y,l[x]?=E y:=⟨l[x],An bw⟩;have bz:Hid (Bk t l=y):=Af (by unfold Bk;rw[ag,D6,Y];rfl)
 have cv:y.length<=6:=by
  have j:=(AM M.o.ok).2.2.2.2.2 l<|Ap S;exact(CG ((Bp j).2 y (Ap Y))).2.1
 have ai:y[q]?=a:=by
  rw[bz.o,ah,D6] at G;exact G
 have cw:=(Am.1 ai).1;obtain⟨Au,b0,rfl⟩:=az.shape;obtain⟨be,bf,cx,rfl,a0,a1,_,cy⟩:=az.at Y;obtain⟨cz,b1,rfl⟩:=a1.shape;obtain⟨aj,ak,rfl,al,b2,b3,_,c0⟩:=a1.at ai;have b4:=Ad b _ a0;have b5:=Ad b _ al
 have c1:Hid (-1000000<=a.val/\a.val<=1000000):=Af (by
  have j:=(AM M.o.ok).2.2.2.2.2 l<|Ap S;have b6:=(CG ((Bp j).2 y (Ap Y))).2.2;let⟨bd,b7⟩:=Lm _ _ b6 a<|Ap ai;exact(RT (AM M.o.ok).2.1 b7).2.2)
 rw[ac] at al;rw[ag] at au;rw[ah] at av;have c2:=Af ag;have b8:=Af ah;have c3:(0:Int)<=(k:Int):=by omega
 have c4:(k:Int)<(d.p.threads.length:Int):=by omega
 have c5:(0:Int)<=(x:Int):=by omega
 have c6:(x:Int)<(l.length:Int):=by omega
 have c7:(0:Int)<=(q:Int):=by omega
 have c8:(q:Int)<(y.length:Int):=by omega
 have b9:=G1 b _ bc;have ca:=G1 b _ ay;have cb:=G1 b _ au;have cc:=G1 b _ a0;have cd:=G1 b _ al;have c9:=Af A;have am:=Af a9;have da:=Af ab;have db:=Af G;have dc:=Af ac;rw[a5] at aw;clear ag ah Y az a1 ai a7 D a9 A ae ab G ac;go_wp2
 go_region_held3 (λo=>o.cell? ⟨m,1,O⟩=E (C ax d.p.threads.length bb)/\o.cell? ⟨ax,k,O⟩=E (C (E ⟨be,bf,O⟩) l.length b0)/\o.cell? ⟨g,k*6,O⟩=E (x:Int)/\o.cell? ⟨g,k*6+1,O⟩=E (q:Int)/\o.cell? ⟨be,bf+x,O⟩=E (C (E ⟨aj,ak,O⟩) y.length b1)/\o.cell? ⟨aj,ak+q*3,O⟩=E (I J 3)/\o.cell? ⟨aj,ak+q*3+1,O⟩=a.cell/\o.cell? ⟨aj,ak+q*3+2,O⟩=a.val)
  (go_keep) (fail)
 have i:Below b b (b.alloc (K #[I J 3,a.cell,a.val] tA)).drew:=(Zc b _).drew;have Z:Ah (b.alloc (K #[I J 3,a.cell,a.val] tA)).drew b tA #[I J 3,a.cell,a.val]:=Ah.drew<|Ah.new b tA _;generalize (b.alloc (K #[I J 3,a.cell,a.val] tA)).drew=ce at i Z|-;have dd:=(i.cell (p:=⟨g,k*6+1,O⟩) w).trans av;have de:=(i.cell (p:=⟨g,k*6+3,O⟩) w).trans aw;have df:=(i.cell (p:=⟨g,k*6+4,O⟩) w).trans ba;have dh:=(i.cell (p:=⟨g,k*6+5,O⟩) w).trans ar;have cf:=(i.frozen (p:=⟨g,k*6+1,O⟩) w).trans<|am.o _;have cg:=(i.frozen (p:=⟨g,k*6+3,O⟩) w).trans<|am.o _;have ch:=(i.frozen (p:=⟨g,k*6+4,O⟩) w).trans<|am.o _;have ci:=(i.frozen (p:=⟨g,k*6+5,O⟩) w).trans<|am.o _;have di:g<ce.heap.size:=by have:=i.size;omega
 have dj:=Z.cell 0;have dk:=Z.cell 2;have dl:=Z.lt;have cj:=Af<|a8.o.call i;have bg:=cj.o;have bh:=bg.setTh (k:=k) (r:=5) (t:=t) (t':={t with waits:=0}) (v:=()) af (by omega) (by simp[Cy]);have bi:=bh.setTh (k:=k) (r:=3) (t:={t with waits:=0}) (t':={t with waits:=0,adding:=false}) (v:=false) (El (by simpa using (Am.1 af).1)) (by omega) (by simp[Cy]);have an:=bi.setTh (k:=k) (r:=1) (t:={t with waits:=0,adding:=false}) (t':={t with waits:=0,adding:=false,act:=t.act+1}) (v:=(I J ((q:Int)+1))) (El (by simpa using (Am.1 af).1)) (by omega) (by simp[Cy,b8.o]);simp only[Oq] at an;have a2:=Af<|CM an.wk br (El (Am.1 af).1) a4 (Zx 0 1);have bj:=Af an;simp only[Aj,Zx] at a2;go_wp2_with fail;refine a2.o.mono ?_;rintro ap dm ⟨dn,rfl,bk,bl,bm⟩;have a3:=bj.o.step bk bl bm;have e:=a3.o;simp only[Aj,Ev.zero] at e;have dp:=e.cell 0;have dq:=e.cell 1;have dr:=e.cell 2;have ds:=e.cell 3;have dt:=e.cell 4;have du:=e.cell 5;have dv:=e.cell 6;have dw:=e.cell 7;have dx:=e.frozen 0;have cf:=e.frozen 1;have dy:=e.frozen 2;have cg:=e.frozen 3;have ch:=e.frozen 4;have ci:=e.frozen 5;have dz:=e.frozen 6;have d0:=e.frozen 7;have l:=e.lt;have ao:=Af<|a3.done bn (I J 3) (CC k t.tx) () () () () () (I J 1);go_wp2;exact Ao (Jl _ _ _ _ _ _ _ _ _ _ _ _ rfl rfl ao.o.2.2.2) rfl ⟨_,rfl,ao.o.1,ao.o.2.1,ao.o.2.2.1⟩
theorem Re{B:Nat}{W:U}{d:Wd}{u z ve:N}(h:Wk B k W d u z (C g n c) ve)(l:BL d)(q:d.es.length<=100000)(i v:Int)(X:0<=v/\v<=1000)(b:Bool):
 Calls prog 285 #[k,i,v,b] W λe F=>Bt B k W u z (C g n c) ve (d.answer i v b) e F:=by
 cases a:d.live i with
 |none=>
  have e:d.answer i v b=((Ev.zero,false),d):=by unfold Wd.answer;rw[a]
  rw[e];exact AaB h l v a b
 |some G=>
  obtain⟨o,r⟩:=G;let⟨Y,y,w,Z⟩:=BE a;obtain⟨m,rfl⟩:∃m:Nat,i=(m:Int):=⟨i.toNat,by omega⟩;simp only[D6] at y w;have t:=l.th _ _ _ y w;by_cases p:o.waits=0
  .have e:d.answer (m:Int) v b=((Ev.zero,false),d):=by unfold Wd.answer;rw[a];simp[p]
   rw[e];exact AaC h l v a p b
  .cases b with
   |true=>
    have e:d.answer (m:Int) v true=d.ends m o 6:=by unfold Wd.answer;rw[a];simp[p]
    rw[e];exact Xv h l v a p q
   |false=>
    rcases t.w with j|j|j|j
    .exact absurd j p
    .let⟨L,x,aa⟩:=t.a2 j;have M:o.tx.toNat<r.length:=by have:=t.t0;have:=t.t1;omega
     have S:r[o.tx.toNat]?=E (Bk o r):=by unfold Bk;rw[An M];rfl
     let⟨A,ab⟩:=l.add r (Ap w) _ (Ap S) L<|Ap x;by_cases D:o.adding=true
     .exact AaE h l v a j q x A D
     .exact AaD h l v a j q x A (by simpa using D) (by unfold Gt;omega) (by unfold Gt;omega)
    .have e:d.answer (m:Int) v false=d.ends m o 5:=by unfold Wd.answer;rw[a];simp[j]
     rw[e];exact T3 h l v a j q
    .have e:d.answer (m:Int) v false=((Ev.zero,false),d):=by unfold Wd.answer;rw[a];simp[j]
     rw[e];exact Xu h l v a j
def zEv:N:=.agg #[(),(),(),(),(),(),(),()]
theorem Xw{W:U}{B size:Nat}{t:Ab}{v:N}{xs:List N}(h:W.ownsRow B t size v n xs):∃g c,v=C g n c/\(g=O->n=0/\c=0)/\∀a,g=E a->∃d,a=⟨d,0,O⟩/\d<W.heap.size/\∀e i,xs[e]?=E i->W.cell? (a.add e)=E i:=by
 have j:=h;rcases h.2 with ⟨rfl,rfl⟩|⟨d,l,cur,rfl,o,m,_⟩
 .exact⟨O,0,rfl,λ_=>⟨rfl,rfl⟩,λa b=>by cases b⟩
 .refine⟨_,l,rfl,λb=>(by cases b),λa b=>?_⟩;obtain rfl:=Option.some.inj b;refine⟨d,rfl,AB m,λe i k=>?_⟩;rw[EF,Ej,j.cellAt e (by have:=(Am.1 k).1;rw[j.1] at this;exact this),k]
theorem Rf{B:Nat}{W:U}{d:Wd}{v u z ve:N}(h:Wk B k W d v u z ve)(aj:d.es.length<=100000):
 Calls prog 439 #[k] W λa g=>∃l,a=R (C (E ⟨l,0,O⟩) d.es.length d.es.length)/\W.heap.size<=l/\g.ownsRow W AJ 8 (C (E ⟨l,0,O⟩) d.es.length d.es.length) d.es.length (CR d.es)/\Ay [] W g:=by
 let⟨o,q,r,t,w⟩:=A1 GJ
 have ak:∀W:U,(Fw 23 () (d.es.length:Int)).run prog W=.ok (C (E ⟨W.heap.size,0,O⟩) 0 d.es.length) (W.alloc (K (A2 zEv.cells (d.es.length*8)) AJ)):=λW=>by
  have h:=run_make (P:=prog) W 23 AJ o zEv underlying23 q r .i64 .i64 0 d.es.length (Int.le_refl _) (by omega) (by rw[w];omega) (by omega);simpa[t] using h
 obtain⟨i,c,rfl,x,y⟩:=Xw h.ev;have G:=h.box.cell 3;have L:=h.box.lt;have A:(CR d.es).length=d.es.length*8:=DQ (n:=8) (λM=>S9 M) d.es;have S:Hid (((W.alloc (K (A2 zEv.cells (d.es.length*8)) AJ)).drew).ownsRow W AJ 8 (C W 0 d.es.length) 0 []):=Af<|World.ownsRow_made (base:=W.heap.size) (e:=AJ) (size:=8) W (A2 zEv.cells (d.es.length*8)) d.es.length (Aa _) (by unfold Al;omega) (by simp[Gz])
 have X:Hid (∀j,i=E j->∀e b,(CR d.es)[e]?=E b->((W.alloc (K (A2 zEv.cells (d.es.length*8)) AJ)).drew).cell? (j.add e)=E b):=Af (λj a e b m=>by
  obtain⟨Y,rfl,Z,aa⟩:=y j a;have D:=aa e b m;rw[EF,Ej] at D|-;have ab:=Zc W<|K (A2 zEv.cells (d.es.length*8)) AJ;exact(ab.drew.cell (p:=⟨Y,e,O⟩) Z).trans D)
 have ac:=Af x
 have ad:Hid (∀b∈CR d.es,b.oneCell'=true):=Af (λb m=>by
  let⟨a,_,ae⟩:=List.mem_flatMap.1 m;exact Mu a b ae)
 have af:=Af A;have ag:Hid (Ay [] W ((W.alloc (K (A2 zEv.cells (d.es.length*8)) AJ)).drew)):=Af<|((Ay.refl [] W).alloc _).drew;have ah:Hid (((W.alloc (K (A2 zEv.cells (d.es.length*8)) AJ)).drew).cell? ⟨k,3,O⟩=E (C i d.es.length c)):=Af<|((Zc W (K (A2 zEv.cells (d.es.length*8)) AJ)).drew.cell (p:=⟨k,3,O⟩) L).trans G;go_in;go_wp2
 go_region_held3 (λg=>g.cell? ⟨k,3,O⟩=E (C i d.es.length c)) (go_keep)
  ((refine Bv (by rfl) (.tmp 8) (.tmp 12) 23 (by rfl) W AJ o 8 underlying23 q t W 0 d.es.length [] (by rfl) S i d.es.length c (CR d.es) (by rfl) af ac X ad (by omega) ?_;intro al ai F;have am:=(F.cell_far ⟨k,3,O⟩ (by simp;omega) (by simp;omega)).trans ah))
 go_wp2;go_ret;exact⟨_,rfl,Aa _,by simpa using ai,ag.o.grown F (λan a=>by injection a with a;subst a;exact .inr (Aa _))⟩
theorem Xx{B M:Nat}{W:U}{a:Ca}{s:Cs}(h:Cx B M W a s)(k:Int):
 Calls prog 242 #[a.T,k] W λb e=>b=R (I J (s.wd.txOf k).1)/\∃d,e=W.drewN d:=by
 have g:=Af<|Age h.wk h.ok k;have i:=h.tb.cell 2;have j:=h.tb.lt;go_in;go_wp2_with fail;refine g.o.mono ?_;rintro b l ⟨rfl,d,rfl⟩;go_wp2;go_ret;exact⟨rfl,_,rfl⟩
theorem Hh{B M:Nat}{W:U}{a:Ca}{s:Cs}(h:Cx B M W a s)(j:s.wd.es.length<=901)(k v:Int)(p:0<=v/\v<=1000)(b:Bool):
 Calls prog 243 #[a.T,k,v,b] W λl m=>l=R (.tuple #[])/\∃g,Cx B M m {a with ve:=g} {s with wd:=(s.wd.answer k v b).2}/\Fx B a.ve W m/\BZ W a.ve g:=by
 have n:=Af<|Re h.wk h.ok (by omega) k v p b;have d:=Af h;have q:=Af j;have x:=h.tb.cell 2;have y:=h.tb.lt;go_in;go_wp2_with fail;refine n.o.mono ?_;rintro l r ⟨g,rfl,o,e,i⟩;have t:=Af<|d.o.walk o e i (d.o.ok.answer k v b) (MM _ _ _ _).1 (by have:=(MM s.wd k v b).2;have:=q.o;omega);have u:=Af (show Fx B a.ve W r from⟨d.o.wk.only_below e,d.o.kq e⟩);have w:=Af i;go_wp2
 go_end0
 exact⟨rfl,_,t,u,w⟩
abbrev GQ(M:Nat)(ve:N)(k:Nat)(c:Ct)(W:U)(e:Ending)(w':U):Prop:=∃a,e=R a/\Kt M w' ve k a c/\Below W W w'
theorem Xy(M:Nat)(ve:N)(k:Nat)(W:U):Calls prog 186 #[M,(k:Int)] W λa b=>GQ M ve k .cm W a b:=by
 go_in;go_wp2;go_ret;exact⟨_,rfl,⟨_,_,rfl,(Ah.new W C7 _).alloc _,by simpa using Ah.new (W.alloc (K #[M] C7)) tI #[(k:Int)]⟩,((Ae _ W).alloc (Aa _) _).alloc (by simp) _⟩
theorem AcD(M:Nat)(ve:N)(k:Nat)(W:U):Calls prog 245 #[M,(k:Int)] W λa b=>GQ M ve k .tk W a b:=by
 go_in;go_wp2;go_ret;exact⟨_,rfl,⟨_,_,rfl,(Ah.new W C7 _).alloc _,by simpa using Ah.new (W.alloc (K #[M] C7)) tI #[(k:Int)]⟩,((Ae _ W).alloc (Aa _) _).alloc (by simp) _⟩
theorem AaG(M:Nat)(k:Nat)(W:U):Calls prog 185 #[M,(k:Int)] W λb a=>b=R (.func (.func 241) #[] #[W,(W+1:Nat)])/\Ah a W C7 #[M]/\Ah a (W+1) tI #[(k:Int)]/\Below W W a:=by
 go_in;go_wp2;go_ret;exact⟨rfl,(Ah.new W C7 _).alloc _,by simpa using Ah.new (W.alloc (K #[M] C7)) tI #[(k:Int)],((Ae _ W).alloc (Aa _) _).alloc (by simp) _⟩
section
open Go.Sort Go.Shelf
theorem Xz(a:Option Nat)(W:U):Calls prog 188 #[.map a] W λb d=>b=R (.func (.func 247) #[] #[W])/\d=W.alloc (K #[.map a] 155):=
 (Dh (n:=5)).1 (J4 Tryz.keysC Ed 5 trivial rfl a W)
theorem AcE(a:Option Nat)(W:U):Calls prog 288 #[.map a] W λb d=>b=R (.func (.func 345) #[] #[W])/\d=W.alloc (K #[.map a] 170):=
 (Dh (n:=5)).1 (J4 Tryz.keysD Ed 5 trivial rfl a W)
theorem XA{W:U}{M:Nat}{v:N}(h:Az W M n (Fr (E v))):∃a:DataW N,W.ownsMap prog 3 Cf M n a/\(∀b:List Int,b.Perm (intKeys a)->b=[0])/\H4 a=1:=by
 let⟨a,d,e,g⟩:=h.keys [0] (by simp) (λi=>by by_cases j:i=0<;>simp[Fr,j]);exact⟨a,d,λb k=>by simpa using k.trans e.symm,by simpa using g⟩
theorem PU{W:U}{M:Nat}{v:N}(h:Az W M n (Fr (E v)))(e:Ah W g 155 #[.map (E M)]):
 Calls prog 163 #[.func (.func 247) #[] #[g]] W λi a=>∃j,i=R j/\a.ownsRow 0 tI 1 j 1 [()]/\Below W W a:=by
 let⟨b,o,p,k⟩:=XA h
 have q:SeqGives Ed 2 prog 247 #[g] encZ (λd=>d.Perm (intKeys b)) (H4 b) W:=
  J5 (ρ:=Tryz.zqd) {Tryz.keysC with} Ed _ trivial rfl (by omega) g M n b _ e.lt (e.cell 0) o
 have l:=KX Tryz.sortedA Ed 5 trivial trivial trivial trivial rfl (by omega) (NG _) (Eg func235 (by kernel_rfl) rfl) 247 #[g] trivial (Eg func247 (by kernel_rfl) rfl) _ _ (by rw[k];unfold Al;omega) (by rw[k];omega) _ q
 change CallsIn _ _ prog 163 _ _ _ at l
 refine((Dh (n:=5)).1 l).mono ?_;rintro i a ⟨v,d,rfl,r,t,w,u⟩;obtain rfl:=p d r;have m:=ownsRow_base_a t<|A9 _;rw[K1 (by simp)] at m;exact⟨v,rfl,m,u⟩
theorem XB{W:U}{M:Nat}{v:N}(h:Az W M n (Fr (E v)))(e:Ah W g 170 #[.map (E M)]):
 Calls prog 163 #[.func (.func 345) #[] #[g]] W λi a=>∃j,i=R j/\a.ownsRow 0 tI 1 j 1 [()]/\Below W W a:=by
 let⟨b,o,p,k⟩:=XA h
 have q:SeqGives Ed 2 prog 345 #[g] encZ (λd=>d.Perm (intKeys b)) (H4 b) W:=
  J5 (ρ:=Tryz.zqb) {Tryz.keysD with} Ed _ trivial rfl (by omega) g M n b _ e.lt (e.cell 0) o
 have l:=KX Tryz.sortedA Ed 5 trivial trivial trivial trivial rfl (by omega) (NG _) (Eg func235 (by kernel_rfl) rfl) 345 #[g] trivial (Eg func345 (by kernel_rfl) rfl) _ _ (by rw[k];unfold Al;omega) (by rw[k];omega) _ q
 change CallsIn _ _ prog 163 _ _ _ at l
 refine((Dh (n:=5)).1 l).mono ?_;rintro i a ⟨v,d,rfl,r,t,w,u⟩;obtain rfl:=p d r;have m:=ownsRow_base_a t<|A9 _;rw[K1 (by simp)] at m;exact⟨v,rfl,m,u⟩
theorem Rg(w:U)(a b:Obj)(t:Ab)(cs:Array N):Ah (((w.alloc a).alloc b).alloc (K cs t)) (w+1+1) t cs:=by simpa using Ah.new ((w.alloc a).alloc b) t cs
theorem AcF(w:U)(a b d:Obj)(t:Ab)(cs:Array N):Ah ((((w.alloc a).alloc b).alloc d).alloc (K cs t)) (w+1+1+1) t cs:=by simpa using Ah.new (((w.alloc a).alloc b).alloc d) t cs
theorem AcG(M:Nat)(ve:N)(k:Nat){W:U}{v:N}(h:W.ownsRow 0 tI 1 v 1 [()]):Calls prog 187 #[M,(k:Int),v] W λd e=>GQ M ve k .lk W d e:=by
 obtain⟨a,c,rfl⟩:=Ag h;have g:=Af h;have i:=(Rg W (K #[M] C7) (K #[(k:Int)] tI) Jq #[C a 1 c]).cell 0;go_in;go_wp2;go_ret;have b:=(((Ae _ W).alloc (Aa _) (K #[M] C7)).alloc (by simp) (K #[(k:Int)] tI)).alloc (by simp;omega)<|K #[C a 1 c] Jq;exact⟨_,rfl,⟨_,_,_,_,rfl,((Ah.new W C7 _).alloc _).alloc _,Rg _ _ _ _ _,(Bo W _ _ _).alloc _,AA g b⟩,b⟩
theorem Sz(M:Nat)(ve:N)(k:Nat)(W:U)(A:Option Addr)(c:Nat):Calls prog 187 #[M,(k:Int),C A 0 c] W λa e=>GQ M ve k .tk W a e:=by
 have g:=Af<|AcD M ve k (((W.alloc (K #[M] C7)).alloc (K #[(k:Int)] tI)).alloc (K #[C A 0 c] Jq));go_in;go_wp2_with fail;refine g.o.mono ?_;rintro a l ⟨m,rfl,b,d⟩;have i:=Af b;have j:=Af<|(((Ae _ W).alloc (Aa _) (K #[M] C7)).alloc (by simp) (K #[(k:Int)] tI)).alloc (by simp;omega) (K #[C A 0 c] Jq)|>.trans (d.mono (by simp;omega));go_wp2;go_ret;exact⟨_,rfl,i,j⟩
theorem AcH(M:Nat)(ve:N)(k:Nat)(a:Int){W:U}{v:N}(h:W.ownsRow 0 tI 1 v 1 [()]):Calls prog 287 #[M,(k:Int),a,v] W λd e=>GQ M ve k (.look a) W d e:=by
 obtain⟨g,c,rfl⟩:=Ag h;have i:=Af h;go_in;go_wp2;go_ret;have b:=((((Ae _ W).alloc (Aa _) (K #[M] C7)).alloc (by simp) (K #[(k:Int)] tI)).alloc (by simp;omega) (K #[a] tI)).alloc (by simp;omega)<|K #[C g 1 c] Jq;exact⟨_,rfl,⟨_,_,_,_,_,rfl,(((Ah.new W C7 _).alloc _).alloc _).alloc _,AcF _ _ _ _ _ _,((Bo W _ _ _).alloc _).alloc _,(Rg W _ _ _ _).alloc _,AA i b⟩,b⟩
theorem AaH(M:Nat)(ve:N)(k:Nat)(a:Int){W:U}{v:N}(h:W.ownsRow 0 tI 1 v 1 [()]):Calls prog 343 #[M,(k:Int),a,v] W λd e=>GQ M ve k (.wr a) W d e:=by
 obtain⟨g,c,rfl⟩:=Ag h;have i:=Af h;go_in;go_wp2;go_ret;have b:=((((Ae _ W).alloc (Aa _) (K #[M] C7)).alloc (by simp) (K #[(k:Int)] tI)).alloc (by simp;omega) (K #[a] tI)).alloc (by simp;omega)<|K #[C g 1 c] Jq;exact⟨_,rfl,⟨_,_,_,_,_,rfl,(((Ah.new W C7 _).alloc _).alloc _).alloc _,AcF _ _ _ _ _ _,((Bo W _ _ _).alloc _).alloc _,(Rg W _ _ _ _).alloc _,AA i b⟩,b⟩
theorem PV(M:Nat)(ve:N)(k:Nat)(a:Int)(W:U)(A:Option Addr)(c:Nat):Calls prog 343 #[M,(k:Int),a,C A 0 c] W λb g=>GQ M ve k .cm W b g:=by
 have i:=Af<|Xy M ve k ((((W.alloc (K #[M] C7)).alloc (K #[(k:Int)] tI)).alloc (K #[a] tI)).alloc (K #[C A 0 c] Jq));go_in;go_wp2_with fail;refine i.o.mono ?_;rintro b m ⟨n,rfl,d,e⟩;have j:=Af d;have l:=Af<|((((Ae _ W).alloc (Aa _) (K #[M] C7)).alloc (by simp) (K #[(k:Int)] tI)).alloc (by simp;omega) (K #[a] tI)).alloc (by simp;omega) (K #[C A 0 c] Jq)|>.trans (e.mono (by simp;omega));go_wp2;go_ret;exact⟨_,rfl,j,l⟩
end
theorem DY{cs:Array N}{t0:Ab}{f:Nat×Nat}{l:List Ab}(h:t0∉l):∀t∈l,FP (K cs t0 f) t:=λ_ a=>Dn λb=>h (b▸a)
theorem Jm{es:Array MapEntry}(l:List Ab):∀t∈l,FP (.map es c) t:=λ_ _=>DJ
theorem XC{cs:Array N}{t0:Ab}{f:Nat×Nat}:∀es c,Obj.cells cs t0 f≠.map es c:=λ_ _ a=>by cases a
section
variable {B M:Nat} {W:World} {a:Ca} {s:Cs}
theorem Cx.lt(h:Cx B M W a s):B<=W.heap.size:=A8 h.le.1 (Nat.le_of_lt h.mb.lt)
theorem Cx.setClock(h:Cx B M W a s)(c:Int):Cx B M (W.setCell ⟨M,3,O⟩ c) a {s with clock:=c}/\Fx B a.ve W (W.setCell ⟨M,3,O⟩ c):=by
 have b:=h.oth (W':=W.setCell ⟨M,3,O⟩ c) h.mb (λd _ e=>B3 W ⟨M,3,O⟩ _ d e);exact⟨⟨by simpa using h.mb.put 3 c,b.tb (Dn (by decide)),b.wk (DY (by decide)),b.nx (Dn (by decide)),b.cl (Dn (by decide)),b.ws (Dn (by decide)),b.po (DY (by decide)),b.mp XC,b.kt (DY (by decide)),h.ap,h.wl,h.le,h.two,h.ok,h.few⟩,(Ae B W).setCell (p:=⟨M,3,O⟩) h.le.1 _,Kq.cells h.mb (by decide) λd e=>B3 W ⟨M,3,O⟩ _ d e⟩
theorem Cx.setNx(h:Cx B M W a s){v:N}{c:Ct}(l:k<2)(o:Kt M W a.ve k v c):Cx B M (W.setCell ⟨a.nb,k,O⟩ v) {a with nv:=a.nv.set k v} {s with nx:=s.nx.set k c}/\Below B W (W.setCell ⟨a.nb,k,O⟩ v):=by
 have q:=λ(g:Nat) (_:g<W.heap.size) (j:g≠a.nb)=>B3 W ⟨a.nb,k,O⟩ v g j;have b:=h.oth (W':=W.setCell ⟨a.nb,k,O⟩ v) h.nx q;have m:Kq a.ve W (W.setCell ⟨a.nb,k,O⟩ v):=Kq.cells h.nx (by decide) λg j=>B3 W ⟨a.nb,k,O⟩ v g j;refine⟨⟨b.mb (Dn (by decide)),b.tb (Dn (by decide)),b.wk (DY (by decide)),by simpa using h.nx.put k v,b.cl (Dn (by decide)),b.ws (Dn (by decide)),b.po (DY (by decide)),b.mp XC,?_,h.ap,h.wl,h.le,⟨by simpa using h.two.1,h.two.2.1,by simpa using h.two.2.2.1,h.two.2.2.2⟩,h.ok,h.few⟩,(Ae B W).setCell (p:=⟨a.nb,k,O⟩) h.le.2.1 _⟩;intro i r t d e;by_cases n:i=k
 .subst n;simp only[El (show i<a.nv.length by rw[h.two.1];exact l)] at d;simp only[El (show i<s.nx.length by rw[h.two.2.2.1];exact l)] at e;injection d with d;injection e with e;subst d e;exact o.keep m<|.inl rfl
 .simp only[Et (λu=>n u.symm)] at d e;exact(h.kt i r t d e).keep m<|.inl rfl
theorem Cx.setCl(h:Cx B M W a s){u:N}{v n o:Int}(l:a.cl=C k 1 m)(e:[A0 .i64 v,n,o]=[A0 .i64 s.cv,s.cn,s.co].set j u):
 Cx B M (W.setCell ⟨k,j,O⟩ u) a {s with cv:=v,cn:=n,co:=o}/\Fx B a.ve W (W.setCell ⟨k,j,O⟩ u):=by
 have d:=h.cl;rw[l] at d;let⟨t,q⟩:=Bm d (g:=k) rfl;have b:=h.oth (W':=W.setCell ⟨k,j,O⟩ u) q (λg _ i=>B3 W ⟨k,j,O⟩ u g i);refine⟨⟨b.mb (Dn (by decide)),b.tb (Dn (by decide)),b.wk (DY (by decide)),b.nx (Dn (by decide)),?_,b.ws (Dn (by decide)),b.po (DY (by decide)),b.mp XC,b.kt (DY (by decide)),h.ap,h.wl,h.le,h.two,h.ok,h.few⟩,(Ae B W).setCell (p:=⟨k,j,O⟩) (Ai d (g:=k) rfl).1 _,Kq.cells q (by decide) λg i=>B3 W ⟨k,j,O⟩ u g i⟩;have r:=(I8 d j u).1;rw[l];simp only[e];exact r
theorem XD(h:Cx B M W a s){x:Wr}(e:s.ws[k]?=x):∃b d,a.wl[k]?=E (x,b,d):=by
 rw[<-h.wl,List.getElem?_map] at e;let⟨⟨j,b,d⟩,i,g⟩:=Eo.1 e;simp only at g;subst g;exact⟨b,d,i⟩
theorem Cx.wkAt(h:Cx B M W a s){x:Wr}{r w:Nat}(d:a.wl[k]?=E (x,r,w)):k<2/\W.cell? ⟨a.kb,k*3,O⟩=x.time/\W.cell? ⟨a.kb,k*3+1,O⟩=E (mpV x.on r)/\W.cell? ⟨a.kb,k*3+2,O⟩=E (mpV x.on w):=by
 have b:=Fc JO a.wl k _ d;have e:=(Am.1 d).1;refine⟨by rw[<-h.two.2.1];exact e,?_,?_,?_⟩
 .rw[h.ws.cell];simpa[Qm] using b 0 (by decide)
 .rw[h.ws.cell];simpa[Qm] using b 1 (by decide)
 .rw[h.ws.cell];simpa[Qm] using b 2 (by decide)
theorem Cx.mapPut{W':U}(h:Cx B M W a s){x e:Wr}{r w:Nat}(m:a.wl[k]?=E (x,r,w))(L:x.on=true)(ac:e.time=x.time/\e.on=x.on)(A:b=r∨b=w)(D:W.mapTurned W' b)
 (aj:∃n,n<=e.rd.toNat/\Az W' r n (Fr (rdO e.rd))) (ak:∃n,n<=e.wr.isSome.toNat/\Az W' w n (Fr (wrO e.wr))):
 Cx B M W' {a with wl:=a.wl.set k (e,r,w)} {s with ws:=s.ws.set k e}/\Fx B a.ve W W':=by
 let⟨al,am,an,⟨bg,bh,ao⟩,bi,bj,ap⟩:=h.mp k x r w m L;have aq:∃ad c,W.heap[b]?=E (.map ad c):=by rcases A with d|d<;>subst d<;>first|exact ao.obj|exact ap.obj
 obtain⟨ad,c,ae⟩:=aq;have bk:B<=b:=by rcases A with d|d<;>subst d<;>assumption
 have j:=h.oth (W':=W') ae (λS X o=>D.grown.block S X (λd=>o (Option.some.inj d)));have af:k<a.wl.length:=(Am.1 m).1;refine⟨⟨j.mb DJ,j.tb DJ,j.wk (Jm _),j.nx DJ,j.cl DJ,?_,j.po (Jm _),?_,j.kt (Jm _),?_,?_,h.le,⟨h.two.1,by simpa using h.two.2.1,h.two.2.2⟩,h.ok,h.few⟩,(Ae B W).grown D.grown h.lt (λg d=>by injection d with d;omega),λS bl bm Y _=>D.grown.block S (AB Y) (λd=>by injection d with d;subst d;rw[ae] at Y;cases Y)⟩
 .have d:(a.wl.set k (e,r,w)).flatMap Qm=a.wl.flatMap Qm:=by
   have i:=Na JO (r:=0) (v:=x.time) (a':=(e,r,w)) (by decide) a.wl k _ m (by simp[Qm,ac.1,ac.2]);rw[i];have p:=Fc JO a.wl k _ m 0 (by decide);simp only[EV] at p|-;let⟨X,ar⟩:=Am.1<|p.trans (show(Qm (x,r,w))[0]?=x.time from rfl);rw[<-ar];exact List.set_getElem_self X
  simp only[d];exact j.ws DJ
 .intro u g ag ah l F;by_cases d:u=k
  .subst d;rw[El af] at l;injection l with l;injection l with Z i;injection i with i p;subst Z i p;exact⟨al,am,an,aj,ak⟩
  .rw[Et (λaa=>d aa.symm)] at l;let⟨au,av,aw,⟨ax,ay,az⟩,a0,a1,a2⟩:=h.mp u g ag ah l F;let⟨bn,bo,bp,bq⟩:=h.ap u k g ag ah x r w d l m F L;have o:∀ {ab n:Nat} {f:Int->Option N},ab≠b->Az W ab n f->Az W' ab n f:=λo a3=>a3.grown D.grown (λd=>o (Option.some.inj d));exact⟨au,av,aw,⟨ax,ay,o (by rcases A with d|d<;>subst d<;>assumption) az⟩,a0,a1,o (by rcases A with d|d<;>subst d<;>assumption) a2⟩
 .intro q u g y z br a4 a5 a6 a7 a8 a9 ba
  have ai:∀ {q:Nat} {g:Wr} {y z:Nat},(a.wl.set k (e,r,w))[q]?=E (g,y,z)->g.on=true->∃G,a.wl[q]?=E (G,y,z)/\G.on=true:=λ{q g y z} t F=>by
   by_cases d:q=k
   .subst d;rw[El af] at t;injection t with t;injection t with Z i;injection i with i p;subst Z i p;exact⟨x,m,L⟩
   .rw[Et (λaa=>d aa.symm)] at t;exact⟨g,t,F⟩
  let⟨G,bb,bc⟩:=ai a7 a9;let⟨bd,be,bf⟩:=ai a8 ba;exact h.ap q u G y z bd a4 a5 a6 bb be bc bf
 .simp only[IA,h.wl]
theorem Cx.putW{W':U}(h:Cx B M W a s){x:Wr}{r w:Nat}{o:Option N}{v:Int}(b:a.wl[k]?=E (x,r,w))(d:x.on=true)(e:W.mapTurned W' w)(g:Az W' w n (AC (Fr o) 0 v))(i:n<=1):
 Cx B M W' {a with wl:=a.wl.set k (⟨x.time,x.on,x.rd,E v⟩,r,w)} {s with ws:=s.ws.set k ⟨x.time,x.on,x.rd,E v⟩}/\Fx B a.ve W W':=by
 obtain⟨_,_,j,⟨l,m,p⟩,-⟩:=h.mp k x r w b d;rw[PR] at g;exact h.mapPut b d ⟨rfl,rfl⟩ (.inr rfl) e ⟨l,m,p.grown e.grown (λq=>j (Option.some.inj q))⟩ ⟨n,i,g⟩
theorem Cx.putR{W':U}(h:Cx B M W a s){x:Wr}{r w:Nat}{o:Option N}(b:a.wl[k]?=E (x,r,w))(d:x.on=true)(e:W.mapTurned W' r)(g:Az W' r n (AC (Fr o) 0 true))(i:n<=1):
 Cx B M W' {a with wl:=a.wl.set k (⟨x.time,x.on,true,x.wr⟩,r,w)} {s with ws:=s.ws.set k ⟨x.time,x.on,true,x.wr⟩}/\Fx B a.ve W W':=by
 obtain⟨_,_,j,-,l,m,p⟩:=h.mp k x r w b d;rw[PR] at g;exact h.mapPut b d ⟨rfl,rfl⟩ (.inl rfl) e ⟨n,i,g⟩ ⟨l,m,p.grown e.grown (λq=>j (Option.some.inj q).symm)⟩
theorem Cx.setWk{X:U}(ae:Cx B M X a s)(h:Cx B M W a s){r w:Nat}(ar:k<2)(a9:X.heap.size<=r)(ba:X.heap.size<=w)(i:r≠w)(au:Az W r 0 AF)(av:Az W w 0 AF):
 Cx B M (((W.setCell ⟨a.kb,k*3,O⟩ t).setCell ⟨a.kb,k*3+1,O⟩ (.map (E r))).setCell ⟨a.kb,k*3+2,O⟩ (.map (E w))) {a with wl:=a.wl.set k (⟨t,true,false,O⟩,r,w)} {s with ws:=s.ws.set k ⟨t,true,false,O⟩}/\Fx B a.ve W (((W.setCell ⟨a.kb,k*3,O⟩ t).setCell ⟨a.kb,k*3+1,O⟩ (.map (E r))).setCell ⟨a.kb,k*3+2,O⟩ (.map (E w))):=by
 have y:k<a.wl.length:=by rw[h.two.2.1];exact ar
 obtain⟨o,z⟩:∃o,((W.setCell ⟨a.kb,k*3,O⟩ t).setCell ⟨a.kb,k*3+1,O⟩ (.map (E r))).setCell ⟨a.kb,k*3+2,O⟩ (.map (E w))=o:=⟨_,rfl⟩
 have Y:∀d,d≠a.kb->o.heap[d]?=W.heap[d]?:=λd i=>by
  rw[<-z];exact(B3 _ ⟨a.kb,k*3+2,O⟩ _ d i).trans<|(B3 _ ⟨a.kb,k*3+1,O⟩ _ d i).trans (B3 _ ⟨a.kb,k*3,O⟩ _ d i)
 have j:=h.oth (W':=o) h.ws (λd _ i=>Y d i)
 have A:∀ {D Z:Nat} {f:Int->Option N},Az W D Z f->Az o D Z f:=λ{D Z f} af=>af.at (Y D λF=>by
  let⟨bb,c,aw⟩:=af.obj;have:=h.ws;unfold Ah at this;rw[<-F,aw] at this
  cases this)
 obtain⟨⟨l,ag,ah⟩,ax⟩:∃l,a.wl[k]?=E l:=⟨_,An y⟩
 have ay:Ah o a.kb tWs ((a.wl.set k (⟨t,true,false,O⟩,r,w)).flatMap Qm).toArray:=by
  have ai:=((h.ws.put (k*3) t).put (k*3+1) (.map (E r))).put (k*3+2)<|.map (E w);rw[z] at ai;have q:=Na JO (r:=0) (v:=t) (a':=(⟨t,l.on,l.rd,l.wr⟩,ag,ah)) (by decide) a.wl k _ ax (by simp[Qm])
  have b:(a.wl.set k (⟨t,true,false,O⟩,r,w)).flatMap Qm=(((a.wl.flatMap Qm).set (k*3) t).set (k*3+1) (.map (E r))).set (k*3+2) (.map (E w)):=by
   have bc:(a.wl.flatMap Qm).length=6:=by rw[DQ JO,h.two.2.1]
   apply List.ext_getElem?;intro aa
   match bd:a.wl,h.two.2.1 with
   |[(be,ag,ah),(bf,aj,ak)],_=>
    rcases (show k=0∨k=1 by omega) with rfl|rfl<;>simp[Qm,mpV]
  rw[b];simpa using ai
 rw[z]
 have al:∀ {m:Nat} {G:Wr} {L S:Nat},a.wl[m]?=E (G,L,S)->G.on=true->L<X.heap.size/\S<X.heap.size:=λe ab=>by
  let⟨_,_,_,⟨_,_,ac⟩,_,_,ad⟩:=ae.mp _ _ _ _ e ab;exact⟨ac.lt,ad.lt⟩
 have bg:=ae.lt;refine⟨⟨j.mb (Dn (by decide)),j.tb (Dn (by decide)),j.wk (DY (by decide)),j.nx (Dn (by decide)),j.cl (Dn (by decide)),ay,j.po (DY (by decide)),?_,j.kt (DY (by decide)),?_,?_,h.le,⟨h.two.1,by simpa using h.two.2.1,h.two.2.2⟩,h.ok,h.few⟩,?_⟩
 .intro m G L S e ab;by_cases F:m=k
  .subst F;rw[El y] at e;injection e with e;injection e with q b;injection b with b u;subst q b u;exact⟨by omega,by omega,i,⟨0,Aa _,by rw[show Fr (rdO false)=AF from MN.symm];exact A au⟩,0,Aa _,by rw[show Fr (wrO O)=AF from MN.symm];exact A av⟩
  .rw[Et (λx=>F x.symm)] at e;let⟨az,a0,a1,⟨a2,a3,ac⟩,a4,a5,ad⟩:=h.mp m G L S e ab;exact⟨az,a0,a1,⟨a2,a3,A ac⟩,a4,a5,A ad⟩
 .intro aa m l aj ak a6 a7 a8 am n g an ao;by_cases ap:aa=k
  .subst ap;rw[El y] at n;rw[Et am] at g;injection n with n;injection n with q b;injection b with b u;subst q b u;have:=al g ao;exact⟨by omega,by omega,by omega,by omega⟩
  .rw[Et (λx=>ap x.symm)] at n;by_cases aq:m=k
   .subst aq;rw[El y] at g;injection g with g;injection g with q b;injection b with b u;subst q b u;have:=al n an;exact⟨by omega,by omega,by omega,by omega⟩
   .rw[Et (λx=>aq x.symm)] at g;exact h.ap aa m l aj ak a6 a7 a8 am n g an ao
 .simp only[IA,h.wl]
 .refine⟨?_,Kq.cells h.ws (by decide) Y⟩;rw[<-z];exact(((Ae B W).setCell (p:=⟨a.kb,k*3,O⟩) h.le.2.2 _).setCell (p:=⟨a.kb,k*3+1,O⟩) h.le.2.2 _).setCell (p:=⟨a.kb,k*3+2,O⟩) h.le.2.2 _
end
theorem AcI{a:Bool}(h:a=true)(b:Nat):mpV a b=.map (E b):=by simp[mpV,h]
theorem Cx.maps{B M:Nat}{W:U}{a:Ca}{s:Cs}(h:Cx B M W a s){x:Wr}(m:s.ws[k]?=x)(i:x.on=true):∃b d,a.wl[k]?=E (x,b,d)/\k<2/\W.cell? ⟨a.kb,k*3,O⟩=x.time/\W.cell? ⟨a.kb,k*3+1,O⟩=E (.map (E b))/\W.cell? ⟨a.kb,k*3+2,O⟩=E (.map (E d))/\
 (∃e,e<=x.rd.toNat/\Az W b e (Fr (rdO x.rd)))/\(∃e,e<=x.wr.isSome.toNat/\Az W d e (Fr (wrO x.wr))):=by
 let⟨b,d,g⟩:=XD h m;let⟨n,o,j,l⟩:=h.wkAt g;rw[AcI i] at j l;let⟨_,_,_,p,q⟩:=h.mp k x b d g i;exact⟨b,d,g,n,o,j,l,p,q⟩
theorem AaI{B M:Nat}{W:U}{a:Ca}{s:Cs}(h:Cx B M W a s){x:Wr}(aa:s.ws[k]?=x)(ab:x.on=true){v0:Int}(ac:x.wr=v0)(b:Int)(A:Option Addr)(c:Nat):
 Calls prog 287 #[M,(k:Int),b,C A 0 c] W λt g=>GQ M a.ve k (.wr b) W t g:=by
 obtain⟨ax,n,ak,ay,al,am,ad,-,az,-,y⟩:=h.maps aa ab;rw[ac] at y;have o:=((((Ae _ W).alloc (Aa _) (K #[M] C7)).alloc (by simp) (K #[(k:Int)] tI)).alloc (by simp;omega) (K #[b] tI)).alloc (by simp;omega)<|K #[C A 0 c] Jq;have u:=Af o;have ae:=Af<|(h.call o).mb;have af:=λp (v:N) (q:W.cell? p=v)=>(o.cell (Ad W p q)).trans q;have z:=af _ _ ad;have ag:=Af<|y.call o;have D:=Af<|(((Ah.new W C7 #[M]).alloc (K #[(k:Int)] tI)).alloc (K #[b] tI)).alloc (K #[C A 0 c] Jq);have F:=Af<|((Bo W (K #[M] C7) tI #[(k:Int)]).alloc (K #[b] tI)).alloc (K #[C A 0 c] Jq);have G:=Af<|(Rg W (K #[M] C7) (K #[(k:Int)] tI) tI #[b]).alloc (K #[C A 0 c] Jq);have L:=Af<|AcF W (K #[M] C7) (K #[(k:Int)] tI) (K #[b] tI) Jq #[C A 0 c];have a0:(0:Int)<=(k:Int):=by omega
 have a1:(k:Int)<2:=by omega
 go_in;go_upto_region 1 with fail;have S:=Af u.o.size;generalize ah:W.heap.size=l at u S D F G L|-;have an:=Af ah;generalize (((W.alloc (K #[M] C7)).alloc (K #[(k:Int)] tI)).alloc (K #[b] tI)).alloc (K #[C A 0 c] Jq)=d at u S ae D F G L ag z|-;have ao:=L.o.cell 0;go_upto_region 2 with fail;have m:=And.intro (D.o.cell 0)<|And.intro (F.o.cell 0) (And.intro (G.o.cell 0) (And.intro (ae.o.cell 2) z))
 have i:∀(j:U),Below d d j->j.cell? l=M/\j.cell? (l+1:Nat)=E (k:Int)/\j.cell? (l+1+1:Nat)=b/\j.cell? ⟨M,2,O⟩=E (C a.kb 2 2)/\j.cell? ⟨a.kb,k*3+2,O⟩=E (.map (E n)):=λj ap=>
  have r:=λp (v:N) (q:d.cell? p=v)=>(ap.cell (Ad d p q)).trans q
  ⟨r _ _ m.1,r _ _ m.2.1,r _ _ m.2.2.1,r _ _ m.2.2.2.1,r _ _ m.2.2.2.2⟩
 have X:=(Zb d).drew;have Y:=(Zc d (K #[.map (E n)] 155)).drew;have i:=Af i;have a2:=i.o _<|Ae _ d;have a3:=i.o _ X;have a4:=i.o _ Y;have a5:=Af X;have e:=Af Y;have aq:=Af<|(ag.o.alloc (K #[.map (E n)] 155)).drew;have ar:=Af<|(Ah.new d 155 #[.map (E n)]).drew
 go_region_held3 (λg=>g.cell? l=M/\g.cell? (l+1:Nat)=E (k:Int)/\g.cell? (l+1+1:Nat)=b/\g.cell? ⟨M,2,O⟩=E (C a.kb 2 2)/\g.cell? ⟨a.kb,k*3+2,O⟩=E (.map (E n)))
  (with_reducible assumption)
  (first
   |(go_at_call 188;refine(Xz _ _).mono ?_;rintro t a6 ⟨rfl,rfl⟩)
   |(go_at_call 163;refine(PU aq ar).mono ?_;rintro t a7 ⟨a8,rfl,au,ai⟩;have a9:=i.o _ (e.o.trans (ai.mono e.o.size));have w:=Af ai)
   |(go_at_call 343;refine(AaH M a.ve k b au).mono ?_;rintro t ba ⟨v,rfl,aj,Z⟩;have bb:=i.o _ ((e.o.trans (w.o.mono e.o.size)).trans (Z.mono (A8 e.o.size w.o.size)));have av:=Af aj;have aw:=Af Z;clear aj Z))
 go_wp2;go_ret;refine⟨_,rfl,av,?_⟩;rw[an.o];exact(u.o.trans ((e.o.trans (w.o.mono e.o.size)).trans (aw.o.mono (A8 e.o.size w.o.size))|>.mono S))
abbrev Cu(B M:Nat)(W:U)(a:Ca)(k:Nat)(r:Cs×Ct)(e:Ending)(w':U):Prop:=∃b d g,e=R b/\Cx B M w' {a with ve:=d,wl:=g} r.1/\Kt M w' d k b r.2/\Fx B a.ve W w'
def Rh(M:Nat):Obj:=K #[M] C7
def Ri(k:Nat):Obj:=K #[(k:Int)] tI
def LI(e:Ev):Obj:=K (Aj e) AJ
structure Rb (G M k:Nat) (e:Ev) (X:U):Prop where
 b1:Ah X G C7 #[M]
 b2:Ah X (G+1) tI #[(k:Int)]
 b3:Ah X (G+1+1) AJ (Aj e)
theorem Rb.new(W:U)(M k:Nat)(e:Ev):Rb W M k e (((W.alloc (Rh M)).alloc (Ri k)).alloc (LI e)):=⟨((Ah.new W C7 _).alloc _).alloc _,(Bo W _ _ _).alloc _,Rg _ _ _ _ _⟩
theorem Rb.below{G M:Nat}{e:Ev}{X Y:U}(h:Rb G M k e X)(a:Below X X Y):Rb G M k e Y:=⟨h.b1.below a h.b1.lt,h.b2.below a h.b2.lt,h.b3.below a h.b3.lt⟩
theorem T4{B M:Nat}{W:U}{a:Ca}{s:Cs}(h:Cx B M W a s){e:Ev}{x:Wr}(o:s.ws[k]?=x)(i:e.kind=2/\e.obj=0):
 Calls prog 124 #[M,(k:Int),.agg (Aj e)] W λp t=>Cu B M W a k (s,.ans e) p t:=by
 let⟨p,A,q⟩:=XD h o;let⟨D,u,v,w⟩:=h.wkAt q;have m:=(((Ae _ W).alloc (Aa _) (Rh M)).alloc (by simp) (Ri k)).alloc (by simp;omega)<|LI e;have d:=Af<|h.call m;have j:=Af<|Fx.new (ve:=a.ve) m h.lt;have b:=Af<|Rb.new W M k e;have r:=Af (show a.ve.ownBlock≠E (W.heap.size+1+1) from λe=>by have:=(Ai h.wk.ev e).2;omega);have F:(0:Int)<=(k:Int):=by omega
 have G:(k:Int)<2:=by omega
 have L:(e.kind==1)=false:=by rw[i.1];rfl
 have S:(e.kind==7)=false:=by rw[i.1];rfl
 have X:(e.kind==4)=false:=by rw[i.1];rfl
 clear h o i q u v w m;unfold Rh Ri LI at d j b;unfold Aj at d j b|-;go_in;go_upto_region 1 with fail;generalize y:W.heap.size=z at b r|-;generalize ((W.alloc (K #[M] C7)).alloc (K #[(k:Int)] tI)).alloc (K #[e.kind,e.tx,e.thr,e.obj,e.op,e.key,e.val,e.ret] AJ)=l at d j b|-;have Y:=b.o.b1.cell 0;have Z:=b.o.b2.cell 0;have aa:l.cell? (z+1+1:Nat)=e.kind:=b.o.b3.cell 0;have ab:=d.o.mb.cell 2;go_quiet (fail);go_wp2;go_ret;have n:=b.o;have g:Below l l (l.drewN nq):=⟨rfl,rfl,rfl,Aa _,λ_ _=>rfl⟩;exact⟨_,a.ve,a.wl,rfl,d.o.call g,⟨_,_,_,rfl,(n.below g).b1,(n.below g).b2,(n.below g).b3,r⟩,j.o.trans (Fx.new g d.o.lt)⟩
theorem XE(Y:U)(a b:Obj)(i:Nat)(v:N)(d:n<Y.heap.size):((Y.alloc a).alloc b).setCell ⟨n,i,O⟩ v=((Y.setCell ⟨n,i,O⟩ v).alloc a).alloc b:=by
 rw[Ue _ _ _ _ (by simp;omega),Ue _ _ _ _ d]
theorem Rj{B M:Nat}{W:U}{a:Ca}{s:Cs}(h:Cx B M W a s){e:Ev}{x:Wr}(u:s.ws[k]?=x)(v:e.kind=1):
 Calls prog 124 #[M,(k:Int),.agg (Aj e)] W λw D=>Cu B M W a k ({s with ws:=s.ws.set k ⟨s.clock,true,false,O⟩},.idle) w D:=by
 let⟨w,af,m⟩:=XD h u;let⟨F,G,L,S⟩:=h.wkAt m;have n:=(((Ae _ W).alloc (Aa _) (Rh M)).alloc (by simp) (Ri k)).alloc (by simp;omega)<|LI e;have i:=Af<|h.call n;have j:=Af<|Fx.new (ve:=a.ve) n h.lt;have d:=Af<|Rb.new W M k e;have X:=Af m;have ag:(0:Int)<=(k:Int):=by omega
 have ah:(k:Int)<2:=by omega
 have ai:(e.kind==1)=true:=by rw[v];rfl
 have Y:=F;clear h u v m G L S n;unfold Rh Ri LI at i j d;unfold Aj at i j d|-;go_in;go_upto_region 1 with fail;generalize Z:W.heap.size=aa at d|-;clear Z;generalize ((W.alloc (K #[M] C7)).alloc (K #[(k:Int)] tI)).alloc (K #[e.kind,e.tx,e.thr,e.obj,e.op,e.key,e.val,e.ret] AJ)=l at i j d|-;have y:=d.o.b1.cell 0;have ab:=d.o.b2.cell 0;have ac:l.cell? (aa+1+1:Nat)=e.kind:=d.o.b3.cell 0;have ad:=i.o.mb.cell 2;go_quiet (fail);go_upto_region 4 with fail;have b:=Af<|i.o.drewN nq;have z:=Af (show Fx B a.ve W (l.drewN nq) from j.o.drewN nq);have o:=Af<|d.o.below (Y:=l.drewN nq) ⟨rfl,rfl,rfl,Aa _,λ_ _=>rfl⟩;generalize l.drewN nq=g at b z o|-;obtain⟨-,aj,ak,al⟩:=b.o.wkAt X;have y:=o.o.b1.cell 0;have am:=b.o.mb.cell 3;have an:=b.o.ws.frozen<|k*3;have ao:=b.o.ws.frozen<|k*3+1;have ap:=b.o.ws.frozen<|k*3+2;have p:=b.o.ws.lt;have aq:=b.o.mb.lt;have ar:=o.o.b1.lt;have au:= @run_makeMap prog;have q:=(Zc g (.map #[] 0)).alloc (by simp)<|.map #[] 0;have r:=b.o.setWk (b.o.call q) (t:=s.clock) (r:=g.heap.size) (w:=g.heap.size+1) Y (Aa _) (Ax _) (by omega) ((Az.made g).alloc _) (by simpa using Az.made (g.alloc (.map #[] 0)));rw[XE g _ _ _ _ p,XE _ _ _ _ _ (by simpa[Gh] using p),XE _ _ _ _ _ (by simpa[Gh] using p)] at r;have A:=Af r;have ae:=Af<|z.o.trans (Fx.new q b.o.lt);go_wp2;go_ret;exact⟨_,a.ve,_,rfl,A.o.1,rfl,ae.o.trans A.o.2⟩
theorem XF{B M:Nat}{W:U}{a:Ca}{s:Cs}(h:Cx B M W a s){e:Ev}{x:Wr}(ab:s.ws[k]?=x)(w:e.kind=4)(ac:x.on=true){v0:Int}(ad:x.wr=v0):
 Calls prog 124 #[M,(k:Int),.agg (Aj e)] W λae m=>Cu B M W a k (s,.lk) ae m:=by
 obtain⟨ae,i,am,a5,an,ao,A,-,a6,-,D⟩:=h.maps ab ac;rw[ad] at D;have n:=(((Ae _ W).alloc (Aa _) (Rh M)).alloc (by simp) (Ri k)).alloc (by simp;omega)<|LI e;have l:=Af<|h.call n;have o:=Af<|Fx.new (ve:=a.ve) n h.lt;have d:=Af<|Rb.new W M k e;have p:=Af<|D.call n;have a7:(0:Int)<=(k:Int):=by omega
 have a8:(k:Int)<2:=by omega
 have a9:(e.kind==1)=false:=by rw[w];rfl
 have ba:(e.kind==7)=false:=by rw[w];rfl
 have bb:(e.kind==4)=true:=by rw[w];rfl
 have q:=Af<|(n.cell (Ad W _ A)).trans A;clear h ab w am an ao A n D ad ac;unfold Rh Ri LI at l o d p q;unfold Aj at l o d p q|-;go_in;go_upto_region 1 with fail;generalize ap:W.heap.size=r at d|-;clear ap;generalize ((W.alloc (K #[M] C7)).alloc (K #[(k:Int)] tI)).alloc (K #[e.kind,e.tx,e.thr,e.obj,e.op,e.key,e.val,e.ret] AJ)=t at l o d p q|-;have aq:=d.o.b1.cell 0;have ar:=d.o.b2.cell 0;have au:t.cell? (r+1+1:Nat)=e.kind:=d.o.b3.cell 0;have av:=l.o.mb.cell 2;go_quiet (fail);have F:=Af<|l.o.drewN nq;have af:=Af (show Fx B a.ve W (t.drewN nq) from o.o.drewN nq);have G:=Af<|d.o.below (Y:=t.drewN nq) ⟨rfl,rfl,rfl,Aa _,λ_ _=>rfl⟩;have L:=Af<|p.o.drewN nq;have S:(t.drewN nq).cell? ⟨a.kb,k*3+2,O⟩=E (.map (E i)):=q.o;clear aq ar av l o d p q;go_upto_region 9 with fail;clear au;generalize t.drewN nq=b at F af G L S|-
 have aw:∀X,(Uf #[155] X #[.map (E i)]).run prog b=.ok (I J 1) b:=λX=>by
  let⟨bc,ax,_,ay⟩:=XA L;have u:=ax.len underlying155 X;rw[ay] at u;exact u
 go_upto_region 11 with fail;have y:=And.intro (G.o.b1.cell 0)<|And.intro (G.o.b2.cell 0) S
 have j:∀(v:U),Below b b v->v.cell? r=M/\v.cell? (r+1:Nat)=E (k:Int)/\v.cell? ⟨a.kb,k*3+2,O⟩=E (.map (E i)):=λv az=>
  have Y:=λag (ah:N) (u:b.cell? ag=ah)=>(az.cell (Ad b ag u)).trans u
  ⟨Y _ _ y.1,Y _ _ y.2.1,Y _ _ y.2.2⟩
 have ai:=(Zb b).drew;have Z:=(Zc b (K #[.map (E i)] 155)).drew;have j:=Af j;have bd:=j.o _<|Ae _ b;have be:=j.o _ ai;have bf:=j.o _ Z;have g:=Af Z;have a0:=Af<|(L.o.alloc (K #[.map (E i)] 155)).drew;have a1:=Af<|(Ah.new b 155 #[.map (E i)]).drew
 go_region_held3 (λm=>m.cell? r=M/\m.cell? (r+1:Nat)=E (k:Int)/\m.cell? ⟨a.kb,k*3+2,O⟩=E (.map (E i)))
  (with_reducible assumption)
  (first
   |(go_at_call 188;refine(Xz _ _).mono ?_;rintro e bg ⟨rfl,rfl⟩)
   |(go_at_call 163;refine(PU a0 a1).mono ?_;rintro e bh ⟨bi,rfl,a2,aj⟩;have bj:=j.o _ (g.o.trans (aj.mono g.o.size));have z:=Af aj)
   |(go_at_call 187;refine(AcG M a.ve k a2).mono ?_;rintro e bk ⟨ah,rfl,ak,aa⟩;have bl:=j.o _ ((g.o.trans (z.o.mono g.o.size)).trans (aa.mono (A8 g.o.size z.o.size)));have a3:=Af ak;have a4:=Af aa;clear ak aa))
 go_wp2;go_ret;have al:=(g.o.trans (z.o.mono g.o.size)).trans<|a4.o.mono (A8 g.o.size z.o.size);exact⟨_,a.ve,a.wl,rfl,F.o.call al,a3,af.o.trans (Fx.new al F.o.lt)⟩
theorem Rk(w:U):(zeroValue 3).run prog w=.ok () w:=by kernel_rfl
theorem K0:prog.underlying 155=E (.map 3 3):=by kernel_rfl
theorem AaJ:prog.underlying 170=E (.map 3 4):=by kernel_rfl
theorem Cx.clAt{B M:Nat}{W:U}{a:Ca}{s:Cs}(h:Cx B M W a s):∃b e,a.cl=C (E ⟨b,0,O⟩) 1 e/\1<=e/\W.cell? ⟨b,0,O⟩=s.cv/\W.cell? ⟨b,1,O⟩=s.cn/\W.cell? ⟨b,2,O⟩=s.co/\(∀g,W.frozen? ⟨b,g,O⟩=false)/\b<W.heap.size:=by
 have d:=h.cl;rcases h.cl.2 with ⟨_,j⟩|⟨k,e,cur,i,n,l,m,_⟩
 .cases j
 .rw[i] at d;refine⟨k,e,i,m,?_,?_,?_,λg=>d.frozenAt g,AB l⟩
  .rw[d.cellAt 0 (by decide)];rfl
  .rw[d.cellAt 1 (by decide)];rfl
  .rw[d.cellAt 2 (by decide)];rfl
theorem Agg{B M:Nat}{W:U}{a:Ca}{s:Cs}(h:Cx B M W a s)(X:s.wd.es.length<=901){Y:Bool}{tx thr key v ret:Int}(Z:s.ws[k]?=E ⟨t,true,Y,O⟩):
 Calls prog 190 #[M,(k:Int),.agg (Aj ⟨x,tx,thr,0,2,key,v,ret⟩)] W λw am=>Cu B M W a k ({s with ws:=s.ws.set k ⟨t,true,Y,E v⟩,wd:=(s.wd.answer k 0 false).2},.idle) w am:=by
 let⟨w,y,aa,bd,an,ao,z,be,e,ab,ac⟩:=h.maps Z rfl;have l:=(Ae _ W).alloc (Aa _)<|LI ⟨x,tx,thr,0,2,key,v,ret⟩;have b:=Af<|h.call l;have m:=Af<|Fx.new (ve:=a.ve) l h.lt;have n:=Af<|(l.cell (Ad W _ z)).trans z;have o:=Af<|ac.call l;have g:=Af<|Ah.new W AJ (Aj ⟨x,tx,thr,0,2,key,v,ret⟩);have ap:=Af aa;have aq:=Af X;have bf:(0:Int)<=(k:Int):=by omega
 have bg:(k:Int)<2:=by omega
 obtain rfl:e=0:=by simpa using ab
 unfold LI at b m o n;unfold Aj at b m o n g|-;go_in;go_upto_region 1 with fail;generalize ar:W.heap.size=i at g|-;generalize W.alloc (K #[x,tx,thr,(),I J 2,key,v,ret] AJ)=p at b m o n g|-;let⟨bh,bi,ad,au,av,aw,ax,ay,az⟩:=b.o.clAt;have ae:p.cell? ⟨M,1,O⟩=a.cl:=b.o.mb.cell 1;have a0:=b.o.mb.cell 2;rw[ad] at ae;have q:p.cell? ⟨i,3,O⟩=E ():=g.o.cell 3;go_quiet (fail);go_upto_region 2 with fail;have A:=Af<|b.o.drewN nq;have D:=Af (show Fx B a.ve W (p.drewN nq) from m.o.drewN nq);have j:=Af<|g.o.drewN nq;have r:=Af<|o.o.drewN nq;have F:(p.drewN nq).cell? ⟨a.kb,k*3+2,O⟩=E (.map (E y)):=n.o;generalize p.drewN nq=d at A D j r F|-;have q:d.cell? ⟨i,3,O⟩=E ():=j.o.cell 3;have a1:d.cell? ⟨i,4,O⟩=E (I J 2):=j.o.cell 4;have G:d.cell? ⟨i,6,O⟩=v:=j.o.cell 6
 have a2:∀e,(B1 155 (.map (E y)) () true).run prog (d.drewN e)=.ok (.tuple #[(),false]) (d.drewN e):=λe=>by
  have a3:=(r.o.drewN e).look_ok K0 (Rk _) (k:=0) (by decide) (by decide);simpa[Fr,wrO] using a3
 go_quiet (fail);go_upto_region 6 with fail;have af:=Af<|A.o.drewN nq;have L:=Af (show Fx B a.ve W (d.drewN nq) from D.o.drewN nq);have S:=Af<|j.o.drewN nq;have ag:=Af<|r.o.drewN nq;have ah:(d.drewN nq).cell? ⟨a.kb,k*3+2,O⟩=E (.map (E y)):=F;generalize d.drewN nq=V at af L S ag ah|-;have q:V.cell? ⟨i,3,O⟩=E ():=S.o.cell 3;have G:V.cell? ⟨i,6,O⟩=v:=S.o.cell 6;let⟨a4,a5,ai,aj⟩:=(ag.o.drew).put K0 (by unfold Al;omega) (k:=0) (by decide) (by decide) v
 go_region
 have u:=af.o.drew.putW ap rfl aj ai<|Aa _;have a6:=Af u;have bj:a4.cell? M=a.T:=a6.o.1.mb.cell 0;have a7:=Af<|Hh u.1 (show s.wd.es.length<=901 from aq.o) k 0 (by decide) false;have a8:=Af<|L.o.trans (((Fx.refl B a.ve V).drew).trans u.2);go_wp2_with fail;refine a7.o.mono ?_;rintro w bk ⟨rfl,a9,ak,al,ba⟩;have bb:=Af ak;have bc:=Af<|a8.o.trans al;go_wp2;go_ret;exact⟨_,a9,_,rfl,bb,rfl,bc⟩
theorem Agh{B M:Nat}{W:U}{a:Ca}{s:Cs}(h:Cx B M W a s)(aw:s.wd.es.length<=901){tx thr op key v ret:Int}(ax:op≠2)(ay:s.ws[k]?=E ⟨t,true,false,O⟩)(az:s.co=0)(D:¬t<s.cn)(bf:0<=s.cv/\s.cv<=1000):
 Calls prog 190 #[M,(k:Int),.agg (Aj ⟨x,tx,thr,0,op,key,v,ret⟩)] W λp F=>Cu B M W a k ({s with ws:=s.ws.set k ⟨t,true,true,O⟩,wd:=(s.wd.answer k s.cv false).2},.idle) p F:=by
 let⟨p,a0,a1,b8,ab,ac,ad,⟨bg,a2,a3⟩,m,a4,a5⟩:=h.maps ay rfl;have g:=(Ae _ W).alloc (Aa _)<|LI ⟨x,tx,thr,0,op,key,v,ret⟩;have i:=Af<|h.call g;have q:=Af<|Fx.new (ve:=a.ve) g h.lt;have d:=Af<|(g.cell (Ad W _ ad)).trans ad;have r:=Af<|a5.call g;have u:=Af<|a3.call g;have w:=Af<|(g.cell (Ad W _ ab)).trans ab;have y:=Af<|(g.cell (Ad W _ ac)).trans ac;have n:=Af<|Ah.new W AJ (Aj ⟨x,tx,thr,0,op,key,v,ret⟩);have bh:=Af a1;have bi:=Af aw;have b9:(0:Int)<=(k:Int):=by omega
 have ca:(k:Int)<2:=by omega
 obtain rfl:m=0:=by simpa using a4
 obtain rfl:bg=0:=by simpa using a2
 have bj:=Af az;have cb:(op==2)=false:=by simpa using ax
 have cc:decide (t<s.cn)=false:=by simpa using D
 unfold LI at i q r u w y d;unfold Aj at i q r u w y d n|-;go_in;go_upto_region 1 with fail;generalize bk:W.heap.size=G at n|-;generalize W.alloc (K #[x,tx,thr,(),op,key,v,ret] AJ)=l at i q r u w y d n|-;let⟨a6,cd,ae,bl,o,af,L,bm,bn⟩:=i.o.clAt;have a7:l.cell? ⟨M,1,O⟩=a.cl:=i.o.mb.cell 1;have bo:=i.o.mb.cell 2;rw[ae] at a7;have a8:=Af ae;have e:l.cell? ⟨G,3,O⟩=E ():=n.o.cell 3;go_quiet (fail);go_upto_region 2 with fail;have ag:=Af<|i.o.drewN nq;have ah:=Af (show Fx B a.ve W (l.drewN nq) from q.o.drewN nq);have z:=Af<|n.o.drewN nq;have ai:=Af<|r.o.drewN nq;have aj:=Af<|u.o.drewN nq;have d:=Af (show(l.drewN nq).cell? ⟨a.kb,k*3,O⟩=t/\(l.drewN nq).cell? ⟨a.kb,k*3+1,O⟩=E (.map (E p))/\(l.drewN nq).cell? ⟨a.kb,k*3+2,O⟩=E (.map (E a0)) from⟨w,y,d⟩);have a9:=d.o.2.2;generalize l.drewN nq=j at ag ah z ai aj d a9|-;have e:j.cell? ⟨G,3,O⟩=E ():=z.o.cell 3;have bp:j.cell? ⟨G,4,O⟩=op:=z.o.cell 4
 have bq:∀m,(B1 155 (.map (E a0)) () true).run prog (j.drewN m)=.ok (.tuple #[(),false]) (j.drewN m):=λm=>by
  have br:=(ai.o.drewN m).look_ok K0 (Rk _) (k:=0) (by decide) (by decide);simpa[Fr,wrO] using br
 go_quiet (fail);go_upto_region 10 with fail;have S:=Af<|ag.o.drewN nq;have ak:=Af (show Fx B a.ve W (j.drewN nq) from ah.o.drewN nq);have al:=Af<|z.o.drewN nq;have am:=Af<|aj.o.drewN nq;have X:=Af (show(j.drewN nq).cell? ⟨a.kb,k*3,O⟩=t/\(j.drewN nq).cell? ⟨a.kb,k*3+1,O⟩=E (.map (E p)) from⟨d.o.1,d.o.2.1⟩);generalize j.drewN nq=V at S ak al am X|-;obtain⟨bs,bt,A,-,o,af,L,-,-⟩:=S.o.clAt;rw[a8.o] at A;injection A with b ba e;injection b with b;injection b with b;subst b e;rw[bj.o] at L;have bu:=X.o.1;go_quiet (fail);go_upto_region 3 with fail;have an:=Af<|S.o.drewN nq;have ao:=Af (show Fx B a.ve W (V.drewN nq) from ak.o.drewN nq);have e:(V.drewN nq).cell? ⟨G,3,O⟩=E ():=al.o.cell 3;have ap:=Af<|am.o.drewN nq;have bb:(V.drewN nq).cell? ⟨a.kb,k*3+1,O⟩=E (.map (E p)):=X.o.2;generalize V.drewN nq=bv at an ao ap bb e|-;let⟨bw,bz,bc,bd⟩:=(ap.o.drew).put AaJ (by unfold Al;omega) (k:=0) (by decide) (by decide) true
 go_region
 have aq:=an.o.drew.putR bh rfl bd bc<|Aa _;have ar:=Af aq.1;have b0:=Af<|ao.o.trans (((Fx.refl B a.ve bv).drew).trans aq.2);go_upto_region 4 with fail
 have Y:∀(Z:Ca) (au:Cs) (aa:U),Cx B M aa Z au->Z.T=a.T->Z.cl=a.cl->au.cv=s.cv->aa.cell? M=a.T/\aa.cell? a6=s.cv:=λZ au aa h b1 b2 b3=>by
  obtain⟨bs,bt,A,-,o,-⟩:=h.clAt;rw[b2,a8.o] at A;injection A with b ba e;injection b with b;injection b with b;subst b;rw[b3] at o;exact⟨b1▸h.mb.cell 0,o⟩
 have ce:=Y _ _ _ ar rfl rfl rfl;have cf:=Y _ _ _ ar.o.drew rfl rfl rfl;have b4:=Af Y
 go_region_held3 (λF=>F.cell? M=a.T/\F.cell? a6=s.cv) (with_reducible assumption)
  (first
   |(go_at_call 243;refine(Hh ar.o.drew (show s.wd.es.length<=901 from bi.o) k s.cv bf false).mono ?_;rintro cg ch ⟨rfl,b5,av,be,D⟩;have b6:=Af av;have b7:=Af (b0.o.trans (((Fx.refl B a.ve bw).drew).trans be));have ci:=b4.o _ _ _ av rfl rfl rfl;clear av be D))
 go_wp2;go_ret;exact⟨_,b5,_,rfl,b6,rfl,b7⟩
theorem AcJ{B M:Nat}{W:U}{a:Ca}{s:Cs}(h:Cx B M W a s)(l:s.wd.es.length<=901)(k1:Ah W n C7 #[M])(k2:Ah W g tI #[(k:Int)]):
 Calls prog 244 #[n,g] W λp d=>Cu B M W a k ({s with wd:=(s.wd.answer k 0 false).2},.idle) p d:=by
 have q:=And.intro (k1.cell 0)<|And.intro (k2.cell 0) (h.mb.cell 0)
 have r:Hid (∀(e:Ca) (m:Cs) (b:U),Cx B M b e m->e.T=a.T->Kq a.ve W.drew b->b.cell? n=M/\b.cell? g=E (k:Int)/\b.cell? M=a.T):=Af λe m b h t o=>
  ⟨(show Ah b n C7 _ from(o _ _ _ k1.drew (.inl rfl)).trans k1).cell 0,(show Ah b g tI _ from(o _ _ _ k2.drew (.inr (.inl rfl))).trans k2).cell 0,t▸h.mb.cell 0⟩
 have u:=Af h;have v:=Af l;go_in;go_upto_region 1 with fail;have A:W.drew.cell? n=M/\W.drew.cell? g=E (k:Int)/\W.drew.cell? M=a.T:=q
 go_region_held3 (λd=>d.cell? n=M/\d.cell? g=E (k:Int)/\d.cell? M=a.T) (with_reducible assumption)
  (first
   |(go_at_call 243;refine(Hh u.o.drew v k 0 (by decide) false).mono ?_;rintro D F ⟨rfl,w,i,j,x⟩;have y:=Af i;have z:=Af (((Fx.refl B a.ve W).drew).trans j);have G:=r.o _ _ _ i rfl j.q;clear i j x))
 go_wp2;go_ret;exact⟨_,w,_,rfl,y,rfl,z⟩
theorem AcK{B M:Nat}{W:U}{a:Ca}{s:Cs}(h:Cx B M W a s)(t:s.wd.es.length<=901)(k1:Ah W n C7 #[M])(k2:Ah W g tI #[(k:Int)])(u:s.co≠(s.wd.txOf k).1):
 Calls prog 241 #[n,g] W λG e=>Cu B M W a k ({s with wd:=(s.wd.answer k 0 true).2},.idle) G e:=by
 have o:=k1.cell 0;have l:=k2.cell 0;have L:=h.mb.cell 0;have v:=Af h;have w:=Af k1;have x:=Af k2;have S:=Af t;have y:=Af (λX=>Xx (h.drewN X) (k:Int));have ag:(s.co==(s.wd.txOf k).1)=false:=by simpa using u
 go_in;go_upto_region 1 with fail;go_quiet ((go_at_call 242;exact Ug (y.o _)));go_upto_region 2 with fail;have i:=Af<|v.o.drewN nq;have j:=Af<|w.o.drewN nq;have m:=Af<|x.o.drewN nq;have z:=Af (show Fx B a.ve W (W.drewN nq) from(Fx.refl B a.ve W).drewN nq);generalize W.drewN nq=d at i j m z|-;have o:=j.o.cell 0;obtain⟨ah,ai,A,aj,-,-,Y,-,-⟩:=i.o.clAt;have l:d.cell? ⟨M,1,O⟩=a.cl:=i.o.mb.cell 1;rw[A] at l;go_upto_region 3 with fail;refine wp_loop_rounds 2 ?_;rw[Aq];go_wp2;rw[Aq];go_upto_region 8 with fail;have Z:=And.intro (j.o.cell 0)<|And.intro (m.o.cell 0) (i.o.mb.cell 0)
 have aa:Hid (∀(p:Ca) (D:Cs) (b:U),Cx B M b p D->p.T=a.T->Kq a.ve d.drew b->b.cell? n=M/\b.cell? g=E (k:Int)/\b.cell? M=a.T):=Af λp D b h ab F=>
  ⟨(show Ah b n C7 _ from(F _ _ _ j.o.drew (.inl rfl)).trans j).cell 0,(show Ah b g tI _ from(F _ _ _ m.o.drew (.inr (.inl rfl))).trans m).cell 0,ab▸h.mb.cell 0⟩
 have ak:d.drew.cell? n=M/\d.drew.cell? g=E (k:Int)/\d.drew.cell? M=a.T:=Z
 go_region_held3 (λe=>e.cell? n=M/\e.cell? g=E (k:Int)/\e.cell? M=a.T) (with_reducible assumption)
  (first
   |(go_at_call 243;refine(Hh i.o.drew S k 0 (by decide) true).mono ?_;rintro al am ⟨rfl,ac,q,r,ad⟩;have ae:=Af q;have af:=Af (z.o.trans (((Fx.refl B a.ve d).drew).trans r));have an:=aa.o _ _ _ q rfl r.q;clear q r ad))
 go_wp2;go_ret;exact⟨_,ac,_,rfl,ae,rfl,af⟩
theorem AaK{W:U}{v:N}(h:W.ownsRow 0 tI 1 v 1 [()]):∃a c,v=C (E ⟨a,0,O⟩) 1 c/\1<=c/\W.cell? ⟨a,0,O⟩=E ()/\a<W.heap.size:=by
 rcases Mn h with ⟨_,b,_⟩|⟨d,e,rfl,g,_,_,i,j,_⟩
 .cases b
 .exact⟨d,e,rfl,g,by rw[j 0 (by decide)];rfl,i⟩
theorem Agi{B M:Nat}{W:U}{a:Ca}{s:Cs}(h:Cx B M W a s)(i:s.wd.es.length<=901){v:N}(k1:Ah W n C7 #[M])(k2:Ah W g Jq #[v])(k3:Ah W m tI #[(k:Int)])(j:W.ownsRow 0 tI 1 v 1 [()])(l:s.co≠0)(o:s.co≠(s.wd.txOf k).1):
 Calls prog 246 #[n,g,m] W λb Y=>Cu B M W a k ({s with wd:=(s.wd.answer k 0 true).2},.idle) b Y:=by
 obtain⟨am,c,rfl,an,Z,ao⟩:=AaK j;have p:=k1.cell 0;have aa:=k2.cell 0;have q:=k3.cell 0;obtain⟨ap,aq,r,ar,-,-,ab,-,-⟩:=h.clAt;have t:W.cell? ⟨M,1,O⟩=a.cl:=h.mb.cell 1;rw[r] at t;have u:=Af h;have w:=Af k1;have x:=Af k3;have ac:=Af i;have ad:=Af o;have au:(s.co==0)=false:=by simpa using l
 go_in;go_upto_region 1 with fail;go_quiet (fail);go_upto_region 3 with fail;have d:=Af<|u.o.drewN nq;have y:=Af<|w.o.drewN nq;have z:=Af<|x.o.drewN nq;have A:=Af (show Fx B a.ve W (W.drewN nq) from(Fx.refl B a.ve W).drewN nq);generalize W.drewN nq=ae at d y z A|-;have p:=y.o.cell 0;have q:=z.o.cell 0;go_wp2_with fail;refine(AaG M k ae).mono ?_;rintro b av ⟨rfl,D,F,e⟩;have af:=Af<|d.o.call e;have ag:=Af<|A.o.trans (Fx.new e d.o.lt);have G:=Af<|AcK af ac D F ad;go_wp2_with fail;refine G.o.mono ?_;rintro b aw ⟨ax,ah,ai,rfl,L,S,X⟩;have aj:=Af L;have ak:=Af S;have al:=Af<|ag.o.trans X;go_wp2;go_ret;exact⟨_,ah,ai,rfl,aj,ak,al⟩
theorem AeJ{B M:Nat}{W:U}{a:Ca}{s:Cs}(h:Cx B M W a s){v:N}(k1:Ah W m C7 #[M])(k2:Ah W i Jq #[v])(k3:Ah W b tI #[(k:Int)])(G:W.ownsRow 0 tI 1 v 1 [()])(ao:s.co=0):
 Calls prog 246 #[m,i,b] W λbb l=>Cu B M W a k ({s with co:=(s.wd.txOf k).1},.tk) bb l:=by
 obtain⟨w,c,rfl,bm,bc,bd⟩:=AaK G;have be:=k1.cell 0;have bf:=k2.cell 0;have bg:=k3.cell 0;obtain⟨d,bn,ad,bo,-,-,ae,ap,aq⟩:=h.clAt;have ar:W.cell? ⟨M,1,O⟩=a.cl:=h.mb.cell 1;rw[ad] at ar;rw[ao] at ae;have au:=Af h;have av:=Af k1;have aw:=Af k2;have L:=Af k3;have ax:=Af ad;have ay:=Af ap;go_in;go_upto_region 1 with fail;go_quiet (fail);go_upto_region 4 with fail;have ab:=Af<|au.o.drewN nq;have af:=Af<|av.o.drewN nq;have az:=Af<|aw.o.drewN nq;have ag:=Af<|L.o.drewN nq;have a0:=Af (show Fx B a.ve W (W.drewN nq) from(Fx.refl B a.ve W).drewN nq);have S:(W.drewN nq).cell? ⟨d,2,O⟩=E ():=ae;have X:(W.drewN nq).frozen? ⟨d,2,O⟩=false:=ay.o 2;have Y:d<(W.drewN nq).heap.size:=aq;generalize W.drewN nq=ah at ab af az ag a0 S X Y|-;have bh:=And.intro (af.o.cell 0)<|And.intro (ag.o.cell 0) (ab.o.mb.cell 0);have bp:ah.drew.cell? m=M/\ah.drew.cell? b=E (k:Int)/\ah.drew.cell? M=a.T:=bh
 have a1:Hid (∀r:U,Cx B M r a s->Ah r m C7 #[M]->Ah r i Jq #[C w 1 c]->Ah r b tI #[(k:Int)]->Ah (r.setCell ⟨d,2,O⟩ (I J (s.wd.txOf k).1)) m C7 #[M]/\Ah (r.setCell ⟨d,2,O⟩ (I J (s.wd.txOf k).1)) i Jq #[C w 1 c]/\Ah (r.setCell ⟨d,2,O⟩ (I J (s.wd.txOf k).1)) b tI #[(k:Int)]/\Cx B M (r.setCell ⟨d,2,O⟩ (I J (s.wd.txOf k).1)) a {s with co:=(s.wd.txOf k).1}/\Fx B a.ve r (r.setCell ⟨d,2,O⟩ (I J (s.wd.txOf k).1))):=Af λr h k1 k2 k3=>by
  have G:=h.cl;rw[ax.o] at G;let⟨bq,ai⟩:=Bm G (g:=d) rfl;have a2:=h.setCl ax (j:=2) (u:=I J (s.wd.txOf k).1) (v:=s.cv) (n:=s.cn) (o:=(s.wd.txOf k).1) rfl;exact⟨k1.far (p:=⟨d,2,O⟩) (AQ k1 ai (by decide)) _,k2.far (p:=⟨d,2,O⟩) (AQ k2 ai (by decide)) _,k3.far (p:=⟨d,2,O⟩) (AQ k3 ai (by decide)) _,a2.1,a2.2⟩
 have a3:=Af<|Xx ab.o.drew (k:Int);have aj:=Af<|And.intro S (And.intro X Y)
 go_region_held3 (λl=>l.cell? m=M/\l.cell? b=E (k:Int)/\l.cell? M=a.T) (with_reducible assumption)
  (first
   |(go_at_call 242;refine a3.o.mono ?_;rintro a4 e ⟨rfl,a5,x⟩;have z:Ah e m C7 #[M]:=x▸af.o;have D:Ah e i Jq #[C w 1 c]:=x▸az.o;have A:Ah e b tI #[(k:Int)]:=x▸ag.o;have ak:Cx B M e a s:=x▸ab.o.drew.drewN a5;have S:e.cell? ⟨d,2,O⟩=E ():=x▸aj.o.1;have X:e.frozen? ⟨d,2,O⟩=false:=x▸aj.o.2.1;have Y:d<e.heap.size:=x▸aj.o.2.2;have a6:=Af (show Fx B a.ve W e from x▸a0.o.drew.drewN a5);have al:e.cell? m=M/\e.cell? b=E (k:Int)/\e.cell? M=a.T:=And.intro (z.cell 0) (And.intro (A.cell 0) (ak.mb.cell 0));have F:=Af (a1.o e ak z D A);have a7:(e.setCell ⟨d,2,O⟩ (I J (s.wd.txOf k).1)).cell? m=M/\(e.setCell ⟨d,2,O⟩ (I J (s.wd.txOf k).1)).cell? b=E (k:Int)/\(e.setCell ⟨d,2,O⟩ (I J (s.wd.txOf k).1)).cell? M=a.T:=And.intro (F.o.1.cell 0) (And.intro (F.o.2.2.1.cell 0) (F.o.2.2.2.1.mb.cell 0));clear x z D A ak))
 have am:=Af<|And.intro F (a6.o.trans F.o.2.2.2.2);generalize e.setCell ⟨d,2,O⟩ (I J (s.wd.txOf k).1)=q at am|-;go_upto_region 5 with fail;obtain⟨⟨z,D,A,a8,-⟩,a9⟩:=am.o;have al:q.cell? m=M/\q.cell? i=E (C w 1 c)/\q.cell? b=E (k:Int):=⟨z.cell 0,D.cell 0,A.cell 0⟩;have a7:q.drew.cell? m=M/\q.drew.cell? i=E (C w 1 c)/\q.drew.cell? b=E (k:Int):=al;have L:=Af (λ(bj:U) (t:Below q.drew.heap.size q.drew bj)=>And.intro ((z.drew.below t z.drew.lt).cell 0) (And.intro ((D.drew.below t D.drew.lt).cell 0) ((A.drew.below t A.drew.lt).cell 0)));have ac:=Af a8;have ba:=Af a9;by_cases bk:c=1
 .subst bk
  go_region_held3 (λl=>l.cell? m=M/\l.cell? i=E (C w 1 1)/\l.cell? b=E (k:Int)) (with_reducible assumption)
   (first
    |(go_at_call 187;refine(Sz M a.ve k q.drew _ _).mono ?_;rintro a4 y ⟨bi,rfl,Z,t⟩;have bl:y.cell? m=M/\y.cell? i=E (C w 1 1)/\y.cell? b=E (k:Int):=L.o y t;have an:=Af Z;have aa:=Af t;clear Z t))
  go_wp2;go_ret;exact⟨_,a.ve,a.wl,rfl,ac.o.drew.call aa,an,ba.o.trans (((Fx.refl B a.ve q).drew).trans (Fx.new aa ac.o.drew.lt))⟩
 .go_region_held3 (λl=>l.cell? m=M/\l.cell? i=E (C w 1 c)/\l.cell? b=E (k:Int)) (with_reducible assumption)
   (first
    |(go_at_call 187;refine(Sz M a.ve k q.drew _ _).mono ?_;rintro a4 y ⟨bi,rfl,Z,t⟩;have bl:y.cell? m=M/\y.cell? i=E (C w 1 c)/\y.cell? b=E (k:Int):=L.o y t;have an:=Af Z;have aa:=Af t;clear Z t))
  go_wp2;go_ret;exact⟨_,a.ve,a.wl,rfl,ac.o.drew.call aa,an,ba.o.trans (((Fx.refl B a.ve q).drew).trans (Fx.new aa ac.o.drew.lt))⟩
theorem AcL{B M:Nat}{W:U}{a:Ca}{s:Cs}(h:Cx B M W a s){x:Wr}(k1:Ah W n C7 #[M])(k2:Ah W g tI #[(k:Int)])(v:s.ws[k]?=x)(w:x.on=true)(S:x.rd=true)(ag:0<=s.clock/\s.clock<1000):
 Calls prog 286 #[n,g] W λd i=>Cu B M W a k ({s with clock:=s.clock+1},.look (s.clock+1)) d i:=by
 obtain⟨d,ah,y,au,-⟩:=h.maps v w;have X:=h.setClock<|s.clock+1;have l:=k1.far (p:=⟨M,3,O⟩) (AQ k1 h.mb (by decide))<|I J (s.clock+1);have m:=k2.far (p:=⟨M,3,O⟩) (AQ k2 h.mb (by decide))<|I J (s.clock+1);have z:=k1.cell 0;have ai:=h.mb.cell 3;have aj:=h.mb.frozen 3;have ak:=h.mb.lt;have A:=Af<|And.intro l (And.intro m X);have q:=Af<|And.intro v (And.intro w S);have av:(0:Int)<=(k:Int):=by omega
 have aw:(k:Int)<2:=by omega
 obtain⟨ax,ay⟩:=ag;go_in;go_upto_region 2 with fail;generalize W.setCell ⟨M,3,O⟩ (I J (s.clock+1))=b at A|-;let⟨l,m,r,Y⟩:=A.o;obtain⟨d,ah,y,-,z,D,al,⟨az,-,F⟩,-⟩:=r.maps (show({s with clock:=s.clock+1}:Cs).ws[k]?=x from q.o.1) q.o.2.1;rw[q.o.2.2] at F
 have o:Hid (∀(j:U),Below b b j->j.cell? n=M/\j.cell? g=E (k:Int)/\j.cell? ⟨M,2,O⟩=E (C a.kb 2 2)/\j.cell? ⟨M,3,O⟩=E (I J (s.clock+1))/\j.cell? ⟨a.kb,k*3+1,O⟩=E (.map (E d))):=Af λj t=>
  have Z:=r.call t
  ⟨(l.below t l.lt).cell 0,(m.below t m.lt).cell 0,Z.mb.cell 2,Z.mb.cell 3,(t.cell (Ad b _ D)).trans D⟩
 have aa:=(Zb b).drew;have G:=(Zc b (K #[.map (E d)] 170)).drew;have a0:=o.o _<|Ae _ b;have a1:=o.o _ aa;have a2:=o.o _ G;have e:=Af G;have am:=Af<|(F.alloc (K #[.map (E d)] 170)).drew;have an:=Af<|(Ah.new b 170 #[.map (E d)]).drew;have ab:=Af r;have ao:=Af Y
 go_region_held3 (λi=>i.cell? n=M/\i.cell? g=E (k:Int)/\i.cell? ⟨M,2,O⟩=E (C a.kb 2 2)/\i.cell? ⟨M,3,O⟩=E (I J (s.clock+1))/\i.cell? ⟨a.kb,k*3+1,O⟩=E (.map (E d)))
  (with_reducible assumption)
  (first
   |(go_at_call 288;refine(AcE _ _).mono ?_;rintro ac a3 ⟨rfl,rfl⟩)
   |(go_at_call 163;refine(XB am an).mono ?_;rintro ac a4 ⟨a5,rfl,ap,ad⟩;have a6:=o.o _ (e.o.trans (ad.mono e.o.size));have u:=Af ad)
   |(go_at_call 287;refine(AcH M a.ve k (s.clock+1) ap).mono ?_;rintro ac a7 ⟨a8,rfl,ae,L⟩;have a9:=o.o _ ((e.o.trans (u.o.mono e.o.size)).trans (L.mono (A8 e.o.size u.o.size)));have aq:=Af ae;have ar:=Af L;clear ae L))
 go_wp2;go_ret;have af:=(e.o.trans (u.o.mono e.o.size)).trans<|ar.o.mono (A8 e.o.size u.o.size);exact⟨_,a.ve,a.wl,rfl,ab.o.call af,aq,ao.o.trans (Fx.new af ab.o.lt)⟩
theorem AcM{B M:Nat}{W:U}{a:Ca}{s:Cs}(h:Cx B M W a s){v:N}{v0:Int}{x:Wr}(k1:Ah W n C7 #[M])(k2:Ah W g Jq #[v])(k3:Ah W m tI #[(k:Int)])(k4:Ah W i tI #[t])(am:W.ownsRow 0 tI 1 v 1 [()])
 (r:s.ws[k]?=x) (u:x.on=true) (Z:x.wr=v0) (w:s.co≠0) (y:s.co=(s.wd.txOf k).1) (z:¬x.time<s.cn):
 Calls prog 344 #[n,g,m,i] W λan e=>Cu B M W a k (s,.wr t) an e:=by
 obtain⟨A,c,rfl,bf,av,aw⟩:=AaK am;have ad:=k1.cell 0;have ax:=k2.cell 0;obtain⟨bg,bh,ao,bi,ay,ae,af,-,az⟩:=h.clAt;have ap:W.cell? ⟨M,1,O⟩=a.cl:=h.mb.cell 1;rw[ao] at ap;have j:=(Zc W (K #[s.cv,s.cn,s.co] TZ)).drew;have l:=Af<|h.call j;have ag:=Af<|Fx.new (ve:=a.ve) j h.lt;have D:=Af<|(Ah.new W TZ #[s.cv,s.cn,s.co]).drew;have aa:=Af<|k1.below j k1.lt;have ah:=Af<|k2.below j k2.lt;have o:=Af<|k3.below j k3.lt;have ai:=Af<|k4.below j k4.lt;have ab:=Af<|And.intro r (And.intro u (And.intro Z (And.intro w (And.intro y z))));have a0:=k1.lt;have a1:=k2.lt;have a2:=h.mb.lt;clear h k1 k2 k3 k4 am r u Z w y z ao j;go_in;go_upto_region 1 with fail
 go_region
 clear ad ax ap ay ae af az a0 a1 a2 av aw;generalize W.heap.size=aq at D|-;generalize (W.alloc (K #[s.cv,s.cn,s.co] TZ)).drew=ac at l ag D aa ah o ai|-;let⟨r,u,Z,w,y,z⟩:=ab.o;obtain⟨an,bj,a3,bk,ad,-⟩:=l.o.maps r u;have ae:ac.cell? ⟨aq,1,O⟩=s.cn:=D.o.cell 1;have af:ac.cell? ⟨aq,2,O⟩=s.co:=D.o.cell 2;have a4:=aa.o.cell 0;have a5:=o.o.cell 0;have a6:=l.o.mb.cell 0;have a7:=l.o.mb.cell 2;have bl:(s.co !=0)=true:=by simpa using w
 have bm:(s.co !=(s.wd.txOf k).1)=false:=by simpa using y
 have bn:decide (x.time<s.cn)=false:=by simpa using z
 have bo:(0:Int)<=(k:Int):=by omega
 have bp:(k:Int)<2:=by omega
 have ar:=Af (λa8=>Xx (l.o.drewN a8) (k:Int));clear r u Z w y z a3;go_upto_region 2 with fail;go_quiet ((go_at_call 242;exact Ug (ar.o _)));go_upto_region 4 with fail;have q:=Af<|l.o.drewN nq;have aj:=Af (show Fx B a.ve W (ac.drewN nq) from ag.o.drewN nq);have F:=aa.o.drewN nq;have G:=ah.o.drewN nq;have L:=o.o.drewN nq;have S:=ai.o.drewN nq;clear l ag D aa ah o ai ar ad ae af a4 a5 a6 a7;generalize ac.drewN nq=b at q aj F G L S|-;have a9:b.cell? n=M/\b.cell? g=E (C A 1 c)/\b.cell? m=E (k:Int)/\b.cell? i=t:=⟨F.cell 0,G.cell 0,L.cell 0,S.cell 0⟩;have bq:b.drew.cell? n=M/\b.drew.cell? g=E (C A 1 c)/\b.drew.cell? m=E (k:Int)/\b.drew.cell? i=t:=a9;have o:Hid (∀(p:U),Below b.drew.heap.size b.drew p->p.cell? n=M/\p.cell? g=E (C A 1 c)/\p.cell? m=E (k:Int)/\p.cell? i=t):=Af (λ(p:U) (d:Below b.drew.heap.size b.drew p)=>And.intro ((F.drew.below d F.drew.lt).cell 0) (And.intro ((G.drew.below d G.drew.lt).cell 0) (And.intro ((L.drew.below d L.drew.lt).cell 0) ((S.drew.below d S.drew.lt).cell 0))));have au:=Af (λba c=>AaI q.o.drew ab.o.1 ab.o.2.1 ab.o.2.2.1 t ba c);by_cases bb:c=1
 .subst bb
  go_region_held3 (λe=>e.cell? n=M/\e.cell? g=E (C A 1 1)/\e.cell? m=E (k:Int)/\e.cell? i=t) (with_reducible assumption)
   (first
    |(go_at_call 287;refine(au.o _ _).mono ?_;rintro bc ak ⟨bd,rfl,X,d⟩;have be:=o.o ak d;have al:=Af X;have Y:=Af d;clear X d))
  go_wp2;go_ret;exact⟨_,a.ve,a.wl,rfl,q.o.drew.call Y,al,aj.o.trans (((Fx.refl B a.ve b).drew).trans (Fx.new Y q.o.drew.lt))⟩
 .go_region_held3 (λe=>e.cell? n=M/\e.cell? g=E (C A 1 c)/\e.cell? m=E (k:Int)/\e.cell? i=t) (with_reducible assumption)
   (first
    |(go_at_call 287;refine(au.o _ _).mono ?_;rintro bc ak ⟨bd,rfl,X,d⟩;have be:=o.o ak d;have al:=Af X;have Y:=Af d;clear X d))
  go_wp2;go_ret;exact⟨_,a.ve,a.wl,rfl,q.o.drew.call Y,al,aj.o.trans (((Fx.refl B a.ve b).drew).trans (Fx.new Y q.o.drew.lt))⟩
theorem AcN{B M:Nat}{W:U}{a:Ca}{s:Cs}(h:Cx B M W a s){v:N}{v0:Int}{x:Wr}(k1:Ah W n C7 #[M])(k2:Ah W m Jq #[v])(k3:Ah W i tI #[(k:Int)])(k4:Ah W b tI #[t])(z:W.ownsRow 0 tI 1 v 1 [()])
 (aw:s.ws[k]?=x) (ax:x.on=true) (ay:x.wr=v0):
 Calls prog 371 #[n,i,m,b] W λaz e=>Cu B M W a k ({s with cv:=v0,cn:=t,co:=0},.cm) az e:=by
 obtain⟨l,c,rfl,bz,am,bh⟩:=AaK z;have a0:=k1.cell 0;have a1:=k2.cell 0;have a2:=k3.cell 0;have a3:=k4.cell 0;let⟨d,G,A,b0,bi,bj,bk,ag,bl⟩:=h.clAt;obtain⟨az,D,bm,b1,-,-,an,-,b2,-,ao⟩:=h.maps aw ax;rw[ay] at ao;have bn:(B1 155 (.map (E D)) () false).run prog W.drew=.ok v0 W.drew:=ao.drew.look K0 (Rk _) (k:=0) (by decide) (by decide);have ah:W.cell? ⟨M,1,O⟩=a.cl:=h.mb.cell 1;rw[A] at ah;have a4:=h.mb.cell 2;have bo:=ag 0;have bp:=ag 1;have bq:=ag 2;have b3:(0:Int)<=(k:Int):=by omega
 have b4:(k:Int)<2:=by omega
 have a5:Hid (∀w:U,w=(((W.setCell d v0).setCell ⟨d,1,O⟩ t).setCell ⟨d,2,O⟩ ())->Cx B M w a {s with cv:=v0,cn:=t,co:=0}/\Fx B a.ve W w/\Ah w n C7 #[M]/\Ah w m Jq #[C l 1 c]/\Ah w i tI #[(k:Int)]/\Ah w b tI #[t]/\w.cell? l=E ()/\w.cell? ⟨a.kb,k*3+2,O⟩=E (.map (E D))/\w.cell? ⟨M,1,O⟩=E (C d 1 G)):=Af λw ai=>by
  have br:=z;have z:=h.cl;rw[A] at z;let⟨b5,aj⟩:=Bm z (g:=d) rfl;let⟨b6,bs⟩:=Bm br (g:=l) rfl
  have ap:∀(F:Addr) (L:N),F.block≠d->W.cell? F=E L->w.cell? F=E L:=λF L S bt=>by
   rw[ai];have X:((((W.setCell d v0).setCell ⟨d,1,O⟩ t).setCell ⟨d,2,O⟩ ())).heap[F.block]?=W.heap[F.block]?:=(B3 _ ⟨d,2,O⟩ _ _ S).trans<|(B3 _ ⟨d,1,O⟩ _ _ S).trans (B3 _ d _ _ S);exact(World.cell?_of_block X).trans bt
  have ak:∀ {a6:Nat} {aq:Ab} {a7:Array N},Ah W a6 aq a7->aq≠TZ->Ah w a6 aq a7:=λq S=>by
   have X:=AQ q aj S;rw[ai];exact((q.far (p:=d) X _).far (p:=⟨d,1,O⟩) X _).far (p:=⟨d,2,O⟩) X _
  have al:=h.setCl A (j:=0) (u:=v0) (v:=v0) (n:=s.cn) (o:=s.co) rfl;have r:=al.1.setCl A (j:=1) (u:=t) (v:=v0) (n:=t) (o:=s.co) rfl;have Y:=r.1.setCl A (j:=2) (u:=()) (v:=v0) (n:=t) (o:=0) rfl;exact⟨ai▸Y.1,ai▸al.2.trans (r.2.trans Y.2),ak k1 (by decide),ak k2 (by decide),ak k3 (by decide),ak k4 (by decide),ap l _ (AQ bs aj (by decide)) am,ap ⟨a.kb,k*3+2,O⟩ _ (AQ h.ws aj (by decide)) an,ap ⟨M,1,O⟩ _ (AQ h.mb aj (by decide)) ah⟩
 go_in;go_upto_region 1 with fail;have a8:W.cell? n=M/\W.cell? m=E (C l 1 c)/\W.cell? i=E (k:Int)/\W.cell? b=t/\W.cell? ⟨M,1,O⟩=E (C d 1 G)/\W.cell? ⟨M,2,O⟩=E (C a.kb 2 2)/\W.cell? l=E ()/\W.cell? ⟨a.kb,k*3+2,O⟩=E (.map (E D)):=⟨a0,a1,a2,a3,ah,a4,am,an⟩;have al:W.drew.cell? n=M/\W.drew.cell? m=E (C l 1 c)/\W.drew.cell? i=E (k:Int)/\W.drew.cell? b=t/\W.drew.cell? ⟨M,1,O⟩=E (C d 1 G)/\W.drew.cell? ⟨M,2,O⟩=E (C a.kb 2 2)/\W.drew.cell? l=E ()/\W.drew.cell? ⟨a.kb,k*3+2,O⟩=E (.map (E D)):=a8;have r:=a5.o _ rfl;have Y:(((W.setCell d v0).setCell ⟨d,1,O⟩ t).setCell ⟨d,2,O⟩ ()).drew.cell? n=M/\(((W.setCell d v0).setCell ⟨d,1,O⟩ t).setCell ⟨d,2,O⟩ ()).drew.cell? m=E (C l 1 c)/\(((W.setCell d v0).setCell ⟨d,1,O⟩ t).setCell ⟨d,2,O⟩ ()).drew.cell? i=E (k:Int)/\(((W.setCell d v0).setCell ⟨d,1,O⟩ t).setCell ⟨d,2,O⟩ ()).drew.cell? b=t/\(((W.setCell d v0).setCell ⟨d,1,O⟩ t).setCell ⟨d,2,O⟩ ()).drew.cell? ⟨M,1,O⟩=E (C d 1 G)/\(((W.setCell d v0).setCell ⟨d,1,O⟩ t).setCell ⟨d,2,O⟩ ()).drew.cell? ⟨M,2,O⟩=E (C a.kb 2 2)/\(((W.setCell d v0).setCell ⟨d,1,O⟩ t).setCell ⟨d,2,O⟩ ()).drew.cell? l=E ()/\(((W.setCell d v0).setCell ⟨d,1,O⟩ t).setCell ⟨d,2,O⟩ ()).drew.cell? ⟨a.kb,k*3+2,O⟩=E (.map (E D)):=⟨r.2.2.1.cell 0,r.2.2.2.1.cell 0,r.2.2.2.2.1.cell 0,r.2.2.2.2.2.1.cell 0,r.2.2.2.2.2.2.2.2,r.1.mb.cell 2,r.2.2.2.2.2.2.1,r.2.2.2.2.2.2.2.1⟩;have a9:=Af r
 go_region_held3 (λe=>e.cell? n=M/\e.cell? m=E (C l 1 c)/\e.cell? i=E (k:Int)/\e.cell? b=t/\e.cell? ⟨M,1,O⟩=E (C d 1 G)/\e.cell? ⟨M,2,O⟩=E (C a.kb 2 2)/\e.cell? l=E ()/\e.cell? ⟨a.kb,k*3+2,O⟩=E (.map (E D))) (with_reducible assumption) (fail)
 obtain⟨ba,bb,bc,bd,be,bf,-⟩:=a9.o;have Z:=Af ba.drew;have ar:=Af<|bb.trans ((Fx.refl B a.ve _).drew);have aa:=bc.drew;have ab:=bd.drew;have ac:=be.drew;have ad:=bf.drew;generalize (((W.setCell d v0).setCell ⟨d,1,O⟩ t).setCell ⟨d,2,O⟩ ()).drew=p at Z ar aa ab ac ad|-;go_upto_region 2 with fail;have r:p.cell? n=M/\p.cell? m=E (C l 1 c)/\p.cell? i=E (k:Int)/\p.cell? b=t:=⟨aa.cell 0,ab.cell 0,ac.cell 0,ad.cell 0⟩;have Y:p.drew.cell? n=M/\p.drew.cell? m=E (C l 1 c)/\p.drew.cell? i=E (k:Int)/\p.drew.cell? b=t:=r;have bg:Hid (∀(y:U),Below p.drew.heap.size p.drew y->y.cell? n=M/\y.cell? m=E (C l 1 c)/\y.cell? i=E (k:Int)/\y.cell? b=t):=Af (λ(y:U) (q:Below p.drew.heap.size p.drew y)=>And.intro ((aa.drew.below q aa.drew.lt).cell 0) (And.intro ((ab.drew.below q ab.drew.lt).cell 0) (And.intro ((ac.drew.below q ac.drew.lt).cell 0) ((ad.drew.below q ad.drew.lt).cell 0))));by_cases bu:c=1
 .subst bu
  go_region_held3 (λe=>e.cell? n=M/\e.cell? m=E (C l 1 1)/\e.cell? i=E (k:Int)/\e.cell? b=t) (with_reducible assumption)
   (first
    |(go_at_call 343;refine(PV M a.ve k t p.drew _ _).mono ?_;rintro bv au ⟨L,rfl,ae,q⟩;have bw:=bg.o au q;have av:=Af ae;have af:=Af q;clear ae q))
  go_wp2;go_ret;exact⟨_,a.ve,a.wl,rfl,Z.o.drew.call af,av,ar.o.trans (((Fx.refl B a.ve p).drew).trans (Fx.new af Z.o.drew.lt))⟩
 .go_region_held3 (λe=>e.cell? n=M/\e.cell? m=E (C l 1 c)/\e.cell? i=E (k:Int)/\e.cell? b=t) (with_reducible assumption)
   (first
    |(go_at_call 343;refine(PV M a.ve k t p.drew _ _).mono ?_;rintro bv au ⟨L,rfl,ae,q⟩;have bw:=bg.o au q;have av:=Af ae;have af:=Af q;clear ae q))
  go_wp2;go_ret;exact⟨_,a.ve,a.wl,rfl,Z.o.drew.call af,av,ar.o.trans (((Fx.refl B a.ve p).drew).trans (Fx.new af Z.o.drew.lt))⟩
theorem Cx.ws2{B M:Nat}{W:U}{a:Ca}{s:Cs}(h:Cx B M W a s)(d:k<2):∃b,s.ws[k]?=E b:=by
 have e:s.ws.length=2:=by rw[<-h.wl,List.length_map,h.two.2.1]
 exact⟨_,An (by omega)⟩
theorem PW{B M:Nat}{W:U}{a:Ca}{s:Cs}(h:Cx B M W a s)(l:k<2){e:Ev}{r:Cs×Ct}(b:s.react k e=r):
 Calls prog 124 #[M,(k:Int),.agg (Aj e)] W λm n=>Cu B M W a k r m n:=by
 let⟨o,d⟩:=h.ws2 l;unfold Cs.react at b;by_cases g:e.kind=1
 .rw[if_pos g] at b;injection b with b;subst b;exact Rj h d g
 .rw[if_neg g] at b;by_cases i:e.kind=4
  .rw[if_pos i,d] at b;rcases o with ⟨q,p,t,wr⟩
   cases p with
   |false=>cases wr<;>cases b
   |true=>
    cases wr with
    |none=>cases b
    |some u=>
     injection b with b;subst b;exact XF h d i rfl rfl
  .rw[if_neg i] at b;by_cases j:e.kind=2/\e.obj=0
   .rw[if_pos j] at b;injection b with b;subst b;exact T4 h d j
   .rw[if_neg j] at b
    cases b
theorem AcO{B M:Nat}{W:U}{a:Ca}{s:Cs}(h:Cx B M W a s)(br:s.wd.es.length<=900)(bk:k<2)(k1:Ah W n Zm #[a.T])(k2:Ah W g tI #[(k:Int)]){r:Cs×Ct}(ac:s.goOn k=r):
 Calls prog 441 #[n,g] W λa2 l=>Cu B M W a k r a2 l:=by
 obtain⟨b,Y,a3,bl⟩:∃b Y,s.wd.next k=((b,true),Y)/\Cs.react {s with wd:=Y} k b=r:=by
  unfold Cs.goOn at ac
  split at ac
  .next b bs bt=>exact⟨b,bs,bt,ac⟩
  .cases ac
 have a4:=h.ok.next k;have ap:=Aat s.wd k;rw[a3] at a4 ap;have F:W.cell? n=a.T/\W.cell? ⟨a.T,2,O⟩=a.wb/\W.cell? g=E (k:Int):=⟨k1.cell 0,h.tb.cell 2,k2.cell 0⟩;have aq:W.drew.cell? n=a.T/\W.drew.cell? ⟨a.T,2,O⟩=a.wb/\W.drew.cell? g=E (k:Int):=F;have ar:=(Zc W D8).drew;have a5:(W.alloc D8).drew.cell? n=a.T/\(W.alloc D8).drew.cell? ⟨a.T,2,O⟩=a.wb/\(W.alloc D8).drew.cell? g=E (k:Int):=⟨(k1.below ar k1.lt).cell 0,(h.call ar).tb.cell 2,(k2.below ar k2.lt).cell 0⟩;have a6:=PS (h.wk.alloc D8).drew h.ok (by omega) k;have a7:=PS h.wk.drew h.ok (by omega) k;rw[a3] at a6 a7;have au:=Af<|Nx.start (X:=(W.alloc D8).drew) h.wk (m:=1) rfl;have av:∀ {v:U},Ay (C5 a.wb (C a.g a.gn a.gc) a.ve) W v->Ah v n Zm #[a.T]/\Ah v g tI #[(k:Int)]:=λbm=>⟨(h.foot bm _ _ _ k1 (by decide) (by decide) (λb=>absurd b (by decide))).trans k1,(h.foot bm _ _ _ k2 (by decide) (by decide) (λb=>absurd b (by decide))).trans k2⟩;have ad:Hid (∀(v:U) (w:N),Wk B a.wb v Y a.vc a.vt (C a.g a.gn a.gc) w->Ay (C5 a.wb (C a.g a.gn a.gc) a.ve) W v->BZ W a.ve w->Cx B M v {a with ve:=w} {s with wd:=Y}/\Ah v n Zm #[a.T]/\Ah v g tI #[(k:Int)]/\Fx B a.ve W v):=Af λv w bu ae bv=>⟨h.walk bu ae bv a4 ap.1 (by have:Y.es.length<=s.wd.es.length+1:=ap.2;omega),(av ae).1,(av ae).2,h.wk.only_below ae,h.kq ae⟩
 have aw:Hid (∀(v:U) (w:N),BZ W a.ve w->Fx B a.ve W v->∀e:U,Kq w v.drew e->Kq a.ve W e):=Af λv w af bn e ag a8 a9 ba ax bb=>(ag a8 a9 ba ((bn.q a8 a9 ba ax bb).trans ax) (by
  rcases bb with b|b|b|⟨b,bw⟩|b|b
  .exact .inl b
  .exact .inr (.inl b)
  .exact .inr (.inr (.inl b))
  .refine .inr (.inr (.inr (.inl ⟨b,λay=>?_⟩)));rcases af with af|⟨cj,af,ck⟩
   .exact bw<|af▸ay
   .rw[af] at ay;injection ay with ay;have:=AB ax;omega
  .exact .inr (.inr (.inr (.inr (.inl b))))
  .exact .inr (.inr (.inr (.inr (.inr b)))))).trans (bn.q a8 a9 ba ax bb)
 have ah:=Af a6;have az:=Af a7;have bo:=Af bk;have bp:=Af bl;have bc:=Af (show B<=W.heap.size from h.lt);simp only[D8,Aj,Ev.zero] at a5 ah au;simp only[Bt,Aj] at ah az;go_in;go_upto_region 1 with fail
 go_region_held3 (λl=>l.cell? n=a.T/\l.cell? ⟨a.T,2,O⟩=a.wb/\l.cell? g=E (k:Int)) (with_reducible assumption)
  (first
   |((with_reducible refine ah.o.mono ?_);rintro a2 o ⟨w,rfl,Z,y,aa⟩;have G:=au.o.step Z y aa;have q:=ad.o _ _ G.wk G.only G.vs;have ai:o.cell? n=a.T/\o.cell? ⟨a.T,2,O⟩=a.wb/\o.cell? g=E (k:Int):=⟨q.2.1.cell 0,q.1.tb.cell 2,q.2.2.1.cell 0⟩;have ab:=G.done bc b.kind b.tx b.thr b.obj b.op b.key b.val b.ret;have aj:=ad.o _ _ ab.1 ab.2.1 ab.2.2.1;have bd:((((((((o.setCell W b.kind).setCell ⟨W.heap.size,1,O⟩ b.tx).setCell ⟨W.heap.size,2,O⟩ b.thr).setCell ⟨W.heap.size,3,O⟩ b.obj).setCell ⟨W.heap.size,4,O⟩ b.op).setCell ⟨W.heap.size,5,O⟩ b.key).setCell ⟨W.heap.size,6,O⟩ b.val).setCell ⟨W.heap.size,7,O⟩ b.ret).cell? n=a.T/\((((((((o.setCell W b.kind).setCell ⟨W.heap.size,1,O⟩ b.tx).setCell ⟨W.heap.size,2,O⟩ b.thr).setCell ⟨W.heap.size,3,O⟩ b.obj).setCell ⟨W.heap.size,4,O⟩ b.op).setCell ⟨W.heap.size,5,O⟩ b.key).setCell ⟨W.heap.size,6,O⟩ b.val).setCell ⟨W.heap.size,7,O⟩ b.ret).cell? ⟨a.T,2,O⟩=a.wb/\((((((((o.setCell W b.kind).setCell ⟨W.heap.size,1,O⟩ b.tx).setCell ⟨W.heap.size,2,O⟩ b.thr).setCell ⟨W.heap.size,3,O⟩ b.obj).setCell ⟨W.heap.size,4,O⟩ b.op).setCell ⟨W.heap.size,5,O⟩ b.key).setCell ⟨W.heap.size,6,O⟩ b.val).setCell ⟨W.heap.size,7,O⟩ b.ret).cell? g=E (k:Int):=⟨aj.2.1.cell 0,aj.1.tb.cell 2,aj.2.2.1.cell 0⟩;have ak:=Af aj;have a0:=Af (And.intro ab.2.2.2 (And.intro G.ap ab.2.2.1));have u:Ah o W AJ #[(),(),(),(),(),(),(),()]:=G.o;have bz:=u.cell 0;have b0:=u.cell 1;have b1:=u.cell 2;have b2:=u.cell 3;have b3:=u.cell 4;have b4:=u.cell 5;have b5:=u.cell 6;have b6:=u.cell 7;have b7:=u.frozen 0;have b8:=u.frozen 1;have b9:=u.frozen 2;have ca:=u.frozen 3;have cb:=u.frozen 4;have cc:=u.frozen 5;have cd:=u.frozen 6;have ce:=u.frozen 7;have cf:=u.lt;clear Z y aa G q ab aj u)
   |((with_reducible refine az.o.mono ?_);rintro a2 o ⟨w,rfl,Z,y,aa⟩;have be:Ay _ W o:=⟨y.os,y.tape,y.output,y.size,y.block⟩;have q:=ad.o _ _ Z be aa;have ai:o.cell? n=a.T/\o.cell? ⟨a.T,2,O⟩=a.wb/\o.cell? g=E (k:Int):=⟨q.2.1.cell 0,q.1.tb.cell 2,q.2.2.1.cell 0⟩;have z:=Af q;have bq:=Af (And.intro Z (And.intro be aa));have x:=Zc o (K #[b.kind,b.tx,b.thr,b.obj,b.op,b.key,b.val,b.ret] AJ);have bd:(o.alloc (K #[b.kind,b.tx,b.thr,b.obj,b.op,b.key,b.val,b.ret] AJ)).cell? n=a.T/\(o.alloc (K #[b.kind,b.tx,b.thr,b.obj,b.op,b.key,b.val,b.ret] AJ)).cell? ⟨a.T,2,O⟩=a.wb/\(o.alloc (K #[b.kind,b.tx,b.thr,b.obj,b.op,b.key,b.val,b.ret] AJ)).cell? g=E (k:Int):=⟨(q.2.1.below x q.2.1.lt).cell 0,(q.1.call x).tb.cell 2,(q.2.2.1.below x q.2.2.1.lt).cell 0⟩;have a1:=Zc o (K #[(),(),(),(),(),(),(),()] AJ);have cg:(o.alloc (K #[(),(),(),(),(),(),(),()] AJ)).cell? n=a.T/\(o.alloc (K #[(),(),(),(),(),(),(),()] AJ)).cell? ⟨a.T,2,O⟩=a.wb/\(o.alloc (K #[(),(),(),(),(),(),(),()] AJ)).cell? g=E (k:Int):=⟨(q.2.1.below a1 q.2.1.lt).cell 0,(q.1.call a1).tb.cell 2,(q.2.2.1.below a1 q.2.2.1.lt).cell 0⟩;clear Z y be aa q x a1))
 .have x:=Zc o<|K #[b.kind,b.tx,b.thr,b.obj,b.op,b.key,b.val,b.ret] AJ;have L:=Af<|z.o.1.call x;have A:=Af<|z.o.2.1.below x z.o.2.1.lt;have D:=Af<|z.o.2.2.1.below x z.o.2.2.1.lt;have i:=Af<|Ah.new o AJ #[b.kind,b.tx,b.thr,b.obj,b.op,b.key,b.val,b.ret];have S:=Af<|z.o.2.2.2.trans (Fx.new x z.o.1.lt);have t:=Af (show w.ownBlock≠E o.heap.size from λb=>by have:=(Ai z.o.1.wk.ev b).2;omega);have al:=Af<|aw.o _ w bq.o.2.2 S;generalize o.heap.size=d at i t|-;generalize o.alloc (K #[b.kind,b.tx,b.thr,b.obj,b.op,b.key,b.val,b.ret] AJ)=j at L A D i S al|-;go_upto_region 4 with fail;have F:j.cell? n=a.T/\j.cell? ⟨a.T,4,O⟩=E (Xo M)/\j.cell? g=E (k:Int)/\j.cell? d=b.kind/\j.cell? ⟨d,1,O⟩=b.tx/\j.cell? ⟨d,2,O⟩=b.thr/\j.cell? ⟨d,3,O⟩=b.obj/\j.cell? ⟨d,4,O⟩=b.op/\j.cell? ⟨d,5,O⟩=b.key/\j.cell? ⟨d,6,O⟩=b.val/\j.cell? ⟨d,7,O⟩=b.ret:=⟨A.o.cell 0,L.o.tb.cell 4,D.o.cell 0,i.o.cell 0,i.o.cell 1,i.o.cell 2,i.o.cell 3,i.o.cell 4,i.o.cell 5,i.o.cell 6,i.o.cell 7⟩;have aq:j.drew.cell? n=a.T/\j.drew.cell? ⟨a.T,4,O⟩=E (Xo M)/\j.drew.cell? g=E (k:Int)/\j.drew.cell? d=b.kind/\j.drew.cell? ⟨d,1,O⟩=b.tx/\j.drew.cell? ⟨d,2,O⟩=b.thr/\j.drew.cell? ⟨d,3,O⟩=b.obj/\j.drew.cell? ⟨d,4,O⟩=b.op/\j.drew.cell? ⟨d,5,O⟩=b.key/\j.drew.cell? ⟨d,6,O⟩=b.val/\j.drew.cell? ⟨d,7,O⟩=b.ret:=F;have am:=Af<|PW L.o.drew bo bp;unfold Aj at am
  go_region_held3 (λl=>l.cell? n=a.T/\l.cell? ⟨a.T,4,O⟩=E (Xo M)/\l.cell? g=E (k:Int)/\l.cell? d=b.kind/\l.cell? ⟨d,1,O⟩=b.tx/\l.cell? ⟨d,2,O⟩=b.thr/\l.cell? ⟨d,3,O⟩=b.obj/\l.cell? ⟨d,4,O⟩=b.op/\l.cell? ⟨d,5,O⟩=b.key/\l.cell? ⟨d,6,O⟩=b.val/\l.cell? ⟨d,7,O⟩=b.ret) (with_reducible assumption)
   (first
    |(go_at_call 124;refine am.o.mono ?_;rintro ch e ⟨ci,bf,bg,rfl,X,an,p⟩;have ai:e.cell? n=a.T/\e.cell? ⟨a.T,4,O⟩=E (Xo M)/\e.cell? g=E (k:Int)/\e.cell? d=b.kind/\e.cell? ⟨d,1,O⟩=b.tx/\e.cell? ⟨d,2,O⟩=b.thr/\e.cell? ⟨d,3,O⟩=b.obj/\e.cell? ⟨d,4,O⟩=b.op/\e.cell? ⟨d,5,O⟩=b.key/\e.cell? ⟨d,6,O⟩=b.val/\e.cell? ⟨d,7,O⟩=b.ret:=⟨(show Ah e n Zm _ from(p.q _ _ _ A.o.drew (.inr (.inr (.inr (.inr (.inl rfl)))))).trans A).cell 0,X.tb.cell 4,(show Ah e g tI _ from(p.q _ _ _ D.o.drew (.inr (.inl rfl))).trans D).cell 0,(show Ah e d AJ _ from(p.q _ _ _ i.o.drew (.inr (.inr (.inr (.inl ⟨rfl,t⟩))))).trans i).cell 0,(show Ah e d AJ _ from(p.q _ _ _ i.o.drew (.inr (.inr (.inr (.inl ⟨rfl,t⟩))))).trans i).cell 1,(show Ah e d AJ _ from(p.q _ _ _ i.o.drew (.inr (.inr (.inr (.inl ⟨rfl,t⟩))))).trans i).cell 2,(show Ah e d AJ _ from(p.q _ _ _ i.o.drew (.inr (.inr (.inr (.inl ⟨rfl,t⟩))))).trans i).cell 3,(show Ah e d AJ _ from(p.q _ _ _ i.o.drew (.inr (.inr (.inr (.inl ⟨rfl,t⟩))))).trans i).cell 4,(show Ah e d AJ _ from(p.q _ _ _ i.o.drew (.inr (.inr (.inr (.inl ⟨rfl,t⟩))))).trans i).cell 5,(show Ah e d AJ _ from(p.q _ _ _ i.o.drew (.inr (.inr (.inr (.inl ⟨rfl,t⟩))))).trans i).cell 6,(show Ah e d AJ _ from(p.q _ _ _ i.o.drew (.inr (.inr (.inr (.inl ⟨rfl,t⟩))))).trans i).cell 7⟩;have bh:=Af X;have bi:=Af an;have ao:=Af p;clear X an p))
  go_wp2;go_ret;have ag:Kq a.ve W e:=al.o e ao.o.q;have bj:Below B W e:=S.o.b.trans<|((Ae B j).drew).trans ao.o.b;refine⟨_,bf,bg,rfl,bh,bi,?_⟩;exact⟨bj,ag⟩
 .have L:=Af ak.o.1;have A:=Af ak.o.2.1;have D:=Af ak.o.2.2.1;have i:=Af a0.o.1;have S:=Af ak.o.2.2.2;have t:=Af a0.o.2.1;have al:=Af<|aw.o _ w a0.o.2.2 S;generalize ((((((((o.setCell W b.kind).setCell ⟨W.heap.size,1,O⟩ b.tx).setCell ⟨W.heap.size,2,O⟩ b.thr).setCell ⟨W.heap.size,3,O⟩ b.obj).setCell ⟨W.heap.size,4,O⟩ b.op).setCell ⟨W.heap.size,5,O⟩ b.key).setCell ⟨W.heap.size,6,O⟩ b.val).setCell ⟨W.heap.size,7,O⟩ b.ret)=j at L A D i S al|-;generalize W.heap.size=d at i t|-;go_upto_region 4 with fail;have F:j.cell? n=a.T/\j.cell? ⟨a.T,4,O⟩=E (Xo M)/\j.cell? g=E (k:Int)/\j.cell? d=b.kind/\j.cell? ⟨d,1,O⟩=b.tx/\j.cell? ⟨d,2,O⟩=b.thr/\j.cell? ⟨d,3,O⟩=b.obj/\j.cell? ⟨d,4,O⟩=b.op/\j.cell? ⟨d,5,O⟩=b.key/\j.cell? ⟨d,6,O⟩=b.val/\j.cell? ⟨d,7,O⟩=b.ret:=⟨A.o.cell 0,L.o.tb.cell 4,D.o.cell 0,i.o.cell 0,i.o.cell 1,i.o.cell 2,i.o.cell 3,i.o.cell 4,i.o.cell 5,i.o.cell 6,i.o.cell 7⟩;have aq:j.drew.cell? n=a.T/\j.drew.cell? ⟨a.T,4,O⟩=E (Xo M)/\j.drew.cell? g=E (k:Int)/\j.drew.cell? d=b.kind/\j.drew.cell? ⟨d,1,O⟩=b.tx/\j.drew.cell? ⟨d,2,O⟩=b.thr/\j.drew.cell? ⟨d,3,O⟩=b.obj/\j.drew.cell? ⟨d,4,O⟩=b.op/\j.drew.cell? ⟨d,5,O⟩=b.key/\j.drew.cell? ⟨d,6,O⟩=b.val/\j.drew.cell? ⟨d,7,O⟩=b.ret:=F;have am:=Af<|PW L.o.drew bo bp;unfold Aj at am
  go_region_held3 (λl=>l.cell? n=a.T/\l.cell? ⟨a.T,4,O⟩=E (Xo M)/\l.cell? g=E (k:Int)/\l.cell? d=b.kind/\l.cell? ⟨d,1,O⟩=b.tx/\l.cell? ⟨d,2,O⟩=b.thr/\l.cell? ⟨d,3,O⟩=b.obj/\l.cell? ⟨d,4,O⟩=b.op/\l.cell? ⟨d,5,O⟩=b.key/\l.cell? ⟨d,6,O⟩=b.val/\l.cell? ⟨d,7,O⟩=b.ret) (with_reducible assumption)
   (first
    |(go_at_call 124;refine am.o.mono ?_;rintro ch e ⟨ci,bf,bg,rfl,X,an,p⟩;have ai:e.cell? n=a.T/\e.cell? ⟨a.T,4,O⟩=E (Xo M)/\e.cell? g=E (k:Int)/\e.cell? d=b.kind/\e.cell? ⟨d,1,O⟩=b.tx/\e.cell? ⟨d,2,O⟩=b.thr/\e.cell? ⟨d,3,O⟩=b.obj/\e.cell? ⟨d,4,O⟩=b.op/\e.cell? ⟨d,5,O⟩=b.key/\e.cell? ⟨d,6,O⟩=b.val/\e.cell? ⟨d,7,O⟩=b.ret:=⟨(show Ah e n Zm _ from(p.q _ _ _ A.o.drew (.inr (.inr (.inr (.inr (.inl rfl)))))).trans A).cell 0,X.tb.cell 4,(show Ah e g tI _ from(p.q _ _ _ D.o.drew (.inr (.inl rfl))).trans D).cell 0,(show Ah e d AJ _ from(p.q _ _ _ i.o.drew (.inr (.inr (.inr (.inl ⟨rfl,t⟩))))).trans i).cell 0,(show Ah e d AJ _ from(p.q _ _ _ i.o.drew (.inr (.inr (.inr (.inl ⟨rfl,t⟩))))).trans i).cell 1,(show Ah e d AJ _ from(p.q _ _ _ i.o.drew (.inr (.inr (.inr (.inl ⟨rfl,t⟩))))).trans i).cell 2,(show Ah e d AJ _ from(p.q _ _ _ i.o.drew (.inr (.inr (.inr (.inl ⟨rfl,t⟩))))).trans i).cell 3,(show Ah e d AJ _ from(p.q _ _ _ i.o.drew (.inr (.inr (.inr (.inl ⟨rfl,t⟩))))).trans i).cell 4,(show Ah e d AJ _ from(p.q _ _ _ i.o.drew (.inr (.inr (.inr (.inl ⟨rfl,t⟩))))).trans i).cell 5,(show Ah e d AJ _ from(p.q _ _ _ i.o.drew (.inr (.inr (.inr (.inl ⟨rfl,t⟩))))).trans i).cell 6,(show Ah e d AJ _ from(p.q _ _ _ i.o.drew (.inr (.inr (.inr (.inl ⟨rfl,t⟩))))).trans i).cell 7⟩;have bh:=Af X;have bi:=Af an;have ao:=Af p;clear X an p))
  go_wp2;go_ret;have ag:Kq a.ve W e:=al.o e ao.o.q;have bj:Below B W e:=S.o.b.trans<|((Ae B j).drew).trans ao.o.b;refine⟨_,bf,bg,rfl,bh,bi,?_⟩;exact⟨bj,ag⟩
theorem T5{B M:Nat}{W:U}{a:Ca}{s:Cs}(h:Cx B M W a s)(j:s.wd.es.length<=901){e:Ev}{r:Cs×Ct}(b:s.answer k e=r):
 Calls prog 190 #[M,(k:Int),.agg (Aj e)] W λo p=>Cu B M W a k r o p:=by
 obtain⟨v,w,x,q,t,y,z,ret⟩:=e;unfold Cs.answer at b
 split at b
 .next u l g m=>
  by_cases n:q=0
  .subst n;simp only[ne_eq,not_true_eq_false,if_false] at b;by_cases i:t=2
   .subst i;simp only[if_true] at b
    cases g with
    |some _=>cases b
    |none=>
     simp only[Option.isSome_none,Bool.false_eq_true,if_false] at b;injection b with b;subst b;exact Agg h j m
   .rw[if_neg i] at b;by_cases d:g.isSome=true∨l=true∨s.co≠0∨u<s.cn∨¬(0<=s.cv/\s.cv<=1000)
    .rw[if_pos d] at b;cases b
    .rw[if_neg d] at b;injection b with b;subst b
     cases g with
     |some _=>exact absurd (.inl rfl) d
     |none=>
      cases l with
      |true=>exact absurd (.inr (.inl rfl)) d
      |false=>exact Agh h j i m (I0 λe=>d (.inr (.inr (.inl e)))) (λe=>d (.inr (.inr (.inr (.inl e))))) (I0 λe=>d (.inr (.inr (.inr (.inr e)))))
  .rw[if_pos n] at b;cases b
 .cases b
theorem AcP{B M:Nat}{W:U}{a:Ca}{s:Cs}(h:Cx B M W a s)(d:s.wd.es.length<=901){e:Ev}{r:Cs×Ct}(k1:Ah W n C7 #[M])(k2:Ah W g tI #[(k:Int)])(k3:Ah W m AJ (Aj e))(i:s.answer k e=r):
 Calls prog 189 #[n,g,m] W λj q=>Cu B M W a k r j q:=by
 have b:=Af<|T5 h d i;have t:=k1.cell 0;have u:=k2.cell 0;let⟨v,w,x,y,z,A,D,F⟩:=Fj k3;unfold Aj at b;go_in;go_wp2_with fail;refine b.o.mono ?_;rintro j Z ⟨aa,G,L,rfl,l,o,p⟩;have S:=Af l;have X:=Af o;have Y:=Af p;go_wp2;go_ret;exact⟨_,G,L,rfl,S,X,Y⟩
theorem XG{B M:Nat}{W:U}{a:Ca}{s:Cs}(h:Cx B M W a s)(q:s.wd.es.length<=901){v:N}{c:Ct}(j:Kt M W a.ve k v c)(F:c≠.idle){r:Cs×Ct}(b:s.run k c=r):
 ∃p z,v=.func (.func p) #[] z/\(∀(A:Array N) (t:U),(callFunc p A).run prog t=.ok (.enter p A) t)/\Calls prog p z W λG L=>Cu B M W a k r G L:=by
 cases c with
 |idle=>exact absurd rfl F
 |ans aa=>
  obtain⟨m,n,u,rfl,e,g,i,_⟩:=j;exact⟨_,_,rfl,λ_ _=>by kernel_rfl,AcP h q e g i b⟩
 |lk=>
  obtain⟨m,n,u,D,rfl,e,g,i,l⟩:=j;refine⟨_,_,rfl,λ_ _=>by kernel_rfl,?_⟩;unfold Cs.run Cs.lock at b;by_cases d:s.co=0
  .simp only[d,if_true] at b;injection b with b;subst b;have:=AeJ h e g i l d;exact this
  .simp only[d,if_false] at b;by_cases w:s.co=(s.wd.txOf k).1
   .rw[if_pos w] at b;cases b
   .rw[if_neg w] at b;injection b with b;subst b;exact Agi h q e g i l d w
 |tk=>
  obtain⟨m,n,rfl,e,g⟩:=j;refine⟨_,_,rfl,λ_ _=>by kernel_rfl,?_⟩;unfold Cs.run Cs.tick at b;simp only at b
  split at b
  .next x t o=>
   by_cases d:0<=s.clock/\s.clock<1000
   .rw[if_pos d] at b;injection b with b;subst b;exact AcL h e g o rfl rfl d
   .rw[if_neg d] at b;cases b
  .cases b
 |look S=>
  obtain⟨m,n,u,X,D,rfl,e,g,i,l,y⟩:=j;refine⟨_,_,rfl,λ_ _=>by kernel_rfl,?_⟩;unfold Cs.run Cs.look at b;simp only at b
  split at b
  .next x Y Z o=>
   by_cases d:s.co≠0/\s.co=(s.wd.txOf k).1/\¬x<s.cn
   .rw[if_pos d] at b;injection b with b;subst b;exact AcM h e g i l y o rfl rfl d.1 d.2.1 d.2.2
   .rw[if_neg d] at b;cases b
  .cases b
 |wr S=>
  obtain⟨m,n,u,X,D,rfl,e,g,i,l,y⟩:=j;refine⟨_,_,rfl,λ_ _=>by kernel_rfl,?_⟩;unfold Cs.run Cs.write at b;simp only at b
  split at b
  .next x Y Z o=>
   injection b with b;subst b;exact AcN h e g i l y o rfl rfl
  .cases b
 |cm=>
  obtain⟨m,n,rfl,e,g⟩:=j;refine⟨_,_,rfl,λ_ _=>by kernel_rfl,?_⟩;unfold Cs.run Cs.commit at b;simp only at b;injection b with b;subst b;exact AcJ h q e g
theorem XH{s:Cs}{e:Ev}{r:Cs×Ct}(h:s.react k e=r):r.1.nx=s.nx:=by
 unfold Cs.react at h
 split at h
 .injection h with h;subst h;rfl
 .split at h
  .split at h
   .injection h with h;subst h;rfl
   .cases h
  .split at h
   .injection h with h;subst h;rfl
   .cases h
theorem XI{s:Cs}{c:Ct}{r:Cs×Ct}(h:s.run k c=r):r.1.nx=s.nx:=by
 cases c with
 |idle=>
  simp only[Cs.run,Cs.goOn] at h
  split at h
  .have a:=XH h;exact a
  .cases h
 |ans a=>
  simp only[Cs.run,Cs.answer] at h
  split at h
  .split at h
   .cases h
   .split at h
    .split at h
     .cases h
     .injection h with h;subst h;rfl
    .split at h
     .cases h
     .injection h with h;subst h;rfl
  .cases h
 |lk=>
  simp only[Cs.run,Cs.lock] at h
  split at h
  .injection h with h;subst h;rfl
  .split at h
   .cases h
   .injection h with h;subst h;rfl
 |tk=>
  simp only[Cs.run,Cs.tick] at h
  split at h
  .split at h
   .injection h with h;subst h;rfl
   .cases h
  .cases h
 |look b=>
  simp only[Cs.run,Cs.look] at h
  split at h
  .split at h
   .injection h with h;subst h;rfl
   .cases h
  .cases h
 |wr b=>
  simp only[Cs.run,Cs.write] at h
  split at h
  .injection h with h;subst h;rfl
  .cases h
 |cm=>
  simp only[Cs.run,Cs.commit] at h;injection h with h;subst h;rfl
theorem AcQ(T:Nat)(k:Nat)(W:U):Calls prog 440 #[T,(k:Int)] W λb a=>b=R (.func (.func 441) #[] #[W,(W+1:Nat)])/\Ah a W Zm #[T]/\Ah a (W+1) tI #[(k:Int)]/\Below W W a:=by
 go_in;go_wp2;go_ret;exact⟨rfl,(Ah.new W Zm _).alloc _,Bo W _ _ _,((Ae _ W).alloc (Aa _) _).alloc (by simp) _⟩
theorem AeK(a:FuncId)(b:Array N)(w:U):(Ec .eql Ra (.func (.func a) #[] b) .nilFunc).run prog w=.ok false w:=by
 simp only[Ec];simp[EL,EM,go_sem];kernel_rfl
theorem AcR(w:U):(Ec .eql Ra .nilFunc .nilFunc).run prog w=.ok true w:=by
 simp only[Ec];simp[EL,EM,go_sem];kernel_rfl
theorem XJ{M:Nat}{W:U}{ve:N}{v:N}{c:Ct}(h:Kt M W ve k v c)(a:c=.idle):v=.nilFunc:=by subst a;exact h
theorem AbD{M:Nat}{W:U}{ve:N}{v:N}{c:Ct}(h:Kt M W ve k v c)(a:c≠.idle):∃b d,v=.func (.func b) #[] d:=by
 cases c with
 |idle=>exact absurd rfl a
 |ans g=>obtain⟨_,_,_,rfl,_⟩:=h;exact⟨_,_,rfl⟩
 |lk=>obtain⟨_,_,_,_,rfl,_⟩:=h;exact⟨_,_,rfl⟩
 |tk=>obtain⟨_,_,rfl,_⟩:=h;exact⟨_,_,rfl⟩
 |look e=>obtain⟨_,_,_,_,_,rfl,_⟩:=h;exact⟨_,_,rfl⟩
 |wr e=>obtain⟨_,_,_,_,_,rfl,_⟩:=h;exact⟨_,_,rfl⟩
 |cm=>obtain⟨_,_,rfl,_⟩:=h;exact⟨_,_,rfl⟩
structure Sx (B:Nat) (W W':U):Prop where
 b:Below B W W'
 h:∀(g:Nat) (cs:Array N),Ah W g tHy cs->Ah W' g tHy cs
section
variable {B:Nat} {ve:Value} {W W' X:World}
theorem Sx.trans(h:Sx B W W')(k:Sx B W' X):Sx B W X:=⟨h.b.trans k.b,λa b d=>k.h a b (h.h a b d)⟩
theorem Sx.new(a:Below W W W')(d:B<=W.heap.size):Sx B W W':=⟨a.mono d,λ_ _ b=>b.below a b.lt⟩
theorem Sx.drewN(B:Nat)(W:U)(n:Nat):Sx B W (W.drewN n):=⟨⟨rfl,rfl,rfl,Aa _,λ_ _=>rfl⟩,λ_ _ a=>a⟩
theorem Sx.drew(B:Nat)(W:U):Sx B W W.drew:=⟨(Ae B W).drew,λ_ _ a=>a⟩
theorem Fx.sx(h:Fx B ve W W'):Sx B W W':=⟨h.b,λb d a=>(h.q b d tHy a (.inr (.inr (.inr (.inr (.inr rfl)))))).trans a⟩
theorem Cx.sxNx{B M:Nat}{W:U}{a:Ca}{s:Cs}(h:Cx B M W a s)(k:Nat)(v:N):Sx B W (W.setCell ⟨a.nb,k,O⟩ v):=⟨(Ae B W).setCell (p:=⟨a.nb,k,O⟩) h.le.2.1 _,λ_ _ b=>b.far (p:=⟨a.nb,k,O⟩) (AQ b h.nx (by decide)) v⟩
end
abbrev GR(B M:Nat)(W:U)(s':Cs)(e:Ending)(w':U):Prop:=∃a b,e=R (T a)/\Cx B M w' b s'/\Sx B W w'
theorem XK{B M:Nat}{W:U}{a:Ca}{s:Cs}(h:Cx B M W a s)(d:s.wd.doneOf k=true):
 Calls prog 437 #[a.T,(k:Int)] W λe i=>GR B M W s e i:=by
 have b:=GP h.wk h.ok (k:Int);rw[d] at b;have j:=Af b;have l:=Af h;have m:=h.tb.cell 2;go_in;go_wp2_with fail;refine j.o.mono ?_;rintro e n ⟨rfl,g,rfl⟩;go_wp2;go_ret;exact⟨_,a,rfl,l.o.drewN g,Sx.drewN B W g⟩
theorem AaL{B M:Nat}{W:U}{a:Ca}{s:Cs}(h:Cx B M W a s)(Y:s.wd.es.length<=900)(u:k<2)(Z:s.wd.doneOf k=false){c:Ct}(v:s.nx[k]?=c)(w:c≠.idle){r:Cs×Ct}(x:s.run k c=r):
 Calls prog 437 #[a.T,(k:Int)] W λaa l=>GR B M W {r.1 with nx:=s.nx.set k r.2} aa l:=by
 obtain⟨m,y⟩:∃m,a.nv[k]?=E m:=⟨_,An (show k<a.nv.length by rw[h.two.1];exact u)⟩;have z:=GP h.wk h.ok (k:Int);rw[Z] at z;have ab:=Af z;have ac:=Af h;have d:=Af<|And.intro y (And.intro v (And.intro w (And.intro x (And.intro Y u))));have aj:=h.tb.cell 2;obtain⟨p,q,rfl,-,-⟩:=XG h (by omega) (h.kt k m c y v) w x;have az:(0:Int)<=(k:Int):=by omega
 have a0:(k:Int)<2:=by omega
 go_in;go_upto_region 1 with fail;go_wp2_with fail;refine ab.o.mono ?_;rintro aa a1 ⟨rfl,A,rfl⟩;have j:=Af<|ac.o.drewN A;have D:=Af<|Sx.drewN B W A;generalize W.drewN A=X at j D|-;have ak:=j.o.tb.cell 3;have al:X.cell? ⟨a.nb,k,O⟩=E (.func (.func p) #[] q):=by rw[j.o.nx.cell];simpa using d.o.1
 have am:=AeK p q X;go_upto_region 6 with fail;let⟨a2,a3,hF,a4,ad⟩:=XG j.o.drew (show s.wd.es.length<=901 from by have:=d.o.2.2.2.2.1;omega) (j.o.drew.kt k _ c d.o.1 d.o.2.1) d.o.2.2.1 d.o.2.2.2.1;injection hF with F a5 an;injection F with F;subst F an;have ae:=XI d.o.2.2.2.1;have ao:X.cell? ⟨a.T,3,O⟩=E (C a.nb 2 2):=j.o.tb.cell 3;have a6:X.drew.cell? ⟨a.T,3,O⟩=E (C a.nb 2 2):=ao;have af:=Af ad;have ag:=Af ae;by_cases t:r.2=.idle
 .have G:=Af t
  go_region_held3 (λl=>l.cell? ⟨a.T,3,O⟩=E (C a.nb 2 2)) (with_reducible assumption)
   (first
    |(refine af.o.mono ?_;rintro ap e ⟨m,aq,ar,rfl,b,g,n⟩;obtain rfl:=XJ g G;have au:e.cell? ⟨a.T,3,O⟩=E (C a.nb 2 2):=b.tb.cell 3;have av:=b.nx.frozen k;have aw:=b.nx.lt;have i:=b.setNx d.o.2.2.2.2.2 g;have ax:(e.setCell ⟨a.nb,k,O⟩ (.nilFunc)).cell? ⟨a.T,3,O⟩=E (C a.nb 2 2):=i.1.tb.cell 3;have ay:e.cell? ⟨a.nb,k,O⟩=E (.func (.func p) #[] q):=(b.nx.cell k).trans (by simpa using d.o.1);have L:=Af i;have S:=Af (D.o.trans ((Sx.drew B X).trans (n.sx.trans (b.sxNx k (.nilFunc)))));clear b g n i))
  go_wp2;go_ret;have o:=L.o.1;rw[ag.o] at o;exact⟨true,_,rfl,o,S⟩
 .have G:=Af t
  go_region_held3 (λl=>l.cell? ⟨a.T,3,O⟩=E (C a.nb 2 2)) (with_reducible assumption)
   (first
    |(refine af.o.mono ?_;rintro ap e ⟨m,aq,ar,rfl,b,g,n⟩;obtain⟨ah,ai,rfl⟩:=AbD g G;have au:e.cell? ⟨a.T,3,O⟩=E (C a.nb 2 2):=b.tb.cell 3;have av:=b.nx.frozen k;have aw:=b.nx.lt;have i:=b.setNx d.o.2.2.2.2.2 g;have ax:(e.setCell ⟨a.nb,k,O⟩ (.func (.func ah) #[] ai)).cell? ⟨a.T,3,O⟩=E (C a.nb 2 2):=i.1.tb.cell 3;have ay:e.cell? ⟨a.nb,k,O⟩=E (.func (.func p) #[] q):=(b.nx.cell k).trans (by simpa using d.o.1);have L:=Af i;have S:=Af (D.o.trans ((Sx.drew B X).trans (n.sx.trans (b.sxNx k (.func (.func ah) #[] ai)))));clear b g n i))
  go_wp2;go_ret;have o:=L.o.1;rw[ag.o] at o;exact⟨true,_,rfl,o,S⟩
theorem XL{B M:Nat}{W:U}{a:Ca}{s:Cs}(h:Cx B M W a s)(L:s.wd.es.length<=900)(u:k<2)(S:s.wd.doneOf k=false)(v:s.nx[k]?=E .idle){r:Cs×Ct}(Y:s.run k .idle=r):
 Calls prog 437 #[a.T,(k:Int)] W λZ n=>GR B M W {r.1 with nx:=s.nx.set k r.2} Z n:=by
 obtain⟨l,w⟩:∃l,a.nv[k]?=E l:=⟨_,An (show k<a.nv.length by rw[h.two.1];exact u)⟩;have x:=GP h.wk h.ok (k:Int);rw[S] at x;have aa:=Af x;have ab:=Af h;have al:l=.nilFunc:=h.kt k l _ w v;subst al;have d:=Af<|And.intro w (And.intro v (And.intro True.intro (And.intro Y (And.intro L u))));have am:=h.tb.cell 2;have a0:(0:Int)<=(k:Int):=by omega
 have a1:(k:Int)<2:=by omega
 go_in;go_upto_region 1 with fail;go_wp2_with fail;refine aa.o.mono ?_;rintro Z a2 ⟨rfl,y,rfl⟩;have e:=Af<|ab.o.drewN y;have m:=Af<|Sx.drewN B W y;generalize W.drewN y=X at e m|-;have an:=e.o.tb.cell 3;have ao:X.cell? ⟨a.nb,k,O⟩=E .nilFunc:=by rw[e.o.nx.cell];simpa using d.o.1
 have ap:=AcR X;go_upto_region 5 with fail;go_wp2_with fail;refine(AcQ a.T k X).mono ?_;rintro ac q ⟨rfl,ad,ae,z⟩;have af:=Af<|e.o.call z;have ag:=Af<|m.o.trans (Sx.new z e.o.lt);have A:=Af<|And.intro ad ae;go_upto_region 6 with fail;generalize X.heap.size=a3 at A|-;have e:=Af af;have m:=Af ag;have ah:=Af<|AcO e.o.drew d.o.2.2.2.2.1 d.o.2.2.2.2.2 A.o.1.drew A.o.2.drew d.o.2.2.2.1;have ai:=Af<|XI d.o.2.2.2.1;have aq:q.cell? ⟨a.T,3,O⟩=E (C a.nb 2 2):=e.o.tb.cell 3;have a4:q.drew.cell? ⟨a.T,3,O⟩=E (C a.nb 2 2):=aq;by_cases t:r.2=.idle
 .have D:=Af t
  go_region_held3 (λn=>n.cell? ⟨a.T,3,O⟩=E (C a.nb 2 2)) (with_reducible assumption)
   (first
    |(go_at_call 441;refine ah.o.mono ?_;rintro ac g ⟨l,ar,au,rfl,b,i,o⟩;obtain rfl:=XJ i D;have av:g.cell? ⟨a.T,3,O⟩=E (C a.nb 2 2):=b.tb.cell 3;have aw:=b.nx.frozen k;have ax:=b.nx.lt;have j:=b.setNx d.o.2.2.2.2.2 i;have ay:(g.setCell ⟨a.nb,k,O⟩ (.nilFunc)).cell? ⟨a.T,3,O⟩=E (C a.nb 2 2):=j.1.tb.cell 3;have az:g.cell? ⟨a.nb,k,O⟩=E .nilFunc:=(b.nx.cell k).trans (by simpa using d.o.1);have F:=Af j;have G:=Af (m.o.trans ((Sx.drew B q).trans (o.sx.trans (b.sxNx k (.nilFunc)))));clear b i o j))
  go_wp2;go_ret;have p:=F.o.1;rw[ai.o] at p;exact⟨true,_,rfl,p,G⟩
 .have D:=Af t
  go_region_held3 (λn=>n.cell? ⟨a.T,3,O⟩=E (C a.nb 2 2)) (with_reducible assumption)
   (first
    |(go_at_call 441;refine ah.o.mono ?_;rintro ac g ⟨l,ar,au,rfl,b,i,o⟩;obtain⟨aj,ak,rfl⟩:=AbD i D;have av:g.cell? ⟨a.T,3,O⟩=E (C a.nb 2 2):=b.tb.cell 3;have aw:=b.nx.frozen k;have ax:=b.nx.lt;have j:=b.setNx d.o.2.2.2.2.2 i;have ay:(g.setCell ⟨a.nb,k,O⟩ (.func (.func aj) #[] ak)).cell? ⟨a.T,3,O⟩=E (C a.nb 2 2):=j.1.tb.cell 3;have az:g.cell? ⟨a.nb,k,O⟩=E .nilFunc:=(b.nx.cell k).trans (by simpa using d.o.1);have F:=Af j;have G:=Af (m.o.trans ((Sx.drew B q).trans (o.sx.trans (b.sxNx k (.func (.func aj) #[] ak)))));clear b i o j))
  go_wp2;go_ret;have p:=F.o.1;rw[ai.o] at p;exact⟨true,_,rfl,p,G⟩
theorem XM{B M:Nat}{W:U}{a:Ca}{s s':Cs}(h:Cx B M W a s)(e:k<2)(b:s.step k=s'):
 Calls prog 437 #[a.T,(k:Int)] W λm n=>GR B M W s' m n:=by
 unfold Cs.step at b;by_cases g:900<s.wd.es.length
 .rw[if_pos g] at b;cases b
 .rw[if_neg g] at b
  cases d:s.wd.doneOf k with
  |true=>
   rw[if_pos d] at b;injection b with b;subst b;exact XK h d
  |false=>
   rw[if_neg (by simp[d])] at b;let⟨c,i,b⟩:=Option.bind_eq_some_iff.1 b;obtain⟨o,j,rfl⟩:=Eo.1 b;by_cases l:c=.idle
   .subst l;exact XL h (by omega) e d i j
   .exact AaL h (by omega) e d i l j
theorem RG(f:BK): -1000000000<=f.lo/\f.hi<=1000000000:=by cases f<;>decide
theorem MX{e:Ev}{f:BK}(h:e.In f): -1000000000<=e.get f/\e.get f<=1000000000:=by
 have a:=RG f;unfold Ev.In at h;omega
theorem Dq{P:Program}{w:U}{B:Array Oper}{D:List Oper}{o:Oper}{a:Act}{F:Exit->Act->U->Prop}(G:o.guard=O)(s x:Operand)(t:Ab)
 (L:o.op=.call {callee:=.builtin .append,args:= #[s,x],argTypes:= #[t,t]})
 (base:Nat) (e:Ab) (i:TypeInfo) (z:N) (bytes:Nat) (M:P.underlying t=E (.slice e)) (S:P.info? e=i) (W:i.zero=z)
 (X:i.size=1) (Y:i.bytes=bytes) (Z:z.cells.size=1)
 (v:N) (n:Nat) (xs:List N) (aa:a.eval s=v) (l:w.ownsRow base e 1 v n xs∨∃b,v=C (E b) n n/\xs.length=n/\∀j u,xs[j]?=E u->w.cell? (b.add j)=E u)
 (p:Addr) (m c:Nat) (d:List N) (g:a.eval x=C p m c) (ab:d.length=m*1) (ac:∀j u,d[j]?=E u->w.cell? (p.add j)=E u) (ad:∀u∈d,u.oneCell'=true)
 (ae:n+m<=Al) (af:(n+m)*bytes<=140737488355328) (q:base<=w.heap.size) (ah:0<m)
 (h:∀k w',w'.ownsRow base e 1 k (n+m) (xs++d)->Below base w w'->wpList P B F D (a.put o.dst k) w'):wpList P B F (o::D) a w:=by
 rcases l with l|⟨b,rfl,ai,ag⟩
 .refine wpList_append_own w G s x t L base e i z 1 bytes M S W X Y Z (by decide) v n xs aa l p m c d g ab ac ad ae af q (λk w' r y _=>h k w' r ?_);exact(Ae base w).grown y q (λx g=>(Ai l g).1)
 .refine wpList_append_grows w G s x t L e i z 1 bytes M S W X Y Z (by decide) (E b) n n xs aa (by simp) (by omega) (λaj A=>by injection A with A;subst A;exact ag) p m c d g ab ac ad (by omega) ae af (λk w' r y=>h k w' (Aw r q) ?_);exact(Ae base w).grown y q (λx g=>by cases g)
theorem LY(t c:Int):(AT t c).length<=9:=by
 unfold AT
 split
 .cases h:(Cm t)[(c-1).toNat]? with
  |none=>simp
  |some a=>
   simp only[Option.getD_some];have b:=Ap h;have k1:∀a∈Cm 1,a.length<=9:=by decide
   have k2:∀a∈Cm 2,a.length<=9:=by decide
   have k3:∀a∈Cm 3,a.length<=9:=by decide
   have k4:∀a∈Cm 4,a.length<=9:=by decide
   have k5:∀a∈Cm 5,a.length<=9:=by decide
   have k6:∀a∈Cm 6,a.length<=9:=by decide
   rcases Ld t with ⟨d,_⟩|rfl|rfl|rfl|rfl|rfl|rfl
   .rw[d] at b;cases b
   .exact k1 a b
   .exact k2 a b
   .exact k3 a b
   .exact k4 a b
   .exact k5 a b
   .exact k6 a b
 .simp
def NT(e:Ev)(f:BK):List UInt8:=if 0<f.tab then AT (f.tab:Int) (e.get f) else Ei (e.get f)
def Ci(e:Ev)(k:Nat):List (List UInt8):=AT 2 e.kind::(e.fl.take k).map (NT e)
theorem RH(e:Ev)(k:Nat)(f:BK)(a:e.fl[k]?=f):Ci e (k+1)=Ci e k++[NT e f]:=by
 unfold Ci;rw[List.take_add_one,a];simp
theorem Hk(e:Ev)(k:Nat)(a:k<=e.fl.length):(Ci e k).length=k+1:=by
 unfold Ci;simp;omega
theorem LZ(e:Ev)(h:∀f∈e.fl,e.In f)(k:Nat):∀x∈Ci e k,x.length<=21:=by
 intro x a;unfold Ci at a;rcases B2.1 a with rfl|a
 .have:=LY 2 e.kind;omega
 .obtain⟨f,b,rfl⟩:=List.mem_map.1 a;have d:=MX<|h f (List.mem_of_mem_take b);unfold NT
  split
  .have:=LY (f.tab:Int) (e.get f);omega
  .exact Lib.itoa_length_le _ (by omega) (by omega)
def CF(w:U)(B:Nat)(A:Option Addr)(n c:Nat)(ws:List (List UInt8)):Prop:=
 w.ownsRow B 9 1 (C A n c) n (txs ws)∨∃a,Ar A n c=C (E a) n n/\(txs ws).length=n/\∀b d,(txs ws)[b]?=E d->w.cell? (a.add b)=E d
theorem CF.call{w w':U}{B:Nat}{ws:List (List UInt8)}(h:CF w B A n c ws)(a:Below w w w'):CF w' B A n c ws:=by
 rcases h with h|⟨i,j,k,b⟩
 .exact .inl (AA h a)
 .exact .inr ⟨i,j,k,λd e g=>(a.cell (Ad w _ (b d e g))).trans (b d e g)⟩
theorem CF.reads{w:U}{B:Nat}{ws:List (List UInt8)}(h:CF w B A n c ws):BU w (C A n c) (txs ws):=by
 rcases h with h|⟨⟨e,g,l⟩,m,o,i⟩
 .exact BC h
 .rw[m,<-o];rcases Nat.eq_zero_or_pos (txs ws).length with j|j
  .exact⟨_,_,e,g,rfl,by simp,λ_ _ h=>by omega,Aa _,λk a b=>by have:=(Am.1 b).1;omega⟩
  .obtain⟨p,q⟩:∃a,(txs ws)[0]?=E a:=⟨_,An j⟩;obtain rfl:l=O:=by simpa[Addr.add] using World.cell?_spot (i 0 p q)
   refine⟨_,_,e,g,rfl,by simp,λr d _=>by injection d with d;exact d.symm,Aa _,λk a b=>?_⟩;have:=i k a b;rwa [EF] at this
theorem CF.step{w:U}{B:Nat}{v:N}{ws:List (List UInt8)}{wd:List UInt8}(h:w.ownsRow B 9 1 v (ws.length+1) (txs ws++[BH wd])):
 ∃a c,v=C a (ws++[wd]).length c/\CF w B a (ws++[wd]).length c (ws++[wd]):=by
 obtain⟨a,c,rfl⟩:=Ag h;refine⟨a,c,by simp,?_⟩;have b:txs (ws++[wd])=txs ws++[BH wd]:=by simp[txs]
 exact .inl (by rw[b,List.length_append];exact h)
theorem YM(e:Ev)(w:U)(ai:AE w)(ac:e.Ok)(b2:e.ret<=9223372036854775807):
 Calls prog 30 #[.agg (Aj e)] w λi b3=>i=R (.tuple #[BH (Lib.join (Ci e e.fl.length) [32]),.nilIface])/\Below w.heap.size w b3:=by
 obtain⟨a7,a8,a9,ba,bb⟩:=A1 RM;have aj:AU e.kind:=by have cw:=ac.1.1;have cx:=ac.1.2.1;exact⟨by omega,by omega⟩
 have ak:=Af ai;have A:=Af ac;have al:=Af<|Ah.new w 44 (Aj e);have ad:=Af<|Zc w (K (Aj e) 44);have am:=Af<|Kk e (w.alloc (K (Aj e) 44)) (ai.below ad.o) aj b2;clear ai ac;unfold Aj at al ad am;unfold Aj;go_in;go_wp2_with fail;refine am.o.mono ?_;rintro i bc ⟨b4,rfl,bd,d⟩;have an:=Af<|ad.o.trans (d.mono (by simp));have ae:Hid (Ah bc w.heap.size 44 (Aj e)):=Af<|al.o.below d (by simp);clear d am al ad
 obtain rfl:b4=.nilIface:=by
  rcases bd with ⟨_,h⟩|⟨b5,_⟩
  .exact h
  .exact absurd A.o b5
 have k0:=ae.o.cell 0;have ao:=ae.o.lt;simp only[Aj] at k0;have m:=FD 2 e.kind aj.2 bc<|ak.o.below an.o;unfold BH at m;have B:=Af m;have b6:=LY 2 e.kind;obtain⟨n,ap⟩:∃n,AT 2 e.kind=n:=⟨_,rfl⟩;rw[ap] at B;have b7:=Af ap;clear m bd ap b6;go_wp2_with fail;refine B.o.mono ?_;rintro i j ⟨rfl,d⟩;have b8:=Af<|ae.o.below d ao;have D:Hid (Ah (j.alloc (K #[BH n] 9)).drew w.heap.size 44 (Aj e)):=Af ((ae.o.below d ao).alloc _).drew;have aq:=Af<|Ah.new j 9 #[BH n];have be:=Af<|an.o.trans (d.mono an.o.size);have ar:=Af<|be.o.alloc be.o.size (K #[BH n] 9);have cy:w.heap.size<j.heap.size:=ED ao d.size;clear k0 d B;have k0:=b8.o.cell 0;simp only[Aj] at k0;unfold BH at D aq ar;go_upto_region 5 with fail
 go_cut [6] from 20 to 23 (λb9 bf=>Hw bf b9 e.kind/\Below (j.heap.size+1) (j.alloc (K #[.string ⟨n.toArray⟩] 9)) bf)
 case first=>
  go_region_with (go_at_call 69;go_loud (refine(Lx _).mono ?_);rintro i cz ⟨c0,rfl,hF,d⟩;have bg:=Af (D.o.below d D.o.lt);have v:=Af ((Ae (j.heap.size+1) (j.alloc (K #[.string ⟨n.toArray⟩] 9))).drew.trans (d.mono (by simp)));obtain⟨c1,x,c2⟩:=Pw hF aj;have ca:=Af x;have cb:=bg.o.cell 0;simp only[Aj] at cb;clear x hF d)
  all_goals (go_wp2;go_meet)
  all_goals exact⟨ca.o,v.o⟩
 case rest=>
 obtain⟨x,b⟩:=hcut;obtain⟨k,rfl⟩:∃k:U,k=wc:=⟨_,rfl⟩;unfold Hw at x;rw[if_pos ⟨A.o.1.1,A.o.1.2.1⟩] at x;obtain⟨c3,c,rfl,au,bh⟩:=x;have cc:=Af bh;have cd:=Af au;have bi:Hid (Ah k w.heap.size 44 (Aj e)):=Af<|Ah.below (w:=j.alloc (K #[.string ⟨n.toArray⟩] 9)) D.o b (by omega);have bj:=Af<|aq.o.below b (by omega);have bk:=Af<|ar.o.trans (b.mono (by omega));have ce:=bi.o.lt;have c4:=bj.o.lt;clear au bh b k0 D aq ar;go_wp2
 have cf:Hid (CF k k.heap.size (E ⟨j.heap.size,0,O⟩) (Ci e 0).length 1 (Ci e 0)):=Af (.inr ⟨⟨j.heap.size,0,O⟩,rfl,rfl,λc5 c6 cg=>by
  rw[EF,Ej,bj.o.cell];rw[<-cg];simp[Ci,txs,BH,b7.o]⟩)
 go_loopw [5,7] (λch av wr=>∃(a:Nat) (af:Option Addr) (c:Nat),av=I J a/\a<=e.fl.length/\ch=C af (Ci e a).length c/\CF wr k.heap.size af (Ci e a).length c (Ci e a)/\Below k.heap.size k wr) (λ_ av _=>6-(intOf av).toNat)
 case atStart=>exact⟨0,_,_,rfl,A9 _,rfl,cf.o,Ae _ _⟩
 case round=>
  obtain⟨a,af,ci,rfl,bl,rfl,bm,F⟩:=hrel;have bn:=(Le e.kind e.op e.ret).2
  change e.fl.length<=5 at bn
  have bo:=Af F;have bp:=Af bm;have l:=Af<|bi.o.below F ce;have ag:=Af<|bk.o.trans (F.mono bk.o.size);have bq:=l.o.lt;have k0:=l.o.cell 0;have k1:=l.o.cell 1;have k2:=l.o.cell 2;have k3:=l.o.cell 3;have k4:=l.o.cell 4;have k5:=l.o.cell 5;have k6:=l.o.cell 6;have k7:=l.o.cell 7;simp only[Aj] at k0 k1 k2 k3 k4 k5 k6 k7;have o:=cc.o e a wr F rfl;have au:=cd.o;clear F bm;by_cases y:a<e.fl.length
  .obtain⟨f,G⟩:∃f,e.fl[a]?=E f:=⟨e.fl[a],An y⟩;have L:L3 e.fl a=AS f:=by unfold L3;rw[G]
   have M:decide (a<e.fl.length)=true:=by simpa using y
   rw[L,M] at o;unfold AS Aj at o;have S:=Af o;have cj:=Af (λck z=>VM f ck z);have c7:=λcl z=>N7 f cl z;have c8:=Af G;have br:=MX<|A.o.2.1 f (Ap G);have aw:=Af br;have bs:=Hk e a bl;have W:=Af bs;have bt:=Af<|RH e a f G;have bu:=Af (show a+1<=e.fl.length from y);clear L M o G br bs y;go_wp2_with fail;refine S.o.mono ?_;rintro i X ⟨rfl,b⟩;have bg:=Af b;have ax:=(l.o.below b bq).cell f.off;rw[Ly] at ax;have c9:w.heap.size<X.heap.size:=ED bq b.size;have bv:=Af<|bp.o.call b;have bw:=Af<|ag.o.trans (b.mono ag.o.size);have v:=Af<|bo.o.trans (b.mono bo.o.size);have da:=Af<|Ah.new X 186 (AS f);have bz:=Af<|bw.o.alloc bw.o.size (K (AS f) 186);clear b S k0 k1 k2 k3 k4 k5 k6 k7;go_wp2_with fail;refine(cj.o _ _).mono ?_;rintro i cn ⟨rfl,rfl⟩;by_cases ah:0<f.tab
   case pos=>
    have m:=FD (f.tab:Int) (e.get f) (by have:=aw.o;omega) (X.alloc (K (AS f) 186))<|ak.o.below bz.o;have Y:AT (f.tab:Int) (e.get f)=NT e f:=by unfold NT;rw[if_pos ah]
    rw[Y] at m;obtain⟨g,p⟩:∃g,NT e f=g:=⟨_,rfl⟩;rw[p] at m;have ay:=Af p;unfold BH AS at m;have B:=Af m;clear m Y p;go_wp2_with fail;refine B.o.mono ?_;rintro i az ⟨rfl,q⟩;have a0:=Af<|(bv.o.call ((Ae _ _).alloc (Aa _) (K (AS f) 186))).call q;have r:=Af<|GB v.o v.o.size q;have a1:=Af<|a0.o.call ((Ae _ _).alloc (Aa _) (K #[BH g] 9));have db:=Af W.o;go_wp2_with (at_builtin;refine Dq rfl (.tmp 45) (.tmp 50) 63 rfl k.heap.size 9 a7 (.string .empty) 16 underlying63 a8 a9 ba bb rfl _ (Ci e a).length (txs (Ci e a)) rfl a1.o ⟨az.heap.size,0,O⟩ 1 1 [BH g] rfl rfl (En _ _ _) (by simp[BH,B4]) (by rw[W.o];unfold Al;omega) (by rw[W.o];omega) (by have:=r.o.size;simp;omega) (by decide) ?_;intro co cp Z aa);have a2:=Af<|(r.o.alloc r.o.size (K #[BH g] 9)).trans aa;obtain⟨a3,a4,t,u⟩:=CF.step Z;rw[<-ay.o,<-bt.o] at t u;have a5:=Af t;have a6:=Af u
    go_roundw
    case rel=>exact⟨a+1,a3,a4,by go_num,bu.o,a5.o,a6.o,a2.o⟩
    case measure=>simp[intOf]<;>omega
   case neg=>
    have ab:=GO (e.get f) (by have:=aw.o;omega) (by have:=aw.o;omega) (X.alloc (K (AS f) 186)) (ak.o.below bz.o).tab;have Y:Ei (e.get f)=NT e f:=by unfold NT;rw[if_neg ah]
    rw[Y] at ab;obtain⟨g,p⟩:∃g,NT e f=g:=⟨_,rfl⟩;rw[p] at ab;have ay:=Af p;unfold AS at ab;have cq:=Af ab;go_wp2_with fail;refine cq.o.mono ?_;rintro i az ⟨rfl,q⟩;have a0:=Af<|(bv.o.call ((Ae _ _).alloc (Aa _) (K (AS f) 186))).call q;have r:=Af<|GB v.o v.o.size q;have a1:=Af<|a0.o.call ((Ae _ _).alloc (Aa _) (K #[BH g] 9));go_wp2_with (at_builtin;refine Dq rfl (.tmp 52) (.tmp 55) 63 rfl k.heap.size 9 a7 (.string .empty) 16 underlying63 a8 a9 ba bb rfl _ (Ci e a).length (txs (Ci e a)) rfl a1.o ⟨az.heap.size,0,O⟩ 1 1 [BH g] rfl rfl (En _ _ _) (by simp[BH,B4]) (by rw[W.o];unfold Al;omega) (by rw[W.o];omega) (by have:=r.o.size;simp;omega) (by decide) ?_;intro co cp Z aa);have a2:=Af<|(r.o.alloc r.o.size (K #[BH g] 9)).trans aa;obtain⟨a3,a4,t,u⟩:=CF.step Z;rw[<-ay.o,<-bt.o] at t u;have a5:=Af t;have a6:=Af u
    go_roundw
    case rel=>exact⟨a+1,a3,a4,by go_num,bu.o,a5.o,a6.o,a2.o⟩
    case measure=>simp[intOf]<;>omega
  .have L:L3 e.fl a=BD:=by unfold L3;rw[List.getElem?_eq_none (by omega)]
   have M:decide (a<e.fl.length)=false:=by simpa using y
   rw[L,M] at o;unfold BD Aj at o;have S:=Af o;obtain rfl:a=e.fl.length:=by omega
   have cr:=Qz 21 6 (Ci e e.fl.length) (LZ e A.o.2.1 _) (by rw[Hk e _ (Aa _)];omega);have cs:=Af (λz (ct:BU z (C af (Ci e e.fl.length).length ci) (txs (Ci e e.fl.length)))=>Ju _ (Ci e e.fl.length) z ct (by rw[Hk e _ (Aa _)];omega) (by omega));go_wp2_with fail;refine S.o.mono ?_;rintro i X ⟨rfl,b⟩;have b0:=Af<|ag.o.trans (b.mono ag.o.size);have cu:=Af<|bp.o.call b;go_wp2_with fail;refine(cs.o _ (CF.reads (cu.o.call ((Ae _ _).alloc (Aa _) _)))).mono ?_;rintro i cn ⟨rfl,b1⟩;have cv:=Af<|GB b0.o b0.o.size b1;go_wp2;go_ret2;exact⟨rfl,cv.o⟩
theorem YP(n:Nat)(h:n≤4):(A2 #[A0 .i64 0,.int .i64 0,.bool false,.bool false,.int .i64 0,.int .i64 0] (n*6)).toList=GK (HS n Th.new):=by
 rcases (show n=0∨n=1∨n=2∨n=3∨n=4 by omega) with rfl|rfl|rfl|rfl|rfl<;>kernel_rfl
theorem YQ(p:Pg):(Wd.start p).ts=HS p.threads.length Th.new:=by
 show p.threads.map (fun _=>Th.new)=_
 induction p.threads with
 |nil=>rfl
 |cons b d a=>rw [List.map_cons,a];rfl
theorem SQ{B:Nat}{X:World}{p:Pg}{v u z:Value}(h:Dy X B v u p)(b:X.ownsRow B QD 6 z p.threads.length (GK (HS p.threads.length Th.new)))(d:B≤X.heap.size):
 Wk B X.heap.size (X.alloc (.cells #[v,u,z,.slice none 0 0] tW)) (Wd.start p) v u z (.slice none 0 0):=by
 have a:Below X.heap.size X (X.alloc (.cells #[v,u,z,.slice none 0 0] tW)):=(Ae _ _).alloc (Aa _) _
 refine⟨Ah.new X tW _,d,h.keep (fun e _ _ _ g=>a.block e (AB g)), ?_,World.ownsRow_nil _ _ _ _⟩
 rw [YQ,List.length_replicate]
 exact AA b a
theorem Kw.base{a:List Nat}{W:World}{B n:Nat}{v:Value}{b:List (List (List Bb))}(h:Kw a W n v b)(d:B≤n):Kw a W B v b:=by
 obtain⟨e,k1,k2,k3,k4,k5⟩:=h
 exact⟨e,Aw k1 d,k2,fun g i j k l=>(k3 g i j k l).base d,k4,k5⟩
theorem Dy.base{W:World}{B n:Nat}{v u:Value}{p:Pg}(h:Dy W n v u p)(a:B≤n):Dy W B v u p:=⟨Aw h.1 a,h.2.base a⟩
def Jp(n:Nat):Obj:=.cells (A2 #[A0 .i64 0,.int .i64 0,.bool false,.bool false,.int .i64 0,.int .i64 0] (n*6)) QD
theorem Qd(X:World){B n:Nat}(a:B≤X.heap.size)(b:n≤4):(X.alloc (Jp n)).ownsRow B QD 6 (.slice (some ⟨X.heap.size,0,none⟩) n n) n (GK (HS n Th.new)):=by
 have h:=BX (w:=X) (cs:=A2 #[A0 .i64 0,.int .i64 0,.bool false,.bool false,.int .i64 0,.int .i64 0] (n*6)) (t:=QD) (B:=B) (size:=6) (n:=n) (by rw[Gz]) a (by unfold Al;omega)
 rw [YP n b] at h
 exact h
theorem Ads{w w1 X:World}{p:Pg}{v u:Value}(a:Below w.heap.size w w1)(e:Dy X w1.heap.size v u p)(b:Below w1.heap.size w1.drew X)(g:p.threads.length≤4):
 Wk w.heap.size (X.heap.size+1) ((X.alloc (Jp p.threads.length)).alloc (.cells #[v,u,.slice (some ⟨X.heap.size,0,none⟩) p.threads.length p.threads.length,.slice none 0 0] tW)) (Wd.start p) v u (.slice (some ⟨X.heap.size,0,none⟩) p.threads.length p.threads.length) (.slice none 0 0)∧
 Below w.heap.size w ((X.alloc (Jp p.threads.length)).alloc (.cells #[v,u,.slice (some ⟨X.heap.size,0,none⟩) p.threads.length p.threads.length,.slice none 0 0] tW)):=by
 have d:=a.size
 have m:w1.heap.size≤X.heap.size:=b.size
 have i:Below X.heap.size X (X.alloc (Jp p.threads.length)):=(Ae _ _).alloc (Aa _) _
 have h:=SQ (B:=w.heap.size) (X:=X.alloc (Jp p.threads.length)) ((e.base d).keep (fun j _ _ _ k=>i.block j (AB k))) (Qd X (by omega) g) (by simp;omega)
 rw[Eb] at h
 refine⟨h, ?_⟩
 have l:Below w.heap.size w X:=a.trans ((Ae _ w1).drew.trans (b.mono d))
 exact(l.alloc (by omega) _).alloc (by simp;omega) _
theorem Adt{w w1 X:World}{p:Pg}{v u:Value}(b:Below w.heap.size w w1)(e:Dy X (w1.heap.size+1) v u p)(a:Below (w1.heap.size+1) (w1.alloc (Jp p.threads.length)).drew X)(g:p.threads.length≤4):
 Wk w.heap.size X.heap.size (X.alloc (.cells #[v,u,.slice (some ⟨w1.heap.size,0,none⟩) p.threads.length p.threads.length,.slice none 0 0] tW)) (Wd.start p) v u (.slice (some ⟨w1.heap.size,0,none⟩) p.threads.length p.threads.length) (.slice none 0 0)∧
 Below w.heap.size w (X.alloc (.cells #[v,u,.slice (some ⟨w1.heap.size,0,none⟩) p.threads.length p.threads.length,.slice none 0 0] tW)):=by
 have d:=b.size
 have o:w1.heap.size+1≤X.heap.size:=by have:=a.size;simpa using this
 have i:=Qd w1 (B:=w.heap.size) (n:=p.threads.length) d g
 have j:X.ownsRow w.heap.size QD 6 (.slice (some ⟨w1.heap.size,0,none⟩) p.threads.length p.threads.length) p.threads.length (GK (HS p.threads.length Th.new)):=AK i (fun k _ _ l=>a.block k (by have:=AB l;simpa using this))
 have h:=SQ (e.base (by omega)) j (by omega)
 refine⟨h, ?_⟩
 have m:Below w.heap.size w X:=b.trans (((Ae _ w1).alloc d _).drew.trans (a.mono (by omega)))
 exact m.alloc (by omega) _
abbrev Vq(w:World)(p:Pg)(e:Ending)(w':World):Prop:=
 ∃a b d g i c,e=.returned (.tuple #[.pointer (some ⟨a,0,none⟩),.nilIface])∧Wk w.heap.size a w' (Wd.start p) b d (.slice (some ⟨g,0,none⟩) i c) (.slice none 0 0)∧Below w.heap.size w w'
theorem YR(u v:Value)(p:Pg)(w:World)(a:Ln w u v p)(x:Gi w)(m:Fm p=true)(y:Aaf p):
 Calls prog 184 #[.agg #[u,v]] w fun z i=>Vq w p z i:=by
 obtain⟨Y,A,B,D,F⟩:=A1 AbY
 obtain⟨ac,ad,ae,G,_,_⟩:=AM m
 obtain⟨n,o,Z⟩:=a.1.shape
 obtain⟨q,r,aa⟩:=a.2.shape
 subst Z aa
 rw [BY] at a⊢
 have d:=(Ae w.heap.size w).alloc (Aa _) (.cells #[.slice n p.cells.length o,.slice q p.threads.length r] tP)
 have L:=Af (y _ _ _ (a.below d) (x.below d))
 have M:=Af d
 have S:=Af (a.below d)
 have W:=Af (Ah.new w tP #[.slice n p.cells.length o,.slice q p.threads.length r])
 have ab:=Af m
 have af:∀e:World,(Fw 403 (.int .i64 (p.threads.length:Int)) (.int .i64 (p.threads.length:Int))).run prog e=.ok (.slice (some ⟨e.heap.size,0,none⟩) p.threads.length p.threads.length) (e.alloc (.cells (A2 #[A0 .i64 0,.int .i64 0,.bool false,.bool false,.int .i64 0,.int .i64 0] (p.threads.length*6)) QD)):=fun e=>by
  have h:=run_make (P:=prog) e 403 492 Y (.agg #[.int .i64 0,.int .i64 0,.bool false,.bool false,.int .i64 0,.int .i64 0]) underlying403 A B .i64 .i64 p.threads.length p.threads.length (by omega) (by omega) (by rw [F];omega) (by omega)
  simpa [D,Value.cells] using h
 go_enter func184,ntmps184
 go_wp2_with fail
 refine L.o.mono ?_
 rintro ag ah ⟨rfl,j⟩
 have t:=Af (M.o.trans (j.mono (by simp)))
 have k:=W.o.below j (by simp)
 have X:=Af (S.o.below j)
 have ai:=k.cell 0
 have aj:=k.cell 1
 have ak:=k.lt
 have al:=Af t.o.size
 go_wp2
 go_region_held3 (fun i=>i.cell? ⟨w.heap.size,0,none⟩=some (.slice n p.cells.length o)∧i.cell? ⟨w.heap.size,1,none⟩=some (.slice q p.threads.length r))
  (first
   |(go_keep;done)
   |(go_split_ands;(with_reducible refine⟨(b.cell ?_).trans ?_,(b.cell ?_).trans ?_⟩)<;>first|assumption|(simp;omega)))
  (first
   |(go_at_call 134;refine(J6 _ _ p _ ?_ ab.o).mono ?_;(first|exact X.o.below (Ae _ _).drew|exact X.o.below ((Ae _ _).alloc (Aa _) _).drew);rintro z am ⟨an,ao,rfl,l,b⟩))
 ·have g:=Af (Ads t.o l b G)
  go_wp2
  go_ret2
  exact⟨_,_,_,_,_,_,rfl,g.o.1,g.o.2⟩
 ·have g:=Af (Adt t.o (by simpa using l) (by simpa [Jp] using b) G)
  go_wp2
  go_ret2
  exact⟨_,_,_,_,_,_,rfl,g.o.1,g.o.2⟩
theorem Afj(w:U):Calls prog 262 #[I J 3] w λa b=>a=R (I J 2)/\w=b:=by
 go_in;go_wp2;go_ret;exact⟨rfl,rfl⟩
theorem AgE(c v:Int)(n:Nat)(b:Bool)(w:U)(u0:decide (0<=c)=true)(u1:decide (c<(n:Int))=true)(u2:decide (-1000<=v)=true)(u3:decide (v<=1000)=true):
 Calls prog 218 #[.agg #[I J 3,c,v],(n:Int),b] w λa d=>a=true/\Below w w d:=by
 have e:=Af<|Zc w (K #[I J 3,c,v] 56);go_in;go_wp2_with fail;refine(Afj _).mono ?_;rintro a g ⟨rfl,rfl⟩;go_wp2;go_ret;exact⟨rfl,e⟩
def PgY(p:Pg):Prop:=(1<=p.cells.length/\p.cells.length<=4/\1<=p.threads.length/\p.threads.length<=4)/\(∀d∈p.cells,-1000000<=d/\d<=1000000)/\
 ∀e∈p.threads,e.length<=3/\∀b∈e,(1<=b.length/\b.length<=6)/\∀a∈b,a.kind=3/\0<=a.cell/\a.cell<p.cells.length/\-1000<=a.val/\a.val<=1000
theorem Aau{p:Pg}(a2:PgY p):Aaf p:=λbp bq o a3 _=>by
 obtain⟨x,L⟩:=a3;obtain⟨y,z,rfl⟩:=x.shape;obtain⟨A,B,rfl⟩:=L.shape;obtain⟨⟨br,bs,bt,bu⟩,ak,al⟩:=a2;rw[BY] at x|-;have am:=Af x;have an:=Af L;have a4:=Af ak;have a5:=Af al;have q:=Af<|Ah.new o 61 #[C y p.cells.length z,C A p.threads.length B];have M:=Af<|Zc o (K #[C y p.cells.length z,C A p.threads.length B] 61);go_in;go_wp2
 go_loopw [37] (λb wr=>∃a:Nat,b=I J a/\a<=p.cells.length/\wr=o.alloc (K #[C y p.cells.length z,C A p.threads.length B] 61)) (λb _=>5-(intOf b).toNat)
 case atStart=>exact⟨0,rfl,A9 _,rfl⟩
 case round=>
  obtain⟨a,rfl,S,rfl⟩:=hrel;by_cases v:a<p.cells.length
  .obtain⟨r,W⟩:∃r,p.cells[a]?=E r:=⟨p.cells[a],An v⟩;obtain⟨bv,bw,rfl,i,_,a6⟩:=GH (am.o) (j:=a) (u:=I J r) (by simp[Gs,W]);have bz:=Ad o _ i;have X:=a4.o r<|Ap W;have b0:decide (r< -1000000)=false:=by simpa using X.1
   have b1:decide (1000000<r)=false:=by simpa using X.2
   go_wp2
   go_roundw
   case rel=>exact⟨a+1,by go_num,by omega,trivial⟩
   case measure=>simp[intOf]<;>omega
  .obtain rfl:a=p.cells.length:=by omega
   have a7:=Af<|J0.below an.o M.o;go_wp2;generalize o.alloc (K #[C y p.cells.length z,C A p.threads.length B] 61)=g at*
   go_loopw [52] (λb wr=>∃a:Nat,b=I J a/\a<=p.threads.length/\Below g.heap.size g wr) (λb _=>5-(intOf b).toNat)
   case atStart=>exact⟨0,rfl,A9 _,Ae _ _⟩
   case round=>
    obtain⟨a,rfl,S,t⟩:=hrel;have a8:=Af t;have ao:=Af<|M.o.trans (t.mono M.o.size);have d:=Af<|q.o.below t q.o.lt;have D:=d.o.lt;have F:=d.o.cell 0;have G:=d.o.cell 1;by_cases v:a<p.threads.length
    .obtain⟨l,Y⟩:∃l,p.threads[a]?=E l:=⟨p.threads[a],An v⟩;obtain⟨a9,ba,b2,rfl,i,m,_,a6⟩:=a7.o.at Y;obtain⟨b3,b4,rfl⟩:=m.shape;have Z:=(t.cell (p:=⟨a9,ba+a,O⟩) (Ad g _ i)).trans i;have aa:=a5.o l<|Ap Y;have b5:=aa.1;have bb:=Af aa.2;have bc:=Af m;obtain⟨ap,rfl⟩:∃ap:U,ap=wr:=⟨_,rfl⟩;go_wp2
     go_loopw [62] (λb wr=>∃j:Nat,b=I J j/\j<=l.length/\Below g.heap.size g wr) (λb _=>5-(intOf b).toNat)
     case atStart=>exact⟨0,rfl,A9 _,a8.o⟩
     case round=>
      obtain⟨j,rfl,bd,w⟩:=hrel;have aq:=Af w;have d:=Af<|q.o.below w q.o.lt;have D:=d.o.lt;have F:=d.o.cell 0;have G:=d.o.cell 1;by_cases ar:j<l.length
      .obtain⟨k,ab⟩:∃k,l[j]?=E k:=⟨l[j],An ar⟩;obtain⟨be,bf,b6,rfl,i,m,_,b7⟩:=bc.o.at ab;obtain⟨b8,b9,rfl⟩:=m.shape;have Z:=(w.cell (p:=⟨be,bf+j,O⟩) (Ad g _ i)).trans i;obtain⟨⟨ca,cb⟩,au⟩:=bb.o k<|Ap ab;have bg:=Af au;have bh:=Af m;obtain⟨av,rfl⟩:∃av:U,av=wr:=⟨_,rfl⟩;go_wp2
       go_loopw [77] (λb wr=>∃e:Nat,b=I J e/\e<=k.length/\Below g.heap.size g wr) (λb _=>8-(intOf b).toNat)
       case atStart=>exact⟨0,rfl,A9 _,aq.o⟩
       case round=>
        obtain⟨e,rfl,bi,n⟩:=hrel;have ac:=Af n;have d:=Af<|q.o.below n q.o.lt;have D:=d.o.lt;have F:=d.o.cell 0;have G:=d.o.cell 1;by_cases aw:e<k.length
        .obtain⟨⟨cc,bj,bk⟩,ad⟩:∃bl,k[e]?=E bl:=⟨k[e],An aw⟩;obtain⟨ae,af,rfl,ag,ah,ai,_,cd⟩:=bh.o.at ad;obtain⟨rfl,ax,ay,az,a0⟩:=bg.o _<|Ap ad;have ce:=(n.cell (p:=⟨ae,af+e*3,O⟩) (Ad g _ ag)).trans ag;have cf:=(n.cell (p:=⟨ae,af+e*3+1,O⟩) (Ad g _ ah)).trans ah;have cg:=(n.cell (p:=⟨ae,af+e*3+2,O⟩) (Ad g _ ai)).trans ai;obtain⟨aj,ch⟩:∃aj:Bool,((e:Int)==(k.length:Int)-1)=aj:=⟨_,rfl⟩;have bm:=Af (λbn=>AgE bj bk p.cells.length aj bn (by simpa using ax) (by simpa using ay) (by simpa using az) (by simpa using a0));go_wp2_with fail;refine(bm.o _).mono ?_;rintro ci cj ⟨rfl,a1⟩;have bo:=Af<|GB ac.o ac.o.size a1;go_wp2
         go_roundw
         case rel=>exact⟨e+1,by go_num,by omega,bo.o⟩
         case measure=>simp[intOf]<;>omega
        .obtain rfl:e=k.length:=by omega
         go_wp2
         go_roundw
         case rel=>exact⟨j+1,by go_num,by omega,ac.o⟩
         case measure=>simp[intOf]<;>omega
      .obtain rfl:j=l.length:=by omega
       go_wp2
       go_roundw
       case rel=>exact⟨a+1,by go_num,by omega,aq.o⟩
       case measure=>simp[intOf]<;>omega
    .obtain rfl:a=p.threads.length:=by omega
     go_wp2;go_ret;exact⟨rfl,ao.o⟩
end Go.Proofs.YtpoacbcnhpbdmaaGreatDoor
