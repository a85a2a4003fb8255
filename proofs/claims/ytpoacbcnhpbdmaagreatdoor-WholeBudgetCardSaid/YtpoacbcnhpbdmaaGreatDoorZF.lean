/-
  A part of the proof: Map and what follows.
-/
import Derived.Test.YtpoacbcnhpbdmaaGreatDoorZD
import Derived.Test.YtpoacbcnhpbdmaaGreatDoorZE
import Derived.StringKeys
import Derived.StillTailTactics
import Derived.RangeFuncNested
import Derived.RangeFuncBound
import Derived.RangeFuncCalls
import Derived.RangeFuncLeaves
import Derived.OwnWalkIn
import Derived.TacticsInMore
import Derived.LoopNIn
import Derived.LoopIn
import Derived.Conc.LoneSelect
import Derived.KernelRfl
import Derived.Laws.Rows
set_option linter.all false
set_option maxRecDepth 100000
set_option maxHeartbeats 32000000
open Go.Addr renaming add_lit→EF
open Go.RowKit.Below renaming heap_setCell→B3,refl→Ae
open BitVec renaming ofInt→Ft,ofInt_natCast→Is,toNat_ofNat→It
open Bool renaming and_eq_true→EG
open Go.Calls renaming mono→O2,quiet_of_same→EY
open Go.ChangeMaps renaming heap_setBlock_same→Ii,setBlock→C1
open Decidable renaming not_not→US
open Go.Exit renaming inBlock→O7
open Go.Frame renaming enter→O8
open Go renaming keyOf→IE,TypeId→Ab,binOp→Ec,bodyPost_ret→Ao,callFunc→EB,heap_alloc_new→D4,info_parts→A1,madeCells→A2,maxLen→Al,results→As,step_append_lies→E6,undef→Ac,wpList_append_own_at→B9,zeroValue→Ew
open Go.Instr renaming entryStore→If,lookup→B1,makeSlice→Fw,mapEntry→Ie
open Int renaming toNat_natCast→D6
open Go.IntKind renaming bits→Jx,max→OY,min→OX,signed→Jf,wrap_i64→Ey
open List renaming any_eq_true→Ij,drop_eq_getElem_cons→FX,drop_length→HQ,drop_succ_cons→IG,drop_zero→Ib,getElem?_append_left→Ek,getElem?_eq_getElem→An,getElem?_eq_none→EP,getElem?_eq_some_iff→Am,getElem?_map→EK,getElem?_of_mem→E8,getElem?_set_ne→Et,idxOf_append→O1,mem_cons→B2,mem_flatMap→FY,mem_of_getElem?→Ap,replicate→HS,take_add_one→EO,take_length→Ex,take_succ_cons→Io,take_zero→Ip
open Nat renaming add_zero→EV,le_refl→Aa,le_trans→A8,lt_of_le_of_lt→H5,lt_of_lt_of_le→ED,mod_eq_of_lt→Iu,one_mul→HR,or_lt_two_pow→I5,pow_lt_pow_right→I6,shiftLeft_eq→Gc,zero_add→Ej,zero_le→A9
open Ne renaming symm→Eu
open Go.Op renaming equal→EL,maxDepth→EM
open Option renaming map_eq_some_iff→Eo
open Go.Program renaming keyLits→O0
open Subtype renaming ext→IF
open Go.Value renaming cells→F2,int→A0,oneCell'→B4,ownBlock→A5,slice→Ar
open Go.WideAt renaming IsKeyLit→IS
open Go.World renaming block_lt_of_cell?→Ad,drewN_drewN→Jy,news_of_block→Ee,ownsRow_nil→Ep,size_alloc→Eb,size_drew→Ir
open Go.World.ownsRow renaming stored→I8
open Go.RowKit renaming run_makeMap→EC
open Go.Value renaming int→I,slice→C,pointer→Q,bool→T
open Go.IntKind renaming i64→J
open Go.Obj renaming cells→K
open Go.Obj renaming cells→H
open Go.Ending renaming returned→R
open Option renaming none→O,some→E
open Go renaming World→U,Value→N
namespace Go.Proofs.YtpoacbcnhpbdmaaGreatDoor
open Go.RowKit Go.Maps Go.Proofs.Tryz W
variable {w W X Y Z:World}{n k g c m i j b a:Nat}{v u z y:Value}{x t:Int}{p:TypeId}{q:List Value}{r:Array Value}{A:Option Addr}
attribute [local go_sem↓] Go.wp_at_zero Go.wp_at_succ
section
variable {κ:Type} {P:Program} {K E:TypeId} {kl:κ→Lit} {w w':World} {b n:Nat} {f:κ→Option Int}
end
section
variable {κ:Type} {P:Program} (w:World) {ops:Array Oper} {rest:List Oper} {o:Oper} {a:Act} {Q:Exit→Act→World→Prop}
end
abbrev KJ:Ab:=111
abbrev Ck:Ab:=121
def DT(p:Nat×List UInt8):N:=.agg #[(p.1:Int),.string ⟨p.2.toArray⟩]
theorem VX:(KJ:Ab)<prog.types.size:=of_decide_eq_true (by kernel_rfl)
theorem Aeb:prog.keyTypeAt 2 KJ=true:=by kernel_rfl
theorem VY:Keyed prog KJ:=Keyed.of_law (deep_law_laid Jg (m:=2) (by omega) VX Aeb (by rw[show prog.underlying KJ=_ from underlying111]))
def VZ(p:Nat×List UInt8):Lit:=.string (keyBytes [.int .i64 (p.1:Int),.string p.2])
theorem Aec:prog.keyType KJ=true:=by kernel_rfl
theorem V0:prog.cellsOf KJ=2:=by kernel_rfl
theorem KT{p:Nat×List UInt8}(h:p.1<4096)(d:p.2.length<=Al):IE prog KJ (DT p)=some (VZ p):=by
 obtain⟨a,e⟩:∃a,prog.types.size+1=a+2:=⟨prog.types.size-1,by have n:0<prog.types.size:=H5 (A9 _) VX;omega⟩
 have g:(Lit.int .i64 (p.1:Int)).wf=true:=by
  simp[Lit.wf,OX,OY,Jf,Jx]
  omega
 have b:prog.underlying KJ=_:=underlying111
 have i:prog.underlying 3=_:=underlying3
 have j:prog.underlying 9=_:=underlying9
 have k:prog.cellsOf 3=1:=by kernel_rfl
 have l:prog.cellsOf 9=1:=by kernel_rfl
 unfold IE DT
 rw[b,e]
 simp[Aec,Value.formed,b,V0,O0,F2,i,j,k,l,g,VZ]
 have m:({data:=p.snd.toArray}:ByteArray).size=p.snd.length:=by show p.snd.toArray.size=_;simp
 rw[if_pos (by rw[m];exact d)]
 rfl
theorem Ti{a b:Nat×List UInt8}(h:DT a=DT b):a=b:=by
 obtain⟨d,s⟩:=a;obtain⟨e,g⟩:=b;simp[DT] at h;obtain⟨i,rfl⟩:=h;obtain rfl:d=e:=by omega
 rfl
abbrev Pa:Type:={a:Nat×List UInt8//a.1<4096/\a.2.length<=Al}
def RZ(p:Pa):Lit:=VZ p.1
theorem Tj(a b:Pa)(h:RZ a=RZ b):a=b:=
 IF (Ti (VY.inj (KT a.2.1 a.2.2) (by rw[KT b.2.1 b.2.2];exact congrArg E h.symm)))
theorem V9(a:Pa):IS (RZ a):=VY.key (KT a.2.1 a.2.2)
section
open Go.ChangeShapes Go.WideShapes
structure KS (κ:Type) where
 K:Ab
 kv:κ->N
 kl:κ->Lit
 law:Keyed prog K
 good:∀k,IE prog K (kv k)=E (kl k)
 inj:∀a b,kl a=kl b->a=b
 is:∀a,IS (kl a)
def Bi{κ:Type}(s:KS κ)(W:U)(b n:Nat)(f:κ->Option N):Prop:=
 ∃a:DataW N,W.ownsMap prog s.K Cf b n a/\IsMap a/\∀d e,a.atKey (s.kl d) e=((f d).map DataW.held).getD e
def Fo{κ:Type}[DecidableEq κ](f:κ->Option N)(k:κ)(v:N):κ->Option N:=λa=>if a=k then E v else f a
section
variable {κ:Type} {s:KS κ} {W W':World} {b n:Nat} {f:κ→Option Value} {tm te:TypeId} {z:Value}
theorem Bi.at(h:Bi s W b n f)(e:W'.heap[b]?=W.heap[b]?):Bi s W' b n f:=by
 obtain⟨a,⟨d,c,g,i⟩,j⟩:=h;exact⟨a,⟨d,c,e.trans g,i⟩,j⟩
theorem Bi.obj(h:Bi s W b n f):∃a c,W.heap[b]?=E (.map a c):=by
 obtain⟨e,⟨a,c,d,_⟩,_⟩:=h;exact⟨a,c,d⟩
theorem Bi.lt(h:Bi s W b n f):b<W.heap.size:=by
 let⟨d,c,a⟩:=h.obj;exact DN a
theorem Bi.only{S:List Nat}(h:Bi s W b n f)(a:Ay S W W')(d:b∉S):Bi s W' b n f:=h.at (a.block b h.lt d)
theorem Bi.call(h:Bi s W b n f)(a:Below W W W'):Bi s W' b n f:=h.at (a.block _ h.lt)
theorem Bi.grown{a:Option Nat}(h:Bi s W b n f)(d:W.grownBy W' a)(e:E b≠a):Bi s W' b n f:=h.at (d.block _ h.lt e)
theorem Bi.made(s:KS κ)(W:U):Bi s (W.alloc (.map #[] 0)) W 0 (λ_=>O):=⟨.map [],World.ownsMap_made W _ _ _,⟨[],rfl⟩,λ_ _=>rfl⟩
theorem Bi.apart{t:Ab}{cs:Array N}(h:Bi s W b n f)(a:Ah W g t cs):g≠b:=by
 rintro rfl;let⟨e,c,d⟩:=h.obj;unfold Ah at a;rw[d] at a
 cases a
theorem Bi.apartRow{base size:Nat}{e:Ab}{v:N}{xs:List N}(h:Bi s W b n f)(d:W.ownsRow base e size v m xs):v.ownBlock≠E b:=by
 let⟨k,c,a⟩:=h.obj;rcases d.2 with ⟨rfl,_⟩|⟨g,l,cur,rfl,_,i,_⟩
 .simp[A5]
 .intro j;have:g=b:=by simpa[A5] using j
  subst this;rw[i] at a
  cases a
theorem Bi.look_ok(h:Bi s W b n f)(i:prog.underlying tm=E (.map s.K te))(j:(Ew te).run prog W=.ok z W)(k:κ):
 (B1 tm (.map (E b)) (s.kv k) true).run prog W=.ok (.tuple #[(f k).getD z,T (f k).isSome]) W:=by
 obtain⟨l,m,_,d⟩:=h;let⟨o,u,p,a⟩:=m.look_ok s.law i j (zd:=.held z) (zp:=[]) rfl<|s.good k;rw[d k,KR] at a
 have q:o=(f k).getD z:=by
  unfold Cf at a;simp only[Option.some.injEq,Prod.mk.injEq,DataW.held.injEq] at a;exact a.1
 have r:Maps.has l (s.kl k)=(f k).isSome:=by
  cases g:f k with
  |none=>exact Maps.has_false_of_atKey (λe=>by rw[d k e,g];rfl)
  |some t=>exact Maps.has_true_of_atKey (y:=.held t) (λe=>by rw[d k e,g];rfl)
 rw[p,q,r]
theorem Bi.look(h:Bi s W b n f)(d:prog.underlying tm=E (.map s.K te))(e:(Ew te).run prog W=.ok z W)(k:κ):
 (B1 tm (.map (E b)) (s.kv k) false).run prog W=.ok ((f k).getD z) W:=by
 obtain⟨m,g,_,i⟩:=h;let⟨j,o,l,a⟩:=g.lookup s.law d e (zd:=.held z) (zp:=[]) rfl<|s.good k;rw[i k,KR] at a
 have:j=(f k).getD z:=by
  unfold Cf at a;simp only[Option.some.injEq,Prod.mk.injEq,DataW.held.injEq] at a;exact a.1
 rw[l,this]
theorem Bi.put[DecidableEq κ](h:Bi s W b n f)(i:prog.underlying tm=E (.map s.K te))(j:n<Al)(k:κ)(v:N):
 ∃a,(Instr.mapUpdate tm (.map (E b)) (s.kv k) v).run prog W=.ok () a/\Bi s a b (n+1) (Fo f k v)/\W.mapTurned a b:=by
 obtain⟨u,l,g,m⟩:=h;let⟨a,o,p,q⟩:=l.store s.law i j (s.good k) (d:=.held v) (ps:=[]) (val:=v) rfl;refine⟨a,o,⟨_,p,g.put _ _,λd w=>?_⟩,q⟩;by_cases e:d=k
 .subst e;rw[Maps.atKey_put_same g (s.is d)];simp[Fo]
 .have r:s.kl d≠s.kl k:=λt=>e (s.inj _ _ t);rw[Maps.atKey_put_other r,m d];simp[Fo,e]
end
def Ho:KS Pa:=⟨KJ,λa=>DT a.1,RZ,VY,λa=>KT a.2.1 a.2.2,Tj,V9⟩
theorem Ah.c2{w:U}{t:Ab}{a b:N}(h:Ah w g t #[a,b]):w.cell? g=a/\w.cell? ⟨g,1,O⟩=b:=⟨h.cell 0,h.cell 1⟩
theorem Ah.c7{w:U}{t:Ab}{a b c d e f i:N}(h:Ah w g t #[a,b,c,d,e,f,i]):w.cell? g=a/\w.cell? ⟨g,1,O⟩=b/\w.cell? ⟨g,2,O⟩=c/\w.cell? ⟨g,3,O⟩=d/\w.cell? ⟨g,4,O⟩=e/\w.cell? ⟨g,5,O⟩=f/\w.cell? ⟨g,6,O⟩=i:=
 ⟨h.cell 0,h.cell 1,h.cell 2,h.cell 3,h.cell 4,h.cell 5,h.cell 6⟩
def Nc(W:U)(b:Nat):Prop:=∀a,Du W b a->¬(a=Cv∨a=BN∨a=AZ∨a=Kb)
theorem AD.of_only{S:List Nat}{W W':U}{t:Ab}(h:Ay S W W')(d:∀b∈S,¬Du W b t):AD t W W':=λb a=>h.block b a.lt (λe=>d b e a)
theorem Br.of_only{S:List Nat}{W W':U}(h:Ay S W W')(e:∀b∈S,Nc W b):Br W W':=
 ⟨.of_only h λb a d=>e b a _ d (.inl rfl),.of_only h λb a d=>e b a _ d (.inr (.inl rfl)),.of_only h λb a d=>e b a _ d (.inr (.inr (.inl rfl)))⟩
theorem Br.below{w w':U}(a:Below w w w'):Br w w':=⟨AD.below a,AD.below a,AD.below a⟩
theorem Du.is{W:U}{t:Ab}{o:Obj}(h:Du W b t)(a:W.heap[b]?=o):∃d e,o=K d t e:=by
 obtain⟨d,e,h⟩:=h;rw[h] at a;injection a with a;exact⟨d,e,a.symm⟩
theorem Ah.is{W:U}{t t':Ab}{cs:Array N}(h:Ah W g t cs)(b:Du W g t'):t'=t:=by
 let⟨_,_,a⟩:=b.is h;injection a with _ a;exact a.symm
theorem Nf{W:U}{base size:Nat}{e t:Ab}{v:N}{xs:List N}(d:W.ownsRow base e size v m xs)(a:v.ownBlock=b)(h:Du W b t):t=e:=by
 rcases d.2 with ⟨rfl,_⟩|⟨g,j,cur,rfl,_,i,_⟩
 .simp[A5] at a
 .obtain rfl:b=g:=by simpa[A5] using a.symm
  let⟨_,_,e⟩:=h.is i;injection e with _ e;exact e.symm
theorem Ah.noSp{W:U}{t:Ab}{cs:Array N}(h:Ah W g t cs)(a:¬(t=Cv∨t=BN∨t=AZ∨t=Kb)):Nc W g:=λd b=>by rw[h.is b];exact a
theorem Bi.noSp{κ:Type}{s:KS κ}{W:U}{f:κ->Option N}(h:Bi s W b n f):Nc W b:=by
 intro g a;let⟨i,c,d⟩:=h.obj;let⟨_,_,e⟩:=a.is d
 cases e
theorem JA{W:U}{base size:Nat}{e:Ab}{v:N}{xs:List N}(a:W.ownsRow base e size v m xs)(d:¬(e=Cv∨e=BN∨e=AZ∨e=Kb)):∀b∈v.ownBlock.toList,Nc W b:=
 λb g j i=>by rw[Nf a (by simpa using g) i];exact d
end
abbrev Tl:Ab:=227
abbrev tPm:Ab:=224
theorem Ab0:(prog.info? KJ).map (λa=>(a.zero,a.size,a.bytes))=E (E (.agg #[(),.string .empty]),2,24):=by kernel_rfl
def paL(p:Pa):List N:=[(p.1.1:Int),.string ⟨p.1.2.toArray⟩]
def Ng(m:List Pa)(k:Pa):Option N:=if k∈m then E (m.idxOf k:Int) else O
theorem Tm{m:List Pa}{k:Pa}(h:k∉m):Fo (Ng m) k (m.length:Int)=Ng (m++[k]):=by
 funext b
 unfold Fo Ng;by_cases a:b=k
 .subst a;simp[O1,h]
 .by_cases d:b∈m
  .simp[a,d,O1]
  .simp[a,d]
theorem Tn(m:List Pa)(k:Pa):(Ng m k).isSome=decide (k∈m):=by unfold Ng;by_cases h:k∈m<;>simp[h]
def Dj(w:U)(B b:Nat)(S:List Nat)(M:Nat)(m:List Pa):Prop:=
 ∃(a:Nat) (d:N),Ah w b Tl #[(M:Int),.map (E a),d]/\Bi Ho w a m.length (Ng m)/\w.ownsRow B KJ 2 d m.length (m.flatMap paL)/\m.length<=M/\S=b::a::d.ownBlock.toList/\B<=b/\B<=a
section
variable {w w':World} {B b M:Nat} {S T:List Nat} {m:List Pa}
theorem Dj.only(h:Dj w B b S M m)(a:Ay T w w')(d:∀k∈S,k∉T):Dj w' B b S M m:=by
 obtain⟨e,g,i,j,l,n,rfl,o⟩:=h;exact⟨e,g,i.only a (d b (by simp)),j.only a (d e (by simp)),BJ l a (λp q=>d p (by simp[q])),n,rfl,o⟩
theorem Dj.lt(h:Dj w B b S M m):∀k∈S,B<=k/\k<w.heap.size:=by
 obtain⟨l,n,d,e,g,o,rfl,i,j⟩:=h;intro k a;rcases B2.1 a with rfl|a
 .exact⟨i,d.lt⟩
 .rcases B2.1 a with rfl|a
  .exact⟨j,e.lt⟩
  .exact Ai g (by simpa using a)
theorem Dj.noSp(h:Dj w B b S M m):∀k∈S,Nc w k:=by
 obtain⟨i,j,d,e,g,l,rfl,_⟩:=h;intro k a;rcases B2.1 a with rfl|a
 .exact d.noSp (by decide)
 .rcases B2.1 a with rfl|a
  .exact e.noSp
  .exact JA g (by decide) k a
end
theorem AfR(most:Int)(w:U):
 Calls prog 39 #[most] w λb w'=>b=R (w+1:Nat)/\Dj w' w (w.heap.size+1) [w.heap.size+1,w.heap.size] most.toNat []/\Ay [] w w':=by
 have e:= @EC prog
 have Fin:=Af (show∀a:Int,a=(most.toNat:Int)->Dj ((w.alloc (.map #[] 0)).alloc (K #[a,.map (E w),C O 0 0] Tl)) w (w.heap.size+1) [w.heap.size+1,w.heap.size] most.toNat [] by
  intro a d;subst d;refine⟨w.heap.size,C O 0 0,Bo w _ Tl _,?_,Ep _ _ _ _,A9 _,rfl,Nat.le_succ _,Aa _⟩;exact(Bi.made Ho w).call ((Ae _ _).alloc (Aa _) _))
 go_in;go_wp2
 all_goals
  go_ret;exact⟨rfl,Fin.o _ (by omega),((Ay.refl _ _).alloc _).alloc _⟩
abbrev To(k:Pa):Obj:=K #[(k.1.1:Int),.string ⟨k.1.2.toArray⟩] KJ
theorem Wj(W:U):(Ew 3).run prog W=.ok () W:=by kernel_rfl
theorem AfS{w:U}{B M:Nat}{S:List Nat}{m:List Pa}(k:Pa)(h:Dj w B b S M m):
 Calls prog 87 #[b,DT k.1] w λn w'=>n=R (decide (k∈m))/\Ay [] w w':=by
 obtain⟨i,q,e,j,o,a,rfl,-⟩:=h;have g:Ay [] w (w.alloc (To k)):=(Ay.refl _ _).alloc _;have p:=Af g;have r:=(e.alloc (To k)).cell 1;have t:=(e.alloc (To k)).lt;have l:=j.only g (by simp);have a:=λd=>(show Bi Ho ((w.alloc (To k)).drewN d) i m.length (Ng m) from l).look_ok (tm:=tPm) underlying224 (Wj _) k;rw[Tn] at a;simp only[Ho,DT] at a;have u:∀d,(B1 tPm (.map (E i)) (.agg #[(k.1.1:Int),.string ⟨k.1.2.toArray⟩]) true).run prog ((w.alloc (To k)).drewN d)=.ok (.tuple #[((Ng m k).getD ()),(decide (k∈m))]) ((w.alloc (To k)).drewN d):=a;unfold DT;go_in;go_wp2;go_quiet (fail);go_wp2;go_ret;exact⟨rfl,p.o.drewN _⟩
theorem AfT{w:U}{B M:Nat}{S:List Nat}{m:List Pa}(h:Dj w B b S M m):
 Calls prog 47 #[b] w λe w'=>e=R (m.length:Int)/\w=w':=by
 obtain⟨j,k,a,g,d,i,rfl,-⟩:=h;obtain⟨l,n,rfl⟩:=Ag d;have o:=a.cell 2;go_in;go_wp2;go_ret;exact⟨rfl,rfl⟩
def Ab1(w:U)(B b M:Nat)(S:List Nat)(m:List Pa)(k:Pa)(g:N)(e:Ending)(w':U):Prop:=
 (k∈m/\e=R (.tuple #[false,.nilIface])/\Ay [] w w')∨(k∉m/\m.length=M/\e=R (.tuple #[false,g])/\Ay [] w w')∨
 (k∉m/\m.length<M/\e=R (.tuple #[true,.nilIface])/\∃a,Dj w' B b a M (m++[k])/\Ay S w w'/\∀d∈a,d∈S∨w.heap.size<=d)
theorem AfU{w:U}{B M:Nat}{S:List Nat}{m:List Pa}(k:Pa){an:Addr}{ao:Ab}(h:Dj w B b S M m)(ap:m.length<=100000)(aq:B<=w.heap.size)(ar:w.cell? ⟨0,0,O⟩=E (.iface ao an)):
 Calls prog 41 #[b,DT k.1] w λa w'=>Ab1 w B b M S m k (.iface ao an) a w':=by
 have o:Ay [] w (w.alloc (To k)):=(Ay.refl _ _).alloc _;have z:=Af<|AfS k (h.only o (by simp));have au:=Af<|h.only o (by simp);have av:=Af o;have A:=Af<|Ah.new w KJ #[(k.1.1:Int),.string ⟨k.1.2.toArray⟩];have aw:=Af<|o.cell ar (by simp);have Y:=A.o.cell 0;have Z:=A.o.cell 1;have bb:=Af (show(w.alloc (To k)).heap.size=w.heap.size+1 by simp);have bc:=Af (λD d=>(h.lt D d).2);have bd:=Af aq;unfold DT at z|-;let⟨be,bf,bg,bh,bi⟩:=A1 Ab0;go_in;go_upto_region 1 with fail;generalize w.alloc (To k)=b0 at z au av A aw bb Y Z|-;go_wp2_with fail;refine z.o.mono ?_;rintro a bj ⟨rfl,j⟩;have bk:=Af<|au.o.only j (by simp);have aa:=Af<|A.o.only j (by simp);have bl:=Af<|j.cell aw (by simp);have ab:=Af<|av.o.trans j (by simp);have b1:=Af j.size;by_cases l:k∈m
 .have q:decide (k∈m)=true:=by simpa using l
  have r:=Af l;rw[q];go_wp2;go_ret2;exact .inl ⟨r,rfl,ab⟩
 .have q:decide (k∈m)=false:=by simpa using l
  have r:=Af l;rw[q];obtain⟨g,b2,u,ac,F,ax,rfl,ad,ae⟩:=bk.o;obtain⟨v,x,rfl⟩:=Ag F;have bm:=u.cell 0;have ay:=u.cell 2;by_cases af:m.length=M
  .have az:((m.length:Int)==(M:Int))=true:=by rw[beq_iff_eq];omega
   have bn:=Af af;have b3:=bl.o;go_wp2;go_quiet (fail);go_wp2;go_quiet (fail);go_wp2;go_ret2;exact .inr (.inl ⟨r,bn,rfl,(ab.o.drewN _).drewN _⟩)
  .have az:((m.length:Int)==(M:Int))=false:=by rw[beq_eq_false_iff_ne];omega
   have a0:Hid (m.length<M):=Af (by omega);have ag:=Af u;have ah:=Af ac;have a1:=Af F;have bo:=Af<|And.intro ad ae;have ai:=Af ap;go_upto_region 3 with fail;go_quiet (fail);rename_i nq;go_upto_region 5 with fail;let⟨i,a2,a3,a4⟩:=(show Bi Ho (bj.drewN (nq+1)) g m.length (Ng m) from ah.o).put (tm:=tPm) underlying224 (by have:=ai.o;unfold Al;omega) k (m.length:Int);simp only[Ho,DT] at a2;have y:=a4.grown;have aj:b≠g:=ah.o.apart ag;have ak:=ah.o.apartRow a1;have n:Hid (Ah i b Tl #[(M:Int),.map (E g),C v m.length x]):=Af<|(ag.o.drewN _).grown y (by simpa using aj);have al:Hid (i.ownsRow B KJ 2 (C v m.length x) m.length (m.flatMap paL)):=Af<|(G0 a1 _).kept y (.inr ak);have a5:Hid (Ay (b::g::(Ar v m.length x).ownBlock.toList) w i):=Af<|((ab.o.mono (by simp)).drewN _).grown y (λD d=>.inl (by simp at d;simp[d]));have am:Hid (Ah i w KJ #[(k.1.1:Int),.string ⟨k.1.2.toArray⟩]):=Af<|(aa.o.drewN _).grown y (λa=>by injection a with a;have:=bc.o g (by simp);omega);have bp:=Af a3;have a6:=Af<|And.intro aj ak;have bq:=aa.o.cell 0;have br:=aa.o.cell 1;have bs:=ag.o.cell 1
   go_region
   have Y:=am.o.cell 0;have Z:=am.o.cell 1;have ay:=n.o.cell 2;have b4:=n.o.lt;have b5:=am.o.lt;have a7:=Af a5.o.size;go_upto_region 6 with fail
   go_region_law (refine E6 _ (by rfl) (.tmp 34) (.tmp 36) 225 (by rfl) B KJ be (.agg #[(),.string .empty]) 2 24 underlying225 bf bg bh bi rfl (by decide) (.slice v m.length x) m.length (m.flatMap paL) (by rfl) (al.o.alloc _) i 1 1 (paL k) (by rfl) (by rfl) (Ee (cs:= #[(k.1.1:Int),.string ⟨k.1.2.toArray⟩]) (t:=KJ) (fr:=(0,0)) (D4 i _)) (by intro b6 a8;simp[paL] at a8;rcases a8 with rfl|rfl<;>rfl) (by omega) (by have:=ai.o;unfold Al;omega) (by have:=ai.o;omega) (by have:=bd.o;have:=a7.o;simp;omega) (i+1) (by simp) ?_;intro e G bt a9 L b7 b8;have W:=Af ((n.o.alloc (To k)).drew.grown L (λa=>n.o.apartRow al (by decide) a.symm));have b9:=W.o.cell 2;have ca:=W.o.frozen 2;have cb:=W.o.lt)
   all_goals
    have bu:=Af<|((bp.o.call ((Ae _ _).alloc (Aa _) (To k))).call (W':=(i.alloc (To k)).drew) ⟨rfl,rfl,rfl,Aa _,λ_ _=>rfl⟩).grown L (λa=>a6.o.2 a.symm);have bv:=Af<|(a5.o.alloc (To k)).drew.grown L (λD d=>.inl (by simp[d]));have bw:=Af a9
    have ba:Hid (e≠b/\(e∈(b::g::(Ar v m.length x).ownBlock.toList)∨w.heap.size<=e)):=Af (by
     rcases ‹_∨e=_›with a|a
     .exact⟨λbz=>n.o.apartRow al (by decide) (by rw[a,bz]),.inl (by simp[a])⟩
     .have cc:=a7.o;have cd:=n.o.lt;exact⟨by omega,.inr (by omega)⟩)
    go_wp2;go_ret2;refine .inr (.inr ⟨r,a0,rfl,[b,g,e],⟨g,C e (m.length+1) G,by simpa using W.o.put 2 (C e (m.length+1) G),?_,?_,by simp;exact a0.o,rfl,bo⟩,bv.o.setCell (.inl (by simp)) _,?_⟩)
    .have X:=bu.o.at (W':=bt.setCell ⟨b,2,O⟩ (C e (m.length+1) G))<|B3 _ _ _ _ (λa=>a6.o.1 a.symm);rw[Tm r.o] at X;simpa using X
    .have X:=Ak bw (p:=⟨b,2,O⟩) (λa=>ba.o.1 (by injection a))<|C e (m.length+1) G;simpa using X
    .intro D d;simp at d;rcases d with rfl|rfl|rfl
     .exact .inl (by simp)
     .exact .inl (by simp)
     .exact ba.o.2
abbrev Wl:Ab:=114
abbrev tNl:Ab:=112
theorem Wm:(prog.info? Ck).map (λa=>(a.zero,a.size,a.bytes))=E (E (.agg #[(),C O 0 0]),2,32):=by kernel_rfl
structure Rn where
 p:Nat
 A:Option Addr
 m:Nat
 c:Nat
def Rn.vl(r:Rn):N:=C r.A r.m r.c
def L5(r:Rn):List N:=[(r.p:Int),C r.A r.m r.c]
abbrev rn0:Rn:=⟨0,O,0,0⟩
def Ph(w:World)(B b:Nat)(S:List Nat)(N:Nat)(l:List Rn):Prop:=
 ∃(d:Value) (e:Nat) (a:List Rn),Ah w b Wl #[d,.int .i64 (e:Int)]/\w.ownsRow B Ck 2 d a.length (a.flatMap L5)/\a.length<=N/\l=a.drop e/\(e<a.length∨d=.slice none 0 0/\a=[]/\e=0)/\S=b::d.ownBlock.toList/\B<=b
section
variable {w w':World} {B b N:Nat} {S T:List Nat} {l:List Rn}
theorem Ph.only(h:Ph w B b S N l)(a:Ay T w w')(d:∀k∈S,k∉T):Ph w' B b S N l:=by
 obtain⟨e,g,i,j,m,n,o,p,rfl,q⟩:=h
 exact⟨e,g,i,j.only a (d b (by simp)),BJ m a (fun r t=>d r (by simp [t])),n,o,p,rfl,q⟩
theorem Ph.lt(h:Ph w B b S N l):∀k∈S,B≤k∧k<w.heap.size:=by
 obtain⟨i,j,m,d,e,n,o,p,rfl,g⟩:=h
 intro k a
 rcases B2.1 a with rfl|a
 ·exact⟨g,d.lt⟩
 ·exact Ai e (by simpa using a)
theorem Ph.noSp(h:Ph w B b S N l):∀k∈S,Nc w k:=by
 obtain⟨g,i,j,d,e,m,n,o,rfl,p⟩:=h
 intro k a
 rcases B2.1 a with rfl|a
 ·exact d.noSp (by decide)
 ·exact JA e (by decide) k a
theorem Ph.new(w:World)(B N:Nat)(a:B<=w.heap.size):Ph (w.alloc (.cells #[.slice none 0 0,.int .i64 0] Wl)) B w.heap.size [w.heap.size] N []:=⟨.slice none 0 0,0,[],Ah.new w Wl _,Ep _ _ _ _,A9 _,rfl,.inr ⟨rfl,rfl,rfl⟩,rfl,a⟩
end
theorem Wn(r:Rn):∀u∈L5 r,u.oneCell'=true:=by
 intro u a;simp[L5] at a;rcases a with rfl|rfl<;>rfl
theorem AfW{w:U}{B N:Nat}{S:List Nat}{l:List Rn}(r:Rn)(h:Ph w B b S N l)(G:N<=100000)(L:B<=w.heap.size):
 Calls prog 43 #[b,.agg #[(r.p:Int),C r.A r.m r.c]] w λd w'=>d=R (.tuple #[])/\∃M,Ph w' B b M (N+1) (l++[r])/\Ay S w w'/\∀g∈M,g∈S∨w.heap.size<=g:=by
 let⟨ae,af,ag,ah,ai⟩:=A1 Wm;obtain⟨aq,i,a,j,k,W,rfl,u,rfl,X⟩:=h;obtain⟨v,x,rfl⟩:=Ag k;have Y:=Af<|(Ay.refl (b::(Ar v a.length x).ownBlock.toList) w).alloc (K #[(r.p:Int),C r.A r.m r.c] Ck);have m:=Af<|Ah.new w Ck #[(r.p:Int),C r.A r.m r.c];have n:=Af<|j.alloc (K #[(r.p:Int),C r.A r.m r.c] Ck);have Z:=Af<|k.alloc (K #[(r.p:Int),C r.A r.m r.c] Ck);have aa:=Af<|j.apartRow k (by decide);have aj:=Af (show(a.drop i)++[r]=(a++[r]).drop i by rw[List.drop_append_of_le_length (by rcases u with h|⟨_,_,h⟩<;>omega)]);have ak:Hid (i<(a++[r]).length):=Af (by simp;rcases u with h|⟨_,al,h⟩<;>omega);have y:=Af<|And.intro W G;have ab:=Af<|And.intro X L;have z:=Af (show(w.alloc (K #[(r.p:Int),C r.A r.m r.c] Ck)).heap.size=w.heap.size+1 by simp);have am:=Af j.lt;go_in;go_upto_region 1 with fail;generalize w.alloc (K #[(r.p:Int),C r.A r.m r.c] Ck)=A at Y m n Z z|-;have ar:=m.o.cell 0;have au:=m.o.cell 1;have av:=n.o.cell 0;have aw:=n.o.lt;have ax:=m.o.lt
 go_region_law (refine E6 _ (by rfl) (.tmp 8) (.tmp 10) tNl (by rfl) B Ck ae (.agg #[(),.slice O 0 0]) 2 32 underlying112 af ag ah ai rfl (by decide) (.slice v a.length x) a.length (a.flatMap L5) (by rfl) (Z.o.alloc _) A 1 1 (L5 r) (by rfl) (by rfl) (Ee (cs:= #[(r.p:Int),.slice r.A r.m r.c]) (t:=Ck) (fr:=(0,0)) (D4 A _)) (Wn r) (by omega) (by have:=y.o;unfold Al;omega) (by have:=y.o;omega) (by have:=ab.o;have:=z.o;simp;omega) (A+1) (by simp) ?_;intro e D ay ac F az a0;have o:=Af ((n.o.alloc (K #[(r.p:Int),.slice r.A r.m r.c] Ck)).drew.grown F (λd=>aa.o d.symm));have a1:=o.o.cell 0;have a2:=o.o.frozen 0;have a3:=o.o.lt)
 all_goals
  have an:=Af<|(Y.o.alloc (K #[(r.p:Int),C r.A r.m r.c] Ck)).drew.grown F (λg q=>.inl (by simp[q]));have ao:=Af ac
  have ad:Hid (e≠b/\(e∈(b::(Ar v a.length x).ownBlock.toList)∨w.heap.size<=e)):=Af (by
   rcases ‹_∨e=_›with d|d
   .exact⟨λap=>aa.o (by rw[d,ap]),.inl (by simp[d])⟩
   .have al:=z.o;have a4:=am.o;exact⟨by omega,.inr (by omega)⟩)
  go_wp2_with fail;refine bodyPost_end (results_none rfl _ _ _) rfl ?_;refine⟨rfl,[b,e],⟨C e (a.length+1) D,i,a++[r],by simpa using o.o.put 0 (C e (a.length+1) D),?_,by simp;exact y.o.1,aj.o,.inl ak.o,rfl,ab.o.1⟩,an.o.setCell (.inl (by simp)) _,?_⟩
  .have:=Ak ao.o (p:=b) (λd=>ad.o.1 (by injection d))<|C e (a.length+1) D;simpa using this
  .intro g q;simp at q;rcases q with rfl|rfl
   .exact .inl (by simp)
   .exact ad.o.2
theorem QI(a:Func){t:Ab}(hF:a.results= #[.cell i t,.tmp j])(k:t=Ck)(tmps:Array N)(W:U)(g:Nat)(a0 d b:N)(l:tmps.getD i Ac=g)(m:tmps.getD j Ac=b)(e:Ah W g Ck #[a0,d]):
 (As a tmps).run prog W=.ok (.tuple #[.agg #[a0,d],b]) W:=by
 subst k;have n:=e.cell 0;have o:=e.cell 1;have p:tmps[i]?.getD Ac=g:=by simpa using l
 have q:tmps[j]?.getD Ac=b:=by simpa using m
 simp[As,hF,p,q,go_sem,n,o]
def Aei(w:U)(B b N:Nat)(S:List Nat)(l:List Rn)(e:Ending)(w':U):Prop:=
 (l=[]/\e=R (.tuple #[.agg #[(),C O 0 0],false])/\Ay [] w w')∨
 (∃a d g,l=a::d/\e=R (.tuple #[.agg #[(a.p:Int),C a.A a.m a.c],true])/\Ph w' B b g N d/\Ay S w w'/\∀i∈g,i∈S)
theorem Ls{w:U}{B:Nat}{xs:List Rn}(b:w.ownsRow B Ck 2 (C g n k) n (xs.flatMap L5))(l:n=xs.length){r:Rn}(a:xs[i]?=r):w.cell? ⟨g,i*2,O⟩=E (r.p:Int)/\w.cell? ⟨g,i*2+1,O⟩=E (C r.A r.m r.c):=by
 have m:=(Am.1 a).1;have d:=b.cellAt (i*2) (by omega);have e:=b.cellAt (i*2+1) (by omega);rw[Fc (n:=2) (f:=L5) (λ_=>rfl) xs _ _ a 1 (by omega)] at e;have j:=Fc (n:=2) (f:=L5) (λ_=>rfl) xs _ _ a 0 (by omega);rw[EV] at j;rw[j] at d;exact⟨d,e⟩
theorem Ab2{w:U}{B:Nat}{xs:List Rn}(b:w.ownsRow B Ck 2 (C g n k) n (xs.flatMap L5))(j:n=xs.length)(d:i<xs.length)(r:Rn):
 ((w.setCell ⟨g,i*2,O⟩ (r.p:Int)).setCell ⟨g,i*2+1,O⟩ (C r.A r.m r.c)).ownsRow B Ck 2 (C g n k) n ((xs.set i r).flatMap L5):=by
 have e:=(I8 b (i*2) (r.p:Int)).1;have a:=(I8 e (i*2+1) (C r.A r.m r.c)).1
 have l:((xs.flatMap L5).set (i*2) (r.p:Int)).set (i*2+1) (C r.A r.m r.c)=(xs.set i r).flatMap L5:=by
  clear b e a j
  induction xs generalizing i with
  |nil=>simp at d
  |cons o xs m=>
   cases i with
   |zero=>rfl
   |succ i=>
    have:=m (i:=i) (by simpa using d);simp only[List.flatMap_cons,L5,List.cons_append,List.nil_append,List.set_cons_succ,show(i+1)*2=i*2+1+1 by omega] at this|-;rw[this]
 rw[l] at a;exact a
theorem Aej{w:U}{B N:Nat}{S:List Nat}{l:List Rn}(h:Ph w B b S N l)(bb:N<=100000):
 Calls prog 44 #[b] w λj w'=>Aei w B b N S l j w':=by
 obtain⟨bc,d,g,X,Y,an,rfl,b0,rfl,bd⟩:=h;have b8:=Af X;have ao:=Af X.lt;have be:=Af Y;have Z:∀S,Ay S w ((w.alloc (K #[(),C O 0 0] Ck)).alloc (K #[(),C O 0 0] Ck)):=λS=>((Ay.refl S w).alloc _).alloc _;have ah:=Af<|Z (b::bc.ownBlock.toList);have ap:=Af<|Z [];have q:=Af<|(Ah.new w Ck #[(),C O 0 0]).alloc (K #[(),C O 0 0] Ck);have m:=Af<|Bo w (K #[(),C O 0 0] Ck) Ck #[(),C O 0 0];have u:=Af<|X.only (Z []) (by simp);have x:=Af<|BJ Y (Z []) (by simp);have bf:=Af bd;have bg:=Af<|And.intro an bb;have aq:=Af (show((w.alloc (K #[(),C O 0 0] Ck)).alloc (K #[(),C O 0 0] Ck)).heap.size=w.heap.size+2 by simp);rcases b0 with ar|⟨rfl,rfl,rfl⟩
 .obtain⟨e,r,rfl,bh⟩:∃e r,bc=C (E ⟨e,0,O⟩) g.length r/\g.length<=r:=by
   rcases Y.2 with ⟨_,b9⟩|⟨e,r,cur,j,_,_,au,_⟩
   .omega
   .exact⟨e,r,j,au⟩
  have av:=Af (λ(j:b=e)=>X.apartRow Y (by decide) (by simp[A5,j]));obtain⟨a,ai⟩:∃a,g[d]?=E a:=⟨g[d],An ar⟩;have bi:=Af ai;let⟨y,z⟩:=Ls x.o rfl ai;have bj:=Af ar
  have bk:Hid (g.drop d=a::g.drop (d+1)):=Af (by
   let⟨au,aw⟩:=Am.1 ai;rw[FX au,aw])
  have bl:((d:Int)==(g.length:Int))=false:=by rw[beq_eq_false_iff_ne];omega
  have bm:(0:Int)<=(d:Int):=by omega
  have bn:(d:Int)<(g.length:Int):=by omega
  have bo:(d:Int)<200000:=by have:=bg.o;omega
  let⟨k,i⟩:=u.o.c2;have A:e<_:=(Ai x.o rfl).2;have D:=u.o.lt;go_in;go_upto_region 2 with fail;generalize (w.alloc (K #[(),C O 0 0] Ck)).alloc (K #[(),C O 0 0] Ck)=bp at ah ap q m u x aq k i y z A D|-;go_quiet (fail);go_upto_region 4 with fail;have aa:=Af<|u.o.drewN nq;have ab:=Af<|G0 x.o nq;have ax:=Af<|q.o.drewN nq;have ay:=Af<|m.o.drewN nq;have az:=Af<|ah.o.drewN nq;have aj:Hid ((bp.drewN nq).heap.size=w.heap.size+2):=aq;generalize bp.drewN nq=V at aa ab ax ay az aj|-;let⟨k,i⟩:=aa.o.c2;let⟨y,z⟩:=Ls ab.o rfl bi.o;have A:e<V.heap.size:=(Ai ab.o rfl).2;have D:=aa.o.lt
  go_region
  have ak:=Af<|(aa.o.alloc (K #[(a.p:Int),C a.A a.m a.c] Ck)).drew;have v:Hid ((V.alloc (K #[(a.p:Int),C a.A a.m a.c] Ck)).drew.ownsRow B Ck 2 (C e g.length r) g.length (g.flatMap L5)):=Af<|ab.o.alloc _;have q:=Af<|(ax.o.alloc (K #[(a.p:Int),C a.A a.m a.c] Ck)).drew;have a0:=Af<|(ay.o.alloc (K #[(a.p:Int),C a.A a.m a.c] Ck)).drew;have a1:=Af<|(Ah.new V Ck #[(a.p:Int),C a.A a.m a.c]).drew;have a2:=Af<|(az.o.alloc (K #[(a.p:Int),C a.A a.m a.c] Ck)).drew;go_upto_region 5 with fail;generalize (V.alloc (K #[(a.p:Int),C a.A a.m a.c] Ck)).drew=a3 at ak v q a0 a2 a1|-;have bq:=Af<|Ab2 v.o rfl bj.o rn0
  have F:=Af (show e≠w.heap.size/\e≠w.heap.size+1/\e≠V.heap.size from by
   have:=(Ai be.o (g:=e) rfl).2;have:=aj.o;omega)
  let⟨k,i⟩:=ak.o.c2;let⟨y,z⟩:=Ls v.o rfl bi.o;let⟨b1,b2⟩:=a0.o.c2;have a4:=v.o.frozenAt<|d*2;have ac:=v.o.frozenAt<|d*2+1;have A:e<a3.heap.size:=(Ai v.o rfl).2
  go_region
  have G:=Af<|(((ak.o.far (p:=⟨e,d*2,O⟩) av.o ()).far (p:=⟨e,d*2+1,O⟩) av.o (C O 0 0))).drew;have a5:Hid ((((a3.setCell ⟨e,d*2,O⟩ ()).setCell ⟨e,d*2+1,O⟩ (C O 0 0))).drew.ownsRow B Ck 2 (C e g.length r) g.length ((g.set d rn0).flatMap L5)):=bq;have a6:=Af<|((q.o.far (p:=⟨e,d*2,O⟩) F.o.1.symm ()).far (p:=⟨e,d*2+1,O⟩) F.o.1.symm (C O 0 0)).drew;have a7:=Af<|((a1.o.far (p:=⟨e,d*2,O⟩) F.o.2.2.symm ()).far (p:=⟨e,d*2+1,O⟩) F.o.2.2.symm (C O 0 0)).drew;have a8:=Af<|((a2.o.setCell (p:=⟨e,d*2,O⟩) (.inl (by simp[A5])) ()).setCell (p:=⟨e,d*2+1,O⟩) (.inl (by simp[A5])) (C O 0 0)).drew;go_upto_region 6 with fail;generalize ((a3.setCell ⟨e,d*2,O⟩ ()).setCell ⟨e,d*2+1,O⟩ (C O 0 0)).drew=br at G a5 a6 a7 a8|-;have i:=G.o.cell 1;have ac:=G.o.frozen 1;have D:=G.o.lt;go_upto_region 7 with fail;have L:Hid (Ah (br.setCell ⟨b,1,O⟩ (I J ((d:Int)+1))) b Wl #[C e g.length r,I J ((d:Int)+1)]):=Af (by simpa using G.o.put 1 (I J ((d:Int)+1)));have ad:=Af<|Ak a5.o (p:=⟨b,1,O⟩) (λj=>av.o (by injection j with j;exact j.symm)) (I J ((d:Int)+1));have m:=Af<|a6.o.far (p:=⟨b,1,O⟩) (by have:=ao.o;show w.heap.size≠b;omega) (I J ((d:Int)+1));have ae:=Af<|a7.o.far (p:=⟨b,1,O⟩) (by have:=ao.o;have:=aj.o;show V.heap.size≠b;omega) (I J ((d:Int)+1));have af:=Af<|a8.o.setCell (p:=⟨b,1,O⟩) (.inl (by simp)) (I J ((d:Int)+1));generalize br.setCell ⟨b,1,O⟩ (I J ((d:Int)+1))=bs at L ad m ae af|-;let⟨k,i⟩:=L.o.c2;have t:=Af (show V.heap.size≠b/\w.heap.size≠b/\V.heap.size≠w.heap.size from by have:=ao.o;have:=aj.o;omega);by_cases al:d+1=g.length
  .have aw:((d:Int)+1==(g.length:Int))=true:=by rw[beq_iff_eq];omega
   have a9:=Af al;go_quiet (fail);have n:=Af<|L.o.drewN nq;have am:=Af<|G0 ad.o nq;have o:=Af<|m.o.drewN nq;have M:=Af<|ae.o.drewN nq;have W:=Af<|af.o.drewN nq;generalize bs.drewN nq=ba at n am o M W|-;have a4:=n.o.frozen 0;have ac:=n.o.frozen 1;let⟨k,i⟩:=n.o.c2;go_upto_region 9 with fail;have bt:Hid (Ah ((ba.setCell b (C O 0 0)).setCell ⟨b,1,O⟩ ()) b Wl #[C O 0 0,()]):=Af (by simpa using (n.o.put 0 (C O 0 0)).put 1 ());have ag:=Af<|(o.o.far (p:=b) t.o.2.1 (C O 0 0)).far (p:=⟨b,1,O⟩) t.o.2.1 ();have bu:=Af<|(M.o.far (p:=b) t.o.1 (C O 0 0)).far (p:=⟨b,1,O⟩) t.o.1 ();have bv:=Af<|(W.o.setCell (p:=b) (.inl (by simp)) (C O 0 0)).setCell (p:=⟨b,1,O⟩) (.inl (by simp)) ();generalize (ba.setCell b (C O 0 0)).setCell ⟨b,1,O⟩ ()=ca at bt ag bu bv|-;let⟨b3,b4⟩:=bu.o.c2;let⟨bw,bz⟩:=ag.o.c2;have b5:=ag.o.frozen 0;have b6:=ag.o.frozen 1;go_wp2_with fail;refine Ao (QI _ rfl rfl _ _ w (a.p:Int) (C a.A a.m a.c) _ rfl rfl (by simpa using (ag.o.put 0 (a.p:Int)).put 1 (C a.A a.m a.c))) rfl ?_;refine .inr ⟨a,g.drop (d+1),[b],bk.o,rfl,⟨_,0,[],(bt.o.far (p:=w) (Eu t.o.2.1) _).far (p:=⟨w.heap.size,1,O⟩) (Eu t.o.2.1) _,Ep _ _ _ _,A9 _,?_,.inr ⟨rfl,rfl,rfl⟩,rfl,bf.o⟩,(bv.o.setCell (.inr (by simp)) _).setCell (.inr (by simp)) _,by simp⟩;rw[a9.o,HQ];rfl
  .have aw:((d:Int)+1==(g.length:Int))=false:=by rw[beq_eq_false_iff_ne];omega
   have a9:=Af al;go_quiet (fail);have n:=Af<|L.o.drewN nq;have am:=Af<|G0 ad.o nq;have o:=Af<|m.o.drewN nq;have M:=Af<|ae.o.drewN nq;have W:=Af<|af.o.drewN nq;generalize bs.drewN nq=ba at n am o M W|-;let⟨b3,b4⟩:=M.o.c2;let⟨bw,bz⟩:=o.o.c2;have b5:=o.o.frozen 0;have b6:=o.o.frozen 1;go_upto_region 9 with fail;go_wp2_with fail;refine Ao (QI _ rfl rfl _ _ w (a.p:Int) (C a.A a.m a.c) _ rfl rfl (by simpa using (o.o.put 0 (a.p:Int)).put 1 (C a.A a.m a.c))) rfl ?_;refine .inr ⟨a,g.drop (d+1),[b,e],bk.o,rfl,⟨_,d+1,g.set d rn0,(n.o.far (p:=w) (Eu t.o.2.1) _).far (p:=⟨w.heap.size,1,O⟩) (Eu t.o.2.1) _,?_,by simp;exact bg.o.1,?_,.inl (by have:=bj.o;have:=a9.o;simp;omega),rfl,bf.o⟩,(W.o.setCell (.inr (by simp)) _).setCell (.inr (by simp)) _,by simp[A5]⟩
   .have b7:=Ak (Ak am.o (p:=w) (λj=>F.o.1 (by injection j)) (a.p:Int)) (p:=⟨w.heap.size,1,O⟩) (λj=>F.o.1 (by injection j))<|C a.A a.m a.c;simpa using b7
   .rw[List.drop_set_of_lt (by omega)]
 .have k:=u.o.cell 0;have i:=u.o.cell 1;have bw:=m.o.cell 0;have bz:=m.o.cell 1;go_in;go_upto_region 2 with fail;go_quiet (fail);go_wp2_with fail;refine Ao (QI _ rfl rfl _ _ w () (C O 0 0) _ rfl rfl (by simpa using ((q.o.drewN _).put 0 ()).put 1 (C O 0 0))) rfl ?_;exact .inl ⟨rfl,rfl,((ap.o.drewN _).setCell (.inr (by simp)) _).setCell (.inr (by simp)) _⟩
inductive CK (n:Nat) (e:Ev) (s:St):St→Prop
 |call:e.kind=2→s.stand=1→CK n e s {s with stand:=2,deeds:=s.deeds++[⟨e.obj,e.op,e.key,e.val,0,0,n,-1⟩]}
 |ret {dl:List Dd} {d:Dd}:e.kind=3→s.stand=2→s.deeds=dl++[d]→VU d.op e.ret→CK n e s {s with stand:=1,deeds:=dl++[{d with ret:=e.ret,got:=e.val,back:=n}]}
 |asks:e.kind=4→s.stand=1→CK n e s {s with stand:=3,tri:=n,status:=2}
 |cancel:e.kind=7→s.stand=1→CK n e s {s with stand:=4}
 |ends:(e.kind=5∧s.stand=3∨e.kind=6∧(s.stand=1∨s.stand=2∨s.stand=3∨s.stand=4))→CK n e s {s with stand:=5,fin:=n,status:=if e.kind=5 then 3 else 4}
theorem CK.id{n:Nat}{e:Ev}{s s':St}(h:CK n e s s'):s'.id=s.id:=by cases h<;>rfl
theorem CK.thr{n:Nat}{e:Ev}{s s':St}(h:CK n e s s'):s'.thr=s.thr:=by cases h<;>rfl
theorem CK.from{n:Nat}{e:Ev}{s s':St}(h:CK n e s s'):s.stand∈Bc e.kind:=by
 unfold Bc
 cases h with
 |call a b=>simp[a,b]
 |ret a b=>simp[a,b]
 |asks a b=>simp[a,b]
 |cancel a b=>simp[a,b]
 |ends a=>rcases a with ⟨a,b⟩|⟨a,b⟩<;>simp[a,b]
theorem CK.kind{n:Nat}{e:Ev}{s s':St}(h:CK n e s s'):e.kind∈[(6:Int),5,7,4,3,2]:=by
 cases h with
 |call a b=>simp[a]
 |ret a b=>simp[a]
 |asks a b=>simp[a]
 |cancel a b=>simp[a]
 |ends a=>rcases a with ⟨a,b⟩|⟨a,b⟩<;>simp[a]
theorem CK.five{n:Nat}{e:Ev}{s s':St}(h:CK n e s s'):s.stand≠5:=by
 cases h with
 |call b a=>rw[a];decide
 |ret b a=>rw[a];decide
 |asks b a=>rw[a];decide
 |cancel b a=>rw[a];decide
 |ends b=>rcases b with ⟨b,a⟩|⟨b,a|a|a|a⟩<;>rw[a]<;>decide
theorem ZR(args:Array Value)(w:World):(EB 265 args).run prog w=.ok (.enter 265 args) w:=by kernel_rfl
theorem Sa(args:Array Value)(w:World):(EB 266 args).run prog w=.ok (.enter 266 args) w:=by kernel_rfl
theorem ZS(args:Array Value)(w:World):(EB 268 args).run prog w=.ok (.enter 268 args) w:=by kernel_rfl
theorem ZT(args:Array Value)(w:World):(EB 269 args).run prog w=.ok (.enter 269 args) w:=by kernel_rfl
theorem ZU(args:Array Value)(w:World):(EB 264 args).run prog w=.ok (.enter 264 args) w:=by kernel_rfl
theorem Aeq{L:Nat}{Z:U}{e:Ev}{s s':St}{u fn v:N}(m:CK n e s s')(t:Dv k Z (.agg #[v,fn]) e.kind)(w:L<=Z.heap.size)(h:DS L Z s ⟨b,u⟩)(o:s.deeds.length<=1000):
 ∃j p,fn=.func (.func j) #[] p/\(∀(q:Array N) (r:U),(EB j q).run prog r=.ok (.enter j q) r)/\Calls prog j (#[Q (E ⟨b,0,O⟩),.agg (Aj e),I J n]++p) Z λx y=>Kh L Z b u s' x y:=by
 obtain⟨G,z,i,_,_,g⟩:=t;obtain rfl:fn=z:=by injection i with i;injection i with i;injection i with _ i;injection i
 have M:=m
 cases m with
 |call d l=>
  rw[d] at g;rcases g with ⟨_,rfl⟩|⟨a,_⟩|⟨a,_⟩|⟨a,_⟩|⟨a,_⟩
  .exact⟨_,_,rfl,ZR,do2 h w o e n⟩
  all_goals exact absurd a (by decide)
 |ret d l A B=>
  rw[d] at g;rcases g with ⟨a,_⟩|⟨_,rfl⟩|⟨a,_⟩|⟨a,_⟩|⟨a,_⟩
  .exact absurd a (by decide)
  .exact⟨_,_,rfl,Sa,do3 h o e n A B⟩
  all_goals exact absurd a (by decide)
 |asks d l=>
  rw[d] at g;rcases g with ⟨a,_⟩|⟨a,_⟩|⟨_,rfl⟩|⟨a,_⟩|⟨a,_⟩
  .exact absurd a (by decide)
  .exact absurd a (by decide)
  .exact⟨_,_,rfl,ZS,do4 h e n⟩
  all_goals exact absurd a (by decide)
 |cancel d l=>
  rw[d] at g;rcases g with ⟨a,_⟩|⟨a,_⟩|⟨a,_⟩|⟨_,rfl⟩|⟨a,_⟩
  .exact absurd a (by decide)
  .exact absurd a (by decide)
  .exact absurd a (by decide)
  .exact⟨_,_,rfl,ZT,do5 h e n⟩
  .exact absurd a (by decide)
 |ends d=>
  have S:e.kind=5∨e.kind=6:=by rcases d with ⟨d,_⟩|⟨d,_⟩<;>simp[d]
  rcases g with ⟨a,_⟩|⟨a,_⟩|⟨a,_⟩|⟨a,_⟩|⟨_,c,rfl,_,D⟩
  .omega
  .omega
  .omega
  .omega
  .have F:=do1 h e n (if e.kind=5 then 3 else 4) D;exact⟨_,_,rfl,ZU,F⟩
theorem Ji{os:List Ob}{e:Ev}(h:Hn os e)(a:e.kind≠1):e.kind∈[(6:Int),5,7,4,3,2]:=by
 have:=h.kind;simp;omega
theorem WC{s k:Int}(h:s∈Bc k):s≠5:=by
 rintro rfl;unfold Bc at h
 split at h
 .simp at h
 .split at h
  .simp at h
  .split at h
   .simp at h
   .split at h<;>simp at h
theorem WD{os:List Ob}{e:Ev}{s s':St}(i:Hn os e)(j:e.kind≠1)(h:VE n e s=s'):CK n e s s':=by
 unfold VE at h
 split at h
 case isFalse=>cases h
 case isTrue b=>
  have d:=Ji i j;simp only[B2,List.not_mem_nil,or_false] at d;rcases d with a|a|a|a|a|a
  .rw[a] at b h;simp[Bc] at b;simp at h;subst h;have:=CK.ends (n:=n) (e:=e) (s:=s)<|.inr ⟨a,b⟩;simpa[a] using this
  .rw[a] at b h;simp[Bc] at b;simp at h;subst h;have:=CK.ends (n:=n) (e:=e) (s:=s)<|.inl ⟨a,b⟩;simpa[a] using this
  .rw[a] at b h;simp[Bc] at b;simp at h;subst h;exact .cancel a b
  .rw[a] at b h;simp[Bc] at b;simp at h;subst h;exact .asks a b
  .rw[a] at b h;simp[Bc] at b;simp only[show ¬((3:Int)=2) by decide,if_false,if_true] at h
   split at h
   case h_1 m k=>
    split at h
    case isTrue l=>
     injection h with h;subst h;let⟨o,g⟩:=List.getLast?_eq_some_iff.1 k;rw[g,List.dropLast_concat];exact .ret a b g l
    case isFalse=>cases h
   case h_2=>cases h
  .rw[a] at b h;simp[Bc] at b;simp at h;subst h;exact .call a b
theorem WE{e:Ev}{s:St}(h:VE n e s=O)(k:s.stand=2->s.deeds≠[]):s.stand∉Bc e.kind∨(e.kind=3/\s.stand=2/\∃b a,s.deeds=b++[a]/\Dt a.op e.ret=false):=by
 unfold VE at h
 split at h
 case isFalse d=>exact .inl d
 case isTrue d=>
  split at h
  .cases h
  .split at h
   case isTrue g=>
    have i:s.stand=2:=by rw[g] at d;simpa[Bc] using d
    obtain⟨b,a,j⟩:∃b a,s.deeds=b++[a]:=⟨s.deeds.dropLast,s.deeds.getLast (k i),(List.dropLast_concat_getLast _).symm⟩;refine .inr ⟨g,i,b,a,j,?_⟩;rw[j] at h;simp at h;exact h
   case isFalse=>
    split at h
    .cases h
    .split at h<;>cases h
theorem ZV{A:Au}{e:Ev}(h:A.fd e=O):(e.kind=1/\∃(a:Nat) (s:St),A.sts[a]?=s/\s.id=e.tx)∨(e.kind=1/\(∀s∈A.sts,s.id≠e.tx)/\∃(a:Nat) (s:St),A.sts[a]?=s/\s.thr=e.thr/\s.stand≠5)∨(e.kind≠1/\∀s∈A.sts,s.id≠e.tx)∨(e.kind≠1/\∃(a:Nat) (s:St),A.sts[a]?=s/\s.id=e.tx/\VE A.many e s=O):=by
 unfold Au.fd at h
 split at h
 case isTrue d=>
  split at h
  case isTrue m=>
   by_cases i:A.sts.any (λs=>s.id==e.tx)=true
   .let⟨s,j,g⟩:=Ij.1 i;let⟨a,b⟩:=E8 j;exact .inl ⟨d,a,s,b,by simpa using g⟩
   .have n:A.sts.any (λs=>s.thr==e.thr&&s.stand !=5)=true:=by simpa[i] using m
    let⟨s,j,g⟩:=Ij.1 n;let⟨a,b⟩:=E8 j;simp only[EG,beq_iff_eq,bne_iff_ne] at g;refine .inr (.inl ⟨d,λo p q=>i (Ij.2 ⟨o,p,by simpa using q⟩),a,s,b,g.1,g.2⟩)
  .cases h
 case isFalse d=>
  rcases J8 (l:=A.sts) (x:=e.tx) with ⟨k,r⟩|⟨a,s,k,b,Af⟩
  .exact .inr (.inr (.inl ⟨d,r⟩))
  .rw[k] at h;simp only[b,Option.map_eq_none_iff] at h;exact .inr (.inr (.inr ⟨d,a,s,b,Af,h⟩))
theorem ZW{A d:Au}{e:Ev}(h:A.fd e=d):(e.kind=1/\(∀s∈A.sts,s.id≠e.tx)/\(∀s∈A.sts,s.thr=e.thr->s.stand=5)/\d=⟨A.many+1,A.sts++[CJ A e]⟩)∨(e.kind≠1/\∃(a:Nat) (s b:St),A.sts[a]?=s/\s.id=e.tx/\VE A.many e s=b/\d=A.upd a b):=by
 unfold Au.fd at h
 split at h
 case isTrue g=>
  split at h
  .cases h
  case isFalse i=>
   injection h with h;simp only[Bool.or_eq_true,Ij,not_or,not_exists,not_and,beq_iff_eq,EG,bne_iff_ne,US] at i;exact .inl ⟨g,i.1,i.2,h.symm⟩
 case isFalse g=>
  rcases J8 (l:=A.sts) (x:=e.tx) with ⟨j,n⟩|⟨a,s,j,k,Af⟩
  .rw[j] at h;cases h
  .rw[j] at h;simp only[k] at h;obtain⟨b,m,rfl⟩:=Eo.1 h;exact .inr ⟨g,a,s,b,k,Af,m,rfl⟩
theorem F4(W:U):(Ew QG).run prog W=.ok (Q O) W:=by kernel_rfl
theorem Dc:prog.underlying QH=E (.map 3 QG):=underlying298
theorem WH(W:U):(Ew Kz).run prog W=.ok (.agg #[C O 0 0,.nilFunc]) W:=by kernel_rfl
theorem Dv.mono{L:Nat}{W:U}{v:N}{kind:Int}(h:Dv n W v kind)(a:L<=n):Dv L W v kind:=by
 obtain⟨b,fn,d,e,g,i⟩:=h;refine⟨b,fn,d,A8 a e,g,?_⟩;rcases i with h|h|h|h|⟨j,c,k,l,m⟩
 .exact .inl h
 .exact .inr (.inl h)
 .exact .inr (.inr (.inl h))
 .exact .inr (.inr (.inr (.inl h)))
 .exact .inr (.inr (.inr (.inr ⟨j,c,k,A8 a l,m⟩)))
theorem DoV.shape{L:Nat}{W:U}{kind:Int}{v:N}(h:DoV L W kind v):∃a b,v=.func (.func a) #[] b:=by
 rcases h with ⟨_,h⟩|⟨_,h⟩|⟨_,h⟩|⟨_,h⟩|⟨_,c,h,_⟩<;>exact⟨_,_,h⟩
theorem Nh.look{w W:U}{m:List Int}(h:Nh w W b m){k:Int}(p:k∈m)(t:1<=k/\k<=7):∃i a d e,a=(Bc k).length/\Dv w W (.agg #[C (E ⟨i,0,O⟩) a a,.func (.func d) #[] e]) k/\
 (B1 tMv (.map (E b)) k false).run prog W=.ok (.agg #[C i a a,.func (.func d) #[] e]) W/\∀j,(B1 tMv (.map (E b)) k false).run prog (W.alloc j)=.ok (.agg #[C i a a,.func (.func d) #[] e]) (W.alloc j):=by
 obtain⟨u,v,x,f,y,n,q⟩:=h;let⟨z,o,l⟩:=q k p;have r:=l;obtain⟨i,fn,rfl,_,_,l⟩:=l;obtain⟨d,e,rfl⟩:=l.shape;refine⟨_,_,d,e,rfl,r,?_,λj=>?_⟩
 .have g:=n.look Ni (WH W) (k:=k) (by omega) (by omega);rw[o] at g;exact g
 .have g:=(n.alloc j).look Ni (WH _) (k:=k) (by omega) (by omega);rw[o] at g;exact g
theorem Dv.far{L:Nat}{W:U}{v:N}{kind:Int}(h:Dv L W v kind){p:Addr}(m:p.block<L)(u:N):Dv L (W.setCell p u) v kind:=by
 obtain⟨a,fn,b,d,e,g⟩:=h;refine⟨a,fn,b,d,e.far (p:=p) (by omega) u,?_⟩;rcases g with h|h|h|h|⟨i,c,j,k,l⟩
 .exact .inl h
 .exact .inr (.inl h)
 .exact .inr (.inr (.inl h))
 .exact .inr (.inr (.inr (.inl h)))
 .exact .inr (.inr (.inr (.inr ⟨i,c,j,k,l.far (p:=p) (by omega) u⟩)))
abbrev WI(w2:U)(kind:Int)(j:N)(b:U):Prop:=∃d e a g i,a=(Bc kind).length/\j=Q (E ⟨d,0,O⟩)/\w2.heap.size<=d/\Ah b d Kz #[C (E ⟨e,0,O⟩) a a,.func (.func g) #[] i]/\Dv w2 b (.agg #[C (E ⟨e,0,O⟩) a a,.func (.func g) #[] i]) kind/\Below w2 w2 b
theorem WJ{w2 w:U}{kind:Int}{q:Nat}{r:Array N}(e:n=(Bc kind).length)(d:Dv w2.drew.heap.size w (.agg #[C q n n,.func (.func k) #[] r]) kind)(a:Below w2.drew.heap.size w2.drew w):
 WI w2 kind w (w.alloc (K #[C q n n,.func (.func k) #[] r] Kz)):=by
 have b:=a.size;simp only[Ir] at d b a;exact⟨_,q,n,k,r,e,rfl,b,Ah.new w _ _,d.call ((Ae _ _).alloc (Aa _) _),((Zb w2).drew.trans a).alloc b _⟩
theorem WK{w2 w:U}{kind:Int}{q:Nat}{r:Array N}{o:Obj}(i:n=(Bc kind).length)(d:Dv (w2.drew.alloc o).heap.size w (.agg #[C q n n,.func (.func k) #[] r]) kind)(e:Below (w2.drew.alloc o).heap.size (w2.drew.alloc o) w){a b:N}(g:Ah w w2.drew.heap.size Kz #[a,b]):
 WI w2 kind w2 ((w.setCell w2 (C q n n)).setCell ⟨w2.heap.size,1,O⟩ (.func (.func k) #[] r)):=by
 simp only[Ir,Eb] at d e g;have k0:=g.put 0<|C q n n;have k1:=k0.put 1<|.func (.func k) #[] r;have j:=(d.far (p:=w2) (by simp) (C q n n)).far (p:=⟨w2.heap.size,1,O⟩) (by simp)<|.func (.func k) #[] r;refine⟨_,q,n,k,r,i,rfl,Aa _,by simpa using k1,j.mono (by omega),?_⟩;exact((((Zb w2).drew.alloc (Aa _) _).trans (e.mono (by omega))).setCell (p:=w2) (Aa _) _).setCell (p:=⟨w2.heap.size,1,O⟩) (Aa _) _
theorem KV{os:List Ob}{e:Ev}(h:Hn os e):1<=e.kind/\e.kind<=7:=⟨h.1.1.1,h.1.1.2.1⟩
theorem C6{os:List Ob}{e:Ev}(h:Hn os e)(j:e.ret<=3)(w:U)(g:AE w):Calls prog 64 #[.agg (Aj e)] w λb d=>b=R .nilIface/\Below w w d:=by
 refine(Kk e w g (by have:=KV h;constructor<;>omega) (by omega)).mono ?_;rintro b d ⟨k,rfl,a|a,i⟩
 .exact⟨by rw[a.2],i⟩
 .exact absurd h.1 a.1
theorem Gw.keep{A:Au}{j:List Hd}{F:Int->Option N}(h:Gw A j F){s s':St}{k hd':Hd}(l:A.sts[i]?=s)(o:j[i]?=k)(u:hd'.b=k.b)(p:s'.thr=s.thr)(v:s.stand≠5)(w:s'.stand≠5)(m:Nat):Gw ⟨m,A.sts.set i s'⟩ (j.set i hd') F:=by
 have q:=(Am.1 l).1;have x:=(Am.1 o).1;refine⟨λb n y a g z=>?_,λB r=>h.2 B λn a t=>?_⟩
 .by_cases d:i=b
  .subst d;simp[q] at a;simp[x] at g;subst a g;rw[p,u];exact h.1 i s k l o v
  .simp only at a;rw[Et d] at a g;exact h.1 b n y a g z
 .let⟨b,e⟩:=E8 a;by_cases d:i=b
  .subst d;rw[l] at e;injection e with e;subst e;exact absurd (r s' (Ap (i:=i) (by simp[q])) (p.trans t)) w
  .exact r n (Ap (i:=b) (by simp only;rw[Et d];exact e)) t
theorem Gw.ends{A:Au}{e:List Hd}{F:Int->Option N}(h:Gw A e F){s s':St}{q hd':Hd}(l:A.sts[i]?=s)(r:e[i]?=q)(t:s'.stand=5)(u:∀(j:Nat) (x:St),A.sts[j]?=x->x.thr=s.thr->x.stand≠5->j=i)(m:Nat):Gw ⟨m,A.sts.set i s'⟩ (e.set i hd') (SY F s.thr):=by
 have v:=(Am.1 l).1;have B:=(Am.1 r).1;refine⟨λj x w a n g=>?_,λo y=>?_⟩
 .by_cases b:i=j
  .subst b;simp[v] at a;subst a;exact absurd t g
  .simp only at a;rw[Et b] at a n;unfold SY;rw[if_neg (λz=>b (u j x a z g).symm)];exact h.1 j x w a n g
 .unfold SY;by_cases k:o=s.thr
  .rw[if_pos k]
  .rw[if_neg k];refine h.2 o λx a p=>?_;let⟨j,d⟩:=E8 a;by_cases b:i=j
   .subst b;rw[l] at d;injection d with d;subst d;exact absurd p.symm k
   .exact y x (Ap (i:=j) (by simp only;rw[Et b];exact d)) p
def Px(L:Nat)(W:U)(a:Au)(os:List Ob)(e:Nat)(vo:N)(g i:Nat)(r:Ending)(w':U):Prop:=
 r=R .nilIface/\∃b j d,FB L w' a os e b vo j g i d/\Gw a b d/\Below L W w'
theorem Aet{L:Nat}{W:U}{A:Au}{os:List Ob}{w:List Hd}{vo v:N}{F:Int->Option N}(h:FB L W A os n w vo v k g F)(b2:Gw A w F)(aq:AE W)(e0:A.many<400){e:Ev}(ae:Hn os e)(ds:e.ret<=3)(b3:0<=e.tx/\e.tx<=1000000)
 {i:Nat} {s s':St} {b:Hd} (b4:A.sts[i]?=E s) (b5:w[i]?=E b) (b6:s.id=e.tx) (a9:CK A.many e s s') (b7:s'.stand=5->∀(j:Nat) (x:St),A.sts[j]?=E x->x.thr=s.thr->x.stand≠5->j=i) (b8:s.deeds.length<=1000) (b9:0<=s.thr/\s.thr<=1000000):
 Calls prog 141 #[Q (E ⟨n,0,O⟩),.agg (Aj e)] W λt Y=>Px L W (A.upd i s') os n vo k g t Y:=by
 have H:=Af h;have ca:=Af b2;have e1:=h.box.lt;have ba:W.cell? ⟨n,1,O⟩=E (I J A.many):=h.box.cell 1;have e2:((A.many:Int)==400)=false:=by simp;omega
 have cb:e.kind≠1:=by have:=a9.kind;simp at this;omega
 have e3:(e.kind==1)=false:=by simpa using cb
 have bb:=Af (λZ aq=>C6 ae ds Z aq);have bc:=Af<|aq.below (Zc W (K (Aj e) 44));have bd:=Af<|Ah.new W 44 (Aj e);have cc:=Af ae;have y:=Af a9;have dt:=Af b7;have z:=Af b4;have B:=Af b5;have cd:=Af b3;have ce:=Af b9;have du:=Af b8;have dv:=Af b6;have be:Aj e= #[I J e.kind,I J e.tx,I J e.thr,I J e.obj,I J e.op,I J e.key,I J e.val,I J e.ret]:=rfl;have dw:=Af be;rw[be] at bb bc bd|-;clear be h aq ae b2 a9 b7 b4 b5 b3 b9 b8 b6 cb;go_in;go_wp2_with fail;refine(bb.o _ bc.o).mono ?_;rintro t af ⟨rfl,ar⟩;have cf:=Af<|(Zc W (K #[I J e.kind,I J e.tx,I J e.thr,I J e.obj,I J e.op,I J e.key,I J e.val,I J e.ret] 44)).trans (ar.mono (by simp));have D:=Af<|(H.o.alloc (K #[I J e.kind,I J e.tx,I J e.thr,I J e.obj,I J e.op,I J e.key,I J e.val,I J e.ret] 44)).call ar;have aa:=Af<|bd.o.below ar (by simp);have au:=aa.o.cell 0;have av:af.cell? ⟨n,1,O⟩=E (I J A.many):=D.o.box.cell 1;have dx:=aa.o.lt;have dy:=D.o.box.lt;clear ar bb bc bd ba
 go_upto_if 23 with fail
 go_cut [45] from 24 to 46 (λ_ bf=>∃d,bf=af.drewN d)
 case first=>
  by_cases ag:e.kind=2
  .obtain⟨bg,dz,aw,cg⟩:=cc.o.2 ag;have d0:(e.kind==2)=true:=by simpa using ag
   obtain⟨e4,ax,ch⟩:=D.o.ob;obtain⟨j,ah⟩:∃j:Nat,e.obj=(j:Int):=⟨e.obj.toNat,by omega⟩;rw[ah,D6] at aw;have ci:j<os.length:=(Am.1 aw).1;obtain⟨d1,d2,rfl⟩:=Ag ax
   obtain⟨G,d3,e5⟩:∃G,d1=E ⟨G,0,O⟩/\G<af.heap.size:=by
    rcases ax.2 with ⟨ay,e6⟩|⟨G,e7,cur,ay,e8,ae,_⟩
    .omega
    .injection ay with ay;exact⟨G,ay,AB ae⟩
   subst d3
   have e9:af.cell? ⟨G,j*2,O⟩=E (I J bg.kind):=by
    rw[ax.cellAt (j*2) (by omega)];exact ch j bg aw
   have fa:af.cell? ⟨n,0,O⟩=E (C (E ⟨G,0,O⟩) os.length d2):=D.o.box.cell 0;have az:=aa.o.cell 3;have bh:=aa.o.cell 4;rw[ah] at az;have fb:(0:Int)<=(j:Int):=by omega
   have fc:(j:Int)<(os.length:Int):=by omega
   have cj:decide (os.length<=j)=false:=by simpa using ci
   have ck:=Af (λZ=>(GD e.op Z).mono (R':=λt Y=>t=R (I J bg.kind)/\Y=Z) (λ_ _ o=>⟨by rw[o.1,cg],o.2.symm⟩));clear dz aw cg ax ch ah ag ci;go_wp2_with fail;go_quiet (fail);go_wp2_with fail;go_quiet ((go_at_call 65;first|exact Bw (ck.o _)|exact EY (ck.o _)));go_wp2_with fail
   go_meet
   exact⟨_,Jy _ _ _⟩
  .have d0:(e.kind==2)=false:=by simpa using ag
   clear ag;go_wp2_with fail
   go_meet
   exact⟨0,rfl⟩
 case rest=>
 obtain⟨a0,ai⟩:=hcut;obtain⟨fd,fe,ff,cl,cn,_⟩:=D.o.byM;have a1:Hid (FB L wc A os n w vo v k g F):=Af<|ai▸D.o.drewN a0;have aj:Hid (Ah wc W.heap.size AJ #[I J e.kind,I J e.tx,I J e.thr,I J e.obj,I J e.op,I J e.key,I J e.val,I J e.ret]):=Af<|ai▸aa.o.drewN a0;have co:Hid (Below W.heap.size W wc):=Af<|ai▸below_drewN cf.o a0
 have cp:∀d,(B1 QH (.map (E k)) (I J e.tx) true).run prog (wc.drewN d)=.ok (.tuple #[Q (E ⟨b.b,0,O⟩),T true]) (wc.drewN d):=λd=>by
  subst ai;have o:=((cl.drewN a0).drewN d).look_ok Dc (F4 _) (k:=e.tx) (by have:=cd.o;omega) (by have:=cd.o;omega);have cq:=cn i s b z.o B.o;rw[dv.o] at cq;rw[cq] at o;exact o
 have d4:wc.cell? ⟨n,3,O⟩=E (.map (E k)):=a1.o.box.cell 3;have a2:=aj.o.cell 1;have d5:=aj.o.cell 0;have d6:=aj.o.lt;have d7:=a1.o.box.lt;have d8:=cp 0;clear ai cn cl D aa cf au av dx dy;go_wp2_with fail;go_quiet (fail);go_upto_region 24 with fail;obtain⟨q,ak⟩:∃q,wc.drewN nq=q:=⟨_,rfl⟩;rw[ak];have d9:=Af (λZ=>Ke Z);have ea:=Af y.o.kind;have cr:Hid (FB L q A os n w vo v k g F):=Af<|ak▸a1.o.drewN nq;have al:Hid (Ah q W.heap.size AJ #[I J e.kind,I J e.tx,I J e.thr,I J e.obj,I J e.op,I J e.key,I J e.val,I J e.ret]):=Af<|ak▸aj.o.drewN nq;have bi:Hid (Below W.heap.size W q):=Af<|ak▸below_drewN co.o nq;have k0:q.cell? ⟨W.heap.size,0,O⟩=E (I J e.kind):=al.o.cell 0;have eb:W.heap.size<q.heap.size:=al.o.lt;clear ak d5 a2 d4 d7 d6 cp d8 a1 aj co
 go_cut [8] (λec bf=>WI q e.kind ec bf)
 case first=>
  go_region_with (go_at_call 223;go_loud (refine(d9.o _).mono ?_);rintro t cs ⟨fg,rfl,bj⟩;obtain⟨fh,fi,fj,fk,ct,ac,fl,fm⟩:=bj.look ea.o (KV cc.o);have am:=Af ac;have cu:=Af ct;clear ct;have M:=Af bj.below;have k1:=M.o.cell (p:=⟨W.heap.size,0,O⟩) (by simp;omega);have fo:W.heap.size<cs.heap.size:=(by have o:=M.o.size;simp at o;omega);clear ac bj;(try (have ad:=(Ah.new q.drew Kz #[C O 0 0,.nilFunc]).below M.o (by simp);have ed:=ad.cell 0;have cj:=ad.cell 1;have ee:=ad.frozen 0;have ef:=ad.frozen 1;have eg:=ad.lt;simp only[Ir] at ed cj ee ef eg)))
  all_goals go_wp2_with fail
  all_goals go_meet
  all_goals (first|exact WJ cu.o am.o M.o|exact WK cu.o am.o M.o ad)
 case rest=>
 obtain⟨eh,bk,d,cv,cw,bl,rfl,fp,a3,ac,a4⟩:=hcut;obtain⟨a,rfl⟩:∃a:U,a=wc:=⟨_,rfl⟩;have an:=Af<|cr.o.call a4;have r:=Af<|al.o.below a4 al.o.lt;have cx:=Af<|bi.o.trans (a4.mono bi.o.size);have a5:=Af<|an.o.st i s b z.o B.o;have am:=Af ac;have ei:=a3.lt;have ej:=a3.cell 0;have cy:=a3.cell 1;have bm:a.cell? ⟨b.b,7,O⟩=E (I J s.stand):=a5.o.blk.cell 7;have ao:a.cell? ⟨b.b,1,O⟩=E (I J s.thr):=a5.o.blk.cell 1;have ek:=a5.o.blk.lt;have av:a.cell? ⟨n,1,O⟩=E (I J A.many):=an.o.box.cell 1;have el:=an.o.box.lt;have au:=r.o.cell 0;have a2:=r.o.cell 1;have cz:=r.o.cell 2;have az:=r.o.cell 3;have bh:=r.o.cell 4;have c0:=r.o.cell 5;have c1:=r.o.cell 6;have c2:=r.o.cell 7;have em:=r.o.lt
 have c3:Hid (∀ab,Calls prog 224 #[C (E ⟨bk,0,O⟩) d d,I J s.stand] (a.drewN ab) λt Y=>t=R (T true)/\Y=a.drewN ab):=Af (λab=>by
  obtain⟨fq,fr,l,_,en,_⟩:=ac;injection l with l;injection l with l;injection l with l _;injection l with l _ _;injection l with l;injection l with l;subst l
  have o:=Tryz.slices_Contains_int bk 0 d d (Bc e.kind) s.stand (a.drewN ab) (by omega) (by have:d<=4:=(by rw[bl];unfold Bc;split<;>(try split)<;>(try split)<;>(try split)<;>simp);omega) (λj ah=>by
   have o:=(en.drewN ab).cell<|0+j;rw[o];rw[Ej];simp[ah])
  refine o.mono ?_;rintro t Y ⟨rfl,rfl⟩;refine⟨?_,rfl⟩;have eo:=y.o.from;rw[bl,Ex];simp[eo])
 clear ac a3 a4 bl cr al bi k0 eb;go_wp2_with fail;go_quiet ((go_at_call 224;exact EY (c3.o _)));go_upto_region 27 with fail;refine wp_region_still_tail 8 (by kernel_rfl) (by kernel_rfl) ?_
 change wpStill _ _ (a.drewN (nq+1)) (λbn=>wpList _ _ _ _ bn (a.drewN (nq+1))) _ _
 have S:Hid (FB L (a.drewN (nq+1)) A os n w vo v k g F):=Af<|an.o.drewN _;have bo:Hid (Below W.heap.size W (a.drewN (nq+1))):=Af<|below_drewN cx.o _;have bp:Hid (Dv q.heap.size (a.drewN (nq+1)) (.agg #[C (E ⟨bk,0,O⟩) d d,.func (.func cv) #[] cw]) e.kind):=Af<|am.o.call (below_drewN (Ae _ _) _);have a6:(a.drewN (nq+1)).cell? ⟨eh,1,O⟩=E (.func (.func cv) #[] cw):=cy;have c4:(a.drewN (nq+1)).cell? ⟨W.heap.size,0,O⟩=E (I J e.kind):=au;have c5:(a.drewN (nq+1)).cell? ⟨W.heap.size,1,O⟩=E (I J e.tx):=a2;have c6:(a.drewN (nq+1)).cell? ⟨W.heap.size,2,O⟩=E (I J e.thr):=cz;have c7:(a.drewN (nq+1)).cell? ⟨W.heap.size,3,O⟩=E (I J e.obj):=az;have c8:(a.drewN (nq+1)).cell? ⟨W.heap.size,4,O⟩=E (I J e.op):=bh;have c9:(a.drewN (nq+1)).cell? ⟨W.heap.size,5,O⟩=E (I J e.key):=c0;have da:(a.drewN (nq+1)).cell? ⟨W.heap.size,6,O⟩=E (I J e.val):=c1;have db:(a.drewN (nq+1)).cell? ⟨W.heap.size,7,O⟩=E (I J e.ret):=c2;have dc:(a.drewN (nq+1)).cell? ⟨n,1,O⟩=E (I J A.many):=av;generalize a.drewN (nq+1)=ep at S bo bp a6 c4 c5 c6 c7 c8 c9 da db dc|-;clear an r cx a5 am ei ej cy bm ao ek av el au a2 cz az bh c0 c1 c2 em c3;have bq:Hid (L<=ep.heap.size):=Af (by have:=S.o.box.lt;have:=S.o.le;omega);obtain⟨fs,ft,eq,er,dd⟩:=Aeq y.o bp.o bq.o (S.o.st i s b z.o B.o) du.o;injection eq with br _ es;injection br with br;subst br es;have de:=Af dd;clear dd;simp only[Io,Ip,IG,Ib]
 iterate 8 still_step
 refine wpStill_nil ?_;go_wp2_with fail;refine O2 (dw.o▸de.o) ?_;rintro t m ⟨rfl,bs,ap,df,bt⟩
 have bu:∀x∈b.b::b.vd.ownBlock.toList,x=b.b∨b.vd.ownBlock=E x:=by
  intro x a7;simp only[B2,Option.mem_toList] at a7;exact a7
 have dh:=Af<|S.o.st i s b z.o B.o;have u:=Af<|S.o.upd z.o B.o bt bu ap df y.o.id
 have di:Hid (Below L W m):=Af ((bo.o.mono (by have:=H.o.le;omega)).trans (bt.below_of bq.o (λx a7=>by
  rcases bu x a7 with rfl|h
  .exact dh.o.le
  .exact(Ai dh.o.row h).1)))
 have bm:m.cell? ⟨b.b,7,O⟩=E (I J s'.stand):=ap.blk.cell 7;have ao:m.cell? ⟨b.b,1,O⟩=E (I J s'.thr):=ap.blk.cell 1;have et:=ap.blk.lt;have ba:m.cell? ⟨n,1,O⟩=E (I J A.many):=u.o.box.cell 1;have dj:m.cell? ⟨n,4,O⟩=E (.map (E g)):=u.o.box.cell 4;have eu:=u.o.box.frozen 1;have ev:=u.o.box.lt;have dk:IntKind.i64.wrap ((A.many:Int)+1)=(A.many:Int)+1:=by rw[Ey];omega
 clear ap df bt bu a6 c4 c5 c6 c7 c8 c9 da db dc de er bo bp S bq;by_cases X:s'.stand=5
 .have ew:(s'.stand==5)=true:=by simpa using X
  have ex:=Af<|dt.o X;have bv:=Af X;clear X dk;go_wp2_with fail;obtain⟨fu,dl,dm⟩:=u.o.buM;have bw:s'.thr=s.thr:=y.o.thr;rw[bw] at ao;have fv:=Af bw;obtain⟨dn,ey,dp,bz⟩:=(dm.drew).drop Dc (k:=s.thr) (by have:=ce.o;omega) (by have:=ce.o;omega) 0;have dq:Hid (FB L m.drew ⟨A.many,A.sts.set i s'⟩ os n (w.set i ⟨b.b,bs⟩) vo v k g F):=Af<|u.o.drewN 1;have a8:=Af<|dq.o.drop dl dp bz;have dr:Hid (Below L m.drew dn):=Af<|(Ae L m.drew).grown bz.grown (by have:=u.o.le;have:=u.o.box.lt;simp;omega) (λab e=>by injection e with e;subst e;exact H.o.m2l);clear bw dm dp bz dl;refine wp_region_still_tail 9 (by kernel_rfl) (by kernel_rfl) ?_
  change wpStill _ _ m.drew (λbn=>wpList _ _ _ _ bn m.drew) _ _
  have ez:m.drew.cell? ⟨n,4,O⟩=E (.map (E g)):=dj;have a6:m.drew.cell? ⟨b.b,1,O⟩=E (I J s.thr):=ao;have b0:=di.o.drew;generalize m.drew=fw at ey dq dr ez a6 b0|-;have M:=Af<|b0.trans dr.o;have cs:dn.cell? ⟨n,1,O⟩=E (I J A.many):=a8.o.box.cell 1;have fx:=a8.o.box.frozen 1;have fy:=a8.o.box.lt;clear b0 dj ao bm et ba eu ev;simp only[Io,Ip,IG,Ib]
  iterate 9 still_step
  refine wpStill_nil ?_;have dk:IntKind.i64.wrap ((A.many:Int)+1)=(A.many:Int)+1:=by rw[Ey];omega
  go_wp2_with fail;go_ret;have b1:=a8.o.more;exact⟨rfl,_,_,_,b1,(ca.o.ends (hd':=⟨b.b,bs⟩) z.o B.o bv.o ex.o (A.many+1)),M.o.setCell (p:=⟨n,1,O⟩) H.o.le _⟩
 .have ew:(s'.stand==5)=false:=by simpa using X
  have bv:=Af X;clear X;go_wp2_with fail;go_ret;have b1:=u.o.more;exact⟨rfl,_,_,_,b1,(ca.o.keep (hd':=⟨b.b,bs⟩) z.o B.o rfl y.o.thr y.o.five bv.o (A.many+1)),di.o.setCell (p:=⟨n,1,O⟩) H.o.le _⟩
def Ch(X W':U):Prop:=X.heap.size<=W'.heap.size/\∀(a:Nat) (d:Array N) (b:Ab),b≠Tg->b≠QG->X.heap[a]?=E (K d b (0,0))->W'.heap[a]?=X.heap[a]?
theorem Ch.blk{X W':U}(h:Ch X W'){t:Ab}{cs:Array N}(a:Ah X g t cs)(b:t≠Tg)(d:t≠QG):Ah W' g t cs:=(h.2 g cs t b d a).trans a
theorem Ch.row{X W':U}(h:Ch X W'){B size:Nat}{t:Ab}{v:N}{xs:List N}(a:X.ownsRow B t size v n xs)(b:t≠Tg)(d:t≠QG):W'.ownsRow B t size v n xs:=AK a λe g _ i=>h.2 e g t b d i
theorem Ch.of{X W':U}(a:Below X X W'):Ch X W':=⟨a.size,λb _ _ _ _ d=>a.block b (AB d)⟩
theorem Ch.trans{X Y Z:U}(h:Ch X Y)(k:Ch Y Z):Ch X Z:=⟨A8 h.1 k.1,λa b d e g i=>by
 have j:=h.2 a b d e g i;exact(k.2 a b d e g (j.trans i)).trans j⟩
theorem Ch.set{X:U}{cs:Array N}(a:Ah X n Tg cs)(j:Nat)(v:N):Ch X (X.setCell ⟨n,j,O⟩ v):=
 ⟨by simp,λb c g d _ e=>B3 X ⟨n,j,O⟩ v b (AQ e a d)⟩
theorem Ch.grown{X W':U}{v:N}{B size:Nat}{xs:List N}(d:X.ownsRow B QG size v n xs)(a:X.grownBy W' v.ownBlock):Ch X W':=
 ⟨a.size,λe c k _ g b=>a.block e (AB b) λi=>by
  let⟨l,j⟩:=Bm d i.symm;exact AQ b j g rfl⟩
theorem Az.stays{X:U}{f:Int->Option N}(d:Az X b n f){cs:Array N}(a:Ah X k Tg cs)(j:Nat)(v:N):Az (X.setCell ⟨k,j,O⟩ v) b n f:=
 d.at (B3 X ⟨k,j,O⟩ v b λe=>by
  let⟨g,c,h⟩:=d.obj;subst e;unfold Ah at a;rw[h] at a
  cases a)
theorem Az.far{X:U}{b':Nat}{f:Int->Option N}(a:Az X b n f)(d:b≠b')(o:Obj):Az (C1 X b' o) b n f:=by
 refine a.at ?_;simp[C1,Eu d]
theorem DE{X:U}{B:Nat}(h:B<=b)(o:Obj):Below B X (C1 X b o):=
 ⟨rfl,rfl,rfl,by simp[C1],λa d=>by simp[C1,show b≠a by omega]⟩
structure Two (L:Nat) (Z:U) (m1 m2 n1 n2:Nat) (k1 k2:Int) (f1 f2:Int->Option N) (v:N) (X1 X2 X3 X4:U) (u1 u2:N) (s1 s2:Nat):Prop where
 r1:(Ie QH (.map (E m1)) k1).run prog Z=.ok (.tuple #[u1,goInt s1]) X1
 r2:(If QH (.map (E m1)) (goInt s1) v).run prog X1=.ok () X2
 r3:(Ie QH (.map (E m2)) k2).run prog X2=.ok (.tuple #[u2,goInt s2]) X3
 r4:(If QH (.map (E m2)) (goInt s2) v).run prog X3=.ok () X4
 c1:∀p u,Z.cell? p=E u->X1.cell? p=E u
 c2:∀p u,Z.cell? p=E u->X2.cell? p=E u
 c3:∀p u,Z.cell? p=E u->X3.cell? p=E u
 c4:∀p u,Z.cell? p=E u->X4.cell? p=E u
 st:Ch Z X4
 box:∀(b:Nat) (t:Ab) cs,Ah Z b t cs->Ah X4 b t cs
 row:∀(B n size:Nat) (t:Ab) (v:N) (xs:List N),Z.ownsRow B t size v n xs->X4.ownsRow B t size v n xs
 g1:Az X4 m1 (n1+1) (AC f1 k1 v)
 g2:Az X4 m2 (n2+1) (AC f2 k2 v)
 below:Below L Z X4
theorem Sc(W:U):(Ew QG).run prog W=.ok (Q O) W:=by kernel_rfl
theorem two{L:Nat}{Z:U}{k1 k2:Int}{F A:Int->Option N}(aj:Az Z n m F)(ar:Az Z g i A)(u:n≠g)(ak:L<=n)(al:L<=g)(au:m<Al)(av:i<Al)(bh:0<=k1/\k1<=1000000)(bi:0<=k2/\k2<=1000000)(v:N):
 ∃aw ax ay az W X Y aa,Two L Z n g m i k1 k2 F A v aw ax ay az W X Y aa:=by
 have am:prog.underlying QH=E (.map 3 QG):=underlying298;obtain⟨W,Y,p,q,a0,a1⟩:=aj.entry am Sc au (k:=k1) (by omega) (by omega);obtain⟨bj,bk,ab⟩:=aj.obj;obtain⟨x,y,a2,a3⟩:=a1 _ v<|Ii ab _;have a4:Az (C1 Z n (.map p q)) g i A:=ar.far (Eu u) _;have an:Az (C1 (C1 Z n (.map p q)) n (.map x y)) g i A:=a4.far (Eu u) _;obtain⟨X,aa,B,D,a5,a6⟩:=an.entry am Sc av (k:=k2) (by omega) (by omega);obtain⟨bl,bm,ac⟩:=an.obj;obtain⟨ad,ae,a7,a8⟩:=a6 _ v<|Ii ac _;have a9:(C1 Z n (.map p q)).heap[n]?=E (.map p q):=Ii ab _
 have step:∀(r:U) (t:Nat) (ao:Array MapEntry) (c:Nat) (G:Obj),r.heap[t]?=E (.map ao c)->
  (∀d e,r.cell? d=E e->(C1 r t G).cell? d=E e)/\(∀(b:Nat) (j:Array N) (l:Ab),r.heap[b]?=E (K j l (0,0))->(C1 r t G).heap[b]?=r.heap[b]?):=by
  intro r t ao c G z;refine⟨λd e h=>?_,λb j l o=>?_⟩
  .have u:t≠d.block:=λaf=>by subst af;simp[World.cell?,z] at h
   rw[World.cell?_of_block (w:=r) (w':=C1 r t G) (a:=d) (by simp[C1,u])];exact h
  .have u:t≠b:=λaf=>by subst af;rw[z] at o;cases o
   simp[C1,u]
 obtain⟨M,ba⟩:=step Z n _ _ (.map p q) ab;obtain⟨ag,bb⟩:=step _ n _ _ (.map x y) a9;obtain⟨ap,bc⟩:=step _ g _ _ (.map B D) ac;obtain⟨bd,be⟩:=step _ g _ _ (.map ad ae)<|Ii ac _
 have ah:∀(b:Nat) (j:Array N) (l:Ab),Z.heap[b]?=E (K j l (0,0))->(C1 (C1 (C1 (C1 Z n (.map p q)) n (.map x y)) g (.map B D)) g (.map ad ae)).heap[b]?=Z.heap[b]?:=by
  intro b j l o;have S:=ba b j l o;have ai:=bb b j l<|S.trans o;have aq:=bc b j l<|ai.trans (S.trans o);have bf:=be b j l<|aq.trans (ai.trans (S.trans o));exact bf.trans<|aq.trans (ai.trans S)
 refine⟨C1 Z n (.map p q),C1 (C1 Z n (.map p q)) n (.map x y),C1 (C1 (C1 Z n (.map p q)) n (.map x y)) g (.map B D),C1 (C1 (C1 (C1 Z n (.map p q)) n (.map x y)) g (.map B D)) g (.map ad ae),W,X,Y,aa,?_⟩;refine {r1:=a0,r2:=a2,r3:=a5,r4:=a7,c1:=M,c2:=λd e h=>ag d e (M d e h),c3:=λd e h=>ap d e (ag d e (M d e h)),c4:=λd e h=>bd d e (ap d e (ag d e (M d e h))),st:=⟨by simp[C1],λb j l _ _ o=>ah b j l o⟩,box:=λt l j z=>(ah t j l z).trans z,row:=λbn bo size l v bp bg=>AK bg λb j _ o=>ah b j l o,g1:= ?_,g2:=a8,below:= ?_}
 .exact(a3.far u _).far u _
 .exact(((DE ak _).trans (DE ak _)).trans (DE al _)).trans<|DE al _
theorem Gw.add{A:Au}{d:List Hd}{F:Int->Option N}(h:Gw A d F)(o:d.length=A.sts.length){e:Ev}(p:∀s∈A.sts,s.thr=e.thr->s.stand=5)(b:Nat)(q:N)(m:Nat):Gw ⟨m,A.sts++[CJ A e]⟩ (d++[⟨b,q⟩]) (AC F e.thr (Gu b)):=by
 refine⟨λi s r a g j=>?_,λk l=>?_⟩
 .simp only at a;by_cases t:i<A.sts.length
  .rw[Ek t] at a;rw[Ek (by omega)] at g;have u:s.thr≠e.thr:=λv=>j (p s (Ap a) v);unfold AC;rw[if_neg u];exact h.1 i s r a g j
  .let⟨w,_⟩:=Am.1 a;simp at w;obtain rfl:i=A.sts.length:=by omega
   simp at a;subst a;rw[<-o] at g;simp at g;subst g;simp[AC,CJ]
 .unfold AC;by_cases n:k=e.thr
  .exact absurd (l (CJ A e) (by simp) n.symm) (by simp[CJ])
  .rw[if_neg n];exact h.2 k λs d x=>l s (by simp[d]) x
theorem FB.add{L:Nat}{X w:U}{A:Au}{os:List Ob}{o:List Hd}{vo v u:N}{F t:Int->Option N}(h:FB L X A os n o vo v g m F){e:Ev}(Af:∀s∈A.sts,s.id≠e.tx)
 (aa:Ch X w) (r:Ah w n Tg #[vo,I J A.many,u,.map (E g),.map (E m)]) (S:w.ownsRow L QG 1 u (A.sts.length+1) (o.map (λh=>Gu h.b)++[Gu X.heap.size])) (ab:Ah w X.heap.size QF (Co (CJ A e) (C O 0 0)))
 {i j:Nat} (ap:i<=A.many) (aq:j<=A.many) (ac:∀(a:Nat) s h,A.sts[a]?=E s->o[a]?=E h->t s.id=E (Gu h.b)) (ad:∀k,(∀s∈A.sts,s.id≠k)->t k=O)
 (ae:Az w g (i+1) (AC t e.tx (Gu X.heap.size))) (af:Az w m (j+1) (AC F e.thr (Gu X.heap.size))):
 FB L (w.setCell ⟨n,1,O⟩ (I J ((A.many:Int)+1))) ⟨A.many+1,A.sts++[CJ A e]⟩ os n (o++[⟨X.heap.size,C O 0 0⟩]) vo u g m (AC F e.thr (Gu X.heap.size)):=by
 obtain⟨ag,ah,ai⟩:=h.ob;have aj:L<=X.heap.size:=by have:=h.le;have:=h.box.lt;omega
 have x:=Ch.set r 1<|I J ((A.many:Int)+1);have D:=aa.trans x;have W:=h.len
 have cases:∀(a:Nat) s b,(A.sts++[CJ A e])[a]?=E s->(o++[(⟨X.heap.size,C O 0 0⟩:Hd)])[a]?=E b->(A.sts[a]?=E s/\o[a]?=E b)∨(a=A.sts.length/\s=CJ A e/\b=⟨X.heap.size,C O 0 0⟩):=by
  intro a s b l d;by_cases G:a<A.sts.length
  .rw[Ek G] at l;rw[Ek (by omega)] at d;exact .inl ⟨l,d⟩
  .obtain⟨y,_⟩:=Am.1 l;simp at y;obtain rfl:a=A.sts.length:=by omega
   simp at l;rw[<-W] at d;simp at d;exact .inr ⟨rfl,l.symm,d.symm⟩
 have M:∀(a:Nat) b,(o++[(⟨X.heap.size,C O 0 0⟩:Hd)])[a]?=E b->o[a]?=E b∨(a=o.length/\b=⟨X.heap.size,C O 0 0⟩):=by
  intro a b d;by_cases G:a<o.length
  .rw[Ek G] at d;exact .inl d
  .obtain⟨y,_⟩:=Am.1 d;simp at y;obtain rfl:a=o.length:=by omega
   simp at d;exact .inr ⟨rfl,d.symm⟩
 have Y:∀(a:Nat) b,o[a]?=E b->b.b<X.heap.size:=by
  intro a b d;obtain⟨y,_⟩:=Am.1 d;have l:A.sts[a]?=E (A.sts[a]'(by omega)):=An _;exact(h.st a _ b l d).blk.lt
 refine⟨?_,h.le,⟨ag,D.row ah (by decide) (by decide),ai⟩,?_,by simp[W],?_,?_,h.m1l,h.m2l,h.m12,⟨i+1,AC t e.tx (Gu X.heap.size),by simp only;omega,ae.stays r _ _,?_,?_⟩,⟨j+1,by simp only;omega,af.stays r _ _⟩⟩
 .have:=r.put 1<|I J ((A.many:Int)+1);simpa using this
 .have ak:=Ak S (p:=⟨n,1,O⟩) (r.apartRow S (by decide))<|I J ((A.many:Int)+1);simpa using ak
 .intro a s b l d;rcases cases a s b l d with ⟨l,d⟩|⟨_,rfl,rfl⟩
  .have k:=h.st a s b l d;exact⟨k.le,D.blk k.blk (by decide) (by decide),D.row k.row (by decide) (by decide)⟩
  .refine⟨aj,x.blk ab (by decide) (by decide),?_⟩;exact⟨by simp[CJ,BB],.inl ⟨rfl,by simp[CJ]⟩⟩
 .intro a z b B l q al;rcases M a b l with l|⟨ar,rfl⟩
  .rcases M z B q with q|⟨am,rfl⟩
   .exact h.dif a z b B l q al
   .exact⟨by have:=Y a b l;simp only;omega,λan _ e=>by cases e⟩
  .rcases M z B q with q|⟨am,rfl⟩
   .exact⟨by have:=Y z B q;simp only;omega,λan e=>by cases e⟩
   .omega
 .intro a s b l d;unfold AC;rcases cases a s b l d with ⟨l,d⟩|⟨_,rfl,rfl⟩
  .rw[if_neg (Af s (Ap l))];exact ac a s b l d
  .simp[CJ]
 .intro k Z;unfold AC;rw[if_neg (λao=>Z (CJ A e) (by simp) ao.symm)];exact ad k λs x=>Z s (by simp[x])
theorem QU{P:U->Prop}{w:U}(h:∀X,X=w->P X):P w:=h w rfl
theorem Ach:(prog.info? QG).map (λa=>(a.zero,a.size,a.bytes))=E (E (Q O),1,8):=by kernel_rfl
theorem Aeu{L:Nat}{W:U}{A:Au}{os:List Ob}{z:List Hd}{vo v:N}{F:Int->Option N}(h:FB L W A os n z vo v g m F)(bb:Gw A z F)(Y:AE W)(dd:A.many<400){e:Ev}(ak:Hn os e)(cb:e.ret<=3)(bc:0<=e.tx/\e.tx<=1000000)(bd:0<=e.thr/\e.thr<=1000000)
 (al:e.kind=1) (be:∀s∈A.sts,s.id≠e.tx) (bf:∀s∈A.sts,s.thr=e.thr->s.stand=5) (cc:A.sts.length<=1000):
 Calls prog 141 #[Q (E ⟨n,0,O⟩),.agg (Aj e)] W λbg B=>Px L W ⟨A.many+1,A.sts++[CJ A e]⟩ os n vo g m bg B:=by
 obtain⟨cd,ce,cf,cg,ch⟩:=A1 Ach;obtain⟨Z,aa,rfl⟩:=Ag h.tx;have H:=Af h;have bh:=Af bb;have de:=h.box.lt;have ci:W.cell? ⟨n,1,O⟩=E (I J A.many):=h.box.cell 1;have df:((A.many:Int)==400)=false:=by simp;omega
 have dh:(e.kind==1)=true:=by simpa using al
 have di:(e.kind==2)=false:=by simp[al]
 have am:=Af (λcj Y=>C6 ak cb cj Y);have an:=Af<|Y.below (Zc W (K (Aj e) 44));have ao:=Af<|Ah.new W 44 (Aj e);have dj:=Af ak;have bi:=Af be;have bj:=Af bf;have ap:=Af bc;have aq:=Af bd;have bk:Aj e= #[I J e.kind,I J e.tx,I J e.thr,I J e.obj,I J e.op,I J e.key,I J e.val,I J e.ret]:=rfl;rw[bk] at am an ao|-;clear bk h Y ak bb be bf bc bd al;go_in;go_wp2_with fail;refine(am.o _ an.o).mono ?_;rintro bg w ⟨rfl,ab⟩;have bl:=Af<|(Zc W (K #[I J e.kind,I J e.tx,I J e.thr,I J e.obj,I J e.op,I J e.key,I J e.val,I J e.ret] 44)).trans (ab.mono (by simp));have r:=Af<|(H.o.alloc (K #[I J e.kind,I J e.tx,I J e.thr,I J e.obj,I J e.op,I J e.key,I J e.val,I J e.ret] 44)).call ab;have D:=Af<|ao.o.below ab (by simp);have bm:=D.o.cell 0;have bn:=D.o.cell 1;have bo:=D.o.cell 2;have bp:w.cell? ⟨n,1,O⟩=E (I J A.many):=r.o.box.cell 1;have ck:w.cell? ⟨n,3,O⟩=E (.map (E g)):=r.o.box.cell 3;have cl:w.cell? ⟨n,4,O⟩=E (.map (E m)):=r.o.box.cell 4;have cn:=D.o.lt;have co:=r.o.box.lt;obtain⟨ar,au,cp,av,bq,aw⟩:=r.o.byM;obtain⟨ax,cq,ay⟩:=r.o.buM
 have br:∀b,(B1 QH (.map (E g)) (I J e.tx) true).run prog (w.drewN b)=.ok (.tuple #[Q O,T false]) (w.drewN b):=λb=>by
  have M:=(av.drewN b).look_ok Dc (F4 _) (k:=e.tx) (by have:=ap.o;omega) (by have:=ap.o;omega);rw[aw _ bi.o] at M;exact M
 have bs:∀b,(B1 QH (.map (E m)) (I J e.thr) false).run prog (w.drewN b)=.ok (Q O) (w.drewN b):=λb=>by
  have M:=(ay.drewN b).look Dc (F4 _) (k:=e.thr) (by have:=aq.o;omega) (by have:=aq.o;omega);rw[bh.o.2 _ bj.o] at M;exact M
 have cr:=br 0;have cs:=bs 0;have bt:=Af av;have bu:=Af ay;have ct:=Af bq;have cu:=Af aw;clear ab am an ao ci av ay bq aw;go_wp2;go_quiet (fail);go_wp2;go_quiet (fail);go_upto_region 17 with fail;refine QU (P:=Code.wp _ _ _ _) ?_;intro d j;have G:Hid (FB L d.drew A os n z vo (C Z A.sts.length aa) g m F):=Af<|j▸((r.o.drewN _).drewN _).drewN 1;have az:Hid (Below W.heap.size W d.drew):=Af<|j▸(below_drewN (below_drewN bl.o _) _).drew;have bv:d.drew.cell? ⟨n,1,O⟩=E (I J A.many):=j▸bp;have bw:d.drew.cell? ⟨W.heap.size,0,O⟩=E (I J e.kind):=j▸bm;have bz:d.drew.cell? ⟨W.heap.size,1,O⟩=E (I J e.tx):=j▸bn;have b0:d.drew.cell? ⟨W.heap.size,2,O⟩=E (I J e.thr):=j▸bo;have a0:Hid (Az d.drew g ar au):=Af<|j▸((bt.o.drewN _).drewN _).drewN 1;have a1:Hid (Az d.drew m ax F):=Af<|j▸((bu.o.drewN _).drewN _).drewN 1;have ac:Hid (Ah d.drew W.heap.size AJ #[I J e.kind,I J e.tx,I J e.thr,I J e.obj,I J e.op,I J e.key,I J e.val,I J e.ret]):=Af<|j▸((D.o.drewN _).drewN _).drew;clear j br bs cr cs bt bu r D bl bp ck cl bm bn bo cn co;refine wp_region_still_tail 10 (by kernel_rfl) (by kernel_rfl) ?_
 change wpStill _ _ d.drew (λcv=>wpList _ _ _ _ cv d.drew) _ _
 generalize d.drew=a at G az bv bw bz b0 a0 a1 ac|-;have cw:=ac.o.lt;have a2:=G.o.box.lt;simp only[Io,Ip,IG,Ib]
 iterate 10 still_step
 refine wpStill_nil ?_;go_upto_region 18 with fail;have b1:Hid (Ah (a.alloc (K #[I J e.tx,I J e.thr,I J 1,I J A.many,I J (-1),I J (-1),C O 0 0,I J 1] QF)) a.heap.size QF (Co (CJ A e) (C O 0 0))):=Af<|Ah.new a QF _;have b2:Hid (Ch a (a.alloc (K #[I J e.tx,I J e.thr,I J 1,I J A.many,I J (-1),I J (-1),C O 0 0,I J 1] QF))):=Af<|Ch.of ((Ae _ _).alloc (Aa _) _);have i:Hid (FB L (a.alloc (K #[I J e.tx,I J e.thr,I J 1,I J A.many,I J (-1),I J (-1),C O 0 0,I J 1] QF)) A os n z vo (C Z A.sts.length aa) g m F):=Af<|G.o.alloc _;have b3:a.heap.size<(a.alloc (K #[I J e.tx,I J e.thr,I J 1,I J A.many,I J (-1),I J (-1),C O 0 0,I J 1] QF)).heap.size:=by simp
 have b4:Hid (Az (a.alloc (K #[I J e.tx,I J e.thr,I J 1,I J A.many,I J (-1),I J (-1),C O 0 0,I J 1] QF)) g ar au):=Af<|a0.o.alloc _;have b5:Hid (Az (a.alloc (K #[I J e.tx,I J e.thr,I J 1,I J A.many,I J (-1),I J (-1),C O 0 0,I J 1] QF)) m ax F):=Af<|a1.o.alloc _;have b6:Hid (Ah (a.alloc (K #[I J e.tx,I J e.thr,I J 1,I J A.many,I J (-1),I J (-1),C O 0 0,I J 1] QF)) W.heap.size AJ #[I J e.kind,I J e.tx,I J e.thr,I J e.obj,I J e.op,I J e.key,I J e.val,I J e.ret]):=Af<|ac.o.alloc _;have b7:Hid (Below L W (a.alloc (K #[I J e.tx,I J e.thr,I J 1,I J A.many,I J (-1),I J (-1),C O 0 0,I J 1] QF))):=Af<|(az.o.mono (by have:=H.o.le;omega)).alloc (by have:=G.o.le;omega) _;generalize a.alloc (K #[I J e.tx,I J e.thr,I J 1,I J A.many,I J (-1),I J (-1),C O 0 0,I J 1] QF)=ad at b1 b2 i b3 b4 b5 b6 b7|-;have cx:ad.cell? ⟨n,2,O⟩=E (C Z A.sts.length aa):=i.o.box.cell 2;have a2:=i.o.box.lt;have ae:=Af i.o.tx;go_wp2_with (at_builtin;refine B9 _ rfl (.tmp 88) (.tmp 90) 297 rfl L QG cd (.pointer O) 1 8 underlying297 ce cf cg ch rfl (by decide) (.slice Z A.sts.length aa) A.sts.length (z.map λh=>Gu h.b) rfl (ae.o.alloc _) ⟨ad.heap.size,0,O⟩ 1 1 [.pointer (E ⟨a.heap.size,0,O⟩)] rfl rfl (cell_one_new _ _ _) (by simp[B4]) (by unfold Al;omega) (by omega) (by have:=i.o.le;simp;omega) ?_;intro dk t af S _ cy;obtain⟨l,o,rfl⟩:=Ag af;have q:=Af ((i.o.box.alloc (K #[.pointer (E ⟨a.heap.size,0,O⟩)] QG)).grown S (λa3=>i.o.box.apartRow i.o.tx (by decide) a3.symm));have cz:=q.o.cell 2;have c0:=q.o.frozen 2;have c1:=q.o.lt);go_upto_region 19 with fail;have a4:∀(a5 b:Nat) (f:Int->Option N),Az (ad.alloc (K #[Q (E ⟨a.heap.size,0,O⟩)] QG)) a5 b f->Az t a5 b f:=λa5 b f b8=>b8.grown S (λa3=>(C2.row (ae.o.alloc _) a3.symm).neMap b8 rfl)
 have u:Ah (t.setCell ⟨n,2,O⟩ (C l (A.sts.length+1) o)) n Tg #[vo,I J A.many,C l (A.sts.length+1) o,.map (E g),.map (E m)]:=by
  have:=q.o.put 2<|C l (A.sts.length+1) o;simpa using this
 have a6:(t.setCell ⟨n,2,O⟩ (C l (A.sts.length+1) o)).ownsRow L QG 1 (C l (A.sts.length+1) o) (A.sts.length+1) (z.map (λh=>Gu h.b)++[Gu a.heap.size]):=Ak af (p:=⟨n,2,O⟩) (q.o.apartRow af (by decide)) _;have X:Ch ad (t.setCell ⟨n,2,O⟩ (C l (A.sts.length+1) o)):=((Ch.of ((Ae _ _).alloc (Aa _) _)).trans (Ch.grown (ae.o.alloc _) S)).trans<|Ch.set q.o 2 _;have a7:Az (t.setCell ⟨n,2,O⟩ (C l (A.sts.length+1) o)) g ar au:=(a4 _ _ _ (b4.o.alloc _)).stays q.o 2 _;have a8:Az (t.setCell ⟨n,2,O⟩ (C l (A.sts.length+1) o)) m ax F:=(a4 _ _ _ (b5.o.alloc _)).stays q.o 2 _;have a9:Below L W (t.setCell ⟨n,2,O⟩ (C l (A.sts.length+1) o)):=((b7.o.alloc (by have:=i.o.le;omega) _).grown S (by have:=i.o.le;have:=i.o.box.lt;simp;omega) (λdl c2=>(Ai ae.o c2).1)).setCell (p:=⟨n,2,O⟩) i.o.le _;generalize t.setCell ⟨n,2,O⟩ (C l (A.sts.length+1) o)=x at u a6 X a7 a8 a9|-;obtain⟨dm,dn,dp,c3,dq,dr,ds,dt,T⟩:=two (L:=L) (Z:=x.drew) (k1:=e.tx) (k2:=e.thr) (a7.drewN 1) (a8.drewN 1) H.o.m12 H.o.m1l H.o.m2l (by unfold Al;omega) (by unfold Al;omega) ap.o aq.o<|Gu a.heap.size;have y:=Af T;have c4:=T.r1;have b9:=T.r2;have c5:=T.r3;have ca:=T.r4;unfold Gu at b9 ca;simp only[goInt] at c4 b9 c5 ca;have ba:=X.blk b6.o (by decide) (by decide);have ag:x.cell? ⟨n,3,O⟩=E (.map (E g)):=u.cell 3;have ah:x.cell? ⟨n,4,O⟩=E (.map (E m)):=u.cell 4;have ai:x.cell? ⟨W.heap.size,1,O⟩=E (I J e.tx):=ba.cell 1;have aj:x.cell? ⟨W.heap.size,2,O⟩=E (I J e.thr):=ba.cell 2;have du:=T.c1 _ _ ag;have dv:=T.c1 _ _ ah;have dw:=T.c1 _ _ ai;have dx:=T.c1 _ _ aj;have dy:=T.c2 _ _ ag;have dz:=T.c2 _ _ ah;have d0:=T.c2 _ _ ai;have d1:=T.c2 _ _ aj;have d2:=T.c3 _ _ ag;have d3:=T.c3 _ _ ah;have d4:=T.c3 _ _ ai;have Qt:=T.c3 _ _ aj;have d5:=T.c4 _ _ ag;have d6:=T.c4 _ _ ah;have d7:=T.c4 _ _ ai;have d8:=T.c4 _ _ aj;have c6:=Af<|b2.o.trans X;have c7:=Af<|X.blk b1.o (by decide) (by decide);have c8:=Af u;have c9:=Af a6;have da:=Af a9;have d9:c3.cell? ⟨n,1,O⟩=E (I J A.many):=T.c4 _ _<|u.cell 1;have ea:=(T.box _ _ _ u).frozen 1;have eb:=(T.box _ _ _ u).lt
 go_region_held3 (λB=>B.cell? ⟨n,3,O⟩=E (.map (E g))/\B.cell? ⟨n,4,O⟩=E (.map (E m))/\B.cell? ⟨W.heap.size,1,O⟩=E (I J e.tx)/\B.cell? ⟨W.heap.size,2,O⟩=E (I J e.thr)) (go_keep) (fail)
 go_wp2;go_ret;have db:Ch x x.drew:=Ch.of (Ae _ _).drew;have dc:=G.o.add bi.o ((c6.o.trans db).trans y.o.st) (y.o.box _ _ _ c8.o.drew) (y.o.row _ _ _ _ _ _ c9.o.drew) (y.o.box _ _ _ c7.o.drew) cp cq ct.o cu.o y.o.g1 y.o.g2;exact⟨rfl,_,_,_,dc,bh.o.add G.o.len bj.o _ _ (A.many+1),(da.o.drew.trans y.o.below).setCell (p:=⟨n,1,O⟩) H.o.le _⟩
def DF(W:U)(r:Ending)(w':U):Prop:=(∃a,r=R a/\Gk a)/\Below W.heap.size W w'
theorem TC{L:Nat}{W:U}{A:Au}{os:List Ob}{n:Nat}{j:List Hd}{vo v:N}{g m:Nat}{F:Int->Option N}(h:FB L W A os n j vo v g m F)(z:Gw A j F)(b:AE W)(ap:A.many<400){e:Ev}(t:Hn os e)(af:e.ret<=3)(B:0<=e.tx/\e.tx<=1000000)(D:e.kind=1->0<=e.thr/\e.thr<=100)(l:e.kind=1){i:Nat}{s:St}(G:A.sts[i]?=E s)(M:s.id=e.tx):
 Calls prog 141 #[Q (E ⟨n,0,O⟩),.agg (Aj e)] W λS ag=>DF W S ag:=by
 obtain⟨aq,ar,rfl⟩:=Ag h.tx;have H:=Af h;have au:=Af z;have av:=h.box.lt;have ah:W.cell? ⟨n,1,O⟩=E (I J A.many):=h.box.cell 1;have aw:((A.many:Int)==400)=false:=by simp;omega
 have ax:(e.kind==1)=true:=by simpa using l
 have ay:(e.kind==2)=false:=by simp[l]
 have u:=Af (λai b=>C6 t af ai b);have w:=Af (b.below (Zc W (K (Aj e) 44)));have x:=Af (Ah.new W 44 (Aj e));have aj:=Af b;have az:=Af t;have X:=Af B;have a0:=Af (D l);have Y:Aj e= #[I J e.kind,I J e.tx,I J e.thr,I J e.obj,I J e.op,I J e.key,I J e.val,I J e.ret]:=rfl;rw[Y] at u w x|-;have Z:=Af G;have ak:=Af M;clear Y h b t z B D l G M;go_in;go_wp2_with fail;refine(u.o _ w.o).mono ?_;rintro S d ⟨rfl,o⟩;have aa:=Af ((Zc W (K #[I J e.kind,I J e.tx,I J e.thr,I J e.obj,I J e.op,I J e.key,I J e.val,I J e.ret] 44)).trans (o.mono (by simp)));have a:=Af ((H.o.alloc (K #[I J e.kind,I J e.tx,I J e.thr,I J e.obj,I J e.op,I J e.key,I J e.val,I J e.ret] 44)).call o);have p:=Af (x.o.below o (by simp));have a1:=p.o.cell 0;have a2:=p.o.cell 1;have a3:=p.o.cell 2;have a4:d.cell? ⟨n,1,O⟩=E (I J A.many):=a.o.box.cell 1;have a5:d.cell? ⟨n,3,O⟩=E (.map (E g)):=a.o.box.cell 3;have a6:d.cell? ⟨n,4,O⟩=E (.map (E m)):=a.o.box.cell 4;have a7:=p.o.lt;have a8:=a.o.box.lt;obtain⟨a9,ba,bb,ab,ac,al⟩:=a.o.byM;obtain⟨bc,bd,am⟩:=a.o.buM
 have y:∃an,∀q,(B1 QH (.map (E g)) (I J e.tx) true).run prog (d.drewN q)=.ok (.tuple #[Q (E an),T true]) (d.drewN q):=by
  obtain⟨r,ao⟩:∃r,j[i]?=E r:=⟨j[i]'(by rw[a.o.len];exact(Am.1 Z.o).1),An _⟩;refine⟨⟨r.b,0,O⟩,λq=>?_⟩;have ad:=(ab.drewN q).look_ok Dc (F4 _) (k:=e.tx) (by have:=X.o;omega) (by have:=X.o;omega);have ae:=ac i s r Z.o ao;rw[ak.o] at ae;rw[ae] at ad;exact ad
 obtain⟨be,y⟩:=y;have bf:=y 0;obtain⟨bg,bh⟩:=(aj.o.below aa.o).errs 25 (by simp);clear o u w x ah ab am ac al;go_wp2_with fail;go_quiet (fail);go_wp2_with fail;go_ret;exact⟨⟨_,rfl,_,_,rfl⟩,below_drewN aa.o _⟩
theorem WL{L:Nat}{W:U}{A:Au}{os:List Ob}{n:Nat}{o:List Hd}{vo v:N}{g m:Nat}{F:Int->Option N}(h:FB L W A os n o vo v g m F)(B:Gw A o F)(j:AE W)(ay:A.many<400){e:Ev}(u:Hn os e)(aj:e.ret<=3)(D:0<=e.tx/\e.tx<=1000000)(G:e.kind=1->0<=e.thr/\e.thr<=100)(p:e.kind=1)(M:∀s∈A.sts,s.id≠e.tx){i:Nat}{s:St}(S:A.sts[i]?=E s)(X:s.thr=e.thr)(Y:s.stand≠5):
 Calls prog 141 #[Q (E ⟨n,0,O⟩),.agg (Aj e)] W λZ ak=>DF W Z ak:=by
 obtain⟨az,a0,rfl⟩:=Ag h.tx;have H:=Af h;have al:=Af B;have a1:=h.box.lt;have am:W.cell? ⟨n,1,O⟩=E (I J A.many):=h.box.cell 1;have a2:((A.many:Int)==400)=false:=by simp;omega
 have a3:(e.kind==1)=true:=by simpa using p
 have a4:(e.kind==2)=false:=by simp[p]
 have w:=Af (λan j=>C6 u aj an j);have x:=Af (j.below (Zc W (K (Aj e) 44)));have y:=Af (Ah.new W 44 (Aj e));have ao:=Af j;have a5:=Af u;have aa:=Af D;have ab:=Af (G p);have ac:Aj e= #[I J e.kind,I J e.tx,I J e.thr,I J e.obj,I J e.op,I J e.key,I J e.val,I J e.ret]:=rfl;rw[ac] at w x y|-;have ad:=Af S;have ap:=Af X;have aq:=Af Y;have ar:=Af M;clear ac h j u B D G p S X Y M;go_in;go_wp2_with fail;refine(w.o _ x.o).mono ?_;rintro Z b ⟨rfl,q⟩;have ae:=Af ((Zc W (K #[I J e.kind,I J e.tx,I J e.thr,I J e.obj,I J e.op,I J e.key,I J e.val,I J e.ret] 44)).trans (q.mono (by simp)));have d:=Af ((H.o.alloc (K #[I J e.kind,I J e.tx,I J e.thr,I J e.obj,I J e.op,I J e.key,I J e.val,I J e.ret] 44)).call q);have r:=Af (y.o.below q (by simp));have a6:=r.o.cell 0;have a7:=r.o.cell 1;have a8:=r.o.cell 2;have a9:b.cell? ⟨n,1,O⟩=E (I J A.many):=d.o.box.cell 1;have ba:b.cell? ⟨n,3,O⟩=E (.map (E g)):=d.o.box.cell 3;have bb:b.cell? ⟨n,4,O⟩=E (.map (E m)):=d.o.box.cell 4;have bc:=r.o.lt;have bd:=d.o.box.lt;obtain⟨be,bf,bg,af,au,ag⟩:=d.o.byM;obtain⟨bh,bi,ah⟩:=d.o.buM
 have av:∀a,(B1 QH (.map (E g)) (I J e.tx) true).run prog (b.drewN a)=.ok (.tuple #[Q O,T false]) (b.drewN a):=λa=>by
  have l:=(af.drewN a).look_ok Dc (F4 _) (k:=e.tx) (by have:=aa.o;omega) (by have:=aa.o;omega);rw[ag _ ar.o] at l;exact l
 have z:∃aw,∀a,(B1 QH (.map (E m)) (I J e.thr) false).run prog (b.drewN a)=.ok (Q (E aw)) (b.drewN a):=by
  obtain⟨t,ax⟩:∃t,o[i]?=E t:=⟨o[i]'(by rw[d.o.len];exact(Am.1 ad.o).1),An _⟩;refine⟨⟨t.b,0,O⟩,λa=>?_⟩;have l:=(ah.drewN a).look Dc (F4 _) (k:=e.thr) (by have:=ab.o;omega) (by have:=ab.o;omega);have ai:=al.o.1 i s t ad.o ax aq.o;rw[ap.o] at ai;rw[ai] at l;exact l
 obtain⟨bj,z⟩:=z;have bk:=av 0;have bl:=z 0;obtain⟨bm,bn⟩:=(ao.o.below ae.o).errs 26 (by simp);clear q w x y am af ah au ag;go_wp2_with fail;go_quiet (fail);go_wp2_with fail;go_quiet (fail);go_wp2_with fail;go_ret;exact⟨⟨_,rfl,_,_,rfl⟩,below_drewN ae.o _⟩
theorem WM{L:Nat}{W:U}{A:Au}{os:List Ob}{n:Nat}{G:List Hd}{vo v:N}{g m:Nat}{F:Int->Option N}(h:FB L W A os n G vo v g m F)(ad:Gw A G F)(l:AE W)(bc:A.many<400){e:Ev}(o:Hn os e)(ar:e.ret<=3)(ae:0<=e.tx/\e.tx<=1000000)(au:e.kind=1->0<=e.thr/\e.thr<=100)(af:e.kind≠1)(ag:∀s∈A.sts,s.id≠e.tx):
 Calls prog 141 #[Q (E ⟨n,0,O⟩),.agg (Aj e)] W λu M=>DF W u M:=by
 have av:=Af ag;have H:=Af h;have bd:=Af ad;have be:=h.box.lt;have aw:W.cell? ⟨n,1,O⟩=E (I J A.many):=h.box.cell 1;have bf:((A.many:Int)==400)=false:=by simp;omega
 have bg:(e.kind==1)=false:=by simpa using af
 have S:=Af (λw l=>C6 o ar w l);have ax:=Af l;have X:=Af (l.below (Zc W (K (Aj e) 44)));have Y:=Af (Ah.new W 44 (Aj e));have ay:=Af o;have ah:=Af ae;have Z:Aj e= #[I J e.kind,I J e.tx,I J e.thr,I J e.obj,I J e.op,I J e.key,I J e.val,I J e.ret]:=rfl;have bh:=Af Z;rw[Z] at S X Y|-;clear Z h l o ad ae au af ag;go_in;go_wp2_with fail;refine(S.o _ X.o).mono ?_;rintro u p ⟨rfl,x⟩;have ai:=Af ((Zc W (K #[I J e.kind,I J e.tx,I J e.thr,I J e.obj,I J e.op,I J e.key,I J e.val,I J e.ret] 44)).trans (x.mono (by simp)));have b:=Af ((H.o.alloc (K #[I J e.kind,I J e.tx,I J e.thr,I J e.obj,I J e.op,I J e.key,I J e.val,I J e.ret] 44)).call x);have i:=Af (Y.o.below x (by simp));have az:=i.o.cell 0;have a0:p.cell? ⟨n,1,O⟩=E (I J A.many):=b.o.box.cell 1;have a1:=i.o.lt;have a2:=b.o.box.lt;clear x S X Y aw
 go_upto_if 23 with fail
 go_cut [45] from 24 to 46 (λ_ a3=>∃j,a3=p.drewN j)
 case first=>
  by_cases q:e.kind=2
  .obtain⟨aa,a4,y,aj⟩:=ay.o.2 q;have a5:(e.kind==2)=true:=by simpa using q
   obtain⟨bi,z,ak⟩:=b.o.ob;obtain⟨a,ab⟩:∃a:Nat,e.obj=(a:Int):=⟨e.obj.toNat,by omega⟩;rw[ab,D6] at y;have al:a<os.length:=(Am.1 y).1;obtain⟨a6,a7,rfl⟩:=Ag z
   obtain⟨d,a8,bj⟩:∃d,a6=E ⟨d,0,O⟩/\d<p.heap.size:=by
    rcases z.2 with ⟨B,bk⟩|⟨d,bl,cur,B,bm,o,_⟩
    .omega
    .injection B with B;exact⟨d,B,AB o⟩
   subst a8
   have bn:p.cell? ⟨d,a*2,O⟩=E (I J aa.kind):=by
    rw[z.cellAt (a*2) (by omega)];exact ak a aa y
   have bo:p.cell? ⟨n,0,O⟩=E (C (E ⟨d,0,O⟩) os.length a7):=b.o.box.cell 0;have a9:=i.o.cell 3;have bp:=i.o.cell 4;rw[ab] at a9;have bq:(0:Int)<=(a:Int):=by omega
   have br:(a:Int)<(os.length:Int):=by omega
   have bs:decide (os.length<=a)=false:=by simpa using al
   have am:=Af (λw=>(GD e.op w).mono (R':=λu M=>u=R (I J aa.kind)/\M=w) (λ_ _ r=>⟨by rw[r.1,aj],r.2.symm⟩));clear a4 y aj z ak ab q al;go_wp2_with fail;go_quiet (fail);go_wp2_with fail;go_quiet ((go_at_call 65;first|exact Bw (am.o _)|exact EY (am.o _)));go_wp2_with fail
   go_meet
   exact⟨_,Jy _ _ _⟩
  .have a5:(e.kind==2)=false:=by simpa using q
   clear q;go_wp2_with fail
   go_meet
   exact⟨0,rfl⟩
 case rest=>
 obtain⟨D,t⟩:=hcut;obtain⟨bt,bu,bv,an,ba,ao⟩:=b.o.byM;have ap:Hid (FB L wc A os n G vo v g m F):=Af (t▸b.o.drewN D);have ac:Hid (Ah wc W.heap.size AJ #[I J e.kind,I J e.tx,I J e.thr,I J e.obj,I J e.op,I J e.key,I J e.val,I J e.ret]):=Af (t▸i.o.drewN D);have aq:Hid (Below W.heap.size W wc):=Af (t▸below_drewN ai.o D)
 have bb:∀j,(B1 QH (.map (E g)) (I J e.tx) true).run prog (wc.drewN j)=.ok (.tuple #[Q O,T false]) (wc.drewN j):=λj=>by
  subst t;have r:=((an.drewN D).drewN j).look_ok Dc (F4 _) (k:=e.tx) (by have:=ah.o;omega) (by have:=ah.o;omega);rw[ao _ av.o] at r;exact r
 have bw:wc.cell? ⟨n,3,O⟩=E (.map (E g)):=ap.o.box.cell 3;have bz:=ac.o.cell 1;have b0:=ac.o.cell 0;have b1:=ac.o.lt;have b2:=ap.o.box.lt;have b3:=bb 0;obtain⟨b4,b5⟩:=(ax.o.below aq.o).errs 16 (by simp);clear t ba ao an b i ai az a0 a1 a2;go_wp2_with fail;go_quiet (fail);go_wp2_with fail;go_ret;exact⟨⟨_,rfl,_,_,rfl⟩,below_drewN aq.o _⟩
theorem TD{L:Nat}{W:U}{A:Au}{os:List Ob}{n:Nat}{G:List Hd}{vo v:N}{k g:Nat}{F:Int->Option N}(h:FB L W A os n G vo v k g F)(a2:Gw A G F)(M:AE W)(ct:A.many<400){e:Ev}(u:Hn os e)(bw:e.ret<=3)(a3:0<=e.tx/\e.tx<=1000000)(bz:e.kind=1->0<=e.thr/\e.thr<=100)(an:e.kind≠1){i:Nat}{s:St}{w:Hd}(a4:A.sts[i]?=E s)(a5:G[i]?=E w)(a6:s.id=e.tx)(a7:s.stand∉Bc e.kind):
 Calls prog 141 #[Q (E ⟨n,0,O⟩),.agg (Aj e)] W λo x=>DF W o x:=by
 have b0:=Af a7;have H:=Af h;have cu:=Af a2;have cv:=h.box.lt;have b1:W.cell? ⟨n,1,O⟩=E (I J A.many):=h.box.cell 1;have cw:((A.many:Int)==400)=false:=by simp;omega
 have cx:(e.kind==1)=false:=by simpa using an
 have ao:=Af (λy M=>C6 u bw y M);have b2:=Af M;have b3:=Af (Ji u an);have ap:=Af (M.below (Zc W (K (Aj e) 44)));have aq:=Af (Ah.new W 44 (Aj e));have a8:=Af u;have a9:=Af a4;have ba:=Af a5;have bb:=Af a3;have b4:=Af a6;have ar:Aj e= #[I J e.kind,I J e.tx,I J e.thr,I J e.obj,I J e.op,I J e.key,I J e.val,I J e.ret]:=rfl;have cy:=Af ar;rw[ar] at ao ap aq|-;clear ar h M u a2 a4 a5 a3 bz a6 an a7;go_in;go_wp2_with fail;refine(ao.o _ ap.o).mono ?_;rintro o S ⟨rfl,af⟩;have bc:=Af ((Zc W (K #[I J e.kind,I J e.tx,I J e.thr,I J e.obj,I J e.op,I J e.key,I J e.val,I J e.ret] 44)).trans (af.mono (by simp)));have r:=Af ((H.o.alloc (K #[I J e.kind,I J e.tx,I J e.thr,I J e.obj,I J e.op,I J e.key,I J e.val,I J e.ret] 44)).call af);have z:=Af (aq.o.below af (by simp));have bd:=z.o.cell 0;have be:S.cell? ⟨n,1,O⟩=E (I J A.many):=r.o.box.cell 1;have b5:=z.o.lt;have b6:=r.o.box.lt;clear af ao ap aq b1
 go_upto_if 23 with fail
 go_cut [45] from 24 to 46 (λ_ au=>∃b,au=S.drewN b)
 case first=>
  by_cases X:e.kind=2
  .obtain⟨av,b7,ag,bf⟩:=a8.o.2 X;have b8:(e.kind==2)=true:=by simpa using X
   obtain⟨cz,ah,bg⟩:=r.o.ob;obtain⟨d,Y⟩:∃d:Nat,e.obj=(d:Int):=⟨e.obj.toNat,by omega⟩;rw[Y,D6] at ag;have bh:d<os.length:=(Am.1 ag).1;obtain⟨b9,ca,rfl⟩:=Ag ah
   obtain⟨t,cb,c0⟩:∃t,b9=E ⟨t,0,O⟩/\t<S.heap.size:=by
    rcases ah.2 with ⟨ai,c1⟩|⟨t,c2,cur,ai,c3,u,_⟩
    .omega
    .injection ai with ai;exact⟨t,ai,AB u⟩
   subst cb
   have c4:S.cell? ⟨t,d*2,O⟩=E (I J av.kind):=by
    rw[ah.cellAt (d*2) (by omega)];exact bg d av ag
   have c5:S.cell? ⟨n,0,O⟩=E (C (E ⟨t,0,O⟩) os.length ca):=r.o.box.cell 0;have bi:=z.o.cell 3;have cc:=z.o.cell 4;rw[Y] at bi;have c6:(0:Int)<=(d:Int):=by omega
   have c7:(d:Int)<(os.length:Int):=by omega
   have bj:decide (os.length<=d)=false:=by simpa using bh
   have bk:=Af (λy=>(GD e.op y).mono (R':=λo x=>o=R (I J av.kind)/\x=y) (λ_ _ j=>⟨by rw[j.1,bf],j.2.symm⟩));clear b7 ag bf ah bg Y X bh;go_wp2_with fail;go_quiet (fail);go_wp2_with fail;go_quiet ((go_at_call 65;first|exact Bw (bk.o _)|exact EY (bk.o _)));go_wp2_with fail
   go_meet
   exact⟨_,Jy _ _ _⟩
  .have b8:(e.kind==2)=false:=by simpa using X
   clear X;go_wp2_with fail
   go_meet
   exact⟨0,rfl⟩
 case rest=>
 obtain⟨aj,Z⟩:=hcut;obtain⟨c8,c9,da,bl,bm,_⟩:=r.o.byM;have ak:Hid (FB L wc A os n G vo v k g F):=Af (Z▸r.o.drewN aj);have aa:Hid (Ah wc W.heap.size AJ #[I J e.kind,I J e.tx,I J e.thr,I J e.obj,I J e.op,I J e.key,I J e.val,I J e.ret]):=Af (Z▸z.o.drewN aj);have bn:Hid (Below W.heap.size W wc):=Af (Z▸below_drewN bc.o aj)
 have bo:∀b,(B1 QH (.map (E k)) (I J e.tx) true).run prog (wc.drewN b)=.ok (.tuple #[Q (E ⟨w.b,0,O⟩),T true]) (wc.drewN b):=λb=>by
  subst Z;have j:=((bl.drewN aj).drewN b).look_ok Dc (F4 _) (k:=e.tx) (by have:=bb.o;omega) (by have:=bb.o;omega);have bp:=bm i s w a9.o ba.o;rw[b4.o] at bp;rw[bp] at j;exact j
 have cd:wc.cell? ⟨n,3,O⟩=E (.map (E k)):=ak.o.box.cell 3;have bq:=aa.o.cell 1;have ce:=aa.o.cell 0;have cf:=aa.o.lt;have cg:=ak.o.box.lt;have ch:=bo 0;clear Z bm bl r z bc bd be b5 b6;go_wp2_with fail;go_quiet (fail);go_upto_region 24 with fail;obtain⟨l,ac⟩:∃l,wc.drewN nq=l:=⟨_,rfl⟩;rw[ac];have ci:=Af (λy=>Ke y);have br:Hid (FB L l A os n G vo v k g F):=Af (ac▸ak.o.drewN nq);have ad:Hid (Ah l W.heap.size AJ #[I J e.kind,I J e.tx,I J e.thr,I J e.obj,I J e.op,I J e.key,I J e.val,I J e.ret]):=Af (ac▸aa.o.drewN nq);have aw:Hid (Below W.heap.size W l):=Af (ac▸below_drewN bn.o nq);have k0:l.cell? ⟨W.heap.size,0,O⟩=E (I J e.kind):=ad.o.cell 0;have cj:W.heap.size<l.heap.size:=ad.o.lt;clear ac ce bq cd cg cf bo ch ak aa bn
 go_cut [8] (λck au=>WI l e.kind ck au)
 case first=>
  go_region_with (go_at_call 223;go_loud (refine(ci.o _).mono ?_);rintro o cl ⟨db,rfl,ax⟩;obtain⟨dc,dd,de,df,bs,B,dh,di⟩:=ax.look b3.o (KV a8.o);have ay:=Af B;have bt:=Af bs;clear bs;have ae:=Af ax.below;have k1:=ae.o.cell (p:=⟨W.heap.size,0,O⟩) (by simp;omega);have dj:W.heap.size<cl.heap.size:=(by have j:=ae.o.size;simp at j;omega);clear B ax;(try (have D:=(Ah.new l.drew Kz #[C O 0 0,.nilFunc]).below ae.o (by simp);have cn:=D.cell 0;have bj:=D.cell 1;have co:=D.frozen 0;have cp:=D.frozen 1;have cq:=D.lt;simp only[Ir] at cn bj co cp cq)))
  all_goals go_wp2_with fail
  all_goals go_meet
  all_goals (first|exact WJ bt.o ay.o ae.o|exact WK bt.o ay.o ae.o D)
 case rest=>
 obtain⟨dk,bu,b,dl,dm,az,rfl,dn,al,B,am⟩:=hcut;obtain⟨q,rfl⟩:∃q:U,q=wc:=⟨_,rfl⟩;have a0:=Af (br.o.call am);have m:=Af (ad.o.below am ad.o.lt);have bv:=Af (aw.o.trans (am.mono aw.o.size));have a1:=Af (a0.o.st i s w a9.o ba.o);have ay:=Af B;have dp:=al.lt;have dq:=al.cell 0;have dr:=al.cell 1;have ds:q.cell? ⟨w.b,7,O⟩=E (I J s.stand):=a1.o.blk.cell 7;have dt:q.cell? ⟨w.b,1,O⟩=E (I J s.thr):=a1.o.blk.cell 1;have du:=a1.o.blk.lt;have be:q.cell? ⟨n,1,O⟩=E (I J A.many):=a0.o.box.cell 1;have dv:=a0.o.box.lt;have bd:=m.o.cell 0;have bq:=m.o.cell 1;have dw:=m.o.cell 2;have bi:=m.o.cell 3;have cc:=m.o.cell 4;have dx:=m.o.cell 5;have dy:=m.o.cell 6;have dz:=m.o.cell 7;have d0:=m.o.lt
 have cr:Hid (∀ab,Calls prog 224 #[C (E ⟨bu,0,O⟩) b b,I J s.stand] (q.drewN ab) λo x=>o=R (T false)/\x=q.drewN ab):=Af (λab=>by
  obtain⟨d1,d2,a,_,cs,_⟩:=B;injection a with a;injection a with a;injection a with a _;injection a with a _ _;injection a with a;injection a with a;subst a
  have j:=Tryz.slices_Contains_int bu 0 b b (Bc e.kind) s.stand (q.drewN ab) (by omega) (by have:b<=4:=(by rw[az];unfold Bc;split<;>(try split)<;>(try split)<;>(try split)<;>simp);omega) (λd Y=>by
   have j:=(cs.drewN ab).cell (0+d);rw[j];rw[Ej];simp[Y])
  refine j.mono ?_;rintro o x ⟨rfl,rfl⟩;refine⟨?_,rfl⟩;rw[az,Ex];simp[b0.o])
 obtain⟨d3,d4⟩:=(b2.o.below bv.o).errs 24 (by simp);clear B al am az br ad aw k0 cj;go_wp2_with fail;go_quiet ((go_at_call 224;exact EY (cr.o _)));go_wp2_with fail;go_ret;exact⟨⟨_,rfl,_,_,rfl⟩,below_drewN bv.o _⟩
theorem Aci{L:Nat}{W:U}{s:St}{v:N}(h:DS L W s ⟨b,v⟩)(a3:s.deeds.length<=1000)(e:Ev)(n:Int){a:List Dd}{d:Dd}(r:s.deeds=a++[d])(D:Dt d.op e.ret=false)(F:AE W):
 Calls prog 266 #[b,.agg (Aj e),n] W λi z=>DF W i z:=by
 have G:s.deeds.length=a.length+1:=by rw[r];simp
 obtain⟨g,j,cur,ae,M,t,a4,a5,a6,A⟩:∃g j cur,v=C (E ⟨g,0,O⟩) (a.length+1) j/\L<=g/\W.heap[g]?=E (K cur Bu (0,0))/\a.length+1<=j/\j<=Al/\cur.size=j*8/\cur.toList.take ((a.length+1)*8)=BB s.deeds:=by
  have u:=h.row;rw[G] at u;rcases u.2 with ⟨S,a7⟩|⟨g,j,cur,S,M,t,af,ag,ah,ai⟩
  .omega
  .exact⟨g,j,cur,S,M,t,af,ag,ah,ai⟩
 have m:Ah W g Bu cur:=t
 have q:∀i,i<8->W.cell? ⟨g,a.length*8+i,O⟩=(Bl d)[i]?:=λi u=>by
  have aj:=Fc (f:=λd=>(Bl d).toList) (n:=8) (λak=>FI ak) s.deeds a.length d (by rw[r];simp) i u;rw[m.cell,<-Array.getElem?_toList];have al:(cur.toList.take ((a.length+1)*8))[a.length*8+i]?=cur.toList[a.length*8+i]?:=List.getElem?_take_of_lt (by omega);rw[<-al,A];simpa[BB] using aj
 have w:∀i,W.frozen? ⟨g,a.length*8+i,O⟩=false:=λi=>m.frozen _;have X:W.cell? ⟨g,a.length*8+1,O⟩=E d.op:=q 1 (by omega);have Y:W.cell? ⟨g,a.length*8+4,O⟩=E d.ret:=q 4 (by omega);have Z:W.cell? ⟨g,a.length*8+5,O⟩=E d.got:=q 5 (by omega);have aa:W.cell? ⟨g,a.length*8+7,O⟩=E d.back:=q 7 (by omega);have am:=w 4;have an:=w 5;have ao:=w 7;subst ae;have ab:=h.blk.cell 7;have ap:=h.blk.frozen 7;have aq:W.cell? ⟨b,6,O⟩=E (C g (a.length+1) j):=h.blk.cell 6;have a8:b<W.heap.size:=h.blk.lt;have ar:=m.lt;have a9:b≠g:=h.blk.apart m (by decide);have au:=Af F;clear F;have H:=Af h;have ba:=Af r;have k:=Af m;have bb:=Af A;have hF:=λx=>N6 d.op e.ret x;rw[D] at hF;have ac:=Af (λx=>(hF x).mono (R':=λi z=>i=R false/\z=x) (λ_ _ ad=>⟨ad.1,ad.2.symm⟩));have av:=Af (show a.length<=1000 by omega);clear hF h r D G t m q w A;simp only[Co] at ab;have bc:a.length<=1000:=by have:=av.o;omega
 have bd:(0:Int)<=(a.length:Int):=by omega
 have be:(a.length:Int)<((a.length:Int)+1):=by omega
 have bf:IntKind.i64.wrap (a.length:Int)=(a.length:Int):=by rw[Ey];omega
 unfold Aj;go_in;go_wp2_with fail;go_quiet (fail);go_wp2_with fail;have o:DS L ((W.alloc (K #[e.kind,e.tx,e.thr,e.obj,e.op,e.key,e.val,e.ret] AJ)).drewN nq) s ⟨b,C g (a.length+1) j⟩:=⟨H.o.le,(H.o.alloc _).blk,(H.o.alloc _).row⟩;have l:Ah ((W.alloc (K #[e.kind,e.tx,e.thr,e.obj,e.op,e.key,e.val,e.ret] AJ)).drewN nq) g Bu cur:=k.o.alloc _;have p:Ah ((W.alloc (K #[e.kind,e.tx,e.thr,e.obj,e.op,e.key,e.val,e.ret] AJ)).drewN nq) W.heap.size AJ #[e.kind,e.tx,e.thr,e.obj,e.op,e.key,e.val,e.ret]:=Ah.new W AJ _;have B:Ay (b::g::[]) W ((W.alloc (K #[e.kind,e.tx,e.thr,e.obj,e.op,e.key,e.val,e.ret] AJ)).drewN nq):=((Ay.refl _ W).alloc _).drewN nq;have aw:((W.alloc (K #[e.kind,e.tx,e.thr,e.obj,e.op,e.key,e.val,e.ret] AJ)).drewN nq).cell? ⟨g,a.length*8+1,O⟩=E d.op:=(k.o.alloc _).cell _|>.trans ((k.o.cell _).symm.trans X);have ax:((W.alloc (K #[e.kind,e.tx,e.thr,e.obj,e.op,e.key,e.val,e.ret] AJ)).drewN nq).cell? ⟨g,a.length*8+4,O⟩=E d.ret:=(k.o.alloc _).cell _|>.trans ((k.o.cell _).symm.trans Y);have ay:((W.alloc (K #[e.kind,e.tx,e.thr,e.obj,e.op,e.key,e.val,e.ret] AJ)).drewN nq).cell? ⟨g,a.length*8+5,O⟩=E d.got:=(k.o.alloc _).cell _|>.trans ((k.o.cell _).symm.trans Z);have az:((W.alloc (K #[e.kind,e.tx,e.thr,e.obj,e.op,e.key,e.val,e.ret] AJ)).drewN nq).cell? ⟨g,a.length*8+7,O⟩=E d.back:=(k.o.alloc _).cell _|>.trans ((k.o.cell _).symm.trans aa);have y:Below W.heap.size W ((W.alloc (K #[e.kind,e.tx,e.thr,e.obj,e.op,e.key,e.val,e.ret] AJ)).drewN nq):=below_drewN ((Ae _ _).alloc (Aa _) _) nq;obtain⟨bg,a0⟩:=(au.o.below y).errs 27 (by simp);generalize ((W.alloc (K #[e.kind,e.tx,e.thr,e.obj,e.op,e.key,e.val,e.ret] AJ)).drewN nq)=bh at o l p B aw ax ay az y a0|-;have a1:=o.blk.cell 7;have bi:=o.blk.frozen 7;have bj:=o.blk.lt;have bk:=l.lt;have bl:=p.lt;have am:=l.frozen<|a.length*8+4;have an:=l.frozen<|a.length*8+5;have ao:=l.frozen<|a.length*8+7;have bm:=p.cell 6;have bn:=p.cell 7;have bo:b≠W.heap.size:=by omega
 have bp:g≠W.heap.size:=by omega
 have a2:=Af y;clear y;have o:=Af o;have l:=Af l;have p:=Af p;have B:=Af B;simp only[Co] at a1;clear X Y Z aa ab ap aq ar;go_quiet ((go_at_call 267;first|exact Bw (ac.o _)|exact EY (ac.o _)));go_wp2_with fail;go_ret;exact⟨⟨_,rfl,_,_,rfl⟩,below_drewN a2.o _⟩
theorem WN{L k:Nat}{Z:U}{n:Nat}{e:Ev}{s:St}{b:Nat}{u fn v:N}(p:e.kind=3)(q:Dv k Z (.agg #[v,fn]) e.kind)(h:DS L Z s ⟨b,u⟩)(r:s.deeds.length<=1000){t:List Dd}{d:Dd}(w:s.deeds=t++[d])(x:Dt d.op e.ret=false)(y:AE Z):
 ∃i j,fn=.func (.func i) #[] j/\(∀(l:Array N) (m:U),(EB i l).run prog m=.ok (.enter i l) m)/\Calls prog i (#[Q (E ⟨b,0,O⟩),.agg (Aj e),I J n]++j) Z λz A=>DF Z z A:=by
 obtain⟨D,B,a,_,_,o⟩:=q;obtain rfl:fn=B:=by injection a with a;injection a with a;injection a with _ a;injection a
 rw[p] at o;rcases o with ⟨g,_⟩|⟨_,rfl⟩|⟨g,_⟩|⟨g,_⟩|⟨g,_⟩
 .exact absurd g (by decide)
 .exact⟨_,_,rfl,Sa,Aci h r e n w x y⟩
 all_goals exact absurd g (by decide)
theorem ZZ{L:Nat}{W:U}{A:Au}{os:List Ob}{n:Nat}{w:List Hd}{vo v:N}{k g:Nat}{F:Int->Option N}(h:FB L W A os n w vo v k g F)(bd:Gw A w F)(M:AE W)(d8:A.many<400){e:Ev}(x:Hn os e)(cj:e.ret<=3)(be:0<=e.tx/\e.tx<=1000000)(ck:e.kind=1->0<=e.thr/\e.thr<=100)(bf:e.kind=3){i:Nat}{s:St}{r:Hd}(bg:A.sts[i]?=E s)(bh:w[i]?=E r)(bi:s.id=e.tx)(bj:s.stand=2){cl:List Dd}{bk:Dd}(bl:s.deeds=cl++[bk])(bm:Dt bk.op e.ret=false)(bn:s.deeds.length<=1000):
 Calls prog 141 #[Q (E ⟨n,0,O⟩),.agg (Aj e)] W λq y=>DF W q y:=by
 have bo:=Af bf;have cn:=Af bj;have co:=Af bl;have cp:=Af bm;have cq:=Af bn;have ay:e.kind≠1:=by omega
 have H:=Af h;have d9:=Af bd;have ea:=h.box.lt;have cr:W.cell? ⟨n,1,O⟩=E (I J A.many):=h.box.cell 1;have eb:((A.many:Int)==400)=false:=by simp;omega
 have ec:(e.kind==1)=false:=by simpa using ay
 have az:=Af (λz M=>C6 x cj z M);have cs:=Af M;have ct:=Af (Ji x ay);have a0:=Af (M.below (Zc W (K (Aj e) 44)));have a1:=Af (Ah.new W 44 (Aj e));have bp:=Af x;have a2:=Af bg;have a3:=Af bh;have bq:=Af be;have cu:=Af bi;have a4:Aj e= #[I J e.kind,I J e.tx,I J e.thr,I J e.obj,I J e.op,I J e.key,I J e.val,I J e.ret]:=rfl;have cv:=Af a4;rw[a4] at az a0 a1|-;clear a4 h M x bd bg bh be ck bi ay bf bj bl bm bn;go_in;go_wp2_with fail;refine(az.o _ a0.o).mono ?_;rintro q S ⟨rfl,ah⟩;have br:=Af ((Zc W (K #[I J e.kind,I J e.tx,I J e.thr,I J e.obj,I J e.op,I J e.key,I J e.val,I J e.ret] 44)).trans (ah.mono (by simp)));have t:=Af ((H.o.alloc (K #[I J e.kind,I J e.tx,I J e.thr,I J e.obj,I J e.op,I J e.key,I J e.val,I J e.ret] 44)).call ah);have B:=Af (a1.o.below ah (by simp));have ai:=B.o.cell 0;have aj:S.cell? ⟨n,1,O⟩=E (I J A.many):=t.o.box.cell 1;have cw:=B.o.lt;have cx:=t.o.box.lt;clear ah az a0 a1 cr
 go_upto_if 23 with fail
 go_cut [45] from 24 to 46 (λ_ a5=>∃b,a5=S.drewN b)
 case first=>
  by_cases X:e.kind=2
  .obtain⟨a6,cy,ak,bs⟩:=bp.o.2 X;have cz:(e.kind==2)=true:=by simpa using X
   obtain⟨ed,al,bt⟩:=t.o.ob;obtain⟨j,Y⟩:∃j:Nat,e.obj=(j:Int):=⟨e.obj.toNat,by omega⟩;rw[Y,D6] at ak;have bu:j<os.length:=(Am.1 ak).1;obtain⟨c0,c1,rfl⟩:=Ag al
   obtain⟨u,c2,ee⟩:∃u,c0=E ⟨u,0,O⟩/\u<S.heap.size:=by
    rcases al.2 with ⟨am,ef⟩|⟨u,eg,cur,am,eh,x,_⟩
    .omega
    .injection am with am;exact⟨u,am,AB x⟩
   subst c2
   have ei:S.cell? ⟨u,j*2,O⟩=E (I J a6.kind):=by
    rw[al.cellAt (j*2) (by omega)];exact bt j a6 ak
   have ej:S.cell? ⟨n,0,O⟩=E (C (E ⟨u,0,O⟩) os.length c1):=t.o.box.cell 0;have an:=B.o.cell 3;have a7:=B.o.cell 4;rw[Y] at an;have ek:(0:Int)<=(j:Int):=by omega
   have el:(j:Int)<(os.length:Int):=by omega
   have bv:decide (os.length<=j)=false:=by simpa using bu
   have bw:=Af (λz=>(GD e.op z).mono (R':=λq y=>q=R (I J a6.kind)/\y=z) (λ_ _ l=>⟨by rw[l.1,bs],l.2.symm⟩));clear cy ak bs al bt Y X bu;go_wp2_with fail;go_quiet (fail);go_wp2_with fail;go_quiet ((go_at_call 65;first|exact Bw (bw.o _)|exact EY (bw.o _)));go_wp2_with fail
   go_meet
   exact⟨_,Jy _ _ _⟩
  .have cz:(e.kind==2)=false:=by simpa using X
   clear X;go_wp2_with fail
   go_meet
   exact⟨0,rfl⟩
 case rest=>
 obtain⟨ao,Z⟩:=hcut;obtain⟨em,en,eo,bz,b0,_⟩:=t.o.byM;have ap:Hid (FB L wc A os n w vo v k g F):=Af (Z▸t.o.drewN ao);have aa:Hid (Ah wc W.heap.size AJ #[I J e.kind,I J e.tx,I J e.thr,I J e.obj,I J e.op,I J e.key,I J e.val,I J e.ret]):=Af (Z▸B.o.drewN ao);have b1:Hid (Below W.heap.size W wc):=Af (Z▸below_drewN br.o ao)
 have b2:∀b,(B1 QH (.map (E k)) (I J e.tx) true).run prog (wc.drewN b)=.ok (.tuple #[Q (E ⟨r.b,0,O⟩),T true]) (wc.drewN b):=λb=>by
  subst Z;have l:=((bz.drewN ao).drewN b).look_ok Dc (F4 _) (k:=e.tx) (by have:=bq.o;omega) (by have:=bq.o;omega);have b3:=b0 i s r a2.o a3.o;rw[cu.o] at b3;rw[b3] at l;exact l
 have c3:wc.cell? ⟨n,3,O⟩=E (.map (E k)):=ap.o.box.cell 3;have aq:=aa.o.cell 1;have c4:=aa.o.cell 0;have c5:=aa.o.lt;have c6:=ap.o.box.lt;have c7:=b2 0;clear Z b0 bz t B br ai aj cw cx;go_wp2_with fail;go_quiet (fail);go_upto_region 24 with fail;obtain⟨m,ac⟩:∃m,wc.drewN nq=m:=⟨_,rfl⟩;rw[ac];have c8:=Af (λz=>Ke z);have b4:Hid (FB L m A os n w vo v k g F):=Af (ac▸ap.o.drewN nq);have ad:Hid (Ah m W.heap.size AJ #[I J e.kind,I J e.tx,I J e.thr,I J e.obj,I J e.op,I J e.key,I J e.val,I J e.ret]):=Af (ac▸aa.o.drewN nq);have a8:Hid (Below W.heap.size W m):=Af (ac▸below_drewN b1.o nq);have k0:m.cell? ⟨W.heap.size,0,O⟩=E (I J e.kind):=ad.o.cell 0;have c9:W.heap.size<m.heap.size:=ad.o.lt;clear ac c4 aq c3 c6 c5 b2 c7 ap aa b1
 go_cut [8] (λda a5=>WI m e.kind da a5)
 case first=>
  go_region_with (go_at_call 223;go_loud (refine(c8.o _).mono ?_);rintro q db ⟨ep,rfl,a9⟩;obtain⟨eq,er,es,et,b5,D,eu,ev⟩:=a9.look ct.o (KV bp.o);have ae:=Af D;have b6:=Af b5;clear b5;have af:=Af a9.below;have k1:=af.o.cell (p:=⟨W.heap.size,0,O⟩) (by simp;omega);have ew:W.heap.size<db.heap.size:=(by have l:=af.o.size;simp at l;omega);clear D a9;(try (have G:=(Ah.new m.drew Kz #[C O 0 0,.nilFunc]).below af.o (by simp);have dc:=G.cell 0;have bv:=G.cell 1;have dd:=G.frozen 0;have de:=G.frozen 1;have df:=G.lt;simp only[Ir] at dc bv dd de df)))
  all_goals go_wp2_with fail
  all_goals go_meet
  all_goals (first|exact WJ b6.o ae.o af.o|exact WK b6.o ae.o af.o G)
 case rest=>
 obtain⟨dh,ba,b,b7,b8,bb,rfl,ex,ar,D,au⟩:=hcut;obtain⟨a,rfl⟩:∃a:U,a=wc:=⟨_,rfl⟩;have ag:=Af (b4.o.call au);have o:=Af (ad.o.below au ad.o.lt);have b9:=Af (a8.o.trans (au.mono a8.o.size));have av:=Af (ag.o.st i s r a2.o a3.o);have ae:=Af D;have di:=ar.lt;have dj:=ar.cell 0;have ca:=ar.cell 1;have dk:a.cell? ⟨r.b,7,O⟩=E (I J s.stand):=av.o.blk.cell 7;have dl:a.cell? ⟨r.b,1,O⟩=E (I J s.thr):=av.o.blk.cell 1;have dm:=av.o.blk.lt;have aj:a.cell? ⟨n,1,O⟩=E (I J A.many):=ag.o.box.cell 1;have dn:=ag.o.box.lt;have ai:=o.o.cell 0;have aq:=o.o.cell 1;have cb:=o.o.cell 2;have an:=o.o.cell 3;have a7:=o.o.cell 4;have cc:=o.o.cell 5;have cd:=o.o.cell 6;have ce:=o.o.cell 7;have dp:=o.o.lt
 have cf:Hid (∀ab,Calls prog 224 #[C (E ⟨ba,0,O⟩) b b,I J s.stand] (a.drewN ab) λq y=>q=R (T true)/\y=a.drewN ab):=Af (λab=>by
  obtain⟨ey,ez,d,_,dq,_⟩:=D;injection d with d;injection d with d;injection d with d _;injection d with d _ _;injection d with d;injection d with d;subst d
  have l:=Tryz.slices_Contains_int ba 0 b b (Bc e.kind) s.stand (a.drewN ab) (by omega) (by have:b<=4:=(by rw[bb];unfold Bc;split<;>(try split)<;>(try split)<;>(try split)<;>simp);omega) (λj Y=>by
   have l:=(dq.drewN ab).cell (0+j);rw[l];rw[Ej];simp[Y])
  refine l.mono ?_;rintro q y ⟨rfl,rfl⟩;refine⟨?_,rfl⟩;have dr:s.stand∈Bc e.kind:=by rw[bo.o,cn.o];simp[Bc]
  rw[bb,Ex];simp[dr])
 clear D ar au bb b4 ad a8 k0 c9;go_wp2_with fail;go_quiet ((go_at_call 224;exact EY (cf.o _)));go_upto_region 27 with fail;refine wp_region_still_tail 8 (by kernel_rfl) (by kernel_rfl) ?_
 change wpStill _ _ (a.drewN (nq+1)) (λds=>wpList _ _ _ _ ds (a.drewN (nq+1))) _ _
 have aw:Hid (FB L (a.drewN (nq+1)) A os n w vo v k g F):=Af (ag.o.drewN _);have ax:Hid (Below W.heap.size W (a.drewN (nq+1))):=Af (below_drewN b9.o _);have cg:Hid (Dv m.heap.size (a.drewN (nq+1)) (.agg #[C (E ⟨ba,0,O⟩) b b,.func (.func b7) #[] b8]) e.kind):=Af (ae.o.call (below_drewN (Ae _ _) _));have dt:(a.drewN (nq+1)).cell? ⟨dh,1,O⟩=E (.func (.func b7) #[] b8):=ca;have du:(a.drewN (nq+1)).cell? ⟨W.heap.size,0,O⟩=E (I J e.kind):=ai;have dv:(a.drewN (nq+1)).cell? ⟨W.heap.size,1,O⟩=E (I J e.tx):=aq;have dw:(a.drewN (nq+1)).cell? ⟨W.heap.size,2,O⟩=E (I J e.thr):=cb;have dx:(a.drewN (nq+1)).cell? ⟨W.heap.size,3,O⟩=E (I J e.obj):=an;have dy:(a.drewN (nq+1)).cell? ⟨W.heap.size,4,O⟩=E (I J e.op):=a7;have dz:(a.drewN (nq+1)).cell? ⟨W.heap.size,5,O⟩=E (I J e.key):=cc;have d0:(a.drewN (nq+1)).cell? ⟨W.heap.size,6,O⟩=E (I J e.val):=cd;have d1:(a.drewN (nq+1)).cell? ⟨W.heap.size,7,O⟩=E (I J e.ret):=ce;have d2:(a.drewN (nq+1)).cell? ⟨n,1,O⟩=E (I J A.many):=aj;generalize a.drewN (nq+1)=d3 at aw ax cg dt du dv dw dx dy dz d0 d1 d2|-;clear ag o b9 av ae di dj ca dk dl dm aj dn ai aq cb an a7 cc cd ce dp cf;have e0:Hid (L<=d3.heap.size):=Af (by have:=aw.o.box.lt;have:=aw.o.le;omega);obtain⟨e1,e2,d4,e3,ch⟩:=WN (n:=A.many) bo.o cg.o (aw.o.st i s r a2.o a3.o) cq.o co.o cp.o (cs.o.below ax.o);injection d4 with bc _ d5;injection bc with bc;subst bc d5;have d6:=Af ch;clear ch;simp only[Io,Ip,IG,Ib]
 iterate 8 still_step
 refine wpStill_nil ?_;go_wp2_with fail;refine O2 (cv.o▸d6.o) ?_;rintro q e4 ⟨⟨e5,rfl,e6,e7,rfl⟩,ci⟩;have d7:=Af (ax.o.trans (ci.mono ax.o.size));clear ci;go_wp2_with fail;go_ret;exact⟨⟨_,rfl,_,_,rfl⟩,d7.o⟩
def Sh(L:Nat)(W:U)(A:Au)(os:List Ob)(d:Nat)(vo:N)(e g:Nat):Prop:=∃a i b,FB L W A os d a vo i e g b/\Gw A a b
theorem Sh.call{L:Nat}{W W':U}{A:Au}{os:List Ob}{vo:N}(h:Sh L W A os n vo k g)(a:Below W W W'):Sh L W' A os n vo k g:=by
 obtain⟨b,d,e,i,j⟩:=h;exact⟨b,d,e,i.call a,j⟩
def Sd(L:Nat)(W:U)(A:Au)(e:Ev)(os:List Ob)(b:Nat)(vo:N)(d g:Nat)(r:Ending)(w':U):Prop:=
 (∃a,A.fd e=E a/\r=R .nilIface/\Sh L w' a os b vo d g/\Below L W w')∨(A.fd e=O/\DF W r w')
theorem Z0{L:Nat}{W:U}{A:Au}{os:List Ob}{vo:N}(h:Sh L W A os n vo k g)(p:AE W)(q:A.many<400){e:Ev}(d:Hn os e)(z:VF A):
 Calls prog 141 #[n,.agg (Aj e)] W λj l=>Sd L W A e os n vo k g j l:=by
 obtain⟨B,ar,au,m,r⟩:=h;have av:=d.tx;have t:=d.ret;have u:e.kind=1->0<=e.thr/\e.thr<=100:=λb=>by have:=d.thr b;omega
 have aw:=z.len
 cases v:A.fd e with
 |none=>
  have w:∀ {P:Ending->U->Prop},Calls prog 141 #[n,.agg (Aj e)] W P->(∀j l,P j l->DF W j l)->Calls prog 141 #[n,.agg (Aj e)] W λj l=>Sd L W A e os n vo k g j l:=λY Z=>Y.mono λj l h=>.inr ⟨v,Z j l h⟩;have aa:∀(i:Nat) (s:St),A.sts[i]?=E s->∃x,B[i]?=E x:=λi s a=>⟨B[i]'(by rw[m.len];exact(Am.1 a).1),An _⟩;rcases ZV v with ⟨b,i,s,a,o⟩|⟨b,y,i,s,a,o,ab⟩|⟨b,y⟩|⟨b,i,s,a,o,ac⟩
  .exact w (TC m r p q d t (by omega) u b a o) (λ_ _ h=>h)
  .exact w (WL m r p q d t (by omega) u b y a o ab) (λ_ _ h=>h)
  .exact w (WM m r p q d t (by omega) u b y) (λ_ _ h=>h)
  .let⟨x,D⟩:=aa i s a;have X:=z.each s<|Ap a;rcases WE ac X.2.2.2.2 with ad|⟨ae,af,ax,ay,ag,ah⟩
   .exact w (TD m r p q d t (by omega) u b a D o ad) (λ_ _ h=>h)
   .exact w (ZZ m r p q d t (by omega) u ae a D o af ag ah (by omega)) (λ_ _ h=>h)
 |some az=>
  rcases ZW v with ⟨b,y,ai,rfl⟩|⟨b,i,s,a0,a,o,F,rfl⟩
  .have a1:=d.thr b;refine(Aeu m r p q d t (by omega) (by omega) b y ai (by omega)).mono ?_;rintro j l ⟨rfl,G,M,S,k1,k2,k3⟩;exact .inl ⟨_,v,rfl,⟨G,M,S,k1,k2⟩,k3⟩
  .obtain⟨x,D⟩:∃x,B[i]?=E x:=⟨B[i]'(by rw[m.len];exact(Am.1 a).1),An _⟩;have X:=z.each s<|Ap a;have aj:=WD d b F;refine(Aet m r p q d t (by omega) a D o aj ?_ (by omega) (by omega)).mono ?_
   .have ak:s.stand≠5:=by
     unfold VE at F
     split at F
     case isTrue al=>exact WC al
     case isFalse=>cases F
    exact λ_ am an ao ap aq=>z.busy am i an s ao a ap aq ak
   .rintro j l ⟨rfl,G,M,S,k1,k2,k3⟩;exact .inl ⟨_,v,rfl,⟨G,M,S,k1,k2⟩,k3⟩
abbrev AI:Ab:=25
def CL(o:Ob):List N:=[o.kind,o.init]
def BO(e:Ev):List N:=(Aj e).toList
theorem Se(d:Int)(t:Ab)(a:Addr)(w:U):Calls prog 63 #[d,.iface t a] w λe g=>∃b,e=R b/\Gk b/\Below w w g:=by
 go_in;go_wp2;go_ret;exact⟨_,rfl,⟨_,_,rfl⟩,(Ae _ _).alloc (Aa _) _⟩
theorem Ack{e:Ev}(h:e.Ok)(a:e.kind=2):0<=e.obj/\e.obj<=7:=by
 have b:BK.O∈e.fl:=by
  unfold Ev.fl Jd BP;simp[a]
 exact h.2.1 _ b
theorem FK{w:U}{vo vl:N}{os:List Ob}{es:List Ev}(x:Ba 2 CL w vo os)(a6:Ba 8 BO w vl es)(bu:∀b∈os,b.kind<=9223372036854775807)(bv:∀a∈es,AU a.kind/\a.ret<=9223372036854775807)(ad:AE w):
 Calls prog 28 #[.agg #[vo,vl]] w λo ai=>∃a7,o=R a7/\((Bn os es/\a7=.nilIface)∨(¬Bn os es/\Gk a7))/\Below w.heap.size w ai:=by
 obtain⟨a8,a9,rfl⟩:=x.shape;obtain⟨ba,bb,rfl⟩:=a6.shape;have aj:=Zc w<|K #[C a8 os.length a9,C ba es.length bb] AI;have az:=Af aj;have ae:=Af<|Ah.new w AI #[C a8 os.length a9,C ba es.length bb];have ak:=Af<|ad.below aj;have bc:=Af<|x.below aj;have bw:=Af<|a6.below aj;have ce:=Af bu;have cf:=Af bv;clear aj x a6 bu bv ad;by_cases bd:8<os.length
 .have be:(8:Int)<(os.length:Int):=by omega
  have q:Hid (¬Bn os es):=Af (λh=>by have:=h.1;omega);obtain⟨B,G⟩:=ak.o.errs 3 (by simp);clear bd;go_in;go_wp2;go_ret;exact⟨_,rfl,.inr ⟨q.o,_,_,rfl⟩,az.o⟩
 by_cases bz:400<es.length
 .have be:¬(8:Int)<(os.length:Int):=by omega
  have b0:(400:Int)<(es.length:Int):=by omega
  have bf:=ae.o.cell 0;have b1:=ae.o.cell 1;have q:Hid (¬Bn os es):=Af (λh=>by have:=h.2.1;omega);obtain⟨B,G⟩:=ak.o.errs 3 (by simp);clear bd bz;go_in;go_wp2;go_ret;exact⟨_,rfl,.inr ⟨q.o,_,_,rfl⟩,az.o⟩
 have a0:Hid (os.length<=8):=Af (by omega);have af:Hid (es.length<=400):=Af (by omega);have be:¬(8:Int)<(os.length:Int):=by omega
 have b0:¬(400:Int)<(es.length:Int):=by omega
 have b2:Bn os es↔(∀b∈os,b.okB=true)/\∀a∈es,Hn os a:=⟨λh=>h.2.2,λh=>⟨a0.o,af.o,h⟩⟩;have cg:=Af b2;clear bd bz b2;go_in;go_upto_region 3 with fail;generalize ch:w.alloc (K #[C a8 os.length a9,C ba es.length bb] AI)=i at az ae ak bc bw|-;have y:=Af az.o;have bf:=ae.o.cell 0;have b1:=ae.o.cell 1;have bg:=ae.o.lt;clear ch be b0;go_wp2
 go_loopw [23] (λS wr=>∃j:Nat,S=I J j/\j<=os.length/\(∀(d:Nat) b,d<j->os[d]?=E b->b.okB=true)/\Below i.heap.size i wr) (λS _=>9-(intOf S).toNat)
 case atStart=>exact⟨0,rfl,A9 _,λd b al=>by omega,Ae _ _⟩
 case round=>
  obtain⟨j,rfl,c5,D,F⟩:=hrel;have a1:=Af F;have a2:=Af D;have c6:os.length<=8:=a0.o;by_cases r:j<os.length
  .obtain⟨b,x⟩:∃b,os[j]?=E b:=⟨os[j],An r⟩;obtain⟨g,m,am,_,_,e⟩:=bc.o.at x;subst am;have L:=e 0 (I J b.kind) rfl (by omega);have bh:=e 1 (I J b.init) rfl (by omega);have ag:wr.cell? ⟨g,m+j*2,O⟩=E (I J b.kind):=(F.cell (Ad i _ L)).trans L;have a3:wr.cell? ⟨g,m+j*2+1,O⟩=E (I J b.init):=(F.cell (Ad i _ bh)).trans bh;have c7:g<wr.heap.size:=Ad wr _ ag;have ci:(0:Int)<=(j:Int):=by omega
   have cj:(j:Int)<(os.length:Int):=by omega
   have b3:=Af (λw ad=>Np b.kind b.init (ce.o b (Ap x)) w ad);have an:=Af<|ak.o.below F;have b4:=Af x;have z:=Af r;clear F x D L bh e r;go_wp2_with fail;refine(b3.o _ (an.o.below ((Ae _ _).alloc (Aa _) _))).mono ?_;rintro o ao ⟨ck,rfl,bi,W⟩;have k:=Af<|(a1.o.alloc a1.o.size (K #[I J b.kind,I J b.init] 71)).trans (W.mono (by have:=a1.o.size;simp;omega));clear W b3 ag a3;rcases bi with ⟨t,rfl⟩|⟨ap,B,rfl⟩
   .have b5:=Af t;clear t;go_wp2
    go_roundw
    case rel=>exact⟨j+1,by have:=a0.o;have:=z.o;go_num,z.o,λd cl al b6=>by
     by_cases cn:d=j
     .subst cn;have l:=b4.o;rw[b6] at l;injection l with l;subst l;exact b5.o
     .exact a2.o d cl (by omega) b6,k.o⟩
    case measure=>simp[intOf];have:=z.o;have:=a0.o;omega
   .have q:Hid (¬Bn os es):=Af (λh=>ap (h.2.2.1 b (Ap b4.o)));have X:=Af (λw=>Se (j:Int) 563 B w);clear ap;go_wp2_with fail;refine(X.o _).mono ?_;rintro o bj ⟨bk,rfl,Y,u⟩;obtain⟨bl,bm,rfl⟩:=Y;have Z:=Af<|k.o.trans (u.mono k.o.size);clear u;go_wp2;go_ret;exact⟨_,rfl,.inr ⟨q.o,_,_,rfl⟩,y.o.trans (Z.o.mono y.o.size)⟩
  .have c8:decide (j<os.length)=false:=by simpa using r
   have co:Hid (∀b∈os,b.okB=true):=Af (λb x=>by
    obtain⟨d,al⟩:=E8 x;exact D d b (by have:=(Am.1 al).1;omega) al)
   have ag:=(F.cell (p:=⟨w.heap.size,0,O⟩) bg).trans bf;have a3:=(F.cell (p:=⟨w.heap.size,1,O⟩) bg).trans b1;have cp:w.heap.size<wr.heap.size:=by have:=F.size;omega
   clear F D r;go_wp2
   go_loopw [39] (λS cq=>∃d:Nat,S=I J d/\d<=es.length/\(∀(v:Nat) a,v<d->es[v]?=E a->Hn os a)/\Below i.heap.size i cq) (λS _=>401-(intOf S).toNat)
   case atStart=>exact⟨0,rfl,A9 _,λv a aq=>by omega,a1.o⟩
   case round=>
    obtain⟨d,rfl,al,D,n⟩:=hrel;have a4:=Af n;have a2:=Af D;have bn:es.length<=400:=af.o;by_cases r:d<es.length
    .obtain⟨a,G⟩:∃a,es[d]?=E a:=⟨es[d],An r⟩;obtain⟨g,m,am,_,_,e⟩:=bw.o.at G;subst am;have ag:wr.cell? ⟨g,m+d*8,O⟩=E (I J a.kind):=(n.cell (Ad i _ (e 0 (I J a.kind) rfl (by omega)))).trans<|e 0 (I J a.kind) rfl (by omega);have a3:wr.cell? ⟨g,m+d*8+1,O⟩=E (I J a.tx):=(n.cell (Ad i _ (e 1 (I J a.tx) rfl (by omega)))).trans<|e 1 (I J a.tx) rfl (by omega);have cr:wr.cell? ⟨g,m+d*8+2,O⟩=E (I J a.thr):=(n.cell (Ad i _ (e 2 (I J a.thr) rfl (by omega)))).trans<|e 2 (I J a.thr) rfl (by omega);have cs:wr.cell? ⟨g,m+d*8+3,O⟩=E (I J a.obj):=(n.cell (Ad i _ (e 3 (I J a.obj) rfl (by omega)))).trans<|e 3 (I J a.obj) rfl (by omega);have ct:wr.cell? ⟨g,m+d*8+4,O⟩=E (I J a.op):=(n.cell (Ad i _ (e 4 (I J a.op) rfl (by omega)))).trans<|e 4 (I J a.op) rfl (by omega);have cu:wr.cell? ⟨g,m+d*8+5,O⟩=E (I J a.key):=(n.cell (Ad i _ (e 5 (I J a.key) rfl (by omega)))).trans<|e 5 (I J a.key) rfl (by omega);have cv:wr.cell? ⟨g,m+d*8+6,O⟩=E (I J a.val):=(n.cell (Ad i _ (e 6 (I J a.val) rfl (by omega)))).trans<|e 6 (I J a.val) rfl (by omega);have cw:wr.cell? ⟨g,m+d*8+7,O⟩=E (I J a.ret):=(n.cell (Ad i _ (e 7 (I J a.ret) rfl (by omega)))).trans<|e 7 (I J a.ret) rfl (by omega);have cx:g<wr.heap.size:=Ad wr _ ag;obtain⟨b7,b8⟩:=cf.o a<|Ap G;have ci:(0:Int)<=(d:Int):=by omega
     have cj:(d:Int)<(es.length:Int):=by omega
     have b9:Aj a= #[I J a.kind,I J a.tx,I J a.thr,I J a.obj,I J a.op,I J a.key,I J a.val,I J a.ret]:=rfl;have bo:=λw ad=>Kk a w ad b7 b8;rw[b9] at bo;have ca:=Af bo;have an:=Af<|(ak.o.below n).below ((Ae _ _).alloc (Aa _) (K #[I J a.kind,I J a.tx,I J a.thr,I J a.obj,I J a.op,I J a.key,I J a.val,I J a.ret] AJ));have cy:=Af<|Ah.new wr AJ #[I J a.kind,I J a.tx,I J a.thr,I J a.obj,I J a.op,I J a.key,I J a.val,I J a.ret];have ar:=Af G;have z:=Af r;obtain⟨cb,rfl⟩:∃cb:U,cb=wr:=⟨_,rfl⟩;go_wp2_with fail;refine(ca.o _ an.o).mono ?_;rintro o ao ⟨ck,rfl,bi,W⟩;have k:=Af<|(a4.o.alloc a4.o.size (K #[I J a.kind,I J a.tx,I J a.thr,I J a.obj,I J a.op,I J a.key,I J a.val,I J a.ret] AJ)).trans (W.mono (by have:=a4.o.size;simp;omega));have cc:=Af<|an.o.below W;have au:=cy.o.below W (by simp);have c9:=au.cell 0;have cz:=au.cell 3;have da:=au.cell 4;have db:=au.lt;have dc:=(k.o.cell (p:=⟨w.heap.size,0,O⟩) bg).trans bf;have dd:w.heap.size<ao.heap.size:=by have:=k.o.size;omega
     rcases bi with ⟨t,rfl⟩|⟨ap,B,rfl⟩
     rotate_left
     .have q:Hid (¬Bn os es):=Af (λh=>ap (h.2.2.2 a (Ap ar.o)).1);have X:=Af (λw=>Se (d:Int) 563 B w);go_wp2_with fail;refine(X.o _).mono ?_;rintro o bj ⟨bk,rfl,Y,u⟩;obtain⟨bl,bm,rfl⟩:=Y;have Z:=Af<|k.o.trans (u.mono k.o.size);go_wp2;go_ret;exact⟨_,rfl,.inr ⟨q.o,_,_,rfl⟩,y.o.trans (Z.o.mono y.o.size)⟩
     have b5:=Af t;by_cases A:a.kind=2
     .obtain⟨a5,bp⟩:=Ack t A;have c0:(a.kind !=2)=false:=by simp[A]
      obtain⟨b,aa⟩:∃b:Nat,a.obj=(b:Int):=⟨a.obj.toNat,by omega⟩;rw[aa] at cz;by_cases ab:b<os.length
      .obtain⟨M,av⟩:∃M,os[b]?=E M:=⟨os[b],An ab⟩;obtain⟨g,m,am,_,_,e⟩:=bc.o.at av;subst am;have L:=e 0 (I J M.kind) rfl (by omega);have c1:ao.cell? ⟨g,m+b*2,O⟩=E (I J M.kind):=(k.o.cell (Ad i _ L)).trans L;have de:g<ao.heap.size:=Ad ao _ c1;have df:(0:Int)<=(b:Int):=by omega
       have dh:(b:Int)<(os.length:Int):=by omega
       have cd:decide (os.length<=b)=false:=by simpa using ab
       by_cases ah:Gq a.op=M.kind
       .have bq:Hid (Hn os a):=Af ⟨t,λ_=>⟨M,a5,by rw[aa,D6];exact av,ah⟩⟩;have aw:=Af (λw=>(GD a.op w).mono (R':=λo ai=>o=R (I J M.kind)/\ai=w) (λ_ _ ax=>⟨by rw[ax.1,ah],ax.2.symm⟩));go_wp2;go_quiet ((go_at_call 65;first|exact Bw (aw.o _)|exact EY (aw.o _)));go_wp2
        go_roundw
        case rel=>exact⟨d+1,by have:=af.o;have:=z.o;go_num,z.o,λv br aq ay=>by
         by_cases bs:v=d
         .subst bs;have l:=ar.o;rw[ay] at l;injection l with l;subst l;exact bq.o
         .exact a2.o v br (by omega) ay,below_drewN k.o _⟩
        case measure=>simp[intOf];have:=z.o;have:=af.o;omega
       .have q:Hid (¬Bn os es):=Af (λh=>by
         obtain⟨_,bt⟩:=h.2.2.2 a<|Ap ar.o;obtain⟨c2,_,ac,bn⟩:=bt A;rw[aa,D6,av] at ac;injection ac with ac;subst ac;exact ah bn)
        have aw:=Af (λw=>(GD a.op w).mono (R':=λo ai=>o=R (I J (Gq a.op))/\ai=w) (λ_ _ ax=>⟨ax.1,ax.2.symm⟩));have di:(Gq a.op !=M.kind)=true:=by simpa using ah
        obtain⟨B,c3⟩:=cc.o.errs 10 (by simp);go_wp2;go_quiet ((go_at_call 65;first|exact Bw (aw.o _)|exact EY (aw.o _)));have X:=Af (λw=>Se (d:Int) 563 B w);go_wp2_with fail;refine(X.o _).mono ?_;rintro o bj ⟨bk,rfl,Y,u⟩;obtain⟨bl,bm,rfl⟩:=Y;have Z:=Af<|(below_drewN k.o nq).trans (u.mono k.o.size);go_wp2;go_ret;exact⟨_,rfl,.inr ⟨q.o,_,_,rfl⟩,y.o.trans (Z.o.mono y.o.size)⟩
      .have q:Hid (¬Bn os es):=Af (λh=>by
        obtain⟨_,bt⟩:=h.2.2.2 a<|Ap ar.o;obtain⟨c2,_,ac,bn⟩:=bt A;rw[aa,D6] at ac;exact ab (Am.1 ac).1)
       have cd:decide (os.length<=b)=true:=by simpa using ab
       obtain⟨B,c3⟩:=cc.o.errs 9 (by simp);have X:=Af (λw=>Se (d:Int) 563 B w);go_wp2_with fail;refine(X.o _).mono ?_;rintro o bj ⟨bk,rfl,Y,u⟩;obtain⟨bl,bm,rfl⟩:=Y;have Z:=Af<|k.o.trans (u.mono k.o.size);go_wp2;go_ret;exact⟨_,rfl,.inr ⟨q.o,_,_,rfl⟩,y.o.trans (Z.o.mono y.o.size)⟩
     .have c0:(a.kind !=2)=true:=by simpa using A
      have bq:Hid (Hn os a):=Af ⟨t,λh=>absurd h A⟩;go_wp2
      go_roundw
      case rel=>exact⟨d+1,by have:=af.o;have:=z.o;go_num,z.o,λv br aq ay=>by
       by_cases bs:v=d
       .subst bs;have l:=ar.o;rw[ay] at l;injection l with l;subst l;exact bq.o
       .exact a2.o v br (by omega) ay,k.o⟩
      case measure=>simp[intOf];have:=z.o;have:=af.o;omega
    .have cd:decide (d<es.length)=false:=by simpa using r
     have c4:Hid (∀a∈es,Hn os a):=Af (λa G=>by
      obtain⟨v,aq⟩:=E8 G;exact D v a (by have:=(Am.1 aq).1;omega) aq)
     go_wp2;go_ret;exact⟨_,rfl,.inl ⟨cg.o.2 ⟨co.o,c4.o⟩,rfl⟩,y.o.trans (a4.o.mono y.o.size)⟩
theorem Nq:(prog.info? Di).map (λa=>(a.zero,a.size,a.bytes))=E (E (.agg #[(),()]),2,16):=by kernel_rfl
theorem Sf(q:List Ob):(q.flatMap CL).length=q.length*2:=DQ (n:=2) (λ_=>rfl) q
theorem Si(q:List Ob):∀u∈q.flatMap CL,u.oneCell'=true:=by
 intro u b;let⟨c,_,a⟩:=FY.1 b;simp[CL] at a;rcases a with rfl|rfl<;>rfl
theorem Py(a:Addr)(n c:Nat)(w:U):(Ec .eql 22 (C a n c) (C O 0 0)).run prog w=.ok false w:=by
 simp only[Ec];simp[EL,EM,go_sem];kernel_rfl
theorem Nr(w:U):(Ec .eql 22 (C O 0 0) (C O 0 0)).run prog w=.ok true w:=by
 simp only[Ec];simp[EL,EM,go_sem];kernel_rfl
theorem WO{w:U}{v:N}{q:List Ob}(e:Ba 2 CL w v q)(j:q.length<=1000000):
 Calls prog 222 #[v] w λu k=>∃l,u=R l/\k.ownsRow w Di 2 l q.length (q.flatMap CL)/\Below w w k:=by
 let⟨x,y,z,A,D⟩:=A1 Nq;obtain⟨F,c,rfl⟩:=e.shape;let⟨i,_,g⟩:=e.news (λ_=>rfl) (by omega)
 cases F with
 |none=>
  obtain⟨m,rfl⟩:=i rfl;have G:=Nr w;rw[m];have L:q=[]:=List.eq_nil_of_length_eq_zero m;subst L;go_in;go_wp2;go_ret;exact⟨_,rfl,⟨rfl,.inl ⟨rfl,rfl⟩⟩,Ae _ _⟩
 |some a=>
  have G:=Py a q.length c w;have o:Hid ((w.alloc (K #[] Di)).ownsRow w Di 2 (C w 0 0) 0 []):=Af<|BX (w:=w) (cs:= #[]) (t:=Di) (B:=w.heap.size) (size:=2) (n:=0) rfl (Aa _) (by unfold Al;omega);have M:Hid (∀b d,(q.flatMap CL)[b]?=E d->(w.alloc (K #[] Di)).cell? (a.add b)=E d):=Af (λb d p=>(Zc w _).cell (Ad w _ (g a rfl b d p))|>.trans (g a rfl b d p));have r:=Af j;go_in;go_wp2_with (at_builtin;refine B9 _ rfl (.tmp 5) (.tmp 6) 22 rfl w Di x (.agg #[(),()]) 2 16 underlying22 y z A D rfl (by decide) (.slice w 0 0) 0 [] rfl o a q.length c (q.flatMap CL) rfl (Sf q) M (Si q) (by have:=r.o;unfold Al;omega) (by have:=r.o;omega) (by simp) ?_;intro Y Z S W _ aa);go_ret;refine⟨_,rfl,by simpa using S,?_⟩;exact(Zc w _).grown W (by simp) (λab X=>(Ai o X).1)
theorem Z8{L:Nat}{x:U}{vo:N}{os:List Ob}(i:L<=x.heap.size)(j:x.ownsRow L Di 2 vo os.length (os.flatMap CL)):
 Sh L (((x.alloc (.map #[] 0)).alloc (.map #[] 0)).alloc (K #[vo,(),C O 0 0,.map (E x),.map (E (x+1))] Tg)) ⟨0,[]⟩ os (x+1+1) vo x (x.heap.size+1):=by
 have k:Az (((x.alloc (.map #[] 0)).alloc (.map #[] 0)).alloc (K #[vo,(),C O 0 0,.map (E x),.map (E (x+1))] Tg)) x 0 AF:=((Az.made x).alloc _).alloc _
 have l:Az (((x.alloc (.map #[] 0)).alloc (.map #[] 0)).alloc (K #[vo,(),C O 0 0,.map (E x),.map (E (x+1))] Tg)) (x+1) 0 AF:=by
  have h:=(Az.made (x.alloc (.map #[] 0))).alloc<|K #[vo,(),C O 0 0,.map (E x),.map (E (x+1))] Tg;rw[Eb] at h;exact h
 have e:=Ah.new ((x.alloc (.map #[] 0)).alloc (.map #[] 0)) Tg #[vo,(),C O 0 0,.map (E x),.map (E (x+1))];simp only[Eb] at e;refine⟨[],C O 0 0,AF,⟨e,by omega,⟨_,((j.alloc _).alloc _).alloc _,λg m o=>?_⟩,⟨rfl,.inl ⟨rfl,rfl⟩⟩,rfl,λb s d a=>by simp at a,λb g d p a=>by simp at a,i,by omega,by omega,⟨0,AF,Aa _,k,λb s d a=>by simp at a,λ_ _=>rfl⟩,⟨0,Aa _,l⟩⟩,λb s d a=>by simp at a,λ_ _=>rfl⟩;exact Fc (n:=2) (λ_=>rfl) os g m o 0 (by omega)
def Af2(w:U)(os:List Ob)(r:Ending)(w':U):Prop:=∃a b d e,r=R (.tuple #[Q (E ⟨a,0,O⟩),.nilIface])/\Sh w w' ⟨0,[]⟩ os a b d e/\Below w w w'
theorem Af3{w:U}{vo:N}{os:List Ob}(b:Ba 2 CL w vo os)(k:∀e∈os,e.kind<=9223372036854775807)(l:∀e∈os,e.okB=true)(u:os.length<=8)(m:AE w):
 Calls prog 140 #[vo] w λg v=>Af2 w os g v:=by
 have n:=FK b (Ba.nil 8 BO w) k (λx i=>by cases i) m;obtain⟨F,G,rfl⟩:=b.shape;have o:=Af n;have p:=Af (λ(q:U) (y:Below w w q)=>WO (b.below y) (by omega));have z:Hid (Bn os []):=Af ⟨u,by simp,l,λx i=>by cases i⟩;have M:= @EC prog;go_in;go_wp2_with fail;refine o.o.mono ?_;rintro g q ⟨S,rfl,A,r⟩;rcases A with ⟨_,rfl⟩|⟨B,_⟩
 rotate_left
 .exact absurd z B
 have d:=Af r;go_wp2_with fail;refine(p.o _ d).mono ?_;rintro g W ⟨X,rfl,j,t⟩;have a:=Af<|d.o.trans (t.mono d.o.size);have D:=Af<|Z8 (L:=w.heap.size) a.o.size (Aw j d.o.size);obtain⟨Y,Z,rfl⟩:=Ag j;go_wp2;go_ret2;exact⟨_,_,_,_,rfl,D,(((a.o.alloc a.o.size _).alloc (by have:=a.o.size;simp;omega) _).alloc (by have:=a.o.size;simp;omega) _)⟩
def Acl(w:U)(os:List Ob)(es:List Ev)(r:Ending)(w':U):Prop:=Below w w w'/\((∃a b d g i j,Bn os es/\Au.feeds ⟨0,[]⟩ es=E a/\VF a/\a.many=es.length/\r=R (.tuple #[Q (E ⟨d,0,O⟩),.nilIface])/\Sh b w' a os d g i j/\w.heap.size<=b)∨(¬(Bn os es/\(Au.feeds ⟨0,[]⟩ es).isSome)/\∃e,Gk e/\r=R (.tuple #[Q O,e])))
theorem Acm{w:U}{vo vl:N}{os:List Ob}{es:List Ev}(q:Ba 2 CL w vo os)(r:Ba 8 BO w vl es)(G:∀be∈os,be.kind<=9223372036854775807)(aj:∀a∈es,AU a.kind/\a.ret<=9223372036854775807)(t:AE w):
 Calls prog 82 #[.agg #[vo,vl]] w λu bf=>Acl w os es u bf:=by
 obtain⟨ak,al,rfl⟩:=q.shape;obtain⟨am,an,rfl⟩:=r.shape;have k:=Zc w<|K #[C ak os.length al,C am es.length an] AI;have bg:=Af k;have L:=Af<|Ah.new w AI #[C ak os.length al,C am es.length an];have ao:=Af<|FK (q.below k) (r.below k) G aj (t.below k);have ap:=Af (λ(l:Bn os es) (M:U) (aq:Below w.heap.size w M)=>Af3 (q.below aq) G l.2.2.1 l.1 (t.below aq));have bh:=Af t;have bi:=Af r;go_in;have S:=L.o.cell 0;have ar:=L.o.cell 1;go_wp2_with fail;refine ao.o.mono ?_;rintro u M ⟨b1,rfl,bj,W⟩;have m:=Af<|bg.o.trans (W.mono (by simp));have X:=Af<|L.o.below W (by simp);rcases bj with ⟨l,rfl⟩|⟨n,bk,bl,rfl⟩
 rotate_left
 .have Y:=Af n;go_wp2;go_ret2;exact⟨m.o,.inr ⟨λh=>Y.o h.1,_,⟨_,_,rfl⟩,rfl⟩⟩
 have S:=X.o.cell 0;have au:=X.o.lt;have v:=Af l;go_wp2_with fail;refine(ap.o v.o _ m.o).mono ?_;rintro u b2 ⟨bm,bn,bo,bp,rfl,av,Z⟩;have bq:=Af<|m.o.trans (Z.mono m.o.size);have aw:=Af<|X.o.below Z au;have br:=Af av;have ax:=Af m.o.size;have ar:=aw.o.cell 1;have b3:=aw.o.lt;have b4:es.length<=400:=v.o.2.1;go_wp2
 go_loopw [27] (λaa wr=>∃(b:Nat) (j:Au),aa=I J b/\b<=es.length/\Au.feeds ⟨0,[]⟩ es=Au.feeds j (es.drop b)/\VF j/\j.many=b/\Sh M.heap.size wr j os bm bn bo bp/\Below w.heap.size w wr) (λaa _=>401-(intOf aa).toNat)
 case atStart=>exact⟨0,⟨0,[]⟩,rfl,A9 _,rfl,VF.start,rfl,br.o,bq.o⟩
 case round=>
  obtain⟨b,j,rfl,b5,x,y,z,A,e⟩:=hrel;have bs:=Af A;have ab:=Af e;have ay:=Af x;have az:=Af y;have a0:=Af z;by_cases o:b<es.length
  .obtain⟨a,B⟩:∃a,es[b]?=E a:=⟨es[b],An o⟩;obtain⟨g,i,bt,_,_,d⟩:=bi.o.at B;subst bt;have ac:wr.cell? ⟨g,i+b*8,O⟩=E (I J a.kind):=(e.cell (Ad w _ (d 0 (I J a.kind) rfl (by omega)))).trans<|d 0 (I J a.kind) rfl (by omega);have a1:wr.cell? ⟨g,i+b*8+1,O⟩=E (I J a.tx):=(e.cell (Ad w _ (d 1 (I J a.tx) rfl (by omega)))).trans<|d 1 (I J a.tx) rfl (by omega);have a2:wr.cell? ⟨g,i+b*8+2,O⟩=E (I J a.thr):=(e.cell (Ad w _ (d 2 (I J a.thr) rfl (by omega)))).trans<|d 2 (I J a.thr) rfl (by omega);have a3:wr.cell? ⟨g,i+b*8+3,O⟩=E (I J a.obj):=(e.cell (Ad w _ (d 3 (I J a.obj) rfl (by omega)))).trans<|d 3 (I J a.obj) rfl (by omega);have a4:wr.cell? ⟨g,i+b*8+4,O⟩=E (I J a.op):=(e.cell (Ad w _ (d 4 (I J a.op) rfl (by omega)))).trans<|d 4 (I J a.op) rfl (by omega);have a5:wr.cell? ⟨g,i+b*8+5,O⟩=E (I J a.key):=(e.cell (Ad w _ (d 5 (I J a.key) rfl (by omega)))).trans<|d 5 (I J a.key) rfl (by omega);have a6:wr.cell? ⟨g,i+b*8+6,O⟩=E (I J a.val):=(e.cell (Ad w _ (d 6 (I J a.val) rfl (by omega)))).trans<|d 6 (I J a.val) rfl (by omega);have a7:wr.cell? ⟨g,i+b*8+7,O⟩=E (I J a.ret):=(e.cell (Ad w _ (d 7 (I J a.ret) rfl (by omega)))).trans<|d 7 (I J a.ret) rfl (by omega);have b6:g<wr.heap.size:=Ad wr _ ac;have ad:=v.o.2.2.2 a<|Ap B;have a8:Aj a= #[I J a.kind,I J a.tx,I J a.thr,I J a.obj,I J a.op,I J a.key,I J a.val,I J a.ret]:=rfl;have ae:=Z0 (A.call ((Ae _ _).alloc (Aa _) (K #[I J a.kind,I J a.tx,I J a.thr,I J a.obj,I J a.op,I J a.key,I J a.val,I J a.ret] AJ))) ((bh.o.below e).below ((Ae _ _).alloc (Aa _) _)) (by rw[z];omega) ad y;rw[a8] at ae;have af:=Af ae;have bu:=Af ad;have b7:(0:Int)<=(b:Int):=by omega
   have b8:(b:Int)<(es.length:Int):=by omega
   have a9:Hid (es.drop b=a::es.drop (b+1)):=Af (by
    rw[FX o]
    congr 1
    have:=(Am.1 B).2;exact this)
   have ag:=Af o;have ah:=Af<|ab.o.alloc ab.o.size (K #[I J a.kind,I J a.tx,I J a.thr,I J a.obj,I J a.op,I J a.key,I J a.val,I J a.ret] AJ);go_wp2_with fail;refine af.o.mono ?_;rintro u b9 (⟨ba,D,rfl,bb,p⟩|⟨n,⟨ca,rfl,bk,bl,rfl⟩,p⟩)
   .have cb:=Af D;have bv:=Af bb;have F:=Af<|ah.o.trans (p.mono ax.o);have bc:=Af<|az.o.fd bu.o D;have bw:Hid (Au.feeds ⟨0,[]⟩ es=Au.feeds ba (es.drop (b+1))):=Af (by rw[ay.o,a9.o,Au.feeds,D];rfl);go_wp2
    go_roundw
    case rel=>exact⟨b+1,ba,by have:=ag.o;go_num,ag.o,bw.o,bc.o.1,by rw[bc.o.2,a0.o],bv.o,F.o⟩
    case measure=>simp[intOf];have:=ag.o;omega
   .have Y:Hid (¬(Bn os es/\(Au.feeds ⟨0,[]⟩ es).isSome)):=Af (λh=>by
     have bd:=h.2;rw[ay.o,a9.o,Au.feeds,n] at bd
     cases bd)
    have F:=Af<|ah.o.trans (p.mono ah.o.size);go_wp2;go_ret2;exact⟨F.o.alloc F.o.size _,.inr ⟨Y.o,_,⟨_,_,rfl⟩,rfl⟩⟩
  .have cc:decide (b<es.length)=false:=by simpa using o
   have ai:b=es.length:=by omega
   have bz:Hid (Au.feeds ⟨0,[]⟩ es=E j):=Af (by rw[x,ai,HQ];rfl);have b0:=Af ai;go_wp2;go_ret2;exact⟨ab.o,.inl ⟨j,_,_,_,_,_,v.o,bz.o,az.o,by rw[a0.o,b0.o],rfl,bs.o,ax.o⟩⟩
theorem MD{W:U}{B size:Nat}{t:Ab}{v:N}{xs:List N}(h:W.ownsRow B t size v n xs)(i:0<n):∃a c,v=C (E ⟨a,0,O⟩) n c/\B<=a/\a<W.heap.size/\n<=c:=by
 rcases h.2 with ⟨_,rfl⟩|⟨a,b,cur,rfl,d,e,g,_⟩
 .omega
 .exact⟨a,b,rfl,d,AB e,g⟩
theorem Kl{W:U}{B size:Nat}{t:Ab}{v:N}{xs:List N}(h:W.ownsRow B t size v n xs):∃g c,v=C g n c/\(g=O->n=0/\c=0)/\∀a,g=E a->∃d,a=⟨d,0,O⟩/\d<W.heap.size/\∀e i,xs[e]?=E i->W.cell? (a.add e)=E i:=by
 have j:=h;rcases h.2 with ⟨rfl,rfl⟩|⟨d,l,cur,rfl,o,m,_⟩
 .exact⟨O,0,rfl,λ_=>⟨rfl,rfl⟩,λa b=>by cases b⟩
 .refine⟨_,l,rfl,λb=>(by cases b),λa b=>?_⟩;obtain rfl:=Option.some.inj b;refine⟨d,rfl,AB m,λe i k=>?_⟩;rw[EF,Ej,j.cellAt e (by have:=(Am.1 k).1;rw[j.1] at this;exact this),k]
abbrev Bq:Ab:=153
def zTx:N:=.agg #[(),(),(),(),(),(),C O 0 0]
def Zk:N:=.agg #[(),(),(),(),(),(),(),()]
theorem QV:(prog.info? Bq).map (λa=>(a.zero,a.size,a.bytes))=E (E zTx,7,72):=by kernel_rfl
def Hx(s:St)(a:N):List N:=[s.id,s.thr,s.status,s.beg,s.fin,s.tri,a]
def CU(ps:List (St×N)):List N:=ps.flatMap λa=>Hx a.1 a.2
theorem Pz(ps:List (St×N))(s:St)(v:N):CU (ps++[(s,v)])=CU ps++Hx s v:=by simp[CU]
def Aaa(w:U)(A:Au)(r:Ending)(w':U):Prop:=∃d a,r=R d/\a.map Prod.fst=A.sts/\(∀b∈a,w'.ownsRow w Bu 8 b.2 b.1.deeds.length (BB b.1.deeds))/\w'.ownsRow w Bq 7 d A.sts.length (CU a)/\Below w w w'
theorem Aab{L:Nat}{w:U}{A:Au}{os:List Ob}{vo:N}(h:Sh L w A os k vo g m)(da:A.sts.length<=400)(a2:∀s∈A.sts,s.deeds.length<=400):
 Calls prog 83 #[Q (E ⟨k,0,O⟩)] w λb2 b3=>Aaa w A b2 b3:=by
 obtain⟨a3,db,dc,h,_⟩:=h;obtain⟨a4,a5,b4,a6,b5⟩:=A1 QV;obtain⟨a7,a8,b6,a9,b7⟩:=A1 Nl;obtain⟨b8,b9,rfl⟩:=Ag h.tx;have ba:w.cell? ⟨k,2,O⟩=E (C b8 A.sts.length b9):=h.box.cell 2;have bb:=h.box.lt;have H:=Af h;have ca:=Af a2;go_in;go_wp2_with (at_make;refine wpList_make_own _ rfl _ _ 97 rfl w.heap.size Bq a4 zTx 7 underlying97 a5 b4 a6 .i64 .i64 _ A.sts.length rfl rfl rfl (by rw[b5];omega) (by unfold Al;omega) (Aa _) ?_;intro af bc ag;have cb:=(ag.cell_far ⟨k,2,O⟩ bb (by simp)).trans ba;have cc:k<af.heap.size:=ED bb ag.size);have ah:=Af (show([]:List (St×N)).map Prod.fst=A.sts.take 0/\(∀p∈([]:List (St×N)),af.ownsRow w.heap.size Bu 8 p.2 p.1.deeds.length (BB p.1.deeds))/\af.ownsRow w.heap.size Bq 7 (C (E ⟨w.heap.size,0,O⟩) 0 A.sts.length) 0 (CU []) from⟨rfl,λp x=>by simp at x,bc⟩);have bd:=Af (show Below w.heap.size w af from(Zb w).grown ag (Aa _) (λa D=>by cases D))
 go_loopw [3,18] (λcd am wr=>∃(a:Nat) (e:List (St×N)),cd=C (E ⟨w.heap.size,0,O⟩) a A.sts.length/\am=I J a/\a<=A.sts.length/\e.map Prod.fst=A.sts.take a/\(∀p∈e,wr.ownsRow w.heap.size Bu 8 p.2 p.1.deeds.length (BB p.1.deeds))/\wr.ownsRow w.heap.size Bq 7 (C (E ⟨w.heap.size,0,O⟩) a A.sts.length) a (CU e)/\Below w.heap.size w wr) (λ_ am _=>401-(intOf am).toNat)
 case atStart=>exact⟨0,[],rfl,rfl,A9 _,ah.o.1,ah.o.2.1,ah.o.2.2,bd.o⟩
 case round=>
  obtain⟨a,e,rfl,rfl,dd,be,bf,G,an⟩:=hrel;have bg:=Af be;have ao:=Af bf;have ap:=Af G;have aq:=Af an;by_cases ai:a<A.sts.length
  .obtain⟨s,aj⟩:∃s,A.sts[a]?=E s:=⟨A.sts[a],An ai⟩;obtain⟨j,S⟩:∃j,a3[a]?=E j:=⟨a3[a]'(by rw[H.o.len];exact ai),An _⟩;have B:=H.o.call an;obtain⟨ce,de,cf,_,df,dh⟩:=MD B.tx (by omega);injection cf with cg _ ch;subst cg ch
   have di:wr.cell? ⟨ce,a,O⟩=E (Q (E ⟨j.b,0,O⟩)):=by
    rw[B.tx.cellAt a (by omega),EK,S];rfl
   have r:=B.st a s j aj S;have dj:wr.cell? ⟨j.b,0,O⟩=E (I J s.id):=r.blk.cell 0;have dk:wr.cell? ⟨j.b,1,O⟩=E (I J s.thr):=r.blk.cell 1;have dl:wr.cell? ⟨j.b,2,O⟩=E (I J s.status):=r.blk.cell 2;have dm:wr.cell? ⟨j.b,3,O⟩=E (I J s.beg):=r.blk.cell 3;have dn:wr.cell? ⟨j.b,4,O⟩=E (I J s.fin):=r.blk.cell 4;have dp:wr.cell? ⟨j.b,5,O⟩=E (I J s.tri):=r.blk.cell 5;obtain⟨l,t,ar⟩:=Ag r.row;have dq:wr.cell? ⟨j.b,6,O⟩=E (C l s.deeds.length t):=by rw[<-ar];exact r.blk.cell 6
   have dr:=r.blk.lt;have G:=r.row;rw[ar] at G;obtain⟨ds,dt,ci,bh,bi⟩:=Kl G;injection ci with cj _ ck;subst cj ck;have cl:=Af bh;have cn:=Af bi;have du:=ca.o s<|Ap aj;have dv:(0:Int)<=(a:Int):=by omega
   have dw:(a:Int)<(A.sts.length:Int):=by omega
   have co:=Af aj;go_upto_region 6 with fail;have W:Ah (wr.alloc (K #[I J s.id,I J s.thr,I J s.status,I J s.beg,I J s.fin,I J s.tri,C l s.deeds.length t] Bq)) wr.heap.size Bq #[I J s.id,I J s.thr,I J s.status,I J s.beg,I J s.fin,I J s.tri,C l s.deeds.length t]:=Ah.new wr Bq _;have au:(wr.alloc (K #[I J s.id,I J s.thr,I J s.status,I J s.beg,I J s.fin,I J s.tri,C l s.deeds.length t] Bq)).ownsRow w.heap.size Bq 7 (C (E ⟨w.heap.size,0,O⟩) a A.sts.length) a (CU e):=ap.o.alloc _;have av:∀p∈e,(wr.alloc (K #[I J s.id,I J s.thr,I J s.status,I J s.beg,I J s.fin,I J s.tri,C l s.deeds.length t] Bq)).ownsRow w.heap.size Bu 8 p.2 p.1.deeds.length (BB p.1.deeds):=λp x=>(ao.o p x).alloc _;have X:Below w.heap.size w (wr.alloc (K #[I J s.id,I J s.thr,I J s.status,I J s.beg,I J s.fin,I J s.tri,C l s.deeds.length t] Bq)):=aq.o.alloc aq.o.size _
   have B:∀u,l=E u->∃d,u=⟨d,0,O⟩/\d<(wr.alloc (K #[I J s.id,I J s.thr,I J s.status,I J s.beg,I J s.fin,I J s.tri,C l s.deeds.length t] Bq)).heap.size/\∀v o,(BB s.deeds)[v]?=E o->(wr.alloc (K #[I J s.id,I J s.thr,I J s.status,I J s.beg,I J s.fin,I J s.tri,C l s.deeds.length t] Bq)).cell? (u.add v)=E o:=λu Y=>by
    obtain⟨d,rfl,F,z⟩:=cn.o u Y;refine⟨d,rfl,by simp;omega,λv o Z=>?_⟩;have aa:=z v o Z;rw[EF,Ej] at aa|-;exact((Zc wr _).cell (p:=⟨d,v,O⟩) F).trans aa
   have dx:w.heap.size<wr.heap.size:=by
    rcases ap.o.2 with ⟨i,_⟩|⟨d,dy,cur,i,_,cp,_⟩
    .cases i
    .injection i with i _ _;injection i with i;injection i with i;subst i;exact AB cp
   generalize wr.alloc (K #[I J s.id,I J s.thr,I J s.status,I J s.beg,I J s.fin,I J s.tri,C l s.deeds.length t] Bq)=b at W au X B av|-
   have cq:∀ab:U,(Fw 151 (I J 0) (I J (s.deeds.length:Int))).run prog ab=.ok (C (E ⟨ab.heap.size,0,O⟩) 0 s.deeds.length) (ab.alloc (K (A2 Zk.cells (s.deeds.length*8)) Bu)):=λab=>by
    have h:=run_make (P:=prog) ab 151 Bu a7 Zk underlying151 a8 b6 .i64 .i64 0 s.deeds.length (Int.le_refl _) (by omega) (by rw[b7];omega) (by omega);simpa[a9] using h
   have bj:Hid ((b.alloc (K (A2 Zk.cells (s.deeds.length*8)) Bu)).drew.ownsRow b.heap.size Bu 8 (C (E ⟨b.heap.size,0,O⟩) 0 s.deeds.length) 0 []):=Af<|World.ownsRow_made (base:=b.heap.size) (e:=Bu) (size:=8) b (A2 Zk.cells (s.deeds.length*8)) s.deeds.length (Aa _) (by unfold Al;omega) (by simp[size_madeCells])
   have bk:Hid (∀u,l=E u->∀v o,(BB s.deeds)[v]?=E o->((b.alloc (K (A2 Zk.cells (s.deeds.length*8)) Bu)).drew).cell? (u.add v)=E o):=Af (λu Y v o Z=>by
    obtain⟨d,rfl,F,z⟩:=B u Y;have aa:=z v o Z;rw[EF,Ej] at aa|-;exact((Zc b (K (A2 Zk.cells (s.deeds.length*8)) Bu)).drew.cell (p:=⟨d,v,O⟩) F).trans aa)
   have bl:Hid (∀o∈BB s.deeds,o.oneCell'=true):=Af (λo Z=>by
    obtain⟨cr,_,j⟩:=FY.1 Z;exact Ki cr o j)
   have bm:Hid ((BB s.deeds).length=s.deeds.length*8):=Af<|DQ (n:=8) (λq=>FI q) s.deeds;have bn:Hid (Ah ((b.alloc (K (A2 Zk.cells (s.deeds.length*8)) Bu)).drew) wr.heap.size Bq #[I J s.id,I J s.thr,I J s.status,I J s.beg,I J s.fin,I J s.tri,C l s.deeds.length t]):=Af (W.alloc _).drew;have bo:Hid (((b.alloc (K (A2 Zk.cells (s.deeds.length*8)) Bu)).drew).ownsRow w.heap.size Bq 7 (C (E ⟨w.heap.size,0,O⟩) a A.sts.length) a (CU e)):=Af (au.alloc _).drew;have aw:Hid (Below w.heap.size w ((b.alloc (K (A2 Zk.cells (s.deeds.length*8)) Bu)).drew)):=Af (X.alloc X.size _).drew;have bp:=Af av;have dz:=W.lt;have d0:=W.cell 6;have ax:Hid (w.heap.size<=b.heap.size):=Af X.size
   go_cut [33] from 26 to 33 (λ_ ac=>∃q c,Ah ac wr.heap.size Bq #[I J s.id,I J s.thr,I J s.status,I J s.beg,I J s.fin,I J s.tri,C q s.deeds.length c]/\ac.ownsRow w.heap.size Bq 7 (C (E ⟨w.heap.size,0,O⟩) a A.sts.length) a (CU e)/\Below w.heap.size w ac/\ac.ownsRow w.heap.size Bu 8 (C q s.deeds.length c) s.deeds.length (BB s.deeds)/\(∀p∈e,ac.ownsRow w.heap.size Bu 8 p.2 p.1.deeds.length (BB p.1.deeds)))
   case first=>
    go_region_law ((refine Bv (by rfl) (.tmp 29) (.tmp 31) 151 (by rfl) b.heap.size Bu a7 8 underlying151 a8 a9 b.heap.size 0 s.deeds.length [] (by rfl) bj.o l s.deeds.length t (BB s.deeds) (by rfl) bm.o cl.o bk.o bl.o (by omega) ?_;intro d1 cs ak;have al:=bn.o.grown ak (by simp;omega);have bq:=al.cell 6;have d2:=al.frozen 6;have ct:=al.lt))
    all_goals go_wp2_with fail
    all_goals go_meet
    all_goals
     refine⟨_,_,by simpa using al.put 6 (C (E ⟨b.heap.size,0,O⟩) s.deeds.length s.deeds.length),?_,?_,?_,?_⟩
     .refine Ak (AK bo.o (λd d3 D S=>ak.block d (AB S) (λi=>?_))) (p:=⟨wr.heap.size,6,O⟩) (by simp[A5];omega) _;have d4:w.heap.size=d:=Option.some.inj D;have d5:d=b.heap.size:=Option.some.inj i;omega
     .exact(aw.o.grown ak aw.o.size (λcu z=>by injection z with z;have:=ax.o;omega)).setCell (p:=⟨wr.heap.size,6,O⟩) (by simp;omega) _
     .exact Ak (Aw (by simpa using cs) ax.o) (p:=⟨wr.heap.size,6,O⟩) (by simp[A5];omega) _
     .intro p x;have ay:((b.alloc (K (A2 Zk.cells (s.deeds.length*8)) Bu)).drew).ownsRow w.heap.size Bu 8 p.2 p.1.deeds.length (BB p.1.deeds):=((bp.o p x).alloc _).drew;have cv:=Ha ay (λd F az=>ak.block d az (λi=>by have br:=(Ai (bp.o p x) F).2;have d6:=Option.some.inj i;omega));exact Ak cv (p:=⟨wr.heap.size,6,O⟩) (λD=>by have br:=(Ai (ao.o p x) D).2;simp at br) _
   case rest=>
   obtain⟨q,c,y,bs,a0,bt,bu⟩:=hcut;have cw:=Af bt;have cx:=Af bu;obtain⟨ad,rfl⟩:∃ad:U,ad=wc:=⟨_,rfl⟩;have d7:=Af y;have bv:=Af bs;have bw:=Af a0;have cy:=y.cell 0;have cz:=y.cell 1;have c0:=y.cell 2;have c1:=y.cell 3;have c2:=y.cell 4;have c3:=y.cell 5;have bq:=y.cell 6;have ct:=y.lt;have c4:=Af a0.size;go_wp2_with (at_builtin;refine wpList_append_fits_any _ rfl (.tmp 34) (.tmp 36) 97 rfl w.heap.size Bq a4 7 underlying97 a5 a6 w.heap.size a A.sts.length (CU e) rfl (bv.o.alloc _) (E ⟨ad.heap.size,0,O⟩) 1 1 (Hx s (.slice q s.deeds.length c)) rfl rfl (λD=>by cases D) (λu Y=>by obtain rfl:=Option.some.inj Y;exact Ee (D4 ad _)) (by simp[Hx,B4]) (by omega) ?_;intro bz b0 a1);have c5:=Af (show(e++[(s,Ar q s.deeds.length c)]).map Prod.fst=A.sts.take (a+1) from by rw[List.map_append,bg.o,EO,co.o];rfl)
   have c6:=Af (show∀p∈e++[(s,Ar q s.deeds.length c)],bz.ownsRow w.heap.size Bu 8 p.2 p.1.deeds.length (BB p.1.deeds) from λp x=>by
    have b1:∀M∈e++[(s,Ar q s.deeds.length c)],ad.ownsRow w.heap.size Bu 8 M.2 M.1.deeds.length (BB M.1.deeds):=λM ae=>by
     rcases List.mem_append.1 ae with ae|ae
     .exact cx.o M ae
     .obtain rfl:M=_:=by simpa using ae
      exact cw.o
    have ay:=(b1 p x).alloc<|K (Hx s (C q s.deeds.length c)).toArray Bq;exact Ha ay (λd F az=>a1.block d az (λi=>(C2.row (b1 p x) F).ne (C2.row bv.o rfl) (by decide) (Option.some.inj i))))
   have c7:=Af (show bz.ownsRow w.heap.size Bq 7 (C (E ⟨w.heap.size,0,O⟩) (a+1) A.sts.length) (a+1) (CU (e++[(s,Ar q s.deeds.length c)])) from by rw[Pz];exact b0);have c8:=Af<|(bw.o.alloc bw.o.size (K (Hx s (C q s.deeds.length c)).toArray Bq)).grown a1 (by have:=c4.o;simp;omega) (λcu z=>by injection z with z;omega);go_wp2
   go_roundw
   case rel=>exact⟨a+1,_,rfl,by go_num,by omega,c5.o,c6.o,c7.o,c8.o⟩
   case measure=>simp[intOf];omega
  .have d8:decide (a<A.sts.length)=false:=by simpa using ai
   have c9:a=A.sts.length:=by omega
   subst c9;go_wp2;go_ret;exact⟨_,e,rfl,by rw[bg.o,Ex],ao.o,ap.o,aq.o⟩
theorem WP{W:U}{B:Nat}{v:N}{A:Au}{ps:List (St×N)}(e:ps.map Prod.fst=A.sts)(i:∀a∈ps,W.ownsRow B Bu 8 a.2 a.1.deeds.length (BB a.1.deeds))(j:W.ownsRow B Bq 7 v A.sts.length (CU ps)):DD 7 D3 W v A.sts:=by
 have k:ps.length=A.sts.length:=by rw[<-e,List.length_map]
 refine DD.of_row (rows:=ps.map λa=>Hx a.1 a.2) (B:=B) (t:=Bq) ?_ (by simpa using k) (λm n l d b=>?_) (λl b=>?_)
 .rw[show(ps.map λa=>Hx a.1 a.2).flatten=CU ps by simp[CU,List.flatMap]];exact j
 .rw[EK] at b;obtain⟨a,g,rfl⟩:=Eo.1 b;rw[<-e,EK,g] at d;simp at d;subst d;refine⟨by simp[Hx],a.2,rfl,?_⟩;exact Ba.of_row (i a (Ap g)) (λo=>by simp[Qj,Bl]) rfl
 .obtain⟨a,_,rfl⟩:=List.mem_map.1 b;simp[Hx]
def Af4(w:U)(os:List Ob)(es:List Ev)(r:Ending)(w':U):Prop:=Below w w w'/\((∃a b,Bn os es/\AR es=E a/\r=R (.tuple #[b,.nilIface])/\DD 7 D3 w' b a)∨(¬(Bn os es/\(AR es).isSome)/\∃d,Gk d/\r=R (.tuple #[C O 0 0,d])))
theorem Jj{w:U}{vo vl:N}{os:List Ob}{es:List Ev}(d:Ba 2 CL w vo os)(e:Ba 8 BO w vl es)(o:∀D∈os,D.kind<=9223372036854775807)(p:∀g∈es,AU g.kind/\g.ret<=9223372036854775807)(q:AE w):
 Calls prog 36 #[.agg #[vo,vl]] w λi F=>Af4 w os es i F:=by
 obtain⟨G,L,rfl⟩:=d.shape;obtain⟨M,S,rfl⟩:=e.shape;have a:=Zc w<|K #[C G os.length L,C M es.length S] AI;have W:=Af a;have j:=Af<|Acm (d.below a) (e.below a) o p (q.below a);go_in;go_wp2_with fail;refine j.o.mono ?_;rintro i ah ⟨k,X⟩;have l:=Af<|W.o.trans (k.mono (by simp));rcases X with ⟨r,ai,aj,ak,al,am,b,t,m,Y,rfl,u,Z⟩|⟨v,g,⟨an,ao,rfl⟩,rfl⟩
 .have x:r.sts.length<=400:=by have:=m.len;have:=b.2.1;omega
  have aa:=Af<|Aab u x (λs ab=>by have:=(m.each s ab).1;have:=b.2.1;omega);have ac:=Af b;have ad:Hid (AR es=r.sts):=Af (by unfold AR;rw[t];rfl);go_wp2_with fail;refine aa.o.mono ?_;rintro i ap ⟨aq,ar,rfl,y,z,n,A⟩;have ae:=Af<|WP y z n;obtain⟨au,av,rfl⟩:=Ag n;have af:=Af<|l.o.trans (A.mono l.o.size);go_wp2;go_ret2;exact⟨af,.inl ⟨_,_,ac,ad,rfl,ae⟩⟩
 .have ag:Hid (¬(Bn os es/\(AR es).isSome)):=Af (λh=>v ⟨h.1,by have B:=h.2;unfold AR at B;simpa using B⟩);go_wp2;go_ret2;exact⟨l,.inr ⟨ag,_,⟨_,_,rfl⟩,rfl⟩⟩
theorem Dl{w0:U}{s:St}{q:List N}(h:D3 w0 s q)(level:Int)(w:U):Calls prog 59 #[.agg q.toArray,level] w λt u=>t=R (Be s level)/\Below w w u:=by
 obtain⟨y,rfl,n⟩:=h;obtain⟨o,p,rfl⟩:=n.shape;have g:=Af<|Zc w (K #[s.id,s.thr,s.status,s.beg,s.fin,s.tri,C o s.deeds.length p] Bq);have v:=Af<|Ah.new w Bq #[s.id,s.thr,s.status,s.beg,s.fin,s.tri,C o s.deeds.length p];have z:=v.o.cell 2;obtain⟨b,i⟩:∃b,b=Be s level:=⟨_,rfl⟩;rw[<-i];have j:=Af i;by_cases a:level=1
 .have r:(level==1)=true:=by simp[a]
  have d:Hid (b=(s.status==3||s.status==2)):=Af (by rw[j.o];unfold Be;rw[if_pos (.inl a)])
  cases k:(s.status==3)<;>cases l:(s.status==2)
  all_goals
   have m:=Af<|d.o.trans (by rw[k,l]);go_in;go_wp2;go_ret;exact⟨by rw[m.o];rfl,g⟩
 .by_cases e:level=2
  .have r:(level==1)=false:=by simp[a]
   have x:(level==2)=true:=by simp[e]
   have d:Hid (b=(s.status==3||s.status==2)):=Af (by rw[j.o];unfold Be;rw[if_pos (.inr e)])
   cases k:(s.status==3)<;>cases l:(s.status==2)
   all_goals
    have m:=Af<|d.o.trans (by rw[k,l]);go_in;go_wp2;go_ret;exact⟨by rw[m.o];rfl,g⟩
  .have r:(level==1)=false:=by simp[a]
   have x:(level==2)=false:=by simp[e]
   have d:Hid (b=(level==3)):=Af (by rw[j.o];unfold Be;rw[if_neg (by omega)]);go_in;go_wp2;go_ret;exact⟨by rw[d.o];rfl,g⟩
theorem Jk{W X:U}{a b:St}{q n:List N}(v:D3 W a q)(x:D3 X b n)(w:U):Calls prog 146 #[.agg q.toArray,.agg n.toArray] w λy z=>y=R (B8 a b)/\Below w w z:=by
 obtain⟨D,rfl,o⟩:=v;obtain⟨e,g,rfl⟩:=o.shape;obtain⟨F,rfl,p⟩:=x;obtain⟨i,j,rfl⟩:=p.shape;have r:=Af<|AG w (K #[a.id,a.thr,a.status,a.beg,a.fin,a.tri,C e a.deeds.length g] Bq) (K #[b.id,b.thr,b.status,b.beg,b.fin,b.tri,C i b.deeds.length j] Bq);have A:=Af<|Bo w (K #[a.id,a.thr,a.status,a.beg,a.fin,a.tri,C e a.deeds.length g] Bq) Bq #[b.id,b.thr,b.status,b.beg,b.fin,b.tri,C i b.deeds.length j];have B:=Af<|(Ah.new w Bq #[a.id,a.thr,a.status,a.beg,a.fin,a.tri,C e a.deeds.length g]).alloc (K #[b.id,b.thr,b.status,b.beg,b.fin,b.tri,C i b.deeds.length j] Bq);have G:=B.o.cell 4;have L:=A.o.cell 3;obtain⟨d,k⟩:∃d,d=B8 a b:=⟨_,rfl⟩;rw[<-k];have t:=Af k;clear o p k;by_cases u:0<=a.fin
 .have l:decide (0<=a.fin)=true:=by simpa using u
  have m:Hid (d=decide (a.fin<b.beg)):=Af (by rw[t.o];unfold B8;rw[l];rfl);go_in;go_wp2;go_ret;exact⟨by rw[m.o];rfl,r⟩
 .have l:decide (0<=a.fin)=false:=by simpa using u
  have m:Hid (d=false):=Af (by rw[t.o];unfold B8;rw[l];rfl);go_in;go_wp2;go_ret;exact⟨by rw[m.o];rfl,r⟩
theorem JF(n:Nat)(h:n<4096):IntKind.i64.wrap (n:Int)=(n:Int):=by rw[Ey];omega
theorem Aad(d:a<4096)(e:b<4096):bits .or .i64 (a:Int) (b:Int)=((a|||b:Nat):Int):=by
 show IntKind.i64.wrap ((Ft 64 (a:Int)|||Ft 64 (b:Int)).toNat:Int)=_;rw[Is,Is,BitVec.toNat_or,It,It,Iu (by omega),Iu (by omega)];exact JF _<|I5 (n:=12) d e
theorem WR(d:a<4096)(e:b<4096):bits .and .i64 (a:Int) (b:Int)=((a&&&b:Nat):Int):=by
 show IntKind.i64.wrap ((Ft 64 (a:Int)&&&Ft 64 (b:Int)).toNat:Int)=_;rw[Is,Is,BitVec.toNat_and,It,It,Iu (by omega),Iu (by omega)];exact JF _<|H5 Nat.and_le_left d
theorem ME(h:i<12):1<<<i<4096:=by
 rw[Gc,HR];exact I6 (by omega) (n:=12) h
theorem Aae(h:i<12):IntKind.i64.wrap (2^i)=((1<<<i:Nat):Int):=by
 have a:=JF _<|ME h;rw[Gc,HR] at a|-;rw[<-a];simp
theorem WS(a:m<4096)(h:i<12):bits .or .i64 (m:Int) (IntKind.i64.wrap (2^i))=((m|||1<<<i:Nat):Int):=by
 rw[Aae h,Aad a (ME h)]
def Kn(l:List Nat):List N:=l.map λ(m:Nat)=>(m:Int)
theorem Sl{l:List Nat}(h:l[j]?=m):(Kn l)[j]?=E (m:Int):=by simp[Kn,h]
theorem WT(l:List Nat)(j m:Nat):(Kn l).toArray.setIfInBounds j (m:Int)=(Kn (l.set j m)).toArray:=by
 simp[Kn,List.map_set]
theorem TG(n:Nat):A2 #[A0 .i64 0] n=(Kn (HS n 0)).toArray:=by
 apply Array.ext';rw[toList_madeCells_one];simp[Kn]
structure MsK (level:Int) (l:List St) (ms:List Nat) (k:Nat):Prop where
 len:ms.length=l.length
 old:∀j,j<k->ms[j]?=(CV level l)[j]?
 new:∀j,k<=j->j<l.length->ms[j]?=E 0
structure VG (level:Int) (l:List St) (ms:List Nat) (k:Nat) (b:St) (i m:Nat):Prop where
 len:ms.length=l.length
 old:∀j,j<k->ms[j]?=(CV level l)[j]?
 new:∀j,k<j->j<l.length->ms[j]?=E 0
 at_:ms[k]?=m
 tx:l[k]?=b
 small:m<1<<<i
 eq:Dm level b i (l.drop i) m=Dm level b 0 l 0
theorem MsK.none(level:Int)(l:List St):MsK level l (HS l.length 0) 0:=⟨by simp,λa h=>by omega,λa _ h=>by simp[h]⟩
section
variable {level:Int} {l:List St} {ms:List Nat} {k:Nat} {b a:St} {i m:Nat}
theorem MsK.all(h:MsK level l ms l.length):ms=CV level l:=by
 refine List.ext_getElem? λa=>?_;by_cases b:a<l.length
 .exact h.old a b
 .rw[EP (by have:=h.len;omega),EP (by simp[CV];omega)]
theorem MsK.start(h:MsK level l ms k)(a:l[k]?=b):VG level l ms k b 0 0:=
 ⟨h.len,h.old,λd g e=>h.new d (by omega) e,h.new k (Aa _) (Am.1 a).1,a,by simp,by simp⟩
theorem VG.skip(h:VG level l ms k b i m)(d:l[i]?=a)(e:¬(level≠1/\B8 a b=true)):VG level l ms k b (i+1) m:=by
 refine⟨h.len,h.old,h.new,h.at_,h.tx,ED h.small (by rw[Gc,Gc,Nat.pow_succ];omega),?_⟩;rw[<-h.eq];let⟨g,d⟩:=Am.1 d;rw[FX g,d];show _=Dm level b (i+1) (l.drop (i+1)) (if level≠1/\B8 a b=true then m|||1<<<i else m);rw[if_neg e]
theorem VG.put(h:VG level l ms k b i m)(d:l[i]?=a)(j:level≠1/\B8 a b=true):VG level l (ms.set k (m|||1<<<i)) k b (i+1) (m|||1<<<i):=by
 have n:=(Am.1 h.tx).1;refine⟨by simp[h.len],λe g=>?_,λe g o=>?_,?_,h.tx,?_,?_⟩
 .rw[Et (by omega)];exact h.old e g
 .rw[Et (by omega)];exact h.new e g o
 .rw[List.getElem?_set_self (by rw[h.len];exact n)]
 .have p:=h.small;simp only[Gc,HR] at p|-;have q:2^i<2^(i+1):=I6 (by omega) (by omega);exact I5 (by omega) q
 .rw[<-h.eq];let⟨r,d⟩:=Am.1 d;rw[FX r,d];show _=Dm level b (i+1) (l.drop (i+1)) (if level≠1/\B8 a b=true then m|||1<<<i else m);rw[if_pos j]
theorem VG.done(h:VG level l ms k b l.length m):MsK level l ms (k+1):=by
 refine⟨h.len,λa e=>?_,λa e g=>h.new a (by omega) g⟩;by_cases i:a<k
 .exact h.old a i
 .obtain rfl:a=k:=by omega
  have d:=h.eq;rw[HQ] at d;rw[h.at_,CV,EK,h.tx];simp only[Option.map_some];rw[<-d];rfl
theorem VG.lt(h:VG level l ms k b i m)(d:i<=12):m<4096:=by
 have a:=h.small;rw[Gc,HR] at a;exact ED a<|Nat.pow_le_pow_right (by omega) d
end
abbrev tTl:Ab:=97
def GN{α:Type}(n:Nat)(t:Ab)(R:World→α→List Value→Prop)(w0:World)(B:Nat)(w:World)(v:Value)(l:List α):Prop:=∃a:List (List Value),a.length=l.length∧w.ownsRow B t n v l.length a.flatten∧∀(d:Nat) (e:α) (b:List Value),l[d]?=some e→a[d]?=some b→b.length=n∧R w0 e b
section
variable {α:Type} {n:Nat} {t:TypeId} {R:World→α→List Value→Prop} {w0 w w':World} {B:Nat} {v:Value} {l:List α}
theorem WU{rows:List (List Value)}(h:rows.length=l.length)(e:∀(b:Nat) (x:α) (a:List Value),l[b]?=some x→rows[b]?=some a→a.length=n∧R w0 x a):∀a∈rows,a.length=n:=by
 intro a g
 obtain⟨b,d⟩:=E8 g
 have i:=(Am.1 d).1
 exact(e b _ a (An (by omega)) d).1
theorem GN.read(k:RY R)(h:GN n t R w0 B w v l)(m:Below w0.heap.size w0 w):DD n R w v l:=by
 obtain⟨p,b,o,a⟩:=h
 exact DD.of_row o b (fun d e g i j=>⟨(a d e g i j).1,k _ _ _ _ m (a d e g i j).2⟩) (WU b a)
theorem GN.nil(n:Nat)(t:Ab)(R:World→α→List Value→Prop)(w0:World)(B:Nat)(w:World):GN n t R w0 B w (.slice none 0 0) ([]:List α):=⟨[],rfl,⟨by simp,.inl ⟨rfl,rfl⟩⟩,fun a b d h=>by simp at h⟩
theorem GN.call(h:GN n t R w0 B w v l)(a:Below w.heap.size w w'):GN n t R w0 B w' v l:=by
 obtain⟨b,d,e,g⟩:=h
 exact⟨b,d,AA e a,g⟩
theorem GN.snoc{rows:List (List Value)}{x:α}{q:List Value}(e:rows.length=l.length)(g:∀(a:Nat) (x:α) (q:List Value),l[a]?=some x→rows[a]?=some q→q.length=n∧R w0 x q)(i:q.length=n)(j:R w0 x q)(h:w.ownsRow B t n v (l.length+1) (rows.flatten++q)):GN n t R w0 B w v (l++[x]):=by
 refine⟨rows++[q],by simp [e],by simpa using h,fun a k m b d=> ?_⟩
 by_cases o:a<l.length
 ·rw[Ek o] at b
  rw[Ek (by omega)] at d
  exact g a k m b d
 ·have p:=(Am.1 b).1
  simp at p
  obtain rfl:a=l.length:=by omega
  simp at b
  rw [List.getElem?_append_right (by omega),e] at d
  simp at d
  subst b d
  exact⟨i,j⟩
end
theorem D3.cells{w:World}{s:St}{q:List Value}(h:D3 w s q):∃a c,q=[.int .i64 s.id,.int .i64 s.thr,.int .i64 s.status,.int .i64 s.beg,.int .i64 s.fin,.int .i64 s.tri,.slice a s.deeds.length c]:=by
 obtain⟨d,rfl,b⟩:=h
 obtain⟨a,c,rfl⟩:=b.shape
 exact⟨a,c,rfl⟩
theorem D3.one{w:World}{x:St}{q:List Value}(h:D3 w x q):∀u∈q,u.oneCell'=true:=by
 obtain⟨b,c,rfl⟩:=h.cells
 intro u a
 simp at a
 rcases a with rfl|rfl|rfl|rfl|rfl|rfl|rfl<;>rfl
theorem Aev(d:Func){i j:Nat}(hF:d.results= #[.tmp i,.tmp j])(tmps:Array Value)(W:World)(a b:Value)(e:tmps.getD i Ac=a)(g:tmps.getD j Ac=b):
 (As d tmps).run prog W=.ok (.tuple #[a,b]) W:=by
 have k:tmps[i]?.getD Ac=a:=by simpa using e
 have l:tmps[j]?.getD Ac=b:=by simpa using g
 simp[As,hF,k,l,go_sem]
abbrev Aew:=GN 7 Bq D3
theorem TH{w:World}{v:Value}{txs:List St}{level:Int}(h:DD 7 D3 w v txs)(ek:1≤level∧level≤3)(el:txs.length≤12):
 Calls prog 86 #[v,.int .i64 level] w fun az w'=>∃a0 c,az=.returned (.tuple #[.slice (some ⟨a0,0,none⟩) c c,.nilIface])∧c=(CV level (txs.filter (Be · level))).length∧w.heap.size≤a0∧Ah w' a0 tI (Kn (CV level (txs.filter (Be · level)))).toArray∧Below w.heap.size w w':=by
 obtain⟨b3,c5,c6,c7,c8⟩:=A1 QV
 obtain⟨em,en,rfl⟩:=h.shape
 have c9:=Af h
 have eo:¬(level<1):=by omega
 have ep:¬((3:Int)<level):=by omega
 go_enter func86,ntmps86
 go_wp2
 go_loopw [6,23] (fun da a1 wr=>∃(e:Nat) (l:List St),a1=.int .i64 e∧e≤txs.length∧Hid (l=(txs.take e).filter (Be · level))∧Aew w w.heap.size wr da l∧Below w.heap.size w wr) (fun _ a1 _=>13-(intOf a1).toNat)
 case atStart=>exact⟨0,[],rfl,A9 _,Af rfl,GN.nil 7 Bq D3 w w.heap.size w,Ae _ _⟩
 case round=>
  obtain⟨e,l,rfl,db,a2,b4,q⟩:=hrel
  have L:=Af q
  have b5:=Af b4
  have A:Hid (l.length≤12):=Af (by rw[a2.o];exact A8 (List.length_filter_le _ _) (by simp;omega))
  obtain⟨a3,b6,a4,b7⟩:=b4
  obtain⟨dc,dd,de⟩:=Ag a4
  subst de
  have a5:=Af b6
  have b8:=Af a4
  have a6:=Af b7
  by_cases F:e<txs.length
  ·obtain⟨s,a7⟩:∃s,txs[e]?=some s:=⟨txs[e],An F⟩
   obtain⟨df,eq,er,dh,_,_,_,di,a8,g⟩:=c9.o.at a7
   subst dh
   have a9:=Af a8
   obtain⟨Y,Z,rfl⟩:=a8.cells
   have m:=(q.cell (Ad w _ (g 0 _ rfl))).trans (g 0 _ rfl)
   have ad:=(q.cell (Ad w _ (g 1 _ rfl))).trans (g 1 _ rfl)
   have ae:=(q.cell (Ad w _ (g 2 _ rfl))).trans (g 2 _ rfl)
   have af:=(q.cell (Ad w _ (g 3 _ rfl))).trans (g 3 _ rfl)
   have ag:=(q.cell (Ad w _ (g 4 _ rfl))).trans (g 4 _ rfl)
   have ah:=(q.cell (Ad w _ (g 5 _ rfl))).trans (g 5 _ rfl)
   have ai:=(q.cell (Ad w _ (g 6 _ rfl))).trans (g 6 _ rfl)
   rw[EV] at m
   have dj:df<wr.heap.size:=Ad wr _ m
   have dk:(0:Int)≤(e:Int):=by omega
   have dl:(e:Int)<(txs.length:Int):=by omega
   have ar:Hid ((txs.take (e+1)).filter (Be · level)=l++if Be s level then [s] else []):=Af (by
    rw[a2.o,EO,a7,List.filter_append]
    congr 1
    simp only [Option.toList,List.filter_cons,List.filter_nil])
   have r:=Af F
   have b9:=Af (fun w=>Dl a9.o level w)
   have dm:=Af (Ah.new wr Bq #[.int .i64 s.id,.int .i64 s.thr,.int .i64 s.status,.int .i64 s.beg,.int .i64 s.fin,.int .i64 s.tri,.slice Y s.deeds.length Z])
   obtain⟨b,rfl⟩:∃b:World,b=wr:=⟨_,rfl⟩
   go_wp2_with fail
   refine(b9.o _).mono ?_
   rintro az u ⟨rfl,au⟩
   have aj:=Af ((L.o.alloc L.o.size (.cells #[.int .i64 s.id,.int .i64 s.thr,.int .i64 s.status,.int .i64 s.beg,.int .i64 s.fin,.int .i64 s.tri,.slice Y s.deeds.length Z] Bq)).trans (au.mono (by have:=L.o.size;simp;omega)))
   have G:=Af (dm.o.below au (by simp))
   have ba:=Af (AA (b8.o.alloc (.cells #[.int .i64 s.id,.int .i64 s.thr,.int .i64 s.status,.int .i64 s.beg,.int .i64 s.fin,.int .i64 s.tri,.slice Y s.deeds.length Z] Bq)) au)
   have ca:=G.o.cell 0
   have es:=G.o.cell 1
   have et:=G.o.cell 2
   have eu:=G.o.cell 3
   have ev:=G.o.cell 4
   have ew:=G.o.cell 5
   have ex:=G.o.cell 6
   have cb:=G.o.lt
   cases B:Be s level with
   |false=>
    rw [B] at ar
    go_wp2
    go_roundw
    case rel=>exact⟨e+1,l,by have:=r.o;go_num,r.o,Af (by rw [ar.o];simp),⟨a3,a5.o,ba.o,a6.o⟩,aj.o⟩
    case measure=>simp [intOf];have:=r.o;omega
   |true=>
    rw [B] at ar
    go_wp2_with (at_builtin;refine B9 _ rfl (.tmp 30) (.tmp 32) tTl rfl w.heap.size Bq b3 zTx 7 72 underlying97 c5 c6 c7 c8 rfl (by decide) (.slice dc l.length dd) l.length a3.flatten rfl (ba.o.alloc _) ⟨u.heap.size,0,none⟩ 1 1 [.int .i64 s.id,.int .i64 s.thr,.int .i64 s.status,.int .i64 s.beg,.int .i64 s.fin,.int .i64 s.tri,.slice Y s.deeds.length Z] rfl rfl (Ee (cs:= #[.int .i64 s.id,.int .i64 s.thr,.int .i64 s.status,.int .i64 s.beg,.int .i64 s.fin,.int .i64 s.tri,.slice Y s.deeds.length Z]) (t:=Bq) (fr:=(0,0)) (D4 u _)) a9.o.one (by have:=A.o;unfold Al;omega) (by have:=A.o;omega) (by have:=aj.o.size;simp;omega) ?_;intro ey ez cc cd _ _)
    have dn:=Af ((aj.o.alloc aj.o.size (.cells #[.int .i64 s.id,.int .i64 s.thr,.int .i64 s.status,.int .i64 s.beg,.int .i64 s.fin,.int .i64 s.tri,.slice Y s.deeds.length Z] Bq)).grown cd (by have:=aj.o.size;simp;omega) (fun e0 dp=>(Ai ba.o dp).1))
    have dq:=Af (GN.snoc a5.o a6.o rfl a9.o cc)
    go_wp2
    go_roundw
    case rel=>exact⟨e+1,l++[s],by have:=r.o;go_num,r.o,Af (by rw [ar.o];simp),dq.o,dn.o⟩
    case measure=>simp [intOf];have:=r.o;omega
  ·have ce:decide (e<txs.length)=false:=by simpa using F
   have cf:e=txs.length:=by omega
   have cg:Hid (l=txs.filter (Be · level)):=Af (by rw[a2.o,cf,Ex])
   have e1:¬((62:Int)<(l.length:Int)):=by have:=A.o;omega
   obtain⟨b,rfl⟩:∃b:World,b=wr:=⟨_,rfl⟩
   have ch:=Af (b5.o.read D3.keeps (L.o.mono (by omega)))
   obtain⟨dr,ci,cj,ck,cl⟩:=A1 Mr
   have ds:∀ak:World,(Fw 47 (.int .i64 (l.length:Int)) (.int .i64 (l.length:Int))).run prog ak=.ok (.slice (some ⟨ak.heap.size,0,none⟩) l.length l.length) (ak.alloc (.cells (A2 #[A0 .i64 0] l.length) tI)):=fun ak=>by
    have e2:=A.o
    have h:=run_make (P:=prog) ak 47 3 dr (.int .i64 0) underlying47 ci cj .i64 .i64 l.length l.length (by omega) (by omega) (by rw [cl];omega) (by omega)
    simpa[ck,F2] using h
   go_upto_region 13 with fail
   have cn:Hid (Ah (b.alloc (.cells (A2 #[A0 .i64 0] l.length) tI)) b.heap.size tI (Kn (HS l.length 0)).toArray):=Af (by have al:=Ah.new b tI (A2 #[A0 .i64 0] l.length);rw[TG] at al⊢;exact al)
   have co:Hid (Below b.heap.size b (b.alloc (.cells (A2 #[A0 .i64 0] l.length) tI))):=Af ((Ae _ _).alloc (Aa _) _)
   generalize b.alloc (.cells (A2 #[A0 .i64 0] l.length) tI)=e3 at cn co⊢
   have dt:=Af (MsK.none level l)
   go_wp2
   go_loopw [44] (fun bb cp=>∃(e:Nat) (av:List Nat),bb=.int .i64 e∧e≤l.length∧Hid (MsK level l av e)∧Below b.heap.size b cp∧Ah cp b.heap.size tI (Kn av).toArray) (fun bb _=>13-(intOf bb).toNat)
   case atStart=>exact⟨0,_,rfl,A9 _,dt,co.o,cn.o⟩
   case round=>
    obtain⟨k1,av,rfl,du,cq,x,bc⟩:=hrel
    have aw:=Af x
    have bd:=Af bc
    by_cases F:k1<l.length
    ·obtain⟨a,be⟩:∃s,l[k1]?=some s:=⟨l[k1],An F⟩
     have dv:=Af (cq.o.start be)
     obtain⟨cr,dw,e4,dx,-,-,-,dy,bf,i⟩:=ch.o.at be
     have dz:=Af bf
     obtain⟨M,S,rfl⟩:=bf.cells
     have m:=(x.cell (Ad b _ (i 0 _ rfl))).trans (i 0 _ rfl)
     have ad:=(x.cell (Ad b _ (i 1 _ rfl))).trans (i 1 _ rfl)
     have ae:=(x.cell (Ad b _ (i 2 _ rfl))).trans (i 2 _ rfl)
     have af:=(x.cell (Ad b _ (i 3 _ rfl))).trans (i 3 _ rfl)
     have ag:=(x.cell (Ad b _ (i 4 _ rfl))).trans (i 4 _ rfl)
     have ah:=(x.cell (Ad b _ (i 5 _ rfl))).trans (i 5 _ rfl)
     have ai:=(x.cell (Ad b _ (i 6 _ rfl))).trans (i 6 _ rfl)
     rw[EV] at m
     have d0:cr<wr.heap.size:=Ad wr _ m
     subst dx
     have dk:(0:Int)≤(k1:Int):=by omega
     have dl:(k1:Int)<(l.length:Int):=by omega
     have r:=Af F
     go_upto_region 16 with fail
     have bg:=Af (Ah.new wr Bq #[.int .i64 a.id,.int .i64 a.thr,.int .i64 a.status,.int .i64 a.beg,.int .i64 a.fin,.int .i64 a.tri,.slice M a.deeds.length S])
     have ct:=Af (aw.o.alloc aw.o.size (.cells #[.int .i64 a.id,.int .i64 a.thr,.int .i64 a.status,.int .i64 a.beg,.int .i64 a.fin,.int .i64 a.tri,.slice M a.deeds.length S] Bq))
     have cu:=Af (bd.o.alloc (.cells #[.int .i64 a.id,.int .i64 a.thr,.int .i64 a.status,.int .i64 a.beg,.int .i64 a.fin,.int .i64 a.tri,.slice M a.deeds.length S] Bq))
     have d1:=Af ((Ae wr.heap.size wr).alloc (Aa _) (.cells #[.int .i64 a.id,.int .i64 a.thr,.int .i64 a.status,.int .i64 a.beg,.int .i64 a.fin,.int .i64 a.tri,.slice M a.deeds.length S] Bq))
     obtain⟨u,rfl⟩:∃u:World,u=wr:=⟨_,rfl⟩
     generalize u.alloc (.cells #[.int .i64 a.id,.int .i64 a.thr,.int .i64 a.status,.int .i64 a.beg,.int .i64 a.fin,.int .i64 a.tri,.slice M a.deeds.length S] Bq)=e5 at bg ct cu d1⊢
     go_wp2
     go_loopw [51] (fun bh ax=>∃(bi:Nat) (n:Nat) (W:List Nat),bh=.int .i64 bi∧bi≤l.length∧Hid (VG level l W k1 a bi n)∧Below b.heap.size b ax∧Ah ax b.heap.size tI (Kn W).toArray∧Ah ax u.heap.size Bq #[.int .i64 a.id,.int .i64 a.thr,.int .i64 a.status,.int .i64 a.beg,.int .i64 a.fin,.int .i64 a.tri,.slice M a.deeds.length S]∧u.heap.size<ax.heap.size) (fun bh _=>13-(intOf bh).toNat)
     case atStart=>exact⟨0,0,av,rfl,A9 _,dv,ct.o,cu.o,bg.o,bg.o.lt⟩
     case round=>
      obtain⟨k2,n,W,rfl,d2,aa,y,bj,o,cv⟩:=hrel
      have bk:=Af y
      have cw:=Af bj
      have d3:=Af o
      have e6:=Af cv
      by_cases bl:k2<l.length
      ·obtain⟨d,bm⟩:∃s,l[k2]?=some s:=⟨l[k2],An bl⟩
       have bn:=Af bm
       obtain⟨cx,d4,e7,cy,-,-,-,d5,bo,j⟩:=ch.o.at bm
       have d6:=Af bo
       obtain⟨am,an,rfl⟩:=bo.cells
       have m:=(y.cell (Ad b _ (j 0 _ rfl))).trans (j 0 _ rfl)
       have ad:=(y.cell (Ad b _ (j 1 _ rfl))).trans (j 1 _ rfl)
       have ae:=(y.cell (Ad b _ (j 2 _ rfl))).trans (j 2 _ rfl)
       have af:=(y.cell (Ad b _ (j 3 _ rfl))).trans (j 3 _ rfl)
       have ag:=(y.cell (Ad b _ (j 4 _ rfl))).trans (j 4 _ rfl)
       have ah:=(y.cell (Ad b _ (j 5 _ rfl))).trans (j 5 _ rfl)
       have ai:=(y.cell (Ad b _ (j 6 _ rfl))).trans (j 6 _ rfl)
       rw[EV] at m
       have d7:cx<wr.heap.size:=Ad wr _ m
       obtain⟨rfl,rfl⟩:cr=cx∧dw=d4:=by injection cy with h;injection h with ab ac;exact⟨ab,ac⟩
       have bp:=o.cell 0
       have bq:=o.cell 1
       have br:=o.cell 2
       have bs:=o.cell 3
       have bt:=o.cell 4
       have bu:=o.cell 5
       have bv:=o.cell 6
       have bw:=o.lt
       have b3:(0:Int)≤(k2:Int):=by omega
       have e8:(k2:Int)<(l.length:Int):=by omega
       have z:=Af bl
       have D:=Af (Ah.new wr Bq #[.int .i64 d.id,.int .i64 d.thr,.int .i64 d.status,.int .i64 d.beg,.int .i64 d.fin,.int .i64 d.tri,.slice am d.deeds.length an])
       have bz:=Af (bk.o.alloc bk.o.size (.cells #[.int .i64 d.id,.int .i64 d.thr,.int .i64 d.status,.int .i64 d.beg,.int .i64 d.fin,.int .i64 d.tri,.slice am d.deeds.length an] Bq))
       have ao:=Af (cw.o.alloc (.cells #[.int .i64 d.id,.int .i64 d.thr,.int .i64 d.status,.int .i64 d.beg,.int .i64 d.fin,.int .i64 d.tri,.slice am d.deeds.length an] Bq))
       have k:=Af (d3.o.alloc (.cells #[.int .i64 d.id,.int .i64 d.thr,.int .i64 d.status,.int .i64 d.beg,.int .i64 d.fin,.int .i64 d.tri,.slice am d.deeds.length an] Bq))
       have cz:=Af (fun w=>Jk d6.o dz.o w)
       obtain⟨b0,rfl⟩:∃b0:World,b0=wr:=⟨_,rfl⟩
       go_upto_region 19 with fail
       generalize e9:b0.alloc (.cells #[.int .i64 d.id,.int .i64 d.thr,.int .i64 d.status,.int .i64 d.beg,.int .i64 d.fin,.int .i64 d.tri,.slice am d.deeds.length an] Bq)=fa at D bz ao k⊢
       have d8:=D.o.cell 0
       have d9:=D.o.cell 1
       have ea:=D.o.cell 2
       have eb:=D.o.cell 3
       have ec:=D.o.cell 4
       have ed:=D.o.cell 5
       have ee:=D.o.cell 6
       have ef:=D.o.lt
       have bp:=k.o.cell 0
       have bq:=k.o.cell 1
       have br:=k.o.cell 2
       have bs:=k.o.cell 3
       have bt:=k.o.cell 4
       have bu:=k.o.cell 5
       have bv:=k.o.cell 6
       have bw:=k.o.lt
       by_cases c0:level=1
       ·have c1:¬(level≠1∧B8 d a=true):=fun h=>h.1 c0
        have X:=Af (aa.o.skip bn.o c1)
        go_wp2
        go_roundw
        case rel=>exact⟨k2+1,n,W,by have:=z.o;go_num,z.o,X,bz.o,ao.o,k.o,k.o.lt⟩
        case measure=>simp [intOf];have ab:=z.o;have ac:=A.o;omega
       ·go_wp2_with fail
        refine(cz.o _).mono ?_
        rintro az ap ⟨rfl,ay⟩
        have c2:=Af (bz.o.trans (ay.mono (Nat.le_of_lt ao.o.lt)))
        have aq:=Af (ao.o.below ay ao.o.lt)
        have b1:=Af (k.o.below ay k.o.lt)
        cases B:B8 d a with
        |false=>
         have X:=Af (aa.o.skip bn.o (by rw [B];simp))
         go_wp2
         go_roundw
         case rel=>exact⟨k2+1,n,W,by have:=z.o;go_num,z.o,X,c2.o,aq.o,b1.o,b1.o.lt⟩
         case measure=>simp [intOf];have ab:=z.o;have ac:=A.o;omega
        |true=>
         have X:=Af (aa.o.put bn.o ⟨c0,B⟩)
         have ca:ap.cell? ⟨b.heap.size,k1,none⟩=some (.int .i64 (n:Int)):=by
          rw [aq.o.cell,List.getElem?_toArray]
          exact Sl aa.o.at_
         have eg:=aq.o.frozen k1
         have cb:=aq.o.lt
         have k12:k2<12:=by have ab:=z.o;have ac:=A.o;omega
         have eh:=WS (aa.o.lt (by omega)) k12
         have ei:(k2:Int)≤64:=by omega
         go_upto_region 20 with fail
         go_region_with fail
         have c3:Hid (Below b.heap.size b (ap.setCell ⟨b.heap.size,k1,none⟩ (.int .i64 ((n|||1<<<k2:Nat):Int))).drew):=Af (below_drewN (c2.o.setCell (p:=⟨b.heap.size,k1,none⟩) (Aa _) _) 1)
         have c4:Hid (Ah (ap.setCell ⟨b.heap.size,k1,none⟩ (.int .i64 ((n|||1<<<k2:Nat):Int))).drew b.heap.size tI (Kn (W.set k1 (n|||1<<<k2))).toArray):=Af (by
          have al:=aq.o.put k1 (.int .i64 ((n|||1<<<k2:Nat):Int))
          rw [WT] at al
          exact al.drew)
         have b2:Hid (Ah (ap.setCell ⟨b.heap.size,k1,none⟩ (.int .i64 ((n|||1<<<k2:Nat):Int))).drew u.heap.size Bq #[.int .i64 a.id,.int .i64 a.thr,.int .i64 a.status,.int .i64 a.beg,.int .i64 a.fin,.int .i64 a.tri,.slice M a.deeds.length S]):=Af ((b1.o.far (p:=⟨b.heap.size,k1,none⟩) (by have:=aw.o.size;have:=bd.o.lt;show u.heap.size≠b.heap.size;omega) _).drew)
         generalize (ap.setCell ⟨b.heap.size,k1,none⟩ (.int .i64 ((n|||1<<<k2:Nat):Int))).drew=V at c3 c4 b2⊢
         go_wp2
         go_roundw
         case rel=>exact⟨k2+1,_,_,by have:=z.o;go_num,z.o,X,c3.o,c4.o,b2.o,b2.o.lt⟩
         case measure=>simp [intOf];have ab:=z.o;have ac:=A.o;omega
      ·obtain rfl:k2=l.length:=by omega
       have X:=Af aa.o.done
       have ce:decide (l.length<l.length)=false:=by simp
       go_wp2
       go_roundw
       case rel=>exact⟨k1+1,W,by have:=r.o;go_num,r.o,X,bk.o,cw.o⟩
       case measure=>simp [intOf];have ab:=r.o;have ac:=A.o;omega
    ·obtain rfl:k1=l.length:=by omega
     have ej:=Af cq.o.all
     have ce:decide (l.length<l.length)=false:=by simp
     go_wp2_with fail
     refine Ao (Aev _ rfl _ _ _ _ rfl rfl) rfl ⟨b.heap.size,l.length,rfl,?_,L.o.size,?_,L.o.trans (aw.o.mono L.o.size)⟩
     ·rw [←cg.o];simp [CV]
     ·rw [←cg.o,←ej.o];exact bd.o
def Aez(d:Exit->Act->U->Prop):Exit->Act->U->Prop
 |.panic _,_,_=>False
 |.normal,a,b=>d .normal a b
 |.ret,a,b=>d .ret a b
 |.exit e,a,b=>d (.exit e) a b
 |.goto g,a,b=>d (.goto g) a b
 |.outgrown,a,b=>d .outgrown a b
theorem WW(b:Exit->Act->U->Prop):∀e a w,Aez b e a w->b e a w:=by
 intro e a w h
 cases e with
 |panic c=>exact h.elim
 |normal=>exact h
 |ret=>exact h
 |exit d=>exact h
 |goto g=>exact h
 |outgrown=>exact h
theorem Aak{P:Program}{c:Code}{id:Nat}{d:Exit->Act->U->Prop}{a:Act}{w:U}(e K:Nat->U->Prop)
 (h:c.wp P (λb g W=>∃D,g={a with defers:={target:=.collected D,args:= #[]}::a.defers}/\((b=.normal∨b=.exit id)/\e D W∨b=.ret/\K D W)) a w)
 (i:∀D W,e D W->d .normal {a with defers:={target:=.collected D,args:= #[]}::a.defers} W) (k:∀D W,K D W->d .ret {a with defers:={target:=.collected D,args:= #[]}::a.defers} W):c.wp P (O7 id d) a w:=by
 refine wp_mono h ?_;rintro b g W ⟨D,rfl,⟨rfl|rfl,j⟩|⟨rfl,l⟩⟩
 .exact i D W j
 .simp only[O7,if_true];exact i D W j
 .exact k D W l
theorem Cr{S B:Nat}{w W W':U}{row:Option Nat}(h:Below S w W)(j:S<=B)(a:S<=W.heap.size)(b:W.grownBy W' row)(d:∀r,row=E r->B<=r/\∃o:Obj,W.heap[r]?=o/\o.isCells=false):Below S w W':=
 BI h ((Ay.refl row.toList W).grown b (λk e=>.inl (by simp[e]))) a (λg i=>by
  have:=(d g (by simpa using i)).1;omega)
theorem Bd{B:Nat}{W W':U}{row:Option Nat}(b:W.grownBy W' row)(d:∀r,row=E r->B<=r/\∃o:Obj,W.heap[r]?=o/\o.isCells=false)(k:Nat)(cs:Array N)(t:Ab)(h:W.heap[k]?=E (K cs t (0,0))):W'.heap[k]?=E (K cs t (0,0)):=
 (b.block k (AB h) (λe=>by
  let⟨_,o,a,g⟩:=d k e.symm;rw[h] at a;injection a with a;subst a;simp[Obj.isCells] at g)).trans h
section
open Go.Conc
theorem Xc(w:U):Calls prog 45 #[.chan O] w λa b=>a=false/\b=w:=by
 refine calls_of_loneTo λd=>?_
 have a:O8 prog 45 #[.chan O] .normal=(base 45).at ⟨#[.chan O,Ac,Ac,Ac,Ac,Ac,Ac],[]⟩ [.code (Tryz.f45.body.getD .skip)]:=by
  simp[O8,Frame.at,func45,base,Tryz.f45]
 rw[a];refine LoneTo.goes (n:=14) ?_;simp only[Tryz.f45,Option.getD_some]
 s_c stepG_seq
 s_reg
 s_op
 s_c stepG_region_end
 s_c stepG_seq
 s_reg
 s_op
 s_c stepG_region_end
 s_c stepG_seq
 s_reg
 s_stop
 refine LoneTo.step (step_lone_select_recv_nil (z:=.agg #[]) (stepG_comm (cases:= #[rcaseNil (.agg #[])]) (blocking:=false) (shape:=.select) (w':=w) rfl rfl (by decide) (by simp[go_sem,execOp,rcaseNil,Act.eval]))) ?_;rw[Frame.finish_at]
 walk_nrm
 refine LoneTo.goes (n:=10) ?_
 s_op
 s_op
 s_c stepG_region_end
 s_c stepG_block
 s_cond false
 s_c stepG_seq
 s_reg
 s_op
 s_c stepG_region_end
 s_c stepG_ret'
 s_stop
 exact LoneTo.done ⟨R false,_,rfl,⟨rfl,rfl⟩,rfl,rfl,rfl,rfl,_,func45,by simp[As,Tryz.f45,Frame.at]⟩
end
end Go.Proofs.YtpoacbcnhpbdmaaGreatDoor
