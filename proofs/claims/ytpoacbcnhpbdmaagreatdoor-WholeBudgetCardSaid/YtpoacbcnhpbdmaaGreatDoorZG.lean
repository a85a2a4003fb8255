/-
  A part of the proof: SpE and what follows.
-/
import Derived.Test.YtpoacbcnhpbdmaaGreatDoorZD
import Derived.Test.YtpoacbcnhpbdmaaGreatDoorZE
import Derived.Lib.Overlaps
import Derived.Lib.AppendZerosOnto
import Derived.Lib.AppendZeros
import Derived.Laws.NewBlocks
import Derived.RangeFuncNested
import Derived.RangeFuncBound
import Derived.RangeFuncCalls
import Derived.RangeFuncLeaves
import Derived.OwnWalkIn
import Derived.TacticsInMore
import Derived.LoopNIn
import Derived.LoopIn
set_option linter.all false
set_option maxRecDepth 100000
set_option maxHeartbeats 32000000
open Go.Addr renaming add_lit→EF
open Array renaming getElem?_modify→IM,length_toList→IY
open Go.RowKit.Below renaming refl→Ae
open Go.Builtin renaming append_→Oi,copy_→Iv,firstCells→Pl,lenOf→UU,zeroCells→Ix
open Go.Departure renaming mixedOrders→Ge
open Go.Extern.SlicesOverlaps renaming overlaps→UV
open Go.Fence renaming wide→Ed
open Go.Instr renaming lookup→B1
open Int renaming toNat_natCast→D6
open Go.IntKind renaming wrap_i64→Ey
open Go.Lib renaming run_append_grow_zeros→Q2,wpList_append_run→RA
open List renaming append_assoc→E1,drop_append→P1,drop_length→HQ,eq_nil_of_length_eq_zero→EU,flatten_cons→HP,getElem?_append_left→Ek,getElem?_append_right→EW,getElem?_eq_getElem→An,getElem?_eq_some_iff→Am,getElem?_of_mem→E8,getElem?_set_ne→Et,getElem?_set_self→El,length_append→Ef,length_cons→C4,length_drop→EN,length_nil→Em,length_set→HL,length_take→EH,mem_flatMap→FY,mem_of_getElem?→Ap,size_toArray→EQ,take_append_drop→Oh,take_left'→Iw
open Nat renaming add_zero→EV,le_refl→Aa,le_succ→Ax,lt_of_lt_of_le→ED,min→Gd,min_eq_left→HT,zero_add→Ej,zero_le→A9
open Go.Op renaming equal→EL,maxDepth→EM
open Go renaming TypeId→Ab,binOp→Ec,bodyPost_ret→Ao,heap_alloc_new→D4,info_parts→A1,madeCells→A2,maxLen→Al,results→As,step_append_lies→E6,undef→Ac,wpList_append_own_at→B9
open Go.Value renaming agg→Gf,cells→F2,int→A0,oneCell'→B4,slice→Ar
open Go.World renaming block_lt_of_cell?→Ad,cell?_setCell_other→Er,cell?_setCell_same→IK,news_of_block→Ee,setRow→Og,shape?→QA
open Go.Value renaming int→I,slice→C,pointer→Q,bool→T
open Go.IntKind renaming i64→J
open Go.Obj renaming cells→K
open Go.Obj renaming cells→H
open Go.Ending renaming returned→R
open Option renaming none→O,some→E
open Go renaming World→U,Value→N
namespace Go.Proofs.YtpoacbcnhpbdmaaGreatDoor
open Go.RowKit Go.Maps Go.Proofs.Tryz W
variable {w W X Y Z:World}{n k g c m i j b a:Nat}{v u z y:Value}{x t:Int}{p:TypeId}{q:List Value}{r:Array Value}{A:Option Addr}
attribute [local go_sem↓] Go.wp_at_zero Go.wp_at_succ
theorem QJ:(prog.info? Cv).map (λa=>(a.zero,a.size,a.bytes))=E (E (I J 0),1,8):=by kernel_rfl
theorem Pj(a:Addr)(n c:Nat)(w:U):(Ec .eql 47 (C a n c) (C O 0 0)).run prog w=.ok false w:=by
 simp only[Ec];simp[EL,EM,go_sem];kernel_rfl
theorem Pk(w:U):(Ec .eql 47 (C O 0 0) (C O 0 0)).run prog w=.ok true w:=by
 simp only[Ec];simp[EL,EM,go_sem];kernel_rfl
theorem Tp(q:List Int):(q.flatMap FH).length=q.length:=by simpa using DQ (n:=1) (λ_=>rfl) q
theorem Tq(q:List Int):∀u∈q.flatMap FH,u.oneCell'=true:=by
 intro u b;let⟨c,_,a⟩:=FY.1 b;simp[FH] at a;rw[a];rfl
theorem ZH{w:U}{v:N}{q:List Int}(e:Ba 1 FH w v q)(j:q.length<=1000000):
 Calls prog 313 #[v] w λu k=>∃l,u=R l/\k.ownsRow w Cv 1 l q.length (q.flatMap FH)/\Below w w k:=by
 obtain⟨x,y,z,A,D⟩:=A1 QJ;obtain⟨F,c,rfl⟩:=e.shape;obtain⟨i,_,g⟩:=e.news (λ_=>rfl) (by omega)
 cases F with
 |none=>
  obtain⟨m,rfl⟩:=i rfl;have G:=Pk w;rw[m];have L:q=[]:=EU m;subst L;go_in;go_wp2;go_ret;exact⟨_,rfl,⟨rfl,.inl ⟨rfl,rfl⟩⟩,Ae _ _⟩
 |some a=>
  have G:=Pj a q.length c w;have o:Hid ((w.alloc (K #[] Cv)).ownsRow w Cv 1 (C w 0 0) 0 []):=Af<|BX (w:=w) (cs:= #[]) (t:=Cv) (B:=w.heap.size) (size:=1) (n:=0) rfl (Aa _) (by unfold Al;omega);have M:Hid (∀b d,(q.flatMap FH)[b]?=E d->(w.alloc (K #[] Cv)).cell? (a.add b)=E d):=Af (λb d p=>(Zc w _).cell (Ad w _ (g a rfl b d p))|>.trans (g a rfl b d p));have r:=Af j;go_in;go_wp2_with (at_builtin;refine B9 _ rfl (.tmp 5) (.tmp 6) 47 rfl w Cv x () 1 8 underlying47 y z A D rfl (by decide) (.slice w 0 0) 0 [] rfl o a q.length c (q.flatMap FH) rfl (by rw[Tp,Nat.mul_one]) M (Tq q) (by have:=r.o;unfold Al;omega) (by have:=r.o;omega) (by simp) ?_;intro Y Z S W _ aa);go_ret;refine⟨_,rfl,by simpa using S,?_⟩;exact(Zc w _).grown W (by simp) (λab X=>(Ai o X).1)
theorem Pm{w:U}{B:Nat}{v:N}{q:List Int}(h:w.ownsRow B Cv 1 v q.length (q.flatMap FH)):Cc Cv 1 FH w v q:=Cc.of_row h (λ_=>rfl) rfl
theorem Aek{w0 w:U}{v:N}{s:AO}(af:Gj w0 v s)(q:Below w0 w0 w)(key val:Int)(u:s.q.length<=1000000):
 Calls prog 312 #[v,key,val] w λM ag=>CS w0 w ({s with q:=s.q++[val]},1,0) M ag:=by
 obtain⟨ah,ai,aj,ak,al⟩:=A1 QJ;obtain⟨x,y,e,g,rfl,l,m⟩:=af;have a5:=Af l;have am:=Af m;have an:=Af q;replace l:=l.below q;replace m:=m.below q;have a6:=Af m;have S:=Af u;have W:=Af (λao (X:Below w w ao)=>ZH (l.below X).1 u);have ap:=Af<|Bo w (K (L4 s x y e g) AZ) AZ #[(),(),C O 0 0,C O 0 0];have Y:=Af<|(Ah.new w AZ (L4 s x y e g)).below ((Ae _ _).alloc (Aa _) (K #[(),(),C O 0 0,C O 0 0] AZ)) (by simp);have Z:=Af<|AG w (K (L4 s x y e g) AZ) (K #[(),(),C O 0 0,C O 0 0] AZ);go_in;have aq:=Y.o.cell 2;go_wp2_with fail;refine(W.o _ Z).mono ?_;rintro M z ⟨a7,rfl,A,n⟩;have aa:=Af<|Z.o.trans (n.mono (by simp;omega));have ar:=Af<|ap.o.below n (by simp);have au:=Af<|Y.o.below n (by simp;omega);have ab:Hid (w.heap.size+2<=z.heap.size):=Af (by have:=n.size;simp at this;omega);obtain⟨ac,ad,rfl⟩:=Ag A;have r:Hid (z.ownsRow (w+2) Cv 1 (C ac s.q.length ad) s.q.length (s.q.flatMap FH)):=Af (by simpa using A);go_wp2_with (at_builtin;refine B9 _ rfl (.tmp 11) (.tmp 13) 47 rfl (w+2) Cv ah () 1 8 underlying47 ai aj ak al rfl (by decide) (.slice ac s.q.length ad) s.q.length (s.q.flatMap FH) rfl (r.o.alloc _) z 1 1 [val] rfl rfl (cell_one_new _ _ _) (by simp[B4]) (by have:=S.o;unfold Al;omega) (by have:=S.o;omega) (by have:=ab.o;simp;omega) ?_;intro a8 av B D _ a9;obtain⟨i,j,rfl⟩:=Ag B;have b:=Af ((ar.o.alloc (K #[val] Cv)).grown D (λF=>by have:=(Ai (r.o.alloc (K #[val] Cv)) F.symm).1;omega));have k:=Af ((au.o.alloc (K #[val] Cv)).grown D (λF=>by have:=(Ai (r.o.alloc (K #[val] Cv)) F.symm).1;omega));have ba:=k.o.cell 0;have bb:=k.o.cell 1;have bc:=k.o.cell 2;have bd:=k.o.cell 3;have be:=k.o.frozen 2;have bf:=k.o.lt;have bg:=b.o.cell 0;have bh:=b.o.cell 1;have bi:=b.o.cell 2;have bj:=b.o.cell 3;have bk:=b.o.frozen 0;have bl:=b.o.frozen 1;have bm:=b.o.frozen 2;have bn:=b.o.frozen 3;have bo:=b.o.lt);have o:∀G,G<w.heap.size+2->(Ar i (s.q.length+1) j).ownBlock≠E G:=λG X aw=>by have:=(Ai B aw).1;omega
 have ax:Below w w av:=(aa.o.alloc aa.o.size _).grown D (by have:=ab.o;simp;omega) (λbp ay=>by have:=(Ai (r.o.alloc (K #[val] Cv)) ay).1;omega);have ae:=BR (a:=s.kind) (b:=s.num) (c:=C i (s.q.length+1) j) (d:=C e s.ps.length g) (ax.setCell (p:=⟨w.heap.size,2,O⟩) (Aa _) (C i (s.q.length+1) j))<|Ax w;have az:=Ak B (p:=⟨w.heap.size,2,O⟩) (o _ (by simp))<|C i (s.q.length+1) j;have a0:=Ak az (p:=(w+1:Nat)) (o _ (by simp)) s.kind;have a1:=Ak a0 (p:=⟨w.heap.size+1,1,O⟩) (o _ (by simp)) s.num;have a2:=Ak a1 (p:=⟨w.heap.size+1,2,O⟩) (o _ (by simp))<|C i (s.q.length+1) j;have a3:=Ak a2 (p:=⟨w.heap.size+1,3,O⟩) (o _ (by simp))<|C e s.ps.length g;have a4:=λL (t:Zi w0 w _ L)=>Pm (q:=s.q++[val]) (by simpa[FH] using ZE a3 t (by omega));refine Ao (Kc _ rfl rfl _ _ _ s.kind s.num (C i (s.q.length+1) j) (C e s.ps.length g) _ _ rfl rfl rfl (Cg (b.o.far (p:=⟨w.heap.size,2,O⟩) (by simp) _))) rfl ?_;exact⟨_,rfl,ae,λL t=>⟨i,j,e,g,by simp,by simpa using a4 L t,CT am an ae t⟩⟩
theorem GM:(prog.info? BN).map (λa=>(a.zero,a.size,a.bytes))=E (E (.agg #[(),()]),2,16):=by kernel_rfl
theorem Pn(a:Addr)(n c:Nat)(w:U):(Ec .eql 304 (C a n c) (C O 0 0)).run prog w=.ok false w:=by
 simp only[Ec];simp[EL,EM,go_sem];kernel_rfl
theorem Po(w:U):(Ec .eql 304 (C O 0 0) (C O 0 0)).run prog w=.ok true w:=by
 simp only[Ec];simp[EL,EM,go_sem];kernel_rfl
theorem Fe(q:List (Int×Int)):(q.flatMap AN).length=q.length*2:=DQ (n:=2) (λ_=>rfl) q
theorem KU(q:List (Int×Int)):∀u∈q.flatMap AN,u.oneCell'=true:=by
 intro u b;let⟨c,_,a⟩:=FY.1 b;simp[AN] at a;rcases a with rfl|rfl<;>rfl
theorem ZI{w:U}{v:N}{q:List (Int×Int)}(e:Ba 2 AN w v q)(j:q.length<=1000000):
 Calls prog 316 #[v] w λu k=>∃l,u=R l/\k.ownsRow w BN 2 l q.length (q.flatMap AN)/\Below w w k:=by
 let⟨x,y,z,A,D⟩:=A1 GM;obtain⟨F,c,rfl⟩:=e.shape;let⟨i,_,g⟩:=e.news (λ_=>rfl) (by omega)
 cases F with
 |none=>
  obtain⟨m,rfl⟩:=i rfl;have G:=Po w;rw[m];have L:q=[]:=EU m;subst L;go_in;go_wp2;go_ret;exact⟨_,rfl,⟨rfl,.inl ⟨rfl,rfl⟩⟩,Ae _ _⟩
 |some a=>
  have G:=Pn a q.length c w;have o:Hid ((w.alloc (K #[] BN)).ownsRow w BN 2 (C w 0 0) 0 []):=Af<|BX (w:=w) (cs:= #[]) (t:=BN) (B:=w.heap.size) (size:=2) (n:=0) rfl (Aa _) (by unfold Al;omega);have M:Hid (∀b d,(q.flatMap AN)[b]?=E d->(w.alloc (K #[] BN)).cell? (a.add b)=E d):=Af (λb d p=>(Zc w _).cell (Ad w _ (g a rfl b d p))|>.trans (g a rfl b d p));have r:=Af j;go_in;go_wp2_with (at_builtin;refine B9 _ rfl (.tmp 5) (.tmp 6) 304 rfl w BN x (.agg #[(),()]) 2 16 underlying304 y z A D rfl (by decide) (.slice w 0 0) 0 [] rfl o a q.length c (q.flatMap AN) rfl (Fe q) M (KU q) (by have:=r.o;unfold Al;omega) (by have:=r.o;omega) (by simp) ?_;intro Y Z S W _ aa);go_ret;refine⟨_,rfl,by simpa using S,?_⟩;exact(Zc w _).grown W (by simp) (λab X=>(Ai o X).1)
theorem QK(kind key val:Int)(w:U):Calls prog 272 #[kind,key,val] w λd e=>d=R (Da kind key val)/\w=e:=by
 by_cases a:kind=2
 .subst a;have b:Da 2 key val=(decide (key<0)||decide (1000<key)||decide (val< -1000000000000000)||decide (1000000000000000<val)):=rfl;rw[b]
  cases g:decide (key<0)<;>cases i:decide (1000<key)<;>cases j:decide (val< -1000000000000000)<;>cases k:decide (1000000000000000<val)
  all_goals
   go_in;go_wp2;go_ret;exact⟨rfl,rfl⟩
 .have l:(kind==2)=false:=by simpa using a
  have b:Da kind key val=(decide (key<0)||decide (1000<key)||decide (val< -1000000000)||decide (1000000000<val)):=by unfold Da;rw[if_neg a]
  rw[b]
  cases g:decide (key<0)<;>cases i:decide (1000<key)<;>cases j:decide (val< -1000000000)<;>cases k:decide (1000000000<val)
  all_goals
   go_in;go_wp2;go_ret;exact⟨rfl,rfl⟩
section
open Go.ChangeShapes Go.WideShapes
abbrev tDe:Ab:=433
abbrev tDf:Ab:=432
def MA(op:Int):Nat:=if op=1∨op=4 then 309 else if op=2 then 310 else if op=3 then 311 else if op=5 then 312 else if op=6 then 314 else if op=7 then 315 else if op=8 then 319 else 321
def MB(op:Int):N:=.func (.func (MA op)) #[] #[]
structure Tr (w W:U) (b:Nat) (ks:List Int):Prop where
 le:w.heap.size<=b
 below:Below w w W
 map:∃n f,n<50+ks.length/\Az W b n f/\∀k∈ks,f k=E (MB k)
theorem Tr.start(w:U):Tr w (w.alloc (.map #[] 0)) w.heap.size []:=
 ⟨Aa _,(Ae _ _).alloc (Aa _) _,0,AF,by simp,Az.made w,λ_ h=>by cases h⟩
theorem Nj:prog.underlying tDe=E (.map 3 tDf):=underlying433
theorem Tr.put{w W:U}{d:List Int}(h:Tr w W b d){k:Int}(u:1<=k/\k<=9)(v:d.length<=10):
 ∃a,(Instr.mapUpdate tDe (.map (E b)) k (MB k)).run prog W=.ok () a/\Tr w a b (k::d):=by
 obtain⟨g,i,l,f,x,m,n⟩:=h;let⟨a,o,p,q⟩:=m.put (k:=k) Nj (by unfold Al;omega) (by omega) (by omega)<|MB k;refine⟨a,o,g,i.grown q.grown i.size (λy r=>by cases r;exact g),l+1,_,by simp;omega,p,λj t=>?_⟩;unfold AC;by_cases e:j=k
 .subst e;exact if_pos rfl
 .rw[if_neg e];exact n j (by simpa[e] using t)
theorem Ts{w W:U}{e:Array Oper}{g:List Oper}{o:Oper}{a:Act}{i:Exit->Act->U->Prop}(j:o.guard=O)(m x v:Operand)(l:o.op=Op.insert tDe m x v)(b:Nat)(k:Int)
 (n:a.eval m=.map (E b)) (p:a.eval x=k) (q:a.eval v=MB k) {d:List Int} (h:Tr w W b d) (r:1<=k/\k<=9) (t:d.length<=10)
 (u:∀w',Tr w w' b (k::d)->wpList prog e i g (a.put o.dst Ac) w'):wpList prog e i (o::g) a W:=by
 refine wpList_plain j λB y=>?_;let⟨w',z,A⟩:=h.put r t;unfold Oper.wp;simp[execOp,l,n,p,q,z,Result.andThen];exact y _ _<|u w' A
theorem Tt(w:U):Calls prog 273 #[] w λg b=>∃d,g=R (.map (E d))/\Tr w b d [9,8,7,6,5,3,2,4,1]:=by
 have a:=Af<|Tr.start w;have i:= @run_makeMap prog;go_in;go_wp2_with (refine Ts rfl _ _ _ rfl _ _ rfl rfl rfl a (by omega) (by simp) ?_;intro b e;replace a:=Af e;clear e);go_ret;exact⟨_,rfl,a⟩
theorem Wo(W:U):(zeroValue tDf).run prog W=.ok .nilFunc W:=by kernel_rfl
theorem Tr.look{w W:U}{a:List Int}(h:Tr w W b a){k:Int}(e:k∈a)(j:1<=k/\k<=9):∀n,(B1 tDe (.map (E b)) k false).run prog (W.drewN n)=.ok (MB k) (W.drewN n):=by
 obtain⟨l,m,o,f,p,g,i⟩:=h;intro n;have d:=(g.drewN n).look Nj (Wo _) (k:=k) (by omega) (by omega);rw[i k e] at d;exact d
end
section
open Go.Lib
abbrev Hp:Ab:=304
theorem Ab4:(prog.info? BN).map (·.size)=some 2:=by
 obtain⟨d,a,_,b,_⟩:=A1 GM
 rw [a];simp [b]
theorem Hb(w:World)(e:Ab)(g o b i:Nat)(a:Addr)(d k:Nat)(cur:Array Value)(t:Ab)(cs:List Value)
 (l:w.heap[g]?=some (.cells cur t (0,0))) (m:cs.length=Gd d b*2)
 (n:∀j v,cs[j]?=some v→w.cell? (a.add j)=some v) (p:o+cs.length≤cur.size) (q:∀v∈cs,v.oneCell'=true):
 (Iv #[Hp,Hp] e #[.slice (some ⟨g,o,none⟩) b i,.slice (some a) d k]).run prog w=
  .ok (goInt (Gd d b)) (w.setRow g (cur.toList.take o++cs++cur.toList.drop (o+cs.length)).toArray):=by
 have r:=run_loadCells_list (P:=prog) w a cs n
 have u:=run_storeCells_at prog g o t cs 0 cur w l (by simpa using p) q
 have x:=underlying304
 obtain⟨B,y,_,z,_⟩:=A1 GM
 have A:(min d b)*2=cs.length:=m.symm
 simp[Iv,run_underlying x,UU,Pl,sizeOf,typeInfo,y,z,A,r,u]
theorem Ff(w:World)(g:Nat)(cs:Array Value):Ay [g] w (w.setRow g cs):=by
 refine⟨rfl,rfl,rfl,by unfold Og;simp,fun d _ a=>?_⟩
 unfold Og
 simp only [List.mem_singleton] at a
 simp only[IM]
 rw [if_neg (fun b=>a b.symm)]
theorem Fg(w:World)(g:Nat)(cs:Array Value){p:Addr}(a:p.block≠g):(w.setRow g cs).cell? p=w.cell? p:=World.cell?_of_block (by
 unfold Og
 simp only[IM]
 rw [if_neg (fun b=>a b.symm)])
def Hv(ps:List (Int×Int))(i:Nat)(key val:Int):List (Int×Int):=ps.take i++(key,val)::ps.drop i
theorem Kf(ps:List (Int×Int))(i:Nat)(key val:Int):(Hv ps i key val).length=ps.length+1:=by
 unfold Hv
 simp only[Ef,EH,C4,EN]
 omega
theorem Jh(ps:List (Int×Int))(i:Nat)(key val:Int):(Hv ps i key val).flatMap AN=(ps.take i).flatMap AN++([.int .i64 key,.int .i64 val]++(ps.drop i).flatMap AN):=by
 unfold Hv
 simp [AN]
theorem DU(ps:List (Int×Int))(i:Nat):ps.flatMap AN=(ps.take i).flatMap AN++(ps.drop i).flatMap AN:=by
 rw[←List.flatMap_append,Oh]
theorem QL(A Y X Z a:List Value)(cur:List Value)(b:cur=A++a)(l:a.length=Y.length+X.length+Z.length)(d:Z=a.drop (Y.length+X.length)):
 (cur.take (A.length+Y.length)++X++cur.drop (A.length+Y.length+X.length)).take A.length++Y++(cur.take (A.length+Y.length)++X++cur.drop (A.length+Y.length+X.length)).drop (A.length+Y.length)=A++Y++X++Z:=by
 have e:(a.take Y.length).length=Y.length:=by rw[EH];omega
 have g:cur.take (A.length+Y.length)=A++a.take Y.length:=by
  rw [b,List.take_append]
  simp [List.take_of_length_le]
 have i:cur.drop (A.length+Y.length+X.length)=Z:=by
  rw[b,Nat.add_assoc,P1,d]
  simp
 rw [g,i]
 have j:(A++a.take Y.length++X++Z).take A.length=A:=by rw[E1,E1,Iw];rfl
 have k:(A++a.take Y.length++X++Z).drop (A.length+Y.length)=X++Z:=by
  rw[E1,List.drop_left']
  simp [e]
 rw [j,k]
 simp
theorem Ab5{w:U}{B n c vb:Nat}{A:Option Addr}{xs:List N}{key val:Int}(d:w.ownsRow B BN 2 (C A n c) n xs)(i:B<=w.heap.size)(j:Ah w vb BN #[I J key,I J val])(q:n<=1000000):
 Calls prog 318 #[C A n c,I J n,C (E ⟨vb,0,O⟩) 1 1] w λM r=>∃t,M=R t/\r.ownsRow B BN 2 t (n+1) (xs++[I J key,I J val])/\w.grownBy r (Ar A n c).ownBlock:=by
 obtain⟨u,v,x,y,z⟩:=A1 GM
 have D:Hid (∀e k,([I J key,I J val]:List N)[e]?=E k->w.cell? ((⟨vb,0,O⟩:Addr).add e)=E k):=Af (λe k S=>by
  rw[EF,Ej,j.cell e];simpa using S)
 have F:=Af d;have G:=Af i;have L:=Af q
 cases A with
 |none=>
  obtain⟨rfl,rfl⟩:n=0/\c=0:=by
   rcases d.2 with ⟨a,g⟩|⟨b,l,cur,a,_⟩
   .injection a with _ _ m;exact⟨g,m⟩
   .cases a
  clear d i j q;go_in;go_wp2_with (at_builtin;refine B9 _ rfl (.tmp 23) (.tmp 24) Hp rfl B BN u (.agg #[I J 0,I J 0]) 2 16 underlying304 v x y z rfl (by decide) (.slice O 0 0) 0 xs rfl F.o ⟨vb,0,O⟩ 1 1 [I J key,I J val] rfl rfl D.o (by simp[B4]) (by unfold Al;omega) (by omega) G.o ?_;intro W X o p _ _);go_ret;exact⟨_,rfl,o,p⟩
 |some Y=>
  obtain⟨b,rfl⟩:∃b,Y=⟨b,0,O⟩:=by
   rcases d.2 with ⟨a,g⟩|⟨b,l,cur,a,_⟩
   .cases a
   .injection a with a;injection a with a;exact⟨b,a⟩
  have aa:n<=c:=by
   rcases d.2 with ⟨a,g⟩|⟨b,l,cur,a,_,_,h,_⟩
   .cases a
   .injection a with _ _ m;omega
  have Z:c<=Al:=by
   rcases d.2 with ⟨a,g⟩|⟨b,l,cur,a,_,_,_,h,_⟩
   .cases a
   .injection a with _ _ m;omega
  unfold Al at Z;by_cases ab:c=n
  all_goals
   go_in;go_wp2_with (at_builtin;refine B9 _ rfl (.tmp 23) (.tmp 24) Hp rfl B BN u (.agg #[I J 0,I J 0]) 2 16 underlying304 v x y z rfl (by decide) (.slice (E ⟨b,0,O⟩) n c) n xs rfl F.o ⟨vb,0,O⟩ 1 1 [I J key,I J val] rfl rfl D.o (by simp[B4]) (by have:=L.o;unfold Al;omega) (by have:=L.o;omega) G.o ?_;intro W X o p _ _);go_ret;exact⟨_,rfl,o,p⟩
theorem Wp{w:World}{g n c i vb:Nat}{cur:Array Value}{X:List Value}{key val:Int}(l:w.heap[g]?=some (.cells cur BN (0,0)))(ab:n+1≤c)(ac:c≤9223372036854775807)(m:cur.size=c*2)(D:i<n)
 (o:X.length=(n-i)*2) (z:∀p∈X,p.oneCell'=true) (A:∀j u,X[j]?=some u→w.cell? ⟨g,i*2+j,none⟩=some u) (k:Ah w vb BN #[.int .i64 key,.int .i64 val]) (r:vb≠g) (F:n≤1000000):
 Calls prog 318 #[.slice (some ⟨g,0,none⟩) n c,.int .i64 i,.slice (some ⟨vb,0,none⟩) 1 1] w fun G L=>∃(a:List Value),a=cur.toList.take (i*2+2)++X++cur.toList.drop (i*2+2+X.length)∧G=.returned (.slice (some ⟨g,0,none⟩) (n+1) c)∧L=(w.drew.setRow g a.toArray).setRow g (a.take (i*2)++[A0 .i64 key,A0 .i64 val]++a.drop (i*2+2)).toArray:=by
 have M:∀t v,(callFunc 360 #[.slice (some ⟨vb,0,none⟩) 1 1,.slice (some ⟨g,(i+1)*2,none⟩) t v]).run prog w=.ok (.value (.bool false)) w:=fun t v=>by
  have ad:=Ab4
  rw[run_callFunc_extern func360 (by kernel_rfl) (by kernel_rfl) (by kernel_rfl) (e:=UV #[Hp,Hp] #[4]) (by kernel_rfl),
   Lib.run_overlaps_apart w Hp 4 BN underlying304 2 (fun w=>by obtain⟨ae,S,_,W,_⟩:=A1 GM;simp[sizeOf,typeInfo,S,W]) ⟨vb,0,none⟩ ⟨g,(i+1)*2,none⟩ 1 1 t v r BN BN 2 (c*2) (by simp[QA,show w.heap[vb]?=_ from k]) (by simp[QA,l,m]) (by omega) (k.frozen 0) (k.frozen 2)]
  rfl
 have B:X.length=Gd (n+1-i) (n-i)*2:=by rw[o,show Gd (n+1-i) (n-i)=n-i from Nat.min_eq_right (by omega)]
 obtain⟨a,q⟩:∃a,a=cur.toList.take (i*2+2)++X++cur.toList.drop (i*2+2+X.length):=⟨_,rfl⟩
 have Y:a.length=c*2:=by
  rw [q]
  simp only[Ef,EH,EN,IY,m,o]
  omega
 have af:∀b x d,(Iv #[Hp,Hp] b #[.slice (some ⟨g,(i+1)*2,none⟩) (n-i) d,.slice (some ⟨g,i*2,none⟩) (n+1-i) x]).run prog w.drew=.ok (goInt (Gd (n+1-i) (n-i))) (w.drew.setRow g a.toArray):=fun b x d=>by
  have h:=Hb w.drew b g ((i+1)*2) (n-i) d ⟨g,i*2,none⟩ (n+1-i) x cur BN X l B (fun j p y=>by rw[EF];exact A j p y) (by rw[o,m];omega) z
  rw [h,q,show(i+1)*2=i*2+2 by omega]
 have ag:∀b d,(Iv #[Hp,Hp] b #[.slice (some ⟨g,i*2,none⟩) (n+1-i) d,.slice (some ⟨vb,0,none⟩) 1 1]).run prog (w.drew.setRow g a.toArray)=.ok (goInt (Gd 1 (n+1-i))) ((w.drew.setRow g a.toArray).setRow g (a.take (i*2)++[A0 .i64 key,A0 .i64 val]++a.drop (i*2+2)).toArray):=fun b d=>by
  have Z:=setRow_heap w.drew g cur a.toArray BN (0,0) l
  have h:=Hb (w.drew.setRow g a.toArray) b g (i*2) (n+1-i) d ⟨vb,0,none⟩ 1 1 a.toArray BN [.int .i64 key,.int .i64 val] Z (by rw[show Gd 1 (n+1-i)=1 from HT (by omega)];rfl) (fun j p y=>by
   rw[EF,Ej,Fg _ _ _ r]
   have:=k.cell j
   rw [show w.drew.cell? ⟨vb,j,none⟩=w.cell? ⟨vb,j,none⟩ from rfl,this]
   simpa using y) (by simp;omega) (by simp[B4])
  simpa using h
 have aa:=Af q
 have ah:¬((i:Int)=(n:Int)):=by omega
 have ai:(0:Int)≤(i:Int)+1:=by omega
 have aj:IntKind.i64.wrap ((i:Int)+1)=(i:Int)+1:=by rw[Ey];omega
 have ak:IntKind.i64.wrap ((n:Int)+1)=(n:Int)+1:=by rw[Ey];omega
 have al:(i:Int)+1≤(n:Int)+1:=by omega
 have am:¬(c=i+1):=by omega
 have an:¬(c=i):=by omega
 have ao:(i:Int)≤(n:Int)+1:=by omega
 have ap:prog.follows Ge=true:=by kernel_rfl
 have aq:(n:Int)+1≤(c:Int):=by omega
 have ar:¬((c:Int)<(n:Int)+1):=by omega
 have au:i≤n:=by omega
 clear l o z A k B q Y m D F r
 go_enter func318,ntmps318
 go_wp2_with (simp only [M])
 go_region_law_o (fail)
 go_wp2
 go_ret
 exact⟨a,aa.o,rfl,by simp⟩
theorem ZJ{w:U}{vb:Nat}{q X:List N}{key val:Int}(W:g<w.heap.size)(a7:n<=c)(a8:c<n+1)(a9:i<n)
 (Y:q.length=i*2) (Z:∀j u,q[j]?=E u->w.cell? ⟨g,j,O⟩=E u)
 (aa:X.length=(n-i)*2) (ab:∀p∈X,p.oneCell'=true) (ac:∀j u,X[j]?=E u->w.cell? ⟨g,i*2+j,O⟩=E u) (y:Ah w vb BN #[I J key,I J val]) (ba:n<=1000000):
 Calls prog 318 #[C (E ⟨g,0,O⟩) n c,I J i,C (E ⟨vb,0,O⟩) 1 1] w λao ad=>∃(d:Nat) (m a:List N),ao=R (C (E ⟨w.heap.size,0,O⟩) (n+1) d)/\n+1<=d/\d<=Al/\m.length=(d-i)*2/\a=(q++m).take (i*2)++[I J key,I J val]++(q++m).drop (i*2+2)/\ad.heap[w.heap.size]?=E (K (a.take (i*2+2)++X++a.drop (i*2+2+X.length)).toArray BN (0,0))/\Ay [] w ad:=by
 obtain⟨ae,ap,aq,af,z⟩:=A1 GM;have ar:=underlying304;have au:=underlying3;have ag:(n:Int)+1-(i:Int)=((n+1-i:Nat):Int):=by omega
 have A:i+(n+1-i)=n+1:=by omega
 obtain⟨d,t⟩:∃d,d=grownCap w (n+1) c BN:=⟨_,rfl⟩;have av:n+1<=d:=by rw[t];exact grownCap_ge w _ _ _
 have ah:d<=Al:=by rw[t];exact grownCap_le_maxLen w (n+1) c BN (by unfold Al;omega)
 have ai:(Pl ae.size i (C (E ⟨g,0,O⟩) i c)).run prog w.drew=.ok q.toArray w.drew:=by
  rw[af]
  exact run_firstCells_some w.drew 2 i ⟨g,0,O⟩ i c q (by omega) (λj p r=>by
   rw[EF,Ej];exact Z j p r)
 obtain⟨m,B⟩:∃m:List N,m=(Ix (Gf #[I J 0,I J 0]).cells (n+1-i)++Ix (Gf #[I J 0,I J 0]).cells (d-(n+1))).toList:=⟨_,rfl⟩
 have D:m.length=(d-i)*2:=by
  rw[B];simp[Ix,F2];omega
 have aj:∀l,(Oi #[Hp,3] l #[C (E ⟨g,0,O⟩) i c,I J ((n:Int)+1-(i:Int))]).run prog w=.ok (C (E ⟨w.heap.size,0,O⟩) (n+1) d) (w.drew.alloc (K (q++m).toArray BN)):=λl=>by
  have h:=Q2 w Hp 3 l BN ae _ .i64 .i64 ar au ap aq (E ⟨g,0,O⟩) i c q ai (n+1-i) (by omega) (by omega) (by omega) (by omega) (by rw[z];omega) (by rw[z,A];exact growslice_fits (by omega) (by omega));rw[A,<-t] at h;rw[ag,h,B]
  congr 4
  simp
 obtain⟨e,v⟩:∃e,e=q++m:=⟨_,rfl⟩;rw[<-v] at aj;have ak:e.length=d*2:=by rw[v,Ef,Y,D];omega
 obtain⟨a,x⟩:∃a,a=e.take (i*2)++[A0 .i64 key,A0 .i64 val]++e.drop (i*2+2):=⟨_,rfl⟩
 have aw:a.length=d*2:=by
  rw[x];simp only[Ef,EH,EN,ak,C4,Em];omega
 have al:vb<w.heap.size:=y.lt
 have ax:∀(k:U),k.heap[w.heap.size]?=E (K e.toArray BN (0,0))->(∀b:Addr,b.block<w.heap.size->k.cell? b=w.cell? b)->∀l o,(Iv #[Hp,Hp] l #[C (E ⟨w.heap.size,i*2,O⟩) (n+1-i) o,C (E ⟨vb,0,O⟩) 1 1]).run prog k=.ok (goInt (Gd 1 (n+1-i))) (k.setRow w.heap.size a.toArray):=λk F G l o=>by
  have h:=Hb k l w.heap.size (i*2) (n+1-i) o ⟨vb,0,O⟩ 1 1 e.toArray BN [I J key,I J val] F (by rw[show Gd 1 (n+1-i)=1 from HT (by omega)];rfl) (λj p r=>by
   rw[EF,Ej,G _ al];have:=y.cell j;rw[this];simpa using r) (by simp;omega) (by simp[B4])
  rw[h,x];simp
 have ay:∀(k:U),k.heap[w.heap.size]?=E (K a.toArray BN (0,0))->(∀b:Addr,b.block<w.heap.size->k.cell? b=w.cell? b)->∀l o L,(Iv #[Hp,Hp] l #[C (E ⟨w.heap.size,(i+1)*2,O⟩) (n-i) o,C (E ⟨g,i*2,O⟩) (n-i) L]).run prog k=.ok (goInt (Gd (n-i) (n-i))) (k.setRow w.heap.size (a.take (i*2+2)++X++a.drop (i*2+2+X.length)).toArray):=λk F G l o L=>by
  have h:=Hb k l w.heap.size ((i+1)*2) (n-i) o ⟨g,i*2,O⟩ (n-i) L a.toArray BN X F (by rw[show Gd (n-i) (n-i)=n-i from HT (by omega),aa]) (λj p r=>by
   rw[EF,G _ W];exact ac j p r) (by simp;omega) ab
  rw[h,show(i+1)*2=i*2+2 by omega]
 have az:=Af x;have a0:=Af v;have a1:=Af D;have a2:=Af av;have a3:=Af ah;unfold Al at ah;have bb:¬((i:Int)=(n:Int)):=by omega
 have bc:(c:Int)<(n:Int)+1:=by omega
 have bd:IntKind.i64.wrap ((i:Int)+1)=(i:Int)+1:=by rw[Ey];omega
 have be:IntKind.i64.wrap ((n:Int)+1)=(n:Int)+1:=by rw[Ey];omega
 have bf:IntKind.i64.wrap ((n:Int)+1-(i:Int))=(n:Int)+1-(i:Int):=by rw[Ey];omega
 have bg:(0:Int)<=(i:Int)+1:=by omega
 have bh:(i:Int)+1<=(n:Int)+1:=by omega
 have bi:(i:Int)<=(n:Int)+1:=by omega
 have bj:(i:Int)<=(c:Int):=by omega
 have bk:¬(d=i):=by omega
 have bl:¬(d=i+1):=by omega
 have bm:¬(c=i):=by omega
 have bn:i<=n:=by omega
 have bo:prog.follows Ge=true:=by kernel_rfl
 have am:∀(k:U),(∀b:Addr,b.block<w.heap.size->(w.alloc (K e.toArray BN)).cell? b=w.cell? b):=λ_ b M=>(Zc w _).cell M;have bp:w.heap.size≠g:=by omega
 have an:=setRow_heap (w.alloc (K e.toArray BN)).drew w.heap.size e.toArray a.toArray BN (0,0)<|D4 w _;have a4:∀b:Addr,b.block<w.heap.size->((w.alloc (K e.toArray BN)).drew.setRow w.heap.size a.toArray).cell? b=w.cell? b:=λb M=>(Fg _ _ _ (by omega)).trans (am w b M);have bq:=ax ((w.alloc (K e.toArray BN)).drew) (D4 w _)<|am w;have br:=ay (((w.alloc (K e.toArray BN)).drew.setRow w.heap.size a.toArray).drew) an a4;clear ag A ai v x B aa ab ac Y Z y D t al W ak aw af z;go_in;go_wp2_with (at_builtin;refine RA _ rfl _ _ _ _ rfl _ _ rfl rfl _ _ (aj _) ?_)
 go_region_law_o (fail)
 go_wp2;go_ret;refine⟨d,m,a,rfl,a2.o,a3.o,a1.o,by rw[az.o,a0.o],by have h:=setRow_heap ((w.alloc (K e.toArray BN)).drew.setRow w.heap.size a.toArray).drew w.heap.size a.toArray (a.take (i*2+2)++(X++a.drop (i*2+2+X.length))).toArray BN (0,0) an;rw[h,E1],?_⟩;have a5:Ay [] w ((w.alloc (K e.toArray BN)).drew.setRow w.heap.size a.toArray):=(((Ay.refl [] w).alloc _).drew).trans (Ff _ _ _) (λa6 S=>.inr (by simp at S;omega));exact a5.drew.trans (Ff _ _ _) (λa6 S=>.inr (by simp at S;omega))
theorem QM{w:World}{B n k g:Nat}{ps:List (Int×Int)}(h:w.ownsRow B BN 2 (.slice (some ⟨g,0,none⟩) n k) n (ps.flatMap AN))(m:n=ps.length){i:Nat}(o:i≤n):(∀a b,((ps.take i).flatMap AN)[a]?=some b→w.cell? ⟨g,a,none⟩=some b)∧∀a b,((ps.drop i).flatMap AN)[a]?=some b→w.cell? ⟨g,i*2+a,none⟩=some b:=by
 have j:((ps.take i).flatMap AN).length=i*2:=by rw[Fe,EH];omega
 have l:((ps.drop i).flatMap AN).length=(n-i)*2:=by rw[Fe,EN];omega
 refine⟨fun a b d=> ?_,fun a b d=> ?_⟩
 ·have e:=(Am.1 d).1
  rw [j] at e
  rw[h.cellAt a (by omega),DU ps i,Ek (by omega)]
  exact d
 ·have e:=(Am.1 d).1
  rw [l] at e
  rw[h.cellAt (i*2+a) (by omega),DU ps i,EW (by omega),j,show i*2+a-i*2=a by omega]
  exact d
theorem Wq{w:World}{B vb i:Nat}{v:Value}{ps:List (Int×Int)}{key val:Int}(q:w.ownsRow B BN 2 v ps.length (ps.flatMap AN))(G:B≤w.heap.size)(ac:i≤ps.length)(x:Ah w vb BN #[.int .i64 key,.int .i64 val])(ad:v.ownBlock≠some vb)(y:ps.length≤1000000):
 Calls prog 318 #[v,.int .i64 i,.slice (some ⟨vb,0,none⟩) 1 1] w fun r m=>∃t,r=.returned t∧m.ownsRow B BN 2 t (ps.length+1) ((Hv ps i key val).flatMap AN)∧∃L,Ay L w m∧∀k∈L,v.ownBlock=some k:=by
 obtain⟨ae,c,rfl⟩:=Ag q
 have M:((Hv ps i key val).flatMap AN).length=(ps.length+1)*2:=by rw [Fe,Kf]
 by_cases af:i=ps.length
 ·subst af
  refine(Ab5 q G x y).mono ?_
  rintro r m ⟨t,rfl,ag,n⟩
  refine⟨t,rfl,?_,(Ar ae ps.length c).ownBlock.toList,(Ay.refl _ w).grown n (fun a5 ah=>.inl (by rw[ah];simp)),fun k b=>by simpa using b⟩
  rw[Jh,List.take_length,HQ]
  exact ag
 ·have ai:=q
  rcases q.2 with ⟨_,a6⟩|⟨e,a7,cur,z,aj,n,ak,S,A,al⟩
  ·omega
  ·injection z with u _ am
   subst u am
   obtain⟨an,W⟩:=QM ai rfl ac
   have a:((ps.take i).flatMap AN).length=i*2:=by rw[Fe,EH];omega
   have g:((ps.drop i).flatMap AN).length=(ps.length-i)*2:=by rw[Fe,EN]
   have X:∀ao∈(ps.drop i).flatMap AN,ao.oneCell'=true:=KU _
   generalize D:(ps.take i).flatMap AN=d at*
   generalize Y:(ps.drop i).flatMap AN=j at*
   have ap:vb≠e:=fun z=>ad (by rw [z];rfl)
   have aq:e<w.heap.size:=AB n
   by_cases Z:ps.length+1≤c
   ·refine(Wp n Z (by unfold Al at S;omega) A (by omega) g X W x ap y).mono ?_
    rintro r m ⟨o,ar,rfl,rfl⟩
    have au:cur.toList=d++cur.toList.drop (i*2):=by
     have av:cur.toList.take (i*2)=d:=by
      have aa:=congrArg (List.take (i*2)) al
      rw[List.take_take,show min (i*2) (ps.length*2)=i*2 by omega,DU ps i,D,Iw a] at aa
      exact aa
     rw[←av,Oh]
    have F:=QL d [.int .i64 key,.int .i64 val] j ((cur.toList.drop (i*2)).drop (2+j.length)) (cur.toList.drop (i*2)) cur.toList au (by simp only[EN,IY,A,C4,Em,g];omega) rfl
    simp only[a,C4,Em,Ej,Nat.reduceAdd] at F
    rw [←ar] at F
    have p:=setRow_heap (w.drew.setRow e o.toArray) e o.toArray (o.take (i*2)++[A0 .i64 key,A0 .i64 val]++o.drop (i*2+2)).toArray BN (0,0) (setRow_heap w.drew e cur o.toArray BN (0,0) n)
    rw [F] at p⊢
    refine⟨_,rfl,⟨M,.inr ⟨e,c,_,rfl,aj,p,Z,S, ?_, ?_⟩⟩,[e], ?_,fun k b=>by simp at b;subst b;rfl⟩
    ·simp only[EQ,Ef,EN,IY,A,a,g,C4,Em]
     omega
    ·rw[Jh,D,Y,E1 (d++_),E1 d,←E1 _ j,←E1 d]
     exact Iw (by simp only[Ef,a,g,C4,Em];omega)
    ·exact(((Ay.refl [e] w).drew).trans (Ff _ _ _) (fun k b=>.inl b)).trans (Ff _ _ _) (fun k b=>.inl b)
   ·have aw:c<ps.length+1:=by omega
    refine(ZJ aq ak aw (by omega) a an g X W x y).mono ?_
    rintro r m ⟨ab,ax,l,rfl,ay,az,a0,a1,p,a2⟩
    have u:l=d++([.int .i64 key,.int .i64 val]++ax.drop 2):=by
     rw[a1,Iw a,←a,P1]
     simp
    have a3:l.take (i*2+2)++j++l.drop (i*2+2+j.length)=d++([.int .i64 key,.int .i64 val]++j)++l.drop (i*2+2+j.length):=by
     have:l.take (i*2+2)=d++[.int .i64 key,.int .i64 val]:=by
      rw[u,←E1]
      exact Iw (by simp[a])
     rw [this]
     simp
    have a4:l.length=ab*2:=by
     rw [u]
     simp only[Ef,a,C4,Em,EN,a0]
     omega
    rw [a3] at p
    refine⟨_,rfl,⟨M,.inr ⟨w.heap.size,ab,_,rfl,G,p,ay,az, ?_, ?_⟩⟩,[],a2,fun k b=>by cases b⟩
    ·simp only[EQ,Ef,EN,a4,a,g,C4,Em]
     omega
    ·rw [Jh,D,Y]
     exact Iw (by simp only[Ef,a,g,C4,Em];omega)
end
section
open Go.Lib
theorem Nk(ps:List (Int×Int))(key:Int):∀f i j,i<=j->J9 ps key f i j<=j
 |0,i,j,h=>h
 |f+1,i,j,h=>by
  unfold J9
  split
  case isTrue a=>
   split
   .exact Nk ps key f _ _ (by omega)
   .exact Nat.le_trans (Nk ps key f _ _ (by omega)) (by omega)
  case isFalse=>exact h
theorem ZK(ps:List (Int×Int))(key:Int):AL ps key<=ps.length:=Nk ps key _ _ _ (A9 _)
theorem Lt{ps:List (Int×Int)}{key:Int}(h:B5 ps key=x):ps[AL ps key]?=E (key,x):=by
 unfold B5 at h
 split at h
 case h_1 d a=>
  split at h
  case isTrue b=>
   injection h with h;rw[a,<-b,<-h]
  case isFalse=>cases h
 case h_2=>cases h
theorem ZL{w:U}{ps:List (Int×Int)}{key val:Int}(h:Cc BN 2 AN w (C g ps.length c) ps)(j:ps[i]?=E (key,x)):
 Cc BN 2 AN (w.setCell ⟨g,i*2+1,O⟩ val) (C g ps.length c) (ps.set i (key,val)):=by
 refine⟨?_,h.2.set _ _⟩;obtain⟨⟨F,G,L,M,t,S,u,v,k⟩,-⟩:=h;injection t with y W z;subst y z;have X:=(Am.1 j).1;have l:=u _ rfl (by omega);injection l with A l;subst A l;refine⟨E g,c,g,0,by rw[HL],(λa=>by cases a),(λY a _=>by injection a with a;exact a.symm),by simpa using v,λb o d m p e n=>?_⟩;by_cases q:b=i
 .subst q
  have B:o=(key,val):=by
   rw[El (by omega)] at d;injection d with d;exact d.symm
  subst B;have D:m=0∨m=1:=by omega
  rcases D with rfl|rfl
  .rw[Er _ _ _ _ (λa=>by injection a with _ a _;omega)];exact k b _ j 0 p e n
  .have r:=k b _ j 1 _ rfl n;simp[AN] at e;subst e;rw[show 0+b*2+1=b*2+1 by omega] at r|-;exact IK _ _ _ r
 .rw[Et (λa=>q a.symm)] at d;rw[Er _ _ _ _ (λa=>by injection a with _ a _;omega)];exact k b o d m p e n
def putR(ps:List (Int×Int))(key val:Int):List (Int×Int):=if(B5 ps key).isSome then ps.set (AL ps key) (key,val) else Hv ps (AL ps key) key val
theorem JC{W:U}{t:Ab}{a b c d d':N}(h:Ah W g t #[a,b,c,d]):Ah (W.setCell ⟨g,3,O⟩ d') g t #[a,b,c,d']:=by
 have:=h.put 3 d';simpa using this
theorem Hc(b:Nat)(X:U)(a0 a a2 a3:N):Ay [b] X ((((X.setCell b a0).setCell ⟨b,1,O⟩ a).setCell ⟨b,2,O⟩ a2).setCell ⟨b,3,O⟩ a3):=
 (((((Ay.refl [b] X).setCell (p:=b) (.inl (by simp)) _).setCell (p:=⟨b,1,O⟩) (.inl (by simp)) _).setCell (p:=⟨b,2,O⟩) (.inl (by simp)) _).setCell (p:=⟨b,3,O⟩) (.inl (by simp)) _)
theorem JD{w0 w Y:U}{s:AO}{v:N}{a:List (Int×Int)}(j:Cc Cv 1 FH w0 (C A s.q.length n) s.q)(k:Below w0 w0 w)(l:∀Z,(∀b,w.heap.size+2<=b->b<Y.heap.size->Z.heap[b]?=Y.heap[b]?)->Cc BN 2 AN Z v a)(d:Below w w Y):
 Below w w ((((Y.setCell (w+1:Nat) s.kind).setCell ⟨w.heap.size+1,1,O⟩ s.num).setCell ⟨w.heap.size+1,2,O⟩ (C A s.q.length n)).setCell ⟨w.heap.size+1,3,O⟩ v)/\
 ∀Z,Zi w0 w ((((Y.setCell (w+1:Nat) s.kind).setCell ⟨w.heap.size+1,1,O⟩ s.num).setCell ⟨w.heap.size+1,2,O⟩ (C A s.q.length n)).setCell ⟨w.heap.size+1,3,O⟩ v) Z->Gj Z (.agg #[s.kind,s.num,C A s.q.length n,v]) {s with ps:=a}:=by
 refine⟨BR d (Ax _),λZ e=>?_⟩;have g:=Hc (w+1) Y s.kind s.num (C A s.q.length n) v;have h:=l Z (λb o i=>(e b (.inr (by omega)) (ED i g.size)).trans (g.block b i (by simp;omega)));obtain⟨m,c,rfl⟩:=h.shape;exact⟨A,n,m,c,rfl,CT j k (BR d (Ax _)) e,h⟩
theorem Aem{w0 w:U}{v:N}{s:AO}(bp:Gj w0 v s)(S:Below w0 w0 w)(key val:Int)(a1:∀a2∈s.ps,0<=a2.1/\a2.1<=1000)(a3:0<=key/\key<=1000)(W:s.ps.length<=1000000):
 Calls prog 315 #[v,key,val] w λX bq=>CS w0 w ({s with ps:=putR s.ps key val},1,0) X bq:=by
 obtain⟨m,o,af,ag,rfl,A,B⟩:=bp;have a4:=Af A;have c3:=Af B;have a5:=Af S;replace A:=A.below S;replace B:=B.below S;have br:=Af A;have a6:=Af (λah (D:Below w w ah)=>ZI (B.below D).1 W);have a7:=Af (λ(ah:U) (v:N) (r:Gj ah v s)=>Lr r a1 a3 W);have bs:=Af<|Bo w (K (L4 s m o af ag) AZ) AZ #[(),(),C O 0 0,C O 0 0];have a8:=Af<|(Ah.new w AZ (L4 s m o af ag)).below ((Ae _ _).alloc (Aa _) (K #[(),(),C O 0 0,C O 0 0] AZ)) (by simp);have a9:=Af<|AG w (K (L4 s m o af ag) AZ) (K #[(),(),C O 0 0,C O 0 0] AZ);have bt:=Af W;go_in;have bu:=a8.o.cell 3;go_wp2_with fail;refine(a6.o _ a9).mono ?_;rintro X ba ⟨c4,rfl,ai,Y⟩;obtain⟨q,j,rfl⟩:=Ag ai;have bb:Hid (ba.ownsRow (w+2) BN 2 (C q s.ps.length j) s.ps.length (s.ps.flatMap AN)):=Af (by simpa using ai);have bv:=Af<|bs.o.below Y (by simp);have Z:=Af<|a8.o.below Y (by simp;omega);have bw:=Af<|a9.o.trans (Y.mono (by simp;omega));have aj:=Z.o.cell 3;have ak:=Z.o.frozen 3;have al:=Z.o.lt;go_upto_region 2 with fail;generalize F:ba.setCell ⟨w.heap.size,3,O⟩ (C q s.ps.length j)=u;have am:∀d,d<w.heap.size+2->(Ar q s.ps.length j).ownBlock≠E d:=λd D p=>by have:=(Ai bb p).1;omega
 have bz:=Af am;have an:Hid (Below w w u):=Af (by rw[<-F];exact bw.o.setCell (p:=⟨w.heap.size,3,O⟩) (Aa _) _);have x:Hid (Ah u w AZ #[s.kind,s.num,C m s.q.length o,C q s.ps.length j]):=Af (by rw[<-F];exact JC Z);have bc:Hid (Ah u (w+1) AZ #[(),(),C O 0 0,C O 0 0]):=Af (by rw[<-F];exact bv.o.far (p:=⟨w.heap.size,3,O⟩) (by simp) _);have bd:Hid (u.ownsRow (w+2) BN 2 (C q s.ps.length j) s.ps.length (s.ps.flatMap AN)):=Af (by rw[<-F];exact Ak bb (p:=⟨w.heap.size,3,O⟩) (am _ (by simp)) _);have b0:=x.o.cell 0;have b1:=x.o.cell 1;have b2:=x.o.cell 2;have b3:=x.o.cell 3;have b4:Hid (Gj u (.agg #[s.kind,s.num,C m s.q.length o,C q s.ps.length j]) s):=Af ⟨m,o,q,j,rfl,br.o.below an,Cc.of_row bd (λ_=>rfl) rfl⟩;go_wp2_with fail;refine(a7.o u _ b4).mono ?_;rintro X k ⟨rfl,G⟩;have L:=Af<|x.o.below G x.o.lt;have ao:=Af<|bc.o.below G bc.o.lt;have t:=Af<|AA bd G;have ap:=Af<|an.o.trans (G.mono an.o.size);have be:=L.o.cell 3;have bf:=L.o.frozen 3;have bg:=L.o.lt;have b5:=Af ao.o.lt
 cases r:B5 s.ps key with
 |some aq=>
  have aa:=Lt r;have b6:=(Am.1 aa).1
  obtain⟨a,b7,bh⟩:∃a,q=E ⟨a,0,O⟩/\w.heap.size+2<=a:=by
   rcases t.o.2 with ⟨_,c5⟩|⟨a,c6,cur,p,b8,_⟩
   .omega
   .injection p with p;exact⟨a,p,b8⟩
  subst b7;have M:=t.o.cellAt (AL s.ps key*2+1) (by omega);have bi:Cc BN 2 AN k (C a s.ps.length j) s.ps:=Cc.of_row t (λ_=>rfl) rfl;have b9:=Af<|ZL (val:=val) bi aa;rw[Fc (n:=2) (f:=AN) (λ_=>rfl) s.ps _ _ aa 1 (by omega)] at M;have M:k.cell? ⟨a,AL s.ps key*2+1,O⟩=aq:=M;have ca:k.frozen? ⟨a,AL s.ps key*2+1,O⟩=false:=t.o.frozenAt _;have cb:(0:Int)<=(AL s.ps key:Int):=by omega
  have cc:(AL s.ps key:Int)<(s.ps.length:Int):=by omega
  have ar:Hid (putR s.ps key val=s.ps.set (AL s.ps key) (key,val)):=Af (by unfold putR;rw[r];rfl);have ab:=Af bh;have cd:Hid (a<(k.setCell ⟨a,AL s.ps key*2+1,O⟩ val).heap.size):=Af (by simp;exact Ad k _ M);go_upto_region 6 with fail;generalize e:k.setCell ⟨a,AL s.ps key*2+1,O⟩ val=g;have l:Hid (Ah g w AZ #[s.kind,s.num,C m s.q.length o,C a s.ps.length j]):=Af (by rw[<-e];exact L.o.far (p:=⟨a,AL s.ps key*2+1,O⟩) (by have:=ab.o;simp;omega) _);have b:Hid (Ah g (w+1) AZ #[(),(),C O 0 0,C O 0 0]):=Af (by rw[<-e];exact ao.o.far (p:=⟨a,AL s.ps key*2+1,O⟩) (by have:=ab.o;simp;omega) _);have au:Hid (Below w w g):=Af (by rw[<-e];exact ap.o.setCell (p:=⟨a,AL s.ps key*2+1,O⟩) (by have:=ab.o;simp;omega) _);have av:Hid (Cc BN 2 AN g (C a s.ps.length j) (s.ps.set (AL s.ps key) (key,val))):=Af (by rw[<-e];exact b9.o);have ce:Hid (a<g.heap.size):=Af (by rw[<-e];exact cd.o);have cf:=l.o.cell 0;have cg:=l.o.cell 1;have ch:=l.o.cell 2;have ci:=l.o.cell 3;have cj:=b.o.cell 0;have ck:=b.o.cell 1;have cl:=b.o.cell 2;have cn:=b.o.cell 3;have co:=b.o.frozen 0;have cp:=b.o.frozen 1;have cq:=b.o.frozen 2;have cr:=b.o.frozen 3;have cs:=l.o.lt;have ct:=b.o.lt;go_wp2_with fail;refine Ao (Kc _ rfl rfl _ _ _ s.kind s.num (C m s.q.length o) (C a s.ps.length j) _ _ rfl rfl rfl (Cg b)) rfl ?_;rw[ar.o];exact⟨_,rfl,JD a4 a5 (λac aw=>ZG av (aw a ab ce)) au⟩
 |none=>
  have ar:Hid (putR s.ps key val=Hv s.ps (AL s.ps key) key val):=Af (by unfold putR;rw[r];rfl);have cu:Below k k (k.alloc (K #[key,val] BN)):=(Ae _ _).alloc (Aa _) _;have bj:=Af<|Wq (vb:=k.heap.size) (i:=AL s.ps key) (key:=key) (val:=val) (t.o.alloc (K #[key,val] BN)) (by have:=b5.o;simp;omega) (ZK _ _) (Ah.new k BN _) (λp=>by have:=(Ai t p).2;omega) bt;have cv:=Af<|L.o.alloc (K #[key,val] BN);have cw:=Af<|ao.o.alloc (K #[key,val] BN);have bk:=Af<|ap.o.alloc ap.o.size (K #[key,val] BN);go_wp2_with fail;refine bj.o.mono ?_;rintro X cx ⟨c7,rfl,ax,cy,ad,ay⟩;have az:∀d,d<w.heap.size+2->d∉cy:=λd D a0=>bz.o d D (ay d a0);have ae:=Af<|cv.o.only ad (az _ (by simp));have cz:=Af<|cw.o.only ad (az _ (by simp));have c0:=Af<|BI bk ad bk.o.size (λaq a0=>by have:=(Ai t (ay aq a0)).1;omega);obtain⟨y,z,rfl⟩:=Ag ax;have bl:=Af ax;have aj:=ae.o.cell 3;have ak:=ae.o.frozen 3;have al:=ae.o.lt;go_upto_region 6 with fail;generalize e:cx.setCell ⟨w.heap.size,3,O⟩ (C y (s.ps.length+1) z)=g;have bm:∀d,d<w.heap.size+2->(Ar y (s.ps.length+1) z).ownBlock≠E d:=λd D p=>by have:=(Ai bl p).1;omega
  have l:Hid (Ah g w AZ #[s.kind,s.num,C m s.q.length o,C y (s.ps.length+1) z]):=Af (by rw[<-e];exact JC ae);have b:Hid (Ah g (w+1) AZ #[(),(),C O 0 0,C O 0 0]):=Af (by rw[<-e];exact cz.o.far (p:=⟨w.heap.size,3,O⟩) (by simp) _);have au:Hid (Below w w g):=Af (by rw[<-e];exact c0.o.setCell (p:=⟨w.heap.size,3,O⟩) (Aa _) _)
  have av:Hid (∀ac,(∀d,w.heap.size+2<=d->d<g.heap.size->ac.heap[d]?=g.heap[d]?)->Cc BN 2 AN ac (C y (s.ps.length+1) z) (Hv s.ps (AL s.ps key) key val)):=Af (λac aw=>by
   have bn:g.ownsRow (w+2) BN 2 (C y (s.ps.length+1) z) (s.ps.length+1) ((Hv s.ps (AL s.ps key) key val).flatMap AN):=by rw[<-e];exact Ak bl (p:=⟨w.heap.size,3,O⟩) (bm _ (by simp)) _
   have bo:=Ha bn (λa c1 c2=>aw a (Ai bn c1).1 c2);rw[<-Kf s.ps (AL s.ps key) key val] at bo|-;exact Cc.of_row bo (λ_=>rfl) rfl)
  have cf:=l.o.cell 0;have cg:=l.o.cell 1;have ch:=l.o.cell 2;have ci:=l.o.cell 3;have cj:=b.o.cell 0;have ck:=b.o.cell 1;have cl:=b.o.cell 2;have cn:=b.o.cell 3;have co:=b.o.frozen 0;have cp:=b.o.frozen 1;have cq:=b.o.frozen 2;have cr:=b.o.frozen 3;have cs:=l.o.lt;have ct:=b.o.lt;go_wp2_with fail;refine Ao (Kc _ rfl rfl _ _ _ s.kind s.num (C m s.q.length o) (C y (s.ps.length+1) z) _ _ rfl rfl rfl (Cg b)) rfl ?_;rw[ar.o];exact⟨_,rfl,JD a4 a5 av au⟩
end
section
open Go.Lib
theorem Ab6(n:Nat)(A:n<=1000000)(w:U):Calls prog 362 #[C O 0 0,I J n] w λo g=>∃i,o=R i/\g.ownsRow w.heap.size BN 2 i 0 []/\Below w.heap.size w g:=by
 have B:IntKind.i64.wrap (n:Int)=(n:Int):=by rw[Ey];omega
 have D:¬((n:Int)<0):=by omega
 by_cases j:n=0
 .subst j;go_in;go_wp2_with fail;go_ret;exact⟨_,rfl,⟨rfl,.inl ⟨rfl,rfl⟩⟩,Ae _ _⟩
 .obtain⟨p,q,r,F,k⟩:=A1 GM;have t:=underlying304;have u:=underlying3;obtain⟨a,b⟩:∃a,a=grownCap w n 0 BN:=⟨_,rfl⟩;have v:n<=a:=by rw[b];exact grownCap_ge w _ _ _
  have l:a<=Al:=by rw[b];exact grownCap_le_maxLen w n 0 BN (by unfold Al;omega)
  obtain⟨R,d⟩:∃R:Array N,R= #[]++Ix (Gf #[I J 0,I J 0]).cells n++Ix (Gf #[I J 0,I J 0]).cells (a-n):=⟨_,rfl⟩
  have m:R.size=a*2:=by
   rw[d];simp[Ix,F2];omega
  have x:∀e,(Oi #[Hp,3] e #[C O 0 0,I J (n:Int)]).run prog w=.ok (C (E ⟨w.heap.size,0,O⟩) n a) (w.drew.alloc (K R BN)):=λe=>by
   have h:=Q2 w Hp 3 e BN p _ .i64 .i64 t u q r O 0 0 [] (run_firstCells_none _ _ _ _ _) n (by omega) (by omega) (by omega) (by omega) (by rw[k];omega) (by rw[k];exact growslice_fits (by omega) (by omega));simp only[Ej] at h;rw[<-b] at h;rw[h,d]
  have y:=Af m;have z:=Af l;have G:(0:Int)<(n:Int):=by omega
  clear d b m l v j;go_in;go_wp2_with (at_builtin;refine RA _ rfl _ _ _ _ rfl _ _ rfl rfl _ _ (x _) ?_);go_ret;refine⟨_,rfl,⟨rfl,.inr ⟨w.heap.size,a,R,rfl,Aa _,D4 w _,A9 _,z.o,y.o,rfl⟩⟩,?_⟩;exact((Ae _ _).alloc (Aa _) _).drew
def Dz(l1 l2:List (Int×Int))(k:Nat):List (Int×Int):=if k=0 then [] else if k=1 then l1 else l1++l2
theorem Ws{w:U}{c1 c2:Nat}{t a2:Addr}{l1 l2:List (Int×Int)}(F:Ah w n Hp #[C (E t) k c1,C (E a2) g c2])(G:k=l1.length)(L:g=l2.length)
 (M:∀j u,(l1.flatMap AN)[j]?=E u->w.cell? (t.add j)=E u) (S:∀j u,(l2.flatMap AN)[j]?=E u->w.cell? (a2.add j)=E u) (W:k+g<=1000000):
 Calls prog 322 #[C (E ⟨n,0,O⟩) 2 2] w λX Y=>∃y,X=R y/\Y.ownsRow w.heap.size BN 2 y (k+g) ((l1++l2).flatMap AN)/\Below w.heap.size w Y:=by
 obtain⟨Z,aa,ab,ac,ad⟩:=A1 GM;have p:=Af F;have ae:=Af M;have af:=Af S;have o:=Af G;have z:=Af L;have v:=Af W;have aq:Hid (IntKind.i64.wrap ((k:Int))=(k:Int)/\IntKind.i64.wrap ((k:Int)+(g:Int))=(k:Int)+(g:Int)):=Af ⟨by rw[Ey];omega,by rw[Ey];omega⟩;have ag:=Af (λw=>Ab6 (k+g) (by omega) w);clear F M S G L W;go_in;go_wp2
 go_loopw [3,11] (λar d wr=>∃a:Nat,d=I J a/\a<=2/\ar=I J (if a=0 then 0 else if a=1 then(k:Int) else(k:Int)+(g:Int))/\wr=w) (λ_ d _=>3-(intOf d).toNat)
 case atStart=>exact⟨0,rfl,by omega,rfl,rfl⟩
 case round=>
  obtain⟨a,rfl,e,rfl,rfl⟩:=hrel;have ah:=p.o.cell 0;have ai:=p.o.cell 1;have aj:=p.o.lt;obtain⟨au,ak⟩:=aq.o;rcases (show a=0∨a=1∨a=2 by omega) with rfl|rfl|rfl
  .clear e;have av:¬((k:Int)<0):=by omega
   go_wp2
   go_roundw
   case rel=>exact⟨1,by go_num,by omega,by simp,trivial⟩
   case measure=>simp[intOf]
  .clear e;have av:¬((k:Int)+(g:Int)<0):=by omega
   go_wp2
   go_roundw
   case rel=>exact⟨2,by go_num,by omega,by simp,trivial⟩
   case measure=>simp[intOf]
  .obtain⟨b,rfl⟩:∃b:U,b=wr:=⟨_,rfl⟩;have al:=Af<|ag.o b;clear ag;go_wp2_with fail;refine al.o.mono ?_;rintro X ak ⟨y,rfl,i,am⟩;have l:=Af i;have aw:=Af am;obtain⟨a5,c,rfl⟩:=Ag i;clear i am al;go_wp2
   go_loopw [6,27] (λax d an=>∃(a:Nat),d=I J a/\a<=2/\an.ownsRow b.heap.size BN 2 ax (Dz l1 l2 a).length ((Dz l1 l2 a).flatMap AN)/\Below b.heap.size b an) (λ_ d _=>3-(intOf d).toNat)
   case atStart=>exact⟨0,rfl,by omega,l.o,aw.o⟩
   case round=>
    obtain⟨a,rfl,e,i,q⟩:=hrel;have m:=Af q;have l:=Af i;obtain⟨ao,ap,rfl⟩:=Ag i;have x:=p.o.below q p.o.lt;have ah:=x.cell 0;have ai:=x.cell 1;have aj:=x.lt;have ay:Hid (∀j u,(l1.flatMap AN)[j]?=E u->wr.cell? (t.add j)=E u):=Af (λj u r=>(q.cell (Ad _ _ (ae.o j u r))).trans (ae.o j u r));have az:Hid (∀j u,(l2.flatMap AN)[j]?=E u->wr.cell? (a2.add j)=E u):=Af (λj u r=>(q.cell (Ad _ _ (af.o j u r))).trans (af.o j u r));rcases (show a=0∨a=1∨a=2 by omega) with rfl|rfl|rfl
    .go_wp2_with (at_builtin;refine B9 _ rfl (.tmp 31) (.tmp 32) Hp rfl b.heap.size BN Z (.agg #[I J 0,I J 0]) 2 16 underlying304 aa ab ac ad rfl (by decide) (.slice ao (Dz l1 l2 0).length ap) (Dz l1 l2 0).length ((Dz l1 l2 0).flatMap AN) rfl l.o t k c1 (l1.flatMap AN) rfl (by rw[Fe,o.o]) ay.o (KU l1) (by have:=v.o;simp[Dz];unfold Al;omega) (by have:=v.o;simp[Dz];omega) m.o.size ?_;intro a0 a1 A B _ _)
     go_roundw
     case rel=>exact⟨1,by go_num,by omega,by simpa[Dz,o.o] using A,m.o.grown B m.o.size (λa3 D=>(Ai l.o D).1)⟩
     case measure=>simp[intOf]
    .go_wp2_with (at_builtin;refine B9 _ rfl (.tmp 31) (.tmp 32) Hp rfl b.heap.size BN Z (.agg #[I J 0,I J 0]) 2 16 underlying304 aa ab ac ad rfl (by decide) (.slice ao (Dz l1 l2 1).length ap) (Dz l1 l2 1).length ((Dz l1 l2 1).flatMap AN) rfl l.o a2 g c2 (l2.flatMap AN) rfl (by rw[Fe,z.o]) az.o (KU l2) (by have:=v.o;have:=o.o;simp[Dz];unfold Al;omega) (by have:=v.o;have:=o.o;simp[Dz];omega) m.o.size ?_;intro a0 a1 A B _ _)
     go_roundw
     case rel=>exact⟨2,by go_num,by omega,by simpa[Dz,o.o,z.o] using A,m.o.grown B m.o.size (λa3 D=>(Ai l.o D).1)⟩
     case measure=>simp[intOf]
    .go_wp2;go_ret;refine⟨_,rfl,?_,m.o⟩;have h:=l.o;have a4:(Dz l1 l2 2).length=k+g:=by simp[Dz,o.o,z.o]
     rw[a4] at h|-;exact h
def C3(ps:List (Int×Int))(key:Int):List (Int×Int):=if(B5 ps key).isSome then ps.take (AL ps key)++ps.drop (AL ps key+1) else ps
theorem Aen{w0 w:U}{v:N}{s:AO}(bf:Gj w0 v s)(W:Below w0.heap.size w0 w)(key val:Int)(aq:∀bg∈s.ps,0<=bg.1/\bg.1<=1000)(ar:0<=key/\key<=1000)(aj:s.ps.length<=1000000):
 Calls prog 321 #[v,key,val] w λG ak=>CS w0 w ({s with ps:=C3 s.ps key},GL s key) G ak:=by
 have au:=bf.below W;obtain⟨x,y,X,j,rfl,Y,Z⟩:=bf;have av:=Af Y;have bz:=Af Z;have aw:=Af W;replace Y:=Y.below W;replace Z:=Z.below W;clear W;have cr:=Af Y;have ax:=Af Z;have bh:=Af (λe (D:Below w.heap.size w e)=>Mz (au.below D) aq ar aj);have bi:=Af (λe (D:Below w.heap.size w e)=>Lr (au.below D) aq ar aj);have b0:=Af<|Bo w (K (L4 s x y X j) AZ) AZ #[(),(),C O 0 0,C O 0 0];have aa:=Af<|(Ah.new w AZ (L4 s x y X j)).below ((Ae _ _).alloc (Aa _) (K #[(),(),C O 0 0,C O 0 0] AZ)) (by simp);have bj:=Af<|AG w (K (L4 s x y X j) AZ) (K #[(),(),C O 0 0,C O 0 0] AZ);have bk:=Af aj;clear Y Z au aq ar aj;go_in;have b1:=aa.o.cell 0;have b2:=aa.o.cell 1;have b3:=aa.o.cell 2;have b4:=aa.o.cell 3;go_wp2_with fail;refine(bh.o _ bj.o).mono ?_;rintro G cs ⟨rfl,al⟩;have bl:=Af<|b0.o.below al (by simp);have L:=Af<|aa.o.below al (by simp;omega);have ay:=Af<|bj.o.trans (al.mono (by simp;omega));have b5:=L.o.cell 0;have b6:=L.o.cell 1;have b7:=L.o.cell 2;have b8:=L.o.cell 3;have b9:=L.o.lt;clear al bh b1 b2 b3 b4;go_wp2_with fail;refine(bi.o _ ay.o).mono ?_;rintro G am ⟨rfl,an⟩;have z:=Af<|L.o.below an L.o.lt;have l:=Af<|bl.o.below an bl.o.lt;have o:=Af<|ay.o.trans (an.mono ay.o.size);have ct:=z.o.cell 0;have cu:=z.o.cell 1;have bm:=z.o.cell 2;have cv:=z.o.cell 3;have cw:=z.o.lt;have bn:=l.o.cell 0;have bo:=l.o.cell 1;have bp:=l.o.cell 2;have bq:=l.o.cell 3;have cx:=l.o.frozen 0;have cy:=l.o.frozen 1;have cz:=l.o.frozen 2;have c0:=l.o.frozen 3;have br:=l.o.lt;clear an b5 b6 b7 b8 b9 bi
 cases S:B5 s.ps key with
 |none=>
  have ao:Hid (C3 s.ps key=s.ps):=Af (by unfold C3;rw[S];rfl);have c1:Hid (GL s key=(2,0)):=Af (by unfold GL;rw[S]);clear S;go_wp2_with fail;refine Ao (Kc _ rfl rfl _ _ _ s.kind s.num (C x s.q.length y) (C X s.ps.length j) _ _ rfl rfl rfl (Cg l.o)) rfl ?_;rw[ao.o];have D:=BR (a:=s.kind) (b:=s.num) (c:=C x s.q.length y) (d:=C X s.ps.length j) o.o<|Ax w.heap.size;exact⟨_,rfl,D,λF ab=>JB av.o bz.o aw.o D ab s.num⟩
 |some c2=>
  have az:=Lt S;have bs:=(Am.1 az).1;have ao:Hid (C3 s.ps key=s.ps.take (AL s.ps key)++s.ps.drop (AL s.ps key+1)):=Af (by unfold C3;rw[S];rfl);obtain⟨b,g,ca,_,cb,_⟩:=ax.o.at az;subst ca
  have cc:Hid (∀(e:U),Below w.heap.size w e->∀m n,((s.ps.take (AL s.ps key)).flatMap AN)[m]?=E n->e.cell? ((⟨b,g,O⟩:Addr).add m)=E n):=Af (λe ac m n ad=>by
   obtain⟨_,_,h⟩:=((ax.o.below ac).1.take (k:=AL s.ps key) (by omega)).news (λ_=>rfl) (by omega);exact h _ rfl m n ad)
  have cd:Hid (∀(e:U),Below w.heap.size w e->∀m n,((s.ps.drop (AL s.ps key+1)).flatMap AN)[m]?=E n->e.cell? ((⟨b,g+(AL s.ps key+1)*2,O⟩:Addr).add m)=E n):=Af (λe ac m n ad=>by
   obtain⟨_,_,h⟩:=((ax.o.below ac).1.drop (k:=AL s.ps key+1) (by omega)).news (λ_=>rfl) (by omega);exact h _ rfl m n ad)
  have a0:j=AL s.ps key+1->s.ps.drop (AL s.ps key+1)=[]:=λap=>List.drop_eq_nil_of_le (by omega);have c3:(0:Int)<=(AL s.ps key:Int):=by omega
  have c4:(AL s.ps key:Int)<=(j:Int):=by omega
  have c5:IntKind.i64.wrap ((AL s.ps key:Int)+1)=(AL s.ps key:Int)+1:=by have:=bk.o;rw[Ey];omega
  have c6:(0:Int)<=(AL s.ps key:Int)+1:=by omega
  have c7:(AL s.ps key:Int)+1<=(s.ps.length:Int):=by omega
  have c8:prog.follows Ge=true:=by kernel_rfl
  have a1:Hid (AL s.ps key<s.ps.length):=Af bs;clear az bs S cb
  have bt:Hid (∀(e:U) (a2 bu:Nat) (a3:Addr) (bv:Nat),Below w.heap.size w e->(∀m n,((s.ps.drop (AL s.ps key+1)).flatMap AN)[m]?=E n->e.cell? (a3.add m)=E n)->Ah e a2 Hp #[C (E ⟨b,g,O⟩) (AL s.ps key) bu,C (E a3) (s.ps.length-(AL s.ps key+1)) bv]->Calls prog 322 #[C (E ⟨a2,0,O⟩) 2 2] e λG ak=>∃v,G=R v/\ak.ownsRow e.heap.size BN 2 v (C3 s.ps key).length ((C3 s.ps key).flatMap AN)/\Below e.heap.size e ak):=Af (λe a2 bu a3 bv ac ae ce=>by
   have h:=Ws (l1:=s.ps.take (AL s.ps key)) (l2:=s.ps.drop (AL s.ps key+1)) ce (by have:=a1.o;rw[EH];omega) (by rw[EN]) (cc.o e ac) ae (by have:=bk.o;have:=a1.o;omega);have bm:AL s.ps key+(s.ps.length-(AL s.ps key+1))=(C3 s.ps key).length:=by have:=a1.o;rw[ao.o,Ef,EH,EN];omega
   rw[bm,<-ao.o] at h;exact h)
  by_cases bw:j=AL s.ps key+1
  .have cf:Hid (∀(e:U) m n,((s.ps.drop (AL s.ps key+1)).flatMap AN)[m]?=E n->e.cell? ((⟨b,g,O⟩:Addr).add m)=E n):=Af (by rw[a0 bw];intro e m n ad;simp at ad);subst bw;go_wp2
   go_region_with (go_at_call 322;go_loud (refine(bt.o _ _ _ ⟨b,g,O⟩ 0 ((o.o.alloc o.o.size _).drew) (cf.o _) ((Ah.new am Hp _).drew)).mono ?_);rintro G a4 ⟨cg,rfl,M,A⟩;obtain⟨p,q,rfl⟩:=Ag M;have a5:=Af (((o.o.alloc o.o.size (K #[C (E ⟨b,g,O⟩) (AL s.ps key) (AL s.ps key+1),C (E ⟨b,g,O⟩) (s.ps.length-(AL s.ps key+1)) 0] Hp)).drew).trans (A.mono (by have:=o.o.size;simp;omega)));have B:=Af ((z.o.alloc (K #[C (E ⟨b,g,O⟩) (AL s.ps key) (AL s.ps key+1),C (E ⟨b,g,O⟩) (s.ps.length-(AL s.ps key+1)) 0] Hp)).drew.below A (by have:=z.o.lt;simp;omega));have a6:=Af ((l.o.alloc (K #[C (E ⟨b,g,O⟩) (AL s.ps key) (AL s.ps key+1),C (E ⟨b,g,O⟩) (s.ps.length-(AL s.ps key+1)) 0] Hp)).drew.below A (by have:=l.o.lt;simp;omega));have af:=Af M;have ag:Hid (w.heap.size+2<=((am.alloc (K #[C (E ⟨b,g,O⟩) (AL s.ps key) (AL s.ps key+1),C (E ⟨b,g,O⟩) (s.ps.length-(AL s.ps key+1)) 0] Hp)).drew).heap.size):=Af (by have:=l.o.lt;simp;omega);have a7:=B.o.cell 3;have a8:=B.o.frozen 3;have a9:=B.o.lt;clear A M)
   all_goals go_upto_region 5 with fail
   all_goals
    generalize t:a4.setCell ⟨w.heap.size,3,O⟩ (C p (C3 s.ps key).length q)=r;have ah:∀b,b<w.heap.size+2->(Ar p (C3 s.ps key).length q).ownBlock≠E b:=λb D ap=>by have:=(Ai af.o ap).1;have:=ag.o;omega
    have u:Hid (Ah r w.heap.size AZ #[s.kind,s.num,C x s.q.length y,C p (C3 s.ps key).length q]):=Af (by rw[<-t];exact JC B.o);have i:Hid (Ah r (w.heap.size+1) AZ #[(),(),C O 0 0,C O 0 0]):=Af (by rw[<-t];exact a6.o.far (p:=⟨w.heap.size,3,O⟩) (by simp) _);have ba:Hid (Below w.heap.size w r):=Af (by rw[<-t];exact a5.o.setCell (p:=⟨w.heap.size,3,O⟩) (Aa _) _)
    have bb:Hid (∀F,(∀b,w.heap.size+2<=b->b<r.heap.size->F.heap[b]?=r.heap[b]?)->Cc BN 2 AN F (C p (C3 s.ps key).length q) (C3 s.ps key)):=Af (λF ab=>by
     have ai:r.ownsRow (w.heap.size+2) BN 2 (C p (C3 s.ps key).length q) (C3 s.ps key).length ((C3 s.ps key).flatMap AN):=by rw[<-t];exact Ak (Aw af.o ag.o) (p:=⟨w.heap.size,3,O⟩) (ah _ (by simp)) _
     have ae:=Ha ai (λbc bd be=>ab bc (Ai ai bd).1 be);exact Cc.of_row ae (λ_=>rfl) rfl)
    have bn:=u.o.cell 0;have bo:=u.o.cell 1;have bp:=u.o.cell 2;have bq:=u.o.cell 3;have ch:=i.o.cell 0;have ci:=i.o.cell 1;have cj:=i.o.cell 2;have ck:=i.o.cell 3;have cl:=i.o.frozen 0;have cn:=i.o.frozen 1;have co:=i.o.frozen 2;have cp:=i.o.frozen 3;have br:=u.o.lt;have cq:=i.o.lt;go_wp2_with fail;refine Ao (Kc _ rfl rfl _ _ _ s.kind s.num (C x s.q.length y) (C p (C3 s.ps key).length q) _ _ rfl rfl rfl (Cg i.o)) rfl ?_;exact⟨_,rfl,JD av.o aw.o bb.o ba.o⟩
  .go_wp2
   go_region_with (go_at_call 322;go_loud (refine(bt.o _ _ _ ⟨b,g+(AL s.ps key+1)*2,O⟩ (j-(AL s.ps key+1)) ((o.o.alloc o.o.size _).drew) (cd.o _ ((o.o.alloc o.o.size _).drew)) ((Ah.new am Hp _).drew)).mono ?_);rintro G a4 ⟨cg,rfl,M,A⟩;obtain⟨p,q,rfl⟩:=Ag M;have a5:=Af (((o.o.alloc o.o.size (K #[C (E ⟨b,g,O⟩) (AL s.ps key) j,C (E ⟨b,g+(AL s.ps key+1)*2,O⟩) (s.ps.length-(AL s.ps key+1)) (j-(AL s.ps key+1))] Hp)).drew).trans (A.mono (by have:=o.o.size;simp;omega)));have B:=Af ((z.o.alloc (K #[C (E ⟨b,g,O⟩) (AL s.ps key) j,C (E ⟨b,g+(AL s.ps key+1)*2,O⟩) (s.ps.length-(AL s.ps key+1)) (j-(AL s.ps key+1))] Hp)).drew.below A (by have:=z.o.lt;simp;omega));have a6:=Af ((l.o.alloc (K #[C (E ⟨b,g,O⟩) (AL s.ps key) j,C (E ⟨b,g+(AL s.ps key+1)*2,O⟩) (s.ps.length-(AL s.ps key+1)) (j-(AL s.ps key+1))] Hp)).drew.below A (by have:=l.o.lt;simp;omega));have af:=Af M;have ag:Hid (w.heap.size+2<=((am.alloc (K #[C (E ⟨b,g,O⟩) (AL s.ps key) j,C (E ⟨b,g+(AL s.ps key+1)*2,O⟩) (s.ps.length-(AL s.ps key+1)) (j-(AL s.ps key+1))] Hp)).drew).heap.size):=Af (by have:=l.o.lt;simp;omega);have a7:=B.o.cell 3;have a8:=B.o.frozen 3;have a9:=B.o.lt;clear A M)
   all_goals go_upto_region 5 with fail
   all_goals
    generalize t:a4.setCell ⟨w.heap.size,3,O⟩ (C p (C3 s.ps key).length q)=r;have ah:∀b,b<w.heap.size+2->(Ar p (C3 s.ps key).length q).ownBlock≠E b:=λb D ap=>by have:=(Ai af.o ap).1;have:=ag.o;omega
    have u:Hid (Ah r w.heap.size AZ #[s.kind,s.num,C x s.q.length y,C p (C3 s.ps key).length q]):=Af (by rw[<-t];exact JC B.o);have i:Hid (Ah r (w.heap.size+1) AZ #[(),(),C O 0 0,C O 0 0]):=Af (by rw[<-t];exact a6.o.far (p:=⟨w.heap.size,3,O⟩) (by simp) _);have ba:Hid (Below w.heap.size w r):=Af (by rw[<-t];exact a5.o.setCell (p:=⟨w.heap.size,3,O⟩) (Aa _) _)
    have bb:Hid (∀F,(∀b,w.heap.size+2<=b->b<r.heap.size->F.heap[b]?=r.heap[b]?)->Cc BN 2 AN F (C p (C3 s.ps key).length q) (C3 s.ps key)):=Af (λF ab=>by
     have ai:r.ownsRow (w.heap.size+2) BN 2 (C p (C3 s.ps key).length q) (C3 s.ps key).length ((C3 s.ps key).flatMap AN):=by rw[<-t];exact Ak (Aw af.o ag.o) (p:=⟨w.heap.size,3,O⟩) (ah _ (by simp)) _
     have ae:=Ha ai (λbc bd be=>ab bc (Ai ai bd).1 be);exact Cc.of_row ae (λ_=>rfl) rfl)
    have bn:=u.o.cell 0;have bo:=u.o.cell 1;have bp:=u.o.cell 2;have bq:=u.o.cell 3;have ch:=i.o.cell 0;have ci:=i.o.cell 1;have cj:=i.o.cell 2;have ck:=i.o.cell 3;have cl:=i.o.frozen 0;have cn:=i.o.frozen 1;have co:=i.o.frozen 2;have cp:=i.o.frozen 3;have br:=u.o.lt;have cq:=i.o.lt;go_wp2_with fail;refine Ao (Kc _ rfl rfl _ _ _ s.kind s.num (C x s.q.length y) (C p (C3 s.ps key).length q) _ _ rfl rfl rfl (Cg i.o)) rfl ?_;exact⟨_,rfl,JD av.o aw.o bb.o ba.o⟩
end
section
open Go.Lib
abbrev Db:Ab:=117
abbrev BS:Ab:=119
abbrev tSl:Ab:=115
theorem QN:(prog.info? AZ).map (fun a=>(a.zero,a.size,a.bytes))=some (some (.agg #[.int .i64 0,.int .i64 0,.slice none 0 0,.slice none 0 0]),4,64):=by kernel_rfl
def Wt(w0:World)(B:Nat)(w:World)(v:Value)(l:List AO):Prop:=∃a:List (List Value),a.length=l.length∧w.ownsRow B AZ 4 v l.length a.flatten∧∀(d:Nat) (e:AO) (b:List Value),l[d]?=some e→a[d]?=some b→b.length=4∧Jz w0 e b
theorem DV{l:List AO}{rows:List (List Value)}{w:World}(h:rows.length=l.length)(e:∀(b:Nat) (x:AO) (a:List Value),l[b]?=some x→rows[b]?=some a→a.length=4∧Jz w x a):∀a∈rows,a.length=4:=by
 intro a g
 obtain⟨b,d⟩:=E8 g
 have i:=(Am.1 d).1
 exact(e b _ a (An (by omega)) d).1
theorem Kg:∀(rs:List (List Value)),(∀a∈rs,a.length=4)→rs.flatten.length=rs.length*4
 |[],_=>by simp
 |b::rs,h=>by rw[HP,Ef,Kg rs (fun a d=>h a (by simp[d])),h b (by simp),C4,Nat.succ_mul];omega
theorem Jz.one{w:World}{x:AO}{q:List Value}(h:Jz w x q):∀u∈q,u.oneCell'=true:=by
 obtain⟨e,g,rfl,b,d⟩:=h
 obtain⟨i,c,rfl⟩:=b.shape
 obtain⟨j,k,rfl⟩:=d.shape
 intro u a
 simp at a
 rcases a with rfl|rfl|rfl|rfl<;>rfl
theorem Pq{l:List AO}{rows:List (List Value)}{w:World}(h:rows.length=l.length)(g:∀(b:Nat) (x:AO) (a:List Value),l[b]?=some x→rows[b]?=some a→a.length=4∧Jz w x a):∀u∈rows.flatten,u.oneCell'=true:=by
 intro u d
 obtain⟨a,i,d⟩:=List.mem_flatten.1 d
 obtain⟨b,e⟩:=E8 i
 have j:=(Am.1 e).1
 exact(g b _ a (An (by omega)) e).2.one u d
theorem Ab8(a:Func){t t0:Ab}{i:Nat}(hF:a.results= #[.cell i t])(b:t=t0)(d:t0=Db∨t0=BS)(tmps:Array Value)(W:World)(g:Nat)(a0:Value)(e:tmps.getD i Ac=.pointer (some ⟨g,0,none⟩))(j:Ah W g t0 #[a0]):
 (As a tmps).run prog W=.ok (.agg #[a0]) W:=by
 subst b
 have k:=j.cell 0
 have l:tmps[i]?.getD Ac=.pointer (some ⟨g,0,none⟩):=by simpa using e
 rcases d with rfl|rfl<;>simp[As,hF,l,go_sem,k]
theorem AfY{w0 w:U}{vl:N}{l:List AO}(h:CH w0 vl l)(u:Below w0 w0 w)(v:l.length<=1000):
 Calls prog 274 #[vl] w λac x=>∃y,ac=R (.agg #[y])/\Wt w0 w x y l/\Below w w x:=by
 obtain⟨z,A,ad,B,ae⟩:=A1 QN;obtain⟨D,c,rfl⟩:=h.shape;obtain⟨F,_,e,i,n,o⟩:=DD.cells h.1 (by omega);have G:=Zc w<|K #[C O 0 0] Db;have af:=Af G;have j:=Af<|Ah.new w Db #[C O 0 0];have L:=Af i;have M:=Af n;have S:Hid (∀a,D=E a->∀b d,e.flatten[b]?=E d->w.cell? (a.add b)=E d):=Af (λa W b d g=>(u.cell (Ad w0 _ (o a W b d g))).trans (o a W b d g));have ag:=Af F;have X:=Af v;have ah:=Af<|(Kg e (DV i n)).trans (by rw[i]);go_in;have ai:=j.o.cell 0;have aj:=j.o.frozen 0;have ak:=j.o.lt
 go_wp2_with (first
  |(at_make;refine wpList_make_own _ rfl _ _ tSl rfl (w+1) AZ z (.agg #[I J 0,I J 0,.slice O 0 0,.slice O 0 0]) 4 underlying115 A ad B .i64 .i64 _ l.length rfl rfl rfl (by have:=X.o;rw[ae];omega) (by have:=X.o;unfold Al;omega) (by simp) ?_;intro al Y q;have am:Hid (al.ownsRow (w+1) AZ 4 (.slice (w+1:Nat) 0 l.length) 0 []):=Af (by simpa using Y);have an:=Af (j.o.grown q (by simp));have r:=Af (af.o.grown q (by simp) (λao k=>by simp at k));clear Y q)
  |(at_builtin;refine wpList_append_fits_any _ rfl (.tmp 5) (.tmp 6) tSl rfl (w+1) AZ z 4 underlying115 A B (w+1) 0 l.length [] rfl am.o D l.length c e.flatten rfl ah.o ag.o (λa Z b d g=>(r.o.cell (Ad w _ (S.o a Z b d g))).trans (S.o a Z b d g)) (Pq L.o M.o) (by omega) ?_;intro aa ab t;have ap:Hid (aa.ownsRow (w+1) AZ 4 (.slice (w+1:Nat) l.length l.length) l.length e.flatten):=Af (by simpa using ab);have m:=Af (an.o.grown t (by simp));have aq:=Af (r.o.grown t r.o.size (λao k=>by injection k with k;omega));have au:=m.o.cell 0;have av:=m.o.frozen 0;have aw:=m.o.lt;clear ab t ai aj ak))
 have ar:Below w w (aa.setCell w (C (w+1:Nat) l.length l.length)):=aq.o.setCell (p:=w) (Aa _) _;refine Ao (Ab8 _ rfl rfl (.inl rfl) _ _ w (C (w+1:Nat) l.length l.length) (by first|rfl|simp) (by simpa using m.o.put 0 (C (w+1:Nat) l.length l.length))) rfl ?_;refine⟨_,rfl,⟨e,L.o,Aw (Ak ap.o (p:=w) (by simp[Value.ownBlock]) _) (Ax _),M.o⟩,ar⟩
theorem Jz.val{w:World}{x:AO}{q:List Value}(h:Jz w x q):∃a b d e,q=[.int .i64 x.kind,.int .i64 x.num,.slice a x.q.length b,.slice d x.ps.length e]∧Gj w (.agg #[.int .i64 x.kind,.int .i64 x.num,.slice a x.q.length b,.slice d x.ps.length e]) x:=by
 obtain⟨m,n,rfl,g,i⟩:=h
 obtain⟨j,c,rfl⟩:=g.shape
 obtain⟨k,l,rfl⟩:=i.shape
 exact⟨j,c,k,l,rfl,j,c,k,l,rfl,g,i⟩
theorem Wu(d:Func){t:Ab}{i j:Nat}(hF:d.results= #[.cell i t,.tmp j])(k:t=AZ)(tmps:Array Value)(W:World)(g:Nat)(a0 e a2 a3 b:Value)(l:tmps.getD i Ac=.pointer (some ⟨g,0,none⟩))(m:tmps.getD j Ac=b)(a:Ah W g AZ #[a0,e,a2,a3]):
 (As d tmps).run prog W=.ok (.tuple #[.agg #[a0,e,a2,a3],b]) W:=by
 subst k
 have n:=a.cell 0
 have o:=a.cell 1
 have p:=a.cell 2
 have q:=a.cell 3
 have r:tmps[i]?.getD Ac=.pointer (some ⟨g,0,none⟩):=by simpa using l
 have u:tmps[j]?.getD Ac=b:=by simpa using m
 simp[As,hF,r,u,go_sem,n,o,p,q]
theorem AfZ{w0 w:World}{vl:Value}{l:List AO}{i:Nat}{x:AO}(h:CH w0 vl l)(b:Below w0.heap.size w0 w)(m:l[i]?=some x):
 Calls prog 271 #[.agg #[vl],.int .i64 i] w fun y z=>∃n,y=.returned (.tuple #[n,.bool true])∧Gj w0 n x∧Below w.heap.size w z:=by
 obtain⟨S,c,rfl⟩:=h.shape
 obtain⟨d,e,W,rfl,o,A,_,_,q,a⟩:=DD.at h.1 m
 obtain⟨B,D,F,G,rfl,r⟩:=q.val
 have k:=(b.cell (Ad w0 _ (a 0 _ rfl))).trans (a 0 _ rfl)
 have t:=(b.cell (Ad w0 _ (a 1 _ rfl))).trans (a 1 _ rfl)
 have u:=(b.cell (Ad w0 _ (a 2 _ rfl))).trans (a 2 _ rfl)
 have v:=(b.cell (Ad w0 _ (a 3 _ rfl))).trans (a 3 _ rfl)
 have j:=Ad w _ k
 have g:=AG w (.cells #[.slice (some ⟨d,e,none⟩) l.length c] Db) (.cells #[.int .i64 0,.int .i64 0,.slice none 0 0,.slice none 0 0] AZ)
 have L:=(g.cell (p:=⟨d,e+i*4+0,none⟩) j).trans k
 have X:=(g.cell (p:=⟨d,e+i*4+1,none⟩) j).trans t
 have Y:=(g.cell (p:=⟨d,e+i*4+2,none⟩) j).trans u
 have Z:=(g.cell (p:=⟨d,e+i*4+3,none⟩) j).trans v
 rw[EV] at L
 have M:=Af r
 have aa:¬((i:Int)<0):=by omega
 have ab:decide (l.length≤i)=false:=by simpa using o
 have ac:(0:Int)≤(i:Int):=by omega
 have ad:(i:Int)<(l.length:Int):=by omega
 go_enter func271,ntmps271
 go_wp2_with fail
 refine Ao (Wu _ rfl rfl _ _ (w.heap.size+1) (.int .i64 x.kind) (.int .i64 x.num) (.slice B x.q.length D) (.slice F x.ps.length G) _ rfl rfl (Bo _ _ _ _)) rfl ?_
 exact⟨_,rfl,M.o,AG _ _ _⟩
theorem Af0{w0 w:U}{vl:N}{l:List AO}{x:AO}(h:CH w0 vl l)(b:Below w0.heap.size w0 w)(e:l[i]?=E x):
 Calls prog 231 #[.agg #[vl],I J i] w λg p=>∃j,g=R (.tuple #[j,T true])/\Gj w0 j x/\Below w.heap.size w p:=by
 have k:=Af (λq (r:Below w.heap.size w q)=>AfZ h (b.trans (r.mono b.size)) e);obtain⟨m,c,rfl⟩:=h.shape;have n:=Af<|AG w (K #[C m l.length c] BS) (K #[I J 0,I J 0,C O 0 0,C O 0 0] AZ);have t:=Af<|Bo w (K #[C m l.length c] BS) AZ #[I J 0,I J 0,C O 0 0,C O 0 0];go_in;go_wp2_with fail;refine(k.o _ n.o).mono ?_;rintro g D ⟨F,rfl,o,d⟩;have u:=Af o;obtain⟨v,y,z,A,rfl,_,_⟩:=o;have B:=Af<|n.o.trans (d.mono (by simp;omega));have a:=Af<|t.o.below d (by simp);have G:=a.o.cell 0;have L:=a.o.cell 1;have M:=a.o.cell 2;have S:=a.o.cell 3;have W:=a.o.frozen 0;have X:=a.o.frozen 1;have Y:=a.o.frozen 2;have Z:=a.o.frozen 3;have aa:=a.o.lt;go_wp2_with fail;refine Ao (Wu _ rfl rfl _ _ (w.heap.size+1) (I J x.kind) (I J x.num) (C v x.q.length y) (C z x.ps.length A) _ rfl rfl (Cg a.o)) rfl ?_;exact⟨_,rfl,u.o,BR B.o (Ax _)⟩
theorem ZM{w:World}{g o:Nat}{a0 v a2 a3 c0 c1 c2 c3:Value}(i:w.cell? ⟨g,o,none⟩=some c0)(j:w.cell? ⟨g,o+1,none⟩=some c1)(k:w.cell? ⟨g,o+2,none⟩=some c2)(l:w.cell? ⟨g,o+3,none⟩=some c3):
 ∀(r:Nat) (u:Value),[a0,v,a2,a3][r]?=some u→((((w.setCell ⟨g,o,none⟩ a0).setCell ⟨g,o+1,none⟩ v).setCell ⟨g,o+2,none⟩ a2).setCell ⟨g,o+3,none⟩ a3).cell? ⟨g,o+r,none⟩=some u:=by
 have a:∀ {d e:Nat},d≠e→(⟨g,d,none⟩:Addr)≠⟨g,e,none⟩:=fun h m=>h (by injection m)
 intro r u b
 have n:=(Am.1 b).1
 simp at n
 rcases (show r=0∨r=1∨r=2∨r=3 by omega) with rfl|rfl|rfl|rfl<;>simp at b<;>subst b
 ·rw[Er _ _ _ _ (a (by omega)),Er _ _ _ _ (a (by omega)),Er _ _ _ _ (a (by omega))]
  exact IK _ _ _ i
 ·rw[Er _ _ _ _ (a (by omega)),Er _ _ _ _ (a (by omega))]
  exact IK _ _ _ ((Er _ _ _ _ (a (by omega))).trans j)
 ·rw[Er _ _ _ _ (a (by omega))]
  exact IK _ _ _ ((Er _ _ _ _ (a (by omega))).trans ((Er _ _ _ _ (a (by omega))).trans k))
 ·exact IK _ _ _ ((Er _ _ _ _ (a (by omega))).trans ((Er _ _ _ _ (a (by omega))).trans ((Er _ _ _ _ (a (by omega))).trans l)))
theorem Wv{w:World}{g o k:Nat}{a0 v a2 a3:Value}(h:k<o∨o+4≤k):((((w.setCell ⟨g,o,none⟩ a0).setCell ⟨g,o+1,none⟩ v).setCell ⟨g,o+2,none⟩ a2).setCell ⟨g,o+3,none⟩ a3).cell? ⟨g,k,none⟩=w.cell? ⟨g,k,none⟩:=by
 have a:∀ {b d:Nat},b≠d→(⟨g,b,none⟩:Addr)≠⟨g,d,none⟩:=fun h e=>h (by injection e)
 rw[Er _ _ _ _ (a (by omega)),Er _ _ _ _ (a (by omega)),Er _ _ _ _ (a (by omega)),Er _ _ _ _ (a (by omega))]
theorem Lu:∀(rs:List (List Value)),(∀i∈rs,i.length=4)→∀(b:Nat) (d:List Value),rs[b]?=some d→∀a,a<4→(rs.flatten)[b*4+a]?=d[a]?
 |[],_,b,d,e,_,_=>by simp at e
 |j::rs,g,0,d,e,a,k=>by
  simp at e
  subst e
  rw[HP,Ek (by rw[g j (by simp)];omega)]
  simp
 |j::rs,g,b+1,d,e,a,k=>by
  have l:=g j (by simp)
  rw[HP,EW (by rw[l];omega),l,show(b+1)*4+a-4=b*4+a by omega]
  exact Lu rs (fun i m=>g i (by simp [m])) b d (by simpa using e) a k
theorem QO(b o:Nat)(X:World)(a0 a a2 a3:Value):Ay [b] X ((((X.setCell ⟨b,o,none⟩ a0).setCell ⟨b,o+1,none⟩ a).setCell ⟨b,o+2,none⟩ a2).setCell ⟨b,o+3,none⟩ a3):=
 (((((Ay.refl [b] X).setCell (p:=⟨b,o,none⟩) (.inl (by simp)) _).setCell (p:=⟨b,o+1,none⟩) (.inl (by simp)) _).setCell (p:=⟨b,o+2,none⟩) (.inl (by simp)) _).setCell (p:=⟨b,o+3,none⟩) (.inl (by simp)) _)
theorem Wt.put{w0 w W:World}{B g n c i:Nat}{l:List AO}{y:AO}{a0 v a2 a3:Value}(h:Wt w0 B w (.slice (some ⟨g,0,none⟩) n c) l)(ac:i<l.length)
 (A:∀(r:Nat) (u:Value),[a0,v,a2,a3][r]?=some u→W.cell? ⟨g,i*4+r,none⟩=some u) (D:∀k u,(k<i*4∨i*4+4≤k)→w.cell? ⟨g,k,none⟩=some u→W.cell? ⟨g,k,none⟩=some u)
 (F:Jz w0 y [a0,v,a2,a3]) (G:Hu AZ W (.slice (some ⟨g,0,none⟩) n c)) (t:Below w0.heap.size w0 W):CH W (.slice (some ⟨g,0,none⟩) n c) (l.set i y):=by
 obtain⟨x,o,p,z⟩:=h
 have L:n=l.length:=by
  obtain⟨_,_,a⟩:=Ag p
  injection a
 have M:n≤c:=by
  rcases p.2 with ⟨a,_⟩|⟨ad,ae,cur,a,_,_,M,_⟩
  ·cases a
  ·injection a with _ _ af
   omega
 have S:=DV o z
 subst L
 refine⟨?_,G⟩
 refine⟨x.set i [a0,v,a2,a3],by simp[o],⟨some ⟨g,0,none⟩,c,g,0,by rw[HL,o],(fun a=>by cases a),(fun ag a _=>by injection a with a;exact a.symm),by rw[HL];omega,fun d q e r u b X=>?_⟩,fun d q Y j b=>?_⟩
 ·rw[Ej]
  by_cases m:d=i
  ·subst m
   rw[El (by omega)] at e
   injection e with e
   subst e
   exact A r u b
  ·rw[Et (fun a=>m a.symm)] at e
   have ah:=(Am.1 e).1
   refine D _ u (by omega) ?_
   have Z:=p.cellAt (d*4+r) (show d*4+r<l.length*4 by omega)
   rw [Z,Lu x S d q e r X]
   exact b
 ·by_cases m:d=i
  ·subst m
   rw[El (by omega)] at b j
   injection b with b
   injection j with j
   subst b j
   exact⟨rfl,Jz.keeps _ _ _ _ t F⟩
  ·rw[Et (fun a=>m a.symm)] at b j
   obtain⟨aa,ab⟩:=z d q Y j b
   exact⟨aa,Jz.keeps _ _ _ _ t ab⟩
theorem Gj.rr{w:World}{v:Value}{y:AO}(h:Gj w v y):∃a b d e,v=.agg #[.int .i64 y.kind,.int .i64 y.num,.slice a y.q.length b,.slice d y.ps.length e]∧Jz w y [.int .i64 y.kind,.int .i64 y.num,.slice a y.q.length b,.slice d y.ps.length e]:=by
 obtain⟨a,b,d,e,g,i,j⟩:=h
 exact⟨a,b,d,e,g,_,_,rfl,i,j⟩
theorem Ab9{w:World}{vl v:Value}{l:List AO}{i:Nat}{y:AO}(h:CH w vl l)(ag:Gj w v y)(Z:i<l.length)(ah:l.length≤1000):
 Calls prog 233 #[.agg #[vl],.int .i64 i,v] w fun d ai=>∃aj,d=.returned (.agg #[aj])∧CH ai aj (l.set i y)∧Below w.heap.size w ai:=by
 obtain⟨r,c,rfl⟩:=h.shape
 obtain⟨k,m,n,o,rfl,ak⟩:=ag.rr
 have al:=Af (fun a2 (a3:Below w.heap.size w a2)=>AfY h a3 ah)
 have am:=(AG w (.cells #[.slice r l.length c] Db) (.cells #[.int .i64 y.kind,.int .i64 y.num,.slice k y.q.length m,.slice n y.ps.length o] AZ)).alloc (by simp;omega) (.cells #[.slice none 0 0] Db)
 have an:=Af am
 have a4:=Af (((Ah.new w Db #[.slice r l.length c]).alloc (.cells #[.int .i64 y.kind,.int .i64 y.num,.slice k y.q.length m,.slice n y.ps.length o] AZ)).alloc (.cells #[.slice none 0 0] Db))
 have a5:=Af ((Bo w (.cells #[.slice r l.length c] Db) AZ #[.int .i64 y.kind,.int .i64 y.num,.slice k y.q.length m,.slice n y.ps.length o]).alloc (.cells #[.slice none 0 0] Db))
 have a6:Hid (Ah (((w.alloc (.cells #[.slice r l.length c] Db)).alloc (.cells #[.int .i64 y.kind,.int .i64 y.num,.slice k y.q.length m,.slice n y.ps.length o] AZ)).alloc (.cells #[.slice none 0 0] Db)) (w.heap.size+2) Db #[.slice none 0 0]):=Af (by
  have:=Bo (w.alloc (.cells #[.slice r l.length c] Db)) (.cells #[.int .i64 y.kind,.int .i64 y.num,.slice k y.q.length m,.slice n y.ps.length o] AZ) Db #[.slice none 0 0]
  simpa using this)
 have a7:=Af ak
 have aa:=Af Z
 have b1:¬((i:Int)<0):=by omega
 have b2:decide (l.length≤i)=false:=by simpa using Z
 have b3:(0:Int)≤(i:Int):=by omega
 have b4:(i:Int)<(l.length:Int):=by omega
 have a8:=a4.o.cell 0
 clear h ag Z ah am ak
 go_enter func233,ntmps233
 go_wp2_with fail
 refine(al.o _ an.o).mono ?_
 rintro d e ⟨a9,rfl,ba,F⟩
 obtain⟨G,L,t,M⟩:=ba
 obtain⟨a,b,rfl,ao,S⟩:∃a b,a9=.slice (some ⟨a,0,none⟩) l.length b∧w.heap.size+3≤a∧a<e.heap.size:=by
  rcases t.2 with ⟨_,b5⟩|⟨a,bb,cur,W,bc,bd,_⟩
  ·have:=aa.o;omega
  ·exact⟨a,bb,W,by simpa using bc,AB bd⟩
 have ap:Hid (Wt w (w.heap.size+3) e (.slice (some ⟨a,0,none⟩) l.length b) l):=Af ⟨G,L,Aw t (by simp),M⟩
 have ab:=Af (an.o.trans (F.mono (by simp;omega)))
 have u:=Af (a5.o.below F (by simp))
 have be:=Af (a6.o.below F (by simp))
 have ac:Below e.heap.size e (e.alloc (.cells #[.slice (some ⟨a,0,none⟩) l.length b] Db)):=(Ae _ _).alloc (Aa _) _
 have x:∀d,d<4→∃j,(e.alloc (.cells #[.slice (some ⟨a,0,none⟩) l.length b] Db)).cell? ⟨a,i*4+d,none⟩=some j:=fun d aq=>by
  have b6:=aa.o
  have ar:=t.cellAt (i*4+d) (show i*4+d<l.length*4 by omega)
  obtain⟨X,au⟩:∃X,G[i]?=some X:=⟨G[i]'(by omega),An _⟩
  rw[Lu G (DV L M) i X au d aq,An (by rw[DV L M X (Ap au)];exact aq)] at ar
  exact⟨_,(ac.cell (p:=⟨a,i*4+d,none⟩) S).trans ar⟩
 obtain⟨b7,ad⟩:=x 0 (by omega)
 obtain⟨b8,av⟩:=x 1 (by omega)
 obtain⟨b9,aw⟩:=x 2 (by omega)
 obtain⟨ca,ax⟩:=x 3 (by omega)
 rw[EV] at ad
 have z:∀g,(e.alloc (.cells #[.slice (some ⟨a,0,none⟩) l.length b] Db)).frozen? ⟨a,g,none⟩=false:=fun g=>(World.frozen?_of_block (ac.block a S)).trans (t.frozenAt g)
 have bf:=Af ad
 have bg:=Af av
 have bh:=Af aw
 have bi:=Af ax
 have bj:=z (i*4)
 have bk:=z (i*4+1)
 have bl:=z (i*4+2)
 have bm:=z (i*4+3)
 have bn:=(u.o.alloc (.cells #[.slice (some ⟨a,0,none⟩) l.length b] Db)).cell 0
 have bo:=(u.o.alloc (.cells #[.slice (some ⟨a,0,none⟩) l.length b] Db)).cell 1
 have bp:=(u.o.alloc (.cells #[.slice (some ⟨a,0,none⟩) l.length b] Db)).cell 2
 have bq:=(u.o.alloc (.cells #[.slice (some ⟨a,0,none⟩) l.length b] Db)).cell 3
 have br:=(u.o.alloc (.cells #[.slice (some ⟨a,0,none⟩) l.length b] Db)).lt
 have bs:a<(e.alloc (.cells #[.slice (some ⟨a,0,none⟩) l.length b] Db)).heap.size:=by simp;omega
 have ay:=Af S
 have ae:=Af ao
 clear F L t M ac x z S ao al a8
 go_upto_region 5 with fail
 generalize A:((((e.alloc (.cells #[.slice (some ⟨a,0,none⟩) l.length b] Db)).setCell ⟨a,i*4,none⟩ (.int .i64 y.kind)).setCell ⟨a,i*4+1,none⟩ (.int .i64 y.num)).setCell ⟨a,i*4+2,none⟩ (.slice k y.q.length m)).setCell ⟨a,i*4+3,none⟩ (.slice n y.ps.length o)=q
 have B:=QO a (i*4) (e.alloc (.cells #[.slice (some ⟨a,0,none⟩) l.length b] Db)) (.int .i64 y.kind) (.int .i64 y.num) (.slice k y.q.length m) (.slice n y.ps.length o)
 rw [A] at B
 have az:Hid (Ah q e.heap.size Db #[.slice (some ⟨a,0,none⟩) l.length b]):=Af ((Ah.new e Db _).only B (by have:=ay.o;simp only [List.mem_singleton];omega))
 have Y:Hid (Ah q (w.heap.size+2) Db #[.slice none 0 0]):=Af ((be.o.alloc _).only B (by have:=ae.o;simp only [List.mem_singleton];omega))
 have bt:Hid (Below w.heap.size w q):=Af (BI (ab.o.alloc ab.o.size _) B (by have:=ab.o.size;simp;omega) (fun cb bu=>by have:=ae.o;simp only [List.mem_singleton] at bu;omega))
 have bv:Hid (∀(d:Nat) (j:Value),[A0 .i64 y.kind,.int .i64 y.num,.slice k y.q.length m,.slice n y.ps.length o][d]?=some j→q.cell? ⟨a,i*4+d,none⟩=some j):=Af (by rw[←A];exact ZM bf.o bg.o bh.o bi.o)
 have bw:Hid (∀g j,(g<i*4∨i*4+4≤g)→e.cell? ⟨a,g,none⟩=some j→q.cell? ⟨a,g,none⟩=some j):=Af (fun g j af D=>by
  rw [←A,Wv af]
  exact(((Ae e.heap.size e).alloc (Aa _) _).cell (p:=⟨a,g,none⟩) ay.o).trans D)
 have bz:Hid (Hu AZ q (.slice (some ⟨a,0,none⟩) l.length b)):=Af (by obtain⟨_,_,b0,_⟩:=ap.o;rw[←A];exact(((((Hu.of_row b0).below ((Ae _ _).alloc (Aa _) _)).set _ _).set _ _).set _ _).set _ _)
 have cc:=az.o.cell 0
 have cd:=az.o.lt
 have ce:=Y.o.cell 0
 have cf:=Y.o.frozen 0
 have cg:=Y.o.lt
 go_wp2_with fail
 refine Ao (Ab8 _ rfl rfl (.inl rfl) _ _ (w.heap.size+2) (.slice (some ⟨a,0,none⟩) l.length b) rfl (by simpa using Y.o.put 0 (.slice (some ⟨a,0,none⟩) l.length b))) rfl ?_
 have a0:∀g,(⟨w.heap.size+2,0,none⟩:Addr)≠⟨a,g,none⟩:=fun g W=>by injection W with W;have:=ae.o;omega
 have a1:Below w.heap.size w (q.setCell ⟨w.heap.size+2,0,none⟩ (.slice (some ⟨a,0,none⟩) l.length b)):=bt.o.setCell (p:=⟨w.heap.size+2,0,none⟩) (by simp) _
 refine⟨_,rfl,ap.o.put aa.o (fun d j D=> ?_) (fun g j af D=> ?_) a7.o (bz.o.set _ _) a1,a1⟩
 ·rw[Er _ _ _ _ (a0 _)]
  exact bv.o d j D
 ·rw[Er _ _ _ _ (a0 _)]
  exact bw.o g j af D
theorem Abr{w0 w:U}{vl:N}{l:List AO}(h:CH w0 vl l)(q:Below w0 w0 w)(y:l.length<=1000):
 Calls prog 225 #[.agg #[vl]] w λZ z=>∃A,Z=R A/\Wt w0 w z A l/\Below w w z:=by
 obtain⟨B,D,aa,F,ab⟩:=A1 QN;obtain⟨g,c,rfl⟩:=h.shape;obtain⟨G,_,j,o,r,L⟩:=DD.cells h.1 (by omega);have p:=Af<|Zc w (K #[C g l.length c] Db);have t:=Af<|Ah.new w Db #[C g l.length c];have M:=Af o;have S:=Af r
 have ac:Hid (∀a,g=E a->∀b d,j.flatten[b]?=E d->a.block<w.heap.size/\w.cell? (a.add b)=E d):=Af (λa k b d m=>by
  have u:=L a k b d m;have i:=Ad w0 _ u;have al:=q.size;exact⟨by cases a;rw[Addr.add] at i;split at i<;>(simp at i|-;omega),(q.cell i).trans u⟩)
 have ad:=Af G;have v:=Af y;have ae:=Af<|(Kg j (DV o r)).trans (by rw[o]);have af:=t.o.cell 0;have ag:=t.o.lt;have am:prog.follows Ge=true:=by kernel_rfl
 go_in;go_upto_region 1 with fail
 have W:Hid (∀a,g=E a->∀b d,j.flatten[b]?=E d->(w.alloc (K #[C g l.length c] Db)).cell? (a.add b)=E d):=Af (λa k b d m=>by
  obtain⟨u,i⟩:=ac.o a k b d m;exact((Zc w _).cell (Ad w _ i)).trans i)
 have x:(w.alloc (K #[C g l.length c] Db)).heap.size=w.heap.size+1:=by simp
 generalize w.alloc (K #[C g l.length c] Db)=e at p t af ag W x|-
 have an:∀n:U,(Instr.makeSlice tSl (I J 0) (l.length:Int)).run prog n=.ok (C (E ⟨n.heap.size,0,O⟩) 0 l.length) (n.alloc (K (A2 (Gf #[I J 0,I J 0,C O 0 0,C O 0 0]).cells (l.length*4)) AZ)):=λn=>by
  have h:=run_make (P:=prog) n tSl AZ B _ underlying115 D aa .i64 .i64 0 l.length (Int.le_refl _) (by omega) (by have:=v.o;rw[ab];omega) (by have:=v.o;omega);simpa[F] using h
 have ah:Hid (((e.alloc (K (A2 (Gf #[I J 0,I J 0,C O 0 0,C O 0 0]).cells (l.length*4)) AZ)).drew).ownsRow e AZ 4 (C e 0 l.length) 0 []):=Af<|World.ownsRow_made (base:=e.heap.size) (e:=AZ) (size:=4) e (A2 (Gf #[I J 0,I J 0,C O 0 0,C O 0 0]).cells (l.length*4)) l.length (Aa _) (by have:=v.o;unfold Al;omega) (by simp[size_madeCells])
 have ai:Hid (∀a,g=E a->∀b d,j.flatten[b]?=E d->((e.alloc (K (A2 (Gf #[I J 0,I J 0,C O 0 0,C O 0 0]).cells (l.length*4)) AZ)).drew).cell? (a.add b)=E d):=Af (λa k b d m=>by
  have h:=W.o a k b d m;exact((Zc e _).drew.cell (Ad e _ h)).trans h)
 have X:=Af x;clear x
 go_region_law ((refine Bv (by rfl) (.tmp 6) (.tmp 8) tSl (by rfl) e AZ B 4 underlying115 D F e 0 l.length [] (by rfl) ah.o g l.length c j.flatten (by rfl) ae.o ad.o ai.o (Pq M.o S.o) (by omega) ?_;intro ao aj ak))
 all_goals go_wp2_with fail
 all_goals go_ret
 all_goals
  refine⟨_,rfl,⟨j,M.o,Aw (by simpa using aj) (by have:=X.o;omega),S.o⟩,?_⟩;exact(p.o.alloc p.o.size _).drew.grown ak (by have:=p.o.size;simp;omega) (λap Y=>by injection Y with Y;have:=X.o;omega)
theorem Tu(rows:List (List Value))(a:List Value):(rows++[a]).flatten=rows.flatten++a:=by simp
theorem CH.snoc{w0 W:World}{B:Nat}{v:Value}{l:List AO}{y:AO}{rows:List (List Value)}{q:List Value}(e:rows.length=l.length)(i:∀(b:Nat) (x:AO) (q:List Value),l[b]?=some x→rows[b]?=some q→q.length=4∧Jz w0 x q)(m:Jz w0 y q)(j:q.length=4)
 (h:W.ownsRow B AZ 4 v (l.length+1) (rows.flatten++q)) (k:Below w0.heap.size w0 W):CH W v (l++[y]):=by
 refine⟨?_,Hu.of_row h⟩
 refine DD.of_row (rows:=rows++[q]) (B:=B) (t:=AZ) ?_ (by simp [e]) (fun b x g d a=> ?_) (fun g a=> ?_)
 ·rw [Tu]
  simpa using h
 ·by_cases n:b<l.length
  ·rw[Ek n] at d
   rw[Ek (by omega)] at a
   obtain⟨o,p⟩:=i b x g d a
   exact⟨o,Jz.keeps _ _ _ _ k p⟩
  ·have r:=(Am.1 d).1
   simp at r
   obtain rfl:b=l.length:=by omega
   simp at d
   rw[EW (by omega),e] at a
   simp at a
   subst d a
   exact⟨j,Jz.keeps _ _ _ _ k m⟩
 ·rcases List.mem_append.1 a with a|a
  ·exact DV e i g a
  ·rw [List.mem_singleton.1 a]
   exact j
theorem Aeo{w0 w:U}{vl v:N}{l:List AO}{y:AO}(h:CH w0 vl l)(L:Below w0 w0 w)(ah:Gj w0 v y)(u:l.length<=1000):
 Calls prog 143 #[.agg #[vl],v] w λai W=>∃aj,ai=R (.agg #[aj])/\(∀q,Below w w q->(∀M,w.heap.size+3<=M->M<W.heap.size->q.heap[M]?=W.heap[M]?)->CH q aj (l++[y]))/\Below w w W:=by
 obtain⟨ak,al,am,an,ao⟩:=A1 QN;obtain⟨n,c,rfl⟩:=h.shape;obtain⟨a,b,d,e,rfl,X⟩:=ah.rr;have ap:=Af (λq (a0:Below w w q)=>Abr h (L.trans (a0.mono L.size)) u);have aq:=Af L;have a1:=Af X;have S:=Af u;have ar:∀a2∈[A0 .i64 y.kind,y.num,C a y.q.length b,C d y.ps.length e],a2.oneCell'=true:=X.one;have j:=Af<|(AG w (K #[C n l.length c] Db) (K #[y.kind,y.num,C a y.q.length b,C d y.ps.length e] AZ)).alloc (by simp;omega) (K #[C O 0 0] Db);have Y:=Af<|((Ah.new w Db #[C n l.length c]).alloc (K #[y.kind,y.num,C a y.q.length b,C d y.ps.length e] AZ)).alloc (K #[C O 0 0] Db);have g:=Af<|(Bo w (K #[C n l.length c] Db) AZ #[y.kind,y.num,C a y.q.length b,C d y.ps.length e]).alloc (K #[C O 0 0] Db)
 have x:Hid (Ah (((w.alloc (K #[C n l.length c] Db)).alloc (K #[y.kind,y.num,C a y.q.length b,C d y.ps.length e] AZ)).alloc (K #[C O 0 0] Db)) (w+2) Db #[C O 0 0]):=Af (by
  have:=Bo (w.alloc (K #[C n l.length c] Db)) (K #[y.kind,y.num,C a y.q.length b,C d y.ps.length e] AZ) Db #[C O 0 0];simpa using this)
 have bj:prog.follows Ge=true:=by kernel_rfl
 clear h ah u L X;go_in;go_upto_region 1 with fail;have Z:(((w.alloc (K #[C n l.length c] Db)).alloc (K #[y.kind,y.num,C a y.q.length b,C d y.ps.length e] AZ)).alloc (K #[C O 0 0] Db)).heap.size=w.heap.size+3:=by simp
 generalize ((w.alloc (K #[C n l.length c] Db)).alloc (K #[y.kind,y.num,C a y.q.length b,C d y.ps.length e] AZ)).alloc (K #[C O 0 0] Db)=aa at j Y g x Z|-;have a3:=Af Z;have bk:=Y.o.cell 0;have bl:=g.o.cell 0;have bm:=g.o.cell 1;have bn:=g.o.cell 2;have bo:=g.o.cell 3;have bp:=Y.o.lt;have bq:=g.o.lt;clear Z
 go_region_law (first
  |(refine E6 _ (by rfl) (.tmp 6) (.tmp 8) tSl (by rfl) (w+3) AZ ak (.agg #[I J 0,I J 0,.slice O 0 0,.slice O 0 0]) 4 64 underlying115 al am an ao rfl (by decide) (.slice ab l.length k1) l.length ac.flatten (by rfl) r.o aa 1 1 [y.kind,y.num,.slice a y.q.length b,.slice d y.ps.length e] (by rfl) (by rfl) (Ee (cs:= #[y.kind,y.num,.slice a y.q.length b,.slice d y.ps.length e]) (t:=AZ) (fr:=(0,0)) a4.o) ar (by omega) (by have:=S.o;unfold Al;omega) (by have:=S.o;omega) (by have:=au.o;omega) i rfl ?_;intro z A av B o a5 a6;have k:=Af (ad.o.grown o (λD=>by have:=(Ai r.o D.symm).1;omega));have a7:=k.o.cell 0;have a8:=k.o.frozen 0;have a9:=k.o.lt;have aw:=Af (F.o.grown o F.o.size (λba ae=>by have:=(Ai r.o ae).1;omega));have af:=Af B;clear o B)
  |(refine E6 _ (by rfl) (.tmp 6) (.tmp 8) tSl (by rfl) (w+3) AZ ak (.agg #[I J 0,I J 0,.slice O 0 0,.slice O 0 0]) 4 64 underlying115 al am an ao rfl (by decide) (.slice ab l.length k1) l.length ac.flatten (by rfl) (r.o.alloc _) i 1 1 [y.kind,y.num,.slice a y.q.length b,.slice d y.ps.length e] (by rfl) (by rfl) (Ee (cs:= #[y.kind,y.num,.slice a y.q.length b,.slice d y.ps.length e]) (t:=AZ) (fr:=(0,0)) (D4 i _)) ar (by omega) (by have:=S.o;unfold Al;omega) (by have:=S.o;omega) (by have:=au.o;simp;omega) (i+1) (by simp) ?_;intro z A av B o a5 a6;have k:=Af ((ad.o.alloc (K #[y.kind,y.num,.slice a y.q.length b,.slice d y.ps.length e] AZ)).grown o (λD=>by have:=(Ai (r.o.alloc (K #[y.kind,y.num,.slice a y.q.length b,.slice d y.ps.length e] AZ)) D.symm).1;omega));have a7:=k.o.cell 0;have a8:=k.o.frozen 0;have a9:=k.o.lt;have aw:=Af ((F.o.alloc F.o.size (K #[y.kind,y.num,.slice a y.q.length b,.slice d y.ps.length e] AZ)).grown o (by have:=F.o.size;simp;omega) (λba ae=>by have:=(Ai (r.o.alloc (K #[y.kind,y.num,.slice a y.q.length b,.slice d y.ps.length e] AZ)) ae).1;omega));have af:=Af B;clear o B)
  |(go_simp;go_at_call 225;(first|refine(ap.o _ j.o.drew).mono ?_|refine(ap.o _ ((j.o.alloc j.o.size _).drew)).mono ?_);rintro ai i ⟨br,rfl,⟨ac,ax,ag,ay⟩,m⟩;obtain⟨ab,k1,rfl⟩:=Ag ag;have r:Hid (i.ownsRow (w+3) AZ 4 (C ab l.length k1) l.length ac.flatten):=Af (Aw ag (by have:=a3.o;first|(simp;omega)|omega));have bb:=Af ax;have bc:=Af ay;have F:Hid (Below w w i):=Af (by first|exact j.o.drew.trans (m.mono j.o.size)|exact((j.o.alloc j.o.size _).drew).trans (m.mono (by have:=j.o.size;simp;omega)));have ad:Hid (Ah i (w+2) Db #[C O 0 0]):=Af (by first|exact x.o.drew.below m x.o.lt|exact(x.o.alloc _).drew.below m (by have:=x.o.lt;simp;omega));have G:Hid (Ah i (w+1) AZ #[y.kind,y.num,C a y.q.length b,C d y.ps.length e]):=Af (by first|exact g.o.drew.below m g.o.lt|exact(g.o.alloc _).drew.below m (by have:=g.o.lt;simp;omega));(try (have a4:Hid (Ah i aa AZ #[y.kind,y.num,C a y.q.length b,C d y.ps.length e]):=Af (by exact(Ah.new aa AZ _).drew.below m (by simp))));have au:Hid (w.heap.size+3<=i.heap.size):=Af (by have:=ad.o.lt;omega);have k0:=G.o.cell 0;have k9:=G.o.cell 1;have k2:=G.o.cell 2;have k3:=G.o.cell 3;have bs:=G.o.lt;clear m ax ag ay))
 all_goals go_wp2_with fail
 all_goals
  refine Ao (Ab8 _ rfl rfl (.inl rfl) _ _ (w+2) (C z (l.length+1) A) rfl (by simpa using k.o.put 0 (C z (l.length+1) A))) rfl ?_;have bd:Below w w (av.setCell (w+2:Nat) (C z (l.length+1) A)):=aw.o.setCell (p:=(w+2:Nat)) (by simp) _;refine⟨_,rfl,λq be bf=>?_,bd⟩;have az:=Ak af.o (p:=(w+2:Nat)) (λD=>by have:=(Ai af.o D).1;simp at this)<|C z (l.length+1) A;have bg:=Ha az (λbh bi u=>bf bh (Ai az bi).1 u);exact CH.snoc bb.o bc.o a1.o rfl bg<|aq.o.trans (be.mono aq.o.size)
end
section
open Go.Lib
structure Kj (s:AO) (op key val:Int):Prop where
 of:Gq op=s.kind
 kb:0≤key∧key≤1000
 kz:key≠0→Dg op=true
 vb:QE val
 vz:val≠0→B6 op=true
def Ps(s:AO)(op val:Int):Bool:=op==3&&Da s.kind 0 (s.num+val)
theorem Wx{s:AO}{op key val:Int}(b:s.Ok)(h:Kj s op key val):s.doo op key val=if Ps s op val then none else some (s.deed op key val):=by
 have d:(s.kind !=0)=true:=by have:=b.k;simp;omega
 have e:(Gq op==s.kind)=true:=by simp [h.of]
 have g:(key !=0&& !Dg op)=false:=by
  by_cases a:key=0
  ·simp [a]
  ·simp [h.kz a]
 have i:(val !=0&& !B6 op)=false:=by
  by_cases a:val=0
  ·simp [a]
  ·simp [h.vz a]
 have j:decide (key<0)=false:=by have:=h.kb;simp;omega
 have k:decide (1000<key)=false:=by have:=h.kb;simp;omega
 have l:decide (val< -1000000000)=false:=by have:=h.vb;unfold QE at this;simp;omega
 have m:decide (1000000000<val)=false:=by have:=h.vb;unfold QE at this;simp;omega
 unfold AO.doo AO.can Ps
 rw [d,e,g,i,j,k,l,m]
 cases (op==3&&Da s.kind 0 (s.num+val))<;>rfl
theorem FJ{s:AO}{op key val:Int}(a:s.Ok)(h:Kj s op key val):1≤op∧op≤9:=by
 have b:=Mw h.of (by have:=a.k;omega)
 omega
theorem Tv(op:Int)(b:1≤op∧op≤9):∀(args:Array Value) (w:World),(callFunc (MA op) args).run prog w=.ok (.enter (MA op) args) w:=by
 rcases (show op=1∨op=2∨op=3∨op=4∨op=5∨op=6∨op=7∨op=8∨op=9 by omega) with a|a|a|a|a|a|a|a|a<;>subst a<;>intro args w<;>kernel_rfl
theorem ZO{w0 w:World}{v:Value}{s:AO}{op key val:Int}(b:Gj w0 v s)(d:Below w0.heap.size w0 w)(i:s.Ok)(h:Kj s op key val)(e:s.q.length≤1000000∧s.ps.length≤1000000):Calls prog (MA op) #[v,.int .i64 key,.int .i64 val] w fun k l=>CS w0 w (s.deed op key val) k l:=by
 have o:=FJ i h
 have j:∀g∈s.ps,0≤g.1∧g.1≤1000:=fun g m=>(i.p g m).1
 rcases (show op=1∨op=2∨op=3∨op=4∨op=5∨op=6∨op=7∨op=8∨op=9 by omega) with a|a|a|a|a|a|a|a|a<;>subst a
 ·exact Abq b d key val
 ·exact Aed b d key val
 ·refine Aee b d key val ?_
  have p:=i.n
  have n:=h.vb
  unfold QE at n
  rw[Ey]
  omega
 ·exact Abq b d key val
 ·exact Aek b d key val e.1
 ·exact Aeg b d key val
 ·exact Aem b d key val j h.kb e.2
 ·have a:s.deed 8 key val=(s,GL s key):=by
   unfold AO.deed GL
   cases B5 s.ps key<;>rfl
  rw [a]
  exact Aef b d key val j h.kb e.2
 ·have a:s.deed 9 key val=({s with ps:=C3 s.ps key},GL s key):=by
   unfold AO.deed GL C3
   cases B5 s.ps key<;>rfl
  rw [a]
  exact Aen b d key val j h.kb e.2
theorem Aep(e:Func){t:Ab}{i j k l:Nat}(hF:e.results= #[.cell i t,.tmp j,.tmp k,.tmp l])(n:t=AZ)(tmps:Array Value)(W:World)(g:Nat)(a0 m a2 a3 b c d:Value)(o:tmps.getD i Ac=.pointer (some ⟨g,0,none⟩))(p:tmps.getD j Ac=b)(q:tmps.getD k Ac=c)(r:tmps.getD l Ac=d)(a:Ah W g AZ #[a0,m,a2,a3]):
 (As e tmps).run prog W=.ok (.tuple #[.agg #[a0,m,a2,a3],b,c,d]) W:=by
 subst n
 have u:=a.cell 0
 have v:=a.cell 1
 have w:=a.cell 2
 have x:=a.cell 3
 have y:tmps[i]?.getD Ac=.pointer (some ⟨g,0,none⟩):=by simpa using o
 have z:tmps[j]?.getD Ac=b:=by simpa using p
 have A:tmps[k]?.getD Ac=c:=by simpa using q
 have B:tmps[l]?.getD Ac=d:=by simpa using r
 simp[As,hF,y,z,A,B,go_sem,u,v,w,x]
theorem Tr.look_alloc{w W:World}{b:Nat}{a:List Int}(h:Tr w W b a){k:Int}(e:k∈a)(j:1≤k∧k≤9)(o:Obj):(B1 tDe (.map (some b)) (.int .i64 k) false).run prog (W.alloc o)=.ok (MB k) (W.alloc o):=by
 obtain⟨l,m,n,f,p,g,i⟩:=h
 have d:=(g.alloc o).look Nj (Wo _) (k:=k) (by omega) (by omega)
 rw [i k e] at d
 exact d
theorem R5{n k g m:Nat}{w X Z:World}(d:Ay [g] w X)(l:(n≤g∧g<k)∨w.heap.size≤g)(a:Below X.heap.size X Z∨Ay [m] X Z)(o:n≤m∧m<k):Zi n k w Z:=by
 intro b p e
 have i:X.heap[b]?=w.heap[b]?:=d.block b e (by simp only [List.mem_singleton];omega)
 have j:=ED e d.size
 rcases a with a|a
 ·exact(a.block b j).trans i
 ·exact(a.block b j (by simp only [List.mem_singleton];omega)).trans i
def zS:Value:=.agg #[.int .i64 0,.int .i64 0,.slice none 0 0,.slice none 0 0]
def ZP(w:World)(o:Option (AO×Int×Int))(r:Ending)(w':World):Prop:=Below w.heap.size w w'∧((∃a b,o=some a∧r=.returned (.tuple #[b,.int .i64 a.2.1,.int .i64 a.2.2,.nilIface])∧Gj w' b a.1)∨(o=none∧∃d,Gk d∧r=.returned (.tuple #[zS,.int .i64 0,.int .i64 0,d])))
def Wy(w:World)(x:AO×Int×Int)(k l m:Value)(a:World):Prop:=∃d e g i j,k=.pointer (some ⟨d,0,none⟩)∧l=.int .i64 x.2.1∧m=.int .i64 x.2.2∧Ah a d AZ #[e,g,i,j]∧(∀b,Below a.heap.size a b∨Ay [w.heap.size+1] a b→Gj b (.agg #[e,g,i,j]) x.1)∧Below w.heap.size w a∧Ah a (w.heap.size+1) AZ #[.int .i64 0,.int .i64 0,.slice none 0 0,.slice none 0 0]
theorem Aca{w X:World}{n:Nat}{x:AO×Int×Int}{v u z y:Value}(d:∀Z,Zi w.heap.size n X Z→Gj Z (.agg #[v,u,z,y]) x.1)(e:w.heap.size+1<n)(b:Below w.heap.size w X)(a:Ah X (w.heap.size+1) AZ #[.int .i64 0,.int .i64 0,.slice none 0 0,.slice none 0 0]):
 Wy w x (.pointer (some ⟨X.heap.size,0,none⟩)) (.int .i64 x.2.1) (.int .i64 x.2.2) (X.alloc (.cells #[v,u,z,y] AZ)):=
 ⟨X.heap.size,_,_,_,_,rfl,rfl,rfl,Ah.new X AZ _,fun Z a=>d Z (R5 ((Ay.refl [X.heap.size] X).alloc _) (.inr (Aa _)) a ⟨by omega,e⟩),b.alloc b.size _,a.alloc _⟩
theorem Wz{w X:World}{g n:Nat}{x:AO×Int×Int}{v u z y c0 c1 c2 c3:Value}(d:Ah X g AZ #[c0,c1,c2,c3])(b:w.heap.size≤g∧g<n)(k:w.heap.size+1≠g)(e:∀Z,Zi w.heap.size n X Z→Gj Z (.agg #[v,u,z,y]) x.1)(i:w.heap.size+1<n)(j:Below w.heap.size w X)(a:Ah X (w.heap.size+1) AZ #[.int .i64 0,.int .i64 0,.slice none 0 0,.slice none 0 0]):
 Wy w x (.pointer (some ⟨g,0,none⟩)) (.int .i64 x.2.1) (.int .i64 x.2.2) ((((X.setCell ⟨g,0,none⟩ v).setCell ⟨g,1,none⟩ u).setCell ⟨g,2,none⟩ z).setCell ⟨g,3,none⟩ y):=
 ⟨g,_,_,_,_,rfl,rfl,rfl,Cg d,fun Z a=>e Z (R5 (Hc _ _ _ _ _ _) (.inl b) a ⟨by omega,i⟩),BR j b.1,a.only (Hc _ _ _ _ _ _) (by simp only [List.mem_singleton];omega)⟩
theorem Acb{w:World}{v:Value}{s:AO}{op key val:Int}(au:Gj w v s)(G:s.Ok)(h:Kj s op key val)(av:s.q.length≤1000000∧s.ps.length≤1000000)(ad:AE w):
 Calls prog 232 #[v,.int .i64 op,.int .i64 key,.int .i64 val] w fun b r=>ZP w (s.doo op key val) b r:=by
 have aw:=au
 rw [Wx G h]
 generalize ax:(if Ps s op val then none else some (s.deed op key val))=cu
 have ay:=Af ax
 clear ax
 obtain⟨t,u,x,y,rfl,az,a0⟩:=au
 have cv:=Af az
 have cw:=Af a0
 have a1:=Af (Bo w (.cells (L4 s t u x y) AZ) AZ #[.int .i64 0,.int .i64 0,.slice none 0 0,.slice none 0 0])
 have X:=Af ((Ah.new w AZ (L4 s t u x y)).below ((Ae _ _).alloc (Aa _) (.cells #[.int .i64 0,.int .i64 0,.slice none 0 0,.slice none 0 0] AZ)) (by simp))
 have a2:=Af (AG w (.cells (L4 s t u x y) AZ) (.cells #[.int .i64 0,.int .i64 0,.slice none 0 0,.slice none 0 0] AZ))
 have a3:=Af (ad.below (AG w (.cells (L4 s t u x y) AZ) (.cells #[.int .i64 0,.int .i64 0,.slice none 0 0,.slice none 0 0] AZ)))
 have a4:=Af (show 15<w.heap.size by obtain⟨bi,a5⟩:=ad.errs 15 (by simp);exact Ad w _ a5)
 have ae:=Af G
 have m:=Af h
 have af:=Af (fun w=>(GD op w).mono (R':=fun b r=>b=.returned (.int .i64 s.kind)∧r=w) (fun _ _ d=>⟨by rw [d.1,h.of],d.2.symm⟩))
 have a6:=Af (fun (W:World) (bj:Below w.heap.size w W)=>ZO aw bj G h av)
 have bk:(s.kind==0)=false:=by have:=G.k;simp;omega
 clear az a0 aw G h av ad
 have bl:=X.o.cell 0
 have bm:=X.o.cell 1
 go_enter func232,ntmps232
 go_upto_region 1 with fail
 go_wp2_with fail
 go_quiet ((go_at_call 65;first|exact Bw (af.o _)|exact Calls.quiet_of_same (af.o _)))
 go_upto_region 3 with fail
 obtain⟨W,D⟩:∃W:World,W=(((w.alloc (.cells #[.int .i64 s.kind,.int .i64 s.num,.slice t s.q.length u,.slice x s.ps.length y] AZ)).alloc (.cells #[.int .i64 0,.int .i64 0,.slice none 0 0,.slice none 0 0] AZ)).drewN nq):=⟨_,rfl⟩
 rw [←D]
 have n:Hid (Ah W w.heap.size AZ (L4 s t u x y)):=Af (D▸X.o.drewN nq)
 have a:Hid (Ah W (w.heap.size+1) AZ #[.int .i64 0,.int .i64 0,.slice none 0 0,.slice none 0 0]):=Af (D▸a1.o.drewN nq)
 have z:Hid (Below w.heap.size w W):=Af (D▸below_drewN a2.o nq)
 have bn:Hid (AE W):=Af (D▸a3.o.below (below_drewN (Ae _ _) nq))
 clear D bl bm bk a1 X a2 a3 af
 go_cut [58] (fun bo L=>bo=.bool false∧L=W)
 case first=>
  have bp:decide (key<0)=false:=by have:=m.o.kb;simp;omega
  have bq:decide (1000<key)=false:=by have:=m.o.kb;simp;omega
  have a7:decide (val< -1000000000)=false:=by have:=m.o.vb;unfold QE at this;simp;omega
  have a8:decide (1000000000<val)=false:=by have:=m.o.vb;unfold QE at this;simp;omega
  have ag:key≠0→Hid (∀w,Calls prog 117 #[.int .i64 op] w fun b r=>b=.returned (.bool true)∧r=w):=fun ah=>Af (fun w=>(Mp op w).mono (fun _ _ d=>⟨by rw [d.1,m.o.kz ah],d.2.symm⟩))
  have F:val≠0→Hid (∀w,Calls prog 119 #[.int .i64 op] w fun b r=>b=.returned (.bool true)∧r=w):=fun ah=>Af (fun w=>(Je op w).mono (fun _ _ d=>⟨by rw [d.1,m.o.vz ah],d.2.symm⟩))
  by_cases Y:key=0
  ·subst Y
   clear ag bp bq
   by_cases o:val=0
   ·subst o
    clear F a7 a8
    go_wp2_with fail
    all_goals go_meet
    all_goals exact⟨rfl,rfl⟩
   ·have br:(val !=0)=true:=by simp [o]
    have ai:=F o
    clear F o
    go_wp2_with fail
    refine(ai.o _).mono ?_
    rintro b Z ⟨rfl,rfl⟩
    go_wp2_with fail
    all_goals go_meet
    all_goals exact⟨rfl,rfl⟩
  ·have cx:(key !=0)=true:=by simp [Y]
   have a9:=ag Y
   clear ag Y
   by_cases o:val=0
   ·subst o
    clear F a7 a8
    go_wp2_with fail
    refine(a9.o _).mono ?_
    rintro b Z ⟨rfl,rfl⟩
    go_wp2_with fail
    all_goals go_meet
    all_goals exact⟨rfl,rfl⟩
   ·have br:(val !=0)=true:=by simp [o]
    have ai:=F o
    clear F o
    go_wp2_with fail
    refine(a9.o _).mono ?_
    rintro b Z ⟨rfl,rfl⟩
    go_wp2_with fail
    refine(ai.o _).mono ?_
    rintro b Z ⟨rfl,rfl⟩
    go_wp2_with fail
    all_goals go_meet
    all_goals exact⟨rfl,rfl⟩
 case rest=>
 obtain⟨rfl,rfl⟩:=hcut
 have ba:=n.o.cell 0
 have bb:=n.o.cell 1
 have bc:=n.o.lt
 go_upto_region 5 with fail
 go_cut [71] (fun bs L=>bs=.bool (Ps s op val)∧L=wc)
 case first=>
  by_cases bd:op=3
  ·subst bd
   have bt:=Af (QK s.kind 0 (s.num+val))
   have cy:IntKind.i64.wrap (s.num+val)=s.num+val:=by
    have cz:=ae.o.n
    have bu:=m.o.vb
    unfold QE at bu
    rw[Ey]
    omega
   have aj:Hid (Ps s 3 val=Da s.kind 0 (s.num+val)):=Af rfl
   go_wp2_with fail
   refine(bt.o _).mono ?_
   rintro b Z ⟨rfl,rfl⟩
   go_wp2_with fail
   all_goals go_meet
   all_goals exact⟨by rw [aj.o],rfl⟩
  ·have bv:(op==3)=false:=by simp [bd]
   have aj:Hid (Ps s op val=false):=Af (by unfold Ps;rw [bv];rfl)
   go_wp2_with fail
   all_goals go_meet
   all_goals exact⟨by rw [aj.o],rfl⟩
 case rest=>
 obtain⟨rfl,rfl⟩:=hcut
 cases aa:Ps s op val with
 |true=>
  have ak:=Af aa
  obtain⟨bi,a5⟩:=bn.o.errs 15 (by simp)
  have bw:=a.o.cell 0
  have bx:=a.o.cell 1
  have bz:=a.o.cell 2
  have b0:=a.o.cell 3
  have b1:=a.o.frozen 0
  have b2:=a.o.frozen 1
  have b3:=a.o.frozen 2
  have b4:=a.o.frozen 3
  have b5:=a.o.lt
  clear aa ba bb bc
  have c0:¬(w.heap.size+1=15):=by have:=a4.o;omega
  have c1:¬(15=w.heap.size+1):=by have:=a4.o;omega
  go_upto_region 6 with fail
  go_region
  all_goals go_wp2_with fail
  all_goals
   refine Ao (Aep _ rfl rfl _ _ _ (.int .i64 0) (.int .i64 0) (.slice none 0 0) (.slice none 0 0) _ _ _ rfl rfl rfl rfl (Cg a.o.drew)) rfl ?_
   exact⟨BR z.o.drew (Ax _),.inr ⟨by rw[←ay.o,ak.o];rfl,_,⟨_,_,rfl⟩,rfl⟩⟩
 |false=>
  have ak:=Af aa
  clear aa
  have b6:=Tv op (FJ ae.o m.o)
  have be:=Af (fun w=>Tt w)
  have ab:=Af (FJ ae.o m.o)
  have b7:=n.o.cell 2
  have b8:=n.o.cell 3
  obtain⟨W,rfl⟩:∃W:World,W=wc:=⟨_,rfl⟩
  go_upto_region 7 with fail
  go_cut [12,13,14] (fun b9 ca cb L=>Wy w (s.deed op key val) b9 ca cb L)
  case first=>
   go_region_with (first
    |(go_at_call 273;refine(be.o _).mono ?_;rintro b g ⟨bf,rfl,i⟩;have c2:(B1 tDe (.map (some bf)) (.int .i64 op) false).run prog g=.ok (.func (.func (MA op)) #[] #[]) g:=i.look (k:=op) (by have:=ab.o;simp;omega) ab.o 0;have c3:∀bg,(B1 tDe (.map (some bf)) (.int .i64 op) false).run prog (g.alloc bg)=.ok (.func (.func (MA op)) #[] #[]) (g.alloc bg):=i.look_alloc (k:=op) (by have:=ab.o;simp;omega) ab.o;have M:Hid (Ah g w.heap.size AZ (L4 s t u x y)):=Af (by first|exact n.o.drew.below i.below n.o.lt|exact(n.o.alloc _).drew.below i.below (by have:=n.o.lt;simp;omega));have q:Hid (Ah g (w.heap.size+1) AZ #[.int .i64 0,.int .i64 0,.slice none 0 0,.slice none 0 0]):=Af (by first|exact a.o.drew.below i.below a.o.lt|exact(a.o.alloc _).drew.below i.below (by have:=a.o.lt;simp;omega));have p:Hid (Below w.heap.size w g):=Af (by first|exact z.o.drew.trans (i.below.mono z.o.size)|exact((z.o.alloc z.o.size _).drew).trans (i.below.mono (by have:=z.o.size;simp;omega)));have cc:=M.o.cell 0;have cd:=M.o.cell 1;have ce:=M.o.cell 2;have cf:=M.o.cell 3;have cg:=M.o.lt;(try (have al:Hid (Ah g W.heap.size AZ #[.int .i64 0,.int .i64 0,.slice none 0 0,.slice none 0 0]):=Af (by exact(Ah.new W AZ _).drew.below i.below (by simp))));clear i)
    |((first|refine(a6.o _ p.o).mono ?_|refine(a6.o _ (p.o.alloc p.o.size _)).mono ?_);rintro b S ⟨c4,rfl,A,am⟩;obtain⟨c5,c6,c7,c8,rfl,_,_⟩:=am S (fun _ _ _=>rfl);have an:=Af am;have ao:Hid (Below w.heap.size w S):=Af (by first|exact p.o.trans (A.mono p.o.size)|exact(p.o.alloc p.o.size _).trans (A.mono (by have:=p.o.size;simp;omega)));have ap:Hid (Ah S (w.heap.size+1) AZ #[.int .i64 0,.int .i64 0,.slice none 0 0,.slice none 0 0]):=Af (by first|exact q.o.below A q.o.lt|exact(q.o.alloc _).below A (by have:=q.o.lt;simp;omega));(try (have j:Hid (Ah S g.heap.size AZ #[.int .i64 0,.int .i64 0,.slice none 0 0,.slice none 0 0]):=Af (by exact(Ah.new g AZ _).below A (by simp));have ch:=j.o.cell 0;have ci:=j.o.cell 1;have cj:=j.o.cell 2;have ck:=j.o.cell 3;have cl:=j.o.frozen 0;have cn:=j.o.frozen 1;have co:=j.o.frozen 2;have cp:=j.o.frozen 3;have cq:=j.o.lt));(try (have l:Hid (Ah S W.heap.size AZ #[.int .i64 0,.int .i64 0,.slice none 0 0,.slice none 0 0]):=Af (by exact al.o.below A al.o.lt);have ch:=l.o.cell 0;have ci:=l.o.cell 1;have cj:=l.o.cell 2;have ck:=l.o.cell 3;have cl:=l.o.frozen 0;have cn:=l.o.frozen 1;have co:=l.o.frozen 2;have cp:=l.o.frozen 3;have cq:=l.o.lt));clear A am cc cd ce cf cg))
   all_goals go_wp2_with fail
   all_goals go_meet
   all_goals first
    |(with_reducible refine Aca an.o ?_ ao.o ap.o;(have d:=q.o.lt;first|omega|(simp;omega)))
    |(with_reducible refine Wz j.o ?_ ?_ an.o ?_ ao.o ap.o;exact⟨p.o.size,by simp⟩;(have d:=q.o.lt;omega);(have d:=q.o.lt;first|omega|(simp;omega)))
    |(with_reducible refine Wz l.o ?_ ?_ an.o ?_ ao.o ap.o;exact⟨z.o.size,al.o.lt⟩;(have d:=a.o.lt;omega);(have d:=q.o.lt;first|omega|(simp;omega)))
  case rest=>
  obtain⟨c9,da,db,dc,dd,rfl,rfl,rfl,B,aq,bh,e⟩:=hcut
  obtain⟨ar,rfl⟩:∃ar:World,ar=wc:=⟨_,rfl⟩
  obtain⟨de,df,dh,di,ac,_,_⟩:=aq ar (.inl (Ae _ _))
  injection ac with ac
  simp only [Array.mk.injEq,List.cons.injEq,and_true] at ac
  obtain⟨rfl,rfl,rfl,rfl⟩:=ac
  have dj:=Af B
  have cr:=Af aq
  have cs:=Af bh
  have ct:=Af e
  have dk:=B.cell 0
  have dl:=B.cell 1
  have dm:=B.cell 2
  have dn:=B.cell 3
  have dp:=B.lt
  have bw:=e.cell 0
  have bx:=e.cell 1
  have bz:=e.cell 2
  have b0:=e.cell 3
  have b1:=e.frozen 0
  have b2:=e.frozen 1
  have b3:=e.frozen 2
  have b4:=e.frozen 3
  have b5:=e.lt
  clear B aq bh e ba bb bc b7 b8 b6 be
  go_wp2_with fail
  refine Ao (Aep _ rfl rfl _ _ (w.heap.size+1) _ _ _ _ _ _ _ rfl rfl rfl rfl (Cg ct.o)) rfl ?_
  exact⟨BR cs.o (Ax _),.inl ⟨_,_,by rw[←ay.o,ak.o];rfl,rfl,cr.o _ (.inr (Hc _ _ _ _ _ _))⟩⟩
end
section
open Go.Lib
theorem R7{e:Type}{n:Nat}{f:e→List Value}{w:World}{v:Value}{l:List e}{b:Nat}{A:Option Addr}{m c:Nat}(x:∀a,∀u∈f a,∃k,u=.int .i64 k)(h:Ba n f w v l)(y:w.cell? ⟨b,0,none⟩=some (.slice A m c))(u:Value):Ba n f (w.setCell ⟨b,0,none⟩ u) v l:=by
 obtain⟨z,B,g,i,D,k2,k3,k4,k5⟩:=h
 refine⟨z,B,g,i,D,k2,k3,k4,fun j o F p q r G=> ?_⟩
 have d:=k5 j o F p q r G
 by_cases t:(⟨b,0,none⟩:Addr)=⟨g,i+j*n+p,none⟩
 ·rw [←t,y] at d
  injection d with d
  obtain⟨k,L⟩:=x o q (Ap r)
  rw [L] at d
  cases d
 ·rw[Er _ _ _ _ t]
  exact d
theorem Pt(a:Int):∀u∈FH a,∃d,u=A0 .i64 d:=by intro u b;simp[FH] at b;exact⟨_,b⟩
theorem MC(a:Int×Int):∀u∈AN a,∃d,u=A0 .i64 d:=by
 intro u b
 simp [AN] at b
 rcases b with rfl|rfl
 ·exact⟨_,rfl⟩
 ·exact⟨_,rfl⟩
theorem Jz.box{w:World}{x:AO}{q:List Value}{b:Nat}{A:Option Addr}{m c:Nat}(h:Jz w x q)(a:w.cell? ⟨b,0,none⟩=some (.slice A m c))(u:Value):Jz (w.setCell ⟨b,0,none⟩ u) x q:=by
 obtain⟨g,i,j,d,e⟩:=h
 exact⟨g,i,j,⟨R7 Pt d.1 a u,d.2.set _ _⟩,⟨R7 MC e.1 a u,e.2.set _ _⟩⟩
theorem CH.box{w:World}{v:Value}{l:List AO}{b:Nat}{A:Option Addr}{m c:Nat}(h:CH w v l)(o:w.cell? ⟨b,0,none⟩=some (.slice A m c))(u:Value):CH (w.setCell ⟨b,0,none⟩ u) v l:=by
 obtain⟨⟨y,z,⟨B,D,p,q,F,k2,k3,k4,k5⟩,i⟩,G⟩:=h
 refine⟨?_,G.set _ _⟩
 refine⟨y,z,⟨B,D,p,q,F,k2,k3,k4,fun a e j k L g M=> ?_⟩,fun a e r t x=>⟨(i a e r t x).1,(i a e r t x).2.box o u⟩⟩
 have d:=k5 a e j k L g M
 by_cases n:(⟨b,0,none⟩:Addr)=⟨p,q+a*4+k,none⟩
 ·rw [←n,o] at d
  injection d with d
  have X:=(Am.1 j).1
  obtain⟨_,Y,Z,S,_,_⟩:=i a _ e (An (by omega)) j
  injection n with aa ab
  have W:k=0:=by omega
  subst W
  rw [S] at g
  simp at g
  rw [←g] at d
  cases d
 ·rw[Er _ _ _ _ n]
  exact d
theorem WA(a:Func){t:Ab}{i j k l:Nat}(hF:a.results= #[.cell i t,.tmp j,.tmp k,.tmp l])(e:t=BS)(tmps:Array Value)(W:World)(g:Nat)(a0 b c d:Value)(m:tmps.getD i Ac=.pointer (some ⟨g,0,none⟩))(n:tmps.getD j Ac=b)(o:tmps.getD k Ac=c)(p:tmps.getD l Ac=d)(q:Ah W g BS #[a0]):
 (As a tmps).run prog W=.ok (.tuple #[.agg #[a0],b,c,d]) W:=by
 subst e
 have r:=q.cell 0
 have u:tmps[i]?.getD Ac=.pointer (some ⟨g,0,none⟩):=by simpa using m
 have v:tmps[j]?.getD Ac=b:=by simpa using n
 have w:tmps[k]?.getD Ac=c:=by simpa using o
 have x:tmps[l]?.getD Ac=d:=by simpa using p
 simp[As,hF,u,v,w,x,go_sem,r]
def Acd(w:World)(l:List AO)(i:Nat)(o:Option (AO×Int×Int))(r:Ending)(w':World):Prop:=Below w.heap.size w w'∧((∃a b,o=some a∧r=.returned (.tuple #[.agg #[b],.int .i64 a.2.1,.int .i64 a.2.2,.nilIface])∧CH w' b (l.set i a.1))∨(o=none∧∃d,Gk d∧r=.returned (.tuple #[.agg #[.slice none 0 0],.int .i64 0,.int .i64 0,d])))
theorem Af1{w:U}{vl:N}{l:List AO}{s:AO}{op key val:Int}(h:CH w vl l)(B:l[i]?=E s)(W:l.length<=1000)(X:s.Ok)(Y:Kj s op key val)(Z:s.q.length<=1000000/\s.ps.length<=1000000)(aa:AE w):
 Calls prog 149 #[.agg #[vl],I J i,I J op,I J key,I J val] w λr al=>Acd w l i (s.doo op key val) r al:=by
 have ab:=Af (λb (j:Below w.heap.size w b)=>Af0 h j B);have D:=Af (λb am (j:Below w.heap.size w b) (an:Gj b am s)=>Acb an X Y Z (aa.below j));have F:=Af (λb ao ap (j:Below w.heap.size w b) (aq:Gj b ao ap)=>Ab9 (h.below j) aq (Am.1 B).1 W);obtain⟨G,c,rfl⟩:=h.shape;have ac:=Af<|AG w (K #[C G l.length c] BS) (K #[C O 0 0] BS);have ar:=Af<|Bo w (K #[C G l.length c] BS) BS #[C O 0 0];have ad:=Af<|(Ah.new w BS #[C G l.length c]).alloc (K #[C O 0 0] BS);generalize s.doo op key val=a7 at D|-;go_in;have au:=ad.o.cell 0;go_wp2_with fail;refine(ab.o _ ac.o).mono ?_;rintro r a8 ⟨a9,rfl,ae,t⟩;have e:=Af<|ac.o.trans (t.mono (by simp;omega));have av:=Af<|ae.below e.o;have af:=Af<|ar.o.below t (by simp);have ag:=Af<|ad.o.below t (by simp;omega);obtain⟨u,v,x,y,rfl,_,_⟩:=ae;go_wp2_with fail;refine(D.o _ _ (e.o.alloc e.o.size (K #[I J s.kind,I J s.num,C u s.q.length v,C x s.ps.length y] AZ)) (av.o.below ((Ae _ _).alloc (Aa _) _))).mono ?_;rintro r ba ⟨z,aw⟩;have d:=Af<|(e.o.alloc e.o.size (K #[I J s.kind,I J s.num,C u s.q.length v,C x s.ps.length y] AZ)).trans (z.mono (by have:=e.o.size;simp;omega));have g:=Af<|(af.o.alloc (K #[I J s.kind,I J s.num,C u s.q.length v,C x s.ps.length y] AZ)).below z (by have:=af.o.lt;simp;omega);have ah:=Af<|(ag.o.alloc (K #[I J s.kind,I J s.num,C u s.q.length v,C x s.ps.length y] AZ)).below z (by have:=ag.o.lt;simp;omega);rcases aw with ⟨a,bb,k,rfl,ai⟩|⟨k,bc,⟨bd,be,rfl⟩,rfl⟩
 .have ax:=Af ai;have L:=Af k;obtain⟨m,n,o,q,rfl,_,_⟩:=ai;have ay:=(ah.o.alloc (K #[I J a.1.kind,I J a.1.num,C m a.1.q.length n,C o a.1.ps.length q] AZ)).cell 0;have az:=(ah.o.alloc (K #[I J a.1.kind,I J a.1.num,C m a.1.q.length n,C o a.1.ps.length q] AZ)).lt;go_wp2_with fail;refine(F.o _ _ a.1 (d.o.alloc d.o.size (K #[I J a.1.kind,I J a.1.num,C m a.1.q.length n,C o a.1.ps.length q] AZ)) (ax.o.below ((Ae _ _).alloc (Aa _) _))).mono ?_;rintro r bf ⟨bg,rfl,M,S⟩;have a0:=Af<|(d.o.alloc d.o.size (K #[I J a.1.kind,I J a.1.num,C m a.1.q.length n,C o a.1.ps.length q] AZ)).trans (S.mono (by have:=d.o.size;simp;omega));have A:=Af<|(g.o.alloc (K #[I J a.1.kind,I J a.1.num,C m a.1.q.length n,C o a.1.ps.length q] AZ)).below S (by have:=g.o.lt;simp;omega);obtain⟨a1,a2,aj⟩:=M.shape;rw[HL] at aj;subst aj;have a3:=Af M;have ak:=A.o.cell 0;have a4:=A.o.frozen 0;have a5:=A.o.lt;have a6:=Af ak;go_wp2_with fail;refine Ao (WA _ rfl rfl _ _ (w.heap.size+1) _ _ _ _ rfl rfl rfl rfl (by simpa using A.o.put 0 (C a1 l.length a2))) rfl ?_;exact⟨a0.o.setCell (p:=⟨w.heap.size+1,0,O⟩) (by simp) _,.inl ⟨a,_,L.o,rfl,a3.o.box a6.o _⟩⟩
 .have L:=Af k;have ak:=(g.o.alloc (K #[I J 0,I J 0,C O 0 0,C O 0 0] AZ)).cell 0;have a4:=(g.o.alloc (K #[I J 0,I J 0,C O 0 0,C O 0 0] AZ)).frozen 0;have a5:=(g.o.alloc (K #[I J 0,I J 0,C O 0 0,C O 0 0] AZ)).lt;unfold zS;go_wp2_with fail;refine Ao (WA _ rfl rfl _ _ (w.heap.size+1) _ _ _ _ rfl rfl rfl rfl (by simpa using (g.o.alloc (K #[I J 0,I J 0,C O 0 0,C O 0 0] AZ)).put 0 (C O 0 0))) rfl ?_;exact⟨(d.o.alloc d.o.size _).setCell (p:=⟨w.heap.size+1,0,O⟩) (by simp) _,.inr ⟨L.o,_,⟨_,_,rfl⟩,rfl⟩⟩
end
section
open Go.Lib
abbrev tDq:Ab:=160
abbrev tAt:Ab:=103
theorem Acf(d:Dd)(ret got:Int)(w:U)(k:AE w):Calls prog 150 #[.agg (Bl d),ret,got] w λl n=>Below w w n/\((ret=d.ret/\got=d.got/\l=R .nilIface)∨(¬(ret=d.ret/\got=d.got)/\∃m,Gk m/\l=R m)):=by
 have g:=Af<|Zc w (K (Bl d) tDq);have i:=Af<|Ah.new w tDq (Bl d);have o:=i.o.cell 4;have p:=i.o.cell 5;have j:=k.below g;unfold Bl at o p g i j|-;let⟨t,u⟩:=j.errs 27 (by simp);clear k j;by_cases a:ret=d.ret
 .have q:(ret !=d.ret)=false:=by simp[a]
  by_cases b:got=d.got
  .have r:(got !=d.got)=false:=by simp[b]
   have e:Hid (ret=d.ret/\got=d.got):=Af ⟨a,b⟩;clear a b;go_in;go_wp2;go_ret;exact⟨g,.inl ⟨e.o.1,e.o.2,rfl⟩⟩
  .have r:(got !=d.got)=true:=by simp[b]
   have e:Hid (¬(ret=d.ret/\got=d.got)):=Af (λh=>b h.2);go_in;go_wp2;go_ret;exact⟨g,.inr ⟨e,_,⟨_,_,rfl⟩,rfl⟩⟩
 .have q:(ret !=d.ret)=true:=by simp[a]
  have e:Hid (¬(ret=d.ret/\got=d.got)):=Af (λh=>a h.1);go_in;go_wp2;go_ret;exact⟨g,.inr ⟨e,_,⟨_,_,rfl⟩,rfl⟩⟩
def AO.sz(s:AO):Nat:=s.q.length+s.ps.length
theorem WB(ps:List (Int×Int))(key val:Int):(putR ps key val).length<=ps.length+1:=by
 unfold putR
 split
 .simp
 .rw[Kf];omega
theorem R8{s:AO}{op key val:Int}(e:1<=op/\op<=9):(s.deed op key val).1.sz<=s.sz+1:=by
 rcases (show op=1∨op=2∨op=3∨op=4∨op=5∨op=6∨op=7∨op=8∨op=9 by omega) with a|a|a|a|a|a|a|a|a<;>subst a
 .exact Ax _
 .exact Ax _
 .exact Ax _
 .exact Ax _
 .show(s.q++[val]).length+s.ps.length<=_;unfold AO.sz;simp;omega
 .have a:s.deed 6 key val=Wi s:=rfl;rw[a];unfold Wi AO.sz
  cases d:s.q with
  |nil=>simp[d]
  |cons g i=>simp;omega
 .show s.q.length+(putR s.ps key val).length<=_;have:=WB s.ps key val;unfold AO.sz;omega
 .have a:(s.deed 8 key val).1=s:=by
   unfold AO.deed;simp
   cases B5 s.ps key<;>rfl
  rw[a];exact Ax _
 .cases b:B5 s.ps key with
  |none=>
   have a:(s.deed 9 key val).1=s:=by unfold AO.deed;simp[b]
   rw[a];exact Ax _
  |some j=>
   have a:(s.deed 9 key val).1={s with ps:=s.ps.take (AL s.ps key)++s.ps.drop (AL s.ps key+1)}:=by unfold AO.deed;simp[b]
   rw[a];unfold AO.sz;simp only[Ef,EH,EN];omega
structure Fp (ks:List Int) (d:Dd):Prop where
 obj:0<=d.obj
 of:∃k,ks[d.obj.toNat]?=E k/\Gq d.op=k
 kb:0<=d.key/\d.key<=1000
 kz:d.key≠0->Dg d.op=true
 vb:QE d.val
 vz:d.val≠0->B6 d.op=true
theorem Fp.at{a:List Int}{d:Dd}{l:List AO}(h:Fp a d)(b:DC a l):∃(e:Nat) (s:AO),d.obj=(e:Int)/\l[e]?=s/\s.Ok/\Kj s d.op d.key d.val:=by
 let⟨m,g,j⟩:=h.of;rw[<-b.kinds,List.getElem?_map] at g;let⟨s,i,k⟩:=Option.map_eq_some_iff.1 g;have n:=h.obj;exact⟨d.obj.toNat,s,by omega,i,(b.ok s (Ap i)).1,⟨by rw[j,<-k],h.kb,h.kz,h.vb,h.vz⟩⟩
theorem Nn(a:Func){t:Ab}(hF:a.results= #[.cell i t,.tmp j])(d:t=BS)(tmps:Array N)(W:U)(g:Nat)(a0 b:N)(e:tmps.getD i Ac=g)(k:tmps.getD j Ac=b)(l:Ah W g BS #[a0]):
 (As a tmps).run prog W=.ok (.tuple #[.agg #[a0],b]) W:=by
 subst d;have m:=l.cell 0;have n:tmps[i]?.getD Ac=g:=by simpa using e
 have o:tmps[j]?.getD Ac=b:=by simpa using k
 simp[As,hF,n,o,go_sem,m]
def ZQ(w:U)(o:Option (List AO))(r:Ending)(w':U):Prop:=Below w w w'/\((∃a b,o=E a/\r=R (.tuple #[.agg #[b],.nilIface])/\CH w' b a)∨(o=O/\∃d,Gk d/\r=R (.tuple #[.agg #[C O 0 0],d])))
structure Abs (w:U) (ks:List Int) (M:Nat) (l:List AO) (ds:List Dd) (j:Nat) (wr:U) (v:N) (lj:List AO):Prop where
 box:Ah wr w BS #[v]
 o:Ah wr (w+1) BS #[C O 0 0]
 st:CH wr v lj
 ok:DC ks lj
 sz:∀s∈lj,s.sz<=M+j
 run:AP l ds=AP lj (ds.drop j)
 below:Below w w wr
theorem DC.len{a:List Int}{l:List AO}(h:DC a l):l.length=a.length:=by rw[<-h.kinds,List.length_map]
theorem R9{w:U}{vl v:N}{l:List AO}{e:List Dd}{B:List Int}{M:Nat}(h:CH w vl l)(av:Ba 8 Qj w v e)(bh:DC B l)(bi:∀d∈e,Fp B d)(bj:∀s∈l,s.sz<=M)(bk:M+e.length<=1000000)(ad:B.length<=1000)(ae:AE w):
 Calls prog 89 #[.agg #[vl],v] w λaw b6=>ZQ w (AP l e) aw b6:=by
 generalize bl:AP l e=df;have ax:=Af bl;clear bl;obtain⟨af,c,rfl⟩:=h.shape;obtain⟨dh,di,rfl⟩:=av.shape;have ay:=Af<|AG w (K #[C af l.length c] BS) (K #[C O 0 0] BS);have bm:Hid (Abs w B M l e 0 ((w.alloc (K #[C af l.length c] BS)).alloc (K #[C O 0 0] BS)) (C af l.length c) l):=Af ⟨(Ah.new w BS _).alloc _,Bo w _ BS _,h.below ay.o,bh,by simpa using bj,rfl,ay.o⟩;have b7:=Af av;have b8:=Af bi;have X:=Af bk;have b9:=Af ad;have bn:=Af ae;clear h av bh bi bj bk ad ae;go_in;go_upto_region 1 with fail;generalize ca:(w.alloc (K #[C af l.length c] BS)).alloc (K #[C O 0 0] BS)=dj at bm ay|-;clear ca;go_wp2
 go_loopw [14] (λaz wr=>∃(a:Nat) (bo:N) (b:List AO),az=I J a/\a<=e.length/\Abs w B M l e a wr bo b) (λaz _=>e.length+1-(intOf az).toNat)
 case atStart=>exact⟨0,_,_,rfl,A9 _,bm.o⟩
 case round=>
  obtain⟨a,bo,b,rfl,dk,g⟩:=hrel;have ag:=Af g;have a0:=Af g.run;have cb:=X.o;obtain⟨cc,cd,rfl⟩:=g.st.shape;by_cases Y:a<e.length
  .obtain⟨d,ah⟩:∃d,e[a]?=E d:=⟨e[a],An Y⟩;obtain⟨o,u,ce,_,_,q⟩:=(b7.o.below g.below).at ah;subst ce;have a1:wr.cell? ⟨o,u+a*8,O⟩=E (I J d.obj):=q 0 _ rfl (by omega);have cf:wr.cell? ⟨o,u+a*8+1,O⟩=E (I J d.op):=q 1 _ rfl (by omega);have cg:wr.cell? ⟨o,u+a*8+2,O⟩=E (I J d.key):=q 2 _ rfl (by omega);have ch:wr.cell? ⟨o,u+a*8+3,O⟩=E (I J d.val):=q 3 _ rfl (by omega);have ci:wr.cell? ⟨o,u+a*8+4,O⟩=E (I J d.ret):=q 4 _ rfl (by omega);have cj:wr.cell? ⟨o,u+a*8+5,O⟩=E (I J d.got):=q 5 _ rfl (by omega);have ck:wr.cell? ⟨o,u+a*8+6,O⟩=E (I J d.pos):=q 6 _ rfl (by omega);have cl:wr.cell? ⟨o,u+a*8+7,O⟩=E (I J d.back):=q 7 _ rfl (by omega);have cn:o<wr.heap.size:=Ad wr _ a1;have dl:(0:Int)<=(a:Int):=by omega
   have dm:(a:Int)<(e.length:Int):=by omega
   have bp:Hid (e.drop a=d::e.drop (a+1)):=Af (by
    rw[List.drop_eq_getElem_cons Y]
    congr 1
    have:=(Am.1 ah).2;exact this)
   have co:(Bl d)= #[I J d.obj,I J d.op,I J d.key,I J d.val,I J d.ret,I J d.got,I J d.pos,I J d.back]:=rfl;have r:=Af<|Ah.new wr tDq #[I J d.obj,I J d.op,I J d.key,I J d.val,I J d.ret,I J d.got,I J d.pos,I J d.back];have cp:=Af<|b8.o d (Ap ah);have D:=Af Y;have a2:Below wr.heap.size wr (wr.alloc (K #[I J d.obj,I J d.op,I J d.key,I J d.val,I J d.ret,I J d.got,I J d.pos,I J d.back] tDq)):=(Ae _ _).alloc (Aa _) _;have bq:=Af a2;have ai:=Af<|g.below.alloc g.below.size (K #[I J d.obj,I J d.op,I J d.key,I J d.val,I J d.ret,I J d.got,I J d.pos,I J d.back] tDq);have F:=Af<|g.box.alloc (K #[I J d.obj,I J d.op,I J d.key,I J d.val,I J d.ret,I J d.got,I J d.pos,I J d.back] tDq);have aj:=Af<|g.o.alloc (K #[I J d.obj,I J d.op,I J d.key,I J d.val,I J d.ret,I J d.got,I J d.pos,I J d.back] tDq);have a3:=Af<|g.st.below a2;have ak:=Af g.ok;have a4:=Af g.sz;clear q ah a2 co g;by_cases G:d.ret=0
   .have cq:(d.ret==0)=true:=by simp[G]
    have a5:Hid (AP l e=AP b (e.drop (a+1))):=Af (by rw[a0.o,bp.o,AP,if_pos G]);clear G;go_wp2
    go_roundw
    case rel=>exact⟨a+1,_,b,by have:=X.o;have:=D.o;go_num,D.o,F.o,aj.o,a3.o,ak.o,λs x=>by have:=a4.o s x;omega,a5.o,ai.o⟩
    case measure=>simp[intOf];have:=D.o;have:=X.o;omega
   .have cq:(d.ret==0)=false:=by simp[G]
    obtain⟨Z,s,aa,x,al,am⟩:=cp.o.at ak.o;have br:=a4.o s<|Ap x;have cr:=ak.o.len;have ad:=b9.o
    have an:Hid (AP l e=match (s.doo d.op d.key d.val) with|some j=>if j.2.1=d.ret/\j.2.2=d.got then AP (b.set Z j.1) (e.drop (a+1)) else O|none=>O):=Af (by
     rw[a0.o,bp.o,AP,if_neg G];unfold Tf;rw[aa,if_pos (by omega),D6,x];simp only[]
     cases s.doo d.op d.key d.val<;>rfl)
    have a6:Hid (∀j,s.doo d.op d.key d.val=E j->DC B (b.set Z j.1)/\∀y∈b.set Z j.1,y.sz<=M+(a+1)):=Af (λj n=>by
     refine⟨Nb (i:=d.obj) (op:=d.op) (key:=d.key) (val:=d.val) (ret:=j.2.1) (got:=j.2.2) ak.o ?_,λy a7=>?_⟩
     .unfold Tf;rw[aa,if_pos (by omega),D6,x];simp only[n];rfl
     .rcases List.mem_or_eq_of_mem_set a7 with a7|rfl
      .have:=a4.o y a7;omega
      .rw[Wx al am] at n
       split at n
       .cases n
       .injection n with n;have:=R8 (s:=s) (key:=d.key) (val:=d.val)<|FJ al am;rw[n] at this;omega)
    have ao:=Af<|Af1 a3.o x (by omega) al am (by unfold AO.sz at br;omega) ((bn.o.below ag.o.below).below bq.o);have ap:=r.o.cell 0;have bs:=r.o.cell 1;have bt:=r.o.cell 2;have bu:=r.o.cell 3;have bv:=r.o.cell 4;have L:=F.o.cell 0;have a8:=F.o.lt;have bw:=r.o.lt;rw[aa] at ap a1 r F aj a3 ao bq ai L bs bt bu bv a8 bw;generalize s.doo d.op d.key d.val=dn at an a6 ao;clear G x al am br cr ad;have cs:=Af aa;clear aa;go_wp2_with fail;refine ao.o.mono ?_;rintro aw z ⟨ab,a9⟩;have A:=Af<|ai.o.trans (ab.mono ai.o.size);have bz:=Af<|F.o.below ab F.o.lt;have S:=Af<|aj.o.below ab aj.o.lt;have t:=Af<|r.o.below ab r.o.lt;have ct:=Af<|bn.o.below A.o;have ba:=S.o.cell 0;have bb:=S.o.frozen 0;have bc:=S.o.lt;rcases a9 with ⟨j,dp,n,rfl,bd⟩|⟨n,cu,⟨y,be,rfl⟩,rfl⟩
    .obtain⟨k,m,b0⟩:=bd.shape;rw[HL] at b0;subst b0;have cv:=Af bd;have aq:=Af n;have ar:=λw ae=>Acf d j.2.1 j.2.2 w ae;unfold Bl at ar;simp only[cs.o] at ar;have b1:=Af ar;have cw:=(t.o.alloc (K #[C k b.length m] BS)).cell 0;have cx:=(t.o.alloc (K #[C k b.length m] BS)).cell 1;have cy:=(t.o.alloc (K #[C k b.length m] BS)).cell 2;have cz:=(t.o.alloc (K #[C k b.length m] BS)).cell 3;have c0:=(t.o.alloc (K #[C k b.length m] BS)).cell 4;have c1:=(t.o.alloc (K #[C k b.length m] BS)).cell 5;have c2:=(t.o.alloc (K #[C k b.length m] BS)).cell 6;have c3:=(t.o.alloc (K #[C k b.length m] BS)).cell 7;have c4:=(t.o.alloc (K #[C k b.length m] BS)).lt;go_wp2_with fail;refine(b1.o _ (ct.o.below ((Ae _ _).alloc (Aa _) _))).mono ?_;rintro aw dq ⟨W,a9⟩;have bf:=Af<|(A.o.alloc A.o.size (K #[C k b.length m] BS)).trans (W.mono (by have:=A.o.size;simp;omega));have b2:=Af<|(Ah.new z BS #[C k b.length m]).below W (by simp);have au:=Af<|(bz.o.alloc (K #[C k b.length m] BS)).below W (by have:=bz.o.lt;simp;omega);have ac:=Af<|(S.o.alloc (K #[C k b.length m] BS)).below W (by have:=S.o.lt;simp;omega);have c5:=Af<|cv.o.below ((Zc z (K #[C k b.length m] BS)).trans (W.mono (by simp)));have ba:=ac.o.cell 0;have bb:=ac.o.frozen 0;have bc:=ac.o.lt;have L:=au.o.cell 0;have c6:=au.o.frozen 0;have c7:=au.o.lt;have ap:=b2.o.cell 0;have c8:=b2.o.lt;have c9:=Af L;rcases a9 with ⟨b3,b4,rfl⟩|⟨b5,cu,⟨y,be,rfl⟩,rfl⟩
     .have da:Hid (AP l e=AP (b.set Z j.1) (e.drop (a+1))):=Af (by rw[an.o,aq.o];exact if_pos ⟨b3,b4⟩);go_wp2
      go_roundw
      case rel=>exact⟨a+1,C k b.length m,b.set Z j.1,by have:=X.o;have:=D.o;go_num,D.o,by simpa using au.o.put 0 (C k b.length m),ac.o.far (p:=⟨w.heap.size,0,O⟩) (by simp) _,c5.o.box c9.o _,(a6.o j aq.o).1,(a6.o j aq.o).2,da.o,bf.o.setCell (p:=⟨w.heap.size,0,O⟩) (Aa _) _⟩
      case measure=>simp[intOf];have:=D.o;have:=X.o;omega
     .have bg:Hid (AP l e=O):=Af (by rw[an.o,aq.o];exact if_neg b5);go_wp2_with fail;refine Ao (Nn _ rfl rfl _ _ (w.heap.size+1) _ _ rfl rfl (by simpa using (ac.o.put 0 (C O 0 0)).alloc (K #[I J a,.iface y (Q (E be))] tAt))) rfl ?_;exact⟨(bf.o.setCell (p:=⟨w.heap.size+1,0,O⟩) (by simp) _).alloc (by have:=bf.o.size;simp;omega) _,.inr ⟨by rw[<-ax.o,bg.o],_,⟨_,_,rfl⟩,rfl⟩⟩
    .have bg:Hid (AP l e=O):=Af (by rw[an.o,n]);have dr:¬(w.heap.size=z.heap.size):=by omega
     have ds:¬(w.heap.size+1=z.heap.size):=by omega
     have dt:¬(z.heap.size=w.heap.size):=by omega
     have du:w.heap.size<z.heap.size:=by omega
     go_wp2_with fail;refine Ao (Nn _ rfl rfl _ _ (w.heap.size+1) _ _ rfl rfl (by simpa using ((S.o.put 0 (C O 0 0)).alloc (K #[C O 0 0] BS)).alloc (K #[I J a,.iface y (Q (E be))] tAt))) rfl ?_;exact⟨((A.o.setCell (p:=⟨w.heap.size+1,0,O⟩) (by simp) _).alloc (by have:=A.o.size;simp;omega) _).alloc (by have:=A.o.size;simp;omega) _,.inr ⟨by rw[<-ax.o,bg.o],_,⟨_,_,rfl⟩,rfl⟩⟩
  .have dv:decide (a<e.length)=false:=by simpa using Y
   have db:a=e.length:=by omega
   have a5:Hid (AP l e=E b):=Af (by rw[a0.o,db,HQ];rfl);have L:=g.box.cell 0;have a8:=g.box.lt;have dc:=g.o.cell 0;have dw:=g.o.frozen 0;have dx:=g.o.lt;have dd:=Af dc;have de:=g.st;go_wp2_with fail;refine Ao (Nn _ rfl rfl _ _ (w.heap.size+1) _ _ rfl rfl (by simpa using ag.o.o.put 0 (C cc b.length cd))) rfl ?_;exact⟨ag.o.below.setCell (p:=⟨w.heap.size+1,0,O⟩) (by simp) _,.inl ⟨b,_,by rw[<-ax.o,a5.o],rfl,ag.o.st.box dd.o _⟩⟩
end
section
attribute [local go_sem] Oper.semAt_some
def Ns(W W':U):Prop:=∀(a:Nat) (b:Array N),W.heap[a]?=E (K b AZ (0,0))->W'.heap[a]?=E (K b AZ (0,0))
theorem Ns.trans{A B C:U}(h:Ns A B)(k:Ns B C):Ns A C:=λa b d=>k a b (h a b d)
theorem Ns.putObj(W:U)(l:Nat)(o o':Obj)(h:W.heap[l]?=o)(b:o.isCells=false):Ns W (W.putObj l o'):=λd g a=>by
 have e:d≠l:=by
  rintro rfl;rw[h] at a;injection a with a;subst a
  cases b
 exact(World.putObj_heap_other e).trans a
theorem Ns.row{W W':U}(h:Ns W W'){B:Nat}{v:N}{xs:List N}(d:W.ownsRow B AZ 4 v n xs):W'.ownsRow B AZ 4 v n xs:=by
 obtain⟨a,e|⟨b,g,cur,i,j,k,l,m,o,p⟩⟩:=d
 .exact⟨a,.inl e⟩
 .exact⟨a,.inr ⟨b,g,cur,i,j,h b cur k,l,m,o,p⟩⟩
def Cz(w0:U)(l:List AO):Type:={a:Nat×List N//∃s,l[a.1]?=E s/\Jz w0 s a.2}
def Cz.enc{w0:U}{l:List AO}(x:Cz w0 l):Array N:= #[(x.1.1:Int),.agg x.1.2.toArray]
def De{w0:U}{l:List AO}(n:Nat)(ys:List (Cz w0 l)):Prop:=ys.map (λa=>a.1.1)=List.range n
theorem JH{w0:U}{l:List AO}{ys:List (Cz w0 l)}(h:De k ys)(x:Cz w0 l)(a:x.1.1=k):De (k+1) (ys++[x]):=by
 unfold De at*;rw[List.map_append,h,List.range_succ,<-a];rfl
theorem Acp(v:N)(w:U):
 Calls prog 147 #[.agg #[v]] w λa b=>a=R (.func (.func 230) #[] #[w])/\b=w.alloc (K #[v] 119):=by
 go_in;go_wp2;go_ret;exact⟨rfl,rfl⟩
theorem Aah(M box:Nat){w0:U}{v:N}{b:List AO}(aq:CH w0 v b)(ar:b.length<=1000)(g S:List (Cz w0 b)->U->Prop)(W:U)(au:Below w0.heap.size w0 W)(X:AbidesFrom W.heap.size g)
 (Y:∀(i:List (Cz w0 b)) (k:Cz w0 b) (W:U),g i W->i.length<b.length->YieldAt Ed (8-1-1) prog M k.enc W λe W'=>
  (e=R (T true)/\g (i++[k]) W'/\Ns W W')∨(e=R (T false)/\S (i++[k]) W'))
 (av:W.cell? ⟨box,0,O⟩=E v) (Z:g [] W):
 CallsIn Ed (8-1) prog 230 #[.func (.yield M) #[] #[],Q (E ⟨box,0,O⟩)] W λe W'=>(∃aw,e=R aw)/\
  ((∃d,De b.length d/\g d W')∨(∃i,(∃a,a<=b.length/\De a i)/\S i W')):=by
 have aa:=Af<|Abr aq au ar;have ab:=Af X;have ax:=Af Y;have ac:=Af Z;refine callsIn_of_wp func230 rfl trivial ?_ rfl;simp only[ntmps230,EQ,C4,Em,Nat.reduceAdd,Nat.reduceSub,Array.replicate_succ,Array.replicate_zero,List.push_toArray,List.append_toArray,List.nil_append,List.cons_append];gi_wp2_with fail;refine⟨trivial,?_⟩;refine(callsIn_wide.2 aa.o).mono ?_;rintro ad bk ⟨bl,rfl,⟨ay,p,q,r⟩,j⟩;have az:=Af p;have a0:=Af r;have a1:=Af<|DV p r;obtain⟨a2,a3,a4⟩:=Ag q;subst a4;have a5:=ab.o _ _ _ O ac.o ⟨j.os,j.tape,j.output,j.size,λa t _=>j.block a t⟩ (λad e=>by cases e);have a6:=Af q;gi_wp2_with fail
 gi_loopw [9] (λu wr=>∃(a:Nat) (d:List (Cz w0 b)),a<=b.length/\u=I J a/\De a d/\g d wr/\wr.ownsRow W.heap.size AZ 4 (C a2 b.length a3) b.length ay.flatten)
  (λu _=>b.length-(intOf u).toNat)
 case atStart=>exact⟨0,[],A9 _,rfl,rfl,a5,a6.o⟩
 case round=>
  obtain⟨a,d,t,rfl,w,ae,n⟩:=hrel;have a7:=Af n;have af:=Af ae;have x:=Af w;have ag:d.length=a:=by have a8:=congrArg List.length w;simpa using a8
  have a9:=Af ag;by_cases y:a<b.length
  .obtain⟨s,z⟩:∃s,b[a]?=E s:=⟨b[a],An y⟩;obtain⟨bm,o,l,ba,-,-,-,bb,ah,m⟩:=(DD.of_row (R:=λ_ s l=>Jz w0 s l) n az.o (λbc k l bd be=>a0.o bc k l bd be) a1.o).at z;subst ba;have bf:=Af (⟨s,z,ah⟩:∃s,b[a]?=E s/\Jz w0 s l);have ai:∀o,g d (wr.alloc o):=λo=>ab.o _ _ _ O af.o (World.grownBy_alloc wr o O) (λad e=>by cases e);obtain⟨bn,bo,rfl,aj,ak⟩:=ah;obtain⟨A,B,rfl⟩:=aj.shape;obtain⟨D,F,rfl⟩:=ak.shape;obtain⟨fn,bp,assign,body,al,am⟩:=ax.o d ⟨(a,[I J s.kind,I J s.num,C A s.q.length B,C D s.ps.length F]),bf.o⟩ _ (ai (K #[I J s.kind,I J s.num,C A s.q.length B,C D s.ps.length F] AZ)) (by rw[a9.o];exact y);have bg:=Af am;have bh:=m 0 _ rfl;have bq:=m 1 _ rfl;have br:=m 2 _ rfl;have bs:=m 3 _ rfl;rw[EV] at bh;have bi:=Af<|a7.o.alloc (K #[I J s.kind,I J s.num,C A s.q.length B,C D s.ps.length F] AZ);have bt:(0:Int)<=(a:Int):=by omega
   have bu:(a:Int)<(b.length:Int):=by omega
   unfold Cz.enc at al;simp only at al;have G:=Af y;gi_wp2_with fail;refine bg.o.mono ?_;rintro e bv (⟨rfl,an,ao⟩|⟨rfl,ap⟩)
   .have bj:=Af<|ao.row bi.o;have L:=Af an;gi_wp2_with fail
    go_roundw
    case rel=>exact⟨a+1,_,by have:=G.o;omega,by simp,JH x.o _ rfl,L.o,bj.o⟩
    case measure=>simp[intOf];have:=G.o;omega
   .have L:=Af ap;gi_wp2_with fail;refine Ao (results_none rfl _ _ _) rfl ?_;exact⟨⟨_,rfl⟩,.inr ⟨_,⟨a+1,by have:=G.o;omega,JH x.o _ rfl⟩,L.o⟩⟩
  .obtain rfl:a=b.length:=by omega
   gi_wp2_with fail
   go_end0
   exact⟨⟨_,rfl⟩,.inl ⟨_,x.o,af.o⟩⟩
theorem Nu(box:Nat){w0:U}{v:N}{a:List AO}(i:CH w0 v a)(j:a.length<=1000)(w:U)(b:Below w0 w0 w)(d:w.cell? box=v):
 SeqStopsK Ed (8-1) prog 230 #[box] (λk:Cz w0 a=>k.enc) Ns (De a.length) (λl=>∃e,e<=a.length/\De e l) a.length w:=λm n o p g q _ r t=>
 Aah m box i j n o p (b.trans (g.mono b.size)) q r ((g.cell (Ad w _ d)).trans d) t
end
end Go.Proofs.YtpoacbcnhpbdmaaGreatDoor
