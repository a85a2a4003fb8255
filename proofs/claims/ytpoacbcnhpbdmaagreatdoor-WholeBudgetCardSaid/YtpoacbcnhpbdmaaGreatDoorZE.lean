/-
  A part of the proof: PPp and what follows.
-/
import Derived.Test.YtpoacbcnhpbdmaaGreatDoorZC
import Derived.Deep.RegionLaw
import Derived.Carry
import Derived.Deep.RegionHeld3
import Derived.Deep.RegionHeldLaw
import Derived.Outline
set_option linter.all false
set_option maxRecDepth 100000
set_option maxHeartbeats 32000000
open Go.Act renaming put→A6
open Go.Addr renaming add_lit→EF
open Go.AllReadyH renaming cons→EX,nil→Fa
open Go.RowKit.Below renaming heap_setCell→B3,refl→Ae
open Go.IntKind renaming wrap_i64→Ey,wrap_u64→UQ
open List renaming eq_nil_of_length_eq_zero→EU,flatMap→N9,flatMap_cons→E2,flatten_cons→HP,getElem?_append_left→Ek,getElem?_append_right→EW,getElem?_eq_getElem→An,getElem?_eq_some_iff→Am,getElem?_of_mem→E8,getElem?_set_ne→Et,getElem?_take_of_lt→N5,length_append→Ef,length_cons→C4,length_drop→EN,length_set→HL,length_take→EH,mem_append→Eh,mem_cons→B2,mem_of_getElem?→Ap,setIfInBounds_toArray→A7,set_append_right→OP,set_cons_succ→A3,set_cons_zero→A4,take_length→Ex,take_succ_eq_append_getElem→I2
open Nat renaming add_assoc→ID,div_add_mod'→I9,div_lt_iff_lt_mul→OQ,le_refl→Aa,le_succ_of_le→OS,lt_of_le_of_lt→H5,mod_lt→OR,mul_le_mul_right→Ny,succ_mul→E7,zero_add→Ej,zero_le→A9
open Ne renaming symm→Eu
open Option renaming mem_toList→F0
open Go renaming TypeId→Ab,bodyPost_ret→Ao,cell_one_new→En,info_parts→A1,madeCells→A2,maxLen→Al,results→As,size_madeCells→Gz,step_append_lies→E6,undef→Ac,wpAnyH_ready→E9,wpAnyH_take→Ds,wpList_append_own_at→B9
open Go.Value renaming int→A0,oneCell'→B4,ownBlock→A5,slice→Ar
open Go.World renaming block_lt_of_cell?→Ad,cell?_of_block→HH,cell?_setCell_far→HE,news_of_block→Ee,ownsRow_made→HD,setCell→Gh,size_alloc→Eb
open Go.World.ownsRow renaming stored→I8
open Go.Value renaming int→I,slice→C,pointer→Q,bool→T
open Go.IntKind renaming i64→J
open Go.Obj renaming cells→K
open Go.Obj renaming cells→H
open Go.Ending renaming returned→R
open Option renaming none→O,some→E
open Go renaming World→U,Value→N
namespace Go.Proofs.YtpoacbcnhpbdmaaGreatDoor
open Go.RowKit Go.Maps Go.Proofs.Tryz W
variable {w W X Y Z:World}{n k g c m i j b a:Nat}{v u z y:Value}{x t:Int}{p:TypeId}{q:List Value}{r:Array Value}{A:Option Addr}
attribute [local go_sem↓] Go.wp_at_zero Go.wp_at_succ
theorem AB{W:U}{o:Obj}(h:W.heap[k]?=o):k<W.heap.size:=by
 rcases Nat.lt_or_ge k W.heap.size with a|a
 .exact a
 .rw[Array.getElem?_eq_none a] at h;cases h
theorem AK{W W':U}{B size:Nat}{t:Ab}{v:N}{xs:List N}(h:W.ownsRow B t size v n xs)(b:∀(g:Nat) (cs:Array N),v.ownBlock=g->W.heap[g]?=E (K cs t (0,0))->W'.heap[g]?=W.heap[g]?):W'.ownsRow B t size v n xs:=by
 refine⟨h.1,?_⟩;rcases h.2 with d|⟨g,e,cur,rfl,i,a,j⟩
 .exact .inl d
 .exact .inr ⟨g,e,cur,rfl,i,(b g cur rfl a).trans a,j⟩
theorem Bm{W:U}{B size:Nat}{t:Ab}{v:N}{xs:List N}(h:W.ownsRow B t size v n xs)(a:v.ownBlock=g):∃b,W.heap[g]?=E (K b t (0,0)):=by
 rcases h.2 with ⟨rfl,_⟩|⟨d,i,cur,rfl,j,e,k⟩
 .simp[A5] at a
 .obtain rfl:d=g:=by simpa[A5] using a
  exact⟨cur,e⟩
theorem AQ{W:U}{cs r:Array N}{t t':Ab}{f b:Nat×Nat}(h:W.heap[g]?=E (K cs t f))(a:W.heap[n]?=E (K r t' b))(d:t≠t'):g≠n:=by
 rintro rfl;rw[h] at a;injection a with a;injection a with _ e;exact d e
abbrev tI:Ab:=3
abbrev tP:Ab:=61
abbrev tH:Ab:=58
abbrev tT:Ab:=57
abbrev tA:Ab:=56
def Hm(W:U)(B:Nat)(u:N)(t:List (List Bb)):Prop:=
 ∃a:List N,W.ownsRow B tT 1 u a.length a/\a.length=t.length/\∀(d:Nat) e b,a[d]?=E e->t[d]?=E b->W.ownsRow B tA 3 e b.length (DP b)
def Kw(m:List Nat)(W:U)(B:Nat)(g:N)(i:List (List (List Bb))):Prop:=
 ∃a:List N,W.ownsRow B tH 1 g a.length a/\a.length=i.length/\(∀(d:Nat) b j,a[d]?=E b->i[d]?=E j->Hm W B b j)/\
  (∀(d k:Nat) b l e,d≠k->a[d]?=E b->a[k]?=E l->b.ownBlock=E e->l.ownBlock≠E e)/\∀e∈m,g.ownBlock≠E e/\∀b∈a,b.ownBlock≠E e
structure Pp (F:List Nat) (B pb:Nat) (W:U) (vc vt:N) (p:Pg):Prop where
 box:Ah W pb tP #[vc,vt]
 le:B<=pb
 cells:W.ownsRow B tI 1 vc p.cells.length (Gs p.cells)
 thr:Kw F W B vt p.threads
 frn:∀g∈F,g<W.heap.size/\g≠pb/\vc.ownBlock≠E g
def Ad6(b:List Nat)(W W':U):Prop:=∀a∈b,W'.heap[a]?=W.heap[a]?
theorem Hm.keep{W W':U}{B:Nat}{u:N}{t:List (List Bb)}(h:Hm W B u t)(a:∀(g:Nat) (cs:Array N),u.ownBlock=E g->W.heap[g]?=E (K cs tT (0,0))->W'.heap[g]?=W.heap[g]?)(b:∀(g:Nat) (cs:Array N),W.heap[g]?=E (K cs tA (0,0))->W'.heap[g]?=W.heap[g]?):Hm W' B u t:=by
 obtain⟨d,k1,k2,k3⟩:=h;exact⟨d,AK k1 a,k2,λe i j k l=>AK (k3 e i j k l) (λg cs _ m=>b g cs m)⟩
theorem Kw.keep{d:List Nat}{W W':World}{B:Nat}{v:Value}{e:List (List (List Bb))}(h:Kw d W B v e)(g:∀(a:Nat) (cs:Array Value),W.heap[a]?=some (.cells cs tH (0,0))->W'.heap[a]?=W.heap[a]?)(i:∀(a:Nat) (cs:Array Value),W.heap[a]?=some (.cells cs tT (0,0))->W'.heap[a]?=W.heap[a]?)(j:∀(a:Nat) (cs:Array Value),W.heap[a]?=some (.cells cs tA (0,0))->W'.heap[a]?=W.heap[a]?):Kw d W' B v e:=by
 obtain⟨k,k1,k2,k3,k4⟩:=h;exact⟨k,AK k1 (λa cs _ b=>g a cs b),k2,λl m n o p=>(k3 l m n o p).keep (λa cs _ b=>i a cs b) j,k4⟩
theorem Pp.call{e:List Nat}{B:Nat}{W W':U}{v u:N}{p:Pg}(h:Pp e B n W v u p)(d:Below W W W'):Pp e B n W' v u p:=
 ⟨h.box.below d h.box.lt,h.le,AA h.cells d,h.thr.keep (λa _ b=>d.block a (AB b)) (λa _ b=>d.block a (AB b)) (λa _ b=>d.block a (AB b)),
  λa b=>⟨Nat.lt_of_lt_of_le (h.frn a b).1 d.size,(h.frn a b).2⟩⟩
theorem Pp.alloc{a:List Nat}{B:Nat}{W:U}{v u:N}{p:Pg}(h:Pp a B n W v u p)(o:Obj):Pp a B n (W.alloc o) v u p:=h.call ((Ae _ _).alloc (Aa _) o)
theorem Mr:(prog.info? 3).map (λa=>(a.zero,a.size,a.bytes))=E (E (I J 0),1,8):=by kernel_rfl
theorem Ad7:(prog.info? 58).map (λa=>(a.zero,a.size,a.bytes))=E (E (C O 0 0),1,24):=by kernel_rfl
theorem Ad8:(prog.info? 57).map (λa=>(a.zero,a.size,a.bytes))=E (E (C O 0 0),1,24):=by kernel_rfl
theorem Pp.set{i:List Nat}{B:Nat}{W:U}{v z:N}{p:Pg}(h:Pp i B n W v z p){cs:Array N}{t:Ab}(u:N)(e:W.heap[g]?=E (K cs t (0,0)))(m:g≠n)(o:v.ownBlock≠E g)(q:t≠tH)(r:t≠tT)(w:t≠tA):Pp i B n (W.setCell ⟨g,j,O⟩ u) v z p:=by
 refine⟨(B3 W ⟨g,j,O⟩ u n (λa=>m a.symm)).trans h.box,h.le,AK h.cells (λb _ a _=>B3 W ⟨g,j,O⟩ u b (λx=>by cases x;exact o a)),h.thr.keep (λb _ d=>B3 W ⟨g,j,O⟩ u b (AQ d e (λa=>q a.symm))) (λb _ d=>B3 W ⟨g,j,O⟩ u b (AQ d e (λa=>r a.symm))) (λb _ d=>B3 W ⟨g,j,O⟩ u b (AQ d e (λa=>w a.symm))),λk l=>⟨by simpa using (h.frn k l).1,(h.frn k l).2⟩⟩
theorem QC{W:U}{B:Nat}{v:N}{l:List Bb}(h:W.ownsRow B tA 3 v l.length (DP l)):CQ W v l:=by
 have g:=h;rcases h.2 with ⟨rfl,r⟩|⟨j,k,cur,rfl,t,u,m,_⟩
 .have n:l=[]:=EU (by omega);subst n;exact⟨O,0,0,0,rfl,λ_=>⟨rfl,rfl⟩,λd a=>(by cases a),Aa _,λb d e=>(by simp at e)⟩
 .refine⟨E j,k,j,0,rfl,λa=>(by cases a),λd a _=>(by injection a with a;exact a.symm),m,λb d e=>?_⟩;have w:=(Am.1 e).1;have i:=Lo l b d e;have o:=(g.cellAt (b*3+0) (by omega)).trans<|i 0 (by omega);have p:=(g.cellAt (b*3+1) (by omega)).trans<|i 1 (by omega);have q:=(g.cellAt (b*3+2) (by omega)).trans<|i 2 (by omega);simp only[Ej];exact⟨o,p,q⟩
theorem Pp.pushThread{t:List Nat}{B:Nat}{W w:U}{v z y:N}{p:Pg}{q:List N}{u0:N}{t0:List (List Bb)}(h:Pp t B n W v z p)(F:W.ownsRow B tH 1 z q.length q)(ad:q.length=p.threads.length)
 (ai:(∀(a:Nat) u i,q[a]?=E u->p.threads[a]?=E i->Hm W B u i)/\(∀(a l:Nat) u r g,a≠l->q[a]?=E u->q[l]?=E r->u.ownBlock=E g->r.ownBlock≠E g)/\∀g∈t,z.ownBlock≠E g/\∀u∈q,u.ownBlock≠E g)
 (aj:Hm W B u0 t0) (ae:∀(a:Nat) u g,q[a]?=E u->u.ownBlock=E g->u0.ownBlock≠E g) (ak:∀g∈t,u0.ownBlock≠E g)
 (al:w.ownsRow B tH 1 y (q.length+1) (q++[u0])) (x:W.grownBy w z.ownBlock) (af:y.ownBlock=z.ownBlock∨y.ownBlock=W) (am:B<=W.heap.size):
 Pp t B n (w.setCell ⟨n,1,O⟩ y) v y {p with threads:=p.threads++[t0]}/\Ad6 t W (w.setCell ⟨n,1,O⟩ y)/\Below B W (w.setCell ⟨n,1,O⟩ y):=by
 have G:=h.box;obtain⟨an,ao,L⟩:=ai;have ag:z.ownBlock≠E n:=Ah.apartRow h.box F (by decide)
 have ap:y.ownBlock≠E n:=by
  rcases af with d|d
  .rw[d];exact ag
  .rw[d];intro m;injection m with m;have:=G.lt;omega
 have A:∀(g:Nat) (e:Array N) (i:Ab),i≠tH->i≠tP->W.heap[g]?=E (K e i (0,0))->(w.setCell ⟨n,1,O⟩ y).heap[g]?=W.heap[g]?:=by
  intro g e i aq ar M;have au:g≠n:=AQ M G ar
  have m:E g≠z.ownBlock:=by
   intro d;let⟨az,av⟩:=Bm F d.symm;exact AQ M av aq rfl
  exact(B3 w ⟨n,1,O⟩ y g au).trans<|x.block g (AB M) m
 refine⟨⟨?_,h.le,AK h.cells (λg e _ j=>A g e tI (by decide) (by decide) j),⟨q++[u0],?_,by simp[ad],?_,?_,?_⟩,?_⟩,?_,?_⟩
 .exact(G.grown x (λd=>ag d.symm)).put 1 y
 .have d:(q++[u0]).length=q.length+1:=by simp
  rw[d];exact Ak al ap y
 .intro a u i b D;by_cases S:a<q.length
  .rw[Ek S] at b;rw[Ek (by omega)] at D;exact(an a u i b D).keep (λg e _ j=>A g e tT (by decide) (by decide) j) (λg e j=>A g e tA (by decide) (by decide) j)
  .have X:=(Am.1 b).1;simp at X;obtain rfl:a=q.length:=by omega
   obtain rfl:u=u0:=by simpa using b.symm
   obtain rfl:i=t0:=by rw[ad] at D;simpa using D.symm
   exact aj.keep (λg e _ j=>A g e tT (by decide) (by decide) j) (λg e j=>A g e tA (by decide) (by decide) j)
 .intro a l u r g aw b o Y Z;by_cases S:a<q.length
  .rw[Ek S] at b;by_cases aa:l<q.length
   .rw[Ek aa] at o;exact ao a l u r g aw b o Y Z
   .have ab:=(Am.1 o).1;simp at ab;obtain rfl:l=q.length:=by omega
    obtain rfl:r=u0:=by simpa using o.symm
    exact ae a u g b Y Z
  .have X:=(Am.1 b).1;simp at X;obtain rfl:a=q.length:=by omega
   obtain rfl:u=u0:=by simpa using b.symm
   by_cases aa:l<q.length
   .rw[Ek aa] at o;exact ae l r g o Z Y
   .have ab:=(Am.1 o).1;simp at ab;omega
 .intro g k;refine⟨?_,λu b=>?_⟩
  .rcases af with d|d
   .rw[d];exact(L g k).1
   .rw[d];intro m;injection m with m;have:=(h.frn g k).1;omega
  .rcases Eh.1 b with b|b
   .exact(L g k).2 u b
   .obtain rfl:u=u0:=by simpa using b
    exact ak g k
 .intro g k;let⟨ah,ac,ax⟩:=h.frn g k;exact⟨by have:=x.size;simp[Gh];omega,ac,ax⟩
 .intro g k;let⟨ah,ac,_⟩:=h.frn g k;exact(B3 w ⟨n,1,O⟩ y g ac).trans<|x.block g ah (λd=>(L g k).1 d.symm)
 .exact((Ae B W).grown x am (λa0 ay=>(Ai F ay).1)).setCell (p:=⟨n,1,O⟩) h.le y
structure Cl (w:U) (va vb:N) (pb:Nat) (v vt:N) (q:Pg) (W:U):Prop where
 pp:Pp [] w pb W v vt q
 a:Ah W w tP #[va,vb]
 r:Ah W (w+1) tP #[C O 0 0,C O 0 0]
 ne:w.heap.size+1<pb
 below:Below w w W
theorem below_grow{w W X:U}(h:Below w w W)(a:W.grownBy X (Ar (E g) n c).ownBlock)(j:w.heap.size<=g):Below w w X:=
 BI h ((Ay.refl [g] W).grown a (λb d=>.inl (by have e:g=b:=Option.some.inj d;simp[e]))) h.size (λk i=>by have:=List.mem_singleton.1 i;omega)
theorem Pd{w W:U}{v:N}{cs:List Int}(e:Ah W n tP #[v,C O 0 0])(g:W.ownsRow w tI 1 v cs.length (Gs cs))(k:w.heap.size+1<n):Pp [] w n W v (C O 0 0) ⟨cs,[]⟩:=
 ⟨e,by omega,g,⟨[],World.ownsRow_nil _ _ _ _,rfl,λi j l a=>by simp at a,λi m j v d _ a=>by simp at a,λd b=>by simp at b⟩,λd b=>by simp at b⟩
theorem AbW{w W:U}{u vb v:N}{cs:List Int}(d:Ah W w tP #[u,vb])(a:Ah W (w+1) tP #[C O 0 0,C O 0 0])(b:Below w w W)(e:W.ownsRow w tI 1 v cs.length (Gs cs)):Cl w u vb W v (C O 0 0) ⟨cs,[]⟩ (W.alloc (K #[v,C O 0 0] tP)):=
 ⟨Pd (Ah.new W tP _) (e.alloc _) a.lt,d.alloc _,a.alloc _,a.lt,b.alloc b.size _⟩
theorem AbX{w W:U}{u vb v:N}{cs:List Int}(i:Ah W w tP #[u,vb])(j:Ah W (w+1) tP #[C O 0 0,C O 0 0])(k:Below w w W)(l:W.ownsRow w tI 1 v cs.length (Gs cs))(d:Ah W n tP #[C O 0 0,C O 0 0])(e:w.heap.size+1<n):Cl w u vb n v (C O 0 0) ⟨cs,[]⟩ ((W.setCell n v).setCell ⟨n,1,O⟩ (C O 0 0)):=by
 have g:=d.put 0 v;have m:=AK l (W':=W.setCell n v) (λa cs _ b=>B3 W n _ a (AQ b d (by decide)));have o:=AK m (W':=(W.setCell n v).setCell ⟨n,1,O⟩ (C O 0 0)) (λa cs _ b=>B3 _ ⟨n,1,O⟩ _ a (AQ b g (by decide)));exact⟨Pd (by simpa using g.put 1 (C O 0 0)) o e,(i.far (p:=n) (by simp;omega) v).far (p:=⟨n,1,O⟩) (by simp;omega) _,(j.far (p:=n) (by simp;omega) v).far (p:=⟨n,1,O⟩) (by simp;omega) _,e,(k.setCell (p:=n) (by simp;omega) _).setCell (p:=⟨n,1,O⟩) (by simp;omega) _⟩
theorem Ms(l:List Bb):(DP l).length=l.length*3:=by
 induction l with
 |nil=>rfl
 |cons a b d=>
  have e:DP (a::b)=(BQ a).toList++DP b:=by simp[DP]
  rw[e,Ef,d];simp[BQ];omega
theorem SZ(l:List Bb):∀u∈DP l,u.oneCell'=true:=by
 intro u a;let⟨b,_,h⟩:=List.mem_flatMap.1 a;exact QB b u h
def Dy(W:U)(B:Nat)(a b:N)(p:Pg):Prop:=W.ownsRow B tI 1 a p.cells.length (Gs p.cells)/\Kw [] W B b p.threads
theorem Hm.call{W W':U}{B:Nat}{u:N}{t:List (List Bb)}(h:Hm W B u t)(d:Below W W W'):Hm W' B u t:=
 h.keep (λa _ _ b=>d.block a (AB b)) (λa _ b=>d.block a (AB b))
theorem Hm.base{W:U}{B:Nat}{u:N}{t:List (List Bb)}(h:Hm W n u t)(a:B<=n):Hm W B u t:=by
 obtain⟨b,k1,k2,k3⟩:=h;exact⟨b,Aw k1 a,k2,λd e g i j=>Aw (k3 d e g i j) a⟩
theorem Cl.call{w W W':U}{u vb v z:N}{q:Pg}(h:Cl w u vb n v z q W)(a:Below W W W'):Cl w u vb n v z q W':=
 ⟨h.pp.call a,h.a.below a h.a.lt,h.r.below a h.r.lt,h.ne,h.below.trans (a.mono h.below.size)⟩
theorem Zw{w wr w0 w1 w2:U}{u v2 z:N}{q:List N}{t:List (List Bb)}{l:List Bb}{o:Obj}(k1:wr.ownsRow w tT 1 u q.length q)(k2:q.length=t.length)(k3:∀(g:Nat) v l,q[g]?=E v->t[g]?=E l->wr.ownsRow w tA 3 v l.length (DP l))
 (n:Below w w wr) (i:wr.grownBy w0 O) (m:w0.grownBy w1 (E wr)) (A:w1.ownsRow w tA 3 z l.length (DP l)) (B:w2.ownsRow w tT 1 v2 (q.length+1) (q++[z])) (p:(w1.alloc o).grownBy w2 u.ownBlock):
 Hm w2 w v2 (t++[l])/\Below w w w2:=by
 have r:∀a,a<wr.heap.size->w1.heap[a]?=wr.heap[a]?:=λa D=>(m.block a (by have:=i.size;omega) (λd=>by injection d with d;omega)).trans (i.block a D (by simp));have aa:wr.heap.size<=w1.heap.size:=by have:=i.size;have:=m.size;omega
 have F:w1.ownsRow w tT 1 u q.length q:=AK k1 (λa e _ b=>r a (AB b))
 have x:∀(a:Nat) (e:Array N),w1.heap[a]?=E (K e tA (0,0))->w2.heap[a]?=w1.heap[a]?:=by
  intro a e b;have G:=AB b;refine(p.block a (by simp;omega) (λd=>?_)).trans<|Below.heap_alloc w1 o a G;let⟨ab,L⟩:=Bm F d.symm;exact AQ b L (by decide) rfl
 refine⟨⟨q++[z],by simpa using B,by simp[k2],λg v y j k=>?_⟩,?_⟩
 .by_cases M:g<q.length
  .rw[Ek M] at j;rw[Ek (by omega)] at k;exact AK (AK (k3 g v y j k) (λa e _ b=>r a (AB b))) (λa e _ b=>x a e b)
  .have S:=(Am.1 j).1;simp at S;obtain rfl:g=q.length:=by omega
   obtain rfl:v=z:=by simpa using j.symm
   obtain rfl:y=l:=by rw[k2] at k;simpa using k.symm
   exact AK A (λa e _ b=>x a e b)
 .have W:=n.size;have X:Below w w w1:=(n.grown i W (λY d=>by cases d)).grown m (by have:=i.size;omega) (λY d=>by injection d with d;omega);exact(X.alloc (by omega) o).grown p (by simp;omega) (λac Z=>(Ai k1 Z).1)
theorem S3{w W wr:U}{z vb v y u:N}{q:Pg}{t:List (List Bb)}(o:Cl w z vb n v y q W)(F:Hm wr W u t)(j:Below W W wr):
 ∃e:List N,wr.ownsRow w tH 1 y e.length e/\e.length=q.threads.length/\∀(d:N) (k:U) (b:Obj),k.ownsRow w tH 1 d (e.length+1) (e++[u])->(wr.alloc b).grownBy k y.ownBlock->(d.ownBlock=y.ownBlock∨d.ownBlock=E (wr.alloc b).heap.size)->
  Cl w z vb n v d ⟨q.cells,q.threads++[t]⟩ (k.setCell ⟨n,1,O⟩ d):=by
 have a:=o.call j;let⟨e,k1,k2,k3,k4,k5⟩:=o.pp.thr;have r:=AA k1 j;refine⟨e,r,k2,λd k b S g X=>?_⟩;have aj:=j.size;have Y:=o.below.size;have x:Below wr wr (wr.alloc b):=(Ae _ _).alloc (Aa _) b;have Z:=a.pp.alloc b
 have G:=Pp.pushThread (u0:=u) (t0:=t) Z (AA r x) k2 ⟨λl A aa m ab=>((k3 l A aa m ab).call j).call x,k4,k5⟩ ((F.base Y).call x) (λl A i m ac B=>by
  have ak:=(Am.1 m).1;let⟨al,ad,_⟩:=k3 l A q.threads[l] m<|An _;have am:=(Ai ad ac).2;obtain⟨an,ae,_⟩:=F;have ao:=(Ai ae B).1;omega) (λi g=>by simp at g) S g X (by simp;omega)
 have L:∀i (D:Ab) M,Ah wr i D M->tH≠D->E i≠y.ownBlock:=λi D M af ag B=>af.apartRow r ag B.symm;have ah:w.heap.size≠n:=by have:=a.ne;omega
 have ai:w.heap.size+1≠n:=by have:=a.ne;omega
 exact⟨G.1,((a.a.alloc b).grown g (L _ _ _ a.a (by decide))).far (p:=⟨n,1,O⟩) ah d,((a.r.alloc b).grown g (L _ _ _ a.r (by decide))).far (p:=⟨n,1,O⟩) ai d,a.ne,(a.below.alloc a.below.size b).trans G.2.2⟩
theorem AfP(tmps:Array N)(W:U)(g:Nat)(v0 a:N)(b:tmps.getD 2 Ac=g)(c0:W.cell? g=v0)(c1:W.cell? ⟨g,1,O⟩=a):
 (As Tryz.f134 tmps).run prog W=.ok (.agg #[v0,a]) W:=by
 have d:tmps[2]?.getD Ac=g:=by simpa using b
 simp[As,Tryz.f134,d,go_sem,c0,c1]
theorem Cl.done{w W:U}{u vb v z:N}{q:Pg}(h:Cl w u vb n v z q W):
 Dy ((W.setCell (w+1:Nat) v).setCell ⟨w.heap.size+1,1,O⟩ z) w v z q/\Below w w ((W.setCell (w+1:Nat) v).setCell ⟨w.heap.size+1,1,O⟩ z)/\
 ((W.setCell (w+1:Nat) v).setCell ⟨w.heap.size+1,1,O⟩ z).cell? (w+1:Nat)=v/\((W.setCell (w+1:Nat) v).setCell ⟨w.heap.size+1,1,O⟩ z).cell? ⟨w.heap.size+1,1,O⟩=z:=by
 have a:w.heap.size+1≠n:=by have:=h.ne;omega
 have b:=h.r.put 0 v;have g:=h.pp.set (j:=0) v h.r a (h.r.apartRow h.pp.cells (by decide)) (by decide) (by decide) (by decide);have d:=g.set (j:=1) z b a (h.r.apartRow h.pp.cells (by decide)) (by decide) (by decide) (by decide);have e:=b.put 1 z;exact⟨⟨d.cells,d.thr⟩,(h.below.setCell (p:=(w+1:Nat)) (by simp) _).setCell (p:=⟨w.heap.size+1,1,O⟩) (by simp) _,by simpa using e.cell 0,by simpa using e.cell 1⟩
theorem J6(bg bh:N)(p:Pg)(w:U)(c2:Ln w bg bh p)(bi:Fm p=true):
 Calls prog 134 #[.agg #[bg,bh]] w λr bj=>∃bk G,r=R (.agg #[bk,G])/\Dy bj w.heap.size bk G p/\Below w.heap.size w bj:=by
 obtain⟨ag,X,Y,Z,aa⟩:=A1 Mr;obtain⟨ei,ej,ek,el,c3,bl⟩:=AM bi;have c4:=Af bl;obtain⟨ab,az⟩:=c2;obtain⟨em,e,rfl⟩:=ab.shape;obtain⟨g,i,rfl⟩:=az.shape;rw[BY] at ab|-;obtain⟨b,d,rfl⟩:=ab.addr (by rw[BY];omega)
 have c5:∀t:U,(Instr.makeSlice 47 (I J 0) (I J (p.cells.length:Int))).run prog t=.ok (C (E ⟨t.heap.size,0,O⟩) 0 p.cells.length) (t.alloc (K (A2 (A0 .i64 0).cells p.cells.length) tI)):=λt=>by
  have h:=run_make (P:=prog) t 47 3 ag (I J 0) underlying47 X Y .i64 .i64 0 p.cells.length (Int.le_refl _) (by omega) (by rw[aa];omega) (by omega);simpa[Z] using h
 have c6:=Af ab;have c7:=Af az;clear ab az c3 bl bi;have bm:Hid ((((w.alloc (K #[C (E ⟨b,d,O⟩) p.cells.length e,C g p.threads.length i] tP)).alloc (K #[C O 0 0,C O 0 0] tP)).alloc (K (A2 #[A0 .i64 0] p.cells.length) tI)).drew.ownsRow w.heap.size tI 1 (C (E ⟨w.heap.size+1+1,0,O⟩) 0 p.cells.length) 0 []):=Af<|(by have h:=HD (base:=w.heap.size) (e:=tI) (size:=1) ((w.alloc (K #[C (E ⟨b,d,O⟩) p.cells.length e,C g p.threads.length i] tP)).alloc (K #[C O 0 0,C O 0 0] tP)) (A2 #[A0 .i64 0] p.cells.length) p.cells.length (by simp;omega) (by unfold Al;omega) (by simp[Gz]);simpa using h:(((w.alloc (K #[C (E ⟨b,d,O⟩) p.cells.length e,C g p.threads.length i] tP)).alloc (K #[C O 0 0,C O 0 0] tP)).alloc (K (A2 #[A0 .i64 0] p.cells.length) tI)).ownsRow w.heap.size tI 1 (C (E ⟨w.heap.size+1+1,0,O⟩) 0 p.cells.length) 0 []);have a0:Hid (Below w.heap.size w (((w.alloc (K #[C (E ⟨b,d,O⟩) p.cells.length e,C g p.threads.length i] tP)).alloc (K #[C O 0 0,C O 0 0] tP)).alloc (K (A2 #[A0 .i64 0] p.cells.length) tI)).drew):=Af (((Zc w _).alloc (by simp) _).alloc (by simp;omega) _).drew;have bn:Hid (((((w.alloc (K #[C (E ⟨b,d,O⟩) p.cells.length e,C g p.threads.length i] tP)).alloc (K #[C O 0 0,C O 0 0] tP)).alloc (K (A2 #[A0 .i64 0] p.cells.length) tI)).alloc (K #[C O 0 0,C O 0 0] tP)).drew.ownsRow w.heap.size tI 1 (C (E ⟨w.heap.size+1+1,0,O⟩) 0 p.cells.length) 0 []):=Af<|(by have h:=HD (base:=w.heap.size) (e:=tI) (size:=1) ((w.alloc (K #[C (E ⟨b,d,O⟩) p.cells.length e,C g p.threads.length i] tP)).alloc (K #[C O 0 0,C O 0 0] tP)) (A2 #[A0 .i64 0] p.cells.length) p.cells.length (by simp;omega) (by unfold Al;omega) (by simp[Gz]);simpa using h:(((w.alloc (K #[C (E ⟨b,d,O⟩) p.cells.length e,C g p.threads.length i] tP)).alloc (K #[C O 0 0,C O 0 0] tP)).alloc (K (A2 #[A0 .i64 0] p.cells.length) tI)).ownsRow w.heap.size tI 1 (C (E ⟨w.heap.size+1+1,0,O⟩) 0 p.cells.length) 0 []).alloc _;have a1:Hid (Below w.heap.size w ((((w.alloc (K #[C (E ⟨b,d,O⟩) p.cells.length e,C g p.threads.length i] tP)).alloc (K #[C O 0 0,C O 0 0] tP)).alloc (K (A2 #[A0 .i64 0] p.cells.length) tI)).alloc (K #[C O 0 0,C O 0 0] tP)).drew):=Af ((((Zc w _).alloc (by simp) _).alloc (by simp;omega) _).alloc (by simp;omega) _).drew;have bo:Hid (((((w.alloc (K #[C (E ⟨b,d,O⟩) p.cells.length e,C g p.threads.length i] tP)).alloc (K #[C O 0 0,C O 0 0] tP)).alloc (K #[C O 0 0,C O 0 0] tP)).alloc (K (A2 #[A0 .i64 0] p.cells.length) tI)).drew.ownsRow w.heap.size tI 1 (C (E ⟨w.heap.size+1+1+1,0,O⟩) 0 p.cells.length) 0 []):=Af<|(by have h:=HD (base:=w.heap.size) (e:=tI) (size:=1) (((w.alloc (K #[C (E ⟨b,d,O⟩) p.cells.length e,C g p.threads.length i] tP)).alloc (K #[C O 0 0,C O 0 0] tP)).alloc (K #[C O 0 0,C O 0 0] tP)) (A2 #[A0 .i64 0] p.cells.length) p.cells.length (by simp;omega) (by unfold Al;omega) (by simp[Gz]);simpa using h:((((w.alloc (K #[C (E ⟨b,d,O⟩) p.cells.length e,C g p.threads.length i] tP)).alloc (K #[C O 0 0,C O 0 0] tP)).alloc (K #[C O 0 0,C O 0 0] tP)).alloc (K (A2 #[A0 .i64 0] p.cells.length) tI)).ownsRow w.heap.size tI 1 (C (E ⟨w.heap.size+1+1+1,0,O⟩) 0 p.cells.length) 0 []);have a2:Hid (Below w.heap.size w ((((w.alloc (K #[C (E ⟨b,d,O⟩) p.cells.length e,C g p.threads.length i] tP)).alloc (K #[C O 0 0,C O 0 0] tP)).alloc (K #[C O 0 0,C O 0 0] tP)).alloc (K (A2 #[A0 .i64 0] p.cells.length) tI)).drew):=Af ((((Zc w _).alloc (by simp) _).alloc (by simp;omega) _).alloc (by simp;omega) _).drew;have bp:Hid (Ah ((((w.alloc (K #[C (E ⟨b,d,O⟩) p.cells.length e,C g p.threads.length i] tP)).alloc (K #[C O 0 0,C O 0 0] tP)).alloc (K (A2 #[A0 .i64 0] p.cells.length) tI)).alloc (K #[C O 0 0,C O 0 0] tP)).drew (w.heap.size+1+1+1) tP #[C O 0 0,C O 0 0]):=Af (by have h:=Ah.new (((w.alloc (K #[C (E ⟨b,d,O⟩) p.cells.length e,C g p.threads.length i] tP)).alloc (K #[C O 0 0,C O 0 0] tP)).alloc (K (A2 #[A0 .i64 0] p.cells.length) tI)) tP #[C O 0 0,C O 0 0];simpa using h.drew);have bq:Hid (Ah ((((w.alloc (K #[C (E ⟨b,d,O⟩) p.cells.length e,C g p.threads.length i] tP)).alloc (K #[C O 0 0,C O 0 0] tP)).alloc (K #[C O 0 0,C O 0 0] tP)).alloc (K (A2 #[A0 .i64 0] p.cells.length) tI)).drew (w.heap.size+1+1) tP #[C O 0 0,C O 0 0]):=Af (by have h:=(Ah.new ((w.alloc (K #[C (E ⟨b,d,O⟩) p.cells.length e,C g p.threads.length i] tP)).alloc (K #[C O 0 0,C O 0 0] tP)) tP #[C O 0 0,C O 0 0]).alloc (K (A2 #[A0 .i64 0] p.cells.length) tI);simpa using h.drew);have a3:Hid (Ah (((w.alloc (K #[C (E ⟨b,d,O⟩) p.cells.length e,C g p.threads.length i] tP)).alloc (K #[C O 0 0,C O 0 0] tP)).alloc (K (A2 #[A0 .i64 0] p.cells.length) tI)).drew w.heap.size tP #[C (E ⟨b,d,O⟩) p.cells.length e,C g p.threads.length i]/\Ah (((w.alloc (K #[C (E ⟨b,d,O⟩) p.cells.length e,C g p.threads.length i] tP)).alloc (K #[C O 0 0,C O 0 0] tP)).alloc (K (A2 #[A0 .i64 0] p.cells.length) tI)).drew (w.heap.size+1) tP #[C O 0 0,C O 0 0]):=Af ⟨(((Ah.new w tP _).alloc _).alloc _).drew,(by have h:=(Ah.new (w.alloc (K #[C (E ⟨b,d,O⟩) p.cells.length e,C g p.threads.length i] tP)) tP #[C O 0 0,C O 0 0]).alloc (K (A2 #[A0 .i64 0] p.cells.length) tI);simpa using h.drew)⟩;have a4:Hid (Ah ((((w.alloc (K #[C (E ⟨b,d,O⟩) p.cells.length e,C g p.threads.length i] tP)).alloc (K #[C O 0 0,C O 0 0] tP)).alloc (K (A2 #[A0 .i64 0] p.cells.length) tI)).alloc (K #[C O 0 0,C O 0 0] tP)).drew w.heap.size tP #[C (E ⟨b,d,O⟩) p.cells.length e,C g p.threads.length i]/\Ah ((((w.alloc (K #[C (E ⟨b,d,O⟩) p.cells.length e,C g p.threads.length i] tP)).alloc (K #[C O 0 0,C O 0 0] tP)).alloc (K (A2 #[A0 .i64 0] p.cells.length) tI)).alloc (K #[C O 0 0,C O 0 0] tP)).drew (w.heap.size+1) tP #[C O 0 0,C O 0 0]):=Af ⟨((((Ah.new w tP _).alloc _).alloc _).alloc _).drew,(by have h:=((Ah.new (w.alloc (K #[C (E ⟨b,d,O⟩) p.cells.length e,C g p.threads.length i] tP)) tP #[C O 0 0,C O 0 0]).alloc (K (A2 #[A0 .i64 0] p.cells.length) tI)).alloc (K #[C O 0 0,C O 0 0] tP);simpa using h.drew)⟩;have a5:Hid (Ah ((((w.alloc (K #[C (E ⟨b,d,O⟩) p.cells.length e,C g p.threads.length i] tP)).alloc (K #[C O 0 0,C O 0 0] tP)).alloc (K #[C O 0 0,C O 0 0] tP)).alloc (K (A2 #[A0 .i64 0] p.cells.length) tI)).drew w.heap.size tP #[C (E ⟨b,d,O⟩) p.cells.length e,C g p.threads.length i]/\Ah ((((w.alloc (K #[C (E ⟨b,d,O⟩) p.cells.length e,C g p.threads.length i] tP)).alloc (K #[C O 0 0,C O 0 0] tP)).alloc (K #[C O 0 0,C O 0 0] tP)).alloc (K (A2 #[A0 .i64 0] p.cells.length) tI)).drew (w.heap.size+1) tP #[C O 0 0,C O 0 0]):=Af ⟨((((Ah.new w tP _).alloc _).alloc _).alloc _).drew,(by have h:=((Ah.new (w.alloc (K #[C (E ⟨b,d,O⟩) p.cells.length e,C g p.threads.length i] tP)) tP #[C O 0 0,C O 0 0]).alloc (K #[C O 0 0,C O 0 0] tP)).alloc (K (A2 #[A0 .i64 0] p.cells.length) tI);simpa using h.drew)⟩;go_in
 have ah:=Af (λ(t:U) (c8:Below w.heap.size w t) (a:Nat) (v:N) (ai:(Gs p.cells)[a]?=E v)=>(by
  obtain⟨en,eo,br,bs,c9,_,aj,_,da⟩:=c6.o.below c8<|Aa _;injection c9 with ac bt ep;subst ac;have db:=aj _ rfl (by rw[BY];omega);rw[db];have dc:(⟨br,bs,O⟩:Addr).add a=⟨br,bs+a,O⟩:=by unfold Addr.add;split<;>simp_all
  rw[dc];exact da a v ai:t.cell? ((⟨b,d,O⟩:Addr).add a)=E v))
 go_upto_region 1 with fail
 go_cut [3] from 9 to 16 (λdd de=>∃ak al,dd=Q (E ⟨ak,0,O⟩)/\Cl w (C (E ⟨b,d,O⟩) p.cells.length e) (C g p.threads.length i) ak al (C O 0 0) ⟨p.cells,[]⟩ de)
 case first=>
  go_region_law (first
   |(refine E6 _ (by rfl) (.tmp 12) (.tmp 14) 47 (by rfl) w.heap.size 3 ag (I J 0) 1 8 underlying47 X Y Z aa rfl (by omega) (.slice (E ⟨w.heap.size+1+1,0,O⟩) 0 p.cells.length) 0 [] (by rfl) bm.o ⟨b,d,O⟩ p.cells.length e (Gs p.cells) (by rfl) (by rw[BY];omega) (ah.o _ a0.o) (by simp[Gs,B4]) (by omega) (by unfold Al;omega) (by omega) (by simp;omega) _ rfl ?_;intro bu bv ad x l bw bz;have am:=a3.o.1.grown l (by simp[A5];try omega);have an:=a3.o.2.grown l (by simp[A5];try omega);have ao:=below_grow a0.o l (by omega))
   |(refine E6 _ (by rfl) (.tmp 12) (.tmp 14) 47 (by rfl) w.heap.size 3 ag (I J 0) 1 8 underlying47 X Y Z aa rfl (by omega) (.slice (E ⟨w.heap.size+1+1,0,O⟩) 0 p.cells.length) 0 [] (by rfl) bn.o ⟨b,d,O⟩ p.cells.length e (Gs p.cells) (by rfl) (by rw[BY];omega) (ah.o _ a1.o) (by simp[Gs,B4]) (by omega) (by unfold Al;omega) (by omega) (by simp;omega) _ rfl ?_;intro bu bv ad x l bw bz;have am:=a4.o.1.grown l (by simp[A5];try omega);have an:=a4.o.2.grown l (by simp[A5];try omega);have ao:=below_grow a1.o l (by omega);have o:=bp.o.grown l (by simp[A5]);have ap:=o.cell 0;have df:=o.cell 1;have b0:=o.frozen 0;have a6:=o.frozen 1;have dh:=o.lt)
   |(refine E6 _ (by rfl) (.tmp 12) (.tmp 14) 47 (by rfl) w.heap.size 3 ag (I J 0) 1 8 underlying47 X Y Z aa rfl (by omega) (.slice (E ⟨w.heap.size+1+1+1,0,O⟩) 0 p.cells.length) 0 [] (by rfl) bo.o ⟨b,d,O⟩ p.cells.length e (Gs p.cells) (by rfl) (by rw[BY];omega) (ah.o _ a2.o) (by simp[Gs,B4]) (by omega) (by unfold Al;omega) (by omega) (by simp;omega) _ rfl ?_;intro bu bv ad x l bw bz;have am:=a5.o.1.grown l (by simp[A5];try omega);have an:=a5.o.2.grown l (by simp[A5];try omega);have ao:=below_grow a2.o l (by omega);have o:=bq.o.grown l (by simp[A5]);have ap:=o.cell 0;have df:=o.cell 1;have b0:=o.frozen 0;have a6:=o.frozen 1;have dh:=o.lt))
  all_goals (go_wp2_with fail;go_meet)
  all_goals (first
   |exact⟨_,_,rfl,AbW am an ao (by simpa using x)⟩
   |exact⟨_,_,rfl,AbX am an ao (by simpa using x) o (by omega)⟩)
 case rest=>
 obtain⟨ak,al,rfl,j⟩:=hcut;obtain⟨b1,rfl⟩:∃b1:U,b1=wc:=⟨_,rfl⟩;obtain⟨b2,b3,b4,b5,b6⟩:=A1 Ad8;obtain⟨ap,b7,di,b8,dj⟩:=A1 Zv;obtain⟨dk,dl,dm,dn,dp⟩:=A1 Ad7;have b9:=Af j;have eq:=j.a.cell 1;have er:=j.a.lt;clear j bm bn bo a0 a1 a2 bp bq a3 a4 a5 ah c5 X Y Z aa;go_wp2_with fail
 go_loopw [20] (λy wr=>∃(n:Nat) (G:N),y=I J n/\n<=p.threads.length/\Cl w (C (E ⟨b,d,O⟩) p.cells.length e) (C g p.threads.length i) ak al G ⟨p.cells,p.threads.take n⟩ wr) (λy _=>5-(intOf y).toNat)
 case atStart=>exact⟨0,_,rfl,A9 _,b9.o⟩
 case round=>
  obtain⟨n,G,rfl,es,j⟩:=hrel;have a7:=Af j;by_cases a8:n<p.threads.length
  .obtain⟨m,z⟩:∃m,p.threads[n]?=E m:=⟨p.threads[n],An a8⟩;obtain⟨dq,dr,et,rfl,A,a9,_,eu⟩:=c7.o.at z;obtain⟨ev,ew,rfl⟩:=a9.shape;have ca:=(j.below.cell (p:=⟨dq,dr+n,O⟩) (Ad w _ A)).trans A;have cb:=Af<|Bp (c4.o m (Ap z));have ex:=cb.o.1;have ds:Hid (p.threads.take (n+1)=p.threads.take n++[m]):=Af (by rw[I2 a8];rw[An a8] at z;injection z with z;rw[z]);have dt:=Af a9;have du:=Af j.below;have dv:=j.below.size;clear z a9 A j;go_wp2_with (at_make;refine wpList_make_own _ rfl _ _ 58 rfl wr.heap.size 57 b2 (.slice O 0 0) 1 underlying58 b3 b4 b5 .i64 .i64 _ m.length rfl rfl rfl (by rw[b6];omega) (by unfold Al;omega) (Aa _) ?_;intro dw cc cd);have ce:=Af (show Hm dw wr.heap.size (C (E ⟨wr.heap.size,0,O⟩) 0 m.length) [] from⟨[],cc,rfl,λa al k dx=>by simp at dx⟩);have cf:=Af<|(Zb wr).grown cd (Aa _) (λn r=>by cases r);clear cc cd ca;obtain⟨q,rfl⟩:∃q:U,q=wr:=⟨_,rfl⟩
   go_loopw [6,29] (λdy y wr=>∃a:Nat,y=I J a/\a<=m.length/\Hm wr q.heap.size dy (m.take a)/\Below q.heap.size q wr) (λ_ y _=>5-(intOf y).toNat)
   case atStart=>exact⟨0,rfl,A9 _,ce.o,cf.o⟩
   case round=>
    obtain⟨a,rfl,ey,aq,B⟩:=hrel;clear ce cf;have cg:=Af B;have ez:=B.size;obtain⟨L,rfl⟩:∃L:U,L=wr:=⟨_,rfl⟩;by_cases ba:a<m.length
    .obtain⟨k,D⟩:∃k,m[a]?=E k:=⟨m[a],An ba⟩;obtain⟨dz,d0,e0,rfl,A,ch,_,e1⟩:=dt.o.at D;have bb:=du.o.trans<|B.mono dv;have d1:=ch.below bb;obtain⟨ci,d2,e2,M,rfl,aj,cj,e3,ck⟩:=d1;have ca:=(bb.cell (p:=⟨dz,d0+a,O⟩) (Ad w _ A)).trans A;have d3:=Af<|CG (cb.o.2 k (Ap D));have e4:=d3.o.2.1;have d4:Hid (m.take (a+1)=m.take a++[k]):=Af (by rw[I2 ba];rw[An ba] at D;injection D with D;rw[D])
     have d5:Hid (∀bc,L.grownBy bc O->∀ar,ci=E ar->∀a v,(DP k)[a]?=E v->bc.cell? (ar.add a)=E v):=Af (by
      intro bc d6 ar d7 a v ai;have e5:(DP k).length=k.length*3:=Ms k;have e6:=(Am.1 ai).1;obtain⟨au,cl⟩:∃au,k[a/3]?=E au:=⟨k[a/3]'(by omega),An _⟩;have F:=Lo k (a/3) au cl (a%3) (by omega);rw[show a/3*3+a%3=a by omega,ai] at F;obtain⟨cn,ac,bt⟩:=ck (a/3) au cl;rw[cj ar d7 (by omega),EF];refine d6.cell ?_ (by simp);rcases (show a%3=0∨a%3=1∨a%3=2 by omega) with h|h|h
      .rw[h] at F;rw[show M+a=M+a/3*3 by omega,cn,F];rfl
      .rw[h] at F;rw[show M+a=M+a/3*3+1 by omega,ac,F];rfl
      .rw[h] at F;rw[show M+a=M+a/3*3+2 by omega,bt,F];rfl)
     have d8:=Af aj;obtain⟨u,k1,k2,k3⟩:=aq;have co:u.length=a:=by rw[k2,EH];omega
     obtain⟨Au,av,rfl⟩:=Ag k1;have cp:=Af k1;have d9:=Af k2;have ea:=Af k3;have e7:u.length<=3:=by omega
     have e8:=Af co;clear D A ch B bb aj cj ck k1 k2 k3 co
     go_wp2_with (first
      |(at_make;refine wpList_make_own _ rfl _ _ 57 rfl q.heap.size 56 ap _ 3 underlying57 b7 di b8 .i64 .i64 _ k.length rfl rfl rfl (by rw[dj];omega) (by unfold Al;omega) (by omega) ?_;intro eb cq S)
      |(at_builtin;refine wpList_append_fits_any _ rfl (.tmp 36) (.tmp 37) 57 rfl q.heap.size 56 ap 3 underlying57 b7 b8 L.heap.size 0 k.length _ rfl cq ci k.length d2 (DP k) rfl (Ms k) d8.o (d5.o eb S) (SZ k) (by omega) ?_;intro ad x l;have ec:=Af (AK cp.o (λcr e9 _ bd=>(l.block cr (by have:=S.size;have:=AB bd;omega) (λr=>by injection r with r;have:=AB bd;omega)).trans (S.block cr (AB bd) (by simp))));have fa:q.heap.size<=ad.heap.size:=by have:=S.size;have:=l.size;omega)
      |(at_builtin;refine B9 _ rfl (.tmp 33) (.tmp 39) 58 rfl q.heap.size 57 b2 (.slice O 0 0) 1 24 underlying58 b3 b4 b5 b6 rfl (by decide) (.slice Au u.length av) u.length u rfl (ec.o.alloc _) ⟨ad.heap.size,0,O⟩ 1 1 [.slice (E ⟨L.heap.size,0,O⟩) k.length k.length] rfl rfl (En _ _ _) (by simp[B4]) (by unfold Al;omega) (by omega) (by simp;omega) ?_;intro fb fc cs ct _ ed))
     have cu:=Af<|Zw (t:=m.take a) (l:=k) cp.o d9.o ea.o cg.o S l (by simpa using x) cs ct;clear cq S x l cs ct ed
     go_roundw
     case rel=>exact⟨a+1,by go_num,by omega,by rw[d4.o];exact cu.o.1,cu.o.2⟩
     case measure=>simp[intOf]<;>omega
    .obtain rfl:a=m.length:=by omega
     rw[Ex] at aq;obtain⟨ae,W,aw,cv⟩:=S3 a7.o aq B;have af:=a7.o.call B;obtain⟨cw,cx,rfl⟩:=Ag W;obtain⟨u,k1,k2,k3⟩:=aq;obtain⟨Au,av,rfl⟩:=Ag k1;clear k2 k3;have fd:ae.length<=4:=by rw[aw];simp;omega
     have ac:=af.pp.box.cell 1;have fe:=af.pp.box.lt;have cy:=Af af.pp.box;have cz:=Af W;have ee:=Af cv;have ff:=af.below.size;clear W aw cv af k1 B cg;go_wp2_with (at_builtin;refine B9 _ rfl (.tmp 43) (.tmp 45) 59 rfl w.heap.size 58 dk (.slice O 0 0) 1 24 underlying59 dl dm dn dp rfl (by decide) (.slice cw ae.length cx) ae.length ae rfl (cz.o.alloc _) ⟨L.heap.size,0,O⟩ 1 1 [.slice Au u.length av] rfl rfl (En _ _ _) (by simp[B4]) (by unfold Al;omega) (by omega) (by simp;omega) ?_;intro fg ef be bf _ c0;obtain⟨fh,fi,rfl⟩:=Ag be;have ax:=(Ah.alloc cy.o (K #[.slice Au u.length av] tH)).grown bf (λr=>Ah.apartRow cy.o cz.o (by decide) r.symm);have fj:=ax.cell 1;have a6:=ax.frozen 1;have fk:=ax.lt;have eg:=Af (ee.o _ ef _ be bf (by simpa using c0));clear be bf c0 ax)
     go_roundw
     case rel=>exact⟨n+1,_,by go_num,by omega,by rw[ds.o];exact eg.o⟩
     case measure=>simp[intOf]<;>omega
  .obtain rfl:n=p.threads.length:=by omega
   have c1:p.threads.take p.threads.length=p.threads:=Ex;rw[c1] at j;have cn:=j.pp.box.cell 0;have ac:=j.pp.box.cell 1;have fl:=j.r.lt;have fm:=j.r.cell 0;have W:=j.r.cell 1;have b0:=j.r.frozen 0;have a6:=j.r.frozen 1;obtain⟨fo,fp,rfl⟩:=Ag j.pp.cells
   obtain⟨cw,cx,rfl⟩:∃eh c,G=C eh p.threads.length c:=by
    obtain⟨ae,W,aw,_⟩:=j.pp.thr;rw[<-aw];exact Ag W
   have ay:=Af j.done;clear j a7 c1 b9;go_wp2_with fail;exact Ao (AfP _ _ _ _ _ rfl ay.o.2.2.1 ay.o.2.2.2) rfl ⟨_,_,rfl,ay.o.1,ay.o.2.1⟩
abbrev tW:Ab:=405
abbrev QD:Ab:=492
abbrev AJ:Ab:=44
theorem GJ:(prog.info? 44).map (λa=>(a.zero,a.size,a.bytes))=E (E (.agg #[(),(),(),(),(),(),(),()]),8,64):=by kernel_rfl
theorem AbY:(prog.info? 492).map (λa=>(a.zero,a.size,a.bytes))=E (E (.agg #[(),(),false,false,(),()]),6,40):=by kernel_rfl
def Cy(t:Th):Array N:= #[t.tx,t.act,t.begun,t.adding,t.read,t.waits]
def GK(l:List Th):List N:=l.flatMap λa=>(Cy a).toList
def CR(l:List Ev):List N:=l.flatMap λa=>(Aj a).toList
section
variable {α β:Type} {f:α→List β} {n:Nat}
theorem DQ(h:∀a,(f a).length=n):∀l:List α,(l.flatMap f).length=l.length*n
 |[]=>by simp
 |a::l=>by rw[E2,Ef,DQ h l,h,C4,E7];omega
theorem Fc(h:∀a,(f a).length=n):∀(l:List α) (k:Nat) (a:α),l[k]?=E a->∀b,b<n->(l.flatMap f)[k*n+b]?=(f a)[b]?
 |[],k,a,d,_,_=>by simp at d
 |e::l,0,a,d,b,g=>by
  obtain rfl:e=a:=by simpa using d
  rw[E2,Ek (by rw[h];omega)];simp
 |e::l,k+1,a,d,b,g=>by
  have i:=Fc h l k a (by simpa using d) b g;rw[E2,EW (by rw[h,E7];omega),<-i,h,E7]
  congr 1
  omega
theorem Na(h:∀a,(f a).length=n){a':α}{v:β}{r:Nat}(g:r<n):∀(l:List α) (k:Nat) (a:α),l[k]?=E a->f a'=(f a).set r v->(l.set k a').flatMap f=(l.flatMap f).set (k*n+r) v
 |[],k,a,b,_=>by simp at b
 |e::l,0,a,b,d=>by
  obtain rfl:e=a:=by simpa using b
  rw[A4,E2,E2,d,List.set_append_left _ _ (by rw[h];omega)];simp
 |e::l,k+1,a,b,d=>by
  have i:=Na h g l k a (by simpa using b) d;rw[A3,E2,E2,i,OP _ _ (by rw[h,E7];omega),h,E7]
  congr 2
  omega
end
theorem Mt(t:Th):(Cy t).toList.length=6:=by simp[Cy]
theorem S9(e:Ev):(Aj e).toList.length=8:=by simp[Aj]
theorem Mu(e:Ev):∀u∈(Aj e).toList,u.oneCell'=true:=by
 intro u a;simp only[Aj,B2,List.not_mem_nil,or_false] at a;rcases a with rfl|rfl|rfl|rfl|rfl|rfl|rfl|rfl<;>rfl
theorem Pe(l:List Ev)(e:Ev):CR (l++[e])=CR l++(Aj e).toList:=by simp[CR]
theorem Dy.keep{W W':U}{B:Nat}{v u:N}{p:Pg}(h:Dy W B v u p)(d:∀(a:Nat) (cs:Array N) (t:Ab),t=tI∨t=tH∨t=tT∨t=tA->W.heap[a]?=E (K cs t (0,0))->W'.heap[a]?=W.heap[a]?):Dy W' B v u p:=
 ⟨AK h.1 (λa cs _ b=>d a cs _ (.inl rfl) b),h.2.keep (λa cs b=>d a cs _ (.inr (.inl rfl)) b) (λa cs b=>d a cs _ (.inr (.inr (.inl rfl))) b) (λa cs b=>d a cs _ (.inr (.inr (.inr rfl))) b)⟩
theorem RV{t t':Ab}(h:t=tI∨t=tH∨t=tT∨t=tA)(a:t'=tW∨t'=QD∨t'=AJ):t≠t':=by
 rcases h with rfl|rfl|rfl|rfl<;>rcases a with rfl|rfl|rfl<;>decide
structure Wk (B wb:Nat) (W:U) (d:Wd) (vc vt vh ve:N):Prop where
 box:Ah W wb tW #[vc,vt,vh,ve]
 le:B<=wb
 pg:Dy W B vc vt d.p
 th:W.ownsRow B QD 6 vh d.ts.length (GK d.ts)
 ev:W.ownsRow B AJ 8 ve d.es.length (CR d.es)
theorem Wk.call{B:Nat}{W W':U}{d:Wd}{v u z ve:N}(h:Wk B n W d v u z ve)(a:Below W W W'):Wk B n W' d v u z ve:=
 ⟨h.box.below a h.box.lt,h.le,h.pg.keep (λb _ _ _ e=>a.block b (AB e)),AA h.th a,AA h.ev a⟩
theorem Wk.alloc{B:Nat}{W:U}{d:Wd}{v u z ve:N}(h:Wk B n W d v u z ve)(o:Obj):Wk B n (W.alloc o) d v u z ve:=h.call ((Ae _ _).alloc (Aa _) o)
theorem Wk.drewN{B:Nat}{W:U}{d:Wd}{v u z ve:N}(h:Wk B k W d v u z ve)(n:Nat):Wk B k (W.drewN n) d v u z ve:=⟨h.box,h.le,h.pg,h.th,h.ev⟩
theorem Wk.drew{B:Nat}{W:U}{d:Wd}{v u z ve:N}(h:Wk B n W d v u z ve):Wk B n W.drew d v u z ve:=⟨h.box,h.le,h.pg,h.th,h.ev⟩
theorem Wk.thAt{B:Nat}{W:U}{d:Wd}{v u z ve:N}(h:Wk B n W d v u z ve){t:Th}(g:d.ts[k]?=t):
 ∃a c,z=C (E ⟨a,0,O⟩) d.ts.length c/\B<=a/\a<W.heap.size/\k<d.ts.length/\d.ts.length<=c/\(∀b,b<6->W.cell? ⟨a,k*6+b,O⟩=(Cy t)[b]?)/\(∀e,W.frozen? ⟨a,e,O⟩=false):=by
 have j:=(Am.1 g).1;have i:=h.th;rcases h.th.2 with ⟨_,x⟩|⟨a,l,cur,m,o,p,q,_⟩
 .omega
 .subst m;refine⟨a,l,rfl,o,AB p,j,q,λb r=>?_,λe=>i.frozenAt e⟩;have w:=Fc Mt d.ts k t g b r;rw[i.cellAt (k*6+b) (by omega)];simpa[GK] using w
theorem Wk.setTh{B:Nat}{W:U}{d:Wd}{u z ve:N}(h:Wk B m W d u z (C g n c) ve){r:Nat}{t t':Th}{v:N}(l:d.ts[k]?=t)(o:r<6)(q:(Cy t').toList=(Cy t).toList.set r v):
 Wk B m (W.setCell ⟨g,k*6+r,O⟩ v) ⟨d.p,d.ts.set k t',d.es⟩ u z (C g n c) ve/\Below B W (W.setCell ⟨g,k*6+r,O⟩ v):=by
 let⟨G,b⟩:=Bm h.th (g:=g) rfl;have e:∀a,a≠g->(W.setCell ⟨g,k*6+r,O⟩ v).heap[a]?=W.heap[a]?:=λa w=>B3 W _ v a w
 have x:n=d.ts.length:=by
  rcases h.th.2 with ⟨i,_⟩|⟨a,L,cur,i,_⟩
  .cases i
  .injection i
 subst x;refine⟨⟨(e m (AQ h.box b (by decide))).trans h.box,h.le,h.pg.keep (λa y t' A j=>e a (AQ j b (RV A (.inr (.inl rfl))))),?_,AK h.ev (λa y _ j=>e a (AQ j b (by decide)))⟩,(Ae B W).setCell (p:=⟨g,k*6+r,O⟩) (Ai h.th (g:=g) rfl).1 v⟩;have D:=(I8 h.th (k*6+r) v).1;have F:GK (d.ts.set k t')=(GK d.ts).set (k*6+r) v:=Na Mt o d.ts k t l q;simp only[F,HL];exact D
theorem Wk.addEv{B:Nat}{W X:U}{d:Wd}{v u z ve y:N}{e:Ev}(h:Wk B n W d v u z ve)(t:X.ownsRow B AJ 8 y (d.es.length+1) (CR d.es++(Aj e).toList))(m:W.grownBy X ve.ownBlock):
 Wk B n (X.setCell ⟨n,3,O⟩ y) ⟨d.p,d.ts,d.es++[e]⟩ v u z y/\Below B W (X.setCell ⟨n,3,O⟩ y):=by
 have l:∀(a:Nat) (b:Array N) (g:Ab),g≠AJ->W.heap[a]?=E (K b g (0,0))->X.heap[a]?=W.heap[a]?:=λa b g j i=>m.block a (AB i) (λe=>by
  let⟨G,k⟩:=Bm h.ev e.symm;exact AQ i k j rfl)
 have o:X.heap[n]?=E (K #[v,u,z,ve] tW (0,0)):=(l n _ tW (by decide) h.box).trans h.box;have q:∀(a:Nat) (b:Array N) (g:Ab),g≠tW->X.heap[a]?=E (K b g (0,0))->(X.setCell ⟨n,3,O⟩ y).heap[a]?=X.heap[a]?:=λa b g j i=>B3 X ⟨n,3,O⟩ y a (AQ i o j);have r:∀(a:Nat) (b:Array N) (g:Ab),g≠AJ->g≠tW->W.heap[a]?=E (K b g (0,0))->(X.setCell ⟨n,3,O⟩ y).heap[a]?=W.heap[a]?:=λa b g k x i=>(q a b g x ((l a b g k i).trans i)).trans (l a b g k i);have A:B<=W.heap.size:=by have:=h.box.lt;have:=h.le;omega
 refine⟨⟨?_,h.le,h.pg.keep (λa b g j i=>r a b g (RV j (.inr (.inr rfl))) (RV j (.inl rfl)) i),AK h.th (λa b _ i=>r a b QD (by decide) (by decide) i),?_⟩,?_⟩
 .have:=Ah.put (w:=X) o 3 y;simpa using this
 .have D:CR (d.es++[e])=CR d.es++(Aj e).toList:=Pe _ _;simp only[D,Ef,List.length_singleton];exact AK t (λa b _ i=>q a b AJ (by decide) i)
 .exact((Ae B W).grown m A (λL F=>(Ai h.ev F).1)).setCell (p:=⟨n,3,O⟩) h.le y
theorem Wk.txsAt{B:Nat}{W:U}{d:Wd}{v u z ve:N}(h:Wk B n W d v u z ve){l:List (List Bb)}(g:d.p.threads[k]?=l):
 ∃a c i,u=C (E ⟨a,0,O⟩) d.p.threads.length c/\d.p.threads.length<=c/\W.cell? ⟨a,k,O⟩=E i/\GG W i l:=by
 have G:=(Am.1 g).1;let⟨_,b,k1,k2,k3,_,_⟩:=h.pg;have e:k<b.length:=by omega
 have j:b[k]?=b[k]:=An e;have m:=k1;rcases k1.2 with ⟨rfl,o⟩|⟨a,p,cur,rfl,L,M,S,_⟩
 .rw[o] at e;simp at e
 .refine⟨a,p,b[k],by rw[k2],by omega,?_,?_⟩
  .rw[m.cellAt k (by omega),j]
  .let⟨q,r,t,w⟩:=k3 k _ l j g;exact⟨q,BC r,t,λx y A D F=>QC (w x y A D F)⟩
theorem Wk.putEv{B:Nat}{X:U}{d:Wd}{v z y ve:N}{cs:Array N}(h:Wk B n X d v z y ve)(l:Ah X b AJ cs)(m:ve.ownBlock≠E b)(j:Nat)(u:N):Wk B n (X.setCell ⟨b,j,O⟩ u) d v z y ve:=by
 have i:∀(a:Nat) (cs:Array N) (e:Ab),e≠AJ->X.heap[a]?=E (K cs e (0,0))->(X.setCell ⟨b,j,O⟩ u).heap[a]?=X.heap[a]?:=λa cs e k g=>B3 X ⟨b,j,O⟩ u a (AQ g l k);exact⟨(i n _ tW (by decide) h.box).trans h.box,h.le,h.pg.keep (λa cs e k g=>i a cs e (RV k (.inr (.inr rfl))) g),AK h.th (λa cs _ g=>i a cs QD (by decide) g),Ak h.ev m u⟩
theorem Abp{B:Nat}{X:U}{d:Wd}{v u z ve:N}{cs:Array N}(h:Wk B n X d v u z ve)(l:Ah X b AJ cs)(y:cs.size=8)(a:ve.ownBlock≠E b)(e:B<=b)(a0 g a2 a3 a4 a5 i j:N):
 Wk B n ((((((((X.setCell b a0).setCell ⟨b,1,O⟩ g).setCell ⟨b,2,O⟩ a2).setCell ⟨b,3,O⟩ a3).setCell ⟨b,4,O⟩ a4).setCell ⟨b,5,O⟩ a5).setCell ⟨b,6,O⟩ i).setCell ⟨b,7,O⟩ j) d v u z ve/\Below B X ((((((((X.setCell b a0).setCell ⟨b,1,O⟩ g).setCell ⟨b,2,O⟩ a2).setCell ⟨b,3,O⟩ a3).setCell ⟨b,4,O⟩ a4).setCell ⟨b,5,O⟩ a5).setCell ⟨b,6,O⟩ i).setCell ⟨b,7,O⟩ j)/\Ah ((((((((X.setCell b a0).setCell ⟨b,1,O⟩ g).setCell ⟨b,2,O⟩ a2).setCell ⟨b,3,O⟩ a3).setCell ⟨b,4,O⟩ a4).setCell ⟨b,5,O⟩ a5).setCell ⟨b,6,O⟩ i).setCell ⟨b,7,O⟩ j) b AJ #[a0,g,a2,a3,a4,a5,i,j]:=by
 obtain⟨k,rfl⟩:∃k:List N,cs=k.toArray:=⟨cs.toList,by simp⟩
 match k,y with
 |[Z,aa,ab,ac,ad,ae,af,ag],_=>
  have m:=Ah.put l 0 a0;have A:=Wk.putEv h l a 0 a0;have o:=Ah.put m 1 g;have D:=Wk.putEv A m a 1 g;have q:=Ah.put o 2 a2;have F:=Wk.putEv D o a 2 a2;have r:=Ah.put q 3 a3;have G:=Wk.putEv F q a 3 a3;have t:=Ah.put r 4 a4;have L:=Wk.putEv G r a 4 a4;have w:=Ah.put t 5 a5;have M:=Wk.putEv L t a 5 a5;have x:=Ah.put w 6 i;have S:=Wk.putEv M w a 6 i;have W:=Ah.put x 7 j;have Y:=Wk.putEv S x a 7 j;refine⟨Y,?_,by simpa using W⟩;exact(((((((((Ae B X).setCell (p:=b) e _).setCell (p:=⟨b,1,O⟩) e _).setCell (p:=⟨b,2,O⟩) e _).setCell (p:=⟨b,3,O⟩) e _).setCell (p:=⟨b,4,O⟩) e _).setCell (p:=⟨b,5,O⟩) e _).setCell (p:=⟨b,6,O⟩) e _).setCell (p:=⟨b,7,O⟩) e _)
theorem J7(b:Nat)(X:U)(a0 a a2 a3 a4 a5 d e:N):Ay [b] X ((((((((X.setCell b a0).setCell ⟨b,1,O⟩ a).setCell ⟨b,2,O⟩ a2).setCell ⟨b,3,O⟩ a3).setCell ⟨b,4,O⟩ a4).setCell ⟨b,5,O⟩ a5).setCell ⟨b,6,O⟩ d).setCell ⟨b,7,O⟩ e):=
 (((((((((Ay.refl [b] X).setCell (p:=b) (.inl (by simp)) _).setCell (p:=⟨b,1,O⟩) (.inl (by simp)) _).setCell (p:=⟨b,2,O⟩) (.inl (by simp)) _).setCell (p:=⟨b,3,O⟩) (.inl (by simp)) _).setCell (p:=⟨b,4,O⟩) (.inl (by simp)) _).setCell (p:=⟨b,5,O⟩) (.inl (by simp)) _).setCell (p:=⟨b,6,O⟩) (.inl (by simp)) _).setCell (p:=⟨b,7,O⟩) (.inl (by simp)) _)
def C5(a:Nat)(b ve:N):List Nat:=a::(b.ownBlock.toList++ve.ownBlock.toList)
def BZ(W:U)(ve a:N):Prop:=a.ownBlock=ve.ownBlock∨∃b,a.ownBlock=E b/\W.heap.size<=b
theorem Zy{B:Nat}{W:U}{d:Wd}{v u z ve:N}(h:Wk B n W d v u z ve):∀x∈C5 n z ve,B<=x:=by
 intro x a;simp only[C5,B2,Eh,F0] at a;rcases a with rfl|a|a
 .exact h.le
 .exact(Ai h.th a).1
 .exact(Ai h.ev a).1
theorem Wk.only_below{B:Nat}{W W':U}{d:Wd}{v u z ve:N}(h:Wk B n W d v u z ve)(a:Ay (C5 n z ve) W W'):Below B W W':=
 a.below_of (by have:=h.le;have:=h.box.lt;omega) (Zy h)
theorem Zz(a:Nat)(b ve:N):a∈C5 a b ve:=by simp[C5]
theorem ZA{v ve:N}(h:ve.ownBlock=g):g∈C5 n v ve:=by simp[C5,h]
theorem ZB{v ve:N}(h:v.ownBlock=g):g∈C5 n v ve:=by simp[C5,h]
def Off(a:Nat)(b ve:N)(g:Nat):Prop:=g≠a/\b.ownBlock≠E g/\ve.ownBlock≠E g
theorem Off.notin{v ve:N}(h:Off n v ve g):g∉C5 n v ve:=by
 simp only[C5,B2,Eh,F0,not_or];exact h
theorem Off.step{v ve u:N}{W:U}(h:Off n v ve g)(d:g<W.heap.size)(a:BZ W ve u):Off n v u g:=by
 refine⟨h.1,h.2.1,λb=>?_⟩;rcases a with a|⟨e,a,i⟩
 .exact h.2.2<|a▸b
 .rw[a] at b;injection b with b;omega
theorem Ta{v ve u:N}{W:U}(b:BZ W ve u):∀x∈C5 n v u,x∈C5 n v ve∨W.heap.size<=x:=by
 intro x a;simp only[C5,B2,Eh,F0] at a|-;rcases a with rfl|a|a
 .exact .inl (.inl rfl)
 .exact .inl (.inr (.inl a))
 .rcases b with b|⟨d,b,e⟩
  .rw[b] at a;exact .inl (.inr (.inr a))
  .rw[b] at a;injection a with a;omega
theorem BZ.trans{W W':U}{ve v u:N}(h:BZ W ve v)(a:BZ W' v u)(e:W.heap.size<=W'.heap.size):BZ W ve u:=by
 rcases a with a|⟨b,a,d⟩
 .rcases h with h|⟨b,h,d⟩
  .exact .inl (a.trans h)
  .exact .inr ⟨b,a.trans h,d⟩
 .exact .inr ⟨b,a,by omega⟩
def Ba{α:Type}(n:Nat)(f:α->List N)(w:U)(v:N)(l:List α):Prop:=
 ∃(a:Option Addr) (c d e:Nat),v=C a l.length c/\(a=O->l.length=0/\c=0)/\(∀g,a=E g->0<l.length->g=⟨d,e,O⟩)/\l.length<=c/\
  ∀(i:Nat) (j:α),l[i]?=j->∀(b:Nat) (k:N),(f j)[b]?=k->b<n->w.cell? ⟨d,e+i*n+b,O⟩=k
section
variable {α:Type} {n:Nat} {f:α→List Value} {w w':World} {v:Value} {l:List α}
theorem Ba.nil(n:Nat)(f:α->List N)(w:U):Ba n f w (C O 0 0) []:=⟨O,0,0,0,rfl,(λ_=>⟨rfl,rfl⟩),(λ_ h=>by cases h),Aa _,(λa b h=>by simp at h)⟩
theorem Ba.of_cells(h:Ba n f w v l)(a:∀p u,w.cell? p=E u->w'.cell? p=E u):Ba n f w' v l:=by
 obtain⟨b,c,d,e,g,i,j,k,m⟩:=h;exact⟨b,c,d,e,g,i,j,k,λo q r t u x y=>a _ _ (m o q r t u x y)⟩
theorem Ba.below(h:Ba n f w v l)(b:Below w w w'):Ba n f w' v l:=h.of_cells λ_ _ a=>(b.cell (Ad w _ a)).trans a
theorem Ba.shape(h:Ba n f w v l):∃a c,v=C a l.length c:=by
 obtain⟨a,c,_,_,h,_⟩:=h;exact⟨a,c,h⟩
theorem Ba.at(h:Ba n f w (C A m c) l){x:α}(e:l[j]?=x):
 ∃a b,A=E ⟨a,b,O⟩/\j<m/\m<=c/\∀(d:Nat) (g:N),(f x)[d]?=g->d<n->w.cell? ⟨a,b+j*n+d,O⟩=g:=by
 obtain⟨u,v,a,b,i,k,o,y,p⟩:=h;injection i with q z r;subst q r;have B:=(Am.1 e).1
 cases A with
 |none=>exact absurd (k rfl).1 (by omega)
 |some t=>
  obtain rfl:=o t rfl (by omega);exact⟨a,b,rfl,by omega,by omega,p j x e⟩
theorem Ba.of_row{B:Nat}{t:Ab}{xs:List N}(h:w.ownsRow B t n v l.length xs)(j:∀a,(f a).length=n)(k:xs=l.flatMap f):Ba n f w v l:=by
 have m:=h;rcases h.2 with ⟨rfl,o⟩|⟨g,p,cur,rfl,D,F,q,_⟩
 .obtain rfl:l=[]:=EU o;exact Ba.nil n f w
 .refine⟨E g,p,g,0,rfl,λb=>(by cases b),λa b _=>(by injection b with b;exact b.symm),q,λd r i e G u x=>?_⟩;have y:=Fc j l d r i e x;have z:=(Am.1 i).1
  have A:d*n+e<l.length*n:=by
   have:(d+1)*n<=l.length*n:=Ny _ z;rw[E7] at this;omega
  rw[Ej,m.cellAt (d*n+e) A,k,y,u]
theorem Ba.take(h:Ba n f w (C A m c) l)(D:k<=l.length):Ba n f w (C A k c) (l.take k):=by
 obtain⟨F,G,d,e,g,i,j,L,o⟩:=h;injection g with p M q;subst p q;have r:(l.take k).length=k:=by rw[EH];omega
 refine⟨A,c,d,e,by rw[r],λa=>?_,λt a S=>j t a (by omega),by omega,λu v b x y z B=>?_⟩
 .have:=i a;exact⟨by omega,this.2⟩
 .have W:=(Am.1 b).1;rw[N5 (by omega)] at b;exact o u v b x y z B
theorem Ba.news(h:Ba n f w (C A m c) l)(i:∀a,(f a).length=n)(j:0<n):(A=O->l.length=0/\c=0)/\m=l.length/\∀d,A=E d->∀b e,(l.flatMap f)[b]?=E e->w.cell? (d.add b)=E e:=by
 obtain⟨M,S,W,X,u,v,x,Y,y⟩:=h;injection u with z B D;subst z D;refine⟨v,B,λd F b e k=>?_⟩;have o:=(Am.1 k).1;rw[DQ i] at o;have p:b/n<l.length:=by rw[OQ j];exact o
 have G:0<l.length:=H5 (A9 _) p;obtain rfl:=x d F G;obtain⟨g,q⟩:∃g,l[b/n]?=E g:=⟨l[b/n],An p⟩;have r:b%n<n:=OR _ j;have t:=Fc i l (b/n) g q (b%n) r;rw[I9 b n,k] at t;have L:=y (b/n) g q (b%n) e t.symm r;rw[EF,<-L,ID,I9 b n]
end
section
open Go.ChangeShapes Go.WideShapes
abbrev Tg:Ab:=300
abbrev QF:Ab:=303
abbrev Bu:Ab:=160
abbrev Di:Ab:=71
abbrev QG:Ab:=301
abbrev QH:Ab:=298
def Bl(d:Dd):Array N:= #[I J d.obj,I J d.op,I J d.key,I J d.val,I J d.ret,I J d.got,I J d.pos,I J d.back]
def BB(l:List Dd):List Value:=l.flatMap λa=>(Bl a).toList
def Co(s:St)(a:N):Array N:= #[I J s.id,I J s.thr,I J s.status,I J s.beg,I J s.fin,I J s.tri,a,I J s.stand]
structure Hd where
 b:Nat
 vd:Value
def Gu(b:Nat):N:=Q (E ⟨b,0,O⟩)
def C2(W:World)(g:Nat)(t:Ab):Prop:=∃a,W.heap[g]?=some (.cells a t (0,0))
theorem C2.of{W:U}{t:Ab}{cs:Array N}(h:Ah W g t cs):C2 W g t:=⟨cs,h⟩
theorem C2.row{W:U}{B size:Nat}{t:Ab}{v:N}{xs:List N}(h:W.ownsRow B t size v n xs)(a:v.ownBlock=g):C2 W g t:=Bm h a
theorem C2.ne{W:U}{t t':Ab}(h:C2 W g t)(a:C2 W n t')(b:t≠t'):g≠n:=by
 rintro rfl;obtain⟨d,h⟩:=h;obtain⟨e,a⟩:=a;rw[h] at a;injection a with a;injection a with _ a;exact b a
theorem C2.neMap{W:U}{t:Ab}{f:Int->Option N}(h:C2 W g t)(d:Az W b n f):b≠g:=by
 rintro rfl;obtain⟨e,h⟩:=h;let⟨i,c,a⟩:=d.obj;rw[h] at a
 cases a
structure DS (L:Nat) (W:World) (s:St) (h:Hd):Prop where
 le:L<=h.b
 blk:Ah W h.b QF (Co s h.vd)
 row:W.ownsRow L Bu 8 h.vd s.deeds.length (BB s.deeds)
structure FB (L:Nat) (W:U) (A:Au) (os:List Ob) (ab:Nat) (hs:List Hd) (vo vt:N) (m1 m2:Nat) (f2:Int->Option N):Prop where
 box:Ah W ab Tg #[vo,I J A.many,vt,.map (E m1),.map (E m2)]
 le:L<=ab
 ob:∃cs,W.ownsRow L Di 2 vo os.length cs/\∀(j:Nat) o,os[j]?=E o->cs[j*2]?=E (I J o.kind)
 tx:W.ownsRow L QG 1 vt A.sts.length (hs.map λh=>Gu h.b)
 len:hs.length=A.sts.length
 st:∀(i:Nat) s h,A.sts[i]?=E s->hs[i]?=E h->DS L W s h
 dif:∀(i j:Nat) h h',hs[i]?=E h->hs[j]?=E h'->i≠j->h.b≠h'.b/\∀g,h.vd.ownBlock=E g->h'.vd.ownBlock≠E g
 m1l:L<=m1
 m2l:L<=m2
 m12:m1≠m2
 byM:∃n f1,n<=A.many/\Az W m1 n f1/\(∀(i:Nat) s h,A.sts[i]?=E s->hs[i]?=E h->f1 s.id=E (Gu h.b))/\∀k,(∀s∈A.sts,s.id≠k)->f1 k=O
 buM:∃n,n<=A.many/\Az W m2 n f2
def Gw(A:Au)(e:List Hd)(a:Int->Option Value):Prop:=
 (∀(b:Nat) s h,A.sts[b]?=some s->e[b]?=some h->s.stand≠5->a s.thr=some (Gu h.b))/\∀d,(∀s∈A.sts,s.thr=d->s.stand=5)->a d=none
theorem DS.call{L:Nat}{W W':U}{s:St}{h:Hd}(a:DS L W s h)(b:Below W W W'):DS L W' s h:=⟨a.le,a.blk.below b a.blk.lt,AA a.row b⟩
theorem FB.call{L:Nat}{W W':U}{A:Au}{os:List Ob}{b:List Hd}{vo v:N}{F:Int->Option N}(h:FB L W A os n b vo v k g F)(a:Below W W W'):FB L W' A os n b vo v k g F:=by
 obtain⟨d,e,i⟩:=h.ob;obtain⟨j,l,m,o,p⟩:=h.byM;obtain⟨q,r,t⟩:=h.buM;exact⟨h.box.below a h.box.lt,h.le,⟨d,AA e a,i⟩,AA h.tx a,h.len,λu s w x y=>(h.st u s w x y).call a,h.dif,h.m1l,h.m2l,h.m12,⟨j,l,m,o.call a,p⟩,⟨q,r,t.call a⟩⟩
theorem FB.alloc{L:Nat}{W:U}{A:Au}{os:List Ob}{n:Nat}{a:List Hd}{vo v:N}{k g:Nat}{F:Int->Option N}(h:FB L W A os n a vo v k g F)(o:Obj):FB L (W.alloc o) A os n a vo v k g F:=h.call ((Ae _ _).alloc (Aa _) o)
theorem FB.drewN{L:Nat}{W:U}{A:Au}{os:List Ob}{n:Nat}{i:List Hd}{vo v:N}{g m:Nat}{F:Int->Option N}(h:FB L W A os n i vo v g m F)(k:Nat):FB L (W.drewN k) A os n i vo v g m F:=
 ⟨h.box,h.le,h.ob,h.tx,h.len,λa s b d e=>⟨(h.st a s b d e).le,(h.st a s b d e).blk,(h.st a s b d e).row⟩,h.dif,h.m1l,h.m2l,h.m12,h.byM,h.buM⟩
theorem FB.upd{L:Nat}{W W':U}{A:Au}{os:List Ob}{q:List Hd}{vo v:N}{F:Int->Option N}(h:FB L W A os n q vo v k g F){s s':St}{m:Hd}{u:N}(X:A.sts[i]?=s)(t:q[i]?=m){S:List Nat}
 (z:Ay S W W') (ad:∀x∈S,x=m.b∨m.vd.ownBlock=x) (ax:DS L W' s' ⟨m.b,u⟩) (B:BZ W m.vd u) (Af:s'.id=s.id):FB L W' ⟨A.many,A.sts.set i s'⟩ os n (q.set i ⟨m.b,u⟩) vo v k g F:=by
 have Y:=h.st i s m X t
 have am:∀x∈S,C2 W x QF∨C2 W x Bu:=λx p=>by
  rcases ad x p with rfl|a
  .exact .inl (C2.of Y.blk)
  .exact .inr (C2.row Y.row a)
 have ae:∀ {j:Nat} {af:Ab},C2 W j af->af≠QF->af≠Bu->j∉S:=λe ay az p=>by
  rcases am _ p with h|h
  .exact e.ne h ay rfl
  .exact e.ne h az rfl
 obtain⟨a0,an,a1⟩:=h.ob;obtain⟨D,a2,a3,a4,ao,a5⟩:=h.byM;obtain⟨a6,a7,a8⟩:=h.buM
 have ap:∀ {ag D:Nat} {f:Int->Option N},Az W ag D f->Az W' ag D f:=λ{ag D f} Z=>Z.at (z.block _ Z.lt λp=>by
  rcases am _ p with h|h
  .exact h.neMap Z rfl
  .exact h.neMap Z rfl)
 have ah:=(Am.1 X).1;have aa:=(Am.1 t).1
 have a9:((q.set i ⟨m.b,u⟩).map λh=>Gu h.b)=q.map λh=>Gu h.b:=by
  rw[List.map_set];refine List.ext_getElem? λd=>?_;rw[List.getElem?_set]
  split
  .rename_i a;subst a;have ba:=(Am.1 t).2;simp[aa,ba]
  .rfl
 refine⟨h.box.only z (ae (C2.of h.box) (by decide) (by decide)),h.le,⟨a0,BJ an z λj e=>ae (C2.row an e) (by decide) (by decide),a1⟩,?_,by simp[h.len],?_,?_,h.m1l,h.m2l,h.m12,⟨D,a2,a3,ap a4,?_,?_⟩,⟨a6,a7,ap a8⟩⟩
 .rw[a9];simp only[HL];exact BJ h.tx z λj e=>ae (C2.row h.tx e) (by decide) (by decide)
 .intro d w b o l;by_cases r:i=d
  .subst r;simp[ah] at o;simp[aa] at l;subst o l;exact ax
  .rw[Et r] at o l;have y:=h.st d w b o l;obtain⟨G,M⟩:=h.dif i d m b t l r;refine⟨y.le,y.blk.only z λp=>?_,BJ y.row z λj e p=>?_⟩
   .rcases ad _ p with a|a
    .exact G a.symm
    .exact(C2.of y.blk).ne (C2.row Y.row a) (by decide) rfl
   .rcases ad _ p with a|a
    .subst a;exact(C2.row y.row e).ne (C2.of Y.blk) (by decide) rfl
    .exact M j a e
 .intro d bb b bg o l ab;have ai:∀(d:Nat) b,(q.set i ⟨m.b,u⟩)[d]?=E b->d≠i->q[d]?=E b:=λd b a ac=>by rwa [Et (Eu ac)] at a
  have aq:∀b,(q.set i ⟨m.b,u⟩)[i]?=E b->b=⟨m.b,u⟩:=λb a=>by simp[aa] at a;exact a.symm
  have ar:∀(d:Nat) b j,q[d]?=E b->b.vd.ownBlock=E j->j<W.heap.size:=λd b j a e=>by
   have bc:=(Am.1 a).1;obtain⟨w,bd⟩:∃w,A.sts[d]?=E w:=⟨A.sts[d]'(by rw[<-h.len];exact bc),An _⟩;exact(Ai (h.st d w b bd a).row e).2
  by_cases ac:d=i
  .subst ac;obtain rfl:=aq _ o;have au:=ai _ _ l<|Eu ab;obtain⟨G,M⟩:=h.dif _ _ _ _ t au ab;refine⟨G,λj e a=>?_⟩;rcases B with B|⟨be,aj,bf⟩
   .exact M j (B▸e) a
   .rw[aj] at e;injection e with e;have:=ar _ _ _ au a;omega
  .have ak:=ai _ _ o ac;by_cases av:bb=i
   .subst av;obtain rfl:=aq _ l;obtain⟨G,M⟩:=h.dif _ _ _ _ ak t ab;refine⟨G,λj e a=>?_⟩;rcases B with B|⟨be,aj,bf⟩
    .exact M j e<|B▸a
    .have al:u.ownBlock=j:=a;rw[aj] at al;injection al with al;have:=ar _ _ _ ak e;omega
   .exact h.dif _ _ _ _ ak (ai _ _ l av) ab
 .intro d w b o l;by_cases r:i=d
  .subst r;simp[ah] at o;simp[aa] at l;subst o l;rw[Af];exact ao i s m X t
  .rw[Et r] at o l;exact ao d w b o l
 .intro y aw;refine a5 y λx p=>?_;obtain⟨d,b⟩:=E8 p;by_cases r:i=d
  .subst r;rw[X] at b;injection b with b;subst b;rw[<-Af];exact aw s'<|Ap (i:=i) (by simp[ah])
  .exact aw x<|Ap (i:=d) (by rw[Et r];exact b)
theorem FB.more{L:Nat}{W:World}{A:Au}{os:List Ob}{n:Nat}{b:List Hd}{vo v:Value}{k g:Nat}{F:Int→Option Value}(h:FB L W A os n b vo v k g F):FB L (W.setCell ⟨n,1,none⟩ (.int .i64 ((A.many:Int)+1))) ⟨A.many+1,A.sts⟩ os n b vo v k g F:=by
 obtain⟨i,d,j⟩:=h.ob
 obtain⟨l,m,o,q,r⟩:=h.byM
 obtain⟨t,u,w⟩:=h.buM
 have e:W.cell? ⟨n,1,none⟩=some (.int .i64 A.many):=h.box.cell 1
 refine⟨?_,h.le,⟨i,Ak d (p:=⟨n,1,none⟩) (h.box.apartRow d (by decide)) _,j⟩,Ak h.tx (p:=⟨n,1,none⟩) (h.box.apartRow h.tx (by decide)) _,h.len,fun x s y z B=>?_,h.dif,h.m1l,h.m2l,h.m12,⟨l,m,OS o,q.setCell e,r⟩,⟨t,OS u,w.setCell e⟩⟩
 ·have:=h.box.put 1 (.int .i64 ((A.many:Int)+1))
  simpa using this
 ·have a:=h.st x s y z B
  exact⟨a.le,a.blk.far (p:=⟨n,1,none⟩) (a.blk.apart h.box (by decide)) _,Ak a.row (p:=⟨n,1,none⟩) (h.box.apartRow a.row (by decide)) _⟩
theorem FB.drop{L:Nat}{W W':U}{A:Au}{os:List Ob}{p:List Hd}{vo v:N}{F q:Int->Option N}(h:FB L W A os k p vo v g m F)(u:n<=A.many)(w:Az W' m n q)(x:W.mapTurned W' m):FB L W' A os k p vo v g m q:=by
 obtain⟨y,z,B⟩:=h.ob;obtain⟨D,G,M,X,Y⟩:=h.byM;obtain⟨ag,ah,Z⟩:=h.buM;have e:=x.grown
 have K:∀ {i:Nat} {b:Ab},C2 W i b->E i≠E m:=λaa a=>by
  injection a with a;exact aa.neMap Z a.symm
 have R:∀ {j n size:Nat} {b:Ab} {l:N} {o:List N},W.ownsRow j b size l n o->W'.ownsRow j b size l n o:=λ{j n size b l o} r=>
  BJ r (S:=[m]) ((Ay.refl [m] W).grown e (λd a=>by injection a with a;subst a;exact .inl (by simp))) (λi ab t=>by
   simp at t;exact K (C2.row r ab) (by rw[t]))
 refine⟨h.box.grown e (K (C2.of h.box)),h.le,⟨y,R z,B⟩,R h.tx,h.len,λac s ad ae af=>?_,h.dif,h.m1l,h.m2l,h.m12,⟨D,G,M,X.grown e (λa=>h.m12 (by injection a)),Y⟩,⟨n,u,w⟩⟩;have d:=h.st ac s ad ae af;exact⟨d.le,d.blk.grown e (K (C2.of d.blk)),R d.row⟩
end
def DD{α:Type}(n:Nat)(R:U->α->List N->Prop)(w:U)(v:N)(l:List α):Prop:=
 ∃a:List (List N),a.length=l.length/\Ba n id w v a/\∀(d:Nat) (e:α) (b:List N),l[d]?=e->a[d]?=b->b.length=n/\R w e b
def RY{α:Type}(R:U->α->List N->Prop):Prop:=∀(w w':U) (a:α) (b:List N),Below w w w'->R w a b->R w' a b
section
variable {α:Type} {n:Nat} {R:World→α→List Value→Prop} {w w':World} {v:Value} {l:List α}
theorem DD.nil(n:Nat)(R:U->α->List N->Prop)(w:U):DD n R w (C O 0 0) []:=⟨[],rfl,Ba.nil n id w,(λa b d h=>by simp at h)⟩
theorem DD.below(k:RY R)(h:DD n R w v l)(a:Below w w w'):DD n R w' v l:=by
 obtain⟨m,o,p,b⟩:=h;exact⟨m,o,p.below a,λd e g i j=>⟨(b d e g i j).1,k _ _ _ _ a (b d e g i j).2⟩⟩
theorem DD.shape(h:DD n R w v l):∃a c,v=C a l.length c:=by
 obtain⟨g,b,d,_⟩:=h;let⟨a,c,e⟩:=d.shape;exact⟨a,c,by rw[e,b]⟩
theorem DD.at(h:DD n R w (C A m c) l){x:α}(i:l[j]?=x):
 ∃b d a,A=E ⟨b,d,O⟩/\j<m/\m<=c/\m=l.length/\a.length=n/\R w x a/\∀(e:Nat) (g:N),a[e]?=g->w.cell? ⟨b,d+j*n+e,O⟩=g:=by
 obtain⟨k,B,o,t⟩:=h;have D:=(Am.1 i).1;obtain⟨a,p⟩:∃a,k[j]?=E a:=⟨k[j]'(by omega),An _⟩;let⟨b,d,u,v,y,z⟩:=o.at p;let⟨k1,k2⟩:=t j x a i p;let⟨F,G,q⟩:=o.shape;injection q with _ q _;refine⟨b,d,a,u,v,y,by omega,k1,k2,λe g r=>z e g r ?_⟩;have:=(Am.1 r).1;omega
theorem DD.of_row{B:Nat}{t:Ab}{rows:List (List N)}(h:w.ownsRow B t n v l.length rows.flatten)(m:rows.length=l.length)(j:∀(a:Nat) (x:α) (d:List N),l[a]?=x->rows[a]?=d->d.length=n/\R w x d)(u:∀d∈rows,d.length=n):DD n R w v l:=by
 refine⟨rows,m,?_,j⟩;have Y:rows.flatten=rows.flatMap id:=by simp[N9]
 have h:=h;rw[<-m] at h;rcases h.2 with ⟨rfl,y⟩|⟨o,z,cur,rfl,Z,aa,A,_⟩
 .obtain rfl:rows=[]:=EU y;exact Ba.nil n id w
 .refine⟨E o,z,o,0,rfl,λi=>(by cases i),λp i _=>(by injection i with i;exact i.symm),A,λa x e b D k F=>?_⟩
  have G:∀(g:List (List N)),(∀d∈g,d.length=n)->∀(a:Nat) (x:List N),g[a]?=x->∀b,b<n->(g.flatten)[a*n+b]?=x[b]?:=by
   intro g
   induction g with
   |nil=>intro _ a x e;simp at e
   |cons p g L=>
    intro q a x e b j;have r:=q p (by simp)
    cases a with
    |zero=>
     simp at e;subst e;rw[HP,Ek (by omega)];simp
    |succ a=>
     rw[HP,EW (by rw[r,E7];omega)];rw[r,show(a+1)*n+b-n=a*n+b by rw[E7];omega];exact L (λd k=>q d (by simp[k])) a x (by simpa using e) b j
  have M:=G rows u a x e b F;have S:=(Am.1 e).1
  have W:a*n+b<rows.length*n:=by
   have:(a+1)*n<=rows.length*n:=Ny _ S;rw[E7] at this;omega
  have X:x[b]?=D:=k;rw[Ej,h.cellAt (a*n+b) W,M,X]
theorem DD.cells(h:DD n R w (C A m c) l)(z:0<n):(A=O->l.length=0/\c=0)/\m=l.length/\∃g:List (List N),g.length=l.length/\(∀(a:Nat) (d:α) (b:List N),l[a]?=d->g[a]?=b->b.length=n/\R w d b)/\∀q,A=E q->∀a r,g.flatten[a]?=E r->w.cell? (q.add a)=E r:=by
 obtain⟨g,t,M,B⟩:=h
 have D:∀b∈g,b.length=n:=by
  intro b i;let⟨a,j⟩:=E8 i;have v:=(Am.1 j).1;exact(B a _ b (An (by omega)) j).1
 obtain⟨af,ag,ah,ai,o,S,W,aj,X⟩:=M;injection o with Y Z aa;subst Y Z aa;refine⟨λo=>by have:=S o;omega,by omega,g,t,B,λq o a r i=>?_⟩
 have ab:∀(e:List (List N)),(∀b∈e,b.length=n)->e.flatten.length=e.length*n:=by
  intro e
  induction e with
  |nil=>intro _;simp
  |cons x e y=>intro p;rw[HP,Ef,y (λb i=>p b (by simp[i])),p x (by simp),C4,E7];omega
 have ac:∀(e:List (List N)),(∀b∈e,b.length=n)->∀(a:Nat) (d:List N),e[a]?=d->∀k,k<n->(e.flatten)[a*n+k]?=d[k]?:=by
  intro e
  induction e with
  |nil=>intro _ a d j;simp at j
  |cons x e y=>
   intro p a d j k u;have F:=p x (by simp)
   cases a with
   |zero=>
    simp at j;subst j;rw[HP,Ek (by omega)];simp
   |succ a=>
    rw[HP,EW (by rw[F,E7];omega)];rw[F,show(a+1)*n+k-n=a*n+k by rw[E7];omega];exact y (λb i=>p b (by simp[i])) a d (by simpa using j) k u
 have v:=(Am.1 i).1;rw[ab g D] at v;have G:a/n<g.length:=by rw[OQ z];exact v
 have ad:0<g.length:=H5 (A9 _) G;obtain rfl:=W q o ad;obtain⟨d,L⟩:∃d,g[a/n]?=E d:=⟨g[a/n],An G⟩;have u:a%n<n:=OR _ z;have t:=ac g D (a/n) d L (a%n) u;rw[I9 a n,i] at t;have ae:=X (a/n) d L (a%n) r t.symm u;rw[EF,<-ae,ID,I9 a n]
end
def FH(n:Int):List N:=[n]
def AN(p:Int×Int):List N:=[p.1,p.2]
def Qj(d:Dd):List N:=(Bl d).toList
def Du(w:U)(b:Nat)(t:Ab):Prop:=∃(a:Array N) (d:Nat×Nat),w.heap[b]?=E (K a t d)
theorem Du.lt{w:U}{t:Ab}(h:Du w b t):b<w.heap.size:=by
 obtain⟨a,d,h⟩:=h;exact(Array.getElem?_eq_some_iff.1 h).1
def Hu(t:Ab)(w:U)(v:N):Prop:=∀(a d b c:Nat),v=C (E ⟨a,d,O⟩) b c->0<b->Du w a t
def AD(t:Ab)(w w':U):Prop:=∀a:Nat,Du w a t->w'.heap[a]?=w.heap[a]?
section
variable {α:Type} {n:Nat} {t:TypeId} {f:α→List Value} {w w':World} {v:Value} {l:List α}
theorem Hu.zero(t:Ab)(w:U)(A:Option Addr)(c:Nat):Hu t w (C A 0 c):=λb d e c a h=>by injection a;omega
theorem Hu.of_heap(h:Hu t w v)(i:AD t w w'):Hu t w' v:=by
 intro a b d c e g;let⟨j,k,l⟩:=h a b d c e g;exact⟨j,k,(i a (h a b d c e g)).trans l⟩
theorem AD.below(a:Below w w w'):AD t w w':=λb h=>a.block b h.lt
theorem Hu.below(h:Hu t w v)(a:Below w w w'):Hu t w' v:=h.of_heap (AD.below a)
theorem Hu.set(h:Hu t w v)(p:Addr)(u:N):Hu t (w.setCell p u) v:=by
 intro a g i c j k;let⟨l,b,d⟩:=h a g i c j k;by_cases e:a=p.block
 .subst e;exact⟨_,b,by simp[Gh,Array.getElem?_modify,d];rfl⟩
 .exact⟨l,b,(B3 w p u a e).trans d⟩
theorem Hu.of_row{B size:Nat}{xs:List N}(h:w.ownsRow B t size v m xs):Hu t w v:=by
 intro d e m c a g;rcases h.2 with ⟨rfl,_⟩|⟨i,j,cur,rfl,_,b,_⟩
 .cases a
 .injection a with a;injection a with a;injection a with a;subst a;exact⟨_,_,b⟩
theorem Hu.sub{o o' m' c':Nat}(h:Hu t w (C (E ⟨b,o,O⟩) m c))(d:0<m):Hu t w (C (E ⟨b,o',O⟩) m' c'):=by
 intro e g i j a _;injection a with a;injection a with a;injection a with a;subst a;exact h b o m c rfl d
def Cc(t:Ab)(n:Nat)(f:α->List N)(w:U)(v:N)(l:List α):Prop:=Ba n f w v l/\Hu t w v
theorem Cc.nil(t:Ab)(n:Nat)(f:α->List N)(w:U):Cc t n f w (C O 0 0) []:=⟨Ba.nil n f w,Hu.zero t w _ _⟩
theorem Cc.below(h:Cc t n f w v l)(a:Below w w w'):Cc t n f w' v l:=⟨h.1.below a,h.2.below a⟩
theorem Cc.shape(h:Cc t n f w v l):∃a c,v=C a l.length c:=h.1.shape
theorem Cc.at(h:Cc t n f w (C A m c) l){x:α}(g:l[j]?=x):
 ∃b d,A=E ⟨b,d,O⟩/\j<m/\m<=c/\∀(a:Nat) (e:N),(f x)[a]?=e->a<n->w.cell? ⟨b,d+j*n+a,O⟩=e:=h.1.at g
theorem Hu.blk{o:Nat}(h:Hu t w (C (E ⟨g,o,O⟩) m c))(b:w'.heap[g]?=w.heap[g]?):Hu t w' (C (E ⟨g,o,O⟩) m c):=by
 intro d e i j a k;let⟨l,n,p⟩:=h d e i j a k;injection a with a;injection a with a;injection a with a;subst a;exact⟨l,n,b.trans p⟩
theorem Cc.of_row{B:Nat}{xs:List N}(h:w.ownsRow B t n v l.length xs)(b:∀a,(f a).length=n)(d:xs=l.flatMap f):Cc t n f w v l:=⟨Ba.of_row h b d,Hu.of_row h⟩
theorem Ba.of_ty(h:Ba n f w v l)(o:Hu t w v)(p:AD t w w'):Ba n f w' v l:=by
 obtain⟨e,c,b,d,rfl,g,i,q,r⟩:=h;refine⟨e,c,b,d,rfl,g,i,q,λj u k m x y z=>?_⟩;have B:=(Am.1 k).1
 cases e with
 |none=>exact absurd (g rfl).1 (by omega)
 |some A=>
  obtain rfl:=i A rfl (by omega);rw[HH (a:=⟨b,d+j*n+m,O⟩) (p b (o b d _ c rfl (by omega)))];exact r j u k m x y z
theorem Cc.of_ty(h:Cc t n f w v l)(a:AD t w w'):Cc t n f w' v l:=⟨h.1.of_ty h.2 a,h.2.of_heap a⟩
end
abbrev Cv:Ab:=3
abbrev AZ:Ab:=306
abbrev BN:Ab:=394
abbrev Kb:Ab:=137
def Jz(w:U)(s:AO)(d:List N):Prop:=∃a b,d=[I J s.kind,I J s.num,a,b]/\Cc Cv 1 FH w a s.q/\Cc BN 2 AN w b s.ps
theorem Jz.keeps:RY Jz:=fun _ _ _ _ a ⟨b,d,e,g,i⟩=>⟨b,d,e,g.below a,i.below a⟩
def CH(w:U)(v:N)(l:List AO):Prop:=DD 4 Jz w v l/\Hu AZ w v
theorem CH.below{w w':U}{v:N}{l:List AO}(h:CH w v l)(a:Below w w w'):CH w' v l:=⟨DD.below Jz.keeps h.1 a,h.2.below a⟩
theorem CH.shape{w:U}{v:N}{l:List AO}(h:CH w v l):∃a c,v=C a l.length c:=DD.shape h.1
def Br(w w':U):Prop:=AD Cv w w'/\AD BN w w'/\AD AZ w w'
theorem Jz.kept{w w':World}{s:AO}{q:List Value}(h:Jz w s q)(a:Br w w'):Jz w' s q:=by
 obtain⟨b,d,e,g,i⟩:=h;exact⟨b,d,e,g.of_ty a.1,i.of_ty a.2.1⟩
theorem CH.kept{w w':U}{v:N}{l:List AO}(h:CH w v l)(a:Br w w'):CH w' v l:=by
 obtain⟨⟨m,n,o,b⟩,d⟩:=h;exact⟨⟨m,n,o.of_ty d a.2.2,λe g i j k=>⟨(b e g i j k).1,(b e g i j k).2.kept a⟩⟩,d.of_heap a.2.2⟩
def D3(w:U)(s:St)(b:List N):Prop:=∃a,b=[I J s.id,I J s.thr,I J s.status,I J s.beg,I J s.fin,I J s.tri,a]/\Ba 8 Qj w a s.deeds
theorem D3.keeps:RY D3:=fun _ _ _ _ a ⟨b,d,e⟩=>⟨b,d,e.below a⟩
abbrev PrV(w:U)(v:N)(ps:List (Int×Int)):Prop:=Ba 2 AN w v ps
theorem R2(a b key:Int)(d:0<=a/\a<=1000)(e:0<=key/\key<=1000)(w:U):
 Calls prog 359 #[.agg #[a,b],key] w λg i=>g=R (I J (a-key))/\Below w w i:=by
 have l:IntKind.i64.wrap (a-key)=a-key:=by rw[Ey];omega
 have j:=Af<|Zc w (K #[a,b] BN);have k:=Af<|Ah.new w BN #[a,b];have m:=k.o.cell 0;go_in;go_wp2;go_ret;exact⟨rfl,j⟩
theorem Tk{i j h n:Nat}(d:h=(i+j)/2)(e:i<j)(g:j<=n)(k:n<=1000000):
 decide (i<j)=true/\IntKind.i64.wrap ((i:Int)+(j:Int))=(i:Int)+(j:Int)/\wrap64 (IntKind.u64.wrap ((i:Int)+(j:Int))/2)=(h:Int)/\(0:Int)<=(h:Int)/\(h:Int)<(n:Int)/\IntKind.i64.wrap ((h:Int)+1)=(h:Int)+1:=by
 refine⟨by simp;omega,by rw[Ey];omega,?_,by omega,by omega,by rw[Ey];omega⟩;have a:IntKind.u64.wrap ((i:Int)+(j:Int))=(i:Int)+(j:Int):=by rw[UQ];omega
 have b:((i:Int)+(j:Int))/2=(h:Int):=by omega
 rw[a,b];have:=Ey (n:=(h:Int));unfold wrap64;omega
theorem AbZ{w:U}{v:N}{ps:List (Int×Int)}{key:Int}(aa:PrV w v ps)(ai:∀aj∈ps,0<=aj.1/\aj.1<=1000)(ak:0<=key/\key<=1000)(al:ps.length<=1000000):
 Calls prog 358 #[v,I J key,.func (.func 359) #[] #[]] w λz a0=>z=R (.tuple #[I J (AL ps key),T (B5 ps key).isSome])/\Below w.heap.size w a0:=by
 obtain⟨a7,c,rfl⟩:=aa.shape;have am:=Af aa;have an:=Af ai;have ao:=Af ak;have a1:=Af al;clear aa ai ak al;go_in;go_wp2
 go_loopw [9,10] (λab ac wr=>∃a d f:Nat,ab=I J a/\ac=I J d/\a<=d/\d<=ps.length/\d-a<f/\J9 ps key f a d=AL ps key/\Below w.heap.size w wr) (λab ac _=>(intOf ac-intOf ab).toNat)
 case atStart=>exact⟨0,ps.length,ps.length+1,rfl,rfl,A9 _,Aa _,by omega,rfl,Ae _ _⟩
 case round=>
  obtain⟨a,d,f,rfl,rfl,A,j,B,D,g⟩:=hrel;have k:=Af g;have ap:=Af D;have a2:=Af B;by_cases q:a<d
  .obtain⟨h,F⟩:∃h,h=(a+d)/2:=⟨_,rfl⟩;have G:a<=h:=by omega
   have aq:h<d:=by omega
   obtain⟨b,e⟩:∃b,ps[h]?=E b:=⟨ps[h]'(by omega),An _⟩;obtain⟨l,x,ad,_,L,m⟩:=am.o.at e;subst ad;have n:=m 0 (I J b.1) rfl (by omega);have o:=m 1 (I J b.2) rfl (by omega);have r:wr.cell? ⟨l,x+h*2,O⟩=E (I J b.1):=(g.cell (Ad w _ n)).trans n;have M:wr.cell? ⟨l,x+h*2+1,O⟩=E (I J b.2):=(g.cell (Ad w _ o)).trans o;have p:=Af (λw=>R2 b.1 b.2 key (an.o b (Ap e)) ao.o w)
   have S:=Af (show J9 ps key f a d=if b.1<key then J9 ps key (f-1) (h+1) d else J9 ps key (f-1) a h by
    cases f with
    |zero=>omega
    |succ f=>rw[J9,if_pos q,<-F,e];rfl)
   have W:l<wr.heap.size:=Ad wr _ r;clear e m n o g D;have t:Hid ((d-(h+1)<f-1/\h+1<=d/\h<=ps.length/\h-a<f-1)/\((((d:Nat):Int)-((h:Int)+1)).toNat<(((d:Nat):Int)-(a:Int)).toNat/\(((h:Nat):Int)-(a:Int)).toNat<(((d:Nat):Int)-(a:Int)).toNat)):=Af (by omega);have X:=Af<|Tk F q j a1.o;by_cases Y:b.1<key
   .have a3:decide (b.1-key<0)=true:=by simp;omega
    have ae:Hid (J9 ps key (f-1) (h+1) d=AL ps key):=Af (by rw[<-ap.o,S.o,if_pos Y]);obtain⟨ar,af,a4,au,av,a5⟩:=X.o;have aw:=Af j;have ax:=Af G;clear Y F q B S X A j G aq L;go_wp2_with fail;refine(p.o _).mono ?_;rintro z ay ⟨rfl,i⟩;have y:=Af<|k.o.trans (i.mono k.o.size);clear i r M p W;go_wp2
    go_roundw
    case rel=>exact⟨h+1,d,f-1,by go_num,rfl,t.o.1.2.1,aw.o,t.o.1.1,ae.o,y.o⟩
    case measure=>exact t.o.2.1
   .have a3:decide (b.1-key<0)=false:=by simp;omega
    have ae:Hid (J9 ps key (f-1) a h=AL ps key):=Af (by rw[<-ap.o,S.o,if_neg Y]);obtain⟨ar,af,a4,au,av,a5⟩:=X.o;have aw:=Af j;have ax:=Af G;clear Y F q B S X A j G aq L;go_wp2_with fail;refine(p.o _).mono ?_;rintro z ay ⟨rfl,i⟩;have y:=Af<|k.o.trans (i.mono k.o.size);go_wp2
    go_roundw
    case rel=>exact⟨a,h,f-1,rfl,rfl,ax.o,t.o.1.2.2.1,t.o.1.2.2.2,ae.o,y.o⟩
    case measure=>exact t.o.2.2
  ·
   obtain rfl:a=d:=by omega
   have u:AL ps key=a:=by
    rw[<-D]
    cases f with
    |zero=>omega
    |succ f=>rw[J9,if_neg q]
   have ar:decide (a<a)=false:=by simp
   by_cases Z:a<ps.length
   .obtain⟨b,e⟩:∃b,ps[a]?=E b:=⟨ps[a],An _⟩;obtain⟨l,x,ad,_,L,m⟩:=am.o.at e;subst ad;have n:=m 0 (I J b.1) rfl (by omega);have o:=m 1 (I J b.2) rfl (by omega);have r:wr.cell? ⟨l,x+a*2,O⟩=E (I J b.1):=(g.cell (Ad w _ n)).trans n;have M:wr.cell? ⟨l,x+a*2+1,O⟩=E (I J b.2):=(g.cell (Ad w _ o)).trans o;have W:l<wr.heap.size:=Ad wr _ r;have au:(0:Int)<=(a:Int):=by omega
    have av:(a:Int)<(ps.length:Int):=by omega
    have af:decide (a<ps.length)=true:=by simpa using Z
    have p:=Af (λw=>R2 b.1 b.2 key (an.o b (Ap e)) ao.o w)
    have ag:=Af (show(B5 ps key).isSome=(b.1-key==0) by
     unfold B5;rw[u,e];by_cases az:b.1=key
     .simp[az]
     .have a6:¬b.1-key=0:=by omega
      simp[az,a6])
    have ah:=Af u;go_wp2_with fail;refine(p.o _).mono ?_;rintro z ay ⟨rfl,i⟩;have y:=Af<|k.o.trans (i.mono k.o.size);go_wp2;go_ret2;exact⟨by rw[ah.o,ag.o];rfl,y.o⟩
   .have af:decide (a<ps.length)=false:=by simpa using Z
    have ag:=Af (show(B5 ps key).isSome=false by
     unfold B5;rw[u,List.getElem?_eq_none (by omega)];rfl)
    have ah:=Af u;go_wp2;go_ret2;exact⟨by rw[ah.o,ag.o];rfl,k.o⟩
def Gj(w:U)(v:N)(s:AO):Prop:=∃a b d e,v=.agg #[s.kind,s.num,C a s.q.length b,C d s.ps.length e]/\Cc Cv 1 FH w (C a s.q.length b) s.q/\Cc BN 2 AN w (C d s.ps.length e) s.ps
theorem Gj.below{w w':U}{v:N}{s:AO}(h:Gj w v s)(a:Below w w w'):Gj w' v s:=by
 obtain⟨b,d,e,g,i,j,k⟩:=h;exact⟨b,d,e,g,i,j.below a,k.below a⟩
theorem Lr{w:U}{v:N}{s:AO}{key:Int}(q:Gj w v s)(a:∀b∈s.ps,0<=b.1/\b.1<=1000)(d:0<=key/\key<=1000)(e:s.ps.length<=1000000):
 Calls prog 317 #[v,I J key] w λg r=>g=R (.tuple #[I J (AL s.ps key),T (B5 s.ps key).isSome])/\Below w.heap.size w r:=by
 obtain⟨i,j,k,l,rfl,_,m⟩:=q;have n:=Af<|Zc w (K #[I J s.kind,I J s.num,C i s.q.length j,C k s.ps.length l] AZ);have t:=Af<|Ah.new w AZ #[I J s.kind,I J s.num,C i s.q.length j,C k s.ps.length l];have u:=t.o.cell 3;have o:=Af<|AbZ (m.below n.o).1 a d e;go_in;go_wp2_with fail;refine o.o.mono ?_;rintro g y ⟨rfl,p⟩;have x:=Af<|n.o.trans (p.mono (by simp));go_wp2;go_ret2;exact⟨rfl,x.o⟩
theorem Wg{w:U}{v:N}{s:AO}{key:Int}(o:Gj w v s)(p:∀k∈s.ps,0<=k.1/\k.1<=1000)(q:0<=key/\key<=1000)(r:s.ps.length<=1000000):
 Calls prog 320 #[v,I J key] w λl Y=>l=R (.tuple (match B5 s.ps key with|some i=> #[I J 3,I J i]|none=> #[I J 2,I J 0]))/\Below w.heap.size w Y:=by
 have t:=o;obtain⟨u,x,y,z,rfl,Z,A⟩:=o;have j:=Af<|Zc w (K #[I J s.kind,I J s.num,C u s.q.length x,C y s.ps.length z] AZ);have a:=Af<|Ah.new w AZ #[I J s.kind,I J s.num,C u s.q.length x,C y s.ps.length z];have B:=a.o.cell 0;have D:=a.o.cell 1;have F:=a.o.cell 2;have G:=a.o.cell 3;have e:=Af<|Lr (t.below j.o) p q r;have aa:=Af<|A.below j.o
 cases g:B5 s.ps key with
 |some i=>
  rw[g] at e;have b:=g;unfold B5 at b
  split at b
  case h_1 k L=>
   split at b
   case isTrue ab=>
    injection b with b;obtain⟨M,ac,ad,ae,af,S⟩:=aa.o.at L;subst ad;have W:=S 1 (I J i) (by rw[<-b];rfl) (by omega);have X:=Af W;have ak:(0:Int)<=(AL s.ps key:Int):=by omega
    have al:(AL s.ps key:Int)<(s.ps.length:Int):=by omega
    go_in;have ag:=a.o.cell 0;have ah:=a.o.cell 1;have ai:=a.o.cell 2;go_wp2_with fail;refine e.o.mono ?_;rintro l m ⟨rfl,d⟩;have n:=Af<|j.o.trans (d.mono (by simp));have am:=(a.o.below d (by simp)).cell 3;have an:=(a.o.below d (by simp)).lt;have aj:m.cell? ⟨M,ac+AL s.ps key*2+1,O⟩=E (I J i):=(d.cell (Ad _ _ X.o)).trans X.o;have ao:M<m.heap.size:=Ad _ _ aj;go_wp2;go_quiet (fail);go_wp2;go_ret2;exact⟨rfl,below_drewN n.o _⟩
   case isFalse=>cases b
  case h_2=>cases b
 |none=>
  rw[g] at e;go_in;go_wp2_with fail;refine e.o.mono ?_;rintro l m ⟨rfl,d⟩;have n:=Af<|j.o.trans (d.mono (by simp));go_wp2;go_ret2;exact⟨rfl,n.o⟩
theorem Kc(d:Func){t:Ab}(hF:d.results= #[.cell i t,.tmp j,.tmp k])(l:t=AZ)(tmps:Array N)(W:U)(g:Nat)(a0 e a2 a3 b c:N)(m:tmps.getD i Ac=g)(n:tmps.getD j Ac=b)(o:tmps.getD k Ac=c)(a:Ah W g AZ #[a0,e,a2,a3]):
 (As d tmps).run prog W=.ok (.tuple #[.agg #[a0,e,a2,a3],b,c]) W:=by
 subst l;have p:=a.cell 0;have q:=a.cell 1;have r:=a.cell 2;have u:=a.cell 3;have v:tmps[i]?.getD Ac=g:=by simpa using m
 have w:tmps[j]?.getD Ac=b:=by simpa using n
 have x:tmps[k]?.getD Ac=c:=by simpa using o
 simp[As,hF,v,w,x,go_sem,p,q,r,u]
def Zi(b d:Nat)(w Z:U):Prop:=∀a,(a<b∨d<=a)->a<w.heap.size->Z.heap[a]?=w.heap[a]?
def CS(w0 w:U)(x:AO×Int×Int)(r:Ending)(w':U):Prop:=∃a,r=R (.tuple #[a,x.2.1,x.2.2])/\Below w w w'/\∀b,Zi w0 w w' b->Gj b a x.1
theorem Wh{a:Type}{f:a->List N}{w0 w W Z:U}{v:N}{l:List a}(h:Ba n f w0 v l)(b:Below w0 w0 w)(d:Below w w W)(j:Zi w0 w W Z):Ba n f Z v l:=by
 refine h.of_cells λe o g=>?_;have i:=Ad w0 _ g;have p:=b.size;have q:=d.size;have k:=(b.cell i).trans g;have m:=(d.cell (p:=e) (by omega)).trans k;rw[HH (j e.block (.inl i) (by omega))];exact m
theorem CT{e:Type}{t:Ab}{f:e->List N}{w0 w W Z:U}{v:N}{l:List e}(h:Cc t n f w0 v l)(a:Below w0 w0 w)(b:Below w w W)(g:Zi w0 w W Z):Cc t n f Z v l:=
 ⟨Wh h.1 a b g,h.2.of_heap λd j=>by
  have i:=j.lt;have k:=a.size;have m:=b.size;exact((g d (.inl i) (by omega)).trans (b.block d (by omega))).trans (a.block d i)⟩
theorem ZE{W Z:U}{base size:Nat}{e:Ab}{v:N}{xs:List N}(h:W.ownsRow base e size v n xs)(d:Zi k g W Z)(o:g<=base):Z.ownsRow base e size v n xs:=by
 refine⟨h.1,?_⟩;rcases h.2 with i|⟨a,j,cur,rfl,l,b,m⟩
 .exact .inl i
 .exact .inr ⟨a,j,cur,rfl,l,(d a (.inr (by omega)) (AB b)).trans b,m⟩
theorem Ha{W Z:U}{base size:Nat}{e:Ab}{v:N}{xs:List N}(h:W.ownsRow base e size v n xs)(b:∀g,v.ownBlock=E g->g<W.heap.size->Z.heap[g]?=W.heap[g]?):Z.ownsRow base e size v n xs:=by
 refine⟨h.1,?_⟩;rcases h.2 with d|⟨g,i,cur,rfl,j,a,k⟩
 .exact .inl d
 .exact .inr ⟨g,i,cur,rfl,j,(b g rfl (AB a)).trans a,k⟩
theorem ZF{d:Type}{f:d->List N}{w w':U}{o:Nat}{l:List d}(h:Ba n f w (C (E ⟨g,o,O⟩) m c) l)(q:w'.heap[g]?=w.heap[g]?):Ba n f w' (C (E ⟨g,o,O⟩) m c) l:=by
 obtain⟨r,t,u,v,e,x,i,y,z⟩:=h;refine⟨r,t,u,v,e,x,i,y,λj A k p B D F=>?_⟩;injection e with G M S;subst G;have W:=(Am.1 k).1;have b:=i _ rfl (by omega);injection b with L b;subst L b;rw[HH (a:=⟨g,o+j*n+p,O⟩) q];exact z j A k p B D F
theorem ZG{a:Type}{t:Ab}{f:a->List N}{w w':U}{o:Nat}{l:List a}(h:Cc t n f w (C (E ⟨g,o,O⟩) m c) l)(b:w'.heap[g]?=w.heap[g]?):Cc t n f w' (C (E ⟨g,o,O⟩) m c) l:=⟨ZF h.1 b,h.2.blk b⟩
abbrev L4(s:AO)(a:Option Addr)(b:Nat)(d:Option Addr)(cp:Nat):Array N:= #[s.kind,s.num,C a s.q.length b,C d s.ps.length cp]
theorem Bo(w:U)(o:Obj)(t:Ab)(cs:Array N):Ah ((w.alloc o).alloc (K cs t)) (w+1) t cs:=by
 have:=Ah.new (w.alloc o) t cs;rwa [Eb] at this
theorem AG(w:U)(o o':Obj):Below w w ((w.alloc o).alloc o'):=(Zc w o).alloc (by simp) o'
theorem JB{w0 w W Z:U}{s:AO}{a:Option Addr}{cp:Nat}(g:Cc Cv 1 FH w0 (C A s.q.length k) s.q)(i:Cc BN 2 AN w0 (C a s.ps.length cp) s.ps)(b:Below w0 w0 w)(d:Below w w W)(e:Zi w0 w W Z)(n:Int):Gj Z (.agg #[s.kind,n,C A s.q.length k,C a s.ps.length cp]) {s with num:=n}:=
 ⟨A,k,a,cp,rfl,CT g b d e,CT i b d e⟩
theorem Aed{w0 w:U}{v:N}{s:AO}(l:Gj w0 v s)(d:Below w0 w0 w)(key val:Int):
 Calls prog 310 #[v,key,val] w λm n=>CS w0 w ({s with num:=val},1,0) m n:=by
 obtain⟨g,i,j,k,rfl,a,b⟩:=l;have o:=Af a;have p:=Af b;have q:=Af d;replace a:=a.below d;replace b:=b.below d;have t:=Af a;have u:=Af b;have e:=Af<|Ah.new w AZ (L4 s g i j k);have x:=e.o.cell 0;have y:=e.o.cell 1;have z:=e.o.cell 2;have A:=e.o.cell 3;go_in;go_wp2_with fail;refine Ao (Kc _ rfl rfl _ _ _ s.kind val (C g s.q.length i) (C j s.ps.length k) _ _ rfl rfl rfl (Bo _ _ _ _)) rfl ?_;exact⟨_,rfl,AG _ _ _,λB r=>JB o p q (AG _ _ _) r _⟩
theorem Aee{w0 w:U}{v:N}{s:AO}(l:Gj w0 v s)(d:Below w0 w0 w)(key val:Int)(t:IntKind.i64.wrap (s.num+val)=s.num+val):
 Calls prog 311 #[v,key,val] w λm n=>CS w0 w ({s with num:=s.num+val},1,0) m n:=by
 obtain⟨g,i,j,k,rfl,a,b⟩:=l;have o:=Af a;have p:=Af b;have q:=Af d;replace a:=a.below d;replace b:=b.below d;have u:=Af a;have x:=Af b;have e:=Af<|Ah.new w AZ (L4 s g i j k);have y:=e.o.cell 0;have z:=e.o.cell 1;have A:=e.o.cell 2;have B:=e.o.cell 3;go_in;go_wp2_with fail;refine Ao (Kc _ rfl rfl _ _ _ s.kind (I J (s.num+val)) (C g s.q.length i) (C j s.ps.length k) _ _ rfl rfl rfl (Bo _ _ _ _)) rfl ?_;exact⟨_,rfl,AG _ _ _,λD r=>JB o p q (AG _ _ _) r _⟩
theorem Abq{w0 w:U}{v:N}{s:AO}(l:Gj w0 v s)(d:Below w0 w0 w)(key val:Int):
 Calls prog 309 #[v,key,val] w λm n=>CS w0 w (s,3,s.num) m n:=by
 obtain⟨g,i,j,k,rfl,a,b⟩:=l;have o:=Af a;have p:=Af b;have q:=Af d;replace a:=a.below d;replace b:=b.below d;have t:=Af a;have u:=Af b;have e:=Af<|Ah.new w AZ (L4 s g i j k);have x:=e.o.cell 0;have y:=e.o.cell 1;have z:=e.o.cell 2;have A:=e.o.cell 3;go_in;go_wp2
 go_region_with (fail)
 all_goals go_wp2_with fail
 all_goals (refine Ao (Kc _ rfl rfl _ _ _ s.kind s.num (C g s.q.length i) (C j s.ps.length k) _ _ rfl rfl rfl (Bo _ _ _ _).drew) rfl ?_;exact⟨_,rfl,(AG _ _ _).drew,λB r=>JB o p q (AG _ _ _).drew r s.num⟩)
theorem Ba.drop{j:Type}{f:j->List N}{w:U}{l:List j}{o:Nat}(h:Ba n f w (C (E ⟨b,o,O⟩) m c) l)(D:k<=l.length):Ba n f w (C (E ⟨b,o+k*n,O⟩) (m-k) (c-k)) (l.drop k):=by
 obtain⟨F,G,L,M,p,S,q,W,r⟩:=h;injection p with t u v;subst u v;refine⟨E ⟨b,o+k*n,O⟩,c-k,b,o+k*n,by rw[EN],λa=>(by cases a),λX a Y=>(by injection a with a;exact a.symm),by rw[EN];omega,λd x e g y z A=>?_⟩;rw[List.getElem?_drop] at e;have Z:=(Am.1 e).1;have i:=q ⟨b,o,O⟩ t.symm (by omega);injection i with B i;have:=r (k+d) x e g y z A;rw[<-B,<-i,Nat.add_mul] at this;rw[show o+k*n+d*n+g=o+(k*n+d*n)+g by omega];exact this
theorem Cc.drop{a:Type}{t:Ab}{f:a->List N}{w:U}{l:List a}{o:Nat}(h:Cc t n f w (C (E ⟨b,o,O⟩) m c) l)(e:k<=l.length):Cc t n f w (C (E ⟨b,o+k*n,O⟩) (m-k) (c-k)) (l.drop k):=
 ⟨h.1.drop e,λg i j p d q=>h.2.sub (o':=o+k*n) (m':=m-k) (c':=c-k) (by injection d;omega) g i j p d q⟩
def GL(s:AO)(key:Int):Int×Int:=match B5 s.ps key with|some a=>(3,a)|none=>(2,0)
theorem Mz{w:U}{v:N}{s:AO}{key:Int}(e:Gj w v s)(g:∀a∈s.ps,0<=a.1/\a.1<=1000)(i:0<=key/\key<=1000)(j:s.ps.length<=1000000):
 Calls prog 320 #[v,key] w λb d=>b=R (.tuple #[I J (GL s key).1,I J (GL s key).2])/\Below w w d:=by
 refine(Wg e g i j).mono ?_;rintro b d ⟨rfl,k⟩;refine⟨?_,k⟩;unfold GL
 cases B5 s.ps key<;>rfl
theorem Cg{W:U}{t:Ab}{a b c d a' b' c' d':N}(h:Ah W g t #[a,b,c,d]):Ah ((((W.setCell g a').setCell ⟨g,1,O⟩ b').setCell ⟨g,2,O⟩ c').setCell ⟨g,3,O⟩ d') g t #[a',b',c',d']:=by
 have:=(((h.put 0 a').put 1 b').put 2 c').put 3 d';simpa using this
theorem BR{w W:U}{a b c d:N}(h:Below w w W)(e:w.heap.size<=g):Below w w ((((W.setCell g a).setCell ⟨g,1,O⟩ b).setCell ⟨g,2,O⟩ c).setCell ⟨g,3,O⟩ d):=
 (((h.setCell (p:=g) e _).setCell (p:=⟨g,1,O⟩) e _).setCell (p:=⟨g,2,O⟩) e _).setCell (p:=⟨g,3,O⟩) e _
theorem Aef{w0 w:U}{v:N}{s:AO}(t:Gj w0 v s)(i:Below w0 w0 w)(key val:Int)(u:∀x∈s.ps,0<=x.1/\x.1<=1000)(y:0<=key/\key<=1000)(z:s.ps.length<=1000000):
 Calls prog 319 #[v,key,val] w λA G=>CS w0 w (s,GL s key) A G:=by
 have B:=t.below i;obtain⟨j,k,l,m,rfl,n,o⟩:=t;have L:=Af n;have M:=Af o;have S:=Af i;replace n:=n.below i;replace o:=o.below i;have ae:=Af n;have af:=Af o;have D:=Af (λW (q:Below w w W)=>Mz (B.below q) u y z);have X:=Af<|Bo w (K (L4 s j k l m) AZ) AZ #[(),(),C O 0 0,C O 0 0];have p:=Af<|(Ah.new w AZ (L4 s j k l m)).below ((Ae _ _).alloc (Aa _) (K #[(),(),C O 0 0,C O 0 0] AZ)) (by simp);have F:=Af<|AG w (K (L4 s j k l m) AZ) (K #[(),(),C O 0 0,C O 0 0] AZ);go_in;have Y:=p.o.cell 0;have Z:=p.o.cell 1;have aa:=p.o.cell 2;have ab:=p.o.cell 3;go_wp2_with fail;refine(D.o _ F).mono ?_;rintro A ag ⟨rfl,r⟩;have ac:=Af<|F.o.trans (r.mono (by simp;omega));have e:=Af<|X.o.below r (by simp);have g:=p.o.below r (by simp;omega);have ah:=g.cell 0;have ai:=g.cell 1;have aj:=g.cell 2;have ak:=g.cell 3;have al:=e.o.cell 0;have am:=e.o.cell 1;have an:=e.o.cell 2;have ao:=e.o.cell 3;have ap:=e.o.frozen 0;have aq:=e.o.frozen 1;have ar:=e.o.frozen 2;have au:=e.o.frozen 3;have av:=e.o.lt;have aw:=g.lt;go_wp2_with fail;refine Ao (Kc _ rfl rfl _ _ _ s.kind s.num (C j s.q.length k) (C l s.ps.length m) _ _ rfl rfl rfl (Cg e)) rfl ?_;have q:=BR (a:=s.kind) (b:=s.num) (c:=C j s.q.length k) (d:=C l s.ps.length m) ac<|Nat.le_succ w;exact⟨_,rfl,q,λax ad=>JB L M S q ad s.num⟩
theorem Ba.empty{b:Type}(n:Nat)(f:b->List N)(w:U)(a:Addr)(c:Nat):Ba n f w (C a 0 c) []:=⟨E a,c,0,0,rfl,(λd=>by cases d),(λ_ _ h=>absurd h (Nat.lt_irrefl 0)),A9 _,(λe g h=>by simp at h)⟩
theorem Cc.empty{b:Type}(t:Ab)(n:Nat)(f:b->List N)(w:U)(a:Addr)(c:Nat):Cc t n f w (C a 0 c) []:=⟨Ba.empty n f w a c,Hu.zero t w _ _⟩
def Wi(s:AO):AO×Int×Int:=match s.q with|[]=>(s,2,0)|a::b=>({s with q:=b},3,a)
theorem Aeg{w0 w:U}{v:N}{s:AO}(ae:Gj w0 v s)(z:Below w0 w0 w)(key val:Int):
 Calls prog 314 #[v,key,val] w λa af=>CS w0 w (Wi s) a af:=by
 obtain⟨B,b,d,e,rfl,m,o⟩:=ae;have D:=Af m;have F:=Af o;have r:=Af z;replace m:=m.below z;replace o:=o.below z;have ag:=Af m;have an:=Af o;have p:=Af<|Ah.new w AZ (L4 s B b d e);have M:=p.o.cell 0;have S:=p.o.cell 1;have W:=p.o.cell 2;have X:=p.o.cell 3;obtain⟨g,i,ah,l⟩:=s
 cases ah with
 |nil=>
  have t:Wi ⟨g,i,[],l⟩=(⟨g,i,[],l⟩,2,0):=rfl;rw[t];go_in;go_wp2_with fail;refine Ao (Kc _ rfl rfl _ _ _ g i (C B 0 b) (C d l.length e) _ _ rfl rfl rfl (Bo _ _ _ _)) rfl ?_;exact⟨_,rfl,AG _ _ _,λY n=>⟨B,b,d,e,rfl,CT D r (AG _ _ _) n,CT F r (AG _ _ _) n⟩⟩
 |cons u a=>
  have t:Wi ⟨g,i,u::a,l⟩=(⟨g,i,a,l⟩,3,u):=rfl;rw[t];let⟨q,y,ai,aj,G,Z⟩:=m.at (j:=0) (x:=u) rfl;subst ai;have A:=Z 0 u rfl (by omega);have L:(w.alloc (K #[g,i,C (E ⟨q,y,O⟩) (a.length+1) b,C d l.length e] AZ)).cell? ⟨q,y,O⟩=u:=((Zc w _).cell (Ad w _ A)).trans (by simpa using A);have ao:=Af L;have aa:=Af<|D.o.drop (k:=1) (by simp);have ap:q<w.heap.size:=Ad w _ A;have ak:((a.length:Int)+1==0)=false:=by simp;omega
  have ab:Hid (b=1->a=[]):=Af (λaq=>EU (by simp only[C4] at G;omega));have al:a.length+1<=b:=G;have ac:Hid (Cc Cv 1 FH w0 (C (E ⟨q,y+1,O⟩) a.length (b-1)) a):=Af (by simpa using aa.o);simp only[C4] at L M S W X p|-;by_cases ad:b=1
  .have am:=ab.o ad;subst am;subst ad;simp only[List.length_nil,Ej] at L M S W X p|-;go_in;go_wp2_with fail;refine Ao (Kc _ rfl rfl _ _ _ g i (C (E ⟨q,y,O⟩) 0 0) (C d l.length e) _ _ rfl rfl rfl (Bo _ _ _ _)) rfl ?_;exact⟨_,rfl,AG _ _ _,λY n=>⟨_,0,d,e,rfl,Cc.empty _ _ _ _ _ _,CT F r (AG _ _ _) n⟩⟩
  .go_in;go_wp2_with fail;refine Ao (Kc _ rfl rfl _ _ _ g i (C (E ⟨q,y+1,O⟩) a.length (b-1)) (C d l.length e) _ _ rfl rfl rfl (Bo _ _ _ _)) rfl ?_;exact⟨_,rfl,AG _ _ _,λY n=>⟨_,_,d,e,rfl,CT ac r (AG _ _ _) n,CT F r (AG _ _ _) n⟩⟩
section
open Go.ChangeShapes Go.WideShapes
abbrev tMv:Ab:=388
abbrev Kz:Ab:=387
def DoV(L:Nat)(W:U)(kind:Int)(v:N):Prop:=
 kind=2/\v=.func (.func 265) #[] #[]∨kind=3/\v=.func (.func 266) #[] #[]∨kind=4/\v=.func (.func 268) #[] #[]∨kind=7/\v=.func (.func 269) #[] #[]∨
  (kind=5∨kind=6)/\∃c,v=.func (.func 264) #[] #[Q (E ⟨c,0,O⟩)]/\L<=c/\Ah W c 3 #[I J (if kind=5 then 3 else 4)]
def Dv(L:Nat)(W:U)(v:N)(kind:Int):Prop:=
 ∃a fn,v=.agg #[C (E ⟨a,0,O⟩) (Bc kind).length (Bc kind).length,fn]/\L<=a/\Ah W a 3 ((Bc kind).map λb=>A0 .i64 b).toArray/\DoV L W kind fn
structure Nh (w W:U) (b:Nat) (ks:List Int):Prop where
 le:w.heap.size<=b
 below:Below w w W
 map:∃n f,n<50+ks.length/\Az W b n f/\∀kind∈ks,∃v,f kind=E v/\Dv w W v kind
theorem Ah.turn{W W':U}{q:Nat}{t:Ab}{cs:Array N}{f:Int->Option N}(h:Ah W q t cs)(e:Az W b n f)(g:W.mapTurned W' b):Ah W' q t cs:=by
 let⟨i,c,d⟩:=e.obj;refine h.grown g.grown (λa=>?_);injection a with a;subst a;unfold Ah at h;rw[h] at d
 cases d
theorem Dv.call{L:Nat}{W W':U}{v:N}{kind:Int}(h:Dv L W v kind)(a:Below W W W'):Dv L W' v kind:=by
 obtain⟨e,fn,g,i,b,j⟩:=h;refine⟨e,fn,g,i,b.below a b.lt,?_⟩;rcases j with h|h|h|h|⟨k,c,l,m,d⟩
 .exact .inl h
 .exact .inr (.inl h)
 .exact .inr (.inr (.inl h))
 .exact .inr (.inr (.inr (.inl h)))
 .exact .inr (.inr (.inr (.inr ⟨k,c,l,m,d.below a d.lt⟩)))
theorem Dv.turn{L:Nat}{W W':U}{v:N}{kind:Int}{f:Int->Option N}(h:Dv L W v kind)(a:Az W b n f)(d:W.mapTurned W' b):Dv L W' v kind:=by
 obtain⟨e,fn,g,i,j,k⟩:=h;refine⟨e,fn,g,i,j.turn a d,?_⟩;rcases k with h|h|h|h|⟨l,c,m,o,p⟩
 .exact .inl h
 .exact .inr (.inl h)
 .exact .inr (.inr (.inl h))
 .exact .inr (.inr (.inr (.inl h)))
 .exact .inr (.inr (.inr (.inr ⟨l,c,m,o,p.turn a d⟩)))
theorem Nh.start(w:U):Nh w (w.alloc (.map #[] 0)) w.heap.size []:=
 ⟨Aa _,(Ae _ _).alloc (Aa _) _,0,AF,by simp,Az.made w,λ_ h=>by cases h⟩
theorem Nh.call{w W W':U}{d:List Int}(h:Nh w W b d)(a:Below W W W'):Nh w W' b d:=by
 obtain⟨g,e,i,f,j,k,l⟩:=h;exact⟨g,e.trans (a.mono e.size),i,f,j,k.call a,λm n=>by obtain⟨o,p,q⟩:=l m n;exact⟨o,p,q.call a⟩⟩
theorem Nh.alloc{w W:U}{a:List Int}(h:Nh w W b a)(o:Obj):Nh w (W.alloc o) b a:=h.call ((Ae _ _).alloc (Aa _) o)
theorem Ni:prog.underlying tMv=E (.map 3 Kz):=underlying388
theorem Nh.put{w W:U}{d:List Int}(h:Nh w W b d){k:Int}(A:1<=k/\k<=7)(B:d.length<=10)(v:N)(n:Dv w W v k):
 ∃a,(Instr.mapUpdate tMv (.map (E b)) k v).run prog W=.ok () a/\Nh w a b (k::d):=by
 obtain⟨j,l,o,f,D,e,p⟩:=h;let⟨a,q,r,g⟩:=e.put (k:=k) Ni (by unfold Al;omega) (by omega) (by omega) v;refine⟨a,q,j,l.grown g.grown l.size (λF t=>by cases t;exact j),o+1,_,by simp;omega,r,λm u=>?_⟩;unfold AC;by_cases i:m=k
 .subst i;exact⟨v,if_pos rfl,n.turn e g⟩
 .let⟨x,y,z⟩:=p m (by simpa[i] using u);exact⟨x,by rw[if_neg i];exact y,z.turn e g⟩
theorem Kd{w W:U}{e:Array Oper}{g:List Oper}{o:Oper}{a:Act}{i:Exit->Act->U->Prop}(j:o.guard=O)(m x v:Operand)(l:o.op=Op.insert tMv m x v)(b:Nat)(k:Int)(val:N)
 (n:a.eval m=.map (E b)) (p:a.eval x=k) (q:a.eval v=val) {d:List Int} (h:Nh w W b d) (r:1<=k/\k<=7) (t:d.length<=10) (u:Dv w W val k)
 (y:∀w',Nh w w' b (k::d)->wpList prog e i g (a.put o.dst Ac) w'):wpList prog e i (o::g) a W:=by
 refine wpList_plain j λD z=>?_;let⟨w',A,B⟩:=h.put r t val u;unfold Oper.wp;simp[execOp,l,n,p,q,A,Result.andThen];exact z _ _<|y w' B
theorem mvA{w W:U}{d:List Int}(h:Nh w W b d)(kind:Int)(a:Nat)(e:kind=2/\a=265∨kind=3/\a=266∨kind=4/\a=268∨kind=7/\a=269){cs:Array N}(g:cs=((Bc kind).map λi=>A0 .i64 i).toArray){q:Nat}(j:n=(Bc kind).length)(k:q=W.heap.size):
 Dv w (W.alloc (K cs 3)) (.agg #[C q n n,.func (.func a) #[] #[]]) kind:=by
 subst g j k;refine⟨_,_,rfl,h.below.size,Ah.new W _ _,?_⟩;rcases e with ⟨rfl,rfl⟩|⟨rfl,rfl⟩|⟨rfl,rfl⟩|⟨rfl,rfl⟩
 .exact .inl ⟨rfl,rfl⟩
 .exact .inr (.inl ⟨rfl,rfl⟩)
 .exact .inr (.inr (.inl ⟨rfl,rfl⟩))
 .exact .inr (.inr (.inr (.inl ⟨rfl,rfl⟩)))
theorem mvB{w W:U}{e:List Int}(h:Nh w W b e)(kind st:Int)(g:kind=5/\st=3∨kind=6/\st=4){cs:Array N}(i:cs=((Bc kind).map λa=>A0 .i64 a).toArray){q:Nat}(j:n=(Bc kind).length)(k:q=W.heap.size)(l:c=W.heap.size+1):
 Dv w ((W.alloc (K cs 3)).alloc (K #[st] 3)) (.agg #[C q n n,.func (.func 264) #[] #[c]]) kind:=by
 subst i j k l;have d:=Ah.new (W.alloc (K ((Bc kind).map λa=>A0 .i64 a).toArray 3)) 3 #[st];rw[Eb] at d;refine⟨_,_,rfl,h.below.size,(Ah.new W _ _).alloc _,?_⟩;rcases g with ⟨rfl,rfl⟩|⟨rfl,rfl⟩
 .exact .inr (.inr (.inr (.inr ⟨.inl rfl,_,rfl,by have:=h.below.size;omega,d⟩)))
 .exact .inr (.inr (.inr (.inr ⟨.inr rfl,_,rfl,by have:=h.below.size;omega,d⟩)))
theorem R3(st:Int)(w:U):Calls prog 263 #[st] w λa b=>a=R (.func (.func 264) #[] #[w])/\b=w.alloc (K #[st] 3):=by
 go_in;go_wp2;go_ret;exact⟨rfl,rfl⟩
theorem Ke(w:U):Calls prog 223 #[] w λe d=>∃g,e=R (.map (E g))/\Nh w d g [6,5,7,4,3,2]:=by
 have a:=Af<|Nh.start w;have j:= @run_makeMap prog;go_in;go_wp2_with (refine Kd rfl _ _ _ rfl _ _ _ rfl rfl rfl (a.o.alloc _) (by omega) (by simp) (by first|exact mvA a 2 _ (by simp) rfl rfl (by simp)|exact mvA a 3 _ (by simp) rfl rfl (by simp)|exact mvA a 4 _ (by simp) rfl rfl (by simp)|exact mvA a 7 _ (by simp) rfl rfl (by simp)) ?_;intro d b;replace a:=Af b;clear b);refine(R3 _ _).mono ?_;rintro e i ⟨rfl,rfl⟩;go_wp2_with (refine Kd rfl _ _ _ rfl _ _ _ rfl rfl rfl ((a.o.alloc _).alloc _) (by omega) (by simp) (mvB a 5 3 (by simp) rfl rfl (by simp) (by simp)) ?_;intro d b;replace a:=Af b;clear b);refine(R3 _ _).mono ?_;rintro e i ⟨rfl,rfl⟩;go_wp2_with (refine Kd rfl _ _ _ rfl _ _ _ rfl rfl rfl ((a.o.alloc _).alloc _) (by omega) (by simp) (mvB a 6 4 (by simp) rfl rfl (by simp) (by simp)) ?_;intro d b;replace a:=Af b;clear b);go_ret;exact⟨_,rfl,a⟩
end
abbrev Kh(L:Nat)(W:U)(b:Nat)(a:N)(s':St)(e:Ending)(w':U):Prop:=
 e=R .nilIface/\∃d,DS L w' s' ⟨b,d⟩/\BZ W a d/\Ay (b::a.ownBlock.toList) W w'
theorem DS.put{L:Nat}{W:U}{s s':St}{u:N}(h:DS L W s ⟨b,u⟩)(j:Nat)(v:N)(a:Co s' u=(Co s u).setIfInBounds j v)(d:s'.deeds=s.deeds):DS L (W.setCell ⟨b,j,O⟩ v) s' ⟨b,u⟩:=by
 refine⟨h.le,?_,?_⟩
 .rw[a];exact h.blk.put j v
 .rw[d];exact Ak h.row (p:=⟨b,j,O⟩) (h.blk.apartRow h.row (by decide)) v
theorem DS.alloc{L:Nat}{W:U}{s:St}{h:Hd}(a:DS L W s h)(o:Obj):DS L (W.alloc o) s h:=a.call ((Ae _ _).alloc (Aa _) o)
theorem do5{L:Nat}{W:U}{s:St}{v:N}(h:DS L W s ⟨b,v⟩)(e:Ev)(n:Int):
 Calls prog 269 #[b,.agg (Aj e),n] W λa d=>Kh L W b v {s with stand:=4} a d:=by
 have g:=Af<|(h.put (s':={s with stand:=4}) 7 (I J 4) (by simp[Co]) rfl).alloc (K (Aj e) 44);have i:=Af<|((Ay.refl (b::v.ownBlock.toList) W).setCell (p:=⟨b,7,O⟩) (.inl (by simp)) (I J 4)).alloc (K (Aj e) 44);have j:=h.blk.cell 7;have k:=h.blk.frozen 7;have l:=h.blk.lt;simp only[Co] at j;go_in;go_wp2;go_ret;exact⟨rfl,v,g,.inl rfl,i⟩
theorem do4{L:Nat}{W:U}{s:St}{v:N}(h:DS L W s ⟨b,v⟩)(e:Ev)(n:Int):
 Calls prog 268 #[b,.agg (Aj e),n] W λa d=>Kh L W b v {s with stand:=3,tri:=n,status:=2} a d:=by
 have g:=Af<|(((h.put (s':={s with stand:=3}) 7 (I J 3) (by simp[Co]) rfl).put (s':={s with stand:=3,tri:=n}) 5 n (by simp[Co]) rfl).put (s':={s with stand:=3,tri:=n,status:=2}) 2 (I J 2) (by simp[Co]) rfl).alloc (K (Aj e) 44);have i:=Af<|((((Ay.refl (b::v.ownBlock.toList) W).setCell (p:=⟨b,7,O⟩) (.inl (by simp)) (I J 3)).setCell (p:=⟨b,5,O⟩) (.inl (by simp)) n).setCell (p:=⟨b,2,O⟩) (.inl (by simp)) (I J 2)).alloc (K (Aj e) 44);have j:=h.blk.cell 7;have k:=h.blk.cell 5;have l:=h.blk.cell 2;have m:=h.blk.frozen 7;have o:=h.blk.frozen 5;have q:=h.blk.frozen 2;have r:=h.blk.lt;simp only[Co] at j k l;go_in;go_wp2;go_ret;exact⟨rfl,v,g,.inl rfl,i⟩
theorem do1{L:Nat}{W:U}{s:St}{v:N}(h:DS L W s ⟨b,v⟩)(e:Ev)(n st:Int)(a:Ah W c 3 #[st]):
 Calls prog 264 #[b,.agg (Aj e),n,c] W λg d=>Kh L W b v {s with stand:=5,fin:=n,status:=st} g d:=by
 have i:=Af<|((((h.put (s':={s with stand:=5}) 7 (I J 5) (by simp[Co]) rfl).put (s':={s with stand:=5,fin:=n}) 4 n (by simp[Co]) rfl).put (s':={s with stand:=5,fin:=n,status:=st}) 2 st (by simp[Co]) rfl).alloc (K (Aj e) 44)).call (Ae _ _).drew;have j:=Af<|((((Ay.refl (b::v.ownBlock.toList) W).setCell (p:=⟨b,7,O⟩) (.inl (by simp)) (I J 5)).setCell (p:=⟨b,4,O⟩) (.inl (by simp)) n).setCell (p:=⟨b,2,O⟩) (.inl (by simp)) st).alloc (K (Aj e) 44)|>.drew;have k:=h.blk.cell 7;have l:=h.blk.cell 4;have m:=h.blk.cell 2;have o:=h.blk.frozen 7;have q:=h.blk.frozen 4;have r:=h.blk.frozen 2;have t:=h.blk.lt;have u:=a.cell 0;have w:=a.lt;have x:b≠c:=h.blk.apart a (by decide);simp only[Co] at k l m;go_in;go_wp2
 go_region_held3 (λd=>d.cell? c=st) (go_keep) (fail)
 all_goals (
  go_wp2;go_ret;exact⟨rfl,v,i,.inl rfl,j⟩)
theorem Nl:(prog.info? 160).map (λa=>(a.zero,a.size,a.bytes))=E (E (.agg #[(),(),(),(),(),(),(),()]),8,64):=by kernel_rfl
theorem Ki(d:Dd):∀u∈(Bl d).toList,u.oneCell'=true:=by
 intro u a;simp[Bl] at a;rcases a with rfl|rfl|rfl|rfl|rfl|rfl|rfl|rfl<;>rfl
theorem QP(l:List Dd)(d:Dd):BB (l++[d])=BB l++(Bl d).toList:=by simp[BB]
theorem do2{L:Nat}{W:U}{s:St}{u:N}(h:DS L W s ⟨b,u⟩)(bi:L<=W.heap.size)(bj:s.deeds.length<=1000)(e:Ev)(n:Int):
 Calls prog 265 #[b,.agg (Aj e),n] W λa0 B=>Kh L W b u {s with stand:=2,deeds:=s.deeds++[⟨e.obj,e.op,e.key,e.val,0,0,n,-1⟩]} a0 B:=by
 let⟨an,ao,ap,aq,ar⟩:=A1 Nl;obtain⟨w,x,rfl⟩:=Ag h.row;obtain⟨j,ab⟩:∃j:Dd,(⟨e.obj,e.op,e.key,e.val,0,0,n,-1⟩:Dd)=j:=⟨_,rfl⟩;have ac:Bl j= #[I J e.obj,I J e.op,I J e.key,I J e.val,I J 0,I J 0,I J n,I J (-1)]:=by rw[<-ab];rfl
 have F:=h.put (s':={s with stand:=2}) 7 (I J 2) (by simp[Co]) rfl;have Y:(Ar w s.deeds.length x).ownBlock≠E b:=Ah.apartRow h.blk h.row (by decide);have au:=Af Y;have bk:=Af F;have av:=Af F.row;have ad:=Af F.blk;have a1:=h.blk.cell 7;have bl:=h.blk.frozen 7;have a2:=h.blk.cell 6;have bm:=h.blk.frozen 6;have a3:b<W.heap.size:=h.blk.lt;have bn:=Af h.le;have Z:=Af ac;have k:Hid (Ah ((W.setCell ⟨b,7,O⟩ (I J 2)).alloc (K #[e.kind,e.tx,e.thr,e.obj,e.op,e.key,e.val,e.ret] AJ)) W AJ #[e.kind,e.tx,e.thr,e.obj,e.op,e.key,e.val,e.ret]):=Af (by have ae:=Ah.new (W.setCell ⟨b,7,O⟩ (I J 2)) AJ #[e.kind,e.tx,e.thr,e.obj,e.op,e.key,e.val,e.ret];simpa using ae);have aw:=Af (show E W.heap.size≠(Ar w s.deeds.length x).ownBlock from λaf=>by have:=(Ai h.row af.symm).2;omega);have z:=Af (show b≠W.heap.size by omega)
 have ag:Hid (∀y,(((W.setCell ⟨b,7,O⟩ (I J 2)).alloc y).alloc (K (Bl j) Bu)).drew.heap[W.heap.size+1]?=E (K (Bl j) Bu)):=Af (λy=>by
  have ae:=heap_alloc_new ((W.setCell ⟨b,7,O⟩ (I J 2)).alloc y)<|K (Bl j) Bu;have a4:(((W.setCell ⟨b,7,O⟩ (I J 2)).alloc y).alloc (K (Bl j) Bu)).heap[W.heap.size+1]?=E (K (Bl j) Bu):=by simpa using ae
  exact a4)
 rw[ac] at ag
 have ax:Hid (∀(y aa:Obj) (A:U) (l r:Nat),A.ownsRow L Bu 8 (C l (s.deeds.length+1) r) (s.deeds.length+1) (BB s.deeds++(Bl j).toList)->(((W.setCell ⟨b,7,O⟩ (I J 2)).alloc y).alloc aa).drew.grownBy A (Ar w s.deeds.length x).ownBlock->((Ar w s.deeds.length x).ownBlock=l∨l=W.heap.size+1+1)->
  ∃ay,DS L (A.setCell ⟨b,6,O⟩ (C l (s.deeds.length+1) r)) {s with stand:=2,deeds:=s.deeds++[j]} ⟨b,ay⟩/\BZ W (C w s.deeds.length x) ay/\Ay (b::(Ar w s.deeds.length x).ownBlock.toList) W (A.setCell ⟨b,6,O⟩ (C l (s.deeds.length+1) r))):=Af (by
  intro y aa A l r a5 m D;have a3:b<W.heap.size:=h.blk.lt;have o:=(Ah.drew (Ah.alloc (Ah.alloc F.blk y) aa)).grown m<|Eu Y
  have a6:(Ar (E l) (s.deeds.length+1) r).ownBlock≠E b:=by
   intro af;have a7:l=b:=by simpa[A5] using af
   rcases D with G|G
   .exact Y (by rw[G,a7])
   .omega
  refine⟨C l (s.deeds.length+1) r,⟨h.le,?_,?_⟩,?_,?_⟩
  .have:=o.put 6<|C l (s.deeds.length+1) r;simpa[Co] using this
  .have:=Ak a5 (p:=⟨b,6,O⟩) a6<|C l (s.deeds.length+1) r;simpa[QP] using this
  .rcases D with G|G
   .exact .inl (by rw[G];rfl)
   .exact .inr ⟨l,rfl,by omega⟩
  .exact(((((Ay.refl (b::(Ar w s.deeds.length x).ownBlock.toList) W).setCell (p:=⟨b,7,O⟩) (.inl (by simp)) (I J 2)).alloc y).alloc aa).drew.grown m (λbo e=>.inl (by simp[e]))).setCell (p:=⟨b,6,O⟩) (.inl (by simp)) _)
 rw[ab];simp only[Co] at a1 a2 ad;unfold Aj;go_in;go_wp2;have a8:=(Ah.drew k.o).cell 3;have a9:=(Ah.drew k.o).cell 4;have ba:=(Ah.drew k.o).cell 5;have bb:=(Ah.drew k.o).cell 6;refine wp_region_held_drew (S:=(λB=>B.cell? ⟨W.heap.size,3,O⟩=e.obj/\B.cell? ⟨W.heap.size,4,O⟩=e.op/\B.cell? ⟨W.heap.size,5,O⟩=e.key/\B.cell? ⟨W.heap.size,6,O⟩=e.val)) (by kernel_rfl) ?hS0 (λbc=>?_)
 case hS0=>exact⟨a8,a9,ba,bb⟩
 refine Ds (i:=0) (v:=b) rfl (by kernel_rfl) (by kernel_rfl) (by kernel_rfl) (λ_ _ _ h=>h) (Or.inl ⟨by rfl,?_⟩) (by assumption) ?_
 .intro g a
  (try dsimp only at a)
  first|(go_simp;done)|(go_simp;with_reducible rfl)
 try simp only[A6,A7,A4,A3]
 refine Ds (i:=1) (v:=b) rfl (by kernel_rfl) (by kernel_rfl) (by kernel_rfl) (λ_ _ _ h=>h) (Or.inl ⟨by rfl,?_⟩) (by assumption) ?_
 .intro g a
  (try dsimp only at a)
  first|(go_simp;done)|(go_simp;with_reducible rfl)
 try simp only[A6,A7,A4,A3]
 refine Ds (i:=2) (v:=b) rfl (by kernel_rfl) (by kernel_rfl) (by kernel_rfl) (λ_ _ _ h=>h) (Or.inl ⟨by rfl,?_⟩) (by assumption) ?_
 .intro g a
  (try dsimp only at a)
  first|(go_simp;done)|(go_simp;with_reducible rfl)
 try simp only[A6,A7,A4,A3]
 refine Ds (i:=3) (v:=b) rfl (by kernel_rfl) (by kernel_rfl) (by kernel_rfl) (λ_ _ _ h=>h) (Or.inl ⟨by rfl,?_⟩) (by assumption) ?_
 .intro g a
  (try dsimp only at a)
  first|(go_simp;done)|(go_simp;with_reducible rfl)
 try simp only[A6,A7,A4,A3]
 refine Ds (i:=4) (v:=(Q (E ⟨b,6,O⟩))) rfl (by kernel_rfl) (by kernel_rfl) (by kernel_rfl) (λ_ _ _ h=>h) (Or.inl ⟨by rfl,?_⟩) (by assumption) ?_
 .intro g a
  (try dsimp only at a)
  first|(go_simp;done)|(go_simp;with_reducible rfl)
 try simp only[A6,A7,A4,A3]
 refine Ds (i:=6) (v:=(Q (E ⟨W.heap.size,3,O⟩))) rfl (by kernel_rfl) (by kernel_rfl) (by kernel_rfl) (λ_ _ _ h=>h) (Or.inl ⟨by rfl,?_⟩) (by assumption) ?_
 .intro g a
  (try dsimp only at a)
  first|(go_simp;done)|(go_simp;with_reducible rfl)
 try simp only[A6,A7,A4,A3]
 refine Ds (i:=7) (v:=e.obj) rfl (by kernel_rfl) (by kernel_rfl) (by kernel_rfl) (λ_ _ _ h=>h) (Or.inl ⟨by rfl,?_⟩) (by assumption) ?_
 .intro g a
  (try dsimp only at a)
  first|(go_simp;done)|(go_simp;with_reducible rfl)
 try simp only[A6,A7,A4,A3]
 refine Ds (i:=8) (v:=(Q (E ⟨W.heap.size,4,O⟩))) rfl (by kernel_rfl) (by kernel_rfl) (by kernel_rfl) (λ_ _ _ h=>h) (Or.inl ⟨by rfl,?_⟩) (by assumption) ?_
 .intro g a
  (try dsimp only at a)
  first|(go_simp;done)|(go_simp;with_reducible rfl)
 try simp only[A6,A7,A4,A3]
 refine Ds (i:=9) (v:=e.op) rfl (by kernel_rfl) (by kernel_rfl) (by kernel_rfl) (λ_ _ _ h=>h) (Or.inl ⟨by rfl,?_⟩) (by assumption) ?_
 .intro g a
  (try dsimp only at a)
  first|(go_simp;done)|(go_simp;with_reducible rfl)
 try simp only[A6,A7,A4,A3]
 refine Ds (i:=10) (v:=(Q (E ⟨W.heap.size,5,O⟩))) rfl (by kernel_rfl) (by kernel_rfl) (by kernel_rfl) (λ_ _ _ h=>h) (Or.inl ⟨by rfl,?_⟩) (by assumption) ?_
 .intro g a
  (try dsimp only at a)
  first|(go_simp;done)|(go_simp;with_reducible rfl)
 try simp only[A6,A7,A4,A3]
 refine Ds (i:=11) (v:=e.key) rfl (by kernel_rfl) (by kernel_rfl) (by kernel_rfl) (λ_ _ _ h=>h) (Or.inl ⟨by rfl,?_⟩) (by assumption) ?_
 .intro g a
  (try dsimp only at a)
  first|(go_simp;done)|(go_simp;with_reducible rfl)
 try simp only[A6,A7,A4,A3]
 refine Ds (i:=12) (v:=(Q (E ⟨W.heap.size,6,O⟩))) rfl (by kernel_rfl) (by kernel_rfl) (by kernel_rfl) (λ_ _ _ h=>h) (Or.inl ⟨by rfl,?_⟩) (by assumption) ?_
 .intro g a
  (try dsimp only at a)
  first|(go_simp;done)|(go_simp;with_reducible rfl)
 try simp only[A6,A7,A4,A3]
 refine Ds (i:=13) (v:=e.val) rfl (by kernel_rfl) (by kernel_rfl) (by kernel_rfl) (λ_ _ _ h=>h) (Or.inl ⟨by rfl,?_⟩) (by assumption) ?_
 .intro g a
  (try dsimp only at a)
  first|(go_simp;done)|(go_simp;with_reducible rfl)
 try simp only[A6,A7,A4,A3]
 refine Ds (i:=14) (v:=n) rfl (by kernel_rfl) (by kernel_rfl) (by kernel_rfl) (λ_ _ _ h=>h) (Or.inl ⟨by rfl,?_⟩) (by assumption) ?_
 .intro g a
  (try dsimp only at a)
  first|(go_simp;done)|(go_simp;with_reducible rfl)
 try simp only[A6,A7,A4,A3]
 refine Ds (i:=15) (v:=(.agg #[e.obj,e.op,e.key,e.val,(),(),n,I J (-1)])) rfl (by kernel_rfl) (by kernel_rfl) (by kernel_rfl) (λ_ _ _ h=>h) (Or.inl ⟨by rfl,?_⟩) (by assumption) ?_
 .intro g a
  (try dsimp only at a)
  first|(go_simp;done)|(go_simp;with_reducible rfl)
 try simp only[A6,A7,A4,A3]
 refine E9 (rs:=[5,16]) (by kernel_rfl) (by simp) ?_;refine EX rfl (λK d=>?_)<|EX rfl (λK d=>?_) Fa
 .go_simp;refine d.out _ _ ?_ (λbd=>?_)
  .exact bc
  try simp only[A6,A7,A4,A3]
  refine E9 (rs:=[16]) (by kernel_rfl) (by simp) ?_;refine EX rfl (λK d=>?_) Fa;go_simp;refine d.out _ _ ?_ (λaz=>?_)
  .exact⟨(Ah.drew (Ah.alloc k.o _)).cell 3,(Ah.drew (Ah.alloc k.o _)).cell 4,(Ah.drew (Ah.alloc k.o _)).cell 5,(Ah.drew (Ah.alloc k.o _)).cell 6⟩
  try simp only[A6,A7,A4,A3]
  refine E9 (rs:=[17]) (by kernel_rfl) (by simp) ?_;refine EX rfl (λK d=>?_) Fa;refine E6 _ (by rfl) _ _ _ (by rfl) L Bu an _ 8 64 underlying151 ao ap aq ar rfl (by omega) (.slice w s.deeds.length x) s.deeds.length (BB s.deeds) (by rfl) ((av.o.alloc _).alloc _).drew (W+1:Nat) 1 1 (Bl j).toList (by rfl) (by rw[Z.o];rfl) (Ee (cs:=Bl j) (t:=Bu) (fr:=(0,0)) (by rw[Z.o];exact ag.o _)) (Ki _) (by omega) (by unfold Al;omega) (by omega) (by simp;omega) (W+1+1) (by simp) ?_;intro l r A M m D be;have o:=(Ah.drew (Ah.alloc (Ah.alloc ad.o _) _)).grown m<|Eu au.o;have bf:=o.frozen 6;have bg:=o.cell 6;have bh:=o.lt;have q:=(Ah.drew (Ah.alloc k.o _)).grown m aw.o;refine d.out _ _ ?_ (λX=>?_)
  .exact⟨q.cell 3,q.cell 4,q.cell 5,q.cell 6⟩
  try simp only[A6,A7,A4,A3]
  refine Ds (i:=18) (v:=b) rfl (by kernel_rfl) (by kernel_rfl) (by kernel_rfl) (λ_ _ _ h=>h) (Or.inl ⟨by rfl,?_⟩) (by assumption) ?_
  .intro g a
   (try dsimp only at a)
   first|(go_simp;done)|(go_simp;with_reducible rfl)
  try simp only[A6,A7,A4,A3]
  refine Ds (i:=19) (v:=b) rfl (by kernel_rfl) (by kernel_rfl) (by kernel_rfl) (λ_ _ _ h=>h) (Or.inl ⟨by rfl,?_⟩) (by assumption) ?_
  .intro g a
   (try dsimp only at a)
   first|(go_simp;done)|(go_simp;with_reducible rfl)
  try simp only[A6,A7,A4,A3]
  refine Ds (i:=20) (v:=(Q (E ⟨b,6,O⟩))) rfl (by kernel_rfl) (by kernel_rfl) (by kernel_rfl) (λ_ _ _ h=>h) (Or.inl ⟨by rfl,?_⟩) (by assumption) ?_
  .intro g a
   (try dsimp only at a)
   first|(go_simp;done)|(go_simp;with_reducible rfl)
  try simp only[A6,A7,A4,A3]
  refine E9 (rs:=[21]) (by kernel_rfl) (by simp) ?_;refine EX rfl (λK d=>?_) Fa;go_simp;refine d.out _ _ ?_ (λah=>?_)
  .obtain⟨ai,aj,ak,al⟩:=X;exact⟨(HE _ _ _ _ z.o).trans ai,(HE _ _ _ _ z.o).trans aj,(HE _ _ _ _ z.o).trans ak,(HE _ _ _ _ z.o).trans al⟩
  try simp only[A6,A7,A4,A3]
  refine wpAnyH_done (by kernel_rfl) ?_ _;have am:=Af<|ax.o _ _ _ _ _ M m D;go_wp2;go_ret;exact⟨rfl,am.o⟩
 .go_simp;refine d.out _ _ ?_ (λaz=>?_)
  .exact⟨(Ah.drew (Ah.alloc k.o _)).cell 3,(Ah.drew (Ah.alloc k.o _)).cell 4,(Ah.drew (Ah.alloc k.o _)).cell 5,(Ah.drew (Ah.alloc k.o _)).cell 6⟩
  try simp only[A6,A7,A4,A3]
  refine E9 (rs:=[5]) (by kernel_rfl) (by simp) ?_;refine EX rfl (λK d=>?_) Fa;go_simp;refine d.out _ _ ?_ (λbd=>?_)
  .exact az
  try simp only[A6,A7,A4,A3]
  refine E9 (rs:=[17]) (by kernel_rfl) (by simp) ?_;refine EX rfl (λK d=>?_) Fa;refine E6 _ (by rfl) _ _ _ (by rfl) L Bu an _ 8 64 underlying151 ao ap aq ar rfl (by omega) (.slice w s.deeds.length x) s.deeds.length (BB s.deeds) (by rfl) ((av.o.alloc _).alloc _).drew (W+1:Nat) 1 1 (Bl j).toList (by rfl) (by rw[Z.o];rfl) (Ee (cs:=Bl j) (t:=Bu) (fr:=(0,0)) (by rw[Z.o];exact ag.o _)) (Ki _) (by omega) (by unfold Al;omega) (by omega) (by simp;omega) (W+1+1) (by simp) ?_;intro l r A M m D be;have o:=(Ah.drew (Ah.alloc (Ah.alloc ad.o _) _)).grown m<|Eu au.o;have bf:=o.frozen 6;have bg:=o.cell 6;have bh:=o.lt;have q:=(Ah.drew (Ah.alloc k.o _)).grown m aw.o;refine d.out _ _ ?_ (λX=>?_)
  .exact⟨q.cell 3,q.cell 4,q.cell 5,q.cell 6⟩
  try simp only[A6,A7,A4,A3]
  refine Ds (i:=18) (v:=b) rfl (by kernel_rfl) (by kernel_rfl) (by kernel_rfl) (λ_ _ _ h=>h) (Or.inl ⟨by rfl,?_⟩) (by assumption) ?_
  .intro g a
   (try dsimp only at a)
   first|(go_simp;done)|(go_simp;with_reducible rfl)
  try simp only[A6,A7,A4,A3]
  refine Ds (i:=19) (v:=b) rfl (by kernel_rfl) (by kernel_rfl) (by kernel_rfl) (λ_ _ _ h=>h) (Or.inl ⟨by rfl,?_⟩) (by assumption) ?_
  .intro g a
   (try dsimp only at a)
   first|(go_simp;done)|(go_simp;with_reducible rfl)
  try simp only[A6,A7,A4,A3]
  refine Ds (i:=20) (v:=(Q (E ⟨b,6,O⟩))) rfl (by kernel_rfl) (by kernel_rfl) (by kernel_rfl) (λ_ _ _ h=>h) (Or.inl ⟨by rfl,?_⟩) (by assumption) ?_
  .intro g a
   (try dsimp only at a)
   first|(go_simp;done)|(go_simp;with_reducible rfl)
  try simp only[A6,A7,A4,A3]
  refine E9 (rs:=[21]) (by kernel_rfl) (by simp) ?_;refine EX rfl (λK d=>?_) Fa;go_simp;refine d.out _ _ ?_ (λah=>?_)
  .obtain⟨ai,aj,ak,al⟩:=X;exact⟨(HE _ _ _ _ z.o).trans ai,(HE _ _ _ _ z.o).trans aj,(HE _ _ _ _ z.o).trans ak,(HE _ _ _ _ z.o).trans al⟩
  try simp only[A6,A7,A4,A3]
  refine wpAnyH_done (by kernel_rfl) ?_ _;have am:=Af<|ax.o _ _ _ _ _ M m D;go_wp2;go_ret;exact⟨rfl,am.o⟩
theorem ZN{op ret:Int}(h:VU op ret):Dt op ret=true:=by
 exact h
theorem FI(d:Dd):(Bl d).toList.length=8:=by simp[Bl]
theorem Ww{L:Nat}{Z:U}{q:Nat}{cur:Array N}{a:List Dd}{d d':Dd}(o:L<=q)(p:a.length+1<=k)(r:k<=Al)(t:cur.size=k*8)(u:cur.toList.take ((a.length+1)*8)=BB (a++[d])){x y z:N}
 (v:(Bl d').toList=(((Bl d).toList.set 4 x).set 5 y).set 7 z) (w:Ah Z q Bu (((cur.setIfInBounds (a.length*8+4) x).setIfInBounds (a.length*8+5) y).setIfInBounds (a.length*8+7) z)):
 Z.ownsRow L Bu 8 (C q (a.length+1) k) (a.length+1) (BB (a++[d'])):=by
 have A:BB (a++[d'])=(((BB (a++[d])).set (a.length*8+4) x).set (a.length*8+5) y).set (a.length*8+7) z:=by
  simp only[BB,List.flatMap_append,E2,List.flatMap_nil,List.append_nil];have b:(N9 (λd=>(Bl d).toList) a).length=a.length*8:=DQ (n:=8) (λg=>FI g) a;rw[v]
  have i:∀(e j:List N) (l:Nat) (m:N),e.length=a.length*8->(e++j).set (a.length*8+l) m=e++j.set l m:=λe j l m h=>by
   rw[OP _ _ (by omega)]
   congr 2
   omega
  rw[i _ _ _ _ b,i _ _ _ _ b,i _ _ _ _ b]
 refine⟨?_,.inr ⟨q,k,_,rfl,o,w,p,r,by simp[t],?_⟩⟩
 .have b:(BB (a++[d'])).length=(a++[d']).length*8:=DQ (n:=8) (λg=>FI g) _;simpa using b
 .rw[A,<-u];simp only[Array.toList_setIfInBounds,List.take_set]
theorem Bw{P:Program}{f:FuncId}{args:Array N}{w:U}{x:Nat}{v:N}
 (h:Calls P f args (w.drewN (a+x)) λb d=>b=v/\d=w.drewN (a+x)):Calls P f args (w.drewN (a+x)) λb e=>b=v/\∃g,e=w.drewN (a+g):=
 h.mono λ_ _ ⟨i,j⟩=>⟨i,x,j⟩
theorem do3{L:Nat}{W:U}{s:St}{v:N}(h:DS L W s ⟨b,v⟩)(a6:s.deeds.length<=1000)(e:Ev)(n:Int){a:List Dd}{d:Dd}(u:s.deeds=a++[d])(G:VU d.op e.ret):
 Calls prog 266 #[b,.agg (Aj e),n] W λi o=>Kh L W b v {s with stand:=1,deeds:=a++[{d with ret:=e.ret,got:=e.val,back:=n}]} i o:=by
 have M:s.deeds.length=a.length+1:=by rw[u];simp
 obtain⟨g,j,cur,ae,D,w,af,ag,ah,F⟩:∃g j cur,v=C (E ⟨g,0,O⟩) (a.length+1) j/\L<=g/\W.heap[g]?=E (K cur Bu (0,0))/\a.length+1<=j/\j<=Al/\cur.size=j*8/\cur.toList.take ((a.length+1)*8)=BB s.deeds:=by
  have x:=h.row;rw[M] at x;rcases x.2 with ⟨S,a7⟩|⟨g,j,cur,S,D,w,ai,aj,ak,al⟩
  .omega
  .exact⟨g,j,cur,S,D,w,ai,aj,ak,al⟩
 have q:Ah W g Bu cur:=w
 have t:∀i,i<8->W.cell? ⟨g,a.length*8+i,O⟩=(Bl d)[i]?:=λi x=>by
  have am:=Fc (f:=λd=>(Bl d).toList) (n:=8) (λan=>FI an) s.deeds a.length d (by rw[u];simp) i x;rw[q.cell,<-Array.getElem?_toList];have ao:(cur.toList.take ((a.length+1)*8))[a.length*8+i]?=cur.toList[a.length*8+i]?:=N5 (by omega);rw[<-ao,F];simpa[BB] using am
 have y:∀i,W.frozen? ⟨g,a.length*8+i,O⟩=false:=λi=>q.frozen _;have X:W.cell? ⟨g,a.length*8+1,O⟩=d.op:=t 1 (by omega);have Y:W.cell? ⟨g,a.length*8+4,O⟩=d.ret:=t 4 (by omega);have Z:W.cell? ⟨g,a.length*8+5,O⟩=d.got:=t 5 (by omega);have aa:W.cell? ⟨g,a.length*8+7,O⟩=d.back:=t 7 (by omega);have ap:=y 4;have aq:=y 5;have ar:=y 7;subst ae;have ab:=h.blk.cell 7;have au:=h.blk.frozen 7;have av:W.cell? ⟨b,6,O⟩=E (C g (a.length+1) j):=h.blk.cell 6;have a8:b<W.heap.size:=h.blk.lt;have aw:=q.lt;have z:b≠g:=h.blk.apart q (by decide);have H:=Af h;have ax:=Af u;have k:=Af q;have ay:=Af F;have hF:=λA=>N6 d.op e.ret A;rw[ZN G] at hF;have ac:=Af (λA=>(hF A).mono (R':=λi o=>i=true/\o=A) (λ_ _ ad=>⟨ad.1,ad.2.symm⟩));have az:=Af (show a.length<=1000 by omega);simp only[Co] at ab;have a9:a.length<=1000:=by have:=az.o;omega
 have ba:(0:Int)<=(a.length:Int):=by omega
 have bb:(a.length:Int)<((a.length:Int)+1):=by omega
 have bc:IntKind.i64.wrap (a.length:Int)=(a.length:Int):=by rw[Ey];omega
 unfold Aj;go_in;go_wp2;go_quiet (fail);go_wp2;have m:DS L ((W.alloc (K #[e.kind,e.tx,e.thr,e.obj,e.op,e.key,e.val,e.ret] AJ)).drewN nq) s ⟨b,C g (a.length+1) j⟩:=⟨H.o.le,(H.o.alloc _).blk,(H.o.alloc _).row⟩;have l:Ah ((W.alloc (K #[e.kind,e.tx,e.thr,e.obj,e.op,e.key,e.val,e.ret] AJ)).drewN nq) g Bu cur:=k.o.alloc _;have r:Ah ((W.alloc (K #[e.kind,e.tx,e.thr,e.obj,e.op,e.key,e.val,e.ret] AJ)).drewN nq) W AJ #[e.kind,e.tx,e.thr,e.obj,e.op,e.key,e.val,e.ret]:=Ah.new W AJ _;have B:Ay (b::g::[]) W ((W.alloc (K #[e.kind,e.tx,e.thr,e.obj,e.op,e.key,e.val,e.ret] AJ)).drewN nq):=((Ay.refl _ W).alloc _).drewN nq;have a0:((W.alloc (K #[e.kind,e.tx,e.thr,e.obj,e.op,e.key,e.val,e.ret] AJ)).drewN nq).cell? ⟨g,a.length*8+1,O⟩=d.op:=(k.o.alloc _).cell _|>.trans ((k.o.cell _).symm.trans X);have a1:((W.alloc (K #[e.kind,e.tx,e.thr,e.obj,e.op,e.key,e.val,e.ret] AJ)).drewN nq).cell? ⟨g,a.length*8+4,O⟩=d.ret:=(k.o.alloc _).cell _|>.trans ((k.o.cell _).symm.trans Y);have a2:((W.alloc (K #[e.kind,e.tx,e.thr,e.obj,e.op,e.key,e.val,e.ret] AJ)).drewN nq).cell? ⟨g,a.length*8+5,O⟩=d.got:=(k.o.alloc _).cell _|>.trans ((k.o.cell _).symm.trans Z);have a3:((W.alloc (K #[e.kind,e.tx,e.thr,e.obj,e.op,e.key,e.val,e.ret] AJ)).drewN nq).cell? ⟨g,a.length*8+7,O⟩=d.back:=(k.o.alloc _).cell _|>.trans ((k.o.cell _).symm.trans aa);generalize ((W.alloc (K #[e.kind,e.tx,e.thr,e.obj,e.op,e.key,e.val,e.ret] AJ)).drewN nq)=bd at m l r B a0 a1 a2 a3|-;have a4:=m.blk.cell 7;have be:=m.blk.frozen 7;have bf:=m.blk.lt;have bg:=l.lt;have bh:=r.lt;have ap:=l.frozen<|a.length*8+4;have aq:=l.frozen<|a.length*8+5;have ar:=l.frozen<|a.length*8+7;have bi:=r.cell 6;have bj:=r.cell 7;have bk:b≠W.heap.size:=by omega
 have bl:g≠W.heap.size:=by omega
 have m:=Af m;have l:=Af l;have r:=Af r;have B:=Af B;simp only[Co] at a4;go_quiet ((go_at_call 267;first|exact Bw (ac.o _)|exact Calls.quiet_of_same (ac.o _)));go_wp2
 go_region_held3 (λo=>o.cell? ⟨W.heap.size,7,O⟩=e.ret/\o.cell? ⟨W.heap.size,6,O⟩=e.val) (first|go_keep|(simp[*,HE];done)) (fail)
 go_wp2;go_ret;refine⟨rfl,_,⟨H.o.le,?_,?_⟩,.inl rfl,?_⟩
 .have a5:=(((((m.o.blk.drewN (nq+1)).put 7 (I J 1)).far (p:=⟨g,a.length*8+4,O⟩) z e.ret).far (p:=⟨g,a.length*8+5,O⟩) z e.val).far (p:=⟨g,a.length*8+7,O⟩) z n);simpa[Co] using a5
 .show World.ownsRow _ L Bu 8 _ (a++[({d with ret:=e.ret,got:=e.val,back:=n}:Dd)]).length _;rw[show(a++[({d with ret:=e.ret,got:=e.val,back:=n}:Dd)]).length=a.length+1 by simp];exact Ww (d':={d with ret:=e.ret,got:=e.val,back:=n}) D af ag ah (ay.o.trans (by rw[ax.o])) (by simp[Bl])<|((((l.o.drewN (nq+1)).far (p:=⟨b,7,O⟩) (Eu z) (I J 1)).put (a.length*8+4) e.ret).put (a.length*8+5) e.val).put (a.length*8+7) n
 .exact((((((B.o.drewN (nq+1)).setCell (p:=⟨b,7,O⟩) (.inl (by simp)) _).setCell (p:=⟨g,a.length*8+4,O⟩) (.inl (by simp)) _).setCell (p:=⟨g,a.length*8+5,O⟩) (.inl (by simp)) _).setCell (p:=⟨g,a.length*8+7,O⟩) (.inl (by simp)) _))
end Go.Proofs.YtpoacbcnhpbdmaaGreatDoor
