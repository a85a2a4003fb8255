/-
  A part of the proof: Ref and what follows.
-/
import Derived.Test.YtpoacbcnhpbdmaaGreatDoorZB
import Derived.Test.YtpoacbcnhpbdmaaGreatDoorZC
import Derived.Lib.AppendStr
import Derived.DeepKeys4
import Derived.Carry
import Derived.Laws.StructEq
import Derived.ChangeKeysEq
import Derived.Outline
import Derived.Test.YtpoacbcnhpbdmaaGreatDoorRows
import Derived.LaidByTextLater
import Derived.SevenTiedAt
import Derived.Test.YtpoacbcnhpbdmaaGreatDoorChecked
import Derived.ProofKit
set_option linter.all false
set_option maxRecDepth 100000
set_option maxHeartbeats 32000000
open Go.RowKit.Below renaming refl→Ae
open Bool renaming not_eq_true→I4,or_eq_true→H1
open Go.CollectedI renaming perm→UN
open Go.Lib renaming TabIs→G3,itoa→Ei,pieceU→E5,pow10Tab→G4
open List renaming drop_eq_getElem_cons→FX,getElem?_eq_none→EP,getElem?_eq_some_iff→Am,length_append→Ef,length_singleton→E3,map_cons→G9,mem_append→Eh,mem_of_getElem?→Ap
open Go.Maps renaming size→H4
open Nat renaming le_refl→Aa,le_trans→A8,lt_of_lt_of_le→ED,one_shiftLeft→IB,testBit_or→ON,testBit_two_pow→OO,zero_le→A9
open Go.Op renaming eqFields→I3,equal→EL,maxDepth→EM
open Go.Oper renaming wp→Iq
open Option renaming bind_eq_some_iff→Fv
open Go.Program renaming closure→UP,closureVia→UO
open Go.Region renaming wanted→Gv
open Go.Result renaming andThen→FZ
open Go renaming TypeId→Ab,binOp→Ec,callsIn_wide→Dh,maxLen→Al
open Go.World renaming block_lt_of_cell?→Ad,size_alloc→Eb
open Go.World.grownBy renaming refl→UL
open Go.World.ownsRow renaming alloc→UM
open Go.Proofs renaming enters_of→Eg
open Go.Value renaming int→I,slice→C,pointer→Q,bool→T
open Go.IntKind renaming i64→J
open Go.Obj renaming cells→K
open Go.Obj renaming cells→H
open Go.Ending renaming returned→R
open Option renaming none→O,some→E
open Go renaming World→U,Value→N
namespace Go.Proofs.YtpoacbcnhpbdmaaGreatDoor
open Go.RowKit Go.Maps Go.Proofs.Tryz W
variable {w W X Y Z:World}{n k g c m i j b a:Nat}{v u z y:Value}{x t:Int}{p:TypeId}{q:List Value}{r:Array Value}{A:Option Addr}
attribute [local go_sem↓] Go.wp_at_zero Go.wp_at_succ
theorem Mo(l:List UInt8)(k:Nat):E5 l k k=[]:=by simp[E5]
theorem Qw{l:List UInt8}{f:Nat}{c:UInt8}(a:f<=k)(h:l[k]?=c):E5 l f (k+1)=E5 l f k++[c]:=by
 rw[<-Lib.pieceU_grow l f k 1 a]
 congr 1
 obtain⟨b,rfl⟩:=Am.1 h;rw[FX b,List.take_succ_cons,List.take_zero]
theorem RO(l:List UInt8)(f k:Nat):Value.string ((⟨l.toArray⟩:ByteArray).extract f k)=BH (E5 l f k):=by
 rw[VL,Ht]
theorem RP{l:List UInt8}{c:UInt8}(h:l[k]?=c):l.drop k=c::l.drop (k+1):=by
 obtain⟨a,rfl⟩:=Am.1 h;exact FX a
theorem Jg:laidOutB prog=true:=by kernel_rfl
theorem Bv{P:Program}{r:Array Oper}{o:Oper}{a:Act}{w:U}{K:Act->U->Prop}{G:Exit->Act->U->Prop}{L:Prop}(M:o.guard=O)(s x:Operand)(t:Ab)
 (v:o.op=.call {callee:=.builtin .append,args:= #[s,x],argTypes:= #[t,t]})
 (base:Nat) (e:Ab) (i:TypeInfo) (size:Nat) (y:P.underlying t=E (.slice e)) (z:P.info? e=i) (S:i.size=size)
 (g k b:Nat) (xs:List N) (A:a.eval s=C g k b) (p:w.ownsRow base e size (C g k b) k xs)
 (n:Option Addr) (m c:Nat) (d:List N) (B:a.eval x=C n m c) (D:d.length=m*size) (W:n=O->m=0/\c=0) (X:∀l,n=E l->∀j u,d[j]?=E u->w.cell? (l.add j)=E u) (Y:∀u∈d,u.oneCell'=true)
 (Z:k+m<=b)
 (h:∀w',w'.ownsRow base e size (C g (k+m) b) (k+m) (xs++d)->w.grownBy w' (E g)->K (a.put o.dst (C g (k+m) b)) w'):
 if Gv o (yielded r a.tmps)=true then Iq P o a w K G else L:=by
 have aa:Gv o (yielded r a.tmps)=true:=by simp[Gv,M]
 rw[if_pos aa]
 cases n with
 |some l=>
  let⟨w',q,ab,ac⟩:=run_append_fits w base t o.type e i size y z S g k b xs p l m c d D (X l rfl) Y Z;unfold Iq;simp[execOp,v,resolve,invoke,builtin,A,B,q,FZ];exact h w' ab ac
 |none=>
  obtain⟨rfl,rfl⟩:=W rfl;have ad:d=[]:=List.eq_nil_of_length_eq_zero (by simpa using D);subst ad;have q:=run_append_owned_none (P:=P) w base t o.type e i size y z _ k xs p;unfold Iq;simp[execOp,v,resolve,invoke,builtin,A,B,q,FZ];have F:=h w (by simpa using p)<|UL _ _;simp only[Nat.add_zero] at F;exact F
section
def AU(k:Int):Prop:= -9223372036854775808≤k∧k≤9223372036854775807
theorem Tw{W:World}{b:Nat}{k:Int}{v:Value}(h:JZ W b)(a:AU k):(Instr.mapUpdate Mc (.map (some b)) (.int .i64 k) v).run prog W=.ok () (Md W b k v):=VP h a.1 a.2
attribute [local go_sem↓] Tw
structure Qf (w W:World):Prop where
 lst:W.cell? ⟨w.heap.size,0,none⟩=some DM
 below:Below w.heap.size w W
 lt:w.heap.size<W.heap.size
theorem Qf.start(w:World):Qf w (w.alloc (.cells #[DM] 255)):=
 ⟨(Ah.new w _ _).cell 0,(Ae _ _).alloc (Aa _) _,by simp⟩
theorem Qf.call{w W W':World}(h:Qf w W)(a:Below W.heap.size W W'):Qf w W':=
 ⟨(a.cell (p:=⟨w.heap.size,0,none⟩) h.lt).trans h.lst,h.below.trans (a.mono h.below.size),ED h.lt a.size⟩
theorem Qf.drew{w W:World}(h:Qf w W):Qf w W.drew:=⟨h.lst,h.below.drew,h.lt⟩
theorem Qf.alloc{w W:World}(h:Qf w W)(o:Obj):Qf w (W.alloc o):=h.call ((Ae _ _).alloc (Aa _) o)
theorem Qf.ins{w W W':World}{b n:Nat}{f:Int→Value}(h:Qf w W)(g:BA W b n f)(i:w.heap.size≤b)(d:W.grownBy W' (some b)):Qf w W':=by
 obtain⟨l,c,j⟩:=M8 g
 refine⟨d.cell h.lst (fun a=>?_),h.below.grown d h.below.size (fun m k=>by cases k;exact i),ED h.lt d.size⟩
 injection a with a
 simp only at a
 have e:=h.lst
 rw [a] at e
 simp [World.cell?,j] at e
theorem JZ.of{W:World}{b n:Nat}{f:Int→Value}(h:BA W b n f)(a:n<100):JZ W b:=⟨n,f,a,h⟩
theorem Tx(W:World):JZ (W.alloc (.map #[] 0)) W.heap.size:=JZ.of (BA.made W) (by omega)
theorem Nm{w:World}{B n size:Nat}{e:Ab}{v:Value}{xs:List Value}(h:w.ownsRow B e size v n xs):w.drew.ownsRow B e size v n xs:=h
def Lv(L:Nat)(W:World)(v:Value):Option (List BK)→Prop
 |none=>v=.nilFunc
 |some b=>∃a,v=VQ a∧BM L W a b
theorem QQ{w X:World}{b g:Nat}(l:Qf w X)(a:BA X b 0 VO)(m:BM w.heap.size X g [.T,.H])(e:w.heap.size≤b):
 ∃d i,Value.map (some b)=.map (some d)∧w.heap.size≤d∧BA (Md X b 1 (.func (.func 111) #[] #[.pointer (some ⟨g,0,none⟩)])) d 1 (JY VO 1 (VQ i))∧BM w.heap.size (Md X b 1 (.func (.func 111) #[] #[.pointer (some ⟨g,0,none⟩)])) i [.T,.H]∧Qf w (Md X b 1 (.func (.func 111) #[] #[.pointer (some ⟨g,0,none⟩)])):=by
 obtain⟨n,j⟩:=KQ a (by omega) (k:=1) (by omega) (by omega) (VQ g)
 exact⟨b,g,rfl,e,n,m.ins a j,l.ins a e j⟩
def Sb(k:Nat)(kind:Int):Option (List BK):=if kind=1 then some [.T,.H] else if 4≤kind∧kind<4+(k:Int) then some [.T] else none
theorem Lv.ins{L:Nat}{W W':World}{v:Value}{o:Option (List BK)}{b n:Nat}{f:Int→Value}(h:Lv L W v o)(a:BA W b n f)(d:W.grownBy W' (some b)):Lv L W' v o:=by
 cases o with
 |none=>exact h
 |some j=>
  obtain⟨e,g,i⟩:=h
  exact⟨e,g,i.ins a d⟩
theorem Lv.call{L:Nat}{W W':World}{v:Value}{o:Option (List BK)}(h:Lv L W v o)(a:Below W.heap.size W W'):Lv L W' v o:=by
 cases o with
 |none=>exact h
 |some g=>
  obtain⟨b,d,e⟩:=h
  exact⟨b,d,e.call a⟩
theorem QR{L:Nat}{W:World}{g:Nat}(h:BM L W g [.T,.H])(kind:Int):Lv L W (JY VO 1 (VQ g) kind) (Sb 0 kind):=by
 unfold JY Sb
 by_cases a:kind=1
 ·rw [if_pos a,if_pos a]
  exact⟨g,rfl,h⟩
 ·rw [if_neg a,if_neg a,if_neg (by omega)]
  rfl
theorem Ty{L:Nat}{W W':World}{g b n k:Nat}{f:Int→Value}(l:∀kind,Lv L W (f kind) (Sb k kind))(d:BA W b n f)(e:W.grownBy W' (some b))(h:BM L W g [.T])(kind:Int):Lv L W' (JY f ((k:Int)+4) (VQ g) kind) (Sb (k+1) kind):=by
 have m:=(l kind).ins d e
 unfold JY
 by_cases i:kind=(k:Int)+4
 ·rw [if_pos i]
  unfold Sb
  rw [if_neg (by omega),if_pos (by omega)]
  exact⟨g,rfl,h.ins d e⟩
 ·rw [if_neg i]
  have o:Sb (k+1) kind=Sb k kind:=by
   unfold Sb
   by_cases a:kind=1
   ·rw [if_pos a,if_pos a]
   ·rw [if_neg a,if_neg a]
    by_cases j:4≤kind∧kind<4+(k:Int)
    ·rw [if_pos j,if_pos (by omega)]
    ·rw [if_neg j,if_neg (by omega)]
  rw [o]
  exact m
theorem QS{W:World}{q:Nat}(h:Ah W q 3 #[.int .i64 4,.int .i64 5,.int .i64 6,.int .i64 7])(k:Nat)(a:k<4):W.cell? ⟨q,k,none⟩=some (.int .i64 ((k:Int)+4)):=by
 rw [h.cell]
 rcases (show k=0∨k=1∨k=2∨k=3 by omega) with rfl|rfl|rfl|rfl<;>rfl
theorem ZX{W W':World}{q b n:Nat}{t:Ab}{cs:Array Value}{f:Int→Value}(h:Ah W q t cs)(e:BA W b n f)(g:W.grownBy W' (some b)):Ah W' q t cs:=by
 obtain⟨i,c,d⟩:=M8 e
 refine h.grown g (fun a=> ?_)
 injection a with a
 subst a
 unfold Ah at h
 rw [h] at d
 cases d
def Hw(W:World)(v:Value)(kind:Int):Prop:=
 if 1≤kind∧kind≤7 then∃b c,v=.func (.func b) #[] #[.pointer (some ⟨c,0,none⟩)]∧(∀g a,(callFunc b g).run prog a=.ok (.enter b g) a)∧
  ∀(d:Ev) (e:Nat) a,Below W.heap.size W a→d.kind=kind→Calls prog b #[.agg (Aj d),.int .i64 e,.pointer (some ⟨c,0,none⟩)] a fun i j=>i=.returned (.tuple #[.agg (L3 d.fl e),.bool (decide (e<d.fl.length))])∧Below a.heap.size a j
 else v=.nilFunc
def Lw(W:World)(b:Nat):Prop:=∃d f,BA W b d f∧∀a,Hw W (f a) a
def Pu(L:Nat)(W:World)(v:Value)(kind:Int):Prop:=
 if 1≤kind∧kind≤7 then∃b c,v=.func (.func b) #[] #[.pointer (some ⟨c,0,none⟩)]∧(∀g a,(callFunc b g).run prog a=.ok (.enter b g) a)∧
  ∀(d:Ev) (e:Nat) a,Lk L W a→d.kind=kind→Calls prog b #[.agg (Aj d),.int .i64 e,.pointer (some ⟨c,0,none⟩)] a fun i j=>i=.returned (.tuple #[.agg (L3 d.fl e),.bool (decide (e<d.fl.length))])∧Below a.heap.size a j
 else v=.nilFunc
def Fh(L:Nat)(W:World)(b:Nat):Prop:=∃d f,BA W b d f∧∀a,Pu L W (f a) a
theorem Pu.toV{L:Nat}{W:World}{v:Value}{kind:Int}(h:Pu L W v kind):Hw W v kind:=by
 unfold Pu at h
 unfold Hw
 split
 ·rename_i a
  rw [if_pos a] at h
  obtain⟨b,c,d,e,g⟩:=h
  exact⟨b,c,d,e,fun i j k l=>g i j k (Lk.of l)⟩
 ·rename_i a
  rwa [if_neg a] at h
theorem Fh.at{L:Nat}{W:World}{b:Nat}(h:Fh L W b):Lw W b:=by
 obtain⟨a,f,d,e⟩:=h
 exact⟨a,f,d,fun g=>(e g).toV⟩
theorem Tz{w W:World}{b n:Nat}{f:Int→Value}(u:BA W b n (JY (JY f 2 (.func (.func 114) #[] #[.pointer (some ⟨w.heap.size,0,none⟩)])) 3 (.func (.func 121) #[] #[.pointer (some ⟨w.heap.size,0,none⟩)])))
 (v:∀kind,Lv w.heap.size W (f kind) (Sb 4 kind)) (q:Qf w W):Fh w.heap.size W b:=by
 refine⟨n,_,u,fun kind=> ?_⟩
 unfold Pu JY
 by_cases e:kind=3
 ·rw [if_pos e,if_pos (by omega)]
  refine⟨_,_,rfl,fun r a=>Eg func121 (by kernel_rfl) rfl _ a,fun d i a j k=>?_⟩
  have l:d.fl=DL d.ret:=by unfold Ev.fl Jd;rw [k,e];rfl
  rw [l]
  exact VN d i _ a (j.cell (p:=⟨w.heap.size,0,none⟩) (Aa _) q.lst)
 ·rw [if_neg e]
  by_cases g:kind=2
  ·rw [if_pos g,if_pos (by omega)]
   refine⟨_,_,rfl,fun r a=>Eg func114 (by kernel_rfl) rfl _ a,fun d i a j k=>?_⟩
   have l:d.fl=BP d.op:=by unfold Ev.fl Jd;rw [k,g];rfl
   rw [l]
   exact SX d i _ a (j.cell (p:=⟨w.heap.size,0,none⟩) (Aa _) q.lst)
  ·rw [if_neg g]
   have h:=v kind
   by_cases t:1≤kind∧kind≤7
   ·rw [if_pos t]
    have o:Sb 4 kind=some (Jd kind 0 0):=by
     unfold Sb Jd
     by_cases m:kind=1
     ·rw [if_pos m,if_pos m]
     ·rw [if_neg m,if_neg m,if_neg g,if_neg e,if_pos (by omega)]
    rw [o] at h
    obtain⟨z,x,y⟩:=h
    refine⟨_,_,x,fun r a=>Eg func111 (by kernel_rfl) rfl _ a,fun d i a j k=>?_⟩
    have l:d.fl=Jd kind 0 0:=by
     unfold Ev.fl Jd
     rw [k,if_neg g,if_neg e,if_neg g,if_neg e]
    rw [l]
    exact Pb (y.since j) d i
   ·rw [if_neg t]
    have o:Sb 4 kind=none:=by
     unfold Sb
     rw [if_neg (by omega),if_neg (by omega)]
    rw [o] at h
    exact h
theorem Hw.call{W W':World}{v:Value}{kind:Int}(h:Hw W v kind)(b:Below W.heap.size W W'):Hw W' v kind:=by
 unfold Hw at h⊢
 split
 ·rename_i a
  rw [if_pos a] at h
  obtain⟨d,c,e,g,i⟩:=h
  exact⟨d,c,e,g,fun j k l m=>i j k l (b.trans (m.mono b.size))⟩
 ·rename_i a
  rwa [if_neg a] at h
theorem Pv(w:World):Calls prog 69 #[] w fun am aa=>∃k,am=.returned (.map (some k))∧Fh w.heap.size aa k∧Below w.heap.size w aa:=by
 have an:= @run_makeMap prog
 have ao:=Tx
 have ax:AU 1:=⟨by omega,by omega⟩
 have ab:AU 2:=⟨by omega,by omega⟩
 have ac:AU 3:=⟨by omega,by omega⟩
 have l:=Qf.start w
 unfold DM at l
 have a:=Af l
 clear l
 have X:=Af (fun (d:World) (G:w.heap.size<d.heap.size)=>BX (w:=d) (cs:=(CB [.T,.H]).toArray) (t:=186) (B:=w.heap.size+1) (size:=4) (n:=2) rfl G (by unfold Al;omega))
 change Hid (∀d:World,w.heap.size<d.heap.size→(d.alloc (.cells #[.func (.func (SW .T)) #[] #[],.int .i64 ((BK.T).tab:Int),.int .i64 (BK.T).lo,.int .i64 (BK.T).hi,.func (.func (SW .H)) #[] #[],.int .i64 ((BK.H).tab:Int),.int .i64 (BK.H).lo,.int .i64 (BK.H).hi] 186)).ownsRow (w.heap.size+1) 186 4 (.slice (some ⟨d.heap.size,0,none⟩) 2 2) 2 (CB [.T,.H])) at X
 have L:=Af (fun (d:World) (G:w.heap.size<d.heap.size)=>BX (w:=d.alloc (.map #[] 0)) (cs:=(CB [.T,.H]).toArray) (t:=186) (B:=w.heap.size+1) (size:=4) (n:=2) rfl (by rw[Eb];omega) (by unfold Al;omega))
 simp only[Eb] at L
 change Hid (∀d:World,w.heap.size<d.heap.size→((d.alloc (.map #[] 0)).alloc (.cells #[.func (.func (SW .T)) #[] #[],.int .i64 ((BK.T).tab:Int),.int .i64 (BK.T).lo,.int .i64 (BK.T).hi,.func (.func (SW .H)) #[] #[],.int .i64 ((BK.H).tab:Int),.int .i64 (BK.H).lo,.int .i64 (BK.H).hi] 186)).ownsRow (w.heap.size+1) 186 4 (.slice (some ⟨d.heap.size+1,0,none⟩) 2 2) 2 (CB [.T,.H])) at L
 go_enter func69,ntmps69
 go_upto_region 2 with fail
 go_cut [2] from 5 to 12 (fun ap Y=>∃k M,ap=.map (some k)∧w.heap.size≤k∧BA Y k 1 (JY VO 1 (VQ M))∧BM w.heap.size Y M [.T,.H]∧Qf w Y)
 case first=>
  go_region_with (first
   |(go_at_call 112;refine(RQ _).mono ?_;rintro S y ⟨rfl,e⟩;have a:=Af (Qf.call (by repeat (first|with_reducible exact a.o|with_reducible apply Qf.drew|with_reducible apply Qf.alloc)) e);have i:=a.o.lst;have u:=a.o.lt;(try have b:=Af (BA.call (by repeat (first|with_reducible exact b.o|with_reducible exact BA.made _|with_reducible apply BA.drew|with_reducible apply BA.alloc)) e));(try have p:=JZ.of b.o (by omega));(try simp only[Eb] at p);(try simp only[Eb] at b);clear e;unfold DM at i;unfold AS)
   |(go_at_call 113;refine(AdY _).mono ?_;rintro S y ⟨rfl,e⟩;have a:=Af (Qf.call (by repeat (first|with_reducible exact a.o|with_reducible apply Qf.drew|with_reducible apply Qf.alloc)) e);have i:=a.o.lst;have u:=a.o.lt;(try have b:=Af (BA.call (by repeat (first|with_reducible exact b.o|with_reducible exact BA.made _|with_reducible apply BA.drew|with_reducible apply BA.alloc)) e));(try have p:=JZ.of b.o (by omega));(try simp only[Eb] at p);(try simp only[Eb] at b);clear e;unfold DM at i;unfold AS)
   |(go_at_call 110;refine(Mq [.T,.H] (by decide) (by decide) _ 2 2 w.heap.size _ rfl (by repeat (first|with_reducible exact X.o _ a.o.lt|with_reducible exact L.o _ a.o.lt|with_reducible apply Nm|with_reducible apply UM))).mono ?_;rintro S y ⟨M,rfl,z,e⟩;have a:=Af (Qf.call (by repeat (first|with_reducible exact a.o|with_reducible apply Qf.drew|with_reducible apply Qf.alloc)) e);have i:=a.o.lst;have u:=a.o.lt;have aq:=Af z;(try have b:=Af (BA.call (by repeat (first|with_reducible exact b.o|with_reducible exact BA.made _|with_reducible apply BA.drew|with_reducible apply BA.alloc)) e));(try have p:=JZ.of b.o (by omega));(try simp only[Eb] at p);(try simp only[Eb] at b);clear e z;unfold DM at i;unfold VQ))
  all_goals go_wp2_with fail
  all_goals go_meet
  all_goals exact QQ (w:=w) (by repeat (first|with_reducible exact a.o|with_reducible apply Qf.drew|with_reducible apply Qf.alloc)) (by repeat (first|with_reducible exact b.o|with_reducible exact BA.made _|with_reducible apply BA.drew|with_reducible apply BA.alloc)) (by repeat (first|with_reducible exact aq.o|with_reducible apply BM.drew|with_reducible apply BM.alloc)) (by first|omega|(simp;omega))
 case rest=>
 obtain⟨k,M,rfl,A,x,ad,l⟩:=hcut
 have ae:=Af x
 have af:=Af (QR ad)
 have ag:=Af l
 have ah:=Af (fun (d:World) (G:w.heap.size<d.heap.size)=>BX (w:=d) (cs:=(CB [.T]).toArray) (t:=186) (B:=w.heap.size+1) (size:=4) (n:=1) rfl G (by unfold Al;omega))
 change Hid (∀d:World,w.heap.size<d.heap.size→(d.alloc (.cells #[.func (.func (SW .T)) #[] #[],.int .i64 ((BK.T).tab:Int),.int .i64 (BK.T).lo,.int .i64 (BK.T).hi] 186)).ownsRow (w.heap.size+1) 186 4 (.slice (some ⟨d.heap.size,0,none⟩) 1 1) 1 (CB [.T])) at ah
 clear x ad l a X L ao an
 go_wp2_with fail
 go_loopw [14] (fun Z wr=>∃(j:Nat) (f:Int→Value),Z=.int .i64 j∧j≤4∧BA wr k (1+j) f∧(∀o,Lv w.heap.size wr (f o) (Sb j o))∧Qf w wr∧Ah wr wc.heap.size 3 #[.int .i64 4,.int .i64 5,.int .i64 6,.int .i64 7]) (fun Z _=>4-(intOf Z).toNat)
 case atStart=>exact⟨0,_,rfl,by omega,ae.o.alloc _,fun o=>(af.o o).call ((Ae _ _).alloc (Aa _) _),ag.o.alloc _,Ah.new _ _ _⟩
 case round=>
  obtain⟨j,f,rfl,ay,x,ai,l,D⟩:=hrel
  have b:=Af x
  have r:=Af ai
  have a:=Af l
  have q:=Af D
  have i:=l.lst
  have u:=l.lt
  have ar:=D.lt
  have p:=JZ.of x (by omega)
  unfold DM at i
  clear x ai l ae af ag
  by_cases au:j<4
  ·have av:=QS D j au
   have aj:AU ((j:Int)+4):=⟨by omega,by omega⟩
   clear D
   go_wp2_with fail
   go_region_with (first
    |(go_at_call 112;refine(RQ _).mono ?_;rintro S y ⟨rfl,e⟩;have m:=(Ae wr.heap.size wr).drew.trans e;have a:=Af (a.o.call m);have b:=Af (b.o.call m);have r:=Af (fun o=>(r.o o).call m);have q:=Af (q.o.below m q.o.lt);have i:=a.o.lst;have u:=a.o.lt;have p:=JZ.of b.o (by omega);clear e m;unfold DM at i;unfold AS)
    |(go_at_call 110;refine(Mq [.T] (by decide) (by decide) _ 1 1 w.heap.size _ rfl (by with_reducible exact ah.o _ a.o.lt)).mono ?_;rintro S aw ⟨ak,rfl,z,e⟩;have m:=((Ae y.heap.size y).alloc (Aa _) _).trans (e.mono (by simp));have al:=Af z;have a:=Af (a.o.call m);have b:=Af (b.o.call m);have r:=Af (fun o=>(r.o o).call m);have q:=Af (q.o.below m q.o.lt);have i:=a.o.lst;have u:=a.o.lt;have p:=JZ.of b.o (by omega);clear e m z;unfold DM at i;unfold VQ))
   all_goals
    have g:=Af (KQ b.o (by omega) aj.1 aj.2 (VQ ak))
    have v:=Af (And.intro (show BA (Md aw k ((j:Int)+4) (VQ ak)) k (1+(j+1)) _ from g.o.1) (And.intro (Ty r.o b.o g.o.2 al.o) (And.intro (a.o.ins b.o A g.o.2) (ZX q.o b.o g.o.2))))
    clear g i p av u a b r q al
    go_wp2_with fail
    go_roundw
    case rel=>exact⟨j+1,_,by go_num,by omega,v.o.1,v.o.2.1,v.o.2.2.1,v.o.2.2.2⟩
    case measure=>simp [intOf]<;>omega
  ·obtain rfl:j=4:=by omega
   have g:=Af (KQ b.o (by omega) ab.1 ab.2 (.func (.func 114) #[] #[.pointer (some ⟨w.heap.size,0,none⟩)]))
   have az:=JZ.of g.o.1 (by omega)
   have F:=Af (KQ g.o.1 (by omega) ac.1 ac.2 (.func (.func 121) #[] #[.pointer (some ⟨w.heap.size,0,none⟩)]))
   have v:=Af (And.intro (Tz F.o.1 (fun o=>((r.o o).ins b.o g.o.2).ins g.o.1 F.o.2) ((a.o.ins b.o A g.o.2).ins g.o.1 A F.o.2)) ((a.o.ins b.o A g.o.2).ins g.o.1 A F.o.2).below)
   clear D g F i u a b r q ar
   go_wp2_with fail
   go_ret
   exact⟨k,rfl,v.o.1,v.o.2⟩
theorem Lx(w:World):Calls prog 69 #[] w fun d b=>∃a,d=.returned (.map (some a))∧Lw b a∧Below w.heap.size w b:=
 (Pv w).mono fun _ _ ⟨a,e,g,i⟩=>⟨a,e,g.at,i⟩
end
def Aer(v:N):Prop:=∃a,v=.iface 563 (Q (E a))
def Abt(ok:Prop)(v:N):Prop:=(ok/\v=.nilIface)∨(¬ok/\Aer v)
theorem Ly(e:Ev)(f:BK):(Aj e)[f.off]?=E (e.get f):=by cases f<;>rfl
theorem TA(e:Ev)(f:BK)(n:Int):(Aj e).setIfInBounds f.off n=Aj (e.put f n):=by cases f<;>rfl
theorem QT(e:Ev)(k:Nat)(f:BK)(a:e.fl[k]?=f):e.strip (k+1)=(e.strip k).put f 0:=by
 let⟨b,h⟩:=Am.1 a;unfold Ev.strip;rw[List.take_succ_eq_append_getElem b,h,List.foldl_append];rfl
theorem TB(a:Nat)(lb:Array N)(w:U):(Ec .eql 181 (.func (.func a) #[] lb) .nilFunc).run prog w=.ok false w:=by
 simp only[Ec];simp[EL,EM,go_sem];kernel_rfl
theorem WF(w:U):(Ec .eql 181 .nilFunc .nilFunc).run prog w=.ok true w:=by
 simp only[Ec];simp[EL,EM,go_sem];kernel_rfl
theorem Dk{xs ys:Array N}{f:Field}{d:List Field}{r:List (Bool×Ab×Nat)}{a b:Int}(w:U)(e:(f::d).map (λf=>(f.name== "_",f.type,f.offset))=(false,3,j)::r)(k:xs[j]?=a)(l:ys[j]?=b):
 (I3 9999 xs ys (f::d)).run prog w=(if a=b then(I3 9999 xs ys d).run prog w else .ok false w)/\d.map (λf=>(f.name== "_",f.type,f.offset))=r:=by
 rw[G9] at e;injection e with m n;injection m with o p;injection p with q t;refine⟨?_,n⟩;have g:prog.plainKey 3=true:=by kernel_rfl
 rw[I3,if_pos (by simpa using o),q,t];simp only[Sem.run_bind,run_part_plain w g k,run_part_plain w g l,Result.andThen_ok,run_equalIn_int w 9998 3 .i64 .i64 a b underlying3];by_cases i:a=b
 .simp[i]
 .simp[i]
theorem WG(a0 b a2 a3 a4 a5 d e g i j k l m n o:Int)(w:U):
 (Op.equalIn 10000 44 (.agg #[a0,b,a2,a3,a4,a5,d,e]) (.agg #[g,i,j,k,l,m,n,o])).run prog w=
  .ok (decide (a0=g/\b=i/\a2=j/\a3=k/\a4=l/\a5=m/\d=n/\e=o)) w:=by
 have A:prog.underlying 44=E (.struct (prog.fieldsOf 44)):=by kernel_rfl
 rw[run_equalIn_agg w 9999 44 _ _ A (by kernel_rfl)];have a:(prog.fieldsOf 44).toList.map (λf=>(f.name== "_",f.type,f.offset))=[(false,3,0),(false,3,1),(false,3,2),(false,3,3),(false,3,4),(false,3,5),(false,3,6),(false,3,7)]:=by kernel_rfl
 obtain⟨p,q,r,t,u,v,x,y,B⟩:∃p q r t u v x y,(prog.fieldsOf 44).toList=[p,q,r,t,u,v,x,y]:=by
  have z:=congrArg List.length a;rw[List.length_map] at z
  match (prog.fieldsOf 44).toList,z with
  |[p,q,r,t,u,v,x,y],_=>exact⟨p,q,r,t,u,v,x,y,rfl⟩
 rw[B] at a|-;let⟨D,a⟩:=Dk (xs:= #[a0,b,a2,a3,a4,a5,d,e]) (ys:= #[g,i,j,k,l,m,n,o]) w a rfl rfl;let⟨F,a⟩:=Dk (xs:= #[a0,b,a2,a3,a4,a5,d,e]) (ys:= #[g,i,j,k,l,m,n,o]) w a rfl rfl;let⟨G,a⟩:=Dk (xs:= #[a0,b,a2,a3,a4,a5,d,e]) (ys:= #[g,i,j,k,l,m,n,o]) w a rfl rfl;let⟨L,a⟩:=Dk (xs:= #[a0,b,a2,a3,a4,a5,d,e]) (ys:= #[g,i,j,k,l,m,n,o]) w a rfl rfl;let⟨M,a⟩:=Dk (xs:= #[a0,b,a2,a3,a4,a5,d,e]) (ys:= #[g,i,j,k,l,m,n,o]) w a rfl rfl;let⟨S,a⟩:=Dk (xs:= #[a0,b,a2,a3,a4,a5,d,e]) (ys:= #[g,i,j,k,l,m,n,o]) w a rfl rfl;let⟨W,a⟩:=Dk (xs:= #[a0,b,a2,a3,a4,a5,d,e]) (ys:= #[g,i,j,k,l,m,n,o]) w a rfl rfl;let⟨X,a⟩:=Dk (xs:= #[a0,b,a2,a3,a4,a5,d,e]) (ys:= #[g,i,j,k,l,m,n,o]) w a rfl rfl;rw[D,F,G,L,M,S,W,X];simp only[I3,Sem.run_pure];by_cases Y:a0=g<;>by_cases Z:b=i<;>by_cases aa:a2=j<;>by_cases ab:a3=k<;>by_cases ac:a4=l<;>by_cases ad:a5=m<;>by_cases ae:d=n<;>by_cases af:e=o<;>simp[Y,Z,aa,ab,ac,ad,ae,af]
def No(e:Ev):Bool:=decide (e.kind=0/\e.tx=0/\e.thr=0/\e.obj=0/\e.op=0/\e.key=0/\e.val=0/\e.ret=0)
theorem Lz(e:Ev):No e=true↔e=.zero:=by
 obtain⟨a,b,d,g,i,j,k,ret⟩:=e;simp[No,Ev.zero]
theorem Aes(e:Ev)(w:U):(Ec .neq 44 (.agg (Aj e)) (.agg (Aj .zero))).run prog w=.ok (T (!No e)) w:=by
 rw[run_neq_struct];unfold Aj;rw[WG];rfl
theorem ZY(x y:Operand)(xs ys:Array N)(w:U):(eqGuard .neq 44 x y (.agg xs) (.agg ys)).run prog w=.ok () w:=run_eqGuard_agg w .neq 44 x y xs ys (by kernel_rfl)
theorem Pw{W:U}{k:Int}(h:Lw W b)(a:AU k):∃d,Hw W d k/\(Instr.lookup Mc (.map (E b)) k false).run prog W=.ok d W:=by
 obtain⟨i,f,e,g⟩:=h;exact⟨f k,g k,e.look a.1 a.2⟩
structure Acg (w:U) (e:Ev) (v:N) (W:U):Prop where
 next:Hw W v e.kind
 ev:Ah W w 44 (Aj e)
 below:Below w w W
def Fq(e:Ev):Bool:=decide (1<=e.kind)&&decide (e.kind<=7)&&(!decide (e.kind=2)||(decide (1<=e.op)&&decide (e.op<=9)))&&(!decide (e.kind=3)||(decide (1<=e.ret)&&decide (e.ret<=3)))
theorem Cp(e:Ev):Fq e=true↔e.Coded:=by
 unfold Fq Ev.Coded;simp only[Bool.and_eq_true,H1,decide_eq_true_eq,Bool.not_eq_true',decide_eq_false_iff_not];constructor
 .rintro⟨⟨⟨a,b⟩,d⟩,g⟩;exact⟨a,b,λh=>(d.resolve_left (λi=>i h)),λh=>(g.resolve_left (λi=>i h))⟩
 .rintro⟨a,b,d,g⟩;refine⟨⟨⟨a,b⟩,?_⟩,?_⟩
  .by_cases h:e.kind=2
   .exact .inr (d h)
   .exact .inl h
  .by_cases h:e.kind=3
   .exact .inr (g h)
   .exact .inl h
theorem Kk(e:Ev)(w:U)(a5:AE w)(bp:AU e.kind)(bq:e.ret<=9223372036854775807):
 Calls prog 64 #[.agg (Aj e)] w λq br=>∃a6,q=R a6/\Abt e.Ok a6/\Below w.heap.size w br:=by
 have af:=Af a5;have an:=Af (Ah.new w 44 (Aj e)).drew;have ao:=Af (Zc w (K (Aj e) 44)).drew;clear a5;unfold Aj at an ao;unfold Aj;go_in;go_upto_region 1 with fail
 go_cut [3] from 9 to 13 (λbs ap=>Acg w e bs ap)
 case first=>
  go_region_with (go_at_call 69;go_loud (refine(Lx _).mono ?_);rintro q ck ⟨cl,rfl,hF,aq⟩;have a7:=Af (an.o.below aq (by simp));have ar:=Af (ao.o.trans (aq.mono (by simp)));obtain⟨cn,a,co⟩:=Pw hF bp;have j:=Af a;have cp:=a7.o.cell 0;clear a hF aq)
  all_goals (go_wp2;go_meet)
  all_goals exact⟨j.o,a7.o,ar.o⟩
 case rest=>
 obtain⟨W,rfl⟩:∃W:U,W=wc:=⟨_,rfl⟩;obtain⟨a,F,a8⟩:=hcut;have j:=Af a;have a9:=Af F;have au:=Af a8;have k0:=F.cell 0;have k4:=F.cell 4;have k7:=F.cell 7;have ag:=F.lt;simp only[Aj] at k0 k4 k7;clear a F a8 an ao;go_upto_region 2 with fail
 go_cut [36] from 13 to 37 (λbt ap=>bt=T (!Fq e)/\Below W.heap.size W ap)
 case first=>
  by_cases g:1<=e.kind/\e.kind<=7
  .have a:=j.o;unfold Hw at a;rw[if_pos g] at a;obtain⟨ba,c,rfl,_,_⟩:=a;have cq:=λk=>TB ba #[Q (E ⟨c,0,O⟩)] k;by_cases m:e.kind=2
   .have bu:(e.kind==2)=true:=by simpa using m
    have bb:(e.kind==3)=false:=by simp[m]
    have u:=Af (λk=>GD e.op k);by_cases v:1<=e.op/\e.op<=9
    .have av:(Gq e.op==0)=false:=by
      rcases GC e.op with h|h
      .rcases h with h|h|h|h|h|h|h|h|h<;>rw[h]<;>rfl
      .omega
     have b:Fq e=true:=(Cp e).2 ⟨g.1,g.2,λ_=>v,λh=>by omega⟩;have l:=Af b;clear b v m g j;go_wp2_with fail;refine(u.o _).mono ?_;rintro q aw ⟨rfl,rfl⟩;go_wp2
     go_meet
     exact⟨by rw[l.o];rfl,Ae _ _⟩
    .have av:(Gq e.op==0)=true:=by
      have:Gq e.op=0:=by unfold Gq;rw[if_neg (by omega),if_neg (by omega),if_neg (by omega),if_neg (by omega)]
      rw[this];rfl
     have b:Fq e=false:=by
      rw[<-I4,Cp];exact λh=>v (h.2.2.1 m)
     have l:=Af b;clear b v m g j;go_wp2_with fail;refine(u.o _).mono ?_;rintro q aw ⟨rfl,rfl⟩;go_wp2
     go_meet
     exact⟨by rw[l.o];rfl,Ae _ _⟩
   .have bu:(e.kind==2)=false:=by simpa using m
    by_cases A:e.kind=3
    .have bb:(e.kind==3)=true:=by simpa using A
     have u:=Af<|FD 4 e.ret bq W (af.o.below au.o);by_cases v:1<=e.ret/\e.ret<=3
     .have av:(AT 4 e.ret==[])=false:=by
       rcases (show e.ret=1∨e.ret=2∨e.ret=3 by omega) with h|h|h<;>rw[h]<;>rfl
      have b:Fq e=true:=(Cp e).2 ⟨g.1,g.2,λh=>absurd h m,λ_=>v⟩;have l:=Af b;clear b v m A g j;unfold BH at u;generalize AT 4 e.ret=bv at*;go_wp2_with fail;refine u.o.mono ?_;rintro q aw ⟨rfl,r⟩;have G:=Af r;clear r u;go_wp2
      go_meet
      exact⟨by rw[l.o];rfl,G.o⟩
     .have av:(AT 4 e.ret==[])=true:=by
       have:AT 4 e.ret=[]:=by
        unfold AT;by_cases bc:1<=e.ret
        .rw[if_pos bc,EP (by have:(Cm 4).length=3:=rfl;omega)];rfl
        .rw[if_neg bc]
       rw[this];rfl
      have b:Fq e=false:=by
       rw[<-I4,Cp];exact λh=>v (h.2.2.2 A)
      have l:=Af b;clear b v m A g j;unfold BH at u;generalize AT 4 e.ret=bv at*;go_wp2_with fail;refine u.o.mono ?_;rintro q aw ⟨rfl,r⟩;have G:=Af r;clear r u;go_wp2
      go_meet
      exact⟨by rw[l.o];rfl,G.o⟩
    .have bb:(e.kind==3)=false:=by simpa using A
     have b:Fq e=true:=(Cp e).2 ⟨g.1,g.2,λh=>absurd h m,λh=>absurd h A⟩;have l:=Af b;clear b m A g j;go_wp2
     go_meet
     exact⟨by rw[l.o];rfl,Ae _ _⟩
  .have a:=j.o;unfold Hw at a;rw[if_neg g] at a
   have b:Fq e=false:=by
    rw[<-I4,Cp];exact λh=>g ⟨h.1,h.2.1⟩
   have l:=Af b;have cr:=λk=>WF k;subst a;clear b g j;go_wp2
   go_meet
   exact⟨by rw[l.o];rfl,Ae _ _⟩
 case rest=>
 obtain⟨rfl,r⟩:=hcut;obtain⟨x,rfl⟩:∃x:U,x=wc:=⟨_,rfl⟩;have G:=Af r;have ah:=Af<|au.o.trans (r.mono au.o.size);have t:=Af<|a9.o.below r ag;clear k0 k4 k7 ag r a9
 cases ai:Fq e with
 |false=>
  obtain⟨L,X⟩:=(af.o.below ah.o).errs 14 (by simp);have B:=Af (show ¬e.Ok from λh=>by have:=(Cp e).2 h.1;rw[ai] at this;cases this);clear ai j;go_wp2;go_ret;exact⟨_,rfl,.inr ⟨B.o,L,rfl⟩,ah.o⟩
 |true=>
  have ax:=Af<|(Cp e).1 ai;have a:=j.o;unfold Hw at a;rw[if_pos ⟨ax.o.1,ax.o.2.1⟩] at a;obtain⟨ba,c,rfl,ay,bd⟩:=a;have l:=Af bd;have bw:=Af ay;have k0:=t.o.cell 0;have k1:=t.o.cell 1;have k2:=t.o.cell 2;have k3:=t.o.cell 3;have k4:=t.o.cell 4;have k5:=t.o.cell 5;have k6:=t.o.cell 6;have k7:=t.o.cell 7;simp only[Aj] at k0 k1 k2 k3 k4 k5 k6 k7;have bz:=Af<|Ah.new x 44 (Aj (e.strip 0));have ar:=Af<|Zc x (K (Aj (e.strip 0)) 44);have ag:=t.o.lt;clear ai j ay bd;go_wp2
  go_loopw [5] (λaz wr=>∃d:Nat,az=I J d/\d<=e.fl.length/\Below x.heap.size x wr/\Ah wr x.heap.size 44 (Aj (e.strip d))/\∀f∈e.fl.take d,e.In f) (λaz _=>6-(intOf az).toNat)
  case atStart=>exact⟨0,rfl,A9 _,ar.o,bz.o,by simp⟩
  case round=>
   obtain⟨d,rfl,be,Y,a0,bf⟩:=hrel;have bg:=(Le e.kind e.op e.ret).2
   change e.fl.length<=5 at bg
   have a1:=Af Y;have bh:=Af a0;have bi:=Af bf;have n:=Af<|t.o.below Y ag;have aj:=Af<|ah.o.trans (Y.mono ah.o.size);have bj:=a0.lt;have a2:=n.o.lt;have k0:=n.o.cell 0;have k1:=n.o.cell 1;have k2:=n.o.cell 2;have k3:=n.o.cell 3;have k4:=n.o.cell 4;have k5:=n.o.cell 5;have k6:=n.o.cell 6;have k7:=n.o.cell 7;simp only[Aj] at k0 k1 k2 k3 k4 k5 k6 k7;have y:=l.o e d wr (G.o.trans (Y.mono G.o.size)) rfl;have ay:=bw.o;by_cases Z:d<e.fl.length
   .obtain⟨f,ak⟩:∃f,e.fl[d]?=E f:=⟨e.fl[d],List.getElem?_eq_getElem Z⟩;have aa:L3 e.fl d=AS f:=by unfold L3;rw[ak]
    have ab:decide (d<e.fl.length)=true:=by simpa using Z
    rw[aa,ab] at y;unfold AS Aj at y;have ac:=Af y;have bk:=Af (λal k=>VM f al k);have cs:=λb0 k=>N7 f b0 k;have ad:=Af ak;go_wp2_with fail;refine ac.o.mono ?_;rintro q bl ⟨rfl,D⟩;have z:=Af D;have b1:=(n.o.below D a2).cell f.off;rw[Ly] at b1;have ct:w.heap.size<bl.heap.size:=ED a2 D.size;go_wp2_with fail;refine(bk.o _ _).mono ?_;rintro q cu ⟨rfl,rfl⟩;have o:=Af<|aj.o.trans (z.o.mono aj.o.size);have i:=Af<|bh.o.below z.o bj;have cv:=Af<|n.o.below z.o a2;obtain⟨L,X⟩:=(af.o.below o.o).errs 15 (by simp);have bm:=Ad _ _ X;by_cases ae:e.get f<f.lo
    .have b2:decide (e.get f<f.lo)=true:=by simpa using ae
     have B:=Af (show ¬e.Ok from λh=>by have:=(h.2.1 f (Ap ad.o)).1;omega);go_wp2;go_ret;exact⟨_,rfl,.inr ⟨B.o,L,rfl⟩,o.o.alloc o.o.size _⟩
    .have b2:decide (e.get f<f.lo)=false:=by simpa using ae
     by_cases am:f.hi<e.get f
     .have b3:decide (f.hi<e.get f)=true:=by simpa using am
      have B:=Af (show ¬e.Ok from λh=>by have:=(h.2.1 f (Ap ad.o)).2;omega);go_wp2;go_ret;exact⟨_,rfl,.inr ⟨B.o,L,rfl⟩,o.o.alloc o.o.size _⟩
     .have b3:decide (f.hi<e.get f)=false:=by simpa using am
      have b4:=Af (show e.In f from⟨by omega,by omega⟩);have a3:=i.o.cell f.off;rw[Ly] at a3;have bn:=i.o.frozen f.off;have b5:=i.o.lt;have bo:d+1<=e.fl.length:=(Am.1 ad.o).1;have b6:=Af bo;go_wp2_with fail;refine(bk.o _ _).mono ?_;rintro q cw ⟨rfl,rfl⟩;go_wp2
      go_roundw
      case rel=>
       (repeat apply Exists.intro)
       refine⟨⟨d+1,by go_num,b6.o,?_,?_,?_⟩,rfl⟩
       .exact((a1.o.trans (z.o.mono a1.o.size)).setCell (p:=⟨x.heap.size,f.off,O⟩) (Aa _) _).alloc (by have:=A8 a1.o.size z.o.size;simpa[World.setCell] using this) _
       .rw[QT e d f ad.o,<-TA];exact(i.o.put _ _).alloc _
       .intro al M;rw[List.take_add_one,ad.o] at M;rcases Eh.1 M with M|M
        .exact bi.o al M
        .obtain rfl:al=f:=by simpa using M
         exact b4.o
      case measure=>simp[intOf]<;>omega
   .have aa:L3 e.fl d=BD:=by unfold L3;rw[EP (by omega)]
    have ab:decide (d<e.fl.length)=false:=by simpa using Z
    rw[aa,ab] at y;unfold BD Aj at y;have ac:=Af y;obtain rfl:d=e.fl.length:=by omega
    have b7:=Af (λk=>Aes (e.strip e.fl.length) k);have b8:=Af (λb9 ca cb cc k=>ZY b9 ca cb cc k);have cx:=Af be;go_wp2_with fail;refine ac.o.mono ?_;rintro q bl ⟨rfl,D⟩;have z:=Af D;have o:=Af<|aj.o.trans (z.o.mono aj.o.size);have i:=Af<|bh.o.below z.o bj;obtain⟨L,X⟩:=(af.o.below o.o).errs 15 (by simp);have bm:=Ad _ _ X;have a3:=i.o.cell 0;have bn:=i.o.cell 1;have cd:=i.o.cell 2;have ce:=i.o.cell 3;have cf:=i.o.cell 4;have cg:=i.o.cell 5;have ch:=i.o.cell 6;have ci:=i.o.cell 7;have b5:=i.o.lt;have a4:=b7.o;have cy:=b8.o;simp only[Aj] at a3 bn cd ce cf cg ch ci;unfold Aj Ev.zero at a4
    cases S:No (e.strip e.fl.length) with
    |true=>
     have cj:=Af (show e.Ok from⟨ax.o,λf ak=>bi.o f (by rwa [List.take_length]),(Lz _).1 S⟩);rw[S] at a4;go_wp2;go_ret;exact⟨_,rfl,.inl ⟨cj.o,rfl⟩,o.o.alloc o.o.size _⟩
    |false=>
     have B:=Af (show ¬e.Ok from λh=>by have:=(Lz _).2 h.2.2;rw[S] at this;cases this);rw[S] at a4;go_wp2;go_ret;exact⟨_,rfl,.inr ⟨B.o,L,rfl⟩,o.o.alloc o.o.size _⟩
theorem TE{k:Int}(h:¬(1<=k/\k<=4)):AT 1 k=[]:=by
 unfold AT;by_cases a:1<=k
 .rw[if_pos a];have:4<=(k-1).toNat:=by omega
  rw[EP (by show(tabs 1).length<=_;exact this)];rfl
 .rw[if_neg a]
theorem w11:AT 1 1=[114,101,103,105,115,116,101,114]:=by rfl
theorem Zj:AT 1 2=[99,111,117,110,116,101,114]:=by rfl
theorem w13:AT 1 3=[113,117,101,117,101]:=by rfl
theorem w14:AT 1 4=[109,97,112]:=by rfl
theorem Acj(kind a:Int):(⟨kind,a⟩:Ob).okB=(decide (1<=kind/\kind<=4)&& !(decide (a< -1000000000)||decide (1000000000<a))&&(kind==1||kind==2||a==0)):=by
 unfold Ob.okB;simp only;by_cases b:1<=kind<;>by_cases d:kind<=4<;>by_cases e:a< -1000000000<;>by_cases g:1000000000<a<;>simp[b,d,e,g]<;>omega
theorem Np(kind b:Int)(n:kind<=9223372036854775807)(w:U)(j:AE w):Calls prog 62 #[.agg #[kind,b]] w λo y=>∃p,o=R p/\Abt ((⟨kind,b⟩:Ob).okB=true) p/\Below w w y:=by
 have k:=Zc w<|K #[kind,b] 71;have a:=FD 1 kind n _<|j.below k;have q:=Af k;have l:=Af<|Ah.new w 71 #[kind,b];have r:=l.o.cell 0;have t:=l.o.cell 1;have u:=Af j;rw[Acj];by_cases m:1<=kind/\kind<=4
 .have z:kind=1∨kind=2∨kind=3∨kind=4:=by omega
  rcases z with rfl|rfl|rfl|rfl
  all_goals
   first|rw[w11] at a|rw[Zj] at a|rw[w13] at a|rw[w14] at a
   unfold BH at a;have i:=Af a
   cases S:decide (b< -1000000000)<;>cases W:decide (1000000000<b)<;>cases v:(b==0)
  all_goals have A:(b !=0)= !(b==0):=rfl
  all_goals rw[v] at A
  all_goals clear v
  all_goals
   go_in;go_wp2_with fail;refine i.o.mono ?_;rintro o B ⟨rfl,d⟩;have e:=Af<|q.o.trans (d.mono (by simp));have g:=Af<|l.o.below d (by simp);have D:=g.o.cell 0;have F:=g.o.cell 1;have G:=g.o.lt;let⟨L,M⟩:=(u.o.below e).errs 9 (by simp);go_wp2;go_ret
   first
    |exact⟨_,rfl,.inl ⟨by simp_all,rfl⟩,e⟩
    |exact⟨_,rfl,.inr ⟨by simp_all,_,rfl⟩,e⟩
 .rw[TE m] at a;unfold BH at a;have x:decide (1<=kind/\kind<=4)=false:=by simpa using m
  rw[x];have i:=Af a;have X:(kind==1)=false:=by simp;omega
  have Y:(kind==2)=false:=by simp;omega
  go_in;go_wp2_with fail;refine i.o.mono ?_;rintro o B ⟨rfl,d⟩;have e:=Af<|q.o.trans (d.mono (by simp));have g:=Af<|l.o.below d (by simp);have D:=g.o.cell 0;have F:=g.o.cell 1;have G:=g.o.lt;let⟨L,M⟩:=(u.o.below e).errs 9 (by simp);go_wp2;go_ret
  first
   |exact⟨_,rfl,.inl ⟨by simp_all,rfl⟩,e⟩
   |exact⟨_,rfl,.inr ⟨by simp_all,_,rfl⟩,e⟩
namespace Sg
structure Gm (N K S:Type) where
 key:N->K
 turns:N->List (S×N)
 all:N->Bool
structure Bf (N K:Type) where
 met:List K
 todo:List N
 order:List N
section
variable {N K S:Type} [DecidableEq K] (g:Gm N K S)
def put(most:Nat)(b:Bf N K)(n:N):Option (Bf N K):=
 if g.key n∈b.met then E b else if b.met.length=most then O else E ⟨b.met++[g.key n],b.todo++[n],b.order++[n]⟩
def puts(most:Nat):Bf N K->List (S×N)->Option (Bf N K)
 |a,[]=>E a
 |a,b::d=>(put g most a b.2).bind λa=>puts most a d
def go(most:Nat):Nat->Bf N K->Option (Bf N K)
 |0,_=>O
 |f+1,a=>match a.todo with
  |[]=>E a
  |b::d=>(puts g most ⟨a.met,d,a.order⟩ (g.turns b)).bind (go most f)
def run(most fuel:Nat)(n:N):Option (Bf N K):=(put g most ⟨[],[],[]⟩ n).bind (go g most fuel)
def lead1(L:K->Bool)(n:N):Bool:=g.all n||(g.turns n).any λa=>L (g.key a.2)
def leads:List N->K->Bool
 |[],_=>false
 |a::b,d=>if d=g.key a then lead1 g (leads b) a else leads b d
def least(L:K->Bool):Nat->N->List S
 |0,_=>[]
 |f+1,b=>if g.all b then [] else match (g.turns b).find? λa=>L (g.key a.2) with
  |some a=>a.1::least L f a.2
  |none=>[]
def Bf.mes(most:Nat)(b:Bf N K):Nat:=(most-b.met.length)+b.todo.length
variable {g}
theorem FL{most:Nat}{b:Bf N K}{n:N}:put g most b n=b/\g.key n∈b.met∨put g most b n=O/\g.key n∉b.met/\b.met.length=most∨put g most b n=E ⟨b.met++[g.key n],b.todo++[n],b.order++[n]⟩/\g.key n∉b.met/\b.met.length≠most:=by
 unfold put;by_cases h:g.key n∈b.met
 .exact .inl ⟨if_pos h,h⟩
 .rw[if_neg h];by_cases a:b.met.length=most
  .exact .inr (.inl ⟨if_pos a,h,a⟩)
  .exact .inr (.inr ⟨if_neg a,h,a⟩)
theorem put_mes{most:Nat}{b b':Bf N K}{n:N}(h:put g most b n=b')(d:b.met.length<=most):b'.mes most<=b.mes most/\b'.met.length<=most/\b.met.length<=b'.met.length:=by
 rcases FL (g:=g) (most:=most) (b:=b) (n:=n) with ⟨a,_⟩|⟨a,_⟩|⟨a,_,e⟩
 .rw[a] at h;injection h with h;subst h;exact⟨Aa _,d,Aa _⟩
 .rw[a] at h;cases h
 .rw[a] at h;injection h with h;subst h;unfold Bf.mes;simp only[Ef,E3];omega
theorem PA{m':Nat}{b b':Bf N K}{n:N}(h:put g m b n=b'):(b'.met.length<=m'->put g m' b n=b')/\(b.met.length<=m'->m'<b'.met.length->put g m' b n=O):=by
 rcases FL (g:=g) (most:=m) (b:=b) (n:=n) with ⟨a,d⟩|⟨a,_⟩|⟨a,d,j⟩
 .rw[a] at h;injection h with h;subst h;exact⟨λ_=>by unfold put;rw[if_pos d],λi e=>absurd e (by omega)⟩
 .rw[a] at h;cases h
 .rw[a] at h;injection h with h;subst h;simp only[Ef,E3];exact⟨λk=>by unfold put;rw[if_neg d,if_neg (by omega)],λi e=>by unfold put;rw[if_neg d,if_pos (by omega)]⟩
theorem Sj{b b':Bf N K}{n:N}(h:put g m b n=b'):b.met.length<=b'.met.length:=by
 rcases FL (g:=g) (most:=m) (b:=b) (n:=n) with ⟨a,_⟩|⟨a,_⟩|⟨a,_,d⟩
 .rw[a] at h;injection h with h;subst h;exact Aa _
 .rw[a] at h;cases h
 .rw[a] at h;injection h with h;subst h;simp
theorem LA{l:List (S×N)}:∀ {b b':Bf N K},puts g m b l=b'->b.met.length<=b'.met.length:=by
 induction l with
 |nil=>intro b b' h;injection h with h;subst h;exact Aa _
 |cons i l a=>
  intro b b' h;simp only[puts,Fv] at h;obtain⟨j,d,e⟩:=h;exact A8 (Sj d)<|a e
theorem TF{m':Nat}{l:List (S×N)}:∀ {b b':Bf N K},puts g m b l=b'->(b'.met.length<=m'->puts g m' b l=b')/\(b.met.length<=m'->m'<b'.met.length->puts g m' b l=O):=by
 induction l with
 |nil=>intro b b' h;injection h with h;subst h;exact⟨λ_=>rfl,λd a=>absurd a (by omega)⟩
 |cons u l n=>
  intro b b' h;simp only[puts,Fv] at h;obtain⟨o,e,i⟩:=h;have v:=Sj e;have w:=LA i;let⟨j,p⟩:=PA (m':=m') e;let⟨d,a⟩:=n i;refine⟨λq=>by simp only[puts];rw[j (by omega)];exact d q,λr t=>?_⟩;simp only[puts];by_cases k:o.met.length<=m'
  .rw[j k];exact a k t
  .rw[p r (by omega)];rfl
theorem QW:∀ {f:Nat} {b b':Bf N K},go g m f b=b'->b.met.length<=b'.met.length:=by
 intro f
 induction f with
 |zero=>intro b b' h;cases h
 |succ f a=>
  intro b b' h;unfold go at h
  split at h
  .injection h with h;subst h;exact Aa _
  .let⟨j,d,e⟩:=Fv.1 h;have i:=LA d;exact A8 i<|a e
theorem Aac{m':Nat}:∀ {f:Nat} {b b':Bf N K},go g m f b=b'->(b'.met.length<=m'->go g m' f b=b')/\(b.met.length<=m'->m'<b'.met.length->go g m' f b=O):=by
 intro f
 induction f with
 |zero=>intro b b' h;cases h
 |succ f l=>
  intro b b' h;unfold go at h|-
  split at h
  .injection h with h;subst h;exact⟨λ_=>rfl,λd a=>absurd a (by omega)⟩
  .let⟨n,e,i⟩:=Fv.1 h;have t:=LA e;have u:=QW i;let⟨j,o⟩:=TF (m':=m') e;let⟨d,a⟩:=l i;refine⟨λp=>by rw[j (by omega)];exact d p,λq r=>?_⟩;by_cases k:n.met.length<=m'
   .rw[j k];exact a k r
   .rw[o q (by omega)];rfl
theorem run_more{m' f:Nat}{n:N}{b:Bf N K}(h:run g m f n=b):(b.met.length<=m'->run g m' f n=b)/\(m'<b.met.length->run g m' f n=O):=by
 unfold run at h|-;let⟨i,j,a⟩:=Fv.1 h;have r:=QW a;let⟨d,k⟩:=PA (m':=m') j;let⟨l,o⟩:=Aac (m':=m') a;refine⟨λp=>by rw[d (by omega)];exact l p,λq=>?_⟩;by_cases e:i.met.length<=m'
 .rw[d e];exact o e q
 .rw[k (A9 _) (by omega)];rfl
theorem run_some{f:Nat}{n:N}{b:Bf N K}(h:run g m f n=b):1<=b.met.length:=by
 unfold run at h;let⟨j,a,e⟩:=Fv.1 h;have:=QW e;rcases FL (g:=g) (most:=m) (b:=⟨[],[],[]⟩) (n:=n) with ⟨d,i⟩|⟨d,_⟩|⟨d,_⟩
 .cases i
 .rw[d] at a;cases a
 .rw[d] at a;injection a with a;subst a;simpa using this
structure Bf.Ok (g:Gm N K S) (P:N->Prop) (b:Bf N K):Prop where
 keys:b.met=b.order.map g.key
 nodup:b.met.Nodup
 todo:∀n∈b.todo,P n
 order:∀n∈b.order,P n
theorem Bf.Ok.nil(g:Gm N K S)(P:N->Prop):Bf.Ok g P ⟨[],[],[]⟩:=⟨rfl,List.nodup_nil,(λ_ h=>by cases h),(λ_ h=>by cases h)⟩
theorem Bf.Ok.put{P:N->Prop}{most:Nat}{b b':Bf N K}{n:N}(h:b.Ok g P)(j:P n)(d:put g most b n=b'):b'.Ok g P:=by
 rcases FL (g:=g) (most:=most) (b:=b) (n:=n) with ⟨e,_⟩|⟨e,_⟩|⟨e,l,_⟩
 .rw[e] at d;injection d with d;subst d;exact h
 .rw[e] at d;cases d
 .rw[e] at d;injection d with d;subst d;refine⟨by simp[h.keys],?_,?_,?_⟩
  .rw[List.nodup_append];refine⟨h.nodup,by simp,?_⟩;rintro o m b k rfl;rw[List.mem_singleton] at k;subst k;exact l m
  .intro i a;rcases Eh.1 a with a|a
   .exact h.todo i a
   .rw[List.mem_singleton] at a;subst a;exact j
  .intro i a;rcases Eh.1 a with a|a
   .exact h.order i a
   .rw[List.mem_singleton] at a;subst a;exact j
theorem Bf.Ok.take{P:N->Prop}{b:Bf N K}{n:N}{r:List N}(h:b.Ok g P)(a:b.todo=n::r):P n/\Bf.Ok g P ⟨b.met,r,b.order⟩:=⟨h.todo n (by simp[a]),h.keys,h.nodup,λd e=>h.todo d (by simp[a,e]),h.order⟩
theorem leads_on{P:N->Prop}(t:∀a b,P a->P b->g.key a=g.key b->a=b):∀ {l:List N},(l.map g.key).Nodup->(∀d∈l,P d)->∀ {d:N},P d->leads g l (g.key d)=true->g.all d=true∨∃j∈g.turns d,leads g l (g.key j.2)=true:=by
 intro l
 induction l with
 |nil=>intro _ _ d _ h;cases h
 |cons a l p=>
  intro i m d n h;rw[G9,List.nodup_cons] at i
  have q:∀k,leads g l k=true->leads g (a::l) k=true:=by
   intro k e
   have u:k≠g.key a:=by
    rintro rfl;refine i.1 ?_;clear i m h p n
    induction l with
    |nil=>cases e
    |cons c l v=>
     unfold leads at e;by_cases r:g.key a=g.key c
     .simp[r]
     .rw[if_neg r] at e;exact List.mem_cons_of_mem _<|v e
   unfold leads;rw[if_neg u];exact e
  unfold leads at h;by_cases e:g.key d=g.key a
  .rw[if_pos e] at h;obtain rfl:=t d a n (m a (by simp)) e;unfold lead1 at h;rcases Bool.or_eq_true_iff.1 h with h|h
   .exact .inl h
   .let⟨j,o,h⟩:=List.any_eq_true.1 h;exact .inr ⟨j,o,q _ h⟩
  .rw[if_neg e] at h;rcases p i.2 (λd i=>m d (by simp[i])) n h with h|⟨j,o,h⟩
   .exact .inl h
   .exact .inr ⟨j,o,q _ h⟩
end
end Sg
structure Nd where
 placed:Nat
 st:List AO
abbrev CE:=Int×Bool
structure Bg where
 level:Int
 txs:List St
 masks:List Nat
 first:List AO
def JE(s:St):Bool:=s.status==3||s.status==2
def Bg.skips(g:Bg)(n:Nd)(i:Nat):Bool:=n.placed.testBit i||((g.masks[i]?).getD 0&&&n.placed !=(g.masks[i]?).getD 0)
def Bg.turn(g:Bg)(n:Nd)(i:Nat)(t:St):List (CE×Nd):=
 if g.skips n i then [] else
  (match AP n.st t.deeds with|some a=>if JE t then [((t.id,true),⟨n.placed|||1<<<i,a⟩)] else []|none=>[])++
   (if t.status !=3&&(g.level !=3||(AP n.st t.deeds).isSome) then [((t.id,false),⟨n.placed|||1<<<i,n.st⟩)] else [])
def Bg.turnsFrom(g:Bg)(n:Nd):Nat->List St->List (CE×Nd)
 |_,[]=>[]
 |a,b::d=>g.turn n a b++g.turnsFrom n (a+1) d
def Bg.gm(g:Bg):Sg.Gm Nd (Nat×List UInt8) CE:=⟨λa=>(a.placed,keyOf a.st),λa=>g.turnsFrom a 0 g.txs,λa=>a.placed==1<<<g.txs.length-1⟩
def Bg.root(g:Bg):Nd:=⟨0,g.first⟩
def Dm(level:Int)(b:St):Nat->List St->Nat->Nat
 |_,[],a=>a
 |d,e::g,a=>Dm level b (d+1) g (if level≠1/\B8 e b=true then a|||1<<<d else a)
def CV(level:Int)(l:List St):List Nat:=l.map λa=>Dm level a 0 l 0
def Cq(o:Ob):AO:=⟨o.kind,o.init,[],[]⟩
def BF(os:List Ob)(txs:List St)(level:Int):Bg:=⟨level,txs.filter (Be · level),CV level (txs.filter (Be · level)),os.map Cq⟩
def Bg.search(g:Bg)(most:Nat):Option (Bool×List CE×Nat):=
 (Sg.run g.gm most 152 g.root).map λa=>if Sg.leads g.gm a.order (g.gm.key g.root) then(true,Sg.least g.gm (Sg.leads g.gm a.order) 13 g.root,a.met.length) else(false,[],a.met.length)
def PB(os:List Ob)(es:List Ev)(level:Int)(most:Nat):Option (Bool×List CE×Nat):=
 match AR es with
 |some txs=>if 12<txs.length then O else(BF os txs level).search most
 |none=>O
theorem Fi{g:Bg}{m':Nat}{y:Bool}{s:List CE}{p:Nat}(h:g.search m=E (y,s,p)):(p<=m'->g.search m'=E (y,s,p))/\(m'<p->g.search m'=O)/\1<=p:=by
 unfold Bg.search at h|-;let⟨d,b,a⟩:=Option.map_eq_some_iff.1 h;let⟨e,i⟩:=Sg.run_more (m':=m') b;have k:=Sg.run_some b
 have l:p=d.met.length:=by
  split at a<;>(injection a with _ a;injection a with _ a;exact a.symm)
 refine⟨λj=>?_,λj=>?_,by omega⟩
 .rw[e (by omega),Option.map_some,a]
 .rw[i (by omega)];rfl
def Nd.Ok(g:Bg)(a:List Int)(n:Nd):Prop:=n.placed<1<<<g.txs.length/\DC a n.st
theorem Acn{g:Bg}{d:List Int}(a b:Nd)(k:a.Ok g d)(l:b.Ok g d)(h:g.gm.key a=g.gm.key b):a=b:=by
 obtain⟨m,s⟩:=a;obtain⟨n,o⟩:=b;injection h with e i;simp only at e i;have j:=Te k.2 l.2 i;simp only at j;subst e j;rfl
theorem LB{g:Bg}{n:Nd}{t:St}{x:CE×Nd}(h:x∈g.turn n i t):n.placed.testBit i=false/\x.2.placed=n.placed|||1<<<i/\(x.2.st=n.st∨AP n.st t.deeds=x.2.st):=by
 unfold Bg.turn at h
 split at h
 .cases h
 case isFalse a=>
  unfold Bg.skips at a;simp only[H1,not_or,I4] at a;refine⟨a.1,?_⟩;rcases Eh.1 h with h|h
  .split at h
   case h_1 d b=>
    split at h
    .rw[List.mem_singleton] at h;subst h;exact⟨rfl,.inr b⟩
    .cases h
   case h_2=>cases h
  .split at h
   .rw[List.mem_singleton] at h;subst h;exact⟨rfl,.inl rfl⟩
   .cases h
theorem Km{g:Bg}{n:Nd}{x:CE×Nd}:∀ {l:List St} {i:Nat},x∈g.turnsFrom n i l->∃(a:Nat) (b:St),l[a]?=b/\x∈g.turn n (i+a) b:=by
 intro l
 induction l with
 |nil=>intro i h;cases h
 |cons d l e=>
  intro i h;unfold Bg.turnsFrom at h;rcases Eh.1 h with h|h
  .exact⟨0,d,rfl,h⟩
  .let⟨a,b,j,k⟩:=e h;exact⟨a+1,b,by simpa using j,by rw[show i+(a+1)=i+1+a by omega];exact k⟩
theorem WQ{g:Bg}{b:List Int}{n:Nd}(a:n.Ok g b):∀t∈g.gm.turns n,Nd.Ok g b t.2:=by
 intro t e;let⟨m,s,i,j⟩:=Km e;let⟨_,k,h⟩:=LB j;have l:=(Am.1 i).1;refine⟨?_,?_⟩
 .rw[k];rw[IB,IB];have d:=a.1;rw[IB] at d;exact Nat.or_lt_two_pow d (by rw[Nat.zero_add];exact Nat.pow_lt_pow_right (by omega) l)
 .rcases h with h|h
  .rw[h];exact a.2
  .exact Ky a.2 h
def KK(p:Nat):Nat->Nat
 |0=>0
 |a+1=>KK p a+if p.testBit a then 0 else 1
theorem KW(p:Nat):∀k,KK p k<=k
 |0=>Aa _
 |k+1=>by unfold KK;have:=KW p k;split<;>omega
theorem Sk{p:Nat}(h:p.testBit i=false):∀k,KK (p|||1<<<i) k+(if i<k then 1 else 0)=KK p k
 |0=>by simp[KK]
 |k+1=>by
  have a:=Sk h k;unfold KK
  have d:(p|||1<<<i).testBit k=(p.testBit k||decide (i=k)):=by
   rw[ON,IB,OO]
  rw[d];by_cases b:i=k
  .subst b;simp only[h,decide_true,Bool.or_true,if_true,Nat.lt_irrefl,if_false,Nat.lt_succ_self] at a|-;simp;omega
  .have:(i<k+1)↔(i<k):=by omega
   simp only[b,decide_false,Bool.or_false,this];by_cases e:p.testBit k=true<;>by_cases g:i<k<;>simp[e,g] at a|-<;>omega
theorem LC{g:Bg}{n:Nd}:∀t∈g.gm.turns n,KK t.2.placed g.txs.length<KK n.placed g.txs.length:=by
 intro t a;let⟨j,s,b,d⟩:=Km a;let⟨e,i,_⟩:=LB d;have k:=(Am.1 b).1;have:=Sk e g.txs.length;rw[if_pos (by omega)] at this;rw[i];omega
theorem GO(n:Int)(g: -9223372036854775808<=n)(i:n<=9223372036854775807)(w:U)(d:G3 prog w "internal/strconv.uint64pow10" .u64 G4):
 Calls prog 67 #[n] w λa b=>a=R (.string ⟨(Ei n).toArray⟩)/\Below w w b:=by
 have j:=Af<|(Tryz.strconv_Itoa n g i w d).mono (R':=λa b=>a=R (.string ⟨(Ei n).toArray⟩)/\Below w w b) (λa b ⟨k,o,p,l⟩=>⟨k,l▸Lib.below_grow _ _ (Aa _) _ _⟩);go_in;go_wp2_with fail;refine j.o.mono ?_;rintro a q ⟨rfl,e⟩;have m:=Af e;go_wp2;go_ret;exact⟨rfl,m⟩
theorem Aai(l:List UInt8)(o:l.length<=1000000000)(v:Int)(h:number l=v)(w:U)(g:G3 prog w "internal/strconv.uint64pow10" .u64 G4):
 Calls prog 260 #[.string ⟨l.toArray⟩] w λb p=>b=R (.tuple #[v,.nilIface])/\Below w w p:=by
 let⟨d,y,z⟩:=M3 h;have i:Lib.atoiAll l=.ok v:=by rw[<-d];exact JV v (by omega) (by omega)
 have j:=Af<|Zq l o v i w;have e:=Af (λk (q:G3 prog k "internal/strconv.uint64pow10" .u64 G4)=>GO v (by omega) (by omega) k q);rw[d] at e;have r:=Af g;go_in;go_wp2_with fail;refine j.o.mono ?_;rintro b t ⟨rfl,a⟩;have m:=JW r a;have n:=Af a;have u:=Af<|e.o t m;go_wp2_with fail;refine u.o.mono ?_;rintro b A ⟨rfl,a⟩;have x:=Af<|n.o.trans (a.mono n.o.size);go_wp2;go_ret2;exact⟨rfl,x⟩
section
open Go.Sort Go.Shelf
theorem Az.keys{W:U}{f:Int->Option N}(h:Az W b n f)(l:List Int)(k:l.Nodup)(m:∀x,x∈l↔(f x).isSome=true):
 ∃a:DataW N,W.ownsMap prog 3 Cf b n a/\l.Perm (intKeys a)/\H4 a=l.length:=by
 obtain⟨a,e,o,g⟩:=h
 have i:l.Perm (intKeys a):=by
  refine UN (left:=λ_=>false) ⟨k,λx=>?_⟩ e Mb underlying3 (λ_=>rfl);rw[m x]
  have:Maps.has a (AV x)=(f x).isSome:=by
   cases j:f x with
   |none=>exact Maps.has_false_of_atKey (λd=>by rw[g x d,j];rfl)
   |some p=>exact Maps.has_true_of_atKey (y:=.held p) (λd=>by rw[g x d,j];rfl)
  rw[<-this];simp[AV]
 refine⟨a,e,i,?_⟩;obtain⟨q,rfl⟩:=o;rw[i.length_eq];simp[intKeys,H4]
theorem NG(m:Nat):AnyZI.SortsIn prog Tryz.zqa Fence.wide m:=
 ⟨λd e a g b i j k=>Dh.2 (AnyM.slices_Sort_int Tryz.sortA d e a g b i j k),
  λl a b=>Dh.2 (AnyM.slices_Sort_int_none Tryz.sortA l a b)⟩
end
abbrev L1:List (String×DataW Unit):=[("umpire/api.ErrBudget",Rows.laid_umpire_api_ErrBudget),("umpire/api.ErrIndex",Rows.laid_umpire_api_ErrIndex),("umpire/api.ErrTooMany",Rows.laid_umpire_api_ErrTooMany),("umpire/api.ErrMany",Rows.laid_umpire_api_ErrMany),("umpire/api.ErrObject",Rows.laid_umpire_api_ErrObject),("umpire/api.ErrOp",Rows.laid_umpire_api_ErrOp),("umpire/event.objects",Rows.laid_umpire_event_objects),("umpire/event.events",Rows.laid_umpire_event_events),("umpire/event.ops",Rows.laid_umpire_event_ops),("umpire/event.answers",Rows.laid_umpire_event_answers),("umpire/event.states",Rows.laid_umpire_event_states),("umpire/event.levels",Rows.laid_umpire_event_levels),("umpire/api.ErrCode",Rows.laid_umpire_api_ErrCode),("umpire/api.ErrEvent",Rows.laid_umpire_api_ErrEvent),("umpire/api.ErrTwice",Rows.laid_umpire_api_ErrTwice),("umpire/api.ErrThread",Rows.laid_umpire_api_ErrThread),("umpire/api.ErrTx",Rows.laid_umpire_api_ErrTx),("umpire/api.ErrOrder",Rows.laid_umpire_api_ErrOrder),("umpire/api.ErrAnswer",Rows.laid_umpire_api_ErrAnswer),("umpire/api.ErrLevel",Rows.laid_umpire_api_ErrLevel),("umpire/api.ErrStop",Rows.laid_umpire_api_ErrStop),("internal/strconv.uint64pow10",Rows.laid_internal_strconv_uint64pow10),("math/bits.deBruijn32tab",Rows.laid_math_bits_deBruijn32tab),("math/bits.deBruijn64tab",Rows.laid_math_bits_deBruijn64tab),("umpire/api.ErrHolds",Rows.laid_umpire_api_ErrHolds),("umpire/api.ErrPremise",Rows.laid_umpire_api_ErrPremise),("umpire/api.ErrProg",Rows.laid_umpire_api_ErrProg),("umpire/api.ErrLong",Rows.laid_umpire_api_ErrLong),("umpire/api.ErrEnd",Rows.laid_umpire_api_ErrEnd),("unicode/utf8.acceptRanges",Rows.laid_unicode_utf8_acceptRanges),("umpire/api.ErrWords",Rows.laid_umpire_api_ErrWords),("umpire/api.ErrWord",Rows.laid_umpire_api_ErrWord),("umpire/api.ErrNumber",Rows.laid_umpire_api_ErrNumber),("strconv.ErrSyntax",Rows.laid_strconv_ErrSyntax),("strconv.ErrRange",Rows.laid_strconv_ErrRange),("umpire/api.ErrCert",Rows.laid_umpire_api_ErrCert),("umpire/prog.acts",Rows.laid_umpire_prog_acts)]
abbrev AbP:List LaidKind:=[.sentinel,.sentinel,.sentinel,.sentinel,.sentinel,.sentinel,.data,.data,.data,.data,.data,.data,.sentinel,.sentinel,.sentinel,.sentinel,.sentinel,.sentinel,.sentinel,.sentinel,.sentinel,.data,.data,.data,.sentinel,.sentinel,.sentinel,.sentinel,.sentinel,.data,.sentinel,.sentinel,.sentinel,.sentinel,.sentinel,.sentinel,.data]
def Qi(T:List (List Nat)):Nat->List Nat->List Nat->Nat->Option (List Nat)
 |0,_,_,_=>O
 |_+1,[],seen,_=>E seen.reverse
 |b+1,f::d,seen,a=>bif a.testBit f then Qi T b d seen a else Qi T b (T.getD f []++d) (f::seen) (a|||1<<<f)
theorem FA{P:Program}{T:List (List Nat)}(a:P.funcs.toList.map P.leadsTo=T):∀(n:Nat) (b seen:List Nat) (m:Nat) (r:List Nat),(∀f,m.testBit f=seen.contains f)->Qi T n b seen m=r->P.closureVia n b seen=r
 |0,_,_,_,_,_,h=>by cases h
 |_+1,[],_,_,_,_,h=>Option.some.inj h
 |n+1,f::b,seen,m,r,d,h=>by
  have j:(P.funcs[f]?).elim [] P.leadsTo=T.getD f []:=by
   subst a;rw[List.getD_eq_getElem?_getD,List.getElem?_map,Array.getElem?_toList]
   cases P.funcs[f]?<;>rfl
  unfold Qi at h;unfold UO;rw[d f] at h
  cases g:seen.contains f
  .rw[g,cond_false] at h;rw[if_neg (by simp),j];refine FA a n _ _ _ r (λe=>?_) h;rw[ON,d e,IB,OO,List.contains_cons];by_cases i:f=e
   .subst i;simp
   .have:(e==f)=false:=by simp;omega
    simp[i,this]
  .rw[g,cond_true] at h;rw[if_pos rfl];exact FA a n _ _ _ r d h
theorem RK{P:Program}{T:List (List Nat)}(a:P.funcs.toList.map P.leadsTo=T){f:Nat}{r:List Nat}(h:Qi T (1+(T.map (·.length+1)).sum) [f] [] 0=r):P.closure f=r:=by
 unfold UP
 have d:(P.funcs.toList.map λb=>(P.leadsTo b).length+1)=T.map (·.length+1):=by
  subst a;rw[List.map_map];rfl
 rw[d];exact FA a _ _ _ _ _ (λb=>by simp) h
end Go.Proofs.YtpoacbcnhpbdmaaGreatDoor
