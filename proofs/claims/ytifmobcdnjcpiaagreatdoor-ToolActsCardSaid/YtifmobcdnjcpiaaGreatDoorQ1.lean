/- A part of the proof of the statements of this seat: plain functions, and laws on them. No condition of its own. -/
import Derived.Test.YtifmobcdnjcpiaaGreatDoorQ0
import Derived.RangeFuncNested
import Derived.RangeFuncBox
import Derived.RangeFuncLeaves
import Derived.Shelf.Abstract
import Derived.WalkKit
import Derived.OwnWalkIn
import Derived.TacticsInMore
import Derived.LoopNIn
import Derived.LoopIn
import Derived.Maps.AppendAt
import Derived.Test.YtifmobcdnjcpiaaGreatDoorProg
import Derived.Conc.LoneCalls
import Derived.KernelRfl
import Derived.Laws.Rows
import Derived.Conc.LoneSelectN
import Derived.Conc.Own5
import Derived.Lib.Bytealg
import Derived.Shelf.Strings.Builder1
import Derived.Shelf.Strings.Builder2
import Derived.Shelf.Strings.OnBuilder
import Derived.Shelf.Strings.Search1
import Derived.Shelf.Strings.Search2
import Derived.Shelf.Strings.Search3
import Derived.Shelf.Strings.Count
set_option linter.unusedVariables false
set_option linter.unusedSimpArgs false
set_option linter.defProp false
noncomputable section
open Go Yp
variable {a e no:Int}{l:List V}{c cap i k m n r s w x:Nat}{α:Type}{b b9 key:V}
namespace Yp
open Go
def Mc{n:N}(ah:i' n):jI (jE n)=true:=by
 obtain⟨jY,c,cH,rs,g,no,k,d,⟨⟩⟩:=n;have gD:=ur.1 ah;obtain⟨ai,bp,ax,eG,gt,sQ,ap⟩:=gD;have f11:=λn=>se (no:=11) (w:=6) (n:=n) Cv J;have f15:=λn=>se (no:=15) (w:=6) (n:=n) Ra J;have f39:=λn=>se (no:=39) (w:=2) (n:=n) K5 J;have f53:=λn=>se (no:=53) (w:=16) (n:=n) ZW J;have f70:=λn=>se (no:=70) (w:=3) (n:=n) Rb J;unfold jE jI;cases jY
 .simp[fF,f11,f39,f70,ig]
 by_cases O:c=101
 .subst O
  obtain⟨g1,bw,aj,zG,aF⟩:=ap;simp[fF,f11,f53,f70,ZS zG,ZT aj,ig]
 by_cases R:c=201
 .subst R
  simp[fF,f11,f15,f70,ig]
 simp[fF,f11,f70,ig,O,R]
def acZ{n:N}(ah:i' n):nW (jE n):=by
 obtain⟨jY,c,cH,rs,g,no,k,d,⟨⟩⟩:=n;have gD:=ur.1 ah;obtain⟨ai,bp,ax,eG,gt,sQ,ap⟩:=gD;unfold jE nW;cases jY
 .simp[na]
 by_cases O:c=101
 .subst O
  obtain⟨g1,bw,aj,zG,aF⟩:=ap;simp[na,nh,zG,aj]
 by_cases R:c=201
 .subst R
  simp[na]
 simp[na,O,R]
def mr(n:N):V×Int×Unit:=if i' n then(gO (jE n),0,()) else([],1,())
def Mn(n:N):pP (n,())=some (mr n):=by
 unfold pP mr;by_cases h:i' n
 .simp only[go_sem,Tw,cD h,adm h,SU (jE n) (acZ h).w9,Mc h]
  grind
 simp only[go_sem,Tw,cC h]
 grind
def xJ:N:=(false,0,0,0,0,[],[],0,())
def Fb(n:N)(r:Int):N×Int×Unit:=if n.1=false then(xJ,9,()) else if r<0\/99<r then(xJ,1,()) else((false,n.2.1,n.2.2.1,r,0,[],[],0,()),0,())
def Tv(n:N)(r:Int):qF (n,r,())=some (Fb n r):=by
 obtain⟨cG,cQ,a3,a4,a5,ayR,ayS,ayT,⟨⟩⟩:=n;unfold qF Fb xJ;cases cG<;>by_cases h:r<0\/99<r
 all_goals simp only[go_sem,h]
 all_goals simp[h]
def oj(v:V):Int:=if 1<=v.length/\v.length<=18/\fZ v then((val v:Nat):Int) else 0
def Bm(s:V):V:=if s.length%2=0/\zE s then oi s else[]
def mJ(m:M)(no:Int):V:=(hI no m.2.1).1
def qN(m:M):N:=(D (m.1=800),oj (mJ m 70),oj (mJ m 11),oj (mJ m 39),oj (mJ m 53),mJ m 96,Bm (mJ m 48),oj (mJ m 15),())
def ls(b:V):N×Int×Unit:=if(fy b).2.1=0 then(if i' (qN (fy b).1)/\jE (qN (fy b).1)=(fy b).1 then(qN (fy b).1,0,()) else(xJ,2,())) else(xJ,(fy b).2.1,())
def anV{l:List b0}:(hI no l).1=[]\/∃v∈l,v.1=no/\(hI no l).1=v.2.1:=by
 induction l with
 |nil=>exact .inl rfl
 |cons v r ih=>
  unfold hI
  grind
def anv{k l:Int}(h:fM no=some (k,l)):l<=400:=by
 unfold fM at h;rw[k4]at h;have:∀r∈F3,ak r 1 0<=400:=bP
 grind
def Q_{v:V}(h:gB no v=true):v.length<=400:=by
 obtain⟨k,l,O,R⟩:=u_.1 h;have:=anv O;have af:=R.2;unfold kM at af
 grind
def anT{m:M}(ah:jI m=true)(no:Int):(hI no m.2.1).1.length<=400:=by
 rcases anV (l:=m.2.1) (no:=no) with h|⟨v,aC,_,h⟩
 .grind
 rw[h];exact Q_ (v6 (pV.1 ah).1 v aC).2
def I8(s:V):∃e,r8 (s,())=some (oj s,e,()):=by rw[FJ];unfold oj;split<;>exact⟨_,rfl⟩
def ax6(s:V)(hl:s.length<=1000000):∃e,Ch (s,())=some (Bm s,e,()):=by rw[QK _ hl];unfold Bm;split<;>exact⟨_,rfl⟩
def adk(b:V)(hl:b.length<=1000000):Dr (b,())=some (ls b):=by
 unfold Dr ls;refine bg (ST b hl) ?_;by_cases ao:(fy b).2.1=0
 .obtain⟨m,hm⟩:∃m,fy b=(m,0,()):=⟨(fy b).1,by rw[<- ao]⟩
  obtain⟨ah,bb⟩:=MR hm;have zH:=avt (b:=b);rw[hm]at zH ⊢;have hf:=(pV.1 ah).1;have g:∀no,qz (m,no,())=some (hI no m.2.1):=λno=>by rw[SS m no (by grind),Rn hf]
  have gl:=anT ah;obtain⟨e1,v70⟩:=I8 (mJ m 70);obtain⟨aN,Bo⟩:=I8 (mJ m 11);obtain⟨dJ,NZ⟩:=I8 (mJ m 39);obtain⟨gQ,N0⟩:=I8 (mJ m 53);obtain⟨oI,NY⟩:=I8 (mJ m 15);obtain⟨KE,ahg⟩:=ax6 (mJ m 48) (by have:=gl 48;unfold mJ;omega);unfold mJ at v70 Bo NZ N0 NY ahg;simp only[go_sem,g,v70,Bo,NZ,N0,NY,ahg,Tw];show T (D (¬i' (qN m))) (some (xJ,2,())) (ob (Ds (qN m,())) λO_=>ob (G' (O_.1,m,())) λO'=>T (a_ O'.1) (some (xJ,2,())) (some (qN m,0,())))=_;by_cases aj:i' (qN m)
  .rw[cC (λh=>h aj)]
   have ac:=ar1 (jE (qN m)) m (by have:=(acZ aj).1;omega);simp only[go_sem,adm aj,ac];by_cases aA:jE (qN m)=m
   .rw[if_pos ⟨aj,aA⟩,cC (λh=>h aA)];rfl
   rw[if_neg (λh=>aA h.2),cD aA];rfl
  rw[if_neg (λh=>aj h.1),cD aj];rfl
 rw[if_neg ao];simp only[go_sem,ao];rfl
def ayI{m:M}{n:N}(hm:fy b=(m,0,()))(aj:i' n):gO (jE n)=b↔jE n=m:=by
 obtain⟨ah,bb⟩:=MR hm;constructor
 .intro h
  have:=aeI (Mc aj)
  grind
 grind
def I7{n:Int}(O:1<=w)(R:w<=18)(ao:0<=n)(h:n<10^w):oj (dd n w)=n:=by unfold oj;rw[if_pos ⟨by rw[na];exact O,by rw[na];exact R,QG⟩];exact amh ao h
def N1:oj []=0:=by unfold oj;rw[if_neg bh]
def VM:Bm []=[]:=by unfold Bm;split<;>rfl
def ax5:Bm (eW b)=b:=by unfold Bm;rw[if_pos ⟨by rw[nh];omega,R3 b⟩,ahl]
def avu{n:N}(ah:i' n):qN (jE n)=n:=by
 obtain⟨jY,c,cH,rs,g,no,k,d,⟨⟩⟩:=n;obtain⟨ai,bp,ax,eG,gt,sQ,ap⟩:=ur.1 ah;have ng:0<=c/\c<=301:=by unfold pL at ai;omega
 have Bo:oj (dd cH 6)=cH:=I7 J J J J;have v70:oj (dd c 3)=c:=I7 J J J J;have NZ:oj (dd rs 2)=rs:=I7 J J J J;unfold qN mJ jE;simp at ap;cases jY
 .simp at ap
  obtain⟨O,R,af,aq⟩:=ap;subst O R af aq;simp[hI,Bo,v70,NZ,N1,VM,D]
 have vx:=sQ rfl;subst vx;by_cases O:c=101
 .subst O
  obtain⟨g1,bw,aj,zG,aF⟩:=ap;subst aF;have N0:oj (dd g 16)=g:=I7 J J J J;simp[hI,Bo,v70,N0,N1,ax5,D]
 rw[if_neg J]at ap;by_cases R:c=201
 .subst R
  obtain⟨af,aq,a8,k?,mB⟩:=ap;subst af aq a8;have NY:oj (dd d 6)=d:=I7 J J J J;simp[hI,Bo,v70,NY,N1,VM,D]
 rw[if_neg J]at ap;obtain⟨af,aq,a8,cS⟩:=ap;subst af aq a8 cS;simp[hI,Bo,v70,N1,VM,D,O,R]
def MS{n:N}(ah:i' n):ls (gO (jE n))=(n,0,()):=by unfold ls;rw[aeI (Mc ah),avu ah,if_pos rfl,if_pos ⟨ah,rfl⟩]
def awN{v x:b0}{r:List b0}(h:fF v.1 r=true):v_ (v::r) x=if v.1<x.1 then v::v_ r x else if v.1=x.1 then x::r else x::v::r:=by
 unfold v_;by_cases O:v.1<x.1
 .grind
 obtain⟨f1,f2,_⟩:=ZH (no:=x.1) J h
 grind
def awO{l:List b0}{x:b0}(hx:gB x.1 x.2.1=true):∀{last:Int},last<x.1->fF last l=true->fF last (v_ l x)=true:=by
 induction l with
 |nil=>intro last O _;simp[v_,fF,O,hx]
 |cons v r ih=>
  intro last O h;have bL:=h;simp only[fF,cL,decide_eq_true_eq]at bL;rw[awN bL.2.2];by_cases R:v.1<x.1
  .rw[if_pos R]
   simp only[fF,cL,decide_eq_true_eq]
   grind
  rw[if_neg R];by_cases af:v.1=x.1
  .rw[if_pos af]
   simp only[fF,cL,decide_eq_true_eq]
   grind
  rw[if_neg af];simp only[fF,cL,decide_eq_true_eq]
  grind
def V7{n:N}(h:i' n):mr n=(gO (jE n),0,()):=by unfold mr;rw[if_pos h]
def ayH{v:b0}(h:gB v.1 v.2.1=true):(hR v).length<=v.2.1.length+2:=by
 obtain⟨k,l,O,R⟩:=u_.1 h;unfold hR rQ;rw[O];simp only[if_pos R];rw[V6 (tH O).1]
 grind
def ayF{m:M}(ah:jI m=true):(gO m).length<=18+(m.2.1.map (λv=>v.2.1.length+2)).sum:=by
 have dW:=(pV.1 ah).1;have R:=Bf (m:=m.1);have cx:=Pw (iE m.2.1);have q?:∀l:List b0,(∀v∈l,gB v.1 v.2.1=true)->(l.flatMap hR).length<=(l.map (λv=>v.2.1.length+2)).sum:=by
  intro l;induction l with
  |nil=>simp
  |cons v r ih=>
   intro h;have O:=ayH (h v bh)
   grind
 have:=q? m.2.1 λv aC=>(v6 dW v aC).2;unfold gO
 grind
def ayE{n:N}(ah:i' n):(gO (jE n)).length<=900:=by
 have h:=ayF (Mc ah);obtain⟨jY,c,cH,rs,g,no,k,d,⟨⟩⟩:=n;obtain⟨ai,bp,ax,eG,gt,sQ,ap⟩:=ur.1 ah;refine e0 h ?_;unfold jE;cases jY
 .simp[na]
 by_cases O:c=101
 .subst O
  rw[if_pos ⟨rfl,rfl⟩]at ap;simp[na,nh];omega
 by_cases R:c=201
 .subst R;simp[na]
 simp[na,O,R]
def aeJ(b:V):(∃n,ls b=(n,0,())/\i' n/\gO (jE n)=b)\/∃e,¬e=0/\ls b=(xJ,e,()):=by
 unfold ls;by_cases ao:(fy b).2.1=0
 .obtain⟨m,hm⟩:∃m,fy b=(m,0,()):=⟨(fy b).1,by rw[<- ao]⟩
  rw[if_pos ao];by_cases O:i' (qN (fy b).1)/\jE (qN (fy b).1)=(fy b).1
  .rw[if_pos O]
   refine .inl ⟨_,rfl,O.1,?_⟩;rw[hm]at O ⊢;exact(ayI hm O.1).2 O.2
  grind
 grind
def wE:=@BitVec.eq_of_toNat_eq
def yK:=@Nat.not_lt_zero
def Ka(c:UInt8):BitVec.ofInt 8 (aI c)=c.toBitVec:=by unfold aI;simp
def Xj(c:UInt32):BitVec.ofInt 32 (aS c)=c.toBitVec:=by unfold aS;simp
def ahi(v:BitVec 8):u8 (v.toNat:Int)=⟨v⟩:=by apply UInt8.toBitVec_inj.1;show BitVec.ofNat 8 (((v.toNat:Int)%2^8).toNat)=v;apply wE;rw[BF];omega
def ax2(v:BitVec 32):u32 (v.toNat:Int)=⟨v⟩:=by apply UInt32.toBitVec_inj.1;show BitVec.ofNat 32 (((v.toNat:Int)%2^32).toNat)=v;apply wE;rw[BF];omega
def aud(a b:UInt8):u8 (gM .u8 (aI a) (aI b))=a|||b:=by show u8 (((BitVec.ofInt 8 (aI a)|||BitVec.ofInt 8 (aI b)).toNat:Nat):Int)=_;rw[Ka,Ka,ahi];rfl
def ahC(a b:UInt8):u8 (fA .u8 (aI a) (aI b))=a^^^b:=by show u8 (((BitVec.ofInt 8 (aI a)^^^BitVec.ofInt 8 (aI b)).toNat:Nat):Int)=_;rw[Ka,Ka,ahi];rfl
def HS(a b:UInt32):u32 (gM .u32 (aS a) (aS b))=a|||b:=by show u32 (((BitVec.ofInt 32 (aS a)|||BitVec.ofInt 32 (aS b)).toNat:Nat):Int)=_;rw[Xj,Xj,ax2];rfl
def ate{c:UInt8}:aI c=aI (u8 0)↔c=0:=by
 constructor
 .intro h
  have R:(c.toNat:Int)=0:=h;exact uL.1 (by show c.toNat=0;omega)
 rintro rfl;rfl
def sM(a b:V):Nat->UInt8
 |0=>0
 |i+1=>sM a b i|||(a.getD i 0^^^b.getD i 0)
def ad0(a b:V):∀i,sM a b i=0↔∀j,j<i->a.getD j 0=b.getD j 0
 |0=>⟨λ_ j h=>absurd h (yK j),λ_=>rfl⟩
 |i+1=>by
  have ih:=ad0 a b i;have key:(sM a b i|||(a.getD i 0^^^b.getD i 0))=0↔sM a b i=0/\a.getD i 0=b.getD i 0:=bh;show(sM a b i|||(a.getD i 0^^^b.getD i 0))=0↔_
  grind
def L_(a b:V)(hl:a.length<=9223372036854775807):De (a,b,())=some (seq a b,()):=by
 by_cases h:a.length=b.length
 .refine a1 cM ?_
  generalize hf:(λ(ab:UInt8×Int×Unit)=>_)=f;have step:∀i,i<a.length->f (sM a b i,(i:Int),())=some (.nx (sM a b (i+1),((i+1:Nat):Int),())):=by intro i hi;subst hf;have e1:ak a (aa (i:Int)) (u8 0)=a.getD i 0:=rfl;have aN:ak b (aa (i:Int)) (u8 0)=b.getD i 0:=rfl;refine bq cM (bn cM (bn cM ?_));rw[e1,aN,ahC,aud,show i64 (av (i:Int) 1)=((i+1:Nat):Int) by simp(disch:=omega) only[go_sem]<;>omega];rfl
  have f7:f (sM a b a.length,(a.length:Int),())=some (.ex 0 (sM a b a.length,(a.length:Int),())):=by subst hf;exact b1 cM
  have j_:bN f (u8 0,0,())=some (.ex 0 (sM a b a.length,(a.length:Int),())):=by have:=md (f:=f) (λi=>(sM a b i,(i:Int),())) a.length step 0 (fK _);exact this.trans (d_ f7)
  rw[j_];refine bn g62 ?_;congr 2;rw[pc];unfold ag seq;rw[beq_iff_eq,beq_iff_eq,ate,ad0];constructor
  .intro an
   refine tg h λi O R => ?_
   grind
  grind
 refine bq cM ?_;rw[o4 (λe=>h (congrArg List.length e))]
end Yp
namespace Yp
open Go Go.Proofs Go.RowKit Go.Shelf
attribute [local go_sem] Oper.semAt_some
def ap0{res:Nat->Bool}(ap:k<=n)(h:i3 res n=[]):i3 res k=[]:=by
 unfold i3 at h ⊢;rw[JP]at h ⊢
 grind
set_option maxRecDepth 100000 in
set_option maxHeartbeats 4000000 in
def aoU(lB off cap b:Nat)(ad:Option Addr)(tY tJ:Bool)(tr:Option Addr)(Dp am:Nat)(tq:Option Addr)(sI B9:Nat)(bI:Nat->Value×Value)(res:Nat->Bool)(iR:∀j,∃a n c a' n' cK,bI j=(.slice a n c,.slice a' n' cK))(fO:lB<=9223372036854775807)(m:Nat)(w:World)
  (Y:0<lB->ad=some ⟨b,off,none⟩/\b<w.heap.size)
  (ng:∀j,j<lB->w.cell? ⟨b,off+j*2,none⟩=some (bI j).1) (sq:∀j,j<lB->w.cell? ⟨b,off+j*2+1,none⟩=some (bI j).2)
  (RH:∀j,j<lB->∀n w',Below w.heap.size w w'->CallsIn Fence.wide n Tryz.prog 285 #[.agg #[.slice tr Dp am,.slice tq sI B9],.agg #[(bI j).1,(bI j).2]] w' λe I_=>e=.returned (.bool (res j))/\Below w'.heap.size w' I_) :
  CallsIn Fence.wide (m+3) Tryz.prog 254 #[.agg #[.bool tY,.slice ad lB cap,.bool tJ],.slice tr Dp am,.slice tq sI B9] w λe w'=>e=.returned (.bool (i3 res lB != []))/\Below w.heap.size w w':=by
 have azz:Fence.wide.fn 286:=trivial;refine callsIn_of_wp_marks Tryz.func254 rfl trivial ?_ rfl;simp only[Tryz.ntmps254,pf,ew,gw,Nat.reduceAdd,Nat.reduceSub,rW,s?,tf,ta,nG,lA]
 gi_wp2_with (gi_at_call 286;refine(anA _ _ _ _ _ _ rfl).mono ?_;rintro e w' ⟨rfl,rfl⟩)
 have eT:=Boxed.new (w.alloc (.cells #[.bool tY,.slice ad lB cap,.bool tJ] 63)) 4 (.bool false);have ei:=Boxed.new ((w.alloc (.cells #[.bool tY,.slice ad lB cap,.bool tJ] 63)).alloc (.cells #[.bool false] 4)) 61 (.slice ad lB cap);have jx:=Boxed.new (((w.alloc (.cells #[.bool tY,.slice ad lB cap,.bool tJ] 63)).alloc (.cells #[.bool false] 4)).alloc (.cells #[.slice ad lB cap] 61)) 387 (.func (.func 285) #[.agg #[.slice tr Dp am,.slice tq sI B9]] #[]);simp only[World.size_alloc]at eT ei jx;obtain⟨hq,nk⟩:∃hq,hq=((((w.alloc (Obj.cells #[Value.bool tY,Value.slice ad lB cap,Value.bool tJ] 63)).alloc (Obj.cells #[Value.bool false] 4)).alloc (Obj.cells #[Value.slice ad lB cap] 61)).alloc (Obj.cells #[Value.func (Fn.func 285) #[Value.agg #[Value.slice tr Dp am,Value.slice tq sI B9]] #[]] 387)):=⟨_,rfl⟩;have aiY:Boxed hq (w.heap.size+1) 4 (.bool false):=by rw[nk];exact(eT.alloc _).alloc _
 have aiZ:Boxed hq (w.heap.size+1+1) 61 (.slice ad lB cap):=by rw[nk];exact ei.alloc _
 have ai0:Boxed hq (w.heap.size+1+1+1) 387 (.func (.func 285) #[.agg #[.slice tr Dp am,.slice tq sI B9]] #[]):=by rw[nk];exact jx
 have Ll:Below w.heap.size w hq:=by rw[nk];exact((((Below.refl _ w).alloc (bU _) _).alloc bh _).alloc fv _).alloc fv _
 have aqM:hq.heap.size=w.heap.size+1+1+1+1:=by rw[nk];simp
 rw[<- nk];clear eT ei jx;refine wpIn_rangeFunc_ownG (w0:=hq) rfl J (gf:=296) (lb:=#[.pointer (some ⟨w.heap.size+1+1,0,none⟩),.pointer (some ⟨w.heap.size+1+1+1,0,none⟩)]) rfl trivial (enters_of Tryz.func296 (by kernel_rfl) rfl)
   (encs:=λx:Nat=>#[.int .i64 (x:Int)]) (Kp:=Below hq.heap.size) (S:=λbs=>bs=i3 res lB) (Sp:=λpre=>∃k,k<=lB/\pre=i3 res k) (N:=lB)
   ?seq ?kt ?kb (Below.refl _ _) (λ_=>rfl)
   (λpre W=>(pre=[]/\Boxed W (w.heap.size+1) 4 (.bool false))/\Below w.heap.size w W)
   (λc pre W=>((c=.ret/\pre≠[])/\Boxed W (w.heap.size+1) 4 (.bool true))/\Below w.heap.size w W)
   (OwnFrom.and (OwnFrom.and (ownFrom_pure _ _) (Own.from (boxed_own (w.heap.size+1) 4 (λ_=>.bool false)) _)) (ownFrom_below (bU _) J))
   (λc=>OwnFrom.and (OwnFrom.and (ownFrom_pure _ _) (Own.from (boxed_own (w.heap.size+1) 4 (λ_=>.bool true)) _)) (ownFrom_below (bU _) J))
   ?start ?cG ?assign ?body ?done ?stop
 case assign=>
  intro l x W K fN
  gi_wp2
  exact fN
 case seq=>
  intro l hG rX W hW kx aaI vf ao;refine(anz (m+1) l (w.heap.size+1+1) (w.heap.size+1+1+1) hq.heap.size b off cap lB ad (.slice tr Dp am) (.slice tq sI B9) bI res iR fO (λh=>⟨(Y h).1,by have:=(Y h).2;omega⟩) hG rX (λs l0 E? ac Y=>kx s l0 E? none ac ⟨Y.os,Y.tape,Y.output,Y.size,λk ap _=>Y.block k ap⟩ (λr e=>by cases e)) (λpre x l0 an _ _ hl=>vf pre x l0 an hl) W ?_ ?_ J J hW.size (λj an => ?_) (λj an => ?_) (λj an w' GZ => ?_) ao).mono ?_
  .exact(hW.cell (p:=⟨w.heap.size+1+1,0,none⟩) fv).trans aiZ.cell
  .exact(hW.cell (p:=⟨w.heap.size+1+1+1,0,none⟩) fv).trans ai0.cell
  .have dD:=(Y J).2
   exact(hW.cell (p:=⟨b,off+j*2,none⟩) fv).trans ((Ll.cell (p:=⟨b,off+j*2,none⟩) dD).trans (ng j an))
  .have dD:=(Y J).2
   exact(hW.cell (p:=⟨b,off+j*2+1,none⟩) fv).trans ((Ll.cell (p:=⟨b,off+j*2+1,none⟩) dD).trans (sq j an))
  .exact RH j an _ _ (Ll.trans ((hW.trans GZ).mono J))
  rintro e W' ⟨aA,h⟩;exact⟨aA,h.elim (λh=>.inl ⟨_,rfl,h⟩) (λ⟨k,ap,h⟩=>.inr ⟨_,⟨k,ap,rfl⟩,h⟩)⟩
 case kt=>exact λh k=>h.trans k
 case kb =>intro W l o di hl aK O R;exact belowK_b (w:=hq) (bU _) W l o di hl aK O R
 case start=>exact⟨⟨rfl,aiY⟩,Ll⟩
 case body=>
  rintro l pre x W ⟨⟨rfl,aC⟩,aB⟩ bm;have ai:=aC.cell;have hf:=aC.frozen
  gi_wp2
  exact⟨(KeepsOthers.setCell _ _ _).from _,⟨⟨rfl,bh⟩,aC.set _⟩,aB.trans ((Below.refl _ _).setCell (p:=⟨w.heap.size+1,0,none⟩) bh _)⟩
 case done=>
  rintro D bs W hJ rfl ⟨⟨ao,aC⟩,aB⟩ fN;have ai:=aC.cell;have hf:=aC.frozen
  gi_wp2
  have lc:=(KeepsOthers.setCell W ⟨w.heap.size+1,0,none⟩ (.bool false)).same D _ fN rfl;refine⟨bh,.inl ⟨_,_,rfl,run_takeDeferred lc,?_⟩⟩;have bj:Boxed ((W.setCell ⟨w.heap.size+1,0,none⟩ (.bool false)).putObj D (.deferred none)) (w.heap.size+1) 4 (.bool false):=(aC.set (.bool false)).kept (grownBy_putObj' _ D _) (λe=>by cases e;omega);refine⟨.bool false,by simp[results,Tryz.f254,go_sem,bj.cell],by rw[ao];rfl,?_⟩;exact(aB.trans ((Below.refl _ _).setCell (p:=⟨w.heap.size+1,0,none⟩) bh _)).trans (belowK_b (w:=w) (bU _) _ D _ _ J lc rfl rfl)
 case stop=>
  rintro D c pre W hJ ⟨k,ap,rfl⟩ ⟨⟨⟨rfl,eC⟩,aC⟩,aB⟩ fN;have ai:=aC.cell
  gi_wp2
  refine⟨bh,.inl ⟨_,_,rfl,run_takeDeferred fN,?_⟩⟩;have bj:Boxed (W.putObj D (.deferred none)) (w.heap.size+1) 4 (.bool true):=aC.kept (grownBy_putObj' _ D _) (λe=>by cases e;omega);refine⟨.bool true,by simp[results,Tryz.f254,go_sem,bj.cell],?_,?_⟩
  .have:i3 res lB≠[]:=λe=>eC (ap0 ap e)
   simp[this]
  exact aB.trans (belowK_b (w:=w) (bU _) _ D _ _ J fN rfl rfl)
end Yp
namespace Yp
open Go Go.Proofs Go.RowKit Go.Shelf
abbrev aoT:=V×V×Unit
abbrev vV:ae:=.pair (.sl (.int .u8)) (.pair (.sl (.int .u8)) .unit)
def T9(x:(V×V×Unit)×(V×V×Unit)×Unit):Option (Bool×Unit):=
 ob (De (x.1.1,x.2.1.1,())) λ(a:Bool×Unit)=>
 ob (T a.1 (ob (De (x.1.2.1,x.2.1.2.1,())) λ(a:Bool×Unit)=>some (a.1,())) (some (false,()))) λ(a:Bool×Unit)=>some (a.1,())
abbrev awz:eA:=⟨[vV,vV],[.im (.bool)],T9⟩
set_option maxRecDepth 100000 in
def akP(ky:fI Tryz.prog 247 Ih):fI Tryz.prog 285 awz:=Dk (E:=e8 [(247,Ih)] [] [] [] none false false 0) (n8 (az aV ky) aW iD oW pO) Tryz.func285 5 (by kernel_rfl) (by kernel_rfl) (λx=>by kernel_rfl)
def aus(k b e f:V)(ap:k.length<=9223372036854775807)(Y:b.length<=9223372036854775807):T9 ((k,b,()),(e,f,()),())=some (cY (seq k e) (seq b f),()):=by unfold T9;rw[L_ _ _ ap];rw[L_ _ _ Y];cases seq k e<;>rfl
def ayj{w w':World}{X:Nat->Prop}(Y:Below w.heap.size w w'):(view w X).cb (view w' X):=by intro b o h;obtain⟨O,R⟩:=jr.1 h;refine jr.2 ⟨O,?_⟩;rw[Y.block b (ip.1 R).1];exact R
def awF{c:Array Value}{o:Nat}(h:o+2<=c.size):cF c o 2=[c[o],c[o+1]]:=by unfold cF;rw[m2 (by grind),m2 (by grind)];simp
def ajc{w w':World}{X:Nat->Prop}{rs:List ef}{r:d8 rs}{b2:Value}(h:iu w X w' rs r b2):Below w.heap.size w w':=by obtain⟨ay,O,R,af,aq,a8,_⟩:=h;exact⟨O,R,af,aq,a8⟩
def aiH(l:List α)(q:α->Bool)(res:Nat->Bool)(h:∀j x,l[j]?=some x->res j=q x):(i3 res l.length != [])=l.any q:=by
 rw[pc];simp;unfold i3;rw[JP];constructor
 .intro aj
  by_cases hx:∃x,x∈l/\q x=true
  .exact hx
  refine absurd (λj an => ?_) aj;have l_:=ov.1 an;rw[h j l[j] (jM l_)]
  grind
 rintro⟨x,hx,a2⟩ aj;obtain⟨j,an,rfl⟩:=uN hx;refine aj j (ov.2 an) ?_
 grind
abbrev afx:eA:=⟨[.pair (.bool) (.pair (.sl vV) (.pair (.bool) (.unit))),.sl (.int .u8),.sl (.int .u8)],[.im (.bool)],HZ⟩
set_option maxRecDepth 100000 in
def aoV(ky:fI Tryz.prog 247 Ih)(tY tJ:Bool)(jq:List aoT)(key tv:V){w:World}{X:Nat->Prop}(dg:∀b,X b->b<w.heap.size)(kP:lM Tryz.prog (view w X)){hw q6 Kw:List Value}
  (R:aH (view w X) (.sl vV) jq hw) (ap:aH (view w X) (.sl (.int .u8)) key q6) (Y:aH (view w X) (.sl (.int .u8)) tv Kw) :
  Calls Tryz.prog 254 #[.agg (#[.bool tY]++hw.toArray ++ #[.bool tJ]),q6.headD undef,Kw.headD undef] w λe w'=>∃b2,e=.returned b2/\iu w X w' [.im .bool] ((jq.any λe=>cY (seq key e.1) (seq tv e.2.1),()):Bool×Unit) b2:=by
 have Sc:=ap;have jA:=Y;obtain⟨ad,cap,rfl,dT,ev,t3⟩:=aH.ic.1 R;obtain⟨tr,Qf,rfl,bF,b3,_⟩:=aH.ic.1 ap;obtain⟨tq,Qe,rfl,eT,ei,_⟩:=aH.ic.1 Y;have i5:maxLen<=9223372036854775807:=by unfold maxLen;omega
 have CT:key.length<=9223372036854775807:=e0 bF (e0 b3 i5);have dD:tv.length<=9223372036854775807:=e0 eT (e0 ei i5);have tW:jq.length<=9223372036854775807:=e0 dT (e0 ev i5)

 obtain⟨b,off,bI,GK,iR,ng,sq,qw⟩:∃(b off:Nat) (bI:Nat->Value×Value),(0<jq.length->ad=some ⟨b,off,none⟩/\b<w.heap.size)/\(∀j,∃a n c a' n' cK,bI j=(.slice a n c,.slice a' n' cK)) /\
   (∀j,j<jq.length->w.cell? ⟨b,off+j*2,none⟩=some (bI j).1)/\(∀j,j<jq.length->w.cell? ⟨b,off+j*2+1,none⟩=some (bI j).2) /\
   (∀j (e:V×V×Unit),jq[j]?=some e->aH (view w X) vV e [(bI j).1,(bI j).2]):=by
  rcases t3 with t3|⟨b,o,c,el,fz,bu,aC,cP,Gw⟩
  .refine⟨0,0,λ_=>(.slice none 0 0,.slice none 0 0),λh => ?_,λ_=>⟨_,_,_,_,_,_,rfl⟩,λj an => ?_,λj an => ?_,λj e aA => ?_⟩
   .rw[show jq=[] from t3]at h;simp at h
   .rw[show jq=[] from t3]at an;simp at an
   .rw[show jq=[] from t3]at an;simp at an
   rw[show jq=[] from t3]at aA;simp at aA
  obtain⟨n2,hh⟩:=jr.1 aC;have aqV:o+jq.length*2<=c.size:=cP;have tU:∀j e,jq[j]?=some e->∃(h:o+j*2+2<=c.size),aH (view w X) vV e [c[o+j*2],c[o+j*2+1]]:=by intro j e aA;have an:j<jq.length:=(mt.1 aA).1;have bY:o+j*2+2<=c.size:=J;refine⟨bY,?_⟩;have:=Gw j e aA;rw[show cF c (o+j*vV.size) vV.size=cF c (o+j*2) 2 from rfl,awF bY]at this;exact this
  have qx:∀(l:V) (v:Value),aH (view w X) (.sl (.int .u8)) l [v]->∃a n c,v=.slice a n c:=by intro l v h;obtain⟨a,gz,aA,_⟩:=aH.ic.1 h;cases aA;exact⟨_,_,_,rfl⟩
  have aqA:∀(e:V×V×Unit) (u v:Value),aH (view w X) vV e [u,v]->(∃a n c,u=.slice a n c)/\∃a n c,v=.slice a n c:=by intro e u v h;obtain⟨k?,mB,aF,bG,b_⟩:=aH.mh.1 h;obtain⟨wY,Kx,xj,co,dl⟩:=aH.mh.1 b_;obtain rfl:=aH.Bn.1 dl;have eX:k?.length=1:=bG.length;have oR:wY.length=1:=co.length;obtain⟨y,rfl⟩:=List.length_eq_one_iff.1 eX;obtain⟨z,rfl⟩:=List.length_eq_one_iff.1 oR;subst xj;simp only[List.singleton_append,hF,yQ,and_true]at aF;obtain⟨rfl,rfl⟩:=aF;exact⟨qx _ _ bG,qx _ _ co⟩
  refine⟨b,o,λj=>if h:j<jq.length then(c[o+j*2]'J,c[o+j*2+1]'J) else(.slice none 0 0,.slice none 0 0),λ_=>⟨bu,(ip.1 hh).1⟩,λj => ?_,λj an => ?_,λj an => ?_,λj e aA => ?_⟩
  .by_cases an:j<jq.length
   .obtain⟨bY,ah⟩:=tU j _ (jM an)
    obtain⟨⟨a,n,alL,e1⟩,⟨a',n',alM,aN⟩⟩:=aqA _ _ _ ah;exact⟨a,n,alL,a',n',alM,by dsimp only;rw[dif_pos an,e1,aN]⟩
   exact⟨_,_,_,_,_,_,dif_neg an⟩
  .dsimp only;rw[dif_pos an,World.cell?,hh];simp[show o+j*2<c.size by omega]
  .dsimp only;rw[dif_pos an,World.cell?,hh];simp[show o+j*2+1<c.size by omega]
  have an:j<jq.length:=(mt.1 aA).1;dsimp only;rw[dif_pos an];exact(tU j e aA).2
 let q:V×V×Unit->Bool:=λe=>cY (seq key e.1) (seq tv e.2.1)
 let res:Nat->Bool:=λj=>match jq[j]? with|some e=>q e|none=>false
 have L':=aoU jq.length off cap b ad tY tJ tr key.length Qf tq tv.length Qe bI res iR tW 0 w GK ng sq (λj an n w' GZ => ?_)
 .refine(callsIn_wide (n:=3)).1 (L'.mono ?_)
  rintro e w' ⟨rfl,CK⟩;refine⟨_,rfl,X,CK.os,CK.tape,CK.output,CK.size,CK.block,λ_ _=>pk,λb h=>hU (dg b h) CK.size,[.bool (i3 res jq.length != [])],?_,rfl⟩;refine⟨[.bool _],[],rfl,aH.nP.2 ?_,rfl⟩;rw[aiH jq q res (λj e aA=>by show(match jq[j]? with|some e=>q e|none=>false)=q e;rw[aA])]
 refine callsIn_wide.2 ?_;have aA:=jM an;have bb:=GZ;have bY:(view w X).cb (view w' X):=ayj bb;have:=(akP ky).2 w' X ((key,tv,()),(jq[j].1,jq[j].2.1,()),()) [.agg #[.slice tr key.length Qf,.slice tq tv.length Qe],.agg #[(bI j).1,(bI j).2]] _ (λb h=>hU (dg b h) bb.size) (kP.mono bY)
  ⟨[.slice tr key.length Qf,.slice tq tv.length Qe],_,rfl,aH.mh.2 ⟨[_],[_],rfl,Sc.mono bY,aH.mh.2 ⟨[_],[],rfl,jA.mono bY,aH.Bn.2 rfl⟩⟩,[(bI j).1,(bI j).2],[],rfl,(qw j _ aA).mono bY,rfl⟩
  (aus _ _ _ _ CT dD)
 refine this.mono ?_;rintro e I_ ⟨b2,rfl,ah⟩;refine⟨?_,ajc ah⟩;obtain⟨ay,_,_,_,_,_,_,_,us,aC,rfl⟩:=ah;obtain⟨ds,azU,rfl,ai,rfl⟩:=aC;obtain rfl:=aH.nP.1 ai;show Ending.returned (.bool _)=Ending.returned (.bool (match jq[j]? with|some e=>q e|none=>false));rw[aA]
set_option maxRecDepth 100000 in
def aoK(ky:fI Tryz.prog 247 Ih):fI Tryz.prog 254 afx:=by refine⟨⟨Tryz.f254,Tryz.func254,by kernel_rfl,by kernel_rfl⟩,?_⟩;intro w X x vs r dg kP bu ah;obtain⟨⟨tY,jq,tJ,⟨⟩⟩,key,tv,⟨⟩⟩:=x;obtain rfl:=lZ ah;obtain⟨cs,ahp,rfl,hp,q6,mX,rfl,ap,Kw,ayk,rfl,Y,rfl⟩:=bu;obtain⟨c1,c2,rfl,O,hp⟩:=aH.mh.1 hp;obtain⟨hw,c4,rfl,R,hp⟩:=aH.mh.1 hp;obtain⟨c5,ayW,rfl,af,hp⟩:=aH.mh.1 hp;obtain rfl:=aH.Bn.1 hp;obtain rfl:=aH.nP.1 O;obtain rfl:=aH.nP.1 af;have:=aoV ky tY tJ jq key tv dg kP R ap Y;refine cast ?_ this;congr 1;simp[ct,ae.isAgg]
end Yp
namespace Yp
open Go Go.Proofs Go.RowKit Go.Shelf
def Wo:=@List.filter_cons_of_neg
attribute [-go_sem] g02 g03 g04 g05 g06 g01 g07 g08 g09 g10 g11 g12 g13 g14 g15 g16 g17 g18 g19 g20 g21 g22 g23 g24 g25 g26 g27 g28 g29 g30 g31 g32 g34 g35 g36 g37 g38 g39 g40 g41 g42 g43 g44 g45 g46 g47 g48 g49 g50 g51 g52 g53 g54 g55 g56 g57 g58 g60 g61 lc_rt' lc_ex' lc_nx g62 g63 nth_get g33 g64 g65 g66
attribute [local go_sem] Oper.semAt_some
def ajb{w w':World}{X:Nat->Prop}{rs:List ef}{r:d8 rs}{b2:Value}(h:iu w X w' rs r b2):Below w.heap.size w w':=by obtain⟨ay,O,R,af,aq,a8,_⟩:=h;exact⟨O,R,af,aq,a8⟩
def asc{P:Program}{w w':World}{X:Nat->Prop}(h:lM P (view w X))(Y:Below w.heap.size w w'):lM P (view w' X):=
 h.mono λb o aC=>by obtain⟨hx,hh⟩:=jr.1 aC;exact jr.2 ⟨hx,(Y.block b (ip.1 hh).1).trans hh⟩
def auJ{P:Program}{f:Nat}(pC:fI P f ⟨[.int .i64],[.im (.int .i64),.im (.int .u8)],tw⟩)(O:1<=n)(R:n<=128)(m:Nat)(w:World){X:Nat->Prop}(dg:∀b,X b->b<w.heap.size)(ap:lM P (view w X)):
  CallsIn Fence.wide m P f #[.int .i64 (n:Int)] w λe w'=>e=.returned (.tuple #[.int .i64 (((n-1)/8:Nat):Int),.int .u8 (aI (y6 ((n-1)%8)))])/\Below w.heap.size w w':=by
 refine callsIn_wide.2 ?_;have:=pC.2 w X ((n:Int),()) [.int .i64 (n:Int)] (_,_,()) dg ap ⟨[.int .i64 (n:Int)],[],rfl,aH.ia.2 rfl,rfl⟩ (W7 O R);refine this.mono ?_;rintro e w' ⟨b2,rfl,ah⟩;refine⟨?_,ajb ah⟩;obtain⟨ay,_,_,_,_,_,_,_,vs,aC,rfl⟩:=ah;obtain⟨cs,ahp,rfl,ai,q6,mX,rfl,oK,rfl⟩:=aC;have nf:=aH.ia.1 ai;have apa:=aH.ia.1 oK;subst nf apa;rfl
def h_(b9:V)(k:Nat):List Nat:=(List.range k).filter λn=>Nat.ble 1 n&&iA b9 n
def ahI(b9:V)(k:Nat):h_ b9 (k+1)=h_ b9 k++if(Nat.ble 1 k&&iA b9 k)=true then[k]else[]:=by
 unfold h_;rw[BP,E4]
 grind
def ajq:∀c:UInt8,∀t:Nat,t<8->(Go.bits BinOp.and IntKind.u8 (aI c) (aI (y6 t)) != 0)=bt c t:=tt iL
def Wd(b9:V)(k:Nat)(h:1<=k):(h_ b9 k).length<k:=by
 obtain⟨j,rfl⟩:∃j,k=j+1:=⟨k-1,J⟩;have ao:h_ b9 (j+1)=(((List.range j).map (·+1)).filter λn=>Nat.ble 1 n&&iA b9 n):=by unfold h_;rw[List.range_succ_eq_map,Wo bh]
 rw[ao];have:=rV (λn=>Nat.ble 1 n&&iA b9 n) ((List.range j).map (·+1));simp only[ou,JN]at this;omega
def SX(n₀ qV:Nat)(W W':World):Prop:=Below n₀ W W'/\W'.cell? ⟨qV,0,none⟩=W.cell? ⟨qV,0,none⟩
set_option maxRecDepth 100000 in
set_option maxHeartbeats 2000000 in
def af0(pC:fI Tryz.prog 268 ⟨[.int .i64],[.im (.int .i64),.im (.int .u8)],tw⟩)(w0:World)(X:Nat->Prop)(dg:∀b,X b->b<w0.heap.size)(pE:lM Tryz.prog (view w0 X))(n l qV n₀ b off cap:Nat)(b9:V)(cq:b9.length<=16)(Y:b<n₀)(hG rX:List Nat->World->Prop)
  (kx:∀s W W',hG s W->Below W.heap.size W W'->hG s W')
  (vf:∀(pre:List Nat) (x:Nat) W,hG pre W->1<=x->x<=128->pre.length<128->YieldAt Fence.wide n Tryz.prog l #[.int .i64 (x:Int)] W λe W'=>
   (e=.returned (.bool true)/\hG (pre++[x]) W'/\SX n₀ qV W W')\/(e=.returned (.bool false)/\rX (pre++[x]) W'))
  (W:World) (aay:Below w0.heap.size w0 W) (pF:n₀=w0.heap.size) (aop:W.cell? ⟨qV,0,none⟩=some (.slice (some ⟨b,off,none⟩) b9.length cap)) (aaD:qV<W.heap.size) (aj:n₀<=W.heap.size) (ai:∀j,(h:j<b9.length)->W.cell? ⟨b,off+j,none⟩=some (.int .u8 (aI b9[j]))) (ao:hG [] W) :
  CallsIn Fence.wide (n+1) Tryz.prog 287 #[.func (.yield l) #[] #[],.pointer (some ⟨qV,0,none⟩)] W λe W'=>(∃v,e=.returned v) /\
   (hG (h_ b9 (8*b9.length+1)) W'\/(∃k,k<=8*b9.length+1/\rX (h_ b9 k) W')):=by
 have azw:Fence.wide.fn 268:=trivial;refine callsIn_of_wp Tryz.func287 rfl trivial ?_ rfl;simp only[Tryz.ntmps287,pf,ew,gw,Nat.reduceAdd,Nat.reduceSub,rW,s?,tf,ta,nG,lA]
 gi_wp2
 gi_loopw [3] (λi wr=>∃k:Nat,1<=k/\k<=8*b9.length+1/\i=.int .i64 k/\hG (h_ b9 k) wr/\Below n₀ W wr/\W.heap.size<=wr.heap.size/\wr.cell? ⟨qV,0,none⟩=some (.slice (some ⟨b,off,none⟩) b9.length cap))
  (λi _=>8*b9.length+1-(intOf i).toNat)
 case atStart=>exact⟨1,bU _,J,rfl,by have:h_ b9 1=[]:=(by unfold h_;rfl);rw[this];exact ao,Below.refl _ _,bU _,aop⟩
 case round=>
  obtain⟨k,re,ap,rfl,CH,n2,cP,aaE⟩:=hrel;by_cases bm:k<=8*b9.length
  .have bY:(k:Int)<=8*(b9.length:Int):=J
   obtain⟨p,t,c,iB,LA,aqY,aa0,Gp⟩:∃(p t:Nat) (c:UInt8),(∀w,Below w0.heap.size w0 w->CallsIn Fence.wide n Tryz.prog 268 #[.int .i64 (k:Int)] w λe w'=>e=.returned (.tuple #[.int .i64 (p:Int),.int .u8 (aI (y6 t))])/\Below w.heap.size w w')/\p<b9.length/\t<8/\W.cell? ⟨b,off+p,none⟩=some (.int .u8 (aI c))/\bt c t=iA b9 k:=by have LA:(k-1)/8<b9.length:=J;refine⟨(k-1)/8,(k-1)%8,b9[(k-1)/8],λcf sx=>auJ pC re (show k<=128 by omega) n cf (λb h=>hU (dg b h) sx.size) (asc pE sx),LA,J,ai _ LA,?_⟩;unfold iA;rw[nth_get LA]
   have azq:(p:Int)<(b9.length:Int):=J;have Gn:=ajq c t aqY;rw[Gp]at Gn;have azx:(Fence.wide).depth.isSome=true->1<=n:=λh=>by cases h
   cases hh:iA b9 k
   .rw[hh]at Gn
    have bj:Go.bits BinOp.and IntKind.u8 (aI c) (aI (y6 t))=0:=by simpa using Gn
    have nl:h_ b9 (k+1)=h_ b9 k:=by rw[ahI,hh,Bool.and_false,if_neg bh,hF]
    clear Gp Gn hh
    gi_wp2_with (gi_at_call 268;refine(iB _ (aay.trans (pF▸n2))).mono ?_;rintro e cf ⟨rfl,hb1⟩;have RC:cf.cell? ⟨qV,0,none⟩=some (.slice (some ⟨b,off,none⟩) b9.length cap):=(hb1.cell (p:=⟨qV,0,none⟩) (hU aaD cP)).trans aaE;have apo:cf.cell? ⟨b,off+p,none⟩=some (.int .u8 (aI c)):=(hb1.cell (p:=⟨b,off+p,none⟩) (hU Y (e0 aj cP))).trans ((n2.cell (p:=⟨b,off+p,none⟩) Y).trans aa0))
    refine⟨λ_ _=>trivial,?_⟩
    gi_wp2
    refine⟨⟨k+1,J,J,bh,by rw[nl];exact kx _ _ _ CH hb1,n2.trans (hb1.mono (e0 aj cP)),e0 cP hb1.size,RC⟩,?_⟩;simp[intOf];omega
   rw[hh]at Gn;have nl:h_ b9 (k+1)=h_ b9 k++[k]:=by have:Nat.ble 1 k=true:=JR re;rw[ahI,hh,this];rfl
   have LL:=Wd b9 k re;have aoG:=λcf (an:hG (h_ b9 k) cf)=>vf _ k cf an re (show k<=128 by omega) J;clear Gp hh
   gi_wp2_with (gi_at_call 268;refine(iB _ (aay.trans (pF▸n2))).mono ?_;rintro e cf ⟨rfl,hb1⟩;have RC:cf.cell? ⟨qV,0,none⟩=some (.slice (some ⟨b,off,none⟩) b9.length cap):=(hb1.cell (p:=⟨qV,0,none⟩) (hU aaD cP)).trans aaE;have apo:cf.cell? ⟨b,off+p,none⟩=some (.int .u8 (aI c)):=(hb1.cell (p:=⟨b,off+p,none⟩) (hU Y (e0 aj cP))).trans ((n2.cell (p:=⟨b,off+p,none⟩) Y).trans aa0);obtain⟨fn,tmps,assign,body,hy,jk⟩:=aoG cf (kx _ _ _ CH hb1))
   refine jk.mono ?_;rintro e aiq (⟨rfl,RJ,ff⟩|⟨rfl,RK⟩)
   .gi_wp2
    refine⟨⟨k+1,J,J,bh,by rw[nl];exact RJ,(n2.trans (hb1.mono (e0 aj cP))).trans ff.1,e0 cP (e0 hb1.size ff.1.size),ff.2.trans RC⟩,?_⟩;simp[intOf];omega
   gi_wp2
   refine bodyPost_ret (results_none rfl _ _ _) rfl ?_;exact⟨⟨_,rfl⟩,.inr ⟨k+1,J,by rw[nl];exact RK⟩⟩
  have qt:k=8*b9.length+1:=J;subst qt;have vo:¬((8*b9.length+1:Nat):Int)<=8*(b9.length:Int):=J
  gi_wp2
  go_end0
  exact⟨⟨_,rfl⟩,.inl CH⟩
end Yp
namespace Yp
open Go Go.Proofs Go.RowKit Go.Shelf
def O5:=@List.getElem?_take_of_lt
attribute [-go_sem] g02 g03 g04 g05 g06 g01 g07 g08 g09 g10 g11 g12 g13 g14 g15 g16 g17 g18 g19 g20 g21 g22 g23 g24 g25 g26 g27 g28 g29 g30 g31 g32 g34 g35 g36 g37 g38 g39 g40 g41 g42 g43 g44 g45 g46 g47 g48 g49 g50 g51 g52 g53 g54 g55 g56 g57 g58 g60 g61 lc_rt' lc_ex' lc_nx g62 g63 nth_get g33 g64 g65 g66
attribute [local go_sem] Oper.semAt_some
abbrev yX:List ef:=[.ow (.int .i64),.im (.int .i64),.im (.int .i64)]
def x6{w w':World}{X:Nat->Prop}(dg:∀b,X b->b<w.heap.size)(Y:Below w.heap.size w w')(e:Int):iu w X w' yX (([],0,e,()):List Int×Int×Int×Unit) (.tuple #[.slice none 0 0,.int .i64 0,.int .i64 e]):=by refine⟨X,Y.os,Y.tape,Y.output,Y.size,Y.block,λ_ _=>pk,λb h=>hU (dg b h) Y.size,[.slice none 0 0,.int .i64 0,.int .i64 e],?_,rfl⟩;exact⟨_,_,rfl,.inl ⟨rfl,⟨none,rfl⟩,⟨[.int .i64 0],_,rfl,aH.ia.2 rfl,⟨[.int .i64 e],_,rfl,aH.ia.2 rfl,rfl⟩⟩⟩⟩
def aeU{w w':World}{X:Nat->Prop}(dg:∀b,X b->b<w.heap.size)(Y:Below w.heap.size w w'){v:Value}{l:List Int}(aK:w'.ownsRow w.heap.size 3 1 v l.length (l.map (Value.int .i64)))(n:Int):iu w X w' yX ((l,n,0,()):List Int×Int×Int×Unit) (.tuple #[v,.int .i64 n,.int .i64 0]):=by
 obtain⟨_,⟨rfl,ao⟩|⟨g,cap,gF,rfl,hg,hh,sq,oK,aaZ,azf⟩⟩:=aK
 .have:l=[]:=k3.1 ao
  subst this;refine⟨X,Y.os,Y.tape,Y.output,Y.size,Y.block,λ_ _=>pk,λb h=>hU (dg b h) Y.size,[.slice none 0 0,.int .i64 n,.int .i64 0],?_,rfl⟩;exact⟨_,_,rfl,.inl ⟨rfl,⟨none,rfl⟩,⟨[.int .i64 n],_,rfl,aH.ia.2 rfl,⟨[.int .i64 0],_,rfl,aH.ia.2 rfl,rfl⟩⟩⟩⟩
 have apU:g<w'.heap.size:=(ip.1 hh).1;refine⟨λb=>X b\/b=g,Y.os,Y.tape,Y.output,Y.size,Y.block,λb dD=>⟨λh=>h.elim id (λe=>J),.inl⟩,λb h=>h.elim (λh=>hU (dg b h) Y.size) (λe=>e▸apU),[.slice (some ⟨g,0,none⟩) l.length cap,.int .i64 n,.int .i64 0],?_,rfl⟩;refine⟨_,_,rfl,.inr ⟨g,⟨0,gF,3,(0,0),cap,rfl,sq,oK,?_,hh,⟨?_,?_⟩,?_,.inr rfl,λh=>absurd (h) (Nat.not_lt.2 hg),λh=>h⟩,⟨[.int .i64 n],_,rfl,aH.ia.2 rfl,⟨[.int .i64 0],_,rfl,aH.ia.2 rfl,rfl⟩⟩⟩⟩
 .show 0+cap*1<=gF.size
  omega
 .show 0+l.length*1<=gF.size
  omega
 .intro i x hi
  have gG:l[i]?=some x:=hi;have bm:i<l.length:=(mt.1 gG).1;show cF gF (0+i*1) 1=[Value.int .i64 x];rw[jv,mw];have O:gF.toList[i]?=some (Value.int .i64 x):=by
   have R:(List.take (l.length*1) gF.toList)[i]?=gF.toList[i]?:=O5 J
   grind
  obtain⟨aqa,R'⟩:=mt.1 O;unfold cF;rw[m2 aqa,R'];rfl
 exact .inl rfl
def uZ(w:World)(li mf TG:Obj):Below w.heap.size w (((w.alloc li).alloc mf).alloc TG):=(((Below.refl _ w).alloc (bU _) _).alloc bh _).alloc fv _
set_option maxRecDepth 100000 in
set_option maxHeartbeats 2000000 in
def avx(a:Option Addr)(n cap:Nat)(c9:Int)(h:c9<0)(m:Nat)(w:World)(X:Nat->Prop)(dg:∀b,X b->b<w.heap.size):
  CallsIn Fence.wide m Tryz.prog 210 #[.slice a n cap,.int .i64 c9] w λe w'=>∃b2,e=.returned b2/\iu w X w' yX (([],0,1,()):List Int×Int×Int×Unit) b2:=by
 refine callsIn_of_wp Tryz.func210 rfl trivial ?_ rfl;simp only[Tryz.ntmps210,pf,ew,gw,Nat.reduceAdd,Nat.reduceSub,rW,s?,tf,ta,nG,lA]
 gi_wp2
 exact bodyPost_ret (v:=.tuple #[.slice none 0 0,.int .i64 0,.int .i64 1]) (by simp[results,Tryz.f210,go_sem]) rfl ⟨_,rfl,x6 dg (uZ _ _ _ _) 1⟩
set_option maxRecDepth 100000 in
set_option maxHeartbeats 2000000 in
def avy(a:Option Addr)(n cap:Nat)(c9:Int)(ao:¬c9<0)(h:(n:Int)<c9)(m:Nat)(w:World)(X:Nat->Prop)(dg:∀b,X b->b<w.heap.size):
  CallsIn Fence.wide m Tryz.prog 210 #[.slice a n cap,.int .i64 c9] w λe w'=>∃b2,e=.returned b2/\iu w X w' yX (([],0,1,()):List Int×Int×Int×Unit) b2:=by
 refine callsIn_of_wp Tryz.func210 rfl trivial ?_ rfl;simp only[Tryz.ntmps210,pf,ew,gw,Nat.reduceAdd,Nat.reduceSub,rW,s?,tf,ta,nG,lA]
 gi_wp2
 exact bodyPost_ret (v:=.tuple #[.slice none 0 0,.int .i64 0,.int .i64 1]) (by simp[results,Tryz.f210,go_sem]) rfl ⟨_,rfl,x6 dg (uZ _ _ _ _) 1⟩
set_option maxRecDepth 100000 in
set_option maxHeartbeats 2000000 in
def avz(a:Option Addr)(n cap:Nat)(A:Nat)(ld:n<=cap)(h:A=n)(m:Nat)(w:World)(X:Nat->Prop)(dg:∀b,X b->b<w.heap.size):
  CallsIn Fence.wide m Tryz.prog 210 #[.slice a n cap,.int .i64 (A:Int)] w λe w'=>∃b2,e=.returned b2/\iu w X w' yX (([],0,3,()):List Int×Int×Int×Unit) b2:=by
 subst h;refine callsIn_of_wp Tryz.func210 rfl trivial ?_ rfl;simp only[Tryz.ntmps210,pf,ew,gw,Nat.reduceAdd,Nat.reduceSub,rW,s?,tf,ta,nG,lA]
 gi_wp2
 all_goals exact bodyPost_ret (v:=.tuple #[.slice none 0 0,.int .i64 0,.int .i64 3]) (by simp[results,Tryz.f210,go_sem]) rfl ⟨_,rfl,x6 dg (uZ _ _ _ _) 3⟩
def W_:∀c:UInt8,(Go.bits BinOp.and IntKind.u8 (aI c) 128 != 0)=bt c 0:=tt iL
set_option maxRecDepth 100000 in
set_option maxHeartbeats 2000000 in
def avA(b off n cap:Nat)(A:Nat)(ld:n<=cap)(dn:A<n)(c0:UInt8)(m:Nat)(w:World)(ai:w.cell? ⟨b,off+A,none⟩=some (.int .u8 (aI c0)))(ac:(bt c0 0=true/\n-A<16)\/(bt c0 0=false/\n-A<8))(X:Nat->Prop)(dg:∀b,X b->b<w.heap.size)(Y:b<w.heap.size):
  CallsIn Fence.wide m Tryz.prog 210 #[.slice (some ⟨b,off,none⟩) n cap,.int .i64 (A:Int)] w λe w'=>∃b2,e=.returned b2/\iu w X w' yX (([],0,3,()):List Int×Int×Int×Unit) b2:=by
 have pF:¬((A:Int)<0):=J;have n1:¬((n:Int)<(A:Int)):=J;have vg:=W_ c0;obtain⟨N,fO⟩:∃N,n=A+N:=⟨n-A,J⟩;subst fO;have aaZ:(((w.alloc (.cells #[.slice none 0 0] 100)).alloc (.cells #[.int .i64 0] 3)).alloc (.cells #[.int .i64 0] 84)).cell? ⟨b,off+A,none⟩=some (.int .u8 (aI c0)):=((uZ w _ _ _).cell (p:=⟨b,off+A,none⟩) Y).trans ai;refine callsIn_of_wp Tryz.func210 rfl trivial ?_ rfl;simp only[Tryz.ntmps210,pf,ew,gw,Nat.reduceAdd,Nat.reduceSub,rW,s?,tf,ta,nG,lA];rcases ac with⟨O,R⟩|⟨O,R⟩
 .rw[O]at vg
  clear O;have tK:(N:Int)<16:=J
  gi_wp2
  all_goals exact bodyPost_ret (v:=.tuple #[.slice none 0 0,.int .i64 0,.int .i64 3]) (by simp[results,Tryz.f210,go_sem]) rfl ⟨_,rfl,x6 dg (uZ _ _ _ _) 3⟩
 rw[O]at vg;have bj:Go.bits BinOp.and IntKind.u8 (aI c0) 128=0:=by simpa using vg
 clear O vg;have tK:(N:Int)<8:=J
 gi_wp2
 all_goals exact bodyPost_ret (v:=.tuple #[.slice none 0 0,.int .i64 0,.int .i64 3]) (by simp[results,Tryz.f210,go_sem]) rfl ⟨_,rfl,x6 dg (uZ _ _ _ _) 3⟩
set_option maxRecDepth 100000 in
set_option maxHeartbeats 2000000 in
def af2(m:Nat)(sl:Value)(w:World)(aC:sl.oneCell'=true):CallsIn Fence.wide m Tryz.prog 260 #[sl] w λe w'=>e=.returned (.func (.func 287) #[] #[.pointer (some ⟨w.heap.size,0,none⟩)])/\w'=w.alloc (.cells #[sl] 23):=by
 refine callsIn_of_wp Tryz.func260 rfl trivial ?_ rfl;simp only[Tryz.ntmps260,pf,ew,gw,Nat.reduceAdd,Nat.reduceSub,rW,s?,tf,ta,nG,lA]
 gi_wp2
 go_ret
 exact⟨rfl,rfl⟩
end Yp
namespace Go
open Go.RowKit
def Boxed.sX{W:World}{B C t:Nat}{v:Value}(h:Boxed W B t v)(eC:B≠C)(u:Value):Boxed (W.setCell ⟨C,0,none⟩ u) B t v:=h.kept (grownBy_setCell' W C u) (λe=>eC (by cases e;rfl))
end Go
namespace Yp
open Go Go.Proofs Go.RowKit Go.Shelf
def OB:=@Bool.eq_false_iff
def Jw:=@List.map_map
attribute [-go_sem] g02 g03 g04 g05 g06 g01 g07 g08 g09 g10 g11 g12 g13 g14 g15 g16 g17 g18 g19 g20 g21 g22 g23 g24 g25 g26 g27 g28 g29 g30 g31 g32 g34 g35 g36 g37 g38 g39 g40 g41 g42 g43 g44 g45 g46 g47 g48 g49 g50 g51 g52 g53 g54 g55 g56 g57 g58 g60 g61 lc_rt' lc_ex' lc_nx g62 g63 nth_get g33 g64 g65 g66
attribute [local go_sem] Oper.semAt_some
def arN:(Tryz.prog.info? 3).map (λi=>(i.zero,i.size,i.bytes))=some (some (.int .i64 0),1,8):=by kernel_rfl
def ahh:Tryz.prog.underlying 100=some (.slice 3):=by kernel_rfl
def kr(pre:List Nat):List Nat:=pre.filter λn=>Nat.ble 2 n
def ps(pre:List Nat):List Value:=(kr pre).map λ(n:Nat)=>Value.int .i64 (n:Int)
def YG{pre:List Nat}(h:¬1<x):kr (pre++[x])=kr pre:=by have:Nat.ble 2 x=false:=OB.2 λe=>h (O0 e);unfold kr;rw[E4,Wo (by grind)];simp
def YF{pre:List Nat}(h:1<x):kr (pre++[x])=kr pre++[x]:=by have:Nat.ble 2 x=true:=JR h;unfold kr;rw[E4,List.filter_cons_of_pos this];simp
structure q0(s:Nat)(v:Value)(n e:Int)(sl:Value)(W:World):Prop where
 c0:Boxed W s 100 v
 c1:Boxed W (s+1) 3 (.int .i64 n)
 c2:Boxed W (s+1+1) 84 (.int .i64 e)
 c5:Boxed W (s+1+1+1+1+1) 23 sl
def boxed_own{B t:Nat}{v:Value}{X WL:World}{row:Option Nat}(aC:Boxed X B t v)(hg:X.grownBy WL row)(d9:∀r,row=some r->∃o,X.heap[r]?=some o/\o.isCells=false):Boxed WL B t v:=
 aC.kept hg λbC=>by obtain⟨o,aK,ai⟩:=d9 B bC.symm;rw[show X.heap[B]?=_ from aC]at aK;cases aK;cases ai
def H7{β:Type}(s:Nat)(v:Value)(n e:Int)(sl:Value):Own (λ(_:β) W=>q0 s v n e sl W):=λ_ _ _ _ ac hg ah=>
 ⟨boxed_own ac.c0 hg ah,boxed_own ac.c1 hg ah,boxed_own ac.c2 hg ah,boxed_own ac.c5 hg ah⟩
def DP{v sl:Value}{n:Int}{W:World}(h:q0 s v n e sl W)(cX:Value)(n' bC:Int):
 q0 s cX n' bC sl (((W.setCell ⟨s,0,none⟩ cX).setCell ⟨s+1,0,none⟩ (.int .i64 n')).setCell ⟨s+1+1,0,none⟩ (.int .i64 bC)):=
 ⟨((h.c0.set cX).sX J _).sX J _,((h.c1.sX J _).set (.int .i64 n')).sX J _,
  ((h.c2.sX J _).sX J _).set (.int .i64 bC),((h.c5.sX J _).sX J _).sX J _⟩
def C7(s:Nat)(cX:Value)(n' bC:Int)(W:World):Below s W (((W.setCell ⟨s,0,none⟩ cX).setCell ⟨s+1,0,none⟩ (.int .i64 n')).setCell ⟨s+1+1,0,none⟩ (.int .i64 bC)):=
 (((Below.refl s W).setCell (p:=⟨s,0,none⟩) (bU _) cX).setCell (p:=⟨s+1,0,none⟩) bh _).setCell (p:=⟨s+1+1,0,none⟩) (by grind) _
def Mz(s:Nat)(cX:Value)(n' bC:Int)(W:World):KeepsOthers W (((W.setCell ⟨s,0,none⟩ cX).setCell ⟨s+1,0,none⟩ (.int .i64 n')).setCell ⟨s+1+1,0,none⟩ (.int .i64 bC)):=
 ((KeepsOthers.setCell _ _ _).trans (KeepsOthers.setCell _ _ _)).trans (KeepsOthers.setCell _ _ _)
def aeQ{v sl:Value}{n:Int}{W W':World}(h:q0 s v n e sl W)(Y:Below (s+1+1+1) W W')(a8:Boxed W' (s+1+1+1+1+1) 23 sl):q0 s v n e sl W':=
 ⟨(Y.block _ J).trans h.c0,(Y.block _ J).trans h.c1,(Y.block _ J).trans h.c2,a8⟩
def q0.put{v sl:Value}{n:Int}{W:World}(h:q0 s v n e sl W){D:Nat}{o:Obj}(di:Obj)(hJ:W.heap[D]?=some o)(aK:o.isCells=false):q0 s v n e sl (W.putObj D di):=
 H7 (β:=Unit) s v n e sl () W _ (some D) h (grownBy_putObj' W D di) (λr e=>by cases e;exact⟨o,hJ,aK⟩)
def ae1{W:World}{v:Value}{L:Nat}{et:List Value}(h:W.ownsRow (s+1+1+1) 3 1 v L et)(cX:Value)(n' bC:Int){D:Nat}{o:Obj}(di:Obj)(hJ:W.heap[D]?=some o)(aK:o.isCells=false):
  World.ownsRow ((((W.setCell ⟨s,0,none⟩ cX).setCell ⟨s+1,0,none⟩ (.int .i64 n')).setCell ⟨s+1+1,0,none⟩ (.int .i64 bC)).putObj D di) s 3 1 v L et:=by
 rcases h.2 with⟨rfl,ao⟩|⟨g,cap,gF,rfl,hg,hh,ap⟩
 .exact⟨h.1,.inl ⟨rfl,ao⟩⟩
 have apR:g≠D:=by rintro rfl;rw[hh]at hJ;cases hJ;cases aK
 have bL:W.ownsRow s 3 1 (.slice (some ⟨g,0,none⟩) L cap) L et:=⟨h.1,.inr ⟨g,cap,gF,rfl,J,hh,ap⟩⟩;have d':∀k,g≠k->(Value.slice (some ⟨g,0,none⟩) L cap).ownBlock=none\/(Value.slice (some ⟨g,0,none⟩) L cap).ownBlock≠some k:=λk ap=>.inr λe=>ap (by simpa[Value.ownBlock]using e);exact(((bL.kept (grownBy_setCell' W s cX) (d' _ J)).kept (grownBy_setCell' _ (s+1) _) (d' _ J)).kept (grownBy_setCell' _ (s+1+1) _) (d' _ J)).kept (grownBy_putObj' _ D di) (d' _ apR)
def Cb(b9:V):kr (h_ b9 (8*b9.length+1))=hQ b9:=by
 unfold kr h_ hQ;rw[E3];refine List.filter_congr λn _ => ?_;cases h:Nat.ble 2 n
 .simp
 have:Nat.ble 1 n=true:=JR (by have:=O0 h;omega)
 grind
def ahH(ap:k<=8*b9.length+1)(h:65∈h_ b9 k):65∈hQ b9/\8<b9.length:=by unfold h_ at h;rw[rZ,ov]at h;unfold hQ;rw[rZ,ov];refine⟨⟨J,?_⟩,J⟩;have R:=h.2;omega
def atv(h:65∈hQ b9):65∈h_ b9 (8*b9.length+1):=by unfold hQ at h;rw[rZ,ov]at h;unfold h_;rw[rZ,ov];omega
def atx{L z:Nat}(hL:(hQ b9).length=L+1)(bj:(hQ b9)[L]?=some z):∀n∈hQ b9,n<=z:=by
 intro n aj;have hp:(hQ b9).Pairwise (· < ·):=List.Pairwise.filter _ List.pairwise_lt_range;obtain⟨i,hi,rfl⟩:=uN aj;obtain⟨hl,rfl⟩:=mt.1 bj;by_cases h:i=L
 .grind
 exact Jv (List.pairwise_iff_getElem.1 hp i L hi hl J)
structure tn(p:Prop):Prop where
 bB:p
set_option maxRecDepth 100000 in
set_option maxHeartbeats 4000000 in
def avB(pC:fI Tryz.prog 268 ⟨[.int .i64],[.im (.int .i64),.im (.int .u8)],tw⟩)(b off n cap:Nat)(A S:Nat)(ld:n<=cap)(dn:A+S<=n)(aj:n<=9223372036854775807)(b9:V)(ky:S=8\/S=16)(Gq:b9.length=S)(c0:UInt8)(m:Nat)(w:World)
 (ai:∀j,(h:j<b9.length)->w.cell? ⟨b,off+A+j,none⟩=some (.int .u8 (aI b9[j]))) (ng:w.cell? ⟨b,off+A,none⟩=some (.int .u8 (aI c0))) (bb:bt c0 0=true↔S=16) (X:Nat->Prop) (dg:∀b,X b->b<w.heap.size) (pE:lM Tryz.prog (view w X)) (Y:b<w.heap.size) (aP:List Int×Int×Int×Unit) (jk:tn (aP=(if S=16/\(65∈hQ b9\/∀n∈hQ b9,n<65) then(([],0,2,()):List Int×Int×Int×Unit) else(((hQ b9).map Int.ofNat,(A:Int)+(S:Int),(0:Int),()):List Int×Int×Int×Unit)))) :
 CallsIn Fence.wide (m+3) Tryz.prog 210 #[.slice (some ⟨b,off,none⟩) n cap,.int .i64 (A:Int)] w λe w'=>∃b2,e=.returned b2/\iu w X w' yX aP b2:=by
 obtain⟨C2,hi,G1,ab1,ab2⟩:=info_parts arN;have pF:¬((A:Int)<0):=J;have n1:¬((n:Int)<(A:Int)):=J;have vg:=W_ c0;obtain⟨N,fO⟩:∃N,n=A+N:=⟨n-A,J⟩;subst fO;have aaZ:(((w.alloc (.cells #[.slice none 0 0] 100)).alloc (.cells #[.int .i64 0] 3)).alloc (.cells #[.int .i64 0] 84)).cell? ⟨b,off+A,none⟩=some (.int .u8 (aI c0)):=((uZ w _ _ _).cell (p:=⟨b,off+A,none⟩) Y).trans ng;have azv:Fence.wide.fn 260:=trivial;refine callsIn_of_wp_marks Tryz.func210 rfl trivial ?_ rfl;simp only[Tryz.ntmps210,pf,ew,gw,Nat.reduceAdd,Nat.reduceSub,rW,s?,tf,ta,nG,lA];rcases ky with rfl|rfl
 .have O:bt c0 0=false:=OB.2 λh=>by have:=bb.1 h;omega
  rw[O]at vg;have bj:Go.bits BinOp.and IntKind.u8 (aI c0) 128=0:=by simpa using vg
  clear O vg;have tK:¬(N:Int)<8:=J;have aog:¬N<8:=J
  gi_wp2_with (gi_at_call 260;refine(af2 _ _ _ rfl).mono ?_;rintro e w' ⟨rfl,rfl⟩)
  have Fg:=Boxed.new ((((w.alloc (.cells #[.slice none 0 0] 100)).alloc (.cells #[.int .i64 0] 3)).alloc (.cells #[.int .i64 0] 84)).alloc (.cells #[] 3)) 100 (.slice (some ⟨w.heap.size+1+1+1,0,none⟩) 0 0);have y4:=Boxed.new (((((w.alloc (.cells #[.slice none 0 0] 100)).alloc (.cells #[.int .i64 0] 3)).alloc (.cells #[.int .i64 0] 84)).alloc (.cells #[] 3)).alloc (.cells #[.slice (some ⟨w.heap.size+1+1+1,0,none⟩) 0 0] 100)) 23 (.slice (some ⟨b,off+A,none⟩) 8 (cap-A));have eh:=Boxed.new w 100 (.slice none 0 0);have eT:=Boxed.new (w.alloc (.cells #[.slice none 0 0] 100)) 3 (.int .i64 0);have ei:=Boxed.new ((w.alloc (.cells #[.slice none 0 0] 100)).alloc (.cells #[.int .i64 0] 3)) 84 (.int .i64 0);have GQ:=World.ownsRow_made (base:=w.heap.size+1+1+1) (e:=3) (size:=1) (((w.alloc (.cells #[.slice none 0 0] 100)).alloc (.cells #[.int .i64 0] 3)).alloc (.cells #[.int .i64 0] 84)) #[] 0 bh (by unfold maxLen;omega) rfl;simp only[World.size_alloc]at Fg y4 eT ei GQ;have zs:Below w.heap.size w ((((((w.alloc (.cells #[.slice none 0 0] 100)).alloc (.cells #[.int .i64 0] 3)).alloc (.cells #[.int .i64 0] 84)).alloc (.cells #[] 3)).alloc (.cells #[.slice (some ⟨w.heap.size+1+1+1,0,none⟩) 0 0] 100)).alloc (.cells #[.slice (some ⟨b,off+A,none⟩) 8 (cap-A)] 23)):=
   (((uZ w _ _ _).alloc fv _).alloc fv _).alloc fv _
  refine wpIn_rangeFunc_ownG rfl J (gf:=287) (lb:=#[.pointer (some ⟨w.heap.size+1+1+1+1+1,0,none⟩)]) rfl trivial (enters_of Tryz.func287 (by kernel_rfl) rfl)
   (encs:=λx:Nat=>#[.int .i64 (x:Int)]) (Kp:=SX w.heap.size (w.heap.size+1+1+1+1+1)) (S:=λbs=>bs=h_ b9 (8*b9.length+1)) (Sp:=λpre=>∃k,k<=8*b9.length+1/\pre=h_ b9 k) (N:=128)
   ?seq ?kt ?kb (Below.refl _ _) (λ_=>rfl)
   (λpre W=>((∃v,Boxed W (w.heap.size+1+1+1+1) 100 v/\W.ownsRow (w.heap.size+1+1+1) 3 1 v (kr pre).length (ps pre)/\¬65∈pre)/\q0 w.heap.size (.slice none 0 0) 0 0 (.slice (some ⟨b,off+A,none⟩) 8 (cap-A)) W)/\Below w.heap.size w W)
   (λc pre W=>((c=.ret/\65∈pre)/\q0 w.heap.size (.slice none 0 0) 0 2 (.slice (some ⟨b,off+A,none⟩) 8 (cap-A)) W)/\Below w.heap.size w W)
   (OwnFrom.and (OwnFrom.and (Own.from (holdsRow_own (w.heap.size+1+1+1) _ 100 3 1 (λpre=>(kr pre).length) ps (λpre v=>¬65∈pre)) _) (Own.from (H7 w.heap.size (.slice none 0 0) 0 0 (.slice (some ⟨b,off+A,none⟩) 8 (cap-A))) _)) (ownFrom_below (bU _) fv))
   (λc=>OwnFrom.and (OwnFrom.and (ownFrom_pure _ _) (Own.from (H7 w.heap.size (.slice none 0 0) 0 2 (.slice (some ⟨b,off+A,none⟩) 8 (cap-A))) _)) (ownFrom_below (bU _) fv))
   ?start
   (λx=>{ tmps:=#[Value.slice (some { block:=b,off:=off+A }) N (cap-A),Value.int IntKind.i64 (A:Int),undef,undef,Value.pointer (some { block:=w.heap.size,off:=0 }),Value.pointer (some { block:=w.heap.size+1,off:=0 }),Value.pointer (some { block:=w.heap.size+1+1,off:=0 }),Value.int IntKind.i64 8,Value.pointer (some { block:=w.heap.size+1+1+1+1,off:=0 }),Value.int IntKind.i64 (x:Int),Value.int IntKind.i64 (A:Int),Value.bool false,Value.bool false,Value.int IntKind.i64 (A:Int),Value.slice (some { block:=b,off:=off }) (A+N) cap,Value.int IntKind.i64 ((A:Int)+(N:Int)),Value.bool (decide ((A:Int)+(N:Int)<(A:Int))),Value.bool (decide ((A:Int)+(N:Int)<(A:Int))),Value.slice (some { block:=b,off:=off }) (A+N) cap,Value.int IntKind.i64 (A:Int),Value.slice (some { block:=b,off:=off+A }) N (cap-A),Value.slice (some { block:=b,off:=off+A }) N (cap-A),Value.int IntKind.i64 (N:Int),Value.bool true,Value.bool true,Value.slice (some { block:=b,off:=off+A }) N (cap-A),Value.pointer (some { block:=b,off:=off+A }),Value.int IntKind.u8 (aI c0),Value.int IntKind.u8 0,Value.bool false,Value.bool false,Value.slice (some { block:=b,off:=off+A }) N (cap-A),Value.int IntKind.i64 (N:Int),Value.int IntKind.i64 8,Value.bool false,Value.slice (some { block:=w.heap.size+1+1+1,off:=0 }) 0 0,Value.slice (some { block:=b,off:=off+A }) N (cap-A),Value.int IntKind.i64 8,Value.slice (some { block:=b,off:=off+A }) 8 (cap-A),Value.func (Fn.func 287) #[] #[Value.pointer (some { block:=w.heap.size+1+1+1+1+1,off:=0 })],Value.int IntKind.i64 (x:Int),undef,undef,undef,undef,undef,undef,undef,undef,undef,undef,undef,undef,undef,undef,undef,undef,undef,undef,undef,undef,undef,undef,undef,undef,undef,undef,undef,undef],defers:=[] }) ?assign ?body ?done ?stop
  case seq=>
   intro l hG rX W hW kx aaI vf ao;have cP:w.heap.size+6<=W.heap.size:=by have:=hW.size;simp at this;omega
   refine(af0 pC w X dg pE (m+1) l (w.heap.size+1+1+1+1+1) w.heap.size b (off+A) (cap-A) b9 J Y hG rX (λs l0 E? ac Y=>kx s l0 E? none ac ⟨Y.os,Y.tape,Y.output,Y.size,λk ap _=>Y.block k ap⟩ (λr e=>by cases e)) (λpre x l0 an _ _ hl=>vf pre x l0 an hl) W (zs.trans (hW.mono fv)) rfl ?_ J J (λj h => ?_) ao).mono ?_
   .rw[Gq];exact(hW.cell (p:=⟨w.heap.size+1+1+1+1+1,0,none⟩) bh).trans y4.cell
   .exact(hW.cell (p:=⟨b,off+A+j,none⟩) fv).trans ((zs.cell (p:=⟨b,off+A+j,none⟩) Y).trans (ai j h))
   rintro e W' ⟨aA,h⟩;exact⟨aA,h.elim (λh=>.inl ⟨_,rfl,h⟩) (λ⟨k,ap,h⟩=>.inr ⟨_,⟨k,ap,rfl⟩,h⟩)⟩
  case kt=>exact λh k=>⟨h.1.trans k.1,k.2.trans h.2⟩
  case kb =>intro W l o di hl aK O R;simp at hl;exact⟨belowK_b (w:=w) (bU _) W l o di J aK O R,World.cell?_of_block (World.putObj_heap_other fv)⟩
  case start=>exact⟨⟨⟨_,Fg.alloc _,(GQ.alloc _).alloc _,bh⟩,⟨eh.alloc _ |>.alloc _ |>.alloc _ |>.alloc _ |>.alloc _,eT.alloc _ |>.alloc _ |>.alloc _ |>.alloc _,ei.alloc _ |>.alloc _ |>.alloc _,y4⟩⟩,zs⟩
  case assign=>
   intro l x W K fN
   gi_wp2
   exact fN
  case body=>
   rintro l pre x W ⟨⟨⟨v,aC,d9,mK⟩,ah⟩,aB⟩ bm;have RW:=aC.cell;have LD:=ah.c0.cell;have zM:=ah.c0.frozen;have Su:=ah.c1.cell;have Sv:=ah.c1.frozen;have Sw:=ah.c2.cell;have Sx:=ah.c2.frozen;have aoi:=ah.c5.lt;have iB:(kr pre).length<=pre.length:=rV _ _;by_cases zT:x=65
   .subst zT
    gi_wp2
    exact⟨(Mz _ _ _ _ _).from _,⟨⟨rfl,bh⟩,DP ah _ _ _⟩,aB.trans (C7 _ _ _ _ _)⟩
   have arf:¬(x:Int)=65:=J;by_cases zR:1<x
   .have SH:(1:Int)<(x:Int):=J
    gi_wp2_with (gi_at_builtin;refine tn.bB ?_)
    refine⟨?_⟩;refine wpListIn_append_own _ rfl _ _ 100 rfl (w.heap.size+1+1+1) 3 C2 (.int .i64 0) 1 8 ahh hi G1 ab1 ab2 rfl bP v (kr pre).length (ps pre) rfl (d9.alloc _) ⟨W.heap.size,0,none⟩ 1 1 [.int .i64 (x:Int)] rfl rfl ?hcell ?hone ?hb1 ?hb2 ?hb3 ?hrest
    case hcell=>exact cell_one_new _ _ _
    case hone=>simp[Value.oneCell']
    case hb1=>simp[maxLen];omega
    case hb2=>omega
    case hb3=>have:=aB.size;simp;omega
    case hrest=>
     intro cX cf GO GE _;obtain⟨i0,cap',rfl⟩:=ownsRow_succ GO;obtain⟨xq,CY,St,ni,hb2⟩:=aC.appended bP d9 J J GO GE;have RO:Boxed cf (w.heap.size+1+1+1+1+1) 23 _:=(ah.c5.alloc (.cells #[Value.int .i64 (x:Int)] 3)).kept GE (ah.c5.not_row bP d9);have sq:=xq.cell;have R5:=xq.frozen
     gi_wp2
     have Gi:=RO.sX (C:=w.heap.size+1+1+1+1) J (.slice (some ⟨i0,0,none⟩) ((kr pre).length+1) cap');have Gl:=hb2.mono (B':=w.heap.size) J;refine⟨ni.from _,⟨Gl,Gi.cell.trans ah.c5.cell.symm⟩,⟨⟨_,CY,?_,?_⟩,aeQ ah hb2 Gi⟩,aB.trans Gl⟩
     .rw[ps,YF zR];simpa[ps]using St
     simpa[mK]using λe=>zT e.symm
   have SH:¬(1:Int)<(x:Int):=J
   gi_wp2
   refine⟨KeepsFrom.refl _ _,⟨Below.refl _ _,rfl⟩,⟨⟨v,aC,?_,?_⟩,ah⟩,aB⟩
   .rw[ps,YG zR];exact d9
   simpa[mK]using λe=>zT e.symm
  case done=>
   rintro D bs W hJ rfl ⟨⟨⟨v,aC,d9,mK⟩,ah⟩,aB⟩ fN;have RW:=aC.cell;have LD:=ah.c0.cell;have zM:=ah.c0.frozen;have Su:=ah.c1.cell;have Sv:=ah.c1.frozen;have Sw:=ah.c2.cell;have Sx:=ah.c2.frozen;have lc:=λv n e=>(Mz w.heap.size v n e W).same D _ fN rfl;have LL:=Wd b9 (8*b9.length+1) J;have iB:(kr (h_ b9 (8*b9.length+1))).length<=(h_ b9 (8*b9.length+1)).length:=rV _ _;obtain⟨C,cv⟩:∃C,tn (C=kr (h_ b9 (8*b9.length+1))):=⟨_,⟨rfl⟩⟩;unfold ps at d9;rw[<- cv.bB]at d9 iB;have RE:C.length<=128:=J;have vk:tn (W.ownsRow (w.heap.size+1+1+1) 3 1 v C.length (C.map λ(n:Nat)=>Value.int .i64 (n:Int))):=⟨d9⟩;clear d9 iB LL;obtain⟨L,hL⟩:∃L,tn (L=C.length):=⟨_,⟨rfl⟩⟩;rw[<- hL.bB]at vk RE;obtain⟨a,c,GY⟩:∃a c,v=.slice a L c:=by
    rcases vk.bB.2 with⟨h,bL⟩|⟨g,cap',gF,h,_⟩
    .exact⟨none,0,by rw[bL];exact h⟩
    exact⟨_,_,h⟩
   subst GY
   gi_wp2
   case h_1.isFalse aA _=>cases aA
   all_goals
    refine⟨bh,.inl ⟨_,_,rfl,run_takeDeferred (lc _ _ _),?_⟩⟩;have bj:=((DP ah (.slice a L c) ((A:Int)+8) 0).put (.deferred none) (lc _ _ _) rfl);refine⟨.tuple #[(.slice a L c),.int .i64 ((A:Int)+8),.int .i64 0],by simp[results,Tryz.f210,go_sem,bj.c0.cell,bj.c1.cell,bj.c2.cell],_,rfl,?_⟩;rw[jk.bB,if_neg (λh=>by have:=h.1;first|exact this.elim|omega)];refine aeU dg ((aB.trans (C7 _ _ _ _ _)).trans (belowK_b (w:=w) (bU _) _ D _ _ (by simp at hJ;omega) (lc _ _ _) rfl rfl)) ?_ _;have SA:=ae1 vk.bB (.slice a L c) ((A:Int)+8) 0 (.deferred none) fN rfl;rw[<- Cb,<- cv.bB,ou,<- hL.bB,Jw];exact SA
  case stop =>rintro D c pre W hJ ⟨k,ap,rfl⟩ ⟨⟨⟨rfl,mK⟩,ah⟩,aB⟩ fN;have:=(ahH ap mK).2;omega
 have O:bt c0 0=true:=bb.2 rfl;rw[O]at vg;clear O;have tK:¬(N:Int)<16:=J;have aog:¬N<16:=J
 gi_wp2_with (gi_at_call 260;refine(af2 _ _ _ rfl).mono ?_;rintro e w' ⟨rfl,rfl⟩)
 have Fg:=Boxed.new ((((w.alloc (.cells #[.slice none 0 0] 100)).alloc (.cells #[.int .i64 0] 3)).alloc (.cells #[.int .i64 0] 84)).alloc (.cells #[] 3)) 100 (.slice (some ⟨w.heap.size+1+1+1,0,none⟩) 0 0);have y4:=Boxed.new (((((w.alloc (.cells #[.slice none 0 0] 100)).alloc (.cells #[.int .i64 0] 3)).alloc (.cells #[.int .i64 0] 84)).alloc (.cells #[] 3)).alloc (.cells #[.slice (some ⟨w.heap.size+1+1+1,0,none⟩) 0 0] 100)) 23 (.slice (some ⟨b,off+A,none⟩) 16 (cap-A));have eh:=Boxed.new w 100 (.slice none 0 0);have eT:=Boxed.new (w.alloc (.cells #[.slice none 0 0] 100)) 3 (.int .i64 0);have ei:=Boxed.new ((w.alloc (.cells #[.slice none 0 0] 100)).alloc (.cells #[.int .i64 0] 3)) 84 (.int .i64 0);have GQ:=World.ownsRow_made (base:=w.heap.size+1+1+1) (e:=3) (size:=1) (((w.alloc (.cells #[.slice none 0 0] 100)).alloc (.cells #[.int .i64 0] 3)).alloc (.cells #[.int .i64 0] 84)) #[] 0 bh (by unfold maxLen;omega) rfl;simp only[World.size_alloc]at Fg y4 eT ei GQ;have zs:Below w.heap.size w ((((((w.alloc (.cells #[.slice none 0 0] 100)).alloc (.cells #[.int .i64 0] 3)).alloc (.cells #[.int .i64 0] 84)).alloc (.cells #[] 3)).alloc (.cells #[.slice (some ⟨w.heap.size+1+1+1,0,none⟩) 0 0] 100)).alloc (.cells #[.slice (some ⟨b,off+A,none⟩) 16 (cap-A)] 23)):=
  (((uZ w _ _ _).alloc fv _).alloc fv _).alloc fv _
 refine wpIn_rangeFunc_ownG rfl J (gf:=287) (lb:=#[.pointer (some ⟨w.heap.size+1+1+1+1+1,0,none⟩)]) rfl trivial (enters_of Tryz.func287 (by kernel_rfl) rfl)
  (encs:=λx:Nat=>#[.int .i64 (x:Int)]) (Kp:=SX w.heap.size (w.heap.size+1+1+1+1+1)) (S:=λbs=>bs=h_ b9 (8*b9.length+1)) (Sp:=λpre=>∃k,k<=8*b9.length+1/\pre=h_ b9 k) (N:=128)
  ?seq ?kt ?kb (Below.refl _ _) (λ_=>rfl)
  (λpre W=>((∃v,Boxed W (w.heap.size+1+1+1+1) 100 v/\W.ownsRow (w.heap.size+1+1+1) 3 1 v (kr pre).length (ps pre)/\¬65∈pre)/\q0 w.heap.size (.slice none 0 0) 0 0 (.slice (some ⟨b,off+A,none⟩) 16 (cap-A)) W)/\Below w.heap.size w W)
  (λc pre W=>((c=.ret/\65∈pre)/\q0 w.heap.size (.slice none 0 0) 0 2 (.slice (some ⟨b,off+A,none⟩) 16 (cap-A)) W)/\Below w.heap.size w W)
  (OwnFrom.and (OwnFrom.and (Own.from (holdsRow_own (w.heap.size+1+1+1) _ 100 3 1 (λpre=>(kr pre).length) ps (λpre v=>¬65∈pre)) _) (Own.from (H7 w.heap.size (.slice none 0 0) 0 0 (.slice (some ⟨b,off+A,none⟩) 16 (cap-A))) _)) (ownFrom_below (bU _) fv))
  (λc=>OwnFrom.and (OwnFrom.and (ownFrom_pure _ _) (Own.from (H7 w.heap.size (.slice none 0 0) 0 2 (.slice (some ⟨b,off+A,none⟩) 16 (cap-A))) _)) (ownFrom_below (bU _) fv))
  ?start
  (λx=>{ tmps:=#[Value.slice (some { block:=b,off:=off+A }) N (cap-A),Value.int IntKind.i64 (A:Int),undef,undef,Value.pointer (some { block:=w.heap.size,off:=0 }),Value.pointer (some { block:=w.heap.size+1,off:=0 }),Value.pointer (some { block:=w.heap.size+1+1,off:=0 }),Value.int IntKind.i64 16,Value.pointer (some { block:=w.heap.size+1+1+1+1,off:=0 }),Value.int IntKind.i64 (x:Int),Value.int IntKind.i64 (A:Int),Value.bool false,Value.bool false,Value.int IntKind.i64 (A:Int),Value.slice (some { block:=b,off:=off }) (A+N) cap,Value.int IntKind.i64 ((A:Int)+(N:Int)),Value.bool (decide ((A:Int)+(N:Int)<(A:Int))),Value.bool (decide ((A:Int)+(N:Int)<(A:Int))),Value.slice (some { block:=b,off:=off }) (A+N) cap,Value.int IntKind.i64 (A:Int),Value.slice (some { block:=b,off:=off+A }) N (cap-A),Value.slice (some { block:=b,off:=off+A }) N (cap-A),Value.int IntKind.i64 (N:Int),Value.bool true,Value.bool true,Value.slice (some { block:=b,off:=off+A }) N (cap-A),Value.pointer (some { block:=b,off:=off+A }),Value.int IntKind.u8 (aI c0),Value.int IntKind.u8 (Go.bits BinOp.and IntKind.u8 (aI c0) 128),Value.bool true,Value.bool true,Value.slice (some { block:=b,off:=off+A }) N (cap-A),Value.int IntKind.i64 (N:Int),Value.int IntKind.i64 16,Value.bool false,Value.slice (some { block:=w.heap.size+1+1+1,off:=0 }) 0 0,Value.slice (some { block:=b,off:=off+A }) N (cap-A),Value.int IntKind.i64 16,Value.slice (some { block:=b,off:=off+A }) 16 (cap-A),Value.func (Fn.func 287) #[] #[Value.pointer (some { block:=w.heap.size+1+1+1+1+1,off:=0 })],Value.int IntKind.i64 (x:Int),undef,undef,undef,undef,undef,undef,undef,undef,undef,undef,undef,undef,undef,undef,undef,undef,undef,undef,undef,undef,undef,undef,undef,undef,undef,undef,undef,undef],defers:=[] }) ?assign ?body ?done ?stop
 case seq=>
  intro l hG rX W hW kx aaI vf ao;have cP:w.heap.size+6<=W.heap.size:=by have:=hW.size;simp at this;omega
  refine(af0 pC w X dg pE (m+1) l (w.heap.size+1+1+1+1+1) w.heap.size b (off+A) (cap-A) b9 J Y hG rX (λs l0 E? ac Y=>kx s l0 E? none ac ⟨Y.os,Y.tape,Y.output,Y.size,λk ap _=>Y.block k ap⟩ (λr e=>by cases e)) (λpre x l0 an _ _ hl=>vf pre x l0 an hl) W (zs.trans (hW.mono fv)) rfl ?_ J J (λj h => ?_) ao).mono ?_
  .rw[Gq];exact(hW.cell (p:=⟨w.heap.size+1+1+1+1+1,0,none⟩) bh).trans y4.cell
  .exact(hW.cell (p:=⟨b,off+A+j,none⟩) fv).trans ((zs.cell (p:=⟨b,off+A+j,none⟩) Y).trans (ai j h))
  rintro e W' ⟨aA,h⟩;exact⟨aA,h.elim (λh=>.inl ⟨_,rfl,h⟩) (λ⟨k,ap,h⟩=>.inr ⟨_,⟨k,ap,rfl⟩,h⟩)⟩
 case kt=>exact λh k=>⟨h.1.trans k.1,k.2.trans h.2⟩
 case kb =>intro W l o di hl aK O R;simp at hl;exact⟨belowK_b (w:=w) (bU _) W l o di J aK O R,World.cell?_of_block (World.putObj_heap_other fv)⟩
 case start=>exact⟨⟨⟨_,Fg.alloc _,(GQ.alloc _).alloc _,bh⟩,⟨eh.alloc _ |>.alloc _ |>.alloc _ |>.alloc _ |>.alloc _,eT.alloc _ |>.alloc _ |>.alloc _ |>.alloc _,ei.alloc _ |>.alloc _ |>.alloc _,y4⟩⟩,zs⟩
 case assign=>
  intro l x W K fN
  gi_wp2
  exact fN
 case body=>
  rintro l pre x W ⟨⟨⟨v,aC,d9,mK⟩,ah⟩,aB⟩ bm;have RW:=aC.cell;have LD:=ah.c0.cell;have zM:=ah.c0.frozen;have Su:=ah.c1.cell;have Sv:=ah.c1.frozen;have Sw:=ah.c2.cell;have Sx:=ah.c2.frozen;have aoi:=ah.c5.lt;have iB:(kr pre).length<=pre.length:=rV _ _;by_cases zT:x=65
  .subst zT
   gi_wp2
   exact⟨(Mz _ _ _ _ _).from _,⟨⟨rfl,bh⟩,DP ah _ _ _⟩,aB.trans (C7 _ _ _ _ _)⟩
  have arf:¬(x:Int)=65:=J;by_cases zR:1<x
  .have SH:(1:Int)<(x:Int):=J
   gi_wp2_with (gi_at_builtin;refine tn.bB ?_)
   refine⟨?_⟩;refine wpListIn_append_own _ rfl _ _ 100 rfl (w.heap.size+1+1+1) 3 C2 (.int .i64 0) 1 8 ahh hi G1 ab1 ab2 rfl bP v (kr pre).length (ps pre) rfl (d9.alloc _) ⟨W.heap.size,0,none⟩ 1 1 [.int .i64 (x:Int)] rfl rfl ?hcell ?hone ?hb1 ?hb2 ?hb3 ?hrest
   case hcell=>exact cell_one_new _ _ _
   case hone=>simp[Value.oneCell']
   case hb1=>simp[maxLen];omega
   case hb2=>omega
   case hb3=>have:=aB.size;simp;omega
   case hrest=>
    intro cX cf GO GE _;obtain⟨i0,cap',rfl⟩:=ownsRow_succ GO;obtain⟨xq,CY,St,ni,hb2⟩:=aC.appended bP d9 J J GO GE;have RO:Boxed cf (w.heap.size+1+1+1+1+1) 23 _:=(ah.c5.alloc (.cells #[Value.int .i64 (x:Int)] 3)).kept GE (ah.c5.not_row bP d9);have sq:=xq.cell;have R5:=xq.frozen
    gi_wp2
    have Gi:=RO.sX (C:=w.heap.size+1+1+1+1) J (.slice (some ⟨i0,0,none⟩) ((kr pre).length+1) cap');have Gl:=hb2.mono (B':=w.heap.size) J;refine⟨ni.from _,⟨Gl,Gi.cell.trans ah.c5.cell.symm⟩,⟨⟨_,CY,?_,?_⟩,aeQ ah hb2 Gi⟩,aB.trans Gl⟩
    .rw[ps,YF zR];simpa[ps]using St
    simpa[mK]using λe=>zT e.symm
  have SH:¬(1:Int)<(x:Int):=J
  gi_wp2
  refine⟨KeepsFrom.refl _ _,⟨Below.refl _ _,rfl⟩,⟨⟨v,aC,?_,?_⟩,ah⟩,aB⟩
  .rw[ps,YG zR];exact d9
  simpa[mK]using λe=>zT e.symm
 case done=>
  rintro D bs W hJ rfl ⟨⟨⟨v,aC,d9,mK⟩,ah⟩,aB⟩ fN;have RW:=aC.cell;have LD:=ah.c0.cell;have zM:=ah.c0.frozen;have Su:=ah.c1.cell;have Sv:=ah.c1.frozen;have Sw:=ah.c2.cell;have Sx:=ah.c2.frozen;have lc:=λv n e=>(Mz w.heap.size v n e W).same D _ fN rfl;have LL:=Wd b9 (8*b9.length+1) J;have iB:(kr (h_ b9 (8*b9.length+1))).length<=(h_ b9 (8*b9.length+1)).length:=rV _ _;obtain⟨C,cv⟩:∃C,tn (C=kr (h_ b9 (8*b9.length+1))):=⟨_,⟨rfl⟩⟩;unfold ps at d9;rw[<- cv.bB]at d9 iB;have RE:C.length<=128:=J;have vk:tn (W.ownsRow (w.heap.size+1+1+1) 3 1 v C.length (C.map λ(n:Nat)=>Value.int .i64 (n:Int))):=⟨d9⟩;clear d9 iB LL;by_cases RD:C.length=0
  .rw[RD]at vk
   obtain⟨a,c,GY⟩:∃a c,v=.slice a 0 c:=by
    rcases vk.bB.2 with⟨h,_⟩|⟨g,cap',gF,h,_⟩
    .exact⟨_,_,h⟩
    exact⟨_,_,h⟩
   subst GY
   gi_wp2
   refine⟨bh,.inl ⟨_,_,rfl,run_takeDeferred (lc _ _ _),?_⟩⟩;have bj:=((DP ah (.slice none 0 0) (0) 2).put (.deferred none) (lc _ _ _) rfl);refine⟨.tuple #[(.slice none 0 0),.int .i64 (0),.int .i64 2],by simp[results,Tryz.f210,go_sem,bj.c0.cell,bj.c1.cell,bj.c2.cell],_,rfl,?_⟩;have hall:∀n∈hQ b9,n<65:=by intro n aj;rw[<- Cb,<- cv.bB,k3.1 RD]at aj;cases aj
   rw[jk.bB,if_pos ⟨by trivial,.inr hall⟩];exact x6 dg ((aB.trans (C7 _ _ _ _ _)).trans (belowK_b (w:=w) (bU _) _ D _ _ (by simp at hJ;omega) (lc _ _ _) rfl rfl)) 2
  obtain⟨L,hL⟩:∃L,C.length=L+1:=⟨C.length-1,J⟩;rw[hL]at vk RE;obtain⟨g,cap',z,GY,G1,aa2⟩:∃g cap' z,v=.slice (some ⟨g,0,none⟩) (L+1) cap'/\tn (C[L]?=some z)/\W.cell? ⟨g,L,none⟩=some (.int .i64 (z:Int)):=by
   rcases vk.bB.2 with⟨h,bL⟩|⟨g,cap',gF,h,hg,hh,re,ni,ff,jC⟩
   .omega
   refine⟨g,cap',C[L]'J,h,⟨jM J⟩,?_⟩;rw[World.cell?,hh];have O:gF.toList[L]?=some (Value.int .i64 ((C[L]'J:Nat):Int)):=by have R:(List.take ((L+1)*1) gF.toList)[L]?=gF.toList[L]?:=O5 J;rw[<- R,jC,JL,jM (show L<C.length by omega)];rfl
   have af:gF[L]?=some (Value.int .i64 ((C[L]'J:Nat):Int)):=by rw[<- O];simp
   simpa using af
  subst GY;clear RD;have Gg:tn (C.length=L+1):=⟨hL⟩;clear hL;have tM:¬((L+1:Nat):Int)=0:=J;have C0:wrap64 (((L+1:Nat):Int)-1)=(L:Int):=by rw[show((L+1:Nat):Int)-1=(L:Int) by omega];unfold wrap64;omega
  have vo:(L:Int)<((L+1:Nat):Int):=J;have azn:(0:Int)<=(L:Int):=J;by_cases arm:(z:Int)<65
  .gi_wp2
   refine⟨bh,.inl ⟨_,_,rfl,run_takeDeferred (lc _ _ _),?_⟩⟩;have bj:=((DP ah (.slice none 0 0) (0) 2).put (.deferred none) (lc _ _ _) rfl);refine⟨.tuple #[(.slice none 0 0),.int .i64 (0),.int .i64 2],by simp[results,Tryz.f210,go_sem,bj.c0.cell,bj.c1.cell,bj.c2.cell],_,rfl,?_⟩;have hall:∀n∈hQ b9,n<65:=by intro n aj;have:=atx (by rw[<- Cb,<- cv.bB];exact Gg.bB) (by rw[<- Cb,<- cv.bB];exact G1.bB) n aj;omega
   rw[jk.bB,if_pos ⟨by trivial,.inr hall⟩];exact x6 dg ((aB.trans (C7 _ _ _ _ _)).trans (belowK_b (w:=w) (bU _) _ D _ _ (by simp at hJ;omega) (lc _ _ _) rfl rfl)) 2
  gi_wp2
  refine⟨bh,.inl ⟨_,_,rfl,run_takeDeferred (lc _ _ _),?_⟩⟩;have bj:=((DP ah (.slice (some ⟨g,0,none⟩) (L+1) cap') ((A:Int)+16) 0).put (.deferred none) (lc _ _ _) rfl);refine⟨.tuple #[(.slice (some ⟨g,0,none⟩) (L+1) cap'),.int .i64 ((A:Int)+16),.int .i64 0],by simp[results,Tryz.f210,go_sem,bj.c0.cell,bj.c1.cell,bj.c2.cell],_,rfl,?_⟩;rw[jk.bB,if_neg (λh=>h.2.elim (λh=>mK (atv h)) (λh=>absurd arm (by have:=h z (by rw[<- Cb,<- cv.bB];exact JT G1.bB);omega)))];refine aeU dg ((aB.trans (C7 _ _ _ _ _)).trans (belowK_b (w:=w) (bU _) _ D _ _ (by simp at hJ;omega) (lc _ _ _) rfl rfl)) ?_ _;have SA:=ae1 vk.bB (.slice (some ⟨g,0,none⟩) (L+1) cap') ((A:Int)+16) 0 (.deferred none) fN rfl;rw[<- Cb,<- cv.bB,ou,Gg.bB,Jw];exact SA
 case stop=>
  rintro D c pre W hJ ⟨k,ap,rfl⟩ ⟨⟨⟨rfl,mK⟩,ah⟩,aB⟩ fN
  gi_wp2
  refine⟨bh,.inl ⟨_,_,rfl,run_takeDeferred fN,?_⟩⟩;have bj:=ah.put (.deferred none) fN rfl;refine⟨.tuple #[.slice none 0 0,.int .i64 0,.int .i64 2],by simp[results,Tryz.f210,go_sem,bj.c0.cell,bj.c1.cell,bj.c2.cell],_,rfl,?_⟩;rw[jk.bB,if_pos ⟨by trivial,.inl (ahH ap mK).1⟩];exact x6 dg (aB.trans (belowK_b (w:=w) (bU _) _ D _ _ (by simp at hJ;omega) fN rfl rfl)) 2
end Yp
namespace Yp
open Go Go.Proofs
abbrev Na:eA:=⟨[.sl (.int .u8),.int .i64],[.ow (.int .i64),.im (.int .i64),.im (.int .i64)],W8⟩
def ao0{c:V}(h:0<c.length):iA c 1=bt c[0] 0:=by
 unfold iA ak
 grind
set_option maxRecDepth 100000 in
def avC(pC:fI Tryz.prog 268 ⟨[.int .i64],[.im (.int .i64),.im (.int .u8)],tw⟩)(l:V)(c9:Int)(a:Option Addr)(cap:Nat)(w:World)(X:Nat->Prop)(dg:∀b,X b->b<w.heap.size)(pE:lM Tryz.prog (view w X))(O:l.length<=cap)(tK:cap<=9223372036854775807)
  (af:l=[]\/∃b o c el fz,a=some ⟨b,o,none⟩/\view w X b=some (.cells c el fz)/\o+l.length*1<=c.size/\∀(i:Nat) (x:UInt8),l[i]?=some x->cF c (o+i*1) 1=[Value.int .u8 (aI x)]) :
  Calls Tryz.prog 210 #[Value.slice a l.length cap,Value.int .i64 c9] w λe w'=>∃b2,e=.returned b2/\iu w X w' Na.res (k8 l c9) b2:=by
 by_cases dn:c9<0
 .have e:k8 l c9=([],0,1,()):=if_pos (.inl dn)
  refine(callsIn_wide (n:=0)).1 (avx a _ cap c9 dn 0 w X dg |>.mono ?_);intro bC w' ⟨b2,h,bL⟩;exact⟨b2,h,by rw[e];exact bL⟩
 by_cases aB:(l.length:Int)<c9
 .have e:k8 l c9=([],0,1,()):=if_pos (.inr aB)
  refine(callsIn_wide (n:=0)).1 (avy a _ cap c9 dn aB 0 w X dg |>.mono ?_);intro bC w' ⟨b2,h,bL⟩;exact⟨b2,h,by rw[e];exact bL⟩
 obtain⟨A,rfl⟩:∃A:Nat,c9=(A:Int):=⟨c9.toNat,J⟩;have aom:A<=l.length:=J;have amq:k8 l (A:Int)=pp (l.drop A) (A:Int):=by unfold k8;rw[if_neg J];rfl
 rw[amq];have Gv:(l.drop A).length=l.length-A:=fb;by_cases b?:A=l.length
 .have e:pp (l.drop A) (A:Int)=([],0,3,()):=if_pos (.inl J)
  refine(callsIn_wide (n:=0)).1 (avz a _ cap A O b? 0 w X dg |>.mono ?_);intro bC w' ⟨b2,h,bL⟩;exact⟨b2,h,by rw[e];exact bL⟩
 rcases af with rfl|⟨b,o,c,el,fz,rfl,aC,cP,Gw⟩
 .simp at b? aom;omega
 have aqV:o+l.length*1<=c.size:=cP;obtain⟨n2,hh⟩:=jr.1 aC;have dD:b<w.heap.size:=(ip.1 hh).1;have hcell:∀i,(h:i<l.length)->w.cell? ⟨b,o+i,none⟩=some (.int .u8 (aI l[i])):=by
  intro i h;have cS:cF c (o+i*1) 1=[Value.int .u8 (aI l[i])]:=Gw i l[i] (jM h);rw[mw]at cS;have dN:c[o+i]?=some (Value.int .u8 (aI l[i])):=by have:=ux (c:=c) (o:=o+i) (n:=1) (i:=0) J;rw[cS]at this;simpa using this.symm
  rw[World.cell?,hh];simpa using dN
 have ng:=hcell A J;have jA:iA (l.drop A) 1=bt (l[A]'J) 0:=by rw[ao0 J];congr 1;simp
 by_cases ky:(l.drop A).length<8\/(iA (l.drop A) 1=true/\(l.drop A).length<16)
 .have e:pp (l.drop A) (A:Int)=([],0,3,()):=if_pos ky
  have ac:(bt (l[A]'J) 0=true/\l.length-A<16)\/(bt (l[A]'J) 0=false/\l.length-A<8):=by
   rw[jA,Gv]at ky;cases Y:bt (l[A]'J) 0
   .rw[Y]at ky;exact .inr ⟨rfl,by simpa using ky⟩
   exact .inl ⟨rfl,J⟩
  refine(callsIn_wide (n:=0)).1 (avA b o _ cap A O J _ 0 w ng ac X dg dD |>.mono ?_);intro bC w' ⟨b2,h,bL⟩;exact⟨b2,h,by rw[e];exact bL⟩
 have azb:8<=l.length-A:=J;have run:∀(S:Nat),(S=8\/S=16)->A+S<=l.length->(bt (l[A]'J) 0=true↔S=16)->∀aP,aP=(if S=16/\(65∈hQ ((l.drop A).take S)\/∀n∈hQ ((l.drop A).take S),n<65) then(([],0,2,()):List Int×Int×Int×Unit) else(((hQ ((l.drop A).take S)).map Int.ofNat,(A:Int)+(S:Int),(0:Int),()):List Int×Int×Int×Unit))->pp (l.drop A) (A:Int)=aP ->
   Calls Tryz.prog 210 #[Value.slice (some ⟨b,o,none⟩) l.length cap,Value.int .i64 (A:Int)] w λe w'=>∃b2,e=.returned b2/\iu w X w' Na.res (pp (l.drop A) (A:Int)) b2:=by
  intro S cx hl Gp aP jk aA;rw[aA];refine(callsIn_wide (n:=3)).1 (avB pC b o _ cap A S O hl J ((l.drop A).take S) cx (by rw[hE,Gv];omega) _ 0 w ?_ ng Gp X dg pE dD aP ⟨jk⟩);intro j an;have l_:A+j<l.length:=by rw[hE,Gv]at an;omega
  rw[ju,hcell (A+j) l_];simp
 cases Y:bt (l[A]'J) 0
 .rw[Y]at jA
  refine run 8 (.inl rfl) J (by rw[Y];simp) _ rfl ?_;unfold pp;rw[if_neg ky,if_neg (by rw[jA];simp),if_neg J];rfl
 rw[Y]at jA;have nY:16<=l.length-A:=by
  rcases yY (l.drop A).length 16 with h|h
  .exact absurd (.inr ⟨jA,h⟩) ky
  omega
 refine run 16 (.inr rfl) J (by rw[Y];simp) _ rfl ?_;unfold pp;rw[if_neg ky,if_pos jA];simp only[true_and];rfl
set_option maxRecDepth 100000 in
def aoI(pC:fI Tryz.prog 268 ⟨[.int .i64],[.im (.int .i64),.im (.int .u8)],tw⟩):fI Tryz.prog 210 Na:=by refine⟨⟨Tryz.f210,Tryz.func210,by kernel_rfl,by kernel_rfl⟩,?_⟩;intro w X x vs r dg ap bu ah;obtain⟨l,c9,⟨⟩⟩:=x;obtain rfl:k8 l c9=r:=lZ ah;obtain⟨cs,d3,rfl,ai,q6,mX,rfl,oK,rfl⟩:=bu;obtain⟨a,cap,rfl,O,R,af⟩:=aH.ic.1 ai;obtain rfl:=aH.ia.1 oK;refine avC pC l c9 a cap w X dg ap O R (af.imp id ?_);rintro⟨b,o,c,el,fz,rfl,aC,cP,Gw⟩;exact⟨b,o,c,el,fz,rfl,aC,cP,λi x hx=>aH.ia.1 (Gw i x hx)⟩
end Yp
namespace Yp
open Go Go.Conc Go.RowKit Go.Proofs
def p':=@Option.getD_some
section
variable {P:Program} {iz:Frame} {cs:List Frame} {w w₁:World} {es:Array Event} {c cap s r:Nat} {buf:Array Value} {z' v:Value} {tm:Bool}
def axv(h:stepG P true (G iz cs) w=.comm (G iz cs) #[scase c v z'] false .select w₁ es)(ai:w₁.heap[c]?=some (.chan cap buf false s r tm))(fV:buf.size<cap):
  step P (solo (G iz cs) w)=.next (solo (G (iz.finish (.tuple #[goInt 0,.bool false])) cs) (w₁.setChan c cap (buf.push v) false (s+1) r tm)):=by
 have hp:=partners_alone (c:=c) false;rw[step,stepT_solo rfl];simp[runT,solo,G,Array.swapAt!,Array.swapAt,h,GStep.es,communicate,ways,scase,ai,hp,fV,choose,Sem.run,Question.forced,bind,Sem.bind,pure,Goroutine.finishComm,commResult,World.setChan]at h ⊢
def axu(h:stepG P true (G iz cs) w=.comm (G iz cs) #[scase c v z'] false .select w₁ es)(ai:w₁.heap[c]?=some (.chan cap buf false s r tm))(zF:¬buf.size<cap):
  step P (solo (G iz cs) w)=.next (solo (G (iz.finish (.tuple #[goInt (-1),.bool false])) cs) w₁):=by
 have hp:=partners_alone (c:=c) false;rw[step,stepT_solo rfl];simp[runT,solo,G,Array.swapAt!,Array.swapAt,h,GStep.es,communicate,ways,scase,ai,hp,zF,Goroutine.finishComm,commResult]at h ⊢
end
set_option maxRecDepth 100000 in
def au8{w:World}{buf:Array Value}{v:Value}{tm:Bool}(ai:w.heap[c]?=some (.chan cap buf false s r tm))(fV:buf.size<cap):
  Calls Tryz.prog 269 #[.agg #[.chan (some c)],v] w λe w'=>e=.returned (.bool true)/\w'=(w.alloc (.cells #[.chan (some c)] 324)).setChan c cap (buf.push v) false (s+1) r tm:=by
 have bm:c<w.heap.size:=(ip.1 ai).1;refine calls_of_loneTo λcs => ?_;have e:Frame.enter Tryz.prog 269 #[.agg #[.chan (some c)],v] .normal=(base 269).at ⟨#[.agg #[.chan (some c)],v,undef,undef,undef,undef,undef,undef,undef,undef,undef],[]⟩ [.code (Tryz.f269.body.getD .skip)]:=by simp[Frame.enter,Frame.at,Tryz.func269,base,Tryz.f269]
 rw[e];refine LoneTo.goes (n:=16) ?_;simp only[Tryz.f269,p']
 s_c stepG_seq
 s_reg
 s_op
 s_op
 s_c stepG_region_end
 s_c stepG_seq
 s_c stepG_seq
 s_reg
 s_op
 s_op
 s_c stepG_region_end
 s_reg
 s_op
 s_c stepG_region_end
 s_c stepG_seq
 s_reg
 s_stop
 refine LoneTo.step (axv (c:=c) (z':=.slice none 0 0) (v:=v) (buf:=buf) (cap:=cap) (s:=s) (r:=r) (tm:=tm) (stepG_comm (cases:=#[scase c v (.slice none 0 0)]) (blocking:=false) (shape:=.select) (w':=w.alloc (.cells #[.chan (some c)] 324)) rfl rfl bP (by simp[go_sem,execOp,scase,Act.eval])) (by rw[heap_alloc_old _ _ bm];exact ai) fV) ?_;rw[Frame.finish_at]
 walk_nrm
 refine LoneTo.goes (n:=9) ?_
 s_op
 s_op
 s_c stepG_region_end
 s_c stepG_block
 s_cond true
 s_c stepG_seq
 s_reg
 s_op
 s_c stepG_region_end
 s_stop
 refine LoneTo.goes (n:=1) ?_
 s_c stepG_ret'
 s_stop
 refine LoneTo.done ⟨.returned (.bool true),_,rfl,⟨rfl,rfl⟩,rfl,rfl,rfl,rfl,_,Tryz.func269,by simp[results,Tryz.f269,Frame.at]⟩
set_option maxRecDepth 100000 in
def au4{w:World}{buf:Array Value}{v:Value}{tm:Bool}(ai:w.heap[c]?=some (.chan cap buf false s r tm))(fV:¬buf.size<cap):
  Calls Tryz.prog 269 #[.agg #[.chan (some c)],v] w λe w'=>e=.returned (.bool false)/\w'=w.alloc (.cells #[.chan (some c)] 324):=by
 have bm:c<w.heap.size:=(ip.1 ai).1;refine calls_of_loneTo λcs => ?_;have e:Frame.enter Tryz.prog 269 #[.agg #[.chan (some c)],v] .normal=(base 269).at ⟨#[.agg #[.chan (some c)],v,undef,undef,undef,undef,undef,undef,undef,undef,undef],[]⟩ [.code (Tryz.f269.body.getD .skip)]:=by simp[Frame.enter,Frame.at,Tryz.func269,base,Tryz.f269]
 rw[e];refine LoneTo.goes (n:=16) ?_;simp only[Tryz.f269,p']
 s_c stepG_seq
 s_reg
 s_op
 s_op
 s_c stepG_region_end
 s_c stepG_seq
 s_c stepG_seq
 s_reg
 s_op
 s_op
 s_c stepG_region_end
 s_reg
 s_op
 s_c stepG_region_end
 s_c stepG_seq
 s_reg
 s_stop
 refine LoneTo.step (axu (c:=c) (z':=.slice none 0 0) (v:=v) (buf:=buf) (cap:=cap) (s:=s) (r:=r) (tm:=tm) (stepG_comm (cases:=#[scase c v (.slice none 0 0)]) (blocking:=false) (shape:=.select) (w':=w.alloc (.cells #[.chan (some c)] 324)) rfl rfl bP (by simp[go_sem,execOp,scase,Act.eval])) (by rw[heap_alloc_old _ _ bm];exact ai) fV) ?_;rw[Frame.finish_at]
 walk_nrm
 refine LoneTo.goes (n:=9) ?_
 s_op
 s_op
 s_c stepG_region_end
 s_c stepG_block
 s_cond false
 s_c stepG_seq
 s_reg
 s_op
 s_c stepG_region_end
 s_stop
 refine LoneTo.goes (n:=1) ?_
 s_c stepG_ret'
 s_stop
 refine LoneTo.done ⟨.returned (.bool false),_,rfl,⟨rfl,rfl⟩,rfl,rfl,rfl,rfl,_,Tryz.func269,by simp[results,Tryz.f269,Frame.at]⟩
end Yp
namespace Yp
open Go Go.Conc Go.RowKit Go.Proofs
def Db{P:Program}{Q:Goroutine->World->Prop}{f:FuncId}{args:Array Value}{w:World}{aP:Ending->World->Prop}(ai:Calls P f args w aP){c:Frame}{cs:List Frame}
  (vr:∀e w',aP e w'->∃v,e=.returned v) (h:∀v w',aP (.returned v) w'->LoneTo P Q (G (c.finish v) cs) w'):LoneTo P Q (G (Frame.enter P f args .normal) (c::cs)) w:=by
 obtain⟨e,w',iz,jk,ac,hf,hl⟩:=ai (c::cs);obtain⟨v,rfl⟩:=vr e w' jk;obtain⟨i0,I_,pH,a2⟩:=h v w' jk;exact⟨i0,I_,Steps.trans ac (Steps.head (step_leave_returned hl) pH),a2⟩
def aac{Q':List Item->Prop}{I:List Item}(h:∀hG,hG=I->Q' hG):Q' I:=h I rfl
structure p9(w w':World)(c cap:Nat)(buf:Array Value):Prop where
 os:w'.os=w.os
 tape:w'.tape=w.tape
 output:w'.output=w.output
 size:w.heap.size<=w'.heap.size
 other:∀b,b<w.heap.size->b≠c->w'.heap[b]?=w.heap[b]?
 ch:∃s r,w'.heap[c]?=some (.chan cap buf false s r false)
def p9.trans{w cf cN:World}{eT ei:Array Value}(h:p9 w cf c cap eT)(bL:p9 cf cN c cap ei):p9 w cN c cap ei:=
 ⟨bL.os.trans h.os,bL.tape.trans h.tape,bL.output.trans h.output,e0 h.size bL.size,λb Y aj=>(bL.other b (hU Y h.size) aj).trans (h.other b Y aj),bL.ch⟩
def Qk{w:World}{o:Obj}{buf:Array Value}(ai:w.heap[c]?=some (.chan cap buf false s r false)):p9 w (w.alloc o) c cap buf:=by have bm:c<w.heap.size:=(ip.1 ai).1;exact⟨rfl,rfl,rfl,by rw[iv];exact qa _,λb Y _=>heap_alloc_old w o Y,s,r,by rw[heap_alloc_old w o bm];exact ai⟩
def Yt{w:World}{cp qM:Nat}{buf PB:Array Value}(ai:w.heap[c]?=some (.chan cap buf false s r false)):p9 w (w.setChan c cap PB false cp qM false) c cap PB:=by
 have bm:c<w.heap.size:=(ip.1 ai).1;refine⟨rfl,rfl,rfl,by rw[size_setChan];exact bU _,λb Y aj => ?_,cp,qM,heap_setChan w c cap PB false cp qM false bm⟩;show(w.heap.setIfInBounds c _)[b]?=_
 grind
def au7{w:World}{buf:Array Value}{v:Value}(ai:∃s r,w.heap[c]?=some (.chan cap buf false s r false))(fV:buf.size<cap):
  Calls Tryz.prog 269 #[.agg #[.chan (some c)],v] w λe w'=>e=.returned (.bool true)/\p9 w w' c cap (buf.push v):=by
 obtain⟨s,r,ai⟩:=ai;refine(au8 ai fV).mono λe w' h=>⟨h.1,?_⟩;rw[h.2];have O:=Qk (o:=.cells #[.chan (some c)] 324) ai;obtain⟨bp,eG,R⟩:=O.ch;exact O.trans (Yt R)
def au5{w:World}{buf:Array Value}{v:Value}(ai:∃s r,w.heap[c]?=some (.chan cap buf false s r false))(zF:¬buf.size<cap):
  Calls Tryz.prog 269 #[.agg #[.chan (some c)],v] w λe w'=>e=.returned (.bool false)/\p9 w w' c cap buf:=by
 obtain⟨s,r,ai⟩:=ai;refine(au4 ai zF).mono λe w' h=>⟨h.1,?_⟩;rw[h.2];exact Qk ai
def Ys{w w':World}{a:Addr}(h:w'.heap[a.block]?=w.heap[a.block]?):w'.cell? a=w.cell? a:=by unfold World.cell?;rw[h]
def ahB{x:Int}(O : -9223372036854775808<=x)(R:x<=9223372036854775807):IntKind.i64.wrap x=x:=ahA .i64 x O R
set_option maxRecDepth 100000 in
def ZG{w:World}{gz:Nat}{a:Option Addr}{buf:Array Value}(ai:∃s r,w.heap[c]?=some (.chan cap buf false s r false))(aj:n<=9223372036854775807)(fV:buf.size<=cap){h5:Nat->Addr}{val:Nat->Value}(ap1:∀i,i<n->∀cf:World,(Instr.indexAt 48 (.slice a n gz) (.int .i64 i)).run Tryz.prog cf=.ok (.pointer (some (h5 i))) cf)
  (hcell:∀i,i<n->w.cell? (h5 i)=some (val i)) (LB:∀i,i<n->(h5 i).block<w.heap.size/\(h5 i).block≠c) :
  Calls Tryz.prog 223 #[.agg #[.chan (some c)],.slice a n gz] w λe w'=>e=.returned (.int .i64 (min n (cap-buf.size):Nat))/\p9 w w' c cap (buf++((List.range (min n (cap-buf.size))).map val).toArray):=by
 have aa3:c<w.heap.size:=by obtain⟨s,r,ai⟩:=ai;exact(ip.1 ai).1
 refine calls_of_loneTo λcs => ?_;have e:Frame.enter Tryz.prog 223 #[.agg #[.chan (some c)],.slice a n gz] .normal=(base 223).at ⟨#[.agg #[.chan (some c)],.slice a n gz,undef,undef,undef,undef,undef,undef,undef,undef,undef,undef,undef,undef,undef,undef,undef,undef,undef,undef,undef,undef],[]⟩ [.code (Tryz.f223.body.getD .skip)]:=by simp[Frame.enter,Frame.at,Tryz.func223,base,Tryz.f223]
 rw[e];refine LoneTo.goes (n:=16) ?_;simp only[Tryz.f223,p']
 s_c stepG_seq
 s_reg
 s_op
 s_op
 s_c stepG_region_end
 s_c stepG_seq
 s_c stepG_seq
 s_reg
 s_op
 s_op
 s_op
 s_c stepG_region_end
 s_c stepG_block
 s_c stepG_loop
 s_stop
 have G0:p9 w (w.alloc (.cells #[.chan (some c)] 324)) c cap buf:=by obtain⟨s,r,ai⟩:=ai;exact Qk ai
 have q_:(w.alloc (.cells #[.chan (some c)] 324)).heap[w.heap.size]?=some (.cells #[.chan (some c)] 324):=heap_alloc_new _ _;have cP:(w.alloc (.cells #[.chan (some c)] 324)).heap.size=w.heap.size+1:=iv _ _;generalize w.alloc (.cells #[.chan (some c)] 324)=eI at G0 q_ cP;refine aac (Q':=λhG=>LoneTo _ _ (G ((base 223).at _ hG) _) _) ?_;intro hG kx;have key:∀(k i:Nat) (cf:World) (t5 yg Bg o7 uD Bh Bi Bj Bk yp u8 Bl NU NV:Value),i+k=n->buf.size+i<=cap->p9 eI cf c cap (buf++((List.range i).map val).toArray)->LoneTo Tryz.prog (λi0 w'=>∃e iz,i0=G iz cs/\(e=.returned (.int .i64 (min n (cap-buf.size):Nat))/\p9 w w' c cap (buf++((List.range (min n (cap-buf.size))).map val).toArray))/\iz.fn=223/\iz.leaving Tryz.prog w' e) (G ((base 223).at ⟨#[.agg #[.chan (some c)],.slice a n gz,.pointer (some ⟨w.heap.size,0,none⟩),undef,.int .i64 0,t5,yg,.slice a n gz,.int .i64 n,.int .i64 i,Bg,o7,uD,Bh,Bi,Bj,Bk,yp,u8,Bl,NU,NV],[]⟩ hG) cs) cf:=by
  intro k;induction k with
  |zero=>
   intro i cf t5 yg Bg o7 uD Bh Bi Bj Bk yp u8 Bl NU NV ap bY sx;obtain rfl:i=n:=J;rw[kx];refine LoneTo.goes (n:=14) ?_
   s_c stepG_seq
   s_reg
   s_op
   s_c stepG_region_end
   s_c stepG_seq
   s_cond false
   s_exit
   s_c stepG_seq
   s_reg
   s_op
   s_op
   s_op
   s_c stepG_region_end
   s_c stepG_ret'
   s_stop
   have hm:min i (cap-buf.size)=i:=J;rw[hm];exact LoneTo.done ⟨.returned (.int .i64 i),_,rfl,⟨rfl,G0.trans sx⟩,rfl,rfl,rfl,rfl,_,Tryz.func223,by simp[results,Tryz.f223,Frame.at]⟩
  |succ k ih=>
   intro i cf t5 yg Bg o7 uD Bh Bi Bj Bk yp u8 Bl NU NV ap bY sx;have bm:i<n:=J;have hi:=ap1 i bm;have hp:=LB i bm;have eB:cf.cell? (h5 i)=some (val i):=by rw[<- hcell i bm];exact Ys ((sx.other _ J hp.2).trans (G0.other _ hp.1 hp.2))
   have zA:cf.heap[w.heap.size]?=some (.cells #[.chan (some c)] 324):=(sx.other _ J J).trans q_;have vh:cf.cell? ⟨w.heap.size,0,none⟩=some (.chan (some c)):=by simp[World.cell?,zA]
   rw[kx];refine LoneTo.goes (n:=23) ?_
   s_c stepG_seq
   s_reg
   s_op
   s_c stepG_region_end
   s_c stepG_seq
   s_cond true
   s_c stepG_skip
   s_c stepG_seq
   s_c stepG_block
   s_c stepG_seq
   s_reg
   s_op
   s_op
   s_op
   s_op
   s_op
   s_c stepG_region_end
   s_c stepG_seq
   s_reg
   s_op
   s_op
   s_in
   refine goes_call rfl rfl bP rfl Tryz.func269 (by kernel_rfl) rfl ⟨trivial,?_⟩
   walk_nrmf Tryz.f269
   s_stop
   have aA:Frame.enter Tryz.prog 269 #[.agg #[.chan (some c)],val i] .normal=(base 269).at ⟨#[.agg #[.chan (some c)],val i,undef,undef,undef,undef,undef,undef,undef,undef,undef],[]⟩ [.code (Tryz.f269.body.getD .skip)]:=by simp[Frame.enter,Frame.at,Tryz.func269,base,Tryz.f269]
   simp only[Tryz.f269,p']at aA;rw[<- aA];have Gq:(buf++((List.range i).map val).toArray).size=buf.size+i:=bh;by_cases abH:(buf++((List.range i).map val).toArray).size<cap
   .refine Db (au7 sx.ch abH) (λe w' h=>⟨_,h.1⟩) (λv w' h => ?_)
    obtain⟨aC,LK⟩:=h;cases aC;rw[Frame.finish_at]
    walk_nrm
    refine LoneTo.goes (n:=14) ?_
    s_op
    s_c stepG_region_end
    s_cond false
    s_c stepG_skip
    s_c stepG_inBlock
    s_reg
    s_op
    s_op
    s_c stepG_region_end
    s_c stepG_inLoop
    s_stop
    rw[ahB J J];have aqH:(buf++((List.range i).map val).toArray).push (val i)=buf++((List.range (i+1)).map val).toArray:=by apply m3;simp[BP]
    rw[aqH]at LK;have:=ih (i+1) w' (.int .i64 i) (val i) (.bool true) (.int .i64 i) (.pointer (some (h5 i))) (val i) (.agg #[.chan (some c)]) (val i) (.bool true) (.bool false) u8 (.int .i64 ((i+1:Nat):Int)) NU NV J J (sx.trans LK);rw[kx]at this;exact this
   refine Db (au5 sx.ch abH) (λe w' h=>⟨_,h.1⟩) (λv w' h => ?_);obtain⟨aC,LK⟩:=h;cases aC;rw[Frame.finish_at]
   walk_nrm
   refine LoneTo.goes (n:=14) ?_
   s_op
   s_c stepG_region_end
   s_cond true
   s_c stepG_seq
   s_reg
   s_op
   s_op
   s_c stepG_region_end
   s_c stepG_ret'
   s_stop
   have hm:min n (cap-buf.size)=i:=J;rw[hm];exact LoneTo.done ⟨.returned (.int .i64 i),_,rfl,⟨rfl,G0.trans (sx.trans LK)⟩,rfl,rfl,rfl,rfl,_,Tryz.func223,by simp[results,Tryz.f223,Frame.at]⟩
 have:=key n 0 eI undef undef undef undef undef undef undef undef undef undef undef undef undef undef J J (by have:buf++((List.range 0).map val).toArray=buf:=bh;rw[this];obtain⟨s,r,h⟩:=G0.ch;exact⟨rfl,rfl,rfl,bU _,λ_ _ _=>rfl,s,r,h⟩)
 exact this
def ajL:∃i,Tryz.prog.info? 23=some i/\i.bytes=24:=by
 have h:(Tryz.prog.info? 23).map (·.bytes)=some 24:=by kernel_rfl
 obtain⟨i,hi,Y⟩:=k4.1 h;exact⟨i,hi,Y⟩
def as3(n:Nat)(aj:n<=64)(w:World):(Instr.makeChan 322 (.int .i64 n)).run Tryz.prog w=.ok (.chan (some w.heap.size)) (w.alloc (.chan n #[] false 0 0 false)):=by obtain⟨i,hi,Y⟩:=ajL;simpa using run_makeChan (P:=Tryz.prog) (w:=w) Tryz.underlying322 hi .i64 n J (by rw[Y];omega)
set_option maxRecDepth 100000 in
def aja{w:World}(aj:n<=64):
  Calls Tryz.prog 222 #[.int .i64 n] w λe w'=>e=.returned (.agg #[.chan (some (w.heap.size+1))])/\w'.os=w.os/\w'.tape=w.tape/\w'.output=w.output/\w'.heap.size=w.heap.size+2/\(∀b,b<w.heap.size->w'.heap[b]?=w.heap[b]?)/\w'.heap[w.heap.size+1]?=some (.chan n #[] false 0 0 false):=by
 refine calls_of_loneTo λcs => ?_;have e:Frame.enter Tryz.prog 222 #[.int .i64 n] .normal=(base 222).at ⟨#[.int .i64 n,undef,undef,undef,undef,undef],[]⟩ [.code (Tryz.f222.body.getD .skip)]:=by simp[Frame.enter,Frame.at,Tryz.func222,base,Tryz.f222]
 rw[e];have GM:=as3 n aj;refine LoneTo.goes (n:=16) ?_;simp only[Tryz.f222,p']
 s_c stepG_seq
 s_reg
 s_op
 s_c stepG_region_end
 s_c stepG_seq
 s_reg
 s_op
 s_op
 s_op
 s_op
 s_c stepG_region_end
 s_c stepG_ret'
 s_stop
 have bb:((w.alloc (.cells #[.chan (some (w.heap.size+1))] 324)).alloc (.chan n #[] false 0 0 false)).heap[w.heap.size]?=some (.cells #[.chan (some (w.heap.size+1))] 324):=by rw[heap_alloc_old _ _ (by rw[iv];omega)];exact heap_alloc_new _ _
 have vh:((w.alloc (.cells #[.chan (some (w.heap.size+1))] 324)).alloc (.chan n #[] false 0 0 false)).cell? ⟨w.heap.size,0,none⟩=some (.chan (some (w.heap.size+1))):=by simp[World.cell?,bb]
 refine LoneTo.done ⟨.returned (.agg #[.chan (some (w.heap.size+1))]),_,rfl,⟨rfl,rfl,rfl,rfl,?_,?_,?_⟩,rfl,rfl,rfl,rfl,_,Tryz.func222,?_⟩
 .rw[iv,iv]
 .intro b Y
  rw[heap_alloc_old _ _ (by rw[iv];omega),heap_alloc_old _ _ Y]
 .have:=heap_alloc_new (w.alloc (.cells #[.chan (some (w.heap.size+1))] 324)) (.chan n #[] false 0 0 false)
  rw[iv]at this;exact this
 generalize((w.alloc (.cells #[.chan (some (w.heap.size+1))] 324)).alloc (.chan n #[] false 0 0 false))=cN at vh;simp only[results,Tryz.f222,Frame.at]
 go_simp
end Yp
namespace Yp
open Go Go.Proofs
def JS:=@List.length_singleton
def uR(cf:World)(lo c:Nat)(vals:Array Value)(m:Nat)(jo:Value):Prop:=
 ∃b gz oC,jo=.slice (some ⟨b,0,none⟩) m gz/\cf.heap[b]?=some (.cells oC 23)/\m<=gz/\gz<=maxLen/\oC.size=gz/\(∀j,j<m->oC[j]?=vals[j]?)/\lo<=b/\b≠c
def arM:∃i,Tryz.prog.info? 23=some i/\i.size=1/\i.bytes=24/\i.zero=some (.slice none 0 0):=by
 have h:(Tryz.prog.info? 23).map (λi=>(i.size,i.bytes,i.zero))=some (1,24,some (.slice none 0 0)):=by kernel_rfl
 obtain⟨i,hi,Y⟩:=k4.1 h;simp only[kH]at Y;exact⟨i,hi,Y.1,Y.2.1,Y.2.2⟩
structure aie(w w':World)(lo c:Nat):Prop where
 os:w'.os=w.os
 tape:w'.tape=w.tape
 output:w'.output=w.output
 size:w.heap.size<=w'.heap.size
 other:∀b,b<w.heap.size->(b<lo\/b=c)->w'.heap[b]?=w.heap[b]?
def aiI{cf:World}{lo:Nat}{vals:Array Value}{jo v:Value}(h:uR cf lo c vals m jo){sI:Nat}(aj:cf.heap[sI]?=some (.cells #[v] 23))(aC:vals[m]?=some v)(hm:m+1<=64)(hone:v.oneCell'=true)(qu:lo<=cf.heap.size)(ai:c<cf.heap.size):
  ∃Ec cN,(Builtin.append_ #[48,48] 48 #[jo,.slice (some ⟨sI,0,none⟩) 1 1]).run Tryz.prog cf=.ok Ec cN/\uR cN lo c vals (m+1) Ec/\aie cf cN lo c:=by
 obtain⟨b,gz,oC,rfl,Y,GM,nZ,cP,CZ,Lw,vh⟩:=h;obtain⟨i,hi,sy,G4,zV⟩:=arM;have ht:=Tryz.underlying48;have hx:m5 Tryz.prog cf i.size 1 (.slice (some ⟨sI,0,none⟩) 1 1) [v]:=by refine⟨λ_=>rfl,λw' bb => ?_⟩;simp only[Builtin.firstCells];have:=DV (P:=Tryz.prog) (w:=w') (b:=sI) (o:=0) (n:=1) (by rw[bb];exact aj) bh;rw[sy];simpa[cF]using this
 by_cases fV:m+1<=gz
 .obtain⟨cN,ah,cK,hp,hl⟩:=M' (P:=Tryz.prog) (w:=cf) (ty:=48) ht ht (.inr ⟨23,rfl⟩) hi hx (b:=b) (o:=0) (sLen:=m) (sCap:=gz) fV Y (.inl rfl) (by rw[sy];simp;omega) (by simpa using hone)
  refine⟨_,cN,ah,⟨b,gz,cK,rfl,hp.iQ,fV,nZ,?_,?_,Lw,vh⟩,⟨hp.os,hp.tape,hp.output,by rw[hp.size];exact bU _,λb' kz kQ=>hp.other b' (by rintro rfl;rcases kQ with q|q<;>omega)⟩⟩
  .have O:=congrArg List.length hl
   rw[Ea (by rw[sy];simp;omega)]at O;simpa[cP]using O
  intro j an;have O:cK[j]?=cK.toList[j]?:=bh;rw[O,hl,x? (by rw[sy];simp;omega),sy];by_cases q:j<m
  .rw[if_pos J]
   have:=CZ j q;simpa using this
  obtain rfl:j=m:=J;rw[if_neg J,if_pos bh,aC];simp
 have aK:m5 Tryz.prog cf i.size m (.slice (some ⟨b,0,none⟩) m gz) (cF oC 0 m):=by refine⟨λ_=>rfl,λw' bb => ?_⟩;simp only[Builtin.firstCells];rw[sy,mw];exact DV (P:=Tryz.prog) (w:=w') (b:=b) (o:=0) (n:=m) (by rw[bb];exact Y) J
 have ah:=UA (P:=Tryz.prog) (w:=cf) (ty:=48) ht ht (.inr ⟨23,rfl⟩) hi zV hx (ad:=some ⟨b,0,none⟩) (sLen:=m) (sCap:=gz) aK J (by unfold maxLen;omega) (by rw[G4];omega);have n0:=grownCap_ge cf (m+1) gz 23;have nZ:=grownCap_le_maxLen cf (m+1) gz 23 (by unfold maxLen;omega);refine⟨_,_,ah,⟨cf.heap.size,_,_,rfl,q3 cf.drew _,n0,nZ,?_,?_,qu,J⟩,⟨rfl,rfl,rfl,by rw[iv];exact qa _,λb' kz _=>q4 cf.drew _ b' kz⟩⟩
 .rw[wG,size_zeroCells]
  simp only[wG,pf,JS,pW (show 0+m<=oC.size by omega)];simp[Value.cells];omega
 intro j an;have qx:(cF oC 0 m).length=m:=pW J;by_cases q:j<m
 .rw[yR (by simp[qx];omega),yR (by simp[qx];omega)]
  rw[wD,ux q,jv];exact CZ j q
 obtain rfl:j=m:=J;rw[yR (by simp[qx]),EP (by simp[qx]),aC];simp[qx]
end Yp
namespace Yp
open Go Go.Conc Go.RowKit Go.Proofs
structure uJ(w w':World)(lo c:Nat):Prop where
 os:w'.os=w.os
 tape:w'.tape=w.tape
 output:w'.output=w.output
 size:w.heap.size<=w'.heap.size
 other:∀b,b<lo->b≠c->w'.heap[b]?=w.heap[b]?
def ax9{o:Oper}{a:Act}{K:Act->World->Prop}{r:Result Go.Next}{v:Value}{w':World}(h:r=.ok (.value v) w')(R:K (a.put o.dst v) w'):uponK o a K r:=by rw[h];exact R
set_option maxRecDepth 100000 in
def aiD{w:World}{buf:Array Value}(ai:∃s r,w.heap[c]?=some (.chan cap buf false s r false))(CG:buf.size<=64)(hone:∀v∈buf,∃a n gz,v=.slice a n gz):
  Calls Tryz.prog 224 #[.agg #[.chan (some c)]] w λe w'=>∃jo,e=.returned jo/\uR w' (w.heap.size+1) c buf buf.size jo/\uJ w w' w.heap.size c:=by
 obtain⟨qO,MQ,ai⟩:=ai;have aa3:c<w.heap.size:=(ip.1 ai).1;have oK:((w.alloc (.cells #[.chan (some c)] 324)).alloc (.cells #[] 23)).heap[c]?=some (.chan cap buf false qO MQ false):=by rw[heap_alloc_old _ _ (by rw[iv];omega),heap_alloc_old _ _ aa3];exact ai
 have ap6:=run_len_chan (P:=Tryz.prog) 322 3 Tryz.underlying322 oK;refine calls_of_loneTo λcs => ?_;have e:Frame.enter Tryz.prog 224 #[.agg #[.chan (some c)]] .normal=(base 224).at ⟨#[.agg #[.chan (some c)],undef,undef,undef,undef,undef,undef,undef,undef,undef,undef,undef,undef,undef,undef,undef,undef,undef],[]⟩ [.code (Tryz.f224.body.getD .skip)]:=by simp[Frame.enter,Frame.at,Tryz.func224,base,Tryz.f224]
 rw[e];refine LoneTo.goes (n:=23) ?_;simp only[Tryz.f224,p']
 s_c stepG_seq
 s_reg
 s_op
 s_op
 s_c stepG_region_end
 s_c stepG_seq
 s_reg
 s_op
 s_op
 s_c stepG_region_end
 s_c stepG_seq
 s_c stepG_seq
 s_reg
 s_op
 s_op
 s_op
 s_op
 s_c stepG_region_end
 s_c stepG_block
 s_c stepG_loop
 s_stop
 have l':uJ w ((w.alloc (.cells #[.chan (some c)] 324)).alloc (.cells #[] 23)) w.heap.size c:=⟨rfl,rfl,rfl,by rw[iv,iv];omega,λb Y _=>by rw[heap_alloc_old _ _ (by rw[iv];omega),heap_alloc_old _ _ Y]⟩;have q_:((w.alloc (.cells #[.chan (some c)] 324)).alloc (.cells #[] 23)).heap[w.heap.size]?=some (.cells #[.chan (some c)] 324):=by rw[heap_alloc_old _ _ (by rw[iv];omega)];exact heap_alloc_new _ _
 have d9:uR ((w.alloc (.cells #[.chan (some c)] 324)).alloc (.cells #[] 23)) (w.heap.size+1) c buf 0 (.slice (some ⟨w.heap.size+1,0,none⟩) 0 0):=by refine⟨w.heap.size+1,0, #[],rfl,?_,bU _,fK _,rfl,λj an=>absurd an (yK j),bU _,J⟩;have:=heap_alloc_new (w.alloc (.cells #[.chan (some c)] 324)) (.cells #[] 23);rw[iv]at this;exact this
 have cP:((w.alloc (.cells #[.chan (some c)] 324)).alloc (.cells #[] 23)).heap.size=w.heap.size+2:=by rw[iv,iv]
 generalize(w.alloc (.cells #[.chan (some c)] 324)).alloc (.cells #[] 23)=eI at oK l' q_ d9 cP ap6;refine aac (Q':=λhG=>LoneTo _ _ (G ((base 224).at _ hG) _) _) ?_;intro hG kx;have key:∀(k i:Nat) (cf:World) (jo Bl Bg o7 uD Bh Bi Bj Bk yp:Value),i+k=buf.size->uR cf (w.heap.size+1) c buf i jo->uJ w cf w.heap.size c->w.heap.size+2<=cf.heap.size->cf.heap[w.heap.size]?=some (.cells #[.chan (some c)] 324)->(∃s r kJ,cf.heap[c]?=some (.chan cap kJ false s r false)/\kJ.toList=buf.toList.drop i) ->
   LoneTo Tryz.prog (λi0 w'=>∃e iz,i0=G iz cs/\(∃jo,e=.returned jo/\uR w' (w.heap.size+1) c buf buf.size jo/\uJ w w' w.heap.size c)/\iz.fn=224/\iz.leaving Tryz.prog w' e) (G ((base 224).at ⟨#[.agg #[.chan (some c)],.pointer (some ⟨w.heap.size,0,none⟩),.slice none 0 0,jo,.slice (some ⟨w.heap.size+1,0,none⟩) 0 0,.pointer (some ⟨w.heap.size,0,none⟩),.chan (some c),.int .i64 buf.size,.int .i64 i,Bl,Bg,o7,uD,Bh,Bi,Bj,Bk,yp],[]⟩ hG) cs) cf:=by
  intro k;induction k with
  |zero=>
   intro i cf jo Bl Bg o7 uD Bh Bi Bj Bk yp ap jk fN ky aB cv;obtain rfl:i=buf.size:=J;rw[kx];refine LoneTo.goes (n:=14) ?_
   s_c stepG_seq
   s_reg
   s_op
   s_c stepG_region_end
   s_c stepG_seq
   s_cond false
   s_exit
   s_c stepG_seq
   s_reg
   s_op
   s_op
   s_c stepG_region_end
   s_c stepG_ret'
   s_stop
   exact LoneTo.done ⟨.returned jo,_,rfl,⟨jo,rfl,jk,fN⟩,rfl,rfl,rfl,rfl,_,Tryz.func224,by simp[results,Tryz.f224,Frame.at]⟩
  |succ k ih=>
   intro i cf jo Bl Bg o7 uD Bh Bi Bj Bk yp ap jk fN ky aB cv;have bm:i<buf.size:=J;obtain⟨ck,N4,N3,abY⟩:=hone _ (Array.getElem_mem bm);have vh:cf.cell? ⟨w.heap.size,0,none⟩=some (.chan (some c)):=by simp[World.cell?,aB]
   obtain⟨s,r,kJ,Gs,RT⟩:=cv;have Gq:0<kJ.size:=by have:=congrArg List.length RT;simp at this;omega
   have aq9:kJ.getD 0 undef=buf[i]:=by
    have ao:kJ[0]?=some buf[i]:=by rw[<- wB,RT];simp[bm]
    simp[mv,ao]
   have apI:(kJ.extract 1 kJ.size).toList=buf.toList.drop (i+1):=by
    have O:(kJ.extract 1 kJ.size).toList=kJ.toList.drop 1:=by rw[Array.toList_extract,List.extract_eq_take_drop];exact hS bh
    rw[O,RT,qY]
   rw[kx];refine LoneTo.goes (n:=12) ?_
   s_c stepG_seq
   s_reg
   s_op
   s_c stepG_region_end
   s_c stepG_seq
   s_cond true
   s_c stepG_skip
   s_c stepG_seq
   s_c stepG_block
   s_reg
   s_op
   s_op
   s_stop
   refine LoneTo.goes (n:=1) ?_
   s_op
   s_stop
   refine LoneTo.step (step_lone_recv_buf false (c:=c) (z:=.slice none 0 0) (cap:=cap) (buf:=kJ) (closed:=false) (s:=s) (r:=r) (tm:=false) (stepG_comm (cases:=#[rcase c (.slice none 0 0)]) (blocking:=true) (shape:=.recv false) (w':=cf) rfl rfl bP (by simp[go_sem,execOp,rcase,Act.eval])) Gs Gq) ?_;rw[Frame.finish_at,aq9,abY];simp only[got]
   walk_nrm
   have pH:(cf.setChan c cap (kJ.extract 1 kJ.size) false s (r+1) false).heap.size=cf.heap.size:=size_setChan ..
   have mO:p9 cf (cf.setChan c cap (kJ.extract 1 kJ.size) false s (r+1) false) c cap (kJ.extract 1 kJ.size):=Yt Gs;generalize cf.setChan c cap (kJ.extract 1 kJ.size) false s (r+1) false=cN at pH mO;obtain⟨b,gz,oC,rfl,Y,GM,nZ,Gk,CZ,Lw,aaW⟩:=jk;have ao5:b<cf.heap.size:=(ip.1 Y).1;have aoC:uR (cN.alloc (.cells #[.slice ck N4 N3] 23)) (w.heap.size+1) c buf i (.slice (some ⟨b,0,none⟩) i gz):=⟨b,gz,oC,rfl,by rw[heap_alloc_old _ _ J,mO.other b ao5 aaW];exact Y,GM,nZ,Gk,CZ,Lw,aaW⟩;obtain⟨Ec,hq,aaT,aoD,CI⟩:=aiI aoC (heap_alloc_new cN (.cells #[.slice ck N4 N3] 23)) (v:=.slice ck N4 N3) (by rw[<- abY];simp[bm]) J rfl (by rw[iv];omega) (by rw[iv];omega);rw[pH]at aaT;refine LoneTo.goes (n:=12) ?_
   s_op
   s_in;refine goes_oper_k rfl rfl bP (λK fN => ?_)
   refine ax9 (v:=Ec) (w':=hq) ?_ ?_
   .simp only[List.getElem_toArray,List.getElem_cons_succ,List.getElem_cons_zero,execOp,resolve,invoke,Go.builtin]
    walk_nrm
    simp only[Sem.run_bind,Sem.run_pure,Result.andThen];rw[aaT]
   refine fN _ _ ⟨trivial,?_⟩;clear fN K
   walk_nrm
   s_op
   s_c stepG_region_end
   s_c stepG_inBlock
   s_reg
   s_op
   s_op
   s_c stepG_region_end
   s_c stepG_inLoop
   s_stop
   rw[ahB J J];have hold:∀b',b'<w.heap.size+1->b'≠c->hq.heap[b']?=cf.heap[b']?:=by intro b' kz eC;rw[CI.other b' (by rw[iv];omega) (.inl kz),heap_alloc_old _ _ J,mO.other b' J eC]
   have aqX:=CI.size;rw[iv]at aqX;obtain⟨d5,sQ,apd⟩:=mO.ch;have:=ih (i+1) hq Ec (.bool true) (.slice (some ⟨b,0,none⟩) i gz) (.pointer (some ⟨w.heap.size,0,none⟩)) (.chan (some c)) (.slice ck N4 N3) (.slice (some ⟨cf.heap.size,0,none⟩) 1 1) Ec (.int .i64 ((i+1:Nat):Int)) yp J aoD
    ⟨CI.os.trans (mO.os.trans fN.os),CI.tape.trans (mO.tape.trans fN.tape),CI.output.trans (mO.output.trans fN.output),by have:=fN.size;omega,λb' kz eC=>(hold b' J eC).trans (fN.other b' kz eC)⟩ J ((hold _ J J).trans aB)
    ⟨d5,sQ,kJ.extract 1 kJ.size,by rw[CI.other c (by rw[iv];omega) (.inr rfl),heap_alloc_old _ _ J];exact apd,apI⟩
   rw[kx]at this;exact this
 exact key buf.size 0 eI _ undef undef undef undef undef undef undef undef undef J d9 l' J q_ ⟨qO,MQ,buf,oK,bh⟩
structure JG(w:World)(a:Option Addr)(n gz:Nat)(h5:Nat->Addr)(val:Nat->Value):Prop where
 ix:∀i,i<n->∀cf:World,(Instr.indexAt 48 (.slice a n gz) (.int .i64 i)).run Tryz.prog cf=.ok (.pointer (some (h5 i))) cf
 cell:∀i,i<n->w.cell? (h5 i)=some (val i)
 low:∀i,i<n->(h5 i).block<w.heap.size
 sl:∀i,i<n->∃a n gz,val i=.slice a n gz
 bE:n<=9223372036854775807
set_option maxRecDepth 100000 in
def auN{w:World}{q l:Value}{g7:Int}(ah:g7<1):
  Calls Tryz.prog 162 #[q,l,.int .i64 g7] w λe w'=>e=.returned (.tuple #[q,.int .i64 0,.int .i64 1])/\w'=w:=by
 refine calls_of_loneTo λcs => ?_;have e:Frame.enter Tryz.prog 162 #[q,l,.int .i64 g7] .normal=(base 162).at ⟨#[q,l,.int .i64 g7,undef,undef,undef,undef,undef,undef,undef,undef,undef,undef,undef,undef,undef,undef,undef,undef,undef,undef,undef,undef,undef,undef,undef,undef,undef,undef,undef,undef,undef,undef],[]⟩ [.code (Tryz.f162.body.getD .skip)]:=by simp[Frame.enter,Frame.at,Tryz.func162,base,Tryz.f162]
 rw[e];refine LoneTo.goes (n:=30) ?_;simp only[Tryz.f162,p']
 s_c stepG_seq
 s_reg
 s_op
 s_op
 s_op
 s_c stepG_region_end
 s_c stepG_seq
 s_c stepG_seq
 s_reg
 s_op
 s_op
 s_op
 s_in
 rw[stepG_unwanted rfl rfl];simp only[goes_go];refine⟨trivial,?_⟩
 walk_nrm
 s_in
 rw[stepG_unwanted rfl rfl];simp only[goes_go];refine⟨trivial,?_⟩
 walk_nrm
 s_op
 s_c stepG_region_end
 s_cond true
 s_c stepG_seq
 s_reg
 s_op
 s_op
 s_op
 s_op
 s_c stepG_region_end
 s_c stepG_ret'
 s_stop
 exact LoneTo.done ⟨.returned (.tuple #[q,.int .i64 0,.int .i64 1]),_,rfl,⟨rfl,rfl⟩,rfl,rfl,rfl,rfl,_,Tryz.func162,by simp[results,Tryz.f162,Frame.at]⟩
set_option maxRecDepth 100000 in
def auM{w:World}{q l:Value}{g7:Int}(ao:¬g7<1)(ah:64<g7):
  Calls Tryz.prog 162 #[q,l,.int .i64 g7] w λe w'=>e=.returned (.tuple #[q,.int .i64 0,.int .i64 1])/\w'=w:=by
 refine calls_of_loneTo λcs => ?_;have e:Frame.enter Tryz.prog 162 #[q,l,.int .i64 g7] .normal=(base 162).at ⟨#[q,l,.int .i64 g7,undef,undef,undef,undef,undef,undef,undef,undef,undef,undef,undef,undef,undef,undef,undef,undef,undef,undef,undef,undef,undef,undef,undef,undef,undef,undef,undef,undef,undef,undef],[]⟩ [.code (Tryz.f162.body.getD .skip)]:=by simp[Frame.enter,Frame.at,Tryz.func162,base,Tryz.f162]
 rw[e];refine LoneTo.goes (n:=30) ?_;simp only[Tryz.f162,p']
 s_c stepG_seq
 s_reg
 s_op
 s_op
 s_op
 s_c stepG_region_end
 s_c stepG_seq
 s_c stepG_seq
 s_reg
 s_op
 s_op
 s_op
 s_op
 s_op
 s_op
 s_c stepG_region_end
 s_cond true
 s_c stepG_seq
 s_reg
 s_op
 s_op
 s_op
 s_op
 s_c stepG_region_end
 s_c stepG_ret'
 s_stop
 exact LoneTo.done ⟨.returned (.tuple #[q,.int .i64 0,.int .i64 1]),_,rfl,⟨rfl,rfl⟩,rfl,rfl,rfl,rfl,_,Tryz.func162,by simp[results,Tryz.f162,Frame.at]⟩
set_option maxRecDepth 100000 in
def auP{w:World}{uo eU:Option Addr}{qn rB aT ci aP:Nat}(O:1<=aP)(CG:aP<=64){aey acL:Nat->Addr}{sP xE:Nat->Value}(a2:JG w uo qn rB aey sP)(hl:JG w eU aT ci acL xE):
  Calls Tryz.prog 162 #[.slice uo qn rB,.slice eU aT ci,.int .i64 aP] w λe w'=>(aP<qn/\e=.returned (.tuple #[.slice uo qn rB,.int .i64 0,.int .i64 0])\/qn<=aP/\∃jo,e=.returned (.tuple #[jo,.int .i64 (min aT (aP-qn):Nat),.int .i64 0])/\uR w' w.heap.size (w.heap.size+1) ((List.range qn).map sP++(List.range (min aT (aP-qn))).map xE).toArray (qn+min aT (aP-qn)) jo)/\uJ w w' w.heap.size (w.heap.size+1):=by
 have LD:¬(aP:Int)<1:=J;have zM:¬(64:Int)<(aP:Int):=J;refine calls_of_loneTo λcs => ?_;have e:Frame.enter Tryz.prog 162 #[.slice uo qn rB,.slice eU aT ci,.int .i64 aP] .normal=(base 162).at ⟨#[.slice uo qn rB,.slice eU aT ci,.int .i64 aP,undef,undef,undef,undef,undef,undef,undef,undef,undef,undef,undef,undef,undef,undef,undef,undef,undef,undef,undef,undef,undef,undef,undef,undef,undef,undef,undef,undef,undef,undef],[]⟩ [.code (Tryz.f162.body.getD .skip)]:=by simp[Frame.enter,Frame.at,Tryz.func162,base,Tryz.f162]
 rw[e];refine LoneTo.goes (n:=30) ?_;simp only[Tryz.f162,p']
 s_c stepG_seq
 s_reg
 s_op
 s_op
 s_op
 s_c stepG_region_end
 s_c stepG_seq
 s_c stepG_seq
 s_reg
 s_op
 s_op
 s_op
 s_op
 s_op
 s_op
 s_c stepG_region_end
 s_cond false
 s_c stepG_skip
 s_c stepG_seq
 s_reg
 s_op
 s_in
 refine goes_call rfl rfl bP rfl Tryz.func222 (by kernel_rfl) rfl ⟨trivial,?_⟩
 walk_nrmf Tryz.f222
 s_stop
 have sr:Frame.enter Tryz.prog 222 #[.int .i64 aP] .normal=(base 222).at ⟨#[.int .i64 aP,undef,undef,undef,undef,undef],[]⟩ [.code (Tryz.f222.body.getD .skip)]:=by simp[Frame.enter,Frame.at,Tryz.func222,base,Tryz.f222]
 simp only[Tryz.f222,p']at sr;rw[<- sr];refine Db (aja CG) (λe w' h=>⟨_,h.1⟩) (λv cf h => ?_);obtain⟨aC,eT,ei,jx,nM,qe,r4⟩:=h;cases aC;rw[Frame.finish_at]
 walk_nrm
 refine LoneTo.goes (n:=30) ?_
 s_op
 s_op
 s_c stepG_region_end
 s_c stepG_seq
 s_c stepG_seq
 s_reg
 s_op
 s_op
 s_stop
 have q_:(cf.alloc (.cells #[.chan (some (w.heap.size+1))] 324)).heap[w.heap.size+2]?=some (.cells #[.chan (some (w.heap.size+1))] 324):=by have:=heap_alloc_new cf (.cells #[.chan (some (w.heap.size+1))] 324);rw[nM]at this;exact this
 have Gs:∃s r,(cf.alloc (.cells #[.chan (some (w.heap.size+1))] 324)).heap[w.heap.size+1]?=some (.chan aP #[] false s r false):=⟨0,0,by rw[heap_alloc_old _ _ J];exact r4⟩;have ni:uJ w (cf.alloc (.cells #[.chan (some (w.heap.size+1))] 324)) w.heap.size (w.heap.size+1):=⟨eT,ei,jx,by rw[iv];omega,λb Y _=>by rw[heap_alloc_old _ _ J];exact qe b Y⟩;have pH:(cf.alloc (.cells #[.chan (some (w.heap.size+1))] 324)).heap.size=w.heap.size+3:=by rw[iv];omega
 generalize cf.alloc (.cells #[.chan (some (w.heap.size+1))] 324)=cN at q_ Gs ni pH;have agy:∀{a:Option Addr} {n gz:Nat} {h5:Nat->Addr} {val:Nat->Value} (Oi:World),JG w a n gz h5 val->uJ w Oi w.heap.size (w.heap.size+1)->(∀i,i<n->Oi.cell? (h5 i)=some (val i))/\∀i,i<n->(h5 i).block<Oi.heap.size/\(h5 i).block≠w.heap.size+1:=by intro a n gz h5 val Oi ac ap;refine⟨λi hi => ?_,λi hi=>⟨hU (ac.low i hi) ap.size,by have:=ac.low i hi;omega⟩⟩;rw[<- ac.cell i hi];exact Ys (ap.other _ (ac.low i hi) (by have:=ac.low i hi;omega))
 refine LoneTo.goes (n:=3) ?_
 s_in
 refine goes_call rfl rfl bP rfl Tryz.func223 (by kernel_rfl) rfl ⟨trivial,?_⟩
 walk_nrmf Tryz.f223
 s_stop
 have tP:Frame.enter Tryz.prog 223 #[.agg #[.chan (some (w.heap.size+1))],.slice uo qn rB] .normal=(base 223).at ⟨#[.agg #[.chan (some (w.heap.size+1))],.slice uo qn rB,undef,undef,undef,undef,undef,undef,undef,undef,undef,undef,undef,undef,undef,undef,undef,undef,undef,undef,undef,undef],[]⟩ [.code (Tryz.f223.body.getD .skip)]:=by simp[Frame.enter,Frame.at,Tryz.func223,base,Tryz.f223]
 simp only[Tryz.f223,p']at tP;rw[<- tP];have j':=agy cN a2 ni;refine Db (ZG Gs a2.bE (fK _) a2.ix j'.1 j'.2) (λe w' h=>⟨_,h.1⟩) (λv fk h => ?_);obtain⟨aC,tX⟩:=h;cases aC;have ff:uJ w fk w.heap.size (w.heap.size+1):=⟨tX.os.trans ni.os,tX.tape.trans ni.tape,tX.output.trans ni.output,e0 ni.size tX.size,λb Y eC=>(tX.other b J eC).trans (ni.other b Y eC)⟩;have aaX:fk.heap[w.heap.size+2]?=some (.cells #[.chan (some (w.heap.size+1))] 324):=(tX.other _ J J).trans q_;have azs:w.heap.size+3<=fk.heap.size:=by have:=tX.size;omega
 have vh:fk.cell? ⟨w.heap.size+2,0,none⟩=some (.chan (some (w.heap.size+1))):=by simp[World.cell?,aaX]
 by_cases zF:aP<qn
 .have hm:min qn (aP-(#[]:Array Value).size)=aP:=fv
  rw[hm,Frame.finish_at]
  walk_nrm
  refine LoneTo.goes (n:=30) ?_
  s_op
  s_op
  s_op
  s_c stepG_region_end
  s_cond true
  s_c stepG_seq
  s_reg
  s_op
  s_op
  s_op
  s_op
  s_c stepG_region_end
  s_c stepG_ret'
  s_stop
  exact LoneTo.done ⟨.returned (.tuple #[.slice uo qn rB,.int .i64 0,.int .i64 0]),_,rfl,⟨.inl ⟨zF,rfl⟩,ff⟩,rfl,rfl,rfl,rfl,_,Tryz.func162,by simp[results,Tryz.f162,Frame.at]⟩
 have hm:min qn (aP-(#[]:Array Value).size)=qn:=fv;rw[hm]at tX ⊢;rw[Frame.finish_at]
 walk_nrm
 have RS:#[]++((List.range qn).map sP).toArray=((List.range qn).map sP).toArray:=bh;rw[RS]at tX;have ao9:((List.range qn).map sP).toArray.size=qn:=bh;refine LoneTo.goes (n:=30) ?_
 s_op
 s_op
 s_op
 s_c stepG_region_end
 s_cond false
 s_c stepG_skip
 s_c stepG_seq
 s_reg
 s_op
 s_op
 s_stop
 refine LoneTo.goes (n:=3) ?_
 s_in
 refine goes_call rfl rfl bP rfl Tryz.func223 (by kernel_rfl) rfl ⟨trivial,?_⟩
 walk_nrmf Tryz.f223
 s_stop
 have CO:Frame.enter Tryz.prog 223 #[.agg #[.chan (some (w.heap.size+1))],.slice eU aT ci] .normal=(base 223).at ⟨#[.agg #[.chan (some (w.heap.size+1))],.slice eU aT ci,undef,undef,undef,undef,undef,undef,undef,undef,undef,undef,undef,undef,undef,undef,undef,undef,undef,undef,undef,undef],[]⟩ [.code (Tryz.f223.body.getD .skip)]:=by simp[Frame.enter,Frame.at,Tryz.func223,base,Tryz.f223]
 simp only[Tryz.f223,p']at CO;rw[<- CO];have abr:=agy fk hl ff;refine Db (ZG tX.ch hl.bE J hl.ix abr.1 abr.2) (λe w' h=>⟨_,h.1⟩) (λv hq h => ?_);obtain⟨aC,nk⟩:=h;cases aC;rw[ao9]at nk ⊢;have jC:uJ w hq w.heap.size (w.heap.size+1):=⟨nk.os.trans ff.os,nk.tape.trans ff.tape,nk.output.trans ff.output,e0 ff.size nk.size,λb Y eC=>(nk.other b J eC).trans (ff.other b Y eC)⟩;have ao7:hq.heap[w.heap.size+2]?=some (.cells #[.chan (some (w.heap.size+1))] 324):=(nk.other _ J J).trans aaX;have aqM:w.heap.size+3<=hq.heap.size:=by have:=nk.size;omega
 have azd:hq.cell? ⟨w.heap.size+2,0,none⟩=some (.chan (some (w.heap.size+1))):=by simp[World.cell?,ao7]
 have hall:((List.range qn).map sP).toArray++((List.range (min aT (aP-qn))).map xE).toArray=((List.range qn).map sP++(List.range (min aT (aP-qn))).map xE).toArray:=bh;rw[hall]at nk;have Gk:((List.range qn).map sP++(List.range (min aT (aP-qn))).map xE).toArray.size=qn+min aT (aP-qn):=bh;rw[Frame.finish_at]
 walk_nrm
 refine LoneTo.goes (n:=30) ?_
 s_op
 s_c stepG_region_end
 s_c stepG_seq
 s_reg
 s_op
 s_in
 refine goes_call rfl rfl bP rfl Tryz.func224 (by kernel_rfl) rfl ⟨trivial,?_⟩
 walk_nrmf Tryz.f224
 s_stop
 have aa9:Frame.enter Tryz.prog 224 #[.agg #[.chan (some (w.heap.size+1))]] .normal=(base 224).at ⟨#[.agg #[.chan (some (w.heap.size+1))],undef,undef,undef,undef,undef,undef,undef,undef,undef,undef,undef,undef,undef,undef,undef,undef,undef],[]⟩ [.code (Tryz.f224.body.getD .skip)]:=by simp[Frame.enter,Frame.at,Tryz.func224,base,Tryz.f224]
 simp only[Tryz.f224,p']at aa9;rw[<- aa9];refine Db (aiD nk.ch (by rw[Gk];omega) ?_) (λe w' h=>h.elim λjo h=>⟨jo,h.1⟩) (λv Bp h => ?_)
 .intro v aC
  simp only[List.mem_toArray,io,m1,ov]at aC;rcases aC with⟨i,hi,rfl⟩|⟨i,hi,rfl⟩
  .exact a2.sl i hi
  exact hl.sl i J
 obtain⟨jo,aC,aaM,GG⟩:=h;cases aC;rw[Gk]at aaM;rw[Frame.finish_at]
 walk_nrm
 refine LoneTo.goes (n:=30) ?_
 s_op
 s_op
 s_op
 s_op
 s_c stepG_region_end
 s_c stepG_ret'
 s_stop
 refine LoneTo.done ⟨.returned (.tuple #[v,.int .i64 (min aT (aP-qn):Nat),.int .i64 0]),_,rfl,⟨.inr ⟨J,v,rfl,?_⟩,?_⟩,rfl,rfl,rfl,rfl,_,Tryz.func162,by simp[results,Tryz.f162,Frame.at]⟩
 .obtain⟨b,gz,oC,eG,gt,sQ,Ub,avi,Uc,aeA,avj⟩:=aaM
  exact⟨b,gz,oC,eG,gt,sQ,Ub,avi,Uc,J,avj⟩
 exact⟨GG.os.trans jC.os,GG.tape.trans jC.tape,GG.output.trans jC.output,e0 jC.size GG.size,λb Y eC=>(GG.other b J eC).trans (jC.other b Y eC)⟩
end Yp
namespace Yp
open Go Go.RowKit Go.Proofs
def JD:=@List.getElem_append_right
abbrev yo:ae:=.sl (.sl (.int .u8))
def agz{w:World}{X:Nat->Prop}{a:Option Addr}(O:l.length<=cap)(R:cap<=maxLen)
  (h:l=[]\/∃b o c el fz,a=some ⟨b,o,none⟩/\view w X b=some (.cells c el fz)/\o+l.length*(ae.sl (.int .u8)).size<=c.size/\∀(i:Nat) (x:V),hO l i=some x->aH (view w X) (.sl (.int .u8)) x (cF c (o+i*(ae.sl (.int .u8)).size) (ae.sl (.int .u8)).size)) :
  ∃h5 val,JG w a l.length cap h5 val/\∀i (hi:i<l.length),aH (view w X) (.sl (.int .u8)) (l[i]:V) [val i]:=by
 have bY:l.length<=9223372036854775807:=by unfold maxLen at R;omega
 rcases h with rfl|⟨b,o,c,el,fz,rfl,Y,cP,d9⟩
 .exact⟨λ_=>⟨0,0,none⟩,λ_=>undef,⟨λi hi=>absurd hi (yK i),λi hi=>absurd hi (yK i),λi hi=>absurd hi (yK i),λi hi=>absurd hi (yK i),bY⟩,λi hi=>absurd hi (yK i)⟩
 have cP:o+l.length<=c.size:=by have:(ae.sl (.int .u8)).size=1:=rfl;rw[this]at cP;omega
 have hh:=(jr.1 Y).2;have GD:∀i,i<l.length->c[o+i]?=some (c[o+i]?.getD undef):=by intro i hi;rw[yS J];rfl
 have ah:∀i (hi:i<l.length),aH (view w X) (.sl (.int .u8)) (l[i]:V) [c[o+i]?.getD undef]:=by
  intro i hi;have:=d9 i l[i] (jM hi);have ac:cF c (o+i*(ae.sl (.int .u8)).size) (ae.sl (.int .u8)).size=[c[o+i]?.getD undef]:=by
   have e1:(ae.sl (.int .u8)).size=1:=rfl;rw[e1,mw];refine te λj => ?_;by_cases an:j<1
   .obtain rfl:j=0:=J
    rw[ux an,td,GD i hi];rfl
   rw[wA (by rw[pW J];omega),wA fv]
  rwa [ac]at this
 refine⟨λi=>⟨b,o+i,none⟩,λi=>c[o+i]?.getD undef,⟨λi hi cf => ?_,λi hi => ?_,λi _=>(ip.1 hh).1,λi hi => ?_,bY⟩,ah⟩
 .have:=Id (P:=Tryz.prog) (e:=.sl (.int .u8)) (tid:=48) (sp 48 _ (by kernel_rfl)) (k:=.i64) (i:=(i:Int)) (n:=l.length) (cap:=cap) J J b o cf
  rw[this];have e1:(ae.sl (.int .u8)).size=1:=rfl;rw[e1,mw,iZ]
 .show w.cell? ⟨b,o+i,none⟩=_
  simp only[World.cell?,hh];rw[GD i hi];rfl
 obtain⟨a',ayZ,aC,_⟩:=aH.ic.1 (ah i hi);exact⟨_,_,_,oy aC |>.1⟩
abbrev afy:eA:=⟨[.sl (.sl (.int .u8)),.sl (.sl (.int .u8)),.int .i64],[.im (.sl (.sl (.int .u8))),.im (.int .i64),.im (.int .i64)],H1⟩
def M0{w w':World}{X:Nat->Prop}(dg:∀b,X b->b<w.heap.size)(aqw:w'.os=w.os)(aqZ:w'.tape=w.tape)(aqx:w'.output=w.output)(cP:w.heap.size<=w'.heap.size)(hold:∀b,b<w.heap.size->w'.heap[b]?=w.heap[b]?){q:List V}{n m:Int}{v:Value}(aC:aH (view w' X) yo q [v]):
  ∃b2,Ending.returned (.tuple #[v,.int .i64 n,.int .i64 m])=.returned b2/\iu w X w' [.im yo,.im (.int .i64),.im (.int .i64)] (q,n,m,()) b2:=by
 refine⟨_,rfl,X,aqw,aqZ,aqx,cP,hold,λ_ _=>pk,λb h=>hU (dg b h) cP,[v,.int .i64 n,.int .i64 m],?_,rfl⟩;exact⟨[v],_,rfl,aC,[.int .i64 n],_,rfl,aH.ia.2 rfl,[.int .i64 m],[],rfl,aH.ia.2 rfl,rfl⟩
def awl{w w':World}{X:Nat->Prop}(dg:∀b,X b->b<w.heap.size)(hold:∀b,b<w.heap.size->w'.heap[b]?=w.heap[b]?){q:List V}{vals:Array Value}{jo:Value}(jk:uR w' w.heap.size c vals q.length jo)
  (a2:∀i (hi:i<q.length),∃v,vals[i]?=some v/\aH (view w X) (.sl (.int .u8)) (q[i]:V) [v]):aH (view w' X) yo q [jo]:=by
 obtain⟨b,gz,oC,rfl,Y,GM,nZ,Gk,CZ,Lw,vh⟩:=jk;have bY:(view w X).cb (view w' X):=yr λb' o dS aK=>⟨dS,(hold b' (ip.1 aK).1).trans aK⟩;have e1:(ae.sl (.int .u8)).size=1:=rfl;refine aH.ic.2 ⟨some ⟨b,0,none⟩,gz,rfl,GM,nZ,.inr ⟨b,0,oC,23,(0,0),rfl,jr.2 ⟨λh=>absurd (dg b h) J,Y⟩,?_,λi x hx => ?_⟩⟩
 .show 0+q.length*1<=oC.size
  omega
 obtain⟨hi,rfl⟩:=mt.1 hx;have hi:i<q.length:=hi;obtain⟨v,aC,ah⟩:=a2 i hi;have ac:cF oC (0+i*(ae.sl (.int .u8)).size) (ae.sl (.int .u8)).size=[v]:=by
  rw[e1,mw,jv];refine te λj => ?_;by_cases an:j<1
  .obtain rfl:j=0:=J
   rw[ux an,td,CZ i hi,aC];rfl
  rw[wA (by rw[pW J];omega),wA fv]
 rw[ac];exact ah.mono bY
def auO{w:World}{X:Nat->Prop}(dg:∀b,X b->b<w.heap.size)(q l:List V)(g7:Int){r:List V×Int×Int×Unit}{FD q6:List Value}(a2:aH (view w X) yo q FD)(hl:aH (view w X) yo l q6)(ah:H1 (q,l,g7,())=some r):
  Calls Tryz.prog 162 #[ct yo FD,ct yo q6,.int .i64 g7] w λe w'=>∃b2,e=.returned b2/\iu w X w' [.im yo,.im (.int .i64),.im (.int .i64)] r b2:=by
 have Sq:=a2;obtain⟨uo,rB,rfl,bG,b_,co⟩:=aH.ic.1 a2;obtain⟨eU,ci,rfl,eX,f8,oR⟩:=aH.ic.1 hl;obtain⟨aey,sP,axo,jY⟩:=agz (l:=q) bG b_ co;obtain⟨acL,xE,sl,awb⟩:=agz (l:=l) eX f8 oR;unfold H1 at ah;dsimp only at ah;show Calls Tryz.prog 162 #[.slice uo q.length rB,.slice eU l.length ci,.int .i64 g7] w _;by_cases O:g7<1
 .rw[if_pos (.inl O)]at ah
  obtain rfl:=lZ ah;refine(auN O).mono λe w' h => ?_;obtain⟨rfl,rfl⟩:=h;exact M0 dg rfl rfl rfl (bU _) (λ_ _=>rfl) Sq
 by_cases R:64<g7
 .rw[if_pos (.inr R)]at ah
  obtain rfl:=lZ ah;refine(auM O R).mono λe w' h => ?_;obtain⟨rfl,rfl⟩:=h;exact M0 dg rfl rfl rfl (bU _) (λ_ _=>rfl) Sq
 rw[if_neg J]at ah;obtain⟨aP,rfl⟩:∃aP:Nat,g7=aP:=⟨g7.toNat,J⟩;refine(auP J J axo sl).mono λe w' h => ?_;obtain⟨h,ap⟩:=h;have hold:∀b,b<w.heap.size->w'.heap[b]?=w.heap[b]?:=λb Y=>ap.other b Y J;have bY:(view w X).cb (view w' X):=yr λb' o dS aK=>⟨dS,(hold b' (ip.1 aK).1).trans aK⟩;rcases h with⟨bm,rfl⟩|⟨n0,jo,rfl,jk⟩
 .rw[if_pos J]at ah
  obtain rfl:=lZ ah;exact M0 dg ap.os ap.tape ap.output ap.size hold (Sq.mono bY)
 rw[if_neg J,iZ]at ah;obtain rfl:=lZ ah;rw[Nat.min_comm (aP-q.length) l.length];have cq:(q++l.take (aP-q.length):List V).length=q.length+min l.length (aP-q.length):=by rw[cE,hE,Nat.min_comm]
 refine M0 dg ap.os ap.tape ap.output ap.size hold (awl dg hold (c:=w.heap.size+1) (vals:=((List.range q.length).map sP++(List.range (min l.length (aP-q.length))).map xE).toArray) (by rw[cq];exact jk) λi hi => ?_);by_cases Lu:i<q.length
 .refine⟨sP i,?_,?_⟩
  .rw[wD,EN (by simpa using Lu)]
   simp[Lu]
  rw[List.getElem_append_left Lu];exact jY i Lu
 have an:i-q.length<min l.length (aP-q.length):=J;refine⟨xE (i-q.length),?_,?_⟩
 .rw[wD,BG fv]
  simp[an]
 rw[JD J,Oy];exact awb _ J
def aoL:fI Tryz.prog 162 afy:=by refine⟨⟨Tryz.f162,Tryz.func162,by kernel_rfl,by kernel_rfl⟩,?_⟩;intro w X x vs r dg kP bu ah;obtain⟨q,l,g7,⟨⟩⟩:=x;obtain⟨FD,ahp,rfl,a2,q6,mX,rfl,hl,Kw,ayk,rfl,aqL,rfl⟩:=bu;obtain rfl:=aH.ia.1 aqL;exact auO dg q l g7 a2 hl ah
end Yp
namespace Yp
open Go
def U6(x:V×V×Unit):Option (Int×Unit):=match x.2.1 with
 |[c]=>some ((x.1.count c:Nat),())
 |_=>none
def NN(x:V×V×Unit):Option (Int×Unit):=match x.2.1 with
 |[c]=>some (Lib.indexByte x.1 c,())
 |_=>none
def NO(x:List V×V×Unit):Option (V×Unit):=
 if x.1.length<=140737488355328/\(x.2.1.intercalate x.1).length<=140737488355328 then some (x.2.1.intercalate x.1,()) else none
def u9:Nat->Int×Unit->Option (V×Unit)
 |0,_=>none
 |k+1,x=>ob (mD (dh x.1 10,1,())) λa:V×Int×Unit=>
  T (aJ x.1 10) (some (a.1,())) (ob (u9 k (i64 (fg x.1 10),())) λb:V×Unit=>am (bE (av (len b.1) (len a.1)) 140737488355328) (some (bv b.1 a.1,())))
def Em(x:Int×Unit):Option (V×Unit):=u9 20 x
def U7(x:V×V×Int×Int×Unit):Option (List V×Unit):=letI k:=x.2.2.2.1; T (ag k 0) (some (aO V,())) (T (seq x.2.1 (aO UInt8)) none  (ob   (T (aJ k 0)    (ob (U6 (x.1,x.2.1,())) λ(a:Int×Unit)=>some (i64 (av a.1 1),()))    (some (k,())))   λ(a:Int×Unit)=>letI b:=fE a.1 (i64 (av (len x.1) 1));   am    (cY (ca 0 b b)     (cz 32 (aa b)))    (ci     (bN      (λ(ab:V×Int×List V×Unit)=>letI l:=ab.2.2.1;letI h:=ab.2.1;letI c:=some (aE.ex 0 (ab.1,h,l,()));letI d:=len ab.1;       T (aJ h (i64 (bi b 1)))        (ob (NN (ab.1,x.2.1,())) λ(a:Int×Unit)=>letI f:=i64 (av a.1 (len x.2.1));letI g:=i64 (av a.1 x.2.2.1);         T (aJ a.1 0) c          (am (ca 0 g d)           (am (aU h (len l))           (am (ca f d d)           (some           (aE.nx           (sub ab.1 f d,i64 (av h 1),           cj l (aa h) (sub ab.1 0 g),           ())))))))        c)      (x.1,0,bO (aa b) (aO UInt8),()))     (λ(a:V×Int×List V×Unit)=>none)     (λ(i:Nat) (a:V×Int×List V×Unit)=>letI e:=cj a.2.2.1 (aa a.2.1) a.1;letI j:=i64 (av a.2.1 1);      am (bZ i 0)       (am (aU a.2.1 (len a.2.2.1))        (am (ca 0 j (len e))         (some          (cut e (aa 0)           (cd (aa j) (aa 0)),           ())))))     λ(r:List V×Unit)=>some r)))
def Eb(x:V×V×Unit):Option (List V×Unit):=
 ob (U7 (x.1,x.2.1,0, -1,())) λ(a:List V×Unit)=>some (a.1,())
def p1(x:V×Int×Unit):Option (Int×Bool×Unit):=ob (r8 (x.1,())) λ(a:Int×Int×Unit)=>letI b:=some (a.1,false,()); ob  (T (ag a.2.1 0)   (T (bE a.1 x.2.1)    (T (seq x.1 [48]) (some (a.1,true,()))     (am (aU 0 (len x.1)) (some (a.1,a_ (ag (aI (ak x.1 (aa 0) (u8 0))) (aI (u8 48))),()))))    b)   b)  λ(a:Int×Bool×Unit)=>some (a.1,a.2.1,())
def El(x:V×Unit):Option (V×Bool×Unit):=ob (Ch (x.1,())) λ(a:V×Int×Unit)=>letI b:=some (a.1,false,()); T (ag a.2.1 0) (T (bE 2 (len x.1)) (some (a.1,bE (len x.1) 1800,())) b)  b
def ym (x:eS ×
 Int×V×Unit):Option (eS×Bool×Unit):=
 T (ag x.2.1 105)
 (ob (p1 (x.2.2.1,1,())) λ(a:Int×Bool×Unit)=>
  T a.2.1 (some ((x.1.1,a.1,x.1.2.2),a.2.1,())) (some (x.1,a.2.1,())))
 (T (ag x.2.1 110)
  (ob (p1 (x.2.2.1,999999,())) λ(a:Int×Bool×Unit)=>
   T a.2.1 (some ((x.1.1,x.1.2.1,a.1,x.1.2.2.2),a.2.1,()))
    (some (x.1,a.2.1,())))
  (T (ag x.2.1 109)
   (ob (p1 (x.2.2.1,999999,())) λ(a:Int×Bool×Unit)=>
    T a.2.1
     (some ((x.1.1,x.1.2.1,x.1.2.2.1,a.1,x.1.2.2.2.2),a.2.1,()))
     (some (x.1,a.2.1,())))
   (ob (El (x.2.2.1,())) λ(a:V×Bool×Unit)=>
    T a.2.1
     (some
      ((x.1.1,x.1.2.1,x.1.2.2.1,x.1.2.2.2.1,a.1,x.1.2.2.2.2.2),
       a.2.1,()))
     (some (x.1,a.2.1,())))))
def p0(x:V×Unit):Option (eS×Bool×Unit):=ob (Eb (x.1,[32],())) λ(a:List V×Unit)=>letI b:=ak a.1 (aa 0) (aO UInt8);letI d:=len a.1; am (aU 0 d)  (ob   (T    (ag     (T (seq b [115,101,110,100]) ((0:Int),[105,98],())      (T (seq b [111,110]) (1,[105],())       (T (seq b [111,102,102]) (2,[105],())        (T (seq b [101,99,104,111]) (3,[105],())         (T (seq b [107,101,121]) (4,[105,98],())          (T (seq b [100,97,121]) (5,[105,110],())          (T (seq b [116,105,99,107]) (6,[105],())          (T (seq b [103,105,118,101]) (7,[110],())          (T (seq b [100,114,111,112]) (8,[110],())          (T (seq b [97,103,97,105,110]) (9,[110],())          (T (seq b [115,112,111,105,108])          (10,[110,109,98],())          (T (seq b [105,110,106,101,99,116])          (11,[105,110,98],())          (T (seq b [114,97,105,115,101])          (12,[110],())          (T (seq b [99,117,116]) (13,[110],())          (T (seq b [99,114,97,115,104])          (14,[105],())          (T (seq b [98,111,111,116])          (15,[105],())          (T (seq b [97,114,109])          (16,[105,110],())          (T (seq b [99,97,108,109])          (17,[110],()) j0)))))))))))))))))).1     7)    (some (ag d 3,())) (some (false,())))   λ(a6:Bool×Unit)=>   ob    (T a6.1 (some ([110,109],()))     (some      ((T (seq b [115,101,110,100]) ((0:Int),[105,98],())       (T (seq b [111,110]) (1,[105],())        (T (seq b [111,102,102]) (2,[105],())        (T (seq b [101,99,104,111]) (3,[105],())        (T (seq b [107,101,121]) (4,[105,98],())        (T (seq b [100,97,121]) (5,[105,110],())        (T (seq b [116,105,99,107]) (6,[105],())        (T (seq b [103,105,118,101]) (7,[110],())        (T (seq b [100,114,111,112]) (8,[110],())        (T (seq b [97,103,97,105,110]) (9,[110],())        (T (seq b [115,112,111,105,108])        (10,[110,109,98],())        (T (seq b [105,110,106,101,99,116])        (11,[105,110,98],())        (T (seq b
 [114,97,105,115,101])        (12,[110],())        (T (seq b [99,117,116]) (13,[110],())        (T (seq b [99,114,97,115,104])        (14,[105],())        (T (seq b [98,111,111,116])        (15,[105],())        (T (seq b [97,114,109])        (16,[105,110],())        (T (seq b [99,97,108,109])        (17,[110],()) j0)))))))))))))))))).2.1,       ())))    λ(bR:V×Unit)=>    ob     (T      (a_       (T (seq b [115,101,110,100]) true        (T (seq b [111,110]) true         (T (seq b [111,102,102]) true          (T (seq b [101,99,104,111]) true           (T (seq b [107,101,121]) true           (T (seq b [100,97,121]) true           (T (seq b [116,105,99,107]) true           (T (seq b [103,105,118,101]) true           (T (seq b [100,114,111,112]) true           (T (seq b [97,103,97,105,110]) true           (T (seq b [115,112,111,105,108]) true           (T (seq b [105,110,106,101,99,116]) true           (T (seq b [114,97,105,115,101]) true           (T (seq b [99,117,116]) true           (T (seq b [99,114,97,115,104]) true           (T (seq b [98,111,111,116]) true           (T (seq b [97,114,109]) true           (T (seq b [99,97,108,109]) true           false)))))))))))))))))))      (some (true,())) (some (a_ (ag d (i64 (av 1 (len bR.1)))),())))     λ(bS:Bool×Unit)=>     T bS.1 (some (ol,false,()))      (ci       (bN        (λ(x:Bool×eS×Nat×Unit)=>letI c:=x.2.2.1;letI e:=i64 (av (bf c) 1);         T (i6 c (aT bR.1))          (am (aU e d)           (ob           (ym           (x.2.1,bf (gA bR.1 c).1,           ak a.1 (aa e) (aO UInt8),()))           λ(a:eS×Bool×Unit)=>           T (a_ a.2.1) (some (aE.rt (ol,false,())))           (some (aE.nx (x.1,a.1,bQ c (gA bR.1 c).2,())))))          (some (aE.ex 0 (x.1,x.2.1,c,()))))        (false,         ((T (seq b [115,101,110,100]) ((0:Int),[105,98],())          (T (seq b [111,110]) (1,[105],())          (T (seq b
 [111,102,102]) (2,[105],())          (T (seq b [101,99,104,111]) (3,[105],())          (T (seq b [107,101,121]) (4,[105,98],())          (T (seq b [100,97,121]) (5,[105,110],())          (T (seq b [116,105,99,107]) (6,[105],())          (T (seq b [103,105,118,101]) (7,[110],())          (T (seq b [100,114,111,112]) (8,[110],())          (T (seq b [97,103,97,105,110])          (9,[110],())          (T (seq b [115,112,111,105,108])          (10,[110,109,98],())          (T (seq b [105,110,106,101,99,116])          (11,[105,110,98],())          (T (seq b [114,97,105,115,101])          (12,[110],())          (T (seq b [99,117,116])          (13,[110],())          (T (seq b [99,114,97,115,104])          (14,[105],())          (T (seq b [98,111,111,116])          (15,[105],())          (T (seq b [97,114,109])          (16,[105,110],())          (T (seq b [99,97,108,109])          (17,[110],()) j0)))))))))))))))))).1,          0,0,0,aO UInt8,()),         0,()))       (λ(a:Bool×eS×Nat×Unit)=>none)       (λ(i:Nat) (a:Bool×eS×Nat×Unit)=>        am (bZ i 0) (some (a.2.1,true,())))       λ(r:eS×Bool×Unit)=>some r))
def A?(x:List Int×Unit):Option (V×Unit):=
 ci
 (bN
  (λ(ab:List V×Int×Unit)=>
   T (aJ ab.2.1 (len x.1))
    (am (aU ab.2.1 (len x.1))
     (ob (Em (ak x.1 (aa ab.2.1) 0,())) λ(a:V×Unit)=>
      am (cz 32 (bQ (aT ab.1) (aT [a.1])))
       (some (aE.nx (bv ab.1 [a.1],i64 (av ab.2.1 1),())))))
    (some (aE.ex 0 (ab.1,ab.2.1,()))))
  (aO V,0,()))
 (λ(a:List V×Int×Unit)=>none)
 (λ(i:Nat) (a:List V×Int×Unit)=>
  am (bZ i 0) (ob (NO (a.1,[32],())) λ(a:V×Unit)=>some (a.1,())))
 λ(r:V×Unit)=>some r
def MG(x:Int×Unit):Option (V×Unit):=
 ob (T (aJ x.1 0) (some (true,())) (some (bE 9 x.1,()))) λ(a:Bool×Unit)=>
 T a.1 (some (aO UInt8,()))
  (am (aU x.1 (bf 9))
   (some
    (ak
     [[111,102,102],[97,115,107,101,100],[116,111,108,100],[111,112,101,110],
      [114,101,107,101,121],[99,117,116,116,105,110,103],[99,108,111,115,105,110,103],
      [102,97,105,108,101,100],[100,97,114,107]]
     (aa x.1) (aO UInt8),
     ())))
def En (x:qc ×
 Unit):Option (V×Unit):=
 ob (MG (x.1.2.2.1,())) λ(a:V×Unit)=>
 am (bE (av (len a.1) (len [32])) 140737488355328)
  (ob
   (A?
    ([x.1.2.2.2.2.2.1,x.1.2.2.2.2.2.2.1,
     x.1.2.2.2.2.2.2.2.2.2.2.1.1.1,
     x.1.2.2.2.2.2.2.2.2.2.2.2.2.2.1,
     len x.1.2.2.2.2.2.2.2.2.2.2.2.2.2.2.1],
     ()))
   λ(a6:V×Unit)=>
   am (bE (av (len (bv a.1 [32])) (len a6.1)) 140737488355328)
    (am (bE (av (len (bv (bv a.1 [32]) a6.1)) (len [10])) 140737488355328)
     (some (bv (bv (bv a.1 [32]) a6.1) [10],()))))
def VE(x:List (Int×List Int×Int×V×Unit)×Unit):Option (V×Unit):=ci (bN  (λ(ab:V×Int×Unit)=>letI d:=ab.2.1;letI c:=aa d;   T (aJ d (len x.1))    (am (aU d (len x.1))     (ob (Cg ((ak x.1 c (0,[0,0],0,aO UInt8,())).2.2.2.1,()))      λ(a:V×Unit)=>      ob (T (seq a.1 (aO UInt8)) (some ([45],())) (some (a.1,()))) λ(a:V×Unit)=>       am (aU 0 (bf 2))        (am (aU 1 (bf 2))         (ob          (A?           ([(ak x.1 c (0,[0,0],0,aO UInt8,())).1,           ak (ak x.1 c (0,[0,0],0,aO UInt8,())).2.1 (aa 0) 0,           ak (ak x.1 c (0,[0,0],0,aO UInt8,())).2.1 (aa 1) 0,           (ak x.1 c (0,[0,0],0,aO UInt8,())).2.2.1],           ()))          λ(a6:V×Unit)=>letI e:=bv a6.1 [32];letI b:=bv e a.1;          am (bE (av (len a6.1) (len [32])) 140737488355328)           (am (bE (av (len e) (len a.1)) 140737488355328)           (am (bE (av (len b) (len [10])) 140737488355328)           (am (bE (av (len ab.1) (len (bv b [10]))) 140737488355328)           (some           (aE.nx           (bv ab.1 (bv b [10]),i64 (av d 1),           ()))))))))))    (some (aE.ex 0 (ab.1,d,()))))  (aO UInt8,0,())) (λ(a:V×Int×Unit)=>none) (λ(i:Nat) (a:V×Int×Unit)=>  am (bZ i 0)   (am (bE (av (len a.1) (len [111,107,10])) 140737488355328) (some (bv a.1 [111,107,10],())))) λ(r:V×Unit)=>some r  
def qS (x:e5 ×
 V ×
  Unit):Option
 (e5 ×
  V×Unit):=
 T (seq x.2.1 [115,104,111,119,32,48])
 (am (aU 0 (bf 2))
  (ob
   (En
    (ak x.1.1 (aa 0)
     p8,
     ()))
   λ(a:V×Unit)=>some (x.1,a.1,())))
 (T (seq x.2.1 [115,104,111,119,32,49])
  (am (aU 1 (bf 2))
   (ob
    (En
     (ak x.1.1 (aa 1)
      p8,
      ()))
    λ(a:V×Unit)=>some (x.1,a.1,())))
  (T (seq x.2.1 [108,111,103,32,48])
   (am (aU 0 (bf 2))
    (ob (VE (ak x.1.2.2.2.2.1 (aa 0) (aO (Int×List Int×Int×V×Unit)),()))
     λ(a:V×Unit)=>some (x.1,a.1,())))
   (T (seq x.2.1 [108,111,103,32,49])
    (am (aU 1 (bf 2))
     (ob (VE (ak x.1.2.2.2.2.1 (aa 1) (aO (Int×List Int×Int×V×Unit)),()))
      λ(a:V×Unit)=>some (x.1,a.1,())))
    (T (seq x.2.1 [110,101,116])
     (ob (A? ([len x.1.2.2.1,len x.1.2.2.2.1],())) λ(a:V×Unit)=>
      am (bE (av (len a.1) (len [10])) 140737488355328) (some (x.1,bv a.1 [10],())))
     (ob (p0 (x.2.1,())) λ(a:eS×Bool×Unit)=>
      T (a_ a.2.1) (some (x.1,[119,104,97,116,10],()))
       (ob (Jd (x.1,a.1,()))
        fun
         (a :
          e5 ×
           Int×Unit)=>
        T (a_ (ag a.2.1 0))
         (ob (Em (a.2.1,())) λ(a6:V×Unit)=>
          am (bE (av (len [101,114,114,111,114,32]) (len a6.1)) 140737488355328)
           (am (bE (av (len (bv [101,114,114,111,114,32] a6.1)) (len [10])) 140737488355328)
           (some (a.1,bv (bv [101,114,114,111,114,32] a6.1) [10],()))))
         (some (a.1,[111,107,10],()))))))))
def Ek(x:Unit):Option
 (e5 ×
  Unit):=
 am (cY (ca 0 32 32) (cz 1 (aa 32)))
 (ob (Jc (bO (aa 32) (u8 0),false,()))
  fun
   (a :
    e5 ×
     Int×Unit)=>
  some (a.1,()))
def I2(x:V×Unit):Option (V×Unit):=letI c:=aO UInt8; ob (Ek ()) fun  (a :   e5 ×    Unit)=> ob (Eb (x.1,[10],())) λ(a6:List V×Unit)=>  ci   (bN    (fun     (x :      V ×       Int ×        e5 ×         Unit)=>letI b:=x.2.1;     T (aJ b (len a6.1))      (am (aU b (len a6.1))       (T (seq (ak a6.1 (aa b) c) c)        (some (aE.nx (x.1,i64 (av b 1),x.2.2.1,())))        (ob (qS (x.2.2.1,ak a6.1 (aa b) c,()))         fun          (a :           e5 ×           V×Unit)=>         am (bE (av (len x.1) (len a.2.1)) 140737488355328)          (some (aE.nx (bv x.1 a.2.1,i64 (av b 1),a.1,()))))))      (some (aE.ex 0 (x.1,b,x.2.2.1,()))))    (aO UInt8,0,a.1,()))   (fun    (a :     V ×      Int ×       e5 ×        Unit)=>    none)   (λ(i:Nat)    (a :     V ×      Int ×       e5 ×        Unit)=>    am (bZ i 0) (some (a.1,())))   λ(r:V×Unit)=>some r
def Ho(x:Unit):Option (Bool×Unit):=letI b:=some (false,()); ob (Ek ()) fun  (a :   e5 ×    Unit)=> ob (qS (a.1,[114,97,105,115,101,32,48],()))  fun   (a :    e5 ×     V×Unit)=>  ob (qS (a.1,[114,97,105,115,101,32,48,48],()))   fun    (a6 :     e5 ×      V×Unit)=>   ob (p0 ([103,105,118,101,32,51,32,52],()))    λ(bR:eS×Bool×Unit)=>    ob (p0 ([103,105,118,101],()))     λ(bS:eS×Bool×Unit)=>     ob      (I2       ([114,97,105,115,101,32,48,10,111,110,32,48,10,99,97,108,109,32,52,10,115,104,111,        119,32,49,10],        ()))      λ(dm:V×Unit)=>      ob       (T        (seq dm.1         [111,107,10,111,107,10,111,107,10,111,112,101,110,32,49,32,49,32,49,32,48,32,48,          10])        (T (seq a.2.1 [111,107,10])         (T (seq a6.2.1 [119,104,97,116,10])          (T bR.2.1           (T (ag bR.1.1 7)           (T (ag bR.1.2.2.1 3)           (T (ag bR.1.2.2.2.1 4) (some (a_ bS.2.1,())) b)           b)           b)           b)          b)         b)        b)       λ(a:Bool×Unit)=>some (a.1,())
def vH(x:Int×Unit):Option (V×Unit):=ci (bN  (λ(x:V×Int×Unit)=>letI b:=i64 (av 48 (dh x.2.1 10));   T (aJ 9 x.2.1)    (am (bE (av (len [u8 b]) (len x.1)) 140737488355328)     (some (aE.nx (bv [u8 b] x.1,i64 (fg x.2.1 10),()))))    (some (aE.ex 0 (x.1,x.2.1,()))))  (aO UInt8,x.1,())) (λ(a:V×Int×Unit)=>none) (λ(i:Nat) (a:V×Int×Unit)=>letI c:=i64 (av 48 a.2.1);  am (bZ i 0)   (am (bE (av (len [u8 c]) (len a.1)) 140737488355328)    (some (bv [u8 c] a.1,())))) λ(r:V×Unit)=>some r
def L4(x:(UInt8×Bool×UInt32×UInt32×V×Unit)×Unit):Option (Bool×Unit):=letI t:=i64 (aI x.1.1);letI b:=dh t 18;letI c:=some (false,());letI h:=aO UInt8;letI j:=aS (u32 1000000);letI k:=x.1.2.2;letI m:=aS (u32 (dh (aS k.2.1) j));letI o:=aS (u32 (dh (aS k.1) j));letI q:=len [32];letI s:=k.2.2.1; ob (Ho ()) λ(a:Bool×Unit)=> ob (T (aJ (len s) 1) (some (true,())) (some (aJ 900 (len s),())))  λ(a6:Bool×Unit)=>  T a6.1 (some (a.1,()))   (am    (aU b     (len      [[115,101,110,100],[111,110],[111,102,102],[101,99,104,111],[107,101,121],[100,97,121],       [116,105,99,107],[103,105,118,101],[100,114,111,112],[97,103,97,105,110],       [115,112,111,105,108],[105,110,106,101,99,116],[114,97,105,115,101],[99,117,116],       [99,114,97,115,104],[98,111,111,116],[97,114,109],[99,97,108,109]]))    (ci     (bN      (λ(ab:V×Int×eS×Unit)=>letI l:=ab.2.1;letI d:=ab.2.2.1;letI e:=bE (av (len ab.1) q) 140737488355328;letI f:=bv ab.1 [32];letI g:=av l 1;letI p:=d.2.2;       am        (aU b         (len          [[105,98],[105],[105],[105],[105,98],[105,110],[105],[110,109],[110],[110],           [110,109,98],[105,110,98],[110],[110],[105],[105],[105,110],[110]]))        (T         (aJ l          (len           (ak           [[105,98],[105],[105],[105],[105,98],[105,110],[105],[110,109],[110],[110],           [110,109,98],[105,110,98],[110],[110],[105],[105],[105,110],[110]]           (aa b) h)))         (am          (aU b           (len           [[105,98],[105],[105],[105],[105,98],[105,110],[105],[110,109],[110],[110],           [110,109,98],[105,110,98],[110],[110],[105],[105],[105,110],[110]]))          (am           (aU l           (len           (ak           [[105,98],[105],[105],[105],[105,98],[105,110],[105],[110,109],[110],[110],           [110,109,98],[105,110,98],[110],[110],[105],[105],[105,110],[110]]           (aa b) h)))           (T           (ag           (aI           (ak           (ak          
 [[105,98],[105],[105],[105],[105,98],[105,110],[105],[110,109],[110],[110],           [110,109,98],[105,110,98],[110],[110],[105],[105],[105,110],[110]]           (aa b) h)           (aa l) (u8 0)))           (aI (u8 105)))           (am (bE (av (len ab.1) (len [32,48])) 140737488355328)           (T x.1.2.1           (am (ca 0 (i64 (bi (len (bv ab.1 [32,48])) 1)) (len (bv ab.1 [32,48])))           (am           (bE           (av (len (sub (bv ab.1 [32,48]) 0 (i64 (bi (len (bv ab.1 [32,48])) 1))))           (len [49]))           140737488355328)           (some           (aE.nx           (bv (sub (bv ab.1 [32,48]) 0 (i64 (bi (len (bv ab.1 [32,48])) 1)))           [49],           i64 g,(d.1,1,p),           ())))))           (some (aE.nx (bv ab.1 [32,48],i64 g,d,())))))           (T           (ag           (aI           (ak           (ak           [[105,98],[105],[105],[105],[105,98],[105,110],[105],[110,109],[110],           [110],[110,109,98],[105,110,98],[110],[110],[105],[105],[105,110],           [110]]           (aa b) h)           (aa l) (u8 0)))           (aI (u8 110)))           (am e           (ob (vH (i64 o,()))           λ(a:V×Unit)=>           am (bE (av (len f) (len a.1)) 140737488355328)           (some           (aE.nx           (bv f a.1,i64 g,           (d.1,d.2.1,           i64 o,           p.2),           ())))))           (T           (ag           (aI           (ak           (ak           [[105,98],[105],[105],[105],[105,98],[105,110],[105],[110,109],[110],           [110],[110,109,98],[105,110,98],[110],[110],[105],[105],[105,110],           [110]]           (aa b) h)           (aa l) (u8 0)))           (aI (u8 109)))           (am e           (ob           (vH           (i64 m,()))           λ(a:V×Unit)=>           am (bE (av (len f) (len a.1)) 140737488355328)           (some           (aE.nx           (bv f a.1,i64 g,          
 (d.1,d.2.1,p.1,           i64 m,           p.2.2),           ())))))           (T           (ag           (aI           (ak           (ak           [[105,98],[105],[105],[105],[105,98],[105,110],[105],[110,109],[110],           [110],[110,109,98],[105,110,98],[110],[110],[105],[105],[105,110],           [110]]           (aa b) h)           (aa l) (u8 0)))           (aI (u8 98)))           (am e           (ob (DO (s,())) λ(a:V×Unit)=>           am (bE (av (len f) (len a.1)) 140737488355328)           (some           (aE.nx           (bv f a.1,i64 g,           (d.1,d.2.1,p.1,           p.2.1,s,           p.2.2.2),           ())))))           (some (aE.nx (ab.1,i64 g,d,())))))))))         (some (aE.ex 0 (ab.1,l,d,())))))      (ak       [[115,101,110,100],[111,110],[111,102,102],[101,99,104,111],[107,101,121],        [100,97,121],[116,105,99,107],[103,105,118,101],[100,114,111,112],        [97,103,97,105,110],[115,112,111,105,108],[105,110,106,101,99,116],        [114,97,105,115,101],[99,117,116],[99,114,97,115,104],[98,111,111,116],        [97,114,109],[99,97,108,109]]       (aa b) h,       0,(dh t 18,0,0,0,aO UInt8,()),()))     (λ(a:V×Int×eS×Unit)=>none)     (λ(i:Nat) (bR:V×Int×eS×Unit)=>letI n:=bR.2.2.1;      am (bZ i 0)       (ob (p0 (bR.1,())) λ(bS:eS×Bool×Unit)=>letI u:=bS.1.2;        am (bE (av (len bR.1) q) 140737488355328)         (ob (p0 (bv bR.1 [32],()))          λ(dm:eS×Bool×Unit)=>          am (bE (av q (len bR.1)) 140737488355328)           (ob (p0 (bv [32] bR.1,()))           λ(j4:eS×Bool×Unit)=>           ob           (T a.1           (T bS.2.1           (T (a_ dm.2.1)           (T (a_ j4.2.1)           (T (ag bS.1.1 n.1)           (T (ag u.1 n.2.1)           (T (ag u.2.1 n.2.2.1)           (T (ag u.2.2.1 n.2.2.2.1)           (ob           (MV           (u.2.2.2.1,n.2.2.2.2.1,()))           λ(a:Bool×Unit)=>some (a.1,()))           c)        
   c)           c)           c)           c)           c)           c)           c)           λ(a:Bool×Unit)=>some (a.1,())))))     λ(r:Bool×Unit)=>some r))
end Yp
namespace Go.Proofs
open Go.Shelf
def Tryz.acz:Go.Shelf.Ren:=⟨fun|156=>29|165=>39|166=>40|169=>41|240=>58|241=>59|276=>78|277=>79|n=>n,fun|31=>27|9=>9|3=>3|4=>4|0=>0|20=>20|72=>124|76=>128|70=>122|37=>23|75=>127|127=>141|164=>159|5=>5|80=>130|n=>n,fun|n=>n⟩
def Tryz.acy:Go.Proofs.Lays.n156 Tryz.prog Tryz.acz:={
 mixed:=by kernel_rfl
 f156:=Tryz.func29.trans (congrArg some (by kernel_rfl))
 f165:=Tryz.func39.trans (congrArg some (by kernel_rfl))
 f166:=Tryz.func40.trans (congrArg some (by kernel_rfl))
 f169:=Tryz.func41.trans (congrArg some (by kernel_rfl))
 f240:=Tryz.func58.trans (congrArg some (by kernel_rfl))
 f241:=Tryz.func59.trans (congrArg some (by kernel_rfl))
 f276:=Tryz.func78.trans (congrArg some (by kernel_rfl))
 f277:=Tryz.func79.trans (congrArg some (by kernel_rfl))
 t0:=Tryz.underlying0
 a0:=Tryz.isAgg0
 z0:=Tryz.sizeOf0
 v0:=Tryz.zeroValue0
 t3:=Tryz.underlying3
 a3:=Tryz.isAgg3
 z3:=Tryz.sizeOf3
 v3:=Tryz.zeroValue3
 t4:=Tryz.underlying4
 a4:=Tryz.isAgg4
 z4:=Tryz.sizeOf4
 v4:=Tryz.zeroValue4
 t9:=Tryz.underlying9
 a9:=Tryz.isAgg9
 z9:=Tryz.sizeOf9
 v9:=Tryz.zeroValue9
 t20:=Tryz.underlying20
 a20:=Tryz.isAgg20
 z20:=Tryz.sizeOf20
 v20:=Tryz.zeroValue20
 t31:=Tryz.underlying27
 a31:=Tryz.isAgg27
 z31:=Tryz.sizeOf27
 v31:=Tryz.zeroValue27
 t37:=Tryz.underlying23
 a37:=Tryz.isAgg23
 z37:=Tryz.sizeOf23
 v37:=Tryz.zeroValue23
 t70:=Tryz.underlying122
 a70:=Tryz.isAgg122
 z70:=Tryz.sizeOf122
 v70:=Tryz.zeroValue122
 t72:=Tryz.underlying124
 a72:=Tryz.isAgg124
 z72:=Tryz.sizeOf124
 v72:=Tryz.zeroValue124
 t75:=Tryz.underlying127
 a75:=Tryz.isAgg127
 z75:=Tryz.sizeOf127
 v75:=Tryz.zeroValue127
 t76:=Tryz.underlying128
 a76:=Tryz.isAgg128
 z76:=Tryz.sizeOf128
 v76:=Tryz.zeroValue128
 t127:=Tryz.underlying141
 a127:=Tryz.isAgg141
 z127:=Tryz.sizeOf141
 v127:=Tryz.zeroValue141
 t164:=Tryz.underlying159
 a164:=Tryz.isAgg159
 z164:=Tryz.sizeOf159
 v164:=Tryz.zeroValue159 }
def Tryz.Wi:Builder.Extra Tryz.prog Tryz.acz:={
 sizeBuilder:=by kernel_rfl
 liesBuilder:=by kernel_rfl
 t5:=Tryz.underlying5
 a5:=Tryz.isAgg5
 z5:=Tryz.sizeOf5
 v5:=Tryz.zeroValue5
 infoByte:=by kernel_rfl
 cellsByte:=by kernel_rfl
 sizeByte:=by kernel_rfl
 neB5:=by decide }
open Go.RowKit in
def Tryz.strings_Join_none(a:Option Addr)(c:Nat)(sep:ByteArray)(w:World):
  Calls Tryz.prog 29 #[.slice a 0 c,.string sep] w λe w'=>e=.returned (.string ⟨#[]⟩)/\w'=w:=Any.strings_Join_none Tryz.acy Tryz.Wi a c sep w
open Go.RowKit in
def Tryz.strings_Join(bk o c:Nat)(et:List ByteArray)(sep:ByteArray)(w:World)(Gr:∀(j:Nat) x,et[j]?=some x->w.cell? ⟨bk,o+j,none⟩=some (.string x))(ao3:bk<w.heap.size)(fO:et.length<=140737488355328)(ld:et.length<=c)(cq:(Lib.join (et.map (·.data.toList)) sep.data.toList).length<=140737488355328):
  Calls Tryz.prog 29 #[.slice (some ⟨bk,o,none⟩) et.length c,.string sep] w λe w'=>e=.returned (.string ⟨(Lib.join (et.map (·.data.toList)) sep.data.toList).toArray⟩)/\Below w.heap.size w w':=Any.strings_Join Tryz.acy Tryz.Wi bk o c et sep w Gr ao3 fO ld cq
def Tryz.asu:Go.Shelf.Ren:=⟨fun|143=>36|219=>55|217=>74|225=>75|224=>76|267=>77|266=>100|314=>101|n=>n,fun|9=>9|3=>3|4=>4|5=>5|46=>121|146=>180|51=>22|n=>n,fun|1=>0|n=>n⟩
def Tryz.ast:Go.Proofs.Lays.n143 Tryz.prog Tryz.asu:={
 mixed:=by kernel_rfl
 f143:=Tryz.func36.trans (congrArg some (by kernel_rfl))
 f217:=Tryz.func74.trans (congrArg some (by kernel_rfl))
 f219:=Tryz.func55.trans (congrArg some (by kernel_rfl))
 f224:=Tryz.func76.trans (congrArg some (by kernel_rfl))
 f225:=Tryz.func75.trans (congrArg some (by kernel_rfl))
 f266:=Tryz.func100.trans (congrArg some (by kernel_rfl))
 f267:=Tryz.func77.trans (congrArg some (by kernel_rfl))
 f314:=Tryz.func101.trans (congrArg some (by kernel_rfl))
 t3:=Tryz.underlying3
 a3:=Tryz.isAgg3
 z3:=Tryz.sizeOf3
 v3:=Tryz.zeroValue3
 t4:=Tryz.underlying4
 a4:=Tryz.isAgg4
 z4:=Tryz.sizeOf4
 v4:=Tryz.zeroValue4
 t5:=Tryz.underlying5
 a5:=Tryz.isAgg5
 z5:=Tryz.sizeOf5
 v5:=Tryz.zeroValue5
 t9:=Tryz.underlying9
 a9:=Tryz.isAgg9
 z9:=Tryz.sizeOf9
 v9:=Tryz.zeroValue9
 t46:=Tryz.underlying121
 a46:=Tryz.isAgg121
 z46:=Tryz.sizeOf121
 v46:=Tryz.zeroValue121
 t51:=Tryz.underlying22
 a51:=Tryz.isAgg22
 z51:=Tryz.sizeOf22
 v51:=Tryz.zeroValue22
 t146:=Tryz.underlying180
 a146:=Tryz.isAgg180
 z146:=Tryz.sizeOf180
 v146:=Tryz.zeroValue180
 g1:=by kernel_rfl }
open Go.RowKit Go.Lib in
def Tryz.strings_Index_one(s:ByteArray)(c:UInt8)(w:World):
  Calls Tryz.prog 36 #[.string s,.string ⟨#[c]⟩] w λe w'=>e=.returned (.int .i64 (Lib.indexByte s.data.toList c))/\w'=w:=Any.strings_Index_one Tryz.ast s c w
def Tryz.ass:Go.Shelf.Ren:=⟨fun|138=>35|195=>52|218=>54|143=>36|219=>55|217=>74|225=>75|224=>76|267=>77|266=>100|314=>101|n=>n,fun|9=>9|3=>3|4=>4|5=>5|0=>0|46=>121|146=>180|51=>22|n=>n,fun|1=>0|n=>n⟩
def Tryz.asr:Go.Proofs.Lays.n138 Tryz.prog Tryz.ass:={
 mixed:=by kernel_rfl
 f138:=Tryz.func35.trans (congrArg some (by kernel_rfl))
 f143:=Tryz.func36.trans (congrArg some (by kernel_rfl))
 f195:=Tryz.func52.trans (congrArg some (by kernel_rfl))
 f217:=Tryz.func74.trans (congrArg some (by kernel_rfl))
 f218:=Tryz.func54.trans (congrArg some (by kernel_rfl))
 f219:=Tryz.func55.trans (congrArg some (by kernel_rfl))
 f224:=Tryz.func76.trans (congrArg some (by kernel_rfl))
 f225:=Tryz.func75.trans (congrArg some (by kernel_rfl))
 f266:=Tryz.func100.trans (congrArg some (by kernel_rfl))
 f267:=Tryz.func77.trans (congrArg some (by kernel_rfl))
 f314:=Tryz.func101.trans (congrArg some (by kernel_rfl))
 t0:=Tryz.underlying0
 a0:=Tryz.isAgg0
 z0:=Tryz.sizeOf0
 v0:=Tryz.zeroValue0
 t3:=Tryz.underlying3
 a3:=Tryz.isAgg3
 z3:=Tryz.sizeOf3
 v3:=Tryz.zeroValue3
 t4:=Tryz.underlying4
 a4:=Tryz.isAgg4
 z4:=Tryz.sizeOf4
 v4:=Tryz.zeroValue4
 t5:=Tryz.underlying5
 a5:=Tryz.isAgg5
 z5:=Tryz.sizeOf5
 v5:=Tryz.zeroValue5
 t9:=Tryz.underlying9
 a9:=Tryz.isAgg9
 z9:=Tryz.sizeOf9
 v9:=Tryz.zeroValue9
 t46:=Tryz.underlying121
 a46:=Tryz.isAgg121
 z46:=Tryz.sizeOf121
 v46:=Tryz.zeroValue121
 t51:=Tryz.underlying22
 a51:=Tryz.isAgg22
 z51:=Tryz.sizeOf22
 v51:=Tryz.zeroValue22
 t146:=Tryz.underlying180
 a146:=Tryz.isAgg180
 z146:=Tryz.sizeOf180
 v146:=Tryz.zeroValue180
 g1:=by kernel_rfl }
open Go.RowKit Go.Lib in
def Tryz.strings_Count_one(s:ByteArray)(c:UInt8)(w:World):
  Calls Tryz.prog 35 #[.string s,.string ⟨#[c]⟩] w λe w'=>e=.returned (.int .i64 (Lib.countByte s.data.toList c))/\w'=w:=Any.strings_Count_one Tryz.asr s c w
end Go.Proofs
namespace Yp
open Go Go.Proofs
def Us{w:World}{X:Nat->Prop}(dg:∀b,X b->b<w.heap.size){t:ae}{x:t.aD}{v:Value}(h:aH (view w X) t x [v])(aC:ct t [v]=v):iu w X w [.im t] (x,()) v:=
 ⟨X,rfl,rfl,rfl,bU _,λ_ _=>rfl,λ_ _=>pk,dg,[v],⟨[v],[],by rw[aC],h,rfl⟩,rfl⟩
abbrev afH:eA:=⟨[.str,.str],[.im (.int .i64)],U6⟩
def aoP:fI Tryz.prog 35 afH:=by
 refine⟨⟨_,Tryz.func35,by kernel_rfl,by kernel_rfl⟩,?_⟩;intro w X x vs r dg _ dn ah;obtain⟨s,p,⟨⟩⟩:=x;obtain⟨c1,rL,rfl,O,c2,yq,rfl,R,rfl⟩:=dn;obtain rfl:=aH.ml.1 O;obtain rfl:=aH.ml.1 R;match p,ah with
 |[c],ah =>cases ah;refine(Tryz.strings_Count_one ⟨List.toArray s⟩ c w).mono ?_;rintro e w' ⟨rfl,rfl⟩;exact⟨_,rfl,Us dg (aH.ia.2 rfl) rfl⟩
abbrev afI:eA:=⟨[.str,.str],[.im (.int .i64)],NN⟩
def aoQ:fI Tryz.prog 36 afI:=by
 refine⟨⟨_,Tryz.func36,by kernel_rfl,by kernel_rfl⟩,?_⟩;intro w X x vs r dg _ dn ah;obtain⟨s,p,⟨⟩⟩:=x;obtain⟨c1,rL,rfl,O,c2,yq,rfl,R,rfl⟩:=dn;obtain rfl:=aH.ml.1 O;obtain rfl:=aH.ml.1 R;match p,ah with
 |[c],ah =>cases ah;refine(Tryz.strings_Index_one ⟨List.toArray s⟩ c w).mono ?_;rintro e w' ⟨rfl,rfl⟩;exact⟨_,rfl,Us dg (aH.ia.2 rfl) rfl⟩
def B2(l:List V):List ByteArray:=l.map λs=>⟨s.toArray⟩
def W0(l:List V):(B2 l).map (·.data.toList)=l:=by unfold B2;rw[Jw];exact List.map_id'' (λ_=>rfl) _
def Pm(l:List V):(B2 l).length=l.length:=ou ..
def ai3{j:Nat}{x:ByteArray}(h:(B2 l)[j]?=some x):∃y,l[j]?=some y/\x=⟨y.toArray⟩:=by unfold B2 at h;rw[JL]at h;obtain⟨y,hy,rfl⟩:=k4.1 h;exact⟨y,hy,rfl⟩
def ar5(l:List V)(p:V){b o:Nat}{w:World}(ai:∀(j:Nat) y,l[j]?=some y->w.cell? ⟨b,o+j,none⟩=some (.string ⟨y.toArray⟩))(bm:b<w.heap.size)(O:l.length<=140737488355328)(R:l.length<=cap)(af:(p.intercalate l).length<=140737488355328):
  Calls Tryz.prog 29 #[.slice (some ⟨b,o,none⟩) l.length cap,.string ⟨p.toArray⟩] w λe w'=>e=.returned (.string ⟨(p.intercalate l).toArray⟩)/\Go.RowKit.Below w.heap.size w w':=by
 have kx:=Tryz.strings_Join b o cap (B2 l) ⟨p.toArray⟩ w (λj x hx=>by obtain⟨y,hy,rfl⟩:=ai3 hx;exact ai j y hy) bm (by rw[Pm];exact O) (by rw[Pm];exact R) (by rw[W0];exact af);rw[Pm,W0]at kx;exact kx
abbrev afJ:eA:=⟨[.sl .str,.str],[.im .str],NO⟩
def aoR:fI Tryz.prog 29 afJ:=by
 refine⟨⟨_,Tryz.func29,by kernel_rfl,by kernel_rfl⟩,?_⟩;intro w X x vs r dg _ dn ah;obtain⟨l,p,⟨⟩⟩:=x;obtain⟨c1,rL,rfl,O,c2,yq,rfl,R,rfl⟩:=dn;obtain rfl:=aH.ml.1 R;obtain⟨a,cap,rfl,ld,i5,hl⟩:=aH.x_.1 O;replace ah:(if(l:List V).length<=140737488355328/\((p:V).intercalate l).length<=140737488355328 then some ((p:V).intercalate l,()) else none)=some r:=ah;split at ah
 .rename_i aj
  cases ah;rcases hl with hl|⟨b,o,c,el,fz,rfl,Y,cP,ai⟩
  .replace hl:(l:List V)=[]:=hl
   subst hl;refine(Tryz.strings_Join_none a cap ⟨List.toArray p⟩ w).mono ?_;rintro e w' ⟨rfl,rfl⟩;exact⟨_,rfl,Us dg (aH.ml.2 rfl) rfl⟩
  have RV:=jr.1 Y;have bm:b<w.heap.size:=by
   rcases yY b w.heap.size with h|h
   .exact h
   rw[Array.getElem?_eq_none h]at RV;cases RV.2
  refine(ar5 l p ?_ bm aj.1 ld aj.2).mono ?_
  .intro j y hy
   have an:j<(l:List V).length:=(mt.1 hy).1;have arl:=aH.ml.1 (ai j y hy);have hg:(cF c (o+j*ae.str.size) ae.str.size)[0]?=c[o+j*ae.str.size+0]?:=ux bP;rw[arl]at hg;rw[Fy RV.2];have e1:o+j*ae.str.size+0=o+j:=by show o+j*1+0=o+j;omega
   rw[e1]at hg;exact hg.symm
  rintro e w' ⟨rfl,aB⟩;exact⟨_,rfl,X,aB.os,aB.tape,aB.output,aB.size,aB.block,λ_ _=>pk,λk ap=>hU (dg k ap) aB.size,[_],⟨[_],[],rfl,aH.ml.2 rfl,rfl⟩,rfl⟩
 cases ah
abbrev afL:eA:=⟨[.int .i64],[.im .str],Em⟩
def ZA(hJ:fI Tryz.prog 31 ⟨[.int .i64,.int .i64],[.im .str,.im (.int .i64)],mD⟩):∀k,fI Tryz.prog 20 ⟨[.int .i64],[.im .str],u9 k⟩
 |0=>⟨⟨_,Tryz.func20,by kernel_rfl,by kernel_rfl⟩,λw X x vs r _ _ _ ah=>by
  replace ah:(none:Option (V×Unit))=some r:=by rw[<- ah];rfl
  cases ah⟩
 |k+1=>Dk (E:=e8 [(31,⟨[.int .i64,.int .i64],[.im .str,.im (.int .i64)],mD⟩),(20,⟨[.int .i64],[.im .str],u9 k⟩)] [] [] [] none false false 0) (n8 (az (az aV (ZA hJ k)) hJ) aW iD oW pO) Tryz.func20 5 (by kernel_rfl) (by kernel_rfl) (λx=>by kernel_rfl)
def aoS(hJ:fI Tryz.prog 31 ⟨[.int .i64,.int .i64],[.im .str,.im (.int .i64)],mD⟩):fI Tryz.prog 20 afL:=ZA hJ 20
end Yp
namespace Yp
open Go Go.Proofs Tryz
set_option maxRecDepth 100000
def alp:FK 35 afH:=aoP
def alq:FK 36 afI:=aoQ
abbrev yA:ae:=.int .u32
abbrev lX:ae:=.unit
abbrev ii:ae:=.int .u8
abbrev dX:ae:=.bool
abbrev c8:ae:=.sl ii
abbrev wm:ae:=.pair c8 (.pair c8 lX)
abbrev Bv:ae:=.pair dX (.pair (.sl wm) (.pair dX lX))
abbrev a7:ae:=.int .i64
abbrev Jk:ae:=.pair a7 (.pair a7 lX)
abbrev Bw:ae:=.pair a7 (.pair (.ar 16 (.int .u64)) lX)
abbrev uG:ae:=.pair a7 (.pair a7 (.pair (.ar 2 a7) (.pair a7 (.pair a7 wm))))
abbrev s_:ae:=.pair (.ar 4 dX) (.pair (.ar 4 (.pair c8 Jk)) (.pair (.ar 4 a7) (.pair a7 lX)))
abbrev k0:ae:=.pair dX (.pair a7 (.pair a7 (.pair a7 (.pair a7 (.pair c8 (.pair c8 (.pair a7 lX)))))))
abbrev ja:ae:=.pair a7 (.pair c8 lX)
abbrev On:ae:=.pair (.ar 8 yA) ja
abbrev Wb:ae:=.pair (.sl ja) (.pair (.fn [265]) lX)
abbrev EB:ae:=.pair a7 (.pair (.ar 2 a7) ja)
abbrev o':ae:=.pair a7 (.pair (.sl ja) lX)
abbrev kZ:ae:=.pair a7 (.pair a7 (.pair a7 ja))
abbrev p7:ae:=.pair ja (.pair ja (.pair ja Jk))
abbrev rS:ae:=.pair a7 (.pair c8 (.pair a7 (.pair wm (.pair a7 (.pair a7 (.pair a7 (.pair a7 (.pair a7 (.pair Bw (.pair p7 (.pair kZ (.pair a7 (.pair a7 (.pair (.sl c8) (.pair s_ (.pair (.sl ja) (.pair (.sl EB) (.pair (.ar 4 a7) lX))))))))))))))))))
abbrev wn:ae:=.pair (.ar 2 rS) (.pair Bv (.pair (.sl (.pair a7 ja)) (.pair (.sl (.pair a7 ja)) (.pair (.ar 2 (.sl EB)) lX))))
abbrev p6:ae:=.pair wn lX
abbrev cA:ae:=.pair rS (.pair Bv lX)
def als:FK 22 ⟨[.str,.str,a7,a7],[.ow (.str)],U7⟩:=bd (az (az aV alq) alp) aW func22 12
abbrev afK:eA:=⟨[.str,.str],[.ow (.str)],Eb⟩
def Ya:FK 13 afK:=bd (az aV als) aW func13 5
def Wu:fL:=h1 (e8 [] [] [] [] none false false 0) f14 1
def arB:IK 14 Wu:=je aV aW func14 1
def PK:FK 56 ⟨[(.int .i32)],[.im a7,.im dX],r9⟩:=bd aV aW func56 4
abbrev afh:eA:=⟨[.str],[.im a7,.im a7],r8⟩
def Kd:FK 37 afh:=bd (az aV PK) aW func37 9
def alw:FK 23 ⟨[.str,a7],[.im a7,.im dX],p1⟩:=bd (az aV Kd) aW func23 8
def aic:fL:=h1 (e8 [] [] [] [] none false false 0) f24 7
def arD:IK 24 aic:=je aV aW func24 7
def ajZ:FK 57 ⟨[ii],[.im ii,.im dX],KA⟩:=bd aV aW func57 4
def Xs:FK 38 ⟨[.str],[.ow ii,.im a7],Ch⟩:=bd (az aV ajZ) aW func38 10
def alu:FK 25 ⟨[.str],[.im c8,.im dX],El⟩:=bd (az aV Xs) aW func25 6
def aib:fL:=h1 (e8 [] [] [] [] none false false 0) f26 7
def arC:IK 26 aib:=je aV aW func26 7
abbrev afM:ik:=⟨kZ,[(.int .i32),.str],[.im dX],ym⟩
def aly:ij Tryz.prog 15 afM:=oE (az (az aV alu) alw) (fD (fD aW arC) arD) iD func15 15
def P8:FK 7 ⟨[.str],[.im kZ,.im dX],p0⟩:=Dk (E:=(e8 [(13,afK)] [(14,Wu)] [(15,afM)] [] none false false 0)) (n8 (az aV Ya) (fD aW arB) (hB iD aly) oW pO) func7 11 (by kernel_rfl) (by kernel_rfl) (λx =>by kernel_rfl)
def Fo:FK 31 ⟨[a7,a7],[.im (.str),.im a7],mD⟩:=bd aV aW func31 8
def Yd:FK 20 afL:=aoS Fo
def alr:FK 29 afJ:=aoR
def P9:FK 18 ⟨[(.sl a7)],[.im (.str)],A?⟩:=bd (az (az aV alr) Yd) aW func18 6
def akL:FK 27 ⟨[a7],[.im (.str)],MG⟩:=bd aV aW func27 4
def alx:FK 16 ⟨[rS],[.im (.str)],En⟩:=bd (az (az aV akL) P9) aW func16 3
def PJ:FK 28 ⟨[c8],[.im (.str)],Cg⟩:=bd aV aW func28 6
def alv:FK 17 ⟨[(.sl EB)],[.im (.str)],VE⟩:=bd (az (az aV PJ) P9) aW func17 7
def wR:FK 60 ⟨[a7,a7],[.im dX],qU⟩:=bd aV aW func60 5
def P5:FK 61 afE:=aoM
def ah8:fL:=h1 (e8 [] [] [] [] none false true 0) f62 8
def ab9:IK 62 ah8:=je aV aW func62 8
abbrev afO:ik:=⟨p6,[a7],[.im cA],Bs⟩
def Fv:ij Tryz.prog 67 afO:=oE aV aW iD func67 5
def P4:FK 64 ⟨[(.sl (.pair a7 ja))],[.cl (.pair a7 ja)],D_⟩:=bd aV aW func64 3
def aj1:FK 83 ⟨[rS],[.im rS,.im (.sl ja),.im (.sl EB)],QS⟩:=bd aV aW func83 7
def Km:FK 84 ⟨[(.sl EB)],[.cl EB],x'⟩:=bd aV aW func84 3
def XA:FK 135 ⟨[a7],[.im dX],GU⟩:=bd aV aW func135 3
def XB:FK 104 ⟨[s_,a7,.bool],[.im s_,.im a7],GV⟩:=bd (az aV XA) aW func104 8
def aku:FK 107 ⟨[s_,a7],[.im s_,.im a7],LH⟩:=bd (az aV XB) aW func107 6
def aj2:FK 86 ⟨[cA,a7],[.im cA,.im a7],QT⟩:=bd (az aV aku) aW func86 8
def OP:fL:=h1 (e8 [] [] [] [] none false false 0) f88 3
def SP:IK 88 OP:=je aV aW func88 3
def Wt:fL:=h1 (e8 [] [(88,OP)] [] [] none false false 0) f108 6
def aca:IK 108 Wt:=je aV (fD aW SP) func108 6
def ah7:fL:=h1 (e8 [] [(88,OP),(108,Wt)] [] [] none false false 0) f87 8
def ary:IK 87 ah7:=je aV (fD (fD aW aca) SP) func87 8
abbrev awC:ik:=⟨p6,[a7],[],Je⟩
def Yh:ij Tryz.prog 69 awC:=oE (az (az aV aj2) P5) (fD (fD (fD aW ary) aca) SP) (hB iD Fv) func69 7
abbrev awB:ik:=⟨p6,[],[],Oa⟩
def alG:ij Tryz.prog 85 awB:=oE aV aW (hB iD Yh) func85 3
abbrev afP:ik:=⟨p6,[a7,cA],[],yx⟩
def Ko:ij Tryz.prog 68 afP:=oE (az (az (az aV Km) aj1) P4) aW (hB iD alG) func68 13
def P6:FK 65 afF:=aoN
def aia:fL:=h1 (e8 [] [] [] [] none false false 0) f237 5
def arA:IK 237 aia:=je aV aW func237 5
def X':FK 175 ⟨[(.sl c8)],[.im c8],D'⟩:=bd aV (fD aW arA) func175 9
def akj:FK 176 ⟨[c8],[.im a7],Rg⟩:=bd aV aW func176 3
def aki:FK 136 ⟨[(.pair c8 Jk),c8],[.im (.pair c8 Jk),.ow c8],K6⟩:=bd (az (az (az aV akj) X') P6) aW func136 10
def akw:FK 102 ⟨[s_,a7,c8],[.im s_,.ow c8,.im a7],LI⟩:=bd (az (az aV aki) XA) aW func102 11
def alh:FK 144 afG:=aoO
def akS:FK 105 ⟨[(.sl c8)],[.im c8,.im (.sl c8),.im dX],MP⟩:=bd (az aV alh) aW func105 5
def PW:FK 148 ⟨[a7],[.im a7],AC⟩:=bd aV aW func148 3
abbrev afv:eA:=⟨[a7],[.im dX],uk⟩
def Ft:FK 109 afv:=bd (az aV PW) aW func109 3
def XJ:FK 145 ⟨[c8],[.im dX],Hm⟩:=bd aV aW func145 3
def akv:FK 196 ⟨[s_],[.im s_,.im a7,.im a7],SF⟩:=bd aV aW func196 7
def akc:FK 284 ⟨[a7,a7],[.im dX],Co⟩:=bd aV aW func284 5
def Xv:FK 252 ⟨[uG],[.im dX],FP⟩:=bd (az aV akc) aW func252 5
abbrev aff:eA:=⟨[a7,a7],[.ow ii,.im a7],pu⟩
def PI:FK 98 aff:=bd aV aW func98 8
def ahZ:fL:=h1 (e8 [(98,aff)] [] [] [] none false false 0) f253 8
def arq:IK 253 ahZ:=je (az aV PI) aW func253 8
abbrev afj:eA:=⟨[uG],[.ow ii,.im a7],w4⟩
def PL:FK 197 afj:=bd (az aV Xv) (fD aW arq) func197 6
def XT:FK 254 afx:=aoK PT
def alf:FK 255 ⟨[(.sl wm)],[.cl wm],NC⟩:=bd aV aW func255 3
def ajY:FK 256 afe:=aoJ
def XM:FK 236 ⟨[yA,a7],[.im yA],kC⟩:=bd aV aW func236 6
def ak4:FK 235 ⟨[c8],[.im (.ar 64 yA)],Nq⟩:=bd (az aV XM) aW func235 9
def X2:FK 174 ⟨[(.ar 8 yA),c8],[.im (.ar 8 yA),.im a7],Np⟩:=bd (az (az aV XM) ak4) aW func174 16
def X5:FK 132 ⟨[On],[.ow ii],A4⟩:=bd (az aV X2) aW func132 9
abbrev afC:eA:=⟨[On,c8],[.im On],x9⟩
def P0:FK 133 afC:=bd (az aV X2) aW func133 6
abbrev afB:eA:=⟨[],[.im On],Ip⟩
def X3:FK 134 afB:=bd aV aW func134 1
def X4:FK 99 ⟨[c8],[.ow ii],Iq⟩:=bd (az (az (az aV X3) P0) X5) aW func99 3
def akI:FK 231 ⟨[c8],[.ow ii],Th⟩:=bd (az aV X4) aW func231 4
def ah2:fL:=h1 (e8 [(133,afC),(134,afB)] [] [] [] none false false 0) f232 6
def art:IK 232 ah2:=je (az (az aV X3) P0) aW func232 6
def PU:FK 171 ⟨[c8,c8],[.ow ii],Df⟩:=bd (az (az (az aV akI) P0) X5) (fD aW art) func171 7
def XU:FK 257 ⟨[c8,c8],[.ow ii],DH⟩:=bd (az aV PU) aW func257 5
def akO:FK 198 ⟨[Bv,c8,c8],[.im Bv,.ow ii],MH⟩:=bd (az (az (az (az aV XU) ajY) alf) XT) aW func198 8
def Xu:FK 258 ⟨[uG],[.im dX],Cn⟩:=bd (az aV Xv) aW func258 3
def akb:FK 199 ⟨[uG],[.ow ii,.im a7],KP⟩:=bd (az (az aV Xu) PL) aW func199 6
def akh:FK 200 ⟨[c8],[.ow ii,.im a7],Rf⟩:=bd aV aW func200 4
def alg:FK 201 ⟨[(.sl ja)],[.cl ja],ND⟩:=bd aV aW func201 3
def XI:FK 146 ⟨[cA,uG,c8],[.im cA,.im a7],Hl⟩:=bd (az (az (az (az (az (az aV alg) akh) akb) akO) PL) akv) aW func146 17
def PS:FK 202 ⟨[a7,(.sl a7)],[.im dX],Ac⟩:=bd aV aW func202 7
abbrev afq:eA:=⟨[rS],[.im (.ar 2 a7)],nn⟩
def wQ:FK 147 afq:=bd (az aV PS) aW func147 4
abbrev afr:eA:=⟨[cA,c8],[.im cA,.im a7],np⟩
def y_:FK 106 afr:=bd (az (az (az (az aV wQ) XI) XJ) Ft) aW func106 9
def Kf:FK 82 ⟨[cA],[.im cA],j8⟩:=bd (az (az aV y_) akS) aW func82 8
abbrev afp:eA:=⟨[cA,a7],[.im cA],ke⟩
def wP:FK 143 afp:=bd aV aW func143 7
def XK:FK 227 ⟨[c8,.str,(.sl c8)],[.ow ii,.im a7],L9⟩:=bd (az aV PU) aW func227 11
abbrev afo:eA:=⟨[c8],[.ow ii],z?⟩
def XF:FK 204 afo:=bd (az aV XK) aW func204 5
abbrev afg:eA:=⟨[c8,a7,a7],[.im a7,.im a7,.im a7],la⟩
def Xr:FK 233 afg:=bd aV aW func233 12
def ah0:fL:=h1 (e8 [(233,afg)] [] [] [] none true false 0) f274 9
def arr:IK 274 ah0:=je (az aV Xr) aW func274 9
abbrev afk:eA:=⟨[c8],[.im uG,.im a7],KO⟩
def aka:FK 238 afk:=bd (az (az aV Xu) P6) (fD aW arr) func238 9
def X0:FK 225 ⟨[(.pair p7 lX)],[.im (.ar 3 ja)],M6⟩:=bd aV aW func225 3
abbrev afz:eA:=⟨[p7,a7],[.im c8,.im dX],H?⟩
def akZ:FK 239 afz:=bd (az aV X0) aW func239 8
abbrev afw:eA:=⟨[Bv,c8,c8,c8],[.im Bv,.im dX],DG⟩
def akM:FK 240 afw:=bd (az (az (az aV XU) XT) PT) aW func240 11
abbrev DX:nJ:=⟨cA,[c8],uG,[2,13,5],L1⟩
def akE:uI Tryz.prog 178 84 DX.ty DX.args [.im DX.rt] DX.fn:=as1 (E:=(e8 [(109,afv),(147,afq),(197,afj),(204,afo),(238,afk),(239,afz),(240,afw)] [] [] [] (some (180,84)) false false 0)) (s:=DX) (n8 (az (az (az (az (az (az (az aV akM) akZ) aka) XF) PL) wQ) Ft) aW iD oW ac2) rfl func178 14 (by kernel_rfl) (by kernel_rfl) (λx =>by kernel_rfl)
def Ye:FK 276 ⟨[a7],[.im a7,.im (.int .u64)],I?⟩:=bd aV aW func276 4
def alB:FK 275 ⟨[Bw,a7],[.im dX],N_⟩:=bd (az aV Ye) aW func275 7
def alz:FK 241 ⟨[Bw,a7],[.im dX],V0⟩:=bd (az aV alB) aW func241 5
def alC:FK 242 ⟨[Bw,a7,.bool],[.im Bw],yu⟩:=bd (az aV Ye) aW func242 9
abbrev afN:eA:=⟨[Bw,a7],[.im Bw,.im a7],Ev⟩
def alA:FK 179 afN:=bd (az (az aV alC) alz) aW func179 7
def XZ:FK 226 ⟨[ja],[.im dX],Ib⟩:=bd aV aW func226 3
abbrev afA:eA:=⟨[p7],[.im p7,.im a7],AQ⟩
def XY:FK 181 afA:=bd (az aV XZ) aW func181 5
def akD:FK 137 ⟨[cA,c8],[.im cA,.im uG,.im a7],L0⟩:=as0 (E:=(e8 [(179,afN),(181,afA)] [] [] [(178,DX)] (some (180,84)) false false 0)) (EC:=(e8 [(143,afp)] [] [] [] none false false 65536)) (n8 (az (az aV XY) alA) aW iD (as2 akE) ac2) (n8 (az aV wP) aW iD oW pO) rfl func137 func177 9 3 (by kernel_rfl) (by kernel_rfl) (by kernel_rfl) (λc A B q h ac=>by cases h;cases ac;rfl) (λx =>by kernel_rfl)
def ah4:fL:=h1 (e8 [] [] [] [] none false false 0) f164 3
def arv:IK 164 ah4:=je aV aW func164 3
def B8:FK 121 ⟨[a7,a7],[.im a7,.im dX],qL⟩:=bd (az aV PW) (fD aW arv) func121 9
def P3:FK 131 ⟨[cA,a7],[.im cA],s0⟩:=bd (az aV B8) aW func131 5
def X9:FK 182 ⟨[cA,a7],[.im cA],Iv⟩:=bd (az (az aV wQ) Km) aW func182 5
def ak7:FK 138 ⟨[cA],[.im cA],Nt⟩:=bd (az (az aV X9) P3) aW func138 3
def Xq:FK 208 ⟨[c8,a7,a7],[.im (.str),.im a7,.im a7],w1⟩:=bd (az (az aV PK) PJ) aW func208 15
def PQ:FK 259 ⟨[a7,a7],[.im a7],tZ⟩:=bd aV aW func259 5
def Kh:FK 209 ⟨[a7],[.im dX],z2⟩:=bd (az aV PQ) aW func209 4
def ajV:FK 210 Na:=aoI Xo
def akf:FK 288 ⟨[a7],[.im a7],FZ⟩:=bd aV aW func288 3
def ON:fL:=h1 (e8 [] [] [] [] none false false 0) f289 3
def SN:IK 289 ON:=je aV aW func289 3
def akg:FK 261 ⟨[a7,a7],[.im a7],zk⟩:=bd (az aV akf) (fD aW SN) func261 5
def Fp:FK 211 ⟨[a7],[.im Jk,.im dX],u7⟩:=bd (az aV akg) aW func211 6
def PM:FK 262 ⟨[a7],[.im a7],iy⟩:=bd aV aW func262 3
def Wq:fL:=h1 (e8 [] [(289,ON)] [] [] none false false 0) f290 7
def ab6:IK 290 Wq:=je aV (fD aW SN) func290 7
def ah1:fL:=h1 (e8 [] [(289,ON),(290,Wq)] [] [] none false false 0) f264 3
def ars:IK 264 ah1:=je aV (fD (fD aW ab6) SN) func264 3
def Ke:FK 215 ⟨[a7,c8],[.im dX],u6⟩:=bd (az (az aV PM) Fp) (fD (fD aW ars) ab6) func215 8
def akd:FK 212 ⟨[a7,c8,a7],[.ow ii,.im a7,.im a7],KX⟩:=bd (az (az (az (az (az aV PM) Ke) Fp) Xq) Kd) aW func212 20
abbrev afm:eA:=⟨[c8],[.im o',.im a7],C5⟩
def PN:FK 157 afm:=bd (az (az (az (az (az (az aV akd) Fp) ajV) Kh) Xq) Kd) aW func157 20
def Fq:FK 265 ⟨[ja],[.im a7],LW⟩:=bd aV aW func265 3
def XD:FK 216 ⟨[o'],[.im Wb],LV⟩:=bd (az aV Fq) aW func216 3
def XE:FK 263 ⟨[Wb,a7],[.im a7,.im dX],Ha⟩:=bd (az aV Fq) aW func263 9
abbrev afl:eA:=⟨[o',a7],[.im c8,.im dX],qz⟩
def Kg:FK 214 afl:=bd (az (az (az aV Fq) XE) XD) aW func214 8
def XQ:FK 292 ⟨[k0],[.im dX],Ty⟩:=bd aV aW func292 3
def PV:FK 294 ⟨[k0],[.im dX],Mo⟩:=bd aV aW func294 3
def XP:FK 293 ⟨[k0],[.im dX],Tx⟩:=bd (az aV PV) aW func293 4
def XS:FK 295 ⟨[k0],[.im dX],TA⟩:=bd aV aW func295 3
def akK:FK 270 ⟨[k0],[.im (.fn [292,293,294,295])],Tz⟩:=bd (az (az (az (az aV XS) PV) XP) XQ) aW func270 3
def XO:FK 228 ⟨[k0],[.im dX],HG⟩:=bd (az (az (az (az (az aV XS) PV) XP) XQ) akK) aW func228 3
def ah9:fL:=h1 (e8 [] [] [] [] none false false 0) f291 5
def arz:IK 291 ah9:=je aV aW func291 5
def ali:FK 266 ⟨[(.sl (.sl ja))],[.ow ja],NE⟩:=bd aV (fD aW arz) func266 9
def akC:FK 217 ⟨[Wb,ja],[.ow ja],SV⟩:=bd (az (az (az aV Fq) ali) XE) aW func217 8
abbrev afn:eA:=⟨[o',a7,c8],[.im o',.im a7],jS⟩
def PO:FK 160 afn:=bd (az (az (az (az (az aV Fq) akC) XD) Ke) Fp) aW func160 10
def Wr:fL:=h1 (e8 [(160,afn)] [] [] [] none false false 0) f271 4
def ab7:IK 271 Wr:=je (az aV PO) aW func271 4
def akJ:FK 272 ⟨[a7,a7],[.ow ii],qG⟩:=bd (az aV Fo) aW func272 7
def XR:FK 229 ⟨[k0],[.im o'],Ds⟩:=bd (az (az aV akJ) PJ) (fD aW ab7) func229 5
def ah3:fL:=h1 (e8 [(37,afh),(214,afl)] [(271,Wr)] [] [] none false false 0) f243 7
def aru:IK 243 ah3:=je (az (az aV Kg) Kd) (fD aW ab7) func243 7
def PH:FK 234 ⟨[c8,c8],[.im dX],B7⟩:=bd aV aW func234 5
def XC:FK 278 ⟨[ja,ja],[.im dX],LT⟩:=bd (az aV PH) aW func278 5
def alj:FK 277 ⟨[(.sl ja),(.sl ja),(.fn [278])],[.im dX],NF⟩:=bd (az aV XC) aW func277 10
def akB:FK 244 ⟨[o',o'],[.im dX],G'⟩:=bd (az (az aV XC) alj) aW func244 5
abbrev aft:eA:=⟨[c8],[.im k0,.im a7],Dr⟩
def XN:FK 183 aft:=bd (az (az (az (az (az (az aV akB) XR) XO) Kg) PN) Xs) (fD aW aru) func183 10
def ahY:fL:=h1 (e8 [(157,afm),(183,aft)] [] [] [] none false false 0) f139 7
def arp:IK 139 ahY:=je (az (az aV XN) PN) aW func139 7
def PZ:FK 122 ⟨[p7],[.im p7],Ia⟩:=bd aV aW func122 3
def Kj:FK 124 ⟨[cA],[.im (.pair (.pair rS lX) (.pair cA lX))],x2⟩:=bd aV aW func124 3
def XG:FK 166 ⟨[c8,(.ar 2 a7),a7,c8],[.ow ii],Aa⟩:=bd (az (az (az aV XK) PS) PI) aW func166 17
def XW:FK 125 ⟨[(.pair rS lX),a7,c8],[.ow ii],AL⟩:=bd (az (az aV XG) wQ) aW func125 7
def X1:FK 165 ⟨[(.pair p7 lX)],[.im dX],M7⟩:=bd (az (az aV XZ) X0) aW func165 5
def ak3:FK 167 ⟨[ja],[.im dX],M5⟩:=bd aV aW func167 3
def XX:FK 126 ⟨[p7,a7,c8],[.im p7,.im a7],DR⟩:=bd (az (az aV ak3) X1) aW func126 10
def XL:FK 128 ⟨[c8],[.ow ii],Hu⟩:=bd (az aV PU) aW func128 3
def PX:FK 205 ⟨[(.pair rS lX)],[.im dX],v1⟩:=bd aV aW func205 3
def PY:FK 206 ⟨[cA],[.im cA],AM⟩:=bd (az aV B8) aW func206 3
def akA:FK 218 ⟨[o'],[.im dX],LS⟩:=bd (az (az aV Ke) Kh) aW func218 6
def Xp:FK 219 ⟨[.str],[.ow ii,.im a7],tC⟩:=bd (az aV PK) aW func219 10
def ajW:FK 267 ⟨[(.sl a7)],[.im dX],J9⟩:=bd aV aW func267 6
def ajX:FK 220 ⟨[(.sl a7)],[.ow ii,.im a7],J_⟩:=bd (az (az aV Xo) ajW) aW func220 9
def ake:FK 221 ⟨[a7,c8],[.ow ii,.im a7],FY⟩:=bd (az (az (az (az (az aV PM) Xp) Ke) Fp) Fo) aW func221 14
def PP:FK 161 ⟨[o'],[.ow ii,.im a7],z7⟩:=bd (az (az (az (az (az aV ake) ajX) Xp) akA) Fo) aW func161 17
abbrev afu:eA:=⟨[k0],[.ow ii,.im a7],pP⟩
def Fr:FK 169 afu:=bd (az (az (az aV XR) XO) PP) aW func169 4
abbrev afs:eA:=⟨[k0,a7],[.im k0,.im a7],qF⟩
def Ki:FK 246 afs:=bd aV aW func246 6
def ah5:fL:=h1 (e8 [(106,afr),(169,afu),(246,afs)] [] [] [] none false false 0) f245 9
def arw:IK 245 ah5:=je (az (az (az aV Ki) Fr) y_) aW func245 9
def akY:FK 184 ⟨[cA,k0],[.im cA],MZ⟩:=bd (az (az (az (az (az (az (az (az (az aV PT) PY) PX) wP) XL) XX) XW) Kj) PZ) (fD aW arw) func184 10
def PR:FK 153 ⟨[cA,a7,c8],[.im cA,.im a7],C?⟩:=bd (az (az (az (az (az aV XF) PS) wQ) XI) XJ) aW func153 9
def ajS:FK 168 ⟨[a7],[.im a7],J3⟩:=bd aV aW func168 3
def ajQ:FK 273 ⟨[a7],[.im dX],J1⟩:=bd aV aW func273 3
def ajU:FK 230 ⟨[a7,a7,c8],[.im dX],J4⟩:=bd (az aV ajQ) aW func230 7
def ajP:FK 170 ⟨[a7,a7,c8],[.im kZ,.im a7],J0⟩:=bd (az aV ajU) aW func170 8
def Kk:FK 127 ⟨[cA,k0],[.im cA],A5⟩:=bd (az (az (az (az (az aV ajP) Fr) ajS) PR) y_) aW func127 9
def XV:FK 154 ⟨[cA],[.im cA],H6⟩:=bd (az (az (az (az aV PY) PX) Kj) PZ) aW func154 3
def ajR:FK 203 ⟨[kZ,kZ],[.im dX],Ph⟩:=bd (az aV PH) aW func203 5
def Xn:FK 149 ⟨[kZ],[.im dX],Ff⟩:=bd (az aV ajR) aW func149 3
def Kc:FK 191 ⟨[kZ,a7,a7],[.im dX],wM⟩:=bd (az aV Xn) aW func191 7
def akW:FK 185 ⟨[cA,k0],[.im cA],MX⟩:=bd (az (az (az (az (az (az (az (az aV PY) PX) Kc) XY) XV) wP) Kk) Kj) aW func185 5
def akm:FK 186 ⟨[cA,k0],[.im cA],Rj⟩:=bd (az (az (az aV Ki) Fr) y_) aW func186 9
def Xx:FK 207 ⟨[cA],[.im cA],Cy⟩:=bd (az aV B8) aW func207 3
def akk:FK 187 ⟨[cA,k0],[.im cA],K9⟩:=bd (az (az (az (az aV Xx) Kc) XN) wP) aW func187 7
def P2:FK 189 ⟨[cA],[.im cA],sZ⟩:=bd (az aV wP) aW func189 3
def XH:FK 129 ⟨[rS,a7],[.im rS],Ab⟩:=bd (az (az (az aV wQ) Ft) Km) aW func129 5
abbrev afD:eA:=⟨[cA,a7],[.im cA],sY⟩
def Fu:FK 119 afD:=bd (az aV XH) aW func119 5
def Jz:fL:=h1 (e8 [(119,afD)] [] [] [] none false false 0) f279 3
def LM:IK 279 Jz:=je (az aV Fu) aW func279 3
abbrev UG:eA:=⟨[cA,k0],[.im cA],Iw⟩
def P1:FK 280 UG:=bd (az (az (az aV Ki) Fr) y_) aW func280 9
def OO:fL:=h1 (e8 [] [(279,Jz)] [] [] none false false 0) f281 3
def SO:IK 281 OO:=je aV (fD aW LM) func281 3
def Ws:fL:=h1 (e8 [(280,UG)] [(279,Jz),(281,OO)] [] [] none false false 0) f282 5
def ab8:IK 282 Ws:=je (az aV P1) (fD (fD aW SO) LM) func282 5
def ah6:fL:=h1 (e8 [(280,UG)] [(279,Jz),(281,OO),(282,Ws)] [] [] none false false 0) f248 2
def arx:IK 248 ah6:=je (az aV P1) (fD (fD (fD aW ab8) SO) LM) func248 2
def ala:FK 188 ⟨[cA,k0],[.im cA],Nv⟩:=bd (az (az (az aV P1) Kc) P2) (fD (fD (fD (fD aW arx) ab8) SO) LM) func188 7
def aj9:FK 140 ⟨[cA,k0],[.im cA],FO⟩:=bd (az (az (az (az (az aV ala) akk) akm) akW) akY) aW func140 5
def X6:FK 96 ⟨[cA],[.im cA],D6⟩:=bd (az aV XH) aW func96 4
def P7:FK 72 ⟨[a7],[.ow ii,.im a7],ID⟩:=bd (az (az aV X4) PI) aW func72 6
def alk:FK 172 ⟨[c8],[.im a7,.im dX],IC⟩:=bd (az (az (az aV PH) Xr) P7) aW func172 8
def alo:FK 173 ⟨[a7,a7,.bool,.bool],[.im a7,.im dX],UU⟩:=bd aV aW func173 10
def X?: FK 130 ⟨[wm],[.im a7,.im a7,.im dX],IB⟩:=bd (az (az aV alo) alk) aW func130 11
def aln:FK 163 ⟨[wm,a7],[.im wm,.im a7,.im a7],NI⟩:=bd (az (az (az aV X') X?) P7) aW func163 13
def X8:FK 118 ⟨[cA],[.im cA,.im a7,.im a7],Iu⟩:=bd (az (az aV aln) X6) aW func118 8
def ale:FK 249 ⟨[cA,k0,a7],[.im cA],Iy⟩:=bd (az (az (az aV Ki) Fr) PR) aW func249 11
def ak0:FK 283 ⟨[c8],[.im p7,.im a7],M2⟩:=bd aV aW func283 4
def X_:FK 250 ⟨[cA,a7,a7],[.im cA],D9⟩:=bd (az (az (az aV ak0) XG) wQ) aW func250 7
def ald:FK 190 ⟨[cA,k0,a7],[.im cA],Nz⟩:=bd (az (az (az (az (az (az aV X_) ale) P2) Fu) X8) Ft) aW func190 10
def Kl:FK 120 ⟨[cA,a7],[.im cA],D7⟩:=bd (az aV Kk) aW func120 5
def alc:FK 192 ⟨[cA,a7],[.im cA],Ny⟩:=bd (az (az (az (az aV X_) X9) P3) Kl) aW func192 5
def ak9:FK 141 ⟨[cA,uG,k0],[.im cA],Is⟩:=bd (az (az (az (az aV alc) Kc) ald) P2) aW func141 9
def Fs:FK 115 ⟨[a7],[.im dX],xS⟩:=bd (az aV PW) aW func115 3
def Xw:FK 117 ⟨[cA,a7,a7,c8],[.im cA],F5⟩:=bd (az (az aV wQ) Km) aW func117 9
def aky:FK 213 ⟨[a7],[.im a7],G_⟩:=bd (az (az aV PQ) Kh) aW func213 3
def Xz:FK 158 ⟨[o'],[.im dX],F6⟩:=bd (az aV aky) aW func158 3
def akt:FK 193 ⟨[.bool,a7,a7],[.im a7],Rm⟩:=bd aV aW func193 7
def Xy:FK 159 ⟨[o'],[.im dX],Cz⟩:=bd (az aV Kg) aW func159 5
def aks:FK 194 ⟨[o'],[.im dX],Lc⟩:=bd (az aV Xy) aW func194 4
def akz:FK 251 ⟨[a7],[.im a7,.im dX],LR⟩:=bd (az (az aV PQ) Kh) aW func251 5
def akr:FK 195 ⟨[cA,o'],[.im cA],Lb⟩:=bd (az (az (az (az (az (az aV akz) Kg) PP) PO) wP) y_) aW func195 13
def akq:FK 142 ⟨[cA,uG,o'],[.im cA],F4⟩:=bd (az (az (az (az (az (az (az aV akr) aks) akt) Xz) wP) Xw) Fs) aW func142 7
def aj4:FK 103 ⟨[cA,c8],[.im cA],FM⟩:=bd (az (az (az (az (az (az (az aV wP) akq) ak9) aj9) ak7) akD) Kf) (fD aW arp) func103 10
def aj0:FK 80 ⟨[cA,a7,c8],[.im cA],KL⟩:=bd (az (az aV aj4) akw) aW func80 12
abbrev awA:ik:=⟨p6,[a7,a7,c8],[],Ew⟩
def Yg:ij Tryz.prog 63 awA:=oE (az aV aj0) aW (hB (hB iD Ko) Fv) func63 8
abbrev Ii:ik:=⟨p6,[kZ],[.im a7],Jf⟩
def P_:ij Tryz.prog 42 Ii:=oE (az (az aV P5) wR) (fD aW ab9) (hB iD Yg) func42 7
abbrev Ng:ik:=⟨p6,[kZ],[.im a7],Od⟩
def Yl:ij Tryz.prog 43 Ng:=oE (az (az aV P5) wR) (fD aW ab9) iD func43 5
abbrev Nb:ik:=⟨p6,[kZ],[.im a7],N?⟩
def Yf:ij Tryz.prog 44 Nb:=oE (az (az aV P4) wR) aW iD func44 5
abbrev Nj:ik:=⟨p6,[kZ],[.im a7],Og⟩
def Yo:ij Tryz.prog 45 Nj:=oE (az (az (az aV P6) P4) wR) aW iD func45 6
abbrev Nh:ik:=⟨p6,[kZ],[.im a7],Oe⟩
def Ym:ij Tryz.prog 46 Nh:=oE (az aV wR) aW (hB iD Yg) func46 5
def akx:FK 81 ⟨[s_,a7],[.im s_,.im a7],LJ⟩:=bd (az aV XB) aW func81 7
def aj6:FK 66 ⟨[cA,a7],[.im cA,.im a7],KN⟩:=bd (az (az aV Kf) akx) aW func66 8
abbrev Ni:ik:=⟨p6,[kZ],[.im a7],Of⟩
def Yn:ij Tryz.prog 47 Ni:=oE (az (az aV aj6) wR) aW (hB (hB iD Ko) Fv) func47 8
abbrev Nd:ik:=⟨p6,[kZ],[.im a7],Oc⟩
def Yj:ij Tryz.prog 48 Nd:=oE (az aV wR) aW (hB iD Yh) func48 5
def X7:FK 91 ⟨[cA],[.im cA,.im a7],It⟩:=bd (az (az (az aV Kl) Fu) X8) aW func91 6
def ak2:FK 110 ⟨[p7],[.im p7],M4⟩:=bd aV aW func110 3
def OM:fL:=h1 (e8 [] [] [] [] none false false 0) f151 2
def SM:IK 151 OM:=je aV aW func151 2
def Wp:fL:=h1 (e8 [] [(151,OM)] [] [] none false false 0) f152 2
def ab5:IK 152 Wp:=je aV (fD aW SM) func152 2
def ahX:fL:=h1 (e8 [] [(151,OM),(152,Wp)] [] [] none false false 0) f150 4
def aro:IK 150 ahX:=je aV (fD (fD aW ab5) SM) func150 4
def ajT:FK 111 ⟨[kZ],[.im kZ,.im dX,.im dX],B1⟩:=bd (az aV Xn) (fD (fD (fD aW aro) ab5) SM) func111 8
def aj7:FK 112 ⟨[cA,kZ],[.im cA],Cl⟩:=bd (az (az aV PR) y_) aW func112 5
def akn:FK 155 ⟨[cA],[.im cA],K'⟩:=bd (az aV Xx) aW func155 3
def ak8:FK 156 ⟨[cA],[.im cA],Nu⟩:=bd (az aV Fu) aW func156 3
def aj8:FK 113 ⟨[cA],[.im cA],Cm⟩:=bd (az (az (az aV ak8) akn) XV) aW func113 3
abbrev afi:eA:=⟨[cA],[.im cA],FN⟩
def Xt:FK 89 afi:=bd (az (az (az (az (az (az (az aV aj8) aj7) ajT) ak2) Ft) X7) Kf) aW func89 6
def alD:FK 70 ⟨[wn,a7],[.im wn],N'⟩:=Dk (E:=(e8 [(89,afi)] [] [(42,Ii),(67,afO),(68,afP)] [] none false false 0)) (n8 (az aV Xt) aW (hB (hB (hB iD Ko) Fv) P_) oW pO) func70 8 (by kernel_rfl) (by kernel_rfl) (λx =>by kernel_rfl)
abbrev Nc:ik:=⟨p6,[kZ],[.im a7],Ob⟩
def Yi:ij Tryz.prog 49 Nc:=oE (az aV alD) aW iD func49 5
def ako:FK 114 ⟨[c8,a7],[.ow ii,.im a7],K?⟩:=bd (az (az (az (az (az (az aV PP) PO) Xy) Xz) PN) Fo) aW func114 12
def akQ:FK 162 afy:=aoL
def akR:FK 116 ⟨[(.sl c8),c8,a7],[.im (.sl c8),.im a7],MO⟩:=bd (az aV akQ) aW func116 11
def akp:FK 90 ⟨[cA,c8],[.im cA,.im a7],La⟩:=bd (az (az (az (az (az aV Xw) akR) Fs) ako) Kf) aW func90 9
def alb:FK 92 ⟨[cA],[.im cA,.im a7],Nw⟩:=bd (az (az (az (az aV PZ) B8) Kl) Fu) aW func92 6
def ak6:FK 93 ⟨[cA],[.im cA,.im a7],Ns⟩:=bd (az (az aV Kl) Fs) aW func93 4
def ak1:FK 123 ⟨[p7],[.im a7,.im a7],M3⟩:=bd (az aV X1) aW func123 4
def akX:FK 94 ⟨[cA,c8],[.im cA,.im a7],MY⟩:=bd (az (az (az (az (az (az (az (az aV XL) Kk) XX) XW) Kj) ak1) B8) Fs) aW func94 9
def akl:FK 95 ⟨[cA,a7],[.im cA,.im a7],K_⟩:=bd (az (az (az aV Kk) B8) Fs) aW func95 6
def ak5:FK 97 ⟨[cA],[.im cA],Nr⟩:=bd (az (az aV P3) X?) aW func97 6
def aj3:FK 71 ⟨[cA,kZ],[.im cA,.im a7],KM⟩:=bd (az (az (az (az (az (az (az (az (az aV ak5) X6) akl) akX) ak6) alb) X7) akp) Xt) aW func71 6
abbrev Nf:ik:=⟨p6,[kZ],[.im a7],p3⟩
def Yk:ij Tryz.prog 50 Nf:=oE (az (az aV aj3) wR) aW (hB (hB iD Ko) Fv) func50 7
def Wv:fL:=h1 (e8 [] [] [(42,Ii),(43,Ng),(44,Nb),(45,Nj),(46,Nh),(47,Ni),(48,Nd),(49,Nc),(50,Nf)] [] none true false 0) f30 4
def arE:IK 30 Wv:=acU (E:=(e8 [] [] [(42,Ii),(43,Ng),(44,Nb),(45,Nj),(46,Nh),(47,Ni),(48,Nd),(49,Nc),(50,Nf)] [] none true false 0)) (n8 aV aW (hB (hB (hB (hB (hB (hB (hB (hB (hB iD Yk) Yi) Yj) Yn) Ym) Yo) Yf) Yl) P_) oW pO) func30 4
def alF:FK 19 ⟨[wn,kZ],[.im wn,.im a7],Jd⟩:=Dk (E:=(e8 [] [(30,Wv)] [(42,Ii),(43,Ng),(44,Nb),(45,Nj),(46,Nh),(47,Ni),(48,Nd),(49,Nc),(50,Nf)] [] none false false 0)) (n8 aV (fD aW arE) (hB (hB (hB (hB (hB (hB (hB (hB (hB iD Yk) Yi) Yj) Yn) Ym) Yo) Yf) Yl) P_) oW pO) func19 10 (by kernel_rfl) (by kernel_rfl) (λx =>by kernel_rfl)
def Yb:FK 9 ⟨[wn,.str],[.im wn,.im (.str)],qS⟩:=bd (az (az (az (az (az (az aV Yd) alF) P9) alv) alx) P8) aW func9 10
def alm:FK 51 ⟨[],[.im wm],NH⟩:=bd (az aV P7) aW func51 3
def aj5:FK 32 ⟨[a7,c8],[.im rS,.im a7],QU⟩:=bd (az aV alm) aW func32 6
def akN:FK 33 ⟨[.bool],[.im Bv],aem⟩:=bd aV aW func33 3
def alE:FK 21 ⟨[c8,.bool],[.im wn,.im a7],Jc⟩:=bd (az (az aV akN) aj5) aW func21 10
def Yc:FK 10 ⟨[],[.im wn],Ek⟩:=bd (az aV alE) aW func10 3
def alt:FK 11 ⟨[.str],[.im (.str)],I2⟩:=bd (az (az (az aV Ya) Yc) Yb) aW func11 9
def akH:FK 4 ⟨[],[.im dX],Ho⟩:=bd (az (az (az (az aV alt) Yc) Yb) P8) aW func4 9
def akG:FK 5 ⟨[a7],[.im (.str)],vH⟩:=bd aV aW func5 4
def akV:FK 12 ⟨[ii],[.im ii],H4⟩:=bd aV aW func12 3
def akT:FK 6 ⟨[c8],[.im (.str)],DO⟩:=bd (az aV akV) aW func6 5
def akU:FK 8 ⟨[c8,c8],[.im dX],MV⟩:=bd aV aW func8 5
def akF:FK 3 ⟨[(.pair ii (.pair dX (.pair yA (.pair yA (.pair c8 lX)))))],[.im dX],L4⟩:=bd (az (az (az (az (az aV akU) P8) akT) akG) akH) aW func3 21
end Yp
namespace Yp
open Go
set_option maxRecDepth 100000
set_option maxHeartbeats 2000000
def OI:=@UInt32.toNat_or
def kX(x n:UInt32):UInt32:=u32 (gM .u32 (aS (u32 (fr .u32 (aS x) (aS n)))) (aS (u32 (ho .u32 (aS x) (aS (u32 (bi (aS (u32 32)) (aS n))))))))
def aub(a b:UInt32):u32 (gM .u32 (aS a) (aS b))=u32 (gM .u32 (aS b) (aS a)):=by rw[HS,HS,UInt32.or_comm]
def uu{x:UInt32}{k:Int}{n:UInt32}(O:cB (u64 (iI .u64 (cB (u64 k)) (cB (u64 31))))=aS (u32 (bi (aS (u32 32)) (aS n))))(R:cB (u64 (bi (cB (u64 32)) (cB (u64 (iI .u64 (cB (u64 k)) (cB (u64 31)))))))=aS n):
  kC (x,k,())=some (kX x n,()):=by
 unfold kC kX;rw[aub,R,O]
def gt(x:UInt32):kC (x, -2,())=some (kX x (u32 2),()):=uu rfl rfl
def sQ(x:UInt32):kC (x, -13,())=some (kX x (u32 13),()):=uu rfl rfl
def Ub(x:UInt32):kC (x, -22,())=some (kX x (u32 22),()):=uu rfl rfl
def Uc(x:UInt32):kC (x, -6,())=some (kX x (u32 6),()):=uu rfl rfl
def avd(x:UInt32):kC (x, -11,())=some (kX x (u32 11),()):=uu rfl rfl
def avh(x:UInt32):kC (x, -25,())=some (kX x (u32 25),()):=uu rfl rfl
def aeA(x:UInt32):kC (x, -7,())=some (kX x (u32 7),()):=uu rfl rfl
def avf(x:UInt32):kC (x, -18,())=some (kX x (u32 18),()):=uu rfl rfl
def ave(x:UInt32):kC (x, -17,())=some (kX x (u32 17),()):=uu rfl rfl
def avg(x:UInt32):kC (x, -19,())=some (kX x (u32 19),()):=uu iL iL
def V2(a b c d:UInt8):UInt32:=
 u32 (av (aS (u32 (av (aS (u32 (av (aS (u32 (e? (aS (u32 (aI a))) (aS (u32 16777216))))) (aS (u32 (e? (aS (u32 (aI b))) (aS (u32 65536)))))))) (aS (u32 (e? (aS (u32 (aI c))) (aS (u32 256)))))))) (aS (u32 (aI d))))
def aht(a b c d:UInt8):UInt32:=
 u32 (gM .u32 (aS (u32 (gM .u32 (aS (u32 (gM .u32 (aS (u32 (ho .u32 (aS (u32 (aI a))) (cB (u64 24))))) (aS (u32 (ho .u32 (aS (u32 (aI b))) (cB (u64 16)))))))) (aS (u32 (ho .u32 (aS (u32 (aI c))) (cB (u64 8)))))))) (aS (u32 (aI d))))
def ud(h:0<=a/\a<4294967296):aS (u32 a)=a:=by
 show(((BitVec.ofNat 32 ((a%2^32).toNat)).toNat:Nat):Int)=a
 grind
def Eh{a:Nat}(h:a<4294967296):(u32 (a:Int)).toNat=a:=by have:=ud (a:=(a:Int)) J;unfold aS at this;omega
def ayu(a b c d:UInt8):aht a b c d=V2 a b c d:=by
 have bu:=a.toNat_lt;have Y:=b.toNat_lt;have ai:=c.toNat_lt;have aF:=d.toNat_lt;unfold aht V2;have e1:∀x:UInt8,aS (u32 (aI x))=(x.toNat:Int):=λx=>by have:=x.toNat_lt;exact ud (a:=(x.toNat:Int)) J
 have bp:∀(x:UInt8),ho .u32 (aS (u32 (aI x))) (cB (u64 24))=((x.toNat*16777216:Nat):Int):=λx=>by rw[e1];show(x.toNat:Int)*2^24=_;omega
 have ax:∀(x:UInt8),ho .u32 (aS (u32 (aI x))) (cB (u64 16))=((x.toNat*65536:Nat):Int):=λx=>by rw[e1];show(x.toNat:Int)*2^16=_;omega
 have d5:∀(x:UInt8),ho .u32 (aS (u32 (aI x))) (cB (u64 8))=((x.toNat*256:Nat):Int):=λx=>by rw[e1];show(x.toNat:Int)*2^8=_;omega
 have bD:∀(x:UInt8),e? (aS (u32 (aI x))) (aS (u32 16777216))=((x.toNat*16777216:Nat):Int):=λx=>by rw[e1,ud bP];show(x.toNat:Int)*16777216=_;omega
 have cn:∀(x:UInt8),e? (aS (u32 (aI x))) (aS (u32 65536))=((x.toNat*65536:Nat):Int):=λx=>by rw[e1,ud bP];show(x.toNat:Int)*65536=_;omega
 have gJ:∀(x:UInt8),e? (aS (u32 (aI x))) (aS (u32 256))=((x.toNat*256:Nat):Int):=λx=>by rw[e1,ud bP];show(x.toNat:Int)*256=_;omega
 rw[bp,ax,d5,bD,cn,gJ,HS,HS,HS];have k?:(u32 (aI d)).toNat=d.toNat:=Eh J;apply UInt32.toNat_inj.1;rw[OI,OI,OI,Eh J,Eh J,Eh J,k?];have TG:(c.toNat*256)|||d.toNat=c.toNat*256+d.toNat:=by have:=JC (i:=8) (b:=d.toNat) J c.toNat;rw[Ju];exact this.symm
 have mf:(b.toNat*65536)|||(c.toNat*256+d.toNat)=b.toNat*65536+(c.toNat*256+d.toNat):=by have:=JC (i:=16) (b:=c.toNat*256+d.toNat) J b.toNat;rw[Ju b.toNat];exact this.symm
 have li:(a.toNat*16777216)|||(b.toNat*65536+(c.toNat*256+d.toNat))=a.toNat*16777216+(b.toNat*65536+(c.toNat*256+d.toNat)):=by have:=JC (i:=24) (b:=b.toNat*65536+(c.toNat*256+d.toNat)) J a.toNat;rw[Ju a.toNat];exact this.symm
 rw[Nat.or_assoc,Nat.or_assoc,TG,mf,li];have bG:av (aS (u32 ((a.toNat*16777216:Nat):Int))) (aS (u32 ((b.toNat*65536:Nat):Int)))=((a.toNat*16777216+b.toNat*65536:Nat):Int):=by rw[ud J,ud J];show(_:Int)+_=_;omega
 rw[bG];have b_:av (aS (u32 ((a.toNat*16777216+b.toNat*65536:Nat):Int))) (aS (u32 ((c.toNat*256:Nat):Int)))=((a.toNat*16777216+b.toNat*65536+c.toNat*256:Nat):Int):=by rw[ud J,ud J];show(_:Int)+_=_;omega
 rw[b_];have co:av (aS (u32 ((a.toNat*16777216+b.toNat*65536+c.toNat*256:Nat):Int))) (aS (u32 (aI d)))=((a.toNat*16777216+b.toNat*65536+c.toNat*256+d.toNat:Nat):Int):=by rw[ud J,e1];show(_:Int)+_=_;omega
 rw[co,Eh J];omega
def asY(cn asK Tg asJ:UInt32):UInt32:=
 u32 (av (aS (u32 (av (aS (u32 (av (aS (u32 (fA .u32 (aS (u32 (fA .u32 (aS (kX cn (u32 17))) (aS (kX cn (u32 19)))))) (aS (u32 (fr .u32 (aS cn) (cB (u64 10)))))))) (aS asK)))) (aS (u32 (fA .u32 (aS (u32 (fA .u32 (aS (kX Tg (u32 7))) (aS (kX Tg (u32 18)))))) (aS (u32 (fr .u32 (aS Tg) (cB (u64 3))))))))))) (aS asJ))
def jW(b:V)(i:Nat):UInt8:=b.getD i 0
def jH(m:List UInt32)(i:Nat):UInt32:=m.getD i 0
def kF(b:V)(c9:Nat):Nat->List UInt32
 |0=>List.replicate 64 0
 | t+1=>(kF b c9 t).set t (if t < 16 then V2 (jW b (c9+4*t)) (jW b (c9+4*t+1)) (jW b (c9+4*t+2)) (jW b (c9+4*t+3))
   else asY (jH (kF b c9 t) (t-2)) (jH (kF b c9 t) (t-7)) (jH (kF b c9 t) (t-15)) (jH (kF b c9 t) (t-16)))
def afS(b:V)(c9:Nat):∀t,(kF b c9 t).length=64
 |0=>by simp[kF]
 |t+1=>by rw[kF,ko];exact afS b c9 t
def afR{b c:V}{x y:Nat}(h:∀i,i<64->jW b (x+i)=jW c (y+i)):∀t,kF b x t=kF c y t
 |0=>rfl
 |t+1=>by
  rw[kF,kF,afR h t];by_cases ht:t<16
  .rw[if_pos ht,if_pos ht,h (4*t) J,ju x,ju x,ju x,h (4*t+1) J,h (4*t+2) J,h (4*t+3) J];rfl
  grind
def fP(h:a=(n:Int))(aj:n<=9223372036854775807):i64 a=(n:Int):=by rw[h];exact hM J J
def awT(b:V)(Y:b.length=64):Nq (b,())=some (kF b 0 64,()):=by
 unfold Nq;generalize hf:(λ(ab:Int×List UInt32×Unit)=>_)=f;have step:∀t:Nat,t<64->f ((t:Int),kF b 0 t,())=some (.nx (((t+1:Nat):Int),kF b 0 (t+1),())):=by
  intro t ht;subst hf;have hi:i64 (av (t:Int) 1)=((t+1:Nat):Int):=fP (by show(t:Int)+1=_;omega) J;refine bq cM ?_;by_cases nY:t<16
  .have d4:i64 (e? 4 (t:Int))=((4*t:Nat):Int):=fP (by show 4*(t:Int)=_;omega) J
   have e1:i64 (av (i64 (e? 4 (t:Int))) 1)=((4*t+1:Nat):Int):=by rw[d4];exact fP (by show((4*t:Nat):Int)+1=_;omega) J
   have aN:i64 (av (i64 (e? 4 (t:Int))) 2)=((4*t+2:Nat):Int):=by rw[d4];exact fP (by show((4*t:Nat):Int)+2=_;omega) J
   have dJ:i64 (av (i64 (e? 4 (t:Int))) 3)=((4*t+3:Nat):Int):=by rw[d4];exact fP (by show((4*t:Nat):Int)+3=_;omega) J
   refine bq cM ?_;rw[e1,aN,dJ,d4,hi];refine bn cM (bn cM (bn cM (bn cM (bn cM ?_))));have bb:=ayu (jW b (4*t)) (jW b (4*t+1)) (jW b (4*t+2)) (jW b (4*t+3));rw[kF,if_pos nY,jv,<- bb];rfl
  have QN:i64 (bi (t:Int) 15)=((t-15:Nat):Int):=fP (by show(t:Int)-15=_;omega) J;have aN:i64 (bi (t:Int) 2)=((t-2:Nat):Int):=fP (by show(t:Int)-2=_;omega) J;have amp:i64 (bi (t:Int) 7)=((t-7:Nat):Int):=fP (by show(t:Int)-7=_;omega) J;have amn:i64 (bi (t:Int) 16)=((t-16:Nat):Int):=fP (by show(t:Int)-16=_;omega) J;refine a1 cM ?_;rw[QN,aN,amp,amn,hi];refine bn cM ?_;refine bn jO ?_;rw[aeA];rw[avf];rw[ave];rw[avg];refine bn jO ?_;refine bn jO ?_;refine bn jO ?_;rw[kF,if_neg nY];rfl
 have f7:∀m,f (((64:Nat):Int),m,())=some (.ex 0 (((64:Nat):Int),m,())):=by subst hf;intro m;exact b1 rfl
 have j_:bN f (((0:Nat):Int),kF b 0 0,())=some (.ex 0 (((64:Nat):Int),kF b 0 64,())):=
  (md (f:=f) (λt=>((t:Int),kF b 0 t,())) 64 step 0 (fK _)).trans (d_ (f7 _))
 generalize ac:kF b 0 64=m at j_;refine(c' (show bN f _=_ from j_)).trans ?_;rfl
def BO:=@Int.le_refl
def gN(c:UInt8):V->List V
 |[]=>[[]]
 |x::s=>if x=c then[]::gN c s else(x::(gN c s).headD [])::(gN c s).tail
def ahv(c:UInt8):∀s,gN c s≠[]
 |[]=>by simp[gN]
 |x::s=>by unfold gN;split<;>simp
def ahu(c:UInt8)(s:V):∀w,w.count c=0->gN c (w++c::s)=w::gN c s
 |[],_=>by show(if c=c then _ else _)=_;rw[if_pos rfl]
 |x::w,h=>by
  have hx:¬x=c:=λe=>by rw[e,List.count_cons_self]at h;omega
  have bb:w.count c=0:=by rw[List.count_cons_of_ne hx]at h;exact h
  show(if x=c then _ else(x::(gN c (w++c::s)).headD [])::(gN c (w++c::s)).tail)=_;rw[if_neg hx,ahu c s w bb];rfl
def Jb(c:UInt8):∀w,w.count c=0->gN c w=[w]
 |[],_=>rfl
 |x::w,h=>by
  have hx:¬x=c:=λe=>by rw[e,List.count_cons_self]at h;omega
  have bb:w.count c=0:=by rw[List.count_cons_of_ne hx]at h;exact h
  show(if x=c then _ else(x::(gN c w).headD [])::(gN c w).tail)=_;rw[if_neg hx,Jb c w bb];rfl
def acd{c:UInt8}:∀{s:V},0<s.count c->∃w r,s=w++c::r/\w.count c=0/\Lib.indexByte s c=(w.length:Int)
 |[],h=>by simp at h
 |x::s,h=>by
  by_cases hx:x=c
  .subst hx;exact⟨[],s,rfl,rfl,by unfold Lib.indexByte;rw[if_pos bh];rfl⟩
  rw[List.count_cons_of_ne hx]at h;obtain⟨w,r,e,bb,hi⟩:=acd h;refine⟨x::w,r,by rw[e];rfl,by rw[List.count_cons_of_ne hx];exact bb,?_⟩;unfold Lib.indexByte;rw[hi,if_neg (by simpa using hx),if_neg bh];rfl
def VN{α:Type}:∀(a:List α) (x y:α) (r:List α),cj (a++x::r) a.length y=a++y::r
 |[],_,_,_=>rfl
 |z::a,x,y,r=>by show z::cj (a++x::r) a.length y=_;rw[VN a];rfl
def WD(c:UInt8)(s:V)(hl:s.length<=1000000):Eb (s,[c],())=some (gN c s,()):=by
 have eB:s.count c<=s.length:=List.count_le_length;unfold Eb U7;dsimp only;rw[show U6 (s,[c],())=some (((s.count c:Nat):Int),()) from rfl];have sk:i64 (av ((s.count c:Nat):Int) 1)=((s.count c+1:Nat):Int):=fP rfl J;have hm:fE ((s.count c+1:Nat):Int) (i64 (av (len s) 1))=((s.count c+1:Nat):Int):=by rw[fP (n:=s.length+1) (a:=av (len s) 1) rfl J];unfold fE;split<;>omega
 refine(bJ (a1 (show ag (-1) 0=false from rfl) (a1 (o4 (by intro h;cases h)) ((bJ (show(T (aJ (-1) 0) (ob (some (((s.count c:Nat):Int),())) λ(a:Int×Unit)=>some (i64 (av a.1 1),())) (some (-1,())):Option (Int×Unit))=some (((s.count c+1:Nat):Int),()) by rw[show aJ (-1) 0=true from rfl];exact congrArg (λz=>some (z,())) sk)).trans (dL rfl))))).trans ?_;dsimp only;rw[hm];refine(bJ (bn (by rw[rl (a:=0) (b:=((s.count c+1:Nat):Int)) J J (BO _),n? (by simp only[aa];omega)];rfl) ?_)).trans (show ob (some (gN c s,())) (λ(a:List V×Unit)=>some (a.1,()))=_ from rfl);have n1:i64 (bi ((s.count c+1:Nat):Int) 1)=((s.count c:Nat):Int):=by rw[hM]<;>simp only[bi]<;>omega
 rw[n1,show aa ((s.count c+1:Nat):Int)=s.count c+1 from rfl];generalize hg:(λ(ab:V×Int×List V×Unit)=>(_:Option (aE (V×Int×List V×Unit) (List V×Unit))))=F;have key:∀(k:Nat) (t:V) (d:List V),t.count c=k->d.length+k=s.count c->t.length<=s.length->∃t' l4,bN F (t,(d.length:Int),d++bO (k+1) [],())=some (.ex 0 (t',(s.count c:Nat),l4++[[]],()))/\l4.length=s.count c/\l4++[t']=d++gN c t:=by
  intro k;induction k with
  |zero =>intro t d ht aF bm;refine⟨t,d,d_ ?_,J,by rw[Jb c t ht]⟩;subst hg;show T (aJ (d.length:Int) _) _ _=_;rw[show(d.length:Int)=((s.count c:Nat):Int) by omega];exact b1 (c3 J)
  |succ k ih=>
   intro t d ht aF bm;obtain⟨w,r,e,bb,hi⟩:=acd (c:=c) (s:=t) J;have ah:r.count c=k:=by rw[e,List.count_append,List.count_cons_self,bb]at ht;omega
   have cq:t.length=w.length+(r.length+1):=by rw[e,cE,ew]
   obtain⟨t',l4,O,R,af⟩:=ih r (d++[w]) ah (by rw[cE];show _+1+_=_;omega) J;refine⟨t',l4,(ez ?_).trans O,R,by rw[af,e,ahu c r w bb,gv];rfl⟩;subst hg;refine bq (dj (by show(d.length:Int)<_;omega)) (bg (show NN (t,[c],())=some ((w.length:Int),()) by unfold NN;exact congrArg (λz=>some (z,())) hi) (a1 (c3 (by show ¬(w.length:Int)<0;omega)) ?_));have d4:i64 (av (w.length:Int) 0)=(w.length:Int):=fP (n:=w.length) (by show(w.length:Int)+0=_;omega) J;have e1:i64 (av (w.length:Int) (len [c]))=((w.length+1:Nat):Int):=fP rfl J;have aN:i64 (av (d.length:Int) 1)=(((d++[w]).length:Nat):Int):=fP (n:=(d++[w]).length) (by rw[cE];rfl) (by rw[cE];show _+1<=_;omega);dsimp only;rw[d4,e1,aN];refine bn (rl J J (by show(w.length:Int)<=(t.length:Int);omega)) (bn (sz J (by show(d.length:Int)<((d++bO (k+1+1) ([]:V)).length:Int);rw[cE,show(bO (k+1+1) ([]:V)).length=k+1+1 from ox];omega)) (bn (rl J (by show _<=(t.length:Int);omega) (BO _)) ?_));have bp:sub t ((w.length+1:Nat):Int) (len t)=r:=by unfold sub;rw[show(len t).toNat=t.length from rfl,show(((w.length+1:Nat):Int)).toNat=w.length+1 from rfl,e,List.drop_append,OZ J,show w.length+1-w.length=1 by omega];exact hS (by rw[nG,cE,ew,show(c::r).drop 1=r from rfl];omega)
   have ax:sub t 0 (w.length:Int)=w:=by unfold sub;rw[show(w.length:Int).toNat-(0:Int).toNat=w.length from rfl,show(0:Int).toNat=0 from rfl,nD,e,List.take_append,hS (bU _),BN];exact hF w
   rw[bp,ax,show aa (d.length:Int)=d.length from rfl,show bO (k+1+1) ([]:V)=[]::bO (k+1) [] from rfl,VN,gv];rfl
 obtain⟨t',l4,O,R,af⟩:=key (s.count c) s [] rfl bh (bU _);refine(c' O).trans ?_;have e1:i64 (av ((s.count c:Nat):Int) 1)=((s.count c+1:Nat):Int):=sk;have aF:cj (l4++[[]]) (aa ((s.count c:Nat):Int)) t'=gN c s:=by rw[show aa ((s.count c:Nat):Int)=l4.length from R.symm,VN];exact af
 have bb:(gN c s).length=s.count c+1:=by rw[show gN c s=l4++[t'] from af.symm,cE,R];rfl
 unfold ci;dsimp only;rw[e1,aF];refine bn rfl (bn (sz J (by show _<((l4++[([]:V)]).length:Int);rw[cE,R];show _<((s.count c+1:Nat):Int);omega)) (bn (rl J (by show(0:Int)<=((s.count c+1:Nat):Int);omega) (by show((s.count c+1:Nat):Int)<=((gN c s).length:Int);omega)) ?_));rw[show aa 0=0 from rfl,show cd (aa ((s.count c+1:Nat):Int)) 0=s.count c+1 from rfl,<- bb];show some (((gN c s).drop 0).take _,())=_;rw[nD,nF]
def qi:Nat->Nat->V
 |0,n=>[dI (n%10)]
 |k+1,n=>if n<10 then[dI n]else qi k (n/10)++[dI (n%10)]
def py(n:Nat):V:=qi 19 n
def KZ(h:n<10):qi k n=[dI n]:=by
 cases k with
 |zero=>show[dI (n%10)]=_;rw[lY h]
 |succ k=>show(if n<10 then _ else _)=_;rw[if_pos h]
def Zz:∀(k n:Nat),n<10^(k+1)->∃j,j<=k/\qi k n=aZ 10 dI n (j+1)/\n<10^(j+1)/\(j=0\/10^j<=n)
 |0,n,h=>⟨0,bU _,by show[dI (n%10)]=[dI (n/10^0%10)];rw[Nat.pow_zero,Nat.div_one],h,.inl rfl⟩
 |k+1,n,h=>by
  by_cases kO:n<10
  .exact⟨0,J,by rw[KZ kO];show[dI n]=[dI (n/10^0%10)];rw[Nat.pow_zero,Nat.div_one,lY kO],J,.inl rfl⟩
  have aF:n/10<10^(k+1):=by rw[qX]at h;omega
  obtain⟨j,an,aA,hl,hg⟩:=Zz k (n/10) aF;refine⟨j+1,J,?_,?_,.inr ?_⟩
  .show(if n<10 then _ else qi k (n/10)++[dI (n%10)])=_
   rw[if_neg kO,aA,MJ 10 dI n (j+1)]
  .rw[qX];omega
  rw[qX];rcases hg with rfl|hg
  .omega
  omega
def F0(h:n<10^20):∃j,j<=19/\py n=aZ 10 dI n (j+1)/\n<10^(j+1)/\(j=0\/10^j<=n):=Zz 19 n h
def Q5(h:n<10^20):fZ (py n):=by obtain⟨j,_,aA,_,_⟩:=F0 h;rw[aA];exact zl
def VO(h:n<10^20):val (py n)=n:=by obtain⟨j,_,aA,hl,_⟩:=F0 h;rw[aA,N2,lY hl]
def K0(h:n<10^20):1<=(py n).length/\(py n).length<=20:=by obtain⟨j,an,aA,_,_⟩:=F0 h;rw[aA,lm];omega
def ana(h:n<10^20):py n=[48]\/(py n).head?≠some 48:=by
 obtain⟨j,an,aA,hl,hg⟩:=F0 h;rw[aA];rcases hg with rfl|hg
 .by_cases ao:n=0
  .subst ao;exact .inl rfl
  right;show some (dI (n/10^0%10))≠some 48;rw[Nat.pow_zero,Nat.div_one,lY J];have:∀d,d<10->d≠0->dI d≠48:=bP;intro e;exact this n J ao (lZ e)
 right;show some (dI (n/10^j%10))≠some 48;have O:0<n/10^j:=Nat.div_pos hg (wJ J);have R:n/10^j<10:=by rw[Nat.div_lt_iff_lt_mul (wJ J)];rw[qX]at hl;omega
 rw[lY R];have:∀d,d<10->d≠0->dI d≠48:=bP;intro e;exact this _ R J (lZ e)
def q7(n:Int):V:=if n<0 then(if n%10=0 then[48]else[]) else py n.toNat
def Y4{r:Int}(h:r<10):mD (r,1,())=some (if 0<=r then([dI r.toNat],0,()) else([],1,())):=by
 rw[FI r 1 J];by_cases ao:0<=r
 .rw[if_pos ⟨J,J,ao,by show r<10^1;omega⟩,if_pos ao]
  obtain⟨n,rfl⟩:∃n:Nat,r=n:=⟨r.toNat,J⟩;show some ([dI (n/10^0%10)],(0:Int),())=_;rw[Nat.pow_zero,Nat.div_one,lY J];rfl
 rw[if_neg (λh=>ao h.2.2.1),if_neg ao]
def ZC(k:Nat)(x:Int×Unit):u9 (k+1) x=ob (mD (dh x.1 10,1,())) λa:V×Int×Unit=>
  T (aJ x.1 10) (some (a.1,())) (ob (u9 k (i64 (fg x.1 10),())) λb:V×Unit=>am (bE (av (len b.1) (len a.1)) 140737488355328) (some (bv b.1 a.1,()))):=by rw[u9]
def ZB:∀(k n:Nat),n<10^(k+1)->k<=19->n<=9223372036854775807->u9 (k+1) ((n:Int),())=some (qi k n,())/\(qi k n).length<=k+1
 |k,n,h,ap,Y=>by
  have hm:dh (n:Int) 10=((n%10:Nat):Int):=vz;have aF:mD (dh (n:Int) 10,1,())=some ([dI (n%10)],0,()):=by rw[hm,Y4 J,if_pos J];rfl
  rw[ZC];dsimp only;rw[aF];by_cases kO:n<10
  .rw[KZ kO]
   refine⟨bq (dj (by show(n:Int)<10;omega)) (by rw[lY kO]),by show 1<=k+1;omega⟩
  cases k with
  |zero=>omega
  |succ k=>
   have bm:n/10<10^(k+1):=by rw[qX]at h;omega
   obtain⟨O,R⟩:=ZB k (n/10) bm J J;have hi:i64 (fg (n:Int) 10)=((n/10:Nat):Int):=zW (a:=n) (b:=10) Y;have aA:qi (k+1) n=qi k (n/10)++[dI (n%10)]:=if_neg kO;rw[aA];refine⟨a1 (c3 (by show ¬(n:Int)<10;omega)) ?_,by rw[cE];show _+1<=_;omega⟩;dsimp only;rw[hi,O];have bY:bE (av (len (qi k (n/10))) (len [dI (n%10)])) 140737488355328=true:=hN (by simp only[av,len,JS];omega);rw[hj];exact dR bY
def anc{n:Int}(h:n<=9223372036854775807):Em (n,())=some (q7 n,()):=by
 unfold Em q7;by_cases ao:n<0
 .rw[if_pos ao]
  obtain⟨m,rfl⟩:∃m:Nat,n = -(m:Int):=⟨(-n).toNat,J⟩;have hm:dh (-(m:Int)) 10 = -((m%10:Nat):Int):=by show(-(m:Int)).tmod 10=_;rw[Int.neg_tmod];exact congrArg (λz => -z) (OK m 10).symm
  have ac:u9 20 (-(m:Int),())=ob (mD (dh (-(m:Int)) 10,1,())) λa:V×Int×Unit=>some (a.1,()):=by rw[ZC];exact congrArg _ (funext λa=>ce (dj (by show -(m:Int)<10;omega)))
  rw[ac,hm,Y4 J];by_cases bj:m%10=0
  .rw[bj,if_pos J,if_pos J];rfl
  rw[if_neg J,if_neg J];rfl
 rw[if_neg ao];obtain⟨m,rfl⟩:∃m:Nat,n=m:=⟨n.toNat,J⟩;exact(ZB 19 m J (bU _) J).1
abbrev yW:=UInt32×UInt32×UInt32×UInt32×UInt32×UInt32×UInt32×UInt32
def agI(k m h g f e:UInt32):UInt32:=
 u32 (av (aS (u32 (av (aS (u32 (av (aS (u32 (av (aS h) (aS (u32 (fA .u32 (aS (u32 (fA .u32 (aS (kX e (u32 6))) (aS (kX e (u32 11)))))) (aS (kX e (u32 25))))))))) (aS (u32 (fA .u32 (aS (u32 (iI .u32 (aS e) (aS f)))) (aS (u32 (iI .u32 (aS (u32 (fA .u32 4294967295 (aS e)))) (aS g)))))))))) (aS k)))) (aS m))
def axA(c b a:UInt32):UInt32:=
 u32 (av (aS (u32 (fA .u32 (aS (u32 (fA .u32 (aS (kX a (u32 2))) (aS (kX a (u32 13)))))) (aS (kX a (u32 22)))))) (aS (u32 (fA .u32 (aS (u32 (fA .u32 (aS (u32 (iI .u32 (aS a) (aS b)))) (aS (u32 (iI .u32 (aS a) (aS c))))))) (aS (u32 (iI .u32 (aS b) (aS c))))))))
def adu(k m:UInt32)(s:yW):yW:=
 (s.2.1,s.2.2.1,s.2.2.2.1,u32 (av (aS s.2.2.2.2.1) (aS (agI k m s.1 s.2.1 s.2.2.1 s.2.2.2.1))),s.2.2.2.2.2.1,s.2.2.2.2.2.2.1,s.2.2.2.2.2.2.2,
  u32 (av (aS (agI k m s.1 s.2.1 s.2.2.1 s.2.2.2.1)) (aS (axA s.2.2.2.2.2.1 s.2.2.2.2.2.2.1 s.2.2.2.2.2.2.2))))
def rE(vM:List UInt32)(s:yW):Nat->yW
 |0=>s
 |t+1=>adu (jH pK t) (jH vM t) (rE vM s t)
def AH(s:yW):List UInt32:=[s.2.2.2.2.2.2.2,s.2.2.2.2.2.2.1,s.2.2.2.2.2.1,s.2.2.2.2.1,s.2.2.2.1,s.2.2.1,s.2.1,s.1]
def WM(w:List UInt32)(s:yW):List UInt32:=
 [u32 (av (aS (jH w 0)) (aS s.2.2.2.2.2.2.2)),u32 (av (aS (jH w 1)) (aS s.2.2.2.2.2.2.1)),u32 (av (aS (jH w 2)) (aS s.2.2.2.2.2.1)),u32 (av (aS (jH w 3)) (aS s.2.2.2.2.1)),
  u32 (av (aS (jH w 4)) (aS s.2.2.2.1)),u32 (av (aS (jH w 5)) (aS s.2.2.1)),u32 (av (aS (jH w 6)) (aS s.2.1)),u32 (av (aS (jH w 7)) (aS s.1))]
def adx(w:List UInt32):yW:=(jH w 7,jH w 6,jH w 5,jH w 4,jH w 3,jH w 2,jH w 1,jH w 0)
def yd(w:List UInt32)(b:V)(c9:Nat):List UInt32:=WM w (rE (kF b c9 64) (adx w) 64)
def amy{w:List α}(h:w.length=8):∃a b c d e f g i,w=[a,b,c,d,e,f,g,i]:=by
 match w,h with
 |[a,b,c,d,e,f,g,i],_=>exact⟨a,b,c,d,e,f,g,i,rfl⟩
def U3{c:V}{y:Nat}(h:∀i,i<64->jW b (x+i)=jW c (y+i))(w:List UInt32):yd w b x=yd w c y:=by unfold yd;rw[afR h]
def af6(w:List UInt32)(bb:w.length=8)(b:V)(Y:b.length=64):Np (w,b,())=some (yd w b 0,0,()):=by
 refine a1 cM ?_;rw[awT b Y];have hm:=afS b 0 64;unfold yd;generalize kF b 0 64=m at hm;refine bg rfl ?_;obtain⟨w0,cf,cN,fk,hq,Bp,N6,N7,rfl⟩:=amy bb;generalize hf:(λ(x:Int×List UInt32×Unit)=>(_:Option (aE (Int×List UInt32×Unit) (List UInt32×Int×Unit))))=f;obtain⟨s,ac⟩:∃s,s=adx [w0,cf,cN,fk,hq,Bp,N6,N7]:=⟨_,rfl⟩;have step:∀t:Nat,t<64->f ((t:Int),AH (rE m s t),())=some (.nx (((t+1:Nat):Int),AH (rE m s (t+1)),())):=by intro t ht;subst hf;have hi:i64 (av (t:Int) 1)=((t+1:Nat):Int):=fP (by show(t:Int)+1=_;omega) J;rw[show rE m s (t+1)=adu (jH pK t) (jH m t) (rE m s t) from rfl];generalize rE m s t=r;obtain⟨h,g,f,e,d,c,b,a⟩:=r;refine bq cM ?_;dsimp only[AH];rw[hi];refine bn cM ?_;refine bn rfl ?_;refine bn rfl ?_;rw[show ak [a,b,c,d,e,f,g,h] (aa 4) (u32 0)=e from rfl,Uc];refine bg rfl ?_;rw[avd];refine bg rfl ?_;rw[avh];refine bg rfl ?_;rw[show ak [a,b,c,d,e,f,g,h] (aa 0) (u32 0)=a from rfl,gt];refine bg rfl ?_;rw[sQ];refine bg rfl ?_;rw[Ub];refine bn rfl ?_;refine bn rfl ?_;refine bn rfl ?_;refine bn cM ?_;rfl
 have f7:∀v,f (((64:Nat):Int),v,())=some (.ex 0 (((64:Nat):Int),v,())):=by subst hf;intro v;exact b1 rfl
 have j_:bN f (((0:Nat):Int),AH (rE m s 0),())=some (.ex 0 (((64:Nat):Int),AH (rE m s 64),())):=
  (md (f:=f) (λt=>((t:Int),AH (rE m s t),())) 64 step 0 (fK _)).trans (d_ (f7 _))
 have ao:AH (rE m s 0)=[w0,cf,cN,fk,hq,Bp,N6,N7]:=by rw[ac];rfl
 rw[ao]at j_;rw[<- ac];generalize rE m s 64=r at j_;obtain⟨h,g,u4,e,d,c,b',a⟩:=r;refine(c' (show bN f (0,[w0,cf,cN,fk,hq,Bp,N6,N7],())=_ from j_)).trans ?_;refine(c' (t? (r:=.ex 2 (((8:Nat):Int),WM [w0,cf,cN,fk,hq,Bp,N6,N7] (h,g,u4,e,d,c,b',a),())) 9 rfl)).trans ?_;rfl
def jz(w:List UInt32)(l:V):Nat->List UInt32
 |0=>w
 |i+1=>yd (jz w l i) l (64*i)
def KG{w:List UInt32}(bb:w.length=8)(l:V):∀i,(jz w l i).length=8
 |0=>bb
 |_+1=>rfl
def aev(l:V)(k i:Nat):jW (l.drop k) i=jW l (k+i):=by unfold jW;rw[nE,JK,<- nE]
def au9(l:V)(h:i<k):jW (l.take k) i=jW l i:=by unfold jW;rw[nE,O5 h,<- nE]
def agD(w:List UInt32)(l:V)(k:Nat):yd w ((l.drop k).take 64) 0=yd w l k:=
 U3 (λi hi=>by rw[jv,au9 _ hi,aev]) w
def Y?{l m:V}(w:List UInt32):∀{i},(∀j,j<64*i->jW l j=jW m j)->jz w l i=jz w m i
 |0,_=>rfl
 |i+1,h=>by rw[jz,jz,Y? w λj an=>h j J];exact U3 (λj an=>h _ J) _
def Y'(w:List UInt32)(l:V)(i:Nat):∀j,jz w l (i+j)=jz (jz w l i) (l.drop (64*i)) j
 |0=>rfl
 |j+1=>by rw[<- ju,jz,jz,Y' w l i j];exact U3 (λk _=>by rw[aev];congr 1;omega) _
abbrev tb:=List UInt32×Int×V×Unit
def nu(h:tb)(b:V):tb:=
 (jz h.1 (h.2.2.1++b) ((h.2.2.1++b).length/64),h.2.1+(b.length:Int),(h.2.2.1++b).drop (64*((h.2.2.1++b).length/64)),())
def al4(r b:V):dU (dU (bO (r.length+b.length) (u8 0)) 0 (aT (bO (r.length+b.length) (u8 0))) r) r.length (r.length+b.length-r.length) b=r++b:=by
 unfold dU bO aT;rw[ox,BQ,nG,hS (show r.length<=r.length+b.length by omega),
  wz,BH,hS (bU _),List.drop_of_length_le bh,hF]
def awR(H:List UInt32)(cw:H.length=8)(N:Int)(r b:V)(fO:0<=N)(Y:N+(b.length:Int)<=1125899906842624)(ah:r.length<=64)(hm:b.length<=1000000000):x9 ((H,N,r,()),b,())=some (nu (H,N,r,()) b,()):=by
 refine a1 (by simp(disch:=omega) only[go_sem];omega) ?_;have e1:i64 (av (len r) (len b))=((r.length+b.length:Nat):Int):=fP (by show(r.length:Int)+(b.length:Int)=_;omega) J;have aN:i64 (av N (len b))=N+(b.length:Int):=hM (by show -9223372036854775808<=N+(b.length:Int);omega) (by show N+(b.length:Int)<=9223372036854775807;omega);rw[e1,aN];refine bn cM ?_;have cq:len (dU (bO (aa ((r.length+b.length:Nat):Int)) (u8 0)) 0 (aT (bO (aa ((r.length+b.length:Nat):Int)) (u8 0))) r)=((r.length+b.length:Nat):Int):=by
  unfold len dU bO aT aa
  grind
 rw[cq];refine bn cM ?_;rw[show aa (len r)=r.length from he,show aa ((r.length+b.length:Nat):Int)=r.length+b.length from he,show cd (r.length+b.length) r.length=r.length+b.length-r.length from rfl,al4];generalize hf:(λ(x:V×(List UInt32×Int×V×Unit)×Unit)=>(_:Option (aE (V×(List UInt32×Int×V×Unit)×Unit) ((List UInt32×Int×V×Unit)×Unit))))=f;generalize hl:r++b=l;have step:∀i,i<l.length/64->f (l.drop (64*i),(jz H l i,N+(b.length:Int),r,()),())=some (.nx (l.drop (64*(i+1)),(jz H l (i+1),N+(b.length:Int),r,()),())):=by
  intro i hi;subst hf;have aF:(l.drop (64*i)).length=l.length-64*i:=fb;have cq:len (l.drop (64*i))=((l.length-64*i:Nat):Int):=by unfold len;rw[aF]
  dsimp only;rw[cq];refine bq cM ?_;refine bn cM ?_;rw[show cut (l.drop (64*i)) (aa 0) (cd (aa 64) (aa 0))=(l.drop (64*i)).take 64 from rfl,af6 _ (KG cw l i) _ (by rw[hE,aF];omega)];refine bn cM ?_;rw[agD];have ai:cut (l.drop (64*i)) (aa 64) (cd (aa ((l.length-64*i:Nat):Int)) (aa 64))=l.drop (64*(i+1)):=by unfold cut;rw[show aa 64=64 from rfl,qY,hS (by rw[fb];show _<=l.length-64*i-64;omega)];congr 1
  rw[ai];rfl
 have f7:f (l.drop (64*(l.length/64)),(jz H l (l.length/64),N+(b.length:Int),r,()),())=some (.ex 0 (l.drop (64*(l.length/64)),(jz H l (l.length/64),N+(b.length:Int),r,()),())):=by
  subst hf;have cq:len (l.drop (64*(l.length/64)))=((l.length-64*(l.length/64):Nat):Int):=by unfold len;rw[fb]
  dsimp only;rw[cq];exact b1 cM
 have j_:=(md (f:=f) (λi=>(l.drop (64*i),(jz H l i,N+(b.length:Int),r,()),())) (l.length/64) step 0 (fK _)).trans (d_ f7);refine(c' (j_)).trans ?_;subst hl;rfl
def O2:=@List.flatMap_append
def hD(r:Nat):Nat:=(119-r)%64
def n4(n:Int)(i:Nat):V:=(List.range i).map λj=>u8 (fr .i64 (i64 (e? 8 n)) ((56-8*j:Nat):Int))
def Az(n:Int):V:=[u8 128]++List.replicate (hD (n.toNat%64)) (u8 0)++n4 n 8
def eI(x:UInt32):V:=[u8 (aS (u32 (fr .u32 (aS x) (cB (u64 24))))),u8 (aS (u32 (fr .u32 (aS x) (cB (u64 16))))),u8 (aS (u32 (fr .u32 (aS x) (cB (u64 8))))),u8 (aS x)]
def ug(w:List UInt32)(i:Nat):V:=(List.range i).flatMap λj=>eI (jH w j)
def TT(w:List UInt32):∀i,(ug w i).length=4*i
 |0=>rfl
 |i+1=>by unfold ug;rw[BP,O2,cE];have:=TT w i;unfold ug at this;rw[this];simp[eI];omega
def auf(w:List UInt32)(i:Nat):ug w (i+1)=ug w i++eI (jH w i):=by unfold ug;rw[BP];simp
def asx(n:Int)(i:Nat):n4 n (i+1)=n4 n i++[u8 (fr .i64 (i64 (e? 8 n)) ((56-8*i:Nat):Int))]:=by unfold n4;rw[BP,EY];rfl
def acC(n:Int)(i:Nat):(n4 n i).length=i:=by simp[n4]
def A7(h:tb):V:=ug (jz h.1 (h.2.2.1++Az h.2.1) ((h.2.2.1++Az h.2.1).length/64)) 8
def avR(l:V)(k:Nat):l++List.replicate k (u8 0)++[u8 0]=l++List.replicate (k+1) (u8 0):=by rw[gv,<- List.replicate_succ']
def awS(H:List UInt32)(cw:H.length=8)(N:Int)(r:V)(fO:0<=N)(aza:N<=1125899906842624)(ah:r.length=N.toNat%64):A4 ((H,N,r,()),())=some (A7 (H,N,r,()),()):=by
 unfold A4;dsimp only;have bj:bO (aa 0) (u8 0)=[]:=rfl;rw[bj,show bv ([]:V) r=r from rfl,show bv r [u8 128]=r++[u8 128] from rfl];refine bn bP ?_;refine bn jO ?_;refine bn (by simp(disch:=first|assumption|omega|(dsimp only;omega)|decide) only[go_sem,Int.reduceToNat];simp;omega) ?_;generalize hf:(λ(x:V×Unit)=>(_:Option (aE (V×Unit) (V×Unit))))=f;have azr:r.length<64:=J;have azB:hD (N.toNat%64)<64:=by unfold hD;omega
 have step:∀i:Nat,i<hD (N.toNat%64)->f (r++[u8 128]++List.replicate i (u8 0),())=some (.nx (r++[u8 128]++List.replicate (i+1) (u8 0),())):=by
  intro i hi;subst hf;have hl:(r++[u8 128]++List.replicate i (u8 0)).length=r.length+1+i:=fv;have eC:¬(((r++[u8 128]++List.replicate i (u8 0)).length:Int)%64=56):=by rw[hl];unfold hD at hi;omega
  refine bq jO ?_;refine bn (by simp(disch:=first|assumption|omega|(dsimp only;omega)|decide) only[go_sem,Int.reduceToNat];simp;omega) ?_;show some (aE.nx (r++[u8 128]++List.replicate i (u8 0)++[u8 0],()))=_;rw[avR]
 have f7:f (r++[u8 128]++List.replicate (hD (N.toNat%64)) (u8 0),())=some (.ex 0 (r++[u8 128]++List.replicate (hD (N.toNat%64)) (u8 0),())):=by
  subst hf;have hl:(r++[u8 128]++List.replicate (hD (N.toNat%64)) (u8 0)).length=r.length+1+hD (N.toNat%64):=fv;have aA:(((r++[u8 128]++List.replicate (hD (N.toNat%64)) (u8 0)).length:Int)%64=56):=by rw[hl];unfold hD;omega
  exact b1 jO
 have j_:=(md (f:=f) (λi=>(r++[u8 128]++List.replicate i (u8 0),())) (hD (N.toNat%64)) step 0 (fK _)).trans (d_ f7);rw[List.replicate_zero,hF]at j_;refine(c' j_).trans ?_;generalize hL:r++[u8 128]++List.replicate (hD (N.toNat%64)) (u8 0)=L;have aoy:L.length=r.length+1+hD (N.toNat%64):=by rw[<- hL];simp;omega
 generalize hf:(λ(ab:V×Int×Unit)=>(_:Option (aE (V×Int×Unit) (V×Unit))))=f;have step:∀i:Nat,i<8->f (L++n4 N i,56-8*(i:Int),())=some (.nx (L++n4 N (i+1),56-8*((i+1:Nat):Int),())):=by
  intro i hi;subst hf;refine bq jO ?_;refine bn jO ?_;refine bn (by simp(disch:=first|assumption|omega|(dsimp only;omega)|decide) only[go_sem,Int.reduceToNat];simp[acC];omega) ?_;rw[show bv (L++n4 N i) [u8 (fr .i64 (i64 (e? 8 N)) (56-8*(i:Int)))]=L++n4 N (i+1) by rw[asx,show((56-8*i:Nat):Int)=56-8*(i:Int) by omega];exact gv _ _ _,
   show i64 (bi (56-8*(i:Int)) 8)=56-8*((i+1:Nat):Int) by rw[hM (by show -9223372036854775808<=56-8*(i:Int)-8;omega) (by show 56-8*(i:Int)-8<=9223372036854775807;omega)];show 56-8*(i:Int)-8=_;omega]
 have f7:f (L++n4 N 8,56-8*((8:Nat):Int),())=some (.ex 2 (L++n4 N 8,56-8*((8:Nat):Int),())):=by subst hf;exact b1 (show bE 0 (56-8*((8:Nat):Int))=false from rfl)
 have j_:=(md (f:=f) (λi=>(L++n4 N i,56-8*(i:Int),())) 8 step 0 (fK _)).trans (d_ f7);have ao:(L++n4 N 0,56-8*((0:Nat):Int),())=(L,56,()):=by simp[n4]
 rw[ao]at j_;refine(c' j_).trans ?_;have hT:L++n4 N 8=r++Az N:=by rw[<- hL];unfold Az;simp
 rw[hT];have RP:(r++Az N).length=r.length+1+hD (N.toNat%64)+8:=by rw[<- hT,cE,acC,aoy]
 have aoE:(r++Az N).length%64=0:=by rw[RP];unfold hD;omega
 generalize sp:r++Az N=b8 at RP aoE;generalize hf:(λ(x:V×List UInt32×Unit)=>(_:Option (aE (V×List UInt32×Unit) (V×Unit))))=f;have step:∀i,i<b8.length/64->f (b8.drop (64*i),jz H b8 i,())=some (.nx (b8.drop (64*(i+1)),jz H b8 (i+1),())):=by
  intro i hi;subst hf;have aF:(b8.drop (64*i)).length=b8.length-64*i:=fb;have cq:len (b8.drop (64*i))=((b8.length-64*i:Nat):Int):=by unfold len;rw[aF]
  dsimp only;rw[cq];refine bq jO ?_;refine bn jO ?_;rw[show cut (b8.drop (64*i)) (aa 0) (cd (aa 64) (aa 0))=(b8.drop (64*i)).take 64 from rfl,af6 _ (KG cw b8 i) _ (by rw[hE,aF];omega)];refine bn jO ?_;rw[agD];have ai:cut (b8.drop (64*i)) (aa 64) (cd (aa ((b8.length-64*i:Nat):Int)) (aa 64))=b8.drop (64*(i+1)):=by unfold cut;rw[show aa 64=64 from rfl,he,qY,hS (by rw[fb];show _<=b8.length-64*i-64;omega)];congr 1
  rw[ai];rfl
 have f7:f (b8.drop (64*(b8.length/64)),jz H b8 (b8.length/64),())=some (.ex 4 (b8.drop (64*(b8.length/64)),jz H b8 (b8.length/64),())):=by
  subst hf;have cq:len (b8.drop (64*(b8.length/64)))=((b8.length-64*(b8.length/64):Nat):Int):=by unfold len;rw[fb]
  dsimp only;rw[cq];exact b1 jO
 have j_:=(md (f:=f) (λi=>(b8.drop (64*i),jz H b8 i,())) (b8.length/64) step 0 (fK _)).trans (d_ f7);refine(c' (show bN f (b8,H,())=_ from j_)).trans ?_;refine bn g62 ?_;unfold A7;rw[sp];have bb:=KG cw b8 (b8.length/64);generalize jz H b8 (b8.length/64)=w at bb;generalize hf:(λ(x:V×Int×Unit)=>(_:Option (aE (V×Int×Unit) (V×Unit))))=f;have step:∀i:Nat,i<8->f (ug w i,(i:Int),())=some (.nx (ug w (i+1),((i+1:Nat):Int),())):=by intro i hi;subst hf;have hl:=TT w i;have gG:i64 (av (i:Int) 1)=((i+1:Nat):Int):=fP (by show(i:Int)+1=_;omega) J;refine bq jO ?_;refine bn jO ?_;refine bn (by simp(disch:=first|assumption|omega|(dsimp only;omega)|decide) only[go_sem,Int.reduceToNat];simp;omega) ?_;rw[gG,auf];rfl
 have f7:∀v,f (v,((8:Nat):Int),())=some (.ex 6 (v,((8:Nat):Int),())):=by subst hf;intro v;exact b1 rfl
 have j_:=(md (f:=f) (λi=>(ug w i,(i:Int),())) 8 step 0 (fK _)).trans (d_ (f7 _));refine(c' (show bN f ([],0,())=_ from j_)).trans ?_;exact dR g62
def WJ:=@List.drop_append_of_le_length
def wI:=@Prod.ext
def Dm(h:0<=a/\a<18446744073709551616):cB (u64 a)=a:=by
 show(((BitVec.ofNat 64 ((a%2^64).toNat)).toNat:Nat):Int)=a
 grind
def HJ(h:tb):Prop:=h.1.length=8/\0<=h.2.1/\h.2.2.1.length=h.2.1.toNat%64
def AG{h:tb}(hh:HJ h)(b:V):HJ (nu h b):=by
 obtain⟨O,R,af⟩:=hh;refine⟨KG O _ _,?_,?_⟩
 .show 0<=h.2.1+(b.length:Int);omega
 show((h.2.2.1++b).drop (64*((h.2.2.1++b).length/64))).length=(h.2.1+(b.length:Int)).toNat%64
 grind
def au6(h:tb)(x y:V):nu (nu h x) y=nu h (x++y):=by
 obtain⟨H,N,r,⟨⟩⟩:=h;unfold nu;generalize hL:r++x=L;have dS:r++(x++y)=L++y:=by rw[<- gv,hL]
 rw[dS];have a2:64*(L.length/64)<=L.length:=J;have aF:(L++y).drop (64*(L.length/64))=L.drop (64*(L.length/64))++y:=WJ a2;have cq:(L.drop (64*(L.length/64))++y).length=L.length-64*(L.length/64)+y.length:=by rw[cE,fb]
 have aj:(L++y).length/64=L.length/64+(L.drop (64*(L.length/64))++y).length/64:=by rw[cq,cE];omega
 have aA:jz H (L++y) (L.length/64)=jz H L (L.length/64):=by
  refine Y? H λj an => ?_;unfold jW
  grind
 refine wI ?_ (wI ?_ (wI ?_ rfl))
 .dsimp only;rw[aj,Y',aF,aA]
 .grind
 dsimp only;rw[aj,<- aF,qY];congr 1;omega
def axy(h:tb):(A7 h).length=32:=by unfold A7;rw[TT]
def vB:tb:=([u32 1779033703,u32 3144134277,u32 1013904242,u32 2773480762,u32 1359893119,u32 2600822924,u32 528734635,u32 1541459225],0,[],())
def xw:HJ vB:=⟨rfl,BO _,rfl⟩
def Ir{h:tb}(hh:HJ h)(b:V)(fO:h.2.1<=1000000000)(Y:b.length<=1000000000):x9 (h,b,())=some (nu h b,()):=by obtain⟨H,N,r,⟨⟩⟩:=h;obtain⟨O,R,af⟩:=hh;have ay6:r.length=N.toNat%64:=af;have Gh:N<=1000000000:=fO;exact awR H O N r b R J J Y
def UL{h:tb}(hh:HJ h)(fO:h.2.1<=1000000000000):A4 (h,())=some (A7 h,()):=by obtain⟨H,N,r,⟨⟩⟩:=h;obtain⟨O,R,af⟩:=hh;have Gh:N<=1000000000000:=fO;exact awS H O N r R J af
theorem af7:Ip ()=some (vB,()):=rfl
def A3(b:V):V:=A7 (nu vB b)
def Nn(b:V):(A3 b).length=32:=axy _
def af8(b:V)(Y:b.length<=1000000000):Iq (b,())=some (A3 b,()):=by unfold Iq;rw[af7];refine bg rfl ?_;rw[Ir xw b bP Y];refine bg rfl ?_;have aj:(nu vB b).2.1=0+(b.length:Int):=rfl;rw[UL (AG xw b) J];rfl
def acK{σ ρ:Type}{f:σ->Option (aE σ ρ)}(l:List α)(mk:Nat->σ)(e:Nat)(r:ρ)(p:α->Prop)
  (ac:∀i (h:i<l.length),p l[i]->f (mk i)=some (.nx (mk (i+1)))) (Y:∀i (h:i<l.length),¬p l[i]->f (mk i)=some (.rt r)) (aA:f (mk l.length)=some (.ex e (mk l.length))) :
  ((∀x∈l,p x)/\bN f (mk 0)=some (.ex e (mk l.length)))\/((¬∀x∈l,p x)/\bN f (mk 0)=some (.rt r)):=by
 by_cases h:∀x∈l,p x
 .exact .inl ⟨h,(md mk l.length (λi hi=>ac i hi (h _ (mu hi))) 0 (fK _)).trans (d_ aA)⟩
 refine .inr ⟨h,?_⟩;have key:∀(n i:Nat),l.length-i=n->i<=l.length->(∃j,∃(an:j<l.length),i<=j/\¬p l[j])->bN f (mk i)=some (.rt r):=by
  intro n;induction n with
  |zero=>rintro i aj hi ⟨j,an,O,_⟩;omega
  |succ n ih=>
   rintro i aj hi ⟨j,an,O,R⟩;have rc:i<l.length:=J;by_cases hp:p l[i]
   .rw[ez (ac i rc hp)]
    refine ih (i+1) J J ⟨j,an,?_,R⟩;rcases Nat.lt_or_eq_of_le O with h|rfl
    .exact h
    exact absurd hp R
   exact pN (Y i rc hp)
 refine key _ 0 rfl (fK _) ?_;refine k2 λaj=>h λx hx=>k2 λaqI => ?_;obtain⟨j,an,rfl⟩:=uN hx;exact aj ⟨j,an,fK _,aqI⟩
def mz(key:V):V:=let k:=if 64<key.length then A3 key else key;k++List.replicate (64-k.length) (u8 0)
def ajt(key:V):(mz key).length=64:=by
 unfold mz;by_cases h:64<key.length
 .simp only[if_pos h,cE,ox,Nn]
 grind
def YO(k:V)(h:k.length<=64):dU (bO (aa 64) (u8 0)) 0 (aT (bO (aa 64) (u8 0))) k=k++List.replicate (64-k.length) (u8 0):=by unfold dU bO aT;rw[ox,show aa 64=64 from rfl,BQ,nG,hS h,jv,Nat.min_eq_right h,List.drop_replicate]
def asL(key:V)(h:key.length<=1000000000):Th (key,())=some (mz key,()):=by
 refine bn rfl ?_;by_cases ap:64<key.length
 .refine bq cM ?_
  rw[af8 _ h];refine bg rfl ?_;rw[YO _ (by rw[Nn];omega)];unfold mz;simp only[if_pos ap]
 refine a1 cM ?_;dsimp only;rw[YO _ J];unfold mz;simp only[if_neg ap]
def jZ(c:UInt8)(l:V):V:=l.map λx=>u8 (fA .u8 (aI x) (aI c))
def V_(c:UInt8)(l:V):(jZ c l).length=l.length:=by simp[jZ]
def ane{L:List α}{z:α}(hL:L.length=n)(hi:i<n):(L.take i++List.replicate (n-i) z).set i (L[i]'J)=L.take (i+1)++List.replicate (n-(i+1)) z:=by
 have O:(L.take i).length=i:=by rw[hE];omega
 rw[List.set_append_right _ _ J,O,BN,show n-i=(n-(i+1))+1 by omega,JV,nH J,gv];rfl
def ahD{f:Int×V×Unit->Option (aE (Int×V×Unit) Unit)}(c:UInt8)(k:V)(ap:k.length=64)
  (hf:f=λ(x:Int×V×Unit)=>T (aJ x.1 (len k)) (am (aU x.1 (len k)) (am (aU x.1 (len x.2.1)) (some (aE.nx (i64 (av x.1 1),cj x.2.1 (aa x.1) (u8 (fA .u8 (aI (ak k (aa x.1) (u8 0))) (aI c))),()))))) (some (aE.ex 0 (x.1,x.2.1,())))) :
  bN f (0,bO (aa 64) (u8 0),())=some (.ex 0 (64,jZ c k,())):=by
 have hx:(jZ c k).length=64:=by rw[V_,ap]
 have step:∀i:Nat,i<64->f ((i:Int),(jZ c k).take i++List.replicate (64-i) (u8 0),())=some (.nx (((i+1:Nat):Int),(jZ c k).take (i+1)++List.replicate (64-(i+1)) (u8 0),())):=by
  intro i hi;subst hf;have hl:((jZ c k).take i++List.replicate (64-i) (u8 0)).length=64:=by rw[cE,hE,ox];omega
  have gG:i64 (av (i:Int) 1)=((i+1:Nat):Int):=fP (by show(i:Int)+1=_;omega) J;refine bq (by simp only[go_sem,Int.reduceToNat];omega) ?_;refine bn (by simp only[go_sem,Int.reduceToNat];omega) ?_;refine bn (by simp only[go_sem,Int.reduceToNat];omega) ?_;dsimp only;rw[gG,show cj ((jZ c k).take i++List.replicate (64-i) (u8 0)) (aa (i:Int)) (u8 (fA .u8 (aI (ak k (aa (i:Int)) (u8 0))) (aI c)))=(jZ c k).take (i+1)++List.replicate (64-(i+1)) (u8 0) from ?_];rw[<- ane hx hi,he,nth_get (by omega:i<k.length)];unfold cj;congr 1;simp[jZ]
 have f7:f (((64:Nat):Int),(jZ c k).take 64++List.replicate (64-64) (u8 0),())=some (.ex 0 (((64:Nat):Int),(jZ c k).take 64++List.replicate (64-64) (u8 0),())):=by subst hf;exact b1 (by simp only[go_sem,Int.reduceToNat];omega)
 have:=(md (f:=f) (λi=>((i:Int),(jZ c k).take i++List.replicate (64-i) (u8 0),())) 64 step 0 (fK _)).trans (d_ f7);rw[hS (show(jZ c k).length<=64 by omega),BN,List.replicate_zero,hF]at this;exact this
def IV(key b:V):V:=A3 (jZ (u8 92) (mz key)++A3 (jZ (u8 54) (mz key)++b))
def axD(key b:V):(IV key b).length=32:=Nn _
def aer(x y:V):A7 (nu (nu vB x) y)=A3 (x++y):=by rw[au6];rfl
def Ti(key b:V)(h:key.length<=1000000)(Y:b.length<=1000000):Df (key,b,())=some (IV key b,()):=by unfold Df;dsimp only;rw[asL _ J];refine bn rfl ?_;have ap:=ajt key;rw[ahD (u8 92) _ ap rfl];refine bn g62 ?_;dsimp only;rw[af7];refine bg rfl ?_;have eX:=(V_ (u8 92) (mz key)).trans ap;have f8:=(V_ (u8 54) (mz key)).trans ap;rw[Ir xw _ bP J];refine bn rfl ?_;rw[ahD (u8 54) _ ap rfl];refine bn g62 ?_;refine bg rfl ?_;dsimp only;rw[Ir xw _ bP J];refine bg rfl ?_;have vN:(nu vB (jZ (u8 54) (mz key))).2.1=0+((jZ (u8 54) (mz key)).length:Int):=rfl;have qE:(nu (nu vB (jZ (u8 54) (mz key))) b).2.1=0+((jZ (u8 54) (mz key)).length:Int)+(b.length:Int):=rfl;have HC:(nu vB (jZ (u8 92) (mz key))).2.1=0+((jZ (u8 92) (mz key)).length:Int):=rfl;rw[Ir (AG xw _) b J J];refine bg rfl ?_;rw[UL (AG (AG xw _) _) J,aer];refine bg rfl ?_;dsimp only;have z_:=Nn (jZ (u8 54) (mz key)++b);rw[Ir (AG xw _) _ J J];refine bg rfl ?_;have ac4:∀y,(nu (nu vB (jZ (u8 92) (mz key))) y).2.1=0+((jZ (u8 92) (mz key)).length:Int)+(y.length:Int):=λ_=>rfl;rw[UL (AG (AG xw _) _) (by grind),aer];rfl
def E9:=@List.flatMap_nil
def fq(p:V):V:=[u8 (fr .i64 (len p) (cB (u64 8))),u8 (len p)]++p
def A'(l:List V):V:=l.flatMap fq
def rJ(label:V)(l:List V):V:=[u8 (len label)]++label++A' l
def MB(p:V):(fq p).length=p.length+2:=by simp[fq]
def axN(h:∀p∈l,p.length<=1000):(A' l).length<=1002*l.length:=by
 induction l with
 |nil=>simp[A']
 |cons p r ih =>have O:=h p bh;have R:=ih λq a2=>h q (by grind);unfold A' at R ⊢;rw[yM,cE,MB,ew];omega
def axO(hi:i<l.length):A' (l.take (i+1))=A' (l.take i)++fq l[i]:=by unfold A';rw[nH hi,O2,yM,E9,hF]
def ag7{label:V}(O:label.length<=255)(R:l.length<=16)(h:∀p∈l,p.length<=1000):(rJ label l).length<=20000:=by have:=axN h;unfold rJ;simp only[cE,ew,gw];omega
def Kz(key label:V)(l:List V):V:=IV key (rJ label l)
def QF(key label:V)(l:List V):(Kz key label l).length=32:=axD _ _
def acM(key label:V)(l:List V)(ap:key.length<=1000000)(O:label.length<=255)(R:l.length<=16)(h:∀p∈l,p.length<=1000):L9 (key,label,l,())=some (Kz key label l,0,()):=by
 refine bg (a:=(false,())) (a1 cM (by rw[show aJ 16 (len l)=false from c3 cM])) ?_;refine bn (by simp only[go_sem];simp;omega) ?_;generalize hf:(λ(ab:Int×V×Int×Unit)=>(_:Option (aE (Int×V×Int×Unit) (V×Int×Unit))))=f;have hT:∀i,(rJ label (l.take i)).length<=20000:=λi=>ag7 O (by rw[hE];omega) (λp hp=>h p (List.mem_of_mem_take hp));have step:∀i:Nat,i<l.length->f (0,rJ label (l.take i),(i:Int),())=some (.nx (0,rJ label (l.take (i+1)),((i+1:Nat):Int),())):=by
  intro i hi;subst hf;have gG:i64 (av (i:Int) 1)=((i+1:Nat):Int):=fP (by show(i:Int)+1=_;omega) J;have hp:=h l[i] (mu hi);have ht:=hT i;have aj:ak l (aa (i:Int)) (aO UInt8)=l[i]:=by rw[he,nth_get hi]
  refine bq cM ?_;refine bn cM ?_;rw[aj];refine a1 cM ?_;refine bn (by simp only[go_sem];simp;omega) ?_;refine bn (by simp only[go_sem];simp;omega) ?_;rw[gG,show rJ label (l.take (i+1))=rJ label (l.take i)++fq l[i] by unfold rJ;rw[axO hi,gv,gv,gv]];unfold fq bv;simp
 have f7:∀u,f (0,u,(l.length:Int),())=some (.ex 0 (0,u,(l.length:Int),())):=by subst hf;intro u;exact b1 cM
 have j_:=(md (f:=f) (λi=>(0,rJ label (l.take i),(i:Int),())) l.length step 0 (fK _)).trans (d_ (f7 _));rw[hS (bU _)]at j_;have ao:rJ label (l.take 0)=bv [u8 (len label)] label:=by unfold rJ;rw[BQ];exact hF _
 rw[ao]at j_;refine(c' (j_)).trans ?_;refine bn g62 ?_;dsimp only;have:=ag7 O R h;rw[Ti _ _ ap J];rfl
def C6(key:V):V:=(IV key (List.replicate 8 (u8 0))).take 3
def ar9(key:V):(C6 key).length=3:=by unfold C6;rw[hE];rfl
def acN(key:V)(ap:key.length<=1000000):Hu (key,())=some (C6 key,()):=by unfold Hu;rw[show bO (aa 8) (u8 0)=List.replicate 8 (u8 0) from rfl,Ti _ _ ap bh];rfl
def jX(k b:V):V:=(IV k b).take 16
def AP(k b:V):(jX k b).length=16:=by unfold jX;rw[hE];rfl
def T_(k b:V)(ap:k.length<=1000000)(Y:b.length<=1000000):DH (k,b,())=some (jX k b,()):=by unfold DH;rw[Ti _ _ ap Y];rfl
abbrev ahT:=V×V×Unit
def ael(p:fm)(k b:V):HZ (p,k,b,())=some (D ((k,b,())∈p.2.1),()):=by
 unfold HZ;congr 2;refine om ?_;rw[wx];constructor
 .rintro⟨⟨e1,aN,⟨⟩⟩,aA,h⟩
  simp only[cY,seq,cL,beq_iff_eq]at h
  grind
 intro h;exact⟨_,h,by simp[cY,seq]⟩
def ln(p:fm)(k b:V):fm:=if(k,b,())∈p.2.1 then p else(p.1,p.2.1++[(k,b,())],p.2.2)
def U8(l:List α):sub l 0 (len l)=l:=by unfold sub;rw[show(0:Int).toNat=0 from rfl,nD,show(len l).toNat=l.length from he,hS J]
def Qm(l:List α):cY (ca 0 (len l) (len l)) (ag (len l) (len l))=true:=by rw[cJ rfl,g37];simp only[go_sem];omega
def alS(l:List ahT):NC (l,())=some (l,()):=by unfold NC;rw[U8];exact dR (Qm l)
def Xm(l:V)(h:l.length<=1000000):Kb (l,())=some (l,()):=by exact dR cM
def auU(p:fm)(k b:V)(hl:p.2.1.length<=1050000000000)(ap:k.length<=1000000)(Y:b.length<=1000000):MH (p,k,b,())=some (ln p k b,jX k b,()):=by
 unfold MH;rw[ael];unfold ln;by_cases h:(k,b,())∈p.2.1
 .rw[cD h,if_pos h]
  rw[T_ _ _ ap Y];rfl
 rw[cC h,if_neg h];rw[alS];rw[Xm _ ap];rw[Xm _ Y];refine bn (by simp only[go_sem];simp;omega) ?_;rw[T_ _ _ ap Y];rfl
def auS(p:fm)(k b:V):(ln p k b).2.1.length<=p.2.1.length+1:=by
 unfold ln;split
 .omega
 simp
def AB(p:fm)(k b t:V):fm×Bool×Unit:=
 if jX k b=t then(if(k,b,())∈p.2.1 then(p,true,()) else((p.1,p.2.1,true,()),!p.1,())) else(p,false,())
def B3(n:Int):V:=aZ 256 m_ n.toNat 8
def ajh(n:Int):(B3 n).length=8:=lm _ _ _ _
def oZ(n:Int):V:=B3 n++(A3 ([u8 121,u8 101,u8 116,u8 116]++B3 n)).take 8
def MT(n:Int):(oZ n).length=16:=by unfold oZ;rw[cE,hE];rfl
def Zl(n:Int):Prop:=1<=n/\n<=4611686018427387904
def ajj{n:Int}(h:Zl n):((1:Int)<=8/\(8:Int)<=8/\0<=n/\n<256^(8:Int).toNat):=by
 obtain⟨O,R⟩:=h
 grind
def UT(n:Int)(aj:n<=9223372036854775807):ID (n,())=some (if 1<=n/\n<=4611686018427387904 then(oZ n,0,()) else([],1,())):=by
 by_cases h:1<=n/\n<=4611686018427387904
 .rw[if_pos h]
  refine bg (a:=(false,())) (a1 cM (by rw[show aJ 4611686018427387904 n=false from c3 J])) ?_;refine a1 rfl ?_;rw[QI _ _ aj,if_pos (ajj h)];refine bg rfl ?_;rw[show aZ 256 m_ n.toNat (8:Int).toNat=B3 n from rfl];have:=ajh n;rw[show bv [u8 121,u8 101,u8 116,u8 116] (B3 n)=[u8 121,u8 101,u8 116,u8 116]++B3 n from rfl,af8 _ (by grind)];rfl
 rw[if_neg h];by_cases O:n<1
 .refine bg (a:=(true,())) (ce cM) ?_
  rfl
 refine bg (a:=(true,())) (a1 cM (by rw[show aJ 4611686018427387904 n=true from dj J])) ?_;rfl
def l8(b:V):Int×Bool×Unit:=
 if(jp b 0 8).2.2.1=0/\(1<=(jp b 0 8).1/\(jp b 0 8).1<=4611686018427387904)/\oZ (jp b 0 8).1=b then((jp b 0 8).1,true,()) else(0,false,())
def axF(b:V):(jp b 0 8).1<=9223372036854775807:=by
 unfold jp;split
 .decide
 split
 .decide
 split
 .decide
 rename_i O R af;have hl:0+8<=b.length:=J;have:=W4 hl J (λh=>af ⟨rfl,by simpa using h.2⟩) 7 J;have e:(ec b 0 8).take (7+1)=ec b 0 8:=hS (by rw[yi hl];omega)
 grind
def ago(b:V)(Y:b.length<=1000000):IC (b,())=some (l8 b):=by
 unfold IC l8;rw[Y1 _ _ _ Y];have bY:=axF b;generalize jp b 0 8=t at bY;obtain⟨n,a,e,⟨⟩⟩:=t;by_cases aA:e=0
 .refine a1 cM ?_
  rw[UT _ bY];refine bg rfl ?_;by_cases aj:1<=n/\n<=4611686018427387904
  .rw[if_pos aj]
   rw[PG];by_cases ah:oZ n=b
   .rw[if_pos ⟨aA,aj,ah⟩,cD ah];rfl
   rw[if_neg (λh=>ah h.2.2),cC ah];rfl
  rw[if_neg aj,if_neg (λh=>aj h.2.1)];rfl
 refine bq cM ?_
 grind
abbrev m4:=V×V×Unit
def jy(s:m4):Int×Int×Bool×Unit:=
 if(l8 s.2.1).2.1=true/\((l8 s.1).2.1=false\/(l8 s.1).1<(l8 s.2.1).1) then((l8 s.2.1).1,1,true,()) else((l8 s.1).1,0,(l8 s.1).2.1,())
def agn(s:m4)(bu:s.1.length<=1000000)(Y:s.2.1.length<=1000000):IB (s,())=some (jy s):=by
 unfold IB jy UU;rw[ago _ bu,ago _ Y];generalize l8 s.1=a;generalize l8 s.2.1=b;obtain⟨n,i,⟨⟩⟩:=a;obtain⟨m,j,⟨⟩⟩:=b;by_cases h:n<m
 .cases i<;>cases j<;>(simp(disch:=omega) only[go_sem];try simp[h])
 cases i<;>cases j<;>(simp(disch:=omega) only[go_sem];try simp[h])
def YI(a b:V)(bu:a.length<=1000000)(Y:b.length<=1000000):D' ([a,b],())=some (a++b,()):=by
 have:=YK (c:=1) (z:=u8 0) J [a,b] bh (λx hx=>by
  rcases gE.1 hx with rfl|hx
  .exact bu
  rcases gE.1 hx with rfl|hx
  .exact Y
  cases hx)
 simp at this;exact this
def aal(h:(l8 b).2.1=true):(1<=(l8 b).1/\(l8 b).1<=4611686018427387904)/\oZ (l8 b).1=b:=by
 unfold l8 at h ⊢
 grind
def W3{s:m4}(h:(jy s).2.2.1=true):1<=(jy s).1/\(jy s).1<=4611686018427387904:=by
 unfold jy at h ⊢;split
 .rename_i ai;exact(aal ai.1).1
 rename_i ai;rw[if_neg ai]at h;exact(aal h).1
def ajd(s:m4):(jy s).2.1=0\/(jy s).2.1=1:=by
 unfold jy
 grind
def sG(cut:Int):Int:=if 0<=cut/\cut<16 then cut else 16
def xy(n:Int)(cut:Int)(old:V):V:=(oZ (n+1)).take (sG cut).toNat++old.drop (sG cut).toNat
def mm(s:m4)(cut:Int):m4×Int×Int×Unit:=
 if(jy s).2.2.1=false then(s,0,12,())
 else if(jy s).1=4611686018427387904 then(s,0,10,())
 else
  let cp:m4:=if(jy s).2.1=0 then(s.1,xy (jy s).1 cut s.2.1,()) else(xy (jy s).1 cut s.1,s.2.1,())
  if sG cut<16 then(cp,0,11,()) else(cp,(jy s).1,0,())
def ut(s:m4):Prop:=s.1.length=16/\s.2.1.length=16
def acO(c:Int):0<=sG c/\sG c<=16:=by unfold sG;split<;>omega
def axg(s:m4)(c:Int)(ac:ut s):NI (s,c,())=some (mm s c):=by
 obtain⟨A,B,⟨⟩⟩:=s;have dn:A.length=16:=ac.1;have aB:B.length=16:=ac.2;unfold NI mm;rw[agn (A,B,()) (by show A.length<=1000000;omega) (by show B.length<=1000000;omega)];have O:=W3 (s:=(A,B,()));have R:=ajd (A,B,());generalize jy (A,B,())=t at O R;obtain⟨n,c9,is,⟨⟩⟩:=t;cases is
 .rfl
 have O:=O rfl;refine a1 rfl ?_;have e1:i64 (av n 1)=n+1:=hM (by show -9223372036854775808<=n+1;omega) (by show n+1<=9223372036854775807;omega);rw[e1,UT _ J];by_cases aj:n=4611686018427387904
 .rw[if_pos aj,if_neg J];rfl
 rw[if_neg aj,if_pos J];refine a1 rfl ?_;have hm:=acO c;have ah:=MT (n+1);obtain⟨m,h?⟩:∃m,m=sG c:=⟨_,rfl⟩;have ht:(T (bE 0 c) (some (aJ c 16,())) (some (false,())):Option (Bool×Unit))=some (D (m<16),()):=by
  rw[h?];unfold sG;by_cases ao:0<=c
  .by_cases af:c<16
   .rw[if_pos ⟨ao,af⟩];simp(disch:=omega) only[go_sem]
   rw[if_neg (λh=>af h.2),cC J];simp(disch:=omega) only[go_sem];rw[cC af]
  rw[ cC J];simp(disch:=omega) only[go_sem]
 rw[ht];refine bg rfl ?_;have GT:(T (a_ (D (m<16))) (some (16,())) (some (c,())):Option (Int×Unit))=some (m,()):=by
  by_cases h:m<16
  .rw[cD h]
   show some (c,())=_;rw[h?]at h ⊢;unfold sG at h ⊢
   grind
  rw[cC h];show some ((16:Int),())=_
  grind
 rw[GT];have hL:∀old:V,old.length=16->D' ([cut (oZ (n+1)) (aa 0) (cd (aa m) (aa 0)),sub old m (len old)],())=some (xy n c old,()):=by
  intro old aK;have aN:cut (oZ (n+1)) (aa 0) (cd (aa m) (aa 0))=(oZ (n+1)).take (sG c).toNat:=by rw[h?];rfl
  have dJ:sub old m (len old)=old.drop (sG c).toNat:=by unfold sub;rw[h?,hS];rw[fb];show _<=(old.length:Int).toNat-_;omega
  rw[aN,dJ,YI _ _ (by rw[hE];omega) (by rw[fb];omega)];rfl
 rcases R with rfl|rfl
 .refine bq rfl ?_
  refine bn cM ?_;refine bn cM ?_;rw[hL B aB];rw[ <- h?];by_cases h:m<16
  .rw[cD h,if_pos h];rfl
  rw[cC h,if_neg h];rfl
 refine a1 rfl ?_;refine bn cM ?_;refine bn cM ?_;rw[hL A dn];rw[ <- h?];by_cases h:m<16
 .rw[cD h,if_pos h];rfl
 rw[cC h,if_neg h];rfl
def Do:m4:=(oZ 1,List.replicate 16 (u8 0),())
def jT(p:Int):Prop:=2<=p/\p<=6
def oJ(p:Int):Prop:=p=3\/p=4\/p=5
instance (p:Int):Decidable (jT p):=by unfold jT;infer_instance
instance (p:Int):Decidable (oJ p):=by unfold oJ;infer_instance
def z8(p:Int):Int:=if p=0 then 0 else if p=1 then 1 else if p=2 then 2 else if p=3 then 3 else if p=4 then 4 else if p=5 then 4 else if p=6 then 5 else -1
def aeh(p:Int):AC (p,())=some (z8 p,()):=by
 unfold AC z8;by_cases ao:p=0
 .subst ao;rfl
 by_cases O:p=1
 .subst O;rfl
 by_cases R:p=2
 .subst R;rfl
 by_cases af:p=3
 .subst af;rfl
 by_cases aq:p=4
 .subst aq;rfl
 by_cases a8:p=5
 .subst a8;rfl
 by_cases cS:p=6
 .subst cS;rfl
 rw[if_neg ao,if_neg O,if_neg R,if_neg af,if_neg aq,if_neg a8,if_neg cS];simp(disch:=omega) only[go_sem]
def ase(p:Int):2<=z8 p↔jT p:=by
 unfold z8 jT
 repeat' split
 all_goals omega
def asf(p:Int):z8 p=3\/z8 p=4↔oJ p:=by
 unfold z8 oJ
 all_goals omega
def HY(p:Int):uk (p,())=some (D (jT p),()):=by unfold uk;rw[aeh];simp only[go_sem,ase]
def HX(p:Int):xS (p,())=some (D (oJ p),()):=by unfold xS;simp only[go_sem,aeh,asf]
def zm(c s:Int)(b:V):Prop:=pL c/\1<=s/\s<=999999/\1<=b.length/\b.length<=900
instance (c s:Int) (b:V):Decidable (zm c s b):=by unfold zm;infer_instance
def aiT(c:Int):J1 (c,())=some (D (pL c),()):=by
 unfold J1 pL;by_cases O:c=1
 .subst O;simp only[go_sem]
 by_cases R:c=2
 .subst R;simp(disch:=omega) only[go_sem]
 by_cases af:c=101
 .subst af;simp(disch:=omega) only[go_sem]
 by_cases aq:c=201
 .subst aq;simp(disch:=omega) only[go_sem]
 simp only[go_sem,O,R,af,aq]
def aiW(c s:Int)(b:V):J4 (c,s,b,())=some (D (zm c s b),()):=by
 unfold J4 zm;rw[aiT];by_cases ap:pL c
 .simp only[go_sem,ap];exact pY J
 rw[cC (p:=_/\_) (λh=>ap h.1)];simp only[go_sem,ap]
def jV:eS:=(0,0,0,0,[],())
def nN(c s:Int)(b:V):eS×Int×Unit:=if zm c s b then((c,s,8,3,b,()),0,()) else(jV,1,())
def aiS(c s:Int)(b:V):J0 (c,s,b,())=some (nN c s b):=by
 unfold J0 nN;rw[aiW];by_cases h:zm c s b
 .rw[cD h,if_pos h];rfl
 rw[cC h,if_neg h];rfl
def WW(a:eS):Ff (a,())=some (D (a=jV),()):=by
 unfold Ff Ph jV;simp only[go_sem,PG];refine pY ?_
 grind
def qC(a:eS)(c s:Int):Prop:=¬a=jV/\a.1=c/\a.2.1=s
def J2(a:eS)(c s:Int):wM (a,c,s,())=some (D (qC a c s),()):=by unfold wM qC;rw[WW];simp only[go_sem]
def AN(a:eS):Prop:=a=jV\/zm a.1 a.2.1 a.2.2.2.2.1/\1<=a.2.2.1/\a.2.2.1<=8/\0<=a.2.2.2.1/\a.2.2.2.1<=3
def lw(n:Int):Int:=if n<0\/999999<=n then 1 else n+1
def aiU(n:Int):J3 (n,())=some (lw n,()):=by
 unfold J3 lw;by_cases h:n<0\/999999<=n
 .rw[if_pos h];simp(disch:=omega) only[go_sem]
 rw[if_neg h];simp(disch:=omega) only[go_sem]
def T3(u:List Bool)(n:Nat):Option Nat:=((List.range 4).map λi=>(n+i)%4).find? λc=>u.getD c false
def eF(h:eO):eO×Int×Int×Unit:=match T3 h.1 h.2.2.2.1.toNat with|none=>(h,0,11,())|some c=>((h.1,h.2.1,h.2.2.1,(((c+1)%4:Nat):Int),()),(c:Int),0,())
def Z4{w:List α}(h:w.length=4):∃a b c d,w=[a,b,c,d]:=by
 match w,h with
 |[a,b,c,d],_=>exact⟨a,b,c,d,rfl⟩
def aq5(h:eO)(aL:h.1.length=4)(aj:0<=h.2.2.2.1/\h.2.2.2.1<4):SF (h,())=some (eF h):=by obtain⟨u,f,l,n,⟨⟩⟩:=h;dsimp only at aL aj;obtain⟨a,b,c,d,rfl⟩:=Z4 aL;have:n=0\/n=1\/n=2\/n=3:=J;rcases this with rfl|rfl|rfl|rfl<;>cases a<;>cases b<;>cases c<;>cases d<;>(refine(c' (t? 5 rfl)).trans ?_;kernel_rfl)
def anC(b:V)(h:1<=b.length/\b.length<=1024):Rf (b,())=some (fq b,0,()):=by refine bg (a:=(false,())) (a1 cM (by rw[show aJ 1024 (len b)=false from c3 cM])) ?_;refine bn (by simp only[go_sem];simp;omega) ?_;rfl
abbrev ws:=Int×V×Unit
def jF:ws:=(0,[],())
def n7:fc:=(jF,jF,jF,0,0,())
def arW(g:ws):(g.1=0/\(g.2.1.length:Int)=0)↔g=jF:=by obtain⟨n,k,⟨⟩⟩:=g;unfold jF;simp
def Ux(g:ws):Ib (g,())=some (D (g=jF),()):=by unfold Ib;simp only[go_sem];exact pY (arW g)
def sR(g:ws):Prop:=1<=g.1/\g.1<=2147483647/\g.2.1.length=32
instance (g:ws):Decidable (sR g):=by unfold sR;infer_instance
def awa(g:ws):M5 (g,())=some (D (sR g),()):=by unfold M5 sR;simp only[go_sem];exact pY J
def arX(r:fc):(r.1=jF/\r.2.1=jF/\r.2.2.1=jF/\r.2.2.2.1=0/\r.2.2.2.2.1=0)↔r=n7:=by obtain⟨a,b,c,l,t,⟨⟩⟩:=r;unfold n7;simp
def aeY(r:fc):M7 ((r,()),())=some (D (r=n7),()):=by
 refine bg rfl ?_;generalize hf:(λ(x:Bool×Int×Unit)=>(_:Option (aE (Bool×Int×Unit) (Bool×Unit))))=f;have key:=acK (f:=f) [r.1,r.2.1,r.2.2.1] (λi=>(false,(i:Int),())) 0 ((false,()):Bool×Unit) (λg=>g=jF) (λi h hp => ?_) (λi h hp => ?_) ?_
 .rcases key with⟨h,hl⟩|⟨h,hl⟩
  .refine(c' (hl)).trans ?_
   have O:=h r.1 bh;have R:=h r.2.1 bh;have af:=h r.2.2.1 bh;simp only[go_sem];exact pY (Iff.trans ⟨λh=>⟨O,R,af,h.1,h.2⟩,λh=>⟨h.2.2.2.1,h.2.2.2.2⟩⟩ (arX r))
  refine(c' (hl)).trans ?_;rw[cC (λe=>h (by rw[e];intro x hx;simp[n7]at hx;exact hx))];rfl
 .subst hf
  have af:i<3:=h;have gG:i64 (av (i:Int) 1)=((i+1:Nat):Int):=fP rfl J;refine bq cM ?_;refine bn cM ?_;rw[gG,he,nth_get h,Ux,cD hp];rfl
 .subst hf
  have af:i<3:=h;refine bq cM ?_;refine bn cM ?_;rw[he,nth_get h,Ux,cC hp];rfl
 subst hf;rfl
def rn(r:fc):Int×Int×Unit:=if r=n7 then(0,9,()) else if 2147483647<=r.2.2.2.2.1 then(0,10,()) else(r.2.2.2.2.1+1,0,())
def av7(r:fc)(h:r.2.2.2.2.1<=2147483647)(ao:0<=r.2.2.2.2.1):M3 (r,())=some (rn r):=by
 unfold M3 rn;rw[aeY];by_cases ah:r=n7
 .rw[cD ah,if_pos ah];rfl
 rw[cC ah,if_neg ah];by_cases ht:2147483647<=r.2.2.2.2.1
 .rw[if_pos ht];simp(disch:=omega) only[go_sem]
 rw[if_neg ht];simp(disch:=omega) only[go_sem]
def mg(r:fc)(no:Int)(key:V):fc×Int×Unit:=
 if ¬sR (no,key,()) then(r,1,()) else if r=n7\/no<=r.1.1\/no<r.2.2.1.1 then(r,9,()) else((r.1,r.2.1,(no,key,()),r.2.2.2.1,max r.2.2.2.2.1 no,()),0,())
def Uw(r:fc)(no:Int)(key:V):DR (r,no,key,())=some (mg r no key):=by
 unfold DR mg;rw[awa];by_cases hg:sR (no,key,())
 .rw[if_neg (not_not_intro hg),cD hg]
  rw[aeY];by_cases ai:r=n7\/no<=r.1.1\/no<r.2.2.1.1
  .rw[if_pos ai]
   simp(disch:=omega) only[go_sem]
  rw[if_neg ai];simp at ai;obtain⟨c1,c2,hw⟩:=ai;simp(disch:=omega) only[go_sem,c1]
 rw[if_pos hg,cC hg];rfl
def Bq(r:fc):fc:=(r.1,r.2.1,jF,r.2.2.2)
theorem azO(r:fc):Ia (r,())=some (Bq r,()):=rfl
def Be(r:fc):fc×Int×Unit:=if r.2.2.1=jF then(r,9,()) else((r.2.2.1,r.1,jF,16,r.2.2.2.2),0,())
def aeX(r:fc):AQ (r,())=some (Be r):=by
 unfold AQ Be;rw[Ux];by_cases h:r.2.2.1=jF
 .rw[if_pos h,cD h];rfl
 rw[if_neg h,cC h];rfl
def Dn(k:V):fc×Int×Unit:=if k.length=32 then(((1,k,()),jF,jF,0,1,()),0,()) else(n7,1,())
def av6(k:V):M2 (k,())=some (Dn k):=by
 unfold M2 Dn;by_cases h:k.length=32
 .rw[if_pos h];simp(disch:=omega) only[go_sem];rfl
 rw[if_neg h];simp(disch:=omega) only[go_sem];rfl
def lR(r:fc):Prop:=r=n7\/(sR r.1/\r.2.2.2.2.1<=2147483647/\r.1.1<=r.2.2.2.2.1/\r.2.2.1.1<=r.2.2.2.2.1 /\
 (r.2.1=jF/\r.2.2.2.1=0\/¬r.2.1=jF/\sR r.2.1/\r.2.1.1<r.1.1/\1<=r.2.2.2.1/\r.2.2.2.1<=16)/\(r.2.2.1=jF\/sR r.2.2.1/\r.1.1<r.2.2.1.1))
def qk(r:fc)(no:Int):V×Bool×Unit:=
 if no<1 then([],false,()) else if r.1.1=no then(r.1.2.1,true,()) else if r.2.1.1=no then(r.2.1.2.1,true,()) else if r.2.2.1.1=no then(r.2.2.1.2.1,true,()) else([],false,())
def dC(n:Int):Prop:=0<=n/\n<=4611686018427387904
instance (n:Int):Decidable (dC n):=by unfold dC;infer_instance
def d4(v:dr):Int:=ak v.2.2.1 0 0
def e1(v:dr):Int:=ak v.2.2.1 1 0
def mi(v:dr):Prop:=(v.1=1\/v.1=2)/\dC (d4 v)/\dC (e1 v)/\dC v.2.2.2.2.1/\(v.2.1=0\/v.2.1=1)/\(0<=v.2.2.2.1/\v.2.2.2.1<=2147483647)/\1<=v.2.2.2.2.2.1.length/\v.2.2.2.2.2.1.length<=900
def QW(n hi:Int):Co (n,hi,())=some (D (0<=n/\n<=hi),()):=by unfold Co;simp only[go_sem]
def Zk(v:dr):FP (v,())=some (D (mi v),()):=by
 obtain⟨k,d,e,g,s,b,t,⟨⟩⟩:=v;unfold FP mi d4 e1;by_cases ap:k=1\/k=2
 .refine bg (a:=(false,())) (by rcases ap with rfl|rfl<;>rfl) ?_
  rw[show aa 0=0 from rfl,show aa 1=1 from rfl];generalize ak e 0 0=x;generalize ak e 1 0=y;generalize hf:(λ(ab:Bool×Int×Unit)=>(_:Option (aE (Bool×Int×Unit) (Bool×Unit))))=f;have key:=acK (f:=f) [x,y,s] (λi=>(false,(i:Int),())) 0 ((false,()):Bool×Unit) dC (λi h hp => ?_) (λi h hp => ?_) ?_
  .rcases key with⟨h,hl⟩|⟨h,hl⟩
   .refine(c' (hl)).trans ?_
    have O:=h x bh;have R:=h y bh;have af:=h s bh;simp only[go_sem,QW];refine pY ?_
    grind
   refine(c' (hl)).trans ?_;rw[cC (λai=>h λz bj => ?_)]
   .rfl
   grind
  .subst hf
   have af:i<3:=h;have gG:i64 (av (i:Int) 1)=((i+1:Nat):Int):=fP rfl J;refine bq cM ?_;refine bn cM ?_;rw[gG,he,nth_get h,QW,cD (show 0<=[x,y,s][i]/\[x,y,s][i]<=4611686018427387904 from hp)];rfl
  .subst hf
   have af:i<3:=h;refine bq cM ?_;refine bn cM ?_;rw[he,nth_get h,QW,cC (show ¬(0<=[x,y,s][i]/\[x,y,s][i]<=4611686018427387904) from hp)];rfl
  subst hf;rfl
 rw[cC (λh=>ap h.1)];simp at ap;obtain⟨O,R⟩:=ap;refine bg (a:=(true,())) (by simp only[go_sem,O,R]) ?_;rfl
def f?(w:Nat)(n:Int):V:=aZ 256 m_ n.toNat w
def m9(w:Nat)(n:Int):(f? w n).length=w:=lm _ _ _ _
def cZ(v:dr):V:=f? 1 v.1++f? 1 v.2.1++f? 8 (d4 v)++f? 8 (e1 v)++f? 4 v.2.2.2.1++f? 8 v.2.2.2.2.1++v.2.2.2.2.2.1
def xv(v:dr):(cZ v).length=30+v.2.2.2.2.2.1.length:=by unfold cZ;simp only[cE,m9]
def aji{n:Int}(O:1<=w)(cx:w<=8)(ao:0<=n)(h:n<256^w)(aj:n<=9223372036854775807):pu (n,(w:Int),())=some (f? w n,0,()):=by rw[QI _ _ aj,if_pos ⟨J,J,ao,by rw[iZ];exact h⟩];rfl
def L5{f:Int×V×Unit->Option (aE (Int×V×Unit) Unit)}(w:Nat)(l:List Int)(db:V)(O:1<=w)(cx:w<=8)(hl:l.length<=10)(bu:db.length<=1000)(h:∀n∈l,0<=n/\n<256^w/\n<=9223372036854775807)
  (hf:f=λ(ab:Int×V×Unit)=>T (aJ ab.1 (len l)) (am (aU ab.1 (len l)) (ob (pu (ak l (aa ab.1) 0,(w:Int),())) λ(a:V×Int×Unit)=>am (cz 1 (bQ (aT ab.2.1) (aT a.1))) (some (aE.nx (i64 (av ab.1 1),bv ab.2.1 a.1,()))))) (some (aE.ex 0 (ab.1,ab.2.1,())))) :
  bN f (0,db,())=some (.ex 0 ((l.length:Int),db++l.flatMap (f? w),())):=by
 have hL:∀i,((l.take i).flatMap (f? w)).length<=8*i:=by intro i;rw[List.length_flatMap];have:((l.take i).map λa=>(f? w a).length)=(l.take i).map λ_=>w:=List.map_congr_left λa _=>m9 w a;rw[this,List.map_const',List.sum_replicate_nat,hE];have:min i l.length*w<=i*8:=JJ (Nat.min_le_left _ _) cx;omega
 have step:∀i:Nat,i<l.length->f ((i:Int),db++(l.take i).flatMap (f? w),())=some (.nx (((i+1:Nat):Int),db++(l.take (i+1)).flatMap (f? w),())):=by intro i hi;subst hf;have gG:i64 (av (i:Int) 1)=((i+1:Nat):Int):=fP (by show(i:Int)+1=_;omega) J;obtain⟨bG,b_,co⟩:=h l[i] (mu hi);have xg:=hL i;refine bq cM ?_;refine bn cM ?_;rw[gG,he,nth_get hi,aji O cx bG b_ co];refine bn (by simp only[go_sem];simp only[cE,m9];omega) ?_;rw[nH hi,O2,yM,E9,hF];unfold bv;simp
 have f7:∀u,f ((l.length:Int),u,())=some (.ex 0 ((l.length:Int),u,())):=by subst hf;intro u;exact b1 cM
 have:=(md (f:=f) (λi=>((i:Int),db++(l.take i).flatMap (f? w),())) l.length step 0 (fK _)).trans (d_ (f7 _));rw[hS (bU _),BQ,E9,hF]at this;exact this
def QV(v:dr)(aC:mi v):w4 (v,())=some (cZ v,0,()):=by
 unfold w4;rw[Zk,cD aC];obtain⟨k,d,e,g,s,b,t,⟨⟩⟩:=v;unfold cZ;obtain⟨O,R,af,aq,a8,cS,dN,cx⟩:=aC;unfold d4 dC at R;unfold e1 dC at af;unfold dC at aq;unfold d4 e1;dsimp only at *
 rw[show aa 0=0 from rfl,show aa 1=1 from rfl];generalize ak e 0 0=x at R;generalize ak e 1 0=y at af;refine(c' (L5 1 [k,d] [] J J bh bh (λn aj => ?_) rfl)).trans ?_
 .grind
 refine(c' (L5 8 [x,y] _ J J bh (by simp[m9]) (λn aj => ?_) rfl)).trans ?_
 .grind
 refine(c' (L5 4 [g] _ J J bh (by simp[m9]) (λn aj => ?_) rfl)).trans ?_
 .grind
 refine(c' (L5 8 [s] _ J J bh (by simp[m9]) (λn aj => ?_) rfl)).trans ?_
 .grind
 refine bn g62 ?_;refine bn (by simp only[go_sem];simp[m9];omega) ?_;rfl
def o0(v:dr):Prop:=mi v/\v.2.2.2.2.2.2.1.length=16
def jK(v:dr)(t:V):dr:=(v.1,v.2.1,v.2.2.1,v.2.2.2.1,v.2.2.2.2.1,v.2.2.2.2.2.1,t,())
def Zj(v:dr):Cn (v,())=some (D (o0 v),()):=by unfold Cn o0;rw[Zk];simp only[go_sem];exact pY (and_congr_right λ_=>J)
def amN(v:dr)(aC:o0 v):KP (v,())=some (cZ v++v.2.2.2.2.2.2.1,0,()):=by unfold KP;rw[Zj,cD aC];rw[QV _ aC.1];have O:=xv v;have R:=aC.2;have af:=aC.1.2.2.2.2.2.2.2;refine bn cM ?_;rfl
abbrev gX:=Int×List UInt64×Unit
abbrev qb:=Int×V×Unit
abbrev lz:=Int×List Int×Int×V×Unit
abbrev p_:=V×Int×Int×Unit
def ep:p_:=([],0,0,())
def KU(f:p_):Int:=256*aI (ak f.1 0 (u8 0))+aI (ak f.1 1 (u8 0))
def pU(f:p_):Prop:=¬(f.2.1<0\/65535<f.2.1\/0<f.2.1/\0<f.1.length)/\(f.1.length<2\/1<=KU f/\KU f<=1024/\(f.1.length:Int)<KU f+2)
def x7:pU ep:=⟨bP,.inl bP⟩
structure c_ where
 id:Int
 key:V
 ph:Int
 store:m4
 power:Int
 own:Int
 oth:Int
 seen:Int
 seq:Int
 win:gX
 ring:fc
 ask:eS
 stan:Int
 day:Int
 queue:List V
 hub:eO
 bB:List qb
 got:List lz
 dt:List Int
def c_.t(e:c_):qc:=(e.id,e.key,e.ph,e.store,e.power,e.own,e.oth,e.seen,e.seq,e.win,e.ring,e.ask,e.stan,e.day,e.queue,e.hub,e.bB,e.got,e.dt,())
structure aG where
 e:c_
 p:fm
def aG.t(s:aG):e6:=(s.e.t,s.p,())
def sJ:gX:=(0,Bz,())
structure qH(n:Nat)(e:c_):Prop where
 id:e.id=0\/e.id=1
 key:e.key.length<=1000
 ph:0<=e.ph/\e.ph<=8
 store:ut e.store
 own:dC e.own
 oth:dC e.oth
 seq:dC e.seq
 ring:lR e.ring
 up:e.hub.1.length=4
 next:0<=e.hub.2.2.2.1/\e.hub.2.2.2.1<4
 bB:e.bB.length<=n
 got:e.got.length<=n
 dt:e.dt.length=4
 win:e.win.2.1.length=16
 feed:e.hub.2.1.length=4
 life:e.hub.2.2.1.length=4
 queue:e.queue.length<=8
 top:0<=e.win.1/\e.win.1<=4611686018427387905
 fd:∀c,pU (ak e.hub.2.1 c ep)
 askr:AN e.ask
 outs:∀x∈e.bB,(0<=x.1/\x.1<4)/\x.2.1.length<=948
structure bA(n:Nat)(s:aG):Prop where
 e:qH n s.e
 p:s.p.2.1.length<=n
def gs(e:c_):List Int:=if e.id=0 then[e.own,e.oth]else if e.id=1 then[e.oth,e.own]else[0,0]
def S5(hi n:Int):Ac (hi,[n],())=some (D (0<=n/\n<=hi),()):=by
 by_cases h:0<=n/\n<=hi
 .rw[cD h]
  refine(c' (ez (y:=(false,1,())) ?_)).trans ((c' (d_ (y:=(false,1,())) (k:=0) rfl)).trans rfl);refine bq rfl (bn rfl ?_);rw[show ak [n] (aa 0) 0=n from rfl];simp(disch:=omega) only[go_sem];rfl
 rw[cC h];refine(c' (pN (r:=(false,())) ?_)).trans rfl;rw[show ak [n] (aa 0) 0=n from rfl];refine bg (a:=(true,())) (by simp only[go_sem];try exact D? J) ?_;rfl
def aso(hi n m:Int):Ac (hi,[n,m],())=some (D ((0<=n/\n<=hi)/\(0<=m/\m<=hi)),()):=by
 by_cases h:0<=n/\n<=hi
 .refine(c' (ez (y:=(false,1,())) ?_)).trans ?_
  .refine bq rfl (bn rfl ?_)
   rw[show ak [n,m] (aa 0) 0=n from rfl];simp(disch:=omega) only[go_sem];rfl
  by_cases bL:0<=m/\m<=hi
  .rw[cD ⟨h,bL⟩]
   refine(c' (ez (y:=(false,2,())) ?_)).trans ((c' (d_ (y:=(false,2,())) (k:=0) rfl)).trans rfl);refine bq rfl (bn rfl ?_);rw[show ak [n,m] (aa 1) 0=m from rfl];simp(disch:=omega) only[go_sem];rfl
  rw[cC (λx=>bL x.2)];refine(c' (pN (r:=(false,())) ?_)).trans rfl;rw[show ak [n,m] (aa 1) 0=m from rfl];refine bg (a:=(true,())) (by simp only[go_sem];try exact D? J) ?_;rfl
 rw[cC (λx=>h x.1)];refine(c' (pN (r:=(false,())) ?_)).trans rfl;rw[show ak [n,m] (aa 0) 0=n from rfl];refine bg (a:=(true,())) (by simp only[go_sem];try exact D? J) ?_;rfl
def xz(e:c_):nn (e.t,())=some (gs e,()):=by
 unfold nn gs;dsimp only[c_.t];rw[S5];by_cases ao:e.id=0
 .rw[ao,cD J];rfl
 rw[if_neg ao];by_cases O:e.id=1
 .rw[O,cD J];rfl
 rw[if_neg O,cC J];rfl
def gY(key:V):V:=Kz key [98,97,115,101] []
def W1(key:V):(gY key).length=32:=QF _ _ _
def acs(key:V)(h:key.length<=1000000):z? (key,())=some (gY key,()):=by unfold z?;rw[acM _ _ _ h bP bP bP];rfl
def vD(key:V)(p:List Int)(kN:Int)(gK:V):V:=
 if dC (ak p 0 0)/\dC (ak p 1 0)/\0<=kN/\kN<=2147483647 then Kz key [108,105,110,107] [f? 8 (ak p 0 0),f? 8 (ak p 1 0),f? 4 kN,gK]else[]
def Pp{n:Int}{w:Int}(bb:w=8\/w=4)(h:0<=n/\n<256^w.toNat)(aj:n<=9223372036854775807):pu (n,w,())=some (f? w.toNat n,0,()):=by rw[QI _ _ aj,if_pos ⟨J,J,h.1,h.2⟩];rfl
def asb{a:V}{c gK:V}(bu:a.length=8)(Y:b.length=8)(ai:c.length=4)(aj:gK.length<=1000):∀p∈[a,b,c,gK],p.length<=1000:=by grind
def DB{n:Int}(h:dC n):0<=n/\n<256^(8:Int).toNat:=⟨h.1,by have:=h.2;show n<256^8;omega⟩
def act(key:V)(p:List Int)(kN:Int)(gK:V)(ap:key.length<=1000000)(aj:gK.length<=1000):Aa (key,p,kN,gK,())=some (vD key p kN gK,()):=by
 unfold Aa vD;refine bn rfl (bn rfl ?_);rw[show aa 0=0 from rfl,show aa 1=1 from rfl];generalize ak p 0 0=x;generalize ak p 1 0=y;rw[aso];by_cases h:dC x/\dC y
 .rw[cD (show(0<=x/\x<=4611686018427387904)/\(0<=y/\y<=4611686018427387904) from h)]
  refine bg rfl (a1 rfl ?_);rw[S5];by_cases hg:0<=kN/\kN<=2147483647
  .rw[cD hg,if_pos ⟨h.1,h.2,hg⟩]
   refine bg rfl (a1 rfl (bn rfl ?_));rw[Pp (.inl rfl) (DB h.1) (by have:=h.1.2;omega)];refine bg rfl (bn rfl ?_);rw[Pp (.inl rfl) (DB h.2) (by have:=h.2.2;omega)];refine bg rfl ?_;rw[Pp (.inr rfl) ⟨hg.1,by show kN<256^4;omega⟩ J];refine bg rfl ?_;rw[show(8:Int).toNat=8 from rfl,show(4:Int).toNat=4 from rfl,acM key [108,105,110,107] _ ap bh bh (asb (m9 _ _) (m9 _ _) (m9 _ _) aj)];rfl
  rw[cC hg,if_neg (λh=>hg h.2.2)];rfl
 rw[cC (show ¬((0<=x/\x<=4611686018427387904)/\(0<=y/\y<=4611686018427387904)) from h),if_neg (λbL=>h ⟨bL.1,bL.2.1⟩)];rfl
def azC{p:List Int}{kN:Int}{gK:V}(h:dC (ak p 0 0)/\dC (ak p 1 0)/\0<=kN/\kN<=2147483647):(vD key p kN gK).length=32:=by unfold vD;rw[if_pos h,QF]
def Hp(e:c_)(p:Int):c_:={ e with ph:=p,own:=0,oth:=0,seq:=0,win:=sJ,ring:=n7,ask:=jV,queue:=[],got:=if jT e.ph then e.got++[(5,gs e,0,[],())]else e.got }
def Ku(l:List lz):x' (l,())=some (l,()):=by unfold x';rw[U8];exact dR (Qm l)
def alT(l:List qb):ND (l,())=some (l,()):=by unfold ND;rw[U8];exact dR (Qm l)
def acu(e:c_)(p:Int)(hg:e.got.length<=1050000000000):Ab (e.t,p,())=some ((Hp e p).t,()):=by
 unfold Ab Hp;dsimp only[c_.t];rw[HY];by_cases h:jT e.ph
 .rw[cD h,if_pos h]
  rw[Ku];rw[show nn ((e.id,e.key,e.ph,e.store,e.power,e.own,e.oth,e.seen,e.seq,e.win,e.ring,e.ask,e.stan,e.day,e.queue,e.hub,e.bB,e.got,e.dt,()),())=_ from xz e];refine bn (by simp only[go_sem];simp;omega) ?_;rfl
 rw[cC h,if_neg h];rfl
def j6{b:Int}(h:a=b):a_ (ag a b)=false:=by rw[cJ h];rfl
def lF{b:Int}(h:¬a=b):a_ (ag a b)=true:=by rw[cr h];rfl
def aeW{r:fc}(h:lR r):0<=r.1.1/\r.1.1<=2147483647/\r.1.2.1.length<=32:=by
 rcases h with rfl|⟨⟨O,R,af⟩,_⟩
 .exact⟨bP,bP,bP⟩
 omega
def mF(s:aG)(v:dr)(key:V):aG×Int:=
 if(eF s.e.hub).2.2.1=0 then
  (⟨{ s.e with hub:=(eF s.e.hub).1,bB:=s.e.bB++[((eF s.e.hub).2.1,fq (cZ v++jX key (cZ v)),())] },ln s.p key (cZ v)⟩,0)
 else(s,(eF s.e.hub).2.2.1)
def acv{s:aG}(ac:bA n s)(aj:n<=1000000000000)(v:dr)(aC:mi v)(key:V)(ap:key.length<=1000000):Hl (s.t,v,key,())=some ((mF s v key).1.t,(mF s v key).2,()):=by
 unfold Hl mF;dsimp only[aG.t,c_.t];have hp:=ac.p;have aK:=ac.e.bB;rw[aq5 _ ac.e.up ac.e.next];by_cases hh:(eF s.e.hub).2.2.1=0
 .rw[if_pos hh]
  refine a1 (by simp only[go_sem];exact not_not_intro hh) ?_;rw[QV _ aC];refine bg rfl ?_;have Y:=aC.2.2.2.2.2.2;have hl:=xv v;dsimp only;rw[auU _ _ _ J ap J];refine bg rfl ?_;have ht:=AP key (cZ v);rw[amN (v.1,v.2.1,v.2.2.1,v.2.2.2.1,v.2.2.2.2.1,v.2.2.2.2.2.1,jX key (cZ v),v.2.2.2.2.2.2.2) ⟨aC,ht⟩];refine bg rfl ?_;rw[show cZ (v.1,v.2.1,v.2.2.1,v.2.2.2.1,v.2.2.2.2.1,v.2.2.2.2.2.1,jX key (cZ v),v.2.2.2.2.2.2.2)=cZ v from rfl,anC _ (by grind)];rw[alT];refine bn (by simp only[go_sem];simp;omega) ?_;rfl
 rw[if_neg hh];refine bq (by simp only[go_sem];exact hh) ?_;rfl
def h9(e:c_)(body:V):dr:=(2,e.id,gs e,e.ring.1.1,e.seq,body,[],())
def g8(e:c_)(other:Int)(body:V):dr:=(1,e.id,gs { e with oth:=other },0,0,body,[],())
def nX(b:V):Prop:=1<=b.length/\b.length<=900
instance (b:V):Decidable (nX b):=by unfold nX;infer_instance
def TZ{e:c_}(O:dC e.own)(R:dC e.oth):dC (ak (gs e) 0 0)/\dC (ak (gs e) 1 0):=by
 unfold gs;split
 .exact⟨O,R⟩
 split
 .exact⟨R,O⟩
 exact⟨bP,bP⟩
def awM{e:c_}(h:qH n e){body:V}(Y:nX body):mi (h9 e body):=by have ah:=aeW h.ring;exact⟨.inr rfl,(TZ h.own h.oth).1,(TZ h.own h.oth).2,h.seq,h.id,⟨ah.1,ah.2.1⟩,Y.1,Y.2⟩
def awP{e:c_}(h:qH n e){o:Int}(aK:dC o){body:V}(Y:nX body):mi (g8 e o body):=by have:=TZ (e:={ e with oth:=o }) h.own aK;exact⟨.inl rfl,this.1,this.2,by show dC 0;decide,h.id,⟨by show(0:Int)<=0;decide,by show(0:Int)<=2147483647;decide⟩,Y.1,Y.2⟩
def gj(s:aG)(body:V):aG×Int:=
 if ¬nX body then(s,1) else if ¬jT s.e.ph then(s,7) else if s.e.seq=4611686018427387904 then(s,10)
 else let r:=mF s (h9 s.e body) s.e.ring.1.2.1;if r.2=0 then(⟨{ r.1.e with seq:=r.1.e.seq+1 },r.1.p⟩,0) else r
def Zd(s:aG)(v:dr)(key:V):(mF s v key).1.e.seq=s.e.seq:=by unfold mF;split<;>rfl
def S4(b:V):Hm (b,())=some (D (nX b),()):=by unfold Hm nX;simp only[go_sem];exact pY J
def awK{s:aG}{r:aG×Int}(abL:dC r.1.e.seq)(kO:¬r.1.e.seq=4611686018427387904):
 (ob (some (r.1.t,r.2,())) λ(a:e6×Int×Unit)=>
 T (ag a.2.1 0) (some (((a.1.1.1,a.1.1.2.1,a.1.1.2.2.1,a.1.1.2.2.2.1,a.1.1.2.2.2.2.1,a.1.1.2.2.2.2.2.1,a.1.1.2.2.2.2.2.2.1,a.1.1.2.2.2.2.2.2.2.1,i64 (av a.1.1.2.2.2.2.2.2.2.2.1 1),a.1.1.2.2.2.2.2.2.2.2.2),a.1.2),a.2.1,())) (some (a.1,a.2.1,()))) =
  some ((if r.2=0 then(⟨{ r.1.e with seq:=r.1.e.seq+1 },r.1.p⟩,0) else r:aG×Int).1.t,(if r.2=0 then(⟨{ r.1.e with seq:=r.1.e.seq+1 },r.1.p⟩,0) else r:aG×Int).2,()):=by
 obtain⟨⟨e,p⟩,c⟩:=r;by_cases h:c=0
 .subst h
  rw[if_pos rfl];refine bq rfl ?_;dsimp only[aG.t,c_.t]at abL ⊢;obtain⟨bG,b_⟩:=abL;rw[show i64 (av e.seq 1)=e.seq+1 from hM (by show -9223372036854775808<=e.seq+1;omega) (by show e.seq+1<=9223372036854775807;omega)]
 rw[if_neg h];refine a1 (by simp only[go_sem];exact h) ?_;rfl
def xA{s:aG}(ac:bA n s)(aj:n<=1000000000000)(b:V):np (s.t,b,())=some ((gj s b).1.t,(gj s b).2,()):=by
 unfold np gj;rw[S4];by_cases Y:nX b
 .rw[cD Y,if_neg (not_not_intro Y)]
  refine a1 rfl ?_;rw[show s.t.1.2.2.1=s.e.ph from rfl,HY];by_cases hl:jT s.e.ph
  .rw[cD hl,if_neg (not_not_intro hl)]
   refine a1 rfl ?_;by_cases a2:s.e.seq=4611686018427387904
   .rw[if_pos a2]
    exact ce (by simp only[go_sem];exact a2)
   rw[if_neg a2];refine a1 (by simp only[go_sem];exact a2) ?_;rw[show nn (s.t.1,())=_ from xz s.e];refine bg rfl ?_;have aC:=awM ac.e Y;have ap:=(aeW ac.e.ring).2.2;have R0:=acv ac aj _ aC s.e.ring.1.2.1 J;have O:=Zd s (h9 s.e b) s.e.ring.1.2.1;exact uT (bJ R0) (awK (s:=s) (r:=mF s (h9 s.e b) s.e.ring.1.2.1) (by rw[O];exact ac.e.seq) J)
  rw[cC hl,if_pos hl];rfl
 rw[cC Y,if_pos Y];rfl
def o5(s:aG)(other:Int)(body:V):aG×Int:=if dC other/\nX body then mF s (g8 s.e other body) (gY s.e.key) else(s,1)
def S3{s:aG}(ac:bA n s)(aj:n<=1000000000000)(o:Int)(b:V):C? (s.t,o,b,())=some ((o5 s o b).1.t,(o5 s o b).2,()):=by
 unfold C? o5;rw[S5];refine bg rfl ?_;by_cases Y:dC o/\nX b
 .rw[if_pos Y,cD (show 0<=o/\o<=4611686018427387904 from Y.1)]
  refine bg (a:=(false,())) (a1 rfl (by rw[S4,cD Y.2];rfl)) ?_;have hp:=xz { s.e with oth:=o };refine(bJ (hp)).trans ?_;have ap:=ac.e.key;rw[show z? (s.t.1.2.1,())=_ from acs s.e.key J];have R0:=acv ac aj _ (awP ac.e Y.1 Y.2) (gY s.e.key) (by rw[W1];omega);exact(bJ R0).trans rfl
 rw[if_neg Y];by_cases O:dC o
 .rw[cD (show 0<=o/\o<=4611686018427387904 from O)]
  rw[S4,cC (λh=>Y ⟨O,h⟩)];rfl
 rw[cC (show ¬(0<=o/\o<=4611686018427387904) from O)];rfl
def PE(c:List Int)(i:Nat):List Int:=cj c i (i64 (av (ak c i 0) 1))
def gy(s:aG)(i:Nat):aG:=⟨{ s.e with dt:=PE s.e.dt i },s.p⟩
def S2(s:aG):ke (s.t,13,())=some ((gy s 3).t,()):=by exact(c' (t? 5 rfl)).trans rfl
def ww:=@Classical.not_not
def yN:=@Nat.le_succ_of_le
def Dx{e:c_}(h:qH n e)(hm:n<=m):qH m e:={ h with bB:=e0 h.bB hm,got:=e0 h.got hm }
def df{s:aG}(h:bA n s)(hm:n<=m):bA m s:=⟨Dx h.e hm,e0 h.p hm⟩
def auF(h:eO):(eF h).1.1=h.1:=by unfold eF;split<;>rfl
def T4(h:eO):(eF h).1.2.1=h.2.1:=by unfold eF;split<;>rfl
def auD(h:eO):(eF h).1.2.2.1=h.2.2.1:=by unfold eF;split<;>rfl
def auE{h:eO}(aj:0<=h.2.2.2.1/\h.2.2.2.1<4):0<=(eF h).1.2.2.2.1/\(eF h).1.2.2.2.1<4:=by
 unfold eF
 grind
def auH(h:eO)(ao:(eF h).2.2.1=0):0<=(eF h).2.1/\(eF h).2.1<4:=by
 unfold eF at ao ⊢;split
 .simp
 rename_i c e;have:=List.mem_of_find?_eq_some e
 grind
def adG{s:aG}(h:bA n s)(v:dr)(aC:v.2.2.2.2.2.1.length<=900)(key:V):bA (n+1) (mF s v key).1:=by
 unfold mF;split
 .refine⟨{ h.e with up:=(by rw[<- h.e.up];exact congrArg List.length (auF s.e.hub)),next:=auE h.e.next,feed:=(by rw[<- h.e.feed];exact congrArg List.length (T4 s.e.hub)),life:=(by rw[<- h.e.life];exact congrArg List.length (auD s.e.hub)),bB := ?_,got:=yN h.e.got,fd:=(λc=>by rw[T4];exact h.e.fd c),outs := ?_ },?_⟩
  .have:=h.e.bB
   simp;omega
  .rename_i ao
   intro x hx;rcases io.1 hx with hx|hx
   .exact h.e.outs x hx
   rw[pe]at hx;subst hx;exact⟨auH _ ao,by show(fq _).length<=948;rw[MB,cE,xv,AP];omega⟩
  have:=auS s.p key (cZ v);have:=h.p
  grind
 exact df h J
def qI{s:aG}(h:bA n s)(b:V):bA (n+1) (gj s b).1:=by
 unfold gj;split
 .exact df h J
 split
 .exact df h J
 split
 .exact df h J
 rename_i O R af;have aq:=adG h (h9 s.e b) (ww.1 O).2 s.e.ring.1.2.1;have a8:=Zd s (h9 s.e b) s.e.ring.1.2.1;dsimp only;split
 .refine⟨{ aq.e with seq := ?_ },aq.p⟩
  have:=h.e.seq;show dC (_+1);unfold dC at *
  omega
 exact aq
def Mw{s:aG}(h:bA n s)(o:Int)(b:V):bA (n+1) (o5 s o b).1:=by
 unfold o5;split
 .rename_i hf;exact adG h _ hf.2.2 _
 exact df h J
def n9{s:aG}(h:bA n s)(i:Nat):bA n (gy s i):=⟨{ h.e with dt:=by show(PE s.e.dt i).length=4;unfold PE cj;rw[ko];exact h.e.dt },h.p⟩
def wN(s:aG)(q:d1):aG:=⟨{ s.e with stan:=lw s.e.stan,ask:=(nN q.2.1 (lw s.e.stan) (mr (q.1,q.2.1,lw s.e.stan,q.2.2.2)).1).1 },s.p⟩
def kW(s:aG)(q:d1):aG:=
 if(mr (q.1,q.2.1,lw s.e.stan,q.2.2.2)).2.1=0/\(nN q.2.1 (lw s.e.stan) (mr (q.1,q.2.1,lw s.e.stan,q.2.2.2)).1).2.1=0 then
  (if q.2.1=1 then(o5 (wN s q) 0 (mr (q.1,q.2.1,lw s.e.stan,q.2.2.2)).1).1 else(gj (wN s q) (mr (q.1,q.2.1,lw s.e.stan,q.2.2.2)).1).1)
 else s
def ai9(c s:Int)(b:V):AN (nN c s b).1:=by
 unfold nN;split
 .rename_i h;exact .inr ⟨h,by show(1:Int)<=8;decide,by show(8:Int)<=8;decide,by show(0:Int)<=3;decide,by show(3:Int)<=3;decide⟩
 exact .inl rfl
def TJ{s:aG}(h:bA n s)(q:d1):bA n (wN s q):=⟨{ h.e with askr:=ai9 _ _ _ },h.p⟩
def At{s:aG}(h:bA n s)(q:d1):bA (n+1) (kW s q):=by
 unfold kW;split
 .split
  .exact Mw (TJ h q) _ _
  exact qI (TJ h q) _
 exact df h J
def Nx{s:aG}(ac:bA n s)(aj:n<=1000000000000)(q:d1):A5 (s.t,q,())=some ((kW s q).t,()):=by
 unfold A5 kW;rw[show s.t.1.2.2.2.2.2.2.2.2.2.2.2.2.1=s.e.stan from rfl,aiU];refine bg rfl ?_;rw[Mn];have fU:=TJ ac q;have nj:=S3 fU aj 0 (mr (q.1,q.2.1,lw s.e.stan,q.2.2.2)).1;have LE:=xA fU aj (mr (q.1,q.2.1,lw s.e.stan,q.2.2.2)).1;unfold wN at nj LE ⊢;generalize mr (q.1,q.2.1,lw s.e.stan,q.2.2.2)=w at nj LE ⊢;obtain⟨b,VY,⟨⟩⟩:=w;refine bg rfl ?_;rw[aiS];generalize nN q.2.1 (lw s.e.stan) b=a at nj LE ⊢;obtain⟨a,Pa,⟨⟩⟩:=a;refine bg rfl ?_;by_cases h:VY=0/\Pa=0
 .obtain⟨rfl,rfl⟩:=h
  refine bg (a:=(false,())) rfl (a1 rfl ?_);by_cases ai:q.2.1=1
  .rw[if_pos ai]
   refine bq (by simp only[go_sem];exact ai) ?_;exact(bJ nj).trans rfl
  rw[if_neg ai];refine a1 (by simp only[go_sem];exact ai) ?_;exact(bJ LE).trans rfl
 rw[if_neg h];refine bg (a:=(true,())) ?_ rfl;by_cases O:VY=0
 .have R:¬Pa=0:=λR=>h ⟨O,R⟩
  exact a1 (by rw[O];rfl) (by rw[show ag Pa 0=false from cr R];rfl)
 exact ce (by rw[show ag VY 0=false from cr O];rfl)
def hY(c:Int):d1:=(true,c,0,0,0,[],[],0,())
def NA{s:aG}(ac:bA n s)(aj:n<=1000000000000)(c:Int):D7 (s.t,c,())=some ((kW s (hY c)).t,()):=by exact(bJ (Nx ac aj (hY c))).trans rfl
def pt(e:c_)(kN:Int)(gK:V):V:=vD e.key (gs e) kN gK
def YZ(e:c_)(kN:Int)(gK:V)(ap:e.key.length<=1000000)(aj:gK.length<=1000):AL ((e.t,()),kN,gK,())=some (pt e kN gK,()):=by unfold AL;rw[xz];refine bg rfl ?_;rw[show Aa (e.t.2.1,(gs e,()).1,kN,gK,())=_ from act e.key (gs e) kN gK ap aj];rfl
def M1{r:fc}(h:lR r):lR (Bq r):=by
 rcases h with rfl|⟨O,R,af,aq,a8,cS⟩
 .exact .inl rfl
 refine .inr ⟨O,R,af,?_,a8,.inl rfl⟩;have:=O.1;show(0:Int)<=r.2.2.2.2.1;omega
def atD{r:fc}(h:(mg r no key).2.1=0):sR (no,key,())/\¬r=n7/\r.1.1<no/\r.2.2.1.1<=no/\(mg r no key).1=(r.1,r.2.1,(no,key,()),r.2.2.2.1,max r.2.2.2.2.1 no,()):=by
 unfold mg at h ⊢
 grind
def atC{r:fc}(h:¬(mg r no key).2.1=0):(mg r no key).1=r:=by
 unfold mg at h ⊢
 grind
def H9{r:fc}(h:lR r)(no:Int)(key:V):lR (mg r no key).1:=by
 by_cases ao:(mg r no key).2.1=0
 .obtain⟨g,aj,ai,hp,e⟩:=atD ao
  rw[e];rcases h with h|⟨O,R,af,aq,a8,cS⟩
  .grind
  refine .inr ⟨O,?_,?_,?_,a8,.inr ⟨g,ai⟩⟩
  .have:=g.2.1
   grind
  .grind
  grind
 rw[atC ao];exact h
def Uv{r:fc}(h:lR r):lR (Be r).1:=by
 unfold Be;by_cases hp:r.2.2.1=jF
 .grind
 rw[if_neg hp];rcases h with rfl|⟨O,R,af,aq,a8,cS⟩
 .exact absurd rfl hp
 have dN:=cS.resolve_left hp;refine .inr ⟨dN.1,R,aq,?_,.inr ⟨?_,O,dN.2,by show(1:Int)<=16;decide,by show(16:Int)<=16;decide⟩,.inl rfl⟩
 .have:=O.1
  show(0:Int)<=r.2.2.2.2.1;omega
 intro e;have:=O.1;rw[e]at this;exact absurd this bP
def av4{r:fc}(h:lR r):0<=r.2.2.2.2.1/\r.2.2.2.2.1<=2147483647:=by
 rcases h with rfl|⟨O,R,af,aq,a8,cS⟩
 .exact⟨bP,bP⟩
 have:=O.1;omega
def acp(kN:Int)(gK k:V):d1:=(true,101,0,0,kN,gK,C6 k,0,())
def Ai(s:aG)(gK:V):aG×Int:=
 if ¬gK.length=8 then(s,1) else if ¬oJ s.e.ph then(s,7) else if ¬s.e.ph=3\/¬s.e.ask.1=0\/0<s.e.ring.2.2.1.1 then(s,9)
 else if ¬(rn s.e.ring).2.1=0 then(s,(rn s.e.ring).2.1)
 else(kW ⟨{ s.e with ph:=4,ring:=(mg s.e.ring (rn s.e.ring).1 (pt s.e (rn s.e.ring).1 gK)).1 },s.p⟩ (acp (rn s.e.ring).1 gK (pt s.e (rn s.e.ring).1 gK)),0)
def adM{s:aG}(h:bA n s)(g:Int)(k:V):bA n ⟨{ s.e with ph:=4,ring:=(mg s.e.ring g k).1 },s.p⟩:=⟨{ h.e with ph:=⟨by show(0:Int)<=4;decide,by show(4:Int)<=8;decide⟩,ring:=H9 h.e.ring g k },h.p⟩
theorem azJ:qL (3,6,())=some (4,true,()):=rfl
def YY(e:c_)(g:Int)(gK:V):(pt e g gK).length<=32:=by
 unfold pt vD;split
 .rw[QF];omega
 simp
def avO{s:aG}(ac:bA n s)(aj:n<=1000000000000)(gK:V):MY (s.t,gK,())=some ((Ai s gK).1.t,(Ai s gK).2,()):=by
 unfold MY Ai;by_cases O:gK.length=8
 .rw[if_neg (not_not_intro O)]
  refine a1 cM ?_;rw[show s.t.1.2.2.1=s.e.ph from rfl,HX];refine bg rfl ?_;by_cases R:oJ s.e.ph
  .rw[cD R,if_neg (not_not_intro R)]
   rw[show s.t.1.2.2.2.2.2.2.2.2.2.2.2.1.1=s.e.ask.1 from rfl,show s.t.1.2.2.2.2.2.2.2.2.2.2.1=s.e.ring from rfl];by_cases af:¬s.e.ph=3\/¬s.e.ask.1=0\/0<s.e.ring.2.2.1.1
   .rw[if_pos af]
    refine bg (a:=(true,())) ?_ rfl;simp only[go_sem];exact D? (or_assoc.2 af)
   rw[if_neg af];simp only[not_or,ww]at af;obtain⟨cG,cQ,a3⟩:=af;refine bg (a:=(false,())) (by simp only[go_sem,cG,cQ];exact UY a3) (a1 rfl ?_);have ht:=av4 ac.e.ring;rw[av7 _ ht.2 ht.1];by_cases aq:(rn s.e.ring).2.1=0
   .rw[if_neg (not_not_intro aq)]
    refine a1 (by simp only[go_sem];exact not_not_intro aq) ?_;generalize(rn s.e.ring).1=g;refine(dL (o:=x2 _) rfl).trans ?_;have ap:=ac.e.key;rw[show AL ((s.t.1,()),g,gK,())=_ from YZ s.e g gK J J];refine bg rfl ?_;dsimp only;rw[Uw];rw[cG];rw[acN _ (by have:=YY s.e g gK;omega)];exact(bJ (Nx (adM ac g (pt s.e g gK)) aj (acp g gK (pt s.e g gK)))).trans rfl
   rw[if_pos aq];exact ce (by simp only[go_sem];exact aq)
  rw[cC R,if_pos R];rfl
 rw[if_pos O];exact ce cM
def Au(e:c_):c_:={ e with ph:=3,ask:=jV }
theorem azL:qL (4,8,())=some (3,true,()):=rfl
def xc(s:aG):aG:=if s.e.ph=4 then⟨{ s.e with ph:=3,ask:=jV,ring:=Bq s.e.ring },s.p⟩ else s
def Un{s:aG}(h:s.e.ph=4):AM (s.t,())=some ((⟨Au s.e,s.p⟩:aG).t,()):=by unfold AM;rw[show(s.t,()).1.1.2.2.1=4 from h];rfl
def aeN(s:aG):H6 (s.t,())=some ((xc s).t,()):=by
 unfold H6 xc;by_cases h:s.e.ph=4
 .rw[if_pos h]
  refine a1 (by show a_ (ag s.e.ph 4)=false;rw[h];rfl) ?_;rw[Un h];rfl
 rw[if_neg h];exact ce (by show a_ (ag s.e.ph 4)=true;simp only[go_sem];exact h)
def ki(n:d1)(res:Int):V:=(mr (Fb n res).1).1
def Fc{s:aG}(ac:bA m s)(hm:m<=1000000000000)(n:d1)(res:Int):
  (ob (qF (n,res,())) λ(a:d1×Int×Unit)=>ob (pP (a.1,())) λ(b:V×Int×Unit)=>ob (np (s.t,b.1,())) λ(c:e6×Int×Unit)=>(some (c.1,()):Option (e6×Unit)))=some ((gj s (ki n res)).1.t,()):=by
 rw[Tv];refine bg rfl ?_;rw[Mn];exact(bJ (xA ac hm (ki n res))).trans rfl
def ag8(e:c_)(r:fc):c_:={ e with ring:=r }
def NT(e:c_)(r:fc):c_:={ e with ph:=3,ask:=jV,ring:=r }
def Aq(s:aG)(n:d1):aG:=
 if s.e.ph=4/\s.e.id=0 then gy s 3
 else if ¬C6 (pt s.e n.2.2.2.2.1 n.2.2.2.2.2.1)=n.2.2.2.2.2.2.1 then(gj s (ki n 63)).1
 else if n.2.2.2.2.1=s.e.ring.1.1 then(gj s (ki n 0)).1
 else if s.e.ph=4 then
  (if(mg (Bq s.e.ring) n.2.2.2.2.1 (pt s.e n.2.2.2.2.1 n.2.2.2.2.2.1)).2.1=0 then(gj ⟨NT s.e (mg (Bq s.e.ring) n.2.2.2.2.1 (pt s.e n.2.2.2.2.1 n.2.2.2.2.2.1)).1,s.p⟩ (ki n 0)).1 else gy s 3)
 else(if(mg s.e.ring n.2.2.2.2.1 (pt s.e n.2.2.2.2.1 n.2.2.2.2.2.1)).2.1=0 then(gj ⟨ag8 s.e (mg s.e.ring n.2.2.2.2.1 (pt s.e n.2.2.2.2.1 n.2.2.2.2.2.1)).1,s.p⟩ (ki n 0)).1 else gy s 3)
def adV{s:aG}(h:bA m s){r:fc}(ah:lR r):bA m ⟨ag8 s.e r,s.p⟩:=⟨{ h.e with ring:=ah },h.p⟩
def HN{s:aG}(h:bA m s){r:fc}(ah:lR r):bA m ⟨NT s.e r,s.p⟩:=⟨{ h.e with ring:=ah,askr:=.inl rfl,ph:=⟨by show(0:Int)<=3;decide,by show(3:Int)<=8;decide⟩ },h.p⟩
def tA(s:aG):(ob (ke (s.t,13,())) λ(a:e6×Unit)=>(some (a.1,()):Option (e6×Unit)))=some ((gy s 3).t,()):=(bJ (S2 s)).trans rfl
def avP{s:aG}(ac:bA m s)(hm:m<=1000000000000)(n:d1)(aj:n.2.2.2.2.2.1.length<=1000):MZ (s.t,n,())=some ((Aq s n).t,()):=by
 unfold MZ Aq;refine(dL (o:=x2 _) rfl).trans ?_;have ap:=ac.e.key;rw[show AL ((s.t.1,()),n.2.2.2.2.1,n.2.2.2.2.2.1,())=_ from YZ s.e _ _ J aj];refine(dL rfl).trans ?_;have hl:=YY s.e n.2.2.2.2.1 n.2.2.2.2.2.1;generalize pt s.e n.2.2.2.2.1 n.2.2.2.2.2.1=k at hl;refine(dL (o:=v1 _) rfl).trans ?_;dsimp only;rw[show s.t.1.2.2.1=s.e.ph from rfl,show s.t.1.1=s.e.id from rfl];by_cases O:s.e.ph=4/\s.e.id=0
 .rw[ O.1,O.2]
  exact tA s
 rw[if_neg O];refine(dL (a:=(false,())) ?_).trans ((b1 rfl).trans ?_)
 .by_cases aq:s.e.ph=4
  .have ao:¬s.e.id=0:=λao=>O ⟨aq,ao⟩
   rw[cJ aq,cr ao];rfl
  rw[cr aq];rfl
 rw[acN _ J];refine(dL rfl).trans ?_;rw[L_ _ _ (by rw[ar9];omega)];by_cases R:C6 k=n.2.2.2.2.2.2.1
 .rw[if_neg (not_not_intro R),AZ R]
  by_cases af:n.2.2.2.2.1=s.e.ring.1.1
  .rw[if_pos af]
   refine(ce (cJ af)).trans ?_;exact Fc ac hm n 0
  rw[if_neg af];refine(b1 (cr af)).trans ?_;by_cases aq:s.e.ph=4
  .rw[if_pos aq]
   refine(ce (cJ aq)).trans ?_;refine(dL rfl).trans ?_;rw[Uw];by_cases a8:(mg (Bq s.e.ring) n.2.2.2.2.1 k).2.1=0
   .rw[if_pos a8]
    refine(b1 (j6 a8)).trans ?_;refine(ce (cJ aq)).trans ?_;rw[Un aq];exact Fc (HN ac (H9 (M1 ac.e.ring) n.2.2.2.2.1 k)) hm n 0
   rw[if_neg a8];refine(ce (lF a8)).trans ?_;exact tA s
  rw[if_neg aq];refine(b1 (cr aq)).trans ?_;rw[Uw];by_cases a8:(mg s.e.ring n.2.2.2.2.1 k).2.1=0
  .rw[if_pos a8]
   refine(b1 (j6 a8)).trans ?_;refine(b1 (cr aq)).trans ?_;exact Fc (adV ac (H9 ac.e.ring n.2.2.2.2.1 k)) hm n 0
  rw[if_neg a8];refine(ce (lF a8)).trans ?_;exact tA s
 rw[if_pos R,o4 R];exact Fc ac hm n 63
instance (a:eS) (c s:Int):Decidable (qC a c s):=by unfold qC;infer_instance
def BU(s:aG)(n:d1):aG:=
 if ¬s.e.ph=4\/¬qC s.e.ask n.2.1 n.2.2.1 then gy s 3
 else if ¬n.2.2.2.1=0 then xc s
 else kW ⟨NT s.e (Be s.e.ring).1,s.p⟩ (hY 301)
def avN{s:aG}(ac:bA m s)(hm:m<=1000000000000)(n:d1):MX (s.t,n,())=some ((BU s n).t,()):=by
 unfold MX BU;refine(dL (o:=x2 _) rfl).trans ?_;refine(dL (o:=v1 _) rfl).trans ?_;rw[show s.t.1.2.2.1=s.e.ph from rfl,show s.t.1.2.2.2.2.2.2.2.2.2.2.2.1=s.e.ask from rfl,J2];by_cases aq:s.e.ph=4
 .by_cases a8:qC s.e.ask n.2.1 n.2.2.1
  .rw[if_neg (λh=>h.elim (λh=>h aq) (λh=>h a8)),cD a8,cJ aq]
   by_cases cS:n.2.2.2.1=0
   .rw[if_neg (not_not_intro cS)]
    refine(b1 (j6 cS)).trans ?_;rw[Un aq];refine(dL rfl).trans ?_;rw[show(AQ ((({ e:=Au s.e,p:=s.p }:aG).t,()).1.1.2.2.2.2.2.2.2.2.2.2.1,()):Option (fc×Int×Unit))=_ from aeX s.e.ring];exact(bJ (Nx (HN ac (Uv ac.e.ring)) hm (hY 301))).trans rfl
   rw[if_pos cS];refine(ce (lF cS)).trans ?_;exact(bJ (aeN s)).trans rfl
  rw[if_pos (.inr a8),cC a8,cJ aq];exact tA s
 rw[if_pos (.inl aq),cr aq];exact tA s
theorem atc(x:UInt64):cB x=(x.toNat:Int):=rfl
def auQ(h:k<=63):2^k<=9223372036854775808:=by have:=BD (show 0<2 by omega) h;omega
def jd(w:gX)(p:Nat):Bool:=(ak w.2.1 (p/64) (u64 0)).toNat/2^(p%64)%2==1
def Ef{A B C:V}{a:Nat}(dn:A.length=a)(aB:B.length=w):ec (A++(B++C)) a w=B:=by
 unfold ec
 grind
def agO{A W:Nat}{n:Int}(aaR:1<=W)(hW:W<=8)(hl:A+W<=b.length)(ao:0<=n)(aj:n<256^W)(hL:n<=4611686018427387904)(ht:ec b A W=f? W n):jp b (A:Int) (W:Int)=(n,((A+W:Nat):Int),0,()):=by
 have aC:my (ec b A W)=n.toNat:=by
  rw[ht];unfold f?;rw[ajf,lY]
  grind
 unfold jp;rw[if_neg J,if_neg J,if_neg]
 .grind
 rintro⟨cx,CF⟩;have aoF:W=8:=J;subst aoF;rw[iZ]at CF;have hg:ak b A (u8 0)=(f? 8 n)[0]'(by rw[m9];omega):=by
  have O:0<(ec b A 8).length:=by rw[yi hl];omega
  have R:(ec b A 8)[0]=b[A]:=ag1 O J;rw[nth_get J]
  grind
 rw[hg]at CF;unfold f? at CF;rw[MI]at CF;unfold m_ at CF;rw[ UInt8.toNat_ofNat_of_lt' (by grind)]at CF;omega
def fj(b:V)(a w:Int):Int:=if(jp b a w).2.2.1=0 then(jp b a w).1 else -1
def ro:dr:=(0,0,[0,0],0,0,[],[],())
def rD(b:V):dr:=(fj b 0 1,fj b 1 1,[fj b 2 8,fj b 10 8],fj b 18 4,fj b 22 8,(b.drop 30).take (b.length-46),b.drop (b.length-16),())
instance (v:dr):Decidable (mi v):=by unfold mi;infer_instance
instance (v:dr):Decidable (o0 v):=by unfold o0;infer_instance
def eR(b:V):dr×Int×Unit:=if b.length<47 then(ro,3,()) else if 946<b.length then(ro,4,()) else if o0 (rD b) then(rD b,0,()) else(ro,2,())
def Ee{A W:Nat}{n:Int}(aaR:1<=W)(hW:W<=8)(hl:A+W<=b.length)(ao:0<=n)(aj:n<256^W)(hL:n<=4611686018427387904)(ht:ec b A W=f? W n):fj b (A:Int) (W:Int)=n:=by unfold fj;rw[agO aaR hW hl ao aj hL ht,if_pos rfl]
def aeL{v:dr}{t:V}(aC:mi v)(aA:v.2.2.1=[d4 v,e1 v])(ht:t.length=16):eR (cZ v++t)=(jK v t,0,()):=by
 have cq:(cZ v++t).length=46+v.2.2.2.2.2.1.length:=by rw[cE,xv,ht];omega
 have iP:=aC.2.2.2.2.2.2;obtain⟨O,R,af,aq,a8,cS,dN,cx⟩:=aC;have eX:=m9 1 v.1;have f8:=m9 1 v.2.1;have oR:=m9 8 (d4 v);have z_:=m9 8 (e1 v);have Hk:=m9 4 v.2.2.2.1;have C':=m9 8 v.2.2.2.2.1;have qE:=R.2;have HC:=af.2;have ac4:=aq.2;obtain⟨rest,hrest⟩:∃rest,rest=v.2.2.2.2.2.1++t:=⟨_,rfl⟩;have b?:cZ v++t=f? 1 v.1++(f? 1 v.2.1++(f? 8 (d4 v)++(f? 8 (e1 v)++(f? 4 v.2.2.2.1++(f? 8 v.2.2.2.2.1++rest))))):=by unfold cZ;rw[hrest];simp only[gv]
 have dT:ec (cZ v++t) 0 1=f? 1 v.1:=by rw[b?];exact Ef (A:=[]) rfl eX
 have ev:ec (cZ v++t) 1 1=f? 1 v.2.1:=by rw[b?];exact Ef eX f8
 have t3:ec (cZ v++t) 2 8=f? 8 (d4 v):=by rw[b?,<- gv];exact Ef (by rw[cE,eX,f8]) oR
 have t4:ec (cZ v++t) 10 8=f? 8 (e1 v):=by rw[b?,<- gv,<- gv];exact Ef (by simp only[cE,eX,f8,oR]) z_
 have t5:ec (cZ v++t) 18 4=f? 4 v.2.2.2.1:=by rw[b?,<- gv,<- gv,<- gv];exact Ef (by simp only[cE,eX,f8,oR,z_]) Hk
 have yg:ec (cZ v++t) 22 8=f? 8 v.2.2.2.2.1:=by rw[b?,<- gv,<- gv,<- gv,<- gv];exact Ef (by simp only[cE,eX,f8,oR,z_,Hk]) C'
 have bj:rD (cZ v++t)=jK v t:=by
  unfold rD jK;have bG:fj (cZ v++t) 0 1=v.1:=Ee (A:=0) (W:=1) J J J J J J dT;have b_:fj (cZ v++t) 1 1=v.2.1:=Ee (A:=1) (W:=1) J J J J J J ev;have co:fj (cZ v++t) 2 8=d4 v:=Ee (A:=2) (W:=8) J J J R.1 J qE t3;have dl:fj (cZ v++t) 10 8=e1 v:=Ee (A:=10) (W:=8) J J J af.1 J HC t4;have eQ:fj (cZ v++t) 18 4=v.2.2.2.1:=Ee (A:=18) (W:=4) J J J cS.1 J J t5;have lq:fj (cZ v++t) 22 8=v.2.2.2.2.1:=Ee (A:=22) (W:=8) J J J aq.1 J ac4 yg;have oN:(f? 1 v.1++f? 1 v.2.1++f? 8 (d4 v)++f? 8 (e1 v)++f? 4 v.2.2.2.1++f? 8 v.2.2.2.2.1).length=30:=by simp only[cE,eX,f8,oR,z_,Hk,C']
  have pR:((cZ v++t).drop 30).take ((cZ v++t).length-46)=v.2.2.2.2.2.1:=by rw[cq];unfold cZ;rw[gv,<- oN,EZ,BH,wz]
  have jW:(cZ v++t).drop ((cZ v++t).length-16)=t:=by rw[cq,show 46+v.2.2.2.2.2.1.length-16=(cZ v).length by rw[xv];omega,EZ]
  rw[bG,b_,co,dl,eQ,lq,pR,jW,<- aA]
 unfold eR;rw[if_neg J,if_neg J,bj,if_pos];exact⟨⟨O,R,af,aq,a8,cS,dN,cx⟩,ht⟩
def aeg(e:c_):gs e=[ak (gs e) 0 0,ak (gs e) 1 0]:=by
 unfold gs;split
 .rfl
 split<;>rfl
def ar3{i:Int}(h:i=0\/i=1):i64 (bi 1 i)=1-i:=hM (by show -9223372036854775808<=1-i;omega) (by show 1-i<=9223372036854775807;omega)
def qp(r:c_)(g:Int):fc:=if r.ring.2.2.1.1=g/\¬r.ph=4 then(Be r.ring).1 else r.ring
def kB(s:aG)(p:Int):aG:=⟨Hp s.e p,s.p⟩
def D8{s:aG}(ac:bA n s)(aj:n<=1000000000000)(p:Int):sY (s.t,p,())=some ((kB s p).t,()):=by unfold sY;have hg:=ac.e.got;rw[show Ab (s.t.1,p,())=_ from acu s.e p J];rfl
def L6(e:c_)(p:Int):(Hp e p).got.length<=e.got.length+1:=by
 show(if jT e.ph then e.got++[(5,gs e,0,[],())]else e.got).length<=_
 grind
def As{s:aG}(h:bA n s){p:Int}(ao:0<=p)(cx:p<=8):bA (n+1) (kB s p):=by refine⟨{ Dx h.e (qa n) with ph:=⟨ao,cx⟩,own:=by show dC 0;decide,oth:=by show dC 0;decide,seq:=by show dC 0;decide,ring:=.inl rfl,got := ?_,win:=rfl,queue:=by show([]:List V).length<=8;simp,top:=⟨by show(0:Int)<=0;decide,by show(0:Int)<=4611686018427387905;decide⟩,askr:=.inl rfl },yN h.p⟩;have O:=L6 s.e p;have R:=h.e.got;exact e0 O J
def eP:eO:=([false,false,false,false],[ep,ep,ep,ep],[0,0,0,0],0,())
def ama(e:c_):c_:=⟨e.id,e.key,8,e.store, -1,0,0,0,0,sJ,n7,jV,0,0,[],eP,[],(Hp e 8).got,[0,0,0,0]⟩
def wX(s:aG):aG:=if s.e.ph=8 then s else⟨ama s.e,s.p⟩
def agb{s:aG}(ac:bA n s)(aj:n<=1000000000000):D6 (s.t,())=some ((wX s).t,()):=by
 unfold D6 wX;have hg:=ac.e.got;by_cases h:s.e.ph=8
 .rw[if_pos h];exact ce (cJ h)
 rw[if_neg h];refine a1 (cr h) ?_;rw[show Ab (s.t.1,8,())=_ from acu s.e 8 J];rfl
def abO(c:Nat):pU (ak eP.2.1 c ep):=by
 match c with
 |0=>exact x7
 |1=>exact x7
 |2=>exact x7
 |3=>exact x7
 |c+4=>exact x7
def adE{s:aG}(h:bA n s):bA (n+1) (wX s):=by
 unfold wX;split
 .exact df h (qa n)
 have O:=L6 s.e 8;have R:=h.e.got;exact⟨{
  id:=h.e.id
  key:=h.e.key
  ph:=⟨by show(0:Int)<=8;omega,by show(8:Int)<=8;omega⟩
  store:=h.e.store
  own:=by show dC 0;decide
  oth:=by show dC 0;decide
  seq:=by show dC 0;decide
  ring:=.inl rfl
  up:=rfl
  next:=⟨by show(0:Int)<=0;omega,by show(0:Int)<4;omega⟩
  bB:=fK _
  got:=e0 O J
  dt:=rfl
  win:=rfl
  feed:=rfl
  life:=rfl
  queue:=by show([]:List V).length<=8;simp
  top:=⟨by show(0:Int)<=0;decide,by show(0:Int)<=4611686018427387905;decide⟩
  fd:=abO
  askr:=.inl rfl
  outs:=λx hx=>by cases hx },yN h.p⟩
def NM(s:aG)(t:m4):aG:=⟨{ s.e with store:=t },s.p⟩
def pZ(s:aG)(t:m4):aG:=⟨{ s.e with store:=t,power := -1 },s.p⟩
def agP(s:m4)(c:Int):mm s c=(s,0,12,())\/mm s c=(s,0,10,())\/(∃t,mm s c=(t,0,11,())/\(ut s->ut t))\/∃t,mm s c=(t,(jy s).1,0,())/\(ut s->ut t):=by
 have key:ut s->ut (if(jy s).2.1=0 then(s.1,xy (jy s).1 c s.2.1,()) else(xy (jy s).1 c s.1,s.2.1,())):=by
  intro h;have hl:∀o:V,o.length=16->(xy (jy s).1 c o).length=16:=by intro o aK;have hm:=acO c;unfold xy;rw[cE,hE,fb,MT,aK];omega
  split
  .exact⟨h.1,hl _ h.2⟩
  exact⟨hl _ h.1,h.2⟩
 unfold mm;split
 .exact .inl rfl
 split
 .exact .inr (.inl rfl)
 dsimp only;split
 .exact .inr (.inr (.inl ⟨_,rfl,key⟩))
 exact .inr (.inr (.inr ⟨_,rfl,key⟩))
def fY(s:aG):aG×Int×Int:=
 if(mm s.e.store s.e.power).2.2.1=0 then(pZ s (mm s.e.store s.e.power).1,(mm s.e.store s.e.power).2.1,0)
 else if(mm s.e.store s.e.power).2.2.1=11 then(wX (NM s (mm s.e.store s.e.power).1),0,11)
 else(s,0,(mm s.e.store s.e.power).2.2.1)
def adS{s:aG}(h:bA n s){t:m4}(ht:ut t):bA n (NM s t):=⟨{ h.e with store:=ht },h.p⟩
def at2{s:aG}(h:bA n s){t:m4}(ht:ut t):bA n (pZ s t):=⟨{ h.e with store:=ht },h.p⟩
def Dy{s:aG}(h:bA n s):bA (n+1) (fY s).1:=by
 unfold fY;rcases agP s.e.store s.e.power with e|e|⟨t,e,ht⟩|⟨t,e,ht⟩
 .rw[e];exact df h (qa n)
 .rw[e];exact df h (qa n)
 .rw[e];exact adE (adS h (ht h.e.store))
 rw[e];exact df (at2 h (ht h.e.store)) (qa n)
def agd{s:aG}(ac:bA n s)(aj:n<=1000000000000):Iu (s.t,())=some ((fY s).1.t,(fY s).2.1,(fY s).2.2,()):=by
 unfold Iu fY;rw[show s.t.1.2.2.2.1=s.e.store from rfl,show s.t.1.2.2.2.2.1=s.e.power from rfl,axg _ _ ac.e.store];rcases agP s.e.store s.e.power with e|e|⟨t,e,ht⟩|⟨t,e,ht⟩
 .rw[e];rfl
 .rw[e];rfl
 .rw[e]
  refine bg rfl (a1 rfl (bq rfl ?_));rw[show D6 (((s.t.1.1,s.t.1.2.1,s.t.1.2.2.1,t,s.t.1.2.2.2.2),s.t.2),())=_ from agb (adS ac (ht ac.e.store)) aj];rfl
 rw[e];rfl
def uh(s:aG)(n:Int):aG:=⟨{ s.e with own:=n },s.p⟩
def ru(s:aG):aG×Int:=
 if s.e.ph=7\/s.e.ph=8 then(s,11)
 else if ¬(fY s).2.2=0 then((fY s).1,(fY s).2.2)
 else(kW (uh (kB (fY s).1 1) (fY s).2.1) (hY 1),0)
def amP{s:aG}(ao:(fY s).2.2=0):(jy s.e.store).2.2.1=true/\(fY s).2.1=(jy s.e.store).1:=by
 unfold fY at ao ⊢;unfold mm at ao ⊢
 grind
def atZ{s:aG}(h:bA n s){k:Int}(ap:dC k):bA n (uh s k):=⟨{ h.e with own:=ap },h.p⟩
def QY{s:aG}(ao:(fY s).2.2=0):dC (fY s).2.1:=by obtain⟨O,R⟩:=amP ao;have af:=W3 O;rw[R];unfold dC;omega
def adO{s:aG}(ac:bA n s)(ao:(fY s).2.2=0):bA (n+2) (uh (kB (fY s).1 1) (fY s).2.1):=atZ (As (Dy ac) J J) (QY ao)
def adN{s:aG}(ac:bA n s):bA (n+3) (ru s).1:=by
 unfold ru;split
 .exact df ac J
 split
 .exact df (Dy ac) J
 rename_i O R;exact At (adO ac (ww.1 R)) _
def agc{s:aG}(ac:bA n s)(aj:n<=999999000000):It (s.t,())=some ((ru s).1.t,(ru s).2,()):=by
 unfold It ru;rw[show s.t.1.2.2.1=s.e.ph from rfl];by_cases O:s.e.ph=7\/s.e.ph=8
 .rw[if_pos O]
  rcases O with h|h<;>rw[h]<;>rfl
 rw[if_neg O];simp at O;refine bg (a:=(false,())) ?_ (a1 rfl ?_)
 .rw[cr O.1,cr O.2];rfl
 rw[agd ac J];by_cases R:(fY s).2.2=0
 .rw[if_neg (not_not_intro R)]
  refine a1 (j6 R) ?_;rw[D8 (Dy ac) J];exact(bJ (NA (adO ac R) J 1)).trans rfl
 rw[if_pos R];exact ce (lF R)
def T1{s:aG}(h:bA n s):s.e.ph=0\/s.e.ph=1\/s.e.ph=2\/s.e.ph=3\/s.e.ph=4\/s.e.ph=5\/s.e.ph=6\/s.e.ph=7\/s.e.ph=8:=by have:=h.e.ph;omega
def Qq(s:aG):aG:=⟨{ s.e with ph:=6,ring:=Bq s.e.ring,queue:=[] },s.p⟩
def adD{s:aG}(h:bA n s):bA n (Qq s):=⟨{ h.e with ph:=⟨by show(0:Int)<=6;omega,by show(6:Int)<=8;omega⟩,ring:=M1 h.e.ring,queue:=by show([]:List V).length<=8;simp },h.p⟩
def y9(s:aG):aG×Int:=
 if s.e.ph=0\/s.e.ph=7\/s.e.ph=8 then(s,7) else if s.e.ph=6 then(s,9) else if s.e.ph=1\/s.e.ph=2 then(kB s 0,0) else(kW (Qq s) (hY 2),0)
def atM{s:aG}(h:bA n s):bA (n+1) (y9 s).1:=by
 unfold y9;split
 .exact df h J
 split
 .exact df h J
 split
 .exact As h J J
 exact At (adD h) _
def aw4{s:aG}(ac:bA n s)(aj:n<=1000000000000):Nw (s.t,())=some ((y9 s).1.t,(y9 s).2,()):=by
 have hl:=D8 ac aj 0;have a2:=NA (adD ac) aj 2;have hp:=T1 ac;unfold Nw y9;rw[show s.t.1.2.2.1=s.e.ph from rfl];rcases hp with h|h|h|h|h|h|h|h|h<;>rw[h]
 .rfl
 .refine bg rfl (a1 rfl (a1 rfl (bq rfl ?_)))
  exact(bJ hl).trans rfl
 .refine bg rfl (a1 rfl (a1 rfl (bq rfl ?_)))
  exact(bJ hl).trans rfl
 .refine bg rfl (a1 rfl (a1 rfl (a1 rfl (bg rfl ?_))))
  exact(bJ a2).trans rfl
 .refine bg rfl (a1 rfl (a1 rfl (a1 rfl (bg rfl ?_))))
  exact(bJ a2).trans rfl
 .refine bg rfl (a1 rfl (a1 rfl (a1 rfl (bg rfl ?_))))
  exact(bJ a2).trans rfl
 .rfl
 .rfl
 rfl
def zd(s:aG):aG×Int:=if ¬oJ s.e.ph then(s,7) else if ¬s.e.ask.1=0 then(s,9) else(kW s (hY 301),0)
def atS{s:aG}(h:bA n s):bA (n+1) (zd s).1:=by
 unfold zd;split
 .exact df h J
 split
 .exact df h J
 exact At h _
def awZ{s:aG}(ac:bA n s)(aj:n<=1000000000000):Ns (s.t,())=some ((zd s).1.t,(zd s).2,()):=by
 unfold Ns zd;rw[show s.t.1.2.2.1=s.e.ph from rfl,HX];by_cases R:oJ s.e.ph
 .rw[cD R,if_neg (not_not_intro R)]
  by_cases af:s.e.ask.1=0
  .rw[if_neg (not_not_intro af)]
   refine(b1 (j6 af)).trans ?_;exact(bJ (NA ac aj 301)).trans rfl
  rw[if_pos af];exact ce (lF af)
 rw[cC R,if_pos R];rfl
def uj(s:aG)(p:Int):aG:=⟨{ s.e with ph:=p },s.p⟩
def B5(s:aG):aG:=if s.e.ph=8 then(if(jy s.e.store).2.2.1=true then uj s 0 else uj s 7) else s
def Dz{s:aG}(h:bA n s){p:Int}(ao:0<=p)(cx:p<=8):bA n (uj s p):=⟨{ h.e with ph:=⟨ao,cx⟩ },h.p⟩
def atL{s:aG}(h:bA n s):bA n (B5 s):=by
 unfold B5;split
 .split
  .exact Dz h J J
  exact Dz h J J
 exact h
def awY{s:aG}(ac:bA n s):Nr (s.t,())=some ((B5 s).t,()):=by
 have O:=ac.e.store.1;have R:=ac.e.store.2;have hp:=T1 ac;unfold Nr B5;rw[show s.t.1.2.2.2.1=s.e.store from rfl,agn _ J J];have vN:qL (s.e.ph,11,())=some (if s.e.ph=8 then(0,true,()) else(s.e.ph,false,())):=by rcases hp with h|h|h|h|h|h|h|h|h<;>rw[h]<;>rfl
 have qE:qL (s.e.ph,12,())=some (if s.e.ph=8 then(7,true,()) else(s.e.ph,false,())):=by rcases hp with h|h|h|h|h|h|h|h|h<;>rw[h]<;>rfl
 by_cases Y:(jy s.e.store).2.2.1=true
 .refine bq Y ?_
  rw[if_pos Y];unfold s0;rw[show s.t.1.2.2.1=s.e.ph from rfl,vN];by_cases cx:s.e.ph=8
  .rw[if_pos cx,if_pos cx];rfl
  rw[if_neg cx,if_neg cx];rfl
 refine a1 (by grind) ?_;rw[if_neg Y];unfold s0;rw[show s.t.1.2.2.1=s.e.ph from rfl,qE];by_cases cx:s.e.ph=8
 .rw[if_pos cx,if_pos cx];rfl
 rw[if_neg cx,if_neg cx];rfl
def zg(s:aG)(k:Int):aG:=⟨{ s.e with got:=s.e.got++[(k,gs s.e,0,[],())] },s.p⟩
def adH{s:aG}(h:bA n s)(k:Int):bA (n+1) (zg s k):=by
 refine⟨{ Dx h.e (qa n) with got := ?_ },yN h.p⟩;have:=h.e.got;show(s.e.got++[(k,gs s.e,0,[],())]).length<=n+1
 grind
def age{s:aG}(ac:bA n s)(aj:n<=1000000000000)(k:Int):Iv (s.t,k,())=some ((zg s k).t,()):=by have hg:=ac.e.got;unfold Iv;rw[show s.t.1.2.2.2.2.2.2.2.2.2.2.2.2.2.2.2.2.2.1=s.e.got from rfl,Ku];rw[show nn (s.t.1,())=_ from xz s.e];refine bn (by simp only[go_sem];simp;omega) ?_;rfl
def q8(s:aG):aG:=if s.e.ph=2 then zg (uj s 3) 4 else s
def adJ{s:aG}(h:bA n s):bA (n+1) (q8 s):=by
 unfold q8;split
 .exact adH (Dz h J J) 4
 exact df h (qa n)
def aw0{s:aG}(ac:bA n s)(aj:n<=1000000000000):Nt (s.t,())=some ((q8 s).t,()):=by
 unfold Nt q8;by_cases h:s.e.ph=2
 .rw[if_pos h]
  refine a1 (j6 h) ?_;rw[show s0 (s.t,3,())=some ((uj s 3).t,()) by unfold s0;rw[show s.t.1.2.2.1=s.e.ph from rfl,h];rfl]
  exact(bJ (age (Dz ac (p:=3) J J) aj 4)).trans rfl
 rw[if_neg h];exact ce (lF h)
def zp(s:aG):aG:=if s.e.ph=1\/s.e.ph=3\/s.e.ph=6 then kB s 0 else s
def atU{s:aG}(h:bA n s):bA (n+1) (zp s):=by
 unfold zp;split
 .exact As h J J
 exact df h (qa n)
def aw1{s:aG}(ac:bA n s)(aj:n<=1000000000000):Nu (s.t,())=some ((zp s).t,()):=by
 have hl:=D8 ac aj 0;have hp:=T1 ac;unfold Nu zp;rw[show s.t.1.2.2.1=s.e.ph from rfl];rcases hp with h|h|h|h|h|h|h|h|h<;>rw[h]
 .rfl
 .refine bq rfl (bq rfl ?_)
  exact(bJ hl).trans rfl
 .rfl
 .refine a1 rfl (bq rfl (bq rfl ?_))
  exact(bJ hl).trans rfl
 .rfl
 .rfl
 .refine a1 rfl (a1 rfl (bq rfl ?_))
  exact(bJ hl).trans rfl
 .rfl
 rfl
def Ix(s:aG):sZ (s.t,())=some ((gy s 3).t,()):=by exact(bJ (S2 s)).trans rfl
def aw7{s:aG}(ac:bA n s)(aj:n<=1000000000000)(q:d1):Iw (s.t,q,())=some ((gj s (ki q 0)).1.t,()):=by unfold Iw;dsimp only;rw[Tv];refine bg rfl ?_;rw[Mn];refine bg rfl ?_;exact(bJ (xA ac aj (ki q 0))).trans rfl
def Yx(s:aG):aG:=⟨{ s.e with ask:=jV },s.p⟩
def xK(s:aG)(n:d1):aG:=
 if n.1=true then(if n.2.1=301 then(gj s (ki n 0)).1 else if n.2.1=2 then kB (gj s (ki n 0)).1 0 else gy s 3)
 else if qC s.e.ask n.2.1 n.2.2.1 then(if n.2.1=301 then Yx s else if n.2.1=2 then kB s 0 else gy s 3) else gy s 3
def atX{s:aG}(h:bA m s)(n:d1):bA (m+2) (xK s n):=by
 unfold xK;split
 .split
  .exact df (qI h _) J
  split
  .exact As (qI h _) J J
  exact df (n9 h 3) J
 split
 .split
  .exact⟨Dx (n:=m) { h.e with askr:=.inl rfl } J,e0 h.p J⟩
  split
  .exact df (As h J J) J
  exact df (n9 h 3) J
 exact df (n9 h 3) J
def aw3{s:aG}(ac:bA m s)(hm:m<=999999000000)(n:d1):Nv (s.t,n,())=some ((xK s n).t,()):=by
 have eL:(ob (sZ (s.t,())) λ(a:e6×Unit)=>(some (a.1,()):Option (e6×Unit)))=some ((gy s 3).t,()):=(bJ (Ix s)).trans rfl;have abI:=aw7 ac J n;have fU:=qI ac (ki n 0);unfold Nv xK;rw[show s.t.1.2.2.2.2.2.2.2.2.2.2.2.1=s.e.ask from rfl,J2];by_cases O:n.2.1=301
 .refine bq (cJ O) ?_
  cases a2:n.1
  .rw[ O]
   by_cases hm:qC s.e.ask 301 n.2.2.1
   .rw[cD hm,if_pos hm];rfl
   rw[cC hm,if_neg hm];exact a1 rfl eL
  rw[ if_pos O];exact bq rfl ((bJ abI).trans rfl)
 refine a1 (cr O) ?_;by_cases R:n.2.1=2
 .refine bq (cJ R) ?_
  cases a2:n.1
  .rw[ R]
   refine a1 rfl (bg rfl ?_);by_cases hm:qC s.e.ask 2 n.2.2.1
   .rw[cD hm,if_pos hm]
    exact bq rfl ((bJ (D8 ac J 0)).trans rfl)
   rw[cC hm,if_neg hm];exact a1 rfl eL
  rw[ if_neg O,if_pos R];rw[abI];exact(bJ (D8 fU J 0)).trans rfl
 refine a1 (cr R) ?_
 grind
def av2{x:V}(hx:x.length=32):lR ((1,x,()),jF,jF,0,1,()):=by
 refine .inr ⟨⟨?_,?_,hx⟩,?_,?_,?_,.inl ⟨rfl,rfl⟩,.inl rfl⟩
 .show(1:Int)<=1;omega
 .show(1:Int)<=2147483647;omega
 .show(1:Int)<=2147483647;omega
 .show(1:Int)<=1;omega
 show(0:Int)<=1;omega
def Dg(e:c_)(own oth:Int):c_:={ e with own:=own,oth:=oth,seen:=cT e.seen oth,ring:=(Dn (vD e.key (gs { e with own:=own,oth:=oth }) 1 [])).1 }
def vJ(s:aG)(own oth:Int):aG:=⟨Dg s.e own oth,s.p⟩
def av1(k:V):lR (Dn k).1:=by
 unfold Dn;split
 .rename_i h
  exact av2 h
 exact .inl rfl
def Mu{s:aG}(h:bA n s){b:Int}(bu:dC a)(Y:dC b):bA n (vJ s a b):=⟨{ h.e with own:=bu,oth:=Y,ring:=av1 _ },h.p⟩
def agf{s:aG}(ac:bA n s)(a b:Int):D9 (s.t,a,b,())=some ((vJ s a b).t,()):=by have ap:=ac.e.key;unfold D9;rw[show nn ((s.t.1.1,s.t.1.2.1,s.t.1.2.2.1,s.t.1.2.2.2.1,s.t.1.2.2.2.2.1,a,b,cT s.t.1.2.2.2.2.2.2.2.1 b,s.t.1.2.2.2.2.2.2.2.2),())=_ from xz { s.e with own:=a,oth:=b,seen:=cT s.e.seen b }];refine bg rfl ?_;rw[show Aa (s.t.1.2.1,gs { s.e with own:=a,oth:=b,seen:=cT s.e.seen b },1,aO UInt8,())=_ from act s.e.key (gs { s.e with own:=a,oth:=b,seen:=cT s.e.seen b }) 1 [] J bh];refine bg rfl ?_;rw[av6];rfl
def agh{s:aG}(ac:bA n s)(aj:n<=1000000000000)(q:d1)(x:Int):Iy (s.t,q,x,())=some ((o5 s x (ki q 0)).1.t,()):=by unfold Iy;rw[Tv];refine bg rfl ?_;rw[Mn];exact(bJ (S3 ac aj x (ki q 0))).trans rfl
def Av(s:aG)(x:Int):aG:=zg ⟨{ Dg s.e s.e.own x with ph:=3,ask:=jV },s.p⟩ 4
def adP{s:aG}(h:bA n s){x:Int}(hx:dC x):bA (n+1) (Av s x):=by have O:=Mu h h.e.own hx;exact adH (s:=⟨{ Dg s.e s.e.own x with ph:=3,ask:=jV },s.p⟩) ⟨{ O.e with askr:=.inl rfl,ph:=⟨by show(0:Int)<=3;omega,by show(3:Int)<=8;omega⟩ },O.p⟩ 4
def aw5{s:aG}(ac:bA n s)(aj:n<=999999000000)(O:s.e.ph=1){x:Int}(hx:dC x):Ny (s.t,x,())=some ((kW (Av s x) (hY 301)).t,()):=by
 have hm:=Mu ac ac.e.own hx;have aK:=adP ac hx;unfold Ny;rw[show D9 (s.t,s.t.1.2.2.2.2.2.1,x,())=_ from agf ac s.e.own x];refine(dL rfl).trans ?_;rw[show s0 ((vJ s s.e.own x).t,1,())=some ((uj (vJ s s.e.own x) 3).t,()) by unfold s0;rw[show(vJ s s.e.own x).t.1.2.2.1=s.e.ph from rfl,O];rfl]
 have ap:bA n (⟨{ Dg s.e s.e.own x with ph:=3,ask:=jV },s.p⟩:aG):=⟨{ hm.e with askr:=.inl rfl,ph:=⟨by show(0:Int)<=3;omega,by show(3:Int)<=8;omega⟩ },hm.p⟩;refine(bJ (age ap J 4)).trans ((dL rfl).trans ?_);exact(bJ (NA aK J 301)).trans rfl
end Yp