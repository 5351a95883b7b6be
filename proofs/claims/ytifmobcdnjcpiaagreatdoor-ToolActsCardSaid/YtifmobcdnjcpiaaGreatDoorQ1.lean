/- A part of the proof of the statements of this seat: plain functions, and laws on them. No condition of its own. -/
import Derived.Test.YtifmobcdnjcpiaaGreatDoorQ0
import Derived.RangeFuncNested
import Derived.RangeFuncBox
import Derived.RangeFuncLeaves
import Derived.Shelf.Abstract
import Derived.WalkKit
import Derived.OwnWalkIn
import Derived.TacticsInMore
import Derived.LoopNIn
import Derived.LoopIn
import Derived.Maps.AppendAt
import Derived.Test.YtifmobcdnjcpiaaGreatDoorProg
import Derived.Conc.LoneCalls
import Derived.KernelRfl
import Derived.Laws.Rows
import Derived.Conc.LoneSelectN
import Derived.Conc.Own5
import Derived.Lib.Bytealg
import Derived.Shelf.Strings.Builder1
import Derived.Shelf.Strings.Builder2
import Derived.Shelf.Strings.OnBuilder
import Derived.Shelf.Strings.Search1
import Derived.Shelf.Strings.Search2
import Derived.Shelf.Strings.Search3
import Derived.Shelf.Strings.Count
set_option linter.unusedVariables false
set_option linter.unusedSimpArgs false
set_option linter.defProp false
noncomputable section
open Go Yp
variable {a e x:Int}{l:List V}{c cap i k m n r s:Nat}{α:Type}{b b9 key:V}
namespace Yp
open Go
def Wc{n:N}(h:i? n):mr n=(gO (jF n),0,()):=by unfold mr;rw[if_pos h]
def ayR{v:b0}(h:gB v.1 v.2.1=true):(hR v).length<=v.2.1.length+2:=by
 obtain⟨k,l,O,R⟩:=va.1 h;unfold hR rR;rw[O];simp only[if_pos R];rw[Wb (tJ O).1]
 grind
def ayP{m:M}(ah:jJ m=true):(gO m).length<=18+(m.2.1.map (λv=>v.2.1.length+2)).sum:=by
 have dW:=(pW.1 ah).1;have R:=Bk (m:=m.1);have cz:=PC (iE m.2.1);have q?:∀l:List b0,(∀v∈l,gB v.1 v.2.1=true)->(l.flatMap hR).length<=(l.map (λv=>v.2.1.length+2)).sum:=by
  intro l;induction l with
  |nil=>simp
  |cons v r ih=>
   intro h;have O:=ayR (h v bh)
   grind
 have:=q? m.2.1 λv aC=>(v8 dW v aC).2;unfold gO
 grind
def ayO{n:N}(ah:i? n):(gO (jF n)).length<=900:=by
 have h:=ayP (Mh ah);obtain⟨jZ,c,cJ,rs,g,no,k,d,⟨⟩⟩:=n;obtain⟨ai,bp,ax,eG,gr,sR,ap⟩:=uu.1 ah;refine eZ h ?_;unfold jF;cases jZ
 .simp[na]
 by_cases O:c=101
 .subst O
  rw[if_pos ⟨rfl,rfl⟩]at ap;simp[na,nh];omega
 by_cases R:c=201
 .subst R;simp[na]
 simp[na,O,R]
def aeS(b:V):(∃n,ls b=(n,0,())/\i? n/\gO (jF n)=b)\/∃e,¬e=0/\ls b=(xL,e,()):=by
 unfold ls;by_cases ao:(fw b).2.1=0
 .obtain⟨m,hm⟩:∃m,fw b=(m,0,()):=⟨(fw b).1,by rw[<- ao]⟩
  rw[if_pos ao];by_cases O:i? (qM (fw b).1)/\jF (qM (fw b).1)=(fw b).1
  .rw[if_pos O]
   refine .inl ⟨_,rfl,O.1,?_⟩;rw[hm]at O ⊢;exact(ayS hm O.1).2 O.2
  grind
 grind
def wG:=@BitVec.eq_of_toNat_eq
def yO:=@Nat.not_lt_zero
def Kf(c:UInt8):BitVec.ofInt 8 (aI c)=c.toBitVec:=by unfold aI;simp
def Xs(c:UInt32):BitVec.ofInt 32 (aS c)=c.toBitVec:=by unfold aS;simp
def ahr(v:BitVec 8):u8 (v.toNat:Int)=⟨v⟩:=by apply UInt8.toBitVec_inj.1;show BitVec.ofNat 8 (((v.toNat:Int)%2^8).toNat)=v;apply wG;rw[BK];omega
def ayc(v:BitVec 32):u32 (v.toNat:Int)=⟨v⟩:=by apply UInt32.toBitVec_inj.1;show BitVec.ofNat 32 (((v.toNat:Int)%2^32).toNat)=v;apply wG;rw[BK];omega
def aun(a b:UInt8):u8 (gM .u8 (aI a) (aI b))=a|||b:=by show u8 (((BitVec.ofInt 8 (aI a)|||BitVec.ofInt 8 (aI b)).toNat:Nat):Int)=_;rw[Kf,Kf,ahr];rfl
def ahL(a b:UInt8):u8 (fx .u8 (aI a) (aI b))=a^^^b:=by show u8 (((BitVec.ofInt 8 (aI a)^^^BitVec.ofInt 8 (aI b)).toNat:Nat):Int)=_;rw[Kf,Kf,ahr];rfl
def HY(a b:UInt32):u32 (gM .u32 (aS a) (aS b))=a|||b:=by show u32 (((BitVec.ofInt 32 (aS a)|||BitVec.ofInt 32 (aS b)).toNat:Nat):Int)=_;rw[Xs,Xs,ayc];rfl
def ato{c:UInt8}:aI c=aI (u8 0)↔c=0:=by
 constructor
 .intro h
  have R:(c.toNat:Int)=0:=h;exact uN.1 (by show c.toNat=0;omega)
 rintro rfl;rfl
def sN(a b:V):Nat->UInt8
 |0=>0
 |i+1=>sN a b i|||(a.getD i 0^^^b.getD i 0)
def ad9(a b:V):∀i,sN a b i=0↔∀j,j<i->a.getD j 0=b.getD j 0
 |0=>⟨λ_ j h=>absurd h (yO j),λ_=>rfl⟩
 |i+1=>by
  have ih:=ad9 a b i;have key:(sN a b i|||(a.getD i 0^^^b.getD i 0))=0↔sN a b i=0/\a.getD i 0=b.getD i 0:=bh;show(sN a b i|||(a.getD i 0^^^b.getD i 0))=0↔_
  grind
def Mc(a b:V)(hl:a.length<=9223372036854775807):Dk (a,b,())=some (seq a b,()):=by
 by_cases h:a.length=b.length
 .refine a1 cN ?_
  generalize hf:(λ(ab:UInt8×Int×Unit)=>_)=f;have step:∀i,i<a.length->f (sN a b i,(i:Int),())=some (.nx (sN a b (i+1),((i+1:Nat):Int),())):=by intro i hi;subst hf;have e1:ak a (aa (i:Int)) (u8 0)=a.getD i 0:=rfl;have aN:ak b (aa (i:Int)) (u8 0)=b.getD i 0:=rfl;refine bq cN (bn cN (bn cN ?_));rw[e1,aN,ahL,aun,show i64 (av (i:Int) 1)=((i+1:Nat):Int) by simp(disch:=omega) only[go_sem]<;>omega];rfl
  have f6:f (sN a b a.length,(a.length:Int),())=some (.ex 0 (sN a b a.length,(a.length:Int),())):=by subst hf;exact b1 cN
  have j':bN f (u8 0,0,())=some (.ex 0 (sN a b a.length,(a.length:Int),())):=by have:=md (f:=f) (λi=>(sN a b i,(i:Int),())) a.length step 0 (fI _);exact this.trans (d_ f6)
  rw[j'];refine bn g62 ?_;congr 2;rw[pd];unfold ag seq;rw[beq_iff_eq,beq_iff_eq,ato,ad9];constructor
  .intro an
   refine th h λi O R => ?_
   grind
  grind
 refine bq cN ?_;rw[o5 (λe=>h (congrArg List.length e))]
end Yp
namespace Yp
open Go Go.Proofs Go.RowKit Go.Shelf
attribute [local go_sem] Oper.semAt_some
def aqa{res:Nat->Bool}(ap:k<=n)(h:i4 res n=[]):i4 res k=[]:=by
 unfold i4 at h ⊢;rw[JU]at h ⊢
 grind
set_option maxRecDepth 100000 in
set_option maxHeartbeats 4000000 in
def ao4(lB off cap b:Nat)(ad:Option Addr)(t1 tL:Bool)(tu:Option Addr)(Dv am:Nat)(tt:Option Addr)(sJ Cd:Nat)(bI:Nat->Value×Value)(res:Nat->Bool)(iR:∀j,∃a n c a' n' cL,bI j=(.slice a n c,.slice a' n' cL))(fM:lB<=9223372036854775807)(m:Nat)(w:World)
  (Y:0<lB->ad=some ⟨b,off,none⟩/\b<w.heap.size)
  (ng:∀j,j<lB->w.cell? ⟨b,off+j*2,none⟩=some (bI j).1) (sr:∀j,j<lB->w.cell? ⟨b,off+j*2+1,none⟩=some (bI j).2)
  (RN:∀j,j<lB->∀n w',Below w.heap.size w w'->CallsIn Fence.wide n Tryz.prog 285 #[.agg #[.slice tu Dv am,.slice tt sJ Cd],.agg #[(bI j).1,(bI j).2]] w' λe Jc=>e=.returned (.bool (res j))/\Below w'.heap.size w' Jc) :
  CallsIn Fence.wide (m+3) Tryz.prog 254 #[.agg #[.bool t1,.slice ad lB cap,.bool tL],.slice tu Dv am,.slice tt sJ Cd] w λe w'=>e=.returned (.bool (i4 res lB != []))/\Below w.heap.size w w':=by
 have azJ:Fence.wide.fn 286:=trivial;refine callsIn_of_wp_marks Tryz.func254 rfl trivial ?_ rfl;simp only[Tryz.ntmps254,pg,ew,gu,Nat.reduceAdd,Nat.reduceSub,rX,ta,tg,tb,nG,lA]
 gi_wp2_with (gi_at_call 286;refine(anK _ _ _ _ _ _ rfl).mono ?_;rintro e w' ⟨rfl,rfl⟩)
 have eS:=Boxed.new (w.alloc (.cells #[.bool t1,.slice ad lB cap,.bool tL] 63)) 4 (.bool false);have ei:=Boxed.new ((w.alloc (.cells #[.bool t1,.slice ad lB cap,.bool tL] 63)).alloc (.cells #[.bool false] 4)) 61 (.slice ad lB cap);have jy:=Boxed.new (((w.alloc (.cells #[.bool t1,.slice ad lB cap,.bool tL] 63)).alloc (.cells #[.bool false] 4)).alloc (.cells #[.slice ad lB cap] 61)) 387 (.func (.func 285) #[.agg #[.slice tu Dv am,.slice tt sJ Cd]] #[]);simp only[World.size_alloc]at eS ei jy;obtain⟨hq,nk⟩:∃hq,hq=((((w.alloc (Obj.cells #[Value.bool t1,Value.slice ad lB cap,Value.bool tL] 63)).alloc (Obj.cells #[Value.bool false] 4)).alloc (Obj.cells #[Value.slice ad lB cap] 61)).alloc (Obj.cells #[Value.func (Fn.func 285) #[Value.agg #[Value.slice tu Dv am,Value.slice tt sJ Cd]] #[]] 387)):=⟨_,rfl⟩;have ai8:Boxed hq (w.heap.size+1) 4 (.bool false):=by rw[nk];exact(eS.alloc _).alloc _
 have ai9:Boxed hq (w.heap.size+1+1) 61 (.slice ad lB cap):=by rw[nk];exact ei.alloc _
 have aja:Boxed hq (w.heap.size+1+1+1) 387 (.func (.func 285) #[.agg #[.slice tu Dv am,.slice tt sJ Cd]] #[]):=by rw[nk];exact jy
 have Lq:Below w.heap.size w hq:=by rw[nk];exact((((Below.refl _ w).alloc (bU _) _).alloc bh _).alloc fs _).alloc fs _
 have aqW:hq.heap.size=w.heap.size+1+1+1+1:=by rw[nk];simp
 rw[<- nk];clear eS ei jy;refine wpIn_rangeFunc_ownG (w0:=hq) rfl J (gf:=296) (lb:=#[.pointer (some ⟨w.heap.size+1+1,0,none⟩),.pointer (some ⟨w.heap.size+1+1+1,0,none⟩)]) rfl trivial (enters_of Tryz.func296 (by kernel_rfl) rfl)
   (encs:=λx:Nat=>#[.int .i64 (x:Int)]) (Kp:=Below hq.heap.size) (S:=λbs=>bs=i4 res lB) (Sp:=λpre=>∃k,k<=lB/\pre=i4 res k) (N:=lB)
   ?seq ?kt ?kb (Below.refl _ _) (λ_=>rfl)
   (λpre W=>(pre=[]/\Boxed W (w.heap.size+1) 4 (.bool false))/\Below w.heap.size w W)
   (λc pre W=>((c=.ret/\pre≠[])/\Boxed W (w.heap.size+1) 4 (.bool true))/\Below w.heap.size w W)
   (OwnFrom.and (OwnFrom.and (ownFrom_pure _ _) (Own.from (boxed_own (w.heap.size+1) 4 (λ_=>.bool false)) _)) (ownFrom_below (bU _) J))
   (λc=>OwnFrom.and (OwnFrom.and (ownFrom_pure _ _) (Own.from (boxed_own (w.heap.size+1) 4 (λ_=>.bool true)) _)) (ownFrom_below (bU _) J))
   ?start ?cI ?assign ?body ?done ?stop
 case assign=>
  intro l x W K fL
  gi_wp2
  exact fL
 case seq=>
  intro l hG rY W hW kx aaR vh ao;refine(anJ (m+1) l (w.heap.size+1+1) (w.heap.size+1+1+1) hq.heap.size b off cap lB ad (.slice tu Dv am) (.slice tt sJ Cd) bI res iR fM (λh=>⟨(Y h).1,by have:=(Y h).2;omega⟩) hG rY (λs l0 Ff ac Y=>kx s l0 Ff none ac ⟨Y.os,Y.tape,Y.output,Y.size,λk ap _=>Y.block k ap⟩ (λr e=>by cases e)) (λpre x l0 an _ _ hl=>vh pre x l0 an hl) W ?_ ?_ J J hW.size (λj an => ?_) (λj an => ?_) (λj an w' G5 => ?_) ao).mono ?_
  .exact(hW.cell (p:=⟨w.heap.size+1+1,0,none⟩) fs).trans ai9.cell
  .exact(hW.cell (p:=⟨w.heap.size+1+1+1,0,none⟩) fs).trans aja.cell
  .have dD:=(Y J).2
   exact(hW.cell (p:=⟨b,off+j*2,none⟩) fs).trans ((Lq.cell (p:=⟨b,off+j*2,none⟩) dD).trans (ng j an))
  .have dD:=(Y J).2
   exact(hW.cell (p:=⟨b,off+j*2+1,none⟩) fs).trans ((Lq.cell (p:=⟨b,off+j*2+1,none⟩) dD).trans (sr j an))
  .exact RN j an _ _ (Lq.trans ((hW.trans G5).mono J))
  rintro e W' ⟨aA,h⟩;exact⟨aA,h.elim (λh=>.inl ⟨_,rfl,h⟩) (λ⟨k,ap,h⟩=>.inr ⟨_,⟨k,ap,rfl⟩,h⟩)⟩
 case kt=>exact λh k=>h.trans k
 case kb =>intro W l o di hl aK O R;exact belowK_b (w:=hq) (bU _) W l o di hl aK O R
 case start=>exact⟨⟨rfl,ai8⟩,Lq⟩
 case body=>
  rintro l pre x W ⟨⟨rfl,aC⟩,aB⟩ bm;have ai:=aC.cell;have hf:=aC.frozen
  gi_wp2
  exact⟨(KeepsOthers.setCell _ _ _).from _,⟨⟨rfl,bh⟩,aC.set _⟩,aB.trans ((Below.refl _ _).setCell (p:=⟨w.heap.size+1,0,none⟩) bh _)⟩
 case done=>
  rintro D bs W hJ rfl ⟨⟨ao,aC⟩,aB⟩ fL;have ai:=aC.cell;have hf:=aC.frozen
  gi_wp2
  have lc:=(KeepsOthers.setCell W ⟨w.heap.size+1,0,none⟩ (.bool false)).same D _ fL rfl;refine⟨bh,.inl ⟨_,_,rfl,run_takeDeferred lc,?_⟩⟩;have bj:Boxed ((W.setCell ⟨w.heap.size+1,0,none⟩ (.bool false)).putObj D (.deferred none)) (w.heap.size+1) 4 (.bool false):=(aC.set (.bool false)).kept (grownBy_putObj' _ D _) (λe=>by cases e;omega);refine⟨.bool false,by simp[results,Tryz.f254,go_sem,bj.cell],by rw[ao];rfl,?_⟩;exact(aB.trans ((Below.refl _ _).setCell (p:=⟨w.heap.size+1,0,none⟩) bh _)).trans (belowK_b (w:=w) (bU _) _ D _ _ J lc rfl rfl)
 case stop=>
  rintro D c pre W hJ ⟨k,ap,rfl⟩ ⟨⟨⟨rfl,eC⟩,aC⟩,aB⟩ fL;have ai:=aC.cell
  gi_wp2
  refine⟨bh,.inl ⟨_,_,rfl,run_takeDeferred fL,?_⟩⟩;have bj:Boxed (W.putObj D (.deferred none)) (w.heap.size+1) 4 (.bool true):=aC.kept (grownBy_putObj' _ D _) (λe=>by cases e;omega);refine⟨.bool true,by simp[results,Tryz.f254,go_sem,bj.cell],?_,?_⟩
  .have:i4 res lB≠[]:=λe=>eC (aqa ap e)
   simp[this]
  exact aB.trans (belowK_b (w:=w) (bU _) _ D _ _ J fL rfl rfl)
end Yp
namespace Yp
open Go Go.Proofs Go.RowKit Go.Shelf
abbrev ao3:=V×V×Unit
abbrev vX:ae:=.pair (.sl (.int .u8)) (.pair (.sl (.int .u8)) .unit)
def Uc(x:(V×V×Unit)×(V×V×Unit)×Unit):Option (Bool×Unit):=
 ob (Dk (x.1.1,x.2.1.1,())) λ(a:Bool×Unit)=>
 ob (T a.1 (ob (Dk (x.1.2.1,x.2.1.2.1,())) λ(a:Bool×Unit)=>some (a.1,())) (some (false,()))) λ(a:Bool×Unit)=>some (a.1,())
abbrev awJ:eA:=⟨[vX,vX],[.im (.bool)],Uc⟩
set_option maxRecDepth 100000 in
def akZ(ky:fG Tryz.prog 247 Io):fG Tryz.prog 285 awJ:=Dq (E:=e6 [(247,Io)] [] [] [] none false false 0) (n8 (az aW ky) aX iD oX pP) Tryz.func285 5 (by kernel_rfl) (by kernel_rfl) (λx=>by kernel_rfl)
def auC(k b e f:V)(ap:k.length<=9223372036854775807)(Y:b.length<=9223372036854775807):Uc ((k,b,()),(e,f,()),())=some (cZ (seq k e) (seq b f),()):=by unfold Uc;rw[Mc _ _ ap];rw[Mc _ _ Y];cases seq k e<;>rfl
def ayt{w w':World}{X:Nat->Prop}(Y:Below w.heap.size w w'):(view w X).cb (view w' X):=by intro b o h;obtain⟨O,R⟩:=js.1 h;refine js.2 ⟨O,?_⟩;rw[Y.block b (ip.1 R).1];exact R
def awP{c:Array Value}{o:Nat}(h:o+2<=c.size):cH c o 2=[c[o],c[o+1]]:=by unfold cH;rw[m2 (by grind),m2 (by grind)];simp
def ajm{w w':World}{X:Nat->Prop}{rs:List ef}{r:d8 rs}{b2:Value}(h:iu w X w' rs r b2):Below w.heap.size w w':=by obtain⟨ay,O,R,af,aq,a8,_⟩:=h;exact⟨O,R,af,aq,a8⟩
def aiR(l:List α)(q:α->Bool)(res:Nat->Bool)(h:∀j x,l[j]?=some x->res j=q x):(i4 res l.length != [])=l.any q:=by
 rw[pd];simp;unfold i4;rw[JU];constructor
 .intro aj
  by_cases hx:∃x,x∈l/\q x=true
  .exact hx
  refine absurd (λj an => ?_) aj;have l_:=ox.1 an;rw[h j l[j] (jN l_)]
  grind
 rintro⟨x,hx,a2⟩ aj;obtain⟨j,an,rfl⟩:=uP hx;refine aj j (ox.2 an) ?_
 grind
abbrev afG:eA:=⟨[.pair (.bool) (.pair (.sl vX) (.pair (.bool) (.unit))),.sl (.int .u8),.sl (.int .u8)],[.im (.bool)],H5⟩
set_option maxRecDepth 100000 in
def ao5(ky:fG Tryz.prog 247 Io)(t1 tL:Bool)(jr:List ao3)(key tx:V){w:World}{X:Nat->Prop}(dg:∀b,X b->b<w.heap.size)(kP:lM Tryz.prog (view w X)){hw q6 KB:List Value}
  (R:aH (view w X) (.sl vX) jr hw) (ap:aH (view w X) (.sl (.int .u8)) key q6) (Y:aH (view w X) (.sl (.int .u8)) tx KB) :
  Calls Tryz.prog 254 #[.agg (#[.bool t1]++hw.toArray ++ #[.bool tL]),q6.headD undef,KB.headD undef] w λe w'=>∃b2,e=.returned b2/\iu w X w' [.im .bool] ((jr.any λe=>cZ (seq key e.1) (seq tx e.2.1),()):Bool×Unit) b2:=by
 have Si:=ap;have jB:=Y;obtain⟨ad,cap,rfl,dT,ev,t3⟩:=aH.ic.1 R;obtain⟨tu,Ql,rfl,bF,b3,_⟩:=aH.ic.1 ap;obtain⟨tt,Qk,rfl,eS,ei,_⟩:=aH.ic.1 Y;have i6:maxLen<=9223372036854775807:=by unfold maxLen;omega
 have CZ:key.length<=9223372036854775807:=eZ bF (eZ b3 i6);have dD:tx.length<=9223372036854775807:=eZ eS (eZ ei i6);have tY:jr.length<=9223372036854775807:=eZ dT (eZ ev i6)

 obtain⟨b,off,bI,GQ,iR,ng,sr,qv⟩:∃(b off:Nat) (bI:Nat->Value×Value),(0<jr.length->ad=some ⟨b,off,none⟩/\b<w.heap.size)/\(∀j,∃a n c a' n' cL,bI j=(.slice a n c,.slice a' n' cL)) /\
   (∀j,j<jr.length->w.cell? ⟨b,off+j*2,none⟩=some (bI j).1)/\(∀j,j<jr.length->w.cell? ⟨b,off+j*2+1,none⟩=some (bI j).2) /\
   (∀j (e:V×V×Unit),jr[j]?=some e->aH (view w X) vX e [(bI j).1,(bI j).2]):=by
  rcases t3 with t3|⟨b,o,c,el,fz,bu,aC,cQ,GC⟩
  .refine⟨0,0,λ_=>(.slice none 0 0,.slice none 0 0),λh => ?_,λ_=>⟨_,_,_,_,_,_,rfl⟩,λj an => ?_,λj an => ?_,λj e aA => ?_⟩
   .rw[show jr=[] from t3]at h;simp at h
   .rw[show jr=[] from t3]at an;simp at an
   .rw[show jr=[] from t3]at an;simp at an
   rw[show jr=[] from t3]at aA;simp at aA
  obtain⟨n2,hh⟩:=js.1 aC;have aq5:o+jr.length*2<=c.size:=cQ;have tW:∀j e,jr[j]?=some e->∃(h:o+j*2+2<=c.size),aH (view w X) vX e [c[o+j*2],c[o+j*2+1]]:=by intro j e aA;have an:j<jr.length:=(mt.1 aA).1;have bY:o+j*2+2<=c.size:=J;refine⟨bY,?_⟩;have:=GC j e aA;rw[show cH c (o+j*vX.size) vX.size=cH c (o+j*2) 2 from rfl,awP bY]at this;exact this
  have qw:∀(l:V) (v:Value),aH (view w X) (.sl (.int .u8)) l [v]->∃a n c,v=.slice a n c:=by intro l v h;obtain⟨a,gz,aA,_⟩:=aH.ic.1 h;cases aA;exact⟨_,_,_,rfl⟩
  have aqK:∀(e:V×V×Unit) (u v:Value),aH (view w X) vX e [u,v]->(∃a n c,u=.slice a n c)/\∃a n c,v=.slice a n c:=by intro e u v h;obtain⟨k?,mB,aF,bG,b_⟩:=aH.mh.1 h;obtain⟨w1,KC,xl,cp,dl⟩:=aH.mh.1 b_;obtain rfl:=aH.Bs.1 dl;have eW:k?.length=1:=bG.length;have oS:w1.length=1:=cp.length;obtain⟨y,rfl⟩:=List.length_eq_one_iff.1 eW;obtain⟨z,rfl⟩:=List.length_eq_one_iff.1 oS;subst xl;simp only[List.singleton_append,hF,yU,and_true]at aF;obtain⟨rfl,rfl⟩:=aF;exact⟨qw _ _ bG,qw _ _ cp⟩
  refine⟨b,o,λj=>if h:j<jr.length then(c[o+j*2]'J,c[o+j*2+1]'J) else(.slice none 0 0,.slice none 0 0),λ_=>⟨bu,(ip.1 hh).1⟩,λj => ?_,λj an => ?_,λj an => ?_,λj e aA => ?_⟩
  .by_cases an:j<jr.length
   .obtain⟨bY,ah⟩:=tW j _ (jN an)
    obtain⟨⟨a,n,alV,e1⟩,⟨a',n',alW,aN⟩⟩:=aqK _ _ _ ah;exact⟨a,n,alV,a',n',alW,by dsimp only;rw[dif_pos an,e1,aN]⟩
   exact⟨_,_,_,_,_,_,dif_neg an⟩
  .dsimp only;rw[dif_pos an,World.cell?,hh];simp[show o+j*2<c.size by omega]
  .dsimp only;rw[dif_pos an,World.cell?,hh];simp[show o+j*2+1<c.size by omega]
  have an:j<jr.length:=(mt.1 aA).1;dsimp only;rw[dif_pos an];exact(tW j e aA).2
 let q:V×V×Unit->Bool:=λe=>cZ (seq key e.1) (seq tx e.2.1)
 let res:Nat->Bool:=λj=>match jr[j]? with|some e=>q e|none=>false
 have Md:=ao4 jr.length off cap b ad t1 tL tu key.length Ql tt tx.length Qk bI res iR tY 0 w GQ ng sr (λj an n w' G5 => ?_)
 .refine(callsIn_wide (n:=3)).1 (Md.mono ?_)
  rintro e w' ⟨rfl,CQ⟩;refine⟨_,rfl,X,CQ.os,CQ.tape,CQ.output,CQ.size,CQ.block,λ_ _=>pm,λb h=>hU (dg b h) CQ.size,[.bool (i4 res jr.length != [])],?_,rfl⟩;refine⟨[.bool _],[],rfl,aH.nP.2 ?_,rfl⟩;rw[aiR jr q res (λj e aA=>by show(match jr[j]? with|some e=>q e|none=>false)=q e;rw[aA])]
 refine callsIn_wide.2 ?_;have aA:=jN an;have bb:=G5;have bY:(view w X).cb (view w' X):=ayt bb;have:=(akZ ky).2 w' X ((key,tx,()),(jr[j].1,jr[j].2.1,()),()) [.agg #[.slice tu key.length Ql,.slice tt tx.length Qk],.agg #[(bI j).1,(bI j).2]] _ (λb h=>hU (dg b h) bb.size) (kP.mono bY)
  ⟨[.slice tu key.length Ql,.slice tt tx.length Qk],_,rfl,aH.mh.2 ⟨[_],[_],rfl,Si.mono bY,aH.mh.2 ⟨[_],[],rfl,jB.mono bY,aH.Bs.2 rfl⟩⟩,[(bI j).1,(bI j).2],[],rfl,(qv j _ aA).mono bY,rfl⟩
  (auC _ _ _ _ CZ dD)
 refine this.mono ?_;rintro e Jc ⟨b2,rfl,ah⟩;refine⟨?_,ajm ah⟩;obtain⟨ay,_,_,_,_,_,_,_,us,aC,rfl⟩:=ah;obtain⟨ds,az4,rfl,ai,rfl⟩:=aC;obtain rfl:=aH.nP.1 ai;show Ending.returned (.bool _)=Ending.returned (.bool (match jr[j]? with|some e=>q e|none=>false));rw[aA]
set_option maxRecDepth 100000 in
def aoU(ky:fG Tryz.prog 247 Io):fG Tryz.prog 254 afG:=by refine⟨⟨Tryz.f254,Tryz.func254,by kernel_rfl,by kernel_rfl⟩,?_⟩;intro w X x vs r dg kP bu ah;obtain⟨⟨t1,jr,tL,⟨⟩⟩,key,tx,⟨⟩⟩:=x;obtain rfl:=lZ ah;obtain⟨cs,ahy,rfl,hp,q6,mX,rfl,ap,KB,ayu,rfl,Y,rfl⟩:=bu;obtain⟨c1,c2,rfl,O,hp⟩:=aH.mh.1 hp;obtain⟨hw,c4,rfl,R,hp⟩:=aH.mh.1 hp;obtain⟨c5,ay6,rfl,af,hp⟩:=aH.mh.1 hp;obtain rfl:=aH.Bs.1 hp;obtain rfl:=aH.nP.1 O;obtain rfl:=aH.nP.1 af;have:=ao5 ky t1 tL jr key tx dg kP R ap Y;refine cast ?_ this;congr 1;simp[cv,ae.isAgg]
end Yp
namespace Yp
open Go Go.Proofs Go.RowKit Go.Shelf
def Wx:=@List.filter_cons_of_neg
attribute [-go_sem] g02 g03 g04 g05 g06 g01 g07 g08 g09 g10 g11 g12 g13 g14 g15 g16 g17 g18 g19 g20 g21 g22 g23 g24 g25 g26 g27 g28 g29 g30 g31 g32 g34 g35 g36 g37 g38 g39 g40 g41 g42 g43 g44 g45 g46 g47 g48 g49 g50 g51 g52 g53 g54 g55 g56 g57 g58 g60 g61 lc_rt' lc_ex' lc_nx g62 g63 nth_get g33 g64 g65 g66
attribute [local go_sem] Oper.semAt_some
def ajl{w w':World}{X:Nat->Prop}{rs:List ef}{r:d8 rs}{b2:Value}(h:iu w X w' rs r b2):Below w.heap.size w w':=by obtain⟨ay,O,R,af,aq,a8,_⟩:=h;exact⟨O,R,af,aq,a8⟩
def asn{P:Program}{w w':World}{X:Nat->Prop}(h:lM P (view w X))(Y:Below w.heap.size w w'):lM P (view w' X):=
 h.mono λb o aC=>by obtain⟨hx,hh⟩:=js.1 aC;exact js.2 ⟨hx,(Y.block b (ip.1 hh).1).trans hh⟩
def auT{P:Program}{f:Nat}(pD:fG P f ⟨[.int .i64],[.im (.int .i64),.im (.int .u8)],tz⟩)(O:1<=n)(R:n<=128)(m:Nat)(w:World){X:Nat->Prop}(dg:∀b,X b->b<w.heap.size)(ap:lM P (view w X)):
  CallsIn Fence.wide m P f #[.int .i64 (n:Int)] w λe w'=>e=.returned (.tuple #[.int .i64 (((n-1)/8:Nat):Int),.int .u8 (aI (y_ ((n-1)%8)))])/\Below w.heap.size w w':=by
 refine callsIn_wide.2 ?_;have:=pD.2 w X ((n:Int),()) [.int .i64 (n:Int)] (_,_,()) dg ap ⟨[.int .i64 (n:Int)],[],rfl,aH.ia.2 rfl,rfl⟩ (Xe O R);refine this.mono ?_;rintro e w' ⟨b2,rfl,ah⟩;refine⟨?_,ajl ah⟩;obtain⟨ay,_,_,_,_,_,_,_,vs,aC,rfl⟩:=ah;obtain⟨cs,ahy,rfl,ai,q6,mX,rfl,oL,rfl⟩:=aC;have nf:=aH.ia.1 ai;have apk:=aH.ia.1 oL;subst nf apk;rfl
def h_(b9:V)(k:Nat):List Nat:=(List.range k).filter λn=>Nat.ble 1 n&&iA b9 n
def ahR(b9:V)(k:Nat):h_ b9 (k+1)=h_ b9 k++if(Nat.ble 1 k&&iA b9 k)=true then[k]else[]:=by
 unfold h_;rw[BV,E_]
 grind
def ajA:∀c:UInt8,∀t:Nat,t<8->(Go.bits BinOp.and IntKind.u8 (aI c) (aI (y_ t)) != 0)=bt c t:=tv iL
def Wl(b9:V)(k:Nat)(h:1<=k):(h_ b9 k).length<k:=by
 obtain⟨j,rfl⟩:∃j,k=j+1:=⟨k-1,J⟩;have ao:h_ b9 (j+1)=(((List.range j).map (·+1)).filter λn=>Nat.ble 1 n&&iA b9 n):=by unfold h_;rw[List.range_succ_eq_map,Wx bh]
 rw[ao];have:=rW (λn=>Nat.ble 1 n&&iA b9 n) ((List.range j).map (·+1));simp only[ov,JS]at this;omega
def S3(n₀ qU:Nat)(W W':World):Prop:=Below n₀ W W'/\W'.cell? ⟨qU,0,none⟩=W.cell? ⟨qU,0,none⟩
set_option maxRecDepth 100000 in
set_option maxHeartbeats 2000000 in
def af9(pD:fG Tryz.prog 268 ⟨[.int .i64],[.im (.int .i64),.im (.int .u8)],tz⟩)(w0:World)(X:Nat->Prop)(dg:∀b,X b->b<w0.heap.size)(pF:lM Tryz.prog (view w0 X))(n l qU n₀ b off cap:Nat)(b9:V)(cr:b9.length<=16)(Y:b<n₀)(hG rY:List Nat->World->Prop)
  (kx:∀s W W',hG s W->Below W.heap.size W W'->hG s W')
  (vh:∀(pre:List Nat) (x:Nat) W,hG pre W->1<=x->x<=128->pre.length<128->YieldAt Fence.wide n Tryz.prog l #[.int .i64 (x:Int)] W λe W'=>
   (e=.returned (.bool true)/\hG (pre++[x]) W'/\S3 n₀ qU W W')\/(e=.returned (.bool false)/\rY (pre++[x]) W'))
  (W:World) (aaH:Below w0.heap.size w0 W) (pG:n₀=w0.heap.size) (aoz:W.cell? ⟨qU,0,none⟩=some (.slice (some ⟨b,off,none⟩) b9.length cap)) (aaM:qU<W.heap.size) (aj:n₀<=W.heap.size) (ai:∀j,(h:j<b9.length)->W.cell? ⟨b,off+j,none⟩=some (.int .u8 (aI b9[j]))) (ao:hG [] W) :
  CallsIn Fence.wide (n+1) Tryz.prog 287 #[.func (.yield l) #[] #[],.pointer (some ⟨qU,0,none⟩)] W λe W'=>(∃v,e=.returned v) /\
   (hG (h_ b9 (8*b9.length+1)) W'\/(∃k,k<=8*b9.length+1/\rY (h_ b9 k) W')):=by
 have azG:Fence.wide.fn 268:=trivial;refine callsIn_of_wp Tryz.func287 rfl trivial ?_ rfl;simp only[Tryz.ntmps287,pg,ew,gu,Nat.reduceAdd,Nat.reduceSub,rX,ta,tg,tb,nG,lA]
 gi_wp2
 gi_loopw [3] (λi wr=>∃k:Nat,1<=k/\k<=8*b9.length+1/\i=.int .i64 k/\hG (h_ b9 k) wr/\Below n₀ W wr/\W.heap.size<=wr.heap.size/\wr.cell? ⟨qU,0,none⟩=some (.slice (some ⟨b,off,none⟩) b9.length cap))
  (λi _=>8*b9.length+1-(intOf i).toNat)
 case atStart=>exact⟨1,bU _,J,rfl,by have:h_ b9 1=[]:=(by unfold h_;rfl);rw[this];exact ao,Below.refl _ _,bU _,aoz⟩
 case round=>
  obtain⟨k,re,ap,rfl,CN,n2,cQ,aaN⟩:=hrel;by_cases bm:k<=8*b9.length
  .have bY:(k:Int)<=8*(b9.length:Int):=J
   obtain⟨p,t,c,iB,LF,aq8,aa9,Gv⟩:∃(p t:Nat) (c:UInt8),(∀w,Below w0.heap.size w0 w->CallsIn Fence.wide n Tryz.prog 268 #[.int .i64 (k:Int)] w λe w'=>e=.returned (.tuple #[.int .i64 (p:Int),.int .u8 (aI (y_ t))])/\Below w.heap.size w w')/\p<b9.length/\t<8/\W.cell? ⟨b,off+p,none⟩=some (.int .u8 (aI c))/\bt c t=iA b9 k:=by have LF:(k-1)/8<b9.length:=J;refine⟨(k-1)/8,(k-1)%8,b9[(k-1)/8],λcf sy=>auT pD re (show k<=128 by omega) n cf (λb h=>hU (dg b h) sy.size) (asn pF sy),LF,J,ai _ LF,?_⟩;unfold iA;rw[nth_get LF]
   have azA:(p:Int)<(b9.length:Int):=J;have Gu:=ajA c t aq8;rw[Gv]at Gu;have azH:(Fence.wide).depth.isSome=true->1<=n:=λh=>by cases h
   cases hh:iA b9 k
   .rw[hh]at Gu
    have bj:Go.bits BinOp.and IntKind.u8 (aI c) (aI (y_ t))=0:=by simpa using Gu
    have nl:h_ b9 (k+1)=h_ b9 k:=by rw[ahR,hh,Bool.and_false,if_neg bh,hF]
    clear Gv Gu hh
    gi_wp2_with (gi_at_call 268;refine(iB _ (aaH.trans (pG▸n2))).mono ?_;rintro e cf ⟨rfl,hb1⟩;have RI:cf.cell? ⟨qU,0,none⟩=some (.slice (some ⟨b,off,none⟩) b9.length cap):=(hb1.cell (p:=⟨qU,0,none⟩) (hU aaM cQ)).trans aaN;have apy:cf.cell? ⟨b,off+p,none⟩=some (.int .u8 (aI c)):=(hb1.cell (p:=⟨b,off+p,none⟩) (hU Y (eZ aj cQ))).trans ((n2.cell (p:=⟨b,off+p,none⟩) Y).trans aa9))
    refine⟨λ_ _=>trivial,?_⟩
    gi_wp2
    refine⟨⟨k+1,J,J,bh,by rw[nl];exact kx _ _ _ CN hb1,n2.trans (hb1.mono (eZ aj cQ)),eZ cQ hb1.size,RI⟩,?_⟩;simp[intOf];omega
   rw[hh]at Gu;have nl:h_ b9 (k+1)=h_ b9 k++[k]:=by have:Nat.ble 1 k=true:=JW re;rw[ahR,hh,this];rfl
   have LQ:=Wl b9 k re;have aoQ:=λcf (an:hG (h_ b9 k) cf)=>vh _ k cf an re (show k<=128 by omega) J;clear Gv hh
   gi_wp2_with (gi_at_call 268;refine(iB _ (aaH.trans (pG▸n2))).mono ?_;rintro e cf ⟨rfl,hb1⟩;have RI:cf.cell? ⟨qU,0,none⟩=some (.slice (some ⟨b,off,none⟩) b9.length cap):=(hb1.cell (p:=⟨qU,0,none⟩) (hU aaM cQ)).trans aaN;have apy:cf.cell? ⟨b,off+p,none⟩=some (.int .u8 (aI c)):=(hb1.cell (p:=⟨b,off+p,none⟩) (hU Y (eZ aj cQ))).trans ((n2.cell (p:=⟨b,off+p,none⟩) Y).trans aa9);obtain⟨fn,tmps,assign,body,hy,jl⟩:=aoQ cf (kx _ _ _ CN hb1))
   refine jl.mono ?_;rintro e aiA (⟨rfl,RP,fc⟩|⟨rfl,RQ⟩)
   .gi_wp2
    refine⟨⟨k+1,J,J,bh,by rw[nl];exact RP,(n2.trans (hb1.mono (eZ aj cQ))).trans fc.1,eZ cQ (eZ hb1.size fc.1.size),fc.2.trans RI⟩,?_⟩;simp[intOf];omega
   gi_wp2
   refine bodyPost_ret (results_none rfl _ _ _) rfl ?_;exact⟨⟨_,rfl⟩,.inr ⟨k+1,J,by rw[nl];exact RQ⟩⟩
  have qs:k=8*b9.length+1:=J;subst qs;have vq:¬((8*b9.length+1:Nat):Int)<=8*(b9.length:Int):=J
  gi_wp2
  go_end0
  exact⟨⟨_,rfl⟩,.inl CN⟩
end Yp
namespace Yp
open Go Go.Proofs Go.RowKit Go.Shelf
def O':=@List.getElem?_take_of_lt
attribute [-go_sem] g02 g03 g04 g05 g06 g01 g07 g08 g09 g10 g11 g12 g13 g14 g15 g16 g17 g18 g19 g20 g21 g22 g23 g24 g25 g26 g27 g28 g29 g30 g31 g32 g34 g35 g36 g37 g38 g39 g40 g41 g42 g43 g44 g45 g46 g47 g48 g49 g50 g51 g52 g53 g54 g55 g56 g57 g58 g60 g61 lc_rt' lc_ex' lc_nx g62 g63 nth_get g33 g64 g65 g66
attribute [local go_sem] Oper.semAt_some
abbrev y1:List ef:=[.ow (.int .i64),.im (.int .i64),.im (.int .i64)]
def x8{w w':World}{X:Nat->Prop}(dg:∀b,X b->b<w.heap.size)(Y:Below w.heap.size w w')(e:Int):iu w X w' y1 (([],0,e,()):List Int×Int×Int×Unit) (.tuple #[.slice none 0 0,.int .i64 0,.int .i64 e]):=by refine⟨X,Y.os,Y.tape,Y.output,Y.size,Y.block,λ_ _=>pm,λb h=>hU (dg b h) Y.size,[.slice none 0 0,.int .i64 0,.int .i64 e],?_,rfl⟩;exact⟨_,_,rfl,.inl ⟨rfl,⟨none,rfl⟩,⟨[.int .i64 0],_,rfl,aH.ia.2 rfl,⟨[.int .i64 e],_,rfl,aH.ia.2 rfl,rfl⟩⟩⟩⟩
def ae3{w w':World}{X:Nat->Prop}(dg:∀b,X b->b<w.heap.size)(Y:Below w.heap.size w w'){v:Value}{l:List Int}(aK:w'.ownsRow w.heap.size 3 1 v l.length (l.map (Value.int .i64)))(n:Int):iu w X w' y1 ((l,n,0,()):List Int×Int×Int×Unit) (.tuple #[v,.int .i64 n,.int .i64 0]):=by
 obtain⟨_,⟨rfl,ao⟩|⟨g,cap,gF,rfl,hg,hh,sr,oL,aa8,azp⟩⟩:=aK
 .have:l=[]:=k3.1 ao
  subst this;refine⟨X,Y.os,Y.tape,Y.output,Y.size,Y.block,λ_ _=>pm,λb h=>hU (dg b h) Y.size,[.slice none 0 0,.int .i64 n,.int .i64 0],?_,rfl⟩;exact⟨_,_,rfl,.inl ⟨rfl,⟨none,rfl⟩,⟨[.int .i64 n],_,rfl,aH.ia.2 rfl,⟨[.int .i64 0],_,rfl,aH.ia.2 rfl,rfl⟩⟩⟩⟩
 have ap4:g<w'.heap.size:=(ip.1 hh).1;refine⟨λb=>X b\/b=g,Y.os,Y.tape,Y.output,Y.size,Y.block,λb dD=>⟨λh=>h.elim id (λe=>J),.inl⟩,λb h=>h.elim (λh=>hU (dg b h) Y.size) (λe=>e▸ap4),[.slice (some ⟨g,0,none⟩) l.length cap,.int .i64 n,.int .i64 0],?_,rfl⟩;refine⟨_,_,rfl,.inr ⟨g,⟨0,gF,3,(0,0),cap,rfl,sr,oL,?_,hh,⟨?_,?_⟩,?_,.inr rfl,λh=>absurd (h) (Nat.not_lt.2 hg),λh=>h⟩,⟨[.int .i64 n],_,rfl,aH.ia.2 rfl,⟨[.int .i64 0],_,rfl,aH.ia.2 rfl,rfl⟩⟩⟩⟩
 .show 0+cap*1<=gF.size
  omega
 .show 0+l.length*1<=gF.size
  omega
 .intro i x hi
  have gG:l[i]?=some x:=hi;have bm:i<l.length:=(mt.1 gG).1;show cH gF (0+i*1) 1=[Value.int .i64 x];rw[jw,mw];have O:gF.toList[i]?=some (Value.int .i64 x):=by
   have R:(List.take (l.length*1) gF.toList)[i]?=gF.toList[i]?:=O' J
   grind
  obtain⟨aqk,Se⟩:=mt.1 O;unfold cH;rw[m2 aqk,Se];rfl
 exact .inl rfl
def u1(w:World)(li mf TM:Obj):Below w.heap.size w (((w.alloc li).alloc mf).alloc TM):=(((Below.refl _ w).alloc (bU _) _).alloc bh _).alloc fs _
set_option maxRecDepth 100000 in
set_option maxHeartbeats 2000000 in
def avH(a:Option Addr)(n cap:Nat)(c':Int)(h:c'<0)(m:Nat)(w:World)(X:Nat->Prop)(dg:∀b,X b->b<w.heap.size):
  CallsIn Fence.wide m Tryz.prog 210 #[.slice a n cap,.int .i64 c'] w λe w'=>∃b2,e=.returned b2/\iu w X w' y1 (([],0,1,()):List Int×Int×Int×Unit) b2:=by
 refine callsIn_of_wp Tryz.func210 rfl trivial ?_ rfl;simp only[Tryz.ntmps210,pg,ew,gu,Nat.reduceAdd,Nat.reduceSub,rX,ta,tg,tb,nG,lA]
 gi_wp2
 exact bodyPost_ret (v:=.tuple #[.slice none 0 0,.int .i64 0,.int .i64 1]) (by simp[results,Tryz.f210,go_sem]) rfl ⟨_,rfl,x8 dg (u1 _ _ _ _) 1⟩
set_option maxRecDepth 100000 in
set_option maxHeartbeats 2000000 in
def avI(a:Option Addr)(n cap:Nat)(c':Int)(ao:¬c'<0)(h:(n:Int)<c')(m:Nat)(w:World)(X:Nat->Prop)(dg:∀b,X b->b<w.heap.size):
  CallsIn Fence.wide m Tryz.prog 210 #[.slice a n cap,.int .i64 c'] w λe w'=>∃b2,e=.returned b2/\iu w X w' y1 (([],0,1,()):List Int×Int×Int×Unit) b2:=by
 refine callsIn_of_wp Tryz.func210 rfl trivial ?_ rfl;simp only[Tryz.ntmps210,pg,ew,gu,Nat.reduceAdd,Nat.reduceSub,rX,ta,tg,tb,nG,lA]
 gi_wp2
 exact bodyPost_ret (v:=.tuple #[.slice none 0 0,.int .i64 0,.int .i64 1]) (by simp[results,Tryz.f210,go_sem]) rfl ⟨_,rfl,x8 dg (u1 _ _ _ _) 1⟩
set_option maxRecDepth 100000 in
set_option maxHeartbeats 2000000 in
def avJ(a:Option Addr)(n cap:Nat)(A:Nat)(ld:n<=cap)(h:A=n)(m:Nat)(w:World)(X:Nat->Prop)(dg:∀b,X b->b<w.heap.size):
  CallsIn Fence.wide m Tryz.prog 210 #[.slice a n cap,.int .i64 (A:Int)] w λe w'=>∃b2,e=.returned b2/\iu w X w' y1 (([],0,3,()):List Int×Int×Int×Unit) b2:=by
 subst h;refine callsIn_of_wp Tryz.func210 rfl trivial ?_ rfl;simp only[Tryz.ntmps210,pg,ew,gu,Nat.reduceAdd,Nat.reduceSub,rX,ta,tg,tb,nG,lA]
 gi_wp2
 all_goals exact bodyPost_ret (v:=.tuple #[.slice none 0 0,.int .i64 0,.int .i64 3]) (by simp[results,Tryz.f210,go_sem]) rfl ⟨_,rfl,x8 dg (u1 _ _ _ _) 3⟩
def Xh:∀c:UInt8,(Go.bits BinOp.and IntKind.u8 (aI c) 128 != 0)=bt c 0:=tv iL
set_option maxRecDepth 100000 in
set_option maxHeartbeats 2000000 in
def avK(b off n cap:Nat)(A:Nat)(ld:n<=cap)(dn:A<n)(c0:UInt8)(m:Nat)(w:World)(ai:w.cell? ⟨b,off+A,none⟩=some (.int .u8 (aI c0)))(ac:(bt c0 0=true/\n-A<16)\/(bt c0 0=false/\n-A<8))(X:Nat->Prop)(dg:∀b,X b->b<w.heap.size)(Y:b<w.heap.size):
  CallsIn Fence.wide m Tryz.prog 210 #[.slice (some ⟨b,off,none⟩) n cap,.int .i64 (A:Int)] w λe w'=>∃b2,e=.returned b2/\iu w X w' y1 (([],0,3,()):List Int×Int×Int×Unit) b2:=by
 have pG:¬((A:Int)<0):=J;have n1:¬((n:Int)<(A:Int)):=J;have vi:=Xh c0;obtain⟨N,fM⟩:∃N,n=A+N:=⟨n-A,J⟩;subst fM;have aa8:(((w.alloc (.cells #[.slice none 0 0] 100)).alloc (.cells #[.int .i64 0] 3)).alloc (.cells #[.int .i64 0] 84)).cell? ⟨b,off+A,none⟩=some (.int .u8 (aI c0)):=((u1 w _ _ _).cell (p:=⟨b,off+A,none⟩) Y).trans ai;refine callsIn_of_wp Tryz.func210 rfl trivial ?_ rfl;simp only[Tryz.ntmps210,pg,ew,gu,Nat.reduceAdd,Nat.reduceSub,rX,ta,tg,tb,nG,lA];rcases ac with⟨O,R⟩|⟨O,R⟩
 .rw[O]at vi
  clear O;have tM:(N:Int)<16:=J
  gi_wp2
  all_goals exact bodyPost_ret (v:=.tuple #[.slice none 0 0,.int .i64 0,.int .i64 3]) (by simp[results,Tryz.f210,go_sem]) rfl ⟨_,rfl,x8 dg (u1 _ _ _ _) 3⟩
 rw[O]at vi;have bj:Go.bits BinOp.and IntKind.u8 (aI c0) 128=0:=by simpa using vi
 clear O vi;have tM:(N:Int)<8:=J
 gi_wp2
 all_goals exact bodyPost_ret (v:=.tuple #[.slice none 0 0,.int .i64 0,.int .i64 3]) (by simp[results,Tryz.f210,go_sem]) rfl ⟨_,rfl,x8 dg (u1 _ _ _ _) 3⟩
set_option maxRecDepth 100000 in
set_option maxHeartbeats 2000000 in
def agb(m:Nat)(sl:Value)(w:World)(aC:sl.oneCell'=true):CallsIn Fence.wide m Tryz.prog 260 #[sl] w λe w'=>e=.returned (.func (.func 287) #[] #[.pointer (some ⟨w.heap.size,0,none⟩)])/\w'=w.alloc (.cells #[sl] 23):=by
 refine callsIn_of_wp Tryz.func260 rfl trivial ?_ rfl;simp only[Tryz.ntmps260,pg,ew,gu,Nat.reduceAdd,Nat.reduceSub,rX,ta,tg,tb,nG,lA]
 gi_wp2
 go_ret
 exact⟨rfl,rfl⟩
end Yp
namespace Go
open Go.RowKit
def Boxed.sY{W:World}{B C t:Nat}{v:Value}(h:Boxed W B t v)(eC:B≠C)(u:Value):Boxed (W.setCell ⟨C,0,none⟩ u) B t v:=h.kept (grownBy_setCell' W C u) (λe=>eC (by cases e;rfl))
end Go
namespace Yp
open Go Go.Proofs Go.RowKit Go.Shelf
def OG:=@Bool.eq_false_iff
def JB:=@List.map_map
attribute [-go_sem] g02 g03 g04 g05 g06 g01 g07 g08 g09 g10 g11 g12 g13 g14 g15 g16 g17 g18 g19 g20 g21 g22 g23 g24 g25 g26 g27 g28 g29 g30 g31 g32 g34 g35 g36 g37 g38 g39 g40 g41 g42 g43 g44 g45 g46 g47 g48 g49 g50 g51 g52 g53 g54 g55 g56 g57 g58 g60 g61 lc_rt' lc_ex' lc_nx g62 g63 nth_get g33 g64 g65 g66
attribute [local go_sem] Oper.semAt_some
def arX:(Tryz.prog.info? 3).map (λi=>(i.zero,i.size,i.bytes))=some (some (.int .i64 0),1,8):=by kernel_rfl
def ahq:Tryz.prog.underlying 100=some (.slice 3):=by kernel_rfl
def kr(pre:List Nat):List Nat:=pre.filter λn=>Nat.ble 2 n
def pt(pre:List Nat):List Value:=(kr pre).map λ(n:Nat)=>Value.int .i64 (n:Int)
def YP{pre:List Nat}{x:Nat}(h:¬1<x):kr (pre++[x])=kr pre:=by have:Nat.ble 2 x=false:=OG.2 λe=>h (O6 e);unfold kr;rw[E_,Wx (by grind)];simp
def YO{pre:List Nat}{x:Nat}(h:1<x):kr (pre++[x])=kr pre++[x]:=by have:Nat.ble 2 x=true:=JW h;unfold kr;rw[E_,List.filter_cons_of_pos this];simp
structure qZ(s:Nat)(v:Value)(n e:Int)(sl:Value)(W:World):Prop where
 c0:Boxed W s 100 v
 c1:Boxed W (s+1) 3 (.int .i64 n)
 c2:Boxed W (s+1+1) 84 (.int .i64 e)
 c5:Boxed W (s+1+1+1+1+1) 23 sl
def boxed_own{B t:Nat}{v:Value}{X WU:World}{row:Option Nat}(aC:Boxed X B t v)(hg:X.grownBy WU row)(d9:∀r,row=some r->∃o,X.heap[r]?=some o/\o.isCells=false):Boxed WU B t v:=
 aC.kept hg λbC=>by obtain⟨o,aK,ai⟩:=d9 B bC.symm;rw[show X.heap[B]?=_ from aC]at aK;cases aK;cases ai
def Ib{β:Type}(s:Nat)(v:Value)(n e:Int)(sl:Value):Own (λ(_:β) W=>qZ s v n e sl W):=λ_ _ _ _ ac hg ah=>
 ⟨boxed_own ac.c0 hg ah,boxed_own ac.c1 hg ah,boxed_own ac.c2 hg ah,boxed_own ac.c5 hg ah⟩
def DV{v sl:Value}{n:Int}{W:World}(h:qZ s v n e sl W)(cY:Value)(n' bC:Int):
 qZ s cY n' bC sl (((W.setCell ⟨s,0,none⟩ cY).setCell ⟨s+1,0,none⟩ (.int .i64 n')).setCell ⟨s+1+1,0,none⟩ (.int .i64 bC)):=
 ⟨((h.c0.set cY).sY J _).sY J _,((h.c1.sY J _).set (.int .i64 n')).sY J _,
  ((h.c2.sY J _).sY J _).set (.int .i64 bC),((h.c5.sY J _).sY J _).sY J _⟩
def Da(s:Nat)(cY:Value)(n' bC:Int)(W:World):Below s W (((W.setCell ⟨s,0,none⟩ cY).setCell ⟨s+1,0,none⟩ (.int .i64 n')).setCell ⟨s+1+1,0,none⟩ (.int .i64 bC)):=
 (((Below.refl s W).setCell (p:=⟨s,0,none⟩) (bU _) cY).setCell (p:=⟨s+1,0,none⟩) bh _).setCell (p:=⟨s+1+1,0,none⟩) (by grind) _
def ME(s:Nat)(cY:Value)(n' bC:Int)(W:World):KeepsOthers W (((W.setCell ⟨s,0,none⟩ cY).setCell ⟨s+1,0,none⟩ (.int .i64 n')).setCell ⟨s+1+1,0,none⟩ (.int .i64 bC)):=
 ((KeepsOthers.setCell _ _ _).trans (KeepsOthers.setCell _ _ _)).trans (KeepsOthers.setCell _ _ _)
def aeZ{v sl:Value}{n:Int}{W W':World}(h:qZ s v n e sl W)(Y:Below (s+1+1+1) W W')(a8:Boxed W' (s+1+1+1+1+1) 23 sl):qZ s v n e sl W':=
 ⟨(Y.block _ J).trans h.c0,(Y.block _ J).trans h.c1,(Y.block _ J).trans h.c2,a8⟩
def qZ.put{v sl:Value}{n:Int}{W:World}(h:qZ s v n e sl W){D:Nat}{o:Obj}(di:Obj)(hJ:W.heap[D]?=some o)(aK:o.isCells=false):qZ s v n e sl (W.putObj D di):=
 Ib (β:=Unit) s v n e sl () W _ (some D) h (grownBy_putObj' W D di) (λr e=>by cases e;exact⟨o,hJ,aK⟩)
def afa{W:World}{v:Value}{L:Nat}{et:List Value}(h:W.ownsRow (s+1+1+1) 3 1 v L et)(cY:Value)(n' bC:Int){D:Nat}{o:Obj}(di:Obj)(hJ:W.heap[D]?=some o)(aK:o.isCells=false):
  World.ownsRow ((((W.setCell ⟨s,0,none⟩ cY).setCell ⟨s+1,0,none⟩ (.int .i64 n')).setCell ⟨s+1+1,0,none⟩ (.int .i64 bC)).putObj D di) s 3 1 v L et:=by
 rcases h.2 with⟨rfl,ao⟩|⟨g,cap,gF,rfl,hg,hh,ap⟩
 .exact⟨h.1,.inl ⟨rfl,ao⟩⟩
 have ap1:g≠D:=by rintro rfl;rw[hh]at hJ;cases hJ;cases aK
 have bL:W.ownsRow s 3 1 (.slice (some ⟨g,0,none⟩) L cap) L et:=⟨h.1,.inr ⟨g,cap,gF,rfl,J,hh,ap⟩⟩;have d':∀k,g≠k->(Value.slice (some ⟨g,0,none⟩) L cap).ownBlock=none\/(Value.slice (some ⟨g,0,none⟩) L cap).ownBlock≠some k:=λk ap=>.inr λe=>ap (by simpa[Value.ownBlock]using e);exact(((bL.kept (grownBy_setCell' W s cY) (d' _ J)).kept (grownBy_setCell' _ (s+1) _) (d' _ J)).kept (grownBy_setCell' _ (s+1+1) _) (d' _ J)).kept (grownBy_putObj' _ D di) (d' _ ap1)
def Ch(b9:V):kr (h_ b9 (8*b9.length+1))=hQ b9:=by
 unfold kr h_ hQ;rw[E9];refine List.filter_congr λn _ => ?_;cases h:Nat.ble 2 n
 .simp
 have:Nat.ble 1 n=true:=JW (by have:=O6 h;omega)
 grind
def ahQ(ap:k<=8*b9.length+1)(h:65∈h_ b9 k):65∈hQ b9/\8<b9.length:=by unfold h_ at h;rw[r0,ox]at h;unfold hQ;rw[r0,ox];refine⟨⟨J,?_⟩,J⟩;have R:=h.2;omega
def atF(h:65∈hQ b9):65∈h_ b9 (8*b9.length+1):=by unfold hQ at h;rw[r0,ox]at h;unfold h_;rw[r0,ox];omega
def atH{L z:Nat}(hL:(hQ b9).length=L+1)(bj:(hQ b9)[L]?=some z):∀n∈hQ b9,n<=z:=by
 intro n aj;have hp:(hQ b9).Pairwise (· < ·):=List.Pairwise.filter _ List.pairwise_lt_range;obtain⟨i,hi,rfl⟩:=uP aj;obtain⟨hl,rfl⟩:=mt.1 bj;by_cases h:i=L
 .grind
 exact JA (List.pairwise_iff_getElem.1 hp i L hi hl J)
structure tq(p:Prop):Prop where
 bB:p
set_option maxRecDepth 100000 in
set_option maxHeartbeats 4000000 in
def avL(pD:fG Tryz.prog 268 ⟨[.int .i64],[.im (.int .i64),.im (.int .u8)],tz⟩)(b off n cap:Nat)(A S:Nat)(ld:n<=cap)(dn:A+S<=n)(aj:n<=9223372036854775807)(b9:V)(ky:S=8\/S=16)(Gw:b9.length=S)(c0:UInt8)(m:Nat)(w:World)
 (ai:∀j,(h:j<b9.length)->w.cell? ⟨b,off+A+j,none⟩=some (.int .u8 (aI b9[j]))) (ng:w.cell? ⟨b,off+A,none⟩=some (.int .u8 (aI c0))) (bb:bt c0 0=true↔S=16) (X:Nat->Prop) (dg:∀b,X b->b<w.heap.size) (pF:lM Tryz.prog (view w X)) (Y:b<w.heap.size) (aP:List Int×Int×Int×Unit) (jl:tq (aP=(if S=16/\(65∈hQ b9\/∀n∈hQ b9,n<65) then(([],0,2,()):List Int×Int×Int×Unit) else(((hQ b9).map Int.ofNat,(A:Int)+(S:Int),(0:Int),()):List Int×Int×Int×Unit)))) :
 CallsIn Fence.wide (m+3) Tryz.prog 210 #[.slice (some ⟨b,off,none⟩) n cap,.int .i64 (A:Int)] w λe w'=>∃b2,e=.returned b2/\iu w X w' y1 aP b2:=by
 obtain⟨C8,hi,G7,aca,acb⟩:=info_parts arX;have pG:¬((A:Int)<0):=J;have n1:¬((n:Int)<(A:Int)):=J;have vi:=Xh c0;obtain⟨N,fM⟩:∃N,n=A+N:=⟨n-A,J⟩;subst fM;have aa8:(((w.alloc (.cells #[.slice none 0 0] 100)).alloc (.cells #[.int .i64 0] 3)).alloc (.cells #[.int .i64 0] 84)).cell? ⟨b,off+A,none⟩=some (.int .u8 (aI c0)):=((u1 w _ _ _).cell (p:=⟨b,off+A,none⟩) Y).trans ng;have azF:Fence.wide.fn 260:=trivial;refine callsIn_of_wp_marks Tryz.func210 rfl trivial ?_ rfl;simp only[Tryz.ntmps210,pg,ew,gu,Nat.reduceAdd,Nat.reduceSub,rX,ta,tg,tb,nG,lA];rcases ky with rfl|rfl
 .have O:bt c0 0=false:=OG.2 λh=>by have:=bb.1 h;omega
  rw[O]at vi;have bj:Go.bits BinOp.and IntKind.u8 (aI c0) 128=0:=by simpa using vi
  clear O vi;have tM:¬(N:Int)<8:=J;have aoq:¬N<8:=J
  gi_wp2_with (gi_at_call 260;refine(agb _ _ _ rfl).mono ?_;rintro e w' ⟨rfl,rfl⟩)
  have Fm:=Boxed.new ((((w.alloc (.cells #[.slice none 0 0] 100)).alloc (.cells #[.int .i64 0] 3)).alloc (.cells #[.int .i64 0] 84)).alloc (.cells #[] 3)) 100 (.slice (some ⟨w.heap.size+1+1+1,0,none⟩) 0 0);have y8:=Boxed.new (((((w.alloc (.cells #[.slice none 0 0] 100)).alloc (.cells #[.int .i64 0] 3)).alloc (.cells #[.int .i64 0] 84)).alloc (.cells #[] 3)).alloc (.cells #[.slice (some ⟨w.heap.size+1+1+1,0,none⟩) 0 0] 100)) 23 (.slice (some ⟨b,off+A,none⟩) 8 (cap-A));have eh:=Boxed.new w 100 (.slice none 0 0);have eS:=Boxed.new (w.alloc (.cells #[.slice none 0 0] 100)) 3 (.int .i64 0);have ei:=Boxed.new ((w.alloc (.cells #[.slice none 0 0] 100)).alloc (.cells #[.int .i64 0] 3)) 84 (.int .i64 0);have GW:=World.ownsRow_made (base:=w.heap.size+1+1+1) (e:=3) (size:=1) (((w.alloc (.cells #[.slice none 0 0] 100)).alloc (.cells #[.int .i64 0] 3)).alloc (.cells #[.int .i64 0] 84)) #[] 0 bh (by unfold maxLen;omega) rfl;simp only[World.size_alloc]at Fm y8 eS ei GW;have zw:Below w.heap.size w ((((((w.alloc (.cells #[.slice none 0 0] 100)).alloc (.cells #[.int .i64 0] 3)).alloc (.cells #[.int .i64 0] 84)).alloc (.cells #[] 3)).alloc (.cells #[.slice (some ⟨w.heap.size+1+1+1,0,none⟩) 0 0] 100)).alloc (.cells #[.slice (some ⟨b,off+A,none⟩) 8 (cap-A)] 23)):=
   (((u1 w _ _ _).alloc fs _).alloc fs _).alloc fs _
  refine wpIn_rangeFunc_ownG rfl J (gf:=287) (lb:=#[.pointer (some ⟨w.heap.size+1+1+1+1+1,0,none⟩)]) rfl trivial (enters_of Tryz.func287 (by kernel_rfl) rfl)
   (encs:=λx:Nat=>#[.int .i64 (x:Int)]) (Kp:=S3 w.heap.size (w.heap.size+1+1+1+1+1)) (S:=λbs=>bs=h_ b9 (8*b9.length+1)) (Sp:=λpre=>∃k,k<=8*b9.length+1/\pre=h_ b9 k) (N:=128)
   ?seq ?kt ?kb (Below.refl _ _) (λ_=>rfl)
   (λpre W=>((∃v,Boxed W (w.heap.size+1+1+1+1) 100 v/\W.ownsRow (w.heap.size+1+1+1) 3 1 v (kr pre).length (pt pre)/\¬65∈pre)/\qZ w.heap.size (.slice none 0 0) 0 0 (.slice (some ⟨b,off+A,none⟩) 8 (cap-A)) W)/\Below w.heap.size w W)
   (λc pre W=>((c=.ret/\65∈pre)/\qZ w.heap.size (.slice none 0 0) 0 2 (.slice (some ⟨b,off+A,none⟩) 8 (cap-A)) W)/\Below w.heap.size w W)
   (OwnFrom.and (OwnFrom.and (Own.from (holdsRow_own (w.heap.size+1+1+1) _ 100 3 1 (λpre=>(kr pre).length) pt (λpre v=>¬65∈pre)) _) (Own.from (Ib w.heap.size (.slice none 0 0) 0 0 (.slice (some ⟨b,off+A,none⟩) 8 (cap-A))) _)) (ownFrom_below (bU _) fs))
   (λc=>OwnFrom.and (OwnFrom.and (ownFrom_pure _ _) (Own.from (Ib w.heap.size (.slice none 0 0) 0 2 (.slice (some ⟨b,off+A,none⟩) 8 (cap-A))) _)) (ownFrom_below (bU _) fs))
   ?start
   (λx=>{ tmps:=#[Value.slice (some { block:=b,off:=off+A }) N (cap-A),Value.int IntKind.i64 (A:Int),undef,undef,Value.pointer (some { block:=w.heap.size,off:=0 }),Value.pointer (some { block:=w.heap.size+1,off:=0 }),Value.pointer (some { block:=w.heap.size+1+1,off:=0 }),Value.int IntKind.i64 8,Value.pointer (some { block:=w.heap.size+1+1+1+1,off:=0 }),Value.int IntKind.i64 (x:Int),Value.int IntKind.i64 (A:Int),Value.bool false,Value.bool false,Value.int IntKind.i64 (A:Int),Value.slice (some { block:=b,off:=off }) (A+N) cap,Value.int IntKind.i64 ((A:Int)+(N:Int)),Value.bool (decide ((A:Int)+(N:Int)<(A:Int))),Value.bool (decide ((A:Int)+(N:Int)<(A:Int))),Value.slice (some { block:=b,off:=off }) (A+N) cap,Value.int IntKind.i64 (A:Int),Value.slice (some { block:=b,off:=off+A }) N (cap-A),Value.slice (some { block:=b,off:=off+A }) N (cap-A),Value.int IntKind.i64 (N:Int),Value.bool true,Value.bool true,Value.slice (some { block:=b,off:=off+A }) N (cap-A),Value.pointer (some { block:=b,off:=off+A }),Value.int IntKind.u8 (aI c0),Value.int IntKind.u8 0,Value.bool false,Value.bool false,Value.slice (some { block:=b,off:=off+A }) N (cap-A),Value.int IntKind.i64 (N:Int),Value.int IntKind.i64 8,Value.bool false,Value.slice (some { block:=w.heap.size+1+1+1,off:=0 }) 0 0,Value.slice (some { block:=b,off:=off+A }) N (cap-A),Value.int IntKind.i64 8,Value.slice (some { block:=b,off:=off+A }) 8 (cap-A),Value.func (Fn.func 287) #[] #[Value.pointer (some { block:=w.heap.size+1+1+1+1+1,off:=0 })],Value.int IntKind.i64 (x:Int),undef,undef,undef,undef,undef,undef,undef,undef,undef,undef,undef,undef,undef,undef,undef,undef,undef,undef,undef,undef,undef,undef,undef,undef,undef,undef,undef,undef],defers:=[] }) ?assign ?body ?done ?stop
  case seq=>
   intro l hG rY W hW kx aaR vh ao;have cQ:w.heap.size+6<=W.heap.size:=by have:=hW.size;simp at this;omega
   refine(af9 pD w X dg pF (m+1) l (w.heap.size+1+1+1+1+1) w.heap.size b (off+A) (cap-A) b9 J Y hG rY (λs l0 Ff ac Y=>kx s l0 Ff none ac ⟨Y.os,Y.tape,Y.output,Y.size,λk ap _=>Y.block k ap⟩ (λr e=>by cases e)) (λpre x l0 an _ _ hl=>vh pre x l0 an hl) W (zw.trans (hW.mono fs)) rfl ?_ J J (λj h => ?_) ao).mono ?_
   .rw[Gw];exact(hW.cell (p:=⟨w.heap.size+1+1+1+1+1,0,none⟩) bh).trans y8.cell
   .exact(hW.cell (p:=⟨b,off+A+j,none⟩) fs).trans ((zw.cell (p:=⟨b,off+A+j,none⟩) Y).trans (ai j h))
   rintro e W' ⟨aA,h⟩;exact⟨aA,h.elim (λh=>.inl ⟨_,rfl,h⟩) (λ⟨k,ap,h⟩=>.inr ⟨_,⟨k,ap,rfl⟩,h⟩)⟩
  case kt=>exact λh k=>⟨h.1.trans k.1,k.2.trans h.2⟩
  case kb =>intro W l o di hl aK O R;simp at hl;exact⟨belowK_b (w:=w) (bU _) W l o di J aK O R,World.cell?_of_block (World.putObj_heap_other fs)⟩
  case start=>exact⟨⟨⟨_,Fm.alloc _,(GW.alloc _).alloc _,bh⟩,⟨eh.alloc _ |>.alloc _ |>.alloc _ |>.alloc _ |>.alloc _,eS.alloc _ |>.alloc _ |>.alloc _ |>.alloc _,ei.alloc _ |>.alloc _ |>.alloc _,y8⟩⟩,zw⟩
  case assign=>
   intro l x W K fL
   gi_wp2
   exact fL
  case body=>
   rintro l pre x W ⟨⟨⟨v,aC,d9,mK⟩,ah⟩,aB⟩ bm;have R2:=aC.cell;have LI:=ah.c0.cell;have zQ:=ah.c0.frozen;have SA:=ah.c1.cell;have SB:=ah.c1.frozen;have SC:=ah.c2.cell;have SD:=ah.c2.frozen;have aos:=ah.c5.lt;have iB:(kr pre).length<=pre.length:=rW _ _;by_cases zX:x=65
   .subst zX
    gi_wp2
    exact⟨(ME _ _ _ _ _).from _,⟨⟨rfl,bh⟩,DV ah _ _ _⟩,aB.trans (Da _ _ _ _ _)⟩
   have arp:¬(x:Int)=65:=J;by_cases zV:1<x
   .have SN:(1:Int)<(x:Int):=J
    gi_wp2_with (gi_at_builtin;refine tq.bB ?_)
    refine⟨?_⟩;refine wpListIn_append_own _ rfl _ _ 100 rfl (w.heap.size+1+1+1) 3 C8 (.int .i64 0) 1 8 ahq hi G7 aca acb rfl bP v (kr pre).length (pt pre) rfl (d9.alloc _) ⟨W.heap.size,0,none⟩ 1 1 [.int .i64 (x:Int)] rfl rfl ?hcell ?hone ?hb1 ?hb2 ?hb3 ?hrest
    case hcell=>exact cell_one_new _ _ _
    case hone=>simp[Value.oneCell']
    case hb1=>simp[maxLen];omega
    case hb2=>omega
    case hb3=>have:=aB.size;simp;omega
    case hrest=>
     intro cY cf GU GK _;obtain⟨i1,cap',rfl⟩:=ownsRow_succ GU;obtain⟨xs,C4,Sz,ni,hb2⟩:=aC.appended bP d9 J J GU GK;have RU:Boxed cf (w.heap.size+1+1+1+1+1) 23 _:=(ah.c5.alloc (.cells #[Value.int .i64 (x:Int)] 3)).kept GK (ah.c5.not_row bP d9);have sr:=xs.cell;have R':=xs.frozen
     gi_wp2
     have Gp:=RU.sY (C:=w.heap.size+1+1+1+1) J (.slice (some ⟨i1,0,none⟩) ((kr pre).length+1) cap');have Gs:=hb2.mono (B':=w.heap.size) J;refine⟨ni.from _,⟨Gs,Gp.cell.trans ah.c5.cell.symm⟩,⟨⟨_,C4,?_,?_⟩,aeZ ah hb2 Gp⟩,aB.trans Gs⟩
     .rw[pt,YO zV];simpa[pt]using Sz
     simpa[mK]using λe=>zX e.symm
   have SN:¬(1:Int)<(x:Int):=J
   gi_wp2
   refine⟨KeepsFrom.refl _ _,⟨Below.refl _ _,rfl⟩,⟨⟨v,aC,?_,?_⟩,ah⟩,aB⟩
   .rw[pt,YP zV];exact d9
   simpa[mK]using λe=>zX e.symm
  case done=>
   rintro D bs W hJ rfl ⟨⟨⟨v,aC,d9,mK⟩,ah⟩,aB⟩ fL;have R2:=aC.cell;have LI:=ah.c0.cell;have zQ:=ah.c0.frozen;have SA:=ah.c1.cell;have SB:=ah.c1.frozen;have SC:=ah.c2.cell;have SD:=ah.c2.frozen;have lc:=λv n e=>(ME w.heap.size v n e W).same D _ fL rfl;have LQ:=Wl b9 (8*b9.length+1) J;have iB:(kr (h_ b9 (8*b9.length+1))).length<=(h_ b9 (8*b9.length+1)).length:=rW _ _;obtain⟨C,cx⟩:∃C,tq (C=kr (h_ b9 (8*b9.length+1))):=⟨_,⟨rfl⟩⟩;unfold pt at d9;rw[<- cx.bB]at d9 iB;have RK:C.length<=128:=J;have vm:tq (W.ownsRow (w.heap.size+1+1+1) 3 1 v C.length (C.map λ(n:Nat)=>Value.int .i64 (n:Int))):=⟨d9⟩;clear d9 iB LQ;obtain⟨L,hL⟩:∃L,tq (L=C.length):=⟨_,⟨rfl⟩⟩;rw[<- hL.bB]at vm RK;obtain⟨a,c,G4⟩:∃a c,v=.slice a L c:=by
    rcases vm.bB.2 with⟨h,bL⟩|⟨g,cap',gF,h,_⟩
    .exact⟨none,0,by rw[bL];exact h⟩
    exact⟨_,_,h⟩
   subst G4
   gi_wp2
   case h_1.isFalse aA _=>cases aA
   all_goals
    refine⟨bh,.inl ⟨_,_,rfl,run_takeDeferred (lc _ _ _),?_⟩⟩;have bj:=((DV ah (.slice a L c) ((A:Int)+8) 0).put (.deferred none) (lc _ _ _) rfl);refine⟨.tuple #[(.slice a L c),.int .i64 ((A:Int)+8),.int .i64 0],by simp[results,Tryz.f210,go_sem,bj.c0.cell,bj.c1.cell,bj.c2.cell],_,rfl,?_⟩;rw[jl.bB,if_neg (λh=>by have:=h.1;first|exact this.elim|omega)];refine ae3 dg ((aB.trans (Da _ _ _ _ _)).trans (belowK_b (w:=w) (bU _) _ D _ _ (by simp at hJ;omega) (lc _ _ _) rfl rfl)) ?_ _;have SG:=afa vm.bB (.slice a L c) ((A:Int)+8) 0 (.deferred none) fL rfl;rw[<- Ch,<- cx.bB,ov,<- hL.bB,JB];exact SG
  case stop =>rintro D c pre W hJ ⟨k,ap,rfl⟩ ⟨⟨⟨rfl,mK⟩,ah⟩,aB⟩ fL;have:=(ahQ ap mK).2;omega
 have O:bt c0 0=true:=bb.2 rfl;rw[O]at vi;clear O;have tM:¬(N:Int)<16:=J;have aoq:¬N<16:=J
 gi_wp2_with (gi_at_call 260;refine(agb _ _ _ rfl).mono ?_;rintro e w' ⟨rfl,rfl⟩)
 have Fm:=Boxed.new ((((w.alloc (.cells #[.slice none 0 0] 100)).alloc (.cells #[.int .i64 0] 3)).alloc (.cells #[.int .i64 0] 84)).alloc (.cells #[] 3)) 100 (.slice (some ⟨w.heap.size+1+1+1,0,none⟩) 0 0);have y8:=Boxed.new (((((w.alloc (.cells #[.slice none 0 0] 100)).alloc (.cells #[.int .i64 0] 3)).alloc (.cells #[.int .i64 0] 84)).alloc (.cells #[] 3)).alloc (.cells #[.slice (some ⟨w.heap.size+1+1+1,0,none⟩) 0 0] 100)) 23 (.slice (some ⟨b,off+A,none⟩) 16 (cap-A));have eh:=Boxed.new w 100 (.slice none 0 0);have eS:=Boxed.new (w.alloc (.cells #[.slice none 0 0] 100)) 3 (.int .i64 0);have ei:=Boxed.new ((w.alloc (.cells #[.slice none 0 0] 100)).alloc (.cells #[.int .i64 0] 3)) 84 (.int .i64 0);have GW:=World.ownsRow_made (base:=w.heap.size+1+1+1) (e:=3) (size:=1) (((w.alloc (.cells #[.slice none 0 0] 100)).alloc (.cells #[.int .i64 0] 3)).alloc (.cells #[.int .i64 0] 84)) #[] 0 bh (by unfold maxLen;omega) rfl;simp only[World.size_alloc]at Fm y8 eS ei GW;have zw:Below w.heap.size w ((((((w.alloc (.cells #[.slice none 0 0] 100)).alloc (.cells #[.int .i64 0] 3)).alloc (.cells #[.int .i64 0] 84)).alloc (.cells #[] 3)).alloc (.cells #[.slice (some ⟨w.heap.size+1+1+1,0,none⟩) 0 0] 100)).alloc (.cells #[.slice (some ⟨b,off+A,none⟩) 16 (cap-A)] 23)):=
  (((u1 w _ _ _).alloc fs _).alloc fs _).alloc fs _
 refine wpIn_rangeFunc_ownG rfl J (gf:=287) (lb:=#[.pointer (some ⟨w.heap.size+1+1+1+1+1,0,none⟩)]) rfl trivial (enters_of Tryz.func287 (by kernel_rfl) rfl)
  (encs:=λx:Nat=>#[.int .i64 (x:Int)]) (Kp:=S3 w.heap.size (w.heap.size+1+1+1+1+1)) (S:=λbs=>bs=h_ b9 (8*b9.length+1)) (Sp:=λpre=>∃k,k<=8*b9.length+1/\pre=h_ b9 k) (N:=128)
  ?seq ?kt ?kb (Below.refl _ _) (λ_=>rfl)
  (λpre W=>((∃v,Boxed W (w.heap.size+1+1+1+1) 100 v/\W.ownsRow (w.heap.size+1+1+1) 3 1 v (kr pre).length (pt pre)/\¬65∈pre)/\qZ w.heap.size (.slice none 0 0) 0 0 (.slice (some ⟨b,off+A,none⟩) 16 (cap-A)) W)/\Below w.heap.size w W)
  (λc pre W=>((c=.ret/\65∈pre)/\qZ w.heap.size (.slice none 0 0) 0 2 (.slice (some ⟨b,off+A,none⟩) 16 (cap-A)) W)/\Below w.heap.size w W)
  (OwnFrom.and (OwnFrom.and (Own.from (holdsRow_own (w.heap.size+1+1+1) _ 100 3 1 (λpre=>(kr pre).length) pt (λpre v=>¬65∈pre)) _) (Own.from (Ib w.heap.size (.slice none 0 0) 0 0 (.slice (some ⟨b,off+A,none⟩) 16 (cap-A))) _)) (ownFrom_below (bU _) fs))
  (λc=>OwnFrom.and (OwnFrom.and (ownFrom_pure _ _) (Own.from (Ib w.heap.size (.slice none 0 0) 0 2 (.slice (some ⟨b,off+A,none⟩) 16 (cap-A))) _)) (ownFrom_below (bU _) fs))
  ?start
  (λx=>{ tmps:=#[Value.slice (some { block:=b,off:=off+A }) N (cap-A),Value.int IntKind.i64 (A:Int),undef,undef,Value.pointer (some { block:=w.heap.size,off:=0 }),Value.pointer (some { block:=w.heap.size+1,off:=0 }),Value.pointer (some { block:=w.heap.size+1+1,off:=0 }),Value.int IntKind.i64 16,Value.pointer (some { block:=w.heap.size+1+1+1+1,off:=0 }),Value.int IntKind.i64 (x:Int),Value.int IntKind.i64 (A:Int),Value.bool false,Value.bool false,Value.int IntKind.i64 (A:Int),Value.slice (some { block:=b,off:=off }) (A+N) cap,Value.int IntKind.i64 ((A:Int)+(N:Int)),Value.bool (decide ((A:Int)+(N:Int)<(A:Int))),Value.bool (decide ((A:Int)+(N:Int)<(A:Int))),Value.slice (some { block:=b,off:=off }) (A+N) cap,Value.int IntKind.i64 (A:Int),Value.slice (some { block:=b,off:=off+A }) N (cap-A),Value.slice (some { block:=b,off:=off+A }) N (cap-A),Value.int IntKind.i64 (N:Int),Value.bool true,Value.bool true,Value.slice (some { block:=b,off:=off+A }) N (cap-A),Value.pointer (some { block:=b,off:=off+A }),Value.int IntKind.u8 (aI c0),Value.int IntKind.u8 (Go.bits BinOp.and IntKind.u8 (aI c0) 128),Value.bool true,Value.bool true,Value.slice (some { block:=b,off:=off+A }) N (cap-A),Value.int IntKind.i64 (N:Int),Value.int IntKind.i64 16,Value.bool false,Value.slice (some { block:=w.heap.size+1+1+1,off:=0 }) 0 0,Value.slice (some { block:=b,off:=off+A }) N (cap-A),Value.int IntKind.i64 16,Value.slice (some { block:=b,off:=off+A }) 16 (cap-A),Value.func (Fn.func 287) #[] #[Value.pointer (some { block:=w.heap.size+1+1+1+1+1,off:=0 })],Value.int IntKind.i64 (x:Int),undef,undef,undef,undef,undef,undef,undef,undef,undef,undef,undef,undef,undef,undef,undef,undef,undef,undef,undef,undef,undef,undef,undef,undef,undef,undef,undef,undef],defers:=[] }) ?assign ?body ?done ?stop
 case seq=>
  intro l hG rY W hW kx aaR vh ao;have cQ:w.heap.size+6<=W.heap.size:=by have:=hW.size;simp at this;omega
  refine(af9 pD w X dg pF (m+1) l (w.heap.size+1+1+1+1+1) w.heap.size b (off+A) (cap-A) b9 J Y hG rY (λs l0 Ff ac Y=>kx s l0 Ff none ac ⟨Y.os,Y.tape,Y.output,Y.size,λk ap _=>Y.block k ap⟩ (λr e=>by cases e)) (λpre x l0 an _ _ hl=>vh pre x l0 an hl) W (zw.trans (hW.mono fs)) rfl ?_ J J (λj h => ?_) ao).mono ?_
  .rw[Gw];exact(hW.cell (p:=⟨w.heap.size+1+1+1+1+1,0,none⟩) bh).trans y8.cell
  .exact(hW.cell (p:=⟨b,off+A+j,none⟩) fs).trans ((zw.cell (p:=⟨b,off+A+j,none⟩) Y).trans (ai j h))
  rintro e W' ⟨aA,h⟩;exact⟨aA,h.elim (λh=>.inl ⟨_,rfl,h⟩) (λ⟨k,ap,h⟩=>.inr ⟨_,⟨k,ap,rfl⟩,h⟩)⟩
 case kt=>exact λh k=>⟨h.1.trans k.1,k.2.trans h.2⟩
 case kb =>intro W l o di hl aK O R;simp at hl;exact⟨belowK_b (w:=w) (bU _) W l o di J aK O R,World.cell?_of_block (World.putObj_heap_other fs)⟩
 case start=>exact⟨⟨⟨_,Fm.alloc _,(GW.alloc _).alloc _,bh⟩,⟨eh.alloc _ |>.alloc _ |>.alloc _ |>.alloc _ |>.alloc _,eS.alloc _ |>.alloc _ |>.alloc _ |>.alloc _,ei.alloc _ |>.alloc _ |>.alloc _,y8⟩⟩,zw⟩
 case assign=>
  intro l x W K fL
  gi_wp2
  exact fL
 case body=>
  rintro l pre x W ⟨⟨⟨v,aC,d9,mK⟩,ah⟩,aB⟩ bm;have R2:=aC.cell;have LI:=ah.c0.cell;have zQ:=ah.c0.frozen;have SA:=ah.c1.cell;have SB:=ah.c1.frozen;have SC:=ah.c2.cell;have SD:=ah.c2.frozen;have aos:=ah.c5.lt;have iB:(kr pre).length<=pre.length:=rW _ _;by_cases zX:x=65
  .subst zX
   gi_wp2
   exact⟨(ME _ _ _ _ _).from _,⟨⟨rfl,bh⟩,DV ah _ _ _⟩,aB.trans (Da _ _ _ _ _)⟩
  have arp:¬(x:Int)=65:=J;by_cases zV:1<x
  .have SN:(1:Int)<(x:Int):=J
   gi_wp2_with (gi_at_builtin;refine tq.bB ?_)
   refine⟨?_⟩;refine wpListIn_append_own _ rfl _ _ 100 rfl (w.heap.size+1+1+1) 3 C8 (.int .i64 0) 1 8 ahq hi G7 aca acb rfl bP v (kr pre).length (pt pre) rfl (d9.alloc _) ⟨W.heap.size,0,none⟩ 1 1 [.int .i64 (x:Int)] rfl rfl ?hcell ?hone ?hb1 ?hb2 ?hb3 ?hrest
   case hcell=>exact cell_one_new _ _ _
   case hone=>simp[Value.oneCell']
   case hb1=>simp[maxLen];omega
   case hb2=>omega
   case hb3=>have:=aB.size;simp;omega
   case hrest=>
    intro cY cf GU GK _;obtain⟨i1,cap',rfl⟩:=ownsRow_succ GU;obtain⟨xs,C4,Sz,ni,hb2⟩:=aC.appended bP d9 J J GU GK;have RU:Boxed cf (w.heap.size+1+1+1+1+1) 23 _:=(ah.c5.alloc (.cells #[Value.int .i64 (x:Int)] 3)).kept GK (ah.c5.not_row bP d9);have sr:=xs.cell;have R':=xs.frozen
    gi_wp2
    have Gp:=RU.sY (C:=w.heap.size+1+1+1+1) J (.slice (some ⟨i1,0,none⟩) ((kr pre).length+1) cap');have Gs:=hb2.mono (B':=w.heap.size) J;refine⟨ni.from _,⟨Gs,Gp.cell.trans ah.c5.cell.symm⟩,⟨⟨_,C4,?_,?_⟩,aeZ ah hb2 Gp⟩,aB.trans Gs⟩
    .rw[pt,YO zV];simpa[pt]using Sz
    simpa[mK]using λe=>zX e.symm
  have SN:¬(1:Int)<(x:Int):=J
  gi_wp2
  refine⟨KeepsFrom.refl _ _,⟨Below.refl _ _,rfl⟩,⟨⟨v,aC,?_,?_⟩,ah⟩,aB⟩
  .rw[pt,YP zV];exact d9
  simpa[mK]using λe=>zX e.symm
 case done=>
  rintro D bs W hJ rfl ⟨⟨⟨v,aC,d9,mK⟩,ah⟩,aB⟩ fL;have R2:=aC.cell;have LI:=ah.c0.cell;have zQ:=ah.c0.frozen;have SA:=ah.c1.cell;have SB:=ah.c1.frozen;have SC:=ah.c2.cell;have SD:=ah.c2.frozen;have lc:=λv n e=>(ME w.heap.size v n e W).same D _ fL rfl;have LQ:=Wl b9 (8*b9.length+1) J;have iB:(kr (h_ b9 (8*b9.length+1))).length<=(h_ b9 (8*b9.length+1)).length:=rW _ _;obtain⟨C,cx⟩:∃C,tq (C=kr (h_ b9 (8*b9.length+1))):=⟨_,⟨rfl⟩⟩;unfold pt at d9;rw[<- cx.bB]at d9 iB;have RK:C.length<=128:=J;have vm:tq (W.ownsRow (w.heap.size+1+1+1) 3 1 v C.length (C.map λ(n:Nat)=>Value.int .i64 (n:Int))):=⟨d9⟩;clear d9 iB LQ;by_cases RJ:C.length=0
  .rw[RJ]at vm
   obtain⟨a,c,G4⟩:∃a c,v=.slice a 0 c:=by
    rcases vm.bB.2 with⟨h,_⟩|⟨g,cap',gF,h,_⟩
    .exact⟨_,_,h⟩
    exact⟨_,_,h⟩
   subst G4
   gi_wp2
   refine⟨bh,.inl ⟨_,_,rfl,run_takeDeferred (lc _ _ _),?_⟩⟩;have bj:=((DV ah (.slice none 0 0) (0) 2).put (.deferred none) (lc _ _ _) rfl);refine⟨.tuple #[(.slice none 0 0),.int .i64 (0),.int .i64 2],by simp[results,Tryz.f210,go_sem,bj.c0.cell,bj.c1.cell,bj.c2.cell],_,rfl,?_⟩;have hall:∀n∈hQ b9,n<65:=by intro n aj;rw[<- Ch,<- cx.bB,k3.1 RJ]at aj;cases aj
   rw[jl.bB,if_pos ⟨by trivial,.inr hall⟩];exact x8 dg ((aB.trans (Da _ _ _ _ _)).trans (belowK_b (w:=w) (bU _) _ D _ _ (by simp at hJ;omega) (lc _ _ _) rfl rfl)) 2
  obtain⟨L,hL⟩:∃L,C.length=L+1:=⟨C.length-1,J⟩;rw[hL]at vm RK;obtain⟨g,cap',z,G4,G7,abb⟩:∃g cap' z,v=.slice (some ⟨g,0,none⟩) (L+1) cap'/\tq (C[L]?=some z)/\W.cell? ⟨g,L,none⟩=some (.int .i64 (z:Int)):=by
   rcases vm.bB.2 with⟨h,bL⟩|⟨g,cap',gF,h,hg,hh,re,ni,fc,jD⟩
   .omega
   refine⟨g,cap',C[L]'J,h,⟨jN J⟩,?_⟩;rw[World.cell?,hh];have O:gF.toList[L]?=some (Value.int .i64 ((C[L]'J:Nat):Int)):=by have R:(List.take ((L+1)*1) gF.toList)[L]?=gF.toList[L]?:=O' J;rw[<- R,jD,JQ,jN (show L<C.length by omega)];rfl
   have af:gF[L]?=some (Value.int .i64 ((C[L]'J:Nat):Int)):=by rw[<- O];simp
   simpa using af
  subst G4;clear RJ;have Gm:tq (C.length=L+1):=⟨hL⟩;clear hL;have tO:¬((L+1:Nat):Int)=0:=J;have C6:wrap64 (((L+1:Nat):Int)-1)=(L:Int):=by rw[show((L+1:Nat):Int)-1=(L:Int) by omega];unfold wrap64;omega
  have vq:(L:Int)<((L+1:Nat):Int):=J;have azx:(0:Int)<=(L:Int):=J;by_cases arw:(z:Int)<65
  .gi_wp2
   refine⟨bh,.inl ⟨_,_,rfl,run_takeDeferred (lc _ _ _),?_⟩⟩;have bj:=((DV ah (.slice none 0 0) (0) 2).put (.deferred none) (lc _ _ _) rfl);refine⟨.tuple #[(.slice none 0 0),.int .i64 (0),.int .i64 2],by simp[results,Tryz.f210,go_sem,bj.c0.cell,bj.c1.cell,bj.c2.cell],_,rfl,?_⟩;have hall:∀n∈hQ b9,n<65:=by intro n aj;have:=atH (by rw[<- Ch,<- cx.bB];exact Gm.bB) (by rw[<- Ch,<- cx.bB];exact G7.bB) n aj;omega
   rw[jl.bB,if_pos ⟨by trivial,.inr hall⟩];exact x8 dg ((aB.trans (Da _ _ _ _ _)).trans (belowK_b (w:=w) (bU _) _ D _ _ (by simp at hJ;omega) (lc _ _ _) rfl rfl)) 2
  gi_wp2
  refine⟨bh,.inl ⟨_,_,rfl,run_takeDeferred (lc _ _ _),?_⟩⟩;have bj:=((DV ah (.slice (some ⟨g,0,none⟩) (L+1) cap') ((A:Int)+16) 0).put (.deferred none) (lc _ _ _) rfl);refine⟨.tuple #[(.slice (some ⟨g,0,none⟩) (L+1) cap'),.int .i64 ((A:Int)+16),.int .i64 0],by simp[results,Tryz.f210,go_sem,bj.c0.cell,bj.c1.cell,bj.c2.cell],_,rfl,?_⟩;rw[jl.bB,if_neg (λh=>h.2.elim (λh=>mK (atF h)) (λh=>absurd arw (by have:=h z (by rw[<- Ch,<- cx.bB];exact JY G7.bB);omega)))];refine ae3 dg ((aB.trans (Da _ _ _ _ _)).trans (belowK_b (w:=w) (bU _) _ D _ _ (by simp at hJ;omega) (lc _ _ _) rfl rfl)) ?_ _;have SG:=afa vm.bB (.slice (some ⟨g,0,none⟩) (L+1) cap') ((A:Int)+16) 0 (.deferred none) fL rfl;rw[<- Ch,<- cx.bB,ov,Gm.bB,JB];exact SG
 case stop=>
  rintro D c pre W hJ ⟨k,ap,rfl⟩ ⟨⟨⟨rfl,mK⟩,ah⟩,aB⟩ fL
  gi_wp2
  refine⟨bh,.inl ⟨_,_,rfl,run_takeDeferred fL,?_⟩⟩;have bj:=ah.put (.deferred none) fL rfl;refine⟨.tuple #[.slice none 0 0,.int .i64 0,.int .i64 2],by simp[results,Tryz.f210,go_sem,bj.c0.cell,bj.c1.cell,bj.c2.cell],_,rfl,?_⟩;rw[jl.bB,if_pos ⟨by trivial,.inl (ahQ ap mK).1⟩];exact x8 dg (aB.trans (belowK_b (w:=w) (bU _) _ D _ _ (by simp at hJ;omega) fL rfl rfl)) 2
end Yp
namespace Yp
open Go Go.Proofs
abbrev Ng:eA:=⟨[.sl (.int .u8),.int .i64],[.ow (.int .i64),.im (.int .i64),.im (.int .i64)],Xf⟩
def apa{c:V}(h:0<c.length):iA c 1=bt c[0] 0:=by
 unfold iA ak
 grind
set_option maxRecDepth 100000 in
def avM(pD:fG Tryz.prog 268 ⟨[.int .i64],[.im (.int .i64),.im (.int .u8)],tz⟩)(l:V)(c':Int)(a:Option Addr)(cap:Nat)(w:World)(X:Nat->Prop)(dg:∀b,X b->b<w.heap.size)(pF:lM Tryz.prog (view w X))(O:l.length<=cap)(tM:cap<=9223372036854775807)
  (af:l=[]\/∃b o c el fz,a=some ⟨b,o,none⟩/\view w X b=some (.cells c el fz)/\o+l.length*1<=c.size/\∀(i:Nat) (x:UInt8),l[i]?=some x->cH c (o+i*1) 1=[Value.int .u8 (aI x)]) :
  Calls Tryz.prog 210 #[Value.slice a l.length cap,Value.int .i64 c'] w λe w'=>∃b2,e=.returned b2/\iu w X w' Ng.res (k8 l c') b2:=by
 by_cases dn:c'<0
 .have e:k8 l c'=([],0,1,()):=if_pos (.inl dn)
  refine(callsIn_wide (n:=0)).1 (avH a _ cap c' dn 0 w X dg |>.mono ?_);intro bC w' ⟨b2,h,bL⟩;exact⟨b2,h,by rw[e];exact bL⟩
 by_cases aB:(l.length:Int)<c'
 .have e:k8 l c'=([],0,1,()):=if_pos (.inr aB)
  refine(callsIn_wide (n:=0)).1 (avI a _ cap c' dn aB 0 w X dg |>.mono ?_);intro bC w' ⟨b2,h,bL⟩;exact⟨b2,h,by rw[e];exact bL⟩
 obtain⟨A,rfl⟩:∃A:Nat,c'=(A:Int):=⟨c'.toNat,J⟩;have aow:A<=l.length:=J;have amA:k8 l (A:Int)=pq (l.drop A) (A:Int):=by unfold k8;rw[if_neg J];rfl
 rw[amA];have GB:(l.drop A).length=l.length-A:=e?;by_cases b?:A=l.length
 .have e:pq (l.drop A) (A:Int)=([],0,3,()):=if_pos (.inl J)
  refine(callsIn_wide (n:=0)).1 (avJ a _ cap A O b? 0 w X dg |>.mono ?_);intro bC w' ⟨b2,h,bL⟩;exact⟨b2,h,by rw[e];exact bL⟩
 rcases af with rfl|⟨b,o,c,el,fz,rfl,aC,cQ,GC⟩
 .simp at b? aow;omega
 have aq5:o+l.length*1<=c.size:=cQ;obtain⟨n2,hh⟩:=js.1 aC;have dD:b<w.heap.size:=(ip.1 hh).1;have hcell:∀i,(h:i<l.length)->w.cell? ⟨b,o+i,none⟩=some (.int .u8 (aI l[i])):=by
  intro i h;have cT:cH c (o+i*1) 1=[Value.int .u8 (aI l[i])]:=GC i l[i] (jN h);rw[mw]at cT;have dN:c[o+i]?=some (Value.int .u8 (aI l[i])):=by have:=uz (c:=c) (o:=o+i) (n:=1) (i:=0) J;rw[cT]at this;simpa using this.symm
  rw[World.cell?,hh];simpa using dN
 have ng:=hcell A J;have jB:iA (l.drop A) 1=bt (l[A]'J) 0:=by rw[apa J];congr 1;simp
 by_cases ky:(l.drop A).length<8\/(iA (l.drop A) 1=true/\(l.drop A).length<16)
 .have e:pq (l.drop A) (A:Int)=([],0,3,()):=if_pos ky
  have ac:(bt (l[A]'J) 0=true/\l.length-A<16)\/(bt (l[A]'J) 0=false/\l.length-A<8):=by
   rw[jB,GB]at ky;cases Y:bt (l[A]'J) 0
   .rw[Y]at ky;exact .inr ⟨rfl,by simpa using ky⟩
   exact .inl ⟨rfl,J⟩
  refine(callsIn_wide (n:=0)).1 (avK b o _ cap A O J _ 0 w ng ac X dg dD |>.mono ?_);intro bC w' ⟨b2,h,bL⟩;exact⟨b2,h,by rw[e];exact bL⟩
 have azl:8<=l.length-A:=J;have run:∀(S:Nat),(S=8\/S=16)->A+S<=l.length->(bt (l[A]'J) 0=true↔S=16)->∀aP,aP=(if S=16/\(65∈hQ ((l.drop A).take S)\/∀n∈hQ ((l.drop A).take S),n<65) then(([],0,2,()):List Int×Int×Int×Unit) else(((hQ ((l.drop A).take S)).map Int.ofNat,(A:Int)+(S:Int),(0:Int),()):List Int×Int×Int×Unit))->pq (l.drop A) (A:Int)=aP ->
   Calls Tryz.prog 210 #[Value.slice (some ⟨b,o,none⟩) l.length cap,Value.int .i64 (A:Int)] w λe w'=>∃b2,e=.returned b2/\iu w X w' Ng.res (pq (l.drop A) (A:Int)) b2:=by
  intro S cz hl Gv aP jl aA;rw[aA];refine(callsIn_wide (n:=3)).1 (avL pD b o _ cap A S O hl J ((l.drop A).take S) cz (by rw[hE,GB];omega) _ 0 w ?_ ng Gv X dg pF dD aP ⟨jl⟩);intro j an;have l_:A+j<l.length:=by rw[hE,GB]at an;omega
  rw[jv,hcell (A+j) l_];simp
 cases Y:bt (l[A]'J) 0
 .rw[Y]at jB
  refine run 8 (.inl rfl) J (by rw[Y];simp) _ rfl ?_;unfold pq;rw[if_neg ky,if_neg (by rw[jB];simp),if_neg J];rfl
 rw[Y]at jB;have nY:16<=l.length-A:=by
  rcases y2 (l.drop A).length 16 with h|h
  .exact absurd (.inr ⟨jB,h⟩) ky
  omega
 refine run 16 (.inr rfl) J (by rw[Y];simp) _ rfl ?_;unfold pq;rw[if_neg ky,if_pos jB];simp only[true_and];rfl
set_option maxRecDepth 100000 in
def aoS(pD:fG Tryz.prog 268 ⟨[.int .i64],[.im (.int .i64),.im (.int .u8)],tz⟩):fG Tryz.prog 210 Ng:=by refine⟨⟨Tryz.f210,Tryz.func210,by kernel_rfl,by kernel_rfl⟩,?_⟩;intro w X x vs r dg ap bu ah;obtain⟨l,c',⟨⟩⟩:=x;obtain rfl:k8 l c'=r:=lZ ah;obtain⟨cs,d3,rfl,ai,q6,mX,rfl,oL,rfl⟩:=bu;obtain⟨a,cap,rfl,O,R,af⟩:=aH.ic.1 ai;obtain rfl:=aH.ia.1 oL;refine avM pD l c' a cap w X dg ap O R (af.imp id ?_);rintro⟨b,o,c,el,fz,rfl,aC,cQ,GC⟩;exact⟨b,o,c,el,fz,rfl,aC,cQ,λi x hx=>aH.ia.1 (GC i x hx)⟩
end Yp
namespace Yp
open Go Go.Conc Go.RowKit Go.Proofs
def p':=@Option.getD_some
section
variable {P:Program} {iz:Frame} {cs:List Frame} {w w₁:World} {es:Array Event} {c cap s r:Nat} {buf:Array Value} {z' v:Value} {tm:Bool}
def axF(h:stepG P true (G iz cs) w=.comm (G iz cs) #[scase c v z'] false .select w₁ es)(ai:w₁.heap[c]?=some (.chan cap buf false s r tm))(fT:buf.size<cap):
  step P (solo (G iz cs) w)=.next (solo (G (iz.finish (.tuple #[goInt 0,.bool false])) cs) (w₁.setChan c cap (buf.push v) false (s+1) r tm)):=by
 have hp:=partners_alone (c:=c) false;rw[step,stepT_solo rfl];simp[runT,solo,G,Array.swapAt!,Array.swapAt,h,GStep.es,communicate,ways,scase,ai,hp,fT,choose,Sem.run,Question.forced,bind,Sem.bind,pure,Goroutine.finishComm,commResult,World.setChan]at h ⊢
def axE(h:stepG P true (G iz cs) w=.comm (G iz cs) #[scase c v z'] false .select w₁ es)(ai:w₁.heap[c]?=some (.chan cap buf false s r tm))(zJ:¬buf.size<cap):
  step P (solo (G iz cs) w)=.next (solo (G (iz.finish (.tuple #[goInt (-1),.bool false])) cs) w₁):=by
 have hp:=partners_alone (c:=c) false;rw[step,stepT_solo rfl];simp[runT,solo,G,Array.swapAt!,Array.swapAt,h,GStep.es,communicate,ways,scase,ai,hp,zJ,Goroutine.finishComm,commResult]at h ⊢
end
set_option maxRecDepth 100000 in
def avi{w:World}{buf:Array Value}{v:Value}{tm:Bool}(ai:w.heap[c]?=some (.chan cap buf false s r tm))(fT:buf.size<cap):
  Calls Tryz.prog 269 #[.agg #[.chan (some c)],v] w λe w'=>e=.returned (.bool true)/\w'=(w.alloc (.cells #[.chan (some c)] 324)).setChan c cap (buf.push v) false (s+1) r tm:=by
 have bm:c<w.heap.size:=(ip.1 ai).1;refine calls_of_loneTo λcs => ?_;have e:Frame.enter Tryz.prog 269 #[.agg #[.chan (some c)],v] .normal=(base 269).at ⟨#[.agg #[.chan (some c)],v,undef,undef,undef,undef,undef,undef,undef,undef,undef],[]⟩ [.code (Tryz.f269.body.getD .skip)]:=by simp[Frame.enter,Frame.at,Tryz.func269,base,Tryz.f269]
 rw[e];refine LoneTo.goes (n:=16) ?_;simp only[Tryz.f269,p']
 s_c stepG_seq
 s_reg
 s_op
 s_op
 s_c stepG_region_end
 s_c stepG_seq
 s_c stepG_seq
 s_reg
 s_op
 s_op
 s_c stepG_region_end
 s_reg
 s_op
 s_c stepG_region_end
 s_c stepG_seq
 s_reg
 s_stop
 refine LoneTo.step (axF (c:=c) (z':=.slice none 0 0) (v:=v) (buf:=buf) (cap:=cap) (s:=s) (r:=r) (tm:=tm) (stepG_comm (cases:=#[scase c v (.slice none 0 0)]) (blocking:=false) (shape:=.select) (w':=w.alloc (.cells #[.chan (some c)] 324)) rfl rfl bP (by simp[go_sem,execOp,scase,Act.eval])) (by rw[heap_alloc_old _ _ bm];exact ai) fT) ?_;rw[Frame.finish_at]
 walk_nrm
 refine LoneTo.goes (n:=9) ?_
 s_op
 s_op
 s_c stepG_region_end
 s_c stepG_block
 s_cond true
 s_c stepG_seq
 s_reg
 s_op
 s_c stepG_region_end
 s_stop
 refine LoneTo.goes (n:=1) ?_
 s_c stepG_ret'
 s_stop
 refine LoneTo.done ⟨.returned (.bool true),_,rfl,⟨rfl,rfl⟩,rfl,rfl,rfl,rfl,_,Tryz.func269,by simp[results,Tryz.f269,Frame.at]⟩
set_option maxRecDepth 100000 in
def ave{w:World}{buf:Array Value}{v:Value}{tm:Bool}(ai:w.heap[c]?=some (.chan cap buf false s r tm))(fT:¬buf.size<cap):
  Calls Tryz.prog 269 #[.agg #[.chan (some c)],v] w λe w'=>e=.returned (.bool false)/\w'=w.alloc (.cells #[.chan (some c)] 324):=by
 have bm:c<w.heap.size:=(ip.1 ai).1;refine calls_of_loneTo λcs => ?_;have e:Frame.enter Tryz.prog 269 #[.agg #[.chan (some c)],v] .normal=(base 269).at ⟨#[.agg #[.chan (some c)],v,undef,undef,undef,undef,undef,undef,undef,undef,undef],[]⟩ [.code (Tryz.f269.body.getD .skip)]:=by simp[Frame.enter,Frame.at,Tryz.func269,base,Tryz.f269]
 rw[e];refine LoneTo.goes (n:=16) ?_;simp only[Tryz.f269,p']
 s_c stepG_seq
 s_reg
 s_op
 s_op
 s_c stepG_region_end
 s_c stepG_seq
 s_c stepG_seq
 s_reg
 s_op
 s_op
 s_c stepG_region_end
 s_reg
 s_op
 s_c stepG_region_end
 s_c stepG_seq
 s_reg
 s_stop
 refine LoneTo.step (axE (c:=c) (z':=.slice none 0 0) (v:=v) (buf:=buf) (cap:=cap) (s:=s) (r:=r) (tm:=tm) (stepG_comm (cases:=#[scase c v (.slice none 0 0)]) (blocking:=false) (shape:=.select) (w':=w.alloc (.cells #[.chan (some c)] 324)) rfl rfl bP (by simp[go_sem,execOp,scase,Act.eval])) (by rw[heap_alloc_old _ _ bm];exact ai) fT) ?_;rw[Frame.finish_at]
 walk_nrm
 refine LoneTo.goes (n:=9) ?_
 s_op
 s_op
 s_c stepG_region_end
 s_c stepG_block
 s_cond false
 s_c stepG_seq
 s_reg
 s_op
 s_c stepG_region_end
 s_stop
 refine LoneTo.goes (n:=1) ?_
 s_c stepG_ret'
 s_stop
 refine LoneTo.done ⟨.returned (.bool false),_,rfl,⟨rfl,rfl⟩,rfl,rfl,rfl,rfl,_,Tryz.func269,by simp[results,Tryz.f269,Frame.at]⟩
end Yp
namespace Yp
open Go Go.Conc Go.RowKit Go.Proofs
def Dh{P:Program}{Q:Goroutine->World->Prop}{f:FuncId}{args:Array Value}{w:World}{aP:Ending->World->Prop}(ai:Calls P f args w aP){c:Frame}{cs:List Frame}
  (vv:∀e w',aP e w'->∃v,e=.returned v) (h:∀v w',aP (.returned v) w'->LoneTo P Q (G (c.finish v) cs) w'):LoneTo P Q (G (Frame.enter P f args .normal) (c::cs)) w:=by
 obtain⟨e,w',iz,jl,ac,hf,hl⟩:=ai (c::cs);obtain⟨v,rfl⟩:=vv e w' jl;obtain⟨i1,Jc,pI,a2⟩:=h v w' jl;exact⟨i1,Jc,Steps.trans ac (Steps.head (step_leave_returned hl) pI),a2⟩
def aal{Q':List Item->Prop}{I:List Item}(h:∀hG,hG=I->Q' hG):Q' I:=h I rfl
structure p9(w w':World)(c cap:Nat)(buf:Array Value):Prop where
 os:w'.os=w.os
 tape:w'.tape=w.tape
 output:w'.output=w.output
 size:w.heap.size<=w'.heap.size
 other:∀b,b<w.heap.size->b≠c->w'.heap[b]?=w.heap[b]?
 ch:∃s r,w'.heap[c]?=some (.chan cap buf false s r false)
def p9.trans{w cf cO:World}{eS ei:Array Value}(h:p9 w cf c cap eS)(bL:p9 cf cO c cap ei):p9 w cO c cap ei:=
 ⟨bL.os.trans h.os,bL.tape.trans h.tape,bL.output.trans h.output,eZ h.size bL.size,λb Y aj=>(bL.other b (hU Y h.size) aj).trans (h.other b Y aj),bL.ch⟩
def Qq{w:World}{o:Obj}{buf:Array Value}(ai:w.heap[c]?=some (.chan cap buf false s r false)):p9 w (w.alloc o) c cap buf:=by have bm:c<w.heap.size:=(ip.1 ai).1;exact⟨rfl,rfl,rfl,by rw[iv];exact qa _,λb Y _=>heap_alloc_old w o Y,s,r,by rw[heap_alloc_old w o bm];exact ai⟩
def YC{w:World}{cq qL:Nat}{buf PH:Array Value}(ai:w.heap[c]?=some (.chan cap buf false s r false)):p9 w (w.setChan c cap PH false cq qL false) c cap PH:=by
 have bm:c<w.heap.size:=(ip.1 ai).1;refine⟨rfl,rfl,rfl,by rw[size_setChan];exact bU _,λb Y aj => ?_,cq,qL,heap_setChan w c cap PH false cq qL false bm⟩;show(w.heap.setIfInBounds c _)[b]?=_
 grind
def avh{w:World}{buf:Array Value}{v:Value}(ai:∃s r,w.heap[c]?=some (.chan cap buf false s r false))(fT:buf.size<cap):
  Calls Tryz.prog 269 #[.agg #[.chan (some c)],v] w λe w'=>e=.returned (.bool true)/\p9 w w' c cap (buf.push v):=by
 obtain⟨s,r,ai⟩:=ai;refine(avi ai fT).mono λe w' h=>⟨h.1,?_⟩;rw[h.2];have O:=Qq (o:=.cells #[.chan (some c)] 324) ai;obtain⟨bp,eG,R⟩:=O.ch;exact O.trans (YC R)
def avf{w:World}{buf:Array Value}{v:Value}(ai:∃s r,w.heap[c]?=some (.chan cap buf false s r false))(zJ:¬buf.size<cap):
  Calls Tryz.prog 269 #[.agg #[.chan (some c)],v] w λe w'=>e=.returned (.bool false)/\p9 w w' c cap buf:=by
 obtain⟨s,r,ai⟩:=ai;refine(ave ai zJ).mono λe w' h=>⟨h.1,?_⟩;rw[h.2];exact Qq ai
def YB{w w':World}{a:Addr}(h:w'.heap[a.block]?=w.heap[a.block]?):w'.cell? a=w.cell? a:=by unfold World.cell?;rw[h]
def ahK(O : -9223372036854775808<=x)(R:x<=9223372036854775807):IntKind.i64.wrap x=x:=ahJ .i64 x O R
set_option maxRecDepth 100000 in
def ZP{w:World}{gz:Nat}{a:Option Addr}{buf:Array Value}(ai:∃s r,w.heap[c]?=some (.chan cap buf false s r false))(aj:n<=9223372036854775807)(fT:buf.size<=cap){h5:Nat->Addr}{val:Nat->Value}(aqb:∀i,i<n->∀cf:World,(Instr.indexAt 48 (.slice a n gz) (.int .i64 i)).run Tryz.prog cf=.ok (.pointer (some (h5 i))) cf)
  (hcell:∀i,i<n->w.cell? (h5 i)=some (val i)) (LG:∀i,i<n->(h5 i).block<w.heap.size/\(h5 i).block≠c) :
  Calls Tryz.prog 223 #[.agg #[.chan (some c)],.slice a n gz] w λe w'=>e=.returned (.int .i64 (min n (cap-buf.size):Nat))/\p9 w w' c cap (buf++((List.range (min n (cap-buf.size))).map val).toArray):=by
 have abc:c<w.heap.size:=by obtain⟨s,r,ai⟩:=ai;exact(ip.1 ai).1
 refine calls_of_loneTo λcs => ?_;have e:Frame.enter Tryz.prog 223 #[.agg #[.chan (some c)],.slice a n gz] .normal=(base 223).at ⟨#[.agg #[.chan (some c)],.slice a n gz,undef,undef,undef,undef,undef,undef,undef,undef,undef,undef,undef,undef,undef,undef,undef,undef,undef,undef,undef,undef],[]⟩ [.code (Tryz.f223.body.getD .skip)]:=by simp[Frame.enter,Frame.at,Tryz.func223,base,Tryz.f223]
 rw[e];refine LoneTo.goes (n:=16) ?_;simp only[Tryz.f223,p']
 s_c stepG_seq
 s_reg
 s_op
 s_op
 s_c stepG_region_end
 s_c stepG_seq
 s_c stepG_seq
 s_reg
 s_op
 s_op
 s_op
 s_c stepG_region_end
 s_c stepG_block
 s_c stepG_loop
 s_stop
 have G6:p9 w (w.alloc (.cells #[.chan (some c)] 324)) c cap buf:=by obtain⟨s,r,ai⟩:=ai;exact Qq ai
 have q_:(w.alloc (.cells #[.chan (some c)] 324)).heap[w.heap.size]?=some (.cells #[.chan (some c)] 324):=heap_alloc_new _ _;have cQ:(w.alloc (.cells #[.chan (some c)] 324)).heap.size=w.heap.size+1:=iv _ _;generalize w.alloc (.cells #[.chan (some c)] 324)=eI at G6 q_ cQ;refine aal (Q':=λhG=>LoneTo _ _ (G ((base 223).at _ hG) _) _) ?_;intro hG kx;have key:∀(k i:Nat) (cf:World) (t5 yi Bl o8 uF Bm Bn Bo Bp yr u8 Bq NZ N0:Value),i+k=n->buf.size+i<=cap->p9 eI cf c cap (buf++((List.range i).map val).toArray)->LoneTo Tryz.prog (λi1 w'=>∃e iz,i1=G iz cs/\(e=.returned (.int .i64 (min n (cap-buf.size):Nat))/\p9 w w' c cap (buf++((List.range (min n (cap-buf.size))).map val).toArray))/\iz.fn=223/\iz.leaving Tryz.prog w' e) (G ((base 223).at ⟨#[.agg #[.chan (some c)],.slice a n gz,.pointer (some ⟨w.heap.size,0,none⟩),undef,.int .i64 0,t5,yi,.slice a n gz,.int .i64 n,.int .i64 i,Bl,o8,uF,Bm,Bn,Bo,Bp,yr,u8,Bq,NZ,N0],[]⟩ hG) cs) cf:=by
  intro k;induction k with
  |zero=>
   intro i cf t5 yi Bl o8 uF Bm Bn Bo Bp yr u8 Bq NZ N0 ap bY sy;obtain rfl:i=n:=J;rw[kx];refine LoneTo.goes (n:=14) ?_
   s_c stepG_seq
   s_reg
   s_op
   s_c stepG_region_end
   s_c stepG_seq
   s_cond false
   s_exit
   s_c stepG_seq
   s_reg
   s_op
   s_op
   s_op
   s_c stepG_region_end
   s_c stepG_ret'
   s_stop
   have hm:min i (cap-buf.size)=i:=J;rw[hm];exact LoneTo.done ⟨.returned (.int .i64 i),_,rfl,⟨rfl,G6.trans sy⟩,rfl,rfl,rfl,rfl,_,Tryz.func223,by simp[results,Tryz.f223,Frame.at]⟩
  |succ k ih=>
   intro i cf t5 yi Bl o8 uF Bm Bn Bo Bp yr u8 Bq NZ N0 ap bY sy;have bm:i<n:=J;have hi:=aqb i bm;have hp:=LG i bm;have eB:cf.cell? (h5 i)=some (val i):=by rw[<- hcell i bm];exact YB ((sy.other _ J hp.2).trans (G6.other _ hp.1 hp.2))
   have zE:cf.heap[w.heap.size]?=some (.cells #[.chan (some c)] 324):=(sy.other _ J J).trans q_;have vj:cf.cell? ⟨w.heap.size,0,none⟩=some (.chan (some c)):=by simp[World.cell?,zE]
   rw[kx];refine LoneTo.goes (n:=23) ?_
   s_c stepG_seq
   s_reg
   s_op
   s_c stepG_region_end
   s_c stepG_seq
   s_cond true
   s_c stepG_skip
   s_c stepG_seq
   s_c stepG_block
   s_c stepG_seq
   s_reg
   s_op
   s_op
   s_op
   s_op
   s_op
   s_c stepG_region_end
   s_c stepG_seq
   s_reg
   s_op
   s_op
   s_in
   refine goes_call rfl rfl bP rfl Tryz.func269 (by kernel_rfl) rfl ⟨trivial,?_⟩
   walk_nrmf Tryz.f269
   s_stop
   have aA:Frame.enter Tryz.prog 269 #[.agg #[.chan (some c)],val i] .normal=(base 269).at ⟨#[.agg #[.chan (some c)],val i,undef,undef,undef,undef,undef,undef,undef,undef,undef],[]⟩ [.code (Tryz.f269.body.getD .skip)]:=by simp[Frame.enter,Frame.at,Tryz.func269,base,Tryz.f269]
   simp only[Tryz.f269,p']at aA;rw[<- aA];have Gw:(buf++((List.range i).map val).toArray).size=buf.size+i:=bh;by_cases abQ:(buf++((List.range i).map val).toArray).size<cap
   .refine Dh (avh sy.ch abQ) (λe w' h=>⟨_,h.1⟩) (λv w' h => ?_)
    obtain⟨aC,LP⟩:=h;cases aC;rw[Frame.finish_at]
    walk_nrm
    refine LoneTo.goes (n:=14) ?_
    s_op
    s_c stepG_region_end
    s_cond false
    s_c stepG_skip
    s_c stepG_inBlock
    s_reg
    s_op
    s_op
    s_c stepG_region_end
    s_c stepG_inLoop
    s_stop
    rw[ahK J J];have aqR:(buf++((List.range i).map val).toArray).push (val i)=buf++((List.range (i+1)).map val).toArray:=by apply m3;simp[BV]
    rw[aqR]at LP;have:=ih (i+1) w' (.int .i64 i) (val i) (.bool true) (.int .i64 i) (.pointer (some (h5 i))) (val i) (.agg #[.chan (some c)]) (val i) (.bool true) (.bool false) u8 (.int .i64 ((i+1:Nat):Int)) NZ N0 J J (sy.trans LP);rw[kx]at this;exact this
   refine Dh (avf sy.ch abQ) (λe w' h=>⟨_,h.1⟩) (λv w' h => ?_);obtain⟨aC,LP⟩:=h;cases aC;rw[Frame.finish_at]
   walk_nrm
   refine LoneTo.goes (n:=14) ?_
   s_op
   s_c stepG_region_end
   s_cond true
   s_c stepG_seq
   s_reg
   s_op
   s_op
   s_c stepG_region_end
   s_c stepG_ret'
   s_stop
   have hm:min n (cap-buf.size)=i:=J;rw[hm];exact LoneTo.done ⟨.returned (.int .i64 i),_,rfl,⟨rfl,G6.trans (sy.trans LP)⟩,rfl,rfl,rfl,rfl,_,Tryz.func223,by simp[results,Tryz.f223,Frame.at]⟩
 have:=key n 0 eI undef undef undef undef undef undef undef undef undef undef undef undef undef undef J J (by have:buf++((List.range 0).map val).toArray=buf:=bh;rw[this];obtain⟨s,r,h⟩:=G6.ch;exact⟨rfl,rfl,rfl,bU _,λ_ _ _=>rfl,s,r,h⟩)
 exact this
def ajV:∃i,Tryz.prog.info? 23=some i/\i.bytes=24:=by
 have h:(Tryz.prog.info? 23).map (·.bytes)=some 24:=by kernel_rfl
 obtain⟨i,hi,Y⟩:=k4.1 h;exact⟨i,hi,Y⟩
def atd(n:Nat)(aj:n<=64)(w:World):(Instr.makeChan 322 (.int .i64 n)).run Tryz.prog w=.ok (.chan (some w.heap.size)) (w.alloc (.chan n #[] false 0 0 false)):=by obtain⟨i,hi,Y⟩:=ajV;simpa using run_makeChan (P:=Tryz.prog) (w:=w) Tryz.underlying322 hi .i64 n J (by rw[Y];omega)
set_option maxRecDepth 100000 in
def ajk{w:World}(aj:n<=64):
  Calls Tryz.prog 222 #[.int .i64 n] w λe w'=>e=.returned (.agg #[.chan (some (w.heap.size+1))])/\w'.os=w.os/\w'.tape=w.tape/\w'.output=w.output/\w'.heap.size=w.heap.size+2/\(∀b,b<w.heap.size->w'.heap[b]?=w.heap[b]?)/\w'.heap[w.heap.size+1]?=some (.chan n #[] false 0 0 false):=by
 refine calls_of_loneTo λcs => ?_;have e:Frame.enter Tryz.prog 222 #[.int .i64 n] .normal=(base 222).at ⟨#[.int .i64 n,undef,undef,undef,undef,undef],[]⟩ [.code (Tryz.f222.body.getD .skip)]:=by simp[Frame.enter,Frame.at,Tryz.func222,base,Tryz.f222]
 rw[e];have GS:=atd n aj;refine LoneTo.goes (n:=16) ?_;simp only[Tryz.f222,p']
 s_c stepG_seq
 s_reg
 s_op
 s_c stepG_region_end
 s_c stepG_seq
 s_reg
 s_op
 s_op
 s_op
 s_op
 s_c stepG_region_end
 s_c stepG_ret'
 s_stop
 have bb:((w.alloc (.cells #[.chan (some (w.heap.size+1))] 324)).alloc (.chan n #[] false 0 0 false)).heap[w.heap.size]?=some (.cells #[.chan (some (w.heap.size+1))] 324):=by rw[heap_alloc_old _ _ (by rw[iv];omega)];exact heap_alloc_new _ _
 have vj:((w.alloc (.cells #[.chan (some (w.heap.size+1))] 324)).alloc (.chan n #[] false 0 0 false)).cell? ⟨w.heap.size,0,none⟩=some (.chan (some (w.heap.size+1))):=by simp[World.cell?,bb]
 refine LoneTo.done ⟨.returned (.agg #[.chan (some (w.heap.size+1))]),_,rfl,⟨rfl,rfl,rfl,rfl,?_,?_,?_⟩,rfl,rfl,rfl,rfl,_,Tryz.func222,?_⟩
 .rw[iv,iv]
 .intro b Y
  rw[heap_alloc_old _ _ (by rw[iv];omega),heap_alloc_old _ _ Y]
 .have:=heap_alloc_new (w.alloc (.cells #[.chan (some (w.heap.size+1))] 324)) (.chan n #[] false 0 0 false)
  rw[iv]at this;exact this
 generalize((w.alloc (.cells #[.chan (some (w.heap.size+1))] 324)).alloc (.chan n #[] false 0 0 false))=cO at vj;simp only[results,Tryz.f222,Frame.at]
 go_simp
end Yp
namespace Yp
open Go Go.Proofs
def JX:=@List.length_singleton
def uT(cf:World)(lo c:Nat)(vals:Array Value)(m:Nat)(jp:Value):Prop:=
 ∃b gz oD,jp=.slice (some ⟨b,0,none⟩) m gz/\cf.heap[b]?=some (.cells oD 23)/\m<=gz/\gz<=maxLen/\oD.size=gz/\(∀j,j<m->oD[j]?=vals[j]?)/\lo<=b/\b≠c
def arW:∃i,Tryz.prog.info? 23=some i/\i.size=1/\i.bytes=24/\i.zero=some (.slice none 0 0):=by
 have h:(Tryz.prog.info? 23).map (λi=>(i.size,i.bytes,i.zero))=some (1,24,some (.slice none 0 0)):=by kernel_rfl
 obtain⟨i,hi,Y⟩:=k4.1 h;simp only[kH]at Y;exact⟨i,hi,Y.1,Y.2.1,Y.2.2⟩
structure aio(w w':World)(lo c:Nat):Prop where
 os:w'.os=w.os
 tape:w'.tape=w.tape
 output:w'.output=w.output
 size:w.heap.size<=w'.heap.size
 other:∀b,b<w.heap.size->(b<lo\/b=c)->w'.heap[b]?=w.heap[b]?
def aiS{cf:World}{lo:Nat}{vals:Array Value}{jp v:Value}(h:uT cf lo c vals m jp){sJ:Nat}(aj:cf.heap[sJ]?=some (.cells #[v] 23))(aC:vals[m]?=some v)(hm:m+1<=64)(hone:v.oneCell'=true)(qt:lo<=cf.heap.size)(ai:c<cf.heap.size):
  ∃Ei cO,(Builtin.append_ #[48,48] 48 #[jp,.slice (some ⟨sJ,0,none⟩) 1 1]).run Tryz.prog cf=.ok Ei cO/\uT cO lo c vals (m+1) Ei/\aio cf cO lo c:=by
 obtain⟨b,gz,oD,rfl,Y,GS,nZ,cQ,C5,LB,vj⟩:=h;obtain⟨i,hi,sz,G_,zZ⟩:=arW;have ht:=Tryz.underlying48;have hx:m5 Tryz.prog cf i.size 1 (.slice (some ⟨sJ,0,none⟩) 1 1) [v]:=by refine⟨λ_=>rfl,λw' bb => ?_⟩;simp only[Builtin.firstCells];have:=D1 (P:=Tryz.prog) (w:=w') (b:=sJ) (o:=0) (n:=1) (by rw[bb];exact aj) bh;rw[sz];simpa[cH]using this
 by_cases fT:m+1<=gz
 .obtain⟨cO,ah,cL,hp,hl⟩:=Nd (P:=Tryz.prog) (w:=cf) (ty:=48) ht ht (.inr ⟨23,rfl⟩) hi hx (b:=b) (o:=0) (sLen:=m) (sCap:=gz) fT Y (.inl rfl) (by rw[sz];simp;omega) (by simpa using hone)
  refine⟨_,cO,ah,⟨b,gz,cL,rfl,hp.iQ,fT,nZ,?_,?_,LB,vj⟩,⟨hp.os,hp.tape,hp.output,by rw[hp.size];exact bU _,λb' kz kQ=>hp.other b' (by rintro rfl;rcases kQ with q|q<;>omega)⟩⟩
  .have O:=congrArg List.length hl
   rw[Eg (by rw[sz];simp;omega)]at O;simpa[cQ]using O
  intro j an;have O:cL[j]?=cL.toList[j]?:=bh;rw[O,hl,yb (by rw[sz];simp;omega),sz];by_cases q:j<m
  .rw[if_pos J]
   have:=C5 j q;simpa using this
  obtain rfl:j=m:=J;rw[if_neg J,if_pos bh,aC];simp
 have aK:m5 Tryz.prog cf i.size m (.slice (some ⟨b,0,none⟩) m gz) (cH oD 0 m):=by refine⟨λ_=>rfl,λw' bb => ?_⟩;simp only[Builtin.firstCells];rw[sz,mw];exact D1 (P:=Tryz.prog) (w:=w') (b:=b) (o:=0) (n:=m) (by rw[bb];exact Y) J
 have ah:=UG (P:=Tryz.prog) (w:=cf) (ty:=48) ht ht (.inr ⟨23,rfl⟩) hi zZ hx (ad:=some ⟨b,0,none⟩) (sLen:=m) (sCap:=gz) aK J (by unfold maxLen;omega) (by rw[G_];omega);have n0:=grownCap_ge cf (m+1) gz 23;have nZ:=grownCap_le_maxLen cf (m+1) gz 23 (by unfold maxLen;omega);refine⟨_,_,ah,⟨cf.heap.size,_,_,rfl,q3 cf.drew _,n0,nZ,?_,?_,qt,J⟩,⟨rfl,rfl,rfl,by rw[iv];exact qa _,λb' kz _=>q4 cf.drew _ b' kz⟩⟩
 .rw[wI,size_zeroCells]
  simp only[wI,pg,JX,pX (show 0+m<=oD.size by omega)];simp[Value.cells];omega
 intro j an;have qw:(cH oD 0 m).length=m:=pX J;by_cases q:j<m
 .rw[yV (by simp[qw];omega),yV (by simp[qw];omega)]
  rw[wF,uz q,jw];exact C5 j q
 obtain rfl:j=m:=J;rw[yV (by simp[qw]),EW (by simp[qw]),aC];simp[qw]
end Yp
namespace Yp
open Go Go.Conc Go.RowKit Go.Proofs
structure uL(w w':World)(lo c:Nat):Prop where
 os:w'.os=w.os
 tape:w'.tape=w.tape
 output:w'.output=w.output
 size:w.heap.size<=w'.heap.size
 other:∀b,b<lo->b≠c->w'.heap[b]?=w.heap[b]?
def ayj{o:Oper}{a:Act}{K:Act->World->Prop}{r:Result Go.Next}{v:Value}{w':World}(h:r=.ok (.value v) w')(R:K (a.put o.dst v) w'):uponK o a K r:=by rw[h];exact R
set_option maxRecDepth 100000 in
def aiN{w:World}{buf:Array Value}(ai:∃s r,w.heap[c]?=some (.chan cap buf false s r false))(CM:buf.size<=64)(hone:∀v∈buf,∃a n gz,v=.slice a n gz):
  Calls Tryz.prog 224 #[.agg #[.chan (some c)]] w λe w'=>∃jp,e=.returned jp/\uT w' (w.heap.size+1) c buf buf.size jp/\uL w w' w.heap.size c:=by
 obtain⟨qN,MV,ai⟩:=ai;have abc:c<w.heap.size:=(ip.1 ai).1;have oL:((w.alloc (.cells #[.chan (some c)] 324)).alloc (.cells #[] 23)).heap[c]?=some (.chan cap buf false qN MV false):=by rw[heap_alloc_old _ _ (by rw[iv];omega),heap_alloc_old _ _ abc];exact ai
 have aqg:=run_len_chan (P:=Tryz.prog) 322 3 Tryz.underlying322 oL;refine calls_of_loneTo λcs => ?_;have e:Frame.enter Tryz.prog 224 #[.agg #[.chan (some c)]] .normal=(base 224).at ⟨#[.agg #[.chan (some c)],undef,undef,undef,undef,undef,undef,undef,undef,undef,undef,undef,undef,undef,undef,undef,undef,undef],[]⟩ [.code (Tryz.f224.body.getD .skip)]:=by simp[Frame.enter,Frame.at,Tryz.func224,base,Tryz.f224]
 rw[e];refine LoneTo.goes (n:=23) ?_;simp only[Tryz.f224,p']
 s_c stepG_seq
 s_reg
 s_op
 s_op
 s_c stepG_region_end
 s_c stepG_seq
 s_reg
 s_op
 s_op
 s_c stepG_region_end
 s_c stepG_seq
 s_c stepG_seq
 s_reg
 s_op
 s_op
 s_op
 s_op
 s_c stepG_region_end
 s_c stepG_block
 s_c stepG_loop
 s_stop
 have l':uL w ((w.alloc (.cells #[.chan (some c)] 324)).alloc (.cells #[] 23)) w.heap.size c:=⟨rfl,rfl,rfl,by rw[iv,iv];omega,λb Y _=>by rw[heap_alloc_old _ _ (by rw[iv];omega),heap_alloc_old _ _ Y]⟩;have q_:((w.alloc (.cells #[.chan (some c)] 324)).alloc (.cells #[] 23)).heap[w.heap.size]?=some (.cells #[.chan (some c)] 324):=by rw[heap_alloc_old _ _ (by rw[iv];omega)];exact heap_alloc_new _ _
 have d9:uT ((w.alloc (.cells #[.chan (some c)] 324)).alloc (.cells #[] 23)) (w.heap.size+1) c buf 0 (.slice (some ⟨w.heap.size+1,0,none⟩) 0 0):=by refine⟨w.heap.size+1,0, #[],rfl,?_,bU _,fI _,rfl,λj an=>absurd an (yO j),bU _,J⟩;have:=heap_alloc_new (w.alloc (.cells #[.chan (some c)] 324)) (.cells #[] 23);rw[iv]at this;exact this
 have cQ:((w.alloc (.cells #[.chan (some c)] 324)).alloc (.cells #[] 23)).heap.size=w.heap.size+2:=by rw[iv,iv]
 generalize(w.alloc (.cells #[.chan (some c)] 324)).alloc (.cells #[] 23)=eI at oL l' q_ d9 cQ aqg;refine aal (Q':=λhG=>LoneTo _ _ (G ((base 224).at _ hG) _) _) ?_;intro hG kx;have key:∀(k i:Nat) (cf:World) (jp Bq Bl o8 uF Bm Bn Bo Bp yr:Value),i+k=buf.size->uT cf (w.heap.size+1) c buf i jp->uL w cf w.heap.size c->w.heap.size+2<=cf.heap.size->cf.heap[w.heap.size]?=some (.cells #[.chan (some c)] 324)->(∃s r kJ,cf.heap[c]?=some (.chan cap kJ false s r false)/\kJ.toList=buf.toList.drop i) ->
   LoneTo Tryz.prog (λi1 w'=>∃e iz,i1=G iz cs/\(∃jp,e=.returned jp/\uT w' (w.heap.size+1) c buf buf.size jp/\uL w w' w.heap.size c)/\iz.fn=224/\iz.leaving Tryz.prog w' e) (G ((base 224).at ⟨#[.agg #[.chan (some c)],.pointer (some ⟨w.heap.size,0,none⟩),.slice none 0 0,jp,.slice (some ⟨w.heap.size+1,0,none⟩) 0 0,.pointer (some ⟨w.heap.size,0,none⟩),.chan (some c),.int .i64 buf.size,.int .i64 i,Bq,Bl,o8,uF,Bm,Bn,Bo,Bp,yr],[]⟩ hG) cs) cf:=by
  intro k;induction k with
  |zero=>
   intro i cf jp Bq Bl o8 uF Bm Bn Bo Bp yr ap jl fL ky aB cx;obtain rfl:i=buf.size:=J;rw[kx];refine LoneTo.goes (n:=14) ?_
   s_c stepG_seq
   s_reg
   s_op
   s_c stepG_region_end
   s_c stepG_seq
   s_cond false
   s_exit
   s_c stepG_seq
   s_reg
   s_op
   s_op
   s_c stepG_region_end
   s_c stepG_ret'
   s_stop
   exact LoneTo.done ⟨.returned jp,_,rfl,⟨jp,rfl,jl,fL⟩,rfl,rfl,rfl,rfl,_,Tryz.func224,by simp[results,Tryz.f224,Frame.at]⟩
  |succ k ih=>
   intro i cf jp Bq Bl o8 uF Bm Bn Bo Bp yr ap jl fL ky aB cx;have bm:i<buf.size:=J;obtain⟨ck,N9,N8,ab7⟩:=hone _ (Array.getElem_mem bm);have vj:cf.cell? ⟨w.heap.size,0,none⟩=some (.chan (some c)):=by simp[World.cell?,aB]
   obtain⟨s,r,kJ,Gy,RZ⟩:=cx;have Gw:0<kJ.size:=by have:=congrArg List.length RZ;simp at this;omega
   have ark:kJ.getD 0 undef=buf[i]:=by
    have ao:kJ[0]?=some buf[i]:=by rw[<- wD,RZ];simp[bm]
    simp[mv,ao]
   have apS:(kJ.extract 1 kJ.size).toList=buf.toList.drop (i+1):=by
    have O:(kJ.extract 1 kJ.size).toList=kJ.toList.drop 1:=by rw[Array.toList_extract,List.extract_eq_take_drop];exact hS bh
    rw[O,RZ,qX]
   rw[kx];refine LoneTo.goes (n:=12) ?_
   s_c stepG_seq
   s_reg
   s_op
   s_c stepG_region_end
   s_c stepG_seq
   s_cond true
   s_c stepG_skip
   s_c stepG_seq
   s_c stepG_block
   s_reg
   s_op
   s_op
   s_stop
   refine LoneTo.goes (n:=1) ?_
   s_op
   s_stop
   refine LoneTo.step (step_lone_recv_buf false (c:=c) (z:=.slice none 0 0) (cap:=cap) (buf:=kJ) (closed:=false) (s:=s) (r:=r) (tm:=false) (stepG_comm (cases:=#[rcase c (.slice none 0 0)]) (blocking:=true) (shape:=.recv false) (w':=cf) rfl rfl bP (by simp[go_sem,execOp,rcase,Act.eval])) Gy Gw) ?_;rw[Frame.finish_at,ark,ab7];simp only[got]
   walk_nrm
   have pI:(cf.setChan c cap (kJ.extract 1 kJ.size) false s (r+1) false).heap.size=cf.heap.size:=size_setChan ..
   have mO:p9 cf (cf.setChan c cap (kJ.extract 1 kJ.size) false s (r+1) false) c cap (kJ.extract 1 kJ.size):=YC Gy;generalize cf.setChan c cap (kJ.extract 1 kJ.size) false s (r+1) false=cO at pI mO;obtain⟨b,gz,oD,rfl,Y,GS,nZ,Gr,C5,LB,aa5⟩:=jl;have apf:b<cf.heap.size:=(ip.1 Y).1;have aoM:uT (cO.alloc (.cells #[.slice ck N9 N8] 23)) (w.heap.size+1) c buf i (.slice (some ⟨b,0,none⟩) i gz):=⟨b,gz,oD,rfl,by rw[heap_alloc_old _ _ J,mO.other b apf aa5];exact Y,GS,nZ,Gr,C5,LB,aa5⟩;obtain⟨Ei,hq,aa2,aoN,CO⟩:=aiS aoM (heap_alloc_new cO (.cells #[.slice ck N9 N8] 23)) (v:=.slice ck N9 N8) (by rw[<- ab7];simp[bm]) J rfl (by rw[iv];omega) (by rw[iv];omega);rw[pI]at aa2;refine LoneTo.goes (n:=12) ?_
   s_op
   s_in;refine goes_oper_k rfl rfl bP (λK fL => ?_)
   refine ayj (v:=Ei) (w':=hq) ?_ ?_
   .simp only[List.getElem_toArray,List.getElem_cons_succ,List.getElem_cons_zero,execOp,resolve,invoke,Go.builtin]
    walk_nrm
    simp only[Sem.run_bind,Sem.run_pure,Result.andThen];rw[aa2]
   refine fL _ _ ⟨trivial,?_⟩;clear fL K
   walk_nrm
   s_op
   s_c stepG_region_end
   s_c stepG_inBlock
   s_reg
   s_op
   s_op
   s_c stepG_region_end
   s_c stepG_inLoop
   s_stop
   rw[ahK J J];have hold:∀b',b'<w.heap.size+1->b'≠c->hq.heap[b']?=cf.heap[b']?:=by intro b' kz eC;rw[CO.other b' (by rw[iv];omega) (.inl kz),heap_alloc_old _ _ J,mO.other b' J eC]
   have aq7:=CO.size;rw[iv]at aq7;obtain⟨d5,sR,apn⟩:=mO.ch;have:=ih (i+1) hq Ei (.bool true) (.slice (some ⟨b,0,none⟩) i gz) (.pointer (some ⟨w.heap.size,0,none⟩)) (.chan (some c)) (.slice ck N9 N8) (.slice (some ⟨cf.heap.size,0,none⟩) 1 1) Ei (.int .i64 ((i+1:Nat):Int)) yr J aoN
    ⟨CO.os.trans (mO.os.trans fL.os),CO.tape.trans (mO.tape.trans fL.tape),CO.output.trans (mO.output.trans fL.output),by have:=fL.size;omega,λb' kz eC=>(hold b' J eC).trans (fL.other b' kz eC)⟩ J ((hold _ J J).trans aB)
    ⟨d5,sR,kJ.extract 1 kJ.size,by rw[CO.other c (by rw[iv];omega) (.inr rfl),heap_alloc_old _ _ J];exact apn,apS⟩
   rw[kx]at this;exact this
 exact key buf.size 0 eI _ undef undef undef undef undef undef undef undef undef J d9 l' J q_ ⟨qN,MV,buf,oL,bh⟩
structure JL(w:World)(a:Option Addr)(n gz:Nat)(h5:Nat->Addr)(val:Nat->Value):Prop where
 ix:∀i,i<n->∀cf:World,(Instr.indexAt 48 (.slice a n gz) (.int .i64 i)).run Tryz.prog cf=.ok (.pointer (some (h5 i))) cf
 cell:∀i,i<n->w.cell? (h5 i)=some (val i)
 low:∀i,i<n->(h5 i).block<w.heap.size
 sl:∀i,i<n->∃a n gz,val i=.slice a n gz
 bE:n<=9223372036854775807
set_option maxRecDepth 100000 in
def auX{w:World}{q l:Value}{g7:Int}(ah:g7<1):
  Calls Tryz.prog 162 #[q,l,.int .i64 g7] w λe w'=>e=.returned (.tuple #[q,.int .i64 0,.int .i64 1])/\w'=w:=by
 refine calls_of_loneTo λcs => ?_;have e:Frame.enter Tryz.prog 162 #[q,l,.int .i64 g7] .normal=(base 162).at ⟨#[q,l,.int .i64 g7,undef,undef,undef,undef,undef,undef,undef,undef,undef,undef,undef,undef,undef,undef,undef,undef,undef,undef,undef,undef,undef,undef,undef,undef,undef,undef,undef,undef,undef,undef],[]⟩ [.code (Tryz.f162.body.getD .skip)]:=by simp[Frame.enter,Frame.at,Tryz.func162,base,Tryz.f162]
 rw[e];refine LoneTo.goes (n:=30) ?_;simp only[Tryz.f162,p']
 s_c stepG_seq
 s_reg
 s_op
 s_op
 s_op
 s_c stepG_region_end
 s_c stepG_seq
 s_c stepG_seq
 s_reg
 s_op
 s_op
 s_op
 s_in
 rw[stepG_unwanted rfl rfl];simp only[goes_go];refine⟨trivial,?_⟩
 walk_nrm
 s_in
 rw[stepG_unwanted rfl rfl];simp only[goes_go];refine⟨trivial,?_⟩
 walk_nrm
 s_op
 s_c stepG_region_end
 s_cond true
 s_c stepG_seq
 s_reg
 s_op
 s_op
 s_op
 s_op
 s_c stepG_region_end
 s_c stepG_ret'
 s_stop
 exact LoneTo.done ⟨.returned (.tuple #[q,.int .i64 0,.int .i64 1]),_,rfl,⟨rfl,rfl⟩,rfl,rfl,rfl,rfl,_,Tryz.func162,by simp[results,Tryz.f162,Frame.at]⟩
set_option maxRecDepth 100000 in
def auW{w:World}{q l:Value}{g7:Int}(ao:¬g7<1)(ah:64<g7):
  Calls Tryz.prog 162 #[q,l,.int .i64 g7] w λe w'=>e=.returned (.tuple #[q,.int .i64 0,.int .i64 1])/\w'=w:=by
 refine calls_of_loneTo λcs => ?_;have e:Frame.enter Tryz.prog 162 #[q,l,.int .i64 g7] .normal=(base 162).at ⟨#[q,l,.int .i64 g7,undef,undef,undef,undef,undef,undef,undef,undef,undef,undef,undef,undef,undef,undef,undef,undef,undef,undef,undef,undef,undef,undef,undef,undef,undef,undef,undef,undef,undef,undef],[]⟩ [.code (Tryz.f162.body.getD .skip)]:=by simp[Frame.enter,Frame.at,Tryz.func162,base,Tryz.f162]
 rw[e];refine LoneTo.goes (n:=30) ?_;simp only[Tryz.f162,p']
 s_c stepG_seq
 s_reg
 s_op
 s_op
 s_op
 s_c stepG_region_end
 s_c stepG_seq
 s_c stepG_seq
 s_reg
 s_op
 s_op
 s_op
 s_op
 s_op
 s_op
 s_c stepG_region_end
 s_cond true
 s_c stepG_seq
 s_reg
 s_op
 s_op
 s_op
 s_op
 s_c stepG_region_end
 s_c stepG_ret'
 s_stop
 exact LoneTo.done ⟨.returned (.tuple #[q,.int .i64 0,.int .i64 1]),_,rfl,⟨rfl,rfl⟩,rfl,rfl,rfl,rfl,_,Tryz.func162,by simp[results,Tryz.f162,Frame.at]⟩
set_option maxRecDepth 100000 in
def auZ{w:World}{ur eT:Option Addr}{qn rB aT ci aP:Nat}(O:1<=aP)(CM:aP<=64){aeH acU:Nat->Addr}{sQ xG:Nat->Value}(a2:JL w ur qn rB aeH sQ)(hl:JL w eT aT ci acU xG):
  Calls Tryz.prog 162 #[.slice ur qn rB,.slice eT aT ci,.int .i64 aP] w λe w'=>(aP<qn/\e=.returned (.tuple #[.slice ur qn rB,.int .i64 0,.int .i64 0])\/qn<=aP/\∃jp,e=.returned (.tuple #[jp,.int .i64 (min aT (aP-qn):Nat),.int .i64 0])/\uT w' w.heap.size (w.heap.size+1) ((List.range qn).map sQ++(List.range (min aT (aP-qn))).map xG).toArray (qn+min aT (aP-qn)) jp)/\uL w w' w.heap.size (w.heap.size+1):=by
 have LI:¬(aP:Int)<1:=J;have zQ:¬(64:Int)<(aP:Int):=J;refine calls_of_loneTo λcs => ?_;have e:Frame.enter Tryz.prog 162 #[.slice ur qn rB,.slice eT aT ci,.int .i64 aP] .normal=(base 162).at ⟨#[.slice ur qn rB,.slice eT aT ci,.int .i64 aP,undef,undef,undef,undef,undef,undef,undef,undef,undef,undef,undef,undef,undef,undef,undef,undef,undef,undef,undef,undef,undef,undef,undef,undef,undef,undef,undef,undef,undef,undef],[]⟩ [.code (Tryz.f162.body.getD .skip)]:=by simp[Frame.enter,Frame.at,Tryz.func162,base,Tryz.f162]
 rw[e];refine LoneTo.goes (n:=30) ?_;simp only[Tryz.f162,p']
 s_c stepG_seq
 s_reg
 s_op
 s_op
 s_op
 s_c stepG_region_end
 s_c stepG_seq
 s_c stepG_seq
 s_reg
 s_op
 s_op
 s_op
 s_op
 s_op
 s_op
 s_c stepG_region_end
 s_cond false
 s_c stepG_skip
 s_c stepG_seq
 s_reg
 s_op
 s_in
 refine goes_call rfl rfl bP rfl Tryz.func222 (by kernel_rfl) rfl ⟨trivial,?_⟩
 walk_nrmf Tryz.f222
 s_stop
 have ss:Frame.enter Tryz.prog 222 #[.int .i64 aP] .normal=(base 222).at ⟨#[.int .i64 aP,undef,undef,undef,undef,undef],[]⟩ [.code (Tryz.f222.body.getD .skip)]:=by simp[Frame.enter,Frame.at,Tryz.func222,base,Tryz.f222]
 simp only[Tryz.f222,p']at ss;rw[<- ss];refine Dh (ajk CM) (λe w' h=>⟨_,h.1⟩) (λv cf h => ?_);obtain⟨aC,eS,ei,jy,nM,qd,r5⟩:=h;cases aC;rw[Frame.finish_at]
 walk_nrm
 refine LoneTo.goes (n:=30) ?_
 s_op
 s_op
 s_c stepG_region_end
 s_c stepG_seq
 s_c stepG_seq
 s_reg
 s_op
 s_op
 s_stop
 have q_:(cf.alloc (.cells #[.chan (some (w.heap.size+1))] 324)).heap[w.heap.size+2]?=some (.cells #[.chan (some (w.heap.size+1))] 324):=by have:=heap_alloc_new cf (.cells #[.chan (some (w.heap.size+1))] 324);rw[nM]at this;exact this
 have Gy:∃s r,(cf.alloc (.cells #[.chan (some (w.heap.size+1))] 324)).heap[w.heap.size+1]?=some (.chan aP #[] false s r false):=⟨0,0,by rw[heap_alloc_old _ _ J];exact r5⟩;have ni:uL w (cf.alloc (.cells #[.chan (some (w.heap.size+1))] 324)) w.heap.size (w.heap.size+1):=⟨eS,ei,jy,by rw[iv];omega,λb Y _=>by rw[heap_alloc_old _ _ J];exact qd b Y⟩;have pI:(cf.alloc (.cells #[.chan (some (w.heap.size+1))] 324)).heap.size=w.heap.size+3:=by rw[iv];omega
 generalize cf.alloc (.cells #[.chan (some (w.heap.size+1))] 324)=cO at q_ Gy ni pI;have agH:∀{a:Option Addr} {n gz:Nat} {h5:Nat->Addr} {val:Nat->Value} (Om:World),JL w a n gz h5 val->uL w Om w.heap.size (w.heap.size+1)->(∀i,i<n->Om.cell? (h5 i)=some (val i))/\∀i,i<n->(h5 i).block<Om.heap.size/\(h5 i).block≠w.heap.size+1:=by intro a n gz h5 val Om ac ap;refine⟨λi hi => ?_,λi hi=>⟨hU (ac.low i hi) ap.size,by have:=ac.low i hi;omega⟩⟩;rw[<- ac.cell i hi];exact YB (ap.other _ (ac.low i hi) (by have:=ac.low i hi;omega))
 refine LoneTo.goes (n:=3) ?_
 s_in
 refine goes_call rfl rfl bP rfl Tryz.func223 (by kernel_rfl) rfl ⟨trivial,?_⟩
 walk_nrmf Tryz.f223
 s_stop
 have tR:Frame.enter Tryz.prog 223 #[.agg #[.chan (some (w.heap.size+1))],.slice ur qn rB] .normal=(base 223).at ⟨#[.agg #[.chan (some (w.heap.size+1))],.slice ur qn rB,undef,undef,undef,undef,undef,undef,undef,undef,undef,undef,undef,undef,undef,undef,undef,undef,undef,undef,undef,undef],[]⟩ [.code (Tryz.f223.body.getD .skip)]:=by simp[Frame.enter,Frame.at,Tryz.func223,base,Tryz.f223]
 simp only[Tryz.f223,p']at tR;rw[<- tR];have j?:=agH cO a2 ni;refine Dh (ZP Gy a2.bE (fI _) a2.ix j?.1 j?.2) (λe w' h=>⟨_,h.1⟩) (λv fi h => ?_);obtain⟨aC,tZ⟩:=h;cases aC;have fc:uL w fi w.heap.size (w.heap.size+1):=⟨tZ.os.trans ni.os,tZ.tape.trans ni.tape,tZ.output.trans ni.output,eZ ni.size tZ.size,λb Y eC=>(tZ.other b J eC).trans (ni.other b Y eC)⟩;have aa6:fi.heap[w.heap.size+2]?=some (.cells #[.chan (some (w.heap.size+1))] 324):=(tZ.other _ J J).trans q_;have azC:w.heap.size+3<=fi.heap.size:=by have:=tZ.size;omega
 have vj:fi.cell? ⟨w.heap.size+2,0,none⟩=some (.chan (some (w.heap.size+1))):=by simp[World.cell?,aa6]
 by_cases zJ:aP<qn
 .have hm:min qn (aP-(#[]:Array Value).size)=aP:=fs
  rw[hm,Frame.finish_at]
  walk_nrm
  refine LoneTo.goes (n:=30) ?_
  s_op
  s_op
  s_op
  s_c stepG_region_end
  s_cond true
  s_c stepG_seq
  s_reg
  s_op
  s_op
  s_op
  s_op
  s_c stepG_region_end
  s_c stepG_ret'
  s_stop
  exact LoneTo.done ⟨.returned (.tuple #[.slice ur qn rB,.int .i64 0,.int .i64 0]),_,rfl,⟨.inl ⟨zJ,rfl⟩,fc⟩,rfl,rfl,rfl,rfl,_,Tryz.func162,by simp[results,Tryz.f162,Frame.at]⟩
 have hm:min qn (aP-(#[]:Array Value).size)=qn:=fs;rw[hm]at tZ ⊢;rw[Frame.finish_at]
 walk_nrm
 have RY:#[]++((List.range qn).map sQ).toArray=((List.range qn).map sQ).toArray:=bh;rw[RY]at tZ;have apj:((List.range qn).map sQ).toArray.size=qn:=bh;refine LoneTo.goes (n:=30) ?_
 s_op
 s_op
 s_op
 s_c stepG_region_end
 s_cond false
 s_c stepG_skip
 s_c stepG_seq
 s_reg
 s_op
 s_op
 s_stop
 refine LoneTo.goes (n:=3) ?_
 s_in
 refine goes_call rfl rfl bP rfl Tryz.func223 (by kernel_rfl) rfl ⟨trivial,?_⟩
 walk_nrmf Tryz.f223
 s_stop
 have CU:Frame.enter Tryz.prog 223 #[.agg #[.chan (some (w.heap.size+1))],.slice eT aT ci] .normal=(base 223).at ⟨#[.agg #[.chan (some (w.heap.size+1))],.slice eT aT ci,undef,undef,undef,undef,undef,undef,undef,undef,undef,undef,undef,undef,undef,undef,undef,undef,undef,undef,undef,undef],[]⟩ [.code (Tryz.f223.body.getD .skip)]:=by simp[Frame.enter,Frame.at,Tryz.func223,base,Tryz.f223]
 simp only[Tryz.f223,p']at CU;rw[<- CU];have abA:=agH fi hl fc;refine Dh (ZP tZ.ch hl.bE J hl.ix abA.1 abA.2) (λe w' h=>⟨_,h.1⟩) (λv hq h => ?_);obtain⟨aC,nk⟩:=h;cases aC;rw[apj]at nk ⊢;have jD:uL w hq w.heap.size (w.heap.size+1):=⟨nk.os.trans fc.os,nk.tape.trans fc.tape,nk.output.trans fc.output,eZ fc.size nk.size,λb Y eC=>(nk.other b J eC).trans (fc.other b Y eC)⟩;have aph:hq.heap[w.heap.size+2]?=some (.cells #[.chan (some (w.heap.size+1))] 324):=(nk.other _ J J).trans aa6;have aqW:w.heap.size+3<=hq.heap.size:=by have:=nk.size;omega
 have azn:hq.cell? ⟨w.heap.size+2,0,none⟩=some (.chan (some (w.heap.size+1))):=by simp[World.cell?,aph]
 have hall:((List.range qn).map sQ).toArray++((List.range (min aT (aP-qn))).map xG).toArray=((List.range qn).map sQ++(List.range (min aT (aP-qn))).map xG).toArray:=bh;rw[hall]at nk;have Gr:((List.range qn).map sQ++(List.range (min aT (aP-qn))).map xG).toArray.size=qn+min aT (aP-qn):=bh;rw[Frame.finish_at]
 walk_nrm
 refine LoneTo.goes (n:=30) ?_
 s_op
 s_c stepG_region_end
 s_c stepG_seq
 s_reg
 s_op
 s_in
 refine goes_call rfl rfl bP rfl Tryz.func224 (by kernel_rfl) rfl ⟨trivial,?_⟩
 walk_nrmf Tryz.f224
 s_stop
 have abj:Frame.enter Tryz.prog 224 #[.agg #[.chan (some (w.heap.size+1))]] .normal=(base 224).at ⟨#[.agg #[.chan (some (w.heap.size+1))],undef,undef,undef,undef,undef,undef,undef,undef,undef,undef,undef,undef,undef,undef,undef,undef,undef],[]⟩ [.code (Tryz.f224.body.getD .skip)]:=by simp[Frame.enter,Frame.at,Tryz.func224,base,Tryz.f224]
 simp only[Tryz.f224,p']at abj;rw[<- abj];refine Dh (aiN nk.ch (by rw[Gr];omega) ?_) (λe w' h=>h.elim λjp h=>⟨jp,h.1⟩) (λv Bu h => ?_)
 .intro v aC
  simp only[List.mem_toArray,io,m1,ox]at aC;rcases aC with⟨i,hi,rfl⟩|⟨i,hi,rfl⟩
  .exact a2.sl i hi
  exact hl.sl i J
 obtain⟨jp,aC,aaV,GM⟩:=h;cases aC;rw[Gr]at aaV;rw[Frame.finish_at]
 walk_nrm
 refine LoneTo.goes (n:=30) ?_
 s_op
 s_op
 s_op
 s_op
 s_c stepG_region_end
 s_c stepG_ret'
 s_stop
 refine LoneTo.done ⟨.returned (.tuple #[v,.int .i64 (min aT (aP-qn):Nat),.int .i64 0]),_,rfl,⟨.inr ⟨J,v,rfl,?_⟩,?_⟩,rfl,rfl,rfl,rfl,_,Tryz.func162,by simp[results,Tryz.f162,Frame.at]⟩
 .obtain⟨b,gz,oD,eG,gr,sR,Ui,avs,Uj,aeJ,avt⟩:=aaV
  exact⟨b,gz,oD,eG,gr,sR,Ui,avs,Uj,J,avt⟩
 exact⟨GM.os.trans jD.os,GM.tape.trans jD.tape,GM.output.trans jD.output,eZ jD.size GM.size,λb Y eC=>(GM.other b J eC).trans (jD.other b Y eC)⟩
end Yp
namespace Yp
open Go Go.RowKit Go.Proofs
def JI:=@List.getElem_append_right
abbrev yq:ae:=.sl (.sl (.int .u8))
def agI{w:World}{X:Nat->Prop}{a:Option Addr}(O:l.length<=cap)(R:cap<=maxLen)
  (h:l=[]\/∃b o c el fz,a=some ⟨b,o,none⟩/\view w X b=some (.cells c el fz)/\o+l.length*(ae.sl (.int .u8)).size<=c.size/\∀(i:Nat) (x:V),hO l i=some x->aH (view w X) (.sl (.int .u8)) x (cH c (o+i*(ae.sl (.int .u8)).size) (ae.sl (.int .u8)).size)) :
  ∃h5 val,JL w a l.length cap h5 val/\∀i (hi:i<l.length),aH (view w X) (.sl (.int .u8)) (l[i]:V) [val i]:=by
 have bY:l.length<=9223372036854775807:=by unfold maxLen at R;omega
 rcases h with rfl|⟨b,o,c,el,fz,rfl,Y,cQ,d9⟩
 .exact⟨λ_=>⟨0,0,none⟩,λ_=>undef,⟨λi hi=>absurd hi (yO i),λi hi=>absurd hi (yO i),λi hi=>absurd hi (yO i),λi hi=>absurd hi (yO i),bY⟩,λi hi=>absurd hi (yO i)⟩
 have cQ:o+l.length<=c.size:=by have:(ae.sl (.int .u8)).size=1:=rfl;rw[this]at cQ;omega
 have hh:=(js.1 Y).2;have GJ:∀i,i<l.length->c[o+i]?=some (c[o+i]?.getD undef):=by intro i hi;rw[yW J];rfl
 have ah:∀i (hi:i<l.length),aH (view w X) (.sl (.int .u8)) (l[i]:V) [c[o+i]?.getD undef]:=by
  intro i hi;have:=d9 i l[i] (jN hi);have ac:cH c (o+i*(ae.sl (.int .u8)).size) (ae.sl (.int .u8)).size=[c[o+i]?.getD undef]:=by
   have e1:(ae.sl (.int .u8)).size=1:=rfl;rw[e1,mw];refine tf λj => ?_;by_cases an:j<1
   .obtain rfl:j=0:=J
    rw[uz an,te,GJ i hi];rfl
   rw[wC (by rw[pX J];omega),wC fs]
  rwa [ac]at this
 refine⟨λi=>⟨b,o+i,none⟩,λi=>c[o+i]?.getD undef,⟨λi hi cf => ?_,λi hi => ?_,λi _=>(ip.1 hh).1,λi hi => ?_,bY⟩,ah⟩
 .have:=Ik (P:=Tryz.prog) (e:=.sl (.int .u8)) (tid:=48) (sq 48 _ (by kernel_rfl)) (k:=.i64) (i:=(i:Int)) (n:=l.length) (cap:=cap) J J b o cf
  rw[this];have e1:(ae.sl (.int .u8)).size=1:=rfl;rw[e1,mw,i0]
 .show w.cell? ⟨b,o+i,none⟩=_
  simp only[World.cell?,hh];rw[GJ i hi];rfl
 obtain⟨a',ay9,aC,_⟩:=aH.ic.1 (ah i hi);exact⟨_,_,_,oz aC |>.1⟩
abbrev afH:eA:=⟨[.sl (.sl (.int .u8)),.sl (.sl (.int .u8)),.int .i64],[.im (.sl (.sl (.int .u8))),.im (.int .i64),.im (.int .i64)],H7⟩
def M5{w w':World}{X:Nat->Prop}(dg:∀b,X b->b<w.heap.size)(aqG:w'.os=w.os)(aq9:w'.tape=w.tape)(aqH:w'.output=w.output)(cQ:w.heap.size<=w'.heap.size)(hold:∀b,b<w.heap.size->w'.heap[b]?=w.heap[b]?){q:List V}{n m:Int}{v:Value}(aC:aH (view w' X) yq q [v]):
  ∃b2,Ending.returned (.tuple #[v,.int .i64 n,.int .i64 m])=.returned b2/\iu w X w' [.im yq,.im (.int .i64),.im (.int .i64)] (q,n,m,()) b2:=by
 refine⟨_,rfl,X,aqG,aq9,aqH,cQ,hold,λ_ _=>pm,λb h=>hU (dg b h) cQ,[v,.int .i64 n,.int .i64 m],?_,rfl⟩;exact⟨[v],_,rfl,aC,[.int .i64 n],_,rfl,aH.ia.2 rfl,[.int .i64 m],[],rfl,aH.ia.2 rfl,rfl⟩
def awv{w w':World}{X:Nat->Prop}(dg:∀b,X b->b<w.heap.size)(hold:∀b,b<w.heap.size->w'.heap[b]?=w.heap[b]?){q:List V}{vals:Array Value}{jp:Value}(jl:uT w' w.heap.size c vals q.length jp)
  (a2:∀i (hi:i<q.length),∃v,vals[i]?=some v/\aH (view w X) (.sl (.int .u8)) (q[i]:V) [v]):aH (view w' X) yq q [jp]:=by
 obtain⟨b,gz,oD,rfl,Y,GS,nZ,Gr,C5,LB,vj⟩:=jl;have bY:(view w X).cb (view w' X):=yu λb' o dS aK=>⟨dS,(hold b' (ip.1 aK).1).trans aK⟩;have e1:(ae.sl (.int .u8)).size=1:=rfl;refine aH.ic.2 ⟨some ⟨b,0,none⟩,gz,rfl,GS,nZ,.inr ⟨b,0,oD,23,(0,0),rfl,js.2 ⟨λh=>absurd (dg b h) J,Y⟩,?_,λi x hx => ?_⟩⟩
 .show 0+q.length*1<=oD.size
  omega
 obtain⟨hi,rfl⟩:=mt.1 hx;have hi:i<q.length:=hi;obtain⟨v,aC,ah⟩:=a2 i hi;have ac:cH oD (0+i*(ae.sl (.int .u8)).size) (ae.sl (.int .u8)).size=[v]:=by
  rw[e1,mw,jw];refine tf λj => ?_;by_cases an:j<1
  .obtain rfl:j=0:=J
   rw[uz an,te,C5 i hi,aC];rfl
  rw[wC (by rw[pX J];omega),wC fs]
 rw[ac];exact ah.mono bY
def auY{w:World}{X:Nat->Prop}(dg:∀b,X b->b<w.heap.size)(q l:List V)(g7:Int){r:List V×Int×Int×Unit}{FJ q6:List Value}(a2:aH (view w X) yq q FJ)(hl:aH (view w X) yq l q6)(ah:H7 (q,l,g7,())=some r):
  Calls Tryz.prog 162 #[cv yq FJ,cv yq q6,.int .i64 g7] w λe w'=>∃b2,e=.returned b2/\iu w X w' [.im yq,.im (.int .i64),.im (.int .i64)] r b2:=by
 have Sw:=a2;obtain⟨ur,rB,rfl,bG,b_,cp⟩:=aH.ic.1 a2;obtain⟨eT,ci,rfl,eW,f7,oS⟩:=aH.ic.1 hl;obtain⟨aeH,sQ,axy,jZ⟩:=agI (l:=q) bG b_ cp;obtain⟨acU,xG,sl,awl⟩:=agI (l:=l) eW f7 oS;unfold H7 at ah;dsimp only at ah;show Calls Tryz.prog 162 #[.slice ur q.length rB,.slice eT l.length ci,.int .i64 g7] w _;by_cases O:g7<1
 .rw[if_pos (.inl O)]at ah
  obtain rfl:=lZ ah;refine(auX O).mono λe w' h => ?_;obtain⟨rfl,rfl⟩:=h;exact M5 dg rfl rfl rfl (bU _) (λ_ _=>rfl) Sw
 by_cases R:64<g7
 .rw[if_pos (.inr R)]at ah
  obtain rfl:=lZ ah;refine(auW O R).mono λe w' h => ?_;obtain⟨rfl,rfl⟩:=h;exact M5 dg rfl rfl rfl (bU _) (λ_ _=>rfl) Sw
 rw[if_neg J]at ah;obtain⟨aP,rfl⟩:∃aP:Nat,g7=aP:=⟨g7.toNat,J⟩;refine(auZ J J axy sl).mono λe w' h => ?_;obtain⟨h,ap⟩:=h;have hold:∀b,b<w.heap.size->w'.heap[b]?=w.heap[b]?:=λb Y=>ap.other b Y J;have bY:(view w X).cb (view w' X):=yu λb' o dS aK=>⟨dS,(hold b' (ip.1 aK).1).trans aK⟩;rcases h with⟨bm,rfl⟩|⟨n0,jp,rfl,jl⟩
 .rw[if_pos J]at ah
  obtain rfl:=lZ ah;exact M5 dg ap.os ap.tape ap.output ap.size hold (Sw.mono bY)
 rw[if_neg J,i0]at ah;obtain rfl:=lZ ah;rw[Nat.min_comm (aP-q.length) l.length];have cr:(q++l.take (aP-q.length):List V).length=q.length+min l.length (aP-q.length):=by rw[cG,hE,Nat.min_comm]
 refine M5 dg ap.os ap.tape ap.output ap.size hold (awv dg hold (c:=w.heap.size+1) (vals:=((List.range q.length).map sQ++(List.range (min l.length (aP-q.length))).map xG).toArray) (by rw[cr];exact jl) λi hi => ?_);by_cases Lz:i<q.length
 .refine⟨sQ i,?_,?_⟩
  .rw[wF,EU (by simpa using Lz)]
   simp[Lz]
  rw[List.getElem_append_left Lz];exact jZ i Lz
 have an:i-q.length<min l.length (aP-q.length):=J;refine⟨xG (i-q.length),?_,?_⟩
 .rw[wF,BL fs]
  simp[an]
 rw[JI J,OC];exact awl _ J
def aoV:fG Tryz.prog 162 afH:=by refine⟨⟨Tryz.f162,Tryz.func162,by kernel_rfl,by kernel_rfl⟩,?_⟩;intro w X x vs r dg kP bu ah;obtain⟨q,l,g7,⟨⟩⟩:=x;obtain⟨FJ,ahy,rfl,a2,q6,mX,rfl,hl,KB,ayu,rfl,aqV,rfl⟩:=bu;obtain rfl:=aH.ia.1 aqV;exact auY dg q l g7 a2 hl ah
end Yp
namespace Yp
open Go
def U?(x:V×V×Unit):Option (Int×Unit):=match x.2.1 with
 |[c]=>some ((x.1.count c:Nat),())
 |_=>none
def NS(x:V×V×Unit):Option (Int×Unit):=match x.2.1 with
 |[c]=>some (Lib.indexByte x.1 c,())
 |_=>none
def NT(x:List V×V×Unit):Option (V×Unit):=
 if x.1.length<=140737488355328/\(x.2.1.intercalate x.1).length<=140737488355328 then some (x.2.1.intercalate x.1,()) else none
def u?: Nat->Int×Unit->Option (V×Unit)
 |0,_=>none
 |k+1,x=>ob (mD (dh x.1 10,1,())) λa:V×Int×Unit=>
  T (aJ x.1 10) (some (a.1,())) (ob (u? k (i64 (fe x.1 10),())) λb:V×Unit=>am (bE (av (len b.1) (len a.1)) 140737488355328) (some (bv b.1 a.1,())))
def Et(x:Int×Unit):Option (V×Unit):=u? 20 x
abbrev ahT:List V:=[[115,101,110,100],[111,110],[111,102,102],[101,99,104,111],[107,101,121],[100,97,121],[116,105,99,107],[103,105,118,101],[100,114,111,112],[97,103,97,105,110],[115,112,111,105,108],[105,110,106,101,99,116],[114,97,105,115,101],[99,117,116],[99,114,97,115,104],[98,111,111,116],[97,114,109],[99,97,108,109]]
abbrev yF:List V:=[[105,98],[105],[105],[105],[105,98],[105,110],[105],[110,109],[110],[110],[110,109,98],[105,110,98],[110],[110],[105],[105],[105,110],[110]]
def Va(x:V×V×Int×Int×Unit):Option (s3):=letI k:=x.2.2.2.1;T (ag k 0) (some (aO V,())) (T (seq x.2.1 (aO UInt8)) none (ob (T (aJ k 0) (ob (U? (x.1,x.2.1,())) λ(a:c9)=>some (i64 (av a.1 1),())) (some (k,()))) λ(a:c9)=>letI c:=fC a.1 (i64 (av (len x.1) 1));am (cZ (ca 0 c c) (cB 32 (aa c))) (ci (bN (λ(ab:Vt)=>letI l:=ab.2.2.1;letI h:=ab.2.1;letI b:Option (aE Vt s3):=some (aE.ex 0 (ab.1,h,l,()));letI d:=len ab.1;T (aJ h (i64 (bi c 1))) (ob (NS (ab.1,x.2.1,())) λ(a:c9)=>letI f:=i64 (av a.1 (len x.2.1));letI g:=i64 (av a.1 x.2.2.1);T (aJ a.1 0) b (am (ca 0 g d) (am (aU h (len l)) (am (ca f d d) (some (aE.nx (sub ab.1 f d,i64 (av h 1),cj l (aa h) (sub ab.1 0 g),()))))))) b) (x.1,0,bO (aa c) (aO UInt8),())) (λ(a:Vt)=>none) (λ(i:Nat) (a:Vt)=>letI e:=cj a.2.2.1 (aa a.2.1) a.1;letI j:=i64 (av a.2.1 1);am (bZ i 0) (am (aU a.2.1 (len a.2.2.1)) (am (ca 0 j (len e)) (some (cut e (aa 0) (cd (aa j) (aa 0)),()))))) λ(r:s3)=>some r)))
def Eh(x:Ek):Option (s3):=ob (Va (x.1,x.2.1,0, -1,())) λ(a:s3)=>some (a.1,())
def p2(x:cw):Option (iZ):=ob (r9 (x.1,())) λ(a:fU)=>letI b:=some (a.1,false,());ob (T (ag a.2.1 0) (T (bE a.1 x.2.1) (T (seq x.1 [48]) (some (a.1,true,())) (am (aU 0 (len x.1)) (some (a.1,a_ (ag (aI (ak x.1 (aa 0) (u8 0))) (aI (u8 48))),())))) b) b) λ(a:iZ)=>some (a.1,a.2.1,())
def Es(x:co):Option (oi):=ob (Cn (x.1,())) λ(a:cw)=>letI b:=some (a.1,false,());T (ag a.2.1 0) (T (bE 2 (len x.1)) (some (a.1,bE (len x.1) 1800,())) b) b
def yo(x:gv×Int×V×Unit):Option (tk):=letI b:Option iZ:=p2 (x.2.2.1,999999,());letI c:=x.1.2;T (ag x.2.1 105) (ob (p2 (x.2.2.1,1,())) λ(a:iZ)=>T a.2.1 (some ((x.1.1,a.1,c.2),a.2.1,())) (some (x.1,a.2.1,()))) (T (ag x.2.1 110) (ob b λ(a:iZ)=>T a.2.1 (some ((x.1.1,c.1,a.1,c.2.2),a.2.1,())) (some (x.1,a.2.1,()))) (T (ag x.2.1 109) (ob b λ(a:iZ)=>T a.2.1 (some ((x.1.1,c.1,c.2.1,a.1,c.2.2.2),a.2.1,())) (some (x.1,a.2.1,()))) (ob (Es (x.2.2.1,())) λ(a:oi)=>T a.2.1 (some ((x.1.1,c.1,c.2.1,c.2.2.1,a.1,c.2.2.2.2),a.2.1,())) (some (x.1,a.2.1,())))))
def p1(x:co):Option (tk):=ob (Eh (x.1,[32],())) λ(a:s3)=>letI b:=ak a.1 (aa 0) (aO UInt8);letI d:=len a.1;am (aU 0 d) (ob (T (ag (T (seq b [115,101,110,100]) ((0:Int),[105,98],()) (T (seq b [111,110]) (1,[105],()) (T (seq b [111,102,102]) (2,[105],()) (T (seq b [101,99,104,111]) (3,[105],()) (T (seq b [107,101,121]) (4,[105,98],()) (T (seq b [100,97,121]) (5,[105,110],()) (T (seq b [116,105,99,107]) (6,[105],()) (T (seq b [103,105,118,101]) (7,[110],()) (T (seq b [100,114,111,112]) (8,[110],()) (T (seq b [97,103,97,105,110]) (9,[110],()) (T (seq b [115,112,111,105,108]) (10,[110,109,98],()) (T (seq b [105,110,106,101,99,116]) (11,[105,110,98],()) (T (seq b [114,97,105,115,101]) (12,[110],()) (T (seq b [99,117,116]) (13,[110],()) (T (seq b [99,114,97,115,104]) (14,[105],()) (T (seq b [98,111,111,116]) (15,[105],()) (T (seq b [97,114,109]) (16,[105,110],()) (T (seq b [99,97,108,109]) (17,[110],()) j1)))))))))))))))))).1 7) (some (ag d 3,())) (some (false,()))) λ(a6:aV)=>ob (T a6.1 (some ([110,109],())) (some ((T (seq b [115,101,110,100]) ((0:Int),[105,98],()) (T (seq b [111,110]) (1,[105],()) (T (seq b [111,102,102]) (2,[105],()) (T (seq b [101,99,104,111]) (3,[105],()) (T (seq b [107,101,121]) (4,[105,98],()) (T (seq b [100,97,121]) (5,[105,110],()) (T (seq b [116,105,99,107]) (6,[105],()) (T (seq b [103,105,118,101]) (7,[110],()) (T (seq b [100,114,111,112]) (8,[110],()) (T (seq b [97,103,97,105,110]) (9,[110],()) (T (seq b [115,112,111,105,108]) (10,[110,109,98],()) (T (seq b [105,110,106,101,99,116]) (11,[105,110,98],()) (T (seq b [114,97,105,115,101]) (12,[110],()) (T (seq b [99,117,116]) (13,[110],()) (T (seq b [99,114,97,115,104]) (14,[105],()) (T (seq b [98,111,111,116]) (15,[105],()) (T (seq b [97,114,109]) (16,[105,110],()) (T (seq b [99,97,108,109]) (17,[110],()) j1)))))))))))))))))).2.1,()))) λ(bR:co)=>ob (T (a_ (T (seq b [115,101,110,100]) true (T (seq b [111,110]) true (T
 (seq b [111,102,102]) true (T (seq b [101,99,104,111]) true (T (seq b [107,101,121]) true (T (seq b [100,97,121]) true (T (seq b [116,105,99,107]) true (T (seq b [103,105,118,101]) true (T (seq b [100,114,111,112]) true (T (seq b [97,103,97,105,110]) true (T (seq b [115,112,111,105,108]) true (T (seq b [105,110,106,101,99,116]) true (T (seq b [114,97,105,115,101]) true (T (seq b [99,117,116]) true (T (seq b [99,114,97,115,104]) true (T (seq b [98,111,111,116]) true (T (seq b [97,114,109]) true (T (seq b [99,97,108,109]) true false))))))))))))))))))) (some (true,())) (some (a_ (ag d (i64 (av 1 (len bR.1)))),()))) λ(bS:aV)=>T bS.1 (some (om,false,())) (ci (bN (λ(x:OY)=>letI c:=x.2.2.1;letI e:=i64 (av (bf c) 1);T (i7 c (aT bR.1)) (am (aU e d) (ob (yo (x.2.1,bf (gA bR.1 c).1,ak a.1 (aa e) (aO UInt8),())) λ(a:tk)=>T (a_ a.2.1) (some (aE.rt (om,false,()))) (some (aE.nx (x.1,a.1,bQ c (gA bR.1 c).2,()))))) (some (aE.ex 0 (x.1,x.2.1,c,())))) (false,((T (seq b [115,101,110,100]) ((0:Int),[105,98],()) (T (seq b [111,110]) (1,[105],()) (T (seq b [111,102,102]) (2,[105],()) (T (seq b [101,99,104,111]) (3,[105],()) (T (seq b [107,101,121]) (4,[105,98],()) (T (seq b [100,97,121]) (5,[105,110],()) (T (seq b [116,105,99,107]) (6,[105],()) (T (seq b [103,105,118,101]) (7,[110],()) (T (seq b [100,114,111,112]) (8,[110],()) (T (seq b [97,103,97,105,110]) (9,[110],()) (T (seq b [115,112,111,105,108]) (10,[110,109,98],()) (T (seq b [105,110,106,101,99,116]) (11,[105,110,98],()) (T (seq b [114,97,105,115,101]) (12,[110],()) (T (seq b [99,117,116]) (13,[110],()) (T (seq b [99,114,97,115,104]) (14,[105],()) (T (seq b [98,111,111,116]) (15,[105],()) (T (seq b [97,114,109]) (16,[105,110],()) (T (seq b [99,97,108,109]) (17,[110],()) j1)))))))))))))))))).1,0,0,0,aO UInt8,()),0,())) (λ(a:OY)=>none) (λ(i:Nat) (a:OY)=>am (bZ i 0) (some (a.2.1,true,()))) λ(r:tk)=>some r))
def Be(x:rH):Option (co):=ci (bN (λ(ab:IZ)=>letI b:=ab.2.1;T (aJ b (len x.1)) (am (aU b (len x.1)) (ob (Et (ak x.1 (aa b) 0,())) λ(a:co)=>am (cB 32 (bQ (aT ab.1) (aT [a.1]))) (some (aE.nx (bv ab.1 [a.1],i64 (av b 1),()))))) (some (aE.ex 0 (ab.1,b,())))) (aO V,0,())) (λ(a:IZ)=>none) (λ(i:Nat) (a:IZ)=>am (bZ i 0) (ob (NT (a.1,[32],())) λ(a:co)=>some (a.1,()))) λ(r:co)=>some r
def ML(x:c9):Option (co):=ob (T (aJ x.1 0) (some (true,())) (some (bE 9 x.1,()))) λ(a:aV)=>T a.1 (some (aO UInt8,())) (am (aU x.1 (bf 9)) (some (ak [[111,102,102],[97,115,107,101,100],[116,111,108,100],[111,112,101,110],[114,101,107,101,121],[99,117,116,116,105,110,103],[99,108,111,115,105,110,103],[102,97,105,108,101,100],[100,97,114,107]] (aa x.1) (aO UInt8),())))
def Eu(x:BR):Option (co):=letI b:=x.1.2.2.2.2.2;letI d:=b.2.2.2.2.2;ob (ML (x.1.2.2.1,())) λ(a:co)=>letI c:=bv a.1 [32];am (bE (av (len a.1) (len [32])) 140737488355328) (ob (Be ([b.1,b.2.1,d.1.1.1,d.2.2.2.1,len d.2.2.2.2.1],())) λ(a6:co)=>am (bE (av (len c) (len a6.1)) 140737488355328) (am (bE (av (len (bv c a6.1)) (len [10])) 140737488355328) (some (bv (bv c a6.1) [10],()))))
def VL(x:Bd):Option (co):=ci (bN (λ(ab:cw)=>letI d:=ab.2.1;letI c:=aa d;T (aJ d (len x.1)) (am (aU d (len x.1)) (ob (Cm ((ak x.1 c (0,[0,0],0,aO UInt8,())).2.2.2.1,())) λ(a:co)=>ob (T (seq a.1 (aO UInt8)) (some ([45],())) (some (a.1,()))) λ(a:co)=>am (aU 0 (bf 2)) (am (aU 1 (bf 2)) (ob (Be ([(ak x.1 c (0,[0,0],0,aO UInt8,())).1,ak (ak x.1 c (0,[0,0],0,aO UInt8,())).2.1 (aa 0) 0,ak (ak x.1 c (0,[0,0],0,aO UInt8,())).2.1 (aa 1) 0,(ak x.1 c (0,[0,0],0,aO UInt8,())).2.2.1],())) λ(a6:co)=>letI e:=bv a6.1 [32];letI b:=bv e a.1;am (bE (av (len a6.1) (len [32])) 140737488355328) (am (bE (av (len e) (len a.1)) 140737488355328) (am (bE (av (len b) (len [10])) 140737488355328) (am (bE (av (len ab.1) (len (bv b [10]))) 140737488355328) (some (aE.nx (bv ab.1 (bv b [10]),i64 (av d 1),())))))))))) (some (aE.ex 0 (ab.1,d,())))) (aO UInt8,0,())) (λ(a:cw)=>none) (λ(i:Nat) (a:cw)=>am (bZ i 0) (am (bE (av (len a.1) (len [111,107,10])) 140737488355328) (some (bv a.1 [111,107,10],())))) λ(r:co)=>some r
def qR(x:Jd):Option (Jd):=letI b:=aO (Int×List Int×Int×V×Unit);letI c:=x.2.1;letI d:=x.1.2.2;letI e:=aU 0 (bf 2);letI f:=aU 1 (bf 2);T (seq c [115,104,111,119,32,48]) (am e (ob (Eu (ak x.1.1 (aa 0) p8,())) λ(a:co)=>some (x.1,a.1,()))) (T (seq c [115,104,111,119,32,49]) (am f (ob (Eu (ak x.1.1 (aa 1) p8,())) λ(a:co)=>some (x.1,a.1,()))) (T (seq c [108,111,103,32,48]) (am e (ob (VL (ak d.2.2.1 (aa 0) b,())) λ(a:co)=>some (x.1,a.1,()))) (T (seq c [108,111,103,32,49]) (am f (ob (VL (ak d.2.2.1 (aa 1) b,())) λ(a:co)=>some (x.1,a.1, ()))) (T (seq c [110,101,116]) (ob (Be ([len d.1,len d.2.1],())) λ(a:co)=>am (bE (av (len a.1) (len [10])) 140737488355328) (some (x.1,bv a.1 [10],()))) (ob (p1 (c,())) λ(a:tk)=>T (a_ a.2.1) (some (x.1,[119,104,97,116,10],())) (ob (Ji (x.1,a.1,())) λ(a:EB)=>T (a_ (ag a.2.1 0)) (ob (Et (a.2.1,())) λ(a6:co)=>am (bE (av (len [101,114,114,111,114,32]) (len a6.1)) 140737488355328) (am (bE (av (len (bv [101,114,114,111,114,32] a6.1)) (len [10])) 140737488355328) (some (a.1,bv (bv [101,114,114,111,114,32] a6.1) [10],())))) (some (a.1,[111,107,10],()))))))))
def Er(x:Unit):Option (yw):=am (cZ (ca 0 32 32) (cB 1 (aa 32))) (ob (Jh (bO (aa 32) (u8 0),false,())) λ(a:EB)=>some (a.1,()))
def I7(x:co):Option (co):=letI c:=aO UInt8;ob (Er ()) λ(a:yw)=>ob (Eh (x.1,[10],())) λ(a6:s3)=>ci (bN (λ(x:V9)=>letI b:=x.2.1;T (aJ b (len a6.1)) (am (aU b (len a6.1)) (T (seq (ak a6.1 (aa b) c) c) (some (aE.nx (x.1,i64 (av b 1),x.2.2.1,()))) (ob (qR (x.2.2.1,ak a6.1 (aa b) c,())) λ(a:Jd)=>am (bE (av (len x.1) (len a.2.1)) 140737488355328) (some (aE.nx (bv x.1 a.2.1,i64 (av b 1),a.1,())))))) (some (aE.ex 0 (x.1,b,x.2.2.1,())))) (aO UInt8,0,a.1,())) (λ(a:V9)=>none) (λ(i:Nat) (a:V9)=>am (bZ i 0) (some (a.1,()))) λ(r:co)=>some r
def Hu(x:Unit):Option (aV):=letI b:Option aV:=some (false,());ob (Er ()) λ(a:yw)=>ob (qR (a.1,[114,97,105,115,101,32,48],())) λ(a:Jd)=>ob (qR (a.1,[114,97,105,115,101,32,48,48],())) λ(a6:Jd)=>ob (p1 ([103,105,118,101,32,51,32,52],())) λ(bR:tk)=>ob (p1 ([103,105,118,101],())) λ(bS:tk)=>ob (I7 ([114,97,105,115,101,32,48,10,111,110,32,48,10,99,97,108,109,32,52,10,115,104,111,119,32,49,10],())) λ(dm:co)=>ob (T (seq dm.1 [111,107,10,111,107,10,111,107,10,111,112,101,110,32,49,32,49,32,49,32,48,32,48,10]) (T (seq a.2.1 [111,107,10]) (T (seq a6.2.1 [119,104,97,116,10]) (T bR.2.1 (T (ag bR.1.1 7) (T (ag bR.1.2.2.1 3) (T (ag bR.1.2.2.2.1 4) (some (a_ bS.2.1,())) b) b) b) b) b) b) b) λ(a:aV)=>some (a.1,())
def vJ(x:c9):Option (co):=ci (bN (λ(x:cw)=>letI b:=i64 (av 48 (dh x.2.1 10));T (aJ 9 x.2.1) (am (bE (av (len [u8 b]) (len x.1)) 140737488355328) (some (aE.nx (bv [u8 b] x.1,i64 (fe x.2.1 10),())))) (some (aE.ex 0 (x.1,x.2.1,())))) (aO UInt8,x.1,())) (λ(a:cw)=>none) (λ(i:Nat) (a:cw)=>letI c:=i64 (av 48 a.2.1);am (bZ i 0) (am (bE (av (len [u8 c]) (len a.1)) 140737488355328) (some (bv [u8 c] a.1,())))) λ(r:co)=>some r
def L9(x:(UInt8×Bool×UInt32×UInt32×V×Unit)×Unit):Option (aV):=letI u:=i64 (aI x.1.1);letI e:=dh u 18;letI b:Option aV:=some (false,());letI c:=ak yF (aa e) (aO UInt8);letI k:=aS (u32 1000000);letI l:=x.1.2.2;letI m:=aS (u32 (dh (aS l.2.1) k));letI o:=aS (u32 (dh (aS l.1) k));letI s:=len [32];letI t:=l.2.2.1;letI v:=aU e (len yF);ob (Hu ()) λ(a:aV)=>ob (T (aJ (len t) 1) (some (true,())) (some (aJ 900 (len t),()))) λ(a6:aV)=>T a6.1 (some (a.1,())) (am (aU e (len ahT)) (ci (bN (λ(ab:O0)=>letI q:=ab.2.1;letI d:=ab.2.2.1;letI f:=bE (av (len ab.1) s) 140737488355328;letI g:=aI (ak c (aa q) (u8 0));letI h:=bv ab.1 [32];letI j:=av q 1;letI p:=d.2.2;am v (T (aJ q (len c)) (am v (am (aU q (len c)) (T (ag g (aI (u8 105))) (am (bE (av (len ab.1) (len [32,48])) 140737488355328) (T x.1.2.1 (am (ca 0 (i64 (bi (len (bv ab.1 [32,48])) 1)) (len (bv ab.1 [32,48]))) (am (bE (av (len (sub (bv ab.1 [32,48]) 0 (i64 (bi (len (bv ab.1 [32,48])) 1)))) (len [49])) 140737488355328) (some (aE.nx (bv (sub (bv ab.1 [32,48]) 0 (i64 (bi (len (bv ab.1 [32,48])) 1))) [49],i64 j,(d.1,1,p),()))))) (some (aE.nx (bv ab.1 [32,48],i64 j,d,()))))) (T (ag g (aI (u8 110))) (am f (ob (vJ (i64 o,())) λ(a:co)=>am (bE (av (len h) (len a.1)) 140737488355328) (some (aE.nx (bv h a.1,i64 j,(d.1,d.2.1,i64 o,p.2),()))))) (T (ag g (aI (u8 109))) (am f (ob (vJ (i64 m,())) λ(a:co)=>am (bE (av (len h) (len a.1)) 140737488355328) (some (aE.nx (bv h a.1,i64 j,(d.1,d.2.1,p.1,i64 m,p.2.2),()))))) (T (ag g (aI (u8 98))) (am f (ob (DU (t,())) λ(a:co)=>am (bE (av (len h) (len a.1)) 140737488355328) (some (aE.nx (bv h a.1,i64 j,(d.1,d.2.1,p.1,p.2.1,t,p.2.2.2),()))))) (some (aE.nx (ab.1,i64 j,d,()))))))))) (some (aE.ex 0 (ab.1,q,d,()))))) (ak ahT (aa e) (aO UInt8),0,(dh u 18,0,0,0,aO UInt8,()),())) (λ(a:O0)=>none) (λ(i:Nat) (bR:O0)=>letI n:=bR.2.2.1;am (bZ i 0) (ob (p1 (bR.1,())) λ(bS:tk)=>letI w:=bS.1.2;am (bE (av (len bR.1) s) 140737488355328) (ob (p1 (bv bR.1 [32],()))
 λ(dm:tk)=>am (bE (av s (len bR.1)) 140737488355328) (ob (p1 (bv [32] bR.1,())) λ(j5:tk)=>ob (T a.1 (T bS.2.1 (T (a_ dm.2.1) (T (a_ j5.2.1) (T (ag bS.1.1 n.1) (T (ag w.1 n.2.1) (T (ag w.2.1 n.2.2.1) (T (ag w.2.2.1 n.2.2.2.1) (ob (M0 (w.2.2.2.1,n.2.2.2.2.1,())) λ(a:aV)=>some (a.1,())) b) b) b) b) b) b) b) b) λ(a:aV)=>some (a.1,()))))) λ(r:aV)=>some r))
end Yp
namespace Go.Proofs
open Go.Shelf
def Tryz.acI:Go.Shelf.Ren:=⟨fun|156=>29|165=>39|166=>40|169=>41|240=>58|241=>59|276=>78|277=>79|n=>n,fun|31=>27|9=>9|3=>3|4=>4|0=>0|20=>20|72=>124|76=>128|70=>122|37=>23|75=>127|127=>141|164=>159|5=>5|80=>130|n=>n,fun|n=>n⟩
def Tryz.acH:Go.Proofs.Lays.n156 Tryz.prog Tryz.acI:={
 mixed:=by kernel_rfl
 f156:=Tryz.func29.trans (congrArg some (by kernel_rfl))
 f165:=Tryz.func39.trans (congrArg some (by kernel_rfl))
 f166:=Tryz.func40.trans (congrArg some (by kernel_rfl))
 f169:=Tryz.func41.trans (congrArg some (by kernel_rfl))
 f240:=Tryz.func58.trans (congrArg some (by kernel_rfl))
 f241:=Tryz.func59.trans (congrArg some (by kernel_rfl))
 f276:=Tryz.func78.trans (congrArg some (by kernel_rfl))
 f277:=Tryz.func79.trans (congrArg some (by kernel_rfl))
 t0:=Tryz.underlying0
 a0:=Tryz.isAgg0
 z0:=Tryz.sizeOf0
 v0:=Tryz.zeroValue0
 t3:=Tryz.underlying3
 a3:=Tryz.isAgg3
 z3:=Tryz.sizeOf3
 v3:=Tryz.zeroValue3
 t4:=Tryz.underlying4
 a4:=Tryz.isAgg4
 z4:=Tryz.sizeOf4
 v4:=Tryz.zeroValue4
 t9:=Tryz.underlying9
 a9:=Tryz.isAgg9
 z9:=Tryz.sizeOf9
 v9:=Tryz.zeroValue9
 t20:=Tryz.underlying20
 a20:=Tryz.isAgg20
 z20:=Tryz.sizeOf20
 v20:=Tryz.zeroValue20
 t31:=Tryz.underlying27
 a31:=Tryz.isAgg27
 z31:=Tryz.sizeOf27
 v31:=Tryz.zeroValue27
 t37:=Tryz.underlying23
 a37:=Tryz.isAgg23
 z37:=Tryz.sizeOf23
 v37:=Tryz.zeroValue23
 t70:=Tryz.underlying122
 a70:=Tryz.isAgg122
 z70:=Tryz.sizeOf122
 v70:=Tryz.zeroValue122
 t72:=Tryz.underlying124
 a72:=Tryz.isAgg124
 z72:=Tryz.sizeOf124
 v72:=Tryz.zeroValue124
 t75:=Tryz.underlying127
 a75:=Tryz.isAgg127
 z75:=Tryz.sizeOf127
 v75:=Tryz.zeroValue127
 t76:=Tryz.underlying128
 a76:=Tryz.isAgg128
 z76:=Tryz.sizeOf128
 v76:=Tryz.zeroValue128
 t127:=Tryz.underlying141
 a127:=Tryz.isAgg141
 z127:=Tryz.sizeOf141
 v127:=Tryz.zeroValue141
 t164:=Tryz.underlying159
 a164:=Tryz.isAgg159
 z164:=Tryz.sizeOf159
 v164:=Tryz.zeroValue159 }
def Tryz.Wr:Builder.Extra Tryz.prog Tryz.acI:={
 sizeBuilder:=by kernel_rfl
 liesBuilder:=by kernel_rfl
 t5:=Tryz.underlying5
 a5:=Tryz.isAgg5
 z5:=Tryz.sizeOf5
 v5:=Tryz.zeroValue5
 infoByte:=by kernel_rfl
 cellsByte:=by kernel_rfl
 sizeByte:=by kernel_rfl
 neB5:=by decide }
open Go.RowKit in
def Tryz.strings_Join_none(a:Option Addr)(c:Nat)(sep:ByteArray)(w:World):
  Calls Tryz.prog 29 #[.slice a 0 c,.string sep] w λe w'=>e=.returned (.string ⟨#[]⟩)/\w'=w:=Any.strings_Join_none Tryz.acH Tryz.Wr a c sep w
open Go.RowKit in
def Tryz.strings_Join(bk o c:Nat)(et:List ByteArray)(sep:ByteArray)(w:World)(Gx:∀(j:Nat) x,et[j]?=some x->w.cell? ⟨bk,o+j,none⟩=some (.string x))(apd:bk<w.heap.size)(fM:et.length<=140737488355328)(ld:et.length<=c)(cr:(Lib.join (et.map (·.data.toList)) sep.data.toList).length<=140737488355328):
  Calls Tryz.prog 29 #[.slice (some ⟨bk,o,none⟩) et.length c,.string sep] w λe w'=>e=.returned (.string ⟨(Lib.join (et.map (·.data.toList)) sep.data.toList).toArray⟩)/\Below w.heap.size w w':=Any.strings_Join Tryz.acH Tryz.Wr bk o c et sep w Gx apd fM ld cr
def Tryz.asE:Go.Shelf.Ren:=⟨fun|143=>36|219=>55|217=>74|225=>75|224=>76|267=>77|266=>100|314=>101|n=>n,fun|9=>9|3=>3|4=>4|5=>5|46=>121|146=>180|51=>22|n=>n,fun|1=>0|n=>n⟩
def Tryz.asD:Go.Proofs.Lays.n143 Tryz.prog Tryz.asE:={
 mixed:=by kernel_rfl
 f143:=Tryz.func36.trans (congrArg some (by kernel_rfl))
 f217:=Tryz.func74.trans (congrArg some (by kernel_rfl))
 f219:=Tryz.func55.trans (congrArg some (by kernel_rfl))
 f224:=Tryz.func76.trans (congrArg some (by kernel_rfl))
 f225:=Tryz.func75.trans (congrArg some (by kernel_rfl))
 f266:=Tryz.func100.trans (congrArg some (by kernel_rfl))
 f267:=Tryz.func77.trans (congrArg some (by kernel_rfl))
 f314:=Tryz.func101.trans (congrArg some (by kernel_rfl))
 t3:=Tryz.underlying3
 a3:=Tryz.isAgg3
 z3:=Tryz.sizeOf3
 v3:=Tryz.zeroValue3
 t4:=Tryz.underlying4
 a4:=Tryz.isAgg4
 z4:=Tryz.sizeOf4
 v4:=Tryz.zeroValue4
 t5:=Tryz.underlying5
 a5:=Tryz.isAgg5
 z5:=Tryz.sizeOf5
 v5:=Tryz.zeroValue5
 t9:=Tryz.underlying9
 a9:=Tryz.isAgg9
 z9:=Tryz.sizeOf9
 v9:=Tryz.zeroValue9
 t46:=Tryz.underlying121
 a46:=Tryz.isAgg121
 z46:=Tryz.sizeOf121
 v46:=Tryz.zeroValue121
 t51:=Tryz.underlying22
 a51:=Tryz.isAgg22
 z51:=Tryz.sizeOf22
 v51:=Tryz.zeroValue22
 t146:=Tryz.underlying180
 a146:=Tryz.isAgg180
 z146:=Tryz.sizeOf180
 v146:=Tryz.zeroValue180
 g1:=by kernel_rfl }
open Go.RowKit Go.Lib in
def Tryz.strings_Index_one(s:ByteArray)(c:UInt8)(w:World):
  Calls Tryz.prog 36 #[.string s,.string ⟨#[c]⟩] w λe w'=>e=.returned (.int .i64 (Lib.indexByte s.data.toList c))/\w'=w:=Any.strings_Index_one Tryz.asD s c w
def Tryz.asC:Go.Shelf.Ren:=⟨fun|138=>35|195=>52|218=>54|143=>36|219=>55|217=>74|225=>75|224=>76|267=>77|266=>100|314=>101|n=>n,fun|9=>9|3=>3|4=>4|5=>5|0=>0|46=>121|146=>180|51=>22|n=>n,fun|1=>0|n=>n⟩
def Tryz.asB:Go.Proofs.Lays.n138 Tryz.prog Tryz.asC:={
 mixed:=by kernel_rfl
 f138:=Tryz.func35.trans (congrArg some (by kernel_rfl))
 f143:=Tryz.func36.trans (congrArg some (by kernel_rfl))
 f195:=Tryz.func52.trans (congrArg some (by kernel_rfl))
 f217:=Tryz.func74.trans (congrArg some (by kernel_rfl))
 f218:=Tryz.func54.trans (congrArg some (by kernel_rfl))
 f219:=Tryz.func55.trans (congrArg some (by kernel_rfl))
 f224:=Tryz.func76.trans (congrArg some (by kernel_rfl))
 f225:=Tryz.func75.trans (congrArg some (by kernel_rfl))
 f266:=Tryz.func100.trans (congrArg some (by kernel_rfl))
 f267:=Tryz.func77.trans (congrArg some (by kernel_rfl))
 f314:=Tryz.func101.trans (congrArg some (by kernel_rfl))
 t0:=Tryz.underlying0
 a0:=Tryz.isAgg0
 z0:=Tryz.sizeOf0
 v0:=Tryz.zeroValue0
 t3:=Tryz.underlying3
 a3:=Tryz.isAgg3
 z3:=Tryz.sizeOf3
 v3:=Tryz.zeroValue3
 t4:=Tryz.underlying4
 a4:=Tryz.isAgg4
 z4:=Tryz.sizeOf4
 v4:=Tryz.zeroValue4
 t5:=Tryz.underlying5
 a5:=Tryz.isAgg5
 z5:=Tryz.sizeOf5
 v5:=Tryz.zeroValue5
 t9:=Tryz.underlying9
 a9:=Tryz.isAgg9
 z9:=Tryz.sizeOf9
 v9:=Tryz.zeroValue9
 t46:=Tryz.underlying121
 a46:=Tryz.isAgg121
 z46:=Tryz.sizeOf121
 v46:=Tryz.zeroValue121
 t51:=Tryz.underlying22
 a51:=Tryz.isAgg22
 z51:=Tryz.sizeOf22
 v51:=Tryz.zeroValue22
 t146:=Tryz.underlying180
 a146:=Tryz.isAgg180
 z146:=Tryz.sizeOf180
 v146:=Tryz.zeroValue180
 g1:=by kernel_rfl }
open Go.RowKit Go.Lib in
def Tryz.strings_Count_one(s:ByteArray)(c:UInt8)(w:World):
  Calls Tryz.prog 35 #[.string s,.string ⟨#[c]⟩] w λe w'=>e=.returned (.int .i64 (Lib.countByte s.data.toList c))/\w'=w:=Any.strings_Count_one Tryz.asB s c w
end Go.Proofs
namespace Yp
open Go Go.Proofs
def Uy{w:World}{X:Nat->Prop}(dg:∀b,X b->b<w.heap.size){t:ae}{x:t.aD}{v:Value}(h:aH (view w X) t x [v])(aC:cv t [v]=v):iu w X w [.im t] (x,()) v:=
 ⟨X,rfl,rfl,rfl,bU _,λ_ _=>rfl,λ_ _=>pm,dg,[v],⟨[v],[],by rw[aC],h,rfl⟩,rfl⟩
abbrev afQ:eA:=⟨[.str,.str],[.im (.int .i64)],U?⟩
def aoZ:fG Tryz.prog 35 afQ:=by
 refine⟨⟨_,Tryz.func35,by kernel_rfl,by kernel_rfl⟩,?_⟩;intro w X x vs r dg _ dn ah;obtain⟨s,p,⟨⟩⟩:=x;obtain⟨c1,rM,rfl,O,c2,ys,rfl,R,rfl⟩:=dn;obtain rfl:=aH.ml.1 O;obtain rfl:=aH.ml.1 R;match p,ah with
 |[c],ah =>cases ah;refine(Tryz.strings_Count_one ⟨List.toArray s⟩ c w).mono ?_;rintro e w' ⟨rfl,rfl⟩;exact⟨_,rfl,Uy dg (aH.ia.2 rfl) rfl⟩
abbrev afR:eA:=⟨[.str,.str],[.im (.int .i64)],NS⟩
def ao0:fG Tryz.prog 36 afR:=by
 refine⟨⟨_,Tryz.func36,by kernel_rfl,by kernel_rfl⟩,?_⟩;intro w X x vs r dg _ dn ah;obtain⟨s,p,⟨⟩⟩:=x;obtain⟨c1,rM,rfl,O,c2,ys,rfl,R,rfl⟩:=dn;obtain rfl:=aH.ml.1 O;obtain rfl:=aH.ml.1 R;match p,ah with
 |[c],ah =>cases ah;refine(Tryz.strings_Index_one ⟨List.toArray s⟩ c w).mono ?_;rintro e w' ⟨rfl,rfl⟩;exact⟨_,rfl,Uy dg (aH.ia.2 rfl) rfl⟩
def B8(l:List V):List ByteArray:=l.map λs=>⟨s.toArray⟩
def W9(l:List V):(B8 l).map (·.data.toList)=l:=by unfold B8;rw[JB];exact List.map_id'' (λ_=>rfl) _
def Pt(l:List V):(B8 l).length=l.length:=ov ..
def ajd{j:Nat}{x:ByteArray}(h:(B8 l)[j]?=some x):∃y,l[j]?=some y/\x=⟨y.toArray⟩:=by unfold B8 at h;rw[JQ]at h;obtain⟨y,hy,rfl⟩:=k4.1 h;exact⟨y,hy,rfl⟩
def asf(l:List V)(p:V){b o:Nat}{w:World}(ai:∀(j:Nat) y,l[j]?=some y->w.cell? ⟨b,o+j,none⟩=some (.string ⟨y.toArray⟩))(bm:b<w.heap.size)(O:l.length<=140737488355328)(R:l.length<=cap)(af:(p.intercalate l).length<=140737488355328):
  Calls Tryz.prog 29 #[.slice (some ⟨b,o,none⟩) l.length cap,.string ⟨p.toArray⟩] w λe w'=>e=.returned (.string ⟨(p.intercalate l).toArray⟩)/\Go.RowKit.Below w.heap.size w w':=by
 have kx:=Tryz.strings_Join b o cap (B8 l) ⟨p.toArray⟩ w (λj x hx=>by obtain⟨y,hy,rfl⟩:=ajd hx;exact ai j y hy) bm (by rw[Pt];exact O) (by rw[Pt];exact R) (by rw[W9];exact af);rw[Pt,W9]at kx;exact kx
abbrev afS:eA:=⟨[.sl .str,.str],[.im .str],NT⟩
def ao1:fG Tryz.prog 29 afS:=by
 refine⟨⟨_,Tryz.func29,by kernel_rfl,by kernel_rfl⟩,?_⟩;intro w X x vs r dg _ dn ah;obtain⟨l,p,⟨⟩⟩:=x;obtain⟨c1,rM,rfl,O,c2,ys,rfl,R,rfl⟩:=dn;obtain rfl:=aH.ml.1 R;obtain⟨a,cap,rfl,ld,i6,hl⟩:=aH.x?.1 O;replace ah:(if(l:List V).length<=140737488355328/\((p:V).intercalate l).length<=140737488355328 then some ((p:V).intercalate l,()) else none)=some r:=ah;split at ah
 .rename_i aj
  cases ah;rcases hl with hl|⟨b,o,c,el,fz,rfl,Y,cQ,ai⟩
  .replace hl:(l:List V)=[]:=hl
   subst hl;refine(Tryz.strings_Join_none a cap ⟨List.toArray p⟩ w).mono ?_;rintro e w' ⟨rfl,rfl⟩;exact⟨_,rfl,Uy dg (aH.ml.2 rfl) rfl⟩
  have R1:=js.1 Y;have bm:b<w.heap.size:=by
   rcases y2 b w.heap.size with h|h
   .exact h
   rw[Array.getElem?_eq_none h]at R1;cases R1.2
  refine(asf l p ?_ bm aj.1 ld aj.2).mono ?_
  .intro j y hy
   have an:j<(l:List V).length:=(mt.1 hy).1;have arv:=aH.ml.1 (ai j y hy);have hg:(cH c (o+j*ae.str.size) ae.str.size)[0]?=c[o+j*ae.str.size+0]?:=uz bP;rw[arv]at hg;rw[FE R1.2];have e1:o+j*ae.str.size+0=o+j:=by show o+j*1+0=o+j;omega
   rw[e1]at hg;exact hg.symm
  rintro e w' ⟨rfl,aB⟩;exact⟨_,rfl,X,aB.os,aB.tape,aB.output,aB.size,aB.block,λ_ _=>pm,λk ap=>hU (dg k ap) aB.size,[_],⟨[_],[],rfl,aH.ml.2 rfl,rfl⟩,rfl⟩
 cases ah
abbrev afU:eA:=⟨[.int .i64],[.im .str],Et⟩
def ZJ(hJ:fG Tryz.prog 31 ⟨[.int .i64,.int .i64],[.im .str,.im (.int .i64)],mD⟩):∀k,fG Tryz.prog 20 ⟨[.int .i64],[.im .str],u? k⟩
 |0=>⟨⟨_,Tryz.func20,by kernel_rfl,by kernel_rfl⟩,λw X x vs r _ _ _ ah=>by
  replace ah:(none:Option (V×Unit))=some r:=by rw[<- ah];rfl
  cases ah⟩
 |k+1=>Dq (E:=e6 [(31,⟨[.int .i64,.int .i64],[.im .str,.im (.int .i64)],mD⟩),(20,⟨[.int .i64],[.im .str],u? k⟩)] [] [] [] none false false 0) (n8 (az (az aW (ZJ hJ k)) hJ) aX iD oX pP) Tryz.func20 5 (by kernel_rfl) (by kernel_rfl) (λx=>by kernel_rfl)
def ao2(hJ:fG Tryz.prog 31 ⟨[.int .i64,.int .i64],[.im .str,.im (.int .i64)],mD⟩):fG Tryz.prog 20 afU:=ZJ hJ 20
end Yp
namespace Yp
open Go Go.Proofs Tryz
set_option maxRecDepth 100000
def alz:FK 35 afQ:=aoZ
def alA:FK 36 afR:=ao0
abbrev yD:ae:=.int .u32
abbrev lX:ae:=.unit
abbrev ii:ae:=.int .u8
abbrev dX:ae:=.bool
abbrev c_:ae:=.sl ii
abbrev wo:ae:=.pair c_ (.pair c_ lX)
abbrev BB:ae:=.pair dX (.pair (.sl wo) (.pair dX lX))
abbrev a7:ae:=.int .i64
abbrev Jp:ae:=.pair a7 (.pair a7 lX)
abbrev BC:ae:=.pair a7 (.pair (.ar 16 (.int .u64)) lX)
abbrev uI:ae:=.pair a7 (.pair a7 (.pair (.ar 2 a7) (.pair a7 (.pair a7 wo))))
abbrev s':ae:=.pair (.ar 4 dX) (.pair (.ar 4 (.pair c_ Jp)) (.pair (.ar 4 a7) (.pair a7 lX)))
abbrev k0:ae:=.pair dX (.pair a7 (.pair a7 (.pair a7 (.pair a7 (.pair c_ (.pair c_ (.pair a7 lX)))))))
abbrev jb:ae:=.pair a7 (.pair c_ lX)
abbrev Ou:ae:=.pair (.ar 8 yD) jb
abbrev Wj:ae:=.pair (.sl jb) (.pair (.fn [265]) lX)
abbrev EJ:ae:=.pair a7 (.pair (.ar 2 a7) jb)
abbrev o?: ae:=.pair a7 (.pair (.sl jb) lX)
abbrev kZ:ae:=.pair a7 (.pair a7 (.pair a7 jb))
abbrev p7:ae:=.pair jb (.pair jb (.pair jb Jp))
abbrev rT:ae:=.pair a7 (.pair c_ (.pair a7 (.pair wo (.pair a7 (.pair a7 (.pair a7 (.pair a7 (.pair a7 (.pair BC (.pair p7 (.pair kZ (.pair a7 (.pair a7 (.pair (.sl c_) (.pair s' (.pair (.sl jb) (.pair (.sl EJ) (.pair (.ar 4 a7) lX))))))))))))))))))
abbrev wq:ae:=.pair (.ar 2 rT) (.pair BB (.pair (.sl (.pair a7 jb)) (.pair (.sl (.pair a7 jb)) (.pair (.ar 2 (.sl EJ)) lX))))
abbrev p6:ae:=.pair wq lX
abbrev cC:ae:=.pair rT (.pair BB lX)
def alC:FK 22 ⟨[.str,.str,a7,a7],[.ow (.str)],Va⟩:=bd (az (az aW alA) alz) aX func22 12
abbrev afT:eA:=⟨[.str,.str],[.ow (.str)],Eh⟩
def Yj:FK 13 afT:=bd (az aW alC) aX func13 5
def WD:fJ:=h1 (e6 [] [] [] [] none false false 0) f14 1
def arL:IK 14 WD:=jf aW aX func14 1
def PQ:FK 56 ⟨[(.int .i32)],[.im a7,.im dX],r_⟩:=bd aW aX func56 4
abbrev afq:eA:=⟨[.str],[.im a7,.im a7],r9⟩
def Ki:FK 37 afq:=bd (az aW PQ) aX func37 9
def alG:FK 23 ⟨[.str,a7],[.im a7,.im dX],p2⟩:=bd (az aW Ki) aX func23 8
def aim:fJ:=h1 (e6 [] [] [] [] none false false 0) f24 7
def arN:IK 24 aim:=jf aW aX func24 7
def aj9:FK 57 ⟨[ii],[.im ii,.im dX],KF⟩:=bd aW aX func57 4
def XB:FK 38 ⟨[.str],[.ow ii,.im a7],Cn⟩:=bd (az aW aj9) aX func38 10
def alE:FK 25 ⟨[.str],[.im c_,.im dX],Es⟩:=bd (az aW XB) aX func25 6
def ail:fJ:=h1 (e6 [] [] [] [] none false false 0) f26 7
def arM:IK 26 ail:=jf aW aX func26 7
abbrev afV:ik:=⟨kZ,[(.int .i32),.str],[.im dX],yo⟩
def alI:ij Tryz.prog 15 afV:=oF (az (az aW alE) alG) (fB (fB aX arM) arN) iD func15 15
def Qb:FK 7 ⟨[.str],[.im kZ,.im dX],p1⟩:=Dq (E:=(e6 [(13,afT)] [(14,WD)] [(15,afV)] [] none false false 0)) (n8 (az aW Yj) (fB aX arL) (hB iD alI) oX pP) func7 11 (by kernel_rfl) (by kernel_rfl) (λx =>by kernel_rfl)
def Fu:FK 31 ⟨[a7,a7],[.im (.str),.im a7],mD⟩:=bd aW aX func31 8
def Ym:FK 20 afU:=ao2 Fu
def alB:FK 29 afS:=ao1
def Qc:FK 18 ⟨[(.sl a7)],[.im (.str)],Be⟩:=bd (az (az aW alB) Ym) aX func18 6
def akV:FK 27 ⟨[a7],[.im (.str)],ML⟩:=bd aW aX func27 4
def alH:FK 16 ⟨[rT],[.im (.str)],Eu⟩:=bd (az (az aW akV) Qc) aX func16 3
def PP:FK 28 ⟨[c_],[.im (.str)],Cm⟩:=bd aW aX func28 6
def alF:FK 17 ⟨[(.sl EJ)],[.im (.str)],VL⟩:=bd (az (az aW PP) Qc) aX func17 7
def wT:FK 60 ⟨[a7,a7],[.im dX],qT⟩:=bd aW aX func60 5
def P':FK 61 afN:=aoW
def aii:fJ:=h1 (e6 [] [] [] [] none false true 0) f62 8
def aci:IK 62 aii:=jf aW aX func62 8
abbrev afX:ik:=⟨p6,[a7],[.im cC],Bx⟩
def FB:ij Tryz.prog 67 afX:=oF aW aX iD func67 5
def P_:FK 64 ⟨[(.sl (.pair a7 jb))],[.cl (.pair a7 jb)],Ed⟩:=bd aW aX func64 3
def akb:FK 83 ⟨[rT],[.im rT,.im (.sl jb),.im (.sl EJ)],QY⟩:=bd aW aX func83 7
def Kt:FK 84 ⟨[(.sl EJ)],[.cl EJ],ya⟩:=bd aW aX func84 3
def XJ:FK 135 ⟨[a7],[.im dX],G0⟩:=bd aW aX func135 3
def XK:FK 104 ⟨[s',a7,.bool],[.im s',.im a7],G1⟩:=bd (az aW XJ) aX func104 8
def akE:FK 107 ⟨[s',a7],[.im s',.im a7],LM⟩:=bd (az aW XK) aX func107 6
def akc:FK 86 ⟨[cC,a7],[.im cC,.im a7],QZ⟩:=bd (az aW akE) aX func86 8
def OT:fJ:=h1 (e6 [] [] [] [] none false false 0) f88 3
def SV:IK 88 OT:=jf aW aX func88 3
def WC:fJ:=h1 (e6 [] [(88,OT)] [] [] none false false 0) f108 6
def acj:IK 108 WC:=jf aW (fB aX SV) func108 6
def aih:fJ:=h1 (e6 [] [(88,OT),(108,WC)] [] [] none false false 0) f87 8
def arI:IK 87 aih:=jf aW (fB (fB aX acj) SV) func87 8
abbrev awM:ik:=⟨p6,[a7],[],Jj⟩
def Yr:ij Tryz.prog 69 awM:=oF (az (az aW akc) P') (fB (fB (fB aX arI) acj) SV) (hB iD FB) func69 7
abbrev awL:ik:=⟨p6,[],[],Oe⟩
def alQ:ij Tryz.prog 85 awL:=oF aW aX (hB iD Yr) func85 3
abbrev afY:ik:=⟨p6,[a7,cC],[],yA⟩
def Ku:ij Tryz.prog 68 afY:=oF (az (az (az aW Kt) akb) P_) aX (hB iD alQ) func68 13
def P?: FK 65 afO:=aoX
def aik:fJ:=h1 (e6 [] [] [] [] none false false 0) f237 5
def arK:IK 237 aik:=jf aW aX func237 5
def Yh:FK 175 ⟨[(.sl c_)],[.im c_],Ee⟩:=bd aW (fB aX arK) func175 9
def akt:FK 176 ⟨[c_],[.im a7],Rm⟩:=bd aW aX func176 3
def aks:FK 136 ⟨[(.pair c_ Jp),c_],[.im (.pair c_ Jp),.ow c_],K'⟩:=bd (az (az (az aW akt) Yh) P?) aX func136 10
def akG:FK 102 ⟨[s',a7,c_],[.im s',.ow c_,.im a7],LN⟩:=bd (az (az aW aks) XJ) aX func102 11
def als:FK 144 afP:=aoY
def ak2:FK 105 ⟨[(.sl c_)],[.im c_,.im (.sl c_),.im dX],MU⟩:=bd (az aW als) aX func105 5
def P2:FK 148 ⟨[a7],[.im a7],AG⟩:=bd aW aX func148 3
abbrev afE:eA:=⟨[a7],[.im dX],um⟩
def Fz:FK 109 afE:=bd (az aW P2) aX func109 3
def XS:FK 145 ⟨[c_],[.im dX],Hs⟩:=bd aW aX func145 3
def akF:FK 196 ⟨[s'],[.im s',.im a7,.im a7],SL⟩:=bd aW aX func196 7
def akm:FK 284 ⟨[a7,a7],[.im dX],Cu⟩:=bd aW aX func284 5
def XE:FK 252 ⟨[uI],[.im dX],FW⟩:=bd (az aW akm) aX func252 5
abbrev afo:eA:=⟨[a7,a7],[.ow ii,.im a7],pw⟩
def PO:FK 98 afo:=bd aW aX func98 8
def ah9:fJ:=h1 (e6 [(98,afo)] [] [] [] none false false 0) f253 8
def arA:IK 253 ah9:=jf (az aW PO) aX func253 8
abbrev afs:eA:=⟨[uI],[.ow ii,.im a7],w6⟩
def PR:FK 197 afs:=bd (az aW XE) (fB aX arA) func197 6
def X2:FK 254 afG:=aoU PZ
def alq:FK 255 ⟨[(.sl wo)],[.cl wo],NH⟩:=bd aW aX func255 3
def aj8:FK 256 afn:=aoT
def XV:FK 236 ⟨[yD,a7],[.im yD],kC⟩:=bd aW aX func236 6
def ale:FK 235 ⟨[c_],[.im (.ar 64 yD)],Nv⟩:=bd (az aW XV) aX func235 9
def X':FK 174 ⟨[(.ar 8 yD),c_],[.im (.ar 8 yD),.im a7],Nu⟩:=bd (az (az aW XV) ale) aX func174 16
def Yb:FK 132 ⟨[Ou],[.ow ii],A8⟩:=bd (az aW X') aX func132 9
abbrev afL:eA:=⟨[Ou,c_],[.im Ou],x'⟩
def P6:FK 133 afL:=bd (az aW X') aX func133 6
abbrev afK:eA:=⟨[],[.im Ou],Iv⟩
def X?: FK 134 afK:=bd aW aX func134 1
def Ya:FK 99 ⟨[c_],[.ow ii],Iw⟩:=bd (az (az (az aW X?) P6) Yb) aX func99 3
def akS:FK 231 ⟨[c_],[.ow ii],Tn⟩:=bd (az aW Ya) aX func231 4
def aic:fJ:=h1 (e6 [(133,afL),(134,afK)] [] [] [] none false false 0) f232 6
def arD:IK 232 aic:=jf (az (az aW X?) P6) aX func232 6
def P0:FK 171 ⟨[c_,c_],[.ow ii],Dl⟩:=bd (az (az (az aW akS) P6) Yb) (fB aX arD) func171 7
def X3:FK 257 ⟨[c_,c_],[.ow ii],DN⟩:=bd (az aW P0) aX func257 5
def akY:FK 198 ⟨[BB,c_,c_],[.im BB,.ow ii],MM⟩:=bd (az (az (az (az aW X3) aj8) alq) X2) aX func198 8
def XD:FK 258 ⟨[uI],[.im dX],Ct⟩:=bd (az aW XE) aX func258 3
def akl:FK 199 ⟨[uI],[.ow ii,.im a7],KU⟩:=bd (az (az aW XD) PR) aX func199 6
def akr:FK 200 ⟨[c_],[.ow ii,.im a7],Rl⟩:=bd aW aX func200 4
def alr:FK 201 ⟨[(.sl jb)],[.cl jb],NI⟩:=bd aW aX func201 3
def XR:FK 146 ⟨[cC,uI,c_],[.im cC,.im a7],Hr⟩:=bd (az (az (az (az (az (az aW alr) akr) akl) akY) PR) akF) aX func146 17
def PY:FK 202 ⟨[a7,(.sl a7)],[.im dX],Ag⟩:=bd aW aX func202 7
abbrev afz:eA:=⟨[rT],[.im (.ar 2 a7)],nn⟩
def wS:FK 147 afz:=bd (az aW PY) aX func147 4
abbrev afA:eA:=⟨[cC,c_],[.im cC,.im a7],np⟩
def zb:FK 106 afA:=bd (az (az (az (az aW wS) XR) XS) Fz) aX func106 9
def Kk:FK 82 ⟨[cC],[.im cC],j9⟩:=bd (az (az aW zb) ak2) aX func82 8
abbrev afy:eA:=⟨[cC,a7],[.im cC],kf⟩
def wR:FK 143 afy:=bd aW aX func143 7
def XT:FK 227 ⟨[c_,.str,(.sl c_)],[.ow ii,.im a7],Mb⟩:=bd (az aW P0) aX func227 11
abbrev afx:eA:=⟨[c_],[.ow ii],Ad⟩
def XO:FK 204 afx:=bd (az aW XT) aX func204 5
abbrev afp:eA:=⟨[c_,a7,a7],[.im a7,.im a7,.im a7],la⟩
def XA:FK 233 afp:=bd aW aX func233 12
def aia:fJ:=h1 (e6 [(233,afp)] [] [] [] none true false 0) f274 9
def arB:IK 274 aia:=jf (az aW XA) aX func274 9
abbrev aft:eA:=⟨[c_],[.im uI,.im a7],KT⟩
def akk:FK 238 aft:=bd (az (az aW XD) P?) (fB aX arB) func238 9
def X9:FK 225 ⟨[(.pair p7 lX)],[.im (.ar 3 jb)],M'⟩:=bd aW aX func225 3
abbrev afI:eA:=⟨[p7,a7],[.im c_,.im dX],Ig⟩
def ak9:FK 239 afI:=bd (az aW X9) aX func239 8
abbrev afF:eA:=⟨[BB,c_,c_,c_],[.im BB,.im dX],DM⟩
def akW:FK 240 afF:=bd (az (az (az aW X3) X2) PZ) aX func240 11
abbrev D3:nJ:=⟨cC,[c_],uI,[2,13,5],L6⟩
def akO:uK Tryz.prog 178 84 D3.ty D3.args [.im D3.rt] D3.fn:=atb (E:=(e6 [(109,afE),(147,afz),(197,afs),(204,afx),(238,aft),(239,afI),(240,afF)] [] [] [] (some (180,84)) false false 0)) (s:=D3) (n8 (az (az (az (az (az (az (az aW akW) ak9) akk) XO) PR) wS) Fz) aX iD oX adb) rfl func178 14 (by kernel_rfl) (by kernel_rfl) (λx =>by kernel_rfl)
def Yn:FK 276 ⟨[a7],[.im a7,.im (.int .u64)],Je⟩:=bd aW aX func276 4
def alL:FK 275 ⟨[BC,a7],[.im dX],Ob⟩:=bd (az aW Yn) aX func275 7
def alJ:FK 241 ⟨[BC,a7],[.im dX],V7⟩:=bd (az aW alL) aX func241 5
def alM:FK 242 ⟨[BC,a7,.bool],[.im BC],yx⟩:=bd (az aW Yn) aX func242 9
abbrev afW:eA:=⟨[BC,a7],[.im BC,.im a7],ED⟩
def alK:FK 179 afW:=bd (az (az aW alM) alJ) aX func179 7
def X8:FK 226 ⟨[jb],[.im dX],Ii⟩:=bd aW aX func226 3
abbrev afJ:eA:=⟨[p7],[.im p7,.im a7],AW⟩
def X7:FK 181 afJ:=bd (az aW X8) aX func181 5
def akN:FK 137 ⟨[cC,c_],[.im cC,.im uI,.im a7],L5⟩:=ata (E:=(e6 [(179,afW),(181,afJ)] [] [] [(178,D3)] (some (180,84)) false false 0)) (EC:=(e6 [(143,afy)] [] [] [] none false false 65536)) (n8 (az (az aW X7) alK) aX iD (atc akO) adb) (n8 (az aW wR) aX iD oX pP) rfl func137 func177 9 3 (by kernel_rfl) (by kernel_rfl) (by kernel_rfl) (λc A B q h ac=>by cases h;cases ac;rfl) (λx =>by kernel_rfl)
def aie:fJ:=h1 (e6 [] [] [] [] none false false 0) f164 3
def arF:IK 164 aie:=jf aW aX func164 3
def Cc:FK 121 ⟨[a7,a7],[.im a7,.im dX],qK⟩:=bd (az aW P2) (fB aX arF) func121 9
def P9:FK 131 ⟨[cC,a7],[.im cC],s1⟩:=bd (az aW Cc) aX func131 5
def Yf:FK 182 ⟨[cC,a7],[.im cC],IB⟩:=bd (az (az aW wS) Kt) aX func182 5
def alh:FK 138 ⟨[cC],[.im cC],Ny⟩:=bd (az (az aW Yf) P9) aX func138 3
def Xz:FK 208 ⟨[c_,a7,a7],[.im (.str),.im a7,.im a7],w3⟩:=bd (az (az aW PQ) PP) aX func208 15
def PW:FK 259 ⟨[a7,a7],[.im a7],t2⟩:=bd aW aX func259 5
def Km:FK 209 ⟨[a7],[.im dX],z_⟩:=bd (az aW PW) aX func209 4
def aj5:FK 210 Ng:=aoS Xx
def akp:FK 288 ⟨[a7],[.im a7],F5⟩:=bd aW aX func288 3
def OR:fJ:=h1 (e6 [] [] [] [] none false false 0) f289 3
def ST:IK 289 OR:=jf aW aX func289 3
def akq:FK 261 ⟨[a7,a7],[.im a7],zo⟩:=bd (az aW akp) (fB aX ST) func261 5
def Fv:FK 211 ⟨[a7],[.im Jp,.im dX],u_⟩:=bd (az aW akq) aX func211 6
def PS:FK 262 ⟨[a7],[.im a7],iy⟩:=bd aW aX func262 3
def Wz:fJ:=h1 (e6 [] [(289,OR)] [] [] none false false 0) f290 7
def acf:IK 290 Wz:=jf aW (fB aX ST) func290 7
def aib:fJ:=h1 (e6 [] [(289,OR),(290,Wz)] [] [] none false false 0) f264 3
def arC:IK 264 aib:=jf aW (fB (fB aX acf) ST) func264 3
def Kj:FK 215 ⟨[a7,c_],[.im dX],u9⟩:=bd (az (az aW PS) Fv) (fB (fB aX arC) acf) func215 8
def akn:FK 212 ⟨[a7,c_,a7],[.ow ii,.im a7,.im a7],K2⟩:=bd (az (az (az (az (az aW PS) Kj) Fv) Xz) Ki) aX func212 20
abbrev afv:eA:=⟨[c_],[.im o?,.im a7],C'⟩
def PT:FK 157 afv:=bd (az (az (az (az (az (az aW akn) Fv) aj5) Km) Xz) Ki) aX func157 20
def Fw:FK 265 ⟨[jb],[.im a7],L1⟩:=bd aW aX func265 3
def XM:FK 216 ⟨[o?],[.im Wj],L0⟩:=bd (az aW Fw) aX func216 3
def XN:FK 263 ⟨[Wj,a7],[.im a7,.im dX],Hg⟩:=bd (az aW Fw) aX func263 9
abbrev afu:eA:=⟨[o?,a7],[.im c_,.im dX],qy⟩
def Kl:FK 214 afu:=bd (az (az (az aW Fw) XN) XM) aX func214 8
def XZ:FK 292 ⟨[k0],[.im dX],TE⟩:=bd aW aX func292 3
def P1:FK 294 ⟨[k0],[.im dX],Mt⟩:=bd aW aX func294 3
def XY:FK 293 ⟨[k0],[.im dX],TD⟩:=bd (az aW P1) aX func293 4
def X1:FK 295 ⟨[k0],[.im dX],TG⟩:=bd aW aX func295 3
def akU:FK 270 ⟨[k0],[.im (.fn [292,293,294,295])],TF⟩:=bd (az (az (az (az aW X1) P1) XY) XZ) aX func270 3
def XX:FK 228 ⟨[k0],[.im dX],HM⟩:=bd (az (az (az (az (az aW X1) P1) XY) XZ) akU) aX func228 3
def aij:fJ:=h1 (e6 [] [] [] [] none false false 0) f291 5
def arJ:IK 291 aij:=jf aW aX func291 5
def alt:FK 266 ⟨[(.sl (.sl jb))],[.ow jb],NJ⟩:=bd aW (fB aX arJ) func266 9
def akM:FK 217 ⟨[Wj,jb],[.ow jb],S1⟩:=bd (az (az (az aW Fw) alt) XN) aX func217 8
abbrev afw:eA:=⟨[o?,a7,c_],[.im o?,.im a7],jT⟩
def PU:FK 160 afw:=bd (az (az (az (az (az aW Fw) akM) XM) Kj) Fv) aX func160 10
def WA:fJ:=h1 (e6 [(160,afw)] [] [] [] none false false 0) f271 4
def acg:IK 271 WA:=jf (az aW PU) aX func271 4
def akT:FK 272 ⟨[a7,a7],[.ow ii],qF⟩:=bd (az aW Fu) aX func272 7
def X0:FK 229 ⟨[k0],[.im o?],Dy⟩:=bd (az (az aW akT) PP) (fB aX acg) func229 5
def aid:fJ:=h1 (e6 [(37,afq),(214,afu)] [(271,WA)] [] [] none false false 0) f243 7
def arE:IK 243 aid:=jf (az (az aW Kl) Ki) (fB aX acg) func243 7
def PN:FK 234 ⟨[c_,c_],[.im dX],Cb⟩:=bd aW aX func234 5
def XL:FK 278 ⟨[jb,jb],[.im dX],LY⟩:=bd (az aW PN) aX func278 5
def alu:FK 277 ⟨[(.sl jb),(.sl jb),(.fn [278])],[.im dX],NK⟩:=bd (az aW XL) aX func277 10
def akL:FK 244 ⟨[o?,o?],[.im dX],He⟩:=bd (az (az aW XL) alu) aX func244 5
abbrev afC:eA:=⟨[c_],[.im k0,.im a7],Dx⟩
def XW:FK 183 afC:=bd (az (az (az (az (az (az aW akL) X0) XX) Kl) PT) XB) (fB aX arE) func183 10
def ah8:fJ:=h1 (e6 [(157,afv),(183,afC)] [] [] [] none false false 0) f139 7
def arz:IK 139 ah8:=jf (az (az aW XW) PT) aX func139 7
def P5:FK 122 ⟨[p7],[.im p7],Ih⟩:=bd aW aX func122 3
def Kq:FK 124 ⟨[cC],[.im (.pair (.pair rT lX) (.pair cC lX))],x4⟩:=bd aW aX func124 3
def XP:FK 166 ⟨[c_,(.ar 2 a7),a7,c_],[.ow ii],Ae⟩:=bd (az (az (az aW XT) PY) PO) aX func166 17
def X5:FK 125 ⟨[(.pair rT lX),a7,c_],[.ow ii],AP⟩:=bd (az (az aW XP) wS) aX func125 7
def X_:FK 165 ⟨[(.pair p7 lX)],[.im dX],M?⟩:=bd (az (az aW X8) X9) aX func165 5
def ald:FK 167 ⟨[jb],[.im dX],M_⟩:=bd aW aX func167 3
def X6:FK 126 ⟨[p7,a7,c_],[.im p7,.im a7],DX⟩:=bd (az (az aW ald) X_) aX func126 10
def XU:FK 128 ⟨[c_],[.ow ii],HA⟩:=bd (az aW P0) aX func128 3
def P3:FK 205 ⟨[(.pair rT lX)],[.im dX],v6⟩:=bd aW aX func205 3
def P4:FK 206 ⟨[cC],[.im cC],AQ⟩:=bd (az aW Cc) aX func206 3
def akK:FK 218 ⟨[o?],[.im dX],LX⟩:=bd (az (az aW Kj) Km) aX func218 6
def Xy:FK 219 ⟨[.str],[.ow ii,.im a7],tE⟩:=bd (az aW PQ) aX func219 10
def aj6:FK 267 ⟨[(.sl a7)],[.im dX],Kb⟩:=bd aW aX func267 6
def aj7:FK 220 ⟨[(.sl a7)],[.ow ii,.im a7],Kc⟩:=bd (az (az aW Xx) aj6) aX func220 9
def ako:FK 221 ⟨[a7,c_],[.ow ii,.im a7],F4⟩:=bd (az (az (az (az (az aW PS) Xy) Kj) Fv) Fu) aX func221 14
def PV:FK 161 ⟨[o?],[.ow ii,.im a7],Aa⟩:=bd (az (az (az (az (az aW ako) aj7) Xy) akK) Fu) aX func161 17
abbrev afD:eA:=⟨[k0],[.ow ii,.im a7],pQ⟩
def Fx:FK 169 afD:=bd (az (az (az aW X0) XX) PV) aX func169 4
abbrev afB:eA:=⟨[k0,a7],[.im k0,.im a7],qE⟩
def Ko:FK 246 afB:=bd aW aX func246 6
def aif:fJ:=h1 (e6 [(106,afA),(169,afD),(246,afB)] [] [] [] none false false 0) f245 9
def arG:IK 245 aif:=jf (az (az (az aW Ko) Fx) zb) aX func245 9
def ak8:FK 184 ⟨[cC,k0],[.im cC],M4⟩:=bd (az (az (az (az (az (az (az (az (az aW PZ) P4) P3) wR) XU) X6) X5) Kq) P5) (fB aX arG) func184 10
def PX:FK 153 ⟨[cC,a7,c_],[.im cC,.im a7],Df⟩:=bd (az (az (az (az (az aW XO) PY) wS) XR) XS) aX func153 9
def aj2:FK 168 ⟨[a7],[.im a7],J8⟩:=bd aW aX func168 3
def aj0:FK 273 ⟨[a7],[.im dX],J6⟩:=bd aW aX func273 3
def aj4:FK 230 ⟨[a7,a7,c_],[.im dX],J9⟩:=bd (az aW aj0) aX func230 7
def ajZ:FK 170 ⟨[a7,a7,c_],[.im kZ,.im a7],J5⟩:=bd (az aW aj4) aX func170 8
def Kr:FK 127 ⟨[cC,k0],[.im cC],A9⟩:=bd (az (az (az (az (az aW ajZ) Fx) aj2) PX) zb) aX func127 9
def X4:FK 154 ⟨[cC],[.im cC],Ia⟩:=bd (az (az (az (az aW P4) P3) Kq) P5) aX func154 3
def aj1:FK 203 ⟨[kZ,kZ],[.im dX],Po⟩:=bd (az aW PN) aX func203 5
def Xw:FK 149 ⟨[kZ],[.im dX],Fl⟩:=bd (az aW aj1) aX func149 3
def Kh:FK 191 ⟨[kZ,a7,a7],[.im dX],wO⟩:=bd (az aW Xw) aX func191 7
def ak6:FK 185 ⟨[cC,k0],[.im cC],M2⟩:=bd (az (az (az (az (az (az (az (az aW P4) P3) Kh) X7) X4) wR) Kr) Kq) aX func185 5
def akw:FK 186 ⟨[cC,k0],[.im cC],Rp⟩:=bd (az (az (az aW Ko) Fx) zb) aX func186 9
def XG:FK 207 ⟨[cC],[.im cC],CE⟩:=bd (az aW Cc) aX func207 3
def aku:FK 187 ⟨[cC,k0],[.im cC],Lb⟩:=bd (az (az (az (az aW XG) Kh) XW) wR) aX func187 7
def P8:FK 189 ⟨[cC],[.im cC],s0⟩:=bd (az aW wR) aX func189 3
def XQ:FK 129 ⟨[rT,a7],[.im rT],Af⟩:=bd (az (az (az aW wS) Fz) Kt) aX func129 5
abbrev afM:eA:=⟨[cC,a7],[.im cC],sZ⟩
def FA:FK 119 afM:=bd (az aW XQ) aX func119 5
def JE:fJ:=h1 (e6 [(119,afM)] [] [] [] none false false 0) f279 3
def LR:IK 279 JE:=jf (az aW FA) aX func279 3
abbrev UM:eA:=⟨[cC,k0],[.im cC],IC⟩
def P7:FK 280 UM:=bd (az (az (az aW Ko) Fx) zb) aX func280 9
def OS:fJ:=h1 (e6 [] [(279,JE)] [] [] none false false 0) f281 3
def SU:IK 281 OS:=jf aW (fB aX LR) func281 3
def WB:fJ:=h1 (e6 [(280,UM)] [(279,JE),(281,OS)] [] [] none false false 0) f282 5
def ach:IK 282 WB:=jf (az aW P7) (fB (fB aX SU) LR) func282 5
def aig:fJ:=h1 (e6 [(280,UM)] [(279,JE),(281,OS),(282,WB)] [] [] none false false 0) f248 2
def arH:IK 248 aig:=jf (az aW P7) (fB (fB (fB aX ach) SU) LR) func248 2
def alk:FK 188 ⟨[cC,k0],[.im cC],NA⟩:=bd (az (az (az aW P7) Kh) P8) (fB (fB (fB (fB aX arH) ach) SU) LR) func188 7
def akj:FK 140 ⟨[cC,k0],[.im cC],FV⟩:=bd (az (az (az (az (az aW alk) aku) akw) ak6) ak8) aX func140 5
def Yc:FK 96 ⟨[cC],[.im cC],D?⟩:=bd (az aW XQ) aX func96 4
def Qa:FK 72 ⟨[a7],[.ow ii,.im a7],IJ⟩:=bd (az (az aW Ya) PO) aX func72 6
def alv:FK 172 ⟨[c_],[.im a7,.im dX],II⟩:=bd (az (az (az aW PN) XA) Qa) aX func172 8
def aly:FK 173 ⟨[a7,a7,.bool,.bool],[.im a7,.im dX],U0⟩:=bd aW aX func173 10
def Yi:FK 130 ⟨[wo],[.im a7,.im a7,.im dX],IH⟩:=bd (az (az aW aly) alv) aX func130 11
def alx:FK 163 ⟨[wo,a7],[.im wo,.im a7,.im a7],NN⟩:=bd (az (az (az aW Yh) Yi) Qa) aX func163 13
def Ye:FK 118 ⟨[cC],[.im cC,.im a7,.im a7],IA⟩:=bd (az (az aW alx) Yc) aX func118 8
def alp:FK 249 ⟨[cC,k0,a7],[.im cC],IE⟩:=bd (az (az (az aW Ko) Fx) PX) aX func249 11
def ala:FK 283 ⟨[c_],[.im p7,.im a7],M7⟩:=bd aW aX func283 4
def Yg:FK 250 ⟨[cC,a7,a7],[.im cC],Ec⟩:=bd (az (az (az aW ala) XP) wS) aX func250 7
def alo:FK 190 ⟨[cC,k0,a7],[.im cC],NE⟩:=bd (az (az (az (az (az (az aW Yg) alp) P8) FA) Ye) Fz) aX func190 10
def Ks:FK 120 ⟨[cC,a7],[.im cC],Ea⟩:=bd (az aW Kr) aX func120 5
def aln:FK 192 ⟨[cC,a7],[.im cC],ND⟩:=bd (az (az (az (az aW Yg) Yf) P9) Ks) aX func192 5
def alj:FK 141 ⟨[cC,uI,k0],[.im cC],Iy⟩:=bd (az (az (az (az aW aln) Kh) alo) P8) aX func141 9
def Fy:FK 115 ⟨[a7],[.im dX],xV⟩:=bd (az aW P2) aX func115 3
def XF:FK 117 ⟨[cC,a7,a7,c_],[.im cC],F'⟩:=bd (az (az aW wS) Kt) aX func117 9
def akI:FK 213 ⟨[a7],[.im a7],Hd⟩:=bd (az (az aW PW) Km) aX func213 3
def XI:FK 158 ⟨[o?],[.im dX],F?⟩:=bd (az aW akI) aX func158 3
def akD:FK 193 ⟨[.bool,a7,a7],[.im a7],Rs⟩:=bd aW aX func193 7
def XH:FK 159 ⟨[o?],[.im dX],CF⟩:=bd (az aW Kl) aX func159 5
def akC:FK 194 ⟨[o?],[.im dX],Lh⟩:=bd (az aW XH) aX func194 4
def akJ:FK 251 ⟨[a7],[.im a7,.im dX],LW⟩:=bd (az (az aW PW) Km) aX func251 5
def akB:FK 195 ⟨[cC,o?],[.im cC],Lg⟩:=bd (az (az (az (az (az (az aW akJ) Kl) PV) PU) wR) zb) aX func195 13
def akA:FK 142 ⟨[cC,uI,o?],[.im cC],F_⟩:=bd (az (az (az (az (az (az (az aW akB) akC) akD) XI) wR) XF) Fy) aX func142 7
def ake:FK 103 ⟨[cC,c_],[.im cC],FT⟩:=bd (az (az (az (az (az (az (az aW wR) akA) alj) akj) alh) akN) Kk) (fB aX arz) func103 10
def aka:FK 80 ⟨[cC,a7,c_],[.im cC],KQ⟩:=bd (az (az aW ake) akG) aX func80 12
abbrev awK:ik:=⟨p6,[a7,a7,c_],[],EE⟩
def Yq:ij Tryz.prog 63 awK:=oF (az aW aka) aX (hB (hB iD Ku) FB) func63 8
abbrev Ip:ik:=⟨p6,[kZ],[.im a7],Jk⟩
def Qd:ij Tryz.prog 42 Ip:=oF (az (az aW P') wT) (fB aX aci) (hB iD Yq) func42 7
abbrev Nl:ik:=⟨p6,[kZ],[.im a7],Oh⟩
def Yv:ij Tryz.prog 43 Nl:=oF (az (az aW P') wT) (fB aX aci) iD func43 5
abbrev Nh:ik:=⟨p6,[kZ],[.im a7],Od⟩
def Yo:ij Tryz.prog 44 Nh:=oF (az (az aW P_) wT) aX iD func44 5
abbrev Np:ik:=⟨p6,[kZ],[.im a7],Ok⟩
def Yy:ij Tryz.prog 45 Np:=oF (az (az (az aW P?) P_) wT) aX iD func45 6
abbrev Nm:ik:=⟨p6,[kZ],[.im a7],Oi⟩
def Yw:ij Tryz.prog 46 Nm:=oF (az aW wT) aX (hB iD Yq) func46 5
def akH:FK 81 ⟨[s',a7],[.im s',.im a7],LO⟩:=bd (az aW XK) aX func81 7
def akg:FK 66 ⟨[cC,a7],[.im cC,.im a7],KS⟩:=bd (az (az aW Kk) akH) aX func66 8
abbrev Nn:ik:=⟨p6,[kZ],[.im a7],Oj⟩
def Yx:ij Tryz.prog 47 Nn:=oF (az (az aW akg) wT) aX (hB (hB iD Ku) FB) func47 8
abbrev Nj:ik:=⟨p6,[kZ],[.im a7],Og⟩
def Yt:ij Tryz.prog 48 Nj:=oF (az aW wT) aX (hB iD Yr) func48 5
def Yd:FK 91 ⟨[cC],[.im cC,.im a7],Iz⟩:=bd (az (az (az aW Ks) FA) Ye) aX func91 6
def alc:FK 110 ⟨[p7],[.im p7],M9⟩:=bd aW aX func110 3
def OQ:fJ:=h1 (e6 [] [] [] [] none false false 0) f151 2
def SS:IK 151 OQ:=jf aW aX func151 2
def Wy:fJ:=h1 (e6 [] [(151,OQ)] [] [] none false false 0) f152 2
def ace:IK 152 Wy:=jf aW (fB aX SS) func152 2
def ah7:fJ:=h1 (e6 [] [(151,OQ),(152,Wy)] [] [] none false false 0) f150 4
def ary:IK 150 ah7:=jf aW (fB (fB aX ace) SS) func150 4
def aj3:FK 111 ⟨[kZ],[.im kZ,.im dX,.im dX],B7⟩:=bd (az aW Xw) (fB (fB (fB aX ary) ace) SS) func111 8
def akh:FK 112 ⟨[cC,kZ],[.im cC],Cr⟩:=bd (az (az aW PX) zb) aX func112 5
def akx:FK 155 ⟨[cC],[.im cC],Ld⟩:=bd (az aW XG) aX func155 3
def ali:FK 156 ⟨[cC],[.im cC],Nz⟩:=bd (az aW FA) aX func156 3
def aki:FK 113 ⟨[cC],[.im cC],Cs⟩:=bd (az (az (az aW ali) akx) X4) aX func113 3
abbrev afr:eA:=⟨[cC],[.im cC],FU⟩
def XC:FK 89 afr:=bd (az (az (az (az (az (az (az aW aki) akh) aj3) alc) Fz) Yd) Kk) aX func89 6
def alN:FK 70 ⟨[wq,a7],[.im wq],Oc⟩:=Dq (E:=(e6 [(89,afr)] [] [(42,Ip),(67,afX),(68,afY)] [] none false false 0)) (n8 (az aW XC) aX (hB (hB (hB iD Ku) FB) Qd) oX pP) func70 8 (by kernel_rfl) (by kernel_rfl) (λx =>by kernel_rfl)
abbrev Ni:ik:=⟨p6,[kZ],[.im a7],Of⟩
def Ys:ij Tryz.prog 49 Ni:=oF (az aW alN) aX iD func49 5
def aky:FK 114 ⟨[c_,a7],[.ow ii,.im a7],Le⟩:=bd (az (az (az (az (az (az aW PV) PU) XH) XI) PT) Fu) aX func114 12
def ak0:FK 162 afH:=aoV
def ak1:FK 116 ⟨[(.sl c_),c_,a7],[.im (.sl c_),.im a7],MT⟩:=bd (az aW ak0) aX func116 11
def akz:FK 90 ⟨[cC,c_],[.im cC,.im a7],Lf⟩:=bd (az (az (az (az (az aW XF) ak1) Fy) aky) Kk) aX func90 9
def alm:FK 92 ⟨[cC],[.im cC,.im a7],NB⟩:=bd (az (az (az (az aW P5) Cc) Ks) FA) aX func92 6
def alg:FK 93 ⟨[cC],[.im cC,.im a7],Nx⟩:=bd (az (az aW Ks) Fy) aX func93 4
def alb:FK 123 ⟨[p7],[.im a7,.im a7],M8⟩:=bd (az aW X_) aX func123 4
def ak7:FK 94 ⟨[cC,c_],[.im cC,.im a7],M3⟩:=bd (az (az (az (az (az (az (az (az aW XU) Kr) X6) X5) Kq) alb) Cc) Fy) aX func94 9
def akv:FK 95 ⟨[cC,a7],[.im cC,.im a7],Lc⟩:=bd (az (az (az aW Kr) Cc) Fy) aX func95 6
def alf:FK 97 ⟨[cC],[.im cC],Nw⟩:=bd (az (az aW P9) Yi) aX func97 6
def akd:FK 71 ⟨[cC,kZ],[.im cC,.im a7],KR⟩:=bd (az (az (az (az (az (az (az (az (az aW alf) Yc) akv) ak7) alg) alm) Yd) akz) XC) aX func71 6
abbrev Nk:ik:=⟨p6,[kZ],[.im a7],p3⟩
def Yu:ij Tryz.prog 50 Nk:=oF (az (az aW akd) wT) aX (hB (hB iD Ku) FB) func50 7
def WE:fJ:=h1 (e6 [] [] [(42,Ip),(43,Nl),(44,Nh),(45,Np),(46,Nm),(47,Nn),(48,Nj),(49,Ni),(50,Nk)] [] none true false 0) f30 4
def arO:IK 30 WE:=ac3 (E:=(e6 [] [] [(42,Ip),(43,Nl),(44,Nh),(45,Np),(46,Nm),(47,Nn),(48,Nj),(49,Ni),(50,Nk)] [] none true false 0)) (n8 aW aX (hB (hB (hB (hB (hB (hB (hB (hB (hB iD Yu) Ys) Yt) Yx) Yw) Yy) Yo) Yv) Qd) oX pP) func30 4
def alP:FK 19 ⟨[wq,kZ],[.im wq,.im a7],Ji⟩:=Dq (E:=(e6 [] [(30,WE)] [(42,Ip),(43,Nl),(44,Nh),(45,Np),(46,Nm),(47,Nn),(48,Nj),(49,Ni),(50,Nk)] [] none false false 0)) (n8 aW (fB aX arO) (hB (hB (hB (hB (hB (hB (hB (hB (hB iD Yu) Ys) Yt) Yx) Yw) Yy) Yo) Yv) Qd) oX pP) func19 10 (by kernel_rfl) (by kernel_rfl) (λx =>by kernel_rfl)
def Yk:FK 9 ⟨[wq,.str],[.im wq,.im (.str)],qR⟩:=bd (az (az (az (az (az (az aW Ym) alP) Qc) alF) alH) Qb) aX func9 10
def alw:FK 51 ⟨[],[.im wo],NM⟩:=bd (az aW Qa) aX func51 3
def akf:FK 32 ⟨[a7,c_],[.im rT,.im a7],Q0⟩:=bd (az aW alw) aX func32 6
def akX:FK 33 ⟨[.bool],[.im BB],aev⟩:=bd aW aX func33 3
def alO:FK 21 ⟨[c_,.bool],[.im wq,.im a7],Jh⟩:=bd (az (az aW akX) akf) aX func21 10
def Yl:FK 10 ⟨[],[.im wq],Er⟩:=bd (az aW alO) aX func10 3
def alD:FK 11 ⟨[.str],[.im (.str)],I7⟩:=bd (az (az (az aW Yj) Yl) Yk) aX func11 9
def akR:FK 4 ⟨[],[.im dX],Hu⟩:=bd (az (az (az (az aW alD) Yl) Yk) Qb) aX func4 9
def akQ:FK 5 ⟨[a7],[.im (.str)],vJ⟩:=bd aW aX func5 4
def ak5:FK 12 ⟨[ii],[.im ii],H_⟩:=bd aW aX func12 3
def ak3:FK 6 ⟨[c_],[.im (.str)],DU⟩:=bd (az aW ak5) aX func6 5
def ak4:FK 8 ⟨[c_,c_],[.im dX],M0⟩:=bd aW aX func8 5
def akP:FK 3 ⟨[(.pair ii (.pair dX (.pair yD (.pair yD (.pair c_ lX)))))],[.im dX],L9⟩:=bd (az (az (az (az (az aW ak4) Qb) ak3) akQ) akR) aX func3 21
end Yp
namespace Yp
open Go
set_option maxRecDepth 100000
set_option maxHeartbeats 2000000
def OM:=@UInt32.toNat_or
def kX(x n:UInt32):UInt32:=u32 (gM .u32 (aS (u32 (fp .u32 (aS x) (aS n)))) (aS (u32 (ho .u32 (aS x) (aS (u32 (bi (aS (u32 32)) (aS n))))))))
def aul(a b:UInt32):u32 (gM .u32 (aS a) (aS b))=u32 (gM .u32 (aS b) (aS a)):=by rw[HY,HY,UInt32.or_comm]
def uw{x:UInt32}{k:Int}{n:UInt32}(O:cD (u64 (iI .u64 (cD (u64 k)) (cD (u64 31))))=aS (u32 (bi (aS (u32 32)) (aS n))))(R:cD (u64 (bi (cD (u64 32)) (cD (u64 (iI .u64 (cD (u64 k)) (cD (u64 31)))))))=aS n):
  kC (x,k,())=some (kX x n,()):=by
 unfold kC kX;rw[aul,R,O]
def gr(x:UInt32):kC (x, -2,())=some (kX x (u32 2),()):=uw rfl rfl
def sR(x:UInt32):kC (x, -13,())=some (kX x (u32 13),()):=uw rfl rfl
def Ui(x:UInt32):kC (x, -22,())=some (kX x (u32 22),()):=uw rfl rfl
def Uj(x:UInt32):kC (x, -6,())=some (kX x (u32 6),()):=uw rfl rfl
def avn(x:UInt32):kC (x, -11,())=some (kX x (u32 11),()):=uw rfl rfl
def avr(x:UInt32):kC (x, -25,())=some (kX x (u32 25),()):=uw rfl rfl
def aeJ(x:UInt32):kC (x, -7,())=some (kX x (u32 7),()):=uw rfl rfl
def avp(x:UInt32):kC (x, -18,())=some (kX x (u32 18),()):=uw rfl rfl
def avo(x:UInt32):kC (x, -17,())=some (kX x (u32 17),()):=uw rfl rfl
def avq(x:UInt32):kC (x, -19,())=some (kX x (u32 19),()):=uw iL iL
def V_(a b c d:UInt8):UInt32:=
 u32 (av (aS (u32 (av (aS (u32 (av (aS (u32 (e_ (aS (u32 (aI a))) (aS (u32 16777216))))) (aS (u32 (e_ (aS (u32 (aI b))) (aS (u32 65536)))))))) (aS (u32 (e_ (aS (u32 (aI c))) (aS (u32 256)))))))) (aS (u32 (aI d))))
def ahC(a b c d:UInt8):UInt32:=
 u32 (gM .u32 (aS (u32 (gM .u32 (aS (u32 (gM .u32 (aS (u32 (ho .u32 (aS (u32 (aI a))) (cD (u64 24))))) (aS (u32 (ho .u32 (aS (u32 (aI b))) (cD (u64 16)))))))) (aS (u32 (ho .u32 (aS (u32 (aI c))) (cD (u64 8)))))))) (aS (u32 (aI d))))
def uf(h:0<=a/\a<4294967296):aS (u32 a)=a:=by
 show(((BitVec.ofNat 32 ((a%2^32).toNat)).toNat:Nat):Int)=a
 grind
def Eo{a:Nat}(h:a<4294967296):(u32 (a:Int)).toNat=a:=by have:=uf (a:=(a:Int)) J;unfold aS at this;omega
def ayE(a b c d:UInt8):ahC a b c d=V_ a b c d:=by
 have bu:=a.toNat_lt;have Y:=b.toNat_lt;have ai:=c.toNat_lt;have aF:=d.toNat_lt;unfold ahC V_;have e1:∀x:UInt8,aS (u32 (aI x))=(x.toNat:Int):=λx=>by have:=x.toNat_lt;exact uf (a:=(x.toNat:Int)) J
 have bp:∀(x:UInt8),ho .u32 (aS (u32 (aI x))) (cD (u64 24))=((x.toNat*16777216:Nat):Int):=λx=>by rw[e1];show(x.toNat:Int)*2^24=_;omega
 have ax:∀(x:UInt8),ho .u32 (aS (u32 (aI x))) (cD (u64 16))=((x.toNat*65536:Nat):Int):=λx=>by rw[e1];show(x.toNat:Int)*2^16=_;omega
 have d5:∀(x:UInt8),ho .u32 (aS (u32 (aI x))) (cD (u64 8))=((x.toNat*256:Nat):Int):=λx=>by rw[e1];show(x.toNat:Int)*2^8=_;omega
 have bD:∀(x:UInt8),e_ (aS (u32 (aI x))) (aS (u32 16777216))=((x.toNat*16777216:Nat):Int):=λx=>by rw[e1,uf bP];show(x.toNat:Int)*16777216=_;omega
 have cn:∀(x:UInt8),e_ (aS (u32 (aI x))) (aS (u32 65536))=((x.toNat*65536:Nat):Int):=λx=>by rw[e1,uf bP];show(x.toNat:Int)*65536=_;omega
 have gJ:∀(x:UInt8),e_ (aS (u32 (aI x))) (aS (u32 256))=((x.toNat*256:Nat):Int):=λx=>by rw[e1,uf bP];show(x.toNat:Int)*256=_;omega
 rw[bp,ax,d5,bD,cn,gJ,HY,HY,HY];have k?:(u32 (aI d)).toNat=d.toNat:=Eo J;apply UInt32.toNat_inj.1;rw[OM,OM,OM,Eo J,Eo J,Eo J,k?];have TM:(c.toNat*256)|||d.toNat=c.toNat*256+d.toNat:=by have:=JH (i:=8) (b:=d.toNat) J c.toNat;rw[Jz];exact this.symm
 have mf:(b.toNat*65536)|||(c.toNat*256+d.toNat)=b.toNat*65536+(c.toNat*256+d.toNat):=by have:=JH (i:=16) (b:=c.toNat*256+d.toNat) J b.toNat;rw[Jz b.toNat];exact this.symm
 have li:(a.toNat*16777216)|||(b.toNat*65536+(c.toNat*256+d.toNat))=a.toNat*16777216+(b.toNat*65536+(c.toNat*256+d.toNat)):=by have:=JH (i:=24) (b:=b.toNat*65536+(c.toNat*256+d.toNat)) J a.toNat;rw[Jz a.toNat];exact this.symm
 rw[Nat.or_assoc,Nat.or_assoc,TM,mf,li];have bG:av (aS (u32 ((a.toNat*16777216:Nat):Int))) (aS (u32 ((b.toNat*65536:Nat):Int)))=((a.toNat*16777216+b.toNat*65536:Nat):Int):=by rw[uf J,uf J];show(_:Int)+_=_;omega
 rw[bG];have b_:av (aS (u32 ((a.toNat*16777216+b.toNat*65536:Nat):Int))) (aS (u32 ((c.toNat*256:Nat):Int)))=((a.toNat*16777216+b.toNat*65536+c.toNat*256:Nat):Int):=by rw[uf J,uf J];show(_:Int)+_=_;omega
 rw[b_];have cp:av (aS (u32 ((a.toNat*16777216+b.toNat*65536+c.toNat*256:Nat):Int))) (aS (u32 (aI d)))=((a.toNat*16777216+b.toNat*65536+c.toNat*256+d.toNat:Nat):Int):=by rw[uf J,e1];show(_:Int)+_=_;omega
 rw[cp,Eo J];omega
def as8(cn asU Tm asT:UInt32):UInt32:=
 u32 (av (aS (u32 (av (aS (u32 (av (aS (u32 (fx .u32 (aS (u32 (fx .u32 (aS (kX cn (u32 17))) (aS (kX cn (u32 19)))))) (aS (u32 (fp .u32 (aS cn) (cD (u64 10)))))))) (aS asU)))) (aS (u32 (fx .u32 (aS (u32 (fx .u32 (aS (kX Tm (u32 7))) (aS (kX Tm (u32 18)))))) (aS (u32 (fp .u32 (aS Tm) (cD (u64 3))))))))))) (aS asT))
def jX(b:V)(i:Nat):UInt8:=b.getD i 0
def jI(m:List UInt32)(i:Nat):UInt32:=m.getD i 0
def kF(b:V)(c':Nat):Nat->List UInt32
 |0=>List.replicate 64 0
 | t+1=>(kF b c' t).set t (if t < 16 then V_ (jX b (c'+4*t)) (jX b (c'+4*t+1)) (jX b (c'+4*t+2)) (jX b (c'+4*t+3))
   else as8 (jI (kF b c' t) (t-2)) (jI (kF b c' t) (t-7)) (jI (kF b c' t) (t-15)) (jI (kF b c' t) (t-16)))
def af1(b:V)(c':Nat):∀t,(kF b c' t).length=64
 |0=>by simp[kF]
 |t+1=>by rw[kF,ko];exact af1 b c' t
def af0{b c:V}{x y:Nat}(h:∀i,i<64->jX b (x+i)=jX c (y+i)):∀t,kF b x t=kF c y t
 |0=>rfl
 |t+1=>by
  rw[kF,kF,af0 h t];by_cases ht:t<16
  .rw[if_pos ht,if_pos ht,h (4*t) J,jv x,jv x,jv x,h (4*t+1) J,h (4*t+2) J,h (4*t+3) J];rfl
  grind
def fN(h:a=(n:Int))(aj:n<=9223372036854775807):i64 a=(n:Int):=by rw[h];exact hM J J
def aw3(b:V)(Y:b.length=64):Nv (b,())=some (kF b 0 64,()):=by
 unfold Nv;generalize hf:(λ(ab:Int×List UInt32×Unit)=>_)=f;have step:∀t:Nat,t<64->f ((t:Int),kF b 0 t,())=some (.nx (((t+1:Nat):Int),kF b 0 (t+1),())):=by
  intro t ht;subst hf;have hi:i64 (av (t:Int) 1)=((t+1:Nat):Int):=fN (by show(t:Int)+1=_;omega) J;refine bq cN ?_;by_cases nY:t<16
  .have d4:i64 (e_ 4 (t:Int))=((4*t:Nat):Int):=fN (by show 4*(t:Int)=_;omega) J
   have e1:i64 (av (i64 (e_ 4 (t:Int))) 1)=((4*t+1:Nat):Int):=by rw[d4];exact fN (by show((4*t:Nat):Int)+1=_;omega) J
   have aN:i64 (av (i64 (e_ 4 (t:Int))) 2)=((4*t+2:Nat):Int):=by rw[d4];exact fN (by show((4*t:Nat):Int)+2=_;omega) J
   have dJ:i64 (av (i64 (e_ 4 (t:Int))) 3)=((4*t+3:Nat):Int):=by rw[d4];exact fN (by show((4*t:Nat):Int)+3=_;omega) J
   refine bq cN ?_;rw[e1,aN,dJ,d4,hi];refine bn cN (bn cN (bn cN (bn cN (bn cN ?_))));have bb:=ayE (jX b (4*t)) (jX b (4*t+1)) (jX b (4*t+2)) (jX b (4*t+3));rw[kF,if_pos nY,jw,<- bb];rfl
  have QT:i64 (bi (t:Int) 15)=((t-15:Nat):Int):=fN (by show(t:Int)-15=_;omega) J;have aN:i64 (bi (t:Int) 2)=((t-2:Nat):Int):=fN (by show(t:Int)-2=_;omega) J;have amz:i64 (bi (t:Int) 7)=((t-7:Nat):Int):=fN (by show(t:Int)-7=_;omega) J;have amx:i64 (bi (t:Int) 16)=((t-16:Nat):Int):=fN (by show(t:Int)-16=_;omega) J;refine a1 cN ?_;rw[QT,aN,amz,amx,hi];refine bn cN ?_;refine bn jP ?_;rw[aeJ];rw[avp];rw[avo];rw[avq];refine bn jP ?_;refine bn jP ?_;refine bn jP ?_;rw[kF,if_neg nY];rfl
 have f6:∀m,f (((64:Nat):Int),m,())=some (.ex 0 (((64:Nat):Int),m,())):=by subst hf;intro m;exact b1 rfl
 have j':bN f (((0:Nat):Int),kF b 0 0,())=some (.ex 0 (((64:Nat):Int),kF b 0 64,())):=
  (md (f:=f) (λt=>((t:Int),kF b 0 t,())) 64 step 0 (fI _)).trans (d_ (f6 _))
 generalize ac:kF b 0 64=m at j';refine(da (show bN f _=_ from j')).trans ?_;rfl
def BU:=@Int.le_refl
def gN(c:UInt8):V->List V
 |[]=>[[]]
 |x::s=>if x=c then[]::gN c s else(x::(gN c s).headD [])::(gN c s).tail
def ahE(c:UInt8):∀s,gN c s≠[]
 |[]=>by simp[gN]
 |x::s=>by unfold gN;split<;>simp
def ahD(c:UInt8)(s:V):∀w,w.count c=0->gN c (w++c::s)=w::gN c s
 |[],_=>by show(if c=c then _ else _)=_;rw[if_pos rfl]
 |x::w,h=>by
  have hx:¬x=c:=λe=>by rw[e,List.count_cons_self]at h;omega
  have bb:w.count c=0:=by rw[List.count_cons_of_ne hx]at h;exact h
  show(if x=c then _ else(x::(gN c (w++c::s)).headD [])::(gN c (w++c::s)).tail)=_;rw[if_neg hx,ahD c s w bb];rfl
def Jg(c:UInt8):∀w,w.count c=0->gN c w=[w]
 |[],_=>rfl
 |x::w,h=>by
  have hx:¬x=c:=λe=>by rw[e,List.count_cons_self]at h;omega
  have bb:w.count c=0:=by rw[List.count_cons_of_ne hx]at h;exact h
  show(if x=c then _ else(x::(gN c w).headD [])::(gN c w).tail)=_;rw[if_neg hx,Jg c w bb];rfl
def acm{c:UInt8}:∀{s:V},0<s.count c->∃w r,s=w++c::r/\w.count c=0/\Lib.indexByte s c=(w.length:Int)
 |[],h=>by simp at h
 |x::s,h=>by
  by_cases hx:x=c
  .subst hx;exact⟨[],s,rfl,rfl,by unfold Lib.indexByte;rw[if_pos bh];rfl⟩
  rw[List.count_cons_of_ne hx]at h;obtain⟨w,r,e,bb,hi⟩:=acm h;refine⟨x::w,r,by rw[e];rfl,by rw[List.count_cons_of_ne hx];exact bb,?_⟩;unfold Lib.indexByte;rw[hi,if_neg (by simpa using hx),if_neg bh];rfl
def VU{α:Type}:∀(a:List α) (x y:α) (r:List α),cj (a++x::r) a.length y=a++y::r
 |[],_,_,_=>rfl
 |z::a,x,y,r=>by show z::cj (a++x::r) a.length y=_;rw[VU a];rfl
def WM(c:UInt8)(s:V)(hl:s.length<=1000000):Eh (s,[c],())=some (gN c s,()):=by
 have eB:s.count c<=s.length:=List.count_le_length;unfold Eh Va;dsimp only;rw[show U? (s,[c],())=some (((s.count c:Nat):Int),()) from rfl];have sm:i64 (av ((s.count c:Nat):Int) 1)=((s.count c+1:Nat):Int):=fN rfl J;have hm:fC ((s.count c+1:Nat):Int) (i64 (av (len s) 1))=((s.count c+1:Nat):Int):=by rw[fN (n:=s.length+1) (a:=av (len s) 1) rfl J];unfold fC;split<;>omega
 refine(bJ (a1 (show ag (-1) 0=false from rfl) (a1 (o5 (by intro h;cases h)) ((bJ (show(T (aJ (-1) 0) (ob (some (((s.count c:Nat):Int),())) λ(a:Int×Unit)=>some (i64 (av a.1 1),())) (some (-1,())):Option (Int×Unit))=some (((s.count c+1:Nat):Int),()) by rw[show aJ (-1) 0=true from rfl];exact congrArg (λz=>some (z,())) sm)).trans (dL rfl))))).trans ?_;dsimp only;rw[hm];refine(bJ (bn (by rw[rl (a:=0) (b:=((s.count c+1:Nat):Int)) J J (BU _),n? (by simp only[aa];omega)];rfl) ?_)).trans (show ob (some (gN c s,())) (λ(a:List V×Unit)=>some (a.1,()))=_ from rfl);have n1:i64 (bi ((s.count c+1:Nat):Int) 1)=((s.count c:Nat):Int):=by rw[hM]<;>simp only[bi]<;>omega
 rw[n1,show aa ((s.count c+1:Nat):Int)=s.count c+1 from rfl];generalize hg:(λ(ab:V×Int×List V×Unit)=>(_:Option (aE (V×Int×List V×Unit) (List V×Unit))))=F;have key:∀(k:Nat) (t:V) (d:List V),t.count c=k->d.length+k=s.count c->t.length<=s.length->∃t' l4,bN F (t,(d.length:Int),d++bO (k+1) [],())=some (.ex 0 (t',(s.count c:Nat),l4++[[]],()))/\l4.length=s.count c/\l4++[t']=d++gN c t:=by
  intro k;induction k with
  |zero =>intro t d ht aF bm;refine⟨t,d,d_ ?_,J,by rw[Jg c t ht]⟩;subst hg;show T (aJ (d.length:Int) _) _ _=_;rw[show(d.length:Int)=((s.count c:Nat):Int) by omega];exact b1 (c6 J)
  |succ k ih=>
   intro t d ht aF bm;obtain⟨w,r,e,bb,hi⟩:=acm (c:=c) (s:=t) J;have ah:r.count c=k:=by rw[e,List.count_append,List.count_cons_self,bb]at ht;omega
   have cr:t.length=w.length+(r.length+1):=by rw[e,cG,ew]
   obtain⟨t',l4,O,R,af⟩:=ih r (d++[w]) ah (by rw[cG];show _+1+_=_;omega) J;refine⟨t',l4,(ez ?_).trans O,R,by rw[af,e,ahD c r w bb,gt];rfl⟩;subst hg;refine bq (dj (by show(d.length:Int)<_;omega)) (bg (show NS (t,[c],())=some ((w.length:Int),()) by unfold NS;exact congrArg (λz=>some (z,())) hi) (a1 (c6 (by show ¬(w.length:Int)<0;omega)) ?_));have d4:i64 (av (w.length:Int) 0)=(w.length:Int):=fN (n:=w.length) (by show(w.length:Int)+0=_;omega) J;have e1:i64 (av (w.length:Int) (len [c]))=((w.length+1:Nat):Int):=fN rfl J;have aN:i64 (av (d.length:Int) 1)=(((d++[w]).length:Nat):Int):=fN (n:=(d++[w]).length) (by rw[cG];rfl) (by rw[cG];show _+1<=_;omega);dsimp only;rw[d4,e1,aN];refine bn (rl J J (by show(w.length:Int)<=(t.length:Int);omega)) (bn (sA J (by show(d.length:Int)<((d++bO (k+1+1) ([]:V)).length:Int);rw[cG,show(bO (k+1+1) ([]:V)).length=k+1+1 from oy];omega)) (bn (rl J (by show _<=(t.length:Int);omega) (BU _)) ?_));have bp:sub t ((w.length+1:Nat):Int) (len t)=r:=by unfold sub;rw[show(len t).toNat=t.length from rfl,show(((w.length+1:Nat):Int)).toNat=w.length+1 from rfl,e,List.drop_append,O5 J,show w.length+1-w.length=1 by omega];exact hS (by rw[nG,cG,ew,show(c::r).drop 1=r from rfl];omega)
   have ax:sub t 0 (w.length:Int)=w:=by unfold sub;rw[show(w.length:Int).toNat-(0:Int).toNat=w.length from rfl,show(0:Int).toNat=0 from rfl,nD,e,List.take_append,hS (bU _),BT];exact hF w
   rw[bp,ax,show aa (d.length:Int)=d.length from rfl,show bO (k+1+1) ([]:V)=[]::bO (k+1) [] from rfl,VU,gt];rfl
 obtain⟨t',l4,O,R,af⟩:=key (s.count c) s [] rfl bh (bU _);refine(da O).trans ?_;have e1:i64 (av ((s.count c:Nat):Int) 1)=((s.count c+1:Nat):Int):=sm;have aF:cj (l4++[[]]) (aa ((s.count c:Nat):Int)) t'=gN c s:=by rw[show aa ((s.count c:Nat):Int)=l4.length from R.symm,VU];exact af
 have bb:(gN c s).length=s.count c+1:=by rw[show gN c s=l4++[t'] from af.symm,cG,R];rfl
 unfold ci;dsimp only;rw[e1,aF];refine bn rfl (bn (sA J (by show _<((l4++[([]:V)]).length:Int);rw[cG,R];show _<((s.count c+1:Nat):Int);omega)) (bn (rl J (by show(0:Int)<=((s.count c+1:Nat):Int);omega) (by show((s.count c+1:Nat):Int)<=((gN c s).length:Int);omega)) ?_));rw[show aa 0=0 from rfl,show cd (aa ((s.count c+1:Nat):Int)) 0=s.count c+1 from rfl,<- bb];show some (((gN c s).drop 0).take _,())=_;rw[nD,nF]
def qh:Nat->Nat->V
 |0,n=>[dI (n%10)]
 |k+1,n=>if n<10 then[dI n]else qh k (n/10)++[dI (n%10)]
def pz(n:Nat):V:=qh 19 n
def K4(h:n<10):qh k n=[dI n]:=by
 cases k with
 |zero=>show[dI (n%10)]=_;rw[lY h]
 |succ k=>show(if n<10 then _ else _)=_;rw[if_pos h]
def ZI:∀(k n:Nat),n<10^(k+1)->∃j,j<=k/\qh k n=aZ 10 dI n (j+1)/\n<10^(j+1)/\(j=0\/10^j<=n)
 |0,n,h=>⟨0,bU _,by show[dI (n%10)]=[dI (n/10^0%10)];rw[Nat.pow_zero,Nat.div_one],h,.inl rfl⟩
 |k+1,n,h=>by
  by_cases kO:n<10
  .exact⟨0,J,by rw[K4 kO];show[dI n]=[dI (n/10^0%10)];rw[Nat.pow_zero,Nat.div_one,lY kO],J,.inl rfl⟩
  have aF:n/10<10^(k+1):=by rw[qW]at h;omega
  obtain⟨j,an,aA,hl,hg⟩:=ZI k (n/10) aF;refine⟨j+1,J,?_,?_,.inr ?_⟩
  .show(if n<10 then _ else qh k (n/10)++[dI (n%10)])=_
   rw[if_neg kO,aA,MO 10 dI n (j+1)]
  .rw[qW];omega
  rw[qW];rcases hg with rfl|hg
  .omega
  omega
def F6(h:n<10^20):∃j,j<=19/\pz n=aZ 10 dI n (j+1)/\n<10^(j+1)/\(j=0\/10^j<=n):=ZI 19 n h
def Q?(h:n<10^20):fY (pz n):=by obtain⟨j,_,aA,_,_⟩:=F6 h;rw[aA];exact zp
def VV(h:n<10^20):val (pz n)=n:=by obtain⟨j,_,aA,hl,_⟩:=F6 h;rw[aA,N7,lY hl]
def K5(h:n<10^20):1<=(pz n).length/\(pz n).length<=20:=by obtain⟨j,an,aA,_,_⟩:=F6 h;rw[aA,lm];omega
def anl(h:n<10^20):pz n=[48]\/(pz n).head?≠some 48:=by
 obtain⟨j,an,aA,hl,hg⟩:=F6 h;rw[aA];rcases hg with rfl|hg
 .by_cases ao:n=0
  .subst ao;exact .inl rfl
  right;show some (dI (n/10^0%10))≠some 48;rw[Nat.pow_zero,Nat.div_one,lY J];have:∀d,d<10->d≠0->dI d≠48:=bP;intro e;exact this n J ao (lZ e)
 right;show some (dI (n/10^j%10))≠some 48;have O:0<n/10^j:=Nat.div_pos hg (wL J);have R:n/10^j<10:=by rw[Nat.div_lt_iff_lt_mul (wL J)];rw[qW]at hl;omega
 rw[lY R];have:∀d,d<10->d≠0->dI d≠48:=bP;intro e;exact this _ R J (lZ e)
def q7(n:Int):V:=if n<0 then(if n%10=0 then[48]else[]) else pz n.toNat
def Za{r:Int}(h:r<10):mD (r,1,())=some (if 0<=r then([dI r.toNat],0,()) else([],1,())):=by
 rw[FP r 1 J];by_cases ao:0<=r
 .rw[if_pos ⟨J,J,ao,by show r<10^1;omega⟩,if_pos ao]
  obtain⟨n,rfl⟩:∃n:Nat,r=n:=⟨r.toNat,J⟩;show some ([dI (n/10^0%10)],(0:Int),())=_;rw[Nat.pow_zero,Nat.div_one,lY J];rfl
 rw[if_neg (λh=>ao h.2.2.1),if_neg ao]
def ZL(k:Nat)(x:Int×Unit):u? (k+1) x=ob (mD (dh x.1 10,1,())) λa:V×Int×Unit=>
  T (aJ x.1 10) (some (a.1,())) (ob (u? k (i64 (fe x.1 10),())) λb:V×Unit=>am (bE (av (len b.1) (len a.1)) 140737488355328) (some (bv b.1 a.1,()))):=by rw[u?]
def ZK:∀(k n:Nat),n<10^(k+1)->k<=19->n<=9223372036854775807->u? (k+1) ((n:Int),())=some (qh k n,())/\(qh k n).length<=k+1
 |k,n,h,ap,Y=>by
  have hm:dh (n:Int) 10=((n%10:Nat):Int):=vB;have aF:mD (dh (n:Int) 10,1,())=some ([dI (n%10)],0,()):=by rw[hm,Za J,if_pos J];rfl
  rw[ZL];dsimp only;rw[aF];by_cases kO:n<10
  .rw[K4 kO]
   refine⟨bq (dj (by show(n:Int)<10;omega)) (by rw[lY kO]),by show 1<=k+1;omega⟩
  cases k with
  |zero=>omega
  |succ k=>
   have bm:n/10<10^(k+1):=by rw[qW]at h;omega
   obtain⟨O,R⟩:=ZK k (n/10) bm J J;have hi:i64 (fe (n:Int) 10)=((n/10:Nat):Int):=z1 (a:=n) (b:=10) Y;have aA:qh (k+1) n=qh k (n/10)++[dI (n%10)]:=if_neg kO;rw[aA];refine⟨a1 (c6 (by show ¬(n:Int)<10;omega)) ?_,by rw[cG];show _+1<=_;omega⟩;dsimp only;rw[hi,O];have bY:bE (av (len (qh k (n/10))) (len [dI (n%10)])) 140737488355328=true:=hN (by simp only[av,len,JX];omega);rw[hj];exact dR bY
def ann{n:Int}(h:n<=9223372036854775807):Et (n,())=some (q7 n,()):=by
 unfold Et q7;by_cases ao:n<0
 .rw[if_pos ao]
  obtain⟨m,rfl⟩:∃m:Nat,n = -(m:Int):=⟨(-n).toNat,J⟩;have hm:dh (-(m:Int)) 10 = -((m%10:Nat):Int):=by show(-(m:Int)).tmod 10=_;rw[Int.neg_tmod];exact congrArg (λz => -z) (OO m 10).symm
  have ac:u? 20 (-(m:Int),())=ob (mD (dh (-(m:Int)) 10,1,())) λa:V×Int×Unit=>some (a.1,()):=by rw[ZL];exact congrArg _ (funext λa=>ce (dj (by show -(m:Int)<10;omega)))
  rw[ac,hm,Za J];by_cases bj:m%10=0
  .rw[bj,if_pos J,if_pos J];rfl
  rw[if_neg J,if_neg J];rfl
 rw[if_neg ao];obtain⟨m,rfl⟩:∃m:Nat,n=m:=⟨n.toNat,J⟩;exact(ZK 19 m J (bU _) J).1
abbrev y0:=UInt32×UInt32×UInt32×UInt32×UInt32×UInt32×UInt32×UInt32
def agR(k m h g f e:UInt32):UInt32:=
 u32 (av (aS (u32 (av (aS (u32 (av (aS (u32 (av (aS h) (aS (u32 (fx .u32 (aS (u32 (fx .u32 (aS (kX e (u32 6))) (aS (kX e (u32 11)))))) (aS (kX e (u32 25))))))))) (aS (u32 (fx .u32 (aS (u32 (iI .u32 (aS e) (aS f)))) (aS (u32 (iI .u32 (aS (u32 (fx .u32 4294967295 (aS e)))) (aS g)))))))))) (aS k)))) (aS m))
def axK(c b a:UInt32):UInt32:=
 u32 (av (aS (u32 (fx .u32 (aS (u32 (fx .u32 (aS (kX a (u32 2))) (aS (kX a (u32 13)))))) (aS (kX a (u32 22)))))) (aS (u32 (fx .u32 (aS (u32 (fx .u32 (aS (u32 (iI .u32 (aS a) (aS b)))) (aS (u32 (iI .u32 (aS a) (aS c))))))) (aS (u32 (iI .u32 (aS b) (aS c))))))))
def adD(k m:UInt32)(s:y0):y0:=
 (s.2.1,s.2.2.1,s.2.2.2.1,u32 (av (aS s.2.2.2.2.1) (aS (agR k m s.1 s.2.1 s.2.2.1 s.2.2.2.1))),s.2.2.2.2.2.1,s.2.2.2.2.2.2.1,s.2.2.2.2.2.2.2,
  u32 (av (aS (agR k m s.1 s.2.1 s.2.2.1 s.2.2.2.1)) (aS (axK s.2.2.2.2.2.1 s.2.2.2.2.2.2.1 s.2.2.2.2.2.2.2))))
def rE(vO:List UInt32)(s:y0):Nat->y0
 |0=>s
 |t+1=>adD (jI pL t) (jI vO t) (rE vO s t)
def AM(s:y0):List UInt32:=[s.2.2.2.2.2.2.2,s.2.2.2.2.2.2.1,s.2.2.2.2.2.1,s.2.2.2.2.1,s.2.2.2.1,s.2.2.1,s.2.1,s.1]
def WV(w:List UInt32)(s:y0):List UInt32:=
 [u32 (av (aS (jI w 0)) (aS s.2.2.2.2.2.2.2)),u32 (av (aS (jI w 1)) (aS s.2.2.2.2.2.2.1)),u32 (av (aS (jI w 2)) (aS s.2.2.2.2.2.1)),u32 (av (aS (jI w 3)) (aS s.2.2.2.2.1)),
  u32 (av (aS (jI w 4)) (aS s.2.2.2.1)),u32 (av (aS (jI w 5)) (aS s.2.2.1)),u32 (av (aS (jI w 6)) (aS s.2.1)),u32 (av (aS (jI w 7)) (aS s.1))]
def adG(w:List UInt32):y0:=(jI w 7,jI w 6,jI w 5,jI w 4,jI w 3,jI w 2,jI w 1,jI w 0)
def yf(w:List UInt32)(b:V)(c':Nat):List UInt32:=WV w (rE (kF b c' 64) (adG w) 64)
def amI{w:List α}(h:w.length=8):∃a b c d e f g i,w=[a,b,c,d,e,f,g,i]:=by
 match w,h with
 |[a,b,c,d,e,f,g,i],_=>exact⟨a,b,c,d,e,f,g,i,rfl⟩
def U9{c:V}{x y:Nat}(h:∀i,i<64->jX b (x+i)=jX c (y+i))(w:List UInt32):yf w b x=yf w c y:=by unfold yf;rw[af0 h]
def agf(w:List UInt32)(bb:w.length=8)(b:V)(Y:b.length=64):Nu (w,b,())=some (yf w b 0,0,()):=by
 refine a1 cN ?_;rw[aw3 b Y];have hm:=af1 b 0 64;unfold yf;generalize kF b 0 64=m at hm;refine bg rfl ?_;obtain⟨w0,cf,cO,fi,hq,Bu,N',N?,rfl⟩:=amI bb;generalize hf:(λ(x:Int×List UInt32×Unit)=>(_:Option (aE (Int×List UInt32×Unit) (List UInt32×Int×Unit))))=f;obtain⟨s,ac⟩:∃s,s=adG [w0,cf,cO,fi,hq,Bu,N',N?]:=⟨_,rfl⟩;have step:∀t:Nat,t<64->f ((t:Int),AM (rE m s t),())=some (.nx (((t+1:Nat):Int),AM (rE m s (t+1)),())):=by intro t ht;subst hf;have hi:i64 (av (t:Int) 1)=((t+1:Nat):Int):=fN (by show(t:Int)+1=_;omega) J;rw[show rE m s (t+1)=adD (jI pL t) (jI m t) (rE m s t) from rfl];generalize rE m s t=r;obtain⟨h,g,f,e,d,c,b,a⟩:=r;refine bq cN ?_;dsimp only[AM];rw[hi];refine bn cN ?_;refine bn rfl ?_;refine bn rfl ?_;rw[show ak [a,b,c,d,e,f,g,h] (aa 4) (u32 0)=e from rfl,Uj];refine bg rfl ?_;rw[avn];refine bg rfl ?_;rw[avr];refine bg rfl ?_;rw[show ak [a,b,c,d,e,f,g,h] (aa 0) (u32 0)=a from rfl,gr];refine bg rfl ?_;rw[sR];refine bg rfl ?_;rw[Ui];refine bn rfl ?_;refine bn rfl ?_;refine bn rfl ?_;refine bn cN ?_;rfl
 have f6:∀v,f (((64:Nat):Int),v,())=some (.ex 0 (((64:Nat):Int),v,())):=by subst hf;intro v;exact b1 rfl
 have j':bN f (((0:Nat):Int),AM (rE m s 0),())=some (.ex 0 (((64:Nat):Int),AM (rE m s 64),())):=
  (md (f:=f) (λt=>((t:Int),AM (rE m s t),())) 64 step 0 (fI _)).trans (d_ (f6 _))
 have ao:AM (rE m s 0)=[w0,cf,cO,fi,hq,Bu,N',N?]:=by rw[ac];rfl
 rw[ao]at j';rw[<- ac];generalize rE m s 64=r at j';obtain⟨h,g,u6,e,d,c,b',a⟩:=r;refine(da (show bN f (0,[w0,cf,cO,fi,hq,Bu,N',N?],())=_ from j')).trans ?_;refine(da (ub (r:=.ex 2 (((8:Nat):Int),WV [w0,cf,cO,fi,hq,Bu,N',N?] (h,g,u6,e,d,c,b',a),())) 9 rfl)).trans ?_;rfl
def jA(w:List UInt32)(l:V):Nat->List UInt32
 |0=>w
 |i+1=>yf (jA w l i) l (64*i)
def KL{w:List UInt32}(bb:w.length=8)(l:V):∀i,(jA w l i).length=8
 |0=>bb
 |_+1=>rfl
def aeE(l:V)(k i:Nat):jX (l.drop k) i=jX l (k+i):=by unfold jX;rw[nE,JP,<- nE]
def avj(l:V)(h:i<k):jX (l.take k) i=jX l i:=by unfold jX;rw[nE,O' h,<- nE]
def agM(w:List UInt32)(l:V)(k:Nat):yf w ((l.drop k).take 64) 0=yf w l k:=
 U9 (λi hi=>by rw[jw,avj _ hi,aeE]) w
def Zi{l m:V}(w:List UInt32):∀{i},(∀j,j<64*i->jX l j=jX m j)->jA w l i=jA w m i
 |0,_=>rfl
 |i+1,h=>by rw[jA,jA,Zi w λj an=>h j J];exact U9 (λj an=>h _ J) _
def Zh(w:List UInt32)(l:V)(i:Nat):∀j,jA w l (i+j)=jA (jA w l i) (l.drop (64*i)) j
 |0=>rfl
 |j+1=>by rw[<- jv,jA,jA,Zh w l i j];exact U9 (λk _=>by rw[aeE];congr 1;omega) _
abbrev tc:=List UInt32×Int×V×Unit
def nu(h:tc)(b:V):tc:=
 (jA h.1 (h.2.2.1++b) ((h.2.2.1++b).length/64),h.2.1+(b.length:Int),(h.2.2.1++b).drop (64*((h.2.2.1++b).length/64)),())
def ame(r b:V):dU (dU (bO (r.length+b.length) (u8 0)) 0 (aT (bO (r.length+b.length) (u8 0))) r) r.length (r.length+b.length-r.length) b=r++b:=by
 unfold dU bO aT;rw[oy,BW,nG,hS (show r.length<=r.length+b.length by omega),
  wB,BM,hS (bU _),List.drop_of_length_le bh,hF]
def aw1(H:List UInt32)(cy:H.length=8)(N:Int)(r b:V)(fM:0<=N)(Y:N+(b.length:Int)<=1125899906842624)(ah:r.length<=64)(hm:b.length<=1000000000):x' ((H,N,r,()),b,())=some (nu (H,N,r,()) b,()):=by
 refine a1 (by simp(disch:=omega) only[go_sem];omega) ?_;have e1:i64 (av (len r) (len b))=((r.length+b.length:Nat):Int):=fN (by show(r.length:Int)+(b.length:Int)=_;omega) J;have aN:i64 (av N (len b))=N+(b.length:Int):=hM (by show -9223372036854775808<=N+(b.length:Int);omega) (by show N+(b.length:Int)<=9223372036854775807;omega);rw[e1,aN];refine bn cN ?_;have cr:len (dU (bO (aa ((r.length+b.length:Nat):Int)) (u8 0)) 0 (aT (bO (aa ((r.length+b.length:Nat):Int)) (u8 0))) r)=((r.length+b.length:Nat):Int):=by
  unfold len dU bO aT aa
  grind
 rw[cr];refine bn cN ?_;rw[show aa (len r)=r.length from he,show aa ((r.length+b.length:Nat):Int)=r.length+b.length from he,show cd (r.length+b.length) r.length=r.length+b.length-r.length from rfl,ame];generalize hf:(λ(x:V×(List UInt32×Int×V×Unit)×Unit)=>(_:Option (aE (V×(List UInt32×Int×V×Unit)×Unit) ((List UInt32×Int×V×Unit)×Unit))))=f;generalize hl:r++b=l;have step:∀i,i<l.length/64->f (l.drop (64*i),(jA H l i,N+(b.length:Int),r,()),())=some (.nx (l.drop (64*(i+1)),(jA H l (i+1),N+(b.length:Int),r,()),())):=by
  intro i hi;subst hf;have aF:(l.drop (64*i)).length=l.length-64*i:=e?;have cr:len (l.drop (64*i))=((l.length-64*i:Nat):Int):=by unfold len;rw[aF]
  dsimp only;rw[cr];refine bq cN ?_;refine bn cN ?_;rw[show cut (l.drop (64*i)) (aa 0) (cd (aa 64) (aa 0))=(l.drop (64*i)).take 64 from rfl,agf _ (KL cy l i) _ (by rw[hE,aF];omega)];refine bn cN ?_;rw[agM];have ai:cut (l.drop (64*i)) (aa 64) (cd (aa ((l.length-64*i:Nat):Int)) (aa 64))=l.drop (64*(i+1)):=by unfold cut;rw[show aa 64=64 from rfl,qX,hS (by rw[e?];show _<=l.length-64*i-64;omega)];congr 1
  rw[ai];rfl
 have f6:f (l.drop (64*(l.length/64)),(jA H l (l.length/64),N+(b.length:Int),r,()),())=some (.ex 0 (l.drop (64*(l.length/64)),(jA H l (l.length/64),N+(b.length:Int),r,()),())):=by
  subst hf;have cr:len (l.drop (64*(l.length/64)))=((l.length-64*(l.length/64):Nat):Int):=by unfold len;rw[e?]
  dsimp only;rw[cr];exact b1 cN
 have j':=(md (f:=f) (λi=>(l.drop (64*i),(jA H l i,N+(b.length:Int),r,()),())) (l.length/64) step 0 (fI _)).trans (d_ f6);refine(da (j')).trans ?_;subst hl;rfl
def O8:=@List.flatMap_append
def hD(r:Nat):Nat:=(119-r)%64
def n4(n:Int)(i:Nat):V:=(List.range i).map λj=>u8 (fp .i64 (i64 (e_ 8 n)) ((56-8*j:Nat):Int))
def AD(n:Int):V:=[u8 128]++List.replicate (hD (n.toNat%64)) (u8 0)++n4 n 8
def eI(x:UInt32):V:=[u8 (aS (u32 (fp .u32 (aS x) (cD (u64 24))))),u8 (aS (u32 (fp .u32 (aS x) (cD (u64 16))))),u8 (aS (u32 (fp .u32 (aS x) (cD (u64 8))))),u8 (aS x)]
def ui(w:List UInt32)(i:Nat):V:=(List.range i).flatMap λj=>eI (jI w j)
def TZ(w:List UInt32):∀i,(ui w i).length=4*i
 |0=>rfl
 |i+1=>by unfold ui;rw[BV,O8,cG];have:=TZ w i;unfold ui at this;rw[this];simp[eI];omega
def aup(w:List UInt32)(i:Nat):ui w (i+1)=ui w i++eI (jI w i):=by unfold ui;rw[BV];simp
def asH(n:Int)(i:Nat):n4 n (i+1)=n4 n i++[u8 (fp .i64 (i64 (e_ 8 n)) ((56-8*i:Nat):Int))]:=by unfold n4;rw[BV,E4];rfl
def acL(n:Int)(i:Nat):(n4 n i).length=i:=by simp[n4]
def A'(h:tc):V:=ui (jA h.1 (h.2.2.1++AD h.2.1) ((h.2.2.1++AD h.2.1).length/64)) 8
def av1(l:V)(k:Nat):l++List.replicate k (u8 0)++[u8 0]=l++List.replicate (k+1) (u8 0):=by rw[gt,<- List.replicate_succ']
def aw2(H:List UInt32)(cy:H.length=8)(N:Int)(r:V)(fM:0<=N)(azk:N<=1125899906842624)(ah:r.length=N.toNat%64):A8 ((H,N,r,()),())=some (A' (H,N,r,()),()):=by
 unfold A8;dsimp only;have bj:bO (aa 0) (u8 0)=[]:=rfl;rw[bj,show bv ([]:V) r=r from rfl,show bv r [u8 128]=r++[u8 128] from rfl];refine bn bP ?_;refine bn jP ?_;refine bn (by simp(disch:=first|assumption|omega|(dsimp only;omega)|decide) only[go_sem,Int.reduceToNat];simp;omega) ?_;generalize hf:(λ(x:V×Unit)=>(_:Option (aE (V×Unit) (V×Unit))))=f;have azB:r.length<64:=J;have azL:hD (N.toNat%64)<64:=by unfold hD;omega
 have step:∀i:Nat,i<hD (N.toNat%64)->f (r++[u8 128]++List.replicate i (u8 0),())=some (.nx (r++[u8 128]++List.replicate (i+1) (u8 0),())):=by
  intro i hi;subst hf;have hl:(r++[u8 128]++List.replicate i (u8 0)).length=r.length+1+i:=fs;have eC:¬(((r++[u8 128]++List.replicate i (u8 0)).length:Int)%64=56):=by rw[hl];unfold hD at hi;omega
  refine bq jP ?_;refine bn (by simp(disch:=first|assumption|omega|(dsimp only;omega)|decide) only[go_sem,Int.reduceToNat];simp;omega) ?_;show some (aE.nx (r++[u8 128]++List.replicate i (u8 0)++[u8 0],()))=_;rw[av1]
 have f6:f (r++[u8 128]++List.replicate (hD (N.toNat%64)) (u8 0),())=some (.ex 0 (r++[u8 128]++List.replicate (hD (N.toNat%64)) (u8 0),())):=by
  subst hf;have hl:(r++[u8 128]++List.replicate (hD (N.toNat%64)) (u8 0)).length=r.length+1+hD (N.toNat%64):=fs;have aA:(((r++[u8 128]++List.replicate (hD (N.toNat%64)) (u8 0)).length:Int)%64=56):=by rw[hl];unfold hD;omega
  exact b1 jP
 have j':=(md (f:=f) (λi=>(r++[u8 128]++List.replicate i (u8 0),())) (hD (N.toNat%64)) step 0 (fI _)).trans (d_ f6);rw[List.replicate_zero,hF]at j';refine(da j').trans ?_;generalize hL:r++[u8 128]++List.replicate (hD (N.toNat%64)) (u8 0)=L;have aoI:L.length=r.length+1+hD (N.toNat%64):=by rw[<- hL];simp;omega
 generalize hf:(λ(ab:V×Int×Unit)=>(_:Option (aE (V×Int×Unit) (V×Unit))))=f;have step:∀i:Nat,i<8->f (L++n4 N i,56-8*(i:Int),())=some (.nx (L++n4 N (i+1),56-8*((i+1:Nat):Int),())):=by
  intro i hi;subst hf;refine bq jP ?_;refine bn jP ?_;refine bn (by simp(disch:=first|assumption|omega|(dsimp only;omega)|decide) only[go_sem,Int.reduceToNat];simp[acL];omega) ?_;rw[show bv (L++n4 N i) [u8 (fp .i64 (i64 (e_ 8 N)) (56-8*(i:Int)))]=L++n4 N (i+1) by rw[asH,show((56-8*i:Nat):Int)=56-8*(i:Int) by omega];exact gt _ _ _,
   show i64 (bi (56-8*(i:Int)) 8)=56-8*((i+1:Nat):Int) by rw[hM (by show -9223372036854775808<=56-8*(i:Int)-8;omega) (by show 56-8*(i:Int)-8<=9223372036854775807;omega)];show 56-8*(i:Int)-8=_;omega]
 have f6:f (L++n4 N 8,56-8*((8:Nat):Int),())=some (.ex 2 (L++n4 N 8,56-8*((8:Nat):Int),())):=by subst hf;exact b1 (show bE 0 (56-8*((8:Nat):Int))=false from rfl)
 have j':=(md (f:=f) (λi=>(L++n4 N i,56-8*(i:Int),())) 8 step 0 (fI _)).trans (d_ f6);have ao:(L++n4 N 0,56-8*((0:Nat):Int),())=(L,56,()):=by simp[n4]
 rw[ao]at j';refine(da j').trans ?_;have hT:L++n4 N 8=r++AD N:=by rw[<- hL];unfold AD;simp
 rw[hT];have RV:(r++AD N).length=r.length+1+hD (N.toNat%64)+8:=by rw[<- hT,cG,acL,aoI]
 have aoO:(r++AD N).length%64=0:=by rw[RV];unfold hD;omega
 generalize sq:r++AD N=b8 at RV aoO;generalize hf:(λ(x:V×List UInt32×Unit)=>(_:Option (aE (V×List UInt32×Unit) (V×Unit))))=f;have step:∀i,i<b8.length/64->f (b8.drop (64*i),jA H b8 i,())=some (.nx (b8.drop (64*(i+1)),jA H b8 (i+1),())):=by
  intro i hi;subst hf;have aF:(b8.drop (64*i)).length=b8.length-64*i:=e?;have cr:len (b8.drop (64*i))=((b8.length-64*i:Nat):Int):=by unfold len;rw[aF]
  dsimp only;rw[cr];refine bq jP ?_;refine bn jP ?_;rw[show cut (b8.drop (64*i)) (aa 0) (cd (aa 64) (aa 0))=(b8.drop (64*i)).take 64 from rfl,agf _ (KL cy b8 i) _ (by rw[hE,aF];omega)];refine bn jP ?_;rw[agM];have ai:cut (b8.drop (64*i)) (aa 64) (cd (aa ((b8.length-64*i:Nat):Int)) (aa 64))=b8.drop (64*(i+1)):=by unfold cut;rw[show aa 64=64 from rfl,he,qX,hS (by rw[e?];show _<=b8.length-64*i-64;omega)];congr 1
  rw[ai];rfl
 have f6:f (b8.drop (64*(b8.length/64)),jA H b8 (b8.length/64),())=some (.ex 4 (b8.drop (64*(b8.length/64)),jA H b8 (b8.length/64),())):=by
  subst hf;have cr:len (b8.drop (64*(b8.length/64)))=((b8.length-64*(b8.length/64):Nat):Int):=by unfold len;rw[e?]
  dsimp only;rw[cr];exact b1 jP
 have j':=(md (f:=f) (λi=>(b8.drop (64*i),jA H b8 i,())) (b8.length/64) step 0 (fI _)).trans (d_ f6);refine(da (show bN f (b8,H,())=_ from j')).trans ?_;refine bn g62 ?_;unfold A';rw[sq];have bb:=KL cy b8 (b8.length/64);generalize jA H b8 (b8.length/64)=w at bb;generalize hf:(λ(x:V×Int×Unit)=>(_:Option (aE (V×Int×Unit) (V×Unit))))=f;have step:∀i:Nat,i<8->f (ui w i,(i:Int),())=some (.nx (ui w (i+1),((i+1:Nat):Int),())):=by intro i hi;subst hf;have hl:=TZ w i;have gG:i64 (av (i:Int) 1)=((i+1:Nat):Int):=fN (by show(i:Int)+1=_;omega) J;refine bq jP ?_;refine bn jP ?_;refine bn (by simp(disch:=first|assumption|omega|(dsimp only;omega)|decide) only[go_sem,Int.reduceToNat];simp;omega) ?_;rw[gG,aup];rfl
 have f6:∀v,f (v,((8:Nat):Int),())=some (.ex 6 (v,((8:Nat):Int),())):=by subst hf;intro v;exact b1 rfl
 have j':=(md (f:=f) (λi=>(ui w i,(i:Int),())) 8 step 0 (fI _)).trans (d_ (f6 _));refine(da (show bN f ([],0,())=_ from j')).trans ?_;exact dR g62
def WS:=@List.drop_append_of_le_length
def wK:=@Prod.ext
def Ds(h:0<=a/\a<18446744073709551616):cD (u64 a)=a:=by
 show(((BitVec.ofNat 64 ((a%2^64).toNat)).toNat:Nat):Int)=a
 grind
def HP(h:tc):Prop:=h.1.length=8/\0<=h.2.1/\h.2.2.1.length=h.2.1.toNat%64
def AL{h:tc}(hh:HP h)(b:V):HP (nu h b):=by
 obtain⟨O,R,af⟩:=hh;refine⟨KL O _ _,?_,?_⟩
 .show 0<=h.2.1+(b.length:Int);omega
 show((h.2.2.1++b).drop (64*((h.2.2.1++b).length/64))).length=(h.2.1+(b.length:Int)).toNat%64
 grind
def avg(h:tc)(x y:V):nu (nu h x) y=nu h (x++y):=by
 obtain⟨H,N,r,⟨⟩⟩:=h;unfold nu;generalize hL:r++x=L;have dS:r++(x++y)=L++y:=by rw[<- gt,hL]
 rw[dS];have a2:64*(L.length/64)<=L.length:=J;have aF:(L++y).drop (64*(L.length/64))=L.drop (64*(L.length/64))++y:=WS a2;have cr:(L.drop (64*(L.length/64))++y).length=L.length-64*(L.length/64)+y.length:=by rw[cG,e?]
 have aj:(L++y).length/64=L.length/64+(L.drop (64*(L.length/64))++y).length/64:=by rw[cr,cG];omega
 have aA:jA H (L++y) (L.length/64)=jA H L (L.length/64):=by
  refine Zi H λj an => ?_;unfold jX
  grind
 refine wK ?_ (wK ?_ (wK ?_ rfl))
 .dsimp only;rw[aj,Zh,aF,aA]
 .grind
 dsimp only;rw[aj,<- aF,qX];congr 1;omega
def axI(h:tc):(A' h).length=32:=by unfold A';rw[TZ]
def vD:tc:=([u32 1779033703,u32 3144134277,u32 1013904242,u32 2773480762,u32 1359893119,u32 2600822924,u32 528734635,u32 1541459225],0,[],())
def xy:HP vD:=⟨rfl,BU _,rfl⟩
def Ix{h:tc}(hh:HP h)(b:V)(fM:h.2.1<=1000000000)(Y:b.length<=1000000000):x' (h,b,())=some (nu h b,()):=by obtain⟨H,N,r,⟨⟩⟩:=h;obtain⟨O,R,af⟩:=hh;have azg:r.length=N.toNat%64:=af;have Gn:N<=1000000000:=fM;exact aw1 H O N r b R J J Y
def UR{h:tc}(hh:HP h)(fM:h.2.1<=1000000000000):A8 (h,())=some (A' h,()):=by obtain⟨H,N,r,⟨⟩⟩:=h;obtain⟨O,R,af⟩:=hh;have Gn:N<=1000000000000:=fM;exact aw2 H O N r R J af
theorem agh:Iv ()=some (vD,()):=rfl
def A7(b:V):V:=A' (nu vD b)
def Nt(b:V):(A7 b).length=32:=axI _
def agi(b:V)(Y:b.length<=1000000000):Iw (b,())=some (A7 b,()):=by unfold Iw;rw[agh];refine bg rfl ?_;rw[Ix xy b bP Y];refine bg rfl ?_;have aj:(nu vD b).2.1=0+(b.length:Int):=rfl;rw[UR (AL xy b) J];rfl
def acT{σ ρ:Type}{f:σ->Option (aE σ ρ)}(l:List α)(mk:Nat->σ)(e:Nat)(r:ρ)(p:α->Prop)
  (ac:∀i (h:i<l.length),p l[i]->f (mk i)=some (.nx (mk (i+1)))) (Y:∀i (h:i<l.length),¬p l[i]->f (mk i)=some (.rt r)) (aA:f (mk l.length)=some (.ex e (mk l.length))) :
  ((∀x∈l,p x)/\bN f (mk 0)=some (.ex e (mk l.length)))\/((¬∀x∈l,p x)/\bN f (mk 0)=some (.rt r)):=by
 by_cases h:∀x∈l,p x
 .exact .inl ⟨h,(md mk l.length (λi hi=>ac i hi (h _ (mu hi))) 0 (fI _)).trans (d_ aA)⟩
 refine .inr ⟨h,?_⟩;have key:∀(n i:Nat),l.length-i=n->i<=l.length->(∃j,∃(an:j<l.length),i<=j/\¬p l[j])->bN f (mk i)=some (.rt r):=by
  intro n;induction n with
  |zero=>rintro i aj hi ⟨j,an,O,_⟩;omega
  |succ n ih=>
   rintro i aj hi ⟨j,an,O,R⟩;have rc:i<l.length:=J;by_cases hp:p l[i]
   .rw[ez (ac i rc hp)]
    refine ih (i+1) J J ⟨j,an,?_,R⟩;rcases Nat.lt_or_eq_of_le O with h|rfl
    .exact h
    exact absurd hp R
   exact pO (Y i rc hp)
 refine key _ 0 rfl (fI _) ?_;refine k2 λaj=>h λx hx=>k2 λaqS => ?_;obtain⟨j,an,rfl⟩:=uP hx;exact aj ⟨j,an,fI _,aqS⟩
def mz(key:V):V:=let k:=if 64<key.length then A7 key else key;k++List.replicate (64-k.length) (u8 0)
def ajD(key:V):(mz key).length=64:=by
 unfold mz;by_cases h:64<key.length
 .simp only[if_pos h,cG,oy,Nt]
 grind
def YX(k:V)(h:k.length<=64):dU (bO (aa 64) (u8 0)) 0 (aT (bO (aa 64) (u8 0))) k=k++List.replicate (64-k.length) (u8 0):=by unfold dU bO aT;rw[oy,show aa 64=64 from rfl,BW,nG,hS h,jw,Nat.min_eq_right h,List.drop_replicate]
def asV(key:V)(h:key.length<=1000000000):Tn (key,())=some (mz key,()):=by
 refine bn rfl ?_;by_cases ap:64<key.length
 .refine bq cN ?_
  rw[agi _ h];refine bg rfl ?_;rw[YX _ (by rw[Nt];omega)];unfold mz;simp only[if_pos ap]
 refine a1 cN ?_;dsimp only;rw[YX _ J];unfold mz;simp only[if_neg ap]
def j0(c:UInt8)(l:V):V:=l.map λx=>u8 (fx .u8 (aI x) (aI c))
def Wf(c:UInt8)(l:V):(j0 c l).length=l.length:=by simp[j0]
def ano{L:List α}{z:α}(hL:L.length=n)(hi:i<n):(L.take i++List.replicate (n-i) z).set i (L[i]'J)=L.take (i+1)++List.replicate (n-(i+1)) z:=by
 have O:(L.take i).length=i:=by rw[hE];omega
 rw[List.set_append_right _ _ J,O,BT,show n-i=(n-(i+1))+1 by omega,J0,nH J,gt];rfl
def ahM{f:Int×V×Unit->Option (aE (Int×V×Unit) Unit)}(c:UInt8)(k:V)(ap:k.length=64)
  (hf:f=λ(x:Int×V×Unit)=>T (aJ x.1 (len k)) (am (aU x.1 (len k)) (am (aU x.1 (len x.2.1)) (some (aE.nx (i64 (av x.1 1),cj x.2.1 (aa x.1) (u8 (fx .u8 (aI (ak k (aa x.1) (u8 0))) (aI c))),()))))) (some (aE.ex 0 (x.1,x.2.1,())))) :
  bN f (0,bO (aa 64) (u8 0),())=some (.ex 0 (64,j0 c k,())):=by
 have hx:(j0 c k).length=64:=by rw[Wf,ap]
 have step:∀i:Nat,i<64->f ((i:Int),(j0 c k).take i++List.replicate (64-i) (u8 0),())=some (.nx (((i+1:Nat):Int),(j0 c k).take (i+1)++List.replicate (64-(i+1)) (u8 0),())):=by
  intro i hi;subst hf;have hl:((j0 c k).take i++List.replicate (64-i) (u8 0)).length=64:=by rw[cG,hE,oy];omega
  have gG:i64 (av (i:Int) 1)=((i+1:Nat):Int):=fN (by show(i:Int)+1=_;omega) J;refine bq (by simp only[go_sem,Int.reduceToNat];omega) ?_;refine bn (by simp only[go_sem,Int.reduceToNat];omega) ?_;refine bn (by simp only[go_sem,Int.reduceToNat];omega) ?_;dsimp only;rw[gG,show cj ((j0 c k).take i++List.replicate (64-i) (u8 0)) (aa (i:Int)) (u8 (fx .u8 (aI (ak k (aa (i:Int)) (u8 0))) (aI c)))=(j0 c k).take (i+1)++List.replicate (64-(i+1)) (u8 0) from ?_];rw[<- ano hx hi,he,nth_get (by omega:i<k.length)];unfold cj;congr 1;simp[j0]
 have f6:f (((64:Nat):Int),(j0 c k).take 64++List.replicate (64-64) (u8 0),())=some (.ex 0 (((64:Nat):Int),(j0 c k).take 64++List.replicate (64-64) (u8 0),())):=by subst hf;exact b1 (by simp only[go_sem,Int.reduceToNat];omega)
 have:=(md (f:=f) (λi=>((i:Int),(j0 c k).take i++List.replicate (64-i) (u8 0),())) 64 step 0 (fI _)).trans (d_ f6);rw[hS (show(j0 c k).length<=64 by omega),BT,List.replicate_zero,hF]at this;exact this
def I0(key b:V):V:=A7 (j0 (u8 92) (mz key)++A7 (j0 (u8 54) (mz key)++b))
def axN(key b:V):(I0 key b).length=32:=Nt _
def aeA(x y:V):A' (nu (nu vD x) y)=A7 (x++y):=by rw[avg];rfl
def To(key b:V)(h:key.length<=1000000)(Y:b.length<=1000000):Dl (key,b,())=some (I0 key b,()):=by unfold Dl;dsimp only;rw[asV _ J];refine bn rfl ?_;have ap:=ajD key;rw[ahM (u8 92) _ ap rfl];refine bn g62 ?_;dsimp only;rw[agh];refine bg rfl ?_;have eW:=(Wf (u8 92) (mz key)).trans ap;have f7:=(Wf (u8 54) (mz key)).trans ap;rw[Ix xy _ bP J];refine bn rfl ?_;rw[ahM (u8 54) _ ap rfl];refine bn g62 ?_;refine bg rfl ?_;dsimp only;rw[Ix xy _ bP J];refine bg rfl ?_;have vP:(nu vD (j0 (u8 54) (mz key))).2.1=0+((j0 (u8 54) (mz key)).length:Int):=rfl;have qD:(nu (nu vD (j0 (u8 54) (mz key))) b).2.1=0+((j0 (u8 54) (mz key)).length:Int)+(b.length:Int):=rfl;have HI:(nu vD (j0 (u8 92) (mz key))).2.1=0+((j0 (u8 92) (mz key)).length:Int):=rfl;rw[Ix (AL xy _) b J J];refine bg rfl ?_;rw[UR (AL (AL xy _) _) J,aeA];refine bg rfl ?_;dsimp only;have Ac:=Nt (j0 (u8 54) (mz key)++b);rw[Ix (AL xy _) _ J J];refine bg rfl ?_;have ade:∀y,(nu (nu vD (j0 (u8 92) (mz key))) y).2.1=0+((j0 (u8 92) (mz key)).length:Int)+(y.length:Int):=λ_=>rfl;rw[UR (AL (AL xy _) _) (by grind),aeA];rfl
def Fc:=@List.flatMap_nil
def fo(p:V):V:=[u8 (fp .i64 (len p) (cD (u64 8))),u8 (len p)]++p
def Bc(l:List V):V:=l.flatMap fo
def rK(label:V)(l:List V):V:=[u8 (len label)]++label++Bc l
def MG(p:V):(fo p).length=p.length+2:=by simp[fo]
def axX(h:∀p∈l,p.length<=1000):(Bc l).length<=1002*l.length:=by
 induction l with
 |nil=>simp[Bc]
 |cons p r ih =>have O:=h p bh;have R:=ih λq a2=>h q (by grind);unfold Bc at R ⊢;rw[yQ,cG,MG,ew];omega
def axY(hi:i<l.length):Bc (l.take (i+1))=Bc (l.take i)++fo l[i]:=by unfold Bc;rw[nH hi,O8,yQ,Fc,hF]
def ahg{label:V}(O:label.length<=255)(R:l.length<=16)(h:∀p∈l,p.length<=1000):(rK label l).length<=20000:=by have:=axX h;unfold rK;simp only[cG,ew,gu];omega
def KE(key label:V)(l:List V):V:=I0 key (rK label l)
def QL(key label:V)(l:List V):(KE key label l).length=32:=axN _ _
def acV(key label:V)(l:List V)(ap:key.length<=1000000)(O:label.length<=255)(R:l.length<=16)(h:∀p∈l,p.length<=1000):Mb (key,label,l,())=some (KE key label l,0,()):=by
 refine bg (a:=(false,())) (a1 cN (by rw[show aJ 16 (len l)=false from c6 cN])) ?_;refine bn (by simp only[go_sem];simp;omega) ?_;generalize hf:(λ(ab:Int×V×Int×Unit)=>(_:Option (aE (Int×V×Int×Unit) (V×Int×Unit))))=f;have hT:∀i,(rK label (l.take i)).length<=20000:=λi=>ahg O (by rw[hE];omega) (λp hp=>h p (List.mem_of_mem_take hp));have step:∀i:Nat,i<l.length->f (0,rK label (l.take i),(i:Int),())=some (.nx (0,rK label (l.take (i+1)),((i+1:Nat):Int),())):=by
  intro i hi;subst hf;have gG:i64 (av (i:Int) 1)=((i+1:Nat):Int):=fN (by show(i:Int)+1=_;omega) J;have hp:=h l[i] (mu hi);have ht:=hT i;have aj:ak l (aa (i:Int)) (aO UInt8)=l[i]:=by rw[he,nth_get hi]
  refine bq cN ?_;refine bn cN ?_;rw[aj];refine a1 cN ?_;refine bn (by simp only[go_sem];simp;omega) ?_;refine bn (by simp only[go_sem];simp;omega) ?_;rw[gG,show rK label (l.take (i+1))=rK label (l.take i)++fo l[i] by unfold rK;rw[axY hi,gt,gt,gt]];unfold fo bv;simp
 have f6:∀u,f (0,u,(l.length:Int),())=some (.ex 0 (0,u,(l.length:Int),())):=by subst hf;intro u;exact b1 cN
 have j':=(md (f:=f) (λi=>(0,rK label (l.take i),(i:Int),())) l.length step 0 (fI _)).trans (d_ (f6 _));rw[hS (bU _)]at j';have ao:rK label (l.take 0)=bv [u8 (len label)] label:=by unfold rK;rw[BW];exact hF _
 rw[ao]at j';refine(da (j')).trans ?_;refine bn g62 ?_;dsimp only;have:=ahg O R h;rw[To _ _ ap J];rfl
def C?(key:V):V:=(I0 key (List.replicate 8 (u8 0))).take 3
def asj(key:V):(C? key).length=3:=by unfold C?;rw[hE];rfl
def acW(key:V)(ap:key.length<=1000000):HA (key,())=some (C? key,()):=by unfold HA;rw[show bO (aa 8) (u8 0)=List.replicate 8 (u8 0) from rfl,To _ _ ap bh];rfl
def jY(k b:V):V:=(I0 k b).take 16
def AV(k b:V):(jY k b).length=16:=by unfold jY;rw[hE];rfl
def Ud(k b:V)(ap:k.length<=1000000)(Y:b.length<=1000000):DN (k,b,())=some (jY k b,()):=by unfold DN;rw[To _ _ ap Y];rfl
abbrev ah3:=V×V×Unit
def aeu(p:fk)(k b:V):H5 (p,k,b,())=some (D ((k,b,())∈p.2.1),()):=by
 unfold H5;congr 2;refine oo ?_;rw[wz];constructor
 .rintro⟨⟨e1,aN,⟨⟩⟩,aA,h⟩
  simp only[cZ,seq,cM,beq_iff_eq]at h
  grind
 intro h;exact⟨_,h,by simp[cZ,seq]⟩
def ln(p:fk)(k b:V):fk:=if(k,b,())∈p.2.1 then p else(p.1,p.2.1++[(k,b,())],p.2.2)
def Vb(l:List α):sub l 0 (len l)=l:=by unfold sub;rw[show(0:Int).toNat=0 from rfl,nD,show(len l).toNat=l.length from he,hS J]
def Qs(l:List α):cZ (ca 0 (len l) (len l)) (ag (len l) (len l))=true:=by rw[cK rfl,g37];simp only[go_sem];omega
def al2(l:List ah3):NH (l,())=some (l,()):=by unfold NH;rw[Vb];exact dR (Qs l)
def Xv(l:V)(h:l.length<=1000000):Kg (l,())=some (l,()):=by exact dR cN
def au4(p:fk)(k b:V)(hl:p.2.1.length<=1050000000000)(ap:k.length<=1000000)(Y:b.length<=1000000):MM (p,k,b,())=some (ln p k b,jY k b,()):=by
 unfold MM;rw[aeu];unfold ln;by_cases h:(k,b,())∈p.2.1
 .rw[cF h,if_pos h]
  rw[Ud _ _ ap Y];rfl
 rw[cE h,if_neg h];rw[al2];rw[Xv _ ap];rw[Xv _ Y];refine bn (by simp only[go_sem];simp;omega) ?_;rw[Ud _ _ ap Y];rfl
def au2(p:fk)(k b:V):(ln p k b).2.1.length<=p.2.1.length+1:=by
 unfold ln;split
 .omega
 simp
def AF(p:fk)(k b t:V):fk×Bool×Unit:=
 if jY k b=t then(if(k,b,())∈p.2.1 then(p,true,()) else((p.1,p.2.1,true,()),!p.1,())) else(p,false,())
def B9(n:Int):V:=aZ 256 m_ n.toNat 8
def ajr(n:Int):(B9 n).length=8:=lm _ _ _ _
def o0(n:Int):V:=B9 n++(A7 ([u8 121,u8 101,u8 116,u8 116]++B9 n)).take 8
def MY(n:Int):(o0 n).length=16:=by unfold o0;rw[cG,hE];rfl
def Zu(n:Int):Prop:=1<=n/\n<=4611686018427387904
def ajt{n:Int}(h:Zu n):((1:Int)<=8/\(8:Int)<=8/\0<=n/\n<256^(8:Int).toNat):=by
 obtain⟨O,R⟩:=h
 grind
def UZ(n:Int)(aj:n<=9223372036854775807):IJ (n,())=some (if 1<=n/\n<=4611686018427387904 then(o0 n,0,()) else([],1,())):=by
 by_cases h:1<=n/\n<=4611686018427387904
 .rw[if_pos h]
  refine bg (a:=(false,())) (a1 cN (by rw[show aJ 4611686018427387904 n=false from c6 J])) ?_;refine a1 rfl ?_;rw[QO _ _ aj,if_pos (ajt h)];refine bg rfl ?_;rw[show aZ 256 m_ n.toNat (8:Int).toNat=B9 n from rfl];have:=ajr n;rw[show bv [u8 121,u8 101,u8 116,u8 116] (B9 n)=[u8 121,u8 101,u8 116,u8 116]++B9 n from rfl,agi _ (by grind)];rfl
 rw[if_neg h];by_cases O:n<1
 .refine bg (a:=(true,())) (ce cN) ?_
  rfl
 refine bg (a:=(true,())) (a1 cN (by rw[show aJ 4611686018427387904 n=true from dj J])) ?_;rfl
def l8(b:V):Int×Bool×Unit:=
 if(jq b 0 8).2.2.1=0/\(1<=(jq b 0 8).1/\(jq b 0 8).1<=4611686018427387904)/\o0 (jq b 0 8).1=b then((jq b 0 8).1,true,()) else(0,false,())
def axP(b:V):(jq b 0 8).1<=9223372036854775807:=by
 unfold jq;split
 .decide
 split
 .decide
 split
 .decide
 rename_i O R af;have hl:0+8<=b.length:=J;have:=Xb hl J (λh=>af ⟨rfl,by simpa using h.2⟩) 7 J;have e:(ec b 0 8).take (7+1)=ec b 0 8:=hS (by rw[yk hl];omega)
 grind
def agx(b:V)(Y:b.length<=1000000):II (b,())=some (l8 b):=by
 unfold II l8;rw[Y_ _ _ _ Y];have bY:=axP b;generalize jq b 0 8=t at bY;obtain⟨n,a,e,⟨⟩⟩:=t;by_cases aA:e=0
 .refine a1 cN ?_
  rw[UZ _ bY];refine bg rfl ?_;by_cases aj:1<=n/\n<=4611686018427387904
  .rw[if_pos aj]
   rw[PM];by_cases ah:o0 n=b
   .rw[if_pos ⟨aA,aj,ah⟩,cF ah];rfl
   rw[if_neg (λh=>ah h.2.2),cE ah];rfl
  rw[if_neg aj,if_neg (λh=>aj h.2.1)];rfl
 refine bq cN ?_
 grind
abbrev m4:=V×V×Unit
def jz(s:m4):Int×Int×Bool×Unit:=
 if(l8 s.2.1).2.1=true/\((l8 s.1).2.1=false\/(l8 s.1).1<(l8 s.2.1).1) then((l8 s.2.1).1,1,true,()) else((l8 s.1).1,0,(l8 s.1).2.1,())
def agw(s:m4)(bu:s.1.length<=1000000)(Y:s.2.1.length<=1000000):IH (s,())=some (jz s):=by
 unfold IH jz U0;rw[agx _ bu,agx _ Y];generalize l8 s.1=a;generalize l8 s.2.1=b;obtain⟨n,i,⟨⟩⟩:=a;obtain⟨m,j,⟨⟩⟩:=b;by_cases h:n<m
 .cases i<;>cases j<;>(simp(disch:=omega) only[go_sem];try simp[h])
 cases i<;>cases j<;>(simp(disch:=omega) only[go_sem];try simp[h])
def YR(a b:V)(bu:a.length<=1000000)(Y:b.length<=1000000):Ee ([a,b],())=some (a++b,()):=by
 have:=YT (c:=1) (z:=u8 0) J [a,b] bh (λx hx=>by
  rcases gE.1 hx with rfl|hx
  .exact bu
  rcases gE.1 hx with rfl|hx
  .exact Y
  cases hx)
 simp at this;exact this
def aau(h:(l8 b).2.1=true):(1<=(l8 b).1/\(l8 b).1<=4611686018427387904)/\o0 (l8 b).1=b:=by
 unfold l8 at h ⊢
 grind
def Xa{s:m4}(h:(jz s).2.2.1=true):1<=(jz s).1/\(jz s).1<=4611686018427387904:=by
 unfold jz at h ⊢;split
 .rename_i ai;exact(aau ai.1).1
 rename_i ai;rw[if_neg ai]at h;exact(aau h).1
def ajn(s:m4):(jz s).2.1=0\/(jz s).2.1=1:=by
 unfold jz
 grind
def sH(cut:Int):Int:=if 0<=cut/\cut<16 then cut else 16
def xA(n:Int)(cut:Int)(old:V):V:=(o0 (n+1)).take (sH cut).toNat++old.drop (sH cut).toNat
def mm(s:m4)(cut:Int):m4×Int×Int×Unit:=
 if(jz s).2.2.1=false then(s,0,12,())
 else if(jz s).1=4611686018427387904 then(s,0,10,())
 else
  let cq:m4:=if(jz s).2.1=0 then(s.1,xA (jz s).1 cut s.2.1,()) else(xA (jz s).1 cut s.1,s.2.1,())
  if sH cut<16 then(cq,0,11,()) else(cq,(jz s).1,0,())
def uv(s:m4):Prop:=s.1.length=16/\s.2.1.length=16
def acX(c:Int):0<=sH c/\sH c<=16:=by unfold sH;split<;>omega
def axq(s:m4)(c:Int)(ac:uv s):NN (s,c,())=some (mm s c):=by
 obtain⟨A,B,⟨⟩⟩:=s;have dn:A.length=16:=ac.1;have aB:B.length=16:=ac.2;unfold NN mm;rw[agw (A,B,()) (by show A.length<=1000000;omega) (by show B.length<=1000000;omega)];have O:=Xa (s:=(A,B,()));have R:=ajn (A,B,());generalize jz (A,B,())=t at O R;obtain⟨n,c',is,⟨⟩⟩:=t;cases is
 .rfl
 have O:=O rfl;refine a1 rfl ?_;have e1:i64 (av n 1)=n+1:=hM (by show -9223372036854775808<=n+1;omega) (by show n+1<=9223372036854775807;omega);rw[e1,UZ _ J];by_cases aj:n=4611686018427387904
 .rw[if_pos aj,if_neg J];rfl
 rw[if_neg aj,if_pos J];refine a1 rfl ?_;have hm:=acX c;have ah:=MY (n+1);obtain⟨m,h?⟩:∃m,m=sH c:=⟨_,rfl⟩;have ht:(T (bE 0 c) (some (aJ c 16,())) (some (false,())):Option (Bool×Unit))=some (D (m<16),()):=by
  rw[h?];unfold sH;by_cases ao:0<=c
  .by_cases af:c<16
   .rw[if_pos ⟨ao,af⟩];simp(disch:=omega) only[go_sem]
   rw[if_neg (λh=>af h.2),cE J];simp(disch:=omega) only[go_sem];rw[cE af]
  rw[ cE J];simp(disch:=omega) only[go_sem]
 rw[ht];refine bg rfl ?_;have GZ:(T (a_ (D (m<16))) (some (16,())) (some (c,())):Option (Int×Unit))=some (m,()):=by
  by_cases h:m<16
  .rw[cF h]
   show some (c,())=_;rw[h?]at h ⊢;unfold sH at h ⊢
   grind
  rw[cE h];show some ((16:Int),())=_
  grind
 rw[GZ];have hL:∀old:V,old.length=16->Ee ([cut (o0 (n+1)) (aa 0) (cd (aa m) (aa 0)),sub old m (len old)],())=some (xA n c old,()):=by
  intro old aK;have aN:cut (o0 (n+1)) (aa 0) (cd (aa m) (aa 0))=(o0 (n+1)).take (sH c).toNat:=by rw[h?];rfl
  have dJ:sub old m (len old)=old.drop (sH c).toNat:=by unfold sub;rw[h?,hS];rw[e?];show _<=(old.length:Int).toNat-_;omega
  rw[aN,dJ,YR _ _ (by rw[hE];omega) (by rw[e?];omega)];rfl
 rcases R with rfl|rfl
 .refine bq rfl ?_
  refine bn cN ?_;refine bn cN ?_;rw[hL B aB];rw[ <- h?];by_cases h:m<16
  .rw[cF h,if_pos h];rfl
  rw[cE h,if_neg h];rfl
 refine a1 rfl ?_;refine bn cN ?_;refine bn cN ?_;rw[hL A dn];rw[ <- h?];by_cases h:m<16
 .rw[cF h,if_pos h];rfl
 rw[cE h,if_neg h];rfl
def Du:m4:=(o0 1,List.replicate 16 (u8 0),())
def jU(p:Int):Prop:=2<=p/\p<=6
def oK(p:Int):Prop:=p=3\/p=4\/p=5
instance (p:Int):Decidable (jU p):=by unfold jU;infer_instance
instance (p:Int):Decidable (oK p):=by unfold oK;infer_instance
def Ab(p:Int):Int:=if p=0 then 0 else if p=1 then 1 else if p=2 then 2 else if p=3 then 3 else if p=4 then 4 else if p=5 then 4 else if p=6 then 5 else -1
def aeq(p:Int):AG (p,())=some (Ab p,()):=by
 unfold AG Ab;by_cases ao:p=0
 .subst ao;rfl
 by_cases O:p=1
 .subst O;rfl
 by_cases R:p=2
 .subst R;rfl
 by_cases af:p=3
 .subst af;rfl
 by_cases aq:p=4
 .subst aq;rfl
 by_cases a8:p=5
 .subst a8;rfl
 by_cases cT:p=6
 .subst cT;rfl
 rw[if_neg ao,if_neg O,if_neg R,if_neg af,if_neg aq,if_neg a8,if_neg cT];simp(disch:=omega) only[go_sem]
def asp(p:Int):2<=Ab p↔jU p:=by
 unfold Ab jU
 repeat' split
 all_goals omega
def asq(p:Int):Ab p=3\/Ab p=4↔oK p:=by
 unfold Ab oK
 all_goals omega
def H4(p:Int):um (p,())=some (D (jU p),()):=by unfold um;rw[aeq];simp only[go_sem,asp]
def H3(p:Int):xV (p,())=some (D (oK p),()):=by unfold xV;simp only[go_sem,aeq,asq]
def zq(c s:Int)(b:V):Prop:=pM c/\1<=s/\s<=999999/\1<=b.length/\b.length<=900
instance (c s:Int) (b:V):Decidable (zq c s b):=by unfold zq;infer_instance
def ai3(c:Int):J6 (c,())=some (D (pM c),()):=by
 unfold J6 pM;by_cases O:c=1
 .subst O;simp only[go_sem]
 by_cases R:c=2
 .subst R;simp(disch:=omega) only[go_sem]
 by_cases af:c=101
 .subst af;simp(disch:=omega) only[go_sem]
 by_cases aq:c=201
 .subst aq;simp(disch:=omega) only[go_sem]
 simp only[go_sem,O,R,af,aq]
def ai6(c s:Int)(b:V):J9 (c,s,b,())=some (D (zq c s b),()):=by
 unfold J9 zq;rw[ai3];by_cases ap:pM c
 .simp only[go_sem,ap];exact pZ J
 rw[cE (p:=_/\_) (λh=>ap h.1)];simp only[go_sem,ap]
def jW:gv:=(0,0,0,0,[],())
def nN(c s:Int)(b:V):gv×Int×Unit:=if zq c s b then((c,s,8,3,b,()),0,()) else(jW,1,())
def ai2(c s:Int)(b:V):J5 (c,s,b,())=some (nN c s b):=by
 unfold J5 nN;rw[ai6];by_cases h:zq c s b
 .rw[cF h,if_pos h];rfl
 rw[cE h,if_neg h];rfl
def W5(a:gv):Fl (a,())=some (D (a=jW),()):=by
 unfold Fl Po jW;simp only[go_sem,PM];refine pZ ?_
 grind
def qB(a:gv)(c s:Int):Prop:=¬a=jW/\a.1=c/\a.2.1=s
def J7(a:gv)(c s:Int):wO (a,c,s,())=some (D (qB a c s),()):=by unfold wO qB;rw[W5];simp only[go_sem]
def AR(a:gv):Prop:=a=jW\/zq a.1 a.2.1 a.2.2.2.2.1/\1<=a.2.2.1/\a.2.2.1<=8/\0<=a.2.2.2.1/\a.2.2.2.1<=3
def lw(n:Int):Int:=if n<0\/999999<=n then 1 else n+1
def ai4(n:Int):J8 (n,())=some (lw n,()):=by
 unfold J8 lw;by_cases h:n<0\/999999<=n
 .rw[if_pos h];simp(disch:=omega) only[go_sem]
 rw[if_neg h];simp(disch:=omega) only[go_sem]
def T9(u:List Bool)(n:Nat):Option Nat:=((List.range 4).map λi=>(n+i)%4).find? λc=>u.getD c false
def eF(h:eO):eO×Int×Int×Unit:=match T9 h.1 h.2.2.2.1.toNat with|none=>(h,0,11,())|some c=>((h.1,h.2.1,h.2.2.1,(((c+1)%4:Nat):Int),()),(c:Int),0,())
def aaa{w:List α}(h:w.length=4):∃a b c d,w=[a,b,c,d]:=by
 match w,h with
 |[a,b,c,d],_=>exact⟨a,b,c,d,rfl⟩
def arg(h:eO)(aL:h.1.length=4)(aj:0<=h.2.2.2.1/\h.2.2.2.1<4):SL (h,())=some (eF h):=by obtain⟨u,f,l,n,⟨⟩⟩:=h;dsimp only at aL aj;obtain⟨a,b,c,d,rfl⟩:=aaa aL;have:n=0\/n=1\/n=2\/n=3:=J;rcases this with rfl|rfl|rfl|rfl<;>cases a<;>cases b<;>cases c<;>cases d<;>(refine(da (ub 5 rfl)).trans ?_;kernel_rfl)
def anM(b:V)(h:1<=b.length/\b.length<=1024):Rl (b,())=some (fo b,0,()):=by refine bg (a:=(false,())) (a1 cN (by rw[show aJ 1024 (len b)=false from c6 cN])) ?_;refine bn (by simp only[go_sem];simp;omega) ?_;rfl
abbrev wv:=Int×V×Unit
def jG:wv:=(0,[],())
def n7:fa:=(jG,jG,jG,0,0,())
def ar6(g:wv):(g.1=0/\(g.2.1.length:Int)=0)↔g=jG:=by obtain⟨n,k,⟨⟩⟩:=g;unfold jG;simp
def UD(g:wv):Ii (g,())=some (D (g=jG),()):=by unfold Ii;simp only[go_sem];exact pZ (ar6 g)
def sS(g:wv):Prop:=1<=g.1/\g.1<=2147483647/\g.2.1.length=32
instance (g:wv):Decidable (sS g):=by unfold sS;infer_instance
def awk(g:wv):M_ (g,())=some (D (sS g),()):=by unfold M_ sS;simp only[go_sem];exact pZ J
def ar7(r:fa):(r.1=jG/\r.2.1=jG/\r.2.2.1=jG/\r.2.2.2.1=0/\r.2.2.2.2.1=0)↔r=n7:=by obtain⟨a,b,c,l,t,⟨⟩⟩:=r;unfold n7;simp
def ae7(r:fa):M? ((r,()),())=some (D (r=n7),()):=by
 refine bg rfl ?_;generalize hf:(λ(x:Bool×Int×Unit)=>(_:Option (aE (Bool×Int×Unit) (Bool×Unit))))=f;have key:=acT (f:=f) [r.1,r.2.1,r.2.2.1] (λi=>(false,(i:Int),())) 0 ((false,()):Bool×Unit) (λg=>g=jG) (λi h hp => ?_) (λi h hp => ?_) ?_
 .rcases key with⟨h,hl⟩|⟨h,hl⟩
  .refine(da (hl)).trans ?_
   have O:=h r.1 bh;have R:=h r.2.1 bh;have af:=h r.2.2.1 bh;simp only[go_sem];exact pZ (Iff.trans ⟨λh=>⟨O,R,af,h.1,h.2⟩,λh=>⟨h.2.2.2.1,h.2.2.2.2⟩⟩ (ar7 r))
  refine(da (hl)).trans ?_;rw[cE (λe=>h (by rw[e];intro x hx;simp[n7]at hx;exact hx))];rfl
 .subst hf
  have af:i<3:=h;have gG:i64 (av (i:Int) 1)=((i+1:Nat):Int):=fN rfl J;refine bq cN ?_;refine bn cN ?_;rw[gG,he,nth_get h,UD,cF hp];rfl
 .subst hf
  have af:i<3:=h;refine bq cN ?_;refine bn cN ?_;rw[he,nth_get h,UD,cE hp];rfl
 subst hf;rfl
def rn(r:fa):Int×Int×Unit:=if r=n7 then(0,9,()) else if 2147483647<=r.2.2.2.2.1 then(0,10,()) else(r.2.2.2.2.1+1,0,())
def awh(r:fa)(h:r.2.2.2.2.1<=2147483647)(ao:0<=r.2.2.2.2.1):M8 (r,())=some (rn r):=by
 unfold M8 rn;rw[ae7];by_cases ah:r=n7
 .rw[cF ah,if_pos ah];rfl
 rw[cE ah,if_neg ah];by_cases ht:2147483647<=r.2.2.2.2.1
 .rw[if_pos ht];simp(disch:=omega) only[go_sem]
 rw[if_neg ht];simp(disch:=omega) only[go_sem]
def mg(r:fa)(no:Int)(key:V):fa×Int×Unit:=
 if ¬sS (no,key,()) then(r,1,()) else if r=n7\/no<=r.1.1\/no<r.2.2.1.1 then(r,9,()) else((r.1,r.2.1,(no,key,()),r.2.2.2.1,max r.2.2.2.2.1 no,()),0,())
def UC(r:fa)(no:Int)(key:V):DX (r,no,key,())=some (mg r no key):=by
 unfold DX mg;rw[awk];by_cases hg:sS (no,key,())
 .rw[if_neg (not_not_intro hg),cF hg]
  rw[ae7];by_cases ai:r=n7\/no<=r.1.1\/no<r.2.2.1.1
  .rw[if_pos ai]
   simp(disch:=omega) only[go_sem]
  rw[if_neg ai];simp at ai;obtain⟨c1,c2,hw⟩:=ai;simp(disch:=omega) only[go_sem,c1]
 rw[if_pos hg,cE hg];rfl
def Bv(r:fa):fa:=(r.1,r.2.1,jG,r.2.2.2)
theorem azY(r:fa):Ih (r,())=some (Bv r,()):=rfl
def Bj(r:fa):fa×Int×Unit:=if r.2.2.1=jG then(r,9,()) else((r.2.2.1,r.1,jG,16,r.2.2.2.2),0,())
def ae6(r:fa):AW (r,())=some (Bj r):=by
 unfold AW Bj;rw[UD];by_cases h:r.2.2.1=jG
 .rw[if_pos h,cF h];rfl
 rw[if_neg h,cE h];rfl
def Dt(k:V):fa×Int×Unit:=if k.length=32 then(((1,k,()),jG,jG,0,1,()),0,()) else(n7,1,())
def awg(k:V):M7 (k,())=some (Dt k):=by
 unfold M7 Dt;by_cases h:k.length=32
 .rw[if_pos h];simp(disch:=omega) only[go_sem];rfl
 rw[if_neg h];simp(disch:=omega) only[go_sem];rfl
def lR(r:fa):Prop:=r=n7\/(sS r.1/\r.2.2.2.2.1<=2147483647/\r.1.1<=r.2.2.2.2.1/\r.2.2.1.1<=r.2.2.2.2.1 /\
 (r.2.1=jG/\r.2.2.2.1=0\/¬r.2.1=jG/\sS r.2.1/\r.2.1.1<r.1.1/\1<=r.2.2.2.1/\r.2.2.2.1<=16)/\(r.2.2.1=jG\/sS r.2.2.1/\r.1.1<r.2.2.1.1))
def qj(r:fa)(no:Int):V×Bool×Unit:=
 if no<1 then([],false,()) else if r.1.1=no then(r.1.2.1,true,()) else if r.2.1.1=no then(r.2.1.2.1,true,()) else if r.2.2.1.1=no then(r.2.2.1.2.1,true,()) else([],false,())
def dC(n:Int):Prop:=0<=n/\n<=4611686018427387904
instance (n:Int):Decidable (dC n):=by unfold dC;infer_instance
def d4(v:dr):Int:=ak v.2.2.1 0 0
def e1(v:dr):Int:=ak v.2.2.1 1 0
def mi(v:dr):Prop:=(v.1=1\/v.1=2)/\dC (d4 v)/\dC (e1 v)/\dC v.2.2.2.2.1/\(v.2.1=0\/v.2.1=1)/\(0<=v.2.2.2.1/\v.2.2.2.1<=2147483647)/\1<=v.2.2.2.2.2.1.length/\v.2.2.2.2.2.1.length<=900
def Q2(n hi:Int):Cu (n,hi,())=some (D (0<=n/\n<=hi),()):=by unfold Cu;simp only[go_sem]
def Zt(v:dr):FW (v,())=some (D (mi v),()):=by
 obtain⟨k,d,e,g,s,b,t,⟨⟩⟩:=v;unfold FW mi d4 e1;by_cases ap:k=1\/k=2
 .refine bg (a:=(false,())) (by rcases ap with rfl|rfl<;>rfl) ?_
  rw[show aa 0=0 from rfl,show aa 1=1 from rfl];generalize ak e 0 0=x;generalize ak e 1 0=y;generalize hf:(λ(ab:Bool×Int×Unit)=>(_:Option (aE (Bool×Int×Unit) (Bool×Unit))))=f;have key:=acT (f:=f) [x,y,s] (λi=>(false,(i:Int),())) 0 ((false,()):Bool×Unit) dC (λi h hp => ?_) (λi h hp => ?_) ?_
  .rcases key with⟨h,hl⟩|⟨h,hl⟩
   .refine(da (hl)).trans ?_
    have O:=h x bh;have R:=h y bh;have af:=h s bh;simp only[go_sem,Q2];refine pZ ?_
    grind
   refine(da (hl)).trans ?_;rw[cE (λai=>h λz bj => ?_)]
   .rfl
   grind
  .subst hf
   have af:i<3:=h;have gG:i64 (av (i:Int) 1)=((i+1:Nat):Int):=fN rfl J;refine bq cN ?_;refine bn cN ?_;rw[gG,he,nth_get h,Q2,cF (show 0<=[x,y,s][i]/\[x,y,s][i]<=4611686018427387904 from hp)];rfl
  .subst hf
   have af:i<3:=h;refine bq cN ?_;refine bn cN ?_;rw[he,nth_get h,Q2,cE (show ¬(0<=[x,y,s][i]/\[x,y,s][i]<=4611686018427387904) from hp)];rfl
  subst hf;rfl
 rw[cE (λh=>ap h.1)];simp at ap;obtain⟨O,R⟩:=ap;refine bg (a:=(true,())) (by simp only[go_sem,O,R]) ?_;rfl
def f_(w:Nat)(n:Int):V:=aZ 256 m_ n.toNat w
def m9(w:Nat)(n:Int):(f_ w n).length=w:=lm _ _ _ _
def c3(v:dr):V:=f_ 1 v.1++f_ 1 v.2.1++f_ 8 (d4 v)++f_ 8 (e1 v)++f_ 4 v.2.2.2.1++f_ 8 v.2.2.2.2.1++v.2.2.2.2.2.1
def xx(v:dr):(c3 v).length=30+v.2.2.2.2.2.1.length:=by unfold c3;simp only[cG,m9]
def ajs{n:Int}{w:Nat}(O:1<=w)(cz:w<=8)(ao:0<=n)(h:n<256^w)(aj:n<=9223372036854775807):pw (n,(w:Int),())=some (f_ w n,0,()):=by rw[QO _ _ aj,if_pos ⟨J,J,ao,by rw[i0];exact h⟩];rfl
def L_{f:Int×V×Unit->Option (aE (Int×V×Unit) Unit)}(w:Nat)(l:List Int)(dc:V)(O:1<=w)(cz:w<=8)(hl:l.length<=10)(bu:dc.length<=1000)(h:∀n∈l,0<=n/\n<256^w/\n<=9223372036854775807)
  (hf:f=λ(ab:Int×V×Unit)=>T (aJ ab.1 (len l)) (am (aU ab.1 (len l)) (ob (pw (ak l (aa ab.1) 0,(w:Int),())) λ(a:V×Int×Unit)=>am (cB 1 (bQ (aT ab.2.1) (aT a.1))) (some (aE.nx (i64 (av ab.1 1),bv ab.2.1 a.1,()))))) (some (aE.ex 0 (ab.1,ab.2.1,())))) :
  bN f (0,dc,())=some (.ex 0 ((l.length:Int),dc++l.flatMap (f_ w),())):=by
 have hL:∀i,((l.take i).flatMap (f_ w)).length<=8*i:=by intro i;rw[List.length_flatMap];have:((l.take i).map λa=>(f_ w a).length)=(l.take i).map λ_=>w:=List.map_congr_left λa _=>m9 w a;rw[this,List.map_const',List.sum_replicate_nat,hE];have:min i l.length*w<=i*8:=JO (Nat.min_le_left _ _) cz;omega
 have step:∀i:Nat,i<l.length->f ((i:Int),dc++(l.take i).flatMap (f_ w),())=some (.nx (((i+1:Nat):Int),dc++(l.take (i+1)).flatMap (f_ w),())):=by intro i hi;subst hf;have gG:i64 (av (i:Int) 1)=((i+1:Nat):Int):=fN (by show(i:Int)+1=_;omega) J;obtain⟨bG,b_,cp⟩:=h l[i] (mu hi);have xi:=hL i;refine bq cN ?_;refine bn cN ?_;rw[gG,he,nth_get hi,ajs O cz bG b_ cp];refine bn (by simp only[go_sem];simp only[cG,m9];omega) ?_;rw[nH hi,O8,yQ,Fc,hF];unfold bv;simp
 have f6:∀u,f ((l.length:Int),u,())=some (.ex 0 ((l.length:Int),u,())):=by subst hf;intro u;exact b1 cN
 have:=(md (f:=f) (λi=>((i:Int),dc++(l.take i).flatMap (f_ w),())) l.length step 0 (fI _)).trans (d_ (f6 _));rw[hS (bU _),BW,Fc,hF]at this;exact this
def Q1(v:dr)(aC:mi v):w6 (v,())=some (c3 v,0,()):=by
 unfold w6;rw[Zt,cF aC];obtain⟨k,d,e,g,s,b,t,⟨⟩⟩:=v;unfold c3;obtain⟨O,R,af,aq,a8,cT,dN,cz⟩:=aC;unfold d4 dC at R;unfold e1 dC at af;unfold dC at aq;unfold d4 e1;dsimp only at *
 rw[show aa 0=0 from rfl,show aa 1=1 from rfl];generalize ak e 0 0=x at R;generalize ak e 1 0=y at af;refine(da (L_ 1 [k,d] [] J J bh bh (λn aj => ?_) rfl)).trans ?_
 .grind
 refine(da (L_ 8 [x,y] _ J J bh (by simp[m9]) (λn aj => ?_) rfl)).trans ?_
 .grind
 refine(da (L_ 4 [g] _ J J bh (by simp[m9]) (λn aj => ?_) rfl)).trans ?_
 .grind
 refine(da (L_ 8 [s] _ J J bh (by simp[m9]) (λn aj => ?_) rfl)).trans ?_
 .grind
 refine bn g62 ?_;refine bn (by simp only[go_sem];simp[m9];omega) ?_;rfl
def o1(v:dr):Prop:=mi v/\v.2.2.2.2.2.2.1.length=16
def jL(v:dr)(t:V):dr:=(v.1,v.2.1,v.2.2.1,v.2.2.2.1,v.2.2.2.2.1,v.2.2.2.2.2.1,t,())
def Zs(v:dr):Ct (v,())=some (D (o1 v),()):=by unfold Ct o1;rw[Zt];simp only[go_sem];exact pZ (and_congr_right λ_=>J)
def amX(v:dr)(aC:o1 v):KU (v,())=some (c3 v++v.2.2.2.2.2.2.1,0,()):=by unfold KU;rw[Zs,cF aC];rw[Q1 _ aC.1];have O:=xx v;have R:=aC.2;have af:=aC.1.2.2.2.2.2.2.2;refine bn cN ?_;rfl
abbrev gX:=Int×List UInt64×Unit
abbrev qb:=Int×V×Unit
abbrev lz:=Int×List Int×Int×V×Unit
abbrev p_:=V×Int×Int×Unit
def ep:p_:=([],0,0,())
def KZ(f:p_):Int:=256*aI (ak f.1 0 (u8 0))+aI (ak f.1 1 (u8 0))
def pV(f:p_):Prop:=¬(f.2.1<0\/65535<f.2.1\/0<f.2.1/\0<f.1.length)/\(f.1.length<2\/1<=KZ f/\KZ f<=1024/\(f.1.length:Int)<KZ f+2)
def x9:pV ep:=⟨bP,.inl bP⟩
structure c? where
 id:Int
 key:V
 ph:Int
 store:m4
 power:Int
 own:Int
 oth:Int
 seen:Int
 seq:Int
 win:gX
 ring:fa
 ask:gv
 stan:Int
 day:Int
 queue:List V
 hub:eO
 bB:List qb
 got:List lz
 dt:List Int
def c?.t(e:c?):q1:=(e.id,e.key,e.ph,e.store,e.power,e.own,e.oth,e.seen,e.seq,e.win,e.ring,e.ask,e.stan,e.day,e.queue,e.hub,e.bB,e.got,e.dt,())
structure aG where
 e:c?
 p:fk
def aG.t(s:aG):e4:=(s.e.t,s.p,())
def sK:gX:=(0,BE,())
structure qG(n:Nat)(e:c?):Prop where
 id:e.id=0\/e.id=1
 key:e.key.length<=1000
 ph:0<=e.ph/\e.ph<=8
 store:uv e.store
 own:dC e.own
 oth:dC e.oth
 seq:dC e.seq
 ring:lR e.ring
 up:e.hub.1.length=4
 next:0<=e.hub.2.2.2.1/\e.hub.2.2.2.1<4
 bB:e.bB.length<=n
 got:e.got.length<=n
 dt:e.dt.length=4
 win:e.win.2.1.length=16
 feed:e.hub.2.1.length=4
 life:e.hub.2.2.1.length=4
 queue:e.queue.length<=8
 top:0<=e.win.1/\e.win.1<=4611686018427387905
 fd:∀c,pV (ak e.hub.2.1 c ep)
 askr:AR e.ask
 outs:∀x∈e.bB,(0<=x.1/\x.1<4)/\x.2.1.length<=948
structure bA(n:Nat)(s:aG):Prop where
 e:qG n s.e
 p:s.p.2.1.length<=n
def gq(e:c?):List Int:=if e.id=0 then[e.own,e.oth]else if e.id=1 then[e.oth,e.own]else[0,0]
def S'(hi n:Int):Ag (hi,[n],())=some (D (0<=n/\n<=hi),()):=by
 by_cases h:0<=n/\n<=hi
 .rw[cF h]
  refine(da (ez (y:=(false,1,())) ?_)).trans ((da (d_ (y:=(false,1,())) (k:=0) rfl)).trans rfl);refine bq rfl (bn rfl ?_);rw[show ak [n] (aa 0) 0=n from rfl];simp(disch:=omega) only[go_sem];rfl
 rw[cE h];refine(da (pO (r:=(false,())) ?_)).trans rfl;rw[show ak [n] (aa 0) 0=n from rfl];refine bg (a:=(true,())) (by simp only[go_sem];try exact Ef J) ?_;rfl
def asy(hi n m:Int):Ag (hi,[n,m],())=some (D ((0<=n/\n<=hi)/\(0<=m/\m<=hi)),()):=by
 by_cases h:0<=n/\n<=hi
 .refine(da (ez (y:=(false,1,())) ?_)).trans ?_
  .refine bq rfl (bn rfl ?_)
   rw[show ak [n,m] (aa 0) 0=n from rfl];simp(disch:=omega) only[go_sem];rfl
  by_cases bL:0<=m/\m<=hi
  .rw[cF ⟨h,bL⟩]
   refine(da (ez (y:=(false,2,())) ?_)).trans ((da (d_ (y:=(false,2,())) (k:=0) rfl)).trans rfl);refine bq rfl (bn rfl ?_);rw[show ak [n,m] (aa 1) 0=m from rfl];simp(disch:=omega) only[go_sem];rfl
  rw[cE (λx=>bL x.2)];refine(da (pO (r:=(false,())) ?_)).trans rfl;rw[show ak [n,m] (aa 1) 0=m from rfl];refine bg (a:=(true,())) (by simp only[go_sem];try exact Ef J) ?_;rfl
 rw[cE (λx=>h x.1)];refine(da (pO (r:=(false,())) ?_)).trans rfl;rw[show ak [n,m] (aa 0) 0=n from rfl];refine bg (a:=(true,())) (by simp only[go_sem];try exact Ef J) ?_;rfl
def xB(e:c?):nn (e.t,())=some (gq e,()):=by
 unfold nn gq;dsimp only[c?.t];rw[S'];by_cases ao:e.id=0
 .rw[ao,cF J];rfl
 rw[if_neg ao];by_cases O:e.id=1
 .rw[O,cF J];rfl
 rw[if_neg O,cE J];rfl
def gY(key:V):V:=KE key [98,97,115,101] []
def W_(key:V):(gY key).length=32:=QL _ _ _
def acB(key:V)(h:key.length<=1000000):Ad (key,())=some (gY key,()):=by unfold Ad;rw[acV _ _ _ h bP bP bP];rfl
def vF(key:V)(p:List Int)(kN:Int)(gK:V):V:=
 if dC (ak p 0 0)/\dC (ak p 1 0)/\0<=kN/\kN<=2147483647 then KE key [108,105,110,107] [f_ 8 (ak p 0 0),f_ 8 (ak p 1 0),f_ 4 kN,gK]else[]
def Pv{n:Int}{w:Int}(bb:w=8\/w=4)(h:0<=n/\n<256^w.toNat)(aj:n<=9223372036854775807):pw (n,w,())=some (f_ w.toNat n,0,()):=by rw[QO _ _ aj,if_pos ⟨J,J,h.1,h.2⟩];rfl
def asm{a:V}{c gK:V}(bu:a.length=8)(Y:b.length=8)(ai:c.length=4)(aj:gK.length<=1000):∀p∈[a,b,c,gK],p.length<=1000:=by grind
def DH{n:Int}(h:dC n):0<=n/\n<256^(8:Int).toNat:=⟨h.1,by have:=h.2;show n<256^8;omega⟩
def acC(key:V)(p:List Int)(kN:Int)(gK:V)(ap:key.length<=1000000)(aj:gK.length<=1000):Ae (key,p,kN,gK,())=some (vF key p kN gK,()):=by
 unfold Ae vF;refine bn rfl (bn rfl ?_);rw[show aa 0=0 from rfl,show aa 1=1 from rfl];generalize ak p 0 0=x;generalize ak p 1 0=y;rw[asy];by_cases h:dC x/\dC y
 .rw[cF (show(0<=x/\x<=4611686018427387904)/\(0<=y/\y<=4611686018427387904) from h)]
  refine bg rfl (a1 rfl ?_);rw[S'];by_cases hg:0<=kN/\kN<=2147483647
  .rw[cF hg,if_pos ⟨h.1,h.2,hg⟩]
   refine bg rfl (a1 rfl (bn rfl ?_));rw[Pv (.inl rfl) (DH h.1) (by have:=h.1.2;omega)];refine bg rfl (bn rfl ?_);rw[Pv (.inl rfl) (DH h.2) (by have:=h.2.2;omega)];refine bg rfl ?_;rw[Pv (.inr rfl) ⟨hg.1,by show kN<256^4;omega⟩ J];refine bg rfl ?_;rw[show(8:Int).toNat=8 from rfl,show(4:Int).toNat=4 from rfl,acV key [108,105,110,107] _ ap bh bh (asm (m9 _ _) (m9 _ _) (m9 _ _) aj)];rfl
  rw[cE hg,if_neg (λh=>hg h.2.2)];rfl
 rw[cE (show ¬((0<=x/\x<=4611686018427387904)/\(0<=y/\y<=4611686018427387904)) from h),if_neg (λbL=>h ⟨bL.1,bL.2.1⟩)];rfl
def azM{p:List Int}{kN:Int}{gK:V}(h:dC (ak p 0 0)/\dC (ak p 1 0)/\0<=kN/\kN<=2147483647):(vF key p kN gK).length=32:=by unfold vF;rw[if_pos h,QL]
def Hv(e:c?)(p:Int):c?:={ e with ph:=p,own:=0,oth:=0,seq:=0,win:=sK,ring:=n7,ask:=jW,queue:=[],got:=if jU e.ph then e.got++[(5,gq e,0,[],())]else e.got }
def Kz(l:List lz):ya (l,())=some (l,()):=by unfold ya;rw[Vb];exact dR (Qs l)
def al3(l:List qb):NI (l,())=some (l,()):=by unfold NI;rw[Vb];exact dR (Qs l)
def acD(e:c?)(p:Int)(hg:e.got.length<=1050000000000):Af (e.t,p,())=some ((Hv e p).t,()):=by
 unfold Af Hv;dsimp only[c?.t];rw[H4];by_cases h:jU e.ph
 .rw[cF h,if_pos h]
  rw[Kz];rw[show nn ((e.id,e.key,e.ph,e.store,e.power,e.own,e.oth,e.seen,e.seq,e.win,e.ring,e.ask,e.stan,e.day,e.queue,e.hub,e.bB,e.got,e.dt,()),())=_ from xB e];refine bn (by simp only[go_sem];simp;omega) ?_;rfl
 rw[cE h,if_neg h];rfl
def j7{b:Int}(h:a=b):a_ (ag a b)=false:=by rw[cK h];rfl
def lF{b:Int}(h:¬a=b):a_ (ag a b)=true:=by rw[ct h];rfl
def ae5{r:fa}(h:lR r):0<=r.1.1/\r.1.1<=2147483647/\r.1.2.1.length<=32:=by
 rcases h with rfl|⟨⟨O,R,af⟩,_⟩
 .exact⟨bP,bP,bP⟩
 omega
def mF(s:aG)(v:dr)(key:V):aG×Int:=
 if(eF s.e.hub).2.2.1=0 then
  (⟨{ s.e with hub:=(eF s.e.hub).1,bB:=s.e.bB++[((eF s.e.hub).2.1,fo (c3 v++jY key (c3 v)),())] },ln s.p key (c3 v)⟩,0)
 else(s,(eF s.e.hub).2.2.1)
def acE{s:aG}(ac:bA n s)(aj:n<=1000000000000)(v:dr)(aC:mi v)(key:V)(ap:key.length<=1000000):Hr (s.t,v,key,())=some ((mF s v key).1.t,(mF s v key).2,()):=by
 unfold Hr mF;dsimp only[aG.t,c?.t];have hp:=ac.p;have aK:=ac.e.bB;rw[arg _ ac.e.up ac.e.next];by_cases hh:(eF s.e.hub).2.2.1=0
 .rw[if_pos hh]
  refine a1 (by simp only[go_sem];exact not_not_intro hh) ?_;rw[Q1 _ aC];refine bg rfl ?_;have Y:=aC.2.2.2.2.2.2;have hl:=xx v;dsimp only;rw[au4 _ _ _ J ap J];refine bg rfl ?_;have ht:=AV key (c3 v);rw[amX (v.1,v.2.1,v.2.2.1,v.2.2.2.1,v.2.2.2.2.1,v.2.2.2.2.2.1,jY key (c3 v),v.2.2.2.2.2.2.2) ⟨aC,ht⟩];refine bg rfl ?_;rw[show c3 (v.1,v.2.1,v.2.2.1,v.2.2.2.1,v.2.2.2.2.1,v.2.2.2.2.2.1,jY key (c3 v),v.2.2.2.2.2.2.2)=c3 v from rfl,anM _ (by grind)];rw[al3];refine bn (by simp only[go_sem];simp;omega) ?_;rfl
 rw[if_neg hh];refine bq (by simp only[go_sem];exact hh) ?_;rfl
def h9(e:c?)(body:V):dr:=(2,e.id,gq e,e.ring.1.1,e.seq,body,[],())
def g8(e:c?)(other:Int)(body:V):dr:=(1,e.id,gq { e with oth:=other },0,0,body,[],())
def nX(b:V):Prop:=1<=b.length/\b.length<=900
instance (b:V):Decidable (nX b):=by unfold nX;infer_instance
def T5{e:c?}(O:dC e.own)(R:dC e.oth):dC (ak (gq e) 0 0)/\dC (ak (gq e) 1 0):=by
 unfold gq;split
 .exact⟨O,R⟩
 split
 .exact⟨R,O⟩
 exact⟨bP,bP⟩
def awW{e:c?}(h:qG n e){body:V}(Y:nX body):mi (h9 e body):=by have ah:=ae5 h.ring;exact⟨.inr rfl,(T5 h.own h.oth).1,(T5 h.own h.oth).2,h.seq,h.id,⟨ah.1,ah.2.1⟩,Y.1,Y.2⟩
def awZ{e:c?}(h:qG n e){o:Int}(aK:dC o){body:V}(Y:nX body):mi (g8 e o body):=by have:=T5 (e:={ e with oth:=o }) h.own aK;exact⟨.inl rfl,this.1,this.2,by show dC 0;decide,h.id,⟨by show(0:Int)<=0;decide,by show(0:Int)<=2147483647;decide⟩,Y.1,Y.2⟩
def gh(s:aG)(body:V):aG×Int:=
 if ¬nX body then(s,1) else if ¬jU s.e.ph then(s,7) else if s.e.seq=4611686018427387904 then(s,10)
 else let r:=mF s (h9 s.e body) s.e.ring.1.2.1;if r.2=0 then(⟨{ r.1.e with seq:=r.1.e.seq+1 },r.1.p⟩,0) else r
def Zm(s:aG)(v:dr)(key:V):(mF s v key).1.e.seq=s.e.seq:=by unfold mF;split<;>rfl
def S_(b:V):Hs (b,())=some (D (nX b),()):=by unfold Hs nX;simp only[go_sem];exact pZ J
def awU{s:aG}{r:aG×Int}(abU:dC r.1.e.seq)(kO:¬r.1.e.seq=4611686018427387904):
 (ob (some (r.1.t,r.2,())) λ(a:e4×Int×Unit)=>
 T (ag a.2.1 0) (some (((a.1.1.1,a.1.1.2.1,a.1.1.2.2.1,a.1.1.2.2.2.1,a.1.1.2.2.2.2.1,a.1.1.2.2.2.2.2.1,a.1.1.2.2.2.2.2.2.1,a.1.1.2.2.2.2.2.2.2.1,i64 (av a.1.1.2.2.2.2.2.2.2.2.1 1),a.1.1.2.2.2.2.2.2.2.2.2),a.1.2),a.2.1,())) (some (a.1,a.2.1,()))) =
  some ((if r.2=0 then(⟨{ r.1.e with seq:=r.1.e.seq+1 },r.1.p⟩,0) else r:aG×Int).1.t,(if r.2=0 then(⟨{ r.1.e with seq:=r.1.e.seq+1 },r.1.p⟩,0) else r:aG×Int).2,()):=by
 obtain⟨⟨e,p⟩,c⟩:=r;by_cases h:c=0
 .subst h
  rw[if_pos rfl];refine bq rfl ?_;dsimp only[aG.t,c?.t]at abU ⊢;obtain⟨bG,b_⟩:=abU;rw[show i64 (av e.seq 1)=e.seq+1 from hM (by show -9223372036854775808<=e.seq+1;omega) (by show e.seq+1<=9223372036854775807;omega)]
 rw[if_neg h];refine a1 (by simp only[go_sem];exact h) ?_;rfl
def xC{s:aG}(ac:bA n s)(aj:n<=1000000000000)(b:V):np (s.t,b,())=some ((gh s b).1.t,(gh s b).2,()):=by
 unfold np gh;rw[S_];by_cases Y:nX b
 .rw[cF Y,if_neg (not_not_intro Y)]
  refine a1 rfl ?_;rw[show s.t.1.2.2.1=s.e.ph from rfl,H4];by_cases hl:jU s.e.ph
  .rw[cF hl,if_neg (not_not_intro hl)]
   refine a1 rfl ?_;by_cases a2:s.e.seq=4611686018427387904
   .rw[if_pos a2]
    exact ce (by simp only[go_sem];exact a2)
   rw[if_neg a2];refine a1 (by simp only[go_sem];exact a2) ?_;rw[show nn (s.t.1,())=_ from xB s.e];refine bg rfl ?_;have aC:=awW ac.e Y;have ap:=(ae5 ac.e.ring).2.2;have R6:=acE ac aj _ aC s.e.ring.1.2.1 J;have O:=Zm s (h9 s.e b) s.e.ring.1.2.1;exact uV (bJ R6) (awU (s:=s) (r:=mF s (h9 s.e b) s.e.ring.1.2.1) (by rw[O];exact ac.e.seq) J)
  rw[cE hl,if_pos hl];rfl
 rw[cE Y,if_pos Y];rfl
def o6(s:aG)(other:Int)(body:V):aG×Int:=if dC other/\nX body then mF s (g8 s.e other body) (gY s.e.key) else(s,1)
def S9{s:aG}(ac:bA n s)(aj:n<=1000000000000)(o:Int)(b:V):Df (s.t,o,b,())=some ((o6 s o b).1.t,(o6 s o b).2,()):=by
 unfold Df o6;rw[S'];refine bg rfl ?_;by_cases Y:dC o/\nX b
 .rw[if_pos Y,cF (show 0<=o/\o<=4611686018427387904 from Y.1)]
  refine bg (a:=(false,())) (a1 rfl (by rw[S_,cF Y.2];rfl)) ?_;have hp:=xB { s.e with oth:=o };refine(bJ (hp)).trans ?_;have ap:=ac.e.key;rw[show Ad (s.t.1.2.1,())=_ from acB s.e.key J];have R6:=acE ac aj _ (awZ ac.e Y.1 Y.2) (gY s.e.key) (by rw[W_];omega);exact(bJ R6).trans rfl
 rw[if_neg Y];by_cases O:dC o
 .rw[cF (show 0<=o/\o<=4611686018427387904 from O)]
  rw[S_,cE (λh=>Y ⟨O,h⟩)];rfl
 rw[cE (show ¬(0<=o/\o<=4611686018427387904) from O)];rfl
def PK(c:List Int)(i:Nat):List Int:=cj c i (i64 (av (ak c i 0) 1))
def gy(s:aG)(i:Nat):aG:=⟨{ s.e with dt:=PK s.e.dt i },s.p⟩
def S8(s:aG):kf (s.t,13,())=some ((gy s 3).t,()):=by exact(da (ub 5 rfl)).trans rfl
def wy:=@Classical.not_not
def yR:=@Nat.le_succ_of_le
def DD{e:c?}(h:qG n e)(hm:n<=m):qG m e:={ h with bB:=eZ h.bB hm,got:=eZ h.got hm }
def df{s:aG}(h:bA n s)(hm:n<=m):bA m s:=⟨DD h.e hm,eZ h.p hm⟩
def auP(h:eO):(eF h).1.1=h.1:=by unfold eF;split<;>rfl
def T_(h:eO):(eF h).1.2.1=h.2.1:=by unfold eF;split<;>rfl
def auN(h:eO):(eF h).1.2.2.1=h.2.2.1:=by unfold eF;split<;>rfl
def auO{h:eO}(aj:0<=h.2.2.2.1/\h.2.2.2.1<4):0<=(eF h).1.2.2.2.1/\(eF h).1.2.2.2.1<4:=by
 unfold eF
 grind
def auR(h:eO)(ao:(eF h).2.2.1=0):0<=(eF h).2.1/\(eF h).2.1<4:=by
 unfold eF at ao ⊢;split
 .simp
 rename_i c e;have:=List.mem_of_find?_eq_some e
 grind
def adP{s:aG}(h:bA n s)(v:dr)(aC:v.2.2.2.2.2.1.length<=900)(key:V):bA (n+1) (mF s v key).1:=by
 unfold mF;split
 .refine⟨{ h.e with up:=(by rw[<- h.e.up];exact congrArg List.length (auP s.e.hub)),next:=auO h.e.next,feed:=(by rw[<- h.e.feed];exact congrArg List.length (T_ s.e.hub)),life:=(by rw[<- h.e.life];exact congrArg List.length (auN s.e.hub)),bB := ?_,got:=yR h.e.got,fd:=(λc=>by rw[T_];exact h.e.fd c),outs := ?_ },?_⟩
  .have:=h.e.bB
   simp;omega
  .rename_i ao
   intro x hx;rcases io.1 hx with hx|hx
   .exact h.e.outs x hx
   rw[pf]at hx;subst hx;exact⟨auR _ ao,by show(fo _).length<=948;rw[MG,cG,xx,AV];omega⟩
  have:=au2 s.p key (c3 v);have:=h.p
  grind
 exact df h J
def qH{s:aG}(h:bA n s)(b:V):bA (n+1) (gh s b).1:=by
 unfold gh;split
 .exact df h J
 split
 .exact df h J
 split
 .exact df h J
 rename_i O R af;have aq:=adP h (h9 s.e b) (wy.1 O).2 s.e.ring.1.2.1;have a8:=Zm s (h9 s.e b) s.e.ring.1.2.1;dsimp only;split
 .refine⟨{ aq.e with seq := ?_ },aq.p⟩
  have:=h.e.seq;show dC (_+1);unfold dC at *
  omega
 exact aq
def MB{s:aG}(h:bA n s)(o:Int)(b:V):bA (n+1) (o6 s o b).1:=by
 unfold o6;split
 .rename_i hf;exact adP h _ hf.2.2 _
 exact df h J
def n9{s:aG}(h:bA n s)(i:Nat):bA n (gy s i):=⟨{ h.e with dt:=by show(PK s.e.dt i).length=4;unfold PK cj;rw[ko];exact h.e.dt },h.p⟩
def wP(s:aG)(q:d1):aG:=⟨{ s.e with stan:=lw s.e.stan,ask:=(nN q.2.1 (lw s.e.stan) (mr (q.1,q.2.1,lw s.e.stan,q.2.2.2)).1).1 },s.p⟩
def kW(s:aG)(q:d1):aG:=
 if(mr (q.1,q.2.1,lw s.e.stan,q.2.2.2)).2.1=0/\(nN q.2.1 (lw s.e.stan) (mr (q.1,q.2.1,lw s.e.stan,q.2.2.2)).1).2.1=0 then
  (if q.2.1=1 then(o6 (wP s q) 0 (mr (q.1,q.2.1,lw s.e.stan,q.2.2.2)).1).1 else(gh (wP s q) (mr (q.1,q.2.1,lw s.e.stan,q.2.2.2)).1).1)
 else s
def ajj(c s:Int)(b:V):AR (nN c s b).1:=by
 unfold nN;split
 .rename_i h;exact .inr ⟨h,by show(1:Int)<=8;decide,by show(8:Int)<=8;decide,by show(0:Int)<=3;decide,by show(3:Int)<=3;decide⟩
 exact .inl rfl
def TP{s:aG}(h:bA n s)(q:d1):bA n (wP s q):=⟨{ h.e with askr:=ajj _ _ _ },h.p⟩
def Ax{s:aG}(h:bA n s)(q:d1):bA (n+1) (kW s q):=by
 unfold kW;split
 .split
  .exact MB (TP h q) _ _
  exact qH (TP h q) _
 exact df h J
def NC{s:aG}(ac:bA n s)(aj:n<=1000000000000)(q:d1):A9 (s.t,q,())=some ((kW s q).t,()):=by
 unfold A9 kW;rw[show s.t.1.2.2.2.2.2.2.2.2.2.2.2.2.1=s.e.stan from rfl,ai4];refine bg rfl ?_;rw[Ms];have fS:=TP ac q;have nj:=S9 fS aj 0 (mr (q.1,q.2.1,lw s.e.stan,q.2.2.2)).1;have LJ:=xC fS aj (mr (q.1,q.2.1,lw s.e.stan,q.2.2.2)).1;unfold wP at nj LJ ⊢;generalize mr (q.1,q.2.1,lw s.e.stan,q.2.2.2)=w at nj LJ ⊢;obtain⟨b,V5,⟨⟩⟩:=w;refine bg rfl ?_;rw[ai2];generalize nN q.2.1 (lw s.e.stan) b=a at nj LJ ⊢;obtain⟨a,Pg,⟨⟩⟩:=a;refine bg rfl ?_;by_cases h:V5=0/\Pg=0
 .obtain⟨rfl,rfl⟩:=h
  refine bg (a:=(false,())) rfl (a1 rfl ?_);by_cases ai:q.2.1=1
  .rw[if_pos ai]
   refine bq (by simp only[go_sem];exact ai) ?_;exact(bJ nj).trans rfl
  rw[if_neg ai];refine a1 (by simp only[go_sem];exact ai) ?_;exact(bJ LJ).trans rfl
 rw[if_neg h];refine bg (a:=(true,())) ?_ rfl;by_cases O:V5=0
 .have R:¬Pg=0:=λR=>h ⟨O,R⟩
  exact a1 (by rw[O];rfl) (by rw[show ag Pg 0=false from ct R];rfl)
 exact ce (by rw[show ag V5 0=false from ct O];rfl)
def hY(c:Int):d1:=(true,c,0,0,0,[],[],0,())
def NF{s:aG}(ac:bA n s)(aj:n<=1000000000000)(c:Int):Ea (s.t,c,())=some ((kW s (hY c)).t,()):=by exact(bJ (NC ac aj (hY c))).trans rfl
def pu(e:c?)(kN:Int)(gK:V):V:=vF e.key (gq e) kN gK
def Y8(e:c?)(kN:Int)(gK:V)(ap:e.key.length<=1000000)(aj:gK.length<=1000):AP ((e.t,()),kN,gK,())=some (pu e kN gK,()):=by unfold AP;rw[xB];refine bg rfl ?_;rw[show Ae (e.t.2.1,(gq e,()).1,kN,gK,())=_ from acC e.key (gq e) kN gK ap aj];rfl
def M6{r:fa}(h:lR r):lR (Bv r):=by
 rcases h with rfl|⟨O,R,af,aq,a8,cT⟩
 .exact .inl rfl
 refine .inr ⟨O,R,af,?_,a8,.inl rfl⟩;have:=O.1;show(0:Int)<=r.2.2.2.2.1;omega
def atN{r:fa}{no:Int}(h:(mg r no key).2.1=0):sS (no,key,())/\¬r=n7/\r.1.1<no/\r.2.2.1.1<=no/\(mg r no key).1=(r.1,r.2.1,(no,key,()),r.2.2.2.1,max r.2.2.2.2.1 no,()):=by
 unfold mg at h ⊢
 grind
def atM{r:fa}{no:Int}(h:¬(mg r no key).2.1=0):(mg r no key).1=r:=by
 unfold mg at h ⊢
 grind
def Id{r:fa}(h:lR r)(no:Int)(key:V):lR (mg r no key).1:=by
 by_cases ao:(mg r no key).2.1=0
 .obtain⟨g,aj,ai,hp,e⟩:=atN ao
  rw[e];rcases h with h|⟨O,R,af,aq,a8,cT⟩
  .grind
  refine .inr ⟨O,?_,?_,?_,a8,.inr ⟨g,ai⟩⟩
  .have:=g.2.1
   grind
  .grind
  grind
 rw[atM ao];exact h
def UB{r:fa}(h:lR r):lR (Bj r).1:=by
 unfold Bj;by_cases hp:r.2.2.1=jG
 .grind
 rw[if_neg hp];rcases h with rfl|⟨O,R,af,aq,a8,cT⟩
 .exact absurd rfl hp
 have dN:=cT.resolve_left hp;refine .inr ⟨dN.1,R,aq,?_,.inr ⟨?_,O,dN.2,by show(1:Int)<=16;decide,by show(16:Int)<=16;decide⟩,.inl rfl⟩
 .have:=O.1
  show(0:Int)<=r.2.2.2.2.1;omega
 intro e;have:=O.1;rw[e]at this;exact absurd this bP
def awe{r:fa}(h:lR r):0<=r.2.2.2.2.1/\r.2.2.2.2.1<=2147483647:=by
 rcases h with rfl|⟨O,R,af,aq,a8,cT⟩
 .exact⟨bP,bP⟩
 have:=O.1;omega
def acy(kN:Int)(gK k:V):d1:=(true,101,0,0,kN,gK,C? k,0,())
def Am(s:aG)(gK:V):aG×Int:=
 if ¬gK.length=8 then(s,1) else if ¬oK s.e.ph then(s,7) else if ¬s.e.ph=3\/¬s.e.ask.1=0\/0<s.e.ring.2.2.1.1 then(s,9)
 else if ¬(rn s.e.ring).2.1=0 then(s,(rn s.e.ring).2.1)
 else(kW ⟨{ s.e with ph:=4,ring:=(mg s.e.ring (rn s.e.ring).1 (pu s.e (rn s.e.ring).1 gK)).1 },s.p⟩ (acy (rn s.e.ring).1 gK (pu s.e (rn s.e.ring).1 gK)),0)
def adV{s:aG}(h:bA n s)(g:Int)(k:V):bA n ⟨{ s.e with ph:=4,ring:=(mg s.e.ring g k).1 },s.p⟩:=⟨{ h.e with ph:=⟨by show(0:Int)<=4;decide,by show(4:Int)<=8;decide⟩,ring:=Id h.e.ring g k },h.p⟩
theorem azT:qK (3,6,())=some (4,true,()):=rfl
def Y7(e:c?)(g:Int)(gK:V):(pu e g gK).length<=32:=by
 unfold pu vF;split
 .rw[QL];omega
 simp
def avY{s:aG}(ac:bA n s)(aj:n<=1000000000000)(gK:V):M3 (s.t,gK,())=some ((Am s gK).1.t,(Am s gK).2,()):=by
 unfold M3 Am;by_cases O:gK.length=8
 .rw[if_neg (not_not_intro O)]
  refine a1 cN ?_;rw[show s.t.1.2.2.1=s.e.ph from rfl,H3];refine bg rfl ?_;by_cases R:oK s.e.ph
  .rw[cF R,if_neg (not_not_intro R)]
   rw[show s.t.1.2.2.2.2.2.2.2.2.2.2.2.1.1=s.e.ask.1 from rfl,show s.t.1.2.2.2.2.2.2.2.2.2.2.1=s.e.ring from rfl];by_cases af:¬s.e.ph=3\/¬s.e.ask.1=0\/0<s.e.ring.2.2.1.1
   .rw[if_pos af]
    refine bg (a:=(true,())) ?_ rfl;simp only[go_sem];exact Ef (or_assoc.2 af)
   rw[if_neg af];simp only[not_or,wy]at af;obtain⟨cI,cR,a3⟩:=af;refine bg (a:=(false,())) (by simp only[go_sem,cI,cR];exact U4 a3) (a1 rfl ?_);have ht:=awe ac.e.ring;rw[awh _ ht.2 ht.1];by_cases aq:(rn s.e.ring).2.1=0
   .rw[if_neg (not_not_intro aq)]
    refine a1 (by simp only[go_sem];exact not_not_intro aq) ?_;generalize(rn s.e.ring).1=g;refine(dL (o:=x4 _) rfl).trans ?_;have ap:=ac.e.key;rw[show AP ((s.t.1,()),g,gK,())=_ from Y8 s.e g gK J J];refine bg rfl ?_;dsimp only;rw[UC];rw[cI];rw[acW _ (by have:=Y7 s.e g gK;omega)];exact(bJ (NC (adV ac g (pu s.e g gK)) aj (acy g gK (pu s.e g gK)))).trans rfl
   rw[if_pos aq];exact ce (by simp only[go_sem];exact aq)
  rw[cE R,if_pos R];rfl
 rw[if_pos O];exact ce cN
def Ay(e:c?):c?:={ e with ph:=3,ask:=jW }
theorem azV:qK (4,8,())=some (3,true,()):=rfl
def xe(s:aG):aG:=if s.e.ph=4 then⟨{ s.e with ph:=3,ask:=jW,ring:=Bv s.e.ring },s.p⟩ else s
def Ut{s:aG}(h:s.e.ph=4):AQ (s.t,())=some ((⟨Ay s.e,s.p⟩:aG).t,()):=by unfold AQ;rw[show(s.t,()).1.1.2.2.1=4 from h];rfl
def aeW(s:aG):Ia (s.t,())=some ((xe s).t,()):=by
 unfold Ia xe;by_cases h:s.e.ph=4
 .rw[if_pos h]
  refine a1 (by show a_ (ag s.e.ph 4)=false;rw[h];rfl) ?_;rw[Ut h];rfl
 rw[if_neg h];exact ce (by show a_ (ag s.e.ph 4)=true;simp only[go_sem];exact h)
def kj(n:d1)(res:Int):V:=(mr (Fh n res).1).1
def Fi{s:aG}(ac:bA m s)(hm:m<=1000000000000)(n:d1)(res:Int):
  (ob (qE (n,res,())) λ(a:d1×Int×Unit)=>ob (pQ (a.1,())) λ(b:V×Int×Unit)=>ob (np (s.t,b.1,())) λ(c:e4×Int×Unit)=>(some (c.1,()):Option (e4×Unit)))=some ((gh s (kj n res)).1.t,()):=by
 rw[TB];refine bg rfl ?_;rw[Ms];exact(bJ (xC ac hm (kj n res))).trans rfl
def ahh(e:c?)(r:fa):c?:={ e with ring:=r }
def NY(e:c?)(r:fa):c?:={ e with ph:=3,ask:=jW,ring:=r }
def Au(s:aG)(n:d1):aG:=
 if s.e.ph=4/\s.e.id=0 then gy s 3
 else if ¬C? (pu s.e n.2.2.2.2.1 n.2.2.2.2.2.1)=n.2.2.2.2.2.2.1 then(gh s (kj n 63)).1
 else if n.2.2.2.2.1=s.e.ring.1.1 then(gh s (kj n 0)).1
 else if s.e.ph=4 then
  (if(mg (Bv s.e.ring) n.2.2.2.2.1 (pu s.e n.2.2.2.2.1 n.2.2.2.2.2.1)).2.1=0 then(gh ⟨NY s.e (mg (Bv s.e.ring) n.2.2.2.2.1 (pu s.e n.2.2.2.2.1 n.2.2.2.2.2.1)).1,s.p⟩ (kj n 0)).1 else gy s 3)
 else(if(mg s.e.ring n.2.2.2.2.1 (pu s.e n.2.2.2.2.1 n.2.2.2.2.2.1)).2.1=0 then(gh ⟨ahh s.e (mg s.e.ring n.2.2.2.2.1 (pu s.e n.2.2.2.2.1 n.2.2.2.2.2.1)).1,s.p⟩ (kj n 0)).1 else gy s 3)
def ad4{s:aG}(h:bA m s){r:fa}(ah:lR r):bA m ⟨ahh s.e r,s.p⟩:=⟨{ h.e with ring:=ah },h.p⟩
def HT{s:aG}(h:bA m s){r:fa}(ah:lR r):bA m ⟨NY s.e r,s.p⟩:=⟨{ h.e with ring:=ah,askr:=.inl rfl,ph:=⟨by show(0:Int)<=3;decide,by show(3:Int)<=8;decide⟩ },h.p⟩
def tC(s:aG):(ob (kf (s.t,13,())) λ(a:e4×Unit)=>(some (a.1,()):Option (e4×Unit)))=some ((gy s 3).t,()):=(bJ (S8 s)).trans rfl
def avZ{s:aG}(ac:bA m s)(hm:m<=1000000000000)(n:d1)(aj:n.2.2.2.2.2.1.length<=1000):M4 (s.t,n,())=some ((Au s n).t,()):=by
 unfold M4 Au;refine(dL (o:=x4 _) rfl).trans ?_;have ap:=ac.e.key;rw[show AP ((s.t.1,()),n.2.2.2.2.1,n.2.2.2.2.2.1,())=_ from Y8 s.e _ _ J aj];refine(dL rfl).trans ?_;have hl:=Y7 s.e n.2.2.2.2.1 n.2.2.2.2.2.1;generalize pu s.e n.2.2.2.2.1 n.2.2.2.2.2.1=k at hl;refine(dL (o:=v6 _) rfl).trans ?_;dsimp only;rw[show s.t.1.2.2.1=s.e.ph from rfl,show s.t.1.1=s.e.id from rfl];by_cases O:s.e.ph=4/\s.e.id=0
 .rw[ O.1,O.2]
  exact tC s
 rw[if_neg O];refine(dL (a:=(false,())) ?_).trans ((b1 rfl).trans ?_)
 .by_cases aq:s.e.ph=4
  .have ao:¬s.e.id=0:=λao=>O ⟨aq,ao⟩
   rw[cK aq,ct ao];rfl
  rw[ct aq];rfl
 rw[acW _ J];refine(dL rfl).trans ?_;rw[Mc _ _ (by rw[asj];omega)];by_cases R:C? k=n.2.2.2.2.2.2.1
 .rw[if_neg (not_not_intro R),A3 R]
  by_cases af:n.2.2.2.2.1=s.e.ring.1.1
  .rw[if_pos af]
   refine(ce (cK af)).trans ?_;exact Fi ac hm n 0
  rw[if_neg af];refine(b1 (ct af)).trans ?_;by_cases aq:s.e.ph=4
  .rw[if_pos aq]
   refine(ce (cK aq)).trans ?_;refine(dL rfl).trans ?_;rw[UC];by_cases a8:(mg (Bv s.e.ring) n.2.2.2.2.1 k).2.1=0
   .rw[if_pos a8]
    refine(b1 (j7 a8)).trans ?_;refine(ce (cK aq)).trans ?_;rw[Ut aq];exact Fi (HT ac (Id (M6 ac.e.ring) n.2.2.2.2.1 k)) hm n 0
   rw[if_neg a8];refine(ce (lF a8)).trans ?_;exact tC s
  rw[if_neg aq];refine(b1 (ct aq)).trans ?_;rw[UC];by_cases a8:(mg s.e.ring n.2.2.2.2.1 k).2.1=0
  .rw[if_pos a8]
   refine(b1 (j7 a8)).trans ?_;refine(b1 (ct aq)).trans ?_;exact Fi (ad4 ac (Id ac.e.ring n.2.2.2.2.1 k)) hm n 0
  rw[if_neg a8];refine(ce (lF a8)).trans ?_;exact tC s
 rw[if_pos R,o5 R];exact Fi ac hm n 63
instance (a:gv) (c s:Int):Decidable (qB a c s):=by unfold qB;infer_instance
def B2(s:aG)(n:d1):aG:=
 if ¬s.e.ph=4\/¬qB s.e.ask n.2.1 n.2.2.1 then gy s 3
 else if ¬n.2.2.2.1=0 then xe s
 else kW ⟨NY s.e (Bj s.e.ring).1,s.p⟩ (hY 301)
def avX{s:aG}(ac:bA m s)(hm:m<=1000000000000)(n:d1):M2 (s.t,n,())=some ((B2 s n).t,()):=by
 unfold M2 B2;refine(dL (o:=x4 _) rfl).trans ?_;refine(dL (o:=v6 _) rfl).trans ?_;rw[show s.t.1.2.2.1=s.e.ph from rfl,show s.t.1.2.2.2.2.2.2.2.2.2.2.2.1=s.e.ask from rfl,J7];by_cases aq:s.e.ph=4
 .by_cases a8:qB s.e.ask n.2.1 n.2.2.1
  .rw[if_neg (λh=>h.elim (λh=>h aq) (λh=>h a8)),cF a8,cK aq]
   by_cases cT:n.2.2.2.1=0
   .rw[if_neg (not_not_intro cT)]
    refine(b1 (j7 cT)).trans ?_;rw[Ut aq];refine(dL rfl).trans ?_;rw[show(AW ((({ e:=Ay s.e,p:=s.p }:aG).t,()).1.1.2.2.2.2.2.2.2.2.2.2.1,()):Option (fa×Int×Unit))=_ from ae6 s.e.ring];exact(bJ (NC (HT ac (UB ac.e.ring)) hm (hY 301))).trans rfl
   rw[if_pos cT];refine(ce (lF cT)).trans ?_;exact(bJ (aeW s)).trans rfl
  rw[if_pos (.inr a8),cE a8,cK aq];exact tC s
 rw[if_pos (.inl aq),ct aq];exact tC s
theorem atm(x:UInt64):cD x=(x.toNat:Int):=rfl
def au0(h:k<=63):2^k<=9223372036854775808:=by have:=BI (show 0<2 by omega) h;omega
def je(w:gX)(p:Nat):Bool:=(ak w.2.1 (p/64) (u64 0)).toNat/2^(p%64)%2==1
def Em{A B C:V}{a w:Nat}(dn:A.length=a)(aB:B.length=w):ec (A++(B++C)) a w=B:=by
 unfold ec
 grind
def agX{A W:Nat}{n:Int}(aa0:1<=W)(hW:W<=8)(hl:A+W<=b.length)(ao:0<=n)(aj:n<256^W)(hL:n<=4611686018427387904)(ht:ec b A W=f_ W n):jq b (A:Int) (W:Int)=(n,((A+W:Nat):Int),0,()):=by
 have aC:my (ec b A W)=n.toNat:=by
  rw[ht];unfold f_;rw[ajp,lY]
  grind
 unfold jq;rw[if_neg J,if_neg J,if_neg]
 .grind
 rintro⟨cz,CL⟩;have aoP:W=8:=J;subst aoP;rw[i0]at CL;have hg:ak b A (u8 0)=(f_ 8 n)[0]'(by rw[m9];omega):=by
  have O:0<(ec b A 8).length:=by rw[yk hl];omega
  have R:(ec b A 8)[0]=b[A]:=aha O J;rw[nth_get J]
  grind
 rw[hg]at CL;unfold f_ at CL;rw[MN]at CL;unfold m_ at CL;rw[ UInt8.toNat_ofNat_of_lt' (by grind)]at CL;omega
def fh(b:V)(a w:Int):Int:=if(jq b a w).2.2.1=0 then(jq b a w).1 else -1
def ro:dr:=(0,0,[0,0],0,0,[],[],())
def rD(b:V):dr:=(fh b 0 1,fh b 1 1,[fh b 2 8,fh b 10 8],fh b 18 4,fh b 22 8,(b.drop 30).take (b.length-46),b.drop (b.length-16),())
instance (v:dr):Decidable (mi v):=by unfold mi;infer_instance
instance (v:dr):Decidable (o1 v):=by unfold o1;infer_instance
def eR(b:V):dr×Int×Unit:=if b.length<47 then(ro,3,()) else if 946<b.length then(ro,4,()) else if o1 (rD b) then(rD b,0,()) else(ro,2,())
def El{A W:Nat}{n:Int}(aa0:1<=W)(hW:W<=8)(hl:A+W<=b.length)(ao:0<=n)(aj:n<256^W)(hL:n<=4611686018427387904)(ht:ec b A W=f_ W n):fh b (A:Int) (W:Int)=n:=by unfold fh;rw[agX aa0 hW hl ao aj hL ht,if_pos rfl]
def aeU{v:dr}{t:V}(aC:mi v)(aA:v.2.2.1=[d4 v,e1 v])(ht:t.length=16):eR (c3 v++t)=(jL v t,0,()):=by
 have cr:(c3 v++t).length=46+v.2.2.2.2.2.1.length:=by rw[cG,xx,ht];omega
 have iP:=aC.2.2.2.2.2.2;obtain⟨O,R,af,aq,a8,cT,dN,cz⟩:=aC;have eW:=m9 1 v.1;have f7:=m9 1 v.2.1;have oS:=m9 8 (d4 v);have Ac:=m9 8 (e1 v);have Hq:=m9 4 v.2.2.2.1;have De:=m9 8 v.2.2.2.2.1;have qD:=R.2;have HI:=af.2;have ade:=aq.2;obtain⟨rest,hrest⟩:∃rest,rest=v.2.2.2.2.2.1++t:=⟨_,rfl⟩;have b?:c3 v++t=f_ 1 v.1++(f_ 1 v.2.1++(f_ 8 (d4 v)++(f_ 8 (e1 v)++(f_ 4 v.2.2.2.1++(f_ 8 v.2.2.2.2.1++rest))))):=by unfold c3;rw[hrest];simp only[gt]
 have dT:ec (c3 v++t) 0 1=f_ 1 v.1:=by rw[b?];exact Em (A:=[]) rfl eW
 have ev:ec (c3 v++t) 1 1=f_ 1 v.2.1:=by rw[b?];exact Em eW f7
 have t3:ec (c3 v++t) 2 8=f_ 8 (d4 v):=by rw[b?,<- gt];exact Em (by rw[cG,eW,f7]) oS
 have t4:ec (c3 v++t) 10 8=f_ 8 (e1 v):=by rw[b?,<- gt,<- gt];exact Em (by simp only[cG,eW,f7,oS]) Ac
 have t5:ec (c3 v++t) 18 4=f_ 4 v.2.2.2.1:=by rw[b?,<- gt,<- gt,<- gt];exact Em (by simp only[cG,eW,f7,oS,Ac]) Hq
 have yi:ec (c3 v++t) 22 8=f_ 8 v.2.2.2.2.1:=by rw[b?,<- gt,<- gt,<- gt,<- gt];exact Em (by simp only[cG,eW,f7,oS,Ac,Hq]) De
 have bj:rD (c3 v++t)=jL v t:=by
  unfold rD jL;have bG:fh (c3 v++t) 0 1=v.1:=El (A:=0) (W:=1) J J J J J J dT;have b_:fh (c3 v++t) 1 1=v.2.1:=El (A:=1) (W:=1) J J J J J J ev;have cp:fh (c3 v++t) 2 8=d4 v:=El (A:=2) (W:=8) J J J R.1 J qD t3;have dl:fh (c3 v++t) 10 8=e1 v:=El (A:=10) (W:=8) J J J af.1 J HI t4;have eQ:fh (c3 v++t) 18 4=v.2.2.2.1:=El (A:=18) (W:=4) J J J cT.1 J J t5;have lq:fh (c3 v++t) 22 8=v.2.2.2.2.1:=El (A:=22) (W:=8) J J J aq.1 J ade yi;have oO:(f_ 1 v.1++f_ 1 v.2.1++f_ 8 (d4 v)++f_ 8 (e1 v)++f_ 4 v.2.2.2.1++f_ 8 v.2.2.2.2.1).length=30:=by simp only[cG,eW,f7,oS,Ac,Hq,De]
  have pS:((c3 v++t).drop 30).take ((c3 v++t).length-46)=v.2.2.2.2.2.1:=by rw[cr];unfold c3;rw[gt,<- oO,E5,BM,wB]
  have jX:(c3 v++t).drop ((c3 v++t).length-16)=t:=by rw[cr,show 46+v.2.2.2.2.2.1.length-16=(c3 v).length by rw[xx];omega,E5]
  rw[bG,b_,cp,dl,eQ,lq,pS,jX,<- aA]
 unfold eR;rw[if_neg J,if_neg J,bj,if_pos];exact⟨⟨O,R,af,aq,a8,cT,dN,cz⟩,ht⟩
def aep(e:c?):gq e=[ak (gq e) 0 0,ak (gq e) 1 0]:=by
 unfold gq;split
 .rfl
 split<;>rfl
def asd{i:Int}(h:i=0\/i=1):i64 (bi 1 i)=1-i:=hM (by show -9223372036854775808<=1-i;omega) (by show 1-i<=9223372036854775807;omega)
def qo(r:c?)(g:Int):fa:=if r.ring.2.2.1.1=g/\¬r.ph=4 then(Bj r.ring).1 else r.ring
def kB(s:aG)(p:Int):aG:=⟨Hv s.e p,s.p⟩
def Eb{s:aG}(ac:bA n s)(aj:n<=1000000000000)(p:Int):sZ (s.t,p,())=some ((kB s p).t,()):=by unfold sZ;have hg:=ac.e.got;rw[show Af (s.t.1,p,())=_ from acD s.e p J];rfl
def L'(e:c?)(p:Int):(Hv e p).got.length<=e.got.length+1:=by
 show(if jU e.ph then e.got++[(5,gq e,0,[],())]else e.got).length<=_
 grind
def Aw{s:aG}(h:bA n s){p:Int}(ao:0<=p)(cz:p<=8):bA (n+1) (kB s p):=by refine⟨{ DD h.e (qa n) with ph:=⟨ao,cz⟩,own:=by show dC 0;decide,oth:=by show dC 0;decide,seq:=by show dC 0;decide,ring:=.inl rfl,got := ?_,win:=rfl,queue:=by show([]:List V).length<=8;simp,top:=⟨by show(0:Int)<=0;decide,by show(0:Int)<=4611686018427387905;decide⟩,askr:=.inl rfl },yR h.p⟩;have O:=L' s.e p;have R:=h.e.got;exact eZ O J
def eP:eO:=([false,false,false,false],[ep,ep,ep,ep],[0,0,0,0],0,())
def amk(e:c?):c?:=⟨e.id,e.key,8,e.store, -1,0,0,0,0,sK,n7,jW,0,0,[],eP,[],(Hv e 8).got,[0,0,0,0]⟩
def wZ(s:aG):aG:=if s.e.ph=8 then s else⟨amk s.e,s.p⟩
def agl{s:aG}(ac:bA n s)(aj:n<=1000000000000):D? (s.t,())=some ((wZ s).t,()):=by
 unfold D? wZ;have hg:=ac.e.got;by_cases h:s.e.ph=8
 .rw[if_pos h];exact ce (cK h)
 rw[if_neg h];refine a1 (ct h) ?_;rw[show Af (s.t.1,8,())=_ from acD s.e 8 J];rfl
def abX(c:Nat):pV (ak eP.2.1 c ep):=by
 match c with
 |0=>exact x9
 |1=>exact x9
 |2=>exact x9
 |3=>exact x9
 |c+4=>exact x9
def adN{s:aG}(h:bA n s):bA (n+1) (wZ s):=by
 unfold wZ;split
 .exact df h (qa n)
 have O:=L' s.e 8;have R:=h.e.got;exact⟨{
  id:=h.e.id
  key:=h.e.key
  ph:=⟨by show(0:Int)<=8;omega,by show(8:Int)<=8;omega⟩
  store:=h.e.store
  own:=by show dC 0;decide
  oth:=by show dC 0;decide
  seq:=by show dC 0;decide
  ring:=.inl rfl
  up:=rfl
  next:=⟨by show(0:Int)<=0;omega,by show(0:Int)<4;omega⟩
  bB:=fI _
  got:=eZ O J
  dt:=rfl
  win:=rfl
  feed:=rfl
  life:=rfl
  queue:=by show([]:List V).length<=8;simp
  top:=⟨by show(0:Int)<=0;decide,by show(0:Int)<=4611686018427387905;decide⟩
  fd:=abX
  askr:=.inl rfl
  outs:=λx hx=>by cases hx },yR h.p⟩
def NR(s:aG)(t:m4):aG:=⟨{ s.e with store:=t },s.p⟩
def p0(s:aG)(t:m4):aG:=⟨{ s.e with store:=t,power := -1 },s.p⟩
def agY(s:m4)(c:Int):mm s c=(s,0,12,())\/mm s c=(s,0,10,())\/(∃t,mm s c=(t,0,11,())/\(uv s->uv t))\/∃t,mm s c=(t,(jz s).1,0,())/\(uv s->uv t):=by
 have key:uv s->uv (if(jz s).2.1=0 then(s.1,xA (jz s).1 c s.2.1,()) else(xA (jz s).1 c s.1,s.2.1,())):=by
  intro h;have hl:∀o:V,o.length=16->(xA (jz s).1 c o).length=16:=by intro o aK;have hm:=acX c;unfold xA;rw[cG,hE,e?,MY,aK];omega
  split
  .exact⟨h.1,hl _ h.2⟩
  exact⟨hl _ h.1,h.2⟩
 unfold mm;split
 .exact .inl rfl
 split
 .exact .inr (.inl rfl)
 dsimp only;split
 .exact .inr (.inr (.inl ⟨_,rfl,key⟩))
 exact .inr (.inr (.inr ⟨_,rfl,key⟩))
def fX(s:aG):aG×Int×Int:=
 if(mm s.e.store s.e.power).2.2.1=0 then(p0 s (mm s.e.store s.e.power).1,(mm s.e.store s.e.power).2.1,0)
 else if(mm s.e.store s.e.power).2.2.1=11 then(wZ (NR s (mm s.e.store s.e.power).1),0,11)
 else(s,0,(mm s.e.store s.e.power).2.2.1)
def ad1{s:aG}(h:bA n s){t:m4}(ht:uv t):bA n (NR s t):=⟨{ h.e with store:=ht },h.p⟩
def auc{s:aG}(h:bA n s){t:m4}(ht:uv t):bA n (p0 s t):=⟨{ h.e with store:=ht },h.p⟩
def DE{s:aG}(h:bA n s):bA (n+1) (fX s).1:=by
 unfold fX;rcases agY s.e.store s.e.power with e|e|⟨t,e,ht⟩|⟨t,e,ht⟩
 .rw[e];exact df h (qa n)
 .rw[e];exact df h (qa n)
 .rw[e];exact adN (ad1 h (ht h.e.store))
 rw[e];exact df (auc h (ht h.e.store)) (qa n)
def agn{s:aG}(ac:bA n s)(aj:n<=1000000000000):IA (s.t,())=some ((fX s).1.t,(fX s).2.1,(fX s).2.2,()):=by
 unfold IA fX;rw[show s.t.1.2.2.2.1=s.e.store from rfl,show s.t.1.2.2.2.2.1=s.e.power from rfl,axq _ _ ac.e.store];rcases agY s.e.store s.e.power with e|e|⟨t,e,ht⟩|⟨t,e,ht⟩
 .rw[e];rfl
 .rw[e];rfl
 .rw[e]
  refine bg rfl (a1 rfl (bq rfl ?_));rw[show D? (((s.t.1.1,s.t.1.2.1,s.t.1.2.2.1,t,s.t.1.2.2.2.2),s.t.2),())=_ from agl (ad1 ac (ht ac.e.store)) aj];rfl
 rw[e];rfl
def uj(s:aG)(n:Int):aG:=⟨{ s.e with own:=n },s.p⟩
def ru(s:aG):aG×Int:=
 if s.e.ph=7\/s.e.ph=8 then(s,11)
 else if ¬(fX s).2.2=0 then((fX s).1,(fX s).2.2)
 else(kW (uj (kB (fX s).1 1) (fX s).2.1) (hY 1),0)
def amZ{s:aG}(ao:(fX s).2.2=0):(jz s.e.store).2.2.1=true/\(fX s).2.1=(jz s.e.store).1:=by
 unfold fX at ao ⊢;unfold mm at ao ⊢
 grind
def at9{s:aG}(h:bA n s){k:Int}(ap:dC k):bA n (uj s k):=⟨{ h.e with own:=ap },h.p⟩
def Q4{s:aG}(ao:(fX s).2.2=0):dC (fX s).2.1:=by obtain⟨O,R⟩:=amZ ao;have af:=Xa O;rw[R];unfold dC;omega
def adX{s:aG}(ac:bA n s)(ao:(fX s).2.2=0):bA (n+2) (uj (kB (fX s).1 1) (fX s).2.1):=at9 (Aw (DE ac) J J) (Q4 ao)
def adW{s:aG}(ac:bA n s):bA (n+3) (ru s).1:=by
 unfold ru;split
 .exact df ac J
 split
 .exact df (DE ac) J
 rename_i O R;exact Ax (adX ac (wy.1 R)) _
def agm{s:aG}(ac:bA n s)(aj:n<=999999000000):Iz (s.t,())=some ((ru s).1.t,(ru s).2,()):=by
 unfold Iz ru;rw[show s.t.1.2.2.1=s.e.ph from rfl];by_cases O:s.e.ph=7\/s.e.ph=8
 .rw[if_pos O]
  rcases O with h|h<;>rw[h]<;>rfl
 rw[if_neg O];simp at O;refine bg (a:=(false,())) ?_ (a1 rfl ?_)
 .rw[ct O.1,ct O.2];rfl
 rw[agn ac J];by_cases R:(fX s).2.2=0
 .rw[if_neg (not_not_intro R)]
  refine a1 (j7 R) ?_;rw[Eb (DE ac) J];exact(bJ (NF (adX ac R) J 1)).trans rfl
 rw[if_pos R];exact ce (lF R)
def T7{s:aG}(h:bA n s):s.e.ph=0\/s.e.ph=1\/s.e.ph=2\/s.e.ph=3\/s.e.ph=4\/s.e.ph=5\/s.e.ph=6\/s.e.ph=7\/s.e.ph=8:=by have:=h.e.ph;omega
def Qw(s:aG):aG:=⟨{ s.e with ph:=6,ring:=Bv s.e.ring,queue:=[] },s.p⟩
def adM{s:aG}(h:bA n s):bA n (Qw s):=⟨{ h.e with ph:=⟨by show(0:Int)<=6;omega,by show(6:Int)<=8;omega⟩,ring:=M6 h.e.ring,queue:=by show([]:List V).length<=8;simp },h.p⟩
def za(s:aG):aG×Int:=
 if s.e.ph=0\/s.e.ph=7\/s.e.ph=8 then(s,7) else if s.e.ph=6 then(s,9) else if s.e.ph=1\/s.e.ph=2 then(kB s 0,0) else(kW (Qw s) (hY 2),0)
def atW{s:aG}(h:bA n s):bA (n+1) (za s).1:=by
 unfold za;split
 .exact df h J
 split
 .exact df h J
 split
 .exact Aw h J J
 exact Ax (adM h) _
def axe{s:aG}(ac:bA n s)(aj:n<=1000000000000):NB (s.t,())=some ((za s).1.t,(za s).2,()):=by
 have hl:=Eb ac aj 0;have a2:=NF (adM ac) aj 2;have hp:=T7 ac;unfold NB za;rw[show s.t.1.2.2.1=s.e.ph from rfl];rcases hp with h|h|h|h|h|h|h|h|h<;>rw[h]
 .rfl
 .refine bg rfl (a1 rfl (a1 rfl (bq rfl ?_)))
  exact(bJ hl).trans rfl
 .refine bg rfl (a1 rfl (a1 rfl (bq rfl ?_)))
  exact(bJ hl).trans rfl
 .refine bg rfl (a1 rfl (a1 rfl (a1 rfl (bg rfl ?_))))
  exact(bJ a2).trans rfl
 .refine bg rfl (a1 rfl (a1 rfl (a1 rfl (bg rfl ?_))))
  exact(bJ a2).trans rfl
 .refine bg rfl (a1 rfl (a1 rfl (a1 rfl (bg rfl ?_))))
  exact(bJ a2).trans rfl
 .rfl
 .rfl
 rfl
def zh(s:aG):aG×Int:=if ¬oK s.e.ph then(s,7) else if ¬s.e.ask.1=0 then(s,9) else(kW s (hY 301),0)
def at2{s:aG}(h:bA n s):bA (n+1) (zh s).1:=by
 unfold zh;split
 .exact df h J
 split
 .exact df h J
 exact Ax h _
def aw9{s:aG}(ac:bA n s)(aj:n<=1000000000000):Nx (s.t,())=some ((zh s).1.t,(zh s).2,()):=by
 unfold Nx zh;rw[show s.t.1.2.2.1=s.e.ph from rfl,H3];by_cases R:oK s.e.ph
 .rw[cF R,if_neg (not_not_intro R)]
  by_cases af:s.e.ask.1=0
  .rw[if_neg (not_not_intro af)]
   refine(b1 (j7 af)).trans ?_;exact(bJ (NF ac aj 301)).trans rfl
  rw[if_pos af];exact ce (lF af)
 rw[cE R,if_pos R];rfl
def ul(s:aG)(p:Int):aG:=⟨{ s.e with ph:=p },s.p⟩
def B?(s:aG):aG:=if s.e.ph=8 then(if(jz s.e.store).2.2.1=true then ul s 0 else ul s 7) else s
def DF{s:aG}(h:bA n s){p:Int}(ao:0<=p)(cz:p<=8):bA n (ul s p):=⟨{ h.e with ph:=⟨ao,cz⟩ },h.p⟩
def atV{s:aG}(h:bA n s):bA n (B? s):=by
 unfold B?;split
 .split
  .exact DF h J J
  exact DF h J J
 exact h
def aw8{s:aG}(ac:bA n s):Nw (s.t,())=some ((B? s).t,()):=by
 have O:=ac.e.store.1;have R:=ac.e.store.2;have hp:=T7 ac;unfold Nw B?;rw[show s.t.1.2.2.2.1=s.e.store from rfl,agw _ J J];have vP:qK (s.e.ph,11,())=some (if s.e.ph=8 then(0,true,()) else(s.e.ph,false,())):=by rcases hp with h|h|h|h|h|h|h|h|h<;>rw[h]<;>rfl
 have qD:qK (s.e.ph,12,())=some (if s.e.ph=8 then(7,true,()) else(s.e.ph,false,())):=by rcases hp with h|h|h|h|h|h|h|h|h<;>rw[h]<;>rfl
 by_cases Y:(jz s.e.store).2.2.1=true
 .refine bq Y ?_
  rw[if_pos Y];unfold s1;rw[show s.t.1.2.2.1=s.e.ph from rfl,vP];by_cases cz:s.e.ph=8
  .rw[if_pos cz,if_pos cz];rfl
  rw[if_neg cz,if_neg cz];rfl
 refine a1 (by grind) ?_;rw[if_neg Y];unfold s1;rw[show s.t.1.2.2.1=s.e.ph from rfl,qD];by_cases cz:s.e.ph=8
 .rw[if_pos cz,if_pos cz];rfl
 rw[if_neg cz,if_neg cz];rfl
def zk(s:aG)(k:Int):aG:=⟨{ s.e with got:=s.e.got++[(k,gq s.e,0,[],())] },s.p⟩
def adQ{s:aG}(h:bA n s)(k:Int):bA (n+1) (zk s k):=by
 refine⟨{ DD h.e (qa n) with got := ?_ },yR h.p⟩;have:=h.e.got;show(s.e.got++[(k,gq s.e,0,[],())]).length<=n+1
 grind
def ago{s:aG}(ac:bA n s)(aj:n<=1000000000000)(k:Int):IB (s.t,k,())=some ((zk s k).t,()):=by have hg:=ac.e.got;unfold IB;rw[show s.t.1.2.2.2.2.2.2.2.2.2.2.2.2.2.2.2.2.2.1=s.e.got from rfl,Kz];rw[show nn (s.t.1,())=_ from xB s.e];refine bn (by simp only[go_sem];simp;omega) ?_;rfl
def q8(s:aG):aG:=if s.e.ph=2 then zk (ul s 3) 4 else s
def adS{s:aG}(h:bA n s):bA (n+1) (q8 s):=by
 unfold q8;split
 .exact adQ (DF h J J) 4
 exact df h (qa n)
def axa{s:aG}(ac:bA n s)(aj:n<=1000000000000):Ny (s.t,())=some ((q8 s).t,()):=by
 unfold Ny q8;by_cases h:s.e.ph=2
 .rw[if_pos h]
  refine a1 (j7 h) ?_;rw[show s1 (s.t,3,())=some ((ul s 3).t,()) by unfold s1;rw[show s.t.1.2.2.1=s.e.ph from rfl,h];rfl]
  exact(bJ (ago (DF ac (p:=3) J J) aj 4)).trans rfl
 rw[if_neg h];exact ce (lF h)
def zt(s:aG):aG:=if s.e.ph=1\/s.e.ph=3\/s.e.ph=6 then kB s 0 else s
def at4{s:aG}(h:bA n s):bA (n+1) (zt s):=by
 unfold zt;split
 .exact Aw h J J
 exact df h (qa n)
def axb{s:aG}(ac:bA n s)(aj:n<=1000000000000):Nz (s.t,())=some ((zt s).t,()):=by
 have hl:=Eb ac aj 0;have hp:=T7 ac;unfold Nz zt;rw[show s.t.1.2.2.1=s.e.ph from rfl];rcases hp with h|h|h|h|h|h|h|h|h<;>rw[h]
 .rfl
 .refine bq rfl (bq rfl ?_)
  exact(bJ hl).trans rfl
 .rfl
 .refine a1 rfl (bq rfl (bq rfl ?_))
  exact(bJ hl).trans rfl
 .rfl
 .rfl
 .refine a1 rfl (a1 rfl (bq rfl ?_))
  exact(bJ hl).trans rfl
 .rfl
 rfl
def ID(s:aG):s0 (s.t,())=some ((gy s 3).t,()):=by exact(bJ (S8 s)).trans rfl
def axh{s:aG}(ac:bA n s)(aj:n<=1000000000000)(q:d1):IC (s.t,q,())=some ((gh s (kj q 0)).1.t,()):=by unfold IC;dsimp only;rw[TB];refine bg rfl ?_;rw[Ms];refine bg rfl ?_;exact(bJ (xC ac aj (kj q 0))).trans rfl
def YG(s:aG):aG:=⟨{ s.e with ask:=jW },s.p⟩
def xM(s:aG)(n:d1):aG:=
 if n.1=true then(if n.2.1=301 then(gh s (kj n 0)).1 else if n.2.1=2 then kB (gh s (kj n 0)).1 0 else gy s 3)
 else if qB s.e.ask n.2.1 n.2.2.1 then(if n.2.1=301 then YG s else if n.2.1=2 then kB s 0 else gy s 3) else gy s 3
def at7{s:aG}(h:bA m s)(n:d1):bA (m+2) (xM s n):=by
 unfold xM;split
 .split
  .exact df (qH h _) J
  split
  .exact Aw (qH h _) J J
  exact df (n9 h 3) J
 split
 .split
  .exact⟨DD (n:=m) { h.e with askr:=.inl rfl } J,eZ h.p J⟩
  split
  .exact df (Aw h J J) J
  exact df (n9 h 3) J
 exact df (n9 h 3) J
def axd{s:aG}(ac:bA m s)(hm:m<=999999000000)(n:d1):NA (s.t,n,())=some ((xM s n).t,()):=by
 have eL:(ob (s0 (s.t,())) λ(a:e4×Unit)=>(some (a.1,()):Option (e4×Unit)))=some ((gy s 3).t,()):=(bJ (ID s)).trans rfl;have abR:=axh ac J n;have fS:=qH ac (kj n 0);unfold NA xM;rw[show s.t.1.2.2.2.2.2.2.2.2.2.2.2.1=s.e.ask from rfl,J7];by_cases O:n.2.1=301
 .refine bq (cK O) ?_
  cases a2:n.1
  .rw[ O]
   by_cases hm:qB s.e.ask 301 n.2.2.1
   .rw[cF hm,if_pos hm];rfl
   rw[cE hm,if_neg hm];exact a1 rfl eL
  rw[ if_pos O];exact bq rfl ((bJ abR).trans rfl)
 refine a1 (ct O) ?_;by_cases R:n.2.1=2
 .refine bq (cK R) ?_
  cases a2:n.1
  .rw[ R]
   refine a1 rfl (bg rfl ?_);by_cases hm:qB s.e.ask 2 n.2.2.1
   .rw[cF hm,if_pos hm]
    exact bq rfl ((bJ (Eb ac J 0)).trans rfl)
   rw[cE hm,if_neg hm];exact a1 rfl eL
  rw[ if_neg O,if_pos R];rw[abR];exact(bJ (Eb fS J 0)).trans rfl
 refine a1 (ct R) ?_
 grind
def awc{x:V}(hx:x.length=32):lR ((1,x,()),jG,jG,0,1,()):=by
 refine .inr ⟨⟨?_,?_,hx⟩,?_,?_,?_,.inl ⟨rfl,rfl⟩,.inl rfl⟩
 .show(1:Int)<=1;omega
 .show(1:Int)<=2147483647;omega
 .show(1:Int)<=2147483647;omega
 .show(1:Int)<=1;omega
 show(0:Int)<=1;omega
def Dm(e:c?)(own oth:Int):c?:={ e with own:=own,oth:=oth,seen:=cU e.seen oth,ring:=(Dt (vF e.key (gq { e with own:=own,oth:=oth }) 1 [])).1 }
def vL(s:aG)(own oth:Int):aG:=⟨Dm s.e own oth,s.p⟩
def awb(k:V):lR (Dt k).1:=by
 unfold Dt;split
 .rename_i h
  exact awc h
 exact .inl rfl
def Mz{s:aG}(h:bA n s){b:Int}(bu:dC a)(Y:dC b):bA n (vL s a b):=⟨{ h.e with own:=bu,oth:=Y,ring:=awb _ },h.p⟩
def agp{s:aG}(ac:bA n s)(a b:Int):Ec (s.t,a,b,())=some ((vL s a b).t,()):=by have ap:=ac.e.key;unfold Ec;rw[show nn ((s.t.1.1,s.t.1.2.1,s.t.1.2.2.1,s.t.1.2.2.2.1,s.t.1.2.2.2.2.1,a,b,cU s.t.1.2.2.2.2.2.2.2.1 b,s.t.1.2.2.2.2.2.2.2.2),())=_ from xB { s.e with own:=a,oth:=b,seen:=cU s.e.seen b }];refine bg rfl ?_;rw[show Ae (s.t.1.2.1,gq { s.e with own:=a,oth:=b,seen:=cU s.e.seen b },1,aO UInt8,())=_ from acC s.e.key (gq { s.e with own:=a,oth:=b,seen:=cU s.e.seen b }) 1 [] J bh];refine bg rfl ?_;rw[awg];rfl
def agq{s:aG}(ac:bA n s)(aj:n<=1000000000000)(q:d1)(x:Int):IE (s.t,q,x,())=some ((o6 s x (kj q 0)).1.t,()):=by unfold IE;rw[TB];refine bg rfl ?_;rw[Ms];exact(bJ (S9 ac aj x (kj q 0))).trans rfl
def Az(s:aG)(x:Int):aG:=zk ⟨{ Dm s.e s.e.own x with ph:=3,ask:=jW },s.p⟩ 4
def adY{s:aG}(h:bA n s)(hx:dC x):bA (n+1) (Az s x):=by have O:=Mz h h.e.own hx;exact adQ (s:=⟨{ Dm s.e s.e.own x with ph:=3,ask:=jW },s.p⟩) ⟨{ O.e with askr:=.inl rfl,ph:=⟨by show(0:Int)<=3;omega,by show(3:Int)<=8;omega⟩ },O.p⟩ 4
def axf{s:aG}(ac:bA n s)(aj:n<=999999000000)(O:s.e.ph=1)(hx:dC x):ND (s.t,x,())=some ((kW (Az s x) (hY 301)).t,()):=by
 have hm:=Mz ac ac.e.own hx;have aK:=adY ac hx;unfold ND;rw[show Ec (s.t,s.t.1.2.2.2.2.2.1,x,())=_ from agp ac s.e.own x];refine(dL rfl).trans ?_;rw[show s1 ((vL s s.e.own x).t,1,())=some ((ul (vL s s.e.own x) 3).t,()) by unfold s1;rw[show(vL s s.e.own x).t.1.2.2.1=s.e.ph from rfl,O];rfl]
 have ap:bA n (⟨{ Dm s.e s.e.own x with ph:=3,ask:=jW },s.p⟩:aG):=⟨{ hm.e with askr:=.inl rfl,ph:=⟨by show(0:Int)<=3;omega,by show(3:Int)<=8;omega⟩ },hm.p⟩;refine(bJ (ago ap J 4)).trans ((dL rfl).trans ?_);exact(bJ (NF aK J 301)).trans rfl
def tw(s:aG)(q:d1)(x:Int):aG:=
 if(s.e.ph=1/\s.e.id=0)\/s.e.ph=7\/s.e.ph=8 then gy s 3
 else if jU s.e.ph/\s.e.oth=x then(o6 s x (kj q 0)).1
 else if x<=s.e.seen then gy s 3
 else if(fX s).2.2=0 then(o6 (vL (kB (fX s).1 2) (fX s).2.1 x) x (kj q 0)).1
 else if(fX s).2.2=11 then(fX s).1
 else gy (fX s).1 3
def axg{s:aG}(ac:bA n s)(aj:n<=999999000000)(mO:dC x)(q:d1):NE (s.t,q,x,())=some ((tw s q x).t,()):=by
 unfold NE tw;rw[show s.t.1.2.2.1=s.e.ph from rfl,ID];by_cases ao:(s.e.ph=1/\s.e.id=0)\/s.e.ph=7\/s.e.ph=8
 .rw[if_pos ao]
  refine bg (a:=(true,())) ?_ (bq rfl rfl);by_cases O:s.e.ph=1
  .refine bq (cK O) ?_
   have R:s.e.id=0:=J;exact ce (cK R)
  refine a1 (ct O) ?_;by_cases dN:s.e.ph=7
  .exact ce (cK dN)
  refine a1 (ct dN) ?_;rw[cK J]
 rw[if_neg ao];refine bg (a:=(false,())) ?_ (a1 rfl ?_)
 .have dN:¬s.e.ph=7:=J
  have cz:¬s.e.ph=8:=J;have gm:T (ag s.e.ph 7) (some (true,())) (some (ag s.e.ph 8,()))=some (false,()):=by rw[ct dN,ct cz];rfl
  by_cases O:s.e.ph=1
  .have R:¬s.e.id=0:=J
   exact bq (cK O) (a1 (ct R) gm)
  exact a1 (ct O) gm
 rw[H4];refine bg rfl ?_;by_cases hl:jU s.e.ph/\s.e.oth=x
 .rw[if_pos hl]
  refine bg (a:=(true,())) ?_ (bq rfl ?_)
  .rw[cF hl.1]
   refine bq rfl ?_;rw[show ag s.t.1.2.2.2.2.2.2.1 x=true from cK hl.2]
  exact(bJ (agq ac J q x)).trans rfl
 rw[if_neg hl];refine bg (a:=(false,())) ?_ (a1 rfl ?_)
 .by_cases O:jU s.e.ph
  .rw[cF O]
   refine bq rfl ?_;rw[show ag s.t.1.2.2.2.2.2.2.1 x=false from ct (λh=>hl ⟨O,h⟩)]
  rw[cE O];rfl
 by_cases LK:x<=s.e.seen
 .rw[if_pos LK]
  exact bq (hN (LK)) rfl
 rw[if_neg LK];refine a1 (oT (LK)) ?_;rw[agn ac J];by_cases aA:(fX s).2.2=0
 .rw[if_pos aA]
  have O:=Aw (DE ac) (p:=2) J J;have R:=Mz O (Q4 aA) mO;refine bq (cK aA) ?_;rw[Eb (DE ac) J];refine bg rfl ?_;rw[agp O];exact(bJ (agq R J q x)).trans rfl
 rw[if_neg aA];refine a1 (ct aA) ?_;by_cases pC:(fX s).2.2=11
 .rw[if_pos pC]
  exact ce (cK pC)
 rw[if_neg pC];refine a1 (ct pC) ?_;rw[ID];rfl
def HS{s:aG}(h:bA n s)(i:Nat):bA n (gy s i):=⟨{ h.e with dt:=by show(cj _ _ _).length=4;unfold cj;rw[ko];exact h.e.dt },h.p⟩
def atU{s:aG}(h:bA n s)(q:d1)(hx:dC x):bA (n+3) (tw s q x):=by
 have aA:=DE h;unfold tw;split
 .exact df (HS h _) J
 split
 .exact df (MB h _ _) J
 split
 .exact df (HS h _) J
 split
 .rename_i ao
  exact df (MB (Mz (Aw aA (p:=2) J J) (Q4 ao) hx) _ _) J
 split
 .exact df aA J
 exact df (HS aA _) J
def qp(s:aG)(v:dr)(q:d1):aG:=
 let x:=ak v.2.2.1 (aa (1-s.e.id)) 0
 let y:=ak v.2.2.1 (aa s.e.id) 0
 if ¬q.2.1=1\/x<1 then gy s 3
 else if q.1=true/\y=0 then tw s q x
 else if q.1=false/\q.2.2.2.1=0/\s.e.ph=1/\y=s.e.own/\qB s.e.ask q.2.1 q.2.2.1 then kW (Az s x) (hY 301)
 else gy s 3
def axc{s:aG}(ac:bA n s)(aj:n<=999999000000){v:dr}(aC:∀i:Nat,dC (ak v.2.2.1 i 0))(q:d1):Iy (s.t,v,q,())=some ((qp s v q).t,()):=by
 have hid:=ac.e.id;unfold Iy qp;rw[show s.t.1.1=s.e.id from rfl,asd hid];refine bn cN (bn cN ?_);have hx:=aC (aa (1-s.e.id));have hy:=aC (aa s.e.id);generalize ak v.2.2.1 (aa (1-s.e.id)) 0=x at hx ⊢;generalize ak v.2.2.1 (aa s.e.id) 0=y at hy ⊢;by_cases O:¬q.2.1=1\/x<1
 .rw[if_pos O,ID]
  refine bg (a:=(true,())) ?_ (bq rfl rfl);by_cases ai:q.2.1=1
  .refine a1 (j7 ai) ?_
   rw[dj J]
  exact ce (lF ai)
 rw[if_neg O];have ai:q.2.1=1:=J;refine bg (a:=(false,())) ?_ (a1 rfl ?_)
 .refine a1 (j7 ai) ?_
  rw[c6 J]
 by_cases R:q.1=true/\y=0
 .rw[if_pos R]
  refine bg (a:=(true,())) ?_ (bq rfl ?_)
  .rw[R.1,cK R.2];rfl
  exact(bJ (axg ac aj hx q)).trans rfl
 rw[if_neg R];refine bg (a:=(false,())) ?_ (a1 rfl ?_)
 .cases a2:q.1
  .rfl
  rw[ct (λh=>R ⟨a2,h⟩)];rfl
 rw[ show s.t.1.2.2.2.2.2.2.2.2.2.2.2.1=s.e.ask from rfl,J7];by_cases af:q.1=false/\q.2.2.2.1=0/\s.e.ph=1/\y=s.e.own/\qB s.e.ask q.2.1 q.2.2.1
 .rw[if_pos af]
  obtain⟨cI,cR,a3,a4,a5⟩:=af;refine bg (a:=(true,())) ?_ (bq rfl ?_)
  .refine bq (by rw[cI];rfl) (bq (cK cR) (bq (cK a3) (bq (cK a4) ?_)))
   rw[cF a5];rfl
  exact(bJ (axf ac aj a3 hx)).trans rfl
 rw[if_neg af,ID];refine bg (a:=(false,())) ?_ (a1 rfl rfl);by_cases cI:q.1=false
 .refine bq (by rw[cI];rfl) ?_
  by_cases cR:q.2.2.2.1=0
  .refine bq (cK cR) ?_
   by_cases a3:s.e.ph=1
   .refine bq (cK a3) ?_
    by_cases a4:y=s.e.own
    .refine bq (cK a4) ?_
     rw[cE (λh=>af ⟨cI,cR,a3,a4,h⟩)];rfl
    exact b1 (ct a4)
   exact b1 (ct a3)
  exact b1 (ct cR)
 refine b1 ?_;cases a2:q.1
 .grind
 rfl
def at5{s:aG}(h:bA n s){v:dr}(aC:∀i:Nat,dC (ak v.2.2.1 i 0))(q:d1):bA (n+3) (qp s v q):=by
 unfold qp;dsimp only;split
 .exact df (HS h _) J
 split
 .exact atU h q (aC _)
 split
 .exact df (Ax (adY h (aC _)) _) J
 exact df (HS h _) J
def av4{l:List b0}:∀{last:Int},last<=128->fD last l=true->(l.length:Int)<=128-last:=by
 induction l with
 |nil=>intro last h _;simp;omega
 |cons v l ih=>
  intro last h ah;have O:=v8 ah v (ES ..);have R:=Rc O.2;have af:fD v.1 l=true:=by
   unfold fD at ah
   grind
  grind
def Ic{m:M}(h:jJ m=true):m.2.1.length<=128/\w? m:=by have ah:=(pW.1 h).1;have hl:=av4 J ah;exact⟨J,J,λv aC=>by have:=Re (v8 ah v aC).2;omega⟩
def FI(m:Int):Int:=if ig m then m/100 else 0
def yp(m:Int):Prop:=FI m=1\/FI m=2\/FI m=4
instance (m:Int):Decidable (yp m):=by unfold yp;infer_instance
def aaj(m:M):F? (m,())=some (D (yp m.1),()):=by
 unfold F? yp;rw[show Hd (m.1,())=some (FI m.1,()) from ar8 m.1];refine bg rfl ?_;generalize FI m.1=c;by_cases O:c=1
 .subst O;rw[cF (.inl rfl)];rfl
 by_cases R:c=2
 .subst R;rw[cF (.inr (.inl rfl))];rfl
 by_cases aq:c=4
 .subst aq;rw[cF (.inr (.inr rfl))];rfl
 rw[cE J,ct O,ct R,ct aq];rfl
def uy(m:M):Prop:=(hI 39 m.2.1).2.1=true/\(hI 39 m.2.1).1=[57,49]
instance (m:M):Decidable (uy m):=by unfold uy;infer_instance
def awN(g:V×Bool×Unit):(ob (T g.2.1 (some (seq g.1 [57,49],())) (some (false,()))) λ(a:Bool×Unit)=>(some (a.1,()):Option (Bool×Unit)))=some (D (g.2.1=true/\g.1=[57,49]),()):=by
 obtain⟨b,e,⟨⟩⟩:=g;cases e
 .rw[cE (λh=>Bool.false_ne_true h.1)];rfl
 refine bg rfl ?_;by_cases h:b=[57,49]
 .rw[cF ⟨rfl,h⟩,A3 h]
 rw[cE (λx=>h x.2),o5 h]
def aai{m:M}(ah:fD 0 m.2.1=true)(hl:m.2.1.length<=1000000):CF (m,())=some (D (uy m),()):=by unfold CF uy;rw[SY _ _ hl,Rt ah];exact bg rfl (awN _)
def s2(m:M)(day:Int):M:=(m.1,v? m.2.1 (15,de day 6,()),())
def Ps(b:V)(day:Int):Prop:=day<0\/999999<day\/¬(fw b).2.1=0\/¬yp (fw b).1.1\/uy (fw b).1
instance (b:V) (day:Int):Decidable (Ps b day):=by unfold Ps;infer_instance
def oe(b:V)(day:Int):V×Int:=
 if Ps b day then([],1) else if 900<(gO (s2 (fw b).1 day)).length then([],4) else(gO (s2 (fw b).1 day),0)
def ZZ(day:Int):gB 15 (de day 6)=true:=sf (no:=15) (w:=6) Rg J
def axz{m:M}(h:jJ m=true)(day:Int):jJ (s2 m day)=true:=by have O:=pW.1 h;exact pW.2 ⟨awY (x:=(15,de day 6,())) (ZZ day) J O.1,O.2⟩
def Ul(h:(fw b).2.1=0):jJ (fw b).1=true/\gO (fw b).1=b:=by exact MW (b:=b) (wK rfl (wK h rfl))
def axi{day:Int}(ao:0<=day)(O:day<=999999):mD (day,6,())=some (de day 6,0,())/\MZ (day,6,())=some (de day 6,0,()):=by rw[FP _ _ J,aeV _ _ J,if_pos ⟨J,J,ao,by show day<10^6;omega⟩];exact⟨rfl,rfl⟩
def axA{m:M}(hm:jJ m=true)(day:Int){e:Int}:(T (aJ 900 (len (gO (s2 m day)))) (some (aO UInt8,4,())) (some (gO (s2 m day),0,())):Option (V×Int×Unit))=some ((if 900<(gO (s2 m day)).length then(([]:V),(4:Int)) else(gO (s2 m day),0)).1,(if 900<(gO (s2 m day)).length then(([]:V),(4:Int)) else(gO (s2 m day),0)).2,()):=by
 by_cases h:900<(gO (s2 m day)).length
 .rw[if_pos h];exact ce cN
 rw[if_neg h];exact b1 cN
def anX(b:V)(day:Int)(Y:b.length<=1000000):Le (b,day,())=some ((oe b day).1,(oe b day).2,()):=by
 unfold Le oe;rw[SZ _ Y];refine bg rfl ?_;dsimp only;by_cases O:day<0
 .rw[if_pos (.inl O)]
  exact bg (ce cN) rfl
 by_cases R:999999<day
 .rw[if_pos (.inr (.inl R))]
  exact bg (a1 cN (ce cN)) rfl
 by_cases af:(fw b).2.1=0
 .obtain⟨ah,bb⟩:=Ul af
  obtain⟨hl,hf⟩:=Ic ah;have C1:=(pW.1 ah).1;rw[aaj,aai C1 J];by_cases aq:yp (fw b).1.1
  .by_cases a8:uy (fw b).1
   .rw[if_pos (.inr (.inr (.inr (.inr a8)))),cF aq,cF a8]
    exact bg (a1 cN (a1 cN (a1 (j7 af) rfl))) rfl
   rw[if_neg (by rintro(h|h|h|h|h)<;>first|exact O h|exact R h|exact h af|exact h aq|exact a8 h),cF aq,cE a8];refine bg (a:=(false,())) (a1 cN (a1 cN (a1 (j7 af) rfl))) (a1 rfl ?_);rw[(axi J J).1];refine bg rfl (bn rfl ?_);rw[show jT ((fw b).1,15,(de day 6,(0:Int),()).1,())=some (s2 (fw b).1 day,0,()) by rw[LZ _ _ _ J (by rw[na];omega)];unfold D8;rw[ if_pos (ZZ day),ayB C1];rfl]
   refine bg rfl ?_;have ac:=axz ah day;rw[S0 _ (Ic ac).2,if_pos ac];exact bg rfl (axA ah day (e:=0))
  rw[if_pos (.inr (.inr (.inr (.inl aq)))),cE aq];exact bg (a1 cN (a1 cN (a1 (j7 af) rfl))) rfl
 rw[if_pos (.inr (.inr (.inl af)))];exact bg (a1 cN (a1 cN (ce (lF af)))) rfl
end Yp