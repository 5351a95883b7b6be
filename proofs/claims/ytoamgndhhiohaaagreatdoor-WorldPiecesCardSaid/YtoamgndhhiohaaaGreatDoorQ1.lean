/- A part of the proof of the statements of this seat: plain functions, and laws on them. No condition of its own. -/
import Derived.Test.YtoamgndhhiohaaaGreatDoorQ0
import Derived.RangeFuncNested
import Derived.RangeFuncBox
import Derived.RangeFuncLeaves
import Derived.Shelf.Abstract
import Derived.WalkKit
import Derived.OwnWalkIn
import Derived.TacticsInMore
import Derived.LoopNIn
import Derived.LoopIn
import Derived.Maps.AppendAt
import Derived.Test.YtoamgndhhiohaaaGreatDoorProg
import Derived.Conc.LoneCalls
import Derived.KernelRfl
import Derived.Laws.Rows
import Derived.Conc.LoneSelectN
import Derived.Conc.Own5
set_option linter.unusedVariables false
set_option linter.unusedSimpArgs false
set_option linter.defProp false
open _root_ renaming Array->cO,BitVec.ofInt->jv,Bool->aE,Decidable->hu,Int->O,Go.IntKind.u8->gV,List->ab,List.length->T,List.range->fw,Nat->R,Nat.beq->cT,Option->au,Go.Program->d_,UInt32->b_,UInt8->aN,UInt8.ofNat->hy,Unit->aj,Go.Value->aS,Go.World->bu,absurd->ev,congrArg->d4,decide_eq_false->iW,decide_eq_true->iv,decide_eq_true_eq->lH,Bool.false->ag,if_neg->aD,if_pos->aH,Option.none->aq,Option.some->J,Bool.true->af
noncomputable section
open Go Yp
variable {c:aE}{a b e k last m no:O}{l:ab O}{A I cap n r s size t w:R}{α β ρ σ:Type}
namespace Yp
open Go
def KO(k l:O)(v:ai)(hl:T v<=1000000):∃b,uO ((k,l,()),v,())=J (b,())/\(1<=k->b=decide (hU k l v)):=by
 unfold uO;generalize hf:(λ(ae:aE×O×aj)=>_)=f;have ajS:aV (u8 48)=48:=di;have ajT:aV (u8 57)=57:=di;have aY:aV (u8 32)=32:=di;have ajR:aV (u8 126)=126:=di;have key:=PK (f:=f) (λi=>(ag,(i:O),())) (T v) (λi=>(k<=2->48<=aV (ap v i<|u8 0)/\aV (ap v i<|u8 0)<=57)/\(3<=k->k<=5->32<=aV (ap v i<|u8 0)/\aV (ap v i<|u8 0)<=126)) (λi=>.rt (ag,())) 0 (λ_=>trivial) ?_ ?_ ?_
 .rcases key with⟨h,az⟩|⟨i,ao,_,hp,az⟩
  .refine⟨kN k l<|List.length v,?_,λaB => ?_⟩
   .refine(cE az).trans ?_
    by_cases aB:k=1\/k=3\/k=6
    .refine(b3 (a:=(af,())) ?_).trans ?_
     .rcases aB with rfl|rfl|rfl
      .rfl
      .rfl
      rfl
     grind [bj,am,len,kN]
    refine(b3 (a:=(ag,())) ?_).trans ?_
    .grind [bf,cc]
    grind [bf,b3,bj,il,len,kN,jG]
   have aA:xi k v:=by
    refine⟨λac i ao => ?_,λbv i ao => ?_⟩
    .grind [nth_get,J5,jp]
    grind [nth_get]
   simp[hU,aA]
  refine⟨ag,(cE az).trans rfl,λaB=>(iW λaA=>hp ⟨λac => ?_,λav bv => ?_⟩).symm⟩
  .have:=aA.1.1 ac i ao
   grind [jp,nth_get,J5]
  have:=aA.1.2 bv i ao;rw[nth_get ao];omega
 .intro i ao hp
  subst hf;refine(bj<|xY.trans<|decide_eq_true ao).trans ?_;have c:i64 (aG (i:O) 1)=((i+1:R):O):=gY (b:=1) V;have VO:aO (i:O) (len v)=af:=gr ao;simp only[eO,c,ajS,ajT,aY,ajR,VO];refine(b3 (a:=(ag,())) ?_).trans rfl;by_cases ac:k<=2
  .have:=hp.1 ac
   refine(bj<|il ac).trans ?_;refine(bf<|cm V).trans ?_;refine(bf<|cm V).trans ?_
   grind [bf,jG]
  refine(bf<|jG ac).trans ?_;refine(bj<|il<|show 3<=k by omega).trans ?_;by_cases bv:k<=5
  .have:=hp.2 V bv
   refine(bj<|il bv).trans ?_;refine(bf<|cm V).trans ?_;exact nh<|cm V
  grind [bf,jG]
 .intro i ao hp
  subst hf;refine(bj<|xY.trans<|decide_eq_true ao).trans ?_;have VO:aO (i:O) (len v)=af:=gr ao;simp only[eO,ajS,ajT,aY,ajR,VO];refine(b3 (a:=(af,())) ?_).trans rfl;by_cases ac:k<=2
  .refine(bj<|il ac).trans ?_
   by_cases b6:aV (ap v i<|u8 0)<48
   .exact bj (cB b6)
   refine(bf<|cm b6).trans ?_;refine(bj<|cB ?_).trans rfl;refine lI λak=>hp ⟨λ_=>V,λh=>V⟩
  by_cases bv:k<=5
  .refine(bf<|jG ac).trans ?_
   refine(bj<|il<|show 3<=k by omega).trans ?_;refine(bj<|il bv).trans ?_;by_cases b6:aV (ap v i<|u8 0)<32
   .exact bj (cB b6)
   refine(bf<|cm b6).trans ?_;refine nh<|cB ?_;refine lI λak=>hp ⟨λ_=>V,λ_ _=>V⟩
  exact ev ⟨λh=>ev h ac,λ_ h=>ev h bv⟩ hp
 subst hf;exact bf<|cm In
def alv(no:O)(v:ai)(hl:T v<=1000000):KL (no,v,())=J (gp no v,()):=by
 unfold KL gp;refine aW (KM no) ?_;cases bg:fl no with
 |none =>rw[awt rfl];obtain⟨b,ak,_⟩:=KO 0 0 v hl;refine aW ak ?_;exact aW (bf rfl) rfl
 |some p =>obtain⟨k,l⟩:=p;rw[agU rfl];obtain⟨b,ak,h⟩:=KO k l v hl;refine aW ak ?_;refine aW (bj rfl)<|nh<|h ?_;have:=(qW bg).1;unfold kinds at this;omega
def h'(k:O)(n:R):ai:=if 0<ec k then hO (fo<|bE 10 g4 n (ec k).toNat) else[]
def body(k:O)(v:ai):ai:=if k<=2 then hO (fo v) else v
def lF(k:O)(v:ai):ai:=h' k (T v)++body k v
def rB(no:O)(v:ai):ai×O×aj:=match fl no with|none=>([],12,())|some (k,l)=>if hU k l v then(lF k v,0,()) else([],1,())
def aqx(p:ai):T (hO p)=T p/2:=by simp[hO]
theorem sY(p:ai):T (hO<|fo p)=(T p+1)/2:=by rw[aqx,Kh];omega
def y1(k:O)(v:ai):T (body k v)=if k<=2 then(T v+1)/2 else T v:=by
 grind [body,sY]
def VW{l:O}{v:ai}(aB:kinds k)(tc:k=2\/k=4->l<=99)(qZ:l<=400)(a3:hU k l v)(aC:0<ec k):(1<=ec k/\ec k<=18)/\(0<=(T v:O)/\(T v:O)<10^(ec k).toNat)/\1<=T v/\(T v:O)<=l:=by
 have:=a3.2
 grind [kN,ec]
def VX(aB:kinds k):ec k=0\/ec k=2\/ec k=3:=by
 grind [ec]
def akf(aB:kinds k):(aa (am k 1) (J (af,())) (J (am k 2,())):au<|Bool×aj)=J (decide (k<=2),()):=aLs
def av3(no:O)(v:ai)(hl:T v<=1000000):Im (no,v,())=J (rB no v):=by
 unfold Im rB;refine aW (Il no) ?_;cases bg:fl no with
 |none=>rfl
 |some p=>
  obtain⟨k,l⟩:=p;obtain⟨aB,Y,qZ,tc⟩:=qW bg;refine aW (Oy no v hl) ?_;have q3:gp no v=decide (hU k l v):=by unfold gp;rw[bg]
  rw[q3];by_cases a3:hU k l v
  rotate_left
  .rw[iW a3]
   simp only[aD a3];rfl
  rw[iv a3];simp only[aH a3];refine aW (agp aB) ?_;have ak:=akf aB;have E1:k<=2->vF (v,())=J (body k v,0,()):=λh=>by rw[V_ v hl,aH<|a3.1.1 h];unfold body;rw[aH h]
  have Yi:=y1 k v;by_cases aC:0<ec k
  .obtain⟨c1,c2,fK⟩:=VW aB tc qZ a3 aC
   refine bA (cB aC) ?_;have a?:vG (len v,ec k,())=J (bE 10 g4 (T v) (ec k).toNat,0,()):=by
    grind [Oa,len]
   refine aW a? ?_;have uo:vF (bE 10 g4 (T v) (ec k).toNat,())=J (h' k<|List.length v,0,()):=by
    grind [V_,mj,Bv,h']
   refine aW uo ?_;refine aW ak ?_;have I9:T (h' k<|List.length v)<=10:=by
    grind [h',sY,mj]
   by_cases ac:k<=2
   .refine bA (iv ac) ?_
    refine aW (E1 ac) ?_;rw[aH ac]at Yi;exact a7 (kW (by simp only[bB,aQ];omega)) rfl
   refine a8 (iW ac) ?_;refine a7 (kW (by simp only[bB,aQ];omega)) ?_;have:body k v=v:=by unfold body;rw[aD ac]
   simp only[lF,this];rfl
  refine a8 (cm aC) ?_;refine aW ak ?_
  grind [h',bj,b3,c3,kW,aQ,lF,bf,body]
def aEe(no:O)(v:ai)(hl:T v<=1000000):KN (no,v,())=J (rB no v):=by
 unfold KN rB;refine aW (KM no) ?_;cases bg:fl no with
 |none=>rfl
 |some p=>
  obtain⟨k,l⟩:=p;obtain⟨aB,Y,qZ,tc⟩:=qW bg;obtain⟨b,ak,aX⟩:=KO k l v hl;refine aW ak ?_;rw[aX (by unfold kinds at aB;omega)];by_cases a3:hU k l v
  rotate_left
  .rw[iW a3]
   simp only[aD a3];rfl
  rw[iv a3];simp only[aH a3];refine aW (QH aB) ?_;have E1:k<=2->ws (v,())=J (body k v,0,()):=λh=>by rw[aae v hl,aH<|a3.1.1 h];unfold body;rw[aH h]
  have Yi:=y1 k v;by_cases aC:0<ec k
  .obtain⟨c1,c2,fK⟩:=VW aB tc qZ a3 aC
   refine bA (cB aC) ?_;refine aW (QH aB) ?_;have a?:wu (len v,ec k,())=J (bE 10 g4 (T v) (ec k).toNat,0,()):=by
    grind [Qx,len]
   refine aW a? ?_;have uo:ws (bE 10 g4 (T v) (ec k).toNat,())=J (h' k<|List.length v,0,()):=by
    grind [aae,mj,Bv,h']
   refine aW uo ?_;have I9:T (h' k<|List.length v)<=10:=by
    grind [h',sY,mj]
   by_cases ac:k<=2
   .refine bA (iv ac) ?_
    refine aW (E1 ac) ?_;rw[aH ac]at Yi;refine a7 (kW aPa) ?_;exact a7 (kW (by simp only[bB,aQ,aI,bb,d7,gM];omega)) rfl
   exact aNr
  refine a8 (cm aC) ?_;have hh:h' k (T v)=[]:=by unfold h';rw[aD aC]
  by_cases ac:k<=2
  .refine bA (iv ac) ?_
   grind [b3,c3,kW,bB,aQ,aI,bb,lF]
  exact aNr
theorem pM(a b:ai):nR (a,b,())=J (seq a b,()):=rfl
def aCM{u:ai}{k N:R}(hl:T u=2*k)(fE:(N+1)/2=k)(h:N%2=1->ap u 0 (u8 0)=48):fo (u.drop<|N%2)=u:=by
 by_cases bg:N%2=1
 .rw[bg]
  unfold fo;rw[aH<|by grind];cases u with
  |nil=>simp at hl;omega
  |cons x r=>have:=h bg;simp only[ap,List.getD_cons_zero]at this;rw[this];rfl
 grind [aCN]
theorem ags{s:ai}(h:gX s):gX<|fo s:=by
 unfold fo;split
 .intro i ao
  cases i with
  |zero=>exact(by decide:jp 48)
  |succ i=>exact h i (by grind)
 exact h
theorem akS(s:ai):(fo s).drop (T s%2)=s:=by
 unfold fo;by_cases h:T s%2=1
 .grind
 simp_all
theorem XA{s:ai}(hf:gX s):gI (hO<|fo s)=fo s:=ayi (ags hf) (by rw[Kh];omega)
def aqy{s t:ai}(hs:gX s)(ht:gX t)(hl:T s=T t)(h:hO (fo s)=hO (fo t)):s=t:=by
 grind [XA,akS]
def wI{b:ai}{N:R}(eD:I<=T b)(fE:N<=999):(T b<I+(N+1)/2/\jg b I N=([],0,3,())) \/
  (I+(N+1)/2<=T b/\jg b I N=([],0,2,())/\∀s,T s=N->gX s->fv b I ((N+1)/2)=hO (fo s)->False) \/
  (∃s,I+(N+1)/2<=T b/\jg b I N=(s,((I+(N+1)/2:R):O),0,())/\gX s/\T s=N/\fv b I ((N+1)/2)=hO (fo s)):=by
 unfold jg;simp only[ie];rw[aD V];by_cases Y:(T b:O)-I<((N:O)+1)/2
 .grind
 rw[aD Y];have ct:I+(N+1)/2<=T b:=V;have aiF:=tL ct;have zC:T (gI<|fv b I<|(N+1)/2)=2*((N+1)/2):=by rw[ut,aiF]
 refine .inr ?_;by_cases ac:(N:O)%2=1/\¬ap (gI<|fv b I<|(N+1)/2) 0 (u8 0)=48
 .rw[aH ac]
  refine .inl ⟨ct,rfl,λs hs hf h=>ac.2 ?_⟩;rw[h,XA hf];unfold fo;rw[aH V];rfl
 rw[aD ac];have hp:fo ((gI<|fv b I<|(N+1)/2).drop<|N%2)=gI (fv b I<|(N+1)/2):=aCM zC rfl λbg=>lI λaA=>ac ⟨V,aA⟩
 grind [aqw,ags,XA,akS]
def aok{b x q:ai}(h:b.drop I=x++q):fv b I (T x)=x:=by
 grind [fv]
theorem Oc{b x:ai}(h:fv b I n=x):b.drop I=x++b.drop (I+n):=by
 grind [fv,List.drop_drop,List.take_append_drop]
def avf{b x:ai}(eD:I<=T b)(h:b.drop I=x):T b=I+T x:=by have:=d4 T h;rw[dV]at this;omega
def abD{b s q:ai}(eD:I<=T b)(fE:T s<=999)(hf:gX s)(h:b.drop I=hO (fo s)++q):jg b I (T s)=(s,((I+(T s+1)/2:R):O),0,()):=by
 have hl:=avf eD h;have ht:=aok h;rw[d7,sY]at hl;rw[sY]at ht;rcases wI eD fE with⟨Y,_⟩|⟨_,_,ac⟩|⟨t,_,av,aJ,bv,c_⟩
 .omega
 .exact(ac s rfl hf ht).elim
 rw[av,aqy aJ hf bv<|by rw[<- c_,ht]]
def wn(k l:O)(b:ai)(a n:O):ai×O×O×aj:=
 if k<=2 then(if(jg b a n).2.2.1=0 then((jg b a n).1,(jg b a n).2.1,0,()) else([],0,(jg b a n).2.2.1,()))
 else if(T b:O)-a<n then([],0,3,()) else if hU k l (fv b a.toNat n.toNat) then(fv b a.toNat n.toNat,a+n,0,()) else([],0,2,())
def wo(k l:O)(b:ai)(a:O):ai×O×O×aj:=
 if a<0\/(T b:O)<a then([],0,1,()) else if 0<ec k then
  (if(jg b a<|ec k).2.2.1=0 then(if(val (jg b a<|ec k).1:O)<1\/l<val (jg b a<|ec k).1 then([],0,2,()) else wn k l b (jg b a<|ec k).2.1 (val (jg b a<|ec k).1))
  else([],0,(jg b a<|ec k).2.2.1,()))
 else wn k l b a l
def ki(no:O)(b:ai)(a:O):ai×O×O×aj:=match fl no with|none=>([],0,12,())|some (k,l)=>wo k l b a
def ago{l:O}{b:ai}{N:R}(bg:fl no=J (k,l))(hl:T b<=1000000)(b6:A<=T b)(ax:1<=N/\N<=400):
  (ob (aa (am k 1) (J (af,()))<|some (am k 2,())) λ(bn:aE×aj)=>aa bn.1 (ob (za (b,(A:O),(N:O),())) λ(t:ai×O×O×aj)=>aa (a2<|am t.2.2.1 0) (J (aI aN,0,t.2.2.1,()))<|an (bO 1<|aQ t.1)<|some (t.1,t.2.1,0,()))
   (aa (aK (i64<|bw (len b) (A:O)) (N:O)) (J (aI aN,0,3,())) (an (cq (A:O) (i64<|aG (A:O) (N:O))<|len b) (an (bO 1<|bB (aQ<|aI aN)<|aQ<|sub b (A:O)<|i64<|aG (A:O) (N:O))
    (ob (xj (no,bb (aI aN)<|sub b (A:O)<|i64<|aG (A:O) (N:O),())) λ(a:aE×aj)=>aa (a2 a.1) (J (aI aN,0,2,()))<|some (bb (aI aN)<|sub b (A:O)<|i64<|aG (A:O) (N:O),i64<|aG (A:O) (N:O),0,())))))
   : au<|ai×O×O×aj)=J (wn k l b A N):=by
 obtain⟨aB,Y,qZ,tc⟩:=qW bg;refine aW (akf aB) ?_;unfold wn;by_cases ac:k<=2
 .refine bA (iv ac) ?_
  rw[aH ac];refine aW (V? b A N hl) ?_;rcases wI b6 (show N<=999 by omega) with⟨_,h⟩|⟨_,h,_⟩|⟨s,_,h,_,hs,_⟩
  .rw[h];rfl
  .rw[h];rfl
  rw[h];refine a7 (kW (by simp only[aQ];omega)) ?_;rfl
 refine a8 (iW ac) ?_;rw[aD ac];have c0:i64 (bw (len b) (A:O))=(T b:O)-A:=by
  grind [bw,len,fF]
 have fK:i64 (aG (A:O) (N:O))=((A+N:R):O):=gY V;simp only[c0,fK,LU,ie];by_cases av:(T b:O)-A<N
 .rw[aH av];exact bj<|cB av
 rw[aD av];refine a8 (cm av) ?_;have ct:A+N<=T b:=V;refine a7 (q7 V V In) ?_;have pC:=tL ct;refine a7 (kW aPa) ?_;have Xn:bb (aI aN) (fv b A N)=fv b A N:=rfl;simp only[Xn];refine aW (Oy no _ V) ?_;have q3:gp no (fv b A N)=decide (hU k l<|fv b A N):=by unfold gp;rw[bg]
 rw[q3];by_cases a3:hU k l<|fv b A N
 .rw[aH a3,iv a3];exact bf rfl
 rw[aD a3,iW a3];exact bj rfl
theorem Zo{l:O}{s:ai}(ac:k<=2)(hf:gX s)(ax:kN k l<|List.length s):hU k l s:=⟨⟨λ_=>hf,λ_=>EB hf⟩,ax⟩
def al4{l:O}{b:ai}{N:R}(bg:fl no=J (k,l))(hl:T b<=1000000)(b6:A<=T b)(ax:1<=N/\N<=400)(k6:kN k l N):
  (ob (aa (bL k 2) (J (i64<|de (i64<|aG (N:O) 1) 2,()))<|some ((N:O),())) λ(yW:O×aj)=>aa (aK (i64<|bw (len b) (A:O)) yW.1) (J (aI aN,0,3,()))
   (an (cq (A:O) (i64<|aG (A:O) yW.1)<|len b) (an (bO 1<|bB (aQ<|aI aN)<|aQ<|sub b (A:O)<|i64<|aG (A:O) yW.1)
    (aa (bL k 2) (ob (z_ (b,(A:O),(N:O),())) λ(t:ai×O×O×aj)=>aa (a2<|am t.2.2.1 0) (J (aI aN,0,2,()))<|an (bO 1<|aQ t.1)<|ob (uO ((k,l,()),t.1,())) λ(a:aE×aj)=>aa (a2 a.1) (J (aI aN,0,2,()))<|some (t.1,i64<|aG (A:O) yW.1,0,()))
     (ob (uO ((k,l,()),bb (aI aN)<|sub b (A:O)<|i64<|aG (A:O) yW.1,())) λ(a:aE×aj)=>aa (a2 a.1) (J (aI aN,0,2,()))<|some (bb (aI aN)<|sub b (A:O)<|i64<|aG (A:O) yW.1,i64<|aG (A:O) yW.1,0,())))))
   : au<|ai×O×O×aj)=J (wn k l b A N):=by
 obtain⟨aB,Y,qZ,tc⟩:=qW bg;have qc:1<=k:=by unfold kinds at aB;omega
 unfold wn;have c0:i64 (bw (len b) (A:O))=(T b:O)-A:=by
  grind [bw,len,fF]
 by_cases ac:k<=2
 .have c1:i64 (de (i64<|aG (N:O) 1) 2)=(((N+1)/2:R):O):=by rw[show i64 (aG (N:O) 1)=((N+1:R):O) from gY (b:=1) V];exact zD (b:=2) V
  refine aW (bj<|il ac) ?_;have fK:i64 (aG (A:O) (((N+1)/2:R):O))=((A+(N+1)/2:R):O):=gY V;rw[aH ac];simp only[ c1,fK,LU];rcases wI b6 (show N<=999 by omega) with⟨av,h⟩|⟨av,h,_⟩|⟨s,av,h,hf,hs,_⟩
  .refine bA (cB V) ?_
   rw[h];rfl
  .refine a8 (cm V) ?_
   refine a7 (q7 V V In) ?_;have pC:=tL av;refine a7 (kW aPa) ?_;refine bA (il ac) ?_;refine aW (KB b A N hl) ?_;rw[h];rfl
  refine a8 (cm V) ?_;refine a7 (q7 V V In) ?_;have pC:=tL av;refine a7 (kW aPa) ?_;refine bA (il ac) ?_;refine aW (KB b A N hl) ?_;rw[h];refine a7 (kW (by simp only[aQ];omega)) ?_;obtain⟨t,ht,aX⟩:=KO k l s V;refine aW ht ?_;rw[aX qc,iv<|Zo ac hf (by rw[hs];exact k6)];rfl
 refine aW (bf<|jG ac) ?_;rw[aD ac];have fK:i64 (aG (A:O) (N:O))=((A+N:R):O):=gY V;simp only[c0,fK,LU,ie];by_cases av:(T b:O)-A<N
 .rw[aH av];exact bj<|cB av
 rw[aD av];refine a8 (cm av) ?_;have ct:A+N<=T b:=V;refine a7 (q7 V V In) ?_;have pC:=tL ct;refine a7 (kW aPa) ?_;refine a8 (jG ac) ?_;obtain⟨t,ht,aX⟩:=KO k l (fv b A N) V;refine aW ht ?_;rw[aX qc];by_cases a3:hU k l<|fv b A N
 .rw[aH a3,iv a3];exact bf rfl
 rw[aD a3,iW a3];exact bj rfl
def aJt{s:ai}(hf:gX s)(h:T s<=3):val s<1000:=by have:=aHI hf;have ac:10^T s<=10^3:=A9 V h;omega
theorem agJ{l:O}(aC:0<ec k)(Y:1<=n)(ac:(n:O)<=l):kN k l n:=by
 unfold kN;rw[aD]
 .omega
 rintro(rfl|rfl|rfl)<;>exact ev aC di
theorem WE{l:O}(aB:kinds k)(aC:¬0<ec k):kN k l n↔(n:O)=l:=by unfold kN;rcases aB with rfl|rfl|rfl|rfl|rfl|rfl|rfl<;>first|exact ev di aC|simp
def av2(no:O)(b:ai)(a:O)(hl:T b<=1000000):Oz (no,b,a,())=J (ki no b a):=by
 unfold Oz ki;refine aW (Il no) ?_;cases bg:fl no with
 |none=>rfl
 |some p=>
  obtain⟨k,l⟩:=p;obtain⟨aB,Y,qZ,tc⟩:=qW bg;show _=J (wo k l b a);unfold wo;by_cases ac:a<0
  .exact aMp
  by_cases av:(T b:O)<a
  .exact aLw
  refine aW (a:=(ag,())) (a8 (cm ac)<|nh<|cm av) ?_;rw[aD V];obtain⟨A,rfl⟩:∃n:R,a=n:=⟨a.toNat,V⟩;refine aW (agp aB) ?_;by_cases aC:0<ec k
  .rw[aH aC]
   refine bA (cB aC) ?_;refine aW (V? b A (ec k) hl) ?_;have ahU:=VX aB;obtain⟨C,dc⟩:∃n:R,ec k=n:=⟨(ec k).toNat,V⟩;rw[dc];rcases wI (b:=b) (I:=A) (N:=C) V V with⟨_,h⟩|⟨_,h,_⟩|⟨s,aJ,h,hf,hs,_⟩
   .rw[h];rfl
   .rw[h];rfl
   rw[h];refine aW (Wa s) ?_;rw[aH ⟨V,V,hf⟩];by_cases pA:(val s:O)<1
   .exact aMC
   by_cases xF:l<(val s:O)
   .exact aLA
   refine aW (a:=(ag,())) (a8 (cm pA)<|nh<|cm xF) ?_;rw[aD<|show ¬((val s:O)<1\/l<val s) by omega];exact ago bg hl aJ ⟨V,V⟩
  rw[aD aC];refine a8 (cm aC) ?_;obtain⟨L,rfl⟩:∃n:R,l=n:=⟨l.toNat,V⟩;exact ago (b:=b) (A:=A) (N:=L) bg hl V ⟨V,V⟩
def aEd(no:O)(b:ai)(a:O)(hl:T b<=1000000):QG (no,b,a,())=J (ki no b a):=by
 unfold QG ki;refine aW (KM no) ?_;cases bg:fl no with
 |none=>rfl
 |some p=>
  obtain⟨k,l⟩:=p;obtain⟨aB,Y,qZ,tc⟩:=qW bg;show _=J (wo k l b a);unfold wo;by_cases ac:a<0
  .exact aMp
  by_cases av:(T b:O)<a
  .exact aLw
  refine aW (a:=(ag,())) (a8 (cm ac)<|nh<|cm av) ?_;rw[aD V];obtain⟨A,rfl⟩:∃n:R,a=n:=⟨a.toNat,V⟩;refine aW (QH aB) ?_;by_cases aC:0<ec k
  .rw[aH aC]
   refine bA (cB aC) ?_;refine aW (QH aB) ?_;refine aW (KB b A (ec k) hl) ?_;have ahU:=VX aB;obtain⟨C,dc⟩:∃n:R,ec k=n:=⟨(ec k).toNat,V⟩;rw[dc];rcases wI (b:=b) (I:=A) (N:=C) V V with⟨_,h⟩|⟨_,h,_⟩|⟨s,aJ,h,hf,hs,_⟩
   .rw[h];rfl
   .rw[h];rfl
   rw[h];refine aW (aag s V) ?_;rw[aH ⟨V,V,hf⟩];by_cases pA:(val s:O)<1
   .exact aMC
   by_cases xF:l<(val s:O)
   .exact aLA
   refine aW (a:=(ag,())) (a8 (cm pA)<|nh<|cm xF) ?_;rw[aD<|show ¬((val s:O)<1\/l<val s) by omega];exact al4 bg hl aJ ⟨V,V⟩<|agJ aC V V
  rw[aD aC];refine a8 (cm aC) ?_;obtain⟨L,rfl⟩:∃n:R,l=n:=⟨l.toNat,V⟩;exact al4 (b:=b) (A:=A) (N:=L) bg hl V ⟨V,V⟩<|(WE aB aC).2 rfl
end Yp
namespace Yp
open Go
def pc:=@List.cons.inj
def D(p:Prop):aE := @decide p (Classical.propDecidable p)
theorem o_{p:Prop}:D p=af↔p:=by unfold D;exact @decide_eq_true_iff p<|Classical.propDecidable p
theorem bS{p:Prop}(h:p):D p=af:=o_.2 h
theorem b1{p:Prop}(h:¬p):D p=ag:=by
 cases e:D p
 .rfl
 exact ev (o_.1 e) h
def o9{b:aE}{p:Prop}(h:b=af↔p):b=D p:=rH.2<|h.trans o_.symm
@[congr] theorem bs {α β:Type} {o dZ:au α} {k:α->au β} (h:o=dZ):ob o k=ob dZ k:=by rw[h]
@[congr] theorem aJm {α:Type} {c dj:aE} {a b:α} (h:c=dj):aa c a b=aa dj a b:=by rw[h]
@[congr] theorem aIr {α:Type} {c dj:aE} {a:au α} (h:c=dj):an c a=an dj a:=by rw[h]
@[congr] theorem aI7 {σ ρ β:Type} {o dZ:au<|aL σ ρ} {kn:σ->au β} {ij:R->σ->au β} {iD:ρ->au β} (h:o=dZ):b? o kn ij iD=b? dZ kn ij iD:=by rw[h]
theorem g01{a:α}{k:α->au β}:ob (J a) k=k a:=rfl
def g02{p:Prop}{a b:α}(h:p):aa (D p) a b=a:=bj<|bS h
def g03{p:Prop}{a b:α}(h:¬p):aa (D p) a b=b:=bf<|b1 h
def g04{p:Prop}{a:au α}(h:p):an (D p) a=a:=c3<|bS h
theorem g05{a b:α}:aa af a b=a:=rfl
theorem g06{a b:α}:aa ag a b=b:=rfl
theorem g07{a:au α}:an af a=a:=rfl
theorem g08:aK a b=D (a<b):=o9 decide_eq_true_iff
theorem g09:bL a b=D (a<=b):=o9 decide_eq_true_iff
theorem g10:am a b=D (a=b):=by unfold am;exact o9 beq_iff_eq
def g11{a b:ai}:seq a b=D (a=b):=by unfold seq;exact o9 beq_iff_eq
theorem g12{p:Prop}:a2 (D p)=D (¬p):=by
 by_cases h:p
 .rw[bS h,b1<|not_not_intro h];rfl
 rw[b1 h,bS h];rfl
def g13{p q:Prop}:df (D p) (D q)=D (p/\q):=o9 (by simp[df,o_])
def g14{p q:Prop}:iP (D p) (D q)=D (p\/q):=o9 (by simp[iP,o_])
def g15{q:aE}:aa c (J (af,())) (J (q,()))=J (iP c q,()):=aKE
def g16{q:aE}:aa c (J (q,())) (J (ag,()))=J (df c q,()):=aKE
def g17{d:aE}{x:au<|Bool×aj}:aa c (aa d x<|some (ag,())) (J (ag,()))=aa (df c d) x (J (ag,())):=aKE
def g18{d:aE}{x:au<|Bool×aj}:aa c (J (af,())) (aa d (J (af,())) x)=aa (iP c d) (J (af,())) x:=aKE
def g19{c:O}:cq a b c=D (0<=a/\a<=b/\b<=c):=o9 (by simp[cq,and_assoc])
def g20:aO a b=D (0<=a/\a<b):=o9 (by simp[aO])
def g21{c:R}:bO c n=D (n*c<=140737488355328):=o9 decide_eq_true_iff
theorem g22{l:ab α}:len l=(T l:O):=rfl
theorem g23{l:ab α}:aQ l=T l:=rfl
theorem g24{a b:R}:bB a b=a+b:=rfl
theorem g25{a b:ab α}:bb a b=a++b:=rfl
theorem g26:aI α=[]:=rfl
def g27{n:O}(h : -9223372036854775808<=n/\n<=9223372036854775807):i64 n=n:=fF h.1 h.2
theorem g28:aG a b=a+b:=rfl
theorem g29:bw a b=a-b:=rfl
theorem g30:dI a b=a*b:=rfl
def g31(h:0<=a):de a b=a/b:=by simp only[de];exact Int.tdiv_eq_ediv_of_nonneg h
theorem g32(h:0<=a):cY a b=a%b:=by simp only[cY];exact Int.tmod_eq_emod_of_nonneg h
theorem g33:ah a=a.toNat:=rfl
theorem g34{a:R}:bc a=(a:O):=rfl
theorem g35{a b:R}:cy a b=a-b:=rfl
theorem g36:df af c=c:=rfl
def g37:df c af=c:=aKE
theorem g38:iP ag c=c:=rfl
def g39:iP c ag=c:=aKE
def g40:a2 (a2 c)=c:=aKE
theorem g41:a2 af=ag:=rfl
theorem g42:a2 ag=af:=rfl
theorem g43{a b:aE}:p7 a b=D (a=b):=o9 (by unfold p7;exact beq_iff_eq)
theorem g44:df ag c=ag:=rfl
def g45:df c ag=ag:=aKE
theorem g46:iP af c=af:=rfl
def g47:iP c af=af:=aKE
theorem g48{k:α->au β}:ob aq k=aq:=rfl
def g49{p q:Prop}:(D p=D q)=(p↔q):=by
 grind [o_]
def g50{a:α}:aa c a a=a:=aKE
def g51{p:Prop}[hu p]:decide p=D p:=o9 decide_eq_true_iff
def g52:D True=af:=bS trivial
def g53:D False=ag:=b1 not_false
def g54{p:Prop}:(D p=af)=p:=propext o_
def g55{p:Prop}:(D p=ag)=¬p:=by refine propext ⟨λh hp => ?_,b1⟩;rw[bS hp]at h;cases h
def g56{p:Prop}:(af=D p)=p:=propext ⟨λh=>o_.1 h.symm,λh=>(o_.2 h).symm⟩
def g57:hE a b=min a b:=by unfold hE;split<;>omega
theorem g58:dk a b=max a b:=aNz
theorem Ir{a:aN}:aV a=(a.toNat:O):=rfl
theorem g60{a:UInt16}:J4 a=(a.toNat:O):=rfl
def g61(h:0<=a/\a<256):aV (u8 a)=a:=by obtain⟨n,rfl⟩:∃n:R,a=n:=⟨a.toNat,V⟩;exact aBD V
theorem lc_nx{y:σ}{kn:σ->au β}{ij:R->σ->au β}{iD:ρ->au β}:b? (J<|.nx y) kn ij iD=kn y:=rfl
theorem ru{p:Prop}(h:p):J (D p,())=J (af,()):=by rw[bS h]
def u1{p:Prop}(h:¬p):J (D p,())=J (ag,()):=by rw[b1 h]
theorem lZ{p q:Prop}(h:p↔q):J (D p,())=J (D q,()):=by rw[show p=q from propext h]
theorem lc_rt'{r:ρ}{kn:σ->au β}{ij:R->σ->au β}{iD:ρ->au β}:b? (J<|.rt r) kn ij iD=iD r:=rfl
theorem lc_ex'{y:σ}{k:R}{kn:σ->au β}{ij:R->σ->au β}{iD:ρ->au β}:b? (J<|.ex k y) kn ij iD=ij k y:=rfl
def g62{k:R}:bU k k=af:=by simp[bU]
def g63:ah (n:O)=n:=eO
theorem g64:((1:R):O)=1:=rfl
theorem g65:((0:R):O)=0:=rfl
def g66{p:Prop}:(ag=D p)=¬p:=propext ⟨λh=>g55.mp h.symm,λh=>(b1 h).symm⟩
def kB{β σ ρ:Type}(mk:β->R->σ)(i:R):aL β ρ->aL σ ρ
 |.nx b=>.nx (mk b<|i+1)|.ex k b=>.ex k (mk b i)|.rt r=>.rt r
def jC{α β σ ρ:Type}(mk:β->R->σ)(e:R)(step:β->α->aL β ρ):β->R->ab α->aL σ ρ
 |b,i,[]=>.ex e<|mk b i
 |b,i,x::r=>match step b x with
  |.nx eH=>jC mk e step eH (i+1) r
  |.ex k eH=>.ex k<|mk eH i
  |.rt q=>.rt q
def q_{f:σ->au (aL σ ρ)}(l:ab α)(mk:β->R->σ)(e:R)(step:β->α->aL β ρ)(I:β->R->Prop)
  (hs:∀b i (h:i<T l),I b i->f (mk b i)=J (kB mk i<|step b l[i])/\∀eH,step b l[i]=.nx eH->I eH (i+1))
  (aX:∀b,I b (T l)->f (mk b<|List.length l)=J (.ex e<|mk b<|List.length l)) (eZ:β) (aC:I eZ 0):bG f (mk eZ 0)=J (jC mk e step eZ 0 l):=by
 have key:∀(r:ab α) (i:R) (b:β),l.drop i=r->i<=T l->I b i->bG f (mk b i)=J (jC mk e step b i r):=by
  intro r;induction r with
  |nil =>intro i b az ao eD;have hl:=d4 T az;rw[dV,gM]at hl;have:i=T l:=V;subst this;exact dr<|aX b eD
  |cons x r ih=>
   intro i b az ao eD;have hl:=d4 T az;rw[dV,gd]at hl;have bK:i<T l:=V;have hx:l[i]=x/\l.drop (i+1)=r:=by rw[oE bK]at az;exact⟨(pc az).1,(pc az).2⟩
   obtain⟨Y,ac⟩:=hs b i bK eD;rw[hx.1]at Y ac;unfold jC;cases eU:step b x with
   |nx eH=>rw[eU]at Y;rw[dT Y];exact ih (i+1) eH hx.2 bK<|ac eH eU
   |ex k eH=>rw[eU]at Y;exact dr Y
   |rt q=>rw[eU]at Y;exact oY Y
 exact key l 0 eZ rfl (ea _) aC
attribute [go_sem ↓] g02 g03 g04 g05 g06
attribute [go_sem] g01 g02 g03 g04 g05 g06 g07 g08 g09 g10 g11 g12 g13 g14 g15 g16 g17 g18 g19 g20 g21 g22 g23 g24 g25 g26 g27 g28 g29 g30 g31 g32 g34 g35 g36 g37 g38 g39 g40 g41 g42 g43 g44 g45 g46 g47 g48 g49 g50 g51 g52 g53 g54 g55 g56 g57 g58 g60 g61 not_true_eq_false not_false_eq_true List.nil_append List.append_nil List.length_nil and_true true_and or_true true_or or_false false_or and_false false_and if_true if_false lc_rt' lc_ex' lc_nx g62 g63 Int.toNat_natCast Int.natCast_add nth_get g33 g64 g65 Int.toNat_zero Bool.false_eq_true g66
end Yp
namespace Yp
open Go
def Ep{b x q:ai}(ee:A<=T b)(h:b.drop A=x++q):A+T x<=T b/\b.drop (A+T x)=q:=by
 grind [List.length_append,List.drop_drop,List.drop_left]
theorem alf{l:O}{b v q:ai}(ee:A<=T b)(a3:hU k l v)(qZ:T v<=400)(h:b.drop A=body k v++q):wn k l b A (T v)=(v,((A+T (body k v):R):O),0,()):=by
 have hl:=(Ep ee h).1;unfold wn;by_cases ac:k<=2
 .have ak:body k v=hO (fo v):=by unfold body;rw[aH ac]
  rw[ak]at h ⊢;rw[aH ac,abD ee V (a3.1.1 ac) h,sY];rfl
 have ak:body k v=v:=by unfold body;rw[aD ac]
 have ht:=aok h
 grind
def alg{l:O}{b v:ai}{N:R}{I:O}(ee:A<=T b)(fE:N<=400)(h:wn k l b A N=(v,I,0,())):
  T v=N/\(k<=2->gX v)/\(¬k<=2->hU k l v)/\I=((A+T (body k v):R):O)/\A+T (body k v)<=T b/\fv b A (T<|body k v)=body k v:=by
 unfold wn at h;by_cases ac:k<=2
 .rw[aH ac]at h
  rcases wI ee (show N<=999 by omega) with⟨_,e⟩|⟨_,e,_⟩|⟨s,av,e,hf,hs,ht⟩
  .grind
  .grind
  grind [body,sY]
 grind [tL,body]
theorem ahY(aC:0<ec k):h' k n=hO (fo<|bE 10 g4 n (ec k).toNat):=by unfold h';rw[aH aC]
theorem ahX(aC:¬0<ec k):h' k n=[]:=by unfold h';rw[aD aC]
def ayc:T (h' k n)=if 0<ec k then((ec k).toNat+1)/2 else 0:=by
 grind [h',sY,mj]
theorem acc{v:ai}(aB:kinds k):T (lF k v)=(if k=2\/k=4 then 1 else if k=5\/k=7 then 2 else 0)+(if k<=2 then(T v+1)/2 else T v):=by unfold lF;rw[d7,y1,ayc];rcases aB with rfl|rfl|rfl|rfl|rfl|rfl|rfl<;>rfl
def WO{l:O}{v:ai}(bg:fl no=J (k,l))(a3:hU k l v):1<=T v/\(T v:O)<=l/\T v<=400:=by
 obtain⟨aB,Y,qZ,_⟩:=qW bg;have:=a3.2
 grind [kN]
theorem aDL{l:O}{b v q:ai}(bg:fl no=J (k,l))(ee:A<=T b)(a3:hU k l v)(h:b.drop A=lF k v++q):wo k l b A=(v,((A+T (lF k v):R):O),0,()):=by
 obtain⟨aB,Y,qZ,tc⟩:=qW bg;obtain⟨zB,E9,azS⟩:=WO bg a3;unfold wo;unfold lF at h ⊢;by_cases aC:0<ec k
 .rw[aH aC]
  obtain⟨c1,c2,fK⟩:=VW aB tc qZ a3 aC;rw[ahY aC]at h ⊢;rw[kL]at h;have hp:=abD (s:=bE 10 g4 (T v) (ec k).toNat) ee aOf Bv h;rw[mj,Int.toNat_of_nonneg V]at hp;rw[hp];have jZ:val (bE 10 g4 (T v) (ec k).toNat)=T v:=by
   rw[aoH,w1]
   grind
  simp only[aH];rw[jZ,aD V];have a?:=Ep ee h;rw[sY,mj]at a?;rw[alf a?.1 a3 azS a?.2,d7,sY,mj]
  grind
 rw[aD aC];have hl:=(WE aB aC).1 a3.2
 grind [ahX,alf]
def aDM{l:O}{b v:ai}{I:O}(bg:fl no=J (k,l))(ee:A<=T b)(h:wo k l b A=(v,I,0,())):
  hU k l v/\I=((A+T (lF k v):R):O)/\A+T (lF k v)<=T b/\b.drop A=lF k v++b.drop (A+T (lF k v)):=by
 obtain⟨aB,Y,qZ,tc⟩:=qW bg;unfold wo at h;rw[aD V]at h;by_cases aC:0<ec k
 .rw[aH aC]at h
  have ahU:=VX aB;obtain⟨C,dc⟩:∃n:R,ec k=n:=⟨(ec k).toNat,V⟩;rw[dc]at h;rcases wI ee (show C<=999 by omega) with⟨_,e⟩|⟨_,e,_⟩|⟨s,av,e,hf,hs,ht⟩
  .grind
  .grind
  rw[e]at h;simp at h;by_cases hm:(val s:O)<1\/l<val s
  .grind
  rw[aD hm]at h;obtain⟨e1,bh,ei,hQ,rV,Od⟩:=alg av V h;have r4:hU k l v:=by
   grind [Zo,agJ]
  have hh:h' k (T v)=hO (fo s):=by
   grind [ahY,akY]
  have I9:T (h' k<|List.length v)=(C+1)/2:=by rw[hh,sY,hs]
  refine⟨r4,?_,?_,?_⟩
  .grind [lF]
  .grind [lF]
  unfold lF;rw[d7,I9,<- l3,kL,<- Oc Od,hh];exact Oc ht
 rw[aD aC]at h;obtain⟨L,hL⟩:∃n:R,l=n:=⟨l.toNat,V⟩;rw[hL]at h;obtain⟨e1,bh,ei,hQ,rV,Od⟩:=alg ee V h
 grind [Zo,WE,lF,ahX,Oc]
def aH1{v:ai}(aB:kinds k)(h:T v<=400):T (lF k v)<=402:=by
 grind [acc]
def aH2{v:ai}(aB:kinds k)(h:1<=T v):1<=T (lF k v):=by
 grind [acc]
def D3:=@Bool.false_and
def acB:=@Bool.true_and
abbrev b5:=O×ai×aj
abbrev M:=O×ab b5×aj
def h2(m:O):Prop:=100<=m/\m<=899/\m/10%10<=4/\m%10<=5
instance (m:O):hu<|h2 m:=inferInstanceAs<|Decidable (_/\_)
def JB(m:O)(n:R)(ax:n<=3)(aC:0<=m)(h:m<=9223372036854775807):v4 (m,(n:O),())=J (m/10^n%10,()):=by
 unfold v4;generalize hf:(λ(ae:O×O×aj)=>_)=f;have step:∀(k:O) (i:R),i<n->0<=k->k<=9223372036854775807->f (k,(i:O),())=J (.nx (k/10,((i+1:R):O),())):=λk i ao aC Y=>OF
 have last:∀(k:O),f (k,(n:O),())=J (.ex 0 (k,(n:O),())):=λk=>OF
 have ax:n=0\/n=1\/n=2\/n=3:=V;have e:bG f (m,((0:R):O),())=J (.ex 0 (m/10^n,(n:O),())):=by
  rcases ax with rfl|rfl|rfl|rfl
  .grind [dr]
  .rw[dT<|step m 0 V aC h,dr<|last _];simp
  .rw[dT<|step m 0 V aC h,dT<|step _ 1 V V V,dr<|last _];simp;omega
  rw[dT<|step m 0 V aC h,dT<|step _ 1 V V V,dT<|step _ 2 V V V,dr<|last _];simp;omega
 refine(cE e).trans ?_;have:0<=m/10^n:=by rcases ax with rfl|rfl|rfl|rfl<;>simp<;>omega
 exact AI
def B?(m:O):B_ (m,())=J (D<|h2 m,()):=by
 unfold B_;by_cases h:m<0\/999<m
 .have ax:¬h2 m:=by unfold h2;omega
  simp(disch:=omega) only[go_sem,ax]
 have aC:=JB m 0 V V V;have Y:=JB m 1 V V V;have ac:=JB m 2 V V V;simp at aC Y ac;simp(disch:=omega) only[go_sem,aC,Y,ac]
 grind [lZ,h2]
def Ac(m:O):CM (m,())=J (D<|h2 m,()):=by
 unfold CM;by_cases h:100<=m/\m<=899
 .simp(disch:=first|assumption|omega|(dsimp only;omega)|decide) only[go_sem,Int.reduceToNat]
  exact lZ (by unfold h2;omega)
 have ax:¬h2 m:=by unfold h2;omega
 simp(disch:=omega) only[go_sem,Int.reduceToNat,ax]
def ip:O->ab b5->aE
 |_,[]=>af
 |last,v::r=>decide (last<v.1)&&(gp v.1 v.2.1&&ip v.1 r)
def iJ(m:M):aE:=ip 0 m.2.1&&decide (h2 m.1)
def ud(m:M):Prop:=T m.2.1<=1000/\∀v∈m.2.1,T v.2.1<=1000000
theorem ud.ap{m:M}(h:ud m){i:R}(ao:i<T m.2.1):(m.2.1[i]).2.1.length<=1000000:=h.2 _<|j7 ao
def rp(last:O)(v:b5):aL O<|Bool×aj:=if last<v.1/\gp v.1 v.2.1=af then .nx v.1 else .rt (ag,())
def WH{σ:Type}{mk:O->R->σ}{e:R}:∀(l:ab b5) (last:O) (i:R),(ip last l=af/\∃y,jC mk e rp last i l=.ex e y)\/(ip last l=ag/\jC mk e rp last i l=.rt (ag,()))
 |[],last,i=>.inl ⟨rfl,_,rfl⟩
 |v::r,last,i=>by
  by_cases h:last<v.1/\gp v.1 v.2.1=af
  .have hs:rp last v=.nx v.1:=aH h
   have:=WH (mk:=mk) (e:=e) r v.1<|i+1
   grind [jC,ip]
  grind [rp,jC,ip]
def aAC(m:M)(hm:ud m):Pt (m,())=J (iJ m,()):=by
 unfold Pt;generalize hf:(λ(ae:aE×O×O×aj)=>_)=f;have hl:=hm.1;have key:=q_ (f:=f) m.2.1 (λlast i=>(ag,last,(i:O),())) 0 rp (λ_ _=>True) (λb i h _=>⟨?_,λ_ _=>trivial⟩) (λb _ => ?_) 0 trivial
 .refine(cE key).trans ?_
  unfold iJ;rcases WH (mk:=λlast i=>((ag,last,(i:O),()):aE×O×O×aj)) (e:=0) m.2.1 0 0 with⟨Y,y,ac⟩|⟨Y,ac⟩
  .rw[Y,ac];simp only[go_sem,B?,acB]
  rw[Y,ac];simp only[go_sem,D3]
 .subst hf
  have:=hm.ap h;have q3:=Oy (m.2.1[i]).1 (m.2.1[i]).2.1 this;by_cases Y:m.2.1[i].1<=b
  .have hs:rp b m.2.1[i]=.rt (ag,()):=aD λaA=>V
   exact aNv
  cases ac:gp (m.2.1[i]).1 (m.2.1[i]).2.1
  .have hs:rp b m.2.1[i]=.rt (ag,()):=aD λaA=>by rw[ac]at aA;exact ev aA.2 bP
   simp(disch:=omega) only[go_sem,q3,ac,hs,kB]
  have hs:rp b m.2.1[i]=.nx m.2.1[i].1:=aH ⟨V,ac⟩;simp(disch:=omega) only[go_sem,q3,ac,hs,kB]
 exact aPA
theorem awp(h:no<=0):fl no=aq:=by simp[fl,ui];omega
def awd{v:ai}(h:gp no v=af):1<=no:=by
 grind [gp,awp]
def aEk(m:M)(hm:ud m):QN (m,())=J (iJ m,()):=by
 unfold QN;generalize hf:(λ(ae:aE×O×aj)=>_)=f;have hl:=hm.1;have key:=q_ (f:=f) m.2.1 (λ(last:O) i=>(ag,(i:O),())) 0 rp (λb i=>(i=0/\b=0)\/∃h:i-1<T m.2.1,0<i/\m.2.1[i-1].1=b) (λb i h eD=>⟨?_,λeH ak => ?_⟩) (λb _ => ?_) 0<|.inl ⟨rfl,rfl⟩
 .refine(cE key).trans ?_
  unfold iJ;rcases WH (mk:=λ(last:O) i=>((ag,(i:O),()):aE×O×aj)) (e:=0) m.2.1 0 0 with⟨Y,y,ac⟩|⟨Y,ac⟩
  .rw[Y,ac];simp(disch:=first|assumption|omega|(dsimp only;omega)|decide) only[go_sem,Int.reduceToNat,Ac,acB]
  rw[Y,ac];simp(disch:=first|assumption|omega|(dsimp only;omega)|decide) only[go_sem,Int.reduceToNat,D3]
 .subst hf
  have:=hm.ap h;have q3:=alv (m.2.1[i]).1 (m.2.1[i]).2.1 this;cases ac:gp (m.2.1[i]).1 (m.2.1[i]).2.1
  .have hs:rp b m.2.1[i]=.rt (ag,()):=aD λaA=>by rw[ac]at aA;exact ev aA.2 bP
   exact aNT
  have hp:=awd ac;rcases eD with⟨rfl,rfl⟩|⟨ce,aC,rfl⟩
  .have hs:rp 0 m.2.1[0]=.nx m.2.1[0].1:=aH ⟨V,ac⟩
   exact aNT
  have bD:((i:O)-1).toNat=i-1:=V;by_cases Y:m.2.1[i].1<=m.2.1[i-1].1
  .have hs:rp m.2.1[i-1].1 m.2.1[i]=.rt (ag,()):=aD λaA=>V
   exact aNI
  have hs:rp m.2.1[i-1].1 m.2.1[i]=.nx m.2.1[i].1:=aH ⟨V,ac⟩;exact aNI
 .right
  refine⟨aKP,V,?_⟩;simp only[TL];unfold rp at ak;split at ak
  .cases ak;rfl
  cases ak
 subst hf;exact aKF
def aAA(m:O):Jz (m,())=J (if h2 m then m/100 else 0,()):=by
 unfold Jz;by_cases h:h2 m
 .have ak:=h
  unfold h2 at ak;have ac:=JB m 2 V V V;simp at ac;simp only[go_sem,B?,h,ac]
  grind
 simp only[go_sem,B?,h]
def aEi(m:O):KQ (m,())=J (if h2 m then m/100 else 0,()):=by
 unfold KQ;by_cases h:h2 m
 .have ak:=h
  unfold h2 at ak;simp(disch:=omega) only[go_sem,Ac,h]
 simp only[go_sem,Ac,h]
def lW(m:O):O×aE×aj:=if h2 m/\(m/10%10=0\/m/10%10=2) then(m+10,af,()) else(0,ag,())
def aAE(m:O):∃y,v4 (m,1,())=J (y,()):=by
 unfold v4;generalize hf:(λ(ae:O×O×aj)=>_)=f;have step:∀(k:O),f (k,(0:O),())=J (.nx (i64<|de k 10,(1:O),())):=λk=>by subst hf;simp(disch:=omega) only[go_sem];rfl
 have last:∀(k:O),f (k,(1:O),())=J (.ex 0 (k,(1:O),())):=λk=>OF
 refine⟨cY (i64<|de m 10) 10,(cE<|(dT<|step m).trans<|dr<|last _).trans ?_⟩;rfl
def aAB(m:O):Ps (m,())=J (lW m):=by
 unfold Ps;by_cases h:h2 m
 .have ak:=h
  unfold h2 at ak;have Y:=JB m 1 V V V;simp at Y;unfold lW;by_cases ac:m/10%10=0\/m/10%10=2
  .simp(disch:=omega) only[go_sem,B?,h,Y,ac]
  simp(disch:=omega) only[go_sem,B?,h,Y,ac]
 obtain⟨y,Y⟩:=aAE m;unfold lW;simp only[go_sem,B?,h,Y]
def aEj(m:O):QM (m,())=J (lW m):=by
 unfold QM;by_cases h:h2 m
 .have ak:=h
  unfold h2 at ak;unfold lW;by_cases ac:m/10%10=0\/m/10%10=2
  .exact aOc
  exact aOc
 unfold lW;simp only[go_sem,Int.reduceToNat,Ac,h]
def UX(a b:ai):Eb (a,b,())=J (D<|a=b,()):=by unfold Eb;simp only[go_sem]
def ai8(a b:b5):Pu (a,b,())=J (D<|a=b,()):=by unfold Pu;simp only[go_sem,UX];obtain⟨c9,dl,⟨⟩⟩:=a;obtain⟨fx,e7,⟨⟩⟩:=b;simp
def C7(b:aj)(p:b5×b5):aL aj<|Bool×aj:=if p.1=p.2 then .nx () else .rt (ag,())
def agO{σ:Type}{mk:aj->R->σ}{e:R}:∀(l:ab<|b5×b5) (i:R),((∀p∈l,p.1=p.2)/\∃y,jC mk e C7 () i l=.ex e y)\/((¬∀p∈l,p.1=p.2)/\jC mk e C7 () i l=.rt (ag,()))
 |[],i=>.inl ⟨bP,_,rfl⟩
 |p::r,i=>by
  by_cases h:p.1=p.2
  .have hs:C7 () p=.nx ():=aH h
   have:=agO (mk:=mk) (e:=e) r<|i+1
   grind [jC]
  grind [C7,jC]
def acp{α:Type}:∀{a b:ab α},T a=T b->((∀p∈a.zip b,p.1=p.2)↔a=b)
 |[],[],_=>bP
 |x::a,y::b,h=>by have:=acp (a:=a) (b:=b) (by grind);simp_all
def apk(a b:ab b5)(hl:T a<=1000000):SL (a,b,1,())=J (D<|a=b,()):=by
 unfold SL;by_cases h:T a=T b
 .generalize hf:(λ(ae:aE×O×aj)=>_)=f
  have bN:T (a.zip b)=T a:=by simp[h]
  have key:=q_ (f:=f) (a.zip b) (λ(_:aj) i=>(ag,(i:O),())) 0 C7 (λ_ _=>True) (λ_ i ao _=>⟨?_,λ_ _=>trivial⟩) (λ_ _ => ?_) () trivial
  .refine a8 ?_ ((cE key).trans ?_)
   .simp only[go_sem,h]
   rcases agO (mk:=λ_ i=>((ag,(i:O),()):aE×O×aj)) (e:=0) (a.zip b) 0 with⟨Y,y,ac⟩|⟨Y,ac⟩
   .rw[acp h]at Y;rw[ac];simp only[go_sem,Y]
   rw[acp h]at Y;rw[ac];simp only[go_sem,Y]
  .subst hf
   simp;by_cases hx:a[i]=b[i]
   .have hs:C7 () (b[i],b[i])=.nx ():=aH rfl
    simp(disch:=omega) only[go_sem,ai8,hs,kB,hx]
   have hs:C7 () (a[i],b[i])=.rt (ag,()):=aD hx;simp(disch:=omega) only[go_sem,ai8,hs,kB,hx]
  subst hf;simp(disch:=omega) only[go_sem,bN]
 have ax:¬a=b:=λe=>h (by rw[e]);simp(disch:=omega) only[go_sem,ax]
def aIm{a b:M}:a=b↔a.1=b.1/\a.2.1=b.2.1:=by grind
def aAD(a b:M)(hl:T a.2.1<=1000000):JA (a,b,())=J (D<|a=b,()):=by
 unfold JA;simp(disch:=omega) only[go_sem,apk]
 grind [lZ]
def Ub:=@Bool.or_false
abbrev N:=aE×O×O×O×O×ai×ai×O×aj
def nH(c:O):Prop:=c=1\/c=2\/c=101\/c=201\/c=301
instance (c:O):hu<|nH c:=by unfold nH;infer_instance
def JI(n:N):Prop:=
 if n.1=af/\n.2.1=101 then 1<=n.2.2.2.2.1/\n.2.2.2.2.1<=2147483647/\T n.2.2.2.2.2.1=8/\T n.2.2.2.2.2.2.1=3/\n.2.2.2.2.2.2.2.1=0
 else n.2.2.2.2.1=0/\n.2.2.2.2.2.1=[]/\n.2.2.2.2.2.2.1=[]/\(if n.1=af/\n.2.1=201 then 0<=n.2.2.2.2.2.2.2.1/\n.2.2.2.2.2.2.2.1<=999999 else n.2.2.2.2.2.2.2.1=0)
instance (n:N):hu<|JI n:=by unfold JI;infer_instance
def nS(n:N):Prop:=nH n.2.1/\1<=n.2.2.1/\n.2.2.1<=999999/\0<=n.2.2.2.1/\n.2.2.2.1<=99/\(n.1=af->n.2.2.2.1=0)/\JI n
instance (n:N):hu<|nS n:=by unfold nS;infer_instance
def alH(c:O):K2 (c,())=J (D<|nH c,()):=by unfold K2 nH;by_cases Y:c=1<;>by_cases ac:c=2<;>by_cases av:c=101<;>by_cases aJ:c=201<;>by_cases bv:c=301<;>simp only[go_sem,Y,ac,av,aJ,bv]
theorem Di{p q:Prop}(h:p↔q):(J (D p,()):au<|Bool×aj)=J (D q,()):=by rw[show p=q from propext h]
def GH{q:Prop}(h:¬q):(J (ag,()):au<|Bool×aj)=J (D q,()):=by rw[b1 h]
def aI9{l:ab α}:((T l:O)=0)↔l=[]:=by rw[<- mW];omega
theorem uS{lY:aE}{c cI rs g:O}{no k:ai}{d:O}:nS (lY,c,cI,rs,g,no,k,d,())↔(nH c/\1<=cI/\cI<=999999/\0<=rs/\rs<=99/\(lY=af->rs=0) /\
  (if lY=af/\c=101 then 1<=g/\g<=2147483647/\T no=8/\T k=3/\d=0 else g=0/\(T no:O)=0/\(T k:O)=0/\(if lY=af/\c=201 then 0<=d/\d<=999999 else d=0))):=by
 simp_all[nS,JI]
def C8{p:Prop}{x y z:α}(Y:p->x=z)(ac:¬p->y=z):aa (D p) x y=z:=by
 by_cases h:p
 .rw[bS h];exact Y h
 rw[b1 h];exact ac h
def alK(n:N):Re (n,())=J (D<|nS n,()):=by
 obtain⟨lY,c,cI,rs,g,no,k,d,⟨⟩⟩:=n;unfold Re;simp only[go_sem,alH];cases lY
 .simp only[df,iP,D3,Ub]
  refine C8 (λh=>GH λaz => ?_) λh=>C8 (λac=>GH λaz => ?_) λac=>Di ?_
  all_goals simp only[uS]at *
  all_goals grind
 simp only[df,iP,acB];rw[show(D ((((¬nH c\/cI<1)\/999999<cI)\/rs<0)\/99<rs)||D (¬rs=0))=D (((((¬nH c\/cI<1)\/999999<cI)\/rs<0)\/99<rs)\/¬rs=0) from o9<|by rw[A2,o_,o_]];refine C8 (λh=>GH λaz => ?_) λh=>C8 (λac=>Di ?_) λac=>C8 (λav=>GH λaz => ?_) λav=>C8 (λaJ=>Di ?_) λaJ=>Di ?_
 all_goals simp only[uS]at *
 all_goals grind
def Zi(n:N):J_ (n,())=J (D<|nS n,()):=by
 obtain⟨lY,c,cI,rs,g,no,k,d,⟨⟩⟩:=n;unfold J_ Zl Zk Zj P4 Zm;simp only[go_sem];rw[show iP (D<|((cI<1\/999999<cI)\/rs<0)\/99<rs) (df lY<|D<|0<rs)=D ((((cI<1\/999999<cI)\/rs<0)\/99<rs)\/(lY=af/\0<rs)) from o9<|by simp[iP,df,o_]];refine C8 (λh=>GH λaz => ?_) λh => ?_
 .grind [uS]
 rw[show df (D<|c=101) lY=D (c=101/\lY=af) from o9<|by simp[df,o_],show df (D<|c=201) lY=D (c=201/\lY=af) from o9<|by simp[df,o_]];by_cases Y:c=101/\lY=af
 .simp only[go_sem,Y,bS Y]
  grind [Di,uS,nH]
 by_cases ac:c=201/\lY=af
 .simp only[go_sem,b1 Y,bS ac]
  refine Di ?_
  grind [uS,nH]
 by_cases av:(((c=1\/c=2)\/c=101)\/c=201)\/c=301
 .simp only[go_sem,b1 Y,b1 ac,bS av]
  refine Di ?_
  grind [uS,nH]
 simp only[go_sem,b1 Y,b1 ac,b1 av];refine GH λaz => ?_
 grind [uS,nH]
def w3:=@Bool.not_eq_true
def Ue:=@List.take_zero
def v?(g:R->aE):aN:=hy<|(g 0).toNat*128+(g 1).toNat*64+(g 2).toNat*32+(g 3).toNat*16+(g 4).toNat*8+(g 5).toNat*4+(g 6).toNat*2+(g 7).toNat
def aqZ:∀eZ fx e7 kr p5 rQ t7 b7:aE,bt (hy<|eZ.toNat*128+fx.toNat*64+e7.toNat*32+kr.toNat*16+p5.toNat*8+rQ.toNat*4+t7.toNat*2+b7.toNat) 0=eZ /\
  bt (hy<|eZ.toNat*128+fx.toNat*64+e7.toNat*32+kr.toNat*16+p5.toNat*8+rQ.toNat*4+t7.toNat*2+b7.toNat) 1=fx/\bt (hy<|eZ.toNat*128+fx.toNat*64+e7.toNat*32+kr.toNat*16+p5.toNat*8+rQ.toNat*4+t7.toNat*2+b7.toNat) 2=e7 /\
  bt (hy<|eZ.toNat*128+fx.toNat*64+e7.toNat*32+kr.toNat*16+p5.toNat*8+rQ.toNat*4+t7.toNat*2+b7.toNat) 3=kr/\bt (hy<|eZ.toNat*128+fx.toNat*64+e7.toNat*32+kr.toNat*16+p5.toNat*8+rQ.toNat*4+t7.toNat*2+b7.toNat) 4=p5 /\
  bt (hy<|eZ.toNat*128+fx.toNat*64+e7.toNat*32+kr.toNat*16+p5.toNat*8+rQ.toNat*4+t7.toNat*2+b7.toNat) 5=rQ/\bt (hy<|eZ.toNat*128+fx.toNat*64+e7.toNat*32+kr.toNat*16+p5.toNat*8+rQ.toNat*4+t7.toNat*2+b7.toNat) 6=t7 /\
  bt (hy<|eZ.toNat*128+fx.toNat*64+e7.toNat*32+kr.toNat*16+p5.toNat*8+rQ.toNat*4+t7.toNat*2+b7.toNat) 7=b7:=iQ
def Nw{g:R->aE}(ht:t<8):bt (v? g) t=g t:=by obtain⟨aC,Y,ac,av,aJ,bv,c_,eJ⟩:=aqZ (g 0) (g 1) (g 2) (g 3) (g 4) (g 5) (g 6)<|g 7;have:t=0\/t=1\/t=2\/t=3\/t=4\/t=5\/t=6\/t=7:=V;rcases this with rfl|rfl|rfl|rfl|rfl|rfl|rfl|rfl<;>assumption
def ajK:∀c:aN,v? (bt c)=c:=qN iQ
def adw{c d:aN}(h:∀t,t<8->bt c t=bt d t):c=d:=by rw[<- ajK c,<- ajK d];unfold v?;rw[h 0 V,h 1 V,h 2 V,h 3 V,h 4 V,h 5 V,h 6 V,h 7 V]
def ajL{g h:R->aE}(e:∀t,t<8->g t=h t):v? g=v? h:=adw λt ht=>by rw[Nw ht,Nw ht,e t ht]
def t9(t:R):aN:=hy<|2^(7-t)
def aqL:∀t:R,t<8->u8 (e4 .u8 128 (t:O))=t9 t:=iQ
def aCG:∀c:aN,∀t:R,t<8->u8 (hG .u8 (aV c)<|aV<|t9 t)=v? λs=>bt c s||Nat.beq s t:=qN iQ
def apU:∀c:aN,∀t:R,t<8->bt c t=ag->u8 (aG (aV c)<|aV<|t9 t)=v? λs=>bt c s||Nat.beq s t:=qN iQ
def ap8:∀c:aN,∀t:R,t<8->(a2<|am (aV<|u8<|hz .u8 (aV c)<|aV<|t9 t)<|aV<|u8 0)=bt c t:=qN iQ
def adg(Y:1<=n)(ac:n<=128):vy ((n:O),())=J ((((n-1)/8:R):O),t9<|(n-1)%8,()):=by unfold vy;simp(disch:=omega) only[go_sem];have e1:((n:O)-1)/8=(((n-1)/8:R):O):=V;have bh:((n:O)-1)%8=(((n-1)%8:R):O):=V;rw[e1,bh,<- aqL _ V]
def alw(Y:1<=n)(ac:n<=128):CL ((n:O),())=J ((((n-1)/8:R):O),t9<|(n-1)%8,()):=by
 unfold CL;generalize hf:(λ(ae:O×O×aj)=>_)=f;have step:∀i:R,i<(n-1)%8->f (((2^(7-i):R):O),(i:O),())=J (.nx (((2^(7-(i+1)):R):O),((i+1:R):O),())):=λi ao=>by subst hf;have hp:i=0\/i=1\/i=2\/i=3\/i=4\/i=5\/i=6:=V;rcases hp with rfl|rfl|rfl|rfl|rfl|rfl|rfl<;>(simp(disch:=first|assumption|omega|(dsimp only;omega)|decide) only[go_sem,Int.reduceToNat];rfl)
 have last:f (((2^(7-(n-1)%8):R):O),(((n-1)%8:R):O),())=J (.ex 0 (((2^(7-(n-1)%8):R):O),(((n-1)%8:R):O),())):=by subst hf;simp(disch:=omega) only[go_sem,Int.reduceToNat]
 have e:=gS (f:=f) (λi=>(((2^(7-i):R):O),(i:O),())) ((n-1)%8) step 0 V;have e:bG f (128,0,())=_:=e.trans<|dr last;simp(disch:=omega) only[go_sem,Int.reduceToNat,e];have e1:((n:O)-1)/8=(((n-1)/8:R):O):=V;rw[e1];unfold t9;rw[L7]
def ia:O->ab O->aE
 |_,[]=>af
 |last,n::r=>decide (last<n/\n<=128/\n≠65)&&ia n r
def sv(last n:O):aL O<|Bool×aj:=if last<n/\n<=128/\n≠65 then .nx n else .rt (ag,())
def WI{σ:Type}{mk:O->R->σ}{e:R}:∀(l:ab O) (last:O) (i:R),(ia last l=af/\∃y,jC mk e sv last i l=.ex e y)\/(ia last l=ag/\jC mk e sv last i l=.rt (ag,()))
 |[],last,i=>.inl ⟨rfl,_,rfl⟩
 |n::r,last,i=>by
  by_cases h:last<n/\n<=128/\n≠65
  .have hs:sv last n=.nx n:=aH h
   have:=WI (mk:=mk) (e:=e) r n<|i+1;simp only[jC,hs,ia,iv h];exact this
  have hs:sv last n=.rt (ag,()):=aD h;refine .inr ⟨?_,by simp only[jC,hs]⟩;simp only[ia,iW h,D3]
def UK(l:ab O)(hl:T l<=1000000):Nt (l,())=J (ia 1 l,()):=by
 unfold Nt;generalize hf:(λ(ae:aE×O×O×aj)=>_)=f;have key:=q_ (f:=f) l (λlast i=>(ag,last,(i:O),())) 0 sv (λ_ _=>True) (λb i h _=>⟨?_,λ_ _=>trivial⟩) (λb _ => ?_) 1 trivial
 .refine(cE key).trans ?_
  rcases WI (mk:=λlast i=>((ag,last,(i:O),()):aE×O×O×aj)) (e:=0) l 1 0 with⟨Y,y,ac⟩|⟨Y,ac⟩
  .rw[Y,ac];exact aLQ
  rw[Y,ac];exact aLQ
 .subst hf
  by_cases Y:b<l[i]/\l[i]<=128/\l[i]≠65
  .have hs:sv b l[i]=.nx l[i]:=aH Y
   exact aNv
  have hs:sv b l[i]=.rt (ag,()):=aD Y;exact aNv
 exact aPA
def aan(l:ab O)(hl:T l<=1000000):QJ (l,())=J (ia 1 l,()):=by
 unfold QJ;generalize hf:(λ(ae:aE×O×aj)=>_)=f;have key:=q_ (f:=f) l (λ(last:O) i=>(ag,(i:O),())) 0 sv (λb i=>(i=0/\b=1)\/∃h:i-1<T l,0<i/\l[i-1]=b/\2<=b) (λb i h eD=>⟨?_,λeH ak => ?_⟩) (λb _ => ?_) 1<|.inl ⟨rfl,rfl⟩
 .refine(cE key).trans ?_
  rcases WI (mk:=λ(last:O) i=>((ag,(i:O),()):aE×O×aj)) (e:=0) l 1 0 with⟨Y,y,ac⟩|⟨Y,ac⟩
  .rw[Y,ac];exact If
  rw[Y,ac];exact If
 .subst hf
  rcases eD with⟨rfl,rfl⟩|⟨ce,aC,ak,ac⟩
  .by_cases Y:1<l[0]/\l[0]<=128/\l[0]≠65
   .have hs:sv 1 l[0]=.nx l[0]:=aH Y
    exact aKW
   have hs:sv 1 l[0]=.rt (ag,()):=aD Y;exact aKW
  have bD:((i:O)-1).toNat=i-1:=V;by_cases Y:b<l[i]/\l[i]<=128/\l[i]≠65
  .have hs:sv b l[i]=.nx l[i]:=aH Y
   exact aN7
  have hs:sv b l[i]=.rt (ag,()):=aD Y;exact aN7
 .right
  have hb1:eH=l[i]/\b<l[i]:=by
   unfold sv at ak;split at ak
   .rename_i aA;cases ak;exact⟨rfl,aA.1⟩
   cases ak
  refine⟨aKP,V,?_,?_⟩
  .simp only[TL];exact hb1.1.symm
  rcases eD with⟨_,rfl⟩|⟨_,_,_,ac⟩<;>omega
 subst hf;exact aKF
def hq(size:R)(S:R->aE):ai:=(fw size).map λj=>v? λt=>S<|8*j+t+1
def C5{S:R->aE}:T (hq size S)=size:=by simp[hq]
def amm{S:R->aE}{j:R}(h:j<size):ap (hq size S) j (u8 0)=v? λt=>S<|8*j+t+1:=by rw[nth_get (by rw[C5];exact h)];simp[hq]
def IP{S:R->aE}(Y:1<=n)(ac:n<=8*size):gQ (hq size S) n=S n:=by unfold gQ;rw[amm V,Nw V];congr 1;omega
def amo{a b:ai}(hl:T a=T b)(h:∀n,1<=n->n<=8*T a->gQ a n=gQ b n):a=b:=by refine sK hl λj Y ac=>adw λt ht => ?_;have:=h (8*j+t+1) V V;unfold gQ at this;rw[show(8*j+t+1-1)/8=j by omega,show(8*j+t+1-1)%8=t by omega,nth_get Y,nth_get ac]at this;exact this
theorem aml{S acP:R->aE}(h:∀n,1<=n->n<=8*size->S n=acP n):hq size S=hq size acP:=amo (by rw[C5,C5]) λn Y ac=>by rw[C5]at ac;rw[IP Y ac,IP Y ac,h n Y ac]
theorem al6(size:R):cb size (u8 0)=hq size λ_=>ag:=by refine sK (by simp[cb,hq]) λj Y ac => ?_;simp only[cb,List.getElem_replicate,hq,sM];decide
def Gz(S:R->aE)(n:R):R->aE:=λm=>S m||Nat.beq m n
def anm{S:R->aE}(Y:1<=n)(ac:n<=8*size){c:aN}(aA:c=v? λs=>bt (ap (hq size S) ((n-1)/8)<|u8 0) s||Nat.beq s ((n-1)%8)):cA (hq size S) ((n-1)/8) c=hq size (Gz S n):=by
 refine sK (by simp[cA,hq]) λj av aJ => ?_;have hg:=amm (S:=S) (show(n-1)/8<size by omega);simp only[cA,TT];split
 .rename_i aF
  subst aF;rw[aA,hg];simp only[hq,sM,yQ];refine ajL λt ht => ?_;rw[Nw ht];unfold Gz;congr 1;refine rH.2 ?_;simp;omega
 rename_i aF;simp only[hq,sM,yQ];refine ajL λt ht => ?_;unfold Gz;have:cT (8*j+t+1) n=ag:=by refine(w3 _).mp λak=>aF ?_;have:=iM ak;omega
 rw[this,Ub]
def mo(l:ab O):aE:=decide (0<T l)&&decide (64<ap l (T l-1) 0)
def nd(l:ab O)(n:R):aE:=decide ((n:O)∈l)
def gh(l:ab O):ai:=if mo l=af then hq 16 (nd<|1::l) else hq 8<|nd l
def yo:∀{last:O},ia last l=af->∀n∈l,last<n/\n<=128/\n≠65:=by
 induction l with
 |nil=>intro _ _ n ax;cases ax
 |cons x r ih=>
  intro last h n ax;simp only[ia,d5,lH]at h;rcases mU.1 ax with rfl|ax
  .exact h.1
  have:=ih h.2 n ax;exact⟨V,this.2⟩
def aFE:∀{last:O},ia last l=af->∀n∈l,n<=ap l (T l-1) 0:=by
 induction l with
 |nil=>intro _ _ n ax;cases ax
 |cons x r ih=>
  intro last h n ax;simp only[ia,d5]at h;cases r with
  |nil=>simp at ax;subst ax;simp[ap]
  |cons y r=>
   have az:=ih h.2;have hl:ap (x::y::r) (T (x::y::r)-1) 0=ap (y::r) (T (y::r)-1) 0:=by simp[ap]
   rcases mU.1 ax with rfl|ax
   .have Y:=(yo h.2 y bP).1
    have:=az y bP;omega
   exact az n ax
theorem J9(h:ia 1 l=af)(bR:¬mo l=af):∀n∈l,n<=64:=λn ax=>by have:=aFE h n ax;unfold mo at bR;have aC:0<T l:=List.length_pos_of_mem ax;simp at bR;omega
def OI{α β σ ρ:Type}{mk:β->R->σ}{e:R}{step:β->α->aL β ρ}{g:β->α->β}(h:∀b x,step b x=.nx (g b x)):∀(l:ab α) (b:β) (i:R),jC mk e step b i l=.ex e (mk (l.foldl g b)<|i+T l)
 |[],b,i=>rfl
 |x::r,b,i=>by simp only[jC,h,DN,gd];rw[OI h r (g b x)<|i+1];congr 2;omega
def adk{f:O×ai×aj->au (aL (O×ai×aj)<|ai×O×aj)}{S0:R->aE}
  (hs:∀(S:R->aE) (i:R) (h:i<T l),(∀m,S m=(S0 m||nd (l.take i) m))->f ((i:O),hq size S,())=J (.nx (((i+1:R):O),hq size<|Gz S (l[i]).toNat,())))
  (az:∀n∈l,1<=n) (aX:∀x,f ((T l:O),x,())=J (.ex 0 ((T l:O),x,()))):bG f (0,hq size S0,())=J (.ex 0 ((T l:O),hq size (λm=>S0 m||nd l m),())):=by
 have key:∀(k i:R),k=T l-i->i<=T l->bG f ((i:O),hq size (λm=>S0 m||nd (l.take i) m),())=J (.ex 0 ((T l:O),hq size (λm=>S0 m||nd l m),())):=by
  intro k;induction k with
  |zero =>intro i aB ao;have:i=T l:=V;subst this;rw[qH];exact dr<|aX _
  |succ k ih=>
   intro i aB ao;have bK:i<T l:=V;refine(dT<|hs _ i bK λm=>rfl).trans ?_;have hx:=az l[i]<|j7 bK;have:(Gz (λm=>S0 m||nd (l.take i) m) (l[i]).toNat)=λm=>S0 m||nd (l.take<|i+1) m:=by funext m;unfold Gz nd;rw[Bool.or_assoc];congr 1;refine rH.2 ?_;rw[pX bK];simp only[A2,lH,auZ,i7,nZ];refine or_congr sU ?_;omega
   rw[this];exact ih (i+1) V V
 have:=key (T l) 0 V V;simp only[Ue,nd,DL,decide_false,Ub]at this;exact this
def TN:=@List.getElem_append_right
def aFX:cA (cb 16<|u8 0) 0 (u8 128)=hq 16 (λm=>cT m 1):=iQ
def aoM(hl:T l<=1000000):aa (D<|0<(T l:O)) (an (D<|0<=(T l:O)-1/\(T l:O)-1<(T l:O))<|some (D<|64<ap l ((T l:O)-1).toNat 0,())) (J (ag,()))=J (mo l,()):=by
 have bD:((T l:O)-1).toNat=T l-1:=V;by_cases aC:0<T l
 .have e:mo l=decide (64<ap l (T l-1) 0):=by unfold mo;rw[iv aC,acB]
  simp(disch:=omega) only[go_sem,bD,e]
 have e:mo l=ag:=by unfold mo;rw[iW aC,D3]
 simp(disch:=omega) only[go_sem,e]
def aqM(l:ab O)(hl:T l<=1000000):Nu (l,())=J (if ia 1 l=af then(gh l,0,()) else([],1,())):=by
 unfold Nu;generalize hf:(λ(ae:O×ai×aj)=>_)=f;have r_:=aoM hl;cases az:ia 1 l
 .simp(disch:=omega) only[go_sem,UK,az]
 have hm:=yo az;have step:∀(size:R),(∀n∈l,n<=8*(size:O))->∀S0:R->aE,bG f (0,hq size S0,())=J (.ex 0 ((T l:O),hq size (λm=>S0 m||nd l m),())):=by
  intro size ct S0;refine adk (λS i h _ => ?_) (λn ax=>by have:=hm n ax;omega)<|λx => ?_
  .subst hf
   have hx:=hm l[i]<|j7 h;have m':=ct l[i]<|j7 h;obtain⟨N,fE⟩:∃N:R,l[i]=N:=⟨l[i].toNat,V⟩;have nB:=adg (n:=N) V V;have X_:T (hq size S)=size:=C5;have lu:=anm (size:=size) (S:=S) (n:=N) V V<|aCG (ap (hq size S) ((N-1)/8)<|u8 0) ((N-1)%8) V;have uw:((N-1)/8)<T (hq size S):=V;rw[nth_get uw]at lu;simp(disch:=omega) only[go_sem,fE,nB,X_,lu]
  exact aPA
 by_cases bR:mo l=af
 .have:=step 16 (λn ax=>by have:=hm n ax;omega) (λm=>cT m 1)
  rw[<- aFX]at this;have e:hq 16 (λm=>cT m 1||nd l m)=gh l:=by
   unfold gh;rw[aH bR];refine aml λn _ _ => ?_;unfold nd;refine rH.2 ?_;simp
   grind
  rw[e]at this;simp(disch:=first|assumption|omega|(dsimp only;omega)|decide) only[go_sem,Int.reduceToNat,UK,az,r_,bR,this]
 have:=step 8 (λn ax=>by have:=J9 az bR n ax;omega)<|λm=>ag;rw[<- al6]at this;have BZ:mo l=ag:=(w3 _).mp bR;have e:hq 8 (λm=>ag||nd l m)=gh l:=by
  grind [gh]
 rw[e]at this;simp(disch:=omega) only[go_sem,Int.reduceToNat,UK,az,r_,BZ,this]
def aEh(l:ab O)(hl:T l<=1000000):QK (l,())=J (if ia 1 l=af then(gh l,0,()) else([],1,())):=by
 unfold QK;have r_:=aoM hl;generalize hf:(λ(ae:O×ai×aj)=>_)=f;generalize hg:(λ(ae:O×ai×aj)=>(aa (aK ae.1<|len<|bb (aI O) (l,()).1) _ _:au<|aL (O×ai×aj)<|ai×O×aj))=g;cases az:ia 1 l
 .simp(disch:=omega) only[go_sem,aan,az]
 have hm:=yo az;have ja:∀(last:O) (l:ab O),ia last l=af->∀i (h:i<T l),¬l[i]∈l.take i:=by
  intro last l;induction l generalizing last with
  |nil=>intro _ i h;simp at h
  |cons x r ih=>
   intro h i ao;have az:=(by simpa only[ia,d5,lH]using h:_);cases i with
   |zero=>simp
   |succ i=>
    simp;have ej:i<T r:=by simpa using ao
    have:=(yo az.2 r[i]<|j7 ej).1
    grind
 have step:∀(L:ab O) (size:R) (f:O×ai×aj->au (aL (O×ai×aj)<|ai×O×aj)),(λ(ae:O×ai×aj)=>
  aa (aK ae.1<|len L) (an (aO ae.1<|len L) (ob (CL (ap L (ah ae.1) 0,())) λ(a:O×aN×aj)=>an (aO a.1<|len ae.2.1) (an (aO a.1<|len ae.2.1)
   (J<|aL.nx (i64<|aG ae.1 1,cA ae.2.1 (ah a.1)<|u8<|aG (aV<|ap ae.2.1 (ah a.1)<|u8 0)<|aV a.2.1,()))))) (J<|aL.ex 0 (ae.1,ae.2.1,())))=f->T L<=1000001->(∀n∈L,1<=n/\n<=128/\n<=8*(size:O)) ->
  (∀i (h:i<T L),¬L[i]∈L.take i)->bG f (0,cb size<|u8 0,())=J (.ex 0 ((T L:O),hq size<|nd L,())):=by
  intro L size f hf hl ct ja;have:=adk (f:=f) (l:=L) (size:=size) (S0:=λ_=>ag) (λS i h lr => ?_) (λn ax=>(ct n ax).1)<|λx => ?_
  .grind [al6]
  .subst hf
   have hx:=ct L[i]<|j7 h;obtain⟨N,fE⟩:∃N:R,L[i]=N:=⟨L[i].toNat,V⟩;have nB:=alw (n:=N) V V;have X_:T (hq size S)=size:=C5;have ayr:bt (ap (hq size S) ((N-1)/8)<|u8 0) ((N-1)%8)=ag:=by
    have Y:gQ (hq size S) N=S N:=IP V V
    grind [gQ,nd]
   have lu:=anm (size:=size) (S:=S) (n:=N) V V<|apU (ap (hq size S) ((N-1)/8)<|u8 0) ((N-1)%8) V ayr;have uw:((N-1)/8)<T (hq size S):=V;rw[nth_get uw]at lu;simp only[aG]at lu;simp(disch:=omega) only[go_sem,fE,nB,X_,lu]
  subst hf;simp(disch:=omega) only[go_sem]
 by_cases bR:mo l=af
 .have:=step (l++[1]) 16 _ rfl e8 (λn ax=>by
   rcases i7.1 ax with ax|ax
   .grind
   .simp at ax;subst ax;omega) (λi h=>by
   rcases DX i (T l) with ao|ao
   .grind
   have:i=T l:=by simp at h;omega
   subst this;rw[TN V,T1];simp;intro aA;have:=hm 1 aA;omega)
  have e:hq 16 (nd<|l++[1])=gh l:=by
   unfold gh;rw[aH bR]
   grind [aml,nd]
  rw[e]at this;have this:bG f (0,cb 16<|u8 0,())=J (.ex 0 ((T (l++[1]):O),gh l,())):=by rw[<- hf];exact this
  simp(disch:=omega) only[go_sem,Int.reduceToNat,aan,az,r_,bR,gd,this]
 have:=step l 8 _ rfl V (λn ax=>by have:=J9 az bR n ax;have:=hm n ax;omega)<|ja 1 l az;have BZ:mo l=ag:=(w3 _).mp bR;have e:hq 8 (nd l)=gh l:=by unfold gh;rw[aD bR]
 rw[e]at this;have this:bG g (0,cb 8<|u8 0,())=J (.ex 0 ((T l:O),gh l,())):=by rw[<- hg];exact this
 simp(disch:=first|assumption|omega|(dsimp only;omega)|decide) only[go_sem,Int.reduceToNat,aan,az,r_,BZ,this]
def DO:=@Nat.ble_eq_true_of_le
def Hp:=@Nat.le_of_ble_eq_true
def Uh:=@List.pairwise_iff_getElem
def T?:=@List.pairwise_lt_range
def w7:=@List.Pairwise.filter
def TI:=@List.map_nil
def aao{c:ai}(Y:1<=n)(ac:n<=128)(av:n<=8*T c):Ab (c,(n:O),())=J (gQ c n,()):=by have nB:=alw Y ac;have bK:(n-1)/8<T c:=V;refine aW nB<|a7 (gr bK) ?_;have:=ap8 (ap c ((n-1)/8)<|u8 0) ((n-1)%8) V;simp only[eO,this];rfl
theorem Xo{c:ai}{k:R}(Y:1<=n)(ac:n<=8*k)(av:k<=T c):gQ (c.take k) n=gQ c n:=by
 grind [gQ,nth_get]
def om(c:ai)(k:R):ab R:=(fw k).filter λn=>Nat.ble 2 n&&gQ c n
def aCI(c:ai)(k:R)(h:2<=k):om c (k+1)=om c k++if gQ c k=af then[k]else[]:=by
 grind [om,List.range_succ,Nat.ble_eq_true_of_le]
theorem aCJ(c:ai):om c 2=[]:=rfl
def ZN{c:ai}{k:R}(h:k<=T c):h? (c.take k)=om c (8*k+1):=by
 unfold h? om;rw[jl,D1 h];refine List.filter_congr λn ax => ?_;rw[rK]at ax;by_cases ac:2<=n
 .grind [Xo]
 have:Nat.ble 2 n=ag:=(w3 _).mp λak=>ac<|Hp ak
 grind
def aCH(c:ai)(k:R):(om c k).Pairwise (· < ·):=w7 _ T?
def akG{c:ai}{k:R}:n∈om c k↔n<k/\2<=n/\gQ c n=af:=by
 grind [om,Nat.ble_eq]
def aG3{l:ab R}(h:l.Pairwise (· < ·))(ax:n∈l)(aC:T l-1<T l):n<=l[T l-1]:=by
 obtain⟨i,ao,rfl⟩:=sO ax;rcases DX i (T l-1) with bK|nC
 .exact Nat.le_of_lt (Uh.1 h i (T l-1) ao aC bK)
 grind
def aAX{l:ab R}(h:l.Pairwise (· < ·)):(65∈l\/T l=0\/∃aC:T l-1<T l,l[T l-1]<=65)↔(65∈l\/∀n∈l,n<65):=by
 constructor
 .rintro(Y|Y|⟨aC,Y⟩)
  .grind
  .grind
  by_cases j_:65∈l
  .grind
  right;intro n ax;have:=aG3 h ax aC
  grind
 grind [List.getElem_mem]
def akF(c:ai)(k:R):T (om c k)<=k:=by
 have:=np (λn=>Nat.ble 2 n&&gQ c n)<|List.range k
 rwa [M8]at this
def aEg(b:ai)(a:O)(hl:T b<=1000000):QI (b,a,())=J (ku b a):=by
 unfold QI;by_cases b6:a<0\/(T b:O)<a
 .unfold ku;rw[aH b6];exact If
 have ak:ku b a=mv (b.drop a.toNat) a:=by unfold ku;rw[aD b6]
 rw[ak];have zz:sub b a (len b)=b.drop a.toNat:=by simp only[sub,len,ie];rw[i5 aD_]
 have fr:T (b.drop a.toNat)=T b-a.toNat:=dV;simp only[zz];generalize aA:b.drop a.toNat=c at *
 clear ak zz;by_cases cH:T c<8
 .unfold mv;rw[aH<|Or.inl cH];exact If
 have Y:=aao (c:=c) (n:=1) V V V;replace Y:Ab (c,1,())=J (gQ c 1,()):=Y

 have ajA:∀(size:R) (f:ab O×O×aj->au (aL (ab O×O×aj)<|List O×O×O×aj)),(λ(ae:ab O×O×aj)=>
  aa (bL ae.2.1<|i64<|dI 8 (size:O)) (ob (Ab (c,ae.2.1,())) λ(a:aE×aj)=>aa a.1 (an (bO 32<|bB (aQ ae.1)<|aQ [ae.2.1])<|some<|aL.nx (bb ae.1 [ae.2.1],i64<|aG ae.2.1 1,()))
   (J<|aL.nx (ae.1,i64<|aG ae.2.1 1,()))) (J<|aL.ex 0 (ae.1,ae.2.1,())))=f->1<=size->size<=16->size<=T c ->
  bG f ([],2,())=J (.ex 0 ((h?<|c.take size).map Int.ofNat,((8*size+1:R):O),())):=by
  intro size f hf zy hs Yb;have step:∀i,i<8*size-1->f ((om c<|i+2).map Int.ofNat,((i+2:R):O),())=J (.nx ((om c<|i+1+2).map Int.ofNat,((i+1+2:R):O),())):=λi ao=>by
   subst hf;have hh:=aao (c:=c) (n:=i+2) V V V;have azd:=akF c<|i+2;have XY:=aCI c (i+2) V;rw[show i+1+2=i+2+1 by omega,XY];cases ah9:gQ c<|i+2
   .rw[ah9]at hh
    simp only[M2,if_false,g?];generalize fE:i+2=N at *
    simp(disch:=omega) only[go_sem,Int.reduceToNat,hh]
   rw[ah9]at hh;simp only[if_true,Ud,A1,TI];generalize fE:i+2=N at *
   simp(disch:=omega) only[go_sem,Int.reduceToNat,hh,qJ,gd];rfl
  have e:=gS (f:=f) (λi=>((om c<|i+2).map Int.ofNat,((i+2:R):O),())) (8*size-1) step 0 V;simp only[oD,aCJ,TI]at e;replace e:bG f ([],2,())=_:=e;rw[e,ZN Yb,show 8*size-1+2=8*size+1 by omega];refine dr ?_;subst hf;simp(disch:=omega) only[go_sem,Int.reduceToNat]
 refine aW (a:=(ag,())) (by simp(disch:=omega) only[go_sem,Int.reduceToNat];exact u1 V) ?_;refine a8 rfl ?_;refine a7 (by simp(disch:=omega) only[go_sem,Int.reduceToNat];exact⟨V,V⟩) ?_;refine a8 ac_ ?_;refine aW Y ?_;cases bR:gQ c 1
 .have e:=ajA 8 _ rfl V V V
  have xv:mv c a=((h?<|c.take 8).map Int.ofNat,a+8,0,()):=by unfold mv;rw[aD (by rw[bR];simp;omega),aD (by rw[bR];simp)]
  rw[xv];refine aW (bf rfl) ?_;refine a8 ac_ ?_;refine(cE e).trans ?_;exact aKF
 by_cases mc:T c<16
 .unfold mv;rw[aH<|Or.inr ⟨bR,mc⟩]
  exact aKF
 have e:=ajA 16 _ rfl V V V;have j_:=aao (c:=c) (n:=65) V V V;replace j_:Ab (c,65,())=J (gQ c 65,()):=j_;rw[ZN V]at e;have azd:=akF c<|8*16+1;have XO:65∈om c (8*16+1)↔gQ c 65=af:=⟨λh=>(akG.1 h).2.2,λh=>akG.2 ⟨V,V,h⟩⟩;have XM:=aAX<|aCH c<|8*16+1;have xv:mv c a=if 65∈om c (8*16+1)\/∀n∈om c (8*16+1),n<65 then([],0,2,()) else((om c<|8*16+1).map Int.ofNat,a+16,0,()):=by unfold mv;rw[aD V,aH bR,ZN V]
 rw[xv];refine aW (bj rfl) ?_;refine a8 ac_ ?_;refine(cE e).trans ?_;generalize om c (8*16+1)=l at *
 have bD:((T l:O)-1).toNat=T l-1:=V;cases Xq:gQ c 65
 .rw[Xq]at j_ XO
  have ayY:¬65∈l:=λh=>by have:=XO.1 h;simp at this
  by_cases aC:T l=0
  .rw[aH<|XM.1<|.inr<|.inl aC]
   simp(disch:=omega) only[go_sem,Int.reduceToNat,j_,qJ]
  have bK:T l-1<T l:=V;have ax:ap (l.map Int.ofNat) (T l-1) 0=Int.ofNat l[T l-1]:=by rw[nth_get aK2,sM]
  by_cases c_:l[T l-1]<=65
  .rw[aH<|XM.1<|.inr<|.inr ⟨bK,c_⟩]
   have axb:Int.ofNat l[T l-1]<=65:=e8;exact aNU
  rw[aD λaA=>by
   rcases XM.2 aA with h|h|⟨_,h⟩
   .exact ayY h
   .exact aC h
   exact c_ h]
  have axb:¬Int.ofNat l[T l-1]<=65:=e8;exact aNU
 rw[aH<|.inl<|XO.2 Xq];rw[Xq]at j_;simp(disch:=omega) only[go_sem,Int.reduceToNat,j_]
def awq{l:O}(h:fl no=J (k,l)):2<=no/\no<=128/\no≠65:=by
 unfold fl at h;rw[ns]at h;have:∀r∈ui,∀c∈r.drop 2,2<=c/\c<=128/\c≠65:=iQ
 grind
def xl{v:ai}:gp no v=af↔∃k l,fl no=J (k,l)/\hU k l v:=by
 unfold gp
 grind
def WA{v:ai}(h:gp no v=af):2<=no/\no<=128/\no≠65:=by obtain⟨k,l,Y,_⟩:=xl.1 h;exact awq Y
def tH{l:ab b5}:∀{last:O},ip last l=af->∀v∈l,last<v.1/\gp v.1 v.2.1=af:=by
 induction l with
 |nil=>intro _ _ v a3;cases a3
 |cons x r ih=>
  grind [ip]
def io(l:ab b5):ab O:=l.map λv=>v.1
def aFz{l:ab b5}:∀{last:O},1<=last->ip last l=af->ia last (io l)=af:=by
 induction l with
 |nil=>intros;rfl
 |cons x r ih=>
  intro last hl h;simp only[ip,d5,lH]at h;have ax:=WA h.2.1
  grind [io,ia]
def R2{l:ab b5}(h:ip 0 l=af):ia 1 (io l)=af:=by
 cases l with
 |nil=>rfl
 |cons x r =>simp only[ip,d5,lH]at h;have ax:=WA h.2.1;simp only[io,A1,ia,d5,lH];exact⟨⟨V,ax.2⟩,aFz V h.2.2⟩
def gT(v:b5):ai:=(rB v.1 v.2.1).1
theorem Mj{v:ai}(h:gp no v=af):rB no v=((rB no v).1,0,())/\(rB no v).1.length<=402/\1<=(rB no v).1.length:=by
 obtain⟨k,l,Y,ac⟩:=xl.1 h;have e:rB no v=(lF k v,0,()):=by unfold rB;rw[Y];simp only[aH ac]
 have hl:=WO Y ac;rw[e];exact⟨rfl,aH1 (qW Y).1 hl.2.2,aH2 (qW Y).1 hl.1⟩
def tO(m:O):ai:=hO<|fo (bE 10 g4 m.toNat 4)
theorem AG:T (tO m)=2:=by unfold tO;rw[sY,mj]
def iu(m:M):ai:=tO m.1++(gh (io m.2.1)++m.2.1.flatMap gT)
theorem rR(l:ab O):T (gh l)=if mo l=af then 16 else 8:=by unfold gh;split<;>exact C5
def awl(l:ab b5):∀dC:ab O,l.foldl (λdC v=>dC++[v.1]) dC=dC++io l:=by
 induction l with
 |nil=>intro dC;simp[io]
 |cons v r ih=>intro dC;rw[DN,ih];simp[io]
def awm(l:ab b5):∀dC:ai,l.foldl (λdC v=>dC++gT v) dC=dC++l.flatMap gT:=by
 induction l with
 |nil=>intro dC;simp
 |cons v r ih=>intro dC;rw[DN,ih];simp
def abS(h:h2 m):vG (m,4,())=J (bE 10 g4 m.toNat 4,0,())/\vF (bE 10 g4 m.toNat 4,())=J (tO m,0,())/\wu (m,4,())=J (bE 10 g4 m.toNat 4,0,())/\ws (bE 10 g4 m.toNat 4,())=J (tO m,0,()):=by
 unfold h2 at h;have e:(10:O)^(4:O).toNat=10000:=di;refine⟨?_,?_,?_,?_⟩
 .grind [Oa]
 .rw[V_ _ aOf,aH Bv];rfl
 .grind [Qx]
 rw[aae _ aOf,aH Bv];rfl
def Yz(m:M)(hm:ud m):Ca (m,())=J (if iJ m=af then(iu m,0,()) else([],1,())):=by
 unfold Ca;generalize hf:(λ(ae:ab O×O×aj)=>_)=f;generalize hg:(λ(ae:ai×O×aj)=>(_:au<|aL (ai×O×aj)<|ai×O×aj))=g;have j':=aAC m hm;have hl:=hm.1;cases az:iJ m
 .simp only[go_sem,j',az]
 have gq:=az;simp only[iJ,d5,lH]at gq;obtain⟨d1,d2, -, -⟩:=abS gq.2;have key:=q_ (f:=f) (ρ:=ai×O×aj) m.2.1 (λ(dC:ab O) i=>(dC,(i:O),())) 0 (λdC v=>.nx<|dC++[v.1]) (λdC i=>T dC=i) (λb i h eD=>⟨?_,λeH ak => ?_⟩) (λb _ => ?_) [] rfl
 .rw[OI (g:=λ(dC:ab O) (v:b5)=>dC++[v.1])<|λ_ _=>rfl,awl]at key
  have xv:=aqM (io m.2.1) (by simp[io];omega);rw[aH<|R2 gq.1]at xv;have pC:=AG (m:=m.1);have et:T (gh<|io m.2.1)<=16:=aMM
  have tp:=q_ (f:=g) (ρ:=ai×O×aj) m.2.1 (λ(dC:ai) i=>(dC,(i:O),())) 2 (λdC v=>.nx<|dC++gT v) (λdC i=>T dC<=100+402*i) (λb i h eD=>⟨?_,λeH ak => ?_⟩) (λb _ => ?_) (tO m.1++gh (io m.2.1)) aLt
  .rw[OI (g:=λ(dC:ai) (v:b5)=>dC++gT v)<|λ_ _=>rfl,awm,kL]at tp
   replace key:bG f ([],0,())=_:=key;replace tp:bG g (tO m.1++gh (io m.2.1),0,())=_:=tp;simp(disch:=omega) only[go_sem,j',az,d1,d2,key,xv,tp];rfl
  .subst hg
   have iS:=tH gq.1 m.2.1[i]<|j7 h;have bR:=Mj iS.2;have XN:=hm.ap h;have r_:=av3 m.2.1[i].1 m.2.1[i].2.1 XN;rw[bR.1]at r_;have aiI:T (gT m.2.1[i])<=402:=bR.2.1;change Im _=J (gT m.2.1[i],0,()) at r_;simp(disch:=omega) only[go_sem,r_,kB]
  .exact aOn
  subst hg;exact AI
 .subst hf;simp(disch:=omega) only[go_sem,gd,kB]
 .grind
 exact aPA
def aEm(h:h2 m):QP (m,())=J (bE 10 g4 m.toNat 4,()):=by unfold QP;obtain⟨-, -,d1, -⟩:=abS h;simp only[go_sem,d1]
def QO(m:M)(hm:ud m):wv (m,())=J (if iJ m=af then(iu m,0,()) else([],1,())):=by
 unfold wv;generalize hf:(λ(ae:ab O×ai×O×aj)=>_)=f;have j':=aEk m hm;have hl:=hm.1;cases az:iJ m
 .simp only[go_sem,j',az]
 have gq:=az;simp only[iJ,d5,lH]at gq;obtain⟨-, -,d1,d2⟩:=abS gq.2;have key:=q_ (f:=f) (ρ:=ai×O×aj) m.2.1 (λ(dC:ab O×ai) i=>(dC.1,dC.2,(i:O),())) 0 (λdC v=>.nx (dC.1++[v.1],dC.2++gT v)) (λdC i=>T dC.1=i/\T dC.2<=402*i) (λb i h eD=>⟨?_,λeH ak => ?_⟩) (λb _ => ?_) ([],[]) ⟨rfl,bP⟩
 .rw[OI (g:=λ(dC:ab O×ai) (v:b5)=>(dC.1++[v.1],dC.2++gT v))<|λ_ _=>rfl]at key
  have I6:∀(l:ab b5) (a:ab O) (b:ai),l.foldl (λ(dC:ab O×ai) v=>(dC.1++[v.1],dC.2++gT v)) (a,b)=(a++io l,b++l.flatMap gT):=by
   intro l;induction l with
   |nil=>intro a b;simp[io]
   |cons v r ih=>intro a b;rw[DN,ih];simp[io]
  rw[I6]at key;have xv:=aEh (io m.2.1) (by simp[io];omega);rw[aH<|R2 gq.1]at xv;have pC:=AG (m:=m.1);have et:T (gh<|io m.2.1)<=16:=aMM
  have k6:T (m.2.1.flatMap gT)<=402*T m.2.1:=by
   have:∀l:ab b5,(∀v∈l,gp v.1 v.2.1=af)->T (l.flatMap gT)<=402*T l:=by
    intro l;induction l with
    |nil=>simp
    |cons v r ih=>
     grind [gT,Mj]
   exact this _ λv a3=>(tH gq.1 v a3).2
  have aJ:=aEm gq.2;replace key:bG f ([],[],0,())=_:=key;simp(disch:=omega) only[go_sem,j',az,aJ,d2,key,xv,d7];rw[kL];rfl
 .subst hf
  have iS:=tH gq.1 m.2.1[i]<|j7 h;have bR:=Mj iS.2;have XN:=hm.ap h;have r_:=aEe m.2.1[i].1 m.2.1[i].2.1 XN;rw[bR.1]at r_;have aiI:T (gT m.2.1[i])<=402:=bR.2.1;change KN _=J (gT m.2.1[i],0,()) at r_;simp(disch:=omega) only[go_sem,r_,kB,gd]
 .exact aOn
 exact aPA
def oi:M:=(0,[],())
def rm(b:ai):ab O->O->ab b5->au O×O×ab b5
 |[],cM,F=>(aq,cM,F)
 |n::r,cM,F=>if(ki n b cM).2.2.1=0 then rm b r (ki n b cM).2.1 (F++[(n,(ki n b cM).1,())]) else(J (ki n b cM).2.2.1,cM,F)
def CK(b:ai)(s:O×ab b5)(n:O):aL (O×ab b5)<|M×O×aj:=if(ki n b s.1).2.2.1=0 then .nx ((ki n b s.1).2.1,s.2++[(n,(ki n b s.1).1,())]) else .rt (oi,(ki n b s.1).2.2.1,())
def agN{σ:Type}{mk:O×ab b5->R->σ}{e:R}{b:ai}:∀(l:ab O) (s:O×ab b5) (i:R),jC mk e (CK b) s i l=match rm b l s.1 s.2 with|(aq,a,F)=>.ex e (mk (a,F)<|i+T l)|(J q,_,_)=>.rt (oi,q,())
 |[],s,i=>rfl
 |n::r,s,i=>by
  unfold rm;by_cases h:(ki n b s.1).2.2.1=0
  .have hs:CK b s n=.nx ((ki n b s.1).2.1,s.2++[(n,(ki n b s.1).1,())]):=aH h
   simp only[jC,hs,aH h];rw[agN r _<|i+1]
   grind
  grind [CK,jC]
def FD(_:aj)(n:O):aL aj<|M×O×aj:=if(fl n).isSome=af then .nx () else .rt (oi,2,())
def agM{σ:Type}{mk:aj->R->σ}{e:R}:∀(l:ab O) (i:R),jC mk e FD () i l=if ∀n∈l,(fl n).isSome=af then .ex e (mk ()<|i+T l) else .rt (oi,2,())
 |[],i=>by simp[jC]
 |n::r,i=>by
  by_cases h:(fl n).isSome=af
  .have hs:FD () n=.nx ():=aH h
   simp only[jC,hs,mU,forall_eq_or_imp,h,true_and];rw[agM r<|i+1]
   grind
  grind [FD,jC]
def F0(b:ai)(m:O)(l:ab O)(cM:O):M×O×aj:=
 if ∀n∈l,(fl n).isSome=af then(match rm b l cM []with|(aq,a,F)=>if a<(T b:O) then(oi,4,()) else((m,F,()),0,())|(J q,_,_)=>(oi,q,())) else(oi,2,())
def gc(b:ai):M×O×aj:=
 if(jg b 0 4).2.2.1≠0 then(oi,(jg b 0 4).2.2.1,()) else if h2 (val (jg b 0 4).1:O) then
  (if(ku b 2).2.2.1≠0 then(oi,(ku b 2).2.2.1,()) else F0 b (val (jg b 0 4).1:O) (ku b 2).1 (ku b 2).2.1) else(oi,2,())
theorem aBX{c:ai}:T (h? c)<=8*T c+1:=by
 have:=np (λn=>Nat.ble 2 n&&gQ c n)<|List.range (8*T c+1)
 rwa [M8]at this
def adn{b:ai}:(ku b a).1.length<=129:=by
 grind [ku,mv,aBX]
def agT{o:au<|Int×O}:(i' o).2.1=o.isSome:=by cases o<;>rfl
def aln{acM:O×aj->au ((O×O×aj)×aE×aj)}(ahx:∀n,acM (n,())=J (i'<|fl n)){acN:O×ai×O×aj->au (ai×O×O×aj)}{b:ai}(ahz:∀n a,acN (n,b,a,())=J (ki n b a))
  {l:ab O} (hl:T l<=129) {cM Fx:O} {e1:O} {f:O×O×aj->au (aL (O×O×aj)<|M×O×aj)} {g:O×O×O×M×aj->au (aL (O×O×O×M×aj)<|M×O×aj)}
  (hf:∀x (i:R),f (x,(i:O),())=aa (aK (i:O)<|len l) (an (aO (i:O)<|len l)<|ob (acM (ap l (ah (i:O)) 0,())) λa=>aa (a2 a.2.1) (J<|.rt (oi,2,()))<|some<|.nx (x,i64<|aG (i:O) 1,())) (J<|.ex 0 (x,(i:O),())))
  (hg:∀x a (i:R) (F:ab b5),g (x,a,(i:O),(Fx,F,()),())=aa (aK (i:O)<|len l) (an (aO (i:O)<|len l) (ob (acN (ap l (ah (i:O)) 0,b,a,())) λq=>aa (a2<|am q.2.2.1 0) (J<|.rt (oi,q.2.2.1,()))
   (an (bO 56<|bB (aQ F) 1)<|some<|.nx (x,q.2.1,i64<|aG (i:O) 1,(Fx,bb F [(ap l (ah (i:O)) 0,q.1,())],()),())))) (J<|.ex 2 (x,a,(i:O),(Fx,F,()),()))) (oA:O) :
  b? (bG f (oA,0,())) (λ_=>aq) (λi a=>an (bU i 0)<|b? (bG g (a.1,cM,0,(Fx,[],()),())) (λ_=>aq) (λi a=>an (bU i 2)<|aa (aK a.2.1<|len b) (J (oi,4,()))<|some ((a.2.2.2.1.1,a.2.2.2.1.2.1,a.2.2.2.1.2.2),0,())) λr=>J r) (λr=>J r)=J (F0 b Fx l cM):=by
 have key:=q_ (f:=f) l (λ(_:aj) i=>(oA,(i:O),())) 0 FD (λ_ _=>True) (λ_ i h _=>⟨?_,λ_ _=>trivial⟩) (λ_ _ => ?_) () trivial
 .refine(cE key).trans ?_
  rw[agM];unfold F0;by_cases bg:∀n∈l,(fl n).isSome=af
  .rw[aH bg,aH bg]
   have tp:=q_ (f:=g) l (λ(s:O×ab b5) i=>(oA,s.1,(i:O),(Fx,s.2,()),())) 2 (CK b) (λs i=>T s.2<=i) (λs i h eD=>⟨?_,λc' hs => ?_⟩) (λs _ => ?_) (cM,[])<|cx _
   .refine(cE tp).trans ?_
    rw[agN];rcases rm b l cM []with⟨_|q,a,F⟩
    .refine lc_ex'.trans (a7 g62 ?_)
     by_cases b6:a<(T b:O)
     .simp only[aH b6];exact AI
     simp only[aD b6];exact AI
    rfl
   .rw[hg]
    by_cases aC:(ki l[i] b s.1).2.2.1=0
    .have eU:CK b s l[i]=.nx ((ki l[i] b s.1).2.1,s.2++[(l[i],(ki l[i] b s.1).1,())]):=aH aC
     simp(disch:=omega) only[go_sem,ahz,aC,eU,kB]
    have eU:CK b s l[i]=.rt (oi,(ki l[i] b s.1).2.2.1,()):=aD aC;simp(disch:=omega) only[go_sem,ahz,aC,eU,kB]
   .grind [CK]
   rw[hg];exact AI
  rw[aD bg,aD bg];rfl
 .rw[hf]
  cases aC:(fl l[i]).isSome
  .have eU:FD () l[i]=.rt (oi,2,()):=aD (by rw[aC];simp)
   exact aO5
  have eU:FD () l[i]=.nx ():=aH aC;exact aO5
 rw[hf];simp(disch:=omega) only[go_sem]
def Yy(b:ai)(hl:T b<=1000000):Ff (b,())=J (gc b):=by
 refine aW (V? b 0 4 hl) ?_;unfold gc;rcases wI (b:=b) (I:=0) (N:=4) (ea _) V with⟨_,h⟩|⟨_,h,_⟩|⟨s,aJ,h,hf,hs,_⟩
 .replace h:jg b 0 4=([],0,3,()):=h
  rw[h];rfl
 .replace h:jg b 0 4=([],0,2,()):=h
  rw[h];rfl
 replace h:jg b 0 4=(s,2,0,()):=h;rw[h];refine aW (Wa s) ?_;rw[aH ⟨V,V,hf⟩,aD bP];refine aW (B? _) ?_;by_cases ht:h2 (val s:O)
 .refine a8 (by rw[bS ht];rfl) ?_
  rw[aH ht];by_cases aC:(ku b 2).2.2.1=0
  .refine a8 (by rw[ck aC];rfl) ?_
   rw[aD V];exact aln (e1:=0) Il (b:=b) (λn a=>av2 n b a hl) adn (λ_ _=>rfl) (λ_ _ _ _=>rfl) 0
  refine bA (by rw[cc aC];rfl) ?_;rw[aH aC];rfl
 refine bA (by rw[b1 ht];rfl) ?_;rw[aD ht];rfl
def aap(b:ai)(hl:T b<=1000000):KR (b,())=J (gc b):=by
 unfold gc;rcases wI (b:=b) (I:=0) (N:=4) (ea _) V with⟨ac,h⟩|⟨ac,h,_⟩|⟨s,aJ,h,hf,hs,_⟩
 .replace h:jg b 0 4=([],0,3,()):=h
  rw[h];exact(bj<|cB In).trans rfl
 .replace h:jg b 0 4=([],0,2,()):=h
  refine(bf<|cm In).trans ?_;refine(b3<|KB b 0 4 hl).trans ?_;rw[h];rfl
 replace h:jg b 0 4=(s,2,0,()):=h;refine(bf<|cm In).trans ?_;refine(b3<|KB b 0 4 hl).trans ?_;rw[h];refine(b3<|aag s V).trans ?_;rw[aH ⟨V,V,hf⟩,aD bP];by_cases ht:h2 (val s:O)
 .refine(b3 (a:=(ag,()))<|(bf rfl).trans<|(b3<|Ac _).trans (by rw[bS ht];rfl)).trans ?_
  rw[aH ht];refine(b3<|aEg b 2 hl).trans ?_;by_cases aC:(ku b 2).2.2.1=0
  .refine(bf (by rw[ck aC];rfl)).trans ?_
   rw[aD V];refine aln (e1:=0) KM (b:=b) (λn a=>aEd n b a hl) adn (λ_ _=>rfl) (λx a i F => ?_) 0;by_cases ao:i<(ku b 2).1.length
   .have dP:aO (i:O) (len (ku b 2).1)=af:=gr ao
    simp only[dP];rfl
   exact aN4
  refine(bj (by rw[cc aC];rfl)).trans ?_;rw[aH aC];rfl
 refine(b3 (a:=(af,()))<|(bf rfl).trans<|(b3<|Ac _).trans (by rw[b1 ht];rfl)).trans ?_;rw[aD ht];rfl
def apo:=@Nat.mul_le_mul
def afz{α:Type}(c:R)(z:α)(x:ab (ab α)×aj):au<|List α×aj:=
 b? (bG (λ(ae:O×O×aj)=>aa (aK ae.2.1<|len x.1) (an (aO ae.2.1<|len x.1) (aa (aK (i64<|aG ae.1<|len<|ap x.1 (ah ae.2.1)<|aI α) 0) aq
  (J<|aL.nx (i64<|aG ae.1<|len<|ap x.1 (ah ae.2.1)<|aI α,i64<|aG ae.2.1 1,()))))<|some<|aL.ex 0 (ae.1,ae.2.1,())) (0,0,()))
 (λ(a:O×O×aj)=>aq)
 (λ(i:R) (a:O×O×aj)=>an (bU i 0) (aa (aK a.1 0) aq (aa (aK 0<|i64<|bw a.1<|i64<|bw 0 0) (an (cq 0 0 0)
  (an (df (bL 0<|i64<|bw a.1<|i64<|bw 0 0)<|bO c<|ah<|i64<|bw a.1<|i64<|bw 0 0) (an (cq 0 0<|len<|cb (ah<|i64<|bw a.1<|i64<|bw 0 0) z)
   (b? (bG (λ(ae:ab α×O×aj)=>aa (aK ae.2.1<|len x.1) (an (aO ae.2.1<|len x.1) (an (bO c<|bB (aQ ae.1)<|aQ<|ap x.1 (ah ae.2.1)<|aI α)
    (J<|aL.nx (bb ae.1<|ap x.1 (ah ae.2.1)<|aI α,i64<|aG ae.2.1 1,()))))<|some<|aL.ex 2 (ae.1,ae.2.1,())) (cut (cb (ah<|i64<|bw a.1<|i64<|bw 0 0) z) (ah 0)<|cy (ah 0)<|ah 0,0,()))
    (λ(a:ab α×O×aj)=>aq) (λ(i:R) (a:ab α×O×aj)=>an (bU i 2)<|some (a.1,())) λ(r:ab α×aj)=>J r))))
  (b? (bG (λ(ae:ab α×O×aj)=>aa (aK ae.2.1<|len x.1) (an (aO ae.2.1<|len x.1) (an (bO c<|bB (aQ ae.1)<|aQ<|ap x.1 (ah ae.2.1)<|aI α)
   (J<|aL.nx (bb ae.1<|ap x.1 (ah ae.2.1)<|aI α,i64<|aG ae.2.1 1,()))))<|some<|aL.ex 2 (ae.1,ae.2.1,())) (aI α,0,()))
   (λ(a:ab α×O×aj)=>aq) (λ(i:R) (a:ab α×O×aj)=>an (bU i 2)<|some (a.1,())) λ(r:ab α×aj)=>J r))))
 λ(r:ab α×aj)=>J r
def OJ{α β σ ρ:Type}{mk:β->R->σ}{e:R}{step:β->α->aL β ρ}{g:β->α->β}(h:∀b x,step b x=.nx (g b x)):∀(l:ab α) (b:β) (i:R),jC mk e step b i l=.ex e (mk (l.foldl g b)<|i+T l)
 |[],b,i=>rfl
 |x::r,b,i=>by
  simp only[jC,h,gd];rw[OJ h r (g b x)<|i+1]
  grind
def awk(jr:ab<|List α):∀a:O,jr.foldl (λs x=>s+(T x:O)) a=a+(T jr.flatten:O):=by
 induction jr with
 |nil=>intro a;simp
 |cons x r ih=>intro a;rw[DN,ih];simp;omega
def awi(jr:ab<|List α):∀a:ab α,jr.foldl (λs x=>s++x) a=a++jr.flatten:=by
 induction jr with
 |nil=>intro a;simp
 |cons x r ih=>intro a;rw[DN,ih];simp
def afA{c:R}{z:α}(aA:c<=100000)(jr:ab<|List α)(hl:T jr<=100)(hx:∀x∈jr,T x<=1000000):afz c z (jr,())=J (jr.flatten,()):=by
 unfold afz;generalize hf:(λ(ae:O×O×aj)=>_)=f;generalize hg:(λ(ae:ab α×O×aj)=>(_:au<|aL (ab α×O×aj)<|List α×aj))=g;have mz:∀n:R,n<=100000000->n*c<=140737488355328:=λn ax=>i6 (apo ax aA) V;have cP:T jr.flatten<=100000000:=by
  have:∀jr:ab<|List α,(∀x∈jr,T x<=1000000)->T jr.flatten<=1000000*T jr:=by
   intro jr;induction jr with
   |nil=>simp
   |cons x r ih=>
    grind
  grind
 have key:=q_ (f:=f) (ρ:=ab α×aj) jr (λ(s:O) i=>(s,(i:O),())) 0 (λs x=>.nx<|s+(T x:O)) (λs i=>0<=s/\s<=1000000*i) (λs i h eD=>⟨?_,λeH ak => ?_⟩) (λs _ => ?_) 0 bP
 .rw[OJ (g:=λ(s:O) (x:ab α)=>s+(T x:O))<|λ_ _=>rfl,awk,Int.zero_add]at key
  have tp:=q_ (f:=g) (ρ:=ab α×aj) jr (λ(s:ab α) i=>(s,(i:O),())) 2 (λs x=>.nx<|s++x) (λs i=>T s<=1000000*i) (λs i h eD=>⟨?_,λeH ak => ?_⟩) (λs _ => ?_) [] bP
  .rw[OJ (g:=λ(s:ab α) (x:ab α)=>s++x)<|λ_ _=>rfl,awi,n0]at tp
   refine(cE key).trans<|lc_ex'.trans<|a7 g62<|a8 rfl ?_;by_cases aC:0<T jr.flatten
   .refine bA aj_ (a7 (by simp only[go_sem];decide) ?_)
    have r9:∀(n:R) (a:α),T (cb n a)=n:=λn a=>aNY
    have hm:=mz _ cP;refine a7 (by simp(disch:=omega) only[go_sem];exact⟨V,hm⟩)<|a7 (by simp only[go_sem];exact⟨V,V,V⟩) ?_;refine(cE tp).trans ?_;rfl
   refine a8 aj_<|(cE tp).trans ?_;rfl
  .subst hg
   have ac:=hx jr[i]<|j7 h;have hm:=mz (T s+T (jr[i])) V;simp(disch:=omega) only[go_sem,kB]
  .grind
  subst hg;exact AI
 .subst hf
  have ac:=hx jr[i]<|j7 h;simp(disch:=omega) only[go_sem,kB]
 .grind
 subst hf;exact If
def A5:=@List.filter_cons_of_neg
def TZ:=@List.filter_cons_of_pos
def aph(jr:ab<|List b5)(hl:T jr<=100)(hx:∀x∈jr,T x<=1000000):SK (jr,())=J (jr.flatten,()):=
 (rfl).trans (afA V jr hl hx)
def hS(no:O):ab b5->R
 |[]=>0
 |v::r=>if no<=v.1 then 0 else hS no r+1
def kP(no:O):ab b5->aE
 |[]=>ag
 |v::r=>if no<=v.1 then decide (v.1=no) else kP no r
def Wx(no:O):∀l:ab b5,hS no l<=T l
 |[]=>cx _
 |v::r=>by
  unfold hS;split
  .omega
  have:=Wx no r;simp;omega
def O3{no:O}:∀{l:ab b5},kP no l=af->∃h:hS no l<T l,(l[hS no l]).1=no
 |v::r,h=>by
  unfold kP at h;by_cases aA:no<=v.1
  .grind [hS]
  rw[aD aA]at h;obtain⟨Y,ac⟩:=O3 h
  grind [hS]
def agC(l:ab b5)(no:O)(hl:T l<=1000000):JC ((l,1,()),no,())=J ((hS no l:O),kP no l,()):=by
 unfold JC;generalize hf:(λ(ae:O×aE×O×aj)=>_)=f;have key:∀(r:ab b5) (i:R),l.drop i=r->i<=T l->bG f (0,ag,(i:O),())=if i+hS no r<T l then J (.rt (((i+hS no r:R):O),kP no r,())) else J<|.ex 0 (0,ag,(T l:O),()):=by
  intro r;induction r with
  |nil =>intro i az ao;have Jd:=d4 T az;rw[dV,gM]at Jd;have:i=T l:=V;subst this;rw[aD<|by simp[hS]];refine dr ?_;exact aPA
  |cons v r ih=>
   intro i az ao;have Jd:=d4 T az;rw[dV,gd]at Jd;have bK:i<T l:=V;rw[oE bK]at az;obtain⟨a3,gq⟩:=pc az;have hp:Px (v,())=J (v.1,()):=rfl;by_cases aA:no<=v.1
   .have aC:hS no (v::r)=0:=by unfold hS;rw[aH aA]
    have Y:kP no (v::r)=D (v.1=no):=by unfold kP;rw[aH aA];exact g51
    rw[aC,Y,aH V];refine oY ?_;subst hf;simp(disch:=omega) only[go_sem,a3,hp,Int.add_zero]
   have aC:hS no (v::r)=hS no r+1:=aMa
   have Y:kP no (v::r)=kP no r:=aMb
   rw[aC,Y];refine(dT (y:=(0,ag,((i+1:R):O),())) ?_).trans<|(ih (i+1) gq bK).trans ?_
   .subst hf;simp(disch:=omega) only[go_sem,a3,hp]
   rw[show i+1+hS no r=i+(hS no r+1) by omega]
 have zK:=key l 0 rfl<|ea _;rw[oD]at zK;refine(cE zK).trans ?_;by_cases bK:hS no l<T l
 .rw[aH bK];rfl
 rw[aD bK];have aX:=Wx no l;have:hS no l=T l:=V;have ax:kP no l=ag:=(w3 _).mp λh=>bK (O3 h).1;rw[this,ax];rfl
def getD(l:ab b5)(no:O):ai×aE×aj:=if kP no l=af then((ap l (hS no l) (0,[],())).2.1,af,()) else([],ag,())
theorem Yx(m:M)(no:O)(hl:T m.2.1<=1000000):sb (m,no,())=J (getD m.2.1 no):=by
 unfold sb;refine aW (show Pw (m,())=J ((m.2.1,1,()),()) from rfl) ?_;refine aW (agC m.2.1 no hl) ?_;unfold getD;cases h:kP no m.2.1
 .rfl
 obtain⟨Y,ac⟩:=O3 h;exact a8 rfl<|a7 (gr Y) rfl
def AN(l:ab b5)(x:b5):ab b5:=l.take (hS x.1 l)++(x::l.drop (if kP x.1 l=af then hS x.1 l+1 else hS x.1 l))
def aJo{l:ab α}:sub l 0 (n:O)=l.take n:=by simp[sub]
def an0{l:ab α}:sub l (n:O) (len l)=l.drop n:=aNn
def aHT(l:ab b5)(x:b5)(hl:T l<=100000):YA ((l,1,()),x,())=J (AN l x,()):=by
 refine a7 g62<|aW (rfl)<|aW (agC l x.1 V) ?_;have ct:=Wx x.1 l;have aA:∀n:R,SK ([l.take<|hS x.1 l,[x],l.drop n],())=J (l.take (hS x.1 l)++(x::l.drop n),()):=λn=>by
  rw[aph _ bP (λy bW=>by
   simp at bW;rcases bW with rfl|rfl|rfl
   .grind
   .simp
   rw[dV];omega)]
  simp
 unfold AN;cases h:kP x.1 l
 .refine aW (bf rfl) ?_
  exact aNV
 obtain⟨Y,ac⟩:=O3 h;have e:i64 (aG (hS x.1 l:O) 1)=((hS x.1 l+1:R):O):=gY (b:=1) V;simp only[e];exact aNV
def Gx(m:M)(no:O)(v:ai):M×O×aj:=if fl no=aq then(m,12,()) else if gp no v=af then((m.1,AN m.2.1 (no,v,()),()),0,()) else(m,1,())
def Pv(m:M)(no:O)(v:ai)(hl:T m.2.1<=100000)(a3:T v<=1000000):k8 (m,no,v,())=J (Gx m no v):=by
 unfold k8 Gx;refine aW (Il no) ?_;cases bg:fl no with
 |none=>rfl
 |some p=>
  refine a8 rfl<|aW (Oy no v a3) ?_;cases hf:gp no v
  .rfl
  exact a8 rfl<|aW (rfl) (aW (aHT m.2.1 (no,v,()) hl) rfl)
def g7(no:O):ab b5->ai×aE×aj
 |[]=>([],ag,())
 |v::r=>if v.1=no then(v.2.1,af,()) else g7 no r
def EO(no:O)(_:aj)(v:b5):aL aj<|ai×aE×aj:=if v.1=no then .rt (v.2.1,af,()) else .nx ()
def agL{σ:Type}{mk:aj->R->σ}{e:R}{no:O}:∀(l:ab b5) (i:R),∃j,jC mk e (EO no) () i l=if(g7 no l).2.1=af then .rt (g7 no l) else .ex e (mk () j)
 |[],i=>⟨i,rfl⟩
 |v::r,i=>by
  by_cases h:v.1=no
  .simp_all[EO,g7,jC]
  have hs:EO no () v=.nx ():=aD h;have hg:g7 no (v::r)=g7 no r:=by conv=>{ lhs;unfold g7 };rw[aD h]
  obtain⟨j,aF⟩:=agL (mk:=mk) (e:=e) (no:=no) r<|i+1;exact⟨j,by simp only[jC,hs,hg];exact aF⟩
def ag3{no:O}:∀{l:ab b5},(g7 no l).2.1=ag->g7 no l=([],ag,())
 |[],_=>rfl
 |v::r,h=>by
  unfold g7 at h ⊢;split
  .grind
  rename_i aA;rw[aD aA]at h;exact ag3 h
theorem QL(m:M)(no:O)(hl:T m.2.1<=1000000):yh (m,no,())=J (g7 no m.2.1):=by
 unfold yh;generalize hf:(λ(ae:aE×O×aj)=>_)=f;have key:=q_ (f:=f) m.2.1 (λ(_:aj) i=>(ag,(i:O),())) 0 (EO no) (λ_ _=>True) (λ_ i h _=>⟨?_,λ_ _=>trivial⟩) (λ_ _ => ?_) () trivial
 .refine(cE key).trans ?_
  obtain⟨j,aF⟩:=agL (mk:=λ_ i=>((ag,(i:O),()):aE×O×aj)) (e:=0) (no:=no) m.2.1 0;rw[aF];cases h:(g7 no m.2.1).2.1
  .rw[ag3 h];rfl
  rfl
 .subst hf
  by_cases Y:(m.2.1[i]).1=no
  .have hs:EO no () m.2.1[i]=.rt (m.2.1[i].2.1,af,()):=aH Y
   exact aKW
  have hs:EO no () m.2.1[i]=.nx ():=aD Y;exact aKW
 subst hf;exact aKF
def awj(p:b5->aE)(l:ab b5):∀a:ab b5,l.foldl (λs v=>if p v=af then s++[v]else s) a=a++l.filter p:=by
 induction l with
 |nil=>intro a;simp
 |cons v r ih=>
  intro a;rw[DN,ih];by_cases h:p v=af
  .rw[aH h,TZ h];simp
  rw[aD h,A5 h]
def ajd{f:ab b5×O×aj->au (aL (ab b5×O×aj) ρ)}{l:ab b5}{e:R}(p:b5->aE)(hl:T l<=100000)(a:ab b5)(b6:T a<=100000)
  (hf:∀(s:ab b5) (i:R) (h:i<T l),T s<=200000->f (s,(i:O),())=J (.nx (if p l[i]=af then s++[l[i]]else s,((i+1:R):O),()))) (aX:∀s,f (s,(T l:O),())=J (.ex e (s,(T l:O),()))) :
  bG f (a,0,())=J (.ex e (a++l.filter p,(T l:O),())):=by
 have key:=q_ (f:=f) l (λ(s:ab b5) i=>(s,(i:O),())) e (λs v=>.nx<|if p v=af then s++[v]else s) (λs i=>T s<=100000+i) (λs i h eD=>⟨hf s i h V,λeH ak => ?_⟩) (λs _=>aX s) a V
 .rw[OJ (g:=λ(s:ab b5) (v:b5)=>if p v=af then s++[v]else s)<|λ_ _=>rfl,awj,oD]at key
  exact key
 grind
def uX(l:ab b5)(x:b5):ab b5:=l.filter (λv=>decide (v.1<x.1))++(x::l.filter (λv=>decide (x.1<v.1)))
def aa0(m:M)(no:O)(v:ai):M×O×aj:=if fl no=aq then(m,12,()) else if gp no v=af then((m.1,uX m.2.1 (no,v,()),()),0,()) else(m,1,())
def aEl(m:M)(no:O)(v:ai)(hl:T m.2.1<=90000)(a3:T v<=1000000):KS (m,no,v,())=J (aa0 m no v):=by
 unfold KS aa0;generalize hf:(λ(ae:ab b5×O×aj)=>(_:au<|aL (ab b5×O×aj)<|M×O×aj))=f;generalize hg:(λ(ae:ab b5×O×aj)=>(_:au<|aL (ab b5×O×aj)<|M×O×aj))=g;refine aW (KM no) ?_;cases bg:fl no with
 |none=>rfl
 |some p=>
  refine a8 rfl<|aW (alv no v a3) ?_;cases ah4:gp no v
  .rfl
  have k6:T (m.2.1.filter<|λu=>decide (u.1<no))<=T m.2.1:=np _ _;have key:=ajd (f:=f) (e:=0) (λu=>decide (u.1<no)) V [] bP (λs i h hs => ?_) (λs => ?_) (l:=m.2.1)
  .have tp:=ajd (f:=g) (e:=2) (λu=>decide (no<u.1)) V (m.2.1.filter (λu=>decide (u.1<no))++[(no,v,())]) (by grind) (λs i h hs => ?_) (λs => ?_) (l:=m.2.1)
   .refine(cE key).trans (lc_ex'.trans<|a7 g62<|a7 (kW (by simp only[bB,aQ,d7,gd,gM];omega))<|(cE tp).trans ?_)
    simp only[go_sem,uX];simp
   .subst hg
    by_cases Y:no<(m.2.1[i]).1
    .simp(disch:=omega) only[go_sem,Y,gd]
    simp(disch:=omega) only[go_sem,Y]
   subst hg;exact AI
  .subst hf
   by_cases Y:(m.2.1[i]).1<no
   .simp(disch:=omega) only[go_sem,Y,gd]
   simp(disch:=omega) only[go_sem,Y]
  exact aPA
def dS(n:O)(w:R):ai:=bE 10 g4 n.toNat w
theorem vE{n:O}:T (dS n w)=w:=mj _ _ _ _
def afR{n:O}:gX<|dS n w:=Bv
def J'{n:O}(Y:1<=w)(ac:w<=18)(aC:0<=n)(h:n<10^w)(zm:n<=9223372036854775807):sm (n,(w:O),())=J (dS n w,()):=by unfold sm;rw[Oa _ _ zm,aH ⟨show(1:O)<=(w:O) by omega,show(w:O)<=18 by omega,aC,aKP⟩];show an (bO 1<|aQ<|dS n w) _=_;simp(disch:=omega) only[go_sem,vE];rfl
def K5{n:O}(Y:1<=w)(ac:w<=18)(aC:0<=n)(h:n<10^w)(zm:n<=9223372036854775807):oo (n,(w:O),())=J (dS n w,()):=by unfold oo;rw[Qx _ _ zm,aH ⟨show(1:O)<=(w:O) by omega,show(w:O)<=18 by omega,aC,aKP⟩];show an (bO 1<|aQ<|dS n w) _=_;simp(disch:=omega) only[go_sem,Int.reduceToNat,vE];rfl
def mC(n:N):M:=
 if n.1=ag then(810,[(11,dS n.2.2.1 6,()),(39,dS n.2.2.2.1 2,()),(70,dS n.2.1 3,())],())
 else if n.2.1=101 then(800,[(11,dS n.2.2.1 6,()),(48,gI n.2.2.2.2.2.2.1,()),(53,dS n.2.2.2.2.1 16,()),(70,dS n.2.1 3,()),(96,n.2.2.2.2.2.1,())],())
 else if n.2.1=201 then(800,[(11,dS n.2.2.1 6,()),(15,dS n.2.2.2.2.2.2.2.1 6,()),(70,dS n.2.1 3,())],())
 else(800,[(11,dS n.2.2.1 6,()),(70,dS n.2.1 3,())],())
theorem Bw(h:fl no=J (k,(w:O)))(bR:1<=w){n:O}:gp no (dS n w)=af:=by
 unfold gp;rw[h];refine iv ⟨⟨λ_=>afR,λ_=>EB afR⟩,?_⟩
 grind [kN,vE]
theorem EF:fl 11=J (1,6):=di
theorem WF:fl 15=J (1,6):=di
theorem OH:fl 39=J (3,2):=di
def awg:fl 48=J (5,400):=di
theorem agK:fl 53=J (1,16):=di
theorem WG:fl 70=J (1,3):=di
def awh:fl 96=J (6,8):=di
theorem agG{v:ai}(h:T v=8):gp 96 v=af:=by
 unfold gp;rw[awh];refine iv ⟨⟨λh=>V,λh=>V⟩,?_⟩;unfold kN
 grind
def aBV{t:O}{l:ab b5}{v:ai}(hl:T l<=100)(a3:T v<=1000)(hf:gp no v=af):k8 ((t,l,()),no,v,())=J ((t,AN l (no,v,()),()),0,()):=by
 rw[Pv (t,l,()) no v (show T l<=100000 by omega) V];obtain⟨k,m,aB,_⟩:=xl.1 hf;unfold Gx
 grind
theorem aBM:∀k:R,k<16->32<=(kf k).toNat/\(kf k).toNat<=126:=di
theorem ayj{b:ai}{c:aN}(h:c∈gI b):32<=c.toNat/\c.toNat<=126:=by
 obtain⟨x,_,aA⟩:=Ua.1 h;have hx:=x.toNat_lt
 grind [aBM]
def ayk{b:ai}:pO 32 126<|gI b:=by
 intro i h
 grind [ayj,J5]
theorem agF{b:ai}(h:T b=3):gp 48 (gI b)=af:=by unfold gp;rw[awg];refine iv ⟨⟨λh=>V,λ_=>ayk⟩,?_⟩;rw[ut,h];decide
def Dd{t:O}{l ik:ab b5}{v:ai}(hl:T l<=100)(a3:T v<=1000)(hf:gp no v=af)(bR:AN l (no,v,())=ik):k8 ((t,l,()),no,v,())=J ((t,ik,()),0,()):=by rw[<- bR];exact aBV hl a3 hf
def akd{n:N}(az:nS n):FC (n,())=J (mC n,()):=by
 obtain⟨lY,c,cI,rs,g,no,k,d,⟨⟩⟩:=n;have gq:=uS.1 az;obtain⟨aA,bX,aT,e9,gK,wl,aB⟩:=gq;have oQ:0<=c/\c<=301:=by unfold nH at aA;omega
 have xb:sm (cI,6,())=J (dS cI 6,()):=J' (n:=cI) (w:=6) V V V V V;have xd:sm (c,3,())=J (dS c 3,()):=J' (n:=c) (w:=3) V V V V V;have xc:sm (rs,2,())=J (dS rs 2,()):=J' (n:=rs) (w:=2) V V V V V;have f11:=λn=>Bw (no:=11) (w:=6) (n:=n) EF V;have f15:=λn=>Bw (no:=15) (w:=6) (n:=n) WF V;have f39:=λn=>Bw (no:=39) (w:=2) (n:=n) OH V;have f53:=λn=>Bw (no:=53) (w:=16) (n:=n) agK V;have f70:=λn=>Bw (no:=70) (w:=3) (n:=n) WG V;have len:∀{n:O} {w:R},w<=20->T (dS n w)<=1000:=λh=>by rw[vE];omega
 have e_:k8 ((810,([]:ab b5),()),11,dS cI 6,())=J ((810,[(11,dS cI 6,())],()),0,()):=Dd (l:=[]) di (len V) (f11 cI) rfl;have fP:k8 ((810,[(11,dS cI 6,())],()),70,dS c 3,())=J ((810,[(11,dS cI 6,()),(70,dS c 3,())],()),0,()):=Dd bP (len V) (f70 c) rfl;unfold FC;cases lY
 .have qt:k8 ((810,[(11,dS cI 6,()),(70,dS c 3,())],()),39,dS rs 2,())=J ((810,[(11,dS cI 6,()),(39,dS rs 2,()),(70,dS c 3,())],()),0,()):=Dd bP (len V) (f39 rs) rfl
  simp only[go_sem,xb,xd,xc,e_,fP,qt];rfl
 by_cases Y:c=101
 .subst Y
  obtain⟨b0,bT,ax,O',a?⟩:=aB;have Wd:sm (g,16,())=J (dS g 16,()):=J' (n:=g) (w:=16) V V V V V;have ex:=afS k V;have zC:T (gI k)=6:=by rw[ut,O']
  have qt:k8 ((800,[(11,dS cI 6,()),(70,dS 101 3,())],()),48,gI k,())=J ((800,[(11,dS cI 6,()),(48,gI k,()),(70,dS 101 3,())],()),0,()):=Dd bP V (agF O') rfl;have an6:k8 ((800,[(11,dS cI 6,()),(48,gI k,()),(70,dS 101 3,())],()),53,dS g 16,())=J ((800,[(11,dS cI 6,()),(48,gI k,()),(53,dS g 16,()),(70,dS 101 3,())],()),0,()):=Dd bP (len V) (f53 g) rfl;have LV:k8 ((800,[(11,dS cI 6,()),(48,gI k,()),(53,dS g 16,()),(70,dS 101 3,())],()),96,no,())=J ((800,[(11,dS cI 6,()),(48,gI k,()),(53,dS g 16,()),(70,dS 101 3,()),(96,no,())],()),0,()):=Dd bP V (agG ax) rfl;simp(disch:=omega) only[go_sem,xb,xd,xc,Wd,ex,e_,fP,qt,an6,LV,zC];rfl
 by_cases ac:c=201
 .subst ac
  rw[aD V,aH ⟨rfl,rfl⟩]at aB;have Bn:sm (d,6,())=J (dS d 6,()):=J' (n:=d) (w:=6) V V V V V;have qt:k8 ((800,[(11,dS cI 6,()),(70,dS 201 3,())],()),15,dS d 6,())=J ((800,[(11,dS cI 6,()),(15,dS d 6,()),(70,dS 201 3,())],()),0,()):=Dd bP (len V) (f15 d) rfl;simp(disch:=omega) only[go_sem,xb,xd,xc,Bn,e_,fP,qt];rfl
 simp only[go_sem,xb,xd,xc,e_,fP,Y,ac,b1 Y,b1 ac];exact aMc
def aEN{n:N}(az:nS n):Rd (n,())=J (mC n,()):=by
 obtain⟨lY,c,cI,rs,g,no,k,d,⟨⟩⟩:=n;have gq:=uS.1 az;obtain⟨aA,bX,aT,e9,gK,wl,aB⟩:=gq;have oQ:0<=c/\c<=301:=by unfold nH at aA;omega
 have xb:oo (cI,6,())=J (dS cI 6,()):=K5 (n:=cI) (w:=6) V V V V V;have xd:oo (c,3,())=J (dS c 3,()):=K5 (n:=c) (w:=3) V V V V V;have xc:oo (rs,2,())=J (dS rs 2,()):=K5 (n:=rs) (w:=2) V V V V V;unfold Rd;cases lY
 .simp(disch:=omega) only[go_sem,xb,xd,xc,gd,gM,d7]
  rfl
 by_cases Y:c=101
 .subst Y
  obtain⟨b0,bT,ax,O',a?⟩:=aB;have Wd:oo (g,16,())=J (dS g 16,()):=K5 (n:=g) (w:=16) V V V V V;have ex:=aDZ k V;have zC:T (gI k)=6:=by rw[ut,O']
  simp(disch:=omega) only[go_sem,xb,xd,xc,Wd,ex,zC,gd,gM,d7];rfl
 by_cases ac:c=201
 .subst ac
  rw[aD V,aH ⟨rfl,rfl⟩]at aB;have Bn:oo (d,6,())=J (dS d 6,()):=K5 (n:=d) (w:=6) V V V V V;simp(disch:=omega) only[go_sem,xb,xd,xc,Bn,gd,gM,d7];rfl
 simp(disch:=omega) only[go_sem,xb,xd,xc,Y,ac,b1 Y,b1 ac,gd,gM,d7];exact aMc
def DZ:=@List.drop_eq_nil_of_le
def acA:=@List.flatMap_cons
def anL:∀{a b:ab O},a.Pairwise (· < ·)->b.Pairwise (· < ·)->(∀n,n∈a↔n∈b)->a=b
 |[],[],_,_,_=>rfl
 |[],y::b,_,_,h=>by have:=(h y).2 bP;cases this
 |x::a,[],_,_,h=>by have:=(h x).1 bP;cases this
 |x::a,y::b,b6,ak,h=>by
  rw[M?]at b6 ak;have azY:x=y:=by
   have Y:=(h x).1 bP;have ac:=(h y).2 bP
   grind
  subst azY;rw[anL b6.2 ak.2 λn => ?_]
  grind
def amd:∀{last:O},ia last l=af->l.Pairwise (· < ·):=by
 induction l with
 |nil=>intros;exact TP
 |cons x r ih =>intro last h;simp only[ia,d5]at h;exact M?.2 ⟨λy bW=>(yo h.2 y bW).1,ih h.2⟩
def aFF:∀{last:O},l.Pairwise (· < ·)->(∀n∈l,last<n/\n<=128/\n≠65)->ia last l=af:=by
 induction l with
 |nil=>intros;rfl
 |cons x r ih=>
  grind [List.pairwise_cons,ia]
def akg(c:ai):((h? c).map Int.ofNat).Pairwise (· < ·):=by rw[List.pairwise_map];refine List.Pairwise.imp ?_<|w7 _ T?;simp
def Cu{c:ai}:n∈h? c↔n<=8*T c/\2<=n/\gQ c n=af:=by
 grind [h?,Nat.le_of_ble_eq_true,Nat.ble_eq_true_of_le]
theorem Nv(h:ia 1 l=af)(Y:1<=n)(ac:n<=8*T (gh l)):gQ (gh l) n=(decide ((n:O)∈l)||(cT n 1&&mo l)):=by
 rw[rR]at ac;unfold gh;cases bR:mo l
 .rw[bR]at ac
  rw[aD bP]at ac ⊢;rw[IP Y ac,Bool.and_false,Ub];rfl
 rw[bR]at ac;rw[aH rfl]at ac ⊢;rw[IP Y ac];unfold nd;refine rH.2 ?_;simp
 grind
def aBY(h:ia 1 l=af):(h?<|gh l).map Int.ofNat=l:=by
 refine anL (akg _) (amd h) λn => ?_;rw[DR];have hm:=yo h;constructor
 .rintro⟨k,aB,rfl⟩
  obtain⟨Y,ac,av⟩:=Cu.1 aB
  grind [Nv,Nat.eq_of_beq_eq_true]
 intro ax;have ak:=hm n ax;refine⟨n.toNat,Cu.2 ⟨?_,V,?_⟩,e8⟩
 .rw[rR]
  split
  .omega
  rename_i bR;have:=J9 h bR n ax;omega
 rw[Nv h V (by
  rw[rR];split
  .omega
  rename_i bR;have:=J9 h bR n ax;omega)]
 grind
def UM(l:ab O):8<=T (gh l)/\T (gh l)<=16:=aMM
theorem aqT(h:ia 1 l=af):gQ (gh l) 1=mo l:=by
 rw[Nv h V (by have:=UM l;omega)];have:decide (((1:R):O)∈l)=ag:=iW λaA=>by have:=(yo h _ aA).1;omega
 rw[this];rfl
theorem aoL(h:ia 1 l=af):mo l=af↔∃n∈l,64<n:=by
 grind [mo,nth_get,List.getElem_mem,J9]
theorem aqQ{c q:ai}(h:ia 1 l=af)(aA:c=gh l++q):mv c a=(l,a+(T (gh l):O),0,()):=by
 have cH:=UM l;have fr:T c=T (gh l)+T q:=by rw[aA,d7]
 have ht:c.take (T<|gh l)=gh l:=by rw[aA,T1]
 have Y:gQ c 1=mo l:=by
  grind [aqT,Xo]
 have ax:=aBY h;have et:=rR l;unfold mv;rw[Y];cases bR:mo l
 .grind
 rw[bR,aH rfl]at et;rw[et]at ht fr ⊢;rw[aD V,aH rfl,ht,ax,aD]
 .rfl
 rintro(axV|hall)
 .have:((65:R):O)∈l:=by rw[<- ax];exact DR.2 ⟨65,axV,rfl⟩
  have:=(yo h _ this).2.2;omega
 grind [aoL]
def aqS{b q:ai}(h:ia 1 l=af)(ee:A<=T b)(ak:b.drop A=gh l++q):ku b A=(l,((A+T (gh l):R):O),0,()):=by
 grind [ku,aqQ]
def aqR{c:ai}{bn:O}(h:mv c a=(l,bn,0,())):ia 1 l=af/\bn=a+(T (gh l):O)/\T (gh l)<=T c/\c=gh l++c.drop (T<|gh l):=by
 unfold mv at h;by_cases aC:T c<8\/(gQ c 1=af/\T c<16)
 .grind
 rw[aD aC]at h;have PN:∀size:R,size=8\/size=16->size<=T c->(gQ c 1=af↔size=16)->l=(h?<|c.take size).map Int.ofNat->(size=16->¬(65∈h? (c.take 16)\/∀n∈h? (c.take 16),n<65))->ia 1 l=af/\gh l=c.take size:=by
  intro size hs Yb Y hl j_;have pC:T (c.take size)=size:=aLJ
  have az:ia 1 l=af:=by
   rw[hl];refine aFF (akg _) λn ax => ?_;obtain⟨k,aB,rfl⟩:=DR.1 ax;obtain⟨b4,cz,dw⟩:=Cu.1 aB
   grind
  have bR:mo l=af↔size=16:=by
   rw[aoL az,hl];constructor
   .rintro⟨n,ax,Y⟩
    obtain⟨k,aB,rfl⟩:=DR.1 ax;obtain⟨b4,_⟩:=Cu.1 aB
    grind
   intro mc;subst mc;refine lI λaA=>j_ rfl<|.inr λn ax=>lI λbK=>aA ⟨(n:O),DR.2 ⟨n,ax,rfl⟩,V⟩
  refine⟨az,?_⟩;have et:T (gh l)=size:=by
   grind [rR]
  refine amo (by rw[et,pC]) λn x2 uG => ?_;rw[Nv az x2 uG];rw[hl];by_cases r8:n=1
  .subst r8
   have a?:decide (((1:R):O)∈(h?<|c.take size).map Int.ofNat)=ag:=iW λaA=>by
    obtain⟨k,aB,qc⟩:=DR.1 aA;have:=(Cu.1 aB).2.1
    grind
   rw[a?,Xo V V Yb,<- hl];exact rH.2<|bR.trans Y.symm
  have ak:cT n 1=ag:=(w3 _).mp λak=>r8<|iM ak;rw[ak,D3,Ub];refine rH.2 ?_;rw[lH,DR];constructor
  .rintro⟨k,aB,qc⟩
   have:k=n:=by simp at qc;omega
   subst this;exact(Cu.1 aB).2.2
  intro hh;exact⟨n,Cu.2 ⟨by rw[pC];omega,V,hh⟩,rfl⟩
 by_cases Y:gQ c 1=af
 .rw[aH Y]at h
  by_cases j_:65∈h? (c.take 16)\/∀n∈h? (c.take 16),n<65
  .rw[aH j_]at h;simp at h
  rw[aD j_]at h;simp at h;have mc:16<=T c:=by refine lI λaA=>aC<|.inr ⟨Y,V⟩
  obtain⟨e9,gK⟩:=PN 16 (.inr rfl) mc (iff_of_true Y rfl) h.1.symm<|λ_=>j_;have et:T (gh l)=16:=by rw[gK,jl];omega
  rw[et];refine⟨e9,h.2.symm,mc,?_⟩;rw[gK,ML]
 rw[aD Y]at h;simp at h;obtain⟨e9,gK⟩:=PN 8 (.inl rfl) V (iff_of_false Y V) h.1.symm<|λe=>ev e V;have et:T (gh l)=8:=by rw[gK,jl];omega
 rw[et];refine⟨e9,h.2.symm,V,?_⟩;rw[gK,ML]
def aoT{v:b5}{l:O}(bg:fl v.1=J (k,l))(a3:hU k l v.2.1):gT v=lF k v.2.1:=by
 grind [gT,rB]
def aDJ{v:b5}{b q:ai}(hf:gp v.1 v.2.1=af)(ee:A<=T b)(h:b.drop A=gT v++q):ki v.1 b A=(v.2.1,((A+T (gT v):R):O),0,()):=by
 obtain⟨k,l,bg,a3⟩:=xl.1 hf;rw[aoT bg a3]at h ⊢
 grind [ki,aDL]
def aDK{v b:ai}{I:O}(ee:A<=T b)(h:ki no b A=(v,I,0,())):gp no v=af/\I=((A+T (gT (no,v,())):R):O)/\A+T (gT (no,v,()))<=T b/\b.drop A=gT (no,v,())++b.drop (A+T (gT (no,v,()))):=by
 cases bg:fl no with
 |none=>unfold ki at h;rw[bg]at h;simp at h
 |some p=>
  obtain⟨k,l⟩:=p;have ce:wo k l b A=(v,I,0,()):=by unfold ki at h;rw[bg]at h;exact h
  obtain⟨b',cN,hD,xZ⟩:=aDM bg ee ce;rw[aoT (v:=(no,v,())) bg b'];exact⟨xl.2 ⟨k,l,bg,b'⟩,cN,hD,xZ⟩
def ali{b:ai}:∀{l:ab b5} {A:R} {F:ab b5} {q:ai},(∀v∈l,gp v.1 v.2.1=af)->A<=T b->b.drop A=l.flatMap gT++q->rm b (io l) A F=(aq,((A+T (l.flatMap gT):R):O),F++l)
 |[],A,F,q,_,_,_=>by simp[rm,io]
 |v::r,A,F,q,hf,ee,h=>by rw[acA,kL]at h;have Y:=aDJ (hf v bP) ee h;have ac:=Ep ee h;simp only[io,A1,rm];rw[Y];have:=ali (F:=F++[(v.1,v.2.1,())]) (λu bq=>hf u<|by grind) ac.1 ac.2;simp_all[io,l3]
def alj{b:ai}:∀{P5:ab O} {A:R} {F yE:ab b5} {bn:O},A<=T b->rm b P5 A F=(aq,bn,yE)->∃l:ab b5,yE=F++l/\io l=P5/\(∀v∈l,gp v.1 v.2.1=af)/\bn=((A+T (l.flatMap gT):R):O)/\A+T (l.flatMap gT)<=T b/\b.drop A=l.flatMap gT++b.drop (A+T (l.flatMap gT))
 |[],A,F,yE,bn,ee,h=>by obtain⟨rfl,rfl⟩:=h;exact⟨[],bP,rfl,bP,bP,by simpa using ee,bP⟩
 |n::r,A,F,yE,bn,ee,h=>by
  simp only[rm]at h;by_cases aC:(ki n b A).2.2.1=0
  .rw[aH aC]at h
   rcases hx:ki n b A with⟨v,I,e,u⟩;rw[hx]at aC h;subst aC;obtain⟨b',cN,hD,xZ⟩:=aDK ee hx;subst cN;obtain⟨l,gZ,iE,zM,JM,aAR,YI⟩:=alj hD h;refine⟨(n,v,())::l,by rw[gZ];simp,by simp only[io];rw[<- iE];rfl,λw bR => ?_,?_,?_,?_⟩
   .grind
   .grind
   .grind
   grind
  grind
def aFC{l:ab b5}:∀{last:O},ia last (io l)=af->(∀v∈l,gp v.1 v.2.1=af)->ip last l=af:=by
 induction l with
 |nil=>intros;rfl
 |cons x r ih=>
  grind [io,ia,ip]
def aFD{l:ab b5}{ajm:O}(hl:ajm<=last)(h:ip last l=af):ip ajm l=af:=by
 cases l with
 |nil=>rfl
 |cons x r=>
  grind [ip]
def alh{b:ai}:∀{P5:ab O} {A:O} {F yE:ab b5} {bn e:O},rm b P5 A F=(J e,bn,yE)->¬e=0
 |[],A,F,yE,bn,e,h=>by simp[rm]at h
 |n::r,A,F,yE,bn,e,h=>by
  simp only[rm]at h;by_cases aC:(ki n b A).2.2.1=0
  .rw[aH aC]at h;exact alh h
  rw[aD aC]at h;simp only[mV,jN]at h;rw[<- h.1];exact aC
def aHH(h:h2 m):val (bE 10 g4 m.toNat 4)=m.toNat:=by
 grind [h2,aoH]
def aHi{b q:ai}(h:h2 m)(ak:b=tO m++q):jg b 0 4=(bE 10 g4 m.toNat 4,2,0,()):=by
 have:=abD (b:=b) (s:=bE 10 g4 m.toNat 4) (q:=q) (I:=0) (ea _) aOf Bv ak
 grind [mj]
def aAz{l:ab b5}(h:∀v∈l,gp v.1 v.2.1=af):∀n∈io l,(fl n).isSome=af:=by
 intro n ax;obtain⟨v,a3,rfl⟩:=DR.1 ax;obtain⟨k,l,bg,_⟩:=xl.1<|h v a3
 grind
def qo{m:M}:iJ m=af↔ip 0 m.2.1=af/\h2 m.1:=by unfold iJ;rw[d5,lH]
def aDO{m:M}{q:ai}(h:iJ m=af):gc (iu m++q)=if q=[]then(m,0,()) else(oi,4,()):=by
 obtain⟨dY,ht⟩:=qo.1 h;have iS:=λv a3=>(tH dY v a3).2;have hL:=R2 dY;have e:iu m++q=tO m.1++(gh (io m.2.1)++(m.2.1.flatMap gT++q)):=by unfold iu;simp
 generalize ak:iu m++q=b at *
 have aJ:=aHi ht e;have pC:=AG (m:=m.1);have a?:=Ep (b:=b) (A:=0) (ea _) e;rw[ pC]at a?;have az:=aqS hL a?.1 a?.2;have zr:=Ep a?.1 a?.2;have r3:=ali (F:=[]) iS zr.1 zr.2;have aII:=Ep zr.1 zr.2;unfold gc;rw[aJ,aD bP];rw[aHH ht,Int.toNat_of_nonneg (by unfold h2 at ht;omega),aH ht];replace az:ku b 2=_:=az;rw[az,aD bP];unfold F0;rw[aH<|aAz iS,r3]
 grind
theorem Ku{b:ai}{m:M}(h:gc b=(m,0,())):iJ m=af/\iu m=b:=by
 unfold gc at h;by_cases aC:(jg b 0 4).2.2.1≠0
 .grind
 rw[aD aC]at h;rcases wI (b:=b) (I:=0) (N:=4) (ea _) V with⟨_,e⟩|⟨_,e,_⟩|⟨s,aJ,e,hf,hs,xQ⟩
 .grind
 .grind
 replace e:jg b 0 4=(s,2,0,()):=e;rw[e]at h;by_cases ht:h2 (val s:O)
 .rw[aH ht]at h
  have Ye:tO (val s:O)=hO (fo s):=by unfold tO;rw[ie,<- hs,akY hf]
  have a?:b.drop 0=tO (val s:O)++b.drop 2:=by rw[Ye];exact Oc xQ
  rw[vi]at a?;by_cases bN:(ku b 2).2.2.1≠0
  .grind
  rw[aD bN]at h;rcases hx:ku b 2 with⟨l,bn,ps,u⟩;rw[hx]at h bN;simp at bN h;subst bN;have dc:mv (b.drop 2) 2=(l,bn,0,()):=by
   grind [ku]
  obtain⟨c1,c2,fK,lK⟩:=aqR dc;rw[dV]at fK;rw[Hc]at lK;unfold F0 at h;by_cases bg:∀n∈l,(fl n).isSome=af
  .rw[aH bg]at h
   have Xn:bn=((2+T (gh l):R):O):=V;rw[Xn]at h;rcases r3:rm b l ((2+T (gh l):R):O) []with⟨_|ps,dl,F⟩
   .rw[r3]at h
    simp only at h;obtain⟨L,gZ,iE,zM,JM,aAR,YI⟩:=alj V r3;by_cases bK:dl<(T b:O)
    .grind
    rw[aD bK]at h;simp at h;subst gZ;have dh:b.drop (2+T (gh l)+T (F.flatMap gT))=[]:=DZ V;rw[dh,g?]at YI;rw[<- h];refine⟨qo.2 ⟨aFD V<|aFC (last:=1) (by rw[iE];exact c1) zM,ht⟩,?_⟩;unfold iu;rw[iE,<- YI,<- lK,<- a?]
   rw[r3]at h;simp at h;exact ev h.2<|alh r3
  rw[aD bg]at h;simp at h
 rw[aD ht]at h;simp at h
def aDN{b:ai}:(gc b).2.1=0\/(gc b).1=oi:=by
 grind [gc,F0]
def Hb:=@List.filter_eq_nil_iff
def Hj:=@List.drop_succ_cons
def kx(m:M):Prop:=T m.2.1<=40/\∀v∈m.2.1,T v.2.1<=450
def kx.ud{m:M}(h:kx m):ud m:=⟨by have:=h.1;omega,λv a3=>by have:=h.2 v a3;omega⟩
def aab{b:ai}:(gc b).1.2.1.length<=1000:=by
 rcases aDN (b:=b) with h|h
 .rcases hx:gc b with⟨m,e,u⟩
  rw[hx]at h;subst h;have az:=(qo.1 (Ku hx).1).1;have hL:=R2 az;have hs:=amd hL;have hm:=yo hL;have cP:T (io m.2.1)<=128:=by
   have key:∀(l:ab O) (lo:O),l.Pairwise (· < ·)->(∀n∈l,lo<n/\n<=128)->(T l:O)<=128-lo\/l=[]:=by
    intro l;induction l with
    |nil=>intros;exact aOU
    |cons x r ih=>
     intro lo hp h;rw[M?]at hp;have hx:=h x bP;rcases ih x hp.2 (λn ax=>⟨hp.1 n ax,(h n<|by grind).2⟩) with Y|Y
     .grind
     grind
   rcases key _ 1 hs (λn ax=>⟨(hm n ax).1,(hm n ax).2.1⟩) with Y|Y
   .omega
   grind
  grind [io]
 rw[h];simp[oi]
def aFA{l:ab b5}(h:ip last l=af):∀v∈l,last<v.1:=λv a3=>(tH h v a3).1
def awO{l:ab b5}(hl:no<=last)(h:ip last l=af):g7 no l=([],ag,()):=by
 induction l generalizing last with
 |nil=>rfl
 |cons v r ih=>
  grind [ip,g7]
theorem WU{l:ab b5}:∀{last:O},ip last l=af->getD l no=g7 no l:=by
 induction l with
 |nil=>intros;rfl
 |cons v r ih=>
  intro last h;simp only[ip,d5,lH]at h;unfold g7;by_cases aA:no<=v.1
  .have aC:hS no (v::r)=0:=by unfold hS;rw[aH aA]
   have Y:kP no (v::r)=decide (v.1=no):=by unfold kP;rw[aH aA]
   unfold getD;rw[aC,Y];by_cases aX:v.1=no
   .rw[aH aX,iv aX,aH rfl];rfl
   rw[aD aX,iW aX,aD bP,awO V h.2.2]
  have aC:hS no (v::r)=hS no r+1:=aMa
  have Y:kP no (v::r)=kP no r:=aMb
  rw[aD V,<- ih h.2.2];unfold getD;rw[aC,Y];rfl
def agw{l:ab b5}(hl:no<=last)(h:ip last l=af):l.filter (λv=>decide (v.1<no))=[]/\l.filter (λv=>decide (no<v.1))=l/\l.filter (λv=>!(decide (v.1=no)))=l:=by have hg:=aFA h;refine⟨Hb.2 λv a3 => ?_,List.filter_eq_self.2 λv a3 => ?_,List.filter_eq_self.2 λv a3 => ?_⟩<;>have:=hg v a3<;>simp<;>omega
def aHS{l:ab b5}{x:b5}:∀{last:O},ip last l=af->AN l x=uX l x:=by
 induction l with
 |nil=>intros;rfl
 |cons v r ih=>
  intro last h;simp only[ip,d5,lH]at h;by_cases aA:x.1<=v.1
  .have aC:hS x.1 (v::r)=0:=by unfold hS;rw[aH aA]
   have Y:kP x.1 (v::r)=decide (v.1=x.1):=by unfold kP;rw[aH aA]
   obtain⟨f1,f2,_⟩:=agw (no:=x.1) aA h.2.2;unfold AN uX;rw[aC,Y];by_cases aX:v.1=x.1
   .rw[iv aX,aH rfl,A5 e8,A5 e8,f1,f2];rfl
   rw[iW aX,aD bP,A5 e8,TZ e8,f1,f2];rfl
  have aC:hS x.1 (v::r)=hS x.1 r+1:=aMa
  have Y:kP x.1 (v::r)=kP x.1 r:=aMb
  have az:=ih h.2.2;unfold AN uX at az ⊢;rw[aC,Y,TZ e8,A5 e8];cases hh:kP x.1 r
  .rw[hh,aD bP]at az
   rw[aD bP];simp only[List.take_succ_cons,Hj,sN,az]
  rw[hh,aH rfl]at az;rw[aH rfl];simp only[List.take_succ_cons,Hj,sN,az]
theorem aDP{m:M}(az:iJ m=af):gc (iu m)=(m,0,()):=by
 have:=aDO (q:=[]) az
 grind
theorem Y_{n:N}(az:nS n):iJ (mC n)=af:=by
 obtain⟨lY,c,cI,rs,g,no,k,d,⟨⟩⟩:=n;have gq:=uS.1 az
 grind [Bw,EF,WF,OH,agK,WG,mC,iJ,ip,h2,agF,agG]
def Y9{n:N}(az:nS n):kx<|mC n:=by
 obtain⟨lY,c,cI,rs,g,no,k,d,⟨⟩⟩:=n;have gq:=uS.1 az
 grind [mC,kx,vE,ut]
def l0(n:N):ai×O×aj:=if nS n then(iu<|mC n,0,()) else([],1,())
theorem P3(n:N):ra (n,())=J (l0 n):=by
 unfold ra l0;by_cases h:nS n
 .simp only[go_sem,Zi,bS h,akd h,Yz (mC n) (Y9 h).ud,Y_ h]
  grind
 simp only[go_sem,Zi,b1 h]
 grind
def aaw(n:N):Gd (n,())=J (l0 n):=by
 unfold Gd l0;by_cases h:nS n
 .simp only[go_sem,alK,bS h,aEN h,QO (mC n) (Y9 h).ud,Y_ h]
  grind
 simp only[go_sem,alK,b1 h]
 grind
def x5:N:=(ag,0,0,0,0,[],[],0,())
def Hw(n:N)(r:O):N×O×aj:=if n.1=ag then(x5,9,()) else if r<0\/99<r then(x5,1,()) else((ag,n.2.1,n.2.2.1,r,0,[],[],0,()),0,())
theorem P2(n:N)(r:O):sk (n,r,())=J (Hw n r):=by
 obtain⟨c9,dl,dB,fp,mu,aIn,yW,aIo,⟨⟩⟩:=n;unfold sk Hw x5;cases c9<;>by_cases h:r<0\/99<r
 all_goals simp only[go_sem,h]
 all_goals simp[h]
def aEM(n:N)(r:O):aav (n,r,())=J (Hw n r):=P2 n r
def wN(v:ai):O:=if 1<=T v/\T v<=18/\gX v then((val v:R):O) else 0
def L8(s:ai):ai:=if T s%2=0/\I2 s then o7 s else[]
def mb(m:M)(no:O):ai:=(g7 no m.2.1).1
def TA(p:Prop)[hu p]:D p=decide p:=by unfold D;congr
def rn(m:M):N:=(decide (m.1=800),wN<|mb m 70,wN<|mb m 11,wN<|mb m 39,wN<|mb m 53,mb m 96,L8<|mb m 48,wN<|mb m 15,())
def nf(b:ai):N×O×aj:=if(gc b).2.1=0 then(if nS (rn (gc b).1)/\mC (rn (gc b).1)=(gc b).1 then(rn (gc b).1,0,()) else(x5,2,())) else(x5,(gc b).2.1,())
def awP{l:ab b5}:(g7 no l).1=[]\/∃v∈l,v.1=no/\(g7 no l).1=v.2.1:=by
 induction l with
 |nil=>exact aKB
 |cons v r ih=>
  unfold g7
  grind
def awo{l:O}(h:fl no=J (k,l)):l<=400:=by
 unfold fl at h;rw[ns]at h;have:∀r∈ui,ap r 1 0<=400:=di
 grind
def WC{v:ai}(h:gp no v=af):T v<=400:=by
 obtain⟨k,l,Y,ac⟩:=xl.1 h;have:=awo Y;have av:=ac.2
 grind [kN]
def WW{m:M}(az:iJ m=af)(no:O):(g7 no m.2.1).1.length<=400:=by
 rcases awP (l:=m.2.1) (no:=no) with h|⟨v,a3,_,h⟩
 .grind
 rw[h];exact WC (tH (qo.1 az).1 v a3).2
def L?(s:ai):∃e,vH (s,())=J (wN s,e,()):=by rw[Wa];unfold wN;split<;>exact⟨_,rfl⟩
def aGd(s:ai)(hl:T s<=1000000):∃e,F1 (s,())=J (wN s,e,()):=by rw[aag _ hl];unfold wN;split<;>exact⟨_,rfl⟩
def aHC(s:ai)(hl:T s<=1000000):∃e,H5 (s,())=J (L8 s,e,()):=by rw[avc _ hl];unfold L8;split<;>exact⟨_,rfl⟩
def aGc(s:ai)(hl:T s<=1000000):∃e,KD (s,())=J (L8 s,e,()):=by rw[aD0 _ hl];unfold L8;split<;>exact⟨_,rfl⟩
def akb(b:ai)(hl:T b<=1000000):FB (b,())=J (nf b):=by
 unfold FB nf;refine aW (Yy b hl) ?_;by_cases aC:(gc b).2.1=0
 .obtain⟨m,hm⟩:∃m,gc b=(m,0,()):=⟨(gc b).1,by rw[<- aC]⟩
  obtain⟨az,bR⟩:=Ku hm;have r7:=aab (b:=b);rw[hm]at r7 ⊢;have hf:=(qo.1 az).1;have g:∀no,sb (m,no,())=J (g7 no m.2.1):=λno=>by rw[Yx m no (by simp only at r7;omega),WU hf]
  have gl:=WW az;obtain⟨e1,aoG⟩:=L?<|mb m 70;obtain⟨bh,aoC⟩:=L?<|mb m 11;obtain⟨ei,aoE⟩:=L?<|mb m 39;obtain⟨hQ,aoF⟩:=L?<|mb m 53;obtain⟨rV,aoD⟩:=L?<|mb m 15;obtain⟨Od,L6⟩:=aHC (mb m 48) (by have:=gl 48;unfold mb;omega);unfold mb at aoG aoC aoE aoF aoD L6;simp(disch:=first|assumption|omega|(dsimp only;omega)|decide) only[go_sem,Int.reduceToNat,g,aoG,aoC,aoE,aoF,aoD,L6,Zi];rw[TA<|m.1=800];show aa (D<|¬nS (rn m)) (J (x5,2,())) (ob (FC (rn m,())) λUl=>ob (JA (Ul.1,m,())) λUm=>aa (a2 Um.1) (J (x5,2,()))<|some (rn m,0,()))=_;by_cases ax:nS<|rn m
  .rw[b1<|λh=>h ax]
   have hs:=aAD (mC<|rn m) m (by have:=(Y9 ax).1;omega);simp(disch:=first|assumption|omega|(dsimp only;omega)|decide) only[go_sem,Int.reduceToNat,akd ax,hs];by_cases aX:mC (rn m)=m
   .rw[aH ⟨ax,aX⟩,b1<|λh=>h aX];rfl
   rw[aD<|λh=>aX h.2,bS aX];rfl
  rw[aD<|λh=>ax h.1,bS ax];rfl
 exact aLz
def aEO{m:M}(az:iJ m=af)(hl:T m.2.1<=1000)(no:O):Ae (m,no,())=J (wN<|mb m no,()):=by unfold Ae mb;obtain⟨e,aX⟩:=aGd (g7 no m.2.1).1 (by have:=WW az no;omega);have hg:=QL m no V;simp only[go_sem,hg,aX]
theorem acd{b:ai}{m:M}{n:N}(hm:gc b=(m,0,()))(ax:nS n):iu (mC n)=b↔mC n=m:=by
 grind [Ku,aDP,Y_]
def alJ(b:ai)(hl:T b<=1000000):K4 (b,())=J (nf b):=by
 unfold K4 nf;refine aW (aap b hl) ?_;by_cases aC:(gc b).2.1=0
 .obtain⟨m,hm⟩:∃m,gc b=(m,0,()):=⟨(gc b).1,by rw[<- aC]⟩
  obtain⟨az,bR⟩:=Ku hm;have r7:=aab (b:=b);rw[hm]at r7 ⊢;have r7:T m.2.1<=1000:=r7;have g:∀no,yh (m,no,())=J (g7 no m.2.1):=λno=>QL m no V;have gl:=WW az;have ake:=aEO az r7;obtain⟨Od,L6⟩:=aGc (mb m 48) (by have:=gl 48;unfold mb;omega);unfold mb at L6 ake;simp(disch:=first|assumption|omega|(dsimp only;omega)|decide) only[go_sem,Int.reduceToNat,g,ake,L6,aaw,pM];rw[TA<|m.1=800];show aa (D<|¬(l0<|rn m).2.1=0\/¬(l0<|rn m).1=b) (J (x5,2,())) (J (rn m,0,()))=_;unfold l0;by_cases ax:nS<|rn m
  .rw[aH ax]
   by_cases aX:mC (rn m)=m
   .rw[aH ⟨ax,aX⟩,b1<|λh=>h.elim (λh=>h rfl)<|λh=>h<|(acd hm ax).2 aX];rfl
   rw[aD<|λh=>aX h.2,bS<|.inr λh=>aX<|(acd hm ax).1 h];rfl
  rw[aD ax,aD<|λh=>ax h.1,bS<|.inl di];rfl
 exact aLz
theorem aGw{v x:b5}{r:ab b5}(h:ip v.1 r=af):uX (v::r) x=if v.1<x.1 then v::uX r x else if v.1=x.1 then x::r else x::v::r:=by
 unfold uX;by_cases Y:v.1<x.1
 .grind
 obtain⟨f1,f2,_⟩:=agw (no:=x.1) V h
 grind
def aGx{l:ab b5}{x:b5}(hx:gp x.1 x.2.1=af):∀{last:O},last<x.1->ip last l=af->ip last (uX l x)=af:=by
 induction l with
 |nil=>intro last Y _;simp[uX,ip,Y,hx]
 |cons v r ih=>
  grind [ip,aGw]
theorem aH5{v:b5}(h:gp v.1 v.2.1=af):T (gT v)<=T v.2.1+2:=by
 obtain⟨k,l,Y,ac⟩:=xl.1 h;unfold gT rB;rw[Y];simp only[aH ac];rw[acc (qW Y).1]
 grind
def aH3{m:M}(az:iJ m=af):T (iu m)<=18+(m.2.1.map<|λv=>T v.2.1+2).sum:=by
 have dY:=(qo.1 az).1;have ac:=AG (m:=m.1);have cH:=UM<|io m.2.1;have k6:∀l:ab b5,(∀v∈l,gp v.1 v.2.1=af)->T (l.flatMap gT)<=(l.map<|λv=>T v.2.1+2).sum:=by
  intro l;induction l with
  |nil=>simp
  |cons v r ih=>
   grind [aH5]
 have:=k6 m.2.1 λv a3=>(tH dY v a3).2;unfold iu
 grind
def alk(b:ai):(∃n,nf b=(n,0,())/\nS n/\iu (mC n)=b)\/∃e,¬e=0/\nf b=(x5,e,()):=by
 grind [nf,acd]
def yN:=@BitVec.eq_of_toNat_eq
def MG:=@Nat.not_lt_zero
def Ny(c:aN):jv 8 (aV c)=c.toBitVec:=by unfold aV;simp
def Ea(c:b_):jv 32 (aY c)=c.toBitVec:=by unfold aY;simp
def aoA(v:BitVec 8):u8 (v.toNat:O)=⟨v⟩:=by apply UInt8.toBitVec_inj.1;show BitVec.ofNat 8 (((v.toNat:O)%2^8).toNat)=v;apply yN;simp;omega
def abT(v:BitVec 32):u32 (v.toNat:O)=⟨v⟩:=by apply UInt32.toBitVec_inj.1;show BitVec.ofNat 32 (((v.toNat:O)%2^32).toNat)=v;apply yN;simp;omega
def aCF(a b:aN):u8 (hG .u8 (aV a)<|aV b)=a|||b:=by show u8 (((jv 8 (aV a)|||BitVec.ofInt 8 (aV b)).toNat:R):O)=_;rw[Ny,Ny,aoA];rfl
def acg(a b:aN):u8 (em .u8 (aV a)<|aV b)=a^^^b:=by show u8 (((jv 8 (aV a)^^^jv 8 (aV b)).toNat:R):O)=_;rw[Ny,Ny,aoA];rfl
theorem FJ(a b:b_):u32 (hG .u32 (aY a)<|aY b)=a|||b:=by show u32 (((jv 32 (aY a)|||BitVec.ofInt 32 (aY b)).toNat:R):O)=_;rw[Ea,Ea,abT];rfl
theorem Tr(a b:b_):u32 (em .u32 (aY a)<|aY b)=a^^^b:=by show u32 (((jv 32 (aY a)^^^jv 32 (aY b)).toNat:R):O)=_;rw[Ea,Ea,abT];rfl
theorem ac0(a b:b_):u32 (hz .u32 (aY a)<|aY b)=a&&&b:=by show u32 (((jv 32 (aY a)&&&jv 32 (aY b)).toNat:R):O)=_;rw[Ea,Ea,abT];rfl
theorem aBE{c:aN}:aV c=aV (u8 0)↔c=0:=by
 constructor
 .intro h
  have ac:(c.toNat:O)=0:=h;exact wX.1 (by show c.toNat=0;omega)
 rintro rfl;rfl
def uK(a b:ai):R->aN
 |0=>0
 |i+1=>uK a b i|||(a.getD i 0^^^b.getD i 0)
theorem akB(a b:ai):∀i,uK a b i=0↔∀j,j<i->a.getD j 0=b.getD j 0
 |0=>⟨λ_ j h=>ev h<|MG j,λ_=>rfl⟩
 |i+1=>by
  have ih:=akB a b i;have key:(uK a b i|||(a.getD i 0^^^b.getD i 0))=0↔uK a b i=0/\a.getD i 0=b.getD i 0:=bP
  grind [uK]
def PM(a b:ai)(hl:T a<=9223372036854775807):Fs (a,b,())=J (seq a b,()):=by
 by_cases h:T a=T b
 .refine a8 b2 ?_
  generalize hf:(λ(ae:aN×O×aj)=>_)=f;have step:∀i,i<T a->f (uK a b i,(i:O),())=J (.nx (uK a b<|i+1,((i+1:R):O),())):=by intro i ao;subst hf;have e1:ap a (ah (i:O)) (u8 0)=a.getD i 0:=rfl;have bh:ap b (ah (i:O)) (u8 0)=b.getD i 0:=rfl;refine bA b2<|a7 b2<|a7 b2 ?_;rw[e1,bh,acg,aCF,show i64 (aG (i:O) 1)=((i+1:R):O) by simp(disch:=omega) only[go_sem]<;>omega];rfl
  have dh:f (uK a b<|List.length a,(T a:O),())=J (.ex 0 (uK a b<|List.length a,(T a:O),())):=by subst hf;exact bf b2
  have dU:bG f (u8 0,0,())=J (.ex 0 (uK a b<|List.length a,(T a:O),())):=by have:=gS (f:=f) (λi=>(uK a b i,(i:O),())) (T a) step 0<|ea _;exact this.trans<|dr dh
  rw[dU];refine a7 g62 ?_
  grind [am,seq,aBE,akB,List.ext_getElem]
 refine bA b2 ?_;rw[C?<|λe=>h<|congrArg T e]
end Yp
namespace Yp
open Go Go.Proofs Go.RowKit Go.Shelf
attribute [local go_sem] Oper.semAt_some
def ayF{res:R->aE}{k:R}(aB:k<=n)(h:ka res n=[]):ka res k=[]:=by
 unfold ka at h ⊢;rw[Hb]at h ⊢
 grind
set_option maxRecDepth 100000 in
set_option maxHeartbeats 4000000 in
def axF(mX off cap b:R)(ad:au Addr)(v3 vO:aE)(vu:au Addr)(Fz an:R)(vq:au Addr)(uH Ed:R)(cf:R->aS×aS)(res:R->aE)(jo:∀j,∃a n c bn n' dj,cf j=(.slice a n c,.slice bn n' dj))(fE:mX<=9223372036854775807)(m:R)(w:bu)
  (ak:0<mX->ad=J ⟨b,off,aq⟩/\b<w.heap.size)
  (oQ:∀j,j<mX->w.cell? ⟨b,off+j*2,aq⟩=J (cf j).1) (uq:∀j,j<mX->w.cell? ⟨b,off+j*2+1,aq⟩=J (cf j).2)
  (Xd:∀j,j<mX->∀n w',Below w.heap.size w w'->CallsIn Fence.wide n Tryz.prog 403 #[.agg #[.slice vu Fz an,.slice vq uH Ed],.agg #[(cf j).1,(cf j).2]] w' λe Mb=>e=.returned (.bool<|res j)/\Below w'.heap.size w' Mb) :
  CallsIn Fence.wide (m+3) Tryz.prog 319 #[.agg #[.bool v3,.slice ad mX cap,.bool vO],.slice vu Fz an,.slice vq uH Ed] w λe w'=>e=.returned (.bool<|ka res mX != [])/\Below w.heap.size w w':=by
 have aI0:Fence.wide.fn 404:=trivial;refine callsIn_of_wp_marks Tryz.func319 rfl trivial ?_ rfl;simp only[Tryz.ntmps319,qI,gd,gM,Nat.reduceAdd,Nat.reduceSub,t0,vc,vg,vd,n0,sN]
 gi_wp2_with (gi_at_call 404;refine(aws _ _ _ _ _ _ rfl).mono ?_;rintro e w' ⟨rfl,rfl⟩)
 have fx:=Boxed.new (w.alloc<|.cells #[.bool v3,.slice ad mX cap,.bool vO] 53) 4<|.bool ag;have e7:=Boxed.new ((w.alloc<|.cells #[.bool v3,.slice ad mX cap,.bool vO] 53).alloc<|.cells #[.bool ag] 4) 51<|.slice ad mX cap;have kr:=Boxed.new (((w.alloc<|.cells #[.bool v3,.slice ad mX cap,.bool vO] 53).alloc<|.cells #[.bool ag] 4).alloc<|.cells #[.slice ad mX cap] 51) 431<|.func (.func 403) #[.agg #[.slice vu Fz an,.slice vq uH Ed]] #[];simp only[World.size_alloc]at fx e7 kr;obtain⟨h3,oT⟩:∃h3,h3=((((w.alloc<|Obj.cells #[Value.bool v3,Value.slice ad mX cap,Value.bool vO] 53).alloc<|Obj.cells #[Value.bool ag] 4).alloc<|Obj.cells #[Value.slice ad mX cap] 51).alloc<|Obj.cells #[Value.func (Fn.func 403) #[Value.agg #[Value.slice vu Fz an,Value.slice vq uH Ed]] #[]] 431):=⟨_,rfl⟩;have aqq:Boxed h3 (w.heap.size+1) 4<|.bool ag:=by rw[oT];exact(fx.alloc _).alloc _
 have aqr:Boxed h3 (w.heap.size+1+1) 51<|.slice ad mX cap:=by rw[oT];exact e7.alloc _
 have aqs:Boxed h3 (w.heap.size+1+1+1) 431<|.func (.func 403) #[.agg #[.slice vu Fz an,.slice vq uH Ed]] #[]:=by rw[oT];exact kr
 have O0:Below w.heap.size w h3:=by rw[oT];exact((((Below.refl _ w).alloc (cx _) _).alloc bP _).alloc e8 _).alloc e8 _
 have azv:h3.heap.size=w.heap.size+1+1+1+1:=by rw[oT];simp
 rw[<- oT];clear fx e7 kr;refine wpIn_rangeFunc_ownG (w0:=h3) rfl V (gf:=441) (lb:=#[.pointer<|some ⟨w.heap.size+1+1,0,aq⟩,.pointer<|some ⟨w.heap.size+1+1+1,0,aq⟩]) rfl trivial (enters_of Tryz.func441 BY rfl)
   (encs:=λx:R=>#[.int .i64 (x:O)]) (Kp:=Below h3.heap.size) (S:=λbZ=>bZ=ka res mX) (Sp:=λpre=>∃k,k<=mX/\pre=ka res k) (N:=mX)
   ?seq ?kt ?kb (Below.refl _ _) (λ_=>rfl)
   (λpre W=>(pre=[]/\Boxed W (w.heap.size+1) 4 (.bool ag))/\Below w.heap.size w W)
   (λc pre W=>((c=.ret/\pre≠[])/\Boxed W (w.heap.size+1) 4 (.bool af))/\Below w.heap.size w W)
   (OwnFrom.and (OwnFrom.and (ownFrom_pure _ _)<|Own.from (boxed_own (w.heap.size+1) 4<|λ_=>.bool ag) _)<|ownFrom_below (cx _) V)
   (λc=>OwnFrom.and (OwnFrom.and (ownFrom_pure _ _)<|Own.from (boxed_own (w.heap.size+1) 4<|λ_=>.bool af) _)<|ownFrom_below (cx _) V)
   ?start ?c9 ?assign ?body ?done ?stop
 case assign=>
  intro l x W K gz
  gi_wp2
  exact gz
 case seq=>
  intro l iX t1 W hW m7 ahu xt aC;refine(awr (m+1) l (w.heap.size+1+1) (w.heap.size+1+1+1) h3.heap.size b off cap mX ad (.slice vu Fz an) (.slice vq uH Ed) cf res jo fE (λh=>⟨(ak h).1,by have:=(ak h).2;omega⟩) iX t1 (λs t5 Hu hs ak=>m7 s t5 Hu aq hs ⟨ak.os,ak.tape,ak.output,ak.size,λk aB _=>ak.block k aB⟩<|λr e=>by cases e) (λpre x t5 aF _ _ hl=>xt pre x t5 aF hl) W ?_ ?_ V V hW.size (λj aF => ?_) (λj aF => ?_) (λj aF w' BZ => ?_) aC).mono ?_
  .exact(hW.cell (p:=⟨w.heap.size+1+1,0,aq⟩) e8).trans aqr.cell
  .exact(hW.cell (p:=⟨w.heap.size+1+1+1,0,aq⟩) e8).trans aqs.cell
  .have et:=(ak V).2
   exact(hW.cell (p:=⟨b,off+j*2,aq⟩) e8).trans<|(O0.cell (p:=⟨b,off+j*2,aq⟩) et).trans (oQ j aF)
  .have et:=(ak V).2
   exact(hW.cell (p:=⟨b,off+j*2+1,aq⟩) e8).trans<|(O0.cell (p:=⟨b,off+j*2+1,aq⟩) et).trans (uq j aF)
  .exact Xd j aF _ _ (O0.trans<|(hW.trans BZ).mono V)
  rintro e gO ⟨aX,h⟩;exact⟨aX,h.elim (λh=>.inl ⟨_,rfl,h⟩) λ⟨k,aB,h⟩=>.inr ⟨_,⟨k,aB,rfl⟩,h⟩⟩
 case kt=>exact λh k=>h.trans k
 case kb =>intro W l o dZ hl bg Y ac;exact belowK_b (w:=h3) (cx _) W l o dZ hl bg Y ac
 case start=>exact⟨⟨rfl,aqq⟩,O0⟩
 case body=>
  rintro l pre x W ⟨⟨rfl,a3⟩,a4⟩ bK;have aA:=a3.cell;have hf:=a3.frozen
  gi_wp2
  exact⟨(KeepsOthers.setCell _ _ _).from _,⟨⟨rfl,bP⟩,a3.set _⟩,a4.trans<|(Below.refl _ _).setCell (p:=⟨w.heap.size+1,0,aq⟩) bP _⟩
 case done=>
  rintro D bZ W jD rfl ⟨⟨aC,a3⟩,a4⟩ gz;have aA:=a3.cell;have hf:=a3.frozen
  gi_wp2
  have my:=(KeepsOthers.setCell W ⟨w.heap.size+1,0,aq⟩<|.bool ag).same D _ gz rfl;refine⟨bP,.inl ⟨_,_,rfl,run_takeDeferred my,?_⟩⟩;have bN:Boxed ((W.setCell ⟨w.heap.size+1,0,aq⟩<|.bool ag).putObj D<|.deferred aq) (w.heap.size+1) 4<|.bool ag:=(a3.set<|.bool ag).kept (grownBy_putObj' _ D _) (λe=>by cases e;omega);refine⟨.bool ag,aN8,by rw[aC];rfl,?_⟩;exact(a4.trans<|(Below.refl _ _).setCell (p:=⟨w.heap.size+1,0,aq⟩) bP _).trans<|belowK_b (w:=w) (cx _) _ D _ _ V my rfl rfl
 case stop=>
  rintro D c pre W jD ⟨k,aB,rfl⟩ ⟨⟨⟨rfl,fs⟩,a3⟩,a4⟩ gz;have aA:=a3.cell
  gi_wp2
  refine⟨bP,.inl ⟨_,_,rfl,run_takeDeferred gz,?_⟩⟩;have bN:Boxed (W.putObj D<|.deferred aq) (w.heap.size+1) 4<|.bool af:=a3.kept (grownBy_putObj' _ D _) (λe=>by cases e;omega);refine⟨.bool af,aN8,?_,?_⟩
  .have:ka res mX≠[]:=λe=>fs (ayF aB e)
   simp[this]
  exact a4.trans<|belowK_b (w:=w) (cx _) _ D _ _ V gz rfl rfl
end Yp
namespace Yp
open Go Go.Proofs Go.RowKit Go.Shelf
abbrev axE:=ai×ai×aj
abbrev x?: aw:=.pair (.sl<|.int .u8)<|.pair (.sl<|.int .u8) .unit
def Z3(x:(ai×ai×aj)×(ai×ai×aj)×aj):au<|Bool×aj:=
 ob (Fs (x.1.1,x.2.1.1,())) λ(a:aE×aj)=>
 ob (aa a.1 (ob (Fs (x.1.2.1,x.2.1.2.1,())) λ(a:aE×aj)=>J (a.1,()))<|some (ag,())) λ(a:aE×aj)=>J (a.1,())
abbrev aGj:fV:=⟨[x?,x?],[.im<|.bool],Z3⟩
set_option maxRecDepth 100000 in
def ar8(lr:h5 Tryz.prog 392 Lu):h5 Tryz.prog 403 aGj:=PR (E:=gH [(392,Lu)] [] [] [] aq ag ag 0) (rc (ay a0 lr) a1 kC si tr) Tryz.func403 5 BY BY<|λx=>BY
def aCR(k b e f:ai)(aB:k.length<=9223372036854775807)(ak:b.length<=9223372036854775807):Z3 ((k,b,()),(e,f,()),())=J (df (seq k e)<|seq b f,()):=by unfold Z3;rw[PM _ _ aB];rw[PM _ _ ak];cases seq k e<;>rfl
def aHK{w w':bu}{X:R->Prop}(ak:Below w.heap.size w w'):(view w X).cU<|view w' X:=by intro b o h;obtain⟨Y,ac⟩:=kY.1 h;refine kY.2 ⟨Y,?_⟩;rw[ak.block b (jO.1 ac).1];exact ac
def aGp{c:cO aS}{o:R}(h:o+2<=c.size):dg c o 2=[c[o],c[o+1]]:=by unfold dg;rw[oE<|by grind,oE<|by grind];simp
def aqF{w w':bu}{X:R->Prop}{rs:ab e6}{r:e0 rs}{cF:aS}(h:jP w X w' rs r cF):Below w.heap.size w w':=aMQ
def aqa(l:ab α)(q:α->aE)(res:R->aE)(h:∀j x,l[j]?=J x->res j=q x):(ka res l.length != [])=l.any q:=by
 rw[rH];simp;unfold ka;rw[Hb];constructor
 .intro ax
  by_cases hx:∃x,x∈l/\q x=af
  .exact hx
  refine ev (λj aF => ?_) ax;have jE:=rK.1 aF;rw[h j l[j]<|lg jE]
  grind
 rintro⟨x,hx,bD⟩ ax;obtain⟨j,aF,rfl⟩:=sO hx;refine ax j (rK.2 aF) ?_
 grind
abbrev amS:fV:=⟨[.pair (.bool)<|.pair (.sl x?)<|.pair (.bool)<|.unit,.sl<|.int .u8,.sl<|.int .u8],[.im<|.bool],Kr⟩
set_option maxRecDepth 100000 in
def axG(lr:h5 Tryz.prog 392 Lu)(v3 vO:aE)(kI:ab axE)(key vx:ai){w:bu}{X:R->Prop}(ep:∀b,X b->b<w.heap.size)(md:na Tryz.prog<|view w X){fK s3 N9:ab aS}
  (ac:ba (view w X) (.sl x?) kI fK) (aB:ba (view w X) (.sl<|.int .u8) key s3) (ak:ba (view w X) (.sl<|.int .u8) vx N9) :
  Calls Tryz.prog 319 #[.agg<|#[.bool v3]++fK.toArray ++ #[.bool vO],s3.headD undef,N9.headD undef] w λe w'=>∃cF,e=.returned cF/\jP w X w' [.im .bool] ((kI.any λe=>df (seq key e.1)<|seq vx e.2.1,()):aE×aj) cF:=by
 have XL:=aB;have kQ:=ak;obtain⟨ad,cap,rfl,e_,fP,qt⟩:=ba.jt.1 ac;obtain⟨vu,VK,rfl,b4,cz,_⟩:=ba.jt.1 aB;obtain⟨vq,VJ,rfl,fx,e7,_⟩:=ba.jt.1 ak;have kz:maxLen<=9223372036854775807:=ai_
 have E4:key.length<=9223372036854775807:=i6 b4<|i6 cz kz;have et:vx.length<=9223372036854775807:=i6 fx<|i6 e7 kz;have pC:kI.length<=9223372036854775807:=i6 e_<|i6 fP kz

 obtain⟨b,off,cf,Je,jo,oQ,uq,r9⟩:∃(b off:R) (cf:R->aS×aS),(0<kI.length->ad=J ⟨b,off,aq⟩/\b<w.heap.size)/\(∀j,∃a n c bn n' dj,cf j=(.slice a n c,.slice bn n' dj)) /\
   (∀j,j<kI.length->w.cell? ⟨b,off+j*2,aq⟩=J (cf j).1)/\(∀j,j<kI.length->w.cell? ⟨b,off+j*2+1,aq⟩=J (cf j).2) /\
   (∀j (e:ai×ai×aj),kI[j]?=J e->ba (view w X) x? e [(cf j).1,(cf j).2]):=by
  rcases qt with qt|⟨b,o,c,el,fz,b6,a3,dA,I0⟩
  .refine⟨0,0,λ_=>(.slice aq 0 0,.slice aq 0 0),λh => ?_,λ_=>⟨_,_,_,_,_,_,rfl⟩,λj aF => ?_,λj aF => ?_,λj e aX => ?_⟩
   .rw[show kI=[] from qt]at h;simp at h
   .rw[show kI=[] from qt]at aF;simp at aF
   .rw[show kI=[] from qt]at aF;simp at aF
   rw[show kI=[] from qt]at aX;simp at aX
  obtain⟨pB,hh⟩:=kY.1 a3;have azD:o+kI.length*2<=c.size:=dA;have vY:∀j e,kI[j]?=J e->∃(h:o+j*2+2<=c.size),ba (view w X) x? e [c[o+j*2],c[o+j*2+1]]:=by intro j e aX;have aF:j<kI.length:=(oC.1 aX).1;have ct:o+j*2+2<=c.size:=V;refine⟨ct,?_⟩;have:=I0 j e aX;rw[show dg c (o+j*x?.size) x?.size=dg c (o+j*2) 2 from rfl,aGp ct]at this;exact this
  have tl:∀(l:ai) (v:aS),ba (view w X) (.sl<|.int .u8) l [v]->∃a n c,v=.slice a n c:=by intro l v h;obtain⟨a,hB,aX,_⟩:=ba.jt.1 h;cases aX;exact⟨_,_,_,rfl⟩
  have azi:∀(e:ai×ai×aj) (u v:aS),ba (view w X) x? e [u,v]->(∃a n c,u=.slice a n c)/\∃a n c,v=.slice a n c:=by intro e u v h;obtain⟨d1,d2,a?,cn,cR⟩:=ba.nO.1 h;obtain⟨d3,afJ,zr,da,d9⟩:=ba.nO.1 cR;obtain rfl:=ba.Dy.1 d9;have gZ:d1.length=1:=cn.length;have zM:d3.length=1:=da.length;obtain⟨y,rfl⟩:=List.length_eq_one_iff.1 gZ;obtain⟨z,rfl⟩:=List.length_eq_one_iff.1 zM;subst zr;simp only[List.singleton_append,g?,D0,and_true]at a?;obtain⟨rfl,rfl⟩:=a?;exact⟨tl _ _ cn,tl _ _ da⟩
  refine⟨b,o,λj=>if h:j<kI.length then(c[o+j*2]'V,c[o+j*2+1]'V) else(.slice aq 0 0,.slice aq 0 0),λ_=>⟨b6,(jO.1 hh).1⟩,λj => ?_,λj aF => ?_,λj aF => ?_,λj e aX => ?_⟩
  .by_cases aF:j<kI.length
   .obtain⟨ct,az⟩:=vY j _ (lg aF)
    obtain⟨⟨a,n,auC,e1⟩,⟨bn,n',auD,bh⟩⟩:=azi _ _ _ az;exact⟨a,n,auC,bn,n',auD,by dsimp only;rw[dif_pos aF,e1,bh]⟩
   exact⟨_,_,_,_,_,_,dif_neg aF⟩
  .dsimp only;rw[dif_pos aF,World.cell?,hh];simp[show o+j*2<c.size by omega]
  .dsimp only;rw[dif_pos aF,World.cell?,hh];simp[show o+j*2+1<c.size by omega]
  have aF:j<kI.length:=(oC.1 aX).1;dsimp only;rw[dif_pos aF];exact(vY j e aX).2
 let q:ai×ai×aj->aE:=λe=>df (seq key e.1)<|seq vx e.2.1
 let res:R->aE:=λj=>match kI[j]? with|some e=>q e|none=>ag
 have PN:=axF kI.length off cap b ad v3 vO vu key.length VK vq vx.length VJ cf res jo pC 0 w Je oQ uq<|λj aF n w' BZ => ?_
 .refine(callsIn_wide (n:=3)).1 (PN.mono ?_)
  rintro e w' ⟨rfl,EX⟩;refine⟨_,rfl,X,EX.os,EX.tape,EX.output,EX.size,EX.block,λ_ _=>sU,λb h=>ge (ep b h) EX.size,[.bool<|ka res kI.length != []],?_,rfl⟩;refine⟨[.bool _],[],rfl,ba.pm.2 ?_,rfl⟩;rw[aqa kI q res (λj e aX=>by show(match kI[j]? with|some e=>q e|none=>ag)=q e;rw[aX])]
 refine callsIn_wide.2 ?_;have aX:=lg aF;have bR:=BZ;have ct:(view w X).cU<|view w' X:=aHK bR;have:=(ar8 lr).2 w' X ((key,vx,()),(kI[j].1,kI[j].2.1,()),()) [.agg #[.slice vu key.length VK,.slice vq vx.length VJ],.agg #[(cf j).1,(cf j).2]] _ (λb h=>ge (ep b h) bR.size) (md.mono ct)
  ⟨[.slice vu key.length VK,.slice vq vx.length VJ],_,rfl,ba.nO.2 ⟨[_],[_],rfl,XL.mono ct,ba.nO.2 ⟨[_],[],rfl,kQ.mono ct,ba.Dy.2 rfl⟩⟩,[(cf j).1,(cf j).2],[],rfl,(r9 j _ aX).mono ct,rfl⟩
  (aCR _ _ _ _ E4 et)
 refine this.mono ?_;rintro e Mb ⟨cF,rfl,az⟩;refine⟨?_,aqF az⟩;obtain⟨aZ,_,_,_,_,_,_,_,us,a3,rfl⟩:=az;obtain⟨ds,aJr,rfl,aA,rfl⟩:=a3;obtain rfl:=ba.pm.1 aA;show Ending.returned (.bool _)=Ending.returned (.bool (match kI[j]? with|some e=>q e|none=>ag));rw[aX]
set_option maxRecDepth 100000 in
def axy(lr:h5 Tryz.prog 392 Lu):h5 Tryz.prog 319 amS:=by refine⟨⟨Tryz.f319,Tryz.func319,BY,BY⟩,?_⟩;intro w X x vs r ep md b6 az;obtain⟨⟨v3,kI,vO,⟨⟩⟩,key,vx,⟨⟩⟩:=x;obtain rfl:=pb az;obtain⟨cs,aoK,rfl,hp,s3,oz,rfl,aB,N9,aHL,rfl,ak,rfl⟩:=b6;obtain⟨c1,c2,rfl,Y,hp⟩:=ba.nO.1 hp;obtain⟨fK,lK,rfl,ac,hp⟩:=ba.nO.1 hp;obtain⟨c5,NB,rfl,av,hp⟩:=ba.nO.1 hp;obtain rfl:=ba.Dy.1 hp;obtain rfl:=ba.pm.1 Y;obtain rfl:=ba.pm.1 av;have:=axG lr v3 vO kI key vx ep md ac aB ak;refine cast ?_ this;congr 1;simp[db,aw.isAgg]
end Yp
namespace Yp
open Go Go.Proofs Go.RowKit Go.Shelf
attribute [-go_sem] g02 g03 g04 g05 g06 g01 g07 g08 g09 g10 g11 g12 g13 g14 g15 g16 g17 g18 g19 g20 g21 g22 g23 g24 g25 g26 g27 g28 g29 g30 g31 g32 g34 g35 g36 g37 g38 g39 g40 g41 g42 g43 g44 g45 g46 g47 g48 g49 g50 g51 g52 g53 g54 g55 g56 g57 g58 g60 g61 lc_rt' lc_ex' lc_nx g62 g63 nth_get g33 g64 g65 g66
attribute [local go_sem] Oper.semAt_some
def aqE{w w':bu}{X:R->Prop}{rs:ab e6}{r:e0 rs}{cF:aS}(h:jP w X w' rs r cF):Below w.heap.size w w':=aMQ
def aAN{P:d_}{w w':bu}{X:R->Prop}(h:na P<|view w X)(ak:Below w.heap.size w w'):na P<|view w' X:=
 h.mono λb o a3=>by obtain⟨hx,hh⟩:=kY.1 a3;exact kY.2 ⟨hx,(ak.block b (jO.1 hh).1).trans hh⟩
def aC6{P:d_}{f:R}(nB:h5 P f ⟨[.int .i64],[.im<|.int .i64,.im<|.int .u8],vy⟩)(Y:1<=n)(ac:n<=128)(m:R)(w:bu){X:R->Prop}(ep:∀b,X b->b<w.heap.size)(aB:na P<|view w X):
  CallsIn Fence.wide m P f #[.int .i64 (n:O)] w λe w'=>e=.returned (.tuple #[.int .i64 (((n-1)/8:R):O),.int .u8<|aV<|t9<|(n-1)%8])/\Below w.heap.size w w':=by
 refine callsIn_wide.2 ?_;have:=nB.2 w X ((n:O),()) [.int .i64 (n:O)] (_,_,()) ep aB ⟨[.int .i64 (n:O)],[],rfl,ba.j1.2 rfl,rfl⟩<|adg Y ac;refine this.mono ?_;rintro e w' ⟨cF,rfl,az⟩;refine⟨?_,aqE az⟩;obtain⟨aZ,_,_,_,_,_,_,_,vs,a3,rfl⟩:=az;obtain⟨cs,aoK,rfl,aA,s3,oz,rfl,q1,rfl⟩:=a3;have m8:=ba.j1.1 aA;have axU:=ba.j1.1 q1;subst m8 axU;rfl
def ji(cQ:ai)(k:R):ab R:=(fw k).filter λn=>Nat.ble 1 n&&gQ cQ n
def ao4(cQ:ai)(k:R):ji cQ (k+1)=ji cQ k++if(Nat.ble 1 k&&gQ cQ k)=af then[k]else[]:=by
 unfold ji;rw[A4,M4]
 grind
def aqN:∀c:aN,∀t:R,t<8->(Go.bits BinOp.and gV (aV c) (aV<|t9 t) != 0)=bt c t:=qN iQ
def acm(cQ:ai)(k:R)(h:1<=k):(ji cQ k).length<k:=by
 obtain⟨j,rfl⟩:∃j,k=j+1:=⟨k-1,V⟩;have aC:ji cQ (j+1)=(((fw j).map (·+1)).filter λn=>Nat.ble 1 n&&gQ cQ n):=by unfold ji;rw[List.range_succ_eq_map,A5 bP]
 rw[aC];have:=np (λn=>Nat.ble 1 n&&gQ cQ n)<|(fw j).map (·+1);simp only[qJ,M8]at this;omega
def YC(n₀ sI:R)(W gO:bu):Prop:=Below n₀ W gO/\gO.cell? ⟨sI,0,aq⟩=W.cell? ⟨sI,0,aq⟩
set_option maxRecDepth 100000 in
set_option maxHeartbeats 2000000 in
def ani(nB:h5 Tryz.prog 424 ⟨[.int .i64],[.im<|.int .i64,.im<|.int .u8],vy⟩)(w0:bu)(X:R->Prop)(ep:∀b,X b->b<w0.heap.size)(ti:na Tryz.prog<|view w0 X)(n l sI n₀ b off cap:R)(cQ:ai)(cP:cQ.length<=16)(ak:b<n₀)(iX t1:ab R->bu->Prop)
  (m7:∀s W gO,iX s W->Below W.heap.size W gO->iX s gO)
  (xt:∀(pre:ab R) (x:R) W,iX pre W->1<=x->x<=128->pre.length<128->YieldAt Fence.wide n Tryz.prog l #[.int .i64 (x:O)] W λe gO=>
   (e=.returned (.bool af)/\iX (pre++[x]) gO/\YC n₀ sI W gO)\/(e=.returned (.bool ag)/\t1 (pre++[x]) gO))
  (W:bu) (ahl:Below w0.heap.size w0 W) (vW:n₀=w0.heap.size) (axg:W.cell? ⟨sI,0,aq⟩=J (.slice (J ⟨b,off,aq⟩) cQ.length cap)) (ahp:sI<W.heap.size) (ax:n₀<=W.heap.size) (aA:∀j,(h:j<cQ.length)->W.cell? ⟨b,off+j,aq⟩=J (.int .u8<|aV cQ[j])) (aC:iX [] W) :
  CallsIn Fence.wide (n+1) Tryz.prog 443 #[.func (.yield l) #[] #[],.pointer<|some ⟨sI,0,aq⟩] W λe gO=>(∃v,e=.returned v) /\
   (iX (ji cQ<|8*cQ.length+1) gO\/(∃k,k<=8*cQ.length+1/\t1 (ji cQ k) gO)):=by
 have aI2:Fence.wide.fn 424:=trivial;refine callsIn_of_wp Tryz.func443 rfl trivial ?_ rfl;simp only[Tryz.ntmps443,qI,gd,gM,Nat.reduceAdd,Nat.reduceSub,t0,vc,vg,vd,n0,sN]
 gi_wp2
 gi_loopw [3] (λi wr=>∃k:R,1<=k/\k<=8*cQ.length+1/\i=.int .i64 k/\iX (ji cQ k) wr/\Below n₀ W wr/\W.heap.size<=wr.heap.size/\wr.cell? ⟨sI,0,aq⟩=J (.slice (J ⟨b,off,aq⟩) cQ.length cap))
  (λi _=>8*cQ.length+1-(intOf i).toNat)
 case atStart=>exact⟨1,cx _,V,rfl,by have:ji cQ 1=[]:=(by unfold ji;rfl);rw[this];exact aC,Below.refl _ _,cx _,axg⟩
 case round=>
  obtain⟨k,qc,aB,rfl,ET,pB,dA,ahq⟩:=hrel;by_cases bK:k<=8*cQ.length
  .have ct:(k:O)<=8*(cQ.length:O):=V
   obtain⟨p,t,c,jF,Pe,azG,ahP,BH⟩:∃(p t:R) (c:aN),(∀w,Below w0.heap.size w0 w->CallsIn Fence.wide n Tryz.prog 424 #[.int .i64 (k:O)] w λe w'=>e=.returned (.tuple #[.int .i64 (p:O),.int .u8<|aV<|t9 t])/\Below w.heap.size w w')/\p<cQ.length/\t<8/\W.cell? ⟨b,off+p,aq⟩=J (.int .u8<|aV c)/\bt c t=gQ cQ k:=by have Pe:(k-1)/8<cQ.length:=V;refine⟨(k-1)/8,(k-1)%8,cQ[(k-1)/8],λcW uz=>aC6 nB qc (show k<=128 by omega) n cW (λb h=>ge (ep b h) uz.size)<|aAN ti uz,Pe,V,aA _ Pe,?_⟩;unfold gQ;rw[nth_get Pe]
   have aIS:(p:O)<(cQ.length:O):=V;have IV:=aqN c t azG;rw[BH]at IV;have aI3:(Fence.wide).depth.isSome=af->1<=n:=λh=>by cases h
   cases hh:gQ cQ k
   .rw[hh]at IV
    have bN:Go.bits BinOp.and gV (aV c) (aV<|t9 t)=0:=by simpa using IV
    have oU:ji cQ (k+1)=ji cQ k:=by rw[ao4,hh,Bool.and_false,aD bP,g?]
    clear BH IV hh
    gi_wp2_with (gi_at_call 424;refine(jF _<|ahl.trans<|vW▸pB).mono ?_;rintro e cW ⟨rfl,hb1⟩;have W':cW.cell? ⟨sI,0,aq⟩=J (.slice (J ⟨b,off,aq⟩) cQ.length cap):=(hb1.cell (p:=⟨sI,0,aq⟩)<|ge ahp dA).trans ahq;have ax7:cW.cell? ⟨b,off+p,aq⟩=J (.int .u8<|aV c):=(hb1.cell (p:=⟨b,off+p,aq⟩)<|ge ak<|i6 ax dA).trans<|(pB.cell (p:=⟨b,off+p,aq⟩) ak).trans ahP)
    refine⟨λ_ _=>trivial,?_⟩
    gi_wp2
    refine⟨⟨k+1,V,V,bP,by rw[oU];exact m7 _ _ _ ET hb1,pB.trans<|hb1.mono<|i6 ax dA,i6 dA hb1.size,W'⟩,?_⟩;simp[intOf];omega
   rw[hh]at IV;have oU:ji cQ (k+1)=ji cQ k++[k]:=by have:Nat.ble 1 k=af:=DO qc;rw[ao4,hh,this];rfl
   have Fa:=acm cQ k qc;have axu:=λcW (aF:iX (ji cQ k) cW)=>xt _ k cW aF qc (show k<=128 by omega) V;clear BH hh
   gi_wp2_with (gi_at_call 424;refine(jF _<|ahl.trans<|vW▸pB).mono ?_;rintro e cW ⟨rfl,hb1⟩;have W':cW.cell? ⟨sI,0,aq⟩=J (.slice (J ⟨b,off,aq⟩) cQ.length cap):=(hb1.cell (p:=⟨sI,0,aq⟩)<|ge ahp dA).trans ahq;have ax7:cW.cell? ⟨b,off+p,aq⟩=J (.int .u8<|aV c):=(hb1.cell (p:=⟨b,off+p,aq⟩)<|ge ak<|i6 ax dA).trans<|(pB.cell (p:=⟨b,off+p,aq⟩) ak).trans ahP;obtain⟨fn,tmps,assign,body,bW,j'⟩:=axu cW<|m7 _ _ _ ET hb1)
   refine j'.mono ?_;rintro e apM (⟨rfl,Xf,gi⟩|⟨rfl,Xg⟩)
   .gi_wp2
    refine⟨⟨k+1,V,V,bP,by rw[oU];exact Xf,(pB.trans<|hb1.mono<|i6 ax dA).trans gi.1,i6 dA<|i6 hb1.size gi.1.size,gi.2.trans W'⟩,?_⟩;simp[intOf];omega
   exact aLq
  have qb:k=8*cQ.length+1:=V;subst qb;have xE:¬((8*cQ.length+1:R):O)<=8*(cQ.length:O):=V
  gi_wp2
  go_end0
  exact⟨⟨_,rfl⟩,.inl ET⟩
end Yp
namespace Yp
open Go Go.Proofs Go.RowKit Go.Shelf
def acC:=@List.getElem?_take_of_lt
attribute [-go_sem] g02 g03 g04 g05 g06 g01 g07 g08 g09 g10 g11 g12 g13 g14 g15 g16 g17 g18 g19 g20 g21 g22 g23 g24 g25 g26 g27 g28 g29 g30 g31 g32 g34 g35 g36 g37 g38 g39 g40 g41 g42 g43 g44 g45 g46 g47 g48 g49 g50 g51 g52 g53 g54 g55 g56 g57 g58 g60 g61 lc_rt' lc_ex' lc_nx g62 g63 nth_get g33 g64 g65 g66
attribute [local go_sem] Oper.semAt_some
abbrev A':ab e6:=[.ow<|.int .i64,.im<|.int .i64,.im<|.int .i64]
def Ap{w w':bu}{X:R->Prop}(ep:∀b,X b->b<w.heap.size)(ak:Below w.heap.size w w')(e:O):jP w X w' A' (([],0,e,()):ab O×O×O×aj)<|.tuple #[.slice aq 0 0,.int .i64 0,.int .i64 e]:=by refine⟨X,ak.os,ak.tape,ak.output,ak.size,ak.block,λ_ _=>sU,λb h=>ge (ep b h) ak.size,[.slice aq 0 0,.int .i64 0,.int .i64 e],?_,rfl⟩;exact⟨_,_,rfl,.inl ⟨rfl,⟨aq,rfl⟩,⟨[.int .i64 0],_,rfl,ba.j1.2 rfl,⟨[.int .i64 e],_,rfl,ba.j1.2 rfl,rfl⟩⟩⟩⟩
def amc{w w':bu}{X:R->Prop}(ep:∀b,X b->b<w.heap.size)(ak:Below w.heap.size w w'){v:aS}(bg:w'.ownsRow w.heap.size 3 1 v l.length<|l.map<|Value.int .i64)(n:O):jP w X w' A' ((l,n,0,()):ab O×O×O×aj)<|.tuple #[v,.int .i64 n,.int .i64 0]:=by
 obtain⟨_,⟨rfl,aC⟩|⟨g,cap,hP,rfl,hg,hh,uq,q1,ahO,aIF⟩⟩:=bg
 .have:l=[]:=mW.1 aC
  subst this;refine⟨X,ak.os,ak.tape,ak.output,ak.size,ak.block,λ_ _=>sU,λb h=>ge (ep b h) ak.size,[.slice aq 0 0,.int .i64 n,.int .i64 0],?_,rfl⟩;exact⟨_,_,rfl,.inl ⟨rfl,⟨aq,rfl⟩,⟨[.int .i64 n],_,rfl,ba.j1.2 rfl,⟨[.int .i64 0],_,rfl,ba.j1.2 rfl,rfl⟩⟩⟩⟩
 have ah6:g<w'.heap.size:=(jO.1 hh).1;refine⟨λb=>X b\/b=g,ak.os,ak.tape,ak.output,ak.size,ak.block,λb et=>⟨λh=>h.elim id<|λe=>V,.inl⟩,λb h=>h.elim (λh=>ge (ep b h) ak.size)<|λe=>e▸ah6,[.slice (J ⟨g,0,aq⟩) l.length cap,.int .i64 n,.int .i64 0],?_,rfl⟩;refine⟨_,_,rfl,.inr ⟨g,⟨0,hP,3,(0,0),cap,rfl,uq,q1,?_,hh,⟨?_,?_⟩,?_,.inr rfl,λh=>ev (h)<|Nat.not_lt.2 hg,λh=>h⟩,⟨[.int .i64 n],_,rfl,ba.j1.2 rfl,⟨[.int .i64 0],_,rfl,ba.j1.2 rfl,rfl⟩⟩⟩⟩
 .show 0+cap*1<=hP.size
  omega
 .show 0+l.length*1<=hP.size
  omega
 .intro i x ao
  have ej:l[i]?=J x:=ao;have bK:i<l.length:=(oC.1 ej).1;show dg hP (0+i*1) 1=[Value.int .i64 x];rw[oD,pd];have Y:hP.toList[i]?=J (Value.int .i64 x):=by
   have ac:(List.take (l.length*1) hP.toList)[i]?=hP.toList[i]?:=acC V
   grind
  obtain⟨ayT,XH⟩:=oC.1 Y;unfold dg;rw[oE ayT,XH];rfl
 exact aKB
def w_(w:bu)(nL oj Zq:Obj):Below w.heap.size w<|((w.alloc nL).alloc oj).alloc Zq:=(((Below.refl _ w).alloc (cx _) _).alloc bP _).alloc e8 _
set_option maxRecDepth 100000 in
set_option maxHeartbeats 2000000 in
def aDR(a:au Addr)(n cap:R)(cM:O)(h:cM<0)(m:R)(w:bu)(X:R->Prop)(ep:∀b,X b->b<w.heap.size):
  CallsIn Fence.wide m Tryz.prog 360 #[.slice a n cap,.int .i64 cM] w λe w'=>∃cF,e=.returned cF/\jP w X w' A' (([],0,1,()):ab O×O×O×aj) cF:=by
 refine callsIn_of_wp Tryz.func360 rfl trivial ?_ rfl;simp only[Tryz.ntmps360,qI,gd,gM,Nat.reduceAdd,Nat.reduceSub,t0,vc,vg,vd,n0,sN]
 gi_wp2
 exact bodyPost_ret (v:=.tuple #[.slice aq 0 0,.int .i64 0,.int .i64 1]) aKY rfl ⟨_,rfl,Ap ep (w_ _ _ _ _) 1⟩
set_option maxRecDepth 100000 in
set_option maxHeartbeats 2000000 in
def aDS(a:au Addr)(n cap:R)(cM:O)(aC:¬cM<0)(h:(n:O)<cM)(m:R)(w:bu)(X:R->Prop)(ep:∀b,X b->b<w.heap.size):
  CallsIn Fence.wide m Tryz.prog 360 #[.slice a n cap,.int .i64 cM] w λe w'=>∃cF,e=.returned cF/\jP w X w' A' (([],0,1,()):ab O×O×O×aj) cF:=by
 refine callsIn_of_wp Tryz.func360 rfl trivial ?_ rfl;simp only[Tryz.ntmps360,qI,gd,gM,Nat.reduceAdd,Nat.reduceSub,t0,vc,vg,vd,n0,sN]
 gi_wp2
 exact bodyPost_ret (v:=.tuple #[.slice aq 0 0,.int .i64 0,.int .i64 1]) aKY rfl ⟨_,rfl,Ap ep (w_ _ _ _ _) 1⟩
set_option maxRecDepth 100000 in
set_option maxHeartbeats 2000000 in
def aDT(a:au Addr)(n cap:R)(A:R)(oR:n<=cap)(h:A=n)(m:R)(w:bu)(X:R->Prop)(ep:∀b,X b->b<w.heap.size):
  CallsIn Fence.wide m Tryz.prog 360 #[.slice a n cap,.int .i64 (A:O)] w λe w'=>∃cF,e=.returned cF/\jP w X w' A' (([],0,3,()):ab O×O×O×aj) cF:=by
 subst h;refine callsIn_of_wp Tryz.func360 rfl trivial ?_ rfl;simp only[Tryz.ntmps360,qI,gd,gM,Nat.reduceAdd,Nat.reduceSub,t0,vc,vg,vd,n0,sN]
 gi_wp2
 all_goals exact bodyPost_ret (v:=.tuple #[.slice aq 0 0,.int .i64 0,.int .i64 3]) aKY rfl ⟨_,rfl,Ap ep (w_ _ _ _ _) 3⟩
def adi:∀c:aN,(Go.bits BinOp.and gV (aV c) 128 != 0)=bt c 0:=qN iQ
set_option maxRecDepth 100000 in
set_option maxHeartbeats 2000000 in
def aDU(b off n cap:R)(A:R)(oR:n<=cap)(ee:A<n)(c0:aN)(m:R)(w:bu)(aA:w.cell? ⟨b,off+A,aq⟩=J (.int .u8<|aV c0))(hs:(bt c0 0=af/\n-A<16)\/(bt c0 0=ag/\n-A<8))(X:R->Prop)(ep:∀b,X b->b<w.heap.size)(ak:b<w.heap.size):
  CallsIn Fence.wide m Tryz.prog 360 #[.slice (J ⟨b,off,aq⟩) n cap,.int .i64 (A:O)] w λe w'=>∃cF,e=.returned cF/\jP w X w' A' (([],0,3,()):ab O×O×O×aj) cF:=by
 have vW:¬((A:O)<0):=V;have r8:¬((n:O)<(A:O)):=V;have xu:=adi c0;obtain⟨N,fE⟩:∃N,n=A+N:=⟨n-A,V⟩;subst fE;have ahO:(((w.alloc<|.cells #[.slice aq 0 0] 60).alloc<|.cells #[.int .i64 0] 3).alloc<|.cells #[.int .i64 0] 63).cell? ⟨b,off+A,aq⟩=J (.int .u8<|aV c0):=((w_ w _ _ _).cell (p:=⟨b,off+A,aq⟩) ak).trans aA;refine callsIn_of_wp Tryz.func360 rfl trivial ?_ rfl;simp only[Tryz.ntmps360,qI,gd,gM,Nat.reduceAdd,Nat.reduceSub,t0,vc,vg,vd,n0,sN];rcases hs with⟨Y,ac⟩|⟨Y,ac⟩
 .rw[Y]at xu
  clear Y;have zl:(N:O)<16:=V
  gi_wp2
  all_goals exact bodyPost_ret (v:=.tuple #[.slice aq 0 0,.int .i64 0,.int .i64 3]) aKY rfl ⟨_,rfl,Ap ep (w_ _ _ _ _) 3⟩
 rw[Y]at xu;have bN:Go.bits BinOp.and gV (aV c0) 128=0:=by simpa using xu
 clear Y xu;have zl:(N:O)<8:=V
 gi_wp2
 all_goals exact bodyPost_ret (v:=.tuple #[.slice aq 0 0,.int .i64 0,.int .i64 3]) aKY rfl ⟨_,rfl,Ap ep (w_ _ _ _ _) 3⟩
set_option maxRecDepth 100000 in
set_option maxHeartbeats 2000000 in
def anl(m:R)(sl:aS)(w:bu)(a3:sl.oneCell'=af):CallsIn Fence.wide m Tryz.prog 416 #[sl] w λe w'=>e=.returned (.func (.func 443) #[] #[.pointer<|some ⟨w.heap.size,0,aq⟩])/\w'=w.alloc (.cells #[sl] 25):=by
 refine callsIn_of_wp Tryz.func416 rfl trivial ?_ rfl;simp only[Tryz.ntmps416,qI,gd,gM,Nat.reduceAdd,Nat.reduceSub,t0,vc,vg,vd,n0,sN]
 gi_wp2
 go_ret
 exact aNB
end Yp
namespace Yp
open Go
section
variable {p:Prop}
def so(h:p:=by
 have Yj:(1:Int)<(x:Int):=V
 gi_wp2_with (gi_at_builtin;refine vn.bV ?_)
 refine⟨?_⟩;refine wpListIn_append_own _ rfl _ _ 60 rfl (w.heap.size+1+1+1) 3 Fb (.int .i64 0) 1 8 aoz ao Ju aiM aiN rfl di v (lL pre).length (qT pre) rfl (fb.alloc _) ⟨W.heap.size,0,none⟩ 1 1 [.int .i64 (x:Int)] rfl rfl ?hcell ?hone ?hb1 ?hb2 ?hb3 ?hrest
 case hcell=>exact cell_one_new _ _ _
 case hone=>simp[Value.oneCell']
 case hb1=>simp[maxLen];omega
 case hb2=>omega
 case hb3=>have:=a4.size;simp;omega
 case hrest=>
  intro dH cW Jh I8 _;obtain⟨j9,cap',rfl⟩:=ownsRow_succ Jh;obtain⟨zB,E9,X4,oS,hb2⟩:=a3.appended di fb V V Jh I8;have Xl:Boxed cW (w.heap.size+1+1+1+1+1) 25 _:=(az.c5.alloc<|.cells #[Value.int .i64 (x:Int)] 3).kept I8<|az.c5.not_row di fb;have uq:=zB.cell;have XC:=zB.frozen
  gi_wp2
  have IL:=Xl.uW (C:=w.heap.size+1+1+1+1) V<|.slice (some ⟨j9,0,none⟩) ((lL pre).length+1) cap';have IR:=hb2.mono (B':=w.heap.size) V;refine⟨oS.from _,⟨IR,IL.cell.trans az.c5.cell.symm⟩,⟨⟨_,E9,?_,?_⟩,al8 az hb2 IL⟩,a4.trans IR⟩
  .rw[qT,afv v1];simpa[qT]using X4
  simpa[j_]using λe=>B2 e.symm):p:=h
def aLR(h:p:=by
 subst B2
 gi_wp2
 exact⟨(Qg _ _ _ _ _).from _,⟨⟨rfl,bP⟩,Gk az _ _ _⟩,a4.trans<|Fg _ _ _ _ _⟩):p:=h
end
end Yp
namespace Go
open Go.RowKit
def Boxed.uW{W:bu}{B C:R}{v:aS}(h:Boxed W B t v)(fs:B≠C)(u:aS):Boxed (W.setCell ⟨C,0,aq⟩ u) B t v:=h.kept (grownBy_setCell' W C u)<|λe=>fs (by cases e;rfl)
end Go
namespace Yp
open Go Go.Proofs Go.RowKit Go.Shelf
def M9:=@Bool.eq_false_iff
attribute [-go_sem] g02 g03 g04 g05 g06 g01 g07 g08 g09 g10 g11 g12 g13 g14 g15 g16 g17 g18 g19 g20 g21 g22 g23 g24 g25 g26 g27 g28 g29 g30 g31 g32 g34 g35 g36 g37 g38 g39 g40 g41 g42 g43 g44 g45 g46 g47 g48 g49 g50 g51 g52 g53 g54 g55 g56 g57 g58 g60 g61 lc_rt' lc_ex' lc_nx g62 g63 nth_get g33 g64 g65 g66
attribute [local go_sem] Oper.semAt_some
def aAr:(Tryz.prog.info? 3).map (λi=>(i.zero,i.size,i.bytes))=J (J<|.int .i64 0,1,8):=BY
def aoz:Tryz.prog.underlying 60=J (.slice 3):=BY
def lL(pre:ab R):ab R:=pre.filter λn=>Nat.ble 2 n
def qT(pre:ab R):ab aS:=(lL pre).map λ(n:R)=>Value.int .i64 (n:O)
def afw{pre:ab R}{x:R}(h:¬1<x):lL (pre++[x])=lL pre:=by have:Nat.ble 2 x=ag:=M9.2 λe=>h<|Hp e;unfold lL;rw[M4,A5<|by grind];simp
def afv{pre:ab R}{x:R}(h:1<x):lL (pre++[x])=lL pre++[x]:=by have:Nat.ble 2 x=af:=DO h;unfold lL;rw[M4,TZ this];simp
structure sR(s:R)(v:aS)(n e:O)(sl:aS)(W:bu):Prop where
 c0:Boxed W s 60 v
 c1:Boxed W (s+1) 3 (.int .i64 n)
 c2:Boxed W (s+1+1) 63 (.int .i64 e)
 c5:Boxed W (s+1+1+1+1+1) 25 sl
def boxed_own{B:R}{v:aS}{X acV:bu}{row:au R}(a3:Boxed X B t v)(hg:X.grownBy acV row)(fb:∀r,row=J r->∃o,X.heap[r]?=J o/\o.isCells=ag):Boxed acV B t v:=
 a3.kept hg λb9=>by obtain⟨o,bg,aA⟩:=fb B b9.symm;rw[show X.heap[B]?=_ from a3]at bg;cases bg;cases aA
def Lk(s:R)(v:aS)(n e:O)(sl:aS):Own (λ(_:β) W=>sR s v n e sl W):=λ_ _ _ _ hs hg az=>
 ⟨boxed_own hs.c0 hg az,boxed_own hs.c1 hg az,boxed_own hs.c2 hg az,boxed_own hs.c5 hg az⟩
def Gk{v sl:aS}{n:O}{W:bu}(h:sR s v n e sl W)(dH:aS)(n' b9:O):
 sR s dH n' b9 sl (((W.setCell ⟨s,0,aq⟩ dH).setCell ⟨s+1,0,aq⟩<|.int .i64 n').setCell ⟨s+1+1,0,aq⟩<|.int .i64 b9):=
 ⟨((h.c0.set dH).uW V _).uW V _,((h.c1.uW V _).set<|.int .i64 n').uW V _,
  ((h.c2.uW V _).uW V _).set (.int .i64 b9),((h.c5.uW V _).uW V _).uW V _⟩
def Fg(s:R)(dH:aS)(n' b9:O)(W:bu):Below s W<|((W.setCell ⟨s,0,aq⟩ dH).setCell ⟨s+1,0,aq⟩<|.int .i64 n').setCell ⟨s+1+1,0,aq⟩<|.int .i64 b9:=
 (((Below.refl s W).setCell (p:=⟨s,0,aq⟩) (cx _) dH).setCell (p:=⟨s+1,0,aq⟩) bP _).setCell (p:=⟨s+1+1,0,aq⟩) (by grind) _
def Qg(s:R)(dH:aS)(n' b9:O)(W:bu):KeepsOthers W<|((W.setCell ⟨s,0,aq⟩ dH).setCell ⟨s+1,0,aq⟩<|.int .i64 n').setCell ⟨s+1+1,0,aq⟩<|.int .i64 b9:=
 ((KeepsOthers.setCell _ _ _).trans<|KeepsOthers.setCell _ _ _).trans (KeepsOthers.setCell _ _ _)
def al8{v sl:aS}{n:O}{W gO:bu}(h:sR s v n e sl W)(ak:Below (s+1+1+1) W gO)(bv:Boxed gO (s+1+1+1+1+1) 25 sl):sR s v n e sl gO:=
 ⟨(ak.block _ V).trans h.c0,(ak.block _ V).trans h.c1,(ak.block _ V).trans h.c2,bv⟩
def sR.put{v sl:aS}{n:O}{W:bu}(h:sR s v n e sl W){D:R}{o:Obj}(dZ:Obj)(jD:W.heap[D]?=J o)(bg:o.isCells=ag):sR s v n e sl<|W.putObj D dZ:=
 Lk (β:=aj) s v n e sl () W _ (J D) h (grownBy_putObj' W D dZ) (λr e=>by cases e;exact⟨o,jD,bg⟩)
def amk{W:bu}{v:aS}{L:R}{f7:ab aS}(h:W.ownsRow (s+1+1+1) 3 1 v L f7)(dH:aS)(n' b9:O){D:R}{o:Obj}(dZ:Obj)(jD:W.heap[D]?=J o)(bg:o.isCells=ag):
  World.ownsRow ((((W.setCell ⟨s,0,aq⟩ dH).setCell ⟨s+1,0,aq⟩<|.int .i64 n').setCell ⟨s+1+1,0,aq⟩<|.int .i64 b9).putObj D dZ) s 3 1 v L f7:=by
 rcases h.2 with⟨rfl,aC⟩|⟨g,cap,hP,rfl,hg,hh,aB⟩
 .exact⟨h.1,.inl ⟨rfl,aC⟩⟩
 have ayw:g≠D:=by rintro rfl;rw[hh]at jD;cases jD;cases bg
 have ce:W.ownsRow s 3 1 (.slice (J ⟨g,0,aq⟩) L cap) L f7:=⟨h.1,.inr ⟨g,cap,hP,rfl,V,hh,aB⟩⟩;have fm:∀k,g≠k->(Value.slice (J ⟨g,0,aq⟩) L cap).ownBlock=aq\/(Value.slice (J ⟨g,0,aq⟩) L cap).ownBlock≠J k:=λk aB=>.inr λe=>aB (by simpa[Value.ownBlock]using e);exact(((ce.kept (grownBy_setCell' W s dH)<|fm _ V).kept (grownBy_setCell' _ (s+1) _)<|fm _ V).kept (grownBy_setCell' _ (s+1+1) _)<|fm _ V).kept (grownBy_putObj' _ D dZ)<|fm _ ayw
def Eh(cQ:ai):lL (ji cQ<|8*cQ.length+1)=h? cQ:=by
 unfold lL ji h?;rw[yP];refine List.filter_congr λn _ => ?_;cases h:Nat.ble 2 n
 .simp
 have:Nat.ble 1 n=af:=DO (by have:=Hp h;omega)
 grind
def ao3{cQ:ai}{k:R}(aB:k<=8*cQ.length+1)(h:65∈ji cQ k):65∈h? cQ/\8<cQ.length:=by unfold ji at h;rw[vh,rK]at h;unfold h?;rw[vh,rK];refine⟨⟨V,?_⟩,V⟩;have ac:=h.2;omega
def aBW{cQ:ai}(h:65∈h? cQ):65∈ji cQ (8*cQ.length+1):=by unfold h? at h;rw[vh,rK]at h;unfold ji;rw[vh,rK];omega
def aBZ{cQ:ai}{L z:R}(hL:(h? cQ).length=L+1)(bN:(h? cQ)[L]?=J z):∀n∈h? cQ,n<=z:=by
 intro n ax;have hp:(h? cQ).Pairwise (· < ·):=w7 _ T?;obtain⟨i,ao,rfl⟩:=sO ax;obtain⟨hl,rfl⟩:=oC.1 bN;by_cases h:i=L
 .grind
 exact Nat.le_of_lt<|Uh.1 hp i L ao hl V
structure vn(p:Prop):Prop where
 bV:p
set_option maxRecDepth 100000 in
set_option maxHeartbeats 4000000 in
def aDV(nB:h5 Tryz.prog 424 ⟨[.int .i64],[.im<|.int .i64,.im<|.int .u8],vy⟩)(b off n cap:R)(A S:R)(oR:n<=cap)(ee:A+S<=n)(ax:n<=9223372036854775807)(cQ:ai)(lr:S=8\/S=16)(IW:cQ.length=S)(c0:aN)(m:R)(w:bu)
 (aA:∀j,(h:j<cQ.length)->w.cell? ⟨b,off+A+j,aq⟩=J (.int .u8<|aV cQ[j])) (oQ:w.cell? ⟨b,off+A,aq⟩=J (.int .u8<|aV c0)) (bR:bt c0 0=af↔S=16) (X:R->Prop) (ep:∀b,X b->b<w.heap.size) (ti:na Tryz.prog<|view w X) (ak:b<w.heap.size) (bi:ab O×O×O×aj) (j':vn<|bi=(if S=16/\(65∈h? cQ\/∀n∈h? cQ,n<65) then(([],0,2,()):ab O×O×O×aj) else(((h? cQ).map Int.ofNat,(A:O)+(S:O),(0:O),()):ab O×O×O×aj))) :
 CallsIn Fence.wide (m+3) Tryz.prog 360 #[.slice (J ⟨b,off,aq⟩) n cap,.int .i64 (A:O)] w λe w'=>∃cF,e=.returned cF/\jP w X w' A' bi cF:=by
 obtain⟨Fb,ao,Ju,aiM,aiN⟩:=info_parts aAr;have vW:¬((A:O)<0):=V;have r8:¬((n:O)<(A:O)):=V;have xu:=adi c0;obtain⟨N,fE⟩:∃N,n=A+N:=⟨n-A,V⟩;subst fE;have ahO:(((w.alloc<|.cells #[.slice aq 0 0] 60).alloc<|.cells #[.int .i64 0] 3).alloc<|.cells #[.int .i64 0] 63).cell? ⟨b,off+A,aq⟩=J (.int .u8<|aV c0):=((w_ w _ _ _).cell (p:=⟨b,off+A,aq⟩) ak).trans oQ;have aI1:Fence.wide.fn 416:=trivial;refine callsIn_of_wp_marks Tryz.func360 rfl trivial ?_ rfl;simp only[Tryz.ntmps360,qI,gd,gM,Nat.reduceAdd,Nat.reduceSub,t0,vc,vg,vd,n0,sN];rcases lr with rfl|rfl
 .have Y:bt c0 0=ag:=M9.2 λh=>by have:=bR.1 h;omega
  rw[Y]at xu;have bN:Go.bits BinOp.and gV (aV c0) 128=0:=by simpa using xu
  clear Y xu;have zl:¬(N:O)<8:=V;have aw8:¬N<8:=V
  gi_wp2_with (gi_at_call 416;refine(anl _ _ _ rfl).mono ?_;rintro e w' ⟨rfl,rfl⟩)
  have HA:=Boxed.new ((((w.alloc<|.cells #[.slice aq 0 0] 60).alloc<|.cells #[.int .i64 0] 3).alloc<|.cells #[.int .i64 0] 63).alloc<|.cells #[] 3) 60<|.slice (J ⟨w.heap.size+1+1+1,0,aq⟩) 0 0;have Bf:=Boxed.new (((((w.alloc<|.cells #[.slice aq 0 0] 60).alloc<|.cells #[.int .i64 0] 3).alloc<|.cells #[.int .i64 0] 63).alloc<|.cells #[] 3).alloc<|.cells #[.slice (J ⟨w.heap.size+1+1+1,0,aq⟩) 0 0] 60) 25<|.slice (J ⟨b,off+A,aq⟩) 8<|cap-A;have eZ:=Boxed.new w 60<|.slice aq 0 0;have fx:=Boxed.new (w.alloc<|.cells #[.slice aq 0 0] 60) 3<|.int .i64 0;have e7:=Boxed.new ((w.alloc<|.cells #[.slice aq 0 0] 60).alloc<|.cells #[.int .i64 0] 3) 63<|.int .i64 0;have Jm:=World.ownsRow_made (base:=w.heap.size+1+1+1) (e:=3) (size:=1) (((w.alloc<|.cells #[.slice aq 0 0] 60).alloc<|.cells #[.int .i64 0] 3).alloc<|.cells #[.int .i64 0] 63) #[] 0 bP ai_ rfl;simp only[World.size_alloc]at HA Bf fx e7 Jm;have Bz:Below w.heap.size w<|(((((w.alloc<|.cells #[.slice aq 0 0] 60).alloc<|.cells #[.int .i64 0] 3).alloc<|.cells #[.int .i64 0] 63).alloc<|.cells #[] 3).alloc<|.cells #[.slice (J ⟨w.heap.size+1+1+1,0,aq⟩) 0 0] 60).alloc<|.cells #[.slice (J ⟨b,off+A,aq⟩) 8<|cap-A] 25:=
   (((w_ w _ _ _).alloc e8 _).alloc e8 _).alloc e8 _
  refine wpIn_rangeFunc_ownG rfl V (gf:=443) (lb:=#[.pointer<|some ⟨w.heap.size+1+1+1+1+1,0,aq⟩]) rfl trivial (enters_of Tryz.func443 BY rfl)
   (encs:=λx:R=>#[.int .i64 (x:O)]) (Kp:=YC w.heap.size<|w.heap.size+1+1+1+1+1) (S:=λbZ=>bZ=ji cQ (8*cQ.length+1)) (Sp:=λpre=>∃k,k<=8*cQ.length+1/\pre=ji cQ k) (N:=128)
   ?seq ?kt ?kb (Below.refl _ _) (λ_=>rfl)
   (λpre W=>((∃v,Boxed W (w.heap.size+1+1+1+1) 60 v/\W.ownsRow (w.heap.size+1+1+1) 3 1 v (lL pre).length (qT pre)/\¬65∈pre)/\sR w.heap.size (.slice aq 0 0) 0 0 (.slice (J ⟨b,off+A,aq⟩) 8<|cap-A) W)/\Below w.heap.size w W)
   (λc pre W=>((c=.ret/\65∈pre)/\sR w.heap.size (.slice aq 0 0) 0 2 (.slice (J ⟨b,off+A,aq⟩) 8<|cap-A) W)/\Below w.heap.size w W)
   (OwnFrom.and (OwnFrom.and (Own.from (holdsRow_own (w.heap.size+1+1+1) _ 60 3 1 (λpre=>(lL pre).length) qT<|λpre v=>¬65∈pre) _)<|Own.from (Lk w.heap.size (.slice aq 0 0) 0 0<|.slice (J ⟨b,off+A,aq⟩) 8<|cap-A) _)<|ownFrom_below (cx _) e8)
   (λc=>OwnFrom.and (OwnFrom.and (ownFrom_pure _ _)<|Own.from (Lk w.heap.size (.slice aq 0 0) 0 2<|.slice (J ⟨b,off+A,aq⟩) 8<|cap-A) _)<|ownFrom_below (cx _) e8)
   ?start
   (λx=>{ tmps:=#[Value.slice (J { block:=b,off:=off+A }) N<|cap-A,Value.int IntKind.i64 (A:O),undef,undef,Value.pointer<|some { block:=w.heap.size,off:=0 },Value.pointer<|some { block:=w.heap.size+1,off:=0 },Value.pointer<|some { block:=w.heap.size+1+1,off:=0 },Value.int IntKind.i64 8,Value.pointer<|some { block:=w.heap.size+1+1+1+1,off:=0 },Value.int IntKind.i64 (x:O),Value.int IntKind.i64 (A:O),Value.bool ag,Value.bool ag,Value.int IntKind.i64 (A:O),Value.slice (J { block:=b,off:=off }) (A+N) cap,Value.int IntKind.i64<|(A:O)+(N:O),Value.bool (decide ((A:O)+(N:O)<(A:O))),Value.bool (decide ((A:O)+(N:O)<(A:O))),Value.slice (J { block:=b,off:=off }) (A+N) cap,Value.int IntKind.i64 (A:O),Value.slice (J { block:=b,off:=off+A }) N<|cap-A,Value.slice (J { block:=b,off:=off+A }) N<|cap-A,Value.int IntKind.i64 (N:O),Value.bool af,Value.bool af,Value.slice (J { block:=b,off:=off+A }) N<|cap-A,Value.pointer<|some { block:=b,off:=off+A },Value.int gV<|aV c0,Value.int gV 0,Value.bool ag,Value.bool ag,Value.slice (J { block:=b,off:=off+A }) N<|cap-A,Value.int IntKind.i64 (N:O),Value.int IntKind.i64 8,Value.bool ag,Value.slice (J { block:=w.heap.size+1+1+1,off:=0 }) 0 0,Value.slice (J { block:=b,off:=off+A }) N<|cap-A,Value.int IntKind.i64 8,Value.slice (J { block:=b,off:=off+A }) 8<|cap-A,Value.func (Fn.func 443) #[] #[Value.pointer<|some { block:=w.heap.size+1+1+1+1+1,off:=0 }],Value.int IntKind.i64 (x:O),undef,undef,undef,undef,undef,undef,undef,undef,undef,undef,undef,undef,undef,undef,undef,undef,undef,undef,undef,undef,undef,undef,undef,undef,undef,undef,undef,undef],defers:=[] }) ?assign ?body ?done ?stop
  case seq=>
   intro l iX t1 W hW m7 ahu xt aC;have dA:w.heap.size+6<=W.heap.size:=aON
   refine(ani nB w X ep ti (m+1) l (w.heap.size+1+1+1+1+1) w.heap.size b (off+A) (cap-A) cQ V ak iX t1 (λs t5 Hu hs ak=>m7 s t5 Hu aq hs ⟨ak.os,ak.tape,ak.output,ak.size,λk aB _=>ak.block k aB⟩<|λr e=>by cases e) (λpre x t5 aF _ _ hl=>xt pre x t5 aF hl) W (Bz.trans<|hW.mono e8) rfl ?_ V V (λj h => ?_) aC).mono ?_
   .exact aMN
   .exact aLD
   rintro e gO ⟨aX,h⟩;exact⟨aX,h.elim (λh=>.inl ⟨_,rfl,h⟩) λ⟨k,aB,h⟩=>.inr ⟨_,⟨k,aB,rfl⟩,h⟩⟩
  case kt=>exact λh k=>⟨h.1.trans k.1,k.2.trans h.2⟩
  case kb =>intro W l o dZ hl bg Y ac;simp at hl;exact⟨belowK_b (w:=w) (cx _) W l o dZ V bg Y ac,World.cell?_of_block<|World.putObj_heap_other e8⟩
  case start=>exact⟨⟨⟨_,HA.alloc _,(Jm.alloc _).alloc _,bP⟩,⟨eZ.alloc _ |>.alloc _ |>.alloc _ |>.alloc _ |>.alloc _,fx.alloc _ |>.alloc _ |>.alloc _ |>.alloc _,e7.alloc _ |>.alloc _ |>.alloc _,Bf⟩⟩,Bz⟩
  case assign=>
   intro l x W K gz
   gi_wp2
   exact gz
  case body=>
   rintro l pre x W ⟨⟨⟨v,a3,fb,j_⟩,az⟩,a4⟩ bK;have Xv:=a3.cell;have Pg:=az.c0.cell;have BQ:=az.c0.frozen;have X5:=az.c1.cell;have X6:=az.c1.frozen;have X7:=az.c2.cell;have X8:=az.c2.frozen;have axa:=az.c5.lt;have jF:(lL pre).length<=pre.length:=np _ _;by_cases B2:x=65
   .exact aLR
   have azX:¬(x:O)=65:=V;by_cases v1:1<x
   .exact so
   have Yj:¬(1:O)<(x:O):=V
   gi_wp2
   refine⟨KeepsFrom.refl _ _,⟨Below.refl _ _,rfl⟩,⟨⟨v,a3,?_,?_⟩,az⟩,a4⟩
   .rw[qT,afw v1];exact fb
   simpa[j_]using λe=>B2 e.symm
  case done=>
   rintro D bZ W jD rfl ⟨⟨⟨v,a3,fb,j_⟩,az⟩,a4⟩ gz;have Xv:=a3.cell;have Pg:=az.c0.cell;have BQ:=az.c0.frozen;have X5:=az.c1.cell;have X6:=az.c1.frozen;have X7:=az.c2.cell;have X8:=az.c2.frozen;have my:=λv n e=>(Qg w.heap.size v n e W).same D _ gz rfl;have Fa:=acm cQ (8*cQ.length+1) V;have jF:(lL<|ji cQ<|8*cQ.length+1).length<=(ji cQ<|8*cQ.length+1).length:=np _ _;obtain⟨C,dc⟩:∃C,vn<|C=lL (ji cQ<|8*cQ.length+1):=⟨_,⟨rfl⟩⟩;unfold qT at fb;rw[<- dc.bV]at fb jF;have Xa:C.length<=128:=V;have xA:vn<|W.ownsRow (w.heap.size+1+1+1) 3 1 v C.length<|C.map λ(n:R)=>Value.int .i64 (n:O):=⟨fb⟩;clear fb jF Fa;obtain⟨L,hL⟩:∃L,vn<|L=C.length:=⟨_,⟨rfl⟩⟩;rw[<- hL.bV]at xA Xa;obtain⟨a,c,Js⟩:∃a c,v=.slice a L c:=by
    rcases xA.bV.2 with⟨h,ce⟩|⟨g,cap',hP,h,_⟩
    .exact⟨aq,0,by rw[ce];exact h⟩
    exact⟨_,_,h⟩
   subst Js
   gi_wp2
   case h_1.isFalse aX _=>cases aX
   all_goals
    refine⟨bP,.inl ⟨_,_,rfl,run_takeDeferred<|my _ _ _,?_⟩⟩;have bN:=((Gk az (.slice a L c) ((A:O)+8) 0).put (.deferred aq) (my _ _ _) rfl);refine⟨.tuple #[(.slice a L c),.int .i64<|(A:O)+8,.int .i64 0],ad_,_,rfl,?_⟩;rw[j'.bV,aD (λh=>by have:=h.1;first|exact this.elim|omega)];refine amc ep ((a4.trans<|Fg _ _ _ _ _).trans<|belowK_b (w:=w) (cx _) _ D _ _ aPI (my _ _ _) rfl rfl) ?_ _;have X?:=amk xA.bV (.slice a L c) ((A:O)+8) 0 (.deferred aq) gz rfl;rw[<- Eh,<- dc.bV,qJ,<- hL.bV,List.map_map];exact X?
  case stop =>rintro D c pre W jD ⟨k,aB,rfl⟩ ⟨⟨⟨rfl,j_⟩,az⟩,a4⟩ gz;have:=(ao3 aB j_).2;omega
 have Y:bt c0 0=af:=bR.2 rfl;rw[Y]at xu;clear Y;have zl:¬(N:O)<16:=V;have aw8:¬N<16:=V
 gi_wp2_with (gi_at_call 416;refine(anl _ _ _ rfl).mono ?_;rintro e w' ⟨rfl,rfl⟩)
 have HA:=Boxed.new ((((w.alloc<|.cells #[.slice aq 0 0] 60).alloc<|.cells #[.int .i64 0] 3).alloc<|.cells #[.int .i64 0] 63).alloc<|.cells #[] 3) 60<|.slice (J ⟨w.heap.size+1+1+1,0,aq⟩) 0 0;have Bf:=Boxed.new (((((w.alloc<|.cells #[.slice aq 0 0] 60).alloc<|.cells #[.int .i64 0] 3).alloc<|.cells #[.int .i64 0] 63).alloc<|.cells #[] 3).alloc<|.cells #[.slice (J ⟨w.heap.size+1+1+1,0,aq⟩) 0 0] 60) 25<|.slice (J ⟨b,off+A,aq⟩) 16<|cap-A;have eZ:=Boxed.new w 60<|.slice aq 0 0;have fx:=Boxed.new (w.alloc<|.cells #[.slice aq 0 0] 60) 3<|.int .i64 0;have e7:=Boxed.new ((w.alloc<|.cells #[.slice aq 0 0] 60).alloc<|.cells #[.int .i64 0] 3) 63<|.int .i64 0;have Jm:=World.ownsRow_made (base:=w.heap.size+1+1+1) (e:=3) (size:=1) (((w.alloc<|.cells #[.slice aq 0 0] 60).alloc<|.cells #[.int .i64 0] 3).alloc<|.cells #[.int .i64 0] 63) #[] 0 bP ai_ rfl;simp only[World.size_alloc]at HA Bf fx e7 Jm;have Bz:Below w.heap.size w<|(((((w.alloc<|.cells #[.slice aq 0 0] 60).alloc<|.cells #[.int .i64 0] 3).alloc<|.cells #[.int .i64 0] 63).alloc<|.cells #[] 3).alloc<|.cells #[.slice (J ⟨w.heap.size+1+1+1,0,aq⟩) 0 0] 60).alloc<|.cells #[.slice (J ⟨b,off+A,aq⟩) 16<|cap-A] 25:=
  (((w_ w _ _ _).alloc e8 _).alloc e8 _).alloc e8 _
 refine wpIn_rangeFunc_ownG rfl V (gf:=443) (lb:=#[.pointer<|some ⟨w.heap.size+1+1+1+1+1,0,aq⟩]) rfl trivial (enters_of Tryz.func443 BY rfl)
  (encs:=λx:R=>#[.int .i64 (x:O)]) (Kp:=YC w.heap.size<|w.heap.size+1+1+1+1+1) (S:=λbZ=>bZ=ji cQ (8*cQ.length+1)) (Sp:=λpre=>∃k,k<=8*cQ.length+1/\pre=ji cQ k) (N:=128)
  ?seq ?kt ?kb (Below.refl _ _) (λ_=>rfl)
  (λpre W=>((∃v,Boxed W (w.heap.size+1+1+1+1) 60 v/\W.ownsRow (w.heap.size+1+1+1) 3 1 v (lL pre).length (qT pre)/\¬65∈pre)/\sR w.heap.size (.slice aq 0 0) 0 0 (.slice (J ⟨b,off+A,aq⟩) 16<|cap-A) W)/\Below w.heap.size w W)
  (λc pre W=>((c=.ret/\65∈pre)/\sR w.heap.size (.slice aq 0 0) 0 2 (.slice (J ⟨b,off+A,aq⟩) 16<|cap-A) W)/\Below w.heap.size w W)
  (OwnFrom.and (OwnFrom.and (Own.from (holdsRow_own (w.heap.size+1+1+1) _ 60 3 1 (λpre=>(lL pre).length) qT<|λpre v=>¬65∈pre) _)<|Own.from (Lk w.heap.size (.slice aq 0 0) 0 0<|.slice (J ⟨b,off+A,aq⟩) 16<|cap-A) _)<|ownFrom_below (cx _) e8)
  (λc=>OwnFrom.and (OwnFrom.and (ownFrom_pure _ _)<|Own.from (Lk w.heap.size (.slice aq 0 0) 0 2<|.slice (J ⟨b,off+A,aq⟩) 16<|cap-A) _)<|ownFrom_below (cx _) e8)
  ?start
  (λx=>{ tmps:=#[Value.slice (J { block:=b,off:=off+A }) N<|cap-A,Value.int IntKind.i64 (A:O),undef,undef,Value.pointer<|some { block:=w.heap.size,off:=0 },Value.pointer<|some { block:=w.heap.size+1,off:=0 },Value.pointer<|some { block:=w.heap.size+1+1,off:=0 },Value.int IntKind.i64 16,Value.pointer<|some { block:=w.heap.size+1+1+1+1,off:=0 },Value.int IntKind.i64 (x:O),Value.int IntKind.i64 (A:O),Value.bool ag,Value.bool ag,Value.int IntKind.i64 (A:O),Value.slice (J { block:=b,off:=off }) (A+N) cap,Value.int IntKind.i64<|(A:O)+(N:O),Value.bool (decide ((A:O)+(N:O)<(A:O))),Value.bool (decide ((A:O)+(N:O)<(A:O))),Value.slice (J { block:=b,off:=off }) (A+N) cap,Value.int IntKind.i64 (A:O),Value.slice (J { block:=b,off:=off+A }) N<|cap-A,Value.slice (J { block:=b,off:=off+A }) N<|cap-A,Value.int IntKind.i64 (N:O),Value.bool af,Value.bool af,Value.slice (J { block:=b,off:=off+A }) N<|cap-A,Value.pointer<|some { block:=b,off:=off+A },Value.int gV<|aV c0,Value.int gV<|Go.bits BinOp.and gV (aV c0) 128,Value.bool af,Value.bool af,Value.slice (J { block:=b,off:=off+A }) N<|cap-A,Value.int IntKind.i64 (N:O),Value.int IntKind.i64 16,Value.bool ag,Value.slice (J { block:=w.heap.size+1+1+1,off:=0 }) 0 0,Value.slice (J { block:=b,off:=off+A }) N<|cap-A,Value.int IntKind.i64 16,Value.slice (J { block:=b,off:=off+A }) 16<|cap-A,Value.func (Fn.func 443) #[] #[Value.pointer<|some { block:=w.heap.size+1+1+1+1+1,off:=0 }],Value.int IntKind.i64 (x:O),undef,undef,undef,undef,undef,undef,undef,undef,undef,undef,undef,undef,undef,undef,undef,undef,undef,undef,undef,undef,undef,undef,undef,undef,undef,undef,undef,undef],defers:=[] }) ?assign ?body ?done ?stop
 case seq=>
  intro l iX t1 W hW m7 ahu xt aC;have dA:w.heap.size+6<=W.heap.size:=aON
  refine(ani nB w X ep ti (m+1) l (w.heap.size+1+1+1+1+1) w.heap.size b (off+A) (cap-A) cQ V ak iX t1 (λs t5 Hu hs ak=>m7 s t5 Hu aq hs ⟨ak.os,ak.tape,ak.output,ak.size,λk aB _=>ak.block k aB⟩<|λr e=>by cases e) (λpre x t5 aF _ _ hl=>xt pre x t5 aF hl) W (Bz.trans<|hW.mono e8) rfl ?_ V V (λj h => ?_) aC).mono ?_
  .exact aMN
  .exact aLD
  rintro e gO ⟨aX,h⟩;exact⟨aX,h.elim (λh=>.inl ⟨_,rfl,h⟩) λ⟨k,aB,h⟩=>.inr ⟨_,⟨k,aB,rfl⟩,h⟩⟩
 case kt=>exact λh k=>⟨h.1.trans k.1,k.2.trans h.2⟩
 case kb =>intro W l o dZ hl bg Y ac;simp at hl;exact⟨belowK_b (w:=w) (cx _) W l o dZ V bg Y ac,World.cell?_of_block<|World.putObj_heap_other e8⟩
 case start=>exact⟨⟨⟨_,HA.alloc _,(Jm.alloc _).alloc _,bP⟩,⟨eZ.alloc _ |>.alloc _ |>.alloc _ |>.alloc _ |>.alloc _,fx.alloc _ |>.alloc _ |>.alloc _ |>.alloc _,e7.alloc _ |>.alloc _ |>.alloc _,Bf⟩⟩,Bz⟩
 case assign=>
  intro l x W K gz
  gi_wp2
  exact gz
 case body=>
  rintro l pre x W ⟨⟨⟨v,a3,fb,j_⟩,az⟩,a4⟩ bK;have Xv:=a3.cell;have Pg:=az.c0.cell;have BQ:=az.c0.frozen;have X5:=az.c1.cell;have X6:=az.c1.frozen;have X7:=az.c2.cell;have X8:=az.c2.frozen;have axa:=az.c5.lt;have jF:(lL pre).length<=pre.length:=np _ _;by_cases B2:x=65
  .exact aLR
  have azX:¬(x:O)=65:=V;by_cases v1:1<x
  .exact so
  have Yj:¬(1:O)<(x:O):=V
  gi_wp2
  refine⟨KeepsFrom.refl _ _,⟨Below.refl _ _,rfl⟩,⟨⟨v,a3,?_,?_⟩,az⟩,a4⟩
  .rw[qT,afw v1];exact fb
  simpa[j_]using λe=>B2 e.symm
 case done=>
  rintro D bZ W jD rfl ⟨⟨⟨v,a3,fb,j_⟩,az⟩,a4⟩ gz;have Xv:=a3.cell;have Pg:=az.c0.cell;have BQ:=az.c0.frozen;have X5:=az.c1.cell;have X6:=az.c1.frozen;have X7:=az.c2.cell;have X8:=az.c2.frozen;have my:=λv n e=>(Qg w.heap.size v n e W).same D _ gz rfl;have Fa:=acm cQ (8*cQ.length+1) V;have jF:(lL<|ji cQ<|8*cQ.length+1).length<=(ji cQ<|8*cQ.length+1).length:=np _ _;obtain⟨C,dc⟩:∃C,vn<|C=lL (ji cQ<|8*cQ.length+1):=⟨_,⟨rfl⟩⟩;unfold qT at fb;rw[<- dc.bV]at fb jF;have Xa:C.length<=128:=V;have xA:vn<|W.ownsRow (w.heap.size+1+1+1) 3 1 v C.length<|C.map λ(n:R)=>Value.int .i64 (n:O):=⟨fb⟩;clear fb jF Fa;by_cases W?:C.length=0
  .rw[W?]at xA
   obtain⟨a,c,Js⟩:∃a c,v=.slice a 0 c:=by
    rcases xA.bV.2 with⟨h,_⟩|⟨g,cap',hP,h,_⟩
    .exact⟨_,_,h⟩
    exact⟨_,_,h⟩
   subst Js
   gi_wp2
   refine⟨bP,.inl ⟨_,_,rfl,run_takeDeferred<|my _ _ _,?_⟩⟩;have bN:=((Gk az (.slice aq 0 0) (0) 2).put (.deferred aq) (my _ _ _) rfl);refine⟨.tuple #[(.slice aq 0 0),.int .i64<|0,.int .i64 2],ad_,_,rfl,?_⟩;have hall:∀n∈h? cQ,n<65:=by intro n ax;rw[<- Eh,<- dc.bV,mW.1 W?]at ax;cases ax
   exact aJ_
  obtain⟨L,hL⟩:∃L,C.length=L+1:=⟨C.length-1,V⟩;rw[hL]at xA Xa;obtain⟨g,cap',z,Js,Ju,ahR⟩:∃g cap' z,v=.slice (J ⟨g,0,aq⟩) (L+1) cap'/\vn (C[L]?=J z)/\W.cell? ⟨g,L,aq⟩=J (.int .i64 (z:O)):=by
   rcases xA.bV.2 with⟨h,ce⟩|⟨g,cap',hP,h,hg,hh,qc,oS,gi,kR⟩
   .omega
   refine⟨g,cap',C[L]'V,h,⟨lg V⟩,?_⟩;rw[World.cell?,hh];have Y:hP.toList[L]?=J (Value.int .i64 ((C[L]'V:R):O)):=by have ac:(List.take ((L+1)*1) hP.toList)[L]?=hP.toList[L]?:=acC V;rw[<- ac,kR,M6,lg<|show L<C.length by omega];rfl
   have av:hP[L]?=J (Value.int .i64 ((C[L]'V:R):O)):=by rw[<- Y];simp
   exact aOD
  subst Js;clear W?;have II:vn<|C.length=L+1:=⟨hL⟩;clear hL;have vP:¬((L+1:R):O)=0:=V;have E':wrap64 (((L+1:R):O)-1)=(L:O):=by rw[show((L+1:R):O)-1=(L:O) by omega];unfold wrap64;omega
  have xE:(L:O)<((L+1:R):O):=V;have aIO:(0:O)<=(L:O):=V;by_cases az2:(z:O)<65
  .gi_wp2
   refine⟨bP,.inl ⟨_,_,rfl,run_takeDeferred<|my _ _ _,?_⟩⟩;have bN:=((Gk az (.slice aq 0 0) (0) 2).put (.deferred aq) (my _ _ _) rfl);refine⟨.tuple #[(.slice aq 0 0),.int .i64<|0,.int .i64 2],ad_,_,rfl,?_⟩;have hall:∀n∈h? cQ,n<65:=by intro n ax;have:=aBZ (by rw[<- Eh,<- dc.bV];exact II.bV) (by rw[<- Eh,<- dc.bV];exact Ju.bV) n ax;omega
   exact aJ_
  gi_wp2
  refine⟨bP,.inl ⟨_,_,rfl,run_takeDeferred<|my _ _ _,?_⟩⟩;have bN:=((Gk az (.slice (J ⟨g,0,aq⟩) (L+1) cap') ((A:O)+16) 0).put (.deferred aq) (my _ _ _) rfl);refine⟨.tuple #[(.slice (J ⟨g,0,aq⟩) (L+1) cap'),.int .i64<|(A:O)+16,.int .i64 0],ad_,_,rfl,?_⟩;rw[j'.bV,aD<|λh=>h.2.elim (λh=>j_<|aBW h)<|λh=>ev az2 (by have:=h z (by rw[<- Eh,<- dc.bV];exact Nb Ju.bV);omega)];refine amc ep ((a4.trans<|Fg _ _ _ _ _).trans<|belowK_b (w:=w) (cx _) _ D _ _ aPI (my _ _ _) rfl rfl) ?_ _;have X?:=amk xA.bV (.slice (J ⟨g,0,aq⟩) (L+1) cap') ((A:O)+16) 0 (.deferred aq) gz rfl;rw[<- Eh,<- dc.bV,qJ,II.bV,List.map_map];exact X?
 case stop=>
  rintro D c pre W jD ⟨k,aB,rfl⟩ ⟨⟨⟨rfl,j_⟩,az⟩,a4⟩ gz
  gi_wp2
  refine⟨bP,.inl ⟨_,_,rfl,run_takeDeferred gz,?_⟩⟩;have bN:=az.put (.deferred aq) gz rfl;refine⟨.tuple #[.slice aq 0 0,.int .i64 0,.int .i64 2],ad_,_,rfl,?_⟩;rw[j'.bV,aH ⟨by trivial,.inl (ao3 aB j_).1⟩];exact Ap ep (a4.trans<|belowK_b (w:=w) (cx _) _ D _ _ aPI gz rfl rfl) 2
end Yp
namespace Yp
open Go Go.Proofs
abbrev Sc:fV:=⟨[.sl<|.int .u8,.int .i64],[.ow<|.int .i64,.im<|.int .i64,.im<|.int .i64],adh⟩
def axL{c:ai}(h:0<c.length):gQ c 1=bt c[0] 0:=by
 unfold gQ ap
 grind
set_option maxRecDepth 100000 in
def aDW(nB:h5 Tryz.prog 424 ⟨[.int .i64],[.im<|.int .i64,.im<|.int .u8],vy⟩)(l:ai)(cM:O)(a:au Addr)(cap:R)(w:bu)(X:R->Prop)(ep:∀b,X b->b<w.heap.size)(ti:na Tryz.prog<|view w X)(Y:l.length<=cap)(zl:cap<=9223372036854775807)
  (av:l=[]\/∃b o c el fz,a=J ⟨b,o,aq⟩/\view w X b=J (.cells c el fz)/\o+l.length*1<=c.size/\∀(i:R) (x:aN),l[i]?=J x->dg c (o+i*1) 1=[Value.int .u8<|aV x]) :
  Calls Tryz.prog 360 #[Value.slice a l.length cap,Value.int .i64 cM] w λe w'=>∃cF,e=.returned cF/\jP w X w' Sc.res (ku l cM) cF:=by
 by_cases ee:cM<0
 .have e:ku l cM=([],0,1,()):=aH (.inl ee)
  refine(callsIn_wide (n:=0)).1<|aDR a _ cap cM ee 0 w X ep |>.mono ?_;intro b9 w' ⟨cF,h,ce⟩;exact aMD
 by_cases a4:(l.length:O)<cM
 .have e:ku l cM=([],0,1,()):=aH (.inr a4)
  refine(callsIn_wide (n:=0)).1<|aDS a _ cap cM ee a4 0 w X ep |>.mono ?_;intro b9 w' ⟨cF,h,ce⟩;exact aMD
 obtain⟨A,rfl⟩:∃A:R,cM=(A:O):=⟨cM.toNat,V⟩;have axd:A<=l.length:=V;have avo:ku l (A:O)=mv (l.drop A) (A:O):=by unfold ku;rw[aD V];rfl
 rw[avo];have IZ:(l.drop A).length=l.length-A:=dV;by_cases c4:A=l.length
 .have e:mv (l.drop A) (A:O)=([],0,3,()):=aH (.inl V)
  refine(callsIn_wide (n:=0)).1<|aDT a _ cap A Y c4 0 w X ep |>.mono ?_;intro b9 w' ⟨cF,h,ce⟩;exact aMD
 rcases av with rfl|⟨b,o,c,el,fz,rfl,a3,dA,I0⟩
 .simp at c4 axd;omega
 have azD:o+l.length*1<=c.size:=dA;obtain⟨pB,hh⟩:=kY.1 a3;have et:b<w.heap.size:=(jO.1 hh).1;have hcell:∀i,(h:i<l.length)->w.cell? ⟨b,o+i,aq⟩=J (.int .u8<|aV l[i]):=by
  intro i h;have c_:dg c (o+i*1) 1=[Value.int .u8<|aV l[i]]:=I0 i l[i]<|lg h;rw[pd]at c_;have eJ:c[o+i]?=J (Value.int .u8<|aV l[i]):=by have:=yp (c:=c) (o:=o+i) (n:=1) (i:=0) V;rw[c_]at this;simpa using this.symm
  rw[World.cell?,hh];simpa using eJ
 have oQ:=hcell A V;have kQ:gQ (l.drop A) 1=bt (l[A]'V) 0:=by rw[axL V];congr 1;simp
 by_cases lr:(l.drop A).length<8\/(gQ (l.drop A) 1=af/\(l.drop A).length<16)
 .have e:mv (l.drop A) (A:O)=([],0,3,()):=aH lr
  have hs:(bt (l[A]'V) 0=af/\l.length-A<16)\/(bt (l[A]'V) 0=ag/\l.length-A<8):=by
   rw[kQ,IZ]at lr;cases ak:bt (l[A]'V) 0
   .rw[ak]at lr;exact .inr ⟨rfl,by simpa using lr⟩
   exact .inl ⟨rfl,V⟩
  refine(callsIn_wide (n:=0)).1<|aDU b o _ cap A Y V _ 0 w oQ hs X ep et |>.mono ?_;intro b9 w' ⟨cF,h,ce⟩;exact aMD
 have aIA:8<=l.length-A:=V;have run:∀(S:R),(S=8\/S=16)->A+S<=l.length->(bt (l[A]'V) 0=af↔S=16)->∀bi,bi=(if S=16/\(65∈h? ((l.drop A).take S)\/∀n∈h? ((l.drop A).take S),n<65) then(([],0,2,()):ab O×O×O×aj) else(((h?<|(l.drop A).take S).map Int.ofNat,(A:O)+(S:O),(0:O),()):ab O×O×O×aj))->mv (l.drop A) (A:O)=bi ->
   Calls Tryz.prog 360 #[Value.slice (J ⟨b,o,aq⟩) l.length cap,Value.int .i64 (A:O)] w λe w'=>∃cF,e=.returned cF/\jP w X w' Sc.res (mv (l.drop A) (A:O)) cF:=by
  intro S cH hl BH bi j' aX;rw[aX];refine(callsIn_wide (n:=3)).1<|aDV nB b o _ cap A S Y hl V ((l.drop A).take S) cH (by rw[jl,IZ];omega) _ 0 w ?_ oQ BH X ep ti et bi ⟨j'⟩;intro j aF;have jE:A+j<l.length:=by rw[jl,IZ]at aF;omega
  rw[l3,hcell (A+j) jE];simp
 cases ak:bt (l[A]'V) 0
 .rw[ak]at kQ
  refine run 8 (.inl rfl) V (by rw[ak];simp) _ rfl ?_;unfold mv;rw[aD lr,aD (by rw[kQ];simp),aD V];rfl
 rw[ak]at kQ;have mc:16<=l.length-A:=by
  rcases DX (l.drop A).length 16 with h|h
  .exact ev (.inr ⟨kQ,h⟩) lr
  omega
 refine run 16 (.inr rfl) V (by rw[ak];simp) _ rfl ?_;unfold mv;rw[aD lr,aH kQ];simp only[true_and];rfl
set_option maxRecDepth 100000 in
def axw(nB:h5 Tryz.prog 424 ⟨[.int .i64],[.im<|.int .i64,.im<|.int .u8],vy⟩):h5 Tryz.prog 360 Sc:=by refine⟨⟨Tryz.f360,Tryz.func360,BY,BY⟩,?_⟩;intro w X x vs r ep aB b6 az;obtain⟨l,cM,⟨⟩⟩:=x;obtain rfl:ku l cM=r:=pb az;obtain⟨cs,eV,rfl,aA,s3,oz,rfl,q1,rfl⟩:=b6;obtain⟨a,cap,rfl,Y,ac,av⟩:=ba.jt.1 aA;obtain rfl:=ba.j1.1 q1;refine aDW nB l cM a cap w X ep aB Y ac<|av.imp id ?_;rintro⟨b,o,c,el,fz,rfl,a3,dA,I0⟩;exact⟨b,o,c,el,fz,rfl,a3,dA,λi x hx=>ba.j1.1<|I0 i x hx⟩
end Yp
namespace Yp
open Go Go.Conc Go.RowKit Go.Proofs
def rG:=@Option.getD_some
section
variable {P:d_} {i':Frame} {cs:ab Frame} {w w₁:bu} {es:cO Event} {c cap s r:R} {buf:cO aS} {z' v:aS} {tm:aE}
def aHa(h:stepG P af (G i' cs) w=.comm (G i' cs) #[scase c v z'] ag .select w₁ es)(aA:w₁.heap[c]?=J (.chan cap buf ag s r tm))(gR:buf.size<cap):
  step P (solo (G i' cs) w)=.next (solo (G (i'.finish<|.tuple #[goInt 0,.bool ag]) cs)<|w₁.setChan c cap (buf.push v) ag (s+1) r tm):=by
 have hp:=partners_alone (c:=c) ag;rw[step,stepT_solo rfl];simp[runT,solo,G,Array.swapAt!,Array.swapAt,h,GStep.es,communicate,ways,scase,aA,hp,gR,choose,Sem.run,Question.forced,bind,Sem.bind,pure,Goroutine.finishComm,commResult,World.setChan]at h ⊢
def aG9(h:stepG P af (G i' cs) w=.comm (G i' cs) #[scase c v z'] ag .select w₁ es)(aA:w₁.heap[c]?=J (.chan cap buf ag s r tm))(BL:¬buf.size<cap):
  step P (solo (G i' cs) w)=.next (solo (G (i'.finish<|.tuple #[goInt<|-1,.bool ag]) cs) w₁):=by
 have hp:=partners_alone (c:=c) ag;rw[step,stepT_solo rfl];simp[runT,solo,G,Array.swapAt!,Array.swapAt,h,GStep.es,communicate,ways,scase,aA,hp,BL,Goroutine.finishComm,commResult]at h ⊢
end
set_option maxRecDepth 100000 in
def aDs{w:bu}{c:R}{buf:cO aS}{v:aS}{tm:aE}(aA:w.heap[c]?=J (.chan cap buf ag s r tm))(gR:buf.size<cap):
  Calls Tryz.prog 425 #[.agg #[.chan<|some c],v] w λe w'=>e=.returned (.bool af)/\w'=(w.alloc<|.cells #[.chan<|some c] 404).setChan c cap (buf.push v) ag (s+1) r tm:=by
 have bK:c<w.heap.size:=(jO.1 aA).1;refine calls_of_loneTo λcs => ?_;have e:Frame.enter Tryz.prog 425 #[.agg #[.chan<|some c],v] .normal=(base 425).at ⟨#[.agg #[.chan<|some c],v,undef,undef,undef,undef,undef,undef,undef,undef,undef],[]⟩ [.code<|Tryz.f425.body.getD .skip]:=aK9
 rw[e];refine LoneTo.goes (n:=16) ?_;simp only[Tryz.f425,rG]
 s_c stepG_seq
 s_reg
 s_op
 s_op
 s_c stepG_region_end
 s_c stepG_seq
 s_c stepG_seq
 s_reg
 s_op
 s_op
 s_c stepG_region_end
 s_reg
 s_op
 s_c stepG_region_end
 s_c stepG_seq
 s_reg
 s_stop
 refine LoneTo.step (aHa (c:=c) (z':=.slice aq 0 0) (v:=v) (buf:=buf) (cap:=cap) (s:=s) (r:=r) (tm:=tm) (stepG_comm (cases:=#[scase c v<|.slice aq 0 0]) (blocking:=ag) (shape:=.select) (w':=w.alloc<|.cells #[.chan<|some c] 404) rfl rfl di aOu) aPF gR) ?_;rw[Frame.finish_at]
 walk_nrm
 refine LoneTo.goes (n:=9) ?_
 s_op
 s_op
 s_c stepG_region_end
 s_c stepG_block
 s_cond af
 s_c stepG_seq
 s_reg
 s_op
 s_c stepG_region_end
 s_stop
 refine LoneTo.goes (n:=1) ?_
 s_c stepG_ret'
 s_stop
 refine LoneTo.done ⟨.returned<|.bool af,_,rfl,⟨rfl,rfl⟩,rfl,rfl,rfl,rfl,_,Tryz.func425,aOO⟩
set_option maxRecDepth 100000 in
def aDo{w:bu}{c:R}{buf:cO aS}{v:aS}{tm:aE}(aA:w.heap[c]?=J (.chan cap buf ag s r tm))(gR:¬buf.size<cap):
  Calls Tryz.prog 425 #[.agg #[.chan<|some c],v] w λe w'=>e=.returned (.bool ag)/\w'=w.alloc (.cells #[.chan<|some c] 404):=by
 have bK:c<w.heap.size:=(jO.1 aA).1;refine calls_of_loneTo λcs => ?_;have e:Frame.enter Tryz.prog 425 #[.agg #[.chan<|some c],v] .normal=(base 425).at ⟨#[.agg #[.chan<|some c],v,undef,undef,undef,undef,undef,undef,undef,undef,undef],[]⟩ [.code<|Tryz.f425.body.getD .skip]:=aK9
 rw[e];refine LoneTo.goes (n:=16) ?_;simp only[Tryz.f425,rG]
 s_c stepG_seq
 s_reg
 s_op
 s_op
 s_c stepG_region_end
 s_c stepG_seq
 s_c stepG_seq
 s_reg
 s_op
 s_op
 s_c stepG_region_end
 s_reg
 s_op
 s_c stepG_region_end
 s_c stepG_seq
 s_reg
 s_stop
 refine LoneTo.step (aG9 (c:=c) (z':=.slice aq 0 0) (v:=v) (buf:=buf) (cap:=cap) (s:=s) (r:=r) (tm:=tm) (stepG_comm (cases:=#[scase c v<|.slice aq 0 0]) (blocking:=ag) (shape:=.select) (w':=w.alloc<|.cells #[.chan<|some c] 404) rfl rfl di aOu) aPF gR) ?_;rw[Frame.finish_at]
 walk_nrm
 refine LoneTo.goes (n:=9) ?_
 s_op
 s_op
 s_c stepG_region_end
 s_c stepG_block
 s_cond ag
 s_c stepG_seq
 s_reg
 s_op
 s_c stepG_region_end
 s_stop
 refine LoneTo.goes (n:=1) ?_
 s_c stepG_ret'
 s_stop
 refine LoneTo.done ⟨.returned<|.bool ag,_,rfl,⟨rfl,rfl⟩,rfl,rfl,rfl,rfl,_,Tryz.func425,aOO⟩
end Yp
namespace Yp
open Go Go.Conc Go.RowKit Go.Proofs
def Fm{P:d_}{Q:Goroutine->bu->Prop}{f:FuncId}{args:cO aS}{w:bu}{bi:Ending->bu->Prop}(aA:Calls P f args w bi){c:Frame}{cs:ab Frame}
  (xH:∀e w',bi e w'->∃v,e=.returned v) (h:∀v w',bi (.returned v) w'->LoneTo P Q (G (c.finish v) cs) w'):LoneTo P Q (G (Frame.enter P f args .normal)<|c::cs) w:=by
 obtain⟨e,w',i',j',hs,hf,hl⟩:=aA<|c::cs;obtain⟨v,rfl⟩:=xH e w' j';obtain⟨j9,Mb,q5,bD⟩:=h v w' j';exact⟨j9,Mb,Steps.trans hs<|Steps.head (step_leave_returned hl) q5,bD⟩
def ag1{Q':ab Item->Prop}{I:ab Item}(h:∀iX,iX=I->Q' iX):Q' I:=h I rfl
structure rF(w w':bu)(c cap:R)(buf:cO aS):Prop where
 os:w'.os=w.os
 tape:w'.tape=w.tape
 output:w'.output=w.output
 size:w.heap.size<=w'.heap.size
 other:∀b,b<w.heap.size->b≠c->w'.heap[b]?=w.heap[b]?
 ch:∃s r,w'.heap[c]?=J (.chan cap buf ag s r ag)
def rF.trans{w cW dp:bu}{c:R}{fx e7:cO aS}(h:rF w cW c cap fx)(ce:rF cW dp c cap e7):rF w dp c cap e7:=
 ⟨ce.os.trans h.os,ce.tape.trans h.tape,ce.output.trans h.output,i6 h.size ce.size,λb ak ax=>(ce.other b (ge ak h.size) ax).trans<|h.other b ak ax,ce.ch⟩
def VN{w:bu}{o:Obj}{c:R}{buf:cO aS}(aA:w.heap[c]?=J (.chan cap buf ag s r ag)):rF w (w.alloc o) c cap buf:=by have bK:c<w.heap.size:=(jO.1 aA).1;exact⟨rfl,rfl,rfl,aPR,λb ak _=>heap_alloc_old w o ak,s,r,by rw[heap_alloc_old w o bK];exact aA⟩
def afl{w:bu}{c c' st:R}{buf UR:cO aS}(aA:w.heap[c]?=J (.chan cap buf ag s r ag)):rF w (w.setChan c cap UR ag c' st ag) c cap UR:=by
 have bK:c<w.heap.size:=(jO.1 aA).1;refine⟨rfl,rfl,rfl,by rw[size_setChan];exact cx _,λb ak ax => ?_,c',st,heap_setChan w c cap UR ag c' st ag bK⟩;show(w.heap.setIfInBounds c _)[b]?=_
 grind
def aDr{w:bu}{c:R}{buf:cO aS}{v:aS}(aA:∃s r,w.heap[c]?=J (.chan cap buf ag s r ag))(gR:buf.size<cap):
  Calls Tryz.prog 425 #[.agg #[.chan<|some c],v] w λe w'=>e=.returned (.bool af)/\rF w w' c cap (buf.push v):=by
 obtain⟨s,r,aA⟩:=aA;refine(aDs aA gR).mono λe w' h=>⟨h.1,?_⟩;rw[h.2];have Y:=VN (o:=.cells #[.chan<|some c] 404) aA;obtain⟨bX,e9,ac⟩:=Y.ch;exact Y.trans<|afl ac
def aDp{w:bu}{c:R}{buf:cO aS}{v:aS}(aA:∃s r,w.heap[c]?=J (.chan cap buf ag s r ag))(BL:¬buf.size<cap):
  Calls Tryz.prog 425 #[.agg #[.chan<|some c],v] w λe w'=>e=.returned (.bool ag)/\rF w w' c cap buf:=by
 obtain⟨s,r,aA⟩:=aA;refine(aDo aA BL).mono λe w' h=>⟨h.1,?_⟩;rw[h.2];exact VN aA
def afk{w w':bu}{a:Addr}(h:w'.heap[a.block]?=w.heap[a.block]?):w'.cell? a=w.cell? a:=by unfold World.cell?;rw[h]
def aoV{x:O}(Y : -9223372036854775808<=x)(ac:x<=9223372036854775807):IntKind.i64.wrap x=x:=aoU .i64 x Y ac
set_option maxRecDepth 100000 in
def agv{w:bu}{c hB:R}{a:au Addr}{buf:cO aS}(aA:∃s r,w.heap[c]?=J (.chan cap buf ag s r ag))(ax:n<=9223372036854775807)(gR:buf.size<=cap){je:R->Addr}{val:R->aS}(ayG:∀i,i<n->∀cW:bu,(Instr.indexAt 38 (.slice a n hB)<|.int .i64 i).run Tryz.prog cW=.ok (.pointer<|some<|je i) cW)
  (hcell:∀i,i<n->w.cell? (je i)=J (val i)) (Ji:∀i,i<n->(je i).block<w.heap.size/\(je i).block≠c) :
  Calls Tryz.prog 373 #[.agg #[.chan<|some c],.slice a n hB] w λe w'=>e=.returned (.int .i64 (min n (cap-buf.size):R))/\rF w w' c cap (buf++((fw<|min n<|cap-buf.size).map val).toArray):=by
 have ahT:c<w.heap.size:=by obtain⟨s,r,aA⟩:=aA;exact(jO.1 aA).1
 refine calls_of_loneTo λcs => ?_;have e:Frame.enter Tryz.prog 373 #[.agg #[.chan<|some c],.slice a n hB] .normal=(base 373).at ⟨#[.agg #[.chan<|some c],.slice a n hB,undef,undef,undef,undef,undef,undef,undef,undef,undef,undef,undef,undef,undef,undef,undef,undef,undef,undef,undef,undef],[]⟩ [.code<|Tryz.f373.body.getD .skip]:=by simp[Frame.enter,Frame.at,Tryz.func373,base,Tryz.f373]
 rw[e];refine LoneTo.goes (n:=16) ?_;simp only[Tryz.f373,rG]
 s_c stepG_seq
 s_reg
 s_op
 s_op
 s_c stepG_region_end
 s_c stepG_seq
 s_c stepG_seq
 s_reg
 s_op
 s_op
 s_op
 s_c stepG_region_end
 s_c stepG_block
 s_c stepG_loop
 s_stop
 have Jt:rF w (w.alloc<|.cells #[.chan<|some c] 404) c cap buf:=by obtain⟨s,r,aA⟩:=aA;exact VN aA
 have te:(w.alloc<|.cells #[.chan<|some c] 404).heap[w.heap.size]?=J (.cells #[.chan<|some c] 404):=heap_alloc_new _ _;have dA:(w.alloc<|.cells #[.chan<|some c] 404).heap.size=w.heap.size+1:=jz _ _;generalize w.alloc (.cells #[.chan<|some c] 404)=fk at Jt te dA;refine ag1 (Q':=λiX=>LoneTo _ _ (G ((base 373).at _ iX) _) _) ?_;intro iX m7;have key:∀(k i:R) (cW:bu) (LV abu Ds qv wM Dt Du Dv Dw AH u8 Dx S9 S_:aS),i+k=n->buf.size+i<=cap->rF fk cW c cap (buf++((fw i).map val).toArray)->LoneTo Tryz.prog (λj9 w'=>∃e i',j9=G i' cs/\(e=.returned (.int .i64 (min n (cap-buf.size):R))/\rF w w' c cap (buf++((fw<|min n<|cap-buf.size).map val).toArray))/\i'.fn=373/\i'.leaving Tryz.prog w' e) (G ((base 373).at ⟨#[.agg #[.chan<|some c],.slice a n hB,.pointer<|some ⟨w.heap.size,0,aq⟩,undef,.int .i64 0,LV,abu,.slice a n hB,.int .i64 n,.int .i64 i,Ds,qv,wM,Dt,Du,Dv,Dw,AH,u8,Dx,S9,S_],[]⟩ iX) cs) cW:=by
  intro k;induction k with
  |zero=>
   intro i cW LV abu Ds qv wM Dt Du Dv Dw AH u8 Dx S9 S_ aB ct uz;obtain rfl:i=n:=V;rw[m7];refine LoneTo.goes (n:=14) ?_
   s_c stepG_seq
   s_reg
   s_op
   s_c stepG_region_end
   s_c stepG_seq
   s_cond ag
   s_exit
   s_c stepG_seq
   s_reg
   s_op
   s_op
   s_op
   s_c stepG_region_end
   s_c stepG_ret'
   s_stop
   have hm:min i (cap-buf.size)=i:=V;rw[hm];exact LoneTo.done ⟨.returned<|.int .i64 i,_,rfl,⟨rfl,Jt.trans uz⟩,rfl,rfl,rfl,rfl,_,Tryz.func373,aOP⟩
  |succ k ih=>
   intro i cW LV abu Ds qv wM Dt Du Dv Dw AH u8 Dx S9 S_ aB ct uz;have bK:i<n:=V;have ao:=ayG i bK;have hp:=Ji i bK;have fr:cW.cell? (je i)=J (val i):=by rw[<- hcell i bK];exact afk<|(uz.other _ V hp.2).trans (Jt.other _ hp.1 hp.2)
   have BI:cW.heap[w.heap.size]?=J (.cells #[.chan<|some c] 404):=(uz.other _ V V).trans te;have uo:cW.cell? ⟨w.heap.size,0,aq⟩=J (.chan<|some c):=by simp[World.cell?,BI]
   rw[m7];refine LoneTo.goes (n:=25) ?_
   s_c stepG_seq
   s_reg
   s_op
   s_c stepG_region_end
   s_c stepG_seq
   s_cond af
   s_c stepG_skip
   s_c stepG_seq
   s_c stepG_block
   s_c stepG_seq
   s_reg
   s_op
   s_op
   s_op
   s_op
   s_op
   s_c stepG_region_end
   s_c stepG_seq
   s_reg
   s_op
   s_op
   s_in
   refine goes_call rfl rfl di rfl Tryz.func425 BY rfl ⟨trivial,?_⟩
   walk_nrmf Tryz.f425
   s_stop
   have aX:Frame.enter Tryz.prog 425 #[.agg #[.chan<|some c],val i] .normal=(base 425).at ⟨#[.agg #[.chan<|some c],val i,undef,undef,undef,undef,undef,undef,undef,undef,undef],[]⟩ [.code<|Tryz.f425.body.getD .skip]:=aK9
   simp only[Tryz.f425,rG]at aX;rw[<- aX];have IW:(buf++((fw i).map val).toArray).size=buf.size+i:=bP;by_cases aix:(buf++((fw i).map val).toArray).size<cap
   .refine Fm (aDr uz.ch aix) (λe w' h=>⟨_,h.1⟩) (λv w' h => ?_)
    obtain⟨a3,Pl⟩:=h;cases a3;rw[Frame.finish_at]
    walk_nrm
    refine LoneTo.goes (n:=14) ?_
    s_op
    s_c stepG_region_end
    s_cond ag
    s_c stepG_skip
    s_c stepG_inBlock
    s_reg
    s_op
    s_op
    s_c stepG_region_end
    s_c stepG_inLoop
    s_stop
    rw[aoV V V];have azo:(buf++((fw i).map val).toArray).push (val i)=buf++((fw<|i+1).map val).toArray:=by apply pe;simp[A4]
    rw[azo]at Pl;have:=ih (i+1) w' (.int .i64 i) (val i) (.bool af) (.int .i64 i) (.pointer<|some<|je i) (val i) (.agg #[.chan<|some c]) (val i) (.bool af) (.bool ag) u8 (.int .i64 ((i+1:R):O)) S9 S_ V V<|uz.trans Pl;rw[m7]at this;exact this
   refine Fm (aDp uz.ch aix) (λe w' h=>⟨_,h.1⟩)<|λv w' h => ?_;obtain⟨a3,Pl⟩:=h;cases a3;rw[Frame.finish_at]
   walk_nrm
   refine LoneTo.goes (n:=14) ?_
   s_op
   s_c stepG_region_end
   s_cond af
   s_c stepG_seq
   s_reg
   s_op
   s_op
   s_c stepG_region_end
   s_c stepG_ret'
   s_stop
   have hm:min n (cap-buf.size)=i:=V;rw[hm];exact LoneTo.done ⟨.returned<|.int .i64 i,_,rfl,⟨rfl,Jt.trans<|uz.trans Pl⟩,rfl,rfl,rfl,rfl,_,Tryz.func373,aOP⟩
 have:=key n 0 fk undef undef undef undef undef undef undef undef undef undef undef undef undef undef V V (by have:buf++((fw 0).map val).toArray=buf:=bP;rw[this];obtain⟨s,r,h⟩:=Jt.ch;exact⟨rfl,rfl,rfl,cx _,λ_ _ _=>rfl,s,r,h⟩)
 exact this
def aq5:∃i,Tryz.prog.info? 25=J i/\i.bytes=24:=by
 have h:(Tryz.prog.info? 25).map (·.bytes)=J 24:=BY
 obtain⟨i,ao,ak⟩:=ns.1 h
 grind
def aBt(n:R)(ax:n<=64)(w:bu):(Instr.makeChan 402<|.int .i64 n).run Tryz.prog w=.ok (.chan<|some w.heap.size) (w.alloc<|.chan n #[] ag 0 0 ag):=by obtain⟨i,ao,ak⟩:=aq5;simpa using run_makeChan (P:=Tryz.prog) (w:=w) Tryz.underlying402 ao .i64 n V (by rw[ak];omega)
set_option maxRecDepth 100000 in
def aqD{w:bu}(ax:n<=64):
  Calls Tryz.prog 372 #[.int .i64 n] w λe w'=>e=.returned (.agg #[.chan<|some<|w.heap.size+1])/\w'.os=w.os/\w'.tape=w.tape/\w'.output=w.output/\w'.heap.size=w.heap.size+2/\(∀b,b<w.heap.size->w'.heap[b]?=w.heap[b]?)/\w'.heap[w.heap.size+1]?=J (.chan n #[] ag 0 0 ag):=by
 refine calls_of_loneTo λcs => ?_;have e:Frame.enter Tryz.prog 372 #[.int .i64 n] .normal=(base 372).at ⟨#[.int .i64 n,undef,undef,undef,undef,undef],[]⟩ [.code<|Tryz.f372.body.getD .skip]:=by simp[Frame.enter,Frame.at,Tryz.func372,base,Tryz.f372]
 rw[e];have Jf:=aBt n ax;refine LoneTo.goes (n:=16) ?_;simp only[Tryz.f372,rG]
 s_c stepG_seq
 s_reg
 s_op
 s_c stepG_region_end
 s_c stepG_seq
 s_reg
 s_op
 s_op
 s_op
 s_op
 s_c stepG_region_end
 s_c stepG_ret'
 s_stop
 have bR:((w.alloc<|.cells #[.chan<|some<|w.heap.size+1] 404).alloc<|.chan n #[] ag 0 0 ag).heap[w.heap.size]?=J (.cells #[.chan<|some<|w.heap.size+1] 404):=aPN
 have uo:((w.alloc<|.cells #[.chan<|some<|w.heap.size+1] 404).alloc<|.chan n #[] ag 0 0 ag).cell? ⟨w.heap.size,0,aq⟩=J (.chan<|some<|w.heap.size+1):=by simp[World.cell?,bR]
 refine LoneTo.done ⟨.returned<|.agg #[.chan<|some<|w.heap.size+1],_,rfl,⟨rfl,rfl,rfl,rfl,?_,?_,?_⟩,rfl,rfl,rfl,rfl,_,Tryz.func372,?_⟩
 .rw[jz,jz]
 .intro b ak
  exact aPX
 .have:=heap_alloc_new (w.alloc<|.cells #[.chan<|some<|w.heap.size+1] 404) (.chan n #[] ag 0 0 ag)
  rw[jz]at this;exact this
 generalize((w.alloc<|.cells #[.chan<|some<|w.heap.size+1] 404).alloc<|.chan n #[] ag 0 0 ag)=dp at uo;simp only[results,Tryz.f372,Frame.at]
 go_simp
end Yp
namespace Yp
open Go Go.Proofs
def w6(cW:bu)(lo c:R)(vals:cO aS)(m:R)(kH:aS):Prop:=
 ∃b hB p3,kH=.slice (J ⟨b,0,aq⟩) m hB/\cW.heap[b]?=J (.cells p3 25)/\m<=hB/\hB<=maxLen/\p3.size=hB/\(∀j,j<m->p3[j]?=vals[j]?)/\lo<=b/\b≠c
def aAq:∃i,Tryz.prog.info? 25=J i/\i.size=1/\i.bytes=24/\i.zero=J (.slice aq 0 0):=by
 have h:(Tryz.prog.info? 25).map (λi=>(i.size,i.bytes,i.zero))=J (1,24,J<|.slice aq 0 0):=BY
 obtain⟨i,ao,ak⟩:=ns.1 h;simp only[mV]at ak;exact⟨i,ao,ak.1,ak.2.1,ak.2.2⟩
structure apE(w w':bu)(lo c:R):Prop where
 os:w'.os=w.os
 tape:w'.tape=w.tape
 output:w'.output=w.output
 size:w.heap.size<=w'.heap.size
 other:∀b,b<w.heap.size->(b<lo\/b=c)->w'.heap[b]?=w.heap[b]?
def aqb{cW:bu}{lo c m:R}{vals:cO aS}{kH v:aS}(h:w6 cW lo c vals m kH){uH:R}(ax:cW.heap[uH]?=J (.cells #[v] 25))(a3:vals[m]?=J v)(hm:m+1<=64)(hone:v.oneCell'=af)(r5:lo<=cW.heap.size)(aA:c<cW.heap.size):
  ∃GL dp,(Builtin.append_ #[38,38] 38 #[kH,.slice (J ⟨uH,0,aq⟩) 1 1]).run Tryz.prog cW=.ok GL dp/\w6 dp lo c vals (m+1) GL/\apE cW dp lo c:=by
 obtain⟨b,hB,p3,rfl,ak,Jf,pw,dA,Jq,O?,uo⟩:=h;obtain⟨i,ao,xR,Yo,B4⟩:=aAq;have ht:=Tryz.underlying38;have hx:oF Tryz.prog cW i.size 1 (.slice (J ⟨uH,0,aq⟩) 1 1) [v]:=by refine⟨λ_=>rfl,λw' bR => ?_⟩;simp only[Builtin.firstCells];have:=Gq (P:=Tryz.prog) (w:=w') (b:=uH) (o:=0) (n:=1) (by rw[bR];exact ax) bP;rw[xR];simpa[dg]using this
 by_cases gR:m+1<=hB
 .obtain⟨dp,az,dj,hp,hl⟩:=Sa (P:=Tryz.prog) (w:=cW) (ty:=38) ht ht (.inr ⟨25,rfl⟩) ao hx (b:=b) (o:=0) (sLen:=m) (sCap:=hB) gR ak (.inl rfl) aOv (by simpa using hone)
  refine⟨_,dp,az,⟨b,hB,dj,rfl,hp.jW,gR,pw,?_,?_,O?,uo⟩,⟨hp.os,hp.tape,hp.output,by rw[hp.size];exact cx _,λeH oa m_=>hp.other eH (by rintro rfl;rcases m_ with q|q<;>omega)⟩⟩
  .have Y:=d4 T hl
   rw[GJ aOv]at Y
   grind
  intro j aF;have Y:dj[j]?=dj.toList[j]?:=bP;rw[Y,hl,GI aOv,xR]
  grind
 have bg:oF Tryz.prog cW i.size m (.slice (J ⟨b,0,aq⟩) m hB)<|dg p3 0 m:=by refine⟨λ_=>rfl,λw' bR => ?_⟩;simp only[Builtin.firstCells];rw[xR,pd];exact Gq (P:=Tryz.prog) (w:=w') (b:=b) (o:=0) (n:=m) (by rw[bR];exact ak) V
 have az:=aaQ (P:=Tryz.prog) (w:=cW) (ty:=38) ht ht (.inr ⟨25,rfl⟩) ao B4 hx (ad:=J ⟨b,0,aq⟩) (sLen:=m) (sCap:=hB) bg V ai_ (by rw[Yo];omega);have nC:=grownCap_ge cW (m+1) hB 25;have pw:=grownCap_le_maxLen cW (m+1) hB 25 ai_;refine⟨_,_,az,⟨cW.heap.size,_,_,rfl,sW cW.drew _,nC,pw,?_,?_,r5,V⟩,⟨rfl,rfl,rfl,aPR,λeH oa _=>sX cW.drew _ eH oa⟩⟩
 .rw[yI,size_zeroCells]
  simp only[yI,qI,sx<|show 0+m<=p3.size by omega];simp[Value.cells];omega
 intro j aF;have tl:(dg p3 0 m).length=m:=sx V;by_cases q:j<m
 .rw[AZ (by simp[tl];omega),AZ (by simp[tl];omega)]
  rw[rL,yp q,oD];exact Jq j q
 obtain rfl:j=m:=V;rw[AZ<|by simp[tl],a3];simp[tl]
end Yp
namespace Yp
open Go Go.Conc Go.RowKit Go.Proofs
structure wW(w w':bu)(lo c:R):Prop where
 os:w'.os=w.os
 tape:w'.tape=w.tape
 output:w'.output=w.output
 size:w.heap.size<=w'.heap.size
 other:∀b,b<lo->b≠c->w'.heap[b]?=w.heap[b]?
def aHF{o:Oper}{a:Act}{K:Act->bu->Prop}{r:Result Go.Next}{v:aS}{w':bu}(h:r=.ok (.value v) w')(ac:K (a.put o.dst v) w'):uponK o a K r:=by rw[h];exact ac
set_option maxRecDepth 100000 in
def ap5{w:bu}{c:R}{buf:cO aS}(aA:∃s r,w.heap[c]?=J (.chan cap buf ag s r ag))(zm:buf.size<=64)(hone:∀v∈buf,∃a n hB,v=.slice a n hB):
  Calls Tryz.prog 374 #[.agg #[.chan<|some c]] w λe w'=>∃kH,e=.returned kH/\w6 w' (w.heap.size+1) c buf buf.size kH/\wW w w' w.heap.size c:=by
 obtain⟨sw,Qu,aA⟩:=aA;have ahT:c<w.heap.size:=(jO.1 aA).1;have q1:((w.alloc<|.cells #[.chan<|some c] 404).alloc<|.cells #[] 25).heap[c]?=J (.chan cap buf ag sw Qu ag):=by rw[heap_alloc_old _ _ aK8,heap_alloc_old _ _ ahT];exact aA
 have ayM:=run_len_chan (P:=Tryz.prog) 402 3 Tryz.underlying402 q1;refine calls_of_loneTo λcs => ?_;have e:Frame.enter Tryz.prog 374 #[.agg #[.chan<|some c]] .normal=(base 374).at ⟨#[.agg #[.chan<|some c],undef,undef,undef,undef,undef,undef,undef,undef,undef,undef,undef,undef,undef,undef,undef,undef,undef],[]⟩ [.code<|Tryz.f374.body.getD .skip]:=by simp[Frame.enter,Frame.at,Tryz.func374,base,Tryz.f374]
 rw[e];refine LoneTo.goes (n:=25) ?_;simp only[Tryz.f374,rG]
 s_c stepG_seq
 s_reg
 s_op
 s_op
 s_c stepG_region_end
 s_c stepG_seq
 s_reg
 s_op
 s_op
 s_c stepG_region_end
 s_c stepG_seq
 s_c stepG_seq
 s_reg
 s_op
 s_op
 s_op
 s_op
 s_c stepG_region_end
 s_c stepG_block
 s_c stepG_loop
 s_stop
 have nE:wW w ((w.alloc<|.cells #[.chan<|some c] 404).alloc<|.cells #[] 25) w.heap.size c:=⟨rfl,rfl,rfl,by rw[jz,jz];omega,λb ak _=>aPX⟩;have te:((w.alloc<|.cells #[.chan<|some c] 404).alloc<|.cells #[] 25).heap[w.heap.size]?=J (.cells #[.chan<|some c] 404):=aPN
 have fb:w6 ((w.alloc<|.cells #[.chan<|some c] 404).alloc<|.cells #[] 25) (w.heap.size+1) c buf 0<|.slice (J ⟨w.heap.size+1,0,aq⟩) 0 0:=by refine⟨w.heap.size+1,0, #[],rfl,?_,cx _,ea _,rfl,λj aF=>ev aF<|MG j,cx _,V⟩;have:=heap_alloc_new (w.alloc<|.cells #[.chan<|some c] 404)<|.cells #[] 25;rw[jz]at this;exact this
 have dA:((w.alloc<|.cells #[.chan<|some c] 404).alloc<|.cells #[] 25).heap.size=w.heap.size+2:=by rw[jz,jz]
 generalize(w.alloc<|.cells #[.chan<|some c] 404).alloc (.cells #[] 25)=fk at q1 nE te fb dA ayM;refine ag1 (Q':=λiX=>LoneTo _ _ (G ((base 374).at _ iX) _) _) ?_;intro iX m7;have key:∀(k i:R) (cW:bu) (kH Dx Ds qv wM Dt Du Dv Dw AH:aS),i+k=buf.size->w6 cW (w.heap.size+1) c buf i kH->wW w cW w.heap.size c->w.heap.size+2<=cW.heap.size->cW.heap[w.heap.size]?=J (.cells #[.chan<|some c] 404)->(∃s r l8,cW.heap[c]?=J (.chan cap l8 ag s r ag)/\l8.toList=buf.toList.drop i) ->
   LoneTo Tryz.prog (λj9 w'=>∃e i',j9=G i' cs/\(∃kH,e=.returned kH/\w6 w' (w.heap.size+1) c buf buf.size kH/\wW w w' w.heap.size c)/\i'.fn=374/\i'.leaving Tryz.prog w' e) (G ((base 374).at ⟨#[.agg #[.chan<|some c],.pointer<|some ⟨w.heap.size,0,aq⟩,.slice aq 0 0,kH,.slice (J ⟨w.heap.size+1,0,aq⟩) 0 0,.pointer<|some ⟨w.heap.size,0,aq⟩,.chan<|some c,.int .i64 buf.size,.int .i64 i,Dx,Ds,qv,wM,Dt,Du,Dv,Dw,AH],[]⟩ iX) cs) cW:=by
  intro k;induction k with
  |zero=>
   intro i cW kH Dx Ds qv wM Dt Du Dv Dw AH aB j' gz lr a4 dc;obtain rfl:i=buf.size:=V;rw[m7];refine LoneTo.goes (n:=14) ?_
   s_c stepG_seq
   s_reg
   s_op
   s_c stepG_region_end
   s_c stepG_seq
   s_cond ag
   s_exit
   s_c stepG_seq
   s_reg
   s_op
   s_op
   s_c stepG_region_end
   s_c stepG_ret'
   s_stop
   exact LoneTo.done ⟨.returned kH,_,rfl,⟨kH,rfl,j',gz⟩,rfl,rfl,rfl,rfl,_,Tryz.func374,by simp[results,Tryz.f374,Frame.at]⟩
  |succ k ih=>
   intro i cW kH Dx Ds qv wM Dt Du Dv Dw AH aB j' gz lr a4 dc;have bK:i<buf.size:=V;obtain⟨cZ,Tc,Tb,aiH⟩:=hone _<|Array.getElem_mem bK;have uo:cW.cell? ⟨w.heap.size,0,aq⟩=J (.chan<|some c):=by simp[World.cell?,a4]
   obtain⟨s,r,l8,IX,Xs⟩:=dc;have IW:0<l8.size:=by have:=d4 T Xs;simp at this;omega
   have azR:l8.getD 0 undef=buf[i]:=by
    have aC:l8[0]?=J buf[i]:=by rw[<- yM,Xs];simp[bK]
    simp[o?,aC]
   have aym:(l8.extract 1 l8.size).toList=buf.toList.drop (i+1):=by
    have Y:(l8.extract 1 l8.size).toList=l8.toList.drop 1:=by rw[Array.toList_extract,List.extract_eq_take_drop];exact i5 bP
    rw[Y,Xs,Hc]
   rw[m7];refine LoneTo.goes (n:=12) ?_
   s_c stepG_seq
   s_reg
   s_op
   s_c stepG_region_end
   s_c stepG_seq
   s_cond af
   s_c stepG_skip
   s_c stepG_seq
   s_c stepG_block
   s_reg
   s_op
   s_op
   s_stop
   refine LoneTo.goes (n:=1) ?_
   s_op
   s_stop
   refine LoneTo.step (step_lone_recv_buf ag (c:=c) (z:=.slice aq 0 0) (cap:=cap) (buf:=l8) (closed:=ag) (s:=s) (r:=r) (tm:=ag) (stepG_comm (cases:=#[rcase c<|.slice aq 0 0]) (blocking:=af) (shape:=.recv ag) (w':=cW) rfl rfl di<|by simp[go_sem,execOp,rcase,Act.eval]) IX IW) ?_;rw[Frame.finish_at,azR,aiH];simp only[got]
   walk_nrm
   have q5:(cW.setChan c cap (l8.extract 1 l8.size) ag s (r+1) ag).heap.size=cW.heap.size:=size_setChan ..
   have m':rF cW (cW.setChan c cap (l8.extract 1 l8.size) ag s (r+1) ag) c cap<|l8.extract 1 l8.size:=afl IX;generalize cW.setChan c cap (l8.extract 1 l8.size) ag s (r+1) ag=dp at q5 m';obtain⟨b,hB,p3,rfl,ak,Jf,pw,IQ,Jq,O?,ahL⟩:=j';have axQ:b<cW.heap.size:=(jO.1 ak).1;have axs:w6 (dp.alloc<|.cells #[.slice cZ Tc Tb] 25) (w.heap.size+1) c buf i<|.slice (J ⟨b,0,aq⟩) i hB:=⟨b,hB,p3,rfl,by rw[heap_alloc_old _ _ V,m'.other b axQ ahL];exact ak,Jf,pw,IQ,Jq,O?,ahL⟩;obtain⟨GL,h3,O2,axt,EU⟩:=aqb axs (heap_alloc_new dp<|.cells #[.slice cZ Tc Tb] 25) (v:=.slice cZ Tc Tb) (by rw[<- aiH];simp[bK]) V rfl aK8 aK8;rw[q5]at O2;refine LoneTo.goes (n:=12) ?_
   s_op
   s_in;refine goes_oper_k rfl rfl di<|λK gz => ?_
   refine aHF (v:=GL) (w':=h3) ?_ ?_
   .simp only[List.getElem_toArray,List.getElem_cons_succ,List.getElem_cons_zero,execOp,resolve,invoke,Go.builtin]
    walk_nrm
    simp only[Sem.run_bind,Sem.run_pure,Result.andThen];rw[O2]
   refine gz _ _ ⟨trivial,?_⟩;clear gz K
   walk_nrm
   s_op
   s_c stepG_region_end
   s_c stepG_inBlock
   s_reg
   s_op
   s_op
   s_c stepG_region_end
   s_c stepG_inLoop
   s_stop
   rw[aoV V V];have hold:∀eH,eH<w.heap.size+1->eH≠c->h3.heap[eH]?=cW.heap[eH]?:=by intro eH oa fs;rw[EU.other eH aK8<|.inl oa,heap_alloc_old _ _ V,m'.other eH V fs]
   have azF:=EU.size;rw[jz]at azF;obtain⟨eX,wl,axX⟩:=m'.ch;have:=ih (i+1) h3 GL (.bool af) (.slice (J ⟨b,0,aq⟩) i hB) (.pointer<|some ⟨w.heap.size,0,aq⟩) (.chan<|some c) (.slice cZ Tc Tb) (.slice (J ⟨cW.heap.size,0,aq⟩) 1 1) GL (.int .i64 ((i+1:R):O)) AH V axt
    ⟨EU.os.trans<|m'.os.trans gz.os,EU.tape.trans<|m'.tape.trans gz.tape,EU.output.trans<|m'.output.trans gz.output,by have:=gz.size;omega,λeH oa fs=>(hold eH V fs).trans<|gz.other eH oa fs⟩ V ((hold _ V V).trans a4)
    ⟨eX,wl,l8.extract 1 l8.size,by rw[EU.other c aK8<|.inr rfl,heap_alloc_old _ _ V];exact axX,aym⟩
   rw[m7]at this;exact this
 exact key buf.size 0 fk _ undef undef undef undef undef undef undef undef undef V fb nE V te ⟨sw,Qu,buf,q1,bP⟩
structure MR(w:bu)(a:au Addr)(n hB:R)(je:R->Addr)(val:R->aS):Prop where
 ix:∀i,i<n->∀cW:bu,(Instr.indexAt 38 (.slice a n hB)<|.int .i64 i).run Tryz.prog cW=.ok (.pointer<|some<|je i) cW
 cell:∀i,i<n->w.cell? (je i)=J (val i)
 low:∀i,i<n->(je i).block<w.heap.size
 sl:∀i,i<n->∃a n hB,val i=.slice a n hB
 bL:n<=9223372036854775807
set_option maxRecDepth 100000 in
def aDa{w:bu}{q l:aS}{iq:O}(az:iq<1):
  Calls Tryz.prog 284 #[q,l,.int .i64 iq] w λe w'=>e=.returned (.tuple #[q,.int .i64 0,.int .i64 1])/\w'=w:=by
 refine calls_of_loneTo λcs => ?_;have e:Frame.enter Tryz.prog 284 #[q,l,.int .i64 iq] .normal=(base 284).at ⟨#[q,l,.int .i64 iq,undef,undef,undef,undef,undef,undef,undef,undef,undef,undef,undef,undef,undef,undef,undef,undef,undef,undef,undef,undef,undef,undef,undef,undef,undef,undef,undef,undef,undef,undef],[]⟩ [.code<|Tryz.f284.body.getD .skip]:=aM0
 rw[e];refine LoneTo.goes (n:=30) ?_;simp only[Tryz.f284,rG]
 s_c stepG_seq
 s_reg
 s_op
 s_op
 s_op
 s_c stepG_region_end
 s_c stepG_seq
 s_c stepG_seq
 s_reg
 s_op
 s_op
 s_op
 s_in
 rw[stepG_unwanted rfl rfl];simp only[goes_go];refine⟨trivial,?_⟩
 walk_nrm
 s_in
 rw[stepG_unwanted rfl rfl];simp only[goes_go];refine⟨trivial,?_⟩
 walk_nrm
 s_op
 s_c stepG_region_end
 s_cond af
 s_c stepG_seq
 s_reg
 s_op
 s_op
 s_op
 s_op
 s_c stepG_region_end
 s_c stepG_ret'
 s_stop
 exact LoneTo.done ⟨.returned<|.tuple #[q,.int .i64 0,.int .i64 1],_,rfl,⟨rfl,rfl⟩,rfl,rfl,rfl,rfl,_,Tryz.func284,aOQ⟩
set_option maxRecDepth 100000 in
def aC9{w:bu}{q l:aS}{iq:O}(aC:¬iq<1)(az:64<iq):
  Calls Tryz.prog 284 #[q,l,.int .i64 iq] w λe w'=>e=.returned (.tuple #[q,.int .i64 0,.int .i64 1])/\w'=w:=by
 refine calls_of_loneTo λcs => ?_;have e:Frame.enter Tryz.prog 284 #[q,l,.int .i64 iq] .normal=(base 284).at ⟨#[q,l,.int .i64 iq,undef,undef,undef,undef,undef,undef,undef,undef,undef,undef,undef,undef,undef,undef,undef,undef,undef,undef,undef,undef,undef,undef,undef,undef,undef,undef,undef,undef,undef,undef],[]⟩ [.code<|Tryz.f284.body.getD .skip]:=aM0
 rw[e];refine LoneTo.goes (n:=30) ?_;simp only[Tryz.f284,rG]
 s_c stepG_seq
 s_reg
 s_op
 s_op
 s_op
 s_c stepG_region_end
 s_c stepG_seq
 s_c stepG_seq
 s_reg
 s_op
 s_op
 s_op
 s_op
 s_op
 s_op
 s_c stepG_region_end
 s_cond af
 s_c stepG_seq
 s_reg
 s_op
 s_op
 s_op
 s_op
 s_c stepG_region_end
 s_c stepG_ret'
 s_stop
 exact LoneTo.done ⟨.returned<|.tuple #[q,.int .i64 0,.int .i64 1],_,rfl,⟨rfl,rfl⟩,rfl,rfl,rfl,rfl,_,Tryz.func284,aOQ⟩
set_option maxRecDepth 100000 in
set_option maxHeartbeats 800000 in
def aDc{w:bu}{wk zN:au Addr}{qn tD aQ b? bi:R}(Y:1<=bi)(zm:bi<=64){alb ajB:R->Addr}{uN zU:R->aS}(bD:MR w wk qn tD alb uN)(hl:MR w zN aQ b? ajB zU):
  Calls Tryz.prog 284 #[.slice wk qn tD,.slice zN aQ b?,.int .i64 bi] w λe w'=>(bi<qn/\e=.returned (.tuple #[.slice wk qn tD,.int .i64 0,.int .i64 0])\/qn<=bi/\∃kH,e=.returned (.tuple #[kH,.int .i64 (min aQ (bi-qn):R),.int .i64 0])/\w6 w' w.heap.size (w.heap.size+1) ((fw qn).map uN++(fw<|min aQ<|bi-qn).map zU).toArray (qn+min aQ (bi-qn)) kH)/\wW w w' w.heap.size (w.heap.size+1):=by
 have Pg:¬(bi:O)<1:=V;have BQ:¬(64:O)<(bi:O):=V;refine calls_of_loneTo λcs => ?_;have e:Frame.enter Tryz.prog 284 #[.slice wk qn tD,.slice zN aQ b?,.int .i64 bi] .normal=(base 284).at ⟨#[.slice wk qn tD,.slice zN aQ b?,.int .i64 bi,undef,undef,undef,undef,undef,undef,undef,undef,undef,undef,undef,undef,undef,undef,undef,undef,undef,undef,undef,undef,undef,undef,undef,undef,undef,undef,undef,undef,undef,undef],[]⟩ [.code<|Tryz.f284.body.getD .skip]:=by simp[Frame.enter,Frame.at,Tryz.func284,base,Tryz.f284]
 rw[e];refine LoneTo.goes (n:=30) ?_;simp only[Tryz.f284,rG]
 s_c stepG_seq
 s_reg
 s_op
 s_op
 s_op
 s_c stepG_region_end
 s_c stepG_seq
 s_c stepG_seq
 s_reg
 s_op
 s_op
 s_op
 s_op
 s_op
 s_op
 s_c stepG_region_end
 s_cond ag
 s_c stepG_skip
 s_c stepG_seq
 s_reg
 s_op
 s_in
 refine goes_call rfl rfl di rfl Tryz.func372 (by kernel_rfl) rfl ⟨trivial,?_⟩
 walk_nrmf Tryz.f372
 s_stop
 have ur:Frame.enter Tryz.prog 372 #[.int .i64 bi] .normal=(base 372).at ⟨#[.int .i64 bi,undef,undef,undef,undef,undef],[]⟩ [.code<|Tryz.f372.body.getD .skip]:=by simp[Frame.enter,Frame.at,Tryz.func372,base,Tryz.f372]
 simp only[Tryz.f372,rG]at ur;rw[<- ur];refine Fm (aqD zm) (λe w' h=>⟨_,h.1⟩)<|λv cW h => ?_;obtain⟨a3,fx,e7,kr,p5,rQ,t7⟩:=h;cases a3;rw[Frame.finish_at]
 walk_nrm
 refine LoneTo.goes (n:=30) ?_
 s_op
 s_op
 s_c stepG_region_end
 s_c stepG_seq
 s_c stepG_seq
 s_reg
 s_op
 s_op
 s_stop
 have te:(cW.alloc<|.cells #[.chan<|some<|w.heap.size+1] 404).heap[w.heap.size+2]?=J (.cells #[.chan<|some<|w.heap.size+1] 404):=by have:=heap_alloc_new cW<|.cells #[.chan<|some<|w.heap.size+1] 404;rw[p5]at this;exact this
 have IX:∃s r,(cW.alloc<|.cells #[.chan<|some<|w.heap.size+1] 404).heap[w.heap.size+1]?=J (.chan bi #[] ag s r ag):=⟨0,0,by rw[heap_alloc_old _ _ V];exact t7⟩;have oS:wW w (cW.alloc<|.cells #[.chan<|some<|w.heap.size+1] 404) w.heap.size<|w.heap.size+1:=⟨fx,e7,kr,by rw[jz];omega,λb ak _=>by rw[heap_alloc_old _ _ V];exact rQ b ak⟩;have q5:(cW.alloc<|.cells #[.chan<|some<|w.heap.size+1] 404).heap.size=w.heap.size+3:=by rw[jz];omega
 generalize cW.alloc (.cells #[.chan<|some<|w.heap.size+1] 404)=dp at te IX oS q5;have anS:∀{a:au Addr} {n hB:R} {je:R->Addr} {val:R->aS} (Tq:bu),MR w a n hB je val->wW w Tq w.heap.size (w.heap.size+1)->(∀i,i<n->Tq.cell? (je i)=J (val i))/\∀i,i<n->(je i).block<Tq.heap.size/\(je i).block≠w.heap.size+1:=by intro a n hB je val Tq hs aB;refine⟨λi ao => ?_,λi ao=>⟨ge (hs.low i ao) aB.size,by have:=hs.low i ao;omega⟩⟩;rw[<- hs.cell i ao];exact afk<|aB.other _ (hs.low i ao) (by have:=hs.low i ao;omega)
 refine LoneTo.goes (n:=3) ?_
 s_in
 refine goes_call rfl rfl di rfl Tryz.func373 (by kernel_rfl) rfl ⟨trivial,?_⟩
 walk_nrmf Tryz.f373
 s_stop
 have vS:Frame.enter Tryz.prog 373 #[.agg #[.chan<|some<|w.heap.size+1],.slice wk qn tD] .normal=(base 373).at ⟨#[.agg #[.chan<|some<|w.heap.size+1],.slice wk qn tD,undef,undef,undef,undef,undef,undef,undef,undef,undef,undef,undef,undef,undef,undef,undef,undef,undef,undef,undef,undef],[]⟩ [.code<|Tryz.f373.body.getD .skip]:=by simp[Frame.enter,Frame.at,Tryz.func373,base,Tryz.f373]
 simp only[Tryz.f373,rG]at vS;rw[<- vS];have ls:=anS dp bD oS;refine Fm (agv IX bD.bL (ea _) bD.ix ls.1 ls.2) (λe w' h=>⟨_,h.1⟩)<|λv fQ h => ?_;obtain⟨a3,v0⟩:=h;cases a3;have gi:wW w fQ w.heap.size<|w.heap.size+1:=⟨v0.os.trans oS.os,v0.tape.trans oS.tape,v0.output.trans oS.output,i6 oS.size v0.size,λb ak fs=>(v0.other b V fs).trans<|oS.other b ak fs⟩;have ahM:fQ.heap[w.heap.size+2]?=J (.cells #[.chan<|some<|w.heap.size+1] 404):=(v0.other _ V V).trans te;have aIU:w.heap.size+3<=fQ.heap.size:=by have:=v0.size;omega
 have uo:fQ.cell? ⟨w.heap.size+2,0,aq⟩=J (.chan<|some<|w.heap.size+1):=by simp[World.cell?,ahM]
 by_cases BL:bi<qn
 .have hm:min qn (bi-(#[]:cO aS).size)=bi:=e8
  rw[hm,Frame.finish_at]
  walk_nrm
  refine LoneTo.goes (n:=30) ?_
  s_op
  s_op
  s_op
  s_c stepG_region_end
  s_cond af
  s_c stepG_seq
  s_reg
  s_op
  s_op
  s_op
  s_op
  s_c stepG_region_end
  s_c stepG_ret'
  s_stop
  exact LoneTo.done ⟨.returned<|.tuple #[.slice wk qn tD,.int .i64 0,.int .i64 0],_,rfl,⟨.inl ⟨BL,rfl⟩,gi⟩,rfl,rfl,rfl,rfl,_,Tryz.func284,by simp[results,Tryz.f284,Frame.at]⟩
 have hm:min qn (bi-(#[]:cO aS).size)=qn:=e8;rw[hm]at v0 ⊢;rw[Frame.finish_at]
 walk_nrm
 have Xr:#[]++((fw qn).map uN).toArray=((fw qn).map uN).toArray:=bP;rw[Xr]at v0;have axS:((fw qn).map uN).toArray.size=qn:=bP;refine LoneTo.goes (n:=30) ?_
 s_op
 s_op
 s_op
 s_c stepG_region_end
 s_cond ag
 s_c stepG_skip
 s_c stepG_seq
 s_reg
 s_op
 s_op
 s_stop
 refine LoneTo.goes (n:=3) ?_
 s_in
 refine goes_call rfl rfl di rfl Tryz.func373 (by kernel_rfl) rfl ⟨trivial,?_⟩
 walk_nrmf Tryz.f373
 s_stop
 have E0:Frame.enter Tryz.prog 373 #[.agg #[.chan<|some<|w.heap.size+1],.slice zN aQ b?] .normal=(base 373).at ⟨#[.agg #[.chan<|some<|w.heap.size+1],.slice zN aQ b?,undef,undef,undef,undef,undef,undef,undef,undef,undef,undef,undef,undef,undef,undef,undef,undef,undef,undef,undef,undef],[]⟩ [.code<|Tryz.f373.body.getD .skip]:=by simp[Frame.enter,Frame.at,Tryz.func373,base,Tryz.f373]
 simp only[Tryz.f373,rG]at E0;rw[<- E0];have aih:=anS fQ hl gi;refine Fm (agv v0.ch hl.bL V hl.ix aih.1 aih.2) (λe w' h=>⟨_,h.1⟩)<|λv h3 h => ?_;obtain⟨a3,oT⟩:=h;cases a3;rw[axS]at oT ⊢;have kR:wW w h3 w.heap.size<|w.heap.size+1:=⟨oT.os.trans gi.os,oT.tape.trans gi.tape,oT.output.trans gi.output,i6 gi.size oT.size,λb ak fs=>(oT.other b V fs).trans<|gi.other b ak fs⟩;have axR:h3.heap[w.heap.size+2]?=J (.cells #[.chan<|some<|w.heap.size+1] 404):=(oT.other _ V V).trans ahM;have azv:w.heap.size+3<=h3.heap.size:=by have:=oT.size;omega
 have aIE:h3.cell? ⟨w.heap.size+2,0,aq⟩=J (.chan<|some<|w.heap.size+1):=by simp[World.cell?,axR]
 have hall:((fw qn).map uN).toArray++((fw<|min aQ<|bi-qn).map zU).toArray=((fw qn).map uN++(fw<|min aQ<|bi-qn).map zU).toArray:=bP;rw[hall]at oT;have IQ:((fw qn).map uN++(fw<|min aQ<|bi-qn).map zU).toArray.size=qn+min aQ (bi-qn):=bP;rw[Frame.finish_at]
 walk_nrm
 refine LoneTo.goes (n:=30) ?_
 s_op
 s_c stepG_region_end
 s_c stepG_seq
 s_reg
 s_op
 s_in
 refine goes_call rfl rfl di rfl Tryz.func374 (by kernel_rfl) rfl ⟨trivial,?_⟩
 walk_nrmf Tryz.f374
 s_stop
 have ahZ:Frame.enter Tryz.prog 374 #[.agg #[.chan<|some<|w.heap.size+1]] .normal=(base 374).at ⟨#[.agg #[.chan<|some<|w.heap.size+1],undef,undef,undef,undef,undef,undef,undef,undef,undef,undef,undef,undef,undef,undef,undef,undef,undef],[]⟩ [.code<|Tryz.f374.body.getD .skip]:=by simp[Frame.enter,Frame.at,Tryz.func374,base,Tryz.f374]
 simp only[Tryz.f374,rG]at ahZ;rw[<- ahZ];refine Fm (ap5 oT.ch (by rw[IQ];omega) ?_) (λe w' h=>h.elim λkH h=>⟨kH,h.1⟩)<|λv wP h => ?_
 .intro v a3
  simp only[List.mem_toArray,i7,DR,rK]at a3;rcases a3 with⟨i,ao,rfl⟩|⟨i,ao,rfl⟩
  .exact bD.sl i ao
  exact hl.sl i V
 obtain⟨kH,a3,ahy,I?⟩:=h;cases a3;rw[IQ]at ahy;rw[Frame.finish_at]
 walk_nrm
 refine LoneTo.goes (n:=30) ?_
 s_op
 s_op
 s_op
 s_op
 s_c stepG_region_end
 s_c stepG_ret'
 s_stop
 refine LoneTo.done ⟨.returned<|.tuple #[v,.int .i64 (min aQ (bi-qn):R),.int .i64 0],_,rfl,⟨.inr ⟨V,v,rfl,?_⟩,?_⟩,rfl,rfl,rfl,rfl,_,Tryz.func284,by simp[results,Tryz.f284,Frame.at]⟩
 .obtain⟨b,hB,p3,e9,gK,wl,Qv,aDD,Z?,ald,aDE⟩:=ahy
  exact⟨b,hB,p3,e9,gK,wl,Qv,aDD,Z?,V,aDE⟩
 exact⟨I?.os.trans kR.os,I?.tape.trans kR.tape,I?.output.trans kR.output,i6 kR.size I?.size,λb ak fs=>(I?.other b V fs).trans<|kR.other b ak fs⟩
end Yp
namespace Yp
open Go Go.RowKit Go.Proofs
def acD:=@List.getElem_append_left
abbrev AF:aw:=.sl<|.sl (.int .u8)
def anT{w:bu}{X:R->Prop}{l:ab ai}{a:au Addr}(Y:l.length<=cap)(ac:cap<=maxLen)
  (h:l=[]\/∃b o c el fz,a=J ⟨b,o,aq⟩/\view w X b=J (.cells c el fz)/\o+l.length*(aw.sl<|.int .u8).size<=c.size/\∀(i:R) (x:ai),jq l i=J x->ba (view w X) (.sl<|.int .u8) x (dg c (o+i*(aw.sl<|.int .u8).size) (aw.sl<|.int .u8).size)) :
  ∃je val,MR w a l.length cap je val/\∀i (ao:i<l.length),ba (view w X) (.sl<|.int .u8) (l[i]:ai) [val i]:=by
 have ct:l.length<=9223372036854775807:=by unfold maxLen at ac;omega
 rcases h with rfl|⟨b,o,c,el,fz,rfl,ak,dA,fb⟩
 .exact⟨λ_=>⟨0,0,aq⟩,λ_=>undef,⟨λi ao=>ev ao<|MG i,λi ao=>ev ao<|MG i,λi ao=>ev ao<|MG i,λi ao=>ev ao<|MG i,ct⟩,λi ao=>ev ao<|MG i⟩
 have dA:o+l.length<=c.size:=by
  have:(aw.sl<|.int .u8).size=1:=rfl
  grind
 have hh:=(kY.1 ak).2;have zu:∀i,i<l.length->c[o+i]?=J (c[o+i]?.getD undef):=by
  grind
 have az:∀i (ao:i<l.length),ba (view w X) (.sl<|.int .u8) (l[i]:ai) [c[o+i]?.getD undef]:=by
  intro i ao;have:=fb i l[i]<|lg ao;have hs:dg c (o+i*(aw.sl<|.int .u8).size) (aw.sl<|.int .u8).size=[c[o+i]?.getD undef]:=by
   have e1:(aw.sl<|.int .u8).size=1:=rfl;rw[e1,pd];refine vf λj => ?_;by_cases aF:j<1
   .obtain rfl:j=0:=V
    rw[yp aF,MH,zu i ao];rfl
   rw[A7 (by rw[sx V];omega),A7 e8]
  grind
 refine⟨λi=>⟨b,o+i,aq⟩,λi=>c[o+i]?.getD undef,⟨λi ao cW => ?_,λi ao => ?_,λi _=>(jO.1 hh).1,λi ao => ?_,ct⟩,az⟩
 .have:=Lr (P:=Tryz.prog) (e:=.sl<|.int .u8) (tid:=38) (td 38 _ BY) (k:=.i64) (i:=(i:O)) (n:=l.length) (cap:=cap) V V b o cW
  rw[this];have e1:(aw.sl<|.int .u8).size=1:=rfl
  grind
 .show w.cell? ⟨b,o+i,aq⟩=_
  simp only[World.cell?,hh]
  grind
 obtain⟨bn,aIt,a3,_⟩:=ba.jt.1<|az i ao
 grind
abbrev amT:fV:=⟨[.sl<|.sl<|.int .u8,.sl<|.sl<|.int .u8,.int .i64],[.im<|.sl<|.sl<|.int .u8,.im<|.int .i64,.im<|.int .i64],Kt⟩
def R0{w w':bu}{X:R->Prop}(ep:∀b,X b->b<w.heap.size)(XY:w'.os=w.os)(azH:w'.tape=w.tape)(azf:w'.output=w.output)(dA:w.heap.size<=w'.heap.size)(hold:∀b,b<w.heap.size->w'.heap[b]?=w.heap[b]?){q:ab ai}{n:O}{v:aS}(a3:ba (view w' X) AF q [v]):
  ∃cF,Ending.returned (.tuple #[v,.int .i64 n,.int .i64 m])=.returned cF/\jP w X w' [.im AF,.im<|.int .i64,.im<|.int .i64] (q,n,m,()) cF:=by
 refine⟨_,rfl,X,XY,azH,azf,dA,hold,λ_ _=>sU,λb h=>ge (ep b h) dA,[v,.int .i64 n,.int .i64 m],?_,rfl⟩;exact⟨[v],_,rfl,a3,[.int .i64 n],_,rfl,ba.j1.2 rfl,[.int .i64 m],[],rfl,ba.j1.2 rfl,rfl⟩
def aF0{w w':bu}{X:R->Prop}(ep:∀b,X b->b<w.heap.size)(hold:∀b,b<w.heap.size->w'.heap[b]?=w.heap[b]?){q:ab ai}{c:R}{vals:cO aS}{kH:aS}(j':w6 w' w.heap.size c vals q.length kH)
  (bD:∀i (ao:i<q.length),∃v,vals[i]?=J v/\ba (view w X) (.sl<|.int .u8) (q[i]:ai) [v]):ba (view w' X) AF q [kH]:=by
 obtain⟨b,hB,p3,rfl,ak,Jf,pw,IQ,Jq,O?,uo⟩:=j';have ct:(view w X).cU<|view w' X:=AK λeH o eE bg=>⟨eE,(hold eH (jO.1 bg).1).trans bg⟩;have e1:(aw.sl<|.int .u8).size=1:=rfl;refine ba.jt.2 ⟨J ⟨b,0,aq⟩,hB,rfl,Jf,pw,.inr ⟨b,0,p3,25,(0,0),rfl,kY.2 ⟨λh=>ev (ep b h) V,ak⟩,?_,λi x hx => ?_⟩⟩
 .show 0+q.length*1<=p3.size
  omega
 obtain⟨ao,rfl⟩:=oC.1 hx;have ao:i<q.length:=ao;obtain⟨v,a3,az⟩:=bD i ao;have hs:dg p3 (0+i*(aw.sl<|.int .u8).size) (aw.sl<|.int .u8).size=[v]:=by
  rw[e1,pd,oD];refine vf λj => ?_;by_cases aF:j<1
  .obtain rfl:j=0:=V
   rw[yp aF,MH,Jq i ao,a3];rfl
  rw[A7 (by rw[sx V];omega),A7<|by grind]
 rw[hs];exact az.mono ct
def aDb{w:bu}{X:R->Prop}(ep:∀b,X b->b<w.heap.size)(q l:ab ai)(iq:O){r:ab ai×O×O×aj}{HW s3:ab aS}(bD:ba (view w X) AF q HW)(hl:ba (view w X) AF l s3)(az:Kt (q,l,iq,())=J r):
  Calls Tryz.prog 284 #[db AF HW,db AF s3,.int .i64 iq] w λe w'=>∃cF,e=.returned cF/\jP w X w' [.im AF,.im<|.int .i64,.im<|.int .i64] r cF:=by
 have Jj:=bD;obtain⟨wk,tD,rfl,cn,cR,da⟩:=ba.jt.1 bD;obtain⟨zN,b?,rfl,gZ,iE,zM⟩:=ba.jt.1 hl;obtain⟨alb,uN,aG7,lY⟩:=anT (l:=q) cn cR da;obtain⟨ajB,zU,sl,aFQ⟩:=anT (l:=l) gZ iE zM;unfold Kt at az;dsimp only at az;show Calls Tryz.prog 284 #[.slice wk q.length tD,.slice zN l.length b?,.int .i64 iq] w _;by_cases Y:iq<1
 .rw[aH<|.inl Y]at az
  obtain rfl:=pb az;refine(aDa Y).mono λe w' h => ?_;obtain⟨rfl,rfl⟩:=h;exact R0 ep rfl rfl rfl (cx _) (λ_ _=>rfl) Jj
 by_cases ac:64<iq
 .rw[aH<|.inr ac]at az
  obtain rfl:=pb az;refine(aC9 Y ac).mono λe w' h => ?_;obtain⟨rfl,rfl⟩:=h;exact R0 ep rfl rfl rfl (cx _) (λ_ _=>rfl) Jj
 rw[aD V]at az;obtain⟨bi,rfl⟩:∃bi:R,iq=bi:=⟨iq.toNat,V⟩;refine(aDc V V aG7 sl).mono λe w' h => ?_;obtain⟨h,aB⟩:=h;have hold:∀b,b<w.heap.size->w'.heap[b]?=w.heap[b]?:=λb ak=>aB.other b ak V;have ct:(view w X).cU<|view w' X:=AK λeH o eE bg=>⟨eE,(hold eH (jO.1 bg).1).trans bg⟩;rcases h with⟨bK,rfl⟩|⟨nC,kH,rfl,j'⟩
 .rw[aH V]at az
  obtain rfl:=pb az;exact R0 ep aB.os aB.tape aB.output aB.size hold<|Jj.mono ct
 rw[aD V,ie]at az;obtain rfl:=pb az;rw[Nat.min_comm (bi-q.length) l.length];have cP:(q++l.take (bi-q.length):ab ai).length=q.length+min l.length (bi-q.length):=by rw[d7,jl,Nat.min_comm]
 refine R0 ep aB.os aB.tape aB.output aB.size hold<|aF0 ep hold (c:=w.heap.size+1) (vals:=((fw q.length).map uN++(fw<|min l.length<|bi-q.length).map zU).toArray) (by rw[cP];exact j') λi ao => ?_;by_cases O_:i<q.length
 .refine⟨uN i,?_,?_⟩
  .rw[rL,G?<|by simpa using O_]
   simp[O_]
  rw[acD O_];exact lY i O_
 have aF:i-q.length<min l.length (bi-q.length):=V;refine⟨zU<|i-q.length,?_,?_⟩
 .rw[rL,DP e8]
  simp[aF]
 rw[TN V,TQ];exact aFQ _ V
def axz:h5 Tryz.prog 284 amT:=by refine⟨⟨Tryz.f284,Tryz.func284,BY,BY⟩,?_⟩;intro w X x vs r ep md b6 az;obtain⟨q,l,iq,⟨⟩⟩:=x;obtain⟨HW,aoK,rfl,bD,s3,oz,rfl,hl,N9,aHL,rfl,azt,rfl⟩:=b6;obtain rfl:=ba.j1.1 azt;exact aDb ep q l iq bD hl az
end Yp
namespace Yp
open Go
def RL(x:hH):au<|A?:=letI b:=J (af,());ob (aa (aK x.1 0) b<|aa (aK 1 x.1) b<|some (a2<|am (len x.2.1) 32,())) λ(a:aM)=>aa a.1 (J (hJ,1,()))<|ob (Q6 ()) λa=>J ((x.1,x.2.1,0,a.1, -1,0,0,0,0,(0,tW,()),va,i4,0,0,aI ai,Mp,aI<|Int×ai×aj,aI<|Int×ab O×O×ai×aj,[0,0,0,0],()),0,())
def aaE(x:lc):au<|nX:=aa (a2<|am (len x.1) 32) (J (([hJ,hJ],(ag,aI<|ai×ai×aj,ag,()),aI<|Int×O×ai×aj,aI<|Int×O×ai×aj,[aI<|Int×ab O×O×ai×aj,aI<|Int×ab O×O×ai×aj],()),1,()))<|ob (RL (0,x.1,())) λa=>ob (RL (1,x.1,())) λa5=>ob (aal (x.2.1,())) λbH=>J (([a.1,a5.1],bH.1,aI<|Int×O×ai×aj,aI<|Int×O×ai×aj,[aI<|Int×ab O×O×ai×aj,aI<|Int×ab O×O×ai×aj],()),0,())
def CY(x:nX):au<|bp:=an (aO x.2.1<|bc 2)<|some ((ap x.1.1 (ah x.2.1) hJ,x.1.2.1,()),())
def QT(x:p0):au<|p0:=letI c:=x.2.1;letI b:=aO c<|bc 4;ob (aa (aK c 0) (J (af,()))<|some (aK 3 c,())) λ(a:aM)=>aa a.1 (J (x.1,1,()))<|an b (aa (a2<|ap x.1.1 (ah c) ag) (J (x.1,9,()))<|an b<|an b<|some ((cA x.1.1 (ah c) ag,cA x.1.2.1 (ah c) qC,x.1.2.2),0,()))
def aaC(x:dm):au<|dm:=letI c:=x.1.1.2.2;letI b:=c.2.2.2.2.2;letI d:=b.2.2.2.2;ob (QT (d.2.2.2.2.1,x.2.1,())) λa=>J (((x.1.1.1,x.1.1.2.1,c.1,c.2.1,c.2.2.1,c.2.2.2.1,c.2.2.2.2.1,b.1,b.2.1,b.2.2.1,b.2.2.2.1,d.1,d.2.1,d.2.2.1,d.2.2.2.1,a.1,d.2.2.2.2.2),x.1.2),a.2.1,())
def Lf(x:nX):au<|j5:=b? (bG (λ(ae:mP)=>letI d:=ae.2.1;aa (aK ae.1 2) (ob (CY (d,ae.1,())) λa=>ob (aaC (a.1,x.2.1,())) λa=>aa (am a.2.1 0) (an (aO ae.1<|bc 2)<|some<|aL.nx (i64<|aG ae.1 1,(cA d.1 (ah ae.1) a.1.1,d.2),()))<|some<|aL.nx (i64<|aG ae.1 1,d,())) (J<|aL.ex 0 (ae.1,d,()))) (0,x.1,())) (λ_ =>aq) (λi a=>letI b:=a.2.1.2.2.1;an (bU i 0) (b? (bG (λ(ae:SX)=>letI c:=ae.2.1;letI e:=aO c<|len b;aa (aK c<|len b) (an e<|aa (a2<|am (ap b (ah c) dL).2.1 x.2.1) (an e<|an (bO 80<|bB (aQ ae.1)<|aQ [ap b (ah c) dL])<|some<|aL.nx (bb ae.1 [ap b (ah c) dL],i64<|aG c 1,()))<|some<|aL.nx (ae.1,i64<|aG c 1,())) (J<|aL.ex 2 (ae.1,c,()))) (aI<|Int×O×ai×aj,0,())) (λ_ =>aq) (λi a5=>an (bU i 2)<|some ((a.2.1.1,a.2.1.2.1,a5.1,a.2.1.2.2.2),())) λ(r:j5)=>J r)) λ(r:j5)=>J r
def wx(x:ab (O×O×ai×aj)×(O×O×ai×aj)×aj):au<|o5:=letI a:=aI<|Int×O×ai×aj;an (bO 80<|bB (aQ a)<|aQ x.1) (an (bO 80<|bB (aQ<|bb a x.1)<|aQ [x.2.1])<|some (bb (bb a x.1) [x.2.1],()))
def aaB(x:p1):au<|MT:=letI c:=x.1.2.2.2;letI a:=c.2.2.2.2.2;letI b:=a.2.2.2.2.2;J ((x.1.1,x.1.2.1,x.1.2.2.1,c.1,c.2.1,c.2.2.1,c.2.2.2.1,c.2.2.2.2.1,a.1,a.2.1,a.2.2.1,a.2.2.2.1,a.2.2.2.2.1,b.1,b.2.1,b.2.2.1,aI<|Int×ai×aj,aI<|Int×ab O×O×ai×aj,b.2.2.2.2.2),b.2.2.2.1,b.2.2.2.2.1,())
def Aj(x:dR×O×eK×aj):au<|j5:=letI j:=x.1.2.2;letI f:=ah x.2.1;letI b:=aI<|Int×ab O×O×ai×aj;letI d:=ap j.2.2.1 f b;letI e:=aO x.2.1<|bc 2;letI l:=J (ag,());an e (ob (aa (a2<|am (ap x.1.1 f hJ).2.2.1 8) (J (am x.2.2.1.1.2.2.1 8,())) l) λ(a:aM)=>ob (aaB (x.2.2.1.1,())) λa5=>letI k:=len a5.2.1;an e (an e<|an (bO 128<|bB (aQ b)<|aQ d)<|an (bO 128<|bB (aQ<|bb b d)<|aQ a5.2.2.1)<|an e<|b? (bG (λ(ae:mP)=>letI h:=ap a5.2.1 (ah ae.1) hr;letI c:=(i64<|bw 1 x.2.1,h.1,h.2.1,());letI g:=ae.2.1;aa (aK ae.1 k) (an (aO ae.1 k)<|an (aO ae.1 k)<|ob (wx (g.2.2.1,c,())) λa=>ob (wx (g.2.2.2.1,c,())) λbH=>J<|aL.nx (i64<|aG ae.1 1,(g.1,g.2.1,a.1,bH.1,g.2.2.2.2),())) (J<|aL.ex 0 (ae.1,g,()))) (0,(cA x.1.1 f a5.1,x.2.2.1.2.1,j.1,j.2.1,cA j.2.2.1 f<|bb (bb b d) a5.2.2.1,j.2.2.2),())) (λ_ =>aq) (λi bH=>an (bU i 0)<|b? (bG (λ(x:mP)=>ob (aa (aK x.1 4) (J (a.1,())) l) λ(a:aM)=>aa a.1 (ob (Lf (x.2.1,x.1,())) λa=>J<|aL.nx (i64<|aG x.1 1,a.1,()))<|some<|aL.ex 2 (x.1,x.2.1,())) (0,bH.2.1,())) (λ_ =>aq) (λi a=>an (bU i 2)<|some (a.2.1,())) λ(r:j5)=>J r) λ(r:j5)=>J r))
def QV(x:f8×O×ai×aj):au<|MU:=letI c:=x.2.1;letI b:=aO c<|bc 4;ob (aa (aK c 0) (J (af,()))<|some (aK 3 c,())) λ(a:aM)=>aa a.1 (J (x.1,aI ai,1,()))<|an b (aa (a2<|ap x.1.1 (ah c) ag) (J (x.1,aI ai,11,()))<|an b<|ob (QQ (ap x.1.2.1 (ah c) qC,x.2.2.1,())) λa=>an b<|some ((x.1.1,cA x.1.2.1 (ah c) a.1,x.1.2.2),a.2.1,0,()))
def Rv(x:yR):au<|bp:=letI d:=x.1.1.2;letI b:=d.2.2;letI c:=b.2.2.2.2;letI e:=x.2.2.1;letI f:=x.1.1.1;aa (aK c.1 e) (ob (qm ((f,d.1,d.2.1,b.1,b.2.1,x.2.1,e,e,c.2),())) λa=>ob (Ag (d.1,a.1,1,aI aN,())) λa=>ob (F8 (a.1,())) λa=>J (((f,d.1,d.2.1,b.1,b.2.1,x.2.1,e,e,c.2.1,c.2.2.1,a.1,c.2.2.2.2),x.1.2),())) (ob (qm ((f,d.1,d.2.1,b.1,b.2.1,x.2.1,e,c),())) λa=>ob (Ag (d.1,a.1,1,aI aN,())) λa=>ob (F8 (a.1,())) λa=>J (((f,d.1,d.2.1,b.1,b.2.1,x.2.1,e,c.1,c.2.1,c.2.2.1,a.1,c.2.2.2.2),x.1.2),()))
def Rt(x:MV):au<|bp:=letI f:=J (af,());letI d:=x.1.1.2.2;letI c:au bp:=o1 (x.1,());letI b:au aM:=aa (am d.1 7) f<|some (am d.1 8,());letI e:=x.2.2.1;ob (aa (am d.1 1) (aa (am x.1.1.1 0) f b) b) λ(a:aM)=>aa a.1 (ob c λ(a:bp)=>J (a.1,()))<|ob (ww (d.1,())) λa=>ob (aa a.1 (J (am d.2.2.2.2.1 e,()))<|some (ag,())) λ(a:aM)=>aa a.1 (ob (yk (x.2.1,0,())) λa=>ob (CS (x.1,e,a.1,())) λa=>J (a.1,())) (aa (bL e d.2.2.2.2.2.1) (ob c λ(a:bp)=>J (a.1,()))<|ob (K8 (x.1,())) λa=>aa (am a.2.2.1 11) (J (a.1,()))<|aa (a2<|am a.2.2.1 0) (ob c λ(a:bp)=>J (a.1,()))<|ob (yl (a.1,2,())) λa5=>ob (Rv (a5.1,a.2.1,e,())) λa=>ob (yk (x.2.1,0,())) λbH=>ob (CS (a.1,e,bH.1,())) λa=>J (a.1,()))
def Rp(x:eK×d6×eb×aj):au<|bp:=letI g:=x.1.1;letI b:au aM:=J (af,());letI e:=i64<|bw 1 g.1;letI f:=x.2.1.2.2.1;letI h:=x.2.2.1;letI j:=g.2.2.2.2.2;letI k:=ap f (ah g.1) 0;letI l:=o1 (x.1,());an (aO e<|bc 2) (an (aO g.1<|bc 2) (ob (aa (a2<|am h.2.1 1) b<|some (aK (ap f (ah e) 0) 1,())) λ(a:aM)=>letI c:au<|bp:=ob l λ(a:bp)=>J (a.1,());aa a.1 c (aa h.1 (aa (a2<|am k 0) c<|ob (Rt (x.1,h,ap f (ah e) 0,())) λa=>J (a.1,()))<|ob (CP (j.2.2.2.2.2.2.1,1,h.2.2.1,())) λa=>ob (aa (a2<|am h.2.2.2.1 0) b<|aa (a2<|am g.2.2.1 1) b<|aa (a2<|am k j.1) b<|some (a2 a.1,())) λ(a:aM)=>aa a.1 (ob l λ(a:bp)=>J (a.1,())) (ob (Rv (x.1,j.1,ap f (ah e) 0,())) λa=>letI d:=a.1.1.2.2.2.2;letI i:=d.2.2.2;ob (K9 (((a.1.1.1,a.1.1.2.1,3,a.1.1.2.2.2.1,d.1,d.2.1,d.2.2.1,i.1,i.2.1,i.2.2.1,i.2.2.2.1,i4,i.2.2.2.2.2),a.1.2),4,())) λa=>ob (CU (a.1,301,())) λa=>J (a.1,())))))
def RN(x:pZ):au<|bp:=letI b:=x.2.1;letI c:=J (ag,());letI d:=J (b.1,());letI e:=am b.2.1 101;letI f:=am b.2.1 201;ob (aa e d c) λ(a:aM)=>aa a.1 (ob (Rz (x.1,b,())) λa=>J (a.1,()))<|aa e (ob (Rw (x.1,b,())) λa=>J (a.1,())) (ob (aa f d c) λ(a:aM)=>aa a.1 (ob (RD (x.1,b,())) λa=>J (a.1,()))<|aa f (ob (RB (x.1,b,())) λa=>J (a.1,()))<|ob (Rq (x.1,b,())) λa=>J (a.1,()))
def RI(x:acR):au<|bp:=letI b:=x.2.2.1;letI c:=J (af,());ob (K' (b,())) λa=>ob (Ad (x.1.1.2.2.1,())) λa5=>ob (aa a.1 (J (a5.1,()))<|some (ag,())) λ(bH:aM)=>aa bH.1 (ob (RE (b,())) λa=>ob (aa a.1 (J (3,()))<|some (2,())) λ(a:cK)=>ob (qm (x.1.1,())) λbF=>ob (CQ (x.1.1,a.1,bF.1,x.2.1.2.2.2.2.1,x.2.1.2.2.2.2.2.1,())) λa=>J ((a.1,x.1.2),()))<|ob (QM (b.1,())) λbF=>ob (aa (a2 a.1) c<|aa (a2<|am x.1.1.2.2.1 6) c<|some (a2 bF.2.1,())) λ(a:aM)=>aa a.1 (ob (o1 (x.1,())) λa=>J (a.1,())) (ob (yh (b,11,())) λa=>aa a.2.1 (an (bO 56<|aQ [(11,a.1,())])<|an (bO 56<|bB (aQ [(11,a.1,())])<|aQ [(39,[u8 57,u8 49],())])<|ob (wv ((bF.1,bb [(11,a.1,())] [(39,[u8 57,u8 49],())],()),())) λa=>ob (ro (x.1,a.1,())) λa=>J (a.1,()))<|an (bO 56<|aQ [(39,[u8 57,u8 49],())])<|ob (wv ((bF.1,[(39,[u8 57,u8 49],())],()),())) λa=>ob (ro (x.1,a.1,())) λa=>J (a.1,()))
def aaD(x:eK×d6×aj):au<|bp:=letI b:=x.2.1;ob (K4 (b.2.2.2.2.2.1,())) λa=>ob (KR (b.2.2.2.2.2.1,())) λa5=>aa (am b.1 1) (aa (a2<|am a.2.1 0) (ob (o0 (x.1,2,())) λa=>J (a.1,()))<|ob (Rp (x.1,b,a.1,())) λa=>J (a.1,()))<|ob (Rn (x.1,())) λbH=>aa (am a.2.1 0) (ob (RN (bH.1,a.1,())) λa=>J (a.1,())) (aa (am a5.2.1 0) (ob (RI (bH.1,b,a5.1,())) λa=>J (a.1,()))<|ob (o0 (bH.1,2,())) λa=>J (a.1,()))
def Lb(x:t3):au<|bp:=ob (aaz (x.1,x.2.1,())) λa=>aa (a2<|am a.2.2.1 0) (J (a.1,()))<|ob (aaD (a.1,a.2.1,())) λa=>ob (Ai (a.1,())) λa=>J (a.1,())
def RJ(x:MX):au<|bp:=letI d:=x.1.1.2.2.2;letI e:=d.2.2.2;letI b:=e.2.2.2;letI f:=b.2.2.2;letI c:=f.2.2.2;letI g:=aO x.2.1<|bc 4;letI h:=aO 0<|bc 4;ob (QV (c.1,x.2.1,x.2.2.1,())) λa=>aa (a2<|am a.2.2.1 0) (J (x.1,()))<|an h (an g<|an g<|an h<|b? (bG (λ(x:sT)=>ob (aa (aK x.1<|len a.2.1) (J (a2<|am x.2.1.1.2.2.1 8,()))<|some (ag,())) λ(a5:aM)=>aa a5.1 (an (aO x.1<|len a.2.1)<|ob (Lb (x.2.1,ap a.2.1 (ah x.1)<|aI aN,())) λa=>J<|aL.nx (i64<|aG x.1 1,a.1,()))<|some<|aL.ex 0 (x.1,x.2.1,())) (0,((x.1.1.1,x.1.1.2.1,x.1.1.2.2.1,d.1,d.2.1,d.2.2.1,e.1,e.2.1,e.2.2.1,b.1,b.2.1,b.2.2.1,f.1,f.2.1,f.2.2.1,a.1,c.2.1,c.2.2.1,cA c.2.2.2.1 (ah 0)<|i64<|bw (i64<|aG (ap c.2.2.2.1 (ah 0) 0) (ap a.1.2.1 (ah x.2.1) qC).2.2.1) (ap c.1.2.1 (ah x.2.1) qC).2.2.1,c.2.2.2.2),x.1.2),())) (λ_ =>aq) (λi a=>an (bU i 0)<|some (a.2.1,())) λ(r:bp)=>J r)
def Gj(x:dR×O×O×ai×aj):au<|j5:=ob (CY (x.1,x.2.1,())) λa=>ob (RJ (a.1,x.2.2.1,x.2.2.2.1,())) λa=>ob (Aj (x.1,x.2.1,a.1,())) λa=>J (a.1,())
def CZ(x:SX):au<|o5:=letI e:=i64<|aG x.2.1 1;letI d:=len x.1;letI a:=aI<|Int×O×ai×aj;letI b:=sub x.1 e d;letI c:=sub x.1 0 x.2.1;an (cq 0 x.2.1 d) (an (bO 80<|bB (aQ a)<|aQ c)<|an (cq e d d)<|an (bO 80<|bB (aQ<|bb a c)<|aQ b)<|some (bb (bb a c) b,()))
def Lg(x:dR×O×O×aj):au<|j5:=letI h:=x.2.1;letI e:=x.1.2.2;letI b:=ap e.1 (ah h) dL;letI g:=b.2.2.1;letI c:=len g;letI d:=aI<|Int×O×ai×aj;letI f:=x.2.2.1;an (aO h<|len e.1) (ob (aa (aK 0 f) (J (aK f c,()))<|some (ag,())) λ(a:aM)=>aa a.1 (an (bO 80<|bB (aQ d)<|aQ e.1)<|an (cq f c c)<|an (aO h<|len<|bb d e.1)<|an (cq 0 f c)<|ob (Gj ((x.1.1,x.1.2.1,cA (bb d e.1) (ah h) (b.1,b.2.1,sub g f c,()),e.2),b.1,b.2.1,sub g 0 f,())) λa=>J (a.1,()))<|ob (CZ (e.1,h,())) λa=>ob (Gj ((x.1.1,x.1.2.1,a.1,e.2),b.1,b.2.1,g,())) λa=>J (a.1,()))
def RU(x:aca):au<|nX:=letI e:=x.1.2.2;letI d:=x.2.1.2.2;letI b:au aM:=J (ag,());letI c:=ap e.2.1 (ah d.1) dL;letI f:=bb (aI aN) c.2.2.1;letI g:=aO d.1<|len e.2.1;letI h:=d.2.1;letI i:=x.2.1.1;letI k:=aO h<|len f;letI l:=len d.2.2.1;ob (aa (bL 0 d.1) (J (aK d.1<|len e.1,())) b) λ(a:aM)=>letI j:=J (a.1,());ob (aa (bL 0 d.1) (J (aK d.1<|len e.2.1,())) b) λ(a5:aM)=>ob (aa (am i 7) j b) λ(bH:aM)=>aa bH.1 (ob (Lg (x.1,d.1,h,())) λa=>J (a.1,0,()))<|ob (aa (am i 8) j b) λ(a:aM)=>aa a.1 (ob (CZ (e.1,d.1,())) λa=>J ((x.1.1,x.1.2.1,a.1,e.2),0,())) (ob (aa (am i 9) (J (a5.1,())) b) λ(a:aM)=>aa a.1 (an g<|ob (wx (e.1,ap e.2.1 (ah d.1) dL,())) λa=>J ((x.1.1,x.1.2.1,a.1,e.2),0,()))<|ob (aa (am i 10) (aa a5.1 (aa (bL 0 h) (an g<|aa (aK h<|len c.2.2.1) (J (aK 0 l,())) b) b) b) b) λ(a:aM)=>aa a.1 (an g<|an (bO 1<|bB (aQ<|aI aN)<|aQ c.2.2.1)<|an k<|an (aO 0 l)<|an k<|ob (wx (e.1,(c.1,c.2.1,cA f (ah h)<|u8<|em gV (aV<|ap f (ah h)<|u8 0)<|aV<|ap d.2.2.1 (ah 0)<|u8 0,()),())) λa=>J ((x.1.1,x.1.2.1,a.1,e.2),0,()))<|some (x.1,12,()))
def RM(x:dm):au<|dm:=letI c:=x.1.1.2.2;letI b:=c.2.2.2.2.2;letI d:=b.2.2.2.2;aa (am c.1 8) (J (x.1,11,())) (ob (QW (d.2.2.2.2.1,x.2.1,())) λa=>aa (a2<|am a.2.1 0) (J (x.1,a.2.1,()))<|ob (Ai (((x.1.1.1,x.1.1.2.1,c.1,c.2.1,c.2.2.1,c.2.2.2.1,c.2.2.2.2.1,b.1,b.2.1,b.2.2.1,b.2.2.2.1,d.1,d.2.1,d.2.2.1,d.2.2.2.1,a.1,d.2.2.2.2.2),x.1.2),())) λa=>J (a.1,0,()))
def RV(x:nX):au<|nX:=letI b:au aM:=J (af,());letI c:=x.2.1;letI d:=ap x.1.1 (ah 0) hJ;letI e:=ap x.1.1 (ah 1) hJ;letI f:=aO 0<|bc 2;letI g:=aO 1<|bc 2;letI h:=aO c<|bc 4;an f (ob (aa (am d.2.2.1 8) b<|an g<|some (am e.2.2.1 8,())) λ(a:aM)=>aa a.1 (J (x.1,11,()))<|ob (aa (aK c 0) b<|some (aK 3 c,())) λ(a:aM)=>aa a.1 (J (x.1,1,()))<|an f<|an h<|ob (aa (ap d.2.2.2.2.2.2.2.2.2.2.2.2.2.2.2.1.1 (ah c) ag) b<|an g<|an h<|some (ap e.2.2.2.2.2.2.2.2.2.2.2.2.2.2.2.1.1 (ah c) ag,())) λ(a:aM)=>aa a.1 (J (x.1,9,()))<|b? (bG (λ(ae:mP)=>aa (aK ae.1 2) (ob (CY (ae.2.1,ae.1,())) λa=>ob (RM (a.1,c,())) λa=>ob (Aj (ae.2.1,ae.1,a.1,())) λa=>J<|aL.nx (i64<|aG ae.1 1,a.1,()))<|some<|aL.ex 0 (ae.1,ae.2.1,())) (0,x.1,())) (λ_ =>aq) (λi a=>an (bU i 0)<|some (a.2.1,0,())) λ(r:nX)=>J r)
def Q2(x:l6):au<|l6:=letI a:=x.1.2.2;aa (aK 1 a.2.1) (J ((x.1.1,x.1.2.1,a.1,i64<|bw a.2.1 1,a.2.2),())) (J ((x.1.1,hr,a.1,0,a.2.2.1,()),()))
def Rb(x:go×aj):au<|Hi:=letI b:=x.1.2.2;ob (K3 (x.1,())) λa=>aa a.1 (J (x.1,ag,ag,()))<|aa (aK 1 b.1) (J ((x.1.1,x.1.2.1,i64<|bw b.1 1,b.2),ag,ag,())) (aa (aK 0 b.2.1) (J ((x.1.1,x.1.2.1,8,i64<|bw b.2.1 1,b.2.2),af,ag,()))<|some (i4,ag,af,()))
def Ld(x:bp):au<|bp:=letI e:=x.1.1;letI c:=e.2.2;letI b:=c.2.2.2;letI d:=b.2.2.2;letI f:=d.2.2;letI g:=c.2.2.1;letI h:=b.2.2.1;letI i:=e.2.1;letI j:=c.2.1;letI k:=b.2.1;letI l:=d.2.1;letI m:=f.2.2;letI n:=x.1.2;ob (Rb (f.2.1,())) λa=>ob (aa a.2.1 (J (am a.1.1 1,()))<|some (ag,())) λ(a5:aM)=>aa a5.1 (ob (CS (((e.1,i,c.1,j,g,b.1,k,h,d.1,l,f.1,a.1,m),n),0,a.1.2.2.2.2.1,())) λa=>J (a.1,()))<|aa a.2.1 (ob (ro (((e.1,i,c.1,j,g,b.1,k,h,d.1,l,f.1,a.1,m),n),a.1.2.2.2.2.1,())) λa=>J (a.1,())) (aa (a2 a.2.2.1) (J (((e.1,i,c.1,j,g,b.1,k,h,d.1,l,f.1,a.1,m),n),()))<|aa (am c.1 4) (ob (Rx (((e.1,i,c.1,j,g,b.1,k,h,d.1,l,f.1,a.1,m),n),())) λa=>J (a.1,()))<|aa (am c.1 5) (ob (K_ (((e.1,i,c.1,j,g,b.1,k,h,d.1,l,f.1,a.1,m),n),())) λa=>J (a.1,()))<|ob (Ro (((e.1,i,c.1, j,g,b.1,k,h,d.1,l,f.1,a.1,m),n),())) λa=>J (a.1,()))
def Lc(x:bp):au<|bp:=letI f:=x.1.1;letI d:=f.2.2;letI c:=d.2.2.2;letI e:=c.2.2.2;ob (aa (am d.1 7) (J (af,()))<|some (am d.1 8,())) λ(a:aM)=>aa a.1 (J (x.1,())) (ob (ww (d.1,())) λa=>letI b:au aM:=aa a.1 (J (am e.1 4611686018427387904,()))<|some (ag,());aa a.1 (ob (Q2 (e.2.2.1,())) λa5=>ob b λ(a:aM)=>aa a.1 (ob (Gh (((f.1,f.2.1,d.1,d.2.1,d.2.2.1,c.1,c.2.1,c.2.2.1,e.1,e.2.1,a5.1,e.2.2.2),x.1.2),())) λa=>J (a.1,()))<|ob (Ld (((f.1,f.2.1,d.1,d.2.1,d.2.2.1,c.1,c.2.1,c.2.2.1,e.1,e.2.1,a5.1,e.2.2.2),x.1.2),())) λa=>ob (Ai (a.1,())) λa=>J (a.1,())) (ob b λ(a:aM)=>aa a.1 (ob (Gh (x.1,())) λa=>J (a.1,()))<|ob (Ld (x.1,())) λa=>ob (Ai (a.1,())) λa=>J (a.1,())))
def RP(x:nX):au<|j5:=b? (bG (λ(ae:mP)=>aa (aK ae.1 x.2.1) (b? (bG (λ(x:mP)=>ob (aa (aK x.1<|len ae.2.1.2.2.1) (J (aK 0<|len x.2.1.2.2.1,()))<|some (ag,())) λ(a:aM)=>aa a.1 (ob (Lg (x.2.1,0,0,())) λa=>J<|aL.nx (i64<|aG x.1 1,a.1,()))<|some<|aL.ex 2 (x.1,x.2.1,())) (0,ae.2.1,())) (λ_ =>aq) (λi a=>an (bU i 2)<|b? (bG (λ(x:mP)=>aa (aK x.1 2) (ob (CY (x.2.1,x.1,())) λa=>ob (Lc (a.1,())) λa=>ob (Aj (x.2.1,x.1,a.1,())) λa=>J<|aL.nx (i64<|aG x.1 1,a.1,()))<|some<|aL.ex 4 (x.1,x.2.1,())) (0,a.2.1,())) (λ_ =>aq) (λi a=>an (bU i 4)<|some<|aL.nx (i64<|aG ae.1 1,a.2.1,())) λ(r:j5)=>J<|aL.rt r) λ(r:j5)=>J<|aL.rt r)<|some<|aL.ex 0 (ae.1,ae.2.1,())) (0,x.1,())) (λ_ =>aq) (λi a=>an (bU i 0)<|some (a.2.1,())) λ(r:j5)=>J r
def RK(x:T4):au<|dm:=letI b:=x.2.1.1;letI c:=x.2.1.2.2;letI d:=x.1.1.2;aa (am b 0) (ob (RH (x.1,c.2.2.1,())) λa=>J (a.1,a.2.1,())) (aa (am b 1) (ob (Gh (x.1,())) λa=>J (a.1,a.2.1,()))<|aa (am b 2) (ob (Rr (x.1,())) λa=>J (a.1,a.2.1,()))<|aa (am b 3) (ob (Rm (x.1,())) λa=>J (a.1,a.2.1,()))<|aa (am b 4) (ob (Ry (x.1,c.2.2.1,())) λa=>J (a.1,a.2.1,()))<|aa (am b 5) (ob (RC (x.1,c.1,())) λa=>J (a.1,a.2.1,()))<|aa (am b 6) (ob (Lc (x.1,())) λa=>J (a.1,0,()))<|aa (am b 14) (ob (Gg (x.1,())) λa=>J (a.1,0,()))<|aa (am b 15) (aa (a2<|am d.2.1 8) (J (x.1,9,()))<|ob (Rl (x.1,())) λa=>J (a.1,0,()))<|aa (am b 16) (J (((x.1.1.1,d.1,d.2.1,d.2.2.1,c.1,d.2.2.2.2),x.1.2),0,()))<|some (x.1,1,()))
def RS(x:aca):au<|nX:=letI b:au aM:=J (ag,());letI d:=x.2.1;letI e:=d.2.2.1;letI g:=d.2.1;ob (aa (am g 0) (J (af,()))<|some (am g 1,())) λ(a:aM)=>letI f:=J (a.1,());letI c:au aM:=aa (bL 14 d.1) (aa (bL d.1 16) f b) b;ob (aa (bL 7 d.1) (J (bL d.1 10,())) b) λ(a5:aM)=>aa a5.1 (ob (RU (x.1,d,())) λa=>J (a.1,a.2.1,()))<|aa (am d.1 12) (ob (RV (x.1,e,())) λa=>J (a.1,a.2.1,())) (ob (aa (am d.1 13) (aa (bL 0 e) (J (bL e 3,())) b) b) λ(bH:aM)=>aa bH.1 (ob (Lf (x.1,e,())) λa=>J (a.1,0,()))<|ob (aa (am d.1 17) (J (bL 0 e,())) b) λ(bF:aM)=>aa bF.1 (ob (RP (x.1,hE e 100,())) λa=>J (a.1,0,()))<|ob (aa (am d.1 11) f b) λ(co:aM)=>aa co.1 (ob (Gj (x.1,g,e,d.2.2.2.2.1,())) λa=>J (a.1,0,()))<|ob (aa (bL 0 d.1) (aa (bL d.1 6) f c) c) λ(a:aM)=>aa a.1 (ob (CY (x.1,g,())) λa=>ob (RK (a.1,d,())) λa=>ob (Aj (x.1,g,a.1,())) λdW=>J (dW.1,a.2.1,()))<|some (x.1,1,()))
def Le(x:dR×ab go×aj):au<|ab9:=b? (bG (λ(ae:ab5)=>letI b:=ae.2.1;aa (aK b<|len x.2.1) (an (aO b<|len x.2.1)<|ob (RS (ae.2.2.1,ap x.2.1 (ah b) i4,())) λa=>an (bO 32<|bB (aQ ae.1)<|aQ [a.2.1])<|some<|aL.nx (bb ae.1 [a.2.1],i64<|aG b 1,a.1,())) (J<|aL.ex 0 (ae.1,b,ae.2.2.1,()))) (aI O,0,x.1,())) (λ_ =>aq) (λi a=>an (bU i 0)<|some (a.2.2.1,a.1,())) λ(r:ab9)=>J r
def aJE(x:ab go×aN×UInt16×aj):au<|aM:=letI e:=i64<|aV x.2.1;letI h:=J (ag,());letI k:=J (af,());ob (PF ()) λa=>letI b:au<|aM:=J (a.1,());ob (RQ (x.1,30,())) λa5=>aa (a2 a5.1) b<|an (df (cq 0 32 32)<|bO 1<|ah 32) (ob (aaE (cb (ah 32)<|u8 0,af,())) λbH=>ob (Le (bH.1,x.1,())) λbF=>letI d:=len bF.1.2.2.1;letI g:=cY e d;letI i:=ap bF.1.2.2.1 (ah g) dL;letI c:=len i.2.2.1;letI l:=i64<|bw c 1;letI f:=aG 1<|cY (i64<|J4 x.2.2.1) l;aa (am d 0) b (an (a2<|am d 0)<|an (aO g d)<|aa (aK c 2) b<|an (a2<|am l 0) (ob (rz (bF.1,(7,0,cY e d,0,aI aN,()),())) λco=>ob (rz (bF.1,(7,0,cY e d,i64 f,aI aN,()),())) λdW=>letI j:=dW.1.2.2.1;ob (aa (a2<|am co.2.1 0) k<|some (a2<|am dW.2.1 0,())) λ(ig:aM)=>aa ig.1 h<|ob (aa (a2<|am (len j) d) k<|an (aO g<|len j)<|an (aO g d)<|an (cq (i64 f) c c)<|ob (nR ((ap j (ah g) dL).2.2.1,sub i.2.2.1 (i64 f) c,())) λa=>J (a2 a.1,())) λ(hN:aM)=>aa hN.1 b<|ob (rz (dW.1,(7,0,cY e d,0,aI aN,()),())) λm0=>ob (aa a.1 (aa (am m0.2.1 0) (ob (RR (m0.1,co.1,())) λa=>J (a.1,())) h) h) λ(a:aM)=>J (a.1,()))))
end Yp
namespace Yp
open Go Go.Proofs Tryz
set_option maxRecDepth 100000
abbrev nY:aw:=.unit
abbrev sG:aw:=.int .u32
abbrev c?: aw:=.bool
abbrev eA:aw:=.int .u8
abbrev cG:aw:=.sl eA
abbrev sH:aw:=.sl cG
abbrev qB:aw:=.pair cG<|.pair cG nY
abbrev a6:aw:=.int .i64
abbrev AU:aw:=.ar 2 a6
abbrev Mo:aw:=.pair a6<|.pair a6 nY
abbrev yD:aw:=.pair cG Mo
abbrev tS:aw:=.pair a6<|.pair (.ar 16<|.int .u64) nY
abbrev mS:aw:=.pair a6<|.pair a6 (.pair AU<|.pair a6<|.pair a6 qB)
abbrev mq:aw:=.pair (.ar 4 c?)<|.pair (.ar 4 yD) (.pair (.ar 4 a6)<|.pair a6 nY)
abbrev hI:aw:=.pair c?<|.pair a6 (.pair a6<|.pair a6<|.pair a6<|.pair cG<|.pair cG<|.pair a6 nY)
abbrev mR:aw:=.pair a6<|.pair cG nY
abbrev u?: aw:=.sl mR
abbrev ack:aw:=.pair u?<|.pair (.fn [421]) nY
abbrev tT:aw:=.pair a6 mR
abbrev AR:aw:=.pair (.ar 8 sG) mR
abbrev DG:aw:=.sl<|.pair a6 (.pair AU mR)
abbrev kK:aw:=.pair a6<|.pair u? nY
abbrev iV:aw:=.pair a6<|.pair a6 tT
abbrev kk:aw:=.pair mR<|.pair mR (.pair mR Mo)
abbrev qA:aw:=.pair c?<|.pair (.sl qB) (.pair c? nY)
abbrev l1:aw:=.pair a6<|.pair cG (.pair a6<|.pair qB<|.pair a6<|.pair a6<|.pair a6<|.pair a6<|.pair a6<|.pair tS<|.pair kk<|.pair iV<|.pair a6<|.pair a6<|.pair sH<|.pair mq<|.pair u?<|.pair DG<|.pair (.ar 4 a6) nY)
abbrev bY:aw:=.pair l1<|.pair qA nY
abbrev jh:aw:=.pair (.ar 2 l1)<|.pair qA (.pair (.sl tT)<|.pair (.sl tT)<|.pair (.ar 2 DG) nY)
abbrev rD:aw:=.pair jh nY
def y7:FK 55 ⟨[a6,a6],[.im c?],sF⟩:=a9 a0 a1 func55 5
def Vx:FK 56 amZ:=axA
def apA:g3:=j0 (gH [] [] [] [] aq ag af 0) f57 8
def aiW:IK 57 apA:=ll a0 a1 func57 8
def arl:FK 59 ⟨[l1],[.im l1,.im u?,.im DG],Wl⟩:=a9 a0 a1 func59 7
def NZ:FK 60 ⟨[DG],[.cl<|.pair a6<|.pair AU mR],Av⟩:=a9 a0 a1 func60 3
def Vw:FK 61 ⟨[(.sl tT)],[.cl tT],GF⟩:=a9 a0 a1 func61 3
abbrev am3:jM:=⟨rD,[a6],[.im bY],DC⟩
def HR:jL Tryz.prog 28 am3:=qQ a0 a1 kC func28 5
def adL:FK 223 ⟨[a6],[.im c?],Jn⟩:=a9 a0 a1 func223 3
def adM:FK 206 ⟨[mq,a6,.bool],[.im mq,.im a6],Jo⟩:=a9 (ay a0 adL) a1 func206 8
def arO:FK 207 ⟨[mq,a6],[.im mq,.im a6],Ph⟩:=a9 (ay a0 adM) a1 func207 6
def arm:FK 149 ⟨[bY,a6],[.im bY,.im a6],Wm⟩:=a9 (ay a0 arO) a1 func149 8
def TX:g3:=j0 (gH [] [] [] [] aq ag ag 0) f151 3
def Yu:IK 151 TX:=ll a0 a1 func151 3
def acI:g3:=j0 (gH [] [(151,TX)] [] [] aq ag ag 0) f208 6
def aiX:IK 208 acI:=ll a0 (g1 a1 Yu) func208 6
def apz:g3:=j0 (gH [] [(151,TX),(208,acI)] [] [] aq ag ag 0) f150 8
def aAf:IK 150 apz:=ll a0 (g1 (g1 a1 aiX) Yu) func150 8
abbrev aGm:jM:=⟨rD,[a6],[],Mh⟩
def afa:jL Tryz.prog 89 aGm:=qQ (ay (ay a0 arm) Vx) (g1 (g1 (g1 a1 aAf) aiX) Yu) (i2 kC HR) func89 7
abbrev aGl:jM:=⟨rD,[],[],Ti⟩
def auy:jL Tryz.prog 62 aGl:=qQ a0 a1 (i2 kC afa) func62 3
abbrev am4:jM:=⟨rD,[a6,bY],[],AP⟩
def N0:jL Tryz.prog 26 am4:=qQ (ay (ay (ay a0 Vw) NZ) arl) a1 (i2 kC auy) func26 13
def Vy:FK 87 am0:=axB
def apC:g3:=j0 (gH [] [] [] [] aq ag ag 0) f313 5
def aAh:IK 313 apC:=ll a0 a1 func313 5
def ae4:FK 232 ⟨[sH],[.im cG],GG⟩:=a9 a0 (g1 a1 aAh) func232 9
def arD:FK 293 ⟨[cG],[.im a6],WM⟩:=a9 a0 a1 func293 3
def arC:FK 224 ⟨[yD,cG],[.im yD,.ow cG],OK⟩:=a9 (ay (ay (ay a0 arD) ae4) Vy) a1 func224 10
def arQ:FK 165 ⟨[mq,a6,cG],[.im mq,.ow cG,.im a6],Pi⟩:=a9 (ay (ay a0 arC) adL) a1 func165 11
def Vc:FK 108 ⟨[a6],[.im a6],CE⟩:=a9 a0 a1 func108 3
abbrev amQ:fV:=⟨[a6],[.im c?],wg⟩
def HK:FK 63 amQ:=a9 (ay a0 Vc) a1 func63 3
def adU:FK 172 ⟨[cG],[.im c?],JO⟩:=a9 a0 a1 func172 3
def arP:FK 237 ⟨[mq],[.im mq,.im a6,.im a6],Yg⟩:=a9 a0 a1 func237 7
def arw:FK 402 ⟨[a6,a6],[.im c?],Ew⟩:=a9 a0 a1 func402 5
def adG:FK 317 ⟨[mS],[.im c?],Ic⟩:=a9 (ay a0 arw) a1 func317 5
abbrev amA:fV:=⟨[a6,a6],[.ow eA,.im a6],qU⟩
def UZ:FK 161 amA:=a9 a0 a1 func161 8
def apr:g3:=j0 (gH [(161,amA)] [] [] [] aq ag ag 0) f318 8
def az7:IK 318 apr:=ll (ay a0 UZ) a1 func318 8
abbrev amE:fV:=⟨[mS],[.ow eA,.im a6],zc⟩
def U2:FK 238 amE:=a9 (ay a0 adG) (g1 a1 az7) func238 6
def ad1:FK 319 amS:=axy U_
def auj:FK 320 ⟨[(.sl qB)],[.cl qB],SI⟩:=a9 a0 a1 func320 3
def arh:FK 321 amz:=axx
def adX:FK 381 ⟨[sG,a6],[.im sG],lS⟩:=a9 a0 a1 func381 6
def at8:FK 380 ⟨[cG],[.im<|.ar 64 sG],Sw⟩:=a9 (ay a0 adX) a1 func380 9
def aeV:FK 292 ⟨[(.ar 8 sG),cG],[.im<|.ar 8 sG,.im a6],Su⟩:=a9 (ay (ay a0 adX) at8) a1 func292 16
def aeY:FK 220 ⟨[AR],[.ow eA],Df⟩:=a9 (ay a0 aeV) a1 func220 9
abbrev amX:fV:=⟨[AR,cG],[.im AR],Au⟩
def Vs:FK 221 amX:=a9 (ay a0 aeV) a1 func221 6
abbrev amW:fV:=⟨[],[.im AR],LB⟩
def aeW:FK 222 amW:=a9 a0 a1 func222 1
def aeX:FK 162 ⟨[cG],[.ow eA],GB⟩:=a9 (ay (ay (ay a0 aeW) Vs) aeY) a1 func162 3
def ar2:FK 377 ⟨[cG],[.ow eA],Y1⟩:=a9 (ay a0 aeX) a1 func377 4
def apu:g3:=j0 (gH [(221,amX),(222,amW)] [] [] [] aq ag ag 0) f378 6
def aAa:IK 378 apu:=ll (ay (ay a0 aeW) Vs) a1 func378 6
def U':FK 289 ⟨[cG,cG],[.ow eA],Ft⟩:=a9 (ay (ay (ay a0 ar2) Vs) aeY) (g1 a1 aAa) func289 7
def ad2:FK 322 ⟨[cG,cG],[.ow eA],FP⟩:=a9 (ay a0 U') a1 func322 5
def ar7:FK 239 ⟨[qA,cG,cG],[.im qA,.ow eA],Qn⟩:=a9 (ay (ay (ay (ay a0 ad2) arh) auj) ad1) a1 func239 8
def adF:FK 323 ⟨[mS],[.im c?],Ev⟩:=a9 (ay a0 adG) a1 func323 3
def arv:FK 240 ⟨[mS],[.ow eA,.im a6],Om⟩:=a9 (ay (ay a0 adF) U2) a1 func240 6
def arB:FK 241 ⟨[cG],[.ow eA,.im a6],WL⟩:=a9 a0 a1 func241 4
def auk:FK 242 ⟨[u?],[.cl mR],SJ⟩:=a9 a0 a1 func242 3
def adT:FK 173 ⟨[bY,mS,cG],[.im bY,.im a6],JN⟩:=a9 (ay (ay (ay (ay (ay (ay a0 auk) arB) arv) ar7) U2) arP) a1 func173 17
def U9:FK 171 ⟨[a6,(.sl a6)],[.im c?],Ch⟩:=a9 a0 a1 func171 7
abbrev amL:fV:=⟨[l1],[.im AU],oV⟩
def y5:FK 174 amL:=a9 (ay a0 U9) a1 func174 4
abbrev amM:fV:=⟨[bY,cG],[.im bY,.im a6],oW⟩
def Bh:FK 117 amM:=a9 (ay (ay (ay (ay a0 y5) adT) adU) HK) a1 func117 9
def aul:FK 181 am1:=axC
def asb:FK 121 ⟨[sH],[.im cG,.im sH,.im c?],Qt⟩:=a9 (ay a0 aul) a1 func121 5
def NF:FK 69 ⟨[bY],[.im bY],ln⟩:=a9 (ay (ay a0 asb) Bh) a1 func69 8
abbrev amK:fV:=⟨[bY,a6],[.im bY],lx⟩
def y4:FK 231 amK:=a9 a0 a1 func231 7
def adV:FK 243 ⟨[cG,.str,sH],[.ow eA,.im a6],PL⟩:=a9 (ay a0 U') a1 func243 11
abbrev amJ:fV:=⟨[cG],[.ow eA],Ce⟩
def adQ:FK 175 amJ:=a9 (ay a0 adV) a1 func175 5
abbrev amB:fV:=⟨[cG,a6,a6],[.im a6,.im a6,.im a6],mx⟩
def adD:FK 379 amB:=a9 a0 a1 func379 12
def aps:g3:=j0 (gH [(379,amB)] [] [] [] aq af ag 0) f426 9
def az8:IK 426 aps:=ll (ay a0 adD) a1 func426 9
def Va:FK 437 ⟨[hI],[.im c?],Zk⟩:=a9 a0 a1 func437 3
def NJ:FK 439 ⟨[hI],[.im c?],P4⟩:=a9 a0 a1 func439 3
def U?: FK 438 ⟨[hI],[.im c?],Zj⟩:=a9 (ay a0 NJ) a1 func438 4
def Vb:FK 440 ⟨[hI],[.im c?],Zm⟩:=a9 a0 a1 func440 3
abbrev amF:fV:=⟨[cG],[.im mS,.im a6],Ol⟩
def aru:FK 382 amF:=a9 (ay (ay (ay (ay (ay (ay a0 Vb) NJ) U?) Va) adF) Vy) (g1 a1 az8) func382 9
def aeT:FK 375 ⟨[(.pair kk nY)],[.im<|.ar 3 mR],R8⟩:=a9 a0 a1 func375 3
abbrev amU:fV:=⟨[kk,a6],[.im cG,.im c?],Ln⟩
def at3:FK 383 amU:=a9 (ay a0 aeT) a1 func383 8
abbrev amR:fV:=⟨[qA,cG,cG,cG],[.im qA,.im c?],FO⟩
def ar5:FK 384 amR:=a9 (ay (ay (ay a0 U_) ad2) ad1) a1 func384 11
abbrev Gs:pf:=⟨bY,[cG],mS,[2,13,5],PC⟩
def arY:wS Tryz.prog 295 63 Gs.ty Gs.args [.im Gs.rt] Gs.fn:=aBr (E:=(gH [(63,amQ),(174,amL),(175,amJ),(238,amE),(382,amF),(383,amU),(384,amR)] [] [] [] (J (297,63)) ag ag 0)) (s:=Gs) (rc (ay (ay (ay (ay (ay (ay (ay a0 ar5) at3) aru) U2) adQ) y5) HK) a1 kC si ajP) rfl func295 14 BY BY<|λx =>BY
def ae6:FK 428 ⟨[a6],[.im a6,.im<|.int .u64],Md⟩:=a9 a0 a1 func428 4
def auu:FK 427 ⟨[tS,a6],[.im c?],Tf⟩:=a9 (ay a0 ae6) a1 func427 7
def aus:FK 385 ⟨[tS,a6],[.im c?],ab6⟩:=a9 (ay a0 auu) a1 func385 5
def auv:FK 386 ⟨[tS,a6,.bool],[.im tS],AM⟩:=a9 (ay a0 ae6) a1 func386 9
abbrev am2:fV:=⟨[tS,a6],[.im tS,.im a6],GZ⟩
def aut:FK 296 am2:=a9 (ay (ay a0 auv) aus) a1 func296 7
def aeS:FK 376 ⟨[mR],[.im c?],Lp⟩:=a9 a0 a1 func376 3
abbrev amV:fV:=⟨[kk],[.im kk,.im a6],C3⟩
def aeR:FK 298 amV:=a9 (ay a0 aeS) a1 func298 5
def arX:FK 225 ⟨[bY,cG],[.im bY,.im mS,.im a6],PB⟩:=aBq (E:=(gH [(296,am2),(298,amV)] [] [] [(295,Gs)] (J (297,63)) ag ag 0)) (EC:=(gH [(231,amK)] [] [] [] aq ag ag 65536)) (rc (ay (ay a0 aeR) aut) a1 kC (aBs arY) ajP) (rc (ay a0 y4) a1 kC si tr) rfl func225 func294 9 3 BY BY BY (λc A B q h hs=>by cases h;cases hs;rfl)<|λx =>BY
def apw:g3:=j0 (gH [] [] [] [] aq ag ag 0) f285 3
def aAc:IK 285 apw:=ll a0 a1 func285 3
def Ec:FK 213 ⟨[a6,a6],[.im a6,.im c?],ss⟩:=a9 (ay a0 Vc) (g1 a1 aAc) func213 9
def Vv:FK 219 ⟨[bY,a6],[.im bY],u0⟩:=a9 (ay a0 Ec) a1 func219 5
def ae2:FK 299 ⟨[bY,a6],[.im bY],LG⟩:=a9 (ay (ay a0 y5) NZ) a1 func299 5
def aub:FK 226 ⟨[bY],[.im bY],Sz⟩:=a9 (ay (ay a0 ae2) Vv) a1 func226 3
def adB:FK 400 ⟨[cG],[.im<|.str],H4⟩:=a9 a0 a1 func400 6
def U1:FK 414 ⟨[(.int .i32)],[.im a6,.im c?],ua⟩:=a9 a0 a1 func414 4
def adC:FK 357 ⟨[cG,a6,a6],[.im<|.str,.im a6,.im a6],za⟩:=a9 (ay (ay a0 U1) adB) a1 func357 15
abbrev amC:fV:=⟨[.str],[.im a6,.im a6],vH⟩
def U0:FK 358 amC:=a9 (ay a0 U1) a1 func358 9
def U7:FK 415 ⟨[a6,a6],[.im a6],v4⟩:=a9 a0 a1 func415 5
def NH:FK 359 ⟨[a6],[.im c?],B_⟩:=a9 (ay a0 U7) a1 func359 4
def ard:FK 360 Sc:=axw adz
def arz:FK 444 ⟨[a6],[.im a6],Io⟩:=a9 a0 a1 func444 3
def TV:g3:=j0 (gH [] [] [] [] aq ag ag 0) f445 3
def Ys:IK 445 TV:=ll a0 a1 func445 3
def arA:FK 417 ⟨[a6,a6],[.im a6],Bu⟩:=a9 (ay a0 arz) (g1 a1 Ys) func417 5
def HH:FK 361 ⟨[a6],[.im Mo,.im c?],xk⟩:=a9 (ay a0 arA) a1 func361 6
def U3:FK 418 ⟨[a6],[.im a6],jB⟩:=a9 a0 a1 func418 3
def acF:g3:=j0 (gH [] [(445,TV)] [] [] aq ag ag 0) f446 7
def aiT:IK 446 acF:=ll a0 (g1 a1 Ys) func446 7
def apt:g3:=j0 (gH [] [(445,TV),(446,acF)] [] [] aq ag ag 0) f420 3
def az9:IK 420 apt:=ll a0 (g1 (g1 a1 aiT) Ys) func420 3
def NE:FK 365 ⟨[a6,cG],[.im c?],xj⟩:=a9 (ay (ay a0 U3) HH) (g1 (g1 a1 az9) aiT) func365 8
def arx:FK 362 ⟨[a6,cG,a6],[.ow eA,.im a6,.im a6],Oz⟩:=a9 (ay (ay (ay (ay (ay a0 U3) NE) HH) U0) adC) a1 func362 20
abbrev amH:fV:=⟨[cG],[.im kK,.im a6],Ff⟩
def U4:FK 278 amH:=a9 (ay (ay (ay (ay (ay (ay a0 arx) HH) ard) NH) U0) adC) a1 func278 20
def ar4:FK 397 ⟨[hI],[.im<|.fn [437,438,439,440]],Zl⟩:=a9 (ay (ay (ay (ay a0 Vb) NJ) U?) Va) a1 func397 3
def adZ:FK 314 ⟨[hI],[.im c?],J_⟩:=a9 (ay (ay (ay (ay (ay a0 Vb) NJ) U?) Va) ar4) a1 func314 3
def y3:FK 421 ⟨[mR],[.im a6],Px⟩:=a9 a0 a1 func421 3
def adO:FK 366 ⟨[kK],[.im ack],Pw⟩:=a9 (ay a0 y3) a1 func366 3
def adP:FK 419 ⟨[ack,a6],[.im a6,.im c?],JC⟩:=a9 (ay a0 y3) a1 func419 9
def apB:g3:=j0 (gH [] [] [] [] aq ag ag 0) f447 5
def aAg:IK 447 apB:=ll a0 a1 func447 5
def aum:FK 422 ⟨[(.sl u?)],[.ow mR],SK⟩:=a9 a0 (g1 a1 aAg) func422 9
def arW:FK 367 ⟨[ack,mR],[.ow mR],YA⟩:=a9 (ay (ay (ay a0 y3) aum) adP) a1 func367 8
abbrev amI:fV:=⟨[kK,a6,cG],[.im kK,.im a6],k8⟩
def U5:FK 282 amI:=a9 (ay (ay (ay (ay (ay a0 y3) arW) adO) NE) HH) a1 func282 10
def acG:g3:=j0 (gH [(282,amI)] [] [] [] aq ag ag 0) f398 4
def aiU:IK 398 acG:=ll (ay a0 U5) a1 func398 4
def ND:FK 281 ⟨[a6,a6],[.im<|.str,.im a6],vG⟩:=a9 a0 a1 func281 8
def ar3:FK 399 ⟨[a6,a6],[.ow eA],sm⟩:=a9 (ay a0 ND) a1 func399 7
def ad0:FK 315 ⟨[hI],[.im kK],FC⟩:=a9 (ay (ay a0 adB) ar3) (g1 a1 aiU) func315 5
abbrev amG:fV:=⟨[kK,a6],[.im cG,.im c?],sb⟩
def NG:FK 364 amG:=a9 (ay (ay (ay a0 y3) adP) adO) a1 func364 8
def apv:g3:=j0 (gH [(358,amC),(364,amG)] [(398,acG)] [] [] aq ag ag 0) f387 7
def aAb:IK 387 apv:=ll (ay (ay a0 NG) U0) (g1 a1 aiU) func387 7
def arj:FK 429 ⟨[eA],[.im eA,.im c?],Ob⟩:=a9 a0 a1 func429 4
def ari:FK 388 ⟨[.str],[.ow eA,.im a6],H5⟩:=a9 (ay a0 arj) a1 func388 10
def UY:FK 236 ⟨[cG,cG],[.im c?],Eb⟩:=a9 a0 a1 func236 5
def adN:FK 431 ⟨[mR,mR],[.im c?],Pu⟩:=a9 (ay a0 UY) a1 func431 5
def aun:FK 430 ⟨[u?,u?,(.fn [431])],[.im c?],SL⟩:=a9 (ay a0 adN) a1 func430 10
def arV:FK 389 ⟨[kK,kK],[.im c?],JA⟩:=a9 (ay (ay a0 adN) aun) a1 func389 5
abbrev amO:fV:=⟨[cG],[.im hI,.im a6],FB⟩
def adY:FK 300 amO:=a9 (ay (ay (ay (ay (ay (ay a0 arV) ari) NG) ad0) adZ) U4) (g1 a1 aAb) func300 10
def apq:g3:=j0 (gH [(278,amH),(300,amO)] [] [] [] aq ag ag 0) f227 7
def az6:IK 227 apq:=ll (ay (ay a0 adY) U4) a1 func227 7
def NW:FK 176 ⟨[bY],[.im<|.pair (.pair l1 nY)<|.pair bY nY],Al⟩:=a9 a0 a1 func176 3
def Vp:FK 177 ⟨[(.pair l1 nY)],[.im c?],ym⟩:=a9 a0 a1 func177 3
def Vq:FK 178 ⟨[bY],[.im bY],C1⟩:=a9 (ay a0 Ec) a1 func178 3
def Vr:FK 179 ⟨[kk],[.im kk],Lo⟩:=a9 a0 a1 func179 3
def adR:FK 287 ⟨[cG,AU,a6,cG],[.ow eA],Cf⟩:=a9 (ay (ay (ay a0 adV) U9) UZ) a1 func287 17
def aeP:FK 215 ⟨[(.pair l1 nY),a6,cG],[.ow eA],C0⟩:=a9 (ay (ay a0 adR) y5) a1 func215 7
def aeU:FK 286 ⟨[(.pair kk nY)],[.im c?],R9⟩:=a9 (ay (ay a0 aeS) aeT) a1 func286 5
def at7:FK 288 ⟨[mR],[.im c?],R7⟩:=a9 a0 a1 func288 3
def aeQ:FK 216 ⟨[kk,a6,cG],[.im kk,.im a6],Gm⟩:=a9 (ay (ay a0 at7) aeU) a1 func216 10
def adW:FK 217 ⟨[cG],[.ow eA],JW⟩:=a9 (ay a0 U') a1 func217 3
def arU:FK 368 ⟨[kK],[.im c?],Pt⟩:=a9 (ay (ay a0 NE) NH) a1 func368 6
def adA:FK 369 ⟨[.str],[.ow eA,.im a6],vF⟩:=a9 (ay a0 U1) a1 func369 10
def arf:FK 423 ⟨[(.sl a6)],[.im c?],Nt⟩:=a9 a0 a1 func423 6
def arg:FK 370 ⟨[(.sl a6)],[.ow eA,.im a6],Nu⟩:=a9 (ay (ay a0 adz) arf) a1 func370 9
def ary:FK 371 ⟨[a6,cG],[.ow eA,.im a6],Im⟩:=a9 (ay (ay (ay (ay (ay a0 U3) adA) NE) HH) ND) a1 func371 14
def U6:FK 283 ⟨[kK],[.ow eA,.im a6],Ca⟩:=a9 (ay (ay (ay (ay (ay a0 ary) arg) adA) arU) ND) a1 func283 17
abbrev amP:fV:=⟨[hI],[.ow eA,.im a6],ra⟩
def HI:FK 234 amP:=a9 (ay (ay (ay a0 ad0) adZ) U6) a1 func234 4
abbrev amN:fV:=⟨[hI,a6],[.im hI,.im a6],sk⟩
def NI:FK 391 amN:=a9 a0 a1 func391 6
def apx:g3:=j0 (gH [(117,amM),(234,amP),(391,amN)] [] [] [] aq ag ag 0) f390 9
def aAd:IK 390 apx:=ll (ay (ay (ay a0 NI) HI) Bh) a1 func390 9
def at2:FK 301 ⟨[bY,hI],[.im bY],RZ⟩:=a9 (ay (ay (ay (ay (ay (ay (ay (ay (ay a0 U_) y4) adW) aeQ) aeP) Vr) Vq) Vp) NW) (g1 a1 aAd) func301 10
def aeO:FK 118 ⟨[bY],[.im bY],Lj⟩:=a9 (ay (ay (ay (ay a0 Vr) Vq) Vp) NW) a1 func118 3
def U8:FK 116 ⟨[bY,a6,cG],[.im bY,.im a6],Fk⟩:=a9 (ay (ay (ay (ay (ay a0 adQ) y5) adT) adU) U9) a1 func116 9
def ara:FK 233 ⟨[a6],[.im a6],Np⟩:=a9 a0 a1 func233 3
def aq8:FK 401 ⟨[a6],[.im c?],Nm⟩:=a9 a0 a1 func401 3
def arc:FK 316 ⟨[a6,a6,cG],[.im c?],Nq⟩:=a9 (ay a0 aq8) a1 func316 7
def aq7:FK 235 ⟨[a6,a6,cG],[.im iV,.im a6],Nl⟩:=a9 (ay a0 arc) a1 func235 8
def NX:FK 169 ⟨[bY,hI],[.im bY],Dg⟩:=a9 (ay (ay (ay (ay (ay a0 aq7) HI) ara) Bh) U8) a1 func169 9
def aq9:FK 170 ⟨[iV,iV],[.im c?],Uw⟩:=a9 (ay a0 UY) a1 func170 5
def ady:FK 112 ⟨[iV],[.im c?],Hz⟩:=a9 (ay a0 aq9) a1 func112 3
def NC:FK 308 ⟨[iV,a6,a6],[.im c?],yY⟩:=a9 (ay a0 ady) a1 func308 7
def at0:FK 302 ⟨[bY,hI],[.im bY],RX⟩:=a9 (ay (ay (ay (ay (ay (ay (ay (ay a0 NC) aeR) y4) Vq) Vp) NW) NX) aeO) a1 func302 5
def arG:FK 303 ⟨[bY,hI],[.im bY],WQ⟩:=a9 (ay (ay (ay a0 NI) HI) Bh) a1 func303 9
def adI:FK 180 ⟨[bY],[.im bY],EI⟩:=a9 (ay a0 Ec) a1 func180 3
def arE:FK 304 ⟨[bY,hI],[.im bY],OL⟩:=a9 (ay (ay (ay (ay a0 NC) adY) y4) adI) a1 func304 7
def Vu:FK 306 ⟨[bY],[.im bY],uZ⟩:=a9 (ay a0 y4) a1 func306 3
def adS:FK 168 ⟨[l1,a6],[.im l1],Cg⟩:=a9 (ay (ay (ay a0 y5) HK) NZ) a1 func168 5
abbrev amY:fV:=⟨[bY,a6],[.im bY],uY⟩
def HQ:FK 110 amY:=a9 (ay a0 adS) a1 func110 5
def MF:g3:=j0 (gH [(110,amY)] [] [] [] aq ag ag 0) f432 3
def Pm:IK 432 MF:=ll (ay a0 HQ) a1 func432 3
abbrev aaW:fV:=⟨[bY,hI],[.im bY],LI⟩
def Vt:FK 433 aaW:=a9 (ay (ay (ay a0 NI) HI) Bh) a1 func433 9
def TW:g3:=j0 (gH [] [(432,MF)] [] [] aq ag ag 0) f434 3
def Yt:IK 434 TW:=ll a0 (g1 a1 Pm) func434 3
def acH:g3:=j0 (gH [(433,aaW)] [(432,MF),(434,TW)] [] [] aq ag ag 0) f435 5
def aiV:IK 435 acH:=ll (ay a0 Vt) (g1 (g1 a1 Yt) Pm) func435 5
def apy:g3:=j0 (gH [(433,aaW)] [(432,MF),(434,TW),(435,acH)] [] [] aq ag ag 0) f393 2
def aAe:IK 393 apy:=ll (ay a0 Vt) (g1 (g1 (g1 a1 aiV) Yt) Pm) func393 2
def aue:FK 305 ⟨[bY,hI],[.im bY],SB⟩:=a9 (ay (ay (ay a0 Vt) NC) Vu) (g1 (g1 (g1 (g1 a1 aAe) aiV) Yt) Pm) func305 7
def art:FK 228 ⟨[bY,hI],[.im bY],Ib⟩:=a9 (ay (ay (ay (ay (ay a0 aue) arE) arG) at0) at2) a1 func228 5
def aeZ:FK 157 ⟨[bY],[.im bY],GC⟩:=a9 (ay a0 adS) a1 func157 4
def Vz:FK 97 ⟨[a6],[.ow eA,.im a6],LP⟩:=a9 (ay (ay a0 aeX) UZ) a1 func97 6
def auo:FK 290 ⟨[cG],[.im a6,.im c?],LO⟩:=a9 (ay (ay (ay a0 adD) UY) Vz) a1 func290 8
def aur:FK 291 ⟨[a6,a6,.bool,.bool],[.im a6,.im c?],abb⟩:=a9 a0 a1 func291 10
def ae5:FK 218 ⟨[qB],[.im a6,.im a6,.im c?],LN⟩:=a9 (ay (ay a0 aur) auo) a1 func218 11
def auq:FK 167 ⟨[qB,a6],[.im qB,.im a6,.im a6],SO⟩:=a9 (ay (ay (ay a0 ae4) ae5) Vz) a1 func167 13
def ae1:FK 109 ⟨[bY],[.im bY,.im a6,.im a6],LF⟩:=a9 (ay (ay a0 auq) aeZ) a1 func109 8
def aui:FK 394 ⟨[bY,hI,a6],[.im bY],LK⟩:=a9 (ay (ay (ay a0 NI) HI) U8) a1 func394 11
def at4:FK 436 ⟨[cG],[.im kk,.im a6],R4⟩:=a9 a0 a1 func436 4
def ae3:FK 395 ⟨[bY,a6,a6],[.im bY],GE⟩:=a9 (ay (ay (ay a0 at4) adR) y5) a1 func395 7
def auh:FK 307 ⟨[bY,hI,a6],[.im bY],SF⟩:=a9 (ay (ay (ay (ay (ay (ay (ay a0 y3) ae3) aui) Vu) HQ) ae1) HK) a1 func307 10
def NY:FK 111 ⟨[bY,a6],[.im bY],GD⟩:=a9 (ay a0 NX) a1 func111 5
def aug:FK 309 ⟨[bY,a6],[.im bY],SE⟩:=a9 (ay (ay (ay (ay (ay a0 y3) ae3) ae2) Vv) NY) a1 func309 5
def aud:FK 229 ⟨[bY,mS,hI],[.im bY],LD⟩:=a9 (ay (ay (ay (ay a0 aug) NC) auh) Vu) a1 func229 9
def HJ:FK 210 ⟨[a6],[.im c?],z5⟩:=a9 (ay a0 Vc) a1 func210 3
def adH:FK 212 ⟨[bY,a6,a6,cG],[.im bY],Iu⟩:=a9 (ay (ay a0 y5) NZ) a1 func212 9
def arS:FK 363 ⟨[a6],[.im a6],Jz⟩:=a9 (ay (ay a0 U7) NH) a1 func363 3
def adK:FK 279 ⟨[kK],[.im c?],Iv⟩:=a9 (ay a0 arS) a1 func279 3
def arN:FK 310 ⟨[.bool,a6,a6],[.im a6],WT⟩:=a9 a0 a1 func310 7
def adJ:FK 280 ⟨[kK],[.im c?],EJ⟩:=a9 (ay a0 NG) a1 func280 5
def arM:FK 311 ⟨[kK],[.im c?],OR⟩:=a9 (ay a0 adJ) a1 func311 4
def arT:FK 396 ⟨[a6],[.im a6,.im c?],Ps⟩:=a9 (ay (ay a0 U7) NH) a1 func396 5
def arL:FK 312 ⟨[bY,kK],[.im bY],OQ⟩:=a9 (ay (ay (ay (ay (ay (ay (ay a0 y3) arT) NG) U6) U5) y4) Bh) a1 func312 13
def arK:FK 230 ⟨[bY,mS,kK],[.im bY],It⟩:=a9 (ay (ay (ay (ay (ay (ay (ay a0 arL) arM) arN) adK) y4) adH) HJ) a1 func230 7
def aro:FK 166 ⟨[bY,cG],[.im bY],H_⟩:=a9 (ay (ay (ay (ay (ay (ay (ay a0 y4) arK) aud) art) aub) arX) NF) (g1 a1 az6) func166 10
def ark:FK 107 ⟨[bY,a6,cG],[.im bY],Oi⟩:=a9 (ay (ay a0 aro) arQ) a1 func107 12
abbrev aGk:jM:=⟨rD,[a6,a6,cG],[],G1⟩
def ae9:jL Tryz.prog 58 aGk:=qQ (ay a0 ark) a1 (i2 (i2 kC HR) N0) func58 8
abbrev Lv:jM:=⟨rD,[iV],[.im a6],Mi⟩
def VB:jL Tryz.prog 25 Lv:=qQ (ay (ay a0 Vx) y7) (g1 a1 aiW) (i2 kC ae9) func25 7
abbrev Sh:jM:=⟨rD,[iV],[.im a6],Tl⟩
def afe:jL Tryz.prog 38 Sh:=qQ (ay (ay a0 Vx) y7) (g1 a1 aiW) kC func38 5
abbrev Sd:jM:=⟨rD,[iV],[.im a6],Th⟩
def ae8:jL Tryz.prog 39 Sd:=qQ (ay (ay a0 Vw) y7) a1 kC func39 5
abbrev Sk:jM:=⟨rD,[iV],[.im a6],To⟩
def afh:jL Tryz.prog 40 Sk:=qQ (ay (ay (ay a0 Vy) Vw) y7) a1 kC func40 6
abbrev Si:jM:=⟨rD,[iV],[.im a6],Tm⟩
def aff:jL Tryz.prog 41 Si:=qQ (ay a0 y7) a1 (i2 kC ae9) func41 5
def arR:FK 148 ⟨[mq,a6],[.im mq,.im a6],Pj⟩:=a9 (ay a0 adM) a1 func148 7
def arq:FK 88 ⟨[bY,a6],[.im bY,.im a6],Ok⟩:=a9 (ay (ay a0 arR) NF) a1 func88 8
abbrev Sj:jM:=⟨rD,[iV],[.im a6],Tn⟩
def afg:jL Tryz.prog 42 Sj:=qQ (ay (ay a0 arq) y7) a1 (i2 (i2 kC HR) N0) func42 8
abbrev Sf:jM:=⟨rD,[iV],[.im a6],Tk⟩
def afc:jL Tryz.prog 43 Sf:=qQ (ay a0 y7) a1 (i2 kC afa) func43 5
def at6:FK 64 ⟨[kk],[.im kk],R6⟩:=a9 a0 a1 func64 3
def ae0:FK 65 ⟨[bY],[.im bY,.im a6],LE⟩:=a9 (ay (ay (ay a0 NY) HQ) ae1) a1 func65 6
def TU:g3:=j0 (gH [] [] [] [] aq ag ag 0) f114 2
def Yr:IK 114 TU:=ll a0 a1 func114 2
def acE:g3:=j0 (gH [] [(114,TU)] [] [] aq ag ag 0) f115 2
def aiS:IK 115 acE:=ll a0 (g1 a1 Yr) func115 2
def app:g3:=j0 (gH [] [(114,TU),(115,acE)] [] [] aq ag ag 0) f113 4
def az5:IK 113 app:=ll a0 (g1 (g1 a1 aiS) Yr) func113 4
def arb:FK 66 ⟨[iV],[.im iV,.im c?,.im c?],D9⟩:=a9 (ay a0 ady) (g1 (g1 (g1 a1 az5) aiS) Yr) func66 8
def arr:FK 67 ⟨[bY,iV],[.im bY],Et⟩:=a9 (ay (ay a0 Bh) U8) a1 func67 5
def arH:FK 119 ⟨[bY],[.im bY],ON⟩:=a9 (ay a0 adI) a1 func119 3
def auc:FK 120 ⟨[bY],[.im bY],SA⟩:=a9 (ay a0 HQ) a1 func120 3
def ars:FK 68 ⟨[bY],[.im bY],Eu⟩:=a9 (ay (ay (ay a0 auc) arH) aeO) a1 func68 3
abbrev amD:fV:=⟨[bY],[.im bY],Ia⟩
def adE:FK 27 amD:=a9 (ay (ay (ay (ay (ay (ay (ay a0 NF) ars) arr) arb) ae0) at6) HK) a1 func27 6
def ae7:FK 15 ⟨[jh,a6],[.im jh],G0⟩:=PR (E:=(gH [(27,amD)] [] [(25,Lv),(26,am4),(28,am3)] [] aq ag ag 0)) (rc (ay a0 adE) a1 (i2 (i2 (i2 kC HR) N0) VB) si tr) func15 8 BY BY<|λx =>BY
abbrev Se:jM:=⟨rD,[iV],[.im a6],Tj⟩
def afb:jL Tryz.prog 44 Se:=qQ (ay a0 ae7) a1 kC func44 5
def arI:FK 209 ⟨[cG,a6],[.ow eA,.im a6],OO⟩:=a9 (ay (ay (ay (ay (ay (ay a0 U6) U5) ND) adJ) adK) U4) a1 func209 12
def ar9:FK 284 amT:=axz
def asa:FK 211 ⟨[sH,cG,a6],[.im sH,.im a6],Qs⟩:=a9 (ay a0 ar9) a1 func211 11
def arJ:FK 152 ⟨[bY,cG],[.im bY,.im a6],OP⟩:=a9 (ay (ay (ay (ay (ay a0 adH) asa) HJ) arI) NF) a1 func152 9
def auf:FK 153 ⟨[bY],[.im bY,.im a6],SC⟩:=a9 (ay (ay (ay (ay a0 Ec) Vr) NY) HQ) a1 func153 6
def aua:FK 154 ⟨[bY],[.im bY,.im a6],Sy⟩:=a9 (ay (ay a0 HJ) NY) a1 func154 4
def at5:FK 214 ⟨[kk],[.im a6,.im a6],R5⟩:=a9 (ay a0 aeU) a1 func214 4
def at1:FK 155 ⟨[bY,cG],[.im bY,.im a6],RY⟩:=a9 (ay (ay (ay (ay (ay (ay (ay (ay a0 adW) aeQ) aeP) at5) Ec) HJ) NW) NX) a1 func155 9
def arF:FK 156 ⟨[bY,a6],[.im bY,.im a6],OM⟩:=a9 (ay (ay (ay a0 Ec) HJ) NX) a1 func156 6
def at9:FK 158 ⟨[bY],[.im bY],Sx⟩:=a9 (ay (ay a0 Vv) ae5) a1 func158 6
def arn:FK 90 ⟨[bY,iV],[.im bY,.im a6],Oj⟩:=a9 (ay (ay (ay (ay (ay (ay (ay (ay (ay a0 at9) aeZ) arF) at1) aua) auf) arJ) ae0) adE) a1 func90 6
abbrev Sg:jM:=⟨rD,[iV],[.im a6],rA⟩
def afd:jL Tryz.prog 45 Sg:=qQ (ay (ay a0 arn) y7) a1 (i2 (i2 kC HR) N0) func45 7
def acJ:g3:=j0 (gH [] [] [(25,Lv),(38,Sh),(39,Sd),(40,Sk),(41,Si),(42,Sj),(43,Sf),(44,Se),(45,Sg)] [] aq af ag 0) f19 4
def aAi:IK 19 acJ:=ajJ (E:=(gH [] [] [(25,Lv),(38,Sh),(39,Sd),(40,Sk),(41,Si),(42,Sj),(43,Sf),(44,Se),(45,Sg)] [] aq af ag 0)) (rc a0 a1 (i2 (i2 (i2 (i2 (i2 (i2 (i2 (i2 (i2 kC afd) afb) afc) afg) aff) afh) ae8) afe) VB) si tr) func19 4
def VA:FK 9 ⟨[jh,iV],[.im jh,.im a6],rz⟩:=PR (E:=(gH [] [(19,acJ)] [(25,Lv),(38,Sh),(39,Sd),(40,Sk),(41,Si),(42,Sj),(43,Sf),(44,Se),(45,Sg)] [] aq ag ag 0)) (rc a0 (g1 a1 aAi) (i2 (i2 (i2 (i2 (i2 (i2 (i2 (i2 (i2 kC afd) afb) afc) afg) aff) afh) ae8) afe) VB) si tr) func9 10 BY BY<|λx =>BY
def qR:FK 10 ⟨[cG,cG],[.im c?],nR⟩:=a9 a0 a1 func10 5
def aet:FK 47 ⟨[DG,DG],[.im c?],K6⟩:=a9 (ay a0 qR) a1 func47 6
def as5:FK 91 ⟨[qB,qB],[.im c?],Q7⟩:=a9 (ay a0 qR) a1 func91 5
def asX:FK 159 ⟨[mR,mR],[.im c?],KW⟩:=a9 (ay a0 qR) a1 func159 5
def asU:FK 92 ⟨[kk,kk],[.im c?],Q1⟩:=a9 (ay a0 asX) a1 func92 8
def as8:FK 93 ⟨[iV,iV],[.im c?],Q?⟩:=a9 (ay a0 qR) a1 func93 5
def asd:FK 94 ⟨[sH,sH],[.im c?],Qy⟩:=a9 a0 a1 func94 6
def asH:FK 160 ⟨[yD,yD],[.im c?],QR⟩:=a9 (ay a0 qR) a1 func160 5
def asO:FK 95 ⟨[mq,mq],[.im c?],QX⟩:=a9 (ay a0 asH) a1 func95 7
def atk:FK 96 ⟨[u?,u?],[.im c?],Rj⟩:=a9 (ay a0 qR) a1 func96 6
def ati:FK 46 ⟨[l1,l1],[.im c?],Rh⟩:=a9 (ay (ay (ay (ay (ay (ay (ay (ay a0 atk) asO) asd) as8) asU) as5) aet) qR) a1 func46 12
def atX:FK 48 ⟨[(.sl tT),(.sl tT)],[.im c?],CX⟩:=a9 (ay a0 qR) a1 func48 6
def atQ:FK 20 ⟨[jh,jh],[.im c?],RO⟩:=a9 (ay (ay (ay a0 atX) aet) ati) a1 func20 8
def asr:FK 21 ⟨[qA,qA],[.im c?],KK⟩:=a9 (ay a0 qR) a1 func21 6
def atV:FK 11 ⟨[jh,jh],[.im c?],RR⟩:=a9 (ay (ay a0 asr) atQ) a1 func11 6
def aup:FK 49 ⟨[],[.im qB],SN⟩:=a9 (ay a0 Vz) a1 func49 3
def arp:FK 22 ⟨[a6,cG],[.im l1,.im a6],H?⟩:=a9 (ay a0 aup) a1 func22 6
def ar6:FK 23 ⟨[.bool],[.im qA],akX⟩:=a9 a0 a1 func23 3
def auw:FK 12 ⟨[cG,.bool],[.im jh,.im a6],AO⟩:=a9 (ay (ay a0 ar6) arp) a1 func12 10
def aux:FK 13 ⟨[jh,(.sl iV)],[.im jh,.ow a6],Tg⟩:=a9 (ay a0 VA) a1 func13 11
def asv:FK 163 ⟨[(.sl a6),a6],[.im c?],KP⟩:=a9 a0 a1 func163 6
def HL:FK 100 ⟨[a6],[.im Mo,.im c?],Aa⟩:=a9 (ay a0 asv) a1 func100 7
def Vi:FK 101 ⟨[Mo,cG],[.im c?],uO⟩:=a9 a0 a1 func101 6
def aed:FK 98 ⟨[a6,cG],[.im c?],KL⟩:=a9 (ay (ay a0 Vi) HL) a1 func98 8
def NM:FK 99 ⟨[a6],[.im c?],CM⟩:=a9 a0 a1 func99 3
def asC:FK 50 ⟨[kK],[.im c?],QN⟩:=a9 (ay (ay a0 NM) aed) a1 func50 5
def ad4:FK 106 ⟨[.str],[.im c?],Kz⟩:=a9 a0 a1 func106 4
def ad3:FK 53 ⟨[.str],[.ow eA,.im a6],ws⟩:=a9 (ay a0 ad4) a1 func53 6
def aee:FK 102 ⟨[a6],[.im a6],F5⟩:=a9 a0 a1 func102 3
def Vf:FK 164 ⟨[a6,a6],[.im a6],yg⟩:=a9 a0 a1 func164 7
def NK:FK 103 ⟨[a6,a6],[.im<|.str,.im a6],wu⟩:=a9 (ay a0 Vf) a1 func103 8
def asu:FK 51 ⟨[a6,cG],[.ow eA,.im a6],KN⟩:=a9 (ay (ay (ay (ay (ay a0 NK) aee) Vi) HL) ad3) a1 func51 16
def asx:FK 104 ⟨[(.sl a6)],[.im c?],QJ⟩:=a9 a0 a1 func104 4
def aef:FK 105 ⟨[a6],[.im a6,.im eA],CL⟩:=a9 a0 a1 func105 6
def asy:FK 52 ⟨[(.sl a6)],[.ow eA,.im a6],QK⟩:=a9 (ay (ay a0 aef) asx) a1 func52 11
def asE:FK 54 ⟨[a6],[.im<|.str],QP⟩:=a9 (ay a0 NK) a1 func54 5
def NN:FK 24 ⟨[kK],[.ow eA,.im a6],wv⟩:=a9 (ay (ay (ay (ay (ay a0 asE) ad3) asy) asu) asC) a1 func24 14
def ar0:FK 14 ⟨[a6],[.ow eA],PE⟩:=a9 (ay a0 NN) a1 func14 5
def ar1:FK 5 ⟨[],[.im c?],PF⟩:=a9 (ay (ay (ay (ay (ay (ay a0 ae7) ar0) aux) auw) atV) VA) a1 func5 12
def atS:FK 6 ⟨[(.sl iV),a6],[.im c?],RQ⟩:=a9 a0 a1 func6 7
def Vd:FK 122 ⟨[a6,a6],[.ow eA,.im a6],yf⟩:=a9 (ay a0 Vf) a1 func122 8
def asi:FK 244 ⟨[a6],[.ow eA],QB⟩:=a9 a0 a1 func244 6
def ad7:FK 245 ⟨[],[.ow sG],QD⟩:=a9 a0 a1 func245 1
def asm:FK 324 ⟨[sG,sG],[.im sG],tG⟩:=a9 a0 a1 func324 5
def ad8:FK 246 ⟨[(.ar 8 sG),cG,a6,(.sl sG)],[.im<|.ar 8 sG],KG⟩:=a9 (ay a0 asm) a1 func246 30
def asl:FK 182 ⟨[AR],[.ow eA],KF⟩:=a9 (ay (ay (ay a0 ad8) ad7) asi) a1 func182 9
def asj:FK 183 ⟨[AR,cG],[.im AR],QC⟩:=a9 (ay (ay a0 ad8) ad7) a1 func183 8
def ash:FK 184 ⟨[],[.im AR],aai⟩:=a9 a0 a1 func184 1
def Vg:FK 123 ⟨[cG],[.ow eA],z?⟩:=a9 (ay (ay (ay a0 ash) asj) asl) a1 func123 3
def Vl:FK 70 ⟨[a6],[.ow eA,.im a6],Gc⟩:=a9 (ay (ay a0 Vg) Vd) a1 func70 7
def as4:FK 29 ⟨[],[.im qB],Q6⟩:=a9 (ay a0 Vl) a1 func29 3
def atL:FK 16 ⟨[a6,cG],[.im l1,.im a6],RL⟩:=a9 (ay a0 as4) a1 func16 6
def asq:FK 17 ⟨[.bool],[.im qA],aal⟩:=a9 a0 a1 func17 3
def atT:FK 7 ⟨[cG,.bool],[.im jh,.im a6],aaE⟩:=a9 (ay (ay a0 asq) atL) a1 func7 10
def HP:FK 36 ⟨[jh,a6],[.im bY],CY⟩:=a9 a0 a1 func36 5
def asK:FK 126 ⟨[mq,a6],[.im mq,.im a6],QT⟩:=a9 a0 a1 func126 6
def atI:FK 75 ⟨[bY,a6],[.im bY,.im a6],aaC⟩:=a9 (ay a0 asK) a1 func75 8
def aeK:FK 32 ⟨[jh,a6],[.im jh],Lf⟩:=a9 (ay (ay a0 atI) HP) a1 func32 10
def aeL:FK 73 ⟨[(.sl tT),tT],[.ow tT],wx⟩:=a9 a0 a1 func73 5
def atH:FK 86 ⟨[l1],[.im l1,.im u?,.im DG],aaB⟩:=a9 a0 a1 func86 7
def NV:FK 37 ⟨[jh,a6,bY],[.im jh],Aj⟩:=a9 (ay (ay (ay a0 atH) aeL) aeK) a1 func37 14
def asI:FK 251 ⟨[yD,eA],[.im yD,.ow eA],QS⟩:=a9 a0 a1 func251 7
def asG:FK 191 ⟨[yD,cG],[.im yD,.ow cG],QQ⟩:=a9 (ay a0 asI) a1 func191 10
def asM:FK 130 ⟨[mq,a6,cG],[.im mq,.ow cG,.im a6],QV⟩:=a9 (ay a0 asG) a1 func130 11
def HN:FK 127 ⟨[a6],[.im c?],ww⟩:=a9 a0 a1 func127 3
def y6:FK 136 ⟨[l1],[.im AU],qm⟩:=a9 a0 a1 func136 3
def as1:FK 406 ⟨[a6],[.im c?],Ga⟩:=a9 a0 a1 func406 3
def aen:FK 331 ⟨[mS],[.im c?],KX⟩:=a9 (ay a0 as1) a1 func331 6
def as0:FK 332 ⟨[a6,a6],[.ow eA],ql⟩:=a9 (ay a0 Vd) a1 func332 7
def Vk:FK 256 ⟨[mS],[.ow eA,.im a6],CO⟩:=a9 (ay (ay a0 as0) aen) a1 func256 6
def asJ:FK 405 ⟨[mq],[.im c?],aar⟩:=a9 a0 a1 func405 3
def asL:FK 325 ⟨[mq],[.im mq,.im a6,.im a6],QU⟩:=a9 (ay a0 asJ) a1 func325 7
def asn:FK 276 ⟨[cG],[.ow eA],QE⟩:=a9 (ay a0 Vg) a1 func276 4
def Vh:FK 204 ⟨[cG,cG],[.ow eA],F2⟩:=a9 (ay (ay a0 asn) Vg) a1 func204 9
def aec:FK 333 ⟨[cG,cG],[.ow eA],F4⟩:=a9 (ay a0 Vh) a1 func333 5
def aeb:FK 334 ⟨[qA,cG,cG],[.im c?],KJ⟩:=a9 (ay a0 qR) a1 func334 8
def ass:FK 326 ⟨[qA,cG,cG],[.im qA,.ow eA],QF⟩:=a9 (ay (ay a0 aeb) aec) a1 func326 9
def aem:FK 330 ⟨[mS],[.im c?],F?⟩:=a9 (ay a0 aen) a1 func330 4
def asZ:FK 327 ⟨[mS],[.ow eA,.im a6],Q5⟩:=a9 (ay (ay a0 aem) Vk) a1 func327 7
def asF:FK 328 ⟨[cG],[.ow eA,.im a6],aaq⟩:=a9 a0 a1 func328 4
def aew:FK 247 ⟨[bY,mS,cG],[.im bY,.im a6],Ge⟩:=a9 (ay (ay (ay (ay (ay a0 asF) asZ) ass) asL) Vk) a1 func247 19
def Bi:FK 185 ⟨[bY,cG],[.im bY,.im a6],ro⟩:=a9 (ay (ay (ay a0 aew) y6) HN) a1 func185 9
def NU:FK 125 ⟨[bY],[.im bY],Ai⟩:=a9 (ay a0 Bi) a1 func125 5
def aso:FK 353 ⟨[.str,sH],[.ow eA],aak⟩:=a9 a0 a1 func353 7
def ad9:FK 272 ⟨[cG,.str,sH],[.ow eA,.im a6],KH⟩:=a9 (ay (ay a0 aso) Vh) a1 func272 9
def aes:FK 250 ⟨[cG],[.ow eA],Af⟩:=a9 (ay a0 ad9) a1 func250 5
def ad6:FK 277 ⟨[cG,a6,a6],[.im a6,.im a6,.im a6],KC⟩:=a9 a0 a1 func277 11
def as2:FK 329 ⟨[cG,a6,a6],[.im a6],yi⟩:=a9 (ay a0 ad6) a1 func329 10
def asY:FK 252 ⟨[cG],[.im mS,.im a6],Q4⟩:=a9 (ay (ay a0 aem) as2) a1 func252 7
def Vn:FK 253 ⟨[bY,a6],[.im bY],o0⟩:=a9 a0 a1 func253 7
def aej:FK 255 ⟨[kk,a6],[.im cG,.im c?],F7⟩:=a9 a0 a1 func255 6
def atl:FK 254 ⟨[l1,mS],[.im c?],Rk⟩:=a9 (ay (ay (ay a0 aej) y6) HN) a1 func254 9
def asp:FK 257 ⟨[qA,cG,cG,cG],[.im qA,.im c?],F3⟩:=a9 (ay (ay (ay a0 aeb) aec) qR) a1 func257 11
def aeh:FK 337 ⟨[a6],[.im<|.int .u64],F6⟩:=a9 a0 a1 func337 5
def aeg:FK 407 ⟨[tS,a6],[.im c?],KT⟩:=a9 (ay a0 aeh) a1 func407 5
def asP:FK 335 ⟨[tS,a6],[.im c?],QY⟩:=a9 (ay a0 aeg) a1 func335 5
def asR:FK 336 ⟨[tS],[.ow a6],QZ⟩:=a9 (ay a0 aeg) a1 func336 6
def asQ:FK 258 ⟨[tS,a6],[.im tS,.im a6],KU⟩:=a9 (ay (ay (ay a0 aeh) asR) asP) a1 func258 12
def ael:FK 259 ⟨[kk],[.im kk,.im a6],CN⟩:=a9 a0 a1 func259 4
def atj:FK 192 ⟨[bY,cG],[.im bY,.im mS,.im a6],aaz⟩:=a9 (ay (ay (ay (ay (ay (ay (ay (ay (ay a0 ael) asQ) asp) Vk) aej) atl) Vn) asY) aes) a1 func192 21
def ad5:FK 265 ⟨[cG,a6,a6],[.im<|.str,.im a6,.im a6],z_⟩:=a9 a0 a1 func265 13
def Ve:FK 266 ⟨[.str],[.im a6,.im a6],F1⟩:=a9 (ay (ay a0 Vf) ad4) a1 func266 6
def asz:FK 352 ⟨[cG,a6],[.im c?],Ab⟩:=a9 (ay a0 aef) a1 func352 7
def asw:FK 267 ⟨[cG,a6],[.ow a6,.im a6,.im a6],QI⟩:=a9 (ay a0 asz) a1 func267 12
def ast:FK 268 ⟨[a6,cG,a6],[.ow eA,.im a6,.im a6],QG⟩:=a9 (ay (ay (ay (ay (ay a0 Ve) ad5) aee) Vi) HL) a1 func268 23
def Vj:FK 194 ⟨[cG],[.im kK,.im a6],KR⟩:=a9 (ay (ay (ay (ay (ay (ay a0 ast) asw) Ve) ad5) HL) NM) a1 func194 20
def aep:FK 354 ⟨[a6],[.im c?],K2⟩:=a9 a0 a1 func354 3
def ate:FK 273 ⟨[hI],[.im c?],Re⟩:=a9 (ay a0 aep) a1 func273 4
def atf:FK 355 ⟨[a6,a6],[.ow eA],oo⟩:=a9 (ay a0 NK) a1 func355 7
def asf:FK 413 ⟨[eA],[.im eA],KE⟩:=a9 a0 a1 func413 3
def asc:FK 356 ⟨[cG],[.im<|.str],KA⟩:=a9 (ay a0 asf) a1 func356 5
def atd:FK 274 ⟨[hI],[.im kK],Rd⟩:=a9 (ay (ay a0 asc) atf) a1 func274 4
def Vm:FK 202 ⟨[hI],[.ow eA,.im a6],Gd⟩:=a9 (ay (ay (ay a0 atd) ate) NN) a1 func202 7
def NL:FK 270 ⟨[kK,a6],[.im cG,.im c?],yh⟩:=a9 a0 a1 func270 7
def asg:FK 408 ⟨[eA],[.im a6],Qz⟩:=a9 a0 a1 func408 3
def ase:FK 338 ⟨[.str],[.ow eA,.im a6],KD⟩:=a9 (ay a0 asg) a1 func338 8
def atg:FK 339 ⟨[kK,a6],[.im a6],Ae⟩:=a9 (ay (ay a0 NL) Ve) a1 func339 9
def aer:FK 260 ⟨[cG],[.im hI,.im a6],K4⟩:=a9 (ay (ay (ay (ay (ay (ay a0 atg) ase) NL) Vm) Vj) qR) a1 func260 15
def aex:FK 249 ⟨[a6],[.im c?],Gf⟩:=a9 a0 a1 func249 3
def Vo:FK 187 ⟨[bY,a6,cG],[.im bY,.im a6],CS⟩:=a9 (ay (ay (ay a0 aes) aex) aew) a1 func187 10
def as9:FK 201 ⟨[a6],[.im a6],Ra⟩:=a9 a0 a1 func201 3
def atb:FK 275 ⟨[a6,a6,cG],[.im c?],Rc⟩:=a9 (ay a0 aep) a1 func275 8
def as7:FK 203 ⟨[a6,a6,cG],[.im iV,.im a6],Q9⟩:=a9 (ay a0 atb) a1 func203 9
def NR:FK 144 ⟨[bY,hI],[.im bY],CT⟩:=a9 (ay (ay (ay (ay (ay a0 as7) Vm) as9) Vo) Bi) a1 func144 13
def NT:FK 139 ⟨[bY,a6],[.im bY],CU⟩:=a9 (ay a0 NR) a1 func139 5
def Bj:FK 340 ⟨[bY],[.im bY],o1⟩:=a9 (ay a0 Vn) a1 func340 3
def NQ:FK 135 ⟨[l1,a6,AU,a6,cG],[.im l1],CQ⟩:=a9 a0 a1 func135 11
def aev:FK 146 ⟨[l1,a6],[.im l1],CR⟩:=a9 (ay (ay (ay a0 y6) NQ) HN) a1 func146 6
def aey:FK 84 ⟨[bY],[.im bY],Gg⟩:=a9 (ay a0 aev) a1 func84 4
def as3:FK 205 ⟨[cG],[.im a6,.im c?],KZ⟩:=a9 (ay (ay (ay a0 ad6) Vl) qR) a1 func205 9
def aeo:FK 147 ⟨[qB],[.im a6,.im a6,.im c?],KY⟩:=a9 (ay a0 as3) a1 func147 9
def as6:FK 198 ⟨[qB,a6],[.im qB,.im a6,.im a6],Q8⟩:=a9 (ay (ay a0 aeo) Vl) a1 func198 15
def aeA:FK 137 ⟨[bY],[.im bY,.im a6,.im a6],K8⟩:=a9 (ay (ay a0 as6) aey) a1 func137 8
def HO:FK 138 ⟨[bY,a6],[.im bY],yl⟩:=a9 (ay a0 aev) a1 func138 5
def aeu:FK 200 ⟨[cG,AU,a6,cG],[.ow eA],Ag⟩:=a9 (ay (ay (ay a0 ad9) aex) Vd) a1 func200 19
def asS:FK 410 ⟨[cG],[.im kk,.im a6],F8⟩:=a9 a0 a1 func410 4
def aeC:FK 343 ⟨[bY,a6,a6],[.im bY],Rv⟩:=a9 (ay (ay (ay a0 asS) aeu) y6) a1 func343 9
def atc:FK 442 ⟨[hI,a6],[.im hI,.im a6],aav⟩:=a9 a0 a1 func442 6
def NS:FK 409 ⟨[hI,a6],[.ow eA],yk⟩:=a9 (ay (ay a0 atc) Vm) a1 func409 9
def att:FK 341 ⟨[bY,hI,a6],[.im bY],Rt⟩:=a9 (ay (ay (ay (ay (ay (ay (ay a0 NS) aeC) Bj) Vo) HO) aeA) HN) a1 func341 16
def aeq:FK 248 ⟨[iV],[.im c?],K3⟩:=a9 a0 a1 func248 3
def NP:FK 342 ⟨[iV,a6,a6],[.im c?],CP⟩:=a9 (ay a0 aeq) a1 func342 8
def aeB:FK 344 ⟨[bY,a6],[.im bY],K9⟩:=a9 (ay (ay a0 y6) NQ) a1 func344 5
def atq:FK 261 ⟨[bY,mS,hI],[.im bY],Rp⟩:=a9 (ay (ay (ay (ay (ay (ay a0 aeB) aeC) NP) att) Bj) NT) a1 func261 10
def ato:FK 262 ⟨[bY],[.im bY],Rn⟩:=a9 (ay a0 aeB) a1 func262 3
def NO:FK 140 ⟨[kk],[.im kk],F_⟩:=a9 a0 a1 func140 3
def aeD:FK 142 ⟨[l1,a6,cG],[.ow eA],CV⟩:=a9 (ay (ay a0 aeu) y6) a1 func142 7
def asW:FK 271 ⟨[mR],[.im c?],F'⟩:=a9 a0 a1 func271 3
def aei:FK 199 ⟨[kk],[.im c?],KV⟩:=a9 (ay a0 asW) a1 func199 6
def aek:FK 143 ⟨[kk,a6,cG],[.im kk,.im a6],F9⟩:=a9 (ay a0 aei) a1 func143 9
def aea:FK 145 ⟨[cG],[.ow eA],KI⟩:=a9 (ay a0 Vh) a1 func145 3
def aty:FK 411 ⟨[bY,hI,a6],[.im bY],CW⟩:=a9 (ay (ay a0 NS) Bi) a1 func411 9
def atx:FK 345 ⟨[bY,hI],[.im bY],Rz⟩:=a9 (ay (ay (ay (ay (ay (ay (ay a0 aty) Bj) aea) aek) aeD) NO) qR) a1 func345 9
def atu:FK 346 ⟨[bY,hI],[.im bY],Rw⟩:=a9 (ay (ay (ay (ay (ay a0 NP) Bj) ael) NR) NO) a1 func346 8
def aeG:FK 412 ⟨[bY,a6],[.im bY],K?⟩:=a9 a0 a1 func412 5
def atB:FK 347 ⟨[bY,hI],[.im bY],RD⟩:=a9 (ay (ay (ay a0 aeG) NS) Bi) a1 func347 7
def aeE:FK 189 ⟨[bY],[.im bY],K_⟩:=a9 a0 a1 func189 3
def atz:FK 348 ⟨[bY,hI],[.im bY],RB⟩:=a9 (ay (ay (ay (ay (ay a0 aeG) NP) Bj) aer) aeE) a1 func348 8
def atr:FK 349 ⟨[bY,hI],[.im bY],Rq⟩:=a9 (ay (ay (ay (ay (ay a0 NS) NP) Bj) Bi) HO) a1 func349 10
def atP:FK 263 ⟨[bY,hI],[.im bY],RN⟩:=a9 (ay (ay (ay (ay (ay a0 atr) atz) atB) atu) atx) a1 func263 5
def HM:FK 133 ⟨[a6],[.im c?],Ad⟩:=a9 a0 a1 func133 3
def asA:FK 269 ⟨[a6],[.im a6],KQ⟩:=a9 (ay a0 NM) a1 func269 4
def aeF:FK 195 ⟨[kK],[.im c?],K'⟩:=a9 (ay a0 asA) a1 func195 4
def aeH:FK 196 ⟨[kK],[.im c?],La⟩:=a9 (ay a0 NL) a1 func196 5
def atC:FK 350 ⟨[kK],[.im c?],RE⟩:=a9 (ay a0 aeH) a1 func350 5
def asB:FK 351 ⟨[a6],[.im a6,.im c?],QM⟩:=a9 (ay a0 NM) a1 func351 5
def atF:FK 264 ⟨[bY,mS,kK],[.im bY],RI⟩:=a9 (ay (ay (ay (ay (ay (ay (ay (ay (ay (ay a0 asB) atC) Bj) NL) aeF) Bi) y6) NQ) HM) NN) a1 func264 20
def atO:FK 193 ⟨[bY,mS],[.im bY],aaD⟩:=a9 (ay (ay (ay (ay (ay (ay (ay a0 atF) atP) ato) atq) aer) Vn) Vj) a1 func193 9
def atK:FK 131 ⟨[bY,cG],[.im bY],Lb⟩:=a9 (ay (ay (ay a0 atO) atj) NU) a1 func131 8
def atG:FK 77 ⟨[bY,a6,cG],[.im bY],RJ⟩:=a9 (ay (ay a0 atK) asM) a1 func77 11
def aeJ:FK 34 ⟨[jh,a6,a6,cG],[.im jh],Gj⟩:=a9 (ay (ay (ay a0 atG) NV) HP) a1 func34 9
def aeN:FK 72 ⟨[(.sl tT),a6],[.ow tT],CZ⟩:=a9 a0 a1 func72 5
def aeM:FK 71 ⟨[jh,a6,a6],[.im jh],Lg⟩:=a9 (ay (ay a0 aeN) aeJ) a1 func71 9
def atY:FK 30 ⟨[jh,iV],[.im jh,.im a6],RU⟩:=a9 (ay (ay (ay a0 aeL) aeN) aeM) a1 func30 10
def asN:FK 124 ⟨[mq,a6],[.im mq,.im a6],QW⟩:=a9 a0 a1 func124 6
def atM:FK 74 ⟨[bY,a6],[.im bY,.im a6],RM⟩:=a9 (ay (ay a0 NU) asN) a1 func74 8
def atZ:FK 31 ⟨[jh,a6],[.im jh,.im a6],RV⟩:=a9 (ay (ay (ay a0 atM) NV) HP) a1 func31 9
def aez:FK 79 ⟨[bY],[.im bY,.im a6],Gh⟩:=a9 (ay (ay (ay a0 NT) HO) aeA) a1 func79 7
def asV:FK 128 ⟨[kk],[.im kk],Q2⟩:=a9 a0 a1 func128 3
def ata:FK 186 ⟨[iV],[.im iV,.im c?,.im c?],Rb⟩:=a9 (ay a0 aeq) a1 func186 6
def atv:FK 188 ⟨[bY],[.im bY],Rx⟩:=a9 (ay a0 NO) a1 func188 3
def atp:FK 190 ⟨[bY],[.im bY],Ro⟩:=a9 (ay a0 HO) a1 func190 4
def atN:FK 129 ⟨[bY],[.im bY],Ld⟩:=a9 (ay (ay (ay (ay (ay (ay a0 atp) aeE) atv) Vo) ata) Bi) a1 func129 10
def aeI:FK 76 ⟨[bY],[.im bY],Lc⟩:=a9 (ay (ay (ay (ay (ay a0 atN) asV) HN) NU) aez) a1 func76 6
def atR:FK 33 ⟨[jh,a6],[.im jh],RP⟩:=a9 (ay (ay (ay (ay a0 aeI) aeM) NV) HP) a1 func33 9
def asD:FK 197 ⟨[kK,a6,cG],[.im kK,.im a6],KS⟩:=a9 (ay (ay a0 HL) aed) a1 func197 14
def atD:FK 132 ⟨[cG,a6],[.ow eA,.im a6],RG⟩:=a9 (ay (ay (ay (ay (ay (ay a0 asD) aeH) aeF) Vj) NK) NN) a1 func132 16
def ath:FK 134 ⟨[sH,cG,a6],[.im sH,.im a6],Rf⟩:=a9 a0 a1 func134 8
def atE:FK 78 ⟨[bY,cG],[.im bY,.im a6],RH⟩:=a9 (ay (ay (ay (ay (ay (ay a0 y6) NQ) ath) HM) atD) NU) a1 func78 11
def ats:FK 80 ⟨[bY],[.im bY,.im a6],Rr⟩:=a9 (ay (ay (ay a0 NO) NT) HO) a1 func80 5
def atn:FK 81 ⟨[bY],[.im bY,.im a6],Rm⟩:=a9 (ay (ay a0 NT) HM) a1 func81 5
def asT:FK 141 ⟨[kk],[.im a6,.im a6],Q0⟩:=a9 (ay a0 aei) a1 func141 5
def atw:FK 82 ⟨[bY,cG],[.im bY,.im a6],Ry⟩:=a9 (ay (ay (ay (ay (ay (ay a0 aea) NR) aek) aeD) asT) HM) a1 func82 12
def atA:FK 83 ⟨[bY,a6],[.im bY,.im a6],RC⟩:=a9 (ay (ay a0 NR) HM) a1 func83 7
def atm:FK 85 ⟨[bY],[.im bY],Rl⟩:=a9 (ay a0 aeo) a1 func85 6
def atJ:FK 35 ⟨[bY,iV],[.im bY,.im a6],RK⟩:=a9 (ay (ay (ay (ay (ay (ay (ay (ay (ay a0 atm) aey) atA) atw) atn) ats) aez) atE) aeI) a1 func35 6
def atW:FK 18 ⟨[jh,iV],[.im jh,.im a6],RS⟩:=a9 (ay (ay (ay (ay (ay (ay (ay (ay a0 NV) HP) atJ) aeJ) atR) aeK) atZ) atY) a1 func18 9
def atU:FK 8 ⟨[jh,(.sl iV)],[.im jh,.ow a6],Le⟩:=a9 (ay a0 atW) a1 func8 10
def aJ9:FK 4 ⟨[(.sl iV),eA,(.int .u16)],[.im c?],aJE⟩:=a9 (ay (ay (ay (ay (ay (ay (ay a0 atV) qR) VA) atU) atT) atS) ar1) a1 func4 19
end Yp