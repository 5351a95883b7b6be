/- A part of the proof of the statements of this seat: plain functions, and laws on them. No condition of its own. -/
import Derived.Test.YtoamgndhhiohaaaGreatDoorQ1
import Derived.KernelRfl
set_option linter.unusedVariables false
set_option linter.unusedSimpArgs false
set_option linter.defProp false
open _root_ renaming BitVec.ofInt->jv,Bool->aE,Decidable->hu,Int->O,List->ab,List.length->T,List.range->fw,List.replicate->eC,List.take_succ_eq_append_getElem->AX,Nat->R,Option->au,UInt32->b_,UInt64->hw,UInt8->aN,UInt8.ofNat->hy,Unit->aj,absurd->ev,congrArg->d4,Bool.false->ag,if_neg->aD,if_pos->aH,Option.none->aq,not_not_intro->dq,Option.some->J,Bool.true->af
noncomputable section
open Go Yp
variable {a b no w x:O}{g i j9 k m n oh r t':R}{α:Type}
namespace Yp
open Go
set_option maxRecDepth 100000
set_option maxHeartbeats 2000000
def Ug:=@UInt32.toNat_inj
def apn:=@UInt32.toNat_or
def iK(x n:b_):b_:=u32<|hG .u32 (aY<|u32<|e4 .u32 (aY x)<|aY n) (aY<|u32<|h0 .u32 (aY x)<|aY<|u32<|bw (aY<|u32 32)<|aY n)
theorem aHw(x n:b_):tG (x,n,())=J (iK x n,()):=rfl
theorem aCD(a b:b_):u32 (hG .u32 (aY a)<|aY b)=u32 (hG .u32 (aY b)<|aY a):=by rw[FJ,FJ,UInt32.or_comm]
def wy{x:b_}{k:O}{n:b_}(Y:cC (u64<|hz .u64 (cC<|u64 k)<|cC<|u64 31)=aY (u32<|bw (aY<|u32 32)<|aY n))(ac:cC (u64<|bw (cC<|u64 32)<|cC<|u64<|hz .u64 (cC<|u64 k)<|cC<|u64 31)=aY n):
  lS (x,k,())=J (iK x n,()):=by
 grind [lS,iK,aCD]
def gK(x:b_):lS (x, -2,())=J (iK x<|u32 2,()):=wy rfl rfl
def wl(x:b_):lS (x, -13,())=J (iK x<|u32 13,()):=wy rfl rfl
def Qv(x:b_):lS (x, -22,())=J (iK x<|u32 22,()):=wy rfl rfl
def Z?(x:b_):lS (x, -6,())=J (iK x<|u32 6,()):=wy rfl rfl
def aDy(x:b_):lS (x, -11,())=J (iK x<|u32 11,()):=wy rfl rfl
def aDC(x:b_):lS (x, -25,())=J (iK x<|u32 25,()):=wy rfl rfl
def ald(x:b_):lS (x, -7,())=J (iK x<|u32 7,()):=wy rfl rfl
def aDA(x:b_):lS (x, -18,())=J (iK x<|u32 18,()):=wy rfl rfl
def aDz(x:b_):lS (x, -17,())=J (iK x<|u32 17,()):=wy rfl rfl
def aDB(x:b_):lS (x, -19,())=J (iK x<|u32 19,()):=wy iQ iQ
def Mf(a b c d:aN):b_:=
 u32 (aG (aY<|u32<|aG (aY<|u32<|aG (aY<|u32<|dI (aY<|u32<|aV a)<|aY<|u32 16777216)<|aY<|u32<|dI (aY<|u32<|aV b)<|aY<|u32 65536)<|aY<|u32<|dI (aY<|u32<|aV c)<|aY<|u32 256)<|aY<|u32<|aV d)
def aoP(a b c d:aN):b_:=
 u32 (hG .u32 (aY<|u32<|hG .u32 (aY<|u32<|hG .u32 (aY<|u32<|h0 .u32 (aY<|u32<|aV a)<|cC<|u64 24)<|aY<|u32<|h0 .u32 (aY<|u32<|aV b)<|cC<|u64 16)<|aY<|u32<|h0 .u32 (aY<|u32<|aV c)<|cC<|u64 8)<|aY<|u32<|aV d)
theorem pH(h:0<=a/\a<4294967296):aY (u32 a)=a:=by
 show(((BitVec.ofNat 32<|(a%2^32).toNat).toNat:R):O)=a
 grind
theorem GT{a:R}(h:a<4294967296):(u32 (a:O)).toNat=a:=by
 grind [pH,aY]
def aHU(a b c d:aN):aoP a b c d=Mf a b c d:=by
 have b6:=a.toNat_lt;have ak:=b.toNat_lt;have aA:=c.toNat_lt;have a?:=d.toNat_lt;unfold aoP Mf;have e1:∀x:aN,aY (u32<|aV x)=(x.toNat:O):=λx=>by have:=x.toNat_lt;exact pH (a:=(x.toNat:O)) V
 have bX:∀(x:aN),h0 .u32 (aY<|u32<|aV x) (cC<|u64 24)=((x.toNat*16777216:R):O):=λx=>by rw[e1];show(x.toNat:O)*2^24=_;omega
 have aT:∀(x:aN),h0 .u32 (aY<|u32<|aV x) (cC<|u64 16)=((x.toNat*65536:R):O):=λx=>by rw[e1];show(x.toNat:O)*2^16=_;omega
 have eX:∀(x:aN),h0 .u32 (aY<|u32<|aV x) (cC<|u64 8)=((x.toNat*256:R):O):=λx=>by rw[e1];show(x.toNat:O)*2^8=_;omega
 have b':∀(x:aN),dI (aY<|u32<|aV x) (aY<|u32 16777216)=((x.toNat*16777216:R):O):=λx=>by rw[e1,pH di];show(x.toNat:O)*16777216=_;omega
 have cN:∀(x:aN),dI (aY<|u32<|aV x) (aY<|u32 65536)=((x.toNat*65536:R):O):=λx=>by rw[e1,pH di];show(x.toNat:O)*65536=_;omega
 have hD:∀(x:aN),dI (aY<|u32<|aV x) (aY<|u32 256)=((x.toNat*256:R):O):=λx=>by rw[e1,pH di];show(x.toNat:O)*256=_;omega
 rw[bX,aT,eX,b',cN,hD,FJ,FJ,FJ];have d1:(u32<|aV d).toNat=d.toNat:=GT V;apply Ug.1;rw[apn,apn,apn,GT V,GT V,GT V,d1];have Zq:(c.toNat*256)|||d.toNat=c.toNat*256+d.toNat:=by have:=wZ (i:=8) (b:=d.toNat) V c.toNat;rw[TC];exact this.symm
 have oj:(b.toNat*65536)|||(c.toNat*256+d.toNat)=b.toNat*65536+(c.toNat*256+d.toNat):=by have:=wZ (i:=16) (b:=c.toNat*256+d.toNat) V b.toNat;rw[TC b.toNat];exact this.symm
 have nL:(a.toNat*16777216)|||(b.toNat*65536+(c.toNat*256+d.toNat))=a.toNat*16777216+(b.toNat*65536+(c.toNat*256+d.toNat)):=by have:=wZ (i:=24) (b:=b.toNat*65536+(c.toNat*256+d.toNat)) V a.toNat;rw[TC a.toNat];exact this.symm
 rw[Nat.or_assoc,Nat.or_assoc,Zq,oj,nL];have cn:aG (aY<|u32 ((a.toNat*16777216:R):O)) (aY<|u32 ((b.toNat*65536:R):O))=((a.toNat*16777216+b.toNat*65536:R):O):=aOo
 rw[cn];have cR:aG (aY<|u32 ((a.toNat*16777216+b.toNat*65536:R):O)) (aY<|u32 ((c.toNat*256:R):O))=((a.toNat*16777216+b.toNat*65536+c.toNat*256:R):O):=aOo
 rw[cR];have da:aG (aY<|u32 ((a.toNat*16777216+b.toNat*65536+c.toNat*256:R):O)) (aY<|u32<|aV d)=((a.toNat*16777216+b.toNat*65536+c.toNat*256+d.toNat:R):O):=by rw[pH V,e1];show(_:O)+_=_;omega
 rw[da,GT V];omega
def PQ(cN Fr nK Fq:b_):b_:=
 u32 (aG (aY<|u32<|aG (aY<|u32<|aG (aY<|u32<|em .u32 (aY<|u32<|em .u32 (aY<|iK cN<|u32 17)<|aY<|iK cN<|u32 19)<|aY<|u32<|e4 .u32 (aY cN)<|cC<|u64 10)<|aY Fr)<|aY<|u32<|em .u32 (aY<|u32<|em .u32 (aY<|iK nK<|u32 7)<|aY<|iK nK<|u32 18)<|aY<|u32<|e4 .u32 (aY nK)<|cC<|u64 3)<|aY Fq)
def j2(b:ai)(i:R):aN:=b.getD i 0
def g_(m:ab b_)(i:R):b_:=m.getD i 0
def fG(b:ai)(cM:R):R->ab b_
 |0=>eC 64 0
 | t+1=>(fG b cM t).set t (if t < 16 then Mf (j2 b<|cM+4*t) (j2 b<|cM+4*t+1) (j2 b<|cM+4*t+2) (j2 b<|cM+4*t+3)
   else PQ (g_ (fG b cM t)<|t-2) (g_ (fG b cM t)<|t-7) (g_ (fG b cM t)<|t-15)<|g_ (fG b cM t)<|t-16)
theorem wA(b:ai)(cM:R):∀t,T (fG b cM t)=64
 |0=>by simp[fG]
 |t+1=>by rw[fG,jj];exact wA b cM t
def am7{b c:ai}{x y:R}(h:∀i,i<64->j2 b (x+i)=j2 c (y+i)):∀t,fG b x t=fG c y t
 |0=>rfl
 |t+1=>by
  rw[fG,fG,am7 h t];by_cases ht:t<16
  .rw[aH ht,aH ht,h (4*t) V,l3 x,l3 x,l3 x,h (4*t+1) V,h (4*t+2) V,h (4*t+3) V];rfl
  grind
def dK(h:a=(n:O))(ax:n<=9223372036854775807):i64 a=(n:O):=by rw[h];exact fF V V
def aGC(b:ai)(ak:T b=64):Sw (b,())=J (fG b 0 64,()):=by
 unfold Sw;generalize hf:(λ(ae:O×ab b_×aj)=>_)=f;have step:∀t:R,t<64->f ((t:O),fG b 0 t,())=J (.nx (((t+1:R):O),fG b 0<|t+1,())):=by
  intro t ht;subst hf;have ao:i64 (aG (t:O) 1)=((t+1:R):O):=dK aLL V;refine bA b2 ?_;by_cases mc:t<16
  .have dM:i64 (dI 4 (t:O))=((4*t:R):O):=dK (by show 4*(t:O)=_;omega) V
   have e1:i64 (aG (i64<|dI 4 (t:O)) 1)=((4*t+1:R):O):=by rw[dM];exact dK (by show((4*t:R):O)+1=_;omega) V
   have bh:i64 (aG (i64<|dI 4 (t:O)) 2)=((4*t+2:R):O):=by rw[dM];exact dK (by show((4*t:R):O)+2=_;omega) V
   have ei:i64 (aG (i64<|dI 4 (t:O)) 3)=((4*t+3:R):O):=by rw[dM];exact dK (by show((4*t:R):O)+3=_;omega) V
   refine bA b2 ?_;rw[e1,bh,ei,dM,ao];refine a7 b2<|a7 b2<|a7 b2<|a7 b2<|a7 b2 ?_;have bR:=aHU (j2 b<|4*t) (j2 b<|4*t+1) (j2 b<|4*t+2)<|j2 b<|4*t+3;rw[fG,aH mc,oD,<- bR];rfl
  have Bn:i64 (bw (t:O) 15)=((t-15:R):O):=dK (by show(t:O)-15=_;omega) V;have bh:i64 (bw (t:O) 2)=((t-2:R):O):=dK (by show(t:O)-2=_;omega) V;have We:i64 (bw (t:O) 7)=((t-7:R):O):=dK (by show(t:O)-7=_;omega) V;have Er:i64 (bw (t:O) 16)=((t-16:R):O):=dK (by show(t:O)-16=_;omega) V;refine a8 b2 ?_;rw[Bn,bh,We,Er,ao];refine a7 b2 ?_;refine a7 fq ?_;rw[ald];rw[aDA];rw[aDz];rw[aDB];refine a7 fq ?_;refine a7 fq ?_;refine a7 fq ?_;rw[fG,aD mc];rfl
 have dh:∀m,f (((64:R):O),m,())=J (.ex 0 (((64:R):O),m,())):=by subst hf;intro m;exact bf rfl
 have dU:bG f (((0:R):O),fG b 0 0,())=J (.ex 0 (((64:R):O),fG b 0 64,())):=
  (gS (f:=f) (λt=>((t:O),fG b 0 t,())) 64 step 0<|ea _).trans (dr<|dh _)
 generalize hs:fG b 0 64=m at dU;refine(cE<|show bG f _=_ from dU).trans ?_;rfl
abbrev qL:=b_×b_×b_×b_×b_×b_×b_×b_
def SU(k m h g f e:b_):b_:=
 u32 (aG (aY<|u32<|aG (aY<|u32<|aG (aY<|u32<|aG (aY h)<|aY<|u32<|em .u32 (aY<|u32<|em .u32 (aY<|iK e<|u32 6)<|aY<|iK e<|u32 11)<|aY<|iK e<|u32 25)<|aY<|u32<|em .u32 (aY<|u32<|hz .u32 (aY e)<|aY f)<|aY<|u32<|hz .u32 (aY<|u32<|em .u32 4294967295<|aY e)<|aY g)<|aY k)<|aY m)
def abq(c b a:b_):b_:=
 u32 (aG (aY<|u32<|em .u32 (aY<|u32<|em .u32 (aY<|iK a<|u32 2)<|aY<|iK a<|u32 13)<|aY<|iK a<|u32 22)<|aY<|u32<|em .u32 (aY<|u32<|em .u32 (aY<|u32<|hz .u32 (aY a)<|aY b)<|aY<|u32<|hz .u32 (aY a)<|aY c)<|aY<|u32<|hz .u32 (aY b)<|aY c)
def J?(k m:b_)(s:qL):qL:=
 (s.2.1,s.2.2.1,s.2.2.2.1,u32<|aG (aY s.2.2.2.2.1)<|aY<|SU k m s.1 s.2.1 s.2.2.1 s.2.2.2.1,s.2.2.2.2.2.1,s.2.2.2.2.2.2.1,s.2.2.2.2.2.2.2,
  u32 (aG (aY<|SU k m s.1 s.2.1 s.2.2.1 s.2.2.2.1)<|aY<|abq s.2.2.2.2.2.1 s.2.2.2.2.2.2.1 s.2.2.2.2.2.2.2))
def lX(kE:ab b_)(s:qL):R->qL
 |0=>s
 |t+1=>J? (g_ ke t) (g_ kE t)<|lX kE s t
def CJ(s:qL):ab b_:=[s.2.2.2.2.2.2.2,s.2.2.2.2.2.2.1,s.2.2.2.2.2.1,s.2.2.2.2.1,s.2.2.2.1,s.2.2.1,s.2.1,s.1]
def Un(w:ab b_)(s:qL):ab b_:=
 [u32<|aG (aY<|g_ w 0)<|aY s.2.2.2.2.2.2.2,u32<|aG (aY<|g_ w 1)<|aY s.2.2.2.2.2.2.1,u32<|aG (aY<|g_ w 2)<|aY s.2.2.2.2.2.1,u32<|aG (aY<|g_ w 3)<|aY s.2.2.2.2.1,
  u32 (aG (aY<|g_ w 4)<|aY s.2.2.2.1),u32<|aG (aY<|g_ w 5)<|aY s.2.2.1,u32<|aG (aY<|g_ w 6)<|aY s.2.1,u32<|aG (aY<|g_ w 7)<|aY s.1]
def P8(w:ab b_):qL:=(g_ w 7,g_ w 6,g_ w 5,g_ w 4,g_ w 3,g_ w 2,g_ w 1,g_ w 0)
def sA(w:ab b_)(b:ai)(cM:R):ab b_:=Un w<|lX (fG b cM 64) (P8 w) 64
def af6{w:ab α}(h:T w=8):∃a b c d e f g i,w=[a,b,c,d,e,f,g,i]:=by
 match w,h with
 |[a,b,c,d,e,f,g,i],_=>exact⟨a,b,c,d,e,f,g,i,rfl⟩
theorem abi{b c:ai}{x y:R}(h:∀i,i<64->j2 b (x+i)=j2 c (y+i))(w:ab b_):sA w b x=sA w c y:=by unfold sA;rw[am7 h]
def anp(w:ab b_)(bR:T w=8)(b:ai)(ak:T b=64):Su (w,b,())=J (sA w b 0,0,()):=by
 refine a8 b2 ?_;rw[aGC b ak];have hm:=wA b 0 64;unfold sA;generalize fG b 0 64=m at hm;refine aW rfl ?_;obtain⟨w0,cW,dp,fQ,h3,wP,Dz,DA,rfl⟩:=af6 bR;generalize hf:(λ(x:O×ab b_×aj)=>(_:au<|aL (O×ab b_×aj)<|List b_×O×aj))=f;obtain⟨s,hs⟩:∃s,s=P8 [w0,cW,dp,fQ,h3,wP,Dz,DA]:=⟨_,rfl⟩;have step:∀t:R,t<64->f ((t:O),CJ<|lX m s t,())=J (.nx (((t+1:R):O),CJ<|lX m s<|t+1,())):=by intro t ht;subst hf;have ao:i64 (aG (t:O) 1)=((t+1:R):O):=dK aLL V;rw[show lX m s (t+1)=J? (g_ ke t) (g_ m t) (lX m s t) from rfl];generalize lX m s t=r;obtain⟨h,g,f,e,d,c,b,a⟩:=r;refine bA b2 ?_;dsimp only[CJ];rw[ao];refine a7 b2 ?_;refine a7 rfl ?_;refine a7 rfl ?_;rw[show ap [a,b,c,d,e,f,g,h] (ah 4) (u32 0)=e from rfl,Z?];refine aW rfl ?_;rw[aDy];refine aW rfl ?_;rw[aDC];refine aW rfl ?_;rw[show ap [a,b,c,d,e,f,g,h] (ah 0) (u32 0)=a from rfl,gK];refine aW rfl ?_;rw[wl];refine aW rfl ?_;rw[Qv];refine a7 rfl ?_;refine a7 rfl ?_;refine a7 rfl ?_;refine a7 b2 ?_;rfl
 have dh:∀v,f (((64:R):O),v,())=J (.ex 0 (((64:R):O),v,())):=aKC
 have dU:bG f (((0:R):O),CJ<|lX m s 0,())=J (.ex 0 (((64:R):O),CJ<|lX m s 64,())):=
  (gS (f:=f) (λt=>((t:O),CJ<|lX m s t,())) 64 step 0<|ea _).trans (dr<|dh _)
 have aC:CJ (lX m s 0)=[w0,cW,dp,fQ,h3,wP,Dz,DA]:=by rw[hs];rfl
 rw[aC]at dU;rw[<- hs];generalize lX m s 64=r at dU;obtain⟨h,g,xg,e,d,c,eH,a⟩:=r;refine(cE<|show bG f (0,[w0,cW,dp,fQ,h3,wP,Dz,DA],())=_ from dU).trans ?_;refine(cE<|qh (r:=.ex 2 (((8:R):O),Un [w0,cW,dp,fQ,h3,wP,Dz,DA] (h,g,xg,e,d,c,eH,a),())) 9 rfl).trans ?_;rfl
def alr(w:ab b_)(bR:T w=8)(b:ai)(n:R)(ak:n+64<=T b)(hl:T b<=4611686018427387904):KG (w,b,(n:O),ke,())=J (sA w b n,()):=by
 unfold KG;refine a7 di ?_;generalize hf:(λ(ae:O×ab b_×aj)=>(_:au<|aL (O×ab b_×aj)<|List b_×aj))=f;have step:∀t:R,t<16->f ((t:O),fG b n t,())=J (.nx (((t+1:R):O),fG b n<|t+1,())):=by
  intro t ht;subst hf;have ao:i64 (aG (t:O) 1)=((t+1:R):O):=dK aLL V;have hm:=wA b n t;have hQ:i64 (dI 4 (t:O))=((4*t:R):O):=dK (by show 4*(t:O)=_;omega) V;have dM:i64 (aG (n:O)<|i64<|dI 4 (t:O))=((n+4*t:R):O):=by rw[hQ];exact dK (by show(n:O)+((4*t:R):O)=_;omega) V
  have e1:i64 (aG (i64<|aG (n:O)<|i64<|dI 4 (t:O)) 1)=((n+4*t+1:R):O):=by rw[dM];exact dK (by show((n+4*t:R):O)+1=_;omega) V
  have bh:i64 (aG (i64<|aG (n:O)<|i64<|dI 4 (t:O)) 2)=((n+4*t+2:R):O):=by rw[dM];exact dK (by show((n+4*t:R):O)+2=_;omega) V
  have ei:i64 (aG (i64<|aG (n:O)<|i64<|dI 4 (t:O)) 3)=((n+4*t+3:R):O):=by rw[dM];exact dK (by show((n+4*t:R):O)+3=_;omega) V
  refine bA fq ?_;dsimp only;rw[e1,bh,ei,dM,ao];refine a7 fq ?_;refine a7 fq ?_;refine a7 fq ?_;refine a7 fq ?_;refine a7 fq ?_;rw[fG,aH ht];rfl
 have dh:∀v,f (((16:R):O),v,())=J (.ex 0 (((16:R):O),v,())):=aKC
 have dU:bG f (((0:R):O),fG b n 0,())=J (.ex 0 (((16:R):O),fG b n 16,())):=
  (gS (f:=f) (λt=>((t:O),fG b n t,())) 16 step 0<|ea _).trans (dr<|dh _)
 refine(cE<|show bG f (0,cb (ah 64)<|u32 0,())=_ from dU).trans ?_;clear dU dh step;refine a7 g62 ?_;dsimp only;generalize hf:(λ(x:O×ab b_×aj)=>(_:au<|aL (O×ab b_×aj)<|List b_×aj))=f;have step:∀t:R,16<=t->t<64->f ((t:O),fG b n t,())=J (.nx (((t+1:R):O),fG b n<|t+1,())):=by intro t mc ht;subst hf;have ao:i64 (aG (t:O) 1)=((t+1:R):O):=dK aLL V;have hm:=wA b n t;have Bn:i64 (bw (t:O) 15)=((t-15:R):O):=dK (by show(t:O)-15=_;omega) V;have bh:i64 (bw (t:O) 2)=((t-2:R):O):=dK (by show(t:O)-2=_;omega) V;have We:i64 (bw (t:O) 7)=((t-7:R):O):=dK (by show(t:O)-7=_;omega) V;have Er:i64 (bw (t:O) 16)=((t-16:R):O):=dK (by show(t:O)-16=_;omega) V;refine bA fq ?_;rw[Bn,bh,We,Er,ao];refine a7 fq ?_;refine a7 fq ?_;refine a7 fq ?_;refine a7 fq ?_;refine a7 fq ?_;rw[fG,aD V];rfl
 have dh:∀v,f (((64:R):O),v,())=J (.ex 2 (((64:R):O),v,())):=aKC
 have dU:bG f (((16:R):O),fG b n 16,())=J (.ex 2 (((64:R):O),fG b n 64,())):=
  (gS (f:=f) (λt=>(((16+t:R):O),fG b n<|16+t,())) 48 (λt ht=>step (16+t) V V) 0<|ea _).trans (dr<|dh _)
 refine(cE<|show bG f (16,fG b n 16,())=_ from dU).trans ?_;refine a7 g62 ?_;have hm:=wA b n 64;unfold sA;generalize fG b n 64=m at hm;obtain⟨w0,cW,dp,fQ,h3,wP,Dz,DA,rfl⟩:=af6 bR;generalize hf:(λ(ae:b_×b_×b_×b_×b_×b_×b_×b_×O×aj)=>(_:au<|aL (b_×b_×b_×b_×b_×b_×b_×b_×O×aj)<|List b_×aj))=f;obtain⟨s,hs⟩:∃s,s=P8 [w0,cW,dp,fQ,h3,wP,Dz,DA]:=⟨_,rfl⟩
 let cI:qL->R->b_×b_×b_×b_×b_×b_×b_×b_×O×aj:=λr t=>(r.1,r.2.1,r.2.2.1,r.2.2.2.1,r.2.2.2.2.1,r.2.2.2.2.2.1,r.2.2.2.2.2.2.1,r.2.2.2.2.2.2.2,(t:O),())
 have step:∀t:R,t<64->f (cI (lX m s t) t)=J (.nx<|cI (lX m s<|t+1)<|t+1):=by intro t ht;subst hf;have ao:i64 (aG (t:O) 1)=((t+1:R):O):=dK aLL V;have aB:T (ke:ab b_)=64:=rfl;dsimp only[cI];refine bA fq ?_;rw[ao,aHw];refine a7 fq ?_;refine a7 fq ?_;rfl
 have dh:∀r,f (cI r 64)=J (.ex 4<|cI r 64):=aKC
 have dU:bG f (cI (lX m s 0) 0)=J (.ex 4<|cI (lX m s 64) 64):=
  (gS (f:=f) (λt=>cI (lX m s t) t) 64 step 0<|ea _).trans (dr<|dh _)
 rw[<- hs];generalize lX m s 64=r at dU;rw[hs]at dU;refine(cE<|show bG f (DA,Dz,wP,h3,fQ,dp,cW,w0,0,())=_ from dU).trans ?_;rfl
def acT:=@List.drop_of_length_le
def hc(w:ab b_)(l:ai):R->ab b_
 |0=>w
 |i+1=>sA (hc w l i) l<|64*i
def Bo{w:ab b_}(bR:T w=8)(l:ai):∀i,T (hc w l i)=8
 |0=>bR
 |_+1=>rfl
theorem ak8(l:ai)(k i:R):j2 (l.drop k) i=j2 l (k+i):=by
 grind [j2]
def aDt(l:ai)(h:i<k):j2 (l.take k) i=j2 l i:=by
 grind [j2]
def anX(w:ab b_)(l:ai)(k:R):sA w ((l.drop k).take 64) 0=sA w l k:=
 abi (λi ao=>by rw[oD,aDt _ ao,ak8]) w
theorem Wg{l m:ai}(w:ab b_):∀{i},(∀j,j<64*i->j2 l j=j2 m j)->hc w l i=hc w m i
 |0,_=>rfl
 |i+1,h=>by
  rw[hc,hc,Wg w λj aF=>h j V]
  grind [abi]
theorem Of(w:ab b_)(l:ai)(i:R):∀j,hc w l (i+j)=hc (hc w l i) (l.drop<|64*i) j
 |0=>rfl
 |j+1=>by
  rw[<- l3,hc,hc,Of w l i j]
  grind [abi,ak8]
abbrev sP:=ab b_×O×ai×aj
def mG(h:sP)(b:ai):sP:=
 (hc h.1 (h.2.2.1++b)<|List.length (h.2.2.1++b)/64,h.2.1+(T b:O),(h.2.2.1++b).drop<|64*(T (h.2.2.1++b)/64),())
def auX(r b:ai):eL (eL (cb (T r+T b)<|u8 0) 0 (aQ<|cb (T r+T b)<|u8 0) r) (T r) (T r+T b-T r) b=r++b:=by
 grind [eL,cb,aQ,Nat.add_sub_cancel_left,List.drop_of_length_le]
theorem ajg:QD ()=J (ke,()):=rfl
theorem aGA(H:ab b_)(c6:T H=8)(N:O)(r b:ai)(fE:0<=N)(ak:N+(T b:O)<=1125899906842624)(az:T r<=64)(hm:T b<=1000000000):Au ((H,N,r,()),b,())=J (mG (H,N,r,()) b,()):=by
 refine a8 aj_ ?_;have e1:i64 (aG (len r)<|len b)=((T r+T b:R):O):=dK (by show(T r:O)+(T b:O)=_;omega) V;have bh:i64 (aG N<|len b)=N+(T b:O):=fF aPo aPM;rw[e1,bh];refine a7 b2 ?_;have cP:len (eL (cb (ah ((T r+T b:R):O))<|u8 0) 0 (aQ<|cb (ah ((T r+T b:R):O))<|u8 0) r)=((T r+T b:R):O):=by
  grind [len,eL,cb,ah]
 rw[cP];refine a7 b2 ?_;rw[show ah (len r)=T r from eO,show ah ((T r+T b:R):O)=T r+T b from eO,show cy (T r+T b) (T r)=T r+T b-T r from rfl,auX];generalize hf:(λ(x:ai×(ab b_×O×ai×aj)×aj)=>(_:au<|aL (ai×(ab b_×O×ai×aj)×aj)<|(ab b_×O×ai×aj)×aj))=f;generalize hl:r++b=l;have step:∀i,i<T l/64->f (l.drop<|64*i,(hc H l i,N+(T b:O),r,()),())=J (.nx (l.drop<|64*(i+1),(hc H l<|i+1,N+(T b:O),r,()),())):=by
  intro i ao;subst hf;have a?:T (l.drop<|64*i)=T l-64*i:=dV;have cP:len (l.drop<|64*i)=((T l-64*i:R):O):=by unfold len;rw[a?]
  dsimp only;rw[cP];refine bA b2 ?_;refine a7 b2 ?_;rw[show cut (l.drop<|64*i) (ah 0) (cy (ah 64)<|ah 0)=(l.drop<|64*i).take 64 from rfl,anp _ (Bo c6 l i) _ (by rw[jl,a?];omega)];refine a7 b2 ?_;rw[anX];have aA:cut (l.drop<|64*i) (ah 64) (cy (ah ((T l-64*i:R):O))<|ah 64)=l.drop (64*(i+1)):=by unfold cut;rw[show ah 64=64 from rfl,Hc,i5 (by rw[dV];show _<=T l-64*i-64;omega)];congr 1
  rw[aA];rfl
 have dh:f (l.drop<|64*(T l/64),(hc H l<|List.length l/64,N+(T b:O),r,()),())=J (.ex 0 (l.drop<|64*(T l/64),(hc H l<|List.length l/64,N+(T b:O),r,()),())):=by
  subst hf;have cP:len (l.drop<|64*(T l/64))=((T l-64*(T l/64):R):O):=by unfold len;rw[dV]
  dsimp only;rw[cP];exact bf b2
 have dU:=(gS (f:=f) (λi=>(l.drop<|64*i,(hc H l i,N+(T b:O),r,()),())) (T l/64) step 0<|ea _).trans<|dr dh;refine(cE<|dU).trans ?_;subst hl;rfl
theorem aD5(H:ab b_)(c6:T H=8)(N:O)(r b:ai)(fE:0<=N)(ak:N+(T b:O)<=1125899906842624)(az:T r<=64)(hm:T b<=1000000000):QC ((H,N,r,()),b,())=J (mG (H,N,r,()) b,()):=by
 refine a8 aj_ ?_;refine a7 b2 ?_;rw[show bb (aI aN) r=r from rfl];refine a7 b2 ?_;rw[ajg];refine aW rfl ?_;generalize hf:(λ(ae:O×(ab b_×O×ai×aj)×aj)=>(_:au<|aL (O×(ab b_×O×ai×aj)×aj)<|(ab b_×O×ai×aj)×aj))=f;rw[show bb r b=r++b from rfl]at hf ⊢;generalize hl:r++b=l at hf ⊢;have ayO:T l=T r+T b:=by rw[<- hl,d7]
 have step:∀i:R,i<T l/64->f (((64*i:R):O),(hc H l i,N,r,()),())=J (.nx (((64*(i+1):R):O),(hc H l<|i+1,N,r,()),())):=by intro i ao;subst hf;have e:i64 (bw (len l) ((64*i:R):O))=((T l-64*i:R):O):=dK (by show(T l:O)-_=_;omega) V;have b9:i64 (aG ((64*i:R):O) 64)=((64*(i+1):R):O):=dK aOV V;dsimp only;rw[e,b9];refine bA b2 ?_;rw[alr _ (Bo c6 l i) l (64*i) V V];rfl
 have dh:f (((64*(T l/64):R):O),(hc H l<|List.length l/64,N,r,()),())=J (.ex 0 (((64*(T l/64):R):O),(hc H l<|List.length l/64,N,r,()),())):=by subst hf;exact bf aj_
 have dU:=(gS (f:=f) (λi=>(((64*i:R):O),(hc H l i,N,r,()),())) (T l/64) step 0<|ea _).trans<|dr dh;refine(cE<|dU).trans ?_;refine a7 g62 ?_;refine a7 b2 ?_;have bh:i64 (aG N<|len b)=N+(T b:O):=fF aPo aPM;have aA:cut l (ah ((64*(T l/64):R):O)) (cy (ah<|len l)<|ah ((64*(T l/64):R):O))=l.drop (64*(T l/64)):=by unfold cut;rw[eO,i5 (by rw[dV];exact cx _)]
 rw[bh,aA];subst hl;rfl
def fR(r:R):R:=(119-r)%64
def mB(n:O)(i:R):ai:=(fw i).map λj=>u8<|e4 .i64 (i64<|dI 8 n) ((56-8*j:R):O)
def nM(n:O):ai:=[u8 128]++eC (fR<|n.toNat%64) (u8 0)++mB n 8
def fk(x:b_):ai:=[u8<|aY<|u32<|e4 .u32 (aY x)<|cC<|u64 24,u8<|aY<|u32<|e4 .u32 (aY x)<|cC<|u64 16,u8<|aY<|u32<|e4 .u32 (aY x)<|cC<|u64 8,u8<|aY x]
theorem abU(h:a%256=b%256):u8 a=u8 b:=by
 show hy (a%2^8).toNat=hy (b%2^8).toNat
 grind
def aHO(x:b_):fk x=[u8<|aY<|u32<|de (aY x)<|aY<|u32 16777216,u8<|aY<|u32<|cY (aY<|u32<|de (aY x)<|aY<|u32 65536)<|aY<|u32 256,u8<|aY<|u32<|cY (aY<|u32<|de (aY x)<|aY<|u32 256)<|aY<|u32 256,u8<|aY<|u32<|cY (aY x)<|aY<|u32 256]:=by
 have hx:=x.toNat_lt;obtain⟨v,a3⟩:∃v,v=x.toNat:=⟨_,rfl⟩;have e:aY x=(v:O):=by rw[a3];rfl
 have b4:aY (u32 16777216)=16777216:=pH di;have cz:aY (u32 65536)=65536:=pH di;have dw:aY (u32 256)=256:=pH di;have c9:e4 .u32 (v:O) (cC<|u64 24)=((v/16777216:R):O):=by show Int.fdiv (v:O) (2^24)=_;rw[DQ _ di];omega
 have dl:e4 .u32 (v:O) (cC<|u64 16)=((v/65536:R):O):=by show Int.fdiv (v:O) (2^16)=_;rw[DQ _ di];omega
 have dB:e4 .u32 (v:O) (cC<|u64 8)=((v/256:R):O):=by show Int.fdiv (v:O) (2^8)=_;rw[DQ _ di];omega
 have fx:de (v:O) 16777216=((v/16777216:R):O):=aO6
 have e7:de (v:O) 65536=((v/65536:R):O):=aO6
 have kr:de (v:O) 256=((v/256:R):O):=aO6
 have c:∀m:R,m<4294967296->aY (u32 (m:O))=(m:O):=λm hm=>pH V;have d:∀m:R,cY (m:O) 256=((m%256:R):O):=λm=>aL6
 unfold fk;rw[e,b4,cz,dw,c9,dl,dB,fx,e7,kr,c _ V,c _ V,c _ V,d,d,d,c _ V,c _ V,c _ V];congr 1
 grind [abU]
def re(w:ab b_)(i:R):ai:=(fw i).flatMap λj=>fk<|g_ w j
def Qh(w:ab b_):∀i,T (re w i)=4*i
 |0=>rfl
 |i+1=>by unfold re;rw[A4,List.flatMap_append,d7];have:=Qh w i;unfold re at this;rw[this];simp[fk];omega
def akI(w:ab b_)(i:R):re w (i+1)=re w i++fk (g_ w i):=by unfold re;rw[A4];simp
theorem ajr(n:O)(i:R):mB n (i+1)=mB n i++[u8<|e4 .i64 (i64<|dI 8 n) ((56-8*i:R):O)]:=by unfold mB;rw[A4,Ud];rfl
def PI(n:O)(i:R):T (mB n i)=i:=by simp[mB]
def u3(h:sP):ai:=re (hc h.1 (h.2.2.1++nM h.2.1)<|List.length (h.2.2.1++nM h.2.1)/64) 8
def aaH(l:ai)(k:R):l++eC k (u8 0)++[u8 0]=l++eC (k+1) (u8 0):=by rw[kL,<- List.replicate_succ']
theorem aGB(H:ab b_)(c6:T H=8)(N:O)(r:ai)(fE:0<=N)(Xk:N<=1125899906842624)(az:T r=N.toNat%64):Df ((H,N,r,()),())=J (u3 (H,N,r,()),()):=by
 unfold Df;dsimp only;have bN:cb (ah 0) (u8 0)=[]:=rfl;rw[bN,show bb ([]:ai) r=r from rfl,show bb r [u8 128]=r++[u8 128] from rfl];refine a7 di ?_;refine a7 fq ?_;refine a7 By ?_;generalize hf:(λ(x:ai×aj)=>(_:au<|aL (ai×aj)<|ai×aj))=f;have aIT:T r<64:=V;have aiO:fR (N.toNat%64)<64:=aPK
 have step:∀i:R,i<fR (N.toNat%64)->f (r++[u8 128]++eC i (u8 0),())=J (.nx (r++[u8 128]++eC (i+1) (u8 0),())):=by
  intro i ao;subst hf;have hl:T (r++[u8 128]++eC i (u8 0))=T r+1+i:=e8;have fs:¬((T (r++[u8 128]++eC i (u8 0)):O)%64=56):=by rw[hl];unfold fR at ao;omega
  refine bA fq ?_;refine a7 By ?_;show J (aL.nx (r++[u8 128]++eC i (u8 0)++[u8 0],()))=_;rw[aaH]
 have dh:f (r++[u8 128]++eC (fR<|N.toNat%64) (u8 0),())=J (.ex 0 (r++[u8 128]++eC (fR<|N.toNat%64) (u8 0),())):=by
  subst hf;have hl:T (r++[u8 128]++eC (fR<|N.toNat%64) (u8 0))=T r+1+fR (N.toNat%64):=e8;have aX:((T (r++[u8 128]++eC (fR<|N.toNat%64) (u8 0)):O)%64=56):=by rw[hl];unfold fR;omega
  exact bf fq
 have dU:=(gS (f:=f) (λi=>(r++[u8 128]++eC i (u8 0),())) (fR<|N.toNat%64) step 0<|ea _).trans<|dr dh;rw[List.replicate_zero,g?]at dU;refine(cE dU).trans ?_;generalize hL:r++[u8 128]++eC (fR<|N.toNat%64) (u8 0)=L;have ahw:T L=T r+1+fR (N.toNat%64):=by rw[<- hL];simp;omega
 generalize hf:(λ(ae:ai×O×aj)=>(_:au<|aL (ai×O×aj)<|ai×aj))=f;have step:∀i:R,i<8->f (L++mB N i,56-8*(i:O),())=J (.nx (L++mB N (i+1),56-8*((i+1:R):O),())):=by
  intro i ao;subst hf;refine bA fq ?_;refine a7 fq ?_;refine a7 (by simp(disch:=first|assumption|omega|(dsimp only;omega)|decide) only[go_sem,Int.reduceToNat];simp[PI];omega) ?_
  grind [bb,ajr,bw,fF]
 have dh:f (L++mB N 8,56-8*((8:R):O),())=J (.ex 2 (L++mB N 8,56-8*((8:R):O),())):=by subst hf;exact bf<|show bL 0 (56-8*((8:R):O))=ag from rfl
 have dU:=(gS (f:=f) (λi=>(L++mB N i,56-8*(i:O),())) 8 step 0<|ea _).trans<|dr dh;have aC:(L++mB N 0,56-8*((0:R):O),())=(L,56,()):=by simp[mB]
 rw[aC]at dU;refine(cE dU).trans ?_;have hT:L++mB N 8=r++nM N:=by rw[<- hL];unfold nM;simp
 rw[hT];have EV:T (r++nM N)=T r+1+fR (N.toNat%64)+8:=by rw[<- hT,d7,PI,ahw]
 have Xm:T (r++nM N)%64=0:=by rw[EV];unfold fR;omega
 generalize td:r++nM N=cp at EV Xm;generalize hf:(λ(x:ai×ab b_×aj)=>(_:au<|aL (ai×ab b_×aj)<|ai×aj))=f;have step:∀i,i<T cp/64->f (cp.drop<|64*i,hc H cp i,())=J (.nx (cp.drop<|64*(i+1),hc H cp<|i+1,())):=by
  intro i ao;subst hf;have a?:T (cp.drop<|64*i)=T cp-64*i:=dV;have cP:len (cp.drop<|64*i)=((T cp-64*i:R):O):=by unfold len;rw[a?]
  dsimp only;rw[cP];refine bA fq ?_;refine a7 fq ?_;rw[show cut (cp.drop<|64*i) (ah 0) (cy (ah 64)<|ah 0)=(cp.drop<|64*i).take 64 from rfl,anp _ (Bo c6 cp i) _ (by rw[jl,a?];omega)];refine a7 fq ?_;rw[anX];have aA:cut (cp.drop<|64*i) (ah 64) (cy (ah ((T cp-64*i:R):O))<|ah 64)=cp.drop (64*(i+1)):=by unfold cut;rw[show ah 64=64 from rfl,eO,Hc,i5 (by rw[dV];show _<=T cp-64*i-64;omega)];congr 1
  rw[aA];rfl
 have dh:f (cp.drop<|64*(T cp/64),hc H cp<|List.length cp/64,())=J (.ex 4 (cp.drop<|64*(T cp/64),hc H cp<|List.length cp/64,())):=by
  subst hf;have cP:len (cp.drop<|64*(T cp/64))=((T cp-64*(T cp/64):R):O):=by unfold len;rw[dV]
  dsimp only;rw[cP];exact bf fq
 have dU:=(gS (f:=f) (λi=>(cp.drop<|64*i,hc H cp i,())) (T cp/64) step 0<|ea _).trans<|dr dh;refine(cE<|show bG f (cp,H,())=_ from dU).trans ?_;refine a7 g62 ?_;unfold u3;rw[td];have bR:=Bo c6 cp<|List.length cp/64;generalize hc H cp (T cp/64)=w at bR;generalize hf:(λ(x:ai×O×aj)=>(_:au<|aL (ai×O×aj)<|ai×aj))=f;have step:∀i:R,i<8->f (re w i,(i:O),())=J (.nx (re w<|i+1,((i+1:R):O),())):=by intro i ao;subst hf;have hl:=Qh w i;have ej:i64 (aG (i:O) 1)=((i+1:R):O):=dK IS V;refine bA fq ?_;refine a7 fq ?_;refine a7 By ?_;rw[ej,akI];rfl
 have dh:∀v,f (v,((8:R):O),())=J (.ex 6 (v,((8:R):O),())):=aKC
 have dU:=(gS (f:=f) (λi=>(re w i,(i:O),())) 8 step 0<|ea _).trans<|dr<|dh _;refine(cE<|show bG f ([],0,())=_ from dU).trans ?_;exact c3 g62
def ml(x n:b_):b_:=(x >>> n)|||(x <<< (32-n))
def SV(k m h g f e:b_):b_:=h+(ml e 6^^^ml e 11^^^ml e 25)+((e&&&f)^^^((4294967295^^^e)&&&g))+k+m
def abr(c b a:b_):b_:=(ml a 2^^^ml a 13^^^ml a 22)+((a&&&b)^^^(a&&&c)^^^(b&&&c))
def P6(k m:b_)(s:qL):qL:=
 (s.2.1,s.2.2.1,s.2.2.2.1,s.2.2.2.2.1+SV k m s.1 s.2.1 s.2.2.1 s.2.2.2.1,s.2.2.2.2.2.1,s.2.2.2.2.2.2.1,s.2.2.2.2.2.2.2,SV k m s.1 s.2.1 s.2.2.1 s.2.2.2.1+abr s.2.2.2.2.2.1 s.2.2.2.2.2.2.1 s.2.2.2.2.2.2.2)
def Gn:ab b_->ab b_->qL->qL
 |k::ks,m::kE,s=>Gn ks kE<|P6 k m s
 |_,_,s=>s
def PP(cN Fr nK Fq:b_):b_:=(ml cN 17^^^ml cN 19^^^(cN >>> 10))+Fr+(ml nK 7^^^ml nK 18^^^(nK >>> 3))+Fq
theorem Ni(a b:b_):u32 (aG (aY a)<|aY b)=a+b:=by apply Ug.1;show(UInt32.ofInt<|(a.toNat:O)+(b.toNat:O)).toNat=_;simp[UInt32.ofInt];omega
theorem aa3(x:b_)(n:R)(ax:n<32):u32 (e4 .u32 (aY x) (n:O))=x >>> (UInt32.ofNat n):=by
 apply Ug.1;have hx:=x.toNat_lt;have Y:e4 .u32 (aY x) (n:O)=((x.toNat/2^n:R):O):=by
  unfold e4;rw[show Nat.min ((n:O)).toNat IntKind.u32.bits=n from D1 (by show n<=32;omega)];show Int.fdiv (x.toNat:O) _=_
  grind
 have ct:x.toNat/2^n<=x.toNat:=Hl _ _
 grind [GT,UInt32.toNat_shiftRight,UInt32.toNat_ofNat',Nat.shiftRight_eq_div_pow]
theorem aGD(x:b_)(n:R)(ax:n<32):u32 (h0 .u32 (aY x) (n:O))=x <<< (UInt32.ofNat n):=by
 apply Ug.1;have Y:h0 .u32 (aY x) (n:O)=((x.toNat*2^n:R):O):=by unfold h0;rw[show Nat.min ((n:O)).toNat IntKind.u32.bits=n from D1 (by show n<=32;omega)];show(x.toNat:O)*_=_;norm_cast
 rw[Y,UInt32.toNat_shiftLeft,acU,Nat.shiftLeft_eq,w1 (by omega:n<2^32),w1 ax];generalize x.toNat*2^n=p;show(UInt32.ofInt (p:O)).toNat=_;simp[UInt32.ofInt];omega
def wJ(x:b_)(n:R)(aC:0<n)(ax:n<32):iK x (u32 (n:O))=ml x (UInt32.ofNat n):=by
 unfold iK ml;have e1:aY (u32 (n:O))=(n:O):=pH V;have bh:aY (u32<|bw (aY<|u32 32) (n:O))=((32-n:R):O):=by
  grind [bw,pH]
 have ei:(32:b_)-UInt32.ofNat n=UInt32.ofNat (32-n):=by
  apply Ug.1
  grind [UInt32.toNat_sub,UInt32.toNat_ofNat']
 grind [FJ,aa3,aGD]
theorem aHf(k m h g f e:b_):SU k m h g f e=SV k m h g f e:=by
 unfold SU SV;have e9:iK e (u32 6)=ml e 6:=wJ e 6 V V;have gK:iK e (u32 11)=ml e 11:=wJ e 11 V V;have wl:iK e (u32 25)=ml e 25:=wJ e 25 V V;have hx:u32 (em .u32 4294967295<|aY e)=4294967295^^^e:=Tr 4294967295 e
 grind [Tr,ac0,Ni]
theorem aHg(c b a:b_):abq c b a=abr c b a:=by
 unfold abq abr;have e9:iK a (u32 2)=ml a 2:=wJ a 2 V V;have gK:iK a (u32 13)=ml a 13:=wJ a 13 V V;have wl:iK a (u32 22)=ml a 22:=wJ a 22 V V
 grind [Tr,ac0,Ni]
def aB2(k m:b_)(s:qL):J? k m s=P6 k m s:=by
 grind [J?,P6,Ni,aHf,aHg]
theorem aFT{kE:ab b_}(hm:T kE=64)(s:qL):lX kE s 64=Gn ke kE s:=by
 have aB:T ke=64:=rfl;have key:∀t,t<=64->Gn (ke.drop t) (kE.drop t) (lX kE s t)=Gn ke kE s:=by
  intro t;induction t with
  |zero=>intro _;rfl
  |succ t ih=>
   intro ht;rw[<- ih V,oE (by omega:t<T ke),oE (by omega:t<T kE)];show _=Gn (ke.drop<|t+1) (kE.drop<|t+1) (P6 ke[t] kE[t]<|lX kE s t);rw[show lX kE s (t+1)=J? (g_ ke t) (g_ kE t) (lX kE s t) from rfl,aB2];have c9:g_ ke t=ke[t]:=by unfold g_;rw[nr,lg V];rfl
   have dl:g_ kE t=kE[t]:=by unfold g_;rw[nr,lg V];rfl
   rw[c9,dl]
 have:=key 64<|cx _;rw[acT V,acT V]at this;exact this
def Mg:R->ai->ab b_
 |n+1,a::b::c::d::r=>Mf a b c d::Mg n r
 |_,_=>[]
def Sl:R->ab b_->ab b_
 |0,l=>l
 |n+1,l=>Sl n<|PP (l.getD 1 0) (l.getD 6 0) (l.getD 14 0) (l.getD 15 0)::l
def aBo(cN Fr nK Fq:b_):PQ cN Fr nK Fq=PP cN Fr nK Fq:=by
 unfold PQ PP;have e9:iK cN (u32 17)=ml cN 17:=wJ cN 17 V V;have gK:iK cN (u32 19)=ml cN 19:=wJ cN 19 V V;have wl:iK nK (u32 7)=ml nK 7:=wJ nK 7 V V;have Qv:iK nK (u32 18)=ml nK 18:=wJ nK 18 V V;have bX:u32 (e4 .u32 (aY cN)<|cC<|u64 10)=cN >>> 10:=aa3 cN 10 V;have aT:u32 (e4 .u32 (aY nK)<|cC<|u64 3)=nK >>> 3:=aa3 nK 3 V
 grind [Tr,Ni]
theorem aod{l:ab b_}{t:R}(h:t<T l)(x:b_):(l.set t x).take (t+1)=l.take t++[x]:=by
 grind [AX,List.take_set_of_le]
def aDv{l:ab b_}{t:R}(h:i<t):g_ l i=g_ (l.take t) i:=by
 grind [g_]
def aoQ(b:ai):∀(n t:R) (cM:R),cM+4*t+4*n<=T b->t+n<=16->(fG b cM t).take t++Mg n (b.drop<|cM+4*t)=(fG b cM<|t+n).take (t+n)
 |0,t,cM,_,_=>by simp[Mg]
 |n+1,t,cM,h,mc=>by
  have e:b.drop (cM+4*t)=j2 b (cM+4*t)::j2 b (cM+4*t+1)::j2 b (cM+4*t+2)::j2 b (cM+4*t+3)::b.drop (cM+4*(t+1)):=by
   grind [j2,List.drop_eq_getElem_cons]
  rw[e];show(fG b cM t).take t++(Mf _ _ _ _::Mg n _)=_;have ih:=aoQ b n (t+1) cM V V
  grind [fG,aod,wA]
theorem ajn(b:ai)(cM:R):∀(n t:R),16<=t->t+n=64->Sl n ((fG b cM t).take t).reverse=(fG b cM 64).reverse
 |0,t,_,h=>by have:t=64:=V;subst this;rw[i5 (by rw[wA];omega)];rfl
 |n+1,t,mc,h=>by
  have hl:T ((fG b cM t).take t)=t:=by rw[jl,wA];omega
  have bD:∀j,j<t->((fG b cM t).take t).reverse.getD j 0=g_ (fG b cM t) (t-1-j):=λj aF=>by rw[aDv (t:=t) (by omega:t-1-j<t)];unfold g_;rw[nr,nr,List.getElem?_reverse V,hl]
  rw[<- ajn b cM n (t+1) V V];have hs:fG b cM (t+1)=(fG b cM t).set t (PQ (g_ (fG b cM t)<|t-2) (g_ (fG b cM t)<|t-7) (g_ (fG b cM t)<|t-15)<|g_ (fG b cM t)<|t-16):=by rw[fG,aD V]
  rw[hs,aod (by rw[wA];omega),List.reverse_append,aBo];show Sl n (PP _ _ _ _::_)=_;rw[bD 1 V,bD 6 V,bD 14 V,bD 15 V,show t-1-1=t-2 by omega,show t-1-6=t-7 by omega,show t-1-14=t-15 by omega,show t-1-15=t-16 by omega];rfl
def HE(w:ab b_)(b:ai):ab b_:=Un w<|Gn ke (Sl 48 (Mg 16 b).reverse).reverse (P8 w)
def aqP(w:ab b_){b:ai}{cM:R}(h:cM+64<=T b):sA w b cM=HE w (b.drop cM):=by
 have Y:=aoQ b 16 0 cM V V
 grind [ajn,sA,HE,aFT,wA]
def M':=@List.drop_append_of_le_length
def T6:=@Prod.ext
theorem q'(h:0<=a/\a<18446744073709551616):cC (u64 a)=a:=by
 show(((BitVec.ofNat 64<|(a%2^64).toNat).toNat:R):O)=a
 grind
def aD3(N:O)(fE:0<=N)(Xk:N<=1125899906842624):QB (N,())=J (nM N,()):=by
 unfold QB;have aiO:fR (N.toNat%64)<64:=aPK
 generalize hf:(λ(ae:ai×aj)=>(_:au<|aL (ai×aj)<|ai×aj))=f;have step:∀i:R,i<fR (N.toNat%64)->f ([u8 128]++eC i (u8 0),())=J (.nx ([u8 128]++eC (i+1) (u8 0),())):=by
  intro i ao;subst hf;have hl:T ([u8 128]++eC i (u8 0))=1+i:=e8;have fs:¬((N+((1+i:R):O)+8)%64=0):=by unfold fR at ao;omega
  refine bA aj_ ?_;refine a7 AT ?_;show J (aL.nx ([u8 128]++eC i (u8 0)++[u8 0],()))=_;rw[aaH]
 have dh:f ([u8 128]++eC (fR<|N.toNat%64) (u8 0),())=J (.ex 0 ([u8 128]++eC (fR<|N.toNat%64) (u8 0),())):=by
  subst hf;obtain⟨i,ao⟩:∃i,i=fR (N.toNat%64):=⟨_,rfl⟩;rw[<- ao];have hl:T ([u8 128]++eC i (u8 0))=1+i:=e8;have fs:((N+((1+i:R):O)+8)%64=0):=by unfold fR at ao;omega
  exact bf aj_
 have dU:=(gS (f:=f) (λi=>([u8 128]++eC i (u8 0),())) (fR<|N.toNat%64) step 0<|ea _).trans<|dr dh;refine(cE dU).trans ?_;generalize hL:[u8 128]++eC (fR<|N.toNat%64) (u8 0)=L;have ahw:T L=1+fR (N.toNat%64):=by rw[<- hL];simp;omega
 generalize hf:(λ(ae:ai×O×aj)=>(_:au<|aL (ai×O×aj)<|ai×aj))=f;have step:∀i:R,i<8->f (L++mB N i,56-8*(i:O),())=J (.nx (L++mB N (i+1),56-8*((i+1:R):O),())):=by
  intro i ao;subst hf;refine bA b2 ?_;refine a7 (by simp only[go_sem];simp[PI];omega) ?_
  grind [q',bb,ajr,bw,fF]
 have dh:f (L++mB N 8,56-8*((8:R):O),())=J (.ex 2 (L++mB N 8,56-8*((8:R):O),())):=by subst hf;exact bf<|rfl
 have dU:=(gS (f:=f) (λi=>(L++mB N i,56-8*(i:O),())) 8 step 0<|ea _).trans<|dr dh;have aC:(L++mB N 0,56-8*((0:R):O),())=(L,56,()):=by simp[mB]
 rw[aC]at dU;refine(cE dU).trans ?_;rw[<- hL];rfl
def akR(N:O):T (nM N)=9+fR (N.toNat%64):=by unfold nM;simp[PI];omega
theorem aD7(H:ab b_)(c6:T H=8)(N:O)(r:ai)(fE:0<=N)(Xk:N<=1125899906842624)(az:T r=N.toNat%64):KF ((H,N,r,()),())=J (u3 (H,N,r,()),()):=by
 unfold KF;dsimp only;rw[show bb (aI aN) r=r from rfl];refine a7 fq ?_;rw[aD3 N fE Xk];refine aW rfl ?_;have hp:=akR N;have aiO:fR (N.toNat%64)<64:=aPK
 refine a7 fq ?_;rw[ajg];refine aW rfl ?_;dsimp only;unfold u3;dsimp only;rw[show bb r (nM N)=r++nM N from rfl];have EV:T (r++nM N)=T r+1+fR (N.toNat%64)+8:=by rw[d7,hp];omega
 have Xm:T (r++nM N)%64=0:=by rw[EV];unfold fR;omega
 generalize td:r++nM N=cp at EV Xm;generalize hf:(λ(ae:O×ab b_×aj)=>(_:au<|aL (O×ab b_×aj)<|ai×aj))=f;have step:∀i:R,i<T cp/64->f (((64*i:R):O),hc H cp i,())=J (.nx (((64*(i+1):R):O),hc H cp<|i+1,())):=by intro i ao;subst hf;have b9:i64 (aG ((64*i:R):O) 64)=((64*(i+1):R):O):=dK aOV V;dsimp only;rw[b9];refine bA fq ?_;rw[alr _ (Bo c6 cp i) cp (64*i) V V];rfl
 have dh:f (((64*(T cp/64):R):O),hc H cp<|List.length cp/64,())=J (.ex 0 (((64*(T cp/64):R):O),hc H cp<|List.length cp/64,())):=by subst hf;exact bf fq
 have dU:=(gS (f:=f) (λi=>(((64*i:R):O),hc H cp i,())) (T cp/64) step 0<|ea _).trans<|dr dh;refine(cE<|show bG f (0,H,())=_ from dU).trans ?_;clear dU dh step;refine a7 g62 ?_;clear hf f;dsimp only;have bR:=Bo c6 cp<|List.length cp/64;generalize hc H cp (T cp/64)=w at bR;generalize hf:(λ(x:ai×O×aj)=>(_:au<|aL (ai×O×aj)<|ai×aj))=f;have step:∀i:R,i<8->f (re w i,(i:O),())=J (.nx (re w<|i+1,((i+1:R):O),())):=by intro i ao;subst hf;have hl:=Qh w i;have ej:i64 (aG (i:O) 1)=((i+1:R):O):=dK (by show(i:O)+1=_;omega) V;refine bA AS ?_;refine a7 AS ?_;refine a7 AS ?_;refine a7 AS ?_;refine a7 AS ?_;refine a7 By ?_;dsimp only;rw[ej,akI,aHO];rfl
 have dh:∀v,f (v,((8:R):O),())=J (.ex 2 (v,((8:R):O),())):=aKC
 have dU:=(gS (f:=f) (λi=>(re w i,(i:O),())) 8 step 0<|ea _).trans<|dr<|dh _;refine(cE<|show bG f (aI aN,0,())=_ from dU).trans ?_;exact c3 g62
def Cx(h:sP):Prop:=T h.1=8/\0<=h.2.1/\T h.2.2.1=h.2.1.toNat%64
def z6{h:sP}(hh:Cx h)(b:ai):Cx<|mG h b:=by
 obtain⟨Y,ac,av⟩:=hh;refine⟨Bo Y _ _,?_,?_⟩
 .show 0<=h.2.1+(T b:O);omega
 show T ((h.2.2.1++b).drop<|64*(T (h.2.2.1++b)/64))=(h.2.1+(T b:O)).toNat%64
 grind
def aDq(h:sP)(x y:ai):mG (mG h x) y=mG h (x++y):=by
 obtain⟨H,N,r,⟨⟩⟩:=h;unfold mG;generalize hL:r++x=L;have eE:r++(x++y)=L++y:=by rw[<- kL,hL]
 rw[eE];have bD:64*(T L/64)<=T L:=V;have a?:(L++y).drop (64*(T L/64))=L.drop (64*(T L/64))++y:=M' bD;have cP:T (L.drop (64*(T L/64))++y)=T L-64*(T L/64)+T y:=by rw[d7,dV]
 have ax:T (L++y)/64=T L/64+T (L.drop (64*(T L/64))++y)/64:=by rw[cP,d7];omega
 have aX:hc H (L++y) (T L/64)=hc H L (T L/64):=by
  grind [Wg,j2]
 refine T6 ?_<|T6 ?_ (T6 ?_ rfl)
 .grind [Of]
 .grind
 grind [List.drop_drop]
def aHd(h:sP):T (u3 h)=32:=by unfold u3;rw[Qh]
def q8:sP:=([u32 1779033703,u32 3144134277,u32 1013904242,u32 2773480762,u32 1359893119,u32 2600822924,u32 528734635,u32 1541459225],0,[],())
def v5:Cx q8:=⟨rfl,Int.le_refl _,rfl⟩
def LC{h:sP}(hh:Cx h)(b:ai)(fE:h.2.1<=1000000000)(ak:T b<=1000000000):Au (h,b,())=J (mG h b,()):=by
 obtain⟨H,N,r,⟨⟩⟩:=h;obtain⟨Y,ac,av⟩:=hh
 grind [aGA]
def aD4{h:sP}(hh:Cx h)(b:ai)(fE:h.2.1<=1000000000)(ak:T b<=1000000000):QC (h,b,())=J (mG h b,()):=by
 obtain⟨H,N,r,⟨⟩⟩:=h;obtain⟨Y,ac,av⟩:=hh
 grind [aD5]
def aa2{h:sP}(hh:Cx h)(fE:h.2.1<=1000000000000):Df (h,())=J (u3 h,()):=by
 obtain⟨H,N,r,⟨⟩⟩:=h;obtain⟨Y,ac,av⟩:=hh
 grind [aGB]
def aD6{h:sP}(hh:Cx h)(fE:h.2.1<=1000000000000):KF (h,())=J (u3 h,()):=by
 obtain⟨H,N,r,⟨⟩⟩:=h;obtain⟨Y,ac,av⟩:=hh
 grind [aD7]
theorem anq:LB ()=J (q8,()):=rfl
theorem aD1:aai ()=J (q8,()):=rfl
def LA(b:ai):ai:=u3<|mG q8 b
def aGy(b:ai):T (LA b)=32:=aHd _
def aGz(b:ai)(ak:T b<=1000000000):GB (b,())=J (LA b,()):=by unfold GB;rw[anq];refine aW rfl ?_;dsimp only;rw[LC v5 b di ak];refine aW rfl ?_;dsimp only;have ax:(mG q8 b).2.1=0+(T b:O):=rfl;rw[aa2 (z6 v5 b) V];rfl
def aD2(b:ai)(ak:T b<=1000000000):z? (b,())=J (LA b,()):=by unfold z?;rw[aD1];refine aW rfl ?_;dsimp only;rw[aD4 v5 b di ak];refine aW rfl ?_;dsimp only;have ax:(mG q8 b).2.1=0+(T b:O):=rfl;rw[aD6 (z6 v5 b) V];rfl
def Oe:R->ab b_->ai->ab b_
 |0,w,_=>w
 |n+1,w,l=>Oe n (HE w l)<|l.drop 64
def af3:∀(n:R) (w:ab b_) (l:ai),64*n<=T l->hc w l n=Oe n w l
 |0,_,_,_=>rfl
 |n+1,w,l,h=>by
  rw[Nat.add_comm n 1,Of w l 1 n,Nat.add_comm 1 n];show _=Oe n (HE w l) (l.drop 64);rw[<- af3 n _ _ aD_];have:hc w l 1=HE w l:=by show sA (hc w l 0) l (64*0)=_;rw[aqP _ V];rfl
  rw[this]
def rr(b:ai):ai:=re (Oe (T (b++nM (T b:O))/64) q8.1<|b++nM (T b:O)) 8
def Sv(b:ai):LA b=rr b:=by
 unfold LA u3 mG rr;rw[show q8.2.2.1=[] from rfl,n0,show q8.2.1=0 from rfl,Int.zero_add];dsimp only;have hl:(T b+T (nM (T b:O)))%64=0:=by rw[akR];unfold fR;omega
 have aB:64*(T b/64)<=T b:=Nat.mul_div_le _ _;generalize nB:nM (T b:O)=P at hl;generalize gz:T b/64=k at aB;have cP:T (b.drop (64*k)++P)=T b-64*k+T P:=by rw[d7,dV]
 have Pa:T (b++P)=T b+T P:=d7;rw[cP,Pa];have e1:(T b+T P)/64=k+(T b-64*k+T P)/64:=V;rw[e1,<- af3 _ _ _ (by rw[Pa];omega),Of]
 grind [Wg,j2]
theorem De(b:ai):T (rr b)=32:=by rw[<- Sv];exact aGy b
theorem anr(b:ai)(ak:T b<=1000000000):GB (b,())=J (rr b,()):=by rw[<- Sv];exact aGz b ak
def QA(b:ai)(ak:T b<=1000000000):z? (b,())=J (rr b,()):=by rw[<- Sv];exact aD2 b ak
def YZ{σ ρ:Type}{f:σ->au (aL σ ρ)}(l:ab α)(mk:R->σ)(e:R)(r:ρ)(p:α->Prop)
  (hs:∀i (h:i<T l),p l[i]->f (mk i)=J (.nx<|mk<|i+1)) (ak:∀i (h:i<T l),¬p l[i]->f (mk i)=J (.rt r)) (aX:f (mk<|List.length l)=J (.ex e<|mk<|List.length l)) :
  ((∀x∈l,p x)/\bG f (mk 0)=J (.ex e<|mk<|List.length l))\/((¬∀x∈l,p x)/\bG f (mk 0)=J (.rt r)):=by
 by_cases h:∀x∈l,p x
 .exact .inl ⟨h,(gS mk (T l) (λi ao=>hs i ao<|h _<|j7 ao) 0<|ea _).trans<|dr aX⟩
 refine .inr ⟨h,?_⟩;have key:∀(n i:R),T l-i=n->i<=T l->(∃j,∃(aF:j<T l),i<=j/\¬p l[j])->bG f (mk i)=J (.rt r):=by
  intro n;induction n with
  |zero=>rintro i ax ao ⟨j,aF,Y,_⟩;omega
  |succ n ih=>
   rintro i ax ao ⟨j,aF,Y,ac⟩;have py:i<T l:=V;by_cases hp:p l[i]
   .rw[dT<|hs i py hp]
    refine ih (i+1) V V ⟨j,aF,?_,ac⟩;rcases Nat.lt_or_eq_of_le Y with h|rfl
    .exact h
    exact ev hp ac
   exact oY<|ak i py hp
 refine key _ 0 rfl (ea _) ?_;refine lI λax=>h λx hx=>lI λazp => ?_;obtain⟨j,aF,rfl⟩:=sO hx;exact ax ⟨j,aF,ea _,azp⟩
def l9(key:ai):ai:=let k:=if 64<T key then rr key else key;k++eC (64-T k) (u8 0)
def adm(key:ai):T (l9 key)=64:=by
 grind [l9,De]
theorem afF(k:ai)(h:T k<=64):eL (cb (ah 64)<|u8 0) 0 (aQ<|cb (ah 64)<|u8 0) k=k++eC (64-T k) (u8 0):=by
 grind [eL,cb,aQ,ah,List.take_of_length_le]
def aBd(key:ai)(h:T key<=1000000000):Y1 (key,())=J (l9 key,()):=by
 refine a7 rfl ?_;by_cases aB:64<T key
 .refine bA b2 ?_
  grind [anr,b3,afF,De,l9]
 refine a8 b2 ?_
 grind [afF,l9]
def akQ{f:ai×aj->au (aL (ai×aj)<|ai×aj)}(hf:f=λ(x:ai×aj)=>aa (aK (len x.1) 64) (an (bO 1<|bB (aQ x.1)<|aQ [u8 0])<|some<|aL.nx (bb x.1 [u8 0],()))<|some<|aL.ex 0 (x.1,()))(k:ai)(h:T k<=64):
  bG f (k,())=J (.ex 0 (k++eC (64-T k) (u8 0),())):=by
 have step:∀i:R,i<64-T k->f (k++eC i (u8 0),())=J (.nx (k++eC (i+1) (u8 0),())):=by intro i ao;subst hf;have hl:T (k++eC i (u8 0))=T k+i:=bP;refine bA b2 ?_;refine a7 AT ?_;show J (aL.nx (k++eC i (u8 0)++[u8 0],()))=_;rw[aaH]
 have dh:f (k++eC (64-T k) (u8 0),())=J (.ex 0 (k++eC (64-T k) (u8 0),())):=by subst hf;have hl:T (k++eC (64-T k) (u8 0))=64:=e8;exact bf b2
 have:=(gS (f:=f) (λi=>(k++eC i (u8 0),())) (64-T k) step 0<|ea _).trans<|dr dh
 grind
def aD8(key:ai)(h:T key<=1000000000):QE (key,())=J (l9 key,()):=by
 unfold QE;refine a7 AS ?_;by_cases aB:64<T key
 .refine bA AS ?_
  dsimp only;rw[QA _ h];refine aW rfl ?_;dsimp only;rw[akQ rfl _ (by rw[De];omega)];refine a7 g62 ?_;unfold l9;simp only[aH aB]
 refine a8 AS ?_;dsimp only;rw[show bb (aI aN) key=key from rfl,akQ rfl _ V];refine a7 g62 ?_;unfold l9;simp only[aD aB]
def gE(c:aN)(l:ai):ai:=l.map λx=>u8<|em .u8 (aV x) (aV c)
def Ml(c:aN)(l:ai):T (gE c l)=T l:=by simp[gE]
def av7{L:ab α}{z:α}(hL:T L=n)(ao:i<n):(L.take i++eC (n-i) z).set i (L[i]'V)=L.take (i+1)++eC (n-(i+1)) z:=by
 have Y:T (L.take i)=i:=aLJ
 rw[List.set_append_right _ _ V,Y,G9,show n-i=(n-(i+1))+1 by omega,Nc,pX V,kL];rfl
def aoX{f:O×ai×aj->au (aL (O×ai×aj) aj)}(c:aN)(k:ai)(aB:T k=64)
  (hf:f=λ(x:O×ai×aj)=>aa (aK x.1<|len k) (an (aO x.1<|len k)<|an (aO x.1<|len x.2.1)<|some<|aL.nx (i64<|aG x.1 1,cA x.2.1 (ah x.1)<|u8<|em .u8 (aV<|ap k (ah x.1)<|u8 0)<|aV c,()))<|some<|aL.ex 0 (x.1,x.2.1,())) :
  bG f (0,cb (ah 64)<|u8 0,())=J (.ex 0 (64,gE c k,())):=by
 have hx:T (gE c k)=64:=by rw[Ml,aB]
 have step:∀i:R,i<64->f ((i:O),(gE c k).take i++eC (64-i) (u8 0),())=J (.nx (((i+1:R):O),(gE c k).take (i+1)++eC (64-(i+1)) (u8 0),())):=by
  intro i ao;subst hf;have hl:T ((gE c k).take i++eC (64-i) (u8 0))=64:=by rw[d7,jl,wU];omega
  have ej:i64 (aG (i:O) 1)=((i+1:R):O):=dK IS V;refine bA AS ?_;refine a7 AS ?_;refine a7 AS ?_;dsimp only;rw[ej,show cA ((gE c k).take i++eC (64-i) (u8 0)) (ah (i:O)) (u8<|em .u8 (aV<|ap k (ah (i:O))<|u8 0)<|aV c)=(gE c k).take (i+1)++eC (64-(i+1)) (u8 0) from ?_];rw[<- av7 hx ao,eO,nth_get (by omega:i<T k)];unfold cA;congr 1;simp[gE]
 have dh:f (((64:R):O),(gE c k).take 64++eC (64-64) (u8 0),())=J (.ex 0 (((64:R):O),(gE c k).take 64++eC (64-64) (u8 0),())):=by subst hf;exact bf AS
 have:=(gS (f:=f) (λi=>((i:O),(gE c k).take i++eC (64-i) (u8 0),())) 64 step 0<|ea _).trans<|dr dh;rw[i5<|show T (gE c k)<=64 by omega,G9,List.replicate_zero,g?]at this;exact this
def Dn(key b:ai):ai:=rr<|gE (u8 92) (l9 key)++rr (gE (u8 54) (l9 key)++b)
def aoa(key b:ai):T (Dn key b)=32:=De _
def ak6(x y:ai):u3 (mG (mG q8 x) y)=rr (x++y):=by rw[aDq,<- Sv];rfl
def Y2(key b:ai)(h:T key<=1000000)(ak:T b<=1000000):Ft (key,b,())=J (Dn key b,()):=by unfold Ft;dsimp only;rw[aBd _ V];refine a7 rfl ?_;have aB:=adm key;rw[aoX (u8 92) _ aB rfl];refine a7 g62 ?_;dsimp only;rw[anq];refine aW rfl ?_;have gZ:=(Ml (u8 92)<|l9 key).trans aB;have iE:=(Ml (u8 54)<|l9 key).trans aB;rw[LC v5 _ di V];refine a7 rfl ?_;rw[aoX (u8 54) _ aB rfl];refine a7 g62 ?_;refine aW rfl ?_;dsimp only;rw[LC v5 _ di V];refine aW rfl ?_;have x2:(mG q8<|gE (u8 54)<|l9 key).2.1=0+(T (gE (u8 54)<|l9 key):O):=rfl;have uG:(mG (mG q8<|gE (u8 54)<|l9 key) b).2.1=0+(T (gE (u8 54)<|l9 key):O)+(T b:O):=rfl;have Y?:(mG q8<|gE (u8 92)<|l9 key).2.1=0+(T (gE (u8 92)<|l9 key):O):=rfl;rw[LC (z6 v5 _) b V V];refine aW rfl ?_;rw[aa2 (z6 (z6 v5 _) _) V,ak6];refine aW rfl ?_;dsimp only;have JM:=De<|gE (u8 54) (l9 key)++b;rw[LC (z6 v5 _) _ V V];refine aW rfl ?_;have aJa:∀y,(mG (mG q8<|gE (u8 92)<|l9 key) y).2.1=0+(T (gE (u8 92)<|l9 key):O)+(T y:O):=λ_=>rfl;rw[aa2 (z6 (z6 v5 _) _)<|by grind,ak6];rfl
def aaj(key b:ai)(h:T key<=1000000)(ak:T b<=1000000):F2 (key,b,())=J (Dn key b,()):=by
 unfold F2;dsimp only;rw[aD8 _ V];refine aW rfl ?_;have aB:=adm key;unfold Dn;generalize l9 key=k at aB;generalize hf:(λ(x:ai×ai×O×aj)=>(_:au<|aL (ai×ai×O×aj)<|ai×aj))=f;have DE:T (gE (u8 54) k)=64:=by rw[Ml,aB]
 have acf:T (gE (u8 92) k)=64:=by rw[Ml,aB]
 have fv:∀(c:aN) (i:R) (ao:i<64),bb ((gE c k).take i) [u8<|em .u8 (aV<|ap k (ah (i:O))<|u8 0)<|aV c]=(gE c k).take (i+1):=by
  grind [gE,eO,nth_get,AX,bb]
 have step:∀i:R,i<64->f ((gE (u8 54) k).take i,(gE (u8 92) k).take i,(i:O),())=J (.nx ((gE (u8 54) k).take<|i+1,(gE (u8 92) k).take<|i+1,((i+1:R):O),())):=by
  intro i ao;subst hf;have ej:i64 (aG (i:O) 1)=((i+1:R):O):=dK IS V;refine bA b2 ?_;refine a7 b2 ?_;refine a7 AT ?_;refine a7 b2 ?_;refine a7 AT ?_
  grind
 have dh:∀u v,f (u,v,((64:R):O),())=J (.ex 0 (u,v,((64:R):O),())):=by subst hf;intro u v;exact bf rfl
 have dU:=(gS (f:=f) (λi=>((gE (u8 54) k).take i,(gE (u8 92) k).take i,(i:O),())) 64 step 0<|ea _).trans<|dr<|dh _ _;rw[i5<|show T (gE (u8 54) k)<=64 by omega,i5<|show T (gE (u8 92) k)<=64 by omega]at dU;refine(cE<|dU).trans ?_;refine a7 g62 ?_;refine a7 b2 ?_;rw[show bb (gE (u8 54) k) b=gE (u8 54) k++b from rfl,QA _ aLt];have JM:=De<|gE (u8 54) k++b;refine a7 b2 ?_;rw[show bb (gE (u8 92) k) (rr<|gE (u8 54) k++b)=gE (u8 92) k++rr (gE (u8 54) k++b) from rfl,QA _ aLt];rfl
def acS:=@List.mem_of_mem_take
def uL(p:ai):ai:=[u8<|e4 .i64 (len p)<|cC<|u64 8,u8<|len p]++p
def Dp(l:ab ai):ai:=l.flatMap uL
def ox(label:ai)(l:ab ai):ai:=[u8<|len label]++label++Dp l
theorem ZV(p:ai):T (uL p)=T p+2:=by simp[uL]
def aHn{l:ab ai}(h:∀p∈l,T p<=1000):T (Dp l)<=1002*T l:=by
 induction l with
 |nil=>simp[Dp]
 |cons p r ih=>
  grind [Dp,ZV]
theorem aol{l:ab ai}(ao:i<T l):Dp (l.take<|i+1)=Dp (l.take i)++uL l[i]:=by
 grind [Dp,AX]
def S6{label:ai}{l:ab ai}(Y:T label<=255)(ac:T l<=16)(h:∀p∈l,T p<=1000):T (ox label l)<=20000:=by have:=aHn h;unfold ox;simp only[d7,gd,gM];omega
def H3(key label:ai)(l:ab ai):ai:=Dn key<|ox label l
theorem afP(key label:ai)(l:ab ai):T (H3 key label l)=32:=aoa _ _
def ajD(key label:ai)(l:ab ai)(aB:T key<=1000000)(Y:T label<=255)(ac:T l<=16)(h:∀p∈l,T p<=1000):PL (key,label,l,())=J (H3 key label l,0,()):=by
 refine aW (a:=(ag,())) (a8 b2<|by rw[show aK 16 (len l)=ag from cm b2]) ?_;refine a7 AT ?_;generalize hf:(λ(ae:O×ai×O×aj)=>(_:au<|aL (O×ai×O×aj)<|ai×O×aj))=f;have hT:∀i,T (ox label<|l.take i)<=20000:=λi=>S6 Y aLJ<|λp hp=>h p<|acS hp;have step:∀i:R,i<T l->f (0,ox label<|l.take i,(i:O),())=J (.nx (0,ox label<|l.take<|i+1,((i+1:R):O),())):=by
  intro i ao;subst hf;have ej:i64 (aG (i:O) 1)=((i+1:R):O):=dK IS V;have hp:=h l[i]<|j7 ao;have ht:=hT i;have ax:ap l (ah (i:O)) (aI aN)=l[i]:=aPn
  refine bA b2 ?_;refine a7 b2 ?_;rw[ax];refine a8 b2 ?_;refine a7 AT ?_;refine a7 AT ?_
  grind [ox,uL,aol,bb]
 have dh:∀u,f (0,u,(T l:O),())=J (.ex 0 (0,u,(T l:O),())):=aLM
 have dU:=(gS (f:=f) (λi=>(0,ox label<|l.take i,(i:O),())) (T l) step 0<|ea _).trans<|dr<|dh _;rw[i5<|cx _]at dU;have aC:ox label (l.take 0)=bb [u8<|len label] label:=by unfold ox;rw[Ue];exact g? _
 rw[aC]at dU;refine(cE<|dU).trans ?_;refine a7 g62 ?_;dsimp only;have:=S6 Y ac h;rw[Y2 _ _ aB V];rfl
def aD9(label:ai)(l:ab ai)(Y:T label<=255)(ac:T l<=16)(h:∀p∈l,T p<=1000):aak (label,l,())=J (ox label l,()):=by
 refine a7 b2 ?_;refine a7 AT ?_;generalize hf:(λ(ae:ai×O×aj)=>(_:au<|aL (ai×O×aj)<|ai×aj))=f;have hT:∀i,T (ox label<|l.take i)<=20000:=λi=>S6 Y aLJ<|λp hp=>h p<|acS hp;have step:∀i:R,i<T l->f (ox label<|l.take i,(i:O),())=J (.nx (ox label<|l.take<|i+1,((i+1:R):O),())):=by
  intro i ao;subst hf;have ej:i64 (aG (i:O) 1)=((i+1:R):O):=dK IS V;have hp:=h l[i]<|j7 ao;have ht:=hT i;have ax:ap l (ah (i:O)) (aI aN)=l[i]:=aPn
  have cn:u8 (i64<|de (len l[i]) 256)=u8 (e4 .i64 (len l[i])<|cC<|u64 8):=by
   have c9:de (len l[i]) 256=((l[i].length/256:R):O):=aOw
   have dl:e4 .i64 (len l[i]) (cC<|u64 8)=((l[i].length/256:R):O):=by show Int.fdiv (l[i].length:O) (2^8)=_;rw[DQ _ di];omega
   rw[c9,dl,dK rfl V]
  have cR:u8 (cY (len l[i]) 256)=u8 (len l[i]):=by rw[g32 b2];exact abU V
  refine bA b2 ?_;rw[ax];refine a7 b2 ?_;refine a7 b2 ?_;refine a7 AT ?_;refine a7 b2 ?_;refine a7 AT ?_
  grind [ox,uL,aol,bb]
 have dh:∀u,f (u,(T l:O),())=J (.ex 0 (u,(T l:O),())):=aLM
 have dU:=(gS (f:=f) (λi=>(ox label<|l.take i,(i:O),())) (T l) step 0<|ea _).trans<|dr<|dh _;rw[i5<|cx _]at dU;have aC:ox label (l.take 0)=bb [u8<|len label] label:=by unfold ox;rw[Ue];exact g? _
 rw[aC]at dU;refine(cE<|dU).trans ?_;exact c3 g62
def als(key label:ai)(l:ab ai)(aB:T key<=1000000)(Y:T label<=255)(ac:T l<=16)(h:∀p∈l,T p<=1000):KH (key,label,l,())=J (H3 key label l,0,()):=by
 unfold KH;dsimp only;refine aW (a:=(ag,())) (a8 AS<|by rw[show aK 16 (len l)=ag from cm AS]) ?_;refine a8 rfl ?_;generalize hf:(λ(ae:O×O×aj)=>(_:au<|aL (O×O×aj)<|ai×O×aj))=f;have step:∀i:R,i<T l->f (0,(i:O),())=J (.nx (0,((i+1:R):O),())):=by
  intro i ao;subst hf;have ej:i64 (aG (i:O) 1)=((i+1:R):O):=dK IS V;have hp:=h l[i]<|j7 ao;have ax:ap l (ah (i:O)) (aI aN)=l[i]:=aPn
  refine bA AS ?_;dsimp only;rw[ax,ej];refine a7 AS ?_;exact bf AS
 have dh:f (0,(T l:O),())=J (.ex 0 (0,(T l:O),())):=by subst hf;exact bf AS
 have dU:=(gS (f:=f) (λi=>(0,(i:O),())) (T l) step 0<|ea _).trans<|dr dh;refine(cE<|show bG f (0,0,())=_ from dU).trans ?_;refine a7 g62 ?_;rw[aD9 _ _ Y ac h];refine aW rfl ?_;dsimp only;have:=S6 Y ac h;rw[aaj _ _ aB V];rfl
def zL(key:ai):ai:=(Dn key<|List.replicate 8<|u8 0).take 3
def aAK(key:ai):T (zL key)=3:=by unfold zL;rw[jl];rfl
def ajE(key:ai)(aB:T key<=1000000):JW (key,())=J (zL key,()):=by unfold JW;rw[show cb (ah 8) (u8 0)=eC 8 (u8 0) from rfl,Y2 _ _ aB bP];rfl
def alt(key:ai)(aB:T key<=1000000):KI (key,())=J (zL key,()):=by unfold KI;refine a7 di ?_;dsimp only;rw[show cb (ah 8) (u8 0)=eC 8 (u8 0) from rfl,aaj _ _ aB bP];refine aW rfl ?_;dsimp only;have:=aoa key<|List.replicate 8<|u8 0;refine a7 AS ?_;rfl
def qp(k b:ai):ai:=(Dn k b).take 16
def Lm(k b:ai):T (qp k b)=16:=by unfold qp;rw[jl];rfl
def Z4(k b:ai)(aB:T k<=1000000)(ak:T b<=1000000):FP (k,b,())=J (qp k b,()):=by unfold FP;rw[Y2 _ _ aB ak];rfl
def aam(k b:ai)(aB:T k<=1000000)(ak:T b<=1000000):F4 (k,b,())=J (qp k b,()):=by unfold F4;rw[aaj _ _ aB ak];rfl
abbrev apj:=ai×ai×aj
def akW(p:jy)(k b:ai):Kr (p,k,b,())=J (D<|(k,b,())∈p.2.1,()):=by
 unfold Kr;congr 2;refine o9 ?_
 grind [df,seq]
def alu(p:jy)(k b:ai)(hl:T p.2.1<=1050000000000):KJ (p,k,b,())=J (D<|(k,b,())∈p.2.1,()):=by
 unfold KJ;dsimp only;generalize p.2.1=l at hl;generalize hf:(λ(ae:aE×O×aj)=>(_:au<|aL (aE×O×aj)<|Bool×aj))=f;have BU:∀(i:R) (h:i<T l),ap l (ah (i:O)) (aI aN,aI aN,())=l[i]:=λi h=>by rw[eO,nth_get h]
 have key:=YZ (f:=f) l (λi=>(ag,(i:O),())) 0 ((af,()):aE×aj) (λe=>¬e=(k,b,())) (λi h hp => ?_) (λi h hp => ?_) ?_
 .rcases key with⟨h,hl⟩|⟨h,hl⟩
  .refine(cE<|show bG f (ag,0,())=_ from hl).trans ?_
   refine a7 g62 ?_;rw[b1<|λhm=>h _ hm rfl]
  refine(cE<|show bG f (ag,0,())=_ from hl).trans ?_;rw[bS<|lI λhm=>h λx hx e=>hm<|e▸hx];rfl
 .subst hf
  have ej:i64 (aG (i:O) 1)=((i+1:R):O):=dK IS V;refine bA fq ?_;refine a7 fq ?_;dsimp only;rw[BU i h,ej];generalize l[i]=e at hp;obtain⟨e1,bh,⟨⟩⟩:=e;by_cases Y:e1=k
  .have ac:¬bh=b:=λac=>hp (by rw[Y,ac])
   simp(disch:=omega) only[go_sem,Int.reduceToNat,pM,Y,ac]
  simp(disch:=omega) only[go_sem,Int.reduceToNat,pM,Y]
 .subst hf
  have zx:l[i]=(k,b,()):=lI hp;refine bA ac_ ?_;refine a7 ac_ ?_;dsimp only;rw[BU i h,zx];simp(disch:=omega) only[go_sem,Int.reduceToNat,pM]
 subst hf;exact bf ac_
def yb(p:jy)(k b:ai):jy:=if(k,b,())∈p.2.1 then p else(p.1,p.2.1++[(k,b,())],p.2.2)
theorem abl(l:ab α):sub l 0 (len l)=l:=aNn
theorem VQ(l:ab α):df (cq 0 (len l)<|len l) (am (len l)<|len l)=af:=by rw[ck rfl,g37];simp only[go_sem];omega
def auJ(l:ab apj):SI (l,())=J (l,()):=by
 grind [SI,abl,c3,VQ]
def adx(l:ai)(h:T l<=1000000):Nz (l,())=J (l,()):=by exact c3 b2
def aDg(p:jy)(k b:ai)(hl:T p.2.1<=1050000000000)(aB:T k<=1000000)(ak:T b<=1000000):Qn (p,k,b,())=J (yb p k b,qp k b,()):=by
 unfold Qn;rw[akW];unfold yb;by_cases h:(k,b,())∈p.2.1
 .rw[bS h,aH h]
  rw[Z4 _ _ aB ak];rfl
 rw[b1 h,aD h];rw[auJ];rw[adx _ aB];rw[adx _ ak];refine a7 AT ?_;rw[Z4 _ _ aB ak];rfl
def aEc(p:jy)(k b:ai)(hl:T p.2.1<=1050000000000)(aB:T k<=1000000)(ak:T b<=1000000):QF (p,k,b,())=J (yb p k b,qp k b,()):=by
 unfold QF;rw[alu _ _ _ hl];unfold yb;by_cases h:(k,b,())∈p.2.1
 .rw[bS h,aH h]
  rw[aam _ _ aB ak];rfl
 rw[b1 h,aD h];refine a7 b2 ?_;refine a7 AT ?_;rw[aam _ _ aB ak];rfl
def aDe(p:jy)(k b:ai):(yb p k b).2.1.length<=T p.2.1+1:=by
 unfold yb;split
 .omega
 simp
def uM(p:jy)(k b t:ai):jy×aE×aj:=
 if qp k b=t then(if(k,b,())∈p.2.1 then(p,af,()) else((p.1,p.2.1,af,()),!p.1,())) else(p,ag,())
theorem aEa(p:jy)(k b t:ai)(hl:T p.2.1<=1050000000000)(aB:T k<=1000000)(ak:T b<=1000000):F3 (p,k,b,t,())=J (uM p k b t):=by
 unfold F3;rw[aam _ _ aB ak];refine aW rfl ?_;rw[pM];unfold uM;by_cases ht:qp k b=t
 .rw[aH ht,At ht]
  rw[alu _ _ _ hl];by_cases h:(k,b,())∈p.2.1
  .exact aNc
  exact aL7
 rw[aD ht,C? ht];rfl
def aEb(p:jy)(hl:T p.2.1<=1050000000000):KK (p,p,())=J (af,()):=by
 unfold KK;have e1:∀b:aE,p7 b b=af:=λb=>by cases b<;>rfl
 rw[e1,e1,ck rfl];generalize p.2.1=l at hl;generalize hf:(λ(ae:aE×O×aj)=>(_:au<|aL (aE×O×aj)<|Bool×aj))=f;have step:∀i:R,i<T l->f (ag,(i:O),())=J (.nx (ag,((i+1:R):O),())):=by intro i ao;subst hf;simp(disch:=omega) only[go_sem,pM]
 have dh:f (ag,(T l:O),())=J (.ex 0 (ag,(T l:O),())):=by subst hf;exact bf b2
 have dU:=(gS (f:=f) (λi=>(ag,(i:O),())) (T l) step 0<|ea _).trans<|dr dh;refine(cE<|dU).trans ?_;rfl
def qP(n:O):ai:=bE 256 l_ n.toNat 8
def ade(n:O):T (qP n)=8:=mj _ _ _ _
def qk(n:O):ai:=qP n++(rr<|[u8 121,u8 101,u8 116,u8 116]++qP n).take 8
theorem Ky(n:O):T (qk n)=16:=by unfold qk;rw[d7,jl];rfl
def avL(n:O):Prop:=1<=n/\n<=4611686018427387904
def adf{n:O}(h:avL n):((1:O)<=8/\(8:O)<=8/\0<=n/\n<256^(8:O).toNat):=by
 obtain⟨Y,ac⟩:=h
 grind
def aba(n:O)(ax:n<=9223372036854775807):LP (n,())=J (if 1<=n/\n<=4611686018427387904 then(qk n,0,()) else([],1,())):=by
 by_cases h:1<=n/\n<=4611686018427387904
 .rw[aH h]
  refine aW (a:=(ag,())) (a8 b2 aPZ) ?_;refine a8 rfl ?_;rw[V' _ _ ax,aH<|adf h];refine aW rfl ?_;rw[show bE 256 l_ n.toNat (8:O).toNat=qP n from rfl];have:=ade n;rw[show bb [u8 121,u8 101,u8 116,u8 116] (qP n)=[u8 121,u8 101,u8 116,u8 116]++qP n from rfl,anr _<|by grind];rfl
 rw[aD h];by_cases Y:n<1
 .refine aW (a:=(af,())) (bj b2) ?_
  rfl
 refine aW (a:=(af,())) (a8 b2 aPv) ?_;rfl
def aau(n:O)(ax:n<=9223372036854775807):Gc (n,())=J (if 1<=n/\n<=4611686018427387904 then(qk n,0,()) else([],1,())):=by
 unfold Gc;dsimp only;by_cases h:1<=n/\n<=4611686018427387904
 .rw[aH h]
  refine aW (a:=(ag,())) (a8 AS aPZ) ?_;refine a8 rfl ?_;rw[aaf _ _ ax,aH<|adf h];refine aW rfl ?_;dsimp only;rw[show bE 256 l_ n.toNat (8:O).toNat=qP n from rfl];have:=ade n;refine a7 aPU ?_;rw[show bb [u8 121,u8 101,u8 116,u8 116] (qP n)=[u8 121,u8 101,u8 116,u8 116]++qP n from rfl,QA _ e8];refine aW rfl ?_;dsimp only;have ac:=De<|[u8 121,u8 101,u8 116,u8 116]++qP n;refine a7 AS ?_;refine a7 AS ?_;rw[show cut (rr<|[u8 121,u8 101,u8 116,u8 116]++qP n) (ah 0) (cy (ah 8)<|ah 0)=(rr<|[u8 121,u8 101,u8 116,u8 116]++qP n).take 8 from rfl,show bb (aI aN) (qP n)=qP n from rfl];refine a7 aPU ?_;rfl
 rw[aD h];by_cases Y:n<1
 .refine aW (a:=(af,())) (bj AS) ?_
  rfl
 refine aW (a:=(af,())) (a8 AS aPv) ?_;rfl
def m6(b:ai):O×aE×aj:=
 if(lD b 0 8).2.2.1=0/\(1<=(lD b 0 8).1/\(lD b 0 8).1<=4611686018427387904)/\qk (lD b 0 8).1=b then((lD b 0 8).1,af,()) else(0,ag,())
def aob(b:ai):(lD b 0 8).1<=9223372036854775807:=by
 unfold lD;split
 .decide
 split
 .decide
 split
 .decide
 rename_i Y ac av;have hl:0+8<=T b:=V;have:=UE hl V (λh=>av ⟨rfl,by simpa using h.2⟩) 7 V
 grind [tL]
def anI(b:ai)(ak:T b<=1000000):LO (b,())=J (m6 b):=by
 unfold LO m6;rw[afT _ _ _ ak];have ct:=aob b;generalize lD b 0 8=t at ct;obtain⟨n,a,e,⟨⟩⟩:=t;by_cases aX:e=0
 .refine a8 b2 ?_
  rw[aba _ ct];refine aW rfl ?_;by_cases ax:1<=n/\n<=4611686018427387904
  .rw[aH ax]
   rw[UX];by_cases az:qk n=b
   .rw[aH ⟨aX,ax,az⟩,bS az];rfl
   rw[aD<|λh=>az h.2.2,b1 az];rfl
  rw[aD ax,aD<|λh=>ax h.2.1];rfl
 refine bA b2 ?_
 grind
def alG(b:ai)(ak:T b<=1000000):KZ (b,())=J (m6 b):=by
 unfold KZ m6;by_cases hl:T b=16
 .refine a8 b2 ?_
  rw[alp _ _ _ ak];have ct:=aob b;generalize lD b 0 8=t at ct;obtain⟨n,a,e,⟨⟩⟩:=t;by_cases aX:e=0
  .refine a8 b2 ?_
   rw[aau _ ct];refine aW rfl ?_;by_cases ax:1<=n/\n<=4611686018427387904
   .rw[aH ax]
    rw[pM];by_cases az:qk n=b
    .rw[aH ⟨aX,ax,az⟩,At az];rfl
    rw[aD<|λh=>az h.2.2,C? az];rfl
   rw[aD ax,aD<|λh=>ax h.2.1];rfl
  refine bA b2 ?_
  grind
 refine bA b2 ?_
 grind [Ky]
abbrev nu:=ai×ai×aj
def jR(s:nu):O×O×aE×aj:=
 if(m6 s.2.1).2.1=af/\((m6 s.1).2.1=ag\/(m6 s.1).1<(m6 s.2.1).1) then((m6 s.2.1).1,1,af,()) else((m6 s.1).1,0,(m6 s.1).2.1,())
def anH(s:nu)(b6:T s.1<=1000000)(ak:T s.2.1<=1000000):LN (s,())=J (jR s):=by
 unfold LN jR abb;rw[anI _ b6,anI _ ak];exact ak_
def alF(s:nu)(b6:T s.1<=1000000)(ak:T s.2.1<=1000000):KY (s,())=J (jR s):=by
 unfold KY jR;rw[alG _ b6,alG _ ak];exact ak_
def afy(a b:ai)(b6:T a<=1000000)(ak:T b<=1000000):GG ([a,b],())=J (a++b,()):=by
 have:=afA (c:=1) (z:=u8 0) V [a,b] bP (λx hx=>by
  rcases mU.1 hx with rfl|hx
  .exact b6
  rcases mU.1 hx with rfl|hx
  .exact ak
  cases hx)
 simp at this;exact this
def aha{b:ai}(h:(m6 b).2.1=af):(1<=(m6 b).1/\(m6 b).1<=4611686018427387904)/\qk (m6 b).1=b:=by
 grind [m6]
def UD{s:nu}(h:(jR s).2.2.1=af):1<=(jR s).1/\(jR s).1<=4611686018427387904:=by
 unfold jR at h ⊢;split
 .simp_all[aha]
 simp_all[aha]
def ada(s:nu):(jR s).2.1=0\/(jR s).2.1=1:=by
 unfold jR
 grind
def pG(cut:O):O:=if 0<=cut/\cut<16 then cut else 16
def Cd(n:O)(cut:O)(old:ai):ai:=(qk<|n+1).take (pG cut).toNat++old.drop (pG cut).toNat
def nV(s:nu)(cut:O):nu×O×O×aj:=
 if(jR s).2.2.1=ag then(s,0,12,())
 else if(jR s).1=4611686018427387904 then(s,0,10,())
 else
  let c':nu:=if(jR s).2.1=0 then(s.1,Cd (jR s).1 cut s.2.1,()) else(Cd (jR s).1 cut s.1,s.2.1,())
  if pG cut<16 then(c',0,11,()) else(c',(jR s).1,0,())
def uT(s:nu):Prop:=T s.1=16/\T s.2.1=16
def Y3(c:O):0<=pG c/\pG c<=16:=by unfold pG;split<;>omega
def aGZ(s:nu)(c:O)(hs:uT s):SO (s,c,())=J (nV s c):=by
 obtain⟨A,B,⟨⟩⟩:=s;have ee:T A=16:=hs.1;have a4:T B=16:=hs.2;unfold SO nV;rw[anH (A,B,()) aOH aPH];have Y:=UD (s:=(A,B,()));have ac:=ada (A,B,());generalize jR (A,B,())=t at Y ac;obtain⟨n,cM,is,⟨⟩⟩:=t;cases is
 .rfl
 have Y:=Y rfl;refine a8 rfl ?_;have e1:i64 (aG n 1)=n+1:=fF aMg aPm;rw[e1,aba _ V];by_cases ax:n=4611686018427387904
 .rw[aH ax,aD V];rfl
 rw[aD ax,aH V];refine a8 rfl ?_;have hm:=Y3 c;have az:=Ky<|n+1;obtain⟨m,hi⟩:∃m,m=pG c:=⟨_,rfl⟩;have ht:(aa (bL 0 c) (J (aK c 16,())) (J (ag,())):au<|Bool×aj)=J (D<|m<16,()):=by
  rw[hi];unfold pG;by_cases aC:0<=c
  .by_cases av:c<16
   .rw[aH ⟨aC,av⟩];exact AI
   rw[aD<|λh=>av h.2,b1 V];simp(disch:=omega) only[go_sem];rw[b1 av]
  rw[ b1 V];exact AI
 rw[ht];refine aW rfl ?_;have BV:(aa (a2<|D<|m<16) (J (16,())) (J (c,())):au<|Int×aj)=J (m,()):=aL8
 rw[BV];have hL:∀old:ai,T old=16->GG ([cut (qk<|n+1) (ah 0)<|cy (ah m)<|ah 0,sub old m<|len old],())=J (Cd n c old,()):=by
  intro old bg;have bh:cut (qk<|n+1) (ah 0) (cy (ah m)<|ah 0)=(qk<|n+1).take (pG c).toNat:=by rw[hi];rfl
  have ei:sub old m (len old)=old.drop (pG c).toNat:=by unfold sub;rw[hi,i5];rw[dV];show _<=(T old:O).toNat-_;omega
  rw[bh,ei,afy _ _ aLJ aD_];rfl
 rcases ac with rfl|rfl
 .refine bA rfl ?_
  refine a7 b2 ?_;refine a7 b2 ?_;rw[hL B a4];rw[ <- hi];by_cases h:m<16
  .exact aNc
  exact aL7
 refine a8 rfl ?_;refine a7 b2 ?_;refine a7 b2 ?_;rw[hL A ee];rw[ <- hi];by_cases h:m<16
 .exact aNc
 exact aL7
def aEG(s:nu)(c:O)(hs:uT s):Q8 (s,c,())=J (nV s c):=by
 obtain⟨A,B,⟨⟩⟩:=s;have ee:T A=16:=hs.1;have a4:T B=16:=hs.2;unfold Q8 nV;rw[alF (A,B,()) aOH aPH];have Y:=UD (s:=(A,B,()));have ac:=ada (A,B,());generalize jR (A,B,())=t at Y ac;obtain⟨n,cM,is,⟨⟩⟩:=t;cases is
 .rfl
 have Y:=Y rfl;refine a8 rfl ?_;have e1:i64 (aG n 1)=n+1:=fF aMg aPm;by_cases ax:n=4611686018427387904
 .rw[aH ax]
  exact bj b2
 rw[aD ax];refine a8 b2 ?_;rw[e1,aau _ V,aH V];refine aW rfl ?_;have hm:=Y3 c;have az:=Ky<|n+1;obtain⟨m,hi⟩:∃m,m=pG c:=⟨_,rfl⟩;have ht:(aa (bL 0 c) (J (aK c 16,())) (J (ag,())):au<|Bool×aj)=J (D<|m<16,()):=by
  rw[hi];unfold pG;by_cases aC:0<=c
  .by_cases av:c<16
   .rw[aH ⟨aC,av⟩];exact AI
   rw[aD<|λh=>av h.2,b1<|show ¬(16:O)<16 by omega];simp(disch:=omega) only[go_sem];rw[b1 av]
  rw[aD<|λh=>aC h.1,b1 V];exact AI
 rw[ht];refine aW rfl ?_;have BV:(aa (D<|m<16) (J (c,())) (J (16,())):au<|Int×aj)=J (m,()):=aL8
 rw[BV];refine aW rfl ?_;rw[<- hi];have bh:cut (qk<|n+1) (ah 0) (cy (ah m)<|ah 0)=(qk<|n+1).take (pG c).toNat:=by rw[hi];rfl
 have ei:∀old:ai,T old=16->sub old m (len old)=old.drop (pG c).toNat:=by intro old bg;unfold sub;rw[hi,i5];rw[dV];show _<=(T old:O).toNat-_;omega
 rcases ac with rfl|rfl
 .refine aW (a:=(B,())) (bf rfl) ?_
  rw[bh,ei B a4];refine a7 b2 ?_;refine a7 AT ?_;refine a7 b2 ?_;refine a7 AT ?_;refine a8 rfl ?_;by_cases h:m<16
  .rw[aH h];exact bj b2
  rw[aD h];exact bf b2
 refine aW (a:=(A,())) (bj rfl) ?_;rw[bh,ei A ee];refine a7 b2 ?_;refine a7 AT ?_;refine a7 fq ?_;refine a7 By ?_;refine bA rfl ?_;by_cases h:m<16
 .rw[aH h];exact bj fq
 rw[aD h];exact bf fq
def Zc:nu:=(qk 1,eC 16<|u8 0,())
def aEE:Q6 ()=J (Zc,()):=by unfold Q6;rw[aau _ di];rfl
def aEF(s:nu):Q7 (s,s,())=J (af,()):=by unfold Q7;simp only[go_sem,pM]
def i1(p:O):Prop:=2<=p/\p<=6
def k4(p:O):Prop:=p=3\/p=4\/p=5
instance (p:O):hu<|i1 p:=by unfold i1;infer_instance
instance (p:O):hu<|k4 p:=by unfold k4;infer_instance
def Cc(p:O):O:=if p=0 then 0 else if p=1 then 1 else if p=2 then 2 else if p=3 then 3 else if p=4 then 4 else if p=5 then 4 else if p=6 then 5 else -1
def akU(p:O):CE (p,())=J (Cc p,()):=by
 unfold CE Cc;by_cases aC:p=0
 .subst aC;rfl
 by_cases Y:p=1
 .subst Y;rfl
 by_cases ac:p=2
 .subst ac;rfl
 by_cases av:p=3
 .subst av;rfl
 by_cases aJ:p=4
 .subst aJ;rfl
 by_cases bv:p=5
 .subst bv;rfl
 by_cases c_:p=6
 .subst c_;rfl
 rw[aD aC,aD Y,aD ac,aD av,aD aJ,aD bv,aD c_];exact AI
def aAP(p:O):2<=Cc p↔i1 p:=by
 unfold Cc i1
 repeat' split
 all_goals omega
def aAQ(p:O):Cc p=3\/Cc p=4↔k4 p:=by
 unfold Cc k4
 all_goals omega
def Ko(p:O):wg (p,())=J (D<|i1 p,()):=by unfold wg;rw[akU];simp only[go_sem,aAP]
def Km(p:O):z5 (p,())=J (D<|k4 p,()):=by unfold z5;simp only[go_sem,akU,aAQ]
def K1(p:O):ww (p,())=J (D<|i1 p,()):=by unfold ww i1;simp only[go_sem]
def K0(p:O):Ad (p,())=J (D<|k4 p,()):=by unfold Ad k4;simp only[go_sem,Int.reduceToNat];exact lZ or_assoc
def vM(c s:O)(b:ai):Prop:=nH c/\1<=s/\s<=999999/\1<=T b/\T b<=900
instance (c s:O) (b:ai):hu<|vM c s b:=by unfold vM;infer_instance
def aql(c:O):Nm (c,())=J (D<|nH c,()):=by
 unfold Nm nH;by_cases Y:c=1
 .subst Y;exact aLQ
 by_cases ac:c=2
 .subst ac;exact AI
 by_cases av:c=101
 .subst av;exact AI
 by_cases aJ:c=201
 .subst aJ;exact AI
 simp only[go_sem,Y,ac,av,aJ]
def aqo(c s:O)(b:ai):Nq (c,s,b,())=J (D<|vM c s b,()):=by
 unfold Nq vM;rw[aql];exact aLU
def aEL(c s:O)(b:ai):Rc (c,s,b,())=J (D<|vM c s b,()):=by
 unfold Rc vM;rw[alH];exact aLU
def mi:go:=(0,0,0,0,[],())
def sZ(c s:O)(b:ai):go×O×aj:=if vM c s b then((c,s,8,3,b,()),0,()) else(mi,1,())
def aqk(c s:O)(b:ai):Nl (c,s,b,())=J (sZ c s b):=by
 unfold Nl sZ;rw[aqo];by_cases h:vM c s b
 .exact aNc
 exact aL7
def aEH(c s:O)(b:ai):Q9 (c,s,b,())=J (sZ c s b):=by
 unfold Q9 sZ;rw[aEL];by_cases h:vM c s b
 .exact aNc
 exact aL7
def alI(a:go):K3 (a,())=J (D<|a=mi,()):=by
 obtain⟨c,s,d,l,b,⟨⟩⟩:=a;unfold K3 mi;simp only[go_sem]
 grind [lZ,List.length_eq_zero_iff]
def ac6(a:go):Hz (a,())=J (D<|a=mi,()):=by
 unfold Hz Uw mi;simp only[go_sem,UX]
 grind [lZ]
def nc(a:go)(c s:O):Prop:=¬a=mi/\a.1=c/\a.2.1=s
def Nn(a:go)(c s:O):yY (a,c,s,())=J (D<|nc a c s,()):=by unfold yY nc;rw[ac6];simp only[go_sem]
def Q_(a:go)(c s:O):CP (a,c,s,())=J (D<|nc a c s,()):=by unfold CP nc;rw[alI];simp only[go_sem]
def Aq(a:go):Prop:=a=mi\/vM a.1 a.2.1 a.2.2.2.2.1/\1<=a.2.2.1/\a.2.2.1<=8/\0<=a.2.2.2.1/\a.2.2.2.1<=3
def aEI(a:go):Q? (a,a,())=J (af,()):=by unfold Q?;simp only[go_sem,pM]
def mL(n:O):O:=if n<0\/999999<=n then 1 else n+1
def aqm(n:O):Np (n,())=J (mL n,()):=by
 unfold Np mL;exact aPt
def aEJ(n:O):Ra (n,())=J (mL n,()):=by
 unfold Ra mL;exact aPt
def aCY(u:ab aE)(n:R):au R:=((fw 4).map λi=>(n+i)%4).find? λc=>u.getD c ag
def lz(h:f8):f8×O×O×aj:=match aCY h.1 h.2.2.2.1.toNat with|none=>(h,0,11,())|some c=>((h.1,h.2.1,h.2.2.1,(((c+1)%4:R):O),()),(c:O),0,())
def WJ{w:ab α}(h:T w=4):∃a b c d,w=[a,b,c,d]:=by
 match w,h with
 |[a,b,c,d],_=>exact⟨a,b,c,d,rfl⟩
def azM(h:f8)(bq:T h.1=4)(ax:0<=h.2.2.2.1/\h.2.2.2.1<4):Yg (h,())=J (lz h):=by obtain⟨u,f,l,n,⟨⟩⟩:=h;dsimp only at bq ax;obtain⟨a,b,c,d,rfl⟩:=WJ bq;have:n=0\/n=1\/n=2\/n=3:=V;rcases this with rfl|rfl|rfl|rfl<;>cases a<;>cases b<;>cases c<;>cases d<;>(refine(cE<|qh 5 rfl).trans ?_;kernel_rfl)
def aEs(h:f8)(bq:T h.1=4)(ax:0<=h.2.2.2.1/\h.2.2.2.1<4):QU (h,())=J (lz h):=by obtain⟨u,f,l,n,⟨⟩⟩:=h;dsimp only at bq ax;obtain⟨a,b,c,d,rfl⟩:=WJ bq;have:n=0\/n=1\/n=2\/n=3:=V;unfold QU aar;rcases this with rfl|rfl|rfl|rfl<;>cases a<;>cases b<;>cases c<;>cases d<;>first|(refine aW (a:=(ag,())) rfl ?_;refine bA rfl ?_;kernel_rfl)|(refine aW (a:=(af,())) rfl ?_;refine a8 rfl ?_;refine(cE<|qh 5 rfl).trans ?_;kernel_rfl)
def awu(b:ai)(h:1<=T b/\T b<=1024):WL (b,())=J (uL b,0,()):=by refine aW (a:=(ag,())) (a8 b2 aPx) ?_;refine a7 AT ?_;rfl
def aEn(b:ai)(h:1<=T b/\T b<=1024):aaq (b,())=J (uL b,0,()):=by
 refine aW (a:=(ag,())) (a8 b2 aPx) ?_;refine a7 AT ?_;have cn:u8 (i64<|de (len b) 256)=u8 (e4 .i64 (len b)<|cC<|u64 8):=by
  have c9:de (len b) 256=((T b/256:R):O):=aOw
  have dl:e4 .i64 (len b) (cC<|u64 8)=((T b/256:R):O):=by show Int.fdiv (T b:O) (2^8)=_;rw[DQ _ di];omega
  rw[c9,dl,dK rfl V]
 have cR:u8 (cY (len b) 256)=u8 (len b):=by rw[g32 b2];exact abU V
 rw[cn,cR];rfl
abbrev wV:=O×ai×aj
def kg:wV:=(0,[],())
def oZ:eW:=(kg,kg,kg,0,0,())
theorem ai6(g:wV):(g.1=0/\(T g.2.1:O)=0)↔g=kg:=by obtain⟨n,k,⟨⟩⟩:=g;unfold kg;simp
def aaO(g:wV):Lp (g,())=J (D<|g=kg,()):=by
 unfold Lp;simp only[go_sem]
 grind [ai6]
def aEC(g:wV):F' (g,())=J (D<|g=kg,()):=by
 unfold F';simp only[go_sem]
 grind [ai6]
def su(g:wV):Prop:=1<=g.1/\g.1<=2147483647/\T g.2.1=32
instance (g:wV):hu<|su g:=by unfold su;infer_instance
def aFP(g:wV):R7 (g,())=J (D<|su g,()):=by
 unfold R7 su;exact aNw
theorem ai7(r:eW):(r.1=kg/\r.2.1=kg/\r.2.2.1=kg/\r.2.2.2.1=0/\r.2.2.2.2.1=0)↔r=oZ:=by
 grind [oZ]
def amh(r:eW):R9 ((r,()),())=J (D<|r=oZ,()):=by
 refine aW rfl ?_;generalize hf:(λ(x:aE×O×aj)=>(_:au<|aL (aE×O×aj)<|Bool×aj))=f;have key:=YZ (f:=f) [r.1,r.2.1,r.2.2.1] (λi=>(ag,(i:O),())) 0 ((ag,()):aE×aj) (λg=>g=kg) (λi h hp => ?_) (λi h hp => ?_) ?_
 .rcases key with⟨h,hl⟩|⟨h,hl⟩
  .refine(cE<|hl).trans ?_
   have Y:=h r.1 bP;have ac:=h r.2.1 bP;have av:=h r.2.2.1 bP;simp only[go_sem]
   grind [ai7]
  refine(cE<|hl).trans ?_;rw[b1<|λe=>h (by rw[e];intro x hx;simp[oZ]at hx;exact hx)];rfl
 .subst hf
  have av:i<3:=h;have ej:i64 (aG (i:O) 1)=((i+1:R):O):=dK rfl V;refine bA b2 ?_;refine a7 b2 ?_;rw[ej,eO,nth_get h,aaO,bS hp];rfl
 .subst hf
  have av:i<3:=h;refine bA b2 ?_;refine a7 b2 ?_;rw[eO,nth_get h,aaO,b1 hp];rfl
 subst hf;rfl
def alz(r:eW):KV (r,())=J (D<|r=oZ,()):=by
 unfold KV;simp only[go_sem,aEC]
 grind [ai7]
def pI(r:eW):O×O×aj:=if r=oZ then(0,9,()) else if 2147483647<=r.2.2.2.2.1 then(0,10,()) else(r.2.2.2.2.1+1,0,())
def aFN(r:eW)(h:r.2.2.2.2.1<=2147483647)(aC:0<=r.2.2.2.2.1):R5 (r,())=J (pI r):=by
 unfold R5 pI;rw[amh];exact aO_
def aEz(r:eW)(aC:0<=r.2.2.2.2.1):Q0 (r,())=J (pI r):=by
 unfold Q0 pI;rw[alz];exact aO_
def lU(r:eW)(no:O)(key:ai):eW×O×aj:=
 if ¬su (no,key,()) then(r,1,()) else if r=oZ\/no<=r.1.1\/no<r.2.2.1.1 then(r,9,()) else((r.1,r.2.1,(no,key,()),r.2.2.2.1,max r.2.2.2.2.1 no,()),0,())
def aaN(r:eW)(no:O)(key:ai):Gm (r,no,key,())=J (lU r no key):=by
 unfold Gm lU;rw[aFP];by_cases hg:su (no,key,())
 .rw[aD<|not_not_intro hg,bS hg]
  rw[amh];by_cases aA:r=oZ\/no<=r.1.1\/no<r.2.2.1.1
  .rw[aH aA]
   exact AI
  rw[aD aA];simp at aA;obtain⟨c1,c2,fK⟩:=aA;simp(disch:=omega) only[go_sem,c1]
 rw[aH hg,b1 hg];rfl
def aas(r:eW)(no:O)(key:ai):F9 (r,no,key,())=J (lU r no key):=by
 unfold F9 lU;by_cases hg:su (no,key,())
 .rw[aD<|not_not_intro hg]
  obtain⟨Y,ac,av⟩:=hg;dsimp only at Y ac av;refine aW (a:=(ag,())) aMz ?_;refine a8 rfl ?_;rw[alz];refine aW rfl ?_;by_cases aA:r=oZ\/no<=r.1.1\/no<r.2.2.1.1
  .rw[aH aA]
   exact AI
  rw[aD aA];simp at aA;obtain⟨c1,c2,fK⟩:=aA;by_cases ht:r.2.2.2.2.1<no
  .rw[Int.max_eq_right V];exact AI
  rw[Ht V];exact AI
 rw[aH hg];unfold su at hg;dsimp only at hg;exact ah_
def yz(r:eW):eW:=(r.1,r.2.1,kg,r.2.2.2)
theorem aJk(r:eW):Lo (r,())=J (yz r,()):=rfl
theorem aJj(r:eW):F_ (r,())=J (yz r,()):=rfl
def wL(r:eW):eW×O×aj:=if r.2.2.1=kg then(r,9,()) else((r.2.2.1,r.1,kg,16,r.2.2.2.2),0,())
def amg(r:eW):C3 (r,())=J (wL r):=by
 unfold C3 wL;rw[aaO];by_cases h:r.2.2.1=kg
 .rw[aH h,bS h];rfl
 rw[aD h,b1 h];rfl
def alB(r:eW)(az:r.2.2.1=kg\/¬r.2.2.1.1=0):CN (r,())=J (wL r):=by
 unfold CN wL;by_cases h:r.2.2.1=kg
 .rw[aH h]
  have:r.2.2.1.1=0:=aKU
  exact AI
 rw[aD h];have:¬r.2.2.1.1=0:=az.resolve_left h;exact ax_
def Cn(k:ai):eW×O×aj:=if T k=32 then(((1,k,()),kg,kg,0,1,()),0,()) else(oZ,1,())
def aFM(k:ai):R4 (k,())=J (Cn k):=by
 unfold R4 Cn;exact aPp
def aEy(k:ai):F8 (k,())=J (Cn k):=by
 unfold F8 Cn;exact aPp
def mI(r:eW):Prop:=r=oZ\/(su r.1/\r.2.2.2.2.1<=2147483647/\r.1.1<=r.2.2.2.2.1/\r.2.2.1.1<=r.2.2.2.2.1 /\
 (r.2.1=kg/\r.2.2.2.1=0\/¬r.2.1=kg/\su r.2.1/\r.2.1.1<r.1.1/\1<=r.2.2.2.1/\r.2.2.2.1<=16)/\(r.2.2.1=kg\/su r.2.2.1/\r.1.1<r.2.2.1.1))
def aEA(r:eW):Q1 (r,r,())=J (af,()):=by unfold Q1 KW;simp only[go_sem,pM]
def pt(r:eW)(no:O):ai×aE×aj:=
 if no<1 then([],ag,()) else if r.1.1=no then(r.1.2.1,af,()) else if r.2.1.1=no then(r.2.1.2.1,af,()) else if r.2.2.1.1=no then(r.2.2.1.2.1,af,()) else([],ag,())
def alA(r:eW)(no:O):F7 (r,no,())=J (pt r no):=by
 unfold F7 pt;by_cases aC:no<1
 .rw[aH aC];exact AI
 rw[aD aC];by_cases Y:r.1.1=no
 .rw[aH Y];exact AI
 rw[aD Y];by_cases ac:r.2.1.1=no
 .rw[aH ac];exact AI
 rw[aD ac];by_cases av:r.2.2.1.1=no
 .rw[aH av];exact AI
 rw[aD av];exact AI
def MD:=@List.flatMap_nil
def dv(n:O):Prop:=0<=n/\n<=4611686018427387904
instance (n:O):hu<|dv n:=by unfold dv;infer_instance
def dM(v:d6):O:=ap v.2.2.1 0 0
def e1(v:d6):O:=ap v.2.2.1 1 0
def rg(v:d6):Prop:=(v.1=1\/v.1=2)/\dv (dM v)/\dv (e1 v)/\dv v.2.2.2.2.1/\(v.2.1=0\/v.2.1=1)/\(0<=v.2.2.2.1/\v.2.2.2.1<=2147483647)/\1<=T v.2.2.2.2.2.1/\T v.2.2.2.2.2.1<=900
def Wo(n ao:O):Ew (n,ao,())=J (D<|0<=n/\n<=ao,()):=by unfold Ew;simp only[go_sem]
def aat(n:O):Ga (n,())=J (D<|dv n,()):=by unfold Ga dv;simp only[go_sem]
def agf(v:d6):Ic (v,())=J (D<|rg v,()):=by
 obtain⟨k,d,e,g,s,b,t,⟨⟩⟩:=v;unfold Ic rg dM e1;by_cases aB:k=1\/k=2
 .refine aW (a:=(ag,())) (by rcases aB with rfl|rfl<;>rfl) ?_
  rw[show ah 0=0 from rfl,show ah 1=1 from rfl];generalize ap e 0 0=x;generalize ap e 1 0=y;generalize hf:(λ(ae:aE×O×aj)=>(_:au<|aL (aE×O×aj)<|Bool×aj))=f;have key:=YZ (f:=f) [x,y,s] (λi=>(ag,(i:O),())) 0 ((ag,()):aE×aj) dv (λi h hp => ?_) (λi h hp => ?_) ?_
  .rcases key with⟨h,hl⟩|⟨h,hl⟩
   .refine(cE<|hl).trans ?_
    have Y:=h x bP;have ac:=h y bP;have av:=h s bP;simp only[go_sem,Wo]
    grind [lZ]
   refine(cE<|hl).trans ?_;rw[b1<|λaA=>h λz bN => ?_]
   .rfl
   grind
  .subst hf
   have av:i<3:=h;have ej:i64 (aG (i:O) 1)=((i+1:R):O):=dK rfl V;refine bA b2 ?_;refine a7 b2 ?_;rw[ej,eO,nth_get h,Wo,bS<|show 0<=[x,y,s][i]/\[x,y,s][i]<=4611686018427387904 from hp];rfl
  .subst hf
   have av:i<3:=h;refine bA b2 ?_;refine a7 b2 ?_;rw[eO,nth_get h,Wo,b1<|show ¬(0<=[x,y,s][i]/\[x,y,s][i]<=4611686018427387904) from hp];rfl
  subst hf;rfl
 rw[b1<|λh=>aB h.1];simp at aB;obtain⟨Y,ac⟩:=aB;refine aW (a:=(af,())) (by simp only[go_sem,Y,ac]) ?_;rfl
def alE(v:d6):KX (v,())=J (D<|rg v,()):=by
 obtain⟨k,d,e,g,s,b,t,⟨⟩⟩:=v;unfold KX rg dM e1;dsimp only;rw[aat];rw[aat];rw[aat];rw[show ah 0=0 from rfl,show ah 1=1 from rfl];by_cases Y:dv (ap e 0 0)/\dv (ap e 1 0)/\dv s
 .obtain⟨c9,dl,dB⟩:=Y
  by_cases aB:k=1
  .subst aB
   exact aPc
  by_cases qb:k=2
  .subst qb
   exact aPc
  rw[b1 (p:=_/\_) (λh=>by have:=h.1;omega)];exact AI
 rw[b1 (p:=(k=1\/k=2)/\_)<|λh=>Y ⟨h.2.1,h.2.2.1,h.2.2.2.1⟩];by_cases c1:dv<|ap e 0 0
 .by_cases c2:dv (ap e 1 0)
  .have fK:¬dv s:=λh=>Y ⟨c1,c2,h⟩
   rw[bS c1,bS c2,b1 fK];rfl
  rw[bS c1,b1 c2];rfl
 rw[b1 c1];rfl
def m2(w:R)(n:O):ai:=bE 256 l_ n.toNat w
def s0(w:R)(n:O):T (m2 w n)=w:=mj _ _ _ _
def i0(v:d6):ai:=m2 1 v.1++m2 1 v.2.1++m2 8 (dM v)++m2 8 (e1 v)++m2 4 v.2.2.2.1++m2 8 v.2.2.2.2.1++v.2.2.2.2.2.1
def zI(v:d6):T (i0 v)=30+T v.2.2.2.2.2.1:=by unfold i0;simp only[d7,s0]
def aqG{n:O}{w:R}(Y:1<=w)(cH:w<=8)(aC:0<=n)(h:n<256^w)(ax:n<=9223372036854775807):qU (n,(w:O),())=J (m2 w n,0,()):=by rw[V' _ _ ax,aH ⟨V,V,aC,by rw[ie];exact h⟩];rfl
def FZ{n:O}{w:R}(Y:1<=w)(cH:w<=8)(aC:0<=n)(h:n<256^w)(ax:n<=9223372036854775807):ql (n,(w:O),())=J (m2 w n,()):=by unfold ql;dsimp only;rw[aaf _ _ ax,aH ⟨V,V,aC,by rw[ie];exact h⟩];rfl
def PG{f:O×ai×aj->au (aL (O×ai×aj) aj)}(w:R)(l:ab O)(dC:ai)(Y:1<=w)(cH:w<=8)(hl:T l<=10)(b6:T dC<=1000)(h:∀n∈l,0<=n/\n<256^w/\n<=9223372036854775807)
  (hf:f=λ(ae:O×ai×aj)=>aa (aK ae.1<|len l) (an (aO ae.1<|len l)<|ob (qU (ap l (ah ae.1) 0,(w:O),())) λ(a:ai×O×aj)=>an (bO 1<|bB (aQ ae.2.1)<|aQ a.1)<|some<|aL.nx (i64<|aG ae.1 1,bb ae.2.1 a.1,()))<|some<|aL.ex 0 (ae.1,ae.2.1,())) :
  bG f (0,dC,())=J (.ex 0 ((T l:O),dC++l.flatMap (m2 w),())):=by
 have hL:∀i,T ((l.take i).flatMap<|m2 w)<=8*i:=by intro i;rw[List.length_flatMap];have:((l.take i).map λa=>T<|m2 w a)=(l.take i).map λ_=>w:=List.map_congr_left λa _=>s0 w a;rw[this,List.map_const',List.sum_replicate_nat,jl];have:min i (T l)*w<=i*8:=apo (Nat.min_le_left _ _) cH;omega
 have step:∀i:R,i<T l->f ((i:O),dC++(l.take i).flatMap (m2 w),())=J (.nx (((i+1:R):O),dC++(l.take<|i+1).flatMap (m2 w),())):=by
  intro i ao;subst hf;have ej:i64 (aG (i:O) 1)=((i+1:R):O):=dK IS V;obtain⟨cn,cR,da⟩:=h l[i]<|j7 ao;have zn:=hL i;refine bA b2 ?_;refine a7 b2 ?_;rw[ej,eO,nth_get ao,aqG Y cH cn cR da];refine a7 (by simp only[go_sem];simp only[d7,s0];omega) ?_
  grind [AX,bb]
 have dh:∀u,f ((T l:O),u,())=J (.ex 0 ((T l:O),u,())):=aLM
 have:=(gS (f:=f) (λi=>((i:O),dC++(l.take i).flatMap (m2 w),())) (T l) step 0<|ea _).trans<|dr<|dh _;rw[i5<|cx _,Ue,MD,g?]at this;exact this
def Wn(v:d6)(a3:rg v):zc (v,())=J (i0 v,0,()):=by
 unfold zc;rw[agf,bS a3];obtain⟨k,d,e,g,s,b,t,⟨⟩⟩:=v;unfold i0;obtain⟨Y,ac,av,aJ,bv,c_,eJ,cH⟩:=a3;unfold dM dv at ac;unfold e1 dv at av;unfold dv at aJ;unfold dM e1;dsimp only at *
 rw[show ah 0=0 from rfl,show ah 1=1 from rfl];generalize ap e 0 0=x at ac;generalize ap e 1 0=y at av;refine(cE<|PG 1 [k,d] [] V V bP bP (λn ax => ?_) rfl).trans ?_
 .grind
 refine(cE<|PG 8 [x,y] _ V V bP (by simp[s0]) (λn ax => ?_) rfl).trans ?_
 .grind
 refine(cE<|PG 4 [g] _ V V bP (by simp[s0]) (λn ax => ?_) rfl).trans ?_
 .grind
 refine(cE<|PG 8 [s] _ V V bP (by simp[s0]) (λn ax => ?_) rfl).trans ?_
 .grind
 refine a7 g62 ?_;exact aOg
def Q3(v:d6)(a3:rg v):CO (v,())=J (i0 v,0,()):=by
 unfold CO;rw[alE,bS a3];refine a8 rfl ?_;obtain⟨k,d,e,g,s,b,t,⟨⟩⟩:=v;unfold i0;obtain⟨Y,ac,av,aJ,bv,c_,eJ,cH⟩:=a3;unfold dM dv at ac;unfold e1 dv at av;unfold dv at aJ;unfold dM e1;dsimp only at *
 rw[show ah 0=0 from rfl,show ah 1=1 from rfl];generalize ap e 0 0=x at ac;generalize ap e 1 0=y at av;rw[show ql (k,1,())=_ from FZ (w:=1) V V V V V];refine aW rfl ?_;rw[show ql (d,1,())=_ from FZ (w:=1) V V V V V];refine a7 rfl ?_;refine a7 rfl ?_;rw[show ql (x,8,())=_ from FZ (w:=8) V V V V V];refine a7 rfl ?_;refine a7 rfl ?_;rw[show ql (y,8,())=_ from FZ (w:=8) V V V V V];refine a7 rfl ?_;rw[show ql (g,4,())=_ from FZ (w:=4) V V V V V];refine a7 rfl ?_;rw[show ql (s,8,())=_ from FZ (w:=8) V V V V V];refine a7 rfl ?_;exact aOg
def ng(v:d6):Prop:=rg v/\T v.2.2.2.2.2.2.1=16
def age(v:d6):Ev (v,())=J (D<|ng v,()):=by
 unfold Ev ng;rw[agf];exact aNw
def alD(v:d6):F? (v,())=J (D<|ng v,()):=by
 unfold F? ng;rw[alE];exact aNw
def avJ(v:d6)(a3:ng v):Om (v,())=J (i0 v++v.2.2.2.2.2.2.1,0,()):=by unfold Om;rw[age,bS a3];rw[Wn _ a3.1];have Y:=zI v;have ac:=a3.2;have av:=a3.1.2.2.2.2.2.2.2;refine a7 b2 ?_;rfl
def aED(v:d6)(a3:ng v):Q5 (v,())=J (i0 v++v.2.2.2.2.2.2.1,0,()):=by unfold Q5;rw[alD,bS a3];rw[Q3 _ a3.1];have Y:=zI v;have ac:=a3.2;have av:=a3.1.2.2.2.2.2.2.2;refine a7 b2 ?_;rfl
abbrev gx:=O×ab hw×aj
abbrev qM:=O×ai×aj
abbrev tZ:=O×ab O×O×ai×aj
abbrev j6:=ai×O×O×aj
def iG:j6:=([],0,0,())
def vK(f:j6):O:=256*aV (ap f.1 0<|u8 0)+aV (ap f.1 1<|u8 0)
def la(f:j6):Prop:=¬(f.2.1<0\/65535<f.2.1\/0<f.2.1/\0<T f.1)/\(T f.1<2\/1<=vK f/\vK f<=1024/\(T f.1:O)<vK f+2)
theorem Ar:la iG:=⟨di,.inl di⟩
structure ew where
 id:O
 key:ai
 ph:O
 store:nu
 power:O
 own:O
 oth:O
 seen:O
 seq:O
 win:gx
 ring:eW
 ask:go
 stan:O
 day:O
 queue:ab ai
 hub:f8
 bV:ab qM
 got:ab tZ
 ec:ab O
def ew.t(e:ew):pY:=(e.id,e.key,e.ph,e.store,e.power,e.own,e.oth,e.seen,e.seq,e.win,e.ring,e.ask,e.stan,e.day,e.queue,e.hub,e.bV,e.got,e.ec,())
structure aU where
 e:ew
 p:jy
def aU.t(s:aU):eK:=(s.e.t,s.p,())
def wa:gx:=(0,tW,())
structure sn(n:R)(e:ew):Prop where
 id:e.id=0\/e.id=1
 key:T e.key<=1000
 ph:0<=e.ph/\e.ph<=8
 store:uT e.store
 own:dv e.own
 oth:dv e.oth
 seq:dv e.seq
 ring:mI e.ring
 up:T e.hub.1=4
 next:0<=e.hub.2.2.2.1/\e.hub.2.2.2.1<4
 bV:T e.bV<=n
 got:T e.got<=n
 ec:T e.ec=4
 win:T e.win.2.1=16
 feed:T e.hub.2.1=4
 life:T e.hub.2.2.1=4
 queue:T e.queue<=8
 top:0<=e.win.1/\e.win.1<=4611686018427387905
 fd:∀c,la (ap e.hub.2.1 c iG)
 askr:Aq e.ask
 outs:∀x∈e.bV,(0<=x.1/\x.1<4)/\T x.2.1<=948
structure bJ(n:R)(s:aU):Prop where
 e:sn n s.e
 p:T s.p.2.1<=n
def hk(e:ew):ab O:=if e.id=0 then[e.own,e.oth]else if e.id=1 then[e.oth,e.own]else[0,0]
def YM(ao n:O):Ch (ao,[n],())=J (D<|0<=n/\n<=ao,()):=by
 by_cases h:0<=n/\n<=ao
 .rw[bS h]
  refine(cE<|dT (y:=(ag,1,())) ?_).trans<|(cE<|dr (y:=(ag,1,())) (k:=0) rfl).trans rfl;refine bA rfl<|a7 rfl ?_;rw[show ap [n] (ah 0) 0=n from rfl];exact ax_
 rw[b1 h];refine(cE<|oY (r:=(ag,())) ?_).trans rfl;rw[show ap [n] (ah 0) 0=n from rfl];exact ah_
def aAW(ao n m:O):Ch (ao,[n,m],())=J (D<|(0<=n/\n<=ao)/\(0<=m/\m<=ao),()):=by
 by_cases h:0<=n/\n<=ao
 .refine(cE<|dT (y:=(ag,1,())) ?_).trans ?_
  .refine bA rfl (a7 rfl ?_)
   rw[show ap [n,m] (ah 0) 0=n from rfl];exact ax_
  by_cases ce:0<=m/\m<=ao
  .rw[bS ⟨h,ce⟩]
   refine(cE<|dT (y:=(ag,2,())) ?_).trans<|(cE<|dr (y:=(ag,2,())) (k:=0) rfl).trans rfl;refine bA rfl<|a7 rfl ?_;rw[show ap [n,m] (ah 1) 0=m from rfl];exact ax_
  rw[b1<|λx=>ce x.2];refine(cE<|oY (r:=(ag,())) ?_).trans rfl;rw[show ap [n,m] (ah 1) 0=m from rfl];exact ah_
 rw[b1<|λx=>h x.1];refine(cE<|oY (r:=(ag,())) ?_).trans rfl;rw[show ap [n,m] (ah 0) 0=n from rfl];exact ah_
def zO(e:ew):oV (e.t,())=J (hk e,()):=by
 unfold oV hk;dsimp only[ew.t];rw[YM];by_cases aC:e.id=0
 .rw[aC,bS V];rfl
 rw[aD aC];by_cases Y:e.id=1
 .rw[Y,bS V];rfl
 rw[aD Y,b1 V];rfl
def Ah(e:ew):qm (e.t,())=J (hk e,()):=by
 unfold qm hk;dsimp only[ew.t];by_cases aC:e.id=0
 .rw[aC];rfl
 rw[aD aC];by_cases Y:e.id=1
 .rw[Y];rfl
 rw[aD Y];exact AI
def yZ(key:ai):ai:=H3 key [98,97,115,101] []
def Nr(key:ai):T (yZ key)=32:=afP _ _ _
def aji(key:ai)(h:T key<=1000000):Ce (key,())=J (yZ key,()):=by unfold Ce;rw[ajD _ _ _ h di di di];rfl
def aax(key:ai)(h:T key<=1000000):Af (key,())=J (yZ key,()):=by unfold Af;rw[als _ _ _ h di di di];rfl
def Cb(key:ai)(p:ab O)(jm:O)(fh:ai):ai:=
 if dv (ap p 0 0)/\dv (ap p 1 0)/\0<=jm/\jm<=2147483647 then H3 key [108,105,110,107] [m2 8<|ap p 0 0,m2 8<|ap p 1 0,m2 4 jm,fh]else[]
def aaA(n:O):Gf (n,())=J (D<|dv n,()):=by unfold Gf dv;simp only[go_sem]
def UF{n:O}(bR:w=8\/w=4)(h:0<=n/\n<256^w.toNat)(ax:n<=9223372036854775807):qU (n,w,())=J (m2 w.toNat n,0,()):=by rw[V' _ _ ax,aH ⟨V,V,h.1,h.2⟩];rfl
def aaa{n:O}(bR:w=8\/w=4)(h:0<=n/\n<256^w.toNat)(ax:n<=9223372036854775807):yf (n,w,())=J (m2 w.toNat n,0,()):=by rw[aaf _ _ ax,aH ⟨V,V,h.1,h.2⟩];rfl
def aAM{a b:ai}{c fh:ai}(b6:T a=8)(ak:T b=8)(aA:T c=4)(ax:T fh<=1000):∀p∈[a,b,c,fh],T p<=1000:=by grind
def we{n:O}(h:dv n):0<=n/\n<256^(8:O).toNat:=⟨h.1,by have:=h.2;show n<256^8;omega⟩
def ajj(key:ai)(p:ab O)(jm:O)(fh:ai)(aB:T key<=1000000)(ax:T fh<=1000):Cf (key,p,jm,fh,())=J (Cb key p jm fh,()):=by
 unfold Cf Cb;refine a7 rfl<|a7 rfl ?_;rw[show ah 0=0 from rfl,show ah 1=1 from rfl];generalize ap p 0 0=x;generalize ap p 1 0=y;rw[aAW];by_cases h:dv x/\dv y
 .rw[bS<|show(0<=x/\x<=4611686018427387904)/\(0<=y/\y<=4611686018427387904) from h]
  refine aW rfl<|a8 rfl ?_;rw[YM];by_cases hg:0<=jm/\jm<=2147483647
  .rw[bS hg,aH ⟨h.1,h.2,hg⟩]
   refine aW rfl<|a8 rfl<|a7 rfl ?_;rw[UF (.inl rfl) (we h.1) (by have:=h.1.2;omega)];refine aW rfl<|a7 rfl ?_;rw[UF (.inl rfl) (we h.2) (by have:=h.2.2;omega)];refine aW rfl ?_;rw[UF (.inr rfl) ⟨hg.1,by show jm<256^4;omega⟩ V];refine aW rfl ?_;rw[show(8:O).toNat=8 from rfl,show(4:O).toNat=4 from rfl,ajD key [108,105,110,107] _ aB bP bP<|aAM (s0 _ _) (s0 _ _) (s0 _ _) ax];rfl
  rw[b1 hg,aD<|λh=>hg h.2.2];rfl
 rw[b1<|show ¬((0<=x/\x<=4611686018427387904)/\(0<=y/\y<=4611686018427387904)) from h,aD<|λce=>h ⟨ce.1,ce.2.1⟩];rfl
def alN(key:ai)(p:ab O)(jm:O)(fh:ai)(aB:T key<=1000000)(ax:T fh<=1000):Ag (key,p,jm,fh,())=J (Cb key p jm fh,()):=by
 unfold Ag Cb;refine a7 rfl ?_;rw[show ah 0=0 from rfl,show ah 1=1 from rfl];generalize ap p 0 0=x;generalize ap p 1 0=y;rw[aaA];rw[aaA];refine aW rfl ?_;by_cases h:dv x/\dv y/\0<=jm/\jm<=2147483647
 .obtain⟨Y,ac,av,aJ⟩:=h
  rw[aH ⟨Y,ac,av,aJ⟩];refine aW (a:=(ag,())) (by rw[bS Y,bS ac];simp only[go_sem];try exact u1 V) ?_;refine a8 rfl<|a7 rfl ?_;rw[aaa (.inl rfl) (we Y) (by have:=Y.2;omega)];refine aW rfl<|a7 rfl ?_;rw[aaa (.inl rfl) (we ac) (by have:=ac.2;omega)];refine aW rfl ?_;rw[aaa (.inr rfl) ⟨av,by show jm<256^4;omega⟩ V];simp_all[b3,als,s0]
 rw[aD h];by_cases Y:dv x
 .by_cases ac:dv y
  .rw[bS Y]
   have av:¬(0<=jm/\jm<=2147483647):=λav=>h ⟨Y,ac,av⟩;simp(disch:=omega) only[go_sem];try exact ru rfl
  rw[bS Y,b1 ac];rfl
 rw[b1 Y];rfl
def Ci(e:ew)(p:O):ew:={ e with ph:=p,own:=0,oth:=0,seq:=0,win:=wa,ring:=oZ,ask:=mi,queue:=[],got:=if i1 e.ph then e.got++[(5,hk e,0,[],())]else e.got }
def N6(l:ab tZ):Av (l,())=J (l,()):=by
 grind [Av,abl,c3,VQ]
def auK(l:ab qM):SJ (l,())=J (l,()):=by
 grind [SJ,abl,c3,VQ]
def ajk(e:ew)(p:O)(hg:T e.got<=1050000000000):Cg (e.t,p,())=J ((Ci e p).t,()):=by
 unfold Cg Ci;dsimp only[ew.t];rw[Ko];by_cases h:i1 e.ph
 .rw[bS h,aH h]
  rw[N6];rw[show oV ((e.id,e.key,e.ph,e.store,e.power,e.own,e.oth,e.seen,e.seq,e.win,e.ring,e.ask,e.stan,e.day,e.queue,e.hub,e.bV,e.got,e.ec,()),())=_ from zO e];refine a7 AT ?_;rfl
 exact aL7
def Rg(e:ew)(k:O)(p:ab O)(s:O)(b:ai)(hg:T e.got<=1050000000000):CQ (e.t,k,p,s,b,())=J (({ e with got:=e.got++[(k,p,s,b,())] }:ew).t,()):=by dsimp only[ew.t];refine a7 b2 ?_;refine a7 AT ?_;rfl
def alO(e:ew)(p:O)(hg:T e.got<=1050000000000):CR (e.t,p,())=J ((Ci e p).t,()):=by
 unfold CR Ci;rw[show(e.t,p,()).1.2.2.1=e.ph from rfl,K1];by_cases h:i1 e.ph
 .rw[bS h,aH h]
  refine bA rfl ?_;rw[Ah];refine aW rfl ?_;rw[ Rg _ _ _ _ _ hg];rfl
 exact aL7
theorem eI(h:a=b):a2 (am a b)=ag:=by rw[ck h];rfl
theorem ff(h:¬a=b):a2 (am a b)=af:=by rw[cc h];rfl
def aaM{r:eW}(h:mI r):0<=r.1.1/\r.1.1<=2147483647/\T r.1.2.1<=32:=by
 rcases h with rfl|⟨⟨Y,ac,av⟩,_⟩
 .exact⟨di,di,di⟩
 omega
def lm(s:aU)(v:d6)(key:ai):aU×O:=
 if(lz s.e.hub).2.2.1=0 then
  (⟨{ s.e with hub:=(lz s.e.hub).1,bV:=s.e.bV++[((lz s.e.hub).2.1,uL<|i0 v++qp key (i0 v),())] },yb s.p key<|i0 v⟩,0)
 else(s,(lz s.e.hub).2.2.1)
def ajl{s:aU}(hs:bJ n s)(ax:n<=1000000000000)(v:d6)(a3:rg v)(key:ai)(aB:T key<=1000000):JN (s.t,v,key,())=J ((lm s v key).1.t,(lm s v key).2,()):=by
 unfold JN lm;dsimp only[aU.t,ew.t];have hp:=hs.p;have bg:=hs.e.bV;rw[azM _ hs.e.up hs.e.next];by_cases hh:(lz s.e.hub).2.2.1=0
 .rw[aH hh]
  refine a8 (by simp only[go_sem];exact dq hh) ?_;rw[Wn _ a3];refine aW rfl ?_;have ak:=a3.2.2.2.2.2.2;have hl:=zI v;dsimp only;rw[aDg _ _ _ V aB V];refine aW rfl ?_;have ht:=Lm key<|i0 v;rw[avJ (v.1,v.2.1,v.2.2.1,v.2.2.2.1,v.2.2.2.2.1,v.2.2.2.2.2.1,qp key<|i0 v,v.2.2.2.2.2.2.2) ⟨a3,ht⟩];refine aW rfl ?_;rw[show i0 (v.1,v.2.1,v.2.2.1,v.2.2.2.1,v.2.2.2.2.1,v.2.2.2.2.2.1,qp key<|i0 v,v.2.2.2.2.2.2.2)=i0 v from rfl,awu _<|by grind];rw[auK];refine a7 AT ?_;rfl
 rw[aD hh];refine bA (by simp only[go_sem];exact hh) ?_;rfl
def alP{s:aU}(hs:bJ n s)(ax:n<=1000000000000)(v:d6)(a3:rg v)(key:ai)(aB:T key<=1000000):Ge (s.t,v,key,())=J ((lm s v key).1.t,(lm s v key).2,()):=by
 unfold Ge lm;dsimp only[aU.t,ew.t];have hp:=hs.p;have bg:=hs.e.bV;rw[aEs _ hs.e.up hs.e.next];refine aW rfl ?_;by_cases hh:(lz s.e.hub).2.2.1=0
 .rw[aH hh]
  refine a8 (by simp only[go_sem,Int.reduceToNat];exact dq hh) ?_;rw[Q3 _ a3];refine aW rfl ?_;have ak:=a3.2.2.2.2.2.2;have hl:=zI v;dsimp only;rw[aEc _ _ _ V aB V];refine aW rfl ?_;dsimp only;have ht:=Lm key<|i0 v;rw[aED (v.1,v.2.1,v.2.2.1,v.2.2.2.1,v.2.2.2.2.1,v.2.2.2.2.2.1,qp key<|i0 v,v.2.2.2.2.2.2.2) ⟨a3,ht⟩];refine aW rfl ?_;dsimp only;rw[show i0 (v.1,v.2.1,v.2.2.1,v.2.2.2.1,v.2.2.2.2.1,v.2.2.2.2.2.1,qp key<|i0 v,v.2.2.2.2.2.2.2)=i0 v from rfl,aEn _ aLt];refine aW rfl ?_;refine a7 AS ?_;refine a7 aPU ?_;rfl
 rw[aD hh];refine bA (by simp only[go_sem,Int.reduceToNat];exact hh) ?_;rfl
def yq(e:ew)(body:ai):d6:=(2,e.id,hk e,e.ring.1.1,e.seq,body,[],())
def Dc(e:ew)(other:O)(body:ai):d6:=(1,e.id,hk { e with oth:=other },0,0,body,[],())
def rX(b:ai):Prop:=1<=T b/\T b<=900
instance (b:ai):hu<|rX b:=by unfold rX;infer_instance
def ZU{e:ew}(Y:dv e.own)(ac:dv e.oth):dv (ap (hk e) 0 0)/\dv (ap (hk e) 1 0):=by
 unfold hk;split
 .exact⟨Y,ac⟩
 split
 .exact⟨ac,Y⟩
 exact⟨di,di⟩
def anh{e:ew}(h:sn n e){body:ai}(ak:rX body):rg<|yq e body:=by have az:=aaM h.ring;exact⟨.inr rfl,(ZU h.own h.oth).1,(ZU h.own h.oth).2,h.seq,h.id,⟨az.1,az.2.1⟩,ak.1,ak.2⟩
def ank{e:ew}(h:sn n e){o:O}(bg:dv o){body:ai}(ak:rX body):rg<|Dc e o body:=by have:=ZU (e:={ e with oth:=o }) h.own bg;exact⟨.inl rfl,this.1,this.2,aLu,h.id,⟨aLg,by show(0:O)<=2147483647;decide⟩,ak.1,ak.2⟩
def gs(s:aU)(body:ai):aU×O:=
 if ¬rX body then(s,1) else if ¬i1 s.e.ph then(s,7) else if s.e.seq=4611686018427387904 then(s,10)
 else let r:=lm s (yq s.e body) s.e.ring.1.2.1;if r.2=0 then(⟨{ r.1.e with seq:=r.1.e.seq+1 },r.1.p⟩,0) else r
def Wj(s:aU)(v:d6)(key:ai):(lm s v key).1.e.seq=s.e.seq:=by unfold lm;split<;>rfl
def YL(b:ai):JO (b,())=J (D<|rX b,()):=by
 unfold JO rX;exact aNw
def anf{s:aU}{r:aU×O}(aiA:dv r.1.e.seq)(n_:¬r.1.e.seq=4611686018427387904):
 (ob (J (r.1.t,r.2,())) λ(a:eK×O×aj)=>
 aa (am a.2.1 0) (J (((a.1.1.1,a.1.1.2.1,a.1.1.2.2.1,a.1.1.2.2.2.1,a.1.1.2.2.2.2.1,a.1.1.2.2.2.2.2.1,a.1.1.2.2.2.2.2.2.1,a.1.1.2.2.2.2.2.2.2.1,i64<|aG a.1.1.2.2.2.2.2.2.2.2.1 1,a.1.1.2.2.2.2.2.2.2.2.2),a.1.2),a.2.1,())) (J (a.1,a.2.1,()))) =
  J ((if r.2=0 then(⟨{ r.1.e with seq:=r.1.e.seq+1 },r.1.p⟩,0) else r:aU×O).1.t,(if r.2=0 then(⟨{ r.1.e with seq:=r.1.e.seq+1 },r.1.p⟩,0) else r:aU×O).2,()):=by
 obtain⟨⟨e,p⟩,c⟩:=r;by_cases h:c=0
 .subst h
  rw[aH rfl];refine bA rfl ?_;dsimp only[aU.t,ew.t]at aiA ⊢;obtain⟨cn,cR⟩:=aiA
  grind [aG,fF]
 rw[aD h];refine a8 (by simp only[go_sem];exact h) ?_;rfl
theorem zP{s:aU}(hs:bJ n s)(ax:n<=1000000000000)(b:ai):oW (s.t,b,())=J ((gs s b).1.t,(gs s b).2,()):=by
 unfold oW gs;rw[YL];by_cases ak:rX b
 .rw[bS ak,aD<|not_not_intro ak]
  refine a8 rfl ?_;rw[show s.t.1.2.2.1=s.e.ph from rfl,Ko];by_cases hl:i1 s.e.ph
  .rw[bS hl,aD<|not_not_intro hl]
   refine a8 rfl ?_;by_cases bD:s.e.seq=4611686018427387904
   .exact aOp
   rw[aD bD];refine a8 (by simp only[go_sem];exact bD) ?_;rw[show oV (s.t.1,())=_ from zO s.e];refine aW rfl ?_;have a3:=anh hs.e ak;have aB:=(aaM hs.e.ring).2.2;have vT:=ajl hs ax _ a3 s.e.ring.1.2.1 V;exact aK1
  rw[b1 hl,aH hl];rfl
 rw[b1 ak,aH ak];rfl
def yj{s:aU}(hs:bJ n s)(ax:n<=1000000000000)(b:ai):ro (s.t,b,())=J ((gs s b).1.t,(gs s b).2,()):=by
 unfold ro gs;by_cases ak:rX b
 .rw[aD<|not_not_intro ak]
  have hb1:=ak.1;have hb2:=ak.2;refine aW (a:=(ag,())) aMz ?_;refine a8 rfl ?_;rw[show s.t.1.2.2.1=s.e.ph from rfl,K1];by_cases hl:i1 s.e.ph
  .rw[bS hl,aD<|not_not_intro hl]
   refine a8 rfl ?_;by_cases bD:s.e.seq=4611686018427387904
   .exact aOp
   rw[aD bD];refine a8 (by simp only[go_sem];exact bD) ?_;rw[show qm (s.t.1,())=_ from Ah s.e];refine aW rfl ?_;have a3:=anh hs.e ak;have aB:=(aaM hs.e.ring).2.2;have vT:=alP hs ax _ a3 s.e.ring.1.2.1 V;exact aK1
  rw[b1 hl,aH hl];rfl
 rw[aH ak];unfold rX at ak;exact ah_
def nU(s:aU)(other:O)(body:ai):aU×O:=if dv other/\rX body then lm s (Dc s.e other body) (yZ s.e.key) else(s,1)
theorem YK{s:aU}(hs:bJ n s)(ax:n<=1000000000000)(o:O)(b:ai):Fk (s.t,o,b,())=J ((nU s o b).1.t,(nU s o b).2,()):=by
 unfold Fk nU;rw[YM];refine aW rfl ?_;by_cases ak:dv o/\rX b
 .rw[aH ak,bS<|show 0<=o/\o<=4611686018427387904 from ak.1]
  refine aW (a:=(ag,())) (a8 rfl (by rw[YL,bS ak.2];rfl)) ?_;have hp:=zO { s.e with oth:=o };refine(bs<|hp).trans ?_;have aB:=hs.e.key;rw[show Ce (s.t.1.2.1,())=_ from aji s.e.key V];have vT:=ajl hs ax _ (ank hs.e ak.1 ak.2) (yZ s.e.key) aPD;exact(bs vT).trans rfl
 rw[aD ak];by_cases Y:dv o
 .rw[bS<|show 0<=o/\o<=4611686018427387904 from Y]
  rw[YL,b1<|λh=>ak ⟨Y,h⟩];rfl
 rw[b1<|show ¬(0<=o/\o<=4611686018427387904) from Y];rfl
theorem Ri{s:aU}(hs:bJ n s)(ax:n<=1000000000000)(o:O)(b:ai):CS (s.t,o,b,())=J ((nU s o b).1.t,(nU s o b).2,()):=by
 unfold CS nU;rw[aaA];refine aW rfl ?_;have aB:=hs.e.key;by_cases ak:dv o/\rX b
 .rw[aH ak,bS ak.1]
  have hb1:=ak.2.1;have hb2:=ak.2.2;refine aW (a:=(ag,())) aMz ?_;refine a8 rfl ?_;have vT:=alP hs ax _ (ank hs.e ak.1 ak.2) (yZ s.e.key) aPD;rcases hs.e.id with ao|ao
  .refine a8 (by show am s.e.id 1=ag;rw[ao];rfl) ?_
   rw[show Af (s.t.1.2.1,())=_ from aax s.e.key V];have e:Dc s.e o b=(1,s.e.id,[s.e.own,o],0,0,b,[],()):=by unfold Dc hk;dsimp only;rw[aH ao]
   rw[e]at vT ⊢;exact(bs vT).trans rfl
  refine bA (by show am s.e.id 1=af;rw[ao];rfl) ?_;rw[show Af (s.t.1.2.1,())=_ from aax s.e.key V];have e:Dc s.e o b=(1,s.e.id,[o,s.e.own],0,0,b,[],()):=by unfold Dc hk;dsimp only;rw[aD V,aH ao]
  rw[e]at vT ⊢;exact(bs vT).trans rfl
 rw[aD ak];by_cases Y:dv o
 .rw[bS Y]
  have ac:¬(1<=T b/\T b<=900):=λh=>ak ⟨Y,h⟩;simp(disch:=omega) only[go_sem];try exact ru rfl
 rw[b1 Y];rfl
def UV(c:ab O)(i:R):ab O:=cA c i<|i64 (aG (ap c i 0) 1)
def fZ(s:aU)(i:R):aU:=⟨{ s.e with ec:=UV s.e.ec i },s.p⟩
def YJ(s:aU):lx (s.t,13,())=J ((fZ s 3).t,()):=ao_
def alL(s:aU):o0 (s.t,13,())=J ((fZ s 3).t,()):=ao_
def aay(s:aU):o0 (s.t,2,())=J ((fZ s 0).t,()):=ao_
def alM(s:aU):o0 (s.t,5,())=J ((fZ s 1).t,()):=ao_
def aEQ(s:aU):o0 (s.t,6,())=J ((fZ s 2).t,()):=ao_
def yT:=@Nat.le_succ_of_le
def FG{e:ew}(h:sn n e)(hm:n<=m):sn m e:={ h with bV:=i6 h.bV hm,got:=i6 h.got hm }
theorem fi{s:aU}(h:bJ n s)(hm:n<=m):bJ m s:=⟨FG h.e hm,i6 h.p hm⟩
def aC1(h:f8):(lz h).1.1=h.1:=aME
def ZY(h:f8):(lz h).1.2.1=h.2.1:=aME
def aCZ(h:f8):(lz h).1.2.2.1=h.2.2.1:=aME
def aC0{h:f8}(ax:0<=h.2.2.2.1/\h.2.2.2.1<4):0<=(lz h).1.2.2.2.1/\(lz h).1.2.2.2.1<4:=by
 unfold lz
 grind
def aC3(h:f8)(aC:(lz h).2.2.1=0):0<=(lz h).2.1/\(lz h).2.1<4:=by
 unfold lz at aC ⊢;split
 .simp
 rename_i c e;have:=List.mem_of_find?_eq_some e
 grind
def akr{s:aU}(h:bJ n s)(v:d6)(a3:T v.2.2.2.2.2.1<=900)(key:ai):bJ (n+1) (lm s v key).1:=by
 unfold lm;split
 .refine⟨{ h.e with up:=(by rw[<- h.e.up];exact d4 T<|aC1 s.e.hub),next:=aC0 h.e.next,feed:=(by rw[<- h.e.feed];exact d4 T<|ZY s.e.hub),life:=(by rw[<- h.e.life];exact d4 T<|aCZ s.e.hub),bV := ?_,got:=yT h.e.got,fd:=(λc=>by rw[ZY];exact h.e.fd c),outs := ?_ },?_⟩
  .have:=h.e.bV
   simp;omega
  .rename_i aC
   intro x hx;rcases i7.1 hx with hx|hx
   .exact h.e.outs x hx
   rw[nZ]at hx;subst hx;exact⟨aC3 _ aC,by show T (uL _)<=948;rw[ZV,d7,zI,Lm];omega⟩
  have:=aDe s.p key<|i0 v;have:=h.p
  grind
 grind [fi]
theorem sp{s:aU}(h:bJ n s)(b:ai):bJ (n+1) (gs s b).1:=by
 unfold gs;split
 .grind [fi]
 split
 .grind [fi]
 split
 .grind [fi]
 rename_i Y ac av;have aJ:=akr h (yq s.e b) (sL.1 Y).2 s.e.ring.1.2.1;have bv:=Wj s (yq s.e b) s.e.ring.1.2.1;dsimp only;split
 .refine⟨{ aJ.e with seq := ?_ },aJ.p⟩
  have:=h.e.seq
  grind [dv]
 exact aJ
theorem Qb{s:aU}(h:bJ n s)(o:O)(b:ai):bJ (n+1) (nU s o b).1:=by
 unfold nU;split
 .rename_i hf;exact akr h _ hf.2.2 _
 grind [fi]
theorem rd{s:aU}(h:bJ n s)(i:R):bJ n<|fZ s i:=⟨{ h.e with ec:=by show T (UV s.e.ec i)=4;unfold UV cA;rw[jj];exact h.e.ec },h.p⟩
def D_(s:aU)(q:eb):aU:=⟨{ s.e with stan:=mL s.e.stan,ask:=(sZ q.2.1 (mL s.e.stan) (l0 (q.1,q.2.1,mL s.e.stan,q.2.2.2)).1).1 },s.p⟩
def lA(s:aU)(q:eb):aU:=
 if(l0 (q.1,q.2.1,mL s.e.stan,q.2.2.2)).2.1=0/\(sZ q.2.1 (mL s.e.stan) (l0 (q.1,q.2.1,mL s.e.stan,q.2.2.2)).1).2.1=0 then
  (if q.2.1=1 then(nU (D_ s q) 0 (l0 (q.1,q.2.1,mL s.e.stan,q.2.2.2)).1).1 else(gs (D_ s q) (l0 (q.1,q.2.1,mL s.e.stan,q.2.2.2)).1).1)
 else s
def aqC(c s:O)(b:ai):Aq (sZ c s b).1:=by
 unfold sZ;split
 .rename_i h;exact .inr ⟨h,by show(1:O)<=8;decide,by show(8:O)<=8;decide,by show(0:O)<=3;decide,by show(3:O)<=3;decide⟩
 exact aKB
theorem Zu{s:aU}(h:bJ n s)(q:eb):bJ n<|D_ s q:=⟨{ h.e with askr:=aqC _ _ _ },h.p⟩
theorem Cz{s:aU}(h:bJ n s)(q:eb):bJ (n+1)<|lA s q:=by
 grind [lA,Qb,Zu,sp,fi]
def SD{s:aU}(hs:bJ n s)(ax:n<=1000000000000)(q:eb):Dg (s.t,q,())=J ((lA s q).t,()):=by
 unfold Dg lA;rw[show s.t.1.2.2.2.2.2.2.2.2.2.2.2.2.1=s.e.stan from rfl,aqm];refine aW rfl ?_;rw[P3];have fa:=Zu hs q;have lu:=YK fa ax 0 (l0 (q.1,q.2.1,mL s.e.stan,q.2.2.2)).1;have xN:=zP fa ax (l0 (q.1,q.2.1,mL s.e.stan,q.2.2.2)).1;unfold D_ at lu xN ⊢;generalize l0 (q.1,q.2.1,mL s.e.stan,q.2.2.2)=w at lu xN ⊢;obtain⟨b,Mc,⟨⟩⟩:=w;refine aW rfl ?_;rw[aqk];generalize sZ q.2.1 (mL s.e.stan) b=a at lu xN ⊢;obtain⟨a,Hv,⟨⟩⟩:=a;refine aW rfl ?_;by_cases h:Mc=0/\Hv=0
 .obtain⟨rfl,rfl⟩:=h
  refine aW (a:=(ag,())) rfl<|a8 rfl ?_;exact aPd
 rw[aD h];refine aW (a:=(af,())) ?_ rfl;by_cases Y:Mc=0
 .have ac:¬Hv=0:=λac=>h ⟨Y,ac⟩
  exact a8 (by rw[Y];rfl) (by rw[show am Hv 0=ag from cc ac];rfl)
 exact bj (by rw[show am Mc 0=ag from cc Y];rfl)
def Rs{s:aU}(hs:bJ n s)(ax:n<=1000000000000)(q:eb):CT (s.t,q,())=J ((lA s q).t,()):=by
 unfold CT lA;rw[show s.t.1.2.2.2.2.2.2.2.2.2.2.2.2.1=s.e.stan from rfl,aEJ];refine aW rfl ?_;rw[aaw];have fa:=Zu hs q;have lu:=Ri fa ax 0 (l0 (q.1,q.2.1,mL s.e.stan,q.2.2.2)).1;have xN:=yj fa ax (l0 (q.1,q.2.1,mL s.e.stan,q.2.2.2)).1;unfold D_ at lu xN ⊢;generalize l0 (q.1,q.2.1,mL s.e.stan,q.2.2.2)=w at lu xN ⊢;obtain⟨b,Mc,⟨⟩⟩:=w;by_cases Y:Mc=0
 .refine a8 (eI Y) ?_
  rw[aEH];generalize sZ q.2.1 (mL s.e.stan) b=a at lu xN ⊢;obtain⟨a,Hv,⟨⟩⟩:=a;by_cases ac:Hv=0
  .rw[aH ⟨Y,ac⟩]
   refine a8 (eI ac) ?_;exact aPd
  rw[aD<|λh=>ac h.2];exact bj<|ff ac
 rw[aD<|λh=>Y h.1];exact bj<|ff Y
def oH(c:O):eb:=(af,c,0,0,0,[],[],0,())
def SG{s:aU}(hs:bJ n s)(ax:n<=1000000000000)(c:O):GD (s.t,c,())=J ((lA s<|oH c).t,()):=by exact(bs<|SD hs ax<|oH c).trans rfl
def Ru{s:aU}(hs:bJ n s)(ax:n<=1000000000000)(c:O):CU (s.t,c,())=J ((lA s<|oH c).t,()):=by unfold CU;exact(bs<|Rs hs ax<|oH c).trans rfl
def n5(e:ew)(jm:O)(fh:ai):ai:=Cb e.key (hk e) jm fh
def afQ(e:ew)(jm:O)(fh:ai)(aB:T e.key<=1000000)(ax:T fh<=1000):C0 ((e.t,()),jm,fh,())=J (n5 e jm fh,()):=by unfold C0;rw[zO];refine aW rfl ?_;rw[show Cf (e.t.2.1,(hk e,()).1,jm,fh,())=_ from ajj e.key (hk e) jm fh aB ax];rfl
def alV(e:ew)(jm:O)(fh:ai)(aB:T e.key<=1000000)(ax:T fh<=1000):CV (e.t,jm,fh,())=J (n5 e jm fh,()):=by unfold CV;rw[Ah];refine aW rfl ?_;rw[show Ag (e.t.2.1,(hk e,()).1,jm,fh,())=_ from alN e.key (hk e) jm fh aB ax];rfl
def Ll{r:eW}(h:mI r):mI<|yz r:=by
 rcases h with rfl|⟨Y,ac,av,aJ,bv,c_⟩
 .exact aKB
 refine .inr ⟨Y,ac,av,?_,bv,.inl rfl⟩;have:=Y.1;show(0:O)<=r.2.2.2.2.1;omega
def aB5{r:eW}{key:ai}(h:(lU r no key).2.1=0):su (no,key,())/\¬r=oZ/\r.1.1<no/\r.2.2.1.1<=no/\(lU r no key).1=(r.1,r.2.1,(no,key,()),r.2.2.2.1,max r.2.2.2.2.1 no,()):=by
 grind [lU]
theorem aB4{r:eW}{key:ai}(h:¬(lU r no key).2.1=0):(lU r no key).1=r:=by
 grind [lU]
def C2{r:eW}(h:mI r)(no:O)(key:ai):mI (lU r no key).1:=by
 by_cases aC:(lU r no key).2.1=0
 .obtain⟨g,ax,aA,hp,e⟩:=aB5 aC
  rw[e];rcases h with h|⟨Y,ac,av,aJ,bv,c_⟩
  .grind
  refine .inr ⟨Y,?_,?_,?_,bv,.inr ⟨g,aA⟩⟩
  .have:=g.2.1
   grind
  .grind
  grind
 grind [aB4]
theorem R3{r:eW}(h:mI r):mI (wL r).1:=by
 unfold wL;by_cases hp:r.2.2.1=kg
 .grind
 rw[aD hp];rcases h with rfl|⟨Y,ac,av,aJ,bv,c_⟩
 .exact ev rfl hp
 have eJ:=c_.resolve_left hp;refine .inr ⟨eJ.1,ac,aJ,?_,.inr ⟨?_,Y,eJ.2,by show(1:O)<=16;decide,by show(16:O)<=16;decide⟩,.inl rfl⟩
 .have:=Y.1
  show(0:O)<=r.2.2.2.2.1;omega
 intro e;have:=Y.1;rw[e]at this;exact ev this di
def ame{r:eW}(h:mI r):r.2.2.1=kg\/¬r.2.2.1.1=0:=by
 rcases h with rfl|⟨Y,ac,av,aJ,bv,c_⟩
 .exact aKB
 rcases c_ with c_|c_
 .grind
 exact .inr (by have:=c_.1.1;omega)
def amf{r:eW}(h:mI r):0<=r.2.2.2.2.1/\r.2.2.2.2.1<=2147483647:=by
 rcases h with rfl|⟨Y,ac,av,aJ,bv,c_⟩
 .exact⟨di,di⟩
 have:=Y.1;omega
def YD(jm:O)(fh k:ai):eb:=(af,101,0,0,jm,fh,zL k,0,())
def tq(s:aU)(fh:ai):aU×O:=
 if ¬T fh=8 then(s,1) else if ¬k4 s.e.ph then(s,7) else if ¬s.e.ph=3\/¬s.e.ask.1=0\/0<s.e.ring.2.2.1.1 then(s,9)
 else if ¬(pI s.e.ring).2.1=0 then(s,(pI s.e.ring).2.1)
 else(lA ⟨{ s.e with ph:=4,ring:=(lU s.e.ring (pI s.e.ring).1<|n5 s.e (pI s.e.ring).1 fh).1 },s.p⟩<|YD (pI s.e.ring).1 fh<|n5 s.e (pI s.e.ring).1 fh,0)
theorem ZA{s:aU}(h:bJ n s)(g:O)(k:ai):bJ n ⟨{ s.e with ph:=4,ring:=(lU s.e.ring g k).1 },s.p⟩:=⟨{ h.e with ph:=⟨by show(0:O)<=4;decide,by show(4:O)<=8;decide⟩,ring:=C2 h.e.ring g k },h.p⟩
theorem aJe:ss (3,6,())=J (4,af,()):=rfl
def N?(e:ew)(g:O)(fh:ai):T (n5 e g fh)<=32:=by
 grind [n5,Cb,afP]
def aFx{s:aU}(hs:bJ n s)(ax:n<=1000000000000)(fh:ai):RY (s.t,fh,())=J ((tq s fh).1.t,(tq s fh).2,()):=by
 unfold RY tq;by_cases Y:T fh=8
 .rw[aD<|not_not_intro Y]
  refine a8 b2 ?_;rw[show s.t.1.2.2.1=s.e.ph from rfl,Km];refine aW rfl ?_;by_cases ac:k4 s.e.ph
  .rw[bS ac,aD<|not_not_intro ac]
   rw[show s.t.1.2.2.2.2.2.2.2.2.2.2.2.1.1=s.e.ask.1 from rfl,show s.t.1.2.2.2.2.2.2.2.2.2.2.1=s.e.ring from rfl];by_cases av:¬s.e.ph=3\/¬s.e.ask.1=0\/0<s.e.ring.2.2.1.1
   .exact aM1
   rw[aD av];simp only[not_or,sL]at av;obtain⟨c9,dl,dB⟩:=av;refine aW (a:=(ag,())) aOq<|a8 rfl ?_;have ht:=amf hs.e.ring;rw[aFN _ ht.2 ht.1];by_cases aJ:(pI s.e.ring).2.1=0
   .rw[aD<|not_not_intro aJ]
    refine a8 aN0 ?_;generalize(pI s.e.ring).1=g;refine(b3 (o:=Al _) rfl).trans ?_;have aB:=hs.e.key;rw[show C0 ((s.t.1,()),g,fh,())=_ from afQ s.e g fh V V];refine aW rfl ?_;dsimp only;rw[aaN];rw[c9];rw[ajE _ (by have:=N? s.e g fh;omega)];exact(bs<|SD (ZA hs g<|n5 s.e g fh) ax<|YD g fh<|n5 s.e g fh).trans rfl
   exact aOh
  exact aOI
 rw[aH Y];exact bj b2
def aE4{s:aU}(hs:bJ n s)(ax:n<=1000000000000)(fh:ai):Ry (s.t,fh,())=J ((tq s fh).1.t,(tq s fh).2,()):=by
 unfold Ry tq;by_cases Y:T fh=8
 .rw[aD<|not_not_intro Y]
  refine a8 b2 ?_;rw[show s.t.1.2.2.1=s.e.ph from rfl,K0];refine aW rfl ?_;by_cases ac:k4 s.e.ph
  .rw[bS ac,aD<|not_not_intro ac]
   rw[show s.t.1.2.2.2.2.2.2.2.2.2.2.2.1.1=s.e.ask.1 from rfl,show s.t.1.2.2.2.2.2.2.2.2.2.2.1=s.e.ring from rfl];by_cases av:¬s.e.ph=3\/¬s.e.ask.1=0\/0<s.e.ring.2.2.1.1
   .exact aM1
   rw[aD av];simp only[not_or]at av;obtain⟨c9,dl,dB⟩:=av;refine aW (a:=(ag,())) aOq<|a8 rfl ?_;have ht:=amf hs.e.ring;rw[aEz _ ht.1];by_cases aJ:(pI s.e.ring).2.1=0
   .rw[aD<|not_not_intro aJ]
    refine a8 aN0 ?_;generalize(pI s.e.ring).1=g;have aB:=hs.e.key;rw[show CV (s.t.1,g,fh,())=_ from alV s.e g fh V V];refine aW rfl ?_;dsimp only;rw[aas];rw[alt _ (by have:=N? s.e g fh;omega)];exact(bs<|Rs (ZA hs g<|n5 s.e g fh) ax<|YD g fh<|n5 s.e g fh).trans rfl
   exact aOh
  exact aOI
 rw[aH Y];exact bj b2
def x'(e:ew):ew:={ e with ph:=3,ask:=mi }
theorem aJg:ss (4,8,())=J (3,af,()):=rfl
def p?(s:aU):aU:=if s.e.ph=4 then⟨{ s.e with ph:=3,ask:=mi,ring:=yz s.e.ring },s.p⟩ else s
def aaG{s:aU}(h:s.e.ph=4):C1 (s.t,())=J ((⟨x' s.e,s.p⟩:aU).t,()):=by unfold C1;rw[show(s.t,()).1.1.2.2.1=4 from h];rfl
def al5(s:aU):Lj (s.t,())=J ((p? s).t,()):=by
 unfold Lj p?;by_cases h:s.e.ph=4
 .rw[aH h]
  refine a8 aOd ?_;rw[aaG h];rfl
 exact aMK
def aE3(s:aU):Rx (s.t,())=J ((p? s).t,()):=by
 unfold Rx p?;by_cases h:s.e.ph=4
 .rw[aH h]
  refine a8 aOd ?_;rfl
 exact aMK
def kV(n:eb)(res:O):ai:=(l0 (Hw n res).1).1
theorem K7(n:eb)(res:O):yk (n,res,())=J (kV n res,()):=by unfold yk;rw[aEM];refine aW rfl ?_;rw[aaw];rfl
def aE0(s:aU):o1 (s.t,())=J ((fZ s 3).t,()):=by exact(bs<|alL s).trans rfl
theorem Hx{s:aU}(hs:bJ m s)(hm:m<=1000000000000)(n:eb)(res:O):
  (ob (sk (n,res,())) λ(a:eb×O×aj)=>ob (ra (a.1,())) λ(b:ai×O×aj)=>ob (oW (s.t,b.1,())) λ(c:eK×O×aj)=>(J (c.1,()):au<|eK×aj))=J ((gs s<|kV n res).1.t,()):=by
 grind [P2,b3,P3,zP,kV]
def RA{s:aU}(hs:bJ m s)(hm:m<=1000000000000)(n:eb)(res:O):CW (s.t,n,res,())=J ((gs s<|kV n res).1.t,()):=by unfold CW;rw[K7];exact(bs<|yj hs hm<|kV n res).trans rfl
def aor(e:ew)(r:eW):ew:={ e with ring:=r }
def S7(e:ew)(r:eW):ew:={ e with ph:=3,ask:=mi,ring:=r }
def uJ(s:aU)(n:eb):aU:=
 if s.e.ph=4/\s.e.id=0 then fZ s 3
 else if ¬zL (n5 s.e n.2.2.2.2.1 n.2.2.2.2.2.1)=n.2.2.2.2.2.2.1 then(gs s<|kV n 63).1
 else if n.2.2.2.2.1=s.e.ring.1.1 then(gs s<|kV n 0).1
 else if s.e.ph=4 then
  (if(lU (yz s.e.ring) n.2.2.2.2.1<|n5 s.e n.2.2.2.2.1 n.2.2.2.2.2.1).2.1=0 then(gs ⟨S7 s.e (lU (yz s.e.ring) n.2.2.2.2.1<|n5 s.e n.2.2.2.2.1 n.2.2.2.2.2.1).1,s.p⟩<|kV n 0).1 else fZ s 3)
 else(if(lU s.e.ring n.2.2.2.2.1<|n5 s.e n.2.2.2.2.1 n.2.2.2.2.2.1).2.1=0 then(gs ⟨aor s.e (lU s.e.ring n.2.2.2.2.1<|n5 s.e n.2.2.2.2.1 n.2.2.2.2.2.1).1,s.p⟩<|kV n 0).1 else fZ s 3)
def ZH{s:aU}(h:bJ m s){r:eW}(az:mI r):bJ m ⟨aor s.e r,s.p⟩:=⟨{ h.e with ring:=az },h.p⟩
def CA{s:aU}(h:bJ m s){r:eW}(az:mI r):bJ m ⟨S7 s.e r,s.p⟩:=⟨{ h.e with ring:=az,askr:=.inl rfl,ph:=⟨by show(0:O)<=3;decide,by show(3:O)<=8;decide⟩ },h.p⟩
def vC(s:aU):(ob (lx (s.t,13,())) λ(a:eK×aj)=>(J (a.1,()):au<|eK×aj))=J ((fZ s 3).t,()):=(bs<|YJ s).trans rfl
theorem qs(s:aU):(ob (o1 (s.t,())) λ(a:eK×aj)=>(J (a.1,()):au<|eK×aj))=J ((fZ s 3).t,()):=(bs<|aE0 s).trans rfl
def aFy{s:aU}(hs:bJ m s)(hm:m<=1000000000000)(n:eb)(ax:T n.2.2.2.2.2.1<=1000):RZ (s.t,n,())=J ((uJ s n).t,()):=by
 unfold RZ uJ;refine(b3 (o:=Al _) rfl).trans ?_;have aB:=hs.e.key;rw[show C0 ((s.t.1,()),n.2.2.2.2.1,n.2.2.2.2.2.1,())=_ from afQ s.e _ _ V ax];refine(b3 rfl).trans ?_;have hl:=N? s.e n.2.2.2.2.1 n.2.2.2.2.2.1;generalize n5 s.e n.2.2.2.2.1 n.2.2.2.2.2.1=k at hl;refine(b3 (o:=ym _) rfl).trans ?_;dsimp only;rw[show s.t.1.2.2.1=s.e.ph from rfl,show s.t.1.1=s.e.id from rfl];by_cases Y:s.e.ph=4/\s.e.id=0
 .rw[ Y.1,Y.2]
  exact vC s
 rw[aD Y];refine(b3 (a:=(ag,())) ?_).trans<|(bf rfl).trans ?_
 .exact aL9
 rw[ajE _ V];refine(b3 rfl).trans ?_;rw[PM _ _ (by rw[aAK];omega)];by_cases ac:zL k=n.2.2.2.2.2.2.1
 .rw[aD<|not_not_intro ac,At ac]
  by_cases av:n.2.2.2.2.1=s.e.ring.1.1
  .rw[aH av]
   refine(bj<|ck av).trans ?_
   grind [Hx]
  rw[aD av];refine(bf<|cc av).trans ?_;by_cases aJ:s.e.ph=4
  .rw[aH aJ]
   refine(bj<|ck aJ).trans ?_;refine(b3 rfl).trans ?_;rw[aaN];by_cases bv:(lU (yz s.e.ring) n.2.2.2.2.1 k).2.1=0
   .rw[aH bv]
    refine(bf<|eI bv).trans ?_;refine(bj<|ck aJ).trans ?_;rw[aaG aJ];exact Hx (CA hs<|C2 (Ll hs.e.ring) n.2.2.2.2.1 k) hm n 0
   exact aOx
  rw[aD aJ];refine(bf<|cc aJ).trans ?_;rw[aaN];by_cases bv:(lU s.e.ring n.2.2.2.2.1 k).2.1=0
  .rw[aH bv]
   refine(bf<|eI bv).trans ?_;refine(bf<|cc aJ).trans ?_;exact Hx (ZH hs<|C2 hs.e.ring n.2.2.2.2.1 k) hm n 0
  exact aOx
 rw[aH ac,C? ac];exact Hx hs hm n 63
theorem aE5{s:aU}(hs:bJ m s)(hm:m<=1000000000000)(n:eb)(ax:T n.2.2.2.2.2.1<=1000):Rz (s.t,n,())=J ((uJ s n).t,()):=by
 unfold Rz uJ;have aB:=hs.e.key;rw[show s.t.1.2.2.1=s.e.ph from rfl,show s.t.1.1=s.e.id from rfl];by_cases Y:s.e.ph=4/\s.e.id=0
 .rw[ Y.1,Y.2]
  exact qs s
 rw[aD Y];refine(b3 (a:=(ag,())) ?_).trans<|(bf rfl).trans ?_
 .exact aL9
 rw[show CV (s.t.1,n.2.2.2.2.1,n.2.2.2.2.2.1,())=_ from alV s.e _ _ V ax];refine(b3 rfl).trans ?_;have hl:=N? s.e n.2.2.2.2.1 n.2.2.2.2.2.1;generalize n5 s.e n.2.2.2.2.1 n.2.2.2.2.2.1=k at hl;dsimp only;rw[alt _ V];refine(b3 rfl).trans ?_;rw[pM];by_cases ac:zL k=n.2.2.2.2.2.2.1
 .rw[aD<|not_not_intro ac,At ac]
  by_cases av:n.2.2.2.2.1=s.e.ring.1.1
  .rw[aH av]
   refine(bj<|ck av).trans ?_;exact(bs<|RA hs hm n 0).trans rfl
  rw[aD av];refine(bf<|cc av).trans ?_;by_cases aJ:s.e.ph=4
  .rw[aH aJ]
   refine(bj<|ck aJ).trans ?_;refine(b3 rfl).trans ?_;rw[aas];by_cases bv:(lU (yz s.e.ring) n.2.2.2.2.1 k).2.1=0
   .rw[aH bv]
    refine(bf<|eI bv).trans ?_;exact(bs<|RA (CA hs<|C2 (Ll hs.e.ring) n.2.2.2.2.1 k) hm n 0).trans rfl
   exact aOy
  rw[aD aJ];refine(bf<|cc aJ).trans ?_;rw[aas];by_cases bv:(lU s.e.ring n.2.2.2.2.1 k).2.1=0
  .rw[aH bv]
   refine(bf<|eI bv).trans ?_;exact(bs<|RA (ZH hs<|C2 hs.e.ring n.2.2.2.2.1 k) hm n 0).trans rfl
  exact aOy
 rw[aH ac,C? ac];exact(bs<|RA hs hm n 63).trans rfl
instance (a:go) (c s:O):hu<|nc a c s:=by unfold nc;infer_instance
def vv(s:aU)(n:eb):aU:=
 if ¬s.e.ph=4\/¬nc s.e.ask n.2.1 n.2.2.1 then fZ s 3
 else if ¬n.2.2.2.1=0 then p? s
 else lA ⟨S7 s.e (wL s.e.ring).1,s.p⟩<|oH 301
def aFw{s:aU}(hs:bJ m s)(hm:m<=1000000000000)(n:eb):RX (s.t,n,())=J ((vv s n).t,()):=by
 unfold RX vv;refine(b3 (o:=Al _) rfl).trans ?_;refine(b3 (o:=ym _) rfl).trans ?_;rw[show s.t.1.2.2.1=s.e.ph from rfl,show s.t.1.2.2.2.2.2.2.2.2.2.2.2.1=s.e.ask from rfl,Nn];by_cases aJ:s.e.ph=4
 .by_cases bv:nc s.e.ask n.2.1 n.2.2.1
  .rw[aD<|λh=>h.elim (λh=>h aJ)<|λh=>h bv,bS bv,ck aJ]
   by_cases c_:n.2.2.2.1=0
   .rw[aD<|not_not_intro c_]
    refine(bf<|eI c_).trans ?_;rw[aaG aJ];refine(b3 rfl).trans ?_;rw[show(C3 ((({ e:=x' s.e,p:=s.p }:aU).t,()).1.1.2.2.2.2.2.2.2.2.2.2.1,()):au<|eW×O×aj)=_ from amg s.e.ring];exact(bs<|SD (CA hs<|R3 hs.e.ring) hm<|oH 301).trans rfl
   rw[aH c_];refine(bj<|ff c_).trans ?_;exact(bs<|al5 s).trans rfl
  rw[aH<|.inr bv,b1 bv,ck aJ];exact vC s
 rw[aH<|.inl aJ,cc aJ];exact vC s
theorem aE2{s:aU}(hs:bJ m s)(hm:m<=1000000000000)(n:eb):Rw (s.t,n,())=J ((vv s n).t,()):=by
 unfold Rw vv;rw[show s.t.1.2.2.1=s.e.ph from rfl,show s.t.1.2.2.2.2.2.2.2.2.2.2.2.1=s.e.ask from rfl,Q_];by_cases aJ:s.e.ph=4
 .by_cases bv:nc s.e.ask n.2.1 n.2.2.1
  .rw[aD<|λh=>h.elim (λh=>h aJ)<|λh=>h bv,bS bv,ck aJ]
   by_cases c_:n.2.2.2.1=0
   .rw[aD<|not_not_intro c_]
    refine a8 (eI c_) ?_;rw[show(CN (s.t.1.2.2.2.2.2.2.2.2.2.2.1,()):au<|eW×O×aj)=_ from alB s.e.ring<|ame hs.e.ring];exact(bs<|Rs (CA hs<|R3 hs.e.ring) hm<|oH 301).trans rfl
   rw[aH c_];refine bA (ff c_) ?_;unfold p?;rw[aH aJ];rfl
  rw[aH<|.inr bv,b1 bv,ck aJ];exact qs s
 rw[aH<|.inl aJ,cc aJ];exact qs s
theorem aBC(x:hw):cC x=(x.toNat:O):=rfl
theorem Z2(h:k<=63):2^k<=9223372036854775808:=by have:=A9 (show 0<2 by omega) h;omega
def aly(k:R)(aB:k<=63):F6 ((k:O),())=J (u64 ((2^k:R):O),()):=by
 unfold F6;generalize hf:(λ(ae:hw×O×aj)=>(_:au<|aL (hw×O×aj)<|UInt64×aj))=f;have step:∀i:R,i<k->f (u64 ((2^i:R):O),(i:O),())=J (.nx (u64 ((2^(i+1):R):O),((i+1:R):O),())):=by
  intro i ao;subst hf;have ej:i64 (aG (i:O) 1)=((i+1:R):O):=dK rfl V;have hp:=Z2 (k:=i) V;have e:dI (cC<|u64 2) (cC<|u64 ((2^i:R):O))=((2^(i+1):R):O):=by rw[G_];generalize 2^i=m at hp;rw[q' di,q' V];show(2:O)*(m:O)=_;omega
  refine bA b2 ?_;rw[ej,e]
 have dh:∀u,f (u,(k:O),())=J (.ex 0 (u,(k:O),())):=aLM
 have dU:=(gS (f:=f) (λi=>(u64 ((2^i:R):O),(i:O),())) k step 0<|ea _).trans<|dr<|dh _;refine(cE<|dU).trans ?_;rfl
def gW(w:gx)(p:R):aE:=(ap w.2.1 (p/64)<|u64 0).toNat/2^(p%64)%2==1
def alx(w:gx)(bR:T w.2.1=16)(p:R)(hp:p<1024):KT (w,(p:O),())=J (gW w p,()):=by
 unfold KT gW;have e1:i64 (de (p:O) 64)=((p/64:R):O):=by rw[g31 V];exact dK rfl V
 have bh:cY (p:O) 64=((p%64:R):O):=aL6
 rw[e1,bh];refine a7 b2 ?_;rw[aly _ V];refine aW rfl ?_;have bD:=Z2 (k:=p%64) V;have Jj:0<2^(p%64):=Uc V;generalize 2^(p%64)=m at bD Jj ⊢;have ei:cC (u64 (m:O))=(m:O):=q' V;rw[ei];refine a7 b2 ?_;rw[eO];generalize ap w.2.1 (p/64) (u64 0)=x;have hx:=x.toNat_lt;have hQ:de (cC x) (m:O)=((x.toNat/m:R):O):=by rfl
 have ct:x.toNat/m<=x.toNat:=Hl _ _;rw[hQ];generalize x.toNat/m=q at ct ⊢;rw[show cC (u64 (q:O))=(q:O) from q' V,show cC (u64 2)=2 from q' di,show cY (q:O) 2=((q%2:R):O) by rw[g32 V];omega,
  show cC (u64 ((q%2:R):O))=((q%2:R):O) from q' V,show cC (u64 1)=1 from q' di]
 congr 2;unfold am
 grind
def ajU(c:aN):0<=aV c/\aV c<256:=by have:=c.toNat_lt;unfold aV;omega
def aEp(a b:j6):QR (a,b,())=J (D<|a=b,()):=by obtain⟨x,y,z,⟨⟩⟩:=a;obtain⟨wQ,aoY,z',⟨⟩⟩:=b;unfold QR;simp only[go_sem,pM];simp
def azP(h:f8)(Y:T h.1=4)(ac:T h.2.1=4)(av:T h.2.2.1=4):QX (h,h,())=J (af,()):=by
 unfold QX;generalize hf:(λ(ae:aE×O×aj)=>(_:au<|aL (aE×O×aj)<|Bool×aj))=f;have step:∀i:R,i<4->f (ag,(i:O),())=J (.nx (ag,((i+1:R):O),())):=by intro i ao;subst hf;simp(disch:=omega) only[go_sem,aEp]
 have dh:f (ag,((4:R):O),())=J (.ex 0 (ag,((4:R):O),())):=by subst hf;exact bf rfl
 have dU:=(gS (f:=f) (λi=>(ag,(i:O),())) 4 step 0<|ea _).trans<|dr dh;refine(cE<|dU).trans ?_;exact aLQ
def acz:=@List.zip_cons_cons
theorem t8(a:O):am a a=af:=ck rfl
def So(a:ai):seq a a=af:=At rfl
def aFZ(q:ab ai)(bD:T q<=1050000000000):Qy (q,q,())=J (af,()):=by
 unfold Qy;rw[t8];generalize hf:(λ(ae:aE×O×aj)=>(_:au<|aL (aE×O×aj)<|Bool×aj))=f;have step:∀i:R,i<T q->f (ag,(i:O),())=J (.nx (ag,((i+1:R):O),())):=by intro i ao;subst hf;have ej:i64 (aG (i:O) 1)=((i+1:R):O):=dK rfl V;refine bA b2<|a7 b2<|a7 b2 ?_;rw[ej,So];rfl
 exact IT
def aGt(q:ab qM)(bD:T q<=1050000000000):Rj (q,q,())=J (af,()):=by
 unfold Rj;rw[t8];generalize hf:(λ(ae:aE×O×aj)=>(_:au<|aL (aE×O×aj)<|Bool×aj))=f;have step:∀i:R,i<T q->f (ag,(i:O),())=J (.nx (ag,((i+1:R):O),())):=by intro i ao;subst hf;have ej:i64 (aG (i:O) 1)=((i+1:R):O):=dK rfl V;have aA:aO (i:O) (len q)=af:=b2;refine bA b2<|a7 aA<|a7 aA ?_;rw[ej,t8,aA];rw[pM,So];rfl
 exact IT
def agj(q:ab tZ)(bD:T q<=1050000000000):K6 (q,q,())=J (af,()):=by
 unfold K6;rw[t8];generalize hf:(λ(ae:aE×O×aj)=>(_:au<|aL (aE×O×aj)<|Bool×aj))=f;have step:∀i:R,i<T q->f (ag,(i:O),())=J (.nx (ag,((i+1:R):O),())):=by intro i ao;subst hf;have ej:i64 (aG (i:O) 1)=((i+1:R):O):=dK rfl V;have aA:aO (i:O) (len q)=af:=b2;refine bA b2<|a7 aA<|a7 aA ?_;rw[ej,aA];rw[t8,t8,t8,t8,pM,So];rfl
 exact IT
def acY:∀l:ab hw,p2 (λ(p q:hw)=>am (cC p)<|cC q) l l=af
 |[]=>rfl
 |a::l=>by
  have ih:=acY l
  grind [p2,List.zip_cons_cons,t8]
def acZ:∀l:ab O,p2 (λ(p q:O)=>am p q) l l=af
 |[]=>rfl
 |a::l=>by
  have ih:=acZ l
  grind [p2,List.zip_cons_cons,t8]
def aGn{e:ew}(h:sn n e)(ax:n<=1050000000000):Rh (e.t,e.t,())=J (af,()):=by unfold Rh;rw[aEF];rw[aEA];rw[aEI];have bD:=h.queue;have bg:=h.bV;have hg:=h.got;rw[show e.t.2.2.2.2.2.2.2.2.2.2.2.2.2.2.1=e.queue from rfl,aFZ e.queue V];rw[show e.t.2.2.2.2.2.2.2.2.2.2.2.2.2.2.2.1=e.hub from rfl,azP e.hub h.up h.feed h.life];rw[show e.t.2.2.2.2.2.2.2.2.2.2.2.2.2.2.2.2.1=e.bV from rfl,aGt e.bV V];rw[show e.t.2.2.2.2.2.2.2.2.2.2.2.2.2.2.2.2.2.1=e.got from rfl,agj e.got V];rw[pM,So,acY,acZ];simp only[t8];rfl
def gu(b:ai)(a w:O):O:=if(lD b a w).2.2.1=0 then(lD b a w).1 else -1
def Gb(b:ai)(a w:O)(ak:T b<=1000000):yi (b,a,w,())=J (gu b a w,()):=by
 unfold yi gu;rw[alp _ _ _ ak];by_cases h:(lD b a w).2.2.1=0
 .rw[aH h];exact bf<|eI h
 exact aLE
def sj:d6:=(0,0,[0,0],0,0,[],[],())
def tF(b:ai):d6:=(gu b 0 1,gu b 1 1,[gu b 2 8,gu b 10 8],gu b 18 4,gu b 22 8,(b.drop 30).take<|List.length b-46,b.drop<|List.length b-16,())
instance (v:d6):hu<|rg v:=by unfold rg;infer_instance
instance (v:d6):hu<|ng v:=by unfold ng;infer_instance
def eo(b:ai):d6×O×aj:=if T b<47 then(sj,3,()) else if 946<T b then(sj,4,()) else if ng (tF b) then(tF b,0,()) else(sj,2,())
def alC(b:ai)(ak:T b<=1000000):Q4 (b,())=J (eo b):=by
 unfold Q4 eo;by_cases Y:T b<47
 .rw[aH Y];exact bj b2
 rw[aD Y];refine a8 b2 ?_;by_cases ac:946<T b
 .rw[aH ac];exact bj b2
 rw[aD ac];refine a8 b2 ?_;rw[Gb _ _ _ ak];rw[Gb _ _ _ ak];rw[Gb _ _ _ ak];rw[Gb _ _ _ ak];rw[Gb _ _ _ ak];rw[Gb _ _ _ ak];have e:i64 (bw (len b) 16)=((T b-16:R):O):=dK aOz V;rw[e];refine a7 b2<|a7 b2 ?_;have bX:sub b 30 ((T b-16:R):O)=(b.drop 30).take (T b-46):=by rfl
 have aT:sub b ((T b-16:R):O) (len b)=b.drop (T b-16):=aMk
 rw[bX,aT,show F? ((gu b 0 1,gu b 1 1,[gu b 2 8,gu b 10 8],gu b 18 4,gu b 22 8,(b.drop 30).take<|List.length b-46,b.drop<|List.length b-16,()),())=_ from alD<|tF b];by_cases h:ng<|tF b
 .exact aNc
 exact aL7
def aA9{σ ρ:Type}{f:σ->au (aL σ ρ)}(P:R->σ->Prop)(Q:σ->Prop)(n e:R)(hs:∀i,i<n->∀x,P i x->∃y,f x=J (.nx y)/\P (i+1) y)(aX:∀x,P n x->∃y,f x=J (.ex e y)/\Q y){x:σ}(aC:P 0 x):∃y,bG f x=J (.ex e y)/\Q y:=by
 have key:∀k i x,i+k=n->P i x->∃y,bG f x=J (.ex e y)/\Q y:=by
  intro k;induction k with
  |zero=>
   grind [dr]
  |succ k ih=>
   grind [dT]
 exact key n 0 x V aC
def ai9{i:O}(h:i=0\/i=1):i64 (bw 1 i)=1-i:=fF (by show -9223372036854775808<=1-i;omega) (by show 1-i<=9223372036854775807;omega)
def r1(r:ew)(g:O):eW:=if r.ring.2.2.1.1=g/\¬r.ph=4 then(wL r.ring).1 else r.ring
def qg(s:aU)(p:O):aU:=⟨Ci s.e p,s.p⟩
theorem LH{s:aU}(hs:bJ n s)(ax:n<=1000000000000)(p:O):uY (s.t,p,())=J ((qg s p).t,()):=by unfold uY;have hg:=hs.e.got;rw[show Cg (s.t.1,p,())=_ from ajk s.e p V];rfl
theorem Gi{s:aU}(hs:bJ n s)(ax:n<=1000000000000)(p:O):yl (s.t,p,())=J ((qg s p).t,()):=by unfold yl;have hg:=hs.e.got;rw[show CR (s.t.1,p,())=_ from alO s.e p V];rfl
def PH(e:ew)(p:O):(Ci e p).got.length<=T e.got+1:=by
 show T (if i1 e.ph then e.got++[(5,hk e,0,[],())]else e.got)<=_
 grind
theorem z1{s:aU}(h:bJ n s){p:O}(aC:0<=p)(cH:p<=8):bJ (n+1)<|qg s p:=by refine⟨{ FG h.e (Na n) with ph:=⟨aC,cH⟩,own:=aLu,oth:=aLu,seq:=aLu,ring:=.inl rfl,got := ?_,win:=rfl,queue:=aK4,top:=⟨aLg,aPh⟩,askr:=.inl rfl },yT h.p⟩;have Y:=PH s.e p;have ac:=h.e.got;exact i6 Y V
def Yf:f8:=([ag,ag,ag,ag],[iG,iG,iG,iG],[0,0,0,0],0,())
def HY(e:ew):ew:=⟨e.id,e.key,8,e.store, -1,0,0,0,0,wa,oZ,mi,0,0,[],Yf,[],(Ci e 8).got,[0,0,0,0]⟩
def oJ(s:aU):aU:=if s.e.ph=8 then s else⟨HY s.e,s.p⟩
def anu{s:aU}(hs:bJ n s)(ax:n<=1000000000000):GC (s.t,())=J ((oJ s).t,()):=by
 unfold GC oJ;have hg:=hs.e.got;by_cases h:s.e.ph=8
 .rw[aH h];exact bj<|ck h
 rw[aD h];refine a8 (cc h) ?_;rw[show Cg (s.t.1,8,())=_ from ajk s.e 8 V];rfl
def alQ{s:aU}(hs:bJ n s)(ax:n<=1000000000000):Gg (s.t,())=J ((oJ s).t,()):=by
 unfold Gg oJ;have hg:=hs.e.got;by_cases h:s.e.ph=8
 .rw[aH h];exact bj<|ck h
 rw[aD h];refine a8 (cc h) ?_;rw[show CR (s.t.1,8,())=_ from alO s.e 8 V];rfl
def aiC(c:R):la<|ap Yf.2.1 c iG:=by
 match c with
 |0=>exact Ar
 |1=>exact Ar
 |2=>exact Ar
 |3=>exact Ar
 |c+4=>exact Ar
def akq{s:aU}(h:bJ n s):bJ (n+1)<|oJ s:=by
 unfold oJ;split
 .grind [fi]
 have Y:=PH s.e 8;have ac:=h.e.got;exact⟨{
  id:=h.e.id
  key:=h.e.key
  ph:=⟨by show(0:O)<=8;omega,by show(8:O)<=8;omega⟩
  store:=h.e.store
  own:=aLu
  oth:=aLu
  seq:=aLu
  ring:=.inl rfl
  up:=rfl
  next:=⟨by show(0:O)<=0;omega,by show(0:O)<4;omega⟩
  bV:=ea _
  got:=i6 Y V
  ec:=rfl
  win:=rfl
  feed:=rfl
  life:=rfl
  queue:=aK4
  top:=⟨aLg,aPh⟩
  fd:=aiC
  askr:=.inl rfl
  outs:=λx hx=>by cases hx },yT h.p⟩
def GK(s:aU)(t:nu):aU:=⟨{ s.e with store:=t },s.p⟩
def abf(s:aU)(t:nu):aU:=⟨{ s.e with store:=t,power := -1 },s.p⟩
def abG(s:nu)(c:O):nV s c=(s,0,12,())\/nV s c=(s,0,10,())\/(∃t,nV s c=(t,0,11,())/\(uT s->uT t))\/∃t,nV s c=(t,(jR s).1,0,())/\(uT s->uT t):=by
 have key:uT s->uT (if(jR s).2.1=0 then(s.1,Cd (jR s).1 c s.2.1,()) else(Cd (jR s).1 c s.1,s.2.1,())):=by
  intro h;have hl:∀o:ai,T o=16->T (Cd (jR s).1 c o)=16:=by intro o bg;have hm:=Y3 c;unfold Cd;rw[d7,jl,dV,Ky,bg];omega
  split
  .exact⟨h.1,hl _ h.2⟩
  exact⟨hl _ h.1,h.2⟩
 unfold nV;split
 .exact aKB
 split
 .exact .inr (.inl rfl)
 dsimp only;split
 .exact .inr (.inr<|.inl ⟨_,rfl,key⟩)
 exact .inr<|.inr (.inr ⟨_,rfl,key⟩)
def fN(s:aU):aU×O×O:=
 if(nV s.e.store s.e.power).2.2.1=0 then(abf s (nV s.e.store s.e.power).1,(nV s.e.store s.e.power).2.1,0)
 else if(nV s.e.store s.e.power).2.2.1=11 then(oJ<|GK s (nV s.e.store s.e.power).1,0,11)
 else(s,0,(nV s.e.store s.e.power).2.2.1)
def ZE{s:aU}(h:bJ n s){t:nu}(ht:uT t):bJ n<|GK s t:=⟨{ h.e with store:=ht },h.p⟩
def aCu{s:aU}(h:bJ n s){t:nu}(ht:uT t):bJ n<|abf s t:=⟨{ h.e with store:=ht },h.p⟩
theorem x8{s:aU}(h:bJ n s):bJ (n+1) (fN s).1:=by
 unfold fN;rcases abG s.e.store s.e.power with e|e|⟨t,e,ht⟩|⟨t,e,ht⟩
 .grind [fi]
 .grind [fi]
 .rw[e];exact akq<|ZE h (ht h.e.store)
 rw[e];exact fi (aCu h<|ht h.e.store)<|Na n
def anw{s:aU}(hs:bJ n s)(ax:n<=1000000000000):LF (s.t,())=J ((fN s).1.t,(fN s).2.1,(fN s).2.2,()):=by
 unfold LF fN;rw[show s.t.1.2.2.2.1=s.e.store from rfl,show s.t.1.2.2.2.2.1=s.e.power from rfl,aGZ _ _ hs.e.store];rcases abG s.e.store s.e.power with e|e|⟨t,e,ht⟩|⟨t,e,ht⟩
 .rw[e];rfl
 .rw[e];rfl
 .rw[e]
  refine aW rfl<|a8 rfl<|bA rfl ?_;rw[show GC (((s.t.1.1,s.t.1.2.1,s.t.1.2.2.1,t,s.t.1.2.2.2.2),s.t.2),())=_ from anu (ZE hs<|ht hs.e.store) ax];rfl
 rw[e];rfl
def alS{s:aU}(hs:bJ n s)(ax:n<=1000000000000):K8 (s.t,())=J ((fN s).1.t,(fN s).2.1,(fN s).2.2,()):=by
 unfold K8 fN;dsimp only;rw[show s.t.1.2.2.2.1=s.e.store from rfl,show s.t.1.2.2.2.2.1=s.e.power from rfl,aEG _ _ hs.e.store];rcases abG s.e.store s.e.power with e|e|⟨t,e,ht⟩|⟨t,e,ht⟩
 .rw[e];rfl
 .rw[e];rfl
 .rw[e]
  refine aW rfl<|bA rfl ?_;rw[show Gg (((s.t.1.1,s.t.1.2.1,s.t.1.2.2.1,t,s.t.1.2.2.2.2),s.t.2),())=_ from alQ (ZE hs<|ht hs.e.store) ax];rfl
 rw[e];rfl
def Qi(s:aU)(n:O):aU:=⟨{ s.e with own:=n },s.p⟩
def pJ(s:aU):aU×O:=
 if s.e.ph=7\/s.e.ph=8 then(s,11)
 else if ¬(fN s).2.2=0 then((fN s).1,(fN s).2.2)
 else(lA (Qi (qg (fN s).1 1) (fN s).2.1)<|oH 1,0)
def avM{s:aU}(aC:(fN s).2.2=0):(jR s.e.store).2.2.1=af/\(fN s).2.1=(jR s.e.store).1:=by
 grind [fN,nV]
def aCr{s:aU}(h:bJ n s){k:O}(aB:dv k):bJ n<|Qi s k:=⟨{ h.e with own:=aB },h.p⟩
def On{s:aU}(aC:(fN s).2.2=0):dv (fN s).2.1:=by
 obtain⟨Y,ac⟩:=avM aC;have av:=UD Y
 grind [dv]
theorem ZB{s:aU}(hs:bJ n s)(aC:(fN s).2.2=0):bJ (n+2)<|Qi (qg (fN s).1 1) (fN s).2.1:=aCr (z1 (x8 hs) V V)<|On aC
theorem aku{s:aU}(hs:bJ n s):bJ (n+3) (pJ s).1:=by
 grind [pJ,fi,x8,Cz,ZB]
def anv{s:aU}(hs:bJ n s)(ax:n<=999999000000):LE (s.t,())=J ((pJ s).1.t,(pJ s).2,()):=by
 unfold LE pJ;rw[show s.t.1.2.2.1=s.e.ph from rfl];by_cases Y:s.e.ph=7\/s.e.ph=8
 .rw[aH Y]
  rcases Y with h|h<;>rw[h]<;>rfl
 rw[aD Y];simp at Y;refine aW (a:=(ag,())) ?_<|a8 rfl ?_
 .rw[cc Y.1,cc Y.2];rfl
 rw[anw hs V];by_cases ac:(fN s).2.2=0
 .rw[aD<|not_not_intro ac]
  refine a8 (eI ac) ?_;rw[LH (x8 hs) V];exact(bs<|SG (ZB hs ac) V 1).trans rfl
 rw[aH ac];exact bj<|ff ac
def alR{s:aU}(hs:bJ n s)(ax:n<=999999000000):Gh (s.t,())=J ((pJ s).1.t,(pJ s).2,()):=by
 unfold Gh pJ;rw[show s.t.1.2.2.1=s.e.ph from rfl];by_cases Y:s.e.ph=7\/s.e.ph=8
 .rw[aH Y]
  rcases Y with h|h<;>rw[h]<;>rfl
 rw[aD Y];simp at Y;refine aW (a:=(ag,())) ?_<|a8 rfl ?_
 .rw[cc Y.1,cc Y.2];rfl
 rw[alS hs V];by_cases ac:(fN s).2.2=0
 .rw[aD<|not_not_intro ac]
  refine a8 (eI ac) ?_;rw[Gi (x8 hs) V];exact(bs<|Ru (ZB hs ac) V 1).trans rfl
 rw[aH ac];exact bj<|ff ac
def Kl{s:aU}(h:bJ n s):s.e.ph=0\/s.e.ph=1\/s.e.ph=2\/s.e.ph=3\/s.e.ph=4\/s.e.ph=5\/s.e.ph=6\/s.e.ph=7\/s.e.ph=8:=by have:=h.e.ph;omega
def VU(s:aU):aU:=⟨{ s.e with ph:=6,ring:=yz s.e.ring,queue:=[] },s.p⟩
theorem Zv{s:aU}(h:bJ n s):bJ n<|VU s:=⟨{ h.e with ph:=⟨by show(0:O)<=6;omega,by show(6:O)<=8;omega⟩,ring:=Ll h.e.ring,queue:=aK4},h.p⟩
def s1(s:aU):aU×O:=
 if s.e.ph=0\/s.e.ph=7\/s.e.ph=8 then(s,7) else if s.e.ph=6 then(s,9) else if s.e.ph=1\/s.e.ph=2 then(qg s 0,0) else(lA (VU s)<|oH 2,0)
def aCe{s:aU}(h:bJ n s):bJ (n+1) (s1 s).1:=by
 grind [s1,fi,z1,Cz,Zv]
def aGN{s:aU}(hs:bJ n s)(ax:n<=1000000000000):SC (s.t,())=J ((s1 s).1.t,(s1 s).2,()):=by
 have hl:=LH hs ax 0;have bD:=SG (Zv hs) ax 2;have hp:=Kl hs;unfold SC s1;rw[show s.t.1.2.2.1=s.e.ph from rfl];rcases hp with h|h|h|h|h|h|h|h|h<;>rw[h]
 .rfl
 .exact aPG
 .exact aPG
 .exact aKX
 .exact aKX
 .exact aKX
 .rfl
 .rfl
 rfl
def aEZ{s:aU}(hs:bJ n s)(ax:n<=1000000000000):Rr (s.t,())=J ((s1 s).1.t,(s1 s).2,()):=by
 have hl:=Gi hs ax 0;have bD:=Ru (Zv hs) ax 2;have hp:=Kl hs;unfold Rr s1;dsimp only;rw[show s.t.1.2.2.1=s.e.ph from rfl];rcases hp with h|h|h|h|h|h|h|h|h<;>rw[h]
 .rfl
 .exact aPi
 .exact aPi
 .exact aq_
 .exact aq_
 .exact aq_
 .rfl
 .rfl
 rfl
def s8(s:aU):aU×O:=if ¬k4 s.e.ph then(s,7) else if ¬s.e.ask.1=0 then(s,9) else(lA s<|oH 301,0)
def aCk{s:aU}(h:bJ n s):bJ (n+1) (s8 s).1:=by
 grind [s8,fi,Cz]
def aGI{s:aU}(hs:bJ n s)(ax:n<=1000000000000):Sy (s.t,())=J ((s8 s).1.t,(s8 s).2,()):=by
 unfold Sy s8;rw[show s.t.1.2.2.1=s.e.ph from rfl,Km];by_cases ac:k4 s.e.ph
 .rw[bS ac,aD<|not_not_intro ac]
  by_cases av:s.e.ask.1=0
  .rw[aD<|not_not_intro av]
   refine(bf<|eI av).trans ?_;exact(bs<|SG hs ax 301).trans rfl
  rw[aH av];exact bj<|ff av
 exact aOI
def aEU{s:aU}(hs:bJ n s)(ax:n<=1000000000000):Rm (s.t,())=J ((s8 s).1.t,(s8 s).2,()):=by
 unfold Rm s8;dsimp only;rw[show s.t.1.2.2.1=s.e.ph from rfl,K0];refine aW rfl ?_;by_cases ac:k4 s.e.ph
 .rw[bS ac,aD<|not_not_intro ac]
  refine a8 rfl ?_;rw[show s.t.1.2.2.2.2.2.2.2.2.2.2.2.1.1=s.e.ask.1 from rfl];by_cases av:s.e.ask.1=0
  .rw[aD<|not_not_intro av]
   refine a8 (eI av) ?_;exact(bs<|Ru hs ax 301).trans rfl
  rw[aH av];exact bj<|ff av
 exact aOI
def ya(s:aU)(p:O):aU:=⟨{ s.e with ph:=p },s.p⟩
def vz(s:aU):aU:=if s.e.ph=8 then(if(jR s.e.store).2.2.1=af then ya s 0 else ya s 7) else s
theorem Cy{s:aU}(h:bJ n s){p:O}(aC:0<=p)(cH:p<=8):bJ n<|ya s p:=⟨{ h.e with ph:=⟨aC,cH⟩ },h.p⟩
def aCd{s:aU}(h:bJ n s):bJ n<|vz s:=by
 grind [vz,Cy]
def aGH{s:aU}(hs:bJ n s):Sx (s.t,())=J ((vz s).t,()):=by
 have Y:=hs.e.store.1;have ac:=hs.e.store.2;have hp:=Kl hs;unfold Sx vz;rw[show s.t.1.2.2.2.1=s.e.store from rfl,anH _ V V];have x2:ss (s.e.ph,11,())=J (if s.e.ph=8 then(0,af,()) else(s.e.ph,ag,())):=aNA
 have uG:ss (s.e.ph,12,())=J (if s.e.ph=8 then(7,af,()) else(s.e.ph,ag,())):=aNA
 by_cases ak:(jR s.e.store).2.2.1=af
 .refine bA ak ?_
  rw[aH ak];unfold u0;rw[show s.t.1.2.2.1=s.e.ph from rfl,x2];exact aMT
 refine a8 (by grind) ?_;rw[aD ak];unfold u0;rw[show s.t.1.2.2.1=s.e.ph from rfl,uG];exact aMT
def aET{s:aU}(hs:bJ n s):Rl (s.t,())=J ((vz s).t,()):=by
 have Y:=hs.e.store.1;have ac:=hs.e.store.2;unfold Rl vz;dsimp only;rw[show s.t.1.2.2.1=s.e.ph from rfl];by_cases h:s.e.ph=8
 .rw[aH h]
  refine a8 (eI h) ?_;rw[show s.t.1.2.2.2.1=s.e.store from rfl,alF _ V V];refine aW rfl ?_;by_cases ak:(jR s.e.store).2.2.1=af
  .rw[aH ak];exact bj ak
  rw[aD ak];exact bf (by simpa using ak)
 exact aLE
def Ex(s:aU)(k:O):aU:=⟨{ s.e with got:=s.e.got++[(k,hk s.e,0,[],())] },s.p⟩
theorem aks{s:aU}(h:bJ n s)(k:O):bJ (n+1)<|Ex s k:=by
 refine⟨{ FG h.e (Na n) with got := ?_ },yT h.p⟩;have:=h.e.got;show T (s.e.got++[(k,hk s.e,0,[],())])<=n+1
 grind
def anx{s:aU}(hs:bJ n s)(ax:n<=1000000000000)(k:O):LG (s.t,k,())=J ((Ex s k).t,()):=by have hg:=hs.e.got;unfold LG;rw[show s.t.1.2.2.2.2.2.2.2.2.2.2.2.2.2.2.2.2.2.1=s.e.got from rfl,N6];rw[show oV (s.t.1,())=_ from zO s.e];refine a7 AT ?_;rfl
def alT{s:aU}(hs:bJ n s)(ax:n<=1000000000000)(k:O):K9 (s.t,k,())=J ((Ex s k).t,()):=by have hg:=hs.e.got;unfold K9;dsimp only;rw[show qm (s.t.1,())=_ from Ah s.e];refine aW rfl ?_;dsimp only;rw[show CQ (s.t.1,k,hk s.e,0,aI aN,())=_ from Rg s.e k (hk s.e) 0 [] V];rfl
def p'(s:aU):aU:=if s.e.ph=2 then Ex (ya s 3) 4 else s
theorem Zy{s:aU}(h:bJ n s):bJ (n+1)<|p' s:=by
 grind [p',aks,Cy,fi]
def aGJ{s:aU}(hs:bJ n s)(ax:n<=1000000000000):Sz (s.t,())=J ((p' s).t,()):=by
 unfold Sz p';by_cases h:s.e.ph=2
 .rw[aH h]
  refine a8 (eI h) ?_;rw[show u0 (s.t,3,())=J ((ya s 3).t,()) by unfold u0;rw[show s.t.1.2.2.1=s.e.ph from rfl,h];rfl]
  exact(bs<|anx (Cy hs (p:=3) V V) ax 4).trans rfl
 exact aLE
def aEV{s:aU}(hs:bJ n s)(ax:n<=1000000000000):Rn (s.t,())=J ((p' s).t,()):=by
 unfold Rn p';dsimp only;rw[show s.t.1.2.2.1=s.e.ph from rfl];by_cases h:s.e.ph=2
 .rw[aH h]
  refine a8 (eI h) ?_;exact(bs<|alT (Cy hs (p:=3) V V) ax 4).trans rfl
 exact aLE
def s?(s:aU):aU:=if s.e.ph=1\/s.e.ph=3\/s.e.ph=6 then qg s 0 else s
theorem aCm{s:aU}(h:bJ n s):bJ (n+1)<|s? s:=by
 grind [s?,z1,fi]
def aGK{s:aU}(hs:bJ n s)(ax:n<=1000000000000):SA (s.t,())=J ((s? s).t,()):=by
 have hl:=LH hs ax 0;have hp:=Kl hs;unfold SA s?;rw[show s.t.1.2.2.1=s.e.ph from rfl];rcases hp with h|h|h|h|h|h|h|h|h<;>rw[h]
 .rfl
 .refine bA rfl (bA rfl ?_)
  exact aK_
 .rfl
 .refine a8 rfl (bA rfl<|bA rfl ?_)
  exact aK_
 .rfl
 .rfl
 .refine a8 rfl (a8 rfl<|bA rfl ?_)
  exact aK_
 .rfl
 rfl
def aEW{s:aU}(hs:bJ n s)(ax:n<=1000000000000):Ro (s.t,())=J ((s? s).t,()):=by
 have hl:=Gi hs ax 0;have hp:=Kl hs;unfold Ro s?;rw[show s.t.1.2.2.1=s.e.ph from rfl];rcases hp with h|h|h|h|h|h|h|h|h<;>rw[h]
 .rfl
 .exact aPl
 .rfl
 .exact aPl
 .rfl
 .rfl
 .exact aPl
 .rfl
 rfl
theorem LJ(s:aU):uZ (s.t,())=J ((fZ s 3).t,()):=by exact(bs<|YJ s).trans rfl
def aGQ{s:aU}(hs:bJ n s)(ax:n<=1000000000000)(q:eb):LI (s.t,q,())=J ((gs s<|kV q 0).1.t,()):=by unfold LI;dsimp only;rw[P2];refine aW rfl ?_;rw[P3];refine aW rfl ?_;exact(bs<|zP hs ax<|kV q 0).trans rfl
def afp(s:aU):aU:=⟨{ s.e with ask:=mi },s.p⟩
def wb(s:aU)(n:eb):aU:=
 if n.1=af then(if n.2.1=301 then(gs s<|kV n 0).1 else if n.2.1=2 then qg (gs s<|kV n 0).1 0 else fZ s 3)
 else if nc s.e.ask n.2.1 n.2.2.1 then(if n.2.1=301 then afp s else if n.2.1=2 then qg s 0 else fZ s 3) else fZ s 3
theorem aCp{s:aU}(h:bJ m s)(n:eb):bJ (m+2)<|wb s n:=by
 unfold wb;split
 .grind [fi,sp,z1,rd]
 split
 .split
  .exact⟨FG (n:=m) { h.e with askr:=.inl rfl } V,i6 h.p V⟩
  grind [fi,z1,rd]
 grind [fi,rd]
def aGM{s:aU}(hs:bJ m s)(hm:m<=999999000000)(n:eb):SB (s.t,n,())=J ((wb s n).t,()):=by
 have eU:(ob (uZ (s.t,())) λ(a:eK×aj)=>(J (a.1,()):au<|eK×aj))=J ((fZ s 3).t,()):=(bs<|LJ s).trans rfl;have azu:=aGQ hs V n;have fa:=sp hs<|kV n 0;unfold SB wb;rw[show s.t.1.2.2.2.2.2.2.2.2.2.2.2.1=s.e.ask from rfl,Nn];by_cases Y:n.2.1=301
 .refine bA (ck Y) ?_
  cases bD:n.1
  .rw[ Y]
   by_cases hm:nc s.e.ask 301 n.2.2.1
   .rw[bS hm,aH hm];rfl
   rw[b1 hm,aD hm];exact a8 rfl eU
  rw[ aH Y];exact bA rfl<|(bs azu).trans rfl
 grind [bf,cc,bj,ck,b3,bS,LH,b1]
theorem aEY{s:aU}(hs:bJ m s)(hm:m<=999999000000)(n:eb):Rq (s.t,n,())=J ((wb s n).t,()):=by
 have eU:(ob (o1 (s.t,())) λ(a:eK×aj)=>(J (a.1,()):au<|eK×aj))=J ((fZ s 3).t,()):=qs s;have fa:=sp hs<|kV n 0;have aIW:=yj hs V<|kV n 0;unfold Rq wb;rw[show s.t.1.2.2.2.2.2.2.2.2.2.2.2.1=s.e.ask from rfl,Q_];refine aW rfl ?_;cases bD:n.1
 .rw[aD di]
  refine aW (a:=(ag,())) rfl<|a8 rfl<|aW (a:=(ag,())) rfl<|a8 rfl ?_;by_cases hm:nc s.e.ask n.2.1 n.2.2.1
  .rw[bS hm,aH hm]
   by_cases Y:n.2.1=301
   .rw[aH Y]
    refine aW (a:=(af,())) (by rw[ck Y];rfl)<|bA rfl ?_;rfl
   rw[aD Y];refine aW (a:=(ag,())) (by rw[cc Y];rfl)<|a8 rfl ?_;by_cases ac:n.2.1=2
   .rw[aH ac]
    refine aW (a:=(af,())) (by rw[ck ac];rfl)<|bA rfl ?_;exact(bs<|Gi hs V 0).trans rfl
   rw[aD ac];refine aW (a:=(ag,())) (by rw[cc ac];rfl)<|a8 rfl ?_;exact eU
  rw[b1 hm,aD hm];exact eU
 rw[aH rfl];by_cases Y:n.2.1=301
 .grind [b3,ck,bj,K7]
 rw[aD Y];refine aW (a:=(ag,())) (by rw[cc Y];rfl)<|a8 rfl ?_;by_cases ac:n.2.1=2
 .grind [b3,ck,bj,K7,Gi]
 rw[aD ac];refine aW (a:=(ag,())) (by rw[cc ac];rfl)<|a8 rfl<|aW (a:=(ag,())) rfl<|a8 rfl<|aW (a:=(ag,())) rfl<|a8 rfl ?_;exact eU
theorem aFJ{x:ai}(hx:T x=32):mI ((1,x,()),kg,kg,0,1,()):=by
 refine .inr ⟨⟨?_,?_,hx⟩,?_,?_,?_,.inl ⟨rfl,rfl⟩,.inl rfl⟩
 .show(1:O)<=1;omega
 .show(1:O)<=2147483647;omega
 .show(1:O)<=2147483647;omega
 .show(1:O)<=1;omega
 show(0:O)<=1;omega
def JX(e:ew)(own oth:O):ew:={ e with own:=own,oth:=oth,seen:=dk e.seen oth,ring:=(Cn<|Cb e.key (hk { e with own:=own,oth:=oth }) 1 []).1 }
def x0(s:aU)(own oth:O):aU:=⟨JX s.e own oth,s.p⟩
def aFI(k:ai):mI (Cn k).1:=by
 unfold Cn;split
 .grind [aFJ]
 exact aKB
def FH{s:aU}(h:bJ n s)(b6:dv a)(ak:dv b):bJ n<|x0 s a b:=⟨{ h.e with own:=b6,oth:=ak,ring:=aFI _ },h.p⟩
theorem anz{s:aU}(hs:bJ n s)(a b:O):GE (s.t,a,b,())=J ((x0 s a b).t,()):=by have aB:=hs.e.key;unfold GE;rw[show oV ((s.t.1.1,s.t.1.2.1,s.t.1.2.2.1,s.t.1.2.2.2.1,s.t.1.2.2.2.2.1,a,b,dk s.t.1.2.2.2.2.2.2.2.1 b,s.t.1.2.2.2.2.2.2.2.2),())=_ from zO { s.e with own:=a,oth:=b,seen:=dk s.e.seen b }];refine aW rfl ?_;rw[show Cf (s.t.1.2.1,hk { s.e with own:=a,oth:=b,seen:=dk s.e.seen b },1,aI aN,())=_ from ajj s.e.key (hk { s.e with own:=a,oth:=b,seen:=dk s.e.seen b }) 1 [] V bP];refine aW rfl ?_;rw[aFM];rfl
theorem anA{s:aU}(hs:bJ n s)(ax:n<=1000000000000)(q:eb)(x:O):LK (s.t,q,x,())=J ((nU s x<|kV q 0).1.t,()):=by
 grind [LK,P2,b3,P3,YK,kV]
def Qf(s:aU)(x:O):aU:=Ex ⟨{ JX s.e s.e.own x with ph:=3,ask:=mi },s.p⟩ 4
theorem ZC{s:aU}(h:bJ n s)(hx:dv x):bJ (n+1)<|Qf s x:=by have Y:=FH h h.e.own hx;exact aks (s:=⟨{ JX s.e s.e.own x with ph:=3,ask:=mi },s.p⟩) ⟨{ Y.e with askr:=.inl rfl,ph:=⟨aLX,aPf⟩ },Y.p⟩ 4
def aGO{s:aU}(hs:bJ n s)(ax:n<=999999000000)(Y:s.e.ph=1)(hx:dv x):SE (s.t,x,())=J ((lA (Qf s x)<|oH 301).t,()):=by
 have hm:=FH hs hs.e.own hx;have bg:=ZC hs hx;unfold SE;rw[show GE (s.t,s.t.1.2.2.2.2.2.1,x,())=_ from anz hs s.e.own x];refine(b3 rfl).trans ?_;rw[show u0 ((x0 s s.e.own x).t,1,())=J ((ya (x0 s s.e.own x) 3).t,()) by unfold u0;rw[show(x0 s s.e.own x).t.1.2.2.1=s.e.ph from rfl,Y];rfl]
 have aB:bJ n (⟨{ JX s.e s.e.own x with ph:=3,ask:=mi },s.p⟩:aU):=⟨{ hm.e with askr:=.inl rfl,ph:=⟨aLX,aPf⟩ },hm.p⟩;refine(bs<|anx aB V 4).trans<|(b3 rfl).trans ?_;exact(bs<|SG bg V 301).trans rfl
def rP(s:aU)(q:eb)(x:O):aU:=
 if(s.e.ph=1/\s.e.id=0)\/s.e.ph=7\/s.e.ph=8 then fZ s 3
 else if i1 s.e.ph/\s.e.oth=x then(nU s x<|kV q 0).1
 else if x<=s.e.seen then fZ s 3
 else if(fN s).2.2=0 then(nU (x0 (qg (fN s).1 2) (fN s).2.1 x) x<|kV q 0).1
 else if(fN s).2.2=11 then(fN s).1
 else fZ (fN s).1 3
theorem aGP{s:aU}(hs:bJ n s)(ax:n<=999999000000)(m':dv x)(q:eb):SF (s.t,q,x,())=J ((rP s q x).t,()):=by
 unfold SF rP;rw[show s.t.1.2.2.1=s.e.ph from rfl,LJ];by_cases aC:(s.e.ph=1/\s.e.id=0)\/s.e.ph=7\/s.e.ph=8
 .rw[aH aC]
  refine aW (a:=(af,())) ?_<|bA rfl rfl;by_cases Y:s.e.ph=1
  .refine bA (ck Y) ?_
   have ac:s.e.id=0:=V;exact bj<|ck ac
  grind [bf,cc,bj,ck]
 rw[aD aC];refine aW (a:=(ag,())) ?_<|a8 rfl ?_
 .have eJ:¬s.e.ph=7:=V
  have cH:¬s.e.ph=8:=V;have hC:aa (am s.e.ph 7) (J (af,())) (J (am s.e.ph 8,()))=J (ag,()):=by rw[cc eJ,cc cH];rfl
  by_cases Y:s.e.ph=1
  .have ac:¬s.e.id=0:=V
   exact bA (ck Y)<|a8 (cc ac) hC
  grind [bf,cc]
 rw[Ko];refine aW rfl ?_;by_cases hl:i1 s.e.ph/\s.e.oth=x
 .rw[aH hl]
  refine aW (a:=(af,())) ?_<|bA rfl ?_
  .rw[bS hl.1]
   refine bA rfl ?_;rw[show am s.t.1.2.2.2.2.2.2.1 x=af from ck hl.2]
  exact(bs<|anA hs V q x).trans rfl
 rw[aD hl];refine aW (a:=(ag,())) ?_<|a8 rfl ?_
 .by_cases Y:i1 s.e.ph
  .rw[bS Y]
   refine bA rfl ?_;rw[show am s.t.1.2.2.2.2.2.2.1 x=ag from cc<|λh=>hl ⟨Y,h⟩]
  rw[b1 Y];rfl
 by_cases xO:x<=s.e.seen
 .rw[aH xO]
  exact bA (il<|xO) rfl
 rw[aD xO];refine a8 (jG<|xO) ?_;rw[anw hs V];by_cases aX:(fN s).2.2=0
 .rw[aH aX]
  have Y:=z1 (x8 hs) (p:=2) V V;have ac:=FH Y (On aX) m';refine bA (ck aX) ?_;rw[LH (x8 hs) V]
  grind [b3,anz,anA]
 rw[aD aX];refine a8 (cc aX) ?_;by_cases nA:(fN s).2.2=11
 .grind [bj,ck]
 rw[aD nA];refine a8 (cc nA) ?_;rw[LJ];rfl
theorem Qc{s:aU}(h:bJ n s)(i:R):bJ n<|fZ s i:=⟨{ h.e with ec:=by show T (cA _ _ _)=4;unfold cA;rw[jj];exact h.e.ec },h.p⟩
theorem aCc{s:aU}(h:bJ n s)(q:eb)(hx:dv x):bJ (n+3)<|rP s q x:=by
 have aX:=x8 h;unfold rP;split
 .exact fi (Qc h _) V
 split
 .exact fi (Qb h _ _) V
 split
 .exact fi (Qc h _) V
 split
 .rename_i aC
  exact fi (Qb (FH (z1 aX (p:=2) V V) (On aC) hx) _ _) V
 split
 .exact fi aX V
 exact fi (Qc aX _) V
def tg(s:aU)(v:d6)(q:eb):aU:=
 let x:=ap v.2.2.1 (ah<|1-s.e.id) 0
 let y:=ap v.2.2.1 (ah s.e.id) 0
 if ¬q.2.1=1\/x<1 then fZ s 3
 else if q.1=af/\y=0 then rP s q x
 else if q.1=ag/\q.2.2.2.1=0/\s.e.ph=1/\y=s.e.own/\nc s.e.ask q.2.1 q.2.2.1 then lA (Qf s x) (oH 301)
 else fZ s 3
def aGL{s:aU}(hs:bJ n s)(ax:n<=999999000000){v:d6}(a3:∀i:R,dv<|ap v.2.2.1 i 0)(q:eb):LD (s.t,v,q,())=J ((tg s v q).t,()):=by
 have hid:=hs.e.id;unfold LD tg;rw[show s.t.1.1=s.e.id from rfl,ai9 hid];refine a7 b2<|a7 b2 ?_;have hx:=a3<|ah<|1-s.e.id;have bW:=a3<|ah s.e.id;generalize ap v.2.2.1 (ah<|1-s.e.id) 0=x at hx ⊢;generalize ap v.2.2.1 (ah s.e.id) 0=y at bW ⊢;by_cases Y:¬q.2.1=1\/x<1
 .grind [LJ,b3,bj,bf,cB,ff]
 rw[aD Y];have aA:q.2.1=1:=V;refine aW (a:=(ag,())) ?_<|a8 rfl ?_
 .grind [bf,eI,cm]
 by_cases ac:q.1=af/\y=0
 .grind [b3,bj,ck,aGP]
 rw[aD ac];refine aW (a:=(ag,())) ?_<|a8 rfl ?_
 .cases bD:q.1
  .rfl
  rw[cc<|λh=>ac ⟨bD,h⟩];rfl
 rw[ show s.t.1.2.2.2.2.2.2.2.2.2.2.2.1=s.e.ask from rfl,Nn];by_cases av:q.1=ag/\q.2.2.2.1=0/\s.e.ph=1/\y=s.e.own/\nc s.e.ask q.2.1 q.2.2.1
 .rw[aH av]
  obtain⟨c9,dl,dB,fp,mu⟩:=av;refine aW (a:=(af,())) ?_<|bA rfl ?_
  .refine bA (by rw[c9];rfl) (bA (ck dl)<|bA (ck dB)<|bA (ck fp) ?_)
   rw[bS mu];rfl
  exact(bs<|aGO hs ax dB hx).trans rfl
 rw[aD av,LJ];refine aW (a:=(ag,())) ?_<|a8 rfl rfl;by_cases c9:q.1=ag
 .refine bA (by rw[c9];rfl) ?_
  by_cases dl:q.2.2.2.1=0
  .refine bA (ck dl) ?_
   by_cases dB:s.e.ph=1
   .refine bA (ck dB) ?_
    by_cases fp:y=s.e.own
    .refine bA (ck fp) ?_
     rw[b1<|λh=>av ⟨c9,dl,dB,fp,h⟩];rfl
    exact bf<|cc fp
   exact bf<|cc dB
  exact bf<|cc dl
 refine bf ?_;cases bD:q.1
 .grind
 rfl
theorem aCn{s:aU}(h:bJ n s){v:d6}(a3:∀i:R,dv<|ap v.2.2.1 i 0)(q:eb):bJ (n+3)<|tg s v q:=by
 grind [tg,fi,Qc,aCc,Cz,ZC]
def aFB{l:ab b5}:∀{last:O},last<=128->ip last l=af->(T l:O)<=128-last:=by
 induction l with
 |nil=>intro last h _;simp;omega
 |cons v l ih=>
  intro last h az;have Y:=tH az v<|M3 ..;have ac:=WA Y.2
  grind [ip]
def uR{m:M}(h:iJ m=af):T m.2.1<=128/\ud m:=by have az:=(qo.1 h).1;have hl:=aFB V az;exact⟨V,V,λv a3=>by have:=WC (tH az v a3).2;omega⟩
def Bl(m:O):O:=if h2 m then m/100 else 0
def mN(m:O):Prop:=Bl m=1\/Bl m=2\/Bl m=4
instance (m:O):hu<|mN m:=by unfold mN;infer_instance
def agZ(m:M):Iv (m,())=J (D<|mN m.1,()):=by
 unfold Iv mN;rw[show Jz (m.1,())=J (Bl m.1,()) from aAA m.1];exact ar_
def alX(m:M):K' (m,())=J (D<|mN m.1,()):=by
 unfold K' mN;rw[show KQ (m.1,())=J (Bl m.1,()) from aEi m.1];exact ar_
def o2(m:M):Prop:=(g7 39 m.2.1).2.1=af/\(g7 39 m.2.1).1=[57,49]
instance (m:M):hu<|o2 m:=by unfold o2;infer_instance
theorem am6(g:ai×aE×aj):(ob (aa g.2.1 (J (seq g.1 [57,49],()))<|some (ag,())) λ(a:aE×aj)=>(J (a.1,()):au<|Bool×aj))=J (D<|g.2.1=af/\g.1=[57,49],()):=by
 obtain⟨b,e,⟨⟩⟩:=g;cases e
 .rw[b1<|λh=>MB h.1];rfl
 refine aW rfl ?_;by_cases h:b=[57,49]
 .grind [bS,At]
 grind [b1,C?]
def agY{m:M}(az:ip 0 m.2.1=af)(hl:T m.2.1<=1000000):EJ (m,())=J (D<|o2 m,()):=by
 grind [EJ,o2,Yx,WU,b3,am6]
def alZ{m:M}(hl:T m.2.1<=1000000):La (m,())=J (D<|o2 m,()):=by
 grind [La,o2,QL,b3,am6]
def tJ(m:M)(day:O):M:=(m.1,uX m.2.1 (15,dS day 6,()),())
def HB(b:ai)(day:O):Prop:=day<0\/999999<day\/¬(gc b).2.1=0\/¬mN (gc b).1.1\/o2 (gc b).1
instance (b:ai) (day:O):hu<|HB b day:=by unfold HB;infer_instance
def nj(b:ai)(day:O):ai×O:=
 if HB b day then([],1) else if 900<T (iu<|tJ (gc b).1 day) then([],4) else(iu<|tJ (gc b).1 day,0)
def Wz(day:O):gp 15 (dS day 6)=af:=Bw (no:=15) (w:=6) WF V
def anU{m:M}(h:iJ m=af)(day:O):iJ (tJ m day)=af:=by have Y:=qo.1 h;exact qo.2 ⟨aGx (x:=(15,dS day 6,())) (Wz day) V Y.1,Y.2⟩
def Kv{b:ai}(h:(gc b).2.1=0):iJ (gc b).1=af/\iu (gc b).1=b:=by
 grind [Ku]
def anB{day:O}(aC:0<=day)(Y:day<=999999):vG (day,6,())=J (dS day 6,0,())/\wu (day,6,())=J (dS day 6,0,()):=by rw[Oa _ _ V,Qx _ _ V,aH ⟨V,V,aC,by show day<10^6;omega⟩];exact⟨rfl,rfl⟩
def anV{m:M}(hm:iJ m=af)(day:O){e:O}:(aa (aK 900<|len<|iu<|tJ m day) (J (aI aN,4,())) (J (iu<|tJ m day,0,())):au<|ai×O×aj)=J ((if 900<T (iu<|tJ m day) then(([]:ai),(4:O)) else(iu<|tJ m day,0)).1,(if 900<T (iu<|tJ m day) then(([]:ai),(4:O)) else(iu<|tJ m day,0)).2,()):=by
 by_cases h:900<T (iu<|tJ m day)
 .rw[aH h];exact bj b2
 rw[aD h];exact bf b2
def awE(b:ai)(day:O)(ak:T b<=1000000):OO (b,day,())=J ((nj b day).1,(nj b day).2,()):=by
 unfold OO nj;rw[Yy _ ak];refine aW rfl ?_;dsimp only;by_cases Y:day<0
 .rw[aH<|.inl Y]
  exact aW (bj b2) rfl
 by_cases ac:999999<day
 .rw[aH<|.inr<|.inl ac]
  exact aW (a8 b2<|bj b2) rfl
 by_cases av:(gc b).2.1=0
 .obtain⟨az,bR⟩:=Kv av
  obtain⟨hl,hf⟩:=uR az;have E6:=(qo.1 az).1;rw[agZ,agY E6 V];by_cases aJ:mN (gc b).1.1
  .by_cases bv:o2 (gc b).1
   .rw[aH<|.inr<|.inr<|.inr<|.inr bv,bS aJ,bS bv]
    exact aW (a8 b2<|a8 b2<|a8 (eI av) rfl) rfl
   rw[aD (by rintro(h|h|h|h|h)<;>first|exact Y h|exact ac h|exact h av|exact h aJ|exact bv h),bS aJ,b1 bv];refine aW (a:=(ag,())) (a8 b2<|a8 b2<|a8 (eI av) rfl)<|a8 rfl ?_;rw[(anB V V).1];refine aW rfl<|a7 rfl ?_;rw[show k8 ((gc b).1,15,(dS day 6,(0:O),()).1,())=J (tJ (gc b).1 day,0,()) by rw[Pv _ _ _ V (by rw[vE];omega)];unfold Gx;rw[ aH<|Wz day,aHS E6];rfl]
   refine aW rfl ?_;have hs:=anU az day;rw[Yz _ (uR hs).2,aH hs];exact aW rfl<|anV az day (e:=0)
  rw[aH<|.inr<|.inr<|.inr<|.inl aJ,b1 aJ];exact aW (a8 b2<|a8 b2<|a8 (eI av) rfl) rfl
 rw[aH<|.inr<|.inr<|.inl av];exact aW (a8 b2<|a8 b2<|bj<|ff av) rfl
def aFa(b:ai)(day:O)(ak:T b<=1000000):RG (b,day,())=J ((nj b day).1,(nj b day).2,()):=by
 unfold RG nj;rw[aap _ ak];refine aW rfl ?_;have ayL:(gc b).1.2.1.length<=1000000:=by have:=aab (b:=b);omega
 rw[alX,alZ ayL];refine aW rfl<|aW rfl ?_;by_cases q0:HB b day
 .rw[aH q0]
  refine aW (a:=(af,())) ?_ rfl;simp only[go_sem];refine ru ?_;rcases q0 with h|h|h|h|h<;>simp[h]
 rw[aD q0];unfold HB at q0;simp at q0;obtain⟨Y,ac,av,aJ,bv⟩:=q0;obtain⟨az,bR⟩:=Kv av;obtain⟨hl,hf⟩:=uR az;rw[bS aJ,b1 bv];refine aW (a:=(ag,())) (a8 b2<|a8 b2<|a8 (eI av) rfl)<|a8 rfl ?_;rw[(anB V V).2];refine aW rfl<|a7 rfl ?_;rw[show KS ((gc b).1,15,(dS day 6,(0:O),()).1,())=J (tJ (gc b).1 day,0,()) by rw[aEl _ _ _ V (by rw[vE];omega)];unfold aa0;rw[ aH<|Wz day];rfl]
 refine aW rfl ?_;have hs:=anU az day;rw[QO _ (uR hs).2,aH hs];exact aW rfl<|anV az day (e:=0)
def Id(s:aU)(k n:O)(b:ai):aU:=⟨{ s.e with got:=s.e.got++[(k,hk s.e,n,b,())] },s.p⟩
theorem P'{s:aU}(h:bJ n s)(k q:O)(b:ai):bJ (n+1)<|Id s k q b:=by
 refine⟨{ FG h.e (Na n) with got := ?_ },yT h.p⟩;have:=h.e.got;show T (s.e.got++[(k,hk s.e,q,b,())])<=n+1
 grind
theorem agX{s:aU}(hs:bJ n s)(ax:n<=1000000000000)(k q:O)(b:ai):Iu (s.t,k,q,b,())=J ((Id s k q b).t,()):=by have hg:=hs.e.got;unfold Iu;rw[show s.t.1.2.2.2.2.2.2.2.2.2.2.2.2.2.2.2.2.2.1=s.e.got from rfl,N6];rw[show oV (s.t.1,())=_ from zO s.e];refine a7 AT ?_;rfl
def wh(s:aU)(q:ab ai):aU:=⟨{ s.e with queue:=q },s.p⟩
def Ka{s:aU}(h:bJ n s){q:ab ai}(bD:T q<=8):bJ n<|wh s q:=⟨{ h.e with queue:=bD },h.p⟩
def ri:R->aU->aU
 |0,s=>s
 |n+1,s=>match s.e.queue with
  |[]=>s
  |b::q=>if(gs s b).2=0 then ri n (wh (gs s b).1 q) else s
def rj(s:aU):aU:=ri (T s.e.queue) s
def ak2{f:eK×aj->au (aL (eK×aj)<|eK×aj)}
  (aC:∀s n,bJ n s->n<=1000000000000->s.e.queue=[]->f (s.t,())=J (.ex 0 (s.t,())))
  (Y:∀s n b q,bJ n s->n<=1000000000000->s.e.queue=b::q->(gs s b).2=0->f (s.t,())=J (.nx ((wh (gs s b).1 q).t,())))
  (ac:∀s n b q,bJ n s->n<=1000000000000->s.e.queue=b::q->¬(gs s b).2=0->f (s.t,())=J (.ex 0 (s.t,()))\/f (s.t,())=J (.rt (s.t,()))) :
  ∀k (s:aU) n,bJ n s->n+k<=1000000000000->T s.e.queue=k ->
   b? (bG f (s.t,())) (λ(_:eK×aj)=>aq) (λ(i:R) (a:eK×aj)=>an (bU i 0)<|some (a.1,())) (λ(r:eK×aj)=>J r)=J ((ri k s).t,()):=by
 intro k;induction k with
 |zero =>intro s n hs ax aB;exact(cE<|dr<|aC s n hs V<|mW.1 aB).trans rfl
 |succ k ih=>
  intro s n hs ax aB;obtain⟨b,q,bD⟩:∃b q,s.e.queue=b::q:=by
   cases h:s.e.queue with
   |nil=>rw[h]at aB;cases aB
   |cons b q=>exact⟨b,q,rfl⟩
  have hl:T q=k:=by rw[bD,gd]at aB;omega
  have jY:=hs.e.queue;unfold ri;rw[bD];dsimp only;by_cases h:(gs s b).2=0
  .rw[aH h]
   exact(cE<|dT<|Y s n b q hs V bD h).trans<|ih _ (n+1) (Ka (sp hs b) V) V hl
  rw[aD h];rcases ac s n b q hs V bD h with ce|ce
  .exact(cE<|dr ce).trans rfl
  exact(cE<|oY ce).trans rfl
def aHk{q:ab ai}(h:q=[]):Qt (q,())=J ([],[],ag,()):=by subst h;rfl
def aoc{q r:ab ai}{b:ai}(h:q=b::r)(hl:T q<=1000000):Qt (q,())=J (b,r,af,()):=by subst h;have Jd:T r+1<=1000000:=hl;refine a8 rfl<|a7 aPj<|a7 AT ?_;rw[show sub (b::r) 1 (len<|b::r)=r by simp[sub,len]];refine aW (c3 b2) rfl
def WR{s:aU}(hs:bJ n s)(ax:n<=999999000000):ln (s.t,())=J ((rj s).t,()):=by
 have bD:=hs.e.queue;refine ak2 ?_ ?_ ?_ (T s.e.queue) s n hs V rfl
 .intro s n hs ax h
  exact(bs<|aHk h).trans rfl
 .intro s n b q hs ax h bN
  have bD:=hs.e.queue;refine(bs<|aoc h V).trans<|(b3 rfl).trans<|(bf rfl).trans ?_;refine(bs<|zP hs ax b).trans<|(b3 rfl).trans<|(bf<|eI bN).trans ?_;rfl
 intro s n b q hs ax h bN;have bD:=hs.e.queue;refine .inl<|(bs<|aoc h V).trans ((b3 rfl).trans<|(bf rfl).trans ?_)
 grind [zP,b3,bj,ff]
theorem RF{s:aU}(hs:bJ n s)(ax:n<=999999000000):Ai (s.t,())=J ((rj s).t,()):=by
 have bD:=hs.e.queue;have jI:∀{s:aU} {b:ai} {q:ab ai},s.e.queue=b::q->T s.e.queue<=8->aK 0 (len s.e.queue)=af/\aO 0 (len s.e.queue)=af/\cq 1 (len s.e.queue) (len s.e.queue)=af/\bO 32 (bB (aQ<|aI ai)<|aQ<|sub s.e.queue 1<|len s.e.queue)=af/\ap s.e.queue (ah 0) (aI aN)=b/\bb (aI ai) (sub s.e.queue 1<|len s.e.queue)=q:=by intro s b q h hl;rw[h]at hl ⊢;have Jd:T q+1<=8:=hl;rw[show sub (b::q) 1 (len<|b::q)=q by simp[sub,len]];exact⟨aPj,aPj,AT,b2,rfl,rfl⟩
 refine ak2 ?_ ?_ ?_ (T s.e.queue) s n hs V rfl
 .intro s n hs ax h
  exact bf (by show aK 0 (len s.e.queue)=ag;rw[h];rfl)
 .intro s n b q hs ax h bN
  obtain⟨dN,fC,jd,qj,tA,rf⟩:=jI h hs.e.queue;refine bA dN<|a7 fC ?_;refine aW ((d4 (λb=>ro (s.t,b,())) tA).trans<|yj hs ax b)<|a8 (eI bN)<|a7 jd<|a7 qj ?_;exact d4 (λq=>J<|aL.nx ((wh (gs s b).1 q).t,())) rf
 intro s n b q hs ax h bN;obtain⟨dN,fC,jd,qj,tA,rf⟩:=jI h hs.e.queue;refine .inr<|bA dN<|a7 fC ?_;exact aW ((d4 (λb=>ro (s.t,b,())) tA).trans<|yj hs ax b)<|bj (ff bN)
def akv:∀(k:R) {n:R} {s:aU},bJ n s->bJ (n+k) (ri k s)
 |0,n,s,h=>h
 |k+1,n,s,h=>by
  unfold ri;split
  .grind [fi]
  rename_i b q bD;split
  .have jY:=h.e.queue
   rw[bD,gd]at jY;have:=akv k<|Ka (sp h b) (q:=q) V
   grind
  grind [fi]
theorem Qa{s:aU}(h:bJ n s):bJ (n+1000)<|rj s:=fi (akv _ h) (by have:=h.e.queue;omega)
def nP(q:ab ai)(b:ai):ab ai×O:=if 8<=T q then(q,8) else(q++[b],0)
def aDx(q:ab ai)(b:ai):Qs (q,b,8,())=J ((nP q b).1,(nP q b).2,()):=by
 unfold Qs nP Kt;dsimp only;rw[aD V];by_cases h:8<(T q:O)
 .rw[aH h,aH V];rfl
 rw[aD h];rw[show(8:O).toNat=8 from rfl,List.length_singleton];by_cases cH:T q=8
 .rw[ cH];rfl
 rw[aD V,show min (8-T q) 1=1 by omega,i5<|by grind];rfl
def aEP(q:ab ai)(b:ai)(hl:T q<=1000000):Rf (q,b,8,())=J ((nP q b).1,(nP q b).2,()):=by
 unfold Rf nP;refine aW (a:=(ag,())) rfl<|a8 rfl ?_;by_cases h:8<=T q
 .rw[aH h]
  exact bj b2
 rw[aD h];refine a8 b2<|a7 b2 (a7 AT rfl)
def sB(s:aU)(b:ai):aU×O:=
 if ¬(nj b s.e.day).2=0 then(s,(nj b s.e.day).2) else if ¬k4 s.e.ph then(s,7)
 else if ¬(nP s.e.queue (nj b s.e.day).1).2=0 then(s,(nP s.e.queue (nj b s.e.day).1).2)
 else(rj<|Id (wh s (nP s.e.queue (nj b s.e.day).1).1) 1 0 (nj b s.e.day).1,0)
def Z8{q:ab ai}{b:ai}(h:T q<=8):(nP q b).1.length<=8:=by
 unfold nP
 grind
def aCv{s:aU}(h:bJ n s)(b:ai):bJ (n+1001) (sB s b).1:=by
 unfold sB;split
 .grind [fi]
 split
 .grind [fi]
 split
 .grind [fi]
 exact fi (Qa<|P' (Ka h<|Z8 h.e.queue) _ _ _) V
def awF{s:aU}(hs:bJ n s)(ax:n<=999998000000)(b:ai)(ak:T b<=1000000):OP (s.t,b,())=J ((sB s b).1.t,(sB s b).2,()):=by
 unfold OP sB;refine aW (awE b s.e.day ak) ?_;generalize nj b s.e.day=r;obtain⟨o,e⟩:=r;by_cases aC:e=0
 .subst aC
  refine a8 rfl<|aW (Km s.e.ph) ?_;by_cases hg:k4 s.e.ph
  .rw[aD<|not_not_intro hg]
   refine a8 (by rw[bS hg];rfl)<|aW (aDx s.e.queue o) ?_;have hl:=Z8 (b:=o) hs.e.queue;generalize nP s.e.queue o=p at hl ⊢;obtain⟨q,c⟩:=p;by_cases aA:c=0
   .subst aA
    have Y:=Ka hs hl;refine a8 rfl<|aW (agX Y V 1 0 o) ?_;exact(bs<|WR (P' Y 1 0 o) V).trans rfl
   grind [bj,ff]
  rw[aH hg];exact bj (by rw[b1 hg];rfl)
 grind [bj,ff]
def aFb{s:aU}(hs:bJ n s)(ax:n<=999998000000)(b:ai)(ak:T b<=1000000):RH (s.t,b,())=J ((sB s b).1.t,(sB s b).2,()):=by
 unfold RH sB;refine aW (aFa b s.e.day ak) ?_;generalize nj b s.e.day=r;obtain⟨o,e⟩:=r;dsimp only;by_cases aC:e=0
 .subst aC
  rw[aD bP];refine a8 rfl<|aW (K0 s.e.ph) ?_;by_cases hg:k4 s.e.ph
  .rw[aD<|not_not_intro hg]
   have bD:=hs.e.queue;refine a8 (by rw[bS hg];rfl)<|aW (aEP s.e.queue o V) ?_;have hl:=Z8 (b:=o) hs.e.queue;generalize nP s.e.queue o=p at hl ⊢;obtain⟨q,c⟩:=p;dsimp only at hl ⊢;by_cases aA:c=0
   .subst aA
    rw[aD bP];have Y:=Ka hs hl;have aIL:=Y.e.got;refine a8 rfl<|aW (Ah (wh s q).e) ?_;refine aW (Rg (wh s q).e 1 (hk (wh s q).e) 0 o V) ?_;exact(bs<|RF (P' Y 1 0 o) V).trans rfl
   rw[aH aA];exact bj<|ff aA
  rw[aH hg];exact bj (by rw[b1 hg];rfl)
 exact aM2
def V7(day:O):eb:=(af,201,0,0,0,[],[],day,())
def s4(s:aU)(day:O):aU×O:=
 if day<=s.e.day\/999999<day then(s,1) else if ¬k4 s.e.ph then(s,7) else if ¬s.e.ph=3\/¬s.e.ask.1=0 then(s,9)
 else(lA (ya s 5)<|V7 day,0)
def aCi{s:aU}(h:bJ n s)(day:O):bJ (n+1) (s4 s day).1:=by
 grind [s4,fi,Cz,Cy]
theorem aJf:ss (3,7,())=J (5,af,()):=rfl
theorem aJh:ss (5,8,())=J (3,af,()):=rfl
def awB{s:aU}(hs:bJ n s)(ax:n<=1000000000000)(day:O):OM (s.t,day,())=J ((s4 s day).1.t,(s4 s day).2,()):=by
 unfold OM s4;rw[show s.t.1.2.2.2.2.2.2.2.2.2.2.2.2.2.1=s.e.day from rfl,show s.t.1.2.2.1=s.e.ph from rfl];by_cases Y:day<=s.e.day\/999999<day
 .exact aM3
 rw[aD Y];refine aW (a:=(ag,())) (by simp only[go_sem];exact u1 V)<|a8 rfl ?_;rw[Km];refine aW rfl ?_;by_cases ac:k4 s.e.ph
 .rw[aD<|not_not_intro ac,bS ac]
  by_cases av:¬s.e.ph=3\/¬s.e.ask.1=0
  .exact aMR
  rw[aD av];refine aW (a:=(ag,())) aMO<|a8 rfl ?_;simp at av;rw[av.1];exact(bs<|SD (Cy hs (p:=5) V V) ax<|V7 day).trans rfl
 rw[aH ac,b1 ac];rfl
def aE7{s:aU}(hs:bJ n s)(ax:n<=1000000000000)(day:O):RC (s.t,day,())=J ((s4 s day).1.t,(s4 s day).2,()):=by
 unfold RC s4;rw[show s.t.1.2.2.2.2.2.2.2.2.2.2.2.2.2.1=s.e.day from rfl,show s.t.1.2.2.1=s.e.ph from rfl];by_cases Y:day<=s.e.day\/999999<day
 .exact aM3
 rw[aD Y];refine aW (a:=(ag,())) (by simp only[go_sem];exact u1 V)<|a8 rfl ?_;rw[K0];refine aW rfl ?_;by_cases ac:k4 s.e.ph
 .rw[aD<|not_not_intro ac,bS ac]
  by_cases av:¬s.e.ph=3\/¬s.e.ask.1=0
  .exact aMR
  rw[aD av];refine aW (a:=(ag,())) aMO<|a8 rfl ?_;exact(bs<|Rs (Cy hs (p:=5) V V) ax<|V7 day).trans rfl
 rw[aH ac,b1 ac];rfl
def rY(s:aU):aU:=if s.e.ph=5 then⟨x' s.e,s.p⟩ else s
def WS{s:aU}(h:s.e.ph=5):EI (s.t,())=J ((⟨x' s.e,s.p⟩:aU).t,()):=by unfold EI;rw[show(s.t,()).1.1.2.2.1=5 from h];rfl
def awD(s:aU):ON (s.t,())=J ((rY s).t,()):=by
 unfold ON rY;by_cases h:s.e.ph=5
 .rw[aH h]
  refine a8 (eI h) ?_;exact(bs<|WS h).trans rfl
 exact aLE
def alW(s:aU):K_ (s.t,())=J ((rY s).t,()):=by
 unfold K_ rY;by_cases h:s.e.ph=5
 .rw[aH h]
  exact a8 (eI h) rfl
 exact aLE
def zQ(s:aU)(day:O):aU:=⟨{ s.e with day:=dk s.e.day day },s.p⟩
theorem P?{s:aU}(h:bJ n s)(day:O):bJ n<|zQ s day:=⟨{ h.e with },h.p⟩
def alY(s:aU)(day:O):K? (s.t,day,())=J ((zQ s day).t,()):=by
 unfold K?;rw[show s.t.1.2.2.2.2.2.2.2.2.2.2.2.2.2.1=s.e.day from rfl];by_cases h:s.e.day<day
 .refine bA b2 ?_
  have e:dk s.e.day day=day:=aNz
  have:zQ s day=⟨{ s.e with day:=day },s.p⟩:=by unfold zQ;rw[e]
  rw[this];rfl
 refine a8 b2 ?_;have e:dk s.e.day day=s.e.day:=aNz
 simp_all[zQ]
def N'(s:aU)(n:eb):aU:=(gs (zQ s n.2.2.2.2.2.2.2.1)<|kV n 0).1
theorem aCh{s:aU}(h:bJ m s)(n:eb):bJ (m+1)<|N' s n:=sp (P? h _) _
def awC{s:aU}(hs:bJ m s)(hm:m<=1000000000000)(n:eb):WQ (s.t,n,())=J ((N' s n).t,()):=by exact Hx (P? hs n.2.2.2.2.2.2.2.1) hm n 0
def aE8{s:aU}(hs:bJ m s)(hm:m<=1000000000000)(n:eb):RD (s.t,n,())=J ((N' s n).t,()):=by unfold RD;rw[alY];rw[K7];exact(bs<|yj (P? hs n.2.2.2.2.2.2.2.1) hm<|kV n 0).trans rfl
def vr(s:aU)(n:eb):aU:=
 if ¬s.e.ph=5\/¬nc s.e.ask n.2.1 n.2.2.1 then fZ s 3
 else if n.2.2.2.1=0 then zQ ⟨x' s.e,s.p⟩ (nf s.e.ask.2.2.2.2.1).1.2.2.2.2.2.2.2.1 else⟨x' s.e,s.p⟩
def awA{s:aU}(n:eb)(ak:T s.e.ask.2.2.2.2.1<=1000000):OL (s.t,n,())=J ((vr s n).t,()):=by
 unfold OL vr;rw[ show s.t.1.2.2.2.2.2.2.2.2.2.2.2.1=s.e.ask from rfl,Nn];by_cases bv:s.e.ph=5
 .by_cases hm:nc s.e.ask n.2.1 n.2.2.1
  .rw[aD<|λh=>h.elim (λh=>h bv)<|λh=>h hm,bS hm]
   refine aW (a:=(ag,())) (a8 (eI bv) rfl)<|a8 rfl ?_;rw[akb _ ak];by_cases az:n.2.2.2.1=0
   .rw[aH az]
    refine bA (ck az) ?_;exact(bs<|WS (s:=zQ s (nf s.e.ask.2.2.2.2.1).1.2.2.2.2.2.2.2.1) bv).trans rfl
   rw[aD az];refine a8 (cc az) ?_;exact(bs<|WS bv).trans rfl
  rw[aH<|.inr hm,b1 hm];exact aW (a:=(af,())) (a8 (eI bv) rfl)<|bA rfl (vC s)
 rw[aH<|.inl bv];exact aW (a:=(af,())) (bj<|ff bv)<|bA rfl (vC s)
def aE6{s:aU}(n:eb)(ak:T s.e.ask.2.2.2.2.1<=1000000):RB (s.t,n,())=J ((vr s n).t,()):=by
 unfold RB vr;rw[ show s.t.1.2.2.2.2.2.2.2.2.2.2.2.1=s.e.ask from rfl,Q_];by_cases bv:s.e.ph=5
 .by_cases hm:nc s.e.ask n.2.1 n.2.2.1
  .rw[aD<|λh=>h.elim (λh=>h bv)<|λh=>h hm,bS hm]
   refine(b3 (a:=(ag,()))<|(bf<|eI bv).trans rfl).trans<|(bf rfl).trans ?_;rw[alJ _ ak];rw[alW,show rY s=⟨x' s.e,s.p⟩ by unfold rY;rw[aH bv]];by_cases az:n.2.2.2.1=0
   .rw[aH az]
    refine(bf<|eI az).trans ?_;exact(bs<|alY ⟨x' s.e,s.p⟩ (nf s.e.ask.2.2.2.2.1).1.2.2.2.2.2.2.2.1).trans rfl
   rw[aD az];exact bj<|ff az
  rw[aH<|.inr hm,b1 hm];exact(b3 (a:=(af,()))<|(bf<|eI bv).trans rfl).trans<|(bj rfl).trans (qs s)
 rw[aH<|.inl bv];exact(b3 (a:=(af,()))<|bj<|ff bv).trans<|(bj rfl).trans (qs s)
theorem aCa{s:aU}(h:bJ m s)(n:eb):bJ m<|vr s n:=by
 have bg:bJ m ⟨x' s.e,s.p⟩:=⟨{ h.e with askr:=.inl rfl,ph:=⟨aLX,aPf⟩ },h.p⟩
 grind [vr,rd,P?]
def n8(t:O):O:=t/10%10
def rU(m:M):Prop:=(n8 m.1=1\/n8 m.1=3)/\o2 m
instance (m:M):hu<|rU m:=by unfold rU;infer_instance
def s5:b5:=(39,[57,49],())
def rT(m:M):M:=(m.1+10,(if(g7 11 m.2.1).2.1=af then[(11,(g7 11 m.2.1).1,()),s5]else[s5]),())
def wK(s:aU)(q:O)(b:ai)(m:M):aU:=
 if ¬mN m.1 then fZ s 3 else if k4 s.e.ph then Id s (if rU m then 3 else 2) q b
 else if ¬s.e.ph=6\/¬(lW m.1).2.1=af then fZ s 3 else(gs s<|iu<|rT m).1
theorem agE:gp 39 [57,49]=af:=di
def ag2{no:O}:∀{l:ab b5},(g7 no l).2.1=af->∃v∈l,v.1=no/\(g7 no l).1=v.2.1
 |v::l,h=>by
  unfold g7 at h ⊢;split at h
  .grind
  rename_i e;obtain⟨u,bq,Y,ac⟩:=ag2 h
  grind
theorem abN{m:M}(az:iJ m=af)(h:(g7 11 m.2.1).2.1=af):gp 11 (g7 11 m.2.1).1=af:=by
 obtain⟨v,a3,Y,ac⟩:=ag2 h;have:=(tH (qo.1 az).1 v a3).2
 grind
def afL{m:M}(az:iJ m=af)(hp:(lW m.1).2.1=af):iJ (rT m)=af:=by
 refine qo.2 ⟨?_,?_⟩
 .grind [rT,ip,s5,abN,agE]
 unfold lW at hp;split at hp
 .rename_i h
  obtain⟨⟨e_,fP,qt,an6⟩,ac⟩:=h;show h2<|m.1+10
  grind [h2]
 cases hp
def agr{t:O}(h:h2 t):cY (i64<|de t 10) 10=n8 t:=by have Y:=h.1;have ac:=h.2.1;unfold n8;simp(disch:=omega) only[go_sem]
def awI{m:M}(az:iJ m=af):OR (m,())=J (D<|rU m,()):=by
 have hf:=qo.1 az;have hl:=(uR az).1;unfold OR rU;rw[agY hf.1 V,agr hf.2];by_cases Y:n8 m.1=1
 .rw[ck Y]
  refine aW (a:=(D<|o2 m,())) rfl<|lZ ⟨λh=>⟨.inl Y,h⟩,λh=>h.2⟩
 rw[cc Y];by_cases av:n8 m.1=3
 .rw[ck av]
  refine aW (a:=(D<|o2 m,())) rfl<|lZ ⟨λh=>⟨.inr av,h⟩,λh=>h.2⟩
 rw[cc av,show D ((n8 m.1=1\/n8 m.1=3)/\o2 m)=ag from b1<|λh=>Or.elim h.1 Y av];rfl
def awH{s:aU}(hs:bJ n s)(ax:n<=1000000000000){m:M}(az:iJ m=af):OQ (s.t,m,())=J ((if ¬(lW m.1).2.1=af then fZ s 3 else(gs s<|iu<|rT m).1).t,()):=by
 have hf:=qo.1 az;have hl:=(uR az).1;unfold OQ;dsimp only;rw[aAB];by_cases hp:(lW m.1).2.1=af
 .rw[aD<|not_not_intro hp]
  refine a8 (by rw[hp];rfl) ?_;have ht:(lW m.1).1=m.1+10:=by
   grind [lW]
  have a?:=afL az hp;have ayb:=(uR a?).2;have bR:=Yz _ ayb;rw[aH a?]at bR;rw[ht,show k8 ((m.1+10,aI<|Int×ai×aj,()),39,[u8 57,u8 49],())=J ((m.1+10,[s5],()),0,()) by rw[Pv _ _ _ (by show(0:R)<=100000;omega) bP];unfold Gx;rw[ aH<|show gp 39 [u8 57,u8 49]=af from agE];rfl]
  refine aW rfl ?_;rw[Yx _ _ V,WU hf.1];refine aW rfl ?_;cases hh:(g7 11 m.2.1).2.1
  .grind [bf,rT,b3,zP]
  refine bA rfl ?_;have e:rT m=(m.1+10,[(11,(g7 11 m.2.1).1,()),s5],()):=by unfold rT;rw[hh];rfl
  rw[e]at bR ⊢;have nA:=abN az hh;have aJ:=WC nA;rw[show k8 ((m.1+10,[s5],()),11,(g7 11 m.2.1).1,())=J ((m.1+10,[(11,(g7 11 m.2.1).1,()),s5],()),0,()) by rw[Pv _ _ _ bP V];unfold Gx;rw[ aH nA];rfl]
  grind [b3,zP]
 rw[aH hp];refine bA (by rw[M9.2 hp];rfl)<|vC s
def awG{s:aU}(hs:bJ n s)(ax:n<=1000000000000){m:M}(az:iJ m=af)(v:d6):It (s.t,v,m,())=J ((wK s v.2.2.2.2.1 v.2.2.2.2.2.1 m).t,()):=by
 unfold It wK;rw[agZ];by_cases ht:mN m.1
 .rw[aD<|not_not_intro ht]
  refine a8 (by rw[bS ht];rfl) ?_;refine aW (Km s.e.ph) ?_;by_cases hg:k4 s.e.ph
  .rw[aH hg]
   refine bA (bS hg)<|aW (awI az) ?_;have ais:WT ((D<|rU m,()).1,3,2,())=J ((if rU m then 3 else 2),()):=aNF
   grind [b3,agX]
  rw[aD hg];refine a8 (b1 hg) ?_;by_cases c_:s.e.ph=6
  .refine bA (ck c_) ((bs<|awH hs ax az).trans ?_)
   by_cases hp:(lW m.1).2.1=af
   .rw[aD<|not_not_intro hp,aD<|λh=>h.elim (λh=>h c_)<|λh=>h hp];rfl
   rw[aH hp,aH<|.inr hp];rfl
  rw[aH<|.inl c_];exact a8 (cc c_)<|vC s
 rw[aH ht];exact bA (by rw[b1 ht];rfl)<|vC s
theorem aCw{s:aU}(h:bJ n s)(q:O)(b:ai)(m:M):bJ (n+1)<|wK s q b m:=by
 grind [wK,fi,rd,P',sp]
def dJ(a:ai):R:=256*(a.getD 0 0).toNat+(a.getD 1 0).toNat
def gP:R->O->ai->ai×R×O×ab ai
 |0,bad,a=>(a,0,bad,[])
 |k+1,bad,a=>
  if T a<2 then(a,0,bad,[])
  else if dJ a=0\/1024<dJ a then
   (if 2+dJ a<=T a then gP k (i64<|bad+1) (a.drop<|2+dJ a) else([],2+dJ a-T a,i64<|bad+1,[]))
  else if T a<2+dJ a then(a,0,bad,[])
  else((gP k bad<|a.drop<|2+dJ a).1,(gP k bad<|a.drop<|2+dJ a).2.1,(gP k bad<|a.drop<|2+dJ a).2.2.1,(a.drop 2).take (dJ a)::(gP k bad<|a.drop<|2+dJ a).2.2.2)
def hn(f:j6)(b:ai):j6×ab ai:=
 if T (f.1++b)<f.2.1.toNat then(([],f.2.1-(T (f.1++b):O),f.2.2.1,()),[])
 else let r:=gP (T<|f.1++b) f.2.2.1 ((f.1++b).drop f.2.1.toNat)
  ((r.1,(r.2.1:O),r.2.2.1,()),r.2.2.2)
def iR(c:O):Prop:=0<=c/\c<4
instance (c:O):hu<|iR c:=by unfold iR;infer_instance
def ld(h:f8)(c:O):Prop:=ap h.1 c.toNat ag=af
instance (h:f8) (c:O):hu<|ld h c:=by unfold ld;infer_instance
def k?(h:f8)(c:O):f8×O:=
 if ¬iR c then(h,1) else if ld h c then(h,9) else((cA h.1 c.toNat af,cA h.2.1 c.toNat iG,cA h.2.2.1 c.toNat<|i64<|ap h.2.2.1 c.toNat 0+1,h.2.2.2),0)
def iB(h:f8)(c:O):f8×O:=
 if ¬iR c then(h,1) else if ¬ld h c then(h,9) else((cA h.1 c.toNat ag,cA h.2.1 c.toNat iG,h.2.2),0)
def fL(h:f8)(c:O)(b:ai):f8×ab ai×O:=
 if ¬iR c then(h,[],1) else if ¬ld h c then(h,[],11)
 else((h.1,cA h.2.1 c.toNat (hn (ap h.2.1 c.toNat iG) b).1,h.2.2),(hn (ap h.2.1 c.toNat iG) b).2,0)
def nk(g:R->aE):R->R
 |0=>0
 |k+1=>nk g k+(if g k then 2^k else 0)
def iA(g:R->aE):ab hw:=(fw 16).map λi=>UInt64.ofNat<|nk (λj=>g<|64*i+j) 64
def uh(w:gx)(n:O):Prop:=w.1<=n\/w.1-1024<=n/\gW w (n%1024).toNat=ag
instance (w:gx) (n:O):hu<|uh w n:=by unfold uh;infer_instance
def p9(w:gx)(n:O)(p:R):Prop:=∃m,w.1<=m/\m<n/\m%1024=(p:O)
def auQ(w:gx)(n:O)(p:R)(hp:p<1024):p9 w n p↔((p:O)-w.1)%1024<n-w.1:=by
 unfold p9;constructor
 .grind
 intro h;exact⟨w.1+((p:O)-w.1)%1024,V,V,V⟩
instance (w:gx) (n:O) (p:R):hu<|p9 w n p:=if h:p<1024 then decidable_of_iff _ (auQ w n p h).symm else isFalse λ⟨m,Y,ac,av⟩=>h V
def kD(w:gx)(n:O):gx×O:=
 if ¬dv n then(w,1) else if ¬uh w n then(w,6)
 else((max w.1<|n+1,iA<|λp=>iP (decide ((p:O)=n%1024))<|df (gW w p) (decide (¬p9 w n p)),()),0)
theorem zW(w:gx)(n:O):kD w n=if ¬dv n then(w,1) else if ¬uh w n then(w,6)
 else((max w.1<|n+1,iA<|λp=>iP (D<|(p:O)=n%1024)<|df (gW w p)<|D<|¬p9 w n p,()),0):=by unfold kD;simp only[TA]
def Do(r:eW):eW:=(r.1,if r.2.2.2.1<=1 then kg else r.2.1,r.2.2.1,max 0<|r.2.2.2.1-1,r.2.2.2.2)
def j3(a:go):go×aE×aE:=
 if a=mi then(a,ag,ag) else if 1<a.2.2.1 then((a.1,a.2.1,a.2.2.1-1,a.2.2.2),ag,ag)
 else if 0<a.2.2.2.1 then((a.1,a.2.1,8,a.2.2.2.1-1,a.2.2.2.2),af,ag) else(mi,ag,af)
def mm(e:ew)(v:d6):Prop:=¬v.2.1=1-e.id\/e.ph=7\/e.ph=8\/v.1=2/\(¬i1 e.ph\/¬v.2.2.1=hk e\/(pt e.ring v.2.2.2.1).2.1=ag)
instance (e:ew) (v:d6):hu<|mm e v:=by unfold mm i1;infer_instance
def JH(e:ew)(v:d6):ai:=if v.1=2 then(pt e.ring v.2.2.2.1).1 else yZ e.key
def hb(s:aU)(v:d6):jy×aE×aj:=uM s.p (JH s.e v) (i0 v) v.2.2.2.2.2.2.1
def ir(s:aU)(b:ai):aU×au d6:=
 if ¬(eo b).2.1=0 then(fZ s 0,aq)
 else if mm s.e (eo b).1 then(fZ s 3,aq)
 else if(hb s (eo b).1).2.1=ag then(fZ ⟨s.e,(hb s (eo b).1).1⟩ 1,aq)
 else if(eo b).1.1=1 then(⟨s.e,(hb s (eo b).1).1⟩,J (eo b).1)
 else if ¬(kD s.e.win (eo b).1.2.2.2.2.1).2=0 then(fZ ⟨s.e,(hb s (eo b).1).1⟩ 2,aq)
 else(⟨{ s.e with win:=(kD s.e.win (eo b).1.2.2.2.2.1).1,ring:=r1 s.e (eo b).1.2.2.2.1 },(hb s (eo b).1).1⟩,J (eo b).1)
def sy(s:aU)(n:eb):aU:=
 if n.2.1=101 then(if n.1=af then uJ s n else vv s n) else if n.2.1=201 then(if n.1=af then N' s n else vr s n) else wb s n
def s6(s:aU)(v:d6):aU:=
 if v.1=2 then
  (if(nf v.2.2.2.2.2.1).2.1=0 then sy (p' s) (nf v.2.2.2.2.2.1).1
   else if(gc v.2.2.2.2.2.1).2.1=0 then wK (p' s) v.2.2.2.2.1 v.2.2.2.2.2.1 (gc v.2.2.2.2.2.1).1 else fZ (p' s) 0)
 else(if(nf v.2.2.2.2.2.1).2.1=0 then tg s v (nf v.2.2.2.2.2.1).1 else fZ s 0)
def pu(s:aU)(b:ai):aU:=match(ir s b).2 with|none=>(ir s b).1|some v=>rj<|s6 (ir s b).1 v
def qX(s:aU):ab ai->aU
 |[]=>s
 |b::l=>if s.e.ph=8 then s else qX (pu s b) l
def UB(ec:ab O)(d:O):ab O:=cA ec 0<|i64 (ap ec 0 0+d)
def s9(s:aU)(c:O)(b:ai):aU:=
 ⟨{ s.e with ec:=UB s.e.ec<|i64<|(ap (fL s.e.hub c b).1.2.1 c.toNat iG).2.2.1-(ap s.e.hub.2.1 c.toNat iG).2.2.1,hub:=(fL s.e.hub c b).1 },s.p⟩
def p4(s:aU)(c:O)(b:ai):aU:=if ¬(fL s.e.hub c b).2.2=0 then s else qX (s9 s c b) (fL s.e.hub c b).2.1
def t6(s:aU)(a:go):aU:=if a.1=1 then(nU s 0 a.2.2.2.2.1).1 else(gs s a.2.2.2.2.1).1
def s2(s:aU):aU:=if s.e.ph=4 then p? s else if s.e.ph=5 then rY s else s? s
def As(s:aU):aU:=⟨{ s.e with ring:=Do s.e.ring },s.p⟩
def qy(s:aU)(a:go):aU:=⟨{ s.e with ask:=a },s.p⟩
def qu(s:aU):aU:=
 if(j3 s.e.ask).2.1=af then t6 (qy s (j3 s.e.ask).1) (j3 s.e.ask).1
 else if(j3 s.e.ask).2.2=af then s2 (qy s (j3 s.e.ask).1) else qy s (j3 s.e.ask).1
def rv(s:aU):aU:=
 if s.e.ph=7\/s.e.ph=8 then s
 else if i1 s.e.ph then(if s.e.seq=4611686018427387904 then(pJ<|As s).1 else rj<|qu<|As s)
 else rj<|qu s
def pL(s:aU)(c:O):aU×O:=
 if s.e.ph=8 then(s,11) else if ¬(k? s.e.hub c).2=0 then(s,(k? s.e.hub c).2) else(rj ⟨{ s.e with hub:=(k? s.e.hub c).1 },s.p⟩,0)
def n3(e:ew)(c:O):ew:={ e with hub:=(iB e.hub c).1 }
abbrev gF:=O×O×O×O×ai×aj
def pq(s:aU)(a:gF):aU×O:=
 if a.1=0 then sB s a.2.2.2.2.1 else if a.1=1 then pJ s else if a.1=2 then s1 s else if a.1=3 then s8 s else if a.1=4 then tq s a.2.2.2.2.1
 else if a.1=5 then s4 s a.2.2.1 else if a.1=6 then(rv s,0) else if a.1=14 then(oJ s,0)
 else if a.1=15 then(if s.e.ph=8 then(vz s,0) else(s,9)) else if a.1=16 then(⟨{ s.e with power:=a.2.2.1 },s.p⟩,0) else(s,1)
abbrev gD:=O×O×ai×aj
structure bQ where
 e:aE->ew
 p:jy
 a':ab gD
 old:ab gD
 d8:aE->ab tZ
def ho{α:Type}(f:aE->α)(i:aE)(x:α):aE->α:=λj=>if j=i then x else f j
def bQ.at(w:bQ)(i:aE):aU:=⟨w.e i,w.p⟩
def ez(i:aE):O:=if i then 1 else 0
def gG(w:bQ)(c:O):bQ:={ w with e:=λi=>n3 (w.e i) c,a':=w.a'.filter λf=>decide (¬f.2.1=c) }
def t_(w:bQ):bQ:=gG (gG (gG (gG w 0) 1) 2) 3
def iH(i:aE)(x:qM):gD:=(1-ez i,x.1,x.2.1,())
def h8(w:bQ)(i:aE)(s:aU):bQ:=
 { e:=ho w.e i { s.e with bV:=[],got:=[] },p:=s.p,a':=w.a'++s.e.bV.map (iH i),old:=w.old++s.e.bV.map (iH i),d8:=ho w.d8 i (w.d8 i++s.e.got) }
def f?(w:bQ)(i:aE)(s:aU):bQ:=if s.e.ph=8/\¬(w.e i).ph=8 then t_ (h8 w i s) else h8 w i s
def mM(n:O):aE:=decide (n=1)
def lj(w:bQ)(i:aE)(c:O)(b:ai):bQ:=f? w i<|p4 (w.at i) c b
def mD:gD:=(0,0,[],())
def h9(w:bQ)(n m:O):bQ×O:=
 if ¬(0<=n/\n<(T w.a':O)) then(w,12)
 else let f:=ap w.a' n.toNat mD
  if 0<m/\m<(T f.2.2.1:O) then(lj { w with a':=w.a'.set n.toNat (f.1,f.2.1,f.2.2.1.drop m.toNat,()) } (mM f.1) f.2.1 (f.2.2.1.take m.toNat),0)
  else(lj { w with a':=w.a'.eraseIdx n.toNat } (mM f.1) f.2.1 f.2.2.1,0)
def s7(w:bQ)(n:O):bQ×O:=if ¬(0<=n/\n<(T w.a':O)) then(w,12) else({ w with a':=w.a'.eraseIdx n.toNat },0)
def yX(w:bQ)(n:O):bQ×O:=if ¬(0<=n/\n<(T w.old:O)) then(w,12) else({ w with a':=w.a'++[ap w.old n.toNat mD] },0)
def anR(b:ai)(m:R)(x:aN):ai:=cA b m<|ap b m (u8 0)^^^x
def Ax(w:bQ)(n m:O)(b:ai):bQ×O:=
 if ¬(0<=n/\n<(T w.old:O))\/¬(0<=m/\m<((ap w.old n.toNat mD).2.2.1.length:O))\/b=[]then(w,12)
 else let f:=ap w.old n.toNat mD
  ({ w with a':=w.a'++[(f.1,f.2.1,anR f.2.2.1 m.toNat<|ap b 0<|u8 0,())] },0)
def zH(w:bQ)(i c:O)(b:ai):bQ×O:=if ¬(0<=i/\i<2) then(w,1) else(lj w (mM i) c b,0)
def rk(w:bQ)(i:aE)(c:O):bQ:=f? w i (pL (w.at i) c).1
def wm(w:bQ)(c:O):bQ×O:=
 if(w.e ag).ph=8\/(w.e af).ph=8 then(w,11) else if ¬iR c then(w,1)
 else if ld (w.e ag).hub c\/ld (w.e af).hub c then(w,9) else(rk (rk w ag c) af c,0)
def vD(w:bQ)(c:O):bQ×O:=if ¬iR c then(w,1) else(gG w c,0)
def lM:R->bQ->bQ
 |0,w=>w
 |k+1,w=>if w.a'=[]then w else lM k (h9 w 0 0).1
def sC(w:bQ)(i:aE):bQ:=f? w i<|rv (w.at i)
def pP(w:bQ):bQ:=sC (sC (lM (T w.a') w) ag) af
def l':R->bQ->bQ
 |0,w=>w
 |k+1,w=>l' k<|pP w
def sV(w:bQ)(a:gF):bQ×O:=if ¬(0<=a.2.1/\a.2.1<2) then(w,1) else(f? w (mM a.2.1) (pq (w.at<|mM a.2.1) a).1,(pq (w.at<|mM a.2.1) a).2)
def jf(w:bQ)(a:gF):bQ×O:=
 if a.1=7 then h9 w a.2.2.1 a.2.2.2.1 else if a.1=8 then s7 w a.2.2.1 else if a.1=9 then yX w a.2.2.1 else if a.1=10 then Ax w a.2.2.1 a.2.2.2.1 a.2.2.2.2.1
 else if a.1=11 then zH w a.2.1 a.2.2.1 a.2.2.2.2.1 else if a.1=12 then wm w a.2.2.1 else if a.1=13 then vD w a.2.2.1
 else if a.1=17 then(if a.2.2.1<0 then(w,1) else(l' (min a.2.2.1 100).toNat w,0))
 else if 0<=a.1/\a.1<=6\/14<=a.1/\a.1<=16 then sV w a else(w,1)
def pR(w:bQ):ab gF->bQ×ab O
 |[]=>(w,[])
 |a::l=>((pR (jf w a).1 l).1,(jf w a).2::(pR (jf w a).1 l).2)
def H9(i:aE)(key:ai):ew:=⟨ez i,key,0,Zc, -1,0,0,0,0,wa,oZ,mi,0,0,[],Yf,[],[],[0,0,0,0]⟩
def tR(key:ai)(mA:aE):bQ:=⟨λi=>H9 i key,(mA,[],ag,()),[],[],λ_=>[]⟩
def aIa:=@Nat.mul_assoc
def abm(g:R->aE):∀k,nk g k<2^k
 |0=>by simp[nk]
 |k+1=>by
  have:=abm g k;unfold nk
  grind
theorem an2(g:R->aE)(j:R):∀k,j<k->nk g k/2^j%2=if g j then 1 else 0
 |k+1,h=>by
  unfold nk;by_cases I':j=k
  .subst I'
   have:=abm g j
   grind [Nat.add_div_right,Nat.div_eq_of_lt]
  have ih:=an2 g j k V;split
  .obtain⟨d,rfl⟩:∃d,k=j+1+d:=⟨k-j-1,V⟩
   simp_all[Uc,Mx,aIa,Nat.add_mul_div_left]
  omega
def y0(g:R->aE):T (iA g)=16:=by simp[iA]
theorem Bg(t:O)(g:R->aE){p:R}(hp:p<1024):gW (t,iA g,()) p=g p:=by
 have e:ap (iA g) (p/64) (u64 0)=UInt64.ofNat (nk (λj=>g<|64*(p/64)+j) 64):=by
  grind [ap,iA]
 have bK:=abm (λj=>g<|64*(p/64)+j) 64;have hm:(UInt64.ofNat<|nk (λj=>g<|64*(p/64)+j) 64).toNat=nk (λj=>g<|64*(p/64)+j) 64:=by simp_all
 grind [gW,an2]
def AE(w:gx)(q:O):Prop:=q<w.1-1024\/q<w.1/\gW w (q%1024).toNat=af
def Y4{w:gx}{n:O}(h:(kD w n).2=0):dv n/\uh w n/\kD w n=((max w.1<|n+1,iA<|λp=>iP (D<|(p:O)=n%1024)<|df (gW w p)<|D<|¬p9 w n p,()),0):=by
 by_cases Y:dv n
 .by_cases ac:uh w n
  .refine⟨Y,ac,?_⟩
   rw[zW];rw[aD<|not_not_intro Y,aD<|not_not_intro ac]
  rw[zW]at h;rw[aD<|not_not_intro Y,aH ac]at h;cases h
 rw[zW]at h;rw[aH Y]at h;cases h
def aBu(m:O):0<=m%1024/\(m%1024).toNat<1024/\(((m%1024).toNat:R):O)=m%1024:=⟨V,V,V⟩
def aBj{w:gx}{n:O}(hf:uh w n):¬AE w n:=by
 rintro(h|⟨av,aJ⟩)
 .rcases hf with bv|⟨bv,_⟩<;>omega
 rcases hf with bv|⟨_,bv⟩
 .omega
 grind
def ajH{t n:O}(h:n<t){g:R->aE}(hg:g (n%1024).toNat=af):AE (t,iA g,()) n:=by
 refine .inr ⟨h,?_⟩
 grind [Bg]
def aBl{w:gx}{n m:O}(h:AE w m):AE (max w.1<|n+1,iA<|λp=>iP (D<|(p:O)=n%1024)<|df (gW w p)<|D<|¬p9 w n p,()) m:=by
 rcases h with hm|⟨hm,ayU⟩
 .refine .inl ?_
  omega
 by_cases ayR:m<max w.1 (n+1)-1024
 .exact .inl ayR
 refine ajH V ?_;rw[ayU];by_cases aA:p9 w n (m%1024).toNat
 .exfalso
  obtain⟨x,bv,c_,eJ⟩:=aA;omega
 rw[bS aA];exact g47
def aBk{w:gx}{n:O}(h:(kD w n).2=0):dv n/\¬AE w n/\AE (kD w n).1 n/\(∀m,AE w m->AE (kD w n).1 m)/\(kD w n).1.1=max w.1 (n+1)/\(kD w n).1.2.1.length=16:=by
 have hh:=Y4 h;refine⟨hh.1,aBj hh.2.1,?_,λm hm => ?_,d4 (λx:gx×O=>x.1.1) hh.2.2,?_⟩
 .rw[hh.2.2]
  refine ajH V ?_;rw[bS (aBu n).2.2];exact g46
 .rw[hh.2.2]
  exact aBl hm
 rw[hh.2.2];dsimp only;exact y0 _
def yJ:=@List.eq_nil_of_length_eq_zero
def af9(s:aU)(v:d6)(k:ai):(lm s v k).1.e.ph=s.e.ph/\(lm s v k).1.e.queue=s.e.queue/\(lm s v k).1.e.got=s.e.got:=by
 grind [lm]
def ane(s:aU)(b:ai):(gs s b).1.e.ph=s.e.ph/\(gs s b).1.e.queue=s.e.queue/\(gs s b).1.e.got=s.e.got:=by
 unfold gs;split
 .exact aO0
 split
 .exact aO0
 split
 .exact aO0
 dsimp only;split
 .exact af9 _ _ _
 exact af9 _ _ _
def tu(s:aU):Prop:=∃n,bJ n s
def Kx{b:ai}(h:(eo b).2.1=0):(eo b).1.2.2.1=[dM (eo b).1,e1 (eo b).1]:=by
 unfold eo at h ⊢;split at h
 .cases h
 split at h
 .cases h
 split at h
 .rename_i Y ac av
  rw[aD Y,aD ac,aH av];rfl
 cases h
def S2{s:aU}{b:ai}{v:d6}(h:(ir s b).2=J v):(eo b).2.1=0/\v=(eo b).1:=by
 grind [ir]
def afn(s:aU)(v:d6):(hb s v).1.2.1=s.p.2.1:=by
 unfold hb uM
 exact aKO
def aFG{e:ew}(h:mI e.ring)(g:O):mI<|r1 e g:=by
 grind [r1,R3]
def ZF{s:aU}(h:bJ n s)(b:ai):bJ n (ir s b).1:=by
 have hp:∀v,bJ n ⟨s.e,(hb s v).1⟩:=λv=>⟨h.e,by rw[afn];exact h.p⟩;unfold ir;split
 .exact rd h 0
 split
 .exact rd h 3
 split
 .grind [rd]
 split
 .grind
 split
 .grind [rd]
 rename_i Y ac av aJ bv;have hm:=aBk<|sL.1 bv;have cH:=hm.1;have kO:=h.e.top;unfold dv at cH;refine⟨{ (hp (eo b).1).e with win:=hm.2.2.2.2.2,ring:=aFG h.e.ring _,top := ?_ },(hp _).p⟩
 grind
theorem aCq{s:aU}(h:bJ n s)(q:eb):bJ (n+1)<|uJ s q:=by
 unfold uJ;split
 .grind [fi,rd]
 split
 .exact sp h _
 split
 .exact sp h _
 split
 .split
  .exact sp (CA h<|C2 (Ll h.e.ring) _ _) _
  grind [fi,rd]
 split
 .exact sp (ZH h<|C2 h.e.ring _ _) _
 grind [fi,rd]
theorem akt{s:aU}(h:bJ n s):bJ n<|p? s:=by
 unfold p?;split
 .exact CA h (Ll h.e.ring)
 exact h
theorem aCb{s:aU}(h:bJ n s)(q:eb):bJ (n+1)<|vv s q:=by
 unfold vv;split
 .grind [fi,rd]
 split
 .grind [fi,akt]
 exact Cz (CA h<|R3 h.e.ring) _
def aCo{s:aU}(h:bJ n s)(b:ai):bJ (n+1) (tq s b).1:=by
 grind [tq,fi,Cz,ZA]
theorem aCt{s:aU}(h:bJ n s)(q:eb):bJ (n+2)<|sy s q:=by
 grind [sy,fi,aCq,aCb,aCh,aCa,aCp]
def Zw{s:aU}(h:bJ n s){v:d6}(a3:∀k:R,dv<|ap v.2.2.1 k 0):bJ (n+3)<|s6 s v:=by
 grind [Zy,s6,aCt,fi,aCw,rd,aCn]
def Zz{s:aU}(h:bJ n s)(b:ai):bJ (n+1003)<|pu s b:=by
 have ht:=ZF h b;unfold pu;split
 .grind [fi]
 rename_i v a3;obtain⟨Y,rfl⟩:=S2 a3;have az:ng (eo b).1:=by
  grind [eo]
 refine Qa<|Zw ht λk => ?_;rw[Kx Y];exact au_
def ako:∀(l:ab ai) {s:aU},tu s->tu (qX s l)
 |[],s,h=>h
 |b::l,s,h=>by
  unfold qX;split
  .exact h
  obtain⟨n,h⟩:=h;exact ako l ⟨_,Zz h b⟩
def Wq{l:ab j6}{x:j6}(hx:la x)(hl:∀c,la<|ap l c iG)(i c:R):la<|ap (cA l i x) c iG:=by
 unfold ap cA;rw[nr,TO];split
 .grind [Ar]
 exact hl c
theorem Ov(a:ai)(s b:O):vK (a,s,b,())=(dJ a:O):=rfl
def aoq(a:ai):dJ a<=65535:=by have Y:=(a.getD 0 0).toNat_lt;have ac:=(a.getD 1 0).toNat_lt;unfold dJ;omega
theorem V3:∀(k:R) (bad:O) (a:ai),T a<=k->la ((gP k bad a).1,((gP k bad a).2.1:O),(gP k bad a).2.2.1,())
 |0,bad,a,h=>by have b6:a=[]:=yJ V;subst b6;exact⟨aMZ,.inl (by show 0<2;omega)⟩
 |k+1,bad,a,h=>by
  have ht:=aoq a;unfold gP;split
  .rename_i Y
   exact⟨aMq,.inl Y⟩
  split
  .split
   .exact V3 k _ _ (by grind)
   rename_i ac av;refine⟨?_,.inl bP⟩
   grind
  split
  .rename_i ac av
   refine⟨aMq,.inr ?_⟩;show 1<=(dJ a:O)/\(dJ a:O)<=1024/\(T a:O)<(dJ a:O)+2;omega
  exact V3 k _ _ (by grind)
def ak4{f:j6}(h:la f)(b:ai):la (hn f b).1:=by
 have Y:=h.1;unfold hn;split
 .rename_i ac
  refine⟨?_,.inl bP⟩
  grind
 grind [V3]
def Zx{s:aU}(h:bJ n s)(c:O)(b:ai):bJ n<|s9 s c b:=by
 have key:(fL s.e.hub c b).1.1.length=4/\(0<=(fL s.e.hub c b).1.2.2.2.1/\(fL s.e.hub c b).1.2.2.2.1<4)/\(fL s.e.hub c b).1.2.1.length=4/\(fL s.e.hub c b).1.2.2.1.length=4/\∀k,la<|ap (fL s.e.hub c b).1.2.1 k iG:=by
  unfold fL;split
  .exact aKZ
  split
  .exact aKZ
  refine⟨h.e.up,h.e.next,?_,h.e.life,Wq (ak4 (h.e.fd _) b) h.e.fd _⟩;unfold cA;rw[jj];exact h.e.feed
 refine⟨{ h.e with ec := ?_,up:=key.1,next:=key.2.1,feed:=key.2.2.1,life:=key.2.2.2.1,fd:=key.2.2.2.2 },h.p⟩;show T (UB _ _)=4;unfold UB cA;rw[jj];exact h.e.ec
def aB7{s:aU}(h:tu s)(c:O)(b:ai):tu<|p4 s c b:=by
 unfold p4;split
 .exact h
 obtain⟨n,h⟩:=h;exact ako _ ⟨n,Zx h c b⟩
def aCg{e:ew}(h:sn n e)(c:O):sn n<|n3 e c:=by
 have key:(iB e.hub c).1.1.length=4/\(0<=(iB e.hub c).1.2.2.2.1/\(iB e.hub c).1.2.2.2.1<4)/\(iB e.hub c).1.2.1.length=4/\(iB e.hub c).1.2.2.1.length=4/\∀k,la<|ap (iB e.hub c).1.2.1 k iG:=by
  unfold iB;split
  .exact⟨h.up,h.next,h.feed,h.life,h.fd⟩
  split
  .exact⟨h.up,h.next,h.feed,h.life,h.fd⟩
  refine⟨?_,h.next,?_,h.life,Wq Ar h.fd _⟩
  .unfold cA;rw[jj];exact h.up
  unfold cA;rw[jj];exact h.feed
 exact{ h with up:=key.1,next:=key.2.1,feed:=key.2.2.1,life:=key.2.2.2.1,fd:=key.2.2.2.2 }
theorem ZD{s:aU}(h:bJ n s)(c:O):bJ n ⟨{ s.e with hub:=(k? s.e.hub c).1 },s.p⟩:=by
 have key:(k? s.e.hub c).1.1.length=4/\(0<=(k? s.e.hub c).1.2.2.2.1/\(k? s.e.hub c).1.2.2.2.1<4)/\(k? s.e.hub c).1.2.1.length=4/\(k? s.e.hub c).1.2.2.1.length=4/\∀k,la<|ap (k? s.e.hub c).1.2.1 k iG:=by
  unfold k?;split
  .exact aKZ
  split
  .exact aKZ
  refine⟨?_,h.e.next,?_,?_,Wq Ar h.e.fd _⟩
  .unfold cA;rw[jj];exact h.e.up
  .unfold cA;rw[jj];exact h.e.feed
  unfold cA;rw[jj];exact h.e.life
 exact⟨{ h.e with up:=key.1,next:=key.2.1,feed:=key.2.2.1,life:=key.2.2.2.1,fd:=key.2.2.2.2 },h.p⟩
def aCs{s:aU}(h:bJ n s)(c:O):bJ (n+1000) (pL s c).1:=by
 grind [pL,fi,Qa,ZD]
def aFK{r:eW}(h:mI r):mI<|Do r:=by
 unfold Do;rcases h with rfl|⟨Y,ac,av,aJ,bv,c_⟩
 .exact aKB
 refine .inr ⟨Y,ac,av,aJ,?_,c_⟩
 grind
theorem FI{s:aU}(h:bJ n s):bJ n<|As s:=⟨{ h.e with ring:=aFK h.e.ring },h.p⟩
def R1{a:go}(h:Aq a):Aq (j3 a).1:=by
 unfold j3;split
 .exact h
 rename_i aC;obtain⟨Y,ac,av,aJ,bv⟩:=h.resolve_left aC;split
 .refine .inr ⟨Y,?_,?_,aJ,bv⟩
  .grind
  grind
 split
 .refine .inr ⟨Y,by show(1:O)<=8;decide,by show(8:O)<=8;decide,?_,?_⟩
  .grind
  grind
 exact aKB
def ZI{s:aU}(h:bJ n s){a:go}(b6:Aq a):bJ n<|qy s a:=⟨{ h.e with askr:=b6 },h.p⟩
theorem aCl{s:aU}(h:bJ n s):bJ n<|rY s:=by
 unfold rY;split
 .exact⟨{ h.e with askr:=.inl rfl,ph:=⟨aLX,aPf⟩ },h.p⟩
 exact h
theorem aB9{s:aU}(h:bJ n s)(a:go):bJ (n+1)<|t6 s a:=by
 grind [t6,Qb,sp]
theorem aCf{s:aU}(h:bJ n s):bJ (n+1)<|s2 s:=by
 grind [s2,fi,akt,aCl,aCm]
theorem ZG{s:aU}(h:bJ n s):bJ (n+1)<|qu s:=by
 have bR:=ZI h<|R1 h.e.askr
 grind [qu,aB9,aCf,fi]
def akw{s:aU}(h:bJ n s):bJ (n+1001)<|rv s:=by
 grind [rv,fi,aku,FI,Qa,ZG]
def aCj{s:aU}(h:bJ n s)(a:gF):bJ (n+1001) (pq s a).1:=by
 unfold pq;split
 .exact aCv h _
 split
 .exact fi (aku h) V
 split
 .exact fi (aCe h) V
 split
 .exact fi (aCk h) V
 split
 .exact fi (aCo h _) V
 split
 .exact fi (aCi h _) V
 split
 .exact akw h
 split
 .exact fi (akq h) V
 split
 .split
  .exact fi (aCd h) V
  exact fi h V
 split
 .exact fi ⟨{ h.e with },h.p⟩ V
 exact fi h V
def M1:=@List.take_append_of_le_length
theorem N_:∀(k j:R) (bad:O) (a:ai),T a<=k->T a<=j->gP k bad a=gP j bad a
 |0,0,_,_,_,_=>rfl
 |0,j+1,bad,a,h,_=>by unfold gP;rw[aH V]
 |k+1,0,bad,a,_,h=>by unfold gP;rw[aH V]
 |k+1,j+1,bad,a,Y,ac=>by
  have e:∀b,gP k b (a.drop<|2+dJ a)=gP j b (a.drop<|2+dJ a)\/T a<2:=λb=>by
   by_cases h:T a<2
   .exact .inr h
   exact .inl<|N_ k j b _ aD_ aD_
  unfold gP;rcases e bad with e1|e1
  .rcases e (i64<|bad+1) with bh|bh
   .rw[e1,bh]
   rw[aH bh,aH bh]
  rw[aH e1,aH e1]
def pK(f:j6)(c:aN):j6×ai:=
 if 0<f.2.1 then((f.1,f.2.1-1,f.2.2.1,()),[])
 else if T (f.1++[c])<2 then((f.1++[c],f.2),[])
 else if dJ (f.1++[c])=0\/1024<dJ (f.1++[c]) then(([],(dJ (f.1++[c]):O),i64<|f.2.2.1+1,()),[])
 else if T (f.1++[c])<dJ (f.1++[c])+2 then((f.1++[c],f.2),[])
 else(([],0,f.2.2.1,()),(f.1++[c]).drop 2)
def DB(w:ai):ab ai:=if w=[]then[]else[w]
theorem abM{a b:ai}(h:2<=T a):dJ (a++b)=dJ a:=by
 match a,h with
 |x::y::r,_=>rfl
def ak3{f:j6}(h:la f):hn f []=(f,[]):=by
 obtain⟨buf,s,bad,⟨⟩⟩:=f;obtain⟨Y,ac⟩:=h;replace Y:¬(s<0\/65535<s\/0<s/\0<T buf):=Y;replace ac:T buf<2\/1<=vK (buf,s,bad,())/\vK (buf,s,bad,())<=1024/\(T buf:O)<vK (buf,s,bad,())+2:=ac;rw[Ov]at ac;unfold hn;dsimp only;rw[g?];split
 .grind
 rename_i av;have hs:s=0:=by
  grind
 subst hs;have e:gP (T buf) bad buf=(buf,0,bad,[]):=by
  cases aB:T buf with
  |zero=>rw[yJ aB];rfl
  |succ k=>
   grind [gP]
 grind
theorem Qo(buf:ai)(bad:O)(b:ai):hn (buf,0,bad,()) b=(((gP (T<|buf++b) bad<|buf++b).1,((gP (T<|buf++b) bad<|buf++b).2.1:O),(gP (T<|buf++b) bad<|buf++b).2.2.1,()),(gP (T<|buf++b) bad<|buf++b).2.2.2):=rfl
def Z7{f:j6}(h:la f)(c:aN)(b:ai):hn f (c::b)=((hn (pK f c).1 b).1,DB (pK f c).2++(hn (pK f c).1 b).2):=by
 obtain⟨buf,s,bad,⟨⟩⟩:=f;obtain⟨Y,ac⟩:=h;replace Y:¬(s<0\/65535<s\/0<s/\0<T buf):=Y;replace ac:T buf<2\/1<=vK (buf,s,bad,())/\vK (buf,s,bad,())<=1024/\(T buf:O)<vK (buf,s,bad,())+2:=ac;rw[Ov]at ac;unfold pK;by_cases hs:0<s
 .rw[aH hs]
  have ak:buf=[]:=yJ V;subst ak;unfold hn;dsimp only;rw[n0,n0,gd];by_cases hl:T b+1<s.toNat
  .rw[aH hl,aH V,show s-((T b+1:R):O)=s-1-(T b:O) by omega];rfl
  rw[aD hl,aD V];obtain⟨m,hm⟩:∃m,s.toNat=m+1:=⟨s.toNat-1,V⟩;rw[hm,show(s-1).toNat=m by omega,Hj,N_ (T b+1) (T b) bad (b.drop m) aD_ aD_];rfl
 rw[aD hs];obtain rfl:s=0:=V;have O2:buf++c::b=(buf++[c])++b:=by rw[kL];rfl
 have cP:T (buf++[c])=T buf+1:=by rw[d7];rfl
 rw[Qo,O2];by_cases b4:T (buf++[c])<2
 .rw[aH b4]
  rw[Qo];rfl
 rw[aD b4];have ht:=abM (a:=buf++[c]) (b:=b) V;by_cases cz:dJ (buf++[c])=0\/1024<dJ (buf++[c])
 .rw[aH cz]
  have hb1:T buf=1:=by
   grind [abM]
  have hl:T ((buf++[c])++b)=T b+1+1:=aLt
  unfold hn;rw[n0,ie];have a?:((buf++[c])++b).drop (2+dJ (buf++[c]))=b.drop (dJ<|buf++[c]):=by rw[List.drop_append,DZ V,n0,show 2+dJ (buf++[c])-T (buf++[c])=dJ (buf++[c]) by omega]
  have e:gP (T<|(buf++[c])++b) bad ((buf++[c])++b)=if T b<dJ (buf++[c]) then([],dJ (buf++[c])-T b,i64<|bad+1,[]) else gP (T b) (i64<|bad+1)<|b.drop<|dJ<|buf++[c]:=by
   grind [gP,N_]
  rw[e];by_cases dw:T b<dJ (buf++[c])
  .rw[aH dw,aH dw]
   rw[show((dJ (buf++[c])-T b:R):O)=(dJ (buf++[c]):O)-(T b:O) by omega];rfl
  rw[aD dw,aD dw];rfl
 rw[aD cz];by_cases dw:T (buf++[c])<dJ (buf++[c])+2
 .rw[aH dw]
  rw[Qo];rfl
 rw[aD dw];have hb2:2<=T buf/\dJ (buf++[c])=dJ buf/\T buf+1=dJ buf+2:=by
  grind [abM]
 have hl:T ((buf++[c])++b)=T buf+T b+1:=aLt
 have a?:((buf++[c])++b).drop (2+dJ (buf++[c]))=b:=by rw[M' V,DZ V,n0]
 have bR:(((buf++[c])++b).drop 2).take (dJ<|buf++[c])=(buf++[c]).drop 2:=by rw[M' V,M1 aD_,i5 aD_]
 have e:gP (T<|(buf++[c])++b) bad ((buf++[c])++b)=((gP (T b) bad b).1,(gP (T b) bad b).2.1,(gP (T b) bad b).2.2.1,(buf++[c]).drop 2::(gP (T b) bad b).2.2.2):=by
  rw[hl]
  conv=>lhs;unfold gP
  rw[ht,aD V,aD cz,aD V,bR,a?,N_ (T buf+T b) (T b) bad b V V]
 rw[e,Qo,n0];unfold DB;rw[aD (λax=>by have:=d4 T ax;rw[dV]at this;simp at this;omega)];rfl
theorem akz{f:j6}(h:la f)(c:aN):la (pK f c).1:=by
 have hp:=ak4 h [c];have aA:=Z7 h c [];rw[aA]at hp;have key:la (pK f c).1:=by
  obtain⟨buf,s,bad,⟨⟩⟩:=f;obtain⟨Y,ac⟩:=h;replace Y:¬(s<0\/65535<s\/0<s/\0<T buf):=Y;unfold pK;dsimp only;have ht:=aoq<|buf++[c];split
  .exact⟨by show ¬(s-1<0\/65535<s-1\/0<s-1/\0<T buf);omega,.inl (by show T buf<2;omega)⟩
  rename_i av;split
  .rename_i aJ;exact⟨aMS,.inl aJ⟩
  split
  .exact⟨by show ¬((dJ (buf++[c]):O)<0\/65535<(dJ (buf++[c]):O)\/0<(dJ (buf++[c]):O)/\0<0);omega,.inl (by show 0<2;omega)⟩
  split
  .rename_i aJ bv c_
   refine⟨aMS,.inr ?_⟩;rw[Ov];show 1<=(dJ (buf++[c]):O)/\(dJ (buf++[c]):O)<=1024/\(T (buf++[c]):O)<(dJ (buf++[c]):O)+2;omega
  exact⟨aMZ,.inl (by show 0<2;omega)⟩
 exact key
def aJW:∀(a:ai) {f:j6} (_:la f) (b:ai),hn f (a++b)=((hn (hn f a).1 b).1,(hn f a).2++(hn (hn f a).1 b).2)
 |[],f,h,b=>by rw[ak3 h];rfl
 |c::a,f,h,b=>by rw[sN,Z7 h,Z7 h,aJW a (akz h c) b,kL]
def Kw{b:ai}(h:(eo b).2.1=0):ng (eo b).1/\(eo b).1=tF b/\47<=T b/\T b<=946:=by
 grind [eo]
def aiD(c:O):Jn (c,())=J (D<|iR c,()):=by unfold Jn iR;simp only[go_sem]
def aiE(h:f8)(c:O)(b:aE):Jo (h,c,b,()) =
  (if ¬iR c then J (h,1,()) else if ap h.1 c.toNat ag=b then J (h,9,()) else J ((cA h.1 c.toNat b,cA h.2.1 c.toNat iG,h.2.2),0,())):=by
 unfold Jo;rw[aiD];by_cases aA:iR c
 .rw[bS aA,aD<|not_not_intro aA]
  have aJ:aO c (bc 4)=af:=aw_
  refine(a7 aJ ?_);by_cases aX:ap h.1 c.toNat ag=b
  .grind [bj,g43,g33,bS]
  rw[aD aX];exact a8 (by rw[g43,g33];exact b1 aX)<|a7 aJ (c3 aJ)
 rw[b1 aA,aH aA];rfl
def azL(h:f8)(c:O):Ph (h,c,())=J ((iB h c).1,(iB h c).2,()):=by
 unfold Ph iB;rw[aiE];by_cases aA:iR c
 .rw[aD<|not_not_intro aA,aD<|not_not_intro aA]
  by_cases aX:ap h.1 c.toNat ag=ag
  .rw[aH aX,aH (by unfold ld;rw[aX];simp)];rfl
  rw[aD aX,aD (by rw[Hq]at aX;exact dq aX)];rfl
 rw[aH aA,aH aA];rfl
def azO(h:f8)(c:O):Pj (h,c,())=J ((k? h c).1,(k? h c).2,()):=by
 unfold Pj k?;rw[aiE];by_cases aA:iR c
 .rw[aD<|not_not_intro aA,aD<|not_not_intro aA]
  have aJ:aO c (bc 4)=af:=aw_
  by_cases aX:ap h.1 c.toNat ag=af
  .rw[aH aX,aH<|show ld h c from aX];rfl
  rw[aD aX,aD<|show ¬ld h c from aX];exact((a7 aJ<|c3 aJ))
 rw[aH aA,aH aA];rfl
def aFO{r:eW}(h:0<=r.2.2.2.1/\r.2.2.2.1<=1000000):R6 (r,())=J (Do r,()):=by
 unfold R6 Do;have e:dk 0 (i64<|bw r.2.2.2.1 1)=max 0 (r.2.2.2.1-1):=by rw[g58,show i64 (bw r.2.2.2.1 1)=r.2.2.2.1-1 from fF (by show -9223372036854775808<=r.2.2.2.1-1;omega) (by show r.2.2.2.1-1<=9223372036854775807;omega)]
 rw[e];by_cases hl:r.2.2.2.1<=1
 .rw[aH hl];exact bj<|ck V
 grind [bf,cc]
theorem aJl(r:eW):R8 ((r,()),())=J ([r.1,r.2.1,r.2.2.1],()):=rfl
def aFL(r:eW)(no:O):Ln (r,no,())=J (pt r no):=by
 unfold Ln pt;refine aW rfl ?_;dsimp only;generalize hf:(λae=>(_:au<|aL (aE×O×aj)<|ai×aE×aj))=f;have g:∀(i:R) (OX:wV),i<3->ap [r.1,r.2.1,r.2.2.1] i hr=OX->f (ag,(i:O),())=if no<1\/¬OX.1=no then J (.nx (ag,((i+1:R):O),())) else J<|.rt (OX.2.1,af,()):=by
  intro i OX ao hg;subst hf;have ej:i64 (aG (i:O) 1)=((i+1:R):O):=dK IS V;refine bA (cB (by show(i:O)<3;omega))<|a7 b2 ?_
  grind [eO,b3,bf,cm,bj,cB,ck,cc]
 have dh:f (ag,3,())=J (.ex 0 (ag,3,())):=by subst hf;exact bf<|cm (by show ¬(3:O)<3;omega)
 have g0:=g 0 r.1 V rfl;have b0:=g 1 r.2.1 V rfl;have bT:=g 2 r.2.2.1 V rfl;by_cases aC:no<1
 .rw[aH aC]
  rw[aH<|.inl aC]at g0 b0 bT;exact aNx
 rw[aD aC];by_cases Y:r.1.1=no
 .rw[aH Y]
  rw[aD (by rintro(h|h);exact aC h;exact h Y)]at g0;exact(cE<|oY g0)
 rw[aD Y];rw[aH<|.inr Y]at g0;by_cases ac:r.2.1.1=no
 .rw[aH ac]
  rw[aD (by rintro(h|h);exact aC h;exact h ac)]at b0;exact(cE<|(dT g0).trans<|oY b0)
 rw[aD ac];rw[aH<|.inr ac]at b0;by_cases av:r.2.2.1.1=no
 .rw[aH av]
  rw[aD (by rintro(h|h);exact aC h;exact h av)]at bT;exact(cE<|(dT g0).trans<|(dT b0).trans<|oY bT)
 rw[aD av];rw[aH<|.inr av]at bT;exact aNx
def aqn{a:go}(h:Aq a):D9 (a,())=J ((j3 a).1,(j3 a).2.1,(j3 a).2.2,()):=by
 unfold D9 j3;rw[ac6];by_cases aC:a=mi
 .rw[bS aC,aH aC];rfl
 rw[b1 aC,aD aC];rcases h with h|⟨_,Y,ac,av,aJ⟩
 .grind
 have e1:i64 (bw a.2.2.1 1)=a.2.2.1-1:=fF aPO aPW;have bh:i64 (bw a.2.2.2.1 1)=a.2.2.2.1-1:=fF aNJ aPw;rw[e1,bh];by_cases bv:1<a.2.2.1
 .rw[aH bv];exact bj<|cB V
 rw[aD bv];refine(bf<|cm V).trans ?_;by_cases c_:0<a.2.2.2.1
 .rw[aH c_,cB c_];rfl
 rw[aD c_,cm c_];rfl
def aDf(p:jy)(k b t:ai)(aB:T k<=1000000)(ak:T b<=1000000):FO (p,k,b,t,())=J (uM p k b t):=by
 unfold FO;rw[Z4 _ _ aB ak];refine aW rfl ?_;rw[PM _ _ (by rw[Lm];omega)];unfold uM;obtain⟨i,l,f,⟨⟩⟩:=p;by_cases ht:qp k b=t
 .rw[aH ht]
  refine a8 (by first|rw[At ht];rfl) ?_;rw[akW];by_cases h:(k,b,())∈l
  .rw[bS h,aH h];cases f<;>rfl
  rw[b1 h,aD h];cases f<;>rfl
 rw[aD ht];exact bj (by first|rw[C? ht];rfl)
def T0:=@UInt64.toNat_inj
def M_:=@List.getElem_set_self
def aCE(a b:hw):u64 (hG .u64 (cC a)<|cC b)=a|||b:=by
 unfold hG;refine T0.1 ?_;have b6:(jv IntKind.u64.bits<|cC a)=a.toBitVec:=aLa
 have ak:(jv IntKind.u64.bits<|cC b)=b.toBitVec:=aLb
 rw[b6,ak];have:=q' (a:=(((a|||b).toNat:R):O)) (by have:=(a|||b).toNat_lt;omega);exact Ho this
def ap7(a b:hw):u64 (hz .u64 (cC a)<|cC b)=a&&&b:=by
 unfold hz;refine T0.1 ?_;have b6:(jv IntKind.u64.bits<|cC a)=a.toBitVec:=aLa
 have ak:(jv IntKind.u64.bits<|cC b)=b.toBitVec:=aLb
 rw[b6,ak];have:=q' (a:=(((a&&&b).toNat:R):O)) (by have:=(a&&&b).toNat_lt;omega);exact Ho this
def aH8(a b:hw):u64 (em .u64 (cC a)<|cC b)=a^^^b:=by
 unfold em;refine T0.1 ?_;have b6:(jv IntKind.u64.bits<|cC a)=a.toBitVec:=aLa
 have ak:(jv IntKind.u64.bits<|cC b)=b.toBitVec:=aLb
 rw[b6,ak];have:=q' (a:=(((a^^^b).toNat:R):O)) (by have:=(a^^^b).toNat_lt;omega);exact Ho this
def HC(w:gx)(p:R):gW w p=(ap w.2.1 (p/64)<|u64 0).toNat.testBit (p%64):=by rw[Nat.testBit_eq_decide_div_mod_eq];rfl
def adj{l m:ab hw}(hl:T l=16)(hm:T m=16){t u:O}(h:∀p,p<1024->gW (t,l,()) p=gW (u,m,()) p):l=m:=by
 refine sK (hl.trans hm.symm) λi Y ac => ?_;refine T0.1<|Nat.eq_of_testBit_eq λj => ?_;by_cases aF:j<64
 .have:=h (64*i+j) V
  rw[HC,HC,show(64*i+j)/64=i by omega,show(64*i+j)%64=j by omega]at this
  grind [nth_get]
 have hp:2^64<=2^j:=A9 V V;rw[Nat.testBit_lt_two_pow<|ge (l[i]).toNat_lt hp,Nat.testBit_lt_two_pow<|ge (m[i]).toNat_lt hp]
def HD{g j9:R->aE}(h:∀p,p<1024->g p=j9 p):iA g=iA j9:=
 adj (t:=0) (u:=0) (y0 g) (y0 j9) λp hp=>by rw[Bg _ _ hp,Bg _ _ hp];exact h p hp
def UL{l:ab hw}(hl:T l=16){t:O}{g:R->aE}(h:∀p,p<1024->gW (t,l,()) p=g p):l=iA g:=
 adj (t:=t) (u:=0) hl (y0 g) λp hp=>by rw[Bg _ _ hp];exact h p hp
def vA(k:R):hw:=UInt64.ofNat<|2^k
def UQ(h:k<64):(vA k).toNat=2^k:=by exact w1<|Nat.pow_lt_pow_right V h
def adq(h:k<64)(j:R):(vA k).toNat.testBit j=decide (k=j):=by rw[UQ h,Nat.testBit_two_pow]
def aoN{n:O}(h:0<=n):Md (n,())=J ((((n%1024).toNat/64:R):O),vA<|(n%1024).toNat%64,()):=by
 unfold Md;obtain⟨q,bD⟩:∃q:R,n%1024=(q:O):=⟨(n%1024).toNat,V⟩;have e1:cY n 1024=(q:O):=by rw[g32 h];exact bD
 have bh:cY (q:O) 64=((q%64:R):O):=aL6
 have ei:i64 (de (q:O) 64)=((q/64:R):O):=by exact dK rfl V
 rw[e1,bh,ei,bD,ie];refine a7 rfl ?_;have hQ:u64 (h0 IntKind.u64 (cC<|u64 1) ((q%64:R):O))=vA (q%64):=by
  refine T0.1 ?_;rw[UQ<|DK _ V];have rV:h0 IntKind.u64 (cC<|u64 1) ((q%64:R):O)=((2^(q%64):R):O):=by unfold h0;rw[ie,show IntKind.u64.bits=64 from rfl,show cC (u64 1)=1 from q' di,Int.one_mul,show Nat.min (q%64) 64=q%64 from D1 V];rfl
  grind [Z2,cC,q']
 rw[hQ]
def aHR{w:gx}(bR:T w.2.1=16){n:O}(h:0<=n):Tf (w,n,())=J (gW w (n%1024).toNat,()):=by
 unfold Tf;rw[aoN h];have xL:(n%1024).toNat<1024:=V;generalize(n%1024).toNat=q at xL;refine a7 b2 ?_;rw[ap7,eO,HC];generalize ap w.2.1 (q/64) (u64 0)=x;congr 2;have e:(x&&&vA (q%64)).toNat=if x.toNat.testBit (q%64) then 2^(q%64) else 0:=by
  rw[UInt64.toNat_and,UQ<|DK _ V];refine Nat.eq_of_testBit_eq λj => ?_
  grind
 have hp:0<2^(q%64):=Uc V;rw[ aBC,e];generalize 2^(q%64)=m at hp;cases x.toNat.testBit (q%64)
 .rfl
 show a2 (am ((m:R):O) 0)=af;rw[cc V];rfl
def aHP{w:gx}(bR:T w.2.1=16)(ht:0<=w.1/\w.1<=4611686018427387905)(n:O):ab6 (w,n,())=J (D<|dv n/\uh w n,()):=by
 by_cases h:dv n
 .have aC:=h.1
  have Y:=h.2;by_cases ac:w.1<=n
  .refine aW (a:=(af,())) (bA (il aC)<|bA (il Y)<|bj<|il ac) ?_
   rw[bS ⟨h,.inl ac⟩]
  have e:i64 (bw w.1 1024)=w.1-1024:=fF aLS aPg;by_cases av:w.1-1024<=n
  .refine aW (a:=(a2<|gW w (n%1024).toNat,())) (bA (il aC)<|bA (il Y)<|a8 (jG ac)<|bA (by rw[e];exact il av) ?_) ?_
   .rw[aHR bR aC];rfl
   cases ak:gW w (n%1024).toNat
   .rw[bS ⟨h,.inr ⟨av,ak⟩⟩];rfl
   rw[b1<|λce=>ce.2.elim ac (λOZ=>by rw[ak]at OZ;exact ev OZ.2 bP)];rfl
  refine aW (a:=(ag,())) (bA (il aC)<|bA (il Y)<|a8 (jG ac)<|bf (by rw[e];exact jG av)) ?_;rw[b1<|λce=>ce.2.elim ac<|λOZ=>av OZ.1]
 rw[b1<|λce=>h ce.1];by_cases aC:0<=n
 .refine(b3 (a:=(ag,()))<|bA (il aC)<|bf<|jG λY=>h ⟨aC,Y⟩)
 exact(b3 (a:=(ag,()))<|bf<|jG aC)
def Lz(w:gx)(n:O)(b:aE):gx:=(w.1,iA<|λp=>if p=(n%1024).toNat then b else gW w p,())
def UJ{l:ab hw}(hl:T l=16){t:O}{q:R}(bD:q<1024){x:hw}{b:aE}
  (hx:∀j,x.toNat.testBit j=if j=q%64 then b else(ap l (q/64)<|u64 0).toNat.testBit j) {p:R} (hp:p<1024) :
  gW (t,cA l (q/64) x,()) p=if p=q then b else gW (t,l,()) p:=by
 rw[HC,HC];have aF:p/64<T l:=V;have jE:p/64<T (l.set (q/64) x):=by rw[jj];exact aF
 show(ap (l.set (q/64) x) (p/64)<|u64 0).toNat.testBit (p%64)=_
 grind [nth_get]
def aoO{w:gx}(bR:T w.2.1=16){n:O}(h:0<=n)(b:aE):AM (w,n,b,())=J (Lz w n b,()):=by
 unfold AM Lz;rw[aoN h];have xL:(n%1024).toNat<1024:=V;generalize(n%1024).toNat=q at xL;have ao:q/64<T w.2.1:=V;refine a7 b2<|a7 b2 ?_;simp only[aCE,aH8,eO];have nL:∀j,(ap w.2.1 (q/64) (u64 0)|||vA (q%64)).toNat.testBit j=if j=q%64 then af else(ap w.2.1 (q/64)<|u64 0).toNat.testBit j:=by
  intro j;rw[UInt64.toNat_or,TK,adq<|DK _ V]
  grind
 have xD:T (cA w.2.1 (q/64) (ap w.2.1 (q/64) (u64 0)|||vA (q%64)))=16:=by unfold cA;rw[jj];exact bR
 cases b
 .refine(a7 b2<|a7 b2 ?_)
  congr 4;have ax:ap (cA w.2.1 (q/64) (ap w.2.1 (q/64) (u64 0)|||vA (q%64))) (q/64) (u64 0)=ap w.2.1 (q/64) (u64 0)|||vA (q%64):=by
   have:q/64<T (w.2.1.set (q/64) (ap w.2.1 (q/64) (u64 0)|||vA (q%64))):=by rw[jj];exact ao
   show ap (w.2.1.set (q/64) _) (q/64) (u64 0)=_;rw[nth_get this,M_]
  refine UL (t:=w.1) (by unfold cA at xD ⊢;rw[jj];exact xD) λp hp => ?_;rw[UJ xD xL (b:=ag) (λj => ?_) hp]
  .by_cases ac:p=q
   .grind
   rw[aD ac,aD ac,UJ bR xL nL hp,aD ac]
  rw[ax,UInt64.toNat_xor,Nat.testBit_xor,nL,adq<|DK _ V]
  grind
 refine a8 rfl ?_;congr 4;refine UL (t:=w.1) xD λp hp => ?_;exact UJ bR xL nL hp
def ma(w:gx)(t:O)(k:R):gx:=(w.1,iA<|λp=>df (gW w p)<|D (¬∃m,t<=m/\m<t+k/\m%1024=(p:O)),())
def aft(w:gx)(t:O)(k:R):(ma w t k).1=w.1:=by unfold ma;rfl
def afs(w:gx)(t:O)(k:R):(ma w t k).2.1.length=16:=by unfold ma;dsimp only;exact y0 _
def auN(w:gx)(t:O)(k:R)(u:O){p:R}(hp:p<1024):gW (u,(ma w t k).2) p=df (gW w p) (D (¬∃m,t<=m/\m<t+k/\m%1024=(p:O))):=by exact Bg _ _ hp
def auP{w:gx}(bR:T w.2.1=16)(t:O):ma w t 0=w:=by obtain⟨a,l,⟨⟩⟩:=w;unfold ma;congr 2;refine(UL (t:=a) bR λp hp => ?_).symm;rw[bS V];cases gW (a,l,()) p<;>rfl
def auO(w:gx){t:O}(ht:0<=t)(k:R):Lz (ma w t k) (t+k) ag=ma w t (k+1):=by
 unfold Lz;unfold ma;congr 2;refine HD λp hp => ?_;rw[Bg _ _ hp];by_cases h:p=((t+(k:O))%1024).toNat
 .rw[aH h,b1]
  .cases gW w p<;>rfl
  exact dq ⟨t+k,V,V,V⟩
 rw[aD h];congr 2;refine propext<|not_congr ⟨λ⟨m,Y,ac,av⟩=>⟨m,Y,V,av⟩,λ⟨m,Y,ac,av⟩=>⟨m,Y,?_,av⟩⟩;omega
def aHQ{w:gx}(bR:T w.2.1=16)(ht:0<=w.1/\w.1<=4611686018427387905)(n:O):GZ (w,n,())=J ((kD w n).1,(kD w n).2,()):=by
 unfold GZ;rw[zW];dsimp only;by_cases h:dv n
 .have aC:0<=n:=h.1
  have Y:n<=4611686018427387904:=h.2;rw[aD<|not_not_intro h];refine(b3 (a:=(ag,()))<|(bf<|cm V).trans aOR).trans<|(bf rfl).trans ?_;rw[aHP bR ht];by_cases hf:uh w n
  .rw[bS ⟨h,hf⟩,aD<|not_not_intro hf]
   refine(b3 rfl).trans<|(bf rfl).trans ?_;have e1:i64 (bw n w.1)=n-w.1:=fF (by show -9223372036854775808<=n-w.1;omega) (by show n-w.1<=9223372036854775807;omega);have bh:dk w.1 (i64<|aG n 1)=max w.1 (n+1):=by rw[g58,show i64 (aG n 1)=n+1 from fF aMg aPm]
   obtain⟨K,gz⟩:∃K:R,hE (dk (n-w.1) 0) 1024=(K:O):=⟨(hE (dk (n-w.1) 0) 1024).toNat,by rw[g57,g58];omega⟩;have my:(K:O)=min (max (n-w.1) 0) 1024:=by rw[<- gz,g57,g58]
   simp only[e1,gz];generalize hg:(λ(ae:O×gx×aj)=>(_:au<|aL (O×gx×aj)<|gx×O×aj))=f;have run:∀w0:gx,w0.1=w.1->T w0.2.1=16->bG f (0,w0,())=J (.ex 0 ((K:O),ma w0 w.1 K,())):=by
    intro w0 W6 W7;have step:∀i:R,i<K->f ((i:O),ma w0 w.1 i,())=J (.nx (((i+1:R):O),ma w0 w.1<|i+1,())):=by
     intro i ao;subst hg;have ej:i64 (aG (i:O) 1)=((i+1:R):O):=dK IS V;refine(bj<|cB V).trans ?_;dsimp only;have ei:i64 (aG (ma w0 w.1 i).1 (i:O))=w.1+i:=by rw[aft,W6];exact fF (by show -9223372036854775808<=w.1+(i:O);omega) (by show w.1+(i:O)<=9223372036854775807;omega)
     rw[ei,aoO (afs _ _ _) V,auO w0 V,ej];rfl
    have dh:f ((K:O),ma w0 w.1 K,())=J (.ex 0 ((K:O),ma w0 w.1 K,())):=by subst hg;exact bf<|cm V
    have:=(gS (f:=f) (λi=>((i:O),ma w0 w.1 i,())) K step 0<|ea _).trans<|dr dh;rw[show ma w0 w.1 0=w0 from auP W7 w.1]at this;exact this
   have last:∀w0:gx,w0.1=w.1->(∀p,p<1024->df (gW w0 p) (D<|¬p9 w n p)=df (gW w p) (D<|¬p9 w n p)) ->
     (an (bU 0 0) (ob (AM ((dk (ma w0 w.1 K).1<|i64<|aG n 1,(ma w0 w.1 K).2),n,af,())) λ(a:gx×aj)=>J (a.1,0,())):au<|gx×O×aj) =
     J ((max w.1<|n+1,iA<|λp=>iP (D<|(p:O)=n%1024)<|df (gW w p)<|D<|¬p9 w n p,()),0,()):=by
    intro w0 W6 W7;refine(c3 g62).trans ?_;rw[aft,W6,bh,aoO (w:=(max w.1<|n+1,(ma w0 w.1 K).2)) (afs w0 w.1 K) aC];refine(b3 rfl).trans ?_;unfold Lz;dsimp only;congr 4;refine HD λp hp => ?_;have hQ:gW (max w.1<|n+1,(ma w0 w.1 K).2) p=df (gW w0 p) (D (¬∃m,w.1<=m/\m<w.1+K/\m%1024=(p:O))):=auN _ _ _ _ hp;rw[hQ];by_cases k7:p=(n%1024).toNat
    .rw[aH k7,bS<|show(p:O)=n%1024 by omega];rfl
    rw[aD k7,b1<|show ¬(p:O)=n%1024 by omega,<- W7 p hp];show _=df _ _;congr 2;refine propext<|not_congr ?_;unfold p9;constructor
    .rintro⟨m,b',cN,hD⟩;exact⟨m,b',V,hD⟩
    rintro⟨m,b',cN,hD⟩;refine⟨w.1+(m-w.1)%1024,V,V,V⟩
   by_cases ak:1024<=n-w.1
   .refine(bj<|il ak).trans ?_
    refine(cE<|run (w.1,wa.2.1,w.2.2) rfl rfl).trans<|lc_ex'.trans ?_;refine last (w.1,wa.2.1,w.2.2) rfl λp hp => ?_;rw[b1 (p:=¬p9 w n p)<|not_not_intro ⟨w.1+((p:O)-w.1)%1024,V,V,V⟩,g45,g45]
   refine(bf<|jG ak).trans ?_;refine(cE<|run w rfl bR).trans<|lc_ex'.trans ?_;exact last w rfl λp hp=>rfl
  rw[b1<|λce=>hf ce.2,aH hf];refine(b3 rfl).trans<|bj rfl
 rw[aH h];by_cases aC:n<0
 .exact(b3 (a:=(af,()))<|bj<|cB aC).trans (bj rfl)
 refine(b3 (a:=(af,()))<|(bf<|cm aC).trans (by rw[cB];by_cases Y:4611686018427387904<n;exact Y;exact ev ⟨V,V⟩ h)).trans<|bj rfl
def HU(l:ai)(h:T l<=100000000):ot (l,())=J (l,()):=by exact c3 b2
def abF{b:ai}(bR:1<=w/\w<8)(b6:0<=a/\a+w<=T b):lD b a w=(gu b a w,a+w,0,()):=by
 grind [lD,gu]
def abE{b:ai}(b6:0<=a/\a+8<=T b):lD b a 8=(gu b a 8,a+8,0,())\/lD b a 8=(0,0,2,())/\gu b a 8 = -1:=by
 grind [lD,gu]
def avI(b:ai):Ol (b,())=J (eo b):=by
 unfold Ol eo;by_cases Y:T b<47
 .rw[aH Y];exact bj<|cB (by show(T b:O)<47;omega)
 rw[aD Y];refine a8 (cm (by show ¬(T b:O)<47;omega)) ?_;by_cases ac:946<T b
 .rw[aH ac];exact bj<|cB (by show(946:O)<(T b:O);omega)
 rw[aD ac];refine a8 (cm (by show ¬(946:O)<(T b:O);omega)) ?_;have ak:T b<=1000000:=V;have e:i64 (bw (len b) 16)=((T b-16:R):O):=dK aOz V;have bX:sub b 30 ((T b-16:R):O)=(b.drop 30).take (T b-46):=by rfl
 have aT:sub b ((T b-16:R):O) (len b)=b.drop (T b-16):=aMk
 have c1:cq 30 ((T b-16:R):O) (len b)=af:=b2;have c2:cq ((T b-16:R):O) (len b) (len b)=af:=b2;have gZ:T ((b.drop 30).take<|List.length b-46)<=1000000:=aLJ
 have iE:T (b.drop<|List.length b-16)<=1000000:=aD_
 have two:∀k:ai×aj->ai×aj->au (d6×O×aj),(an (cq 30 (i64<|bw (len b) 16)<|len b) (ob (ot (sub b 30<|i64<|bw (len b) 16,())) λc=>
   an (cq (i64<|bw (len b) 16) (len b)<|len b) (ob (ot (sub b (i64<|bw (len b) 16)<|len b,())) λd=>k c d)))=k ((b.drop 30).take<|List.length b-46,()) (b.drop<|List.length b-16,()):=by
  intro k;rw[e,bX,aT];exact a7 c1<|(bs<|HU _ V).trans ((a7 c2<|(bs<|HU _ V).trans<|b3 rfl))
 have rl:∀(a w:O) (k:O×O×O×aj->au (d6×O×aj)),ob (mx (b,a,w,())) k=k (lD b a w):=λa w k=>(bs<|afT b a w ak).trans<|b3 rfl;have Fb:aO 0 (bc 2)=af:=rfl;have xR:aO (i64<|aG 0 1) (bc 2)=af:=rfl;have Yo:aO 1 (bc 2)=af:=rfl;have B4:aO 0 (bc 1)=af:=rfl;have wj:=abF (b:=b) (a:=0) (w:=1) V V;have cn:=abF (b:=b) (a:=1) (w:=1) V V;have d9:=abF (b:=b) (a:=18) (w:=4) V V;rw[show(0:O)+1=1 from rfl]at wj;rw[show(1:O)+1=2 from rfl]at cn;rw[show(18:O)+4=22 from rfl]at d9;have aBb:dk 0 1=1:=rfl;have aBc:dk 1 2=2:=rfl;have Zn:gu b 2 8 = -1\/gu b 10 8 = -1\/gu b 22 8 = -1->¬ng (tF b):=by
  intro h az;have hp:=by first|exact az.1|exact az.2|exact az
  unfold rg dv at hp;have aJv:dM (tF b)=gu b 2 8:=rfl;have aJw:e1 (tF b)=gu b 10 8:=rfl;have aJx:(tF b).2.2.2.2.1=gu b 22 8:=rfl;omega
 refine a7 Fb<|(rl _ _ _).trans<|a7 xR<|(rl _ _ _).trans ?_;rw[wj];rw[aBb,cn];rw[aBc];refine(a7 Fb<|a7 Yo<|a7 Fb<|(rl _ _ _).trans<|(a7 xR<|(rl _ _ _).trans ?_));rcases abE (b:=b) (a:=2) V with cR|⟨cR,uG⟩
 .rw[show(2:O)+8=10 from rfl]at cR
  rw[cR];rw[show dk 2 10=10 from rfl];refine(a7 B4<|(rl _ _ _).trans ?_);rcases abE (b:=b) (a:=10) V with da|⟨da,Y?⟩
  .rw[show(10:O)+8=18 from rfl]at da
   rw[da];rw[show dk 10 18=18 from rfl,d9];rw[show dk 18 22=22 from rfl];refine(a7 B4<|(rl _ _ _).trans<|((two _).trans ?_));have a3:Ev ((gu b 0 1,gu b 1 1,cA (cA [0,0] (ah 0)<|gu b 2 8) (ah 1)<|gu b 10 8,gu b 18 4,(lD b 22 8).1,(b.drop 30).take<|List.length b-46,b.drop<|List.length b-16,()),())=J (D<|ng (gu b 0 1,gu b 1 1,[gu b 2 8,gu b 10 8],gu b 18 4,(lD b 22 8).1,(b.drop 30).take<|List.length b-46,b.drop<|List.length b-16,()),()):=age _;rcases abE (b:=b) (a:=22) V with fO|⟨fO,aBB⟩
   .rw[fO]at a3 ⊢
    rw[a3];by_cases az:ng<|tF b
    .rw[show ng (gu b 0 1,gu b 1 1,[gu b 2 8,gu b 10 8],gu b 18 4,gu b 22 8,(b.drop 30).take<|List.length b-46,b.drop<|List.length b-16,())=ng (tF b) from rfl,bS az,aH az];rfl
    rw[show ng (gu b 0 1,gu b 1 1,[gu b 2 8,gu b 10 8],gu b 18 4,gu b 22 8,(b.drop 30).take<|List.length b-46,b.drop<|List.length b-16,())=ng (tF b) from rfl,b1 az,aD az];rfl
   rw[fO,aD<|Zn<|.inr<|.inr aBB];rfl
  rw[da,aD<|Zn<|.inr<|.inl Y?];exact(a7 B4<|(rl _ _ _).trans<|two _)
 rw[cR,aD<|Zn<|.inl uG];exact(a7 B4<|(rl _ _ _).trans<|a7 B4<|(rl _ _ _).trans<|two _)
def acX:∀{l m:ab O},T l=T m->(p2 (λ(p q:O)=>am p q) l m=af↔l=m)
 |[],[],_=>by simp[p2]
 |a::l,b::m,h=>by have ih:=acX (l:=l) (m:=m) (by grind);unfold p2 at ih ⊢;rw[acz,yL,d5,ih,D0];refine and_congr_left λ_ => ?_;exact beq_iff_eq
def PA(s:aU):lx (s.t,2,())=J ((fZ s 0).t,()):=ao_
def aAS(s:aU):lx (s.t,5,())=J ((fZ s 1).t,()):=ao_
def aAT(s:aU):lx (s.t,6,())=J ((fZ s 2).t,()):=ao_
theorem aDX{g:wV}(h:g=kg\/su g):T g.2.1<=32:=by
 rcases h with rfl|h
 .show T ([]:ai)<=32;simp
 exact Hk h.2.2
theorem aFH{r:eW}(h:mI r):T r.1.2.1<=32/\T r.2.1.2.1<=32/\T r.2.2.1.2.1<=32:=by
 rcases h with rfl|⟨Y,_,_,_,ac,av⟩
 .exact⟨by show T ([]:ai)<=32;simp,by show T ([]:ai)<=32;simp,by show T ([]:ai)<=32;simp⟩
 grind [aDX]
def agz{r:eW}(h:mI r)(n:O):(pt r n).1.length<=32:=by
 grind [aFH,pt]
def aCQ(e:ew):T (hk e)=2:=by
 unfold hk;split
 .rfl
 split<;>rfl
def tw(s:aU)(b:ai):aU×R×d6:=
 if ¬(eo b).2.1=0 then(s,2,sj) else if mm s.e (eo b).1 then(s,13,sj)
 else if(hb s (eo b).1).2.1=ag then(⟨s.e,(hb s (eo b).1).1⟩,5,sj) else(⟨s.e,(hb s (eo b).1).1⟩,0,(eo b).1)
def aAV{s:aU}(hs:bJ n s)(b:ai):PC (s.t,b,())=J ((tw s b).1.t,(tw s b).2.1,(tw s b).2.2,()):=by
 unfold PC tw;dsimp only;rw[avI];refine aW rfl ?_;by_cases aC:(eo b).2.1=0
 .rw[aD<|not_not_intro aC]
  refine bA (ck aC) ?_;obtain⟨az,ahm,_,_⟩:=Kw aC;have mf:=Kx aC;generalize(eo b).1=v at az mf ahm;have hid:=hs.e.id;have aB:=hs.e.key;have e1:i64 (bw 1 s.e.id)=1-s.e.id:=fF (by show -9223372036854775808<=1-s.e.id;omega) (by show 1-s.e.id<=9223372036854775807;omega);have fst:(aa (am v.2.1<|i64<|bw 1 s.e.id) (aa (a2<|am s.e.ph 7) (J (a2<|am s.e.ph 8,()))<|some (ag,())) (J (ag,())):au<|Bool×aj)=J (D<|v.2.1=1-s.e.id/\¬s.e.ph=7/\¬s.e.ph=8,()):=by rw[e1];simp(disch:=first|assumption|omega|(dsimp only;omega)|decide) only[go_sem,Int.reduceToNat];exact lZ and_assoc
  refine aW (show _=J (D<|v.2.1=1-s.e.id/\¬s.e.ph=7/\¬s.e.ph=8,()) from fst) ?_;dsimp only;have dP:=zI v;have i?:=az.1.2.2.2.2.2.2.2;have chk:∀k:ai,T k<=1000000->hb s v=uM s.p k (i0 v) v.2.2.2.2.2.2.1->(ob (zc (v,())) λ(ig:ai×O×aj)=>ob (FO (s.p,k,ig.1,v.2.2.2.2.2.2.1,())) λ(hN:jy×aE×aj)=>
    aa hN.2.1 (J ((s.e.t,hN.1,()),0,v,())) (J ((s.e.t,hN.1,()),5,sj,())):au<|eK×R×d6×aj) =
    (if(hb s v).2.1=ag then J ((⟨s.e,(hb s v).1⟩:aU).t,5,sj,()) else J ((⟨s.e,(hb s v).1⟩:aU).t,0,v,())):=by
   intro k aB aA;refine aW (Wn v az.1)<|aW (aDf s.p k (i0 v) _ aB V) ?_;rw[aA];cases ak:(uM s.p k (i0 v) v.2.2.2.2.2.2.1).2.1
   .rw[aH rfl];exact bf rfl
   rw[aD bP];exact bj rfl
  by_cases Y:v.2.1=1-s.e.id/\¬s.e.ph=7/\¬s.e.ph=8
  .rw[bS Y]
   refine bA rfl<|aW (show Ce (s.e.key,())=_ from aji s.e.key V) ?_;by_cases ac:v.1=2
   .refine bA (ck ac) (aW (show Ln (s.e.ring,v.2.2.2.1,())=_ from aFL _ _)<|aW (show wg (s.e.ph,())=_ from Ko _) ?_)
    dsimp only;have snd:(aa (D<|i1 s.e.ph) (ob (oV (s.e.t,())) λ(dW:ab O×aj)=>aa (p2 (λ(p q:O)=>am p q) v.2.2.1 dW.1) (J ((pt s.e.ring v.2.2.2.1).2.1,()))<|some (ag,())) (J (ag,())):au<|Bool×aj) =
      J (D<|i1 s.e.ph/\v.2.2.1=hk s.e/\(pt s.e.ring v.2.2.2.1).2.1=af,()):=by
     by_cases hl:i1 s.e.ph
     .rw[bS hl]
      refine bA rfl<|aW (zO s.e) ?_;have b6:=acX (l:=v.2.2.1) (m:=hk s.e) (by rw[mf,aCQ];rfl);by_cases hp:v.2.2.1=hk s.e
      .refine bA (b6.2 hp) ?_
       cases hf:(pt s.e.ring v.2.2.2.1).2.1
       .rw[b1 (by rintro⟨_,_,h⟩;cases h)]
       rw[bS ⟨hl,hp,rfl⟩]
      refine a8 ((w3 _).mp<|λh=>hp<|b6.1 h) ?_;rw[b1<|λh=>hp h.2.1]
     rw[b1 hl,b1<|λh=>hl h.1];rfl
    refine aW snd ?_;dsimp only;by_cases av:i1 s.e.ph/\v.2.2.1=hk s.e/\(pt s.e.ring v.2.2.2.1).2.1=af
    .rw[bS av]
     have eU:¬mm s.e v:=by
      unfold mm;rintro(h|h|h|⟨_,h⟩)
      .exact h Y.1
      .exact Y.2.1 h
      .exact Y.2.2 h
      rcases h with h|h|h
      .exact h av.1
      .exact h av.2.1
      rw[av.2.2]at h;cases h
     rw[aD eU];refine bA rfl<|(chk _ aOr (by unfold hb JH;rw[aH ac])).trans ?_;split<;>rfl
    rw[b1 av];have eU:mm s.e v:=by
     unfold mm;by_cases b6:i1 s.e.ph
     .by_cases ak:v.2.2.1=hk s.e
      .refine .inr (.inr<|.inr ⟨ac,.inr<|.inr<|(w3 _).mp λaA=>av ⟨b6,ak,aA⟩⟩)
      exact .inr<|.inr (.inr ⟨ac,.inr<|.inl ak⟩)
     exact .inr<|.inr (.inr ⟨ac,.inl b6⟩)
    rw[aH eU];rfl
   refine a8 (cc ac) ?_;have eU:¬mm s.e v:=by
    unfold mm;rintro(h|h|h|⟨h,_⟩)
    .exact h Y.1
    .exact Y.2.1 h
    .exact Y.2.2 h
    exact ac h
   rw[aD eU];refine(chk _ aPD (by unfold hb JH;rw[aD ac])).trans ?_;split<;>rfl
  rw[b1 Y];have eU:mm s.e v:=by
   unfold mm;by_cases b6:v.2.1=1-s.e.id
   .by_cases ak:s.e.ph=7
    .exact .inr (.inl ak)
    refine .inr<|.inr (.inl<|lI λaA=>Y ⟨b6,ak,aA⟩)
   exact .inl b6
  rw[aH eU];rfl
 rw[aH aC];exact bf<|cc aC
def aAU{s:aU}(hs:bJ n s)(b:ai):∃ps:O,PB (s.t,b,())=J ((ir s b).1.t,(ir s b).2.getD sj,ps,())/\(ps=0↔¬(ir s b).2=aq):=by
 unfold PB;dsimp only;rw[aAV hs];by_cases aC:(eo b).2.1=0
 .by_cases Y:mm s.e (eo b).1
  .have e1:tw s b=(s,13,sj):=by unfold tw;rw[aD<|not_not_intro aC,aH Y]
   have bh:ir s b=(fZ s 3,aq):=by unfold ir;rw[aD<|not_not_intro aC,aH Y]
   rw[e1,bh];refine⟨13,aW rfl<|a8 rfl<|a8 rfl<|bA rfl ?_,bP⟩;exact(bs<|YJ s).trans rfl
  by_cases ac:(hb s (eo b).1).2.1=ag
  .have e1:tw s b=(⟨s.e,(hb s (eo b).1).1⟩,5,sj):=by unfold tw;rw[aD<|not_not_intro aC,aD Y,aH ac]
   have bh:ir s b=(fZ ⟨s.e,(hb s (eo b).1).1⟩ 1,aq):=by unfold ir;rw[aD<|not_not_intro aC,aD Y,aH ac]
   rw[e1,bh];refine⟨5,aW rfl<|a8 rfl<|a8 rfl<|a8 rfl<|a7 rfl ?_,bP⟩;exact(bs<|aAS _).trans rfl
  have e1:tw s b=(⟨s.e,(hb s (eo b).1).1⟩,0,(eo b).1):=by unfold tw;rw[aD<|not_not_intro aC,aD Y,aD ac]
  rw[e1];generalize a3:(eo b).1=v;rw[a3]at Y ac;generalize hp:(hb s v).1=p;by_cases av:v.1=1
  .have bh:ir s b=(⟨s.e,p⟩,J v):=by unfold ir;rw[aD<|not_not_intro aC,a3,aD Y,aD ac,aH av,hp]
   rw[bh];refine⟨0,aW rfl<|bA rfl ?_,bP⟩;exact bj<|ff aMA
  have ID:v.1=2:=by
   obtain⟨az,_⟩:=Kw aC;rw[a3]at az;rcases az.1.1 with h|h
   .exact ev h av
   exact h
  have hm:=aHQ hs.e.win hs.e.top v.2.2.2.2.1;have pU:∀x:aU×au d6,x=(if ¬(kD s.e.win v.2.2.2.2.1).2=0 then(fZ ⟨s.e,p⟩ 2,aq) else(⟨{ s.e with win:=(kD s.e.win v.2.2.2.2.1).1,ring:=r1 s.e v.2.2.2.1 },p⟩,J v))->ir s b=x:=by intro x hx;unfold ir;rw[aD<|not_not_intro aC,a3,aD Y,aD ac,aD av,hp];exact hx.symm
  by_cases aJ:(kD s.e.win v.2.2.2.2.1).2=0
  .rw[pU _<|by rw[aD<|not_not_intro aJ]]
   refine⟨0,aW rfl<|bA rfl<|a8 (eI ID) ?_,bP⟩;refine aW (show GZ (s.e.win,v.2.2.2.2.1,())=_ from hm)<|bA (ck aJ) ?_;have hh:(aa (am v.2.2.2.1 s.e.ring.2.2.1.1) (J (a2<|am s.e.ph 4,())) (J (ag,())):au<|Bool×aj)=J (D<|v.2.2.2.1=s.e.ring.2.2.1.1/\¬s.e.ph=4,()):=If
   refine aW hh ?_;dsimp only;by_cases bv:s.e.ring.2.2.1.1=v.2.2.2.1/\¬s.e.ph=4
   .rw[bS ⟨bv.1.symm,bv.2⟩,show r1 s.e v.2.2.2.1=(wL s.e.ring).1 by unfold r1;rw[aH bv]]
    refine bA rfl<|(bs<|show C3 (s.e.ring,())=_ from amg _).trans rfl
   rw[b1<|λh=>bv ⟨h.1.symm,h.2⟩,show r1 s.e v.2.2.2.1=s.e.ring by unfold r1;rw[aD bv]];rfl
  rw[pU _<|by rw[aH aJ]];refine⟨6,aW rfl<|bA rfl<|a8 (eI ID) ?_,bP⟩;refine aW (show GZ (s.e.win,v.2.2.2.2.1,())=_ from hm)<|a8 (cc aJ) ?_;exact(bs<|show lx ((⟨s.e,p⟩:aU).t,6,())=_ from aAT _).trans rfl
 have e1:tw s b=(s,2,sj):=by unfold tw;rw[aH aC]
 have bh:ir s b=(fZ s 0,aq):=by unfold ir;rw[aH aC]
 rw[e1,bh];refine⟨2,aW rfl<|a8 rfl<|bA rfl ?_,bP⟩;exact(bs<|PA s).trans rfl
def aHt(x y:aN):i64 (hG IntKind.i64 (i64<|h0 IntKind.i64 (i64<|aV x)<|cC<|u64 8)<|i64<|aV y)=((256*x.toNat+y.toNat:R):O):=by
 have hx:=x.toNat_lt;have bW:=y.toNat_lt;have e1:i64 (aV x)=(x.toNat:O):=fF (by rw[Ir];omega) (by rw[Ir];omega);have bh:i64 (aV y)=(y.toNat:O):=fF (by rw[Ir];omega) (by rw[Ir];omega);have ei:h0 IntKind.i64 (x.toNat:O) (cC<|u64 8)=((256*x.toNat:R):O):=by unfold h0;rw[show cC (u64 8)=8 from q' di,show(2:O)^(Nat.min (8:O).toNat IntKind.i64.bits)=256 from rfl];omega
 rw[e1,bh,ei,fF (n:=((256*x.toNat:R):O)) V V];show i64 (((jv 64 ((256*x.toNat:R):O)|||BitVec.ofInt 64 ((y.toNat:R):O)).toNat:R):O)=_;rw[D2,D2,BitVec.toNat_or,M5,M5,w1 V,w1 V];have hQ:256*x.toNat|||y.toNat=256*x.toNat+y.toNat:=by
  have:=Nat.shiftLeft_add_eq_or_of_lt (b:=y.toNat) (i:=8) V x.toNat
  grind [Nat.shiftLeft_eq]
 grind [fF]
def aww{b:ai}(h:2<=T b):WM (b,())=J ((dJ b:O),()):=by refine a7 b2<|a7 b2 ?_;rw[aHt];rfl
def aHs(b:ai):dJ b<65536:=by unfold dJ;have aC:=(b.getD 0 0).toNat_lt;have Y:=(b.getD 1 0).toNat_lt;omega
def Dj(l:ab α)(h:a=(n:O)):sub l a (len l)=l.drop n:=by unfold sub;rw[h,ie,i5];rw[dV];show _<=(T l:O).toNat-_;omega
def awv{f:j6}{b:ai}(hf:T f.1<=1000000)(ak:T b<=1000000)(hs:0<=f.2.1/\f.2.1<=65535):OK (f,b,())=J ((hn f b).1,(hn f b).2,()):=by
 obtain⟨buf,skip,bad,⟨⟩⟩:=f;replace hf:T buf<=1000000:=hf;replace hs:0<=skip/\skip<=65535:=hs;unfold OK hn;dsimp only;refine aW (afy buf b hf ak) ?_;dsimp only;have hall:T (buf++b)<=2000000:=aLt
 generalize buf++b=all at hall;generalize hg:(λx=>(_:au<|aL (ab ai×ai×j6×aj)<|j6×ab ai×aj))=F

 have ah8:∀{a:ai} {h1:O},0<=h1->h1<=T a->hE h1 (len a)=((h1.toNat:R):O):=λY ac=>by rw[g57,g22];omega
 have run:∀(k:R) (bV:ab ai) (a:ai) (h1:O) (p6:O),0<=h1->h1<=T a->T a<=2000000->T (a.drop h1.toNat)<=k->T bV+k<=2000000 ->
   bG F (bV,a,(buf,h1,p6,()),())=J (.ex 0 (bV++(gP k p6<|a.drop h1.toNat).2.2.2,(gP k p6<|a.drop h1.toNat).1,(buf,((gP k p6<|a.drop h1.toNat).2.1:O),(gP k p6<|a.drop h1.toNat).2.2.1,()),())):=by
  intro k;induction k with
  |zero=>
   intro bV a h1 p6 Y ac av aJ bv;refine dr ?_;subst hg;have bN:i64 (bw h1 ((h1.toNat:R):O))=0:=az_
   dsimp only;rw[ah8 Y ac,Dj a rfl,bN];refine a7 aLG<|bA (cB (by show(T (a.drop h1.toNat):O)<2;omega)) ?_
   grind [gP]
  |succ k ih=>
   intro bV a h1 p6 Y ac av aJ bv;have bN:i64 (bw h1 ((h1.toNat:R):O))=0:=az_
   have dY:F (bV,a,(buf,h1,p6,()),())=F (bV,a,(buf,h1,p6,()),()):=rfl
   conv at dY=>rhs;rw[<- hg]
   dsimp only at dY;rw[ah8 Y ac,Dj a rfl,bN]at dY;have aA:cq ((h1.toNat:R):O) (len a) (len a)=af:=aLG
   replace dY:=dY.trans<|c3 aA;have IZ:T (a.drop h1.toNat)=T a-h1.toNat:=dV;unfold gP;generalize a.drop h1.toNat=c at aJ dY IZ;by_cases c1:T c<2
   .rw[aH c1]
    refine dr<|dY.trans (bA (cB (by show(T c:O)<2;omega)) ?_)
    grind
   rw[aD c1];have ax:=aHs c;have bh:i64 (aG 2 ((dJ c:R):O))=((2+dJ c:R):O):=dK (by show(2:O)+((dJ c:R):O)=_;omega) V;replace dY:=dY.trans<|a8 (cm (by show ¬(T c:O)<2;omega))<|(bs<|aww V).trans<|b3 rfl;dsimp only at dY;rw[bh]at dY;by_cases c2:dJ c=0\/1024<dJ c
   .rw[aH c2]
    have XX:(aa (am ((dJ c:R):O) 0) (J (af,())) (J (aK 1024 ((dJ c:R):O),())):au<|Bool×aj)=J (af,()):=by
     rcases c2 with h|h
     .rw[h];rfl
     grind [bf,cc,cB]
    replace dY:=dY.trans<|(bs XX).trans<|(bj rfl);by_cases fK:2+dJ c<=T c
    .rw[aH fK]
     replace dY:=dY.trans<|bj<|il (by show((2+dJ c:R):O)<=(T c:O);omega);refine(dT dY).trans ?_;have:=ih bV c ((2+dJ c:R):O) (i64<|p6+1) V V V (by rw[ie,dV];omega) V;rw[ie]at this;exact this
    rw[aD fK];have hQ:i64 (bw ((2+dJ c:R):O)<|len c)=((2+dJ c-T c:R):O):=dK (by show((2+dJ c:R):O)-(T c:O)=_;omega) V;rw[hQ]at dY;replace dY:=dY.trans<|bf<|jG (by show ¬((2+dJ c:R):O)<=(T c:O);omega);refine dr<|dY.trans ?_;rw[g?];rfl
   rw[aD c2];have XX:(aa (am ((dJ c:R):O) 0) (J (af,())) (J (aK 1024 ((dJ c:R):O),())):au<|Bool×aj)=J (ag,()):=a8 (cc V) aOR;replace dY:=dY.trans<|(bs XX).trans<|(bf rfl);by_cases fK:T c<2+dJ c
   .rw[aH fK]
    replace dY:=dY.trans<|bj<|cB (by show(T c:O)<((2+dJ c:R):O);omega);refine dr<|dY.trans ?_;rw[g?];rfl
   rw[aD fK];have axY:df (cq 2 ((2+dJ c:R):O)<|len c) (am ((2+dJ c:R):O) ((2+dJ c:R):O))=af:=by rw[ck rfl];simp(disch:=first|assumption|omega|(dsimp only;omega)|decide) only[go_sem,Int.reduceToNat];omega
   have axZ:∀y:ai,bO 32 (bB (aQ bV)<|aQ [y])=af:=λy=>by rw[g21];refine bS ?_;show(T bV+1)*32<=_;omega
   have ax0:cq ((2+dJ c:R):O) (len c) (len c)=af:=fq;replace dY:=dY.trans<|a8 (cm (by show ¬(T c:O)<((2+dJ c:R):O);omega))<|a7 axY<|a7 (axZ _)<|c3 ax0;have rV:sub c 2 ((2+dJ c:R):O)=(c.drop 2).take (dJ c):=by unfold sub;rw[show(2:O).toNat=2 from rfl,ie,MJ]
   rw[rV,Dj c rfl]at dY;refine(dT dY).trans ?_;have:=ih (bV++[(c.drop 2).take<|dJ c]) (c.drop<|2+dJ c) 0 p6 V V aD_ (by rw[show(0:O).toNat=0 from rfl,vi,dV];omega) (by rw[d7];show T bV+1+k<=_;omega);refine MN this ?_;rw[kL];rfl
 by_cases aiB:T all<skip.toNat
 .rw[aH aiB]
  have dY:F (aI ai,all,(buf,skip,bad,()),())=J (.ex 0 ([],[],(buf,skip-(T all:O),bad,()),())):=by
   subst hg;dsimp only;have e1:hE skip (len all)=((T all:R):O):=by rw[g57,g22];omega
   have bh:i64 (bw skip ((T all:R):O))=skip-(T all:O):=fF (by show -9223372036854775808<=skip-(T all:O);omega) (by show skip-(T all:O)<=9223372036854775807;omega);rw[e1,Dj all rfl,bh,List.drop_length];exact a7 fq<|bj rfl
  refine(cE<|dr dY).trans<|(a7 g62 ?_);exact(bs<|HU [] bP)
 rw[aD aiB];have:=run (T all) [] all skip bad hs.1 V hall aD_ e8;refine(cE<|show bG F (aI ai,all,(buf,skip,bad,()),())=_ from this).trans<|(a7 g62 ?_);dsimp only;refine(bs<|HU _ ?_);have cl:∀(k:R) (p6:O) (a:ai),(gP k p6 a).1.length<=T a:=by
  intro k;induction k with
  |zero=>intro p6 a;exact cx _
  |succ k ih=>
   intro p6 a;unfold gP;split
   .exact cx _
   split
   .split
    .exact i6 (ih _ _) aD_
    simp
   split
   .exact cx _
   exact i6 (ih _ _) aD_
 have:=cl (T all) bad<|all.drop skip.toNat;rw[dV]at this;omega
end Yp
namespace Yp
open Go
section
variable {p:Prop}
def aPu(h:p:=by
 split
 .exact cL.mono (m:=73) (t:=1) (g:=0) (W4 at_ n _) V V V
 exact aA):p:=h
end
end Yp
namespace Yp
open Go
set_option maxRecDepth 100000
set_option maxHeartbeats 2000000
def TG:=@Prod.mk.inj
def nI(l:ab qM):R:=(l.map λx=>T x.2.1).sum
theorem aA2(l:ab qM)(x:qM):nI (l++[x])=nI l+T x.2.1:=by unfold nI;simp
def f9(h:f8):R:=(ap h.2.1 0 iG).1.length+(ap h.2.1 1 iG).1.length+(ap h.2.1 2 iG).1.length+(ap h.2.1 3 iG).1.length
structure cL(m t g:R)(s x:aU):Prop where
 bV:nI x.e.bV+950*T x.e.queue<=nI s.e.bV+950*T s.e.queue+m
 Cs:T x.e.bV+T x.e.queue<=T s.e.bV+T s.e.queue+t
 tab:T x.p.2.1+T x.e.queue<=T s.p.2.1+T s.e.queue+t
 got:T x.e.got<=T s.e.got+g
 buf:f9 x.e.hub<=f9 s.e.hub
theorem cL.refl(s:aU):cL 0 0 0 s s:=⟨V,V,V,V,V⟩
def cL.trans{t:R}{s x y:aU}(h:cL m t g s x)(k:cL oh t' j9 x y):cL (m+oh) (t+t') (g+j9) s y:=aLY
def cL.mono{t:R}{s x:aU}(h:cL m t g s x)(hm:m<=oh)(ht:t<=t')(hg:g<=j9):cL oh t' j9 s x:=by obtain⟨c9,dl,dB,fp,mu⟩:=h;exact⟨V,V,V,V,V⟩
def cL.to{t:R}{s x y:aU}(h:cL m t g s x)(k:cL oh t' j9 x y){cN fP bT:R}(hm:m+oh<=cN)(ht:t+t'<=fP)(hg:g+j9<=bT):cL cN fP bT s y:=(h.trans k).mono hm ht hg
theorem cL.same(s x:aU)(bg:x.e.bV=s.e.bV)(bD:T x.e.queue<=T s.e.queue)(hp:x.p.2.1=s.p.2.1)(hg:x.e.got=s.e.got)(ak:x.e.hub.2.1=s.e.hub.2.1):cL 0 0 0 s x:=by refine⟨by rw[bg];omega,by rw[bg];omega,by rw[hp];omega,by rw[hg];omega,?_⟩;unfold f9;rw[ak];exact cx _
def aDh(p:jy)(k b:ai):(yb p k b).2.1.length<=T p.2.1+1:=by
 unfold yb
 grind
theorem ahd(s:aU)(v:d6)(k:ai):cL (48+T v.2.2.2.2.2.1) 1 0 s (lm s v k).1:=by
 unfold lm;split
 .have Y:=aDh s.p k (i0 v)
  have ac:T (uL<|i0 v++qp k (i0 v))=48+T v.2.2.2.2.2.1:=by rw[ZV,d7,Lm,zI];omega
  refine⟨?_,?_,?_,aMA,by unfold f9;rw[ZY];omega⟩
  .grind [aA2]
  .grind
  grind
 exact aKK
def IC(s:aU)(b:ai):cL (48+T b) 1 0 s (gs s b).1:=by
 have aC:cL (48+T b) 1 0 s s:=(cL.refl s).mono V V V;unfold gs;split
 .exact aC
 split
 .exact aC
 split
 .exact aC
 have:=ahd s (yq s.e b) s.e.ring.1.2.1;dsimp only;split
 .exact⟨this.bV,this.Cs,this.tab,this.got,this.buf⟩
 exact this
def OU(s:aU)(o:O)(b:ai):cL (48+T b) 1 0 s (nU s o b).1:=by
 unfold nU;split
 .grind [ahd,Dc]
 exact aKK
theorem rZ(s:aU)(k:R):cL 0 0 0 s<|fZ s k:=cL.same _ _ rfl (cx _) rfl rfl rfl
def aqB{c n:O}{b:ai}(h:(sZ c n b).2.1=0):T b<=900:=by
 unfold sZ at h;split at h
 .rename_i hf;exact hf.2.2.2.2
 cases h
def W2(s:aU)(q:eb)(hm:(l0 (q.1,q.2.1,mL s.e.stan,q.2.2.2)).1.length<=m):cL (48+min m 900) 1 0 s<|lA s q:=by
 have aC:cL 0 0 0 s<|D_ s q:=cL.same _ _ rfl (cx _) rfl rfl rfl;unfold lA;split
 .rename_i h
  have ak:=aqB h.2;split
  .exact aC.to (OU _ _ _) V V V
  exact aC.to (IC _ _) V V V
 exact aKK
def EQ(s:aU)(p:O):cL 0 0 1 s<|qg s p:=by refine⟨by show nI s.e.bV+950*T ([]:ab ai)<=_;simp,by show T s.e.bV+T ([]:ab ai)<=_;simp,aMU,PH s.e p,cx _⟩
def ahc(s:aU):cL 0 0 1 s<|oJ s:=by
 unfold oJ;split
 .exact aKK
 refine⟨by show nI []+950*T ([]:ab ai)<=_;simp[nI],by show T ([]:ab qM)+T ([]:ab ai)<=_;simp,aMU,PH s.e 8,?_⟩;exact ea _
def Iz(s:aU):cL 0 0 1 s (fN s).1:=by
 unfold fN;split
 .exact cL.mono (cL.same s (abf s _) rfl (cx _) rfl rfl rfl) V V V
 split
 .exact cL.to (cL.same s (GK s (nV s.e.store s.e.power).1) rfl (cx _) rfl rfl rfl) (ahc<|GK s (nV s.e.store s.e.power).1) V V V
 exact aKK
def ahf(s:aU):cL 948 1 3 s (pJ s).1:=by
 unfold pJ;split
 .exact aKK
 split
 .exact(Iz s).mono V V V
 have Y:=(Iz s).trans<|EQ (fN s).1 1;have ac:cL 0 0 0 (qg (fN s).1 1)<|Qi (qg (fN s).1 1) (fN s).2.1:=cL.same _ _ rfl (cx _) rfl rfl rfl;exact(Y.trans ac).to (W2 _ _<|cx _) V V V
def ahg:∀(k:R) (s:aU),cL 0 0 0 s (ri k s)
 |0,s=>cL.refl s
 |k+1,s=>by
  unfold ri;split
  .exact cL.refl s
  rename_i b q bD;split
  .rename_i aC
   have ak:T b<=900:=by
    unfold gs at aC;split at aC
    .cases aC
    rename_i h;exact(sL.1 h).2
   have Y:=IC s b;have Jk:=(ane s b).2.1;have ac:cL 0 0 0 s<|wh (gs s b).1 q:=by
    obtain⟨c9,dl,dB,fp,mu⟩:=Y;rw[Jk]at c9 dl dB;have hl:T s.e.queue=T q+1:=by rw[bD];rfl
    exact⟨by show nI (gs s b).1.e.bV+950*T q<=_;omega,by show(gs s b).1.e.bV.length+T q<=_;omega,by show(gs s b).1.p.2.1.length+T q<=_;omega,fp,mu⟩
   exact ac.to (ahg k _) V V V
  exact cL.refl s
def IA(s:aU):cL 0 0 0 s<|rj s:=ahg _ s
def Mk{k l:O}(h:fl no=J (k,l))(aC:ec k=0)(v:ai):T (gT (no,v,()))<=T (body k v):=by
 grind [gT,rB,lF,h']
def akc(n:eb)(h:n.1=ag\/¬n.2.1=101/\¬n.2.1=201):T (iu<|mC n)<=25:=by
 have nA:∀x:ai,T x=6->T (gT (11,x,()))<=3:=λx hx=>by have:=Mk EF rfl x;rw[y1,hx]at this;simpa using this
 have aw9:∀x:ai,T x=2->T (gT (39,x,()))<=2:=λx hx=>by have:=Mk OH rfl x;rw[y1,hx]at this;simpa using this
 have axc:∀x:ai,T x=3->T (gT (70,x,()))<=2:=λx hx=>by have:=Mk WG rfl x;rw[y1,hx]at this;simpa using this
 have ak:∀l,T (gh l)<=16:=λl=>aMM
 have c9:=nA (dS n.2.2.1 6) vE;have dl:=aw9 (dS n.2.2.2.1 2) vE;have dB:=axc (dS n.2.1 3) vE;unfold iu mC;rw[ d7,AG];split
 .have:=ak (io [(11,dS n.2.2.1 6,()),(39,dS n.2.2.2.1 2,()),(70,dS n.2.1 3,())])
  simp;omega
 grind
theorem aBU(n:eb):18<=T (iu<|mC n):=by
 have bR:mo (io (mC n).2.1)=af:=by
  unfold mC
  exact aKO
 grind [iu,AG,rR]
def al7(n:eb)(r:O):T (kV n r)<=25:=by
 unfold kV l0;split
 .refine akc _ (.inl ?_)
  unfold Hw
  exact aKO
 simp
def aqv(c s:O)(h:¬c=101/\¬c=201):(l0 ((oH c).1,(oH c).2.1,s,(oH c).2.2.2)).1.length<=25:=by
 unfold l0;split
 .exact akc _ (.inr h)
 simp
def au9{m:M}(az:iJ m=af):T (iu<|rT m)<=17:=by
 have dl:T (gT s5)<=2:=by have:=Mk OH di [57,49];rw[y1]at this;exact this
 unfold iu rT;rw[d7,d7,AG];split
 .rename_i h
  have Y:=abN az h;obtain⟨k,l,ac,av⟩:=xl.1 Y;rw[EF]at ac;obtain⟨rfl,rfl⟩:=TG<|pb ac;have aJ:=(WO EF av).2.1;have c9:=Mk EF di (g7 11 m.2.1).1;rw[y1]at c9;have:T (gh<|io [(11,(g7 11 m.2.1).1,()),s5])=8:=by rw[rR];rfl
  simp only[acA,MD,d7,gM];simp only[show((1:O)<=2)=True from by simp]at c9;simp at c9;omega
 have:T (gh<|io [s5])=8:=by rw[rR];rfl
 simp only[acA,MD,d7,gM];omega
def ahb(s:aU)(c:O)(h:¬c=101/\¬c=201):cL 73 1 0 s<|lA s<|oH c:=(W2 s (oH c)<|aqv c _ h).mono V V V
def IB(s:aU)(n:eb)(r:O):cL 73 1 0 s (gs s<|kV n r).1:=(IC s _).mono (by have:=al7 n r;omega) V V
def W4{s x:aU}(h:cL 0 0 0 s x)(n:eb)(r:O):cL 73 1 0 s (gs x<|kV n r).1:=h.to (IB x n r) V V V
def awV(s:aU)(q:eb)(x:O):cL 73 1 2 s<|rP s q x:=by
 have az:=al7 q 0;unfold rP;split
 .exact aOi
 split
 .exact(OU s _ _).mono V V V
 split
 .exact aOi
 split
 .have Y:=(Iz s).trans (EQ (fN s).1 2)
  have ac:cL 0 0 0 (qg (fN s).1 2)<|x0 (qg (fN s).1 2) (fN s).2.1 x:=cL.same _ _ rfl (cx _) rfl rfl rfl;exact(Y.trans ac).to (OU _ _ _) V V V
 split
 .exact(Iz s).mono V V V
 exact(Iz s).to (rZ _ 3) V V V
def W1(s:aU)(k q:O)(b:ai):cL 0 0 1 s<|Id s k q b:=by refine⟨cx _,cx _,cx _,?_,cx _⟩;show T (s.e.got++[(k,hk s.e,q,b,())])<=_;simp
def awY(s:aU)(k:O):cL 0 0 1 s<|Ex s k:=W1 s k 0 []
theorem aw1(s:aU)(v:d6)(q:eb):cL 73 1 2 s<|tg s v q:=by
 unfold tg;dsimp only;split
 .exact aOi
 split
 .exact awV s q _
 split
 .have Y:cL 0 0 1 s<|Qf s<|ap v.2.2.1 (ah<|1-s.e.id) 0:=by refine⟨cx _,cx _,cx _,?_,cx _⟩;show T (s.e.got++[_])<=_;simp
  exact Y.to (ahb _ 301 di) V V V
 exact aOi
def EP(s:aU):cL 0 0 1 s<|p' s:=by
 unfold p';split
 .exact cL.to (cL.same s (ya s 3) rfl (cx _) rfl rfl rfl) (awY _ 4) V V V
 exact aKK
def aw2(s:aU)(n:eb):cL 73 1 1 s<|uJ s n:=by
 have aA:cL 73 1 1 s<|fZ s 3:=(rZ s 3).mono V V V;unfold uJ;split
 .exact aA
 split
 .exact(IB s n _).mono V V V
 split
 .exact(IB s n _).mono V V V
 split
 .exact aPu
 exact aPu
def ahe(s:aU):cL 0 0 0 s<|p? s:=by
 grind [p?,cL.same]
def awZ(s:aU):cL 0 0 0 s<|rY s:=by
 unfold rY;split
 .exact at_
 exact cL.refl s
def aw0(s:aU):cL 0 0 1 s<|s? s:=by
 unfold s?;split
 .exact EQ s 0
 exact aKK
def aw3(s:aU)(n:eb):cL 73 1 1 s<|sy s n:=by
 have aA:cL 73 1 1 s<|fZ s 3:=(rZ s 3).mono V V V;unfold sy;split
 .split
  .exact aw2 s n
  unfold vv;split
  .exact aA
  split
  .exact(ahe s).mono V V V
  exact cL.to (cL.same s (⟨S7 s.e _,s.p⟩) rfl (cx _) rfl rfl rfl) (ahb _ 301 di) V V V
 split
 .split
  .exact cL.mono (m:=73) (t:=1) (g:=0) (W4 at_ n 0) V V V
  unfold vr;split
  .exact aA
  split
  .exact aN9
  exact aN9
 unfold wb;split
 .split
  .exact(IB s n 0).mono V V V
  split
  .exact(IB s n 0).to (EQ _ 0) V V V
  exact aA
 split
 .split
  .exact cL.mono (cL.same s (afp s) rfl (cx _) rfl rfl rfl) V V V
  split
  .exact(EQ s 0).mono V V V
  exact aA
 exact aA
theorem alm{b:ai}(h:(nf b).2.1=0):18<=T b:=by
 rcases alk b with⟨n,Y,ac,av⟩|⟨e,Y,ac⟩
 .grind [aBU]
 grind
def aH4(m:M):10<=T (iu m):=by
 grind [iu,AG,rR]
def awX(s:aU)(v:d6):∃m t g,cL m t g s (s6 s v)/\4*m<=5*(48+T v.2.2.2.2.2.1)/\20*t<=48+T v.2.2.2.2.2.1/\20*g<=48+T v.2.2.2.2.2.1:=by
 unfold s6;split
 .split
  .rename_i Y ac
   have:=alm ac;exact⟨73,1,2,(EP s).to (aw3 _ _) V V V,V,V,V⟩
  split
  .rename_i Y ac av
   obtain⟨aJ,bv⟩:=Kv av;have c_:=aH4 (gc v.2.2.2.2.2.1).1;rw[bv]at c_;unfold wK;split
   .exact aO9
   split
   .exact⟨0,0,2,(EP s).to (W1 _ _ _ _) V V V,V,V,V⟩
   split
   .exact aO9
   have eJ:=au9 aJ;exact⟨65,1,1,(EP s).to (IC _ _) V V V,V,V,V⟩
  exact⟨0,0,1,(EP s).to (rZ _ 0) V V V,V,V,V⟩
 grind [alm,aw1,rZ]
end Yp
namespace Yp
open Go
set_option maxRecDepth 100000
set_option maxHeartbeats 2000000
def aGs(s:aU)(b:ai):(gs s b).1.e.ph=s.e.ph:=(ane s b).1
def ak1:∀(k:R) (s:aU),(ri k s).e.ph=s.e.ph
 |0,s=>rfl
 |k+1,s=>by
  unfold ri;split
  .rfl
  split
  .exact(ak1 k _).trans (aGs s _)
  rfl
def aDk(s:aU):(rj s).e.ph=s.e.ph:=ak1 _ s
def awJ(w:bQ)(i:aE)(s:aU):((f? w i s).e i).ph=s.e.ph/\((f? w i s).e<|!i).ph=(w.e<|!i).ph:=by
 have key:((h8 w i s).e i).ph=s.e.ph/\((h8 w i s).e<|!i).ph=(w.e<|!i).ph:=by
  constructor
  .show(ho w.e i _ i).ph=_
   unfold ho;rw[aH rfl]
  show(ho w.e i _<|!i).ph=_;exact aOJ
 unfold f?;split
 .exact key
 exact key
def awL(w:bQ)(i:aE)(Y:(w.e i).bV=[])(ac:(w.e i).got=[]):f? w i (w.at i)=w:=by
 unfold f?;rw[aD<|λh=>h.2 h.1];unfold h8;have e1:ho w.e i { (w.at i).e with bV:=[],got:=[] }=w.e:=by
  funext j;unfold ho;split
  .rename_i h;subst h
   show({ (w.e j) with bV:=[],got:=[] }:ew)=w.e j;rw[<- Y];have:({ (w.e j) with bV:=(w.e j).bV,got:=[] }:ew)={ (w.e j) with bV:=(w.e j).bV,got:=(w.e j).got }:=by rw[ac]
   rw[this]
  rfl
 have bh:ho w.d8 i (w.d8 i++(w.at i).e.got)=w.d8:=by
  funext j;unfold ho;split
  .rename_i h;subst h
   show w.d8 j++(w.e j).got=_;rw[ac,g?]
  rfl
 rw[e1,bh];show(⟨w.e,w.p,w.a'++(w.e i).bV.map (iH i),w.old++(w.e i).bV.map (iH i),w.d8⟩:bQ)=w;rw[Y,TI,g?,g?]
def aw5(s:aU)(b:ai):cL 0 0 0 s (ir s b).1:=by
 have hp:=afn s (eo b).1;have Y:∀k,cL 0 0 0 s<|fZ ⟨s.e,(hb s (eo b).1).1⟩ k:=λk=>cL.same _ _ rfl (cx _) hp rfl rfl;unfold ir;split
 .exact rZ s 0
 split
 .exact rZ s 3
 split
 .exact Y 1
 split
 .exact cL.same _ _ rfl (cx _) hp rfl rfl
 split
 .exact Y 2
 exact cL.same _ _ rfl (cx _) hp rfl rfl
structure A0(C:R)(s x:aU):Prop where
 bV:4*(nI x.e.bV+950*T x.e.queue)<=4*(nI s.e.bV+950*T s.e.queue)+5*C
 Cs:20*(T x.e.bV+T x.e.queue)<=20*(T s.e.bV+T s.e.queue)+C
 tab:20*(T x.p.2.1+T x.e.queue)<=20*(T s.p.2.1+T s.e.queue)+C
 got:20*T x.e.got<=20*T s.e.got+C
 buf:f9 x.e.hub<=f9 s.e.hub
def cL.n9{t C:R}{s x:aU}(h:cL m t g s x)(hm:4*m<=5*C)(ht:20*t<=C)(hg:20*g<=C):A0 C s x:=by obtain⟨c9,dl,dB,fp,mu⟩:=h;exact⟨V,V,V,V,mu⟩
def A0.trans{C D:R}{s x y:aU}(h:A0 C s x)(k:A0 D x y):A0 (C+D) s y:=aLY
def aDQ{b:ai}(h:(eo b).2.1=0):(eo b).1.2.2.2.2.2.1.length+46=T b:=by
 unfold eo at h ⊢;split at h
 .cases h
 split at h
 .cases h
 split at h
 .rename_i Y ac av
  rw[aD Y,aD ac,aH av];show T ((b.drop 30).take<|List.length b-46)+46=_
  grind
 cases h
def aw7(s:aU)(b:ai):A0 (T b+2) s<|pu s b:=by
 have aC:=aw5 s b;unfold pu;split
 .exact aC.n9 V V V
 rename_i v a3;obtain⟨Y,rfl⟩:=S2 a3;have hl:=aDQ Y;obtain⟨m,t,g,ac,av,aJ,bv⟩:=awX (ir s b).1 (eo b).1;exact((aC.trans ac).trans<|IA _).n9 V V V
def nN(l:ab ai):R:=(l.map λx=>T x+2).sum
def ahj:∀(l:ab ai) (s:aU),A0 (nN l) s (qX s l)
 |[],s=>(cL.refl s).n9 V V V
 |b::l,s=>by
  have hp:nN (b::l)=T b+2+nN l:=by unfold nN;simp
  unfold qX;split
  .exact(cL.refl s).n9 V V V
  exact(aw7 s b).trans<|ahj l _
def V5:∀(k:R) (bad:O) (a:ai),(gP k bad a).1.length+nN (gP k bad a).2.2.2<=T a
 |0,bad,a=>by exact cx _
 |k+1,bad,a=>by
  unfold gP;split
  .exact cx _
  split
  .split
   .have:=V5 k (i64<|bad+1) (a.drop<|2+dJ a)
    grind
   exact ea _
  split
  .exact cx _
  rename_i Y ac av;have:=V5 k bad<|a.drop (2+dJ a)
  grind [nN]
def aDm(f:j6)(b:ai):(hn f b).1.1.length+nN (hn f b).2<=T f.1+T b:=by
 unfold hn;split
 .exact ea _
 have:=V5 (T<|f.1++b) f.2.2.1<|(f.1++b).drop f.2.1.toNat
 grind
def US(h:f8)(c:O)(b:ai)(aC:(fL h c b).2.2=0)(aJ:T h.2.1=4):f9 (fL h c b).1+nN (fL h c b).2.1<=f9 h+T b:=by
 unfold fL at aC ⊢;split at aC
 .cases aC
 split at aC
 .cases aC
 rename_i Y ac;rw[aD Y,aD ac];have aA:=sL.1 Y;have hp:=aDm (ap h.2.1 c.toNat iG) b;obtain⟨x,y,z,u,hx⟩:=WJ aJ;have Xw:c=0\/c=1\/c=2\/c=3:=by unfold iR at aA;omega
 unfold f9;dsimp only;rcases Xw with rfl|rfl|rfl|rfl
 all_goals
  rw[hx]at hp ⊢;show _+nN (hn (ap [x,y,z,u] _ iG) b).2<=_
  first
   | (
    show(hn x b).1.1.length+T y.1+T z.1+T u.1+nN (hn x b).2<=T x.1+T y.1+T z.1+T u.1+T b;have:(hn x b).1.1.length+nN (hn x b).2<=T x.1+T b:=hp;omega)
   | (
    show T x.1+(hn y b).1.1.length+T z.1+T u.1+nN (hn y b).2<=T x.1+T y.1+T z.1+T u.1+T b;have:(hn y b).1.1.length+nN (hn y b).2<=T y.1+T b:=hp;omega)
   | (
    show T x.1+T y.1+(hn z b).1.1.length+T u.1+nN (hn z b).2<=T x.1+T y.1+T z.1+T u.1+T b;have:(hn z b).1.1.length+nN (hn z b).2<=T z.1+T b:=hp;omega)
   | (
    show T x.1+T y.1+T z.1+(hn u b).1.1.length+nN (hn u b).2<=T x.1+T y.1+T z.1+T u.1+T b;have:(hn u b).1.1.length+nN (hn u b).2<=T u.1+T b:=hp;omega)
structure apl(C:R)(s x:aU):Prop where
 bV:4*(nI x.e.bV+950*T x.e.queue)+5*f9 x.e.hub<=4*(nI s.e.bV+950*T s.e.queue)+5*(f9 s.e.hub+C)
 Cs:20*(T x.e.bV+T x.e.queue)+f9 x.e.hub<=20*(T s.e.bV+T s.e.queue)+f9 s.e.hub+C
 tab:20*(T x.p.2.1+T x.e.queue)+f9 x.e.hub<=20*(T s.p.2.1+T s.e.queue)+f9 s.e.hub+C
 got:20*T x.e.got+f9 x.e.hub<=20*T s.e.got+f9 s.e.hub+C
def WP{s:aU}(aJ:T s.e.hub.2.1=4)(c:O)(b:ai):apl (T b) s<|p4 s c b:=by
 unfold p4;split
 .exact⟨V,V,V,V⟩
 rename_i aC;have ak:=US s.e.hub c b (sL.1 aC) aJ;obtain⟨c9,dl,dB,fp,mu⟩:=ahj (fL s.e.hub c b).2.1 (s9 s c b);have e1:(s9 s c b).e.hub=(fL s.e.hub c b).1:=rfl;have bh:(s9 s c b).e.bV=s.e.bV:=rfl;have ei:(s9 s c b).e.queue=s.e.queue:=rfl;have hQ:(s9 s c b).p=s.p:=rfl;have rV:(s9 s c b).e.got=s.e.got:=rfl;rw[e1]at mu;rw[bh,ei]at c9 dl;rw[ei,hQ]at dB;rw[rV]at fp;exact⟨V,V,V,V⟩
def fB(l:ab gD):R:=(l.map λf=>T f.2.2.1).sum
theorem ajs(l m:ab gD):fB (l++m)=fB l+fB m:=by unfold fB;rw[Ud,List.sum_append]
theorem Fl(f:gD)(l:ab gD):fB (f::l)=T f.2.2.1+fB l:=rfl
def Cw(f:gD):Prop:=(f.1=0\/f.1=1)/\(0<=f.2.1/\f.2.1<4)/\T f.2.2.1<=948
structure hF(w:bQ):Prop where
 s:∀i,tu (w.at i)
 bV:∀i,(w.e i).bV=[]
 got:∀i,(w.e i).got=[]
 a':∀f∈w.a',Cw f
 old:∀f∈w.old,Cw f
def gn(w:bQ):R:=(w.e ag).queue.length+(w.e af).queue.length
def gC(w:bQ):R:=f9 (w.e ag).hub+f9 (w.e af).hub
def e'(w:bQ):R:=T w.p.2.1+T w.old+T w.a'+T (w.d8 ag)+T (w.d8 af)+3*gn w
def i9(w:bQ):R:=fB w.a'+gC w+950*gn w
theorem FU(f:aE->α)(i:aE)(x:α):ho f i x i=x:=by unfold ho;rw[aH rfl]
def FV(f:aE->α)(i:aE)(x:α):ho f i x (!i)=f (!i):=aOJ
def abP(f:aE->R)(i:aE):f ag+f af=f i+f (!i):=by cases i<;>(show f ag+f af=_)<;>first|rfl|exact Nat.add_comm _ _
def T2(w:bQ)(i:aE):gn w=(w.e i).queue.length+(w.e<|!i).queue.length:=abP (λj=>(w.e j).queue.length) i
def Tz(w:bQ)(i:aE):gC w=f9 (w.e i).hub+f9 (w.e<|!i).hub:=abP (λj=>f9 (w.e j).hub) i
def YW(w:bQ)(i:aE):T (w.d8 ag)+T (w.d8 af)=T (w.d8 i)+T (w.d8<|!i):=abP (λj=>T<|w.d8 j) i
structure apm(w:bQ)(i:aE)(x:aU)(v:bQ):Prop where
 a':v.a'=w.a'++x.e.bV.map (iH i)\/v.a'=[]
 Q:gn v=T x.e.queue+(w.e<|!i).queue.length
 B:gC v<=f9 x.e.hub+f9 (w.e<|!i).hub
 Z:e' v<=T x.p.2.1+(T w.old+T x.e.bV)+(T w.a'+T x.e.bV)+(T (w.d8 i)+T x.e.got)+T (w.d8<|!i)+3*gn v
def ads(h:f8)(c:O):f9 (iB h c).1<=f9 h:=by
 grind [ap,iB,iG,cA,f9]
def HG(w:bQ)(c:O):gn (gG w c)=gn w/\gC (gG w c)<=gC w/\e' (gG w c)<=e' w/\fB (gG w c).a'<=fB w.a':=by
 have hf:T ((w.a'.filter λf=>decide (¬f.2.1=c)))<=T w.a':=np _ _;have aC:=ads (w.e ag).hub c;have Y:=ads (w.e af).hub c;refine⟨rfl,?_,?_,?_⟩
 .show f9 (iB (w.e ag).hub c).1+f9 (iB (w.e af).hub c).1<=f9 (w.e ag).hub+f9 (w.e af).hub
  omega
 .show T w.p.2.1+T w.old+T (w.a'.filter λf=>decide (¬f.2.1=c))+T (w.d8 ag)+T (w.d8 af)+3*gn w<=e' w
  unfold e';omega
 show fB (w.a'.filter λf=>decide (¬f.2.1=c))<=fB w.a';generalize w.a'=l;induction l with
 |nil=>exact cx _
 |cons f l ih=>
  grind [Fl]
def aqW{w:bQ}(h:∀f∈w.a',Cw f):(t_ w).a'=[]:=by
 show((((w.a'.filter λf=>decide (¬f.2.1=0)).filter λf=>decide (¬f.2.1=1)).filter λf=>decide (¬f.2.1=2)).filter λf=>decide (¬f.2.1=3))=[];rw[yP,yP,yP,Hb];intro f hf;have:=(h f hf).2.1
 grind
def aqX(w:bQ):gn (t_ w)=gn w/\gC (t_ w)<=gC w/\e' (t_ w)<=e' w:=by obtain⟨c9,dl,dB,_⟩:=HG w 0;obtain⟨fx,e7,kr,_⟩:=HG (gG w 0) 1;obtain⟨c1,c2,fK,_⟩:=HG (gG (gG w 0) 1) 2;obtain⟨d1,d2,d3,_⟩:=HG (gG (gG (gG w 0) 1) 2) 3;exact⟨rfl,by show gC (gG _ 3)<=_;omega,by show e' (gG _ 3)<=_;omega⟩
def aB8{s:aU}(h:tu s)(c:O):tu ⟨n3 s.e c,s.p⟩:=by obtain⟨n,h⟩:=h;exact⟨n,aCg h.e c,h.p⟩
def Kb{w:bQ}(h:hF w)(c:O):hF<|gG w c:=
 ⟨λi=>aB8 (h.s i) c,h.bV,h.got,λf hf=>h.a' f (vh.1 hf).1,h.old⟩
theorem akp{i:aE}{x:aU}(h:bJ n x):∀f∈x.e.bV.map (iH i),Cw f:=by intro f hf;obtain⟨y,bW,rfl⟩:=DR.1 hf;obtain⟨Y,ac⟩:=h.e.outs y bW;exact⟨by cases i<;>first|exact .inl rfl|exact .inr rfl,Y,ac⟩
def aCy{w:bQ}(h:hF w){i:aE}{x:aU}(hx:tu x):hF<|h8 w i x:=by
 obtain⟨n,ax⟩:=hx;have a?:sn n { x.e with bV:=[],got:=[] }:={ ax.e with bV:=ea _,got:=ea _,outs:=λ_ hx=>by cases hx };refine⟨λj => ?_,λj => ?_,λj => ?_,λf hf => ?_,λf hf => ?_⟩
 .by_cases aF:j=i
  .subst aF
   exact⟨n,by show sn n<|ho w.e j _ j;rw[FU];exact a?,ax.p⟩
  have eT:j=!i:=aMX
  subst eT;obtain⟨m,hm⟩:=h.s<|!i;refine⟨max n m,?_,i6 ax.p<|Nat.le_max_left _ _⟩;show sn _<|ho w.e i _<|!i;rw[FV];exact FG hm.e<|Nat.le_max_right _ _
 .by_cases aF:j=i
  .subst aF;show(ho w.e j _ j).bV=[];rw[FU]
  have eT:j=!i:=aMX
  subst eT;show(ho w.e i _<|!i).bV=[];rw[FV];exact h.bV _
 .by_cases aF:j=i
  .subst aF;show(ho w.e j _ j).got=[];rw[FU]
  have eT:j=!i:=aMX
  subst eT;show(ho w.e i _<|!i).got=[];rw[FV];exact h.got _
 .rcases i7.1 hf with hf|hf
  .exact h.a' f hf
  grind [akp]
 rcases i7.1 hf with hf|hf
 .exact h.old f hf
 grind [akp]
def akx{w:bQ}(h:hF w){i:aE}{x:aU}(hx:tu x):hF (f? w i x)/\apm w i x (f? w i x):=by
 have aC:=aCy (i:=i) h hx;have BA:gn (h8 w i x)=T x.e.queue+(w.e<|!i).queue.length:=by rw[T2 _ i];show(ho w.e i _ i).queue.length+(ho w.e i _<|!i).queue.length=_;rw[FU,FV]
 have a4:gC (h8 w i x)=f9 x.e.hub+f9 (w.e<|!i).hub:=by rw[Tz _ i];show f9 (ho w.e i _ i).hub+f9 (ho w.e i _<|!i).hub=_;rw[FU,FV]
 have BC:e' (h8 w i x)=T x.p.2.1+(T w.old+T x.e.bV)+(T w.a'+T x.e.bV)+(T (w.d8 i)+T x.e.got)+T (w.d8<|!i)+3*gn (h8 w i x):=by
  have hl:=YW (h8 w i x) i;have e1:T ((h8 w i x).d8 i)=T (w.d8 i)+T x.e.got:=by
   show T (ho w.d8 i _ i)=_
   grind [FU]
  have bh:T ((h8 w i x).d8<|!i)=T (w.d8<|!i):=by show T (ho w.d8 i _<|!i)=_;rw[FV]
  grind [e',h8]
 unfold f?;split
 .obtain⟨fx,e7,kr⟩:=aqX (h8 w i x)
  refine⟨Kb (Kb (Kb (Kb aC 0) 1) 2) 3,.inr<|aqW aC.a',fx.trans BA,i6 e7<|Hk a4,?_⟩;omega
 exact⟨aC,.inl rfl,BA,Hk a4,Hk BC⟩
def ajt(i:aE)(l:ab qM):fB (l.map<|iH i)=nI l:=by unfold fB nI;rw[List.map_map];rfl
theorem Uu{w:bQ}(h:hF w)(i:aE)(c:O)(b:ai):hF (lj w i c b)/\((lj w i c b).a'=[]\/∃o,(lj w i c b).a'=w.a'++o/\4*(fB o+950*gn (lj w i c b))+5*gC (lj w i c b)<=4*(950*gn w)+5*(gC w+T b)) /\
  4*(950*gn (lj w i c b))+5*gC (lj w i c b)<=4*(950*gn w)+5*(gC w+T b)/\20*e' (lj w i c b)+4*gC (lj w i c b)<=20*e' w+4*(gC w+T b):=by
 have hf:tu<|p4 (w.at i) c b:=aB7 (h.s i) c b;obtain⟨n,ax⟩:=h.s i;obtain⟨c9,dl,dB,fp⟩:=WP (s:=w.at i) ax.e.feed c b;have bg:(w.at i).e.bV=[]:=h.bV i;have hg:(w.at i).e.got=[]:=h.got i;rw[bg]at c9 dl;rw[hg]at fp;have dM:nI ([]:ab qM)=0:=rfl;have e1:T ([]:ab qM)=0:=rfl;have bh:T ([]:ab tZ)=0:=rfl;rw[dM]at c9;rw[e1]at dl;rw[bh]at fp;obtain⟨Y,ac,av,aJ,bv⟩:=akx (i:=i) h hf;have bD:=T2 w i;have ak:=Tz w i;have bN:=YW w i;have cn:(w.at i).e.queue.length=(w.e i).queue.length:=rfl;have cR:f9 (w.at i).e.hub=f9 (w.e i).hub:=rfl;have da:(w.at i).p.2.1.length=T w.p.2.1:=rfl;have BC:e' w=T w.p.2.1+T w.old+T w.a'+T (w.d8 ag)+T (w.d8 af)+3*gn w:=rfl;rw[show lj w i c b=f? w i (p4 (w.at i) c b) from rfl];refine⟨Y,?_,V,V⟩;rcases ac with ac|ac
 .refine .inr ⟨_,ac,?_⟩
  rw[ajt];omega
 exact .inl ac
def abj{w:bQ}(h:hF w)(i:aE){x:aU}(hx:tu x){t:R}(hg:cL m t g (w.at i) x):hF (f? w i x)/\i9 (f? w i x)<=i9 w+m/\e' (f? w i x)<=e' w+3*t+g:=by
 obtain⟨c9,dl,dB,fp,mu⟩:=hg;have bg:(w.at i).e.bV=[]:=h.bV i;have BN:(w.at i).e.got=[]:=h.got i;rw[bg]at c9 dl;rw[BN]at fp;have dM:nI ([]:ab qM)=0:=rfl;have e1:T ([]:ab qM)=0:=rfl;have bh:T ([]:ab tZ)=0:=rfl;rw[dM]at c9;rw[e1]at dl;rw[bh]at fp;obtain⟨Y,ac,av,aJ,bv⟩:=akx (i:=i) h hx;have bD:=T2 w i;have ak:=Tz w i;have bN:=YW w i;have cn:(w.at i).e.queue.length=(w.e i).queue.length:=rfl;have cR:f9 (w.at i).e.hub=f9 (w.e i).hub:=rfl;have da:(w.at i).p.2.1.length=T w.p.2.1:=rfl;have BC:e' w=T w.p.2.1+T w.old+T w.a'+T (w.d8 ag)+T (w.d8 af)+3*gn w:=rfl;have k6:fB (f? w i x).a'<=fB w.a'+nI x.e.bV:=by
  rcases ac with ac|ac
  .rw[ac,ajs,ajt];exact cx _
  rw[ac];exact ea _
 refine⟨Y,?_,?_⟩
 .unfold i9;omega
 omega
def A3:=@List.mem_or_eq_of_mem_set
def TY:=@List.mem_of_mem_eraseIdx
def vl:=@List.length_eraseIdx_le
def Hr:=@List.exists_cons_of_ne_nil
def TH:=@Nat.mul_add
def Ux{a:go}(h:Aq a):T a.2.2.2.2.1<=900:=by
 rcases h with rfl|h
 .exact ea _
 exact h.1.2.2.2.2
def awU(s:aU){a:go}(h:T a.2.2.2.2.1<=900):cL 948 1 0 s<|t6 s a:=by
 unfold t6;split
 .exact(OU s _ _).mono V V V
 exact(IC s _).mono V V V
def awW(s:aU):cL 0 0 1 s<|s2 s:=by
 unfold s2;split
 .exact(ahe s).mono V V V
 split
 .exact(awZ s).mono V V V
 exact aw0 s
def aw6(s:aU)(a:go):cL 0 0 0 s<|qy s a:=cL.same _ _ rfl (cx _) rfl rfl rfl
def ahh{s:aU}(hs:bJ n s):cL 948 1 1 s<|qu s:=by
 have aC:=aw6 s (j3 s.e.ask).1;unfold qu;split
 .exact aC.to (awU _<|Ux<|R1 hs.e.askr) V V V
 split
 .exact aC.to (awW _) V V V
 exact aC.mono V V V
def OV{s:aU}(hs:bJ n s):cL 948 1 3 s<|rv s:=by
 have az:cL 0 0 0 s<|As s:=cL.same _ _ rfl (cx _) rfl rfl rfl;unfold rv;split
 .exact aKK
 split
 .split
  .exact az.to (ahf _) V V V
  exact(az.trans<|ahh<|FI hs).to (IA _) V V V
 exact(ahh hs).to (IA _) V V V
def aw4(s:aU)(b:ai):cL 950 1 1 s (sB s b).1:=by
 have aC:cL 950 1 1 s s:=(cL.refl s).mono V V V;unfold sB;split
 .exact aC
 split
 .exact aC
 split
 .exact aC
 have bD:(nP s.e.queue (nj b s.e.day).1).1.length<=T s.e.queue+1:=by
  grind [nP]
 have Y:cL 950 1 0 s<|wh s (nP s.e.queue (nj b s.e.day).1).1:=by
  refine⟨?_,?_,?_,cx _,cx _⟩
  .show nI s.e.bV+950*(nP s.e.queue (nj b s.e.day).1).1.length<=_;omega
  .show T s.e.bV+(nP s.e.queue (nj b s.e.day).1).1.length<=_;omega
  show T s.p.2.1+(nP s.e.queue (nj b s.e.day).1).1.length<=_;omega
 exact(Y.trans<|W1 _ 1 0 (nj b s.e.day).1).to (IA _) V V V
def W0{s:aU}(hs:bJ n s)(a:gF):cL 950 1 3 s (pq s a).1:=by
 have aC:cL 950 1 3 s s:=(cL.refl s).mono V V V;have bD:∀(x:aU) (q:eb),cL 948 1 0 x<|lA x q:=λx q=>(W2 x q<|cx _).mono V V V;unfold pq;split
 .exact(aw4 s _).mono V V V
 split
 .exact(ahf s).mono V V V
 split
 .unfold s1
  split
  .exact aC
  split
  .exact aC
  split
  .exact(EQ s 0).mono V V V
  have Y:cL 0 0 0 s<|VU s:=cL.same _ _ rfl (ea _) rfl rfl rfl;exact Y.to (bD _ _) V V V
 split
 .unfold s8
  split
  .exact aC
  split
  .exact aC
  exact(bD _ _).mono V V V
 split
 .unfold tq
  split
  .exact aC
  split
  .exact aC
  split
  .exact aC
  split
  .exact aC
  have Y:cL 0 0 0 s ⟨{ s.e with ph:=4,ring:=(lU s.e.ring (pI s.e.ring).1<|n5 s.e (pI s.e.ring).1 a.2.2.2.2.1).1 },s.p⟩:=cL.same _ _ rfl (cx _) rfl rfl rfl;exact Y.to (bD _ _) V V V
 split
 .unfold s4
  split
  .exact aC
  split
  .exact aC
  split
  .exact aC
  have Y:cL 0 0 0 s<|ya s 5:=cL.same _ _ rfl (cx _) rfl rfl rfl;exact Y.to (bD _ _) V V V
 split
 .exact(OV hs).mono V V V
 split
 .exact(ahc s).mono V V V
 split
 .unfold vz
  repeat(first|exact aC|exact cL.mono (m:=0) (t:=0) (g:=0) at_ V V V|split)
 split
 .exact cL.mono (m:=0) (t:=0) (g:=0) at_ V V V
 exact aC
def H2:∀(k:R) {w:bQ},hF w->(k<=T w.a'\/w.a'=[])->hF (lM k w) /\
  4*(fB (lM k w).a'+950*gn (lM k w))+5*gC (lM k w)<=5*(fB (w.a'.take k)+gC w)+4*(fB (w.a'.drop k)+950*gn w) /\
  20*e' (lM k w)+4*gC (lM k w)<=20*e' w+4*(gC w+fB (w.a'.take k))
 |0,w,h,aB=>⟨h,by show 4*(fB w.a'+950*gn w)+5*gC w<=5*(fB []+gC w)+4*(fB w.a'+950*gn w);omega,by show 20*e' w+4*gC w<=_;omega⟩
 |k+1,w,h,aB=>by
  unfold lM;split
  .grind
  rename_i aC;obtain⟨f,r,hf⟩:=Hr aC;have Jc:k<=T r:=by
   grind
  have e:(h9 w 0 0).1=lj { w with a':=r } (mM f.1) f.2.1 f.2.2.1:=aOA
  have Y:hF { w with a':=r }:=⟨h.s,h.bV,h.got,λg hg=>h.a' g<|by grind,h.old⟩;obtain⟨fx,e7,kr,p5⟩:=Uu Y (mM f.1) f.2.1 f.2.2.1;rw[e];generalize lj { w with a':=r } (mM f.1) f.2.1 f.2.2.1=v at fx e7 kr p5;have cn:gn ({ w with a':=r }:bQ)=gn w:=rfl;have cR:gC ({ w with a':=r }:bQ)=gC w:=rfl;have da:e' ({ w with a':=r }:bQ)+1=e' w:=by
   grind [e']
  have e_:fB ((f::r).take<|k+1)=T f.2.2.1+fB (r.take k):=rfl;rcases e7 with a3|⟨o,a3,e7⟩
  .obtain⟨c1,c2,fK⟩:=H2 k fx (.inr a3)
   grind [fB]
  have cP:k<=T v.a':=by rw[a3,d7];exact i6 Jc<|Nat.le_add_right _ _
  obtain⟨c1,c2,fK⟩:=H2 k fx<|.inl cP
  grind [ajs]
def S3{w:bQ}(h:hF w)(i:aE):hF (sC w i)/\i9 (sC w i)<=i9 w+948/\e' (sC w i)<=e' w+6:=by obtain⟨n,ax⟩:=h.s i;exact abj h i ⟨_,akw ax⟩<|OV ax
def aFS{w:bQ}(h:hF w):hF (pP w)/\4*i9 (pP w)<=5*i9 w+7600/\20*e' (pP w)<=20*e' w+4*i9 w+240:=by
 obtain⟨c9,dl,dB⟩:=H2 (T w.a') h<|.inl<|cx _;rw[qH]at dl dB;rw[List.drop_length]at dl;obtain⟨fx,e7,kr⟩:=S3 c9 ag;obtain⟨c1,c2,fK⟩:=S3 fx af;have dM:fB ([]:ab gD)=0:=rfl;rw[dM]at dl;refine⟨c1,?_,?_⟩
 .show 4*i9 (sC (sC (lM (T w.a') w) ag) af)<=_
  unfold i9 at *
  omega
 show 20*e' (sC (sC (lM (T w.a') w) ag) af)<=_;unfold i9;omega
theorem ny{f:j6}(h:la f):T f.1<=1025:=by rcases h.2 with h|h<;>omega
def apg{w:bQ}(h:hF w):gC w<=8200:=by
 have key:∀i,f9 (w.e i).hub<=4100:=λi=>by obtain⟨n,ax⟩:=h.s i;have aC:=ny<|ax.e.fd 0;have Y:=ny<|ax.e.fd 1;have ac:=ny<|ax.e.fd 2;have av:=ny<|ax.e.fd 3;show(ap (w.at i).e.hub.2.1 0 iG).1.length+(ap (w.at i).e.hub.2.1 1 iG).1.length+(ap (w.at i).e.hub.2.1 2 iG).1.length+(ap (w.at i).e.hub.2.1 3 iG).1.length<=4100;omega
 have aC:=key ag;have Y:=key af;unfold gC;omega
structure mt(w v:bQ):Prop where
 ok:hF v
 L:i9 v<=i9 w+4000
 Z:e' v<=e' w+4000
theorem mt.refl{w:bQ}(h:hF w):mt w w:=⟨h,V,V⟩
def abc{w u:bQ}(h:hF u)(i:aE)(c:O){b:ai}(ak:T b<=1200)(hL:i9 u+T b<=i9 w+1200)(BC:e' u<=e' w):mt w<|lj u i c b:=by
 obtain⟨c9,dl,dB,fp⟩:=Uu h i c b;have a4:=apg h;have bq:i9 u=fB u.a'+gC u+950*gn u:=rfl;refine⟨c9,?_,V⟩;show fB (lj u i c b).a'+gC (lj u i c b)+950*gn (lj u i c b)<=_
 grind [fB]
def YR:∀(l:ab gD) (n:R),n<T l->fB (l.eraseIdx n)+(ap l n mD).2.2.1.length=fB l
 |f::l,0,h=>by show fB l+T f.2.2.1=_;rw[Fl];omega
 |f::l,n+1,h=>by
  have:=YR l n (by grind)
  grind [ap,Fl]
def aju:∀(l:ab gD) (n:R) (g:gD),n<T l->fB (l.set n g)+(ap l n mD).2.2.1.length=fB l+T g.2.2.1
 |f::l,0,g,h=>by show fB (g::l)+T f.2.2.1=_;rw[Fl,Fl];omega
 |f::l,n+1,g,h=>by
  have:=aju l n g (by grind)
  grind [ap,Fl]
def Cr{l:ab gD}(h:n<T l):ap l n mD∈l:=by
 grind [ap]
def Kc{w:bQ}(h:hF w){l:ab gD}(hl:∀f∈l,Cw f):hF { w with a':=l }:=⟨h.s,h.bV,h.got,hl,h.old⟩
def aG1{w:bQ}(h:hF w)(n m:O):mt w (h9 w n m).1:=by
 unfold h9;split
 .exact aNd
 have ax:n.toNat<T w.a':=V;have fa:=h.a' _<|Cr ax;dsimp only;split
 .rename_i hm
  refine abc (Kc h λf hf => ?_) _ _ aNh ?_ ?_
  .rcases A3 hf with hf|rfl
   .exact h.a' f hf
   exact⟨fa.1,fa.2.1,by rw[dV];have:=fa.2.2;omega⟩
  .have:=aju w.a' n.toNat ((ap w.a' n.toNat mD).1,(ap w.a' n.toNat mD).2.1,(ap w.a' n.toNat mD).2.2.1.drop m.toNat,()) ax
   rw[dV]at this;rw[jl];show fB (w.a'.set n.toNat _)+gC w+950*gn w+_<=fB w.a'+gC w+950*gn w+1200;omega
  grind [gn,e']
 refine abc (Kc h λf hf=>h.a' f<|TY hf) _ _ aOj ?_ ?_
 .have:=YR w.a' n.toNat ax
  show fB (w.a'.eraseIdx n.toNat)+gC w+950*gn w+_<=fB w.a'+gC w+950*gn w+1200;omega
 have:T (w.a'.eraseIdx n.toNat)<=T w.a':=vl _ _;show T w.p.2.1+T w.old+T (w.a'.eraseIdx n.toNat)+T (w.d8 ag)+T (w.d8 af)+3*gn w<=T w.p.2.1+T w.old+T w.a'+T (w.d8 ag)+T (w.d8 af)+3*gn w;omega
def anK{w:bQ}(h:hF w){f:gD}(hf:Cw f):mt w { w with a':=w.a'++[f] }:=by
 have av:=hf.2.2;refine⟨Kc h λg hg => ?_,?_,?_⟩
 .rcases i7.1 hg with hg|hg
  .exact h.a' g hg
  grind
 .show fB (w.a'++[f])+gC w+950*gn w<=fB w.a'+gC w+950*gn w+4000
  grind [fB]
 show T w.p.2.1+T w.old+T (w.a'++[f])+T (w.d8 ag)+T (w.d8 af)+3*gn w<=T w.p.2.1+T w.old+T w.a'+T (w.d8 ag)+T (w.d8 af)+3*gn w+4000
 grind
def aG2{w:bQ}(h:hF w){i:aE}{x:aU}(hx:tu x)(hg:cL 950 1 3 (w.at i) x):mt w<|f? w i x:=by obtain⟨c9,dl,dB⟩:=abj h i hx hg;exact⟨c9,V,V⟩
def W3(s:aU)(aJ:T s.e.hub.2.1=4)(c:O):cL 0 0 0 s (pL s c).1:=by
 have ak:f9 (k? s.e.hub c).1<=f9 s.e.hub:=by
  grind [ap,k?,iG,cA,f9]
 unfold pL;split
 .exact cL.refl s
 split
 .exact cL.refl s
 have Y:cL 0 0 0 s ⟨{ s.e with hub:=(k? s.e.hub c).1 },s.p⟩:=⟨cx _,cx _,cx _,cx _,ak⟩;exact Y.to (IA _) V V V
def Qw{w:bQ}(h:hF w)(i:aE)(c:O):hF (rk w i c)/\i9 (rk w i c)<=i9 w/\e' (rk w i c)<=e' w:=by obtain⟨n,ax⟩:=h.s i;exact abj h i ⟨_,aCs ax c⟩<|W3 _ ax.e.feed c
def aG0{w:bQ}(h:hF w)(a:gF)(ak:T a.2.2.2.2.1<=1200)(aA:¬a.1=17):mt w (jf w a).1:=by
 unfold jf;split
 .exact aG1 h _ _
 split
 .unfold s7
  split
  .exact aNd
  rename_i ax;have m_:a.2.2.1.toNat<T w.a':=V;have Y:=YR w.a' a.2.2.1.toNat m_;have ac:T (w.a'.eraseIdx a.2.2.1.toNat)<=T w.a':=vl _ _;refine⟨Kc h λf hf=>h.a' f<|TY hf,?_,?_⟩
  .show fB (w.a'.eraseIdx a.2.2.1.toNat)+gC w+950*gn w<=fB w.a'+gC w+950*gn w+4000;omega
  show T w.p.2.1+T w.old+T (w.a'.eraseIdx a.2.2.1.toNat)+T (w.d8 ag)+T (w.d8 af)+3*gn w<=T w.p.2.1+T w.old+T w.a'+T (w.d8 ag)+T (w.d8 af)+3*gn w+4000;omega
 split
 .unfold yX
  split
  .exact aNd
  rename_i ax;exact anK h<|h.old _ (Cr V)
 split
 .unfold Ax
  split
  .exact aNd
  rename_i ax;have r8:0<=a.2.2.1/\a.2.2.1<(T w.old:O):=lI λq=>ax<|.inl q;have bg:=h.old _<|Cr (l:=w.old) (n:=a.2.2.1.toNat) V;refine anK h ⟨bg.1,bg.2.1,?_⟩;show T (cA _ _ _)<=948;unfold cA;rw[jj];exact bg.2.2
 split
 .unfold zH
  split
  .exact aNd
  exact abc h _ _ ak V<|cx _
 split
 .unfold wm
  split
  .exact aNd
  split
  .exact aNd
  split
  .exact aNd
  show mt w<|rk (rk w ag a.2.2.1) af a.2.2.1;obtain⟨c9,dl,dB⟩:=Qw h ag a.2.2.1;obtain⟨fx,e7,kr⟩:=Qw c9 af a.2.2.1;exact⟨fx,V,V⟩
 split
 .unfold vD
  split
  .exact aNd
  show mt w<|gG w a.2.2.1;obtain⟨c9,dl,dB,fp⟩:=HG w a.2.2.1;refine⟨Kb h _,?_,V⟩;show fB (gG w a.2.2.1).a'+gC (gG w a.2.2.1)+950*gn (gG w a.2.2.1)<=fB w.a'+gC w+950*gn w+4000;omega
 split
 .unfold sV
  split
  .exact aNd
  obtain⟨n,ax⟩:=h.s<|mM a.2.1;exact aG2 h ⟨_,aCj ax a⟩<|W0 ax a
 exact aNd
structure k2(a r:R)(w:bQ):Prop where
 ok:hF w
 L:4^r*(i9 w+7600)<=5^r*(4000*a+7600)
 Z:4^r*e' w<=5^r*(8000*a+9000)
def Z1(r:R):4^r<=5^r:=Nat.pow_le_pow_left V r
def k2.apR{a:R}{w v:bQ}(h:k2 a r w)(k:mt w v):k2 (a+1) r v:=by
 have hp:=Z1 r;refine⟨k.ok,?_,?_⟩
 .calc 4^r*(i9 v+7600)<=4^r*(i9 w+7600+4000):=MM _ (by have:=k.L;omega)
   _=4^r*(i9 w+7600)+4^r*4000:=TH _ _ _
   _<=5^r*(4000*a+7600)+5^r*4000:=Nat.add_le_add h.L (jk _ hp)
   _=5^r*(4000*(a+1)+7600):=by rw[<- TH,show 4000*a+7600+4000=4000*(a+1)+7600 by omega]
 calc 4^r*e' v<=4^r*(e' w+4000):=MM _ k.Z
  _=4^r*e' w+4^r*4000:=TH _ _ _
  _<=5^r*(8000*a+9000)+5^r*8000:=Nat.add_le_add h.Z (apo hp V)
  _=5^r*(8000*(a+1)+9000):=by rw[<- TH,show 8000*a+9000+8000=8000*(a+1)+9000 by omega]
def k2.round {a:R} {w : bQ} (h : k2 a r w) : k2 a (r + 1) (pP w) := by
  have hp := Z1 r
  obtain ⟨b4, cz, dw⟩ := aFS h.ok
  have hL := h.L
  have BC := h.Z
  refine ⟨b4, ?_, ?_⟩
  · calc 4 ^ (r + 1) * (i9 (pP w) + 7600) = 4 ^ r * (4 * (i9 (pP w) + 7600)) := by rw [Nat.pow_succ, Nat.mul_assoc]
      _ ≤ 4 ^ r * (5 * (i9 w + 7600)) := Nat.mul_le_mul_left _ V
      _ = 5 * (4 ^ r * (i9 w + 7600)) := Nat.mul_left_comm _ _ _
      _ ≤ 5 * (5 ^ r * (4000 * a + 7600)) := Nat.mul_le_mul_left _ hL
      _ = 5 ^ (r + 1) * (4000 * a + 7600) := by rw [Nat.pow_succ, Nat.mul_comm (5 ^ r) 5, Nat.mul_assoc]
  · have Y : 5 * (4 ^ (r + 1) * e' (pP w)) ≤ 5 * (5 ^ (r + 1) * (8000 * a + 9000)) := by
      calc 5 * (4 ^ (r + 1) * e' (pP w)) = 4 ^ r * (20 * e' (pP w)) := by
            rw [Nat.pow_succ, Nat.mul_assoc, Nat.mul_left_comm, ← Nat.mul_assoc 5 4]
        _ ≤ 4 ^ r * (20 * e' w + (4 * (i9 w + 7600))) := Nat.mul_le_mul_left _ V
        _ = 20 * (4 ^ r * e' w) + 4 * (4 ^ r * (i9 w + 7600)) := by rw [Nat.mul_add, Nat.mul_left_comm, Nat.mul_left_comm _ 4]
        _ ≤ 20 * (5 ^ r * (8000 * a + 9000)) + 4 * (5 ^ r * (4000 * a + 7600)) := Nat.add_le_add (Nat.mul_le_mul_left _ BC) (Nat.mul_le_mul_left _ hL)
        _ = 5 ^ r * (20 * (8000 * a + 9000) + 4 * (4000 * a + 7600)) := by rw [Nat.mul_add (5 ^ r)<|20 * _, Nat.mul_left_comm (5 ^ r) 20, Nat.mul_left_comm (5 ^ r) 4]
        _ ≤ 5 ^ r * (25 * (8000 * a + 9000)) := Nat.mul_le_mul_left _ V
        _ = 5 * (5 ^ (r + 1) * (8000 * a + 9000)) := by rw [Nat.pow_succ, Nat.mul_assoc, Nat.mul_left_comm 5<|5 ^ r, ← Nat.mul_assoc 5 5]
    exact Nat.le_of_mul_le_mul_left Y V
def k2.rS{a:R}:∀(k:R) {r:R} {w:bQ},k2 a r w->k2 a (r+k) (l' k w)
 |0,r,w,h=>h
 |k+1,r,w,h=>by
  have:=k2.rS k h.round;rw[Nat.add_right_comm]at *
  exact this
def k2.mono{a b s:R}{w:bQ}(h:k2 a r w)(b6:a<=b)(az:r<=s):k2 b s w:=by
 obtain⟨d,rfl⟩:∃d,s=d+r:=⟨s-r,V⟩;have hp:=Z1 d;have key:∀{x y z:R},4^r*x<=5^r*y->y<=z->4^(d+r)*x<=5^(d+r)*z:=fun{x y z} Y ac=>by rw[Mx,Mx,aIa,aIa];exact apo hp<|i6 Y (MM _ ac)
 exact⟨h.ok,key h.L V,key h.Z V⟩
def k2.Cs{w:bQ}(h:k2 41 66 w):e' w<=900000000000:=by have BC:=h.Z;omega
def azN{h:f8}(hf:∀c,la<|ap h.2.1 c iG)(c:O){b:ai}(ak:T b<=1000000):Pi (h,c,b,())=J ((fL h c b).1,(fL h c b).2.1,(fL h c b).2.2,()):=by
 unfold Pi fL;rw[aiD];by_cases aA:iR c
 .rw[bS aA,aD<|not_not_intro aA]
  have aJ:aO c (bc 4)=af:=aw_
  refine((c3 aJ).trans ?_);by_cases aX:ld h c
  .rw[aD<|not_not_intro aX]
   have az:=hf c.toNat;refine(bf (by rw[g33,show ap h.1 c.toNat ag=af from aX];rfl)).trans<|(c3 aJ).trans ?_;have hs:0<=(ap h.2.1 c.toNat iG).2.1/\(ap h.2.1 c.toNat iG).2.1<=65535:=by have:=az.1;omega
   refine(bs<|awv (by have:=ny az;omega) ak hs).trans<|((c3 aJ))
  rw[aH aX];exact bj (by rw[g33];cases hx:ap h.1 c.toNat ag;rfl;exact ev hx aX)
 rw[b1 aA,aH aA];rfl
theorem avz(e:ew):Wl (e.t,())=J (({ e with bV:=[],got:=[] }:ew).t,e.bV,e.got,()):=rfl
def agc(s:aU)(c:O):Wm (s.t,c,())=J ((⟨n3 s.e c,s.p⟩:aU).t,(iB s.e.hub c).2,()):=by exact(bs<|azL _ _)
def avE{s:aU}(hs:bJ n s)(ax:n<=999999000000)(c:O):Ok (s.t,c,())=J ((pL s c).1.t,(pL s c).2,()):=by
 unfold Ok pL;by_cases cH:s.e.ph=8
 .rw[aH cH];exact bj<|ck cH
 rw[aD cH];refine a8 (cc cH)<|(bs<|azO _ _).trans<|?_;by_cases aC:(k? s.e.hub c).2=0
 .rw[aD<|not_not_intro aC]
  refine a8 (eI aC) ?_;exact(bs<|WR (ZD hs c) ax)
 exact aM2
def avH{s:aU}(hs:bJ m s)(hm:m<=999999000000)(n:eb)(ax:T n.2.2.2.2.2.1<=1000):Ib (s.t,n,())=J ((sy s n).t,()):=by
 unfold Ib sy;by_cases Y:n.2.1=101
 .rw[aH Y]
  refine(bs<|(bj<|ck Y)).trans<|?_;cases bD:n.1
  .rw[aD bP]
   refine((bj<|ck Y).trans ?_);exact(bs<|aFw hs V n)
  rw[aH rfl];exact(bs<|aFy hs V n ax)
 rw[aD Y];refine(bs<|(bf<|cc Y)).trans<|(((bf<|cc Y).trans ?_));by_cases ac:n.2.1=201
 .rw[aH ac]
  refine(bs<|(bj<|ck ac)).trans<|?_;cases bD:n.1
  .rw[aD bP]
   refine((bj<|ck ac).trans ?_);exact(bs<|awA n (by have:=Ux hs.e.askr;omega))
  rw[aH rfl];exact(bs<|awC hs V n)
 rw[aD ac];refine(bs<|(bf<|cc ac)).trans<|(((bf<|cc ac).trans ?_));exact(bs<|aGM hs V n)
def aj8{b:ai}:(nf b).1.2.2.2.2.2.1.length<=1000:=by
 rcases alk b with⟨n,h,az,_⟩|⟨e,_,h⟩
 .rw[h]
  have aB:=az.2.2.2.2.2.2
  grind [JI]
 rw[h];show T ([]:ai)<=1000;simp
def yc{s:aU}(hs:bJ n s)(ax:n<=999999000000):(ob (ln (s.t,())) λ(a:eK×aj)=>(J (a.1,()):au<|eK×aj))=J ((rj s).t,()):=(bs<|WR hs ax).trans rfl
def avB{s:aU}(hs:bJ n s)(ax:n<=999990000000)(b:ai):H_ (s.t,b,())=J ((pu s b).t,()):=by
 unfold H_ pu;obtain⟨ps,hT,aX⟩:=aAU hs b;refine(bs hT).trans<|?_;have aB:=ZF hs b;cases bg:(ir s b).2 with
 |none =>have I1:=λh=>(aX.1 h) bg;exact bj<|ff I1
 |some v=>
  have I1:=aX.2 (by rw[bg];simp);refine a8 (eI I1) ?_;dsimp only;obtain⟨aC,a3⟩:=S2 bg;obtain⟨az,_,_,_⟩:=Kw aC;have mf:=Kx aC;rw[<- a3]at az mf;have E_:∀k:R,dv<|ap v.2.2.1 k 0:=λk=>by
   rw[mf];exact au_
  have i?:T v.2.2.2.2.2.1<=1000000:=aO7
  have a?:=Zw aB E_;unfold s6 at a? ⊢;have hf:=Zy aB;have fE:=akb v.2.2.2.2.2.1 i?;have eE:=Yy v.2.2.2.2.2.1 i?;have XU:=aj8 (b:=v.2.2.2.2.2.1);by_cases ac:v.1=2
  .rw[aH ac]at a? ⊢
   refine bA (ck ac)<|(bs<|aGJ aB V).trans<|((bs fE).trans<|?_);by_cases av:(nf v.2.2.2.2.2.1).2.1=0
   .rw[aH av]at a? ⊢
    refine bA (ck av)<|bA (ck ac) ?_;exact(bs<|avH hf V _ XU).trans<|(yc a? V)
   rw[aD av]at a? ⊢;refine a8 (cc av)<|(bs eE).trans<|?_;by_cases aJ:(gc v.2.2.2.2.2.1).2.1=0
   .rw[aH aJ]at a? ⊢
    refine bA (ck aJ)<|bA (ck ac) ?_;exact(bs<|awG hf V (Kv aJ).1 v).trans<|(yc a? V)
   rw[aD aJ]at a? ⊢;refine a8 (cc aJ) ?_;exact(bs<|PA _).trans<|(yc a? V)
  rw[aD ac]at a? ⊢;refine a8 (cc ac)<|(bs fE).trans<|?_;by_cases av:(nf v.2.2.2.2.2.1).2.1=0
  .rw[aH av]at a? ⊢
   refine bA (ck av)<|a8 (cc ac) ?_;exact(bs<|aGL aB V E_ _).trans<|(yc a? V)
  rw[aD av]at a? ⊢;refine a8 (cc av)<|(bs eE).trans<|?_;by_cases aJ:(gc v.2.2.2.2.2.1).2.1=0
  .refine bA (ck aJ) (a8 (cc ac) ?_)
   exact(bs<|PA _).trans<|(yc a? V)
  refine a8 (cc aJ) ?_;exact(bs<|PA _).trans<|(yc a? V)
def ZT:∀l:ab ai,2*T l<=nN l
 |[]=>cx _
 |b::l=>by have:=ZT l;unfold nN at *;simp;omega
def avy{s:aU}(hs:bJ n s)(ax:n<=990000000000)(c:O){b:ai}(ak:T b<=1000000):Oi (s.t,c,b,())=J ((p4 s c b).t,()):=by
 unfold Oi p4;refine(bs<|azN hs.e.fd c ak).trans<|?_;by_cases aC:(fL s.e.hub c b).2.2=0
 .rw[aD<|not_not_intro aC]
  have aA:iR c:=by
   grind [fL]
  have aJ:aO c (bc 4)=af:=aw_
  have hl:(fL s.e.hub c b).2.1.length<=600000:=aPe
  refine(bf<|eI aC).trans<|((c3 aJ).trans<|(c3 aJ).trans<|?_);generalize hg:(λx=>(_:au<|aL (O×eK×aj)<|eK×aj))=F;have key:∀(l:ab ai) (i:R) (t:aU) (m:R),(fL s.e.hub c b).2.1.drop i=l->i<=(fL s.e.hub c b).2.1.length->bJ m t->m<=990000000000+1003*i ->
    ∃j:O,bG F ((i:O),t.t,())=J (.ex 0 (j,(qX t l).t,())):=by
   intro l;induction l with
   |nil =>intro i t m a? ao ht hm;have cP:=d4 T a?;rw[dV,gM]at cP;refine⟨(i:O),dr ?_⟩;subst hg;exact bf<|cm aM4
   |cons x l ih=>
    intro i t m a? ao ht hm;have cP:=d4 T a?;rw[dV,gd]at cP;have bK:i<(fL s.e.hub c b).2.1.length:=V;have hx:(fL s.e.hub c b).2.1[i]=x/\(fL s.e.hub c b).2.1.drop (i+1)=l:=aK5
    have ej:i64 (aG (i:O) 1)=((i+1:R):O):=dK IS V;unfold qX;have dY:F ((i:O),t.t,())=(aa (am t.e.ph 8) (J<|.ex 0 ((i:O),t.t,()))<|ob (H_ (t.t,x,())) λa=>J<|.nx (((i+1:R):O),a.1,())):=by subst hg;refine(bj<|cB aPr).trans<|(c3 b2).trans ?_;rw[eO,show ap (fL s.e.hub c b).2.1 i (aI aN)=x by rw[nth_get bK];exact hx.1,ej];rfl
    by_cases cH:t.e.ph=8
    .grind [dr,bj,ck]
    rw[aD cH];have I7:=avB ht V x;have fE:=dY.trans<|(bf<|cc cH).trans<|(bs I7).trans<|b3 rfl;obtain⟨j,aF⟩:=ih (i+1) (pu t x) (m+1003) hx.2 V (Zz ht x) V
    grind [dT]
  obtain⟨j,aF⟩:=key _ 0 (s9 s c b) n rfl (ea _) (Zx hs c b) V;exact(cE<|aF).trans<|(c3 g62)
 exact aM2
def Nf:=@List.length_pos_iff
def aEq{f:j6}(h:la f)(c:aN):QS (f,c,())=J ((pK f c).1,(pK f c).2,()):=by
 have k6:=ny h;obtain⟨buf,s,bad,⟨⟩⟩:=f;obtain⟨Y,ac⟩:=h;replace Y:¬(s<0\/65535<s\/0<s/\0<T buf):=Y;replace k6:T buf<=1025:=k6;unfold QS pK;by_cases hs:0<s
 .rw[aH hs]
  refine bA (cB hs) ?_;rw[show i64 (bw s 1)=s-1 from fF (by show -9223372036854775808<=s-1;omega) (by show s-1<=9223372036854775807;omega)];rfl
 rw[aD hs];refine a8 (cm hs) ?_;rw[show bb (bb (aI aN) buf) [c]=buf++[c] from rfl];refine a7 b2<|a7 AT ?_;have cP:T (buf++[c])=T buf+1:=bP;have ht:=Ov (buf++[c]) s bad;replace ht:256*aV (ap (buf++[c]) 0<|u8 0)+aV (ap (buf++[c]) 1<|u8 0)=(dJ (buf++[c]):O):=ht;generalize dJ (buf++[c])=n at ht;generalize buf++[c]=w at cP ht;by_cases ac:T w<2
 .rw[aH ac]
  exact bj b2
 rw[aD ac];refine a8 b2<|a7 b2<|a7 b2 ?_;rw[show ah 0=0 from rfl,show ah 1=1 from rfl];have hx:=ajU<|ap w 0<|u8 0;have bW:=ajU<|ap w 1<|u8 0;generalize aV (ap w 0<|u8 0)=x at hx ht;generalize aV (ap w 1<|u8 0)=y at bW ht;have e:i64 (aG (i64<|dI 256<|i64 x)<|i64 y)=(n:O):=by rw[show i64 x=x from fF V V,show i64 y=y from fF V V,show i64 (dI 256 x)=256*x from fF (by show -9223372036854775808<=256*x;omega) (by show 256*x<=9223372036854775807;omega)];rw[<- ht];exact fF (by show -9223372036854775808<=256*x+y;omega) (by show 256*x+y<=9223372036854775807;omega)
 rw[e,show i64 (aG (n:O) 2)=((n+2:R):O) from dK (by show(n:O)+2=_;omega) V];by_cases av:n=0\/1024<n
 .rw[aH av]
  refine aW (a:=(af,())) ?_<|bj rfl
  grind [bj,ck,bf,cB]
 rw[aD av];refine aW (a:=(ag,())) (a8 (cc V) aOR)<|a8 rfl ?_;by_cases aJ:T w<n+2
 .rw[aH aJ]
  exact bj b2
 rw[aD aJ];refine a8 b2<|a7 b2 ?_;have aA:cut w (ah 2) (cy (ah<|len w)<|ah 2)=w.drop 2:=by unfold cut;rw[show ah 2=2 from rfl,i5 (by rw[dV];show _<=(T w:O).toNat-2;omega)]
 rw[aA];rfl
def aEo{f:j6}(h:la f){b:ai}(ak:T b<=1000000):QQ (f,b,())=J ((hn f b).1,(hn f b).2,()):=by
 unfold QQ;generalize hg:(λ(ae:ab ai×O×j6×aj)=>(_:au<|aL (ab ai×O×j6×aj)<|j6×ab ai×aj))=g;have key:∀(k i:R) (l:ab ai) (f:j6),i+k=T b->T l<=i->la f->bG g (l,(i:O),f,())=J (.ex 0 (l++(hn f<|b.drop i).2,(T b:O),(hn f<|b.drop i).1,())):=by
  intro k;induction k with
  |zero =>intro i l f ao hl hf;rw[show b.drop i=[] from DZ V,ak3 hf,g?];obtain rfl:i=T b:=V;exact dr (by subst hg;exact bf b2)
  |succ k ih=>
   intro i l f ao hl hf;have bK:i<T b:=V;rw[oE bK,Z7 hf];have ej:i64 (aG (i:O) 1)=((i+1:R):O):=dK IS V;have aiI:T (DB (pK f b[i]).2)<=1:=by unfold DB;split<;>simp
   have eU:g (l,(i:O),f,())=J (.nx (l++DB (pK f b[i]).2,((i+1:R):O),(pK f b[i]).1,())):=by
    subst hg;refine bA b2<|a7 b2 ?_;rw[show ap b (ah (i:O)) (u8 0)=b[i] from by rw[eO,nth_get bK],ej];refine aW (aEq hf _) ?_;unfold DB;by_cases bR:(pK f b[i]).2=[]
    .rw[aH bR,bR,g?];rfl
    rw[aD bR];have:=Nf.2 bR;refine bA b2<|a7 AT rfl
   grind [dT,akz]
 exact(cE<|key (T b) 0 [] f V (cx _) h).trans rfl
theorem aCz{f:j6}(h:la f)(c:aN):(pK f c).2.length<=1024:=by
 grind [ny,pK]
def ak5:∀(b:ai) {f:j6},la f->∀x∈(hn f b).2,T x<=1024
 |[],f,h,x,hx=>by rw[ak3 h]at hx;exact ev hx DL
 |c::b,f,h,x,hx=>by
  rw[Z7 h]at hx;rcases i7.1 hx with hx|hx
  .grind [DB,aCz]
  exact ak5 b (akz h c) x hx
end Yp