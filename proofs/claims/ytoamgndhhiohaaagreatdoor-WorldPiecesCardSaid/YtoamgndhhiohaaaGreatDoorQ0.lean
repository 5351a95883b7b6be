/- A part of the proof of the statements of this seat: plain functions, and laws on them. No condition of its own. -/
import Derived.Test.YtoamgndhhiohaaaGreatDoorE2
import Derived.Lib.LaidTab
import Derived.MakeChecks
import Derived.KernelRfl
import Derived.Test.YtoamgndhhiohaaaGreatDoorProg
import Derived.WalkKit
import Derived.RangeFuncBox
import Derived.RangeFuncLeaves
import Derived.Shelf.Abstract
import Derived.OwnWalkIn
import Derived.TacticsInMore
import Derived.LoopNIn
import Derived.LoopIn
import Derived.Maps.AppendAt
set_option linter.unusedVariables false
set_option linter.unusedSimpArgs false
set_option linter.defProp false
open _root_ renaming Bool->aE,Decidable->hu,Int->O,Go.IntKind.u32->er,Go.IntKind.u8->gV,List->ab,List.length->T,List.range->fw,List.take_succ_eq_append_getElem->AX,Nat->R,Option->au,UInt32->b_,UInt64->hw,UInt8->aN,UInt8.ofNat->hy,Unit->aj,Go.World->bu,congrArg->d4,decide_eq_false->iW,decide_eq_true->iv,decide_eq_true_eq->lH,Bool.false->ag,if_neg->aD,if_pos->aH,Option.none->aq,Option.some->J,Bool.true->af
noncomputable section
open Go Yp
variable {U c:aE}{A W a b bM f i k m n o:R}{α β ρ σ:Type}
namespace Yp
open Go
section
variable {p:Prop}
def BY(h:p:=by kernel_rfl):p:=h
end
end Yp
namespace Yp
def iQ{p:Prop}(h:p:=by decide +kernel):p:=h
def b2{p:Prop}(h:p:=by simp only[go_sem];omega):p:=h
def fq{p:Prop}(h:p:=by simp(disch:=first|assumption|omega|(dsimp only;omega)|decide) only[go_sem,Int.reduceToNat];omega):p:=h
end Yp
namespace Yp
abbrev ai:=ab aN
abbrev aM:=aE×aj
abbrev cg:=ai×O×aj
abbrev jK:=(O×ab (O×ai×aj)×aj)×O×aj
abbrev dt:=aE×O×aj
abbrev ca:=ai×aj
abbrev cK:=O×aj
abbrev ek:=O×O×aj
abbrev pT:=(O×ab (O×ai×aj)×aj)×aj
abbrev ov:=(ab b_×O×ai×aj)×aj
abbrev u5:=(aE×O×O×O×O×ai×ai×O×aj)×aj
abbrev o5:=ab (O×O×ai×aj)×aj
abbrev rx:=(O×ab hw×aj)×O×aj
abbrev hH:=O×ai×aj
abbrev lE:=ai×O×O×aj
abbrev j4:=O×aE×aj
abbrev ry:=(O×O×aj)×aE×aj
abbrev tN:=ab (O×ai×aj)×O×aj
abbrev GV:=(aE×O×O×O×O×ai×ai×O×aj)×O×aj
abbrev oy:=O×ab b_×aj
abbrev sD:=ab (O×ai×aj)×aj
abbrev lc:=ai×aE×aj
abbrev yv:=O×(O×ab hw×aj)×aj
abbrev kX:=ab O×aj
abbrev GW:=ab (O×ab O×O×ai×aj)×aj
abbrev abR:=b_×b_×b_×b_×b_×b_×b_×b_×O×aj
abbrev S8:=O×O×O×(O×ab (O×ai×aj)×aj)×aj
abbrev GM:=(ai×O×O×aj)×ab ai×aj
abbrev mn:=b_×aj
abbrev LW:=O×O×ab (O×O×ai×aj)×aj
abbrev u4:=O×ai×O×aj
abbrev wF:=O×O×O×aj
abbrev wG:=O×O×ai×aj
abbrev wH:=ab O×O×aj
abbrev tK:=ab b_×aj
abbrev GN:=(O×ab hw×aj)×aj
abbrev GO:=ai×O×O×O×ai×aj
abbrev SX:=ab (O×O×ai×aj)×O×aj
abbrev GP:=ai×O×O×R×aj
abbrev Dm:=aE×O×O×aj
abbrev aby:=ab ai×O×(ai×O×O×aj)×aj
abbrev SY:=(ai×O×O×aj)×ai×aj
abbrev SZ:=(ai×ai×aj)×O×O×aj
abbrev abz:=ab ai×ai×(ai×O×O×aj)×aj
abbrev abA:=(ab (O×ai×aj)×R×aj)×aj
abbrev abB:=O×(ab b_×O×ai×aj)×aj
abbrev LX:=ab O×O×O×aj
abbrev AB:=O×aN×aj
abbrev abC:=ai×(ab b_×O×ai×aj)×aj
abbrev GQ:=(ai×ai×aj)×aj
abbrev GR:=O×O×aE×aj
abbrev LY:=ab b_×O×aj
abbrev an7:=(O×ab (O×ai×aj)×aj)×O×ai×aj
abbrev ST:=(O×ai×aj)×aj
abbrev an4:=(O×ai×aj)×(O×ai×aj)×aj
abbrev an5:=(ab b_×O×ai×aj)×ai×aj
abbrev Dl:=ai×ai×aj
abbrev abs:=O×O×O×R×aj
abbrev abt:=ab (ai×ai×aj)×aj
abbrev abv:=O×O×R×ai×aj
abbrev abw:=ab O×ai×O×aj
abbrev SW:=ab ai×O×aj
abbrev abx:=O×aE×O×aj
abbrev tba:=ai×ab b_×aj
abbrev tbb:=ab ai×aj
abbrev tbc:=aN×aj
abbrev tbd:=ai×ai×O×aj
abbrev tbe:=aN×aE×aj
abbrev tbf:=hw×O×aj
abbrev tbg:=O×hw×aj
abbrev tbh:=aN×O×aj
abbrev tbi:=hw×aj
end Yp
namespace Yp
open Go
set_option maxRecDepth 100000
def ap9{a b:aE}(Y:a=af)(ac:b=af):(a&&b)=af:=by rw[Y,ac];rfl
def ajf : ab (String × DataW aj) := [("yett/sha.keys", Lib.tabData .u32<|(ke : ab b_).map aY)]
def YG:T (ke:ab b_)=64:=BY
def aAO {P : Program} {W : bu} {g t e : R} (hg : P.globalNamed "yett/sha.keys" = J g) (Ye : (P.globals[g]?).map (·.type) = J t) (ht : P.underlying t = J (.array 64 e)) (aX : P.underlying e = J (.int .u32)) (ahR : P.cellsOf e = 1) (ax6 : P.cellsOf t = 64)
  {laid:ab<|String×DataW aj} (hl:laid=ajf) (h:laidMetH P laid W):na P<|full W:=by
 subst hl;have ce:laidMet P ajf W:=by exact h
 have hT : Lib.TabIs P W "yett/sha.keys" .u32 ((ke : ab b_).map aY) := Lib.tabIs_of_head (rest := []) hg Ye ht aX ahR ax6 ce
 intro j9 ayv;obtain rfl:g=j9:=pb<|hg.symm.trans ayv;unfold Lib.TabIs World.var? at hT;rw[hg]at hT;simp at hT;split at hT
 .rename_i cs el fz hcell
  have m9:cs=(((ke:ab b_).map aY).map λz=>Value.int .u32 z).toArray:=pb hT;have cP:cs.size=64:=by rw[m9];simp[YG]
  refine ba.jt.2 ⟨J ⟨g,0,aq⟩,1,rfl,cx _,di,.inr ⟨g,0,cs,el,fz,rfl,hcell,by show 0+1*64<=cs.size;omega,?_⟩⟩;intro i x ao;have:i=0/\x=(ke:ab<|cj .u32):=by
   grind
  obtain⟨rfl,rfl⟩:=this;have hs:dg cs (0+0*(aw.ar 64<|.int .u32).size) (aw.ar 64<|.int .u32).size=((ke:ab b_).map aY).map λz=>Value.int .u32 z:=by rw[m9];rfl
  rw[hs];refine ba.w9.2 ⟨YG,by simp[YG,aw.size],?_⟩;intro j y aF;have jE:(ke:ab b_)[j]?=J y:=aF;show(List.drop (j*1) _).take 1=_;obtain⟨bK,rfl⟩:=oC.1 jE;rw[oE<|by grind];simp[cj.to]
 cases hT
end Yp
namespace Yp
open Go
def vG(x:ek):au<|cg:=letI b:=x.2.1;letI c:=J (af,());ob (aa (aK b 1) c<|aa (aK 18 b) c<|some (aK x.1 0,())) λ(a:aM)=>aa a.1 (J (aI aN,1,()))<|an (df (cq 0 b b)<|bO 1<|ah b) (b? (bG (λ(x:wG)=>letI d:=x.2.1;aa (bL 0 d) (an (aO (cY x.1 10)<|len [48,49,50,51,52,53,54,55,56,57,97,98,99,100,101,102])<|an (aO d<|len x.2.2.1)<|some<|aL.nx (i64<|de x.1 10,i64<|bw d 1,cA x.2.2.1 (ah d)<|ap [48,49,50,51,52,53,54,55,56,57,97,98,99,100,101,102] (ah<|cY x.1 10)<|u8 0,())) (J<|aL.ex 0 (x.1,d,x.2.2.1,()))) (x.1,i64<|bw b 1,cb (ah b)<|u8 0,())) (λ_ =>aq) (λi a=>an (bU i 0)<|aa (aK 0 a.1) (J (aI aN,1,()))<|some (a.2.2.1,0,())) λ(r:cg)=>J r)
def ua(x:cK):au<|j4:=letI b:=Jw<|bw x.1 48;ob (aa (bL 48 x.1) (J (i64 b,bL x.1 57,()))<|some (i64 b,ag,())) λ(a:j4)=>J (a.1,a.2.1,())
def vH(x:ca):au<|ek:=ob (aa (aK (len x.1) 1) (J (af,()))<|some (aK 18<|len x.1,())) λ(a:aM)=>aa a.1 (J (0,2,()))<|b? (bG (λ(ae:abs)=>letI b:=ae.2.2.2.1;aa (k_ b<|aQ x.1) (ob (ua (bc (iZ x.1 b).1,())) λa=>aa (a2 a.2.1) (J<|aL.rt (0,2,()))<|some<|aL.nx (ae.1,ae.2.1,i64<|aG (i64<|dI 10 ae.2.2.1) a.1,bB b (iZ x.1 b).2,())) (J<|aL.ex 0 (ae.1,ae.2.1,ae.2.2.1,b,()))) (0,0,0,0,())) (λ_ =>aq) (λi a=>an (bU i 0)<|some (a.2.2.1,0,())) λ(r:ek)=>J r
def vF(x:ca):au<|cg:=letI b:=i64<|de (i64<|aG (len x.1) 1) 2;an (df (cq 0 b b)<|bO 1<|ah b) (b? (bG (λ(ae:abv)=>letI c:=i64<|de ae.2.1 2;letI d:=ae.2.2;letI e:=aO c<|len d.2.1;aa (k_ d.1<|aQ x.1) (ob (ua (bc (iZ x.1 d.1).1,())) λa=>aa (a2 a.2.1) (J<|aL.rt (aI aN,2,()))<|an e<|an e<|some<|aL.nx (ae.1,i64<|aG ae.2.1 1,bB d.1 (iZ x.1 d.1).2,cA d.2.1 (ah c)<|u8<|hG gV (aV<|u8<|h0 gV (aV<|ap d.2.1 (ah c)<|u8 0)<|cC<|u64 4)<|aV<|u8 a.1,())) (J<|aL.ex 0 (ae.1,ae.2.1,d.1,d.2.1,()))) (0,cY (len x.1) 2,0,cb (ah b)<|u8 0,())) (λ_ =>aq) (λi a=>an (bU i 0)<|some (a.2.2.2.1,0,())) λ(r:cg)=>J r)
def nR(x:Dl):au<|aM:=J (seq x.1 x.2.1,())
def H4(x:ca):au<|ca:=letI e:=len x.1;letI g:=i64<|dI 2 e;an (df (cq 0 0 g)<|bO 1<|ah g) (b? (bG (λ(ae:cg)=>letI f:=ae.2.1;letI b:=aV<|ap x.1 (ah f)<|u8 0;letI c:=aV<|u8<|e4 gV b<|cC<|u64 4;letI d:=aV<|u8<|hz gV b<|aV<|u8 15;aa (aK f e) (an (aO f e)<|an (aO c<|len [48,49,50,51,52,53,54,55,56,57,97,98,99,100,101,102])<|an (aO d<|len [48,49,50,51,52,53,54,55,56,57,97,98,99,100,101,102])<|an (bO 1<|bB (aQ ae.1)<|aQ [ap [48,49,50,51,52,53,54,55,56,57,97,98,99,100,101,102] (ah c)<|u8 0,ap [48,49,50,51,52,53,54,55,56,57,97,98,99,100,101,102] (ah d)<|u8 0])<|some<|aL.nx (bb ae.1 [ap [48,49,50,51,52,53,54,55,56,57,97,98,99,100,101,102] (ah c)<|u8 0,ap [48,49,50,51,52,53,54,55,56,57,97,98,99,100,101,102] (ah d)<|u8 0],i64<|aG f 1,())) (J<|aL.ex 0 (ae.1,f,()))) (cb (ah 0)<|u8 0,0,())) (λ_ =>aq) (λi a=>an (bU i 0)<|some (a.1,())) λ(r:ca)=>J r)
def za(x:lE):au<|lE:=letI l:=x.2.2.1;letI k:=x.2.1;letI f:=i64<|de (i64<|aG l 1) 2;letI c:au<|aL GP lE:=J<|aL.rt (aI aN,0,2,());letI b:au aM:=J (af,());letI d:=aG k f;letI m:=len x.1;ob (aa (aK l 0) b<|aa (aK 999 l) b<|aa (aK k 0) b<|some (aK m k,())) λ(a:aM)=>aa a.1 (J (aI aN,0,1,()))<|aa (aK (i64<|bw m k) f) (J (aI aN,0,3,())) (an (cq k (i64 d) m) (ob (H4 (sub x.1 k<|i64 d,())) λa=>letI e:=len a.1;letI j:=sub a.1 1 e;aa (am (cY l 2) 1) (an (aO 0 e)<|aa (a2<|am (aV<|ap a.1 (ah 0)<|u8 0)<|aV<|u8 48) (J (aI aN,0,2,()))<|an (cq 1 e e)<|b? (bG (λ(x:GP)=>letI g:=x.2.2.2.1;aa (k_ g<|aQ j) (ob (ua (bc (iZ j g).1,())) λa5=>aa (a2 a5.2.1) c<|some<|aL.nx (x.1,x.2.1,x.2.2.1,bB g (iZ j g).2,())) (J<|aL.ex 0 (x.1,x.2.1,x.2.2.1,g,()))) (aI aN,0,0,0,())) (λ_ =>aq) (λi a5=>an (bU i 0)<|some (sub a.1 1 e,i64 d,0,())) λ(r:lE)=>J r) (b? (bG (λ(x:GP)=>letI h:=x.2.2.2.1;aa (k_ h<|aQ a.1) (ob (ua (bc (iZ a.1 h).1,())) λa5=>aa (a2 a5.2.1) c<|some<|aL.nx (x.1,x.2.1,x.2.2.1,bB h (iZ a.1 h).2,())) (J<|aL.ex 0 (x.1,x.2.1,x.2.2.1,h,()))) (aI aN,0,0,0,())) (λ_ =>aq) (λi a5=>an (bU i 0)<|some (a.1,i64 d,0,())) λ(r:lE)=>J r)))
def mx(x:lE):au<|wF:=letI e:=x.2.2.1;letI d:=x.2.1;letI h:=aG d e;letI b:au aM:=J (af,());letI c:=sub x.1 d<|i64 h;letI f:=len x.1;ob (aa (aK e 1) b<|aa (aK 8 e) b<|aa (aK d 0) b<|some (aK f d,())) λ(a:aM)=>aa a.1 (J (0,0,1,()))<|aa (aK (i64<|bw f d) e) (J (0,0,3,())) (ob (aa (am e 8) (an (aO d f)<|some (aK (aV<|u8 127)<|aV<|ap x.1 (ah d)<|u8 0,()))<|some (ag,())) λ(a:aM)=>aa a.1 (J (0,0,2,()))<|an (cq d (i64 h) f)<|b? (bG (λ(ae:ek)=>letI g:=ae.2.1;aa (aK g<|len c) (an (aO g<|len c)<|some<|aL.nx (i64<|hG IntKind.i64 (i64<|h0 IntKind.i64 ae.1<|cC<|u64 8)<|i64<|aV<|ap c (ah g)<|u8 0,i64<|aG g 1,())) (J<|aL.ex 1 (ae.1,g,()))) (0,0,())) (λ_ =>aq) (λi a=>an (bU i 1)<|some (a.1,i64 h,0,())) λ(r:wF)=>J r)
def qU(x:ek):au<|cg:=letI b:au aM:=J (af,());letI c:=x.2.1;letI f:=i64<|dI 8 c;ob (aa (aK c 1) b<|aa (aK 8 c) b<|aa (aK x.1 0) b<|aa (aK c 8) (an (bL 0 f)<|some (aK 0<|e4 IntKind.i64 x.1 f,()))<|some (ag,())) λ(a:aM)=>aa a.1 (J (aI aN,1,()))<|an (df (cq 0 c c)<|bO 1<|ah c) (b? (bG (λ(ae:hH)=>letI d:=i64<|bw (i64<|bw c 1) ae.1;letI e:=i64<|dI 8 ae.1;aa (aK ae.1<|len<|cb (ah c)<|u8 0) (an (bL 0 e)<|an (aO d<|len ae.2.1)<|some<|aL.nx (i64<|aG ae.1 1,cA ae.2.1 (ah d)<|u8<|e4 IntKind.i64 x.1 e,())) (J<|aL.ex 0 (ae.1,ae.2.1,()))) (0,cb (ah c)<|u8 0,())) (λ_ =>aq) (λi a=>an (bU i 0)<|some (a.2.1,0,())) λ(r:cg)=>J r)
def Ob(x:tbc):au<|tbe:=letI b:=aV x.1;letI c:=J (ag,());ob (aa (bL (aV<|u8 48) b) (J (bL b<|aV<|u8 57,())) c) λ(a:aM)=>aa a.1 (J (u8<|bw b<|aV<|u8 48,af,()))<|ob (aa (bL (aV<|u8 97) b) (J (bL b<|aV<|u8 102,())) c) λ(a:aM)=>aa a.1 (J (u8<|aG (aV<|u8<|bw b<|aV<|u8 97)<|aV<|u8 10,af,())) (J (u8 0,ag,()))
def H5(x:ca):au<|cg:=letI d:=len x.1;letI e:=i64<|de d 2;aa (am (cY d 2) 1) (J (aI aN,2,())) (an (df (cq 0 0 e)<|bO 1<|ah e)<|b? (bG (λ(ae:u4)=>letI c:=ae.2.2.1;letI f:=i64<|aG c 1;aa (aK c d) (an (aO c d)<|ob (Ob (ap x.1 (ah c)<|u8 0,())) λa=>an (aO f d) (ob (Ob (ap x.1 (ah f)<|u8 0,())) λa5=>letI b:=hG gV (aV<|u8<|h0 gV (aV a.1)<|cC<|u64 4)<|aV a5.1;ob (aa (a2 a.2.1) (J (af,()))<|some (a2 a5.2.1,())) λ(bH:aM)=>aa bH.1 (J<|aL.rt (aI aN,2,()))<|an (bO 1<|bB (aQ ae.2.1)<|aQ [u8 b])<|some<|aL.nx (ae.1,bb ae.2.1 [u8 b],i64<|aG c 2,()))) (J<|aL.ex 0 (ae.1,ae.2.1,c,()))) (0,cb (ah 0)<|u8 0,0,())) (λ_ =>aq) (λi a=>an (bU i 0)<|some (a.2.1,0,())) λ(r:cg)=>J r)
def yg(x:ek):au<|cK:=b? (bG (λ(ae:ek)=>aa (aK ae.2.1 x.2.1) (J<|aL.nx (i64<|dI ae.1 x.1,i64<|aG ae.2.1 1,()))<|some<|aL.ex 0 (ae.1,ae.2.1,())) (1,0,())) (λ_ =>aq) (λi a=>an (bU i 0)<|some (a.1,())) λ(r:cK)=>J r
def wu(x:ek):au<|cg:=letI b:au aM:=J (af,());ob (aa (aK x.2.1 1) b<|aa (aK 18 x.2.1) b<|aa (aK x.1 0) b<|ob (yg (10,x.2.1,())) λa=>J (bL a.1 x.1,())) λ(a:aM)=>aa a.1 (J (aI aN,1,()))<|b? (bG (λ(ae:cg)=>letI d:=ae.2.1;aa (bL 0 d) (ob (yg (10,d,())) λa=>letI c:=i64<|aG 48<|cY (i64<|de x.1 a.1) 10;an (a2<|am a.1 0) (an (bO 1<|bB (aQ ae.1)<|aQ [u8 c])<|some<|aL.nx (bb ae.1 [u8 c],i64<|bw d 1,()))) (J<|aL.ex 0 (ae.1,d,()))) (aI aN,i64<|bw x.2.1 1,())) (λ_ =>aq) (λi a=>an (bU i 0)<|some (a.1,0,())) λ(r:cg)=>J r
def Kz(x:ca):au<|aM:=letI d:=len x.1;letI e:=J (af,());b? (bG (λ(ae:dt)=>letI c:=ae.2.1;letI b:=aV<|ap x.1 (ah c)<|u8 0;aa (aK c d) (an (aO c d)<|ob (aa (aK b<|aV<|u8 48) e<|an (aO c d)<|some (aK (aV<|u8 57) b,())) λ(a:aM)=>aa a.1 (J<|aL.rt (ag,()))<|some<|aL.nx (ae.1,i64<|aG c 1,())) (J<|aL.ex 0 (ae.1,c,()))) (ag,0,())) (λ_ =>aq) (λi a=>an (bU i 0) e) λ(r:aM)=>J r
def F1(x:ca):au<|ek:=letI b:=len x.1;letI d:=J (af,());ob (aa (aK b 1) d<|aa (aK 18 b) d<|ob (Kz (x.1,())) λa=>J (a2 a.1,())) λ(a:aM)=>aa a.1 (J (0,2,()))<|b? (bG (λ(ae:ek)=>letI c:=ae.2.1;aa (aK c b) (an (aO c b)<|ob (yg (10,i64<|bw (i64<|bw b 1) c,())) λa=>J<|aL.nx (i64<|aG ae.1<|i64<|dI (i64<|bw (i64<|aV<|ap x.1 (ah c)<|u8 0) 48) a.1,i64<|aG c 1,())) (J<|aL.ex 0 (ae.1,c,()))) (0,0,())) (λ_ =>aq) (λi a=>an (bU i 0)<|some (a.1,0,())) λ(r:ek)=>J r
def ws(x:ca):au<|cg:=ob (Kz (x.1,())) λa=>aa (a2 a.1) (J (aI aN,2,())) (ob (aa (am (cY (len x.1) 2) 1) (an (bL (aG (len [48])<|len x.1) 140737488355328)<|some (bb [48] x.1,()))<|some (x.1,())) λ(a:ca)=>letI d:=len a.1;b? (bG (λ(x:cg)=>letI c:=x.2.1;letI e:=i64<|aG c 1;letI b:=bw (aV<|u8<|aG (aV<|u8<|dI (aV<|u8 16)<|aV<|u8<|bw (aV<|ap a.1 (ah c)<|u8 0)<|aV<|u8 48)<|aV<|ap a.1 (ah e)<|u8 0)<|aV<|u8 48;aa (aK c d) (an (aO c d)<|an (aO e d)<|an (bO 1<|bB (aQ x.1)<|aQ [u8 b])<|some<|aL.nx (bb x.1 [u8 b],i64<|aG c 2,())) (J<|aL.ex 0 (x.1,c,()))) (aI aN,0,())) (λ_ =>aq) (λi a=>an (bU i 0)<|some (a.1,0,())) λ(r:cg)=>J r)
def z_(x:lE):au<|lE:=letI u:=x.2.2.1;letI c:au<|aL GO lE:=J<|aL.rt (aI aN,0,2,());letI b:au aM:=J (af,());letI e:=i64<|de (i64<|aG u 1) 2;letI l:=aV<|u8 16;letI o:=len x.1;letI s:=x.2.1;letI w:=aG s e;ob (aa (aK u 0) b<|aa (aK 999 u) b<|aa (aK s 0) b<|some (aK o s,())) λ(a:aM)=>aa a.1 (J (aI aN,0,1,()))<|aa (aK (i64<|bw o s) e) (J (aI aN,0,3,())) (b? (bG (λ(ae:cg)=>letI q:=ae.2.1;letI g:=aV<|ap x.1 (ah q)<|u8 0;aa (aK q<|i64 w) (an (aO q o)<|an (aO q o)<|an (bO 1<|bB (aQ ae.1)<|aQ [u8<|de g l,u8<|cY g l])<|some<|aL.nx (bb ae.1 [u8<|de g l,u8<|cY g l],i64<|aG q 1,())) (J<|aL.ex 0 (ae.1,q,()))) (aI aN,s,())) (λ_ =>aq) (λi a=>letI p:=len a.1;letI d:=cy (ah p)<|ah 1;an (bU i 0) (aa (am (cY u 2) 1) (an (aO 0 p)<|aa (a2<|am (aV<|ap a.1 (ah 0)<|u8 0)<|aV<|u8 0) (J (aI aN,0,2,()))<|an (cq 1 p p)<|b? (bG (λ(x:GO)=>letI h:=x.2.2.2;letI t:=bB (ah 1)<|ah h.1;letI j:=aV<|ap h.2.1 t<|u8 0;letI n:=aO h.1<|bc d;aa (aK h.1<|bc d) (an n<|aa (aK (aV<|u8 9) j) c<|an n<|an n<|some<|aL.nx (x.1,x.2.1,x.2.2.1,i64<|aG h.1 1,cA h.2.1 t<|u8<|aG j<|aV<|u8 48,())) (J<|aL.ex 2 (x.1,x.2.1,x.2.2.1,h.1,h.2.1,()))) (aI aN, 0,0,0,a.1,())) (λ_ =>aq) (λi a5=>an (bU i 2)<|some (cut a5.2.2.2.2.1 (ah 1) d,i64 w,0,())) λ(r:lE)=>J r)<|b? (bG (λ(x:GO)=>letI f:=x.2.2.2;letI v:=f.2.1;letI k:=aO f.1<|len v;letI m:=aV<|ap v (ah f.1)<|u8 0;aa (aK f.1<|len v) (an k<|aa (aK (aV<|u8 9) m) c<|an k<|an k<|some<|aL.nx (x.1,x.2.1,x.2.2.1,i64<|aG f.1 1,cA v (ah f.1)<|u8<|aG m<|aV<|u8 48,())) (J<|aL.ex 2 (x.1,x.2.1,x.2.2.1,f.1,v,()))) (aI aN,0,0,0,a.1,())) (λ_ =>aq) (λi a=>an (bU i 2)<|some (a.2.2.2.2.1,i64 w,0,())) λ(r:lE)=>J r)) λ(r:lE)=>J r)
def KC(x:lE):au<|wF:=letI b:au aM:=J (af,());letI c:=x.2.2.1;letI d:=x.2.1;letI e:=len x.1;ob (aa (aK c 1) b<|aa (aK 8 c) b<|aa (aK d 0) b<|some (aK e d,())) λ(a:aM)=>aa a.1 (J (0,0,1,()))<|aa (aK (i64<|bw e d) c) (J (0,0,3,())) (ob (aa (am c 8) (an (aO d e)<|some (bL (aV<|u8 128)<|aV<|ap x.1 (ah d)<|u8 0,()))<|some (ag,())) λ(a:aM)=>aa a.1 (J (0,0,2,()))<|b? (bG (λ(ae:ek)=>letI f:=ae.2.1;letI g:=i64<|aG d f;aa (aK f c) (an (aO g e)<|some<|aL.nx (i64<|aG (i64<|dI 256 ae.1)<|i64<|aV<|ap x.1 (ah g)<|u8 0,i64<|aG f 1,())) (J<|aL.ex 0 (ae.1,f,()))) (0,0,())) (λ_ =>aq) (λi a=>an (bU i 0)<|some (a.1,i64<|aG d c,0,())) λ(r:wF)=>J r)
def yf(x:ek):au<|cg:=letI b:=x.2.1;letI c:=J (af,());ob (aa (aK b 1) c<|aa (aK 8 b) c<|some (aK x.1 0,())) λ(a:aM)=>aa a.1 (J (aI aN,1,()))<|ob (aa (aK b 8) (ob (yg (256,b,())) λa=>J (bL a.1 x.1,()))<|some (ag,())) λ(a:aM)=>aa a.1 (J (aI aN,1,())) (an (df (cq 0 b b)<|bO 1<|ah b)<|b? (bG (λ(x:wG)=>letI d:=x.2.1;aa (bL 0 d) (an (aO d<|len x.2.2.1)<|some<|aL.nx (i64<|de x.1 256,i64<|bw d 1,cA x.2.2.1 (ah d)<|u8<|cY x.1 256,())) (J<|aL.ex 0 (x.1,d,x.2.2.1,()))) (x.1,i64<|bw b 1,cb (ah b)<|u8 0,())) (λ_ =>aq) (λi a=>an (bU i 0)<|some (a.2.2.1,0,())) λ(r:cg)=>J r)
def Qz(x:tbc):au<|cK:=letI b:=aV x.1;letI c:=J (ag,());ob (aa (bL (aV<|u8 48) b) (J (bL b<|aV<|u8 57,())) c) λ(a:aM)=>aa a.1 (J (i64<|bw (i64 b) 48,()))<|ob (aa (bL (aV<|u8 97) b) (J (bL b<|aV<|u8 102,())) c) λ(a:aM)=>aa a.1 (J (i64<|bw (i64 b) 87,())) (J (16,()))
def KD(x:ca):au<|cg:=letI d:=len x.1;aa (am (cY d 2) 1) (J (aI aN,2,())) (b? (bG (λ(ae:u4)=>letI b:=ae.2.2.1;letI e:=i64<|aG b 1;aa (aK b d) (an (aO b d)<|ob (Qz (ap x.1 (ah b)<|u8 0,())) λa=>an (aO e d) (ob (Qz (ap x.1 (ah e)<|u8 0,())) λa5=>letI c:=i64<|aG (i64<|dI 16 a.1) a5.1;ob (aa (aK 15 a.1) (J (af,()))<|some (aK 15 a5.1,())) λ(bH:aM)=>aa bH.1 (J<|aL.rt (aI aN,2,()))<|an (bO 1<|bB (aQ ae.2.1)<|aQ [u8 c])<|some<|aL.nx (ae.1,bb ae.2.1 [u8 c],i64<|aG b 2,()))) (J<|aL.ex 0 (ae.1,ae.2.1,b,()))) (0,aI aN,0,())) (λ_ =>aq) (λi a=>an (bU i 0)<|some (a.2.1,0,())) λ(r:cg)=>J r)
def KE(x:tbc):au<|tbc:=letI a:=aV x.1;aa (aK a<|aV<|u8 10) (J (u8<|aG (aV<|u8 48) a,())) (J (u8<|aG (aV<|u8 87) a,()))
def KA(x:ca):au<|ca:=letI d:=len x.1;b? (bG (λ(ae:cg)=>letI c:=ae.2.1;letI b:=aV<|ap x.1 (ah c)<|u8 0;aa (aK c d) (an (aO c d)<|ob (KE (u8<|de b<|aV<|u8 16,())) λa=>an (aO c d)<|ob (KE (u8<|cY b<|aV<|u8 16,())) λa5=>an (bO 1<|bB (aQ ae.1)<|aQ [a.1,a5.1])<|some<|aL.nx (bb ae.1 [a.1,a5.1],i64<|aG c 1,())) (J<|aL.ex 0 (ae.1,c,()))) (aI aN,0,())) (λ_ =>aq) (λi a=>an (bU i 0)<|some (a.1,())) λ(r:ca)=>J r
abbrev tU:ab<|List O:=[[1,2,25],[1,3,22,49,70],[1,4,13,14,18],[1,6,3,11,12,15],[1,10,7],[1,12,4],[1,16,53],[1,42,90],[2,19,2],[2,11,32,100],[3,12,37],[3,6,38],[3,2,39],[3,8,41],[3,15,42],[3,42,95],[4,37,35],[4,28,102],[5,400,48],[5,120,54],[6,8,52,64,96,128],[7,255,55],[7,400,127]]
def Io(x:cK):au<|cK:=letI m:=am x.1 3;letI l:=am x.1 13;letI k:=am x.1 12;letI j:=am x.1 11;letI i:=am x.1 4;letI h:=am x.1 7;letI g:=am x.1 90;letI f:=am x.1 53;letI e:au<|cK:=J (6,());letI b:au<|cK:=aa h (J (10,()))<|aa i (J (12,()))<|aa f (J (16,()))<|aa g (J (42,()))<|some (0,());letI a:au<|cK:=aa m (aa m (J (6,()))<|aa h (J (10,()))<|aa i (J (12,()))<|aa f (J (16,()))<|aa g (J (42,()))<|some (0,()))<|aa j (aa j (J (6,()))<|aa h (J (10,()))<|aa i (J (12,()))<|aa f (J (16,()))<|aa g (J (42,()))<|some (0,()))<|aa k (aa k (J (6,()))<|aa h (J (10,()))<|aa i (J (12,()))<|aa f (J (16,()))<|aa g (J (42,()))<|some (0,()))<|aa (am x.1 15) (J (6,()))<|aa h (J (10,()))<|aa i (J (12,()))<|aa f (J (16,()))<|aa g (J (42,()))<|some (0,());letI c:au<|cK:=aa (am x.1 14) (aa (am x.1 14) (J (4,())) a)<|aa (am x.1 18) (J (4,())) a;letI d:au<|cK:=aa l (aa l (J (4,())) a) c;aa (am x.1 25) (J (2,())) (aa (am x.1 22) (aa (am x.1 22) (J (3,())) d)<|aa (am x.1 49) (aa (am x.1 49) (J (3,())) d)<|aa (am x.1 70) (J (3,()))<|aa l (aa l (J (4,()))<|aa m (aa m e b)<|aa j (aa j e b)<|aa k (aa k e<|aa h (J (10,()))<|aa i (J (12,()))<|aa f (J (16,()))<|aa g (J (42,()))<|some (0, ()))<|aa (am x.1 15) e b) c)
def Bu(x:ek):au<|cK:=letI b:=x.2.1;aa (am x.1 1) (ob (Io (b,())) λa=>J (a.1,())) (aa (am x.1 2) (J (aa (am b 2) 19<|aa (am b 32) 11<|aa (am b 100) 11 0,()))<|aa (am x.1 3) (J (aa (am b 37) 12<|aa (am b 38) 6<|aa (am b 39) 2<|aa (am b 41) 8<|aa (am b 42) 15<|aa (am b 95) 42 0,()))<|aa (am x.1 4) (J (aa (am b 35) 37<|aa (am b 102) 28 0,()))<|aa (am x.1 5) (J (aa (am b 48) 400<|aa (am b 54) 120 0,()))<|aa (am x.1 6) (J (aa (am b 52) 8<|aa (am b 64) 8<|aa (am b 96) 8<|aa (am b 128) 8 0,()))<|aa (am x.1 7) (J (aa (am b 55) 255<|aa (am b 127) 400 0,()))<|some (0,()))
def xk(x:cK):au<|ry:=b? (bG (λ(ae:dt)=>letI b:=ae.2.1;aa (bL b 7) (ob (Bu (b,x.1,())) λa=>aa (aK 0 a.1) (J<|aL.rt ((b,a.1,()),af,()))<|some<|aL.nx (ae.1,i64<|aG b 1,())) (J<|aL.ex 0 (ae.1,b,()))) (ag,1,())) (λ_ =>aq) (λi a=>an (bU i 0)<|some ((0,0,()),ag,())) λ(r:ry)=>J r
def jB(x:cK):au<|cK:=letI a:au<|cK:=aa (am x.1 5) (aa (am x.1 5) (J (3,()))<|some (0,()))<|aa (am x.1 7) (J (3,()))<|some (0,());aa (am x.1 2) (aa (am x.1 2) (J (2,())) a) (aa (am x.1 4) (J (2,())) a)
def xj(x:hH):au<|aM:=letI j:=x.2.1;letI f:au aM:=J (af,());letI e:au<|aM:=J (ag,());letI g:=len j;letI k:=aV<|u8 126;letI m:=aV<|u8 32;letI n:=J (aK 0 g,());letI H:=J (ag,());letI K:=J (af,());ob (xk (x.1,())) λa=>letI l:=J (am g a.1.2.1,());letI h:=a.1.1;letI G:=jB (h,());letI c:au<|aM:=ob G λ(co:cK)=>aa (aK 0 co.1) n l;letI b:au<|aM:=b? (bG (λ(ae:dt)=>letI w:=ae.2.1;letI o:=aV<|ap j (ah w)<|u8 0;aa (aK w g) (an (aO w g)<|ob (aa (aK o m) K<|some (aK k o,())) λ(a:aM)=>aa a.1 (J<|aL.ex 999999999 (ag,w,()))<|some<|aL.nx (ae.1,i64<|aG w 1,())) (J<|aL.ex 0 (ae.1,w,()))) (ag,0,())) (λ_ =>aq) (λi bH=>aa (bU i 999999999) (aa (a2 bH.1) H<|ob G λ(bF:cK)=>aa (aK 0 bF.1) n l)<|an (bU i 0)<|ob G λ(bF:cK)=>aa (aK 0 bF.1) n l) λ(r:aj)=>aq;letI E:=am h 3;letI F:=am h 4;letI I:=aa (am h 5) b c;ob (aa (a2 a.2.1) f<|some (aK a.1.2.1 g,())) λ(a5:aM)=>aa a5.1 e (aa (am h 1) (aa (am h 1) (b? (bG (λ(ae:dt)=>letI y:=ae.2.1;letI p:=aV<|ap j (ah y)<|u8 0;aa (aK y g) (an (aO y g)<|ob (aa (aK p<|aV<|u8 48) f<|some (aK (aV<|u8 57) p,())) λ(a:aM)=>aa a.1 (J<|aL.ex 999999999 (ag,y,()))<|some<|aL.nx (ae.1,i64<|aG y 1,())) (J<|aL.ex 0 (ae.1,y,()))) (ag,0,())) (λ_ =>aq) (λi bH=>letI d:au<|aM:=b? (bG (λ(ae:dt)=>letI z:=ae.2.1;letI q:=aV<|ap j (ah z)<|u8 0;aa (aK z g) (an (aO z g)<|ob (aa (aK q m) K<|some (aK k q,())) λ(a:aM)=>aa a.1 (J<|aL.ex 999999999 (ag,z,()))<|some<|aL.nx (ae.1,i64<|aG z 1,())) (J<|aL.ex 0 (ae.1,z,()))) (ag,0,())) (λ_ =>aq) (λi bF=>aa (bU i 999999999) (aa (a2 bF.1) H c)<|an (bU i 0) c) λ(r:aj)=>aq;aa (bU i 999999999) (aa (a2 bH.1) e d) (an (bU i 0) d)) λ(r:aj)=>aq)<|aa E (aa E b c)<|aa F (aa F b c) I) (aa (am h 2) (b? (bG
 (λ(ae:dt)=>letI A:=ae.2.1;letI s:=aV<|ap j (ah A)<|u8 0;aa (aK A g) (an (aO A g)<|ob (aa (aK s<|aV<|u8 48) f<|some (aK (aV<|u8 57) s,())) λ(a:aM)=>aa a.1 (J<|aL.ex 999999999 (ag,A,()))<|some<|aL.nx (ae.1,i64<|aG A 1,())) (J<|aL.ex 0 (ae.1,A,()))) (ag,0,())) (λ_ =>aq) (λi bH=>aa (bU i 999999999) (aa (a2 bH.1) e<|b? (bG (λ(ae:dt)=>letI B:=ae.2.1;letI t:=aV<|ap j (ah B)<|u8 0;aa (aK B g) (an (aO B g)<|ob (aa (aK t m) f<|some (aK k t,())) λ(a:aM)=>aa a.1 (J<|aL.ex 999999999 (ag,B,()))<|some<|aL.nx (ae.1,i64<|aG B 1,())) (J<|aL.ex 0 (ae.1,B,()))) (ag,0,())) (λ_ =>aq) (λi bF=>aa (bU i 999999999) (aa (a2 bF.1) e c)<|an (bU i 0) c) λ(r:aj)=>aq)<|an (bU i 0)<|b? (bG (λ(ae:dt)=>letI C:=ae.2.1;letI u:=aV<|ap j (ah C)<|u8 0;aa (aK C g) (an (aO C g)<|ob (aa (aK u m) f<|some (aK k u,())) λ(a:aM)=>aa a.1 (J<|aL.ex 999999999 (ag,C,()))<|some<|aL.nx (ae.1,i64<|aG C 1,())) (J<|aL.ex 0 (ae.1,C,()))) (ag,0,())) (λ_ =>aq) (λ(i:R) (bF : aE×O×aj)=>aa (bU i 999999999) (aa (a2 bF.1) e c)<|an (bU i 0) c) λ(r:aj)=>aq) λ(r:aj)=>aq)<|aa E (aa E b c)<|aa F (aa F (b? (bG (λ(ae:dt)=>letI D:=ae.2.1;letI v:=aV<|ap j (ah D)<|u8 0;aa (aK D g) (an (aO D g)<|ob (aa (aK v m) f<|some (aK k v,())) λ(a:aM)=>aa a.1 (J<|aL.ex 999999999 (ag,D,()))<|some<|aL.nx (ae.1,i64<|aG D 1,())) (J<|aL.ex 0 (ae.1,D,()))) (ag,0,())) (λ(a : aE×O×aj)=>aq) (λi bH=>aa (bU i 999999999) (aa (a2 bH.1) e c)<|an (bU i 0) c) λ(r:aj)=>aq) c) I))
def Im(x:hH):au<|cg:=letI c:=x.2.1;ob (xk (x.1,())) λa=>letI b:au aM:=aa (am a.1.1 1) (J (af,()))<|some (am a.1.1 2,());aa (a2 a.2.1) (J (aI aN,12,())) (ob (xj (x.1,c,())) λa5=>aa (a2 a5.1) (J (aI aN,1,()))<|ob (jB (a.1.1,())) λbH=>aa (aK 0 bH.1) (ob (vG (len c,bH.1,())) λbF=>ob (vF (bF.1,())) λco=>ob b λ(a:aM)=>aa a.1 (ob (vF (c,())) λa=>an (bO 1<|bB (aQ co.1)<|aQ a.1)<|some (bb co.1 a.1,0,()))<|an (bO 1<|bB (aQ co.1)<|aQ c)<|some (bb co.1 c,0,()))<|ob b λ(a:aM)=>aa a.1 (ob (vF (c,())) λa=>an (bO 1<|aQ a.1)<|some (a.1,0,()))<|an (bO 1<|aQ c)<|some (c,0,()))
def Oz(x:u4):au<|lE:=letI l:=x.2.1;letI c:au<|lE:=J (aI aN,0,2,());letI f:=x.2.2.1;letI g:=aI aN;letI h:=len l;letI i:=J (af,());ob (xk (x.1,())) λa=>letI k:=a.1.2.1;letI n:=aG f k;letI b:au aM:=aa (am a.1.1 1) i<|some (am a.1.1 2,());letI d:=sub l f<|i64 n;aa (a2 a.2.1) (J (aI aN,0,12,())) (ob (aa (aK f 0) i<|some (aK h f,())) λ(a5:aM)=>aa a5.1 (J (aI aN,0,1,()))<|ob (jB (a.1.1,())) λbH=>aa (aK 0 bH.1) (ob (za (l,f,bH.1,())) λbF=>letI m:=bF.2.1;aa (a2<|am bF.2.2.1 0) (J (aI aN,0,bF.2.2.1,())) (ob (vH (bF.1,())) λco=>letI j:=aG m co.1;letI e:=sub l m<|i64 j;ob (aa (aK co.1 1) i<|some (aK k co.1,())) λ(dW:aM)=>aa dW.1 c<|ob b λ(a:aM)=>aa a.1 (ob (za (l,m,co.1,())) λa=>aa (a2<|am a.2.2.1 0) (J (aI aN,0,a.2.2.1,()))<|an (bO 1<|aQ a.1)<|some (a.1,a.2.1,0,()))<|aa (aK (i64<|bw h m) co.1) (J (aI aN,0,3,()))<|an (cq m (i64 j) h)<|an (bO 1<|bB (aQ g)<|aQ e)<|ob (xj (x.1,bb g e,())) λa=>aa (a2 a.1) c<|some (bb g e,i64 j,0,())))<|ob b λ(bF:aM)=>aa bF.1 (ob (za (l,f,k,())) λa=>aa (a2<|am a.2.2.1 0) (J (aI aN,0,a.2.2.1,()))<|an (bO 1<|aQ a.1)<|some (a.1,a.2.1,0,()))<|aa (aK (i64<|bw h f) k) (J (aI aN,0,3,()))<|an (cq f (i64 n) h)<|an (bO 1<|bB (aQ g)<|aQ d)<|ob (xj (x.1,bb g d,())) λco=>aa (a2 co.1) c<|some (bb g d,i64 n,0,()))
def KP(x:wH):au<|aM:=b? (bG (λ(ae:dt)=>letI b:=ae.2.1;aa (aK b<|len x.1) (an (aO b<|len x.1)<|aa (am (ap x.1 (ah b) 0) x.2.1) (J<|aL.rt (af,()))<|some<|aL.nx (ae.1,i64<|aG b 1,())) (J<|aL.ex 0 (ae.1,b,()))) (ag,0,())) (λ_ =>aq) (λi a=>an (bU i 0)<|some (ag,())) λ(r:aM)=>J r
def Aa(x:cK):au<|ry:=b? (bG (λ(ae:dt)=>letI d:=ae.2.1;letI b:=ap tU (ah d)<|aI O;letI c:=aO d<|len tU;aa (aK d<|len tU) (an c<|an (cq 2 (len b)<|len b)<|ob (KP (sub b 2<|len b,x.1,())) λa=>aa a.1 (an c<|an (aO 0<|len b)<|an c<|an (aO 1<|len b)<|some<|aL.rt ((ap b (ah 0) 0,ap b (ah 1) 0,()),af,()))<|some<|aL.nx (ae.1,i64<|aG d 1,())) (J<|aL.ex 0 (ae.1,d,()))) (ag,0,())) (λ_ =>aq) (λi a=>an (bU i 0)<|some ((0,0,()),ag,())) λ(r:ry)=>J r
def uO(x:(O×O×aj)×ai×aj):au<|aM:=letI c:au aM:=J (af,());letI e:=len x.2.1;letI g:=J (ag,());letI j:=x.1.1;b? (bG (λ(ae:dt)=>letI h:=ae.2.1;letI f:=aO h e;letI d:=aV<|ap x.2.1 (ah h)<|u8 0;letI b:au aM:=aa (bL 3 j) (aa (bL j 5) (an f<|aa (aK d<|aV<|u8 32) (J (af,()))<|an f<|some (aK (aV<|u8 126) d,())) g) g;aa (aK h e) (ob (aa (bL j 2) (an f<|aa (aK d<|aV<|u8 48) c<|an f<|aa (aK (aV<|u8 57) d) c b) b) λ(a:aM)=>aa a.1 (J<|aL.rt (ag,()))<|some<|aL.nx (ae.1,i64<|aG h 1,())) (J<|aL.ex 0 (ae.1,h,()))) (ag,0,())) (λ_ =>aq) (λi a=>an (bU i 0)<|ob (aa (am j 1) c<|aa (am j 3) c<|some (am j 6,())) λ(a:aM)=>aa a.1 (J (am e x.1.2.1,()))<|ob (aa (bL 1 e) (J (bL e x.1.2.1,())) g) λ(a:aM)=>J (a.1,())) λ(r:aM)=>J r
def F5(x:cK):au<|cK:=letI b:=J (af,());ob (aa (am x.1 2) b<|some (am x.1 4,())) λ(a:aM)=>aa a.1 (J (2,()))<|ob (aa (am x.1 5) b<|some (am x.1 7,())) λ(a:aM)=>aa a.1 (J (3,())) (J (0,()))
def KN(x:hH):au<|cg:=letI b:=aI aN;letI e:=x.2.1;letI f:=bO 1<|bB (aQ b)<|aQ b;letI g:=bb b b;ob (Aa (x.1,())) λa=>letI h:=F5 (a.1.1,());aa (a2 a.2.1) (J (aI aN,12,())) (ob (uO (a.1,e,())) λa5=>aa (a2 a5.1) (J (aI aN,1,()))<|ob h λ(bH:cK)=>aa (aK 0 bH.1) (ob h λ(bF:cK)=>ob (wu (len e,bF.1,())) λco=>ob (ws (co.1,())) λdW=>letI c:=bb b dW.1;letI d:=bO 1<|bB (aQ b)<|aQ dW.1;aa (bL a.1.1 2) (ob (ws (e,())) λa=>an d<|an (bO 1<|bB (aQ c)<|aQ a.1)<|some (bb c a.1,0,())) (an d<|an (bO 1<|bB (aQ c)<|aQ e)<|some (bb c e,0,())))<|aa (bL a.1.1 2) (ob (ws (e,())) λa=>an f<|an (bO 1<|bB (aQ g)<|aQ a.1)<|some (bb g a.1,0,()))<|an f<|an (bO 1<|bB (aQ g)<|aQ e)<|some (bb g e,0,()))
def KL(x:hH):au<|aM:=ob (Aa (x.1,())) λa=>ob (uO (a.1,x.2.1,())) λa5=>ob (aa a.2.1 (J (a5.1,()))<|some (ag,())) λ(a:aM)=>J (a.1,())
def QG(x:u4):au<|lE:=letI k:=x.2.1;letI b:au<|lE:=J (aI aN,0,2,());letI e:=x.2.2.1;letI g:=aI aN;letI h:=len k;letI n:=J (af,());ob (Aa (x.1,())) λa=>letI i:=bL a.1.1 2;letI m:=a.1.2.1;letI o:=F5 (a.1.1,());aa (a2 a.2.1) (J (aI aN,0,12,())) (ob (aa (aK e 0) n<|some (aK h e,())) λ(a5:aM)=>aa a5.1 (J (aI aN,0,1,()))<|ob o λ(bH:cK)=>aa (aK 0 bH.1) (ob o λ(bF:cK)=>ob (z_ (k,e,bF.1,())) λco=>letI l:=co.2.1;aa (a2<|am co.2.2.1 0) (J (aI aN,0,co.2.2.1,())) (ob (F1 (co.1,())) λdW=>ob (aa (aK dW.1 1) n<|some (aK m dW.1,())) λ(ig:aM)=>aa ig.1 b (ob (aa i (J (i64<|de (i64<|aG dW.1 1) 2,()))<|some (dW.1,())) λ(hN:cK)=>letI f:=aG l hN.1;letI d:=sub k l<|i64 f;aa (aK (i64<|bw h l) hN.1) (J (aI aN,0,3,())) (an (cq l (i64 f) h)<|an (bO 1<|bB (aQ g)<|aQ d)<|aa i (ob (z_ (k,l,dW.1,())) λm0=>aa (a2<|am m0.2.2.1 0) b<|an (bO 1<|aQ m0.1)<|ob (uO (a.1,m0.1,())) λa=>aa (a2 a.1) b<|some (m0.1,i64 f,0,()))<|ob (uO (a.1,bb g d,())) λa=>aa (a2 a.1) b<|some (bb g d,i64 f,0,()))))) (ob (aa i (J (i64<|de (i64<|aG m 1) 2,()))<|some (m,())) λ(bF:cK)=>letI j:=aG e bF.1;letI c:=sub k e<|i64 j;aa (aK (i64<|bw h e) bF.1) (J (aI aN,0,3,())) (an (cq e (i64 j) h)<|an (bO 1<|bB (aQ g)<|aQ c)<|aa i (ob (z_ (k,e,m,())) λco=>aa (a2<|am co.2.2.1 0) b<|an (bO 1<|aQ co.1)<|ob (uO (a.1,co.1,())) λa=>aa (a2 a.1) b<|some (co.1,i64 j,0,()))<|ob (uO (a.1,bb g c,())) λa=>aa (a2 a.1) b<|some (bb g c,i64 j,0,()))))
def bt(c:aN)(t:R):aE:=c.toNat.testBit<|7-t
def gQ(b:ai)(n:R):aE:=bt (ap b ((n-1)/8)<|u8 0)<|(n-1)%8
def h?(b:ai):ab R:=(fw<|8*b.length+1).filter λn=>Nat.ble 2 n&&gQ b n
def mv(c:ai)(a:O):ab O×O×O×aj:=
 if c.length<8\/(gQ c 1=af/\c.length<16) then([],0,3,())
 else if gQ c 1=af then
  (if 65∈h? (c.take 16)\/∀n∈h? (c.take 16),n<65 then([],0,2,()) else((h?<|c.take 16).map Int.ofNat,a+16,0,()))
 else((h?<|c.take 8).map Int.ofNat,a+8,0,())
def ku(b:ai)(a:O):ab O×O×O×aj:=if a<0\/(b.length:O)<a then([],0,1,()) else mv (b.drop a.toNat) a
def adh(x:cg):au<|LX:=J<|ku x.1 x.2.1
def v4(x:ek):au<|cK:=b? (bG (λ(ae:ek)=>aa (aK ae.2.1 x.2.1) (J<|aL.nx (i64<|de ae.1 10,i64<|aG ae.2.1 1,()))<|some<|aL.ex 0 (ae.1,ae.2.1,())) (x.1,0,())) (λ_ =>aq) (λi a=>an (bU i 0)<|some (cY a.1 10,())) λ(r:cK)=>J r
def B_(x:cK):au<|aM:=letI b:au aM:=J (ag,());ob (aa (aK x.1 0) (J (af,()))<|some (aK 999 x.1,())) λ(a:aM)=>aa a.1 (J (ag,()))<|ob (v4 (x.1,2,())) λa=>ob (aa (bL 1 a.1) (aa (bL a.1 8) (ob (v4 (x.1,1,())) λa=>aa (bL a.1 4) (ob (v4 (x.1,0,())) λa=>J (bL a.1 5,())) b) b) b) λ(a:aM)=>J (a.1,())
def Zk(x:u5):au<|aM:=letI b:au aM:=J (ag,());letI c:=x.1.2.2.2.2;ob (aa (bL 1 c.1) (aa (bL c.1 2147483647) (aa (am (len c.2.1) 8) (aa (am (len c.2.2.1) 3) (J (am c.2.2.2.1 0,())) b) b) b) b) λ(a:aM)=>J (a.1,())
def P4(x:u5):au<|aM:=letI b:au aM:=J (ag,());letI c:=x.1.2.2.2.2;ob (aa (am c.1 0) (aa (am (len c.2.1) 0) (aa (am (len c.2.2.1) 0) (J (am c.2.2.2.1 0,())) b) b) b) λ(a:aM)=>J (a.1,())
def Zj(x:u5):au<|aM:=letI b:=x.1.2.2.2.2;letI c:=J (ag,());ob (aa (bL 0 b.2.2.2.1) (aa (bL b.2.2.2.1 999999) (ob (P4 ((x.1.1,x.1.2.1,x.1.2.2.1,x.1.2.2.2.1,b.1,b.2.1,b.2.2.1,0,b.2.2.2.2),())) λa=>J (a.1,())) c) c) λ(a:aM)=>J (a.1,())
def Pt(x:pT):au<|aM:=letI c:=x.1.2.1;b? (bG (λ(ae:Dm)=>letI b:=ae.2.2.1;aa (aK b<|len c) (an (aO b<|len c)<|ob (aa (bL (ap c (ah b) (0,aI aN,())).1 ae.2.1) (J (af,()))<|ob (xj ((ap c (ah b) (0,aI aN,())).1,(ap c (ah b) (0,aI aN,())).2.1,())) λa=>J (a2 a.1,())) λ(a:aM)=>aa a.1 (J<|aL.rt (ag,()))<|some<|aL.nx (ae.1,(ap c (ah b) (0,aI aN,())).1,i64<|aG b 1,())) (J<|aL.ex 0 (ae.1,ae.2.1,b,()))) (ag,0,0,())) (λ_ =>aq) (λi a=>an (bU i 0)<|ob (B_ (x.1.1,())) λa=>J (a.1,())) λ(r:aM)=>J r
def Eb(x:Dl):au<|aM:=J (seq x.1 x.2.1,())
def Pu(x:an4):au<|aM:=ob (aa (am x.1.1 x.2.1.1) (ob (Eb (x.1.2.1,x.2.1.2.1,())) λa=>J (a.1,()))<|some (ag,())) λ(a:aM)=>J (a.1,())
def Nt(x:kX):au<|aM:=letI d:=J (af,());b? (bG (λ(ae:Dm)=>letI b:=ae.2.2.1;letI c:=ap x.1 (ah b) 0;aa (aK b<|len x.1) (an (aO b<|len x.1)<|ob (aa (bL c ae.2.1) d<|aa (aK 128 c) d<|some (am c 65,())) λ(a:aM)=>aa a.1 (J<|aL.rt (ag,()))<|some<|aL.nx (ae.1,ap x.1 (ah b) 0,i64<|aG b 1,())) (J<|aL.ex 0 (ae.1,ae.2.1,b,()))) (ag,1,0,())) (λ_ =>aq) (λi a=>an (bU i 0) d) λ(r:aM)=>J r
def vy(x:cK):au<|AB:=letI b:=i64<|bw x.1 1;ob (aa (aK x.1 1) (J (af,()))<|some (aK 128 x.1,())) λ(a:aM)=>aa a.1 (J (0,u8 0,()))<|an (bL 0<|cY b 8) (J (i64<|de b 8,u8<|e4 gV (aV<|u8 128)<|cY b 8,()))
def Nu(x:kX):au<|cg:=letI b:=len x.1;letI e:=cb (ah 16)<|u8 0;letI h:=i64<|bw b 1;ob (Nt (x.1,())) λa=>aa (a2 a.1) (J (aI aN,1,()))<|an (df (cq 0 8 8)<|bO 1<|ah 8) (ob (aa (aK 0 b) (an (aO h b)<|some (aK 64<|ap x.1 (ah h) 0,()))<|some (ag,())) λ(a:aM)=>aa a.1 (an (df (cq 0 16 16)<|bO 1<|ah 16)<|an (aO 0<|len e)<|b? (bG (λ(ae:hH)=>letI f:=ae.2.1;aa (aK ae.1 b) (an (aO ae.1 b) (ob (vy (ap x.1 (ah ae.1) 0,())) λa=>letI c:=aO a.1<|len f;an c (an c<|some<|aL.nx (i64<|aG ae.1 1,cA f (ah a.1)<|u8<|hG gV (aV<|ap f (ah a.1)<|u8 0)<|aV a.2.1,())))) (J<|aL.ex 0 (ae.1,f,()))) (0,cA e (ah 0)<|u8 128,())) (λ_ =>aq) (λi a=>an (bU i 0)<|some (a.2.1,0,())) λ(r:cg)=>J r)<|b? (bG (λ(ae:hH)=>letI g:=ae.2.1;aa (aK ae.1 b) (an (aO ae.1 b) (ob (vy (ap x.1 (ah ae.1) 0,())) λa=>letI d:=aO a.1<|len g;an d (an d<|some<|aL.nx (i64<|aG ae.1 1,cA g (ah a.1)<|u8<|hG gV (aV<|ap g (ah a.1)<|u8 0)<|aV a.2.1,())))) (J<|aL.ex 0 (ae.1,g,()))) (0,cb (ah 8)<|u8 0,())) (λ_ =>aq) (λi a=>an (bU i 0)<|some (a.2.1,0,())) λ(r:cg)=>J r)
def Ca(x:pT):au<|cg:=letI b:=x.1.2.1;ob (Pt (x.1,())) λa=>aa (a2 a.1) (J (aI aN,1,()))<|ob (vG (x.1.1,4,())) λa=>ob (vF (a.1,())) λa=>b? (bG (λ(ae:wH)=>letI c:=ae.2.1;aa (aK c<|len b) (an (aO c<|len b)<|an (bO 32<|bB (aQ ae.1)<|aQ [(ap b (ah c) (0,aI aN,())).1])<|some<|aL.nx (bb ae.1 [(ap b (ah c) (0,aI aN,())).1],i64<|aG c 1,())) (J<|aL.ex 0 (ae.1,c,()))) (aI O,0,())) (λ_ =>aq) (λi a5=>an (bU i 0)<|ob (Nu (a5.1,())) λbH=>an (bO 1<|bB (aQ a.1)<|aQ bH.1)<|b? (bG (λ(ae:cg)=>letI d:=ae.2.1;aa (aK d<|len b) (an (aO d<|len b)<|ob (Im ((ap b (ah d) (0,aI aN,())).1,(ap b (ah d) (0,aI aN,())).2.1,())) λa=>an (bO 1<|bB (aQ ae.1)<|aQ a.1)<|some<|aL.nx (bb ae.1 a.1,i64<|aG d 1,())) (J<|aL.ex 2 (ae.1,d,()))) (bb a.1 bH.1,0,())) (λ_ =>aq) (λi a=>an (bU i 2)<|some (a.1,0,())) λ(r:cg)=>J r) λ(r:cg)=>J r
def Ps(x:cK):au<|j4:=ob (v4 (x.1,1,())) λa=>ob (B_ (x.1,())) λa5=>ob (aa (a2 a5.1) (J (af,()))<|aa (a2<|am a.1 0) (J (a2<|am a.1 2,()))<|some (ag,())) λ(a:aM)=>aa a.1 (J (0,ag,()))<|some (i64<|aG x.1 10,af,())
def SL(x:ab (O×ai×aj)×ab (O×ai×aj)×R×aj):au<|aM:=letI c:=len x.1;aa (a2<|am c<|len x.2.1) (J (ag,())) (b? (bG (λ(ae:dt)=>letI b:=ae.2.1;aa (aK b c) (an (aO b c)<|an (aO b<|len x.2.1)<|an (bU x.2.2.1 1)<|ob (Pu (ap x.1 (ah b) (0,aI aN,()),ap x.2.1 (ah b) (0,aI aN,()),())) λa=>aa (a2 a.1) (J<|aL.rt (ag,()))<|some<|aL.nx (ae.1,i64<|aG b 1,())) (J<|aL.ex 0 (ae.1,b,()))) (ag,0,())) (λ_ =>aq) (λi a=>an (bU i 0)<|some (af,())) λ(r:aM)=>J r)
def JA(x:(O×ab (O×ai×aj)×aj)×(O×ab (O×ai×aj)×aj)×aj):au<|aM:=ob (aa (am x.1.1 x.2.1.1) (ob (SL (x.1.2.1,x.2.1.2.1,1,())) λa=>J (a.1,()))<|some (ag,())) λ(a:aM)=>J (a.1,())
def Jz(x:cK):au<|cK:=ob (B_ (x.1,())) λa=>aa (a2 a.1) (J (0,()))<|ob (v4 (x.1,2,())) λa=>J (a.1,())
def Px(x:ST):au<|cK:=J (x.1.1,())
def Ff(x:ca):au<|jK:=ob (za (x.1,0,4,())) λa=>aa (a2<|am a.2.2.1 0) (J ((0,aI<|Int×ai×aj,()),a.2.2.1,()))<|ob (vH (a.1,())) λa5=>ob (B_ (a5.1,())) λbH=>aa (a2 bH.1) (J ((0,aI<|Int×ai×aj,()),2,())) (ob (adh (x.1,a.2.1,())) λa=>letI c:=len a.1;aa (a2<|am a.2.2.1 0) (J ((0,aI<|Int×ai×aj,()),a.2.2.1,())) (b? (bG (λ(x:ek)=>letI f:=x.2.1;aa (aK f c) (an (aO f c)<|ob (xk (ap a.1 (ah f) 0,())) λa=>aa (a2 a.2.1) (J<|aL.rt ((0,aI<|Int×ai×aj,()),2,()))<|some<|aL.nx (x.1,i64<|aG f 1,())) (J<|aL.ex 0 (x.1,f,()))) (0,0,())) (λ_ =>aq) (λi bF=>an (bU i 0)<|b? (bG (λ(ae:S8)=>letI b:=ae.2.2;letI e:=b.2.1;aa (aK b.1 c) (an (aO b.1 c) (ob (Oz (ap a.1 (ah b.1) 0,x.1,ae.2.1,())) λco=>letI d:=(ap a.1 (ah b.1) 0,co.1,());aa (a2<|am co.2.2.1 0) (J<|aL.rt ((0,aI<|Int×ai×aj,()),co.2.2.1,())) (an (bO 56<|bB (aQ e.2.1)<|aQ [d])<|some<|aL.nx (ae.1,co.2.1,i64<|aG b.1 1,(e.1,bb e.2.1 [d],e.2.2),())))) (J<|aL.ex 2 (ae.1,ae.2.1,b.1,(e.1,e.2.1,e.2.2),()))) (bF.1,a.2.1,0,(a5.1,aI<|Int×ai×aj,()),())) (λ_ =>aq) (λi a=>letI g:=a.2.2.2.1;an (bU i 2) (aa (aK a.2.1<|len x.1) (J ((0,aI<|Int×ai×aj,()),4,()))<|some ((g.1,g.2.1,g.2.2),0,()))) λ(r:jK)=>J r) λ(r:jK)=>J r))
def Pw(x:pT):au<|abA:=J ((x.1.2.1,1,()),())
def JC(x:(ab (O×ai×aj)×R×aj)×O×aj):au<|j4:=b? (bG (λ(ae:abx)=>letI b:=ae.2.2.1;aa (aK b<|len x.1.1) (an (aO b<|len x.1.1)<|an (bU x.1.2.1 1)<|ob (Px (ap x.1.1 (ah b) (0,aI aN,()),())) λa=>aa (bL x.2.1 a.1) (J<|aL.rt (b,am a.1 x.2.1,()))<|some<|aL.nx (ae.1,ae.2.1,i64<|aG b 1,())) (J<|aL.ex 0 (ae.1,ae.2.1,b,()))) (0,ag,0,())) (λ_ =>aq) (λi a=>an (bU i 0)<|some (len x.1.1,ag,())) λ(r:j4)=>J r
def SK(x:ab (ab<|Int×ai×aj)×aj):au<|sD:=letI c:=aI<|Int×ai×aj;letI d:=len x.1;b? (bG (λ(ae:ek)=>letI h:=ae.2.1;letI e:=aG ae.1<|len<|ap x.1 (ah h) c;aa (aK h d) (an (aO h d)<|aa (aK (i64 e) 0) aq<|some<|aL.nx (i64 e,i64<|aG h 1,())) (J<|aL.ex 0 (ae.1,h,()))) (0,0,())) (λ_ =>aq) (λi a=>letI b:=i64<|bw a.1<|i64<|bw 0 0;an (bU i 0) (aa (aK a.1 0) aq<|aa (aK 0 b) (an (cq 0 0 0)<|an (df (bL 0 b)<|bO 56<|ah b)<|an (cq 0 0<|len<|cb (ah b) (0,aI aN,()))<|b? (bG (λ(ae:tN)=>letI f:=ae.2.1;letI j:=ap x.1 (ah f) c;aa (aK f d) (an (aO f d)<|an (bO 56<|bB (aQ ae.1)<|aQ j)<|some<|aL.nx (bb ae.1 j,i64<|aG f 1,())) (J<|aL.ex 2 (ae.1,f,()))) (cut (cb (ah b) (0,aI aN,())) (ah 0)<|cy (ah 0)<|ah 0,0,())) (λ_ =>aq) (λi a=>an (bU i 2)<|some (a.1,())) λ(r:sD)=>J r)<|b? (bG (λ(ae:tN)=>letI g:=ae.2.1;letI k:=ap x.1 (ah g) c;aa (aK g d) (an (aO g d)<|an (bO 56<|bB (aQ ae.1)<|aQ k)<|some<|aL.nx (bb ae.1 k,i64<|aG g 1,())) (J<|aL.ex 2 (ae.1,g,()))) (aI<|Int×ai×aj,0, ())) (λ_ =>aq) (λi a=>an (bU i 2)<|some (a.1,())) λ(r:sD)=>J r)) λ(r:sD)=>J r
def YA(x:(ab (O×ai×aj)×R×aj)×(O×ai×aj)×aj):au<|sD:=letI b:=len x.1.1;an (bU x.1.2.1 1) (ob (Px (x.2.1,())) λa=>ob (JC (x.1,a.1,())) λa=>ob (aa a.2.1 (J (i64<|aG a.1 1,()))<|some (a.1,())) λ(a5:cK)=>an (cq 0 a.1 b)<|an (cq a5.1 b b)<|ob (SK ([sub x.1.1 0 a.1,[x.2.1],sub x.1.1 a5.1 b],())) λa=>J (a.1,()))
def k8(x:an7):au<|jK:=ob (xk (x.2.1,())) λa=>aa (a2 a.2.1) (J (x.1,12,()))<|ob (xj (x.2.1,x.2.2.1,())) λa=>aa (a2 a.1) (J (x.1,1,())) (ob (Pw (x.1,())) λa=>ob (YA (a.1,(x.2.1,x.2.2.1,()),())) λa=>J ((x.1.1,a.1,x.1.2.2),0,()))
def sb(x:jK):au<|lc:=ob (Pw (x.1,())) λa=>ob (JC (a.1,x.2.1,())) λa=>aa (a2 a.2.1) (J (aI aN,ag,()))<|an (aO a.1<|len x.1.2.1) (J ((ap x.1.2.1 (ah a.1) (0,aI aN,())).2.1,af,()))
def CM(x:cK):au<|aM:=letI b:au aM:=J (ag,());ob (aa (bL 100 x.1) (aa (bL x.1 899) (aa (bL (cY (i64<|de x.1 10) 10) 4) (J (bL (cY x.1 10) 5,())) b) b) b) λ(a:aM)=>J (a.1,())
def QN(x:pT):au<|aM:=letI d:=x.1.2.1;letI c:=len d;b? (bG (λ(ae:dt)=>letI b:=ae.2.1;letI e:=aO b c;letI f:=i64<|bw b 1;aa (aK b c) (an e<|an e<|ob (KL ((ap d (ah b) (0,aI aN,())).1,(ap d (ah b) (0,aI aN,())).2.1,())) λa=>ob (aa (a2 a.1) (J (af,()))<|aa (aK 0 b) (an (aO f c)<|an e<|some (bL (ap d (ah b) (0,aI aN,())).1 (ap d (ah f) (0,aI aN,())).1,()))<|some (ag,())) λ(a:aM)=>aa a.1 (J<|aL.rt (ag,()))<|some<|aL.nx (ae.1,i64<|aG b 1,())) (J<|aL.ex 0 (ae.1,b,()))) (ag,0,())) (λ_ =>aq) (λi a=>an (bU i 0)<|ob (CM (x.1.1,())) λa=>J (a.1,())) λ(r:aM)=>J r
def QJ(x:kX):au<|aM:=letI b:au aM:=J (af,());letI f:=len x.1;b? (bG (λ(ae:dt)=>letI c:=ae.2.1;letI d:=ap x.1 (ah c) 0;letI e:=aO c f;letI g:=i64<|bw c 1;aa (aK c f) (an e<|ob (aa (aK d 2) b<|an e<|aa (aK 128 d) b<|an e<|aa (am d 65) b<|aa (aK 0 c) (an (aO g f)<|an e<|some (bL d<|ap x.1 (ah g) 0,()))<|some (ag,())) λ(a:aM)=>aa a.1 (J<|aL.rt (ag,()))<|some<|aL.nx (ae.1,i64<|aG c 1,())) (J<|aL.ex 0 (ae.1,c,()))) (ag,0,())) (λ_ =>aq) (λi a=>an (bU i 0)<|some (af,())) λ(r:aM)=>J r
def CL(x:cK):au<|AB:=letI b:=i64<|bw x.1 1;ob (aa (aK x.1 1) (J (af,()))<|some (aK 128 x.1,())) λ(a:aM)=>aa a.1 (J (0,u8 0,()))<|b? (bG (λ(ae:ek)=>aa (aK ae.2.1<|cY b 8) (J<|aL.nx (i64<|de ae.1 2,i64<|aG ae.2.1 1,()))<|some<|aL.ex 0 (ae.1,ae.2.1,())) (128,0,())) (λ_ =>aq) (λi a=>an (bU i 0)<|some (i64<|de b 8,u8 a.1,())) λ(r:AB)=>J r
def QK(x:kX):au<|cg:=letI b:=bb (aI O) x.1;letI c:=len x.1;letI f:=bb b [1];letI j:=i64<|bw c 1;ob (QJ (x.1,())) λa=>aa (a2 a.1) (J (aI aN,1,()))<|an (bO 32<|bB (aQ<|aI O)<|aQ x.1) (ob (aa (aK 0 c) (an (aO j c)<|some (aK 64<|ap x.1 (ah j) 0,()))<|some (ag,())) λ(a:aM)=>aa a.1 (an (bO 32<|bB (aQ b)<|aQ [1])<|an (df (cq 0 16 16)<|bO 1<|ah 16)<|b? (bG (λ(ae:hH)=>letI g:=ae.2.1;aa (aK ae.1<|len f) (an (aO ae.1<|len f) (ob (CL (ap f (ah ae.1) 0,())) λa=>letI d:=aO a.1<|len g;an d (an d<|some<|aL.nx (i64<|aG ae.1 1,cA g (ah a.1)<|u8<|aG (aV<|ap g (ah a.1)<|u8 0)<|aV a.2.1,())))) (J<|aL.ex 0 (ae.1,g,()))) (0,cb (ah 16)<|u8 0,())) (λ_ =>aq) (λi a=>an (bU i 0)<|some (a.2.1,0,())) λ(r:cg)=>J r)<|an (df (cq 0 8 8)<|bO 1<|ah 8)<|b? (bG (λ(ae:hH)=>letI h:=ae.2.1;aa (aK ae.1<|len b) (an (aO ae.1<|len b) (ob (CL (ap b (ah ae.1) 0,())) λa=>letI e:=aO a.1<|len h;an e (an e<|some<|aL.nx (i64<|aG ae.1 1,cA h (ah a.1)<|u8<|aG (aV<|ap h (ah a.1)<|u8 0)<|aV a.2.1,())))) (J<|aL.ex 0 (ae.1,h,()))) (0,cb (ah 8)<|u8 0,())) (λ_ =>aq) (λi a=>an (bU i 0)<|some (a.2.1,0,())) λ(r:cg)=>J r)
def QP(x:cK):au<|ca:=ob (wu (x.1,4,())) λa=>J (a.1,())
def wv(x:pT):au<|cg:=letI c:=x.1.2.1;ob (QN (x.1,())) λa=>aa (a2 a.1) (J (aI aN,1,()))<|b? (bG (λ(ae:abw)=>letI b:=ae.2.2.1;letI d:=aO b<|len c;aa (aK b<|len c) (an d<|an d<|ob (KN ((ap c (ah b) (0,aI aN,())).1,(ap c (ah b) (0,aI aN,())).2.1,())) λa=>an d<|an (bO 32<|bB (aQ ae.1)<|aQ [(ap c (ah b) (0,aI aN,())).1])<|an (bO 1<|bB (aQ ae.2.1)<|aQ a.1)<|some<|aL.nx (bb ae.1 [(ap c (ah b) (0,aI aN,())).1],bb ae.2.1 a.1,i64<|aG b 1,())) (J<|aL.ex 0 (ae.1,ae.2.1,b,()))) (aI O,aI aN,0,())) (λ_ =>aq) (λi a=>an (bU i 0) (ob (QK (a.1,())) λa5=>ob (QP (x.1.1,())) λbH=>ob (ws (bH.1,())) λbF=>letI e:=bb bF.1 a5.1;an (bO 1<|bB (aQ bF.1)<|aQ a5.1) (an (bO 1<|bB (aQ e)<|aQ a.2.1)<|some (bb e a.2.1,0,())))) λ(r:cg)=>J r
def QM(x:cK):au<|j4:=letI b:=cY (i64<|de x.1 10) 10;ob (CM (x.1,())) λa=>ob (aa (a2 a.1) (J (af,()))<|aa (a2<|am b 0) (J (a2<|am b 2,()))<|some (ag,())) λ(a:aM)=>aa a.1 (J (0,ag,()))<|some (i64<|aG x.1 10,af,())
def KQ(x:cK):au<|cK:=ob (CM (x.1,())) λa=>aa (a2 a.1) (J (0,()))<|some (i64<|de x.1 100,())
def Ab(x:cg):au<|aM:=ob (CL (x.2.1,())) λa=>an (aO a.1<|len x.1)<|some (a2<|am (aV<|u8<|hz gV (aV<|ap x.1 (ah a.1)<|u8 0)<|aV a.2.1)<|aV<|u8 0,())
def QI(x:cg):au<|LX:=letI b:au aM:=J (af,());letI c:=len x.1;letI d:=x.2.1;letI g:=len<|sub x.1 d c;ob (aa (aK d 0) b<|some (aK c d,())) λ(a:aM)=>aa a.1 (J (aI O,0,1,()))<|an (cq d c c) (aa (aK g 8) (J (aI O,0,3,()))<|ob (Ab (sub x.1 d c,1,())) λa=>ob (aa a.1 (J (16,()))<|some (8,())) λ(a5:cK)=>aa (aK g a5.1) (J (aI O,0,3,()))<|b? (bG (λ(ae:wH)=>letI e:=ae.2.1;aa (bL e<|i64<|dI 8 a5.1) (ob (Ab (sub x.1 d c,e,())) λa=>aa a.1 (an (bO 32<|bB (aQ ae.1)<|aQ [e])<|some<|aL.nx (bb ae.1 [e],i64<|aG e 1,()))<|some<|aL.nx (ae.1,i64<|aG e 1,())) (J<|aL.ex 0 (ae.1,e,()))) (aI O,2,())) (λ_ =>aq) (λi bH=>letI f:=len bH.1;letI h:=i64<|bw f 1;an (bU i 0) (ob (aa a.1 (ob (Ab (sub x.1 d c,65,())) λa=>aa a.1 b<|aa (am f 0) b<|an (aO h f)<|some (bL (ap bH.1 (ah h) 0) 65,()))<|some (ag,())) λ(a:aM)=>aa a.1 (J (aI O,0,2,()))<|some (bH.1,i64<|aG d a5.1,0,()))) λ(r:LX)=>J r)
def KR(x:ca):au<|jK:=aa (aK (len x.1) 2) (J ((0,aI<|Int×ai×aj,()),3,()))<|ob (z_ (x.1,0,4,())) λa=>ob (F1 (a.1,())) λa5=>ob (aa (a2<|am a.2.2.1 0) (J (af,()))<|ob (CM (a5.1,())) λa=>J (a2 a.1,())) λ(a:aM)=>aa a.1 (J ((0,aI<|Int×ai×aj,()),2,())) (ob (QI (x.1,2,())) λa=>letI c:=len a.1;aa (a2<|am a.2.2.1 0) (J ((0,aI<|Int×ai×aj,()),a.2.2.1,())) (b? (bG (λ(x:ek)=>letI f:=x.2.1;aa (aK f c) (an (aO f c)<|ob (Aa (ap a.1 (ah f) 0,())) λa=>aa (a2 a.2.1) (J<|aL.rt ((0,aI<|Int×ai×aj,()),2,()))<|some<|aL.nx (x.1,i64<|aG f 1,())) (J<|aL.ex 0 (x.1,f,()))) (0,0,())) (λ_ =>aq) (λi bH=>an (bU i 0)<|b? (bG (λ(ae:S8)=>letI b:=ae.2.2;letI e:=b.2.1;aa (aK b.1 c) (an (aO b.1 c) (ob (QG (ap a.1 (ah b.1) 0,x.1,ae.2.1,())) λbF=>letI d:=(ap a.1 (ah b.1) 0,bF.1,());aa (a2<|am bF.2.2.1 0) (J<|aL.rt ((0,aI<|Int×ai×aj,()),bF.2.2.1,())) (an (aO b.1 c)<|an (bO 56<|bB (aQ e.2.1)<|aQ [d])<|some<|aL.nx (ae.1,bF.2.1,i64<|aG b.1 1,(e.1,bb e.2.1 [d],e.2.2),())))) (J<|aL.ex 2 (ae.1,ae.2.1,b.1,(e.1,e.2.1,e.2.2),()))) (bH.1,a.2.1,0,(a5.1,aI<|Int×ai×aj,()),())) (λ(a:O×O × O×(O×ab (O×ai×aj)×aj)×aj)=>aq) (λi a=>letI g:=a.2.2.2.1;an (bU i 2) (aa (aK a.2.1<|len x.1) (J ((0,aI<|Int×ai×aj,()),4,()))<|some ((g.1,g.2.1,g.2.2),0,()))) λ(r:jK)=>J r) λ(r:jK)=>J r))
def KS(x:an7):au<|jK:=letI b:=x.1.2.1;letI e:=x.2.1;ob (Aa (e,())) λa=>aa (a2 a.2.1) (J (x.1,12,()))<|ob (KL (e,x.2.2.1,())) λa=>aa (a2 a.1) (J (x.1,1,())) (b? (bG (λ(ae:tN)=>letI c:=ae.2.1;letI f:=aO c<|len b;aa (aK c<|len b) (an f<|aa (aK (ap b (ah c) (0,aI aN,())).1 e) (an f<|an (bO 56<|bB (aQ ae.1)<|aQ [ap b (ah c) (0,aI aN,())])<|some<|aL.nx (bb ae.1 [ap b (ah c) (0,aI aN,())],i64<|aG c 1,()))<|some<|aL.nx (ae.1,i64<|aG c 1,())) (J<|aL.ex 0 (ae.1,c,()))) (aI<|Int×ai×aj,0,())) (λ_ =>aq) (λi a=>an (bU i 0)<|an (bO 56<|bB (aQ a.1)<|aQ [(e,x.2.2.1,())])<|b? (bG (λ(ae:tN)=>letI d:=ae.2.1;letI g:=aO d<|len b;aa (aK d<|len b) (an g<|aa (aK e (ap b (ah d) (0,aI aN,())).1) (an g<|an (bO 56<|bB (aQ ae.1)<|aQ [ap b (ah d) (0,aI aN,())])<|some<|aL.nx (bb ae.1 [ap b (ah d) (0,aI aN,())],i64<|aG d 1,()))<|some<|aL.nx (ae.1,i64<|aG d 1,())) (J<|aL.ex 2 (ae.1,d,()))) (bb a.1 [(e,x.2.2.1,())],0,())) (λ_ =>aq) (λi a=>an (bU i 2)<|some ((x.1.1,a.1,()),0,())) λ(r:jK)=>J r) λ(r:(O×ab (O×ai×aj) × aj)×O×aj)=>J r)
def yh(x:jK):au<|lc:=letI c:=len x.1.2.1;b? (bG (λ(ae:dt)=>letI b:=ae.2.1;aa (aK b c) (an (aO b c)<|aa (am (ap x.1.2.1 (ah b) (0,aI aN,())).1 x.2.1) (an (aO b c)<|some<|aL.rt ((ap x.1.2.1 (ah b) (0,aI aN,())).2.1,af,()))<|some<|aL.nx (ae.1,i64<|aG b 1,())) (J<|aL.ex 0 (ae.1,b,()))) (ag,0,())) (λ_ =>aq) (λi a=>an (bU i 0)<|some (aI aN,ag,())) λ(r:lc)=>J r
def Zm(x:u5):au<|aM:=J (ag,())
def Zl(x:u5):au<|Nat×aj:=letI b:au aM:=J (af,());letI c:=x.1.2.1;letI d:=J (x.1.1,());letI e:=J (ag,());ob (aa (am c 101) d e) λ(a:aM)=>aa a.1 (J (1,()))<|ob (aa (am c 201) d e) λ(a:aM)=>aa a.1 (J (2,())) (ob (aa (am c 1) b<|aa (am c 2) b<|aa (am c 101) b<|aa (am c 201) b<|some (am c 301,())) λ(a:aM)=>aa a.1 (J (3,()))<|some (4,()))
def J_(x:u5):au<|aM:=letI b:au aM:=J (af,());letI c:=x.1.2.2;letI e:=J (ag,());ob (aa (aK c.1 1) b<|aa (aK 999999 c.1) b<|aa (aK c.2.1 0) b<|aa (aK 99 c.2.1) b<|aa x.1.1 (J (aK 0 c.2.1,())) e) λ(a:aM)=>aa a.1 e (ob (Zl (x.1,())) λa=>letI d:=cy a.1 1;aa (bU a.1 1) (ob (Zk (x.1,())) λa=>J (a.1,())) (aa (bU d 1) (ob (Zj (x.1,())) λa=>J (a.1,()))<|aa (bU (cy d 1) 1) (ob (P4 (x.1,())) λa=>J (a.1,()))<|an (bU (cy (cy d 1) 1) 1)<|ob (Zm (x.1,())) λa=>J (a.1,())))
def sm(x:ek):au<|ca:=ob (vG (x.1,x.2.1,())) λa=>an (bO 1<|aQ a.1)<|some (a.1,())
def FC(x:u5):au<|pT:=letI b:=x.1.2;letI c:=b.2.2.2;ob (sm (b.2.1,6,())) λa=>ob (k8 ((810,aI<|Int×ai×aj,()),11,a.1,())) λa=>ob (sm (b.1,3,())) λa5=>ob (k8 (a.1,70,a5.1,())) λa=>aa (a2 x.1.1) (ob (sm (b.2.2.1,2,())) λbH=>ob (k8 (a.1,39,bH.1,())) λa=>J (a.1,()))<|aa (am b.1 101) (ob (H4 (c.2.2.1,())) λbH=>an (bO 1<|aQ bH.1)<|ob (k8 ((800,a.1.2),48,bH.1,())) λa=>ob (sm (c.1,16,())) λbF=>ob (k8 (a.1,53,bF.1,())) λa=>ob (k8 (a.1,96,c.2.1,())) λa=>J (a.1,())) (aa (am b.1 201) (ob (sm (c.2.2.2.1,6,())) λbH=>ob (k8 ((800,a.1.2),15,bH.1,())) λa=>J (a.1,()))<|some ((800,a.1.2),()))
def ra(x:u5):au<|cg:=ob (J_ (x.1,())) λa=>aa (a2 a.1) (J (aI aN,1,()))<|ob (FC (x.1,())) λa=>ob (Ca (a.1,())) λa=>J (a.1,a.2.1,())
def sk(x:GV):au<|GV:=aa (a2 x.1.1) (J ((ag,0,0,0,0,aI aN,aI aN,0,()),9,()))<|ob (aa (aK x.2.1 0) (J (af,()))<|some (aK 99 x.2.1,())) λ(a:aM)=>aa a.1 (J ((ag,0,0,0,0,aI aN,aI aN,0,()),1,())) (J ((ag,x.1.2.1,x.1.2.2.1,x.2.1,0,aI aN,aI aN,0,()),0,()))
def FB(x:ca):au<|GV:=letI b:au<|GV:=J ((ag,0,0,0,0,aI aN,aI aN,0,()),2,());ob (Ff (x.1,())) λa=>aa (a2<|am a.2.1 0) (J ((ag,0,0,0,0,aI aN,aI aN,0,()),a.2.1,())) (ob (sb (a.1,70,())) λa5=>ob (vH (a5.1,())) λbH=>ob (sb (a.1,11,())) λbF=>ob (vH (bF.1,())) λco=>ob (sb (a.1,39,())) λdW=>ob (vH (dW.1,())) λig=>ob (sb (a.1,53,())) λhN=>ob (vH (hN.1,())) λm0=>ob (sb (a.1,15,())) λvp=>ob (vH (vp.1,())) λrM=>ob (sb (a.1,96,())) λBb=>ob (sb (a.1,48,())) λapP=>ob (H5 (apP.1,())) λUk=>letI c:=(am a.1.1 800,bH.1,co.1,ig.1,m0.1,Bb.1,Uk.1,rM.1,());ob (J_ (c,())) λapQ=>aa (a2 apQ.1) b<|ob (FC (c,())) λUl=>ob (JA (Ul.1,a.1,())) λUm=>aa (a2 Um.1) b<|some (c,0,()))
def K2(x:cK):au<|aM:=letI b:au aM:=J (af,());ob (aa (am x.1 1) b<|aa (am x.1 2) b<|aa (am x.1 101) b<|aa (am x.1 201) b<|some (am x.1 301,())) λ(a:aM)=>J (a.1,())
def Re(x:u5):au<|aM:=letI g:=x.1.2;letI c:au aM:=J (af,());letI b:au aM:=J (ag,());letI d:=g.2.2;letI e:=d.2.2.2;letI f:=J (am e.2.1 0,());letI h:=J (ag,());letI i:=len d.2.2.1;ob (K2 (g.1,())) λa=>ob (aa (a2 a.1) c<|aa (aK g.2.1 1) c<|aa (aK 999999 g.2.1) c<|aa (aK d.1 0) c<|aa (aK 99 d.1) c<|aa x.1.1 (J (a2<|am d.1 0,())) b) λ(a:aM)=>aa a.1 h<|ob (aa x.1.1 (J (am g.1 101,())) b) λ(a:aM)=>aa a.1 (ob (aa (bL 1 d.2.1) (aa (bL d.2.1 2147483647) (aa (am i 8) (aa (am (len e.1) 3) f b) b) b) b) λ(a:aM)=>J (a.1,())) (ob (aa (a2<|am d.2.1 0) c<|aa (a2<|am i 0) c<|some (a2<|am (len e.1) 0,())) λ(a:aM)=>aa a.1 h<|ob (aa x.1.1 (J (am g.1 201,())) b) λ(a:aM)=>aa a.1 (ob (aa (bL 0 e.2.1) (J (bL e.2.1 999999,())) b) λ(a:aM)=>J (a.1,())) f)
def oo(x:ek):au<|ca:=ob (wu (x.1,x.2.1,())) λa=>an (bO 1<|aQ a.1)<|some (a.1,())
def Rd(x:u5):au<|pT:=letI g:=x.1.2;letI e:=g.2.2.2.2;letI d:au ca:=oo (g.2.2.2.1,16,());letI c:au ca:=KA (e.2.1,());letI b:au ca:=oo (g.1,3,());letI f:=am g.1 101;ob (oo (g.2.1,6,())) λa=>aa (a2 x.1.1) (ob (oo (g.2.2.1,2,())) λa5=>ob b λ(bH:ca)=>an (bO 56<|bB (aQ [(11,a.1,())])<|aQ [(39,a5.1,()),(70,bH.1,())])<|some ((810,bb [(11,a.1,())] [(39,a5.1,()),(70,bH.1,())],()),())) (aa (am g.1 201) (ob (oo (e.2.2.1,6,())) λa5=>an (bO 56<|bB (aQ [(11,a.1,())])<|aQ [(15,a5.1,())])<|aa f (ob c λ(bH:ca)=>an (bO 1<|aQ bH.1)<|ob d λ(bF:ca)=>an (bO 56<|bB (aQ<|bb [(11,a.1,())] [(15,a5.1,())])<|aQ [(48,bH.1,()),(53,bF.1,())])<|ob b λ(co:ca)=>an (bO 56<|bB (aQ<|bb (bb [(11,a.1,())] [(15,a5.1,())]) [(48,bH.1,()),(53,bF.1,())])<|aQ [(70,co.1,())])<|aa f (an (bO 56<|bB (aQ<|bb (bb (bb [(11,a.1,())] [(15,a5.1,())]) [(48,bH.1,()),(53,bF.1,())]) [(70,co.1,())])<|aQ [(96,e.1,())])<|some ((800,bb (bb (bb (bb [(11,a.1,())] [(15,a5.1,())]) [(48,bH.1,()),(53,bF.1,())]) [(70,co.1,())]) [(96,e.1,())],()),()))<|some ((800,bb (bb (bb [(11,a.1,())] [(15,a5.1,())]) [(48,bH.1,()),(53,bF.1,())]) [(70,co.1,())],()),()))<|ob b λ(bH:ca)=>an (bO 56<|bB (aQ<|bb [(11,a.1,())] [(15,a5.1,())])<|aQ [(70,bH.1,())])<|aa f (an (bO 56<|bB (aQ<|bb (bb [(11,a.1,())] [(15,a5.1,())]) [(70,bH.1,())])<|aQ [(96,e.1, ())])<|some ((800,bb (bb (bb [(11,a.1,())] [(15,a5.1,())]) [(70,bH.1,())]) [(96,e.1,())],()),()))<|some ((800,bb (bb [(11,a.1,())] [(15,a5.1,())]) [(70,bH.1,())],()),())) (aa f (ob c λ(a5:ca)=>an (bO 1<|aQ a5.1) (ob d λ(bH:ca)=>an (bO 56<|bB (aQ [(11,a.1,())])<|aQ [(48,a5.1,()),(53,bH.1,())]) (ob b λ(bF:ca)=>an (bO 56<|bB (aQ<|bb [(11,a.1,())] [(48,a5.1,()),(53,bH.1,())])<|aQ [(70,bF.1,())]) (aa f (an (bO 56<|bB (aQ<|bb (bb [(11,a.1,())] [(48,a5.1,()),(53,bH.1,())]) [(70,bF.1,())])<|aQ [(96,e.1,())]) (J ((800,bb (bb (bb [(11,a.1,())]
 [(48,a5.1,()),(53,bH.1,())]) [(70,bF.1,())]) [(96,e.1,())],()),())))<|some ((800,bb (bb [(11,a.1,())] [(48,a5.1,()),(53,bH.1,())]) [(70,bF.1,())],()),())))))<|ob b λ(a5:ca)=>an (bO 56<|bB (aQ [(11,a.1,())])<|aQ [(70,a5.1,())])<|aa f (an (bO 56<|bB (aQ<|bb [(11,a.1,())] [(70,a5.1,())])<|aQ [(96,e.1,())])<|some ((800,bb (bb [(11,a.1,())] [(70,a5.1,())]) [(96,e.1,())],()),()))<|some ((800,bb [(11,a.1,())] [(70,a5.1,())],()),())))
def Gd(x:u5):au<|cg:=ob (Re (x.1,())) λa=>aa (a2 a.1) (J (aI aN,1,()))<|ob (Rd (x.1,())) λa=>ob (wv (a.1,())) λa=>J (a.1,0,())
def aav(x:GV):au<|GV:=aa (a2 x.1.1) (J ((ag,0,0,0,0,aI aN,aI aN,0,()),9,()))<|ob (aa (aK x.2.1 0) (J (af,()))<|some (aK 99 x.2.1,())) λ(a:aM)=>aa a.1 (J ((ag,0,0,0,0,aI aN,aI aN,0,()),1,())) (J ((ag,x.1.2.1,x.1.2.2.1,x.2.1,0,aI aN,aI aN,0,()),0,()))
def Ae(x:jK):au<|cK:=ob (yh (x.1,x.2.1,())) λa=>ob (F1 (a.1,())) λa=>J (a.1,())
def K4(x:ca):au<|GV:=ob (KR (x.1,())) λa=>aa (a2<|am a.2.1 0) (J ((ag,0,0,0,0,aI aN,aI aN,0,()),a.2.1,())) (ob (yh (a.1,96,())) λa5=>ob (yh (a.1,48,())) λbH=>ob (KD (bH.1,())) λbF=>ob (Ae (a.1,70,())) λco=>ob (Ae (a.1,11,())) λdW=>ob (Ae (a.1,39,())) λig=>ob (Ae (a.1,53,())) λhN=>ob (Ae (a.1,15,())) λm0=>letI b:=(am a.1.1 800,co.1,dW.1,ig.1,hN.1,a5.1,bF.1,m0.1,());ob (Gd (b,())) λvp=>ob (aa (a2<|am vp.2.1 0) (J (af,()))<|ob (nR (vp.1,x.1,())) λa=>J (a2 a.1,())) λ(rM:aM)=>aa rM.1 (J ((ag,0,0,0,0,aI aN,aI aN,0,()),2,()))<|some (b,0,()))
end Yp
namespace Yp
abbrev eW:=(O×ai×aj)×(O×ai×aj)×(O×ai×aj)×O×O×aj
abbrev f8:=ab aE×ab (ai×O×O×aj)×ab O×O×aj
abbrev jy:=aE×ab (ai×ai×aj)×aE×aj
abbrev go:=O×O×O×O×ai×aj
abbrev eb:=aE×O×O×O×O×ai×ai×O×aj
abbrev d6:=O×O×ab O×O×O×ai×ai×aj
abbrev pY:=O×ai×O×(ai×ai×aj)×O×O×O×O×O×(O×ab hw×aj)×eW×go×O×O×ab ai×f8×ab (O×ai×aj)×ab (O×ab O×O×ai×aj)×ab O×aj
abbrev eK:=pY×jy×aj
end Yp
namespace Yp
abbrev tW:ab hw:=[u64 0,u64 0,u64 0,u64 0,u64 0,u64 0,u64 0,u64 0,u64 0,u64 0,u64 0,u64 0,u64 0,u64 0,u64 0,u64 0]
abbrev qC:ai×O×O×aj:=(aI aN,0,0,())
abbrev Mp:f8:=([ag,ag,ag,ag],[qC,qC,qC,qC],[0,0,0,0],0,())
abbrev hr:O×ai×aj:=(0,aI aN,())
abbrev va:eW:=(hr,hr,hr,0,0,())
abbrev i4:go:=(0,0,0,0,aI aN,())
abbrev hJ:pY:=(0,aI aN,0,(aI aN,aI aN,()),0,0,0,0,0,(0,tW,()),va,i4,0,0,aI ai,Mp,aI<|Int×ai×aj,aI<|Int×ab O×O×ai×aj,[0,0,0,0],())
abbrev dL:O×O×ai×aj:=(0,0,aI aN,())
abbrev kZ:d6:=(0,0,[0,0],0,0,aI aN,aI aN,())
abbrev acn:ab b_:=[u32 0,u32 0,u32 0,u32 0,u32 0,u32 0,u32 0,u32 0,u32 0,u32 0,u32 0,u32 0,u32 0,u32 0,u32 0,u32 0,u32 0,u32 0,u32 0,u32 0,u32 0,u32 0,u32 0,u32 0,u32 0,u32 0,u32 0,u32 0,u32 0,u32 0,u32 0,u32 0,u32 0,u32 0,u32 0,u32 0,u32 0,u32 0,u32 0,u32 0,u32 0,u32 0,u32 0,u32 0,u32 0,u32 0,u32 0,u32 0,u32 0,u32 0,u32 0,u32 0,u32 0,u32 0,u32 0,u32 0,u32 0,u32 0,u32 0,u32 0,u32 0,u32 0,u32 0,u32 0]
end Yp
namespace Yp
abbrev bp:=eK×aj
abbrev dm:=eK×O×aj
abbrev l5:=eW×O×aj
abbrev MT:=pY×ab (O×ai×aj)×ab (O×ab O×O×ai×aj)×aj
abbrev pZ:=eK×eb×aj
abbrev pi:=eb×O×aj
abbrev p0:=f8×O×aj
abbrev l6:=eW×aj
abbrev sT:=O×eK×aj
abbrev Hh:=((pY×aj)×eK×aj)×aj
abbrev yR:=eK×O×O×aj
abbrev t3:=eK×ai×aj
abbrev p1:=pY×aj
abbrev DV:=f8×O×O×aj
abbrev acR:=eK×d6×(O×ab (O×ai×aj)×aj)×aj
abbrev Hi:=go×aE×aE×aj
abbrev A?:= pY×O×aj
abbrev DW:=jy×aE×aj
abbrev MU:=f8×ab ai×O×aj
abbrev MV:=eK×eb×O×aj
abbrev MW:=eK×d6×O×aj
abbrev MX:=eK×O×ai×aj
abbrev MY:=jy×ai×ai×aj
abbrev yS:=d6×aj
abbrev MZ:=jy×ai×aj
abbrev M0:=go×O×aj
abbrev MS:=d6×O×aj
abbrev T4:=eK×go×aj
end Yp
namespace Yp
open Go
def Nz(x:ca):au<|ca:=an (bO 1<|aQ x.1)<|some (x.1,())
def anF(x:tbb):au<|tbb:=an (bO 32<|aQ x.1)<|some (x.1,())
def Kr(x:MY):au<|aM:=J (x.1.2.1.any λe=>df (seq x.2.1 e.1)<|seq x.2.2.1 e.2.1,())
def Kt(x:ab ai×ab ai×O×aj):au<|List ai×O×O×aj:=if x.2.2.1<1\/64<x.2.2.1 then J (x.1,0,1,()) else if x.2.2.1<(x.1.length:O) then J (x.1,0,0,()) else J (x.1++x.2.1.take (x.2.2.1.toNat-x.1.length),((min (x.2.2.1.toNat-x.1.length) x.2.1.length:R):O),0,())
def Ch(x:O×ab O×aj):au<|aM:=letI d:=J (af,());b? (bG (λ(ae:dt)=>letI b:=ae.2.1;letI c:=ap x.2.1 (ah b) 0;aa (aK b<|len x.2.1) (an (aO b<|len x.2.1)<|ob (aa (aK c 0) d<|some (aK x.1 c,())) λ(a:aM)=>aa a.1 (J<|aL.rt (ag,()))<|some<|aL.nx (ae.1,i64<|aG b 1,())) (J<|aL.ex 0 (ae.1,b,()))) (ag,0,())) (λ_ =>aq) (λi a=>an (bU i 0) d) λ(r:aM)=>J r
def oV(x:p1):au<|kX:=letI b:=i64<|bw 1 x.1.1;ob (Ch (1,[x.1.1],())) λa=>aa a.1 (an (aO x.1.1<|bc 2)<|an (aO b<|bc 2)<|some (cA (cA [0,0] (ah x.1.1) x.1.2.2.2.2.2.1) (ah b) x.1.2.2.2.2.2.2.1,()))<|some ([0,0],())
def JO(x:ca):au<|aM:=ob (aa (bL 1<|len x.1) (J (bL (len x.1) 900,()))<|some (ag,())) λ(a:aM)=>J (a.1,())
def CE(x:cK):au<|cK:=letI a:au<|cK:=aa (am x.1 6) (J (5,()))<|some (-1,());aa (am x.1 0) (J (0,())) (aa (am x.1 1) (J (1,()))<|aa (am x.1 2) (J (2,()))<|aa (am x.1 3) (J (3,()))<|aa (am x.1 4) (aa (am x.1 4) (J (4,())) a)<|aa (am x.1 5) (J (4,())) a)
def wg(x:cK):au<|aM:=ob (CE (x.1,())) λa=>J (bL 2 a.1,())
def Yg(x:f8×aj):au<|DV:=b? (bG (λ(ae:wF)=>letI c:=ae.2.2.1;letI b:=i64<|aG x.1.2.2.2.1 c;letI d:=cY b 4;aa (aK c 4) (an (aO d<|bc 4)<|aa (ap x.1.1 (ah d) ag) (J<|aL.rt ((x.1.1,x.1.2.1,x.1.2.2.1,cY (i64<|aG d 1) 4,x.1.2.2.2.2),cY b 4,0,()))<|some<|aL.nx (ae.1,ae.2.1,i64<|aG c 1,())) (J<|aL.ex 0 (ae.1,ae.2.1,c,()))) (0,0,0,())) (λ_ =>aq) (λi a=>an (bU i 0)<|some (x.1,0,11,())) λ(r:DV)=>J r
def Ew(x:ek):au<|aM:=ob (aa (bL 0 x.1) (J (bL x.1 x.2.1,()))<|some (ag,())) λ(a:aM)=>J (a.1,())
def Ic(x:yS):au<|aM:=letI b:au aM:=J (ag,());letI c:=x.1.2.2;letI e:=len c.2.2.2.1;ob (aa (a2<|am x.1.1 1) (J (a2<|am x.1.1 2,())) b) λ(a:aM)=>aa a.1 (J (ag,()))<|an (aO 0<|bc 2) (an (aO 1<|bc 2)<|b? (bG (λ(ae:dt)=>letI d:=ae.2.1;aa (aK d 3) (an (aO d<|bc 3)<|ob (Ew (ap [ap c.1 (ah 0) 0,ap c.1 (ah 1) 0,c.2.2.1] (ah d) 0,4611686018427387904,())) λa=>aa (a2 a.1) (J<|aL.rt (ag,()))<|some<|aL.nx (ae.1,i64<|aG d 1,())) (J<|aL.ex 0 (ae.1,d,()))) (ag,0,())) (λ_ =>aq) (λi a=>an (bU i 0)<|ob (Ew (x.1.2.1,1,())) λa=>ob (aa a.1 (ob (Ew (c.2.1,2147483647,())) λa=>aa a.1 (aa (bL 1 e) (J (bL e 900,())) b) b) b) λ(a:aM)=>J (a.1,())) λ(r:aM)=>J r)
def zc(x:yS):au<|cg:=letI b:=x.1.2.2;letI c:=len [ap b.1 (ah 0) 0,ap b.1 (ah 1) 0];letI d:=len [x.1.1,x.1.2.1];letI e:=b.2.2;letI f:=len [b.2.1];ob (Ic (x.1,())) λa=>aa (a2 a.1) (J (aI aN,1,()))<|b? (bG (λ(ae:hH)=>aa (aK ae.1 d) (an (aO ae.1 d)<|ob (qU (ap [x.1.1,x.1.2.1] (ah ae.1) 0,1,())) λa=>an (bO 1<|bB (aQ ae.2.1)<|aQ a.1)<|some<|aL.nx (i64<|aG ae.1 1,bb ae.2.1 a.1,()))<|some<|aL.ex 0 (ae.1,ae.2.1,())) hr) (λ_ =>aq) (λi a=>an (bU i 0)<|an (aO 0<|bc 2)<|an (aO 1<|bc 2)<|b? (bG (λ(ae:hH)=>aa (aK ae.1 c) (an (aO ae.1 c)<|ob (qU (ap [ap b.1 (ah 0) 0,ap b.1 (ah 1) 0] (ah ae.1) 0,8,())) λa=>an (bO 1<|bB (aQ ae.2.1)<|aQ a.1)<|some<|aL.nx (i64<|aG ae.1 1,bb ae.2.1 a.1,()))<|some<|aL.ex 0 (ae.1,ae.2.1,())) (0,a.2.1,())) (λ_ =>aq) (λi a=>an (bU i 0)<|b? (bG (λ(ae:hH)=>aa (aK ae.1 f) (an (aO ae.1 f)<|ob (qU (ap [b.2.1] (ah ae.1) 0,4,())) λa=>an (bO 1<|bB (aQ ae.2.1)<|aQ a.1)<|some<|aL.nx (i64<|aG ae.1 1,bb ae.2.1 a.1,()))<|some<|aL.ex 0 (ae.1,ae.2.1,())) (0,a.2.1,())) (λ_ =>aq) (λi a=>an (bU i 0)<|b? (bG (λ(ae:hH)=>aa (aK ae.1<|len [e.1]) (an (aO ae.1<|len [e.1])<|ob (qU (ap [e.1] (ah ae.1) 0,8,())) λa=>an (bO 1<|bB (aQ ae.2.1)<|aQ a.1)<|some<|aL.nx (i64<|aG ae.1 1,bb ae.2.1 a.1,()))<|some<|aL.ex 0 (ae.1,ae.2.1,())) (0,a.2.1,())) (λ_ =>aq) (λi a=>an (bU i 0)<|an (bO 1<|bB (aQ a.2.1)<|aQ e.2.1)<|some (bb a.2.1 e.2.1,0,())) λ(r:aj)=>aq) λ(r:aj)=>aq) λ(r:aj)=>aq) λ(r:aj)=>aq
def Fs(x:Dl):au<|aM:=letI c:=len x.1;aa (a2<|am c<|len x.2.1) (J (ag,())) (b? (bG (λ(ae:tbh)=>letI b:=ae.2.1;aa (aK b c) (an (aO b c)<|an (aO b<|len x.2.1)<|some<|aL.nx (u8<|hG gV (aV ae.1)<|aV<|u8<|em gV (aV<|ap x.1 (ah b)<|u8 0)<|aV<|ap x.2.1 (ah b)<|u8 0,i64<|aG b 1,())) (J<|aL.ex 0 (ae.1,b,()))) (u8 0,0,())) (λ_ =>aq) (λi a=>an (bU i 0)<|some (am (aV a.1)<|aV<|u8 0,())) λ(r:aM)=>J r)
def SI(x:abt):au<|abt:=letI a:=len x.1;an (df (cq 0 a a)<|am a a) (J (sub x.1 0 a,()))
def lS(x:b_×O×aj):au<|mn:=letI a:=cC<|u64<|hz IntKind.u64 (cC<|u64 x.2.1)<|cC<|u64 31;J (u32<|hG er (aY<|u32<|h0 er (aY x.1) a)<|aY<|u32<|e4 er (aY x.1)<|cC<|u64<|bw (cC<|u64 32) a,())
def Sw(x:ca):au<|tK:=letI f:=len x.1;b? (bG (λ(ae:oy)=>letI b:=i64<|dI 4 ae.1;letI c:=i64<|bw ae.1 15;letI d:=ae.2.1;letI e:=i64<|bw ae.1 2;letI g:=i64<|bw ae.1 16;letI h:=aO ae.1<|bc 64;letI j:=i64<|bw ae.1 7;letI k:=i64<|aG b 1;letI l:=i64<|aG b 2;letI m:=i64<|aG b 3;aa (aK ae.1 64) (aa (aK ae.1 16) (an (aO b f)<|an (aO k f)<|an (aO l f)<|an (aO m f)<|an h<|some<|aL.nx (i64<|aG ae.1 1,cA d (ah ae.1)<|u32<|hG er (aY<|u32<|hG er (aY<|u32<|hG er (aY<|u32<|h0 er (aY<|u32<|aV<|ap x.1 (ah b)<|u8 0)<|cC<|u64 24)<|aY<|u32<|h0 er (aY<|u32<|aV<|ap x.1 (ah k)<|u8 0)<|cC<|u64 16)<|aY<|u32<|h0 er (aY<|u32<|aV<|ap x.1 (ah l)<|u8 0)<|cC<|u64 8)<|aY<|u32<|aV<|ap x.1 (ah m)<|u8 0,()))<|an (aO c<|bc 64)<|an (aO e<|bc 64)<|ob (lS (ap d (ah c)<|u32 0, -7,())) λa=>ob (lS (ap d (ah c)<|u32 0, -18,())) λa5=>ob (lS (ap d (ah e)<|u32 0, -17,())) λbH=>ob (lS (ap d (ah e)<|u32 0, -19,())) λbF=>an (aO j<|bc 64)<|an (aO g<|bc 64)<|an h<|some<|aL.nx (i64<|aG ae.1 1,cA d (ah ae.1)<|u32<|aG (aY<|u32<|aG (aY<|u32<|aG (aY<|u32<|em er (aY<|u32<|em er (aY bH.1)<|aY bF.1)<|aY<|u32<|e4 er (aY<|ap d (ah e)<|u32 0)<|cC<|u64 10)<|aY<|ap d (ah j)<|u32 0)<|aY<|u32<|em er (aY<|u32<|em er (aY a.1)<|aY a5.1)<|aY<|u32<|e4 er (aY<|ap d (ah c)<|u32 0)<|cC<|u64 3)<|aY<|ap d (ah g)<|u32 0,())) (J<|aL.ex 0 (ae.1,d,()))) (0,acn,())) (λ_ =>aq) (λi a=>an (bU i 0)<|some (a.2.1,())) λ(r:tK)=>J r
def Su(x:ab b_×ai×aj):au<|LY:=letI k:=aO 4<|bc 8;letI n:=aO 0<|bc 8;letI o:=aO 1<|bc 8;letI p:=aO 2<|bc 8;aa (a2<|am (len x.2.1) 64) (J (x.1,1,())) (ob (Sw (x.2.1,())) λa=>b? (bG (λ(x:oy)=>letI c:=x.2.1;letI d:=eL c (ah 1) (cy (ah<|bc 8)<|ah 1)<|cut c (ah 0)<|cy (ah 7)<|ah 0;letI f:=aY<|ap c (ah 4)<|u32 0;letI g:=aY<|ap c (ah 0)<|u32 0;letI h:=aY<|ap c (ah 1)<|u32 0;letI j:=aY<|ap c (ah 2)<|u32 0;letI l:=aO x.1<|bc 64;aa (aK x.1 64) (an l<|an n<|an k (ob (lS (ap c (ah 4)<|u32 0, -6,())) λa5=>ob (lS (ap c (ah 4)<|u32 0, -11,())) λbH=>ob (lS (ap c (ah 4)<|u32 0, -25,())) λbF=>letI b:=aY<|u32<|aG (aY<|u32<|aG (aY<|u32<|aG (aY<|u32<|aG (aY<|ap c (ah 7)<|u32 0)<|aY<|u32<|em er (aY<|u32<|em er (aY a5.1)<|aY bH.1)<|aY bF.1)<|aY<|u32<|em er (aY<|u32<|hz er f<|aY<|ap c (ah 5)<|u32 0)<|aY<|u32<|hz er (aY<|u32<|em er 4294967295 f)<|aY<|ap c (ah 6)<|u32 0)<|aY<|ap (ap [ke] 0 acn) (ah x.1)<|u32 0)<|aY<|ap a.1 (ah x.1)<|u32 0;ob (lS (ap c (ah 0)<|u32 0, -2,())) λco=>ob (lS (ap c (ah 0)<|u32 0, -13,())) λdW=>ob (lS (ap c (ah 0)<|u32 0, -22,())) λig=>an (aO 7<|bc 8)<|an (aO 5<|bc 8)<|an (aO 6<|bc 8)<|an l<|an o<|an p<|an o<|an p<|an (cq 1 (bc 8)<|bc 8)<|an (cq 0 7<|bc 8)<|an k<|an k<|an n<|some<|aL.nx (i64<|aG x.1 1,cA (cA d (ah 4)<|u32<|aG (aY<|ap d (ah 4)<|u32 0) b) (ah 0)<|u32<|aG b<|aY<|u32<|aG (aY<|u32<|em er (aY<|u32<|em er (aY co.1)<|aY dW.1)<|aY ig.1)<|aY<|u32<|em er (aY<|u32<|em er (aY<|u32<|hz er g h)<|aY<|u32<|hz er g j)<|aY<|u32<|hz er h j,()))) (J<|aL.ex 0 (x.1,c,()))) (0,x.1,())) (λ_ =>aq) (λi a=>an (bU i 0) (b? (bG (λ(x:oy)=>letI e:=aO x.1<|bc 8;letI m:=ah x.1;aa (aK x.1 8) (an e (an e (an e
 (J<|aL.nx (i64<|aG x.1 1,cA x.2.1 m<|u32<|aG (aY<|ap x.2.1 m<|u32 0)<|aY<|ap a.2.1 m<|u32 0,()))))) (J<|aL.ex 2 (x.1,x.2.1,()))) (0,x.1,())) (λ_ =>aq) (λi a=>an (bU i 2)<|some (a.2.1,0,())) λ(r:LY)=>J r)) λ(r:LY)=>J r)
def Au(x:an5):au<|ov:=letI h:=x.1.2;letI f:=len x.2.1;letI d:=len h.2.1;letI c:=i64<|aG d f;letI g:=cb (ah c)<|u8 0;letI b:=eL g 0 (aQ g) h.2.1;aa (aK (i64<|bw 1125899906842624 h.1) f) (J (x.1,())) (an (df (cq 0 c c)<|bO 1<|ah c)<|an (cq d (len b)<|len b)<|b? (bG (λ(x:abC)=>letI e:=len x.1;aa (bL 64 e) (an (cq 0 64 e)<|ob (Su (x.2.1.1,cut x.1 (ah 0)<|cy (ah 64)<|ah 0,())) λa=>an (cq 64 e e)<|some<|aL.nx (cut x.1 (ah 64)<|cy (ah e)<|ah 64,(a.1,x.2.1.2),())) (J<|aL.ex 0 (x.1,x.2.1,()))) (eL b (ah d) (cy (ah<|len b)<|ah d) x.2.1,(x.1.1,i64<|aG h.1 f,h.2),())) (λ_ =>aq) (λi a=>an (bU i 0)<|some ((a.2.1.1,a.2.1.2.1,a.1,a.2.1.2.2.2),())) λ(r:ov)=>J r)
def LB(x:aj):au<|ov:=J (([u32 1779033703,u32 3144134277,u32 1013904242,u32 2773480762,u32 1359893119,u32 2600822924,u32 528734635,u32 1541459225],0,aI aN,()),())
def Df(x:ov):au<|ca:=letI g:=cb (ah 0)<|u8 0;letI k:=bb g x.1.2.2.1;an (df (cq 0 0 128)<|bO 1<|ah 128) (an (bO 1<|bB (aQ g)<|aQ x.1.2.2.1)<|an (bO 1<|bB (aQ k)<|aQ [u8 128])<|b? (bG (λ(x:ca)=>aa (a2<|am (cY (len x.1) 64) 56) (an (bO 1<|bB (aQ x.1)<|aQ [u8 0])<|some<|aL.nx (bb x.1 [u8 0],()))<|some<|aL.ex 0 (x.1,())) (bb k [u8 128],())) (λ_ =>aq) (λi a=>an (bU i 0)<|b? (bG (λ(ae:cg)=>letI j:=ae.2.1;letI c:=e4 IntKind.i64 (i64<|dI 8 x.1.2.1) j;aa (bL 0 j) (an (bL 0 j)<|an (bO 1<|bB (aQ ae.1)<|aQ [u8 c])<|some<|aL.nx (bb ae.1 [u8 c],i64<|bw j 8,())) (J<|aL.ex 2 (ae.1,j,()))) (a.1,56,())) (λ_ =>aq) (λi a=>an (bU i 2)<|b? (bG (λ(x:tba)=>letI h:=len x.1;aa (aK 0 h) (an (cq 0 64 h)<|ob (Su (x.2.1,cut x.1 (ah 0)<|cy (ah 64)<|ah 0,())) λa=>an (cq 64 h h)<|some<|aL.nx (cut x.1 (ah 64)<|cy (ah h)<|ah 64,a.1,())) (J<|aL.ex 4 (x.1,x.2.1,()))) (a.1,x.1.1,())) (λ_ =>aq) (λi a=>an (bU i 4)<|an (df (cq 0 0 32)<|bO 1<|ah 32)<|b? (bG (λ(x:cg)=>letI l:=x.2.1;letI b:=aY<|ap a.2.1 (ah l)<|u32 0;letI d:=aY<|u32<|e4 er b<|cC<|u64 24;letI e:=aY<|u32<|e4 er b<|cC<|u64 16;letI f:=aY<|u32<|e4 er b<|cC<|u64 8;aa (aK l 8) (an (aO l<|bc 8)<|an (bO 1<|bB (aQ x.1)<|aQ [u8 d,u8 e,u8 f,u8 b])<|some<|aL.nx (bb x.1 [u8 d,u8 e,u8 f,u8 b],i64<|aG l 1,())) (J<|aL.ex 6 (x.1,l,()))) (cb (ah 0)<|u8 0,0,())) (λ_ =>aq) (λi a=>an (bU i 6)<|some (a.1,())) λ(r:ca)=>J r) λ(r:ca)=>J r) λ(r:ca)=>J r) λ(r:ca)=>J r)
def GB(x:ca):au<|ca:=ob (LB ()) λa=>ob (Au (a.1,x.1,())) λa=>ob (Df (a.1,())) λa=>J (a.1,())
def Y1(x:ca):au<|ca:=letI b:=cb (ah 64)<|u8 0;an (df (cq 0 64 64)<|bO 1<|ah 64) (aa (aK 64<|len x.1) (ob (GB (x.1,())) λa=>J (eL b 0 (aQ b) a.1,()))<|some (eL b 0 (aQ b) x.1,()))
def Ft(x:Dl):au<|ca:=letI b:=df (cq 0 64 64)<|bO 1<|ah 64;ob (Y1 (x.1,())) λa=>letI c:=len a.1;an b (b? (bG (λ(x:hH)=>aa (aK x.1 c) (an (aO x.1 c)<|an (aO x.1<|len x.2.1)<|some<|aL.nx (i64<|aG x.1 1,cA x.2.1 (ah x.1)<|u8<|em gV (aV<|ap a.1 (ah x.1)<|u8 0)<|aV<|u8 92,()))<|some<|aL.ex 0 (x.1,x.2.1,())) (0,cb (ah 64)<|u8 0,())) (λ_ =>aq) (λi a5=>an (bU i 0)<|ob (LB ()) λbH=>ob (Au (bH.1,a5.2.1,())) λbF=>an b<|b? (bG (λ(x:hH)=>aa (aK x.1 c) (an (aO x.1 c)<|an (aO x.1<|len x.2.1)<|some<|aL.nx (i64<|aG x.1 1,cA x.2.1 (ah x.1)<|u8<|em gV (aV<|ap a.1 (ah x.1)<|u8 0)<|aV<|u8 54,()))<|some<|aL.ex 0 (x.1,x.2.1,())) (0,cb (ah 64)<|u8 0,())) (λ_ =>aq) (λi a=>an (bU i 0)<|ob (LB ()) λco=>ob (Au (co.1,a.2.1,())) λa=>ob (Au (a.1,x.2.1,())) λa=>ob (Df (a.1,())) λa=>ob (Au (bF.1,a.1,())) λa=>ob (Df (a.1,())) λa=>J (a.1,())) λ(r:aj)=>aq) λ(r:aj)=>aq)
def FP(x:Dl):au<|ca:=ob (Ft (x.1,x.2.1,())) λa=>an (cq 0 16<|len a.1)<|some (cut a.1 (ah 0)<|cy (ah 16)<|ah 0,())
def Qn(x:MY):au<|MZ:=letI b:=FP (x.2.1,x.2.2.1,());ob (Kr (x.1,x.2.1,x.2.2.1,())) λa=>aa (a2 a.1) (ob (SI (x.1.2.1,())) λa=>ob (Nz (x.2.1,())) λa5=>ob (Nz (x.2.2.1,())) λbH=>an (bO 56<|bB (aQ a.1)<|aQ [(a5.1,bH.1,())])<|ob b λ(bF:ca)=>J ((x.1.1,bb a.1 [(a5.1,bH.1,())],x.1.2.2),bF.1,()))<|ob b λ(a:ca)=>J (x.1,a.1,())
def Ev(x:yS):au<|aM:=ob (Ic (x.1,())) λa=>ob (aa a.1 (J (am (len x.1.2.2.2.2.2.2.1) 16,()))<|some (ag,())) λ(a:aM)=>J (a.1,())
def Om(x:yS):au<|cg:=letI b:=x.1.2.2.2.2.2.2.1;ob (Ev (x.1,())) λa=>aa (a2 a.1) (J (aI aN,1,()))<|ob (zc (x.1,())) λa=>an (bO 1<|bB (aQ a.1)<|aQ b) (J (bb a.1 b,0,()))
def WL(x:ca):au<|cg:=letI b:=len x.1;letI c:=e4 IntKind.i64 b<|cC<|u64 8;ob (aa (aK b 1) (J (af,()))<|some (aK 1024 b,())) λ(a:aM)=>aa a.1 (J (aI aN,1,()))<|an (bO 1<|bB (aQ [u8 c,u8 b])<|aQ x.1) (J (bb [u8 c,u8 b] x.1,0,()))
def SJ(x:sD):au<|sD:=letI a:=len x.1;an (df (cq 0 a a)<|am a a) (J (sub x.1 0 a,()))
def JN(x:eK×d6×ai×aj):au<|dm:=letI d:=x.1.1.2.2;letI b:=d.2.2.2.2.2;letI c:=b.2.2.2.2.2;letI e:=x.2.1.2.2;ob (Yg (c.2.2.2.1,())) λa=>aa (a2<|am a.2.2.1 0) (J (x.1,a.2.2.1,()))<|ob (zc (x.2.1,())) λa5=>ob (Qn (x.1.2.1,x.2.2.1,a5.1,())) λbH=>ob (Om ((x.2.1.1,x.2.1.2.1,e.1,e.2.1,e.2.2.1,e.2.2.2.1,bH.2.1,e.2.2.2.2.2),())) λbF=>ob (WL (bF.1,())) λco=>ob (SJ (c.2.2.2.2.1,())) λdW=>an (bO 56<|bB (aQ dW.1)<|aQ [(a.2.1,co.1,())]) (J (((x.1.1.1,x.1.1.2.1,d.1,d.2.1,d.2.2.1,d.2.2.2.1,d.2.2.2.2.1,b.1,b.2.1,b.2.2.1,b.2.2.2.1,b.2.2.2.2.1,c.1,c.2.1,c.2.2.1,a.1,bb dW.1 [(a.2.1,co.1,())],c.2.2.2.2.2),bH.1,x.1.2.2),0,()))
def oW(x:t3):au<|dm:=letI b:=x.1.1.2.2.2.2.2.2.2.2;ob (JO (x.2.1,())) λa=>aa (a2 a.1) (J (x.1,1,()))<|ob (wg (x.1.1.2.2.1,())) λa=>aa (a2 a.1) (J (x.1,7,())) (aa (am b.1 4611686018427387904) (J (x.1,10,())) (ob (oV (x.1.1,())) λa=>ob (JN (x.1,(2,x.1.1.1,a.1,b.2.2.1.1.1,b.1,x.2.1,aI aN,()),b.2.2.1.1.2.1,())) λa=>letI c:=a.1.1.2.2.2;letI d:=c.2.2.2;aa (am a.2.1 0) (J (((a.1.1.1,a.1.1.2.1,a.1.1.2.2.1,c.1,c.2.1,c.2.2.1,d.1,d.2.1,i64<|aG d.2.2.1 1,d.2.2.2),a.1.2),a.2.1,())) (J (a.1,a.2.1,()))))
def Np(x:cK):au<|cK:=ob (aa (aK x.1 0) (J (af,()))<|some (bL 999999 x.1,())) λ(a:aM)=>aa a.1 (J (1,()))<|some (i64<|aG x.1 1,())
def Nm(x:cK):au<|aM:=letI b:au<|aM:=J (af,());letI a:au<|aM:=J (ag,());aa (am x.1 1) (aa (am x.1 1) b a) (aa (am x.1 2) (aa (am x.1 2) b a)<|aa (am x.1 101) (aa (am x.1 101) b a)<|aa (am x.1 201) (aa (am x.1 201) b a)<|aa (am x.1 301) b a)
def Nq(x:wG):au<|aM:=letI b:au aM:=J (ag,());letI c:=len x.2.2.1;ob (Nm (x.1,())) λa=>ob (aa a.1 (aa (bL 1 x.2.1) (aa (bL x.2.1 999999) (aa (bL 1 c) (J (bL c 900,())) b) b) b) b) λ(a:aM)=>J (a.1,())
def Nl(x:wG):au<|M0:=ob (Nq (x.1,x.2.1,x.2.2.1,())) λa=>aa (a2 a.1) (J (i4,1,()))<|some ((x.1,x.2.1,8,3,x.2.2.1,()),0,())
def PL(x:ai×ai×ab ai×aj):au<|cg:=letI f:=len x.2.2.1;letI g:=len x.2.1;ob (aa (aK 255 g) (J (af,()))<|some (aK 16 f,())) λ(a:aM)=>aa a.1 (J (aI aN,1,()))<|an (bO 1<|bB (aQ [u8 g])<|aQ x.2.1) (b? (bG (λ(ae:u4)=>letI e:=ae.2.2.1;letI b:=ap x.2.2.1 (ah e)<|aI aN;letI c:=e4 IntKind.i64 (len b)<|cC<|u64 8;letI d:=bb ae.2.1 [u8 c,u8<|len b];aa (aK e f) (an (aO e f)<|aa (aK 65535<|len b) (J<|aL.rt (aI aN,1,()))<|an (bO 1<|bB (aQ ae.2.1)<|aQ [u8 c,u8<|len b])<|an (bO 1<|bB (aQ d)<|aQ b)<|some<|aL.nx (ae.1,bb d b,i64<|aG e 1,())) (J<|aL.ex 0 (ae.1,ae.2.1,e,()))) (0,bb [u8 g] x.2.1,0,())) (λ_ =>aq) (λi a=>an (bU i 0)<|ob (Ft (x.1,a.2.1,())) λa=>J (a.1,0,())) λ(r:cg)=>J r)
def Ce(x:ca):au<|ca:=ob (PL (x.1,[98,97,115,101],aI ai,())) λa=>J (a.1,())
def Fk(x:MX):au<|dm:=letI b:=x.1.1.2;ob (Ch (4611686018427387904,[x.2.1],())) λa=>ob (aa (a2 a.1) (J (af,()))<|ob (JO (x.2.2.1,())) λa=>J (a2 a.1,())) λ(a:aM)=>aa a.1 (J (x.1,1,()))<|ob (oV ((x.1.1.1,b.1,b.2.1,b.2.2.1,b.2.2.2.1,b.2.2.2.2.1,x.2.1,b.2.2.2.2.2.2),())) λa=>ob (Ce (b.1,())) λa5=>ob (JN (x.1,(1,x.1.1.1,a.1,0,0,x.2.2.1,aI aN,()),a5.1,())) λa=>J (a.1,a.2.1,())
def Dg(x:pZ):au<|bp:=letI c:=x.1.1.2;letI f:=c.2.2;letI b:=f.2.2;letI d:=b.2.2.2;letI e:=x.2.1.2;letI g:=d.2.2;ob (Np (g.2.2.1,())) λa=>ob (ra ((x.2.1.1,e.1,a.1,e.2.2),())) λa5=>ob (Nl (e.1,a.1,a5.1,())) λbH=>ob (aa (a2<|am a5.2.1 0) (J (af,()))<|some (a2<|am bH.2.1 0,())) λ(bF:aM)=>aa bF.1 (J (x.1,()))<|aa (am e.1 1) (ob (Fk (((x.1.1.1,c.1,c.2.1,f.1,f.2.1,b.1,b.2.1,b.2.2.1,d.1,d.2.1,g.1,bH.1,a.1,g.2.2.2),x.1.2),0,a5.1,())) λa=>J (a.1,())) (ob (oW (((x.1.1.1,c.1,c.2.1,f.1,f.2.1,b.1,b.2.1,b.2.2.1,d.1,d.2.1,g.1,bH.1,a.1,g.2.2.2),x.1.2),a5.1,())) λa=>J (a.1,()))
def z5(x:cK):au<|aM:=letI b:=CE (x.1,());ob b λ(a:cK)=>ob (aa (am a.1 3) (J (af,()))<|ob b λ(a:cK)=>J (am a.1 4,())) λ(a:aM)=>J (a.1,())
def Lp(x:ST):au<|aM:=ob (aa (am x.1.1 0) (J (am (len x.1.2.1) 0,()))<|some (ag,())) λ(a:aM)=>J (a.1,())
def R8(x:(eW×aj)×aj):au<|sD:=J ([x.1.1.1,x.1.1.2.1,x.1.1.2.2.1],())
def R9(x:(eW×aj)×aj):au<|aM:=ob (R8 (x.1,())) λa=>b? (bG (λ(x:dt)=>letI b:=x.2.1;aa (aK b 3) (an (aO b<|bc 3)<|ob (Lp (ap a.1 (ah b) hr,())) λa=>aa (a2 a.1) (J<|aL.rt (ag,()))<|some<|aL.nx (x.1,i64<|aG b 1,())) (J<|aL.ex 0 (x.1,b,()))) (ag,0,())) (λ_ =>aq) (λi a=>an (bU i 0)<|ob (aa (am x.1.1.2.2.2.1 0) (J (am x.1.1.2.2.2.2.1 0,()))<|some (ag,())) λ(a:aM)=>J (a.1,())) λ(r:aM)=>J r
def R5(x:l6):au<|ek:=ob (R9 ((x.1,()),())) λa=>aa a.1 (J (0,9,()))<|aa (am x.1.2.2.2.2.1 2147483647) (J (0,10,())) (J (i64<|aG x.1.2.2.2.2.1 1,0,()))
def Al(x:bp):au<|Hh:=J (((x.1.1,()),x.1,()),())
def Cf(x:ai×ab O×O×ai×aj):au<|ca:=letI b:=J (aI aN,());letI c:=aO 0<|bc 2;letI d:=aO 1<|bc 2;an c (an d<|ob (Ch (4611686018427387904,[ap x.2.1 (ah 0) 0,ap x.2.1 (ah 1) 0],())) λa=>aa (a2 a.1) b<|ob (Ch (2147483647,[x.2.2.1],())) λa=>aa (a2 a.1) b<|an c<|ob (qU (ap x.2.1 (ah 0) 0,8,())) λa=>an d<|ob (qU (ap x.2.1 (ah 1) 0,8,())) λa5=>ob (qU (x.2.2.1,4,())) λbH=>ob (PL (x.1,[108,105,110,107],[a.1,a5.1,bH.1,x.2.2.2.1],())) λa=>J (a.1,()))
def C0(x:(pY×aj)×O×ai×aj):au<|ca:=ob (oV (x.1.1,())) λa=>ob (Cf (x.1.1.2.1,a.1,x.2.1,x.2.2.1,())) λa=>J (a.1,())
def R7(x:ST):au<|aM:=letI b:=J (ag,());ob (aa (bL 1 x.1.1) (aa (bL x.1.1 2147483647) (J (am (len x.1.2.1) 32,())) b) b) λ(a:aM)=>J (a.1,())
def Gm(x:eW×O×ai×aj):au<|l5:=letI b:=x.1.2.2;letI c:=J (af,());letI d:=x.2.1;ob (R7 ((d,x.2.2.1,()),())) λa=>aa (a2 a.1) (J (x.1,1,()))<|ob (R9 ((x.1,()),())) λa=>ob (aa a.1 c<|aa (bL d x.1.1.1) c<|some (aK d b.1.1,())) λ(a:aM)=>aa a.1 (J (x.1,9,())) (J ((x.1.1,x.1.2.1,(d,x.2.2.1,()),b.2.1,dk b.2.2.1 d,b.2.2.2),0,()))
def ss(x:ek):au<|j4:=letI c:au aM:=J (ag,());letI b:au<|j4:=J (x.1,ag,());letI d:=x.2.1;letI j:=am d 9;letI e:=aa j af ag;letI f:=am d 4;letI g:=am d 5;letI h:=aa j 0 0;ob (CE (x.1,())) λa=>letI i:=J (bL 0 a.1,());ob (aa (am x.1 8) (J (am d 11,())) c) λ(a5:aM)=>aa a5.1 (J (0,af,()))<|ob (aa (am x.1 8) (J (am d 12,())) c) λ(bH:aM)=>aa bH.1 (J (7,af,())) (ob (aa (am d 10) (aa (bL 0 a.1) (J (af,()))<|some (am x.1 7,())) c) λ(bF:aM)=>aa bF.1 (J (8,af,()))<|ob (aa (am d 0) i c) λ(co:aM)=>aa co.1 (J (1,af,()))<|ob (aa (am d 2) i c) λ(dW:aM)=>aa dW.1 (J (2,af,()))<|aa (am a.1 1) (aa (aa (am d 1) af<|aa f af e) (J (aa (am d 1) 3<|aa f 0 h,af,())) b)<|aa (am a.1 2) (aa (aa (am d 3) af<|aa f af ag) (J (aa (am d 3) 3<|aa f 0 0,af,())) b)<|aa (am a.1 3) (aa (aa f af<|aa g af<|aa (am d 6) af<|aa (am d 7) af e) (J (aa f 6<|aa g 0<|aa (am d 6) 4<|aa (am d 7) 5 h,af,())) b)<|aa (am a.1 4) (aa (aa f af<|aa g af<|aa (am d 8) af e) (J (aa f 6<|aa g 0<|aa (am d 8) 3<|aa j 3 0,af,())) b)<|aa (am a.1 5) (aa (aa g af e) (J (aa g 0 h,af,())) b) b)
def JW(x:ca):au<|ca:=an (df (cq 0 8 8)<|bO 1<|ah 8)<|ob (Ft (x.1,cb (ah 8)<|u8 0,())) λa=>an (cq 0 3<|len a.1) (J (cut a.1 (ah 0)<|cy (ah 3)<|ah 0,()))
def RY(x:t3):au<|dm:=letI c:=x.1.1.2.2;letI b:=c.2.2.2.2;letI d:=b.2.2.2.2;letI e:=J (af,());aa (a2<|am (len x.2.1) 8) (J (x.1,1,())) (ob (z5 (c.1,())) λa=>aa (a2 a.1) (J (x.1,7,()))<|ob (aa (a2<|am c.1 3) e<|aa (a2<|am d.2.1.1 0) e<|some (aK 0 d.1.2.2.1.1,())) λ(a:aM)=>aa a.1 (J (x.1,9,()))<|ob (R5 (d.1,())) λa=>aa (a2<|am a.2.1 0) (J (x.1,a.2.1,()))<|ob (Al (x.1,())) λa5=>ob (C0 (a5.1.1,a.1,x.2.1,())) λbH=>ob (Gm (d.1,a.1,bH.1,())) λbF=>ob (ss (c.1,6,())) λco=>ob (JW (bH.1,())) λdW=>ob (Dg (((x.1.1.1,x.1.1.2.1,co.1,c.2.1,c.2.2.1,c.2.2.2.1,b.1,b.2.1,b.2.2.1,b.2.2.2.1,bF.1,d.2),x.1.2),(af,101,0,0,a.1,x.2.1,dW.1,0,()),())) λa=>J (a.1,0,()))
def ym(x:(pY×aj)×aj):au<|aM:=J (am x.1.1.2.2.1 4,())
def C1(x:bp):au<|bp:=letI d:=x.1.1.2;letI b:=d.2.2.2;letI c:=b.2.2.2;ob (ss (d.2.1,8,())) λa=>J (((x.1.1.1,d.1,a.1,d.2.2.1,b.1,b.2.1,b.2.2.1,c.1,c.2.1,c.2.2.1,c.2.2.2.1,i4,c.2.2.2.2.2),x.1.2),())
def Lo(x:l6):au<|l6:=J ((x.1.1,x.1.2.1,hr,x.1.2.2.2),())
def Lj(x:bp):au<|bp:=ob (Al (x.1,())) λa=>ob (ym (a.1.1,())) λa=>aa (a2 a.1) (J (x.1,())) (ob (C1 (x.1,())) λa=>letI d:=a.1.1.2;letI b:=d.2.2.2;letI c:=b.2.2.2;ob (Lo (c.2.2.2.1,())) λa5=>J (((a.1.1.1,d.1,d.2.1,d.2.2.1,b.1,b.2.1,b.2.2.1,c.1,c.2.1,c.2.2.1,a5.1,c.2.2.2.2),a.1.2),()))
def lx(x:dm):au<|bp:=b? (bG (λ(ae:sT)=>letI f:=ae.2.1;letI d:=f.1.2.2;letI g:=d.2.2.2;letI b:=g.2.2.2;letI h:=b.2.2.2;letI c:=h.2.2.2;letI e:=aO ae.1<|bc 4;letI j:=c.2.2.2;letI k:=ah ae.1;aa (aK ae.1 4) (an e<|aa (am (ap [2,5,6,13] k 0) x.2.1) (an e<|an e<|some<|aL.nx (i64<|aG ae.1 1,((f.1.1,f.1.2.1,d.1,d.2.1,d.2.2.1,g.1,g.2.1,g.2.2.1,b.1,b.2.1,b.2.2.1,h.1,h.2.1,h.2.2.1,c.1,c.2.1,c.2.2.1,j.1,cA j.2.1 k<|i64<|aG (ap j.2.1 k 0) 1,j.2.2),f.2),()))<|some<|aL.nx (i64<|aG ae.1 1,f,())) (J<|aL.ex 0 (ae.1,f,()))) (0,x.1,())) (λ_ =>aq) (λi a=>an (bU i 0)<|some (a.2.1,())) λ(r:bp)=>J r
def RZ(x:pZ):au<|bp:=letI c:au pi:=sk (x.2.1,0,());letI i:=x.2.1.2.2.2.2;letI k:=x.1.1.2.2.2.2.2.2.2.2.2.2.1;ob (Al (x.1,())) λa=>letI f:=a.1.2.1;letI p:=f.1.2;letI d:au aM:=ym (a.1.1,());letI b:au<|bp:=ob (lx (x.1,13,())) λa=>J (a.1,());letI e:=p.2.2;letI q:=e.2.2;letI j:=q.2.2;ob (C0 (a.1.1,i.1,i.2.1,())) λa5=>ob d λ(bH:aM)=>ob (aa bH.1 (J (am x.1.1.1 0,()))<|some (ag,())) λ(bF:aM)=>aa bF.1 b<|ob (JW (a5.1,())) λco=>ob (Fs (co.1,i.2.2.1,())) λdW=>aa (a2 dW.1) (ob (sk (x.2.1,63,())) λig=>ob (ra (ig.1,())) λhN=>ob (oW (f,hN.1,())) λa=>J (a.1,())) (aa (am i.1 k.1.1) (ob c λ(ig:pi)=>ob (ra (ig.1,())) λhN=>ob (oW (f,hN.1,())) λa=>J (a.1,()))<|ob d λ(ig:aM)=>aa ig.1 (ob (Lo (k,())) λhN=>ob (Gm (hN.1,i.1,a5.1,())) λm0=>aa (a2<|am m0.2.1 0) b<|ob d λ(vp:aM)=>aa vp.1 (ob (C1 (f,())) λa=>letI l:=a.1.1.2;letI g:=l.2.2.2;letI m:=g.2.2.2;ob c λ(rM:pi)=>ob (ra (rM.1,())) λBb=>ob (oW (((a.1.1.1,l.1,l.2.1,l.2.2.1,g.1,g.2.1,g.2.2.1,m.1,m.2.1,m.2.2.1,m0.1,m.2.2.2.2),a.1.2),Bb.1,())) λa=>J (a.1,()))<|ob c λ(rM:pi)=>ob (ra (rM.1,())) λBb=>ob (oW (((f.1.1,p.1,p.2.1,e.1,e.2.1,q.1,q.2.1,j.1,j.2.1,j.2.2.1,m0.1,j.2.2.2.2),f.2),Bb.1,())) λa=>J (a.1,()))<|ob (Gm (k,i.1,a5.1,())) λhN=>aa (a2<|am hN.2.1 0) b<|ob d λ(m0:aM)=>aa m0.1 (ob (C1 (f,())) λa=>letI n:=a.1.1.2;letI h:=n.2.2.2;letI o:=h.2.2.2;ob c λ(vp:pi)=>ob (ra (vp.1,())) λrM=>ob (oW (((a.1.1.1,n.1,n.2.1,n.2.2.1,h.1,h.2.1,h.2.2.1,o.1,o.2.1,o.2.2.1,hN.1,o.2.2.2.2),a.1.2),rM.1,())) λa=>J (a.1,()))<|ob c λ(vp:pi)=>ob (ra (vp.1,())) λrM=>ob (oW (((f.1.1,p.1,p.2.1,e.1,e.2.1,q.1,q.2.1,j.1,j.2.1,j.2.2.1,hN.1,j.2.2.2.2),f.2),rM.1,())) λa=>J (a.1,()))
def Uw(x:go×go×aj):au<|aM:=letI b:au aM:=J (ag,());letI c:=x.2.1.2;ob (aa (am x.1.1 x.2.1.1) (aa (am x.1.2.1 c.1) (aa (am x.1.2.2.1 c.2.1) (aa (am x.1.2.2.2.1 c.2.2.1) (ob (Eb (x.1.2.2.2.2.1,c.2.2.2.1,())) λa=>J (a.1,())) b) b) b) b) λ(a:aM)=>J (a.1,())
def Hz(x:go×aj):au<|aM:=ob (Uw (x.1,i4,())) λa=>J (a.1,())
def yY(x:go×O×O×aj):au<|aM:=letI b:=J (ag,());ob (Hz (x.1,())) λa=>ob (aa (a2 a.1) (aa (am x.1.1 x.2.1) (J (am x.1.2.1 x.2.2.1,())) b) b) λ(a:aM)=>J (a.1,())
def C3(x:l6):au<|l5:=ob (Lp (x.1.2.2.1,())) λa=>aa a.1 (J (x.1,9,()))<|some ((x.1.2.2.1,x.1.1,hr,16,x.1.2.2.2.2),0,())
def RX(x:pZ):au<|bp:=ob (Al (x.1,())) λa=>ob (ym (a.1.1,())) λa=>ob (aa (a2 a.1) (J (af,()))<|ob (yY (x.1.1.2.2.2.2.2.2.2.2.2.2.2.1,x.2.1.2.1,x.2.1.2.2.1,())) λa=>J (a2 a.1,())) λ(a:aM)=>aa a.1 (ob (lx (x.1,13,())) λa=>J (a.1,()))<|aa (a2<|am x.2.1.2.2.2.1 0) (ob (Lj (x.1,())) λa=>J (a.1,())) (ob (C1 (x.1,())) λa=>letI d:=a.1.1.2;letI b:=d.2.2.2;letI c:=b.2.2.2;ob (C3 (c.2.2.2.1,())) λa5=>ob (Dg (((a.1.1.1,d.1,d.2.1,d.2.2.1,b.1,b.2.1,b.2.2.1,c.1,c.2.1,c.2.2.1,a5.1,c.2.2.2.2),a.1.2),(af,301,0,0,0,aI aN,aI aN,0,()),())) λa=>J (a.1,()))
def QW(x:p0):au<|p0:=letI b:=aO x.2.1<|bc 4;letI c:=ah x.2.1;ob (aa (aK x.2.1 0) (J (af,()))<|some (aK 3 x.2.1,())) λ(a:aM)=>aa a.1 (J (x.1,1,()))<|an b (aa (ap x.1.1 c ag) (J (x.1,9,()))<|an b<|an b<|an b<|an b<|some ((cA x.1.1 c af,cA x.1.2.1 c qC,cA x.1.2.2.1 c<|i64<|aG (ap x.1.2.2.1 c 0) 1,x.1.2.2.2),0,()))
def F'(x:ST):au<|aM:=ob (aa (am x.1.1 0) (J (am (len x.1.2.1) 0,()))<|some (ag,())) λ(a:aM)=>J (a.1,())
def KV(x:l6):au<|aM:=letI b:au aM:=J (ag,());ob (F' (x.1.1,())) λa=>ob (F' (x.1.2.1,())) λa5=>ob (F' (x.1.2.2.1,())) λbH=>ob (aa a.1 (aa a5.1 (aa bH.1 (aa (am x.1.2.2.2.1 0) (J (am x.1.2.2.2.2.1 0,())) b) b) b) b) λ(a:aM)=>J (a.1,())
def F9(x:eW×O×ai×aj):au<|l5:=letI b:au aM:=J (af,());letI c:=x.2.1;letI d:=x.1.2;ob (aa (a2<|am (len x.2.2.1) 32) b<|aa (aK c 1) b<|some (aK 2147483647 c,())) λ(a:aM)=>aa a.1 (J (x.1,1,()))<|ob (KV (x.1,())) λa=>ob (aa a.1 b<|aa (bL c x.1.1.1) b<|some (aK c d.2.1.1,())) λ(a:aM)=>aa a.1 (J (x.1,9,())) (aa (aK d.2.2.2.1 c) (J ((x.1.1,d.1,(c,x.2.2.1,()),d.2.2.1,c,d.2.2.2.2),0,()))<|some ((x.1.1,d.1,(c,x.2.2.1,()),d.2.2),0,()))
def CN(x:l6):au<|l5:=aa (am x.1.2.2.1.1 0) (J (x.1,9,()))<|some ((x.1.2.2.1,x.1.1,hr,16,x.1.2.2.2.2.1,()),0,())
def F8(x:ca):au<|l5:=aa (a2<|am (len x.1) 32) (J (va,1,()))<|some (((1,x.1,()),hr,hr,0,1,()),0,())
def Gf(x:cK):au<|aM:=ob (aa (bL 0 x.1) (J (bL x.1 4611686018427387904,()))<|some (ag,())) λ(a:aM)=>J (a.1,())
def QB(x:cK):au<|ca:=b? (bG (λ(ae:ca)=>aa (a2<|am (cY (i64<|aG (i64<|aG x.1<|len ae.1) 8) 64) 0) (an (bO 1<|bB (aQ ae.1)<|aQ [u8 0])<|some<|aL.nx (bb ae.1 [u8 0],()))<|some<|aL.ex 0 (ae.1,())) ([u8 128],())) (λ_ =>aq) (λi a=>an (bU i 0)<|b? (bG (λ(ae:cg)=>letI c:=ae.2.1;letI b:=e4 IntKind.i64 (i64<|dI 8 x.1)<|cC<|u64 c;aa (bL 0 c) (an (bO 1<|bB (aQ ae.1)<|aQ [u8 b])<|some<|aL.nx (bb ae.1 [u8 b],i64<|bw c 8,())) (J<|aL.ex 2 (ae.1,c,()))) (a.1,56,())) (λ_ =>aq) (λi a=>an (bU i 2)<|some (a.1,())) λ(r:ca)=>J r) λ(r:ca)=>J r
def QD(x:aj):au<|tK:=J ([u32 1116352408,u32 1899447441,u32 3049323471,u32 3921009573,u32 961987163,u32 1508970993,u32 2453635748,u32 2870763221,u32 3624381080,u32 310598401,u32 607225278,u32 1426881987,u32 1925078388,u32 2162078206,u32 2614888103,u32 3248222580,u32 3835390401,u32 4022224774,u32 264347078,u32 604807628,u32 770255983,u32 1249150122,u32 1555081692,u32 1996064986,u32 2554220882,u32 2821834349,u32 2952996808,u32 3210313671,u32 3336571891,u32 3584528711,u32 113926993,u32 338241895,u32 666307205,u32 773529912,u32 1294757372,u32 1396182291,u32 1695183700,u32 1986661051,u32 2177026350,u32 2456956037,u32 2730485921,u32 2820302411,u32 3259730800,u32 3345764771,u32 3516065817,u32 3600352804,u32 4094571909,u32 275423344,u32 430227734,u32 506948616,u32 659060556,u32 883997877,u32 958139571,u32 1322822218,u32 1537002063,u32 1747873779,u32 1955562222,u32 2024104815,u32 2227730452,u32 2361852424,u32 2428436474,u32 2756734187,u32 3204031479,u32 3329325298],())
def tG(x:b_×b_×aj):au<|mn:=J (u32<|hG er (aY<|u32<|e4 er (aY x.1)<|aY x.2.1)<|aY<|u32<|h0 er (aY x.1)<|aY<|u32<|bw (aY<|u32 32)<|aY x.2.1,())
def KG(x:ab b_×ai×O×ab b_×aj):au<|tK:=letI p:=x.2.1;letI k:=len p;letI v:=aO 0<|bc 8;letI w:=aO 1<|bc 8;letI y:=aO 2<|bc 8;letI z:=aO 3<|bc 8;letI A:=aO 4<|bc 8;letI B:=aO 5<|bc 8;letI C:=aO 6<|bc 8;letI D:=aO 7<|bc 8;an (df (cq 0 64 64)<|bO 32<|ah 64) (b? (bG (λ(ae:oy)=>letI c:=i64<|aG x.2.2.1<|i64<|dI 4 ae.1;letI s:=i64<|aG c 1;letI t:=i64<|aG c 2;letI u:=i64<|aG c 3;aa (aK ae.1 16) (an (aO c k)<|an (aO s k)<|an (aO t k)<|an (aO u k)<|an (aO ae.1<|len ae.2.1)<|some<|aL.nx (i64<|aG ae.1 1,cA ae.2.1 (ah ae.1)<|u32<|aG (aY<|u32<|aG (aY<|u32<|aG (aY<|u32<|dI (aY<|u32<|aV<|ap p (ah c)<|u8 0)<|aY<|u32 16777216)<|aY<|u32<|dI (aY<|u32<|aV<|ap p (ah s)<|u8 0)<|aY<|u32 65536)<|aY<|u32<|dI (aY<|u32<|aV<|ap p (ah t)<|u8 0)<|aY<|u32 256)<|aY<|u32<|aV<|ap p (ah u)<|u8 0,())) (J<|aL.ex 0 (ae.1,ae.2.1,()))) (0,cb (ah 64)<|u32 0,())) (λ_ =>aq) (λi a=>an (bU i 0) (b? (bG (λ(x:oy)=>letI f:=x.2.1;letI h:=i64<|bw x.1 15;letI j:=i64<|bw x.1 2;letI n:=i64<|bw x.1 16;letI o:=i64<|bw x.1 7;aa (aK x.1 64) (an (aO h<|len f)<|an (aO j<|len f)<|ob (tG (ap f (ah h)<|u32 0,u32 7,())) λa=>ob (tG (ap f (ah h)<|u32 0,u32 18,())) λa5=>ob (tG (ap f (ah j)<|u32 0,u32 17,())) λbH=>ob (tG (ap f (ah j)<|u32 0,u32 19,())) λbF=>an (aO o<|len f)<|an (aO n<|len f)<|an (aO x.1<|len f)<|some<|aL.nx (i64<|aG x.1 1,cA f (ah x.1)<|u32<|aG (aY<|u32<|aG (aY<|u32<|aG (aY<|u32<|em er (aY<|u32<|em er (aY bH.1)<|aY bF.1)<|aY<|u32<|e4 er (aY<|ap f (ah j)<|u32 0)<|cC<|u64 10)<|aY<|ap f (ah o)<|u32 0)<|aY<|u32<|em er (aY<|u32<|em er (aY a.1)<|aY a5.1)<|aY<|u32<|e4 er (aY<|ap f (ah h)<|u32 0)<|cC<|u64 3)<|aY<|ap f (ah n)<|u32 0,())) (J<|aL.ex 2 (x.1,f,()))) (16,a.2.1,())) (λ_ =>aq) (λi a=>an (bU i 2) (an v (an
 w (an y (an z (an A (an B (an C (an D (b? (bG (λ(ae:abR)=>letI q:=ae.2.2;letI e:=q.2;letI d:=e.2.2;letI g:=d.2.2;letI l:=g.2.1;aa (aK l 64) (ob (tG (e.1,u32 6,())) λa5=>ob (tG (e.1,u32 11,())) λbH=>ob (tG (e.1,u32 25,())) λbF=>letI b:=aY<|u32<|aG (aY<|u32<|aG (aY<|u32<|aG (aY<|u32<|aG (aY ae.1)<|aY<|u32<|em er (aY<|u32<|em er (aY a5.1)<|aY bH.1)<|aY bF.1)<|aY<|u32<|em er (aY<|u32<|hz er (aY e.1)<|aY q.1)<|aY<|u32<|hz er (aY<|u32<|em er 4294967295<|aY e.1)<|aY ae.2.1)<|aY<|ap x.2.2.2.1 (ah l)<|u32 0)<|aY<|ap a.2.1 (ah l)<|u32 0;an (aO l<|len x.2.2.2.1) (an (aO l<|len a.2.1)<|ob (tG (g.1,u32 2,())) λco=>ob (tG (g.1,u32 13,())) λdW=>ob (tG (g.1,u32 22,())) λig=>J<|aL.nx (ae.2.1,q.1,e.1,u32<|aG (aY e.2.1) b,d.1,d.2.1,g.1,u32<|aG b<|aY<|u32<|aG (aY<|u32<|em er (aY<|u32<|em er (aY co.1)<|aY dW.1)<|aY ig.1)<|aY<|u32<|em er (aY<|u32<|em er (aY<|u32<|hz er (aY g.1)<|aY d.2.1)<|aY<|u32<|hz er (aY g.1)<|aY d.1)<|aY<|u32<|hz er (aY d.2.1)<|aY d.1,i64<|aG l 1,()))) (J<|aL.ex 4 (ae.1,ae.2.1,q.1,e.1,e.2.1,d.1,d.2.1,g.1,l,()))) (ap x.1 (ah 7)<|u32 0,ap x.1 (ah 6)<|u32 0,ap x.1 (ah 5)<|u32 0,ap x.1 (ah 4)<|u32 0,ap x.1 (ah 3)<|u32 0,ap x.1 (ah 2)<|u32 0,ap x.1 (ah 1)<|u32 0,ap x.1 (ah 0)<|u32 0,0,())) (λ_ =>aq) (λi a=>letI m:=a.2.2.2;an (bU i 4) (an v (an w (an y (an z (an A (an B (an C (an D (J ([u32<|aG (aY<|ap x.1 (ah 0)<|u32 0)<|aY m.2.2.2.2.1,u32<|aG (aY<|ap x.1 (ah 1)<|u32 0)<|aY m.2.2.2.1,u32<|aG (aY<|ap x.1 (ah 2)<|u32 0)<|aY m.2.2.1,u32<|aG (aY<|ap x.1 (ah 3)<|u32 0)<|aY m.2.1,u32<|aG (aY<|ap x.1 (ah 4)<|u32 0)<|aY m.1,u32<|aG (aY<|ap x.1 (ah 5)<|u32 0)<|aY a.2.2.1,u32 (aG (aY (ap x.1 (ah
 6)<|u32 0))<|aY a.2.1),u32<|aG (aY<|ap x.1 (ah 7)<|u32 0)<|aY a.1],()))))))))))) λ(r:tK)=>J r)))))))))) λ(r:tK)=>J r)) λ(r:tK)=>J r)
def KF(x:ov):au<|ca:=letI c:=aY<|u32 256;letI e:=bb (aI aN) x.1.2.2.1;an (bO 1<|bB (aQ<|aI aN)<|aQ x.1.2.2.1) (ob (QB (x.1.2.1,())) λa=>an (bO 1<|bB (aQ e)<|aQ a.1)<|ob (QD ()) λa5=>b? (bG (λ(ae:oy)=>aa (aK ae.1<|len<|bb e a.1) (ob (KG (ae.2.1,bb e a.1,ae.1,a5.1,())) λa=>J<|aL.nx (i64<|aG ae.1 64,a.1,()))<|some<|aL.ex 0 (ae.1,ae.2.1,())) (0,x.1.1,())) (λ_ =>aq) (λi a=>an (bU i 0)<|b? (bG (λ(x:cg)=>letI k:=x.2.1;letI b:=aY<|ap a.2.1 (ah k)<|u32 0;letI d:=aY<|u32<|cY (aY<|u32<|de b<|aY<|u32 65536) c;letI f:=aO k<|bc 8;letI g:=aY<|u32<|de b<|aY<|u32 16777216;letI h:=aY<|u32<|cY (aY<|u32<|de b c) c;letI j:=aY<|u32<|cY b c;aa (aK k 8) (an f<|an f<|an f<|an f<|an (bO 1<|bB (aQ x.1)<|aQ [u8 g,u8 d,u8 h,u8 j])<|some<|aL.nx (bb x.1 [u8 g,u8 d,u8 h,u8 j],i64<|aG k 1,())) (J<|aL.ex 2 (x.1,k,()))) (aI aN,0,())) (λ_ =>aq) (λi a=>an (bU i 2)<|some (a.1,())) λ(r:ai×aj) => J r) λ(r:ca)=>J r)
def QC(x:an5):au<|ov:=letI d:=x.2.1;letI b:=bb (aI aN) x.1.2.2.1;letI c:=len<|bb b d;aa (aK (i64<|bw 1125899906842624 x.1.2.1)<|len d) (J (x.1,())) (an (bO 1<|bB (aQ<|aI aN)<|aQ x.1.2.2.1)<|an (bO 1<|bB (aQ b)<|aQ d)<|ob (QD ()) λa=>b? (bG (λ(ae:abB)=>aa (bL 64<|i64<|bw c ae.1) (ob (KG (ae.2.1.1,bb b d,ae.1,a.1,())) λa=>J<|aL.nx (i64<|aG ae.1 64,(a.1,ae.2.1.2),()))<|some<|aL.ex 0 (ae.1,ae.2.1,())) (0,x.1,())) (λ_ =>aq) (λi a=>an (bU i 0)<|an (cq a.1 c c)<|some ((a.2.1.1,i64<|aG a.2.1.2.1<|len d,cut (bb b d) (ah a.1)<|cy (ah c)<|ah a.1,a.2.1.2.2.2),())) λ(r:ov)=>J r)
def aai(x:aj):au<|ov:=J (([u32 1779033703,u32 3144134277,u32 1013904242,u32 2773480762,u32 1359893119,u32 2600822924,u32 528734635,u32 1541459225],0,aI aN,()),())
def z?(x:ca):au<|ca:=ob (aai ()) λa=>ob (QC (a.1,x.1,())) λa=>ob (KF (a.1,())) λa=>J (a.1,())
def QE(x:ca):au<|ca:=an (bO 1<|bB (aQ<|aI aN)<|aQ x.1)<|aa (aK 64<|len x.1) (ob (z? (x.1,())) λa=>b? (bG (λ(x:ca)=>aa (aK (len x.1) 64) (an (bO 1<|bB (aQ x.1)<|aQ [u8 0])<|some<|aL.nx (bb x.1 [u8 0],()))<|some<|aL.ex 0 (x.1,())) (a.1,())) (λ_ =>aq) (λi a=>an (bU i 0)<|some (a.1,())) λ(r:ca)=>J r) (b? (bG (λ(x:ca)=>aa (aK (len x.1) 64) (an (bO 1<|bB (aQ x.1)<|aQ [u8 0])<|some<|aL.nx (bb x.1 [u8 0],()))<|some<|aL.ex 0 (x.1,())) (bb (aI aN) x.1,())) (λ_ =>aq) (λi a=>an (bU i 0)<|some (a.1,())) λ(r:ca)=>J r)
def F2(x:Dl):au<|ca:=ob (QE (x.1,())) λa=>b? (bG (λ(x:tbd)=>letI e:=x.2.2.1;letI b:=aV<|ap a.1 (ah e)<|u8 0;letI c:=em gV b<|aV<|u8 54;letI d:=em gV b<|aV<|u8 92;letI f:=aO e<|len a.1;aa (aK e 64) (an f<|an (bO 1<|bB (aQ x.1)<|aQ [u8 c])<|an f<|an (bO 1<|bB (aQ x.2.1)<|aQ [u8 d])<|some<|aL.nx (bb x.1 [u8 c],bb x.2.1 [u8 d],i64<|aG e 1,())) (J<|aL.ex 0 (x.1,x.2.1,e,()))) (aI aN,aI aN,0,())) (λ_ =>aq) (λi a=>an (bU i 0)<|an (bO 1<|bB (aQ a.1)<|aQ x.2.1)<|ob (z? (bb a.1 x.2.1,())) λa5=>an (bO 1<|bB (aQ a.2.1)<|aQ a5.1)<|ob (z? (bb a.2.1 a5.1,())) λa=>J (a.1,())) λ(r:ca)=>J r
def aak(x:ai×ab ai×aj):au<|ca:=an (bO 1<|aQ x.1)<|an (bO 1<|bB (aQ [u8<|len x.1])<|aQ x.1) (b? (bG (λ(ae:cg)=>letI f:=ae.2.1;letI b:=ap x.2.1 (ah f)<|aI aN;letI g:=cY (len b) 256;letI e:=i64<|de (len b) 256;letI c:=bb ae.1 [u8 e,u8 g];letI d:=aO f<|len x.2.1;aa (aK f<|len x.2.1) (an d<|an d<|an (bO 1<|bB (aQ ae.1)<|aQ [u8 e,u8 g])<|an d<|an (bO 1<|bB (aQ c)<|aQ b)<|some<|aL.nx (bb c b,i64<|aG f 1,())) (J<|aL.ex 0 (ae.1,f,()))) (bb [u8<|len x.1] x.1,0,())) (λ_ =>aq) (λi a=>an (bU i 0)<|some (a.1,())) λ(r:ca)=>J r)
def KH(x:ai×ai×ab ai×aj):au<|cg:=letI b:=len x.2.2.1;ob (aa (aK 255<|len x.2.1) (J (af,()))<|some (aK 16 b,())) λ(a:aM)=>aa a.1 (J (aI aN,1,()))<|b? (bG (λ(ae:ek)=>letI c:=ae.2.1;aa (aK c b) (an (aO c b)<|aa (aK 65535<|len<|ap x.2.2.1 (ah c)<|aI aN) (J<|aL.rt (aI aN,1,()))<|some<|aL.nx (ae.1,i64<|aG c 1,())) (J<|aL.ex 0 (ae.1,c,()))) (0,0,())) (λ_ =>aq) (λi a=>an (bU i 0)<|ob (aak (x.2.1,x.2.2.1,())) λa=>ob (F2 (x.1,a.1,())) λa=>J (a.1,0,())) λ(r:cg)=>J r
def Ag(x:ai×ab O×O×ai×aj):au<|ca:=letI b:au aM:=J (af,());letI c:=aO 0<|bc 2;letI d:=aO 1<|bc 2;an c (ob (Gf (ap x.2.1 (ah 0) 0,())) λa=>an d<|ob (Gf (ap x.2.1 (ah 1) 0,())) λa5=>ob (aa (a2 a.1) b<|aa (a2 a5.1) b<|aa (aK x.2.2.1 0) b<|some (aK 2147483647 x.2.2.1,())) λ(a:aM)=>aa a.1 (J (aI aN,()))<|an c<|ob (yf (ap x.2.1 (ah 0) 0,8,())) λa=>an d<|ob (yf (ap x.2.1 (ah 1) 0,8,())) λbH=>ob (yf (x.2.2.1,4,())) λbF=>ob (KH (x.1,[108,105,110,107],[a.1,bH.1,bF.1,x.2.2.2.1],())) λa=>J (a.1,()))
def Gc(x:cK):au<|cg:=letI c:=aI aN;ob (aa (aK x.1 1) (J (af,()))<|some (aK 4611686018427387904 x.1,())) λ(a:aM)=>aa a.1 (J (aI aN,1,()))<|ob (yf (x.1,8,())) λa=>an (bO 1<|bB (aQ [u8 121,u8 101,u8 116,u8 116])<|aQ a.1) (ob (z? (bb [u8 121,u8 101,u8 116,u8 116] a.1,())) λa5=>letI b:=cut a5.1 (ah 0)<|cy (ah 8)<|ah 0;an (bO 1<|bB (aQ c)<|aQ a.1) (an (cq 0 8<|len a5.1)<|an (bO 1<|bB (aQ<|bb c a.1)<|aQ b)<|some (bb (bb c a.1) b,0,())))
def Q6(x:aj):au<|GQ:=ob (Gc (1,())) λa=>an (df (cq 0 16 16)<|bO 1<|ah 16)<|some ((a.1,cb (ah 16)<|u8 0,()),())
def aal(x:aM):au<|jy×aj:=J ((x.1,aI<|ai×ai×aj,ag,()),())
def QS(x:(ai×O×O×aj)×aN×aj):au<|SY:=letI f:=x.1.2;letI e:=bb (aI aN) x.1.1;letI b:au<|SY:=J ((bb e [x.2.1],f),aI aN,());letI c:=bb e [x.2.1];letI d:=aG (i64<|dI 256<|i64<|aV<|ap c (ah 0)<|u8 0)<|i64<|aV<|ap c (ah 1)<|u8 0;aa (aK 0 f.1) (J ((x.1.1,i64<|bw f.1 1,f.2),aI aN,())) (an (bO 1<|bB (aQ<|aI aN)<|aQ x.1.1)<|an (bO 1<|bB (aQ e)<|aQ [x.2.1])<|aa (aK (len c) 2) b<|an (aO 0<|len c)<|an (aO 1<|len c)<|ob (aa (am (i64 d) 0) (J (af,()))<|some (aK 1024<|i64 d,())) λ(a:aM)=>aa a.1 (J ((aI aN,i64 d,i64<|aG f.2.1 1,()),aI aN,()))<|aa (aK (len c)<|i64<|aG (i64 d) 2) b<|an (cq 2 (len c)<|len c)<|some ((aI aN,0,f.2.1,()),cut c (ah 2)<|cy (ah<|len c)<|ah 2,()))
def QQ(x:SY):au<|GM:=b? (bG (λ(ae:aby)=>letI b:=ae.2.1;aa (aK b<|len x.2.1) (an (aO b<|len x.2.1)<|ob (QS (ae.2.2.1,ap x.2.1 (ah b)<|u8 0,())) λa=>aa (aK 0<|len a.2.1) (an (bO 32<|bB (aQ ae.1)<|aQ [a.2.1])<|some<|aL.nx (bb ae.1 [a.2.1],i64<|aG b 1,a.1,()))<|some<|aL.nx (ae.1,i64<|aG b 1,a.1,())) (J<|aL.ex 0 (ae.1,b,ae.2.2.1,()))) (aI ai,0,x.1,())) (λ_ =>aq) (λi a=>an (bU i 0)<|some (a.2.2.1,a.1,())) λ(r:GM)=>J r
def yi(x:lE):au<|cK:=ob (KC (x.1,x.2.1,x.2.2.1,())) λa=>aa (a2<|am a.2.2.1 0) (J (-1,()))<|some (a.1,())
def Ga(x:cK):au<|aM:=ob (aa (bL 0 x.1) (J (bL x.1 4611686018427387904,()))<|some (ag,())) λ(a:aM)=>J (a.1,())
def KX(x:yS):au<|aM:=letI f:=J (ag,());letI e:=x.1.2.2;letI g:=len e.2.2.2.1;letI c:au aM:=J (ag,());letI b:au aM:=aa (bL 0 e.2.1) (aa (bL e.2.1 2147483647) (aa (bL 1 g) (J (bL g 900,())) f) f) f;letI d:au aM:=aa (am x.1.2.1 0) b<|aa (am x.1.2.1 1) b c;an (aO 0<|bc 2) (ob (Ga (ap e.1 (ah 0) 0,())) λa=>an (aO 1<|bc 2)<|ob (Ga (ap e.1 (ah 1) 0,())) λa5=>ob (Ga (e.2.2.1,())) λbH=>ob (aa a.1 (aa a5.1 (aa bH.1 (aa (am x.1.1 1) d<|aa (am x.1.1 2) d c) c) c) c) λ(a:aM)=>J (a.1,()))
def F?(x:yS):au<|aM:=ob (KX (x.1,())) λa=>ob (aa a.1 (J (am (len x.1.2.2.2.2.2.2.1) 16,()))<|some (ag,())) λ(a:aM)=>J (a.1,())
def Q4(x:ca):au<|MS:=letI c:=len x.1;letI b:=i64<|bw c 16;aa (aK c 47) (J (kZ,3,())) (aa (aK 946 c) (J (kZ,4,()))<|ob (yi (x.1,0,1,())) λa=>ob (yi (x.1,1,1,())) λa5=>ob (yi (x.1,2,8,())) λbH=>ob (yi (x.1,10,8,())) λbF=>ob (yi (x.1,18,4,())) λco=>ob (yi (x.1,22,8,())) λdW=>an (cq 30 b c)<|an (cq b c c)<|ob (F? ((a.1,a5.1,[bH.1,bF.1],co.1,dW.1,sub x.1 30 b,sub x.1 b c,()),())) λig=>aa (a2 ig.1) (J (kZ,2,()))<|some ((a.1,a5.1,[bH.1,bF.1],co.1,dW.1,sub x.1 30 b,sub x.1 b c,()),0,()))
def o0(x:dm):au<|bp:=b? (bG (λ(ae:sT)=>letI e:=ae.2.1;letI d:=e.1.2.2;letI f:=d.2.2.2;letI b:=f.2.2.2;letI g:=b.2.2.2;letI c:=g.2.2.2;letI h:=c.2.2.2;letI j:=ah ae.1;letI k:=aO ae.1<|bc 4;aa (aK ae.1 4) (an (aO ae.1<|len [2,5,6,13])<|aa (am (ap [2,5,6,13] j 0) x.2.1) (an k<|an k<|some<|aL.nx (i64<|aG ae.1 1,((e.1.1,e.1.2.1,d.1,d.2.1,d.2.2.1,f.1,f.2.1,f.2.2.1,b.1,b.2.1,b.2.2.1,g.1,g.2.1,g.2.2.1,c.1,c.2.1,c.2.2.1,h.1,cA h.2.1 j<|i64<|aG (ap h.2.1 j 0) 1,h.2.2),e.2),()))<|some<|aL.nx (i64<|aG ae.1 1,e,())) (J<|aL.ex 0 (ae.1,e,()))) (0,x.1,())) (λ_ =>aq) (λi a=>an (bU i 0)<|some (a.2.1,())) λ(r:bp)=>J r
def ww(x:cK):au<|aM:=ob (aa (bL 2 x.1) (J (bL x.1 6,()))<|some (ag,())) λ(a:aM)=>J (a.1,())
def qm(x:p1):au<|kX:=letI a:=x.1.2.2.2.2.2;aa (am x.1.1 0) (J ([a.1,a.2.1],())) (aa (am x.1.1 1) (J ([a.2.1,a.1],()))<|some ([0,0],()))
def F7(x:l5):au<|lc:=letI a:au<|lc:=J (aI aN,ag,());aa (aK x.2.1 1) a (aa (am x.1.1.1 x.2.1) (J (x.1.1.2.1,af,()))<|aa (am x.1.2.1.1 x.2.1) (J (x.1.2.1.2.1,af,()))<|aa (am x.1.2.2.1.1 x.2.1) (J (x.1.2.2.1.2.1,af,())) a)
def Rk(x:pY×d6×aj):au<|aM:=letI b:au aM:=J (af,());letI c:=x.2.1.2;letI d:=x.1.2.2;letI e:=aO 0<|bc 2;letI f:=aO 1<|bc 2;ob (aa (a2<|am c.1<|i64<|bw 1 x.1.1) b<|aa (am d.1 7) b<|some (am d.1 8,())) λ(a:aM)=>aa a.1 (J (af,()))<|aa (am x.2.1.1 1) (J (ag,())) (ob (qm (x.1,())) λa=>ob (ww (d.1,())) λa5=>ob (F7 (d.2.2.2.2.2.2.2.2.1,c.2.2.1,())) λbH=>ob (aa (a2 a5.1) b<|aa (a2 bH.2.1) b<|an e<|an e<|aa (a2<|am (ap c.2.1 (ah 0) 0)<|ap a.1 (ah 0) 0) b<|an f<|an f<|some (a2<|am (ap c.2.1 (ah 1) 0)<|ap a.1 (ah 1) 0,())) λ(a:aM)=>J (a.1,()))
def Af(x:ca):au<|ca:=ob (KH (x.1,[98,97,115,101],aI ai,())) λa=>J (a.1,())
def ql(x:ek):au<|ca:=ob (yf (x.1,x.2.1,())) λa=>J (a.1,())
def CO(x:yS):au<|cg:=letI c:=x.1.2.2;ob (KX (x.1,())) λa=>aa (a2 a.1) (J (aI aN,1,())) (ob (ql (x.1.1,1,())) λa=>ob (ql (x.1.2.1,1,())) λa5=>letI d:=bb a.1 a5.1;an (bO 1<|bB (aQ a.1)<|aQ a5.1) (an (aO 0<|bc 2)<|ob (ql (ap c.1 (ah 0) 0,8,())) λbH=>an (bO 1<|bB (aQ d)<|aQ bH.1)<|an (aO 1<|bc 2) (ob (ql (ap c.1 (ah 1) 0,8,())) λbF=>letI b:=bb (bb d bH.1) bF.1;an (bO 1<|bB (aQ<|bb d bH.1)<|aQ bF.1) (ob (ql (c.2.1,4,())) λco=>letI e:=bb b co.1;an (bO 1<|bB (aQ b)<|aQ co.1) (ob (ql (c.2.2.1,8,())) λdW=>an (bO 1<|bB (aQ e)<|aQ dW.1)<|an (bO 1<|bB (aQ<|bb e dW.1)<|aQ c.2.2.2.1)<|some (bb (bb e dW.1) c.2.2.2.1,0,()))))))
def F4(x:Dl):au<|ca:=ob (F2 (x.1,x.2.1,())) λa=>an (cq 0 16<|len a.1)<|some (cut a.1 (ah 0)<|cy (ah 16)<|ah 0,())
def KJ(x:MY):au<|aM:=letI c:=len x.1.2.1;letI e:=J (ag,());b? (bG (λ(ae:dt)=>letI d:=ae.2.1;letI b:=ap x.1.2.1 (ah d) (aI aN,aI aN,());aa (aK d c) (an (aO d c)<|ob (nR (b.1,x.2.1,())) λa=>ob (aa a.1 (an (aO d c)<|ob (nR (b.2.1,x.2.2.1,())) λa=>J (a.1,())) e) λ(a:aM)=>aa a.1 (J<|aL.rt (af,()))<|some<|aL.nx (ae.1,i64<|aG d 1,())) (J<|aL.ex 0 (ae.1,d,()))) (ag,0,())) (λ_ =>aq) (λi a=>an (bU i 0) e) λ(r:aM)=>J r
def F3(x:jy×ai×ai×ai×aj):au<|DW:=ob (F4 (x.2.1,x.2.2.1,())) λa=>ob (nR (a.1,x.2.2.2.1,())) λa=>aa (a2 a.1) (J (x.1,ag,()))<|ob (KJ (x.1,x.2.1,x.2.2.1,())) λa=>aa (a2 a.1) (aa a.1 (J ((x.1.1,x.1.2.1,af,x.1.2.2.2),af,()))<|some ((x.1.1,x.1.2.1,af,x.1.2.2.2),a2 x.1.1,())) (aa a.1 (J (x.1,af,()))<|some (x.1,a2 x.1.1,()))
def F6(x:cK):au<|tbi:=b? (bG (λ(ae:tbf)=>aa (aK ae.2.1 x.1) (J<|aL.nx (u64<|dI (cC<|u64 2)<|cC ae.1,i64<|aG ae.2.1 1,()))<|some<|aL.ex 0 (ae.1,ae.2.1,())) (u64 1,0,())) (λ_ =>aq) (λi a=>an (bU i 0)<|some (a.1,())) λ(r:tbi)=>J r
def KT(x:rx):au<|aM:=letI b:=i64<|de x.2.1 64;an (aO b<|bc 16) (ob (F6 (cY x.2.1 64,())) λa=>an (a2<|am (cC a.1) 0)<|some (am (cC<|u64<|cY (cC<|u64<|de (cC<|ap x.1.2.1 (ah b)<|u64 0)<|cC a.1)<|cC<|u64 2)<|cC<|u64 1,()))
def QY(x:rx):au<|aM:=letI b:au aM:=J (af,());letI c:=x.2.1;ob (aa (aK c 0) b<|aa (aK 4611686018427387904 c) b<|some (aK c<|i64<|bw x.1.1 1024,())) λ(a:aM)=>aa a.1 (J (ag,()))<|ob (aa (bL x.1.1 c) b<|ob (KT (x.1,cY c 1024,())) λa=>J (a2 a.1,())) λ(a:aM)=>J (a.1,())
def QZ(x:GN):au<|kX:=b? (bG (λ(ae:wH)=>letI b:=ae.2.1;aa (aK b x.1.1) (ob (KT (x.1,cY b 1024,())) λa=>aa a.1 (an (bO 32<|bB (aQ ae.1)<|aQ [b])<|some<|aL.nx (bb ae.1 [b],i64<|aG b 1,()))<|some<|aL.nx (ae.1,i64<|aG b 1,())) (J<|aL.ex 0 (ae.1,b,()))) (aI O,dk 0<|i64<|bw x.1.1 1024,())) (λ_ =>aq) (λi a=>an (bU i 0)<|some (a.1,())) λ(r:kX)=>J r
def KU(x:rx):au<|rx:=letI f:=x.2.1;ob (aa (aK f 0) (J (af,()))<|some (aK 4611686018427387904 f,())) λ(a:aM)=>aa a.1 (J (x.1,1,()))<|ob (QY (x.1,f,())) λa=>aa (a2 a.1) (J (x.1,6,())) (ob (aa (bL x.1.1 f) (J (i64<|aG f 1,()))<|some (x.1.1,())) λ(a:cK)=>ob (QZ (x.1,())) λa5=>letI c:=bb a5.1 [f];an (bO 32<|bB (aQ a5.1)<|aQ [f]) (b? (bG (λ(ae:yv)=>letI g:=ap c (ah ae.1) 0;letI b:=cY g 1024;letI d:=i64<|de b 64;letI e:=ae.2.1;letI h:=aO ae.1<|len c;letI j:=aO d<|bc 16;aa (aK ae.1<|len c) (an h<|an h<|aa (bL (i64<|bw a.1 1024) g) (an j<|ob (F6 (cY b 64,())) λa=>an j<|some<|aL.nx (i64<|aG ae.1 1,(e.1,cA e.2.1 (ah d)<|u64<|aG (cC<|ap e.2.1 (ah d)<|u64 0)<|cC a.1,e.2.2),()))<|some<|aL.nx (i64<|aG ae.1 1,e,())) (J<|aL.ex 0 (ae.1,e,()))) (0,(a.1,tW,()),())) (λ_ =>aq) (λi a=>an (bU i 0)<|some (a.2.1,0,())) λ(r:rx)=>J r))
def aaz(x:t3):au<|MW:=letI f:=x.1.1;letI i:=f.2.2;letI e:=i.2.2;letI g:=e.2.2.2;letI j:=g.2.2.2;letI d:au l5:=CN (j.1,());letI h:=x.1.2.2;letI l:=e.2.2.1;letI m:=f.2.1;ob (Q4 (x.2.1,())) λa=>letI k:=a.1.2.2.2;letI c:au rx:=KU (g.2.2.1,k.2.1,());letI b:au aM:=aa (am j.1.2.2.1.1 k.1) (J (a2<|am i.1 4,()))<|some (ag,());letI n:=CO (a.1,());aa (a2<|am a.2.1 0) (ob (o0 (x.1,2,())) λa=>J (a.1,kZ,2,())) (ob (Rk (f,a.1,())) λa5=>aa a5.1 (ob (o0 (x.1,13,())) λa=>J (a.1,kZ,13,()))<|ob (Af (m,())) λbH=>aa (am a.1.1 2) (ob (F7 (j.1,k.1,())) λbF=>ob n λ(co:cg)=>ob (F3 (x.1.2.1,bF.1,co.1,k.2.2.2.1,())) λdW=>aa (a2 dW.2.1) (ob (o0 ((f,dW.1,h),5,())) λa=>J (a.1,kZ,5,()))<|aa (am a.1.1 1) (J ((f,dW.1,h),a.1,0,()))<|ob c λ(ig:rx)=>aa (a2<|am ig.2.1 0) (ob (o0 ((f,dW.1,h),6,())) λa=>J (a.1,kZ,6,()))<|ob b λ(hN:aM)=>aa hN.1 (ob d λ(m0:l5)=>J (((f.1,m,i.1,i.2.1,e.1,e.2.1,l,g.1,g.2.1,ig.1,m0.1,j.2),dW.1,h),a.1,0,()))<|some (((f.1,m,i.1,i.2.1,e.1,e.2.1,l, g.1,g.2.1,ig.1,j),dW.1,h),a.1,0,()))<|ob n λ(bF:cg)=>ob (F3 (x.1.2.1,bH.1,bF.1,k.2.2.2.1,())) λco=>aa (a2 co.2.1) (ob (o0 ((f,co.1,h),5,())) λa=>J (a.1,kZ,5,()))<|aa (am a.1.1 1) (J ((f,co.1,h),a.1,0,()))<|ob c λ(dW:rx)=>aa (a2<|am dW.2.1 0) (ob (o0 ((f,co.1,h),6,())) λa=>J (a.1,kZ,6,()))<|ob b λ(ig:aM)=>aa ig.1 (ob d λ(hN:l5)=>J (((f.1,m,i.1,i.2.1,e.1,e.2.1,l,g.1,g.2.1,dW.1,hN.1,j.2),co.1,h),a.1,0,()))<|some (((f.1,m,i.1,i.2.1,e.1,e.2.1,l,g.1,g.2.1,dW.1,j),co.1,h),a.1,0,()))
def Rc(x:wG):au<|aM:=letI b:au aM:=J (ag,());letI c:=len x.2.2.1;ob (K2 (x.1,())) λa=>ob (aa a.1 (aa (bL 1 x.2.1) (aa (bL x.2.1 999999) (aa (bL 1 c) (J (bL c 900,())) b) b) b) b) λ(a:aM)=>J (a.1,())
def K3(x:go×aj):au<|aM:=letI b:au aM:=J (ag,());ob (aa (am x.1.1 0) (aa (am x.1.2.1 0) (aa (am x.1.2.2.1 0) (aa (am x.1.2.2.2.1 0) (J (am (len x.1.2.2.2.2.1) 0,())) b) b) b) b) λ(a:aM)=>J (a.1,())
def QR(x:(ai×O×O×aj)×(ai×O×O×aj)×aj):au<|aM:=letI b:=J (ag,());ob (nR (x.1.1,x.2.1.1,())) λa=>ob (aa a.1 (aa (am x.1.2.1 x.2.1.2.1) (J (am x.1.2.2.1 x.2.1.2.2.1,())) b) b) λ(a:aM)=>J (a.1,())
def Ad(x:cK):au<|aM:=letI b:=J (af,());ob (aa (am x.1 3) b<|aa (am x.1 4) b<|some (am x.1 5,())) λ(a:aM)=>J (a.1,())
def CV(x:pY×O×ai×aj):au<|ca:=ob (qm (x.1,())) λa=>ob (Ag (x.1.2.1,a.1,x.2.1,x.2.2.1,())) λa=>J (a.1,())
def KI(x:ca):au<|ca:=an (df (cq 0 8 8)<|bO 1<|ah 8)<|ob (F2 (x.1,cb (ah 8)<|u8 0,())) λa=>an (cq 0 3<|len a.1) (J (cut a.1 (ah 0)<|cy (ah 3)<|ah 0,()))
def Q9(x:wG):au<|M0:=ob (Rc (x.1,x.2.1,x.2.2.1,())) λa=>aa (a2 a.1) (J (i4,1,()))<|some ((x.1,x.2.1,8,3,x.2.2.1,()),0,())
def aar(x:f8×aj):au<|aM:=letI b:au aM:=J (af,());an (aO 0<|bc 4) (ob (aa (ap x.1.1 (ah 0) ag) b<|an (aO 1<|bc 4)<|aa (ap x.1.1 (ah 1) ag) b<|an (aO 2<|bc 4)<|aa (ap x.1.1 (ah 2) ag) b<|an (aO 3<|bc 4)<|some (ap x.1.1 (ah 3) ag,())) λ(a:aM)=>J (a.1,()))
def QU(x:f8×aj):au<|DV:=ob (aar (x.1,())) λa=>aa (a2 a.1) (J (x.1,0,11,()))<|b? (bG (λ(ae:cK)=>an (aO ae.1<|bc 4)<|aa (a2<|ap x.1.1 (ah ae.1) ag) (J<|aL.nx (cY (i64<|aG ae.1 1) 4,()))<|some<|aL.ex 0 (ae.1,())) (x.1.2.2.2.1,())) (λ_ =>aq) (λi a=>an (bU i 0)<|some ((x.1.1,x.1.2.1,x.1.2.2.1,cY (i64<|aG a.1 1) 4,x.1.2.2.2.2),a.1,0,())) λ(r:DV)=>J r
def QF(x:MY):au<|MZ:=letI b:=aI<|ai×ai×aj;letI c:=x.2.2.1;letI d:=F4 (x.2.1,c,());letI e:=bb b x.1.2.1;ob (KJ (x.1,x.2.1,c,())) λa=>aa (a2 a.1) (an (bO 56<|bB (aQ b)<|aQ x.1.2.1)<|an (bO 56<|bB (aQ e)<|aQ [(x.2.1,c,())])<|ob d λ(a:ca)=>J ((x.1.1,bb e [(x.2.1,c,())],x.1.2.2),a.1,()))<|ob d λ(a:ca)=>J (x.1,a.1,())
def Q5(x:yS):au<|cg:=letI b:=x.1.2.2.2.2.2.2.1;ob (F? (x.1,())) λa=>aa (a2 a.1) (J (aI aN,1,()))<|ob (CO (x.1,())) λa=>an (bO 1<|bB (aQ a.1)<|aQ b) (J (bb a.1 b,0,()))
def aaq(x:ca):au<|cg:=letI b:=len x.1;letI c:=i64<|de b 256;ob (aa (aK b 1) (J (af,()))<|some (aK 1024 b,())) λ(a:aM)=>aa a.1 (J (aI aN,1,()))<|an (bO 1<|bB (aQ [u8 c,u8<|cY b 256])<|aQ x.1) (J (bb [u8 c,u8<|cY b 256] x.1,0,()))
def Ge(x:eK×d6×ai×aj):au<|dm:=letI d:=x.1.1.2.2.2;letI b:=d.2.2.2.2.2;letI c:=b.2.2.2.2.2;letI e:=aI<|Int×ai×aj;letI f:=x.2.1.2.2;letI g:=c.2.2.2;ob (QU (c.2.2.1,())) λa=>aa (a2<|am a.2.2.1 0) (J (x.1,a.2.2.1,()))<|ob (CO (x.2.1,())) λa5=>ob (QF (x.1.2.1,x.2.2.1,a5.1,())) λbH=>ob (Q5 ((x.2.1.1,x.2.1.2.1,f.1,f.2.1,f.2.2.1,f.2.2.2.1,bH.2.1,f.2.2.2.2.2),())) λbF=>ob (aaq (bF.1,())) λco=>an (bO 56<|bB (aQ e)<|aQ g.1) (an (bO 56<|bB (aQ<|bb e g.1)<|aQ [(a.2.1,co.1,())])<|some (((x.1.1.1,x.1.1.2.1,x.1.1.2.2.1,d.1,d.2.1,d.2.2.1,d.2.2.2.1,d.2.2.2.2.1,b.1,b.2.1,b.2.2.1,b.2.2.2.1,b.2.2.2.2.1,c.1,c.2.1,a.1,bb (bb e g.1) [(a.2.1,co.1,())],g.2),bH.1,x.1.2.2),0,()))
def ro(x:t3):au<|dm:=letI b:=x.1.1.2.2.2.2.2.2.2.2;ob (aa (aK (len x.2.1) 1) (J (af,()))<|some (aK 900<|len x.2.1,())) λ(a:aM)=>aa a.1 (J (x.1,1,()))<|ob (ww (x.1.1.2.2.1,())) λa=>aa (a2 a.1) (J (x.1,7,())) (aa (am b.1 4611686018427387904) (J (x.1,10,())) (ob (qm (x.1.1,())) λa=>ob (Ge (x.1,(2,x.1.1.1,a.1,b.2.2.1.1.1,b.1,x.2.1,aI aN,()),b.2.2.1.1.2.1,())) λa=>letI c:=a.1.1.2.2.2;letI d:=c.2.2.2;aa (am a.2.1 0) (J (((a.1.1.1,a.1.1.2.1,a.1.1.2.2.1,c.1,c.2.1,c.2.2.1,d.1,d.2.1,i64<|aG d.2.2.1 1,d.2.2.2),a.1.2),a.2.1,())) (J (a.1,a.2.1,()))))
def Ra(x:cK):au<|cK:=ob (aa (aK x.1 0) (J (af,()))<|some (aK 999998 x.1,())) λ(a:aM)=>aa a.1 (J (1,()))<|some (i64<|aG x.1 1,())
def CS(x:MX):au<|dm:=letI b:=x.1.1;letI c:=x.2.2.1;letI d:=J (af,());letI e:=Af (b.2.1,());ob (Gf (x.2.1,())) λa=>ob (aa (a2 a.1) d<|aa (aK (len c) 1) d<|some (aK 900<|len c,())) λ(a:aM)=>aa a.1 (J (x.1,1,()))<|aa (am b.1 1) (ob e λ(a:ca)=>ob (Ge (x.1,(1,b.1,[x.2.1,b.2.2.2.2.2.1],0,0,c,aI aN,()),a.1,())) λa=>J (a.1,a.2.1,())) (ob e λ(a:ca)=>ob (Ge (x.1,(1,b.1,[b.2.2.2.2.2.1,x.2.1],0,0,c,aI aN,()),a.1,())) λa=>J (a.1,a.2.1,()))
def CT(x:pZ):au<|bp:=letI c:=x.1.1.2;letI f:=c.2.2;letI b:=f.2.2;letI d:=b.2.2.2;letI e:=x.2.1.2;letI g:=d.2.2;letI h:=J (x.1,());ob (Ra (g.2.2.1,())) λa=>ob (Gd ((x.2.1.1,e.1,a.1,e.2.2),())) λa5=>aa (a2<|am a5.2.1 0) h<|ob (Q9 (e.1,a.1,a5.1,())) λbH=>aa (a2<|am bH.2.1 0) h (aa (am e.1 1) (ob (CS (((x.1.1.1,c.1,c.2.1,f.1,f.2.1,b.1,b.2.1,b.2.2.1,d.1,d.2.1,g.1,bH.1,a.1,g.2.2.2),x.1.2),0,a5.1,())) λa=>J (a.1,()))<|ob (ro (((x.1.1.1,c.1,c.2.1,f.1,f.2.1,b.1,b.2.1,b.2.2.1,d.1,d.2.1,g.1,bH.1,a.1,g.2.2.2),x.1.2),a5.1,())) λa=>J (a.1,()))
def Q0(x:l6):au<|ek:=ob (KV (x.1,())) λa=>aa a.1 (J (0,9,()))<|aa (bL 2147483647 x.1.2.2.2.2.1) (J (0,10,())) (J (i64<|aG x.1.2.2.2.2.1 1,0,()))
def Ry(x:t3):au<|dm:=letI c:=x.1.1.2.2;letI b:=c.2.2.2.2;letI d:=b.2.2.2.2;letI e:=J (af,());aa (a2<|am (len x.2.1) 8) (J (x.1,1,())) (ob (Ad (c.1,())) λa=>aa (a2 a.1) (J (x.1,7,()))<|ob (aa (a2<|am c.1 3) e<|aa (a2<|am d.2.1.1 0) e<|some (aK 0 d.1.2.2.1.1,())) λ(a:aM)=>aa a.1 (J (x.1,9,()))<|ob (Q0 (d.1,())) λa=>aa (a2<|am a.2.1 0) (J (x.1,a.2.1,()))<|ob (CV (x.1.1,a.1,x.2.1,())) λa5=>ob (F9 (d.1,a.1,a5.1,())) λbH=>ob (KI (a5.1,())) λbF=>ob (CT (((x.1.1.1,x.1.1.2.1,4,c.2.1,c.2.2.1,c.2.2.2.1,b.1,b.2.1,b.2.2.1,b.2.2.2.1,bH.1,d.2),x.1.2),(af,101,0,0,a.1,x.2.1,bF.1,0,()),())) λa=>J (a.1,0,()))
def KW(x:an4):au<|aM:=ob (aa (am x.1.1 x.2.1.1) (ob (nR (x.1.2.1,x.2.1.2.1,())) λa=>J (a.1,()))<|some (ag,())) λ(a:aM)=>J (a.1,())
def Q1(x:eW×eW×aj):au<|aM:=letI b:au aM:=J (ag,());letI c:=x.2.1.2;ob (KW (x.1.1,x.2.1.1,())) λa=>ob (KW (x.1.2.1,c.1,())) λa5=>ob (KW (x.1.2.2.1,c.2.1,())) λbH=>ob (aa a.1 (aa a5.1 (aa bH.1 (aa (am x.1.2.2.2.1 c.2.2.1) (J (am x.1.2.2.2.2.1 c.2.2.2.1,())) b) b) b) b) λ(a:aM)=>J (a.1,())
def Qy(x:ab ai×ab ai×aj):au<|aM:=letI c:=len x.1;aa (a2<|am c<|len x.2.1) (J (ag,())) (b? (bG (λ(ae:dt)=>letI b:=ae.2.1;aa (aK b c) (an (aO b c)<|an (aO b<|len x.2.1)<|aa (a2<|seq (ap x.1 (ah b)<|aI aN)<|ap x.2.1 (ah b)<|aI aN) (J<|aL.rt (ag,()))<|some<|aL.nx (ae.1,i64<|aG b 1,())) (J<|aL.ex 0 (ae.1,b,()))) (ag,0,())) (λ_ =>aq) (λi a=>an (bU i 0)<|some (af,())) λ(r:aM)=>J r)
def Q7(x:(ai×ai×aj)×(ai×ai×aj)×aj):au<|aM:=ob (nR (x.1.1,x.2.1.1,())) λa=>ob (aa a.1 (ob (nR (x.1.2.1,x.2.1.2.1,())) λa=>J (a.1,()))<|some (ag,())) λ(a:aM)=>J (a.1,())
def Q?(x:go×go×aj):au<|aM:=ob (aa (am x.1.1 x.2.1.1) (aa (am x.1.2.1 x.2.1.2.1) (aa (am x.1.2.2.1 x.2.1.2.2.1) (aa (am x.1.2.2.2.1 x.2.1.2.2.2.1) (ob (nR (x.1.2.2.2.2.1,x.2.1.2.2.2.2.1,())) λa=>J (a.1,()))<|some (ag,()))<|some (ag,()))<|some (ag,()))<|some (ag,())) λ(a:aM)=>J (a.1,())
def QX(x:f8×f8×aj):au<|aM:=letI e:=J (af,());b? (bG (λ(ae:dt)=>letI d:=ae.2.1;letI b:=aO d<|bc 4;letI c:=ah d;aa (aK d 4) (an b<|an b<|ob (QR (ap x.1.2.1 c qC,ap x.2.1.2.1 c qC,())) λa=>ob (aa (a2 a.1) e<|an b<|an b<|aa (a2<|p7 (ap x.1.1 c ag)<|ap x.2.1.1 c ag) e<|an b<|an b<|some (a2<|am (ap x.1.2.2.1 c 0)<|ap x.2.1.2.2.1 c 0,())) λ(a:aM)=>aa a.1 (J<|aL.rt (ag,()))<|some<|aL.nx (ae.1,i64<|aG d 1,())) (J<|aL.ex 0 (ae.1,d,()))) (ag,0,())) (λ_ =>aq) (λi a=>an (bU i 0)<|some (am x.1.2.2.2.1 x.2.1.2.2.2.1,())) λ(r:aM)=>J r
def Rj(x:ab (O×ai×aj)×ab (O×ai×aj)×aj):au<|aM:=letI c:=len x.1;letI d:=len x.2.1;letI g:=J (af,());aa (a2<|am c d) (J (ag,())) (b? (bG (λ(ae:dt)=>letI b:=ae.2.1;letI e:=ap x.2.1 (ah b) hr;letI f:=ap x.1 (ah b) hr;aa (aK b c) (an (aO b c)<|an (aO b d)<|ob (aa (a2<|am f.1 e.1) g<|an (aO b c)<|an (aO b d)<|ob (nR (f.2.1,e.2.1,())) λa=>J (a2 a.1,())) λ(a:aM)=>aa a.1 (J<|aL.rt (ag,()))<|some<|aL.nx (ae.1,i64<|aG b 1,())) (J<|aL.ex 0 (ae.1,b,()))) (ag,0,())) (λ_ =>aq) (λi a=>an (bU i 0) g) λ(r:aM)=>J r)
def K6(x:ab (O×ab O×O×ai×aj)×ab (O×ab O×O×ai×aj)×aj):au<|aM:=letI b:au aM:=J (af,());letI f:=x.2.1;letI g:=len x.1;letI h:=aO 0<|bc 2;letI j:=aO 1<|bc 2;aa (a2<|am g<|len f) (J (ag,())) (b? (bG (λ(ae:dt)=>letI c:=ae.2.1;letI d:=aO c<|len f;letI e:=aO c g;aa (aK c g) (an e<|an d<|ob (aa (a2<|am (ap x.1 (ah c) (0,[0,0],0,aI aN,())).1 (ap f (ah c) (0,[0,0],0,aI aN,())).1) b<|an e<|an h<|an d<|an h<|aa (a2<|am (ap (ap x.1 (ah c) (0,[0,0],0,aI aN,())).2.1 (ah 0) 0)<|ap (ap f (ah c) (0,[0,0],0,aI aN,())).2.1 (ah 0) 0) b<|an e<|an j<|an d<|an j<|aa (a2<|am (ap (ap x.1 (ah c) (0,[0,0],0,aI aN,())).2.1 (ah 1) 0)<|ap (ap f (ah c) (0,[0,0],0,aI aN,())).2.1 (ah 1) 0) b<|an e<|an d<|aa (a2<|am (ap x.1 (ah c) (0,[0,0],0,aI aN,())).2.2.1 (ap f (ah c) (0,[0,0],0,aI aN,())).2.2.1) b<|an e<|an d<|ob (nR ((ap x.1 (ah c) (0,[0,0],0,aI aN,())).2.2.2.1,(ap f (ah c) (0,[0,0],0,aI aN,())).2.2.2.1,())) λa=>J (a2 a.1,())) λ(a:aM)=>aa a.1 (J<|aL.rt (ag,()))<|some<|aL.nx (ae.1,i64<|aG c 1,())) (J<|aL.ex 0 (ae.1,c,()))) (ag,0,())) (λ_ =>aq) (λi a=>an (bU i 0)<|some (af,())) λ(r:aM)=>J r)
def Rh(x:pY×pY×aj):au<|aM:=letI g:=x.1.2.2.2.2;letI f:=x.2.1.2.2.2;letI c:au aM:=J (ag,());letI b:au aM:=J (af,());letI d:=f.2.2.2.2.2;letI e:=g.2.2.2.2.2;letI h:=d.2.2.2.2.2;letI i:=e.2.2.2.2;ob (Q7 (x.1.2.2.2.1,f.1,())) λa=>ob (Q1 (e.2.1,d.2.2.1,())) λa5=>ob (Q? (e.2.2.1,d.2.2.2.1,())) λbH=>ob (Qy (i.2.1,h.2.1,())) λbF=>ob (QX (i.2.2.1,h.2.2.1,())) λco=>ob (Rj (i.2.2.2.1,h.2.2.2.1,())) λdW=>ob (K6 (i.2.2.2.2.1,h.2.2.2.2.1,())) λig=>ob (aa (a2 a.1) b<|aa (a2 a5.1) b<|aa (a2 bH.1) b<|aa (a2 bF.1) b<|aa (a2 co.1) b<|aa (a2 dW.1) b<|aa (a2 ig.1) b<|ob (nR (x.1.2.1,x.2.1.2.1,())) λa=>aa (a2 a.1) b<|aa (a2<|df (am e.1.1 d.2.1.1)<|df (p2 (λ(p q:hw)=>am (cC p)<|cC q) e.1.2.1 d.2.1.2.1) af) b<|some (a2<|p2 (λ(p q:O)=>am p q) i.2.2.2.2.2.1 h.2.2.2.2.2.1,())) λ(a:aM)=>aa a.1 (J (ag,()))<|ob (aa (am x.1.1 x.2.1.1) (aa (am x.1.2.2.1 x.2.1.2.2.1) (aa (am g.1 f.2.1) (aa (am g.2.1 f.2.2.1) (aa (am g.2.2.1 f.2.2.2.1) (aa (am g.2.2.2.1 f.2.2.2.2.1) (aa (am g.2.2.2.2.1 d.1) (aa (am e.2.2.2.1 d.2.2.2.2.1) (J (am i.1 h.1,())) c) c) c) c) c) c) c) c) λ(a:aM)=>J (a.1,())
def KK(x:jy×jy×aj):au<|aM:=letI b:au aM:=J (af,());letI c:=(aI aN,aI aN,());letI e:=len x.1.2.1;letI f:=x.2.1.2.1;ob (aa (a2<|p7 x.1.1 x.2.1.1) b<|aa (a2<|p7 x.1.2.2.1 x.2.1.2.2.1) b<|some (a2<|am e<|len f,())) λ(a:aM)=>aa a.1 (J (ag,()))<|b? (bG (λ(ae:dt)=>letI d:=ae.2.1;letI g:=ap x.1.2.1 (ah d) c;letI h:=ap f (ah d) c;letI j:=aO d<|len f;aa (aK d e) (an (aO d e)<|an j<|ob (nR (g.1,h.1,())) λa=>ob (aa (a2 a.1) b<|an (aO d e)<|an j<|ob (nR (g.2.1,h.2.1,())) λa=>J (a2 a.1,())) λ(a:aM)=>aa a.1 (J<|aL.rt (ag,()))<|some<|aL.nx (ae.1,i64<|aG d 1,())) (J<|aL.ex 0 (ae.1,d,()))) (ag,0,())) (λ_ =>aq) (λi a=>an (bU i 0)<|some (af,())) λ(r:aM)=>J r
def F_(x:l6):au<|l6:=J ((x.1.1,x.1.2.1,hr,x.1.2.2.2.1,x.1.2.2.2.2.1,()),())
def Rx(x:bp):au<|bp:=letI d:=x.1.1.2;letI b:=d.2.2.2;letI c:=b.2.2.2;aa (a2<|am d.2.1 4) (J (x.1,())) (ob (F_ (c.2.2.2.1,())) λa=>J (((x.1.1.1,d.1,3,d.2.2.1,b.1,b.2.1,b.2.2.1,c.1,c.2.1,c.2.2.1,a.1,i4,c.2.2.2.2.2),x.1.2),()))
def o1(x:bp):au<|bp:=ob (o0 (x.1,13,())) λa=>J (a.1,())
def yk(x:pi):au<|ca:=ob (aav (x.1,x.2.1,())) λa=>ob (Gd (a.1,())) λa=>J (a.1,())
def CW(x:MV):au<|bp:=ob (yk (x.2.1,x.2.2.1,())) λa=>ob (ro (x.1,a.1,())) λa=>J (a.1,())
def Rz(x:pZ):au<|bp:=letI h:=x.2.1;letI g:=x.1.1;letI e:=g.2.2;letI b:au bp:=o1 (x.1,());letI c:=e.2.2.2;letI d:=h.2.2.2.2;letI f:=c.2.2.2;letI i:=f.2.2;ob (aa (am e.1 4) (J (am g.1 0,()))<|some (ag,())) λ(a:aM)=>aa a.1 (ob b λ(a:bp)=>J (a.1,()))<|ob (CV (g,d.1,d.2.1,())) λa=>ob (KI (a.1,())) λa5=>ob (nR (a5.1,d.2.2.1,())) λbH=>aa (a2 bH.1) (ob (CW (x.1,h,63,())) λa=>J (a.1,())) (aa (am d.1 i.1.1.1) (ob (CW (x.1,h,0,())) λa=>J (a.1,()))<|aa (am e.1 4) (ob (F_ (i.1,())) λbF=>ob (F9 (bF.1,d.1,a.1,())) λa=>aa (a2<|am a.2.1 0) (ob b λ(a:bp)=>J (a.1,()))<|ob (CW (((g.1,g.2.1,3,e.2.1,e.2.2.1,c.1,c.2.1,c.2.2.1,f.1,f.2.1,a.1,i4,i.2.2),x.1.2),h,0,())) λa=>J (a.1,()))<|ob (F9 (i.1,d.1,a.1,())) λa=>aa (a2<|am a.2.1 0) (ob b λ(a:bp)=>J (a.1,()))<|ob (CW (((g.1,g.2.1,e.1,e.2.1,e.2.2.1,c.1,c.2.1,c.2.2.1,f.1,f.2.1,a.1,i.2),x.1.2),h,0,())) λa=>J (a.1,()))
def CP(x:go×O×O×aj):au<|aM:=letI b:=J (ag,());ob (K3 (x.1,())) λa=>ob (aa (a2 a.1) (aa (am x.1.1 x.2.1) (J (am x.1.2.1 x.2.2.1,())) b) b) λ(a:aM)=>J (a.1,())
def Rw(x:pZ):au<|bp:=letI d:=x.1.1.2;letI e:=d.2.2;letI b:=e.2.2;letI c:=b.2.2.2;letI f:=c.2.2;ob (CP (f.2.1,x.2.1.2.1,x.2.1.2.2.1,())) λa=>ob (aa (a2<|am d.2.1 4) (J (af,()))<|some (a2 a.1,())) λ(a:aM)=>aa a.1 (ob (o1 (x.1,())) λa=>J (a.1,()))<|aa (a2<|am x.2.1.2.2.2.1 0) (ob (F_ (f.1,())) λa=>J (((x.1.1.1,d.1,3,e.1,e.2.1,b.1,b.2.1,b.2.2.1,c.1,c.2.1,a.1,i4,f.2.2),x.1.2),())) (ob (CN (f.1,())) λa=>ob (CT (((x.1.1.1,d.1,3,e.1,e.2.1,b.1,b.2.1,b.2.2.1,c.1,c.2.1,a.1,i4,f.2.2),x.1.2),(af,301,0,0,0,aI aN,aI aN,0,()),())) λa=>J (a.1,()))
def Av(x:GW):au<|GW:=letI a:=len x.1;an (df (cq 0 a a)<|am a a) (J (sub x.1 0 a,()))
def Cg(x:A?):au<|p1:=letI c:=x.1.2.2.2;letI e:=c.2.2.2.2;letI b:=e.2.2.2.2.2;letI d:=b.2.2.2;ob (wg (x.1.2.2.1,())) λa=>aa a.1 (ob (Av (d.2.2.1,())) λa=>ob (oV (x.1,())) λa5=>an (bO 128<|bB (aQ a.1)<|aQ [(5,a5.1,0,aI aN,())])<|some ((x.1.1,x.1.2.1,x.2.1,c.1,c.2.1,0,0,e.1,0,(0,tW,()),va,i4,b.1,b.2.1,aI ai,d.1,d.2.1,bb a.1 [(5,a5.1,0,aI aN,())],d.2.2.2),()))<|some ((x.1.1,x.1.2.1,x.2.1,c.1,c.2.1,0,0,e.1,0,(0,tW,()),va,i4,b.1,b.2.1,aI ai,d),())
def GC(x:bp):au<|bp:=aa (am x.1.1.2.2.1 8) (J (x.1,()))<|ob (Cg (x.1.1,8,())) λa=>J (((a.1.1,a.1.2.1,a.1.2.2.1,a.1.2.2.2.1, -1,0,0,0,0,(0,tW,()),va,i4,0,0,aI ai,Mp,aI<|Int×ai×aj,a.1.2.2.2.2.2.2.2.2.2.2.2.2.2.2.2.2.2.1,[0,0,0,0],()),x.1.2),())
def LP(x:cK):au<|cg:=ob (aa (aK x.1 1) (J (af,()))<|some (aK 4611686018427387904 x.1,())) λ(a:aM)=>aa a.1 (J (aI aN,1,()))<|ob (qU (x.1,8,())) λa=>an (bO 1<|bB (aQ [u8 121,u8 101,u8 116,u8 116])<|aQ a.1) (ob (GB (bb [u8 121,u8 101,u8 116,u8 116] a.1,())) λa5=>letI b:=cut a5.1 (ah 0)<|cy (ah 8)<|ah 0;an (cq 0 8<|len a5.1) (an (bO 1<|bB (aQ a.1)<|aQ b)<|some (bb a.1 b,0,())))
def LO(x:ca):au<|j4:=ob (mx (x.1,0,8,())) λa=>aa (a2<|am a.2.2.1 0) (J (0,ag,()))<|ob (LP (a.1,())) λa5=>ob (aa (a2<|am a5.2.1 0) (J (af,()))<|ob (Eb (a5.1,x.1,())) λa=>J (a2 a.1,())) λ(bH:aM)=>aa bH.1 (J (0,ag,())) (J (a.1,af,()))
def abb(x:O×O×aE×aE×aj):au<|j4:=ob (aa x.2.2.2.1 (aa (a2 x.2.2.1) (J (af,()))<|some (aK x.1 x.2.1,()))<|some (ag,())) λ(a:aM)=>aa a.1 (J (1,af,()))<|some (0,x.2.2.1,())
def LN(x:GQ):au<|GR:=ob (LO (x.1.1,())) λa=>ob (LO (x.1.2.1,())) λa5=>ob (abb (a.1,a5.1,a.2.1,a5.2.1,())) λbH=>ob (aa (am bH.1 1) (J (a5.1,()))<|some (a.1,())) λ(a:cK)=>J (a.1,bH.1,bH.2.1,())
def GG(x:tbb):au<|ca:=letI d:=len x.1;letI e:=aI aN;b? (bG (λ(ae:ek)=>letI h:=ae.2.1;letI c:=aG ae.1<|len<|ap x.1 (ah h) e;aa (aK h d) (an (aO h d)<|aa (aK (i64 c) 0) aq<|some<|aL.nx (i64 c,i64<|aG h 1,())) (J<|aL.ex 0 (ae.1,h,()))) (0,0,())) (λ_ =>aq) (λi a=>letI b:=i64<|bw a.1<|i64<|bw 0 0;letI j:=cb (ah b)<|u8 0;an (bU i 0) (aa (aK a.1 0) aq<|aa (aK 0 b) (an (cq 0 0 0)<|an (df (bL 0 b)<|bO 1<|ah b)<|an (cq 0 0<|len j)<|b? (bG (λ(ae:cg)=>letI f:=ae.2.1;letI k:=ap x.1 (ah f) e;aa (aK f d) (an (aO f d)<|an (bO 1<|bB (aQ ae.1)<|aQ k)<|some<|aL.nx (bb ae.1 k,i64<|aG f 1,())) (J<|aL.ex 2 (ae.1,f,()))) (cut j (ah 0)<|cy (ah 0)<|ah 0,0,())) (λ_ =>aq) (λi a=>an (bU i 2)<|some (a.1,())) λ(r:ca)=>J r)<|b? (bG (λ(ae:cg)=>letI g:=ae.2.1;letI l:=ap x.1 (ah g) e;aa (aK g d) (an (aO g d)<|an (bO 1<|bB (aQ ae.1)<|aQ l)<|some<|aL.nx (bb ae.1 l,i64<|aG g 1,())) (J<|aL.ex 2 (ae.1,g,()))) (aI aN,0,())) (λ_ =>aq) (λi a=>an (bU i 2)<|some (a.1,())) λ(r:ca)=>J r)) λ(r:ca)=>J r
def SO(x:(ai×ai×aj)×O×aj):au<|SZ:=letI b:=x.1.2;letI e:=len x.1.1;letI f:=len b.1;ob (LN (x.1,())) λa=>aa (a2 a.2.2.1) (J (x.1,0,12,()))<|ob (LP (i64<|aG a.1 1,())) λa5=>aa (a2<|am a5.2.1 0) (J (x.1,0,10,())) (ob (aa (bL 0 x.2.1) (J (aK x.2.1 16,()))<|some (ag,())) λ(bH:aM)=>ob (aa (a2 bH.1) (J (16,()))<|some (x.2.1,())) λ(bF:cK)=>letI c:=cq 0 bF.1<|len a5.1;letI d:=cy (ah bF.1)<|ah 0;aa (am a.2.1 0) (an c<|an (cq bF.1 f f)<|ob (GG ([cut a5.1 (ah 0) d,sub b.1 bF.1 f],())) λco=>aa bH.1 (J ((x.1.1,co.1,b.2),0,11,()))<|some ((x.1.1,co.1,b.2),a.1,0,())) (an c<|an (cq bF.1 e e)<|ob (GG ([cut a5.1 (ah 0) d,sub x.1.1 bF.1 e],())) λco=>aa bH.1 (J ((co.1,b),0,11,()))<|some ((co.1,b),a.1,0,())))
def LF(x:bp):au<|yR:=letI b:=x.1.1.2;letI d:=b.2.2.2;ob (SO (b.2.2.1,d.1,())) λa=>letI c:=a.2.2.1;aa (am c 0) (J (((x.1.1.1,b.1,b.2.1,a.1, -1,d.2),x.1.2),a.2.1,c,())) (aa (am c 11) (ob (GC (((x.1.1.1,b.1,b.2.1,a.1,d),x.1.2),())) λa5=>J (a5.1,a.2.1,c,()))<|some (((x.1.1.1,b.1,b.2.1,a.1,d),x.1.2),a.2.1,c,()))
def uY(x:dm):au<|bp:=ob (Cg (x.1.1,x.2.1,())) λa=>J ((a.1,x.1.2),())
def GD(x:dm):au<|bp:=ob (Dg (x.1,(af,x.2.1,0,0,0,aI aN,aI aN,0,()),())) λa=>J (a.1,())
def LE(x:bp):au<|dm:=ob (aa (am x.1.1.2.2.1 7) (J (af,()))<|some (am x.1.1.2.2.1 8,())) λ(a:aM)=>aa a.1 (J (x.1,11,()))<|ob (LF (x.1,())) λa=>aa (a2<|am a.2.2.1 0) (J (a.1,a.2.2.1,())) (ob (uY (a.1,1,())) λa5=>letI b:=a5.1.1.2;ob (GD (((a5.1.1.1,b.1,b.2.1,b.2.2.1,b.2.2.2.1,a.2.1,b.2.2.2.2.2),a5.1.2),1,())) λa=>J (a.1,0,()))
def SC(x:bp):au<|dm:=letI c:=x.1.1.2.2;letI b:=c.2.2.2.2;letI d:=b.2.2.2.2;ob (ss (c.1,4,())) λa=>aa (am c.1 6) (J (x.1,9,()))<|aa (a2 a.2.1) (J (x.1,7,())) (aa (am a.1 0) (ob (uY (x.1,a.1,())) λa=>J (a.1,0,()))<|ob (Lo (d.1,())) λa5=>ob (GD (((x.1.1.1,x.1.1.2.1,a.1,c.2.1,c.2.2.1,c.2.2.2.1,b.1,b.2.1,b.2.2.1,b.2.2.2.1,a5.1,d.2.1,d.2.2.1,d.2.2.2.1,aI ai,d.2.2.2.2.2),x.1.2),2,())) λa=>J (a.1,0,()))
def Sy(x:bp):au<|dm:=ob (z5 (x.1.1.2.2.1,())) λa=>aa (a2 a.1) (J (x.1,7,()))<|aa (a2<|am x.1.1.2.2.2.2.2.2.2.2.2.2.2.1.1 0) (J (x.1,9,())) (ob (GD (x.1,301,())) λa=>J (a.1,0,()))
def u0(x:dm):au<|bp:=ob (ss (x.1.1.2.2.1,x.2.1,())) λa=>J (((x.1.1.1,x.1.1.2.1,a.1,x.1.1.2.2.2),x.1.2),())
def Sx(x:bp):au<|bp:=ob (LN (x.1.1.2.2.2.1,())) λa=>aa a.2.2.1 (ob (u0 (x.1,11,())) λa=>J (a.1,()))<|ob (u0 (x.1,12,())) λa=>J (a.1,())
def LG(x:dm):au<|bp:=letI e:=x.1.1;letI c:=e.2.2.2;letI b:=c.2.2.2.2.2;letI d:=b.2.2.2.2.2;ob (Av (d.2.2.2.2.1,())) λa=>ob (oV (e,())) λa5=>an (bO 128<|bB (aQ a.1)<|aQ [(x.2.1,a5.1,0,aI aN,())])<|some (((e.1,e.2.1,e.2.2.1,c.1,c.2.1,c.2.2.1,c.2.2.2.1,c.2.2.2.2.1,b.1,b.2.1,b.2.2.1,b.2.2.2.1,b.2.2.2.2.1,d.1,d.2.1,d.2.2.1,d.2.2.2.1,bb a.1 [(x.2.1,a5.1,0,aI aN,())],d.2.2.2.2.2),x.1.2),())
def Sz(x:bp):au<|bp:=aa (a2<|am x.1.1.2.2.1 2) (J (x.1,()))<|ob (u0 (x.1,3,())) λa=>ob (LG (a.1,4,())) λa=>J (a.1,())
def SA(x:bp):au<|bp:=letI c:au<|bp:=J (x.1,());letI b:au<|bp:=ob (uY (x.1,0,())) λa=>J (a.1,());letI d:=x.1.1.2.2.1;aa (am d 1) (aa (am d 1) b c) (aa (am d 3) (aa (am d 3) b c)<|aa (am d 6) b c)
def LI(x:pZ):au<|bp:=ob (sk (x.2.1,0,())) λa=>ob (ra (a.1,())) λa=>ob (oW (x.1,a.1,())) λa=>J (a.1,())
def uZ(x:bp):au<|bp:=ob (lx (x.1,13,())) λa=>J (a.1,())
def SB(x:pZ):au<|bp:=letI f:=x.1.1.2;letI e:=x.2.1;letI d:=f.2.2.2.2;letI g:=d.2.2.2;letI c:au bp:=uZ (x.1,());letI b:au aM:=yY (g.2.2.2.1,e.2.1,e.2.2.1,());letI h:=LI (x.1,e,());aa (am e.2.1 301) (aa e.1 (ob h λ(a:bp)=>J (a.1,()))<|ob b λ(a:aM)=>aa a.1 (J (((x.1.1.1,f.1,f.2.1,f.2.2.1,f.2.2.2.1,d.1,d.2.1,d.2.2.1,g.1,g.2.1,g.2.2.1,i4,g.2.2.2.2),x.1.2),()))<|ob c λ(a:bp)=>J (a.1,())) (aa (am e.2.1 2) (aa e.1 (ob h λ(a:bp)=>ob (uY (a.1,0,())) λa=>J (a.1,()))<|ob b λ(a:aM)=>aa a.1 (ob (uY (x.1,0,())) λa=>J (a.1,()))<|ob c λ(a:bp)=>J (a.1,()))<|ob c λ(a:bp)=>J (a.1,()))
def LK(x:MV):au<|bp:=ob (sk (x.2.1,0,())) λa=>ob (ra (a.1,())) λa=>ob (Fk (x.1,x.2.2.1,a.1,())) λa=>J (a.1,())
def R4(x:ca):au<|l5:=aa (a2<|am (len x.1) 32) (J (va,1,()))<|some (((1,x.1,()),hr,hr,0,1,()),0,())
def GE(x:yR):au<|bp:=letI d:=x.1.1.2;letI b:=d.2.2;letI c:=b.2.2.2.2;letI e:=x.2.2.1;ob (oV ((x.1.1.1,d.1,d.2.1,b.1,b.2.1,x.2.1,e,dk c.1 e,c.2),())) λa=>ob (Cf (d.1,a.1,1,aI aN,())) λa=>ob (R4 (a.1,())) λa=>J (((x.1.1.1,d.1,d.2.1,b.1,b.2.1,x.2.1,e,dk c.1 e,c.2.1,c.2.2.1,a.1,c.2.2.2.2),x.1.2),())
def SF(x:MV):au<|bp:=letI e:=J (af,());letI c:=x.1.1.2.2;letI b:au aM:=aa (am c.1 7) e<|some (am c.1 8,());letI d:=x.2.2.1;letI f:=uZ (x.1,());ob (aa (am c.1 1) (aa (am x.1.1.1 0) e b) b) λ(a:aM)=>aa a.1 (ob f λ(a:bp)=>J (a.1,()))<|ob (wg (c.1,())) λa=>ob (aa a.1 (J (am c.2.2.2.2.1 d,()))<|some (ag,())) λ(a:aM)=>aa a.1 (ob (LK (x.1,x.2.1,d,())) λa=>J (a.1,())) (aa (bL d c.2.2.2.2.2.1) (ob f λ(a:bp)=>J (a.1,()))<|ob (LF (x.1,())) λa=>aa (am a.2.2.1 0) (ob (uY (a.1,2,())) λa5=>ob (GE (a5.1,a.2.1,d,())) λa=>ob (LK (a.1,x.2.1,d,())) λa=>J (a.1,()))<|aa (am a.2.2.1 11) (J (a.1,()))<|ob (uZ (a.1,())) λa=>J (a.1,()))
def SE(x:dm):au<|bp:=ob (GE (x.1,x.1.1.2.2.2.2.2.1,x.2.1,())) λa=>ob (u0 (a.1,1,())) λa=>letI d:=a.1.1.2;letI b:=d.2.2.2;letI c:=b.2.2.2;ob (LG (((a.1.1.1,d.1,d.2.1,d.2.2.1,b.1,b.2.1,b.2.2.1,c.1,c.2.1,c.2.2.1,c.2.2.2.1,i4,c.2.2.2.2.2),a.1.2),4,())) λa=>ob (GD (a.1,301,())) λa=>J (a.1,())
def LD(x:eK×d6×eb×aj):au<|bp:=letI f:=x.1.1;letI b:au aM:=J (ag,());letI c:=i64<|bw 1 f.1;letI d:=x.2.1.2.2.1;letI e:=x.2.2.1;letI g:=ap d (ah f.1) 0;letI h:=uZ (x.1,());an (aO c<|bc 2) (an (aO f.1<|bc 2)<|ob (aa (a2<|am e.2.1 1) (J (af,()))<|some (aK (ap d (ah c) 0) 1,())) λ(a:aM)=>aa a.1 (ob h λ(a:bp)=>J (a.1,()))<|ob (aa e.1 (J (am g 0,())) b) λ(a:aM)=>aa a.1 (ob (SF (x.1,e,ap d (ah c) 0,())) λa=>J (a.1,()))<|ob (aa (a2 e.1) (aa (am e.2.2.2.1 0) (aa (am f.2.2.1 1) (aa (am g f.2.2.2.2.2.1) (ob (yY (f.2.2.2.2.2.2.2.2.2.2.2.1,e.2.1,e.2.2.1,())) λa=>J (a.1,())) b) b) b) b) λ(a:aM)=>aa a.1 (ob (SE (x.1,ap d (ah c) 0,())) λa=>J (a.1,()))<|ob h λ(a:bp)=>J (a.1,()))
def CQ(x:pY×O×ab O×O×ai×aj):au<|p1:=letI d:=x.1.2.2.2.2;letI a:=d.2.2.2.2.2;letI b:=aI<|Int×ab O×O×ai×aj;letI c:=a.2.2.2.2.2;letI e:=x.2.2;letI f:=c.2.2.2;an (bO 128<|bB (aQ b)<|aQ f.1) (an (bO 128<|bB (aQ<|bb b f.1)<|aQ [(x.2.1,e.1,e.2.1,e.2.2.1,())])<|some ((x.1.1,x.1.2.1,x.1.2.2.1,x.1.2.2.2.1,d.1,d.2.1,d.2.2.1,d.2.2.2.1,d.2.2.2.2.1,a.1,a.2.1,a.2.2.1,a.2.2.2.1,a.2.2.2.2.1,c.1,c.2.1,c.2.2.1,bb (bb b f.1) [(x.2.1,e.1,e.2.1,e.2.2.1,())],f.2),()))
def CR(x:A?):au<|p1:=letI d:=x.1.2.2;letI c:=d.2.2.2.2.2.2.2.2.2.2;ob (ww (d.1,())) λa=>aa a.1 (ob (qm (x.1,())) λa=>ob (CQ (x.1,5,a.1,0,aI aN,())) λa=>letI e:=a.1.2.2.2;letI b:=e.2.2.2.2.2.2.2.2.2;J ((a.1.1,a.1.2.1,x.2.1,e.1,e.2.1,0,0,e.2.2.2.2.1,0,(0,tW,()),va,i4,b.1,b.2.1,aI ai,b.2.2.2),()))<|some ((x.1.1,x.1.2.1,x.2.1,d.2.1,d.2.2.1,0,0,d.2.2.2.2.2.1,0,(0,tW,()),va,i4,c.1,c.2.1,aI ai,c.2.2.2),())
def Gg(x:bp):au<|bp:=aa (am x.1.1.2.2.1 8) (J (x.1,()))<|ob (CR (x.1.1,8,())) λa=>J (((a.1.1,a.1.2.1,8,a.1.2.2.2.1, -1,0,0,0,0,(0,tW,()),va,i4,0,0,aI ai,Mp,aI<|Int×ai×aj,a.1.2.2.2.2.2.2.2.2.2.2.2.2.2.2.2.2.2.1,[0,0,0,0],()),x.1.2),())
def KZ(x:ca):au<|j4:=letI b:au<|j4:=J (0,ag,());aa (a2<|am (len x.1) 16) b (ob (KC (x.1,0,8,())) λa=>aa (a2<|am a.2.2.1 0) b<|ob (Gc (a.1,())) λa5=>ob (aa (a2<|am a5.2.1 0) (J (af,()))<|ob (nR (a5.1,x.1,())) λa=>J (a2 a.1,())) λ(bH:aM)=>aa bH.1 b<|some (a.1,af,()))
def KY(x:GQ):au<|GR:=ob (KZ (x.1.1,())) λa=>ob (KZ (x.1.2.1,())) λa5=>ob (aa a5.2.1 (aa (a2 a.2.1) (J (af,()))<|some (aK a.1 a5.1,()))<|some (ag,())) λ(bH:aM)=>aa bH.1 (J (a5.1,1,af,()))<|some (a.1,0,a.2.1,())
def Q8(x:(ai×ai×aj)×O×aj):au<|SZ:=letI f:=x.1.2;ob (KY (x.1,())) λa=>aa (a2 a.2.2.1) (J (x.1,0,12,()))<|aa (am a.1 4611686018427387904) (J (x.1,0,10,())) (ob (Gc (i64<|aG a.1 1,())) λa5=>ob (aa (bL 0 x.2.1) (J (aK x.2.1 16,()))<|some (ag,())) λ(bH:aM)=>ob (aa bH.1 (J (x.2.1,()))<|some (16,())) λ(bF:cK)=>letI d:=cut a5.1 (ah 0)<|cy (ah bF.1)<|ah 0;letI b:=bb (aI aN) d;ob (aa (am a.2.1 1) (J (x.1.1,()))<|some (f.1,())) λ(co:ca)=>letI e:=len co.1;letI c:=sub co.1 bF.1 e;an (cq 0 bF.1<|len a5.1) (an (bO 1<|bB (aQ<|aI aN)<|aQ d)<|an (cq bF.1 e e)<|an (bO 1<|bB (aQ b)<|aQ c)<|aa (am a.2.1 1) (aa (aK bF.1 16) (J ((bb b c,f),0,11,()))<|some ((bb b c,f),a.1,0,()))<|aa (aK bF.1 16) (J ((x.1.1,bb b c,f.2),0,11,()))<|some ((x.1.1,bb b c,f.2),a.1,0,())))
def K8(x:bp):au<|yR:=letI b:=x.1.1.2;ob (Q8 (b.2.2.1,b.2.2.2.1,())) λa=>letI c:=a.2.2.1;aa (am c 11) (ob (Gg (((x.1.1.1,b.1,b.2.1,a.1,b.2.2.2),x.1.2),())) λa5=>J (a5.1,0,c,())) (aa (a2<|am c 0) (J (x.1,0,c,()))<|some (((x.1.1.1,b.1,b.2.1,a.1, -1,b.2.2.2.2),x.1.2),a.2.1,0,()))
def yl(x:dm):au<|bp:=ob (CR (x.1.1,x.2.1,())) λa=>J ((a.1,x.1.2),())
def CU(x:dm):au<|bp:=ob (CT (x.1,(af,x.2.1,0,0,0,aI aN,aI aN,0,()),())) λa=>J (a.1,())
def Gh(x:bp):au<|dm:=ob (aa (am x.1.1.2.2.1 7) (J (af,()))<|some (am x.1.1.2.2.1 8,())) λ(a:aM)=>aa a.1 (J (x.1,11,()))<|ob (K8 (x.1,())) λa=>aa (a2<|am a.2.2.1 0) (J (a.1,a.2.2.1,())) (ob (yl (a.1,1,())) λa5=>letI b:=a5.1.1.2;ob (CU (((a5.1.1.1,b.1,b.2.1,b.2.2.1,b.2.2.2.1,a.2.1,b.2.2.2.2.2),a5.1.2),1,())) λa=>J (a.1,0,()))
def Rr(x:bp):au<|dm:=letI b:au aM:=J (af,());letI c:=x.1.1.2.2;letI e:=c.2.2.2;letI d:=e.2.2.2;letI f:=d.2.2.2;ob (aa (am c.1 0) b<|aa (am c.1 7) b<|some (am c.1 8,())) λ(a:aM)=>aa a.1 (J (x.1,7,()))<|aa (am c.1 6) (J (x.1,9,())) (ob (aa (am c.1 1) b<|some (am c.1 2,())) λ(a:aM)=>aa a.1 (ob (yl (x.1,0,())) λa=>J (a.1,0,()))<|ob (F_ (d.2.2.1,())) λa=>ob (CU (((x.1.1.1,x.1.1.2.1,6,c.2.1,c.2.2.1,e.1,e.2.1,e.2.2.1,d.1,d.2.1,a.1,f.1,f.2.1,f.2.2.1,aI ai,f.2.2.2.2),x.1.2),2,())) λa=>J (a.1,0,()))
def Rm(x:bp):au<|dm:=ob (Ad (x.1.1.2.2.1,())) λa=>aa (a2 a.1) (J (x.1,7,()))<|aa (a2<|am x.1.1.2.2.2.2.2.2.2.2.2.2.2.1.1 0) (J (x.1,9,())) (ob (CU (x.1,301,())) λa=>J (a.1,0,()))
def Rl(x:bp):au<|bp:=letI b:=x.1.1.2;aa (a2<|am b.2.1 8) (J (x.1,())) (ob (KY (b.2.2.1,())) λa=>aa a.2.2.1 (J (((x.1.1.1,b.1,0,b.2.2),x.1.2),()))<|some (((x.1.1.1,b.1,7,b.2.2),x.1.2),()))
def K9(x:dm):au<|bp:=ob (qm (x.1.1,())) λa=>ob (CQ (x.1.1,x.2.1,a.1,0,aI aN,())) λa=>J ((a.1,x.1.2),())
def Rn(x:bp):au<|bp:=aa (a2<|am x.1.1.2.2.1 2) (J (x.1,()))<|ob (K9 (((x.1.1.1,x.1.1.2.1,3,x.1.1.2.2.2),x.1.2),4,())) λa=>J (a.1,())
def Ro(x:bp):au<|bp:=letI b:=x.1.1.2.2.1;letI c:=J (af,());ob (aa (am b 1) c<|aa (am b 3) c<|some (am b 6,())) λ(a:aM)=>aa a.1 (ob (yl (x.1,0,())) λa=>J (a.1,()))<|some (x.1,())
def Rq(x:pZ):au<|bp:=letI g:=x.1.1.2;letI f:=x.2.1;letI d:au aM:=J (am f.2.1 2,());letI c:au aM:=J (am f.2.1 301,());letI b:au aM:=J (ag,());letI e:=g.2.2.2.2;letI h:=e.2.2.2;ob (CP (h.2.2.2.1,f.2.1,f.2.2.1,())) λa=>ob (aa f.1 c b) λ(a5:aM)=>aa a5.1 (ob (yk (f,0,())) λa=>ob (ro (x.1,a.1,())) λa=>J (a.1,()))<|ob (aa f.1 d b) λ(bH:aM)=>aa bH.1 (ob (yk (f,0,())) λa=>ob (ro (x.1,a.1,())) λa=>ob (yl (a.1,0,())) λa=>J (a.1,())) (ob (aa (a2 f.1) (aa a.1 c b) b) λ(bF:aM)=>aa bF.1 (J (((x.1.1.1,g.1,g.2.1,g.2.2.1,g.2.2.2.1,e.1,e.2.1,e.2.2.1,h.1,h.2.1,h.2.2.1,i4,h.2.2.2.2),x.1.2),()))<|ob (aa (a2 f.1) (aa a.1 d b) b) λ(a:aM)=>aa a.1 (ob (yl (x.1,0,())) λa=>J (a.1,()))<|ob (o1 (x.1,())) λa=>J (a.1,()))
def Iv(x:pT):au<|aM:=letI c:au<|aM:=J (af,());letI b:au<|aM:=J (ag,());ob (Jz (x.1.1,())) λa=>aa (am a.1 1) (aa (am a.1 1) c b)<|aa (am a.1 2) (aa (am a.1 2) c b) (aa (am a.1 4) c b)
def EJ(x:pT):au<|aM:=ob (sb (x.1,39,())) λa=>ob (aa a.2.1 (J (seq a.1 [57,49],()))<|some (ag,())) λ(a:aM)=>J (a.1,())
def OO(x:cg):au<|cg:=letI b:au aM:=J (af,());ob (Ff (x.1,())) λa=>ob (aa (aK x.2.1 0) b<|aa (aK 999999 x.2.1) b<|aa (a2<|am a.2.1 0) b<|ob (Iv (a.1,())) λa5=>aa (a2 a5.1) b<|ob (EJ (a.1,())) λa=>J (a.1,())) λ(a5:aM)=>aa a5.1 (J (aI aN,1,()))<|ob (vG (x.2.1,6,())) λbH=>an (bO 1<|aQ bH.1) (ob (k8 (a.1,15,bH.1,())) λa=>ob (Ca (a.1,())) λa=>aa (aK 900<|len a.1) (J (aI aN,4,()))<|some (a.1,0,()))
def Qt(x:tbb):au<|ai×ab ai×aE×aj:=letI b:=len x.1;aa (am b 0) (J (aI aN,x.1,ag,())) (an (aO 0 b)<|an (cq 1 b b)<|ob (anF (sub x.1 1 b,())) λa=>J (ap x.1 (ah 0)<|aI aN,a.1,af,()))
def ln(x:bp):au<|bp:=b? (bG (λ(x:bp)=>letI e:=J<|aL.ex 0 (x.1,());ob (Qt (x.1.1.2.2.2.2.2.2.2.2.2.2.2.2.2.2.1,())) λa=>aa (a2 a.2.2.1) e (ob (oW (x.1,a.1,())) λa5=>letI c:=a5.1.1.2.2;letI b:=c.2.2.2.2;letI d:=b.2.2.2.2;aa (a2<|am a5.2.1 0) e (J<|aL.nx (((a5.1.1.1,a5.1.1.2.1,c.1,c.2.1,c.2.2.1,c.2.2.2.1,b.1,b.2.1,b.2.2.1,b.2.2.2.1,d.1,d.2.1,d.2.2.1,d.2.2.2.1,a.2.1,d.2.2.2.2.2),a5.1.2),())))) (x.1,())) (λ_ =>aq) (λi a=>an (bU i 0)<|some (a.1,())) λ(r:bp)=>J r
def Qs(x:ab ai×ai×O×aj):au<|SW:=ob (Kt (x.1,[x.2.1],x.2.2.1,())) λa=>ob (aa (am a.2.2.1 0) (J (am a.2.1 0,()))<|some (ag,())) λ(a5:aM)=>aa a5.1 (J (x.1,8,()))<|some (a.1,a.2.2.1,())
def Iu(x:eK×O×O×ai×aj):au<|bp:=letI e:=x.1.1;letI c:=e.2.2.2;letI b:=c.2.2.2.2.2;letI d:=b.2.2.2.2.2;ob (Av (d.2.2.2.2.1,())) λa=>ob (oV (e,())) λa5=>an (bO 128<|bB (aQ a.1)<|aQ [(x.2.1,a5.1,x.2.2.1,x.2.2.2.1,())])<|some (((e.1,e.2.1,e.2.2.1,c.1,c.2.1,c.2.2.1,c.2.2.2.1,c.2.2.2.2.1,b.1,b.2.1,b.2.2.1,b.2.2.2.1,b.2.2.2.2.1,d.1,d.2.1,d.2.2.1,d.2.2.2.1,bb a.1 [(x.2.1,a5.1,x.2.2.1,x.2.2.2.1,())],d.2.2.2.2.2),x.1.2),())
def OP(x:t3):au<|dm:=letI c:=x.1.1.2.2;letI b:=c.2.2.2.2.2;letI d:=b.2.2.2.2;ob (OO (x.2.1,d.2.2.1,())) λa=>aa (a2<|am a.2.1 0) (J (x.1,a.2.1,()))<|ob (z5 (c.1,())) λa5=>aa (a2 a5.1) (J (x.1,7,())) (ob (Qs (d.2.2.2.1,a.1,8,())) λbH=>aa (a2<|am bH.2.1 0) (J (x.1,bH.2.1,()))<|ob (Iu (((x.1.1.1,x.1.1.2.1,c.1,c.2.1,c.2.2.1,c.2.2.2.1,c.2.2.2.2.1,b.1,b.2.1,b.2.2.1,b.2.2.2.1,d.1,d.2.1,d.2.2.1,bH.1,d.2.2.2.2),x.1.2),1,0,a.1,())) λa=>ob (ln (a.1,())) λa=>J (a.1,0,()))
def OM(x:dm):au<|dm:=letI b:=x.1.1.2.2;letI c:=b.2.2.2.2.2.2.2.2.2;letI d:=J (af,());ob (aa (bL x.2.1 c.2.2.1) d<|some (aK 999999 x.2.1,())) λ(a:aM)=>aa a.1 (J (x.1,1,()))<|ob (z5 (b.1,())) λa=>aa (a2 a.1) (J (x.1,7,())) (ob (aa (a2<|am b.1 3) d<|some (a2<|am c.1.1 0,())) λ(a:aM)=>aa a.1 (J (x.1,9,()))<|ob (ss (b.1,7,())) λa=>ob (Dg (((x.1.1.1,x.1.1.2.1,a.1,b.2),x.1.2),(af,201,0,0,0,aI aN,aI aN,x.2.1,()),())) λa=>J (a.1,0,()))
def EI(x:bp):au<|bp:=letI d:=x.1.1.2;letI b:=d.2.2.2;letI c:=b.2.2.2;ob (ss (d.2.1,8,())) λa=>J (((x.1.1.1,d.1,a.1,d.2.2.1,b.1,b.2.1,b.2.2.1,c.1,c.2.1,c.2.2.1,c.2.2.2.1,i4,c.2.2.2.2.2),x.1.2),())
def ON(x:bp):au<|bp:=aa (a2<|am x.1.1.2.2.1 5) (J (x.1,()))<|ob (EI (x.1,())) λa=>J (a.1,())
def WQ(x:pZ):au<|bp:=letI c:=x.1.1.2.2;letI b:=c.2.2.2.2;letI d:=b.2.2.2.2;ob (sk (x.2.1,0,())) λa=>ob (ra (a.1,())) λa=>ob (oW (((x.1.1.1,x.1.1.2.1,c.1,c.2.1,c.2.2.1,c.2.2.2.1,b.1,b.2.1,b.2.2.1,b.2.2.2.1,d.1,d.2.1,d.2.2.1,dk d.2.2.2.1 x.2.1.2.2.2.2.2.2.2.1,d.2.2.2.2),x.1.2),a.1,())) λa=>J (a.1,())
def OL(x:pZ):au<|bp:=letI c:=x.1.1.2.2;letI b:=c.2.2.2.2.2;letI d:=b.2.2.2.2;ob (aa (a2<|am c.1 5) (J (af,()))<|ob (yY (d.1,x.2.1.2.1,x.2.1.2.2.1,())) λa=>J (a2 a.1,())) λ(a:aM)=>aa a.1 (ob (lx (x.1,13,())) λa=>J (a.1,()))<|ob (FB (d.1.2.2.2.2.1,())) λa=>aa (am x.2.1.2.2.2.1 0) (ob (EI (((x.1.1.1,x.1.1.2.1,c.1,c.2.1,c.2.2.1,c.2.2.2.1,c.2.2.2.2.1,b.1,b.2.1,b.2.2.1,b.2.2.2.1,d.1,d.2.1,dk d.2.2.1 a.1.2.2.2.2.2.2.2.1,d.2.2.2),x.1.2),())) λa=>J (a.1,())) (ob (EI (x.1,())) λa=>J (a.1,()))
def WT(x:Dm):au<|cK:=aa x.1 (J (x.2.1,()))<|some (x.2.2.1,())
def OR(x:pT):au<|aM:=letI b:au aM:=ob (EJ (x.1,())) λa=>J (a.1,());letI c:=cY (i64<|de x.1.1 10) 10;ob (aa (am c 1) b<|aa (am c 3) b<|some (ag,())) λ(a:aM)=>J (a.1,())
def OQ(x:eK×(O×ab (O×ai×aj)×aj)×aj):au<|bp:=ob (Ps (x.2.1.1,())) λa=>aa (a2 a.2.1) (ob (lx (x.1,13,())) λa=>J (a.1,()))<|ob (k8 ((a.1,aI<|Int×ai×aj,()),39,[u8 57,u8 49],())) λa=>ob (sb (x.2.1,11,())) λa5=>aa a5.2.1 (ob (k8 (a.1,11,a5.1,())) λa=>ob (Ca (a.1,())) λa=>ob (oW (x.1,a.1,())) λa=>J (a.1,())) (ob (Ca (a.1,())) λa=>ob (oW (x.1,a.1,())) λa=>J (a.1,()))
def It(x:acR):au<|bp:=ob (Iv (x.2.2.1,())) λa=>aa (a2 a.1) (ob (lx (x.1,13,())) λa=>J (a.1,()))<|ob (z5 (x.1.1.2.2.1,())) λa=>aa a.1 (ob (OR (x.2.2.1,())) λa=>ob (WT (a.1,3,2,())) λa=>ob (Iu (x.1,a.1,x.2.1.2.2.2.2.1,x.2.1.2.2.2.2.2.1,())) λa=>J (a.1,())) (aa (am x.1.1.2.2.1 6) (ob (OQ (x.1,x.2.2.1,())) λa=>J (a.1,()))<|ob (lx (x.1,13,())) λa=>J (a.1,()))
def K'(x:pT):au<|aM:=letI b:=J (af,());ob (KQ (x.1.1,())) λa=>ob (aa (am a.1 1) b<|aa (am a.1 2) b<|some (am a.1 4,())) λ(a:aM)=>J (a.1,())
def La(x:pT):au<|aM:=ob (yh (x.1,39,())) λa=>ob (aa a.2.1 (J (seq a.1 [57,49],()))<|some (ag,())) λ(a:aM)=>J (a.1,())
def RG(x:cg):au<|cg:=letI b:au aM:=J (af,());ob (KR (x.1,())) λa=>ob (K' (a.1,())) λa5=>ob (La (a.1,())) λbH=>ob (aa (aK x.2.1 0) b<|aa (aK 999999 x.2.1) b<|aa (a2<|am a.2.1 0) b<|aa (a2 a5.1) b<|some (bH.1,())) λ(bF:aM)=>aa bF.1 (J (aI aN,1,()))<|ob (wu (x.2.1,6,())) λco=>an (bO 1<|aQ co.1) (ob (KS (a.1,15,co.1,())) λa=>ob (wv (a.1,())) λa=>aa (aK 900<|len a.1) (J (aI aN,4,()))<|some (a.1,0,()))
def Ai(x:bp):au<|bp:=b? (bG (λ(x:bp)=>letI b:=x.1.1.2.2.2.2.2.2.2.2.2.2.2.2.2.2.1;letI f:=sub b 1<|len b;aa (aK 0<|len b) (an (aO 0<|len b) (ob (ro (x.1,ap b (ah 0)<|aI aN,())) λa=>letI d:=a.1.1.2.2;letI c:=d.2.2.2.2;letI e:=c.2.2.2.2;aa (a2<|am a.2.1 0) (J<|aL.rt (x.1,())) (an (cq 1 (len b)<|len b)<|an (bO 32<|bB (aQ<|aI ai)<|aQ f)<|some<|aL.nx (((a.1.1.1,a.1.1.2.1,d.1,d.2.1,d.2.2.1,d.2.2.2.1,c.1,c.2.1,c.2.2.1,c.2.2.2.1,e.1,e.2.1,e.2.2.1,e.2.2.2.1,bb (aI ai) f,e.2.2.2.2.2),a.1.2),())))) (J<|aL.ex 0 (x.1,()))) (x.1,())) (λ_ =>aq) (λi a=>an (bU i 0)<|some (a.1,())) λ(r:bp)=>J r
def Rf(x:ab ai×ai×O×aj):au<|SW:=letI b:=bb (aI ai) x.1;ob (aa (aK x.2.2.1 1) (J (af,()))<|some (aK 64 x.2.2.1,())) λ(a:aM)=>aa a.1 (J (x.1,1,()))<|aa (bL x.2.2.1<|len x.1) (J (x.1,8,())) (an (bO 32<|bB (aQ<|aI ai)<|aQ x.1)<|an (bO 32<|bB (aQ b)<|aQ [x.2.1])<|some (bb b [x.2.1],0,()))
def RH(x:t3):au<|dm:=letI g:=x.1.1;letI c:=g.2.2;letI e:=c.2.2;letI b:=e.2.2.2;letI h:=b.2.2;letI d:=h.2.2;letI f:=d.2.2;ob (RG (x.2.1,f.1,())) λa=>aa (a2<|am a.2.1 0) (J (x.1,a.2.1,()))<|ob (Ad (c.1,())) λa5=>aa (a2 a5.1) (J (x.1,7,())) (ob (Rf (f.2.1,a.1,8,())) λbH=>aa (a2<|am bH.2.1 0) (J (x.1,bH.2.1,()))<|ob (qm ((g.1,g.2.1,c.1,c.2.1,e.1,e.2.1,e.2.2.1,b.1,b.2.1,h.1,h.2.1,d.1,d.2.1,f.1,bH.1,f.2.2),())) λbF=>ob (CQ ((g.1,g.2.1,c.1,c.2.1,e.1,e.2.1,e.2.2.1,b.1,b.2.1,h.1,h.2.1,d.1,d.2.1,f.1,bH.1,f.2.2),1,bF.1,0,a.1,())) λa=>ob (Ai ((a.1,x.1.2),())) λa=>J (a.1,0,()))
def RC(x:dm):au<|dm:=letI b:=x.1.1.2.2;letI c:=b.2.2.2.2.2.2.2.2.2;letI d:=J (af,());ob (aa (bL x.2.1 c.2.2.1) d<|some (aK 999999 x.2.1,())) λ(a:aM)=>aa a.1 (J (x.1,1,()))<|ob (Ad (b.1,())) λa=>aa (a2 a.1) (J (x.1,7,())) (ob (aa (a2<|am b.1 3) d<|some (a2<|am c.1.1 0,())) λ(a:aM)=>aa a.1 (J (x.1,9,()))<|ob (CT (((x.1.1.1,x.1.1.2.1,5,b.2),x.1.2),(af,201,0,0,0,aI aN,aI aN,x.2.1,()),())) λa=>J (a.1,0,()))
def K_(x:bp):au<|bp:=letI c:=x.1.1.2;letI a:=c.2.2.2;letI b:=a.2.2.2;aa (a2<|am c.2.1 5) (J (x.1,())) (J (((x.1.1.1,c.1,3,c.2.2.1,a.1,a.2.1,a.2.2.1,b.1,b.2.1,b.2.2.1,b.2.2.2.1,i4,b.2.2.2.2.2),x.1.2),()))
def K?(x:dm):au<|bp:=aa (aK x.1.1.2.2.2.2.2.2.2.2.2.2.2.2.2.1 x.2.1) (J (((x.1.1.1,x.1.1.2.1,x.1.1.2.2.1,x.1.1.2.2.2.1,x.1.1.2.2.2.2.1,x.1.1.2.2.2.2.2.1,x.1.1.2.2.2.2.2.2.1,x.1.1.2.2.2.2.2.2.2.1,x.1.1.2.2.2.2.2.2.2.2.1,x.1.1.2.2.2.2.2.2.2.2.2.1,x.1.1.2.2.2.2.2.2.2.2.2.2.1,x.1.1.2.2.2.2.2.2.2.2.2.2.2.1,x.1.1.2.2.2.2.2.2.2.2.2.2.2.2.1,x.2.1,x.1.1.2.2.2.2.2.2.2.2.2.2.2.2.2.2),x.1.2),()))<|some (x.1,())
def RD(x:pZ):au<|bp:=ob (K? (x.1,x.2.1.2.2.2.2.2.2.2.1,())) λa=>ob (yk (x.2.1,0,())) λa5=>ob (ro (a.1,a5.1,())) λa=>J (a.1,())
def RB(x:pZ):au<|bp:=letI b:=x.1.1.2.2.2.2.2.2.2.2.2.2.2.1;ob (CP (b,x.2.1.2.1,x.2.1.2.2.1,())) λa=>ob (aa (a2<|am x.1.1.2.2.1 5) (J (af,()))<|some (a2 a.1,())) λ(a:aM)=>aa a.1 (ob (o1 (x.1,())) λa=>J (a.1,()))<|ob (K4 (b.2.2.2.2.1,())) λa=>ob (K_ (x.1,())) λa5=>aa (a2<|am x.2.1.2.2.2.1 0) (J (a5.1,())) (ob (K? (a5.1,a.1.2.2.2.2.2.2.2.1,())) λa=>J (a.1,()))
def RE(x:pT):au<|aM:=letI b:=cY (i64<|de x.1.1 10) 10;ob (La (x.1,())) λa=>ob (aa a.1 (aa (am b 1) (J (af,()))<|some (am b 3,()))<|some (ag,())) λ(a:aM)=>J (a.1,())
end Yp
namespace Yp
open Go
abbrev dR:=ab pY×jy×ab (O×O×ai×aj)×ab (O×O×ai×aj)×ab (ab<|Int×ab O×O×ai×aj)×aj
def ot(x:ai×aj):au<|ai×aj:=an (bO 1<|aQ x.1)<|some (x.1,())
def LM(x:ab (O×O×ai×aj)×aj):au<|List (O×O×ai×aj)×aj:=an (bO 80<|aQ x.1)<|some (x.1,())
end Yp
namespace Yp
abbrev mO:=O×(dR×aj)×aj
abbrev mP:=O×dR×aj
abbrev nX:=dR×O×aj
abbrev tQ:=(dR×aj)×O×aj
abbrev j5:=dR×aj
abbrev qx:=(dR×aj)×aj
abbrev yy:=(dR×aj)×go×aj
abbrev GY:=(dR×aj)×eK×aj
abbrev ab5:=ab O×O×dR×aj
abbrev ab8:=O×O×dR×aj
abbrev ab9:=dR×ab O×aj
abbrev aca:=dR×go×aj
end Yp
namespace Yp
open Go
def Ol(x:ca):au<|MS:=letI f:=len x.1;letI a:=i64<|bw f 16;letI h:=ot (sub x.1 30 a,());letI i:=ot (sub x.1 a f,());letI j:=aO 0<|bc 1;letI k:=aO (i64<|aG 0 1)<|bc 2;letI m:=cq 30 a f;letI n:=aO 0<|bc 2;letI o:=cq a f f;letI v:=aO 1<|bc 2;aa (aK f 47) (J (kZ,3,())) <| aa (aK 946 f) (J (kZ,4,())) <| an n <| ob (mx (x.1,0,1,())) λhM=>letI u:=dk 0 hM.2.1;an k <| ob (mx (x.1,u,1,())) λc9=>letI b:=dk (u) c9.2.1;aa (am hM.2.2.1 0) (an n <| an v <| an n <| ob (mx (x.1,b,8,())) λdl=>letI g:=dk (b) dl.2.1;aa (am c9.2.2.1 0) (an k <| ob (mx (x.1,g,8,())) λdB=>letI l:=dk (g) dB.2.1;aa (am dl.2.2.1 0) (an j <| ob (mx (x.1,l,4,())) λfp=>letI r:=dk (l) fp.2.1;aa (am dB.2.2.1 0) (an j <| ob (mx (x.1,r,8,())) λmu=>aa (am fp.2.2.1 0) (an m <| ob h λc=>an o <| ob i λd=>ob (aa (a2<|am mu.2.2.1 0) (J (af,()))<|ob (Ev ((hM.1,c9.1,cA (cA [0,0] (ah 0) dl.1) (ah 1) dB.1,fp.1,mu.1,c.1,d.1,()),())) λe=>J (a2 e.1,())) λp=>aa p.1 (J (kZ,2,()))<|some ((hM.1,c9.1,cA (cA [0,0] (ah 0) dl.1) (ah 1) dB.1,fp.1,mu.1,c.1,d.1,()),0,()))<|an m <| ob h λc=>an o <| ob i λd=>J (kZ,2,())) (an j <| ob (mx (x.1,r,8,())) λmu=>an m <| ob h λc=>an o <| ob i λd=>J (kZ,2,()))) (an j <| ob (mx (x.1,l,4,())) λfp=>an j <| ob (mx (x.1,(dk (l) fp.2.1),8,())) λmu=>an m <| ob h λc=>an o <| ob i λd=>J (kZ,2,()))) (an k <| ob (mx (x.1,g,8,())) λdB=>letI s:=dk (g) dB.2.1;an j <| ob (mx (x.1,s,4,())) λfp=>an j <| ob (mx (x.1,(dk (s) fp.2.1),8,())) λmu=>an m <| ob h λc=>an o <| ob i λd=>J (kZ,2,()))) (an n <| an v <| an n <| ob (mx (x.1,b,8,())) λdl=>letI q:=dk (b) dl.2.1;an k <| ob (mx (x.1,q,8,())) λdB=>letI t:=dk (q) dB.2.1;an j <| ob (mx (x.1,t,4,())) λfp=>an j <| ob (mx (x.1,(dk (t) fp.2.1),8,())) λmu=>an m <| ob h λc=>an o <| ob i λd=>J (kZ,2,()))
def SN(x:aj):au<|GQ:=ob (LP (1,())) λa=>an (df (cq 0 16 16)<|bO 1<|ah 16)<|some ((a.1,cb (ah 16)<|u8 0,()),())
def H?(x:hH):au<|A?:=ob (aa (aK x.1 0) (J (af,()))<|aa (aK 1 x.1) (J (af,()))<|some (a2<|am (len x.2.1) 32,())) λ(a:aM)=>aa a.1 (J (hJ,1,()))<|ob (SN ()) λa=>J ((x.1,x.2.1,0,a.1, -1,0,0,0,0,(0,tW,()),va,i4,0,0,aI ai,Mp,aI<|Int×ai×aj,aI<|Int×ab O×O×ai×aj,[0,0,0,0],()),0,())
def akX(x:aM):au<|jy×aj:=J ((x.1,aI<|ai×ai×aj,ag,()),())
def AO(x:lc):au<|nX:=b? (bG (λ(ae:ab8)=>letI b:=ae.2.1;letI c:=ae.2.2.1;aa (aK b 2) (ob (H? (b,x.1,())) λa=>aa (a2<|am a.2.1 0) (J<|aL.rt (([hJ,hJ],(ag,aI<|ai×ai×aj,ag,()),aI<|Int×O×ai×aj,aI<|Int×O×ai×aj,[aI<|Int×ab O×O×ai×aj,aI<|Int×ab O×O×ai×aj],()),a.2.1,()))<|an (aO b<|bc 2)<|some<|aL.nx (ae.1,i64<|aG b 1,(cA c.1 (ah b) a.1,c.2),())) (J<|aL.ex 0 (ae.1,b,c,()))) (0,0,([hJ,hJ],(ag,aI<|ai×ai×aj,ag,()),aI<|Int×O×ai×aj,aI<|Int×O×ai×aj,[aI<|Int×ab O×O×ai×aj,aI<|Int×ab O×O×ai×aj],()),())) (λ_ =>aq) (λi a=>an (bU i 0)<|ob (akX (x.2.1,())) λa5=>J ((a.2.2.1.1,a5.1,a.2.2.1.2.2),0,())) λ(r:nX)=>J r
def sF(x:ek):au<|aM:=ob (aa (bL 0 x.1) (J (aK x.1 x.2.1,()))<|some (ag,())) λ(a:aM)=>J (a.1,())
def Wl(x:p1):au<|MT:=letI c:=x.1.2.2.2;letI a:=c.2.2.2.2.2;letI b:=a.2.2.2.2.2;J ((x.1.1,x.1.2.1,x.1.2.2.1,c.1,c.2.1,c.2.2.1,c.2.2.2.1,c.2.2.2.2.1,a.1,a.2.1,a.2.2.1,a.2.2.2.1,a.2.2.2.2.1,b.1,b.2.1,b.2.2.1,aI<|Int×ai×aj,aI<|Int×ab O×O×ai×aj,b.2.2.2.2.2),b.2.2.2.1,b.2.2.2.2.1,())
def GF(x:o5):au<|o5:=letI a:=len x.1;an (df (cq 0 a a)<|am a a) (J (sub x.1 0 a,()))
def DC(x:tQ):au<|GY:=an (aO x.2.1<|bc 2)<|some (x.1,(ap x.1.1.1 (ah x.2.1) hJ,x.1.1.2.1,()),())
def Jn(x:cK):au<|aM:=ob (aa (bL 0 x.1) (J (aK x.1 4,()))<|some (ag,())) λ(a:aM)=>J (a.1,())
def Jo(x:f8×O×aE×aj):au<|p0:=letI b:=aO x.2.1<|bc 4;letI c:=ah x.2.1;ob (Jn (x.2.1,())) λa=>aa (a2 a.1) (J (x.1,1,()))<|an b (aa (p7 (ap x.1.1 c ag) x.2.2.1) (J (x.1,9,()))<|an b<|an b<|some ((cA x.1.1 c x.2.2.1,cA x.1.2.1 c qC,x.1.2.2),0,()))
def Ph(x:p0):au<|p0:=ob (Jo (x.1,x.2.1,ag,())) λa=>J (a.1,a.2.1,())
def Wm(x:dm):au<|dm:=letI c:=x.1.1.2.2;letI b:=c.2.2.2.2.2;letI d:=b.2.2.2.2;ob (Ph (d.2.2.2.2.1,x.2.1,())) λa=>J (((x.1.1.1,x.1.1.2.1,c.1,c.2.1,c.2.2.1,c.2.2.2.1,c.2.2.2.2.1,b.1,b.2.1,b.2.2.1,b.2.2.2.1,d.1,d.2.1,d.2.2.1,d.2.2.2.1,a.1,d.2.2.2.2.2),x.1.2),a.2.1,())
def Mh(x:tQ):au<|qx:=b? (bG (λ(ae:mO)=>aa (aK ae.1 2) (ob (DC (ae.2.1,ae.1,())) λa=>ob (Wm (a.2.1,x.2.1,())) λa5=>aa (am a5.2.1 0) (an (aO ae.1<|bc 2)<|some<|aL.nx (i64<|aG ae.1 1,((cA a.1.1.1 (ah ae.1) a5.1.1,a.1.1.2),a.1.2),()))<|some<|aL.nx (i64<|aG ae.1 1,a.1,()))<|some<|aL.ex 0 (ae.1,ae.2.1,())) (0,x.1,())) (λ_ =>aq) (λi a=>letI e:=a.2.1.1;an (bU i 0) (ob (LM (e.2.2.1,())) λa5=>letI b:au<|qx:=J (((e.1,e.2.1,a5.1,e.2.2.2),a.2.1.2),());b? (bG (λ(ae:ek)=>letI k:=ae.2.1;aa (aK k<|len a5.1) (an (aO k<|len a5.1)<|aa (am (ap a5.1 (ah k) dL).2.1 x.2.1) (J<|aL.ex 999999999 (k,k,()))<|some<|aL.nx (ae.1,i64<|aG k 1,())) (J<|aL.ex 0 (ae.1,k,()))) (0,0,())) (λ_ =>aq) (λi bH=>aa (bU i 999999999) (aa (am bH.1<|-1) b<|b? (bG (λ(ae:LW)=>letI f:=ae.2.2.1;letI l:=ae.2.1;letI p:=ap f (ah l) dL;aa (aK l<|len f) (an (aO l<|len f)<|aa (a2<|am p.2.1 x.2.1) (an (aO ae.1<|len f)<|some<|aL.nx (i64<|aG ae.1 1,i64<|aG l 1,cA f (ah ae.1) p,()))<|some<|aL.nx (ae.1,i64<|aG l 1,f,())) (J<|aL.ex 0 (ae.1,l,f,()))) (bH.1,i64<|aG bH.1 1,a5.1,())) (λ_ =>aq) (λi bF=>letI n:=ah bF.1;letI h:=len bF.2.2.1;letI s:=cy (ah h) n;letI c:=eL bF.2.2.1 n s<|cb s dL;an (bU i 0) (an (cq bF.1 h h)<|an (cq 0 bF.1<|len c)<|some (((e.1,e.2.1,cut c (ah 0)<|cy n<|ah 0,e.2.2.2),a.2.1.2),()))) λ(r:aj)=>aq) (an (bU i 0) (aa (am (-1)<|-1) b (b? (bG (λ(ae:LW)=>letI g:=ae.2.2.1;letI m:=ae.2.1;letI q:=ap g (ah m) dL;aa (aK m<|len g) (an (aO m<|len g)<|aa (a2<|am q.2.1 x.2.1) (an (aO ae.1<|len g)<|some<|aL.nx (i64<|aG ae.1 1,i64<|aG m 1,cA g (ah ae.1) q,()))<|some<|aL.nx (ae.1,i64<|aG m 1,g,())) (J<|aL.ex 0 (ae.1,m,g,()))) (-1,i64<|aG (-1) 1,a5.1,())) (λ_ =>aq) (λ(i:R)
 (bF:LW)=>letI o:=ah bF.1;letI j:=len bF.2.2.1;letI t:=cy (ah j) o;letI d:=eL bF.2.2.1 o t<|cb t dL;an (bU i 0) (an (cq bF.1 j j)<|an (cq 0 bF.1<|len d)<|some (((e.1,e.2.1,cut d (ah 0)<|cy o<|ah 0,e.2.2.2),a.2.1.2),()))) λ(r:aj)=>aq)))) λ(r:aj)=>aq)) λ(r:aj)=>aq
def Ti(x:qx):au<|qx:=b? (bG (λ(x:mO)=>aa (aK x.1 4) (ob (Mh (x.2.1,x.1,())) λa=>J<|aL.nx (i64<|aG x.1 1,a.1,()))<|some<|aL.ex 0 (x.1,x.2.1,())) (0,x.1,())) (λ_ =>aq) (λi a=>an (bU i 0)<|some (a.2.1,())) λ(r:aj)=>aq
def AP(x:(dR×aj)×O×eK×aj):au<|qx:=letI c:=aO x.2.1<|bc 2;letI d:=x.1.1.2.2;letI f:=ah x.2.1;an c (ob (Wl (x.2.2.1.1,())) λa=>an c<|an c<|ob (Av (ap d.2.2.1 f<|aI<|Int×ab O×O×ai×aj,())) λa5=>an (bO 128<|bB (aQ a5.1)<|aQ a.2.2.1)<|an c<|b? (bG (λ(ae:mO)=>letI g:=ap a.2.1 (ah ae.1) hr;letI b:=(i64<|bw 1 x.2.1,g.1,g.2.1,());letI e:=ae.2.1;aa (aK ae.1<|len a.2.1) (an (aO ae.1<|len a.2.1)<|ob (GF (e.1.2.2.1,())) λbH=>an (bO 80<|bB (aQ bH.1)<|aQ [b])<|ob (GF (e.1.2.2.2.1,())) λbF=>an (bO 80<|bB (aQ bF.1)<|aQ [b])<|some<|aL.nx (i64<|aG ae.1 1,((e.1.1,e.1.2.1,bb bH.1 [b],bb bF.1 [b],e.1.2.2.2.2),e.2),())) (J<|aL.ex 0 (ae.1,e,()))) (0,((cA x.1.1.1 f a.1,x.2.2.1.2.1,d.1,d.2.1,cA d.2.2.1 f<|bb a5.1 a.2.2.1,d.2.2.2),x.1.2),())) (λ_ =>aq) (λi bH=>an (bU i 0)<|ob (aa (am a.1.2.2.1 8) (J (a2<|am (ap x.1.1.1 f hJ).2.2.1 8,()))<|some (ag,())) λ(a:aM)=>aa a.1 (ob (Ti (bH.2.1,())) λa=>J (a.1,()))<|some (bH.2.1,())) λ(r:aj)=>aq)
def WM(x:ca):au<|cK:=an (aO 0<|len x.1)<|an (aO 1<|len x.1) (J (i64<|hG IntKind.i64 (i64<|h0 IntKind.i64 (i64<|aV<|ap x.1 (ah 0)<|u8 0)<|cC<|u64 8)<|i64<|aV<|ap x.1 (ah 1)<|u8 0,()))
def OK(x:SY):au<|GM:=ob (GG ([x.1.1,x.2.1],())) λa=>b? (bG (λ(x:abz)=>letI j:=x.2.1;letI g:=len j;letI f:=x.2.2.1;letI h:=f.2.2;letI d:=hE f.2.1 g;letI b:au<|aL abz GM:=J<|aL.ex 0 (x.1,sub j d g,(f.1,i64<|bw f.2.1 d,h),());letI c:=sub j d g;an (cq d g g) (aa (aK (len c) 2) b (ob (WM (sub j d g,())) λa=>letI e:=i64<|aG 2 a.1;ob (aa (am a.1 0) (J (af,()))<|some (aK 1024 a.1,())) λ(a5:aM)=>aa a5.1 (aa (bL e<|len c) (J<|aL.nx (x.1,sub j d g,(f.1,i64<|aG 2 a.1,i64<|aG h.1 1,h.2),()))<|some<|aL.ex 0 (x.1,aI aN,(f.1,i64<|bw e<|len c,i64<|aG h.1 1,h.2),()))<|aa (aK (len c) e) b<|an (df (cq 2 e<|len c)<|am e e)<|an (bO 32<|bB (aQ x.1)<|aQ [sub c 2 e])<|an (cq e (len c)<|len c)<|some<|aL.nx (bb x.1 [sub c 2 e],sub c e<|len c,(f.1,i64<|bw f.2.1 d,h),())))) (aI ai,a.1,x.1,())) (λ_ =>aq) (λi a=>an (bU i 0)<|ob (ot (a.2.1,())) λa5=>J ((a5.1,a.2.2.1.2),a.1,())) λ(r:GM)=>J r
def Pi(x:f8×O×ai×aj):au<|MU:=letI b:=aO x.2.1<|bc 4;letI c:=ah x.2.1;ob (Jn (x.2.1,())) λa=>aa (a2 a.1) (J (x.1,aI ai,1,()))<|an b (aa (a2<|ap x.1.1 c ag) (J (x.1,aI ai,11,()))<|an b<|ob (OK (ap x.1.2.1 c qC,x.2.2.1,())) λa=>an b<|some ((x.1.1,cA x.1.2.1 c a.1,x.1.2.2),a.2.1,0,()))
def Ln(x:l5):au<|lc:=ob (R8 ((x.1,()),())) λa=>b? (bG (λ(ae:dt)=>letI b:=ae.2.1;letI c:=ap a.1 (ah b) hr;aa (aK b 3) (an (aO b<|bc 3)<|ob (aa (aK 0 x.2.1) (J (am c.1 x.2.1,()))<|some (ag,())) λ(a5:aM)=>aa a5.1 (J<|aL.rt (c.2.1,af,()))<|some<|aL.nx (ae.1,i64<|aG b 1,())) (J<|aL.ex 0 (ae.1,b,()))) (ag,0,())) (λ_ =>aq) (λi a=>an (bU i 0)<|some (aI aN,ag,())) λ(r:lc)=>J r
def FO(x:jy×ai×ai×ai×aj):au<|DW:=letI b:=x.1.2;letI c:=x.1.1;ob (FP (x.2.1,x.2.2.1,())) λa=>ob (Fs (a.1,x.2.2.2.1,())) λa=>aa (a2 a.1) (J (x.1,ag,()))<|ob (Kr (x.1,x.2.1,x.2.2.1,())) λa=>aa b.2.1 (aa a.1 (J ((c,b.1,af,b.2.2),af,()))<|some ((c,b.1,af,b.2.2),a2 c,())) (aa a.1 (J ((c,b.1,a2 a.1,b.2.2),af,()))<|some ((c,b.1,a2 a.1,b.2.2),a2 c,()))
def PC(x:t3):au<|eK×R×d6×aj:=letI b:au aM:=J (ag,());letI c:=x.1.1;letI d:=x.1.2;ob (Ol (x.2.1,())) λa=>letI e:=a.1.2.2;letI f:=zc (a.1,());aa (am a.2.1 0) (ob (aa (am a.1.2.1<|i64<|bw 1 c.1) (aa (a2<|am c.2.2.1 7) (J (a2<|am c.2.2.1 8,())) b) b) λ(a5:aM)=>aa a5.1 (ob (Ce (c.2.1,())) λbH=>aa (am a.1.1 2) (ob (Ln (c.2.2.2.2.2.2.2.2.2.2.1,e.2.1,())) λbF=>ob (wg (c.2.2.1,())) λco=>ob (aa co.1 (ob (oV (c,())) λdW=>aa (p2 (λ(p q:O)=>am p q) e.1 dW.1) (J (bF.2.1,())) b) b) λ(dW:aM)=>aa dW.1 (ob f λ(ig:cg)=>ob (FO (d.1,bF.1,ig.1,e.2.2.2.2.1,())) λhN=>aa hN.2.1 (J ((c,hN.1,d.2),0,a.1,()))<|some ((c,hN.1,d.2),5,kZ,()))<|some (x.1,13,kZ,()))<|ob f λ(bF:cg)=>ob (FO (d.1,bH.1,bF.1,e.2.2.2.2.1,())) λco=>aa co.2.1 (J ((c,co.1,d.2),0,a.1,()))<|some ((c,co.1,d.2),5,kZ,()))<|some (x.1,13,kZ,())) (J (x.1,2,kZ,()))
def Md(x:cK):au<|tbg:=letI a:=cY x.1 1024;an (bL 0<|cY a 64) (J (i64<|de a 64,u64<|h0 IntKind.u64 (cC<|u64 1)<|cY a 64,()))
def Tf(x:rx):au<|aM:=ob (Md (x.2.1,())) λa=>an (aO a.1<|bc 16)<|some (a2<|am (cC<|u64<|hz IntKind.u64 (cC<|ap x.1.2.1 (ah a.1)<|u64 0)<|cC a.2.1)<|cC<|u64 0,())
def ab6(x:rx):au<|aM:=letI b:au aM:=J (ag,());letI c:=x.2.1;ob (aa (bL 0 c) (aa (bL c 4611686018427387904) (aa (bL x.1.1 c) (J (af,()))<|aa (bL (i64<|bw x.1.1 1024) c) (ob (Tf (x.1,c,())) λa=>J (a2 a.1,())) b) b) b) λ(a:aM)=>J (a.1,())
def AM(x:(O×ab hw×aj)×O×aE×aj):au<|GN:=letI e:=x.1.2;ob (Md (x.2.1,())) λa=>letI d:=ah a.1;letI b:=u64<|hG IntKind.u64 (cC<|ap e.1 d<|u64 0)<|cC a.2.1;letI c:=aO a.1<|bc 16;an c (an c<|aa (a2 x.2.2.1) (an c<|an c<|some ((x.1.1,cA (cA e.1 d b) d<|u64<|em IntKind.u64 (cC<|ap (cA e.1 d b) d<|u64 0)<|cC a.2.1,e.2),()))<|some ((x.1.1,cA e.1 d b,e.2),()))
def GZ(x:rx):au<|rx:=letI c:=x.2.1;letI b:=i64<|bw c x.1.1;letI d:=hE (dk b 0) 1024;letI e:=i64<|aG c 1;ob (aa (aK c 0) (J (af,()))<|some (aK 4611686018427387904 c,())) λ(a:aM)=>aa a.1 (J (x.1,1,()))<|ob (ab6 (x.1,c,())) λa=>aa (a2 a.1) (J (x.1,6,())) (aa (bL 1024 b) (b? (bG (λ(ae:yv)=>aa (aK ae.1 d) (ob (AM (ae.2.1,i64<|aG ae.2.1.1 ae.1,ag,())) λa=>J<|aL.nx (i64<|aG ae.1 1,a.1,()))<|some<|aL.ex 0 (ae.1,ae.2.1,())) (0,(x.1.1,tW,x.1.2.2),())) (λ_ =>aq) (λi a=>an (bU i 0)<|ob (AM ((dk a.2.1.1 e,a.2.1.2),c,af,())) λa=>J (a.1,0,())) λ(r:rx)=>J r)<|b? (bG (λ(ae:yv)=>aa (aK ae.1 d) (ob (AM (ae.2.1,i64<|aG ae.2.1.1 ae.1,ag,())) λa=>J<|aL.nx (i64<|aG ae.1 1,a.1,()))<|some<|aL.ex 0 (ae.1,ae.2.1,())) (0,x.1,())) (λ_ =>aq) (λi a=>an (bU i 0)<|ob (AM ((dk a.2.1.1 e,a.2.1.2),c,af,())) λa=>J (a.1,0,())) λ(r:rx)=>J r)
def PB(x:t3):au<|MW:=ob (PC (x.1,x.2.1,())) λa=>letI d:=a.1.1.2;letI b:=d.2.2.2;letI c:=b.2.2.2;letI e:=a.2.2.1;letI f:=c.2.2.2;aa (bU a.2.1 0) (aa (a2<|am e.1 2) (J (a.1,e,0,()))<|ob (GZ (c.2.2.1,e.2.2.2.2.1,())) λa5=>aa (am a5.2.1 0) (ob (aa (am e.2.2.2.1 f.1.2.2.1.1) (J (a2<|am d.2.1 4,()))<|some (ag,())) λ(bH:aM)=>aa bH.1 (ob (C3 (f.1,())) λbF=>J (((a.1.1.1,d.1,d.2.1,d.2.2.1,b.1,b.2.1,b.2.2.1,c.1,c.2.1,a5.1,bF.1,f.2),a.1.2),e,0,()))<|some (((a.1.1.1,d.1,d.2.1,d.2.2.1,b.1,b.2.1,b.2.2.1,c.1,c.2.1,a5.1,f),a.1.2),e,0,()))<|ob (lx (a.1,bc 6,())) λa=>J (a.1,kZ,bc 6,())) (aa (bU a.2.1 2) (ob (lx (a.1,bc 2,())) λa=>J (a.1,kZ,bc 2,()))<|aa (bU a.2.1 13) (ob (lx (a.1,bc 13,())) λa=>J (a.1,kZ,bc 13,()))<|an (bU a.2.1 5)<|ob (lx (a.1,bc 5,())) λa=>J (a.1,kZ,bc 5,()))
def Ib(x:pZ):au<|bp:=letI b:=x.2.1;letI c:=J (ag,());letI d:=J (b.1,());letI e:=am b.2.1 101;letI f:=am b.2.1 201;ob (aa e d c) λ(a:aM)=>aa a.1 (ob (RZ (x.1,b,())) λa=>J (a.1,()))<|aa e (ob (RX (x.1,b,())) λa=>J (a.1,())) (ob (aa f d c) λ(a:aM)=>aa a.1 (ob (WQ (x.1,b,())) λa=>J (a.1,()))<|aa f (ob (OL (x.1,b,())) λa=>J (a.1,()))<|ob (SB (x.1,b,())) λa=>J (a.1,()))
def H_(x:t3):au<|bp:=ob (PB (x.1,x.2.1,())) λa=>letI g:=a.2.1;letI e:au pi:=FB (g.2.2.2.2.2.1,());letI d:au jK:=Ff (g.2.2.2.2.2.1,());letI c:au<|bp:=ob (lx (a.1,2,())) λa=>ob (ln (a.1,())) λa=>J (a.1,());letI f:=am g.1 2;aa (a2<|am a.2.2.1 0) (J (a.1,())) (aa f (ob (Sz (a.1,())) λa5=>letI b:au<|bp:=ob (lx (a5.1,2,())) λa=>ob (ln (a.1,())) λa=>J (a.1,());ob e λ(bH:pi)=>aa (am bH.2.1 0) (aa f (ob (Ib (a5.1,bH.1,())) λa=>ob (ln (a.1,())) λa=>J (a.1,()))<|ob (LD (a5.1,g,bH.1,())) λa=>ob (ln (a.1,())) λa=>J (a.1,()))<|ob d λ(bF:jK)=>aa (am bF.2.1 0) (aa f (ob (It (a5.1,g,bF.1,())) λa=>ob (ln (a.1,())) λa=>J (a.1,())) b) b)<|ob e λ(a5:pi)=>aa (am a5.2.1 0) (aa f (ob (Ib (a.1,a5.1,())) λa=>ob (ln (a.1,())) λa=>J (a.1,()))<|ob (LD (a.1,g,a5.1,())) λa=>ob (ln (a.1,())) λa=>J (a.1,()))<|ob d λ(bH:jK)=>aa (am bH.2.1 0) (aa f (ob (It (a.1,g,bH.1,())) λa=>ob (ln (a.1,())) λa=>J (a.1,())) c) c)
def Oi(x:MX):au<|bp:=letI d:=x.1.1.2.2.2;letI f:=d.2.2.2;letI b:=f.2.2.2;letI g:=b.2.2.2;letI c:=g.2.2.2;letI h:=aO x.2.1<|bc 4;letI j:=aO 0<|bc 4;ob (Pi (c.1,x.2.1,x.2.2.1,())) λa=>aa (a2<|am a.2.2.1 0) (J (x.1,()))<|an j (an h<|an h<|an j<|b? (bG (λ(x:sT)=>letI e:=J<|aL.ex 0 (x.1,x.2.1,());aa (aK x.1<|len a.2.1) (an (aO x.1<|len a.2.1)<|aa (am x.2.1.1.2.2.1 8) e<|ob (H_ (x.2.1,ap a.2.1 (ah x.1)<|aI aN,())) λa=>J<|aL.nx (i64<|aG x.1 1,a.1,())) e) (0,((x.1.1.1,x.1.1.2.1,x.1.1.2.2.1,d.1,d.2.1,d.2.2.1,f.1,f.2.1,f.2.2.1,b.1,b.2.1,b.2.2.1,g.1,g.2.1,g.2.2.1,a.1,c.2.1,c.2.2.1,cA c.2.2.2.1 (ah 0)<|i64<|aG (ap c.2.2.2.1 (ah 0) 0)<|i64<|bw (ap a.1.2.1 (ah x.2.1) qC).2.2.1 (ap c.1.2.1 (ah x.2.1) qC).2.2.1,c.2.2.2.2),x.1.2),())) (λ_ =>aq) (λi a=>an (bU i 0)<|some (a.2.1,())) λ(r:bp)=>J r)
def G1(x:(dR×aj)×O×O×ai×aj):au<|qx:=ob (DC (x.1,x.2.1,())) λa=>ob (Oi (a.2.1,x.2.2.1,x.2.2.2.1,())) λa5=>ob (AP (a.1,x.2.1,a5.1,())) λa=>J (a.1,())
def Mi(x:yy):au<|tQ:=letI i:=x.1.1.2;letI d:=x.2.1.2.2;letI k:=ah d.1;letI c:=ap i.2.1 k dL;letI m:=c.2.2.1;letI h:=i64<|aG d.1 1;letI j:=len m;letI o:=d.2.1;letI p:=cy k<|ah 0;ob (sF (d.1,len i.2.1,())) λa=>aa (a2 a.1) (J (x.1,12,()))<|an (aO d.1<|len i.2.1) (ob (LM (i.2.1,())) λa=>letI g:=len a.1;letI b:=cut a.1 (ah h)<|cy (ah g)<|ah h;letI e:=bB p<|aQ b;letI f:=eL a.1 (bB (ah 0) p) (aQ b) b;letI l:=ap a.1 k dL;letI n:=cy (ah g)<|ah<|bc e;ob (aa (aK 0 o) (J (aK o j,()))<|some (ag,())) λ(a5:aM)=>aa a5.1 (an (cq o j j)<|an (aO d.1 g)<|an (cq 0 o j)<|ob (G1 (((x.1.1.1,i.1,cA a.1 k (l.1,l.2.1,sub m o j,l.2.2.2),i.2.2),x.1.2),c.1,c.2.1,sub m 0 o,())) λa=>J (a.1,0,()))<|an (df (cq d.1 h g)<|bL g g)<|aa (am d.1 h) (ob (G1 (((x.1.1.1,i.1,a.1,i.2.2),x.1.2),c.1,c.2.1,m,())) λa=>J (a.1,0,()))<|an (cq 0 d.1 g)<|an (cq h g g)<|an (k_ (bB (ah 0) e)<|bB (aQ a.1) 1)<|an (df (k_ (ah 0)<|bB (aQ f) 1)<|cq (bc e) g<|bw (len f)<|bc<|ah 0)<|ob (G1 (((x.1.1.1,i.1,cut (eL f (bB (ah 0)<|ah<|bc e) n<|cb n dL) (ah 0) e,i.2.2),x.1.2),c.1,c.2.1,m,())) λa=>J (a.1,0,()))
def R6(x:l6):au<|l6:=letI b:=x.1.2.2;letI a:=i64<|bw b.2.1 1;aa (am (dk 0 a) 0) (J ((x.1.1,hr,b.1,dk 0 a,b.2.2),())) (J ((x.1.1,x.1.2.1,b.1,dk 0 a,b.2.2),()))
def D9(x:go×aj):au<|Hi:=letI b:=x.1.2.2.2;letI c:=aK 0 b.1;letI d:=bw x.1.2.2.1 1;ob (Hz (x.1,())) λa=>aa a.1 (J (x.1,ag,ag,()))<|aa (aK 0<|i64 d) (J ((x.1.1,x.1.2.1,i64 d,b),ag,ag,())) (aa c (J ((x.1.1,x.1.2.1,8,i64<|bw b.1 1,b.2),aK 0 b.1,a2 c,()))<|some (i4,aK 0 b.1,a2 c,()))
def Et(x:T4):au<|bp:=letI b:=x.2.1.2.2.2.2.1;aa (am x.2.1.1 1) (ob (Fk (x.1,0,b,())) λa=>J (a.1,())) (ob (oW (x.1,b,())) λa=>J (a.1,()))
def Eu(x:bp):au<|bp:=aa (am x.1.1.2.2.1 4) (ob (Lj (x.1,())) λa=>J (a.1,()))<|aa (am x.1.1.2.2.1 5) (ob (ON (x.1,())) λa=>J (a.1,())) (ob (SA (x.1,())) λa=>J (a.1,()))
def Ia(x:bp):au<|bp:=letI f:=x.1.1;letI d:=f.2.2;letI c:=d.2.2.2;letI e:=c.2.2.2;letI g:=e.2.2;letI b:au Hi:=D9 (g.2.1,());letI h:=d.2.2.1;letI i:=c.2.2.1;letI j:=f.2.1;letI k:=d.2.1;letI l:=c.2.1;letI m:=e.2.1;letI n:=x.1.2;letI o:=g.2.2;ob (aa (am d.1 7) (J (af,()))<|some (am d.1 8,())) λ(a:aM)=>aa a.1 (J (x.1,()))<|ob (wg (d.1,())) λa=>aa a.1 (ob (R6 (g.1,())) λa=>aa (am e.1 4611686018427387904) (ob (LE (((f.1,j,d.1,k,h,c.1,l,i,e.1,m,a.1,g.2),n),())) λa=>J (a.1,()))<|ob b λ(a5:Hi)=>aa a5.2.1 (ob (Et (((f.1,j,d.1,k,h,c.1,l,i,e.1,m,a.1,a5.1,o),n),a5.1,())) λa=>ob (ln (a.1,())) λa=>J (a.1,()))<|aa a5.2.2.1 (ob (Eu (((f.1,j,d.1,k,h,c.1,l,i,e.1,m,a.1,a5.1,o),n),())) λa=>ob (ln (a.1,())) λa=>J (a.1,()))<|ob (ln (((f.1,j,d.1,k,h,c.1,l,i,e.1,m,a.1,a5.1,o),n),())) λa=>J (a.1,())) (ob b λ(a:Hi)=>aa a.2.1 (ob (Et (((f.1,j,d.1,k,h, c.1,l,i,e.1,m,g.1,a.1,o),n),a.1,())) λa=>ob (ln (a.1,())) λa=>J (a.1,()))<|aa a.2.2.1 (ob (Eu (((f.1,j,d.1,k,h,c.1,l,i,e.1,m,g.1,a.1,o),n),())) λa=>ob (ln (a.1,())) λa=>J (a.1,()))<|ob (ln (((f.1,j,d.1,k,h,c.1,l,i,e.1,m,g.1,a.1,o),n),())) λa=>J (a.1,()))
def G0(x:nX):au<|j5:=b? (bG (λ(ae:mO)=>aa (aK ae.1<|dk 0 x.2.1) (b? (bG (λ(x:mO)=>ob (aa (aK 0 x.1) (J (aK 0<|len x.2.1.1.2.2.1,()))<|some (ag,())) λ(a:aM)=>aa a.1 (ob (Mi (x.2.1,i4,())) λa=>J<|aL.nx (i64<|bw x.1 1,a.1,()))<|some<|aL.ex 2 (x.1,x.2.1,())) (len ae.2.1.1.2.2.1,ae.2.1,())) (λ_ =>aq) (λi a=>an (bU i 2)<|b? (bG (λ(x:mO)=>aa (aK x.1 2) (ob (DC (x.2.1,x.1,())) λa=>ob (Ia (a.2.1,())) λa5=>ob (AP (a.1,x.1,a5.1,())) λa=>J<|aL.nx (i64<|aG x.1 1,a.1,()))<|some<|aL.ex 4 (x.1,x.2.1,())) (0,a.2.1,())) (λ_ =>aq) (λi a=>an (bU i 4)<|some<|aL.nx (i64<|aG ae.1 1,a.2.1,())) λ(r:j5)=>J<|aL.rt r) λ(r:j5)=>J<|aL.rt r)<|some<|aL.ex 0 (ae.1,ae.2.1,())) (0,(x.1,()),())) (λ_ =>aq) (λi a=>an (bU i 0)<|some (a.2.1.1,())) λ(r:j5)=>J r
def Tl(x:yy):au<|tQ:=letI h:=x.2.1.2.2.1;letI c:=cy (ah h)<|ah 0;letI d:=i64<|aG h 1;letI i:=x.1.1.2;ob (sF (h,len i.2.1,())) λa=>aa (a2 a.1) (J (x.1,12,())) (ob (LM (i.2.1,())) λa=>letI e:=len a.1;letI b:=cut a.1 (ah d)<|cy (ah e)<|ah d;letI f:=bB c<|aQ b;letI g:=eL a.1 (bB (ah 0) c) (aQ b) b;letI j:=cy (ah e)<|ah<|bc f;an (df (cq h d e)<|bL e e) (aa (am h d) (J (((x.1.1.1,i.1,a.1,i.2.2),x.1.2),0,()))<|an (cq 0 h e)<|an (cq d e e)<|an (k_ (bB (ah 0) f)<|bB (aQ a.1) 1)<|an (df (k_ (ah 0)<|bB (aQ g) 1)<|cq (bc f) e<|bw (len g)<|bc<|ah 0)<|some (((x.1.1.1,i.1,cut (eL g (bB (ah 0)<|ah<|bc f) j<|cb j dL) (ah 0) f,i.2.2),x.1.2),0,())))
def Th(x:yy):au<|tQ:=letI b:=x.1.1.2.2;letI c:=x.2.1.2.2.1;ob (sF (c,len b.2.1,())) λa=>aa (a2 a.1) (J (x.1,12,()))<|ob (GF (b.1,())) λa=>an (aO c<|len b.2.1) (an (bO 80<|bB (aQ a.1)<|aQ [ap b.2.1 (ah c) dL])<|some (((x.1.1.1,x.1.1.2.1,bb a.1 [ap b.2.1 (ah c) dL],b.2),x.1.2),0,()))
def To(x:yy):au<|tQ:=letI e:=x.1.1.2.2;letI c:=x.2.1.2.2;letI b:=ap e.2.1 (ah c.1) dL;letI f:=aO c.1<|len e.2.1;letI h:=ah c.2.1;letI i:=J (af,());letI j:=len c.2.2.1;ob (sF (c.1,len e.2.1,())) λa=>ob (aa (a2 a.1) i<|an f<|ob (sF (c.2.1,len b.2.2.1,())) λa=>aa (a2 a.1) i<|some (am j 0,())) λ(a:aM)=>aa a.1 (J (x.1,12,()))<|an f (ob (ot (b.2.2.1,())) λa=>letI d:=u8<|em gV (aV<|ap a.1 h<|u8 0)<|aV<|ap c.2.2.1 (ah 0)<|u8 0;letI g:=aO c.2.1<|len a.1;an g (an (aO 0 j)<|an g<|ob (GF (e.1,())) λa5=>an (bO 80<|bB (aQ a5.1)<|aQ [(b.1,b.2.1,cA a.1 h d,b.2.2.2)])<|some (((x.1.1.1,x.1.1.2.1,bb a5.1 [(b.1,b.2.1,cA a.1 h d,b.2.2.2)],e.2),x.1.2),0,())))
def Tm(x:yy):au<|tQ:=letI b:=x.2.1.2;ob (sF (b.1,2,())) λa=>aa (a2 a.1) (J (x.1,1,()))<|ob (G1 (x.1,b.1,b.2.1,b.2.2.2.1,())) λa=>J (a.1,0,())
def Pj(x:p0):au<|p0:=letI b:=aO x.2.1<|bc 4;ob (Jo (x.1,x.2.1,af,())) λa=>aa (am a.2.1 0) (an b<|an b<|some ((a.1.1,a.1.2.1,cA a.1.2.2.1 (ah x.2.1)<|i64<|aG (ap a.1.2.2.1 (ah x.2.1) 0) 1,a.1.2.2.2),a.2.1,()))<|some (a.1,a.2.1,())
def Ok(x:dm):au<|dm:=letI c:=x.1.1.2.2;letI b:=c.2.2.2.2.2;letI d:=b.2.2.2.2;aa (am c.1 8) (J (x.1,11,())) (ob (Pj (d.2.2.2.2.1,x.2.1,())) λa=>aa (a2<|am a.2.1 0) (J (x.1,a.2.1,()))<|ob (ln (((x.1.1.1,x.1.1.2.1,c.1,c.2.1,c.2.2.1,c.2.2.2.1,c.2.2.2.2.1,b.1,b.2.1,b.2.2.1,b.2.2.2.1,d.1,d.2.1,d.2.2.1,d.2.2.2.1,a.1,d.2.2.2.2.2),x.1.2),())) λa=>J (a.1,0,()))
def Tn(x:yy):au<|tQ:=letI b:=x.2.1.2.2.1;letI c:=ap x.1.1.1 (ah 0) hJ;letI d:=ap x.1.1.1 (ah 1) hJ;letI e:=J (af,());letI f:=aO 0<|bc 2;letI g:=aO 1<|bc 2;letI h:=aO b<|bc 4;an f (ob (aa (am c.2.2.1 8) e<|an g<|some (am d.2.2.1 8,())) λ(a:aM)=>aa a.1 (J (x.1,11,()))<|ob (sF (b,4,())) λa=>aa (a2 a.1) (J (x.1,1,()))<|an f<|an h<|ob (aa (ap c.2.2.2.2.2.2.2.2.2.2.2.2.2.2.2.1.1 (ah b) ag) e<|an g<|an h<|some (ap d.2.2.2.2.2.2.2.2.2.2.2.2.2.2.2.1.1 (ah b) ag,())) λ(a:aM)=>aa a.1 (J (x.1,9,()))<|b? (bG (λ(ae:mO)=>aa (aK ae.1 2) (ob (DC (ae.2.1,ae.1,())) λa=>ob (Ok (a.2.1,b,())) λa5=>ob (AP (a.1,ae.1,a5.1,())) λa=>J<|aL.nx (i64<|aG ae.1 1,a.1,()))<|some<|aL.ex 1 (ae.1,ae.2.1,())) (0,x.1,())) (λ_ =>aq) (λi a=>an (bU i 1)<|some (a.2.1,0,())) λ(r:aj)=>aq)
def Tk(x:yy):au<|tQ:=ob (sF (x.2.1.2.2.1,4,())) λa=>aa (a2 a.1) (J (x.1,1,()))<|ob (Mh (x.1,x.2.1.2.2.1,())) λa=>J (a.1,0,())
def Tj(x:yy):au<|tQ:=aa (aK x.2.1.2.2.1 0) (J (x.1,1,()))<|ob (G0 (x.1.1,hE x.2.1.2.2.1 100,())) λa=>J ((a.1,x.1.2),0,())
def Oj(x:T4):au<|dm:=letI b:=x.2.1.1;letI c:=x.2.1.2.2;letI d:=x.1.1.2;aa (am b 0) (ob (OP (x.1,c.2.2.1,())) λa=>J (a.1,a.2.1,())) (aa (am b 1) (ob (LE (x.1,())) λa=>J (a.1,a.2.1,()))<|aa (am b 2) (ob (SC (x.1,())) λa=>J (a.1,a.2.1,()))<|aa (am b 3) (ob (Sy (x.1,())) λa=>J (a.1,a.2.1,()))<|aa (am b 4) (ob (RY (x.1,c.2.2.1,())) λa=>J (a.1,a.2.1,()))<|aa (am b 5) (ob (OM (x.1,c.1,())) λa=>J (a.1,a.2.1,()))<|aa (am b 6) (ob (Ia (x.1,())) λa=>J (a.1,0,()))<|aa (am b 14) (ob (GC (x.1,())) λa=>J (a.1,0,()))<|aa (am b 15) (aa (a2<|am d.2.1 8) (J (x.1,9,()))<|ob (Sx (x.1,())) λa=>J (a.1,0,()))<|aa (am b 16) (J (((x.1.1.1,d.1,d.2.1,d.2.2.1,c.1,d.2.2.2.2),x.1.2),0,()))<|some (x.1,1,()))
def rA(x:yy):au<|tQ:=letI b:=x.2.1.2.1;ob (sF (b,2,())) λa=>aa (a2 a.1) (J (x.1,1,()))<|ob (DC (x.1,b,())) λa=>ob (Oj (a.2.1,x.2.1,())) λa5=>ob (AP (a.1,b,a5.1,())) λa=>J (a.1,a5.2.1,())
def rz(x:aca):au<|nX:=letI c:=x.2.1;letI b:=rA ((x.1,()),c,());aa (am c.1 7) (ob (Mi ((x.1,()),c,())) λa=>J (a.1.1,a.2.1,())) <| aa (am c.1 8) (ob (Tl ((x.1,()),c,())) λa=>J (a.1.1,a.2.1,())) <| aa (am c.1 9) (ob (Th ((x.1,()),c,())) λa=>J (a.1.1,a.2.1,())) <| aa (am c.1 10) (ob (To ((x.1,()),c,())) λa=>J (a.1.1,a.2.1,())) <| aa (am c.1 11) (ob (Tm ((x.1,()),c,())) λa=>J (a.1.1,a.2.1,())) <| aa (am c.1 12) (ob (Tn ((x.1,()),c,())) λa=>J (a.1.1,a.2.1,())) <| aa (am c.1 13) (ob (Tk ((x.1,()),c,())) λa=>J (a.1.1,a.2.1,())) <| aa (am c.1 17) (ob (Tj ((x.1,()),c,())) λa=>J (a.1.1,a.2.1,())) <| aa (am c.1 0) (ob b λa=>J (a.1.1,a.2.1,())) <| aa (am c.1 1) (ob b λa=>J (a.1.1,a.2.1,())) <| aa (am c.1 2) (ob b λa=>J (a.1.1,a.2.1,())) <| aa (am c.1 3) (ob b λa=>J (a.1.1,a.2.1,())) <| aa (am c.1 4) (ob b λa=>J (a.1.1,a.2.1,())) <| aa (am c.1 5) (ob b λa=>J (a.1.1,a.2.1,())) <| aa (am c.1 6) (ob b λa=>J (a.1.1,a.2.1,())) <| aa (am c.1 14) (ob b λa=>J (a.1.1,a.2.1,())) <| aa (am c.1 15) (ob b λa=>J (a.1.1,a.2.1,())) <| aa (am c.1 16) (ob b λa=>J (a.1.1,a.2.1,())) <| some (x.1,1,())
def RQ(x:ab go×O×aj):au<|Bool×aj:=letI e:=J<|aL.rt (ag,());letI g:=len x.1;letI h:=J (af,());aa (aK x.2.1 g) (J (ag,())) (b? (bG (λ(ae:O×aE×O×aj)=>letI d:=ae.2.2.1;letI b:=ap x.1 (ah d) i4;letI c:=aO d g;aa (aK d g) (an c<|aa (aK 1200<|len b.2.2.2.2.1) e<|an c (ob (aa (am b.1 17) (J (i64<|aG ae.1 1,()))<|some (ae.1,())) λ(a:O×aj)=>letI f:=J (aK 6 a.1,());an c (ob (aa (am b.1 17) (an c<|aa (aK 10 b.2.2.1) h f) f) λ(a5:aE×aj)=>aa a5.1 e<|some<|aL.nx (a.1,ae.2.1,i64<|aG d 1,())))) (J<|aL.ex 0 (ae.1,ae.2.1,d,()))) (0,ag,0,())) (λ_ =>aq) (λi a=>an (bU i 0) h) λ(r:aE×aj)=>J r)
def Tg(x:dR×ab go×aj):au<|dR×ab O×aj:=b? (bG (λ(ae:ab O×O×dR×aj)=>letI b:=ae.2.1;aa (aK b<|len x.2.1) (an (aO b<|len x.2.1)<|ob (rz (ae.2.2.1,ap x.2.1 (ah b) i4,())) λa=>an (bO 32<|bB (aQ ae.1)<|aQ [a.2.1])<|some<|aL.nx (bb ae.1 [a.2.1],i64<|aG b 1,a.1,())) (J<|aL.ex 0 (ae.1,b,ae.2.2.1,()))) (aI O,0,x.1,())) (λ_ =>aq) (λi a=>an (bU i 0)<|some (a.2.2.1,a.1,())) λ(r:dR×ab O×aj)=>J r
def CX(x:ab (O×O×ai×aj)×ab (O×O×ai×aj)×aj):au<|Bool×aj:=letI f:=len x.1;letI g:=J (af,());aa (a2<|am f<|len x.2.1) (J (ag,())) (b? (bG (λ(ae:aE×O×aj)=>letI b:=ae.2.1;letI c:=ap x.2.1 (ah b) dL;letI d:=aO b<|len x.2.1;letI e:=ap x.1 (ah b) dL;letI h:=aO b f;aa (aK b f) (an h<|an d<|ob (aa (a2<|am e.1 c.1) g<|an h<|an d<|aa (a2<|am e.2.1 c.2.1) g<|an h<|an d<|ob (nR (e.2.2.1,c.2.2.1,())) λa=>J (a2 a.1,())) λ(a:aE×aj)=>aa a.1 (J<|aL.rt (ag,()))<|some<|aL.nx (ae.1,i64<|aG b 1,())) (J<|aL.ex 0 (ae.1,b,()))) (ag,0,())) (λ_ =>aq) (λi a=>an (bU i 0) g) λ(r:aE×aj)=>J r)
def RO(x:dR×dR×aj):au<|Bool×aj:=letI c:=aI<|Int×ab O×O×ai×aj;letI e:=x.2.1.2.2;b? (bG (λ(ae:aE×O×aj)=>letI d:=ae.2.1;letI b:=aO d<|bc 2;aa (aK d 2) (an b<|an b<|ob (Rh (ap x.1.1 (ah d) hJ,ap x.2.1.1 (ah d) hJ,())) λa=>an b<|an b<|ob (K6 (ap x.1.2.2.2.2.1 (ah d) c,ap e.2.2.1 (ah d) c,())) λa5=>ob (aa (a2 a.1) (J (af,()))<|some (a2 a5.1,())) λ(a:aE×aj)=>aa a.1 (J<|aL.rt (ag,()))<|some<|aL.nx (ae.1,i64<|aG d 1,())) (J<|aL.ex 0 (ae.1,d,()))) (ag,0,())) (λ_ =>aq) (λi a=>an (bU i 0)<|ob (CX (x.1.2.2.1,e.1,())) λa=>ob (aa a.1 (ob (CX (x.1.2.2.2.1,e.2.1,())) λa=>J (a.1,()))<|some (ag,())) λ(a:aE×aj)=>J (a.1,())) λ(r:aE×aj)=>J r
def RR(x:dR×dR×aj):au<|Bool×aj:=ob (RO (x.1,x.2.1,())) λa=>ob (aa a.1 (ob (KK (x.1.2.1,x.2.1.2.1,())) λa=>J (a.1,()))<|some (ag,())) λ(a:aE×aj)=>J (a.1,())
def PE(x:O×aj):au<|ai×aj:=ob (wv ((x.1,aI<|Int×ai×aj,()),())) λa=>J (a.1,())
def PF(x:aj):au<|Bool×aj:=letI b:au<|Bool×aj:=J (ag,());letI d:=aO 0<|bc 2;letI f:=J (af,());an (df (cq 0 32 32)<|bO 1<|ah 32) (ob (AO (cb (ah 32)<|u8 0,af,())) λa=>ob (AO (aI aN,af,())) λa5=>ob (PE (200,())) λbH=>ob (Tg (a.1,[(12,0,0,0,aI aN,()),(1,0,0,0,aI aN,()),(17,0,4,0,aI aN,()),(0,1,0,0,bH.1,())],())) λbF=>letI e:=len bF.2.1;ob (rz (bF.1,(7,0,0,0,aI aN,()),())) λco=>letI c:=ap co.1.2.2.2.2.1 (ah 0)<|aI<|Int×ab O×O×ai×aj;ob (rz (bF.1,(8,0,0,0,aI aN,()),())) λdW=>ob (rz (dW.1,(8,0,0,0,aI aN,()),())) λig=>ob (aa (a2<|am e 4) f<|aa (a2<|am (len bF.1.2.2.1) 1) f<|an d<|some (a2<|am (len c) 2,())) λ(hN:aE×aj)=>aa hN.1 b<|ob (aa (am a.2.1 0) (aa (am a5.2.1 1) (an (aO 0 e)<|aa (am (ap bF.2.1 (ah 0) 0) 0) (an (aO 3 e)<|aa (am (ap bF.2.1 (ah 3) 0) 0) (an d<|aa (am (ap bF.1.1 (ah 0) hJ).2.2.1 3) (an (aO 1<|bc 2)<|aa (am (ap bF.1.1 (ah 1) hJ).2.2.1 3) (aa (am co.2.1 0) (aa (am (len co.1.2.2.1) 0) (an d<|an (aO 1<|len c)<|aa (am (ap c (ah 1) (0,[0,0],0,aI aN,())).1 2) (aa (am dW.2.1 0) (aa (am (len dW.1.2.2.1) 0) (aa (am ig.2.1 12) (ob (G0 (dW.1,0,())) λa=>ob (RR (a.1,dW.1,())) λa=>J (a.1,())) b) b) b) b) b) b) b) b) b) b) b) b) λ(a:aE×aj)=>J (a.1,()))
end Yp
namespace Yp
open Go Go.Proofs Tryz
set_option maxRecDepth 100000
abbrev h4:aw:=.unit
abbrev qz:aw:=.sl<|.int .u8
abbrev yC:aw:=.pair qz<|.pair qz h4
abbrev Tu:aw:=.pair (.bool)<|.pair (.sl yC) (.pair (.bool) h4)
abbrev gv:aw:=.int .i64
abbrev ao2:aw:=.pair gv<|.pair gv (.pair (.bool)<|.pair (.int .u8) h4)
abbrev ao1:aw:=.pair gv<|.pair gv (.pair (.ar 2 gv)<|.pair gv<|.pair gv yC)
abbrev aci:aw:=.pair gv<|.pair (.ar 16<|.int .u64) h4
abbrev DF:aw:=.pair gv<|.pair gv h4
abbrev acj:aw:=.pair (.ar 4<|.bool)<|.pair (.ar 4<|.pair qz DF) (.pair (.ar 4 gv)<|.pair gv h4)
abbrev Mn:aw:=.pair (.bool)<|.pair gv (.pair gv<|.pair gv<|.pair gv<|.pair qz<|.pair qz<|.pair gv h4)
abbrev mQ:aw:=.pair gv<|.pair qz h4
abbrev G4:aw:=.pair gv mQ
abbrev Ts:aw:=.pair gv<|.pair (.sl mQ) h4
abbrev Mm:aw:=.pair mQ<|.pair mQ (.pair mQ DF)
abbrev G3:aw:=.pair gv<|.pair (.ar 2 gv) mQ
abbrev AQ:aw:=.pair gv<|.pair gv G4
abbrev yB:aw:=.pair gv<|.pair qz (.pair gv<|.pair yC<|.pair gv<|.pair gv<|.pair gv<|.pair gv<|.pair gv<|.pair aci<|.pair Mm<|.pair AQ<|.pair gv<|.pair gv<|.pair (.sl qz)<|.pair acj<|.pair (.sl mQ)<|.pair (.sl G3)<|.pair (.ar 4 gv) h4)
abbrev Tt:aw:=.pair yB<|.pair Tu h4
abbrev Tv:aw:=.pair (.ar 2 yB)<|.pair Tu (.pair (.sl G4)<|.pair (.sl G4)<|.pair (.ar 2<|.sl G3) h4)
def T5:ab<|Nat×aw:=[(1,(.op 0)),(2,gv),(3,gv),(4,(.bool)),(5,(.int .u8)),(6,(.int .u8)),(7,ao2),(8,ao2),(9,(.str)),(10,(.str)),(11,(.str)),(12,(.int .u64)),(13,(.pair (.str)<|.pair (.int .u64) h4)),(14,(.pair (.str)<|.pair (.int .u64) h4)),(15,(.op 3)),(16,(.op 3)),(17,(.op 3)),(18,(.pair (.op 3) h4)),(19,(.pair (.op 3) h4)),(20,(.op 1)),(21,(.int .i32)),(22,(.sl AQ)),(23,(.op 0)),(24,(.op 0)),(25,qz),(26,yC),(27,yC),(28,(.int .u64)),(29,(.ar 16<|.int .u64)),(30,aci),(31,aci),(32,mQ),(33,mQ),(34,Mm),(35,Mm),(36,AQ),(37,AQ),(38,(.sl qz)),(39,(.ar 4<|.bool)),(40,(.pair qz DF)),(41,(.pair qz DF)),(42,(.ar 4<|.pair qz DF)),(43,(.ar 4 gv)),(44,acj),(45,acj),(46,(.sl mQ)),(47,(.sl G3)),(48,yB),(49,yB),(50,(.ar 2 yB)),(51,(.sl yC)),(52,Tu),(53,Tu),(54,(.sl G4)),(55,(.ar 2<|.sl G3)),(56,Tv),(57,Tv),(59,(.op 0)),(60,(.sl gv)),(62,(.op 0)),(63,gv),(65,(.op 0)),(66,AQ),(67,AQ),(68,G4),(69,G4),(70,(.op 0)),(71,(.int .u16)),(72,(.op 0)),(73,(.op 0)),(74,(.op 0)),(75,(.op 0)),(76,(.sl gv)),(78,(.op 0)),(79,(.op 0)),(80,(.ar 2 gv)),(81,G3),(82,G3),(83,(.op 0)),(85,(.op 0)),(86,(.op 0)),(87,(.op 0)),(88,(.op 0)),(90,(.op 2)),(91,(.op 0)),(92,(.op 3)),(93,(.pair Tv h4)),(94,(.pair Tv h4)),(95,(.op 0)),(97,(.op 0)),(99,(.op 0)),(100,(.sl mQ)),(101,Ts),(102,Ts),(103,(.op 0)),(104,(.op 0)),(105,Tt),(106,Tt),(107,(.op 0)),(108,(.op 0)),(109,(.op 0)),(110,(.op 0)),(111,(.op 0)),(113,(.op 0)),(114,(.op 0)),(115,(.op 0)),(116,(.ar 10 gv)),(117,(.op 0)),(118,(.op 0)),(119,(.op 0)),(120,yC),(121,yC),(122,(.op 0)),(123,(.op 0)),(124,mQ),(125,mQ),(126,(.op 0)),(127,(.op 0)),(128,(.op 0)),(129,(.op 0)),(130,(.op 0)),(131,(.op 0)),(132,(.op 0)),(134,(.op 0)),(135,(.op 0)),(136,mQ),(137,mQ),(138,(.op 0)),(139,(.op 0)),(141,(.op 0)),(143,(.op 0)),(144,(.op 0)),(145,(.op 0)),(146,(.op 0)),(147,(.op 0)),(148,(.op 0)),(149,(.op 0)),(150,(.op 0)),(151,(.op 0)),(152,(.op 0)),(153,(.op 0)),(154,(.op 0)),(155,(.op 0)),(156,(.op 0)),(157,(.op 0)),(158,(.op 0)),(159,(.op 0)),(160,(.op 0)),(161,(.op 0)),(162,(.op 0)),(164,(.op 0)),(165,(.op 0)),(166,DF),(167,DF),(169,(.op 0)),(170,(.op 0)),(171,(.op 0)),(173,(.op 0)),(174,(.op 0)),(176,(.op 0)),(177,(.op 0)),(179,(.op 0)),(180,(.op 0)),(181,(.op 0)),(182,(.op 3)),(183,(.pair AQ h4)),(184,(.pair AQ h4)),(185,(.op 0)),(186,(.op 0)),(187,(.op 0)),(189,(.op 0)),(190,(.op 0)),(192,(.op 0)),(194,(.op 0)),(195,(.op 0)),(196,(.op 0)),(198,(.op 0)),(199,(.op 0)),(200,(.op 0)),(202,(.op 0)),(204,(.op 0)),(205,(.op 0)),(207,(.op 0)),(208,(.op 0)),(209,Mn),(210,Mn),(211,(.op 0)),(213,(.op 0)),(215,(.op 0)),(216,(.op 0)),(217,(.op 0)),(218,(.op 0)),(219,(.op 0)),(220,(.op 0)),(221,(.sl<|.sl gv)),(222,(.op 0)),(223,(.op 0)),(225,(.op 0)),(227,(.op 0)),(228,(.op 0)),(229,(.op 0)),(230,(.op 0)),(231,ao1),(232,ao1),(233,(.pair yB h4)),(234,(.pair yB h4)),(235,(.pair (.pair yB h4)<|.pair Tt h4)),(236,(.pair (.pair yB h4)<|.pair Tt h4)),(237,(.op 0)),(238,(.op 0)),(239,(.op 0)),(240,(.int .u32)),(241,(.ar 8<|.int .u32)),(242,(.pair (.ar 8<|.int .u32) mQ)),(243,(.pair (.ar 8<|.int .u32) mQ)),(244,(.op 0)),(245,(.op 0)),(246,(.op 0)),(248,(.op 0)),(250,(.op 0)),(251,(.op 0)),(253,(.op 0)),(254,(.op 0)),(256,(.op 0)),(257,(.op 0)),(258,(.op 0)),(259,(.op 0)),(261,(.op 0)),(262,(.op 0)),(264,(.op 0)),(265,(.op 0)),(266,(.op 0)),(267,(.op 0)),(269,(.op 0)),(270,(.op 0)),(271,(.op 0)),(273,(.op 0)),(274,(.op 0)),(276,(.op 0)),(278,(.op 0)),(279,(.op 1)),(280,(.op 1)),(281,(.op 0)),(282,(.pair Mn h4)),(283,(.pair Mn h4)),(284,(.op 0)),(285,(.pair Ts h4)),(286,(.pair Ts h4)),(287,(.op 0)),(288,(.op 0)),(289,(.op 0)),(290,(.op 0)),(292,(.op 0)),(294,(.op 0)),(295,(.op 0)),(297,(.op 0)),(298,(.op 0)),(299,(.op 0)),(300,(.op 0)),(301,(.sl<|.int .u32)),(302,(.op 0)),(303,(.op 0)),(304,(.op 0)),(306,(.op 0)),(308,(.op 0)),(309,(.op 0)),(311,(.op 0)),(312,(.op 0)),(314,(.op 0)),(316,(.op 0)),(317,(.op 0)),(319,(.op 0)),(321,(.op 0)),(322,(.op 0)),(324,(.op 0)),(326,(.op 0)),(327,(.op 0)),(328,(.op 0)),(329,(.op 0)),(330,(.op 0)),(331,(.op 0)),(332,(.op 0)),(334,(.op 0)),(336,(.op 0)),(338,(.op 0)),(339,(.op 0)),(340,(.op 0)),(342,(.op 0)),(343,(.op 2)),(344,(.op 0)),(345,(.pair Mm h4)),(346,(.pair Mm h4)),(347,(.op 0)),(349,(.op 0)),(350,(.int .u64)),(351,(.op 0)),(352,(.op 0)),(353,(.op 3)),(355,(.op 0)),(356,(.op 0)),(357,(.op 0)),(359,(.op 0)),(360,h4),(361,h4),(362,(.op 0)),(363,(.op 0)),(364,(.op 0)),(365,(.op 0)),(366,(.ar 4 gv)),(367,(.op 0)),(368,(.op 0)),(369,(.op 0)),(370,(.op 0)),(371,(.op 0)),(372,(.op 0)),(374,(.op 0)),(375,(.op 0)),(376,(.op 0)),(377,(.op 0)),(378,(.op 0)),(379,(.op 0)),(380,(.op 0)),(381,(.op 0)),(382,(.op 0)),(383,(.op 0)),(384,(.op 0)),(385,(.op 0)),(386,(.op 0)),(388,(.op 0)),(389,(.op 0)),(391,(.op 0)),(393,(.op 0)),(394,(.fn [421])),(395,(.pair (.sl mQ)<|.pair (.fn [421]) h4)),(396,(.pair (.sl mQ)<|.pair (.fn [421]) h4)),(397,(.op 0)),(398,(.op 0)),(399,(.op 0)),(400,(.op 0)),(401,(.op 0)),(405,(.op 0)),(406,(.op 0)),(407,(.op 0)),(408,(.ar 3 mQ)),(409,(.op 0)),(410,(.op 0)),(412,(.op 0)),(413,(.ar 64<|.int .u32)),(414,(.op 0)),(415,(.op 0)),(417,(.op 0)),(418,(.op 0)),(419,(.op 0)),(420,(.op 0)),(421,(.pair (.op 0)<|.pair (.op 0) h4)),(422,(.pair (.op 0)<|.pair (.op 0) h4)),(424,(.op 2)),(426,(.fn [437,438,439,440])),(427,(.op 0)),(428,Mn),(429,(.op 0)),(430,(.ar 3 gv)),(431,(.op 0)),(432,yC),(433,(.op 0)),(434,(.op 0)),(435,(.op 0)),(436,(.op 0)),(437,(.op 0)),(438,(.op 0)),(439,(.op 0)),(440,(.op 0)),(442,(.op 0)),(443,(.op 0)),(444,(.op 0)),(445,(.op 0)),(446,(.sl<|.op 3)),(447,(.op 3)),(454,(.fn [431])),(457,(.sl<|.sl mQ))]
def acL:ab<|Nat×aw×aw:=[(90,.int .i64,.op 0),(343,.int .i64,.int .i64),(424,.int .i64,.pair (.op 0)<|.pair (.op 0)<|.unit)]
def acv:ab R:=[31,43,80]
def td:ou Tryz.prog<|Fp T5:=an9 _ _ BY
def axk:qS Tryz.prog (Fp T5)<|JT acv:=afu _ _ _ BY
def axq:sf Tryz.prog<|JU acL:=ajG _ _ BY
def xr:Tryz.prog.follows .mixedOrders=af:=BY
def axn : ∀ g, (J 0 : au R) = J g → Tryz.prog.globalNamed "yett/sha.keys" = J g := by intro g h; cases h; kernel_rfl
abbrev gH(G:ab<|Nat×fV)(I:ab<|Nat×g3)(X:ab<|Nat×jM)(Q:ab<|Nat×pf)(Pn:au<|Nat×R)(U A:aE)(b:R):dO:={ cp:=Fp T5,G:=v7 G,I:=v8 I,M:=JU acL,C:=JT acv,K:=J 0,X:=zT X,Q:=Fo Q,Pn:=Pn,U:=U,A:=A,b:=b }
def tr(m t:R):(aq:au<|Nat×R)=J (m,t)->A_ Tryz.prog m t:=λh=>by cases h
def si{E:dO}(f:R)(s:pf):Fo [] f=J s->Hd Tryz.prog E f s:=λh=>by cases h
def rc{G:ab<|Nat×fV}{I:ab<|Nat×g3}{X:ab<|Nat×jM}{Q:ab<|Nat×pf}{Pn:au<|Nat×R}{A:aE}(dG:∀f s,v7 G f=J s->h5 Tryz.prog f s)(eD:∀f g,v8 I f=J g->lh Tryz.prog f g)(ep:∀f s,zT X f=J s->jL Tryz.prog f s)
  (BA:∀f s,Fo Q f=J s->Hd Tryz.prog (gH G I X Q Pn U A b) f s) (nB:∀m t,Pn=J (m,t)->A_ Tryz.prog m t):o' Tryz.prog<|gH G I X Q Pn U A b:=⟨td,axk,axq,dG,axn,eD,ep,BA,nB⟩
abbrev FK:=h5 Tryz.prog
abbrev IK:=lh Tryz.prog
def PR {E : dO} (c4 : o' Tryz.prog E)  {fn : Func} {s : fV} (hf : Tryz.prog.funcs[f]? = J fn) (nv : R) (ax : (fn.name == "runtime.NumGoroutine") = ag := by kernel_rfl) (ak : fn.body.isSome = af := by kernel_rfl) (aX : ∀ x, PS E fn nv s.args s.res x = s.fn x) : h5 Tryz.prog f s := (aBy c4 xr hf ax nv s.args s.res ak).congr aX
def aBp {E : dO} (c4 : o' Tryz.prog E)  {fn : Func} {s : jM} (hf : Tryz.prog.funcs[f]? = J fn) (nv : R) (ax : (fn.name == "runtime.NumGoroutine") = ag := by kernel_rfl) (ak : fn.body.isSome = af := by kernel_rfl) (aX : ∀ x, JZ E fn nv s.ty s.args s.res x = s.fn x) : jL Tryz.prog f s := (aBv c4 xr hf ax nv s.ty s.args s.res ak).congr aX
def aBr {E : dO} (c4 : o' Tryz.prog E)  {fn : Func} {s : pf}  (k7 : E.Pn = J (m, bM)) (hf : Tryz.prog.funcs[f]? = J fn) (nv : R) (ax : (fn.name == "runtime.NumGoroutine") = ag := by kernel_rfl) (ak : fn.body.isSome = af := by kernel_rfl) (aX : ∀ x, PT E fn nv s.ty s.args [.im s.rt] x = s.fn x) : wS Tryz.prog f bM s.ty s.args [.im s.rt] s.fn := (aBx c4 xr hf ax nv s.ty s.args [.im s.rt] ak k7).congr aX
def aBq {E EC : dO} (c4 : o' Tryz.prog E) (r0 : o' Tryz.prog EC) {F:R} {fn f_ : Func} {s : fV}  (k7 : E.Pn = J (m, bM)) (hf : Tryz.prog.funcs[f]? = J fn) (dY : Tryz.prog.funcs[F]? = J f_) (nv ne : R) (ax : (fn.name == "runtime.NumGoroutine") = ag := by kernel_rfl) (ayZ : (f_.name == "runtime.NumGoroutine") = ag) (ak : fn.body.isSome = af := by kernel_rfl)
  (Xc:∀c A B q,fn.body=J c->Aw c=J (A,q,B)->q.2.1=F) (aX:∀x,Y8 E EC fn f_ nv ne bM s.args s.res x=s.fn x):h5 Tryz.prog f s:=(aBw c4 r0 xr hf ax dY ayZ nv ne s.args s.res k7 ak Xc).congr aX
def ajJ {E : dO} (c4 : o' Tryz.prog E)  {fn : Func} (hf : Tryz.prog.funcs[f]? = J fn) (nv : R) (ax : (fn.name == "runtime.NumGoroutine") = ag := by kernel_rfl) (ak : fn.body.isSome = af := by kernel_rfl) : lh Tryz.prog f (j0 E fn nv) := aAv c4 xr hf ax nv ak
def aBs{G:ab<|Nat×fV}{I:ab<|Nat×g3}{X:ab<|Nat×jM}{Q:ab<|Nat×pf}{A:aE}{s:pf}(h:wS Tryz.prog f bM s.ty s.args [.im s.rt] s.fn):∀g t,Fo [(f,s)] g=J t->Hd Tryz.prog (gH G I X Q (J (m,bM)) U A b) g t:=by
 intro g t hs;simp only[Fo]at hs;cases ak:Nat.beq f g with
 |true=>rw[ak]at hs;cases hs;rw[<- iM ak];exact⟨m,bM,rfl,h⟩
 |false=>rw[ak]at hs;cases hs
def a9 {G : ab<|Nat × fV} {I : ab<|Nat × g3} (dG : ∀ f s, v7 G f = J s → h5 Tryz.prog f s) (eD : ∀ f g, v8 I f = J g → lh Tryz.prog f g)  {fn : Func} {s : fV} (hf : Tryz.prog.funcs[f]? = J fn) (nv : R) (ax : (fn.name == "runtime.NumGoroutine") = ag := by kernel_rfl) (ak : fn.body.isSome = af := by kernel_rfl) (aX : ∀ x, PS (gH G I [] [] aq ag ag 0) fn nv s.args s.res x = s.fn x := by intro x; kernel_rfl) : h5 Tryz.prog f s := PR (rc dG eD kC si tr) hf nv ax ak aX
def qQ {G : ab<|Nat × fV} {I : ab<|Nat × g3} {X : ab<|Nat × jM} (dG : ∀ f s, v7 G f = J s → h5 Tryz.prog f s) (eD : ∀ f g, v8 I f = J g → lh Tryz.prog f g) (ep : ∀ f s, zT X f = J s → jL Tryz.prog f s)  {fn : Func} {s : jM} (hf : Tryz.prog.funcs[f]? = J fn) (nv : R) (ax : (fn.name == "runtime.NumGoroutine") = ag := by kernel_rfl) (ak : fn.body.isSome = af := by kernel_rfl) (aX : ∀ x, JZ (gH G I X [] aq ag ag 0) fn nv s.ty s.args s.res x = s.fn x := by intro x; kernel_rfl) : jL Tryz.prog f s := aBp (rc dG eD ep si tr) hf nv ax ak aX
def ll {G : ab<|Nat × fV} {I : ab<|Nat × g3} {A:aE}  (dG : ∀ f s, v7 G f = J s → h5 Tryz.prog f s) (eD : ∀ f g, v8 I f = J g → lh Tryz.prog f g)  {fn : Func} (hf : Tryz.prog.funcs[f]? = J fn) (nv : R) (ax : (fn.name == "runtime.NumGoroutine") = ag := by kernel_rfl) (ak : fn.body.isSome = af := by kernel_rfl) : lh Tryz.prog f (j0 (gH G I [] [] aq U A b) fn nv) := ajJ (rc dG eD kC si tr) hf nv ax ak
def aBA(b:aE)(k:R)(w:bu):Calls Tryz.prog 297 #[.bool b,.int .i64 (k:O)] w λe w'=>w'=w/\e=if b then .returned (.tuple #[]) else .panicked [{ v:=.iface 63<|.int .i64 (k:O),recovered:=ag }]:=by
 cases b with
 |true=>
  go_enter Tryz.func297,Tryz.ntmps297
  go_wp2
  exact⟨rfl,.tuple #[],BY,rfl,rfl⟩
 |false=>
  go_enter Tryz.func297,Tryz.ntmps297
  go_wp2
  have az:(Instr.panic<|Value.iface 63<|Value.int IntKind.i64 ↑k).run Tryz.prog w=.halt (.panic<|Value.iface 63<|Value.int IntKind.i64 ↑k) w:=rfl;rw[az];exact aO0
def ajP(m t:R):(J (297,63):au<|Nat×R)=J (m,t)->A_ Tryz.prog m t:=λh=>by cases h;exact⟨⟨_,Tryz.func297,BY,BY⟩,aBA⟩
abbrev Lu:fV:=⟨[qz,qz],[.im<|.bool],Fs⟩
def U_:FK 392 Lu:=a9 a0 a1 func392 7
def adz:FK 424 ⟨[gv],[.im gv,.im<|.int .u8],vy⟩:=a9 a0 a1 func424 4
end Yp
namespace Yp
open Go
section
variable {p:Prop}
def aKR(h:p:=by
 obtain⟨l,⟨⟩⟩:=x
 obtain⟨_,rfl⟩:=y9<|show an (bO 1<|aQ (l:ai)) (some ((l:ai),()))=some r from hm;obtain rfl:l=([]:ai):=PJ aA;kernel_rfl):p:=h
end
end Yp
namespace Yp
open Go Go.Proofs
set_option maxRecDepth 100000
def MN:=@Eq.trans
def Ki(c:Code):Code:=match c with|.seq a _=>a|_=>.skip
def Kj(c:Code):Code:=match c with|.seq _ (.seq (.seq c _) _)=>c|_=>.skip
def Qj(c:Code):Code:=match c with|.seq _ (.seq (.seq _<|.cond _ x _) _)=>x|_=>.skip
def Qk(c:Code):Code:=match c with|.seq _ (.seq _ z)=>z|_=>.skip
def n2(f:Func):Code:=f.body.getD .skip
def PY(f:Func)(nv:R)(ts:ab aw)(rs:ab e6)(x:i_ ts):bi<|k3<|e0 rs:=
 fill f.ntmps (oG ts x) 0 .e λt=>bi.bind (run (gH [] [] [] [] aq ag ag 0) rs f.results.toList nv f.ntmps ag (Ki<|n2 f) ⟨t,[],[]⟩) fun|.nx s=>run (gH [] [] [] [] aq ag ag 0) rs f.results.toList nv f.ntmps ag (Kj<|n2 f) s|o=>.leaf o
def y9{a r:α}(h:an c (J a)=J r):c=af/\a=r:=by
 cases c
 .cases h
 exact⟨rfl,pb h⟩
def PJ{l:ab α}(h:am (len l) 0=af):l=[]:=by
 have ac:len l=0:=by unfold am at h;exact beq_iff_eq.1 h
 unfold len at ac;exact mW.1 V
abbrev amz:fV:=⟨[.sl<|.int .u8],[.ow<|.int .u8],Nz⟩
def axx:h5 Tryz.prog 321 amz:=by
 refine PZ (E:=gH [] [] [] [] aq ag ag 0) (rc a0 a1 kC si tr) xr Tryz.func321 BY 3 _ _ (A:=Ki<|n2 Tryz.f321) (C:=Kj<|n2 Tryz.f321) (X:=Qj<|n2 Tryz.f321) (Z:=Qk<|n2 Tryz.f321) (k:=4) BY iQ
  (λx=>PD<|PY Tryz.f321 3 [.sl<|.int .u8] [.ow<|.int .u8] x) (λx=>am (len (x.1:ai)) 0) (λx=>BY) (λx=>BY) (λx r aA hm => ?_) (λx r hm => ?_)
 .exact aKR
 exact aPb
abbrev am1:fV:=⟨[.sl<|.sl<|.int .u8],[.ow<|.sl<|.int .u8],anF⟩
def axC:h5 Tryz.prog 181 am1:=by
 refine PZ (E:=gH [] [] [] [] aq ag ag 0) (rc a0 a1 kC si tr) xr Tryz.func181 BY 3 _ _ (A:=Ki<|n2 Tryz.f181) (C:=Kj<|n2 Tryz.f181) (X:=Qj<|n2 Tryz.f181) (Z:=Qk<|n2 Tryz.f181) (k:=4) BY iQ
  (λx=>PD<|PY Tryz.f181 3 [.sl<|.sl<|.int .u8] [.ow<|.sl<|.int .u8] x) (λx=>am (len (x.1:ab ai)) 0) (λx=>BY) (λx=>BY) (λx r aA hm => ?_) (λx r hm => ?_)
 .obtain⟨l,⟨⟩⟩:=x
  obtain⟨_,rfl⟩:=y9<|show an (bO 32<|aQ (l:ab ai)) (J ((l:ab ai),()))=J r from hm;obtain rfl:l=([]:ab ai):=PJ aA;kernel_rfl
 have h:an (bO 32<|bB (aQ ([]:ab ai))<|aQ (x.1:ab ai)) (J<|aL.rt (σ:=bd) (bb ([]:ab ai) (x.1:ab ai),()))=J (.rt r):=by obtain⟨Y,rfl⟩:=y9<|show an (bO 32<|aQ (x.1:ab ai)) (J ((x.1:ab ai),()))=J r from hm;rw[show bB (aQ ([]:ab ai)) (aQ (x.1:ab ai))=aQ (x.1:ab ai) from oD _,Y];rfl
 exact MN BY h
abbrev am0:fV:=⟨[.sl<|.int .u8],[.ow<|.int .u8],ot⟩
def axB:h5 Tryz.prog 87 am0:=by
 refine PZ (E:=gH [] [] [] [] aq ag ag 0) (rc a0 a1 kC si tr) xr Tryz.func87 BY 3 _ _ (A:=Ki<|n2 Tryz.f87) (C:=Kj<|n2 Tryz.f87) (X:=Qj<|n2 Tryz.f87) (Z:=Qk<|n2 Tryz.f87) (k:=4) BY iQ
  (λx=>PD<|PY Tryz.f87 3 [.sl<|.int .u8] [.ow<|.int .u8] x) (λx=>am (len (x.1:ai)) 0) (λx=>BY) (λx=>BY) (λx r aA hm => ?_) (λx r hm => ?_)
 .exact aKR
 exact aPb
abbrev amZ:fV:=⟨[.sl<|.pair (.int .i64)<|.pair (.int .i64)<|.pair (.sl<|.int .u8)<|.unit],[.ow<|.pair (.int .i64)<|.pair (.int .i64)<|.pair (.sl<|.int .u8)<|.unit],LM⟩
def axA:h5 Tryz.prog 56 amZ:=by
 refine PZ (E:=gH [] [] [] [] aq ag ag 0) (rc a0 a1 kC si tr) xr Tryz.func56 BY 3 _ _ (A:=Ki<|n2 Tryz.f56) (C:=Kj<|n2 Tryz.f56) (X:=Qj<|n2 Tryz.f56) (Z:=Qk<|n2 Tryz.f56) (k:=4) BY iQ
  (λx=>PD<|PY Tryz.f56 3 [.sl<|.pair (.int .i64)<|.pair (.int .i64)<|.pair (.sl<|.int .u8)<|.unit] [.ow<|.pair (.int .i64)<|.pair (.int .i64)<|.pair (.sl<|.int .u8)<|.unit] x) (λx=>am (len (x.1:ab<|Int×O×ai×aj)) 0) (λx=>BY) (λx=>BY) (λx r aA hm => ?_) (λx r hm => ?_)
 .obtain⟨l,⟨⟩⟩:=x
  obtain⟨_,rfl⟩:=y9<|show an (bO 80<|aQ (l:ab<|Int×O×ai×aj)) (J ((l:ab<|Int×O×ai×aj),()))=J r from hm;obtain rfl:l=([]:ab<|Int×O×ai×aj):=PJ aA;kernel_rfl
 have h:an (bO 80<|bB (aQ ([]:ab<|Int×O×ai×aj))<|aQ (x.1:ab<|Int×O×ai×aj)) (J<|aL.rt (σ:=bd) (bb ([]:ab<|Int×O×ai×aj) (x.1:ab<|Int×O×ai×aj),()))=J (.rt r):=by obtain⟨Y,rfl⟩:=y9<|show an (bO 80<|aQ (x.1:ab<|Int×O×ai×aj)) (J ((x.1:ab<|Int×O×ai×aj),()))=J r from hm;rw[show bB (aQ ([]:ab<|Int×O×ai×aj)) (aQ (x.1:ab<|Int×O×ai×aj))=aQ (x.1:ab<|Int×O×ai×aj) from oD _,Y];rfl
 exact MN BY h
end Yp
namespace Yp
open Go
section
variable {p:Prop}
def aLq(h:p:=by
 gi_wp2
 refine bodyPost_ret (results_none rfl _ _ _) rfl ?_;exact⟨⟨_,rfl⟩,.inr ⟨k+1,V,by rw[oU];exact Xg⟩⟩):p:=h
end
end Yp
namespace Yp
open Go Go.Proofs Go.RowKit Go.Shelf
def n0:=@List.nil_append
def vc:=@Array.replicate_zero
def vd:=@List.append_toArray
def vg:=@List.push_toArray
def A4:=@List.range_succ
def M4:=@List.filter_append
attribute [local go_sem] Oper.semAt_some
def ka(res:R->aE)(k:R):ab R:=(fw k).filter res
def aid(res:R->aE)(k:R):ka res (k+1)=ka res k++if res k=af then[k]else[]:=by
 unfold ka;rw[A4,M4]
 grind
def ayE(res:R->aE)(k:R):(ka res k).length<=k:=by have:=np res<|List.range k;unfold ka;simpa using this
set_option maxRecDepth 100000 in
set_option maxHeartbeats 2000000 in
def awr(n l G7 AY n₀ b off cap N:R)(ad:au Addr)(CF Kk:Value)(cf:R->Value×Value)(res:R->aE)(jo:∀j,∃a n c bn n' dj,cf j=(.slice a n c,.slice bn n' dj))(fE:N<=9223372036854775807)(ak:0<N->ad=J ⟨b,off,aq⟩/\b<n₀)(iX t1:ab R->bu->Prop)
  (m7:∀s W gO,iX s W->Below W.heap.size W gO->iX s gO)
  (xt:∀(pre:ab R) (x:R) W,iX pre W->x<N->res x=af->pre.length<N->YieldAt Fence.wide n Tryz.prog l #[.int .i64 (x:O)] W λe gO=>
   (e=.returned (.bool af)/\iX (pre++[x]) gO/\Below n₀ W gO)\/(e=.returned (.bool ag)/\t1 (pre++[x]) gO))
  (W:bu) (axh:W.cell? ⟨G7,0,aq⟩=J (.slice ad N cap)) (axe:W.cell? ⟨AY,0,aq⟩=J (.func (.func 403) #[.agg #[CF,Kk]] #[])) (axi:G7<n₀) (aho:AY<n₀) (ax:n₀<=W.heap.size)
  (oQ:∀j,j<N->W.cell? ⟨b,off+j*2,aq⟩=J (cf j).1) (uq:∀j,j<N->W.cell? ⟨b,off+j*2+1,aq⟩=J (cf j).2)
  (Xd:∀j,j<N->∀w,Below n₀ W w->CallsIn Fence.wide n Tryz.prog 403 #[.agg #[CF,Kk],.agg #[(cf j).1,(cf j).2]] w λe w'=>e=.returned (.bool<|res j)/\Below w.heap.size w w') (aC:iX [] W) :
  CallsIn Fence.wide (n+1) Tryz.prog 441 #[.func (.yield l) #[] #[],.pointer<|some ⟨G7,0,aq⟩,.pointer<|some ⟨AY,0,aq⟩] W λe gO=>(∃v,e=.returned v) /\
   (iX (ka res N) gO\/(∃k,k<=N/\t1 (ka res k) gO)):=by
 have aIZ:Fence.wide.fn 403:=trivial;refine callsIn_of_wp Tryz.func441 rfl trivial ?_ rfl;simp only[Tryz.ntmps441,qI,gd,gM,Nat.reduceAdd,Nat.reduceSub,t0,vc,vg,vd,n0,sN]
 gi_wp2
 gi_loopw [8] (λi wr=>∃k:R,k<=N/\i=.int .i64 k/\iX (ka res k) wr/\Below n₀ W wr/\W.heap.size<=wr.heap.size)
  (λi _=>N-(intOf i).toNat)
 case atStart=>exact⟨0,V,rfl,aC,Below.refl _ _,cx _⟩
 case round=>
  obtain⟨k,aB,rfl,ET,pB,dA⟩:=hrel;have aIy:wr.cell? ⟨G7,0,aq⟩=J (.slice ad N cap):=(pB.cell (p:=⟨G7,0,aq⟩) axi).trans axh;have axf:wr.cell? ⟨AY,0,aq⟩=J (.func (.func 403) #[.agg #[CF,Kk]] #[]):=(pB.cell (p:=⟨AY,0,aq⟩) aho).trans axe;by_cases bK:k<N
  .have xE:(k:O)<(N:O):=V
   obtain⟨rfl,xw⟩:=ak V;have dM:wr.cell? ⟨b,off+k*2,aq⟩=J (cf k).1:=(pB.cell (p:=⟨b,off+k*2,aq⟩) xw).trans<|oQ k bK;have e1:wr.cell? ⟨b,off+k*2+1,aq⟩=J (cf k).2:=(pB.cell (p:=⟨b,off+k*2+1,aq⟩) xw).trans<|uq k bK;have Xe:=Xd k bK;have axv:=xt (ka res k) k;obtain⟨c9,x2,c1,dl,uG,c2,ayg⟩:=jo k;rw[ayg]at dM e1 Xe;dsimp only at dM e1 Xe;have hb3:Below wr.heap.size wr<|wr.alloc<|.cells #[.slice c9 x2 c1,.slice dl uG c2] 121:=(Below.refl _ _).alloc (cx _) _;have E7:n₀<=wr.heap.size:=i6 ax dA;have aIx:(wr.alloc<|.cells #[.slice c9 x2 c1,.slice dl uG c2] 121).cell? ⟨AY,0,aq⟩=J (.func (.func 403) #[.agg #[CF,Kk]] #[]):=(hb3.cell (p:=⟨AY,0,aq⟩)<|ge aho E7).trans axf;have O1:=Xe _<|pB.trans<|hb3.mono E7;have aht:=m7 _ _ _ ET hb3;cases hh:res k
   .rw[hh]at O1
    have oU:ka res (k+1)=ka res k:=by rw[aid,hh,aD bP,g?]
    gi_wp2_with (gi_at_call 403;refine O1.mono ?_;rintro e cW ⟨rfl,hb1⟩)
    refine⟨λ_ _=>trivial,?_⟩
    gi_wp2
    refine⟨⟨k+1,V,bP,by rw[oU];exact m7 _ _ _ aht hb1,(pB.trans<|hb3.mono E7).trans<|hb1.mono<|i6 E7 hb3.size,i6 dA<|i6 hb3.size hb1.size⟩,?_⟩;simp[intOf];omega
   rw[hh]at O1;have oU:ka res (k+1)=ka res k++[k]:=by rw[aid,hh,aH rfl]
   have hl:=ayE res k
   gi_wp2_with (gi_at_call 403;refine O1.mono ?_;rintro e cW ⟨rfl,hb1⟩;obtain⟨fn,tmps,assign,body,bW,j'⟩:=axv cW (m7 _ _ _ aht hb1) bK hh V)
   refine j'.mono ?_;rintro e apM (⟨rfl,Xf,gi⟩|⟨rfl,Xg⟩)
   .gi_wp2
    refine⟨⟨k+1,V,bP,by rw[oU];exact Xf,((pB.trans<|hb3.mono E7).trans<|hb1.mono<|i6 E7 hb3.size).trans gi,i6 dA<|i6 (i6 hb3.size hb1.size) gi.size⟩,?_⟩;simp[intOf];omega
   exact aLq
  have qb:k=N:=V;subst qb;have xE:¬((k:R):O)<(k:O):=V
  gi_wp2
  go_end0
  exact⟨⟨_,rfl⟩,.inl ET⟩
set_option maxRecDepth 100000 in
def aws(m:R)(a:au Addr)(n cap:R)(f:Value)(w:bu)(a3:f.oneCell'=af):CallsIn Fence.wide m Tryz.prog 404 #[.slice a n cap,f] w λe w'=>e=.returned (.func (.func 441) #[] #[.pointer<|some ⟨w.heap.size,0,aq⟩,.pointer<|some ⟨w.heap.size+1,0,aq⟩])/\w'=(w.alloc<|.cells #[.slice a n cap] 51).alloc (.cells #[f] 431):=by
 refine callsIn_of_wp Tryz.func404 rfl trivial ?_ rfl;simp only[Tryz.ntmps404,qI,gd,gM,Nat.reduceAdd,Nat.reduceSub,t0,vc,vg,vd,n0,sN]
 gi_wp2
 go_ret
 exact aNB
end Yp
namespace Yp
open Go
def pX:=@AX
def ie:=@Int.toNat_natCast
def j7:=@List.getElem_mem
def sK:=@List.ext_getElem
def sM:=@List.getElem_map
def yQ:=@List.getElem_range
def A9:=@Nat.pow_le_pow_right
def wZ:=@Nat.two_pow_add_eq_or_of_lt
def wX:=@UInt8.toNat_inj
def D2:=@BitVec.ofInt_natCast
def Hl:=@Nat.div_le_self
def M5:=@BitVec.toNat_ofNat
def T':=@Nat.div_div_eq_div_mul
def t4:=@Nat.div_eq_of_lt
def Ho:=@Int.ofNat.inj
def Uc:=@Nat.pow_pos
def T7:=@Int.natCast_pow
def G_:=@Nat.pow_succ
def TT:=@List.getElem_set
def Mx:=@Nat.pow_add
def My:=@Nat.lt_irrefl
theorem ajz{σ ρ:Type}{f:σ->au (aL σ ρ)}:∀{n m:R} {x:σ} {r:aL σ ρ},pF f n x=J r->n<=m->pF f m x=J r
 |n+1,m+1,x,r,h,hm=>by
  simp only[pF]at h ⊢;split at h
  .exact ajz h V
  exact h
theorem qh{f:σ->au (aL σ ρ)}{x:σ}{r:aL σ ρ}(n:R)(h:pF f n x=J r):bG f x=J r:=by
 have xz:∃n,(pF f n x).isSome:=⟨n,aKU⟩;unfold bG;have hs:=Classical.choose_spec xz;obtain⟨st,az⟩:=Option.isSome_iff_exists.1 hs
 grind [ajz]
theorem dT{f:σ->au (aL σ ρ)}{x y:σ}(h:f x=J (.nx y)):bG f x=bG f y:=by
 cases bW:bG f y with
 |some r =>obtain⟨n,ax⟩:=Y0 bW;exact qh (n+1) (by simp[pF,h,ax])
 |none=>
  cases hx:bG f x with
  |none=>rfl
  |some r=>
   obtain⟨n,ax⟩:=Y0 hx;cases n with
   |zero=>simp[pF]at ax
   |succ n=>
    grind [pF,qh]
theorem dr{f:σ->au (aL σ ρ)}{x y:σ}(h:f x=J (.ex k y)):bG f x=J (.ex k y):=qh 1 (by simp[pF,h])
theorem oY{f:σ->au (aL σ ρ)}{x:σ}{r:ρ}(h:f x=J (.rt r)):bG f x=J (.rt r):=qh 1 (by simp[pF,h])
def gS{f:σ->au (aL σ ρ)}(cI:R->σ)(n:R)(h:∀i,i<n->f (cI i)=J (.nx<|cI<|i+1)):∀i,i<=n->bG f (cI i)=bG f (cI n):=by
 intro i ao;obtain⟨d,rfl⟩:∃d,n=i+d:=⟨n-i,V⟩;clear ao;induction d generalizing i with
 |zero=>rfl
 |succ d ih =>rw[dT<|h i V];have:=ih (i+1)<|λj aF=>h j V;rw[this];congr 2;omega
theorem fF{n:O}(Y : -9223372036854775808<=n)(ac:n<=9223372036854775807):i64 n=n:=by
 show(if(af&&decide (n%18446744073709551616 ≥ 9223372036854775808))=af then n%18446744073709551616-18446744073709551616 else n%18446744073709551616)=n
 grind
theorem Gw(a b:α):aa af a b=a:=rfl
theorem C9(a b:α):aa ag a b=b:=rfl
theorem y_(a:au α):an af a=a:=rfl
theorem Zr(a:α)(k:α->au β):ob (J a) k=k a:=rfl
end Yp
namespace Yp
open Go
theorem b3{o:au α}{a:α}{k:α->au β}(h:o=J a):ob o k=k a:=aKU
theorem bj{a b:α}(h:c=af):aa c a b=a:=aKU
theorem bf{a b:α}(h:c=ag):aa c a b=b:=aKU
theorem c3{a:au α}(h:c=af):an c a=a:=aKU
def cE{o dZ:au<|aL σ ρ}{kn:σ->au β}{ij:R->σ->au β}{iD:ρ->au β}(h:o=dZ):b? o kn ij iD=b? dZ kn ij iD:=by rw[h]
def og{f:σ->au (aL σ ρ)}(cI:R->σ)(n:R)(p:R->Prop)(r:ρ)(k:R)(hs:∀i,i<n->(∀j,j<=i->p j)->f (cI i)=J (.nx<|cI<|i+1))(ak:∀i,i<n->(∀j,j<i->p j)->¬p i->f (cI i)=J (.rt r))
  (aX:(∀i,i<n->p i)->f (cI n)=J (.ex k<|cI n)):((∀i,i<n->p i)/\bG f (cI 0)=J (.ex k<|cI n))\/((∃i,i<n/\¬p i)/\bG f (cI 0)=J (.rt r)):=by
 by_cases h:∀i,i<n->p i
 .refine .inl ⟨h,?_⟩
  rw[gS cI n (λi ao=>hs i ao λj aF=>h j V) 0<|ea _];exact dr<|aX h
 refine .inr ?_;have xz:∃i,i<n/\¬p i:=by refine lI λaA=>h λi ao=>lI λhp=>aA ⟨i,ao,hp⟩
 refine⟨xz,?_⟩;obtain⟨k,aB,hp⟩:=xz;induction k using Nat.strongRecOn with
 |_ k ih=>
  by_cases hl:∃j,j<k/\¬p j
  .obtain⟨j,aF,X0⟩:=hl
   exact ih j aF V X0
  have hall:∀i,i<k->p i:=λi ao=>lI λhp=>hl ⟨i,ao,hp⟩;rw[gS cI k (λi ao=>hs i V λj aF=>hall j V) 0<|ea _];exact oY<|ak k aB hall hp
def xY:aK (a:O) (b:O)=decide (a<b):=by unfold aK;rw[decide_eq_decide];omega
def YP:bL (a:O) (b:O)=decide (a<=b):=by unfold bL;rw[decide_eq_decide];omega
theorem cB{a b:O}(h:a<b):aK a b=af:=iv h
theorem cm{a b:O}(h:¬a<b):aK a b=ag:=iW h
theorem il{a b:O}(h:a<=b):bL a b=af:=iv h
theorem jG{a b:O}(h:¬a<=b):bL a b=ag:=iW h
theorem ck{a b:O}(h:a=b):am a b=af:=by unfold am;exact beq_iff_eq.2 h
theorem cc{a b:O}(h:¬a=b):am a b=ag:=by unfold am;exact beq_eq_false_iff_ne.2 h
theorem At{a b:ai}(h:a=b):seq a b=af:=by unfold seq;exact beq_iff_eq.2 h
theorem C?{a b:ai}(h:¬a=b):seq a b=ag:=aNZ
def FA(h:a<b):k_ a b=af:=by unfold k_;rw[ME];exact h
def Zg(h:¬a<b):k_ a b=ag:=by
 grind [k_,Nat.blt_eq]
theorem gr(h:a<n):aO (a:O) (n:O)=af:=by
 grind [aO]
def ai0{a n:O}(aC:0<=a)(h:a<n):aO a n=af:=by
 grind [aO]
theorem q7{a b n:O}(aC:0<=a)(h:a<=b)(ce:b<=n):cq a b n=af:=by
 grind [cq]
theorem kW{c:R}(h:n*c<=140737488355328):bO c n=af:=iv h
theorem r'(h:n<=9223372036854775807):i64 (n:O)=(n:O):=fF V V
theorem aA4(l:ab α):len l=((T l:R):O):=rfl
theorem nth_get{l:ab α}{d:α}(h:i<T l):ap l i d=l[i]:=by
 grind [ap]
theorem zY(x:aN):x.toNat<256:=x.toNat_lt
theorem L7(q:R):u8 (q:O)=hy q:=by apply wX.1;simp[u8,UInt8.ofInt];omega
def aJi(b n:R):((b:O)^n)=((b^n:R):O):=(T7 b n).symm
def afM{l:ai}(h:i<T l)(hl:l[i].toNat<128):iZ l i=(l[i].toNat,1):=by
 have ak:((⟨l.toArray⟩:ByteArray).get!<|i+0).toNat=l[i].toNat:=aOb
 unfold iZ Utf8.decode;simp only[ak];rw[aH hl]
def ava{l:ai}(h:i<T l)(hl:¬l[i].toNat<128):128<=(iZ l i).1/\(iZ l i).1<=1114111:=by
 have ak:((⟨l.toArray⟩:ByteArray).get!<|i+0).toNat=l[i].toNat:=aOb
 have ahn:=zY l[i];unfold iZ Utf8.decode;simp only[ak,aD hl,Utf8.runeError];have b:∀k,((⟨l.toArray⟩:ByteArray).get! k).toNat<256:=λk=>zY _;generalize l[i].toNat=c at *
 repeat' split
 all_goals simp only
 all_goals (rename_i aA a?;simp only[d5,lH,beq_iff_eq,Utf8.valid,A2]at aA a?;omega)
def aAj:aG (a:O) (b:O)=((a+b:R):O):=by simp[aG]
def aAm:dI (a:O) (b:O)=((a*b:R):O):=by simp[dI]
def aAF(h:b<=a):bw (a:O) (b:O)=((a-b:R):O):=ap_
def aAk:de (a:O) (b:O)=((a/b:R):O):=aO3
def zF:cY (a:O) (b:O)=((a%b:R):O):=aO4
theorem gY(h:a+b<=9223372036854775807):i64 (aG (a:O) (b:O))=((a+b:R):O):=by rw[aAj,r' h]
def Fc(h:a*b<=9223372036854775807):i64 (dI (a:O) (b:O))=((a*b:R):O):=by rw[aAm,r' h]
theorem Yq(h:b<=a)(ce:a<=9223372036854775807):i64 (bw (a:O) (b:O))=((a-b:R):O):=by rw[aAF h,r' V]
def zD(ce:a<=9223372036854775807):i64 (de (a:O) (b:O))=((a/b:R):O):=by rw[aAk,r'<|i6 (Hl _ _) ce]
theorem eO:ah (a:O)=a:=by simp[ah]
def aBD(h:a<256):aV (u8 (a:O))=(a:O):=by
 grind [L7,aV,UInt8.toNat_ofNat']
end Yp
namespace Yp
open Go
def bE(B:R)(g:R->aN)(v:R):R->ai
 |0=>[]
 |n+1=>g (v/B^n%B)::bE B g v n
theorem mj(B:R)(g:R->aN)(v:R):∀n,T (bE B g v n)=n
 |0=>rfl
 |n+1=>by simp[bE,mj B g v n]
def g4(d:R):aN:=hy<|48+d
def l_(d:R):aN:=hy d
def abX{d z:aN}{GS:ai}:cA (cb (n+1) z++GS) n d=cb n z++d::GS:=by
 induction n with
 |zero=>simp[cA,cb]
 |succ n ih=>
  have e1:cb (n+1+1) z++GS=z::(cb (n+1) z++GS):=by simp[cb,Nc]
  have bh:cb (n+1) z++d::GS=z::(cb n z++d::GS):=by simp[cb,Nc]
  rw[e1,bh,<- ih];rfl
def XB:ai:=[48,49,50,51,52,53,54,55,56,57,97,98,99,100,101,102]
def ayl:∀d,d<10->ap XB d (u8 0)=g4 d:=di
theorem Oa(v w:O)(a3:v<=9223372036854775807):vG (v,w,())=J (if 1<=w/\w<=18/\0<=v/\v<10^w.toNat then(bE 10 g4 v.toNat w.toNat,0,()) else([],1,())):=by
 unfold vG;by_cases Y:w<1
 .exact aNS
 by_cases ac:18<w
 .exact aNS
 by_cases av:v<0
 .exact aNS
 obtain⟨n,rfl⟩:∃n:R,w=n:=⟨w.toNat,V⟩;obtain⟨b5,rfl⟩:∃n:R,v=n:=⟨v.toNat,V⟩;simp only[aK,Y,ac];have c0:df (cq 0 (n:O) n) (bO 1<|ah n)=af:=by simp[df,cq,bO,ah];omega
 rw[c0,y_];have dM:i64 (bw (n:O) 1)=(n:O)-1:=fF ap_ ap_;rw[dM];generalize hf:(λ(x:O×O×ai×aj)=>_)=f;have step:∀i,i<n->f (((b5/10^i:R):O),(n:O)-1-i,cb (n-i) (u8 0)++bE 10 g4 b5 i,())=J (.nx (((b5/10^(i+1):R):O),(n:O)-1-(i+1:R),cb (n-(i+1)) (u8 0)++bE 10 g4 b5 (i+1),())):=by
  intro i ao;subst hf;have hm:cY ((b5/10^i:R):O) 10=((b5/10^i%10:R):O):=aO4
  have bK:b5/10^i%10<10:=DK _ V;have ct:b5/10^i<=b5:=Hl _ _;have a?:i64 (de ((b5/10^i:R):O) 10)=((b5/10^(i+1):R):O):=by
   have:de ((b5/10^i:R):O) 10=((b5/10^i/10:R):O):=aO3
   rw[this,r' V,T',G_]
  have xB:i64 (bw ((n:O)-1-i) 1)=(n:O)-1-(i+1:R):=by
   grind [fF,bw]
  have ayN:bL 0 ((n:O)-1-i)=af:=aL_
  have hb1:aO ((b5/10^i%10:R):O) (len [48,49,50,51,52,53,54,55,56,57,97,98,99,100,101,102])=af:=gr (n:=16) V;have hb2:aO ((n:O)-1-i) (len<|cb (n-i) (u8 0)++bE 10 g4 b5 i)=af:=by
   grind [aO,len,cb]
  have ax:ah ((n:O)-1-i)=n-(i+1):=by simp only[ah];omega
  have zw:ah ((b5/10^i%10:R):O)=b5/10^i%10:=by simp only[ah];omega
  have hs:cb (n-i) (u8 0)=cb (n-(i+1)+1) (u8 0):=by congr 1;omega
  show aa (bL 0<|(n:O)-1-i) _ _=_;rw[ayN,Gw];simp only[hm];rw[hb1,y_,hb2,y_,a?,xB,ax,zw,hs,abX];have:=ayl _ bK;simp only[XB]at this;rw[this];rfl
 have lR:=gS (f:=f) (λi=>(((b5/10^i:R):O),(n:O)-1-i,cb (n-i) (u8 0)++bE 10 g4 b5 i,())) n step 0 V;have dh:f (((b5/10^n:R):O),(n:O)-1-n,cb (n-n) (u8 0)++bE 10 g4 b5 n,())=J (.ex 0 (((b5/10^n:R):O),(n:O)-1-n,cb (n-n) (u8 0)++bE 10 g4 b5 n,())):=by
  grind [bL,C9]
 have e1:(((b5/10^0:R):O),(n:O)-1-(0:R),cb (n-0) (u8 0)++bE 10 g4 b5 0,())=(((b5:R):O),(n:O)-1,cb (ah n)<|u8 0,()):=by simp[bE,ah]
 rw[e1,dr dh]at lR;rw[lR];have bh:cb (n-n) (u8 0)++bE 10 g4 b5 n=bE 10 g4 b5 n:=aNY
 simp only[b?,bh];by_cases bK:b5<10^n
 .have:=t4 bK
  rw[this,aH ⟨V,V,V,by exact_mod_cast bK⟩];rfl
 have:0<b5/10^n:=Nat.div_pos V<|Uc V;rw[aD<|λh=>bK<|by exact_mod_cast h.2.2.2];have hp:decide ((0:O)<((b5/10^n:R):O))=af:=by simp only[lH];omega
 rw[hp];rfl
end Yp
namespace Yp
open Go
theorem aHA(q:R):u8 (q:O)=l_ (q%256):=rfl
def ant{b5:R}(aB:k<=64):e4 .i64 (b5:O) (k:O)=((b5/2^k:R):O):=by
 unfold e4;have:Nat.min (Int.toNat (k:O)) IntKind.i64.bits=k:=by exact D1 aB
 grind
def V'(v w:O)(a3:v<=9223372036854775807):qU (v,w,())=J (if 1<=w/\w<=8/\0<=v/\v<256^w.toNat then(bE 256 l_ v.toNat w.toNat,0,()) else([],1,())):=by
 unfold qU;by_cases Y:w<1
 .rw[aD V];simp[aa,ob,aK,Y,aI]
 by_cases ac:8<w
 .rw[aD V];simp[aa,ob,aK,Y,ac,aI]
 by_cases av:v<0
 .rw[aD V];simp[aa,ob,aK,Y,ac,av,aI]
 obtain⟨n,rfl⟩:∃n:R,w=n:=⟨w.toNat,V⟩;obtain⟨b5,rfl⟩:∃n:R,v=n:=⟨v.toNat,V⟩;have ait:∀i,(256:R)^i=2^(8*i):=λi=>by rw[Nat.pow_mul]
 have mz:∀i:R,i<=8->i64 (dI 8 (i:O))=((8*i:R):O):=λi ao=>by
  have:dI 8 (i:O)=((8*i:R):O):=by simp[dI]
  rw[this,r' V]
 have ax5:(aa (aK (n:O) 8) (an (bL 0<|i64<|dI 8 (n:O))<|some (aK 0<|e4 IntKind.i64 (b5:O)<|i64<|dI 8 (n:O),())) (J (ag,())):au<|Bool×aj)=J (decide (¬b5<256^n),()):=by
  by_cases cH:n<8
  .have c1:aK (n:O) 8=af:=by simp only[aK,lH];omega
   have c2:bL 0 ((8*n:R):O)=af:=aL_
   rw[c1,Gw,mz n V,c2,y_,ant V];have:aK 0 ((b5/2^(8*n):R):O)=decide (¬b5<256^n):=by
    unfold aK;rw[decide_eq_decide,ait];constructor
    .intro h aA
     rw[t4 aA]at h;simp at h
    intro h;have:=Nat.div_pos (Nat.le_of_not_lt h)<|Uc V;omega
   rw[this]
  have c1:aK (n:O) 8=ag:=by simp only[aK,decide_eq_false_iff_not];omega
  have:n=8:=V;rw[c1,C9,this];have:b5<256^8:=by have:(256:R)^8=18446744073709551616:=di;omega
  simp[this]
 rw[ax5];simp only[aK,Y,ac,av,decide_false,decide_true,C9,Gw,Zr,ie];have hp:((256:O)^n)=((256^n:R):O):=(T7 256 n).symm;by_cases bK:b5<256^n
 rotate_left
 .rw[aD<|λh=>bK (by have:=h.2.2.2;rw[hp]at this;exact Int.ofNat_lt.1 this)]
  have a?:decide (¬b5<256^n)=af:=iv bK;rw[a?,Gw];rfl
 rw[aH ⟨V,V,V,by rw[hp];exact Int.ofNat_lt.2 bK⟩];have a?:decide (¬b5<256^n)=ag:=iW<|λh=>h bK;rw[a?,C9];have c0:df (cq 0 (n:O) n) (bO 1<|ah n)=af:=by simp[df,cq,bO,ah];omega
 rw[c0,y_];have dM:i64 (bw (n:O) 1)=(n:O)-1:=fF ap_ ap_;rw[dM];generalize hf:(λ(x:O×ai×aj)=>_)=f;have step:∀i,i<n->f ((i:O),cb (n-i) (u8 0)++bE 256 l_ b5 i,())=J (.nx (((i+1:R):O),cb (n-(i+1)) (u8 0)++bE 256 l_ b5 (i+1),())):=by
  intro i ao;subst hf;have c1:(decide ((i:O)<len (cb (ah (n:O))<|u8 0)))=af:=by simp only[len,cb,ah,wU,lH];omega
  have c2:bL 0 ((8*i:R):O)=af:=aL_
  have fK:i64 (bw ((n:O)-1) i)=((n-(i+1):R):O):=by
   have:bw ((n:O)-1) i=((n-(i+1):R):O):=ap_
   rw[this,r' V]
  have lK:aO ((n-(i+1):R):O) (len<|cb (n-i) (u8 0)++bE 256 l_ b5 i)=af:=by refine gr ?_;simp only[d7,mj,cb,wU];omega
  have c5:i64 (aG (i:O) 1)=((i+1:R):O):=by
   have:aG (i:O) 1=((i+1:R):O):=by simp[aG]
   rw[this,r' V]
  have hs:cb (n-i) (u8 0)=cb (n-(i+1)+1) (u8 0):=by congr 1;omega
  show aa (decide ((i:O)<len (cb (ah (n:O))<|u8 0))) _ _=_;rw[c1,Gw];simp only[mz i V,fK];rw[c2,y_,lK,y_,c5,ant V,aHA,hs];have:ah ((n-(i+1):R):O)=n-(i+1):=by simp[ah]
  rw[this,abX,<- ait];rfl
 have lR:=gS (f:=f) (λi=>((i:O),cb (n-i) (u8 0)++bE 256 l_ b5 i,())) n step 0 V;have dh:f ((n:O),cb (n-n) (u8 0)++bE 256 l_ b5 n,())=J (.ex 0 ((n:O),cb (n-n) (u8 0)++bE 256 l_ b5 n,())):=by
  subst hf;have c1:(decide ((n:O)<len (cb (ah (n:O))<|u8 0)))=ag:=by simp only[len,cb,ah,wU,decide_eq_false_iff_not];omega
  show aa (decide ((n:O)<len (cb (ah (n:O))<|u8 0))) _ _=_;rw[c1,C9]
 have e1:(((0:R):O),cb (n-0) (u8 0)++bE 256 l_ b5 0,())=((0:O),cb (ah n)<|u8 0,()):=by simp[bE,ah]
 rw[e1,dr dh]at lR;rw[lR];have bh:cb (n-n) (u8 0)++bE 256 l_ b5 n=bE 256 l_ b5 n:=aNY
 simp only[b?,bh];rfl
end Yp
namespace Yp
open Go
def jp(c:aN):Prop:=48<=c.toNat/\c.toNat<=57
instance (c:aN):hu<|jp c:=inferInstanceAs<|Decidable (_/\_)
def gX(s:ai):Prop:=∀(i:R) (h:i<T s),jp s[i]
def val(s:ai):R:=s.foldl (λn c=>10*n+(c.toNat-48)) 0
theorem L'{s:ai}(h:i<T s):val (s.take<|i+1)=10*val (s.take i)+(s[i].toNat-48):=by
 grind [val,AX]
def Ta{s:ai}:∀i,i<=T s->(∀j,j<i->∀h:j<T s,jp s[j])->val (s.take i)<10^i
 |0,_,_=>by simp[val]
 |i+1,h,hf=>by
  have:=Ta i V<|λj aF=>hf j V
  grind [L',jp]
def Qm(h:i<=18):10^i<=1000000000000000000:=by have:=A9 (n:=10) V h;exact this
def avd{c:R}(Y:48<=c)(ac:c<=57):ua (bc c,())=J (((c-48:R):O),af,()):=by have:c=48\/c=49\/c=50\/c=51\/c=52\/c=53\/c=54\/c=55\/c=56\/c=57:=V;rcases this with rfl|rfl|rfl|rfl|rfl|rfl|rfl|rfl|rfl|rfl<;>decide
def afU{c:R}(h:¬(48<=c/\c<=57)):∃q:O,ua (bc c,())=J (q,ag,()):=by
 refine⟨i64<|Jw<|bw (bc c) 48,?_⟩;unfold ua;by_cases Y:48<=c
 .refine(b3<|bj<|il aN6).trans ?_
  show J (_,bL (bc c) 57,())=_;rw[jG aN6]
 refine(b3<|bf<|jG aN6).trans ?_;rfl
def Wv{s:ai}(h:i<T s)(hf:jp s[i]):ua (bc (iZ s i).1,())=J (((s[i].toNat-48:R):O),af,())/\(iZ s i).2=1:=by
 have hl:s[i].toNat<128:=by unfold jp at hf;omega
 rw[afM h hl];exact⟨avd hf.1 hf.2,rfl⟩
def Wu{s:ai}(h:i<T s)(hf:¬jp s[i]):∃q:O,ua (bc (iZ s i).1,())=J (q,ag,()):=by
 by_cases hl:s[i].toNat<128
 .rw[afM h hl];exact afU hf
 have:=ava h hl;exact afU V
def zg{s:ai}:gX s↔∀i,i<T s->∀h:i<T s,jp s[i]:=⟨λh i ao _=>h i ao,λh i ao=>h i ao ao⟩
instance (s:ai):hu<|gX s:=inferInstanceAs<|Decidable (∀(i:R) (h:i<T s),jp s[i])
def Wa(s:ai):vH (s,())=J (if 1<=T s/\T s<=18/\gX s then((val s:O),0,()) else(0,2,())):=by
 by_cases Y:T s<1
 .exact aPJ
 by_cases ac:18<T s
 .refine(b3<|(bf<|cm In).trans<|congrArg (λb=>J (b,()))<|cB In).trans ?_
  rw[aD V];rfl
 refine(b3<|(bf<|cm In).trans<|congrArg (λb=>J (b,()))<|cm In).trans ?_;generalize hf:(λx=>_)=f;have key:=og (f:=f) (λi=>(0,0,(val (s.take i):O),i,())) (T s) (λi=>∀h:i<T s,jp s[i]) (0,2,()) 0 ?_ ?_ ?_
 .have dM:((0:O),(0:O),(val (s.take 0):O),0,())=((0:O),(0:O),(0:O),0,()):=by simp[val]
  rw[dM]at key;rcases key with⟨hall,az⟩|⟨⟨i,ao,ax⟩,az⟩
  .rw[az,aH ⟨V,V,zg.2 hall⟩]
   show J ((val (s.take<|List.length s):O),(0:O),())=_;rw[qH]
  rw[az,aD<|λaA=>ax<|zg.1 aA.2.2 i ao];rfl
 .intro i ao hp
  subst hf;obtain⟨e1,bh⟩:=Wv ao<|hp i (cx _) ao;refine(bj<|FA ao).trans ?_;refine(b3 e1).trans ?_;have a3:=Ta (i+1) V<|λj aF=>hp j V;have hp:=Qm (i:=i+1) V;rw[L' ao]at a3;have c1:i64 (dI 10 (val (s.take i):O))=((10*val (s.take i):R):O):=Fc (a:=10) V;simp only[bh,c1];rw[gY V,L' ao];rfl
 .intro i ao _ hp
  exact an_
 intro _;subst hf;exact bf<|Zg (My _)
end Yp
namespace Yp
open Go
def aDd{w:R}(ak:1<=b)(h:b^w<=9223372036854775807):∀i,i<=w->b^i<=9223372036854775807:=λi ao=>i6 (A9 ak ao) h
def aah(b w:R)(ak:1<=b)(bR:w<=1000)(h:b^w<=9223372036854775807):yg ((b:O),(w:O),())=J (((b^w:R):O),()):=by
 unfold yg;generalize hf:(λx=>_)=f;have key:=og (f:=f) (λi=>(((b^i:R):O),(i:O),())) w (λ_=>True) (0,()) 0 ?_ ?_ ?_
 .have dM:(((b^0:R):O),((0:R):O),())=((1:O),(0:O),()):=bP
  rw[dM]at key;rcases key with⟨_,az⟩|⟨⟨i,ao,ax⟩,az⟩
  .rw[az];rfl
  grind
 .intro i ao _
  subst hf;refine(bj<|cB<|show(i:O)<(w:O) by omega).trans ?_;have:=aDd ak h (i+1) V;rw[G_]at this;rw[Fc this];have c:i64 (aG (i:O) 1)=((i+1:R):O):=gY (b:=1) V;rw[c,<- G_]
 .grind
 grind [bf,cm]
theorem alo(s:ai)(hl:T s<=1000000):Kz (s,())=J (decide (gX s),()):=by
 unfold Kz;generalize hf:(λx=>_)=f;have cond:∀i (ao:i<T s),(aa (aK (aV<|ap s (ah (i:O))<|u8 0)<|aV<|u8 48) (J (af,())) (an (aO (i:O)<|len s)<|some (aK (aV<|u8 57)<|aV<|ap s (ah (i:O))<|u8 0,())):au<|Bool×aj)=J (decide (¬jp s[i]),()):=by
  intro i ao;have dP:aO (i:O) (len s)=af:=gr ao;rw[eO,nth_get ao,dP,y_];have e1:aV (u8 48)=48:=di;have bh:aV (u8 57)=57:=di
  grind [cB,aV,Gw,jp,cm,C9]
 have key:=og (f:=f) (λi=>(ag,(i:O),())) (T s) (λi=>∀h:i<T s,jp s[i]) (ag,()) 0 ?_ ?_ ?_
 .rcases key with⟨hall,az⟩|⟨⟨i,ao,ax⟩,az⟩
  .rw[show(ag,((0:R):O),())=(ag,(0:O),()) from rfl]at az
   rw[az,iv<|zg.2 hall];rfl
  rw[show(ag,((0:R):O),())=(ag,(0:O),()) from rfl]at az;rw[az,iW<|λaA=>ax<|zg.1 aA i ao];rfl
 .grind [bj,cB,len,c3,gr,b3,bf,gY]
 .grind [bj,cB,len,c3,gr,b3]
 exact aN4
def aag(s:ai)(hl:T s<=1000000):F1 (s,())=J (if 1<=T s/\T s<=18/\gX s then((val s:O),0,()) else(0,2,())):=by
 by_cases Y:T s<1
 .exact aPJ
 by_cases ac:18<T s
 .refine(b3<|(bf<|cm In).trans<|bj<|cB In).trans ?_
  rw[aD V];rfl
 refine(b3 (a:=(a2 (decide (gX s)),())) ?_).trans ?_
 .grind [bf,cm,len,b3,alo]
 by_cases av:gX s
 rotate_left
 .grind [bj,a2]
 refine(bf aOt).trans ?_;rw[aH ⟨V,V,av⟩];generalize hf:(λx=>_)=f;have key:=og (f:=f) (λi=>(((val (s.take i)*10^(T s-i):R):O),(i:O),())) (T s) (λ_=>True) (0,2,()) 0 ?_ ?_ ?_
 .have dM:(((val (s.take 0)*10^(T s-0):R):O),((0:R):O),())=((0:O),(0:O),()):=by simp[val]
  rw[dM]at key;rcases key with⟨_,az⟩|⟨⟨i,ao,ax⟩,az⟩
  .rw[az]
   show J (((val (s.take<|List.length s)*10^(T s-T s):R):O),(0:O),())=_;simp
  grind
 .intro i ao _
  subst hf;refine(bj<|cB In).trans ?_;refine(c3<|gr ao).trans ?_;have c1:i64 (bw (i64<|bw (len s) 1) (i:O))=((T s-1-i:R):O):=by
   have:i64 (bw (len s) 1)=((T s-1:R):O):=Yq (b:=1) V V
   grind [Yq]
  have ak:=Qm (i:=T s-1-i) V;have c2:yg (10,((T s-1-i:R):O),())=J (((10^(T s-1-i):R):O),()):=aah 10 _ V V V;have fK:=av i ao;have lK:i64 (bw (i64<|aV<|ap s (ah (i:O))<|u8 0) 48)=((s[i].toNat-48:R):O):=by rw[eO,nth_get ao];have ahn:=zY s[i];have:i64 (aV s[i])=((s[i].toNat:R):O):=r' V;rw[this];exact Yq (b:=48) fK.1 V
  simp only[c1,c2];refine(b3 rfl).trans ?_;have a3:=Ta (s:=s) (i+1) V<|λj aF h=>av j h;have hp:10^(i+1)*10^(T s-(i+1))<=1000000000000000000:=by rw[<- Mx];exact Qm V
  rw[L' ao]at a3;have e1:T s-i=(T s-(i+1))+1:=V;have bh:T s-1-i=T s-(i+1):=V;have hm:(10*val (s.take i)+(s[i].toNat-48))*10^(T s-(i+1))<=10^(i+1)*10^(T s-(i+1)):=jk _ V;have hs:val (s.take i)*10^(T s-i)+(s[i].toNat-48)*10^(T s-(i+1))=(10*val (s.take i)+(s[i].toNat-48))*10^(T s-(i+1)):=by
   grind
  simp only[lK,bh];rw[Fc V,gY V,hs,L' ao];have c:i64 (aG (i:O) 1)=((i+1:R):O):=gY (b:=1) V;rw[c]
 .grind
 exact aN4
end Yp
namespace Yp
open Go
def Z5{B:R}{g:R->aN}{v:R}:∀{n j:R} (h:j<T (bE B g v n)),(bE B g v n)[j]=g (v/B^(n-1-j)%B)
 |n+1,0,h=>by simp[bE]
 |n+1,j+1,h=>by
  simp only[bE,List.getElem_cons_succ];rw[Z5]
  grind
theorem Qx(v w:O)(a3:v<=9223372036854775807):wu (v,w,())=J (if 1<=w/\w<=18/\0<=v/\v<10^w.toNat then(bE 10 g4 v.toNat w.toNat,0,()) else([],1,())):=by
 unfold wu;by_cases Y:w<1
 .exact aNS
 by_cases ac:18<w
 .exact aNS
 by_cases av:v<0
 .exact aNS
 obtain⟨n,rfl⟩:∃n:R,w=n:=⟨w.toNat,V⟩;obtain⟨b5,rfl⟩:∃n:R,v=n:=⟨v.toNat,V⟩;have aiu:∀i:R,i<=18->yg (10,(i:O),())=J (((10^i:R):O),()):=λi ao=>by have:=Qm ao;exact aah 10 i V V V
 refine(b3 (a:=(decide (10^n<=b5),())) ?_).trans ?_
 .refine(bf<|cm Y).trans ?_
  refine(bf<|cm ac).trans ?_;refine(b3<|aiu n V).trans ?_;rw[YP]
 have hp:((10:O)^n)=((10^n:R):O):=(T7 10 n).symm;by_cases ct:10^n<=b5
 .refine(bj<|decide_eq_true ct).trans ?_
  rw[aD];· rfl
  grind
 refine(bf<|decide_eq_false ct).trans ?_;rw[aH ⟨V,V,V,by rw[ie,hp];omega⟩];simp;have dM:i64 (bw (n:O) 1)=(n:O)-1:=fF ap_ ap_;rw[dM];generalize hf:(λx=>_)=f;have key:=og (f:=f) (λj=>((bE 10 g4 b5 n).take j,(n:O)-1-j,())) n (λ_=>True) ([],0,()) 0 ?_ ?_ ?_
 .have dM:((bE 10 g4 b5 n).take 0,(n:O)-1-(0:R),())=(aI aN,(n:O)-1,()):=by simp[aI]
  rw[dM]at key;rcases key with⟨_,az⟩|⟨⟨i,ao,ax⟩,az⟩
  .rw[az]
   show J ((bE 10 g4 b5 n).take n,(0:O),())=_
   grind [mj]
  grind
 .intro i ao _
  subst hf;have e1:(n:O)-1-i=((n-1-i:R):O):=V;simp only[e1];refine(b3<|aiu (n-1-i) V).trans ?_;have eq:0<10^(n-1-i):=Uc V;have c1:a2 (am ((10^(n-1-i):R):O) 0)=af:=by rw[cc V];rfl
  refine(c3 c1).trans ?_;have c2:u8 (i64<|aG 48<|cY (i64<|de (b5:O) ((10^(n-1-i):R):O)) 10)=g4 (b5/10^(n-1-i)%10):=by rw[zD V,show(10:O)=((10:R):O) from rfl,zF];rw[show(48:O)=((48:R):O) from rfl,gY V,L7];rfl
  have aF:i<T (bE 10 g4 b5 n):=by rw[mj];exact ao
  have fK:=Z5 aF;have lK:i64 (bw ((n-1-i:R):O) 1)=(n:O)-1-((i+1:R):O):=by
   grind [fF,bw]
  simp only[c2,lK];refine(c3<|kW ?_).trans ?_
  .grind [bB,aQ]
  rw[pX aF,fK];rfl
 .grind
 grind [bf,jG]
end Yp
namespace Yp
open Go
def lN(c:aN):R:=c.toNat-48
def fo(s:ai):ai:=if T s%2=1 then 48::s else s
def jA(p:ai)(t:R):R:=lN<|ap p t (u8 0)
def qO(p:ai)(a j:R):aN:=if 2*j+1<a then hy (16*jA p (2*j)+jA p (2*j+1)) else if 2*j<a then hy (jA p<|2*j) else u8 0
def hO(p:ai):ai:=(fw<|List.length p/2).map λj=>hy<|16*jA p (2*j)+jA p (2*j+1)
def Kh(s:ai):T (fo s)=2*((T s+1)/2):=by
 grind [fo]
def akT{s:ai}(h:i<T s):ap (fo s) (T s%2+i) (u8 0)=s[i]:=by
 grind [fo,ap]
def Eo{c:aN}(h:jp c):c=hy (48+lN c)/\lN c<10:=by unfold jp at h;refine⟨?_,by unfold lN;omega⟩;simp_all[lN]
theorem aGF:∀x:R,x<10->∀d:R,d<10->u8 (hG .u8 (aV<|u8<|h0 .u8 (aV<|UInt8.ofNat x)<|cC<|u64 4)<|aV<|u8 (d:O))=hy (16*x+d):=iQ
def aCC:∀d:R,d<10->u8 (hG .u8 (aV<|u8<|h0 .u8 (aV<|u8 0)<|cC<|u64 4)<|aV<|u8 (d:O))=hy d:=iQ
def aCO{s:ai}(hf:∀j,j<a-T s%2->∀h:j<T s,jp s[j])(b6:a<=T (fo s)):∀t,t<a->jA (fo s) t<10:=by
 intro t ht;have hl:=Kh s;unfold jA;by_cases h:t<T s%2
 .have Y:T s%2=1:=V
  have aC:t=0:=V;subst aC;unfold fo;rw[aH Y];show lN 48<10;decide
 have e:t=T s%2+(t-T s%2):=V;have ao:t-T s%2<T s:=V;rw[e,akT ao];exact(Eo<|hf _ V ao).2
theorem V_(s:ai)(hl:T s<=1000000):vF (s,())=J (if gX s then(hO<|fo s,0,()) else([],2,())):=by
 unfold vF;have b4:i64 (de (i64<|aG (len s) 1) 2)=(((T s+1)/2:R):O):=by rw[aA4,show i64 (aG ((T s:R):O) 1)=((T s+1:R):O) from gY (b:=1) V];exact zD (b:=2) V
 have cz:cY (len s) 2=((T s%2:R):O):=zF (b:=2);simp only[b4,cz,eO];generalize aB:(T s+1)/2=k;have jF:=Kh s;rw[aB]at jF;refine(c3 ?_).trans ?_
 .grind [df,q7,kW]
 generalize hf:(λ(x:O×O×R×ai×aj)=>_)=f;have key:=og (f:=f) (λi=>(0,((T s%2+i:R):O),i,(fw k).map<|qO (fo s)<|List.length s%2+i,())) (T s) (λi=>∀h:i<T s,jp s[i]) ([],2,()) 0 ?_ ?_ ?_
 .have dM:((0:O),((T s%2+0:R):O),0,(fw k).map<|qO (fo s)<|List.length s%2+0,())=((0:O),((T s%2:R):O),0,cb k<|u8 0,()):=by
   have:(fw k).map (qO (fo s)<|List.length s%2+0)=cb k (u8 0):=by
    apply sK
    .simp[cb]
    intro j Y ac;simp only[sM,yQ,cb,List.getElem_replicate,qO];rw[aD V];split
    .rename_i av
     have aJ:T s%2=1:=V;have bv:j=0:=V;subst bv;unfold fo;rw[aH aJ];show hy (lN 48)=u8 0;decide
    rfl
   rw[this];rfl
  rw[dM]at key;rcases key with⟨hall,az⟩|⟨⟨i,ao,ax⟩,az⟩
  .rw[az,aH<|zg.2 hall]
   have:(fw k).map (qO (fo s)<|List.length s%2+T s)=hO (fo s):=by
    unfold hO;rw[jF,show 2*k/2=k by omega]
    grind [List.map_congr_left,qO]
   rw[this];rfl
  rw[az,aD<|λaA=>ax<|zg.1 aA i ao];rfl
 .intro i ao hp
  subst hf;obtain⟨e1,bh⟩:=Wv ao<|hp i (cx _) ao;refine(bj<|FA ao).trans ?_;refine(b3 e1).trans ?_;generalize b6:T s%2+i=a;have ayS:=aCO (s:=s) (a:=a+1) (λj aF=>hp j V) V;have tf:jA (fo s) a=s[i].toNat-48:=by unfold jA;rw[<- b6,akT ao];rfl
  have c1:i64 (de ((a:R):O) 2)=((a/2:R):O):=zD (b:=2) V;have c2:i64 (aG ((a:R):O) 1)=((a+1:R):O):=gY (b:=1) V;have bD:a/2<T ((fw k).map<|qO (fo s) a):=e8;simp only[b6,c1,c2,bh,eO];refine(c3<|gr bD).trans ?_;refine(c3<|gr bD).trans ?_;have ei:T s%2+(i+1)=a+1:=V;have a3:u8 (hG .u8 (aV<|u8<|h0 .u8 (aV<|ap ((fw k).map<|qO (fo s) a) (a/2)<|u8 0)<|cC<|u64 4)<|aV<|u8 ((s[i].toNat-48:R):O))=qO (fo s) (a+1) (a/2):=by
   rw[nth_get bD,sM,yQ,<- tf];unfold qO;rw[aD V];by_cases aIR:a%2=0
   .rw[aD V,aD V,aH V,aCC _<|ayS a V,show 2*(a/2)=a by omega]
   grind [aGF]
  simp only[a3,ei];have lu:cA ((fw k).map<|qO (fo s) a) (a/2) (qO (fo s) (a+1)<|a/2)=(fw k).map (qO (fo s)<|a+1):=by
   unfold cA;apply sK
   .simp
   intro j Y ac;rw[TT];simp only[sM,yQ];split
   .rename_i av;rw[av]
   unfold qO;by_cases aJ:2*j+1<a
   .rw[aH aJ,aH V]
   rw[aD aJ];by_cases bv:2*j<a
   .rw[aH bv,aD V,aH V]
   rw[aD bv,aD V,aD V]
  rw[lu];rfl
 .intro i ao _ hp
  exact an_
 intro _;subst hf;exact bf<|Zg (My _)
def aFs:∀x,x<10->∀y,y<10->u8 (bw (aV<|u8<|aG (aV<|u8<|dI (aV<|u8 16)<|aV<|u8<|bw (aV<|UInt8.ofNat<|48+x)<|aV<|u8 48)<|aV<|UInt8.ofNat<|48+y)<|aV<|u8 48)=hy (16*x+y):=iQ
theorem aae(s:ai)(hl:T s<=1000000):ws (s,())=J (if gX s then(hO<|fo s,0,()) else([],2,())):=by
 unfold ws;refine(b3<|alo s hl).trans ?_;by_cases av:gX s
 rotate_left
 .refine(bj<|by simp only[iW av,a2,Bool.not_false]).trans ?_
  rw[aD av];rfl
 refine(bf aOt).trans ?_;rw[aH av];refine(b3 (a:=(fo s,())) ?_).trans ?_
 .have cz:cY (len s) 2=((T s%2:R):O):=zF (b:=2)
  simp only[cz];unfold fo;by_cases h:T s%2=1
  .rw[aH h]
   refine(bj<|ck V).trans ?_;refine(c3<|il ?_).trans rfl
   grind [aG,len]
  grind [bf,cc]
 have jF:=Kh s;have E1:∀t,(ht:t<T (fo s))->jp (fo s)[t]:=by
  intro t ht;by_cases h:T s%2=1
  .have e:fo s=48::s:=by unfold fo;rw[aH h]
   simp only[e]at ht ⊢;cases t with
   |zero=>exact(by decide:jp 48)
   |succ t=>exact av t (by simpa using ht)
  have e:fo s=s:=by unfold fo;rw[aD h]
  simp only[e]at ht ⊢;exact av t ht
 generalize fo s=p at *
 generalize aB:(T s+1)/2=k at *
 generalize hf:(λ(x:ai×O×aj)=>_)=f;have key:=og (f:=f) (λj=>((hO p).take j,((2*j:R):O),())) k (λ_=>True) ([],0,()) 0 ?_ ?_ ?_
 .rcases key with⟨_,az⟩|⟨⟨i,ao,ax⟩,az⟩
  .have dM:((hO p).take 0,((2*0:R):O),())=(aI aN,(0:O),()):=by simp[aI]
   rw[dM]at az;rw[az];show J ((hO p).take k,(0:O),())=_
   grind [List.take_of_length_le,hO]
  grind
 .intro i ao _
  subst hf;refine(bj<|cB (show((2*i:R):O)<len p by simp only[len];omega)).trans ?_;have aC:2*i<T p:=V;have Y:2*i+1<T p:=V;have c1:i64 (aG ((2*i:R):O) 1)=((2*i+1:R):O):=gY (b:=1) V;have c2:i64 (aG ((2*i:R):O) 2)=((2*(i+1):R):O):=gY (b:=2) V;simp only[c1,c2,eO];refine(c3<|gr aC).trans ?_;refine(c3<|gr Y).trans ?_;refine(c3<|kW ?_).trans ?_
  .grind [bB,aQ]
  have aF:i<T (hO p):=by simp[hO];omega
  have hg:(hO p)[i]=hy (16*jA p (2*i)+jA p (2*i+1)):=by simp[hO]
  rw[pX aF,hg,nth_get aC,nth_get Y];obtain⟨c9,dl⟩:=Eo<|E1 _ aC;obtain⟨fx,e7⟩:=Eo<|E1 _ Y;have a3:=aFs _ dl _ e7;rw[<- c9,<- fx]at a3;have d1:jA p (2*i)=lN p[2*i]:=by unfold jA;rw[nth_get aC]
  have d2:jA p (2*i+1)=lN p[2*i+1]:=by unfold jA;rw[nth_get Y]
  rw[a3,d1,d2];rfl
 .grind
 exact aN4
end Yp
namespace Yp
open Go
theorem Bv{v:R}:∀{n:R},gX (bE 10 g4 v n)
 |n=>by
  intro i ao;rw[Z5];have n_:v/10^(n-1-i)%10<10:=DK _ V;generalize v/10^(n-1-i)%10=d at *
  unfold jp g4;simp only[MO];omega
theorem aCN{s:ai}(h:T s%2=0):fo s=s:=by unfold fo;rw[aD V]
end Yp
namespace Yp
open Go
def aaf(v w:O)(a3:v<=9223372036854775807):yf (v,w,())=J (if 1<=w/\w<=8/\0<=v/\v<256^w.toNat then(bE 256 l_ v.toNat w.toNat,0,()) else([],1,())):=by
 unfold yf;by_cases Y:w<1
 .rw[aD V];simp[aa,ob,aK,Y,aI]
 by_cases ac:8<w
 .rw[aD V];simp[aa,ob,aK,Y,ac,aI]
 by_cases av:v<0
 .rw[aD V];simp[aa,ob,aK,Y,ac,av,aI]
 obtain⟨n,rfl⟩:∃n:R,w=n:=⟨w.toNat,V⟩;obtain⟨b5,rfl⟩:∃n:R,v=n:=⟨v.toNat,V⟩;have Kg:∀i,i<=7->256^i<=72057594037927936:=λi ao=>A9 (n:=256) V ao;have we:256^8=18446744073709551616:=di;refine(b3 (a:=(ag,())) ?_).trans ?_
 .refine(bf<|cm Y).trans ?_
  refine(bf<|cm ac).trans ?_;exact d4 (λb=>J (b,()))<|cm av
 refine(bf rfl).trans ?_;refine(b3 (a:=(decide (¬b5<256^n),())) ?_).trans ?_
 .by_cases cH:n<8
  .refine(bj<|cB<|show(n:O)<8 by omega).trans ?_
   have:=Kg n V;refine(b3<|aah 256 n V V V).trans ?_;show J (bL ((256^n:R):O) (b5:O),())=_;rw[YP];have:decide (256^n<=b5)=decide (¬b5<256^n):=by rw[decide_eq_decide];omega
   rw[this]
  refine(bf<|cm<|show ¬(n:O)<8 by omega).trans ?_;have h:n=8:=V;subst h;rw[iW (by rw[we];omega)]
 have hp:((256:O)^n)=((256^n:R):O):=(T7 256 n).symm;by_cases bK:b5<256^n
 rotate_left
 .refine(bj<|decide_eq_true bK).trans ?_
  rw[aD];· rfl
  intro h;have:=h.2.2.2;rw[ie,hp]at this;omega
 refine(bf<|decide_eq_false<|λh=>h bK).trans ?_;rw[aH ⟨V,V,V,by rw[ie,hp];omega⟩];simp only[ie];have dM:i64 (bw (n:O) 1)=(n:O)-1:=fF ap_ ap_;rw[dM];refine(c3 ?_).trans ?_
 .simp only[df,d5]
  exact⟨q7 V V V,kW (by simp only[eO];omega)⟩
 generalize hf:(λ(x:O×O×ai×aj)=>_)=f;have key:=og (f:=f) (λi=>(((b5/256^i:R):O),(n:O)-1-i,cb (n-i) (u8 0)++bE 256 l_ b5 i,())) n (λ_=>True) ([],0,()) 0 ?_ ?_ ?_
 .have dM:(((b5/256^0:R):O),(n:O)-1-(0:R),cb (n-0) (u8 0)++bE 256 l_ b5 0,())=((b5:O),(n:O)-1,cb (ah (n:O))<|u8 0,()):=by simp[bE,ah]
  rw[dM]at key;rcases key with⟨_,az⟩|⟨⟨i,ao,ax⟩,az⟩
  .rw[az]
   have:cb (n-n) (u8 0)++bE 256 l_ b5 n=bE 256 l_ b5 n:=aNY
   rw[this];rfl
  exact absurd trivial ax
 .intro i ao _
  subst hf;refine(bj<|il<|show(0:O)<=(n:O)-1-i by omega).trans ?_;have e1:(n:O)-1-i=((n-(i+1):R):O):=V;have dP:n-(i+1)<T (cb (n-i) (u8 0)++bE 256 l_ b5 i):=by simp only[d7,mj,cb,wU];omega
  have ct:b5/256^i<=b5:=Hl _ _;have c1:i64 (de ((b5/256^i:R):O) 256)=((b5/256^(i+1):R):O):=by refine(zD (b:=256) V).trans ?_;rw[T',G_]
  have c2:i64 (bw ((n-(i+1):R):O) 1)=(n:O)-1-((i+1:R):O):=by rw[fF ap_ ap_];simp only[bw];omega
  have fK:u8 (cY ((b5/256^i:R):O) 256)=l_ (b5/256^i%256):=by rw[show cY ((b5/256^i:R):O) 256=((b5/256^i%256:R):O) from zF (b:=256),L7];rfl
  have hs:cb (n-i) (u8 0)=cb (n-(i+1)+1) (u8 0):=by congr 1;omega
  simp only[e1];refine(c3<|gr dP).trans ?_;rw[c1,c2,fK,eO,hs,abX];rfl
 .intro i _ _ h;exact aO1
 intro _;subst hf;exact bf<|jG (show ¬(0:O)<=(n:O)-1-n by omega)
def kf(d:R):aN:=ap XB d<|u8 0
def gI(b:ai):ai:=b.flatMap λx=>[kf<|x.toNat/16,kf<|x.toNat%16]
theorem ut(b:ai):T (gI b)=2*T b:=by
 induction b with
 |nil=>rfl
 |cons x r ih=>
  grind [gI]
def ah2(a b:ai):gI (a++b)=gI a++gI b:=by simp[gI]
theorem akk(c:aN):hy c.toNat=c:=by apply wX.1;simp
def qN{p:aN->Prop}(h:∀n,n<256->p (hy n))(c:aN):p c:=by
 have:=h c.toNat c.toNat_lt
 grind [akk]
def aia:∀c:aN,aO (aV<|u8<|e4 gV (aV c)<|cC<|u64 4) (len [48,49,50,51,52,53,54,55,56,57,97,98,99,100,101,102])=af /\
  ap [48,49,50,51,52,53,54,55,56,57,97,98,99,100,101,102] (ah<|aV<|u8<|e4 gV (aV c)<|cC<|u64 4) (u8 0)=kf (c.toNat/16):=qN iQ
def ajv:∀c:aN,aO (aV<|u8<|hz gV (aV c)<|aV<|u8 15) (len [48,49,50,51,52,53,54,55,56,57,97,98,99,100,101,102])=af /\
  ap [48,49,50,51,52,53,54,55,56,57,97,98,99,100,101,102] (ah<|aV<|u8<|hz gV (aV c)<|aV<|u8 15) (u8 0)=kf (c.toNat%16):=qN iQ
def afS(b:ai)(hl:T b<=1000000):H4 (b,())=J (gI b,()):=by
 unfold H4;have b4:i64 (dI 2<|len b)=((2*T b:R):O):=Fc (a:=2) V;simp only[b4,eO];refine(c3 ?_).trans ?_
 .grind [df,q7,kW]
 generalize hf:(λ(x:ai×O×aj)=>_)=f;have key:=og (f:=f) (λi=>(gI<|b.take i,(i:O),())) (T b) (λ_=>True) ([],()) 0 ?_ ?_ ?_
 .have dM:(gI<|b.take 0,((0:R):O),())=(cb (ah 0)<|u8 0,(0:O),()):=by simp[gI,cb,ah]
  rw[dM]at key;rcases key with⟨_,az⟩|⟨⟨i,ao,ax⟩,az⟩
  .rw[az,qH];rfl
  grind
 .intro i ao _
  subst hf;refine(bj<|cB (show(i:O)<len b by simp only[len];omega)).trans ?_;refine(c3<|gr ao).trans ?_;have c:i64 (aG (i:O) 1)=((i+1:R):O):=gY (b:=1) V;simp only[eO,nth_get ao,c];refine(c3 (aia _).1).trans ?_;refine(c3 (ajv _).1).trans ?_;simp only[(aia _).2,(ajv _).2];refine(c3<|kW ?_).trans ?_
  .grind [bB,aQ,ut]
  rw[pX ao,ah2];rfl
 .grind
 grind [bf,cm,len]
def aGf:∀c:aN,KE (u8<|de (aV c)<|aV<|u8 16,())=J (kf<|c.toNat/16,()):=qN iQ
def aGg:∀c:aN,KE (u8<|cY (aV c)<|aV<|u8 16,())=J (kf<|c.toNat%16,()):=qN iQ
def aDZ(b:ai)(hl:T b<=1000000):KA (b,())=J (gI b,()):=by
 unfold KA;generalize hf:(λ(x:ai×O×aj)=>_)=f;have key:=og (f:=f) (λi=>(gI<|b.take i,(i:O),())) (T b) (λ_=>True) ([],()) 0 ?_ ?_ ?_
 .have dM:(gI<|b.take 0,((0:R):O),())=(aI aN,(0:O),()):=by simp[gI,aI]
  rw[dM]at key;rcases key with⟨_,az⟩|⟨⟨i,ao,ax⟩,az⟩
  .rw[az,qH];rfl
  grind
 .intro i ao _
  subst hf;refine(bj<|cB (show(i:O)<len b by simp only[len];omega)).trans ?_;refine(c3<|gr ao).trans ?_;have c:i64 (aG (i:O) 1)=((i+1:R):O):=gY (b:=1) V;simp only[eO,nth_get ao,c];refine(b3<|aGf _).trans ?_;refine(c3<|gr ao).trans ?_;refine(b3<|aGg _).trans ?_;refine(c3<|kW ?_).trans ?_
  .grind [bB,aQ,ut]
  rw[pX ao,ah2];rfl
 .grind
 grind [bf,cm,len]
def sa(c:aN):Prop:=(48<=c.toNat/\c.toNat<=57)\/(97<=c.toNat/\c.toNat<=102)
instance (c:aN):hu<|sa c:=inferInstanceAs<|Decidable (_\/_)
def jZ(c:aN):R:=if c.toNat<=57 then c.toNat-48 else c.toNat-87
def o7(s:ai):ai:=(fw<|List.length s/2).map λj=>hy<|16*jZ (ap s (2*j)<|u8 0)+jZ (ap s (2*j+1)<|u8 0)
def I2(s:ai):Prop:=∀(i:R) (h:i<T s),sa s[i]
instance (s:ai):hu<|I2 s:=inferInstanceAs<|Decidable (∀(i:R) (h:i<T s),sa s[i])
def afV:∀c:aN,Ob (c,())=J (if sa c then(hy<|jZ c,af,()) else(u8 0,ag,())):=qN iQ
def alq:∀c:aN,Qz (c,())=J (if sa c then((jZ c:R):O) else 16,()):=qN iQ
def Pk:∀c:aN,sa c->jZ c<16:=qN iQ
def aBL:∀x:R,x<16->∀y:R,y<16->u8 (hG gV (aV<|u8<|h0 gV (aV<|UInt8.ofNat x)<|cC<|u64 4)<|aV<|UInt8.ofNat y)=hy (16*x+y):=iQ
def O8{s:ai}(ac:T s=2*k):(∀i,i<k->sa (ap s (2*i)<|u8 0)/\sa (ap s (2*i+1)<|u8 0))↔I2 s:=by
 constructor
 .intro h i ao
  have:=h (i/2) V
  grind [nth_get]
 intro h i ao;rw[nth_get V,nth_get V];exact⟨h _ _,h _ _⟩
def avc(s:ai)(hl:T s<=1000000):H5 (s,())=J (if T s%2=0/\I2 s then(o7 s,0,()) else([],2,())):=by
 unfold H5;have cz:cY (len s) 2=((T s%2:R):O):=zF (b:=2);have b4:i64 (de (len s) 2)=((T s/2:R):O):=zD (b:=2) V;simp only[b4,cz,eO];by_cases h:T s%2=0
 rotate_left
 .exact aOa
 refine(bf<|cc V).trans ?_;refine(c3 ?_).trans ?_
 .grind [df,q7,kW]
 generalize aB:T s/2=k;have ac:T s=2*k:=V;generalize hf:(λ(x:O×ai×O×aj)=>_)=f;have key:=og (f:=f) (λi=>(0,(o7 s).take i,((2*i:R):O),())) k (λi=>sa (ap s (2*i)<|u8 0)/\sa (ap s (2*i+1)<|u8 0)) ([],2,()) 0 ?_ ?_ ?_
 .have dM:((0:O),(o7 s).take 0,((2*0:R):O),())=((0:O),cb (ah 0)<|u8 0,(0:O),()):=by simp[cb,ah]
  exact aB_
 .intro i ao hp
  subst hf;obtain⟨Kf,dN⟩:=hp i<|cx _;have aC:2*i<T s:=V;have Y:2*i+1<T s:=V;have c1:i64 (aG ((2*i:R):O) 1)=((2*i+1:R):O):=gY (b:=1) V;have c2:i64 (aG ((2*i:R):O) 2)=((2*(i+1):R):O):=gY (b:=2) V;refine(bj<|cB (show((2*i:R):O)<len s by simp only[len];omega)).trans ?_;refine(c3<|gr aC).trans ?_;simp only[c1,c2,eO,afV,aH Kf,aH dN];refine(b3 rfl).trans ?_;refine(c3<|gr Y).trans ?_;refine(b3 rfl).trans ?_;refine(b3 (a:=(ag,())) rfl).trans ?_;refine(bf rfl).trans ?_;refine(c3<|kW ?_).trans ?_
  .grind [bB,aQ]
  have aF:i<T (o7 s):=by simp[o7];omega
  have hg:(o7 s)[i]=hy (16*jZ (ap s (2*i)<|u8 0)+jZ (ap s (2*i+1)<|u8 0)):=by simp[o7]
  rw[pX aF,hg];simp only[aBL _ (Pk _ Kf) _<|Pk _ dN];rfl
 .intro i ao _ hp
  subst hf;have aC:2*i<T s:=V;have Y:2*i+1<T s:=V;have c1:i64 (aG ((2*i:R):O) 1)=((2*i+1:R):O):=gY (b:=1) V;refine(bj<|cB (show((2*i:R):O)<len s by simp only[len];omega)).trans ?_;refine(c3<|gr aC).trans ?_;simp only[c1,eO,afV];refine(b3 rfl).trans ?_;refine(c3<|gr Y).trans ?_;refine(b3 rfl).trans ?_;refine(b3 (a:=(af,())) ?_).trans ?_
  .by_cases wj:sa (ap s (2*i)<|u8 0)
   .rw[aH wj,aD<|λcn=>hp ⟨wj,cn⟩];rfl
   rw[aD wj];rfl
  exact bj rfl
 exact aN4
def aD0(s:ai)(hl:T s<=1000000):KD (s,())=J (if T s%2=0/\I2 s then(o7 s,0,()) else([],2,())):=by
 unfold KD;have cz:cY (len s) 2=((T s%2:R):O):=zF (b:=2);simp only[cz];by_cases h:T s%2=0
 rotate_left
 .exact aOa
 refine(bf<|cc V).trans ?_;generalize aB:T s/2=k;have ac:T s=2*k:=V;generalize hf:(λ(x:O×ai×O×aj)=>_)=f;have key:=og (f:=f) (λi=>(0,(o7 s).take i,((2*i:R):O),())) k (λi=>sa (ap s (2*i)<|u8 0)/\sa (ap s (2*i+1)<|u8 0)) ([],2,()) 0 ?_ ?_ ?_
 .have dM:((0:O),(o7 s).take 0,((2*0:R):O),())=((0:O),aI aN,(0:O),()):=by simp[aI]
  exact aB_
 .intro i ao hp
  subst hf;obtain⟨Kf,dN⟩:=hp i<|cx _;have aC:2*i<T s:=V;have Y:2*i+1<T s:=V;have c1:i64 (aG ((2*i:R):O) 1)=((2*i+1:R):O):=gY (b:=1) V;have c2:i64 (aG ((2*i:R):O) 2)=((2*(i+1):R):O):=gY (b:=2) V;have g0:=Pk _ Kf;have b0:=Pk _ dN;refine(bj<|cB (show((2*i:R):O)<len s by simp only[len];omega)).trans ?_;refine(c3<|gr aC).trans ?_;simp only[c1,c2,eO,alq,aH Kf,aH dN];refine(b3 rfl).trans ?_;refine(c3<|gr Y).trans ?_;refine(b3 rfl).trans ?_;refine(b3 (a:=(ag,())) ?_).trans ?_
  .grind [bf,cm]
  refine(bf rfl).trans ?_;refine(c3<|kW ?_).trans ?_
  .grind [bB,aQ]
  have aF:i<T (o7 s):=by simp[o7];omega
  have hg:(o7 s)[i]=hy (16*jZ (ap s (2*i)<|u8 0)+jZ (ap s (2*i+1)<|u8 0)):=by simp[o7]
  have fK:i64 (aG (i64<|dI 16 ((jZ (ap s (2*i)<|u8 0):R):O)) ((jZ (ap s (2*i+1)<|u8 0):R):O))=((16*jZ (ap s (2*i)<|u8 0)+jZ (ap s (2*i+1)<|u8 0):R):O):=by rw[show i64 (dI 16 ((jZ (ap s (2*i)<|u8 0):R):O))=((16*jZ (ap s (2*i)<|u8 0):R):O) from Fc (a:=16) V];exact gY V
  rw[pX aF,hg];simp only[fK,L7];rfl
 .intro i ao _ hp
  subst hf;have aC:2*i<T s:=V;have Y:2*i+1<T s:=V;have c1:i64 (aG ((2*i:R):O) 1)=((2*i+1:R):O):=gY (b:=1) V;refine(bj<|cB (show((2*i:R):O)<len s by simp only[len];omega)).trans ?_;refine(c3<|gr aC).trans ?_;simp only[c1,eO,alq];refine(b3 rfl).trans ?_;refine(c3<|gr Y).trans ?_;refine(b3 rfl).trans ?_;refine(b3 (a:=(af,())) ?_).trans ?_
  .grind [bf,cB,bj]
  exact bj rfl
 exact aN4
end Yp
namespace Yp
open Go
def nw(l:ai):R:=l.foldl (λn c=>256*n+c.toNat) 0
theorem D'{s:ai}(h:i<T s):nw (s.take<|i+1)=256*nw (s.take i)+s[i].toNat:=by
 grind [nw,AX]
def adb{s:ai}:∀i,i<=T s->nw (s.take i)<256^i
 |0,_=>by simp[nw]
 |i+1,h=>by
  have:=adb (s:=s) i V
  grind [zY,D']
def adc{s:ai}(aC:0<T s)(hs:s[0].toNat<=127):∀i,i<T s->nw (s.take<|i+1)<128*256^i
 |0,_=>by rw[D' aC];simp[nw];omega
 |i+1,h=>by
  have:=adc aC hs i V
  grind [zY,D']
theorem aGE(x c:R)(aA:c<256)(h:256*x+c<=9223372036854775807):i64 (hG .i64 (i64<|h0 .i64 (x:O)<|cC<|u64 8) (c:O))=((256*x+c:R):O):=by
 have e1:h0 .i64 (x:O) (cC<|u64 8)=((256*x:R):O):=by
  have:h0 .i64 (x:O) (cC<|u64 8)=(x:O)*2^8:=rfl
  grind
 rw[e1,r' V];have bh:hG .i64 ((256*x:R):O) (c:O)=((256*x+c:R):O):=by
  show(((BitVec.ofInt 64 ((256*x:R):O)|||BitVec.ofInt 64 (c:O)).toNat:R):O)=_;rw[D2,D2,BitVec.toNat_or,M5,M5,w1 V,w1 V];have:=wZ (i:=8) aA x
  grind
 rw[bh,r' h]
def fv(b:ai)(A W:R):ai:=(b.drop A).take W
theorem tL{b:ai}(h:A+W<=T b):T (fv b A W)=W:=by simp[fv];omega
theorem abJ{b:ai}(h:i<T (fv b A W))(ce:A+i<T b):(fv b A W)[i]=b[A+i]:=by simp[fv]
def LU{b:ai}:sub b (A:O) ((A+W:R):O)=fv b A W:=by unfold sub fv;rw[ie,ie,show A+W-A=W by omega]
def lD(b:ai)(cM w:O):O×O×O×aj:=
 if w<1\/8<w\/cM<0\/(T b:O)<cM then(0,0,1,()) else if(T b:O)-cM<w then(0,0,3,())
 else if w=8/\127<(ap b cM.toNat<|u8 0).toNat then(0,0,2,()) else((nw (fv b cM.toNat w.toNat):O),cM+w,0,())
def UE{b:ai}(ee:A+W<=T b)(hW:W<=8)(eJ:¬((W:O)=8/\127<(ap b A<|u8 0).toNat)):∀i,i<W->nw ((fv b A W).take<|i+1)<=9223372036854775807:=by
 intro i ao;have hl:=tL ee;by_cases ayB:i+1<=7
 .have Y:=adb (s:=fv b A W) (i+1) V
  have ac:256^(i+1)<=256^7:=A9 V ayB
  grind
 have cH:W=8:=V;have aC:0<T (fv b A W):=V;have ax:(fv b A W)[0]=ap b A (u8 0):=by
  grind [abJ,nth_get]
 have hs:(fv b A W)[0].toNat<=127:=by rw[ax];exact Nat.le_of_not_lt λh=>eJ ⟨V,h⟩
 have:=adc aC hs i V
 grind
def afT(b:ai)(cM w:O)(hl:T b<=1000000):mx (b,cM,w,())=J (lD b cM w):=by
 unfold mx lD;by_cases Y:w<1
 .grind [b3,bj,cB]
 by_cases ac:8<w
 .grind [b3,bf,bj,cB]
 by_cases av:cM<0
 .grind [b3,bf,bj,cB]
 by_cases aJ:(T b:O)<cM
 .exact IN
 rw[aD V];refine(b3 (a:=(ag,()))<|(bf<|cm Y).trans<|(bf<|cm ac).trans<|(bf<|cm av).trans<|congrArg (λb=>J (b,()))<|cm aJ).trans ?_;refine(bf rfl).trans ?_;obtain⟨A,rfl⟩:∃n:R,cM=n:=⟨cM.toNat,V⟩;obtain⟨W,rfl⟩:∃n:R,w=n:=⟨w.toNat,V⟩;have c0:i64 (bw (len b) (A:O))=(T b:O)-A:=by
  grind [bw,len,fF]
 simp only[c0];by_cases bv:(T b:O)-A<W
 .grind [bj,cB]
 rw[aD bv];refine(bf<|cm bv).trans ?_;have IE:A+W<=T b:=V;have ee:A<T b:=V;have V1:(aa (am (W:O) 8) (an (aO (A:O)<|len b)<|some (aK (aV<|u8 127)<|aV<|ap b (ah (A:O))<|u8 0,())) (J (ag,())):au<|Bool×aj)=J (decide ((W:O)=8/\127<(ap b A<|u8 0).toNat),()):=by
  by_cases cH:(W:O)=8
  .refine(bj<|ck cH).trans ?_
   refine(c3<|gr ee).trans ?_;rw[eO,show aV (u8 127)=((127:R):O) by decide,show aV (ap b A<|u8 0)=(((ap b A<|u8 0).toNat:R):O) from rfl,xY]
   grind
  grind [bf,cc]
 simp only[ie];refine(b3 V1).trans ?_;by_cases eJ:(W:O)=8/\127<(ap b A<|u8 0).toNat
 .grind [bj]
 rw[aD eJ];refine(bf<|decide_eq_false eJ).trans ?_;have c1:i64 (aG (A:O) (W:O))=((A+W:R):O):=gY V;simp only[c1,LU];refine(c3<|q7 V V In).trans ?_;have hl:=tL IE;have ahK:=UE IE V eJ;generalize xQ:fv b A W=t at *
 generalize hf:(λ(x:O×O×aj)=>_)=f;have key:=og (f:=f) (λi=>((nw (t.take i):O),(i:O),())) W (λ_=>True) (0,0,0,()) 1 ?_ ?_ ?_
 .exact as_
 .intro i ao _
  subst hf;have pz:i<T t:=V;refine(bj<|cB (show(i:O)<len t by simp only[len];omega)).trans ?_;refine(c3<|gr pz).trans ?_
  grind [gY,zY,D',aV,r',eO,nth_get,aGE]
 .intro i _ _ h;exact aO1
 intro _;subst hf;exact bf<|cm (show ¬(W:O)<len t by simp only[len];omega)
def alp(b:ai)(cM w:O)(hl:T b<=1000000):KC (b,cM,w,())=J (lD b cM w):=by
 unfold KC lD;by_cases Y:w<1
 .grind [b3,bj,cB]
 by_cases ac:8<w
 .grind [b3,bf,bj,cB]
 by_cases av:cM<0
 .grind [b3,bf,bj,cB]
 by_cases aJ:(T b:O)<cM
 .exact IN
 rw[aD V];refine(b3 (a:=(ag,()))<|(bf<|cm Y).trans<|(bf<|cm ac).trans<|(bf<|cm av).trans<|congrArg (λb=>J (b,()))<|cm aJ).trans ?_;refine(bf rfl).trans ?_;obtain⟨A,rfl⟩:∃n:R,cM=n:=⟨cM.toNat,V⟩;obtain⟨W,rfl⟩:∃n:R,w=n:=⟨w.toNat,V⟩;have c0:i64 (bw (len b) (A:O))=(T b:O)-A:=by
  grind [bw,len,fF]
 simp only[c0];by_cases bv:(T b:O)-A<W
 .grind [bj,cB]
 rw[aD bv];refine(bf<|cm bv).trans ?_;have IE:A+W<=T b:=V;have ee:A<T b:=V;have V1:(aa (am (W:O) 8) (an (aO (A:O)<|len b)<|some (bL (aV<|u8 128)<|aV<|ap b (ah (A:O))<|u8 0,())) (J (ag,())):au<|Bool×aj)=J (decide ((W:O)=8/\127<(ap b A<|u8 0).toNat),()):=by
  by_cases cH:(W:O)=8
  .refine(bj<|ck cH).trans ?_
   refine(c3<|gr ee).trans ?_;rw[eO,show aV (u8 128)=((128:R):O) by decide,show aV (ap b A<|u8 0)=(((ap b A<|u8 0).toNat:R):O) from rfl,YP]
   grind
  grind [bf,cc]
 simp only[ie];refine(b3 V1).trans ?_;by_cases eJ:(W:O)=8/\127<(ap b A<|u8 0).toNat
 .grind [bj]
 rw[aD eJ];refine(bf<|decide_eq_false eJ).trans ?_;have c1:i64 (aG (A:O) (W:O))=((A+W:R):O):=gY V;simp only[c1];have bK:=tL IE;have ahK:=UE IE V eJ;have zu:∀i (h:i<T (fv b A W)),(fv b A W)[i]=ap b (A+i) (u8 0):=λi h=>by
  grind [abJ,nth_get]
 generalize xQ:fv b A W=t at *
 generalize hf:(λ(x:O×O×aj)=>_)=f;have key:=og (f:=f) (λi=>((nw (t.take i):O),(i:O),())) W (λ_=>True) (0,0,0,()) 0 ?_ ?_ ?_
 .exact as_
 .intro i ao _
  subst hf;have pz:i<T t:=V;refine(bj<|cB<|show(i:O)<(W:O) by omega).trans ?_;have fK:i64 (aG (A:O) (i:O))=((A+i:R):O):=gY V;simp only[fK,eO];refine(c3<|gr<|show A+i<T b by omega).trans ?_;have c:i64 (aG (i:O) 1)=((i+1:R):O):=gY (b:=1) V;have ahn:=zY t[i];have ak:=ahK i ao;rw[D' pz]at ak;have c2:i64 (aV t[i])=((t[i].toNat:R):O):=r' V;rw[<- zu i pz,c,c2,show i64 (dI 256 (nw (t.take i):O))=((256*nw (t.take i):R):O) from Fc (a:=256) V,gY ak,D' pz]
 .intro i _ _ h;exact aO1
 intro _;subst hf;exact bf<|cm (show ¬(W:O)<(W:O) by omega)
end Yp
namespace Yp
open Go
def jg(b:ai)(cM n:O):ai×O×O×aj:=
 if n<0\/999<n\/cM<0\/(T b:O)<cM then([],0,1,()) else if(T b:O)-cM<(n+1)/2 then([],0,3,())
 else if n%2=1/\¬ap (gI<|fv b cM.toNat<|(n.toNat+1)/2) 0 (u8 0)=48 then([],0,2,())
 else if gX ((gI<|fv b cM.toNat<|(n.toNat+1)/2).drop<|n.toNat%2) then((gI<|fv b cM.toNat<|(n.toNat+1)/2).drop<|n.toNat%2,cM+((n.toNat+1)/2:R),0,()) else([],0,2,())
def amx(s:ai)(f:ai×O×O×R×aj->au (aL (ai×O×O×R×aj)<|ai×O×O×aj))
  (hf:f=λx=>aa (k_ x.2.2.2.1<|aQ s) (ob (ua (bc (iZ s x.2.2.2.1).1,())) λa5=>aa (a2 a5.2.1) (J<|aL.rt (aI aN,0,2,()))<|some<|aL.nx (x.1,x.2.1,x.2.2.1,bB x.2.2.2.1 (iZ s x.2.2.2.1).2,()))<|some<|aL.ex 0 (x.1,x.2.1,x.2.2.1,x.2.2.2.1,())) :
  bG f (aI aN,0,0,0,())=J (if gX s then aL.ex 0 (aI aN,0,0,T s,()) else aL.rt (aI aN,0,2,())):=by
 have key:=og (f:=f) (λi=>(aI aN,(0:O),(0:O),i,())) (T s) (λi=>∀h:i<T s,jp s[i]) (aI aN,0,2,()) 0 ?_ ?_ ?_
 .rcases key with⟨hall,az⟩|⟨⟨i,ao,ax⟩,az⟩
  .rw[az,aH<|zg.2 hall]
  rw[az,aD<|λaA=>ax<|zg.1 aA i ao]
 .intro i ao hp
  subst hf;obtain⟨e1,bh⟩:=Wv ao<|hp i (cx _) ao;refine(bj<|FA ao).trans ?_;refine(b3 e1).trans ?_;refine(bf rfl).trans ?_;simp only[bh];rfl
 .intro i ao _ hp
  exact an_
 intro _;subst hf;exact bf<|Zg (My _)
def V?(b:ai)(cM n:O)(hl:T b<=1000000):za (b,cM,n,())=J (jg b cM n):=by
 unfold za jg;by_cases Y:n<0
 .exact aOF
 by_cases ac:999<n
 .exact aL4
 by_cases av:cM<0
 .exact aLf
 by_cases aJ:(T b:O)<cM
 .exact IN
 rw[aD V];refine(b3 (a:=(ag,()))<|(bf<|cm Y).trans<|(bf<|cm ac).trans<|(bf<|cm av).trans<|congrArg (λb=>J (b,()))<|cm aJ).trans ?_;refine(bf rfl).trans ?_;obtain⟨A,rfl⟩:∃n:R,cM=n:=⟨cM.toNat,V⟩;obtain⟨N,rfl⟩:∃k:R,n=k:=⟨n.toNat,V⟩;have c0:i64 (bw (len b) (A:O))=(T b:O)-A:=by
  grind [bw,len,fF]
 have c1:i64 (de (i64<|aG (N:O) 1) 2)=(((N+1)/2:R):O):=aL2
 have c2:((N:O)+1)/2=(((N+1)/2:R):O):=V;simp only[c0,c1,c2,ie];generalize eE:(N+1)/2=M;by_cases bv:(T b:O)-A<M
 .exact aOG
 rw[aD bv];refine(bf<|cm bv).trans ?_;have W_:A+M<=T b:=V;have fK:i64 (aG (A:O) (M:O))=((A+M:R):O):=gY V;simp only[fK,LU];refine(c3<|q7 V V In).trans ?_;have pC:=tL W_;refine(b3<|afS (fv b A M) V).trans ?_;have I9:=ut<|fv b A M;rw[pC]at I9;generalize gI (fv b A M)=h at *
 have cz:cY (N:O) 2=((N%2:R):O):=zF (b:=2);simp only[cz];by_cases XV:N%2=1
 .have hm:(N:O)%2=1:=V
  refine(bj<|ck V).trans ?_;have aC:0<h.length:=V;refine(c3<|gr (a:=0) aC).trans ?_;have dM:am (aV<|ap h (ah 0)<|u8 0) (aV<|u8 48)=decide (ap h 0 (u8 0)=48):=by
   show((((ap h 0<|u8 0).toNat:R):O)==((48:R):O))=_;rw[rH];simp only[beq_iff_eq,lH];constructor
   .intro hh;apply wX.1;exact Ho hh
   simp_all
  rw[dM];by_cases bN:ap h 0 (u8 0)=48
  rotate_left
  .rw[aH ⟨hm,bN⟩]
   exact bj (by rw[iW bN];rfl)
  rw[aD<|λaA=>aA.2 bN];refine(bf (by rw[iv bN];rfl)).trans ?_;refine(c3<|q7 V In In).trans ?_;have es:sub h 1 (len h)=h.drop 1:=aNn
  simp only[es,XV];refine(cE<|amx (h.drop 1) _ rfl).trans ?_;by_cases hf:gX<|h.drop 1
  .rw[aH hf,aH hf]
   show J (h.drop 1,((A+M:R):O),(0:O),())=_;simp
  rw[aD hf,aD hf];rfl
 have jo:N%2=0:=V;rw[aD<|λaA=>V];refine(bf<|cc V).trans ?_;simp only[jo,vi];refine(cE<|amx h _ rfl).trans ?_;by_cases hf:gX h
 .rw[aH hf,aH hf]
  show J (h,((A+M:R):O),(0:O),())=_;simp
 rw[aD hf,aD hf];rfl
end Yp
namespace Yp
open Go
def q?(b:ai):ai:=b.flatMap λc=>[u8<|de (aV c)<|aV<|u8 16,u8<|cY (aV c)<|aV<|u8 16]
def aBF(a b:ai):q? (a++b)=q? a++q? b:=by simp[q?]
theorem aj0:∀c:aN,([u8<|de (aV c)<|aV<|u8 16,u8<|cY (aV c)<|aV<|u8 16].map λx=>kf x.toNat)=[kf<|c.toNat/16,kf<|c.toNat%16]/\(u8<|de (aV c)<|aV<|u8 16).toNat<16/\(u8<|cY (aV c)<|aV<|u8 16).toNat<16:=qN iQ
def ajV(b:ai):gI b=(q? b).map λx=>kf x.toNat:=by
 induction b with
 |nil=>rfl
 |cons c r ih=>
  grind [gI,q?,aj0]
def aBG(b:ai):∀x∈q? b,x.toNat<16:=by
 grind [q?,aj0]
def ajW(b:ai):T (q? b)=2*T b:=by rw[<- ut,ajV,qJ]
def ajZ:∀d:R,d<16->(jp (kf d)↔d<=9):=iQ
def aBK:∀d:R,d<10->u8 (aG (aV<|UInt8.ofNat d)<|aV<|u8 48)=kf d:=iQ
def aBN:∀d:R,d<16->(kf d=48↔d=0):=iQ
def jn(l:ai)(o i:R):ai:=(fw<|List.length l).map λj=>if o<=j/\j<o+i then kf (ap l j<|u8 0).toNat else ap l j<|u8 0
def BE(l:ai)(o i:R):T (jn l o i)=T l:=by simp[jn]
def ahH(l:ai)(o:R):jn l o 0=l:=by
 apply sK
 .simp[jn]
 grind [jn,nth_get]
def ahE{l:ai}:(jn l o<|List.length l-o).drop o=(l.map λx=>kf x.toNat).drop o:=by
 apply sK
 .simp[jn]
 grind [jn,nth_get]
def ahG{l:ai}(h:o+i<T l)(a?:(ap l (o+i)<|u8 0).toNat<=9):
  cA (jn l o i) (o+i) (u8<|aG (aV<|ap (jn l o i) (o+i)<|u8 0)<|aV<|u8 48)=jn l o (i+1)/\ap (jn l o i) (o+i) (u8 0)=ap l (o+i) (u8 0):=by
 have e:ap (jn l o i) (o+i) (u8 0)=ap l (o+i) (u8 0):=by
  grind [nth_get,jn]
 refine⟨?_,e⟩;rw[e];have a3:=aBK (ap l (o+i)<|u8 0).toNat V;rw[akk]at a3;rw[a3];unfold cA;apply sK
 .simp[jn]
 grind [jn]
def ahF{l:ai}(h:o+i<T l):ap (jn l o i) (o+i) (u8 0)=ap l (o+i) (u8 0):=by rw[nth_get (by rw[BE];exact h)];simp only[jn,sM,yQ];rw[aD V]
def OB{l:ai}(bK:∀x∈l,x.toNat<16):gX ((l.map λx=>kf x.toNat).drop o)↔∀i,i<T l-o->(ap l (o+i)<|u8 0).toNat<=9:=by
 unfold gX;constructor
 .intro h i ao
  have Y:=h i e8;simp only[TR,sM]at Y;rw[nth_get V];exact(ajZ _<|bK _<|j7 _).1 Y
 intro h i ao;simp only[dV,qJ]at ao;simp only[TR,sM];have Y:=h i ao;rw[nth_get V]at Y;exact(ajZ _<|bK _<|j7 _).2 Y
def KB(b:ai)(cM n:O)(hl:T b<=1000000):z_ (b,cM,n,())=J (jg b cM n):=by
 unfold z_ jg;by_cases Y:n<0
 .exact aOF
 by_cases ac:999<n
 .exact aL4
 by_cases av:cM<0
 .exact aLf
 by_cases aJ:(T b:O)<cM
 .exact IN
 rw[aD V];refine(b3 (a:=(ag,()))<|(bf<|cm Y).trans<|(bf<|cm ac).trans<|(bf<|cm av).trans<|congrArg (λb=>J (b,()))<|cm aJ).trans ?_;refine(bf rfl).trans ?_;obtain⟨A,rfl⟩:∃n:R,cM=n:=⟨cM.toNat,V⟩;obtain⟨N,rfl⟩:∃k:R,n=k:=⟨n.toNat,V⟩;have c0:i64 (bw (len b) (A:O))=(T b:O)-A:=by simp only[bw,len];exact fF V V
 have c1:i64 (de (i64<|aG (N:O) 1) 2)=(((N+1)/2:R):O):=aL2
 have c2:((N:O)+1)/2=(((N+1)/2:R):O):=V;simp only[c0,c1,c2,ie];generalize eE:(N+1)/2=M;by_cases bv:(T b:O)-A<M
 .exact aOG
 rw[aD bv];refine(bf<|cm bv).trans ?_;have W_:A+M<=T b:=V;have fK:i64 (aG (A:O) (M:O))=((A+M:R):O):=gY V;simp only[fK];have pC:=tL W_;have zu:∀i (h:i<T (fv b A M)),(fv b A M)[i]=ap b (A+i) (u8 0):=λi h=>by rw[abJ h V,nth_get V]
 generalize fv b A M=t at *

 have first:bG (λ(ae:ai×O×aj)=>aa (aK ae.2.1 ((A+M:R):O)) (an (aO ae.2.1<|len b) (an (aO ae.2.1<|len b) (an (bO 1<|bB (aQ ae.1)<|aQ [u8<|de (aV<|ap b (ah ae.2.1)<|u8 0)<|aV<|u8 16,u8<|cY (aV<|ap b (ah ae.2.1)<|u8 0)<|aV<|u8 16])
   (J<|aL.nx (bb ae.1 [u8<|de (aV<|ap b (ah ae.2.1)<|u8 0)<|aV<|u8 16,u8<|cY (aV<|ap b (ah ae.2.1)<|u8 0)<|aV<|u8 16],i64<|aG ae.2.1 1,())))))<|some<|aL.ex 0 (ae.1,ae.2.1,()))
   (aI aN,(A:O),())=J (aL.ex 0 (q? t,((A+M:R):O),()):aL (ai×O×aj)<|ai×O×O×aj):=by
  generalize hf:(λ(x:ai×O×aj)=>_)=f;have key:=og (f:=f) (λi=>(q?<|t.take i,((A+i:R):O),())) M (λ_=>True) ([],0,0,()) 0 ?_ ?_ ?_
  .have dM:(q?<|t.take 0,((A+0:R):O),())=(aI aN,(A:O),()):=by simp[q?,aI]
   rw[dM]at key;rcases key with⟨_,az⟩|⟨⟨i,ao,ax⟩,az⟩
   .rw[az,i5 V]
   exact absurd trivial ax
  .intro i ao _
   subst hf;have pz:i<T t:=V;have dP:A+i<T b:=V;refine(bj<|cB<|show((A+i:R):O)<((A+M:R):O) by omega).trans ?_;refine(c3<|gr dP).trans ?_;refine(c3<|gr dP).trans ?_;have c:i64 (aG ((A+i:R):O) 1)=((A+(i+1):R):O):=gY (b:=1) V;simp only[eO,c,<- zu i pz];refine(c3<|kW ?_).trans ?_
   .simp only[bB,aQ,ajW,jl,gd,gM];omega
   rw[pX pz,aBF];rfl
  .intro i _ _ h;exact aO1
  intro _;subst hf;exact bf<|cm (show ¬((A+M:R):O)<((A+M:R):O) by omega)
 refine(cE first).trans ?_;have uw:=ajW t;rw[pC]at uw;have bK:=aBG t;simp only[b?];refine(c3 rfl).trans ?_;rw[ajV];generalize q? t=l at *
 have cz:cY (N:O) 2=((N%2:R):O):=zF (b:=2);simp only[cz];have kO:aV (u8 9)=((9:R):O):=di;have PV:∀c:aN,aV c=((c.toNat:R):O):=λ_=>rfl;by_cases XV:N%2=1
 .have hm:(N:O)%2=1:=V
  refine(bj<|ck V).trans ?_;have aC:0<T l:=V;refine(c3<|gr (a:=0) aC).trans ?_;have dM:am (aV<|ap l (ah 0)<|u8 0) (aV<|u8 0)=decide (ap l 0 (u8 0)=0):=by
   show((((ap l 0<|u8 0).toNat:R):O)==((0:R):O))=_;rw[rH];simp only[beq_iff_eq,lH];constructor
   .intro hh;apply wX.1;exact Ho hh
   intro hh;rw[hh];rfl
  have azW:(ap l 0<|u8 0).toNat<16:=by rw[nth_get aC];exact bK _<|j7 _
  have e1:ap (l.map λx=>kf x.toNat) 0 (u8 0)=kf (ap l 0<|u8 0).toNat:=by rw[nth_get<|by simpa using aC,nth_get aC];simp
  have bh:(ap (l.map λx=>kf x.toNat) 0 (u8 0)=48)↔ap l 0 (u8 0)=0:=by
   rw[e1,aBN _ azW];constructor
   .intro hh;apply wX.1;exact hh
   intro hh;rw[hh];rfl
  rw[dM];by_cases bN:ap l 0 (u8 0)=0
  rotate_left
  .rw[aH ⟨hm,λh=>bN<|bh.1 h⟩]
   exact bj (by rw[iW bN];rfl)
  rw[aD<|λaA=>aA.2<|bh.2 bN];refine(bf (by rw[iv bN];rfl)).trans ?_;refine(c3<|q7 V In In).trans ?_;have lK:cy (ah<|len l) (ah 1)=T l-1:=by simp[cy,ah,len]
  have c5:ah 1=1:=di;simp only[lK,c5,XV];generalize hf:(λ(x:ai×O×O×O×ai×aj)=>_)=f;have key:=og (f:=f) (λi=>(aI aN,(0:O),(0:O),(i:O),jn l 1 i,())) (T l-1) (λi=>(ap l (1+i)<|u8 0).toNat<=9) (aI aN,0,2,()) 2 ?_ ?_ ?_
  .have dM:(aI aN,(0:O),(0:O),((0:R):O),jn l 1 0,())=(aI aN,(0:O),(0:O),(0:O),l,()):=by rw[ahH];rfl
   rw[dM]at key;rcases key with⟨hall,az⟩|⟨⟨i,ao,ax⟩,az⟩
   .rw[az,aH<|(OB bK).2 hall,<- ahE]
    show J (cut (jn l 1<|List.length l-1) 1<|List.length l-1,((A+M:R):O),(0:O),())=_;have:cut (jn l 1<|List.length l-1) 1 (T l-1)=(jn l 1<|List.length l-1).drop 1:=by unfold cut;rw[i5<|by simp[BE]]
    rw[this];simp
   exact aO2
  .intro i ao hp
   subst hf;have xB:1+i<T l:=V;have zx:=hp i<|cx _;obtain⟨bX,aT⟩:=ahG xB zx;refine(bj<|cB (show(i:O)<bc (T l-1) by simp only[bc];omega)).trans ?_;have dP:aO (i:O) (bc<|List.length l-1)=af:=gr ao;refine(c3 dP).trans ?_;have NB:bB 1 (ah (i:O))=1+i:=by simp[bB,ah]
   have c:i64 (aG (i:O) 1)=((i+1:R):O):=gY (b:=1) V;simp only[NB,c];exact aLP
  .intro i ao _ hp
   subst hf;have xB:1+i<T l:=V;refine(bj<|cB (show(i:O)<bc (T l-1) by simp only[bc];omega)).trans ?_;have dP:aO (i:O) (bc<|List.length l-1)=af:=gr ao;refine(c3 dP).trans ?_;have NB:bB 1 (ah (i:O))=1+i:=by simp[bB,ah]
   simp only[NB];exact bj (by rw[kO,ahF xB,PV];exact cB V)
  intro _;subst hf;exact bf<|cm (show ¬((T l-1:R):O)<bc (T l-1) by simp only[bc];omega)
 have jo:N%2=0:=V;rw[aD<|λaA=>V];refine(bf<|cc V).trans ?_;simp only[jo];generalize hf:(λ(x:ai×O×O×O×ai×aj)=>_)=f;have key:=og (f:=f) (λi=>(aI aN,(0:O),(0:O),(i:O),jn l 0 i,())) (T l-0) (λi=>(ap l (0+i)<|u8 0).toNat<=9) (aI aN,0,2,()) 2 ?_ ?_ ?_
 .have dM:(aI aN,(0:O),(0:O),((0:R):O),jn l 0 0,())=(aI aN,(0:O),(0:O),(0:O),l,()):=by rw[ahH];rfl
  rw[dM]at key;rcases key with⟨hall,az⟩|⟨⟨i,ao,ax⟩,az⟩
  .rw[az,aH<|(OB bK).2 hall,<- ahE]
   show J (jn l 0<|List.length l-0,((A+M:R):O),(0:O),())=_;rw[vi];simp
  exact aO2
 .intro i ao hp
  subst hf;have xB:0+i<T l:=V;have zx:=hp i<|cx _;obtain⟨bX,aT⟩:=ahG xB zx;rw[oD]at bX aT zx;have dP:aO (i:O) (len<|jn l 0 i)=af:=gr (by rw[BE];omega);refine(bj<|cB (show(i:O)<len (jn l 0 i) by simp only[len,BE];omega)).trans ?_;refine(c3 dP).trans ?_;have c:i64 (aG (i:O) 1)=((i+1:R):O):=gY (b:=1) V;simp only[eO,c];exact aLP
 .intro i ao _ hp
  subst hf;have xB:0+i<T l:=V;have dP:aO (i:O) (len<|jn l 0 i)=af:=gr (by rw[BE];omega);refine(bj<|cB (show(i:O)<len (jn l 0 i) by simp only[len,BE];omega)).trans ?_;refine(c3 dP).trans ?_;simp only[eO];have hg:=ahF xB;rw[oD]at hg hp;exact bj (by rw[kO,hg,PV];exact cB V)
 intro _;subst hf;exact bf<|cm (show ¬((T l-0:R):O)<len (jn l 0<|List.length l-0) by simp only[len,BE];omega)
end Yp
namespace Yp
open Go
def wO(B:R)(wt:aN->R)(l:ai):R:=l.foldl (λn c=>B*n+wt c) 0
def aoJ(B:R)(wt:aN->R)(l:ai)(c:aN):wO B wt (l++[c])=B*wO B wt l+wt c:=by unfold wO;rw[List.foldl_append];rfl
def Z6(B:R)(g:R->aN)(v:R):∀n,bE B g v (n+1)=bE B g (v/B) n++[g<|v%B]
 |0=>by simp[bE]
 |n+1=>by have e:bE B g v (n+1+1)=g (v/B^(n+1)%B)::bE B g v (n+1):=rfl;have bh:bE B g (v/B) (n+1)=g (v/B/B^n%B)::bE B g (v/B) n:=rfl;rw[e,Z6 B g v n,bh,T',Nat.pow_succ',sN]
def aoI{B:R}{g:R->aN}{wt:aN->R}(a4:0<B)(h:∀d,d<B->wt (g d)=d):∀(n v:R),wO B wt (bE B g v n)=v%B^n
 |0,v=>by simp[bE,wO,Nat.mod_one]
 |n+1,v=>by rw[Z6,aoJ,aoI a4 h n,h _<|DK _ a4,Nat.pow_succ',Nat.mod_mul];omega
def akZ{B:R}{g:R->aN}{wt:aN->R}{l:ai}(h:∀c∈l,wt c<B/\g (wt c)=c):∀i,i<=T l->bE B g (wO B wt<|l.take i) i=l.take i
 |0,_=>by simp[bE]
 |i+1,ao=>by
  have aA:=h _<|j7 (show i<T l by omega);rw[pX V,aoJ,Z6];have e1:(B*wO B wt (l.take i)+wt l[i])/B=wO B wt (l.take i):=by rw[Nat.mul_add_div V,t4 aA.1];omega
  have bh:(B*wO B wt (l.take i)+wt l[i])%B=wt l[i]:=by rw[Nat.mul_add_mod,w1 aA.1]
  rw[e1,bh,akZ h i V,aA.2]
theorem aHJ(l:ai):val l=wO 10 lN l:=rfl
theorem aoH(v n:R):val (bE 10 g4 v n)=v%10^n:=by rw[aHJ];refine aoI V (λd a? => ?_) n v;simp only[lN,g4,MO];omega
theorem akY{l:ai}(hf:gX l):bE 10 g4 (val l) (T l)=l:=by
 have:=akZ (B:=10) (g:=g4) (wt:=lN) (l:=l) (λc aA=>by obtain⟨i,ao,rfl⟩:=sO aA;have:=Eo<|hf i ao;exact⟨this.2,this.1.symm⟩) (T l)<|cx _
 rw[qH]at this;exact this
def aHI{l:ai}(hf:gX l):val l<10^T l:=by have:=Ta (s:=l) (T l) (cx _)<|λj _ h=>hf j h;rw[qH]at this;exact this
def ah3{b:ai}:∀{i:R} (h:i<T b),ap (gI b) (2*i) (u8 0)=kf (b[i].toNat/16)/\ap (gI b) (2*i+1) (u8 0)=kf (b[i].toNat%16):=by
 induction b with
 |nil=>intro i h;simp at h
 |cons x r ih=>
  intro i h;have e:gI (x::r)=kf (x.toNat/16)::kf (x.toNat%16)::gI r:=rfl;cases i with
  |zero=>rw[e];exact aNB
  |succ i =>have:=ih (i:=i) aKP;rw[e];exact this
def aCS{a b:ai}(b6:T a=2*k)(ak:T b=2*k)(h:∀i,i<k->ap a (2*i) (u8 0)=ap b (2*i) (u8 0)/\ap a (2*i+1) (u8 0)=ap b (2*i+1) (u8 0)):a=b:=by
 apply sK
 .omega
 intro j Y ac;have:=h (j/2) V;by_cases hp:j%2=0
 .have:=this.1
  rw[show 2*(j/2)=j by omega,nth_get Y,nth_get ac]at this;exact this
 have:=this.2;rw[show 2*(j/2)+1=j by omega,nth_get Y,nth_get ac]at this;exact this
def ajY:∀d:R,d<16->jp (kf d)->lN (kf d)=d:=iQ
def af1:∀d:R,d<10->kf d=hy (48+d):=iQ
def ayi{p:ai}(hf:gX p)(aX:T p%2=0):gI (hO p)=p:=by
 have hl:T (hO p)=T p/2:=by simp[hO]
 refine aCS (k:=T p/2) (by rw[ut,hl]) V λi ao => ?_;have ej:i<T (hO p):=V;have aC:2*i<T p:=V;have Y:2*i+1<T p:=V;obtain⟨e1,bh⟩:=ah3 ej;obtain⟨c9,dl⟩:=Eo<|hf _ aC;obtain⟨fx,e7⟩:=Eo<|hf _ Y;have hg:(hO p)[i]=hy (16*lN p[2*i]+lN p[2*i+1]):=by simp[hO,jA,nth_get aC,nth_get Y]
 have ax:(hO p)[i].toNat=16*lN p[2*i]+lN p[2*i+1]:=by rw[hg,MO];omega
 rw[e1,bh,ax,nth_get aC,nth_get Y];rw[show(16*lN p[2*i]+lN p[2*i+1])/16=lN p[2*i] by omega,show(16*lN p[2*i]+lN p[2*i+1])%16=lN p[2*i+1] by omega];rw[af1 _ dl,af1 _ e7];exact⟨c9.symm,fx.symm⟩
theorem aqw{u:ai}(hf:gX<|gI u):hO (gI u)=u:=by
 have hl:=ut u;apply sK
 .simp[hO];omega
 intro i Y ac;obtain⟨e1,bh⟩:=ah3 ac;have f0:=hf (2*i) V;have f1:=hf (2*i+1) V;rw[<- nth_get (d:=u8 0)]at f0 f1;rw[e1]at f0;rw[bh]at f1;have bq:=zY u[i];simp only[hO,sM,yQ,jA,e1,bh];rw[ajY _ V f0,ajY _ V f1];apply wX.1;rw[MO];omega
end Yp
namespace Yp
def bA{a b r:α}(h:c=af)(k:a=r):aa c a b=r:=(bj h).trans k
def a8{a b r:α}(h:c=ag)(k:b=r):aa c a b=r:=(bf h).trans k
def a7{a r:au α}(h:c=af)(k:a=r):an c a=r:=(c3 h).trans k
def aW{o:au α}{a:α}{f:α->au β}{r:au β}(h:o=J a)(k:f a=r):ob o f=r:=(b3 h).trans k
end Yp
namespace Yp
open Go
def sL:=@Classical.not_not
def Hq:=@Bool.not_eq_false
def MB:=@Bool.false_ne_true
theorem aI8{y:σ}{kn:σ->au β}{ij:R->σ->au β}{iD:ρ->au β}:b? (J<|.ex k y) kn ij iD=ij k y:=rfl
def anc{a b:α}:aa c (J a) (J b)=J (aa c a b):=aKE
def aGr{a:α}:aa c a a=a:=aKE
def PK{f:σ->au (aL σ ρ)}(cI:R->σ)(n:R)(p:R->Prop)(r:R->aL σ ρ)(k:R)(az:∀i,match r i with|.nx _=>False|_=>True)(hs:∀i,i<n->p i->f (cI i)=J (.nx<|cI<|i+1))(ak:∀i,i<n->¬p i->f (cI i)=J (r i))(aX:f (cI n)=J (.ex k<|cI n)):
  ((∀i,i<n->p i)/\bG f (cI 0)=J (.ex k<|cI n))\/∃i,i<n/\(∀j,j<i->p j)/\¬p i/\bG f (cI 0)=J (r i):=by
 by_cases h:∀i,i<n->p i
 .refine .inl ⟨h,?_⟩
  rw[gS cI n (λi ao=>hs i ao<|h i ao) 0<|ea _];exact dr aX
 refine .inr ?_;have xz:∃i,i<n/\¬p i:=lI λaA=>h λi ao=>lI λhp=>aA ⟨i,ao,hp⟩;obtain⟨k,aB,hp⟩:=xz;induction k using Nat.strongRecOn with
 |_ k ih=>
  by_cases hl:∃j,j<k/\¬p j
  .obtain⟨j,aF,X0⟩:=hl
   exact ih j aF V X0
  have hall:∀i,i<k->p i:=λi ao=>lI λhp=>hl ⟨i,ao,hp⟩;refine⟨k,aB,hall,hp,?_⟩;rw[gS cI k (λi ao=>hs i V<|hall i ao) 0<|ea _];have:=ak k aB hp;have tk:=az k;generalize r k=x at *
  cases x with
  |nx y=>exact tk.elim
  |ex j y=>exact dr this
  |rt y=>exact oY this
def ui:ab<|List O:=[[1,2,25],[1,3,22,49,70],[1,4,13,14,18],[1,6,3,11,12,15],[1,10,7],[1,12,4],[1,16,53],[1,42,90],[2,19,2],[2,11,32,100],[3,12,37],[3,6,38],[3,2,39],[3,8,41],[3,15,42],[3,42,95],[4,37,35],[4,28,102],[5,400,48],[5,120,54],[6,8,52,64,96,128],[7,255,55],[7,400,127]]
def m4(i:R):ab O:=ap ui i<|aI O
def fl(no:O):au<|Int×O:=(ui.find? λr=>(r.drop 2).contains no).map λr=>(ap r 0 0,ap r 1 0)
def i'(o:au<|Int×O):(O×O×aj)×aE×aj:=match o with|some (k,l)=>((k,l,()),af,())|none=>((0,0,()),ag,())
def aEf(l:ab O)(n:O)(hl:T l<=1000000):KP (l,n,())=J (l.contains n,()):=by
 unfold KP;generalize hf:(λ(ae:aE×O×aj)=>_)=f;have key:=PK (f:=f) (λi=>(ag,(i:O),())) (T l) (λi=>¬ap l i 0=n) (λ_=>.rt (af,())) 0 (λ_=>trivial) ?_ ?_ ?_
 .rcases key with⟨h,az⟩|⟨i,ao,_,hp,az⟩
  .refine(cE az).trans ?_
   have:l.contains n=ag:=by
    grind [List.getElem_of_mem,nth_get]
   rw[this];rfl
  refine(cE az).trans ?_;have:l.contains n=af:=by
   grind [nth_get]
  rw[this];rfl
 .intro i ao hp
  subst hf;refine bA (xY.trans<|decide_eq_true ao) ?_;refine a7 (gr ao) ?_;refine a8 (cc hp) ?_;have c:i64 (aG (i:O) 1)=((i+1:R):O):=gY (b:=1) V
  grind
 .intro i ao hp
  subst hf;refine bA (xY.trans<|decide_eq_true ao) ?_;refine a7 (gr ao) ?_;exact bj<|ck (sL.1 hp)
 exact aN4
def agA{α:Type}{p:α->aE}:∀{l:ab α} {i:R} (h:i<T l),(∀j (aF:j<i),p (l[j]'V)=ag)->p l[i]=af->l.find? p=J l[i]
 |a::r,0,_,_,h=>by simp only[List.getElem_cons_zero]at h ⊢;exact List.find?_cons_of_pos h
 |a::r,i+1,ao,aF,h=>by rw[List.find?_cons_of_neg (by have:=aF 0 V;simp at this;rw[this];exact MB)];exact agA (by grind) (λj jE=>by have:=aF (j+1) V;simpa using this) h
def KM(no:O):Aa (no,())=J (i'<|fl no):=by
 unfold Aa;generalize hf:(λ(ae:aE×O×aj)=>_)=f;have cP:∀i,i<23->3<=T (m4 i)/\T (m4 i)<=10:=di;have dP:∀i,i<23->KP (sub (m4 i) 2<|len<|m4 i,no,())=J (((m4 i).drop 2).contains no,()):=by
  intro i ao;have:=cP i ao;rw[aEf _ _ (by simp only[sub,jl,dV];omega)];have:sub (m4 i) 2 (len<|m4 i)=(m4 i).drop 2:=by simp only[sub,len];rw[i5 bP];rfl
  rw[this]
 have key:=PK (f:=f) (λi=>(ag,(i:O),())) 23 (λi=>((m4 i).drop 2).contains no=ag) (λi=>.rt ((ap (m4 i) 0 0,ap (m4 i) 1 0,()),af,())) 0 (λ_=>trivial) ?_ ?_ ?_
 .have ax:∀i,(h:i<23)->ui[i]'(by exact h)=m4 i:=λi h=>(nth_get (d:=aI O)<|by exact h).symm
  rcases key with⟨h,az⟩|⟨i,ao,aF,hp,az⟩
  .refine(cE az).trans ?_
   have:fl no=aq:=by unfold fl;rw[Option.map_eq_none_iff,List.find?_eq_none];intro r hm;obtain⟨i,ao,rfl⟩:=sO hm;rw[ax i ao,h i ao];exact MB
   rw[this];rfl
  refine(cE az).trans ?_;have:fl no=J (ap (m4 i) 0 0,ap (m4 i) 1 0):=by unfold fl;have ah4:ui.find? (λr=>(r.drop 2).contains no)=J (ui[i]'(by exact ao)):=agA (l:=ui) (p:=λ(r:ab O)=>(r.drop 2).contains no) ao (λj jE=>(d4 (λ(r:ab O)=>(r.drop 2).contains no)<|ax j V).trans<|aF j jE)<|(d4 (λ(r:ab O)=>(r.drop 2).contains no)<|ax i ao).trans<|(Hq _).mp hp;rw[ah4,ax i ao];rfl
  rw[this];rfl
 .intro i ao hp
  subst hf;have h:=cP i ao;refine bA (xY (b:=23).trans<|decide_eq_true ao) ?_;refine a7 (gr (n:=23) ao) ?_;refine a7 (show cq 2 (len<|m4 i) (len<|m4 i)=af from q7 V In V) ?_;refine aW (dP i ao) ?_;refine a8 hp ?_;have c:i64 (aG (i:O) 1)=((i+1:R):O):=gY (b:=1) V;simp only[c]
 .intro i ao hp
  subst hf;have h:=cP i ao;refine bA (xY (b:=23).trans<|decide_eq_true ao) ?_;refine a7 (gr (n:=23) ao) ?_;refine a7 (show cq 2 (len<|m4 i) (len<|m4 i)=af from q7 V In V) ?_;refine aW (dP i ao) ?_;refine bA ((Hq _).mp hp) ?_
  repeat refine a7 (gr (n:=23) ao) ?_
  repeat first
   |refine a7 (show aO 0 (len<|m4 i)=af from ai0 V In) ?_
   |refine a7 (show aO 1 (len<|m4 i)=af from ai0 V In) ?_
   |refine a7 (gr (n:=23) ao) ?_
  rfl
 subst hf;exact bf<|cm (by simp only[len];decide)
def EE:ab O:=ui.flatMap λr=>r.drop 2
def ly(k no:O):O:=match Bu (k,no,()) with|some (a,())=>a|none=>0
def av4(no:O):∃a,Io (no,())=J (a,()):=by
 unfold Io;simp only[anc]
 grind
def av6(k no:O):Bu (k,no,())=J (ly k no,()):=by
 have:∃a,Bu (k,no,())=J (a,()):=by
  unfold Bu;obtain⟨a,b6⟩:=av4 no;simp only[b6,Zr,anc]
  grind
 grind [ly]
def Kq(no:O):au<|Int×O:=if 0<ly 1 no then J (1,ly 1 no) else if 0<ly 2 no then J (2,ly 2 no) else if 0<ly 3 no then J (3,ly 3 no) else if 0<ly 4 no then J (4,ly 4 no)
 else if 0<ly 5 no then J (5,ly 5 no) else if 0<ly 6 no then J (6,ly 6 no) else if 0<ly 7 no then J (7,ly 7 no) else aq
def av1(no:O):xk (no,())=J (i'<|Kq no):=by
 unfold xk;generalize hf:(λ(ae:aE×O×aj)=>_)=f;have step:∀k:R,k<=7->f (ag,(k:O),())=if 0<ly k no then J (.rt (((k:O),ly k no,()),af,())) else J<|.nx (ag,((k+1:R):O),()):=by
  intro k aB;subst hf;refine bA (il<|show(k:O)<=7 by omega) ?_;refine aW (av6 _ _) ?_;have c:i64 (aG (k:O) 1)=((k+1:R):O):=gY (b:=1) V;simp only[c];by_cases h:0<ly k no
  .rw[aH h];exact bj<|cB h
  rw[aD h];exact bf<|cm h
 have last:f (ag,((8:R):O),())=J (.ex 0 (ag,((8:R):O),())):=by subst hf;exact bf<|jG (show ¬((8:R):O)<=7 by omega)
 have key:∀k:R,k<=7->ly k no<=0->bG f (ag,(k:O),())=bG f (ag,((k+1:R):O),()):=λk aB h=>dT (by rw[step k aB,aD V]);have pz:∀k:R,k<=7->0<ly k no->bG f (ag,(k:O),())=J (.rt (((k:O),ly k no,()),af,())):=λk aB h=>oY (by rw[step k aB,aH h]);have:=key 1;have:=key 2;have:=key 3;have:=key 4;have:=key 5;have:=key 6;have:=key 7;have:=pz 1;have:=pz 2;have:=pz 3;have:=pz 4;have:=pz 5;have:=pz 6;have:=pz 7;have cH:bG f (ag,((8:R):O),())=J (.ex 0 (ag,((8:R):O),())):=dr last;show b? (bG f (ag,((1:R):O),())) _ _ _=_;unfold Kq
 repeat' split
 all_goals
  simp_all
  first|done|rfl
theorem aA5{no:O}(h:∀c∈EE,¬no=c):∀k,ly k no=0:=by have ce:∀c∈EE,am no c=ag:=λc aA=>cc<|h c aA;have e:EE=[25,22,49,70,13,14,18,3,11,12,15,7,4,53,90,2,32,100,37,38,39,41,42,95,35,102,48,54,52,64,96,128,55,127]:=di;simp_all[ly,Bu,Io,C9,Zr,aGr]
def aC4(no:O):Kq no=fl no:=by
 by_cases h:no∈EE
 .exact(by decide +kernel:∀no∈EE,Kq no=fl no) no h
 grind [EE,Kq,aA5,fl,Option.map_eq_none_iff]
def Il(no:O):xk (no,())=J (i'<|fl no):=by rw[av1,aC4]
def kinds(k:O):Prop:=k=1\/k=2\/k=3\/k=4\/k=5\/k=6\/k=7
instance (k:O):hu<|kinds k:=by unfold kinds;infer_instance
def qW{no k l:O}(h:fl no=J (k,l)):kinds k/\1<=l/\l<=400/\(k=2\/k=4->l<=99):=by
 unfold fl at h;rw[ns]at h;have:∀r∈ui,kinds (ap r 0 0)/\1<=ap r 1 0/\ap r 1 0<=400/\(ap r 0 0=2\/ap r 0 0=4->ap r 1 0<=99):=iQ
 grind
def pO(lo ao:O)(v:ai):Prop:=∀i (h:i<T v),lo<=aV v[i]/\aV v[i]<=ao
instance (lo ao:O) (v:ai):hu<|pO lo ao v:=inferInstanceAs<|Decidable (∀(i:R) (h:i<T v),lo<=aV v[i]/\aV v[i]<=ao)
def aky(lo ao:aN)(v:ai)(hl:T v<=1000000):∃i,bG (λ(ae:aE×O×aj)=>
  aa (aK ae.2.1<|len v) (an (aO ae.2.1<|len v) (ob (aa (aK (aV<|ap v (ah ae.2.1)<|u8 0)<|aV lo) (J (af,()))<|some (aK (aV ao)<|aV<|ap v (ah ae.2.1)<|u8 0,()))
   λ(a:aE×aj)=>aa a.1 (J<|aL.ex 999999999 (ag,ae.2.1,()))<|some<|aL.nx (ae.1,i64<|aG ae.2.1 1,())))
   (J (aL.ex 0 (ae.1,ae.2.1,()):aL (aE×O×aj) aj))) (ag,0,())=J (if pO (aV lo) (aV ao) v then .ex 0 (ag,i,()) else .ex 999999999 (ag,i,())):=by
 generalize hf:(λ(ae:aE×O×aj)=>_)=f;have key:=PK (f:=f) (λi=>(ag,(i:O),())) (T v) (λi=>aV lo<=aV (ap v i<|u8 0)/\aV (ap v i<|u8 0)<=aV ao) (λi=>.ex 999999999 (ag,(i:O),())) 0 (λ_=>trivial) ?_ ?_ ?_
 .rcases key with⟨h,az⟩|⟨i,ao,_,hp,az⟩
  .refine⟨(T v:O),az.trans ?_⟩
   rw[aH (show pO (aV lo) (aV ao) v from λi ao=>by have:=h i ao;rwa [nth_get ao]at this)]
  refine⟨(i:O),az.trans ?_⟩;rw[aD λ(aA:pO (aV lo) (aV _) v)=>hp (by have:=aA i ao;rwa [<- nth_get (d:=u8 0) ao]at this)]
 .intro i ao hp
  subst hf;refine bA (xY.trans<|decide_eq_true ao) ?_;refine a7 (gr ao) ?_;have c:i64 (aG (i:O) 1)=((i+1:R):O):=gY (b:=1) V;simp only[eO,c];refine aW (a:=(ag,())) (a8 (cm V)<|congrArg (λb=>J (b,()))<|cm V) ?_;rfl
 .intro i ao hp
  subst hf;refine bA (xY.trans<|decide_eq_true ao) ?_;refine a7 (gr ao) ?_;simp only[eO];by_cases h:aV (ap v i<|u8 0)<aV lo
  .exact aW (bj<|cB h) rfl
  exact aW (a:=(af,())) (a8 (cm h)<|congrArg (λb=>J (b,()))<|cB V) rfl
 subst hf;exact bf<|cm In
def xi(k:O)(v:ai):Prop:=(k<=2->gX v)/\(k<=5->pO 32 126 v)
def kN(k l:O)(n:R):Prop:=if k=1\/k=3\/k=6 then(n:O)=l else 1<=n/\(n:O)<=l
instance (k l:O) (n:R):hu<|kN k l n:=by unfold kN;infer_instance
def hU(k l:O)(v:ai):Prop:=xi k v/\kN k l (T v)
instance (k l:O) (v:ai):hu<|hU k l v:=inferInstanceAs<|Decidable (((k<=2->gX v)/\(k<=5->pO 32 126 v))/\kN k l (T v))
theorem J5(c:aN):aV c=((c.toNat:R):O):=rfl
def aFR{v:ai}:pO 48 57 v↔gX v:=by unfold pO gX jp;refine forall_congr' λi=>forall_congr' λh => ?_;rw[J5];omega
theorem EB{v:ai}(h:gX v):pO 32 126 v:=λi ao=>by
 have:=h i ao
 grind [jp,J5]
def ec(k:O):O:=if k=2\/k=4 then 2 else if k=5\/k=7 then 3 else 0
def agp{k:O}(aB:kinds k):jB (k,())=J (ec k,()):=aLs
def QH{k:O}(aB:kinds k):F5 (k,())=J (ec k,()):=aLs
def agU{o:au<|Int×O}{k l:O}(h:o=J (k,l)):i' o=((k,l,()),af,()):=aKU
def awt{o:au<|Int×O}(h:o=aq):i' o=((0,0,()),ag,()):=aKU
def nh{a b:aE}(h:a=b):J (a,())=J (b,()):=by rw[h]
def gp(no:O)(v:ai):aE:=match fl no with|some (k,l)=>decide (hU k l v)|none=>ag
def Oy(no:O)(v:ai)(hl:T v<=1000000):xj (no,v,())=J (gp no v,()):=by
 unfold xj gp;refine aW (Il no) ?_;cases bg:fl no with
 |none=>exact aW (a:=(af,())) (bj rfl) rfl
 |some p=>
  obtain⟨k,l⟩:=p;rw[agU rfl];obtain⟨aB,Y,qZ,tc⟩:=qW bg;by_cases cP:l<T v
  .refine aW (a:=(af,())) (a8 rfl<|nh<|cB cP) ?_
   refine bA rfl<|nh ?_;refine(iW λh => ?_).symm;have:=h.2
   grind [kN]
  refine aW (a:=(ag,())) (a8 rfl<|nh<|cm cP) ?_;obtain⟨i,e9⟩:=aky (u8 48) (u8 57) v hl;obtain⟨j,gK⟩:=aky (u8 32) (u8 126) v hl;have e1:pO (aV<|u8 48) (aV<|u8 57) v↔gX v:=aFR;have bh:pO (aV<|u8 32) (aV<|u8 126) v↔pO 32 126 v:=sU;simp only[e1]at e9;simp only[bh]at gK;have DH:∀{c:aE} {p:Prop} [hu p],(c=af↔p)->J (c,())=J (decide p,()):=fun{c p _} h=>nh<|rH.2<|h.trans decide_eq_true_iff.symm;refine a8 rfl ?_;rcases aB with rfl|rfl|rfl|rfl|rfl|rfl|rfl
  .refine bA rfl ?_;refine bA rfl ?_
   refine(cE e9).trans ?_;by_cases hf:gX v
   .rw[aH hf]
    refine(cE gK).trans ?_;rw[aH<|EB hf];refine DH ?_
    grind [am,len,hU,kN,xi,EB]
   exact aNE
  .refine a8 rfl ?_;refine bA rfl ?_
   refine(cE e9).trans ?_;by_cases hf:gX v
   .rw[aH hf]
    refine(cE gK).trans ?_;rw[aH<|EB hf];refine DH ?_
    grind [aK,len,hU,kN,xi,EB]
   exact aNE
  .refine a8 rfl ?_;refine a8 rfl ?_;refine bA rfl ?_;refine bA rfl ?_
   refine(cE gK).trans ?_;by_cases hf:pO 32 126 v
   .rw[aH hf]
    refine DH ?_
    grind [am,len,hU,kN,xi]
   exact aLn
  .refine a8 rfl ?_;refine a8 rfl ?_;refine a8 rfl ?_;refine bA rfl ?_
   refine(cE gK).trans ?_;by_cases hf:pO 32 126 v
   .rw[aH hf]
    refine DH ?_
    grind [aK,len,hU,kN,xi]
   exact aLn
  .refine a8 rfl ?_;refine a8 rfl ?_;refine a8 rfl ?_;refine a8 rfl ?_;refine bA rfl ?_
   refine(cE gK).trans ?_;by_cases hf:pO 32 126 v
   .rw[aH hf]
    refine DH ?_;simp[aK,len,hU,kN,xi,hf];omega
   exact aLn
  .refine a8 rfl ?_;refine a8 rfl ?_;refine a8 rfl ?_;refine a8 rfl ?_;refine a8 rfl ?_
   refine DH ?_;simp[am,len,hU,kN,xi]
  refine a8 rfl ?_;refine a8 rfl ?_;refine a8 rfl ?_;refine a8 rfl ?_;refine a8 rfl ?_;refine DH ?_;simp[aK,len,hU,kN,xi];omega
end Yp