/- A part of the proof of the statements of this seat: plain functions, and laws on them. No condition of its own. -/
import Derived.Test.YtofckmopfilanaaGreatDoorE2
import Derived.Lib.LaidTab
import Derived.MakeChecks
import Derived.KernelRfl
import Derived.Test.YtofckmopfilanaaGreatDoorProg
import Derived.WalkKit
import Derived.RangeFuncBox
import Derived.RangeFuncLeaves
import Derived.Shelf.Abstract
import Derived.OwnWalkIn
import Derived.TacticsInMore
import Derived.LoopNIn
import Derived.LoopIn
import Derived.Maps.AppendAt
set_option linter.unusedVariables false
set_option linter.unusedSimpArgs false
set_option linter.defProp false
noncomputable section
open Go Yp
variable {U c:Bool}{a k l no:Int}{A I N W b bf f i m n o:Nat}{α β ρ σ:Type}
namespace Yp
def ir{p:Prop}(h:p:=by decide +kernel):p:=h
def cS{p:Prop}(h:p:=by simp only[go_sem];omega):p:=h
def jL{p:Prop}(h:p:=by simp(disch:=first|assumption|omega|(dsimp only;omega)|decide) only[go_sem,Int.reduceToNat];omega):p:=h
end Yp
namespace Yp
abbrev V:=List UInt8
abbrev aX:=Bool×Unit
abbrev cz:=V×Int×Unit
abbrev dH:=(Int×List (Int×V×Unit)×Unit)×Int×Unit
abbrev na:=Bool×Int×Unit
abbrev da:=Int×Int×Unit
abbrev f8:=Int×Unit
abbrev dj:=(Int×List (Int×V×Unit)×Unit)×Unit
abbrev g?:= V×Unit
abbrev zs:=Int×V×Unit
abbrev uh:=(Bool×Int×Int×Int×Int×V×V×Int×Unit)×Unit
abbrev sU:=(List UInt32×Int×V×Unit)×Unit
abbrev rP:=(Int×Int×Unit)×Bool×Unit
abbrev k5:=V×Int×Int×Unit
abbrev ui:=List (Int×V×Unit)×Int×Unit
abbrev xv:=List (Int×V×Unit)×Unit
abbrev Fm:=Int×Bool×Unit
abbrev B4:=List (Int×Int×V×Unit)×Unit
abbrev J':=List (Int×List Int×Int×V×Unit)×Unit
abbrev Fo:=(Int×List UInt64×Unit)×Int×Unit
abbrev ul:=Int×Int×Int×(Int×List (Int×V×Unit)×Unit)×Unit
abbrev Fp:=V×Bool×Unit
abbrev Xx:=Int×Int×List (Int×Int×V×Unit)×Unit
abbrev xx:=Int×(Int×List UInt64×Unit)×Unit
abbrev qU:=(Bool×Int×Int×Int×Int×V×V×Int×Unit)×Int×Unit
abbrev rR:=Int×List UInt32×Unit
abbrev Ka:=V×Int×Int×Int×V×Unit
abbrev Fd:=List Int×Unit
abbrev BU:=(Int×List UInt64×Unit)×Unit
abbrev BV:=V×Int×Int×Nat×Unit
abbrev W9:=Int×V×Int×Unit
abbrev W_:=Bool×Int×Int×Unit
abbrev W':=List Int×Int×Unit
abbrev aiO:=List V×V×(V×Int×Int×Unit)×Unit
abbrev Fe:=(List (Int×V×Unit)×Nat×Unit)×Unit
abbrev W?:= List Int×Int×Int×Unit
abbrev ug:=Int×UInt8×Unit
abbrev BW:=V×(List UInt32×Int×V×Unit)×Unit
abbrev JU:=Int×Int×Int×Unit
abbrev JV:=(V×Int×Int×Unit)×List V×Unit
abbrev Xa:=UInt32×Unit
abbrev Xb:=List UInt32×Int×Unit
abbrev Xc:=(Int×List (Int×V×Unit)×Unit)×Int×V×Unit
abbrev O9:=Int×Int×V×Unit
abbrev Xd:=(Int×V×Unit)×(Int×V×Unit)×Unit
abbrev aiP:=Int×Int×Int×Nat×Unit
abbrev Xe:=List (V×V×Unit)×Unit
abbrev Xf:=Int×Int×Nat×V×Unit
abbrev Xg:=List Int×V×Int×Unit
abbrev Xh:=(V×V×Unit)×Int×Int×Unit
abbrev Xi:=(Int×V×Unit)×Unit
abbrev JW:=Int×Bool×Int×Unit
abbrev JX:=V×List UInt32×Unit
abbrev W5:=(V×V×Unit)×Unit
abbrev W6:=Int×Int×Bool×Unit
abbrev W7:=V×V×Unit
abbrev W8:=List V×Unit
abbrev A':=UInt8×Bool×Unit
abbrev aaP:=Int×UInt64×Unit
abbrev abk:=UInt8×Int×Unit
abbrev abq:=List UInt32×Unit
end Yp
namespace Yp
open Go
set_option maxRecDepth 100000
def akC{a b:Bool}(O:a=true)(R:b=true):(a&&b)=true:=by rw[O,R];rfl
def aeq : List (String × DataW Unit) := [("yett/sha.keys", Lib.tabData .u32 ((qz : List UInt32).map a8))]
def UH:(qz:List UInt32).length=64:=by kernel_rfl
def auI {P : Program} {W : World} {g t e : Nat} (hg : P.globalNamed "yett/sha.keys" = some g) (Uc : (P.globals[g]?).map (·.type) = some t) (ht : P.underlying t = some (.array 64 e)) (aC : P.underlying e = some (.int .u32)) (ac7 : P.cellsOf e = 1) (arP : P.cellsOf t = 64)
  {laid:List (String×DataW Unit)} (hl:laid=aeq) (h:laidMetH P laid W):mA P (full W):=by
 subst hl;have bE:laidMet P aeq W:=by exact h
 have hT : Lib.TabIs P W "yett/sha.keys" .u32 ((qz : List UInt32).map a8) := Lib.tabIs_of_head (rest := []) hg Uc ht aC ac7 arP bE
 intro g6 TJ;obtain rfl:g=g6:=ps (hg.symm.trans TJ);unfold Lib.TabIs World.var? at hT;rw[hg]at hT;simp at hT;split at hT
 .rename_i cs el fz hcell
  have my:cs=(((qz:List UInt32).map a8).map λz=>Value.int .u32 z).toArray:=ps hT;have cm:cs.size=64:=by rw[my];simp[UH]
  refine aI.iM.2 ⟨some ⟨g,0,none⟩,1,rfl,b1 _,bO,.inr ⟨g,0,cs,el,fz,rfl,hcell,by show 0+1*64<=cs.size;omega,?_⟩⟩;intro i x ac;have:i=0/\x=(qz:List (bG .u32)):=by
   grind
  obtain⟨rfl,rfl⟩:=this;have ab:cM cs (0+0*(ag.ar 64 (.int .u32)).size) (ag.ar 64 (.int .u32)).size=((qz:List UInt32).map a8).map λz=>Value.int .u32 z:=by rw[my];rfl
  rw[ab];refine aI.wg.2 ⟨UH,by simp[UH,ag.size],?_⟩;intro j y ap;have kV:(qz:List UInt32)[j]?=some y:=ap;show(List.drop (j*1) _).take 1=_;obtain⟨bn,rfl⟩:=mR.1 kV;rw[h3 (by grind)];simp[bG.to]
 cases hT
end Yp
namespace Yp
open Go
set_option maxRecDepth 100000
def auS{P:Program}{a:String×DataW Unit}{l:List (String×DataW Unit)}{W:World}(h:laidMet P (a::l) W):laidMet P l W:=by obtain⟨a_,⟨_,_,_,_,p,q,_,_,_,_,aQ,rfl⟩,ak,ah⟩:=h;exact⟨q,aQ,(p7.1 ak).2.1,λb off hm=>ah b off (hG.2 (.inr hm))⟩
def auR{P:Program}{a:String×DataW Unit}{l:List (String×DataW Unit)}{W:World}(h:laidMet P (a::l) W):laidMet P [a] W:=by
 obtain⟨a_,⟨g,t,cs,gG,p,q,O,R,af,au,aQ,rfl⟩,ak,ah⟩:=h;refine⟨_,⟨g,t,cs,gG,p,[],O,R,af,au,rfl,rfl⟩,?_,λb off hm=>ah b off (hG.2 (.inl ?_))⟩
 .rw[nU];exact(p7.1 ak).1
 rw[nU]at hm;exact hm
def auQ{P:Program}{a b:String×DataW Unit}{l:List (String×DataW Unit)}{W:World}(bh:((a::b::l).all λx=>x.2.handleName?.isNone)=true)(aa:([b].all λx=>x.2.handleName?.isNone)=true)(h:laidMetH P (a::b::l) W):laidMetH P [b] W:=by rw[MakeChecks.laidMetH_plain P _ W bh]at h;rw[MakeChecks.laidMetH_plain P _ W aa];exact auR (auS h)
def sa(x:da):Option (cz):=letI b:=x.2.1;letI c:=some (true,());ob (T (aH b 1) c (T (aH 18 b) c (some (aH x.1 0,())))) λ(a:aX)=>T a.1 (some (aR UInt8,1,())) (an (c3 (b8 0 b b) (ci 1 (ae b))) (cb (bK (λ(x:O9)=>letI d:=x.2.1;T (b3 0 d) (an (aN (fR x.1 10) (len [48,49,50,51,52,53,54,55,56,57,97,98,99,100,101,102])) (an (aN d (len x.2.2.1)) (some (aF.nx (i64 (gd x.1 10),i64 (bq d 1),cn x.2.2.1 (ae d) (ao [48,49,50,51,52,53,54,55,56,57,97,98,99,100,101,102] (ae (fR x.1 10)) (u8 0)),()))))) (some (aF.ex 0 (x.1,d,x.2.2.1,())))) (x.1,i64 (bq b 1),bR (ae b) (u8 0),())) (λ(a:O9)=>none) (λ(i:Nat) (a:O9)=>an (bX i 0) (T (aH 0 a.1) (some (aR UInt8,1,())) (some (a.2.2.1,0,())))) λ(r:cz)=>some r))
def tn(x:f8):Option (Fm):=letI b:=HX (bq x.1 48);ob (T (b3 48 x.1) (some (i64 b,b3 x.1 57,())) (some (i64 b,false,()))) λ(a:Fm)=>some (a.1,a.2.1,())
def uV(x:g?):Option (da):=ob (T (aH (len x.1) 1) (some (true,())) (some (aH 18 (len x.1),()))) λ(a:aX)=>T a.1 (some (0,2,())) (cb (bK (λ(Y:aiP)=>letI b:=Y.2.2.2.1;T (kz b (aV x.1)) (ob (tn (bi (h? x.1 b).1,())) λ(a:Fm)=>T (bg a.2.1) (some (aF.rt (0,2,()))) (some (aF.nx (Y.1,Y.2.1,i64 (aE (i64 (fv 10 Y.2.2.1)) a.1),bI b (h? x.1 b).2,())))) (some (aF.ex 0 (Y.1,Y.2.1,Y.2.2.1,b,())))) (0,0,0,0,())) (λ(a:aiP)=>none) (λ(i:Nat) (a:aiP)=>an (bX i 0) (some (a.2.2.1,0,()))) λ(r:da)=>some r)
def uU(x:g?):Option (cz):=letI b:=i64 (gd (i64 (aE (len x.1) 1)) 2);an (c3 (b8 0 b b) (ci 1 (ae b))) (cb (bK (λ(Y:Xf)=>letI c:=i64 (gd Y.2.1 2);letI d:=Y.2.2;letI e:=aN c (len d.2.1);T (kz d.1 (aV x.1)) (ob (tn (bi (h? x.1 d.1).1,())) λ(a:Fm)=>T (bg a.2.1) (some (aF.rt (aR UInt8,2,()))) (an e (an e (some (aF.nx (Y.1,i64 (aE Y.2.1 1),bI d.1 (h? x.1 d.1).2,cn d.2.1 (ae c) (u8 (g' IntKind.u8 (aO (u8 (h0 IntKind.u8 (aO (ao d.2.1 (ae c) (u8 0))) (cL (u64 4))))) (aO (u8 a.1)))),())))))) (some (aF.ex 0 (Y.1,Y.2.1,d.1,d.2.1,())))) (0,fR (len x.1) 2,0,bR (ae b) (u8 0),())) (λ(a:Xf)=>none) (λ(i:Nat) (a:Xf)=>an (bX i 0) (some (a.2.2.2.1,0,()))) λ(r:cz)=>some r)
def N3(x:W7):Option (aX):=some (seq x.1 x.2.1,())
def GF(x:g?):Option (g?):=letI e:=len x.1;letI g:=i64 (fv 2 e);an (c3 (b8 0 0 g) (ci 1 (ae g))) (cb (bK (λ(Y:cz)=>letI f:=Y.2.1;letI b:=aO (ao x.1 (ae f) (u8 0));letI c:=aO (u8 (fO IntKind.u8 b (cL (u64 4))));letI d:=aO (u8 (i9 IntKind.u8 b (aO (u8 15))));T (aH f e) (an (aN f e) (an (aN c (len [48,49,50,51,52,53,54,55,56,57,97,98,99,100,101,102])) (an (aN d (len [48,49,50,51,52,53,54,55,56,57,97,98,99,100,101,102])) (an (ci 1 (bI (aV Y.1) (aV [ao [48,49,50,51,52,53,54,55,56,57,97,98,99,100,101,102] (ae c) (u8 0),ao [48,49,50,51,52,53,54,55,56,57,97,98,99,100,101,102] (ae d) (u8 0)]))) (some (aF.nx (cg Y.1 [ao [48,49,50,51,52,53,54,55,56,57,97,98,99,100,101,102] (ae c) (u8 0),ao [48,49,50,51,52,53,54,55,56,57,97,98,99,100,101,102] (ae d) (u8 0)],i64 (aE f 1),()))))))) (some (aF.ex 0 (Y.1,f,())))) (bR (ae 0) (u8 0),0,())) (λ(a:cz)=>none) (λ(i:Nat) (a:cz)=>an (bX i 0) (some (a.1,()))) λ(r:g?)=>some r)
def ye(x:k5):Option (k5):=letI k:=x.2.2.1;letI j:=x.2.1;letI d:=i64 (gd (i64 (aE k 1)) 2);letI b:=aE j d;letI g:=some (true,());letI l:=len x.1;ob (T (aH k 0) g (T (aH 999 k) g (T (aH j 0) g (some (aH l j,()))))) λ(a:aX)=>T a.1 (some (aR UInt8,0,1,())) (T (aH (i64 (bq l j)) d) (some (aR UInt8,0,3,())) (an (b8 j (i64 b) l) (ob (GF (sub x.1 j (i64 b),())) λ(a:g?)=>letI c:=len a.1;letI h:=sub a.1 1 c;T (aj (fR k 2) 1) (an (aN 0 c) (T (bg (aj (aO (ao a.1 (ae 0) (u8 0))) (aO (u8 48)))) (some (aR UInt8,0,2,())) (an (b8 1 c c) (cb (bK (λ(x:BV)=>letI e:=x.2.2.2.1;T (kz e (aV h)) (ob (tn (bi (h? h e).1,())) λ(a?:Fm)=>T (bg a?.2.1) (some (aF.rt (aR UInt8,0,2,()))) (some (aF.nx (x.1,x.2.1,x.2.2.1,bI e (h? h e).2,())))) (some (aF.ex 0 (x.1,x.2.1,x.2.2.1,e,())))) (aR UInt8,0,0,0,())) (λ(a:BV)=>none) (λ(i:Nat) (a?:BV)=>an (bX i 0) (some (sub a.1 1 c,i64 b,0,()))) λ(r:k5)=>some r)))) (cb (bK (λ(x:BV)=>letI f:=x.2.2.2.1;T (kz f (aV a.1)) (ob (tn (bi (h? a.1 f).1,())) λ(a?:Fm)=>T (bg a?.2.1) (some (aF.rt (aR UInt8,0,2,()))) (some (aF.nx (x.1,x.2.1,x.2.2.1,bI f (h? a.1 f).2,())))) (some (aF.ex 0 (x.1,x.2.1,x.2.2.1,f,())))) (aR UInt8,0,0,0,())) (λ(a:BV)=>none) (λ(i:Nat) (a?:BV)=>an (bX i 0) (some (a.1,i64 b,0,()))) λ(r:k5)=>some r))))
def lZ(x:k5):Option (JU):=letI d:=x.2.2.1;letI c:=x.2.1;letI h:=aE c d;letI b:=sub x.1 c (i64 h);letI e:=some (true,());letI f:=len x.1;ob (T (aH d 1) e (T (aH 8 d) e (T (aH c 0) e (some (aH f c,()))))) λ(a:aX)=>T a.1 (some (0,0,1,())) (T (aH (i64 (bq f c)) d) (some (0,0,3,())) (ob (T (aj d 8) (an (aN c f) (some (aH (aO (u8 127)) (aO (ao x.1 (ae c) (u8 0))),()))) (some (false,()))) λ(a:aX)=>T a.1 (some (0,0,2,())) (an (b8 c (i64 h) f) (cb (bK (λ(Y:da)=>letI g:=Y.2.1;T (aH g (len b)) (an (aN g (len b)) (some (aF.nx (i64 (g' IntKind.i64 (i64 (h0 IntKind.i64 Y.1 (cL (u64 8)))) (i64 (aO (ao b (ae g) (u8 0))))),i64 (aE g 1),())))) (some (aF.ex 1 (Y.1,g,())))) (0,0,())) (λ(a:da)=>none) (λ(i:Nat) (a:da)=>an (bX i 1) (some (a.1,i64 h,0,()))) λ(r:JU)=>some r))))
def ql(x:da):Option (cz):=letI b:=x.2.1;letI c:=some (true,());letI f:=i64 (fv 8 b);ob (T (aH b 1) c (T (aH 8 b) c (T (aH x.1 0) c (T (aH b 8) (an (b3 0 f) (some (aH 0 (fO IntKind.i64 x.1 f),()))) (some (false,())))))) λ(a:aX)=>T a.1 (some (aR UInt8,1,())) (an (c3 (b8 0 b b) (ci 1 (ae b))) (cb (bK (λ(Y:zs)=>letI d:=i64 (bq (i64 (bq b 1)) Y.1);letI e:=i64 (fv 8 Y.1);T (aH Y.1 (len (bR (ae b) (u8 0)))) (an (b3 0 e) (an (aN d (len Y.2.1)) (some (aF.nx (i64 (aE Y.1 1),cn Y.2.1 (ae d) (u8 (fO IntKind.i64 x.1 e)),()))))) (some (aF.ex 0 (Y.1,Y.2.1,())))) (0,bR (ae b) (u8 0),())) (λ(a:zs)=>none) (λ(i:Nat) (a:zs)=>an (bX i 0) (some (a.2.1,0,()))) λ(r:cz)=>some r))
def LH(x:UInt8×Unit):Option (A'):=letI b:=aO x.1;letI c:=some (false,());ob (T (b3 (aO (u8 48)) b) (some (b3 b (aO (u8 57)),())) c) λ(a:aX)=>T a.1 (some (u8 (bq b (aO (u8 48))),true,())) (ob (T (b3 (aO (u8 97)) b) (some (b3 b (aO (u8 102)),())) c) λ(a:aX)=>T a.1 (some (u8 (aE (aO (u8 (bq b (aO (u8 97))))) (aO (u8 10))),true,())) (some (u8 0,false,())))
def GG(x:g?):Option (cz):=letI c:=len x.1;letI e:=i64 (gd c 2);T (aj (fR c 2) 1) (some (aR UInt8,2,())) (an (c3 (b8 0 0 e) (ci 1 (ae e))) (cb (bK (λ(Y:W9)=>letI d:=Y.2.2.1;letI f:=i64 (aE d 1);T (aH d c) (an (aN d c) (ob (LH (ao x.1 (ae d) (u8 0),())) λ(a:A')=>letI b:=aO (u8 (h0 IntKind.u8 (aO a.1) (cL (u64 4))));an (aN f c) (ob (LH (ao x.1 (ae f) (u8 0),())) λ(a?:A')=>ob (T (bg a.2.1) (some (true,())) (some (bg a?.2.1,()))) λ(ce:aX)=>T ce.1 (some (aF.rt (aR UInt8,2,()))) (an (ci 1 (bI (aV Y.2.1) (aV [u8 (g' IntKind.u8 b (aO a?.1))]))) (some (aF.nx (Y.1,cg Y.2.1 [u8 (g' IntKind.u8 b (aO a?.1))],i64 (aE d 2),()))))))) (some (aF.ex 0 (Y.1,Y.2.1,d,())))) (0,bR (ae 0) (u8 0),0,())) (λ(a:W9)=>none) (λ(i:Nat) (a:W9)=>an (bX i 0) (some (a.2.1,0,()))) λ(r:cz)=>some r))
def EM(x:da):Option (f8):=cb (bK (λ(Y:da)=>T (aH Y.2.1 x.2.1) (some (aF.nx (i64 (fv Y.1 x.1),i64 (aE Y.2.1 1),()))) (some (aF.ex 0 (Y.1,Y.2.1,())))) (1,0,())) (λ(a:da)=>none) (λ(i:Nat) (a:da)=>an (bX i 0) (some (a.1,()))) λ(r:f8)=>some r
def xj(x:da):Option (cz):=letI c:=some (true,());ob (T (aH x.2.1 1) c (T (aH 18 x.2.1) c (T (aH x.1 0) c (ob (EM (10,x.2.1,())) λ(a:f8)=>some (b3 a.1 x.1,()))))) λ(a:aX)=>T a.1 (some (aR UInt8,1,())) (cb (bK (λ(Y:cz)=>T (b3 0 Y.2.1) (ob (EM (10,Y.2.1,())) λ(a:f8)=>letI b:=i64 (aE 48 (fR (i64 (gd x.1 a.1)) 10));an (bg (aj a.1 0)) (an (ci 1 (bI (aV Y.1) (aV [u8 b]))) (some (aF.nx (cg Y.1 [u8 b],i64 (bq Y.2.1 1),()))))) (some (aF.ex 0 (Y.1,Y.2.1,())))) (aR UInt8,i64 (bq x.2.1 1),())) (λ(a:cz)=>none) (λ(i:Nat) (a:cz)=>an (bX i 0) (some (a.1,0,()))) λ(r:cz)=>some r)
def N2(x:g?):Option (aX):=letI d:=some (true,());cb (bK (λ(Y:na)=>letI e:=Y.2.1;letI b:=aO (ao x.1 (ae e) (u8 0));letI c:=aN e (len x.1);T (aH e (len x.1)) (an c (ob (T (aH b (aO (u8 48))) d (an c (some (aH (aO (u8 57)) b,())))) λ(a:aX)=>T a.1 (some (aF.rt (false,()))) (some (aF.nx (Y.1,i64 (aE e 1),()))))) (some (aF.ex 0 (Y.1,e,())))) (false,0,())) (λ(a:na)=>none) (λ(i:Nat) (a:na)=>an (bX i 0) d) λ(r:aX)=>some r
def Mu(x:g?):Option (da):=letI b:=len x.1;letI d:=some (true,());ob (T (aH b 1) d (T (aH 18 b) d (ob (N2 (x.1,())) λ(a:aX)=>some (bg a.1,())))) λ(a:aX)=>T a.1 (some (0,2,())) (cb (bK (λ(Y:da)=>letI c:=Y.2.1;T (aH c b) (an (aN c b) (ob (EM (10,i64 (bq (i64 (bq b 1)) c),())) λ(a:f8)=>some (aF.nx (i64 (aE Y.1 (i64 (fv (i64 (bq (i64 (aO (ao x.1 (ae c) (u8 0)))) 48)) a.1))),i64 (aE c 1),())))) (some (aF.ex 0 (Y.1,c,())))) (0,0,())) (λ(a:da)=>none) (λ(i:Nat) (a:da)=>an (bX i 0) (some (a.1,0,()))) λ(r:da)=>some r)
def vL(x:g?):Option (cz):=ob (N2 (x.1,())) λ(a:aX)=>T (bg a.1) (some (aR UInt8,2,())) (ob (T (aj (fR (len x.1) 2) 1) (an (b3 (aE (len [48]) (len x.1)) 140737488355328) (some (cg [48] x.1,()))) (some (x.1,()))) λ(a:g?)=>letI d:=len a.1;cb (bK (λ(x:cz)=>letI c:=x.2.1;letI e:=i64 (aE c 1);letI b:=bq (aO (u8 (aE (aO (u8 (fv (aO (u8 16)) (aO (u8 (bq (aO (ao a.1 (ae c) (u8 0))) (aO (u8 48)))))))) (aO (ao a.1 (ae e) (u8 0)))))) (aO (u8 48));T (aH c d) (an (aN c d) (an (aN e d) (an (ci 1 (bI (aV x.1) (aV [u8 b]))) (some (aF.nx (cg x.1 [u8 b],i64 (aE c 2),())))))) (some (aF.ex 0 (x.1,c,())))) (aR UInt8,0,())) (λ(a:cz)=>none) (λ(i:Nat) (a:cz)=>an (bX i 0) (some (a.1,0,()))) λ(r:cz)=>some r)
def n1(x:k5):Option (k5):=letI t:=x.2.2.1;letI c:=i64 (gd (i64 (aE t 1)) 2);letI j:=aO (u8 16);letI k:=some (true,());letI n:=len x.1;letI p:=x.2.1;letI v:=aE p c;ob (T (aH t 0) k (T (aH 999 t) k (T (aH p 0) k (some (aH n p,()))))) λ(a:aX)=>T a.1 (some (aR UInt8,0,1,())) (T (aH (i64 (bq n p)) c) (some (aR UInt8,0,3,())) (cb (bK (λ(Y:cz)=>letI s:=Y.2.1;letI e:=aO (ao x.1 (ae s) (u8 0));T (aH s (i64 v)) (an (aN s n) (an (aN s n) (an (ci 1 (bI (aV Y.1) (aV [u8 (gd e j),u8 (fR e j)]))) (some (aF.nx (cg Y.1 [u8 (gd e j),u8 (fR e j)],i64 (aE s 1),())))))) (some (aF.ex 0 (Y.1,s,())))) (aR UInt8,p,())) (λ(a:cz)=>none) (λ(i:Nat) (a:cz)=>letI o:=len a.1;letI b:=cc (ae o) (ae 1);an (bX i 0) (T (aj (fR t 2) 1) (an (aN 0 o) (T (bg (aj (aO (ao a.1 (ae 0) (u8 0))) (aO (u8 0)))) (some (aR UInt8,0,2,())) (an (b8 1 o o) (cb (bK (λ(x:Ka)=>letI f:=x.2.2.2;letI q:=bI (ae 1) (ae f.1);letI g:=aO (ao f.2.1 q (u8 0));letI m:=aN f.1 (bi b);T (aH f.1 (bi b)) (an m (T (aH (aO (u8 9)) g) (some (aF.rt (aR UInt8,0,2,()))) (an m (an m (some (aF.nx (x.1,x.2.1,x.2.2.1,i64 (aE f.1 1),cn f.2.1 q (u8 (aE g (aO (u8 48)))),()))))))) (some (aF.ex 2 (x.1,x.2.1,x.2.2.1,f.1,f.2.1,())))) (aR UInt8, 0,0,0,a.1,())) (λ(a:Ka)=>none) (λ(i:Nat) (a?:Ka)=>an (bX i 2) (some (cut a?.2.2.2.2.1 (ae 1) b,i64 v,0,()))) λ(r:k5)=>some r)))) (cb (bK (λ(x:Ka)=>letI d:=x.2.2.2;letI u:=d.2.1;letI h:=aN d.1 (len u);letI l:=aO (ao u (ae d.1) (u8 0));T (aH d.1 (len u)) (an h (T (aH (aO (u8 9)) l) (some (aF.rt (aR UInt8,0,2,()))) (an h (an h (some (aF.nx (x.1,x.2.1,x.2.2.1,i64 (aE d.1 1),cn u (ae d.1) (u8 (aE l (aO (u8 48)))),()))))))) (some (aF.ex 2 (x.1,x.2.1,x.2.2.1,d.1,u,())))) (aR UInt8,0,0,0,a.1,())) (λ(a:Ka)=>none) (λ(i:Nat) (a:Ka)=>an (bX i 2) (some (a.2.2.2.2.1,i64 v,0,()))) λ(r:k5)=>some r))) λ(r:k5)=>some r))
def GS(x:f8):Option (f8):=letI a:=aj x.1 53;letI b:=aj x.1 90;letI c:=aj x.1 7;letI d:=aj x.1 4;letI e:=aj x.1 11;letI f:=aj x.1 12;letI g:=aj x.1 3;letI h:=aj x.1 15;letI i:=aj x.1 13;letI j:=aj x.1 14;letI k:=aj x.1 18;T (aj x.1 25) (some (2,())) (T (aj x.1 22) (T (aj x.1 22) (some (3,())) (T i (T i (some (4,())) (T g (T g (some (6,())) (T c (some (10,())) (T d (some (12,())) (T a (some (16,())) (T b (some (42,())) (some (0,()))))))) (T e (T e (some (6,())) (T c (some (10,())) (T d (some (12,())) (T a (some (16,())) (T b (some (42,())) (some (0,()))))))) (T f (T f (some (6,())) (T c (some (10,())) (T d (some (12,())) (T a (some (16,())) (T b (some (42,())) (some (0,()))))))) (T h (some (6,())) (T c (some (10,())) (T d (some (12,())) (T a (some (16,())) (T b (some (42,())) (some (0,()))))))))))) (T j (T j (some (4,())) (T g (T g (some (6,())) (T c (some (10,())) (T d (some (12,())) (T a (some (16,())) (T b (some (42,())) (some (0,()))))))) (T e (T e (some (6,())) (T c (some (10,())) (T d (some (12,())) (T a (some (16,())) (T b (some (42,())) (some (0,()))))))) (T f (T f (some (6,())) (T c (some (10,())) (T d (some (12,())) (T a (some (16,())) (T b (some (42,())) (some (0,()))))))) (T h (some (6,())) (T c (some (10,())) (T d (some (12,())) (T a (some (16,())) (T b (some (42,())) (some (0,()))))))))))) (T k (some (4,())) (T g (T g (some (6,())) (T c (some (10,())) (T d (some (12,())) (T a (some (16,())) (T b (some (42,())) (some (0,()))))))) (T e (T e (some (6,())) (T c (some (10,())) (T d (some (12,())) (T a (some (16,())) (T b (some (42,())) (some (0,()))))))) (T f (T f (some (6,())) (T c (some (10,())) (T d (some (12,())) (T a (some (16,())) (T b (some (42,())) (some (0,()))))))) (T h (some (6,())) (T c (some (10,())) (T d (some (12,())) (T a (some (16,())) (T b (some (42,())) (some (0,())))))))))))))) (T (aj x.1 49) (T (aj x.1 49) (some (3,())) (T i (T i (some (4,())) (T g (T g (some (6,()))
 (T c (some (10,())) (T d (some (12,())) (T a (some (16,())) (T b (some (42,())) (some (0,()))))))) (T e (T e (some (6,())) (T c (some (10,())) (T d (some (12,())) (T a (some (16,())) (T b (some (42,())) (some (0,()))))))) (T f (T f (some (6,())) (T c (some (10,())) (T d (some (12,())) (T a (some (16,())) (T b (some (42,())) (some (0,()))))))) (T h (some (6,())) (T c (some (10,())) (T d (some (12,())) (T a (some (16,())) (T b (some (42,())) (some (0,()))))))))))) (T j (T j (some (4,())) (T g (T g (some (6,())) (T c (some (10,())) (T d (some (12,())) (T a (some (16,())) (T b (some (42,())) (some (0,()))))))) (T e (T e (some (6,())) (T c (some (10,())) (T d (some (12,())) (T a (some (16,())) (T b (some (42,())) (some (0,()))))))) (T f (T f (some (6,())) (T c (some (10,())) (T d (some (12,())) (T a (some (16,())) (T b (some (42,())) (some (0,()))))))) (T h (some (6,())) (T c (some (10,())) (T d (some (12,())) (T a (some (16,())) (T b (some (42,())) (some (0,()))))))))))) (T k (some (4,())) (T g (T g (some (6,())) (T c (some (10,())) (T d (some (12,())) (T a (some (16,())) (T b (some (42,())) (some (0,()))))))) (T e (T e (some (6,())) (T c (some (10,())) (T d (some (12,())) (T a (some (16,())) (T b (some (42,())) (some (0,()))))))) (T f (T f (some (6,())) (T c (some (10,())) (T d (some (12,())) (T a (some (16,())) (T b (some (42,())) (some (0,()))))))) (T h (some (6,())) (T c (some (10,())) (T d (some (12,())) (T a (some (16,())) (T b (some (42,())) (some (0,())))))))))))))) (T (aj x.1 70) (some (3,())) (T i (T i (some (4,())) (T g (T g (some (6,())) (T c (some (10,())) (T d (some (12,())) (T a (some (16,())) (T b (some (42,())) (some (0,()))))))) (T e (T e (some (6,())) (T c (some (10,())) (T d (some (12,())) (T a (some (16,())) (T b (some (42,())) (some (0,()))))))) (T f (T f (some (6,())) (T c (some (10,())) (T d (some (12,())) (T a (some (16,())) (T b (some (42,()))
 (some (0, ()))))))) (T h (some (6,())) (T c (some (10,())) (T d (some (12,())) (T a (some (16,())) (T b (some (42,())) (some (0,()))))))))))) (T j (T j (some (4,())) (T g (T g (some (6,())) (T c (some (10,())) (T d (some (12,())) (T a (some (16,())) (T b (some (42,())) (some (0,()))))))) (T e (T e (some (6,())) (T c (some (10,())) (T d (some (12,())) (T a (some (16,())) (T b (some (42,())) (some (0,()))))))) (T f (T f (some (6,())) (T c (some (10,())) (T d (some (12,())) (T a (some (16,())) (T b (some (42,())) (some (0,()))))))) (T h (some (6,())) (T c (some (10,())) (T d (some (12,())) (T a (some (16,())) (T b (some (42,())) (some (0,()))))))))))) (T k (some (4,())) (T g (T g (some (6,())) (T c (some (10,())) (T d (some (12,())) (T a (some (16,())) (T b (some (42,())) (some (0,()))))))) (T e (T e (some (6,())) (T c (some (10,())) (T d (some (12,())) (T a (some (16,())) (T b (some (42,())) (some (0,()))))))) (T f (T f (some (6,())) (T c (some (10,())) (T d (some (12,())) (T a (some (16,())) (T b (some (42,())) (some (0,()))))))) (T h (some (6,())) (T c (some (10,())) (T d (some (12,())) (T a (some (16,())) (T b (some (42,())) (some (0,()))))))))))))))))
def Ak(x:da):Option (f8):=letI b:=x.2.1;T (aj x.1 1) (ob (GS (b,())) λ(a:f8)=>some (a.1,())) (T (aj x.1 2) (some (T (aj b 2) 19 (T (aj b 32) 11 (T (aj b 100) 11 0)),())) (T (aj x.1 3) (some (T (aj b 37) 12 (T (aj b 38) 6 (T (aj b 39) 2 (T (aj b 41) 8 (T (aj b 42) 15 (T (aj b 95) 42 0))))),())) (T (aj x.1 4) (some (T (aj b 35) 37 (T (aj b 102) 28 0),())) (T (aj x.1 5) (some (T (aj b 48) 400 (T (aj b 54) 120 0),())) (T (aj x.1 6) (some (T (aj b 52) 8 (T (aj b 64) 8 (T (aj b 96) 8 (T (aj b 128) 8 0))),())) (T (aj x.1 7) (some (T (aj b 55) 255 (T (aj b 127) 400 0),())) (some (0,()))))))))
def wu(x:f8):Option (rP):=cb (bK (λ(Y:na)=>letI b:=Y.2.1;T (b3 b 7) (ob (Ak (b,x.1,())) λ(a:f8)=>T (aH 0 a.1) (some (aF.rt ((b,a.1,()),true,()))) (some (aF.nx (Y.1,i64 (aE b 1),())))) (some (aF.ex 0 (Y.1,b,())))) (false,1,())) (λ(a:na)=>none) (λ(i:Nat) (a:na)=>an (bX i 0) (some ((0,0,()),false,()))) λ(r:rP)=>some r
def iZ(x:f8):Option (f8):=letI a:=aj x.1 5;T (aj x.1 2) (T (aj x.1 2) (some (2,())) (T a (T a (some (3,())) (some (0,()))) (T (aj x.1 7) (some (3,())) (some (0,()))))) (T (aj x.1 4) (some (2,())) (T a (T a (some (3,())) (some (0,()))) (T (aj x.1 7) (some (3,())) (some (0,())))))
def ws(x:zs):Option (aX):=letI k:=x.2.1;letI e:=len k;letI c:=some (aH 0 e,());letI f:=some (false,());letI g:=some (true,());letI h:=aO (u8 126);letI j:=aO (u8 32);ob (wu (x.1,())) λ(a:rP)=>letI l:=a.1.1;letI b:=some (aj e a.1.2.1,());letI d:=iZ (l,());letI A:=aj l 3;letI B:=aj l 4;ob (T (bg a.2.1) g (some (aH a.1.2.1 e,()))) λ(a?:aX)=>T a?.1 f (T (aj l 1) (T (aj l 1) (cb (bK (λ(Y:na)=>letI C:=Y.2.1;letI m:=aO (ao k (ae C) (u8 0));T (aH C e) (an (aN C e) (ob (T (aH m (aO (u8 48))) g (some (aH (aO (u8 57)) m,()))) λ(a:aX)=>T a.1 (some (aF.ex 999999999 (false,C,()))) (some (aF.nx (Y.1,i64 (aE C 1),()))))) (some (aF.ex 0 (Y.1,C,())))) (false,0,())) (λ(a:na)=>none) (λ(i:Nat) (ce:na)=>T (bX i 999999999) (T (bg ce.1) f (cb (bK (λ(Y:na)=>letI D:=Y.2.1;letI n:=aO (ao k (ae D) (u8 0));T (aH D e) (an (aN D e) (ob (T (aH n j) g (some (aH h n,()))) λ(a:aX)=>T a.1 (some (aF.ex 999999999 (false,D,()))) (some (aF.nx (Y.1,i64 (aE D 1),()))))) (some (aF.ex 0 (Y.1,D,())))) (false,0,())) (λ(a:na)=>none) (λ(i:Nat) (bY:na)=>T (bX i 999999999) (T (bg bY.1) f (ob d λ(dB:f8)=>T (aH 0 dB.1) c b)) (an (bX i 0) (ob d λ(dB:f8)=>T (aH 0 dB.1) c b))) λ(r:Unit)=>none)) (an (bX i 0) (cb (bK (λ(Y:na)=>letI E:=Y.2.1;letI o:=aO (ao k (ae E) (u8 0));T (aH E e) (an (aN E e) (ob (T (aH o j) g (some (aH h o,()))) λ(a:aX)=>T a.1 (some (aF.ex 999999999 (false,E,()))) (some (aF.nx (Y.1,i64 (aE E 1),()))))) (some (aF.ex 0 (Y.1,E,())))) (false,0,())) (λ(a:na)=>none) (λ(i:Nat) (bY:na)=>T (bX i 999999999) (T (bg bY.1) f (ob d λ(dB:f8)=>T (aH 0 dB.1) c b)) (an (bX i 0) (ob d λ(dB:f8)=>T (aH 0 dB.1) c b))) λ(r:Unit)=>none))) λ(r:Unit)=>none) (T A (T A (cb (bK (λ(Y:na)=>letI F:=Y.2.1;letI p:=aO (ao k (ae F) (u8 0));T (aH F e) (an (aN F e) (ob (T (aH p j) g (some (aH h p,()))) λ(a:aX)=>T a.1 (some (aF.ex 999999999 (false,F,()))) (some (aF.nx (Y.1,i64 (aE F 1),()))))) (some (aF.ex 0 (Y.1,F,()))))
 (false,0,())) (λ(a:na)=>none) (λ(i:Nat) (ce:na)=>T (bX i 999999999) (T (bg ce.1) f (ob d λ(bY:f8)=>T (aH 0 bY.1) c b)) (an (bX i 0) (ob d λ(bY:f8)=>T (aH 0 bY.1) c b))) λ(r:Unit)=>none) (ob d λ(ce:f8)=>T (aH 0 ce.1) c b)) (T B (T B (cb (bK (λ(Y:na)=>letI G:=Y.2.1;letI q:=aO (ao k (ae G) (u8 0));T (aH G e) (an (aN G e) (ob (T (aH q j) g (some (aH h q,()))) λ(a:aX)=>T a.1 (some (aF.ex 999999999 (false,G,()))) (some (aF.nx (Y.1,i64 (aE G 1),()))))) (some (aF.ex 0 (Y.1,G,())))) (false,0,())) (λ(a:na)=>none) (λ(i:Nat) (ce:na)=>T (bX i 999999999) (T (bg ce.1) f (ob d λ(bY:f8)=>T (aH 0 bY.1) c b)) (an (bX i 0) (ob d λ(bY:f8)=>T (aH 0 bY.1) c b))) λ(r:Unit)=>none) (ob d λ(ce:f8)=>T (aH 0 ce.1) c b)) (T (aj l 5) (cb (bK (λ(Y:na)=>letI H:=Y.2.1;letI s:=aO (ao k (ae H) (u8 0));T (aH H e) (an (aN H e) (ob (T (aH s j) g (some (aH h s,()))) λ(a:aX)=>T a.1 (some (aF.ex 999999999 (false,H,()))) (some (aF.nx (Y.1,i64 (aE H 1),()))))) (some (aF.ex 0 (Y.1,H,())))) (false,0,())) (λ(a:na)=>none) (λ(i:Nat) (ce:na)=>T (bX i 999999999) (T (bg ce.1) f (ob d λ(bY:f8)=>T (aH 0 bY.1) c b)) (an (bX i 0) (ob d λ(bY:f8)=>T (aH 0 bY.1) c b))) λ(r:Unit)=>none) (ob d λ(ce:f8)=>T (aH 0 ce.1) c b))))) (T (aj l 2) (cb (bK (λ(Y:na)=>letI I:=Y.2.1;letI t:=aO (ao k (ae I) (u8 0));T (aH I e) (an (aN I e) (ob (T (aH t (aO (u8 48))) g (some (aH (aO (u8 57)) t,()))) λ(a:aX)=>T a.1 (some (aF.ex 999999999 (false,I,()))) (some (aF.nx (Y.1,i64 (aE I 1),()))))) (some (aF.ex 0 (Y.1,I,())))) (false,0,())) (λ(a:na)=>none) (λ(i:Nat) (ce:na)=>T (bX i 999999999) (T (bg ce.1) f (cb (bK (λ(Y:na)=>letI J:=Y.2.1;letI u:=aO (ao k (ae J) (u8 0));T (aH J e) (an (aN J e) (ob (T (aH u j) g (some (aH h u,()))) λ(a:aX)=>T a.1 (some (aF.ex 999999999 (false,J,()))) (some (aF.nx (Y.1,i64 (aE J 1),()))))) (some (aF.ex 0 (Y.1,J,())))) (false,0,())) (λ(a:na)=>none) (λ(i:Nat)
 (bY:na)=>T (bX i 999999999) (T (bg bY.1) f (ob d λ(dB:f8)=>T (aH 0 dB.1) c b)) (an (bX i 0) (ob d λ(dB:f8)=>T (aH 0 dB.1) c b))) λ(r:Unit)=>none)) (an (bX i 0) (cb (bK (λ(Y:na)=>letI K:=Y.2.1;letI v:=aO (ao k (ae K) (u8 0));T (aH K e) (an (aN K e) (ob (T (aH v j) g (some (aH h v,()))) λ(a:aX)=>T a.1 (some (aF.ex 999999999 (false,K,()))) (some (aF.nx (Y.1,i64 (aE K 1),()))))) (some (aF.ex 0 (Y.1,K,())))) (false,0,())) (λ(a:na)=>none) (λ(i:Nat) (bY : Bool×Int×Unit)=>T (bX i 999999999) (T (bg bY.1) f (ob d λ(dB:f8)=>T (aH 0 dB.1) c b)) (an (bX i 0) (ob d λ(dB:f8)=>T (aH 0 dB.1) c b))) λ(r:Unit)=>none))) λ(r:Unit)=>none) (T A (T A (cb (bK (λ(Y:na)=>letI L:=Y.2.1;letI w:=aO (ao k (ae L) (u8 0));T (aH L e) (an (aN L e) (ob (T (aH w j) g (some (aH h w,()))) λ(a:aX)=>T a.1 (some (aF.ex 999999999 (false,L,()))) (some (aF.nx (Y.1,i64 (aE L 1),()))))) (some (aF.ex 0 (Y.1,L,())))) (false,0,())) (λ(a:na)=>none) (λ(i:Nat) (ce:na)=>T (bX i 999999999) (T (bg ce.1) f (ob d λ(bY:f8)=>T (aH 0 bY.1) c b)) (an (bX i 0) (ob d λ(bY:f8)=>T (aH 0 bY.1) c b))) λ(r:Unit)=>none) (ob d λ(ce:f8)=>T (aH 0 ce.1) c b)) (T B (T B (cb (bK (λ(Y:na)=>letI M:=Y.2.1;letI y:=aO (ao k (ae M) (u8 0));T (aH M e) (an (aN M e) (ob (T (aH y j) g (some (aH h y,()))) λ(a:aX)=>T a.1 (some (aF.ex 999999999 (false,M,()))) (some (aF.nx (Y.1,i64 (aE M 1),()))))) (some (aF.ex 0 (Y.1,M,())))) (false,0,())) (λ(a : Bool×Int×Unit)=>none) (λ(i:Nat) (ce:na)=>T (bX i 999999999) (T (bg ce.1) f (ob d λ(bY:f8)=>T (aH 0 bY.1) c b)) (an (bX i 0) (ob d λ(bY:f8)=>T (aH 0 bY.1) c b))) λ(r:Unit)=>none) (ob d λ(ce:f8)=>T (aH 0 ce.1) c b)) (T (aj l 5) (cb (bK (λ(Y:na)=>letI N:=Y.2.1;letI z:=aO (ao k (ae N) (u8 0));T (aH N e) (an (aN N e) (ob (T (aH z j) g (some (aH h z,()))) λ(a:aX)=>T a.1 (some (aF.ex 999999999 (false,N,()))) (some (aF.nx (Y.1,i64 (aE N 1),()))))) (some (aF.ex 0
 (Y.1,N,())))) (false,0,())) (λ(a:na)=>none) (λ(i:Nat) (ce:na)=>T (bX i 999999999) (T (bg ce.1) f (ob d λ(bY:f8)=>T (aH 0 bY.1) c b)) (an (bX i 0) (ob d λ(bY:f8)=>T (aH 0 bY.1) c b))) λ(r:Unit)=>none) (ob d λ(ce:f8)=>T (aH 0 ce.1) c b))))))
def GR(x:zs):Option (cz):=letI c:=x.2.1;ob (wu (x.1,())) λ(a:rP)=>letI b:=T (aj a.1.1 1) (some (true,())) (some (aj a.1.1 2,()));T (bg a.2.1) (some (aR UInt8,12,())) (ob (ws (x.1,c,())) λ(a?:aX)=>T (bg a?.1) (some (aR UInt8,1,())) (ob (iZ (a.1.1,())) λ(ce:f8)=>T (aH 0 ce.1) (ob (sa (len c,ce.1,())) λ(bY:cz)=>ob (uU (bY.1,())) λ(dB:cz)=>ob b λ(a:aX)=>T a.1 (ob (uU (c,())) λ(a:cz)=>an (ci 1 (bI (aV dB.1) (aV a.1))) (some (cg dB.1 a.1,0,()))) (an (ci 1 (bI (aV dB.1) (aV c))) (some (cg dB.1 c,0,())))) (ob b λ(a:aX)=>T a.1 (ob (uU (c,())) λ(a:cz)=>an (ci 1 (aV a.1)) (some (a.1,0,()))) (an (ci 1 (aV c)) (some (c,0,()))))))
def L8(x:W9):Option (k5):=letI k:=x.2.1;letI e:=x.2.2.1;letI f:=aR UInt8;letI g:=len k;letI h:=some (true,());ob (wu (x.1,())) λ(a:rP)=>letI j:=a.1.2.1;letI m:=aE e j;letI b:=sub k e (i64 m);letI d:=T (aj a.1.1 1) h (some (aj a.1.1 2,()));T (bg a.2.1) (some (aR UInt8,0,12,())) (ob (T (aH e 0) h (some (aH g e,()))) λ(a?:aX)=>T a?.1 (some (aR UInt8,0,1,())) (ob (iZ (a.1.1,())) λ(ce:f8)=>T (aH 0 ce.1) (ob (ye (k,e,ce.1,())) λ(bY:k5)=>letI l:=bY.2.1;T (bg (aj bY.2.2.1 0)) (some (aR UInt8,0,bY.2.2.1,())) (ob (uV (bY.1,())) λ(dB:da)=>letI i:=aE l dB.1;letI c:=sub k l (i64 i);ob (T (aH dB.1 1) h (some (aH j dB.1,()))) λ(jG:aX)=>T jG.1 (some (aR UInt8,0,2,())) (ob d λ(a:aX)=>T a.1 (ob (ye (k,l,dB.1,())) λ(a:k5)=>T (bg (aj a.2.2.1 0)) (some (aR UInt8,0,a.2.2.1,())) (an (ci 1 (aV a.1)) (some (a.1,a.2.1,0,())))) (T (aH (i64 (bq g l)) dB.1) (some (aR UInt8,0,3,())) (an (b8 l (i64 i) g) (an (ci 1 (bI (aV f) (aV c))) (ob (ws (x.1,cg f c,())) λ(a:aX)=>T (bg a.1) (some (aR UInt8,0,2,())) (some (cg f c,i64 i,0,()))))))))) (ob d λ(bY:aX)=>T bY.1 (ob (ye (k,e,j,())) λ(a:k5)=>T (bg (aj a.2.2.1 0)) (some (aR UInt8,0,a.2.2.1,())) (an (ci 1 (aV a.1)) (some (a.1,a.2.1,0,())))) (T (aH (i64 (bq g e)) j) (some (aR UInt8,0,3,())) (an (b8 e (i64 m) g) (an (ci 1 (bI (aV f) (aV b))) (ob (ws (x.1,cg f b,())) λ(dB:aX)=>T (bg dB.1) (some (aR UInt8,0,2,())) (some (cg f b,i64 m,0,())))))))))
def Je(x:W'):Option (aX):=cb (bK (λ(Y:na)=>letI b:=Y.2.1;T (aH b (len x.1)) (an (aN b (len x.1)) (T (aj (ao x.1 (ae b) 0) x.2.1) (some (aF.rt (true,()))) (some (aF.nx (Y.1,i64 (aE b 1),()))))) (some (aF.ex 0 (Y.1,b,())))) (false,0,())) (λ(a:na)=>none) (λ(i:Nat) (a:na)=>an (bX i 0) (some (false,()))) λ(r:aX)=>some r
def Jb(x:f8):Option (rP):=letI c:=aR Int;cb (bK (λ(Y:na)=>letI d:=Y.2.1;letI b:=ae d;T (aH d (len [[1,2,25],[1,3,22,49,70],[1,4,13,14,18],[1,6,3,11,12,15],[1,10,7],[1,12,4],[1,16,53],[1,42,90],[2,19,2],[2,11,32,100],[3,12,37],[3,6,38],[3,2,39],[3,8,41],[3,15,42],[3,42,95],[4,37,35],[4,28,102],[5,400,48],[5,120,54],[6,8,52,64,96,128],[7,255,55],[7,400,127]])) (an (aN d (len [[1,2,25],[1,3,22,49,70],[1,4,13,14,18],[1,6,3,11,12,15],[1,10,7],[1,12,4],[1,16,53],[1,42,90],[2,19,2],[2,11,32,100],[3,12,37],[3,6,38],[3,2,39],[3,8,41],[3,15,42],[3,42,95],[4,37,35],[4,28,102],[5,400,48],[5,120,54],[6,8,52,64,96,128],[7,255,55],[7,400,127]])) (an (b8 2 (len (ao [[1,2,25],[1,3,22,49,70],[1,4,13,14,18],[1,6,3,11,12,15],[1,10,7],[1,12,4],[1,16,53],[1,42,90],[2,19,2],[2,11,32,100],[3,12,37],[3,6,38],[3,2,39],[3,8,41],[3,15,42],[3,42,95],[4,37,35],[4,28,102],[5,400,48],[5,120,54],[6,8,52,64,96,128],[7,255,55],[7,400,127]] b c)) (len (ao [[1,2,25],[1,3,22,49,70],[1,4,13,14,18],[1,6,3,11,12,15],[1,10,7],[1,12,4],[1,16,53],[1,42,90],[2,19,2],[2,11,32,100],[3,12,37],[3,6,38],[3,2,39],[3,8,41],[3,15,42],[3,42,95],[4,37,35],[4,28,102],[5,400,48],[5,120,54],[6,8,52,64,96,128],[7,255,55],[7,400,127]] b c))) (ob (Je (sub (ao [[1,2,25],[1,3,22,49,70],[1,4,13,14,18],[1,6,3,11,12,15],[1,10,7],[1,12,4],[1,16,53],[1,42,90],[2,19,2],[2,11,32,100],[3,12,37],[3,6,38],[3,2,39],[3,8,41],[3,15,42],[3,42,95],[4,37,35],[4,28,102],[5,400,48],[5,120,54],[6,8,52,64,96,128],[7,255,55],[7,400,127]] b c) 2 (len (ao [[1,2,25],[1,3,22,49,70],[1,4,13,14,18],[1,6,3,11,12,15],[1,10,7],[1,12,4],[1,16,53],[1,42,90],[2,19,2],[2,11,32,100],[3,12,37],[3,6,38],[3,2,39],[3,8,41],[3,15,42],[3,42,95],[4,37,35],[4,28,102],[5,400,48],[5,120,54],[6,8,52,64,96,128],[7,255,55],[7,400,127]] b c)),x.1,())) λ(a:aX)=>T a.1 (an (aN d (len
 [[1,2,25],[1,3,22,49,70],[1,4,13,14,18],[1,6,3,11,12,15],[1,10,7],[1,12,4],[1,16,53],[1,42,90],[2,19,2],[2,11,32,100],[3,12,37],[3,6,38],[3,2,39],[3,8,41],[3,15,42],[3,42,95],[4,37,35],[4,28,102],[5,400,48],[5,120,54],[6,8,52,64,96,128],[7,255,55],[7,400,127]])) (an (aN 0 (len (ao [[1,2,25],[1,3,22,49,70],[1,4,13,14,18],[1,6,3,11,12,15],[1,10,7],[1,12,4],[1,16,53],[1,42,90],[2,19,2],[2,11,32,100],[3,12,37],[3,6,38],[3,2,39],[3,8,41],[3,15,42],[3,42,95],[4,37,35],[4,28,102],[5,400,48],[5,120,54],[6,8,52,64,96,128],[7,255,55],[7,400,127]] b c))) (an (aN d (len [[1,2,25],[1,3,22,49,70],[1,4,13,14,18],[1,6,3,11,12,15],[1,10,7],[1,12,4],[1,16,53],[1,42,90],[2,19,2],[2,11,32,100],[3,12,37],[3,6,38],[3,2,39],[3,8,41],[3,15,42],[3,42,95],[4,37,35],[4,28,102],[5,400,48],[5,120,54],[6,8,52,64,96,128],[7,255,55],[7,400,127]])) (an (aN 1 (len (ao [[1,2,25],[1,3,22,49,70],[1,4,13,14,18],[1,6,3,11,12,15],[1,10,7],[1,12,4],[1,16,53],[1,42,90],[2,19,2],[2,11,32,100],[3,12,37],[3,6,38],[3,2,39],[3,8,41],[3,15,42],[3,42,95],[4,37,35],[4,28,102],[5,400,48],[5,120,54],[6,8,52,64,96,128],[7,255,55],[7,400,127]] b c))) (some (aF.rt ((ao (ao [[1,2,25],[1,3, 22,49,70],[1,4,13,14,18],[1,6,3,11,12,15],[1,10,7],[1,12,4],[1,16,53],[1,42,90],[2,19,2],[2,11,32,100],[3,12,37],[3,6,38],[3,2,39],[3,8,41],[3,15,42],[3,42,95],[4,37,35],[4,28,102],[5,400,48],[5,120,54],[6,8,52,64,96,128],[7,255,55],[7,400,127]] b c) (ae 0) 0,ao (ao [[1,2,25],[1,3,22,49,70],[1,4,13,14,18],[1,6,3,11,12,15],[1,10,7],[1,12,4],[1,16,53],[1,42,90],[2,19,2],[2,11,32,100],[3,12,37],[3,6,38],[3,2,39],[3,8,41],[3,15,42],[3,42,95],[4,37,35],[4,28,102],[5,400,48],[5,120,54],[6,8,52,64,96,128],[7,255,55],[7,400,127]] b c) (ae 1) 0,()),true,()))))))) (some (aF.nx (Y.1,i64 (aE d 1),())))))) (some (aF.ex 0 (Y.1,d,())))) (false,0,())) (λ(a:na)=>none) (λ(i:Nat) (a:na)=>an (bX i 0) (some ((0,0,()),false,()))) λ(r:rP)=>some r
def Jd(x:(Int×Int×Unit)×V×Unit):Option (aX):=letI d:=len x.2.1;letI e:=some (true,());letI g:=some (false,());letI h:=x.1.1;cb (bK (λ(Y:na)=>letI j:=Y.2.1;letI f:=aN j d;letI c:=aO (ao x.2.1 (ae j) (u8 0));letI b:=T (b3 3 h) (T (b3 h 5) (an f (T (aH c (aO (u8 32))) e (an f (some (aH (aO (u8 126)) c,()))))) g) g;T (aH j d) (ob (T (b3 h 2) (an f (T (aH c (aO (u8 48))) e (an f (T (aH (aO (u8 57)) c) e b)))) b) λ(a:aX)=>T a.1 (some (aF.rt (false,()))) (some (aF.nx (Y.1,i64 (aE j 1),())))) (some (aF.ex 0 (Y.1,j,())))) (false,0,())) (λ(a:na)=>none) (λ(i:Nat) (a:na)=>an (bX i 0) (ob (T (aj h 1) e (T (aj h 3) e (some (aj h 6,())))) λ(a:aX)=>T a.1 (some (aj d x.1.2.1,())) (ob (T (b3 1 d) (some (b3 d x.1.2.1,())) g) λ(a:aX)=>some (a.1,())))) λ(r:aX)=>some r
def N5(x:f8):Option (f8):=letI b:=some (true,());ob (T (aj x.1 2) b (some (aj x.1 4,()))) λ(a:aX)=>T a.1 (some (2,())) (ob (T (aj x.1 5) b (some (aj x.1 7,()))) λ(a:aX)=>T a.1 (some (3,())) (some (0,())))
def Jc(x:zs):Option (cz):=letI b:=aR UInt8;letI e:=x.2.1;letI f:=ci 1 (bI (aV b) (aV b));letI g:=cg b b;ob (Jb (x.1,())) λ(a:rP)=>letI h:=N5 (a.1.1,());T (bg a.2.1) (some (aR UInt8,12,())) (ob (Jd (a.1,e,())) λ(a?:aX)=>T (bg a?.1) (some (aR UInt8,1,())) (ob h λ(ce:f8)=>T (aH 0 ce.1) (ob h λ(bY:f8)=>ob (xj (len e,bY.1,())) λ(dB:cz)=>ob (vL (dB.1,())) λ(jG:cz)=>letI c:=cg b jG.1;letI d:=ci 1 (bI (aV b) (aV jG.1));T (b3 a.1.1 2) (ob (vL (e,())) λ(a:cz)=>an d (an (ci 1 (bI (aV c) (aV a.1))) (some (cg c a.1,0,())))) (an d (an (ci 1 (bI (aV c) (aV e))) (some (cg c e,0,()))))) (T (b3 a.1.1 2) (ob (vL (e,())) λ(a:cz)=>an f (an (ci 1 (bI (aV g) (aV a.1))) (some (cg g a.1,0,())))) (an f (an (ci 1 (bI (aV g) (aV e))) (some (cg g e,0,())))))))
def N4(x:zs):Option (aX):=ob (Jb (x.1,())) λ(a:rP)=>ob (Jd (a.1,x.2.1,())) λ(a?:aX)=>ob (T a.2.1 (some (a?.1,())) (some (false,()))) λ(a:aX)=>some (a.1,())
def Mv(x:W9):Option (k5):=letI j:=x.2.1;letI d:=x.2.2.1;letI f:=aR UInt8;letI g:=len j;letI m:=some (true,());ob (Jb (x.1,())) λ(a:rP)=>letI h:=b3 a.1.1 2;letI l:=a.1.2.1;letI n:=N5 (a.1.1,());T (bg a.2.1) (some (aR UInt8,0,12,())) (ob (T (aH d 0) m (some (aH g d,()))) λ(a?:aX)=>T a?.1 (some (aR UInt8,0,1,())) (ob n λ(ce:f8)=>T (aH 0 ce.1) (ob n λ(bY:f8)=>ob (n1 (j,d,bY.1,())) λ(dB:k5)=>letI k:=dB.2.1;T (bg (aj dB.2.2.1 0)) (some (aR UInt8,0,dB.2.2.1,())) (ob (Mu (dB.1,())) λ(jG:da)=>ob (T (aH jG.1 1) m (some (aH l jG.1,()))) λ(pu:aX)=>T pu.1 (some (aR UInt8,0,2,())) (ob (T h (some (i64 (gd (i64 (aE jG.1 1)) 2),())) (some (jG.1,()))) λ(mS:f8)=>letI e:=aE k mS.1;letI c:=sub j k (i64 e);T (aH (i64 (bq g k)) mS.1) (some (aR UInt8,0,3,())) (an (b8 k (i64 e) g) (an (ci 1 (bI (aV f) (aV c))) (T h (ob (n1 (j,k,jG.1,())) λ(wc:k5)=>T (bg (aj wc.2.2.1 0)) (some (aR UInt8,0,2,())) (an (ci 1 (aV wc.1)) (ob (Jd (a.1,wc.1,())) λ(a:aX)=>T (bg a.1) (some (aR UInt8,0,2,())) (some (wc.1,i64 e,0,()))))) (ob (Jd (a.1,cg f c,())) λ(a:aX)=>T (bg a.1) (some (aR UInt8,0,2,())) (some (cg f c,i64 e,0,()))))))))) (ob (T h (some (i64 (gd (i64 (aE l 1)) 2),())) (some (l,()))) λ(bY:f8)=>letI i:=aE d bY.1;letI b:=sub j d (i64 i);T (aH (i64 (bq g d)) bY.1) (some (aR UInt8,0,3,())) (an (b8 d (i64 i) g) (an (ci 1 (bI (aV f) (aV b))) (T h (ob (n1 (j,d,l,())) λ(dB:k5)=>T (bg (aj dB.2.2.1 0)) (some (aR UInt8,0,2,())) (an (ci 1 (aV dB.1)) (ob (Jd (a.1,dB.1,())) λ(a:aX)=>T (bg a.1) (some (aR UInt8,0,2,())) (some (dB.1,i64 i,0,()))))) (ob (Jd (a.1,cg f b,())) λ(a:aX)=>T (bg a.1) (some (aR UInt8,0,2,())) (some (cg f b,i64 i,0,())))))))))
def bt(c:UInt8)(t:Nat):Bool:=c.toNat.testBit (7-t)
def iz(b:V)(n:Nat):Bool:=bt (ao b ((n-1)/8) (u8 0)) ((n-1)%8)
def ii(b:V):List Nat:=(List.range (8*b.length+1)).filter λn=>Nat.ble 2 n&&iz b n
def qf(c:V)(a:Int):List Int×Int×Int×Unit:=
 if c.length<8\/(iz c 1=true/\c.length<16) then([],0,3,())
 else if iz c 1=true then
  (if 65∈ii (c.take 16)\/∀n∈ii (c.take 16),n<65 then([],0,2,()) else((ii (c.take 16)).map Int.ofNat,a+16,0,()))
 else((ii (c.take 8)).map Int.ofNat,a+8,0,())
def lW(b:V)(a:Int):List Int×Int×Int×Unit:=if a<0\/(b.length:Int)<a then([],0,1,()) else qf (b.drop a.toNat) a
def Y6(x:cz):Option (W?):=some (lW x.1 x.2.1)
def vj(x:da):Option (f8):=cb (bK (λ(Y:da)=>T (aH Y.2.1 x.2.1) (some (aF.nx (i64 (gd Y.1 10),i64 (aE Y.2.1 1),()))) (some (aF.ex 0 (Y.1,Y.2.1,())))) (x.1,0,())) (λ(a:da)=>none) (λ(i:Nat) (a:da)=>an (bX i 0) (some (fR a.1 10,()))) λ(r:f8)=>some r
def AX(x:f8):Option (aX):=letI b:=some (false,());ob (T (aH x.1 0) (some (true,())) (some (aH 999 x.1,()))) λ(a:aX)=>T a.1 b (ob (vj (x.1,2,())) λ(a:f8)=>ob (T (b3 1 a.1) (T (b3 a.1 8) (ob (vj (x.1,1,())) λ(a:f8)=>T (b3 a.1 4) (ob (vj (x.1,0,())) λ(a:f8)=>some (b3 a.1 5,())) b) b) b) λ(a:aX)=>some (a.1,()))
def Vg(x:uh):Option (aX):=letI b:=some (false,());letI c:=x.1.2.2.2.2;ob (T (b3 1 c.1) (T (b3 c.1 2147483647) (T (aj (len c.2.1) 8) (T (aj (len c.2.2.1) 3) (some (aj c.2.2.2.1 0,())) b) b) b) b) λ(a:aX)=>some (a.1,())
def Nz(x:uh):Option (aX):=letI b:=some (false,());letI c:=x.1.2.2.2.2;ob (T (aj c.1 0) (T (aj (len c.2.1) 0) (T (aj (len c.2.2.1) 0) (some (aj c.2.2.2.1 0,())) b) b) b) λ(a:aX)=>some (a.1,())
def Vf(x:uh):Option (aX):=letI b:=x.1.2.2.2.2;letI c:=some (false,());ob (T (b3 0 b.2.2.2.1) (T (b3 b.2.2.2.1 999999) (ob (Nz ((x.1.1,x.1.2.1,x.1.2.2.1,x.1.2.2.2.1,b.1,b.2.1,b.2.2.1,0,b.2.2.2.2),())) λ(a:aX)=>some (a.1,())) c) c) λ(a:aX)=>some (a.1,())
def M1(x:dj):Option (aX):=letI c:=x.1.2.1;cb (bK (λ(Y:W_)=>letI b:=Y.2.2.1;T (aH b (len c)) (an (aN b (len c)) (ob (T (b3 (ao c (ae b) (0,aR UInt8,())).1 Y.2.1) (some (true,())) (ob (ws ((ao c (ae b) (0,aR UInt8,())).1,(ao c (ae b) (0,aR UInt8,())).2.1,())) λ(a:aX)=>some (bg a.1,()))) λ(a:aX)=>T a.1 (some (aF.rt (false,()))) (some (aF.nx (Y.1,(ao c (ae b) (0,aR UInt8,())).1,i64 (aE b 1),()))))) (some (aF.ex 0 (Y.1,Y.2.1,b,())))) (false,0,0,())) (λ(a:W_)=>none) (λ(i:Nat) (a:W_)=>an (bX i 0) (ob (AX (x.1.1,())) λ(a:aX)=>some (a.1,()))) λ(r:aX)=>some r
def CU(x:W7):Option (aX):=some (seq x.1 x.2.1,())
def M2(x:Xd):Option (aX):=ob (T (aj x.1.1 x.2.1.1) (ob (CU (x.1.2.1,x.2.1.2.1,())) λ(a:aX)=>some (a.1,())) (some (false,()))) λ(a:aX)=>some (a.1,())
def Le(x:Fd):Option (aX):=letI c:=some (true,());cb (bK (λ(Y:W_)=>letI d:=Y.2.2.1;letI b:=ao x.1 (ae d) 0;T (aH d (len x.1)) (an (aN d (len x.1)) (ob (T (b3 b Y.2.1) c (T (aH 128 b) c (some (aj b 65,())))) λ(a:aX)=>T a.1 (some (aF.rt (false,()))) (some (aF.nx (Y.1,ao x.1 (ae d) 0,i64 (aE d 1),()))))) (some (aF.ex 0 (Y.1,Y.2.1,d,())))) (false,1,0,())) (λ(a:W_)=>none) (λ(i:Nat) (a:W_)=>an (bX i 0) c) λ(r:aX)=>some r
def uP(x:f8):Option (ug):=letI b:=i64 (bq x.1 1);ob (T (aH x.1 1) (some (true,())) (some (aH 128 x.1,()))) λ(a:aX)=>T a.1 (some (0,u8 0,())) (an (b3 0 (fR b 8)) (some (i64 (gd b 8),u8 (fO IntKind.u8 (aO (u8 128)) (fR b 8)),())))
def Lf(x:Fd):Option (cz):=letI b:=len x.1;letI e:=bR (ae 16) (u8 0);letI f:=i64 (bq b 1);ob (Le (x.1,())) λ(a:aX)=>T (bg a.1) (some (aR UInt8,1,())) (an (c3 (b8 0 8 8) (ci 1 (ae 8))) (ob (T (aH 0 b) (an (aN f b) (some (aH 64 (ao x.1 (ae f) 0),()))) (some (false,()))) λ(a:aX)=>T a.1 (an (c3 (b8 0 16 16) (ci 1 (ae 16))) (an (aN 0 (len e)) (cb (bK (λ(Y:zs)=>T (aH Y.1 b) (an (aN Y.1 b) (ob (uP (ao x.1 (ae Y.1) 0,())) λ(a:ug)=>letI c:=aN a.1 (len Y.2.1);an c (an c (some (aF.nx (i64 (aE Y.1 1),cn Y.2.1 (ae a.1) (u8 (g' IntKind.u8 (aO (ao Y.2.1 (ae a.1) (u8 0))) (aO a.2.1))),())))))) (some (aF.ex 0 (Y.1,Y.2.1,())))) (0,cn e (ae 0) (u8 128),())) (λ(a:zs)=>none) (λ(i:Nat) (a:zs)=>an (bX i 0) (some (a.2.1,0,()))) λ(r:cz)=>some r))) (cb (bK (λ(Y:zs)=>T (aH Y.1 b) (an (aN Y.1 b) (ob (uP (ao x.1 (ae Y.1) 0,())) λ(a:ug)=>letI d:=aN a.1 (len Y.2.1);an d (an d (some (aF.nx (i64 (aE Y.1 1),cn Y.2.1 (ae a.1) (u8 (g' IntKind.u8 (aO (ao Y.2.1 (ae a.1) (u8 0))) (aO a.2.1))),())))))) (some (aF.ex 0 (Y.1,Y.2.1,())))) (0,bR (ae 8) (u8 0),())) (λ(a:zs)=>none) (λ(i:Nat) (a:zs)=>an (bX i 0) (some (a.2.1,0,()))) λ(r:cz)=>some r)))
def AZ(x:dj):Option (cz):=letI b:=x.1.2.1;ob (M1 (x.1,())) λ(a:aX)=>T (bg a.1) (some (aR UInt8,1,())) (ob (sa (x.1.1,4,())) λ(a:cz)=>ob (uU (a.1,())) λ(a:cz)=>cb (bK (λ(Y:W')=>letI c:=Y.2.1;T (aH c (len b)) (an (aN c (len b)) (an (ci 32 (bI (aV Y.1) (aV [(ao b (ae c) (0,aR UInt8,())).1]))) (some (aF.nx (cg Y.1 [(ao b (ae c) (0,aR UInt8,())).1],i64 (aE c 1),()))))) (some (aF.ex 0 (Y.1,c,())))) (aR Int,0,())) (λ(a:W')=>none) (λ(i:Nat) (a?:W')=>an (bX i 0) (ob (Lf (a?.1,())) λ(ce:cz)=>an (ci 1 (bI (aV a.1) (aV ce.1))) (cb (bK (λ(Y:cz)=>letI d:=Y.2.1;T (aH d (len b)) (an (aN d (len b)) (ob (GR ((ao b (ae d) (0,aR UInt8,())).1,(ao b (ae d) (0,aR UInt8,())).2.1,())) λ(a:cz)=>an (ci 1 (bI (aV Y.1) (aV a.1))) (some (aF.nx (cg Y.1 a.1,i64 (aE d 1),()))))) (some (aF.ex 2 (Y.1,d,())))) (cg a.1 ce.1,0,())) (λ(a:cz)=>none) (λ(i:Nat) (a:cz)=>an (bX i 2) (some (a.1,0,()))) λ(r:cz)=>some r))) λ(r:cz)=>some r)
def M0(x:f8):Option (Fm):=ob (vj (x.1,1,())) λ(a:f8)=>ob (AX (x.1,())) λ(a?:aX)=>ob (T (bg a?.1) (some (true,())) (T (bg (aj a.1 0)) (some (bg (aj a.1 2),())) (some (false,())))) λ(a:aX)=>T a.1 (some (0,false,())) (some (i64 (aE x.1 10),true,()))
def O1(x:List (Int×V×Unit)×List (Int×V×Unit)×Nat×Unit):Option (aX):=letI c:=len x.1;T (bg (aj c (len x.2.1))) (some (false,())) (cb (bK (λ(Y:na)=>letI b:=Y.2.1;T (aH b c) (an (aN b c) (an (aN b (len x.2.1)) (an (bX x.2.2.1 1) (ob (M2 (ao x.1 (ae b) (0,aR UInt8,()),ao x.2.1 (ae b) (0,aR UInt8,()),())) λ(a:aX)=>T (bg a.1) (some (aF.rt (false,()))) (some (aF.nx (Y.1,i64 (aE b 1),()))))))) (some (aF.ex 0 (Y.1,b,())))) (false,0,())) (λ(a:na)=>none) (λ(i:Nat) (a:na)=>an (bX i 0) (some (true,()))) λ(r:aX)=>some r)
def H4(x:(Int×List (Int×V×Unit)×Unit)×(Int×List (Int×V×Unit)×Unit)×Unit):Option (aX):=ob (T (aj x.1.1 x.2.1.1) (ob (O1 (x.1.2.1,x.2.1.2.1,1,())) λ(a:aX)=>some (a.1,())) (some (false,()))) λ(a:aX)=>some (a.1,())
def H3(x:f8):Option (f8):=ob (AX (x.1,())) λ(a:aX)=>T (bg a.1) (some (0,())) (ob (vj (x.1,2,())) λ(a:f8)=>some (a.1,()))
def M5(x:Xi):Option (f8):=some (x.1.1,())
def DY(x:g?):Option (dH):=ob (ye (x.1,0,4,())) λ(a:k5)=>T (bg (aj a.2.2.1 0)) (some ((0,aR (Int×V×Unit),()),a.2.2.1,())) (ob (uV (a.1,())) λ(a?:da)=>ob (AX (a?.1,())) λ(ce:aX)=>T (bg ce.1) (some ((0,aR (Int×V×Unit),()),2,())) (ob (Y6 (x.1,a.2.1,())) λ(a:W?)=>letI c:=len a.1;T (bg (aj a.2.2.1 0)) (some ((0,aR (Int×V×Unit),()),a.2.2.1,())) (cb (bK (λ(x:da)=>letI f:=x.2.1;T (aH f c) (an (aN f c) (ob (wu (ao a.1 (ae f) 0,())) λ(a:rP)=>T (bg a.2.1) (some (aF.rt ((0,aR (Int×V×Unit),()),2,()))) (some (aF.nx (x.1,i64 (aE f 1),()))))) (some (aF.ex 0 (x.1,f,())))) (0,0,())) (λ(a:da)=>none) (λ(i:Nat) (bY:da)=>an (bX i 0) (cb (bK (λ(Y:ul)=>letI b:=Y.2.2;letI e:=b.2.1;T (aH b.1 c) (an (aN b.1 c) (ob (L8 (ao a.1 (ae b.1) 0,x.1,Y.2.1,())) λ(dB:k5)=>letI d:=(ao a.1 (ae b.1) 0,dB.1,());T (bg (aj dB.2.2.1 0)) (some (aF.rt ((0,aR (Int×V×Unit),()),dB.2.2.1,()))) (an (ci 56 (bI (aV e.2.1) (aV [d]))) (some (aF.nx (Y.1,dB.2.1,i64 (aE b.1 1),(e.1,cg e.2.1 [d],e.2.2),())))))) (some (aF.ex 2 (Y.1,Y.2.1,b.1,(e.1,e.2.1,e.2.2),())))) (bY.1,a.2.1,0,(a?.1,aR (Int×V×Unit),()),())) (λ(a:ul)=>none) (λ(i:Nat) (a:Int×Int×Int × (Int×List (Int×V×Unit)×Unit)×Unit)=>letI g:=a.2.2.2.1;an (bX i 2) (T (aH a.2.1 (len x.1)) (some ((0,aR (Int×V×Unit),()),4,())) (some ((g.1,g.2.1,g.2.2),0,())))) λ(r:dH)=>some r)) λ(r:dH)=>some r)))
def M4(x:dj):Option (Fe):=some ((x.1.2.1,1,()),())
def H6(x:(List (Int×V×Unit)×Nat×Unit)×Int×Unit):Option (Fm):=cb (bK (λ(Y:JW)=>letI b:=Y.2.2.1;T (aH b (len x.1.1)) (an (aN b (len x.1.1)) (an (bX x.1.2.1 1) (ob (M5 (ao x.1.1 (ae b) (0,aR UInt8,()),())) λ(a:f8)=>T (b3 x.2.1 a.1) (some (aF.rt (b,aj a.1 x.2.1,()))) (some (aF.nx (Y.1,Y.2.1,i64 (aE b 1),())))))) (some (aF.ex 0 (Y.1,Y.2.1,b,())))) (0,false,0,())) (λ(a:JW)=>none) (λ(i:Nat) (a:JW)=>an (bX i 0) (some (len x.1.1,false,()))) λ(r:Fm)=>some r
def O0(x:List (List (Int×V×Unit))×Unit):Option (xv):=letI c:=aR (Int×V×Unit);letI d:=len x.1;cb (bK (λ(Y:da)=>letI h:=Y.2.1;letI e:=aE Y.1 (len (ao x.1 (ae h) c));T (aH h d) (an (aN h d) (T (aH (i64 e) 0) none (some (aF.nx (i64 e,i64 (aE h 1),()))))) (some (aF.ex 0 (Y.1,h,())))) (0,0,())) (λ(a:da)=>none) (λ(i:Nat) (a:da)=>letI b:=i64 (bq a.1 (i64 (bq 0 0)));an (bX i 0) (T (aH a.1 0) none (T (aH 0 b) (an (b8 0 0 0) (an (c3 (b3 0 b) (ci 56 (ae b))) (an (b8 0 0 (len (bR (ae b) (0,aR UInt8,())))) (cb (bK (λ(Y:ui)=>letI j:=Y.2.1;letI f:=ao x.1 (ae j) c;T (aH j d) (an (aN j d) (an (ci 56 (bI (aV Y.1) (aV f))) (some (aF.nx (cg Y.1 f,i64 (aE j 1),()))))) (some (aF.ex 2 (Y.1,j,())))) (cut (bR (ae b) (0,aR UInt8,())) (ae 0) (cc (ae 0) (ae 0)),0,())) (λ(a:ui)=>none) (λ(i:Nat) (a:ui)=>an (bX i 2) (some (a.1,()))) λ(r:xv)=>some r)))) (cb (bK (λ(Y:ui)=>letI k:=Y.2.1;letI g:=ao x.1 (ae k) c;T (aH k d) (an (aN k d) (an (ci 56 (bI (aV Y.1) (aV g))) (some (aF.nx (cg Y.1 g,i64 (aE k 1),()))))) (some (aF.ex 2 (Y.1,k,())))) (aR (Int×V×Unit),0, ())) (λ(a:ui)=>none) (λ(i:Nat) (a:ui)=>an (bX i 2) (some (a.1,()))) λ(r:xv)=>some r)))) λ(r:xv)=>some r
def UA(x:(List (Int×V×Unit)×Nat×Unit)×(Int×V×Unit)×Unit):Option (xv):=letI b:=len x.1.1;an (bX x.1.2.1 1) (ob (M5 (x.2.1,())) λ(a:f8)=>ob (H6 (x.1,a.1,())) λ(a:Fm)=>ob (T a.2.1 (some (i64 (aE a.1 1),())) (some (a.1,()))) λ(a?:f8)=>an (b8 0 a.1 b) (an (b8 a?.1 b b) (ob (O0 ([sub x.1.1 0 a.1,[x.2.1],sub x.1.1 a?.1 b],())) λ(a:xv)=>some (a.1,()))))
def kw(x:Xc):Option (dH):=ob (wu (x.2.1,())) λ(a:rP)=>T (bg a.2.1) (some (x.1,12,())) (ob (ws (x.2.1,x.2.2.1,())) λ(a:aX)=>T (bg a.1) (some (x.1,1,())) (ob (M4 (x.1,())) λ(a:Fe)=>ob (UA (a.1,(x.2.1,x.2.2.1,()),())) λ(a:xv)=>some ((x.1.1,a.1,x.1.2.2),0,())))
def rq(x:dH):Option (Fp):=ob (M4 (x.1,())) λ(a:Fe)=>ob (H6 (a.1,x.2.1,())) λ(a:Fm)=>T (bg a.2.1) (some (aR UInt8,false,())) (an (aN a.1 (len x.1.2.1)) (some ((ao x.1.2.1 (ae a.1) (0,aR UInt8,())).2.1,true,())))
def N9(x:f8):Option (aX):=letI b:=some (false,());ob (T (b3 100 x.1) (T (b3 x.1 899) (T (b3 (fR (i64 (gd x.1 10)) 10) 4) (some (b3 (fR x.1 10) 5,())) b) b) b) λ(a:aX)=>some (a.1,())
def N8(x:dj):Option (aX):=letI d:=x.1.2.1;letI b:=len d;cb (bK (λ(Y:na)=>letI c:=Y.2.1;letI e:=aN c b;letI f:=i64 (bq c 1);T (aH c b) (an e (an e (ob (N4 ((ao d (ae c) (0,aR UInt8,())).1,(ao d (ae c) (0,aR UInt8,())).2.1,())) λ(a:aX)=>ob (T (bg a.1) (some (true,())) (T (aH 0 c) (an (aN f b) (an e (some (b3 (ao d (ae c) (0,aR UInt8,())).1 (ao d (ae f) (0,aR UInt8,())).1,())))) (some (false,())))) λ(a:aX)=>T a.1 (some (aF.rt (false,()))) (some (aF.nx (Y.1,i64 (aE c 1),())))))) (some (aF.ex 0 (Y.1,c,())))) (false,0,())) (λ(a:na)=>none) (λ(i:Nat) (a:na)=>an (bX i 0) (ob (N9 (x.1.1,())) λ(a:aX)=>some (a.1,()))) λ(r:aX)=>some r
def N6(x:Fd):Option (aX):=letI d:=some (true,());letI f:=len x.1;cb (bK (λ(Y:na)=>letI e:=Y.2.1;letI b:=ao x.1 (ae e) 0;letI c:=aN e f;letI g:=i64 (bq e 1);T (aH e f) (an c (ob (T (aH b 2) d (an c (T (aH 128 b) d (an c (T (aj b 65) d (T (aH 0 e) (an (aN g f) (an c (some (b3 b (ao x.1 (ae g) 0),())))) (some (false,())))))))) λ(a:aX)=>T a.1 (some (aF.rt (false,()))) (some (aF.nx (Y.1,i64 (aE e 1),()))))) (some (aF.ex 0 (Y.1,e,())))) (false,0,())) (λ(a:na)=>none) (λ(i:Nat) (a:na)=>an (bX i 0) d) λ(r:aX)=>some r
def EN(x:f8):Option (ug):=letI b:=i64 (bq x.1 1);ob (T (aH x.1 1) (some (true,())) (some (aH 128 x.1,()))) λ(a:aX)=>T a.1 (some (0,u8 0,())) (cb (bK (λ(Y:da)=>T (aH Y.2.1 (fR b 8)) (some (aF.nx (i64 (gd Y.1 2),i64 (aE Y.2.1 1),()))) (some (aF.ex 0 (Y.1,Y.2.1,())))) (128,0,())) (λ(a:da)=>none) (λ(i:Nat) (a:da)=>an (bX i 0) (some (i64 (gd b 8),u8 a.1,()))) λ(r:ug)=>some r)
def N7(x:Fd):Option (cz):=letI b:=cg (aR Int) x.1;letI c:=len x.1;letI f:=cg b [1];letI g:=i64 (bq c 1);ob (N6 (x.1,())) λ(a:aX)=>T (bg a.1) (some (aR UInt8,1,())) (an (ci 32 (bI (aV (aR Int)) (aV x.1))) (ob (T (aH 0 c) (an (aN g c) (some (aH 64 (ao x.1 (ae g) 0),()))) (some (false,()))) λ(a:aX)=>T a.1 (an (ci 32 (bI (aV b) (aV [1]))) (an (c3 (b8 0 16 16) (ci 1 (ae 16))) (cb (bK (λ(Y:zs)=>T (aH Y.1 (len f)) (an (aN Y.1 (len f)) (ob (EN (ao f (ae Y.1) 0,())) λ(a:ug)=>letI d:=aN a.1 (len Y.2.1);an d (an d (some (aF.nx (i64 (aE Y.1 1),cn Y.2.1 (ae a.1) (u8 (aE (aO (ao Y.2.1 (ae a.1) (u8 0))) (aO a.2.1))),())))))) (some (aF.ex 0 (Y.1,Y.2.1,())))) (0,bR (ae 16) (u8 0),())) (λ(a:zs)=>none) (λ(i:Nat) (a:zs)=>an (bX i 0) (some (a.2.1,0,()))) λ(r:cz)=>some r))) (an (c3 (b8 0 8 8) (ci 1 (ae 8))) (cb (bK (λ(Y:zs)=>T (aH Y.1 (len b)) (an (aN Y.1 (len b)) (ob (EN (ao b (ae Y.1) 0,())) λ(a:ug)=>letI e:=aN a.1 (len Y.2.1);an e (an e (some (aF.nx (i64 (aE Y.1 1),cn Y.2.1 (ae a.1) (u8 (aE (aO (ao Y.2.1 (ae a.1) (u8 0))) (aO a.2.1))),())))))) (some (aF.ex 0 (Y.1,Y.2.1,())))) (0,bR (ae 8) (u8 0),())) (λ(a:zs)=>none) (λ(i:Nat) (a:zs)=>an (bX i 0) (some (a.2.1,0,()))) λ(r:cz)=>some r))))
def N_(x:f8):Option (g?):=ob (xj (x.1,4,())) λ(a:cz)=>some (a.1,())
def EO(x:dj):Option (cz):=letI c:=x.1.2.1;ob (N8 (x.1,())) λ(a:aX)=>T (bg a.1) (some (aR UInt8,1,())) (cb (bK (λ(Y:Xg)=>letI b:=Y.2.2.1;letI d:=aN b (len c);T (aH b (len c)) (an d (an d (ob (Jc ((ao c (ae b) (0,aR UInt8,())).1,(ao c (ae b) (0,aR UInt8,())).2.1,())) λ(a:cz)=>an d (an (ci 32 (bI (aV Y.1) (aV [(ao c (ae b) (0,aR UInt8,())).1]))) (an (ci 1 (bI (aV Y.2.1) (aV a.1))) (some (aF.nx (cg Y.1 [(ao c (ae b) (0,aR UInt8,())).1],cg Y.2.1 a.1,i64 (aE b 1),())))))))) (some (aF.ex 0 (Y.1,Y.2.1,b,())))) (aR Int,aR UInt8,0,())) (λ(a:Xg)=>none) (λ(i:Nat) (a:Xg)=>an (bX i 0) (ob (N7 (a.1,())) λ(a?:cz)=>ob (N_ (x.1.1,())) λ(ce:g?)=>ob (vL (ce.1,())) λ(bY:cz)=>letI e:=cg bY.1 a?.1;an (ci 1 (bI (aV bY.1) (aV a?.1))) (an (ci 1 (bI (aV e) (aV a.2.1))) (some (cg e a.2.1,0,()))))) λ(r:cz)=>some r)
def Bv(x:f8):Option (f8):=ob (N9 (x.1,())) λ(a:aX)=>T (bg a.1) (some (0,())) (some (i64 (gd x.1 100),()))
def n2(x:cz):Option (aX):=ob (EN (x.2.1,())) λ(a:ug)=>an (aN a.1 (len x.1)) (some (bg (aj (aO (u8 (i9 IntKind.u8 (aO (ao x.1 (ae a.1) (u8 0))) (aO a.2.1)))) (aO (u8 0))),()))
def MD(x:cz):Option (W?):=letI b:=len x.1;letI c:=x.2.1;letI d:=some (true,());letI g:=len (sub x.1 c b);ob (T (aH c 0) d (some (aH b c,()))) λ(a:aX)=>T a.1 (some (aR Int,0,1,())) (an (b8 c b b) (T (aH g 8) (some (aR Int,0,3,())) (ob (n2 (sub x.1 c b,1,())) λ(a:aX)=>ob (T a.1 (some (16,())) (some (8,()))) λ(a?:f8)=>T (aH g a?.1) (some (aR Int,0,3,())) (cb (bK (λ(Y:W')=>letI f:=Y.2.1;T (b3 f (i64 (fv 8 a?.1))) (ob (n2 (sub x.1 c b,f,())) λ(a:aX)=>T a.1 (an (ci 32 (bI (aV Y.1) (aV [f]))) (some (aF.nx (cg Y.1 [f],i64 (aE f 1),())))) (some (aF.nx (Y.1,i64 (aE f 1),())))) (some (aF.ex 0 (Y.1,f,())))) (aR Int,2,())) (λ(a:W')=>none) (λ(i:Nat) (ce:W')=>letI e:=len ce.1;letI h:=i64 (bq e 1);an (bX i 0) (ob (T a.1 (ob (n2 (sub x.1 c b,65,())) λ(a:aX)=>T a.1 d (T (aj e 0) d (an (aN h e) (some (b3 (ao ce.1 (ae h) 0) 65,()))))) (some (false,()))) λ(a:aX)=>T a.1 (some (aR Int,0,2,())) (some (ce.1,i64 (aE c a?.1),0,())))) λ(r:W?)=>some r))))
def YX(x:g?):Option (dH):=T (aH (len x.1) 2) (some ((0,aR (Int×V×Unit),()),3,())) (ob (n1 (x.1,0,4,())) λ(a:k5)=>ob (Mu (a.1,())) λ(a?:da)=>ob (T (bg (aj a.2.2.1 0)) (some (true,())) (ob (N9 (a?.1,())) λ(a:aX)=>some (bg a.1,()))) λ(a:aX)=>T a.1 (some ((0,aR (Int×V×Unit),()),2,())) (ob (MD (x.1,2,())) λ(a:W?)=>letI c:=len a.1;T (bg (aj a.2.2.1 0)) (some ((0,aR (Int×V×Unit),()),a.2.2.1,())) (cb (bK (λ(x:da)=>letI f:=x.2.1;T (aH f c) (an (aN f c) (ob (Jb (ao a.1 (ae f) 0,())) λ(a:rP)=>T (bg a.2.1) (some (aF.rt ((0,aR (Int×V×Unit),()),2,()))) (some (aF.nx (x.1,i64 (aE f 1),()))))) (some (aF.ex 0 (x.1,f,())))) (0,0,())) (λ(a:da)=>none) (λ(i:Nat) (ce:da)=>an (bX i 0) (cb (bK (λ(Y:ul)=>letI b:=Y.2.2;letI e:=b.2.1;T (aH b.1 c) (an (aN b.1 c) (ob (Mv (ao a.1 (ae b.1) 0,x.1,Y.2.1,())) λ(bY:k5)=>letI d:=(ao a.1 (ae b.1) 0,bY.1,());T (bg (aj bY.2.2.1 0)) (some (aF.rt ((0,aR (Int×V×Unit),()),bY.2.2.1,()))) (an (aN b.1 c) (an (ci 56 (bI (aV e.2.1) (aV [d]))) (some (aF.nx (Y.1,bY.2.1,i64 (aE b.1 1),(e.1,cg e.2.1 [d],e.2.2),()))))))) (some (aF.ex 2 (Y.1,Y.2.1,b.1,(e.1,e.2.1,e.2.2),())))) (ce.1,a.2.1,0,(a?.1,aR (Int×V×Unit),()),())) (λ(a:Int×Int × Int×(Int×List (Int×V×Unit)×Unit)×Unit)=>none) (λ(i:Nat) (a:ul)=>letI g:=a.2.2.2.1;an (bX i 2) (T (aH a.2.1 (len x.1)) (some ((0,aR (Int×V×Unit),()),4,())) (some ((g.1,g.2.1,g.2.2),0,())))) λ(r:dH)=>some r)) λ(r:dH)=>some r)))
def BH(x:Xc):Option (dH):=letI b:=x.1.2.1;letI e:=x.2.1;ob (Jb (e,())) λ(a:rP)=>T (bg a.2.1) (some (x.1,12,())) (ob (N4 (e,x.2.2.1,())) λ(a:aX)=>T (bg a.1) (some (x.1,1,())) (cb (bK (λ(Y:ui)=>letI c:=Y.2.1;letI f:=aN c (len b);T (aH c (len b)) (an f (T (aH (ao b (ae c) (0,aR UInt8,())).1 e) (an f (an (ci 56 (bI (aV Y.1) (aV [ao b (ae c) (0,aR UInt8,())]))) (some (aF.nx (cg Y.1 [ao b (ae c) (0,aR UInt8,())],i64 (aE c 1),()))))) (some (aF.nx (Y.1,i64 (aE c 1),()))))) (some (aF.ex 0 (Y.1,c,())))) (aR (Int×V×Unit),0,())) (λ(a:ui)=>none) (λ(i:Nat) (a:ui)=>an (bX i 0) (an (ci 56 (bI (aV a.1) (aV [(e,x.2.2.1,())]))) (cb (bK (λ(Y:ui)=>letI d:=Y.2.1;letI g:=aN d (len b);T (aH d (len b)) (an g (T (aH e (ao b (ae d) (0,aR UInt8,())).1) (an g (an (ci 56 (bI (aV Y.1) (aV [ao b (ae d) (0,aR UInt8,())]))) (some (aF.nx (cg Y.1 [ao b (ae d) (0,aR UInt8,())],i64 (aE d 1),()))))) (some (aF.nx (Y.1,i64 (aE d 1),()))))) (some (aF.ex 2 (Y.1,d,())))) (cg a.1 [(e,x.2.2.1,())],0,())) (λ(a:ui)=>none) (λ(i:Nat) (a:ui)=>an (bX i 2) (some ((x.1.1,a.1,()),0,()))) λ(r:dH)=>some r))) λ(r:(Int×List (Int×V×Unit) × Unit)×Int×Unit)=>some r))
def Np(x:dH):Option (Fp):=letI b:=len x.1.2.1;cb (bK (λ(Y:na)=>letI c:=Y.2.1;T (aH c b) (an (aN c b) (T (aj (ao x.1.2.1 (ae c) (0,aR UInt8,())).1 x.2.1) (an (aN c b) (some (aF.rt ((ao x.1.2.1 (ae c) (0,aR UInt8,())).2.1,true,())))) (some (aF.nx (Y.1,i64 (aE c 1),()))))) (some (aF.ex 0 (Y.1,c,())))) (false,0,())) (λ(a:na)=>none) (λ(i:Nat) (a:na)=>an (bX i 0) (some (aR UInt8,false,()))) λ(r:Fp)=>some r
def Vi(x:uh):Option (aX):=some (false,())
def Vh(x:uh):Option (Nat×Unit):=letI b:=some (true,());letI c:=x.1.2.1;letI d:=some (x.1.1,());letI e:=some (false,());ob (T (aj c 101) d e) λ(a:aX)=>T a.1 (some (1,())) (ob (T (aj c 201) d e) λ(a:aX)=>T a.1 (some (2,())) (ob (T (aj c 1) b (T (aj c 2) b (T (aj c 101) b (T (aj c 201) b (some (aj c 301,())))))) λ(a:aX)=>T a.1 (some (3,())) (some (4,()))))
def IE(x:uh):Option (aX):=letI b:=some (true,());letI c:=x.1.2.2;letI e:=some (false,());ob (T (aH c.1 1) b (T (aH 999999 c.1) b (T (aH c.2.1 0) b (T (aH 99 c.2.1) b (T x.1.1 (some (aH 0 c.2.1,())) e))))) λ(a:aX)=>T a.1 e (ob (Vh (x.1,())) λ(a:Nat×Unit)=>letI d:=cc a.1 1;T (bX a.1 1) (ob (Vg (x.1,())) λ(a:aX)=>some (a.1,())) (T (bX d 1) (ob (Vf (x.1,())) λ(a:aX)=>some (a.1,())) (T (bX (cc d 1) 1) (ob (Nz (x.1,())) λ(a:aX)=>some (a.1,())) (an (bX (cc (cc d 1) 1) 1) (ob (Vi (x.1,())) λ(a:aX)=>some (a.1,()))))))
def rC(x:da):Option (g?):=ob (sa (x.1,x.2.1,())) λ(a:cz)=>an (ci 1 (aV a.1)) (some (a.1,()))
def El(x:uh):Option (dj):=letI b:=x.1.2;letI c:=b.2.2.2;ob (rC (b.2.1,6,())) λ(a:g?)=>ob (kw ((810,aR (Int×V×Unit),()),11,a.1,())) λ(a:dH)=>ob (rC (b.1,3,())) λ(a?:g?)=>ob (kw (a.1,70,a?.1,())) λ(a:dH)=>T (bg x.1.1) (ob (rC (b.2.2.1,2,())) λ(ce:g?)=>ob (kw (a.1,39,ce.1,())) λ(a:dH)=>some (a.1,())) (T (aj b.1 101) (ob (GF (c.2.2.1,())) λ(ce:g?)=>an (ci 1 (aV ce.1)) (ob (kw ((800,a.1.2),48,ce.1,())) λ(a:dH)=>ob (rC (c.1,16,())) λ(bY:g?)=>ob (kw (a.1,53,bY.1,())) λ(a:dH)=>ob (kw (a.1,96,c.2.1,())) λ(a:dH)=>some (a.1,()))) (T (aj b.1 201) (ob (rC (c.2.2.2.1,6,())) λ(ce:g?)=>ob (kw ((800,a.1.2),15,ce.1,())) λ(a:dH)=>some (a.1,())) (some ((800,a.1.2),()))))
def qE(x:uh):Option (cz):=ob (IE (x.1,())) λ(a:aX)=>T (bg a.1) (some (aR UInt8,1,())) (ob (El (x.1,())) λ(a:dj)=>ob (AZ (a.1,())) λ(a:cz)=>some (a.1,a.2.1,()))
def rB(x:qU):Option (qU):=T (bg x.1.1) (some ((false,0,0,0,0,aR UInt8,aR UInt8,0,()),9,())) (ob (T (aH x.2.1 0) (some (true,())) (some (aH 99 x.2.1,()))) λ(a:aX)=>T a.1 (some ((false,0,0,0,0,aR UInt8,aR UInt8,0,()),1,())) (some ((false,x.1.2.1,x.1.2.2.1,x.2.1,0,aR UInt8,aR UInt8,0,()),0,())))
def Ek(x:g?):Option (qU):=ob (DY (x.1,())) λ(a:dH)=>T (bg (aj a.2.1 0)) (some ((false,0,0,0,0,aR UInt8,aR UInt8,0,()),a.2.1,())) (ob (rq (a.1,70,())) λ(a?:Fp)=>ob (uV (a?.1,())) λ(ce:da)=>ob (rq (a.1,11,())) λ(bY:Fp)=>ob (uV (bY.1,())) λ(dB:da)=>ob (rq (a.1,39,())) λ(jG:Fp)=>ob (uV (jG.1,())) λ(pu:da)=>ob (rq (a.1,53,())) λ(mS:Fp)=>ob (uV (mS.1,())) λ(wc:da)=>ob (rq (a.1,15,())) λ(z2:Fp)=>ob (uV (z2.1,())) λ(te:da)=>ob (rq (a.1,96,())) λ(z1:Fp)=>ob (rq (a.1,48,())) λ(akk:Fp)=>ob (GG (akk.1,())) λ(QC:cz)=>letI b:=(aj a.1.1 800,ce.1,dB.1,pu.1,wc.1,z1.1,QC.1,te.1,());ob (IE (b,())) λ(akl:aX)=>T (bg akl.1) (some ((false,0,0,0,0,aR UInt8,aR UInt8,0,()),2,())) (ob (El (b,())) λ(QD:dj)=>ob (H4 (QD.1,a.1,())) λ(QE:aX)=>T (bg QE.1) (some ((false,0,0,0,0,aR UInt8,aR UInt8,0,()),2,())) (some (b,0,()))))
end Yp
namespace Yp
abbrev fq:=(Int×V×Unit)×(Int×V×Unit)×(Int×V×Unit)×Int×Int×Unit
abbrev ej:=List Bool×List (V×Int×Int×Unit)×List Int×Int×Unit
abbrev eG:=Bool×List (V×V×Unit)×Bool×Unit
abbrev gq:=Int×Int×Int×Int×V×Unit
abbrev de:=Bool×Int×Int×Int×Int×V×V×Int×Unit
abbrev c9:=Int×Int×List Int×Int×Int×V×V×Unit
abbrev p_:=Int×V×Int×(V×V×Unit)×Int×Int×Int×Int×Int×(Int×List UInt64×Unit)×fq×gq×Int×Int×List V×ej×List (Int×V×Unit)×List (Int×List Int×Int×V×Unit)×List Int×Unit
abbrev fb:=p_×eG×Unit
end Yp
namespace Yp
abbrev Cn:List UInt64:=[u64 0,u64 0,u64 0,u64 0,u64 0,u64 0,u64 0,u64 0,u64 0,u64 0,u64 0,u64 0,u64 0,u64 0,u64 0,u64 0]
abbrev zG:V×Int×Int×Unit:=(aR UInt8,0,0,())
abbrev X9:ej:=([false,false,false,false],[zG,zG,zG,zG],[0,0,0,0],0,())
abbrev lP:Int×V×Unit:=(0,aR UInt8,())
abbrev FA:fq:=(lP,lP,lP,0,0,())
abbrev mQ:gq:=(0,0,0,0,aR UInt8,())
abbrev pi:p_:=(0,aR UInt8,0,(aR UInt8,aR UInt8,()),0,0,0,0,0,(0,Cn,()),FA,mQ,0,0,aR V,X9,aR (Int×V×Unit),aR (Int×List Int×Int×V×Unit),[0,0,0,0],())
abbrev f9:Int×Int×V×Unit:=(0,0,aR UInt8,())
abbrev oG:c9:=(0,0,[0,0],0,0,aR UInt8,aR UInt8,())
end Yp
namespace Yp
abbrev bN:=fb×Unit
abbrev fr:=fb×Int×Unit
abbrev r1:=de×Int×Unit
abbrev FU:=((p_×Unit)×fb×Unit)×Unit
abbrev uE:=fq×Int×Unit
abbrev YC:=p_×List (Int×V×Unit)×List (Int×List Int×Int×V×Unit)×Unit
abbrev xZ:=fb×de×Unit
abbrev v?:= ej×Int×Unit
abbrev uF:=fq×Unit
abbrev CB:=Int×fb×Unit
abbrev CD:=fb×V×Unit
abbrev KN:=fb×Int×Int×Unit
abbrev Qi:=gq×Bool×Bool×Unit
abbrev Qj:=ej×Int×Int×Unit
abbrev Qk:=p_×Unit
abbrev FV:=eG×Bool×Unit
end Yp
namespace Yp
open Go
def Lk(x:g?):Option (g?):=an (ci 1 (aV x.1)) (some (x.1,()))
def aio(x:W8):Option (W8):=an (ci 32 (aV x.1)) (some (x.1,()))
def I7(x:eG×V×V×Unit):Option (aX):=some (x.1.2.1.any λe=>c3 (seq x.2.1 e.1) (seq x.2.2.1 e.2.1),())
def I_(x:List V×List V×Int×Unit):Option (List V×Int×Int×Unit):=if x.2.2.1<1\/64<x.2.2.1 then some (x.1,0,1,()) else if x.2.2.1<(x.1.length:Int) then some (x.1,0,0,()) else some (x.1++x.2.1.take (x.2.2.1.toNat-x.1.length),((min (x.2.2.1.toNat-x.1.length) x.2.1.length:Nat):Int),0,())
def A6(x:Int×List Int×Unit):Option (aX):=letI c:=some (true,());cb (bK (λ(Y:na)=>letI d:=Y.2.1;letI b:=ao x.2.1 (ae d) 0;T (aH d (len x.2.1)) (an (aN d (len x.2.1)) (ob (T (aH b 0) c (some (aH x.1 b,()))) λ(a:aX)=>T a.1 (some (aF.rt (false,()))) (some (aF.nx (Y.1,i64 (aE d 1),()))))) (some (aF.ex 0 (Y.1,d,())))) (false,0,())) (λ(a:na)=>none) (λ(i:Nat) (a:na)=>an (bX i 0) c) λ(r:aX)=>some r
def ol(x:Qk):Option (Fd):=letI b:=i64 (bq 1 x.1.1);ob (A6 (1,[x.1.1],())) λ(a:aX)=>T a.1 (an (aN x.1.1 (bi 2)) (an (aN b (bi 2)) (some (cn (cn [0,0] (ae x.1.1) x.1.2.2.2.2.2.1) (ae b) x.1.2.2.2.2.2.2.1,())))) (some ([0,0],()))
def Ih(x:g?):Option (aX):=ob (T (b3 1 (len x.1)) (some (b3 (len x.1) 900,())) (some (false,()))) λ(a:aX)=>some (a.1,())
def Bq(x:f8):Option (f8):=T (aj x.1 0) (some (0,())) (T (aj x.1 1) (some (1,())) (T (aj x.1 2) (some (2,())) (T (aj x.1 3) (some (3,())) (T (aj x.1 4) (T (aj x.1 4) (some (4,())) (T (aj x.1 6) (some (5,())) (some (-1,())))) (T (aj x.1 5) (some (4,())) (T (aj x.1 6) (some (5,())) (some (-1,()))))))))
def vH(x:f8):Option (aX):=ob (Bq (x.1,())) λ(a:f8)=>some (b3 2 a.1,())
def Ue(x:ej×Unit):Option (Qj):=cb (bK (λ(Y:JU)=>letI c:=Y.2.2.1;letI b:=i64 (aE x.1.2.2.2.1 c);letI d:=fR b 4;T (aH c 4) (an (aN d (bi 4)) (T (ao x.1.1 (ae d) false) (some (aF.rt ((x.1.1,x.1.2.1,x.1.2.2.1,fR (i64 (aE d 1)) 4,x.1.2.2.2.2),fR b 4,0,()))) (some (aF.nx (Y.1,Y.2.1,i64 (aE c 1),()))))) (some (aF.ex 0 (Y.1,Y.2.1,c,())))) (0,0,0,())) (λ(a:JU)=>none) (λ(i:Nat) (a:JU)=>an (bX i 0) (some (x.1,0,11,()))) λ(r:Qj)=>some r
def Dc(x:da):Option (aX):=ob (T (b3 0 x.1) (some (b3 x.1 x.2.1,())) (some (false,()))) λ(a:aX)=>some (a.1,())
def GL(x:c9×Unit):Option (aX):=letI b:=some (false,());letI c:=x.1.2.2;letI e:=len c.2.2.2.1;ob (T (bg (aj x.1.1 1)) (some (bg (aj x.1.1 2),())) b) λ(a:aX)=>T a.1 b (an (aN 0 (bi 2)) (an (aN 1 (bi 2)) (cb (bK (λ(Y:na)=>letI d:=Y.2.1;T (aH d 3) (an (aN d (bi 3)) (ob (Dc (ao [ao c.1 (ae 0) 0,ao c.1 (ae 1) 0,c.2.2.1] (ae d) 0,4611686018427387904,())) λ(a:aX)=>T (bg a.1) (some (aF.rt (false,()))) (some (aF.nx (Y.1,i64 (aE d 1),()))))) (some (aF.ex 0 (Y.1,d,())))) (false,0,())) (λ(a:na)=>none) (λ(i:Nat) (a:na)=>an (bX i 0) (ob (Dc (x.1.2.1,1,())) λ(a:aX)=>ob (T a.1 (ob (Dc (c.2.1,2147483647,())) λ(a:aX)=>T a.1 (T (b3 1 e) (some (b3 e 900,())) b) b) b) λ(a:aX)=>some (a.1,()))) λ(r:aX)=>some r)))
def yh(x:c9×Unit):Option (cz):=letI b:=x.1.2.2;letI c:=len [ao b.1 (ae 0) 0,ao b.1 (ae 1) 0];letI d:=len [x.1.1,x.1.2.1];letI e:=b.2.2;letI f:=len [b.2.1];ob (GL (x.1,())) λ(a:aX)=>T (bg a.1) (some (aR UInt8,1,())) (cb (bK (λ(Y:zs)=>T (aH Y.1 d) (an (aN Y.1 d) (ob (ql (ao [x.1.1,x.1.2.1] (ae Y.1) 0,1,())) λ(a:cz)=>an (ci 1 (bI (aV Y.2.1) (aV a.1))) (some (aF.nx (i64 (aE Y.1 1),cg Y.2.1 a.1,()))))) (some (aF.ex 0 (Y.1,Y.2.1,())))) lP) (λ(a:zs)=>none) (λ(i:Nat) (a:zs)=>an (bX i 0) (an (aN 0 (bi 2)) (an (aN 1 (bi 2)) (cb (bK (λ(Y:zs)=>T (aH Y.1 c) (an (aN Y.1 c) (ob (ql (ao [ao b.1 (ae 0) 0,ao b.1 (ae 1) 0] (ae Y.1) 0,8,())) λ(a:cz)=>an (ci 1 (bI (aV Y.2.1) (aV a.1))) (some (aF.nx (i64 (aE Y.1 1),cg Y.2.1 a.1,()))))) (some (aF.ex 0 (Y.1,Y.2.1,())))) (0,a.2.1,())) (λ(a:zs)=>none) (λ(i:Nat) (a:zs)=>an (bX i 0) (cb (bK (λ(Y:zs)=>T (aH Y.1 f) (an (aN Y.1 f) (ob (ql (ao [b.2.1] (ae Y.1) 0,4,())) λ(a:cz)=>an (ci 1 (bI (aV Y.2.1) (aV a.1))) (some (aF.nx (i64 (aE Y.1 1),cg Y.2.1 a.1,()))))) (some (aF.ex 0 (Y.1,Y.2.1,())))) (0,a.2.1,())) (λ(a:zs)=>none) (λ(i:Nat) (a:zs)=>an (bX i 0) (cb (bK (λ(Y:zs)=>T (aH Y.1 (len [e.1])) (an (aN Y.1 (len [e.1])) (ob (ql (ao [e.1] (ae Y.1) 0,8,())) λ(a:cz)=>an (ci 1 (bI (aV Y.2.1) (aV a.1))) (some (aF.nx (i64 (aE Y.1 1),cg Y.2.1 a.1,()))))) (some (aF.ex 0 (Y.1,Y.2.1,())))) (0,a.2.1,())) (λ(a:zs)=>none) (λ(i:Nat) (a:zs)=>an (bX i 0) (an (ci 1 (bI (aV a.2.1) (aV e.2.1))) (some (cg a.2.1 e.2.1,0,())))) λ(r:Unit)=>none)) λ(r:Unit)=>none)) λ(r:Unit)=>none)))) λ(r:Unit)=>none)
def D'(x:W7):Option (aX):=letI c:=len x.1;T (bg (aj c (len x.2.1))) (some (false,())) (cb (bK (λ(Y:abk)=>letI b:=Y.2.1;T (aH b c) (an (aN b c) (an (aN b (len x.2.1)) (some (aF.nx (u8 (g' IntKind.u8 (aO Y.1) (aO (u8 (fT IntKind.u8 (aO (ao x.1 (ae b) (u8 0))) (aO (ao x.2.1 (ae b) (u8 0))))))),i64 (aE b 1),()))))) (some (aF.ex 0 (Y.1,b,())))) (u8 0,0,())) (λ(a:abk)=>none) (λ(i:Nat) (a:abk)=>an (bX i 0) (some (aj (aO a.1) (aO (u8 0)),()))) λ(r:aX)=>some r)
def OY(x:Xe):Option (Xe):=letI a:=len x.1;an (c3 (b8 0 a a) (aj a a)) (some (sub x.1 0 a,()))
def li(x:UInt32×Int×Unit):Option (Xa):=letI a:=cL (u64 (i9 IntKind.u64 (cL (u64 x.2.1)) (cL (u64 31))));some (u32 (g' IntKind.u32 (a8 (u32 (h0 IntKind.u32 (a8 x.1) a))) (a8 (u32 (fO IntKind.u32 (a8 x.1) (cL (u64 (bq (cL (u64 32)) a))))))),())
def OM(x:g?):Option (abq):=letI f:=len x.1;cb (bK (λ(Y:rR)=>letI b:=i64 (fv 4 Y.1);letI c:=i64 (bq Y.1 15);letI d:=i64 (bq Y.1 2);letI e:=Y.2.1;letI g:=i64 (bq Y.1 16);letI h:=aN Y.1 (bi 64);letI j:=i64 (bq Y.1 7);letI k:=i64 (aE b 1);letI l:=i64 (aE b 2);letI m:=i64 (aE b 3);T (aH Y.1 64) (T (aH Y.1 16) (an (aN b f) (an (aN k f) (an (aN l f) (an (aN m f) (an h (some (aF.nx (i64 (aE Y.1 1),cn e (ae Y.1) (u32 (g' IntKind.u32 (a8 (u32 (g' IntKind.u32 (a8 (u32 (g' IntKind.u32 (a8 (u32 (h0 IntKind.u32 (a8 (u32 (aO (ao x.1 (ae b) (u8 0))))) (cL (u64 24))))) (a8 (u32 (h0 IntKind.u32 (a8 (u32 (aO (ao x.1 (ae k) (u8 0))))) (cL (u64 16)))))))) (a8 (u32 (h0 IntKind.u32 (a8 (u32 (aO (ao x.1 (ae l) (u8 0))))) (cL (u64 8)))))))) (a8 (u32 (aO (ao x.1 (ae m) (u8 0))))))),())))))))) (an (aN c (bi 64)) (an (aN d (bi 64)) (ob (li (ao e (ae c) (u32 0), -7,())) λ(a:Xa)=>ob (li (ao e (ae c) (u32 0), -18,())) λ(a?:Xa)=>ob (li (ao e (ae d) (u32 0), -17,())) λ(ce:Xa)=>ob (li (ao e (ae d) (u32 0), -19,())) λ(bY:Xa)=>an (aN j (bi 64)) (an (aN g (bi 64)) (an h (some (aF.nx (i64 (aE Y.1 1),cn e (ae Y.1) (u32 (aE (a8 (u32 (aE (a8 (u32 (aE (a8 (u32 (fT IntKind.u32 (a8 (u32 (fT IntKind.u32 (a8 ce.1) (a8 bY.1)))) (a8 (u32 (fO IntKind.u32 (a8 (ao e (ae d) (u32 0))) (cL (u64 10)))))))) (a8 (ao e (ae j) (u32 0)))))) (a8 (u32 (fT IntKind.u32 (a8 (u32 (fT IntKind.u32 (a8 a.1) (a8 a?.1)))) (a8 (u32 (fO IntKind.u32 (a8 (ao e (ae c) (u32 0))) (cL (u64 3))))))))))) (a8 (ao e (ae g) (u32 0))))),()))))))))) (some (aF.ex 0 (Y.1,e,())))) (0,[u32 0,u32 0,u32 0,u32 0,u32 0,u32 0,u32 0,u32 0,u32 0,u32 0,u32 0,u32 0,u32 0,u32 0,u32 0,u32 0,u32 0,u32 0,u32 0,u32 0,u32 0,u32 0,u32 0,u32 0,u32 0,u32 0,u32 0,u32 0,u32 0,u32 0,u32 0,u32 0,u32 0,u32 0,u32 0,u32 0,u32 0,u32 0,u32 0,u32 0,u32 0,u32 0,u32 0,u32 0,u32 0,u32 0,u32 0,u32 0,u32 0,u32 0,u32 0,u32 0,u32 0,u32 0,u32 0,u32 0,u32 0,u32 0,u32 0,u32 0,u32 0,u32 0,u32 0,u32 0],()))
 (λ(a:rR)=>none) (λ(i:Nat) (a:rR)=>an (bX i 0) (some (a.2.1,()))) λ(r:abq)=>some r
def OL(x:List UInt32×V×Unit):Option (Xb):=letI l:=aN 4 (bi 8);letI m:=cc (ae (bi 8)) (ae 1);letI q:=aN 0 (bi 8);letI s:=aN 1 (bi 8);letI t:=aN 2 (bi 8);T (bg (aj (len x.2.1) 64)) (some (x.1,1,())) (ob (OM (x.2.1,())) λ(a:abq)=>cb (bK (λ(x:rR)=>letI o:=ae x.1;letI c:=x.2.1;letI d:=cut c (ae 0) (cc (ae 7) (ae 0));letI e:=a8 (ao a.1 o (u32 0));letI g:=a8 (ao c (ae 4) (u32 0));letI h:=a8 (ao c (ae 0) (u32 0));letI j:=a8 (ao c (ae 1) (u32 0));letI k:=a8 (ao c (ae 2) (u32 0));letI n:=aN x.1 (bi 64);T (aH x.1 64) (an n (an q (an l (ob (li (ao c (ae 4) (u32 0), -6,())) λ(a?:Xa)=>ob (li (ao c (ae 4) (u32 0), -11,())) λ(ce:Xa)=>ob (li (ao c (ae 4) (u32 0), -25,())) λ(bY:Xa)=>letI b:=a8 (u32 (aE (a8 (u32 (aE (a8 (ao c (ae 7) (u32 0))) (a8 (u32 (fT IntKind.u32 (a8 (u32 (fT IntKind.u32 (a8 a?.1) (a8 ce.1)))) (a8 bY.1))))))) (a8 (u32 (fT IntKind.u32 (a8 (u32 (i9 IntKind.u32 g (a8 (ao c (ae 5) (u32 0)))))) (a8 (u32 (i9 IntKind.u32 (a8 (u32 (fT IntKind.u32 4294967295 g))) (a8 (ao c (ae 6) (u32 0)))))))))));ob (li (ao c (ae 0) (u32 0), -2,())) λ(dB:Xa)=>ob (li (ao c (ae 0) (u32 0), -13,())) λ(jG:Xa)=>ob (li (ao c (ae 0) (u32 0), -22,())) λ(pu:Xa)=>an (aN 7 (bi 8)) (an (aN 5 (bi 8)) (an (aN 6 (bi 8)) (an n (an s (an t (an s (an t (an (b8 1 (bi 8) (bi 8)) (an (b8 0 7 (bi 8)) (an l (an l (an q (some (aF.nx (i64 (aE x.1 1),cn (cn (d? c (ae 1) m d) (ae 4) (u32 (aE (a8 (ao (d? c (ae 1) m d) (ae 4) (u32 0))) (a8 (u32 (aE (a8 (u32 (aE b (a8 (ao (ao [qz] 0 [u32 0,u32 0,u32 0,u32 0,u32 0,u32 0,u32 0, u32 0,u32 0,u32 0,u32 0,u32 0,u32 0,u32 0,u32 0,u32 0,u32 0,u32 0,u32 0,u32 0,u32 0,u32 0,u32 0,u32 0,u32 0,u32 0,u32 0,u32 0,u32 0,u32 0,u32 0,u32 0,u32 0,u32 0,u32 0,u32 0,u32 0,u32 0,u32 0,u32 0,u32 0,u32 0,u32 0,u32 0,u32 0,u32 0,u32 0,u32 0,u32 0,u32 0,u32 0,u32 0,u32 0,u32 0,u32 0,u32 0,u32 0,u32 0,u32 0,u32 0,u32 0,u32 0,u32 0,u32 0]) o (u32 0)))))) e)))))) (ae 0) (u32 (aE (a8 (u32 (aE (a8 (u32 (aE b (a8 (ao (ao [qz]
 0 [u32 0,u32 0,u32 0,u32 0,u32 0,u32 0,u32 0,u32 0,u32 0,u32 0,u32 0,u32 0,u32 0,u32 0,u32 0,u32 0,u32 0,u32 0,u32 0,u32 0,u32 0,u32 0,u32 0,u32 0,u32 0,u32 0,u32 0,u32 0,u32 0,u32 0,u32 0,u32 0,u32 0,u32 0,u32 0,u32 0,u32 0,u32 0,u32 0,u32 0,u32 0,u32 0,u32 0,u32 0,u32 0,u32 0,u32 0,u32 0,u32 0,u32 0,u32 0,u32 0,u32 0,u32 0,u32 0,u32 0,u32 0,u32 0,u32 0,u32 0,u32 0,u32 0,u32 0,u32 0]) o (u32 0)))))) e))) (a8 (u32 (aE (a8 (u32 (fT IntKind.u32 (a8 (u32 (fT IntKind.u32 (a8 dB.1) (a8 jG.1)))) (a8 pu.1)))) (a8 (u32 (fT IntKind.u32 (a8 (u32 (fT IntKind.u32 (a8 (u32 (i9 IntKind.u32 h j))) (a8 (u32 (i9 IntKind.u32 h k)))))) (a8 (u32 (i9 IntKind.u32 j k))))))))))),()))))))))))))))))))) (some (aF.ex 0 (x.1,c,())))) (0,x.1,())) (λ(a:rR)=>none) (λ(i:Nat) (a:rR)=>an (bX i 0) (cb (bK (λ(x:rR)=>letI f:=aN x.1 (bi 8);letI p:=ae x.1;T (aH x.1 8) (an f (an f (an f (some (aF.nx (i64 (aE x.1 1),cn x.2.1 p (u32 (aE (a8 (ao x.2.1 p (u32 0))) (a8 (ao a.2.1 p (u32 0))))),())))))) (some (aF.ex 2 (x.1,x.2.1,())))) (0,x.1,())) (λ(a:rR)=>none) (λ(i:Nat) (a:rR)=>an (bX i 2) (some (a.2.1,0,()))) λ(r:Xb)=>some r)) λ(r:Xb)=>some r)
def zk(x:(List UInt32×Int×V×Unit)×V×Unit):Option (sU):=letI h:=x.1.2;letI g:=len x.2.1;letI e:=len h.2.1;letI c:=i64 (aE e g);letI b:=bR (ae c) (u8 0);letI d:=len (d? b 0 (aV b) h.2.1);T (aH (i64 (bq 1125899906842624 h.1)) g) (some (x.1,())) (an (c3 (b8 0 c c) (ci 1 (ae c))) (an (b8 e d d) (cb (bK (λ(x:BW)=>letI f:=len x.1;T (b3 64 f) (an (b8 0 64 f) (ob (OL (x.2.1.1,cut x.1 (ae 0) (cc (ae 64) (ae 0)),())) λ(a:Xb)=>an (b8 64 f f) (some (aF.nx (cut x.1 (ae 64) (cc (ae f) (ae 64)),(a.1,x.2.1.2),()))))) (some (aF.ex 0 (x.1,x.2.1,())))) (d? (d? b 0 (aV b) h.2.1) (ae e) (cc (ae d) (ae e)) x.2.1,(x.1.1,i64 (aE h.1 g),h.2),())) (λ(a:BW)=>none) (λ(i:Nat) (a:BW)=>an (bX i 0) (some ((a.2.1.1,a.2.1.2.1,a.1,a.2.1.2.2.2),()))) λ(r:sU)=>some r)))
def Jz(x:Unit):Option (sU):=some (([u32 1779033703,u32 3144134277,u32 1013904242,u32 2773480762,u32 1359893119,u32 2600822924,u32 528734635,u32 1541459225],0,aR UInt8,()),())
def BP(x:sU):Option (g?):=letI g:=bR (ae 0) (u8 0);letI j:=cg g x.1.2.2.1;an (c3 (b8 0 0 128) (ci 1 (ae 128))) (an (ci 1 (bI (aV g) (aV x.1.2.2.1))) (an (ci 1 (bI (aV j) (aV [u8 128]))) (cb (bK (λ(x:g?)=>T (bg (aj (fR (len x.1) 64) 56)) (an (ci 1 (bI (aV x.1) (aV [u8 0]))) (some (aF.nx (cg x.1 [u8 0],())))) (some (aF.ex 0 (x.1,())))) (cg j [u8 128],())) (λ(a:g?)=>none) (λ(i:Nat) (a:g?)=>an (bX i 0) (cb (bK (λ(Y:cz)=>letI k:=Y.2.1;letI c:=fO IntKind.i64 (i64 (fv 8 x.1.2.1)) k;T (b3 0 k) (an (b3 0 k) (an (ci 1 (bI (aV Y.1) (aV [u8 c]))) (some (aF.nx (cg Y.1 [u8 c],i64 (bq k 8),()))))) (some (aF.ex 2 (Y.1,k,())))) (a.1,56,())) (λ(a:cz)=>none) (λ(i:Nat) (a:cz)=>an (bX i 2) (cb (bK (λ(x:JX)=>letI h:=len x.1;T (aH 0 h) (an (b8 0 64 h) (ob (OL (x.2.1,cut x.1 (ae 0) (cc (ae 64) (ae 0)),())) λ(a:Xb)=>an (b8 64 h h) (some (aF.nx (cut x.1 (ae 64) (cc (ae h) (ae 64)),a.1,()))))) (some (aF.ex 4 (x.1,x.2.1,())))) (a.1,x.1.1,())) (λ(a:JX)=>none) (λ(i:Nat) (a:JX)=>an (bX i 4) (an (c3 (b8 0 0 32) (ci 1 (ae 32))) (cb (bK (λ(x:cz)=>letI l:=x.2.1;letI b:=a8 (ao a.2.1 (ae l) (u32 0));letI d:=a8 (u32 (fO IntKind.u32 b (cL (u64 24))));letI e:=a8 (u32 (fO IntKind.u32 b (cL (u64 16))));letI f:=a8 (u32 (fO IntKind.u32 b (cL (u64 8))));T (aH l 8) (an (aN l (bi 8)) (an (ci 1 (bI (aV x.1) (aV [u8 d,u8 e,u8 f,u8 b]))) (some (aF.nx (cg x.1 [u8 d,u8 e,u8 f,u8 b],i64 (aE l 1),()))))) (some (aF.ex 6 (x.1,l,())))) (bR (ae 0) (u8 0),0,())) (λ(a:cz)=>none) (λ(i:Nat) (a:cz)=>an (bX i 6) (some (a.1,()))) λ(r:g?)=>some r))) λ(r:g?)=>some r)) λ(r:g?)=>some r)) λ(r:g?)=>some r)))
def JA(x:g?):Option (g?):=ob (Jz ()) λ(a:sU)=>ob (zk (a.1,x.1,())) λ(a:sU)=>ob (BP (a.1,())) λ(a:g?)=>some (a.1,())
def U1(x:g?):Option (g?):=letI b:=bR (ae 64) (u8 0);an (c3 (b8 0 64 64) (ci 1 (ae 64))) (T (aH 64 (len x.1)) (ob (JA (x.1,())) λ(a:g?)=>some (d? b 0 (aV b) a.1,())) (some (d? b 0 (aV b) x.1,())))
def D?(x:W7):Option (g?):=ob (U1 (x.1,())) λ(a:g?)=>an (c3 (b8 0 64 64) (ci 1 (ae 64))) (cb (bK (λ(x:zs)=>T (aH x.1 (len a.1)) (an (aN x.1 (len a.1)) (an (aN x.1 (len x.2.1)) (some (aF.nx (i64 (aE x.1 1),cn x.2.1 (ae x.1) (u8 (fT IntKind.u8 (aO (ao a.1 (ae x.1) (u8 0))) (aO (u8 92)))),()))))) (some (aF.ex 0 (x.1,x.2.1,())))) (0,bR (ae 64) (u8 0),())) (λ(a:zs)=>none) (λ(i:Nat) (a?:zs)=>an (bX i 0) (ob (Jz ()) λ(ce:sU)=>ob (zk (ce.1,a?.2.1,())) λ(bY:sU)=>an (c3 (b8 0 64 64) (ci 1 (ae 64))) (cb (bK (λ(x:zs)=>T (aH x.1 (len a.1)) (an (aN x.1 (len a.1)) (an (aN x.1 (len x.2.1)) (some (aF.nx (i64 (aE x.1 1),cn x.2.1 (ae x.1) (u8 (fT IntKind.u8 (aO (ao a.1 (ae x.1) (u8 0))) (aO (u8 54)))),()))))) (some (aF.ex 0 (x.1,x.2.1,())))) (0,bR (ae 64) (u8 0),())) (λ(a:zs)=>none) (λ(i:Nat) (a:zs)=>an (bX i 0) (ob (Jz ()) λ(dB:sU)=>ob (zk (dB.1,a.2.1,())) λ(a:sU)=>ob (zk (a.1,x.2.1,())) λ(a:sU)=>ob (BP (a.1,())) λ(a:g?)=>ob (zk (bY.1,a.1,())) λ(a:sU)=>ob (BP (a.1,())) λ(a:g?)=>some (a.1,()))) λ(r:Unit)=>none))) λ(r:Unit)=>none)
def EB(x:W7):Option (g?):=ob (D? (x.1,x.2.1,())) λ(a:g?)=>an (b8 0 16 (len a.1)) (some (cut a.1 (ae 0) (cc (ae 16) (ae 0)),()))
def NP(x:eG×V×V×Unit):Option (eG×V×Unit):=letI b:=EB (x.2.1,x.2.2.1,());ob (I7 (x.1,x.2.1,x.2.2.1,())) λ(a:aX)=>T (bg a.1) (ob (OY (x.1.2.1,())) λ(a:Xe)=>ob (Lk (x.2.1,())) λ(a?:g?)=>ob (Lk (x.2.2.1,())) λ(ce:g?)=>an (ci 56 (bI (aV a.1) (aV [(a?.1,ce.1,())]))) (ob b λ(bY:g?)=>some ((x.1.1,cg a.1 [(a?.1,ce.1,())],x.1.2.2),bY.1,()))) (ob b λ(a:g?)=>some (x.1,a.1,()))
def Db(x:c9×Unit):Option (aX):=ob (GL (x.1,())) λ(a:aX)=>ob (T a.1 (some (aj (len x.1.2.2.2.2.2.2.1) 16,())) (some (false,()))) λ(a:aX)=>some (a.1,())
def LW(x:c9×Unit):Option (cz):=letI b:=x.1.2.2.2.2.2.2.1;ob (Db (x.1,())) λ(a:aX)=>T (bg a.1) (some (aR UInt8,1,())) (ob (yh (x.1,())) λ(a:cz)=>an (ci 1 (bI (aV a.1) (aV b))) (some (cg a.1 b,0,())))
def SM(x:g?):Option (cz):=letI b:=len x.1;letI c:=fO IntKind.i64 b (cL (u64 8));ob (T (aH b 1) (some (true,())) (some (aH 1024 b,()))) λ(a:aX)=>T a.1 (some (aR UInt8,1,())) (an (ci 1 (bI (aV [u8 c,u8 b]) (aV x.1))) (some (cg [u8 c,u8 b] x.1,0,())))
def OZ(x:xv):Option (xv):=letI a:=len x.1;an (c3 (b8 0 a a) (aj a a)) (some (sub x.1 0 a,()))
def Ig(x:fb×c9×V×Unit):Option (fr):=letI d:=x.1.1.2.2;letI b:=d.2.2.2.2.2;letI c:=b.2.2.2.2.2;letI e:=x.2.1.2.2;ob (Ue (c.2.2.2.1,())) λ(a:Qj)=>T (bg (aj a.2.2.1 0)) (some (x.1,a.2.2.1,())) (ob (yh (x.2.1,())) λ(a?:cz)=>ob (NP (x.1.2.1,x.2.2.1,a?.1,())) λ(ce:eG×V×Unit)=>ob (LW ((x.2.1.1,x.2.1.2.1,e.1,e.2.1,e.2.2.1,e.2.2.2.1,ce.2.1,e.2.2.2.2.2),())) λ(bY:cz)=>ob (SM (bY.1,())) λ(dB:cz)=>ob (OZ (c.2.2.2.2.1,())) λ(jG:xv)=>an (ci 56 (bI (aV jG.1) (aV [(a.2.1,dB.1,())]))) (some (((x.1.1.1,x.1.1.2.1,d.1,d.2.1,d.2.2.1,d.2.2.2.1,d.2.2.2.2.1,b.1,b.2.1,b.2.2.1,b.2.2.2.1,b.2.2.2.2.1,c.1,c.2.1,c.2.2.1,a.1,cg jG.1 [(a.2.1,dB.1,())],c.2.2.2.2.2),ce.1,x.1.2.2),0,())))
def om(x:CD):Option (fr):=letI b:=x.1.1.2.2.2.2.2.2.2.2;ob (Ih (x.2.1,())) λ(a:aX)=>T (bg a.1) (some (x.1,1,())) (ob (vH (x.1.1.2.2.1,())) λ(a:aX)=>T (bg a.1) (some (x.1,7,())) (T (aj b.1 4611686018427387904) (some (x.1,10,())) (ob (ol (x.1.1,())) λ(a:Fd)=>ob (Ig (x.1,(2,x.1.1.1,a.1,b.2.2.1.1.1,b.1,x.2.1,aR UInt8,()),b.2.2.1.1.2.1,())) λ(a:fr)=>letI c:=a.1.1.2.2.2;letI d:=c.2.2.2;T (aj a.2.1 0) (some (((a.1.1.1,a.1.1.2.1,a.1.1.2.2.1,c.1,c.2.1,c.2.2.1,d.1,d.2.1,i64 (aE d.2.2.1 1),d.2.2.2),a.1.2),a.2.1,())) (some (a.1,a.2.1,())))))
def K_(x:f8):Option (f8):=ob (T (aH x.1 0) (some (true,())) (some (b3 999999 x.1,()))) λ(a:aX)=>T a.1 (some (1,())) (some (i64 (aE x.1 1),()))
def K8(x:f8):Option (aX):=letI a:=some (false,());letI b:=some (true,());T (aj x.1 1) (T (aj x.1 1) b a) (T (aj x.1 2) (T (aj x.1 2) b a) (T (aj x.1 101) (T (aj x.1 101) b a) (T (aj x.1 201) (T (aj x.1 201) b a) (T (aj x.1 301) b a))))
def K'(x:O9):Option (aX):=letI b:=some (false,());letI c:=len x.2.2.1;ob (K8 (x.1,())) λ(a:aX)=>ob (T a.1 (T (b3 1 x.2.1) (T (b3 x.2.1 999999) (T (b3 1 c) (some (b3 c 900,())) b) b) b) b) λ(a:aX)=>some (a.1,())
def K7(x:O9):Option (gq×Int×Unit):=ob (K' (x.1,x.2.1,x.2.2.1,())) λ(a:aX)=>T (bg a.1) (some (mQ,1,())) (some ((x.1,x.2.1,8,3,x.2.2.1,()),0,()))
def Nf(x:V×V×List V×Unit):Option (cz):=letI e:=len x.2.2.1;letI g:=len x.2.1;ob (T (aH 255 g) (some (true,())) (some (aH 16 e,()))) λ(a:aX)=>T a.1 (some (aR UInt8,1,())) (an (ci 1 (bI (aV [u8 g]) (aV x.2.1))) (cb (bK (λ(Y:W9)=>letI f:=Y.2.2.1;letI b:=ao x.2.2.1 (ae f) (aR UInt8);letI c:=fO IntKind.i64 (len b) (cL (u64 8));letI d:=cg Y.2.1 [u8 c,u8 (len b)];T (aH f e) (an (aN f e) (T (aH 65535 (len b)) (some (aF.rt (aR UInt8,1,()))) (an (ci 1 (bI (aV Y.2.1) (aV [u8 c,u8 (len b)]))) (an (ci 1 (bI (aV d) (aV b))) (some (aF.nx (Y.1,cg d b,i64 (aE f 1),()))))))) (some (aF.ex 0 (Y.1,Y.2.1,f,())))) (0,cg [u8 g] x.2.1,0,())) (λ(a:W9)=>none) (λ(i:Nat) (a:W9)=>an (bX i 0) (ob (D? (x.1,a.2.1,())) λ(a:g?)=>some (a.1,0,()))) λ(r:cz)=>some r))
def A3(x:g?):Option (g?):=ob (Nf (x.1,[98,97,115,101],aR V,())) λ(a:cz)=>some (a.1,())
def D5(x:fb×Int×V×Unit):Option (fr):=letI b:=x.1.1.2;ob (A6 (4611686018427387904,[x.2.1],())) λ(a:aX)=>ob (T (bg a.1) (some (true,())) (ob (Ih (x.2.2.1,())) λ(a:aX)=>some (bg a.1,()))) λ(a:aX)=>T a.1 (some (x.1,1,())) (ob (ol ((x.1.1.1,b.1,b.2.1,b.2.2.1,b.2.2.2.1,b.2.2.2.2.1,x.2.1,b.2.2.2.2.2.2),())) λ(a:Fd)=>ob (A3 (b.1,())) λ(a?:g?)=>ob (Ig (x.1,(1,x.1.1.1,a.1,0,0,x.2.2.1,aR UInt8,()),a?.1,())) λ(a:fr)=>some (a.1,a.2.1,()))
def BQ(x:xZ):Option (bN):=letI c:=x.1.1.2;letI f:=c.2.2;letI b:=f.2.2;letI d:=b.2.2.2;letI e:=x.2.1.2;letI g:=d.2.2;ob (K_ (g.2.2.1,())) λ(a:f8)=>ob (qE ((x.2.1.1,e.1,a.1,e.2.2),())) λ(a?:cz)=>ob (K7 (e.1,a.1,a?.1,())) λ(ce:gq×Int×Unit)=>ob (T (bg (aj a?.2.1 0)) (some (true,())) (some (bg (aj ce.2.1 0),()))) λ(bY:aX)=>T bY.1 (some (x.1,())) (T (aj e.1 1) (ob (D5 (((x.1.1.1,c.1,c.2.1,f.1,f.2.1,b.1,b.2.1,b.2.2.1,d.1,d.2.1,g.1,ce.1,a.1,g.2.2.2),x.1.2),0,a?.1,())) λ(a:fr)=>some (a.1,())) (ob (om (((x.1.1.1,c.1,c.2.1,f.1,f.2.1,b.1,b.2.1,b.2.2.1,d.1,d.2.1,g.1,ce.1,a.1,g.2.2.2),x.1.2),a?.1,())) λ(a:fr)=>some (a.1,())))
def y7(x:f8):Option (aX):=letI b:=Bq (x.1,());ob b λ(a:f8)=>ob (T (aj a.1 3) (some (true,())) (ob b λ(a:f8)=>some (aj a.1 4,()))) λ(a:aX)=>some (a.1,())
def Jm(x:Xi):Option (aX):=ob (T (aj x.1.1 0) (some (aj (len x.1.2.1) 0,())) (some (false,()))) λ(a:aX)=>some (a.1,())
def Ok(x:(fq×Unit)×Unit):Option (xv):=some ([x.1.1.1,x.1.1.2.1,x.1.1.2.2.1],())
def Ol(x:(fq×Unit)×Unit):Option (aX):=ob (Ok (x.1,())) λ(a:xv)=>cb (bK (λ(x:na)=>letI b:=x.2.1;T (aH b 3) (an (aN b (bi 3)) (ob (Jm (ao a.1 (ae b) lP,())) λ(a:aX)=>T (bg a.1) (some (aF.rt (false,()))) (some (aF.nx (x.1,i64 (aE b 1),()))))) (some (aF.ex 0 (x.1,b,())))) (false,0,())) (λ(a:na)=>none) (λ(i:Nat) (a:na)=>an (bX i 0) (ob (T (aj x.1.1.2.2.2.1 0) (some (aj x.1.1.2.2.2.2.1 0,())) (some (false,()))) λ(a:aX)=>some (a.1,()))) λ(r:aX)=>some r
def Oh(x:uF):Option (da):=ob (Ol ((x.1,()),())) λ(a:aX)=>T a.1 (some (0,9,())) (T (aj x.1.2.2.2.2.1 2147483647) (some (0,10,())) (some (i64 (aE x.1.2.2.2.2.1 1),0,())))
def zd(x:bN):Option (FU):=some (((x.1.1,()),x.1,()),())
def A4(x:V×List Int×Int×V×Unit):Option (g?):=letI b:=some (aR UInt8,());letI c:=aN 0 (bi 2);letI d:=aN 1 (bi 2);an c (an d (ob (A6 (4611686018427387904,[ao x.2.1 (ae 0) 0,ao x.2.1 (ae 1) 0],())) λ(a:aX)=>T (bg a.1) b (ob (A6 (2147483647,[x.2.2.1],())) λ(a:aX)=>T (bg a.1) b (an c (ob (ql (ao x.2.1 (ae 0) 0,8,())) λ(a:cz)=>an d (ob (ql (ao x.2.1 (ae 1) 0,8,())) λ(a?:cz)=>ob (ql (x.2.2.1,4,())) λ(ce:cz)=>ob (Nf (x.1,[108,105,110,107],[a.1,a?.1,ce.1,x.2.2.2.1],())) λ(a:cz)=>some (a.1,())))))))
def Bz(x:(p_×Unit)×Int×V×Unit):Option (g?):=ob (ol (x.1.1,())) λ(a:Fd)=>ob (A4 (x.1.1.2.1,a.1,x.2.1,x.2.2.1,())) λ(a:g?)=>some (a.1,())
def Oj(x:Xi):Option (aX):=letI b:=some (false,());ob (T (b3 1 x.1.1) (T (b3 x.1.1 2147483647) (some (aj (len x.1.2.1) 32,())) b) b) λ(a:aX)=>some (a.1,())
def ES(x:fq×Int×V×Unit):Option (uE):=letI b:=x.1.2.2;letI c:=some (true,());letI d:=x.2.1;ob (Oj ((d,x.2.2.1,()),())) λ(a:aX)=>T (bg a.1) (some (x.1,1,())) (ob (Ol ((x.1,()),())) λ(a:aX)=>ob (T a.1 c (T (b3 d x.1.1.1) c (some (aH d b.1.1,())))) λ(a:aX)=>T a.1 (some (x.1,9,())) (some ((x.1.1,x.1.2.1,(d,x.2.2.1,()),b.2.1,c6 b.2.2.1 d,b.2.2.2),0,())))
def rH(x:da):Option (Fm):=letI b:=x.2.1;letI j:=aj b 9;letI c:=some (x.1,false,());letI d:=T j true false;letI e:=some (false,());letI f:=aj b 4;letI g:=aj b 5;letI h:=T j 0 0;ob (Bq (x.1,())) λ(a:f8)=>letI i:=some (b3 0 a.1,());ob (T (aj x.1 8) (some (aj b 11,())) e) λ(a?:aX)=>T a?.1 (some (0,true,())) (ob (T (aj x.1 8) (some (aj b 12,())) e) λ(ce:aX)=>T ce.1 (some (7,true,())) (ob (T (aj b 10) (T (b3 0 a.1) (some (true,())) (some (aj x.1 7,()))) e) λ(bY:aX)=>T bY.1 (some (8,true,())) (ob (T (aj b 0) i e) λ(dB:aX)=>T dB.1 (some (1,true,())) (ob (T (aj b 2) i e) λ(jG:aX)=>T jG.1 (some (2,true,())) (T (aj a.1 1) (T (T (aj b 1) true (T f true d)) (some (T (aj b 1) 3 (T f 0 h),true,())) c) (T (aj a.1 2) (T (T (aj b 3) true (T f true false)) (some (T (aj b 3) 3 (T f 0 0),true,())) c) (T (aj a.1 3) (T (T f true (T g true (T (aj b 6) true (T (aj b 7) true d)))) (some (T f 6 (T g 0 (T (aj b 6) 4 (T (aj b 7) 5 h))),true,())) c) (T (aj a.1 4) (T (T f true (T g true (T (aj b 8) true d))) (some (T f 6 (T g 0 (T (aj b 8) 3 (T j 3 0))),true,())) c) (T (aj a.1 5) (T (T g true d) (some (T g 0 h,true,())) c) c)))))))))
def Ip(x:g?):Option (g?):=an (c3 (b8 0 8 8) (ci 1 (ae 8))) (ob (D? (x.1,bR (ae 8) (u8 0),())) λ(a:g?)=>an (b8 0 3 (len a.1)) (some (cut a.1 (ae 0) (cc (ae 3) (ae 0)),())))
def Oa(x:CD):Option (fr):=letI c:=x.1.1.2.2;letI b:=c.2.2.2.2;letI d:=b.2.2.2.2;letI e:=some (true,());T (bg (aj (len x.2.1) 8)) (some (x.1,1,())) (ob (y7 (c.1,())) λ(a:aX)=>T (bg a.1) (some (x.1,7,())) (ob (T (bg (aj c.1 3)) e (T (bg (aj d.2.1.1 0)) e (some (aH 0 d.1.2.2.1.1,())))) λ(a:aX)=>T a.1 (some (x.1,9,())) (ob (Oh (d.1,())) λ(a:da)=>T (bg (aj a.2.1 0)) (some (x.1,a.2.1,())) (ob (zd (x.1,())) λ(a?:FU)=>ob (Bz (a?.1.1,a.1,x.2.1,())) λ(ce:g?)=>ob (ES (d.1,a.1,ce.1,())) λ(bY:uE)=>ob (rH (c.1,6,())) λ(dB:Fm)=>ob (Ip (ce.1,())) λ(jG:g?)=>ob (BQ (((x.1.1.1,x.1.1.2.1,dB.1,c.2.1,c.2.2.1,c.2.2.2.1,b.1,b.2.1,b.2.2.1,b.2.2.2.1,bY.1,d.2),x.1.2),(true,101,0,0,a.1,x.2.1,jG.1,0,()),())) λ(a:bN)=>some (a.1,0,())))))
def xk(x:(p_×Unit)×Unit):Option (aX):=some (aj x.1.1.2.2.1 4,())
def BA(x:bN):Option (bN):=letI d:=x.1.1.2;letI b:=d.2.2.2;letI c:=b.2.2.2;ob (rH (d.2.1,8,())) λ(a:Fm)=>some (((x.1.1.1,d.1,a.1,d.2.2.1,b.1,b.2.1,b.2.2.1,c.1,c.2.1,c.2.2.1,c.2.2.2.1,mQ,c.2.2.2.2.2),x.1.2),())
def Jl(x:uF):Option (uF):=some ((x.1.1,x.1.2.1,lP,x.1.2.2.2),())
def Jh(x:bN):Option (bN):=ob (zd (x.1,())) λ(a:FU)=>ob (xk (a.1.1,())) λ(a:aX)=>T (bg a.1) (some (x.1,())) (ob (BA (x.1,())) λ(a:bN)=>letI d:=a.1.1.2;letI b:=d.2.2.2;letI c:=b.2.2.2;ob (Jl (c.2.2.2.1,())) λ(a?:uF)=>some (((a.1.1.1,d.1,d.2.1,d.2.2.1,b.1,b.2.1,b.2.2.1,c.1,c.2.1,c.2.2.1,a?.1,c.2.2.2.2),a.1.2),()))
def k1(x:fr):Option (bN):=cb (bK (λ(Y:CB)=>letI f:=Y.2.1;letI d:=f.1.2.2;letI g:=d.2.2.2;letI b:=g.2.2.2;letI h:=b.2.2.2;letI c:=h.2.2.2;letI e:=aN Y.1 (bi 4);letI j:=c.2.2.2;letI k:=ae Y.1;T (aH Y.1 4) (an e (T (aj (ao [2,5,6,13] k 0) x.2.1) (an e (an e (some (aF.nx (i64 (aE Y.1 1),((f.1.1,f.1.2.1,d.1,d.2.1,d.2.2.1,g.1,g.2.1,g.2.2.1,b.1,b.2.1,b.2.2.1,h.1,h.2.1,h.2.2.1,c.1,c.2.1,c.2.2.1,j.1,cn j.2.1 k (i64 (aE (ao j.2.1 k 0) 1)),j.2.2),f.2),()))))) (some (aF.nx (i64 (aE Y.1 1),f,()))))) (some (aF.ex 0 (Y.1,f,())))) (0,x.1,())) (λ(a:CB)=>none) (λ(i:Nat) (a:CB)=>an (bX i 0) (some (a.2.1,()))) λ(r:bN)=>some r
def Ob(x:xZ):Option (bN):=letI j:=x.2.1;letI f:=j.2.2.2.2;letI h:=x.1.1.2.2.2.2.2.2.2.2.2.2.1;ob (zd (x.1,())) λ(a:FU)=>letI c:=a.1.2.1;letI o:=c.1.2;letI b:=o.2.2;letI p:=b.2.2;letI g:=p.2.2;letI i:=xk (a.1.1,());ob (Bz (a.1.1,f.1,f.2.1,())) λ(a?:g?)=>ob i λ(ce:aX)=>ob (T ce.1 (some (aj x.1.1.1 0,())) (some (false,()))) λ(bY:aX)=>T bY.1 (ob (k1 (x.1,13,())) λ(a:bN)=>some (a.1,())) (ob (Ip (a?.1,())) λ(dB:g?)=>ob (D' (dB.1,f.2.2.1,())) λ(jG:aX)=>T (bg jG.1) (ob (rB (j,63,())) λ(pu:r1)=>ob (qE (pu.1,())) λ(mS:cz)=>ob (om (c,mS.1,())) λ(a:fr)=>some (a.1,())) (T (aj f.1 h.1.1) (ob (rB (j,0,())) λ(pu:r1)=>ob (qE (pu.1,())) λ(mS:cz)=>ob (om (c,mS.1,())) λ(a:fr)=>some (a.1,())) (ob i λ(pu:aX)=>T pu.1 (ob (Jl (h,())) λ(mS:uF)=>ob (ES (mS.1,f.1,a?.1,())) λ(wc:uE)=>T (bg (aj wc.2.1 0)) (ob (k1 (x.1,13,())) λ(a:bN)=>some (a.1,())) (ob i λ(z2:aX)=>T z2.1 (ob (BA (c,())) λ(a:bN)=>letI k:=a.1.1.2;letI d:=k.2.2.2;letI l:=d.2.2.2;ob (rB (j,0,())) λ(te:r1)=>ob (qE (te.1,())) λ(z1:cz)=>ob (om (((a.1.1.1,k.1,k.2.1,k.2.2.1,d.1,d.2.1,d.2.2.1,l.1,l.2.1,l.2.2.1,wc.1,l.2.2.2.2),a.1.2),z1.1,())) λ(a:fr)=>some (a.1,())) (ob (rB (j,0,())) λ(te:r1)=>ob (qE (te.1,())) λ(z1:cz)=>ob (om (((c.1.1,o.1,o.2.1,b.1,b.2.1,p.1,p.2.1,g.1,g.2.1,g.2.2.1,wc.1,g.2.2.2.2),c.2),z1.1,())) λ(a:fr)=>some (a.1,())))) (ob (ES (h,f.1,a?.1,())) λ(mS:uE)=>T (bg (aj mS.2.1 0)) (ob (k1 (x.1,13,())) λ(a:bN)=>some (a.1,())) (ob i λ(wc:aX)=>T wc.1 (ob (BA (c,())) λ(a:bN)=>letI m:=a.1.1.2;letI e:=m.2.2.2;letI n:=e.2.2.2;ob (rB (j,0,())) λ(z2:r1)=>ob (qE (z2.1,())) λ(te:cz)=>ob (om (((a.1.1.1,m.1,m.2.1,m.2.2.1,e.1,e.2.1,e.2.2.1,n.1,n.2.1,n.2.2.1,mS.1,n.2.2.2.2),a.1.2),te.1,())) λ(a:fr)=>some (a.1,())) (ob (rB (j,0,())) λ(z2:r1)=>ob (qE (z2.1,())) λ(te:cz)=>ob (om (((c.1.1,o.1,o.2.1,b.1,b.2.1,p.1,p.2.1,g.1,g.2.1,g.2.2.1,mS.1,g.2.2.2.2),c.2),te.1,())) λ(a:fr)=>some (a.1,())))))))
def QO(x:gq×gq×Unit):Option (aX):=letI b:=some (false,());letI c:=x.2.1.2;ob (T (aj x.1.1 x.2.1.1) (T (aj x.1.2.1 c.1) (T (aj x.1.2.2.1 c.2.1) (T (aj x.1.2.2.2.1 c.2.2.1) (ob (CU (x.1.2.2.2.2.1,c.2.2.2.1,())) λ(a:aX)=>some (a.1,())) b) b) b) b) λ(a:aX)=>some (a.1,())
def Gb(x:gq×Unit):Option (aX):=ob (QO (x.1,mQ,())) λ(a:aX)=>some (a.1,())
def x3(x:gq×Int×Int×Unit):Option (aX):=letI b:=some (false,());ob (Gb (x.1,())) λ(a:aX)=>ob (T (bg a.1) (T (aj x.1.1 x.2.1) (some (aj x.1.2.1 x.2.2.1,())) b) b) λ(a:aX)=>some (a.1,())
def BE(x:uF):Option (uE):=ob (Jm (x.1.2.2.1,())) λ(a:aX)=>T a.1 (some (x.1,9,())) (some ((x.1.2.2.1,x.1.1,lP,16,x.1.2.2.2.2),0,()))
def N?(x:xZ):Option (bN):=ob (zd (x.1,())) λ(a:FU)=>ob (xk (a.1.1,())) λ(a:aX)=>ob (T (bg a.1) (some (true,())) (ob (x3 (x.1.1.2.2.2.2.2.2.2.2.2.2.2.1,x.2.1.2.1,x.2.1.2.2.1,())) λ(a:aX)=>some (bg a.1,()))) λ(a:aX)=>T a.1 (ob (k1 (x.1,13,())) λ(a:bN)=>some (a.1,())) (T (bg (aj x.2.1.2.2.2.1 0)) (ob (Jh (x.1,())) λ(a:bN)=>some (a.1,())) (ob (BA (x.1,())) λ(a:bN)=>ob (BE (a.1.1.2.2.2.2.2.2.2.2.2.2.1,())) λ(a?:uE)=>ob (BQ (((a.1.1.1,a.1.1.2.1,a.1.1.2.2.1,a.1.1.2.2.2.1,a.1.1.2.2.2.2.1,a.1.1.2.2.2.2.2.1,a.1.1.2.2.2.2.2.2.1,a.1.1.2.2.2.2.2.2.2.1,a.1.1.2.2.2.2.2.2.2.2.1,a.1.1.2.2.2.2.2.2.2.2.2.1,a?.1,a.1.1.2.2.2.2.2.2.2.2.2.2.2),a.1.2),(true,301,0,0,0,aR UInt8,aR UInt8,0,()),())) λ(a:bN)=>some (a.1,())))
def qi(x:Qk):Option (Fd):=letI a:=x.1.2.2.2.2.2;T (aj x.1.1 0) (some ([a.1,a.2.1],())) (T (aj x.1.1 1) (some ([a.2.1,a.1],())) (some ([0,0],())))
def s3(x:(V×Int×Int×Unit)×(V×Int×Int×Unit)×Unit):Option (aX):=letI b:=some (false,());ob (N3 (x.1.1,x.2.1.1,())) λ(a:aX)=>ob (T a.1 (T (aj x.1.2.1 x.2.1.2.1) (some (aj x.1.2.2.1 x.2.1.2.2.1,())) b) b) λ(a:aX)=>some (a.1,())
def C1(x:f8):Option (aX):=letI b:=some (true,());ob (T (aj x.1 3) b (T (aj x.1 4) b (some (aj x.1 5,())))) λ(a:aX)=>some (a.1,())
def o7(x:Xd):Option (aX):=ob (T (aj x.1.1 x.2.1.1) (ob (N3 (x.1.2.1,x.2.1.2.1,())) λ(a:aX)=>some (a.1,())) (some (false,()))) λ(a:aX)=>some (a.1,())
def tE(x:fq×fq×Unit):Option (aX):=letI b:=some (false,());letI c:=x.2.1.2;ob (o7 (x.1.1,x.2.1.1,())) λ(a:aX)=>ob (o7 (x.1.2.1,c.1,())) λ(a?:aX)=>ob (o7 (x.1.2.2.1,c.2.1,())) λ(ce:aX)=>ob (T a.1 (T a?.1 (T ce.1 (T (aj x.1.2.2.2.1 c.2.2.1) (some (aj x.1.2.2.2.2.1 c.2.2.2.1,())) b) b) b) b) λ(a:aX)=>some (a.1,())
def si(x:List V×List V×Unit):Option (aX):=letI c:=len x.1;T (bg (aj c (len x.2.1))) (some (false,())) (cb (bK (λ(Y:na)=>letI b:=Y.2.1;T (aH b c) (an (aN b c) (an (aN b (len x.2.1)) (T (bg (seq (ao x.1 (ae b) (aR UInt8)) (ao x.2.1 (ae b) (aR UInt8)))) (some (aF.rt (false,()))) (some (aF.nx (Y.1,i64 (aE b 1),())))))) (some (aF.ex 0 (Y.1,b,())))) (false,0,())) (λ(a:na)=>none) (λ(i:Nat) (a:na)=>an (bX i 0) (some (true,()))) λ(r:aX)=>some r)
def uY(x:(V×V×Unit)×(V×V×Unit)×Unit):Option (aX):=ob (N3 (x.1.1,x.2.1.1,())) λ(a:aX)=>ob (T a.1 (ob (N3 (x.1.2.1,x.2.1.2.1,())) λ(a:aX)=>some (a.1,())) (some (false,()))) λ(a:aX)=>some (a.1,())
def vn(x:gq×gq×Unit):Option (aX):=letI b:=some (false,());letI c:=x.2.1.2;ob (T (aj x.1.1 x.2.1.1) (T (aj x.1.2.1 c.1) (T (aj x.1.2.2.1 c.2.1) (T (aj x.1.2.2.2.1 c.2.2.1) (ob (N3 (x.1.2.2.2.2.1,c.2.2.2.1,())) λ(a:aX)=>some (a.1,())) b) b) b) b) λ(a:aX)=>some (a.1,())
def tc(x:ej×ej×Unit):Option (aX):=letI d:=some (true,());cb (bK (λ(Y:na)=>letI e:=Y.2.1;letI b:=aN e (bi 4);letI c:=ae e;T (aH e 4) (an b (an b (ob (s3 (ao x.1.2.1 c zG,ao x.2.1.2.1 c zG,())) λ(a:aX)=>ob (T (bg a.1) d (an b (an b (T (bg (z_ (ao x.1.1 c false) (ao x.2.1.1 c false))) d (an b (an b (some (bg (aj (ao x.1.2.2.1 c 0) (ao x.2.1.2.2.1 c 0)),())))))))) λ(a:aX)=>T a.1 (some (aF.rt (false,()))) (some (aF.nx (Y.1,i64 (aE e 1),())))))) (some (aF.ex 0 (Y.1,e,())))) (false,0,())) (λ(a:na)=>none) (λ(i:Nat) (a:na)=>an (bX i 0) (some (aj x.1.2.2.2.1 x.2.1.2.2.2.1,()))) λ(r:aX)=>some r
def xn(x:List (Int×V×Unit)×List (Int×V×Unit)×Unit):Option (aX):=letI c:=len x.1;letI d:=len x.2.1;letI g:=some (true,());T (bg (aj c d)) (some (false,())) (cb (bK (λ(Y:na)=>letI b:=Y.2.1;letI e:=ao x.2.1 (ae b) lP;letI f:=ao x.1 (ae b) lP;T (aH b c) (an (aN b c) (an (aN b d) (ob (T (bg (aj f.1 e.1)) g (an (aN b c) (an (aN b d) (ob (N3 (f.2.1,e.2.1,())) λ(a:aX)=>some (bg a.1,()))))) λ(a:aX)=>T a.1 (some (aF.rt (false,()))) (some (aF.nx (Y.1,i64 (aE b 1),())))))) (some (aF.ex 0 (Y.1,b,())))) (false,0,())) (λ(a:na)=>none) (λ(i:Nat) (a:na)=>an (bX i 0) g) λ(r:aX)=>some r)
def pt(x:List (Int×List Int×Int×V×Unit)×List (Int×List Int×Int×V×Unit)×Unit):Option (aX):=letI e:=some (true,());letI f:=x.2.1;letI g:=len x.1;letI h:=aN 0 (bi 2);letI j:=aN 1 (bi 2);T (bg (aj g (len f))) (some (false,())) (cb (bK (λ(Y:na)=>letI b:=Y.2.1;letI c:=aN b (len f);letI d:=aN b g;T (aH b g) (an d (an c (ob (T (bg (aj (ao x.1 (ae b) (0,[0,0],0,aR UInt8,())).1 (ao f (ae b) (0,[0,0],0,aR UInt8,())).1)) e (an d (an h (an c (an h (T (bg (aj (ao (ao x.1 (ae b) (0,[0,0],0,aR UInt8,())).2.1 (ae 0) 0) (ao (ao f (ae b) (0,[0,0],0,aR UInt8,())).2.1 (ae 0) 0))) e (an d (an j (an c (an j (T (bg (aj (ao (ao x.1 (ae b) (0,[0,0],0,aR UInt8,())).2.1 (ae 1) 0) (ao (ao f (ae b) (0,[0,0],0,aR UInt8,())).2.1 (ae 1) 0))) e (an d (an c (T (bg (aj (ao x.1 (ae b) (0,[0,0],0,aR UInt8,())).2.2.1 (ao f (ae b) (0,[0,0],0,aR UInt8,())).2.2.1)) e (an d (an c (ob (N3 ((ao x.1 (ae b) (0,[0,0],0,aR UInt8,())).2.2.2.1,(ao f (ae b) (0,[0,0],0,aR UInt8,())).2.2.2.1,())) λ(a:aX)=>some (bg a.1,())))))))))))))))))) λ(a:aX)=>T a.1 (some (aF.rt (false,()))) (some (aF.nx (Y.1,i64 (aE b 1),())))))) (some (aF.ex 0 (Y.1,b,())))) (false,0,())) (λ(a:na)=>none) (λ(i:Nat) (a:na)=>an (bX i 0) e) λ(r:aX)=>some r)
def vz(x:p_×p_×Unit):Option (aX):=letI g:=x.1.2.2.2.2;letI f:=x.2.1.2.2.2;letI b:=f.2.2.2.2.2;letI c:=g.2.2.2.2.2;letI d:=some (false,());letI e:=some (true,());letI h:=b.2.2.2.2.2;letI i:=c.2.2.2.2;ob (uY (x.1.2.2.2.1,f.1,())) λ(a:aX)=>ob (tE (c.2.1,b.2.2.1,())) λ(a?:aX)=>ob (vn (c.2.2.1,b.2.2.2.1,())) λ(ce:aX)=>ob (si (i.2.1,h.2.1,())) λ(bY:aX)=>ob (tc (i.2.2.1,h.2.2.1,())) λ(dB:aX)=>ob (xn (i.2.2.2.1,h.2.2.2.1,())) λ(jG:aX)=>ob (pt (i.2.2.2.2.1,h.2.2.2.2.1,())) λ(pu:aX)=>ob (T (bg a.1) e (T (bg a?.1) e (T (bg ce.1) e (T (bg bY.1) e (T (bg dB.1) e (T (bg jG.1) e (T (bg pu.1) e (ob (N3 (x.1.2.1,x.2.1.2.1,())) λ(a:aX)=>T (bg a.1) e (T (bg (c3 (aj c.1.1 b.2.1.1) (c3 (mT (λ(p q:UInt64)=>aj (cL p) (cL q)) c.1.2.1 b.2.1.2.1) true))) e (some (bg (mT (λ(p q:Int)=>aj p q) i.2.2.2.2.2.1 h.2.2.2.2.2.1),()))))))))))) λ(a:aX)=>T a.1 d (ob (T (aj x.1.1 x.2.1.1) (T (aj x.1.2.2.1 x.2.1.2.2.1) (T (aj g.1 f.2.1) (T (aj g.2.1 f.2.2.1) (T (aj g.2.2.1 f.2.2.2.1) (T (aj g.2.2.2.1 f.2.2.2.2.1) (T (aj g.2.2.2.2.1 b.1) (T (aj c.2.2.2.1 b.2.2.2.2.1) (some (aj i.1 h.1,())) d) d) d) d) d) d) d) d) λ(a:aX)=>some (a.1,()))
def Ao(x:eG×eG×Unit):Option (aX):=letI b:=(aR UInt8,aR UInt8,());letI c:=some (true,());letI e:=len x.1.2.1;letI f:=x.2.1.2.1;ob (T (bg (z_ x.1.1 x.2.1.1)) c (T (bg (z_ x.1.2.2.1 x.2.1.2.2.1)) c (some (bg (aj e (len f)),())))) λ(a:aX)=>T a.1 (some (false,())) (cb (bK (λ(Y:na)=>letI d:=Y.2.1;letI g:=ao x.1.2.1 (ae d) b;letI h:=ao f (ae d) b;letI j:=aN d (len f);T (aH d e) (an (aN d e) (an j (ob (N3 (g.1,h.1,())) λ(a:aX)=>ob (T (bg a.1) c (an (aN d e) (an j (ob (N3 (g.2.1,h.2.1,())) λ(a:aX)=>some (bg a.1,()))))) λ(a:aX)=>T a.1 (some (aF.rt (false,()))) (some (aF.nx (Y.1,i64 (aE d 1),())))))) (some (aF.ex 0 (Y.1,d,())))) (false,0,())) (λ(a:na)=>none) (λ(i:Nat) (a:na)=>an (bX i 0) c) λ(r:aX)=>some r)
def zm(x:J'):Option (J'):=letI a:=len x.1;an (c3 (b8 0 a a) (aj a a)) (some (sub x.1 0 a,()))
def A5(x:p_×Int×Unit):Option (Qk):=letI c:=x.1.2.2.2;letI e:=c.2.2.2.2;letI b:=e.2.2.2.2.2;letI d:=b.2.2.2;ob (vH (x.1.2.2.1,())) λ(a:aX)=>T a.1 (ob (zm (d.2.2.1,())) λ(a:J')=>ob (ol (x.1,())) λ(a?:Fd)=>an (ci 128 (bI (aV a.1) (aV [(5,a?.1,0,aR UInt8,())]))) (some ((x.1.1,x.1.2.1,x.2.1,c.1,c.2.1,0,0,e.1,0,(0,Cn,()),FA,mQ,b.1,b.2.1,aR V,d.1,d.2.1,cg a.1 [(5,a?.1,0,aR UInt8,())],d.2.2.2),()))) (some ((x.1.1,x.1.2.1,x.2.1,c.1,c.2.1,0,0,e.1,0,(0,Cn,()),FA,mQ,b.1,b.2.1,aR V,d),()))
def E5(x:bN):Option (bN):=T (aj x.1.1.2.2.1 8) (some (x.1,())) (ob (A5 (x.1.1,8,())) λ(a:Qk)=>some (((a.1.1,a.1.2.1,a.1.2.2.1,a.1.2.2.2.1, -1,0,0,0,0,(0,Cn,()),FA,mQ,0,0,aR V,X9,aR (Int×V×Unit),a.1.2.2.2.2.2.2.2.2.2.2.2.2.2.2.2.2.2.1,[0,0,0,0],()),x.1.2),()))
def JN(x:f8):Option (cz):=ob (T (aH x.1 1) (some (true,())) (some (aH 4611686018427387904 x.1,()))) λ(a:aX)=>T a.1 (some (aR UInt8,1,())) (ob (ql (x.1,8,())) λ(a:cz)=>an (ci 1 (bI (aV [u8 121,u8 101,u8 116,u8 116]) (aV a.1))) (ob (JA (cg [u8 121,u8 101,u8 116,u8 116] a.1,())) λ(a?:g?)=>letI b:=cut a?.1 (ae 0) (cc (ae 8) (ae 0));an (b8 0 8 (len a?.1)) (an (ci 1 (bI (aV a.1) (aV b))) (some (cg a.1 b,0,())))))
def JM(x:g?):Option (Fm):=ob (lZ (x.1,0,8,())) λ(a:JU)=>T (bg (aj a.2.2.1 0)) (some (0,false,())) (ob (JN (a.1,())) λ(a?:cz)=>ob (T (bg (aj a?.2.1 0)) (some (true,())) (ob (CU (a?.1,x.1,())) λ(a:aX)=>some (bg a.1,()))) λ(ce:aX)=>T ce.1 (some (0,false,())) (some (a.1,true,())))
def WM(x:Int×Int×Bool×Bool×Unit):Option (Fm):=ob (T x.2.2.2.1 (T (bg x.2.2.1) (some (true,())) (some (aH x.1 x.2.1,()))) (some (false,()))) λ(a:aX)=>T a.1 (some (1,true,())) (some (0,x.2.2.1,()))
def JL(x:W5):Option (W6):=ob (JM (x.1.1,())) λ(a:Fm)=>ob (JM (x.1.2.1,())) λ(a?:Fm)=>ob (WM (a.1,a?.1,a.2.1,a?.2.1,())) λ(ce:Fm)=>ob (T (aj ce.1 1) (some (a?.1,())) (some (a.1,()))) λ(a:f8)=>some (a.1,ce.1,ce.2.1,())
def E_(x:W8):Option (g?):=letI c:=aR UInt8;letI d:=len x.1;cb (bK (λ(Y:da)=>letI j:=Y.2.1;letI e:=aE Y.1 (len (ao x.1 (ae j) c));T (aH j d) (an (aN j d) (T (aH (i64 e) 0) none (some (aF.nx (i64 e,i64 (aE j 1),()))))) (some (aF.ex 0 (Y.1,j,())))) (0,0,())) (λ(a:da)=>none) (λ(i:Nat) (a:da)=>letI b:=i64 (bq a.1 (i64 (bq 0 0)));letI h:=bR (ae b) (u8 0);an (bX i 0) (T (aH a.1 0) none (T (aH 0 b) (an (b8 0 0 0) (an (c3 (b3 0 b) (ci 1 (ae b))) (an (b8 0 0 (len h)) (cb (bK (λ(Y:cz)=>letI k:=Y.2.1;letI f:=ao x.1 (ae k) c;T (aH k d) (an (aN k d) (an (ci 1 (bI (aV Y.1) (aV f))) (some (aF.nx (cg Y.1 f,i64 (aE k 1),()))))) (some (aF.ex 2 (Y.1,k,())))) (cut h (ae 0) (cc (ae 0) (ae 0)),0,())) (λ(a:cz)=>none) (λ(i:Nat) (a:cz)=>an (bX i 2) (some (a.1,()))) λ(r:g?)=>some r)))) (cb (bK (λ(Y:cz)=>letI l:=Y.2.1;letI g:=ao x.1 (ae l) c;T (aH l d) (an (aN l d) (an (ci 1 (bI (aV Y.1) (aV g))) (some (aF.nx (cg Y.1 g,i64 (aE l 1),()))))) (some (aF.ex 2 (Y.1,l,())))) (aR UInt8,0,())) (λ(a:cz)=>none) (λ(i:Nat) (a:cz)=>an (bX i 2) (some (a.1,()))) λ(r:g?)=>some r)))) λ(r:g?)=>some r
def O4(x:(V×V×Unit)×Int×Unit):Option (Xh):=letI b:=x.1.2;letI e:=len x.1.1;letI f:=len b.1;ob (JL (x.1,())) λ(a:W6)=>T (bg a.2.2.1) (some (x.1,0,12,())) (ob (JN (i64 (aE a.1 1),())) λ(a?:cz)=>T (bg (aj a?.2.1 0)) (some (x.1,0,10,())) (ob (T (b3 0 x.2.1) (some (aH x.2.1 16,())) (some (false,()))) λ(ce:aX)=>ob (T (bg ce.1) (some (16,())) (some (x.2.1,()))) λ(bY:f8)=>letI c:=b8 0 bY.1 (len a?.1);letI d:=cc (ae bY.1) (ae 0);T (aj a.2.1 0) (an c (an (b8 bY.1 f f) (ob (E_ ([cut a?.1 (ae 0) d,sub b.1 bY.1 f],())) λ(dB:g?)=>T ce.1 (some ((x.1.1,dB.1,b.2),0,11,())) (some ((x.1.1,dB.1,b.2),a.1,0,()))))) (an c (an (b8 bY.1 e e) (ob (E_ ([cut a?.1 (ae 0) d,sub x.1.1 bY.1 e],())) λ(dB:g?)=>T ce.1 (some ((dB.1,b),0,11,())) (some ((dB.1,b),a.1,0,())))))))
def JE(x:bN):Option (KN):=letI b:=x.1.1.2;letI d:=b.2.2.2;ob (O4 (b.2.2.1,d.1,())) λ(a:Xh)=>letI c:=a.2.2.1;T (aj c 0) (some (((x.1.1.1,b.1,b.2.1,a.1, -1,d.2),x.1.2),a.2.1,c,())) (T (aj c 11) (ob (E5 (((x.1.1.1,b.1,b.2.1,a.1,d),x.1.2),())) λ(a?:bN)=>some (a?.1,a.2.1,c,())) (some (((x.1.1.1,b.1,b.2.1,a.1,d),x.1.2),a.2.1,c,())))
def ud(x:fr):Option (bN):=ob (A5 (x.1.1,x.2.1,())) λ(a:Qk)=>some ((a.1,x.1.2),())
def E6(x:fr):Option (bN):=ob (BQ (x.1,(true,x.2.1,0,0,0,aR UInt8,aR UInt8,0,()),())) λ(a:bN)=>some (a.1,())
def JD(x:bN):Option (fr):=ob (T (aj x.1.1.2.2.1 7) (some (true,())) (some (aj x.1.1.2.2.1 8,()))) λ(a:aX)=>T a.1 (some (x.1,11,())) (ob (JE (x.1,())) λ(a:KN)=>T (bg (aj a.2.2.1 0)) (some (a.1,a.2.2.1,())) (ob (ud (a.1,1,())) λ(a?:bN)=>ob (E6 (((a?.1.1.1,a?.1.1.2.1,a?.1.1.2.2.1,a?.1.1.2.2.2.1,a?.1.1.2.2.2.2.1,a.2.1,a?.1.1.2.2.2.2.2.2),a?.1.2),1,())) λ(a:bN)=>some (a.1,0,())))
def OS(x:bN):Option (fr):=letI c:=x.1.1.2.2;letI b:=c.2.2.2.2;letI d:=b.2.2.2.2;ob (rH (c.1,4,())) λ(a:Fm)=>T (aj c.1 6) (some (x.1,9,())) (T (bg a.2.1) (some (x.1,7,())) (T (aj a.1 0) (ob (ud (x.1,a.1,())) λ(a:bN)=>some (a.1,0,())) (ob (Jl (d.1,())) λ(a?:uF)=>ob (E6 (((x.1.1.1,x.1.1.2.1,a.1,c.2.1,c.2.2.1,c.2.2.2.1,b.1,b.2.1,b.2.2.1,b.2.2.2.1,a?.1,d.2.1,d.2.2.1,d.2.2.2.1,aR V,d.2.2.2.2.2),x.1.2),2,())) λ(a:bN)=>some (a.1,0,()))))
def OO(x:bN):Option (fr):=ob (y7 (x.1.1.2.2.1,())) λ(a:aX)=>T (bg a.1) (some (x.1,7,())) (T (bg (aj x.1.1.2.2.2.2.2.2.2.2.2.2.2.1.1 0)) (some (x.1,9,())) (ob (E6 (x.1,301,())) λ(a:bN)=>some (a.1,0,())))
def uf(x:fr):Option (bN):=ob (rH (x.1.1.2.2.1,x.2.1,())) λ(a:Fm)=>some (((x.1.1.1,x.1.1.2.1,a.1,x.1.1.2.2.2),x.1.2),())
def ON(x:bN):Option (bN):=ob (JL (x.1.1.2.2.2.1,())) λ(a:W6)=>T a.2.2.1 (ob (uf (x.1,11,())) λ(a:bN)=>some (a.1,())) (ob (uf (x.1,12,())) λ(a:bN)=>some (a.1,()))
def JF(x:fr):Option (bN):=letI e:=x.1.1;letI c:=e.2.2.2;letI b:=c.2.2.2.2.2;letI d:=b.2.2.2.2.2;ob (zm (d.2.2.2.2.1,())) λ(a:J')=>ob (ol (e,())) λ(a?:Fd)=>an (ci 128 (bI (aV a.1) (aV [(x.2.1,a?.1,0,aR UInt8,())]))) (some (((e.1,e.2.1,e.2.2.1,c.1,c.2.1,c.2.2.1,c.2.2.2.1,c.2.2.2.2.1,b.1,b.2.1,b.2.2.1,b.2.2.2.1,b.2.2.2.2.1,d.1,d.2.1,d.2.2.1,d.2.2.2.1,cg a.1 [(x.2.1,a?.1,0,aR UInt8,())],d.2.2.2.2.2),x.1.2),()))
def OP(x:bN):Option (bN):=T (bg (aj x.1.1.2.2.1 2)) (some (x.1,())) (ob (uf (x.1,3,())) λ(a:bN)=>ob (JF (a.1,4,())) λ(a:bN)=>some (a.1,()))
def OQ(x:bN):Option (bN):=letI b:=x.1.1.2.2.1;letI c:=some (x.1,());T (aj b 1) (T (aj b 1) (ob (ud (x.1,0,())) λ(a:bN)=>some (a.1,())) c) (T (aj b 3) (T (aj b 3) (ob (ud (x.1,0,())) λ(a:bN)=>some (a.1,())) c) (T (aj b 6) (ob (ud (x.1,0,())) λ(a:bN)=>some (a.1,())) c))
def JG(x:xZ):Option (bN):=ob (rB (x.2.1,0,())) λ(a:r1)=>ob (qE (a.1,())) λ(a:cz)=>ob (om (x.1,a.1,())) λ(a:fr)=>some (a.1,())
def ue(x:bN):Option (bN):=ob (k1 (x.1,13,())) λ(a:bN)=>some (a.1,())
def OR(x:xZ):Option (bN):=letI f:=x.1.1.2;letI d:=x.2.1;letI b:=f.2.2.2.2;letI g:=b.2.2.2;letI c:=x3 (g.2.2.2.1,d.2.1,d.2.2.1,());letI e:=ue (x.1,());letI h:=JG (x.1,d,());T (aj d.2.1 301) (T d.1 (ob h λ(a:bN)=>some (a.1,())) (ob c λ(a:aX)=>T a.1 (some (((x.1.1.1,f.1,f.2.1,f.2.2.1,f.2.2.2.1,b.1,b.2.1,b.2.2.1,g.1,g.2.1,g.2.2.1,mQ,g.2.2.2.2),x.1.2),())) (ob e λ(a:bN)=>some (a.1,())))) (T (aj d.2.1 2) (T d.1 (ob h λ(a:bN)=>ob (ud (a.1,0,())) λ(a:bN)=>some (a.1,())) (ob c λ(a:aX)=>T a.1 (ob (ud (x.1,0,())) λ(a:bN)=>some (a.1,())) (ob e λ(a:bN)=>some (a.1,())))) (ob e λ(a:bN)=>some (a.1,())))
def JI(x:fb×de×Int×Unit):Option (bN):=ob (rB (x.2.1,0,())) λ(a:r1)=>ob (qE (a.1,())) λ(a:cz)=>ob (D5 (x.1,x.2.2.1,a.1,())) λ(a:fr)=>some (a.1,())
def Og(x:g?):Option (uE):=T (bg (aj (len x.1) 32)) (some (FA,1,())) (some (((1,x.1,()),lP,lP,0,1,()),0,()))
def E8(x:KN):Option (bN):=letI d:=x.1.1.2;letI b:=d.2.2;letI c:=b.2.2.2.2;letI e:=x.2.2.1;ob (ol ((x.1.1.1,d.1,d.2.1,b.1,b.2.1,x.2.1,e,c6 c.1 e,c.2),())) λ(a:Fd)=>ob (A4 (d.1,a.1,1,aR UInt8,())) λ(a:g?)=>ob (Og (a.1,())) λ(a:uE)=>some (((x.1.1.1,d.1,d.2.1,b.1,b.2.1,x.2.1,e,c6 c.1 e,c.2.1,c.2.2.1,a.1,c.2.2.2.2),x.1.2),())
def OV(x:fb×de×Int×Unit):Option (bN):=letI e:=some (true,());letI c:=x.1.1.2.2;letI b:=T (aj c.1 7) e (some (aj c.1 8,()));letI d:=x.2.2.1;letI f:=ue (x.1,());ob (T (aj c.1 1) (T (aj x.1.1.1 0) e b) b) λ(a:aX)=>T a.1 (ob f λ(a:bN)=>some (a.1,())) (ob (vH (c.1,())) λ(a:aX)=>ob (T a.1 (some (aj c.2.2.2.2.1 d,())) (some (false,()))) λ(a:aX)=>T a.1 (ob (JI (x.1,x.2.1,d,())) λ(a:bN)=>some (a.1,())) (T (b3 d c.2.2.2.2.2.1) (ob f λ(a:bN)=>some (a.1,())) (ob (JE (x.1,())) λ(a:KN)=>T (aj a.2.2.1 0) (ob (ud (a.1,2,())) λ(a?:bN)=>ob (E8 (a?.1,a.2.1,d,())) λ(a:bN)=>ob (JI (a.1,x.2.1,d,())) λ(a:bN)=>some (a.1,())) (T (aj a.2.2.1 11) (some (a.1,())) (ob (ue (a.1,())) λ(a:bN)=>some (a.1,()))))))
def OU(x:fr):Option (bN):=ob (E8 (x.1,x.1.1.2.2.2.2.2.1,x.2.1,())) λ(a:bN)=>ob (uf (a.1,1,())) λ(a:bN)=>letI d:=a.1.1.2;letI b:=d.2.2.2;letI c:=b.2.2.2;ob (JF (((a.1.1.1,d.1,d.2.1,d.2.2.1,b.1,b.2.1,b.2.2.1,c.1,c.2.1,c.2.2.1,c.2.2.2.1,mQ,c.2.2.2.2.2),a.1.2),4,())) λ(a:bN)=>ob (E6 (a.1,301,())) λ(a:bN)=>some (a.1,())
def JC(x:fb×c9×de×Unit):Option (bN):=letI f:=x.1.1;letI b:=some (false,());letI c:=i64 (bq 1 f.1);letI d:=x.2.1.2.2.1;letI e:=x.2.2.1;letI g:=ao d (ae f.1) 0;letI h:=ue (x.1,());an (aN c (bi 2)) (an (aN f.1 (bi 2)) (ob (T (bg (aj e.2.1 1)) (some (true,())) (some (aH (ao d (ae c) 0) 1,()))) λ(a:aX)=>T a.1 (ob h λ(a:bN)=>some (a.1,())) (ob (T e.1 (some (aj g 0,())) b) λ(a:aX)=>T a.1 (ob (OV (x.1,e,ao d (ae c) 0,())) λ(a:bN)=>some (a.1,())) (ob (T (bg e.1) (T (aj e.2.2.2.1 0) (T (aj f.2.2.1 1) (T (aj g f.2.2.2.2.2.1) (ob (x3 (f.2.2.2.2.2.2.2.2.2.2.2.1,e.2.1,e.2.2.1,())) λ(a:aX)=>some (a.1,())) b) b) b) b) λ(a:aX)=>T a.1 (ob (OU (x.1,ao d (ae c) 0,())) λ(a:bN)=>some (a.1,())) (ob h λ(a:bN)=>some (a.1,()))))))
def GY(x:dj):Option (aX):=letI b:=some (false,());letI c:=some (true,());ob (H3 (x.1.1,())) λ(a:f8)=>T (aj a.1 1) (T (aj a.1 1) c b) (T (aj a.1 2) (T (aj a.1 2) c b) (T (aj a.1 4) c b))
def Do(x:dj):Option (aX):=ob (rq (x.1,39,())) λ(a:Fp)=>ob (T a.2.1 (some (seq a.1 [57,49],())) (some (false,()))) λ(a:aX)=>some (a.1,())
def Mh(x:cz):Option (cz):=letI b:=some (true,());ob (DY (x.1,())) λ(a:dH)=>ob (T (aH x.2.1 0) b (T (aH 999999 x.2.1) b (T (bg (aj a.2.1 0)) b (ob (GY (a.1,())) λ(a?:aX)=>T (bg a?.1) b (ob (Do (a.1,())) λ(a:aX)=>some (a.1,())))))) λ(a?:aX)=>T a?.1 (some (aR UInt8,1,())) (ob (sa (x.2.1,6,())) λ(ce:cz)=>an (ci 1 (aV ce.1)) (ob (kw (a.1,15,ce.1,())) λ(a:dH)=>ob (AZ (a.1,())) λ(a:cz)=>T (aH 900 (len a.1)) (some (aR UInt8,4,())) (some (a.1,0,()))))
def NX(x:W8):Option (V×List V×Bool×Unit):=letI b:=len x.1;T (aj b 0) (some (aR UInt8,x.1,false,())) (an (aN 0 b) (an (b8 1 b b) (ob (aio (sub x.1 1 b,())) λ(a:W8)=>some (ao x.1 (ae 0) (aR UInt8),a.1,true,()))))
def kS(x:bN):Option (bN):=cb (bK (λ(x:bN)=>letI b:=some (aF.ex 0 (x.1,()));ob (NX (x.1.1.2.2.2.2.2.2.2.2.2.2.2.2.2.2.1,())) λ(a:V×List V×Bool×Unit)=>T (bg a.2.2.1) b (ob (om (x.1,a.1,())) λ(a?:fr)=>T (bg (aj a?.2.1 0)) b (some (aF.nx (((a?.1.1.1,a?.1.1.2.1,a?.1.1.2.2.1,a?.1.1.2.2.2.1,a?.1.1.2.2.2.2.1,a?.1.1.2.2.2.2.2.1,a?.1.1.2.2.2.2.2.2.1,a?.1.1.2.2.2.2.2.2.2.1,a?.1.1.2.2.2.2.2.2.2.2.1,a?.1.1.2.2.2.2.2.2.2.2.2.1,a?.1.1.2.2.2.2.2.2.2.2.2.2.1,a?.1.1.2.2.2.2.2.2.2.2.2.2.2.1,a?.1.1.2.2.2.2.2.2.2.2.2.2.2.2.1,a?.1.1.2.2.2.2.2.2.2.2.2.2.2.2.2.1,a.2.1,a?.1.1.2.2.2.2.2.2.2.2.2.2.2.2.2.2.2),a?.1.2),()))))) (x.1,())) (λ(a:bN)=>none) (λ(i:Nat) (a:bN)=>an (bX i 0) (some (a.1,()))) λ(r:bN)=>some r
def NW(x:List V×V×Int×Unit):Option (List V×Int×Unit):=ob (I_ (x.1,[x.2.1],x.2.2.1,())) λ(a:List V×Int×Int×Unit)=>ob (T (aj a.2.2.1 0) (some (aj a.2.1 0,())) (some (false,()))) λ(a?:aX)=>T a?.1 (some (x.1,8,())) (some (a.1,a.2.2.1,()))
def GX(x:fb×Int×Int×V×Unit):Option (bN):=letI e:=x.1.1;letI c:=e.2.2.2;letI b:=c.2.2.2.2.2;letI d:=b.2.2.2.2.2;ob (zm (d.2.2.2.2.1,())) λ(a:J')=>ob (ol (e,())) λ(a?:Fd)=>an (ci 128 (bI (aV a.1) (aV [(x.2.1,a?.1,x.2.2.1,x.2.2.2.1,())]))) (some (((e.1,e.2.1,e.2.2.1,c.1,c.2.1,c.2.2.1,c.2.2.2.1,c.2.2.2.2.1,b.1,b.2.1,b.2.2.1,b.2.2.2.1,b.2.2.2.2.1,d.1,d.2.1,d.2.2.1,d.2.2.2.1,cg a.1 [(x.2.1,a?.1,x.2.2.1,x.2.2.2.1,())],d.2.2.2.2.2),x.1.2),()))
def Mi(x:CD):Option (fr):=letI c:=x.1.1.2.2;letI b:=c.2.2.2.2.2;letI d:=b.2.2.2.2;ob (Mh (x.2.1,d.2.2.1,())) λ(a:cz)=>T (bg (aj a.2.1 0)) (some (x.1,a.2.1,())) (ob (y7 (c.1,())) λ(a?:aX)=>T (bg a?.1) (some (x.1,7,())) (ob (NW (d.2.2.2.1,a.1,8,())) λ(ce:List V×Int×Unit)=>T (bg (aj ce.2.1 0)) (some (x.1,ce.2.1,())) (ob (GX (((x.1.1.1,x.1.1.2.1,c.1,c.2.1,c.2.2.1,c.2.2.2.1,c.2.2.2.2.1,b.1,b.2.1,b.2.2.1,b.2.2.2.1,d.1,d.2.1,d.2.2.1,ce.1,d.2.2.2.2),x.1.2),1,0,a.1,())) λ(a:bN)=>ob (kS (a.1,())) λ(a:bN)=>some (a.1,0,()))))
def Mf(x:fr):Option (fr):=letI b:=x.1.1.2.2;letI c:=b.2.2.2.2.2.2.2.2.2;letI d:=some (true,());ob (T (b3 x.2.1 c.2.2.1) d (some (aH 999999 x.2.1,()))) λ(a:aX)=>T a.1 (some (x.1,1,())) (ob (y7 (b.1,())) λ(a:aX)=>T (bg a.1) (some (x.1,7,())) (ob (T (bg (aj b.1 3)) d (some (bg (aj c.1.1 0),()))) λ(a:aX)=>T a.1 (some (x.1,9,())) (ob (rH (b.1,7,())) λ(a:Fm)=>ob (BQ (((x.1.1.1,x.1.1.2.1,a.1,b.2),x.1.2),(true,201,0,0,0,aR UInt8,aR UInt8,x.2.1,()),())) λ(a:bN)=>some (a.1,0,()))))
def Dn(x:bN):Option (bN):=letI d:=x.1.1.2;letI b:=d.2.2.2;letI c:=b.2.2.2;ob (rH (d.2.1,8,())) λ(a:Fm)=>some (((x.1.1.1,d.1,a.1,d.2.2.1,b.1,b.2.1,b.2.2.1,c.1,c.2.1,c.2.2.1,c.2.2.2.1,mQ,c.2.2.2.2.2),x.1.2),())
def Mg(x:bN):Option (bN):=T (bg (aj x.1.1.2.2.1 5)) (some (x.1,())) (ob (Dn (x.1,())) λ(a:bN)=>some (a.1,()))
def SQ(x:xZ):Option (bN):=letI c:=x.1.1.2.2;letI b:=c.2.2.2.2;letI d:=b.2.2.2.2;ob (rB (x.2.1,0,())) λ(a:r1)=>ob (qE (a.1,())) λ(a:cz)=>ob (om (((x.1.1.1,x.1.1.2.1,c.1,c.2.1,c.2.2.1,c.2.2.2.1,b.1,b.2.1,b.2.2.1,b.2.2.2.1,d.1,d.2.1,d.2.2.1,c6 d.2.2.2.1 x.2.1.2.2.2.2.2.2.2.1,d.2.2.2.2),x.1.2),a.1,())) λ(a:fr)=>some (a.1,())
def Me(x:xZ):Option (bN):=letI c:=x.1.1.2.2;letI b:=c.2.2.2.2.2;letI d:=b.2.2.2.2;ob (T (bg (aj c.1 5)) (some (true,())) (ob (x3 (d.1,x.2.1.2.1,x.2.1.2.2.1,())) λ(a:aX)=>some (bg a.1,()))) λ(a:aX)=>T a.1 (ob (k1 (x.1,13,())) λ(a:bN)=>some (a.1,())) (ob (Ek (d.1.2.2.2.2.1,())) λ(a:r1)=>T (aj x.2.1.2.2.2.1 0) (ob (Dn (((x.1.1.1,x.1.1.2.1,c.1,c.2.1,c.2.2.1,c.2.2.2.1,c.2.2.2.2.1,b.1,b.2.1,b.2.2.1,b.2.2.2.1,d.1,d.2.1,c6 d.2.2.1 a.1.2.2.2.2.2.2.2.1,d.2.2.2),x.1.2),())) λ(a:bN)=>some (a.1,())) (ob (Dn (x.1,())) λ(a:bN)=>some (a.1,())))
def ST(x:W_):Option (f8):=T x.1 (some (x.2.1,())) (some (x.2.2.1,()))
def Mk(x:dj):Option (aX):=letI b:=fR (i64 (gd x.1.1 10)) 10;letI c:=Do (x.1,());ob (T (aj b 1) (ob c λ(a:aX)=>some (a.1,())) (T (aj b 3) (ob c λ(a:aX)=>some (a.1,())) (some (false,())))) λ(a:aX)=>some (a.1,())
def Mj(x:fb×(Int×List (Int×V×Unit)×Unit)×Unit):Option (bN):=ob (M0 (x.2.1.1,())) λ(a:Fm)=>T (bg a.2.1) (ob (k1 (x.1,13,())) λ(a:bN)=>some (a.1,())) (ob (kw ((a.1,aR (Int×V×Unit),()),39,[u8 57,u8 49],())) λ(a:dH)=>ob (rq (x.2.1,11,())) λ(a?:Fp)=>T a?.2.1 (ob (kw (a.1,11,a?.1,())) λ(a:dH)=>ob (AZ (a.1,())) λ(a:cz)=>ob (om (x.1,a.1,())) λ(a:fr)=>some (a.1,())) (ob (AZ (a.1,())) λ(a:cz)=>ob (om (x.1,a.1,())) λ(a:fr)=>some (a.1,())))
def GW(x:fb×c9×(Int×List (Int×V×Unit)×Unit)×Unit):Option (bN):=ob (GY (x.2.2.1,())) λ(a:aX)=>T (bg a.1) (ob (k1 (x.1,13,())) λ(a:bN)=>some (a.1,())) (ob (y7 (x.1.1.2.2.1,())) λ(a:aX)=>T a.1 (ob (Mk (x.2.2.1,())) λ(a:aX)=>ob (ST (a.1,3,2,())) λ(a:f8)=>ob (GX (x.1,a.1,x.2.1.2.2.2.2.1,x.2.1.2.2.2.2.2.1,())) λ(a:bN)=>some (a.1,())) (T (aj x.1.1.2.2.1 6) (ob (Mj (x.1,x.2.2.1,())) λ(a:bN)=>some (a.1,())) (ob (k1 (x.1,13,())) λ(a:bN)=>some (a.1,()))))
def NU(x:dj):Option (aX):=letI b:=some (true,());ob (Bv (x.1.1,())) λ(a:f8)=>ob (T (aj a.1 1) b (T (aj a.1 2) b (some (aj a.1 4,())))) λ(a:aX)=>some (a.1,())
def OJ(x:dj):Option (aX):=ob (Np (x.1,39,())) λ(a:Fp)=>ob (T a.2.1 (some (seq a.1 [57,49],())) (some (false,()))) λ(a:aX)=>some (a.1,())
def r2(x:cz):Option (cz):=letI b:=some (true,());ob (YX (x.1,())) λ(a:dH)=>ob (NU (a.1,())) λ(a?:aX)=>ob (OJ (a.1,())) λ(ce:aX)=>ob (T (aH x.2.1 0) b (T (aH 999999 x.2.1) b (T (bg (aj a.2.1 0)) b (T (bg a?.1) b (some (ce.1,())))))) λ(bY:aX)=>T bY.1 (some (aR UInt8,1,())) (ob (xj (x.2.1,6,())) λ(dB:cz)=>an (ci 1 (aV dB.1)) (ob (BH (a.1,15,dB.1,())) λ(a:dH)=>ob (EO (a.1,())) λ(a:cz)=>T (aH 900 (len a.1)) (some (aR UInt8,4,())) (some (a.1,0,()))))
end Yp
namespace Yp
open Go
abbrev d7:=List p_×eG×List (Int×Int×V×Unit)×List (Int×Int×V×Unit)×List (List (Int×List Int×Int×V×Unit))×Unit
def nO(x:V×Unit):Option (V×Unit):=an (ci 1 (aV x.1)) (some (x.1,()))
def JK(x:List (Int×Int×V×Unit)×Unit):Option (List (Int×Int×V×Unit)×Unit):=an (ci 80 (aV x.1)) (some (x.1,()))
end Yp
namespace Yp
abbrev mf:=Int×(d7×Unit)×Unit
abbrev s1:=(d7×Unit)×Int×Unit
abbrev pW:=(d7×Unit)×Unit
abbrev xC:=(d7×Unit)×gq×Unit
abbrev Fs:=(d7×Unit)×fb×Unit
abbrev XQ:=Int×Int×d7×Unit
abbrev PA:=d7×Int×Unit
abbrev Kg:=d7×Unit
end Yp
namespace Yp
open Go
def LV(x:g?):Option (c9×Int×Unit):=letI f:=len x.1;letI a:=i64 (bq f 16);letI h:=nO (sub x.1 30 a,());letI i:=nO (sub x.1 a f,());letI j:=aN 0 (bi 1);letI k:=aN (i64 (aE 0 1)) (bi 2);letI m:=b8 30 a f;letI n:=aN 0 (bi 2);letI o:=b8 a f f;letI v:=aN 1 (bi 2);T (aH f 47) (some (oG,3,())) <| T (aH 946 f) (some (oG,4,())) <| an n <| ob (lZ (x.1,0,1,())) λa0=>letI u:=c6 0 a0.2.1;an k <| ob (lZ (x.1,u,1,())) λcN=>letI b:=c6 (u) cN.2.1;T (aj a0.2.2.1 0) (an n <| an v <| an n <| ob (lZ (x.1,b,8,())) λcX=>letI g:=c6 (b) cX.2.1;T (aj cN.2.2.1 0) (an k <| ob (lZ (x.1,g,8,())) λa3=>letI l:=c6 (g) a3.2.1;T (aj cX.2.2.1 0) (an j <| ob (lZ (x.1,l,4,())) λa4=>letI r:=c6 (l) a4.2.1;T (aj a3.2.2.1 0) (an j <| ob (lZ (x.1,r,8,())) λa5=>T (aj a4.2.2.1 0) (an m <| ob h λc=>an o <| ob i λd=>ob (T (bg (aj a5.2.2.1 0)) (some (true,())) (ob (Db ((a0.1,cN.1,cn (cn [0,0] (ae 0) cX.1) (ae 1) a3.1,a4.1,a5.1,c.1,d.1,()),())) λe=>some (bg e.1,()))) λp=>T p.1 (some (oG,2,())) (some ((a0.1,cN.1,cn (cn [0,0] (ae 0) cX.1) (ae 1) a3.1,a4.1,a5.1,c.1,d.1,()),0,()))) (an m <| ob h λc=>an o <| ob i λd=>some (oG,2,()))) (an j <| ob (lZ (x.1,r,8,())) λa5=>an m <| ob h λc=>an o <| ob i λd=>some (oG,2,()))) (an j <| ob (lZ (x.1,l,4,())) λa4=>an j <| ob (lZ (x.1,(c6 (l) a4.2.1),8,())) λa5=>an m <| ob h λc=>an o <| ob i λd=>some (oG,2,()))) (an k <| ob (lZ (x.1,g,8,())) λa3=>letI s:=c6 (g) a3.2.1;an j <| ob (lZ (x.1,s,4,())) λa4=>an j <| ob (lZ (x.1,(c6 (s) a4.2.1),8,())) λa5=>an m <| ob h λc=>an o <| ob i λd=>some (oG,2,()))) (an n <| an v <| an n <| ob (lZ (x.1,b,8,())) λcX=>letI q:=c6 (b) cX.2.1;an k <| ob (lZ (x.1,q,8,())) λa3=>letI t:=c6 (q) a3.2.1;an j <| ob (lZ (x.1,t,4,())) λa4=>an j <| ob (lZ (x.1,(c6 (t) a4.2.1),8,())) λa5=>an m <| ob h λc=>an o <| ob i λd=>some (oG,2,()))
def O3(x:Unit):Option (W5):=ob (JN (1,())) λ(a:cz)=>an (c3 (b8 0 16 16) (ci 1 (ae 16))) (some ((a.1,bR (ae 16) (u8 0),()),()))
def Sn(x:zs):Option (p_×Int×Unit):=letI b:=some (true,());ob (T (aH x.1 0) b (T (aH 1 x.1) b (some (bg (aj (len x.2.1) 32),())))) λ(a:aX)=>T a.1 (some (pi,1,())) (ob (O3 ()) λ(a:W5)=>some ((x.1,x.2.1,0,a.1, -1,0,0,0,0,(0,Cn,()),FA,mQ,0,0,aR V,X9,aR (Int×V×Unit),aR (Int×List Int×Int×V×Unit),[0,0,0,0],()),0,()))
def agl(x:aX):Option (eG×Unit):=some ((x.1,aR (V×V×Unit),false,()),())
def zD(x:Fp):Option (PA):=cb (bK (λ(Y:XQ)=>letI b:=Y.2.1;T (aH b 2) (ob (Sn (b,x.1,())) λ(a:p_×Int×Unit)=>T (bg (aj a.2.1 0)) (some (aF.rt (([pi,pi],(false,aR (V×V×Unit),false,()),aR (Int×Int×V×Unit),aR (Int×Int×V×Unit),[aR (Int×List Int×Int×V×Unit),aR (Int×List Int×Int×V×Unit)],()),a.2.1,()))) (an (aN b (bi 2)) (some (aF.nx (Y.1,i64 (aE b 1),(cn Y.2.2.1.1 (ae b) a.1,Y.2.2.1.2),()))))) (some (aF.ex 0 (Y.1,b,Y.2.2.1,())))) (0,0,([pi,pi],(false,aR (V×V×Unit),false,()),aR (Int×Int×V×Unit),aR (Int×Int×V×Unit),[aR (Int×List Int×Int×V×Unit),aR (Int×List Int×Int×V×Unit)],()),())) (λ(a:XQ)=>none) (λ(i:Nat) (a:XQ)=>an (bX i 0) (ob (agl (x.2.1,())) λ(a?:eG×Unit)=>some ((a.2.2.1.1,a?.1,a.2.2.1.2.2),0,()))) λ(r:PA)=>some r
def rT(x:da):Option (aX):=ob (T (b3 0 x.1) (some (aH x.1 x.2.1,())) (some (false,()))) λ(a:aX)=>some (a.1,())
def Sl(x:Qk):Option (YC):=letI c:=x.1.2.2.2;letI a:=c.2.2.2.2.2;letI b:=a.2.2.2.2.2;some ((x.1.1,x.1.2.1,x.1.2.2.1,c.1,c.2.1,c.2.2.1,c.2.2.2.1,c.2.2.2.2.1,a.1,a.2.1,a.2.2.1,a.2.2.2.1,a.2.2.2.2.1,b.1,b.2.1,b.2.2.1,aR (Int×V×Unit),aR (Int×List Int×Int×V×Unit),b.2.2.2.2.2),b.2.2.2.1,b.2.2.2.2.1,())
def E9(x:B4):Option (B4):=letI a:=len x.1;an (c3 (b8 0 a a) (aj a a)) (some (sub x.1 0 a,()))
def Ch(x:s1):Option (Fs):=an (aN x.2.1 (bi 2)) (some (x.1,(ao x.1.1.1 (ae x.2.1) pi,x.1.1.2.1,()),()))
def HN(x:f8):Option (aX):=ob (T (b3 0 x.1) (some (aH x.1 4,())) (some (false,()))) λ(a:aX)=>some (a.1,())
def HO(x:ej×Int×Bool×Unit):Option (v?):=letI b:=aN x.2.1 (bi 4);letI c:=ae x.2.1;ob (HN (x.2.1,())) λ(a:aX)=>T (bg a.1) (some (x.1,1,())) (an b (T (z_ (ao x.1.1 c false) x.2.2.1) (some (x.1,9,())) (an b (an b (some ((cn x.1.1 c x.2.2.1,cn x.1.2.1 c zG,x.1.2.2),0,()))))))
def MQ(x:v?):Option (v?):=ob (HO (x.1,x.2.1,false,())) λ(a:v?)=>some (a.1,a.2.1,())
def Sm(x:fr):Option (fr):=letI c:=x.1.1.2.2;letI b:=c.2.2.2.2.2;letI d:=b.2.2.2.2;ob (MQ (d.2.2.2.2.1,x.2.1,())) λ(a:v?)=>some (((x.1.1.1,x.1.1.2.1,c.1,c.2.1,c.2.2.1,c.2.2.2.1,c.2.2.2.2.1,b.1,b.2.1,b.2.2.1,b.2.2.2.1,d.1,d.2.1,d.2.2.1,d.2.2.2.1,a.1,d.2.2.2.2.2),x.1.2),a.2.1,())
def Kj(x:s1):Option (pW):=cb (bK (λ(Y:mf)=>T (aH Y.1 2) (ob (Ch (Y.2.1,Y.1,())) λ(a:Fs)=>ob (Sm (a.2.1,x.2.1,())) λ(a?:fr)=>T (aj a?.2.1 0) (an (aN Y.1 (bi 2)) (some (aF.nx (i64 (aE Y.1 1),((cn a.1.1.1 (ae Y.1) a?.1.1,a.1.1.2),a.1.2),())))) (some (aF.nx (i64 (aE Y.1 1),a.1,())))) (some (aF.ex 0 (Y.1,Y.2.1,())))) (0,x.1,())) (λ(a:mf)=>none) (λ(i:Nat) (a:mf)=>letI d:=a.2.1.1;an (bX i 0) (ob (JK (d.2.2.1,())) λ(a?:B4)=>letI e:=some (((d.1,d.2.1,a?.1,d.2.2.2),a.2.1.2),());cb (bK (λ(Y:da)=>letI m:=Y.2.1;T (aH m (len a?.1)) (an (aN m (len a?.1)) (T (aj (ao a?.1 (ae m) f9).2.1 x.2.1) (some (aF.ex 999999999 (m,m,()))) (some (aF.nx (Y.1,i64 (aE m 1),()))))) (some (aF.ex 0 (Y.1,m,())))) (0,0,())) (λ(a:da)=>none) (λ(i:Nat) (ce:da)=>T (bX i 999999999) (T (aj ce.1 (-1)) e (cb (bK (λ(Y:Xx)=>letI f:=Y.2.2.1;letI n:=Y.2.1;letI p:=ao f (ae n) f9;T (aH n (len f)) (an (aN n (len f)) (T (bg (aj p.2.1 x.2.1)) (an (aN Y.1 (len f)) (some (aF.nx (i64 (aE Y.1 1),i64 (aE n 1),cn f (ae Y.1) p,())))) (some (aF.nx (Y.1,i64 (aE n 1),f,()))))) (some (aF.ex 0 (Y.1,n,f,())))) (ce.1,i64 (aE ce.1 1),a?.1,())) (λ(a:Xx)=>none) (λ(i:Nat) (bY:Int×Int×List (Int × Int×V×Unit)×Unit)=>letI k:=ae bY.1;letI h:=bY.2.2.1;letI b:=cc (ae (len h)) k;an (bX i 0) (an (b8 bY.1 (len h) (len h)) (an (b8 0 bY.1 (len (d? h k b (bR b f9)))) (some (((d.1,d.2.1,cut (d? h k b (bR b f9)) (ae 0) (cc k (ae 0)),d.2.2.2),a.2.1.2),()))))) λ(r:Unit)=>none)) (an (bX i 0) (T (aj (-1) (-1)) e (cb (bK (λ(Y:Xx)=>letI g:=Y.2.2.1;letI o:=Y.2.1;letI q:=ao g (ae o) f9;T (aH o (len g)) (an (aN o (len g)) (T (bg (aj q.2.1 x.2.1)) (an (aN Y.1 (len g)) (some (aF.nx (i64 (aE Y.1 1),i64 (aE o 1),cn g (ae Y.1) q,())))) (some (aF.nx (Y.1,i64 (aE o 1),g,()))))) (some (aF.ex 0 (Y.1,o,g,())))) (-1,i64 (aE (-1) 1),a?.1,())) (λ(a:Xx)=>none) (λ(i:Nat) (bY:Xx)=>letI l:=ae bY.1;letI j:=bY.2.2.1;letI c:=cc (ae (len j)) l;an (bX i 0) (an (b8 bY.1 (len j)
 (len j)) (an (b8 0 bY.1 (len (d? j l c (bR c f9)))) (some (((d.1,d.2.1,cut (d? j l c (bR c f9)) (ae 0) (cc l (ae 0)),d.2.2.2),a.2.1.2),()))))) λ(r:Unit)=>none)))) λ(r:Unit)=>none)) λ(r:Unit)=>none
def PD(x:pW):Option (pW):=cb (bK (λ(x:mf)=>T (aH x.1 4) (ob (Kj (x.2.1,x.1,())) λ(a:pW)=>some (aF.nx (i64 (aE x.1 1),a.1,()))) (some (aF.ex 0 (x.1,x.2.1,())))) (0,x.1,())) (λ(a:mf)=>none) (λ(i:Nat) (a:mf)=>an (bX i 0) (some (a.2.1,()))) λ(r:Unit)=>none
def zE(x:(d7×Unit)×Int×fb×Unit):Option (pW):=letI c:=aN x.2.1 (bi 2);letI d:=x.1.1.2.2;letI e:=ae x.2.1;an c (ob (Sl (x.2.2.1.1,())) λ(a:YC)=>an c (an c (ob (zm (ao d.2.2.1 e (aR (Int×List Int×Int×V×Unit)),())) λ(a?:J')=>an (ci 128 (bI (aV a?.1) (aV a.2.2.1))) (an c (cb (bK (λ(Y:mf)=>letI g:=ao a.2.1 (ae Y.1) lP;letI b:=(i64 (bq 1 x.2.1),g.1,g.2.1,());letI f:=Y.2.1;T (aH Y.1 (len a.2.1)) (an (aN Y.1 (len a.2.1)) (ob (E9 (f.1.2.2.1,())) λ(ce:B4)=>an (ci 80 (bI (aV ce.1) (aV [b]))) (ob (E9 (f.1.2.2.2.1,())) λ(bY:B4)=>an (ci 80 (bI (aV bY.1) (aV [b]))) (some (aF.nx (i64 (aE Y.1 1),((f.1.1,f.1.2.1,cg ce.1 [b],cg bY.1 [b],f.1.2.2.2.2),f.2),())))))) (some (aF.ex 0 (Y.1,f,())))) (0,((cn x.1.1.1 e a.1,x.2.2.1.2.1,d.1,d.2.1,cn d.2.2.1 e (cg a?.1 a.2.2.1),d.2.2.2),x.1.2),())) (λ(a:mf)=>none) (λ(i:Nat) (ce:mf)=>an (bX i 0) (ob (T (aj a.1.2.2.1 8) (some (bg (aj (ao x.1.1.1 e pi).2.2.1 8),())) (some (false,()))) λ(a:aX)=>T a.1 (ob (PD (ce.2.1,())) λ(a:pW)=>some (a.1,())) (some (ce.2.1,())))) λ(r:Unit)=>none)))))
def SN(x:g?):Option (f8):=an (aN 0 (len x.1)) (an (aN 1 (len x.1)) (some (i64 (g' IntKind.i64 (i64 (h0 IntKind.i64 (i64 (aO (ao x.1 (ae 0) (u8 0)))) (cL (u64 8)))) (i64 (aO (ao x.1 (ae 1) (u8 0))))),())))
def Mc(x:(V×Int×Int×Unit)×V×Unit):Option (JV):=ob (E_ ([x.1.1,x.2.1],())) λ(a:g?)=>cb (bK (λ(x:aiO)=>letI j:=x.2.1;letI g:=len j;letI f:=x.2.2.1;letI h:=f.2.2;letI c:=f6 f.2.1 g;letI b:=sub j c g;letI e:=some (aF.ex 0 (x.1,sub j c g,(f.1,i64 (bq f.2.1 c),h),()));an (b8 c g g) (T (aH (len b) 2) e (ob (SN (sub j c g,())) λ(a:f8)=>letI d:=i64 (aE 2 a.1);ob (T (aj a.1 0) (some (true,())) (some (aH 1024 a.1,()))) λ(a?:aX)=>T a?.1 (T (b3 d (len b)) (some (aF.nx (x.1,sub j c g,(f.1,i64 (aE 2 a.1),i64 (aE h.1 1),h.2),()))) (some (aF.ex 0 (x.1,aR UInt8,(f.1,i64 (bq d (len b)),i64 (aE h.1 1),h.2),())))) (T (aH (len b) d) e (an (c3 (b8 2 d (len b)) (aj d d)) (an (ci 32 (bI (aV x.1) (aV [sub b 2 d]))) (an (b8 d (len b) (len b)) (some (aF.nx (cg x.1 [sub b 2 d],sub b d (len b),(f.1,i64 (bq f.2.1 c),h),())))))))))) (aR V,a.1,x.1,())) (λ(a:aiO)=>none) (λ(i:Nat) (a:aiO)=>an (bX i 0) (ob (nO (a.2.1,())) λ(a?:g?)=>some ((a?.1,a.2.2.1.2),a.1,()))) λ(r:JV)=>some r
def MR(x:ej×Int×V×Unit):Option (ej×List V×Int×Unit):=letI b:=aN x.2.1 (bi 4);letI c:=ae x.2.1;ob (HN (x.2.1,())) λ(a:aX)=>T (bg a.1) (some (x.1,aR V,1,())) (an b (T (bg (ao x.1.1 c false)) (some (x.1,aR V,11,())) (an b (ob (Mc (ao x.1.2.1 c zG,x.2.2.1,())) λ(a:JV)=>an b (some ((x.1.1,cn x.1.2.1 c a.1,x.1.2.2),a.2.1,0,()))))))
def Jk(x:uE):Option (Fp):=ob (Ok ((x.1,()),())) λ(a:xv)=>cb (bK (λ(Y:na)=>letI c:=Y.2.1;letI b:=ao a.1 (ae c) lP;T (aH c 3) (an (aN c (bi 3)) (ob (T (aH 0 x.2.1) (some (aj b.1 x.2.1,())) (some (false,()))) λ(a?:aX)=>T a?.1 (some (aF.rt (b.2.1,true,()))) (some (aF.nx (Y.1,i64 (aE c 1),()))))) (some (aF.ex 0 (Y.1,c,())))) (false,0,())) (λ(a:na)=>none) (λ(i:Nat) (a:na)=>an (bX i 0) (some (aR UInt8,false,()))) λ(r:Fp)=>some r
def EA(x:eG×V×V×V×Unit):Option (FV):=letI b:=x.1.2;letI c:=x.1.1;ob (EB (x.2.1,x.2.2.1,())) λ(a:g?)=>ob (D' (a.1,x.2.2.2.1,())) λ(a:aX)=>T (bg a.1) (some (x.1,false,())) (ob (I7 (x.1,x.2.1,x.2.2.1,())) λ(a:aX)=>T b.2.1 (T a.1 (some ((c,b.1,true,b.2.2),true,())) (some ((c,b.1,true,b.2.2),bg c,()))) (T a.1 (some ((c,b.1,bg a.1,b.2.2),true,())) (some ((c,b.1,bg a.1,b.2.2),bg c,()))))
def M_(x:CD):Option (fb×Nat×c9×Unit):=letI b:=some (false,());letI c:=x.1.1;letI d:=x.1.2;ob (LV (x.2.1,())) λ(a:c9×Int×Unit)=>letI e:=a.1.2.2;letI f:=yh (a.1,());T (aj a.2.1 0) (ob (T (aj a.1.2.1 (i64 (bq 1 c.1))) (T (bg (aj c.2.2.1 7)) (some (bg (aj c.2.2.1 8),())) b) b) λ(a?:aX)=>T a?.1 (ob (A3 (c.2.1,())) λ(ce:g?)=>T (aj a.1.1 2) (ob (Jk (c.2.2.2.2.2.2.2.2.2.2.1,e.2.1,())) λ(bY:Fp)=>ob (vH (c.2.2.1,())) λ(dB:aX)=>ob (T dB.1 (ob (ol (c,())) λ(jG:Fd)=>T (mT (λ(p q:Int)=>aj p q) e.1 jG.1) (some (bY.2.1,())) b) b) λ(jG:aX)=>T jG.1 (ob f λ(pu:cz)=>ob (EA (d.1,bY.1,pu.1,e.2.2.2.2.1,())) λ(mS:FV)=>T mS.2.1 (some ((c,mS.1,d.2),0,a.1,())) (some ((c,mS.1,d.2),5,oG,()))) (some (x.1,13,oG,()))) (ob f λ(bY:cz)=>ob (EA (d.1,ce.1,bY.1,e.2.2.2.2.1,())) λ(dB:FV)=>T dB.2.1 (some ((c,dB.1,d.2),0,a.1,())) (some ((c,dB.1,d.2),5,oG,())))) (some (x.1,13,oG,()))) (some (x.1,2,oG,()))
def Kh(x:f8):Option (aaP):=letI a:=fR x.1 1024;an (b3 0 (fR a 64)) (some (i64 (gd a 64),u64 (h0 IntKind.u64 (cL (u64 1)) (fR a 64)),()))
def PB(x:Fo):Option (aX):=ob (Kh (x.2.1,())) λ(a:aaP)=>an (aN a.1 (bi 16)) (some (bg (aj (cL (u64 (i9 IntKind.u64 (cL (ao x.1.2.1 (ae a.1) (u64 0))) (cL a.2.1)))) (cL (u64 0))),()))
def XR(x:Fo):Option (aX):=letI b:=some (false,());letI c:=x.2.1;ob (T (b3 0 c) (T (b3 c 4611686018427387904) (T (b3 x.1.1 c) (some (true,())) (T (b3 (i64 (bq x.1.1 1024)) c) (ob (PB (x.1,c,())) λ(a:aX)=>some (bg a.1,())) b)) b) b) λ(a:aX)=>some (a.1,())
def zB(x:(Int×List UInt64×Unit)×Int×Bool×Unit):Option (BU):=letI e:=x.1.2;ob (Kh (x.2.1,())) λ(a:aaP)=>letI d:=ae a.1;letI b:=u64 (g' IntKind.u64 (cL (ao e.1 d (u64 0))) (cL a.2.1));letI c:=aN a.1 (bi 16);an c (an c (T (bg x.2.2.1) (an c (an c (some ((x.1.1,cn (cn e.1 d b) d (u64 (fT IntKind.u64 (cL (ao (cn e.1 d b) d (u64 0))) (cL a.2.1))),e.2),())))) (some ((x.1.1,cn e.1 d b,e.2),()))))
def Ft(x:Fo):Option (Fo):=letI c:=x.2.1;letI b:=i64 (bq c x.1.1);letI d:=f6 (c6 b 0) 1024;letI e:=i64 (aE c 1);ob (T (aH c 0) (some (true,())) (some (aH 4611686018427387904 c,()))) λ(a:aX)=>T a.1 (some (x.1,1,())) (ob (XR (x.1,c,())) λ(a:aX)=>T (bg a.1) (some (x.1,6,())) (T (b3 1024 b) (cb (bK (λ(Y:xx)=>T (aH Y.1 d) (ob (zB (Y.2.1,i64 (aE Y.2.1.1 Y.1),false,())) λ(a:BU)=>some (aF.nx (i64 (aE Y.1 1),a.1,()))) (some (aF.ex 0 (Y.1,Y.2.1,())))) (0,(x.1.1,Cn,x.1.2.2),())) (λ(a:xx)=>none) (λ(i:Nat) (a:xx)=>an (bX i 0) (ob (zB ((c6 a.2.1.1 e,a.2.1.2),c,true,())) λ(a:BU)=>some (a.1,0,()))) λ(r:Fo)=>some r) (cb (bK (λ(Y:xx)=>T (aH Y.1 d) (ob (zB (Y.2.1,i64 (aE Y.2.1.1 Y.1),false,())) λ(a:BU)=>some (aF.nx (i64 (aE Y.1 1),a.1,()))) (some (aF.ex 0 (Y.1,Y.2.1,())))) (0,x.1,())) (λ(a:xx)=>none) (λ(i:Nat) (a:xx)=>an (bX i 0) (ob (zB ((c6 a.2.1.1 e,a.2.1.2),c,true,())) λ(a:BU)=>some (a.1,0,()))) λ(r:Fo)=>some r)))
def M9(x:CD):Option (fb×c9×Int×Unit):=ob (M_ (x.1,x.2.1,())) λ(a:fb×Nat×c9×Unit)=>letI d:=a.1.1.2;letI b:=d.2.2.2;letI c:=b.2.2.2;letI e:=a.2.2.1;letI f:=c.2.2.2;T (bX a.2.1 0) (T (bg (aj e.1 2)) (some (a.1,e,0,())) (ob (Ft (c.2.2.1,e.2.2.2.2.1,())) λ(a?:Fo)=>T (aj a?.2.1 0) (ob (T (aj e.2.2.2.1 f.1.2.2.1.1) (some (bg (aj d.2.1 4),())) (some (false,()))) λ(ce:aX)=>T ce.1 (ob (BE (f.1,())) λ(bY:uE)=>some (((a.1.1.1,d.1,d.2.1,d.2.2.1,b.1,b.2.1,b.2.2.1,c.1,c.2.1,a?.1,bY.1,f.2),a.1.2),e,0,())) (some (((a.1.1.1,d.1,d.2.1,d.2.2.1,b.1,b.2.1,b.2.2.1,c.1,c.2.1,a?.1,f),a.1.2),e,0,()))) (ob (k1 (a.1,bi 6,())) λ(a:bN)=>some (a.1,oG,bi 6,())))) (T (bX a.2.1 2) (ob (k1 (a.1,bi 2,())) λ(a:bN)=>some (a.1,oG,bi 2,())) (T (bX a.2.1 13) (ob (k1 (a.1,bi 13,())) λ(a:bN)=>some (a.1,oG,bi 13,())) (an (bX a.2.1 5) (ob (k1 (a.1,bi 5,())) λ(a:bN)=>some (a.1,oG,bi 5,())))))
def GJ(x:xZ):Option (bN):=letI b:=x.2.1;letI c:=some (false,());letI d:=some (b.1,());letI e:=aj b.2.1 101;letI f:=aj b.2.1 201;ob (T e d c) λ(a:aX)=>T a.1 (ob (Ob (x.1,b,())) λ(a:bN)=>some (a.1,())) (T e (ob (N? (x.1,b,())) λ(a:bN)=>some (a.1,())) (ob (T f d c) λ(a:aX)=>T a.1 (ob (SQ (x.1,b,())) λ(a:bN)=>some (a.1,())) (T f (ob (Me (x.1,b,())) λ(a:bN)=>some (a.1,())) (ob (OR (x.1,b,())) λ(a:bN)=>some (a.1,())))))
def GH(x:CD):Option (bN):=ob (M9 (x.1,x.2.1,())) λ(a:fb×c9×Int×Unit)=>letI d:=a.2.1;letI b:=aj d.1 2;letI c:=d.2.2.2.2.2.1;T (bg (aj a.2.2.1 0)) (some (a.1,())) (T b (ob (OP (a.1,())) λ(a?:bN)=>ob (Ek (c,())) λ(ce:r1)=>T (aj ce.2.1 0) (T b (ob (GJ (a?.1,ce.1,())) λ(a:bN)=>ob (kS (a.1,())) λ(a:bN)=>some (a.1,())) (ob (JC (a?.1,d,ce.1,())) λ(a:bN)=>ob (kS (a.1,())) λ(a:bN)=>some (a.1,()))) (ob (DY (c,())) λ(bY:dH)=>T (aj bY.2.1 0) (T b (ob (GW (a?.1,d,bY.1,())) λ(a:bN)=>ob (kS (a.1,())) λ(a:bN)=>some (a.1,())) (ob (k1 (a?.1,2,())) λ(a:bN)=>ob (kS (a.1,())) λ(a:bN)=>some (a.1,()))) (ob (k1 (a?.1,2,())) λ(a:bN)=>ob (kS (a.1,())) λ(a:bN)=>some (a.1,())))) (ob (Ek (c,())) λ(a?:r1)=>T (aj a?.2.1 0) (T b (ob (GJ (a.1,a?.1,())) λ(a:bN)=>ob (kS (a.1,())) λ(a:bN)=>some (a.1,())) (ob (JC (a.1,d,a?.1,())) λ(a:bN)=>ob (kS (a.1,())) λ(a:bN)=>some (a.1,()))) (ob (DY (c,())) λ(ce:dH)=>T (aj ce.2.1 0) (T b (ob (GW (a.1,d,ce.1,())) λ(a:bN)=>ob (kS (a.1,())) λ(a:bN)=>some (a.1,())) (ob (k1 (a.1,2,())) λ(a:bN)=>ob (kS (a.1,())) λ(a:bN)=>some (a.1,()))) (ob (k1 (a.1,2,())) λ(a:bN)=>ob (kS (a.1,())) λ(a:bN)=>some (a.1,())))))
def LS(x:fb×Int×V×Unit):Option (bN):=letI d:=x.1.1.2.2.2;letI f:=d.2.2.2;letI b:=f.2.2.2;letI g:=b.2.2.2;letI c:=g.2.2.2;letI h:=aN x.2.1 (bi 4);letI j:=aN 0 (bi 4);ob (MR (c.1,x.2.1,x.2.2.1,())) λ(a:ej×List V×Int×Unit)=>T (bg (aj a.2.2.1 0)) (some (x.1,())) (an j (an h (an h (an j (cb (bK (λ(x:CB)=>letI e:=some (aF.ex 0 (x.1,x.2.1,()));T (aH x.1 (len a.2.1)) (an (aN x.1 (len a.2.1)) (T (aj x.2.1.1.2.2.1 8) e (ob (GH (x.2.1,ao a.2.1 (ae x.1) (aR UInt8),())) λ(a:bN)=>some (aF.nx (i64 (aE x.1 1),a.1,()))))) e) (0,((x.1.1.1,x.1.1.2.1,x.1.1.2.2.1,d.1,d.2.1,d.2.2.1,f.1,f.2.1,f.2.2.1,b.1,b.2.1,b.2.2.1,g.1,g.2.1,g.2.2.1,a.1,c.2.1,c.2.2.1,cn c.2.2.2.1 (ae 0) (i64 (aE (ao c.2.2.2.1 (ae 0) 0) (i64 (bq (ao a.1.2.1 (ae x.2.1) zG).2.2.1 (ao c.1.2.1 (ae x.2.1) zG).2.2.1)))),c.2.2.2.2),x.1.2),())) (λ(a:CB)=>none) (λ(i:Nat) (a:CB)=>an (bX i 0) (some (a.2.1,()))) λ(r:bN)=>some r)))))
def Fw(x:(d7×Unit)×Int×Int×V×Unit):Option (pW):=ob (Ch (x.1,x.2.1,())) λ(a:Fs)=>ob (LS (a.2.1,x.2.2.1,x.2.2.2.1,())) λ(a?:bN)=>ob (zE (a.1,x.2.1,a?.1,())) λ(a:pW)=>some (a.1,())
def Kk(x:xC):Option (s1):=letI i:=x.1.1.2;letI d:=x.2.1.2.2;letI k:=ae d.1;letI p:=cc k (ae 0);letI c:=ao i.2.1 k f9;letI m:=c.2.2.1;letI g:=bI (ae 0) p;letI h:=i64 (aE d.1 1);letI j:=len m;letI o:=d.2.1;ob (rT (d.1,len i.2.1,())) λ(a:aX)=>T (bg a.1) (some (x.1,12,())) (an (aN d.1 (len i.2.1)) (ob (JK (i.2.1,())) λ(a:B4)=>letI f:=len a.1;letI b:=cut a.1 (ae h) (cc (ae f) (ae h));letI e:=bI p (aV b);letI l:=ao a.1 k f9;letI n:=cc (ae f) (ae (bi e));ob (T (aH 0 o) (some (aH o j,())) (some (false,()))) λ(a?:aX)=>T a?.1 (an (b8 o j j) (an (aN d.1 f) (an (b8 0 o j) (ob (Fw (((x.1.1.1,i.1,cn a.1 k (l.1,l.2.1,sub m o j,l.2.2.2),i.2.2),x.1.2),c.1,c.2.1,sub m 0 o,())) λ(a:pW)=>some (a.1,0,()))))) (an (c3 (b8 d.1 h f) (b3 f f)) (T (aj d.1 h) (ob (Fw (((x.1.1.1,i.1,a.1,i.2.2),x.1.2),c.1,c.2.1,m,())) λ(a:(d7 × Unit)×Unit)=>some (a.1,0,())) (an (b8 0 d.1 f) (an (b8 h f f) (an (kz (bI (ae 0) e) (bI (aV a.1) 1)) (an (c3 (kz (ae 0) (bI (aV (d? a.1 g (aV b) b)) 1)) (b8 (bi e) f (bq (len (d? a.1 g (aV b) b)) (bi (ae 0))))) (ob (Fw (((x.1.1.1,i.1,cut (d? (d? a.1 g (aV b) b) (bI (ae 0) (ae (bi e))) n (bR n f9)) (ae 0) e,i.2.2),x.1.2),c.1,c.2.1,m,())) λ(a:pW)=>some (a.1,0,()))))))))))
def Oi(x:uF):Option (uF):=letI b:=x.1.2.2;letI a:=i64 (bq b.2.1 1);T (aj (c6 0 a) 0) (some ((x.1.1,lP,b.1,c6 0 a,b.2.2),())) (some ((x.1.1,x.1.2.1,b.1,c6 0 a,b.2.2),()))
def CO(x:gq×Unit):Option (Qi):=letI b:=x.1.2.2.2;letI c:=aH 0 b.1;letI d:=bq x.1.2.2.1 1;ob (Gb (x.1,())) λ(a:aX)=>T a.1 (some (x.1,false,false,())) (T (aH 0 (i64 d)) (some ((x.1.1,x.1.2.1,i64 d,b),false,false,())) (T c (some ((x.1.1,x.1.2.1,8,i64 (bq b.1 1),b.2),aH 0 b.1,bg c,())) (some (mQ,aH 0 b.1,bg c,()))))
def C?(x:fb×gq×Unit):Option (bN):=T (aj x.2.1.1 1) (ob (D5 (x.1,0,x.2.1.2.2.2.2.1,())) λ(a:fr)=>some (a.1,())) (ob (om (x.1,x.2.1.2.2.2.2.1,())) λ(a:fr)=>some (a.1,()))
def Da(x:bN):Option (bN):=T (aj x.1.1.2.2.1 4) (ob (Jh (x.1,())) λ(a:bN)=>some (a.1,())) (T (aj x.1.1.2.2.1 5) (ob (Mg (x.1,())) λ(a:bN)=>some (a.1,())) (ob (OQ (x.1,())) λ(a:bN)=>some (a.1,())))
def GI(x:bN):Option (bN):=letI e:=x.1.1;letI c:=e.2.2;letI b:=c.2.2.2;letI d:=b.2.2.2;letI f:=d.2.2;letI g:=c.2.2.1;letI h:=b.2.2.1;letI i:=e.2.1;letI j:=c.2.1;letI k:=b.2.1;letI l:=d.2.1;letI m:=x.1.2;letI n:=f.2.2;letI o:=CO (f.2.1,());ob (T (aj c.1 7) (some (true,())) (some (aj c.1 8,()))) λ(a:aX)=>T a.1 (some (x.1,())) (ob (vH (c.1,())) λ(a:aX)=>T a.1 (ob (Oi (f.1,())) λ(a:uF)=>T (aj d.1 4611686018427387904) (ob (JD (((e.1,i,c.1,j,g,b.1,k,h,d.1,l,a.1,f.2),m),())) λ(a:fr)=>some (a.1,())) (ob o λ(a?:Qi)=>T a?.2.1 (ob (C? (((e.1,i,c.1,j,g,b.1,k,h,d.1,l,a.1,a?.1,n),m),a?.1,())) λ(a:bN)=>ob (kS (a.1,())) λ(a:bN)=>some (a.1,())) (T a?.2.2.1 (ob (Da (((e.1,i,c.1,j,g,b.1,k,h,d.1,l,a.1,a?.1,n),m),())) λ(a:bN)=>ob (kS (a.1,())) λ(a:bN)=>some (a.1,())) (ob (kS (((e.1,i,c.1,j,g,b.1,k,h,d.1,l,a.1,a?.1,n),m),())) λ(a:bN)=>some (a.1,()))))) (ob o λ(a:Qi)=>T a.2.1 (ob (C? (((e.1,i,c.1,j,g, b.1,k,h,d.1,l,f.1,a.1,n),m),a.1,())) λ(a:bN)=>ob (kS (a.1,())) λ(a:bN)=>some (a.1,())) (T a.2.2.1 (ob (Da (((e.1,i,c.1,j,g,b.1,k,h,d.1,l,f.1,a.1,n),m),())) λ(a:bN)=>ob (kS (a.1,())) λ(a:bN)=>some (a.1,())) (ob (kS (((e.1,i,c.1,j,g,b.1,k,h,d.1,l,f.1,a.1,n),m),())) λ(a:bN)=>some (a.1,())))))
def Fu(x:PA):Option (Kg):=cb (bK (λ(Y:mf)=>T (aH Y.1 (c6 0 x.2.1)) (cb (bK (λ(x:mf)=>ob (T (aH 0 x.1) (some (aH 0 (len x.2.1.1.2.2.1),())) (some (false,()))) λ(a:aX)=>T a.1 (ob (Kk (x.2.1,mQ,())) λ(a:s1)=>some (aF.nx (i64 (bq x.1 1),a.1,()))) (some (aF.ex 2 (x.1,x.2.1,())))) (len Y.2.1.1.2.2.1,Y.2.1,())) (λ(a:mf)=>none) (λ(i:Nat) (a:mf)=>an (bX i 2) (cb (bK (λ(x:mf)=>T (aH x.1 2) (ob (Ch (x.2.1,x.1,())) λ(a:Fs)=>ob (GI (a.2.1,())) λ(a?:bN)=>ob (zE (a.1,x.1,a?.1,())) λ(a:pW)=>some (aF.nx (i64 (aE x.1 1),a.1,()))) (some (aF.ex 4 (x.1,x.2.1,())))) (0,a.2.1,())) (λ(a:mf)=>none) (λ(i:Nat) (a:mf)=>an (bX i 4) (some (aF.nx (i64 (aE Y.1 1),a.2.1,())))) λ(r:Kg)=>some (aF.rt r))) λ(r:Kg)=>some (aF.rt r)) (some (aF.ex 0 (Y.1,Y.2.1,())))) (0,(x.1,()),())) (λ(a:mf)=>none) (λ(i:Nat) (a:mf)=>an (bX i 0) (some (a.2.1.1,()))) λ(r:Kg)=>some r
def PG(x:xC):Option (s1):=letI g:=x.2.1.2.2.1;letI c:=cc (ae g) (ae 0);letI d:=i64 (aE g 1);letI h:=x.1.1.2;letI i:=bI (ae 0) c;ob (rT (g,len h.2.1,())) λ(a:aX)=>T (bg a.1) (some (x.1,12,())) (ob (JK (h.2.1,())) λ(a:B4)=>letI e:=len a.1;letI b:=cut a.1 (ae d) (cc (ae e) (ae d));letI f:=bI c (aV b);letI j:=cc (ae e) (ae (bi f));an (c3 (b8 g d e) (b3 e e)) (T (aj g d) (some (((x.1.1.1,h.1,a.1,h.2.2),x.1.2),0,())) (an (b8 0 g e) (an (b8 d e e) (an (kz (bI (ae 0) f) (bI (aV a.1) 1)) (an (c3 (kz (ae 0) (bI (aV (d? a.1 i (aV b) b)) 1)) (b8 (bi f) e (bq (len (d? a.1 i (aV b) b)) (bi (ae 0))))) (some (((x.1.1.1,h.1,cut (d? (d? a.1 i (aV b) b) (bI (ae 0) (ae (bi f))) j (bR j f9)) (ae 0) f,h.2.2),x.1.2),0,()))))))))
def PC(x:xC):Option (s1):=letI b:=x.1.1.2.2;letI c:=x.2.1.2.2.1;ob (rT (c,len b.2.1,())) λ(a:aX)=>T (bg a.1) (some (x.1,12,())) (ob (E9 (b.1,())) λ(a:B4)=>an (aN c (len b.2.1)) (an (ci 80 (bI (aV a.1) (aV [ao b.2.1 (ae c) f9]))) (some (((x.1.1.1,x.1.1.2.1,cg a.1 [ao b.2.1 (ae c) f9],b.2),x.1.2),0,()))))
def PJ(x:xC):Option (s1):=letI e:=x.1.1.2.2;letI c:=x.2.1.2.2;letI b:=ao e.2.1 (ae c.1) f9;letI f:=aN c.1 (len e.2.1);letI h:=ae c.2.1;letI i:=some (true,());letI j:=len c.2.2.1;ob (rT (c.1,len e.2.1,())) λ(a:aX)=>ob (T (bg a.1) i (an f (ob (rT (c.2.1,len b.2.2.1,())) λ(a:aX)=>T (bg a.1) i (some (aj j 0,()))))) λ(a:aX)=>T a.1 (some (x.1,12,())) (an f (ob (nO (b.2.2.1,())) λ(a:g?)=>letI d:=u8 (fT IntKind.u8 (aO (ao a.1 h (u8 0))) (aO (ao c.2.2.1 (ae 0) (u8 0))));letI g:=aN c.2.1 (len a.1);an g (an (aN 0 j) (an g (ob (E9 (e.1,())) λ(a?:B4)=>an (ci 80 (bI (aV a?.1) (aV [(b.1,b.2.1,cn a.1 h d,b.2.2.2)]))) (some (((x.1.1.1,x.1.1.2.1,cg a?.1 [(b.1,b.2.1,cn a.1 h d,b.2.2.2)],e.2),x.1.2),0,())))))))
def PH(x:xC):Option (s1):=letI b:=x.2.1.2;ob (rT (b.1,2,())) λ(a:aX)=>T (bg a.1) (some (x.1,1,())) (ob (Fw (x.1,b.1,b.2.1,b.2.2.2.1,())) λ(a:pW)=>some (a.1,0,()))
def MS(x:v?):Option (v?):=letI b:=aN x.2.1 (bi 4);ob (HO (x.1,x.2.1,true,())) λ(a:v?)=>T (aj a.2.1 0) (an b (an b (some ((a.1.1,a.1.2.1,cn a.1.2.2.1 (ae x.2.1) (i64 (aE (ao a.1.2.2.1 (ae x.2.1) 0) 1)),a.1.2.2.2),a.2.1,())))) (some (a.1,a.2.1,()))
def LU(x:fr):Option (fr):=letI c:=x.1.1.2.2;letI b:=c.2.2.2.2.2;letI d:=b.2.2.2.2;T (aj c.1 8) (some (x.1,11,())) (ob (MS (d.2.2.2.2.1,x.2.1,())) λ(a:v?)=>T (bg (aj a.2.1 0)) (some (x.1,a.2.1,())) (ob (kS (((x.1.1.1,x.1.1.2.1,c.1,c.2.1,c.2.2.1,c.2.2.2.1,c.2.2.2.2.1,b.1,b.2.1,b.2.2.1,b.2.2.2.1,d.1,d.2.1,d.2.2.1,d.2.2.2.1,a.1,d.2.2.2.2.2),x.1.2),())) λ(a:bN)=>some (a.1,0,())))
def PI(x:xC):Option (s1):=letI b:=x.2.1.2.2.1;letI c:=ao x.1.1.1 (ae 0) pi;letI d:=ao x.1.1.1 (ae 1) pi;letI e:=some (true,());letI f:=aN 0 (bi 2);letI g:=aN 1 (bi 2);letI h:=aN b (bi 4);an f (ob (T (aj c.2.2.1 8) e (an g (some (aj d.2.2.1 8,())))) λ(a:aX)=>T a.1 (some (x.1,11,())) (ob (rT (b,4,())) λ(a:aX)=>T (bg a.1) (some (x.1,1,())) (an f (an h (ob (T (ao c.2.2.2.2.2.2.2.2.2.2.2.2.2.2.2.1.1 (ae b) false) e (an g (an h (some (ao d.2.2.2.2.2.2.2.2.2.2.2.2.2.2.2.1.1 (ae b) false,()))))) λ(a:aX)=>T a.1 (some (x.1,9,())) (cb (bK (λ(Y:mf)=>T (aH Y.1 2) (ob (Ch (Y.2.1,Y.1,())) λ(a:Fs)=>ob (LU (a.2.1,b,())) λ(a?:fr)=>ob (zE (a.1,Y.1,a?.1,())) λ(a:pW)=>some (aF.nx (i64 (aE Y.1 1),a.1,()))) (some (aF.ex 1 (Y.1,Y.2.1,())))) (0,x.1,())) (λ(a:mf)=>none) (λ(i:Nat) (a:mf)=>an (bX i 1) (some (a.2.1,0,()))) λ(r:Unit)=>none))))))
def PF(x:xC):Option (s1):=ob (rT (x.2.1.2.2.1,4,())) λ(a:aX)=>T (bg a.1) (some (x.1,1,())) (ob (Kj (x.1,x.2.1.2.2.1,())) λ(a:pW)=>some (a.1,0,()))
def PE(x:xC):Option (s1):=T (aH x.2.1.2.2.1 0) (some (x.1,1,())) (ob (Fu (x.1.1,f6 x.2.1.2.2.1 100,())) λ(a:Kg)=>some ((a.1,x.1.2),0,()))
def LT(x:fb×gq×Unit):Option (fr):=letI b:=x.2.1.1;letI c:=x.2.1.2.2;letI d:=x.1.1.2;T (aj b 0) (ob (Mi (x.1,c.2.2.1,())) λ(a:fr)=>some (a.1,a.2.1,())) (T (aj b 1) (ob (JD (x.1,())) λ(a:fr)=>some (a.1,a.2.1,())) (T (aj b 2) (ob (OS (x.1,())) λ(a:fr)=>some (a.1,a.2.1,())) (T (aj b 3) (ob (OO (x.1,())) λ(a:fr)=>some (a.1,a.2.1,())) (T (aj b 4) (ob (Oa (x.1,c.2.2.1,())) λ(a:fr)=>some (a.1,a.2.1,())) (T (aj b 5) (ob (Mf (x.1,c.1,())) λ(a:fr)=>some (a.1,a.2.1,())) (T (aj b 6) (ob (GI (x.1,())) λ(a:bN)=>some (a.1,0,())) (T (aj b 14) (ob (E5 (x.1,())) λ(a:bN)=>some (a.1,0,())) (T (aj b 15) (T (bg (aj d.2.1 8)) (some (x.1,9,())) (ob (ON (x.1,())) λ(a:bN)=>some (a.1,0,()))) (T (aj b 16) (some (((x.1.1.1,d.1,d.2.1,d.2.2.1,c.1,d.2.2.2.2),x.1.2),0,())) (some (x.1,1,())))))))))))
def qX(x:xC):Option (s1):=letI b:=x.2.1.2.1;ob (rT (b,2,())) λ(a:aX)=>T (bg a.1) (some (x.1,1,())) (ob (Ch (x.1,b,())) λ(a:Fs)=>ob (LT (a.2.1,x.2.1,())) λ(a?:fr)=>ob (zE (a.1,b,a?.1,())) λ(a:pW)=>some (a.1,a?.2.1,()))
def Cg(x:d7×gq×Unit):Option (PA):=letI c:=x.2.1;letI b:=qX ((x.1,()),c,());T (aj c.1 7) (ob (Kk ((x.1,()),c,())) λa=>some (a.1.1,a.2.1,())) <| T (aj c.1 8) (ob (PG ((x.1,()),c,())) λa=>some (a.1.1,a.2.1,())) <| T (aj c.1 9) (ob (PC ((x.1,()),c,())) λa=>some (a.1.1,a.2.1,())) <| T (aj c.1 10) (ob (PJ ((x.1,()),c,())) λa=>some (a.1.1,a.2.1,())) <| T (aj c.1 11) (ob (PH ((x.1,()),c,())) λa=>some (a.1.1,a.2.1,())) <| T (aj c.1 12) (ob (PI ((x.1,()),c,())) λa=>some (a.1.1,a.2.1,())) <| T (aj c.1 13) (ob (PF ((x.1,()),c,())) λa=>some (a.1.1,a.2.1,())) <| T (aj c.1 17) (ob (PE ((x.1,()),c,())) λa=>some (a.1.1,a.2.1,())) <| T (aj c.1 0) (ob b λa=>some (a.1.1,a.2.1,())) <| T (aj c.1 1) (ob b λa=>some (a.1.1,a.2.1,())) <| T (aj c.1 2) (ob b λa=>some (a.1.1,a.2.1,())) <| T (aj c.1 3) (ob b λa=>some (a.1.1,a.2.1,())) <| T (aj c.1 4) (ob b λa=>some (a.1.1,a.2.1,())) <| T (aj c.1 5) (ob b λa=>some (a.1.1,a.2.1,())) <| T (aj c.1 6) (ob b λa=>some (a.1.1,a.2.1,())) <| T (aj c.1 14) (ob b λa=>some (a.1.1,a.2.1,())) <| T (aj c.1 15) (ob b λa=>some (a.1.1,a.2.1,())) <| T (aj c.1 16) (ob b λa=>some (a.1.1,a.2.1,())) <| some (x.1,1,())
def Jf(x:List gq×Int×Unit):Option (Bool×Unit):=letI d:=some (aF.rt (false,()));letI g:=len x.1;letI h:=some (true,());T (aH x.2.1 g) (some (false,())) (cb (bK (λ(Y:Int×Bool×Int×Unit)=>letI e:=Y.2.2.1;letI b:=ao x.1 (ae e) mQ;letI c:=aN e g;T (aH e g) (an c (T (aH 1200 (len b.2.2.2.2.1)) d (an c (ob (T (aj b.1 17) (some (i64 (aE Y.1 1),())) (some (Y.1,()))) λ(a:Int×Unit)=>letI f:=some (aH 6 a.1,());an c (ob (T (aj b.1 17) (an c (T (aH 10 b.2.2.1) h f)) f) λ(a?:Bool×Unit)=>T a?.1 d (some (aF.nx (a.1,Y.2.1,i64 (aE e 1),())))))))) (some (aF.ex 0 (Y.1,Y.2.1,e,())))) (0,false,0,())) (λ(a:Int×Bool×Int×Unit)=>none) (λ(i:Nat) (a:Int×Bool×Int×Unit)=>an (bX i 0) h) λ(r:Bool×Unit)=>some r)
def Fv(x:d7×List gq×Unit):Option (d7×List Int×Unit):=cb (bK (λ(Y:List Int×Int×d7×Unit)=>letI b:=Y.2.1;T (aH b (len x.2.1)) (an (aN b (len x.2.1)) (ob (Cg (Y.2.2.1,ao x.2.1 (ae b) mQ,())) λ(a:d7×Int×Unit)=>an (ci 32 (bI (aV Y.1) (aV [a.2.1]))) (some (aF.nx (cg Y.1 [a.2.1],i64 (aE b 1),a.1,()))))) (some (aF.ex 0 (Y.1,b,Y.2.2.1,())))) (aR Int,0,x.1,())) (λ(a:List Int×Int×d7×Unit)=>none) (λ(i:Nat) (a:List Int×Int×d7×Unit)=>an (bX i 0) (some (a.2.2.1,a.1,()))) λ(r:d7×List Int×Unit)=>some r
def nK(x:List (Int×Int×V×Unit)×List (Int×Int×V×Unit)×Unit):Option (Bool×Unit):=letI f:=len x.1;letI g:=some (true,());T (bg (aj f (len x.2.1))) (some (false,())) (cb (bK (λ(Y:Bool×Int×Unit)=>letI b:=Y.2.1;letI c:=ao x.2.1 (ae b) f9;letI d:=aN b (len x.2.1);letI e:=ao x.1 (ae b) f9;letI h:=aN b f;T (aH b f) (an h (an d (ob (T (bg (aj e.1 c.1)) g (an h (an d (T (bg (aj e.2.1 c.2.1)) g (an h (an d (ob (N3 (e.2.2.1,c.2.2.1,())) λ(a:Bool×Unit)=>some (bg a.1,())))))))) λ(a:Bool×Unit)=>T a.1 (some (aF.rt (false,()))) (some (aF.nx (Y.1,i64 (aE b 1),())))))) (some (aF.ex 0 (Y.1,b,())))) (false,0,())) (λ(a:Bool×Int×Unit)=>none) (λ(i:Nat) (a:Bool×Int×Unit)=>an (bX i 0) g) λ(r:Bool×Unit)=>some r)
def pK(x:d7×d7×Unit):Option (Bool×Unit):=letI c:=aR (Int×List Int×Int×V×Unit);letI f:=x.2.1.2.2;cb (bK (λ(Y:Bool×Int×Unit)=>letI e:=Y.2.1;letI b:=aN e (bi 2);letI d:=ae e;T (aH e 2) (an b (an b (ob (vz (ao x.1.1 d pi,ao x.2.1.1 d pi,())) λ(a:Bool×Unit)=>an b (an b (ob (pt (ao x.1.2.2.2.2.1 d c,ao f.2.2.1 d c,())) λ(a?:Bool×Unit)=>ob (T (bg a.1) (some (true,())) (some (bg a?.1,()))) λ(a:Bool×Unit)=>T a.1 (some (aF.rt (false,()))) (some (aF.nx (Y.1,i64 (aE e 1),())))))))) (some (aF.ex 0 (Y.1,e,())))) (false,0,())) (λ(a:Bool×Int×Unit)=>none) (λ(i:Nat) (a:Bool×Int×Unit)=>an (bX i 0) (ob (nK (x.1.2.2.1,f.1,())) λ(a:Bool×Unit)=>ob (T a.1 (ob (nK (x.1.2.2.2.1,f.2.1,())) λ(a:Bool×Unit)=>some (a.1,())) (some (false,()))) λ(a:Bool×Unit)=>some (a.1,()))) λ(r:Bool×Unit)=>some r
def i3(x:d7×d7×Unit):Option (Bool×Unit):=ob (pK (x.1,x.2.1,())) λ(a:Bool×Unit)=>ob (T a.1 (ob (Ao (x.1.2.1,x.2.1.2.1,())) λ(a:Bool×Unit)=>some (a.1,())) (some (false,()))) λ(a:Bool×Unit)=>some (a.1,())
end Yp
namespace Yp
open Go Go.Proofs Tryz
set_option maxRecDepth 100000
abbrev ha:ag:=.unit
abbrev oE:ag:=.sl (.int .u8)
abbrev xG:ag:=.pair oE (.pair oE ha)
abbrev PP:ag:=.pair (.bool) (.pair (.sl xG) (.pair (.bool) ha))
abbrev fp:ag:=.int .i64
abbrev ajF:ag:=.pair fp (.pair fp (.pair (.bool) (.pair (.int .u8) ha)))
abbrev ajE:ag:=.pair fp (.pair fp (.pair (.ar 2 fp) (.pair fp (.pair fp xG))))
abbrev X3:ag:=.pair fp (.pair (.ar 16 (.int .u64)) ha)
abbrev Cj:ag:=.pair fp (.pair fp ha)
abbrev X2:ag:=.pair (.ar 4 (.bool)) (.pair (.ar 4 (.pair oE Cj)) (.pair (.ar 4 fp) (.pair fp ha)))
abbrev Ko:ag:=.pair (.bool) (.pair fp (.pair fp (.pair fp (.pair fp (.pair oE (.pair oE (.pair fp ha)))))))
abbrev mP:ag:=.pair fp (.pair oE ha)
abbrev Fz:ag:=.pair fp mP
abbrev PN:ag:=.pair fp (.pair (.sl mP) ha)
abbrev PM:ag:=.pair mP (.pair mP (.pair mP Cj))
abbrev Fy:ag:=.pair fp (.pair (.ar 2 fp) mP)
abbrev zF:ag:=.pair fp (.pair fp Fz)
abbrev xF:ag:=.pair fp (.pair oE (.pair fp (.pair xG (.pair fp (.pair fp (.pair fp (.pair fp (.pair fp (.pair X3 (.pair PM (.pair zF (.pair fp (.pair fp (.pair (.sl oE) (.pair X2 (.pair (.sl mP) (.pair (.sl Fy) (.pair (.ar 4 fp) ha))))))))))))))))))
abbrev PO:ag:=.pair xF (.pair PP ha)
abbrev PQ:ag:=.pair (.ar 2 xF) (.pair PP (.pair (.sl Fz) (.pair (.sl Fz) (.pair (.ar 2 (.sl Fy)) ha))))
def Qh:List (Nat×ag):=[(1,(.op 0)),(2,fp),(3,fp),(4,(.bool)),(5,(.int .u8)),(6,(.int .u8)),(7,ajF),(8,ajF),(9,(.str)),(10,(.str)),(11,(.str)),(12,(.int .u64)),(13,(.pair (.str) (.pair (.int .u64) ha))),(14,(.pair (.str) (.pair (.int .u64) ha))),(15,(.op 3)),(16,(.op 3)),(17,(.op 3)),(18,(.pair (.op 3) ha)),(19,(.pair (.op 3) ha)),(20,(.op 1)),(21,(.int .i32)),(22,(.ar 32 (.int .u8))),(23,(.sl zF)),(24,(.op 0)),(25,(.op 0)),(26,oE),(27,xG),(28,xG),(29,(.int .u64)),(30,(.ar 16 (.int .u64))),(31,X3),(32,X3),(33,mP),(34,mP),(35,PM),(36,PM),(37,zF),(38,zF),(39,(.sl oE)),(40,(.ar 4 (.bool))),(41,(.pair oE Cj)),(42,(.pair oE Cj)),(43,(.ar 4 (.pair oE Cj))),(44,(.ar 4 fp)),(45,X2),(46,X2),(47,(.sl mP)),(48,(.sl Fy)),(49,xF),(50,xF),(51,(.ar 2 xF)),(52,(.sl xG)),(53,PP),(54,PP),(55,(.sl Fz)),(56,(.ar 2 (.sl Fy))),(57,PQ),(58,PQ),(59,fp),(61,(.op 0)),(62,(.op 0)),(63,zF),(64,zF),(65,(.op 0)),(66,(.op 0)),(67,(.op 0)),(68,(.sl fp)),(70,(.op 0)),(71,(.sl fp)),(72,(.sl (.sl fp))),(74,(.op 0)),(76,(.op 0)),(77,(.op 0)),(78,(.op 0)),(79,(.ar 2 fp)),(80,(.op 0)),(81,(.op 0)),(82,(.op 0)),(84,(.op 0)),(85,(.op 0)),(86,(.op 0)),(87,Fy),(88,Fy),(89,(.op 0)),(91,(.op 0)),(92,(.op 0)),(93,(.op 0)),(95,(.op 2)),(96,(.op 0)),(97,(.op 3)),(98,(.pair PQ ha)),(99,(.pair PQ ha)),(100,(.op 0)),(101,(.op 0)),(102,(.ar 3 fp)),(103,(.sl (.ar 3 fp))),(104,(.sl mP)),(105,PN),(106,PN),(108,(.op 0)),(109,(.op 0)),(111,(.op 0)),(112,(.op 0)),(113,(.op 0)),(114,(.op 0)),(115,(.op 0)),(116,mP),(117,mP),(118,(.op 0)),(119,(.op 0)),(120,PO),(121,PO),(122,(.op 0)),(123,(.op 0)),(124,(.op 0)),(125,(.sl (.str))),(126,(.op 0)),(128,(.op 0)),(129,(.op 0)),(130,(.ar 10 fp)),(131,(.op 0)),(132,(.op 0)),(133,(.op 0)),(134,(.op 0)),(135,(.op 0)),(136,(.op 0)),(137,Fz),(138,Fz),(140,(.op 0)),(142,(.op 0)),(144,(.op 0)),(145,Cj),(146,Cj),(148,(.op 0)),(150,(.op 0)),(151,(.op 0)),(153,(.op 0)),(154,(.op 0)),(155,(.op 0)),(156,(.op 0)),(157,(.op 0)),(158,(.op 0)),(159,(.op 0)),(160,xG),(161,xG),(162,(.op 0)),(163,(.op 0)),(164,(.op 0)),(165,(.op 0)),(167,(.op 0)),(168,(.op 0)),(169,mP),(170,mP),(171,(.op 0)),(173,(.op 0)),(175,(.op 0)),(176,(.op 0)),(177,(.op 0)),(178,(.op 0)),(179,(.op 0)),(180,(.op 0)),(182,(.op 0)),(184,(.op 0)),(185,(.op 0)),(186,(.op 0)),(187,(.op 0)),(188,(.op 0)),(189,(.op 0)),(190,(.op 0)),(191,(.op 0)),(192,(.op 0)),(193,(.op 0)),(194,(.op 0)),(195,(.op 0)),(197,(.op 0)),(198,(.op 0)),(200,(.op 0)),(201,(.op 0)),(202,(.op 0)),(203,(.op 3)),(204,(.pair zF ha)),(205,(.pair zF ha)),(206,(.op 0)),(207,(.op 0)),(208,(.op 0)),(210,(.op 0)),(211,(.op 0)),(212,(.op 0)),(213,(.op 0)),(214,(.op 0)),(215,(.pair fp (.pair (.str) ha))),(216,(.pair fp (.pair (.str) ha))),(218,(.op 2)),(219,(.op 0)),(220,(.op 0)),(221,(.op 3)),(223,(.op 0)),(224,(.op 0)),(226,(.op 0)),(227,(.op 0)),(228,(.op 0)),(230,(.op 0)),(231,(.op 0)),(233,(.op 0)),(234,(.op 0)),(235,(.op 0)),(236,Ko),(237,Ko),(238,(.op 0)),(239,(.op 0)),(240,(.op 0)),(241,ajE),(242,ajE),(243,(.pair xF ha)),(244,(.pair xF ha)),(245,(.pair (.pair xF ha) (.pair PO ha))),(246,(.pair (.pair xF ha) (.pair PO ha))),(247,(.op 0)),(248,(.op 0)),(249,(.op 0)),(251,(.op 0)),(252,(.op 0)),(253,(.ar 9 (.str))),(254,(.int .u64)),(255,(.op 3)),(256,(.pair (.op 3) (.pair oE ha))),(257,(.pair (.op 3) (.pair oE ha))),(258,(.op 1)),(259,(.op 1)),(261,(.op 0)),(262,(.op 0)),(263,(.op 0)),(264,(.op 0)),(265,(.op 3)),(266,(.op 0)),(267,(.op 0)),(268,(.op 3)),(269,(.op 0)),(270,(.int .u32)),(271,(.ar 8 (.int .u32))),(272,(.pair (.ar 8 (.int .u32)) mP)),(273,(.pair (.ar 8 (.int .u32)) mP)),(274,(.op 0)),(275,(.op 0)),(276,(.op 0)),(277,(.op 0)),(278,(.op 0)),(280,(.op 0)),(281,(.op 0)),(283,(.op 0)),(284,(.op 0)),(286,(.op 0)),(288,(.op 0)),(290,(.op 0)),(292,(.op 0)),(293,(.op 1)),(294,(.op 1)),(295,(.op 0)),(296,(.pair Ko ha)),(297,(.pair Ko ha)),(298,(.op 0)),(299,(.pair PN ha)),(300,(.pair PN ha)),(301,(.op 0)),(302,(.op 0)),(303,(.op 0)),(304,(.op 0)),(306,(.op 0)),(308,(.op 0)),(309,(.op 0)),(311,(.op 0)),(312,(.op 0)),(313,(.op 0)),(314,(.op 0)),(315,(.op 3)),(316,(.op 0)),(317,(.op 0)),(319,(.op 0)),(321,(.op 0)),(322,(.op 0)),(323,(.op 0)),(325,(.op 0)),(326,(.op 2)),(327,(.op 0)),(329,(.pair PM ha)),(330,(.op 0)),(331,(.op 0)),(332,(.op 0)),(333,(.op 0)),(334,(.op 0)),(335,(.op 0)),(336,(.op 0)),(337,(.op 3)),(339,(.op 0)),(340,(.op 0)),(341,(.op 0)),(345,ha),(346,(.op 0)),(347,(.op 0)),(348,(.op 0)),(350,(.ar 4 fp)),(370,(.ar 64 (.int .u32))),(373,(.sl (.int .u32))),(380,(.fn [324])),(382,(.pair (.sl mP) (.pair (.fn [324]) ha))),(393,(.ar 3 mP)),(400,(.op 0)),(408,(.pair (.op 0) (.pair (.op 0) ha))),(410,(.op 2)),(414,(.fn [339,340,341,342])),(416,Ko),(418,(.op 0)),(419,xG),(424,(.op 0)),(427,(.sl (.op 3))),(432,(.fn [333])),(434,(.sl (.sl mP)))]
def Yv:List (Nat×ag×ag):=[(95,.int .i64,.op 0),(326,.int .i64,.int .i64),(410,.int .i64,.pair (.op 0) (.pair (.op 0) (.unit)))]
def Yc:List Nat:=[32,44,79]
def tD:nP Tryz.prog (D_ Qh):=aiR _ _ (by kernel_rfl)
def aqW:qj Tryz.prog (D_ Qh) (Il Yc):=aaA _ _ _ (by kernel_rfl)
def aq2:ru Tryz.prog (Im Yv):=aeS _ _ (by kernel_rfl)
def wA:Tryz.prog.follows .mixedOrders=true:=by kernel_rfl
def aqZ : ∀ g, (some 3 : Option Nat) = some g → Tryz.prog.globalNamed "yett/sha.keys" = some g := by intro g h; cases h; kernel_rfl
abbrev ga(G:List (Nat×e6))(I:List (Nat×gz))(X:List (Nat×i5))(Q:List (Nat×oJ))(Pn:Option (Nat×Nat))(U A:Bool)(b:Nat):dk:={ bv:=D_ Qh,G:=vo G,I:=vp I,M:=Im Yv,C:=Il Yc,K:=some 3,X:=yS X,Q:=D9 Q,Pn:=Pn,U:=U,A:=A,b:=b }
def sE(m t:Nat):(none:Option (Nat×Nat))=some (m,t)->zW Tryz.prog m t:=λh=>by cases h
def rz{E:dk}(f:Nat)(s:oJ):D9 [] f=some s->FP Tryz.prog E f s:=λh=>by cases h
def qF{G:List (Nat×e6)}{I:List (Nat×gz)}{X:List (Nat×i5)}{Q:List (Nat×oJ)}{Pn:Option (Nat×Nat)}{A:Bool}(dC:∀f s,vo G f=some s->gK Tryz.prog f s)(dW:∀f g,vp I f=some g->kK Tryz.prog f g)(dq:∀f s,yS X f=some s->i4 Tryz.prog f s)
  (lD:∀f s,D9 Q f=some s->FP Tryz.prog (ga G I X Q Pn U A b) f s) (mx:∀m t,Pn=some (m,t)->zW Tryz.prog m t):oH Tryz.prog (ga G I X Q Pn U A b):=⟨tD,aqW,aq2,dC,aqZ,dW,dq,lD,mx⟩
abbrev FK:=gK Tryz.prog
abbrev IK:=kK Tryz.prog
def Nj {E : dk} (bQ : oH Tryz.prog E)  {fn : Func} {s : e6} (hf : Tryz.prog.funcs[f]? = some fn) (nv : Nat) (ak : (fn.name == "runtime.NumGoroutine") = false := by kernel_rfl) (aa : fn.body.isSome = true := by kernel_rfl) (aC : ∀ x, Nk E fn nv s.args s.res x = s.fn x) : gK Tryz.prog f s := (avG bQ wA hf ak nv s.args s.res aa).congr aC
def avy {E : dk} (bQ : oH Tryz.prog E)  {fn : Func} {s : i5} (hf : Tryz.prog.funcs[f]? = some fn) (nv : Nat) (ak : (fn.name == "runtime.NumGoroutine") = false := by kernel_rfl) (aa : fn.body.isSome = true := by kernel_rfl) (aC : ∀ x, Ir E fn nv s.ty s.args s.res x = s.fn x) : i4 Tryz.prog f s := (avD bQ wA hf ak nv s.ty s.args s.res aa).congr aC
def avA {E : dk} (bQ : oH Tryz.prog E)  {fn : Func} {s : oJ}  (m3 : E.Pn = some (m, bf)) (hf : Tryz.prog.funcs[f]? = some fn) (nv : Nat) (ak : (fn.name == "runtime.NumGoroutine") = false := by kernel_rfl) (aa : fn.body.isSome = true := by kernel_rfl) (aC : ∀ x, Nl E fn nv s.ty s.args [.im s.rt] x = s.fn x) : vZ Tryz.prog f bf s.ty s.args [.im s.rt] s.fn := (avF bQ wA hf ak nv s.ty s.args [.im s.rt] aa m3).congr aC
def avz {E EC : dk} (bQ : oH Tryz.prog E) (rf : oH Tryz.prog EC) {F:Nat} {fn fj : Func} {s : e6}  (m3 : E.Pn = some (m, bf)) (hf : Tryz.prog.funcs[f]? = some fn) (dn : Tryz.prog.funcs[F]? = some fj) (nv mG : Nat) (ak : (fn.name == "runtime.NumGoroutine") = false := by kernel_rfl) (asO : (fj.name == "runtime.NumGoroutine") = false) (aa : fn.body.isSome = true := by kernel_rfl)
  (Td:∀c A B q,fn.body=some c->zo c=some (A,q,B)->q.2.1=F) (aC:∀x,U7 E EC fn fj nv mG bf s.args s.res x=s.fn x):gK Tryz.prog f s:=(avE bQ rf wA hf ak dn asO nv mG s.args s.res m3 aa Td).congr aC
def aeX {E : dk} (bQ : oH Tryz.prog E)  {fn : Func} (hf : Tryz.prog.funcs[f]? = some fn) (nv : Nat) (ak : (fn.name == "runtime.NumGoroutine") = false := by kernel_rfl) (aa : fn.body.isSome = true := by kernel_rfl) : kK Tryz.prog f (jj E fn nv) := aun bQ wA hf ak nv aa
def avB{G:List (Nat×e6)}{I:List (Nat×gz)}{X:List (Nat×i5)}{Q:List (Nat×oJ)}{A:Bool}{s:oJ}(h:vZ Tryz.prog f bf s.ty s.args [.im s.rt] s.fn):∀g t,D9 [(f,s)] g=some t->FP Tryz.prog (ga G I X Q (some (m,bf)) U A b) g t:=by
 intro g t ab;simp only[D9]at ab;cases aa:Nat.beq f g with
 |true=>rw[aa]at ab;cases ab;rw[<- fU aa];exact⟨m,bf,rfl,h⟩
 |false=>rw[aa]at ab;cases ab
def bb {G : List (Nat × e6)} {I : List (Nat × gz)} (dC : ∀ f s, vo G f = some s → gK Tryz.prog f s) (dW : ∀ f g, vp I f = some g → kK Tryz.prog f g)  {fn : Func} {s : e6} (hf : Tryz.prog.funcs[f]? = some fn) (nv : Nat) (ak : (fn.name == "runtime.NumGoroutine") = false := by kernel_rfl) (aa : fn.body.isSome = true := by kernel_rfl) (aC : ∀ x, Nk (ga G I [] [] none false false 0) fn nv s.args s.res x = s.fn x := by intro x; kernel_rfl) : gK Tryz.prog f s := Nj (qF dC dW jR rz sE) hf nv ak aa aC
def qh {G : List (Nat × e6)} {I : List (Nat × gz)} {X : List (Nat × i5)} (dC : ∀ f s, vo G f = some s → gK Tryz.prog f s) (dW : ∀ f g, vp I f = some g → kK Tryz.prog f g) (dq : ∀ f s, yS X f = some s → i4 Tryz.prog f s)  {fn : Func} {s : i5} (hf : Tryz.prog.funcs[f]? = some fn) (nv : Nat) (ak : (fn.name == "runtime.NumGoroutine") = false := by kernel_rfl) (aa : fn.body.isSome = true := by kernel_rfl) (aC : ∀ x, Ir (ga G I X [] none false false 0) fn nv s.ty s.args s.res x = s.fn x := by intro x; kernel_rfl) : i4 Tryz.prog f s := avy (qF dC dW dq rz sE) hf nv ak aa aC
def kO {G : List (Nat × e6)} {I : List (Nat × gz)} {A:Bool}  (dC : ∀ f s, vo G f = some s → gK Tryz.prog f s) (dW : ∀ f g, vp I f = some g → kK Tryz.prog f g)  {fn : Func} (hf : Tryz.prog.funcs[f]? = some fn) (nv : Nat) (ak : (fn.name == "runtime.NumGoroutine") = false := by kernel_rfl) (aa : fn.body.isSome = true := by kernel_rfl) : kK Tryz.prog f (jj (ga G I [] [] none U A b) fn nv) := aeX (qF dC dW jR rz sE) hf nv ak aa
def avI(b:Bool)(k:Nat)(w:World):Calls Tryz.prog 240 #[.bool b,.int .i64 (k:Int)] w λe w'=>w'=w/\e=if b then .returned (.tuple #[]) else .panicked [{ v:=.iface 59 (.int .i64 (k:Int)),recovered:=false }]:=by
 cases b with
 |true=>
  go_enter Tryz.func240,Tryz.ntmps240
  go_wp2
  exact⟨rfl,.tuple #[],by kernel_rfl,rfl,rfl⟩
 |false=>
  go_enter Tryz.func240,Tryz.ntmps240
  go_wp2
  have ai:(Instr.panic (Value.iface 59 (Value.int IntKind.i64 ↑k))).run Tryz.prog w=.halt (.panic (Value.iface 59 (Value.int IntKind.i64 ↑k))) w:=rfl;rw[ai];exact⟨rfl,rfl,rfl⟩
def ae4(m t:Nat):(some (240,59):Option (Nat×Nat))=some (m,t)->zW Tryz.prog m t:=λh=>by cases h;exact⟨⟨_,Tryz.func240,by kernel_rfl,by kernel_rfl⟩,avI⟩
abbrev Jr:e6:=⟨[oE,oE],[.im (.bool)],D'⟩
def Rq:FK 306 Jr:=bb aZ a1 func306 7
def Zl:FK 327 ⟨[fp],[.im fp,.im (.int .u8)],uP⟩:=bb aZ a1 func327 4
end Yp
namespace Yp
open Go Go.Proofs
set_option maxRecDepth 100000
def F6:=@Eq.trans
def I0(c:Code):Code:=match c with|.seq a _=>a|_=>.skip
def I1(c:Code):Code:=match c with|.seq _ (.seq (.seq c _) _)=>c|_=>.skip
def NM(c:Code):Code:=match c with|.seq _ (.seq (.seq _ (.cond _ x _)) _)=>x|_=>.skip
def NN(c:Code):Code:=match c with|.seq _ (.seq _ z)=>z|_=>.skip
def np(f:Func):Code:=f.body.getD .skip
def Nu(f:Func)(nv:Nat)(ts:List ag)(rs:List eC)(x:iu ts):aP (ko (eq rs)):=
 fill f.ntmps (n4 ts x) 0 .e λt=>aP.bind (run (ga [] [] [] [] none false false 0) rs f.results.toList nv f.ntmps false (I0 (np f)) ⟨t,[],[]⟩) fun|.nx s=>run (ga [] [] [] [] none false false 0) rs f.results.toList nv f.ntmps false (I1 (np f)) s|o=>.leaf o
def x?{a r:α}(h:an c (some a)=some r):c=true/\a=r:=by
 cases c
 .cases h
 exact⟨rfl,ps h⟩
def Nc{l:List α}(h:aj (len l) 0=true):l=[]:=by
 have R:len l=0:=by unfold aj at h;exact beq_iff_eq.1 h
 unfold len at R;exact iR.1 J
abbrev ahf:e6:=⟨[.sl (.int .u8)],[.ow (.int .u8)],Lk⟩
def arb:gK Tryz.prog 264 ahf:=by
 refine Nv (E:=ga [] [] [] [] none false false 0) (qF aZ a1 jR rz sE) wA Tryz.func264 (by kernel_rfl) 3 _ _ (A:=I0 (np Tryz.f264)) (C:=I1 (np Tryz.f264)) (X:=NM (np Tryz.f264)) (Z:=NN (np Tryz.f264)) (k:=4) (by kernel_rfl) ir
  (λx=>M' (Nu Tryz.f264 3 [.sl (.int .u8)] [.ow (.int .u8)] x)) (λx=>aj (len (x.1:V)) 0) (λx=>by kernel_rfl) (λx=>by kernel_rfl) (λx r ah hm => ?_) (λx r hm => ?_)
 .obtain⟨l,⟨⟩⟩:=x
  obtain⟨_,rfl⟩:=x? (show an (ci 1 (aV (l:V))) (some ((l:V),()))=some r from hm);obtain rfl:l=([]:V):=Nc ah;kernel_rfl
 have h:an (ci 1 (bI (aV ([]:V)) (aV (x.1:V)))) (some (aF.rt (σ:=aM) (cg ([]:V) (x.1:V),())))=some (.rt r):=by obtain⟨O,rfl⟩:=x? (show an (ci 1 (aV (x.1:V))) (some ((x.1:V),()))=some r from hm);rw[show bI (aV ([]:V)) (aV (x.1:V))=aV (x.1:V) from lT _,O];rfl
 exact F6 (by kernel_rfl) h
abbrev ahH:e6:=⟨[.sl (.sl (.int .u8))],[.ow (.sl (.int .u8))],aio⟩
def arh:gK Tryz.prog 163 ahH:=by
 refine Nv (E:=ga [] [] [] [] none false false 0) (qF aZ a1 jR rz sE) wA Tryz.func163 (by kernel_rfl) 3 _ _ (A:=I0 (np Tryz.f163)) (C:=I1 (np Tryz.f163)) (X:=NM (np Tryz.f163)) (Z:=NN (np Tryz.f163)) (k:=4) (by kernel_rfl) ir
  (λx=>M' (Nu Tryz.f163 3 [.sl (.sl (.int .u8))] [.ow (.sl (.int .u8))] x)) (λx=>aj (len (x.1:List V)) 0) (λx=>by kernel_rfl) (λx=>by kernel_rfl) (λx r ah hm => ?_) (λx r hm => ?_)
 .obtain⟨l,⟨⟩⟩:=x
  obtain⟨_,rfl⟩:=x? (show an (ci 32 (aV (l:List V))) (some ((l:List V),()))=some r from hm);obtain rfl:l=([]:List V):=Nc ah;kernel_rfl
 have h:an (ci 32 (bI (aV ([]:List V)) (aV (x.1:List V)))) (some (aF.rt (σ:=aM) (cg ([]:List V) (x.1:List V),())))=some (.rt r):=by obtain⟨O,rfl⟩:=x? (show an (ci 32 (aV (x.1:List V))) (some ((x.1:List V),()))=some r from hm);rw[show bI (aV ([]:List V)) (aV (x.1:List V))=aV (x.1:List V) from lT _,O];rfl
 exact F6 (by kernel_rfl) h
abbrev ahG:e6:=⟨[.sl (.int .u8)],[.ow (.int .u8)],nO⟩
def arg:gK Tryz.prog 97 ahG:=by
 refine Nv (E:=ga [] [] [] [] none false false 0) (qF aZ a1 jR rz sE) wA Tryz.func97 (by kernel_rfl) 3 _ _ (A:=I0 (np Tryz.f97)) (C:=I1 (np Tryz.f97)) (X:=NM (np Tryz.f97)) (Z:=NN (np Tryz.f97)) (k:=4) (by kernel_rfl) ir
  (λx=>M' (Nu Tryz.f97 3 [.sl (.int .u8)] [.ow (.int .u8)] x)) (λx=>aj (len (x.1:V)) 0) (λx=>by kernel_rfl) (λx=>by kernel_rfl) (λx r ah hm => ?_) (λx r hm => ?_)
 .obtain⟨l,⟨⟩⟩:=x
  obtain⟨_,rfl⟩:=x? (show an (ci 1 (aV (l:V))) (some ((l:V),()))=some r from hm);obtain rfl:l=([]:V):=Nc ah;kernel_rfl
 have h:an (ci 1 (bI (aV ([]:V)) (aV (x.1:V)))) (some (aF.rt (σ:=aM) (cg ([]:V) (x.1:V),())))=some (.rt r):=by obtain⟨O,rfl⟩:=x? (show an (ci 1 (aV (x.1:V))) (some ((x.1:V),()))=some r from hm);rw[show bI (aV ([]:V)) (aV (x.1:V))=aV (x.1:V) from lT _,O];rfl
 exact F6 (by kernel_rfl) h
abbrev ahF:e6:=⟨[.sl (.pair (.int .i64) (.pair (.int .i64) (.pair (.sl (.int .u8)) (.unit))))],[.ow (.pair (.int .i64) (.pair (.int .i64) (.pair (.sl (.int .u8)) (.unit))))],JK⟩
def arf:gK Tryz.prog 76 ahF:=by
 refine Nv (E:=ga [] [] [] [] none false false 0) (qF aZ a1 jR rz sE) wA Tryz.func76 (by kernel_rfl) 3 _ _ (A:=I0 (np Tryz.f76)) (C:=I1 (np Tryz.f76)) (X:=NM (np Tryz.f76)) (Z:=NN (np Tryz.f76)) (k:=4) (by kernel_rfl) ir
  (λx=>M' (Nu Tryz.f76 3 [.sl (.pair (.int .i64) (.pair (.int .i64) (.pair (.sl (.int .u8)) (.unit))))] [.ow (.pair (.int .i64) (.pair (.int .i64) (.pair (.sl (.int .u8)) (.unit))))] x)) (λx=>aj (len (x.1:List (Int×Int×V×Unit))) 0) (λx=>by kernel_rfl) (λx=>by kernel_rfl) (λx r ah hm => ?_) (λx r hm => ?_)
 .obtain⟨l,⟨⟩⟩:=x
  obtain⟨_,rfl⟩:=x? (show an (ci 80 (aV (l:List (Int×Int×V×Unit)))) (some ((l:List (Int×Int×V×Unit)),()))=some r from hm);obtain rfl:l=([]:List (Int×Int×V×Unit)):=Nc ah;kernel_rfl
 have h:an (ci 80 (bI (aV ([]:List (Int×Int×V×Unit))) (aV (x.1:List (Int×Int×V×Unit))))) (some (aF.rt (σ:=aM) (cg ([]:List (Int×Int×V×Unit)) (x.1:List (Int×Int×V×Unit)),())))=some (.rt r):=by obtain⟨O,rfl⟩:=x? (show an (ci 80 (aV (x.1:List (Int×Int×V×Unit)))) (some ((x.1:List (Int×Int×V×Unit)),()))=some r from hm);rw[show bI (aV ([]:List (Int×Int×V×Unit))) (aV (x.1:List (Int×Int×V×Unit)))=aV (x.1:List (Int×Int×V×Unit)) from lT _,O];rfl
 exact F6 (by kernel_rfl) h
end Yp
namespace Yp
open Go Go.Proofs Go.RowKit Go.Shelf
def p4:=@List.nil_append
def uv:=@Array.replicate_zero
def zT:=@List.append_toArray
def xY:=@List.push_toArray
def Cv:=@List.filter_append
def zN:=@List.range_succ
attribute [local go_sem] Oper.semAt_some
def jt(res:Nat->Bool)(k:Nat):List Nat:=(List.range k).filter res
def ado(res:Nat->Bool)(k:Nat):jt res (k+1)=jt res k++if res k=true then[k]else[]:=by
 unfold jt;rw[zN,Cv]
 grind
def asy(res:Nat->Bool)(k:Nat):(jt res k).length<=k:=by have:=ls res (List.range k);unfold jt;simpa using this
set_option maxRecDepth 100000 in
set_option maxHeartbeats 2000000 in
def apW(n l FC zJ n₀ b off cap N:Nat)(ad:Option Addr)(Br I3:Value)(bH:Nat->Value×Value)(res:Nat->Bool)(je:∀j,∃a n c a' n' cO,bH j=(.slice a n c,.slice a' n' cO))(fM:N<=9223372036854775807)(aa:0<N->ad=some ⟨b,off,none⟩/\b<n₀)(h_ s':List Nat->World->Prop)
  (le:∀s W gh,h_ s W->Below W.heap.size W gh->h_ s gh)
  (wC:∀(pre:List Nat) (x:Nat) W,h_ pre W->x<N->res x=true->pre.length<N->YieldAt Fence.wide n Tryz.prog l #[.int .i64 (x:Int)] W λe gh=>
   (e=.returned (.bool true)/\h_ (pre++[x]) gh/\Below n₀ W gh)\/(e=.returned (.bool false)/\s' (pre++[x]) gh))
  (W:World) (aqT:W.cell? ⟨FC,0,none⟩=some (.slice ad N cap)) (aqQ:W.cell? ⟨zJ,0,none⟩=some (.func (.func 316) #[.agg #[Br,I3]] #[])) (aqU:FC<n₀) (acJ:zJ<n₀) (ak:n₀<=W.heap.size)
  (oe:∀j,j<N->W.cell? ⟨b,off+j*2,none⟩=some (bH j).1) (tG:∀j,j<N->W.cell? ⟨b,off+j*2+1,none⟩=some (bH j).2)
  (Te:∀j,j<N->∀w,Below n₀ W w->CallsIn Fence.wide n Tryz.prog 316 #[.agg #[Br,I3],.agg #[(bH j).1,(bH j).2]] w λe w'=>e=.returned (.bool (res j))/\Below w.heap.size w w') (aq:h_ [] W) :
  CallsIn Fence.wide (n+1) Tryz.prog 343 #[.func (.yield l) #[] #[],.pointer (some ⟨FC,0,none⟩),.pointer (some ⟨zJ,0,none⟩)] W λe gh=>(∃v,e=.returned v) /\
   (h_ (jt res N) gh\/(∃k,k<=N/\s' (jt res k) gh)):=by
 have aCp:Fence.wide.fn 316:=trivial;refine callsIn_of_wp Tryz.func343 rfl trivial ?_ rfl;simp only[Tryz.ntmps343,p3,gL,j4,Nat.reduceAdd,Nat.reduceSub,q3,uv,xY,zT,p4,mi]
 gi_wp2
 gi_loopw [8] (λi wr=>∃k:Nat,k<=N/\i=.int .i64 k/\h_ (jt res k) wr/\Below n₀ W wr/\W.heap.size<=wr.heap.size)
  (λi _=>N-(intOf i).toNat)
 case atStart=>exact⟨0,J,rfl,aq,Below.refl _ _,b1 _⟩
 case round=>
  obtain⟨k,am,rfl,Dx,oY,cZ⟩:=hrel;have aB6:wr.cell? ⟨FC,0,none⟩=some (.slice ad N cap):=(oY.cell (p:=⟨FC,0,none⟩) aqU).trans aqT;have aqR:wr.cell? ⟨zJ,0,none⟩=some (.func (.func 316) #[.agg #[Br,I3]] #[]):=(oY.cell (p:=⟨zJ,0,none⟩) acJ).trans aqQ;by_cases bn:k<N
  .have wK:(k:Int)<(N:Int):=J
   obtain⟨rfl,u7⟩:=aa J;have ea:wr.cell? ⟨b,off+k*2,none⟩=some (bH k).1:=(oY.cell (p:=⟨b,off+k*2,none⟩) u7).trans (oe k bn);have e1:wr.cell? ⟨b,off+k*2+1,none⟩=some (bH k).2:=(oY.cell (p:=⟨b,off+k*2+1,none⟩) u7).trans (tG k bn);have Tf:=Te k bn;have aq9:=wC (jt res k) k;obtain⟨cN,me,c1,cX,jC,c2,ar6⟩:=je k;rw[ar6]at ea e1 Tf;dsimp only at ea e1 Tf;have hb3:Below wr.heap.size wr (wr.alloc (.cells #[.slice cN me c1,.slice cX jC c2] 161)):=(Below.refl _ _).alloc (b1 _) _;have DO:n₀<=wr.heap.size:=hH ak cZ;have aB5:(wr.alloc (.cells #[.slice cN me c1,.slice cX jC c2] 161)).cell? ⟨zJ,0,none⟩=some (.func (.func 316) #[.agg #[Br,I3]] #[]):=(hb3.cell (p:=⟨zJ,0,none⟩) (gN acJ DO)).trans aqR;have Ms:=Tf _ (oY.trans (hb3.mono DO));have acO:=le _ _ _ Dx hb3;cases hh:res k
   .rw[hh]at Ms
    have oi:jt res (k+1)=jt res k:=by rw[ado,hh,if_neg bp,nU]
    gi_wp2_with (gi_at_call 316;refine Ms.mono ?_;rintro e co ⟨rfl,hb1⟩)
    refine⟨λ_ _=>trivial,?_⟩
    gi_wp2
    refine⟨⟨k+1,J,bp,by rw[oi];exact le _ _ _ acO hb1,(oY.trans (hb3.mono DO)).trans (hb1.mono (hH DO hb3.size)),hH cZ (hH hb3.size hb1.size)⟩,?_⟩;simp[intOf];omega
   rw[hh]at Ms;have oi:jt res (k+1)=jt res k++[k]:=by rw[ado,hh,if_pos rfl]
   have hl:=asy res k
   gi_wp2_with (gi_at_call 316;refine Ms.mono ?_;rintro e co ⟨rfl,hb1⟩;obtain⟨fn,tmps,assign,body,hy,jq⟩:=aq9 co (le _ _ _ acO hb1) bn hh J)
   refine jq.mono ?_;rintro e aki (⟨rfl,Tg,fC⟩|⟨rfl,Th⟩)
   .gi_wp2
    refine⟨⟨k+1,J,bp,by rw[oi];exact Tg,((oY.trans (hb3.mono DO)).trans (hb1.mono (hH DO hb3.size))).trans fC,hH cZ (hH (hH hb3.size hb1.size) fC.size)⟩,?_⟩;simp[intOf];omega
   gi_wp2
   refine bodyPost_ret (results_none rfl _ _ _) rfl ?_;exact⟨⟨_,rfl⟩,.inr ⟨k+1,J,by rw[oi];exact Th⟩⟩
  have rj:k=N:=J;subst rj;have wK:¬((k:Nat):Int)<(k:Int):=J
  gi_wp2
  go_end0
  exact⟨⟨_,rfl⟩,.inl Dx⟩
set_option maxRecDepth 100000 in
def apX(m:Nat)(a:Option Addr)(n cap:Nat)(f:Value)(w:World)(aB:f.oneCell'=true):CallsIn Fence.wide m Tryz.prog 317 #[.slice a n cap,f] w λe w'=>e=.returned (.func (.func 343) #[] #[.pointer (some ⟨w.heap.size,0,none⟩),.pointer (some ⟨w.heap.size+1,0,none⟩)])/\w'=(w.alloc (.cells #[.slice a n cap] 52)).alloc (.cells #[f] 418):=by
 refine callsIn_of_wp Tryz.func317 rfl trivial ?_ rfl;simp only[Tryz.ntmps317,p3,gL,j4,Nat.reduceAdd,Nat.reduceSub,q3,uv,xY,zT,p4,mi]
 gi_wp2
 go_ret
 exact⟨rfl,rfl⟩
end Yp
namespace Yp
open Go
def e0:=@List.take_succ_eq_append_getElem
def e7:=@Int.toNat_natCast
def k6:=@List.getElem_mem
def nj:=@List.getElem_map
def q4:=@List.getElem_range
def pq:=@List.ext_getElem
def xJ:=@BitVec.ofInt_natCast
def xQ:=@UInt8.toNat_inj
def zP:=@Nat.pow_le_pow_right
def KJ:=@Nat.two_pow_add_eq_or_of_lt
def Cw:=@BitVec.toNat_ofNat
def Qx:=@Nat.pow_succ
def F9:=@Nat.div_eq_of_lt
def Qo:=@Int.ofNat.inj
def wa:=@List.getElem_set
def Qt:=@Nat.pow_pos
def Yj:=@UInt8.toNat_ofNat
def Yk:=@List.foldl_append
def FG:=@Nat.mul_assoc
def Kw:=@Int.natCast_pow
def DA:=@Nat.pow_add
def UO:=@Nat.lt_irrefl
def UX{σ ρ:Type}{f:σ->Option (aF σ ρ)}:∀{n m:Nat} {x:σ} {r:aF σ ρ},o1 f n x=some r->n<=m->o1 f m x=some r
 |n+1,m+1,x,r,h,hm=>by
  simp only[o1]at h ⊢;split at h
  .exact UX h J
  exact h
def vq{f:σ->Option (aF σ ρ)}{x:σ}{r:aF σ ρ}(n:Nat)(h:o1 f n x=some r):bK f x=some r:=by
 have u?:∃n,(o1 f n x).isSome:=⟨n,by rw[h];rfl⟩;unfold bK;have ab:=Classical.choose_spec u?;obtain⟨rI,ai⟩:=Option.isSome_iff_exists.1 ab;have O:=UX ai (Nat.le_max_left _ n);have R:=UX h (Nat.le_max_right (Classical.choose u?) n)
 grind
def ev{f:σ->Option (aF σ ρ)}{x y:σ}(h:f x=some (.nx y)):bK f x=bK f y:=by
 cases hy:bK f y with
 |some r =>obtain⟨n,ak⟩:=UY hy;exact vq (n+1) (by simp[o1,h,ak])
 |none=>
  cases hx:bK f x with
  |none=>rfl
  |some r=>
   obtain⟨n,ak⟩:=UY hx;cases n with
   |zero=>simp[o1]at ak
   |succ n =>simp only[o1,h]at ak;rw[vq n ak]at hy;cases hy
def ec{f:σ->Option (aF σ ρ)}{x y:σ}{k:Nat}(h:f x=some (.ex k y)):bK f x=some (.ex k y):=vq 1 (by simp[o1,h])
def o2{f:σ->Option (aF σ ρ)}{x:σ}{r:ρ}(h:f x=some (.rt r)):bK f x=some (.rt r):=vq 1 (by simp[o1,h])
def lh{f:σ->Option (aF σ ρ)}(bS:Nat->σ)(n:Nat)(h:∀i,i<n->f (bS i)=some (.nx (bS (i+1)))):∀i,i<=n->bK f (bS i)=bK f (bS n):=by
 intro i ac;obtain⟨d,rfl⟩:∃d,n=i+d:=⟨n-i,J⟩;clear ac;induction d generalizing i with
 |zero=>rfl
 |succ d ih =>rw[ev (h i J)];have:=ih (i+1) (λj ap=>h j J);rw[this];congr 2;omega
def iJ{n:Int}(O : -9223372036854775808<=n)(R:n<=9223372036854775807):i64 n=n:=by
 show(if(true&&decide (n%18446744073709551616 ≥ 9223372036854775808))=true then n%18446744073709551616-18446744073709551616 else n%18446744073709551616)=n
 grind
theorem E0(a b:α):T true a b=a:=rfl
theorem BK(a b:α):T false a b=b:=rfl
theorem ya(a:Option α):an true a=a:=rfl
theorem Vn(a:α)(k:α->Option β):ob (some a) k=k a:=rfl
end Yp
namespace Yp
open Go
def dr{o:Option α}{a:α}{k:α->Option β}(h:o=some a):ob o k=k a:=by rw[h];rfl
def b4{a b:α}(h:c=true):T c a b=a:=by rw[h];rfl
def bT{a b:α}(h:c=false):T c a b=b:=by rw[h];rfl
def eV{a:Option α}(h:c=true):an c a=a:=by rw[h];rfl
def cW{o dz:Option (aF σ ρ)}{kn:σ->Option β}{hB:Nat->σ->Option β}{hR:ρ->Option β}(h:o=dz):cb o kn hB hR=cb dz kn hB hR:=by rw[h]
def vr{f:σ->Option (aF σ ρ)}(bS:Nat->σ)(n:Nat)(p:Nat->Prop)(r:ρ)(k:Nat)(ab:∀i,i<n->(∀j,j<=i->p j)->f (bS i)=some (.nx (bS (i+1))))(aa:∀i,i<n->(∀j,j<i->p j)->¬p i->f (bS i)=some (.rt r))
  (aC:(∀i,i<n->p i)->f (bS n)=some (.ex k (bS n))):((∀i,i<n->p i)/\bK f (bS 0)=some (.ex k (bS n)))\/((∃i,i<n/\¬p i)/\bK f (bS 0)=some (.rt r)):=by
 by_cases h:∀i,i<n->p i
 .refine .inl ⟨h,?_⟩
  rw[lh bS n (λi ac=>ab i ac λj ap=>h j J) 0 (nV _)];exact ec (aC h)
 refine .inr ?_;have u?:∃i,i<n/\¬p i:=by refine iQ λah=>h λi ac=>iQ λhp=>ah ⟨i,ac,hp⟩
 refine⟨u?,?_⟩;obtain⟨k,am,hp⟩:=u?;induction k using Nat.strongRecOn with
 |_ k ih=>
  by_cases hl:∃j,j<k/\¬p j
  .obtain⟨j,ap,TY⟩:=hl
   exact ih j ap J TY
  have hall:∀i,i<k->p i:=λi ac=>iQ λhp=>hl ⟨i,ac,hp⟩;rw[lh bS k (λi ac=>ab i J λj ap=>hall j J) 0 (nV _)];exact o2 (aa k am hall hp)
def w4{a:Nat}:aH (a:Int) (b:Int)=decide (a<b):=by unfold aH;rw[decide_eq_decide];omega
def au4{a:Nat}:b3 (a:Int) (b:Int)=decide (a<=b):=by unfold b3;rw[decide_eq_decide];omega
def di{b:Int}(h:a<b):aH a b=true:=decide_eq_true h
def cR{b:Int}(h:¬a<b):aH a b=false:=decide_eq_false h
def lH{b:Int}(h:a<=b):b3 a b=true:=decide_eq_true h
def oo{b:Int}(h:¬a<=b):b3 a b=false:=decide_eq_false h
def cI{b:Int}(h:a=b):aj a b=true:=by unfold aj;exact beq_iff_eq.2 h
def cv{b:Int}(h:¬a=b):aj a b=false:=by unfold aj;exact beq_eq_false_iff_ne.2 h
def WA{a b:V}(h:a=b):seq a b=true:=by unfold seq;exact beq_iff_eq.2 h
def OG{a b:V}(h:¬a=b):seq a b=false:=by unfold seq;exact beq_eq_false_iff_ne.2 h
def Ej{a:Nat}(h:a<b):kz a b=true:=by unfold kz;rw[P?];exact h
def Vb{a:Nat}(h:¬a<b):kz a b=false:=by
 unfold kz;cases aa:Nat.blt a b with
 |false=>rfl
 |true=>rw[P?]at aa;exact absurd aa h
def iA{a:Nat}(h:a<n):aN (a:Int) (n:Int)=true:=by simp only[aN,cP,decide_eq_true_eq];omega
def Ut{n:Int}(aq:0<=a)(h:a<n):aN a n=true:=by simp only[aN,cP,decide_eq_true_eq];omega
def vi{b n:Int}(aq:0<=a)(h:a<=b)(bE:b<=n):b8 a b n=true:=by simp only[b8,cP,decide_eq_true_eq];omega
def mJ{c:Nat}(h:n*c<=140737488355328):ci c n=true:=decide_eq_true h
def vh(h:n<=9223372036854775807):i64 (n:Int)=(n:Int):=iJ J J
theorem au9(l:List α):len l=((l.length:Nat):Int):=rfl
def nth_get{l:List α}{d:α}(h:i<l.length):ao l i d=l[i]:=by simp[ao,lS,h]
def yY(x:UInt8):x.toNat<256:=x.toNat_lt
def XB(q:Nat):u8 (q:Int)=UInt8.ofNat q:=by
 apply xQ.1;unfold u8;have O:(UInt8.ofInt (q:Int)).toNat=q%256:=by simp[UInt8.ofInt,Yj];omega
 rw[O];simp
def aCH(b n:Nat):((b:Int)^n)=((b^n:Nat):Int):=(Kw b n).symm
def aaY{l:V}(h:i<l.length)(hl:l[i].toNat<128):h? l i=(l[i].toNat,1):=by
 have aa:((⟨l.toArray⟩:ByteArray).get! (i+0)).toNat=l[i].toNat:=by show(l.toArray[i+0]!).toNat=_;simp[h]
 unfold h? Utf8.decode;simp only[aa];rw[if_pos hl]
def aoz{l:V}(h:i<l.length)(hl:¬l[i].toNat<128):128<=(h? l i).1/\(h? l i).1<=1114111:=by
 have aa:((⟨l.toArray⟩:ByteArray).get! (i+0)).toNat=l[i].toNat:=by show(l.toArray[i+0]!).toNat=_;simp[h]
 have acF:=yY l[i];unfold h? Utf8.decode;simp only[aa,if_neg hl,Utf8.runeError];have b:∀k,((⟨l.toArray⟩:ByteArray).get! k).toNat<256:=λk=>yY _;generalize l[i].toNat=c at *
 repeat' split
 all_goals simp only
 all_goals (rename_i ah aJ;simp only[cP,decide_eq_true_eq,beq_iff_eq,Utf8.valid,zM]at ah aJ;omega)
def aua{a:Nat}:aE (a:Int) (b:Int)=((a+b:Nat):Int):=by simp[aE]
def aud{a:Nat}:fv (a:Int) (b:Int)=((a*b:Nat):Int):=by simp[fv]
def avM{a:Nat}(h:b<=a):bq (a:Int) (b:Int)=((a-b:Nat):Int):=by simp only[bq];omega
def aub{a:Nat}:gd (a:Int) (b:Int)=((a/b:Nat):Int):=by simp;exact(Int.ofNat_tdiv _ _).symm
def H0{a:Nat}:fR (a:Int) (b:Int)=((a%b:Nat):Int):=by simp;exact(Int.ofNat_tmod _ _).symm
def lf{a:Nat}(h:a+b<=9223372036854775807):i64 (aE (a:Int) (b:Int))=((a+b:Nat):Int):=by rw[aua,vh h]
def Uo{a:Nat}(h:a*b<=9223372036854775807):i64 (fv (a:Int) (b:Int))=((a*b:Nat):Int):=by rw[aud,vh h]
def XF{a:Nat}(h:b<=a)(bE:a<=9223372036854775807):i64 (bq (a:Int) (b:Int))=((a-b:Nat):Int):=by rw[avM h,vh J]
def HY{a:Nat}(bE:a<=9223372036854775807):i64 (gd (a:Int) (b:Int))=((a/b:Nat):Int):=by rw[aub,vh (hH (Nat.div_le_self _ _) bE)]
def gx{a:Nat}:ae (a:Int)=a:=by simp[ae]
def av0{a:Nat}(h:a<256):aO (u8 (a:Int))=(a:Int):=by rw[XB];simp only[aO,ta];omega
end Yp
namespace Yp
open Go
def a_(B:Nat)(g:Nat->UInt8)(v:Nat):Nat->V
 |0=>[]
 |n+1=>g (v/B^n%B)::a_ B g v n
def l?(B:Nat)(g:Nat->UInt8)(v:Nat):∀n,(a_ B g v n).length=n
 |0=>rfl
 |n+1=>by simp[a_,l? B g v n]
def gi(d:Nat):UInt8:=UInt8.ofNat (48+d)
def n7(d:Nat):UInt8:=UInt8.ofNat d
def ajm{d z:UInt8}{Fi:V}:cn (bR (n+1) z++Fi) n d=bR n z++d::Fi:=by
 induction n with
 |zero=>simp[cn,bR]
 |succ n ih=>
  have e1:bR (n+1+1) z++Fi=z::(bR (n+1) z++Fi):=by simp[bR,K1]
  have aU:bR (n+1) z++d::Fi=z::(bR n z++d::Fi):=by simp[bR,K1]
  rw[e1,aU,<- ih];rfl
def TB:V:=[48,49,50,51,52,53,54,55,56,57,97,98,99,100,101,102]
def asc:∀d,d<10->ao TB d (u8 0)=gi d:=bO
def GE(v w:Int)(aB:v<=9223372036854775807):sa (v,w,())=some (if 1<=w/\w<=18/\0<=v/\v<10^w.toNat then(a_ 10 gi v.toNat w.toNat,0,()) else([],1,())):=by
 unfold sa;by_cases O:w<1
 .rw[if_neg J];simp[T,ob,aH,O,aR]
 by_cases R:18<w
 .rw[if_neg J];simp[T,ob,aH,O,R,aR]
 by_cases af:v<0
 .rw[if_neg J];simp[T,ob,aH,O,R,af,aR]
 obtain⟨n,rfl⟩:∃n:Nat,w=n:=⟨w.toNat,J⟩;obtain⟨bZ,rfl⟩:∃n:Nat,v=n:=⟨v.toNat,J⟩;simp only[aH,O,R];have c0:c3 (b8 0 (n:Int) n) (ci 1 (ae n))=true:=by simp[c3,b8,ci,ae];omega
 rw[c0,ya];have ea:i64 (bq (n:Int) 1)=(n:Int)-1:=iJ (by simp only[bq];omega) (by simp only[bq];omega);rw[ea];generalize hf:(λ(x:Int×Int×V×Unit)=>_)=f;have step:∀i,i<n->f (((bZ/10^i:Nat):Int),(n:Int)-1-i,bR (n-i) (u8 0)++a_ 10 gi bZ i,())=some (.nx (((bZ/10^(i+1):Nat):Int),(n:Int)-1-(i+1:Nat),bR (n-(i+1)) (u8 0)++a_ 10 gi bZ (i+1),())):=by
  intro i ac;subst hf;have hm:fR ((bZ/10^i:Nat):Int) 10=((bZ/10^i%10:Nat):Int):=by simp;exact(Int.ofNat_tmod _ _).symm
  have bn:bZ/10^i%10<10:=F5 _ J;have bW:bZ/10^i<=bZ:=Nat.div_le_self _ _;have aJ:i64 (gd ((bZ/10^i:Nat):Int) 10)=((bZ/10^(i+1):Nat):Int):=by
   have:gd ((bZ/10^i:Nat):Int) 10=((bZ/10^i/10:Nat):Int):=by simp;exact(Int.ofNat_tdiv _ _).symm
   rw[this,vh J,Nat.div_div_eq_div_mul,Qx]
  have asv:i64 (bq ((n:Int)-1-i) 1)=(n:Int)-1-(i+1:Nat):=by rw[iJ (by simp only[bq];omega) (by simp only[bq];omega)];simp only[bq];omega
  have TN:b3 0 ((n:Int)-1-i)=true:=by simp only[b3,decide_eq_true_eq];omega
  have hb1:aN ((bZ/10^i%10:Nat):Int) (len [48,49,50,51,52,53,54,55,56,57,97,98,99,100,101,102])=true:=iA (n:=16) J;have hb2:aN ((n:Int)-1-i) (len (bR (n-i) (u8 0)++a_ 10 gi bZ i))=true:=by simp only[aN,len,dd,bR,p2,cP,decide_eq_true_eq];omega
  have ak:ae ((n:Int)-1-i)=n-(i+1):=by simp only[ae];omega
  have wN:ae ((bZ/10^i%10:Nat):Int)=bZ/10^i%10:=by simp only[ae];omega
  have ab:bR (n-i) (u8 0)=bR (n-(i+1)+1) (u8 0):=by congr 1;omega
  show T (b3 0 ((n:Int)-1-i)) _ _=_;rw[TN,E0];simp only[hm];rw[hb1,ya,hb2,ya,aJ,asv,ak,wN,ab,ajm];have:=asc _ bn;simp only[TB]at this;rw[this];rfl
 have kv:=lh (f:=f) (λi=>(((bZ/10^i:Nat):Int),(n:Int)-1-i,bR (n-i) (u8 0)++a_ 10 gi bZ i,())) n step 0 J;have gv:f (((bZ/10^n:Nat):Int),(n:Int)-1-n,bR (n-n) (u8 0)++a_ 10 gi bZ n,())=some (.ex 0 (((bZ/10^n:Nat):Int),(n:Int)-1-n,bR (n-n) (u8 0)++a_ 10 gi bZ n,())):=by
  subst hf;have TN:b3 0 ((n:Int)-1-n)=false:=by simp only[b3,decide_eq_false_iff_not];omega
  show T (b3 0 ((n:Int)-1-n)) _ _=_;rw[TN,BK]
 have e1:(((bZ/10^0:Nat):Int),(n:Int)-1-(0:Nat),bR (n-0) (u8 0)++a_ 10 gi bZ 0,())=(((bZ:Nat):Int),(n:Int)-1,bR (ae n) (u8 0),()):=by simp[a_,ae]
 rw[e1,ec gv]at kv;rw[kv];have aU:bR (n-n) (u8 0)++a_ 10 gi bZ n=a_ 10 gi bZ n:=by simp[bR]
 simp only[cb,aU];by_cases bn:bZ<10^n
 .have:bZ/10^n=0:=F9 bn
  rw[this,if_pos ⟨J,J,J,by exact_mod_cast bn⟩];rfl
 have:0<bZ/10^n:=Nat.div_pos J (Qt J);rw[if_neg (λh=>bn (by exact_mod_cast h.2.2.2))];have hp:decide ((0:Int)<((bZ/10^n:Nat):Int))=true:=by simp only[decide_eq_true_eq];omega
 rw[hp];rfl
end Yp
namespace Yp
open Go
theorem aA4(q:Nat):u8 (q:Int)=n7 (q%256):=rfl
def aid{bZ k:Nat}(am:k<=64):fO .i64 (bZ:Int) (k:Int)=((bZ/2^k:Nat):Int):=by
 unfold fO;have:Nat.min (Int.toNat (k:Int)) IntKind.i64.bits=k:=by rw[e7];exact F2 am
 grind
def Sc(v w:Int)(aB:v<=9223372036854775807):ql (v,w,())=some (if 1<=w/\w<=8/\0<=v/\v<256^w.toNat then(a_ 256 n7 v.toNat w.toNat,0,()) else([],1,())):=by
 unfold ql;by_cases O:w<1
 .rw[if_neg J];simp[T,ob,aH,O,aR]
 by_cases R:8<w
 .rw[if_neg J];simp[T,ob,aH,O,R,aR]
 by_cases af:v<0
 .rw[if_neg J];simp[T,ob,aH,O,R,af,aR]
 obtain⟨n,rfl⟩:∃n:Nat,w=n:=⟨w.toNat,J⟩;obtain⟨bZ,rfl⟩:∃n:Nat,v=n:=⟨v.toNat,J⟩;have adG:∀i,(256:Nat)^i=2^(8*i):=λi=>by rw[Nat.pow_mul]
 have l4:∀i:Nat,i<=8->i64 (fv 8 (i:Int))=((8*i:Nat):Int):=λi ac=>by
  have:fv 8 (i:Int)=((8*i:Nat):Int):=by simp[fv]
  rw[this,vh J]
 have arN:(T (aH (n:Int) 8) (an (b3 0 (i64 (fv 8 (n:Int)))) (some (aH 0 (fO IntKind.i64 (bZ:Int) (i64 (fv 8 (n:Int)))),()))) (some (false,())):Option (Bool×Unit))=some (decide (¬bZ<256^n),()):=by
  by_cases cx:n<8
  .have c1:aH (n:Int) 8=true:=by simp only[aH,decide_eq_true_eq];omega
   have c2:b3 0 ((8*n:Nat):Int)=true:=by simp only[b3,decide_eq_true_eq];omega
   rw[c1,E0,l4 n J,c2,ya,aid J];have:aH 0 ((bZ/2^(8*n):Nat):Int)=decide (¬bZ<256^n):=by
    unfold aH;rw[decide_eq_decide,adG];constructor
    .intro h ah
     rw[F9 ah]at h;simp at h
    intro h;have:=Nat.div_pos (Nat.le_of_not_lt h) (Qt J);omega
   rw[this]
  have c1:aH (n:Int) 8=false:=by simp only[aH,decide_eq_false_iff_not];omega
  have:n=8:=J;rw[c1,BK,this];have:bZ<256^8:=by have:(256:Nat)^8=18446744073709551616:=bO;omega
  simp[this]
 rw[arN];simp only[aH,O,R,af,decide_false,decide_true,BK,E0,Vn,e7];have hp:((256:Int)^n)=((256^n:Nat):Int):=(Kw 256 n).symm;by_cases bn:bZ<256^n
 rotate_left
 .rw[if_neg (λh=>bn (by have:=h.2.2.2;rw[hp]at this;exact Int.ofNat_lt.1 this))]
  have aJ:decide (¬bZ<256^n)=true:=decide_eq_true bn;rw[aJ,E0];rfl
 rw[if_pos ⟨J,J,J,by rw[hp];exact Int.ofNat_lt.2 bn⟩];have aJ:decide (¬bZ<256^n)=false:=decide_eq_false (λh=>h bn);rw[aJ,BK];have c0:c3 (b8 0 (n:Int) n) (ci 1 (ae n))=true:=by simp[c3,b8,ci,ae];omega
 rw[c0,ya];have ea:i64 (bq (n:Int) 1)=(n:Int)-1:=iJ (by simp only[bq];omega) (by simp only[bq];omega);rw[ea];generalize hf:(λ(x:Int×V×Unit)=>_)=f;have step:∀i,i<n->f ((i:Int),bR (n-i) (u8 0)++a_ 256 n7 bZ i,())=some (.nx (((i+1:Nat):Int),bR (n-(i+1)) (u8 0)++a_ 256 n7 bZ (i+1),())):=by
  intro i ac;subst hf;have c1:(decide ((i:Int)<len (bR (ae (n:Int)) (u8 0))))=true:=by simp only[len,bR,ae,p2,decide_eq_true_eq];omega
  have c2:b3 0 ((8*i:Nat):Int)=true:=by simp only[b3,decide_eq_true_eq];omega
  have hN:i64 (bq ((n:Int)-1) i)=((n-(i+1):Nat):Int):=by
   have:bq ((n:Int)-1) i=((n-(i+1):Nat):Int):=by simp only[bq];omega
   rw[this,vh J]
  have c4:aN ((n-(i+1):Nat):Int) (len (bR (n-i) (u8 0)++a_ 256 n7 bZ i))=true:=by refine iA ?_;simp only[dd,l?,bR,p2];omega
  have c5:i64 (aE (i:Int) 1)=((i+1:Nat):Int):=by
   have:aE (i:Int) 1=((i+1:Nat):Int):=by simp[aE]
   rw[this,vh J]
  have ab:bR (n-i) (u8 0)=bR (n-(i+1)+1) (u8 0):=by congr 1;omega
  show T (decide ((i:Int)<len (bR (ae (n:Int)) (u8 0)))) _ _=_;rw[c1,E0];simp only[l4 i J,hN];rw[c2,ya,c4,ya,c5,aid J,aA4,ab];have:ae ((n-(i+1):Nat):Int)=n-(i+1):=by simp[ae]
  rw[this,ajm,<- adG];rfl
 have kv:=lh (f:=f) (λi=>((i:Int),bR (n-i) (u8 0)++a_ 256 n7 bZ i,())) n step 0 J;have gv:f ((n:Int),bR (n-n) (u8 0)++a_ 256 n7 bZ n,())=some (.ex 0 ((n:Int),bR (n-n) (u8 0)++a_ 256 n7 bZ n,())):=by
  subst hf;have c1:(decide ((n:Int)<len (bR (ae (n:Int)) (u8 0))))=false:=by simp only[len,bR,ae,p2,decide_eq_false_iff_not];omega
  show T (decide ((n:Int)<len (bR (ae (n:Int)) (u8 0)))) _ _=_;rw[c1,BK]
 have e1:(((0:Nat):Int),bR (n-0) (u8 0)++a_ 256 n7 bZ 0,())=((0:Int),bR (ae n) (u8 0),()):=by simp[a_,ae]
 rw[e1,ec gv]at kv;rw[kv];have aU:bR (n-n) (u8 0)++a_ 256 n7 bZ n=a_ 256 n7 bZ n:=by simp[bR]
 simp only[cb,aU];rfl
end Yp
namespace Yp
open Go
def h7(c:UInt8):Prop:=48<=c.toNat/\c.toNat<=57
instance (c:UInt8):Decidable (h7 c):=inferInstanceAs (Decidable (_/\_))
def g5(s:V):Prop:=∀(i:Nat) (h:i<s.length),h7 s[i]
def val(s:V):Nat:=s.foldl (λn c=>10*n+(c.toNat-48)) 0
def XI{s:V}(h:i<s.length):val (s.take (i+1))=10*val (s.take i)+(s[i].toNat-48):=by unfold val;rw[e0 h,Yk];rfl
def XG{s:V}:∀i,i<=s.length->(∀j,j<i->∀h:j<s.length,h7 s[j])->val (s.take i)<10^i
 |0,_,_=>by simp[val]
 |i+1,h,hf=>by have:=XG i J (λj ap=>hf j J);have ac:=hf i J J;rw[XI J];unfold h7 at ac;omega
def agj(h:i<=18):10^i<=1000000000000000000:=by have:=zP (n:=10) J h;exact this
def aoE{c:Nat}(O:48<=c)(R:c<=57):tn (bi c,())=some (((c-48:Nat):Int),true,()):=by have:c=48\/c=49\/c=50\/c=51\/c=52\/c=53\/c=54\/c=55\/c=56\/c=57:=J;rcases this with rfl|rfl|rfl|rfl|rfl|rfl|rfl|rfl|rfl|rfl<;>decide
def aa5{c:Nat}(h:¬(48<=c/\c<=57)):∃q:Int,tn (bi c,())=some (q,false,()):=by
 refine⟨i64 (HX (bq (bi c) 48)),?_⟩;unfold tn;by_cases O:48<=c
 .refine(dr (b4 (lH (by simp only[bi];omega)))).trans ?_
  show some (_,b3 (bi c) 57,())=_;rw[oo (by simp only[bi];omega)]
 refine(dr (bT (oo (by simp only[bi];omega)))).trans ?_;rfl
def Sy{s:V}(h:i<s.length)(hf:h7 s[i]):tn (bi (h? s i).1,())=some (((s[i].toNat-48:Nat):Int),true,())/\(h? s i).2=1:=by
 have hl:s[i].toNat<128:=by unfold h7 at hf;omega
 rw[aaY h hl];exact⟨aoE hf.1 hf.2,rfl⟩
def Sx{s:V}(h:i<s.length)(hf:¬h7 s[i]):∃q:Int,tn (bi (h? s i).1,())=some (q,false,()):=by
 by_cases hl:s[i].toNat<128
 .rw[aaY h hl];exact aa5 hf
 have:=aoz h hl;exact aa5 J
def ym{s:V}:g5 s↔∀i,i<s.length->∀h:i<s.length,h7 s[i]:=⟨λh i ac _=>h i ac,λh i ac=>h i ac ac⟩
instance (s:V):Decidable (g5 s):=inferInstanceAs (Decidable (∀(i:Nat) (h:i<s.length),h7 s[i]))
def Se(s:V):uV (s,())=some (if 1<=s.length/\s.length<=18/\g5 s then((val s:Int),0,()) else(0,2,())):=by
 by_cases O:s.length<1
 .refine(dr (b4 (di (by simp only[len];omega)))).trans ?_
  rw[if_neg J];rfl
 by_cases R:18<s.length
 .refine(dr ((bT (cR (by simp only[len];omega))).trans (congrArg (λb=>some (b,())) (di (by simp only[len];omega))))).trans ?_
  rw[if_neg J];rfl
 refine(dr ((bT (cR (by simp only[len];omega))).trans (congrArg (λb=>some (b,())) (cR (by simp only[len];omega))))).trans ?_;generalize hf:(λ(x:Int×Int×Int×Nat×Unit)=>_)=f;have key:=vr (f:=f) (λi=>(0,0,(val (s.take i):Int),i,())) s.length (λi=>∀h:i<s.length,h7 s[i]) (0,2,()) 0 ?_ ?_ ?_
 .have ea:((0:Int),(0:Int),(val (s.take 0):Int),0,())=((0:Int),(0:Int),(0:Int),0,()):=by simp[val]
  rw[ea]at key;rcases key with⟨hall,ai⟩|⟨⟨i,ac,ak⟩,ai⟩
  .rw[ai,if_pos ⟨J,J,ym.2 hall⟩]
   show some ((val (s.take s.length):Int),(0:Int),())=_;rw[ni]
  rw[ai,if_neg (λah=>ak (ym.1 ah.2.2 i ac))];rfl
 .intro i ac hp
  subst hf;obtain⟨e1,aU⟩:=Sy ac (hp i (b1 _) ac);refine(b4 (Ej ac)).trans ?_;refine(dr e1).trans ?_;have aB:=XG (i+1) J (λj ap=>hp j J);have hp:=agj (i:=i+1) J;rw[XI ac]at aB;have c1:i64 (fv 10 (val (s.take i):Int))=((10*val (s.take i):Nat):Int):=Uo (a:=10) J;simp only[aU,c1];rw[lf J,XI ac];rfl
 .intro i ac _ hp
  subst hf;have:¬h7 s[i]:=λh=>hp λ_=>h;obtain⟨q,e1⟩:=Sx ac this;refine(b4 (Ej ac)).trans ?_;refine(dr e1).trans ?_;rfl
 intro _;subst hf;exact bT (Vb (UO _))
end Yp
namespace Yp
open Go
def axy{w:Nat}(aa:1<=b)(h:b^w<=9223372036854775807):∀i,i<=w->b^i<=9223372036854775807:=λi ac=>hH (zP aa ac) h
def ayp(b w:Nat)(aa:1<=b)(bw:w<=1000)(h:b^w<=9223372036854775807):EM ((b:Int),(w:Int),())=some (((b^w:Nat):Int),()):=by
 unfold EM;generalize hf:(λ(x:Int×Int×Unit)=>_)=f;have key:=vr (f:=f) (λi=>(((b^i:Nat):Int),(i:Int),())) w (λ_=>True) (0,()) 0 ?_ ?_ ?_
 .have ea:(((b^0:Nat):Int),((0:Nat):Int),())=((1:Int),(0:Int),()):=bp
  rw[ea]at key;rcases key with⟨_,ai⟩|⟨⟨i,ac,ak⟩,ai⟩
  .rw[ai];rfl
  exact absurd trivial ak
 .intro i ac _
  subst hf;refine(b4 (di (show(i:Int)<(w:Int) by omega))).trans ?_;have:=axy aa h (i+1) J;rw[Qx]at this;rw[Uo this];have c:i64 (aE (i:Int) 1)=((i+1:Nat):Int):=lf (b:=1) J;rw[c,<- Qx]
 .intro i _ _ h;exact absurd trivial h
 intro _;subst hf;exact bT (cR (show ¬(w:Int)<(w:Int) by omega))
def ayn(s:V)(hl:s.length<=1000000):N2 (s,())=some (decide (g5 s),()):=by
 unfold N2;generalize hf:(λ(x:Bool×Int×Unit)=>_)=f;have cond:∀i (ac:i<s.length),(T (aH (aO (ao s (ae (i:Int)) (u8 0))) (aO (u8 48))) (some (true,())) (an (aN (i:Int) (len s)) (some (aH (aO (u8 57)) (aO (ao s (ae (i:Int)) (u8 0))),()))):Option (Bool×Unit))=some (decide (¬h7 s[i]),()):=by
  intro i ac;have et:aN (i:Int) (len s)=true:=iA ac;rw[gx,nth_get ac,et,ya];have e1:aO (u8 48)=48:=bO;have aU:aO (u8 57)=57:=bO;rw[e1,aU];by_cases O:s[i].toNat<48
  .rw[di (by simp only[aO];omega),E0,decide_eq_true (show ¬h7 s[i] from λh=>by unfold h7 at h;omega)]
  rw[cR (by simp only[aO];omega),BK];by_cases R:57<s[i].toNat
  .rw[di (by simp only[aO];omega),decide_eq_true (show ¬h7 s[i] from λh=>by unfold h7 at h;omega)]
  rw[cR (by simp only[aO];omega),decide_eq_false (λh=>h (by unfold h7;omega))]
 have key:=vr (f:=f) (λi=>(false,(i:Int),())) s.length (λi=>∀h:i<s.length,h7 s[i]) (false,()) 0 ?_ ?_ ?_
 .rcases key with⟨hall,ai⟩|⟨⟨i,ac,ak⟩,ai⟩
  .rw[show(false,((0:Nat):Int),())=(false,(0:Int),()) from rfl]at ai
   rw[ai,decide_eq_true (ym.2 hall)];rfl
  rw[show(false,((0:Nat):Int),())=(false,(0:Int),()) from rfl]at ai;rw[ai,decide_eq_false (λah=>ak (ym.1 ah i ac))];rfl
 .intro i ac hp
  subst hf;refine(b4 (di (by simp only[len];omega))).trans ?_;refine(eV (iA ac)).trans ?_;refine(dr (cond i ac)).trans ?_;refine(bT (decide_eq_false (λh=>h (hp i (b1 _) ac)))).trans ?_;have c:i64 (aE (i:Int) 1)=((i+1:Nat):Int):=lf (b:=1) J;simp only[c]
 .intro i ac _ hp
  subst hf;refine(b4 (di (by simp only[len];omega))).trans ?_;refine(eV (iA ac)).trans ?_;refine(dr (cond i ac)).trans ?_;exact b4 (decide_eq_true (λh=>hp λ_=>h))
 intro _;subst hf;exact bT (cR (by simp only[len];omega))
def afB(s:V)(hl:s.length<=1000000):Mu (s,())=some (if 1<=s.length/\s.length<=18/\g5 s then((val s:Int),0,()) else(0,2,())):=by
 by_cases O:s.length<1
 .refine(dr (b4 (di (by simp only[len];omega)))).trans ?_
  rw[if_neg J];rfl
 by_cases R:18<s.length
 .refine(dr ((bT (cR (by simp only[len];omega))).trans (b4 (di (by simp only[len];omega))))).trans ?_
  rw[if_neg J];rfl
 refine(dr (a:=(bg (decide (g5 s)),())) ?_).trans ?_
 .refine(bT (cR (by simp only[len];omega))).trans ?_
  refine(bT (cR (by simp only[len];omega))).trans ?_;exact dr (ayn s hl)
 by_cases af:g5 s
 rotate_left
 .refine(b4 (by simp only[decide_eq_false af,bg,Bool.not_false])).trans ?_
  rw[if_neg (λh=>af h.2.2)]
 refine(bT (by simp only[decide_eq_true af,bg,KT])).trans ?_;rw[if_pos ⟨J,J,af⟩];generalize hf:(λ(x:Int×Int×Unit)=>_)=f;have key:=vr (f:=f) (λi=>(((val (s.take i)*10^(s.length-i):Nat):Int),(i:Int),())) s.length (λ_=>True) (0,2,()) 0 ?_ ?_ ?_
 .have ea:(((val (s.take 0)*10^(s.length-0):Nat):Int),((0:Nat):Int),())=((0:Int),(0:Int),()):=by simp[val]
  rw[ea]at key;rcases key with⟨_,ai⟩|⟨⟨i,ac,ak⟩,ai⟩
  .rw[ai]
   show some (((val (s.take s.length)*10^(s.length-s.length):Nat):Int),(0:Int),())=_;rw[ni];simp
  exact absurd trivial ak
 .intro i ac _
  subst hf;refine(b4 (di (by simp only[len];omega))).trans ?_;refine(eV (iA ac)).trans ?_;have c1:i64 (bq (i64 (bq (len s) 1)) (i:Int))=((s.length-1-i:Nat):Int):=by have:i64 (bq (len s) 1)=((s.length-1:Nat):Int):=XF (b:=1) J J;rw[this,XF J J]
  have aa:=agj (i:=s.length-1-i) J;have c2:EM (10,((s.length-1-i:Nat):Int),())=some (((10^(s.length-1-i):Nat):Int),()):=ayp 10 _ J J J;have hN:=af i ac;have c4:i64 (bq (i64 (aO (ao s (ae (i:Int)) (u8 0)))) 48)=((s[i].toNat-48:Nat):Int):=by rw[gx,nth_get ac];have acF:=yY s[i];have:i64 (aO s[i])=((s[i].toNat:Nat):Int):=vh J;rw[this];exact XF (b:=48) hN.1 J
  simp only[c1,c2];refine(dr rfl).trans ?_;have aB:=XG (s:=s) (i+1) J (λj ap h=>af j h);have hp:10^(i+1)*10^(s.length-(i+1))<=1000000000000000000:=by rw[<- DA];exact agj J
  rw[XI ac]at aB;have e1:s.length-i=(s.length-(i+1))+1:=J;have aU:s.length-1-i=s.length-(i+1):=J;have hm:(10*val (s.take i)+(s[i].toNat-48))*10^(s.length-(i+1))<=10^(i+1)*10^(s.length-(i+1)):=gM _ J;have ab:val (s.take i)*10^(s.length-i)+(s[i].toNat-48)*10^(s.length-(i+1))=(10*val (s.take i)+(s[i].toNat-48))*10^(s.length-(i+1)):=by rw[e1,Qx,nh];congr 1;rw[FY (10^_) 10,<- FG,FY (val _) 10]
  simp only[c4,aU];rw[Uo J,lf J,ab,XI ac];have c:i64 (aE (i:Int) 1)=((i+1:Nat):Int):=lf (b:=1) J;rw[c]
 .intro i _ _ h;exact absurd trivial h
 intro _;subst hf;exact bT (cR (by simp only[len];omega))
end Yp
namespace Yp
open Go
def NQ{B:Nat}{g:Nat->UInt8}{v:Nat}:∀{n j:Nat} (h:j<(a_ B g v n).length),(a_ B g v n)[j]=g (v/B^(n-1-j)%B)
 |n+1,0,h=>by simp[a_]
 |n+1,j+1,h=>by simp only[a_,List.getElem_cons_succ];rw[NQ];have:n-1-j=n+1-1-(j+1):=J;rw[this]
def Wc(v w:Int)(aB:v<=9223372036854775807):xj (v,w,())=some (if 1<=w/\w<=18/\0<=v/\v<10^w.toNat then(a_ 10 gi v.toNat w.toNat,0,()) else([],1,())):=by
 unfold xj;by_cases O:w<1
 .rw[if_neg J];simp[T,ob,aH,O,aR]
 by_cases R:18<w
 .rw[if_neg J];simp[T,ob,aH,O,R,aR]
 by_cases af:v<0
 .rw[if_neg J];simp[T,ob,aH,O,R,af,aR]
 obtain⟨n,rfl⟩:∃n:Nat,w=n:=⟨w.toNat,J⟩;obtain⟨bZ,rfl⟩:∃n:Nat,v=n:=⟨v.toNat,J⟩;have adH:∀i:Nat,i<=18->EM (10,(i:Int),())=some (((10^i:Nat):Int),()):=λi ac=>by have:=agj ac;exact ayp 10 i J J J
 refine(dr (a:=(decide (10^n<=bZ),())) ?_).trans ?_
 .refine(bT (cR O)).trans ?_
  refine(bT (cR R)).trans ?_;refine(dr (adH n J)).trans ?_;rw[au4]
 have hp:((10:Int)^n)=((10^n:Nat):Int):=(Kw 10 n).symm;by_cases bW:10^n<=bZ
 .refine(b4 (decide_eq_true bW)).trans ?_
  rw[if_neg];· rfl
  intro h;have:=h.2.2.2;rw[e7,hp]at this;omega
 refine(bT (decide_eq_false bW)).trans ?_;rw[if_pos ⟨J,J,J,by rw[e7,hp];omega⟩];simp;have ea:i64 (bq (n:Int) 1)=(n:Int)-1:=iJ (by simp only[bq];omega) (by simp only[bq];omega);rw[ea];generalize hf:(λ(x:V×Int×Unit)=>_)=f;have key:=vr (f:=f) (λj=>((a_ 10 gi bZ n).take j,(n:Int)-1-j,())) n (λ_=>True) ([],0,()) 0 ?_ ?_ ?_
 .have ea:((a_ 10 gi bZ n).take 0,(n:Int)-1-(0:Nat),())=(aR UInt8,(n:Int)-1,()):=by simp[aR]
  rw[ea]at key;rcases key with⟨_,ai⟩|⟨⟨i,ac,ak⟩,ai⟩
  .rw[ai]
   show some ((a_ 10 gi bZ n).take n,(0:Int),())=_;rw[il (by rw[l?];omega)]
  exact absurd trivial ak
 .intro i ac _
  subst hf;have e1:(n:Int)-1-i=((n-1-i:Nat):Int):=J;simp only[e1];refine(dr (adH (n-1-i) J)).trans ?_;have dM:0<10^(n-1-i):=Qt J;have c1:bg (aj ((10^(n-1-i):Nat):Int) 0)=true:=by rw[cv J];rfl
  refine(eV c1).trans ?_;have c2:u8 (i64 (aE 48 (fR (i64 (gd (bZ:Int) ((10^(n-1-i):Nat):Int))) 10)))=gi (bZ/10^(n-1-i)%10):=by rw[HY J,show(10:Int)=((10:Nat):Int) from rfl,H0];rw[show(48:Int)=((48:Nat):Int) from rfl,lf J,XB];rfl
  have ap:i<(a_ 10 gi bZ n).length:=by rw[l?];exact ac
  have hN:(a_ 10 gi bZ n)[i]=gi (bZ/10^(n-1-i)%10):=NQ ap;have c4:i64 (bq ((n-1-i:Nat):Int) 1)=(n:Int)-1-((i+1:Nat):Int):=by rw[iJ (by simp only[bq];omega) (by simp only[bq];omega)];simp only[bq];omega
  simp only[c2,c4];refine(eV (mJ ?_)).trans ?_
  .simp only[bI,aV,io,gL,j4];omega
  rw[e0 ap,hN];rfl
 .intro i _ _ h;exact absurd trivial h
 intro _;subst hf;exact bT (oo (show ¬(0:Int)<=(n:Int)-1-n by omega))
end Yp
namespace Yp
open Go
def k?(c:UInt8):Nat:=c.toNat-48
def eK(s:V):V:=if s.length%2=1 then 48::s else s
def iY(p:V)(t:Nat):Nat:=k? (ao p t (u8 0))
def qe(p:V)(a j:Nat):UInt8:=if 2*j+1<a then UInt8.ofNat (16*iY p (2*j)+iY p (2*j+1)) else if 2*j<a then UInt8.ofNat (iY p (2*j)) else u8 0
def gA(p:V):V:=(List.range (p.length/2)).map λj=>UInt8.ofNat (16*iY p (2*j)+iY p (2*j+1))
def IZ(s:V):(eK s).length=2*((s.length+1)/2):=by
 unfold eK;split
 .simp;omega
 omega
def age{s:V}(h:i<s.length):ao (eK s) (s.length%2+i) (u8 0)=s[i]:=by
 unfold eK ao;split
 .rename_i O;rw[O,Nat.add_comm];simp[h]
 rename_i O;have:s.length%2=0:=J;rw[this];simp[h]
def C8{c:UInt8}(h:h7 c):c=UInt8.ofNat (48+k? c)/\k? c<10:=by unfold h7 at h;refine⟨?_,by unfold k?;omega⟩;apply xQ.1;simp only[ta,k?];omega
def azJ:∀x:Nat,x<10->∀d:Nat,d<10->u8 (g' .u8 (aO (u8 (h0 .u8 (aO (UInt8.ofNat x)) (cL (u64 4))))) (aO (u8 (d:Int))))=UInt8.ofNat (16*x+d):=ir
def awZ:∀d:Nat,d<10->u8 (g' .u8 (aO (u8 (h0 .u8 (aO (u8 0)) (cL (u64 4))))) (aO (u8 (d:Int))))=UInt8.ofNat d:=ir
def aw9{s:V}{a:Nat}(hf:∀j,j<a-s.length%2->∀h:j<s.length,h7 s[j])(bh:a<=(eK s).length):∀t,t<a->iY (eK s) t<10:=by
 intro t ht;have hl:=IZ s;unfold iY;by_cases h:t<s.length%2
 .have O:s.length%2=1:=J
  have aq:t=0:=J;subst aq;unfold eK;rw[if_pos O];show k? 48<10;decide
 have e:t=s.length%2+(t-s.length%2):=J;have ac:t-s.length%2<s.length:=J;rw[e,age ac];exact(C8 (hf _ J ac)).2
def Sb(s:V)(hl:s.length<=1000000):uU (s,())=some (if g5 s then(gA (eK s),0,()) else([],2,())):=by
 unfold uU;have bF:i64 (gd (i64 (aE (len s) 1)) 2)=(((s.length+1)/2:Nat):Int):=by rw[au9,show i64 (aE ((s.length:Nat):Int) 1)=((s.length+1:Nat):Int) from lf (b:=1) J];exact HY (b:=2) J
 have b2:fR (len s) 2=((s.length%2:Nat):Int):=H0 (b:=2);simp only[bF,b2,gx];generalize am:(s.length+1)/2=k;have jh:=IZ s;rw[am]at jh;refine(eV ?_).trans ?_
 .simp only[c3,cP]
  exact⟨vi J J J,mJ J⟩
 generalize hf:(λ(x:Int×Int×Nat×V×Unit)=>_)=f;have key:=vr (f:=f) (λi=>(0,((s.length%2+i:Nat):Int),i,(List.range k).map (qe (eK s) (s.length%2+i)),())) s.length (λi=>∀h:i<s.length,h7 s[i]) ([],2,()) 0 ?_ ?_ ?_
 .have ea:((0:Int),((s.length%2+0:Nat):Int),0,(List.range k).map (qe (eK s) (s.length%2+0)),())=((0:Int),((s.length%2:Nat):Int),0,bR k (u8 0),()):=by
   have:(List.range k).map (qe (eK s) (s.length%2+0))=bR k (u8 0):=by
    apply pq
    .simp[bR]
    intro j O R;simp only[nj,q4,bR,List.getElem_replicate,qe];rw[if_neg J];split
    .rename_i af
     have au:s.length%2=1:=J;have aY:j=0:=J;subst aY;unfold eK;rw[if_pos au];show UInt8.ofNat (k? 48)=u8 0;decide
    rfl
   rw[this];rfl
  rw[ea]at key;rcases key with⟨hall,ai⟩|⟨⟨i,ac,ak⟩,ai⟩
  .rw[ai,if_pos (ym.2 hall)]
   have:(List.range k).map (qe (eK s) (s.length%2+s.length))=gA (eK s):=by unfold gA;rw[jh,show 2*k/2=k by omega];apply List.map_congr_left;intro j ap;have:=s8.1 ap;unfold qe;rw[if_pos J]
   rw[this];rfl
  rw[ai,if_neg (λah=>ak (ym.1 ah i ac))];rfl
 .intro i ac hp
  subst hf;obtain⟨e1,aU⟩:=Sy ac (hp i (b1 _) ac);refine(b4 (Ej ac)).trans ?_;refine(dr e1).trans ?_;generalize bh:s.length%2+i=a;have TO:=aw9 (s:=s) (a:=a+1) (λj ap=>hp j J) J;have sn:iY (eK s) a=s[i].toNat-48:=by unfold iY;rw[<- bh,age ac];rfl
  have c1:i64 (gd ((a:Nat):Int) 2)=((a/2:Nat):Int):=HY (b:=2) J;have c2:i64 (aE ((a:Nat):Int) 1)=((a+1:Nat):Int):=lf (b:=1) J;have aQ:a/2<((List.range k).map (qe (eK s) a)).length:=fK;simp only[bh,c1,c2,aU,gx];refine(eV (iA aQ)).trans ?_;refine(eV (iA aQ)).trans ?_;have d8:s.length%2+(i+1)=a+1:=J;have aB:u8 (g' .u8 (aO (u8 (h0 .u8 (aO (ao ((List.range k).map (qe (eK s) a)) (a/2) (u8 0))) (cL (u64 4))))) (aO (u8 ((s[i].toNat-48:Nat):Int))))=qe (eK s) (a+1) (a/2):=by
   rw[nth_get aQ,nj,q4,<- sn];unfold qe;rw[if_neg J];by_cases adE:a%2=0
   .rw[if_neg J,if_neg J,if_pos J,awZ _ (TO a J),show 2*(a/2)=a by omega]
   rw[if_pos J,if_pos J,azJ _ (TO _ J) _ (TO a J),show 2*(a/2)+1=a by omega]
  simp only[aB,d8];have l6:cn ((List.range k).map (qe (eK s) a)) (a/2) (qe (eK s) (a+1) (a/2))=(List.range k).map (qe (eK s) (a+1)):=by
   unfold cn;apply pq
   .simp
   intro j O R;rw[wa];simp only[nj,q4];split
   .rename_i af;rw[af]
   unfold qe;by_cases au:2*j+1<a
   .rw[if_pos au,if_pos J]
   rw[if_neg au];by_cases aY:2*j<a
   .rw[if_pos aY,if_neg J,if_pos J]
   rw[if_neg aY,if_neg J,if_neg J]
  rw[l6];rfl
 .intro i ac _ hp
  subst hf;have:¬h7 s[i]:=λh=>hp λ_=>h;obtain⟨q,e1⟩:=Sx ac this;refine(b4 (Ej ac)).trans ?_;refine(dr e1).trans ?_;rfl
 intro _;subst hf;exact bT (Vb (UO _))
def ayz:∀x,x<10->∀y,y<10->u8 (bq (aO (u8 (aE (aO (u8 (fv (aO (u8 16)) (aO (u8 (bq (aO (UInt8.ofNat (48+x))) (aO (u8 48)))))))) (aO (UInt8.ofNat (48+y)))))) (aO (u8 48)))=UInt8.ofNat (16*x+y):=ir
def Wb(s:V)(hl:s.length<=1000000):vL (s,())=some (if g5 s then(gA (eK s),0,()) else([],2,())):=by
 unfold vL;refine(dr (ayn s hl)).trans ?_;by_cases af:g5 s
 rotate_left
 .refine(b4 (by simp only[decide_eq_false af,bg,Bool.not_false])).trans ?_
  rw[if_neg af];rfl
 refine(bT (by simp only[decide_eq_true af,bg,KT])).trans ?_;rw[if_pos af];refine(dr (a:=(eK s,())) ?_).trans ?_
 .have b2:fR (len s) 2=((s.length%2:Nat):Int):=H0 (b:=2)
  simp only[b2];unfold eK;by_cases h:s.length%2=1
  .rw[if_pos h]
   refine(b4 (cI J)).trans ?_;refine(eV (lH ?_)).trans rfl;simp only[aE,len,gL,j4];omega
  rw[if_neg h];refine(bT (cv J))
 have jh:=IZ s;have yz:∀t,(ht:t<(eK s).length)->h7 (eK s)[t]:=by
  intro t ht;by_cases h:s.length%2=1
  .have e:eK s=48::s:=by unfold eK;rw[if_pos h]
   simp only[e]at ht ⊢;cases t with
   |zero=>exact(by decide:h7 48)
   |succ t=>exact af t (by simpa using ht)
  have e:eK s=s:=by unfold eK;rw[if_neg h]
  simp only[e]at ht ⊢;exact af t ht
 generalize eK s=p at *
 generalize am:(s.length+1)/2=k at *
 generalize hf:(λ(x:V×Int×Unit)=>_)=f;have key:=vr (f:=f) (λj=>((gA p).take j,((2*j:Nat):Int),())) k (λ_=>True) ([],0,()) 0 ?_ ?_ ?_
 .rcases key with⟨_,ai⟩|⟨⟨i,ac,ak⟩,ai⟩
  .have ea:((gA p).take 0,((2*0:Nat):Int),())=(aR UInt8,(0:Int),()):=by simp[aR]
   rw[ea]at ai;rw[ai];show some ((gA p).take k,(0:Int),())=_;rw[il (by simp[gA];omega)]
  exact absurd trivial ak
 .intro i ac _
  subst hf;refine(b4 (di (show((2*i:Nat):Int)<len p by simp only[len];omega))).trans ?_;have aq:2*i<p.length:=J;have O:2*i+1<p.length:=J;have c1:i64 (aE ((2*i:Nat):Int) 1)=((2*i+1:Nat):Int):=lf (b:=1) J;have c2:i64 (aE ((2*i:Nat):Int) 2)=((2*(i+1):Nat):Int):=lf (b:=2) J;simp only[c1,c2,gx];refine(eV (iA aq)).trans ?_;refine(eV (iA O)).trans ?_;refine(eV (mJ ?_)).trans ?_
  .simp only[bI,aV,io,gL,j4,gA,s9,zZ];omega
  have ap:i<(gA p).length:=by simp[gA];omega
  have hg:(gA p)[i]=UInt8.ofNat (16*iY p (2*i)+iY p (2*i+1)):=by simp[gA]
  rw[e0 ap,hg,nth_get aq,nth_get O];obtain⟨cN,cX⟩:=C8 (yz _ aq);obtain⟨e9,eo⟩:=C8 (yz _ O);have aB:=ayz _ cX _ eo;rw[<- cN,<- e9]at aB;have d1:iY p (2*i)=k? p[2*i]:=by unfold iY;rw[nth_get aq]
  have d2:iY p (2*i+1)=k? p[2*i+1]:=by unfold iY;rw[nth_get O]
  rw[aB,d1,d2];rfl
 .intro i _ _ h;exact absurd trivial h
 intro _;subst hf;exact bT (cR (show ¬((2*k:Nat):Int)<len p by simp only[len];omega))
end Yp
namespace Yp
open Go
def Al{v:Nat}:∀{n:Nat},g5 (a_ 10 gi v n)
 |n=>by
  intro i ac;rw[NQ];have oT:v/10^(n-1-i)%10<10:=F5 _ J;generalize v/10^(n-1-i)%10=d at *
  unfold h7 gi;simp only[ta];omega
def aw8{s:V}(h:s.length%2=0):eK s=s:=by unfold eK;rw[if_neg J]
end Yp
namespace Yp
open Go
def ou(d:Nat):UInt8:=ao TB d (u8 0)
def gm(b:V):V:=b.flatMap λx=>[ou (x.toNat/16),ou (x.toNat%16)]
def sp(b:V):(gm b).length=2*b.length:=by
 induction b with
 |nil=>rfl
 |cons x r ih =>have:gm (x::r)=[ou (x.toNat/16),ou (x.toNat%16)]++gm r:=rfl;rw[this,dd,ih];simp;omega
def ar8(a b:V):gm (a++b)=gm a++gm b:=by simp[gm]
def awr(c:UInt8):UInt8.ofNat c.toNat=c:=by apply xQ.1;simp
def we{p:UInt8->Prop}(h:∀n,n<256->p (UInt8.ofNat n))(c:UInt8):p c:=by
 have:=h c.toNat c.toNat_lt
 rwa [awr]at this
def adl:∀c:UInt8,aN (aO (u8 (fO IntKind.u8 (aO c) (cL (u64 4))))) (len [48,49,50,51,52,53,54,55,56,57,97,98,99,100,101,102])=true /\
  ao [48,49,50,51,52,53,54,55,56,57,97,98,99,100,101,102] (ae (aO (u8 (fO IntKind.u8 (aO c) (cL (u64 4)))))) (u8 0)=ou (c.toNat/16):=we ir
def aeJ:∀c:UInt8,aN (aO (u8 (i9 IntKind.u8 (aO c) (aO (u8 15))))) (len [48,49,50,51,52,53,54,55,56,57,97,98,99,100,101,102])=true /\
  ao [48,49,50,51,52,53,54,55,56,57,97,98,99,100,101,102] (ae (aO (u8 (i9 IntKind.u8 (aO c) (aO (u8 15)))))) (u8 0)=ou (c.toNat%16):=we ir
def aa3(b:V)(hl:b.length<=1000000):GF (b,())=some (gm b,()):=by
 unfold GF;have bF:i64 (fv 2 (len b))=((2*b.length:Nat):Int):=Uo (a:=2) J;simp only[bF,gx];refine(eV ?_).trans ?_
 .simp only[c3,cP]
  exact⟨vi J J J,mJ J⟩
 generalize hf:(λ(x:V×Int×Unit)=>_)=f;have key:=vr (f:=f) (λi=>(gm (b.take i),(i:Int),())) b.length (λ_=>True) ([],()) 0 ?_ ?_ ?_
 .have ea:(gm (b.take 0),((0:Nat):Int),())=(bR (ae 0) (u8 0),(0:Int),()):=by simp[gm,bR,ae]
  rw[ea]at key;rcases key with⟨_,ai⟩|⟨⟨i,ac,ak⟩,ai⟩
  .rw[ai,ni];rfl
  exact absurd trivial ak
 .intro i ac _
  subst hf;refine(b4 (di (show(i:Int)<len b by simp only[len];omega))).trans ?_;refine(eV (iA ac)).trans ?_;have c:i64 (aE (i:Int) 1)=((i+1:Nat):Int):=lf (b:=1) J;simp only[gx,nth_get ac,c];refine(eV (adl _).1).trans ?_;refine(eV (aeJ _).1).trans ?_;simp only[(adl _).2,(aeJ _).2];refine(eV (mJ ?_)).trans ?_
  .simp only[bI,aV,sp,io,gL,j4];omega
  rw[e0 ac,ar8];rfl
 .intro i _ _ h;exact absurd trivial h
 intro _;subst hf;exact bT (cR (show ¬((b.length:Nat):Int)<len b by simp only[len];omega))
def tQ(c:UInt8):Prop:=(48<=c.toNat/\c.toNat<=57)\/(97<=c.toNat/\c.toNat<=102)
instance (c:UInt8):Decidable (tQ c):=inferInstanceAs (Decidable (_\/_))
def l7(c:UInt8):Nat:=if c.toNat<=57 then c.toNat-48 else c.toNat-87
def qW(s:V):V:=(List.range (s.length/2)).map λj=>UInt8.ofNat (16*l7 (ao s (2*j) (u8 0))+l7 (ao s (2*j+1) (u8 0)))
def Hq(s:V):Prop:=∀(i:Nat) (h:i<s.length),tQ s[i]
instance (s:V):Decidable (Hq s):=inferInstanceAs (Decidable (∀(i:Nat) (h:i<s.length),tQ s[i]))
def aa6:∀c:UInt8,LH (c,())=some (if tQ c then(UInt8.ofNat (l7 c),true,()) else(u8 0,false,())):=we ir
def adZ:∀c:UInt8,tQ c->l7 c<16:=we ir
def av6:∀x:Nat,x<16->∀y:Nat,y<16->u8 (g' IntKind.u8 (aO (u8 (h0 IntKind.u8 (aO (UInt8.ofNat x)) (cL (u64 4))))) (aO (UInt8.ofNat y)))=UInt8.ofNat (16*x+y):=ir
def TC{s:V}{k:Nat}(R:s.length=2*k):(∀i,i<k->tQ (ao s (2*i) (u8 0))/\tQ (ao s (2*i+1) (u8 0)))↔Hq s:=by
 constructor
 .intro h i ac
  have:=h (i/2) J;by_cases hp:i%2=0
  .have:=this.1
   rw[show 2*(i/2)=i by omega,nth_get ac]at this;exact this
  have:=this.2;rw[show 2*(i/2)+1=i by omega,nth_get ac]at this;exact this
 intro h i ac;rw[nth_get J,nth_get J];exact⟨h _ _,h _ _⟩
def aoD(s:V)(hl:s.length<=1000000):GG (s,())=some (if s.length%2=0/\Hq s then(qW s,0,()) else([],2,())):=by
 unfold GG;have b2:fR (len s) 2=((s.length%2:Nat):Int):=H0 (b:=2);have bF:i64 (gd (len s) 2)=((s.length/2:Nat):Int):=HY (b:=2) J;simp only[bF,b2,gx];by_cases h:s.length%2=0
 rotate_left
 .refine(b4 (cI J)).trans ?_
  rw[if_neg (λah=>h ah.1)];rfl
 refine(bT (cv J)).trans ?_;refine(eV ?_).trans ?_
 .simp only[c3,cP]
  exact⟨vi J J J,mJ J⟩
 generalize am:s.length/2=k;have R:s.length=2*k:=J;generalize hf:(λ(x:Int×V×Int×Unit)=>_)=f;have key:=vr (f:=f) (λi=>(0,(qW s).take i,((2*i:Nat):Int),())) k (λi=>tQ (ao s (2*i) (u8 0))/\tQ (ao s (2*i+1) (u8 0))) ([],2,()) 0 ?_ ?_ ?_
 .have ea:((0:Int),(qW s).take 0,((2*0:Nat):Int),())=((0:Int),bR (ae 0) (u8 0),(0:Int),()):=by simp[bR,ae]
  rw[ea]at key;rcases key with⟨hall,ai⟩|⟨⟨i,ac,ak⟩,ai⟩
  .rw[ai,if_pos ⟨h,(TC R).1 hall⟩,il (by simp[qW];omega)];rfl
  rw[ai,if_neg (λah=>ak ((TC R).2 ah.2 i ac))];rfl
 .intro i ac hp
  subst hf;obtain⟨agd,dQ⟩:=hp i (b1 _);have aq:2*i<s.length:=J;have O:2*i+1<s.length:=J;have c1:i64 (aE ((2*i:Nat):Int) 1)=((2*i+1:Nat):Int):=lf (b:=1) J;have c2:i64 (aE ((2*i:Nat):Int) 2)=((2*(i+1):Nat):Int):=lf (b:=2) J;refine(b4 (di (show((2*i:Nat):Int)<len s by simp only[len];omega))).trans ?_;refine(eV (iA aq)).trans ?_;simp only[c1,c2,gx,aa6,if_pos agd,if_pos dQ];refine(dr rfl).trans ?_;refine(eV (iA O)).trans ?_;refine(dr rfl).trans ?_;refine(dr (a:=(false,())) rfl).trans ?_;refine(bT rfl).trans ?_;refine(eV (mJ ?_)).trans ?_
  .simp only[bI,aV,io,gL,j4]
   have:(qW s).length=s.length/2:=by simp[qW]
   omega
  have ap:i<(qW s).length:=by simp[qW];omega
  have hg:(qW s)[i]=UInt8.ofNat (16*l7 (ao s (2*i) (u8 0))+l7 (ao s (2*i+1) (u8 0))):=by simp[qW]
  rw[e0 ap,hg];simp only[av6 _ (adZ _ agd) _ (adZ _ dQ)];rfl
 .intro i ac _ hp
  subst hf;have aq:2*i<s.length:=J;have O:2*i+1<s.length:=J;have c1:i64 (aE ((2*i:Nat):Int) 1)=((2*i+1:Nat):Int):=lf (b:=1) J;refine(b4 (di (show((2*i:Nat):Int)<len s by simp only[len];omega))).trans ?_;refine(eV (iA aq)).trans ?_;simp only[c1,gx,aa6];refine(dr rfl).trans ?_;refine(eV (iA O)).trans ?_;refine(dr rfl).trans ?_;refine(dr (a:=(true,())) ?_).trans ?_
  .by_cases vJ:tQ (ao s (2*i) (u8 0))
   .rw[if_pos vJ,if_neg (λbL=>hp ⟨vJ,bL⟩)];rfl
   rw[if_neg vJ];rfl
  exact b4 rfl
 intro _;subst hf;exact bT (cR (show ¬((2*k:Nat):Int)<len s by simp only[len];omega))
end Yp
namespace Yp
open Go
def mU(l:V):Nat:=l.foldl (λn c=>256*n+c.toNat) 0
def Ge{s:V}(h:i<s.length):mU (s.take (i+1))=256*mU (s.take i)+s[i].toNat:=by unfold mU;rw[e0 h,Yk];rfl
def Y2{s:V}:∀i,i<=s.length->mU (s.take i)<256^i
 |0,_=>by simp[mU]
 |i+1,h=>by have:=Y2 (s:=s) i J;have ac:=yY s[i];rw[Ge J,Qx];omega
def Y3{s:V}(aq:0<s.length)(ab:s[0].toNat<=127):∀i,i<s.length->mU (s.take (i+1))<128*256^i
 |0,_=>by rw[Ge aq];simp[mU];omega
 |i+1,h=>by have:=Y3 aq ab i J;have ac:=yY s[i+1];rw[Ge h,Qx];omega
def azI(x c:Nat)(ah:c<256)(h:256*x+c<=9223372036854775807):i64 (g' .i64 (i64 (h0 .i64 (x:Int) (cL (u64 8)))) (c:Int))=((256*x+c:Nat):Int):=by
 have e1:h0 .i64 (x:Int) (cL (u64 8))=((256*x:Nat):Int):=by have:h0 .i64 (x:Int) (cL (u64 8))=(x:Int)*2^8:=rfl;rw[this];have:(2:Int)^8=256:=bO;rw[this];omega
 rw[e1,vh J];have aU:g' .i64 ((256*x:Nat):Int) (c:Int)=((256*x+c:Nat):Int):=by show(((BitVec.ofInt 64 ((256*x:Nat):Int)|||BitVec.ofInt 64 (c:Int)).toNat:Nat):Int)=_;rw[xJ,xJ,BitVec.toNat_or,Cw,Cw,s? J,s? J];have:=KJ (i:=8) ah x;rw[show(2:Nat)^8=256 by decide]at this;rw[<- this]
 rw[aU,vh h]
def ef(b:V)(A W:Nat):V:=(b.drop A).take W
def zt{b:V}(h:A+W<=b.length):(ef b A W).length=W:=by simp[ef];omega
def ai2{b:V}(h:i<(ef b A W).length)(bE:A+i<b.length):(ef b A W)[i]=b[A+i]:=by simp[ef]
def W0{b:V}:sub b (A:Int) ((A+W:Nat):Int)=ef b A W:=by unfold sub ef;rw[e7,e7,show A+W-A=W by omega]
def jX(b:V)(df w:Int):Int×Int×Int×Unit:=
 if w<1\/8<w\/df<0\/(b.length:Int)<df then(0,0,1,()) else if(b.length:Int)-df<w then(0,0,3,())
 else if w=8/\127<(ao b df.toNat (u8 0)).toNat then(0,0,2,()) else((mU (ef b df.toNat w.toNat):Int),df+w,0,())
def Y1{b:V}(dx:A+W<=b.length)(hW:W<=8)(dN:¬((W:Int)=8/\127<(ao b A (u8 0)).toNat)):∀i,i<W->mU ((ef b A W).take (i+1))<=9223372036854775807:=by
 intro i ac;have hl:=zt dx;by_cases asw:i+1<=7
 .have O:=Y2 (s:=ef b A W) (i+1) J
  have R:256^(i+1)<=256^7:=zP J asw;have af:256^7=72057594037927936:=bO;omega
 have cx:W=8:=J;have aq:0<(ef b A W).length:=J;have ak:(ef b A W)[0]=ao b A (u8 0):=by rw[ai2 aq J,nth_get J];rfl
 have ab:(ef b A W)[0].toNat<=127:=by rw[ak];exact Nat.le_of_not_lt λh=>dN ⟨J,h⟩
 have:=Y3 aq ab i J;have fk:i=7:=J;subst fk;have af:256^7=72057594037927936:=bO;omega
def aa4(b:V)(df w:Int)(hl:b.length<=1000000):lZ (b,df,w,())=some (jX b df w):=by
 unfold lZ jX;by_cases O:w<1
 .rw[if_pos (.inl O)];exact(dr (b4 (di O))).trans rfl
 by_cases R:8<w
 .rw[if_pos (.inr (.inl R))];exact(dr (a:=(true,())) ((bT (cR O)).trans (b4 (di R)))).trans rfl
 by_cases af:df<0
 .rw[if_pos (.inr (.inr (.inl af)))];exact(dr (a:=(true,())) ((bT (cR O)).trans ((bT (cR R)).trans (b4 (di af))))).trans rfl
 by_cases au:(b.length:Int)<df
 .rw[if_pos (.inr (.inr (.inr au)))];exact(dr (a:=(true,())) ((bT (cR O)).trans ((bT (cR R)).trans ((bT (cR af)).trans (congrArg (λb=>some (b,())) (di au)))))).trans rfl
 rw[if_neg J];refine(dr (a:=(false,())) ((bT (cR O)).trans ((bT (cR R)).trans ((bT (cR af)).trans (congrArg (λb=>some (b,())) (cR au)))))).trans ?_;refine(bT rfl).trans ?_;obtain⟨A,rfl⟩:∃n:Nat,df=n:=⟨df.toNat,J⟩;obtain⟨W,rfl⟩:∃n:Nat,w=n:=⟨w.toNat,J⟩;have c0:i64 (bq (len b) (A:Int))=(b.length:Int)-A:=by simp only[bq,len];exact iJ J J
 simp only[c0];by_cases aY:(b.length:Int)-A<W
 .rw[if_pos aY];exact b4 (di aY)
 rw[if_neg aY];refine(bT (cR aY)).trans ?_;have acH:A+W<=b.length:=J;have dx:A<b.length:=J;have aop:(T (aj (W:Int) 8) (an (aN (A:Int) (len b)) (some (aH (aO (u8 127)) (aO (ao b (ae (A:Int)) (u8 0))),()))) (some (false,())):Option (Bool×Unit))=some (decide ((W:Int)=8/\127<(ao b A (u8 0)).toNat),()):=by
  by_cases cx:(W:Int)=8
  .refine(b4 (cI cx)).trans ?_
   refine(eV (iA dx)).trans ?_;rw[gx,show aO (u8 127)=((127:Nat):Int) by decide,show aO (ao b A (u8 0))=(((ao b A (u8 0)).toNat:Nat):Int) from rfl,w4];simp only[cx,true_and]
  refine(bT (cv cx)).trans ?_;rw[decide_eq_false (λh=>cx h.1)]
 simp only[e7];refine(dr aop).trans ?_;by_cases dN:(W:Int)=8/\127<(ao b A (u8 0)).toNat
 .rw[if_pos dN];exact b4 (decide_eq_true dN)
 rw[if_neg dN];refine(bT (decide_eq_false dN)).trans ?_;have c1:i64 (aE (A:Int) (W:Int))=((A+W:Nat):Int):=lf J;simp only[c1,W0];refine(eV (vi J J (by simp only[len];omega))).trans ?_;have hl:=zt acH;have ary:=Y1 acH J dN;generalize sz:ef b A W=t at *
 generalize hf:(λ(x:Int×Int×Unit)=>_)=f;have key:=vr (f:=f) (λi=>((mU (t.take i):Int),(i:Int),())) W (λ_=>True) (0,0,0,()) 1 ?_ ?_ ?_
 .have ea:((mU (t.take 0):Int),((0:Nat):Int),())=((0:Int),(0:Int),()):=by simp[mU]
  rw[ea]at key;rcases key with⟨_,ai⟩|⟨⟨i,ac,ak⟩,ai⟩
  .rw[ai,il J]
   show some ((mU t:Int),((A+W:Nat):Int),0,())=_;simp
  exact absurd trivial ak
 .intro i ac _
  subst hf;have st:i<t.length:=J;refine(b4 (di (show(i:Int)<len t by simp only[len];omega))).trans ?_;refine(eV (iA st)).trans ?_;have c:i64 (aE (i:Int) 1)=((i+1:Nat):Int):=lf (b:=1) J;have acF:=yY t[i];have aa:=ary i ac;rw[Ge st]at aa;have c2:i64 (aO t[i])=((t[i].toNat:Nat):Int):=vh J;simp only[gx,nth_get st,c,c2];rw[azI _ _ acF aa,Ge st]
 .intro i _ _ h;exact absurd trivial h
 intro _;subst hf;exact bT (cR (show ¬(W:Int)<len t by simp only[len];omega))
end Yp
namespace Yp
open Go
def jm(b:V)(df n:Int):V×Int×Int×Unit:=
 if n<0\/999<n\/df<0\/(b.length:Int)<df then([],0,1,()) else if(b.length:Int)-df<(n+1)/2 then([],0,3,())
 else if n%2=1/\¬ao (gm (ef b df.toNat ((n.toNat+1)/2))) 0 (u8 0)=48 then([],0,2,())
 else if g5 ((gm (ef b df.toNat ((n.toNat+1)/2))).drop (n.toNat%2)) then((gm (ef b df.toNat ((n.toNat+1)/2))).drop (n.toNat%2),df+((n.toNat+1)/2:Nat),0,()) else([],0,2,())
def ahe(s:V)(f:V×Int×Int×Nat×Unit->Option (aF (V×Int×Int×Nat×Unit) (V×Int×Int×Unit)))
  (hf:f=λx=>T (kz x.2.2.2.1 (aV s)) (ob (tn (bi (h? s x.2.2.2.1).1,())) λa?=>T (bg a?.2.1) (some (aF.rt (aR UInt8,0,2,()))) (some (aF.nx (x.1,x.2.1,x.2.2.1,bI x.2.2.2.1 (h? s x.2.2.2.1).2,())))) (some (aF.ex 0 (x.1,x.2.1,x.2.2.1,x.2.2.2.1,())))) :
  bK f (aR UInt8,0,0,0,())=some (if g5 s then aF.ex 0 (aR UInt8,0,0,s.length,()) else aF.rt (aR UInt8,0,2,())):=by
 have key:=vr (f:=f) (λi=>(aR UInt8,(0:Int),(0:Int),i,())) s.length (λi=>∀h:i<s.length,h7 s[i]) (aR UInt8,0,2,()) 0 ?_ ?_ ?_
 .rcases key with⟨hall,ai⟩|⟨⟨i,ac,ak⟩,ai⟩
  .rw[ai,if_pos (ym.2 hall)]
  rw[ai,if_neg (λah=>ak (ym.1 ah i ac))]
 .intro i ac hp
  subst hf;obtain⟨e1,aU⟩:=Sy ac (hp i (b1 _) ac);refine(b4 (Ej ac)).trans ?_;refine(dr e1).trans ?_;refine(bT rfl).trans ?_;simp only[aU];rfl
 .intro i ac _ hp
  subst hf;have:¬h7 s[i]:=λh=>hp λ_=>h;obtain⟨q,e1⟩:=Sx ac this;refine(b4 (Ej ac)).trans ?_;refine(dr e1).trans ?_;rfl
 intro _;subst hf;exact bT (Vb (UO _))
def Sd(b:V)(df n:Int)(hl:b.length<=1000000):ye (b,df,n,())=some (jm b df n):=by
 unfold ye jm;by_cases O:n<0
 .rw[if_pos (.inl O)];exact(dr (b4 (di O))).trans rfl
 by_cases R:999<n
 .rw[if_pos (.inr (.inl R))];exact(dr (a:=(true,())) ((bT (cR O)).trans (b4 (di R)))).trans rfl
 by_cases af:df<0
 .rw[if_pos (.inr (.inr (.inl af)))];exact(dr (a:=(true,())) ((bT (cR O)).trans ((bT (cR R)).trans (b4 (di af))))).trans rfl
 by_cases au:(b.length:Int)<df
 .rw[if_pos (.inr (.inr (.inr au)))];exact(dr (a:=(true,())) ((bT (cR O)).trans ((bT (cR R)).trans ((bT (cR af)).trans (congrArg (λb=>some (b,())) (di au)))))).trans rfl
 rw[if_neg J];refine(dr (a:=(false,())) ((bT (cR O)).trans ((bT (cR R)).trans ((bT (cR af)).trans (congrArg (λb=>some (b,())) (cR au)))))).trans ?_;refine(bT rfl).trans ?_;obtain⟨A,rfl⟩:∃n:Nat,df=n:=⟨df.toNat,J⟩;obtain⟨N,rfl⟩:∃k:Nat,n=k:=⟨n.toNat,J⟩;have c0:i64 (bq (len b) (A:Int))=(b.length:Int)-A:=by simp only[bq,len];exact iJ J J
 have c1:i64 (gd (i64 (aE (N:Int) 1)) 2)=(((N+1)/2:Nat):Int):=by rw[show i64 (aE (N:Int) 1)=((N+1:Nat):Int) from lf (b:=1) J];exact HY (b:=2) J
 have c2:((N:Int)+1)/2=(((N+1)/2:Nat):Int):=J;simp only[c0,c1,c2,e7];generalize d_:(N+1)/2=M;by_cases aY:(b.length:Int)-A<M
 .rw[if_pos aY];exact b4 (di aY)
 rw[if_neg aY];refine(bT (cR aY)).trans ?_;have aqO:A+M<=b.length:=J;have hN:i64 (aE (A:Int) (M:Int))=((A+M:Nat):Int):=lf J;simp only[hN,W0];refine(eV (vi J J (by simp only[len];omega))).trans ?_;have tM:=zt aqO;refine(dr (aa3 (ef b A M) J)).trans ?_;have AB:=sp (ef b A M);rw[tM]at AB;generalize gm (ef b A M)=h at *
 have b2:fR (N:Int) 2=((N%2:Nat):Int):=H0 (b:=2);simp only[b2];by_cases as2:N%2=1
 .have hm:(N:Int)%2=1:=J
  refine(b4 (cI J)).trans ?_;have aq:0<h.length:=J;refine(eV (iA (a:=0) aq)).trans ?_;have ea:aj (aO (ao h (ae 0) (u8 0))) (aO (u8 48))=decide (ao h 0 (u8 0)=48):=by
   show((((ao h 0 (u8 0)).toNat:Nat):Int)==((48:Nat):Int))=_;rw[j3];simp only[beq_iff_eq,decide_eq_true_eq];constructor
   .intro hh;apply xQ.1;exact Qo hh
   intro hh;rw[hh];rfl
  rw[ea];by_cases bs:ao h 0 (u8 0)=48
  rotate_left
  .rw[if_pos ⟨hm,bs⟩]
   exact b4 (by rw[decide_eq_false bs];rfl)
  rw[if_neg (λah=>ah.2 bs)];refine(bT (by rw[decide_eq_true bs];rfl)).trans ?_;refine(eV (vi J (by simp only[len];omega) (by simp only[len];omega))).trans ?_;have es:sub h 1 (len h)=h.drop 1:=by unfold sub len;show(h.drop 1).take (h.length-1)=_;rw[il bp]
  simp only[es,as2];refine(cW (ahe (h.drop 1) _ rfl)).trans ?_;by_cases hf:g5 (h.drop 1)
  .rw[if_pos hf,if_pos hf]
   show some (h.drop 1,((A+M:Nat):Int),(0:Int),())=_;simp
  rw[if_neg hf,if_neg hf];rfl
 have je:N%2=0:=J;rw[if_neg (λah=>J)];refine(bT (cv J)).trans ?_;simp only[je,nl];refine(cW (ahe h _ rfl)).trans ?_;by_cases hf:g5 h
 .rw[if_pos hf,if_pos hf]
  show some (h,((A+M:Nat):Int),(0:Int),())=_;simp
 rw[if_neg hf,if_neg hf];rfl
end Yp
namespace Yp
open Go
def ik(b:V):V:=b.flatMap λc=>[u8 (gd (aO c) (aO (u8 16))),u8 (fR (aO c) (aO (u8 16)))]
def avO(a b:V):ik (a++b)=ik a++ik b:=by simp[ik]
def ae8:∀c:UInt8,([u8 (gd (aO c) (aO (u8 16))),u8 (fR (aO c) (aO (u8 16)))].map λx=>ou x.toNat)=[ou (c.toNat/16),ou (c.toNat%16)]/\(u8 (gd (aO c) (aO (u8 16)))).toNat<16/\(u8 (fR (aO c) (aO (u8 16)))).toNat<16:=we ir
def ae5(b:V):gm b=(ik b).map λx=>ou x.toNat:=by
 induction b with
 |nil=>rfl
 |cons c r ih =>have e1:gm (c::r)=[ou (c.toNat/16),ou (c.toNat%16)]++gm r:=rfl;have aU:ik (c::r)=[u8 (gd (aO c) (aO (u8 16))),u8 (fR (aO c) (aO (u8 16)))]++ik r:=rfl;rw[e1,aU,F3,(ae8 c).1,ih]
def avP(b:V):∀x∈ik b,x.toNat<16:=by
 intro x hx;unfold ik at hx;rw[xM]at hx;obtain⟨c,_,hx⟩:=hx;have:=ae8 c;simp only[f',KZ,or_false]at hx;rcases hx with rfl|rfl
 .exact this.2.1
 exact this.2.2
def ae6(b:V):(ik b).length=2*b.length:=by rw[<- sp,ae5,s9]
def ae7:∀d:Nat,d<16->(h7 (ou d)↔d<=9):=ir
def avR:∀d:Nat,d<10->u8 (aE (aO (UInt8.ofNat d)) (aO (u8 48)))=ou d:=ir
def avS:∀d:Nat,d<16->(ou d=48↔d=0):=ir
def cU(l:V)(o i:Nat):V:=(List.range l.length).map λj=>if o<=j/\j<o+i then ou (ao l j (u8 0)).toNat else ao l j (u8 0)
def nf(l:V)(o i:Nat):(cU l o i).length=l.length:=by simp[cU]
def ady(l:V)(o:Nat):cU l o 0=l:=by
 apply pq
 .simp[cU]
 intro j O R;simp only[cU,nj,q4];rw[if_neg J,nth_get R]
def ac9{l:V}:(cU l o (l.length-o)).drop o=(l.map λx=>ou x.toNat).drop o:=by
 apply pq
 .simp[cU]
 intro j O R;simp only[eU,nf]at O;simp only[cU,Qr,nj,q4];rw[if_pos J,nth_get J]
def adq{l:V}(h:o+i<l.length)(aJ:(ao l (o+i) (u8 0)).toNat<=9):
  cn (cU l o i) (o+i) (u8 (aE (aO (ao (cU l o i) (o+i) (u8 0))) (aO (u8 48))))=cU l o (i+1)/\ao (cU l o i) (o+i) (u8 0)=ao l (o+i) (u8 0):=by
 have e:ao (cU l o i) (o+i) (u8 0)=ao l (o+i) (u8 0):=by rw[nth_get (by rw[nf];exact h)];simp only[cU,nj,q4];rw[if_neg J]
 refine⟨?_,e⟩;rw[e];have aB:=avR (ao l (o+i) (u8 0)).toNat J;rw[awr]at aB;rw[aB];unfold cn;apply pq
 .simp[cU]
 intro j O R;rw[wa];simp only[cU,nj,q4];split
 .rename_i ap;subst ap;rw[if_pos J]
 by_cases ah:o<=j/\j<o+i
 .rw[if_pos ah,if_pos J]
 rw[if_neg ah,if_neg J]
def adi{l:V}(h:o+i<l.length):ao (cU l o i) (o+i) (u8 0)=ao l (o+i) (u8 0):=by rw[nth_get (by rw[nf];exact h)];simp only[cU,nj,q4];rw[if_neg J]
def ED{l:V}(bn:∀x∈l,x.toNat<16):g5 ((l.map λx=>ou x.toNat).drop o)↔∀i,i<l.length-o->(ao l (o+i) (u8 0)).toNat<=9:=by
 unfold g5;constructor
 .intro h i ac
  have O:=h i fK;simp only[Qr,nj]at O;rw[nth_get J];exact(ae7 _ (bn _ (k6 _))).1 O
 intro h i ac;simp only[eU,s9]at ac;simp only[Qr,nj];have O:=h i ac;rw[nth_get J]at O;exact(ae7 _ (bn _ (k6 _))).2 O
def yH(b:V)(df n:Int)(hl:b.length<=1000000):n1 (b,df,n,())=some (jm b df n):=by
 unfold n1 jm;by_cases O:n<0
 .rw[if_pos (.inl O)];exact(dr (b4 (di O))).trans rfl
 by_cases R:999<n
 .rw[if_pos (.inr (.inl R))];exact(dr (a:=(true,())) ((bT (cR O)).trans (b4 (di R)))).trans rfl
 by_cases af:df<0
 .rw[if_pos (.inr (.inr (.inl af)))];exact(dr (a:=(true,())) ((bT (cR O)).trans ((bT (cR R)).trans (b4 (di af))))).trans rfl
 by_cases au:(b.length:Int)<df
 .rw[if_pos (.inr (.inr (.inr au)))];exact(dr (a:=(true,())) ((bT (cR O)).trans ((bT (cR R)).trans ((bT (cR af)).trans (congrArg (λb=>some (b,())) (di au)))))).trans rfl
 rw[if_neg J];refine(dr (a:=(false,())) ((bT (cR O)).trans ((bT (cR R)).trans ((bT (cR af)).trans (congrArg (λb=>some (b,())) (cR au)))))).trans ?_;refine(bT rfl).trans ?_;obtain⟨A,rfl⟩:∃n:Nat,df=n:=⟨df.toNat,J⟩;obtain⟨N,rfl⟩:∃k:Nat,n=k:=⟨n.toNat,J⟩;have c0:i64 (bq (len b) (A:Int))=(b.length:Int)-A:=by simp only[bq,len];exact iJ J J
 have c1:i64 (gd (i64 (aE (N:Int) 1)) 2)=(((N+1)/2:Nat):Int):=by rw[show i64 (aE (N:Int) 1)=((N+1:Nat):Int) from lf (b:=1) J];exact HY (b:=2) J
 have c2:((N:Int)+1)/2=(((N+1)/2:Nat):Int):=J;simp only[c0,c1,c2,e7];generalize d_:(N+1)/2=M;by_cases aY:(b.length:Int)-A<M
 .rw[if_pos aY];exact b4 (di aY)
 rw[if_neg aY];refine(bT (cR aY)).trans ?_;have aqO:A+M<=b.length:=J;have hN:i64 (aE (A:Int) (M:Int))=((A+M:Nat):Int):=lf J;simp only[hN];have tM:=zt aqO;have Hw:∀i (h:i<(ef b A M).length),(ef b A M)[i]=ao b (A+i) (u8 0):=λi h=>by rw[ai2 h J,nth_get J]
 generalize ef b A M=t at *

 have first:bK (λ(Y:V×Int×Unit)=>T (aH Y.2.1 ((A+M:Nat):Int)) (an (aN Y.2.1 (len b)) (an (aN Y.2.1 (len b)) (an (ci 1 (bI (aV Y.1) (aV [u8 (gd (aO (ao b (ae Y.2.1) (u8 0))) (aO (u8 16))),u8 (fR (aO (ao b (ae Y.2.1) (u8 0))) (aO (u8 16)))])))
   (some (aF.nx (cg Y.1 [u8 (gd (aO (ao b (ae Y.2.1) (u8 0))) (aO (u8 16))),u8 (fR (aO (ao b (ae Y.2.1) (u8 0))) (aO (u8 16)))],i64 (aE Y.2.1 1),())))))) (some (aF.ex 0 (Y.1,Y.2.1,()))))
   (aR UInt8,(A:Int),())=some (aF.ex 0 (ik t,((A+M:Nat):Int),()):aF (V×Int×Unit) (V×Int×Int×Unit)):=by
  generalize hf:(λ(x:V×Int×Unit)=>_)=f;have key:=vr (f:=f) (λi=>(ik (t.take i),((A+i:Nat):Int),())) M (λ_=>True) ([],0,0,()) 0 ?_ ?_ ?_
  .have ea:(ik (t.take 0),((A+0:Nat):Int),())=(aR UInt8,(A:Int),()):=by simp[ik,aR]
   rw[ea]at key;rcases key with⟨_,ai⟩|⟨⟨i,ac,ak⟩,ai⟩
   .rw[ai,il J]
   exact absurd trivial ak
  .intro i ac _
   subst hf;have st:i<t.length:=J;have et:A+i<b.length:=J;refine(b4 (di (show((A+i:Nat):Int)<((A+M:Nat):Int) by omega))).trans ?_;refine(eV (iA et)).trans ?_;refine(eV (iA et)).trans ?_;have c:i64 (aE ((A+i:Nat):Int) 1)=((A+(i+1):Nat):Int):=lf (b:=1) J;simp only[gx,c,<- Hw i st];refine(eV (mJ ?_)).trans ?_
   .simp only[bI,aV,ae6,io,gL,j4];omega
   rw[e0 st,avO];rfl
  .intro i _ _ h;exact absurd trivial h
  intro _;subst hf;exact bT (cR (show ¬((A+M:Nat):Int)<((A+M:Nat):Int) by omega))
 refine(cW first).trans ?_;have wO:=ae6 t;rw[tM]at wO;have bn:=avP t;simp only[cb];refine(eV rfl).trans ?_;rw[ae5];generalize ik t=l at *
 have b2:fR (N:Int) 2=((N%2:Nat):Int):=H0 (b:=2);simp only[b2];have lC:aO (u8 9)=((9:Nat):Int):=bO;have LE:∀c:UInt8,aO c=((c.toNat:Nat):Int):=λ_=>rfl;by_cases as2:N%2=1
 .have hm:(N:Int)%2=1:=J
  refine(b4 (cI J)).trans ?_;have aq:0<l.length:=J;refine(eV (iA (a:=0) aq)).trans ?_;have ea:aj (aO (ao l (ae 0) (u8 0))) (aO (u8 0))=decide (ao l 0 (u8 0)=0):=by
   show((((ao l 0 (u8 0)).toNat:Nat):Int)==((0:Nat):Int))=_;rw[j3];simp only[beq_iff_eq,decide_eq_true_eq];constructor
   .intro hh;apply xQ.1;exact Qo hh
   intro hh;rw[hh];rfl
  have avL:(ao l 0 (u8 0)).toNat<16:=by rw[nth_get aq];exact bn _ (k6 _)
  have e1:ao (l.map λx=>ou x.toNat) 0 (u8 0)=ou (ao l 0 (u8 0)).toNat:=by rw[nth_get (by simpa using aq),nth_get aq];simp
  have aU:(ao (l.map λx=>ou x.toNat) 0 (u8 0)=48)↔ao l 0 (u8 0)=0:=by
   rw[e1,avS _ avL];constructor
   .intro hh;apply xQ.1;exact hh
   intro hh;rw[hh];rfl
  rw[ea];by_cases bs:ao l 0 (u8 0)=0
  rotate_left
  .rw[if_pos ⟨hm,λh=>bs (aU.1 h)⟩]
   exact b4 (by rw[decide_eq_false bs];rfl)
  rw[if_neg (λah=>ah.2 (aU.2 bs))];refine(bT (by rw[decide_eq_true bs];rfl)).trans ?_;refine(eV (vi J (by simp only[len];omega) (by simp only[len];omega))).trans ?_;have c4:cc (ae (len l)) (ae 1)=l.length-1:=by simp[cc,ae,len]
  have c5:ae 1=1:=bO;simp only[c4,c5,as2];generalize hf:(λ(x:V×Int×Int×Int×V×Unit)=>_)=f;have key:=vr (f:=f) (λi=>(aR UInt8,(0:Int),(0:Int),(i:Int),cU l 1 i,())) (l.length-1) (λi=>(ao l (1+i) (u8 0)).toNat<=9) (aR UInt8,0,2,()) 2 ?_ ?_ ?_
  .have ea:(aR UInt8,(0:Int),(0:Int),((0:Nat):Int),cU l 1 0,())=(aR UInt8,(0:Int),(0:Int),(0:Int),l,()):=by rw[ady];rfl
   rw[ea]at key;rcases key with⟨hall,ai⟩|⟨⟨i,ac,ak⟩,ai⟩
   .rw[ai,if_pos ((ED bn).2 hall),<- ac9]
    show some (cut (cU l 1 (l.length-1)) 1 (l.length-1),((A+M:Nat):Int),(0:Int),())=_;have:cut (cU l 1 (l.length-1)) 1 (l.length-1)=(cU l 1 (l.length-1)).drop 1:=by unfold cut;rw[il (by simp[nf])]
    rw[this];simp
   rw[ai,if_neg (λah=>ak ((ED bn).1 ah i ac))];rfl
  .intro i ac hp
   subst hf;have asv:1+i<l.length:=J;have as8:=hp i (b1 _);obtain⟨bz,ay⟩:=adq asv as8;refine(b4 (di (show(i:Int)<bi (l.length-1) by simp only[bi];omega))).trans ?_;have et:aN (i:Int) (bi (l.length-1))=true:=iA ac;refine(eV et).trans ?_;have aBW:bI 1 (ae (i:Int))=1+i:=by simp[bI,ae]
   have c:i64 (aE (i:Int) 1)=((i+1:Nat):Int):=lf (b:=1) J;simp only[aBW,c];refine(bT (by rw[lC,ay,LE];exact cR J)).trans ?_;refine(eV et).trans ?_;refine(eV et).trans ?_;rw[bz]
  .intro i ac _ hp
   subst hf;have asv:1+i<l.length:=J;refine(b4 (di (show(i:Int)<bi (l.length-1) by simp only[bi];omega))).trans ?_;have et:aN (i:Int) (bi (l.length-1))=true:=iA ac;refine(eV et).trans ?_;have aBW:bI 1 (ae (i:Int))=1+i:=by simp[bI,ae]
   simp only[aBW];exact b4 (by rw[lC,adi asv,LE];exact di J)
  intro _;subst hf;exact bT (cR (show ¬((l.length-1:Nat):Int)<bi (l.length-1) by simp only[bi];omega))
 have je:N%2=0:=J;rw[if_neg (λah=>J)];refine(bT (cv J)).trans ?_;simp only[je];generalize hf:(λ(x:V×Int×Int×Int×V×Unit)=>_)=f;have key:=vr (f:=f) (λi=>(aR UInt8,(0:Int),(0:Int),(i:Int),cU l 0 i,())) (l.length-0) (λi=>(ao l (0+i) (u8 0)).toNat<=9) (aR UInt8,0,2,()) 2 ?_ ?_ ?_
 .have ea:(aR UInt8,(0:Int),(0:Int),((0:Nat):Int),cU l 0 0,())=(aR UInt8,(0:Int),(0:Int),(0:Int),l,()):=by rw[ady];rfl
  rw[ea]at key;rcases key with⟨hall,ai⟩|⟨⟨i,ac,ak⟩,ai⟩
  .rw[ai,if_pos ((ED bn).2 hall),<- ac9]
   show some (cU l 0 (l.length-0),((A+M:Nat):Int),(0:Int),())=_;rw[nl];simp
  rw[ai,if_neg (λah=>ak ((ED bn).1 ah i ac))];rfl
 .intro i ac hp
  subst hf;have asv:0+i<l.length:=J;have as8:=hp i (b1 _);obtain⟨bz,ay⟩:=adq asv as8;rw[lT]at bz ay as8;have et:aN (i:Int) (len (cU l 0 i))=true:=iA (by rw[nf];omega);refine(b4 (di (show(i:Int)<len (cU l 0 i) by simp only[len,nf];omega))).trans ?_;refine(eV et).trans ?_;have c:i64 (aE (i:Int) 1)=((i+1:Nat):Int):=lf (b:=1) J;simp only[gx,c];refine(bT (by rw[lC,ay,LE];exact cR J)).trans ?_;refine(eV et).trans ?_;refine(eV et).trans ?_;rw[bz]
 .intro i ac _ hp
  subst hf;have asv:0+i<l.length:=J;have et:aN (i:Int) (len (cU l 0 i))=true:=iA (by rw[nf];omega);refine(b4 (di (show(i:Int)<len (cU l 0 i) by simp only[len,nf];omega))).trans ?_;refine(eV et).trans ?_;simp only[gx];have hg:=adi asv;rw[lT]at hg hp;exact b4 (by rw[lC,hg,LE];exact di J)
 intro _;subst hf;exact bT (cR (show ¬((l.length-0:Nat):Int)<len (cU l 0 (l.length-0)) by simp only[len,nf];omega))
end Yp
namespace Yp
open Go
def uq(B:Nat)(wt:UInt8->Nat)(l:V):Nat:=l.foldl (λn c=>B*n+wt c) 0
def ajo(B:Nat)(wt:UInt8->Nat)(l:V)(c:UInt8):uq B wt (l++[c])=B*uq B wt l+wt c:=by unfold uq;rw[Yk];rfl
def V3(B:Nat)(g:Nat->UInt8)(v:Nat):∀n,a_ B g v (n+1)=a_ B g (v/B) n++[g (v%B)]
 |0=>by simp[a_]
 |n+1=>by have e:a_ B g v (n+1+1)=g (v/B^(n+1)%B)::a_ B g v (n+1):=rfl;have aU:a_ B g (v/B) (n+1)=g (v/B/B^n%B)::a_ B g (v/B) n:=rfl;rw[e,V3 B g v n,aU,Nat.div_div_eq_div_mul,Nat.pow_succ',mi]
def XJ{B:Nat}{g:Nat->UInt8}{wt:UInt8->Nat}(az:0<B)(h:∀d,d<B->wt (g d)=d):∀(n v:Nat),uq B wt (a_ B g v n)=v%B^n
 |0,v=>by simp[a_,uq,Nat.mod_one]
 |n+1,v=>by rw[V3,ajo,XJ az h n,h _ (F5 _ az),Nat.pow_succ',Nat.mod_mul];omega
def agn{B:Nat}{g:Nat->UInt8}{wt:UInt8->Nat}{l:V}(h:∀c∈l,wt c<B/\g (wt c)=c):∀i,i<=l.length->a_ B g (uq B wt (l.take i)) i=l.take i
 |0,_=>by simp[a_]
 |i+1,ac=>by
  have ah:=h _ (k6 (show i<l.length by omega));rw[e0 J,ajo,V3];have e1:(B*uq B wt (l.take i)+wt l[i])/B=uq B wt (l.take i):=by rw[Nat.mul_add_div J,F9 ah.1];omega
  have aU:(B*uq B wt (l.take i)+wt l[i])%B=wt l[i]:=by rw[Nat.mul_add_mod,s? ah.1]
  rw[e1,aU,agn h i J,ah.2]
theorem alk(l:V):mU l=uq 256 UInt8.toNat l:=rfl
theorem aBl(l:V):val l=uq 10 k? l:=rfl
def Y4(v n:Nat):mU (a_ 256 n7 v n)=v%256^n:=by rw[alk];refine XJ J (λd aJ => ?_) n v;simp only[n7,ta];omega
def XH(v n:Nat):val (a_ 10 gi v n)=v%10^n:=by rw[aBl];refine XJ J (λd aJ => ?_) n v;simp only[k?,gi,ta];omega
def agm{l:V}(hf:g5 l):a_ 10 gi (val l) l.length=l:=by
 have:=agn (B:=10) (g:=gi) (wt:=k?) (l:=l) (λc ah=>by obtain⟨i,ac,rfl⟩:=pp ah;have:=C8 (hf i ac);exact⟨this.2,this.1.symm⟩) l.length (b1 _)
 rw[ni]at this;exact this
def aBk{l:V}(hf:g5 l):val l<10^l.length:=by have:=XG (s:=l) l.length (b1 _) (λj _ h=>hf j h);rw[ni]at this;exact this
def Mz{b:V}:∀{i:Nat} (h:i<b.length),ao (gm b) (2*i) (u8 0)=ou (b[i].toNat/16)/\ao (gm b) (2*i+1) (u8 0)=ou (b[i].toNat%16):=by
 induction b with
 |nil=>intro i h;simp at h
 |cons x r ih=>
  intro i h;have e:gm (x::r)=ou (x.toNat/16)::ou (x.toNat%16)::gm r:=rfl;cases i with
  |zero=>rw[e];exact⟨rfl,rfl⟩
  |succ i =>have:=ih (i:=i) (by simpa using h);rw[e];exact this
def axe{a b:V}{k:Nat}(bh:a.length=2*k)(aa:b.length=2*k)(h:∀i,i<k->ao a (2*i) (u8 0)=ao b (2*i) (u8 0)/\ao a (2*i+1) (u8 0)=ao b (2*i+1) (u8 0)):a=b:=by
 apply pq
 .omega
 intro j O R;have:=h (j/2) J;by_cases hp:j%2=0
 .have:=this.1
  rw[show 2*(j/2)=j by omega,nth_get O,nth_get R]at this;exact this
 have:=this.2;rw[show 2*(j/2)+1=j by omega,nth_get O,nth_get R]at this;exact this
def afm:∀d:Nat,d<16->h7 (ou d)->k? (ou d)=d:=ir
def aba:∀d:Nat,d<10->ou d=UInt8.ofNat (48+d):=ir
def Ns:∀d:Nat,d<16->tQ (ou d)/\l7 (ou d)=d:=ir
def ar9{p:V}(hf:g5 p)(aC:p.length%2=0):gm (gA p)=p:=by
 have hl:(gA p).length=p.length/2:=by simp[gA]
 refine axe (k:=p.length/2) (by rw[sp,hl]) J λi ac => ?_;have fk:i<(gA p).length:=J;have aq:2*i<p.length:=J;have O:2*i+1<p.length:=J;obtain⟨e1,aU⟩:=Mz fk;obtain⟨cN,cX⟩:=C8 (hf _ aq);obtain⟨e9,eo⟩:=C8 (hf _ O);have hg:(gA p)[i]=UInt8.ofNat (16*k? p[2*i]+k? p[2*i+1]):=by simp[gA,iY,nth_get aq,nth_get O]
 have ak:(gA p)[i].toNat=16*k? p[2*i]+k? p[2*i+1]:=by rw[hg,ta];omega
 rw[e1,aU,ak,nth_get aq,nth_get O];rw[show(16*k? p[2*i]+k? p[2*i+1])/16=k? p[2*i] by omega,show(16*k? p[2*i]+k? p[2*i+1])%16=k? p[2*i+1] by omega];rw[aba _ cX,aba _ eo];exact⟨cN.symm,e9.symm⟩
def ak6{u:V}(hf:g5 (gm u)):gA (gm u)=u:=by
 have hl:=sp u;apply pq
 .simp[gA];omega
 intro i O R;obtain⟨e1,aU⟩:=Mz R;have f0:=hf (2*i) J;have f1:=hf (2*i+1) J;rw[<- nth_get (d:=u8 0)]at f0 f1;rw[e1]at f0;rw[aU]at f1;have aL:=yY u[i];simp only[gA,nj,q4,iY,e1,aU];rw[afm _ J f0,afm _ J f1];apply xQ.1;rw[ta];omega
def ase(b:V):Hq (gm b):=by have hl:=sp b;refine(TC (k:=b.length) J).1 λi ac => ?_;obtain⟨e1,aU⟩:=Mz ac;have aL:=yY b[i];rw[e1,aU];exact⟨(Ns _ J).1,(Ns _ J).1⟩
def aA7(b:V):qW (gm b)=b:=by
 have hl:=sp b;apply pq
 .simp[qW];omega
 intro i O R;obtain⟨e1,aU⟩:=Mz R;have aL:=yY b[i];simp only[qW,nj,q4,e1,aU];rw[(Ns _ J).2,(Ns _ J).2];apply xQ.1;rw[ta];omega
end Yp
namespace Yp
def bm{a b r:α}(h:c=true)(k:a=r):T c a b=r:=(b4 h).trans k
def a2{a b r:α}(h:c=false)(k:b=r):T c a b=r:=(bT h).trans k
def bd{a r:Option α}(h:c=true)(k:a=r):an c a=r:=(eV h).trans k
def aS{o:Option α}{a:α}{f:α->Option β}{r:Option β}(h:o=some a)(k:f a=r):ob o f=r:=(dr h).trans k
end Yp
namespace Yp
open Go
def Cp:=@Classical.not_not
def Qu:=@List.contains_eq_mem
def P5:=@Bool.false_ne_true
def Yl:=@Bool.not_eq_false
theorem aCy{k:Nat}{y:σ}{kn:σ->Option β}{hB:Nat->σ->Option β}{hR:ρ->Option β}:cb (some (.ex k y)) kn hB hR=hB k y:=rfl
def ahX{a b:α}:T c (some a) (some b)=some (T c a b):=by cases c<;>rfl
def azx{a:α}:T c a a=a:=by cases c<;>rfl
def Nd{f:σ->Option (aF σ ρ)}(bS:Nat->σ)(n:Nat)(p:Nat->Prop)(r:Nat->aF σ ρ)(k:Nat)(ai:∀i,match r i with|.nx _=>False|_=>True)(ab:∀i,i<n->p i->f (bS i)=some (.nx (bS (i+1))))(aa:∀i,i<n->¬p i->f (bS i)=some (r i))(aC:f (bS n)=some (.ex k (bS n))):
  ((∀i,i<n->p i)/\bK f (bS 0)=some (.ex k (bS n)))\/∃i,i<n/\(∀j,j<i->p j)/\¬p i/\bK f (bS 0)=some (r i):=by
 by_cases h:∀i,i<n->p i
 .refine .inl ⟨h,?_⟩
  rw[lh bS n (λi ac=>ab i ac (h i ac)) 0 (nV _)];exact ec aC
 refine .inr ?_;have u?:∃i,i<n/\¬p i:=iQ λah=>h λi ac=>iQ λhp=>ah ⟨i,ac,hp⟩;obtain⟨k,am,hp⟩:=u?;induction k using Nat.strongRecOn with
 |_ k ih=>
  by_cases hl:∃j,j<k/\¬p j
  .obtain⟨j,ap,TY⟩:=hl
   exact ih j ap J TY
  have hall:∀i,i<k->p i:=λi ac=>iQ λhp=>hl ⟨i,ac,hp⟩;refine⟨k,am,hall,hp,?_⟩;rw[lh bS k (λi ac=>ab i J (hall i ac)) 0 (nV _)];have:=aa k am hp;have sx:=ai k;generalize r k=x at *
  cases x with
  |nx y=>exact sx.elim
  |ex j y=>exact ec this
  |rt y=>exact o2 this
def tx:List (List Int):=[[1,2,25],[1,3,22,49,70],[1,4,13,14,18],[1,6,3,11,12,15],[1,10,7],[1,12,4],[1,16,53],[1,42,90],[2,19,2],[2,11,32,100],[3,12,37],[3,6,38],[3,2,39],[3,8,41],[3,15,42],[3,42,95],[4,37,35],[4,28,102],[5,400,48],[5,120,54],[6,8,52,64,96,128],[7,255,55],[7,400,127]]
def mu(i:Nat):List Int:=ao tx i (aR Int)
def e_(no:Int):Option (Int×Int):=(tx.find? λr=>(r.drop 2).contains no).map λr=>(ao r 0 0,ao r 1 0)
def iw(o:Option (Int×Int)):(Int×Int×Unit)×Bool×Unit:=match o with|some (k,l)=>((k,l,()),true,())|none=>((0,0,()),false,())
def ays(l:List Int)(n:Int)(hl:l.length<=1000000):Je (l,n,())=some (l.contains n,()):=by
 unfold Je;generalize hf:(λ(Y:Bool×Int×Unit)=>_)=f;have key:=Nd (f:=f) (λi=>(false,(i:Int),())) l.length (λi=>¬ao l i 0=n) (λ_=>.rt (true,())) 0 (λ_=>trivial) ?_ ?_ ?_
 .rcases key with⟨h,ai⟩|⟨i,ac,_,hp,ai⟩
  .refine(cW ai).trans ?_
   have:l.contains n=false:=by rw[Qu,decide_eq_false_iff_not];intro hm;obtain⟨i,ac,rfl⟩:=pp hm;exact h i ac (nth_get ac)
   rw[this];rfl
  refine(cW ai).trans ?_;have:l.contains n=true:=by rw[Qu,decide_eq_true_eq,<- Cp.1 hp,nth_get ac];exact k6 ac
  rw[this];rfl
 .intro i ac hp
  subst hf;refine bm (w4.trans (decide_eq_true ac)) ?_;refine bd (iA ac) ?_;refine a2 (cv hp) ?_;have c:i64 (aE (i:Int) 1)=((i+1:Nat):Int):=lf (b:=1) J
  grind
 .intro i ac hp
  subst hf;refine bm (w4.trans (decide_eq_true ac)) ?_;refine bd (iA ac) ?_;exact b4 (cI (Cp.1 hp))
 subst hf;exact bT (cR (by simp only[len];omega))
def abL{α:Type}{p:α->Bool}:∀{l:List α} {i:Nat} (h:i<l.length),(∀j (ap:j<i),p (l[j]'J)=false)->p l[i]=true->l.find? p=some l[i]
 |a::r,0,_,_,h=>by simp only[List.getElem_cons_zero]at h ⊢;exact List.find?_cons_of_pos h
 |a::r,i+1,ac,ap,h=>by rw[List.find?_cons_of_neg (by have:=ap 0 J;simp at this;rw[this];exact P5)];exact abL (by grind) (λj kV=>by have:=ap (j+1) J;simpa using this) h
def agJ(no:Int):Jb (no,())=some (iw (e_ no)):=by
 unfold Jb;generalize hf:(λ(Y:Bool×Int×Unit)=>_)=f;have cm:∀i,i<23->3<=(mu i).length/\(mu i).length<=10:=bO;have et:∀i,i<23->Je (sub (mu i) 2 (len (mu i)),no,())=some (((mu i).drop 2).contains no,()):=by
  intro i ac;have:=cm i ac;rw[ays _ _ (by simp only[sub,io,eU];omega)];have:sub (mu i) 2 (len (mu i))=(mu i).drop 2:=by simp only[sub,len];rw[il bp];rfl
  rw[this]
 have key:=Nd (f:=f) (λi=>(false,(i:Int),())) 23 (λi=>((mu i).drop 2).contains no=false) (λi=>.rt ((ao (mu i) 0 0,ao (mu i) 1 0,()),true,())) 0 (λ_=>trivial) ?_ ?_ ?_
 .have ak:∀i,(h:i<23)->tx[i]'(by exact h)=mu i:=λi h=>(nth_get (d:=aR Int) (by exact h)).symm
  rcases key with⟨h,ai⟩|⟨i,ac,ap,hp,ai⟩
  .refine(cW ai).trans ?_
   have:e_ no=none:=by unfold e_;rw[Option.map_eq_none_iff,List.find?_eq_none];intro r hm;obtain⟨i,ac,rfl⟩:=pp hm;rw[ak i ac,h i ac];exact P5
   rw[this];rfl
  refine(cW ai).trans ?_;have:e_ no=some (ao (mu i) 0 0,ao (mu i) 1 0):=by unfold e_;have asf:tx.find? (λr=>(r.drop 2).contains no)=some (tx[i]'(by exact ac)):=abL (l:=tx) (p:=λ(r:List Int)=>(r.drop 2).contains no) ac (λj kV=>(congrArg (λ(r:List Int)=>(r.drop 2).contains no) (ak j J)).trans (ap j kV)) ((congrArg (λ(r:List Int)=>(r.drop 2).contains no) (ak i ac)).trans ((Yl _).mp hp));rw[asf,ak i ac];rfl
  rw[this];rfl
 .intro i ac hp
  subst hf;have h:=cm i ac;refine bm (w4 (b:=23).trans (decide_eq_true ac)) ?_;refine bd (iA (n:=23) ac) ?_;refine bd (show b8 2 (len (mu i)) (len (mu i))=true from vi J (by simp only[len];omega) J) ?_;refine aS (et i ac) ?_;refine a2 hp ?_;have c:i64 (aE (i:Int) 1)=((i+1:Nat):Int):=lf (b:=1) J;simp only[c]
 .intro i ac hp
  subst hf;have h:=cm i ac;refine bm (w4 (b:=23).trans (decide_eq_true ac)) ?_;refine bd (iA (n:=23) ac) ?_;refine bd (show b8 2 (len (mu i)) (len (mu i))=true from vi J (by simp only[len];omega) J) ?_;refine aS (et i ac) ?_;refine bm ((Yl _).mp hp) ?_
  repeat refine bd (iA (n:=23) ac) ?_
  repeat first
   |refine bd (show aN 0 (len (mu i))=true from Ut J (by simp only[len];omega)) ?_
   |refine bd (show aN 1 (len (mu i))=true from Ut J (by simp only[len];omega)) ?_
   |refine bd (iA (n:=23) ac) ?_
  rfl
 subst hf;exact bT (cR (by simp only[len];decide))
def Di:List Int:=tx.flatMap λr=>r.drop 2
def k2(k no:Int):Int:=match Ak (k,no,()) with|some (a,())=>a|none=>0
def apu(no:Int):∃a,GS (no,())=some (a,()):=by
 unfold GS;simp only[ahX]
 grind
def apw(k no:Int):Ak (k,no,())=some (k2 k no,()):=by
 have:∃a,Ak (k,no,())=some (a,()):=by
  unfold Ak;obtain⟨a,bh⟩:=apu no;simp only[bh,Vn,ahX]
  grind
 obtain⟨a,bh⟩:=this;unfold k2;rw[bh]
def Ey(no:Int):Option (Int×Int):=if 0<k2 1 no then some (1,k2 1 no) else if 0<k2 2 no then some (2,k2 2 no) else if 0<k2 3 no then some (3,k2 3 no) else if 0<k2 4 no then some (4,k2 4 no)
 else if 0<k2 5 no then some (5,k2 5 no) else if 0<k2 6 no then some (6,k2 6 no) else if 0<k2 7 no then some (7,k2 7 no) else none
def apr(no:Int):wu (no,())=some (iw (Ey no)):=by
 unfold wu;generalize hf:(λ(Y:Bool×Int×Unit)=>_)=f;have step:∀k:Nat,k<=7->f (false,(k:Int),())=if 0<k2 k no then some (.rt (((k:Int),k2 k no,()),true,())) else some (.nx (false,((k+1:Nat):Int),())):=by
  intro k am;subst hf;refine bm (lH (show(k:Int)<=7 by omega)) ?_;refine aS (apw _ _) ?_;have c:i64 (aE (k:Int) 1)=((k+1:Nat):Int):=lf (b:=1) J;simp only[c];by_cases h:0<k2 k no
  .rw[if_pos h];exact b4 (di h)
  rw[if_neg h];exact bT (cR h)
 have last:f (false,((8:Nat):Int),())=some (.ex 0 (false,((8:Nat):Int),())):=by subst hf;exact bT (oo (show ¬((8:Nat):Int)<=7 by omega))
 have key:∀k:Nat,k<=7->k2 k no<=0->bK f (false,(k:Int),())=bK f (false,((k+1:Nat):Int),()):=λk am h=>ev (by rw[step k am,if_neg J]);have st:∀k:Nat,k<=7->0<k2 k no->bK f (false,(k:Int),())=some (.rt (((k:Int),k2 k no,()),true,())):=λk am h=>o2 (by rw[step k am,if_pos h]);have:=key 1;have:=key 2;have:=key 3;have:=key 4;have:=key 5;have:=key 6;have:=key 7;have:=st 1;have:=st 2;have:=st 3;have:=st 4;have:=st 5;have:=st 6;have:=st 7;have cx:bK f (false,((8:Nat):Int),())=some (.ex 0 (false,((8:Nat):Int),())):=ec last;show cb (bK f (false,((1:Nat):Int),())) _ _ _=_;unfold Ey
 repeat' split
 all_goals
  simp_all
  first|done|rfl
def ava(h:∀c∈Di,¬no=c):∀k,k2 k no=0:=by have bE:∀c∈Di,aj no c=false:=λc ah=>cv (h c ah);have e:Di=[25,22,49,70,13,14,18,3,11,12,15,7,4,53,90,2,32,100,37,38,39,41,42,95,35,102,48,54,52,64,96,128,55,127]:=bO;rw[e]at bE;simp at bE;intro k;unfold k2 Ak GS;simp only[bE,BK,Vn,azx]
def axp(no:Int):Ey no=e_ no:=by
 by_cases h:no∈Di
 .exact(by decide +kernel:∀no∈Di,Ey no=e_ no) no h
 have bE:∀c∈Di,¬no=c:=λc ah e=>h (e▸ah);have e1:Ey no=none:=by simp[Ey,ava bE]
 have aU:e_ no=none:=by unfold e_;rw[Option.map_eq_none_iff,List.find?_eq_none];intro r ai ah;rw[Qu,decide_eq_true_eq]at ah;exact h (xM.2 ⟨r,ai,ah⟩)
 rw[e1,aU]
def GQ(no:Int):wu (no,())=some (iw (e_ no)):=by rw[apr,axp]
def kinds(k:Int):Prop:=k=1\/k=2\/k=3\/k=4\/k=5\/k=6\/k=7
instance (k:Int):Decidable (kinds k):=by unfold kinds;infer_instance
def sf(h:e_ no=some (k,l)):kinds k/\1<=l/\l<=400/\(k=2\/k=4->l<=99):=by
 unfold e_ at h;rw[lR]at h;have:∀r∈tx,kinds (ao r 0 0)/\1<=ao r 1 0/\ao r 1 0<=400/\(ao r 0 0=2\/ao r 0 0=4->ao r 1 0<=99):=ir
 grind
def o?(lo ac:Int)(v:V):Prop:=∀i (h:i<v.length),lo<=aO v[i]/\aO v[i]<=ac
instance (lo ac:Int) (v:V):Decidable (o? lo ac v):=inferInstanceAs (Decidable (∀(i:Nat) (h:i<v.length),lo<=aO v[i]/\aO v[i]<=ac))
def nH(lo ac:UInt8)(v:V)(hl:v.length<=1000000):∃i,bK (λ(Y:Bool×Int×Unit)=>
  T (aH Y.2.1 (len v)) (an (aN Y.2.1 (len v)) (ob (T (aH (aO (ao v (ae Y.2.1) (u8 0))) (aO lo)) (some (true,())) (some (aH (aO ac) (aO (ao v (ae Y.2.1) (u8 0))),())))
   λ(a:Bool×Unit)=>T a.1 (some (aF.ex 999999999 (false,Y.2.1,()))) (some (aF.nx (Y.1,i64 (aE Y.2.1 1),())))))
   (some (aF.ex 0 (Y.1,Y.2.1,()):aF (Bool×Int×Unit) Unit))) (false,0,())=some (if o? (aO lo) (aO ac) v then .ex 0 (false,i,()) else .ex 999999999 (false,i,())):=by
 generalize hf:(λ(Y:Bool×Int×Unit)=>_)=f;have key:=Nd (f:=f) (λi=>(false,(i:Int),())) v.length (λi=>aO lo<=aO (ao v i (u8 0))/\aO (ao v i (u8 0))<=aO ac) (λi=>.ex 999999999 (false,(i:Int),())) 0 (λ_=>trivial) ?_ ?_ ?_
 .rcases key with⟨h,ai⟩|⟨i,ac,_,hp,ai⟩
  .refine⟨(v.length:Int),ai.trans ?_⟩
   rw[if_pos (show o? (aO lo) (aO ac) v from λi ac=>by have:=h i ac;rwa [nth_get ac]at this)]
  refine⟨(i:Int),ai.trans ?_⟩;rw[if_neg (λ(ah:o? (aO lo) (aO _) v)=>hp (by have:=ah i ac;rwa [<- nth_get (d:=u8 0) ac]at this))]
 .intro i ac hp
  subst hf;refine bm (w4.trans (decide_eq_true ac)) ?_;refine bd (iA ac) ?_;have c:i64 (aE (i:Int) 1)=((i+1:Nat):Int):=lf (b:=1) J;simp only[gx,c];refine aS (a:=(false,())) (a2 (cR J) (congrArg (λb=>some (b,())) (cR J))) ?_;rfl
 .intro i ac hp
  subst hf;refine bm (w4.trans (decide_eq_true ac)) ?_;refine bd (iA ac) ?_;simp only[gx];by_cases h:aO (ao v i (u8 0))<aO lo
  .exact aS (b4 (di h)) rfl
  exact aS (a:=(true,())) (a2 (cR h) (congrArg (λb=>some (b,())) (di J))) rfl
 subst hf;exact bT (cR (by simp only[len];omega))
def wq(k:Int)(v:V):Prop:=(k<=2->g5 v)/\(k<=5->o? 32 126 v)
def j_(k l:Int)(n:Nat):Prop:=if k=1\/k=3\/k=6 then(n:Int)=l else 1<=n/\(n:Int)<=l
instance (k l:Int) (n:Nat):Decidable (j_ k l n):=by unfold j_;infer_instance
def gY(k l:Int)(v:V):Prop:=wq k v/\j_ k l v.length
instance (k l:Int) (v:V):Decidable (gY k l v):=inferInstanceAs (Decidable (((k<=2->g5 v)/\(k<=5->o? 32 126 v))/\j_ k l v.length))
theorem Iz(c:UInt8):aO c=((c.toNat:Nat):Int):=rfl
def ay1{v:V}:o? 48 57 v↔g5 v:=by unfold o? g5 h7;refine forall_congr' λi=>forall_congr' λh => ?_;rw[Iz];omega
def Dg{v:V}(h:g5 v):o? 32 126 v:=λi ac=>by have:=h i ac;unfold h7 at this;rw[Iz];omega
def cJ(k:Int):Int:=if k=2\/k=4 then 2 else if k=5\/k=7 then 3 else 0
def abB(am:kinds k):iZ (k,())=some (cJ k,()):=by rcases am with rfl|rfl|rfl|rfl|rfl|rfl|rfl<;>rfl
def agK(am:kinds k):N5 (k,())=some (cJ k,()):=by rcases am with rfl|rfl|rfl|rfl|rfl|rfl|rfl<;>rfl
def ab4{o:Option (Int×Int)}(h:o=some (k,l)):iw o=((k,l,()),true,()):=by rw[h];rfl
def apY{o:Option (Int×Int)}(h:o=none):iw o=((0,0,()),false,()):=by rw[h];rfl
def mL{a b:Bool}(h:a=b):some (a,())=some (b,()):=by rw[h]
def fX(no:Int)(v:V):Bool:=match e_ no with|some (k,l)=>decide (gY k l v)|none=>false
def L7(no:Int)(v:V)(hl:v.length<=1000000):ws (no,v,())=some (fX no v,()):=by
 unfold ws fX;refine aS (GQ no) ?_;cases aK:e_ no with
 |none=>exact aS (a:=(true,())) (b4 rfl) rfl
 |some p=>
  obtain⟨k,l⟩:=p;rw[ab4 rfl];obtain⟨am,O,sk,u4⟩:=sf aK;by_cases cm:l<v.length
  .refine aS (a:=(true,())) (a2 rfl (mL (di cm))) ?_
   refine bm rfl (mL ?_);refine(decide_eq_false λh => ?_).symm;have:=h.2;unfold j_ at this
   grind
  refine aS (a:=(false,())) (a2 rfl (mL (cR cm))) ?_;obtain⟨i,eY⟩:=nH (u8 48) (u8 57) v hl;obtain⟨j,gT⟩:=nH (u8 32) (u8 126) v hl;have e1:o? (aO (u8 48)) (aO (u8 57)) v↔g5 v:=ay1;have aU:o? (aO (u8 32)) (aO (u8 126)) v↔o? 32 126 v:=Qw;simp only[e1]at eY;simp only[aU]at gT;have Co:∀{c:Bool} {p:Prop} [Decidable p],(c=true↔p)->some (c,())=some (decide p,()):=fun{c p _} h=>mL (j3.2 (h.trans decide_eq_true_iff.symm));refine a2 rfl ?_;rcases am with rfl|rfl|rfl|rfl|rfl|rfl|rfl
  .refine bm rfl ?_;refine bm rfl ?_
   refine(cW eY).trans ?_;by_cases hf:g5 v
   .rw[if_pos hf]
    refine(cW gT).trans ?_;rw[if_pos (Dg hf)];refine Co ?_;simp[aj,len,gY,j_,wq,hf,Dg hf]
   rw[if_neg hf];exact mL (decide_eq_false λh=>hf (h.1.1 J)).symm
  .refine a2 rfl ?_;refine bm rfl ?_
   refine(cW eY).trans ?_;by_cases hf:g5 v
   .rw[if_pos hf]
    refine(cW gT).trans ?_;rw[if_pos (Dg hf)];refine Co ?_;simp[aH,len,gY,j_,wq,hf,Dg hf];omega
   rw[if_neg hf];exact mL (decide_eq_false λh=>hf (h.1.1 J)).symm
  .refine a2 rfl ?_;refine a2 rfl ?_;refine bm rfl ?_;refine bm rfl ?_
   refine(cW gT).trans ?_;by_cases hf:o? 32 126 v
   .rw[if_pos hf]
    refine Co ?_;simp[aj,len,gY,j_,wq,hf]
   rw[if_neg hf];exact mL (decide_eq_false λh=>hf (h.1.2 J)).symm
  .refine a2 rfl ?_;refine a2 rfl ?_;refine a2 rfl ?_;refine bm rfl ?_
   refine(cW gT).trans ?_;by_cases hf:o? 32 126 v
   .rw[if_pos hf]
    refine Co ?_;simp[aH,len,gY,j_,wq,hf];omega
   rw[if_neg hf];exact mL (decide_eq_false λh=>hf (h.1.2 J)).symm
  .refine a2 rfl ?_;refine a2 rfl ?_;refine a2 rfl ?_;refine a2 rfl ?_;refine bm rfl ?_
   refine(cW gT).trans ?_;by_cases hf:o? 32 126 v
   .rw[if_pos hf]
    refine Co ?_;simp[aH,len,gY,j_,wq,hf];omega
   rw[if_neg hf];exact mL (decide_eq_false λh=>hf (h.1.2 J)).symm
  .refine a2 rfl ?_;refine a2 rfl ?_;refine a2 rfl ?_;refine a2 rfl ?_;refine a2 rfl ?_
   refine Co ?_;simp[aj,len,gY,j_,wq]
  refine a2 rfl ?_;refine a2 rfl ?_;refine a2 rfl ?_;refine a2 rfl ?_;refine a2 rfl ?_;refine Co ?_;simp[aH,len,gY,j_,wq];omega
def Wd(k l:Int)(v:V)(hl:v.length<=1000000):∃b,Jd ((k,l,()),v,())=some (b,())/\(1<=k->b=decide (gY k l v)):=by
 unfold Jd;generalize hf:(λ(Y:Bool×Int×Unit)=>_)=f;have afi:aO (u8 48)=48:=bO;have afj:aO (u8 57)=57:=bO;have a8:aO (u8 32)=32:=bO;have afg:aO (u8 126)=126:=bO;have key:=Nd (f:=f) (λi=>(false,(i:Int),())) v.length (λi=>(k<=2->48<=aO (ao v i (u8 0))/\aO (ao v i (u8 0))<=57)/\(3<=k->k<=5->32<=aO (ao v i (u8 0))/\aO (ao v i (u8 0))<=126)) (λi=>.rt (false,())) 0 (λ_=>trivial) ?_ ?_ ?_
 .rcases key with⟨h,ai⟩|⟨i,ac,_,hp,ai⟩
  .refine⟨j_ k l v.length,?_,λam => ?_⟩
   .refine(cW ai).trans ?_
    by_cases am:k=1\/k=3\/k=6
    .refine(dr (a:=(true,())) ?_).trans ?_
     .rcases am with rfl|rfl|rfl
      .rfl
      .rfl
      rfl
     refine(b4 rfl).trans ?_;refine mL ?_;rw[j3];simp only[aj,len,j_,if_pos am,decide_eq_true_eq,beq_iff_eq]
    refine(dr (a:=(false,())) ?_).trans ?_
    .exact(bT (cv (λh=>am (.inl h)))).trans ((bT (cv (λh=>am (.inr (.inl h))))).trans (mL (cv (λh=>am (.inr (.inr h))))))
    refine(bT rfl).trans ?_;by_cases O:1<=v.length
    .refine(dr (b4 (lH (by simp only[len];omega)))).trans ?_
     refine mL ?_;rw[j3];simp only[ j_,if_neg am,decide_eq_true_eq];exact(decide_eq_true_iff (p:=(v.length:Int)<=l)).trans ⟨λh=>⟨O,h⟩,λh=>h.2⟩
    refine(dr (bT (oo (by simp only[len];omega)))).trans ?_;refine mL ?_;rw[j3];simp only[j_,if_neg am,decide_eq_true_eq,FJ,false_iff];omega
   have ah:wq k v:=by
    refine⟨λR i ac => ?_,λaY i ac => ?_⟩
    .have:=(h i ac).1 R
     rw[nth_get ac,Iz]at this;unfold h7;omega
    by_cases R:k<=2
    .have:=(h i ac).1 R
     rw[nth_get ac]at this;omega
    have:=(h i ac).2 J aY;rw[nth_get ac]at this;omega
   simp[gY,ah]
  refine⟨false,(cW ai).trans rfl,λam=>(decide_eq_false λah=>hp ⟨λR => ?_,λaf aY => ?_⟩).symm⟩
  .have:=ah.1.1 R i ac
   unfold h7 at this;rw[nth_get ac,Iz];omega
  have:=ah.1.2 aY i ac;rw[nth_get ac];omega
 .intro i ac hp
  subst hf;refine(b4 (w4.trans (decide_eq_true ac))).trans ?_;have c:i64 (aE (i:Int) 1)=((i+1:Nat):Int):=lf (b:=1) J;have RT:aN (i:Int) (len v)=true:=iA ac;simp only[gx,c,afi,afj,a8,afg,RT];refine(dr (a:=(false,())) ?_).trans rfl;by_cases R:k<=2
  .have:=hp.1 R
   refine(b4 (lH R)).trans ?_;refine(bT (cR J)).trans ?_;refine(bT (cR J)).trans ?_;exact bT (oo (show ¬3<=k by omega))
  refine(bT (oo R)).trans ?_;refine(b4 (lH (show 3<=k by omega))).trans ?_;by_cases aY:k<=5
  .have:=hp.2 J aY
   refine(b4 (lH aY)).trans ?_;refine(bT (cR J)).trans ?_;exact mL (cR J)
  exact bT (oo aY)
 .intro i ac hp
  subst hf;refine(b4 (w4.trans (decide_eq_true ac))).trans ?_;have RT:aN (i:Int) (len v)=true:=iA ac;simp only[gx,afi,afj,a8,afg,RT];refine(dr (a:=(true,())) ?_).trans rfl;by_cases R:k<=2
  .refine(b4 (lH R)).trans ?_
   by_cases bh:aO (ao v i (u8 0))<48
   .exact b4 (di bh)
   refine(bT (cR bh)).trans ?_;refine(b4 (di ?_)).trans rfl;refine iQ λaa=>hp ⟨λ_=>J,λh=>J⟩
  by_cases aY:k<=5
  .refine(bT (oo R)).trans ?_
   refine(b4 (lH (show 3<=k by omega))).trans ?_;refine(b4 (lH aY)).trans ?_;by_cases bh:aO (ao v i (u8 0))<32
   .exact b4 (di bh)
   refine(bT (cR bh)).trans ?_;refine mL (di ?_);refine iQ λaa=>hp ⟨λ_=>J,λ_ _=>J⟩
  exact absurd ⟨λh=>absurd h R,λ_ h=>absurd h aY⟩ hp
 subst hf;exact bT (cR (by simp only[len];omega))
def ayq(no:Int)(v:V)(hl:v.length<=1000000):N4 (no,v,())=some (fX no v,()):=by
 unfold N4 fX;refine aS (agJ no) ?_;cases aK:e_ no with
 |none =>rw[apY rfl];obtain⟨b,aa,_⟩:=Wd 0 0 v hl;refine aS aa ?_;exact aS (bT rfl) rfl
 |some p =>obtain⟨k,l⟩:=p;rw[ab4 rfl];obtain⟨b,aa,h⟩:=Wd k l v hl;refine aS aa ?_;refine aS (b4 rfl) (mL (h ?_));have:=(sf aK).1;unfold kinds at this;omega
def gu(k:Int)(n:Nat):V:=if 0<cJ k then gA (eK (a_ 10 gi n (cJ k).toNat)) else[]
def body(k:Int)(v:V):V:=if k<=2 then gA (eK v) else v
def kG(k:Int)(v:V):V:=gu k v.length++body k v
def qY(no:Int)(v:V):V×Int×Unit:=match e_ no with|none=>([],12,())|some (k,l)=>if gY k l v then(kG k v,0,()) else([],1,())
def ak7(p:V):(gA p).length=p.length/2:=by simp[gA]
def r7(p:V):(gA (eK p)).length=(p.length+1)/2:=by rw[ak7,IZ];omega
def x5(k:Int)(v:V):(body k v).length=if k<=2 then(v.length+1)/2 else v.length:=by
 unfold body;split
 .exact r7 v
 rfl
def R0{v:V}(am:kinds k)(u4:k=2\/k=4->l<=99)(sk:l<=400)(aB:gY k l v)(aq:0<cJ k):(1<=cJ k/\cJ k<=18)/\(0<=(v.length:Int)/\(v.length:Int)<10^(cJ k).toNat)/\1<=v.length/\(v.length:Int)<=l:=by
 have:=aB.2;unfold j_ at this;rcases am with rfl|rfl|rfl|rfl|rfl|rfl|rfl
 .exact absurd aq bO
 .have R:(10:Int)^(cJ 2).toNat=100:=bO
  rw[if_neg bO]at this;rw[R];exact⟨bO,J,J⟩
 .exact absurd aq bO
 .have R:(10:Int)^(cJ 4).toNat=100:=bO
  rw[if_neg bO]at this;rw[R];exact⟨bO,J,J⟩
 .have R:(10:Int)^(cJ 5).toNat=1000:=bO
  rw[if_neg bO]at this;rw[R];exact⟨bO,J,J⟩
 .exact absurd aq bO
 have R:(10:Int)^(cJ 7).toNat=1000:=bO;rw[if_neg bO]at this;rw[R];exact⟨bO,J,J⟩
def aaB(am:kinds k):cJ k=0\/cJ k=2\/cJ k=3:=by
 unfold cJ;split
 .simp
 omega
def afC(am:kinds k):(T (aj k 1) (some (true,())) (some (aj k 2,())):Option (Bool×Unit))=some (decide (k<=2),()):=by rcases am with rfl|rfl|rfl|rfl|rfl|rfl|rfl<;>rfl
def apt(no:Int)(v:V)(hl:v.length<=1000000):GR (no,v,())=some (qY no v):=by
 unfold GR qY;refine aS (GQ no) ?_;cases aK:e_ no with
 |none=>rfl
 |some p=>
  obtain⟨k,l⟩:=p;obtain⟨am,O,sk,u4⟩:=sf aK;refine aS (L7 no v hl) ?_;have tH:fX no v=decide (gY k l v):=by unfold fX;rw[aK]
  rw[tH];by_cases aB:gY k l v
  rotate_left
  .rw[decide_eq_false aB]
   simp only[if_neg aB];rfl
  rw[decide_eq_true aB];simp only[if_pos aB];refine aS (abB am) ?_;have aa:=afC am;have yz:k<=2->uU (v,())=some (body k v,0,()):=λh=>by rw[Sb v hl,if_pos (aB.1.1 h)];unfold body;rw[if_pos h]
  have HS:=x5 k v;by_cases aq:0<cJ k
  .obtain⟨c1,c2,hN⟩:=R0 am u4 sk aB aq
   refine bm (di aq) ?_;have aJ:sa (len v,cJ k,())=some (a_ 10 gi v.length (cJ k).toNat,0,()):=by rw[GE _ _ (by simp only[len];omega),if_pos ⟨c1.1,c1.2,c2⟩];rfl
   refine aS aJ ?_;have tF:uU (a_ 10 gi v.length (cJ k).toNat,())=some (gu k v.length,0,()):=by rw[Sb _ (by rw[l?];omega),if_pos Al];unfold gu;rw[if_pos aq]
   refine aS tF ?_;refine aS aa ?_;have AB:(gu k v.length).length<=10:=by unfold gu;rw[if_pos aq,r7,l?];omega
   by_cases R:k<=2
   .refine bm (decide_eq_true R) ?_
    refine aS (yz R) ?_;rw[if_pos R]at HS;exact bd (mJ (by simp only[bI,aV];omega)) rfl
   refine a2 (decide_eq_false R) ?_;refine bd (mJ (by simp only[bI,aV];omega)) ?_;have:body k v=v:=by unfold body;rw[if_neg R]
   simp only[kG,this];rfl
  refine a2 (cR aq) ?_;refine aS aa ?_;have hh:gu k v.length=[]:=by unfold gu;rw[if_neg aq]
  by_cases R:k<=2
  .refine bm (decide_eq_true R) ?_
   refine aS (yz R) ?_;rw[if_pos R]at HS;refine bd (mJ (by simp only[aV];omega)) ?_;simp only[kG,hh,p4]
  refine a2 (decide_eq_false R) ?_;refine bd (mJ (by simp only[aV];omega)) ?_;have:body k v=v:=by unfold body;rw[if_neg R]
  simp only[kG,this,hh,p4]
def ayr(no:Int)(v:V)(hl:v.length<=1000000):Jc (no,v,())=some (qY no v):=by
 unfold Jc qY;refine aS (agJ no) ?_;cases aK:e_ no with
 |none=>rfl
 |some p=>
  obtain⟨k,l⟩:=p;obtain⟨am,O,sk,u4⟩:=sf aK;obtain⟨b,aa,aC⟩:=Wd k l v hl;refine aS aa ?_;rw[aC (by unfold kinds at am;omega)];by_cases aB:gY k l v
  rotate_left
  .rw[decide_eq_false aB]
   simp only[if_neg aB];rfl
  rw[decide_eq_true aB];simp only[if_pos aB];refine aS (agK am) ?_;have yz:k<=2->vL (v,())=some (body k v,0,()):=λh=>by rw[Wb v hl,if_pos (aB.1.1 h)];unfold body;rw[if_pos h]
  have HS:=x5 k v;by_cases aq:0<cJ k
  .obtain⟨c1,c2,hN⟩:=R0 am u4 sk aB aq
   refine bm (di aq) ?_;refine aS (agK am) ?_;have aJ:xj (len v,cJ k,())=some (a_ 10 gi v.length (cJ k).toNat,0,()):=by rw[Wc _ _ (by simp only[len];omega),if_pos ⟨c1.1,c1.2,c2⟩];rfl
   refine aS aJ ?_;have tF:vL (a_ 10 gi v.length (cJ k).toNat,())=some (gu k v.length,0,()):=by rw[Wb _ (by rw[l?];omega),if_pos Al];unfold gu;rw[if_pos aq]
   refine aS tF ?_;have AB:(gu k v.length).length<=10:=by unfold gu;rw[if_pos aq,r7,l?];omega
   by_cases R:k<=2
   .refine bm (decide_eq_true R) ?_
    refine aS (yz R) ?_;rw[if_pos R]at HS;refine bd (mJ (by simp only[bI,aV,aR,j4];omega)) ?_;exact bd (mJ (by simp only[bI,aV,aR,cg,dd,j4];omega)) rfl
   refine a2 (decide_eq_false R) ?_;refine bd (mJ (by simp only[bI,aV,aR,j4];omega)) ?_;refine bd (mJ (by simp only[bI,aV,aR,cg,dd,j4];omega)) ?_;have:body k v=v:=by unfold body;rw[if_neg R]
   simp only[kG,this];rfl
  refine a2 (cR aq) ?_;have hh:gu k v.length=[]:=by unfold gu;rw[if_neg aq]
  by_cases R:k<=2
  .refine bm (decide_eq_true R) ?_
   refine aS (yz R) ?_;rw[if_pos R]at HS;refine bd rfl ?_;refine bd (mJ (by simp only[bI,aV,aR,cg,dd,j4];omega)) ?_;simp only[kG,hh];rfl
  refine a2 (decide_eq_false R) ?_;refine bd rfl ?_;refine bd (mJ (by simp only[bI,aV,aR,cg,dd,j4];omega)) ?_;have:body k v=v:=by unfold body;rw[if_neg R]
  simp only[kG,this,hh];rfl
theorem ayo(a b:V):N3 (a,b,())=some (seq a b,()):=rfl
def aw7{u:V}{k:Nat}(hl:u.length=2*k)(fM:(N+1)/2=k)(h:N%2=1->ao u 0 (u8 0)=48):eK (u.drop (N%2))=u:=by
 by_cases aK:N%2=1
 .rw[aK]
  unfold eK;rw[if_pos (by grind)];cases u with
  |nil=>simp at hl;omega
  |cons x r=>have:=h aK;simp only[ao,List.getD_cons_zero]at this;rw[this];rfl
 have:N%2=0:=J;rw[this,nl];exact aw8 J
def abD{s:V}(h:g5 s):g5 (eK s):=by
 unfold eK;split
 .intro i ac
  cases i with
  |zero=>exact(by decide:h7 48)
  |succ i=>exact h i (by grind)
 exact h
def VP(s:V):(eK s).drop (s.length%2)=s:=by
 unfold eK;by_cases h:s.length%2=1
 .grind
 have:s.length%2=0:=J
 grind
def MA{s:V}(hf:g5 s):gm (gA (eK s))=eK s:=ar9 (abD hf) (by rw[IZ];omega)
def ak8{s t:V}(ab:g5 s)(ht:g5 t)(hl:s.length=t.length)(h:gA (eK s)=gA (eK t)):s=t:=by have:=congrArg gm h;rw[MA ab,MA ht]at this;rw[<- VP s,<- VP t,this,hl]
def BX{b:V}(dW:I<=b.length)(fM:N<=999):(b.length<I+(N+1)/2/\jm b I N=([],0,3,())) \/
  (I+(N+1)/2<=b.length/\jm b I N=([],0,2,())/\∀s,s.length=N->g5 s->ef b I ((N+1)/2)=gA (eK s)->False) \/
  (∃s,I+(N+1)/2<=b.length/\jm b I N=(s,((I+(N+1)/2:Nat):Int),0,())/\g5 s/\s.length=N/\ef b I ((N+1)/2)=gA (eK s)):=by
 unfold jm;simp only[e7];rw[if_neg J];by_cases O:(b.length:Int)-I<((N:Int)+1)/2
 .grind
 rw[if_neg O];have bW:I+(N+1)/2<=b.length:=J;have adV:=zt bW;have DT:(gm (ef b I ((N+1)/2))).length=2*((N+1)/2):=by rw[sp,adV]
 refine .inr ?_;by_cases R:(N:Int)%2=1/\¬ao (gm (ef b I ((N+1)/2))) 0 (u8 0)=48
 .rw[if_pos R]
  refine .inl ⟨bW,rfl,λs ab hf h=>R.2 ?_⟩;rw[h,MA hf];unfold eK;rw[if_pos J];rfl
 rw[if_neg R];have hp:eK ((gm (ef b I ((N+1)/2))).drop (N%2))=gm (ef b I ((N+1)/2)):=aw7 DT rfl λaK=>iQ λah=>R ⟨J,ah⟩;by_cases af:g5 ((gm (ef b I ((N+1)/2))).drop (N%2))
 .rw[if_pos af]
  refine .inr ⟨_,bW,?_,af,by rw[eU,DT];omega,?_⟩
  .simp
  have aa:=ak6 (u:=ef b I ((N+1)/2)) (by rw[<- hp];exact abD af);rw[hp,aa]
 rw[if_neg af];refine .inl ⟨bW,rfl,λs ab hf h=>af ?_⟩;rw[h,MA hf,<- ab,VP];exact hf
def ai3{b x q:V}(h:b.drop I=x++q):ef b I x.length=x:=by unfold ef;rw[h,List.take_left'];rfl
def LI{b x:V}(h:ef b I n=x):b.drop I=x++b.drop (I+n):=by rw[<- h];unfold ef;rw[<- p8,zQ]
def aa7{b x:V}(dW:I<=b.length)(h:b.drop I=x):b.length=I+x.length:=by have:=congrArg List.length h;rw[eU]at this;omega
def Xj{b s q:V}(dW:I<=b.length)(fM:s.length<=999)(hf:g5 s)(h:b.drop I=gA (eK s)++q):jm b I s.length=(s,((I+(s.length+1)/2:Nat):Int),0,()):=by
 have hl:=aa7 dW h;have ht:=ai3 h;rw[dd,r7]at hl;rw[r7]at ht;rcases BX dW fM with⟨O,_⟩|⟨_,_,R⟩|⟨t,_,af,au,aY,cp⟩
 .omega
 .exact(R s rfl hf ht).elim
 rw[af,ak8 au hf aY (by rw[<- cp,ht])]
def y?(k l:Int)(b:V)(a n:Int):V×Int×Int×Unit:=
 if k<=2 then(if(jm b a n).2.2.1=0 then((jm b a n).1,(jm b a n).2.1,0,()) else([],0,(jm b a n).2.2.1,()))
 else if(b.length:Int)-a<n then([],0,3,()) else if gY k l (ef b a.toNat n.toNat) then(ef b a.toNat n.toNat,a+n,0,()) else([],0,2,())
def za(k l:Int)(b:V)(a:Int):V×Int×Int×Unit:=
 if a<0\/(b.length:Int)<a then([],0,1,()) else if 0<cJ k then
  (if(jm b a (cJ k)).2.2.1=0 then(if(val (jm b a (cJ k)).1:Int)<1\/l<val (jm b a (cJ k)).1 then([],0,2,()) else y? k l b (jm b a (cJ k)).2.1 (val (jm b a (cJ k)).1))
  else([],0,(jm b a (cJ k)).2.2.1,()))
 else y? k l b a l
def jU(no:Int)(b:V)(a:Int):V×Int×Int×Unit:=match e_ no with|none=>([],0,12,())|some (k,l)=>za k l b a
def abA{b:V}(aK:e_ no=some (k,l))(hl:b.length<=1000000)(bh:A<=b.length)(ak:1<=N/\N<=400):
  (ob (T (aj k 1) (some (true,())) (some (aj k 2,()))) λ(a':Bool×Unit)=>T a'.1 (ob (ye (b,(A:Int),(N:Int),())) λ(t:V×Int×Int×Unit)=>T (bg (aj t.2.2.1 0)) (some (aR UInt8,0,t.2.2.1,())) (an (ci 1 (aV t.1)) (some (t.1,t.2.1,0,()))))
   (T (aH (i64 (bq (len b) (A:Int))) (N:Int)) (some (aR UInt8,0,3,())) (an (b8 (A:Int) (i64 (aE (A:Int) (N:Int))) (len b)) (an (ci 1 (bI (aV (aR UInt8)) (aV (sub b (A:Int) (i64 (aE (A:Int) (N:Int)))))))
    (ob (ws (no,cg (aR UInt8) (sub b (A:Int) (i64 (aE (A:Int) (N:Int)))),())) λ(a:Bool×Unit)=>T (bg a.1) (some (aR UInt8,0,2,())) (some (cg (aR UInt8) (sub b (A:Int) (i64 (aE (A:Int) (N:Int)))),i64 (aE (A:Int) (N:Int)),0,()))))))
   : Option (V×Int×Int×Unit))=some (y? k l b A N):=by
 obtain⟨am,O,sk,u4⟩:=sf aK;refine aS (afC am) ?_;unfold y?;by_cases R:k<=2
 .refine bm (decide_eq_true R) ?_
  rw[if_pos R];refine aS (Sd b A N hl) ?_;rcases BX bh (show N<=999 by omega) with⟨_,h⟩|⟨_,h,_⟩|⟨s,_,h,_,ab,_⟩
  .rw[h];rfl
  .rw[h];rfl
  rw[h];refine bd (mJ (by simp only[aV];omega)) ?_;rfl
 refine a2 (decide_eq_false R) ?_;rw[if_neg R];have c0:i64 (bq (len b) (A:Int))=(b.length:Int)-A:=by simp only[bq,len];exact iJ J J
 have hN:i64 (aE (A:Int) (N:Int))=((A+N:Nat):Int):=lf J;simp only[c0,hN,W0,e7];by_cases af:(b.length:Int)-A<N
 .rw[if_pos af];exact b4 (di af)
 rw[if_neg af];refine a2 (cR af) ?_;have bW:A+N<=b.length:=J;refine bd (vi J J (by simp only[len];omega)) ?_;have tM:=zt bW;refine bd (mJ (by simp only[bI,aV,aR,j4];omega)) ?_;have Tn:cg (aR UInt8) (ef b A N)=ef b A N:=rfl;simp only[Tn];refine aS (L7 no _ J) ?_;have tH:fX no (ef b A N)=decide (gY k l (ef b A N)):=by unfold fX;rw[aK]
 rw[tH];by_cases aB:gY k l (ef b A N)
 .rw[if_pos aB,decide_eq_true aB];exact bT rfl
 rw[if_neg aB,decide_eq_false aB];exact b4 rfl
def afA{s:V}(R:k<=2)(hf:g5 s)(ak:j_ k l s.length):gY k l s:=⟨⟨λ_=>hf,λ_=>Dg hf⟩,ak⟩
def ahP{b:V}(aK:e_ no=some (k,l))(hl:b.length<=1000000)(bh:A<=b.length)(ak:1<=N/\N<=400)(rh:j_ k l N):
  (ob (T (b3 k 2) (some (i64 (gd (i64 (aE (N:Int) 1)) 2),())) (some ((N:Int),()))) λ(aBS:Int×Unit)=>T (aH (i64 (bq (len b) (A:Int))) aBS.1) (some (aR UInt8,0,3,()))
   (an (b8 (A:Int) (i64 (aE (A:Int) aBS.1)) (len b)) (an (ci 1 (bI (aV (aR UInt8)) (aV (sub b (A:Int) (i64 (aE (A:Int) aBS.1))))))
    (T (b3 k 2) (ob (n1 (b,(A:Int),(N:Int),())) λ(t:V×Int×Int×Unit)=>T (bg (aj t.2.2.1 0)) (some (aR UInt8,0,2,())) (an (ci 1 (aV t.1)) (ob (Jd ((k,l,()),t.1,())) λ(a:Bool×Unit)=>T (bg a.1) (some (aR UInt8,0,2,())) (some (t.1,i64 (aE (A:Int) aBS.1),0,())))))
     (ob (Jd ((k,l,()),cg (aR UInt8) (sub b (A:Int) (i64 (aE (A:Int) aBS.1))),())) λ(a:Bool×Unit)=>T (bg a.1) (some (aR UInt8,0,2,())) (some (cg (aR UInt8) (sub b (A:Int) (i64 (aE (A:Int) aBS.1))),i64 (aE (A:Int) aBS.1),0,()))))))
   : Option (V×Int×Int×Unit))=some (y? k l b A N):=by
 obtain⟨am,O,sk,u4⟩:=sf aK;have su:1<=k:=by unfold kinds at am;omega
 unfold y?;have c0:i64 (bq (len b) (A:Int))=(b.length:Int)-A:=by simp only[bq,len];exact iJ J J
 by_cases R:k<=2
 .have c1:i64 (gd (i64 (aE (N:Int) 1)) 2)=(((N+1)/2:Nat):Int):=by rw[show i64 (aE (N:Int) 1)=((N+1:Nat):Int) from lf (b:=1) J];exact HY (b:=2) J
  refine aS (b4 (lH R)) ?_;have hN:i64 (aE (A:Int) (((N+1)/2:Nat):Int))=((A+(N+1)/2:Nat):Int):=lf J;rw[if_pos R];simp only[ c1,hN,W0];rcases BX bh (show N<=999 by omega) with⟨af,h⟩|⟨af,h,_⟩|⟨s,af,h,hf,ab,_⟩
  .refine bm (di J) ?_
   rw[h];rfl
  .refine a2 (cR J) ?_
   refine bd (vi J J (by simp only[len];omega)) ?_;have tM:=zt af;refine bd (mJ (by simp only[bI,aV,aR,j4];omega)) ?_;refine bm (lH R) ?_;refine aS (yH b A N hl) ?_;rw[h];rfl
  refine a2 (cR J) ?_;refine bd (vi J J (by simp only[len];omega)) ?_;have tM:=zt af;refine bd (mJ (by simp only[bI,aV,aR,j4];omega)) ?_;refine bm (lH R) ?_;refine aS (yH b A N hl) ?_;rw[h];refine bd (mJ (by simp only[aV];omega)) ?_;obtain⟨t,ht,aC⟩:=Wd k l s J;refine aS ht ?_;rw[aC su,decide_eq_true (afA R hf (by rw[ab];exact rh))];rfl
 refine aS (bT (oo R)) ?_;rw[if_neg R];have hN:i64 (aE (A:Int) (N:Int))=((A+N:Nat):Int):=lf J;simp only[c0,hN,W0,e7];by_cases af:(b.length:Int)-A<N
 .rw[if_pos af];exact b4 (di af)
 rw[if_neg af];refine a2 (cR af) ?_;have bW:A+N<=b.length:=J;refine bd (vi J J (by simp only[len];omega)) ?_;have tM:=zt bW;refine bd (mJ (by simp only[bI,aV,aR,j4];omega)) ?_;refine a2 (oo R) ?_;obtain⟨t,ht,aC⟩:=Wd k l (ef b A N) J;refine aS ht ?_;rw[aC su];by_cases aB:gY k l (ef b A N)
 .rw[if_pos aB,decide_eq_true aB];exact bT rfl
 rw[if_neg aB,decide_eq_false aB];exact b4 rfl
def aCQ{s:V}(hf:g5 s)(h:s.length<=3):val s<1000:=by have:=aBk hf;have R:10^s.length<=10^3:=zP J h;omega
def apK(aq:0<cJ k)(O:1<=n)(R:(n:Int)<=l):j_ k l n:=by
 unfold j_;rw[if_neg]
 .omega
 rintro(rfl|rfl|rfl)<;>exact absurd aq bO
def abU(am:kinds k)(aq:¬0<cJ k):j_ k l n↔(n:Int)=l:=by unfold j_;rcases am with rfl|rfl|rfl|rfl|rfl|rfl|rfl<;>first|exact absurd bO aq|simp
def aps(no:Int)(b:V)(a:Int)(hl:b.length<=1000000):L8 (no,b,a,())=some (jU no b a):=by
 unfold L8 jU;refine aS (GQ no) ?_;cases aK:e_ no with
 |none=>rfl
 |some p=>
  obtain⟨k,l⟩:=p;obtain⟨am,O,sk,u4⟩:=sf aK;show _=some (za k l b a);unfold za;by_cases R:a<0
  .refine aS (b4 (di R)) ?_
   simp only[if_pos (Or.inl R:a<0\/(b.length:Int)<a)];rfl
  by_cases af:(b.length:Int)<a
  .refine aS (a:=(true,())) (a2 (cR R) (mL (di af))) ?_
   simp only[if_pos (Or.inr af:a<0\/(b.length:Int)<a)];rfl
  refine aS (a:=(false,())) (a2 (cR R) (mL (cR af))) ?_;rw[if_neg J];obtain⟨A,rfl⟩:∃n:Nat,a=n:=⟨a.toNat,J⟩;refine aS (abB am) ?_;by_cases aq:0<cJ k
  .rw[if_pos aq]
   refine bm (di aq) ?_;refine aS (Sd b A (cJ k) hl) ?_;have arO:=aaB am;obtain⟨C,cC⟩:∃n:Nat,cJ k=n:=⟨(cJ k).toNat,J⟩;rw[cC];rcases BX (b:=b) (I:=A) (N:=C) J J with⟨_,h⟩|⟨_,h,_⟩|⟨s,au,h,hf,ab,_⟩
   .rw[h];rfl
   .rw[h];rfl
   rw[h];refine aS (Se s) ?_;rw[if_pos ⟨J,J,hf⟩];by_cases wL:(val s:Int)<1
   .refine aS (b4 (di wL)) ?_
    simp only[if_pos (Or.inl wL:(val s:Int)<1\/l<val s)];rfl
   by_cases HE:l<(val s:Int)
   .refine aS (a:=(true,())) (a2 (cR wL) (mL (di HE))) ?_
    simp only[if_pos (Or.inr HE:(val s:Int)<1\/l<val s)];rfl
   refine aS (a:=(false,())) (a2 (cR wL) (mL (cR HE))) ?_;rw[if_neg (show ¬((val s:Int)<1\/l<val s) by omega)];exact abA aK hl au ⟨J,J⟩
  rw[if_neg aq];refine a2 (cR aq) ?_;obtain⟨L,rfl⟩:∃n:Nat,l=n:=⟨l.toNat,J⟩;exact abA (b:=b) (A:=A) (N:=L) aK hl J ⟨J,J⟩
def av3(no:Int)(b:V)(a:Int)(hl:b.length<=1000000):Mv (no,b,a,())=some (jU no b a):=by
 unfold Mv jU;refine aS (agJ no) ?_;cases aK:e_ no with
 |none=>rfl
 |some p=>
  obtain⟨k,l⟩:=p;obtain⟨am,O,sk,u4⟩:=sf aK;show _=some (za k l b a);unfold za;by_cases R:a<0
  .refine aS (b4 (di R)) ?_
   simp only[if_pos (Or.inl R:a<0\/(b.length:Int)<a)];rfl
  by_cases af:(b.length:Int)<a
  .refine aS (a:=(true,())) (a2 (cR R) (mL (di af))) ?_
   simp only[if_pos (Or.inr af:a<0\/(b.length:Int)<a)];rfl
  refine aS (a:=(false,())) (a2 (cR R) (mL (cR af))) ?_;rw[if_neg J];obtain⟨A,rfl⟩:∃n:Nat,a=n:=⟨a.toNat,J⟩;refine aS (agK am) ?_;by_cases aq:0<cJ k
  .rw[if_pos aq]
   refine bm (di aq) ?_;refine aS (agK am) ?_;refine aS (yH b A (cJ k) hl) ?_;have arO:=aaB am;obtain⟨C,cC⟩:∃n:Nat,cJ k=n:=⟨(cJ k).toNat,J⟩;rw[cC];rcases BX (b:=b) (I:=A) (N:=C) J J with⟨_,h⟩|⟨_,h,_⟩|⟨s,au,h,hf,ab,_⟩
   .rw[h];rfl
   .rw[h];rfl
   rw[h];refine aS (afB s J) ?_;rw[if_pos ⟨J,J,hf⟩];by_cases wL:(val s:Int)<1
   .refine aS (b4 (di wL)) ?_
    simp only[if_pos (Or.inl wL:(val s:Int)<1\/l<val s)];rfl
   by_cases HE:l<(val s:Int)
   .refine aS (a:=(true,())) (a2 (cR wL) (mL (di HE))) ?_
    simp only[if_pos (Or.inr HE:(val s:Int)<1\/l<val s)];rfl
   refine aS (a:=(false,())) (a2 (cR wL) (mL (cR HE))) ?_;rw[if_neg (show ¬((val s:Int)<1\/l<val s) by omega)];exact ahP aK hl au ⟨J,J⟩ (apK aq J J)
  rw[if_neg aq];refine a2 (cR aq) ?_;obtain⟨L,rfl⟩:∃n:Nat,l=n:=⟨l.toNat,J⟩;exact ahP (b:=b) (A:=A) (N:=L) aK hl J ⟨J,J⟩ ((abU am aq).2 rfl)
end Yp
namespace Yp
open Go
def xX:=@List.cons.inj
def D(p:Prop):Bool := @decide p (Classical.propDecidable p)
def pk{p:Prop}:D p=true↔p:=by unfold D;exact @decide_eq_true_iff p (Classical.propDecidable p)
def cF{p:Prop}(h:p):D p=true:=pk.2 h
def cH{p:Prop}(h:¬p):D p=false:=by
 cases e:D p
 .rfl
 exact absurd (pk.1 e) h
def pj{b:Bool}{p:Prop}(h:b=true↔p):b=D p:=j3.2 (h.trans pk.symm)
@[congr] theorem cw {α β:Type} {o dz:Option α} {k:α->Option β} (h:o=dz):ob o k=ob dz k:=by rw[h]
@[congr] theorem aCK {α:Type} {c cO:Bool} {a b:α} (h:c=cO):T c a b=T cO a b:=by rw[h]
@[congr] theorem aBX {α:Type} {c cO:Bool} {a:Option α} (h:c=cO):an c a=an cO a:=by rw[h]
@[congr] theorem aCx {σ ρ β:Type} {o dz:Option (aF σ ρ)} {kn:σ->Option β} {hB:Nat->σ->Option β} {hR:ρ->Option β} (h:o=dz):cb o kn hB hR=cb dz kn hB hR:=by rw[h]
theorem g01{a:α}{k:α->Option β}:ob (some a) k=k a:=rfl
def g02{p:Prop}{a b:α}(h:p):T (D p) a b=a:=b4 (cF h)
def g03{p:Prop}{a b:α}(h:¬p):T (D p) a b=b:=bT (cH h)
def g04{p:Prop}{a:Option α}(h:p):an (D p) a=a:=eV (cF h)
theorem g05{a b:α}:T true a b=a:=rfl
theorem g06{a b:α}:T false a b=b:=rfl
theorem g07{a:Option α}:an true a=a:=rfl
def g08{b:Int}:aH a b=D (a<b):=pj decide_eq_true_iff
def g09{b:Int}:b3 a b=D (a<=b):=pj decide_eq_true_iff
def g10{b:Int}:aj a b=D (a=b):=by unfold aj;exact pj beq_iff_eq
def g11{a b:V}:seq a b=D (a=b):=by unfold seq;exact pj beq_iff_eq
def g12{p:Prop}:bg (D p)=D (¬p):=by
 by_cases h:p
 .rw[cF h,cH (not_not_intro h)];rfl
 rw[cH h,cF h];rfl
def g13{p q:Prop}:c3 (D p) (D q)=D (p/\q):=pj (by simp[c3,pk])
def g14{p q:Prop}:mW (D p) (D q)=D (p\/q):=pj (by simp[mW,pk])
def g15{q:Bool}:T c (some (true,())) (some (q,()))=some (mW c q,()):=by cases c<;>rfl
def g16{q:Bool}:T c (some (q,())) (some (false,()))=some (c3 c q,()):=by cases c<;>rfl
def g17{d:Bool}{x:Option (Bool×Unit)}:T c (T d x (some (false,()))) (some (false,()))=T (c3 c d) x (some (false,())):=by cases c<;>rfl
def g18{d:Bool}{x:Option (Bool×Unit)}:T c (some (true,())) (T d (some (true,())) x)=T (mW c d) (some (true,())) x:=by cases c<;>rfl
def g19{b c:Int}:b8 a b c=D (0<=a/\a<=b/\b<=c):=pj (by simp[b8,and_assoc])
def g20{b:Int}:aN a b=D (0<=a/\a<b):=pj (by simp[aN])
def g21{c:Nat}:ci c n=D (n*c<=140737488355328):=pj decide_eq_true_iff
theorem g22{l:List α}:len l=(l.length:Int):=rfl
theorem g23{l:List α}:aV l=l.length:=rfl
theorem g24{a:Nat}:bI a b=a+b:=rfl
theorem g25{a b:List α}:cg a b=a++b:=rfl
theorem g26:aR α=[]:=rfl
def g27{n:Int}(h : -9223372036854775808<=n/\n<=9223372036854775807):i64 n=n:=iJ h.1 h.2
theorem g28{b:Int}:aE a b=a+b:=rfl
theorem g29{b:Int}:bq a b=a-b:=rfl
theorem g30{b:Int}:fv a b=a*b:=rfl
def g31{b:Int}(h:0<=a):gd a b=a/b:=by simp only[gd];exact Int.tdiv_eq_ediv_of_nonneg h
def g32{b:Int}(h:0<=a):fR a b=a%b:=by simp only[fR];exact Int.tmod_eq_emod_of_nonneg h
theorem g33:ae a=a.toNat:=rfl
theorem g34{a:Nat}:bi a=(a:Int):=rfl
theorem g35{a:Nat}:cc a b=a-b:=rfl
theorem g36:c3 true c=c:=rfl
def g37:c3 c true=c:=by cases c<;>rfl
theorem g38:mW false c=c:=rfl
def g39:mW c false=c:=by cases c<;>rfl
def g40:bg (bg c)=c:=by cases c<;>rfl
theorem g41:bg true=false:=rfl
theorem g42:bg false=true:=rfl
def g43{a b:Bool}:z_ a b=D (a=b):=pj (by unfold z_;exact beq_iff_eq)
theorem g44:c3 false c=false:=rfl
def g45:c3 c false=false:=by cases c<;>rfl
theorem g46:mW true c=true:=rfl
def g47:mW c true=true:=by cases c<;>rfl
theorem g48{k:α->Option β}:ob none k=none:=rfl
def g49{p q:Prop}:(D p=D q)=(p↔q):=by refine propext ⟨λh=>pk.symm.trans ((j3.1 h).trans pk),λh=>j3.2 (pk.trans (h.trans pk.symm))⟩
def g50{a:α}:T c a a=a:=by cases c<;>rfl
def g51{p:Prop}[Decidable p]:decide p=D p:=pj decide_eq_true_iff
def g52:D True=true:=cF trivial
def g53:D False=false:=cH not_false
def g54{p:Prop}:(D p=true)=p:=propext pk
def g55{p:Prop}:(D p=false)=¬p:=by refine propext ⟨λh hp => ?_,cH⟩;rw[cF hp]at h;cases h
def g56{p:Prop}:(true=D p)=p:=propext ⟨λh=>pk.1 h.symm,λh=>(pk.2 h).symm⟩
def g57{b:Int}:f6 a b=min a b:=by unfold f6;split<;>omega
def g58{b:Int}:c6 a b=max a b:=by unfold c6;split<;>omega
theorem Md{a:UInt8}:aO a=(a.toNat:Int):=rfl
theorem g60{a:UInt16}:Iy a=(a.toNat:Int):=rfl
def g61(h:0<=a/\a<256):aO (u8 a)=a:=by obtain⟨n,rfl⟩:∃n:Nat,a=n:=⟨a.toNat,J⟩;exact av0 J
theorem lc_nx{y:σ}{kn:σ->Option β}{hB:Nat->σ->Option β}{hR:ρ->Option β}:cb (some (.nx y)) kn hB hR=kn y:=rfl
def E?{p:Prop}(h:p):some (D p,())=some (true,()):=by rw[cF h]
def WQ{p:Prop}(h:¬p):some (D p,())=some (false,()):=by rw[cH h]
def pR{p q:Prop}(h:p↔q):some (D p,())=some (D q,()):=by rw[show p=q from propext h]
theorem lc_rt'{r:ρ}{kn:σ->Option β}{hB:Nat->σ->Option β}{hR:ρ->Option β}:cb (some (.rt r)) kn hB hR=hR r:=rfl
theorem lc_ex'{y:σ}{k:Nat}{kn:σ->Option β}{hB:Nat->σ->Option β}{hR:ρ->Option β}:cb (some (.ex k y)) kn hB hR=hB k y:=rfl
def g62{k:Nat}:bX k k=true:=by simp[bX]
def g63:ae (n:Int)=n:=gx
theorem g64:((1:Nat):Int)=1:=rfl
theorem g65:((0:Nat):Int)=0:=rfl
def g66{p:Prop}:(false=D p)=¬p:=propext ⟨λh=>g55.mp h.symm,λh=>(cH h).symm⟩
def kx{β σ ρ:Type}(mk:β->Nat->σ)(i:Nat):aF β ρ->aF σ ρ
 |.nx b=>.nx (mk b (i+1))|.ex k b=>.ex k (mk b i)|.rt r=>.rt r
def jN{α β σ ρ:Type}(mk:β->Nat->σ)(e:Nat)(step:β->α->aF β ρ):β->Nat->List α->aF σ ρ
 |b,i,[]=>.ex e (mk b i)
 |b,i,x::r=>match step b x with
  |.nx b'=>jN mk e step b' (i+1) r
  |.ex k b'=>.ex k (mk b' i)
  |.rt q=>.rt q
def sB{f:σ->Option (aF σ ρ)}(l:List α)(mk:β->Nat->σ)(e:Nat)(step:β->α->aF β ρ)(I:β->Nat->Prop)
  (ab:∀b i (h:i<l.length),I b i->f (mk b i)=some (kx mk i (step b l[i]))/\∀b',step b l[i]=.nx b'->I b' (i+1))
  (aC:∀b,I b l.length->f (mk b l.length)=some (.ex e (mk b l.length))) (eD:β) (aq:I eD 0):bK f (mk eD 0)=some (jN mk e step eD 0 l):=by
 have key:∀(r:List α) (i:Nat) (b:β),l.drop i=r->i<=l.length->I b i->bK f (mk b i)=some (jN mk e step b i r):=by
  intro r;induction r with
  |nil =>intro i b ai ac dW;have hl:=congrArg List.length ai;rw[eU,j4]at hl;have:i=l.length:=J;subst this;exact ec (aC b dW)
  |cons x r ih=>
   intro i b ai ac dW;have hl:=congrArg List.length ai;rw[eU,gL]at hl;have bn:i<l.length:=J;have hx:l[i]=x/\l.drop (i+1)=r:=by rw[h3 bn]at ai;exact⟨(xX ai).1,(xX ai).2⟩
   obtain⟨O,R⟩:=ab b i bn dW;rw[hx.1]at O R;unfold jN;cases e4:step b x with
   |nx b'=>rw[e4]at O;rw[ev O];exact ih (i+1) b' hx.2 bn (R b' e4)
   |ex k b'=>rw[e4]at O;exact ec O
   |rt q=>rw[e4]at O;exact o2 O
 exact key l 0 eD rfl (nV _) aq
attribute [go_sem ↓] g02 g03 g04 g05 g06
attribute [go_sem] g01 g02 g03 g04 g05 g06 g07 g08 g09 g10 g11 g12 g13 g14 g15 g16 g17 g18 g19 g20 g21 g22 g23 g24 g25 g26 g27 g28 g29 g30 g31 g32 g34 g35 g36 g37 g38 g39 g40 g41 g42 g43 g44 g45 g46 g47 g48 g49 g50 g51 g52 g53 g54 g55 g56 g57 g58 g60 g61 not_true_eq_false not_false_eq_true List.nil_append List.append_nil List.length_nil and_true true_and or_true true_or or_false false_or and_false false_and if_true if_false lc_rt' lc_ex' lc_nx g62 g63 Int.toNat_natCast Int.natCast_add nth_get g33 g64 g65 Int.toNat_zero Bool.false_eq_true g66
end Yp
namespace Yp
open Go
def C_{b x q:V}(dx:A<=b.length)(h:b.drop A=x++q):A+x.length<=b.length/\b.drop (A+x.length)=q:=by have:=aa7 dx h;rw[dd]at this;refine⟨J,?_⟩;rw[<- p8,h,Qq]
def agB{b v q:V}(dx:A<=b.length)(aB:gY k l v)(sk:v.length<=400)(h:b.drop A=body k v++q):y? k l b A v.length=(v,((A+(body k v).length:Nat):Int),0,()):=by
 have hl:=(C_ dx h).1;unfold y?;by_cases R:k<=2
 .have aa:body k v=gA (eK v):=by unfold body;rw[if_pos R]
  rw[aa]at h ⊢;rw[if_pos R,Xj dx J (aB.1.1 R) h,r7];rfl
 have aa:body k v=v:=by unfold body;rw[if_neg R]
 have ht:=ai3 h
 grind
def agC{b v:V}{I:Int}(dx:A<=b.length)(fM:N<=400)(h:y? k l b A N=(v,I,0,())):
  v.length=N/\(k<=2->g5 v)/\(¬k<=2->gY k l v)/\I=((A+(body k v).length:Nat):Int)/\A+(body k v).length<=b.length/\ef b A (body k v).length=body k v:=by
 unfold y? at h;by_cases R:k<=2
 .rw[if_pos R]at h
  rcases BX dx (show N<=999 by omega) with⟨_,e⟩|⟨_,e,_⟩|⟨s,af,e,hf,ab,ht⟩
  .grind
  .grind
  rw[e]at h;have aa:body k s=gA (eK s):=by unfold body;rw[if_pos R]
  have dK:(gA (eK s)).length=(N+1)/2:=by rw[r7,ab]
  grind
 rw[if_neg R]at h;by_cases af:(b.length:Int)-A<N
 .grind
 simp at h;by_cases au:gY k l (ef b A N)
 .rw[if_pos au]at h
  have hl:=zt (show A+N<=b.length by omega);have aa:body k (ef b A N)=ef b A N:=by unfold body;rw[if_neg R]
  grind
 grind
def ade(aq:0<cJ k):gu k n=gA (eK (a_ 10 gi n (cJ k).toNat)):=by unfold gu;rw[if_pos aq]
def adc(aq:¬0<cJ k):gu k n=[]:=by unfold gu;rw[if_neg aq]
def arW:(gu k n).length=if 0<cJ k then((cJ k).toNat+1)/2 else 0:=by
 unfold gu;split
 .rw[r7,l?]
 rfl
def XW{v:V}(am:kinds k):(kG k v).length=(if k=2\/k=4 then 1 else if k=5\/k=7 then 2 else 0)+(if k<=2 then(v.length+1)/2 else v.length):=by unfold kG;rw[dd,x5,arW];rcases am with rfl|rfl|rfl|rfl|rfl|rfl|rfl<;>rfl
def SP{v:V}(aK:e_ no=some (k,l))(aB:gY k l v):1<=v.length/\(v.length:Int)<=l/\v.length<=400:=by
 obtain⟨am,O,sk,_⟩:=sf aK;have:=aB.2;unfold j_ at this
 grind
def ax7{b v q:V}(aK:e_ no=some (k,l))(dx:A<=b.length)(aB:gY k l v)(h:b.drop A=kG k v++q):za k l b A=(v,((A+(kG k v).length:Nat):Int),0,()):=by
 obtain⟨am,O,sk,u4⟩:=sf aK;obtain⟨yF,DQ,adY⟩:=SP aK aB;unfold za;unfold kG at h ⊢;by_cases aq:0<cJ k
 .rw[if_pos aq]
  obtain⟨c1,c2,hN⟩:=R0 am u4 sk aB aq;rw[ade aq]at h ⊢;rw[hb]at h;have hp:=Xj (s:=a_ 10 gi v.length (cJ k).toNat) dx (by rw[l?];omega) Al h;rw[l?,Int.toNat_of_nonneg J]at hp;rw[hp];have l7:val (a_ 10 gi v.length (cJ k).toNat)=v.length:=by
   rw[XH,s?]
   grind
  simp only[if_pos];rw[l7,if_neg J];have aJ:=C_ dx h;rw[r7,l?]at aJ;rw[agB aJ.1 aB adY aJ.2,dd,r7,l?]
  grind
 rw[if_neg aq];have hl:=(abU am aq).1 aB.2;rw[adc aq]at h ⊢;have:=agB dx aB adY h
 grind
def ax8{b v:V}{I:Int}(aK:e_ no=some (k,l))(dx:A<=b.length)(h:za k l b A=(v,I,0,())):
  gY k l v/\I=((A+(kG k v).length:Nat):Int)/\A+(kG k v).length<=b.length/\b.drop A=kG k v++b.drop (A+(kG k v).length):=by
 obtain⟨am,O,sk,u4⟩:=sf aK;unfold za at h;rw[if_neg J]at h;by_cases aq:0<cJ k
 .rw[if_pos aq]at h
  have arO:=aaB am;obtain⟨C,cC⟩:∃n:Nat,cJ k=n:=⟨(cJ k).toNat,J⟩;rw[cC]at h;rcases BX dx (show C<=999 by omega) with⟨_,e⟩|⟨_,e,_⟩|⟨s,af,e,hf,ab,ht⟩
  .grind
  .grind
  rw[e]at h;simp at h;by_cases hm:(val s:Int)<1\/l<val s
  .grind
  rw[if_neg hm]at h;obtain⟨e1,aU,d8,hc,pC,LL⟩:=agC af J h;have pG:gY k l v:=by
   by_cases R:k<=2
   .exact afA R (aU R) (apK aq J J)
   grind
  have hh:gu k v.length=gA (eK s):=by rw[ade aq,e1,cC,e7,<- ab,agm hf]
  have AB:(gu k v.length).length=(C+1)/2:=by rw[hh,r7,ab]
  refine⟨pG,?_,?_,?_⟩
  .rw[hc];unfold kG;rw[dd,AB];omega
  .unfold kG;rw[dd,AB];omega
  unfold kG;rw[dd,AB,<- j2,hb,<- LI LL,hh];exact LI ht
 rw[if_neg aq]at h;obtain⟨L,hL⟩:∃n:Nat,l=n:=⟨l.toNat,J⟩;rw[hL]at h;obtain⟨e1,aU,d8,hc,pC,LL⟩:=agC dx J h;rw[<- hL]at d8;have pG:gY k l v:=by
  by_cases R:k<=2
  .exact afA R (aU R) ((abU am aq).2 J)
  exact d8 R
 refine⟨pG,?_,?_,?_⟩<;>unfold kG<;>rw[adc aq]
 .exact hc
 .exact pC
 exact LI LL
def aBA{v:V}(am:kinds k)(h:v.length<=400):(kG k v).length<=402:=by
 rw[XW am];repeat' split
 all_goals omega
def aBB{v:V}(am:kinds k)(h:1<=v.length):1<=(kG k v).length:=by
 rw[XW am];repeat' split
 all_goals omega
end Yp