/- A part of the proof of the statements of this seat: plain functions, and laws on them. No condition of its own. -/
import Derived.Test.YtohehkjofhaneaaGreatDoorE2
import Derived.Lib.LaidTab
import Derived.MakeChecks
import Derived.KernelRfl
import Derived.Test.YtohehkjofhaneaaGreatDoorProg
import Derived.WalkKit
import Derived.RangeFuncBox
import Derived.RangeFuncLeaves
import Derived.Shelf.Abstract
import Derived.OwnWalkIn
import Derived.TacticsInMore
import Derived.LoopNIn
import Derived.LoopIn
import Derived.Maps.AppendAt
set_option linter.unusedVariables false
set_option linter.unusedSimpArgs false
set_option linter.defProp false
noncomputable section
open Go Yp
variable {U c:Bool}{a b k l no:Int}{A I W bd f i m n size:Nat}{α β ρ σ:Type}
namespace Yp
def kK{p:Prop}(h:p:=by decide +kernel):p:=h
def cp{p:Prop}(h:p:=by simp only[go_sem];omega):p:=h
def jN{p:Prop}(h:p:=by simp(disch:=first|assumption|omega|(dsimp only;omega)|decide) only[go_sem,Int.reduceToNat];omega):p:=h
end Yp
namespace Yp
abbrev aa:=List UInt8
abbrev aQ:=Bool×Unit
abbrev cw:=aa×Int×Unit
abbrev da:=Bool×Int×Unit
abbrev m0:=(Int×List (Int×aa×Unit)×Unit)×Int×Unit
abbrev c8:=Int×Unit
abbrev f6:=Int×Int×Unit
abbrev dk:=aa×Unit
abbrev ha:=Int×aa×Unit
abbrev yT:=(Bool×Int×Int×Int×Int×aa×aa×Int×Unit)×Unit
abbrev tz:=(Int×List (Int×aa×Unit)×Unit)×Unit
abbrev sd:=(List UInt32×Int×aa×Unit)×Unit
abbrev re:=List (Int×aa×Unit)×Unit
abbrev kX:=Int×Bool×Unit
abbrev tA:=(Int×Int×Unit)×Bool×Unit
abbrev w2:=List (Int×Int×aa×Unit)×Unit
abbrev EK:=List (Int×List Int×Int×aa×Unit)×Unit
abbrev Bu:=(Int×List UInt64×Unit)×Int×Unit
abbrev Jf:=Int×Int×List (Int×Int×aa×Unit)×Unit
abbrev EL:=Int×(Int×List UInt64×Unit)×Unit
abbrev tC:=aa×Int×Int×Unit
abbrev EM:=List (Int×aa×Unit)×Int×Unit
abbrev Wy:=(Bool×Int×Int×Int×Int×aa×aa×Int×Unit)×Int×Unit
abbrev w3:=Int×List UInt32×Unit
abbrev qk:=aa×Bool×Unit
abbrev ql:=List Int×Unit
abbrev Jh:=(Int×List UInt64×Unit)×Unit
abbrev EA:=aa×Int×Int×Nat×Unit
abbrev Bm:=Bool×Int×Int×Unit
abbrev Bn:=Int×aa×Int×Unit
abbrev V?:= List aa×aa×(aa×Int×Int×Unit)×Unit
abbrev Wa:=(List (Int×aa×Unit)×Nat×Unit)×Unit
abbrev Wb:=aa×(List UInt32×Int×aa×Unit)×Unit
abbrev ahr:=Int×Int×Int×(Int×List (Int×aa×Unit)×Unit)×Unit
abbrev EB:=Int×Int×Int×Unit
abbrev Wc:=(aa×Int×Int×Unit)×List aa×Unit
abbrev tx:=UInt32×Unit
abbrev Bo:=Int×UInt8×Unit
abbrev I8:=List UInt32×Int×Unit
abbrev I9:=Int×Int×aa×Unit
abbrev ahs:=(Int×aa×Unit)×(Int×aa×Unit)×Unit
abbrev Wd:=Int×Int×Int×Nat×Unit
abbrev We:=List (aa×aa×Unit)×Unit
abbrev Wf:=Int×Int×Nat×aa×Unit
abbrev Om:=List Int×Int×Unit
abbrev Wg:=List Int×aa×Int×Unit
abbrev aht:=(aa×aa×Unit)×Int×Int×Unit
abbrev Wh:=(Int×aa×Unit)×Unit
abbrev Wi:=Int×Bool×Int×Unit
abbrev Wj:=aa×List UInt32×Unit
abbrev Wk:=(aa×aa×Unit)×Unit
abbrev Wl:=Int×Int×Bool×Unit
abbrev I_:=aa×aa×Unit
abbrev I7:=List aa×Unit
abbrev V8:=UInt8×Bool×Unit
abbrev V9:=Int×UInt64×Unit
abbrev V_:=UInt8×Int×Unit
abbrev V':=List UInt32×Unit
end Yp
namespace Yp
open Go
set_option maxRecDepth 100000
def PS{a b:Bool}(O:a=true)(R:b=true):(a&&b)=true:=by rw[O,R];rfl
def ac3 : List (String × DataW Unit) := [("yett/sha.keys", Lib.tabData .u32 ((p8 : List UInt32).map a3))]
def TP:(p8:List UInt32).length=64:=by kernel_rfl
def TQ {P : Program} {W : World} {g t e : Nat} (hg : P.globalNamed "yett/sha.keys" = some g) (Tq : (P.globals[g]?).map (·.type) = some t) (ht : P.underlying t = some (.array 64 e)) (az : P.underlying e = some (.int .u32)) (abR : P.cellsOf e = 1) (ap5 : P.cellsOf t = 64)
  {laid:List (String×DataW Unit)} (hl:laid=ac3) (h:laidMetH P laid W):ly P (full W):=by
 subst hl;have bB:laidMet P ac3 W:=by exact h
 have hT : Lib.TabIs P W "yett/sha.keys" .u32 ((p8 : List UInt32).map a3) := Lib.tabIs_of_head (rest := []) hg Tq ht az abR ap5 bB
 intro g' SU;obtain rfl:g=g':=om (hg.symm.trans SU);unfold Lib.TabIs World.var? at hT;rw[hg]at hT;simp at hT;split at hT
 .rename_i cs el fz hcell
  have mi:cs=(((p8:List UInt32).map a3).map λz=>Value.int .u32 z).toArray:=om hT;have b9:cs.size=64:=by rw[mi];simp[TP]
  refine aJ.iL.2 ⟨some ⟨g,0,none⟩,1,rfl,bX _,bN,.inr ⟨g,0,cs,el,fz,rfl,hcell,by show 0+1*64<=cs.size;omega,?_⟩⟩;intro i x ac;have:i=0/\x=(p8:List (bH .u32)):=by
   grind
  obtain⟨rfl,rfl⟩:=this;have ae:cJ cs (0+0*(ag.ar 64 (.int .u32)).size) (ag.ar 64 (.int .u32)).size=((p8:List UInt32).map a3).map λz=>Value.int .u32 z:=by rw[mi];rfl
  rw[ae];refine aJ.vH.2 ⟨TP,by simp[TP,ag.size],?_⟩;intro j y ao;have lu:(p8:List UInt32)[j]?=some y:=ao;show(List.drop (j*1) _).take 1=_;obtain⟨bi,rfl⟩:=nF.1 lu;rw[l_ (by grind)];simp[bH.to]
 cases hT
end Yp
namespace Yp
open Go
def uc(x:f6):Option (cw):=letI b:=x.2.1;letI c:=some (true,());ob (T (aF b 1) c (T (aF 18 b) c (some (aF x.1 0,())))) λ(a:aQ)=>T a.1 (some (aP UInt8,1,())) (ak (cV (b5 0 b b) (cj 1 (ab b))) (b_ (bC (λ(x:I9)=>letI d:=x.2.1;T (b? 0 d) (ak (aK (ej x.1 10) (len [48,49,50,51,52,53,54,55,56,57,97,98,99,100,101,102])) (ak (aK d (len x.2.2.1)) (some (aE.nx (i64 (ga x.1 10),i64 (bg d 1),cg x.2.2.1 (ab d) (an [48,49,50,51,52,53,54,55,56,57,97,98,99,100,101,102] (ab (ej x.1 10)) (u8 0)),()))))) (some (aE.ex 0 (x.1,d,x.2.2.1,())))) (x.1,i64 (bg b 1),bM (ab b) (u8 0),())) (λ(a:I9)=>none) (λ(i:Nat) (a:I9)=>ak (bP i 0) (T (aF 0 a.1) (some (aP UInt8,1,())) (some (a.2.2.1,0,())))) λ(r:cw)=>some r))
def sH(x:c8):Option (kX):=letI b:=Hb (bg x.1 48);ob (T (b? 48 x.1) (some (i64 b,b? x.1 57,())) (some (i64 b,false,()))) λ(a:kX)=>some (a.1,a.2.1,())
def ud(x:dk):Option (f6):=ob (T (aF (len x.1) 1) (some (true,())) (some (aF 18 (len x.1),()))) λ(a:aQ)=>T a.1 (some (0,2,())) (b_ (bC (λ(V:Wd)=>letI b:=V.2.2.2.1;T (kv b (aV x.1)) (ob (sH (bb (ig x.1 b).1,())) λ(a:kX)=>T (aZ a.2.1) (some (aE.rt (0,2,()))) (some (aE.nx (V.1,V.2.1,i64 (aC (i64 (fr 10 V.2.2.1)) a.1),bF b (ig x.1 b).2,())))) (some (aE.ex 0 (V.1,V.2.1,V.2.2.1,b,())))) (0,0,0,0,())) (λ(a:Wd)=>none) (λ(i:Nat) (a:Wd)=>ak (bP i 0) (some (a.2.2.1,0,()))) λ(r:f6)=>some r)
def ub(x:dk):Option (cw):=letI b:=i64 (ga (i64 (aC (len x.1) 1)) 2);ak (cV (b5 0 b b) (cj 1 (ab b))) (b_ (bC (λ(V:Wf)=>letI c:=i64 (ga V.2.1 2);letI d:=V.2.2;letI e:=aK c (len d.2.1);T (kv d.1 (aV x.1)) (ob (sH (bb (ig x.1 d.1).1,())) λ(a:kX)=>T (aZ a.2.1) (some (aE.rt (aP UInt8,2,()))) (ak e (ak e (some (aE.nx (V.1,i64 (aC V.2.1 1),bF d.1 (ig x.1 d.1).2,cg d.2.1 (ab c) (u8 (g? IntKind.u8 (aN (u8 (hU IntKind.u8 (aN (an d.2.1 (ab c) (u8 0))) (cz (u64 4))))) (aN (u8 a.1)))),())))))) (some (aE.ex 0 (V.1,V.2.1,d.1,d.2.1,())))) (0,ej (len x.1) 2,0,bM (ab b) (u8 0),())) (λ(a:Wf)=>none) (λ(i:Nat) (a:Wf)=>ak (bP i 0) (some (a.2.2.2.1,0,()))) λ(r:cw)=>some r)
def q?(x:I_):Option (aQ):=some (seq x.1 x.2.1,())
def FW(x:dk):Option (dk):=letI e:=len x.1;letI g:=i64 (fr 2 e);ak (cV (b5 0 0 g) (cj 1 (ab g))) (b_ (bC (λ(V:cw)=>letI f:=V.2.1;letI b:=aN (an x.1 (ab f) (u8 0));letI c:=aN (u8 (fB IntKind.u8 b (cz (u64 4))));letI d:=aN (u8 (i9 IntKind.u8 b (aN (u8 15))));T (aF f e) (ak (aK f e) (ak (aK c (len [48,49,50,51,52,53,54,55,56,57,97,98,99,100,101,102])) (ak (aK d (len [48,49,50,51,52,53,54,55,56,57,97,98,99,100,101,102])) (ak (cj 1 (bF (aV V.1) (aV [an [48,49,50,51,52,53,54,55,56,57,97,98,99,100,101,102] (ab c) (u8 0),an [48,49,50,51,52,53,54,55,56,57,97,98,99,100,101,102] (ab d) (u8 0)]))) (some (aE.nx (cm V.1 [an [48,49,50,51,52,53,54,55,56,57,97,98,99,100,101,102] (ab c) (u8 0),an [48,49,50,51,52,53,54,55,56,57,97,98,99,100,101,102] (ab d) (u8 0)],i64 (aC f 1),()))))))) (some (aE.ex 0 (V.1,f,())))) (bM (ab 0) (u8 0),0,())) (λ(a:cw)=>none) (λ(i:Nat) (a:cw)=>ak (bP i 0) (some (a.1,()))) λ(r:dk)=>some r)
def xI(x:tC):Option (tC):=letI k:=x.2.2.1;letI j:=x.2.1;letI d:=i64 (ga (i64 (aC k 1)) 2);letI b:=aC j d;letI g:=some (true,());letI l:=len x.1;ob (T (aF k 0) g (T (aF 999 k) g (T (aF j 0) g (some (aF l j,()))))) λ(a:aQ)=>T a.1 (some (aP UInt8,0,1,())) (T (aF (i64 (bg l j)) d) (some (aP UInt8,0,3,())) (ak (b5 j (i64 b) l) (ob (FW (sub x.1 j (i64 b),())) λ(a:dk)=>letI c:=len a.1;letI h:=sub a.1 1 c;T (af (ej k 2) 1) (ak (aK 0 c) (T (aZ (af (aN (an a.1 (ab 0) (u8 0))) (aN (u8 48)))) (some (aP UInt8,0,2,())) (ak (b5 1 c c) (b_ (bC (λ(x:EA)=>letI e:=x.2.2.2.1;T (kv e (aV h)) (ob (sH (bb (ig h e).1,())) λ(ba:kX)=>T (aZ ba.2.1) (some (aE.rt (aP UInt8,0,2,()))) (some (aE.nx (x.1,x.2.1,x.2.2.1,bF e (ig h e).2,())))) (some (aE.ex 0 (x.1,x.2.1,x.2.2.1,e,())))) (aP UInt8,0,0,0,())) (λ(a:EA)=>none) (λ(i:Nat) (ba:EA)=>ak (bP i 0) (some (sub a.1 1 c,i64 b,0,()))) λ(r:tC)=>some r)))) (b_ (bC (λ(x:EA)=>letI f:=x.2.2.2.1;T (kv f (aV a.1)) (ob (sH (bb (ig a.1 f).1,())) λ(ba:kX)=>T (aZ ba.2.1) (some (aE.rt (aP UInt8,0,2,()))) (some (aE.nx (x.1,x.2.1,x.2.2.1,bF f (ig a.1 f).2,())))) (some (aE.ex 0 (x.1,x.2.1,x.2.2.1,f,())))) (aP UInt8,0,0,0,())) (λ(a:EA)=>none) (λ(i:Nat) (ba:EA)=>ak (bP i 0) (some (a.1,i64 b,0,()))) λ(r:tC)=>some r))))
def lR(x:tC):Option (EB):=letI d:=x.2.2.1;letI c:=x.2.1;letI h:=aC c d;letI b:=sub x.1 c (i64 h);letI e:=some (true,());letI f:=len x.1;ob (T (aF d 1) e (T (aF 8 d) e (T (aF c 0) e (some (aF f c,()))))) λ(a:aQ)=>T a.1 (some (0,0,1,())) (T (aF (i64 (bg f c)) d) (some (0,0,3,())) (ob (T (af d 8) (ak (aK c f) (some (aF (aN (u8 127)) (aN (an x.1 (ab c) (u8 0))),()))) (some (false,()))) λ(a:aQ)=>T a.1 (some (0,0,2,())) (ak (b5 c (i64 h) f) (b_ (bC (λ(V:f6)=>letI g:=V.2.1;T (aF g (len b)) (ak (aK g (len b)) (some (aE.nx (i64 (g? IntKind.i64 (i64 (hU IntKind.i64 V.1 (cz (u64 8)))) (i64 (aN (an b (ab g) (u8 0))))),i64 (aC g 1),())))) (some (aE.ex 1 (V.1,g,())))) (0,0,())) (λ(a:f6)=>none) (λ(i:Nat) (a:f6)=>ak (bP i 1) (some (a.1,i64 h,0,()))) λ(r:EB)=>some r))))
def pT(x:f6):Option (cw):=letI b:=x.2.1;letI c:=some (true,());letI f:=i64 (fr 8 b);ob (T (aF b 1) c (T (aF 8 b) c (T (aF x.1 0) c (T (aF b 8) (ak (b? 0 f) (some (aF 0 (fB IntKind.i64 x.1 f),()))) (some (false,())))))) λ(a:aQ)=>T a.1 (some (aP UInt8,1,())) (ak (cV (b5 0 b b) (cj 1 (ab b))) (b_ (bC (λ(V:ha)=>letI d:=i64 (bg (i64 (bg b 1)) V.1);letI e:=i64 (fr 8 V.1);T (aF V.1 (len (bM (ab b) (u8 0)))) (ak (b? 0 e) (ak (aK d (len V.2.1)) (some (aE.nx (i64 (aC V.1 1),cg V.2.1 (ab d) (u8 (fB IntKind.i64 x.1 e)),()))))) (some (aE.ex 0 (V.1,V.2.1,())))) (0,bM (ab b) (u8 0),())) (λ(a:ha)=>none) (λ(i:Nat) (a:ha)=>ak (bP i 0) (some (a.2.1,0,()))) λ(r:cw)=>some r))
def KS(x:UInt8×Unit):Option (V8):=letI b:=aN x.1;letI c:=some (false,());ob (T (b? (aN (u8 48)) b) (some (b? b (aN (u8 57)),())) c) λ(a:aQ)=>T a.1 (some (u8 (bg b (aN (u8 48))),true,())) (ob (T (b? (aN (u8 97)) b) (some (b? b (aN (u8 102)),())) c) λ(a:aQ)=>T a.1 (some (u8 (aC (aN (u8 (bg b (aN (u8 97))))) (aN (u8 10))),true,())) (some (u8 0,false,())))
def FX(x:dk):Option (cw):=letI c:=len x.1;letI e:=i64 (ga c 2);T (af (ej c 2) 1) (some (aP UInt8,2,())) (ak (cV (b5 0 0 e) (cj 1 (ab e))) (b_ (bC (λ(V:Bn)=>letI d:=V.2.2.1;letI f:=i64 (aC d 1);T (aF d c) (ak (aK d c) (ob (KS (an x.1 (ab d) (u8 0),())) λ(a:V8)=>letI b:=aN (u8 (hU IntKind.u8 (aN a.1) (cz (u64 4))));ak (aK f c) (ob (KS (an x.1 (ab f) (u8 0),())) λ(ba:V8)=>ob (T (aZ a.2.1) (some (true,())) (some (aZ ba.2.1,()))) λ(b0:aQ)=>T b0.1 (some (aE.rt (aP UInt8,2,()))) (ak (cj 1 (bF (aV V.2.1) (aV [u8 (g? IntKind.u8 b (aN ba.1))]))) (some (aE.nx (V.1,cm V.2.1 [u8 (g? IntKind.u8 b (aN ba.1))],i64 (aC d 2),()))))))) (some (aE.ex 0 (V.1,V.2.1,d,())))) (0,bM (ab 0) (u8 0),0,())) (λ(a:Bn)=>none) (λ(i:Nat) (a:Bn)=>ak (bP i 0) (some (a.2.1,0,()))) λ(r:cw)=>some r))
def D7(x:f6):Option (c8):=b_ (bC (λ(V:f6)=>T (aF V.2.1 x.2.1) (some (aE.nx (i64 (fr V.1 x.1),i64 (aC V.2.1 1),()))) (some (aE.ex 0 (V.1,V.2.1,())))) (1,0,())) (λ(a:f6)=>none) (λ(i:Nat) (a:f6)=>ak (bP i 0) (some (a.1,()))) λ(r:c8)=>some r
def yC(x:f6):Option (cw):=letI c:=some (true,());ob (T (aF x.2.1 1) c (T (aF 18 x.2.1) c (T (aF x.1 0) c (ob (D7 (10,x.2.1,())) λ(a:c8)=>some (b? a.1 x.1,()))))) λ(a:aQ)=>T a.1 (some (aP UInt8,1,())) (b_ (bC (λ(V:cw)=>T (b? 0 V.2.1) (ob (D7 (10,V.2.1,())) λ(a:c8)=>letI b:=i64 (aC 48 (ej (i64 (ga x.1 a.1)) 10));ak (aZ (af a.1 0)) (ak (cj 1 (bF (aV V.1) (aV [u8 b]))) (some (aE.nx (cm V.1 [u8 b],i64 (bg V.2.1 1),()))))) (some (aE.ex 0 (V.1,V.2.1,())))) (aP UInt8,i64 (bg x.2.1 1),())) (λ(a:cw)=>none) (λ(i:Nat) (a:cw)=>ak (bP i 0) (some (a.1,0,()))) λ(r:cw)=>some r)
def M9(x:dk):Option (aQ):=letI d:=some (true,());b_ (bC (λ(V:da)=>letI e:=V.2.1;letI b:=aN (an x.1 (ab e) (u8 0));letI c:=aK e (len x.1);T (aF e (len x.1)) (ak c (ob (T (aF b (aN (u8 48))) d (ak c (some (aF (aN (u8 57)) b,())))) λ(a:aQ)=>T a.1 (some (aE.rt (false,()))) (some (aE.nx (V.1,i64 (aC e 1),()))))) (some (aE.ex 0 (V.1,e,())))) (false,0,())) (λ(a:da)=>none) (λ(i:Nat) (a:da)=>ak (bP i 0) d) λ(r:aQ)=>some r
def u5(x:dk):Option (cw):=ob (M9 (x.1,())) λ(a:aQ)=>T (aZ a.1) (some (aP UInt8,2,())) (ob (T (af (ej (len x.1) 2) 1) (ak (b? (aC (len [48]) (len x.1)) 140737488355328) (some (cm [48] x.1,()))) (some (x.1,()))) λ(a:dk)=>letI d:=len a.1;b_ (bC (λ(x:cw)=>letI c:=x.2.1;letI e:=i64 (aC c 1);letI b:=bg (aN (u8 (aC (aN (u8 (fr (aN (u8 16)) (aN (u8 (bg (aN (an a.1 (ab c) (u8 0))) (aN (u8 48)))))))) (aN (an a.1 (ab e) (u8 0)))))) (aN (u8 48));T (aF c d) (ak (aK c d) (ak (aK e d) (ak (cj 1 (bF (aV x.1) (aV [u8 b]))) (some (aE.nx (cm x.1 [u8 b],i64 (aC c 2),())))))) (some (aE.ex 0 (x.1,c,())))) (aP UInt8,0,())) (λ(a:cw)=>none) (λ(i:Nat) (a:cw)=>ak (bP i 0) (some (a.1,0,()))) λ(r:cw)=>some r)
def F_(x:c8):Option (c8):=letI a:=af x.1 53;letI b:=af x.1 90;letI c:=af x.1 7;letI d:=af x.1 4;letI e:=af x.1 11;letI f:=af x.1 12;letI g:=af x.1 3;letI h:=af x.1 15;letI i:=af x.1 13;letI j:=af x.1 14;letI k:=af x.1 18;T (af x.1 25) (some (2,())) (T (af x.1 22) (T (af x.1 22) (some (3,())) (T i (T i (some (4,())) (T g (T g (some (6,())) (T c (some (10,())) (T d (some (12,())) (T a (some (16,())) (T b (some (42,())) (some (0,()))))))) (T e (T e (some (6,())) (T c (some (10,())) (T d (some (12,())) (T a (some (16,())) (T b (some (42,())) (some (0,()))))))) (T f (T f (some (6,())) (T c (some (10,())) (T d (some (12,())) (T a (some (16,())) (T b (some (42,())) (some (0,()))))))) (T h (some (6,())) (T c (some (10,())) (T d (some (12,())) (T a (some (16,())) (T b (some (42,())) (some (0,()))))))))))) (T j (T j (some (4,())) (T g (T g (some (6,())) (T c (some (10,())) (T d (some (12,())) (T a (some (16,())) (T b (some (42,())) (some (0,()))))))) (T e (T e (some (6,())) (T c (some (10,())) (T d (some (12,())) (T a (some (16,())) (T b (some (42,())) (some (0,()))))))) (T f (T f (some (6,())) (T c (some (10,())) (T d (some (12,())) (T a (some (16,())) (T b (some (42,())) (some (0,()))))))) (T h (some (6,())) (T c (some (10,())) (T d (some (12,())) (T a (some (16,())) (T b (some (42,())) (some (0,()))))))))))) (T k (some (4,())) (T g (T g (some (6,())) (T c (some (10,())) (T d (some (12,())) (T a (some (16,())) (T b (some (42,())) (some (0,()))))))) (T e (T e (some (6,())) (T c (some (10,())) (T d (some (12,())) (T a (some (16,())) (T b (some (42,())) (some (0,()))))))) (T f (T f (some (6,())) (T c (some (10,())) (T d (some (12,())) (T a (some (16,())) (T b (some (42,())) (some (0,()))))))) (T h (some (6,())) (T c (some (10,())) (T d (some (12,())) (T a (some (16,())) (T b (some (42,())) (some (0,())))))))))))))) (T (af x.1 49) (T (af x.1 49) (some (3,())) (T i (T i (some (4,())) (T g (T g (some (6,()))
 (T c (some (10,())) (T d (some (12,())) (T a (some (16,())) (T b (some (42,())) (some (0,()))))))) (T e (T e (some (6,())) (T c (some (10,())) (T d (some (12,())) (T a (some (16,())) (T b (some (42,())) (some (0,()))))))) (T f (T f (some (6,())) (T c (some (10,())) (T d (some (12,())) (T a (some (16,())) (T b (some (42,())) (some (0,()))))))) (T h (some (6,())) (T c (some (10,())) (T d (some (12,())) (T a (some (16,())) (T b (some (42,())) (some (0,()))))))))))) (T j (T j (some (4,())) (T g (T g (some (6,())) (T c (some (10,())) (T d (some (12,())) (T a (some (16,())) (T b (some (42,())) (some (0,()))))))) (T e (T e (some (6,())) (T c (some (10,())) (T d (some (12,())) (T a (some (16,())) (T b (some (42,())) (some (0,()))))))) (T f (T f (some (6,())) (T c (some (10,())) (T d (some (12,())) (T a (some (16,())) (T b (some (42,())) (some (0,()))))))) (T h (some (6,())) (T c (some (10,())) (T d (some (12,())) (T a (some (16,())) (T b (some (42,())) (some (0,()))))))))))) (T k (some (4,())) (T g (T g (some (6,())) (T c (some (10,())) (T d (some (12,())) (T a (some (16,())) (T b (some (42,())) (some (0,()))))))) (T e (T e (some (6,())) (T c (some (10,())) (T d (some (12,())) (T a (some (16,())) (T b (some (42,())) (some (0,()))))))) (T f (T f (some (6,())) (T c (some (10,())) (T d (some (12,())) (T a (some (16,())) (T b (some (42,())) (some (0,()))))))) (T h (some (6,())) (T c (some (10,())) (T d (some (12,())) (T a (some (16,())) (T b (some (42,())) (some (0,())))))))))))))) (T (af x.1 70) (some (3,())) (T i (T i (some (4,())) (T g (T g (some (6,())) (T c (some (10,())) (T d (some (12,())) (T a (some (16,())) (T b (some (42,())) (some (0,()))))))) (T e (T e (some (6,())) (T c (some (10,())) (T d (some (12,())) (T a (some (16,())) (T b (some (42,())) (some (0,()))))))) (T f (T f (some (6,())) (T c (some (10,())) (T d (some (12,())) (T a (some (16,())) (T b (some (42,()))
 (some (0, ()))))))) (T h (some (6,())) (T c (some (10,())) (T d (some (12,())) (T a (some (16,())) (T b (some (42,())) (some (0,()))))))))))) (T j (T j (some (4,())) (T g (T g (some (6,())) (T c (some (10,())) (T d (some (12,())) (T a (some (16,())) (T b (some (42,())) (some (0,()))))))) (T e (T e (some (6,())) (T c (some (10,())) (T d (some (12,())) (T a (some (16,())) (T b (some (42,())) (some (0,()))))))) (T f (T f (some (6,())) (T c (some (10,())) (T d (some (12,())) (T a (some (16,())) (T b (some (42,())) (some (0,()))))))) (T h (some (6,())) (T c (some (10,())) (T d (some (12,())) (T a (some (16,())) (T b (some (42,())) (some (0,()))))))))))) (T k (some (4,())) (T g (T g (some (6,())) (T c (some (10,())) (T d (some (12,())) (T a (some (16,())) (T b (some (42,())) (some (0,()))))))) (T e (T e (some (6,())) (T c (some (10,())) (T d (some (12,())) (T a (some (16,())) (T b (some (42,())) (some (0,()))))))) (T f (T f (some (6,())) (T c (some (10,())) (T d (some (12,())) (T a (some (16,())) (T b (some (42,())) (some (0,()))))))) (T h (some (6,())) (T c (some (10,())) (T d (some (12,())) (T a (some (16,())) (T b (some (42,())) (some (0,()))))))))))))))))
def zI(x:f6):Option (c8):=letI b:=x.2.1;T (af x.1 1) (ob (F_ (b,())) λ(a:c8)=>some (a.1,())) (T (af x.1 2) (some (T (af b 2) 19 (T (af b 32) 11 (T (af b 100) 11 0)),())) (T (af x.1 3) (some (T (af b 37) 12 (T (af b 38) 6 (T (af b 39) 2 (T (af b 41) 8 (T (af b 42) 15 (T (af b 95) 42 0))))),())) (T (af x.1 4) (some (T (af b 35) 37 (T (af b 102) 28 0),())) (T (af x.1 5) (some (T (af b 48) 400 (T (af b 54) 120 0),())) (T (af x.1 6) (some (T (af b 52) 8 (T (af b 64) 8 (T (af b 96) 8 (T (af b 128) 8 0))),())) (T (af x.1 7) (some (T (af b 55) 255 (T (af b 127) 400 0),())) (some (0,()))))))))
def vT(x:c8):Option (tA):=b_ (bC (λ(V:da)=>letI b:=V.2.1;T (b? b 7) (ob (zI (b,x.1,())) λ(a:c8)=>T (aF 0 a.1) (some (aE.rt ((b,a.1,()),true,()))) (some (aE.nx (V.1,i64 (aC b 1),())))) (some (aE.ex 0 (V.1,b,())))) (false,1,())) (λ(a:da)=>none) (λ(i:Nat) (a:da)=>ak (bP i 0) (some ((0,0,()),false,()))) λ(r:tA)=>some r
def iY(x:c8):Option (c8):=letI a:=af x.1 5;T (af x.1 2) (T (af x.1 2) (some (2,())) (T a (T a (some (3,())) (some (0,()))) (T (af x.1 7) (some (3,())) (some (0,()))))) (T (af x.1 4) (some (2,())) (T a (T a (some (3,())) (some (0,()))) (T (af x.1 7) (some (3,())) (some (0,())))))
def vS(x:ha):Option (aQ):=letI k:=x.2.1;letI e:=len k;letI c:=some (aF 0 e,());letI f:=some (false,());letI g:=some (true,());letI h:=aN (u8 126);letI j:=aN (u8 32);ob (vT (x.1,())) λ(a:tA)=>letI l:=a.1.1;letI b:=some (af e a.1.2.1,());letI d:=iY (l,());letI A:=af l 3;letI B:=af l 4;ob (T (aZ a.2.1) g (some (aF a.1.2.1 e,()))) λ(ba:aQ)=>T ba.1 f (T (af l 1) (T (af l 1) (b_ (bC (λ(V:da)=>letI C:=V.2.1;letI m:=aN (an k (ab C) (u8 0));T (aF C e) (ak (aK C e) (ob (T (aF m (aN (u8 48))) g (some (aF (aN (u8 57)) m,()))) λ(a:aQ)=>T a.1 (some (aE.ex 999999999 (false,C,()))) (some (aE.nx (V.1,i64 (aC C 1),()))))) (some (aE.ex 0 (V.1,C,())))) (false,0,())) (λ(a:da)=>none) (λ(i:Nat) (b0:da)=>T (bP i 999999999) (T (aZ b0.1) f (b_ (bC (λ(V:da)=>letI D:=V.2.1;letI n:=aN (an k (ab D) (u8 0));T (aF D e) (ak (aK D e) (ob (T (aF n j) g (some (aF h n,()))) λ(a:aQ)=>T a.1 (some (aE.ex 999999999 (false,D,()))) (some (aE.nx (V.1,i64 (aC D 1),()))))) (some (aE.ex 0 (V.1,D,())))) (false,0,())) (λ(a:da)=>none) (λ(i:Nat) (bq:da)=>T (bP i 999999999) (T (aZ bq.1) f (ob d λ(dc:c8)=>T (aF 0 dc.1) c b)) (ak (bP i 0) (ob d λ(dc:c8)=>T (aF 0 dc.1) c b))) λ(r:Unit)=>none)) (ak (bP i 0) (b_ (bC (λ(V:da)=>letI E:=V.2.1;letI o:=aN (an k (ab E) (u8 0));T (aF E e) (ak (aK E e) (ob (T (aF o j) g (some (aF h o,()))) λ(a:aQ)=>T a.1 (some (aE.ex 999999999 (false,E,()))) (some (aE.nx (V.1,i64 (aC E 1),()))))) (some (aE.ex 0 (V.1,E,())))) (false,0,())) (λ(a:da)=>none) (λ(i:Nat) (bq:da)=>T (bP i 999999999) (T (aZ bq.1) f (ob d λ(dc:c8)=>T (aF 0 dc.1) c b)) (ak (bP i 0) (ob d λ(dc:c8)=>T (aF 0 dc.1) c b))) λ(r:Unit)=>none))) λ(r:Unit)=>none) (T A (T A (b_ (bC (λ(V:da)=>letI F:=V.2.1;letI p:=aN (an k (ab F) (u8 0));T (aF F e) (ak (aK F e) (ob (T (aF p j) g (some (aF h p,()))) λ(a:aQ)=>T a.1 (some (aE.ex 999999999 (false,F,()))) (some (aE.nx (V.1,i64 (aC F 1),()))))) (some (aE.ex 0 (V.1,F,()))))
 (false,0,())) (λ(a:da)=>none) (λ(i:Nat) (b0:da)=>T (bP i 999999999) (T (aZ b0.1) f (ob d λ(bq:c8)=>T (aF 0 bq.1) c b)) (ak (bP i 0) (ob d λ(bq:c8)=>T (aF 0 bq.1) c b))) λ(r:Unit)=>none) (ob d λ(b0:c8)=>T (aF 0 b0.1) c b)) (T B (T B (b_ (bC (λ(V:da)=>letI G:=V.2.1;letI q:=aN (an k (ab G) (u8 0));T (aF G e) (ak (aK G e) (ob (T (aF q j) g (some (aF h q,()))) λ(a:aQ)=>T a.1 (some (aE.ex 999999999 (false,G,()))) (some (aE.nx (V.1,i64 (aC G 1),()))))) (some (aE.ex 0 (V.1,G,())))) (false,0,())) (λ(a:da)=>none) (λ(i:Nat) (b0:da)=>T (bP i 999999999) (T (aZ b0.1) f (ob d λ(bq:c8)=>T (aF 0 bq.1) c b)) (ak (bP i 0) (ob d λ(bq:c8)=>T (aF 0 bq.1) c b))) λ(r:Unit)=>none) (ob d λ(b0:c8)=>T (aF 0 b0.1) c b)) (T (af l 5) (b_ (bC (λ(V:da)=>letI H:=V.2.1;letI s:=aN (an k (ab H) (u8 0));T (aF H e) (ak (aK H e) (ob (T (aF s j) g (some (aF h s,()))) λ(a:aQ)=>T a.1 (some (aE.ex 999999999 (false,H,()))) (some (aE.nx (V.1,i64 (aC H 1),()))))) (some (aE.ex 0 (V.1,H,())))) (false,0,())) (λ(a:da)=>none) (λ(i:Nat) (b0:da)=>T (bP i 999999999) (T (aZ b0.1) f (ob d λ(bq:c8)=>T (aF 0 bq.1) c b)) (ak (bP i 0) (ob d λ(bq:c8)=>T (aF 0 bq.1) c b))) λ(r:Unit)=>none) (ob d λ(b0:c8)=>T (aF 0 b0.1) c b))))) (T (af l 2) (b_ (bC (λ(V:da)=>letI I:=V.2.1;letI t:=aN (an k (ab I) (u8 0));T (aF I e) (ak (aK I e) (ob (T (aF t (aN (u8 48))) g (some (aF (aN (u8 57)) t,()))) λ(a:aQ)=>T a.1 (some (aE.ex 999999999 (false,I,()))) (some (aE.nx (V.1,i64 (aC I 1),()))))) (some (aE.ex 0 (V.1,I,())))) (false,0,())) (λ(a:da)=>none) (λ(i:Nat) (b0:da)=>T (bP i 999999999) (T (aZ b0.1) f (b_ (bC (λ(V:da)=>letI J:=V.2.1;letI u:=aN (an k (ab J) (u8 0));T (aF J e) (ak (aK J e) (ob (T (aF u j) g (some (aF h u,()))) λ(a:aQ)=>T a.1 (some (aE.ex 999999999 (false,J,()))) (some (aE.nx (V.1,i64 (aC J 1),()))))) (some (aE.ex 0 (V.1,J,())))) (false,0,())) (λ(a:da)=>none) (λ(i:Nat)
 (bq:da)=>T (bP i 999999999) (T (aZ bq.1) f (ob d λ(dc:c8)=>T (aF 0 dc.1) c b)) (ak (bP i 0) (ob d λ(dc:c8)=>T (aF 0 dc.1) c b))) λ(r:Unit)=>none)) (ak (bP i 0) (b_ (bC (λ(V:da)=>letI K:=V.2.1;letI v:=aN (an k (ab K) (u8 0));T (aF K e) (ak (aK K e) (ob (T (aF v j) g (some (aF h v,()))) λ(a:aQ)=>T a.1 (some (aE.ex 999999999 (false,K,()))) (some (aE.nx (V.1,i64 (aC K 1),()))))) (some (aE.ex 0 (V.1,K,())))) (false,0,())) (λ(a:da)=>none) (λ(i:Nat) (bq : Bool×Int×Unit)=>T (bP i 999999999) (T (aZ bq.1) f (ob d λ(dc:c8)=>T (aF 0 dc.1) c b)) (ak (bP i 0) (ob d λ(dc:c8)=>T (aF 0 dc.1) c b))) λ(r:Unit)=>none))) λ(r:Unit)=>none) (T A (T A (b_ (bC (λ(V:da)=>letI L:=V.2.1;letI w:=aN (an k (ab L) (u8 0));T (aF L e) (ak (aK L e) (ob (T (aF w j) g (some (aF h w,()))) λ(a:aQ)=>T a.1 (some (aE.ex 999999999 (false,L,()))) (some (aE.nx (V.1,i64 (aC L 1),()))))) (some (aE.ex 0 (V.1,L,())))) (false,0,())) (λ(a:da)=>none) (λ(i:Nat) (b0:da)=>T (bP i 999999999) (T (aZ b0.1) f (ob d λ(bq:c8)=>T (aF 0 bq.1) c b)) (ak (bP i 0) (ob d λ(bq:c8)=>T (aF 0 bq.1) c b))) λ(r:Unit)=>none) (ob d λ(b0:c8)=>T (aF 0 b0.1) c b)) (T B (T B (b_ (bC (λ(V:da)=>letI M:=V.2.1;letI y:=aN (an k (ab M) (u8 0));T (aF M e) (ak (aK M e) (ob (T (aF y j) g (some (aF h y,()))) λ(a:aQ)=>T a.1 (some (aE.ex 999999999 (false,M,()))) (some (aE.nx (V.1,i64 (aC M 1),()))))) (some (aE.ex 0 (V.1,M,())))) (false,0,())) (λ(a : Bool×Int×Unit)=>none) (λ(i:Nat) (b0:da)=>T (bP i 999999999) (T (aZ b0.1) f (ob d λ(bq:c8)=>T (aF 0 bq.1) c b)) (ak (bP i 0) (ob d λ(bq:c8)=>T (aF 0 bq.1) c b))) λ(r:Unit)=>none) (ob d λ(b0:c8)=>T (aF 0 b0.1) c b)) (T (af l 5) (b_ (bC (λ(V:da)=>letI N:=V.2.1;letI z:=aN (an k (ab N) (u8 0));T (aF N e) (ak (aK N e) (ob (T (aF z j) g (some (aF h z,()))) λ(a:aQ)=>T a.1 (some (aE.ex 999999999 (false,N,()))) (some (aE.nx (V.1,i64 (aC N 1),()))))) (some (aE.ex 0
 (V.1,N,())))) (false,0,())) (λ(a:da)=>none) (λ(i:Nat) (b0:da)=>T (bP i 999999999) (T (aZ b0.1) f (ob d λ(bq:c8)=>T (aF 0 bq.1) c b)) (ak (bP i 0) (ob d λ(bq:c8)=>T (aF 0 bq.1) c b))) λ(r:Unit)=>none) (ob d λ(b0:c8)=>T (aF 0 b0.1) c b))))))
def F9(x:ha):Option (cw):=letI c:=x.2.1;ob (vT (x.1,())) λ(a:tA)=>letI b:=T (af a.1.1 1) (some (true,())) (some (af a.1.1 2,()));T (aZ a.2.1) (some (aP UInt8,12,())) (ob (vS (x.1,c,())) λ(ba:aQ)=>T (aZ ba.1) (some (aP UInt8,1,())) (ob (iY (a.1.1,())) λ(b0:c8)=>T (aF 0 b0.1) (ob (uc (len c,b0.1,())) λ(bq:cw)=>ob (ub (bq.1,())) λ(dc:cw)=>ob b λ(a:aQ)=>T a.1 (ob (ub (c,())) λ(a:cw)=>ak (cj 1 (bF (aV dc.1) (aV a.1))) (some (cm dc.1 a.1,0,()))) (ak (cj 1 (bF (aV dc.1) (aV c))) (some (cm dc.1 c,0,())))) (ob b λ(a:aQ)=>T a.1 (ob (ub (c,())) λ(a:cw)=>ak (cj 1 (aV a.1)) (some (a.1,0,()))) (ak (cj 1 (aV c)) (some (c,0,()))))))
def Lc(x:Bn):Option (tC):=letI k:=x.2.1;letI e:=x.2.2.1;letI f:=aP UInt8;letI g:=len k;letI h:=some (true,());ob (vT (x.1,())) λ(a:tA)=>letI j:=a.1.2.1;letI m:=aC e j;letI b:=sub k e (i64 m);letI d:=T (af a.1.1 1) h (some (af a.1.1 2,()));T (aZ a.2.1) (some (aP UInt8,0,12,())) (ob (T (aF e 0) h (some (aF g e,()))) λ(ba:aQ)=>T ba.1 (some (aP UInt8,0,1,())) (ob (iY (a.1.1,())) λ(b0:c8)=>T (aF 0 b0.1) (ob (xI (k,e,b0.1,())) λ(bq:tC)=>letI l:=bq.2.1;T (aZ (af bq.2.2.1 0)) (some (aP UInt8,0,bq.2.2.1,())) (ob (ud (bq.1,())) λ(dc:f6)=>letI i:=aC l dc.1;letI c:=sub k l (i64 i);ob (T (aF dc.1 1) h (some (aF j dc.1,()))) λ(fE:aQ)=>T fE.1 (some (aP UInt8,0,2,())) (ob d λ(a:aQ)=>T a.1 (ob (xI (k,l,dc.1,())) λ(a:tC)=>T (aZ (af a.2.2.1 0)) (some (aP UInt8,0,a.2.2.1,())) (ak (cj 1 (aV a.1)) (some (a.1,a.2.1,0,())))) (T (aF (i64 (bg g l)) dc.1) (some (aP UInt8,0,3,())) (ak (b5 l (i64 i) g) (ak (cj 1 (bF (aV f) (aV c))) (ob (vS (x.1,cm f c,())) λ(a:aQ)=>T (aZ a.1) (some (aP UInt8,0,2,())) (some (cm f c,i64 i,0,()))))))))) (ob d λ(bq:aQ)=>T bq.1 (ob (xI (k,e,j,())) λ(a:tC)=>T (aZ (af a.2.2.1 0)) (some (aP UInt8,0,a.2.2.1,())) (ak (cj 1 (aV a.1)) (some (a.1,a.2.1,0,())))) (T (aF (i64 (bg g e)) j) (some (aP UInt8,0,3,())) (ak (b5 e (i64 m) g) (ak (cj 1 (bF (aV f) (aV b))) (ob (vS (x.1,cm f b,())) λ(dc:aQ)=>T (aZ dc.1) (some (aP UInt8,0,2,())) (some (cm f b,i64 m,0,())))))))))
def Im(x:Om):Option (aQ):=b_ (bC (λ(V:da)=>letI b:=V.2.1;T (aF b (len x.1)) (ak (aK b (len x.1)) (T (af (an x.1 (ab b) 0) x.2.1) (some (aE.rt (true,()))) (some (aE.nx (V.1,i64 (aC b 1),()))))) (some (aE.ex 0 (V.1,b,())))) (false,0,())) (λ(a:da)=>none) (λ(i:Nat) (a:da)=>ak (bP i 0) (some (false,()))) λ(r:aQ)=>some r
def Ij(x:c8):Option (tA):=letI c:=aP Int;b_ (bC (λ(V:da)=>letI d:=V.2.1;letI b:=ab d;T (aF d (len [[1,2,25],[1,3,22,49,70],[1,4,13,14,18],[1,6,3,11,12,15],[1,10,7],[1,12,4],[1,16,53],[1,42,90],[2,19,2],[2,11,32,100],[3,12,37],[3,6,38],[3,2,39],[3,8,41],[3,15,42],[3,42,95],[4,37,35],[4,28,102],[5,400,48],[5,120,54],[6,8,52,64,96,128],[7,255,55],[7,400,127]])) (ak (aK d (len [[1,2,25],[1,3,22,49,70],[1,4,13,14,18],[1,6,3,11,12,15],[1,10,7],[1,12,4],[1,16,53],[1,42,90],[2,19,2],[2,11,32,100],[3,12,37],[3,6,38],[3,2,39],[3,8,41],[3,15,42],[3,42,95],[4,37,35],[4,28,102],[5,400,48],[5,120,54],[6,8,52,64,96,128],[7,255,55],[7,400,127]])) (ak (b5 2 (len (an [[1,2,25],[1,3,22,49,70],[1,4,13,14,18],[1,6,3,11,12,15],[1,10,7],[1,12,4],[1,16,53],[1,42,90],[2,19,2],[2,11,32,100],[3,12,37],[3,6,38],[3,2,39],[3,8,41],[3,15,42],[3,42,95],[4,37,35],[4,28,102],[5,400,48],[5,120,54],[6,8,52,64,96,128],[7,255,55],[7,400,127]] b c)) (len (an [[1,2,25],[1,3,22,49,70],[1,4,13,14,18],[1,6,3,11,12,15],[1,10,7],[1,12,4],[1,16,53],[1,42,90],[2,19,2],[2,11,32,100],[3,12,37],[3,6,38],[3,2,39],[3,8,41],[3,15,42],[3,42,95],[4,37,35],[4,28,102],[5,400,48],[5,120,54],[6,8,52,64,96,128],[7,255,55],[7,400,127]] b c))) (ob (Im (sub (an [[1,2,25],[1,3,22,49,70],[1,4,13,14,18],[1,6,3,11,12,15],[1,10,7],[1,12,4],[1,16,53],[1,42,90],[2,19,2],[2,11,32,100],[3,12,37],[3,6,38],[3,2,39],[3,8,41],[3,15,42],[3,42,95],[4,37,35],[4,28,102],[5,400,48],[5,120,54],[6,8,52,64,96,128],[7,255,55],[7,400,127]] b c) 2 (len (an [[1,2,25],[1,3,22,49,70],[1,4,13,14,18],[1,6,3,11,12,15],[1,10,7],[1,12,4],[1,16,53],[1,42,90],[2,19,2],[2,11,32,100],[3,12,37],[3,6,38],[3,2,39],[3,8,41],[3,15,42],[3,42,95],[4,37,35],[4,28,102],[5,400,48],[5,120,54],[6,8,52,64,96,128],[7,255,55],[7,400,127]] b c)),x.1,())) λ(a:aQ)=>T a.1 (ak (aK d (len
 [[1,2,25],[1,3,22,49,70],[1,4,13,14,18],[1,6,3,11,12,15],[1,10,7],[1,12,4],[1,16,53],[1,42,90],[2,19,2],[2,11,32,100],[3,12,37],[3,6,38],[3,2,39],[3,8,41],[3,15,42],[3,42,95],[4,37,35],[4,28,102],[5,400,48],[5,120,54],[6,8,52,64,96,128],[7,255,55],[7,400,127]])) (ak (aK 0 (len (an [[1,2,25],[1,3,22,49,70],[1,4,13,14,18],[1,6,3,11,12,15],[1,10,7],[1,12,4],[1,16,53],[1,42,90],[2,19,2],[2,11,32,100],[3,12,37],[3,6,38],[3,2,39],[3,8,41],[3,15,42],[3,42,95],[4,37,35],[4,28,102],[5,400,48],[5,120,54],[6,8,52,64,96,128],[7,255,55],[7,400,127]] b c))) (ak (aK d (len [[1,2,25],[1,3,22,49,70],[1,4,13,14,18],[1,6,3,11,12,15],[1,10,7],[1,12,4],[1,16,53],[1,42,90],[2,19,2],[2,11,32,100],[3,12,37],[3,6,38],[3,2,39],[3,8,41],[3,15,42],[3,42,95],[4,37,35],[4,28,102],[5,400,48],[5,120,54],[6,8,52,64,96,128],[7,255,55],[7,400,127]])) (ak (aK 1 (len (an [[1,2,25],[1,3,22,49,70],[1,4,13,14,18],[1,6,3,11,12,15],[1,10,7],[1,12,4],[1,16,53],[1,42,90],[2,19,2],[2,11,32,100],[3,12,37],[3,6,38],[3,2,39],[3,8,41],[3,15,42],[3,42,95],[4,37,35],[4,28,102],[5,400,48],[5,120,54],[6,8,52,64,96,128],[7,255,55],[7,400,127]] b c))) (some (aE.rt ((an (an [[1,2,25],[1,3, 22,49,70],[1,4,13,14,18],[1,6,3,11,12,15],[1,10,7],[1,12,4],[1,16,53],[1,42,90],[2,19,2],[2,11,32,100],[3,12,37],[3,6,38],[3,2,39],[3,8,41],[3,15,42],[3,42,95],[4,37,35],[4,28,102],[5,400,48],[5,120,54],[6,8,52,64,96,128],[7,255,55],[7,400,127]] b c) (ab 0) 0,an (an [[1,2,25],[1,3,22,49,70],[1,4,13,14,18],[1,6,3,11,12,15],[1,10,7],[1,12,4],[1,16,53],[1,42,90],[2,19,2],[2,11,32,100],[3,12,37],[3,6,38],[3,2,39],[3,8,41],[3,15,42],[3,42,95],[4,37,35],[4,28,102],[5,400,48],[5,120,54],[6,8,52,64,96,128],[7,255,55],[7,400,127]] b c) (ab 1) 0,()),true,()))))))) (some (aE.nx (V.1,i64 (aC d 1),())))))) (some (aE.ex 0 (V.1,d,())))) (false,0,())) (λ(a:da)=>none) (λ(i:Nat) (a:da)=>ak (bP i 0) (some ((0,0,()),false,()))) λ(r:tA)=>some r
def Il(x:(Int×Int×Unit)×aa×Unit):Option (aQ):=letI d:=len x.2.1;letI e:=some (true,());letI g:=some (false,());letI h:=x.1.1;b_ (bC (λ(V:da)=>letI j:=V.2.1;letI f:=aK j d;letI c:=aN (an x.2.1 (ab j) (u8 0));letI b:=T (b? 3 h) (T (b? h 5) (ak f (T (aF c (aN (u8 32))) e (ak f (some (aF (aN (u8 126)) c,()))))) g) g;T (aF j d) (ob (T (b? h 2) (ak f (T (aF c (aN (u8 48))) e (ak f (T (aF (aN (u8 57)) c) e b)))) b) λ(a:aQ)=>T a.1 (some (aE.rt (false,()))) (some (aE.nx (V.1,i64 (aC j 1),())))) (some (aE.ex 0 (V.1,j,())))) (false,0,())) (λ(a:da)=>none) (λ(i:Nat) (a:da)=>ak (bP i 0) (ob (T (af h 1) e (T (af h 3) e (some (af h 6,())))) λ(a:aQ)=>T a.1 (some (af d x.1.2.1,())) (ob (T (b? 1 d) (some (b? d x.1.2.1,())) g) λ(a:aQ)=>some (a.1,())))) λ(r:aQ)=>some r
def M?(x:c8):Option (c8):=ob (T (af x.1 2) (some (true,())) (some (af x.1 4,()))) λ(a:aQ)=>T a.1 (some (2,())) (ob (T (af x.1 5) (some (true,())) (some (af x.1 7,()))) λ(a:aQ)=>T a.1 (some (3,())) (some (0,())))
def Ik(x:ha):Option (cw):=letI b:=aP UInt8;letI e:=x.2.1;letI f:=cj 1 (bF (aV b) (aV b));letI g:=cm b b;ob (Ij (x.1,())) λ(a:tA)=>T (aZ a.2.1) (some (aP UInt8,12,())) (ob (Il (a.1,e,())) λ(ba:aQ)=>T (aZ ba.1) (some (aP UInt8,1,())) (ob (M? (a.1.1,())) λ(b0:c8)=>T (aF 0 b0.1) (ob (M? (a.1.1,())) λ(bq:c8)=>ob (yC (len e,bq.1,())) λ(dc:cw)=>ob (u5 (dc.1,())) λ(fE:cw)=>letI c:=cm b fE.1;letI d:=cj 1 (bF (aV b) (aV fE.1));T (b? a.1.1 2) (ob (u5 (e,())) λ(a:cw)=>ak d (ak (cj 1 (bF (aV c) (aV a.1))) (some (cm c a.1,0,())))) (ak d (ak (cj 1 (bF (aV c) (aV e))) (some (cm c e,0,()))))) (T (b? a.1.1 2) (ob (u5 (e,())) λ(a:cw)=>ak f (ak (cj 1 (bF (aV g) (aV a.1))) (some (cm g a.1,0,())))) (ak f (ak (cj 1 (bF (aV g) (aV e))) (some (cm g e,0,())))))))
def M'(x:ha):Option (aQ):=ob (Ij (x.1,())) λ(a:tA)=>ob (Il (a.1,x.2.1,())) λ(ba:aQ)=>ob (T a.2.1 (some (ba.1,())) (some (false,()))) λ(a:aQ)=>some (a.1,())
def bt(c:UInt8)(t:Nat):Bool:=c.toNat.testBit (7-t)
def iw(b:aa)(n:Nat):Bool:=bt (an b ((n-1)/8) (u8 0)) ((n-1)%8)
def io(b:aa):List Nat:=(List.range (8*b.length+1)).filter λn=>Nat.ble 2 n&&iw b n
def pM(c:aa)(a:Int):List Int×Int×Int×Unit:=
 if c.length<8\/(iw c 1=true/\c.length<16) then([],0,3,())
 else if iw c 1=true then
  (if 65∈io (c.take 16)\/∀n∈io (c.take 16),n<65 then([],0,2,()) else((io (c.take 16)).map Int.ofNat,a+16,0,()))
 else((io (c.take 8)).map Int.ofNat,a+8,0,())
def lN(b:aa)(a:Int):List Int×Int×Int×Unit:=if a<0\/(b.length:Int)<a then([],0,1,()) else pM (b.drop a.toNat) a
def XZ(x:cw):Option (List Int×Int×Int×Unit):=some (lN x.1 x.2.1)
def uE(x:f6):Option (c8):=b_ (bC (λ(V:f6)=>T (aF V.2.1 x.2.1) (some (aE.nx (i64 (ga V.1 10),i64 (aC V.2.1 1),()))) (some (aE.ex 0 (V.1,V.2.1,())))) (x.1,0,())) (λ(a:f6)=>none) (λ(i:Nat) (a:f6)=>ak (bP i 0) (some (ej a.1 10,()))) λ(r:c8)=>some r
def Am(x:c8):Option (aQ):=letI b:=some (false,());ob (T (aF x.1 0) (some (true,())) (some (aF 999 x.1,()))) λ(a:aQ)=>T a.1 b (ob (uE (x.1,2,())) λ(a:c8)=>ob (T (b? 1 a.1) (T (b? a.1 8) (ob (uE (x.1,1,())) λ(a:c8)=>T (b? a.1 4) (ob (uE (x.1,0,())) λ(a:c8)=>some (b? a.1 5,())) b) b) b) λ(a:aQ)=>some (a.1,()))
def Uw(x:yT):Option (aQ):=letI b:=some (false,());letI c:=x.1.2.2.2.2;ob (T (b? 1 c.1) (T (b? c.1 2147483647) (T (af (len c.2.1) 8) (T (af (len c.2.2.1) 3) (some (af c.2.2.2.1 0,())) b) b) b) b) λ(a:aQ)=>some (a.1,())
def MG(x:yT):Option (aQ):=letI b:=some (false,());letI c:=x.1.2.2.2.2;ob (T (af c.1 0) (T (af (len c.2.1) 0) (T (af (len c.2.2.1) 0) (some (af c.2.2.2.1 0,())) b) b) b) λ(a:aQ)=>some (a.1,())
def Uv(x:yT):Option (aQ):=letI b:=x.1.2.2.2.2;letI c:=some (false,());ob (T (b? 0 b.2.2.2.1) (T (b? b.2.2.2.1 999999) (ob (MG ((x.1.1,x.1.2.1,x.1.2.2.1,x.1.2.2.2.1,b.1,b.2.1,b.2.2.1,0,b.2.2.2.2),())) λ(a:aQ)=>some (a.1,())) c) c) λ(a:aQ)=>some (a.1,())
def L_(x:tz):Option (aQ):=letI c:=x.1.2.1;b_ (bC (λ(V:Bm)=>letI b:=V.2.2.1;T (aF b (len c)) (ak (aK b (len c)) (ob (T (b? (an c (ab b) (0,aP UInt8,())).1 V.2.1) (some (true,())) (ob (vS ((an c (ab b) (0,aP UInt8,())).1,(an c (ab b) (0,aP UInt8,())).2.1,())) λ(a:aQ)=>some (aZ a.1,()))) λ(a:aQ)=>T a.1 (some (aE.rt (false,()))) (some (aE.nx (V.1,(an c (ab b) (0,aP UInt8,())).1,i64 (aC b 1),()))))) (some (aE.ex 0 (V.1,V.2.1,b,())))) (false,0,0,())) (λ(a:Bm)=>none) (λ(i:Nat) (a:Bm)=>ak (bP i 0) (ob (Am (x.1.1,())) λ(a:aQ)=>some (a.1,()))) λ(r:aQ)=>some r
def Cq(x:I_):Option (aQ):=some (seq x.1 x.2.1,())
def L'(x:ahs):Option (aQ):=ob (T (af x.1.1 x.2.1.1) (ob (Cq (x.1.2.1,x.2.1.2.1,())) λ(a:aQ)=>some (a.1,())) (some (false,()))) λ(a:aQ)=>some (a.1,())
def Kj(x:ql):Option (aQ):=letI c:=some (true,());b_ (bC (λ(V:Bm)=>letI d:=V.2.2.1;letI b:=an x.1 (ab d) 0;T (aF d (len x.1)) (ak (aK d (len x.1)) (ob (T (b? b V.2.1) c (T (aF 128 b) c (some (af b 65,())))) λ(a:aQ)=>T a.1 (some (aE.rt (false,()))) (some (aE.nx (V.1,an x.1 (ab d) 0,i64 (aC d 1),()))))) (some (aE.ex 0 (V.1,V.2.1,d,())))) (false,1,0,())) (λ(a:Bm)=>none) (λ(i:Nat) (a:Bm)=>ak (bP i 0) c) λ(r:aQ)=>some r
def t7(x:c8):Option (Bo):=letI b:=i64 (bg x.1 1);ob (T (aF x.1 1) (some (true,())) (some (aF 128 x.1,()))) λ(a:aQ)=>T a.1 (some (0,u8 0,())) (ak (b? 0 (ej b 8)) (some (i64 (ga b 8),u8 (fB IntKind.u8 (aN (u8 128)) (ej b 8)),())))
def Kk(x:ql):Option (cw):=letI b:=len x.1;letI e:=bM (ab 16) (u8 0);letI f:=i64 (bg b 1);ob (Kj (x.1,())) λ(a:aQ)=>T (aZ a.1) (some (aP UInt8,1,())) (ak (cV (b5 0 8 8) (cj 1 (ab 8))) (ob (T (aF 0 b) (ak (aK f b) (some (aF 64 (an x.1 (ab f) 0),()))) (some (false,()))) λ(a:aQ)=>T a.1 (ak (cV (b5 0 16 16) (cj 1 (ab 16))) (ak (aK 0 (len e)) (b_ (bC (λ(V:ha)=>T (aF V.1 b) (ak (aK V.1 b) (ob (t7 (an x.1 (ab V.1) 0,())) λ(a:Bo)=>letI c:=aK a.1 (len V.2.1);ak c (ak c (some (aE.nx (i64 (aC V.1 1),cg V.2.1 (ab a.1) (u8 (g? IntKind.u8 (aN (an V.2.1 (ab a.1) (u8 0))) (aN a.2.1))),())))))) (some (aE.ex 0 (V.1,V.2.1,())))) (0,cg e (ab 0) (u8 128),())) (λ(a:ha)=>none) (λ(i:Nat) (a:ha)=>ak (bP i 0) (some (a.2.1,0,()))) λ(r:cw)=>some r))) (b_ (bC (λ(V:ha)=>T (aF V.1 b) (ak (aK V.1 b) (ob (t7 (an x.1 (ab V.1) 0,())) λ(a:Bo)=>letI d:=aK a.1 (len V.2.1);ak d (ak d (some (aE.nx (i64 (aC V.1 1),cg V.2.1 (ab a.1) (u8 (g? IntKind.u8 (aN (an V.2.1 (ab a.1) (u8 0))) (aN a.2.1))),())))))) (some (aE.ex 0 (V.1,V.2.1,())))) (0,bM (ab 8) (u8 0),())) (λ(a:ha)=>none) (λ(i:Nat) (a:ha)=>ak (bP i 0) (some (a.2.1,0,()))) λ(r:cw)=>some r)))
def Ao(x:tz):Option (cw):=letI b:=x.1.2.1;ob (L_ (x.1,())) λ(a:aQ)=>T (aZ a.1) (some (aP UInt8,1,())) (ob (uc (x.1.1,4,())) λ(a:cw)=>ob (ub (a.1,())) λ(a:cw)=>b_ (bC (λ(V:Om)=>letI c:=V.2.1;T (aF c (len b)) (ak (aK c (len b)) (ak (cj 32 (bF (aV V.1) (aV [(an b (ab c) (0,aP UInt8,())).1]))) (some (aE.nx (cm V.1 [(an b (ab c) (0,aP UInt8,())).1],i64 (aC c 1),()))))) (some (aE.ex 0 (V.1,c,())))) (aP Int,0,())) (λ(a:Om)=>none) (λ(i:Nat) (ba:Om)=>ak (bP i 0) (ob (Kk (ba.1,())) λ(b0:cw)=>ak (cj 1 (bF (aV a.1) (aV b0.1))) (b_ (bC (λ(V:cw)=>letI d:=V.2.1;T (aF d (len b)) (ak (aK d (len b)) (ob (F9 ((an b (ab d) (0,aP UInt8,())).1,(an b (ab d) (0,aP UInt8,())).2.1,())) λ(a:cw)=>ak (cj 1 (bF (aV V.1) (aV a.1))) (some (aE.nx (cm V.1 a.1,i64 (aC d 1),()))))) (some (aE.ex 2 (V.1,d,())))) (cm a.1 b0.1,0,())) (λ(a:cw)=>none) (λ(i:Nat) (a:cw)=>ak (bP i 2) (some (a.1,0,()))) λ(r:cw)=>some r))) λ(r:cw)=>some r)
def L9(x:c8):Option (kX):=ob (uE (x.1,1,())) λ(a:c8)=>ob (Am (x.1,())) λ(ba:aQ)=>ob (T (aZ ba.1) (some (true,())) (T (aZ (af a.1 0)) (some (aZ (af a.1 2),())) (some (false,())))) λ(a:aQ)=>T a.1 (some (0,false,())) (some (i64 (aC x.1 10),true,()))
def Od(x:List (Int×aa×Unit)×List (Int×aa×Unit)×Nat×Unit):Option (aQ):=letI c:=len x.1;T (aZ (af c (len x.2.1))) (some (false,())) (b_ (bC (λ(V:da)=>letI b:=V.2.1;T (aF b c) (ak (aK b c) (ak (aK b (len x.2.1)) (ak (bP x.2.2.1 1) (ob (L' (an x.1 (ab b) (0,aP UInt8,()),an x.2.1 (ab b) (0,aP UInt8,()),())) λ(a:aQ)=>T (aZ a.1) (some (aE.rt (false,()))) (some (aE.nx (V.1,i64 (aC b 1),()))))))) (some (aE.ex 0 (V.1,b,())))) (false,0,())) (λ(a:da)=>none) (λ(i:Nat) (a:da)=>ak (bP i 0) (some (true,()))) λ(r:aQ)=>some r)
def Hi(x:(Int×List (Int×aa×Unit)×Unit)×(Int×List (Int×aa×Unit)×Unit)×Unit):Option (aQ):=ob (T (af x.1.1 x.2.1.1) (ob (Od (x.1.2.1,x.2.1.2.1,1,())) λ(a:aQ)=>some (a.1,())) (some (false,()))) λ(a:aQ)=>some (a.1,())
def Hh(x:c8):Option (c8):=ob (Am (x.1,())) λ(a:aQ)=>T (aZ a.1) (some (0,())) (ob (uE (x.1,2,())) λ(a:c8)=>some (a.1,()))
def Mb(x:Wh):Option (c8):=some (x.1.1,())
def Dk(x:dk):Option (m0):=ob (xI (x.1,0,4,())) λ(a:tC)=>T (aZ (af a.2.2.1 0)) (some ((0,aP (Int×aa×Unit),()),a.2.2.1,())) (ob (ud (a.1,())) λ(ba:f6)=>ob (Am (ba.1,())) λ(b0:aQ)=>T (aZ b0.1) (some ((0,aP (Int×aa×Unit),()),2,())) (ob (XZ (x.1,a.2.1,())) λ(a:List Int×Int×Int×Unit)=>letI c:=len a.1;T (aZ (af a.2.2.1 0)) (some ((0,aP (Int×aa×Unit),()),a.2.2.1,())) (b_ (bC (λ(x:f6)=>letI f:=x.2.1;T (aF f c) (ak (aK f c) (ob (vT (an a.1 (ab f) 0,())) λ(a:tA)=>T (aZ a.2.1) (some (aE.rt ((0,aP (Int×aa×Unit),()),2,()))) (some (aE.nx (x.1,i64 (aC f 1),()))))) (some (aE.ex 0 (x.1,f,())))) (0,0,())) (λ(a:f6)=>none) (λ(i:Nat) (bq:f6)=>ak (bP i 0) (b_ (bC (λ(V:ahr)=>letI b:=V.2.2;letI e:=b.2.1;T (aF b.1 c) (ak (aK b.1 c) (ob (Lc (an a.1 (ab b.1) 0,x.1,V.2.1,())) λ(dc:tC)=>letI d:=(an a.1 (ab b.1) 0,dc.1,());T (aZ (af dc.2.2.1 0)) (some (aE.rt ((0,aP (Int×aa×Unit),()),dc.2.2.1,()))) (ak (cj 56 (bF (aV e.2.1) (aV [d]))) (some (aE.nx (V.1,dc.2.1,i64 (aC b.1 1),(e.1,cm e.2.1 [d],e.2.2),())))))) (some (aE.ex 2 (V.1,V.2.1,b.1,(e.1,e.2.1,e.2.2),())))) (bq.1,a.2.1,0,(ba.1,aP (Int×aa×Unit),()),())) (λ(a:ahr)=>none) (λ(i:Nat) (a:Int×Int×Int × (Int×List (Int×aa×Unit)×Unit)×Unit)=>letI g:=a.2.2.2.1;ak (bP i 2) (T (aF a.2.1 (len x.1)) (some ((0,aP (Int×aa×Unit),()),4,())) (some ((g.1,g.2.1,g.2.2),0,())))) λ(r:m0)=>some r)) λ(r:m0)=>some r)))
def Ma(x:tz):Option (Wa):=some ((x.1.2.1,1,()),())
def Hk(x:(List (Int×aa×Unit)×Nat×Unit)×Int×Unit):Option (kX):=b_ (bC (λ(V:Wi)=>letI b:=V.2.2.1;T (aF b (len x.1.1)) (ak (aK b (len x.1.1)) (ak (bP x.1.2.1 1) (ob (Mb (an x.1.1 (ab b) (0,aP UInt8,()),())) λ(a:c8)=>T (b? x.2.1 a.1) (some (aE.rt (b,af a.1 x.2.1,()))) (some (aE.nx (V.1,V.2.1,i64 (aC b 1),())))))) (some (aE.ex 0 (V.1,V.2.1,b,())))) (0,false,0,())) (λ(a:Wi)=>none) (λ(i:Nat) (a:Wi)=>ak (bP i 0) (some (len x.1.1,false,()))) λ(r:kX)=>some r
def Oc(x:List (List (Int×aa×Unit))×Unit):Option (re):=letI c:=aP (Int×aa×Unit);letI d:=len x.1;b_ (bC (λ(V:f6)=>letI h:=V.2.1;letI e:=aC V.1 (len (an x.1 (ab h) c));T (aF h d) (ak (aK h d) (T (aF (i64 e) 0) none (some (aE.nx (i64 e,i64 (aC h 1),()))))) (some (aE.ex 0 (V.1,h,())))) (0,0,())) (λ(a:f6)=>none) (λ(i:Nat) (a:f6)=>letI b:=i64 (bg a.1 (i64 (bg 0 0)));ak (bP i 0) (T (aF a.1 0) none (T (aF 0 b) (ak (b5 0 0 0) (ak (cV (b? 0 b) (cj 56 (ab b))) (ak (b5 0 0 (len (bM (ab b) (0,aP UInt8,())))) (b_ (bC (λ(V:EM)=>letI j:=V.2.1;letI f:=an x.1 (ab j) c;T (aF j d) (ak (aK j d) (ak (cj 56 (bF (aV V.1) (aV f))) (some (aE.nx (cm V.1 f,i64 (aC j 1),()))))) (some (aE.ex 2 (V.1,j,())))) (cut (bM (ab b) (0,aP UInt8,())) (ab 0) (ce (ab 0) (ab 0)),0,())) (λ(a:EM)=>none) (λ(i:Nat) (a:EM)=>ak (bP i 2) (some (a.1,()))) λ(r:re)=>some r)))) (b_ (bC (λ(V:EM)=>letI k:=V.2.1;letI g:=an x.1 (ab k) c;T (aF k d) (ak (aK k d) (ak (cj 56 (bF (aV V.1) (aV g))) (some (aE.nx (cm V.1 g,i64 (aC k 1),()))))) (some (aE.ex 2 (V.1,k,())))) (aP (Int×aa×Unit),0, ())) (λ(a:EM)=>none) (λ(i:Nat) (a:EM)=>ak (bP i 2) (some (a.1,()))) λ(r:re)=>some r)))) λ(r:re)=>some r
def TK(x:(List (Int×aa×Unit)×Nat×Unit)×(Int×aa×Unit)×Unit):Option (re):=letI b:=len x.1.1;ak (bP x.1.2.1 1) (ob (Mb (x.2.1,())) λ(a:c8)=>ob (Hk (x.1,a.1,())) λ(a:kX)=>ob (T a.2.1 (some (i64 (aC a.1 1),())) (some (a.1,()))) λ(ba:c8)=>ak (b5 0 a.1 b) (ak (b5 ba.1 b b) (ob (Oc ([sub x.1.1 0 a.1,[x.2.1],sub x.1.1 ba.1 b],())) λ(a:re)=>some (a.1,()))))
def ko(x:(Int×List (Int×aa×Unit)×Unit)×Int×aa×Unit):Option (m0):=ob (vT (x.2.1,())) λ(a:tA)=>T (aZ a.2.1) (some (x.1,12,())) (ob (vS (x.2.1,x.2.2.1,())) λ(a:aQ)=>T (aZ a.1) (some (x.1,1,())) (ob (Ma (x.1,())) λ(a:Wa)=>ob (TK (a.1,(x.2.1,x.2.2.1,()),())) λ(a:re)=>some ((x.1.1,a.1,x.1.2.2),0,())))
def qU(x:m0):Option (qk):=ob (Ma (x.1,())) λ(a:Wa)=>ob (Hk (a.1,x.2.1,())) λ(a:kX)=>T (aZ a.2.1) (some (aP UInt8,false,())) (ak (aK a.1 (len x.1.2.1)) (some ((an x.1.2.1 (ab a.1) (0,aP UInt8,())).2.1,true,())))
def Nf(x:c8):Option (aQ):=letI b:=some (false,());ob (T (b? 100 x.1) (T (b? x.1 899) (T (b? (ej (i64 (ga x.1 10)) 10) 4) (some (b? (ej x.1 10) 5,())) b) b) b) λ(a:aQ)=>some (a.1,())
def Nd(x:tz):Option (aQ):=letI d:=x.1.2.1;letI b:=len d;b_ (bC (λ(V:da)=>letI c:=V.2.1;letI e:=aK c b;letI f:=i64 (bg c 1);T (aF c b) (ak e (ak e (ob (M' ((an d (ab c) (0,aP UInt8,())).1,(an d (ab c) (0,aP UInt8,())).2.1,())) λ(a:aQ)=>ob (T (aZ a.1) (some (true,())) (T (aF 0 c) (ak (aK f b) (ak e (some (b? (an d (ab c) (0,aP UInt8,())).1 (an d (ab f) (0,aP UInt8,())).1,())))) (some (false,())))) λ(a:aQ)=>T a.1 (some (aE.rt (false,()))) (some (aE.nx (V.1,i64 (aC c 1),())))))) (some (aE.ex 0 (V.1,c,())))) (false,0,())) (λ(a:da)=>none) (λ(i:Nat) (a:da)=>ak (bP i 0) (ob (Nf (x.1.1,())) λ(a:aQ)=>some (a.1,()))) λ(r:aQ)=>some r
def Nb(x:ql):Option (aQ):=letI d:=some (true,());letI f:=len x.1;b_ (bC (λ(V:da)=>letI e:=V.2.1;letI b:=an x.1 (ab e) 0;letI c:=aK e f;letI g:=i64 (bg e 1);T (aF e f) (ak c (ob (T (aF b 2) d (ak c (T (aF 128 b) d (ak c (T (af b 65) d (T (aF 0 e) (ak (aK g f) (ak c (some (b? b (an x.1 (ab g) 0),())))) (some (false,())))))))) λ(a:aQ)=>T a.1 (some (aE.rt (false,()))) (some (aE.nx (V.1,i64 (aC e 1),()))))) (some (aE.ex 0 (V.1,e,())))) (false,0,())) (λ(a:da)=>none) (λ(i:Nat) (a:da)=>ak (bP i 0) d) λ(r:aQ)=>some r
def D8(x:c8):Option (Bo):=letI b:=i64 (bg x.1 1);ob (T (aF x.1 1) (some (true,())) (some (aF 128 x.1,()))) λ(a:aQ)=>T a.1 (some (0,u8 0,())) (b_ (bC (λ(V:f6)=>T (aF V.2.1 (ej b 8)) (some (aE.nx (i64 (ga V.1 2),i64 (aC V.2.1 1),()))) (some (aE.ex 0 (V.1,V.2.1,())))) (128,0,())) (λ(a:f6)=>none) (λ(i:Nat) (a:f6)=>ak (bP i 0) (some (i64 (ga b 8),u8 a.1,()))) λ(r:Bo)=>some r)
def Nc(x:ql):Option (cw):=letI b:=cm (aP Int) x.1;letI c:=len x.1;letI f:=cm b [1];letI g:=i64 (bg c 1);ob (Nb (x.1,())) λ(a:aQ)=>T (aZ a.1) (some (aP UInt8,1,())) (ak (cj 32 (bF (aV (aP Int)) (aV x.1))) (ob (T (aF 0 c) (ak (aK g c) (some (aF 64 (an x.1 (ab g) 0),()))) (some (false,()))) λ(a:aQ)=>T a.1 (ak (cj 32 (bF (aV b) (aV [1]))) (ak (cV (b5 0 16 16) (cj 1 (ab 16))) (b_ (bC (λ(V:ha)=>T (aF V.1 (len f)) (ak (aK V.1 (len f)) (ob (D8 (an f (ab V.1) 0,())) λ(a:Bo)=>letI d:=aK a.1 (len V.2.1);ak d (ak d (some (aE.nx (i64 (aC V.1 1),cg V.2.1 (ab a.1) (u8 (aC (aN (an V.2.1 (ab a.1) (u8 0))) (aN a.2.1))),())))))) (some (aE.ex 0 (V.1,V.2.1,())))) (0,bM (ab 16) (u8 0),())) (λ(a:ha)=>none) (λ(i:Nat) (a:ha)=>ak (bP i 0) (some (a.2.1,0,()))) λ(r:cw)=>some r))) (ak (cV (b5 0 8 8) (cj 1 (ab 8))) (b_ (bC (λ(V:ha)=>T (aF V.1 (len b)) (ak (aK V.1 (len b)) (ob (D8 (an b (ab V.1) 0,())) λ(a:Bo)=>letI e:=aK a.1 (len V.2.1);ak e (ak e (some (aE.nx (i64 (aC V.1 1),cg V.2.1 (ab a.1) (u8 (aC (aN (an V.2.1 (ab a.1) (u8 0))) (aN a.2.1))),())))))) (some (aE.ex 0 (V.1,V.2.1,())))) (0,bM (ab 8) (u8 0),())) (λ(a:ha)=>none) (λ(i:Nat) (a:ha)=>ak (bP i 0) (some (a.2.1,0,()))) λ(r:cw)=>some r))))
def Ng(x:c8):Option (dk):=ob (yC (x.1,4,())) λ(a:cw)=>some (a.1,())
def D9(x:tz):Option (cw):=letI c:=x.1.2.1;ob (Nd (x.1,())) λ(a:aQ)=>T (aZ a.1) (some (aP UInt8,1,())) (b_ (bC (λ(V:Wg)=>letI b:=V.2.2.1;letI d:=aK b (len c);T (aF b (len c)) (ak d (ak d (ob (Ik ((an c (ab b) (0,aP UInt8,())).1,(an c (ab b) (0,aP UInt8,())).2.1,())) λ(a:cw)=>ak d (ak (cj 32 (bF (aV V.1) (aV [(an c (ab b) (0,aP UInt8,())).1]))) (ak (cj 1 (bF (aV V.2.1) (aV a.1))) (some (aE.nx (cm V.1 [(an c (ab b) (0,aP UInt8,())).1],cm V.2.1 a.1,i64 (aC b 1),())))))))) (some (aE.ex 0 (V.1,V.2.1,b,())))) (aP Int,aP UInt8,0,())) (λ(a:Wg)=>none) (λ(i:Nat) (a:Wg)=>ak (bP i 0) (ob (Nc (a.1,())) λ(ba:cw)=>ob (Ng (x.1.1,())) λ(b0:dk)=>ob (u5 (b0.1,())) λ(bq:cw)=>letI e:=cm bq.1 ba.1;ak (cj 1 (bF (aV bq.1) (aV ba.1))) (ak (cj 1 (bF (aV e) (aV a.2.1))) (some (cm e a.2.1,0,()))))) λ(r:cw)=>some r)
def Uy(x:yT):Option (aQ):=some (false,())
def Ux(x:yT):Option (Nat×Unit):=letI b:=some (true,());letI c:=x.1.2.1;letI d:=some (x.1.1,());letI e:=some (false,());ob (T (af c 101) d e) λ(a:aQ)=>T a.1 (some (1,())) (ob (T (af c 201) d e) λ(a:aQ)=>T a.1 (some (2,())) (ob (T (af c 1) b (T (af c 2) b (T (af c 101) b (T (af c 201) b (some (af c 301,())))))) λ(a:aQ)=>T a.1 (some (3,())) (some (4,()))))
def HT(x:yT):Option (aQ):=letI b:=some (true,());letI c:=x.1.2.2;letI e:=some (false,());ob (T (aF c.1 1) b (T (aF 999999 c.1) b (T (aF c.2.1 0) b (T (aF 99 c.2.1) b (T x.1.1 (some (aF 0 c.2.1,())) e))))) λ(a:aQ)=>T a.1 e (ob (Ux (x.1,())) λ(a:Nat×Unit)=>letI d:=ce a.1 1;T (bP a.1 1) (ob (Uw (x.1,())) λ(a:aQ)=>some (a.1,())) (T (bP d 1) (ob (Uv (x.1,())) λ(a:aQ)=>some (a.1,())) (T (bP (ce d 1) 1) (ob (MG (x.1,())) λ(a:aQ)=>some (a.1,())) (ak (bP (ce (ce d 1) 1) 1) (ob (Uy (x.1,())) λ(a:aQ)=>some (a.1,()))))))
def q2(x:f6):Option (dk):=ob (uc (x.1,x.2.1,())) λ(a:cw)=>ak (cj 1 (aV a.1)) (some (a.1,()))
def DK(x:yT):Option (tz):=letI b:=x.1.2;letI c:=b.2.2.2;ob (q2 (b.2.1,6,())) λ(a:dk)=>ob (ko ((810,aP (Int×aa×Unit),()),11,a.1,())) λ(a:m0)=>ob (q2 (b.1,3,())) λ(ba:dk)=>ob (ko (a.1,70,ba.1,())) λ(a:m0)=>T (aZ x.1.1) (ob (q2 (b.2.2.1,2,())) λ(b0:dk)=>ob (ko (a.1,39,b0.1,())) λ(a:m0)=>some (a.1,())) (T (af b.1 101) (ob (FW (c.2.2.1,())) λ(b0:dk)=>ak (cj 1 (aV b0.1)) (ob (ko ((800,a.1.2),48,b0.1,())) λ(a:m0)=>ob (q2 (c.1,16,())) λ(bq:dk)=>ob (ko (a.1,53,bq.1,())) λ(a:m0)=>ob (ko (a.1,96,c.2.1,())) λ(a:m0)=>some (a.1,()))) (T (af b.1 201) (ob (q2 (c.2.2.2.1,6,())) λ(b0:dk)=>ob (ko ((800,a.1.2),15,b0.1,())) λ(a:m0)=>some (a.1,())) (some ((800,a.1.2),()))))
def p'(x:yT):Option (cw):=ob (HT (x.1,())) λ(a:aQ)=>T (aZ a.1) (some (aP UInt8,1,())) (ob (DK (x.1,())) λ(a:tz)=>ob (Ao (a.1,())) λ(a:cw)=>some (a.1,a.2.1,()))
def q1(x:Wy):Option (Wy):=T (aZ x.1.1) (some ((false,0,0,0,0,aP UInt8,aP UInt8,0,()),9,())) (ob (T (aF x.2.1 0) (some (true,())) (some (aF 99 x.2.1,()))) λ(a:aQ)=>T a.1 (some ((false,0,0,0,0,aP UInt8,aP UInt8,0,()),1,())) (some ((false,x.1.2.1,x.1.2.2.1,x.2.1,0,aP UInt8,aP UInt8,0,()),0,())))
def DJ(x:dk):Option (Wy):=ob (Dk (x.1,())) λ(a:m0)=>T (aZ (af a.2.1 0)) (some ((false,0,0,0,0,aP UInt8,aP UInt8,0,()),a.2.1,())) (ob (qU (a.1,70,())) λ(ba:qk)=>ob (ud (ba.1,())) λ(b0:f6)=>ob (qU (a.1,11,())) λ(bq:qk)=>ob (ud (bq.1,())) λ(dc:f6)=>ob (qU (a.1,39,())) λ(fE:qk)=>ob (ud (fE.1,())) λ(kH:f6)=>ob (qU (a.1,53,())) λ(i7:qk)=>ob (ud (i7.1,())) λ(sA:f6)=>ob (qU (a.1,15,())) λ(zp:qk)=>ob (ud (zp.1,())) λ(sz:f6)=>ob (qU (a.1,96,())) λ(zo:qk)=>ob (qU (a.1,48,())) λ(ai5:qk)=>ob (FX (ai5.1,())) λ(PN:cw)=>letI b:=(af a.1.1 800,b0.1,dc.1,kH.1,sA.1,zo.1,PN.1,sz.1,());ob (HT (b,())) λ(ai6:aQ)=>T (aZ ai6.1) (some ((false,0,0,0,0,aP UInt8,aP UInt8,0,()),2,())) (ob (DK (b,())) λ(PO:tz)=>ob (Hi (PO.1,a.1,())) λ(PP:aQ)=>T (aZ PP.1) (some ((false,0,0,0,0,aP UInt8,aP UInt8,0,()),2,())) (some (b,0,()))))
end Yp
namespace Yp
abbrev e?:= (Int×aa×Unit)×(Int×aa×Unit)×(Int×aa×Unit)×Int×Int×Unit
abbrev ef:=List Bool×List (aa×Int×Int×Unit)×List Int×Int×Unit
abbrev dw:=Bool×List (aa×aa×Unit)×Bool×Unit
abbrev gB:=Int×Int×Int×Int×aa×Unit
abbrev d':=Bool×Int×Int×Int×Int×aa×aa×Int×Unit
abbrev dr:=Int×Int×List Int×Int×Int×aa×aa×Unit
abbrev pJ:=Int×aa×Int×(aa×aa×Unit)×Int×Int×Int×Int×Int×(Int×List UInt64×Unit)×e?×gB×Int×Int×List aa×ef×List (Int×aa×Unit)×List (Int×List Int×Int×aa×Unit)×List Int×Unit
abbrev fa:=pJ×dw×Unit
end Yp
namespace Yp
abbrev BP:List UInt64:=[u64 0,u64 0,u64 0,u64 0,u64 0,u64 0,u64 0,u64 0,u64 0,u64 0,u64 0,u64 0,u64 0,u64 0,u64 0,u64 0]
abbrev vl:aa×Int×Int×Unit:=(aP UInt8,0,0,())
abbrev W7:ef:=([false,false,false,false],[vl,vl,vl,vl],[0,0,0,0],0,())
abbrev ke:Int×aa×Unit:=(0,aP UInt8,())
abbrev EU:e?:=(ke,ke,ke,0,0,())
abbrev m6:gB:=(0,0,0,0,aP UInt8,())
abbrev kD:pJ:=(0,aP UInt8,0,(aP UInt8,aP UInt8,()),0,0,0,0,0,(0,BP,()),EU,m6,0,0,aP aa,W7,aP (Int×aa×Unit),aP (Int×List Int×Int×aa×Unit),[0,0,0,0],())
abbrev eR:Int×Int×aa×Unit:=(0,0,aP UInt8,())
abbrev oj:dr:=(0,0,[0,0],0,0,aP UInt8,aP UInt8,())
end Yp
namespace Yp
abbrev bL:=fa×Unit
abbrev fo:=fa×Int×Unit
abbrev rr:=d'×Int×Unit
abbrev E_:=((pJ×Unit)×fa×Unit)×Unit
abbrev tV:=e?×Int×Unit
abbrev Xt:=pJ×List (Int×aa×Unit)×List (Int×List Int×Int×aa×Unit)×Unit
abbrev xp:=fa×d'×Unit
abbrev vC:=ef×Int×Unit
abbrev tW:=e?×Unit
abbrev B5:=Int×fa×Unit
abbrev B6:=fa×aa×Unit
abbrev JW:=fa×Int×Int×Unit
abbrev Pv:=gB×Bool×Bool×Unit
abbrev Pw:=ef×Int×Int×Unit
abbrev B7:=pJ×Unit
abbrev Px:=dw×Bool×Unit
end Yp
namespace Yp
open Go
def Kq(x:dk):Option (dk):=ak (cj 1 (aV x.1)) (some (x.1,()))
def ag2(x:I7):Option (I7):=ak (cj 32 (aV x.1)) (some (x.1,()))
def Ic(x:dw×aa×aa×Unit):Option (aQ):=some (x.1.2.1.any λe=>cV (seq x.2.1 e.1) (seq x.2.2.1 e.2.1),())
def Ig(x:List aa×List aa×Int×Unit):Option (List aa×Int×Int×Unit):=if x.2.2.1<1\/64<x.2.2.1 then some (x.1,0,1,()) else if x.2.2.1<(x.1.length:Int) then some (x.1,0,0,()) else some (x.1++x.2.1.take (x.2.2.1.toNat-x.1.length),((min (x.2.2.1.toNat-x.1.length) x.2.1.length:Nat):Int),0,())
def Au(x:Int×List Int×Unit):Option (aQ):=letI c:=some (true,());b_ (bC (λ(V:da)=>letI d:=V.2.1;letI b:=an x.2.1 (ab d) 0;T (aF d (len x.2.1)) (ak (aK d (len x.2.1)) (ob (T (aF b 0) c (some (aF x.1 b,()))) λ(a:aQ)=>T a.1 (some (aE.rt (false,()))) (some (aE.nx (V.1,i64 (aC d 1),()))))) (some (aE.ex 0 (V.1,d,())))) (false,0,())) (λ(a:da)=>none) (λ(i:Nat) (a:da)=>ak (bP i 0) c) λ(r:aQ)=>some r
def n4(x:B7):Option (ql):=letI b:=i64 (bg 1 x.1.1);ob (Au (1,[x.1.1],())) λ(a:aQ)=>T a.1 (ak (aK x.1.1 (bb 2)) (ak (aK b (bb 2)) (some (cg (cg [0,0] (ab x.1.1) x.1.2.2.2.2.2.1) (ab b) x.1.2.2.2.2.2.2.1,())))) (some ([0,0],()))
def Hw(x:dk):Option (aQ):=ob (T (b? 1 (len x.1)) (some (b? (len x.1) 900,())) (some (false,()))) λ(a:aQ)=>some (a.1,())
def AV(x:c8):Option (c8):=T (af x.1 0) (some (0,())) (T (af x.1 1) (some (1,())) (T (af x.1 2) (some (2,())) (T (af x.1 3) (some (3,())) (T (af x.1 4) (T (af x.1 4) (some (4,())) (T (af x.1 6) (some (5,())) (some (-1,())))) (T (af x.1 5) (some (4,())) (T (af x.1 6) (some (5,())) (some (-1,()))))))))
def u0(x:c8):Option (aQ):=ob (AV (x.1,())) λ(a:c8)=>some (b? 2 a.1,())
def Ts(x:ef×Unit):Option (Pw):=b_ (bC (λ(V:EB)=>letI c:=V.2.2.1;letI b:=i64 (aC x.1.2.2.2.1 c);letI d:=ej b 4;T (aF c 4) (ak (aK d (bb 4)) (T (an x.1.1 (ab d) false) (some (aE.rt ((x.1.1,x.1.2.1,x.1.2.2.1,ej (i64 (aC d 1)) 4,x.1.2.2.2.2),ej b 4,0,()))) (some (aE.nx (V.1,V.2.1,i64 (aC c 1),()))))) (some (aE.ex 0 (V.1,V.2.1,c,())))) (0,0,0,())) (λ(a:EB)=>none) (λ(i:Nat) (a:EB)=>ak (bP i 0) (some (x.1,0,11,()))) λ(r:Pw)=>some r
def CH(x:f6):Option (aQ):=ob (T (b? 0 x.1) (some (b? x.1 x.2.1,())) (some (false,()))) λ(a:aQ)=>some (a.1,())
def F3(x:dr×Unit):Option (aQ):=letI b:=some (false,());letI c:=x.1.2.2;letI e:=len c.2.2.2.1;ob (T (aZ (af x.1.1 1)) (some (aZ (af x.1.1 2),())) b) λ(a:aQ)=>T a.1 b (ak (aK 0 (bb 2)) (ak (aK 1 (bb 2)) (b_ (bC (λ(V:da)=>letI d:=V.2.1;T (aF d 3) (ak (aK d (bb 3)) (ob (CH (an [an c.1 (ab 0) 0,an c.1 (ab 1) 0,c.2.2.1] (ab d) 0,4611686018427387904,())) λ(a:aQ)=>T (aZ a.1) (some (aE.rt (false,()))) (some (aE.nx (V.1,i64 (aC d 1),()))))) (some (aE.ex 0 (V.1,d,())))) (false,0,())) (λ(a:da)=>none) (λ(i:Nat) (a:da)=>ak (bP i 0) (ob (CH (x.1.2.1,1,())) λ(a:aQ)=>ob (T a.1 (ob (CH (c.2.1,2147483647,())) λ(a:aQ)=>T a.1 (T (b? 1 e) (some (b? e 900,())) b) b) b) λ(a:aQ)=>some (a.1,()))) λ(r:aQ)=>some r)))
def xM(x:dr×Unit):Option (cw):=letI b:=x.1.2.2;letI c:=len [an b.1 (ab 0) 0,an b.1 (ab 1) 0];letI d:=len [x.1.1,x.1.2.1];letI e:=b.2.2;letI f:=len [b.2.1];ob (F3 (x.1,())) λ(a:aQ)=>T (aZ a.1) (some (aP UInt8,1,())) (b_ (bC (λ(V:ha)=>T (aF V.1 d) (ak (aK V.1 d) (ob (pT (an [x.1.1,x.1.2.1] (ab V.1) 0,1,())) λ(a:cw)=>ak (cj 1 (bF (aV V.2.1) (aV a.1))) (some (aE.nx (i64 (aC V.1 1),cm V.2.1 a.1,()))))) (some (aE.ex 0 (V.1,V.2.1,())))) ke) (λ(a:ha)=>none) (λ(i:Nat) (a:ha)=>ak (bP i 0) (ak (aK 0 (bb 2)) (ak (aK 1 (bb 2)) (b_ (bC (λ(V:ha)=>T (aF V.1 c) (ak (aK V.1 c) (ob (pT (an [an b.1 (ab 0) 0,an b.1 (ab 1) 0] (ab V.1) 0,8,())) λ(a:cw)=>ak (cj 1 (bF (aV V.2.1) (aV a.1))) (some (aE.nx (i64 (aC V.1 1),cm V.2.1 a.1,()))))) (some (aE.ex 0 (V.1,V.2.1,())))) (0,a.2.1,())) (λ(a:ha)=>none) (λ(i:Nat) (a:ha)=>ak (bP i 0) (b_ (bC (λ(V:ha)=>T (aF V.1 f) (ak (aK V.1 f) (ob (pT (an [b.2.1] (ab V.1) 0,4,())) λ(a:cw)=>ak (cj 1 (bF (aV V.2.1) (aV a.1))) (some (aE.nx (i64 (aC V.1 1),cm V.2.1 a.1,()))))) (some (aE.ex 0 (V.1,V.2.1,())))) (0,a.2.1,())) (λ(a:ha)=>none) (λ(i:Nat) (a:ha)=>ak (bP i 0) (b_ (bC (λ(V:ha)=>T (aF V.1 (len [e.1])) (ak (aK V.1 (len [e.1])) (ob (pT (an [e.1] (ab V.1) 0,8,())) λ(a:cw)=>ak (cj 1 (bF (aV V.2.1) (aV a.1))) (some (aE.nx (i64 (aC V.1 1),cm V.2.1 a.1,()))))) (some (aE.ex 0 (V.1,V.2.1,())))) (0,a.2.1,())) (λ(a:ha)=>none) (λ(i:Nat) (a:ha)=>ak (bP i 0) (ak (cj 1 (bF (aV a.2.1) (aV e.2.1))) (some (cm a.2.1 e.2.1,0,())))) λ(r:Unit)=>none)) λ(r:Unit)=>none)) λ(r:Unit)=>none)))) λ(r:Unit)=>none)
def Dx(x:I_):Option (aQ):=letI c:=len x.1;T (aZ (af c (len x.2.1))) (some (false,())) (b_ (bC (λ(V:V_)=>letI b:=V.2.1;T (aF b c) (ak (aK b c) (ak (aK b (len x.2.1)) (some (aE.nx (u8 (g? IntKind.u8 (aN V.1) (aN (u8 (fO IntKind.u8 (aN (an x.1 (ab b) (u8 0))) (aN (an x.2.1 (ab b) (u8 0))))))),i64 (aC b 1),()))))) (some (aE.ex 0 (V.1,b,())))) (u8 0,0,())) (λ(a:V_)=>none) (λ(i:Nat) (a:V_)=>ak (bP i 0) (some (af (aN a.1) (aN (u8 0)),()))) λ(r:aQ)=>some r)
def Oa(x:We):Option (We):=letI a:=len x.1;ak (cV (b5 0 a a) (af a a)) (some (sub x.1 0 a,()))
def la(x:UInt32×Int×Unit):Option (tx):=letI a:=cz (u64 (i9 IntKind.u64 (cz (u64 x.2.1)) (cz (u64 31))));some (u32 (g? IntKind.u32 (a3 (u32 (hU IntKind.u32 (a3 x.1) a))) (a3 (u32 (fB IntKind.u32 (a3 x.1) (cz (u64 (bg (cz (u64 32)) a))))))),())
def N1(x:dk):Option (V'):=letI f:=len x.1;b_ (bC (λ(V:w3)=>letI b:=i64 (fr 4 V.1);letI c:=i64 (bg V.1 15);letI d:=i64 (bg V.1 2);letI e:=V.2.1;letI g:=i64 (bg V.1 16);letI h:=aK V.1 (bb 64);letI j:=i64 (bg V.1 7);letI k:=i64 (aC b 1);letI l:=i64 (aC b 2);letI m:=i64 (aC b 3);T (aF V.1 64) (T (aF V.1 16) (ak (aK b f) (ak (aK k f) (ak (aK l f) (ak (aK m f) (ak h (some (aE.nx (i64 (aC V.1 1),cg e (ab V.1) (u32 (g? IntKind.u32 (a3 (u32 (g? IntKind.u32 (a3 (u32 (g? IntKind.u32 (a3 (u32 (hU IntKind.u32 (a3 (u32 (aN (an x.1 (ab b) (u8 0))))) (cz (u64 24))))) (a3 (u32 (hU IntKind.u32 (a3 (u32 (aN (an x.1 (ab k) (u8 0))))) (cz (u64 16)))))))) (a3 (u32 (hU IntKind.u32 (a3 (u32 (aN (an x.1 (ab l) (u8 0))))) (cz (u64 8)))))))) (a3 (u32 (aN (an x.1 (ab m) (u8 0))))))),())))))))) (ak (aK c (bb 64)) (ak (aK d (bb 64)) (ob (la (an e (ab c) (u32 0), -7,())) λ(a:tx)=>ob (la (an e (ab c) (u32 0), -18,())) λ(ba:tx)=>ob (la (an e (ab d) (u32 0), -17,())) λ(b0:tx)=>ob (la (an e (ab d) (u32 0), -19,())) λ(bq:tx)=>ak (aK j (bb 64)) (ak (aK g (bb 64)) (ak h (some (aE.nx (i64 (aC V.1 1),cg e (ab V.1) (u32 (aC (a3 (u32 (aC (a3 (u32 (aC (a3 (u32 (fO IntKind.u32 (a3 (u32 (fO IntKind.u32 (a3 b0.1) (a3 bq.1)))) (a3 (u32 (fB IntKind.u32 (a3 (an e (ab d) (u32 0))) (cz (u64 10)))))))) (a3 (an e (ab j) (u32 0)))))) (a3 (u32 (fO IntKind.u32 (a3 (u32 (fO IntKind.u32 (a3 a.1) (a3 ba.1)))) (a3 (u32 (fB IntKind.u32 (a3 (an e (ab c) (u32 0))) (cz (u64 3))))))))))) (a3 (an e (ab g) (u32 0))))),()))))))))) (some (aE.ex 0 (V.1,e,())))) (0,[u32 0,u32 0,u32 0,u32 0,u32 0,u32 0,u32 0,u32 0,u32 0,u32 0,u32 0,u32 0,u32 0,u32 0,u32 0,u32 0,u32 0,u32 0,u32 0,u32 0,u32 0,u32 0,u32 0,u32 0,u32 0,u32 0,u32 0,u32 0,u32 0,u32 0,u32 0,u32 0,u32 0,u32 0,u32 0,u32 0,u32 0,u32 0,u32 0,u32 0,u32 0,u32 0,u32 0,u32 0,u32 0,u32 0,u32 0,u32 0,u32 0,u32 0,u32 0,u32 0,u32 0,u32 0,u32 0,u32 0,u32 0,u32 0,u32 0,u32 0,u32 0,u32 0,u32 0,u32 0],()))
 (λ(a:w3)=>none) (λ(i:Nat) (a:w3)=>ak (bP i 0) (some (a.2.1,()))) λ(r:V')=>some r
def N0(x:List UInt32×aa×Unit):Option (I8):=letI l:=aK 4 (bb 8);letI p:=aK 0 (bb 8);letI q:=aK 1 (bb 8);letI s:=aK 2 (bb 8);T (aZ (af (len x.2.1) 64)) (some (x.1,1,())) (ob (N1 (x.2.1,())) λ(a:V')=>b_ (bC (λ(x:w3)=>letI n:=ab x.1;letI c:=x.2.1;letI d:=ea c (ab 1) (ce (ab (bb 8)) (ab 1)) (cut c (ab 0) (ce (ab 7) (ab 0)));letI e:=a3 (an a.1 n (u32 0));letI g:=a3 (an c (ab 4) (u32 0));letI h:=a3 (an c (ab 0) (u32 0));letI j:=a3 (an c (ab 1) (u32 0));letI k:=a3 (an c (ab 2) (u32 0));letI m:=aK x.1 (bb 64);T (aF x.1 64) (ak m (ak p (ak l (ob (la (an c (ab 4) (u32 0), -6,())) λ(ba:tx)=>ob (la (an c (ab 4) (u32 0), -11,())) λ(b0:tx)=>ob (la (an c (ab 4) (u32 0), -25,())) λ(bq:tx)=>letI b:=a3 (u32 (aC (a3 (u32 (aC (a3 (an c (ab 7) (u32 0))) (a3 (u32 (fO IntKind.u32 (a3 (u32 (fO IntKind.u32 (a3 ba.1) (a3 b0.1)))) (a3 bq.1))))))) (a3 (u32 (fO IntKind.u32 (a3 (u32 (i9 IntKind.u32 g (a3 (an c (ab 5) (u32 0)))))) (a3 (u32 (i9 IntKind.u32 (a3 (u32 (fO IntKind.u32 4294967295 g))) (a3 (an c (ab 6) (u32 0)))))))))));ob (la (an c (ab 0) (u32 0), -2,())) λ(dc:tx)=>ob (la (an c (ab 0) (u32 0), -13,())) λ(fE:tx)=>ob (la (an c (ab 0) (u32 0), -22,())) λ(kH:tx)=>ak (aK 7 (bb 8)) (ak (aK 5 (bb 8)) (ak (aK 6 (bb 8)) (ak m (ak q (ak s (ak q (ak s (ak (b5 1 (bb 8) (bb 8)) (ak (b5 0 7 (bb 8)) (ak l (ak l (ak p (some (aE.nx (i64 (aC x.1 1),cg (cg d (ab 4) (u32 (aC (a3 (an d (ab 4) (u32 0))) (a3 (u32 (aC (a3 (u32 (aC b (a3 (an (an [p8] 0 [u32 0,u32 0,u32 0,u32 0,u32 0,u32 0,u32 0, u32 0,u32 0,u32 0,u32 0,u32 0,u32 0,u32 0,u32 0,u32 0,u32 0,u32 0,u32 0,u32 0,u32 0,u32 0,u32 0,u32 0,u32 0,u32 0,u32 0,u32 0,u32 0,u32 0,u32 0,u32 0,u32 0,u32 0,u32 0,u32 0,u32 0,u32 0,u32 0,u32 0,u32 0,u32 0,u32 0,u32 0,u32 0,u32 0,u32 0,u32 0,u32 0,u32 0,u32 0,u32 0,u32 0,u32 0,u32 0,u32 0,u32 0,u32 0,u32 0,u32 0,u32 0,u32 0,u32 0,u32 0]) n (u32 0)))))) e)))))) (ab 0) (u32 (aC (a3 (u32 (aC (a3 (u32 (aC b (a3 (an (an [p8] 0 [u32 0,u32 0,u32 0,u32
 0,u32 0,u32 0,u32 0,u32 0,u32 0,u32 0,u32 0,u32 0,u32 0,u32 0,u32 0,u32 0,u32 0,u32 0,u32 0,u32 0,u32 0,u32 0,u32 0,u32 0,u32 0,u32 0,u32 0,u32 0,u32 0,u32 0,u32 0,u32 0,u32 0,u32 0,u32 0,u32 0,u32 0,u32 0,u32 0,u32 0,u32 0,u32 0,u32 0,u32 0,u32 0,u32 0,u32 0,u32 0,u32 0,u32 0,u32 0,u32 0,u32 0,u32 0,u32 0,u32 0,u32 0,u32 0,u32 0,u32 0,u32 0,u32 0,u32 0,u32 0]) n (u32 0)))))) e))) (a3 (u32 (aC (a3 (u32 (fO IntKind.u32 (a3 (u32 (fO IntKind.u32 (a3 dc.1) (a3 fE.1)))) (a3 kH.1)))) (a3 (u32 (fO IntKind.u32 (a3 (u32 (fO IntKind.u32 (a3 (u32 (i9 IntKind.u32 h j))) (a3 (u32 (i9 IntKind.u32 h k)))))) (a3 (u32 (i9 IntKind.u32 j k))))))))))),()))))))))))))))))))) (some (aE.ex 0 (x.1,c,())))) (0,x.1,())) (λ(a:w3)=>none) (λ(i:Nat) (a:w3)=>ak (bP i 0) (b_ (bC (λ(x:w3)=>letI f:=aK x.1 (bb 8);letI o:=ab x.1;T (aF x.1 8) (ak f (ak f (ak f (some (aE.nx (i64 (aC x.1 1),cg x.2.1 o (u32 (aC (a3 (an x.2.1 o (u32 0))) (a3 (an a.2.1 o (u32 0))))),())))))) (some (aE.ex 2 (x.1,x.2.1,())))) (0,x.1,())) (λ(a:w3)=>none) (λ(i:Nat) (a:w3)=>ak (bP i 2) (some (a.2.1,0,()))) λ(r:I8)=>some r)) λ(r:I8)=>some r)
def yL(x:(List UInt32×Int×aa×Unit)×aa×Unit):Option (sd):=letI h:=x.1.2;letI f:=len x.2.1;letI d:=len h.2.1;letI c:=i64 (aC d f);letI g:=bM (ab c) (u8 0);letI b:=ea g 0 (aV g) h.2.1;T (aF (i64 (bg 1125899906842624 h.1)) f) (some (x.1,())) (ak (cV (b5 0 c c) (cj 1 (ab c))) (ak (b5 d (len b) (len b)) (b_ (bC (λ(x:Wb)=>letI e:=len x.1;T (b? 64 e) (ak (b5 0 64 e) (ob (N0 (x.2.1.1,cut x.1 (ab 0) (ce (ab 64) (ab 0)),())) λ(a:I8)=>ak (b5 64 e e) (some (aE.nx (cut x.1 (ab 64) (ce (ab e) (ab 64)),(a.1,x.2.1.2),()))))) (some (aE.ex 0 (x.1,x.2.1,())))) (ea b (ab d) (ce (ab (len b)) (ab d)) x.2.1,(x.1.1,i64 (aC h.1 f),h.2),())) (λ(a:Wb)=>none) (λ(i:Nat) (a:Wb)=>ak (bP i 0) (some ((a.2.1.1,a.2.1.2.1,a.1,a.2.1.2.2.2),()))) λ(r:sd)=>some r)))
def IM(x:Unit):Option (sd):=some (([u32 1779033703,u32 3144134277,u32 1013904242,u32 2773480762,u32 1359893119,u32 2600822924,u32 528734635,u32 1541459225],0,aP UInt8,()),())
def Bf(x:sd):Option (dk):=letI g:=bM (ab 0) (u8 0);letI j:=cm g x.1.2.2.1;ak (cV (b5 0 0 128) (cj 1 (ab 128))) (ak (cj 1 (bF (aV g) (aV x.1.2.2.1))) (ak (cj 1 (bF (aV j) (aV [u8 128]))) (b_ (bC (λ(x:dk)=>T (aZ (af (ej (len x.1) 64) 56)) (ak (cj 1 (bF (aV x.1) (aV [u8 0]))) (some (aE.nx (cm x.1 [u8 0],())))) (some (aE.ex 0 (x.1,())))) (cm j [u8 128],())) (λ(a:dk)=>none) (λ(i:Nat) (a:dk)=>ak (bP i 0) (b_ (bC (λ(V:cw)=>letI k:=V.2.1;letI c:=fB IntKind.i64 (i64 (fr 8 x.1.2.1)) k;T (b? 0 k) (ak (b? 0 k) (ak (cj 1 (bF (aV V.1) (aV [u8 c]))) (some (aE.nx (cm V.1 [u8 c],i64 (bg k 8),()))))) (some (aE.ex 2 (V.1,k,())))) (a.1,56,())) (λ(a:cw)=>none) (λ(i:Nat) (a:cw)=>ak (bP i 2) (b_ (bC (λ(x:Wj)=>letI h:=len x.1;T (aF 0 h) (ak (b5 0 64 h) (ob (N0 (x.2.1,cut x.1 (ab 0) (ce (ab 64) (ab 0)),())) λ(a:I8)=>ak (b5 64 h h) (some (aE.nx (cut x.1 (ab 64) (ce (ab h) (ab 64)),a.1,()))))) (some (aE.ex 4 (x.1,x.2.1,())))) (a.1,x.1.1,())) (λ(a:Wj)=>none) (λ(i:Nat) (a:Wj)=>ak (bP i 4) (ak (cV (b5 0 0 32) (cj 1 (ab 32))) (b_ (bC (λ(x:cw)=>letI l:=x.2.1;letI b:=a3 (an a.2.1 (ab l) (u32 0));letI d:=a3 (u32 (fB IntKind.u32 b (cz (u64 24))));letI e:=a3 (u32 (fB IntKind.u32 b (cz (u64 16))));letI f:=a3 (u32 (fB IntKind.u32 b (cz (u64 8))));T (aF l 8) (ak (aK l (bb 8)) (ak (cj 1 (bF (aV x.1) (aV [u8 d,u8 e,u8 f,u8 b]))) (some (aE.nx (cm x.1 [u8 d,u8 e,u8 f,u8 b],i64 (aC l 1),()))))) (some (aE.ex 6 (x.1,l,())))) (bM (ab 0) (u8 0),0,())) (λ(a:cw)=>none) (λ(i:Nat) (a:cw)=>ak (bP i 6) (some (a.1,()))) λ(r:dk)=>some r))) λ(r:dk)=>some r)) λ(r:dk)=>some r)) λ(r:dk)=>some r)))
def O_(x:dk):Option (dk):=ob (IM ()) λ(a:sd)=>ob (yL (a.1,x.1,())) λ(a:sd)=>ob (Bf (a.1,())) λ(a:dk)=>some (a.1,())
def Ub(x:dk):Option (dk):=letI b:=bM (ab 64) (u8 0);ak (cV (b5 0 64 64) (cj 1 (ab 64))) (T (aF 64 (len x.1)) (ob (O_ (x.1,())) λ(a:dk)=>some (ea b 0 (aV b) a.1,())) (some (ea b 0 (aV b) x.1,())))
def Dy(x:I_):Option (dk):=letI b:=cV (b5 0 64 64) (cj 1 (ab 64));ob (Ub (x.1,())) λ(a:dk)=>letI c:=len a.1;ak b (b_ (bC (λ(x:ha)=>T (aF x.1 c) (ak (aK x.1 c) (ak (aK x.1 (len x.2.1)) (some (aE.nx (i64 (aC x.1 1),cg x.2.1 (ab x.1) (u8 (fO IntKind.u8 (aN (an a.1 (ab x.1) (u8 0))) (aN (u8 92)))),()))))) (some (aE.ex 0 (x.1,x.2.1,())))) (0,bM (ab 64) (u8 0),())) (λ(a:ha)=>none) (λ(i:Nat) (ba:ha)=>ak (bP i 0) (ob (IM ()) λ(b0:sd)=>ob (yL (b0.1,ba.2.1,())) λ(bq:sd)=>ak b (b_ (bC (λ(x:ha)=>T (aF x.1 c) (ak (aK x.1 c) (ak (aK x.1 (len x.2.1)) (some (aE.nx (i64 (aC x.1 1),cg x.2.1 (ab x.1) (u8 (fO IntKind.u8 (aN (an a.1 (ab x.1) (u8 0))) (aN (u8 54)))),()))))) (some (aE.ex 0 (x.1,x.2.1,())))) (0,bM (ab 64) (u8 0),())) (λ(a:ha)=>none) (λ(i:Nat) (a:ha)=>ak (bP i 0) (ob (IM ()) λ(dc:sd)=>ob (yL (dc.1,a.2.1,())) λ(a:sd)=>ob (yL (a.1,x.2.1,())) λ(a:sd)=>ob (Bf (a.1,())) λ(a:dk)=>ob (yL (bq.1,a.1,())) λ(a:sd)=>ob (Bf (a.1,())) λ(a:dk)=>some (a.1,()))) λ(r:Unit)=>none))) λ(r:Unit)=>none)
def DZ(x:I_):Option (dk):=ob (Dy (x.1,x.2.1,())) λ(a:dk)=>ak (b5 0 16 (len a.1)) (some (cut a.1 (ab 0) (ce (ab 16) (ab 0)),()))
def MX(x:dw×aa×aa×Unit):Option (dw×aa×Unit):=letI b:=DZ (x.2.1,x.2.2.1,());ob (Ic (x.1,x.2.1,x.2.2.1,())) λ(a:aQ)=>T (aZ a.1) (ob (Oa (x.1.2.1,())) λ(a:We)=>ob (Kq (x.2.1,())) λ(ba:dk)=>ob (Kq (x.2.2.1,())) λ(b0:dk)=>ak (cj 56 (bF (aV a.1) (aV [(ba.1,b0.1,())]))) (ob b λ(bq:dk)=>some ((x.1.1,cm a.1 [(ba.1,b0.1,())],x.1.2.2),bq.1,()))) (ob b λ(a:dk)=>some (x.1,a.1,()))
def CG(x:dr×Unit):Option (aQ):=ob (F3 (x.1,())) λ(a:aQ)=>ob (T a.1 (some (af (len x.1.2.2.2.2.2.2.1) 16,())) (some (false,()))) λ(a:aQ)=>some (a.1,())
def K7(x:dr×Unit):Option (cw):=letI b:=x.1.2.2.2.2.2.2.1;ob (CG (x.1,())) λ(a:aQ)=>T (aZ a.1) (some (aP UInt8,1,())) (ob (xM (x.1,())) λ(a:cw)=>ak (cj 1 (bF (aV a.1) (aV b))) (some (cm a.1 b,0,())))
def RW(x:dk):Option (cw):=letI b:=len x.1;letI c:=fB IntKind.i64 b (cz (u64 8));ob (T (aF b 1) (some (true,())) (some (aF 1024 b,()))) λ(a:aQ)=>T a.1 (some (aP UInt8,1,())) (ak (cj 1 (bF (aV [u8 c,u8 b]) (aV x.1))) (some (cm [u8 c,u8 b] x.1,0,())))
def Ob(x:re):Option (re):=letI a:=len x.1;ak (cV (b5 0 a a) (af a a)) (some (sub x.1 0 a,()))
def Hv(x:fa×dr×aa×Unit):Option (fo):=letI d:=x.1.1.2.2;letI b:=d.2.2.2.2.2;letI c:=b.2.2.2.2.2;letI e:=x.2.1.2.2;ob (Ts (c.2.2.2.1,())) λ(a:Pw)=>T (aZ (af a.2.2.1 0)) (some (x.1,a.2.2.1,())) (ob (xM (x.2.1,())) λ(ba:cw)=>ob (MX (x.1.2.1,x.2.2.1,ba.1,())) λ(b0:dw×aa×Unit)=>ob (K7 ((x.2.1.1,x.2.1.2.1,e.1,e.2.1,e.2.2.1,e.2.2.2.1,b0.2.1,e.2.2.2.2.2),())) λ(bq:cw)=>ob (RW (bq.1,())) λ(dc:cw)=>ob (Ob (c.2.2.2.2.1,())) λ(fE:re)=>ak (cj 56 (bF (aV fE.1) (aV [(a.2.1,dc.1,())]))) (some (((x.1.1.1,x.1.1.2.1,d.1,d.2.1,d.2.2.1,d.2.2.2.1,d.2.2.2.2.1,b.1,b.2.1,b.2.2.1,b.2.2.2.1,b.2.2.2.2.1,c.1,c.2.1,c.2.2.1,a.1,cm fE.1 [(a.2.1,dc.1,())],c.2.2.2.2.2),b0.1,x.1.2.2),0,())))
def n5(x:B6):Option (fo):=letI b:=x.1.1.2.2.2.2.2.2.2.2;ob (Hw (x.2.1,())) λ(a:aQ)=>T (aZ a.1) (some (x.1,1,())) (ob (u0 (x.1.1.2.2.1,())) λ(a:aQ)=>T (aZ a.1) (some (x.1,7,())) (T (af b.1 4611686018427387904) (some (x.1,10,())) (ob (n4 (x.1.1,())) λ(a:ql)=>ob (Hv (x.1,(2,x.1.1.1,a.1,b.2.2.1.1.1,b.1,x.2.1,aP UInt8,()),b.2.2.1.1.2.1,())) λ(a:fo)=>letI c:=a.1.1.2.2.2;letI d:=c.2.2.2;T (af a.2.1 0) (some (((a.1.1.1,a.1.1.2.1,a.1.1.2.2.1,c.1,c.2.1,c.2.2.1,d.1,d.2.1,i64 (aC d.2.2.1 1),d.2.2.2),a.1.2),a.2.1,())) (some (a.1,a.2.1,())))))
def Ke(x:c8):Option (c8):=ob (T (aF x.1 0) (some (true,())) (some (b? 999999 x.1,()))) λ(a:aQ)=>T a.1 (some (1,())) (some (i64 (aC x.1 1),()))
def Kc(x:c8):Option (aQ):=letI a:=some (false,());letI b:=some (true,());T (af x.1 1) (T (af x.1 1) b a) (T (af x.1 2) (T (af x.1 2) b a) (T (af x.1 101) (T (af x.1 101) b a) (T (af x.1 201) (T (af x.1 201) b a) (T (af x.1 301) b a))))
def Kf(x:I9):Option (aQ):=letI b:=some (false,());letI c:=len x.2.2.1;ob (Kc (x.1,())) λ(a:aQ)=>ob (T a.1 (T (b? 1 x.2.1) (T (b? x.2.1 999999) (T (b? 1 c) (some (b? c 900,())) b) b) b) b) λ(a:aQ)=>some (a.1,())
def Kb(x:I9):Option (gB×Int×Unit):=ob (Kf (x.1,x.2.1,x.2.2.1,())) λ(a:aQ)=>T (aZ a.1) (some (m6,1,())) (some ((x.1,x.2.1,8,3,x.2.2.1,()),0,()))
def Mp(x:aa×aa×List aa×Unit):Option (cw):=letI e:=len x.2.2.1;letI g:=len x.2.1;ob (T (aF 255 g) (some (true,())) (some (aF 16 e,()))) λ(a:aQ)=>T a.1 (some (aP UInt8,1,())) (ak (cj 1 (bF (aV [u8 g]) (aV x.2.1))) (b_ (bC (λ(V:Bn)=>letI f:=V.2.2.1;letI b:=an x.2.2.1 (ab f) (aP UInt8);letI c:=fB IntKind.i64 (len b) (cz (u64 8));letI d:=cm V.2.1 [u8 c,u8 (len b)];T (aF f e) (ak (aK f e) (T (aF 65535 (len b)) (some (aE.rt (aP UInt8,1,()))) (ak (cj 1 (bF (aV V.2.1) (aV [u8 c,u8 (len b)]))) (ak (cj 1 (bF (aV d) (aV b))) (some (aE.nx (V.1,cm d b,i64 (aC f 1),()))))))) (some (aE.ex 0 (V.1,V.2.1,f,())))) (0,cm [u8 g] x.2.1,0,())) (λ(a:Bn)=>none) (λ(i:Nat) (a:Bn)=>ak (bP i 0) (ob (Dy (x.1,a.2.1,())) λ(a:dk)=>some (a.1,0,()))) λ(r:cw)=>some r))
def Ar(x:dk):Option (dk):=ob (Mp (x.1,[98,97,115,101],aP aa,())) λ(a:cw)=>some (a.1,())
def Dr(x:fa×Int×aa×Unit):Option (fo):=letI b:=x.1.1.2;ob (Au (4611686018427387904,[x.2.1],())) λ(a:aQ)=>ob (T (aZ a.1) (some (true,())) (ob (Hw (x.2.2.1,())) λ(a:aQ)=>some (aZ a.1,()))) λ(a:aQ)=>T a.1 (some (x.1,1,())) (ob (n4 ((x.1.1.1,b.1,b.2.1,b.2.2.1,b.2.2.2.1,b.2.2.2.2.1,x.2.1,b.2.2.2.2.2.2),())) λ(a:ql)=>ob (Ar (b.1,())) λ(ba:dk)=>ob (Hv (x.1,(1,x.1.1.1,a.1,0,0,x.2.2.1,aP UInt8,()),ba.1,())) λ(a:fo)=>some (a.1,a.2.1,()))
def Bg(x:xp):Option (bL):=letI c:=x.1.1.2;letI f:=c.2.2;letI b:=f.2.2;letI d:=b.2.2.2;letI e:=x.2.1.2;letI g:=d.2.2;ob (Ke (g.2.2.1,())) λ(a:c8)=>ob (p' ((x.2.1.1,e.1,a.1,e.2.2),())) λ(ba:cw)=>ob (Kb (e.1,a.1,ba.1,())) λ(b0:gB×Int×Unit)=>ob (T (aZ (af ba.2.1 0)) (some (true,())) (some (aZ (af b0.2.1 0),()))) λ(bq:aQ)=>T bq.1 (some (x.1,())) (T (af e.1 1) (ob (Dr (((x.1.1.1,c.1,c.2.1,f.1,f.2.1,b.1,b.2.1,b.2.2.1,d.1,d.2.1,g.1,b0.1,a.1,g.2.2.2),x.1.2),0,ba.1,())) λ(a:fo)=>some (a.1,())) (ob (n5 (((x.1.1.1,c.1,c.2.1,f.1,f.2.1,b.1,b.2.1,b.2.2.1,d.1,d.2.1,g.1,b0.1,a.1,g.2.2.2),x.1.2),ba.1,())) λ(a:fo)=>some (a.1,())))
def yv(x:c8):Option (aQ):=letI b:=AV (x.1,());ob b λ(a:c8)=>ob (T (af a.1 3) (some (true,())) (ob b λ(a:c8)=>some (af a.1 4,()))) λ(a:aQ)=>some (a.1,())
def Iy(x:Wh):Option (aQ):=ob (T (af x.1.1 0) (some (af (len x.1.2.1) 0,())) (some (false,()))) λ(a:aQ)=>some (a.1,())
def NB(x:(e?×Unit)×Unit):Option (re):=some ([x.1.1.1,x.1.1.2.1,x.1.1.2.2.1],())
def NC(x:(e?×Unit)×Unit):Option (aQ):=ob (NB (x.1,())) λ(a:re)=>b_ (bC (λ(x:da)=>letI b:=x.2.1;T (aF b 3) (ak (aK b (bb 3)) (ob (Iy (an a.1 (ab b) ke,())) λ(a:aQ)=>T (aZ a.1) (some (aE.rt (false,()))) (some (aE.nx (x.1,i64 (aC b 1),()))))) (some (aE.ex 0 (x.1,b,())))) (false,0,())) (λ(a:da)=>none) (λ(i:Nat) (a:da)=>ak (bP i 0) (ob (T (af x.1.1.2.2.2.1 0) (some (af x.1.1.2.2.2.2.1 0,())) (some (false,()))) λ(a:aQ)=>some (a.1,()))) λ(r:aQ)=>some r
def Ny(x:tW):Option (f6):=ob (NC ((x.1,()),())) λ(a:aQ)=>T a.1 (some (0,9,())) (T (af x.1.2.2.2.2.1 2147483647) (some (0,10,())) (some (i64 (aC x.1.2.2.2.2.1 1),0,())))
def yE(x:bL):Option (E_):=some (((x.1.1,()),x.1,()),())
def As(x:aa×List Int×Int×aa×Unit):Option (dk):=letI b:=some (aP UInt8,());letI c:=aK 0 (bb 2);letI d:=aK 1 (bb 2);ak c (ak d (ob (Au (4611686018427387904,[an x.2.1 (ab 0) 0,an x.2.1 (ab 1) 0],())) λ(a:aQ)=>T (aZ a.1) b (ob (Au (2147483647,[x.2.2.1],())) λ(a:aQ)=>T (aZ a.1) b (ak c (ob (pT (an x.2.1 (ab 0) 0,8,())) λ(a:cw)=>ak d (ob (pT (an x.2.1 (ab 1) 0,8,())) λ(ba:cw)=>ob (pT (x.2.2.1,4,())) λ(b0:cw)=>ob (Mp (x.1,[108,105,110,107],[a.1,ba.1,b0.1,x.2.2.2.1],())) λ(a:cw)=>some (a.1,())))))))
def A5(x:(pJ×Unit)×Int×aa×Unit):Option (dk):=ob (n4 (x.1.1,())) λ(a:ql)=>ob (As (x.1.1.2.1,a.1,x.2.1,x.2.2.1,())) λ(a:dk)=>some (a.1,())
def NA(x:Wh):Option (aQ):=letI b:=some (false,());ob (T (b? 1 x.1.1) (T (b? x.1.1 2147483647) (some (af (len x.1.2.1) 32,())) b) b) λ(a:aQ)=>some (a.1,())
def Ec(x:e?×Int×aa×Unit):Option (tV):=letI b:=x.1.2.2;letI c:=some (true,());letI d:=x.2.1;ob (NA ((d,x.2.2.1,()),())) λ(a:aQ)=>T (aZ a.1) (some (x.1,1,())) (ob (NC ((x.1,()),())) λ(a:aQ)=>ob (T a.1 c (T (b? d x.1.1.1) c (some (aF d b.1.1,())))) λ(a:aQ)=>T a.1 (some (x.1,9,())) (some ((x.1.1,x.1.2.1,(d,x.2.2.1,()),b.2.1,cX b.2.2.1 d,b.2.2.2),0,())))
def q9(x:f6):Option (kX):=letI b:=x.2.1;letI j:=af b 9;letI c:=some (x.1,false,());letI d:=T j true false;letI e:=some (false,());letI f:=af b 4;letI g:=af b 5;letI h:=T j 0 0;ob (AV (x.1,())) λ(a:c8)=>letI i:=some (b? 0 a.1,());ob (T (af x.1 8) (some (af b 11,())) e) λ(ba:aQ)=>T ba.1 (some (0,true,())) (ob (T (af x.1 8) (some (af b 12,())) e) λ(b0:aQ)=>T b0.1 (some (7,true,())) (ob (T (af b 10) (T (b? 0 a.1) (some (true,())) (some (af x.1 7,()))) e) λ(bq:aQ)=>T bq.1 (some (8,true,())) (ob (T (af b 0) i e) λ(dc:aQ)=>T dc.1 (some (1,true,())) (ob (T (af b 2) i e) λ(fE:aQ)=>T fE.1 (some (2,true,())) (T (af a.1 1) (T (T (af b 1) true (T f true d)) (some (T (af b 1) 3 (T f 0 h),true,())) c) (T (af a.1 2) (T (T (af b 3) true (T f true false)) (some (T (af b 3) 3 (T f 0 0),true,())) c) (T (af a.1 3) (T (T f true (T g true (T (af b 6) true (T (af b 7) true d)))) (some (T f 6 (T g 0 (T (af b 6) 4 (T (af b 7) 5 h))),true,())) c) (T (af a.1 4) (T (T f true (T g true (T (af b 8) true d))) (some (T f 6 (T g 0 (T (af b 8) 3 (T j 3 0))),true,())) c) (T (af a.1 5) (T (T g true d) (some (T g 0 h,true,())) c) c)))))))))
def HG(x:dk):Option (dk):=ak (cV (b5 0 8 8) (cj 1 (ab 8))) (ob (Dy (x.1,bM (ab 8) (u8 0),())) λ(a:dk)=>ak (b5 0 3 (len a.1)) (some (cut a.1 (ab 0) (ce (ab 3) (ab 0)),())))
def Ns(x:B6):Option (fo):=letI c:=x.1.1.2.2;letI b:=c.2.2.2.2;letI d:=b.2.2.2.2;letI e:=some (true,());T (aZ (af (len x.2.1) 8)) (some (x.1,1,())) (ob (yv (c.1,())) λ(a:aQ)=>T (aZ a.1) (some (x.1,7,())) (ob (T (aZ (af c.1 3)) e (T (aZ (af d.2.1.1 0)) e (some (aF 0 d.1.2.2.1.1,())))) λ(a:aQ)=>T a.1 (some (x.1,9,())) (ob (Ny (d.1,())) λ(a:f6)=>T (aZ (af a.2.1 0)) (some (x.1,a.2.1,())) (ob (yE (x.1,())) λ(ba:E_)=>ob (A5 (ba.1.1,a.1,x.2.1,())) λ(b0:dk)=>ob (Ec (d.1,a.1,b0.1,())) λ(bq:tV)=>ob (q9 (c.1,6,())) λ(dc:kX)=>ob (HG (b0.1,())) λ(fE:dk)=>ob (Bg (((x.1.1.1,x.1.1.2.1,dc.1,c.2.1,c.2.2.1,c.2.2.2.1,b.1,b.2.1,b.2.2.1,b.2.2.2.1,bq.1,d.2),x.1.2),(true,101,0,0,a.1,x.2.1,fE.1,0,()),())) λ(a:bL)=>some (a.1,0,())))))
def wO(x:(pJ×Unit)×Unit):Option (aQ):=some (af x.1.1.2.2.1 4,())
def A6(x:bL):Option (bL):=letI d:=x.1.1.2;letI b:=d.2.2.2;letI c:=b.2.2.2;ob (q9 (d.2.1,8,())) λ(a:kX)=>some (((x.1.1.1,d.1,a.1,d.2.2.1,b.1,b.2.1,b.2.2.1,c.1,c.2.1,c.2.2.1,c.2.2.2.1,m6,c.2.2.2.2.2),x.1.2),())
def Ix(x:tW):Option (tW):=some ((x.1.1,x.1.2.1,ke,x.1.2.2.2),())
def Is(x:bL):Option (bL):=ob (yE (x.1,())) λ(a:E_)=>ob (wO (a.1.1,())) λ(a:aQ)=>T (aZ a.1) (some (x.1,())) (ob (A6 (x.1,())) λ(a:bL)=>letI d:=a.1.1.2;letI b:=d.2.2.2;letI c:=b.2.2.2;ob (Ix (c.2.2.2.1,())) λ(ba:tW)=>some (((a.1.1.1,d.1,d.2.1,d.2.2.1,b.1,b.2.1,b.2.2.1,c.1,c.2.1,c.2.2.1,ba.1,c.2.2.2.2),a.1.2),()))
def kS(x:fo):Option (bL):=b_ (bC (λ(V:B5)=>letI f:=V.2.1;letI d:=f.1.2.2;letI g:=d.2.2.2;letI b:=g.2.2.2;letI h:=b.2.2.2;letI c:=h.2.2.2;letI e:=aK V.1 (bb 4);letI j:=c.2.2.2;letI k:=ab V.1;T (aF V.1 4) (ak e (T (af (an [2,5,6,13] k 0) x.2.1) (ak e (ak e (some (aE.nx (i64 (aC V.1 1),((f.1.1,f.1.2.1,d.1,d.2.1,d.2.2.1,g.1,g.2.1,g.2.2.1,b.1,b.2.1,b.2.2.1,h.1,h.2.1,h.2.2.1,c.1,c.2.1,c.2.2.1,j.1,cg j.2.1 k (i64 (aC (an j.2.1 k 0) 1)),j.2.2),f.2),()))))) (some (aE.nx (i64 (aC V.1 1),f,()))))) (some (aE.ex 0 (V.1,f,())))) (0,x.1,())) (λ(a:B5)=>none) (λ(i:Nat) (a:B5)=>ak (bP i 0) (some (a.2.1,()))) λ(r:bL)=>some r
def Nt(x:xp):Option (bL):=letI j:=x.2.1;letI f:=j.2.2.2.2;letI h:=x.1.1.2.2.2.2.2.2.2.2.2.2.1;ob (yE (x.1,())) λ(a:E_)=>letI c:=a.1.2.1;letI o:=c.1.2;letI b:=o.2.2;letI p:=b.2.2;letI g:=p.2.2;letI i:=wO (a.1.1,());ob (A5 (a.1.1,f.1,f.2.1,())) λ(ba:dk)=>ob i λ(b0:aQ)=>ob (T b0.1 (some (af x.1.1.1 0,())) (some (false,()))) λ(bq:aQ)=>T bq.1 (ob (kS (x.1,13,())) λ(a:bL)=>some (a.1,())) (ob (HG (ba.1,())) λ(dc:dk)=>ob (Dx (dc.1,f.2.2.1,())) λ(fE:aQ)=>T (aZ fE.1) (ob (q1 (j,63,())) λ(kH:rr)=>ob (p' (kH.1,())) λ(i7:cw)=>ob (n5 (c,i7.1,())) λ(a:fo)=>some (a.1,())) (T (af f.1 h.1.1) (ob (q1 (j,0,())) λ(kH:rr)=>ob (p' (kH.1,())) λ(i7:cw)=>ob (n5 (c,i7.1,())) λ(a:fo)=>some (a.1,())) (ob i λ(kH:aQ)=>T kH.1 (ob (Ix (h,())) λ(i7:tW)=>ob (Ec (i7.1,f.1,ba.1,())) λ(sA:tV)=>T (aZ (af sA.2.1 0)) (ob (kS (x.1,13,())) λ(a:bL)=>some (a.1,())) (ob i λ(zp:aQ)=>T zp.1 (ob (A6 (c,())) λ(a:bL)=>letI k:=a.1.1.2;letI d:=k.2.2.2;letI l:=d.2.2.2;ob (q1 (j,0,())) λ(sz:rr)=>ob (p' (sz.1,())) λ(zo:cw)=>ob (n5 (((a.1.1.1,k.1,k.2.1,k.2.2.1,d.1,d.2.1,d.2.2.1,l.1,l.2.1,l.2.2.1,sA.1,l.2.2.2.2),a.1.2),zo.1,())) λ(a:fo)=>some (a.1,())) (ob (q1 (j,0,())) λ(sz:rr)=>ob (p' (sz.1,())) λ(zo:cw)=>ob (n5 (((c.1.1,o.1,o.2.1,b.1,b.2.1,p.1,p.2.1,g.1,g.2.1,g.2.2.1,sA.1,g.2.2.2.2),c.2),zo.1,())) λ(a:fo)=>some (a.1,())))) (ob (Ec (h,f.1,ba.1,())) λ(i7:tV)=>T (aZ (af i7.2.1 0)) (ob (kS (x.1,13,())) λ(a:bL)=>some (a.1,())) (ob i λ(sA:aQ)=>T sA.1 (ob (A6 (c,())) λ(a:bL)=>letI m:=a.1.1.2;letI e:=m.2.2.2;letI n:=e.2.2.2;ob (q1 (j,0,())) λ(zp:rr)=>ob (p' (zp.1,())) λ(sz:cw)=>ob (n5 (((a.1.1.1,m.1,m.2.1,m.2.2.1,e.1,e.2.1,e.2.2.1,n.1,n.2.1,n.2.2.1,i7.1,n.2.2.2.2),a.1.2),sz.1,())) λ(a:fo)=>some (a.1,())) (ob (q1 (j,0,())) λ(zp:rr)=>ob (p' (zp.1,())) λ(sz:cw)=>ob (n5 (((c.1.1,o.1,o.2.1,b.1,b.2.1,p.1,p.2.1,g.1,g.2.1,g.2.2.1,i7.1,g.2.2.2.2),c.2),sz.1,())) λ(a:fo)=>some (a.1,())))))))
def PZ(x:gB×gB×Unit):Option (aQ):=letI b:=some (false,());letI c:=x.2.1.2;ob (T (af x.1.1 x.2.1.1) (T (af x.1.2.1 c.1) (T (af x.1.2.2.1 c.2.1) (T (af x.1.2.2.2.1 c.2.2.1) (ob (Cq (x.1.2.2.2.2.1,c.2.2.2.1,())) λ(a:aQ)=>some (a.1,())) b) b) b) b) λ(a:aQ)=>some (a.1,())
def Fx(x:gB×Unit):Option (aQ):=ob (PZ (x.1,m6,())) λ(a:aQ)=>some (a.1,())
def xs(x:gB×Int×Int×Unit):Option (aQ):=letI b:=some (false,());ob (Fx (x.1,())) λ(a:aQ)=>ob (T (aZ a.1) (T (af x.1.1 x.2.1) (some (af x.1.2.1 x.2.2.1,())) b) b) λ(a:aQ)=>some (a.1,())
def A8(x:tW):Option (tV):=ob (Iy (x.1.2.2.1,())) λ(a:aQ)=>T a.1 (some (x.1,9,())) (some ((x.1.2.2.1,x.1.1,ke,16,x.1.2.2.2.2),0,()))
def Nr(x:xp):Option (bL):=ob (yE (x.1,())) λ(a:E_)=>ob (wO (a.1.1,())) λ(a:aQ)=>ob (T (aZ a.1) (some (true,())) (ob (xs (x.1.1.2.2.2.2.2.2.2.2.2.2.2.1,x.2.1.2.1,x.2.1.2.2.1,())) λ(a:aQ)=>some (aZ a.1,()))) λ(a:aQ)=>T a.1 (ob (kS (x.1,13,())) λ(a:bL)=>some (a.1,())) (T (aZ (af x.2.1.2.2.2.1 0)) (ob (Is (x.1,())) λ(a:bL)=>some (a.1,())) (ob (A6 (x.1,())) λ(a:bL)=>letI d:=a.1.1.2;letI b:=d.2.2.2;letI c:=b.2.2.2;ob (A8 (c.2.2.2.1,())) λ(ba:tV)=>ob (Bg (((a.1.1.1,d.1,d.2.1,d.2.2.1,b.1,b.2.1,b.2.2.1,c.1,c.2.1,c.2.2.1,ba.1,c.2.2.2.2),a.1.2),(true,301,0,0,0,aP UInt8,aP UInt8,0,()),())) λ(a:bL)=>some (a.1,())))
def A3(x:B7):Option (ql):=letI a:=x.1.2.2.2.2.2;T (af x.1.1 0) (some ([a.1,a.2.1],())) (T (af x.1.1 1) (some ([a.2.1,a.1],())) (some ([0,0],())))
def Nh(x:(aa×Int×Int×Unit)×(aa×Int×Int×Unit)×Unit):Option (aQ):=letI b:=some (false,());ob (q? (x.1.1,x.2.1.1,())) λ(a:aQ)=>ob (T a.1 (T (af x.1.2.1 x.2.1.2.1) (some (af x.1.2.2.1 x.2.1.2.2.1,())) b) b) λ(a:aQ)=>some (a.1,())
def Ip(x:ahs):Option (aQ):=ob (T (af x.1.1 x.2.1.1) (ob (q? (x.1.2.1,x.2.1.2.1,())) λ(a:aQ)=>some (a.1,())) (some (false,()))) λ(a:aQ)=>some (a.1,())
def Io(x:e?×e?×Unit):Option (aQ):=letI b:=some (false,());letI c:=x.2.1.2;ob (Ip (x.1.1,x.2.1.1,())) λ(a:aQ)=>ob (Ip (x.1.2.1,c.1,())) λ(ba:aQ)=>ob (Ip (x.1.2.2.1,c.2.1,())) λ(b0:aQ)=>ob (T a.1 (T ba.1 (T b0.1 (T (af x.1.2.2.2.1 c.2.2.1) (some (af x.1.2.2.2.2.1 c.2.2.2.1,())) b) b) b) b) λ(a:aQ)=>some (a.1,())
def M_(x:List aa×List aa×Unit):Option (aQ):=letI c:=len x.1;T (aZ (af c (len x.2.1))) (some (false,())) (b_ (bC (λ(V:da)=>letI b:=V.2.1;T (aF b c) (ak (aK b c) (ak (aK b (len x.2.1)) (T (aZ (seq (an x.1 (ab b) (aP UInt8)) (an x.2.1 (ab b) (aP UInt8)))) (some (aE.rt (false,()))) (some (aE.nx (V.1,i64 (aC b 1),())))))) (some (aE.ex 0 (V.1,b,())))) (false,0,())) (λ(a:da)=>none) (λ(i:Nat) (a:da)=>ak (bP i 0) (some (true,()))) λ(r:aQ)=>some r)
def Nj(x:(aa×aa×Unit)×(aa×aa×Unit)×Unit):Option (aQ):=ob (q? (x.1.1,x.2.1.1,())) λ(a:aQ)=>ob (T a.1 (ob (q? (x.1.2.1,x.2.1.2.1,())) λ(a:aQ)=>some (a.1,())) (some (false,()))) λ(a:aQ)=>some (a.1,())
def Nk(x:gB×gB×Unit):Option (aQ):=letI b:=some (false,());letI c:=x.2.1.2;ob (T (af x.1.1 x.2.1.1) (T (af x.1.2.1 c.1) (T (af x.1.2.2.1 c.2.1) (T (af x.1.2.2.2.1 c.2.2.1) (ob (q? (x.1.2.2.2.2.1,c.2.2.2.1,())) λ(a:aQ)=>some (a.1,())) b) b) b) b) λ(a:aQ)=>some (a.1,())
def Ni(x:ef×ef×Unit):Option (aQ):=letI d:=some (true,());b_ (bC (λ(V:da)=>letI e:=V.2.1;letI b:=aK e (bb 4);letI c:=ab e;T (aF e 4) (ak b (ak b (ob (Nh (an x.1.2.1 c vl,an x.2.1.2.1 c vl,())) λ(a:aQ)=>ob (T (aZ a.1) d (ak b (ak b (T (aZ (qD (an x.1.1 c false) (an x.2.1.1 c false))) d (ak b (ak b (some (aZ (af (an x.1.2.2.1 c 0) (an x.2.1.2.2.1 c 0)),())))))))) λ(a:aQ)=>T a.1 (some (aE.rt (false,()))) (some (aE.nx (V.1,i64 (aC e 1),())))))) (some (aE.ex 0 (V.1,e,())))) (false,0,())) (λ(a:da)=>none) (λ(i:Nat) (a:da)=>ak (bP i 0) (some (af x.1.2.2.2.1 x.2.1.2.2.2.1,()))) λ(r:aQ)=>some r
def Nm(x:List (Int×aa×Unit)×List (Int×aa×Unit)×Unit):Option (aQ):=letI c:=len x.1;letI d:=len x.2.1;letI g:=some (true,());T (aZ (af c d)) (some (false,())) (b_ (bC (λ(V:da)=>letI b:=V.2.1;letI e:=an x.2.1 (ab b) ke;letI f:=an x.1 (ab b) ke;T (aF b c) (ak (aK b c) (ak (aK b d) (ob (T (aZ (af f.1 e.1)) g (ak (aK b c) (ak (aK b d) (ob (q? (f.2.1,e.2.1,())) λ(a:aQ)=>some (aZ a.1,()))))) λ(a:aQ)=>T a.1 (some (aE.rt (false,()))) (some (aE.nx (V.1,i64 (aC b 1),())))))) (some (aE.ex 0 (V.1,b,())))) (false,0,())) (λ(a:da)=>none) (λ(i:Nat) (a:da)=>ak (bP i 0) g) λ(r:aQ)=>some r)
def Iq(x:List (Int×List Int×Int×aa×Unit)×List (Int×List Int×Int×aa×Unit)×Unit):Option (aQ):=letI e:=some (true,());letI f:=x.2.1;letI g:=len x.1;letI h:=aK 0 (bb 2);letI j:=aK 1 (bb 2);T (aZ (af g (len f))) (some (false,())) (b_ (bC (λ(V:da)=>letI b:=V.2.1;letI c:=aK b (len f);letI d:=aK b g;T (aF b g) (ak d (ak c (ob (T (aZ (af (an x.1 (ab b) (0,[0,0],0,aP UInt8,())).1 (an f (ab b) (0,[0,0],0,aP UInt8,())).1)) e (ak d (ak h (ak c (ak h (T (aZ (af (an (an x.1 (ab b) (0,[0,0],0,aP UInt8,())).2.1 (ab 0) 0) (an (an f (ab b) (0,[0,0],0,aP UInt8,())).2.1 (ab 0) 0))) e (ak d (ak j (ak c (ak j (T (aZ (af (an (an x.1 (ab b) (0,[0,0],0,aP UInt8,())).2.1 (ab 1) 0) (an (an f (ab b) (0,[0,0],0,aP UInt8,())).2.1 (ab 1) 0))) e (ak d (ak c (T (aZ (af (an x.1 (ab b) (0,[0,0],0,aP UInt8,())).2.2.1 (an f (ab b) (0,[0,0],0,aP UInt8,())).2.2.1)) e (ak d (ak c (ob (q? ((an x.1 (ab b) (0,[0,0],0,aP UInt8,())).2.2.2.1,(an f (ab b) (0,[0,0],0,aP UInt8,())).2.2.2.1,())) λ(a:aQ)=>some (aZ a.1,())))))))))))))))))) λ(a:aQ)=>T a.1 (some (aE.rt (false,()))) (some (aE.nx (V.1,i64 (aC b 1),())))))) (some (aE.ex 0 (V.1,b,())))) (false,0,())) (λ(a:da)=>none) (λ(i:Nat) (a:da)=>ak (bP i 0) e) λ(r:aQ)=>some r)
def Nl(x:pJ×pJ×Unit):Option (aQ):=letI g:=x.1.2.2.2.2;letI f:=x.2.1.2.2.2;letI b:=f.2.2.2.2.2;letI c:=g.2.2.2.2.2;letI d:=some (false,());letI e:=some (true,());letI h:=b.2.2.2.2.2;letI i:=c.2.2.2.2;ob (Nj (x.1.2.2.2.1,f.1,())) λ(a:aQ)=>ob (Io (c.2.1,b.2.2.1,())) λ(ba:aQ)=>ob (Nk (c.2.2.1,b.2.2.2.1,())) λ(b0:aQ)=>ob (M_ (i.2.1,h.2.1,())) λ(bq:aQ)=>ob (Ni (i.2.2.1,h.2.2.1,())) λ(dc:aQ)=>ob (Nm (i.2.2.2.1,h.2.2.2.1,())) λ(fE:aQ)=>ob (Iq (i.2.2.2.2.1,h.2.2.2.2.1,())) λ(kH:aQ)=>ob (T (aZ a.1) e (T (aZ ba.1) e (T (aZ b0.1) e (T (aZ bq.1) e (T (aZ dc.1) e (T (aZ fE.1) e (T (aZ kH.1) e (ob (q? (x.1.2.1,x.2.1.2.1,())) λ(a:aQ)=>T (aZ a.1) e (T (aZ (cV (af c.1.1 b.2.1.1) (cV (nN (λ(p q:UInt64)=>af (cz p) (cz q)) c.1.2.1 b.2.1.2.1) true))) e (some (aZ (nN (λ(p q:Int)=>af p q) i.2.2.2.2.2.1 h.2.2.2.2.2.1),()))))))))))) λ(a:aQ)=>T a.1 d (ob (T (af x.1.1 x.2.1.1) (T (af x.1.2.2.1 x.2.1.2.2.1) (T (af g.1 f.2.1) (T (af g.2.1 f.2.2.1) (T (af g.2.2.1 f.2.2.2.1) (T (af g.2.2.2.1 f.2.2.2.2.1) (T (af g.2.2.2.2.1 b.1) (T (af c.2.2.2.1 b.2.2.2.2.1) (some (af i.1 h.1,())) d) d) d) d) d) d) d) d) λ(a:aQ)=>some (a.1,()))
def Ii(x:dw×dw×Unit):Option (aQ):=letI b:=(aP UInt8,aP UInt8,());letI c:=some (true,());letI e:=len x.1.2.1;letI f:=x.2.1.2.1;ob (T (aZ (qD x.1.1 x.2.1.1)) c (T (aZ (qD x.1.2.2.1 x.2.1.2.2.1)) c (some (aZ (af e (len f)),())))) λ(a:aQ)=>T a.1 (some (false,())) (b_ (bC (λ(V:da)=>letI d:=V.2.1;letI g:=an x.1.2.1 (ab d) b;letI h:=an f (ab d) b;letI j:=aK d (len f);T (aF d e) (ak (aK d e) (ak j (ob (q? (g.1,h.1,())) λ(a:aQ)=>ob (T (aZ a.1) c (ak (aK d e) (ak j (ob (q? (g.2.1,h.2.1,())) λ(a:aQ)=>some (aZ a.1,()))))) λ(a:aQ)=>T a.1 (some (aE.rt (false,()))) (some (aE.nx (V.1,i64 (aC d 1),())))))) (some (aE.ex 0 (V.1,d,())))) (false,0,())) (λ(a:da)=>none) (λ(i:Nat) (a:da)=>ak (bP i 0) c) λ(r:aQ)=>some r)
def yM(x:EK):Option (EK):=letI a:=len x.1;ak (cV (b5 0 a a) (af a a)) (some (sub x.1 0 a,()))
def At(x:pJ×Int×Unit):Option (B7):=letI c:=x.1.2.2.2;letI e:=c.2.2.2.2;letI b:=e.2.2.2.2.2;letI d:=b.2.2.2;ob (u0 (x.1.2.2.1,())) λ(a:aQ)=>T a.1 (ob (yM (d.2.2.1,())) λ(a:EK)=>ob (n4 (x.1,())) λ(ba:ql)=>ak (cj 128 (bF (aV a.1) (aV [(5,ba.1,0,aP UInt8,())]))) (some ((x.1.1,x.1.2.1,x.2.1,c.1,c.2.1,0,0,e.1,0,(0,BP,()),EU,m6,b.1,b.2.1,aP aa,d.1,d.2.1,cm a.1 [(5,ba.1,0,aP UInt8,())],d.2.2.2),()))) (some ((x.1.1,x.1.2.1,x.2.1,c.1,c.2.1,0,0,e.1,0,(0,BP,()),EU,m6,b.1,b.2.1,aP aa,d),()))
def Ep(x:bL):Option (bL):=T (af x.1.1.2.2.1 8) (some (x.1,())) (ob (At (x.1.1,8,())) λ(a:B7)=>some (((a.1.1,a.1.2.1,a.1.2.2.1,a.1.2.2.2.1, -1,0,0,0,0,(0,BP,()),EU,m6,0,0,aP aa,W7,aP (Int×aa×Unit),a.1.2.2.2.2.2.2.2.2.2.2.2.2.2.2.2.2.2.1,[0,0,0,0],()),x.1.2),()))
def I3(x:c8):Option (cw):=ob (T (aF x.1 1) (some (true,())) (some (aF 4611686018427387904 x.1,()))) λ(a:aQ)=>T a.1 (some (aP UInt8,1,())) (ob (pT (x.1,8,())) λ(a:cw)=>ak (cj 1 (bF (aV [u8 121,u8 101,u8 116,u8 116]) (aV a.1))) (ob (O_ (cm [u8 121,u8 101,u8 116,u8 116] a.1,())) λ(ba:dk)=>letI b:=cut ba.1 (ab 0) (ce (ab 8) (ab 0));ak (b5 0 8 (len ba.1)) (ak (cj 1 (bF (aV a.1) (aV b))) (some (cm a.1 b,0,())))))
def I2(x:dk):Option (kX):=ob (lR (x.1,0,8,())) λ(a:EB)=>T (aZ (af a.2.2.1 0)) (some (0,false,())) (ob (I3 (a.1,())) λ(ba:cw)=>ob (T (aZ (af ba.2.1 0)) (some (true,())) (ob (Cq (ba.1,x.1,())) λ(a:aQ)=>some (aZ a.1,()))) λ(b0:aQ)=>T b0.1 (some (0,false,())) (some (a.1,true,())))
def VR(x:Int×Int×Bool×Bool×Unit):Option (kX):=ob (T x.2.2.2.1 (T (aZ x.2.2.1) (some (true,())) (some (aF x.1 x.2.1,()))) (some (false,()))) λ(a:aQ)=>T a.1 (some (1,true,())) (some (0,x.2.2.1,()))
def I1(x:Wk):Option (Wl):=ob (I2 (x.1.1,())) λ(a:kX)=>ob (I2 (x.1.2.1,())) λ(ba:kX)=>ob (VR (a.1,ba.1,a.2.1,ba.2.1,())) λ(b0:kX)=>ob (T (af b0.1 1) (some (ba.1,())) (some (a.1,()))) λ(a:c8)=>some (a.1,b0.1,b0.2.1,())
def Ev(x:I7):Option (dk):=letI c:=aP UInt8;letI d:=len x.1;b_ (bC (λ(V:f6)=>letI j:=V.2.1;letI e:=aC V.1 (len (an x.1 (ab j) c));T (aF j d) (ak (aK j d) (T (aF (i64 e) 0) none (some (aE.nx (i64 e,i64 (aC j 1),()))))) (some (aE.ex 0 (V.1,j,())))) (0,0,())) (λ(a:f6)=>none) (λ(i:Nat) (a:f6)=>letI b:=i64 (bg a.1 (i64 (bg 0 0)));letI h:=bM (ab b) (u8 0);ak (bP i 0) (T (aF a.1 0) none (T (aF 0 b) (ak (b5 0 0 0) (ak (cV (b? 0 b) (cj 1 (ab b))) (ak (b5 0 0 (len h)) (b_ (bC (λ(V:cw)=>letI k:=V.2.1;letI f:=an x.1 (ab k) c;T (aF k d) (ak (aK k d) (ak (cj 1 (bF (aV V.1) (aV f))) (some (aE.nx (cm V.1 f,i64 (aC k 1),()))))) (some (aE.ex 2 (V.1,k,())))) (cut h (ab 0) (ce (ab 0) (ab 0)),0,())) (λ(a:cw)=>none) (λ(i:Nat) (a:cw)=>ak (bP i 2) (some (a.1,()))) λ(r:dk)=>some r)))) (b_ (bC (λ(V:cw)=>letI l:=V.2.1;letI g:=an x.1 (ab l) c;T (aF l d) (ak (aK l d) (ak (cj 1 (bF (aV V.1) (aV g))) (some (aE.nx (cm V.1 g,i64 (aC l 1),()))))) (some (aE.ex 2 (V.1,l,())))) (aP UInt8,0,())) (λ(a:cw)=>none) (λ(i:Nat) (a:cw)=>ak (bP i 2) (some (a.1,()))) λ(r:dk)=>some r)))) λ(r:dk)=>some r
def Og(x:(aa×aa×Unit)×Int×Unit):Option (aht):=letI b:=x.1.2;letI e:=len x.1.1;letI f:=len b.1;ob (I1 (x.1,())) λ(a:Wl)=>T (aZ a.2.2.1) (some (x.1,0,12,())) (ob (I3 (i64 (aC a.1 1),())) λ(ba:cw)=>T (aZ (af ba.2.1 0)) (some (x.1,0,10,())) (ob (T (b? 0 x.2.1) (some (aF x.2.1 16,())) (some (false,()))) λ(b0:aQ)=>ob (T (aZ b0.1) (some (16,())) (some (x.2.1,()))) λ(bq:c8)=>letI c:=b5 0 bq.1 (len ba.1);letI d:=ce (ab bq.1) (ab 0);T (af a.2.1 0) (ak c (ak (b5 bq.1 f f) (ob (Ev ([cut ba.1 (ab 0) d,sub b.1 bq.1 f],())) λ(dc:dk)=>T b0.1 (some ((x.1.1,dc.1,b.2),0,11,())) (some ((x.1.1,dc.1,b.2),a.1,0,()))))) (ak c (ak (b5 bq.1 e e) (ob (Ev ([cut ba.1 (ab 0) d,sub x.1.1 bq.1 e],())) λ(dc:dk)=>T b0.1 (some ((dc.1,b),0,11,())) (some ((dc.1,b),a.1,0,())))))))
def IU(x:bL):Option (JW):=letI b:=x.1.1.2;letI d:=b.2.2.2;ob (Og (b.2.2.1,d.1,())) λ(a:aht)=>letI c:=a.2.2.1;T (af c 0) (some (((x.1.1.1,b.1,b.2.1,a.1, -1,d.2),x.1.2),a.2.1,c,())) (T (af c 11) (ob (Ep (((x.1.1.1,b.1,b.2.1,a.1,d),x.1.2),())) λ(ba:bL)=>some (ba.1,a.2.1,c,())) (some (((x.1.1.1,b.1,b.2.1,a.1,d),x.1.2),a.2.1,c,())))
def tr(x:fo):Option (bL):=ob (At (x.1.1,x.2.1,())) λ(a:B7)=>some ((a.1,x.1.2),())
def Er(x:fo):Option (bL):=ob (Bg (x.1,(true,x.2.1,0,0,0,aP UInt8,aP UInt8,0,()),())) λ(a:bL)=>some (a.1,())
def IR(x:bL):Option (fo):=ob (T (af x.1.1.2.2.1 7) (some (true,())) (some (af x.1.1.2.2.1 8,()))) λ(a:aQ)=>T a.1 (some (x.1,11,())) (ob (IU (x.1,())) λ(a:JW)=>T (aZ (af a.2.2.1 0)) (some (a.1,a.2.2.1,())) (ob (tr (a.1,1,())) λ(ba:bL)=>letI b:=ba.1.1.2;ob (Er (((ba.1.1.1,b.1,b.2.1,b.2.2.1,b.2.2.2.1,a.2.1,b.2.2.2.2.2),ba.1.2),1,())) λ(a:bL)=>some (a.1,0,())))
def N7(x:bL):Option (fo):=letI c:=x.1.1.2.2;letI b:=c.2.2.2.2;letI d:=b.2.2.2.2;ob (q9 (c.1,4,())) λ(a:kX)=>T (af c.1 6) (some (x.1,9,())) (T (aZ a.2.1) (some (x.1,7,())) (T (af a.1 0) (ob (tr (x.1,a.1,())) λ(a:bL)=>some (a.1,0,())) (ob (Ix (d.1,())) λ(ba:tW)=>ob (Er (((x.1.1.1,x.1.1.2.1,a.1,c.2.1,c.2.2.1,c.2.2.2.1,b.1,b.2.1,b.2.2.1,b.2.2.2.1,ba.1,d.2.1,d.2.2.1,d.2.2.2.1,aP aa,d.2.2.2.2.2),x.1.2),2,())) λ(a:bL)=>some (a.1,0,()))))
def N3(x:bL):Option (fo):=ob (yv (x.1.1.2.2.1,())) λ(a:aQ)=>T (aZ a.1) (some (x.1,7,())) (T (aZ (af x.1.1.2.2.2.2.2.2.2.2.2.2.2.1.1 0)) (some (x.1,9,())) (ob (Er (x.1,301,())) λ(a:bL)=>some (a.1,0,())))
def tu(x:fo):Option (bL):=ob (q9 (x.1.1.2.2.1,x.2.1,())) λ(a:kX)=>some (((x.1.1.1,x.1.1.2.1,a.1,x.1.1.2.2.2),x.1.2),())
def N2(x:bL):Option (bL):=ob (I1 (x.1.1.2.2.2.1,())) λ(a:Wl)=>T a.2.2.1 (ob (tu (x.1,11,())) λ(a:bL)=>some (a.1,())) (ob (tu (x.1,12,())) λ(a:bL)=>some (a.1,()))
def IV(x:fo):Option (bL):=letI e:=x.1.1;letI c:=e.2.2.2;letI b:=c.2.2.2.2.2;letI d:=b.2.2.2.2.2;ob (yM (d.2.2.2.2.1,())) λ(a:EK)=>ob (n4 (e,())) λ(ba:ql)=>ak (cj 128 (bF (aV a.1) (aV [(x.2.1,ba.1,0,aP UInt8,())]))) (some (((e.1,e.2.1,e.2.2.1,c.1,c.2.1,c.2.2.1,c.2.2.2.1,c.2.2.2.2.1,b.1,b.2.1,b.2.2.1,b.2.2.2.1,b.2.2.2.2.1,d.1,d.2.1,d.2.2.1,d.2.2.2.1,cm a.1 [(x.2.1,ba.1,0,aP UInt8,())],d.2.2.2.2.2),x.1.2),()))
def N4(x:bL):Option (bL):=T (aZ (af x.1.1.2.2.1 2)) (some (x.1,())) (ob (tu (x.1,3,())) λ(a:bL)=>ob (IV (a.1,4,())) λ(a:bL)=>some (a.1,()))
def N5(x:bL):Option (bL):=letI b:=x.1.1.2.2.1;letI c:=some (x.1,());T (af b 1) (T (af b 1) (ob (tr (x.1,0,())) λ(a:bL)=>some (a.1,())) c) (T (af b 3) (T (af b 3) (ob (tr (x.1,0,())) λ(a:bL)=>some (a.1,())) c) (T (af b 6) (ob (tr (x.1,0,())) λ(a:bL)=>some (a.1,())) c))
def IW(x:xp):Option (bL):=ob (q1 (x.2.1,0,())) λ(a:rr)=>ob (p' (a.1,())) λ(a:cw)=>ob (n5 (x.1,a.1,())) λ(a:fo)=>some (a.1,())
def tt(x:bL):Option (bL):=ob (kS (x.1,13,())) λ(a:bL)=>some (a.1,())
def N6(x:xp):Option (bL):=letI f:=x.1.1.2;letI d:=x.2.1;letI b:=f.2.2.2.2;letI g:=b.2.2.2;letI c:=xs (g.2.2.2.1,d.2.1,d.2.2.1,());letI e:=tt (x.1,());letI h:=IW (x.1,d,());T (af d.2.1 301) (T d.1 (ob h λ(a:bL)=>some (a.1,())) (ob c λ(a:aQ)=>T a.1 (some (((x.1.1.1,f.1,f.2.1,f.2.2.1,f.2.2.2.1,b.1,b.2.1,b.2.2.1,g.1,g.2.1,g.2.2.1,m6,g.2.2.2.2),x.1.2),())) (ob e λ(a:bL)=>some (a.1,())))) (T (af d.2.1 2) (T d.1 (ob h λ(a:bL)=>ob (tr (a.1,0,())) λ(a:bL)=>some (a.1,())) (ob c λ(a:aQ)=>T a.1 (ob (tr (x.1,0,())) λ(a:bL)=>some (a.1,())) (ob e λ(a:bL)=>some (a.1,())))) (ob e λ(a:bL)=>some (a.1,())))
def IY(x:fa×d'×Int×Unit):Option (bL):=ob (q1 (x.2.1,0,())) λ(a:rr)=>ob (p' (a.1,())) λ(a:cw)=>ob (Dr (x.1,x.2.2.1,a.1,())) λ(a:fo)=>some (a.1,())
def Nx(x:dk):Option (tV):=T (aZ (af (len x.1) 32)) (some (EU,1,())) (some (((1,x.1,()),ke,ke,0,1,()),0,()))
def Et(x:JW):Option (bL):=letI d:=x.1.1.2;letI b:=d.2.2;letI c:=b.2.2.2.2;letI e:=x.2.2.1;ob (n4 ((x.1.1.1,d.1,d.2.1,b.1,b.2.1,x.2.1,e,cX c.1 e,c.2),())) λ(a:ql)=>ob (As (d.1,a.1,1,aP UInt8,())) λ(a:dk)=>ob (Nx (a.1,())) λ(a:tV)=>some (((x.1.1.1,d.1,d.2.1,b.1,b.2.1,x.2.1,e,cX c.1 e,c.2.1,c.2.2.1,a.1,c.2.2.2.2),x.1.2),())
def N_(x:fa×d'×Int×Unit):Option (bL):=letI e:=some (true,());letI c:=x.1.1.2.2;letI b:=T (af c.1 7) e (some (af c.1 8,()));letI d:=x.2.2.1;letI f:=tt (x.1,());ob (T (af c.1 1) (T (af x.1.1.1 0) e b) b) λ(a:aQ)=>T a.1 (ob f λ(a:bL)=>some (a.1,())) (ob (u0 (c.1,())) λ(a:aQ)=>ob (T a.1 (some (af c.2.2.2.2.1 d,())) (some (false,()))) λ(a:aQ)=>T a.1 (ob (IY (x.1,x.2.1,d,())) λ(a:bL)=>some (a.1,())) (T (b? d c.2.2.2.2.2.1) (ob f λ(a:bL)=>some (a.1,())) (ob (IU (x.1,())) λ(a:JW)=>T (af a.2.2.1 0) (ob (tr (a.1,2,())) λ(ba:bL)=>ob (Et (ba.1,a.2.1,d,())) λ(a:bL)=>ob (IY (a.1,x.2.1,d,())) λ(a:bL)=>some (a.1,())) (T (af a.2.2.1 11) (some (a.1,())) (ob (tt (a.1,())) λ(a:bL)=>some (a.1,()))))))
def N9(x:fo):Option (bL):=ob (Et (x.1,x.1.1.2.2.2.2.2.1,x.2.1,())) λ(a:bL)=>ob (tu (a.1,1,())) λ(a:bL)=>letI d:=a.1.1.2;letI b:=d.2.2.2;letI c:=b.2.2.2;ob (IV (((a.1.1.1,d.1,d.2.1,d.2.2.1,b.1,b.2.1,b.2.2.1,c.1,c.2.1,c.2.2.1,c.2.2.2.1,m6,c.2.2.2.2.2),a.1.2),4,())) λ(a:bL)=>ob (Er (a.1,301,())) λ(a:bL)=>some (a.1,())
def IQ(x:fa×dr×d'×Unit):Option (bL):=letI f:=x.1.1;letI b:=some (false,());letI c:=i64 (bg 1 f.1);letI d:=x.2.1.2.2.1;letI e:=x.2.2.1;letI g:=an d (ab f.1) 0;letI h:=tt (x.1,());ak (aK c (bb 2)) (ak (aK f.1 (bb 2)) (ob (T (aZ (af e.2.1 1)) (some (true,())) (some (aF (an d (ab c) 0) 1,()))) λ(a:aQ)=>T a.1 (ob h λ(a:bL)=>some (a.1,())) (ob (T e.1 (some (af g 0,())) b) λ(a:aQ)=>T a.1 (ob (N_ (x.1,e,an d (ab c) 0,())) λ(a:bL)=>some (a.1,())) (ob (T (aZ e.1) (T (af e.2.2.2.1 0) (T (af f.2.2.1 1) (T (af g f.2.2.2.2.2.1) (ob (xs (f.2.2.2.2.2.2.2.2.2.2.2.1,e.2.1,e.2.2.1,())) λ(a:aQ)=>some (a.1,())) b) b) b) b) λ(a:aQ)=>T a.1 (ob (N9 (x.1,an d (ab c) 0,())) λ(a:bL)=>some (a.1,())) (ob h λ(a:bL)=>some (a.1,()))))))
def Gc(x:tz):Option (aQ):=letI b:=some (false,());letI c:=some (true,());ob (Hh (x.1.1,())) λ(a:c8)=>T (af a.1 1) (T (af a.1 1) c b) (T (af a.1 2) (T (af a.1 2) c b) (T (af a.1 4) c b))
def CT(x:tz):Option (aQ):=ob (qU (x.1,39,())) λ(a:qk)=>ob (T a.2.1 (some (seq a.1 [57,49],())) (some (false,()))) λ(a:aQ)=>some (a.1,())
def Lo(x:cw):Option (cw):=letI b:=some (true,());ob (Dk (x.1,())) λ(a:m0)=>ob (T (aF x.2.1 0) b (T (aF 999999 x.2.1) b (T (aZ (af a.2.1 0)) b (ob (Gc (a.1,())) λ(ba:aQ)=>T (aZ ba.1) b (ob (CT (a.1,())) λ(a:aQ)=>some (a.1,())))))) λ(ba:aQ)=>T ba.1 (some (aP UInt8,1,())) (ob (uc (x.2.1,6,())) λ(b0:cw)=>ak (cj 1 (aV b0.1)) (ob (ko (a.1,15,b0.1,())) λ(a:m0)=>ob (Ao (a.1,())) λ(a:cw)=>T (aF 900 (len a.1)) (some (aP UInt8,4,())) (some (a.1,0,()))))
def M3(x:I7):Option (aa×List aa×Bool×Unit):=letI b:=len x.1;T (af b 0) (some (aP UInt8,x.1,false,())) (ak (aK 0 b) (ak (b5 1 b b) (ob (ag2 (sub x.1 1 b,())) λ(a:I7)=>some (an x.1 (ab 0) (aP UInt8),a.1,true,()))))
def kM(x:bL):Option (bL):=b_ (bC (λ(x:bL)=>letI e:=some (aE.ex 0 (x.1,()));ob (M3 (x.1.1.2.2.2.2.2.2.2.2.2.2.2.2.2.2.1,())) λ(a:aa×List aa×Bool×Unit)=>T (aZ a.2.2.1) e (ob (n5 (x.1,a.1,())) λ(ba:fo)=>letI c:=ba.1.1.2.2;letI b:=c.2.2.2.2;letI d:=b.2.2.2.2;T (aZ (af ba.2.1 0)) e (some (aE.nx (((ba.1.1.1,ba.1.1.2.1,c.1,c.2.1,c.2.2.1,c.2.2.2.1,b.1,b.2.1,b.2.2.1,b.2.2.2.1,d.1,d.2.1,d.2.2.1,d.2.2.2.1,a.2.1,d.2.2.2.2.2),ba.1.2),()))))) (x.1,())) (λ(a:bL)=>none) (λ(i:Nat) (a:bL)=>ak (bP i 0) (some (a.1,()))) λ(r:bL)=>some r
def M2(x:List aa×aa×Int×Unit):Option (List aa×Int×Unit):=ob (Ig (x.1,[x.2.1],x.2.2.1,())) λ(a:List aa×Int×Int×Unit)=>ob (T (af a.2.2.1 0) (some (af a.2.1 0,())) (some (false,()))) λ(ba:aQ)=>T ba.1 (some (x.1,8,())) (some (a.1,a.2.2.1,()))
def Gb(x:fa×Int×Int×aa×Unit):Option (bL):=letI e:=x.1.1;letI c:=e.2.2.2;letI b:=c.2.2.2.2.2;letI d:=b.2.2.2.2.2;ob (yM (d.2.2.2.2.1,())) λ(a:EK)=>ob (n4 (e,())) λ(ba:ql)=>ak (cj 128 (bF (aV a.1) (aV [(x.2.1,ba.1,x.2.2.1,x.2.2.2.1,())]))) (some (((e.1,e.2.1,e.2.2.1,c.1,c.2.1,c.2.2.1,c.2.2.2.1,c.2.2.2.2.1,b.1,b.2.1,b.2.2.1,b.2.2.2.1,b.2.2.2.2.1,d.1,d.2.1,d.2.2.1,d.2.2.2.1,cm a.1 [(x.2.1,ba.1,x.2.2.1,x.2.2.2.1,())],d.2.2.2.2.2),x.1.2),()))
def Lp(x:B6):Option (fo):=letI c:=x.1.1.2.2;letI b:=c.2.2.2.2.2;letI d:=b.2.2.2.2;ob (Lo (x.2.1,d.2.2.1,())) λ(a:cw)=>T (aZ (af a.2.1 0)) (some (x.1,a.2.1,())) (ob (yv (c.1,())) λ(ba:aQ)=>T (aZ ba.1) (some (x.1,7,())) (ob (M2 (d.2.2.2.1,a.1,8,())) λ(b0:List aa×Int×Unit)=>T (aZ (af b0.2.1 0)) (some (x.1,b0.2.1,())) (ob (Gb (((x.1.1.1,x.1.1.2.1,c.1,c.2.1,c.2.2.1,c.2.2.2.1,c.2.2.2.2.1,b.1,b.2.1,b.2.2.1,b.2.2.2.1,d.1,d.2.1,d.2.2.1,b0.1,d.2.2.2.2),x.1.2),1,0,a.1,())) λ(a:bL)=>ob (kM (a.1,())) λ(a:bL)=>some (a.1,0,()))))
def Lm(x:fo):Option (fo):=letI b:=x.1.1.2.2;letI c:=b.2.2.2.2.2.2.2.2.2;letI d:=some (true,());ob (T (b? x.2.1 c.2.2.1) d (some (aF 999999 x.2.1,()))) λ(a:aQ)=>T a.1 (some (x.1,1,())) (ob (yv (b.1,())) λ(a:aQ)=>T (aZ a.1) (some (x.1,7,())) (ob (T (aZ (af b.1 3)) d (some (aZ (af c.1.1 0),()))) λ(a:aQ)=>T a.1 (some (x.1,9,())) (ob (q9 (b.1,7,())) λ(a:kX)=>ob (Bg (((x.1.1.1,x.1.1.2.1,a.1,b.2),x.1.2),(true,201,0,0,0,aP UInt8,aP UInt8,x.2.1,()),())) λ(a:bL)=>some (a.1,0,()))))
def CS(x:bL):Option (bL):=letI d:=x.1.1.2;letI b:=d.2.2.2;letI c:=b.2.2.2;ob (q9 (d.2.1,8,())) λ(a:kX)=>some (((x.1.1.1,d.1,a.1,d.2.2.1,b.1,b.2.1,b.2.2.1,c.1,c.2.1,c.2.2.1,c.2.2.2.1,m6,c.2.2.2.2.2),x.1.2),())
def Ln(x:bL):Option (bL):=T (aZ (af x.1.1.2.2.1 5)) (some (x.1,())) (ob (CS (x.1,())) λ(a:bL)=>some (a.1,()))
def R1(x:xp):Option (bL):=letI c:=x.1.1.2.2;letI b:=c.2.2.2.2;letI d:=b.2.2.2.2;ob (q1 (x.2.1,0,())) λ(a:rr)=>ob (p' (a.1,())) λ(a:cw)=>ob (n5 (((x.1.1.1,x.1.1.2.1,c.1,c.2.1,c.2.2.1,c.2.2.2.1,b.1,b.2.1,b.2.2.1,b.2.2.2.1,d.1,d.2.1,d.2.2.1,cX d.2.2.2.1 x.2.1.2.2.2.2.2.2.2.1,d.2.2.2.2),x.1.2),a.1,())) λ(a:fo)=>some (a.1,())
def Ll(x:xp):Option (bL):=letI c:=x.1.1.2.2;letI b:=c.2.2.2.2.2;letI d:=b.2.2.2.2;ob (T (aZ (af c.1 5)) (some (true,())) (ob (xs (d.1,x.2.1.2.1,x.2.1.2.2.1,())) λ(a:aQ)=>some (aZ a.1,()))) λ(a:aQ)=>T a.1 (ob (kS (x.1,13,())) λ(a:bL)=>some (a.1,())) (ob (DJ (d.1.2.2.2.2.1,())) λ(a:rr)=>T (af x.2.1.2.2.2.1 0) (ob (CS (((x.1.1.1,x.1.1.2.1,c.1,c.2.1,c.2.2.1,c.2.2.2.1,c.2.2.2.2.1,b.1,b.2.1,b.2.2.1,b.2.2.2.1,d.1,d.2.1,cX d.2.2.1 a.1.2.2.2.2.2.2.2.1,d.2.2.2),x.1.2),())) λ(a:bL)=>some (a.1,())) (ob (CS (x.1,())) λ(a:bL)=>some (a.1,())))
def R4(x:Bm):Option (c8):=T x.1 (some (x.2.1,())) (some (x.2.2.1,()))
def Lr(x:tz):Option (aQ):=letI b:=ej (i64 (ga x.1.1 10)) 10;letI c:=CT (x.1,());ob (T (af b 1) (ob c λ(a:aQ)=>some (a.1,())) (T (af b 3) (ob c λ(a:aQ)=>some (a.1,())) (some (false,())))) λ(a:aQ)=>some (a.1,())
def Lq(x:fa×(Int×List (Int×aa×Unit)×Unit)×Unit):Option (bL):=ob (L9 (x.2.1.1,())) λ(a:kX)=>T (aZ a.2.1) (ob (kS (x.1,13,())) λ(a:bL)=>some (a.1,())) (ob (ko ((a.1,aP (Int×aa×Unit),()),39,[u8 57,u8 49],())) λ(a:m0)=>ob (qU (x.2.1,11,())) λ(ba:qk)=>T ba.2.1 (ob (ko (a.1,11,ba.1,())) λ(a:m0)=>ob (Ao (a.1,())) λ(a:cw)=>ob (n5 (x.1,a.1,())) λ(a:fo)=>some (a.1,())) (ob (Ao (a.1,())) λ(a:cw)=>ob (n5 (x.1,a.1,())) λ(a:fo)=>some (a.1,())))
def Ga(x:fa×dr×(Int×List (Int×aa×Unit)×Unit)×Unit):Option (bL):=ob (Gc (x.2.2.1,())) λ(a:aQ)=>T (aZ a.1) (ob (kS (x.1,13,())) λ(a:bL)=>some (a.1,())) (ob (yv (x.1.1.2.2.1,())) λ(a:aQ)=>T a.1 (ob (Lr (x.2.2.1,())) λ(a:aQ)=>ob (R4 (a.1,3,2,())) λ(a:c8)=>ob (Gb (x.1,a.1,x.2.1.2.2.2.2.1,x.2.1.2.2.2.2.2.1,())) λ(a:bL)=>some (a.1,())) (T (af x.1.1.2.2.1 6) (ob (Lq (x.1,x.2.2.1,())) λ(a:bL)=>some (a.1,())) (ob (kS (x.1,13,())) λ(a:bL)=>some (a.1,()))))
end Yp
namespace Yp
open Go
abbrev dg:=List pJ×dw×List (Int×Int×aa×Unit)×List (Int×Int×aa×Unit)×List (List (Int×List Int×Int×aa×Unit))×Unit
def nz(x:aa×Unit):Option (aa×Unit):=ak (cj 1 (aV x.1)) (some (x.1,()))
def I0(x:List (Int×Int×aa×Unit)×Unit):Option (List (Int×Int×aa×Unit)×Unit):=ak (cj 80 (aV x.1)) (some (x.1,()))
end Yp
namespace Yp
abbrev l6:=Int×(dg×Unit)×Unit
abbrev sj:=(dg×Unit)×Int×Unit
abbrev py:=(dg×Unit)×Unit
abbrev w6:=(dg×Unit)×gB×Unit
abbrev EO:=(dg×Unit)×fa×Unit
abbrev WR:=Int×Int×dg×Unit
abbrev OM:=dg×Int×Unit
abbrev Jo:=dg×Unit
end Yp
namespace Yp
open Go
def K6(x:dk):Option (dr×Int×Unit):=letI f:=len x.1;letI a:=i64 (bg f 16);letI h:=nz (sub x.1 30 a,());letI i:=nz (sub x.1 a f,());letI j:=aK 0 (bb 1);letI k:=aK (i64 (aC 0 1)) (bb 2);letI m:=b5 30 a f;letI n:=aK 0 (bb 2);letI o:=b5 a f f;letI v:=aK 1 (bb 2);T (aF f 47) (some (oj,3,())) <| T (aF 946 f) (some (oj,4,())) <| ak n <| ob (lR (x.1,0,1,())) λgT=>letI u:=cX 0 gT.2.1;ak k <| ob (lR (x.1,u,1,())) λcK=>letI b:=cX (u) cK.2.1;T (af gT.2.2.1 0) (ak n <| ak v <| ak n <| ob (lR (x.1,b,8,())) λcU=>letI g:=cX (b) cU.2.1;T (af cK.2.2.1 0) (ak k <| ob (lR (x.1,g,8,())) λdj=>letI l:=cX (g) dj.2.1;T (af cU.2.2.1 0) (ak j <| ob (lR (x.1,l,4,())) λeT=>letI r:=cX (l) eT.2.1;T (af dj.2.2.1 0) (ak j <| ob (lR (x.1,r,8,())) λlm=>T (af eT.2.2.1 0) (ak m <| ob h λc=>ak o <| ob i λd=>ob (T (aZ (af lm.2.2.1 0)) (some (true,())) (ob (CG ((gT.1,cK.1,cg (cg [0,0] (ab 0) cU.1) (ab 1) dj.1,eT.1,lm.1,c.1,d.1,()),())) λe=>some (aZ e.1,()))) λp=>T p.1 (some (oj,2,())) (some ((gT.1,cK.1,cg (cg [0,0] (ab 0) cU.1) (ab 1) dj.1,eT.1,lm.1,c.1,d.1,()),0,()))) (ak m <| ob h λc=>ak o <| ob i λd=>some (oj,2,()))) (ak j <| ob (lR (x.1,r,8,())) λlm=>ak m <| ob h λc=>ak o <| ob i λd=>some (oj,2,()))) (ak j <| ob (lR (x.1,l,4,())) λeT=>ak j <| ob (lR (x.1,(cX (l) eT.2.1),8,())) λlm=>ak m <| ob h λc=>ak o <| ob i λd=>some (oj,2,()))) (ak k <| ob (lR (x.1,g,8,())) λdj=>letI s:=cX (g) dj.2.1;ak j <| ob (lR (x.1,s,4,())) λeT=>ak j <| ob (lR (x.1,(cX (s) eT.2.1),8,())) λlm=>ak m <| ob h λc=>ak o <| ob i λd=>some (oj,2,()))) (ak n <| ak v <| ak n <| ob (lR (x.1,b,8,())) λcU=>letI q:=cX (b) cU.2.1;ak k <| ob (lR (x.1,q,8,())) λdj=>letI t:=cX (q) dj.2.1;ak j <| ob (lR (x.1,t,4,())) λeT=>ak j <| ob (lR (x.1,(cX (t) eT.2.1),8,())) λlm=>ak m <| ob h λc=>ak o <| ob i λd=>some (oj,2,()))
def Of(x:Unit):Option (Wk):=ob (I3 (1,())) λ(a:cw)=>ak (cV (b5 0 16 16) (cj 1 (ab 16))) (some ((a.1,bM (ab 16) (u8 0),()),()))
def F0(x:ha):Option (pJ×Int×Unit):=letI b:=some (true,());ob (T (aF x.1 0) b (T (aF 1 x.1) b (some (aZ (af (len x.2.1) 32),())))) λ(a:aQ)=>T a.1 (some (kD,1,())) (ob (Of ()) λ(a:Wk)=>some ((x.1,x.2.1,0,a.1, -1,0,0,0,0,(0,BP,()),EU,m6,0,0,aP aa,W7,aP (Int×aa×Unit),aP (Int×List Int×Int×aa×Unit),[0,0,0,0],()),0,()))
def ae2(x:aQ):Option (dw×Unit):=some ((x.1,aP (aa×aa×Unit),false,()),())
def tI(x:qk):Option (OM):=b_ (bC (λ(V:WR)=>letI b:=V.2.1;T (aF b 2) (ob (F0 (b,x.1,())) λ(a:pJ×Int×Unit)=>T (aZ (af a.2.1 0)) (some (aE.rt (([kD,kD],(false,aP (aa×aa×Unit),false,()),aP (Int×Int×aa×Unit),aP (Int×Int×aa×Unit),[aP (Int×List Int×Int×aa×Unit),aP (Int×List Int×Int×aa×Unit)],()),a.2.1,()))) (ak (aK b (bb 2)) (some (aE.nx (V.1,i64 (aC b 1),(cg V.2.2.1.1 (ab b) a.1,V.2.2.1.2),()))))) (some (aE.ex 0 (V.1,b,V.2.2.1,())))) (0,0,([kD,kD],(false,aP (aa×aa×Unit),false,()),aP (Int×Int×aa×Unit),aP (Int×Int×aa×Unit),[aP (Int×List Int×Int×aa×Unit),aP (Int×List Int×Int×aa×Unit)],()),())) (λ(a:WR)=>none) (λ(i:Nat) (a:WR)=>ak (bP i 0) (ob (ae2 (x.2.1,())) λ(ba:dw×Unit)=>some ((a.2.2.1.1,ba.1,a.2.2.1.2.2),0,()))) λ(r:OM)=>some r
def rh(x:f6):Option (aQ):=ob (T (b? 0 x.1) (some (aF x.1 x.2.1,())) (some (false,()))) λ(a:aQ)=>some (a.1,())
def Ry(x:B7):Option (Xt):=letI c:=x.1.2.2.2;letI a:=c.2.2.2.2.2;letI b:=a.2.2.2.2.2;some ((x.1.1,x.1.2.1,x.1.2.2.1,c.1,c.2.1,c.2.2.1,c.2.2.2.1,c.2.2.2.2.1,a.1,a.2.1,a.2.2.1,a.2.2.2.1,a.2.2.2.2.1,b.1,b.2.1,b.2.2.1,aP (Int×aa×Unit),aP (Int×List Int×Int×aa×Unit),b.2.2.2.2.2),b.2.2.2.1,b.2.2.2.2.1,())
def Eu(x:w2):Option (w2):=letI a:=len x.1;ak (cV (b5 0 a a) (af a a)) (some (sub x.1 0 a,()))
def BK(x:sj):Option (EO):=ak (aK x.2.1 (bb 2)) (some (x.1,(an x.1.1.1 (ab x.2.1) kD,x.1.1.2.1,()),()))
def G3(x:c8):Option (aQ):=ob (T (b? 0 x.1) (some (aF x.1 4,())) (some (false,()))) λ(a:aQ)=>some (a.1,())
def G4(x:ef×Int×Bool×Unit):Option (vC):=letI b:=aK x.2.1 (bb 4);letI c:=ab x.2.1;ob (G3 (x.2.1,())) λ(a:aQ)=>T (aZ a.1) (some (x.1,1,())) (ak b (T (qD (an x.1.1 c false) x.2.2.1) (some (x.1,9,())) (ak b (ak b (some ((cg x.1.1 c x.2.2.1,cg x.1.2.1 c vl,x.1.2.2),0,()))))))
def LZ(x:vC):Option (vC):=ob (G4 (x.1,x.2.1,false,())) λ(a:vC)=>some (a.1,a.2.1,())
def Rz(x:fo):Option (fo):=letI c:=x.1.1.2.2;letI b:=c.2.2.2.2.2;letI d:=b.2.2.2.2;ob (LZ (d.2.2.2.2.1,x.2.1,())) λ(a:vC)=>some (((x.1.1.1,x.1.1.2.1,c.1,c.2.1,c.2.2.1,c.2.2.2.1,c.2.2.2.2.1,b.1,b.2.1,b.2.2.1,b.2.2.2.1,d.1,d.2.1,d.2.2.1,d.2.2.2.1,a.1,d.2.2.2.2.2),x.1.2),a.2.1,())
def Jr(x:sj):Option (py):=b_ (bC (λ(V:l6)=>T (aF V.1 2) (ob (BK (V.2.1,V.1,())) λ(a:EO)=>ob (Rz (a.2.1,x.2.1,())) λ(ba:fo)=>T (af ba.2.1 0) (ak (aK V.1 (bb 2)) (some (aE.nx (i64 (aC V.1 1),((cg a.1.1.1 (ab V.1) ba.1.1,a.1.1.2),a.1.2),())))) (some (aE.nx (i64 (aC V.1 1),a.1,())))) (some (aE.ex 0 (V.1,V.2.1,())))) (0,x.1,())) (λ(a:l6)=>none) (λ(i:Nat) (a:l6)=>letI d:=a.2.1.1;ak (bP i 0) (ob (I0 (d.2.2.1,())) λ(ba:w2)=>letI e:=some (((d.1,d.2.1,ba.1,d.2.2.2),a.2.1.2),());b_ (bC (λ(V:f6)=>letI m:=V.2.1;T (aF m (len ba.1)) (ak (aK m (len ba.1)) (T (af (an ba.1 (ab m) eR).2.1 x.2.1) (some (aE.ex 999999999 (m,m,()))) (some (aE.nx (V.1,i64 (aC m 1),()))))) (some (aE.ex 0 (V.1,m,())))) (0,0,())) (λ(a:f6)=>none) (λ(i:Nat) (b0:f6)=>T (bP i 999999999) (T (af b0.1 (-1)) e (b_ (bC (λ(V:Jf)=>letI f:=V.2.2.1;letI n:=V.2.1;letI p:=an f (ab n) eR;T (aF n (len f)) (ak (aK n (len f)) (T (aZ (af p.2.1 x.2.1)) (ak (aK V.1 (len f)) (some (aE.nx (i64 (aC V.1 1),i64 (aC n 1),cg f (ab V.1) p,())))) (some (aE.nx (V.1,i64 (aC n 1),f,()))))) (some (aE.ex 0 (V.1,n,f,())))) (b0.1,i64 (aC b0.1 1),ba.1,())) (λ(a:Jf)=>none) (λ(i:Nat) (bq:Int×Int×List (Int × Int×aa×Unit)×Unit)=>letI k:=ab bq.1;letI h:=len bq.2.2.1;letI s:=ce (ab h) k;letI b:=ea bq.2.2.1 k s (bM s eR);ak (bP i 0) (ak (b5 bq.1 h h) (ak (b5 0 bq.1 (len b)) (some (((d.1,d.2.1,cut b (ab 0) (ce k (ab 0)),d.2.2.2),a.2.1.2),()))))) λ(r:Unit)=>none)) (ak (bP i 0) (T (af (-1) (-1)) e (b_ (bC (λ(V:Jf)=>letI g:=V.2.2.1;letI o:=V.2.1;letI q:=an g (ab o) eR;T (aF o (len g)) (ak (aK o (len g)) (T (aZ (af q.2.1 x.2.1)) (ak (aK V.1 (len g)) (some (aE.nx (i64 (aC V.1 1),i64 (aC o 1),cg g (ab V.1) q,())))) (some (aE.nx (V.1,i64 (aC o 1),g,()))))) (some (aE.ex 0 (V.1,o,g,())))) (-1,i64 (aC (-1) 1),ba.1,())) (λ(a:Jf)=>none) (λ(i:Nat) (bq:Jf)=>letI l:=ab bq.1;letI j:=len bq.2.2.1;letI t:=ce (ab j) l;letI c:=ea bq.2.2.1 l t (bM t eR);ak (bP i 0) (ak (b5
 bq.1 j j) (ak (b5 0 bq.1 (len c)) (some (((d.1,d.2.1,cut c (ab 0) (ce l (ab 0)),d.2.2.2),a.2.1.2),()))))) λ(r:Unit)=>none)))) λ(r:Unit)=>none)) λ(r:Unit)=>none
def OQ(x:py):Option (py):=b_ (bC (λ(x:l6)=>T (aF x.1 4) (ob (Jr (x.2.1,x.1,())) λ(a:py)=>some (aE.nx (i64 (aC x.1 1),a.1,()))) (some (aE.ex 0 (x.1,x.2.1,())))) (0,x.1,())) (λ(a:l6)=>none) (λ(i:Nat) (a:l6)=>ak (bP i 0) (some (a.2.1,()))) λ(r:Unit)=>none
def y6(x:(dg×Unit)×Int×fa×Unit):Option (py):=letI c:=aK x.2.1 (bb 2);letI d:=x.1.1.2.2;letI e:=ab x.2.1;ak c (ob (Ry (x.2.2.1.1,())) λ(a:Xt)=>ak c (ak c (ob (yM (an d.2.2.1 e (aP (Int×List Int×Int×aa×Unit)),())) λ(ba:EK)=>ak (cj 128 (bF (aV ba.1) (aV a.2.2.1))) (ak c (b_ (bC (λ(V:l6)=>letI g:=an a.2.1 (ab V.1) ke;letI b:=(i64 (bg 1 x.2.1),g.1,g.2.1,());letI f:=V.2.1;T (aF V.1 (len a.2.1)) (ak (aK V.1 (len a.2.1)) (ob (Eu (f.1.2.2.1,())) λ(b0:w2)=>ak (cj 80 (bF (aV b0.1) (aV [b]))) (ob (Eu (f.1.2.2.2.1,())) λ(bq:w2)=>ak (cj 80 (bF (aV bq.1) (aV [b]))) (some (aE.nx (i64 (aC V.1 1),((f.1.1,f.1.2.1,cm b0.1 [b],cm bq.1 [b],f.1.2.2.2.2),f.2),())))))) (some (aE.ex 0 (V.1,f,())))) (0,((cg x.1.1.1 e a.1,x.2.2.1.2.1,d.1,d.2.1,cg d.2.2.1 e (cm ba.1 a.2.2.1),d.2.2.2),x.1.2),())) (λ(a:l6)=>none) (λ(i:Nat) (b0:l6)=>ak (bP i 0) (ob (T (af a.1.2.2.1 8) (some (aZ (af (an x.1.1.1 e kD).2.2.1 8),())) (some (false,()))) λ(a:aQ)=>T a.1 (ob (OQ (b0.2.1,())) λ(a:py)=>some (a.1,())) (some (b0.2.1,())))) λ(r:Unit)=>none)))))
def RX(x:dk):Option (c8):=ak (aK 0 (len x.1)) (ak (aK 1 (len x.1)) (some (i64 (g? IntKind.i64 (i64 (hU IntKind.i64 (i64 (aN (an x.1 (ab 0) (u8 0)))) (cz (u64 8)))) (i64 (aN (an x.1 (ab 1) (u8 0))))),())))
def Lk(x:(aa×Int×Int×Unit)×aa×Unit):Option (Wc):=ob (Ev ([x.1.1,x.2.1],())) λ(a:dk)=>b_ (bC (λ(x:V?)=>letI j:=x.2.1;letI g:=len j;letI f:=x.2.2.1;letI h:=f.2.2;letI c:=g8 f.2.1 g;letI b:=sub j c g;letI e:=some (aE.ex 0 (x.1,sub j c g,(f.1,i64 (bg f.2.1 c),h),()));ak (b5 c g g) (T (aF (len b) 2) e (ob (RX (sub j c g,())) λ(a:c8)=>letI d:=i64 (aC 2 a.1);ob (T (af a.1 0) (some (true,())) (some (aF 1024 a.1,()))) λ(ba:aQ)=>T ba.1 (T (b? d (len b)) (some (aE.nx (x.1,sub j c g,(f.1,i64 (aC 2 a.1),i64 (aC h.1 1),h.2),()))) (some (aE.ex 0 (x.1,aP UInt8,(f.1,i64 (bg d (len b)),i64 (aC h.1 1),h.2),())))) (T (aF (len b) d) e (ak (cV (b5 2 d (len b)) (af d d)) (ak (cj 32 (bF (aV x.1) (aV [sub b 2 d]))) (ak (b5 d (len b) (len b)) (some (aE.nx (cm x.1 [sub b 2 d],sub b d (len b),(f.1,i64 (bg f.2.1 c),h),())))))))))) (aP aa,a.1,x.1,())) (λ(a:V?)=>none) (λ(i:Nat) (a:V?)=>ak (bP i 0) (ob (nz (a.2.1,())) λ(ba:dk)=>some ((ba.1,a.2.2.1.2),a.1,()))) λ(r:Wc)=>some r
def L0(x:ef×Int×aa×Unit):Option (ef×List aa×Int×Unit):=letI b:=aK x.2.1 (bb 4);letI c:=ab x.2.1;ob (G3 (x.2.1,())) λ(a:aQ)=>T (aZ a.1) (some (x.1,aP aa,1,())) (ak b (T (aZ (an x.1.1 c false)) (some (x.1,aP aa,11,())) (ak b (ob (Lk (an x.1.2.1 c vl,x.2.2.1,())) λ(a:Wc)=>ak b (some ((x.1.1,cg x.1.2.1 c a.1,x.1.2.2),a.2.1,0,()))))))
def Iw(x:tV):Option (qk):=ob (NB ((x.1,()),())) λ(a:re)=>b_ (bC (λ(V:da)=>letI c:=V.2.1;letI b:=an a.1 (ab c) ke;T (aF c 3) (ak (aK c (bb 3)) (ob (T (aF 0 x.2.1) (some (af b.1 x.2.1,())) (some (false,()))) λ(ba:aQ)=>T ba.1 (some (aE.rt (b.2.1,true,()))) (some (aE.nx (V.1,i64 (aC c 1),()))))) (some (aE.ex 0 (V.1,c,())))) (false,0,())) (λ(a:da)=>none) (λ(i:Nat) (a:da)=>ak (bP i 0) (some (aP UInt8,false,()))) λ(r:qk)=>some r
def DY(x:dw×aa×aa×aa×Unit):Option (Px):=letI b:=x.1.2;letI c:=x.1.1;ob (DZ (x.2.1,x.2.2.1,())) λ(a:dk)=>ob (Dx (a.1,x.2.2.2.1,())) λ(a:aQ)=>T (aZ a.1) (some (x.1,false,())) (ob (Ic (x.1,x.2.1,x.2.2.1,())) λ(a:aQ)=>T b.2.1 (T a.1 (some ((c,b.1,true,b.2.2),true,())) (some ((c,b.1,true,b.2.2),aZ c,()))) (T a.1 (some ((c,b.1,aZ a.1,b.2.2),true,())) (some ((c,b.1,aZ a.1,b.2.2),aZ c,()))))
def Mg(x:B6):Option (fa×Nat×dr×Unit):=letI b:=some (false,());letI c:=x.1.1;letI d:=x.1.2;ob (K6 (x.2.1,())) λ(a:dr×Int×Unit)=>letI e:=a.1.2.2;letI f:=xM (a.1,());T (af a.2.1 0) (ob (T (af a.1.2.1 (i64 (bg 1 c.1))) (T (aZ (af c.2.2.1 7)) (some (aZ (af c.2.2.1 8),())) b) b) λ(ba:aQ)=>T ba.1 (ob (Ar (c.2.1,())) λ(b0:dk)=>T (af a.1.1 2) (ob (Iw (c.2.2.2.2.2.2.2.2.2.2.1,e.2.1,())) λ(bq:qk)=>ob (u0 (c.2.2.1,())) λ(dc:aQ)=>ob (T dc.1 (ob (n4 (c,())) λ(fE:ql)=>T (nN (λ(p q:Int)=>af p q) e.1 fE.1) (some (bq.2.1,())) b) b) λ(fE:aQ)=>T fE.1 (ob f λ(kH:cw)=>ob (DY (d.1,bq.1,kH.1,e.2.2.2.2.1,())) λ(i7:Px)=>T i7.2.1 (some ((c,i7.1,d.2),0,a.1,())) (some ((c,i7.1,d.2),5,oj,()))) (some (x.1,13,oj,()))) (ob f λ(bq:cw)=>ob (DY (d.1,b0.1,bq.1,e.2.2.2.2.1,())) λ(dc:Px)=>T dc.2.1 (some ((c,dc.1,d.2),0,a.1,())) (some ((c,dc.1,d.2),5,oj,())))) (some (x.1,13,oj,()))) (some (x.1,2,oj,()))
def Jp(x:c8):Option (V9):=letI a:=ej x.1 1024;ak (b? 0 (ej a 64)) (some (i64 (ga a 64),u64 (hU IntKind.u64 (cz (u64 1)) (ej a 64)),()))
def ON(x:Bu):Option (aQ):=ob (Jp (x.2.1,())) λ(a:V9)=>ak (aK a.1 (bb 16)) (some (aZ (af (cz (u64 (i9 IntKind.u64 (cz (an x.1.2.1 (ab a.1) (u64 0))) (cz a.2.1)))) (cz (u64 0))),()))
def WS(x:Bu):Option (aQ):=letI b:=some (false,());letI c:=x.2.1;ob (T (b? 0 c) (T (b? c 4611686018427387904) (T (b? x.1.1 c) (some (true,())) (T (b? (i64 (bg x.1.1 1024)) c) (ob (ON (x.1,c,())) λ(a:aQ)=>some (aZ a.1,())) b)) b) b) λ(a:aQ)=>some (a.1,())
def y2(x:(Int×List UInt64×Unit)×Int×Bool×Unit):Option (Jh):=letI e:=x.1.2;ob (Jp (x.2.1,())) λ(a:V9)=>letI d:=ab a.1;letI b:=u64 (g? IntKind.u64 (cz (an e.1 d (u64 0))) (cz a.2.1));letI c:=aK a.1 (bb 16);ak c (ak c (T (aZ x.2.2.1) (ak c (ak c (some ((x.1.1,cg (cg e.1 d b) d (u64 (fO IntKind.u64 (cz (an (cg e.1 d b) d (u64 0))) (cz a.2.1))),e.2),())))) (some ((x.1.1,cg e.1 d b,e.2),()))))
def EP(x:Bu):Option (Bu):=letI c:=x.2.1;letI b:=i64 (bg c x.1.1);letI d:=g8 (cX b 0) 1024;letI e:=i64 (aC c 1);ob (T (aF c 0) (some (true,())) (some (aF 4611686018427387904 c,()))) λ(a:aQ)=>T a.1 (some (x.1,1,())) (ob (WS (x.1,c,())) λ(a:aQ)=>T (aZ a.1) (some (x.1,6,())) (T (b? 1024 b) (b_ (bC (λ(V:EL)=>T (aF V.1 d) (ob (y2 (V.2.1,i64 (aC V.2.1.1 V.1),false,())) λ(a:Jh)=>some (aE.nx (i64 (aC V.1 1),a.1,()))) (some (aE.ex 0 (V.1,V.2.1,())))) (0,(x.1.1,BP,x.1.2.2),())) (λ(a:EL)=>none) (λ(i:Nat) (a:EL)=>ak (bP i 0) (ob (y2 ((cX a.2.1.1 e,a.2.1.2),c,true,())) λ(a:Jh)=>some (a.1,0,()))) λ(r:Bu)=>some r) (b_ (bC (λ(V:EL)=>T (aF V.1 d) (ob (y2 (V.2.1,i64 (aC V.2.1.1 V.1),false,())) λ(a:Jh)=>some (aE.nx (i64 (aC V.1 1),a.1,()))) (some (aE.ex 0 (V.1,V.2.1,())))) (0,x.1,())) (λ(a:EL)=>none) (λ(i:Nat) (a:EL)=>ak (bP i 0) (ob (y2 ((cX a.2.1.1 e,a.2.1.2),c,true,())) λ(a:Jh)=>some (a.1,0,()))) λ(r:Bu)=>some r)))
def Mf(x:B6):Option (fa×dr×Int×Unit):=ob (Mg (x.1,x.2.1,())) λ(a:fa×Nat×dr×Unit)=>letI d:=a.1.1.2;letI b:=d.2.2.2;letI c:=b.2.2.2;letI e:=a.2.2.1;letI f:=c.2.2.2;T (bP a.2.1 0) (T (aZ (af e.1 2)) (some (a.1,e,0,())) (ob (EP (c.2.2.1,e.2.2.2.2.1,())) λ(ba:Bu)=>T (af ba.2.1 0) (ob (T (af e.2.2.2.1 f.1.2.2.1.1) (some (aZ (af d.2.1 4),())) (some (false,()))) λ(b0:aQ)=>T b0.1 (ob (A8 (f.1,())) λ(bq:tV)=>some (((a.1.1.1,d.1,d.2.1,d.2.2.1,b.1,b.2.1,b.2.2.1,c.1,c.2.1,ba.1,bq.1,f.2),a.1.2),e,0,())) (some (((a.1.1.1,d.1,d.2.1,d.2.2.1,b.1,b.2.1,b.2.2.1,c.1,c.2.1,ba.1,f),a.1.2),e,0,()))) (ob (kS (a.1,bb 6,())) λ(a:bL)=>some (a.1,oj,bb 6,())))) (T (bP a.2.1 2) (ob (kS (a.1,bb 2,())) λ(a:bL)=>some (a.1,oj,bb 2,())) (T (bP a.2.1 13) (ob (kS (a.1,bb 13,())) λ(a:bL)=>some (a.1,oj,bb 13,())) (ak (bP a.2.1 5) (ob (kS (a.1,bb 5,())) λ(a:bL)=>some (a.1,oj,bb 5,())))))
def F2(x:xp):Option (bL):=letI b:=x.2.1;letI c:=some (false,());letI d:=some (b.1,());letI e:=af b.2.1 101;letI f:=af b.2.1 201;ob (T e d c) λ(a:aQ)=>T a.1 (ob (Nt (x.1,b,())) λ(a:bL)=>some (a.1,())) (T e (ob (Nr (x.1,b,())) λ(a:bL)=>some (a.1,())) (ob (T f d c) λ(a:aQ)=>T a.1 (ob (R1 (x.1,b,())) λ(a:bL)=>some (a.1,())) (T f (ob (Ll (x.1,b,())) λ(a:bL)=>some (a.1,())) (ob (N6 (x.1,b,())) λ(a:bL)=>some (a.1,())))))
def FZ(x:B6):Option (bL):=ob (Mf (x.1,x.2.1,())) λ(a:fa×dr×Int×Unit)=>letI d:=a.2.1;letI b:=af d.1 2;letI c:=d.2.2.2.2.2.1;T (aZ (af a.2.2.1 0)) (some (a.1,())) (T b (ob (N4 (a.1,())) λ(ba:bL)=>ob (DJ (c,())) λ(b0:rr)=>T (af b0.2.1 0) (T b (ob (F2 (ba.1,b0.1,())) λ(a:bL)=>ob (kM (a.1,())) λ(a:bL)=>some (a.1,())) (ob (IQ (ba.1,d,b0.1,())) λ(a:bL)=>ob (kM (a.1,())) λ(a:bL)=>some (a.1,()))) (ob (Dk (c,())) λ(bq:m0)=>T (af bq.2.1 0) (T b (ob (Ga (ba.1,d,bq.1,())) λ(a:bL)=>ob (kM (a.1,())) λ(a:bL)=>some (a.1,())) (ob (kS (ba.1,2,())) λ(a:bL)=>ob (kM (a.1,())) λ(a:bL)=>some (a.1,()))) (ob (kS (ba.1,2,())) λ(a:bL)=>ob (kM (a.1,())) λ(a:bL)=>some (a.1,())))) (ob (DJ (c,())) λ(ba:rr)=>T (af ba.2.1 0) (T b (ob (F2 (a.1,ba.1,())) λ(a:bL)=>ob (kM (a.1,())) λ(a:bL)=>some (a.1,())) (ob (IQ (a.1,d,ba.1,())) λ(a:bL)=>ob (kM (a.1,())) λ(a:bL)=>some (a.1,()))) (ob (Dk (c,())) λ(b0:m0)=>T (af b0.2.1 0) (T b (ob (Ga (a.1,d,b0.1,())) λ(a:bL)=>ob (kM (a.1,())) λ(a:bL)=>some (a.1,())) (ob (kS (a.1,2,())) λ(a:bL)=>ob (kM (a.1,())) λ(a:bL)=>some (a.1,()))) (ob (kS (a.1,2,())) λ(a:bL)=>ob (kM (a.1,())) λ(a:bL)=>some (a.1,())))))
def K3(x:fa×Int×aa×Unit):Option (bL):=letI d:=x.1.1.2.2.2;letI f:=d.2.2.2;letI b:=f.2.2.2;letI g:=b.2.2.2;letI c:=g.2.2.2;letI h:=aK x.2.1 (bb 4);letI j:=aK 0 (bb 4);ob (L0 (c.1,x.2.1,x.2.2.1,())) λ(a:ef×List aa×Int×Unit)=>T (aZ (af a.2.2.1 0)) (some (x.1,())) (ak j (ak h (ak h (ak j (b_ (bC (λ(x:B5)=>letI e:=some (aE.ex 0 (x.1,x.2.1,()));T (aF x.1 (len a.2.1)) (ak (aK x.1 (len a.2.1)) (T (af x.2.1.1.2.2.1 8) e (ob (FZ (x.2.1,an a.2.1 (ab x.1) (aP UInt8),())) λ(a:bL)=>some (aE.nx (i64 (aC x.1 1),a.1,()))))) e) (0,((x.1.1.1,x.1.1.2.1,x.1.1.2.2.1,d.1,d.2.1,d.2.2.1,f.1,f.2.1,f.2.2.1,b.1,b.2.1,b.2.2.1,g.1,g.2.1,g.2.2.1,a.1,c.2.1,c.2.2.1,cg c.2.2.2.1 (ab 0) (i64 (aC (an c.2.2.2.1 (ab 0) 0) (i64 (bg (an a.1.2.1 (ab x.2.1) vl).2.2.1 (an c.1.2.1 (ab x.2.1) vl).2.2.1)))),c.2.2.2.2),x.1.2),())) (λ(a:B5)=>none) (λ(i:Nat) (a:B5)=>ak (bP i 0) (some (a.2.1,()))) λ(r:bL)=>some r)))))
def EQ(x:(dg×Unit)×Int×Int×aa×Unit):Option (py):=ob (BK (x.1,x.2.1,())) λ(a:EO)=>ob (K3 (a.2.1,x.2.2.1,x.2.2.2.1,())) λ(ba:bL)=>ob (y6 (a.1,x.2.1,ba.1,())) λ(a:py)=>some (a.1,())
def Js(x:w6):Option (sj):=letI i:=x.1.1.2;letI d:=x.2.1.2.2;letI k:=ab d.1;letI c:=an i.2.1 k eR;letI m:=c.2.2.1;letI h:=i64 (aC d.1 1);letI j:=len m;letI o:=d.2.1;letI p:=ce k (ab 0);ob (rh (d.1,len i.2.1,())) λ(a:aQ)=>T (aZ a.1) (some (x.1,12,())) (ak (aK d.1 (len i.2.1)) (ob (I0 (i.2.1,())) λ(a:w2)=>letI g:=len a.1;letI b:=cut a.1 (ab h) (ce (ab g) (ab h));letI e:=bF p (aV b);letI f:=ea a.1 (bF (ab 0) p) (aV b) b;letI l:=an a.1 k eR;letI n:=ce (ab g) (ab (bb e));ob (T (aF 0 o) (some (aF o j,())) (some (false,()))) λ(ba:aQ)=>T ba.1 (ak (b5 o j j) (ak (aK d.1 g) (ak (b5 0 o j) (ob (EQ (((x.1.1.1,i.1,cg a.1 k (l.1,l.2.1,sub m o j,l.2.2.2),i.2.2),x.1.2),c.1,c.2.1,sub m 0 o,())) λ(a:py)=>some (a.1,0,()))))) (ak (cV (b5 d.1 h g) (b? g g)) (T (af d.1 h) (ob (EQ (((x.1.1.1,i.1,a.1,i.2.2),x.1.2),c.1,c.2.1,m,())) λ(a:(dg × Unit)×Unit)=>some (a.1,0,())) (ak (b5 0 d.1 g) (ak (b5 h g g) (ak (kv (bF (ab 0) e) (bF (aV a.1) 1)) (ak (cV (kv (ab 0) (bF (aV f) 1)) (b5 (bb e) g (bg (len f) (bb (ab 0))))) (ob (EQ (((x.1.1.1,i.1,cut (ea f (bF (ab 0) (ab (bb e))) n (bM n eR)) (ab 0) e,i.2.2),x.1.2),c.1,c.2.1,m,())) λ(a:py)=>some (a.1,0,()))))))))))
def Nz(x:tW):Option (tW):=letI b:=x.1.2.2;letI a:=i64 (bg b.2.1 1);T (af (cX 0 a) 0) (some ((x.1.1,ke,b.1,cX 0 a,b.2.2),())) (some ((x.1.1,x.1.2.1,b.1,cX 0 a,b.2.2),()))
def Cj(x:gB×Unit):Option (Pv):=letI b:=x.1.2.2.2;letI c:=aF 0 b.1;letI d:=bg x.1.2.2.1 1;ob (Fx (x.1,())) λ(a:aQ)=>T a.1 (some (x.1,false,false,())) (T (aF 0 (i64 d)) (some ((x.1.1,x.1.2.1,i64 d,b),false,false,())) (T c (some ((x.1.1,x.1.2.1,8,i64 (bg b.1 1),b.2),aF 0 b.1,aZ c,())) (some (m6,aF 0 b.1,aZ c,()))))
def CE(x:fa×gB×Unit):Option (bL):=letI b:=x.2.1.2.2.2.2.1;T (af x.2.1.1 1) (ob (Dr (x.1,0,b,())) λ(a:fo)=>some (a.1,())) (ob (n5 (x.1,b,())) λ(a:fo)=>some (a.1,()))
def CF(x:bL):Option (bL):=T (af x.1.1.2.2.1 4) (ob (Is (x.1,())) λ(a:bL)=>some (a.1,())) (T (af x.1.1.2.2.1 5) (ob (Ln (x.1,())) λ(a:bL)=>some (a.1,())) (ob (N5 (x.1,())) λ(a:bL)=>some (a.1,())))
def F1(x:bL):Option (bL):=letI e:=x.1.1;letI c:=e.2.2;letI b:=c.2.2.2;letI d:=b.2.2.2;letI f:=d.2.2;letI g:=c.2.2.1;letI h:=b.2.2.1;letI i:=e.2.1;letI j:=c.2.1;letI k:=b.2.1;letI l:=d.2.1;letI m:=x.1.2;letI n:=f.2.2;letI o:=Cj (f.2.1,());ob (T (af c.1 7) (some (true,())) (some (af c.1 8,()))) λ(a:aQ)=>T a.1 (some (x.1,())) (ob (u0 (c.1,())) λ(a:aQ)=>T a.1 (ob (Nz (f.1,())) λ(a:tW)=>T (af d.1 4611686018427387904) (ob (IR (((e.1,i,c.1,j,g,b.1,k,h,d.1,l,a.1,f.2),m),())) λ(a:fo)=>some (a.1,())) (ob o λ(ba:Pv)=>T ba.2.1 (ob (CE (((e.1,i,c.1,j,g,b.1,k,h,d.1,l,a.1,ba.1,n),m),ba.1,())) λ(a:bL)=>ob (kM (a.1,())) λ(a:bL)=>some (a.1,())) (T ba.2.2.1 (ob (CF (((e.1,i,c.1,j,g,b.1,k,h,d.1,l,a.1,ba.1,n),m),())) λ(a:bL)=>ob (kM (a.1,())) λ(a:bL)=>some (a.1,())) (ob (kM (((e.1,i,c.1,j,g,b.1,k,h,d.1,l,a.1,ba.1,n),m),())) λ(a:bL)=>some (a.1,()))))) (ob o λ(a:Pv)=>T a.2.1 (ob (CE (((e.1,i,c.1,j,g, b.1,k,h,d.1,l,f.1,a.1,n),m),a.1,())) λ(a:bL)=>ob (kM (a.1,())) λ(a:bL)=>some (a.1,())) (T a.2.2.1 (ob (CF (((e.1,i,c.1,j,g,b.1,k,h,d.1,l,f.1,a.1,n),m),())) λ(a:bL)=>ob (kM (a.1,())) λ(a:bL)=>some (a.1,())) (ob (kM (((e.1,i,c.1,j,g,b.1,k,h,d.1,l,f.1,a.1,n),m),())) λ(a:bL)=>some (a.1,())))))
def sk(x:OM):Option (Jo):=b_ (bC (λ(V:l6)=>T (aF V.1 (cX 0 x.2.1)) (b_ (bC (λ(x:l6)=>ob (T (aF 0 x.1) (some (aF 0 (len x.2.1.1.2.2.1),())) (some (false,()))) λ(a:aQ)=>T a.1 (ob (Js (x.2.1,m6,())) λ(a:sj)=>some (aE.nx (i64 (bg x.1 1),a.1,()))) (some (aE.ex 2 (x.1,x.2.1,())))) (len V.2.1.1.2.2.1,V.2.1,())) (λ(a:l6)=>none) (λ(i:Nat) (a:l6)=>ak (bP i 2) (b_ (bC (λ(x:l6)=>T (aF x.1 2) (ob (BK (x.2.1,x.1,())) λ(a:EO)=>ob (F1 (a.2.1,())) λ(ba:bL)=>ob (y6 (a.1,x.1,ba.1,())) λ(a:py)=>some (aE.nx (i64 (aC x.1 1),a.1,()))) (some (aE.ex 4 (x.1,x.2.1,())))) (0,a.2.1,())) (λ(a:l6)=>none) (λ(i:Nat) (a:l6)=>ak (bP i 4) (some (aE.nx (i64 (aC V.1 1),a.2.1,())))) λ(r:Jo)=>some (aE.rt r))) λ(r:Jo)=>some (aE.rt r)) (some (aE.ex 0 (V.1,V.2.1,())))) (0,(x.1,()),())) (λ(a:l6)=>none) (λ(i:Nat) (a:l6)=>ak (bP i 0) (some (a.2.1.1,()))) λ(r:Jo)=>some r
def OT(x:w6):Option (sj):=letI h:=x.2.1.2.2.1;letI c:=ce (ab h) (ab 0);letI d:=i64 (aC h 1);letI i:=x.1.1.2;ob (rh (h,len i.2.1,())) λ(a:aQ)=>T (aZ a.1) (some (x.1,12,())) (ob (I0 (i.2.1,())) λ(a:w2)=>letI e:=len a.1;letI b:=cut a.1 (ab d) (ce (ab e) (ab d));letI f:=bF c (aV b);letI g:=ea a.1 (bF (ab 0) c) (aV b) b;letI j:=ce (ab e) (ab (bb f));ak (cV (b5 h d e) (b? e e)) (T (af h d) (some (((x.1.1.1,i.1,a.1,i.2.2),x.1.2),0,())) (ak (b5 0 h e) (ak (b5 d e e) (ak (kv (bF (ab 0) f) (bF (aV a.1) 1)) (ak (cV (kv (ab 0) (bF (aV g) 1)) (b5 (bb f) e (bg (len g) (bb (ab 0))))) (some (((x.1.1.1,i.1,cut (ea g (bF (ab 0) (ab (bb f))) j (bM j eR)) (ab 0) f,i.2.2),x.1.2),0,()))))))))
def OP(x:w6):Option (sj):=letI b:=x.1.1.2.2;letI c:=x.2.1.2.2.1;ob (rh (c,len b.2.1,())) λ(a:aQ)=>T (aZ a.1) (some (x.1,12,())) (ob (Eu (b.1,())) λ(a:w2)=>ak (aK c (len b.2.1)) (ak (cj 80 (bF (aV a.1) (aV [an b.2.1 (ab c) eR]))) (some (((x.1.1.1,x.1.1.2.1,cm a.1 [an b.2.1 (ab c) eR],b.2),x.1.2),0,()))))
def OW(x:w6):Option (sj):=letI e:=x.1.1.2.2;letI c:=x.2.1.2.2;letI b:=an e.2.1 (ab c.1) eR;letI f:=aK c.1 (len e.2.1);letI h:=ab c.2.1;letI i:=some (true,());letI j:=len c.2.2.1;ob (rh (c.1,len e.2.1,())) λ(a:aQ)=>ob (T (aZ a.1) i (ak f (ob (rh (c.2.1,len b.2.2.1,())) λ(a:aQ)=>T (aZ a.1) i (some (af j 0,()))))) λ(a:aQ)=>T a.1 (some (x.1,12,())) (ak f (ob (nz (b.2.2.1,())) λ(a:dk)=>letI d:=u8 (fO IntKind.u8 (aN (an a.1 h (u8 0))) (aN (an c.2.2.1 (ab 0) (u8 0))));letI g:=aK c.2.1 (len a.1);ak g (ak (aK 0 j) (ak g (ob (Eu (e.1,())) λ(ba:w2)=>ak (cj 80 (bF (aV ba.1) (aV [(b.1,b.2.1,cg a.1 h d,b.2.2.2)]))) (some (((x.1.1.1,x.1.1.2.1,cm ba.1 [(b.1,b.2.1,cg a.1 h d,b.2.2.2)],e.2),x.1.2),0,())))))))
def OU(x:w6):Option (sj):=letI b:=x.2.1.2;ob (rh (b.1,2,())) λ(a:aQ)=>T (aZ a.1) (some (x.1,1,())) (ob (EQ (x.1,b.1,b.2.1,b.2.2.2.1,())) λ(a:py)=>some (a.1,0,()))
def L1(x:vC):Option (vC):=letI b:=aK x.2.1 (bb 4);ob (G4 (x.1,x.2.1,true,())) λ(a:vC)=>T (af a.2.1 0) (ak b (ak b (some ((a.1.1,a.1.2.1,cg a.1.2.2.1 (ab x.2.1) (i64 (aC (an a.1.2.2.1 (ab x.2.1) 0) 1)),a.1.2.2.2),a.2.1,())))) (some (a.1,a.2.1,()))
def K5(x:fo):Option (fo):=letI c:=x.1.1.2.2;letI b:=c.2.2.2.2.2;letI d:=b.2.2.2.2;T (af c.1 8) (some (x.1,11,())) (ob (L1 (d.2.2.2.2.1,x.2.1,())) λ(a:vC)=>T (aZ (af a.2.1 0)) (some (x.1,a.2.1,())) (ob (kM (((x.1.1.1,x.1.1.2.1,c.1,c.2.1,c.2.2.1,c.2.2.2.1,c.2.2.2.2.1,b.1,b.2.1,b.2.2.1,b.2.2.2.1,d.1,d.2.1,d.2.2.1,d.2.2.2.1,a.1,d.2.2.2.2.2),x.1.2),())) λ(a:bL)=>some (a.1,0,())))
def OV(x:w6):Option (sj):=letI b:=x.2.1.2.2.1;letI c:=an x.1.1.1 (ab 0) kD;letI d:=an x.1.1.1 (ab 1) kD;letI e:=some (true,());letI f:=aK 0 (bb 2);letI g:=aK 1 (bb 2);letI h:=aK b (bb 4);ak f (ob (T (af c.2.2.1 8) e (ak g (some (af d.2.2.1 8,())))) λ(a:aQ)=>T a.1 (some (x.1,11,())) (ob (rh (b,4,())) λ(a:aQ)=>T (aZ a.1) (some (x.1,1,())) (ak f (ak h (ob (T (an c.2.2.2.2.2.2.2.2.2.2.2.2.2.2.2.1.1 (ab b) false) e (ak g (ak h (some (an d.2.2.2.2.2.2.2.2.2.2.2.2.2.2.2.1.1 (ab b) false,()))))) λ(a:aQ)=>T a.1 (some (x.1,9,())) (b_ (bC (λ(V:l6)=>T (aF V.1 2) (ob (BK (V.2.1,V.1,())) λ(a:EO)=>ob (K5 (a.2.1,b,())) λ(ba:fo)=>ob (y6 (a.1,V.1,ba.1,())) λ(a:py)=>some (aE.nx (i64 (aC V.1 1),a.1,()))) (some (aE.ex 1 (V.1,V.2.1,())))) (0,x.1,())) (λ(a:l6)=>none) (λ(i:Nat) (a:l6)=>ak (bP i 1) (some (a.2.1,0,()))) λ(r:Unit)=>none))))))
def OS(x:w6):Option (sj):=ob (rh (x.2.1.2.2.1,4,())) λ(a:aQ)=>T (aZ a.1) (some (x.1,1,())) (ob (Jr (x.1,x.2.1.2.2.1,())) λ(a:py)=>some (a.1,0,()))
def OR(x:w6):Option (sj):=T (aF x.2.1.2.2.1 0) (some (x.1,1,())) (ob (sk (x.1.1,g8 x.2.1.2.2.1 100,())) λ(a:Jo)=>some ((a.1,x.1.2),0,()))
def K4(x:fa×gB×Unit):Option (fo):=letI b:=x.2.1.1;letI c:=x.2.1.2.2;letI d:=x.1.1.2;T (af b 0) (ob (Lp (x.1,c.2.2.1,())) λ(a:fo)=>some (a.1,a.2.1,())) (T (af b 1) (ob (IR (x.1,())) λ(a:fo)=>some (a.1,a.2.1,())) (T (af b 2) (ob (N7 (x.1,())) λ(a:fo)=>some (a.1,a.2.1,())) (T (af b 3) (ob (N3 (x.1,())) λ(a:fo)=>some (a.1,a.2.1,())) (T (af b 4) (ob (Ns (x.1,c.2.2.1,())) λ(a:fo)=>some (a.1,a.2.1,())) (T (af b 5) (ob (Lm (x.1,c.1,())) λ(a:fo)=>some (a.1,a.2.1,())) (T (af b 6) (ob (F1 (x.1,())) λ(a:bL)=>some (a.1,0,())) (T (af b 14) (ob (Ep (x.1,())) λ(a:bL)=>some (a.1,0,())) (T (af b 15) (T (aZ (af d.2.1 8)) (some (x.1,9,())) (ob (N2 (x.1,())) λ(a:bL)=>some (a.1,0,()))) (T (af b 16) (some (((x.1.1.1,d.1,d.2.1,d.2.2.1,c.1,d.2.2.2.2),x.1.2),0,())) (some (x.1,1,())))))))))))
def qo(x:w6):Option (sj):=letI b:=x.2.1.2.1;ob (rh (b,2,())) λ(a:aQ)=>T (aZ a.1) (some (x.1,1,())) (ob (BK (x.1,b,())) λ(a:EO)=>ob (K4 (a.2.1,x.2.1,())) λ(ba:fo)=>ob (y6 (a.1,b,ba.1,())) λ(a:py)=>some (a.1,ba.2.1,()))
def vi(x:dg×gB×Unit):Option (OM):=letI c:=x.2.1;letI b:=qo ((x.1,()),c,());T (af c.1 7) (ob (Js ((x.1,()),c,())) λa=>some (a.1.1,a.2.1,())) <| T (af c.1 8) (ob (OT ((x.1,()),c,())) λa=>some (a.1.1,a.2.1,())) <| T (af c.1 9) (ob (OP ((x.1,()),c,())) λa=>some (a.1.1,a.2.1,())) <| T (af c.1 10) (ob (OW ((x.1,()),c,())) λa=>some (a.1.1,a.2.1,())) <| T (af c.1 11) (ob (OU ((x.1,()),c,())) λa=>some (a.1.1,a.2.1,())) <| T (af c.1 12) (ob (OV ((x.1,()),c,())) λa=>some (a.1.1,a.2.1,())) <| T (af c.1 13) (ob (OS ((x.1,()),c,())) λa=>some (a.1.1,a.2.1,())) <| T (af c.1 17) (ob (OR ((x.1,()),c,())) λa=>some (a.1.1,a.2.1,())) <| T (af c.1 0) (ob b λa=>some (a.1.1,a.2.1,())) <| T (af c.1 1) (ob b λa=>some (a.1.1,a.2.1,())) <| T (af c.1 2) (ob b λa=>some (a.1.1,a.2.1,())) <| T (af c.1 3) (ob b λa=>some (a.1.1,a.2.1,())) <| T (af c.1 4) (ob b λa=>some (a.1.1,a.2.1,())) <| T (af c.1 5) (ob b λa=>some (a.1.1,a.2.1,())) <| T (af c.1 6) (ob b λa=>some (a.1.1,a.2.1,())) <| T (af c.1 14) (ob b λa=>some (a.1.1,a.2.1,())) <| T (af c.1 15) (ob b λa=>some (a.1.1,a.2.1,())) <| T (af c.1 16) (ob b λa=>some (a.1.1,a.2.1,())) <| some (x.1,1,())
def Np(x:List gB×Int×Unit):Option (Bool×Unit):=letI d:=some (aE.rt (false,()));letI g:=len x.1;letI h:=some (true,());T (aF x.2.1 g) (some (false,())) (b_ (bC (λ(V:Int×Bool×Int×Unit)=>letI e:=V.2.2.1;letI b:=an x.1 (ab e) m6;letI c:=aK e g;T (aF e g) (ak c (T (aF 1200 (len b.2.2.2.2.1)) d (ak c (ob (T (af b.1 17) (some (i64 (aC V.1 1),())) (some (V.1,()))) λ(a:Int×Unit)=>letI f:=some (aF 6 a.1,());ak c (ob (T (af b.1 17) (ak c (T (aF 10 b.2.2.1) h f)) f) λ(ba:Bool×Unit)=>T ba.1 d (some (aE.nx (a.1,V.2.1,i64 (aC e 1),())))))))) (some (aE.ex 0 (V.1,V.2.1,e,())))) (0,false,0,())) (λ(a:Int×Bool×Int×Unit)=>none) (λ(i:Nat) (a:Int×Bool×Int×Unit)=>ak (bP i 0) h) λ(r:Bool×Unit)=>some r)
def my(x:dg×List gB×Unit):Option (dg×List Int×Unit):=b_ (bC (λ(V:List Int×Int×dg×Unit)=>letI b:=V.2.1;T (aF b (len x.2.1)) (ak (aK b (len x.2.1)) (ob (vi (V.2.2.1,an x.2.1 (ab b) m6,())) λ(a:dg×Int×Unit)=>ak (cj 32 (bF (aV V.1) (aV [a.2.1]))) (some (aE.nx (cm V.1 [a.2.1],i64 (aC b 1),a.1,()))))) (some (aE.ex 0 (V.1,b,V.2.2.1,())))) (aP Int,0,x.1,())) (λ(a:List Int×Int×dg×Unit)=>none) (λ(i:Nat) (a:List Int×Int×dg×Unit)=>ak (bP i 0) (some (a.2.2.1,a.1,()))) λ(r:dg×List Int×Unit)=>some r
def A4(x:List (Int×Int×aa×Unit)×List (Int×Int×aa×Unit)×Unit):Option (Bool×Unit):=letI f:=len x.1;letI g:=some (true,());T (aZ (af f (len x.2.1))) (some (false,())) (b_ (bC (λ(V:Bool×Int×Unit)=>letI b:=V.2.1;letI c:=an x.2.1 (ab b) eR;letI d:=aK b (len x.2.1);letI e:=an x.1 (ab b) eR;letI h:=aK b f;T (aF b f) (ak h (ak d (ob (T (aZ (af e.1 c.1)) g (ak h (ak d (T (aZ (af e.2.1 c.2.1)) g (ak h (ak d (ob (q? (e.2.2.1,c.2.2.1,())) λ(a:Bool×Unit)=>some (aZ a.1,())))))))) λ(a:Bool×Unit)=>T a.1 (some (aE.rt (false,()))) (some (aE.nx (V.1,i64 (aC b 1),())))))) (some (aE.ex 0 (V.1,b,())))) (false,0,())) (λ(a:Bool×Int×Unit)=>none) (λ(i:Nat) (a:Bool×Int×Unit)=>ak (bP i 0) g) λ(r:Bool×Unit)=>some r)
def Nn(x:dg×dg×Unit):Option (Bool×Unit):=letI c:=aP (Int×List Int×Int×aa×Unit);letI f:=x.2.1.2.2;b_ (bC (λ(V:Bool×Int×Unit)=>letI e:=V.2.1;letI b:=aK e (bb 2);letI d:=ab e;T (aF e 2) (ak b (ak b (ob (Nl (an x.1.1 d kD,an x.2.1.1 d kD,())) λ(a:Bool×Unit)=>ak b (ak b (ob (Iq (an x.1.2.2.2.2.1 d c,an f.2.2.1 d c,())) λ(ba:Bool×Unit)=>ob (T (aZ a.1) (some (true,())) (some (aZ ba.1,()))) λ(a:Bool×Unit)=>T a.1 (some (aE.rt (false,()))) (some (aE.nx (V.1,i64 (aC e 1),())))))))) (some (aE.ex 0 (V.1,e,())))) (false,0,())) (λ(a:Bool×Int×Unit)=>none) (λ(i:Nat) (a:Bool×Int×Unit)=>ak (bP i 0) (ob (A4 (x.1.2.2.1,f.1,())) λ(a:Bool×Unit)=>ob (T a.1 (ob (A4 (x.1.2.2.2.1,f.2.1,())) λ(a:Bool×Unit)=>some (a.1,())) (some (false,()))) λ(a:Bool×Unit)=>some (a.1,()))) λ(r:Bool×Unit)=>some r
def D'(x:dg×dg×Unit):Option (Bool×Unit):=ob (Nn (x.1,x.2.1,())) λ(a:Bool×Unit)=>ob (T a.1 (ob (Ii (x.1.2.1,x.2.1.2.1,())) λ(a:Bool×Unit)=>some (a.1,())) (some (false,()))) λ(a:Bool×Unit)=>some (a.1,())
def Hy(x:Int×Unit):Option (aa×Unit):=ob (D9 ((x.1,aP (Int×aa×Unit),()),())) λ(a:aa×Int×Unit)=>some (a.1,())
def Ds(x:Unit):Option (Bool×Unit):=letI b:=some (false,());letI d:=aK 0 (bb 2);letI f:=some (true,());ak (cV (b5 0 32 32) (cj 1 (ab 32))) (ob (tI (bM (ab 32) (u8 0),true,())) λ(a:dg×Int×Unit)=>ob (tI (aP UInt8,true,())) λ(ba:dg×Int×Unit)=>ob (Hy (200,())) λ(b0:aa×Unit)=>ob (my (a.1,[(12,0,0,0,aP UInt8,()),(1,0,0,0,aP UInt8,()),(17,0,4,0,aP UInt8,()),(0,1,0,0,b0.1,())],())) λ(bq:dg×List Int×Unit)=>letI e:=len bq.2.1;ob (vi (bq.1,(7,0,0,0,aP UInt8,()),())) λ(dc:dg×Int×Unit)=>letI c:=an dc.1.2.2.2.2.1 (ab 0) (aP (Int×List Int×Int×aa×Unit));ob (vi (bq.1,(8,0,0,0,aP UInt8,()),())) λ(fE:dg×Int×Unit)=>ob (vi (fE.1,(8,0,0,0,aP UInt8,()),())) λ(kH:dg×Int×Unit)=>ob (T (aZ (af e 4)) f (T (aZ (af (len bq.1.2.2.1) 1)) f (ak d (some (aZ (af (len c) 2),()))))) λ(i7:Bool×Unit)=>T i7.1 b (ob (T (af a.2.1 0) (T (af ba.2.1 1) (ak (aK 0 e) (T (af (an bq.2.1 (ab 0) 0) 0) (ak (aK 3 e) (T (af (an bq.2.1 (ab 3) 0) 0) (ak d (T (af (an bq.1.1 (ab 0) kD).2.2.1 3) (ak (aK 1 (bb 2)) (T (af (an bq.1.1 (ab 1) kD).2.2.1 3) (T (af dc.2.1 0) (T (af (len dc.1.2.2.1) 0) (ak d (ak (aK 1 (len c)) (T (af (an c (ab 1) (0,[0,0],0,aP UInt8,())).1 2) (T (af fE.2.1 0) (T (af (len fE.1.2.2.1) 0) (T (af kH.2.1 12) (ob (sk (fE.1,0,())) λ(a:dg×Unit)=>ob (D' (a.1,fE.1,())) λ(a:Bool×Unit)=>some (a.1,())) b) b) b) b))) b) b) b)) b)) b)) b)) b) b) λ(a:Bool×Unit)=>some (a.1,())))
def Na(x:List Int×List Int×Unit):Option (Bool×Unit):=letI c:=len x.1;T (aZ (af c (len x.2.1))) (some (false,())) (b_ (bC (λ(V:Bool×Int×Unit)=>letI b:=V.2.1;T (aF b c) (ak (aK b c) (ak (aK b (len x.2.1)) (T (aZ (af (an x.1 (ab b) 0) (an x.2.1 (ab b) 0))) (some (aE.rt (false,()))) (some (aE.nx (V.1,i64 (aC b 1),())))))) (some (aE.ex 0 (V.1,b,())))) (false,0,())) (λ(a:Bool×Int×Unit)=>none) (λ(i:Nat) (a:Bool×Int×Unit)=>ak (bP i 0) (some (true,()))) λ(r:Bool×Unit)=>some r)
def D_(x:List Int×Unit):Option (List Int×Unit):=b_ (bC (λ(V:List Int×Int×Unit)=>letI b:=V.2.1;T (aF b (len x.1)) (ak (aK b (len x.1)) (ak (cj 32 (bF (aV V.1) (aV [an x.1 (ab b) 0]))) (some (aE.nx (cm V.1 [an x.1 (ab b) 0],i64 (aC b 1),()))))) (some (aE.ex 0 (V.1,b,())))) (aP Int,0,())) (λ(a:List Int×Int×Unit)=>none) (λ(i:Nat) (a:List Int×Int×Unit)=>ak (bP i 0) (some (a.1,()))) λ(r:List Int×Unit)=>some r
def TZ(x:List gB×UInt8×UInt8×Unit):Option (Bool×Unit):=letI d:=len x.1;letI f:=i64 (aC d 1);letI b:=ej (i64 (aN x.2.1)) f;letI c:=some (false,());letI e:=i64 (aN x.2.2.1);ob (Ds ()) λ(a:Bool×Unit)=>ob (Np (x.1,30,())) λ(ba:Bool×Unit)=>T (aZ ba.1) (some (a.1,())) (ak (cV (b5 0 32 32) (cj 1 (ab 32))) (ob (tI (bM (ab 32) (u8 0),true,())) λ(b0:dg×Int×Unit)=>ak (aZ (af f 0)) (ob (my (b0.1,x.1,())) λ(bq:dg×List Int×Unit)=>ak (b5 0 b d) (ob (my (b0.1,sub x.1 0 b,())) λ(dc:dg×List Int×Unit)=>ak (b5 b d d) (ob (my (dc.1,sub x.1 b d,())) λ(fE:dg×List Int×Unit)=>T a.1 (T (af b0.2.1 0) (ob (D' (bq.1,fE.1,())) λ(a:Bool×Unit)=>T a.1 (T (af (len bq.2.1) d) (ob (D_ (bq.2.1,())) λ(a:List Int×Unit)=>ob (D_ (dc.2.1,())) λ(kH:List Int×Unit)=>ob (D_ (fE.2.1,())) λ(i7:List Int×Unit)=>ak (cj 32 (bF (aV kH.1) (aV i7.1))) (ob (Na (a.1,cm kH.1 i7.1,())) λ(a:Bool×Unit)=>T a.1 (ob (sk (bq.1,ej e 5,())) λ(a:dg×Unit)=>ob (sk (a.1,2,())) λ(a:dg×Unit)=>ob (sk (bq.1,i64 (aC (ej e 5) 2),())) λ(sA:dg×Unit)=>ob (D' (a.1,sA.1,())) λ(a:Bool×Unit)=>some (a.1,())) c)) c) c) c) c)))))
def TX(x:aa×Bool×UInt8×Unit):Option (Bool×Unit):=letI b:=some (false,());letI e:=aP (Int×List Int×Int×aa×Unit);letI j:=aK 0 (bb 2);letI k:=aK 1 (bb 2);ob (Ds ()) λ(a:Bool×Unit)=>ak (b5 0 (bb 32) (bb 32)) (ob (tI (cut x.1 (ab 0) (ce (ab (bb 32)) (ab 0)),true,())) λ(ba:dg×Int×Unit)=>ob (T x.2.1 (some (1,())) (some (0,()))) λ(b0:Int×Unit)=>ob (my (ba.1,[(12,0,ej (i64 (aN x.2.2.1)) 4,0,aP UInt8,()),(1,b0.1,0,0,aP UInt8,()),(17,0,4,0,aP UInt8,())],())) λ(bq:dg×List Int×Unit)=>letI h:=bq.1.1;letI c:=an h (ab 0) kD;letI d:=an h (ab 1) kD;letI f:=c.2.2.2.2.2.2.2.2.2.2;letI g:=d.2.2.2.2.2.2.2.2.2.2;letI i:=bq.1.2.2;ob (T (aZ (af ba.2.1 0)) (some (true,())) (some (aZ (af (len bq.2.1) 3),()))) λ(dc:Bool×Unit)=>T dc.1 b (ak j (ak k (ob (T a.1 (T (af c.2.2.1 3) (T (af d.2.2.1 3) (ob (A3 (an h (ab 0) kD,())) λ(a:List Int×Unit)=>T (nN (λ(p q:Int)=>af p q) a.1 [1,1]) (ob (A3 (an h (ab 1) kD,())) λ(a:List Int×Unit)=>T (nN (λ(p q:Int)=>af p q) a.1 [1,1]) (ob (Io (f.1,g.1,())) λ(a:Bool×Unit)=>T a.1 (T (af f.2.1.1 0) (T (af g.2.1.1 0) (T (af (len i.1) 0) (ak j (T (af (len (an i.2.2.1 (ab 0) e)) 1) (ak k (some (af (len (an i.2.2.1 (ab 1) e)) 1,()))) b)) b) b) b) b) b) b) b) b) b) λ(a:Bool×Unit)=>some (a.1,())))))
def TY(x:(UInt8×UInt16×UInt8×UInt8×Unit)×Unit):Option (Bool×Unit):=letI c:=some (true,());letI e:=aP (Int×List Int×Int×aa×Unit);letI g:=aK 1 (bb 2);letI h:=some (aE.rt (false,()));letI j:=ej (i64 (aN x.1.1)) 12;letI m:=i64 (wz x.1.2.1);letI n:=some (false,());ob (Ds ()) λ(a:Bool×Unit)=>letI o:=some (a.1,());ak (cV (b5 0 32 32) (cj 1 (ab 32))) (ob (tI (bM (ab 32) (u8 0),true,())) λ(ba:dg×Int×Unit)=>ob (Hy (200,())) λ(b0:aa×Unit)=>ob (my (ba.1,[(12,0,ej (i64 (aN x.1.2.2.2.1)) 4,0,aP UInt8,()),(1,0,0,0,aP UInt8,()),(17,0,4,0,aP UInt8,()),(0,0,0,0,b0.1,())],())) λ(bq:dg×List Int×Unit)=>letI q:=bq.1.2.2;letI d:=len q.2.1;letI f:=bg d 1;letI b:=len (an q.2.1 (ab (i64 f)) eR).2.2.1;letI p:=aK (i64 f) d;ob (T (aZ (af ba.2.1 0)) c (T (af d 0) c (T (aZ (af (len q.1) 1)) c (ak p (some (af b 0,())))))) λ(dc:Bool×Unit)=>T dc.1 n (ak p (ak (aZ (af b 0)) (T (aF 1 (ej m b)) (ob (my (bq.1,[(8,0,0,0,aP UInt8,()),(10,0,i64 f,ej m b,[x.1.2.2.1],()),(7,0,0,0,aP UInt8,())],())) λ(fE:dg×List Int×Unit)=>ob (T (aZ (af (len fE.2.1) 3)) c (ak (aK 2 (len fE.2.1)) (T (aZ (af (an fE.2.1 (ab 2) 0) 0)) c (ak g (some (aZ (qD (af (len (an fE.1.2.2.2.2.1 (ab 1) e)) 1) (aZ (af (aN x.1.2.2.1) (aN (u8 0))))),())))))) λ(kH:Bool×Unit)=>T kH.1 n (b_ (bC (λ(V:Bool×Int × dg×Unit)=>T (aF V.2.1 j) (ob (my (V.2.2.1,[(9,0,i64 f,0,aP UInt8,()),(7,0,0,0,aP UInt8,())],())) λ(a:dg×List Int×Unit)=>letI k:=len a.2.1;ob (T (aZ (af k 2)) c (ak (aK 0 k) (T (aZ (af (an a.2.1 (ab 0) 0) 0)) c (ak (aK 1 k) (T (aZ (af (an a.2.1 (ab 1) 0) 0)) c (ak g (some (aF 2 (len (an a.1.2.2.2.2.1 (ab 1) e)),())))))))) λ(i7:Bool×Unit)=>T i7.1 h (some (aE.nx (V.1,i64 (aC V.2.1 1),a.1,())))) (some (aE.ex 0 (V.1,V.2.1,V.2.2.1,())))) (false,0,fE.1,())) (λ(a:Bool×Int×dg×Unit)=>none) (λ(i:Nat) (i7:Bool×Int×dg×Unit)=>ak (bP i 0) o) λ(r:Bool×Unit)=>some r)) (b_ (bC (λ(V:Bool×Int×dg×Unit)=>T (aF V.2.1 j) (ob (my (V.2.2.1,[(9,0,i64 f,0,aP UInt8,()),(7,0,0,0,aP UInt8,())],())) λ(a:dg×List
 Int×Unit)=>letI l:=len a.2.1;ob (T (aZ (af l 2)) c (ak (aK 0 l) (T (aZ (af (an a.2.1 (ab 0) 0) 0)) c (ak (aK 1 l) (T (aZ (af (an a.2.1 (ab 1) 0) 0)) c (ak g (some (aF 2 (len (an a.1.2.2.2.2.1 (ab 1) e)),())))))))) λ(fE:Bool×Unit)=>T fE.1 h (some (aE.nx (V.1,i64 (aC V.2.1 1),a.1,())))) (some (aE.ex 0 (V.1,V.2.1,V.2.2.1,())))) (false,0,bq.1,())) (λ(a:Bool×Int×dg×Unit)=>none) (λ(i:Nat) (fE:Bool×Int×dg×Unit)=>ak (bP i 0) o) λ(r:Bool×Unit)=>some r)))))
end Yp
namespace Yp
open Go Go.Proofs Tryz
set_option maxRecDepth 100000
abbrev w9:ag:=.int .u8
abbrev hE:ag:=.unit
abbrev aio:ag:=.pair w9 (.pair (.int .u16) (.pair w9 (.pair w9 hE)))
abbrev pz:ag:=.sl w9
abbrev w_:ag:=.pair pz (.pair pz hE)
abbrev O2:ag:=.pair (.bool) (.pair (.sl w_) (.pair (.bool) hE))
abbrev fJ:ag:=.int .i64
abbrev aiq:ag:=.pair fJ (.pair fJ (.pair (.bool) (.pair w9 hE)))
abbrev aip:ag:=.pair fJ (.pair fJ (.pair (.ar 2 fJ) (.pair fJ (.pair fJ w_))))
abbrev W2:ag:=.pair fJ (.pair (.ar 16 (.int .u64)) hE)
abbrev BM:ag:=.pair fJ (.pair fJ hE)
abbrev W3:ag:=.pair (.ar 4 (.bool)) (.pair (.ar 4 (.pair pz BM)) (.pair (.ar 4 fJ) (.pair fJ hE)))
abbrev Jv:ag:=.pair (.bool) (.pair fJ (.pair fJ (.pair fJ (.pair fJ (.pair pz (.pair pz (.pair fJ hE)))))))
abbrev mz:ag:=.pair fJ (.pair pz hE)
abbrev ET:ag:=.pair fJ mz
abbrev O0:ag:=.pair fJ (.pair (.sl mz) hE)
abbrev OZ:ag:=.pair mz (.pair mz (.pair mz BM))
abbrev ES:ag:=.pair fJ (.pair (.ar 2 fJ) mz)
abbrev y7:ag:=.pair fJ (.pair fJ ET)
abbrev w8:ag:=.pair fJ (.pair pz (.pair fJ (.pair w_ (.pair fJ (.pair fJ (.pair fJ (.pair fJ (.pair fJ (.pair W2 (.pair OZ (.pair y7 (.pair fJ (.pair fJ (.pair (.sl pz) (.pair W3 (.pair (.sl mz) (.pair (.sl ES) (.pair (.ar 4 fJ) hE))))))))))))))))))
abbrev O1:ag:=.pair w8 (.pair O2 hE)
abbrev O3:ag:=.pair (.ar 2 w8) (.pair O2 (.pair (.sl ET) (.pair (.sl ET) (.pair (.ar 2 (.sl ES)) hE))))
def Pu:List (Nat×ag):=[(1,(.op 0)),(2,fJ),(3,fJ),(4,(.bool)),(5,w9),(6,w9),(7,aiq),(8,aiq),(9,(.str)),(10,(.str)),(11,(.str)),(12,(.int .u64)),(13,(.pair (.str) (.pair (.int .u64) hE))),(14,(.pair (.str) (.pair (.int .u64) hE))),(15,(.op 3)),(16,(.op 3)),(17,(.op 3)),(18,(.pair (.op 3) hE)),(19,(.pair (.op 3) hE)),(20,(.op 1)),(21,(.int .i32)),(22,(.sl y7)),(23,(.op 0)),(24,(.op 0)),(25,pz),(26,w_),(27,w_),(28,(.int .u64)),(29,(.ar 16 (.int .u64))),(30,W2),(31,W2),(32,mz),(33,mz),(34,OZ),(35,OZ),(36,y7),(37,y7),(38,(.sl pz)),(39,(.ar 4 (.bool))),(40,(.pair pz BM)),(41,(.pair pz BM)),(42,(.ar 4 (.pair pz BM))),(43,(.ar 4 fJ)),(44,W3),(45,W3),(46,(.sl mz)),(47,(.sl ES)),(48,w8),(49,w8),(50,(.ar 2 w8)),(51,(.sl w_)),(52,O2),(53,O2),(54,(.sl ET)),(55,(.ar 2 (.sl ES))),(56,O3),(57,O3),(58,fJ),(60,(.op 0)),(61,(.sl fJ)),(63,(.op 0)),(64,(.op 0)),(65,(.op 0)),(66,(.sl fJ)),(67,(.op 0)),(68,(.op 0)),(69,(.op 0)),(70,(.ar 32 w9)),(71,y7),(72,y7),(73,(.ar 2 fJ)),(74,(.op 0)),(75,(.op 0)),(76,(.op 0)),(77,(.int .u16)),(78,aio),(79,aio),(80,(.op 0)),(81,ET),(82,ET),(83,(.op 0)),(84,(.op 0)),(85,ES),(86,ES),(88,(.op 0)),(89,(.op 0)),(90,(.op 0)),(91,(.op 3)),(92,(.pair O3 hE)),(93,(.pair O3 hE)),(94,(.op 0)),(95,(.op 0)),(96,O1),(97,O1),(98,(.op 0)),(99,(.op 0)),(100,(.op 0)),(102,(.op 0)),(103,(.sl mz)),(104,O0),(105,O0),(106,(.op 0)),(108,(.op 2)),(109,(.op 0)),(110,(.op 0)),(111,(.op 0)),(112,(.op 0)),(113,(.op 0)),(114,(.op 0)),(115,w_),(116,w_),(117,(.op 0)),(118,(.op 0)),(119,(.op 0)),(120,(.op 0)),(122,(.op 0)),(123,(.op 0)),(124,mz),(125,mz),(126,(.op 0)),(127,(.op 0)),(129,(.op 0)),(131,(.op 0)),(132,(.op 0)),(133,(.op 0)),(134,(.op 0)),(135,mz),(136,mz),(137,(.op 0)),(138,(.op 0)),(139,(.op 0)),(140,(.ar 10 fJ)),(142,(.op 0)),(143,(.op 0)),(144,(.op 0)),(145,(.op 0)),(146,(.op 0)),(147,(.op 0)),(148,(.op 0)),(149,(.op 0)),(150,(.op 0)),(152,(.op 0)),(153,(.op 0)),(154,(.op 0)),(155,(.op 3)),(156,(.pair y7 hE)),(157,(.pair y7 hE)),(158,(.op 0)),(159,(.op 0)),(160,(.op 0)),(162,(.op 0)),(163,(.op 0)),(164,BM),(165,BM),(167,(.op 0)),(168,(.op 0)),(170,(.op 0)),(171,(.op 0)),(173,(.op 0)),(174,(.op 0)),(175,(.op 0)),(176,(.op 0)),(177,(.op 0)),(178,(.op 0)),(179,(.op 0)),(181,(.op 0)),(182,(.op 0)),(183,(.op 0)),(184,(.op 0)),(186,(.op 0)),(187,(.op 0)),(188,(.op 0)),(189,Jv),(190,Jv),(191,(.op 0)),(192,(.op 0)),(193,(.op 0)),(194,aip),(195,aip),(196,(.pair w8 hE)),(197,(.pair w8 hE)),(198,(.pair (.pair w8 hE) (.pair O1 hE))),(199,(.pair (.pair w8 hE) (.pair O1 hE))),(200,(.op 0)),(201,(.op 0)),(202,(.sl (.sl fJ))),(203,(.op 0)),(204,(.op 0)),(206,(.op 0)),(207,(.op 0)),(208,(.int .u32)),(209,(.ar 8 (.int .u32))),(210,(.pair (.ar 8 (.int .u32)) mz)),(211,(.pair (.ar 8 (.int .u32)) mz)),(212,(.op 0)),(213,(.op 0)),(215,(.op 0)),(217,(.op 0)),(218,(.op 1)),(219,(.op 1)),(220,(.op 0)),(221,(.pair Jv hE)),(222,(.pair Jv hE)),(223,(.op 0)),(224,(.pair O0 hE)),(225,(.pair O0 hE)),(226,(.op 0)),(227,(.op 0)),(228,(.op 0)),(230,(.op 0)),(231,(.op 0)),(232,(.op 0)),(234,(.op 0)),(236,(.op 0)),(237,(.op 0)),(239,(.op 0)),(240,(.op 0)),(241,(.op 0)),(242,(.op 0)),(244,(.op 0)),(245,(.op 0)),(246,(.op 0)),(248,(.op 0)),(249,(.op 0)),(251,(.op 0)),(252,(.op 0)),(254,(.op 0)),(256,(.op 0)),(257,(.int .u64)),(258,(.op 0)),(259,(.op 0)),(260,(.op 3)),(262,(.op 0)),(263,(.op 0)),(264,(.op 0)),(266,(.op 0)),(268,(.op 0)),(269,hE),(270,hE),(271,(.op 0)),(272,(.op 0)),(273,(.op 0)),(274,(.op 0)),(275,(.ar 4 fJ)),(276,(.op 0)),(277,(.op 0)),(278,(.op 0)),(279,(.op 0)),(280,(.op 0)),(281,(.op 0)),(282,(.op 0)),(283,(.op 0)),(285,(.op 0)),(286,(.op 0)),(287,(.op 0)),(288,(.op 2)),(291,(.op 0)),(292,(.op 0)),(296,(.pair OZ hE)),(299,(.ar 64 (.int .u32))),(301,(.op 0)),(302,(.sl (.int .u32))),(323,(.pair (.op 0) (.pair (.op 0) hE))),(325,(.op 2)),(331,(.fn [278,279,280,281])),(333,Jv),(339,(.ar 3 fJ)),(340,(.op 0)),(341,w_),(346,(.fn [286])),(348,(.pair (.sl mz) (.pair (.fn [286]) hE))),(357,(.ar 3 mz)),(359,(.sl (.op 3))),(360,(.op 3)),(368,(.fn [268])),(371,(.op 0)),(374,(.sl (.sl mz)))]
def Xn:List (Nat×ag×ag):=[(108,.int .i64,.op 0),(288,.int .i64,.int .i64),(325,.int .i64,.pair (.op 0) (.pair (.op 0) (.unit)))]
def W':List Nat:=[31,43,73]
def sW:nA Tryz.prog (Dw Pu):=ahv _ _ (by kernel_rfl)
def aph:pP Tryz.prog (Dw Pu) (HE W'):=Zy _ _ _ (by kernel_rfl)
def apo:qW Tryz.prog (HF Xn):=adr _ _ (by kernel_rfl)
def vY:Tryz.prog.follows .mixedOrders=true:=by kernel_rfl
def apl : ∀ g, (some 0 : Option Nat) = some g → Tryz.prog.globalNamed "yett/sha.keys" = some g := by intro g h; cases h; kernel_rfl
abbrev f_(G:List (Nat×ff))(I:List (Nat×gA))(X:List (Nat×i3))(Q:List (Nat×ot))(Pn:Option (Nat×Nat))(U A:Bool)(b:Nat):dl:={ b6:=Dw Pu,G:=uH G,I:=uI I,M:=HF Xn,C:=HE W',K:=some 0,X:=yl X,Q:=Dv Q,Pn:=Pn,U:=U,A:=A,b:=b }
def rZ(m t:Nat):(none:Option (Nat×Nat))=some (m,t)->zj Tryz.prog m t:=λh=>by cases h
def q0{E:dl}(f:Nat)(s:ot):Dv [] f=some s->E6 Tryz.prog E f s:=λh=>by cases h
def p?{G:List (Nat×ff)}{I:List (Nat×gA)}{X:List (Nat×i3)}{Q:List (Nat×ot)}{Pn:Option (Nat×Nat)}{A:Bool}{b:Nat}(dK:∀f s,uH G f=some s->hb Tryz.prog f s)(dZ:∀f g,uI I f=some g->kF Tryz.prog f g)(dL:∀f s,yl X f=some s->i2 Tryz.prog f s)
  (zR:∀f s,Dv Q f=some s->E6 Tryz.prog (f_ G I X Q Pn U A b) f s) (oG:∀m t,Pn=some (m,t)->zj Tryz.prog m t):ol Tryz.prog (f_ G I X Q Pn U A b):=⟨sW,aph,apo,dK,apl,dZ,dL,zR,oG⟩
abbrev FK:=hb Tryz.prog
abbrev IK:=kF Tryz.prog
def Mt {E : dl} (cb : ol Tryz.prog E)  {fn : Func} {s : ff} (hf : Tryz.prog.funcs[f]? = some fn) (nv : Nat) (am : (fn.name == "runtime.NumGoroutine") = false := by kernel_rfl) (Y : fn.body.isSome = true := by kernel_rfl) (az : ∀ x, Mu E fn nv s.args s.res x = s.fn x) : hb Tryz.prog f s := (atD cb vY hf am nv s.args s.res Y).congr az
def atu {E : dl} (cb : ol Tryz.prog E)  {fn : Func} {s : i3} (hf : Tryz.prog.funcs[f]? = some fn) (nv : Nat) (am : (fn.name == "runtime.NumGoroutine") = false := by kernel_rfl) (Y : fn.body.isSome = true := by kernel_rfl) (az : ∀ x, HI E fn nv s.ty s.args s.res x = s.fn x) : i2 Tryz.prog f s := (atA cb vY hf am nv s.ty s.args s.res Y).congr az
def atw {E : dl} (cb : ol Tryz.prog E)  {fn : Func} {s : ot}  (mO : E.Pn = some (m, bd)) (hf : Tryz.prog.funcs[f]? = some fn) (nv : Nat) (am : (fn.name == "runtime.NumGoroutine") = false := by kernel_rfl) (Y : fn.body.isSome = true := by kernel_rfl) (az : ∀ x, Mv E fn nv s.ty s.args [.im s.rt] x = s.fn x) : vn Tryz.prog f bd s.ty s.args [.im s.rt] s.fn := (atC cb vY hf am nv s.ty s.args [.im s.rt] Y mO).congr az
def atv {E EC : dl} (cb : ol Tryz.prog E) (qK : ol Tryz.prog EC) {F:Nat} {fn fj : Func} {s : ff}  (mO : E.Pn = some (m, bd)) (hf : Tryz.prog.funcs[f]? = some fn) (dp : Tryz.prog.funcs[F]? = some fj) (nv mq : Nat) (am : (fn.name == "runtime.NumGoroutine") = false := by kernel_rfl) (aq3 : (fj.name == "runtime.NumGoroutine") = false) (Y : fn.body.isSome = true := by kernel_rfl)
  (Sn:∀c A B q,fn.body=some c->yO c=some (A,q,B)->q.2.1=F) (az:∀x,Uk E EC fn fj nv mq bd s.args s.res x=s.fn x):hb Tryz.prog f s:=(atB cb qK vY hf am dp aq3 nv mq s.args s.res mO Y Sn).congr az
def adv {E : dl} (cb : ol Tryz.prog E)  {fn : Func} (hf : Tryz.prog.funcs[f]? = some fn) (nv : Nat) (am : (fn.name == "runtime.NumGoroutine") = false := by kernel_rfl) (Y : fn.body.isSome = true := by kernel_rfl) : kF Tryz.prog f (jk E fn nv) := asz cb vY hf am nv Y
def atx{G:List (Nat×ff)}{I:List (Nat×gA)}{X:List (Nat×i3)}{Q:List (Nat×ot)}{A:Bool}{b:Nat}{s:ot}(h:vn Tryz.prog f bd s.ty s.args [.im s.rt] s.fn):∀g t,Dv [(f,s)] g=some t->E6 Tryz.prog (f_ G I X Q (some (m,bd)) U A b) g t:=by
 intro g t ae;simp only[Dv]at ae;cases Y:Nat.beq f g with
 |true=>rw[Y]at ae;cases ae;rw[<- fP Y];exact⟨m,bd,rfl,h⟩
 |false=>rw[Y]at ae;cases ae
def a7 {G : List (Nat × ff)} {I : List (Nat × gA)} (dK : ∀ f s, uH G f = some s → hb Tryz.prog f s) (dZ : ∀ f g, uI I f = some g → kF Tryz.prog f g)  {fn : Func} {s : ff} (hf : Tryz.prog.funcs[f]? = some fn) (nv : Nat) (am : (fn.name == "runtime.NumGoroutine") = false := by kernel_rfl) (Y : fn.body.isSome = true := by kernel_rfl) (az : ∀ x, Mu (f_ G I [] [] none false false 0) fn nv s.args s.res x = s.fn x := by intro x; kernel_rfl) : hb Tryz.prog f s := Mt (p? dK dZ jR q0 rZ) hf nv am Y az
def pO {G : List (Nat × ff)} {I : List (Nat × gA)} {X : List (Nat × i3)} (dK : ∀ f s, uH G f = some s → hb Tryz.prog f s) (dZ : ∀ f g, uI I f = some g → kF Tryz.prog f g) (dL : ∀ f s, yl X f = some s → i2 Tryz.prog f s)  {fn : Func} {s : i3} (hf : Tryz.prog.funcs[f]? = some fn) (nv : Nat) (am : (fn.name == "runtime.NumGoroutine") = false := by kernel_rfl) (Y : fn.body.isSome = true := by kernel_rfl) (az : ∀ x, HI (f_ G I X [] none false false 0) fn nv s.ty s.args s.res x = s.fn x := by intro x; kernel_rfl) : i2 Tryz.prog f s := atu (p? dK dZ dL q0 rZ) hf nv am Y az
def kJ {G : List (Nat × ff)} {I : List (Nat × gA)} {A:Bool} {b : Nat} (dK : ∀ f s, uH G f = some s → hb Tryz.prog f s) (dZ : ∀ f g, uI I f = some g → kF Tryz.prog f g)  {fn : Func} (hf : Tryz.prog.funcs[f]? = some fn) (nv : Nat) (am : (fn.name == "runtime.NumGoroutine") = false := by kernel_rfl) (Y : fn.body.isSome = true := by kernel_rfl) : kF Tryz.prog f (jk (f_ G I [] [] none U A b) fn nv) := adv (p? dK dZ jR q0 rZ) hf nv am Y
def atF(b:Bool)(k:Nat)(w:World):Calls Tryz.prog 172 #[.bool b,.int .i64 (k:Int)] w λe w'=>w'=w/\e=if b then .returned (.tuple #[]) else .panicked [{ v:=.iface 58 (.int .i64 (k:Int)),recovered:=false }]:=by
 cases b with
 |true=>
  go_enter Tryz.func172,Tryz.ntmps172
  go_wp2
  exact⟨rfl,.tuple #[],by kernel_rfl,rfl,rfl⟩
 |false=>
  go_enter Tryz.func172,Tryz.ntmps172
  go_wp2
  have aj:(Instr.panic (Value.iface 58 (Value.int IntKind.i64 ↑k))).run Tryz.prog w=.halt (.panic (Value.iface 58 (Value.int IntKind.i64 ↑k))) w:=rfl;rw[aj];exact⟨rfl,rfl,rfl⟩
def adD(m t:Nat):(some (172,58):Option (Nat×Nat))=some (m,t)->zj Tryz.prog m t:=λh=>by cases h;exact⟨⟨_,Tryz.func172,by kernel_rfl,by kernel_rfl⟩,atF⟩
abbrev ID:ff:=⟨[pz,pz],[.im (.bool)],Dx⟩
def Qz:FK 233 ID:=a7 aX aY func233 7
def Ye:FK 283 ⟨[fJ],[.im fJ,.im w9],t7⟩:=a7 aX aY func283 4
end Yp
namespace Yp
open Go Go.Proofs
set_option maxRecDepth 100000
def tQ:=@Eq.trans
def H7(c:Code):Code:=match c with|.seq a _=>a|_=>.skip
def H8(c:Code):Code:=match c with|.seq _ (.seq (.seq c _) _)=>c|_=>.skip
def MU(c:Code):Code:=match c with|.seq _ (.seq (.seq _ (.cond _ x _)) _)=>x|_=>.skip
def MV(c:Code):Code:=match c with|.seq _ (.seq _ z)=>z|_=>.skip
def na(f:Func):Code:=f.body.getD .skip
def MB(f:Func)(nv:Nat)(ts:List ag)(rs:List ez)(x:h3 ts):aS (ki (eq rs)):=
 fill f.ntmps (nO ts x) 0 .e λt=>aS.bind (run (f_ [] [] [] [] none false false 0) rs f.results.toList nv f.ntmps false (H7 (na f)) ⟨t,[],[]⟩) fun|.nx s=>run (f_ [] [] [] [] none false false 0) rs f.results.toList nv f.ntmps false (H8 (na f)) s|o=>.leaf o
def xC{a r:α}(h:ak c (some a)=some r):c=true/\a=r:=by
 cases c
 .cases h
 exact⟨rfl,om h⟩
def Mm{l:List α}(h:af (len l) 0=true):l=[]:=by
 have R:len l=0:=by unfold af at h;exact beq_iff_eq.1 h
 unfold len at R;exact lJ.1 J
abbrev af1:ff:=⟨[.sl (.int .u8)],[.ow (.int .u8)],Kq⟩
def apx:hb Tryz.prog 201 af1:=by
 refine MC (E:=f_ [] [] [] [] none false false 0) (p? aX aY jR q0 rZ) vY Tryz.func201 rfl 3 _ _ (A:=H7 (na Tryz.f201)) (C:=H8 (na Tryz.f201)) (X:=MU (na Tryz.f201)) (Z:=MV (na Tryz.f201)) (k:=4) rfl bf
  (λx=>Mh (MB Tryz.f201 3 [.sl (.int .u8)] [.ow (.int .u8)] x)) (λx=>af (len (x.1:aa)) 0) (λx=>by kernel_rfl) (λx=>by kernel_rfl) (λx r ah hm => ?_) (λx r hm => ?_)
 .obtain⟨l,⟨⟩⟩:=x
  obtain⟨_,rfl⟩:=xC (hm);obtain rfl:l=([]:aa):=Mm ah;rfl
 have h:ak (cj 1 (bF (aV ([]:aa)) (aV (x.1:aa)))) (some (aE.rt (σ:=aR) (cm ([]:aa) (x.1:aa),())))=some (.rt r):=by obtain⟨O,rfl⟩:=xC (show ak (cj 1 (aV (x.1:aa))) (some ((x.1:aa),()))=some r from hm);rw[show bF (aV ([]:aa)) (aV (x.1:aa))=aV (x.1:aa) from js _,O];rfl
 exact tQ rfl h
abbrev agu:ff:=⟨[.sl (.sl (.int .u8))],[.ow (.sl (.int .u8))],ag2⟩
def apC:hb Tryz.prog 119 agu:=by
 refine MC (E:=f_ [] [] [] [] none false false 0) (p? aX aY jR q0 rZ) vY Tryz.func119 rfl 3 _ _ (A:=H7 (na Tryz.f119)) (C:=H8 (na Tryz.f119)) (X:=MU (na Tryz.f119)) (Z:=MV (na Tryz.f119)) (k:=4) rfl bf
  (λx=>Mh (MB Tryz.f119 3 [.sl (.sl (.int .u8))] [.ow (.sl (.int .u8))] x)) (λx=>af (len (x.1:List aa)) 0) (λx=>by kernel_rfl) (λx=>by kernel_rfl) (λx r ah hm => ?_) (λx r hm => ?_)
 .obtain⟨l,⟨⟩⟩:=x
  obtain⟨_,rfl⟩:=xC (hm);obtain rfl:l=([]:List aa):=Mm ah;rfl
 have h:ak (cj 32 (bF (aV ([]:List aa)) (aV (x.1:List aa)))) (some (aE.rt (σ:=aR) (cm ([]:List aa) (x.1:List aa),())))=some (.rt r):=by obtain⟨O,rfl⟩:=xC (show ak (cj 32 (aV (x.1:List aa))) (some ((x.1:List aa),()))=some r from hm);rw[show bF (aV ([]:List aa)) (aV (x.1:List aa))=aV (x.1:List aa) from js _,O];rfl
 exact tQ rfl h
abbrev agt:ff:=⟨[.sl (.int .u8)],[.ow (.int .u8)],nz⟩
def apB:hb Tryz.prog 93 agt:=by
 refine MC (E:=f_ [] [] [] [] none false false 0) (p? aX aY jR q0 rZ) vY Tryz.func93 rfl 3 _ _ (A:=H7 (na Tryz.f93)) (C:=H8 (na Tryz.f93)) (X:=MU (na Tryz.f93)) (Z:=MV (na Tryz.f93)) (k:=4) rfl bf
  (λx=>Mh (MB Tryz.f93 3 [.sl (.int .u8)] [.ow (.int .u8)] x)) (λx=>af (len (x.1:aa)) 0) (λx=>by kernel_rfl) (λx=>by kernel_rfl) (λx r ah hm => ?_) (λx r hm => ?_)
 .obtain⟨l,⟨⟩⟩:=x
  obtain⟨_,rfl⟩:=xC (hm);obtain rfl:l=([]:aa):=Mm ah;rfl
 have h:ak (cj 1 (bF (aV ([]:aa)) (aV (x.1:aa)))) (some (aE.rt (σ:=aR) (cm ([]:aa) (x.1:aa),())))=some (.rt r):=by obtain⟨O,rfl⟩:=xC (show ak (cj 1 (aV (x.1:aa))) (some ((x.1:aa),()))=some r from hm);rw[show bF (aV ([]:aa)) (aV (x.1:aa))=aV (x.1:aa) from js _,O];rfl
 exact tQ rfl h
abbrev ags:ff:=⟨[.sl (.pair (.int .i64) (.pair (.int .i64) (.pair (.sl (.int .u8)) (.unit))))],[.ow (.pair (.int .i64) (.pair (.int .i64) (.pair (.sl (.int .u8)) (.unit))))],I0⟩
def apA:hb Tryz.prog 35 ags:=by
 refine MC (E:=f_ [] [] [] [] none false false 0) (p? aX aY jR q0 rZ) vY Tryz.func35 rfl 3 _ _ (A:=H7 (na Tryz.f35)) (C:=H8 (na Tryz.f35)) (X:=MU (na Tryz.f35)) (Z:=MV (na Tryz.f35)) (k:=4) rfl bf
  (λx=>Mh (MB Tryz.f35 3 [.sl (.pair (.int .i64) (.pair (.int .i64) (.pair (.sl (.int .u8)) (.unit))))] [.ow (.pair (.int .i64) (.pair (.int .i64) (.pair (.sl (.int .u8)) (.unit))))] x)) (λx=>af (len (x.1:List (Int×Int×aa×Unit))) 0) (λx=>by kernel_rfl) (λx=>by kernel_rfl) (λx r ah hm => ?_) (λx r hm => ?_)
 .obtain⟨l,⟨⟩⟩:=x
  obtain⟨_,rfl⟩:=xC (hm);obtain rfl:l=([]:List (Int×Int×aa×Unit)):=Mm ah;rfl
 have h:ak (cj 80 (bF (aV ([]:List (Int×Int×aa×Unit))) (aV (x.1:List (Int×Int×aa×Unit))))) (some (aE.rt (σ:=aR) (cm ([]:List (Int×Int×aa×Unit)) (x.1:List (Int×Int×aa×Unit)),())))=some (.rt r):=by obtain⟨O,rfl⟩:=xC (show ak (cj 80 (aV (x.1:List (Int×Int×aa×Unit)))) (some ((x.1:List (Int×Int×aa×Unit)),()))=some r from hm);rw[show bF (aV ([]:List (Int×Int×aa×Unit))) (aV (x.1:List (Int×Int×aa×Unit)))=aV (x.1:List (Int×Int×aa×Unit)) from js _,O];rfl
 exact tQ rfl h
end Yp
namespace Yp
open Go Go.Proofs Go.RowKit Go.Shelf
def pE:=@List.nil_append
def o4:=@Array.replicate_zero
def BS:=@List.append_toArray
def tR:=@List.push_toArray
def E4:=@List.filter_append
def Fg:=@List.range_succ
attribute [local go_sem] Oper.semAt_some
def jz(res:Nat->Bool)(k:Nat):List Nat:=(List.range k).filter res
def ab7(res:Nat->Bool)(k:Nat):jz res (k+1)=jz res k++if res k=true then[k]else[]:=by
 unfold jz;rw[Fg,E4]
 grind
def aqO(res:Nat->Bool)(k:Nat):(jz res k).length<=k:=by have:=sr res (List.range k);unfold jz;simpa using this
set_option maxRecDepth 100000 in
set_option maxHeartbeats 2000000 in
def aoj(n l EW y_ n₀ b off cap N:Nat)(ad:Option Addr)(AW H_:Value)(bI:Nat->Value×Value)(res:Nat->Bool)(jg:∀j,∃a n c a' n' cN,bI j=(.slice a n c,.slice a' n' cN))(fV:N<=9223372036854775807)(Y:0<N->ad=some ⟨b,off,none⟩/\b<n₀)(ic st:List Nat->World->Prop)
  (mh:∀s W gg,ic s W->Below W.heap.size W gg->ic s gg)
  (v0:∀(pre:List Nat) (x:Nat) W,ic pre W->x<N->res x=true->pre.length<N->YieldAt Fence.wide n Tryz.prog l #[.int .i64 (x:Int)] W λe gg=>
   (e=.returned (.bool true)/\ic (pre++[x]) gg/\Below n₀ W gg)\/(e=.returned (.bool false)/\st (pre++[x]) gg))
  (W:World) (ape:W.cell? ⟨EW,0,none⟩=some (.slice ad N cap)) (apb:W.cell? ⟨y_,0,none⟩=some (.func (.func 250) #[.agg #[AW,H_]] #[])) (apf:EW<n₀) (abv:y_<n₀) (am:n₀<=W.heap.size)
  (nY:∀j,j<N->W.cell? ⟨b,off+j*2,none⟩=some (bI j).1) (sY:∀j,j<N->W.cell? ⟨b,off+j*2+1,none⟩=some (bI j).2)
  (So:∀j,j<N->∀w,Below n₀ W w->CallsIn Fence.wide n Tryz.prog 250 #[.agg #[AW,H_],.agg #[(bI j).1,(bI j).2]] w λe w'=>e=.returned (.bool (res j))/\Below w.heap.size w w') (aq:ic [] W) :
  CallsIn Fence.wide (n+1) Tryz.prog 284 #[.func (.yield l) #[] #[],.pointer (some ⟨EW,0,none⟩),.pointer (some ⟨y_,0,none⟩)] W λe gg=>(∃v,e=.returned v) /\
   (ic (jz res N) gg\/(∃k,k<=N/\st (jz res k) gg)):=by
 have azW:Fence.wide.fn 250:=trivial;refine callsIn_of_wp Tryz.func284 rfl trivial ?_ rfl;simp only[Tryz.ntmps284,pD,fQ,gu,Nat.reduceAdd,Nat.reduceSub,rn,o4,tR,BS,pE,l9]
 gi_wp2
 gi_loopw [8] (λi wr=>∃k:Nat,k<=N/\i=.int .i64 k/\ic (jz res k) wr/\Below n₀ W wr/\W.heap.size<=wr.heap.size)
  (λi _=>N-(intOf i).toNat)
 case atStart=>exact⟨0,J,rfl,aq,Below.refl _ _,bX _⟩
 case round=>
  obtain⟨k,ap,rfl,C1,oJ,c3⟩:=hrel;have azz:wr.cell? ⟨EW,0,none⟩=some (.slice ad N cap):=(oJ.cell (p:=⟨EW,0,none⟩) apf).trans ape;have apc:wr.cell? ⟨y_,0,none⟩=some (.func (.func 250) #[.agg #[AW,H_]] #[]):=(oJ.cell (p:=⟨y_,0,none⟩) abv).trans apb;by_cases bi:k<N
  .have v7:(k:Int)<(N:Int):=J
   obtain⟨rfl,ut⟩:=Y J;have eM:wr.cell? ⟨b,off+k*2,none⟩=some (bI k).1:=(oJ.cell (p:=⟨b,off+k*2,none⟩) ut).trans (nY k bi);have e1:wr.cell? ⟨b,off+k*2+1,none⟩=some (bI k).2:=(oJ.cell (p:=⟨b,off+k*2+1,none⟩) ut).trans (sY k bi);have Sq:=So k bi;have apv:=v0 (jz res k) k;obtain⟨cK,wy,c1,cU,qZ,c2,aqn⟩:=jg k;rw[aqn]at eM e1 Sq;dsimp only at eM e1 Sq;have hb3:Below wr.heap.size wr (wr.alloc (.cells #[.slice cK wy c1,.slice cU qZ c2] 116)):=(Below.refl _ _).alloc (bX _) _;have Dd:n₀<=wr.heap.size:=fv am c3;have azy:(wr.alloc (.cells #[.slice cK wy c1,.slice cU qZ c2] 116)).cell? ⟨y_,0,none⟩=some (.func (.func 250) #[.agg #[AW,H_]] #[]):=(hb3.cell (p:=⟨y_,0,none⟩) (iF abv Dd)).trans apc;have LB:=Sq _ (oJ.trans (hb3.mono Dd));have abA:=mh _ _ _ C1 hb3;cases hh:res k
   .rw[hh]at LB
    have n3:jz res (k+1)=jz res k:=by rw[ab7,hh,if_neg bf,iE]
    gi_wp2_with (gi_at_call 250;refine LB.mono ?_;rintro e ck ⟨rfl,hb1⟩)
    refine⟨λ_ _=>trivial,?_⟩
    gi_wp2
    refine⟨⟨k+1,J,bf,by rw[n3];exact mh _ _ _ abA hb1,(oJ.trans (hb3.mono Dd)).trans (hb1.mono (fv Dd hb3.size)),fv c3 (fv hb3.size hb1.size)⟩,?_⟩;simp[intOf];omega
   rw[hh]at LB;have n3:jz res (k+1)=jz res k++[k]:=by rw[ab7,hh,if_pos rfl]
   have hl:=aqO res k
   gi_wp2_with (gi_at_call 250;refine LB.mono ?_;rintro e ck ⟨rfl,hb1⟩;obtain⟨fn,tmps,assign,body,bs,jw⟩:=apv ck (mh _ _ _ abA hb1) bi hh J)
   refine jw.mono ?_;rintro e ai1 (⟨rfl,Sr,fy⟩|⟨rfl,Ss⟩)
   .gi_wp2
    refine⟨⟨k+1,J,bf,by rw[n3];exact Sr,((oJ.trans (hb3.mono Dd)).trans (hb1.mono (fv Dd hb3.size))).trans fy,fv c3 (fv (fv hb3.size hb1.size) fy.size)⟩,?_⟩;simp[intOf];omega
   gi_wp2
   refine bodyPost_ret (results_none rfl _ _ _) rfl ?_;exact⟨⟨_,rfl⟩,.inr ⟨k+1,J,by rw[n3];exact Ss⟩⟩
  have qO:k=N:=J;subst qO;have v7:¬((k:Nat):Int)<(k:Int):=J
  gi_wp2
  go_end0
  exact⟨⟨_,rfl⟩,.inl C1⟩
set_option maxRecDepth 100000 in
def aok(m:Nat)(a:Option Addr)(n cap:Nat)(f:Value)(w:World)(aD:f.oneCell'=true):CallsIn Fence.wide m Tryz.prog 251 #[.slice a n cap,f] w λe w'=>e=.returned (.func (.func 284) #[] #[.pointer (some ⟨w.heap.size,0,none⟩),.pointer (some ⟨w.heap.size+1,0,none⟩)])/\w'=(w.alloc (.cells #[.slice a n cap] 51)).alloc (.cells #[f] 340):=by
 refine callsIn_of_wp Tryz.func251 rfl trivial ?_ rfl;simp only[Tryz.ntmps251,pD,fQ,gu,Nat.reduceAdd,Nat.reduceSub,rn,o4,tR,BS,pE,l9]
 gi_wp2
 go_ret
 exact⟨rfl,rfl⟩
end Yp
namespace Yp
open Go
def iq:=@Int.toNat_natCast
def o6:=@List.take_succ_eq_append_getElem
def lI:=@List.getElem_mem
def tL:=@BitVec.ofInt_natCast
def sv:=@List.ext_getElem
def JP:=@List.getElem_map
def xh:=@List.getElem_range
def vr:=@Nat.pow_le_pow_right
def zf:=@UInt8.toNat_inj
def JQ:=@Nat.two_pow_add_eq_or_of_lt
def JR:=@BitVec.toNat_ofNat
def zn:=@Nat.div_eq_of_lt
def Fp:=@Int.ofNat.inj
def J0:=@Nat.pow_succ
def PE:=@Nat.pow_pos
def JG:=@UInt8.toNat_ofNat
def Xa:=@List.foldl_append
def JI:=@List.getElem_set
def JK:=@Int.natCast_pow
def JL:=@Nat.lt_irrefl
def T_{σ ρ:Type}{f:σ->Option (aE σ ρ)}:∀{n m:Nat} {x:σ} {r:aE σ ρ},oM f n x=some r->n<=m->oM f m x=some r
 |n+1,m+1,x,r,h,hm=>by
  simp only[oM]at h ⊢;split at h
  .exact T_ h J
  exact h
def uJ{f:σ->Option (aE σ ρ)}{x:σ}{r:aE σ ρ}(n:Nat)(h:oM f n x=some r):bC f x=some r:=by
 have uw:∃n,(oM f n x).isSome:=⟨n,by rw[h];rfl⟩;unfold bC;have ae:=Classical.choose_spec uw;obtain⟨q_,aj⟩:=Option.isSome_iff_exists.1 ae;have O:=T_ aj (Nat.le_max_left _ n);have R:=T_ h (Nat.le_max_right (Classical.choose uw) n)
 grind
def eE{f:σ->Option (aE σ ρ)}{x y:σ}(h:f x=some (.nx y)):bC f x=bC f y:=by
 cases bs:bC f y with
 |some r =>obtain⟨n,am⟩:=T' bs;exact uJ (n+1) (by simp[oM,h,am])
 |none=>
  cases hx:bC f x with
  |none=>rfl
  |some r=>
   obtain⟨n,am⟩:=T' hx;cases n with
   |zero=>simp[oM]at am
   |succ n =>simp only[oM,h]at am;rw[uJ n am]at bs;cases bs
def dT{f:σ->Option (aE σ ρ)}{x y:σ}{k:Nat}(h:f x=some (.ex k y)):bC f x=some (.ex k y):=uJ 1 (by simp[oM,h])
def n8{f:σ->Option (aE σ ρ)}{x:σ}{r:ρ}(h:f x=some (.rt r)):bC f x=some (.rt r):=uJ 1 (by simp[oM,h])
def kr{f:σ->Option (aE σ ρ)}(bR:Nat->σ)(n:Nat)(h:∀i,i<n->f (bR i)=some (.nx (bR (i+1)))):∀i,i<=n->bC f (bR i)=bC f (bR n):=by
 intro i ac;obtain⟨d,rfl⟩:∃d,n=i+d:=⟨n-i,J⟩;clear ac;induction d generalizing i with
 |zero=>rfl
 |succ d ih =>rw[eE (h i J)];have:=ih (i+1) (λj ao=>h j J);rw[this];congr 2;omega
def hw{n:Int}(O : -9223372036854775808<=n)(R:n<=9223372036854775807):i64 n=n:=by
 show(if(true&&decide (n%18446744073709551616 ≥ 9223372036854775808))=true then n%18446744073709551616-18446744073709551616 else n%18446744073709551616)=n
 grind
theorem Ek(a b:α):T true a b=a:=rfl
theorem Ba(a b:α):T false a b=b:=rfl
theorem xD(a:Option α):ak true a=a:=rfl
theorem UC(a:α)(k:α->Option β):ob (some a) k=k a:=rfl
end Yp
namespace Yp
open Go
def d9{o:Option α}{a:α}{k:α->Option β}(h:o=some a):ob o k=k a:=by rw[h];rfl
def b4{a b:α}(h:c=true):T c a b=a:=by rw[h];rfl
def bU{a b:α}(h:c=false):T c a b=b:=by rw[h];rfl
def eG{a:Option α}(h:c=true):ak c a=a:=by rw[h];rfl
def cO{o dz:Option (aE σ ρ)}{kn:σ->Option β}{hy:Nat->σ->Option β}{hQ:ρ->Option β}(h:o=dz):b_ o kn hy hQ=b_ dz kn hy hQ:=by rw[h]
def uK{f:σ->Option (aE σ ρ)}(bR:Nat->σ)(n:Nat)(p:Nat->Prop)(r:ρ)(k:Nat)(ae:∀i,i<n->(∀j,j<=i->p j)->f (bR i)=some (.nx (bR (i+1))))(Y:∀i,i<n->(∀j,j<i->p j)->¬p i->f (bR i)=some (.rt r))
  (az:(∀i,i<n->p i)->f (bR n)=some (.ex k (bR n))):((∀i,i<n->p i)/\bC f (bR 0)=some (.ex k (bR n)))\/((∃i,i<n/\¬p i)/\bC f (bR 0)=some (.rt r)):=by
 by_cases h:∀i,i<n->p i
 .refine .inl ⟨h,?_⟩
  rw[kr bR n (λi ac=>ae i ac λj ao=>h j J) 0 (eS _)];exact dT (az h)
 refine .inr ?_;have uw:∃i,i<n/\¬p i:=by refine kZ λah=>h λi ac=>kZ λhp=>ah ⟨i,ac,hp⟩
 refine⟨uw,?_⟩;obtain⟨k,ap,hp⟩:=uw;induction k using Nat.strongRecOn with
 |_ k ih=>
  by_cases hl:∃j,j<k/\¬p j
  .obtain⟨j,ao,S'⟩:=hl
   exact ih j ao J S'
  have hall:∀i,i<k->p i:=λi ac=>kZ λhp=>hl ⟨i,ac,hp⟩;rw[kr bR k (λi ac=>ae i J λj ao=>hall j J) 0 (eS _)];exact n8 (Y k ap hall hp)
def wu{a b:Nat}:aF (a:Int) (b:Int)=decide (a<b):=by unfold aF;rw[decide_eq_decide];omega
def as1{a b:Nat}:b? (a:Int) (b:Int)=decide (a<=b):=by unfold b?;rw[decide_eq_decide];omega
def di(h:a<b):aF a b=true:=decide_eq_true h
def cP(h:¬a<b):aF a b=false:=decide_eq_false h
def lz(h:a<=b):b? a b=true:=decide_eq_true h
def n6(h:¬a<=b):b? a b=false:=decide_eq_false h
def cL(h:a=b):af a b=true:=by unfold af;exact beq_iff_eq.2 h
def cx(h:¬a=b):af a b=false:=by unfold af;exact beq_eq_false_iff_ne.2 h
def IG{a b:aa}(h:a=b):seq a b=true:=by unfold seq;exact beq_iff_eq.2 h
def NV{a b:aa}(h:¬a=b):seq a b=false:=by unfold seq;exact beq_eq_false_iff_ne.2 h
def DI{a b:Nat}(h:a<b):kv a b=true:=by unfold kv;rw[Xd];exact h
def Ur{a b:Nat}(h:¬a<b):kv a b=false:=by
 unfold kv;cases Y:Nat.blt a b with
 |false=>rfl
 |true=>rw[Xd]at Y;exact absurd Y h
def jC{a:Nat}(h:a<n):aK (a:Int) (n:Int)=true:=by simp only[aK,cM,decide_eq_true_eq];omega
def acS{n:Int}(aq:0<=a)(h:a<n):aK a n=true:=by simp only[aK,cM,decide_eq_true_eq];omega
def wh{n:Int}(aq:0<=a)(h:a<=b)(bB:b<=n):b5 a b n=true:=by simp only[b5,cM,decide_eq_true_eq];omega
def mW{c:Nat}(h:n*c<=140737488355328):cj c n=true:=decide_eq_true h
def uC(h:n<=9223372036854775807):i64 (n:Int)=(n:Int):=hw J J
theorem as6(l:List α):len l=((l.length:Nat):Int):=rfl
def nth_get{l:List α}{d:α}(h:i<l.length):an l i d=l[i]:=by simp[an,nE,h]
def wA(x:UInt8):x.toNat<256:=x.toNat_lt
def WC(q:Nat):u8 (q:Int)=UInt8.ofNat q:=by
 apply zf.1;unfold u8;have O:(UInt8.ofInt (q:Int)).toNat=q%256:=by simp[UInt8.ofInt,JG];omega
 rw[O];simp
def aAe(b n:Nat):((b:Int)^n)=((b^n:Nat):Int):=(JK b n).symm
def ZT{l:aa}(h:i<l.length)(hl:l[i].toNat<128):ig l i=(l[i].toNat,1):=by
 have Y:((⟨l.toArray⟩:ByteArray).get! (i+0)).toNat=l[i].toNat:=by show(l.toArray[i+0]!).toNat=_;simp[h]
 unfold ig Utf8.decode;simp only[Y];rw[if_pos hl]
def am2{l:aa}(h:i<l.length)(hl:¬l[i].toNat<128):128<=(ig l i).1/\(ig l i).1<=1114111:=by
 have Y:((⟨l.toArray⟩:ByteArray).get! (i+0)).toNat=l[i].toNat:=by show(l.toArray[i+0]!).toNat=_;simp[h]
 have abs:=wA l[i];unfold ig Utf8.decode;simp only[Y,if_neg hl,Utf8.runeError];have b:∀k,((⟨l.toArray⟩:ByteArray).get! k).toNat<256:=λk=>wA _;generalize l[i].toNat=c at *
 repeat' split
 all_goals simp only
 all_goals (rename_i ah aI;simp only[cM,decide_eq_true_eq,beq_iff_eq,Utf8.valid,BU]at ah aI;omega)
def asn{a b:Nat}:aC (a:Int) (b:Int)=((a+b:Nat):Int):=by simp[aC]
def asq{a b:Nat}:fr (a:Int) (b:Int)=((a*b:Nat):Int):=by simp[fr]
def aso{a b:Nat}:ga (a:Int) (b:Int)=((a/b:Nat):Int):=by simp;exact(Int.ofNat_tdiv _ _).symm
def He{a b:Nat}:ej (a:Int) (b:Int)=((a%b:Nat):Int):=by simp;exact(Int.ofNat_tmod _ _).symm
def k9{a b:Nat}(h:a+b<=9223372036854775807):i64 (aC (a:Int) (b:Int))=((a+b:Nat):Int):=by rw[asn,uC h]
def TA{a b:Nat}(h:a*b<=9223372036854775807):i64 (fr (a:Int) (b:Int))=((a*b:Nat):Int):=by rw[asq,uC h]
def Hc{a b:Nat}(bB:a<=9223372036854775807):i64 (ga (a:Int) (b:Int))=((a/b:Nat):Int):=by rw[aso,uC (fv (Nat.div_le_self _ _) bB)]
def g1{a:Nat}:ab (a:Int)=a:=by simp[ab]
def atI{a:Nat}(h:a<256):aN (u8 (a:Int))=(a:Int):=by rw[WC];simp only[aN,tS];omega
end Yp
namespace Yp
open Go
def a5(B:Nat)(g:Nat->UInt8)(v:Nat):Nat->aa
 |0=>[]
 |n+1=>g (v/B^n%B)::a5 B g v n
def l1(B:Nat)(g:Nat->UInt8)(v:Nat):∀n,(a5 B g v n).length=n
 |0=>rfl
 |n+1=>by simp[a5,l1 B g v n]
def gi(d:Nat):UInt8:=UInt8.ofNat (48+d)
def mC(d:Nat):UInt8:=UInt8.ofNat d
def ah5{d z:UInt8}{EI:aa}:cg (bM (n+1) z++EI) n d=bM n z++d::EI:=by
 induction n with
 |zero=>simp[cg,bM]
 |succ n ih=>
  have e1:bM (n+1+1) z++EI=z::(bM (n+1) z++EI):=by simp[bM,Fm]
  have aT:bM (n+1) z++d::EI=z::(bM n z++d::EI):=by simp[bM,Fm]
  rw[e1,aT,<- ih];rfl
def SL:aa:=[48,49,50,51,52,53,54,55,56,57,97,98,99,100,101,102]
def aqt:∀d,d<10->an SL d (u8 0)=gi d:=bN
def KR(v w:Int)(aD:v<=9223372036854775807):uc (v,w,())=some (if 1<=w/\w<=18/\0<=v/\v<10^w.toNat then(a5 10 gi v.toNat w.toNat,0,()) else([],1,())):=by
 unfold uc;by_cases O:w<1
 .rw[if_neg J];simp[T,ob,aF,O,aP]
 by_cases R:18<w
 .rw[if_neg J];simp[T,ob,aF,O,R,aP]
 by_cases ai:v<0
 .rw[if_neg J];simp[T,ob,aF,O,R,ai,aP]
 obtain⟨n,rfl⟩:∃n:Nat,w=n:=⟨w.toNat,J⟩;obtain⟨bT,rfl⟩:∃n:Nat,v=n:=⟨v.toNat,J⟩;simp only[aF,O,R];have c0:cV (b5 0 (n:Int) n) (cj 1 (ab n))=true:=by simp[cV,b5,cj,ab];omega
 rw[c0,xD];have eM:i64 (bg (n:Int) 1)=(n:Int)-1:=hw (by simp only[bg];omega) (by simp only[bg];omega);rw[eM];generalize hf:(λ(x:Int×Int×aa×Unit)=>_)=f;have step:∀i,i<n->f (((bT/10^i:Nat):Int),(n:Int)-1-i,bM (n-i) (u8 0)++a5 10 gi bT i,())=some (.nx (((bT/10^(i+1):Nat):Int),(n:Int)-1-(i+1:Nat),bM (n-(i+1)) (u8 0)++a5 10 gi bT (i+1),())):=by
  intro i ac;subst hf;have hm:ej ((bT/10^i:Nat):Int) 10=((bT/10^i%10:Nat):Int):=by simp;exact(Int.ofNat_tmod _ _).symm
  have bi:bT/10^i%10<10:=sx _ J;have bV:bT/10^i<=bT:=Nat.div_le_self _ _;have aI:i64 (ga ((bT/10^i:Nat):Int) 10)=((bT/10^(i+1):Nat):Int):=by
   have:ga ((bT/10^i:Nat):Int) 10=((bT/10^i/10:Nat):Int):=by simp;exact(Int.ofNat_tdiv _ _).symm
   rw[this,uC J,Nat.div_div_eq_div_mul,J0]
  have aqM:i64 (bg ((n:Int)-1-i) 1)=(n:Int)-1-(i+1:Nat):=by rw[hw (by simp only[bg];omega) (by simp only[bg];omega)];simp only[bg];omega
  have SZ:b? 0 ((n:Int)-1-i)=true:=by simp only[b?,decide_eq_true_eq];omega
  have hb1:aK ((bT/10^i%10:Nat):Int) (len [48,49,50,51,52,53,54,55,56,57,97,98,99,100,101,102])=true:=jC (n:=16) J;have hb2:aK ((n:Int)-1-i) (len (bM (n-i) (u8 0)++a5 10 gi bT i))=true:=by simp only[aK,len,db,bM,qv,cM,decide_eq_true_eq];omega
  have am:ab ((n:Int)-1-i)=n-(i+1):=by simp only[ab];omega
  have v_:ab ((bT/10^i%10:Nat):Int)=bT/10^i%10:=by simp only[ab];omega
  have ae:bM (n-i) (u8 0)=bM (n-(i+1)+1) (u8 0):=by congr 1;omega
  show T (b? 0 ((n:Int)-1-i)) _ _=_;rw[SZ,Ek];simp only[hm];rw[hb1,xD,hb2,xD,aI,aqM,am,v_,ae,ah5];have:=aqt _ bi;simp only[SL]at this;rw[this];rfl
 have iJ:=kr (f:=f) (λi=>(((bT/10^i:Nat):Int),(n:Int)-1-i,bM (n-i) (u8 0)++a5 10 gi bT i,())) n step 0 J;have e0:f (((bT/10^n:Nat):Int),(n:Int)-1-n,bM (n-n) (u8 0)++a5 10 gi bT n,())=some (.ex 0 (((bT/10^n:Nat):Int),(n:Int)-1-n,bM (n-n) (u8 0)++a5 10 gi bT n,())):=by
  subst hf;have SZ:b? 0 ((n:Int)-1-n)=false:=by simp only[b?,decide_eq_false_iff_not];omega
  show T (b? 0 ((n:Int)-1-n)) _ _=_;rw[SZ,Ba]
 have e1:(((bT/10^0:Nat):Int),(n:Int)-1-(0:Nat),bM (n-0) (u8 0)++a5 10 gi bT 0,())=(((bT:Nat):Int),(n:Int)-1,bM (ab n) (u8 0),()):=by simp[a5,ab]
 rw[e1,dT e0]at iJ;rw[iJ];have aT:bM (n-n) (u8 0)++a5 10 gi bT n=a5 10 gi bT n:=by simp[bM]
 simp only[b_,aT];by_cases bi:bT<10^n
 .have:bT/10^n=0:=zn bi
  rw[this,if_pos ⟨J,J,J,by exact_mod_cast bi⟩];rfl
 have:0<bT/10^n:=Nat.div_pos J (PE J);rw[if_neg (λh=>bi (by exact_mod_cast h.2.2.2))];have hp:decide ((0:Int)<((bT/10^n:Nat):Int))=true:=by simp only[decide_eq_true_eq];omega
 rw[hp];rfl
end Yp
namespace Yp
open Go
theorem ayw(q:Nat):u8 (q:Int)=mC (q%256):=rfl
def agS{bT k:Nat}(ap:k<=64):fB .i64 (bT:Int) (k:Int)=((bT/2^k:Nat):Int):=by
 unfold fB;have:Nat.min (Int.toNat (k:Int)) IntKind.i64.bits=k:=by rw[iq];exact Ca ap
 grind
def Ro(v w:Int)(aD:v<=9223372036854775807):pT (v,w,())=some (if 1<=w/\w<=8/\0<=v/\v<256^w.toNat then(a5 256 mC v.toNat w.toNat,0,()) else([],1,())):=by
 unfold pT;by_cases O:w<1
 .rw[if_neg J];simp[T,ob,aF,O,aP]
 by_cases R:8<w
 .rw[if_neg J];simp[T,ob,aF,O,R,aP]
 by_cases ai:v<0
 .rw[if_neg J];simp[T,ob,aF,O,R,ai,aP]
 obtain⟨n,rfl⟩:∃n:Nat,w=n:=⟨w.toNat,J⟩;obtain⟨bT,rfl⟩:∃n:Nat,v=n:=⟨v.toNat,J⟩;have acl:∀i,(256:Nat)^i=2^(8*i):=λi=>by rw[Nat.pow_mul]
 have lT:∀i:Nat,i<=8->i64 (fr 8 (i:Int))=((8*i:Nat):Int):=λi ac=>by
  have:fr 8 (i:Int)=((8*i:Nat):Int):=by simp[fr]
  rw[this,uC J]
 have SG:(T (aF (n:Int) 8) (ak (b? 0 (i64 (fr 8 (n:Int)))) (some (aF 0 (fB IntKind.i64 (bT:Int) (i64 (fr 8 (n:Int)))),()))) (some (false,())):Option (Bool×Unit))=some (decide (¬bT<256^n),()):=by
  by_cases cy:n<8
  .have c1:aF (n:Int) 8=true:=by simp only[aF,decide_eq_true_eq];omega
   have c2:b? 0 ((8*n:Nat):Int)=true:=by simp only[b?,decide_eq_true_eq];omega
   rw[c1,Ek,lT n J,c2,xD,agS J];have:aF 0 ((bT/2^(8*n):Nat):Int)=decide (¬bT<256^n):=by
    unfold aF;rw[decide_eq_decide,acl];constructor
    .intro h ah
     rw[zn ah]at h;simp at h
    intro h;have:=Nat.div_pos (Nat.le_of_not_lt h) (PE J);omega
   rw[this]
  have c1:aF (n:Int) 8=false:=by simp only[aF,decide_eq_false_iff_not];omega
  have:n=8:=J;rw[c1,Ba,this];have:bT<256^8:=by have:(256:Nat)^8=18446744073709551616:=bN;omega
  simp[this]
 rw[SG];simp only[aF,O,R,ai,decide_false,decide_true,Ba,Ek,UC,iq];have hp:((256:Int)^n)=((256^n:Nat):Int):=(JK 256 n).symm;by_cases bi:bT<256^n
 rotate_left
 .rw[if_neg (λh=>bi (by have:=h.2.2.2;rw[hp]at this;exact Int.ofNat_lt.1 this))]
  have aI:decide (¬bT<256^n)=true:=decide_eq_true bi;rw[aI,Ek];rfl
 rw[if_pos ⟨J,J,J,by rw[hp];exact Int.ofNat_lt.2 bi⟩];have aI:decide (¬bT<256^n)=false:=decide_eq_false (λh=>h bi);rw[aI,Ba];have c0:cV (b5 0 (n:Int) n) (cj 1 (ab n))=true:=by simp[cV,b5,cj,ab];omega
 rw[c0,xD];have eM:i64 (bg (n:Int) 1)=(n:Int)-1:=hw (by simp only[bg];omega) (by simp only[bg];omega);rw[eM];generalize hf:(λ(x:Int×aa×Unit)=>_)=f;have step:∀i,i<n->f ((i:Int),bM (n-i) (u8 0)++a5 256 mC bT i,())=some (.nx (((i+1:Nat):Int),bM (n-(i+1)) (u8 0)++a5 256 mC bT (i+1),())):=by
  intro i ac;subst hf;have c1:(decide ((i:Int)<len (bM (ab (n:Int)) (u8 0))))=true:=by simp only[len,bM,ab,qv,decide_eq_true_eq];omega
  have c2:b? 0 ((8*i:Nat):Int)=true:=by simp only[b?,decide_eq_true_eq];omega
  have hd:i64 (bg ((n:Int)-1) i)=((n-(i+1):Nat):Int):=by
   have:bg ((n:Int)-1) i=((n-(i+1):Nat):Int):=by simp only[bg];omega
   rw[this,uC J]
  have c4:aK ((n-(i+1):Nat):Int) (len (bM (n-i) (u8 0)++a5 256 mC bT i))=true:=by refine jC ?_;simp only[db,l1,bM,qv];omega
  have c5:i64 (aC (i:Int) 1)=((i+1:Nat):Int):=by
   have:aC (i:Int) 1=((i+1:Nat):Int):=by simp[aC]
   rw[this,uC J]
  have ae:bM (n-i) (u8 0)=bM (n-(i+1)+1) (u8 0):=by congr 1;omega
  show T (decide ((i:Int)<len (bM (ab (n:Int)) (u8 0)))) _ _=_;rw[c1,Ek];simp only[lT i J,hd];rw[c2,xD,c4,xD,c5,agS J,ayw,ae];have:ab ((n-(i+1):Nat):Int)=n-(i+1):=by simp[ab]
  rw[this,ah5,<- acl];rfl
 have iJ:=kr (f:=f) (λi=>((i:Int),bM (n-i) (u8 0)++a5 256 mC bT i,())) n step 0 J;have e0:f ((n:Int),bM (n-n) (u8 0)++a5 256 mC bT n,())=some (.ex 0 ((n:Int),bM (n-n) (u8 0)++a5 256 mC bT n,())):=by
  subst hf;have c1:(decide ((n:Int)<len (bM (ab (n:Int)) (u8 0))))=false:=by simp only[len,bM,ab,qv,decide_eq_false_iff_not];omega
  show T (decide ((n:Int)<len (bM (ab (n:Int)) (u8 0)))) _ _=_;rw[c1,Ba]
 have e1:(((0:Nat):Int),bM (n-0) (u8 0)++a5 256 mC bT 0,())=((0:Int),bM (ab n) (u8 0),()):=by simp[a5,ab]
 rw[e1,dT e0]at iJ;rw[iJ];have aT:bM (n-n) (u8 0)++a5 256 mC bT n=a5 256 mC bT n:=by simp[bM]
 simp only[b_,aT];rfl
end Yp
namespace Yp
open Go
def h8(c:UInt8):Prop:=48<=c.toNat/\c.toNat<=57
instance (c:UInt8):Decidable (h8 c):=inferInstanceAs (Decidable (_/\_))
def g4(s:aa):Prop:=∀(i:Nat) (h:i<s.length),h8 s[i]
def val(s:aa):Nat:=s.foldl (λn c=>10*n+(c.toNat-48)) 0
def WJ{s:aa}(h:i<s.length):val (s.take (i+1))=10*val (s.take i)+(s[i].toNat-48):=by unfold val;rw[o6 h,Xa];rfl
def WH{s:aa}:∀i,i<=s.length->(∀j,j<i->∀h:j<s.length,h8 s[j])->val (s.take i)<10^i
 |0,_,_=>by simp[val]
 |i+1,h,hf=>by have:=WH i J (λj ao=>hf j J);have ac:=hf i J J;rw[WJ J];unfold h8 at ac;omega
def ae0(h:i<=18):10^i<=1000000000000000000:=by have:=vr (n:=10) J h;exact this
def am6{c:Nat}(O:48<=c)(R:c<=57):sH (bb c,())=some (((c-48:Nat):Int),true,()):=by have:c=48\/c=49\/c=50\/c=51\/c=52\/c=53\/c=54\/c=55\/c=56\/c=57:=J;rcases this with rfl|rfl|rfl|rfl|rfl|rfl|rfl|rfl|rfl|rfl<;>decide
def Z1{c:Nat}(h:¬(48<=c/\c<=57)):∃q:Int,sH (bb c,())=some (q,false,()):=by
 refine⟨i64 (Hb (bg (bb c) 48)),?_⟩;unfold sH;by_cases O:48<=c
 .refine(d9 (b4 (lz (by simp only[bb];omega)))).trans ?_
  show some (_,b? (bb c) 57,())=_;rw[n6 (by simp only[bb];omega)]
 refine(d9 (bU (n6 (by simp only[bb];omega)))).trans ?_;rfl
def RK{s:aa}(h:i<s.length)(hf:h8 s[i]):sH (bb (ig s i).1,())=some (((s[i].toNat-48:Nat):Int),true,())/\(ig s i).2=1:=by
 have hl:s[i].toNat<128:=by unfold h8 at hf;omega
 rw[ZT h hl];exact⟨am6 hf.1 hf.2,rfl⟩
def RJ{s:aa}(h:i<s.length)(hf:¬h8 s[i]):∃q:Int,sH (bb (ig s i).1,())=some (q,false,()):=by
 by_cases hl:s[i].toNat<128
 .rw[ZT h hl];exact Z1 hf
 have:=am2 h hl;exact Z1 J
def xR{s:aa}:g4 s↔∀i,i<s.length->∀h:i<s.length,h8 s[i]:=⟨λh i ac _=>h i ac,λh i ac=>h i ac ac⟩
instance (s:aa):Decidable (g4 s):=inferInstanceAs (Decidable (∀(i:Nat) (h:i<s.length),h8 s[i]))
def Rq(s:aa):ud (s,())=some (if 1<=s.length/\s.length<=18/\g4 s then((val s:Int),0,()) else(0,2,())):=by
 by_cases O:s.length<1
 .refine(d9 (b4 (di (by simp only[len];omega)))).trans ?_
  rw[if_neg J];rfl
 by_cases R:18<s.length
 .refine(d9 ((bU (cP (by simp only[len];omega))).trans (congrArg (λb=>some (b,())) (di (by simp only[len];omega))))).trans ?_
  rw[if_neg J];rfl
 refine(d9 ((bU (cP (by simp only[len];omega))).trans (congrArg (λb=>some (b,())) (cP (by simp only[len];omega))))).trans ?_;generalize hf:(λ(x:Int×Int×Int×Nat×Unit)=>_)=f;have key:=uK (f:=f) (λi=>(0,0,(val (s.take i):Int),i,())) s.length (λi=>∀h:i<s.length,h8 s[i]) (0,2,()) 0 ?_ ?_ ?_
 .have eM:((0:Int),(0:Int),(val (s.take 0):Int),0,())=((0:Int),(0:Int),(0:Int),0,()):=by simp[val]
  rw[eM]at key;rcases key with⟨hall,aj⟩|⟨⟨i,ac,am⟩,aj⟩
  .rw[aj,if_pos ⟨J,J,xR.2 hall⟩]
   show some ((val (s.take s.length):Int),(0:Int),())=_;rw[o5]
  rw[aj,if_neg (λah=>am (xR.1 ah.2.2 i ac))];rfl
 .intro i ac hp
  subst hf;obtain⟨e1,aT⟩:=RK ac (hp i (bX _) ac);refine(b4 (DI ac)).trans ?_;refine(d9 e1).trans ?_;have aD:=WH (i+1) J (λj ao=>hp j J);have hp:=ae0 (i:=i+1) J;rw[WJ ac]at aD;have c1:i64 (fr 10 (val (s.take i):Int))=((10*val (s.take i):Nat):Int):=TA (a:=10) J;simp only[aT,c1];rw[k9 J,WJ ac];rfl
 .intro i ac _ hp
  subst hf;have:¬h8 s[i]:=λh=>hp λ_=>h;obtain⟨q,e1⟩:=RJ ac this;refine(b4 (DI ac)).trans ?_;refine(d9 e1).trans ?_;rfl
 intro _;subst hf;exact bU (Ur (JL _))
end Yp
namespace Yp
open Go
def au9{b w:Nat}(Y:1<=b)(h:b^w<=9223372036854775807):∀i,i<=w->b^i<=9223372036854775807:=λi ac=>fv (vr Y ac) h
def avY(b w:Nat)(Y:1<=b)(bu:w<=1000)(h:b^w<=9223372036854775807):D7 ((b:Int),(w:Int),())=some (((b^w:Nat):Int),()):=by
 unfold D7;generalize hf:(λ(x:Int×Int×Unit)=>_)=f;have key:=uK (f:=f) (λi=>(((b^i:Nat):Int),(i:Int),())) w (λ_=>True) (0,()) 0 ?_ ?_ ?_
 .have eM:(((b^0:Nat):Int),((0:Nat):Int),())=((1:Int),(0:Int),()):=bf
  rw[eM]at key;rcases key with⟨_,aj⟩|⟨⟨i,ac,am⟩,aj⟩
  .rw[aj];rfl
  exact absurd trivial am
 .intro i ac _
  subst hf;refine(b4 (di (show(i:Int)<(w:Int) by omega))).trans ?_;have:=au9 Y h (i+1) J;rw[J0]at this;rw[TA this];have c:i64 (aC (i:Int) 1)=((i+1:Nat):Int):=k9 (b:=1) J;rw[c,<- J0]
 .intro i _ _ h;exact absurd trivial h
 intro _;subst hf;exact bU (cP (show ¬(w:Int)<(w:Int) by omega))
def avX(s:aa)(hl:s.length<=1000000):M9 (s,())=some (decide (g4 s),()):=by
 unfold M9;generalize hf:(λ(x:Bool×Int×Unit)=>_)=f;have cond:∀i (ac:i<s.length),(T (aF (aN (an s (ab (i:Int)) (u8 0))) (aN (u8 48))) (some (true,())) (ak (aK (i:Int) (len s)) (some (aF (aN (u8 57)) (aN (an s (ab (i:Int)) (u8 0))),()))):Option (Bool×Unit))=some (decide (¬h8 s[i]),()):=by
  intro i ac;have fb:aK (i:Int) (len s)=true:=jC ac;rw[g1,nth_get ac,fb,xD];have e1:aN (u8 48)=48:=bN;have aT:aN (u8 57)=57:=bN;rw[e1,aT];by_cases O:s[i].toNat<48
  .rw[di (by simp only[aN];omega),Ek,decide_eq_true (show ¬h8 s[i] from λh=>by unfold h8 at h;omega)]
  rw[cP (by simp only[aN];omega),Ba];by_cases R:57<s[i].toNat
  .rw[di (by simp only[aN];omega),decide_eq_true (show ¬h8 s[i] from λh=>by unfold h8 at h;omega)]
  rw[cP (by simp only[aN];omega),decide_eq_false (λh=>h (by unfold h8;omega))]
 have key:=uK (f:=f) (λi=>(false,(i:Int),())) s.length (λi=>∀h:i<s.length,h8 s[i]) (false,()) 0 ?_ ?_ ?_
 .rcases key with⟨hall,aj⟩|⟨⟨i,ac,am⟩,aj⟩
  .rw[show(false,((0:Nat):Int),())=(false,(0:Int),()) from rfl]at aj
   rw[aj,decide_eq_true (xR.2 hall)];rfl
  rw[show(false,((0:Nat):Int),())=(false,(0:Int),()) from rfl]at aj;rw[aj,decide_eq_false (λah=>am (xR.1 ah i ac))];rfl
 .intro i ac hp
  subst hf;refine(b4 (di (by simp only[len];omega))).trans ?_;refine(eG (jC ac)).trans ?_;refine(d9 (cond i ac)).trans ?_;refine(bU (decide_eq_false (λh=>h (hp i (bX _) ac)))).trans ?_;have c:i64 (aC (i:Int) 1)=((i+1:Nat):Int):=k9 (b:=1) J;simp only[c]
 .intro i ac _ hp
  subst hf;refine(b4 (di (by simp only[len];omega))).trans ?_;refine(eG (jC ac)).trans ?_;refine(d9 (cond i ac)).trans ?_;exact b4 (decide_eq_true (λh=>hp λ_=>h))
 intro _;subst hf;exact bU (cP (by simp only[len];omega))
end Yp
namespace Yp
open Go
def MY{B:Nat}{g:Nat->UInt8}{v:Nat}:∀{n j:Nat} (h:j<(a5 B g v n).length),(a5 B g v n)[j]=g (v/B^(n-1-j)%B)
 |n+1,0,h=>by simp[a5]
 |n+1,j+1,h=>by simp only[a5,List.getElem_cons_succ];rw[MY];have:n-1-j=n+1-1-(j+1):=J;rw[this]
def Vh(v w:Int)(aD:v<=9223372036854775807):yC (v,w,())=some (if 1<=w/\w<=18/\0<=v/\v<10^w.toNat then(a5 10 gi v.toNat w.toNat,0,()) else([],1,())):=by
 unfold yC;by_cases O:w<1
 .rw[if_neg J];simp[T,ob,aF,O,aP]
 by_cases R:18<w
 .rw[if_neg J];simp[T,ob,aF,O,R,aP]
 by_cases ai:v<0
 .rw[if_neg J];simp[T,ob,aF,O,R,ai,aP]
 obtain⟨n,rfl⟩:∃n:Nat,w=n:=⟨w.toNat,J⟩;obtain⟨bT,rfl⟩:∃n:Nat,v=n:=⟨v.toNat,J⟩;have acm:∀i:Nat,i<=18->D7 (10,(i:Int),())=some (((10^i:Nat):Int),()):=λi ac=>by have:=ae0 ac;exact avY 10 i J J J
 refine(d9 (a:=(decide (10^n<=bT),())) ?_).trans ?_
 .refine(bU (cP O)).trans ?_
  refine(bU (cP R)).trans ?_;refine(d9 (acm n J)).trans ?_;rw[as1]
 have hp:((10:Int)^n)=((10^n:Nat):Int):=(JK 10 n).symm;by_cases bV:10^n<=bT
 .refine(b4 (decide_eq_true bV)).trans ?_
  rw[if_neg];· rfl
  intro h;have:=h.2.2.2;rw[iq,hp]at this;omega
 refine(bU (decide_eq_false bV)).trans ?_;rw[if_pos ⟨J,J,J,by rw[iq,hp];omega⟩];simp;have eM:i64 (bg (n:Int) 1)=(n:Int)-1:=hw (by simp only[bg];omega) (by simp only[bg];omega);rw[eM];generalize hf:(λ(x:aa×Int×Unit)=>_)=f;have key:=uK (f:=f) (λj=>((a5 10 gi bT n).take j,(n:Int)-1-j,())) n (λ_=>True) ([],0,()) 0 ?_ ?_ ?_
 .have eM:((a5 10 gi bT n).take 0,(n:Int)-1-(0:Nat),())=(aP UInt8,(n:Int)-1,()):=by simp[aP]
  rw[eM]at key;rcases key with⟨_,aj⟩|⟨⟨i,ac,am⟩,aj⟩
  .rw[aj]
   show some ((a5 10 gi bT n).take n,(0:Int),())=_;rw[iS (by rw[l1];omega)]
  exact absurd trivial am
 .intro i ac _
  subst hf;have e1:(n:Int)-1-i=((n-1-i:Nat):Int):=J;simp only[e1];refine(d9 (acm (n-1-i) J)).trans ?_;have dN:0<10^(n-1-i):=PE J;have c1:aZ (af ((10^(n-1-i):Nat):Int) 0)=true:=by rw[cx J];rfl
  refine(eG c1).trans ?_;have c2:u8 (i64 (aC 48 (ej (i64 (ga (bT:Int) ((10^(n-1-i):Nat):Int))) 10)))=gi (bT/10^(n-1-i)%10):=by rw[Hc J,show(10:Int)=((10:Nat):Int) from rfl,He];rw[show(48:Int)=((48:Nat):Int) from rfl,k9 J,WC];rfl
  have ao:i<(a5 10 gi bT n).length:=by rw[l1];exact ac
  have hd:(a5 10 gi bT n)[i]=gi (bT/10^(n-1-i)%10):=MY ao;have c4:i64 (bg ((n-1-i:Nat):Int) 1)=(n:Int)-1-((i+1:Nat):Int):=by rw[hw (by simp only[bg];omega) (by simp only[bg];omega)];simp only[bg];omega
  simp only[c2,c4];refine(eG (mW ?_)).trans ?_
  .simp only[bF,aV,ib,fQ,gu];omega
  rw[o6 ao,hd];rfl
 .intro i _ _ h;exact absurd trivial h
 intro _;subst hf;exact bU (n6 (show ¬(0:Int)<=(n:Int)-1-n by omega))
end Yp
namespace Yp
open Go
def k5(c:UInt8):Nat:=c.toNat-48
def eK(s:aa):aa:=if s.length%2=1 then 48::s else s
def iX(p:aa)(t:Nat):Nat:=k5 (an p t (u8 0))
def pL(p:aa)(a j:Nat):UInt8:=if 2*j+1<a then UInt8.ofNat (16*iX p (2*j)+iX p (2*j+1)) else if 2*j<a then UInt8.ofNat (iX p (2*j)) else u8 0
def gC(p:aa):aa:=(List.range (p.length/2)).map λj=>UInt8.ofNat (16*iX p (2*j)+iX p (2*j+1))
def H6(s:aa):(eK s).length=2*((s.length+1)/2):=by
 unfold eK;split
 .simp;omega
 omega
def aeT{s:aa}(h:i<s.length):an (eK s) (s.length%2+i) (u8 0)=s[i]:=by
 unfold eK an;split
 .rename_i O;rw[O,Nat.add_comm];simp[h]
 rename_i O;have:s.length%2=0:=J;rw[this];simp[h]
def CB{c:UInt8}(h:h8 c):c=UInt8.ofNat (48+k5 c)/\k5 c<10:=by unfold h8 at h;refine⟨?_,by unfold k5;omega⟩;apply zf.1;simp only[tS,k5];omega
def axm:∀x:Nat,x<10->∀d:Nat,d<10->u8 (g? .u8 (aN (u8 (hU .u8 (aN (UInt8.ofNat x)) (cz (u64 4))))) (aN (u8 (d:Int))))=UInt8.ofNat (16*x+d):=kK
def auB:∀d:Nat,d<10->u8 (g? .u8 (aN (u8 (hU .u8 (aN (u8 0)) (cz (u64 4))))) (aN (u8 (d:Int))))=UInt8.ofNat d:=kK
def auN{s:aa}{a:Nat}(hf:∀j,j<a-s.length%2->∀h:j<s.length,h8 s[j])(bc:a<=(eK s).length):∀t,t<a->iX (eK s) t<10:=by
 intro t ht;have hl:=H6 s;unfold iX;by_cases h:t<s.length%2
 .have O:s.length%2=1:=J
  have aq:t=0:=J;subst aq;unfold eK;rw[if_pos O];show k5 48<10;decide
 have e:t=s.length%2+(t-s.length%2):=J;have ac:t-s.length%2<s.length:=J;rw[e,aeT ac];exact(CB (hf _ J ac)).2
def Rn(s:aa)(hl:s.length<=1000000):ub (s,())=some (if g4 s then(gC (eK s),0,()) else([],2,())):=by
 unfold ub;have bD:i64 (ga (i64 (aC (len s) 1)) 2)=(((s.length+1)/2:Nat):Int):=by rw[as6,show i64 (aC ((s.length:Nat):Int) 1)=((s.length+1:Nat):Int) from k9 (b:=1) J];exact Hc (b:=2) J
 have b1:ej (len s) 2=((s.length%2:Nat):Int):=He (b:=2);simp only[bD,b1,g1];generalize ap:(s.length+1)/2=k;have ji:=H6 s;rw[ap]at ji;refine(eG ?_).trans ?_
 .simp only[cV,cM]
  exact⟨wh J J J,mW J⟩
 generalize hf:(λ(x:Int×Int×Nat×aa×Unit)=>_)=f;have key:=uK (f:=f) (λi=>(0,((s.length%2+i:Nat):Int),i,(List.range k).map (pL (eK s) (s.length%2+i)),())) s.length (λi=>∀h:i<s.length,h8 s[i]) ([],2,()) 0 ?_ ?_ ?_
 .have eM:((0:Int),((s.length%2+0:Nat):Int),0,(List.range k).map (pL (eK s) (s.length%2+0)),())=((0:Int),((s.length%2:Nat):Int),0,bM k (u8 0),()):=by
   have:(List.range k).map (pL (eK s) (s.length%2+0))=bM k (u8 0):=by
    apply sv
    .simp[bM]
    intro j O R;simp only[JP,xh,bM,List.getElem_replicate,pL];rw[if_neg J];split
    .rename_i ai
     have au:s.length%2=1:=J;have a4:j=0:=J;subst a4;unfold eK;rw[if_pos au];show UInt8.ofNat (k5 48)=u8 0;decide
    rfl
   rw[this];rfl
  rw[eM]at key;rcases key with⟨hall,aj⟩|⟨⟨i,ac,am⟩,aj⟩
  .rw[aj,if_pos (xR.2 hall)]
   have:(List.range k).map (pL (eK s) (s.length%2+s.length))=gC (eK s):=by unfold gC;rw[ji,show 2*k/2=k by omega];apply List.map_congr_left;intro j ao;have:=qu.1 ao;unfold pL;rw[if_pos J]
   rw[this];rfl
  rw[aj,if_neg (λah=>am (xR.1 ah i ac))];rfl
 .intro i ac hp
  subst hf;obtain⟨e1,aT⟩:=RK ac (hp i (bX _) ac);refine(b4 (DI ac)).trans ?_;refine(d9 e1).trans ?_;generalize bc:s.length%2+i=a;have S1:=auN (s:=s) (a:=a+1) (λj ao=>hp j J) J;have rI:iX (eK s) a=s[i].toNat-48:=by unfold iX;rw[<- bc,aeT ac];rfl
  have c1:i64 (ga ((a:Nat):Int) 2)=((a/2:Nat):Int):=Hc (b:=2) J;have c2:i64 (aC ((a:Nat):Int) 1)=((a+1:Nat):Int):=k9 (b:=1) J;have a_:a/2<((List.range k).map (pL (eK s) a)).length:=fS;simp only[bc,c1,c2,aT,g1];refine(eG (jC a_)).trans ?_;refine(eG (jC a_)).trans ?_;have dI:s.length%2+(i+1)=a+1:=J;have aD:u8 (g? .u8 (aN (u8 (hU .u8 (aN (an ((List.range k).map (pL (eK s) a)) (a/2) (u8 0))) (cz (u64 4))))) (aN (u8 ((s[i].toNat-48:Nat):Int))))=pL (eK s) (a+1) (a/2):=by
   rw[nth_get a_,JP,xh,<- rI];unfold pL;rw[if_neg J];by_cases azQ:a%2=0
   .rw[if_neg J,if_neg J,if_pos J,auB _ (S1 a J),show 2*(a/2)=a by omega]
   rw[if_pos J,if_pos J,axm _ (S1 _ J) _ (S1 a J),show 2*(a/2)+1=a by omega]
  simp only[aD,dI];have k8:cg ((List.range k).map (pL (eK s) a)) (a/2) (pL (eK s) (a+1) (a/2))=(List.range k).map (pL (eK s) (a+1)):=by
   unfold cg;apply sv
   .simp
   intro j O R;rw[JI];simp only[JP,xh];split
   .rename_i ai;rw[ai]
   unfold pL;by_cases au:2*j+1<a
   .rw[if_pos au,if_pos J]
   rw[if_neg au];by_cases a4:2*j<a
   .rw[if_pos a4,if_neg J,if_pos J]
   rw[if_neg a4,if_neg J,if_neg J]
  rw[k8];rfl
 .intro i ac _ hp
  subst hf;have:¬h8 s[i]:=λh=>hp λ_=>h;obtain⟨q,e1⟩:=RJ ac this;refine(b4 (DI ac)).trans ?_;refine(d9 e1).trans ?_;rfl
 intro _;subst hf;exact bU (Ur (JL _))
def awc:∀x,x<10->∀y,y<10->u8 (bg (aN (u8 (aC (aN (u8 (fr (aN (u8 16)) (aN (u8 (bg (aN (UInt8.ofNat (48+x))) (aN (u8 48)))))))) (aN (UInt8.ofNat (48+y)))))) (aN (u8 48)))=UInt8.ofNat (16*x+y):=kK
def Vg(s:aa)(hl:s.length<=1000000):u5 (s,())=some (if g4 s then(gC (eK s),0,()) else([],2,())):=by
 unfold u5;refine(d9 (avX s hl)).trans ?_;by_cases ai:g4 s
 rotate_left
 .refine(b4 (by simp only[decide_eq_false ai,aZ,Bool.not_false])).trans ?_
  rw[if_neg ai];rfl
 refine(bU (by simp only[decide_eq_true ai,aZ,Pc])).trans ?_;rw[if_pos ai];refine(d9 (a:=(eK s,())) ?_).trans ?_
 .have b1:ej (len s) 2=((s.length%2:Nat):Int):=He (b:=2)
  simp only[b1];unfold eK;by_cases h:s.length%2=1
  .rw[if_pos h]
   refine(b4 (cL J)).trans ?_;refine(eG (lz ?_)).trans rfl;simp only[aC,len,fQ,gu];omega
  rw[if_neg h];refine(bU (cx J))
 have ji:=H6 s;have x5:∀t,(ht:t<(eK s).length)->h8 (eK s)[t]:=by
  intro t ht;by_cases h:s.length%2=1
  .have e:eK s=48::s:=by unfold eK;rw[if_pos h]
   simp only[e]at ht ⊢;cases t with
   |zero=>exact(by decide:h8 48)
   |succ t=>exact ai t (by simpa using ht)
  have e:eK s=s:=by unfold eK;rw[if_neg h]
  simp only[e]at ht ⊢;exact ai t ht
 generalize eK s=p at *
 generalize ap:(s.length+1)/2=k at *
 generalize hf:(λ(x:aa×Int×Unit)=>_)=f;have key:=uK (f:=f) (λj=>((gC p).take j,((2*j:Nat):Int),())) k (λ_=>True) ([],0,()) 0 ?_ ?_ ?_
 .rcases key with⟨_,aj⟩|⟨⟨i,ac,am⟩,aj⟩
  .have eM:((gC p).take 0,((2*0:Nat):Int),())=(aP UInt8,(0:Int),()):=by simp[aP]
   rw[eM]at aj;rw[aj];show some ((gC p).take k,(0:Int),())=_;rw[iS (by simp[gC];omega)]
  exact absurd trivial am
 .intro i ac _
  subst hf;refine(b4 (di (show((2*i:Nat):Int)<len p by simp only[len];omega))).trans ?_;have aq:2*i<p.length:=J;have O:2*i+1<p.length:=J;have c1:i64 (aC ((2*i:Nat):Int) 1)=((2*i+1:Nat):Int):=k9 (b:=1) J;have c2:i64 (aC ((2*i:Nat):Int) 2)=((2*(i+1):Nat):Int):=k9 (b:=2) J;simp only[c1,c2,g1];refine(eG (jC aq)).trans ?_;refine(eG (jC O)).trans ?_;refine(eG (mW ?_)).trans ?_
  .simp only[bF,aV,ib,fQ,gu,gC,xf,ru];omega
  have ao:i<(gC p).length:=by simp[gC];omega
  have hg:(gC p)[i]=UInt8.ofNat (16*iX p (2*i)+iX p (2*i+1)):=by simp[gC]
  rw[o6 ao,hg,nth_get aq,nth_get O];obtain⟨cK,cU⟩:=CB (x5 _ aq);obtain⟨e_,eC⟩:=CB (x5 _ O);have aD:=awc _ cU _ eC;rw[<- cK,<- e_]at aD;have d1:iX p (2*i)=k5 p[2*i]:=by unfold iX;rw[nth_get aq]
  have d2:iX p (2*i+1)=k5 p[2*i+1]:=by unfold iX;rw[nth_get O]
  rw[aD,d1,d2];rfl
 .intro i _ _ h;exact absurd trivial h
 intro _;subst hf;exact bU (cP (show ¬((2*k:Nat):Int)<len p by simp only[len];omega))
end Yp
namespace Yp
open Go
def zJ{v:Nat}:∀{n:Nat},g4 (a5 10 gi v n)
 |n=>by
  intro i ac;rw[MY];have pX:v/10^(n-1-i)%10<10:=sx _ J;generalize v/10^(n-1-i)%10=d at *
  unfold h8 gi;simp only[tS];omega
def auM{s:aa}(h:s.length%2=0):eK s=s:=by unfold eK;rw[if_neg J]
end Yp
namespace Yp
open Go
def n9(d:Nat):UInt8:=an SL d (u8 0)
def gm(b:aa):aa:=b.flatMap λx=>[n9 (x.toNat/16),n9 (x.toNat%16)]
def rJ(b:aa):(gm b).length=2*b.length:=by
 induction b with
 |nil=>rfl
 |cons x r ih =>have:gm (x::r)=[n9 (x.toNat/16),n9 (x.toNat%16)]++gm r:=rfl;rw[this,db,ih];simp;omega
def aqp(a b:aa):gm (a++b)=gm a++gm b:=by simp[gm]
def aea(c:UInt8):UInt8.ofNat c.toNat=c:=by apply zf.1;simp
def vG{p:UInt8->Prop}(h:∀n,n<256->p (UInt8.ofNat n))(c:UInt8):p c:=by
 have:=h c.toNat c.toNat_lt
 rwa [aea]at this
def ab4:∀c:UInt8,aK (aN (u8 (fB IntKind.u8 (aN c) (cz (u64 4))))) (len [48,49,50,51,52,53,54,55,56,57,97,98,99,100,101,102])=true /\
  an [48,49,50,51,52,53,54,55,56,57,97,98,99,100,101,102] (ab (aN (u8 (fB IntKind.u8 (aN c) (cz (u64 4)))))) (u8 0)=n9 (c.toNat/16):=vG kK
def adh:∀c:UInt8,aK (aN (u8 (i9 IntKind.u8 (aN c) (aN (u8 15))))) (len [48,49,50,51,52,53,54,55,56,57,97,98,99,100,101,102])=true /\
  an [48,49,50,51,52,53,54,55,56,57,97,98,99,100,101,102] (ab (aN (u8 (i9 IntKind.u8 (aN c) (aN (u8 15)))))) (u8 0)=n9 (c.toNat%16):=vG kK
def ZZ(b:aa)(hl:b.length<=1000000):FW (b,())=some (gm b,()):=by
 unfold FW;have bD:i64 (fr 2 (len b))=((2*b.length:Nat):Int):=TA (a:=2) J;simp only[bD,g1];refine(eG ?_).trans ?_
 .simp only[cV,cM]
  exact⟨wh J J J,mW J⟩
 generalize hf:(λ(x:aa×Int×Unit)=>_)=f;have key:=uK (f:=f) (λi=>(gm (b.take i),(i:Int),())) b.length (λ_=>True) ([],()) 0 ?_ ?_ ?_
 .have eM:(gm (b.take 0),((0:Nat):Int),())=(bM (ab 0) (u8 0),(0:Int),()):=by simp[gm,bM,ab]
  rw[eM]at key;rcases key with⟨_,aj⟩|⟨⟨i,ac,am⟩,aj⟩
  .rw[aj,o5];rfl
  exact absurd trivial am
 .intro i ac _
  subst hf;refine(b4 (di (show(i:Int)<len b by simp only[len];omega))).trans ?_;refine(eG (jC ac)).trans ?_;have c:i64 (aC (i:Int) 1)=((i+1:Nat):Int):=k9 (b:=1) J;simp only[g1,nth_get ac,c];refine(eG (ab4 _).1).trans ?_;refine(eG (adh _).1).trans ?_;simp only[(ab4 _).2,(adh _).2];refine(eG (mW ?_)).trans ?_
  .simp only[bF,aV,rJ,ib,fQ,gu];omega
  rw[o6 ac,aqp];rfl
 .intro i _ _ h;exact absurd trivial h
 intro _;subst hf;exact bU (cP (show ¬((b.length:Nat):Int)<len b by simp only[len];omega))
def s7(c:UInt8):Prop:=(48<=c.toNat/\c.toNat<=57)\/(97<=c.toNat/\c.toNat<=102)
instance (c:UInt8):Decidable (s7 c):=inferInstanceAs (Decidable (_\/_))
def lW(c:UInt8):Nat:=if c.toNat<=57 then c.toNat-48 else c.toNat-87
def qm(s:aa):aa:=(List.range (s.length/2)).map λj=>UInt8.ofNat (16*lW (an s (2*j) (u8 0))+lW (an s (2*j+1) (u8 0)))
def GG(s:aa):Prop:=∀(i:Nat) (h:i<s.length),s7 s[i]
instance (s:aa):Decidable (GG s):=inferInstanceAs (Decidable (∀(i:Nat) (h:i<s.length),s7 s[i]))
def Z2:∀c:UInt8,KS (c,())=some (if s7 c then(UInt8.ofNat (lW c),true,()) else(u8 0,false,())):=vG kK
def acB:∀c:UInt8,s7 c->lW c<16:=vG kK
def atN:∀x:Nat,x<16->∀y:Nat,y<16->u8 (g? IntKind.u8 (aN (u8 (hU IntKind.u8 (aN (UInt8.ofNat x)) (cz (u64 4))))) (aN (UInt8.ofNat y)))=UInt8.ofNat (16*x+y):=kK
def SM{s:aa}{k:Nat}(R:s.length=2*k):(∀i,i<k->s7 (an s (2*i) (u8 0))/\s7 (an s (2*i+1) (u8 0)))↔GG s:=by
 constructor
 .intro h i ac
  have:=h (i/2) J;by_cases hp:i%2=0
  .have:=this.1
   rw[show 2*(i/2)=i by omega,nth_get ac]at this;exact this
  have:=this.2;rw[show 2*(i/2)+1=i by omega,nth_get ac]at this;exact this
 intro h i ac;rw[nth_get J,nth_get J];exact⟨h _ _,h _ _⟩
def am5(s:aa)(hl:s.length<=1000000):FX (s,())=some (if s.length%2=0/\GG s then(qm s,0,()) else([],2,())):=by
 unfold FX;have b1:ej (len s) 2=((s.length%2:Nat):Int):=He (b:=2);have bD:i64 (ga (len s) 2)=((s.length/2:Nat):Int):=Hc (b:=2) J;simp only[bD,b1,g1];by_cases h:s.length%2=0
 rotate_left
 .refine(b4 (cL J)).trans ?_
  rw[if_neg (λah=>h ah.1)];rfl
 refine(bU (cx J)).trans ?_;refine(eG ?_).trans ?_
 .simp only[cV,cM]
  exact⟨wh J J J,mW J⟩
 generalize ap:s.length/2=k;have R:s.length=2*k:=J;generalize hf:(λ(x:Int×aa×Int×Unit)=>_)=f;have key:=uK (f:=f) (λi=>(0,(qm s).take i,((2*i:Nat):Int),())) k (λi=>s7 (an s (2*i) (u8 0))/\s7 (an s (2*i+1) (u8 0))) ([],2,()) 0 ?_ ?_ ?_
 .have eM:((0:Int),(qm s).take 0,((2*0:Nat):Int),())=((0:Int),bM (ab 0) (u8 0),(0:Int),()):=by simp[bM,ab]
  rw[eM]at key;rcases key with⟨hall,aj⟩|⟨⟨i,ac,am⟩,aj⟩
  .rw[aj,if_pos ⟨h,(SM R).1 hall⟩,iS (by simp[qm];omega)];rfl
  rw[aj,if_neg (λah=>am ((SM R).2 ah.2 i ac))];rfl
 .intro i ac hp
  subst hf;obtain⟨aeS,dG⟩:=hp i (bX _);have aq:2*i<s.length:=J;have O:2*i+1<s.length:=J;have c1:i64 (aC ((2*i:Nat):Int) 1)=((2*i+1:Nat):Int):=k9 (b:=1) J;have c2:i64 (aC ((2*i:Nat):Int) 2)=((2*(i+1):Nat):Int):=k9 (b:=2) J;refine(b4 (di (show((2*i:Nat):Int)<len s by simp only[len];omega))).trans ?_;refine(eG (jC aq)).trans ?_;simp only[c1,c2,g1,Z2,if_pos aeS,if_pos dG];refine(d9 rfl).trans ?_;refine(eG (jC O)).trans ?_;refine(d9 rfl).trans ?_;refine(d9 (a:=(false,())) rfl).trans ?_;refine(bU rfl).trans ?_;refine(eG (mW ?_)).trans ?_
  .simp only[bF,aV,ib,fQ,gu]
   have:(qm s).length=s.length/2:=by simp[qm]
   omega
  have ao:i<(qm s).length:=by simp[qm];omega
  have hg:(qm s)[i]=UInt8.ofNat (16*lW (an s (2*i) (u8 0))+lW (an s (2*i+1) (u8 0))):=by simp[qm]
  rw[o6 ao,hg];simp only[atN _ (acB _ aeS) _ (acB _ dG)];rfl
 .intro i ac _ hp
  subst hf;have aq:2*i<s.length:=J;have O:2*i+1<s.length:=J;have c1:i64 (aC ((2*i:Nat):Int) 1)=((2*i+1:Nat):Int):=k9 (b:=1) J;refine(b4 (di (show((2*i:Nat):Int)<len s by simp only[len];omega))).trans ?_;refine(eG (jC aq)).trans ?_;simp only[c1,g1,Z2];refine(d9 rfl).trans ?_;refine(eG (jC O)).trans ?_;refine(d9 rfl).trans ?_;refine(d9 (a:=(true,())) ?_).trans ?_
  .by_cases u3:s7 (an s (2*i) (u8 0))
   .rw[if_pos u3,if_neg (λbG=>hp ⟨u3,bG⟩)];rfl
   rw[if_neg u3];rfl
  exact b4 rfl
 intro _;subst hf;exact bU (cP (show ¬((2*k:Nat):Int)<len s by simp only[len];omega))
end Yp
namespace Yp
open Go
def mc(l:aa):Nat:=l.foldl (λn c=>256*n+c.toNat) 0
def Fz{s:aa}(h:i<s.length):mc (s.take (i+1))=256*mc (s.take i)+s[i].toNat:=by unfold mc;rw[o6 h,Xa];rfl
def XW{s:aa}:∀i,i<=s.length->mc (s.take i)<256^i
 |0,_=>by simp[mc]
 |i+1,h=>by have:=XW (s:=s) i J;have ac:=wA s[i];rw[Fz J,J0];omega
def XX{s:aa}(aq:0<s.length)(ae:s[0].toNat<=127):∀i,i<s.length->mc (s.take (i+1))<128*256^i
 |0,_=>by rw[Fz aq];simp[mc];omega
 |i+1,h=>by have:=XX aq ae i J;have ac:=wA s[i+1];rw[Fz h,J0];omega
def axl(x c:Nat)(ah:c<256)(h:256*x+c<=9223372036854775807):i64 (g? .i64 (i64 (hU .i64 (x:Int) (cz (u64 8)))) (c:Int))=((256*x+c:Nat):Int):=by
 have e1:hU .i64 (x:Int) (cz (u64 8))=((256*x:Nat):Int):=by have:hU .i64 (x:Int) (cz (u64 8))=(x:Int)*2^8:=rfl;rw[this];have:(2:Int)^8=256:=bN;rw[this];omega
 rw[e1,uC J];have aT:g? .i64 ((256*x:Nat):Int) (c:Int)=((256*x+c:Nat):Int):=by show(((BitVec.ofInt 64 ((256*x:Nat):Int)|||BitVec.ofInt 64 (c:Int)).toNat:Nat):Int)=_;rw[tL,tL,BitVec.toNat_or,JR,JR,tN J,tN J];have:=JQ (i:=8) ah x;rw[show(2:Nat)^8=256 by decide]at this;rw[<- this]
 rw[aT,uC h]
def dA(b:aa)(A W:Nat):aa:=(b.drop A).take W
def wZ{b:aa}(h:A+W<=b.length):(dA b A W).length=W:=by simp[dA];omega
def ahJ{b:aa}(h:i<(dA b A W).length)(bB:A+i<b.length):(dA b A W)[i]=b[A+i]:=by simp[dA]
def V3{b:aa}:sub b (A:Int) ((A+W:Nat):Int)=dA b A W:=by unfold sub dA;rw[iq,iq,show A+W-A=W by omega]
def jq(b:aa)(df w:Int):Int×Int×Int×Unit:=
 if w<1\/8<w\/df<0\/(b.length:Int)<df then(0,0,1,()) else if(b.length:Int)-df<w then(0,0,3,())
 else if w=8/\127<(an b df.toNat (u8 0)).toNat then(0,0,2,()) else((mc (dA b df.toNat w.toNat):Int),df+w,0,())
def XV{b:aa}(dJ:A+W<=b.length)(hW:W<=8)(eh:¬((W:Int)=8/\127<(an b A (u8 0)).toNat)):∀i,i<W->mc ((dA b A W).take (i+1))<=9223372036854775807:=by
 intro i ac;have hl:=wZ dJ;by_cases aqN:i+1<=7
 .have O:=XW (s:=dA b A W) (i+1) J
  have R:256^(i+1)<=256^7:=vr J aqN;have ai:256^7=72057594037927936:=bN;omega
 have cy:W=8:=J;have aq:0<(dA b A W).length:=J;have am:(dA b A W)[0]=an b A (u8 0):=by rw[ahJ aq J,nth_get J];rfl
 have ae:(dA b A W)[0].toNat<=127:=by rw[am];exact Nat.le_of_not_lt λh=>eh ⟨J,h⟩
 have:=XX aq ae i J;have eH:i=7:=J;subst eH;have ai:256^7=72057594037927936:=bN;omega
def Z0(b:aa)(df w:Int)(hl:b.length<=1000000):lR (b,df,w,())=some (jq b df w):=by
 unfold lR jq;by_cases O:w<1
 .rw[if_pos (.inl O)];exact(d9 (b4 (di O))).trans rfl
 by_cases R:8<w
 .rw[if_pos (.inr (.inl R))];exact(d9 (a:=(true,())) ((bU (cP O)).trans (b4 (di R)))).trans rfl
 by_cases ai:df<0
 .rw[if_pos (.inr (.inr (.inl ai)))];exact(d9 (a:=(true,())) ((bU (cP O)).trans ((bU (cP R)).trans (b4 (di ai))))).trans rfl
 by_cases au:(b.length:Int)<df
 .rw[if_pos (.inr (.inr (.inr au)))];exact(d9 (a:=(true,())) ((bU (cP O)).trans ((bU (cP R)).trans ((bU (cP ai)).trans (congrArg (λb=>some (b,())) (di au)))))).trans rfl
 rw[if_neg J];refine(d9 (a:=(false,())) ((bU (cP O)).trans ((bU (cP R)).trans ((bU (cP ai)).trans (congrArg (λb=>some (b,())) (cP au)))))).trans ?_;refine(bU rfl).trans ?_;obtain⟨A,rfl⟩:∃n:Nat,df=n:=⟨df.toNat,J⟩;obtain⟨W,rfl⟩:∃n:Nat,w=n:=⟨w.toNat,J⟩;have c0:i64 (bg (len b) (A:Int))=(b.length:Int)-A:=by simp only[bg,len];exact hw J J
 simp only[c0];by_cases a4:(b.length:Int)-A<W
 .rw[if_pos a4];exact b4 (di a4)
 rw[if_neg a4];refine(bU (cP a4)).trans ?_;have abu:A+W<=b.length:=J;have dJ:A<b.length:=J;have amT:(T (af (W:Int) 8) (ak (aK (A:Int) (len b)) (some (aF (aN (u8 127)) (aN (an b (ab (A:Int)) (u8 0))),()))) (some (false,())):Option (Bool×Unit))=some (decide ((W:Int)=8/\127<(an b A (u8 0)).toNat),()):=by
  by_cases cy:(W:Int)=8
  .refine(b4 (cL cy)).trans ?_
   refine(eG (jC dJ)).trans ?_;rw[g1,show aN (u8 127)=((127:Nat):Int) by decide,show aN (an b A (u8 0))=(((an b A (u8 0)).toNat:Nat):Int) from rfl,wu];simp only[cy,true_and]
  refine(bU (cx cy)).trans ?_;rw[decide_eq_false (λh=>cy h.1)]
 simp only[iq];refine(d9 amT).trans ?_;by_cases eh:(W:Int)=8/\127<(an b A (u8 0)).toNat
 .rw[if_pos eh];exact b4 (decide_eq_true eh)
 rw[if_neg eh];refine(bU (decide_eq_false eh)).trans ?_;have c1:i64 (aC (A:Int) (W:Int))=((A+W:Nat):Int):=k9 J;simp only[c1,V3];refine(eG (wh J J (by simp only[len];omega))).trans ?_;have hl:=wZ abu;have apP:=XV abu J eh;generalize x_:dA b A W=t at *
 generalize hf:(λ(x:Int×Int×Unit)=>_)=f;have key:=uK (f:=f) (λi=>((mc (t.take i):Int),(i:Int),())) W (λ_=>True) (0,0,0,()) 1 ?_ ?_ ?_
 .have eM:((mc (t.take 0):Int),((0:Nat):Int),())=((0:Int),(0:Int),()):=by simp[mc]
  rw[eM]at key;rcases key with⟨_,aj⟩|⟨⟨i,ac,am⟩,aj⟩
  .rw[aj,iS J]
   show some ((mc t:Int),((A+W:Nat):Int),0,())=_;simp
  exact absurd trivial am
 .intro i ac _
  subst hf;have rM:i<t.length:=J;refine(b4 (di (show(i:Int)<len t by simp only[len];omega))).trans ?_;refine(eG (jC rM)).trans ?_;have c:i64 (aC (i:Int) 1)=((i+1:Nat):Int):=k9 (b:=1) J;have abs:=wA t[i];have Y:=apP i ac;rw[Fz rM]at Y;have c2:i64 (aN t[i])=((t[i].toNat:Nat):Int):=uC J;simp only[g1,nth_get rM,c,c2];rw[axl _ _ abs Y,Fz rM]
 .intro i _ _ h;exact absurd trivial h
 intro _;subst hf;exact bU (cP (show ¬(W:Int)<len t by simp only[len];omega))
end Yp
namespace Yp
open Go
def jp(b:aa)(df n:Int):aa×Int×Int×Unit:=
 if n<0\/999<n\/df<0\/(b.length:Int)<df then([],0,1,()) else if(b.length:Int)-df<(n+1)/2 then([],0,3,())
 else if n%2=1/\¬an (gm (dA b df.toNat ((n.toNat+1)/2))) 0 (u8 0)=48 then([],0,2,())
 else if g4 ((gm (dA b df.toNat ((n.toNat+1)/2))).drop (n.toNat%2)) then((gm (dA b df.toNat ((n.toNat+1)/2))).drop (n.toNat%2),df+((n.toNat+1)/2:Nat),0,()) else([],0,2,())
def afX(s:aa)(f:aa×Int×Int×Nat×Unit->Option (aE (aa×Int×Int×Nat×Unit) (aa×Int×Int×Unit)))
  (hf:f=λx=>T (kv x.2.2.2.1 (aV s)) (ob (sH (bb (ig s x.2.2.2.1).1,())) λba=>T (aZ ba.2.1) (some (aE.rt (aP UInt8,0,2,()))) (some (aE.nx (x.1,x.2.1,x.2.2.1,bF x.2.2.2.1 (ig s x.2.2.2.1).2,())))) (some (aE.ex 0 (x.1,x.2.1,x.2.2.1,x.2.2.2.1,())))) :
  bC f (aP UInt8,0,0,0,())=some (if g4 s then aE.ex 0 (aP UInt8,0,0,s.length,()) else aE.rt (aP UInt8,0,2,())):=by
 have key:=uK (f:=f) (λi=>(aP UInt8,(0:Int),(0:Int),i,())) s.length (λi=>∀h:i<s.length,h8 s[i]) (aP UInt8,0,2,()) 0 ?_ ?_ ?_
 .rcases key with⟨hall,aj⟩|⟨⟨i,ac,am⟩,aj⟩
  .rw[aj,if_pos (xR.2 hall)]
  rw[aj,if_neg (λah=>am (xR.1 ah i ac))]
 .intro i ac hp
  subst hf;obtain⟨e1,aT⟩:=RK ac (hp i (bX _) ac);refine(b4 (DI ac)).trans ?_;refine(d9 e1).trans ?_;refine(bU rfl).trans ?_;simp only[aT];rfl
 .intro i ac _ hp
  subst hf;have:¬h8 s[i]:=λh=>hp λ_=>h;obtain⟨q,e1⟩:=RJ ac this;refine(b4 (DI ac)).trans ?_;refine(d9 e1).trans ?_;rfl
 intro _;subst hf;exact bU (Ur (JL _))
def Rp(b:aa)(df n:Int)(hl:b.length<=1000000):xI (b,df,n,())=some (jp b df n):=by
 unfold xI jp;by_cases O:n<0
 .rw[if_pos (.inl O)];exact(d9 (b4 (di O))).trans rfl
 by_cases R:999<n
 .rw[if_pos (.inr (.inl R))];exact(d9 (a:=(true,())) ((bU (cP O)).trans (b4 (di R)))).trans rfl
 by_cases ai:df<0
 .rw[if_pos (.inr (.inr (.inl ai)))];exact(d9 (a:=(true,())) ((bU (cP O)).trans ((bU (cP R)).trans (b4 (di ai))))).trans rfl
 by_cases au:(b.length:Int)<df
 .rw[if_pos (.inr (.inr (.inr au)))];exact(d9 (a:=(true,())) ((bU (cP O)).trans ((bU (cP R)).trans ((bU (cP ai)).trans (congrArg (λb=>some (b,())) (di au)))))).trans rfl
 rw[if_neg J];refine(d9 (a:=(false,())) ((bU (cP O)).trans ((bU (cP R)).trans ((bU (cP ai)).trans (congrArg (λb=>some (b,())) (cP au)))))).trans ?_;refine(bU rfl).trans ?_;obtain⟨A,rfl⟩:∃n:Nat,df=n:=⟨df.toNat,J⟩;obtain⟨N,rfl⟩:∃k:Nat,n=k:=⟨n.toNat,J⟩;have c0:i64 (bg (len b) (A:Int))=(b.length:Int)-A:=by simp only[bg,len];exact hw J J
 have c1:i64 (ga (i64 (aC (N:Int) 1)) 2)=(((N+1)/2:Nat):Int):=by rw[show i64 (aC (N:Int) 1)=((N+1:Nat):Int) from k9 (b:=1) J];exact Hc (b:=2) J
 have c2:((N:Int)+1)/2=(((N+1)/2:Nat):Int):=J;simp only[c0,c1,c2,iq];generalize d8:(N+1)/2=M;by_cases a4:(b.length:Int)-A<M
 .rw[if_pos a4];exact b4 (di a4)
 rw[if_neg a4];refine(bU (cP a4)).trans ?_;have ao9:A+M<=b.length:=J;have hd:i64 (aC (A:Int) (M:Int))=((A+M:Nat):Int):=k9 J;simp only[hd,V3];refine(eG (wh J J (by simp only[len];omega))).trans ?_;have s3:=wZ ao9;refine(d9 (ZZ (dA b A M) J)).trans ?_;have z3:=rJ (dA b A M);rw[s3]at z3;generalize gm (dA b A M)=h at *
 have b1:ej (N:Int) 2=((N%2:Nat):Int):=He (b:=2);simp only[b1];by_cases ari:N%2=1
 .have hm:(N:Int)%2=1:=J
  refine(b4 (cL J)).trans ?_;have aq:0<h.length:=J;refine(eG (jC (a:=0) aq)).trans ?_;have eM:af (aN (an h (ab 0) (u8 0))) (aN (u8 48))=decide (an h 0 (u8 0)=48):=by
   show((((an h 0 (u8 0)).toNat:Nat):Int)==((48:Nat):Int))=_;rw[m7];simp only[beq_iff_eq,decide_eq_true_eq];constructor
   .intro hh;apply zf.1;exact Fp hh
   intro hh;rw[hh];rfl
  rw[eM];by_cases bh:an h 0 (u8 0)=48
  rotate_left
  .rw[if_pos ⟨hm,bh⟩]
   exact b4 (by rw[decide_eq_false bh];rfl)
  rw[if_neg (λah=>ah.2 bh)];refine(bU (by rw[decide_eq_true bh];rfl)).trans ?_;refine(eG (wh J (by simp only[len];omega) (by simp only[len];omega))).trans ?_;have es:sub h 1 (len h)=h.drop 1:=by unfold sub len;show(h.drop 1).take (h.length-1)=_;rw[iS bf]
  simp only[es,ari];refine(cO (afX (h.drop 1) _ rfl)).trans ?_;by_cases hf:g4 (h.drop 1)
  .rw[if_pos hf,if_pos hf]
   show some (h.drop 1,((A+M:Nat):Int),(0:Int),())=_;simp
  rw[if_neg hf,if_neg hf];rfl
 have jg:N%2=0:=J;rw[if_neg (λah=>J)];refine(bU (cx J)).trans ?_;simp only[jg,rm];refine(cO (afX h _ rfl)).trans ?_;by_cases hf:g4 h
 .rw[if_pos hf,if_pos hf]
  show some (h,((A+M:Nat):Int),(0:Int),())=_;simp
 rw[if_neg hf,if_neg hf];rfl
end Yp
namespace Yp
open Go
end Yp
namespace Yp
open Go
def tH(B:Nat)(wt:UInt8->Nat)(l:aa):Nat:=l.foldl (λn c=>B*n+wt c) 0
def ah8(B:Nat)(wt:UInt8->Nat)(l:aa)(c:UInt8):tH B wt (l++[c])=B*tH B wt l+wt c:=by unfold tH;rw[Xa];rfl
def U6(B:Nat)(g:Nat->UInt8)(v:Nat):∀n,a5 B g v (n+1)=a5 B g (v/B) n++[g (v%B)]
 |0=>by simp[a5]
 |n+1=>by have e:a5 B g v (n+1+1)=g (v/B^(n+1)%B)::a5 B g v (n+1):=rfl;have aT:a5 B g (v/B) (n+1)=g (v/B/B^n%B)::a5 B g (v/B) n:=rfl;rw[e,U6 B g v n,aT,Nat.div_div_eq_div_mul,Nat.pow_succ',l9]
def WK{B:Nat}{g:Nat->UInt8}{wt:UInt8->Nat}(aB:0<B)(h:∀d,d<B->wt (g d)=d):∀(n v:Nat),tH B wt (a5 B g v n)=v%B^n
 |0,v=>by simp[a5,tH,Nat.mod_one]
 |n+1,v=>by rw[U6,ah8,WK aB h n,h _ (sx _ aB),Nat.pow_succ',Nat.mod_mul];omega
def U7{B:Nat}{g:Nat->UInt8}{wt:UInt8->Nat}{l:aa}(h:∀c∈l,wt c<B/\g (wt c)=c):∀i,i<=l.length->a5 B g (tH B wt (l.take i)) i=l.take i
 |0,_=>by simp[a5]
 |i+1,ac=>by
  have ah:=h _ (lI (show i<l.length by omega));rw[o6 J,ah8,U6];have e1:(B*tH B wt (l.take i)+wt l[i])/B=tH B wt (l.take i):=by rw[Nat.mul_add_div J,zn ah.1];omega
  have aT:(B*tH B wt (l.take i)+wt l[i])%B=wt l[i]:=by rw[Nat.mul_add_mod,tN ah.1]
  rw[e1,aT,U7 h i J,ah.2]
theorem ajU(l:aa):mc l=tH 256 UInt8.toNat l:=rfl
theorem ayL(l:aa):val l=tH 10 k5 l:=rfl
def ajT(v n:Nat):mc (a5 256 mC v n)=v%256^n:=by rw[ajU];refine WK J (λd aI => ?_) n v;simp only[mC,tS];omega
def WI(v n:Nat):val (a5 10 gi v n)=v%10^n:=by rw[ayL];refine WK J (λd aI => ?_) n v;simp only[k5,gi,tS];omega
def avd(l:aa):a5 256 mC (mc l) l.length=l:=by have:=U7 (B:=256) (g:=mC) (wt:=UInt8.toNat) (l:=l) (λc _=>⟨wA c,aea c⟩) l.length (bX _);rw[o5]at this;exact this
def ae3{l:aa}(hf:g4 l):a5 10 gi (val l) l.length=l:=by
 have:=U7 (B:=10) (g:=gi) (wt:=k5) (l:=l) (λc ah=>by obtain⟨i,ac,rfl⟩:=o3 ah;have:=CB (hf i ac);exact⟨this.2,this.1.symm⟩) l.length (bX _)
 rw[o5]at this;exact this
def ayK{l:aa}(hf:g4 l):val l<10^l.length:=by have:=WH (s:=l) l.length (bX _) (λj _ h=>hf j h);rw[o5]at this;exact this
def LG{b:aa}:∀{i:Nat} (h:i<b.length),an (gm b) (2*i) (u8 0)=n9 (b[i].toNat/16)/\an (gm b) (2*i+1) (u8 0)=n9 (b[i].toNat%16):=by
 induction b with
 |nil=>intro i h;simp at h
 |cons x r ih=>
  intro i h;have e:gm (x::r)=n9 (x.toNat/16)::n9 (x.toNat%16)::gm r:=rfl;cases i with
  |zero=>rw[e];exact⟨rfl,rfl⟩
  |succ i =>have:=ih (i:=i) (by simpa using h);rw[e];exact this
def auQ{a b:aa}{k:Nat}(bc:a.length=2*k)(Y:b.length=2*k)(h:∀i,i<k->an a (2*i) (u8 0)=an b (2*i) (u8 0)/\an a (2*i+1) (u8 0)=an b (2*i+1) (u8 0)):a=b:=by
 apply sv
 .omega
 intro j O R;have:=h (j/2) J;by_cases hp:j%2=0
 .have:=this.1
  rw[show 2*(j/2)=j by omega,nth_get O,nth_get R]at this;exact this
 have:=this.2;rw[show 2*(j/2)+1=j by omega,nth_get O,nth_get R]at this;exact this
def adL:∀d:Nat,d<16->h8 (n9 d)->k5 (n9 d)=d:=kK
def Z6:∀d:Nat,d<10->n9 d=UInt8.ofNat (48+d):=kK
def Mz:∀d:Nat,d<16->s7 (n9 d)/\lW (n9 d)=d:=kK
def aqq{p:aa}(hf:g4 p)(az:p.length%2=0):gm (gC p)=p:=by
 have hl:(gC p).length=p.length/2:=by simp[gC]
 refine auQ (k:=p.length/2) (by rw[rJ,hl]) J λi ac => ?_;have eH:i<(gC p).length:=J;have aq:2*i<p.length:=J;have O:2*i+1<p.length:=J;obtain⟨e1,aT⟩:=LG eH;obtain⟨cK,cU⟩:=CB (hf _ aq);obtain⟨e_,eC⟩:=CB (hf _ O);have hg:(gC p)[i]=UInt8.ofNat (16*k5 p[2*i]+k5 p[2*i+1]):=by simp[gC,iX,nth_get aq,nth_get O]
 have am:(gC p)[i].toNat=16*k5 p[2*i]+k5 p[2*i+1]:=by rw[hg,tS];omega
 rw[e1,aT,am,nth_get aq,nth_get O];rw[show(16*k5 p[2*i]+k5 p[2*i+1])/16=k5 p[2*i] by omega,show(16*k5 p[2*i]+k5 p[2*i+1])%16=k5 p[2*i+1] by omega];rw[Z6 _ cU,Z6 _ eC];exact⟨cK.symm,e_.symm⟩
def ajJ{u:aa}(hf:g4 (gm u)):gC (gm u)=u:=by
 have hl:=rJ u;apply sv
 .simp[gC];omega
 intro i O R;obtain⟨e1,aT⟩:=LG R;have f0:=hf (2*i) J;have f1:=hf (2*i+1) J;rw[<- nth_get (d:=u8 0)]at f0 f1;rw[e1]at f0;rw[aT]at f1;have aM:=wA u[i];simp only[gC,JP,xh,iX,e1,aT];rw[adL _ J f0,adL _ J f1];apply zf.1;rw[tS];omega
def aqv(b:aa):GG (gm b):=by have hl:=rJ b;refine(SM (k:=b.length) J).1 λi ac => ?_;obtain⟨e1,aT⟩:=LG ac;have aM:=wA b[i];rw[e1,aT];exact⟨(Mz _ J).1,(Mz _ J).1⟩
def ayz(b:aa):qm (gm b)=b:=by
 have hl:=rJ b;apply sv
 .simp[qm];omega
 intro i O R;obtain⟨e1,aT⟩:=LG R;have aM:=wA b[i];simp only[qm,JP,xh,e1,aT];rw[(Mz _ J).2,(Mz _ J).2];apply zf.1;rw[tS];omega
end Yp
namespace Yp
def a?{a b r:α}(h:c=true)(k:a=r):T c a b=r:=(b4 h).trans k
def a0{a b r:α}(h:c=false)(k:b=r):T c a b=r:=(bU h).trans k
def a6{a r:Option α}(h:c=true)(k:a=r):ak c a=r:=(eG h).trans k
def aL{o:Option α}{a:α}{f:α->Option β}{r:Option β}(h:o=some a)(k:f a=r):ob o f=r:=(d9 h).trans k
end Yp
namespace Yp
open Go
def zg:=@Classical.not_not
def PF:=@List.contains_eq_mem
def Py:=@Bool.false_ne_true
def Xb:=@Bool.not_eq_false
theorem az5{k:Nat}{y:σ}{kn:σ->Option β}{hy:Nat->σ->Option β}{hQ:ρ->Option β}:b_ (some (.ex k y)) kn hy hQ=hy k y:=rfl
def agF{a b:α}:T c (some a) (some b)=some (T c a b):=by cases c<;>rfl
def aw9{a:α}:T c a a=a:=by cases c<;>rfl
def Mn{f:σ->Option (aE σ ρ)}(bR:Nat->σ)(n:Nat)(p:Nat->Prop)(r:Nat->aE σ ρ)(k:Nat)(aj:∀i,match r i with|.nx _=>False|_=>True)(ae:∀i,i<n->p i->f (bR i)=some (.nx (bR (i+1))))(Y:∀i,i<n->¬p i->f (bR i)=some (r i))(az:f (bR n)=some (.ex k (bR n))):
  ((∀i,i<n->p i)/\bC f (bR 0)=some (.ex k (bR n)))\/∃i,i<n/\(∀j,j<i->p j)/\¬p i/\bC f (bR 0)=some (r i):=by
 by_cases h:∀i,i<n->p i
 .refine .inl ⟨h,?_⟩
  rw[kr bR n (λi ac=>ae i ac (h i ac)) 0 (eS _)];exact dT az
 refine .inr ?_;have uw:∃i,i<n/\¬p i:=kZ λah=>h λi ac=>kZ λhp=>ah ⟨i,ac,hp⟩;obtain⟨k,ap,hp⟩:=uw;induction k using Nat.strongRecOn with
 |_ k ih=>
  by_cases hl:∃j,j<k/\¬p j
  .obtain⟨j,ao,S'⟩:=hl
   exact ih j ao J S'
  have hall:∀i,i<k->p i:=λi ac=>kZ λhp=>hl ⟨i,ac,hp⟩;refine⟨k,ap,hall,hp,?_⟩;rw[kr bR k (λi ac=>ae i J (hall i ac)) 0 (eS _)];have:=Y k ap hp;have rR:=aj k;generalize r k=x at *
  cases x with
  |nx y=>exact rR.elim
  |ex j y=>exact dT this
  |rt y=>exact n8 this
def sR:List (List Int):=[[1,2,25],[1,3,22,49,70],[1,4,13,14,18],[1,6,3,11,12,15],[1,10,7],[1,12,4],[1,16,53],[1,42,90],[2,19,2],[2,11,32,100],[3,12,37],[3,6,38],[3,2,39],[3,8,41],[3,15,42],[3,42,95],[4,37,35],[4,28,102],[5,400,48],[5,120,54],[6,8,52,64,96,128],[7,255,55],[7,400,127]]
def me(i:Nat):List Int:=an sR i (aP Int)
def e7(no:Int):Option (Int×Int):=(sR.find? λr=>(r.drop 2).contains no).map λr=>(an r 0 0,an r 1 0)
def iv(o:Option (Int×Int)):(Int×Int×Unit)×Bool×Unit:=match o with|some (k,l)=>((k,l,()),true,())|none=>((0,0,()),false,())
def av2(l:List Int)(n:Int)(hl:l.length<=1000000):Im (l,n,())=some (l.contains n,()):=by
 unfold Im;generalize hf:(λ(V:Bool×Int×Unit)=>_)=f;have key:=Mn (f:=f) (λi=>(false,(i:Int),())) l.length (λi=>¬an l i 0=n) (λ_=>.rt (true,())) 0 (λ_=>trivial) ?_ ?_ ?_
 .rcases key with⟨h,aj⟩|⟨i,ac,_,hp,aj⟩
  .refine(cO aj).trans ?_
   have:l.contains n=false:=by rw[PF,decide_eq_false_iff_not];intro hm;obtain⟨i,ac,rfl⟩:=o3 hm;exact h i ac (nth_get ac)
   rw[this];rfl
  refine(cO aj).trans ?_;have:l.contains n=true:=by rw[PF,decide_eq_true_eq,<- zg.1 hp,nth_get ac];exact lI ac
  rw[this];rfl
 .intro i ac hp
  subst hf;refine a? (wu.trans (decide_eq_true ac)) ?_;refine a6 (jC ac) ?_;refine a0 (cx hp) ?_;have c:i64 (aC (i:Int) 1)=((i+1:Nat):Int):=k9 (b:=1) J
  grind
 .intro i ac hp
  subst hf;refine a? (wu.trans (decide_eq_true ac)) ?_;refine a6 (jC ac) ?_;exact b4 (cL (zg.1 hp))
 subst hf;exact bU (cP (by simp only[len];omega))
def aaD{α:Type}{p:α->Bool}:∀{l:List α} {i:Nat} (h:i<l.length),(∀j (ao:j<i),p (l[j]'J)=false)->p l[i]=true->l.find? p=some l[i]
 |a::r,0,_,_,h=>by simp only[List.getElem_cons_zero]at h ⊢;exact List.find?_cons_of_pos h
 |a::r,i+1,ac,ao,h=>by rw[List.find?_cons_of_neg (by have:=ao 0 J;simp at this;rw[this];exact Py)];exact aaD (by grind) (λj lu=>by have:=ao (j+1) J;simpa using this) h
def afs(no:Int):Ij (no,())=some (iv (e7 no)):=by
 unfold Ij;generalize hf:(λ(V:Bool×Int×Unit)=>_)=f;have b9:∀i,i<23->3<=(me i).length/\(me i).length<=10:=bN;have fb:∀i,i<23->Im (sub (me i) 2 (len (me i)),no,())=some (((me i).drop 2).contains no,()):=by
  intro i ac;have:=b9 i ac;rw[av2 _ _ (by simp only[sub,ib,ep];omega)];have:sub (me i) 2 (len (me i))=(me i).drop 2:=by simp only[sub,len];rw[iS bf];rfl
  rw[this]
 have key:=Mn (f:=f) (λi=>(false,(i:Int),())) 23 (λi=>((me i).drop 2).contains no=false) (λi=>.rt ((an (me i) 0 0,an (me i) 1 0,()),true,())) 0 (λ_=>trivial) ?_ ?_ ?_
 .have am:∀i,(h:i<23)->sR[i]'(by exact h)=me i:=λi h=>(nth_get (d:=aP Int) (by exact h)).symm
  rcases key with⟨h,aj⟩|⟨i,ac,ao,hp,aj⟩
  .refine(cO aj).trans ?_
   have:e7 no=none:=by unfold e7;rw[Option.map_eq_none_iff,List.find?_eq_none];intro r hm;obtain⟨i,ac,rfl⟩:=o3 hm;rw[am i ac,h i ac];exact Py
   rw[this];rfl
  refine(cO aj).trans ?_;have:e7 no=some (an (me i) 0 0,an (me i) 1 0):=by unfold e7;have aqw:sR.find? (λr=>(r.drop 2).contains no)=some (sR[i]'(by exact ac)):=aaD (l:=sR) (p:=λ(r:List Int)=>(r.drop 2).contains no) ac (λj lu=>(congrArg (λ(r:List Int)=>(r.drop 2).contains no) (am j J)).trans (ao j lu)) ((congrArg (λ(r:List Int)=>(r.drop 2).contains no) (am i ac)).trans ((Xb _).mp hp));rw[aqw,am i ac];rfl
  rw[this];rfl
 .intro i ac hp
  subst hf;have h:=b9 i ac;refine a? (wu (b:=23).trans (decide_eq_true ac)) ?_;refine a6 (jC (n:=23) ac) ?_;refine a6 (show b5 2 (len (me i)) (len (me i))=true from wh J (by simp only[len];omega) J) ?_;refine aL (fb i ac) ?_;refine a0 hp ?_;have c:i64 (aC (i:Int) 1)=((i+1:Nat):Int):=k9 (b:=1) J;simp only[c]
 .intro i ac hp
  subst hf;have h:=b9 i ac;refine a? (wu (b:=23).trans (decide_eq_true ac)) ?_;refine a6 (jC (n:=23) ac) ?_;refine a6 (show b5 2 (len (me i)) (len (me i))=true from wh J (by simp only[len];omega) J) ?_;refine aL (fb i ac) ?_;refine a? ((Xb _).mp hp) ?_
  repeat refine a6 (jC (n:=23) ac) ?_
  repeat first
   |refine a6 (show aK 0 (len (me i))=true from acS J (by simp only[len];omega)) ?_
   |refine a6 (show aK 1 (len (me i))=true from acS J (by simp only[len];omega)) ?_
   |refine a6 (jC (n:=23) ac) ?_
  rfl
 subst hf;exact bU (cP (by simp only[len];decide))
def CN:List Int:=sR.flatMap λr=>r.drop 2
def kT(k no:Int):Int:=match zI (k,no,()) with|some (a,())=>a|none=>0
def anU(no:Int):∃a,F_ (no,())=some (a,()):=by
 unfold F_;simp only[agF]
 grind
def anW(k no:Int):zI (k,no,())=some (kT k no,()):=by
 have:∃a,zI (k,no,())=some (a,()):=by
  unfold zI;obtain⟨a,bc⟩:=anU no;simp only[bc,UC,agF]
  grind
 obtain⟨a,bc⟩:=this;unfold kT;rw[bc]
def DW(no:Int):Option (Int×Int):=if 0<kT 1 no then some (1,kT 1 no) else if 0<kT 2 no then some (2,kT 2 no) else if 0<kT 3 no then some (3,kT 3 no) else if 0<kT 4 no then some (4,kT 4 no)
 else if 0<kT 5 no then some (5,kT 5 no) else if 0<kT 6 no then some (6,kT 6 no) else if 0<kT 7 no then some (7,kT 7 no) else none
def anR(no:Int):vT (no,())=some (iv (DW no)):=by
 unfold vT;generalize hf:(λ(V:Bool×Int×Unit)=>_)=f;have step:∀k:Nat,k<=7->f (false,(k:Int),())=if 0<kT k no then some (.rt (((k:Int),kT k no,()),true,())) else some (.nx (false,((k+1:Nat):Int),())):=by
  intro k ap;subst hf;refine a? (lz (show(k:Int)<=7 by omega)) ?_;refine aL (anW _ _) ?_;have c:i64 (aC (k:Int) 1)=((k+1:Nat):Int):=k9 (b:=1) J;simp only[c];by_cases h:0<kT k no
  .rw[if_pos h];exact b4 (di h)
  rw[if_neg h];exact bU (cP h)
 have last:f (false,((8:Nat):Int),())=some (.ex 0 (false,((8:Nat):Int),())):=by subst hf;exact bU (n6 (show ¬((8:Nat):Int)<=7 by omega))
 have key:∀k:Nat,k<=7->kT k no<=0->bC f (false,(k:Int),())=bC f (false,((k+1:Nat):Int),()):=λk ap h=>eE (by rw[step k ap,if_neg J]);have rM:∀k:Nat,k<=7->0<kT k no->bC f (false,(k:Int),())=some (.rt (((k:Int),kT k no,()),true,())):=λk ap h=>n8 (by rw[step k ap,if_pos h]);have:=key 1;have:=key 2;have:=key 3;have:=key 4;have:=key 5;have:=key 6;have:=key 7;have:=rM 1;have:=rM 2;have:=rM 3;have:=rM 4;have:=rM 5;have:=rM 6;have:=rM 7;have cy:bC f (false,((8:Nat):Int),())=some (.ex 0 (false,((8:Nat):Int),())):=dT last;show b_ (bC f (false,((1:Nat):Int),())) _ _ _=_;unfold DW
 repeat' split
 all_goals
  simp_all
  first|done|rfl
def as7(h:∀c∈CN,¬no=c):∀k,kT k no=0:=by have bB:∀c∈CN,af no c=false:=λc ah=>cx (h c ah);have e:CN=[25,22,49,70,13,14,18,3,11,12,15,7,4,53,90,2,32,100,37,38,39,41,42,95,35,102,48,54,52,64,96,128,55,127]:=bN;rw[e]at bB;simp at bB;intro k;unfold kT zI F_;simp only[bB,Ba,UC,aw9]
def au0(no:Int):DW no=e7 no:=by
 by_cases h:no∈CN
 .exact(by decide +kernel:∀no∈CN,DW no=e7 no) no h
 have bB:∀c∈CN,¬no=c:=λc ah e=>h (e▸ah);have e1:DW no=none:=by simp[DW,as7 bB]
 have aT:e7 no=none:=by unfold e7;rw[Option.map_eq_none_iff,List.find?_eq_none];intro r aj ah;rw[PF,decide_eq_true_eq]at ah;exact h (zm.2 ⟨r,aj,ah⟩)
 rw[e1,aT]
def F8(no:Int):vT (no,())=some (iv (e7 no)):=by rw[anR,au0]
def kinds(k:Int):Prop:=k=1\/k=2\/k=3\/k=4\/k=5\/k=6\/k=7
instance (k:Int):Decidable (kinds k):=by unfold kinds;infer_instance
def rF(h:e7 no=some (k,l)):kinds k/\1<=l/\l<=400/\(k=2\/k=4->l<=99):=by
 unfold e7 at h;rw[l8]at h;have:∀r∈sR,kinds (an r 0 0)/\1<=an r 1 0/\an r 1 0<=400/\(an r 0 0=2\/an r 0 0=4->an r 1 0<=99):=kK
 grind
def oR(lo ac:Int)(v:aa):Prop:=∀i (h:i<v.length),lo<=aN v[i]/\aN v[i]<=ac
instance (lo ac:Int) (v:aa):Decidable (oR lo ac v):=inferInstanceAs (Decidable (∀(i:Nat) (h:i<v.length),lo<=aN v[i]/\aN v[i]<=ac))
def aeB(lo ac:UInt8)(v:aa)(hl:v.length<=1000000):∃i,bC (λ(V:Bool×Int×Unit)=>
  T (aF V.2.1 (len v)) (ak (aK V.2.1 (len v)) (ob (T (aF (aN (an v (ab V.2.1) (u8 0))) (aN lo)) (some (true,())) (some (aF (aN ac) (aN (an v (ab V.2.1) (u8 0))),())))
   λ(a:Bool×Unit)=>T a.1 (some (aE.ex 999999999 (false,V.2.1,()))) (some (aE.nx (V.1,i64 (aC V.2.1 1),())))))
   (some (aE.ex 0 (V.1,V.2.1,()):aE (Bool×Int×Unit) Unit))) (false,0,())=some (if oR (aN lo) (aN ac) v then .ex 0 (false,i,()) else .ex 999999999 (false,i,())):=by
 generalize hf:(λ(V:Bool×Int×Unit)=>_)=f;have key:=Mn (f:=f) (λi=>(false,(i:Int),())) v.length (λi=>aN lo<=aN (an v i (u8 0))/\aN (an v i (u8 0))<=aN ac) (λi=>.ex 999999999 (false,(i:Int),())) 0 (λ_=>trivial) ?_ ?_ ?_
 .rcases key with⟨h,aj⟩|⟨i,ac,_,hp,aj⟩
  .refine⟨(v.length:Int),aj.trans ?_⟩
   rw[if_pos (show oR (aN lo) (aN ac) v from λi ac=>by have:=h i ac;rwa [nth_get ac]at this)]
  refine⟨(i:Int),aj.trans ?_⟩;rw[if_neg (λ(ah:oR (aN lo) (aN _) v)=>hp (by have:=ah i ac;rwa [<- nth_get (d:=u8 0) ac]at this))]
 .intro i ac hp
  subst hf;refine a? (wu.trans (decide_eq_true ac)) ?_;refine a6 (jC ac) ?_;have c:i64 (aC (i:Int) 1)=((i+1:Nat):Int):=k9 (b:=1) J;simp only[g1,c];refine aL (a:=(false,())) (a0 (cP J) (congrArg (λb=>some (b,())) (cP J))) ?_;rfl
 .intro i ac hp
  subst hf;refine a? (wu.trans (decide_eq_true ac)) ?_;refine a6 (jC ac) ?_;simp only[g1];by_cases h:aN (an v i (u8 0))<aN lo
  .exact aL (b4 (di h)) rfl
  exact aL (a:=(true,())) (a0 (cP h) (congrArg (λb=>some (b,())) (di J))) rfl
 subst hf;exact bU (cP (by simp only[len];omega))
def vQ(k:Int)(v:aa):Prop:=(k<=2->g4 v)/\(k<=5->oR 32 126 v)
def j3(k l:Int)(n:Nat):Prop:=if k=1\/k=3\/k=6 then(n:Int)=l else 1<=n/\(n:Int)<=l
instance (k l:Int) (n:Nat):Decidable (j3 k l n):=by unfold j3;infer_instance
def gZ(k l:Int)(v:aa):Prop:=vQ k v/\j3 k l v.length
instance (k l:Int) (v:aa):Decidable (gZ k l v):=inferInstanceAs (Decidable (((k<=2->g4 v)/\(k<=5->oR 32 126 v))/\j3 k l v.length))
theorem HO(c:UInt8):aN c=((c.toNat:Nat):Int):=rfl
def awD{v:aa}:oR 48 57 v↔g4 v:=by unfold oR g4 h8;refine forall_congr' λi=>forall_congr' λh => ?_;rw[HO];omega
def CL{v:aa}(h:g4 v):oR 32 126 v:=λi ac=>by have:=h i ac;unfold h8 at this;rw[HO];omega
def cS(k:Int):Int:=if k=2\/k=4 then 2 else if k=5\/k=7 then 3 else 0
def aat(ap:kinds k):iY (k,())=some (cS k,()):=by rcases ap with rfl|rfl|rfl|rfl|rfl|rfl|rfl<;>rfl
def aft(ap:kinds k):M? (k,())=some (cS k,()):=by rcases ap with rfl|rfl|rfl|rfl|rfl|rfl|rfl<;>rfl
def aaX{o:Option (Int×Int)}(h:o=some (k,l)):iv o=((k,l,()),true,()):=by rw[h];rfl
def aol{o:Option (Int×Int)}(h:o=none):iv o=((0,0,()),false,()):=by rw[h];rfl
def mt{a b:Bool}(h:a=b):some (a,())=some (b,()):=by rw[h]
def fT(no:Int)(v:aa):Bool:=match e7 no with|some (k,l)=>decide (gZ k l v)|none=>false
def Lb(no:Int)(v:aa)(hl:v.length<=1000000):vS (no,v,())=some (fT no v,()):=by
 unfold vS fT;refine aL (F8 no) ?_;cases aO:e7 no with
 |none=>exact aL (a:=(true,())) (b4 rfl) rfl
 |some p=>
  obtain⟨k,l⟩:=p;rw[aaX rfl];obtain⟨ap,O,rG,uo⟩:=rF aO;by_cases b9:l<v.length
  .refine aL (a:=(true,())) (a0 rfl (mt (di b9))) ?_
   refine a? rfl (mt ?_);refine(decide_eq_false λh => ?_).symm;have:=h.2;unfold j3 at this
   grind
  refine aL (a:=(false,())) (a0 rfl (mt (cP b9))) ?_;obtain⟨i,ek⟩:=aeB (u8 48) (u8 57) v hl;obtain⟨j,e8⟩:=aeB (u8 32) (u8 126) v hl;have e1:oR (aN (u8 48)) (aN (u8 57)) v↔g4 v:=awD;have aT:oR (aN (u8 32)) (aN (u8 126)) v↔oR 32 126 v:=PB;simp only[e1]at ek;simp only[aT]at e8;have BQ:∀{c:Bool} {p:Prop} [Decidable p],(c=true↔p)->some (c,())=some (decide p,()):=fun{c p _} h=>mt (m7.2 (h.trans decide_eq_true_iff.symm));refine a0 rfl ?_;rcases ap with rfl|rfl|rfl|rfl|rfl|rfl|rfl
  .refine a? rfl ?_;refine a? rfl ?_
   refine(cO ek).trans ?_;by_cases hf:g4 v
   .rw[if_pos hf]
    refine(cO e8).trans ?_;rw[if_pos (CL hf)];refine BQ ?_;simp[af,len,gZ,j3,vQ,hf,CL hf]
   rw[if_neg hf];exact mt (decide_eq_false λh=>hf (h.1.1 J)).symm
  .refine a0 rfl ?_;refine a? rfl ?_
   refine(cO ek).trans ?_;by_cases hf:g4 v
   .rw[if_pos hf]
    refine(cO e8).trans ?_;rw[if_pos (CL hf)];refine BQ ?_;simp[aF,len,gZ,j3,vQ,hf,CL hf];omega
   rw[if_neg hf];exact mt (decide_eq_false λh=>hf (h.1.1 J)).symm
  .refine a0 rfl ?_;refine a0 rfl ?_;refine a? rfl ?_;refine a? rfl ?_
   refine(cO e8).trans ?_;by_cases hf:oR 32 126 v
   .rw[if_pos hf]
    refine BQ ?_;simp[af,len,gZ,j3,vQ,hf]
   rw[if_neg hf];exact mt (decide_eq_false λh=>hf (h.1.2 J)).symm
  .refine a0 rfl ?_;refine a0 rfl ?_;refine a0 rfl ?_;refine a? rfl ?_
   refine(cO e8).trans ?_;by_cases hf:oR 32 126 v
   .rw[if_pos hf]
    refine BQ ?_;simp[aF,len,gZ,j3,vQ,hf];omega
   rw[if_neg hf];exact mt (decide_eq_false λh=>hf (h.1.2 J)).symm
  .refine a0 rfl ?_;refine a0 rfl ?_;refine a0 rfl ?_;refine a0 rfl ?_;refine a? rfl ?_
   refine(cO e8).trans ?_;by_cases hf:oR 32 126 v
   .rw[if_pos hf]
    refine BQ ?_;simp[aF,len,gZ,j3,vQ,hf];omega
   rw[if_neg hf];exact mt (decide_eq_false λh=>hf (h.1.2 J)).symm
  .refine a0 rfl ?_;refine a0 rfl ?_;refine a0 rfl ?_;refine a0 rfl ?_;refine a0 rfl ?_
   refine BQ ?_;simp[af,len,gZ,j3,vQ]
  refine a0 rfl ?_;refine a0 rfl ?_;refine a0 rfl ?_;refine a0 rfl ?_;refine a0 rfl ?_;refine BQ ?_;simp[aF,len,gZ,j3,vQ];omega
def Vi(k l:Int)(v:aa)(hl:v.length<=1000000):∃b,Il ((k,l,()),v,())=some (b,())/\(1<=k->b=decide (gZ k l v)):=by
 unfold Il;generalize hf:(λ(V:Bool×Int×Unit)=>_)=f;have adH:aN (u8 48)=48:=bN;have adI:aN (u8 57)=57:=bN;have a3:aN (u8 32)=32:=bN;have adF:aN (u8 126)=126:=bN;have key:=Mn (f:=f) (λi=>(false,(i:Int),())) v.length (λi=>(k<=2->48<=aN (an v i (u8 0))/\aN (an v i (u8 0))<=57)/\(3<=k->k<=5->32<=aN (an v i (u8 0))/\aN (an v i (u8 0))<=126)) (λi=>.rt (false,())) 0 (λ_=>trivial) ?_ ?_ ?_
 .rcases key with⟨h,aj⟩|⟨i,ac,_,hp,aj⟩
  .refine⟨j3 k l v.length,?_,λap => ?_⟩
   .refine(cO aj).trans ?_
    by_cases ap:k=1\/k=3\/k=6
    .refine(d9 (a:=(true,())) ?_).trans ?_
     .rcases ap with rfl|rfl|rfl
      .rfl
      .rfl
      rfl
     refine(b4 rfl).trans ?_;refine mt ?_;rw[m7];simp only[af,len,j3,if_pos ap,decide_eq_true_eq,beq_iff_eq]
    refine(d9 (a:=(false,())) ?_).trans ?_
    .exact(bU (cx (λh=>ap (.inl h)))).trans ((bU (cx (λh=>ap (.inr (.inl h))))).trans (mt (cx (λh=>ap (.inr (.inr h))))))
    refine(bU rfl).trans ?_;by_cases O:1<=v.length
    .refine(d9 (b4 (lz (by simp only[len];omega)))).trans ?_
     refine mt ?_;rw[m7];simp only[ j3,if_neg ap,decide_eq_true_eq];exact(decide_eq_true_iff (p:=(v.length:Int)<=l)).trans ⟨λh=>⟨O,h⟩,λh=>h.2⟩
    refine(d9 (bU (n6 (by simp only[len];omega)))).trans ?_;refine mt ?_;rw[m7];simp only[j3,if_neg ap,decide_eq_true_eq,PK,false_iff];omega
   have ah:vQ k v:=by
    refine⟨λR i ac => ?_,λa4 i ac => ?_⟩
    .have:=(h i ac).1 R
     rw[nth_get ac,HO]at this;unfold h8;omega
    by_cases R:k<=2
    .have:=(h i ac).1 R
     rw[nth_get ac]at this;omega
    have:=(h i ac).2 J a4;rw[nth_get ac]at this;omega
   simp[gZ,ah]
  refine⟨false,(cO aj).trans rfl,λap=>(decide_eq_false λah=>hp ⟨λR => ?_,λai a4 => ?_⟩).symm⟩
  .have:=ah.1.1 R i ac
   unfold h8 at this;rw[nth_get ac,HO];omega
  have:=ah.1.2 a4 i ac;rw[nth_get ac];omega
 .intro i ac hp
  subst hf;refine(b4 (wu.trans (decide_eq_true ac))).trans ?_;have c:i64 (aC (i:Int) 1)=((i+1:Nat):Int):=k9 (b:=1) J;have Q1:aK (i:Int) (len v)=true:=jC ac;simp only[g1,c,adH,adI,a3,adF,Q1];refine(d9 (a:=(false,())) ?_).trans rfl;by_cases R:k<=2
  .have:=hp.1 R
   refine(b4 (lz R)).trans ?_;refine(bU (cP J)).trans ?_;refine(bU (cP J)).trans ?_;exact bU (n6 (show ¬3<=k by omega))
  refine(bU (n6 R)).trans ?_;refine(b4 (lz (show 3<=k by omega))).trans ?_;by_cases a4:k<=5
  .have:=hp.2 J a4
   refine(b4 (lz a4)).trans ?_;refine(bU (cP J)).trans ?_;exact mt (cP J)
  exact bU (n6 a4)
 .intro i ac hp
  subst hf;refine(b4 (wu.trans (decide_eq_true ac))).trans ?_;have Q1:aK (i:Int) (len v)=true:=jC ac;simp only[g1,adH,adI,a3,adF,Q1];refine(d9 (a:=(true,())) ?_).trans rfl;by_cases R:k<=2
  .refine(b4 (lz R)).trans ?_
   by_cases bc:aN (an v i (u8 0))<48
   .exact b4 (di bc)
   refine(bU (cP bc)).trans ?_;refine(b4 (di ?_)).trans rfl;refine kZ λY=>hp ⟨λ_=>J,λh=>J⟩
  by_cases a4:k<=5
  .refine(bU (n6 R)).trans ?_
   refine(b4 (lz (show 3<=k by omega))).trans ?_;refine(b4 (lz a4)).trans ?_;by_cases bc:aN (an v i (u8 0))<32
   .exact b4 (di bc)
   refine(bU (cP bc)).trans ?_;refine mt (di ?_);refine kZ λY=>hp ⟨λ_=>J,λ_ _=>J⟩
  exact absurd ⟨λh=>absurd h R,λ_ h=>absurd h a4⟩ hp
 subst hf;exact bU (cP (by simp only[len];omega))
def av0(no:Int)(v:aa)(hl:v.length<=1000000):M' (no,v,())=some (fT no v,()):=by
 unfold M' fT;refine aL (afs no) ?_;cases aO:e7 no with
 |none =>rw[aol rfl];obtain⟨b,Y,_⟩:=Vi 0 0 v hl;refine aL Y ?_;exact aL (bU rfl) rfl
 |some p =>obtain⟨k,l⟩:=p;rw[aaX rfl];obtain⟨b,Y,h⟩:=Vi k l v hl;refine aL Y ?_;refine aL (b4 rfl) (mt (h ?_));have:=(rF aO).1;unfold kinds at this;omega
def f?(k:Int)(n:Nat):aa:=if 0<cS k then gC (eK (a5 10 gi n (cS k).toNat)) else[]
def body(k:Int)(v:aa):aa:=if k<=2 then gC (eK v) else v
def kA(k:Int)(v:aa):aa:=f? k v.length++body k v
def qp(no:Int)(v:aa):aa×Int×Unit:=match e7 no with|none=>([],12,())|some (k,l)=>if gZ k l v then(kA k v,0,()) else([],1,())
def ajK(p:aa):(gC p).length=p.length/2:=by simp[gC]
def ry(p:aa):(gC (eK p)).length=(p.length+1)/2:=by rw[ajK,H6];omega
def xv(k:Int)(v:aa):(body k v).length=if k<=2 then(v.length+1)/2 else v.length:=by
 unfold body;split
 .exact ry v
 rfl
def Q9{v:aa}(ap:kinds k)(uo:k=2\/k=4->l<=99)(rG:l<=400)(aD:gZ k l v)(aq:0<cS k):(1<=cS k/\cS k<=18)/\(0<=(v.length:Int)/\(v.length:Int)<10^(cS k).toNat)/\1<=v.length/\(v.length:Int)<=l:=by
 have:=aD.2;unfold j3 at this;rcases ap with rfl|rfl|rfl|rfl|rfl|rfl|rfl
 .exact absurd aq bN
 .have R:(10:Int)^(cS 2).toNat=100:=bN
  rw[if_neg bN]at this;rw[R];exact⟨bN,J,J⟩
 .exact absurd aq bN
 .have R:(10:Int)^(cS 4).toNat=100:=bN
  rw[if_neg bN]at this;rw[R];exact⟨bN,J,J⟩
 .have R:(10:Int)^(cS 5).toNat=1000:=bN
  rw[if_neg bN]at this;rw[R];exact⟨bN,J,J⟩
 .exact absurd aq bN
 have R:(10:Int)^(cS 7).toNat=1000:=bN;rw[if_neg bN]at this;rw[R];exact⟨bN,J,J⟩
def ZA(ap:kinds k):cS k=0\/cS k=2\/cS k=3:=by
 unfold cS;split
 .simp
 omega
def ad2(ap:kinds k):(T (af k 1) (some (true,())) (some (af k 2,())):Option (Bool×Unit))=some (decide (k<=2),()):=by rcases ap with rfl|rfl|rfl|rfl|rfl|rfl|rfl<;>rfl
def anT(no:Int)(v:aa)(hl:v.length<=1000000):F9 (no,v,())=some (qp no v):=by
 unfold F9 qp;refine aL (F8 no) ?_;cases aO:e7 no with
 |none=>rfl
 |some p=>
  obtain⟨k,l⟩:=p;obtain⟨ap,O,rG,uo⟩:=rF aO;refine aL (Lb no v hl) ?_;have p0:fT no v=decide (gZ k l v):=by unfold fT;rw[aO]
  rw[p0];by_cases aD:gZ k l v
  rotate_left
  .rw[decide_eq_false aD]
   simp only[if_neg aD];rfl
  rw[decide_eq_true aD];simp only[if_pos aD];refine aL (aat ap) ?_;have Y:=ad2 ap;have x5:k<=2->ub (v,())=some (body k v,0,()):=λh=>by rw[Rn v hl,if_pos (aD.1.1 h)];unfold body;rw[if_pos h]
  have G9:=xv k v;by_cases aq:0<cS k
  .obtain⟨c1,c2,hd⟩:=Q9 ap uo rG aD aq
   refine a? (di aq) ?_;have aI:uc (len v,cS k,())=some (a5 10 gi v.length (cS k).toNat,0,()):=by rw[KR _ _ (by simp only[len];omega),if_pos ⟨c1.1,c1.2,c2⟩];rfl
   refine aL aI ?_;have sX:ub (a5 10 gi v.length (cS k).toNat,())=some (f? k v.length,0,()):=by rw[Rn _ (by rw[l1];omega),if_pos zJ];unfold f?;rw[if_pos aq]
   refine aL sX ?_;refine aL Y ?_;have z3:(f? k v.length).length<=10:=by unfold f?;rw[if_pos aq,ry,l1];omega
   by_cases R:k<=2
   .refine a? (decide_eq_true R) ?_
    refine aL (x5 R) ?_;rw[if_pos R]at G9;exact a6 (mW (by simp only[bF,aV];omega)) rfl
   refine a0 (decide_eq_false R) ?_;refine a6 (mW (by simp only[bF,aV];omega)) ?_;have:body k v=v:=by unfold body;rw[if_neg R]
   simp only[kA,this];rfl
  refine a0 (cP aq) ?_;refine aL Y ?_;have hh:f? k v.length=[]:=by unfold f?;rw[if_neg aq]
  by_cases R:k<=2
  .refine a? (decide_eq_true R) ?_
   refine aL (x5 R) ?_;rw[if_pos R]at G9;refine a6 (mW (by simp only[aV];omega)) ?_;simp only[kA,hh,pE]
  refine a0 (decide_eq_false R) ?_;refine a6 (mW (by simp only[aV];omega)) ?_;have:body k v=v:=by unfold body;rw[if_neg R]
  simp only[kA,this,hh,pE]
def av1(no:Int)(v:aa)(hl:v.length<=1000000):Ik (no,v,())=some (qp no v):=by
 unfold Ik qp;refine aL (afs no) ?_;cases aO:e7 no with
 |none=>rfl
 |some p=>
  obtain⟨k,l⟩:=p;obtain⟨ap,O,rG,uo⟩:=rF aO;obtain⟨b,Y,az⟩:=Vi k l v hl;refine aL Y ?_;rw[az (by unfold kinds at ap;omega)];by_cases aD:gZ k l v
  rotate_left
  .rw[decide_eq_false aD]
   simp only[if_neg aD];rfl
  rw[decide_eq_true aD];simp only[if_pos aD];refine aL (aft ap) ?_;have x5:k<=2->u5 (v,())=some (body k v,0,()):=λh=>by rw[Vg v hl,if_pos (aD.1.1 h)];unfold body;rw[if_pos h]
  have G9:=xv k v;by_cases aq:0<cS k
  .obtain⟨c1,c2,hd⟩:=Q9 ap uo rG aD aq
   refine a? (di aq) ?_;refine aL (aft ap) ?_;have aI:yC (len v,cS k,())=some (a5 10 gi v.length (cS k).toNat,0,()):=by rw[Vh _ _ (by simp only[len];omega),if_pos ⟨c1.1,c1.2,c2⟩];rfl
   refine aL aI ?_;have sX:u5 (a5 10 gi v.length (cS k).toNat,())=some (f? k v.length,0,()):=by rw[Vg _ (by rw[l1];omega),if_pos zJ];unfold f?;rw[if_pos aq]
   refine aL sX ?_;have z3:(f? k v.length).length<=10:=by unfold f?;rw[if_pos aq,ry,l1];omega
   by_cases R:k<=2
   .refine a? (decide_eq_true R) ?_
    refine aL (x5 R) ?_;rw[if_pos R]at G9;refine a6 (mW (by simp only[bF,aV,aP,gu];omega)) ?_;exact a6 (mW (by simp only[bF,aV,aP,cm,db,gu];omega)) rfl
   refine a0 (decide_eq_false R) ?_;refine a6 (mW (by simp only[bF,aV,aP,gu];omega)) ?_;refine a6 (mW (by simp only[bF,aV,aP,cm,db,gu];omega)) ?_;have:body k v=v:=by unfold body;rw[if_neg R]
   simp only[kA,this];rfl
  refine a0 (cP aq) ?_;have hh:f? k v.length=[]:=by unfold f?;rw[if_neg aq]
  by_cases R:k<=2
  .refine a? (decide_eq_true R) ?_
   refine aL (x5 R) ?_;rw[if_pos R]at G9;refine a6 rfl ?_;refine a6 (mW (by simp only[bF,aV,aP,cm,db,gu];omega)) ?_;simp only[kA,hh];rfl
  refine a0 (decide_eq_false R) ?_;refine a6 rfl ?_;refine a6 (mW (by simp only[bF,aV,aP,cm,db,gu];omega)) ?_;have:body k v=v:=by unfold body;rw[if_neg R]
  simp only[kA,this,hh];rfl
theorem wN(a b:aa):q? (a,b,())=some (seq a b,()):=rfl
def auL{u:aa}{k N:Nat}(hl:u.length=2*k)(fV:(N+1)/2=k)(h:N%2=1->an u 0 (u8 0)=48):eK (u.drop (N%2))=u:=by
 by_cases aO:N%2=1
 .rw[aO]
  unfold eK;rw[if_pos (by grind)];cases u with
  |nil=>simp at hl;omega
  |cons x r=>have:=h aO;simp only[an,List.getD_cons_zero]at this;rw[this];rfl
 have:N%2=0:=J;rw[this,rm];exact auM J
def aav{s:aa}(h:g4 s):g4 (eK s):=by
 unfold eK;split
 .intro i ac
  cases i with
  |zero=>exact(by decide:h8 48)
  |succ i=>exact h i (by grind)
 exact h
def UU(s:aa):(eK s).drop (s.length%2)=s:=by
 unfold eK;by_cases h:s.length%2=1
 .grind
 have:s.length%2=0:=J
 grind
def LH{s:aa}(hf:g4 s):gm (gC (eK s))=eK s:=aqq (aav hf) (by rw[H6];omega)
def ajL{s t:aa}(ae:g4 s)(ht:g4 t)(hl:s.length=t.length)(h:gC (eK s)=gC (eK t)):s=t:=by have:=congrArg gm h;rw[LH ae,LH ht]at this;rw[<- UU s,<- UU t,this,hl]
def Bp{b:aa}{N:Nat}(dZ:I<=b.length)(fV:N<=999):(b.length<I+(N+1)/2/\jp b I N=([],0,3,())) \/
  (I+(N+1)/2<=b.length/\jp b I N=([],0,2,())/\∀s,s.length=N->g4 s->dA b I ((N+1)/2)=gC (eK s)->False) \/
  (∃s,I+(N+1)/2<=b.length/\jp b I N=(s,((I+(N+1)/2:Nat):Int),0,())/\g4 s/\s.length=N/\dA b I ((N+1)/2)=gC (eK s)):=by
 unfold jp;simp only[iq];rw[if_neg J];by_cases O:(b.length:Int)-I<((N:Int)+1)/2
 .grind
 rw[if_neg O];have bV:I+(N+1)/2<=b.length:=J;have acy:=wZ bV;have ya:(gm (dA b I ((N+1)/2))).length=2*((N+1)/2):=by rw[rJ,acy]
 refine .inr ?_;by_cases R:(N:Int)%2=1/\¬an (gm (dA b I ((N+1)/2))) 0 (u8 0)=48
 .rw[if_pos R]
  refine .inl ⟨bV,rfl,λs ae hf h=>R.2 ?_⟩;rw[h,LH hf];unfold eK;rw[if_pos J];rfl
 rw[if_neg R];have hp:eK ((gm (dA b I ((N+1)/2))).drop (N%2))=gm (dA b I ((N+1)/2)):=auL ya rfl λaO=>kZ λah=>R ⟨J,ah⟩;by_cases ai:g4 ((gm (dA b I ((N+1)/2))).drop (N%2))
 .rw[if_pos ai]
  refine .inr ⟨_,bV,?_,ai,by rw[ep,ya];omega,?_⟩
  .simp
  have Y:=ajJ (u:=dA b I ((N+1)/2)) (by rw[<- hp];exact aav ai);rw[hp,Y]
 rw[if_neg ai];refine .inl ⟨bV,rfl,λs ae hf h=>ai ?_⟩;rw[h,LH hf,<- ae,UU];exact hf
def ahK{b x q:aa}(h:b.drop I=x++q):dA b I x.length=x:=by unfold dA;rw[h,List.take_left'];rfl
def KT{b x:aa}(h:dA b I n=x):b.drop I=x++b.drop (I+n):=by rw[<- h];unfold dA;rw[<- su,vx]
def Z3{b x:aa}(dZ:I<=b.length)(h:b.drop I=x):b.length=I+x.length:=by have:=congrArg List.length h;rw[ep]at this;omega
def Wm{b s q:aa}(dZ:I<=b.length)(fV:s.length<=999)(hf:g4 s)(h:b.drop I=gC (eK s)++q):jp b I s.length=(s,((I+(s.length+1)/2:Nat):Int),0,()):=by
 have hl:=Z3 dZ h;have ht:=ahK h;rw[db,ry]at hl;rw[ry]at ht;rcases Bp dZ fV with⟨O,_⟩|⟨_,_,R⟩|⟨t,_,ai,au,a4,cQ⟩
 .omega
 .exact(R s rfl hf ht).elim
 rw[ai,ajL au hf a4 (by rw[<- cQ,ht])]
def yz(k l:Int)(b:aa)(a n:Int):aa×Int×Int×Unit:=
 if k<=2 then(if(jp b a n).2.2.1=0 then((jp b a n).1,(jp b a n).2.1,0,()) else([],0,(jp b a n).2.2.1,()))
 else if(b.length:Int)-a<n then([],0,3,()) else if gZ k l (dA b a.toNat n.toNat) then(dA b a.toNat n.toNat,a+n,0,()) else([],0,2,())
def yA(k l:Int)(b:aa)(a:Int):aa×Int×Int×Unit:=
 if a<0\/(b.length:Int)<a then([],0,1,()) else if 0<cS k then
  (if(jp b a (cS k)).2.2.1=0 then(if(val (jp b a (cS k)).1:Int)<1\/l<val (jp b a (cS k)).1 then([],0,2,()) else yz k l b (jp b a (cS k)).2.1 (val (jp b a (cS k)).1))
  else([],0,(jp b a (cS k)).2.2.1,()))
 else yz k l b a l
def jT(no:Int)(b:aa)(a:Int):aa×Int×Int×Unit:=match e7 no with|none=>([],0,12,())|some (k,l)=>yA k l b a
def aas{b:aa}{N:Nat}(aO:e7 no=some (k,l))(hl:b.length<=1000000)(bc:A<=b.length)(am:1<=N/\N<=400):
  (ob (T (af k 1) (some (true,())) (some (af k 2,()))) λ(a':Bool×Unit)=>T a'.1 (ob (xI (b,(A:Int),(N:Int),())) λ(t:aa×Int×Int×Unit)=>T (aZ (af t.2.2.1 0)) (some (aP UInt8,0,t.2.2.1,())) (ak (cj 1 (aV t.1)) (some (t.1,t.2.1,0,()))))
   (T (aF (i64 (bg (len b) (A:Int))) (N:Int)) (some (aP UInt8,0,3,())) (ak (b5 (A:Int) (i64 (aC (A:Int) (N:Int))) (len b)) (ak (cj 1 (bF (aV (aP UInt8)) (aV (sub b (A:Int) (i64 (aC (A:Int) (N:Int)))))))
    (ob (vS (no,cm (aP UInt8) (sub b (A:Int) (i64 (aC (A:Int) (N:Int)))),())) λ(a:Bool×Unit)=>T (aZ a.1) (some (aP UInt8,0,2,())) (some (cm (aP UInt8) (sub b (A:Int) (i64 (aC (A:Int) (N:Int)))),i64 (aC (A:Int) (N:Int)),0,()))))))
   : Option (aa×Int×Int×Unit))=some (yz k l b A N):=by
 obtain⟨ap,O,rG,uo⟩:=rF aO;refine aL (ad2 ap) ?_;unfold yz;by_cases R:k<=2
 .refine a? (decide_eq_true R) ?_
  rw[if_pos R];refine aL (Rp b A N hl) ?_;rcases Bp bc (show N<=999 by omega) with⟨_,h⟩|⟨_,h,_⟩|⟨s,_,h,_,ae,_⟩
  .rw[h];rfl
  .rw[h];rfl
  rw[h];refine a6 (mW (by simp only[aV];omega)) ?_;rfl
 refine a0 (decide_eq_false R) ?_;rw[if_neg R];have c0:i64 (bg (len b) (A:Int))=(b.length:Int)-A:=by simp only[bg,len];exact hw J J
 have hd:i64 (aC (A:Int) (N:Int))=((A+N:Nat):Int):=k9 J;simp only[c0,hd,V3,iq];by_cases ai:(b.length:Int)-A<N
 .rw[if_pos ai];exact b4 (di ai)
 rw[if_neg ai];refine a0 (cP ai) ?_;have bV:A+N<=b.length:=J;refine a6 (wh J J (by simp only[len];omega)) ?_;have s3:=wZ bV;refine a6 (mW (by simp only[bF,aV,aP,gu];omega)) ?_;have Sy:cm (aP UInt8) (dA b A N)=dA b A N:=rfl;simp only[Sy];refine aL (Lb no _ J) ?_;have p0:fT no (dA b A N)=decide (gZ k l (dA b A N)):=by unfold fT;rw[aO]
 rw[p0];by_cases aD:gZ k l (dA b A N)
 .rw[if_pos aD,decide_eq_true aD];exact bU rfl
 rw[if_neg aD,decide_eq_false aD];exact b4 rfl
def ad1{s:aa}(R:k<=2)(hf:g4 s)(am:j3 k l s.length):gZ k l s:=⟨⟨λ_=>hf,λ_=>CL hf⟩,am⟩
def aAp{s:aa}(hf:g4 s)(h:s.length<=3):val s<1000:=by have:=ayK hf;have R:10^s.length<=10^3:=vr J h;omega
def an7(aq:0<cS k)(O:1<=n)(R:(n:Int)<=l):j3 k l n:=by
 unfold j3;rw[if_neg]
 .omega
 rintro(rfl|rfl|rfl)<;>exact absurd aq bN
def aaN(ap:kinds k)(aq:¬0<cS k):j3 k l n↔(n:Int)=l:=by unfold j3;rcases ap with rfl|rfl|rfl|rfl|rfl|rfl|rfl<;>first|exact absurd bN aq|simp
def anS(no:Int)(b:aa)(a:Int)(hl:b.length<=1000000):Lc (no,b,a,())=some (jT no b a):=by
 unfold Lc jT;refine aL (F8 no) ?_;cases aO:e7 no with
 |none=>rfl
 |some p=>
  obtain⟨k,l⟩:=p;obtain⟨ap,O,rG,uo⟩:=rF aO;show _=some (yA k l b a);unfold yA;by_cases R:a<0
  .refine aL (b4 (di R)) ?_
   simp only[if_pos (Or.inl R:a<0\/(b.length:Int)<a)];rfl
  by_cases ai:(b.length:Int)<a
  .refine aL (a:=(true,())) (a0 (cP R) (mt (di ai))) ?_
   simp only[if_pos (Or.inr ai:a<0\/(b.length:Int)<a)];rfl
  refine aL (a:=(false,())) (a0 (cP R) (mt (cP ai))) ?_;rw[if_neg J];obtain⟨A,rfl⟩:∃n:Nat,a=n:=⟨a.toNat,J⟩;refine aL (aat ap) ?_;by_cases aq:0<cS k
  .rw[if_pos aq]
   refine a? (di aq) ?_;refine aL (Rp b A (cS k) hl) ?_;have ap4:=ZA ap;obtain⟨C,cA⟩:∃n:Nat,cS k=n:=⟨(cS k).toNat,J⟩;rw[cA];rcases Bp (b:=b) (I:=A) (N:=C) J J with⟨_,h⟩|⟨_,h,_⟩|⟨s,au,h,hf,ae,_⟩
   .rw[h];rfl
   .rw[h];rfl
   rw[h];refine aL (Rq s) ?_;rw[if_pos ⟨J,J,hf⟩];by_cases v8:(val s:Int)<1
   .refine aL (b4 (di v8)) ?_
    simp only[if_pos (Or.inl v8:(val s:Int)<1\/l<val s)];rfl
   by_cases x9:l<(val s:Int)
   .refine aL (a:=(true,())) (a0 (cP v8) (mt (di x9))) ?_
    simp only[if_pos (Or.inr x9:(val s:Int)<1\/l<val s)];rfl
   refine aL (a:=(false,())) (a0 (cP v8) (mt (cP x9))) ?_;rw[if_neg (show ¬((val s:Int)<1\/l<val s) by omega)];exact aas aO hl au ⟨J,J⟩
  rw[if_neg aq];refine a0 (cP aq) ?_;obtain⟨L,rfl⟩:∃n:Nat,l=n:=⟨l.toNat,J⟩;exact aas (b:=b) (A:=A) (N:=L) aO hl J ⟨J,J⟩
end Yp
namespace Yp
open Go
def sw:=@List.cons.inj
def D(p:Prop):Bool := @decide p (Classical.propDecidable p)
def oZ{p:Prop}:D p=true↔p:=by unfold D;exact @decide_eq_true_iff p (Classical.propDecidable p)
def cC{p:Prop}(h:p):D p=true:=oZ.2 h
def cG{p:Prop}(h:¬p):D p=false:=by
 cases e:D p
 .rfl
 exact absurd (oZ.1 e) h
def oY{b:Bool}{p:Prop}(h:b=true↔p):b=D p:=m7.2 (h.trans oZ.symm)
@[congr] theorem cE {α β:Type} {o dz:Option α} {k:α->Option β} (h:o=dz):ob o k=ob dz k:=by rw[h]
@[congr] theorem aAi {α:Type} {c cN:Bool} {a b:α} (h:c=cN):T c a b=T cN a b:=by rw[h]
@[congr] theorem azp {α:Type} {c cN:Bool} {a:Option α} (h:c=cN):ak c a=ak cN a:=by rw[h]
@[congr] theorem az4 {σ ρ β:Type} {o dz:Option (aE σ ρ)} {kn:σ->Option β} {hy:Nat->σ->Option β} {hQ:ρ->Option β} (h:o=dz):b_ o kn hy hQ=b_ dz kn hy hQ:=by rw[h]
theorem g01{a:α}{k:α->Option β}:ob (some a) k=k a:=rfl
def g02{p:Prop}{a b:α}(h:p):T (D p) a b=a:=b4 (cC h)
def g03{p:Prop}{a b:α}(h:¬p):T (D p) a b=b:=bU (cG h)
def g04{p:Prop}{a:Option α}(h:p):ak (D p) a=a:=eG (cC h)
theorem g05{a b:α}:T true a b=a:=rfl
theorem g06{a b:α}:T false a b=b:=rfl
theorem g07{a:Option α}:ak true a=a:=rfl
def g08:aF a b=D (a<b):=oY decide_eq_true_iff
def g09:b? a b=D (a<=b):=oY decide_eq_true_iff
def g10:af a b=D (a=b):=by unfold af;exact oY beq_iff_eq
def g11{a b:aa}:seq a b=D (a=b):=by unfold seq;exact oY beq_iff_eq
def g12{p:Prop}:aZ (D p)=D (¬p):=by
 by_cases h:p
 .rw[cC h,cG (not_not_intro h)];rfl
 rw[cG h,cC h];rfl
def g13{p q:Prop}:cV (D p) (D q)=D (p/\q):=oY (by simp[cV,oZ])
def g14{p q:Prop}:mB (D p) (D q)=D (p\/q):=oY (by simp[mB,oZ])
def g15{q:Bool}:T c (some (true,())) (some (q,()))=some (mB c q,()):=by cases c<;>rfl
def g16{q:Bool}:T c (some (q,())) (some (false,()))=some (cV c q,()):=by cases c<;>rfl
def g17{d:Bool}{x:Option (Bool×Unit)}:T c (T d x (some (false,()))) (some (false,()))=T (cV c d) x (some (false,())):=by cases c<;>rfl
def g18{d:Bool}{x:Option (Bool×Unit)}:T c (some (true,())) (T d (some (true,())) x)=T (mB c d) (some (true,())) x:=by cases c<;>rfl
def g19{c:Int}:b5 a b c=D (0<=a/\a<=b/\b<=c):=oY (by simp[b5,and_assoc])
def g20:aK a b=D (0<=a/\a<b):=oY (by simp[aK])
def g21{c:Nat}:cj c n=D (n*c<=140737488355328):=oY decide_eq_true_iff
theorem g22{l:List α}:len l=(l.length:Int):=rfl
theorem g23{l:List α}:aV l=l.length:=rfl
theorem g24{a b:Nat}:bF a b=a+b:=rfl
theorem g25{a b:List α}:cm a b=a++b:=rfl
theorem g26:aP α=[]:=rfl
def g27{n:Int}(h : -9223372036854775808<=n/\n<=9223372036854775807):i64 n=n:=hw h.1 h.2
theorem g28:aC a b=a+b:=rfl
theorem g29:bg a b=a-b:=rfl
theorem g30:fr a b=a*b:=rfl
def g31(h:0<=a):ga a b=a/b:=by simp only[ga];exact Int.tdiv_eq_ediv_of_nonneg h
def g32(h:0<=a):ej a b=a%b:=by simp only[ej];exact Int.tmod_eq_emod_of_nonneg h
theorem g33:ab a=a.toNat:=rfl
theorem g34{a:Nat}:bb a=(a:Int):=rfl
theorem g35{a b:Nat}:ce a b=a-b:=rfl
theorem g36:cV true c=c:=rfl
def g37:cV c true=c:=by cases c<;>rfl
theorem g38:mB false c=c:=rfl
def g39:mB c false=c:=by cases c<;>rfl
def g40:aZ (aZ c)=c:=by cases c<;>rfl
theorem g41:aZ true=false:=rfl
theorem g42:aZ false=true:=rfl
def g43{a b:Bool}:qD a b=D (a=b):=oY (by unfold qD;exact beq_iff_eq)
theorem g44:cV false c=false:=rfl
def g45:cV c false=false:=by cases c<;>rfl
theorem g46:mB true c=true:=rfl
def g47:mB c true=true:=by cases c<;>rfl
theorem g48{k:α->Option β}:ob none k=none:=rfl
def g49{p q:Prop}:(D p=D q)=(p↔q):=by refine propext ⟨λh=>oZ.symm.trans ((m7.1 h).trans oZ),λh=>m7.2 (oZ.trans (h.trans oZ.symm))⟩
def g50{a:α}:T c a a=a:=by cases c<;>rfl
def g51{p:Prop}[Decidable p]:decide p=D p:=oY decide_eq_true_iff
def g52:D True=true:=cC trivial
def g53:D False=false:=cG not_false
def g54{p:Prop}:(D p=true)=p:=propext oZ
def g55{p:Prop}:(D p=false)=¬p:=by refine propext ⟨λh hp => ?_,cG⟩;rw[cC hp]at h;cases h
def g56{p:Prop}:(true=D p)=p:=propext ⟨λh=>oZ.1 h.symm,λh=>(oZ.2 h).symm⟩
def g57:g8 a b=min a b:=by unfold g8;split<;>omega
def g58:cX a b=max a b:=by unfold cX;split<;>omega
theorem xU{a:UInt8}:aN a=(a.toNat:Int):=rfl
theorem g60{a:UInt16}:wz a=(a.toNat:Int):=rfl
def g61(h:0<=a/\a<256):aN (u8 a)=a:=by obtain⟨n,rfl⟩:∃n:Nat,a=n:=⟨a.toNat,J⟩;exact atI J
theorem lc_nx{y:σ}{kn:σ->Option β}{hy:Nat->σ->Option β}{hQ:ρ->Option β}:b_ (some (.nx y)) kn hy hQ=kn y:=rfl
def Ew{p:Prop}(h:p):some (D p,())=some (true,()):=by rw[cC h]
def VV{p:Prop}(h:¬p):some (D p,())=some (false,()):=by rw[cG h]
def pt{p q:Prop}(h:p↔q):some (D p,())=some (D q,()):=by rw[show p=q from propext h]
theorem lc_rt'{r:ρ}{kn:σ->Option β}{hy:Nat->σ->Option β}{hQ:ρ->Option β}:b_ (some (.rt r)) kn hy hQ=hQ r:=rfl
theorem lc_ex'{y:σ}{k:Nat}{kn:σ->Option β}{hy:Nat->σ->Option β}{hQ:ρ->Option β}:b_ (some (.ex k y)) kn hy hQ=hy k y:=rfl
def g62{k:Nat}:bP k k=true:=by simp[bP]
def g63:ab (n:Int)=n:=g1
theorem g64:((1:Nat):Int)=1:=rfl
theorem g65:((0:Nat):Int)=0:=rfl
def g66{p:Prop}:(false=D p)=¬p:=propext ⟨λh=>g55.mp h.symm,λh=>(cG h).symm⟩
def kp{β σ ρ:Type}(mk:β->Nat->σ)(i:Nat):aE β ρ->aE σ ρ
 |.nx b=>.nx (mk b (i+1))|.ex k b=>.ex k (mk b i)|.rt r=>.rt r
def jO{α β σ ρ:Type}(mk:β->Nat->σ)(e:Nat)(step:β->α->aE β ρ):β->Nat->List α->aE σ ρ
 |b,i,[]=>.ex e (mk b i)
 |b,i,x::r=>match step b x with
  |.nx b'=>jO mk e step b' (i+1) r
  |.ex k b'=>.ex k (mk b' i)
  |.rt q=>.rt q
def rW{f:σ->Option (aE σ ρ)}(l:List α)(mk:β->Nat->σ)(e:Nat)(step:β->α->aE β ρ)(I:β->Nat->Prop)
  (ae:∀b i (h:i<l.length),I b i->f (mk b i)=some (kp mk i (step b l[i]))/\∀b',step b l[i]=.nx b'->I b' (i+1))
  (az:∀b,I b l.length->f (mk b l.length)=some (.ex e (mk b l.length))) (eB:β) (aq:I eB 0):bC f (mk eB 0)=some (jO mk e step eB 0 l):=by
 have key:∀(r:List α) (i:Nat) (b:β),l.drop i=r->i<=l.length->I b i->bC f (mk b i)=some (jO mk e step b i r):=by
  intro r;induction r with
  |nil =>intro i b aj ac dZ;have hl:=congrArg List.length aj;rw[ep,gu]at hl;have:i=l.length:=J;subst this;exact dT (az b dZ)
  |cons x r ih=>
   intro i b aj ac dZ;have hl:=congrArg List.length aj;rw[ep,fQ]at hl;have bi:i<l.length:=J;have hx:l[i]=x/\l.drop (i+1)=r:=by rw[l_ bi]at aj;exact⟨(sw aj).1,(sw aj).2⟩
   obtain⟨O,R⟩:=ae b i bi dZ;rw[hx.1]at O R;unfold jO;cases e4:step b x with
   |nx b'=>rw[e4]at O;rw[eE O];exact ih (i+1) b' hx.2 bi (R b' e4)
   |ex k b'=>rw[e4]at O;exact dT O
   |rt q=>rw[e4]at O;exact n8 O
 exact key l 0 eB rfl (eS _) aq
attribute [go_sem ↓] g02 g03 g04 g05 g06
attribute [go_sem] g01 g02 g03 g04 g05 g06 g07 g08 g09 g10 g11 g12 g13 g14 g15 g16 g17 g18 g19 g20 g21 g22 g23 g24 g25 g26 g27 g28 g29 g30 g31 g32 g34 g35 g36 g37 g38 g39 g40 g41 g42 g43 g44 g45 g46 g47 g48 g49 g50 g51 g52 g53 g54 g55 g56 g57 g58 g60 g61 not_true_eq_false not_false_eq_true List.nil_append List.append_nil List.length_nil and_true true_and or_true true_or or_false false_or and_false false_and if_true if_false lc_rt' lc_ex' lc_nx g62 g63 Int.toNat_natCast Int.natCast_add nth_get g33 g64 g65 Int.toNat_zero Bool.false_eq_true g66
end Yp
namespace Yp
open Go
def CC{b x q:aa}(dJ:A<=b.length)(h:b.drop A=x++q):A+x.length<=b.length/\b.drop (A+x.length)=q:=by have:=Z3 dJ h;rw[db]at this;refine⟨J,?_⟩;rw[<- su,h,JZ]
def afj{b v q:aa}(dJ:A<=b.length)(aD:gZ k l v)(rG:v.length<=400)(h:b.drop A=body k v++q):yz k l b A v.length=(v,((A+(body k v).length:Nat):Int),0,()):=by
 have hl:=(CC dJ h).1;unfold yz;by_cases R:k<=2
 .have Y:body k v=gC (eK v):=by unfold body;rw[if_pos R]
  rw[Y]at h ⊢;rw[if_pos R,Wm dJ J (aD.1.1 R) h,ry];rfl
 have Y:body k v=v:=by unfold body;rw[if_neg R]
 have ht:=ahK h
 grind
def afk{b v:aa}{N:Nat}{I:Int}(dJ:A<=b.length)(fV:N<=400)(h:yz k l b A N=(v,I,0,())):
  v.length=N/\(k<=2->g4 v)/\(¬k<=2->gZ k l v)/\I=((A+(body k v).length:Nat):Int)/\A+(body k v).length<=b.length/\dA b A (body k v).length=body k v:=by
 unfold yz at h;by_cases R:k<=2
 .rw[if_pos R]at h
  rcases Bp dJ (show N<=999 by omega) with⟨_,e⟩|⟨_,e,_⟩|⟨s,ai,e,hf,ae,ht⟩
  .grind
  .grind
  rw[e]at h;have Y:body k s=gC (eK s):=by unfold body;rw[if_pos R]
  have dM:(gC (eK s)).length=(N+1)/2:=by rw[ry,ae]
  grind
 rw[if_neg R]at h;by_cases ai:(b.length:Int)-A<N
 .grind
 simp at h;by_cases au:gZ k l (dA b A N)
 .rw[if_pos au]at h
  have hl:=wZ (show A+N<=b.length by omega);have Y:body k (dA b A N)=dA b A N:=by unfold body;rw[if_neg R]
  grind
 grind
def abX(aq:0<cS k):f? k n=gC (eK (a5 10 gi n (cS k).toNat)):=by unfold f?;rw[if_pos aq]
def abW(aq:¬0<cS k):f? k n=[]:=by unfold f?;rw[if_neg aq]
def aqd:(f? k n).length=if 0<cS k then((cS k).toNat+1)/2 else 0:=by
 unfold f?;split
 .rw[ry,l1]
 rfl
def WW{v:aa}(ap:kinds k):(kA k v).length=(if k=2\/k=4 then 1 else if k=5\/k=7 then 2 else 0)+(if k<=2 then(v.length+1)/2 else v.length):=by unfold kA;rw[db,xv,aqd];rcases ap with rfl|rfl|rfl|rfl|rfl|rfl|rfl<;>rfl
def R0{v:aa}(aO:e7 no=some (k,l))(aD:gZ k l v):1<=v.length/\(v.length:Int)<=l/\v.length<=400:=by
 obtain⟨ap,O,rG,_⟩:=rF aO;have:=aD.2;unfold j3 at this
 grind
def avG{b v q:aa}(aO:e7 no=some (k,l))(dJ:A<=b.length)(aD:gZ k l v)(h:b.drop A=kA k v++q):yA k l b A=(v,((A+(kA k v).length:Nat):Int),0,()):=by
 obtain⟨ap,O,rG,uo⟩:=rF aO;obtain⟨x?,Df,acA⟩:=R0 aO aD;unfold yA;unfold kA at h ⊢;by_cases aq:0<cS k
 .rw[if_pos aq]
  obtain⟨c1,c2,hd⟩:=Q9 ap uo rG aD aq;rw[abX aq]at h ⊢;rw[h0]at h;have hp:=Wm (s:=a5 10 gi v.length (cS k).toNat) dJ (by rw[l1];omega) zJ h;rw[l1,Int.toNat_of_nonneg J]at hp;rw[hp];have lW:val (a5 10 gi v.length (cS k).toNat)=v.length:=by
   rw[WI,tN]
   grind
  simp only[if_pos];rw[lW,if_neg J];have aI:=CC dJ h;rw[ry,l1]at aI;rw[afj aI.1 aD acA aI.2,db,ry,l1]
  grind
 rw[if_neg aq];have hl:=(aaN ap aq).1 aD.2;rw[abW aq]at h ⊢;have:=afj dJ aD acA h
 grind
def avH{b v:aa}{I:Int}(aO:e7 no=some (k,l))(dJ:A<=b.length)(h:yA k l b A=(v,I,0,())):
  gZ k l v/\I=((A+(kA k v).length:Nat):Int)/\A+(kA k v).length<=b.length/\b.drop A=kA k v++b.drop (A+(kA k v).length):=by
 obtain⟨ap,O,rG,uo⟩:=rF aO;unfold yA at h;rw[if_neg J]at h;by_cases aq:0<cS k
 .rw[if_pos aq]at h
  have ap4:=ZA ap;obtain⟨C,cA⟩:∃n:Nat,cS k=n:=⟨(cS k).toNat,J⟩;rw[cA]at h;rcases Bp dJ (show C<=999 by omega) with⟨_,e⟩|⟨_,e,_⟩|⟨s,ai,e,hf,ae,ht⟩
  .grind
  .grind
  rw[e]at h;simp at h;by_cases hm:(val s:Int)<1\/l<val s
  .grind
  rw[if_neg hm]at h;obtain⟨e1,aT,dI,gX,nT,KX⟩:=afk ai J h;have pe:gZ k l v:=by
   by_cases R:k<=2
   .exact ad1 R (aT R) (an7 aq J J)
   grind
  have hh:f? k v.length=gC (eK s):=by rw[abX aq,e1,cA,iq,<- ae,ae3 hf]
  have z3:(f? k v.length).length=(C+1)/2:=by rw[hh,ry,ae]
  refine⟨pe,?_,?_,?_⟩
  .rw[gX];unfold kA;rw[db,z3];omega
  .unfold kA;rw[db,z3];omega
  unfold kA;rw[db,z3,<- jJ,h0,<- KT KX,hh];exact KT ht
 rw[if_neg aq]at h;obtain⟨L,hL⟩:∃n:Nat,l=n:=⟨l.toNat,J⟩;rw[hL]at h;obtain⟨e1,aT,dI,gX,nT,KX⟩:=afk dJ J h;rw[<- hL]at dI;have pe:gZ k l v:=by
  by_cases R:k<=2
  .exact ad1 R (aT R) ((aaN ap aq).2 J)
  exact dI R
 refine⟨pe,?_,?_,?_⟩<;>unfold kA<;>rw[abW aq]
 .exact gX
 .exact nT
 exact KT KX
def ay1{v:aa}(ap:kinds k)(h:v.length<=400):(kA k v).length<=402:=by
 rw[WW ap];repeat' split
 all_goals omega
def ay2{v:aa}(ap:kinds k)(h:1<=v.length):1<=(kA k v).length:=by
 rw[WW ap];repeat' split
 all_goals omega
def Fb:=@List.zip_cons_cons
def PC:=@Bool.false_and
abbrev bT:=Int×aa×Unit
abbrev M:=Int×List bT×Unit
def hD(m:Int):Prop:=100<=m/\m<=899/\m/10%10<=4/\m%10<=5
instance (m:Int):Decidable (hD m):=inferInstanceAs (Decidable (_/\_))
def Hj(m:Int)(n:Nat)(am:n<=3)(aq:0<=m)(h:m<=9223372036854775807):uE (m,(n:Int),())=some (m/10^n%10,()):=by
 unfold uE;generalize hf:(λ(V:Int×Int×Unit)=>_)=f;have step:∀(k:Int) (i:Nat),i<n->0<=k->k<=9223372036854775807->f (k,(i:Int),())=some (.nx (k/10,((i+1:Nat):Int),())):=λk i ac aq O=>by subst hf;simp(disch:=omega) only[go_sem]
 have last:∀(k:Int),f (k,(n:Int),())=some (.ex 0 (k,(n:Int),())):=λk=>by subst hf;simp(disch:=omega) only[go_sem]
 have am:n=0\/n=1\/n=2\/n=3:=J;have e:bC f (m,((0:Nat):Int),())=some (.ex 0 (m/10^n,(n:Int),())):=by
  rcases am with rfl|rfl|rfl|rfl
  .rw[dT (last m)];simp
  .rw[eE (step m 0 J aq h),dT (last _)];simp
  .rw[eE (step m 0 J aq h),eE (step _ 1 J J J),dT (last _)];simp;omega
  rw[eE (step m 0 J aq h),eE (step _ 1 J J J),eE (step _ 2 J J J),dT (last _)];simp;omega
 refine(cO e).trans ?_;have:0<=m/10^n:=by rcases am with rfl|rfl|rfl|rfl<;>simp<;>omega
 simp(disch:=omega) only[go_sem]
def An(m:Int):Am (m,())=some (D (hD m),()):=by
 unfold Am;by_cases h:m<0\/999<m
 .have am:¬hD m:=by unfold hD;omega
  simp(disch:=omega) only[go_sem,am]
 have aq:=Hj m 0 J J J;have O:=Hj m 1 J J J;have R:=Hj m 2 J J J;simp at aq O R;simp(disch:=omega) only[go_sem,aq,O,R];exact pt (by unfold hD;omega)
def av6(m:Int):Nf (m,())=some (D (hD m),()):=by
 unfold Nf;by_cases h:100<=m/\m<=899
 .simp(disch:=first|assumption|omega|(dsimp only;omega)|decide) only[go_sem,Int.reduceToNat]
  exact pt (by unfold hD;omega)
 have am:¬hD m:=by unfold hD;omega
 simp(disch:=omega) only[go_sem,Int.reduceToNat,am]
def fZ:Int->List bT->Bool
 |_,[]=>true
 |last,v::r=>decide (last<v.1)&&(fT v.1 v.2.1&&fZ v.1 r)
def h_(m:M):Bool:=fZ 0 m.2.1&&decide (hD m.1)
def uh(m:M):Prop:=m.2.1.length<=1000/\∀v∈m.2.1,v.2.1.length<=1000000
def uh.an{m:M}(h:uh m)(ac:i<m.2.1.length):(m.2.1[i]).2.1.length<=1000000:=h.2 _ (lI ac)
def qg(last:Int)(v:bT):aE Int (Bool×Unit):=if last<v.1/\fT v.1 v.2.1=true then .nx v.1 else .rt (false,())
def RT{σ:Type}{mk:Int->Nat->σ}{e:Nat}:∀(l:List bT) (last:Int) (i:Nat),(fZ last l=true/\∃y,jO mk e qg last i l=.ex e y)\/(fZ last l=false/\jO mk e qg last i l=.rt (false,()))
 |[],last,i=>.inl ⟨rfl,_,rfl⟩
 |v::r,last,i=>by
  by_cases h:last<v.1/\fT v.1 v.2.1=true
  .have ae:qg last v=.nx v.1:=if_pos h
   have:=RT (mk:=mk) (e:=e) r v.1 (i+1);simp only[jO,ae,fZ,h.1,h.2];exact this
  have ae:qg last v=.rt (false,()):=if_neg h;refine .inr ⟨?_,by simp only[jO,ae]⟩;simp only[fZ,Bool.and_eq_false_iff,decide_eq_false_iff_not]
  grind
def asH(m:M)(hm:uh m):L_ (m,())=some (h_ m,()):=by
 unfold L_;generalize hf:(λ(V:Bool×Int×Int×Unit)=>_)=f;have hl:=hm.1;have key:=rW (f:=f) m.2.1 (λlast i=>(false,last,(i:Int),())) 0 qg (λ_ _=>True) (λb i h _=>⟨?_,λ_ _=>trivial⟩) (λb _ => ?_) 0 trivial
 .refine(cO key).trans ?_
  unfold h_;rcases RT (mk:=λlast i=>((false,last,(i:Int),()):Bool×Int×Int×Unit)) (e:=0) m.2.1 0 0 with⟨O,y,R⟩|⟨O,R⟩
  .rw[O,R];simp only[go_sem,An,Pa]
  rw[O,R];simp only[go_sem,PC]
 .subst hf
  have:=hm.an h;have p0:=Lb (m.2.1[i]).1 (m.2.1[i]).2.1 this;by_cases O:m.2.1[i].1<=b
  .have ae:qg b m.2.1[i]=.rt (false,()):=if_neg λah=>J
   simp(disch:=omega) only[go_sem,ae,kp]
  cases R:fT (m.2.1[i]).1 (m.2.1[i]).2.1
  .have ae:qg b m.2.1[i]=.rt (false,()):=if_neg λah=>by rw[R]at ah;exact absurd ah.2 bf
   simp(disch:=omega) only[go_sem,p0,R,ae,kp]
  have ae:qg b m.2.1[i]=.nx m.2.1[i].1:=if_pos ⟨J,R⟩;simp(disch:=omega) only[go_sem,p0,R,ae,kp]
 subst hf;simp(disch:=omega) only[go_sem]
def aoh(h:no<=0):e7 no=none:=by
 unfold e7;have:∀r∈sR,∀c∈r.drop 2,1<=c:=kK
 grind
def an5{v:aa}(h:fT no v=true):1<=no:=by
 refine kZ λah => ?_;unfold fT at h;rw[aoh J]at h
 grind
def av5(m:M)(hm:uh m):Nd (m,())=some (h_ m,()):=by
 unfold Nd;generalize hf:(λ(V:Bool×Int×Unit)=>_)=f;have hl:=hm.1;have key:=rW (f:=f) m.2.1 (λ(last:Int) i=>(false,(i:Int),())) 0 qg (λb i=>(i=0/\b=0)\/∃h:i-1<m.2.1.length,0<i/\m.2.1[i-1].1=b) (λb i h dZ=>⟨?_,λb' Y => ?_⟩) (λb _ => ?_) 0 (.inl ⟨rfl,rfl⟩)
 .refine(cO key).trans ?_
  unfold h_;rcases RT (mk:=λ(last:Int) i=>((false,(i:Int),()):Bool×Int×Unit)) (e:=0) m.2.1 0 0 with⟨O,y,R⟩|⟨O,R⟩
  .rw[O,R];simp(disch:=first|assumption|omega|(dsimp only;omega)|decide) only[go_sem,Int.reduceToNat,av6,Pa]
  rw[O,R];simp(disch:=first|assumption|omega|(dsimp only;omega)|decide) only[go_sem,Int.reduceToNat,PC]
 .subst hf
  have:=hm.an h;have p0:=av0 (m.2.1[i]).1 (m.2.1[i]).2.1 this;cases R:fT (m.2.1[i]).1 (m.2.1[i]).2.1
  .have ae:qg b m.2.1[i]=.rt (false,()):=if_neg λah=>by rw[R]at ah;exact absurd ah.2 bf
   simp(disch:=omega) only[go_sem,Int.reduceToNat,p0,R,ae,kp]
  have hp:=an5 R;rcases dZ with⟨rfl,rfl⟩|⟨bB,aq,rfl⟩
  .have ae:qg 0 m.2.1[0]=.nx m.2.1[0].1:=if_pos ⟨J,R⟩
   simp(disch:=omega) only[go_sem,Int.reduceToNat,p0,R,ae,kp]
  have a_:((i:Int)-1).toNat=i-1:=J;by_cases O:m.2.1[i].1<=m.2.1[i-1].1
  .have ae:qg m.2.1[i-1].1 m.2.1[i]=.rt (false,()):=if_neg λah=>J
   simp(disch:=omega) only[go_sem,Int.reduceToNat,p0,R,ae,kp,a_]
  have ae:qg m.2.1[i-1].1 m.2.1[i]=.nx m.2.1[i].1:=if_pos ⟨J,R⟩;simp(disch:=omega) only[go_sem,Int.reduceToNat,p0,R,ae,kp,a_]
 .right
  refine⟨by simpa using h,J,?_⟩;simp only[Fa];unfold qg at Y;split at Y
  .cases Y;rfl
  cases Y
 subst hf;simp(disch:=omega) only[go_sem,Int.reduceToNat]
def asF(m:Int):Hh (m,())=some (if hD m then m/100 else 0,()):=by
 unfold Hh;by_cases h:hD m
 .have Y:=h
  unfold hD at Y;have R:=Hj m 2 J J J;simp at R;simp only[go_sem,An,h,R]
  grind
 simp only[go_sem,An,h]
def tj(m:Int):Int×Bool×Unit:=if hD m/\(m/10%10=0\/m/10%10=2) then(m+10,true,()) else(0,false,())
def asJ(m:Int):∃y,uE (m,1,())=some (y,()):=by
 unfold uE;generalize hf:(λ(V:Int×Int×Unit)=>_)=f;have step:∀(k:Int),f (k,(0:Int),())=some (.nx (i64 (ga k 10),(1:Int),())):=λk=>by subst hf;simp(disch:=omega) only[go_sem];rfl
 have last:∀(k:Int),f (k,(1:Int),())=some (.ex 0 (k,(1:Int),())):=λk=>by subst hf;simp(disch:=omega) only[go_sem]
 refine⟨ej (i64 (ga m 10)) 10,(cO ((eE (step m)).trans (dT (last _)))).trans ?_⟩;rfl
def asG(m:Int):L9 (m,())=some (tj m):=by
 unfold L9;by_cases h:hD m
 .have Y:=h
  unfold hD at Y;have O:=Hj m 1 J J J;simp at O;unfold tj;by_cases R:m/10%10=0\/m/10%10=2
  .simp(disch:=omega) only[go_sem,An,h,O,R]
  simp(disch:=omega) only[go_sem,An,h,O,R]
 obtain⟨y,O⟩:=asJ m;unfold tj;simp only[go_sem,An,h,O]
def Ql(a b:aa):Cq (a,b,())=some (D (a=b),()):=by unfold Cq;simp only[go_sem]
def acY(a b:bT):L' (a,b,())=some (D (a=b),()):=by unfold L';simp only[go_sem,Ql];obtain⟨cK,cU,⟨⟩⟩:=a;obtain⟨e_,eC,⟨⟩⟩:=b;simp
def A?(b:Unit)(p:bT×bT):aE Unit (Bool×Unit):=if p.1=p.2 then .nx () else .rt (false,())
def aaR{σ:Type}{mk:Unit->Nat->σ}{e:Nat}:∀(l:List (bT×bT)) (i:Nat),((∀p∈l,p.1=p.2)/\∃y,jO mk e A? () i l=.ex e y)\/((¬∀p∈l,p.1=p.2)/\jO mk e A? () i l=.rt (false,()))
 |[],i=>.inl ⟨bf,_,rfl⟩
 |p::r,i=>by
  by_cases h:p.1=p.2
  .have ae:A? () p=.nx ():=if_pos h
   have:=aaR (mk:=mk) (e:=e) r (i+1);simp only[jO,ae,hc,forall_eq_or_imp,h,true_and];exact this
  have ae:A? () p=.rt (false,()):=if_neg h;refine .inr ⟨λah=>h (ah p bf),by simp only[jO,ae]⟩
def W9{α:Type}:∀{a b:List α},a.length=b.length->((∀p∈a.zip b,p.1=p.2)↔a=b)
 |[],[],_=>bf
 |x::a,y::b,h=>by have:=W9 (a:=a) (b:=b) (by grind);simp only[Fb,hc,forall_eq_or_imp,oq];rw[this]
def aiB(a b:List bT)(hl:a.length<=1000000):Od (a,b,1,())=some (D (a=b),()):=by
 unfold Od;by_cases h:a.length=b.length
 .generalize hf:(λ(V:Bool×Int×Unit)=>_)=f
  have bh:(a.zip b).length=a.length:=by simp[h]
  have key:=rW (f:=f) (a.zip b) (λ(_:Unit) i=>(false,(i:Int),())) 0 A? (λ_ _=>True) (λ_ i ac _=>⟨?_,λ_ _=>trivial⟩) (λ_ _ => ?_) () trivial
  .refine a0 ?_ ((cO key).trans ?_)
   .simp only[go_sem,h]
   rcases aaR (mk:=λ_ i=>((false,(i:Int),()):Bool×Int×Unit)) (e:=0) (a.zip b) 0 with⟨O,y,R⟩|⟨O,R⟩
   .rw[W9 h]at O;rw[R];simp only[go_sem,O]
   rw[W9 h]at O;rw[R];simp only[go_sem,O]
  .subst hf
   simp;by_cases hx:a[i]=b[i]
   .have ae:A? () (b[i],b[i])=.nx ():=if_pos rfl
    simp(disch:=omega) only[go_sem,acY,ae,kp,hx]
   have ae:A? () (a[i],b[i])=.rt (false,()):=if_neg hx;simp(disch:=omega) only[go_sem,acY,ae,kp,hx]
  subst hf;simp(disch:=omega) only[go_sem,bh]
 have am:¬a=b:=λe=>h (by rw[e]);simp(disch:=omega) only[go_sem,am]
def aiX{a b:M}:a=b↔a.1=b.1/\a.2.1=b.2.1:=by grind
def asI(a b:M)(hl:a.2.1.length<=1000000):Hi (a,b,())=some (D (a=b),()):=by unfold Hi;simp(disch:=omega) only[go_sem,aiB];exact pt aiX.symm
abbrev N:=Bool×Int×Int×Int×Int×aa×aa×Int×Unit
def p9(c:Int):Prop:=c=1\/c=2\/c=101\/c=201\/c=301
instance (c:Int):Decidable (p9 c):=by unfold p9;infer_instance
def Hq(n:N):Prop:=
 if n.1=true/\n.2.1=101 then 1<=n.2.2.2.2.1/\n.2.2.2.2.1<=2147483647/\n.2.2.2.2.2.1.length=8/\n.2.2.2.2.2.2.1.length=3/\n.2.2.2.2.2.2.2.1=0
 else n.2.2.2.2.1=0/\n.2.2.2.2.2.1=[]/\n.2.2.2.2.2.2.1=[]/\(if n.1=true/\n.2.1=201 then 0<=n.2.2.2.2.2.2.2.1/\n.2.2.2.2.2.2.2.1<=999999 else n.2.2.2.2.2.2.2.1=0)
instance (n:N):Decidable (Hq n):=by unfold Hq;infer_instance
def jo(n:N):Prop:=p9 n.2.1/\1<=n.2.2.1/\n.2.2.1<=999999/\0<=n.2.2.2.1/\n.2.2.2.1<=99/\(n.1=true->n.2.2.2.1=0)/\Hq n
instance (n:N):Decidable (jo n):=by unfold jo;infer_instance
def VU{p q:Prop}(h:p↔q):(some (D p,()):Option (Bool×Unit))=some (D q,()):=by rw[show p=q from propext h]
def ag9{q:Prop}(h:¬q):(some (false,()):Option (Bool×Unit))=some (D q,()):=by rw[cG h]
def az6{l:List α}:((l.length:Int)=0)↔l=[]:=by rw[<- lJ];omega
def u6{kW:Bool}{c bR rs g:Int}{no k:aa}{d:Int}:jo (kW,c,bR,rs,g,no,k,d,())↔(p9 c/\1<=bR/\bR<=999999/\0<=rs/\rs<=99/\(kW=true->rs=0) /\
  (if kW=true/\c=101 then 1<=g/\g<=2147483647/\no.length=8/\k.length=3/\d=0 else g=0/\(no.length:Int)=0/\(k.length:Int)=0/\(if kW=true/\c=201 then 0<=d/\d<=999999 else d=0))):=by
 unfold jo Hq;simp
def aw8{p:Prop}{x y z:α}(O:p->x=z)(R:¬p->y=z):T (D p) x y=z:=by
 by_cases h:p
 .rw[cC h];exact O h
 rw[cG h];exact R h
def Uu(n:N):HT (n,())=some (D (jo n),()):=by
 obtain⟨kW,c,bR,rs,g,no,k,d,⟨⟩⟩:=n;unfold HT Ux Uw Uv MG Uy;simp only[go_sem];rw[show mB (D (((bR<1\/999999<bR)\/rs<0)\/99<rs)) (cV kW (D (0<rs)))=D ((((bR<1\/999999<bR)\/rs<0)\/99<rs)\/(kW=true/\0<rs)) from oY (by simp[mB,cV,oZ])];refine aw8 (λh=>ag9 λaj => ?_) λh => ?_
 .simp only[u6]at aj;grind
 rw[show cV (D (c=101)) kW=D (c=101/\kW=true) from oY (by simp[cV,oZ]),show cV (D (c=201)) kW=D (c=201/\kW=true) from oY (by simp[cV,oZ])];by_cases O:c=101/\kW=true
 .simp only[go_sem,O,cC O]
  refine VU ?_;simp only[u6,p9];grind
 by_cases R:c=201/\kW=true
 .simp only[go_sem,cG O,cC R]
  refine VU ?_;simp only[u6,p9];grind
 by_cases ai:(((c=1\/c=2)\/c=101)\/c=201)\/c=301
 .simp only[go_sem,cG O,cG R,cC ai]
  refine VU ?_;simp only[u6,p9];grind
 simp only[go_sem,cG O,cG R,cG ai];refine ag9 λaj => ?_;simp only[u6,p9]at aj;grind
def zi:=@Bool.not_eq_true
def Fi:=@List.take_zero
def Pd:=@Bool.or_false
def uO(g:Nat->Bool):UInt8:=UInt8.ofNat ((g 0).toNat*128+(g 1).toNat*64+(g 2).toNat*32+(g 3).toNat*16+(g 4).toNat*8+(g 5).toNat*4+(g 6).toNat*2+(g 7).toNat)
def akg:∀eB e_ eC j0 ox qC sC b7:Bool,bt (UInt8.ofNat (eB.toNat*128+e_.toNat*64+eC.toNat*32+j0.toNat*16+ox.toNat*8+qC.toNat*4+sC.toNat*2+b7.toNat)) 0=eB /\
  bt (UInt8.ofNat (eB.toNat*128+e_.toNat*64+eC.toNat*32+j0.toNat*16+ox.toNat*8+qC.toNat*4+sC.toNat*2+b7.toNat)) 1=e_/\bt (UInt8.ofNat (eB.toNat*128+e_.toNat*64+eC.toNat*32+j0.toNat*16+ox.toNat*8+qC.toNat*4+sC.toNat*2+b7.toNat)) 2=eC /\
  bt (UInt8.ofNat (eB.toNat*128+e_.toNat*64+eC.toNat*32+j0.toNat*16+ox.toNat*8+qC.toNat*4+sC.toNat*2+b7.toNat)) 3=j0/\bt (UInt8.ofNat (eB.toNat*128+e_.toNat*64+eC.toNat*32+j0.toNat*16+ox.toNat*8+qC.toNat*4+sC.toNat*2+b7.toNat)) 4=ox /\
  bt (UInt8.ofNat (eB.toNat*128+e_.toNat*64+eC.toNat*32+j0.toNat*16+ox.toNat*8+qC.toNat*4+sC.toNat*2+b7.toNat)) 5=qC/\bt (UInt8.ofNat (eB.toNat*128+e_.toNat*64+eC.toNat*32+j0.toNat*16+ox.toNat*8+qC.toNat*4+sC.toNat*2+b7.toNat)) 6=sC /\
  bt (UInt8.ofNat (eB.toNat*128+e_.toNat*64+eC.toNat*32+j0.toNat*16+ox.toNat*8+qC.toNat*4+sC.toNat*2+b7.toNat)) 7=b7:=kK
def Km{g:Nat->Bool}{t:Nat}(ht:t<8):bt (uO g) t=g t:=by obtain⟨aq,O,R,ai,au,a4,cQ,eh⟩:=akg (g 0) (g 1) (g 2) (g 3) (g 4) (g 5) (g 6) (g 7);have:t=0\/t=1\/t=2\/t=3\/t=4\/t=5\/t=6\/t=7:=J;rcases this with rfl|rfl|rfl|rfl|rfl|rfl|rfl|rfl<;>assumption
def adw:∀c:UInt8,uO (bt c)=c:=vG kK
def Yb{c d:UInt8}(h:∀t,t<8->bt c t=bt d t):c=d:=by rw[<- adw c,<- adw d];unfold uO;rw[h 0 J,h 1 J,h 2 J,h 3 J,h 4 J,h 5 J,h 6 J,h 7 J]
def adx{g h:Nat->Bool}(e:∀t,t<8->g t=h t):uO g=uO h:=Yb λt ht=>by rw[Km ht,Km ht,e t ht]
def t6(t:Nat):UInt8:=UInt8.ofNat (2^(7-t))
def aj2:∀t:Nat,t<8->u8 (fB .u8 128 (t:Int))=t6 t:=kK
def auF:∀c:UInt8,∀t:Nat,t<8->u8 (g? .u8 (aN c) (aN (t6 t)))=uO λs=>bt c s||Nat.beq s t:=vG kK
def ai8:∀c:UInt8,∀t:Nat,t<8->bt c t=false->u8 (aC (aN c) (aN (t6 t)))=uO λs=>bt c s||Nat.beq s t:=vG kK
def XY(O:1<=n)(R:n<=128):t7 ((n:Int),())=some ((((n-1)/8:Nat):Int),t6 ((n-1)%8),()):=by unfold t7;simp(disch:=omega) only[go_sem];have e1:((n:Int)-1)/8=(((n-1)/8:Nat):Int):=J;have aT:((n:Int)-1)%8=(((n-1)%8:Nat):Int):=J;rw[e1,aT,<- aj2 _ J]
def av3(O:1<=n)(R:n<=128):D8 ((n:Int),())=some ((((n-1)/8:Nat):Int),t6 ((n-1)%8),()):=by
 unfold D8;generalize hf:(λ(V:Int×Int×Unit)=>_)=f;have step:∀i:Nat,i<(n-1)%8->f (((2^(7-i):Nat):Int),(i:Int),())=some (.nx (((2^(7-(i+1)):Nat):Int),((i+1:Nat):Int),())):=λi ac=>by subst hf;have hp:i=0\/i=1\/i=2\/i=3\/i=4\/i=5\/i=6:=J;rcases hp with rfl|rfl|rfl|rfl|rfl|rfl|rfl<;>(simp(disch:=first|assumption|omega|(dsimp only;omega)|decide) only[go_sem,Int.reduceToNat];rfl)
 have last:f (((2^(7-(n-1)%8):Nat):Int),(((n-1)%8:Nat):Int),())=some (.ex 0 (((2^(7-(n-1)%8):Nat):Int),(((n-1)%8:Nat):Int),())):=by subst hf;simp(disch:=omega) only[go_sem,Int.reduceToNat]
 have e:=kr (f:=f) (λi=>(((2^(7-i):Nat):Int),(i:Int),())) ((n-1)%8) step 0 J;have e:bC f (128,0,())=_:=e.trans (dT last);simp(disch:=omega) only[go_sem,Int.reduceToNat,e];have e1:((n:Int)-1)/8=(((n-1)/8:Nat):Int):=J;rw[e1];unfold t6;rw[WC]
def ho:Int->List Int->Bool
 |_,[]=>true
 |last,n::r=>decide (last<n/\n<=128/\n≠65)&&ho n r
def ra(last n:Int):aE Int (Bool×Unit):=if last<n/\n<=128/\n≠65 then .nx n else .rt (false,())
def RU{σ:Type}{mk:Int->Nat->σ}{e:Nat}:∀(l:List Int) (last:Int) (i:Nat),(ho last l=true/\∃y,jO mk e ra last i l=.ex e y)\/(ho last l=false/\jO mk e ra last i l=.rt (false,()))
 |[],last,i=>.inl ⟨rfl,_,rfl⟩
 |n::r,last,i=>by
  by_cases h:last<n/\n<=128/\n≠65
  .have ae:ra last n=.nx n:=if_pos h
   have:=RU (mk:=mk) (e:=e) r n (i+1);simp only[jO,ae,ho,decide_eq_true h];exact this
  have ae:ra last n=.rt (false,()):=if_neg h;refine .inr ⟨?_,by simp only[jO,ae]⟩;simp only[ho,decide_eq_false h,PC]
def P?(l:List Int)(hl:l.length<=1000000):Kj (l,())=some (ho 1 l,()):=by
 unfold Kj;generalize hf:(λ(V:Bool×Int×Int×Unit)=>_)=f;have key:=rW (f:=f) l (λlast i=>(false,last,(i:Int),())) 0 ra (λ_ _=>True) (λb i h _=>⟨?_,λ_ _=>trivial⟩) (λb _ => ?_) 1 trivial
 .refine(cO key).trans ?_
  rcases RU (mk:=λlast i=>((false,last,(i:Int),()):Bool×Int×Int×Unit)) (e:=0) l 1 0 with⟨O,y,R⟩|⟨O,R⟩
  .rw[O,R];simp only[go_sem]
  rw[O,R];simp only[go_sem]
 .subst hf
  by_cases O:b<l[i]/\l[i]<=128/\l[i]≠65
  .have ae:ra b l[i]=.nx l[i]:=if_pos O
   simp(disch:=omega) only[go_sem,ae,kp]
  have ae:ra b l[i]=.rt (false,()):=if_neg O;simp(disch:=omega) only[go_sem,ae,kp]
 subst hf;simp(disch:=omega) only[go_sem]
def Vj(l:List Int)(hl:l.length<=1000000):Nb (l,())=some (ho 1 l,()):=by
 unfold Nb;generalize hf:(λ(V:Bool×Int×Unit)=>_)=f;have key:=rW (f:=f) l (λ(last:Int) i=>(false,(i:Int),())) 0 ra (λb i=>(i=0/\b=1)\/∃h:i-1<l.length,0<i/\l[i-1]=b/\2<=b) (λb i h dZ=>⟨?_,λb' Y => ?_⟩) (λb _ => ?_) 1 (.inl ⟨rfl,rfl⟩)
 .refine(cO key).trans ?_
  rcases RU (mk:=λ(last:Int) i=>((false,(i:Int),()):Bool×Int×Unit)) (e:=0) l 1 0 with⟨O,y,R⟩|⟨O,R⟩
  .rw[O,R];simp(disch:=first|assumption|omega|(dsimp only;omega)|decide) only[go_sem,Int.reduceToNat]
  rw[O,R];simp(disch:=first|assumption|omega|(dsimp only;omega)|decide) only[go_sem,Int.reduceToNat]
 .subst hf
  rcases dZ with⟨rfl,rfl⟩|⟨bB,aq,Y,R⟩
  .by_cases O:1<l[0]/\l[0]<=128/\l[0]≠65
   .have ae:ra 1 l[0]=.nx l[0]:=if_pos O
    simp(disch:=omega) only[go_sem,Int.reduceToNat,ae,kp]
   have ae:ra 1 l[0]=.rt (false,()):=if_neg O;simp(disch:=omega) only[go_sem,Int.reduceToNat,ae,kp]
  have a_:((i:Int)-1).toNat=i-1:=J;by_cases O:b<l[i]/\l[i]<=128/\l[i]≠65
  .have ae:ra b l[i]=.nx l[i]:=if_pos O
   simp(disch:=omega) only[go_sem,Int.reduceToNat,ae,kp,a_]
  have ae:ra b l[i]=.rt (false,()):=if_neg O;simp(disch:=omega) only[go_sem,Int.reduceToNat,ae,kp,a_]
 .right
  have hb1:b'=l[i]/\b<l[i]:=by
   unfold ra at Y;split at Y
   .rename_i ah;cases Y;exact⟨rfl,ah.1⟩
   cases Y
  refine⟨by simpa using h,J,?_,?_⟩
  .simp only[Fa];exact hb1.1.symm
  rcases dZ with⟨_,rfl⟩|⟨_,_,_,R⟩<;>omega
 subst hf;simp(disch:=omega) only[go_sem,Int.reduceToNat]
def gP(size:Nat)(S:Nat->Bool):aa:=(List.range size).map λj=>uO λt=>S (8*j+t+1)
def A_{S:Nat->Bool}:(gP size S).length=size:=by simp[gP]
def afM{S:Nat->Bool}{j:Nat}(h:j<size):an (gP size S) j (u8 0)=uO λt=>S (8*j+t+1):=by rw[nth_get (by rw[A_];exact h)];simp[gP]
def Gu{S:Nat->Bool}(O:1<=n)(R:n<=8*size):iw (gP size S) n=S n:=by unfold iw;rw[afM J,Km J];congr 1;omega
def afO{a b:aa}(hl:a.length=b.length)(h:∀n,1<=n->n<=8*a.length->iw a n=iw b n):a=b:=by refine sv hl λj O R=>Yb λt ht => ?_;have:=h (8*j+t+1) J J;unfold iw at this;rw[show(8*j+t+1-1)/8=j by omega,show(8*j+t+1-1)%8=t by omega,nth_get O,nth_get R]at this;exact this
def afL{S Xr:Nat->Bool}(h:∀n,1<=n->n<=8*size->S n=Xr n):gP size S=gP size Xr:=afO (by rw[A_,A_]) λn O R=>by rw[A_]at R;rw[Gu O R,Gu O R,h n O R]
def afw(size:Nat):bM size (u8 0)=gP size λ_=>false:=by refine sv (by simp[bM,gP]) λj O R => ?_;simp only[bM,List.getElem_replicate,gP,JP];decide
def En(S:Nat->Bool)(n:Nat):Nat->Bool:=λm=>S m||Nat.beq m n
def agK{S:Nat->Bool}(O:1<=n)(R:n<=8*size){c:UInt8}(ah:c=uO λs=>bt (an (gP size S) ((n-1)/8) (u8 0)) s||Nat.beq s ((n-1)%8)):cg (gP size S) ((n-1)/8) c=gP size (En S n):=by
 refine sv (by simp[cg,gP]) λj ai au => ?_;have hg:=afM (S:=S) (show(n-1)/8<size by omega);simp only[cg,JI];split
 .rename_i ao
  subst ao;rw[ah,hg];simp only[gP,JP,xh];refine adx λt ht => ?_;rw[Km ht];unfold En;congr 1;refine m7.2 ?_;simp;omega
 rename_i ao;simp only[gP,JP,xh];refine adx λt ht => ?_;unfold En;have:Nat.beq (8*j+t+1) n=false:=by refine(zi _).mp λY=>ao ?_;have:=fP Y;omega
 rw[this,Pd]
def lF(l:List Int):Bool:=decide (0<l.length)&&decide (64<an l (l.length-1) 0)
def mn(l:List Int)(n:Nat):Bool:=decide ((n:Int)∈l)
def fx(l:List Int):aa:=if lF l=true then gP 16 (mn (1::l)) else gP 8 (mn l)
def wQ{l:List Int}:∀{last:Int},ho last l=true->∀n∈l,last<n/\n<=128/\n≠65:=by
 induction l with
 |nil=>intro _ _ n am;cases am
 |cons x r ih=>
  intro last h n am;simp only[ho,cM,decide_eq_true_eq]at h;rcases hc.1 am with rfl|am
  .exact h.1
  have:=ih h.2 n am;exact⟨J,this.2⟩
def awp{l:List Int}:∀{last:Int},ho last l=true->∀n∈l,n<=an l (l.length-1) 0:=by
 induction l with
 |nil=>intro _ _ n am;cases am
 |cons x r ih=>
  intro last h n am;simp only[ho,cM]at h;cases r with
  |nil=>simp at am;subst am;simp[an]
  |cons y r=>
   have aj:=ih h.2;have hl:an (x::y::r) ((x::y::r).length-1) 0=an (y::r) ((y::r).length-1) 0:=by simp[an]
   rcases hc.1 am with rfl|am
   .have O:=(wQ h.2 y bf).1
    have:=aj y bf;omega
   exact aj n am
def HS{l:List Int}(h:ho 1 l=true)(bu:¬lF l=true):∀n∈l,n<=64:=λn am=>by have:=awp h n am;unfold lF at bu;have aq:0<l.length:=List.length_pos_of_mem am;simp at bu;omega
def Lj{α β σ ρ:Type}{mk:β->Nat->σ}{e:Nat}{step:β->α->aE β ρ}{g:β->α->β}(h:∀b x,step b x=.nx (g b x)):∀(l:List α) (b:β) (i:Nat),jO mk e step b i l=.ex e (mk (l.foldl g b) (i+l.length))
 |[],b,i=>rfl
 |x::r,b,i=>by simp only[jO,h,ze,fQ];rw[Lj h r (g b x) (i+1)];congr 2;omega
def X3{f:Int×aa×Unit->Option (aE (Int×aa×Unit) (aa×Int×Unit))}{l:List Int}{S0:Nat->Bool}
  (ae:∀(S:Nat->Bool) (i:Nat) (h:i<l.length),(∀m,S m=(S0 m||mn (l.take i) m))->f ((i:Int),gP size S,())=some (.nx (((i+1:Nat):Int),gP size (En S (l[i]).toNat),())))
  (aj:∀n∈l,1<=n) (az:∀x,f ((l.length:Int),x,())=some (.ex 0 ((l.length:Int),x,()))):bC f (0,gP size S0,())=some (.ex 0 ((l.length:Int),gP size (λm=>S0 m||mn l m),())):=by
 have key:∀(k i:Nat),k=l.length-i->i<=l.length->bC f ((i:Int),gP size (λm=>S0 m||mn (l.take i) m),())=some (.ex 0 ((l.length:Int),gP size (λm=>S0 m||mn l m),())):=by
  intro k;induction k with
  |zero =>intro i ap ac;have:i=l.length:=J;subst this;rw[o5];exact dT (az _)
  |succ k ih=>
   intro i ap ac;have bi:i<l.length:=J;refine(eE (ae _ i bi λm=>rfl)).trans ?_;have hx:=aj l[i] (lI bi);have:(En (λm=>S0 m||mn (l.take i) m) (l[i]).toNat)=λm=>S0 m||mn (l.take (i+1)) m:=by funext m;unfold En mn;rw[Bool.or_assoc];congr 1;refine m7.2 ?_;rw[o6 bi];simp only[BU,decide_eq_true_eq,Pk,iQ,qw];refine or_congr PB ?_;omega
   rw[this];exact ih (i+1) J J
 have:=key l.length 0 J J;simp only[Fi,mn,zb,decide_false,Pd]at this;exact this
end Yp