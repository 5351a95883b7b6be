/- A part of the proof of the statements of this seat: plain functions, and laws on them. No condition of its own. -/
import Derived.Test.YtifmobcdnjcpiaaGreatDoorE2
import Derived.Lib.LaidTab
import Derived.MakeChecks
import Derived.KernelRfl
import Derived.Test.YtifmobcdnjcpiaaGreatDoorProg
import Derived.WalkKit
import Derived.RangeFuncBox
import Derived.RangeFuncLeaves
import Derived.Shelf.Abstract
import Derived.OwnWalkIn
import Derived.TacticsInMore
import Derived.LoopNIn
import Derived.LoopIn
import Derived.Maps.AppendAt
set_option linter.unusedVariables false
set_option linter.unusedSimpArgs false
set_option linter.defProp false
noncomputable section
open Go Yp
variable {U c:Bool}{a b k l last m no:Int}{A I W bc f i n size w:Nat}{α β ρ σ:Type}
namespace Yp
def iL{p:Prop}(h:p:=by decide +kernel):p:=h
def cM{p:Prop}(h:p:=by simp only[go_sem];omega):p:=h
def jO{p:Prop}(h:p:=by simp(disch:=first|assumption|omega|(dsimp only;omega)|decide) only[go_sem,Int.reduceToNat];omega):p:=h
end Yp
namespace Yp
abbrev V:=List UInt8
abbrev aY:=Bool×Unit
abbrev cI:=V×Int×Unit
abbrev mn:=(Int×List (Int×V×Unit)×Unit)×Int×Unit
abbrev eH:=Bool×Int×Unit
abbrev de:=Int×Unit
abbrev f9:=Int×Int×Unit
abbrev c?:= V×Unit
abbrev yh:=(Bool×Int×Int×Int×Int×V×V×Int×Unit)×Unit
abbrev rH:=(List UInt32×Int×V×Unit)×Unit
abbrev wa:=(Int×List (Int×V×Unit)×Unit)×Unit
abbrev iG:=Int×V×Unit
abbrev qR:=List (Int×V×Unit)×Unit
abbrev kk:=Int×Bool×Unit
abbrev wb:=List (Int×Int×V×Unit)×Unit
abbrev Ej:=List (Int×List Int×Int×V×Unit)×Unit
abbrev Bb:=(Int×List UInt64×Unit)×Int×Unit
abbrev I3:=Int×Int×List (Int×Int×V×Unit)×Unit
abbrev Eo:=Int×(Int×List UInt64×Unit)×Unit
abbrev Bc:=(Int×Int×Unit)×Bool×Unit
abbrev s5:=V×Int×Int×Unit
abbrev Er:=List (Int×V×Unit)×Int×Unit
abbrev VH:=(Bool×Int×Int×Int×Int×V×V×Int×Unit)×Int×Unit
abbrev wc:=Int×List UInt32×Unit
abbrev p2:=V×Bool×Unit
abbrev I5:=(Int×List UInt64×Unit)×Unit
abbrev Es:=V×Int×Int×Nat×Unit
abbrev A8:=Bool×Int×Int×Unit
abbrev s2:=List Int×Unit
abbrev A9:=Int×V×Int×Unit
abbrev Ve:=List V×V×(V×Int×Int×Unit)×Unit
abbrev Vf:=(List (Int×V×Unit)×Nat×Unit)×Unit
abbrev Vg:=V×(List UInt32×Int×V×Unit)×Unit
abbrev agK:=Int×Int×Int×(Int×List (Int×V×Unit)×Unit)×Unit
abbrev Ed:=Int×Int×Int×Unit
abbrev Vh:=(V×Int×Int×Unit)×List V×Unit
abbrev s3:=UInt32×Unit
abbrev IP:=List UInt32×Int×Unit
abbrev IQ:=Int×Int×V×Unit
abbrev Vi:=Int×Int×Int×Nat×Unit
abbrev Vj:=List (V×V×Unit)×Unit
abbrev Vk:=Int×Int×Nat×V×Unit
abbrev agL:=(V×V×Unit)×Int×Int×Unit
abbrev Vl:=(Int×V×Unit)×Unit
abbrev Vm:=Int×Bool×Int×Unit
abbrev Vn:=V×List UInt32×Unit
abbrev Vo:=(V×V×Unit)×Unit
abbrev Vp:=Int×Int×Bool×Unit
abbrev IR:=V×V×Unit
abbrev IU:=List V×Unit
abbrev Vq:=List Int×Int×Unit
abbrev Vr:=UInt8×Bool×Unit
abbrev Vs:=Int×UInt64×Unit
abbrev IM:=UInt8×Unit
abbrev Vb:=Int×UInt8×Unit
abbrev Vc:=UInt8×Int×Unit
abbrev Vd:=List UInt32×Unit
end Yp
namespace Yp
open Go
set_option maxRecDepth 100000
def aiG{a b:Bool}(O:a=true)(R:b=true):(a&&b)=true:=by rw[O,R];rfl
def acq : List (String × DataW Unit) := [("yett/sha.keys", Lib.tabData .u32 ((pK : List UInt32).map aS))]
def S0:(pK:List UInt32).length=64:=by kernel_rfl
def asd {P : Program} {W : World} {g t e : Nat} (hg : P.globalNamed "yett/sha.keys" = some g) (SE : (P.globals[g]?).map (·.type) = some t) (ht : P.underlying t = some (.array 64 e)) (aA : P.underlying e = some (.int .u32)) (aa2 : P.cellsOf e = 1) (apn : P.cellsOf t = 64)
  {laid:List (String×DataW Unit)} (hl:laid=acq) (h:laidMetH P laid W):lM P (full W):=by
 subst hl;have bL:laidMet P acq W:=by exact h
 have hT : Lib.TabIs P W "yett/sha.keys" .u32 ((pK : List UInt32).map aS) := Lib.tabIs_of_head (rest := []) hg SE ht aA aa2 apn bL
 intro i0 R_;obtain rfl:g=i0:=lZ (hg.symm.trans R_);unfold Lib.TabIs World.var? at hT;rw[hg]at hT;simp at hT;split at hT
 .rename_i cs el fz hcell
  have lK:cs=(((pK:List UInt32).map aS).map λz=>Value.int .u32 z).toArray:=lZ hT;have cq:cs.size=64:=by rw[lK];simp[S0]
  refine aH.ic.2 ⟨some ⟨g,0,none⟩,1,rfl,bU _,bP,.inr ⟨g,0,cs,el,fz,rfl,hcell,by show 0+1*64<=cs.size;omega,?_⟩⟩;intro i x hi;have:i=0/\x=(pK:List (bH .u32)):=by
   grind
  obtain⟨rfl,rfl⟩:=this;have ac:cF cs (0+0*(ae.ar 64 (.int .u32)).size) (ae.ar 64 (.int .u32)).size=((pK:List UInt32).map aS).map λz=>Value.int .u32 z:=by rw[lK];rfl
  rw[ac];refine aH.uY.2 ⟨S0,by simp[S0,ae.size],?_⟩;intro j y an;have l_:(pK:List UInt32)[j]?=some y:=an;show(List.drop (j*1) _).take 1=_;obtain⟨bm,rfl⟩:=mt.1 l_;rw[m2 (by grind)];simp[bH.to]
 cases hT
end Yp
namespace Yp
open Go
set_option maxRecDepth 100000
def asi{P:Program}{a:String×DataW Unit}{l:List (String×DataW Unit)}{W:World}(h:laidMet P (a::l) W):laidMet P l W:=by obtain⟨aZ,⟨_,_,_,_,p,q,_,_,_,_,a2,rfl⟩,aj,ai⟩:=h;exact⟨q,a2,(rY.1 aj).2.1,λb off hm=>ai b off (io.2 (.inr hm))⟩
def ash{P:Program}{a:String×DataW Unit}{l:List (String×DataW Unit)}{W:World}(h:laidMet P (a::l) W):laidMet P [a] W:=by
 obtain⟨aZ,⟨g,t,cs,gC,p,q,O,R,af,aq,a2,rfl⟩,aj,ai⟩:=h;refine⟨_,⟨g,t,cs,gC,p,[],O,R,af,aq,rfl,rfl⟩,?_,λb off hm=>ai b off (io.2 (.inl ?_))⟩
 .rw[hF];exact(rY.1 aj).1
 rw[hF]at hm;exact hm
def asg{P:Program}{a b:String×DataW Unit}{l:List (String×DataW Unit)}{W:World}(bu:((a::b::l).all λx=>x.2.handleName?.isNone)=true)(Y:([b].all λx=>x.2.handleName?.isNone)=true)(h:laidMetH P (a::b::l) W):laidMetH P [b] W:=by rw[MakeChecks.laidMetH_plain P _ W bu]at h;rw[MakeChecks.laidMetH_plain P _ W Y];exact ash (asi h)
def mD(x:f9):Option (cI):=letI b:=x.2.1;letI c:=some (true,());ob (T (aJ b 1) c (T (aJ 18 b) c (some (aJ x.1 0,())))) λ(a:aY)=>T a.1 (some (aO UInt8,1,())) (am (cY (ca 0 b b) (cz 1 (aa b))) (ci (bN (λ(x:IQ)=>letI d:=x.2.1;T (bE 0 d) (am (aU (dh x.1 10) (len [48,49,50,51,52,53,54,55,56,57,97,98,99,100,101,102])) (am (aU d (len x.2.2.1)) (some (aE.nx (i64 (fg x.1 10),i64 (bi d 1),cj x.2.2.1 (aa d) (ak [48,49,50,51,52,53,54,55,56,57,97,98,99,100,101,102] (aa (dh x.1 10)) (u8 0)),()))))) (some (aE.ex 0 (x.1,d,x.2.2.1,())))) (x.1,i64 (bi b 1),bO (aa b) (u8 0),())) (λ(a:IQ)=>none) (λ(i:Nat) (a:IQ)=>am (bZ i 0) (T (aJ 0 a.1) (some (aO UInt8,1,())) (some (a.2.2.1,0,())))) λ(r:cI)=>some r))
def r9(x:de):Option (kk):=letI b:=G5 (bi x.1 48);ob (T (bE 48 x.1) (some (i64 b,bE x.1 57,())) (some (i64 b,false,()))) λ(a:kk)=>some (a.1,a.2.1,())
def r8(x:c?):Option (f9):=ob (T (aJ (len x.1) 1) (some (true,())) (some (aJ 18 (len x.1),()))) λ(a:aY)=>T a.1 (some (0,2,())) (ci (bN (λ(ab:Vi)=>letI b:=ab.2.2.2.1;T (i6 b (aT x.1)) (ob (r9 (bf (gA x.1 b).1,())) λ(a:kk)=>T (a_ a.2.1) (some (aE.rt (0,2,()))) (some (aE.nx (ab.1,ab.2.1,i64 (av (i64 (e? 10 ab.2.2.1)) a.1),bQ b (gA x.1 b).2,())))) (some (aE.ex 0 (ab.1,ab.2.1,ab.2.2.1,b,())))) (0,0,0,0,())) (λ(a:Vi)=>none) (λ(i:Nat) (a:Vi)=>am (bZ i 0) (some (a.2.2.1,0,()))) λ(r:f9)=>some r)
def tC(x:c?):Option (cI):=letI b:=i64 (fg (i64 (av (len x.1) 1)) 2);am (cY (ca 0 b b) (cz 1 (aa b))) (ci (bN (λ(ab:Vk)=>letI c:=i64 (fg ab.2.1 2);letI d:=ab.2.2;letI e:=aU c (len d.2.1);T (i6 d.1 (aT x.1)) (ob (r9 (bf (gA x.1 d.1).1,())) λ(a:kk)=>T (a_ a.2.1) (some (aE.rt (aO UInt8,2,()))) (am e (am e (some (aE.nx (ab.1,i64 (av ab.2.1 1),bQ d.1 (gA x.1 d.1).2,cj d.2.1 (aa c) (u8 (gM IntKind.u8 (aI (u8 (ho IntKind.u8 (aI (ak d.2.1 (aa c) (u8 0))) (cB (u64 4))))) (aI (u8 a.1)))),())))))) (some (aE.ex 0 (ab.1,ab.2.1,d.1,d.2.1,())))) (0,dh (len x.1) 2,0,bO (aa b) (u8 0),())) (λ(a:Vk)=>none) (λ(i:Nat) (a:Vk)=>am (bZ i 0) (some (a.2.2.2.1,0,()))) λ(r:cI)=>some r)
def MV(x:IR):Option (aY):=some (seq x.1 x.2.1,())
def Cg(x:c?):Option (c?):=letI e:=len x.1;letI g:=i64 (e? 2 e);am (cY (ca 0 0 g) (cz 1 (aa g))) (ci (bN (λ(ab:cI)=>letI f:=ab.2.1;letI b:=aI (ak x.1 (aa f) (u8 0));letI c:=aI (u8 (fr IntKind.u8 b (cB (u64 4))));letI d:=aI (u8 (iI IntKind.u8 b (aI (u8 15))));T (aJ f e) (am (aU f e) (am (aU c (len [48,49,50,51,52,53,54,55,56,57,97,98,99,100,101,102])) (am (aU d (len [48,49,50,51,52,53,54,55,56,57,97,98,99,100,101,102])) (am (cz 1 (bQ (aT ab.1) (aT [ak [48,49,50,51,52,53,54,55,56,57,97,98,99,100,101,102] (aa c) (u8 0),ak [48,49,50,51,52,53,54,55,56,57,97,98,99,100,101,102] (aa d) (u8 0)]))) (some (aE.nx (bv ab.1 [ak [48,49,50,51,52,53,54,55,56,57,97,98,99,100,101,102] (aa c) (u8 0),ak [48,49,50,51,52,53,54,55,56,57,97,98,99,100,101,102] (aa d) (u8 0)],i64 (av f 1),()))))))) (some (aE.ex 0 (ab.1,f,())))) (bO (aa 0) (u8 0),0,())) (λ(a:cI)=>none) (λ(i:Nat) (a:cI)=>am (bZ i 0) (some (a.1,()))) λ(r:c?)=>some r)
def w1(x:s5):Option (s5):=letI k:=x.2.2.1;letI j:=x.2.1;letI d:=i64 (fg (i64 (av k 1)) 2);letI b:=av j d;letI g:=some (true,());letI l:=len x.1;ob (T (aJ k 0) g (T (aJ 999 k) g (T (aJ j 0) g (some (aJ l j,()))))) λ(a:aY)=>T a.1 (some (aO UInt8,0,1,())) (T (aJ (i64 (bi l j)) d) (some (aO UInt8,0,3,())) (am (ca j (i64 b) l) (ob (Cg (sub x.1 j (i64 b),())) λ(a:c?)=>letI c:=len a.1;letI h:=sub a.1 1 c;T (ag (dh k 2) 1) (am (aU 0 c) (T (a_ (ag (aI (ak a.1 (aa 0) (u8 0))) (aI (u8 48)))) (some (aO UInt8,0,2,())) (am (ca 1 c c) (ci (bN (λ(x:Es)=>letI e:=x.2.2.2.1;T (i6 e (aT h)) (ob (r9 (bf (gA h e).1,())) λ(a6:kk)=>T (a_ a6.2.1) (some (aE.rt (aO UInt8,0,2,()))) (some (aE.nx (x.1,x.2.1,x.2.2.1,bQ e (gA h e).2,())))) (some (aE.ex 0 (x.1,x.2.1,x.2.2.1,e,())))) (aO UInt8,0,0,0,())) (λ(a:Es)=>none) (λ(i:Nat) (a6:Es)=>am (bZ i 0) (some (sub a.1 1 c,i64 b,0,()))) λ(r:s5)=>some r)))) (ci (bN (λ(x:Es)=>letI f:=x.2.2.2.1;T (i6 f (aT a.1)) (ob (r9 (bf (gA a.1 f).1,())) λ(a6:kk)=>T (a_ a6.2.1) (some (aE.rt (aO UInt8,0,2,()))) (some (aE.nx (x.1,x.2.1,x.2.2.1,bQ f (gA a.1 f).2,())))) (some (aE.ex 0 (x.1,x.2.1,x.2.2.1,f,())))) (aO UInt8,0,0,0,())) (λ(a:Es)=>none) (λ(i:Nat) (a6:Es)=>am (bZ i 0) (some (a.1,i64 b,0,()))) λ(r:s5)=>some r))))
def la(x:s5):Option (Ed):=letI d:=x.2.2.1;letI c:=x.2.1;letI h:=av c d;letI b:=sub x.1 c (i64 h);letI e:=some (true,());letI f:=len x.1;ob (T (aJ d 1) e (T (aJ 8 d) e (T (aJ c 0) e (some (aJ f c,()))))) λ(a:aY)=>T a.1 (some (0,0,1,())) (T (aJ (i64 (bi f c)) d) (some (0,0,3,())) (ob (T (ag d 8) (am (aU c f) (some (aJ (aI (u8 127)) (aI (ak x.1 (aa c) (u8 0))),()))) (some (false,()))) λ(a:aY)=>T a.1 (some (0,0,2,())) (am (ca c (i64 h) f) (ci (bN (λ(ab:f9)=>letI g:=ab.2.1;T (aJ g (len b)) (am (aU g (len b)) (some (aE.nx (i64 (gM IntKind.i64 (i64 (ho IntKind.i64 ab.1 (cB (u64 8)))) (i64 (aI (ak b (aa g) (u8 0))))),i64 (av g 1),())))) (some (aE.ex 1 (ab.1,g,())))) (0,0,())) (λ(a:f9)=>none) (λ(i:Nat) (a:f9)=>am (bZ i 1) (some (a.1,i64 h,0,()))) λ(r:Ed)=>some r))))
def pu(x:f9):Option (cI):=letI b:=x.2.1;letI c:=some (true,());letI f:=i64 (e? 8 b);ob (T (aJ b 1) c (T (aJ 8 b) c (T (aJ x.1 0) c (T (aJ b 8) (am (bE 0 f) (some (aJ 0 (fr IntKind.i64 x.1 f),()))) (some (false,())))))) λ(a:aY)=>T a.1 (some (aO UInt8,1,())) (am (cY (ca 0 b b) (cz 1 (aa b))) (ci (bN (λ(ab:iG)=>letI d:=i64 (bi (i64 (bi b 1)) ab.1);letI e:=i64 (e? 8 ab.1);T (aJ ab.1 (len (bO (aa b) (u8 0)))) (am (bE 0 e) (am (aU d (len ab.2.1)) (some (aE.nx (i64 (av ab.1 1),cj ab.2.1 (aa d) (u8 (fr IntKind.i64 x.1 e)),()))))) (some (aE.ex 0 (ab.1,ab.2.1,())))) (0,bO (aa b) (u8 0),())) (λ(a:iG)=>none) (λ(i:Nat) (a:iG)=>am (bZ i 0) (some (a.2.1,0,()))) λ(r:cI)=>some r))
def KA(x:IM):Option (Vr):=letI b:=aI x.1;letI c:=some (false,());ob (T (bE (aI (u8 48)) b) (some (bE b (aI (u8 57)),())) c) λ(a:aY)=>T a.1 (some (u8 (bi b (aI (u8 48))),true,())) (ob (T (bE (aI (u8 97)) b) (some (bE b (aI (u8 102)),())) c) λ(a:aY)=>T a.1 (some (u8 (av (aI (u8 (bi b (aI (u8 97))))) (aI (u8 10))),true,())) (some (u8 0,false,())))
def Ch(x:c?):Option (cI):=letI d:=len x.1;letI e:=i64 (fg d 2);T (ag (dh d 2) 1) (some (aO UInt8,2,())) (am (cY (ca 0 0 e) (cz 1 (aa e))) (ci (bN (λ(ab:A9)=>letI c:=ab.2.2.1;letI f:=i64 (av c 1);T (aJ c d) (am (aU c d) (ob (KA (ak x.1 (aa c) (u8 0),())) λ(a:Vr)=>am (aU f d) (ob (KA (ak x.1 (aa f) (u8 0),())) λ(a6:Vr)=>letI b:=gM IntKind.u8 (aI (u8 (ho IntKind.u8 (aI a.1) (cB (u64 4))))) (aI a6.1);ob (T (a_ a.2.1) (some (true,())) (some (a_ a6.2.1,()))) λ(bR:aY)=>T bR.1 (some (aE.rt (aO UInt8,2,()))) (am (cz 1 (bQ (aT ab.2.1) (aT [u8 b]))) (some (aE.nx (ab.1,bv ab.2.1 [u8 b],i64 (av c 2),()))))))) (some (aE.ex 0 (ab.1,ab.2.1,c,())))) (0,bO (aa 0) (u8 0),0,())) (λ(a:A9)=>none) (λ(i:Nat) (a:A9)=>am (bZ i 0) (some (a.2.1,0,()))) λ(r:cI)=>some r))
def H3(x:f9):Option (de):=ci (bN (λ(ab:f9)=>T (aJ ab.2.1 x.2.1) (some (aE.nx (i64 (e? ab.1 x.1),i64 (av ab.2.1 1),()))) (some (aE.ex 0 (ab.1,ab.2.1,())))) (1,0,())) (λ(a:f9)=>none) (λ(i:Nat) (a:f9)=>am (bZ i 0) (some (a.1,()))) λ(r:de)=>some r
def MU(x:f9):Option (cI):=letI c:=some (true,());ob (T (aJ x.2.1 1) c (T (aJ 18 x.2.1) c (T (aJ x.1 0) c (ob (H3 (10,x.2.1,())) λ(a:de)=>some (bE a.1 x.1,()))))) λ(a:aY)=>T a.1 (some (aO UInt8,1,())) (ci (bN (λ(ab:cI)=>letI d:=ab.2.1;T (bE 0 d) (ob (H3 (10,d,())) λ(a:de)=>letI b:=i64 (av 48 (dh (i64 (fg x.1 a.1)) 10));am (a_ (ag a.1 0)) (am (cz 1 (bQ (aT ab.1) (aT [u8 b]))) (some (aE.nx (bv ab.1 [u8 b],i64 (bi d 1),()))))) (some (aE.ex 0 (ab.1,d,())))) (aO UInt8,i64 (bi x.2.1 1),())) (λ(a:cI)=>none) (λ(i:Nat) (a:cI)=>am (bZ i 0) (some (a.1,0,()))) λ(r:cI)=>some r)
def Um(x:c?):Option (aY):=letI d:=len x.1;letI e:=some (true,());ci (bN (λ(ab:eH)=>letI c:=ab.2.1;letI b:=aI (ak x.1 (aa c) (u8 0));T (aJ c d) (am (aU c d) (ob (T (aJ b (aI (u8 48))) e (am (aU c d) (some (aJ (aI (u8 57)) b,())))) λ(a:aY)=>T a.1 (some (aE.rt (false,()))) (some (aE.nx (ab.1,i64 (av c 1),()))))) (some (aE.ex 0 (ab.1,c,())))) (false,0,())) (λ(a:eH)=>none) (λ(i:Nat) (a:eH)=>am (bZ i 0) e) λ(r:aY)=>some r
def Ul(x:c?):Option (cI):=ob (Um (x.1,())) λ(a:aY)=>T (a_ a.1) (some (aO UInt8,2,())) (ob (T (ag (dh (len x.1) 2) 1) (am (bE (av (len [48]) (len x.1)) 140737488355328) (some (bv [48] x.1,()))) (some (x.1,()))) λ(a:c?)=>letI d:=len a.1;ci (bN (λ(x:cI)=>letI c:=x.2.1;letI e:=i64 (av c 1);letI b:=bi (aI (u8 (av (aI (u8 (e? (aI (u8 16)) (aI (u8 (bi (aI (ak a.1 (aa c) (u8 0))) (aI (u8 48)))))))) (aI (ak a.1 (aa e) (u8 0)))))) (aI (u8 48));T (aJ c d) (am (aU c d) (am (aU e d) (am (cz 1 (bQ (aT x.1) (aT [u8 b]))) (some (aE.nx (bv x.1 [u8 b],i64 (av c 2),())))))) (some (aE.ex 0 (x.1,c,())))) (aO UInt8,0,())) (λ(a:cI)=>none) (λ(i:Nat) (a:cI)=>am (bZ i 0) (some (a.1,0,()))) λ(r:cI)=>some r)
def H4(x:IM):Option (IM):=letI a:=aI x.1;T (aJ a (aI (u8 10))) (some (u8 (av (aI (u8 48)) a),())) (some (u8 (av (aI (u8 87)) a),()))
def DO(x:c?):Option (c?):=letI d:=len x.1;ci (bN (λ(ab:cI)=>letI c:=ab.2.1;letI b:=aI (ak x.1 (aa c) (u8 0));T (aJ c d) (am (aU c d) (ob (H4 (u8 (fg b (aI (u8 16))),())) λ(a:IM)=>am (aU c d) (ob (H4 (u8 (dh b (aI (u8 16))),())) λ(a6:IM)=>am (cz 1 (bQ (aT ab.1) (aT [a.1,a6.1]))) (some (aE.nx (bv ab.1 [a.1,a6.1],i64 (av c 1),())))))) (some (aE.ex 0 (ab.1,c,())))) (aO UInt8,0,())) (λ(a:cI)=>none) (λ(i:Nat) (a:cI)=>am (bZ i 0) (some (a.1,()))) λ(r:c?)=>some r
def FZ(x:de):Option (de):=letI a:=ag x.1 53;letI b:=ag x.1 90;letI c:=ag x.1 7;letI d:=ag x.1 4;letI e:=ag x.1 11;letI f:=ag x.1 12;letI g:=ag x.1 3;letI h:=ag x.1 15;letI i:=ag x.1 13;letI j:=ag x.1 14;letI k:=ag x.1 18;T (ag x.1 25) (some (2,())) (T (ag x.1 22) (T (ag x.1 22) (some (3,())) (T i (T i (some (4,())) (T g (T g (some (6,())) (T c (some (10,())) (T d (some (12,())) (T a (some (16,())) (T b (some (42,())) (some (0,()))))))) (T e (T e (some (6,())) (T c (some (10,())) (T d (some (12,())) (T a (some (16,())) (T b (some (42,())) (some (0,()))))))) (T f (T f (some (6,())) (T c (some (10,())) (T d (some (12,())) (T a (some (16,())) (T b (some (42,())) (some (0,()))))))) (T h (some (6,())) (T c (some (10,())) (T d (some (12,())) (T a (some (16,())) (T b (some (42,())) (some (0,()))))))))))) (T j (T j (some (4,())) (T g (T g (some (6,())) (T c (some (10,())) (T d (some (12,())) (T a (some (16,())) (T b (some (42,())) (some (0,()))))))) (T e (T e (some (6,())) (T c (some (10,())) (T d (some (12,())) (T a (some (16,())) (T b (some (42,())) (some (0,()))))))) (T f (T f (some (6,())) (T c (some (10,())) (T d (some (12,())) (T a (some (16,())) (T b (some (42,())) (some (0,()))))))) (T h (some (6,())) (T c (some (10,())) (T d (some (12,())) (T a (some (16,())) (T b (some (42,())) (some (0,()))))))))))) (T k (some (4,())) (T g (T g (some (6,())) (T c (some (10,())) (T d (some (12,())) (T a (some (16,())) (T b (some (42,())) (some (0,()))))))) (T e (T e (some (6,())) (T c (some (10,())) (T d (some (12,())) (T a (some (16,())) (T b (some (42,())) (some (0,()))))))) (T f (T f (some (6,())) (T c (some (10,())) (T d (some (12,())) (T a (some (16,())) (T b (some (42,())) (some (0,()))))))) (T h (some (6,())) (T c (some (10,())) (T d (some (12,())) (T a (some (16,())) (T b (some (42,())) (some (0,())))))))))))))) (T (ag x.1 49) (T (ag x.1 49) (some (3,())) (T i (T i (some (4,())) (T g (T g (some (6,()))
 (T c (some (10,())) (T d (some (12,())) (T a (some (16,())) (T b (some (42,())) (some (0,()))))))) (T e (T e (some (6,())) (T c (some (10,())) (T d (some (12,())) (T a (some (16,())) (T b (some (42,())) (some (0,()))))))) (T f (T f (some (6,())) (T c (some (10,())) (T d (some (12,())) (T a (some (16,())) (T b (some (42,())) (some (0,()))))))) (T h (some (6,())) (T c (some (10,())) (T d (some (12,())) (T a (some (16,())) (T b (some (42,())) (some (0,()))))))))))) (T j (T j (some (4,())) (T g (T g (some (6,())) (T c (some (10,())) (T d (some (12,())) (T a (some (16,())) (T b (some (42,())) (some (0,()))))))) (T e (T e (some (6,())) (T c (some (10,())) (T d (some (12,())) (T a (some (16,())) (T b (some (42,())) (some (0,()))))))) (T f (T f (some (6,())) (T c (some (10,())) (T d (some (12,())) (T a (some (16,())) (T b (some (42,())) (some (0,()))))))) (T h (some (6,())) (T c (some (10,())) (T d (some (12,())) (T a (some (16,())) (T b (some (42,())) (some (0,()))))))))))) (T k (some (4,())) (T g (T g (some (6,())) (T c (some (10,())) (T d (some (12,())) (T a (some (16,())) (T b (some (42,())) (some (0,()))))))) (T e (T e (some (6,())) (T c (some (10,())) (T d (some (12,())) (T a (some (16,())) (T b (some (42,())) (some (0,()))))))) (T f (T f (some (6,())) (T c (some (10,())) (T d (some (12,())) (T a (some (16,())) (T b (some (42,())) (some (0,()))))))) (T h (some (6,())) (T c (some (10,())) (T d (some (12,())) (T a (some (16,())) (T b (some (42,())) (some (0,())))))))))))))) (T (ag x.1 70) (some (3,())) (T i (T i (some (4,())) (T g (T g (some (6,())) (T c (some (10,())) (T d (some (12,())) (T a (some (16,())) (T b (some (42,())) (some (0,()))))))) (T e (T e (some (6,())) (T c (some (10,())) (T d (some (12,())) (T a (some (16,())) (T b (some (42,())) (some (0,()))))))) (T f (T f (some (6,())) (T c (some (10,())) (T d (some (12,())) (T a (some (16,())) (T b (some (42,()))
 (some (0, ()))))))) (T h (some (6,())) (T c (some (10,())) (T d (some (12,())) (T a (some (16,())) (T b (some (42,())) (some (0,()))))))))))) (T j (T j (some (4,())) (T g (T g (some (6,())) (T c (some (10,())) (T d (some (12,())) (T a (some (16,())) (T b (some (42,())) (some (0,()))))))) (T e (T e (some (6,())) (T c (some (10,())) (T d (some (12,())) (T a (some (16,())) (T b (some (42,())) (some (0,()))))))) (T f (T f (some (6,())) (T c (some (10,())) (T d (some (12,())) (T a (some (16,())) (T b (some (42,())) (some (0,()))))))) (T h (some (6,())) (T c (some (10,())) (T d (some (12,())) (T a (some (16,())) (T b (some (42,())) (some (0,()))))))))))) (T k (some (4,())) (T g (T g (some (6,())) (T c (some (10,())) (T d (some (12,())) (T a (some (16,())) (T b (some (42,())) (some (0,()))))))) (T e (T e (some (6,())) (T c (some (10,())) (T d (some (12,())) (T a (some (16,())) (T b (some (42,())) (some (0,()))))))) (T f (T f (some (6,())) (T c (some (10,())) (T d (some (12,())) (T a (some (16,())) (T b (some (42,())) (some (0,()))))))) (T h (some (6,())) (T c (some (10,())) (T d (some (12,())) (T a (some (16,())) (T b (some (42,())) (some (0,()))))))))))))))))
def zk(x:f9):Option (de):=letI b:=x.2.1;T (ag x.1 1) (ob (FZ (b,())) λ(a:de)=>some (a.1,())) (T (ag x.1 2) (some (T (ag b 2) 19 (T (ag b 32) 11 (T (ag b 100) 11 0)),())) (T (ag x.1 3) (some (T (ag b 37) 12 (T (ag b 38) 6 (T (ag b 39) 2 (T (ag b 41) 8 (T (ag b 42) 15 (T (ag b 95) 42 0))))),())) (T (ag x.1 4) (some (T (ag b 35) 37 (T (ag b 102) 28 0),())) (T (ag x.1 5) (some (T (ag b 48) 400 (T (ag b 54) 120 0),())) (T (ag x.1 6) (some (T (ag b 52) 8 (T (ag b 64) 8 (T (ag b 96) 8 (T (ag b 128) 8 0))),())) (T (ag x.1 7) (some (T (ag b 55) 255 (T (ag b 127) 400 0),())) (some (0,()))))))))
def u7(x:de):Option (Bc):=ci (bN (λ(ab:eH)=>letI b:=ab.2.1;T (bE b 7) (ob (zk (b,x.1,())) λ(a:de)=>T (aJ 0 a.1) (some (aE.rt ((b,a.1,()),true,()))) (some (aE.nx (ab.1,i64 (av b 1),())))) (some (aE.ex 0 (ab.1,b,())))) (false,1,())) (λ(a:eH)=>none) (λ(i:Nat) (a:eH)=>am (bZ i 0) (some ((0,0,()),false,()))) λ(r:Bc)=>some r
def iy(x:de):Option (de):=letI a:=ag x.1 5;T (ag x.1 2) (T (ag x.1 2) (some (2,())) (T a (T a (some (3,())) (some (0,()))) (T (ag x.1 7) (some (3,())) (some (0,()))))) (T (ag x.1 4) (some (2,())) (T a (T a (some (3,())) (some (0,()))) (T (ag x.1 7) (some (3,())) (some (0,())))))
def u6(x:iG):Option (aY):=letI k:=x.2.1;letI e:=len k;letI c:=some (aJ 0 e,());letI f:=some (false,());letI g:=some (true,());letI h:=aI (u8 126);letI j:=aI (u8 32);ob (u7 (x.1,())) λ(a:Bc)=>letI l:=a.1.1;letI b:=some (ag e a.1.2.1,());letI d:=iy (l,());letI M:=ag l 3;letI N:=ag l 4;ob (T (a_ a.2.1) g (some (aJ a.1.2.1 e,()))) λ(a6:aY)=>T a6.1 f (T (ag l 1) (T (ag l 1) (ci (bN (λ(ab:eH)=>letI A:=ab.2.1;letI m:=aI (ak k (aa A) (u8 0));T (aJ A e) (am (aU A e) (ob (T (aJ m (aI (u8 48))) g (some (aJ (aI (u8 57)) m,()))) λ(a:aY)=>T a.1 (some (aE.ex 999999999 (false,A,()))) (some (aE.nx (ab.1,i64 (av A 1),()))))) (some (aE.ex 0 (ab.1,A,())))) (false,0,())) (λ(a:eH)=>none) (λ(i:Nat) (bR:eH)=>T (bZ i 999999999) (T (a_ bR.1) f (ci (bN (λ(ab:eH)=>letI B:=ab.2.1;letI n:=aI (ak k (aa B) (u8 0));T (aJ B e) (am (aU B e) (ob (T (aJ n j) g (some (aJ h n,()))) λ(a:aY)=>T a.1 (some (aE.ex 999999999 (false,B,()))) (some (aE.nx (ab.1,i64 (av B 1),()))))) (some (aE.ex 0 (ab.1,B,())))) (false,0,())) (λ(a:eH)=>none) (λ(i:Nat) (bS:eH)=>T (bZ i 999999999) (T (a_ bS.1) f (ob d λ(dm:de)=>T (aJ 0 dm.1) c b)) (am (bZ i 0) (ob d λ(dm:de)=>T (aJ 0 dm.1) c b))) λ(r:Unit)=>none)) (am (bZ i 0) (ci (bN (λ(ab:eH)=>letI C:=ab.2.1;letI o:=aI (ak k (aa C) (u8 0));T (aJ C e) (am (aU C e) (ob (T (aJ o j) g (some (aJ h o,()))) λ(a:aY)=>T a.1 (some (aE.ex 999999999 (false,C,()))) (some (aE.nx (ab.1,i64 (av C 1),()))))) (some (aE.ex 0 (ab.1,C,())))) (false,0,())) (λ(a:eH)=>none) (λ(i:Nat) (bS:eH)=>T (bZ i 999999999) (T (a_ bS.1) f (ob d λ(dm:de)=>T (aJ 0 dm.1) c b)) (am (bZ i 0) (ob d λ(dm:de)=>T (aJ 0 dm.1) c b))) λ(r:Unit)=>none))) λ(r:Unit)=>none) (T M (T M (ci (bN (λ(ab:eH)=>letI D:=ab.2.1;letI p:=aI (ak k (aa D) (u8 0));T (aJ D e) (am (aU D e) (ob (T (aJ p j) g (some (aJ h p,()))) λ(a:aY)=>T a.1 (some (aE.ex 999999999 (false,D,()))) (some (aE.nx (ab.1,i64 (av D 1),()))))) (some (aE.ex 0
 (ab.1,D,())))) (false,0,())) (λ(a:eH)=>none) (λ(i:Nat) (bR:eH)=>T (bZ i 999999999) (T (a_ bR.1) f (ob d λ(bS:de)=>T (aJ 0 bS.1) c b)) (am (bZ i 0) (ob d λ(bS:de)=>T (aJ 0 bS.1) c b))) λ(r:Unit)=>none) (ob d λ(bR:de)=>T (aJ 0 bR.1) c b)) (T N (T N (ci (bN (λ(ab:eH)=>letI E:=ab.2.1;letI q:=aI (ak k (aa E) (u8 0));T (aJ E e) (am (aU E e) (ob (T (aJ q j) g (some (aJ h q,()))) λ(a:aY)=>T a.1 (some (aE.ex 999999999 (false,E,()))) (some (aE.nx (ab.1,i64 (av E 1),()))))) (some (aE.ex 0 (ab.1,E,())))) (false,0,())) (λ(a:eH)=>none) (λ(i:Nat) (bR:eH)=>T (bZ i 999999999) (T (a_ bR.1) f (ob d λ(bS:de)=>T (aJ 0 bS.1) c b)) (am (bZ i 0) (ob d λ(bS:de)=>T (aJ 0 bS.1) c b))) λ(r:Unit)=>none) (ob d λ(bR:de)=>T (aJ 0 bR.1) c b)) (T (ag l 5) (ci (bN (λ(ab:eH)=>letI F:=ab.2.1;letI s:=aI (ak k (aa F) (u8 0));T (aJ F e) (am (aU F e) (ob (T (aJ s j) g (some (aJ h s,()))) λ(a:aY)=>T a.1 (some (aE.ex 999999999 (false,F,()))) (some (aE.nx (ab.1,i64 (av F 1),()))))) (some (aE.ex 0 (ab.1,F,())))) (false,0,())) (λ(a:eH)=>none) (λ(i:Nat) (bR:eH)=>T (bZ i 999999999) (T (a_ bR.1) f (ob d λ(bS:de)=>T (aJ 0 bS.1) c b)) (am (bZ i 0) (ob d λ(bS:de)=>T (aJ 0 bS.1) c b))) λ(r:Unit)=>none) (ob d λ(bR:de)=>T (aJ 0 bR.1) c b))))) (T (ag l 2) (ci (bN (λ(ab:eH)=>letI G:=ab.2.1;letI t:=aI (ak k (aa G) (u8 0));T (aJ G e) (am (aU G e) (ob (T (aJ t (aI (u8 48))) g (some (aJ (aI (u8 57)) t,()))) λ(a:aY)=>T a.1 (some (aE.ex 999999999 (false,G,()))) (some (aE.nx (ab.1,i64 (av G 1),()))))) (some (aE.ex 0 (ab.1,G,())))) (false,0,())) (λ(a:eH)=>none) (λ(i:Nat) (bR:eH)=>T (bZ i 999999999) (T (a_ bR.1) f (ci (bN (λ(ab:eH)=>letI H:=ab.2.1;letI u:=aI (ak k (aa H) (u8 0));T (aJ H e) (am (aU H e) (ob (T (aJ u j) g (some (aJ h u,()))) λ(a:aY)=>T a.1 (some (aE.ex 999999999 (false,H,()))) (some (aE.nx (ab.1,i64 (av H 1),()))))) (some (aE.ex 0 (ab.1,H,())))) (false,0,()))
 (λ(a:eH)=>none) (λ(i:Nat) (bS:eH)=>T (bZ i 999999999) (T (a_ bS.1) f (ob d λ(dm:de)=>T (aJ 0 dm.1) c b)) (am (bZ i 0) (ob d λ(dm:de)=>T (aJ 0 dm.1) c b))) λ(r:Unit)=>none)) (am (bZ i 0) (ci (bN (λ(ab:eH)=>letI I:=ab.2.1;letI v:=aI (ak k (aa I) (u8 0));T (aJ I e) (am (aU I e) (ob (T (aJ v j) g (some (aJ h v,()))) λ(a:aY)=>T a.1 (some (aE.ex 999999999 (false,I,()))) (some (aE.nx (ab.1,i64 (av I 1),()))))) (some (aE.ex 0 (ab.1,I,())))) (false,0,())) (λ(a:eH)=>none) (λ(i:Nat) (bS : Bool×Int×Unit)=>T (bZ i 999999999) (T (a_ bS.1) f (ob d λ(dm:de)=>T (aJ 0 dm.1) c b)) (am (bZ i 0) (ob d λ(dm:de)=>T (aJ 0 dm.1) c b))) λ(r:Unit)=>none))) λ(r:Unit)=>none) (T M (T M (ci (bN (λ(ab:eH)=>letI J:=ab.2.1;letI w:=aI (ak k (aa J) (u8 0));T (aJ J e) (am (aU J e) (ob (T (aJ w j) g (some (aJ h w,()))) λ(a:aY)=>T a.1 (some (aE.ex 999999999 (false,J,()))) (some (aE.nx (ab.1,i64 (av J 1),()))))) (some (aE.ex 0 (ab.1,J,())))) (false,0,())) (λ(a:eH)=>none) (λ(i:Nat) (bR:eH)=>T (bZ i 999999999) (T (a_ bR.1) f (ob d λ(bS:de)=>T (aJ 0 bS.1) c b)) (am (bZ i 0) (ob d λ(bS:de)=>T (aJ 0 bS.1) c b))) λ(r:Unit)=>none) (ob d λ(bR:de)=>T (aJ 0 bR.1) c b)) (T N (T N (ci (bN (λ(ab:eH)=>letI K:=ab.2.1;letI y:=aI (ak k (aa K) (u8 0));T (aJ K e) (am (aU K e) (ob (T (aJ y j) g (some (aJ h y,()))) λ(a:aY)=>T a.1 (some (aE.ex 999999999 (false,K,()))) (some (aE.nx (ab.1,i64 (av K 1),()))))) (some (aE.ex 0 (ab.1,K,())))) (false,0,())) (λ(a : Bool×Int×Unit)=>none) (λ(i:Nat) (bR:eH)=>T (bZ i 999999999) (T (a_ bR.1) f (ob d λ(bS:de)=>T (aJ 0 bS.1) c b)) (am (bZ i 0) (ob d λ(bS:de)=>T (aJ 0 bS.1) c b))) λ(r:Unit)=>none) (ob d λ(bR:de)=>T (aJ 0 bR.1) c b)) (T (ag l 5) (ci (bN (λ(ab:eH)=>letI L:=ab.2.1;letI z:=aI (ak k (aa L) (u8 0));T (aJ L e) (am (aU L e) (ob (T (aJ z j) g (some (aJ h z,()))) λ(a:aY)=>T a.1 (some (aE.ex 999999999 (false,L,()))) (some
 (aE.nx (ab.1,i64 (av L 1),()))))) (some (aE.ex 0 (ab.1,L,())))) (false,0,())) (λ(a:eH)=>none) (λ(i:Nat) (bR:eH)=>T (bZ i 999999999) (T (a_ bR.1) f (ob d λ(bS:de)=>T (aJ 0 bS.1) c b)) (am (bZ i 0) (ob d λ(bS:de)=>T (aJ 0 bS.1) c b))) λ(r:Unit)=>none) (ob d λ(bR:de)=>T (aJ 0 bR.1) c b))))))
def FY(x:iG):Option (cI):=letI c:=x.2.1;ob (u7 (x.1,())) λ(a:Bc)=>letI b:=T (ag a.1.1 1) (some (true,())) (some (ag a.1.1 2,()));T (a_ a.2.1) (some (aO UInt8,12,())) (ob (u6 (x.1,c,())) λ(a6:aY)=>T (a_ a6.1) (some (aO UInt8,1,())) (ob (iy (a.1.1,())) λ(bR:de)=>T (aJ 0 bR.1) (ob (mD (len c,bR.1,())) λ(bS:cI)=>ob (tC (bS.1,())) λ(dm:cI)=>ob b λ(a:aY)=>T a.1 (ob (tC (c,())) λ(a:cI)=>am (cz 1 (bQ (aT dm.1) (aT a.1))) (some (bv dm.1 a.1,0,()))) (am (cz 1 (bQ (aT dm.1) (aT c))) (some (bv dm.1 c,0,())))) (ob b λ(a:aY)=>T a.1 (ob (tC (c,())) λ(a:cI)=>am (cz 1 (aT a.1)) (some (a.1,0,()))) (am (cz 1 (aT c)) (some (c,0,()))))))
def KX(x:A9):Option (s5):=letI k:=x.2.1;letI e:=x.2.2.1;letI f:=aO UInt8;letI g:=len k;letI h:=some (true,());ob (u7 (x.1,())) λ(a:Bc)=>letI j:=a.1.2.1;letI m:=av e j;letI b:=sub k e (i64 m);letI d:=T (ag a.1.1 1) h (some (ag a.1.1 2,()));T (a_ a.2.1) (some (aO UInt8,0,12,())) (ob (T (aJ e 0) h (some (aJ g e,()))) λ(a6:aY)=>T a6.1 (some (aO UInt8,0,1,())) (ob (iy (a.1.1,())) λ(bR:de)=>T (aJ 0 bR.1) (ob (w1 (k,e,bR.1,())) λ(bS:s5)=>letI l:=bS.2.1;T (a_ (ag bS.2.2.1 0)) (some (aO UInt8,0,bS.2.2.1,())) (ob (r8 (bS.1,())) λ(dm:f9)=>letI i:=av l dm.1;letI c:=sub k l (i64 i);ob (T (aJ dm.1 1) h (some (aJ j dm.1,()))) λ(j4:aY)=>T j4.1 (some (aO UInt8,0,2,())) (ob d λ(a:aY)=>T a.1 (ob (w1 (k,l,dm.1,())) λ(a:s5)=>T (a_ (ag a.2.2.1 0)) (some (aO UInt8,0,a.2.2.1,())) (am (cz 1 (aT a.1)) (some (a.1,a.2.1,0,())))) (T (aJ (i64 (bi g l)) dm.1) (some (aO UInt8,0,3,())) (am (ca l (i64 i) g) (am (cz 1 (bQ (aT f) (aT c))) (ob (u6 (x.1,bv f c,())) λ(a:aY)=>T (a_ a.1) (some (aO UInt8,0,2,())) (some (bv f c,i64 i,0,()))))))))) (ob d λ(bS:aY)=>T bS.1 (ob (w1 (k,e,j,())) λ(a:s5)=>T (a_ (ag a.2.2.1 0)) (some (aO UInt8,0,a.2.2.1,())) (am (cz 1 (aT a.1)) (some (a.1,a.2.1,0,())))) (T (aJ (i64 (bi g e)) j) (some (aO UInt8,0,3,())) (am (ca e (i64 m) g) (am (cz 1 (bQ (aT f) (aT b))) (ob (u6 (x.1,bv f b,())) λ(dm:aY)=>T (a_ dm.1) (some (aO UInt8,0,2,())) (some (bv f b,i64 m,0,())))))))))
def bt(c:UInt8)(t:Nat):Bool:=c.toNat.testBit (7-t)
def iA(b:V)(n:Nat):Bool:=bt (ak b ((n-1)/8) (u8 0)) ((n-1)%8)
def hQ(b:V):List Nat:=(List.range (8*b.length+1)).filter λn=>Nat.ble 2 n&&iA b n
def pp(c:V)(a:Int):List Int×Int×Int×Unit:=
 if c.length<8\/(iA c 1=true/\c.length<16) then([],0,3,())
 else if iA c 1=true then
  (if 65∈hQ (c.take 16)\/∀n∈hQ (c.take 16),n<65 then([],0,2,()) else((hQ (c.take 16)).map Int.ofNat,a+16,0,()))
 else((hQ (c.take 8)).map Int.ofNat,a+8,0,())
def k8(b:V)(a:Int):List Int×Int×Int×Unit:=if a<0\/(b.length:Int)<a then([],0,1,()) else pp (b.drop a.toNat) a
def W8(x:cI):Option (List Int×Int×Int×Unit):=some (k8 x.1 x.2.1)
def tZ(x:f9):Option (de):=ci (bN (λ(ab:f9)=>T (aJ ab.2.1 x.2.1) (some (aE.nx (i64 (fg ab.1 10),i64 (av ab.2.1 1),()))) (some (aE.ex 0 (ab.1,ab.2.1,())))) (x.1,0,())) (λ(a:f9)=>none) (λ(i:Nat) (a:f9)=>am (bZ i 0) (some (dh a.1 10,()))) λ(r:de)=>some r
def z2(x:de):Option (aY):=letI b:=some (false,());ob (T (aJ x.1 0) (some (true,())) (some (aJ 999 x.1,()))) λ(a:aY)=>T a.1 b (ob (tZ (x.1,2,())) λ(a:de)=>ob (T (bE 1 a.1) (T (bE a.1 8) (ob (tZ (x.1,1,())) λ(a:de)=>T (bE a.1 4) (ob (tZ (x.1,0,())) λ(a:de)=>some (bE a.1 5,())) b) b) b) λ(a:aY)=>some (a.1,()))
def Ty(x:yh):Option (aY):=letI b:=some (false,());letI c:=x.1.2.2.2.2;ob (T (bE 1 c.1) (T (bE c.1 2147483647) (T (ag (len c.2.1) 8) (T (ag (len c.2.2.1) 3) (some (ag c.2.2.2.1 0,())) b) b) b) b) λ(a:aY)=>some (a.1,())
def Mo(x:yh):Option (aY):=letI b:=some (false,());letI c:=x.1.2.2.2.2;ob (T (ag c.1 0) (T (ag (len c.2.1) 0) (T (ag (len c.2.2.1) 0) (some (ag c.2.2.2.1 0,())) b) b) b) λ(a:aY)=>some (a.1,())
def Tx(x:yh):Option (aY):=letI b:=x.1.2.2.2.2;letI c:=some (false,());ob (T (bE 0 b.2.2.2.1) (T (bE b.2.2.2.1 999999) (ob (Mo ((x.1.1,x.1.2.1,x.1.2.2.1,x.1.2.2.2.1,b.1,b.2.1,b.2.2.1,0,b.2.2.2.2),())) λ(a:aY)=>some (a.1,())) c) c) λ(a:aY)=>some (a.1,())
def LS(x:wa):Option (aY):=letI c:=x.1.2.1;ci (bN (λ(ab:A8)=>letI b:=ab.2.2.1;T (aJ b (len c)) (am (aU b (len c)) (ob (T (bE (ak c (aa b) (0,aO UInt8,())).1 ab.2.1) (some (true,())) (ob (u6 ((ak c (aa b) (0,aO UInt8,())).1,(ak c (aa b) (0,aO UInt8,())).2.1,())) λ(a:aY)=>some (a_ a.1,()))) λ(a:aY)=>T a.1 (some (aE.rt (false,()))) (some (aE.nx (ab.1,(ak c (aa b) (0,aO UInt8,())).1,i64 (av b 1),()))))) (some (aE.ex 0 (ab.1,ab.2.1,b,())))) (false,0,0,())) (λ(a:A8)=>none) (λ(i:Nat) (a:A8)=>am (bZ i 0) (ob (z2 (x.1.1,())) λ(a:aY)=>some (a.1,()))) λ(r:aY)=>some r
def B7(x:IR):Option (aY):=some (seq x.1 x.2.1,())
def LT(x:(Int×V×Unit)×(Int×V×Unit)×Unit):Option (aY):=ob (T (ag x.1.1 x.2.1.1) (ob (B7 (x.1.2.1,x.2.1.2.1,())) λ(a:aY)=>some (a.1,())) (some (false,()))) λ(a:aY)=>some (a.1,())
def J9(x:s2):Option (aY):=letI d:=some (true,());ci (bN (λ(ab:A8)=>letI b:=ab.2.2.1;letI c:=ak x.1 (aa b) 0;T (aJ b (len x.1)) (am (aU b (len x.1)) (ob (T (bE c ab.2.1) d (T (aJ 128 c) d (some (ag c 65,())))) λ(a:aY)=>T a.1 (some (aE.rt (false,()))) (some (aE.nx (ab.1,ak x.1 (aa b) 0,i64 (av b 1),()))))) (some (aE.ex 0 (ab.1,ab.2.1,b,())))) (false,1,0,())) (λ(a:A8)=>none) (λ(i:Nat) (a:A8)=>am (bZ i 0) d) λ(r:aY)=>some r
def tw(x:de):Option (Vb):=letI b:=i64 (bi x.1 1);ob (T (aJ x.1 1) (some (true,())) (some (aJ 128 x.1,()))) λ(a:aY)=>T a.1 (some (0,u8 0,())) (am (bE 0 (dh b 8)) (some (i64 (fg b 8),u8 (fr IntKind.u8 (aI (u8 128)) (dh b 8)),())))
def J_(x:s2):Option (cI):=letI b:=len x.1;letI e:=bO (aa 16) (u8 0);letI h:=i64 (bi b 1);ob (J9 (x.1,())) λ(a:aY)=>T (a_ a.1) (some (aO UInt8,1,())) (am (cY (ca 0 8 8) (cz 1 (aa 8))) (ob (T (aJ 0 b) (am (aU h b) (some (aJ 64 (ak x.1 (aa h) 0),()))) (some (false,()))) λ(a:aY)=>T a.1 (am (cY (ca 0 16 16) (cz 1 (aa 16))) (am (aU 0 (len e)) (ci (bN (λ(ab:iG)=>letI f:=ab.2.1;T (aJ ab.1 b) (am (aU ab.1 b) (ob (tw (ak x.1 (aa ab.1) 0,())) λ(a:Vb)=>letI c:=aU a.1 (len f);am c (am c (some (aE.nx (i64 (av ab.1 1),cj f (aa a.1) (u8 (gM IntKind.u8 (aI (ak f (aa a.1) (u8 0))) (aI a.2.1))),())))))) (some (aE.ex 0 (ab.1,f,())))) (0,cj e (aa 0) (u8 128),())) (λ(a:iG)=>none) (λ(i:Nat) (a:iG)=>am (bZ i 0) (some (a.2.1,0,()))) λ(r:cI)=>some r))) (ci (bN (λ(ab:iG)=>letI g:=ab.2.1;T (aJ ab.1 b) (am (aU ab.1 b) (ob (tw (ak x.1 (aa ab.1) 0,())) λ(a:Vb)=>letI d:=aU a.1 (len g);am d (am d (some (aE.nx (i64 (av ab.1 1),cj g (aa a.1) (u8 (gM IntKind.u8 (aI (ak g (aa a.1) (u8 0))) (aI a.2.1))),())))))) (some (aE.ex 0 (ab.1,g,())))) (0,bO (aa 8) (u8 0),())) (λ(a:iG)=>none) (λ(i:Nat) (a:iG)=>am (bZ i 0) (some (a.2.1,0,()))) λ(r:cI)=>some r)))
def z7(x:wa):Option (cI):=letI b:=x.1.2.1;ob (LS (x.1,())) λ(a:aY)=>T (a_ a.1) (some (aO UInt8,1,())) (ob (mD (x.1.1,4,())) λ(a:cI)=>ob (tC (a.1,())) λ(a:cI)=>ci (bN (λ(ab:Vq)=>letI c:=ab.2.1;T (aJ c (len b)) (am (aU c (len b)) (am (cz 32 (bQ (aT ab.1) (aT [(ak b (aa c) (0,aO UInt8,())).1]))) (some (aE.nx (bv ab.1 [(ak b (aa c) (0,aO UInt8,())).1],i64 (av c 1),()))))) (some (aE.ex 0 (ab.1,c,())))) (aO Int,0,())) (λ(a:Vq)=>none) (λ(i:Nat) (a6:Vq)=>am (bZ i 0) (ob (J_ (a6.1,())) λ(bR:cI)=>am (cz 1 (bQ (aT a.1) (aT bR.1))) (ci (bN (λ(ab:cI)=>letI d:=ab.2.1;T (aJ d (len b)) (am (aU d (len b)) (ob (FY ((ak b (aa d) (0,aO UInt8,())).1,(ak b (aa d) (0,aO UInt8,())).2.1,())) λ(a:cI)=>am (cz 1 (bQ (aT ab.1) (aT a.1))) (some (aE.nx (bv ab.1 a.1,i64 (av d 1),()))))) (some (aE.ex 2 (ab.1,d,())))) (bv a.1 bR.1,0,())) (λ(a:cI)=>none) (λ(i:Nat) (a:cI)=>am (bZ i 2) (some (a.1,0,()))) λ(r:cI)=>some r))) λ(r:cI)=>some r)
def LR(x:de):Option (kk):=ob (tZ (x.1,1,())) λ(a:de)=>ob (z2 (x.1,())) λ(a6:aY)=>ob (T (a_ a6.1) (some (true,())) (T (a_ (ag a.1 0)) (some (a_ (ag a.1 2),())) (some (false,())))) λ(a:aY)=>T a.1 (some (0,false,())) (some (i64 (av x.1 10),true,()))
def NF(x:List (Int×V×Unit)×List (Int×V×Unit)×Nat×Unit):Option (aY):=letI c:=len x.1;T (a_ (ag c (len x.2.1))) (some (false,())) (ci (bN (λ(ab:eH)=>letI b:=ab.2.1;T (aJ b c) (am (aU b c) (am (aU b (len x.2.1)) (am (bZ x.2.2.1 1) (ob (LT (ak x.1 (aa b) (0,aO UInt8,()),ak x.2.1 (aa b) (0,aO UInt8,()),())) λ(a:aY)=>T (a_ a.1) (some (aE.rt (false,()))) (some (aE.nx (ab.1,i64 (av b 1),()))))))) (some (aE.ex 0 (ab.1,b,())))) (false,0,())) (λ(a:eH)=>none) (λ(i:Nat) (a:eH)=>am (bZ i 0) (some (true,()))) λ(r:aY)=>some r)
def G'(x:(Int×List (Int×V×Unit)×Unit)×(Int×List (Int×V×Unit)×Unit)×Unit):Option (aY):=ob (T (ag x.1.1 x.2.1.1) (ob (NF (x.1.2.1,x.2.1.2.1,1,())) λ(a:aY)=>some (a.1,())) (some (false,()))) λ(a:aY)=>some (a.1,())
def G_(x:de):Option (de):=ob (z2 (x.1,())) λ(a:aY)=>T (a_ a.1) (some (0,())) (ob (tZ (x.1,2,())) λ(a:de)=>some (a.1,()))
def LW(x:Vl):Option (de):=some (x.1.1,())
def C5(x:c?):Option (mn):=ob (w1 (x.1,0,4,())) λ(a:s5)=>T (a_ (ag a.2.2.1 0)) (some ((0,aO (Int×V×Unit),()),a.2.2.1,())) (ob (r8 (a.1,())) λ(a6:f9)=>ob (z2 (a6.1,())) λ(bR:aY)=>T (a_ bR.1) (some ((0,aO (Int×V×Unit),()),2,())) (ob (W8 (x.1,a.2.1,())) λ(a:List Int×Int×Int×Unit)=>letI c:=len a.1;T (a_ (ag a.2.2.1 0)) (some ((0,aO (Int×V×Unit),()),a.2.2.1,())) (ci (bN (λ(x:f9)=>letI f:=x.2.1;T (aJ f c) (am (aU f c) (ob (u7 (ak a.1 (aa f) 0,())) λ(a:Bc)=>T (a_ a.2.1) (some (aE.rt ((0,aO (Int×V×Unit),()),2,()))) (some (aE.nx (x.1,i64 (av f 1),()))))) (some (aE.ex 0 (x.1,f,())))) (0,0,())) (λ(a:f9)=>none) (λ(i:Nat) (bS:f9)=>am (bZ i 0) (ci (bN (λ(ab:agK)=>letI b:=ab.2.2;letI e:=b.2.1;T (aJ b.1 c) (am (aU b.1 c) (ob (KX (ak a.1 (aa b.1) 0,x.1,ab.2.1,())) λ(dm:s5)=>letI d:=(ak a.1 (aa b.1) 0,dm.1,());T (a_ (ag dm.2.2.1 0)) (some (aE.rt ((0,aO (Int×V×Unit),()),dm.2.2.1,()))) (am (cz 56 (bQ (aT e.2.1) (aT [d]))) (some (aE.nx (ab.1,dm.2.1,i64 (av b.1 1),(e.1,bv e.2.1 [d],e.2.2),())))))) (some (aE.ex 2 (ab.1,ab.2.1,b.1,(e.1,e.2.1,e.2.2),())))) (bS.1,a.2.1,0,(a6.1,aO (Int×V×Unit),()),())) (λ(a:agK)=>none) (λ(i:Nat) (a:Int×Int×Int × (Int×List (Int×V×Unit)×Unit)×Unit)=>letI g:=a.2.2.2.1;am (bZ i 2) (T (aJ a.2.1 (len x.1)) (some ((0,aO (Int×V×Unit),()),4,())) (some ((g.1,g.2.1,g.2.2),0,())))) λ(r:mn)=>some r)) λ(r:mn)=>some r)))
def LV(x:wa):Option (Vf):=some ((x.1.2.1,1,()),())
def Ha(x:(List (Int×V×Unit)×Nat×Unit)×Int×Unit):Option (kk):=ci (bN (λ(ab:Vm)=>letI b:=ab.2.2.1;T (aJ b (len x.1.1)) (am (aU b (len x.1.1)) (am (bZ x.1.2.1 1) (ob (LW (ak x.1.1 (aa b) (0,aO UInt8,()),())) λ(a:de)=>T (bE x.2.1 a.1) (some (aE.rt (b,ag a.1 x.2.1,()))) (some (aE.nx (ab.1,ab.2.1,i64 (av b 1),())))))) (some (aE.ex 0 (ab.1,ab.2.1,b,())))) (0,false,0,())) (λ(a:Vm)=>none) (λ(i:Nat) (a:Vm)=>am (bZ i 0) (some (len x.1.1,false,()))) λ(r:kk)=>some r
def NE(x:List (List (Int×V×Unit))×Unit):Option (qR):=letI c:=aO (Int×V×Unit);letI d:=len x.1;ci (bN (λ(ab:f9)=>letI h:=ab.2.1;letI e:=av ab.1 (len (ak x.1 (aa h) c));T (aJ h d) (am (aU h d) (T (aJ (i64 e) 0) none (some (aE.nx (i64 e,i64 (av h 1),()))))) (some (aE.ex 0 (ab.1,h,())))) (0,0,())) (λ(a:f9)=>none) (λ(i:Nat) (a:f9)=>letI b:=i64 (bi a.1 (i64 (bi 0 0)));am (bZ i 0) (T (aJ a.1 0) none (T (aJ 0 b) (am (ca 0 0 0) (am (cY (bE 0 b) (cz 56 (aa b))) (am (ca 0 0 (len (bO (aa b) (0,aO UInt8,())))) (ci (bN (λ(ab:Er)=>letI f:=ab.2.1;letI j:=ak x.1 (aa f) c;T (aJ f d) (am (aU f d) (am (cz 56 (bQ (aT ab.1) (aT j))) (some (aE.nx (bv ab.1 j,i64 (av f 1),()))))) (some (aE.ex 2 (ab.1,f,())))) (cut (bO (aa b) (0,aO UInt8,())) (aa 0) (cd (aa 0) (aa 0)),0,())) (λ(a:Er)=>none) (λ(i:Nat) (a:Er)=>am (bZ i 2) (some (a.1,()))) λ(r:qR)=>some r)))) (ci (bN (λ(ab:Er)=>letI g:=ab.2.1;letI k:=ak x.1 (aa g) c;T (aJ g d) (am (aU g d) (am (cz 56 (bQ (aT ab.1) (aT k))) (some (aE.nx (bv ab.1 k,i64 (av g 1),()))))) (some (aE.ex 2 (ab.1,g,())))) (aO (Int×V×Unit),0, ())) (λ(a:Er)=>none) (λ(i:Nat) (a:Er)=>am (bZ i 2) (some (a.1,()))) λ(r:qR)=>some r)))) λ(r:qR)=>some r
def SV(x:(List (Int×V×Unit)×Nat×Unit)×(Int×V×Unit)×Unit):Option (qR):=letI b:=len x.1.1;am (bZ x.1.2.1 1) (ob (LW (x.2.1,())) λ(a:de)=>ob (Ha (x.1,a.1,())) λ(a:kk)=>ob (T a.2.1 (some (i64 (av a.1 1),())) (some (a.1,()))) λ(a6:de)=>am (ca 0 a.1 b) (am (ca a6.1 b b) (ob (NE ([sub x.1.1 0 a.1,[x.2.1],sub x.1.1 a6.1 b],())) λ(a:qR)=>some (a.1,()))))
def jS(x:(Int×List (Int×V×Unit)×Unit)×Int×V×Unit):Option (mn):=ob (u7 (x.2.1,())) λ(a:Bc)=>T (a_ a.2.1) (some (x.1,12,())) (ob (u6 (x.2.1,x.2.2.1,())) λ(a:aY)=>T (a_ a.1) (some (x.1,1,())) (ob (LV (x.1,())) λ(a:Vf)=>ob (SV (a.1,(x.2.1,x.2.2.1,()),())) λ(a:qR)=>some ((x.1.1,a.1,x.1.2.2),0,())))
def qz(x:mn):Option (p2):=ob (LV (x.1,())) λ(a:Vf)=>ob (Ha (a.1,x.2.1,())) λ(a:kk)=>T (a_ a.2.1) (some (aO UInt8,false,())) (am (aU a.1 (len x.1.2.1)) (some ((ak x.1.2.1 (aa a.1) (0,aO UInt8,())).2.1,true,())))
def TA(x:yh):Option (aY):=some (false,())
def Tz(x:yh):Option (Nat×Unit):=letI b:=some (true,());letI c:=x.1.2.1;letI d:=some (x.1.1,());letI e:=some (false,());ob (T (ag c 101) d e) λ(a:aY)=>T a.1 (some (1,())) (ob (T (ag c 201) d e) λ(a:aY)=>T a.1 (some (2,())) (ob (T (ag c 1) b (T (ag c 2) b (T (ag c 101) b (T (ag c 201) b (some (ag c 301,())))))) λ(a:aY)=>T a.1 (some (3,())) (some (4,()))))
def HG(x:yh):Option (aY):=letI b:=some (true,());letI c:=x.1.2.2;letI e:=some (false,());ob (T (aJ c.1 1) b (T (aJ 999999 c.1) b (T (aJ c.2.1 0) b (T (aJ 99 c.2.1) b (T x.1.1 (some (aJ 0 c.2.1,())) e))))) λ(a:aY)=>T a.1 e (ob (Tz (x.1,())) λ(a:Nat×Unit)=>letI d:=cd a.1 1;T (bZ a.1 1) (ob (Ty (x.1,())) λ(a:aY)=>some (a.1,())) (T (bZ d 1) (ob (Tx (x.1,())) λ(a:aY)=>some (a.1,())) (T (bZ (cd d 1) 1) (ob (Mo (x.1,())) λ(a:aY)=>some (a.1,())) (am (bZ (cd (cd d 1) 1) 1) (ob (TA (x.1,())) λ(a:aY)=>some (a.1,()))))))
def qG(x:f9):Option (c?):=ob (mD (x.1,x.2.1,())) λ(a:cI)=>am (cz 1 (aT a.1)) (some (a.1,()))
def Ds(x:yh):Option (wa):=letI b:=x.1.2;letI c:=b.2.2.2;ob (qG (b.2.1,6,())) λ(a:c?)=>ob (jS ((810,aO (Int×V×Unit),()),11,a.1,())) λ(a:mn)=>ob (qG (b.1,3,())) λ(a6:c?)=>ob (jS (a.1,70,a6.1,())) λ(a:mn)=>T (a_ x.1.1) (ob (qG (b.2.2.1,2,())) λ(bR:c?)=>ob (jS (a.1,39,bR.1,())) λ(a:mn)=>some (a.1,())) (T (ag b.1 101) (ob (Cg (c.2.2.1,())) λ(bR:c?)=>am (cz 1 (aT bR.1)) (ob (jS ((800,a.1.2),48,bR.1,())) λ(a:mn)=>ob (qG (c.1,16,())) λ(bS:c?)=>ob (jS (a.1,53,bS.1,())) λ(a:mn)=>ob (jS (a.1,96,c.2.1,())) λ(a:mn)=>some (a.1,()))) (T (ag b.1 201) (ob (qG (c.2.2.2.1,6,())) λ(bR:c?)=>ob (jS ((800,a.1.2),15,bR.1,())) λ(a:mn)=>some (a.1,())) (some ((800,a.1.2),()))))
def pP(x:yh):Option (cI):=ob (HG (x.1,())) λ(a:aY)=>T (a_ a.1) (some (aO UInt8,1,())) (ob (Ds (x.1,())) λ(a:wa)=>ob (z7 (a.1,())) λ(a:cI)=>some (a.1,a.2.1,()))
def qF(x:VH):Option (VH):=T (a_ x.1.1) (some ((false,0,0,0,0,aO UInt8,aO UInt8,0,()),9,())) (ob (T (aJ x.2.1 0) (some (true,())) (some (aJ 99 x.2.1,()))) λ(a:aY)=>T a.1 (some ((false,0,0,0,0,aO UInt8,aO UInt8,0,()),1,())) (some ((false,x.1.2.1,x.1.2.2.1,x.2.1,0,aO UInt8,aO UInt8,0,()),0,())))
def Dr(x:c?):Option (VH):=ob (C5 (x.1,())) λ(a:mn)=>T (a_ (ag a.2.1 0)) (some ((false,0,0,0,0,aO UInt8,aO UInt8,0,()),a.2.1,())) (ob (qz (a.1,70,())) λ(a6:p2)=>ob (r8 (a6.1,())) λ(bR:f9)=>ob (qz (a.1,11,())) λ(bS:p2)=>ob (r8 (bS.1,())) λ(dm:f9)=>ob (qz (a.1,39,())) λ(j4:p2)=>ob (r8 (j4.1,())) λ(oA:f9)=>ob (qz (a.1,53,())) λ(l1:p2)=>ob (r8 (l1.1,())) λ(uU:f9)=>ob (qz (a.1,15,())) λ(y0:p2)=>ob (r8 (y0.1,())) λ(r2:f9)=>ob (qz (a.1,96,())) λ(yZ:p2)=>ob (qz (a.1,48,())) λ(ais:p2)=>ob (Ch (ais.1,())) λ(O9:cI)=>letI b:=(ag a.1.1 800,bR.1,dm.1,oA.1,uU.1,yZ.1,O9.1,r2.1,());ob (HG (b,())) λ(ait:aY)=>T (a_ ait.1) (some ((false,0,0,0,0,aO UInt8,aO UInt8,0,()),2,())) (ob (Ds (b,())) λ(O_:wa)=>ob (G' (O_.1,a.1,())) λ(O':aY)=>T (a_ O'.1) (some ((false,0,0,0,0,aO UInt8,aO UInt8,0,()),2,())) (some (b,0,()))))
end Yp
namespace Yp
abbrev fc:=(Int×V×Unit)×(Int×V×Unit)×(Int×V×Unit)×Int×Int×Unit
abbrev eO:=List Bool×List (V×Int×Int×Unit)×List Int×Int×Unit
abbrev fm:=Bool×List (V×V×Unit)×Bool×Unit
abbrev eS:=Int×Int×Int×Int×V×Unit
abbrev d1:=Bool×Int×Int×Int×Int×V×V×Int×Unit
abbrev dr:=Int×Int×List Int×Int×Int×V×V×Unit
abbrev qc:=Int×V×Int×(V×V×Unit)×Int×Int×Int×Int×Int×(Int×List UInt64×Unit)×fc×eS×Int×Int×List V×eO×List (Int×V×Unit)×List (Int×List Int×Int×V×Unit)×List Int×Unit
abbrev e6:=qc×fm×Unit
end Yp
namespace Yp
abbrev Bz:List UInt64:=[u64 0,u64 0,u64 0,u64 0,u64 0,u64 0,u64 0,u64 0,u64 0,u64 0,u64 0,u64 0,u64 0,u64 0,u64 0,u64 0]
abbrev yB:V×Int×Int×Unit:=(aO UInt8,0,0,())
abbrev We:eO:=([false,false,false,false],[yB,yB,yB,yB],[0,0,0,0],0,())
abbrev j0:Int×V×Unit:=(0,aO UInt8,())
abbrev ED:fc:=(j0,j0,j0,0,0,())
abbrev ol:eS:=(0,0,0,0,aO UInt8,())
abbrev p8:qc:=(0,aO UInt8,0,(aO UInt8,aO UInt8,()),0,0,0,0,0,(0,Bz,()),ED,ol,0,0,aO V,We,aO (Int×V×Unit),aO (Int×List Int×Int×V×Unit),[0,0,0,0],())
abbrev fG:Int×Int×V×Unit:=(0,0,aO UInt8,())
abbrev nB:dr:=(0,0,[0,0],0,0,aO UInt8,aO UInt8,())
end Yp
namespace Yp
abbrev bK:=e6×Unit
abbrev e7:=e6×Int×Unit
abbrev q2:=d1×Int×Unit
abbrev EV:=((qc×Unit)×e6×Unit)×Unit
abbrev ti:=fc×Int×Unit
abbrev WE:=qc×List (Int×V×Unit)×List (Int×List Int×Int×V×Unit)×Unit
abbrev wH:=e6×d1×Unit
abbrev uS:=eO×Int×Unit
abbrev tj:=fc×Unit
abbrev BK:=Int×e6×Unit
abbrev BL:=e6×V×Unit
abbrev JH:=e6×Int×Int×Unit
abbrev OT:=eS×Bool×Bool×Unit
abbrev OU:=eO×Int×Int×Unit
abbrev OV:=fm×Bool×Unit
abbrev EW:=qc×Unit
end Yp
namespace Yp
open Go
def Kb(x:c?):Option (c?):=am (cz 1 (aT x.1)) (some (x.1,()))
def agl(x:IU):Option (IU):=am (cz 32 (aT x.1)) (some (x.1,()))
def HZ(x:fm×V×V×Unit):Option (aY):=some (x.1.2.1.any λe=>cY (seq x.2.1 e.1) (seq x.2.2.1 e.2.1),())
def H1(x:List V×List V×Int×Unit):Option (List V×Int×Int×Unit):=if x.2.2.1<1\/64<x.2.2.1 then some (x.1,0,1,()) else if x.2.2.1<(x.1.length:Int) then some (x.1,0,0,()) else some (x.1++x.2.1.take (x.2.2.1.toNat-x.1.length),((min (x.2.2.1.toNat-x.1.length) x.2.1.length:Nat):Int),0,())
def Ac(x:Int×List Int×Unit):Option (aY):=letI d:=some (true,());ci (bN (λ(ab:eH)=>letI b:=ab.2.1;letI c:=ak x.2.1 (aa b) 0;T (aJ b (len x.2.1)) (am (aU b (len x.2.1)) (ob (T (aJ c 0) d (some (aJ x.1 c,()))) λ(a:aY)=>T a.1 (some (aE.rt (false,()))) (some (aE.nx (ab.1,i64 (av b 1),()))))) (some (aE.ex 0 (ab.1,b,())))) (false,0,())) (λ(a:eH)=>none) (λ(i:Nat) (a:eH)=>am (bZ i 0) d) λ(r:aY)=>some r
def nn(x:EW):Option (s2):=letI b:=i64 (bi 1 x.1.1);ob (Ac (1,[x.1.1],())) λ(a:aY)=>T a.1 (am (aU x.1.1 (bf 2)) (am (aU b (bf 2)) (some (cj (cj [0,0] (aa x.1.1) x.1.2.2.2.2.2.1) (aa b) x.1.2.2.2.2.2.2.1,())))) (some ([0,0],()))
def Hm(x:c?):Option (aY):=ob (T (bE 1 (len x.1)) (some (bE (len x.1) 900,())) (some (false,()))) λ(a:aY)=>some (a.1,())
def AC(x:de):Option (de):=T (ag x.1 0) (some (0,())) (T (ag x.1 1) (some (1,())) (T (ag x.1 2) (some (2,())) (T (ag x.1 3) (some (3,())) (T (ag x.1 4) (T (ag x.1 4) (some (4,())) (T (ag x.1 6) (some (5,())) (some (-1,())))) (T (ag x.1 5) (some (4,())) (T (ag x.1 6) (some (5,())) (some (-1,()))))))))
def uk(x:de):Option (aY):=ob (AC (x.1,())) λ(a:de)=>some (bE 2 a.1,())
def SF(x:eO×Unit):Option (OU):=ci (bN (λ(ab:Ed)=>letI c:=ab.2.2.1;letI b:=i64 (av x.1.2.2.2.1 c);letI d:=dh b 4;T (aJ c 4) (am (aU d (bf 4)) (T (ak x.1.1 (aa d) false) (some (aE.rt ((x.1.1,x.1.2.1,x.1.2.2.1,dh (i64 (av d 1)) 4,x.1.2.2.2.2),dh b 4,0,()))) (some (aE.nx (ab.1,ab.2.1,i64 (av c 1),()))))) (some (aE.ex 0 (ab.1,ab.2.1,c,())))) (0,0,0,())) (λ(a:Ed)=>none) (λ(i:Nat) (a:Ed)=>am (bZ i 0) (some (x.1,0,11,()))) λ(r:OU)=>some r
def Co(x:f9):Option (aY):=ob (T (bE 0 x.1) (some (bE x.1 x.2.1,())) (some (false,()))) λ(a:aY)=>some (a.1,())
def FP(x:dr×Unit):Option (aY):=letI b:=some (false,());letI c:=x.1.2.2;letI e:=len c.2.2.2.1;ob (T (a_ (ag x.1.1 1)) (some (a_ (ag x.1.1 2),())) b) λ(a:aY)=>T a.1 b (am (aU 0 (bf 2)) (am (aU 1 (bf 2)) (ci (bN (λ(ab:eH)=>letI d:=ab.2.1;T (aJ d 3) (am (aU d (bf 3)) (ob (Co (ak [ak c.1 (aa 0) 0,ak c.1 (aa 1) 0,c.2.2.1] (aa d) 0,4611686018427387904,())) λ(a:aY)=>T (a_ a.1) (some (aE.rt (false,()))) (some (aE.nx (ab.1,i64 (av d 1),()))))) (some (aE.ex 0 (ab.1,d,())))) (false,0,())) (λ(a:eH)=>none) (λ(i:Nat) (a:eH)=>am (bZ i 0) (ob (Co (x.1.2.1,1,())) λ(a:aY)=>ob (T a.1 (ob (Co (c.2.1,2147483647,())) λ(a:aY)=>T a.1 (T (bE 1 e) (some (bE e 900,())) b) b) b) λ(a:aY)=>some (a.1,()))) λ(r:aY)=>some r)))
def w4(x:dr×Unit):Option (cI):=letI b:=x.1.2.2;letI c:=len [ak b.1 (aa 0) 0,ak b.1 (aa 1) 0];letI d:=len [x.1.1,x.1.2.1];letI e:=b.2.2;letI f:=len [b.2.1];ob (FP (x.1,())) λ(a:aY)=>T (a_ a.1) (some (aO UInt8,1,())) (ci (bN (λ(ab:iG)=>T (aJ ab.1 d) (am (aU ab.1 d) (ob (pu (ak [x.1.1,x.1.2.1] (aa ab.1) 0,1,())) λ(a:cI)=>am (cz 1 (bQ (aT ab.2.1) (aT a.1))) (some (aE.nx (i64 (av ab.1 1),bv ab.2.1 a.1,()))))) (some (aE.ex 0 (ab.1,ab.2.1,())))) j0) (λ(a:iG)=>none) (λ(i:Nat) (a:iG)=>am (bZ i 0) (am (aU 0 (bf 2)) (am (aU 1 (bf 2)) (ci (bN (λ(ab:iG)=>T (aJ ab.1 c) (am (aU ab.1 c) (ob (pu (ak [ak b.1 (aa 0) 0,ak b.1 (aa 1) 0] (aa ab.1) 0,8,())) λ(a:cI)=>am (cz 1 (bQ (aT ab.2.1) (aT a.1))) (some (aE.nx (i64 (av ab.1 1),bv ab.2.1 a.1,()))))) (some (aE.ex 0 (ab.1,ab.2.1,())))) (0,a.2.1,())) (λ(a:iG)=>none) (λ(i:Nat) (a:iG)=>am (bZ i 0) (ci (bN (λ(ab:iG)=>T (aJ ab.1 f) (am (aU ab.1 f) (ob (pu (ak [b.2.1] (aa ab.1) 0,4,())) λ(a:cI)=>am (cz 1 (bQ (aT ab.2.1) (aT a.1))) (some (aE.nx (i64 (av ab.1 1),bv ab.2.1 a.1,()))))) (some (aE.ex 0 (ab.1,ab.2.1,())))) (0,a.2.1,())) (λ(a:iG)=>none) (λ(i:Nat) (a:iG)=>am (bZ i 0) (ci (bN (λ(ab:iG)=>T (aJ ab.1 (len [e.1])) (am (aU ab.1 (len [e.1])) (ob (pu (ak [e.1] (aa ab.1) 0,8,())) λ(a:cI)=>am (cz 1 (bQ (aT ab.2.1) (aT a.1))) (some (aE.nx (i64 (av ab.1 1),bv ab.2.1 a.1,()))))) (some (aE.ex 0 (ab.1,ab.2.1,())))) (0,a.2.1,())) (λ(a:iG)=>none) (λ(i:Nat) (a:iG)=>am (bZ i 0) (am (cz 1 (bQ (aT a.2.1) (aT e.2.1))) (some (bv a.2.1 e.2.1,0,())))) λ(r:Unit)=>none)) λ(r:Unit)=>none)) λ(r:Unit)=>none)))) λ(r:Unit)=>none)
def De(x:IR):Option (aY):=letI c:=len x.1;T (a_ (ag c (len x.2.1))) (some (false,())) (ci (bN (λ(ab:Vc)=>letI b:=ab.2.1;T (aJ b c) (am (aU b c) (am (aU b (len x.2.1)) (some (aE.nx (u8 (gM IntKind.u8 (aI ab.1) (aI (u8 (fA IntKind.u8 (aI (ak x.1 (aa b) (u8 0))) (aI (ak x.2.1 (aa b) (u8 0))))))),i64 (av b 1),()))))) (some (aE.ex 0 (ab.1,b,())))) (u8 0,0,())) (λ(a:Vc)=>none) (λ(i:Nat) (a:Vc)=>am (bZ i 0) (some (ag (aI a.1) (aI (u8 0)),()))) λ(r:aY)=>some r)
def NC(x:Vj):Option (Vj):=letI a:=len x.1;am (cY (ca 0 a a) (ag a a)) (some (sub x.1 0 a,()))
def kC(x:UInt32×Int×Unit):Option (s3):=letI a:=cB (u64 (iI IntKind.u64 (cB (u64 x.2.1)) (cB (u64 31))));some (u32 (gM IntKind.u32 (aS (u32 (ho IntKind.u32 (aS x.1) a))) (aS (u32 (fr IntKind.u32 (aS x.1) (cB (u64 (bi (cB (u64 32)) a))))))),())
def Nq(x:c?):Option (Vd):=letI f:=len x.1;ci (bN (λ(ab:wc)=>letI b:=i64 (e? 4 ab.1);letI c:=i64 (bi ab.1 15);letI d:=ab.2.1;letI e:=i64 (bi ab.1 2);letI g:=i64 (bi ab.1 16);letI h:=aU ab.1 (bf 64);letI j:=i64 (bi ab.1 7);letI k:=i64 (av b 1);letI l:=i64 (av b 2);letI m:=i64 (av b 3);T (aJ ab.1 64) (T (aJ ab.1 16) (am (aU b f) (am (aU k f) (am (aU l f) (am (aU m f) (am h (some (aE.nx (i64 (av ab.1 1),cj d (aa ab.1) (u32 (gM IntKind.u32 (aS (u32 (gM IntKind.u32 (aS (u32 (gM IntKind.u32 (aS (u32 (ho IntKind.u32 (aS (u32 (aI (ak x.1 (aa b) (u8 0))))) (cB (u64 24))))) (aS (u32 (ho IntKind.u32 (aS (u32 (aI (ak x.1 (aa k) (u8 0))))) (cB (u64 16)))))))) (aS (u32 (ho IntKind.u32 (aS (u32 (aI (ak x.1 (aa l) (u8 0))))) (cB (u64 8)))))))) (aS (u32 (aI (ak x.1 (aa m) (u8 0))))))),())))))))) (am (aU c (bf 64)) (am (aU e (bf 64)) (ob (kC (ak d (aa c) (u32 0), -7,())) λ(a:s3)=>ob (kC (ak d (aa c) (u32 0), -18,())) λ(a6:s3)=>ob (kC (ak d (aa e) (u32 0), -17,())) λ(bR:s3)=>ob (kC (ak d (aa e) (u32 0), -19,())) λ(bS:s3)=>am (aU j (bf 64)) (am (aU g (bf 64)) (am h (some (aE.nx (i64 (av ab.1 1),cj d (aa ab.1) (u32 (av (aS (u32 (av (aS (u32 (av (aS (u32 (fA IntKind.u32 (aS (u32 (fA IntKind.u32 (aS bR.1) (aS bS.1)))) (aS (u32 (fr IntKind.u32 (aS (ak d (aa e) (u32 0))) (cB (u64 10)))))))) (aS (ak d (aa j) (u32 0)))))) (aS (u32 (fA IntKind.u32 (aS (u32 (fA IntKind.u32 (aS a.1) (aS a6.1)))) (aS (u32 (fr IntKind.u32 (aS (ak d (aa c) (u32 0))) (cB (u64 3))))))))))) (aS (ak d (aa g) (u32 0))))),()))))))))) (some (aE.ex 0 (ab.1,d,())))) (0,[u32 0,u32 0,u32 0,u32 0,u32 0,u32 0,u32 0,u32 0,u32 0,u32 0,u32 0,u32 0,u32 0,u32 0,u32 0,u32 0,u32 0,u32 0,u32 0,u32 0,u32 0,u32 0,u32 0,u32 0,u32 0,u32 0,u32 0,u32 0,u32 0,u32 0,u32 0,u32 0,u32 0,u32 0,u32 0,u32 0,u32 0,u32 0,u32 0,u32 0,u32 0,u32 0,u32 0,u32 0,u32 0,u32 0,u32 0,u32 0,u32 0,u32 0,u32 0,u32 0,u32 0,u32 0,u32 0,u32 0,u32 0,u32 0,u32 0,u32 0,u32 0,u32 0,u32
 0,u32 0],())) (λ(a:wc)=>none) (λ(i:Nat) (a:wc)=>am (bZ i 0) (some (a.2.1,()))) λ(r:Vd)=>some r
def Np(x:List UInt32×V×Unit):Option (IP):=letI l:=aU 4 (bf 8);letI p:=aU 0 (bf 8);letI q:=aU 1 (bf 8);letI s:=aU 2 (bf 8);T (a_ (ag (len x.2.1) 64)) (some (x.1,1,())) (ob (Nq (x.2.1,())) λ(a:Vd)=>ci (bN (λ(x:wc)=>letI n:=aa x.1;letI c:=x.2.1;letI d:=dU c (aa 1) (cd (aa (bf 8)) (aa 1)) (cut c (aa 0) (cd (aa 7) (aa 0)));letI e:=aS (ak a.1 n (u32 0));letI g:=aS (ak c (aa 4) (u32 0));letI h:=aS (ak c (aa 0) (u32 0));letI j:=aS (ak c (aa 1) (u32 0));letI k:=aS (ak c (aa 2) (u32 0));letI m:=aU x.1 (bf 64);T (aJ x.1 64) (am m (am p (am l (ob (kC (ak c (aa 4) (u32 0), -6,())) λ(a6:s3)=>ob (kC (ak c (aa 4) (u32 0), -11,())) λ(bR:s3)=>ob (kC (ak c (aa 4) (u32 0), -25,())) λ(bS:s3)=>letI b:=aS (u32 (av (aS (u32 (av (aS (ak c (aa 7) (u32 0))) (aS (u32 (fA IntKind.u32 (aS (u32 (fA IntKind.u32 (aS a6.1) (aS bR.1)))) (aS bS.1))))))) (aS (u32 (fA IntKind.u32 (aS (u32 (iI IntKind.u32 g (aS (ak c (aa 5) (u32 0)))))) (aS (u32 (iI IntKind.u32 (aS (u32 (fA IntKind.u32 4294967295 g))) (aS (ak c (aa 6) (u32 0)))))))))));ob (kC (ak c (aa 0) (u32 0), -2,())) λ(dm:s3)=>ob (kC (ak c (aa 0) (u32 0), -13,())) λ(j4:s3)=>ob (kC (ak c (aa 0) (u32 0), -22,())) λ(oA:s3)=>am (aU 7 (bf 8)) (am (aU 5 (bf 8)) (am (aU 6 (bf 8)) (am m (am q (am s (am q (am s (am (ca 1 (bf 8) (bf 8)) (am (ca 0 7 (bf 8)) (am l (am l (am p (some (aE.nx (i64 (av x.1 1),cj (cj d (aa 4) (u32 (av (aS (ak d (aa 4) (u32 0))) (aS (u32 (av (aS (u32 (av b (aS (ak (ak [pK] 0 [u32 0,u32 0,u32 0,u32 0,u32 0,u32 0,u32 0, u32 0,u32 0,u32 0,u32 0,u32 0,u32 0,u32 0,u32 0,u32 0,u32 0,u32 0,u32 0,u32 0,u32 0,u32 0,u32 0,u32 0,u32 0,u32 0,u32 0,u32 0,u32 0,u32 0,u32 0,u32 0,u32 0,u32 0,u32 0,u32 0,u32 0,u32 0,u32 0,u32 0,u32 0,u32 0,u32 0,u32 0,u32 0,u32 0,u32 0,u32 0,u32 0,u32 0,u32 0,u32 0,u32 0,u32 0,u32 0,u32 0,u32 0,u32 0,u32 0,u32 0,u32 0,u32 0,u32 0,u32 0]) n (u32 0)))))) e)))))) (aa 0) (u32 (av (aS (u32 (av (aS (u32 (av b (aS (ak (ak [pK] 0 [u32 0,u32 0,u32 0,u32
 0,u32 0,u32 0,u32 0,u32 0,u32 0,u32 0,u32 0,u32 0,u32 0,u32 0,u32 0,u32 0,u32 0,u32 0,u32 0,u32 0,u32 0,u32 0,u32 0,u32 0,u32 0,u32 0,u32 0,u32 0,u32 0,u32 0,u32 0,u32 0,u32 0,u32 0,u32 0,u32 0,u32 0,u32 0,u32 0,u32 0,u32 0,u32 0,u32 0,u32 0,u32 0,u32 0,u32 0,u32 0,u32 0,u32 0,u32 0,u32 0,u32 0,u32 0,u32 0,u32 0,u32 0,u32 0,u32 0,u32 0,u32 0,u32 0,u32 0,u32 0]) n (u32 0)))))) e))) (aS (u32 (av (aS (u32 (fA IntKind.u32 (aS (u32 (fA IntKind.u32 (aS dm.1) (aS j4.1)))) (aS oA.1)))) (aS (u32 (fA IntKind.u32 (aS (u32 (fA IntKind.u32 (aS (u32 (iI IntKind.u32 h j))) (aS (u32 (iI IntKind.u32 h k)))))) (aS (u32 (iI IntKind.u32 j k))))))))))),()))))))))))))))))))) (some (aE.ex 0 (x.1,c,())))) (0,x.1,())) (λ(a:wc)=>none) (λ(i:Nat) (a:wc)=>am (bZ i 0) (ci (bN (λ(x:wc)=>letI f:=aU x.1 (bf 8);letI o:=aa x.1;T (aJ x.1 8) (am f (am f (am f (some (aE.nx (i64 (av x.1 1),cj x.2.1 o (u32 (av (aS (ak x.2.1 o (u32 0))) (aS (ak a.2.1 o (u32 0))))),())))))) (some (aE.ex 2 (x.1,x.2.1,())))) (0,x.1,())) (λ(a:wc)=>none) (λ(i:Nat) (a:wc)=>am (bZ i 2) (some (a.2.1,0,()))) λ(r:IP)=>some r)) λ(r:IP)=>some r)
def x9(x:(List UInt32×Int×V×Unit)×V×Unit):Option (rH):=letI h:=x.1.2;letI f:=len x.2.1;letI d:=len h.2.1;letI c:=i64 (av d f);letI g:=bO (aa c) (u8 0);letI b:=dU g 0 (aT g) h.2.1;T (aJ (i64 (bi 1125899906842624 h.1)) f) (some (x.1,())) (am (cY (ca 0 c c) (cz 1 (aa c))) (am (ca d (len b) (len b)) (ci (bN (λ(x:Vg)=>letI e:=len x.1;T (bE 64 e) (am (ca 0 64 e) (ob (Np (x.2.1.1,cut x.1 (aa 0) (cd (aa 64) (aa 0)),())) λ(a:IP)=>am (ca 64 e e) (some (aE.nx (cut x.1 (aa 64) (cd (aa e) (aa 64)),(a.1,x.2.1.2),()))))) (some (aE.ex 0 (x.1,x.2.1,())))) (dU b (aa d) (cd (aa (len b)) (aa d)) x.2.1,(x.1.1,i64 (av h.1 f),h.2),())) (λ(a:Vg)=>none) (λ(i:Nat) (a:Vg)=>am (bZ i 0) (some ((a.2.1.1,a.2.1.2.1,a.1,a.2.1.2.2.2),()))) λ(r:rH)=>some r)))
def Ip(x:Unit):Option (rH):=some (([u32 1779033703,u32 3144134277,u32 1013904242,u32 2773480762,u32 1359893119,u32 2600822924,u32 528734635,u32 1541459225],0,aO UInt8,()),())
def A4(x:rH):Option (c?):=letI g:=bO (aa 0) (u8 0);letI k:=bv g x.1.2.2.1;am (cY (ca 0 0 128) (cz 1 (aa 128))) (am (cz 1 (bQ (aT g) (aT x.1.2.2.1))) (am (cz 1 (bQ (aT k) (aT [u8 128]))) (ci (bN (λ(x:c?)=>T (a_ (ag (dh (len x.1) 64) 56)) (am (cz 1 (bQ (aT x.1) (aT [u8 0]))) (some (aE.nx (bv x.1 [u8 0],())))) (some (aE.ex 0 (x.1,())))) (bv k [u8 128],())) (λ(a:c?)=>none) (λ(i:Nat) (a:c?)=>am (bZ i 0) (ci (bN (λ(ab:cI)=>letI j:=ab.2.1;letI c:=fr IntKind.i64 (i64 (e? 8 x.1.2.1)) j;T (bE 0 j) (am (bE 0 j) (am (cz 1 (bQ (aT ab.1) (aT [u8 c]))) (some (aE.nx (bv ab.1 [u8 c],i64 (bi j 8),()))))) (some (aE.ex 2 (ab.1,j,())))) (a.1,56,())) (λ(a:cI)=>none) (λ(i:Nat) (a:cI)=>am (bZ i 2) (ci (bN (λ(x:Vn)=>letI h:=len x.1;T (aJ 0 h) (am (ca 0 64 h) (ob (Np (x.2.1,cut x.1 (aa 0) (cd (aa 64) (aa 0)),())) λ(a:IP)=>am (ca 64 h h) (some (aE.nx (cut x.1 (aa 64) (cd (aa h) (aa 64)),a.1,()))))) (some (aE.ex 4 (x.1,x.2.1,())))) (a.1,x.1.1,())) (λ(a:Vn)=>none) (λ(i:Nat) (a:Vn)=>am (bZ i 4) (am (cY (ca 0 0 32) (cz 1 (aa 32))) (ci (bN (λ(x:cI)=>letI l:=x.2.1;letI b:=aS (ak a.2.1 (aa l) (u32 0));letI d:=aS (u32 (fr IntKind.u32 b (cB (u64 24))));letI e:=aS (u32 (fr IntKind.u32 b (cB (u64 16))));letI f:=aS (u32 (fr IntKind.u32 b (cB (u64 8))));T (aJ l 8) (am (aU l (bf 8)) (am (cz 1 (bQ (aT x.1) (aT [u8 d,u8 e,u8 f,u8 b]))) (some (aE.nx (bv x.1 [u8 d,u8 e,u8 f,u8 b],i64 (av l 1),()))))) (some (aE.ex 6 (x.1,l,())))) (bO (aa 0) (u8 0),0,())) (λ(a:cI)=>none) (λ(i:Nat) (a:cI)=>am (bZ i 6) (some (a.1,()))) λ(r:c?)=>some r))) λ(r:c?)=>some r)) λ(r:c?)=>some r)) λ(r:c?)=>some r)))
def Iq(x:c?):Option (c?):=ob (Ip ()) λ(a:rH)=>ob (x9 (a.1,x.1,())) λ(a:rH)=>ob (A4 (a.1,())) λ(a:c?)=>some (a.1,())
def Th(x:c?):Option (c?):=letI b:=bO (aa 64) (u8 0);am (cY (ca 0 64 64) (cz 1 (aa 64))) (T (aJ 64 (len x.1)) (ob (Iq (x.1,())) λ(a:c?)=>some (dU b 0 (aT b) a.1,())) (some (dU b 0 (aT b) x.1,())))
def Df(x:IR):Option (c?):=letI b:=cY (ca 0 64 64) (cz 1 (aa 64));ob (Th (x.1,())) λ(a:c?)=>letI c:=len a.1;am b (ci (bN (λ(x:iG)=>T (aJ x.1 c) (am (aU x.1 c) (am (aU x.1 (len x.2.1)) (some (aE.nx (i64 (av x.1 1),cj x.2.1 (aa x.1) (u8 (fA IntKind.u8 (aI (ak a.1 (aa x.1) (u8 0))) (aI (u8 92)))),()))))) (some (aE.ex 0 (x.1,x.2.1,())))) (0,bO (aa 64) (u8 0),())) (λ(a:iG)=>none) (λ(i:Nat) (a6:iG)=>am (bZ i 0) (ob (Ip ()) λ(bR:rH)=>ob (x9 (bR.1,a6.2.1,())) λ(bS:rH)=>am b (ci (bN (λ(x:iG)=>T (aJ x.1 c) (am (aU x.1 c) (am (aU x.1 (len x.2.1)) (some (aE.nx (i64 (av x.1 1),cj x.2.1 (aa x.1) (u8 (fA IntKind.u8 (aI (ak a.1 (aa x.1) (u8 0))) (aI (u8 54)))),()))))) (some (aE.ex 0 (x.1,x.2.1,())))) (0,bO (aa 64) (u8 0),())) (λ(a:iG)=>none) (λ(i:Nat) (a:iG)=>am (bZ i 0) (ob (Ip ()) λ(dm:rH)=>ob (x9 (dm.1,a.2.1,())) λ(a:rH)=>ob (x9 (a.1,x.2.1,())) λ(a:rH)=>ob (A4 (a.1,())) λ(a:c?)=>ob (x9 (bS.1,a.1,())) λ(a:rH)=>ob (A4 (a.1,())) λ(a:c?)=>some (a.1,()))) λ(r:Unit)=>none))) λ(r:Unit)=>none)
def DH(x:IR):Option (c?):=ob (Df (x.1,x.2.1,())) λ(a:c?)=>am (ca 0 16 (len a.1)) (some (cut a.1 (aa 0) (cd (aa 16) (aa 0)),()))
def MH(x:fm×V×V×Unit):Option (fm×V×Unit):=letI b:=DH (x.2.1,x.2.2.1,());ob (HZ (x.1,x.2.1,x.2.2.1,())) λ(a:aY)=>T (a_ a.1) (ob (NC (x.1.2.1,())) λ(a:Vj)=>ob (Kb (x.2.1,())) λ(a6:c?)=>ob (Kb (x.2.2.1,())) λ(bR:c?)=>am (cz 56 (bQ (aT a.1) (aT [(a6.1,bR.1,())]))) (ob b λ(bS:c?)=>some ((x.1.1,bv a.1 [(a6.1,bR.1,())],x.1.2.2),bS.1,()))) (ob b λ(a:c?)=>some (x.1,a.1,()))
def Cn(x:dr×Unit):Option (aY):=ob (FP (x.1,())) λ(a:aY)=>ob (T a.1 (some (ag (len x.1.2.2.2.2.2.2.1) 16,())) (some (false,()))) λ(a:aY)=>some (a.1,())
def KP(x:dr×Unit):Option (cI):=letI b:=x.1.2.2.2.2.2.2.1;ob (Cn (x.1,())) λ(a:aY)=>T (a_ a.1) (some (aO UInt8,1,())) (ob (w4 (x.1,())) λ(a:cI)=>am (cz 1 (bQ (aT a.1) (aT b))) (some (bv a.1 b,0,())))
def Rf(x:c?):Option (cI):=letI b:=len x.1;letI c:=fr IntKind.i64 b (cB (u64 8));ob (T (aJ b 1) (some (true,())) (some (aJ 1024 b,()))) λ(a:aY)=>T a.1 (some (aO UInt8,1,())) (am (cz 1 (bQ (aT [u8 c,u8 b]) (aT x.1))) (some (bv [u8 c,u8 b] x.1,0,())))
def ND(x:qR):Option (qR):=letI a:=len x.1;am (cY (ca 0 a a) (ag a a)) (some (sub x.1 0 a,()))
def Hl(x:e6×dr×V×Unit):Option (e7):=letI d:=x.1.1.2.2;letI b:=d.2.2.2.2.2;letI c:=b.2.2.2.2.2;letI e:=x.2.1.2.2;ob (SF (c.2.2.2.1,())) λ(a:OU)=>T (a_ (ag a.2.2.1 0)) (some (x.1,a.2.2.1,())) (ob (w4 (x.2.1,())) λ(a6:cI)=>ob (MH (x.1.2.1,x.2.2.1,a6.1,())) λ(bR:fm×V×Unit)=>ob (KP ((x.2.1.1,x.2.1.2.1,e.1,e.2.1,e.2.2.1,e.2.2.2.1,bR.2.1,e.2.2.2.2.2),())) λ(bS:cI)=>ob (Rf (bS.1,())) λ(dm:cI)=>ob (ND (c.2.2.2.2.1,())) λ(j4:qR)=>am (cz 56 (bQ (aT j4.1) (aT [(a.2.1,dm.1,())]))) (some (((x.1.1.1,x.1.1.2.1,d.1,d.2.1,d.2.2.1,d.2.2.2.1,d.2.2.2.2.1,b.1,b.2.1,b.2.2.1,b.2.2.2.1,b.2.2.2.2.1,c.1,c.2.1,c.2.2.1,a.1,bv j4.1 [(a.2.1,dm.1,())],c.2.2.2.2.2),bR.1,x.1.2.2),0,())))
def np(x:BL):Option (e7):=letI b:=x.1.1.2.2.2.2.2.2.2.2;ob (Hm (x.2.1,())) λ(a:aY)=>T (a_ a.1) (some (x.1,1,())) (ob (uk (x.1.1.2.2.1,())) λ(a:aY)=>T (a_ a.1) (some (x.1,7,())) (T (ag b.1 4611686018427387904) (some (x.1,10,())) (ob (nn (x.1.1,())) λ(a:s2)=>ob (Hl (x.1,(2,x.1.1.1,a.1,b.2.2.1.1.1,b.1,x.2.1,aO UInt8,()),b.2.2.1.1.2.1,())) λ(a:e7)=>letI c:=a.1.1.2.2.2;letI d:=c.2.2.2;T (ag a.2.1 0) (some (((a.1.1.1,a.1.1.2.1,a.1.1.2.2.1,c.1,c.2.1,c.2.2.1,d.1,d.2.1,i64 (av d.2.2.1 1),d.2.2.2),a.1.2),a.2.1,())) (some (a.1,a.2.1,())))))
def J3(x:de):Option (de):=ob (T (aJ x.1 0) (some (true,())) (some (bE 999999 x.1,()))) λ(a:aY)=>T a.1 (some (1,())) (some (i64 (av x.1 1),()))
def J1(x:de):Option (aY):=letI a:=some (false,());letI b:=some (true,());T (ag x.1 1) (T (ag x.1 1) b a) (T (ag x.1 2) (T (ag x.1 2) b a) (T (ag x.1 101) (T (ag x.1 101) b a) (T (ag x.1 201) (T (ag x.1 201) b a) (T (ag x.1 301) b a))))
def J4(x:IQ):Option (aY):=letI b:=some (false,());letI c:=len x.2.2.1;ob (J1 (x.1,())) λ(a:aY)=>ob (T a.1 (T (bE 1 x.2.1) (T (bE x.2.1 999999) (T (bE 1 c) (some (bE c 900,())) b) b) b) b) λ(a:aY)=>some (a.1,())
def J0(x:IQ):Option (eS×Int×Unit):=ob (J4 (x.1,x.2.1,x.2.2.1,())) λ(a:aY)=>T (a_ a.1) (some (ol,1,())) (some ((x.1,x.2.1,8,3,x.2.2.1,()),0,()))
def L9(x:V×V×List V×Unit):Option (cI):=letI f:=len x.2.2.1;letI g:=len x.2.1;ob (T (aJ 255 g) (some (true,())) (some (aJ 16 f,()))) λ(a:aY)=>T a.1 (some (aO UInt8,1,())) (am (cz 1 (bQ (aT [u8 g]) (aT x.2.1))) (ci (bN (λ(ab:A9)=>letI e:=ab.2.2.1;letI b:=ak x.2.2.1 (aa e) (aO UInt8);letI c:=fr IntKind.i64 (len b) (cB (u64 8));letI d:=bv ab.2.1 [u8 c,u8 (len b)];T (aJ e f) (am (aU e f) (T (aJ 65535 (len b)) (some (aE.rt (aO UInt8,1,()))) (am (cz 1 (bQ (aT ab.2.1) (aT [u8 c,u8 (len b)]))) (am (cz 1 (bQ (aT d) (aT b))) (some (aE.nx (ab.1,bv d b,i64 (av e 1),()))))))) (some (aE.ex 0 (ab.1,ab.2.1,e,())))) (0,bv [u8 g] x.2.1,0,())) (λ(a:A9)=>none) (λ(i:Nat) (a:A9)=>am (bZ i 0) (ob (Df (x.1,a.2.1,())) λ(a:c?)=>some (a.1,0,()))) λ(r:cI)=>some r))
def z?(x:c?):Option (c?):=ob (L9 (x.1,[98,97,115,101],aO V,())) λ(a:cI)=>some (a.1,())
def C?(x:e6×Int×V×Unit):Option (e7):=ob (Ac (4611686018427387904,[x.2.1],())) λ(a:aY)=>ob (T (a_ a.1) (some (true,())) (ob (Hm (x.2.2.1,())) λ(a:aY)=>some (a_ a.1,()))) λ(a:aY)=>T a.1 (some (x.1,1,())) (ob (nn ((x.1.1.1,x.1.1.2.1,x.1.1.2.2.1,x.1.1.2.2.2.1,x.1.1.2.2.2.2.1,x.1.1.2.2.2.2.2.1,x.2.1,x.1.1.2.2.2.2.2.2.2),())) λ(a:s2)=>ob (z? (x.1.1.2.1,())) λ(a6:c?)=>ob (Hl (x.1,(1,x.1.1.1,a.1,0,0,x.2.2.1,aO UInt8,()),a6.1,())) λ(a:e7)=>some (a.1,a.2.1,()))
def A5(x:wH):Option (bK):=letI c:=x.1.1.2;letI f:=c.2.2;letI b:=f.2.2;letI d:=b.2.2.2;letI e:=x.2.1.2;letI g:=d.2.2;ob (J3 (g.2.2.1,())) λ(a:de)=>ob (pP ((x.2.1.1,e.1,a.1,e.2.2),())) λ(a6:cI)=>ob (J0 (e.1,a.1,a6.1,())) λ(bR:eS×Int×Unit)=>ob (T (a_ (ag a6.2.1 0)) (some (true,())) (some (a_ (ag bR.2.1 0),()))) λ(bS:aY)=>T bS.1 (some (x.1,())) (T (ag e.1 1) (ob (C? (((x.1.1.1,c.1,c.2.1,f.1,f.2.1,b.1,b.2.1,b.2.2.1,d.1,d.2.1,g.1,bR.1,a.1,g.2.2.2),x.1.2),0,a6.1,())) λ(a:e7)=>some (a.1,())) (ob (np (((x.1.1.1,c.1,c.2.1,f.1,f.2.1,b.1,b.2.1,b.2.2.1,d.1,d.2.1,g.1,bR.1,a.1,g.2.2.2),x.1.2),a6.1,())) λ(a:e7)=>some (a.1,())))
def xS(x:de):Option (aY):=letI b:=AC (x.1,());ob b λ(a:de)=>ob (T (ag a.1 3) (some (true,())) (ob b λ(a:de)=>some (ag a.1 4,()))) λ(a:aY)=>some (a.1,())
def Ib(x:Vl):Option (aY):=ob (T (ag x.1.1 0) (some (ag (len x.1.2.1) 0,())) (some (false,()))) λ(a:aY)=>some (a.1,())
def M6(x:(fc×Unit)×Unit):Option (qR):=some ([x.1.1.1,x.1.1.2.1,x.1.1.2.2.1],())
def M7(x:(fc×Unit)×Unit):Option (aY):=ob (M6 (x.1,())) λ(a:qR)=>ci (bN (λ(x:eH)=>letI b:=x.2.1;T (aJ b 3) (am (aU b (bf 3)) (ob (Ib (ak a.1 (aa b) j0,())) λ(a:aY)=>T (a_ a.1) (some (aE.rt (false,()))) (some (aE.nx (x.1,i64 (av b 1),()))))) (some (aE.ex 0 (x.1,b,())))) (false,0,())) (λ(a:eH)=>none) (λ(i:Nat) (a:eH)=>am (bZ i 0) (ob (T (ag x.1.1.2.2.2.1 0) (some (ag x.1.1.2.2.2.2.1 0,())) (some (false,()))) λ(a:aY)=>some (a.1,()))) λ(r:aY)=>some r
def M3(x:tj):Option (f9):=ob (M7 ((x.1,()),())) λ(a:aY)=>T a.1 (some (0,9,())) (T (ag x.1.2.2.2.2.1 2147483647) (some (0,10,())) (some (i64 (av x.1.2.2.2.2.1 1),0,())))
def x2(x:bK):Option (EV):=some (((x.1.1,()),x.1,()),())
def Aa(x:V×List Int×Int×V×Unit):Option (c?):=letI b:=some (aO UInt8,());letI c:=aU 0 (bf 2);letI d:=aU 1 (bf 2);am c (am d (ob (Ac (4611686018427387904,[ak x.2.1 (aa 0) 0,ak x.2.1 (aa 1) 0],())) λ(a:aY)=>T (a_ a.1) b (ob (Ac (2147483647,[x.2.2.1],())) λ(a:aY)=>T (a_ a.1) b (am c (ob (pu (ak x.2.1 (aa 0) 0,8,())) λ(a:cI)=>am d (ob (pu (ak x.2.1 (aa 1) 0,8,())) λ(a6:cI)=>ob (pu (x.2.2.1,4,())) λ(bR:cI)=>ob (L9 (x.1,[108,105,110,107],[a.1,a6.1,bR.1,x.2.2.2.1],())) λ(a:cI)=>some (a.1,())))))))
def AL(x:(qc×Unit)×Int×V×Unit):Option (c?):=ob (nn (x.1.1,())) λ(a:s2)=>ob (Aa (x.1.1.2.1,a.1,x.2.1,x.2.2.1,())) λ(a:c?)=>some (a.1,())
def M5(x:Vl):Option (aY):=letI b:=some (false,());ob (T (bE 1 x.1.1) (T (bE x.1.1 2147483647) (some (ag (len x.1.2.1) 32,())) b) b) λ(a:aY)=>some (a.1,())
def DR(x:fc×Int×V×Unit):Option (ti):=letI b:=x.1.2.2;letI c:=some (true,());letI d:=x.2.1;ob (M5 ((d,x.2.2.1,()),())) λ(a:aY)=>T (a_ a.1) (some (x.1,1,())) (ob (M7 ((x.1,()),())) λ(a:aY)=>ob (T a.1 c (T (bE d x.1.1.1) c (some (aJ d b.1.1,())))) λ(a:aY)=>T a.1 (some (x.1,9,())) (some ((x.1.1,x.1.2.1,(d,x.2.2.1,()),b.2.1,cT b.2.2.1 d,b.2.2.2),0,())))
def qL(x:f9):Option (kk):=letI b:=x.2.1;letI j:=ag b 9;letI c:=some (x.1,false,());letI d:=T j true false;letI e:=some (false,());letI f:=ag b 4;letI g:=ag b 5;letI h:=T j 0 0;ob (AC (x.1,())) λ(a:de)=>letI i:=some (bE 0 a.1,());ob (T (ag x.1 8) (some (ag b 11,())) e) λ(a6:aY)=>T a6.1 (some (0,true,())) (ob (T (ag x.1 8) (some (ag b 12,())) e) λ(bR:aY)=>T bR.1 (some (7,true,())) (ob (T (ag b 10) (T (bE 0 a.1) (some (true,())) (some (ag x.1 7,()))) e) λ(bS:aY)=>T bS.1 (some (8,true,())) (ob (T (ag b 0) i e) λ(dm:aY)=>T dm.1 (some (1,true,())) (ob (T (ag b 2) i e) λ(j4:aY)=>T j4.1 (some (2,true,())) (T (ag a.1 1) (T (T (ag b 1) true (T f true d)) (some (T (ag b 1) 3 (T f 0 h),true,())) c) (T (ag a.1 2) (T (T (ag b 3) true (T f true false)) (some (T (ag b 3) 3 (T f 0 0),true,())) c) (T (ag a.1 3) (T (T f true (T g true (T (ag b 6) true (T (ag b 7) true d)))) (some (T f 6 (T g 0 (T (ag b 6) 4 (T (ag b 7) 5 h))),true,())) c) (T (ag a.1 4) (T (T f true (T g true (T (ag b 8) true d))) (some (T f 6 (T g 0 (T (ag b 8) 3 (T j 3 0))),true,())) c) (T (ag a.1 5) (T (T g true d) (some (T g 0 h,true,())) c) c)))))))))
def Hu(x:c?):Option (c?):=am (cY (ca 0 8 8) (cz 1 (aa 8))) (ob (Df (x.1,bO (aa 8) (u8 0),())) λ(a:c?)=>am (ca 0 3 (len a.1)) (some (cut a.1 (aa 0) (cd (aa 3) (aa 0)),())))
def MY(x:BL):Option (e7):=letI c:=x.1.1.2.2;letI b:=c.2.2.2.2;letI d:=b.2.2.2.2;letI e:=some (true,());T (a_ (ag (len x.2.1) 8)) (some (x.1,1,())) (ob (xS (c.1,())) λ(a:aY)=>T (a_ a.1) (some (x.1,7,())) (ob (T (a_ (ag c.1 3)) e (T (a_ (ag d.2.1.1 0)) e (some (aJ 0 d.1.2.2.1.1,())))) λ(a:aY)=>T a.1 (some (x.1,9,())) (ob (M3 (d.1,())) λ(a:f9)=>T (a_ (ag a.2.1 0)) (some (x.1,a.2.1,())) (ob (x2 (x.1,())) λ(a6:EV)=>ob (AL (a6.1.1,a.1,x.2.1,())) λ(bR:c?)=>ob (DR (d.1,a.1,bR.1,())) λ(bS:ti)=>ob (qL (c.1,6,())) λ(dm:kk)=>ob (Hu (bR.1,())) λ(j4:c?)=>ob (A5 (((x.1.1.1,x.1.1.2.1,dm.1,c.2.1,c.2.2.1,c.2.2.2.1,b.1,b.2.1,b.2.2.1,b.2.2.2.1,bS.1,d.2),x.1.2),(true,101,0,0,a.1,x.2.1,j4.1,0,()),())) λ(a:bK)=>some (a.1,0,())))))
def v1(x:(qc×Unit)×Unit):Option (aY):=some (ag x.1.1.2.2.1 4,())
def AM(x:bK):Option (bK):=letI d:=x.1.1.2;letI b:=d.2.2.2;letI c:=b.2.2.2;ob (qL (d.2.1,8,())) λ(a:kk)=>some (((x.1.1.1,d.1,a.1,d.2.2.1,b.1,b.2.1,b.2.2.1,c.1,c.2.1,c.2.2.1,c.2.2.2.1,ol,c.2.2.2.2.2),x.1.2),())
def Ia(x:tj):Option (tj):=some ((x.1.1,x.1.2.1,j0,x.1.2.2.2),())
def H6(x:bK):Option (bK):=ob (x2 (x.1,())) λ(a:EV)=>ob (v1 (a.1.1,())) λ(a:aY)=>T (a_ a.1) (some (x.1,())) (ob (AM (x.1,())) λ(a:bK)=>letI d:=a.1.1.2;letI b:=d.2.2.2;letI c:=b.2.2.2;ob (Ia (c.2.2.2.1,())) λ(a6:tj)=>some (((a.1.1.1,d.1,d.2.1,d.2.2.1,b.1,b.2.1,b.2.2.1,c.1,c.2.1,c.2.2.1,a6.1,c.2.2.2.2),a.1.2),()))
def ke(x:e7):Option (bK):=ci (bN (λ(ab:BK)=>letI f:=ab.2.1;letI d:=f.1.2.2;letI g:=d.2.2.2;letI b:=g.2.2.2;letI h:=b.2.2.2;letI c:=h.2.2.2;letI e:=aU ab.1 (bf 4);letI j:=c.2.2.2;letI k:=aa ab.1;T (aJ ab.1 4) (am e (T (ag (ak [2,5,6,13] k 0) x.2.1) (am e (am e (some (aE.nx (i64 (av ab.1 1),((f.1.1,f.1.2.1,d.1,d.2.1,d.2.2.1,g.1,g.2.1,g.2.2.1,b.1,b.2.1,b.2.2.1,h.1,h.2.1,h.2.2.1,c.1,c.2.1,c.2.2.1,j.1,cj j.2.1 k (i64 (av (ak j.2.1 k 0) 1)),j.2.2),f.2),()))))) (some (aE.nx (i64 (av ab.1 1),f,()))))) (some (aE.ex 0 (ab.1,f,())))) (0,x.1,())) (λ(a:BK)=>none) (λ(i:Nat) (a:BK)=>am (bZ i 0) (some (a.2.1,()))) λ(r:bK)=>some r
def MZ(x:wH):Option (bK):=letI j:=x.2.1;letI f:=j.2.2.2.2;letI h:=x.1.1.2.2.2.2.2.2.2.2.2.2.1;ob (x2 (x.1,())) λ(a:EV)=>letI c:=a.1.2.1;letI o:=c.1.2;letI b:=o.2.2;letI p:=b.2.2;letI g:=p.2.2;letI i:=v1 (a.1.1,());ob (AL (a.1.1,f.1,f.2.1,())) λ(a6:c?)=>ob i λ(bR:aY)=>ob (T bR.1 (some (ag x.1.1.1 0,())) (some (false,()))) λ(bS:aY)=>T bS.1 (ob (ke (x.1,13,())) λ(a:bK)=>some (a.1,())) (ob (Hu (a6.1,())) λ(dm:c?)=>ob (De (dm.1,f.2.2.1,())) λ(j4:aY)=>T (a_ j4.1) (ob (qF (j,63,())) λ(oA:q2)=>ob (pP (oA.1,())) λ(l1:cI)=>ob (np (c,l1.1,())) λ(a:e7)=>some (a.1,())) (T (ag f.1 h.1.1) (ob (qF (j,0,())) λ(oA:q2)=>ob (pP (oA.1,())) λ(l1:cI)=>ob (np (c,l1.1,())) λ(a:e7)=>some (a.1,())) (ob i λ(oA:aY)=>T oA.1 (ob (Ia (h,())) λ(l1:tj)=>ob (DR (l1.1,f.1,a6.1,())) λ(uU:ti)=>T (a_ (ag uU.2.1 0)) (ob (ke (x.1,13,())) λ(a:bK)=>some (a.1,())) (ob i λ(y0:aY)=>T y0.1 (ob (AM (c,())) λ(a:bK)=>letI k:=a.1.1.2;letI d:=k.2.2.2;letI l:=d.2.2.2;ob (qF (j,0,())) λ(r2:q2)=>ob (pP (r2.1,())) λ(yZ:cI)=>ob (np (((a.1.1.1,k.1,k.2.1,k.2.2.1,d.1,d.2.1,d.2.2.1,l.1,l.2.1,l.2.2.1,uU.1,l.2.2.2.2),a.1.2),yZ.1,())) λ(a:e7)=>some (a.1,())) (ob (qF (j,0,())) λ(r2:q2)=>ob (pP (r2.1,())) λ(yZ:cI)=>ob (np (((c.1.1,o.1,o.2.1,b.1,b.2.1,p.1,p.2.1,g.1,g.2.1,g.2.2.1,uU.1,g.2.2.2.2),c.2),yZ.1,())) λ(a:e7)=>some (a.1,())))) (ob (DR (h,f.1,a6.1,())) λ(l1:ti)=>T (a_ (ag l1.2.1 0)) (ob (ke (x.1,13,())) λ(a:bK)=>some (a.1,())) (ob i λ(uU:aY)=>T uU.1 (ob (AM (c,())) λ(a:bK)=>letI m:=a.1.1.2;letI e:=m.2.2.2;letI n:=e.2.2.2;ob (qF (j,0,())) λ(y0:q2)=>ob (pP (y0.1,())) λ(r2:cI)=>ob (np (((a.1.1.1,m.1,m.2.1,m.2.2.1,e.1,e.2.1,e.2.2.1,n.1,n.2.1,n.2.2.1,l1.1,n.2.2.2.2),a.1.2),r2.1,())) λ(a:e7)=>some (a.1,())) (ob (qF (j,0,())) λ(y0:q2)=>ob (pP (y0.1,())) λ(r2:cI)=>ob (np (((c.1.1,o.1,o.2.1,b.1,b.2.1,p.1,p.2.1,g.1,g.2.1,g.2.2.1,l1.1,g.2.2.2.2),c.2),r2.1,())) λ(a:e7)=>some (a.1,())))))))
def Ph(x:eS×eS×Unit):Option (aY):=letI b:=some (false,());letI c:=x.2.1.2;ob (T (ag x.1.1 x.2.1.1) (T (ag x.1.2.1 c.1) (T (ag x.1.2.2.1 c.2.1) (T (ag x.1.2.2.2.1 c.2.2.1) (ob (B7 (x.1.2.2.2.2.1,c.2.2.2.1,())) λ(a:aY)=>some (a.1,())) b) b) b) b) λ(a:aY)=>some (a.1,())
def Ff(x:eS×Unit):Option (aY):=ob (Ph (x.1,ol,())) λ(a:aY)=>some (a.1,())
def wM(x:eS×Int×Int×Unit):Option (aY):=letI b:=some (false,());ob (Ff (x.1,())) λ(a:aY)=>ob (T (a_ a.1) (T (ag x.1.1 x.2.1) (some (ag x.1.2.1 x.2.2.1,())) b) b) λ(a:aY)=>some (a.1,())
def AQ(x:tj):Option (ti):=ob (Ib (x.1.2.2.1,())) λ(a:aY)=>T a.1 (some (x.1,9,())) (some ((x.1.2.2.1,x.1.1,j0,16,x.1.2.2.2.2),0,()))
def MX(x:wH):Option (bK):=ob (x2 (x.1,())) λ(a:EV)=>ob (v1 (a.1.1,())) λ(a:aY)=>ob (T (a_ a.1) (some (true,())) (ob (wM (x.1.1.2.2.2.2.2.2.2.2.2.2.2.1,x.2.1.2.1,x.2.1.2.2.1,())) λ(a:aY)=>some (a_ a.1,()))) λ(a:aY)=>T a.1 (ob (ke (x.1,13,())) λ(a:bK)=>some (a.1,())) (T (a_ (ag x.2.1.2.2.2.1 0)) (ob (H6 (x.1,())) λ(a:bK)=>some (a.1,())) (ob (AM (x.1,())) λ(a:bK)=>letI d:=a.1.1.2;letI b:=d.2.2.2;letI c:=b.2.2.2;ob (AQ (c.2.2.2.1,())) λ(a6:ti)=>ob (A5 (((a.1.1.1,d.1,d.2.1,d.2.2.1,b.1,b.2.1,b.2.2.1,c.1,c.2.1,c.2.2.1,a6.1,c.2.2.2.2),a.1.2),(true,301,0,0,0,aO UInt8,aO UInt8,0,()),())) λ(a:bK)=>some (a.1,())))
def x'(x:Ej):Option (Ej):=letI a:=len x.1;am (cY (ca 0 a a) (ag a a)) (some (sub x.1 0 a,()))
def Ab(x:qc×Int×Unit):Option (EW):=letI c:=x.1.2.2.2;letI e:=c.2.2.2.2;letI b:=e.2.2.2.2.2;letI d:=b.2.2.2;ob (uk (x.1.2.2.1,())) λ(a:aY)=>T a.1 (ob (x' (d.2.2.1,())) λ(a:Ej)=>ob (nn (x.1,())) λ(a6:s2)=>am (cz 128 (bQ (aT a.1) (aT [(5,a6.1,0,aO UInt8,())]))) (some ((x.1.1,x.1.2.1,x.2.1,c.1,c.2.1,0,0,e.1,0,(0,Bz,()),ED,ol,b.1,b.2.1,aO V,d.1,d.2.1,bv a.1 [(5,a6.1,0,aO UInt8,())],d.2.2.2),()))) (some ((x.1.1,x.1.2.1,x.2.1,c.1,c.2.1,0,0,e.1,0,(0,Bz,()),ED,ol,b.1,b.2.1,aO V,d),()))
def D6(x:bK):Option (bK):=T (ag x.1.1.2.2.1 8) (some (x.1,())) (ob (Ab (x.1.1,8,())) λ(a:EW)=>some (((a.1.1,a.1.2.1,a.1.2.2.1,a.1.2.2.2.1, -1,0,0,0,0,(0,Bz,()),ED,ol,0,0,aO V,We,aO (Int×V×Unit),a.1.2.2.2.2.2.2.2.2.2.2.2.2.2.2.2.2.2.1,[0,0,0,0],()),x.1.2),()))
def ID(x:de):Option (cI):=ob (T (aJ x.1 1) (some (true,())) (some (aJ 4611686018427387904 x.1,()))) λ(a:aY)=>T a.1 (some (aO UInt8,1,())) (ob (pu (x.1,8,())) λ(a:cI)=>am (cz 1 (bQ (aT [u8 121,u8 101,u8 116,u8 116]) (aT a.1))) (ob (Iq (bv [u8 121,u8 101,u8 116,u8 116] a.1,())) λ(a6:c?)=>letI b:=cut a6.1 (aa 0) (cd (aa 8) (aa 0));am (ca 0 8 (len a6.1)) (am (cz 1 (bQ (aT a.1) (aT b))) (some (bv a.1 b,0,())))))
def IC(x:c?):Option (kk):=ob (la (x.1,0,8,())) λ(a:Ed)=>T (a_ (ag a.2.2.1 0)) (some (0,false,())) (ob (ID (a.1,())) λ(a6:cI)=>ob (T (a_ (ag a6.2.1 0)) (some (true,())) (ob (B7 (a6.1,x.1,())) λ(a:aY)=>some (a_ a.1,()))) λ(bR:aY)=>T bR.1 (some (0,false,())) (some (a.1,true,())))
def UU(x:Int×Int×Bool×Bool×Unit):Option (kk):=ob (T x.2.2.2.1 (T (a_ x.2.2.1) (some (true,())) (some (aJ x.1 x.2.1,()))) (some (false,()))) λ(a:aY)=>T a.1 (some (1,true,())) (some (0,x.2.2.1,()))
def IB(x:Vo):Option (Vp):=ob (IC (x.1.1,())) λ(a:kk)=>ob (IC (x.1.2.1,())) λ(a6:kk)=>ob (UU (a.1,a6.1,a.2.1,a6.2.1,())) λ(bR:kk)=>ob (T (ag bR.1 1) (some (a6.1,())) (some (a.1,()))) λ(a:de)=>some (a.1,bR.1,bR.2.1,())
def D'(x:IU):Option (c?):=letI d:=len x.1;letI e:=aO UInt8;ci (bN (λ(ab:f9)=>letI h:=ab.2.1;letI c:=av ab.1 (len (ak x.1 (aa h) e));T (aJ h d) (am (aU h d) (T (aJ (i64 c) 0) none (some (aE.nx (i64 c,i64 (av h 1),()))))) (some (aE.ex 0 (ab.1,h,())))) (0,0,())) (λ(a:f9)=>none) (λ(i:Nat) (a:f9)=>letI b:=i64 (bi a.1 (i64 (bi 0 0)));letI j:=bO (aa b) (u8 0);am (bZ i 0) (T (aJ a.1 0) none (T (aJ 0 b) (am (ca 0 0 0) (am (cY (bE 0 b) (cz 1 (aa b))) (am (ca 0 0 (len j)) (ci (bN (λ(ab:cI)=>letI f:=ab.2.1;letI k:=ak x.1 (aa f) e;T (aJ f d) (am (aU f d) (am (cz 1 (bQ (aT ab.1) (aT k))) (some (aE.nx (bv ab.1 k,i64 (av f 1),()))))) (some (aE.ex 2 (ab.1,f,())))) (cut j (aa 0) (cd (aa 0) (aa 0)),0,())) (λ(a:cI)=>none) (λ(i:Nat) (a:cI)=>am (bZ i 2) (some (a.1,()))) λ(r:c?)=>some r)))) (ci (bN (λ(ab:cI)=>letI g:=ab.2.1;letI l:=ak x.1 (aa g) e;T (aJ g d) (am (aU g d) (am (cz 1 (bQ (aT ab.1) (aT l))) (some (aE.nx (bv ab.1 l,i64 (av g 1),()))))) (some (aE.ex 2 (ab.1,g,())))) (aO UInt8,0,())) (λ(a:cI)=>none) (λ(i:Nat) (a:cI)=>am (bZ i 2) (some (a.1,()))) λ(r:c?)=>some r)))) λ(r:c?)=>some r
def NI(x:(V×V×Unit)×Int×Unit):Option (agL):=letI b:=x.1.2;letI e:=len x.1.1;letI f:=len b.1;ob (IB (x.1,())) λ(a:Vp)=>T (a_ a.2.2.1) (some (x.1,0,12,())) (ob (ID (i64 (av a.1 1),())) λ(a6:cI)=>T (a_ (ag a6.2.1 0)) (some (x.1,0,10,())) (ob (T (bE 0 x.2.1) (some (aJ x.2.1 16,())) (some (false,()))) λ(bR:aY)=>ob (T (a_ bR.1) (some (16,())) (some (x.2.1,()))) λ(bS:de)=>letI c:=ca 0 bS.1 (len a6.1);letI d:=cd (aa bS.1) (aa 0);T (ag a.2.1 0) (am c (am (ca bS.1 f f) (ob (D' ([cut a6.1 (aa 0) d,sub b.1 bS.1 f],())) λ(dm:c?)=>T bR.1 (some ((x.1.1,dm.1,b.2),0,11,())) (some ((x.1.1,dm.1,b.2),a.1,0,()))))) (am c (am (ca bS.1 e e) (ob (D' ([cut a6.1 (aa 0) d,sub x.1.1 bS.1 e],())) λ(dm:c?)=>T bR.1 (some ((dm.1,b),0,11,())) (some ((dm.1,b),a.1,0,())))))))
def Iu(x:bK):Option (JH):=letI b:=x.1.1.2;letI d:=b.2.2.2;ob (NI (b.2.2.1,d.1,())) λ(a:agL)=>letI c:=a.2.2.1;T (ag c 0) (some (((x.1.1.1,b.1,b.2.1,a.1, -1,d.2),x.1.2),a.2.1,c,())) (T (ag c 11) (ob (D6 (((x.1.1.1,b.1,b.2.1,a.1,d),x.1.2),())) λ(a6:bK)=>some (a6.1,a.2.1,c,())) (some (((x.1.1.1,b.1,b.2.1,a.1,d),x.1.2),a.2.1,c,())))
def sY(x:e7):Option (bK):=ob (Ab (x.1.1,x.2.1,())) λ(a:EW)=>some ((a.1,x.1.2),())
def D7(x:e7):Option (bK):=ob (A5 (x.1,(true,x.2.1,0,0,0,aO UInt8,aO UInt8,0,()),())) λ(a:bK)=>some (a.1,())
def It(x:bK):Option (e7):=ob (T (ag x.1.1.2.2.1 7) (some (true,())) (some (ag x.1.1.2.2.1 8,()))) λ(a:aY)=>T a.1 (some (x.1,11,())) (ob (Iu (x.1,())) λ(a:JH)=>T (a_ (ag a.2.2.1 0)) (some (a.1,a.2.2.1,())) (ob (sY (a.1,1,())) λ(a6:bK)=>letI b:=a6.1.1.2;ob (D7 (((a6.1.1.1,b.1,b.2.1,b.2.2.1,b.2.2.2.1,a.2.1,b.2.2.2.2.2),a6.1.2),1,())) λ(a:bK)=>some (a.1,0,())))
def Nw(x:bK):Option (e7):=letI c:=x.1.1.2.2;letI b:=c.2.2.2.2;letI d:=b.2.2.2.2;ob (qL (c.1,4,())) λ(a:kk)=>T (ag c.1 6) (some (x.1,9,())) (T (a_ a.2.1) (some (x.1,7,())) (T (ag a.1 0) (ob (sY (x.1,a.1,())) λ(a:bK)=>some (a.1,0,())) (ob (Ia (d.1,())) λ(a6:tj)=>ob (D7 (((x.1.1.1,x.1.1.2.1,a.1,c.2.1,c.2.2.1,c.2.2.2.1,b.1,b.2.1,b.2.2.1,b.2.2.2.1,a6.1,d.2.1,d.2.2.1,d.2.2.2.1,aO V,d.2.2.2.2.2),x.1.2),2,())) λ(a:bK)=>some (a.1,0,()))))
def Ns(x:bK):Option (e7):=ob (xS (x.1.1.2.2.1,())) λ(a:aY)=>T (a_ a.1) (some (x.1,7,())) (T (a_ (ag x.1.1.2.2.2.2.2.2.2.2.2.2.2.1.1 0)) (some (x.1,9,())) (ob (D7 (x.1,301,())) λ(a:bK)=>some (a.1,0,())))
def s0(x:e7):Option (bK):=ob (qL (x.1.1.2.2.1,x.2.1,())) λ(a:kk)=>some (((x.1.1.1,x.1.1.2.1,a.1,x.1.1.2.2.2),x.1.2),())
def Nr(x:bK):Option (bK):=ob (IB (x.1.1.2.2.2.1,())) λ(a:Vp)=>T a.2.2.1 (ob (s0 (x.1,11,())) λ(a:bK)=>some (a.1,())) (ob (s0 (x.1,12,())) λ(a:bK)=>some (a.1,()))
def Iv(x:e7):Option (bK):=letI e:=x.1.1;letI c:=e.2.2.2;letI b:=c.2.2.2.2.2;letI d:=b.2.2.2.2.2;ob (x' (d.2.2.2.2.1,())) λ(a:Ej)=>ob (nn (e,())) λ(a6:s2)=>am (cz 128 (bQ (aT a.1) (aT [(x.2.1,a6.1,0,aO UInt8,())]))) (some (((e.1,e.2.1,e.2.2.1,c.1,c.2.1,c.2.2.1,c.2.2.2.1,c.2.2.2.2.1,b.1,b.2.1,b.2.2.1,b.2.2.2.1,b.2.2.2.2.1,d.1,d.2.1,d.2.2.1,d.2.2.2.1,bv a.1 [(x.2.1,a6.1,0,aO UInt8,())],d.2.2.2.2.2),x.1.2),()))
def Nt(x:bK):Option (bK):=T (a_ (ag x.1.1.2.2.1 2)) (some (x.1,())) (ob (s0 (x.1,3,())) λ(a:bK)=>ob (Iv (a.1,4,())) λ(a:bK)=>some (a.1,()))
def Nu(x:bK):Option (bK):=letI b:=x.1.1.2.2.1;letI c:=some (x.1,());T (ag b 1) (T (ag b 1) (ob (sY (x.1,0,())) λ(a:bK)=>some (a.1,())) c) (T (ag b 3) (T (ag b 3) (ob (sY (x.1,0,())) λ(a:bK)=>some (a.1,())) c) (T (ag b 6) (ob (sY (x.1,0,())) λ(a:bK)=>some (a.1,())) c))
def Iw(x:wH):Option (bK):=ob (qF (x.2.1,0,())) λ(a:q2)=>ob (pP (a.1,())) λ(a:cI)=>ob (np (x.1,a.1,())) λ(a:e7)=>some (a.1,())
def sZ(x:bK):Option (bK):=ob (ke (x.1,13,())) λ(a:bK)=>some (a.1,())
def Nv(x:wH):Option (bK):=letI f:=x.1.1.2;letI d:=x.2.1;letI b:=f.2.2.2.2;letI g:=b.2.2.2;letI c:=wM (g.2.2.2.1,d.2.1,d.2.2.1,());letI e:=sZ (x.1,());letI h:=Iw (x.1,d,());T (ag d.2.1 301) (T d.1 (ob h λ(a:bK)=>some (a.1,())) (ob c λ(a:aY)=>T a.1 (some (((x.1.1.1,f.1,f.2.1,f.2.2.1,f.2.2.2.1,b.1,b.2.1,b.2.2.1,g.1,g.2.1,g.2.2.1,ol,g.2.2.2.2),x.1.2),())) (ob e λ(a:bK)=>some (a.1,())))) (T (ag d.2.1 2) (T d.1 (ob h λ(a:bK)=>ob (sY (a.1,0,())) λ(a:bK)=>some (a.1,())) (ob c λ(a:aY)=>T a.1 (ob (sY (x.1,0,())) λ(a:bK)=>some (a.1,())) (ob e λ(a:bK)=>some (a.1,())))) (ob e λ(a:bK)=>some (a.1,())))
def Iy(x:e6×d1×Int×Unit):Option (bK):=ob (qF (x.2.1,0,())) λ(a:q2)=>ob (pP (a.1,())) λ(a:cI)=>ob (C? (x.1,x.2.2.1,a.1,())) λ(a:e7)=>some (a.1,())
def M2(x:c?):Option (ti):=T (a_ (ag (len x.1) 32)) (some (ED,1,())) (some (((1,x.1,()),j0,j0,0,1,()),0,()))
def D9(x:JH):Option (bK):=letI d:=x.1.1.2;letI b:=d.2.2;letI c:=b.2.2.2.2;letI e:=x.2.2.1;ob (nn ((x.1.1.1,d.1,d.2.1,b.1,b.2.1,x.2.1,e,cT c.1 e,c.2),())) λ(a:s2)=>ob (Aa (d.1,a.1,1,aO UInt8,())) λ(a:c?)=>ob (M2 (a.1,())) λ(a:ti)=>some (((x.1.1.1,d.1,d.2.1,b.1,b.2.1,x.2.1,e,cT c.1 e,c.2.1,c.2.2.1,a.1,c.2.2.2.2),x.1.2),())
def Nz(x:e6×d1×Int×Unit):Option (bK):=letI e:=some (true,());letI c:=x.1.1.2.2;letI b:=T (ag c.1 7) e (some (ag c.1 8,()));letI d:=x.2.2.1;letI f:=sZ (x.1,());ob (T (ag c.1 1) (T (ag x.1.1.1 0) e b) b) λ(a:aY)=>T a.1 (ob f λ(a:bK)=>some (a.1,())) (ob (uk (c.1,())) λ(a:aY)=>ob (T a.1 (some (ag c.2.2.2.2.1 d,())) (some (false,()))) λ(a:aY)=>T a.1 (ob (Iy (x.1,x.2.1,d,())) λ(a:bK)=>some (a.1,())) (T (bE d c.2.2.2.2.2.1) (ob f λ(a:bK)=>some (a.1,())) (ob (Iu (x.1,())) λ(a:JH)=>T (ag a.2.2.1 0) (ob (sY (a.1,2,())) λ(a6:bK)=>ob (D9 (a6.1,a.2.1,d,())) λ(a:bK)=>ob (Iy (a.1,x.2.1,d,())) λ(a:bK)=>some (a.1,())) (T (ag a.2.2.1 11) (some (a.1,())) (ob (sZ (a.1,())) λ(a:bK)=>some (a.1,()))))))
def Ny(x:e7):Option (bK):=ob (D9 (x.1,x.1.1.2.2.2.2.2.1,x.2.1,())) λ(a:bK)=>ob (s0 (a.1,1,())) λ(a:bK)=>letI d:=a.1.1.2;letI b:=d.2.2.2;letI c:=b.2.2.2;ob (Iv (((a.1.1.1,d.1,d.2.1,d.2.2.1,b.1,b.2.1,b.2.2.1,c.1,c.2.1,c.2.2.1,c.2.2.2.1,ol,c.2.2.2.2.2),a.1.2),4,())) λ(a:bK)=>ob (D7 (a.1,301,())) λ(a:bK)=>some (a.1,())
def Is(x:e6×dr×d1×Unit):Option (bK):=letI f:=x.1.1;letI b:=some (false,());letI c:=i64 (bi 1 f.1);letI d:=x.2.1.2.2.1;letI e:=x.2.2.1;letI g:=ak d (aa f.1) 0;letI h:=sZ (x.1,());am (aU c (bf 2)) (am (aU f.1 (bf 2)) (ob (T (a_ (ag e.2.1 1)) (some (true,())) (some (aJ (ak d (aa c) 0) 1,()))) λ(a:aY)=>T a.1 (ob h λ(a:bK)=>some (a.1,())) (ob (T e.1 (some (ag g 0,())) b) λ(a:aY)=>T a.1 (ob (Nz (x.1,e,ak d (aa c) 0,())) λ(a:bK)=>some (a.1,())) (ob (T (a_ e.1) (T (ag e.2.2.2.1 0) (T (ag f.2.2.1 1) (T (ag g f.2.2.2.2.2.1) (ob (wM (f.2.2.2.2.2.2.2.2.2.2.2.1,e.2.1,e.2.2.1,())) λ(a:aY)=>some (a.1,())) b) b) b) b) λ(a:aY)=>T a.1 (ob (Ny (x.1,ak d (aa c) 0,())) λ(a:bK)=>some (a.1,())) (ob h λ(a:bK)=>some (a.1,()))))))
def F6(x:wa):Option (aY):=letI b:=some (false,());letI c:=some (true,());ob (G_ (x.1.1,())) λ(a:de)=>T (ag a.1 1) (T (ag a.1 1) c b) (T (ag a.1 2) (T (ag a.1 2) c b) (T (ag a.1 4) c b))
def Cz(x:wa):Option (aY):=ob (qz (x.1,39,())) λ(a:p2)=>ob (T a.2.1 (some (seq a.1 [57,49],())) (some (false,()))) λ(a:aY)=>some (a.1,())
def K?(x:cI):Option (cI):=ob (C5 (x.1,())) λ(a:mn)=>ob (T (aJ x.2.1 0) (some (true,())) (T (aJ 999999 x.2.1) (some (true,())) (T (a_ (ag a.2.1 0)) (some (true,())) (ob (F6 (a.1,())) λ(a6:aY)=>T (a_ a6.1) (some (true,())) (ob (Cz (a.1,())) λ(a:aY)=>some (a.1,())))))) λ(a6:aY)=>T a6.1 (some (aO UInt8,1,())) (ob (mD (x.2.1,6,())) λ(bR:cI)=>am (cz 1 (aT bR.1)) (ob (jS (a.1,15,bR.1,())) λ(a:mn)=>ob (z7 (a.1,())) λ(a:cI)=>T (aJ 900 (len a.1)) (some (aO UInt8,4,())) (some (a.1,0,()))))
def MP(x:IU):Option (V×List V×Bool×Unit):=letI b:=len x.1;T (ag b 0) (some (aO UInt8,x.1,false,())) (am (aU 0 b) (am (ca 1 b b) (ob (agl (sub x.1 1 b,())) λ(a:IU)=>some (ak x.1 (aa 0) (aO UInt8),a.1,true,()))))
def j8(x:bK):Option (bK):=ci (bN (λ(x:bK)=>letI e:=some (aE.ex 0 (x.1,()));ob (MP (x.1.1.2.2.2.2.2.2.2.2.2.2.2.2.2.2.1,())) λ(a:V×List V×Bool×Unit)=>T (a_ a.2.2.1) e (ob (np (x.1,a.1,())) λ(a6:e7)=>letI c:=a6.1.1.2.2;letI b:=c.2.2.2.2;letI d:=b.2.2.2.2;T (a_ (ag a6.2.1 0)) e (some (aE.nx (((a6.1.1.1,a6.1.1.2.1,c.1,c.2.1,c.2.2.1,c.2.2.2.1,b.1,b.2.1,b.2.2.1,b.2.2.2.1,d.1,d.2.1,d.2.2.1,d.2.2.2.1,a.2.1,d.2.2.2.2.2),a6.1.2),()))))) (x.1,())) (λ(a:bK)=>none) (λ(i:Nat) (a:bK)=>am (bZ i 0) (some (a.1,()))) λ(r:bK)=>some r
def MO(x:List V×V×Int×Unit):Option (List V×Int×Unit):=ob (H1 (x.1,[x.2.1],x.2.2.1,())) λ(a:List V×Int×Int×Unit)=>ob (T (ag a.2.2.1 0) (some (ag a.2.1 0,())) (some (false,()))) λ(a6:aY)=>T a6.1 (some (x.1,8,())) (some (a.1,a.2.2.1,()))
def F5(x:e6×Int×Int×V×Unit):Option (bK):=letI e:=x.1.1;letI c:=e.2.2.2;letI b:=c.2.2.2.2.2;letI d:=b.2.2.2.2.2;ob (x' (d.2.2.2.2.1,())) λ(a:Ej)=>ob (nn (e,())) λ(a6:s2)=>am (cz 128 (bQ (aT a.1) (aT [(x.2.1,a6.1,x.2.2.1,x.2.2.2.1,())]))) (some (((e.1,e.2.1,e.2.2.1,c.1,c.2.1,c.2.2.1,c.2.2.2.1,c.2.2.2.2.1,b.1,b.2.1,b.2.2.1,b.2.2.2.1,b.2.2.2.2.1,d.1,d.2.1,d.2.2.1,d.2.2.2.1,bv a.1 [(x.2.1,a6.1,x.2.2.1,x.2.2.2.1,())],d.2.2.2.2.2),x.1.2),()))
def La(x:BL):Option (e7):=letI c:=x.1.1.2.2;letI b:=c.2.2.2.2.2;letI d:=b.2.2.2.2;ob (K? (x.2.1,d.2.2.1,())) λ(a:cI)=>T (a_ (ag a.2.1 0)) (some (x.1,a.2.1,())) (ob (xS (c.1,())) λ(a6:aY)=>T (a_ a6.1) (some (x.1,7,())) (ob (MO (d.2.2.2.1,a.1,8,())) λ(bR:List V×Int×Unit)=>T (a_ (ag bR.2.1 0)) (some (x.1,bR.2.1,())) (ob (F5 (((x.1.1.1,x.1.1.2.1,c.1,c.2.1,c.2.2.1,c.2.2.2.1,c.2.2.2.2.1,b.1,b.2.1,b.2.2.1,b.2.2.2.1,d.1,d.2.1,d.2.2.1,bR.1,d.2.2.2.2),x.1.2),1,0,a.1,())) λ(a:bK)=>ob (j8 (a.1,())) λ(a:bK)=>some (a.1,0,()))))
def K_(x:e7):Option (e7):=letI b:=x.1.1.2.2;letI c:=b.2.2.2.2.2.2.2.2.2;letI d:=some (true,());ob (T (bE x.2.1 c.2.2.1) d (some (aJ 999999 x.2.1,()))) λ(a:aY)=>T a.1 (some (x.1,1,())) (ob (xS (b.1,())) λ(a:aY)=>T (a_ a.1) (some (x.1,7,())) (ob (T (a_ (ag b.1 3)) d (some (a_ (ag c.1.1 0),()))) λ(a:aY)=>T a.1 (some (x.1,9,())) (ob (qL (b.1,7,())) λ(a:kk)=>ob (A5 (((x.1.1.1,x.1.1.2.1,a.1,b.2),x.1.2),(true,201,0,0,0,aO UInt8,aO UInt8,x.2.1,()),())) λ(a:bK)=>some (a.1,0,()))))
def Cy(x:bK):Option (bK):=letI d:=x.1.1.2;letI b:=d.2.2.2;letI c:=b.2.2.2;ob (qL (d.2.1,8,())) λ(a:kk)=>some (((x.1.1.1,d.1,a.1,d.2.2.1,b.1,b.2.1,b.2.2.1,c.1,c.2.1,c.2.2.1,c.2.2.2.1,ol,c.2.2.2.2.2),x.1.2),())
def K'(x:bK):Option (bK):=T (a_ (ag x.1.1.2.2.1 5)) (some (x.1,())) (ob (Cy (x.1,())) λ(a:bK)=>some (a.1,()))
def Rj(x:wH):Option (bK):=letI c:=x.1.1.2.2;letI b:=c.2.2.2.2;letI d:=b.2.2.2.2;ob (qF (x.2.1,0,())) λ(a:q2)=>ob (pP (a.1,())) λ(a:cI)=>ob (np (((x.1.1.1,x.1.1.2.1,c.1,c.2.1,c.2.2.1,c.2.2.2.1,b.1,b.2.1,b.2.2.1,b.2.2.2.1,d.1,d.2.1,d.2.2.1,cT d.2.2.2.1 x.2.1.2.2.2.2.2.2.2.1,d.2.2.2.2),x.1.2),a.1,())) λ(a:e7)=>some (a.1,())
def K9(x:wH):Option (bK):=letI c:=x.1.1.2.2;letI b:=c.2.2.2.2.2;letI d:=b.2.2.2.2;ob (T (a_ (ag c.1 5)) (some (true,())) (ob (wM (d.1,x.2.1.2.1,x.2.1.2.2.1,())) λ(a:aY)=>some (a_ a.1,()))) λ(a:aY)=>T a.1 (ob (ke (x.1,13,())) λ(a:bK)=>some (a.1,())) (ob (Dr (d.1.2.2.2.2.1,())) λ(a:q2)=>T (ag x.2.1.2.2.2.1 0) (ob (Cy (((x.1.1.1,x.1.1.2.1,c.1,c.2.1,c.2.2.1,c.2.2.2.1,c.2.2.2.2.1,b.1,b.2.1,b.2.2.1,b.2.2.2.1,d.1,d.2.1,cT d.2.2.1 a.1.2.2.2.2.2.2.2.1,d.2.2.2),x.1.2),())) λ(a:bK)=>some (a.1,())) (ob (Cy (x.1,())) λ(a:bK)=>some (a.1,())))
def Rm(x:A8):Option (de):=T x.1 (some (x.2.1,())) (some (x.2.2.1,()))
def Lc(x:wa):Option (aY):=letI b:=dh (i64 (fg x.1.1 10)) 10;letI c:=Cz (x.1,());ob (T (ag b 1) (ob c λ(a:aY)=>some (a.1,())) (T (ag b 3) (ob c λ(a:aY)=>some (a.1,())) (some (false,())))) λ(a:aY)=>some (a.1,())
def Lb(x:e6×(Int×List (Int×V×Unit)×Unit)×Unit):Option (bK):=ob (LR (x.2.1.1,())) λ(a:kk)=>T (a_ a.2.1) (ob (ke (x.1,13,())) λ(a:bK)=>some (a.1,())) (ob (jS ((a.1,aO (Int×V×Unit),()),39,[u8 57,u8 49],())) λ(a:mn)=>ob (qz (x.2.1,11,())) λ(a6:p2)=>T a6.2.1 (ob (jS (a.1,11,a6.1,())) λ(a:mn)=>ob (z7 (a.1,())) λ(a:cI)=>ob (np (x.1,a.1,())) λ(a:e7)=>some (a.1,())) (ob (z7 (a.1,())) λ(a:cI)=>ob (np (x.1,a.1,())) λ(a:e7)=>some (a.1,())))
def F4(x:e6×dr×(Int×List (Int×V×Unit)×Unit)×Unit):Option (bK):=ob (F6 (x.2.2.1,())) λ(a:aY)=>T (a_ a.1) (ob (ke (x.1,13,())) λ(a:bK)=>some (a.1,())) (ob (xS (x.1.1.2.2.1,())) λ(a:aY)=>T a.1 (ob (Lc (x.2.2.1,())) λ(a:aY)=>ob (Rm (a.1,3,2,())) λ(a:de)=>ob (F5 (x.1,a.1,x.2.1.2.2.2.2.1,x.2.1.2.2.2.2.2.1,())) λ(a:bK)=>some (a.1,())) (T (ag x.1.1.2.2.1 6) (ob (Lb (x.1,x.2.2.1,())) λ(a:bK)=>some (a.1,())) (ob (ke (x.1,13,())) λ(a:bK)=>some (a.1,()))))
end Yp
namespace Yp
open Go
abbrev e5:=List qc×fm×List (Int×Int×V×Unit)×List (Int×Int×V×Unit)×List (List (Int×List Int×Int×V×Unit))×Unit
def mU(x:V×Unit):Option (V×Unit):=am (cz 1 (aT x.1)) (some (x.1,()))
def IA(x:List (Int×Int×V×Unit)×Unit):Option (List (Int×Int×V×Unit)×Unit):=am (cz 80 (aT x.1)) (some (x.1,()))
end Yp
namespace Yp
abbrev ly:=Int×(e5×Unit)×Unit
abbrev rO:=(e5×Unit)×Int×Unit
abbrev o_:=(e5×Unit)×Unit
abbrev wh:=(e5×Unit)×eS×Unit
abbrev Eu:=(e5×Unit)×e6×Unit
abbrev VZ:=Int×Int×e5×Unit
abbrev N9:=e5×Int×Unit
abbrev I':=e5×Unit
end Yp
namespace Yp
open Go
def KO(x:c?):Option (dr×Int×Unit):=letI f:=len x.1;letI a:=i64 (bi f 16);letI h:=mU (sub x.1 30 a,());letI i:=mU (sub x.1 a f,());letI j:=aU 0 (bf 1);letI k:=aU (i64 (av 0 1)) (bf 2);letI m:=ca 30 a f;letI n:=aU 0 (bf 2);letI o:=ca a f f;letI v:=aU 1 (bf 2);T (aJ f 47) (some (nB,3,())) <| T (aJ 946 f) (some (nB,4,())) <| am n <| ob (la (x.1,0,1,())) λa0=>letI u:=cT 0 a0.2.1;am k <| ob (la (x.1,u,1,())) λcG=>letI b:=cT (u) cG.2.1;T (ag a0.2.2.1 0) (am n <| am v <| am n <| ob (la (x.1,b,8,())) λcQ=>letI g:=cT (b) cQ.2.1;T (ag cG.2.2.1 0) (am k <| ob (la (x.1,g,8,())) λa3=>letI l:=cT (g) a3.2.1;T (ag cQ.2.2.1 0) (am j <| ob (la (x.1,l,4,())) λa4=>letI r:=cT (l) a4.2.1;T (ag a3.2.2.1 0) (am j <| ob (la (x.1,r,8,())) λa5=>T (ag a4.2.2.1 0) (am m <| ob h λc=>am o <| ob i λd=>ob (T (a_ (ag a5.2.2.1 0)) (some (true,())) (ob (Cn ((a0.1,cG.1,cj (cj [0,0] (aa 0) cQ.1) (aa 1) a3.1,a4.1,a5.1,c.1,d.1,()),())) λe=>some (a_ e.1,()))) λp=>T p.1 (some (nB,2,())) (some ((a0.1,cG.1,cj (cj [0,0] (aa 0) cQ.1) (aa 1) a3.1,a4.1,a5.1,c.1,d.1,()),0,()))) (am m <| ob h λc=>am o <| ob i λd=>some (nB,2,()))) (am j <| ob (la (x.1,r,8,())) λa5=>am m <| ob h λc=>am o <| ob i λd=>some (nB,2,()))) (am j <| ob (la (x.1,l,4,())) λa4=>am j <| ob (la (x.1,(cT (l) a4.2.1),8,())) λa5=>am m <| ob h λc=>am o <| ob i λd=>some (nB,2,()))) (am k <| ob (la (x.1,g,8,())) λa3=>letI s:=cT (g) a3.2.1;am j <| ob (la (x.1,s,4,())) λa4=>am j <| ob (la (x.1,(cT (s) a4.2.1),8,())) λa5=>am m <| ob h λc=>am o <| ob i λd=>some (nB,2,()))) (am n <| am v <| am n <| ob (la (x.1,b,8,())) λcQ=>letI q:=cT (b) cQ.2.1;am k <| ob (la (x.1,q,8,())) λa3=>letI t:=cT (q) a3.2.1;am j <| ob (la (x.1,t,4,())) λa4=>am j <| ob (la (x.1,(cT (t) a4.2.1),8,())) λa5=>am m <| ob h λc=>am o <| ob i λd=>some (nB,2,()))
def NH(x:Unit):Option (Vo):=ob (ID (1,())) λ(a:cI)=>am (cY (ca 0 16 16) (cz 1 (aa 16))) (some ((a.1,bO (aa 16) (u8 0),()),()))
def QU(x:iG):Option (qc×Int×Unit):=letI b:=some (true,());ob (T (aJ x.1 0) b (T (aJ 1 x.1) b (some (a_ (ag (len x.2.1) 32),())))) λ(a:aY)=>T a.1 (some (p8,1,())) (ob (NH ()) λ(a:Vo)=>some ((x.1,x.2.1,0,a.1, -1,0,0,0,0,(0,Bz,()),ED,ol,0,0,aO V,We,aO (Int×V×Unit),aO (Int×List Int×Int×V×Unit),[0,0,0,0],()),0,()))
def aem(x:aY):Option (fm×Unit):=some ((x.1,aO (V×V×Unit),false,()),())
def Jc(x:p2):Option (N9):=ci (bN (λ(ab:VZ)=>letI b:=ab.2.1;letI c:=ab.2.2.1;T (aJ b 2) (ob (QU (b,x.1,())) λ(a:qc×Int×Unit)=>T (a_ (ag a.2.1 0)) (some (aE.rt (([p8,p8],(false,aO (V×V×Unit),false,()),aO (Int×Int×V×Unit),aO (Int×Int×V×Unit),[aO (Int×List Int×Int×V×Unit),aO (Int×List Int×Int×V×Unit)],()),a.2.1,()))) (am (aU b (bf 2)) (some (aE.nx (ab.1,i64 (av b 1),(cj c.1 (aa b) a.1,c.2),()))))) (some (aE.ex 0 (ab.1,b,c,())))) (0,0,([p8,p8],(false,aO (V×V×Unit),false,()),aO (Int×Int×V×Unit),aO (Int×Int×V×Unit),[aO (Int×List Int×Int×V×Unit),aO (Int×List Int×Int×V×Unit)],()),())) (λ(a:VZ)=>none) (λ(i:Nat) (a:VZ)=>am (bZ i 0) (ob (aem (x.2.1,())) λ(a6:fm×Unit)=>some ((a.2.2.1.1,a6.1,a.2.2.1.2.2),0,()))) λ(r:N9)=>some r
def qU(x:f9):Option (aY):=ob (T (bE 0 x.1) (some (aJ x.1 x.2.1,())) (some (false,()))) λ(a:aY)=>some (a.1,())
def QS(x:EW):Option (WE):=letI c:=x.1.2.2.2;letI a:=c.2.2.2.2.2;letI b:=a.2.2.2.2.2;some ((x.1.1,x.1.2.1,x.1.2.2.1,c.1,c.2.1,c.2.2.1,c.2.2.2.1,c.2.2.2.2.1,a.1,a.2.1,a.2.2.1,a.2.2.2.1,a.2.2.2.2.1,b.1,b.2.1,b.2.2.1,aO (Int×V×Unit),aO (Int×List Int×Int×V×Unit),b.2.2.2.2.2),b.2.2.2.1,b.2.2.2.2.1,())
def D_(x:wb):Option (wb):=letI a:=len x.1;am (cY (ca 0 a a) (ag a a)) (some (sub x.1 0 a,()))
def Bs(x:rO):Option (Eu):=am (aU x.2.1 (bf 2)) (some (x.1,(ak x.1.1.1 (aa x.2.1) p8,x.1.1.2.1,()),()))
def GU(x:de):Option (aY):=ob (T (bE 0 x.1) (some (aJ x.1 4,())) (some (false,()))) λ(a:aY)=>some (a.1,())
def GV(x:eO×Int×Bool×Unit):Option (uS):=letI b:=aU x.2.1 (bf 4);letI c:=aa x.2.1;ob (GU (x.2.1,())) λ(a:aY)=>T (a_ a.1) (some (x.1,1,())) (am b (T (y5 (ak x.1.1 c false) x.2.2.1) (some (x.1,9,())) (am b (am b (some ((cj x.1.1 c x.2.2.1,cj x.1.2.1 c yB,x.1.2.2),0,()))))))
def LH(x:uS):Option (uS):=ob (GV (x.1,x.2.1,false,())) λ(a:uS)=>some (a.1,a.2.1,())
def QT(x:e7):Option (e7):=letI c:=x.1.1.2.2;letI b:=c.2.2.2.2.2;letI d:=b.2.2.2.2;ob (LH (d.2.2.2.2.1,x.2.1,())) λ(a:uS)=>some (((x.1.1.1,x.1.1.2.1,c.1,c.2.1,c.2.2.1,c.2.2.2.1,c.2.2.2.2.1,b.1,b.2.1,b.2.2.1,b.2.2.2.1,d.1,d.2.1,d.2.2.1,d.2.2.2.1,a.1,d.2.2.2.2.2),x.1.2),a.2.1,())
def Je(x:rO):Option (o_):=ci (bN (λ(ab:ly)=>T (aJ ab.1 2) (ob (Bs (ab.2.1,ab.1,())) λ(a:Eu)=>ob (QT (a.2.1,x.2.1,())) λ(a6:e7)=>T (ag a6.2.1 0) (am (aU ab.1 (bf 2)) (some (aE.nx (i64 (av ab.1 1),((cj a.1.1.1 (aa ab.1) a6.1.1,a.1.1.2),a.1.2),())))) (some (aE.nx (i64 (av ab.1 1),a.1,())))) (some (aE.ex 0 (ab.1,ab.2.1,())))) (0,x.1,())) (λ(a:ly)=>none) (λ(i:Nat) (a:ly)=>letI d:=a.2.1.1;am (bZ i 0) (ob (IA (d.2.2.1,())) λ(a6:wb)=>letI g:=some (((d.1,d.2.1,a6.1,d.2.2.2),a.2.1.2),());ci (bN (λ(ab:f9)=>letI k:=ab.2.1;T (aJ k (len a6.1)) (am (aU k (len a6.1)) (T (ag (ak a6.1 (aa k) fG).2.1 x.2.1) (some (aE.ex 999999999 (k,k,()))) (some (aE.nx (ab.1,i64 (av k 1),()))))) (some (aE.ex 0 (ab.1,k,())))) (0,0,())) (λ(a:f9)=>none) (λ(i:Nat) (bR:f9)=>T (bZ i 999999999) (T (ag bR.1 (-1)) g (ci (bN (λ(ab:I3)=>letI e:=ab.2.2.1;letI l:=ab.2.1;letI p:=ak e (aa l) fG;T (aJ l (len e)) (am (aU l (len e)) (T (a_ (ag p.2.1 x.2.1)) (am (aU ab.1 (len e)) (some (aE.nx (i64 (av ab.1 1),i64 (av l 1),cj e (aa ab.1) p,())))) (some (aE.nx (ab.1,i64 (av l 1),e,()))))) (some (aE.ex 0 (ab.1,l,e,())))) (bR.1,i64 (av bR.1 1),a6.1,())) (λ(a:I3)=>none) (λ(i:Nat) (bS:Int×Int×List (Int × Int×V×Unit)×Unit)=>letI n:=aa bS.1;letI h:=len bS.2.2.1;letI s:=cd (aa h) n;letI b:=dU bS.2.2.1 n s (bO s fG);am (bZ i 0) (am (ca bS.1 h h) (am (ca 0 bS.1 (len b)) (some (((d.1,d.2.1,cut b (aa 0) (cd n (aa 0)),d.2.2.2),a.2.1.2),()))))) λ(r:Unit)=>none)) (am (bZ i 0) (T (ag (-1) (-1)) g (ci (bN (λ(ab:I3)=>letI f:=ab.2.2.1;letI m:=ab.2.1;letI q:=ak f (aa m) fG;T (aJ m (len f)) (am (aU m (len f)) (T (a_ (ag q.2.1 x.2.1)) (am (aU ab.1 (len f)) (some (aE.nx (i64 (av ab.1 1),i64 (av m 1),cj f (aa ab.1) q,())))) (some (aE.nx (ab.1,i64 (av m 1),f,()))))) (some (aE.ex 0 (ab.1,m,f,())))) (-1,i64 (av (-1) 1),a6.1,())) (λ(a:I3)=>none) (λ(i:Nat) (bS:I3)=>letI o:=aa bS.1;letI j:=len bS.2.2.1;letI t:=cd (aa j) o;letI c:=dU bS.2.2.1 o t
 (bO t fG);am (bZ i 0) (am (ca bS.1 j j) (am (ca 0 bS.1 (len c)) (some (((d.1,d.2.1,cut c (aa 0) (cd o (aa 0)),d.2.2.2),a.2.1.2),()))))) λ(r:Unit)=>none)))) λ(r:Unit)=>none)) λ(r:Unit)=>none
def Oa(x:o_):Option (o_):=ci (bN (λ(x:ly)=>T (aJ x.1 4) (ob (Je (x.2.1,x.1,())) λ(a:o_)=>some (aE.nx (i64 (av x.1 1),a.1,()))) (some (aE.ex 0 (x.1,x.2.1,())))) (0,x.1,())) (λ(a:ly)=>none) (λ(i:Nat) (a:ly)=>am (bZ i 0) (some (a.2.1,()))) λ(r:Unit)=>none
def yx(x:(e5×Unit)×Int×e6×Unit):Option (o_):=letI c:=aU x.2.1 (bf 2);letI d:=x.1.1.2.2;letI f:=aa x.2.1;am c (ob (QS (x.2.2.1.1,())) λ(a:WE)=>am c (am c (ob (x' (ak d.2.2.1 f (aO (Int×List Int×Int×V×Unit)),())) λ(a6:Ej)=>am (cz 128 (bQ (aT a6.1) (aT a.2.2.1))) (am c (ci (bN (λ(ab:ly)=>letI g:=ak a.2.1 (aa ab.1) j0;letI b:=(i64 (bi 1 x.2.1),g.1,g.2.1,());letI e:=ab.2.1;T (aJ ab.1 (len a.2.1)) (am (aU ab.1 (len a.2.1)) (ob (D_ (e.1.2.2.1,())) λ(bR:wb)=>am (cz 80 (bQ (aT bR.1) (aT [b]))) (ob (D_ (e.1.2.2.2.1,())) λ(bS:wb)=>am (cz 80 (bQ (aT bS.1) (aT [b]))) (some (aE.nx (i64 (av ab.1 1),((e.1.1,e.1.2.1,bv bR.1 [b],bv bS.1 [b],e.1.2.2.2.2),e.2),())))))) (some (aE.ex 0 (ab.1,e,())))) (0,((cj x.1.1.1 f a.1,x.2.2.1.2.1,d.1,d.2.1,cj d.2.2.1 f (bv a6.1 a.2.2.1),d.2.2.2),x.1.2),())) (λ(a:ly)=>none) (λ(i:Nat) (bR:ly)=>am (bZ i 0) (ob (T (ag a.1.2.2.1 8) (some (a_ (ag (ak x.1.1.1 f p8).2.2.1 8),())) (some (false,()))) λ(a:aY)=>T a.1 (ob (Oa (bR.2.1,())) λ(a:o_)=>some (a.1,())) (some (bR.2.1,())))) λ(r:Unit)=>none)))))
def Rg(x:c?):Option (de):=am (aU 0 (len x.1)) (am (aU 1 (len x.1)) (some (i64 (gM IntKind.i64 (i64 (ho IntKind.i64 (i64 (aI (ak x.1 (aa 0) (u8 0)))) (cB (u64 8)))) (i64 (aI (ak x.1 (aa 1) (u8 0))))),())))
def K6(x:(V×Int×Int×Unit)×V×Unit):Option (Vh):=ob (D' ([x.1.1,x.2.1],())) λ(a:c?)=>ci (bN (λ(x:Ve)=>letI j:=x.2.1;letI g:=len j;letI f:=x.2.2.1;letI h:=f.2.2;letI c:=fE f.2.1 g;letI b:=sub j c g;letI e:=some (aE.ex 0 (x.1,sub j c g,(f.1,i64 (bi f.2.1 c),h),()));am (ca c g g) (T (aJ (len b) 2) e (ob (Rg (sub j c g,())) λ(a:de)=>letI d:=i64 (av 2 a.1);ob (T (ag a.1 0) (some (true,())) (some (aJ 1024 a.1,()))) λ(a6:aY)=>T a6.1 (T (bE d (len b)) (some (aE.nx (x.1,sub j c g,(f.1,i64 (av 2 a.1),i64 (av h.1 1),h.2),()))) (some (aE.ex 0 (x.1,aO UInt8,(f.1,i64 (bi d (len b)),i64 (av h.1 1),h.2),())))) (T (aJ (len b) d) e (am (cY (ca 2 d (len b)) (ag d d)) (am (cz 32 (bQ (aT x.1) (aT [sub b 2 d]))) (am (ca d (len b) (len b)) (some (aE.nx (bv x.1 [sub b 2 d],sub b d (len b),(f.1,i64 (bi f.2.1 c),h),())))))))))) (aO V,a.1,x.1,())) (λ(a:Ve)=>none) (λ(i:Nat) (a:Ve)=>am (bZ i 0) (ob (mU (a.2.1,())) λ(a6:c?)=>some ((a6.1,a.2.2.1.2),a.1,()))) λ(r:Vh)=>some r
def LI(x:eO×Int×V×Unit):Option (eO×List V×Int×Unit):=letI b:=aU x.2.1 (bf 4);letI c:=aa x.2.1;ob (GU (x.2.1,())) λ(a:aY)=>T (a_ a.1) (some (x.1,aO V,1,())) (am b (T (a_ (ak x.1.1 c false)) (some (x.1,aO V,11,())) (am b (ob (K6 (ak x.1.2.1 c yB,x.2.2.1,())) λ(a:Vh)=>am b (some ((x.1.1,cj x.1.2.1 c a.1,x.1.2.2),a.2.1,0,()))))))
def H?(x:ti):Option (p2):=ob (M6 ((x.1,()),())) λ(a:qR)=>ci (bN (λ(ab:eH)=>T (aJ ab.2.1 3) (am (aU ab.2.1 (bf 3)) (ob (T (aJ 0 x.2.1) (some (ag (ak a.1 (aa ab.2.1) j0).1 x.2.1,())) (some (false,()))) λ(a6:aY)=>T a6.1 (some (aE.rt ((ak a.1 (aa ab.2.1) j0).2.1,true,()))) (some (aE.nx (ab.1,i64 (av ab.2.1 1),()))))) (some (aE.ex 0 (ab.1,ab.2.1,())))) (false,0,())) (λ(a:eH)=>none) (λ(i:Nat) (a:eH)=>am (bZ i 0) (some (aO UInt8,false,()))) λ(r:p2)=>some r
def DG(x:fm×V×V×V×Unit):Option (OV):=letI b:=x.1.2;letI c:=x.1.1;ob (DH (x.2.1,x.2.2.1,())) λ(a:c?)=>ob (De (a.1,x.2.2.2.1,())) λ(a:aY)=>T (a_ a.1) (some (x.1,false,())) (ob (HZ (x.1,x.2.1,x.2.2.1,())) λ(a:aY)=>T b.2.1 (T a.1 (some ((c,b.1,true,b.2.2),true,())) (some ((c,b.1,true,b.2.2),a_ c,()))) (T a.1 (some ((c,b.1,a_ a.1,b.2.2),true,())) (some ((c,b.1,a_ a.1,b.2.2),a_ c,()))))
def L1(x:BL):Option (e6×Nat×dr×Unit):=letI b:=some (false,());letI c:=x.1.1;letI d:=x.1.2;ob (KO (x.2.1,())) λ(a:dr×Int×Unit)=>letI e:=a.1.2.2;letI f:=w4 (a.1,());T (ag a.2.1 0) (ob (T (ag a.1.2.1 (i64 (bi 1 c.1))) (T (a_ (ag c.2.2.1 7)) (some (a_ (ag c.2.2.1 8),())) b) b) λ(a6:aY)=>T a6.1 (ob (z? (c.2.1,())) λ(bR:c?)=>T (ag a.1.1 2) (ob (H? (c.2.2.2.2.2.2.2.2.2.2.1,e.2.1,())) λ(bS:p2)=>ob (uk (c.2.2.1,())) λ(dm:aY)=>ob (T dm.1 (ob (nn (c,())) λ(j4:s2)=>T (uX (λ(p q:Int)=>ag p q) e.1 j4.1) (some (bS.2.1,())) b) b) λ(j4:aY)=>T j4.1 (ob f λ(oA:cI)=>ob (DG (d.1,bS.1,oA.1,e.2.2.2.2.1,())) λ(l1:OV)=>T l1.2.1 (some ((c,l1.1,d.2),0,a.1,())) (some ((c,l1.1,d.2),5,nB,()))) (some (x.1,13,nB,()))) (ob f λ(bS:cI)=>ob (DG (d.1,bR.1,bS.1,e.2.2.2.2.1,())) λ(dm:OV)=>T dm.2.1 (some ((c,dm.1,d.2),0,a.1,())) (some ((c,dm.1,d.2),5,nB,())))) (some (x.1,13,nB,()))) (some (x.1,2,nB,()))
def I?(x:de):Option (Vs):=am (bE 0 (dh (dh x.1 1024) 64)) (some (i64 (fg (dh x.1 1024) 64),u64 (ho IntKind.u64 (cB (u64 1)) (dh (dh x.1 1024) 64)),()))
def N_(x:Bb):Option (aY):=ob (I? (x.2.1,())) λ(a:Vs)=>am (aU a.1 (bf 16)) (some (a_ (ag (cB (u64 (iI IntKind.u64 (cB (ak x.1.2.1 (aa a.1) (u64 0))) (cB a.2.1)))) (cB (u64 0))),()))
def V0(x:Bb):Option (aY):=letI b:=some (false,());letI c:=x.2.1;ob (T (bE 0 c) (T (bE c 4611686018427387904) (T (bE x.1.1 c) (some (true,())) (T (bE (i64 (bi x.1.1 1024)) c) (ob (N_ (x.1,c,())) λ(a:aY)=>some (a_ a.1,())) b)) b) b) λ(a:aY)=>some (a.1,())
def yu(x:(Int×List UInt64×Unit)×Int×Bool×Unit):Option (I5):=letI e:=x.1.2;ob (I? (x.2.1,())) λ(a:Vs)=>letI d:=aa a.1;letI b:=u64 (gM IntKind.u64 (cB (ak e.1 d (u64 0))) (cB a.2.1));letI c:=aU a.1 (bf 16);am c (am c (T (a_ x.2.2.1) (am c (am c (some ((x.1.1,cj (cj e.1 d b) d (u64 (fA IntKind.u64 (cB (ak (cj e.1 d b) d (u64 0))) (cB a.2.1))),e.2),())))) (some ((x.1.1,cj e.1 d b,e.2),()))))
def Ev(x:Bb):Option (Bb):=letI c:=x.2.1;letI b:=i64 (bi c x.1.1);letI d:=fE (cT b 0) 1024;letI e:=i64 (av c 1);ob (T (aJ c 0) (some (true,())) (some (aJ 4611686018427387904 c,()))) λ(a:aY)=>T a.1 (some (x.1,1,())) (ob (V0 (x.1,c,())) λ(a:aY)=>T (a_ a.1) (some (x.1,6,())) (T (bE 1024 b) (ci (bN (λ(ab:Eo)=>T (aJ ab.1 d) (ob (yu (ab.2.1,i64 (av ab.2.1.1 ab.1),false,())) λ(a:I5)=>some (aE.nx (i64 (av ab.1 1),a.1,()))) (some (aE.ex 0 (ab.1,ab.2.1,())))) (0,(x.1.1,Bz,x.1.2.2),())) (λ(a:Eo)=>none) (λ(i:Nat) (a:Eo)=>am (bZ i 0) (ob (yu ((cT a.2.1.1 e,a.2.1.2),c,true,())) λ(a:I5)=>some (a.1,0,()))) λ(r:Bb)=>some r) (ci (bN (λ(ab:Eo)=>T (aJ ab.1 d) (ob (yu (ab.2.1,i64 (av ab.2.1.1 ab.1),false,())) λ(a:I5)=>some (aE.nx (i64 (av ab.1 1),a.1,()))) (some (aE.ex 0 (ab.1,ab.2.1,())))) (0,x.1,())) (λ(a:Eo)=>none) (λ(i:Nat) (a:Eo)=>am (bZ i 0) (ob (yu ((cT a.2.1.1 e,a.2.1.2),c,true,())) λ(a:I5)=>some (a.1,0,()))) λ(r:Bb)=>some r)))
def L0(x:BL):Option (e6×dr×Int×Unit):=ob (L1 (x.1,x.2.1,())) λ(a:e6×Nat×dr×Unit)=>letI d:=a.1.1.2;letI b:=d.2.2.2;letI c:=b.2.2.2;letI e:=a.2.2.1;letI f:=c.2.2.2;T (bZ a.2.1 0) (T (a_ (ag e.1 2)) (some (a.1,e,0,())) (ob (Ev (c.2.2.1,e.2.2.2.2.1,())) λ(a6:Bb)=>T (ag a6.2.1 0) (ob (T (ag e.2.2.2.1 f.1.2.2.1.1) (some (a_ (ag d.2.1 4),())) (some (false,()))) λ(bR:aY)=>T bR.1 (ob (AQ (f.1,())) λ(bS:ti)=>some (((a.1.1.1,d.1,d.2.1,d.2.2.1,b.1,b.2.1,b.2.2.1,c.1,c.2.1,a6.1,bS.1,f.2),a.1.2),e,0,())) (some (((a.1.1.1,d.1,d.2.1,d.2.2.1,b.1,b.2.1,b.2.2.1,c.1,c.2.1,a6.1,f),a.1.2),e,0,()))) (ob (ke (a.1,bf 6,())) λ(a:bK)=>some (a.1,nB,bf 6,())))) (T (bZ a.2.1 2) (ob (ke (a.1,bf 2,())) λ(a:bK)=>some (a.1,nB,bf 2,())) (T (bZ a.2.1 13) (ob (ke (a.1,bf 13,())) λ(a:bK)=>some (a.1,nB,bf 13,())) (am (bZ a.2.1 5) (ob (ke (a.1,bf 5,())) λ(a:bK)=>some (a.1,nB,bf 5,())))))
def FO(x:wH):Option (bK):=letI b:=x.2.1;letI c:=some (false,());letI d:=some (b.1,());letI e:=ag b.2.1 101;letI f:=ag b.2.1 201;ob (T e d c) λ(a:aY)=>T a.1 (ob (MZ (x.1,b,())) λ(a:bK)=>some (a.1,())) (T e (ob (MX (x.1,b,())) λ(a:bK)=>some (a.1,())) (ob (T f d c) λ(a:aY)=>T a.1 (ob (Rj (x.1,b,())) λ(a:bK)=>some (a.1,())) (T f (ob (K9 (x.1,b,())) λ(a:bK)=>some (a.1,())) (ob (Nv (x.1,b,())) λ(a:bK)=>some (a.1,())))))
def FM(x:BL):Option (bK):=ob (L0 (x.1,x.2.1,())) λ(a:e6×dr×Int×Unit)=>letI d:=a.2.1;letI b:=ag d.1 2;letI c:=d.2.2.2.2.2.1;T (a_ (ag a.2.2.1 0)) (some (a.1,())) (T b (ob (Nt (a.1,())) λ(a6:bK)=>ob (Dr (c,())) λ(bR:q2)=>T (ag bR.2.1 0) (T b (ob (FO (a6.1,bR.1,())) λ(a:bK)=>ob (j8 (a.1,())) λ(a:bK)=>some (a.1,())) (ob (Is (a6.1,d,bR.1,())) λ(a:bK)=>ob (j8 (a.1,())) λ(a:bK)=>some (a.1,()))) (ob (C5 (c,())) λ(bS:mn)=>T (ag bS.2.1 0) (T b (ob (F4 (a6.1,d,bS.1,())) λ(a:bK)=>ob (j8 (a.1,())) λ(a:bK)=>some (a.1,())) (ob (ke (a6.1,2,())) λ(a:bK)=>ob (j8 (a.1,())) λ(a:bK)=>some (a.1,()))) (ob (ke (a6.1,2,())) λ(a:bK)=>ob (j8 (a.1,())) λ(a:bK)=>some (a.1,())))) (ob (Dr (c,())) λ(a6:q2)=>T (ag a6.2.1 0) (T b (ob (FO (a.1,a6.1,())) λ(a:bK)=>ob (j8 (a.1,())) λ(a:bK)=>some (a.1,())) (ob (Is (a.1,d,a6.1,())) λ(a:bK)=>ob (j8 (a.1,())) λ(a:bK)=>some (a.1,()))) (ob (C5 (c,())) λ(bR:mn)=>T (ag bR.2.1 0) (T b (ob (F4 (a.1,d,bR.1,())) λ(a:bK)=>ob (j8 (a.1,())) λ(a:bK)=>some (a.1,())) (ob (ke (a.1,2,())) λ(a:bK)=>ob (j8 (a.1,())) λ(a:bK)=>some (a.1,()))) (ob (ke (a.1,2,())) λ(a:bK)=>ob (j8 (a.1,())) λ(a:bK)=>some (a.1,())))))
def KL(x:e6×Int×V×Unit):Option (bK):=letI d:=x.1.1.2.2.2;letI f:=d.2.2.2;letI b:=f.2.2.2;letI g:=b.2.2.2;letI c:=g.2.2.2;letI h:=aU x.2.1 (bf 4);letI j:=aU 0 (bf 4);ob (LI (c.1,x.2.1,x.2.2.1,())) λ(a:eO×List V×Int×Unit)=>T (a_ (ag a.2.2.1 0)) (some (x.1,())) (am j (am h (am h (am j (ci (bN (λ(x:BK)=>letI e:=some (aE.ex 0 (x.1,x.2.1,()));T (aJ x.1 (len a.2.1)) (am (aU x.1 (len a.2.1)) (T (ag x.2.1.1.2.2.1 8) e (ob (FM (x.2.1,ak a.2.1 (aa x.1) (aO UInt8),())) λ(a:bK)=>some (aE.nx (i64 (av x.1 1),a.1,()))))) e) (0,((x.1.1.1,x.1.1.2.1,x.1.1.2.2.1,d.1,d.2.1,d.2.2.1,f.1,f.2.1,f.2.2.1,b.1,b.2.1,b.2.2.1,g.1,g.2.1,g.2.2.1,a.1,c.2.1,c.2.2.1,cj c.2.2.2.1 (aa 0) (i64 (av (ak c.2.2.2.1 (aa 0) 0) (i64 (bi (ak a.1.2.1 (aa x.2.1) yB).2.2.1 (ak c.1.2.1 (aa x.2.1) yB).2.2.1)))),c.2.2.2.2),x.1.2),())) (λ(a:BK)=>none) (λ(i:Nat) (a:BK)=>am (bZ i 0) (some (a.2.1,()))) λ(r:bK)=>some r)))))
def Ew(x:(e5×Unit)×Int×Int×V×Unit):Option (o_):=ob (Bs (x.1,x.2.1,())) λ(a:Eu)=>ob (KL (a.2.1,x.2.2.1,x.2.2.2.1,())) λ(a6:bK)=>ob (yx (a.1,x.2.1,a6.1,())) λ(a:o_)=>some (a.1,())
def Jf(x:wh):Option (rO):=letI i:=x.1.1.2;letI d:=x.2.1.2.2;letI k:=aa d.1;letI c:=ak i.2.1 k fG;letI m:=c.2.2.1;letI h:=i64 (av d.1 1);letI j:=len m;letI o:=d.2.1;letI p:=cd k (aa 0);ob (qU (d.1,len i.2.1,())) λ(a:aY)=>T (a_ a.1) (some (x.1,12,())) (am (aU d.1 (len i.2.1)) (ob (IA (i.2.1,())) λ(a:wb)=>letI g:=len a.1;letI b:=cut a.1 (aa h) (cd (aa g) (aa h));letI e:=bQ p (aT b);letI f:=dU a.1 (bQ (aa 0) p) (aT b) b;letI l:=ak a.1 k fG;letI n:=cd (aa g) (aa (bf e));ob (T (aJ 0 o) (some (aJ o j,())) (some (false,()))) λ(a6:aY)=>T a6.1 (am (ca o j j) (am (aU d.1 g) (am (ca 0 o j) (ob (Ew (((x.1.1.1,i.1,cj a.1 k (l.1,l.2.1,sub m o j,l.2.2.2),i.2.2),x.1.2),c.1,c.2.1,sub m 0 o,())) λ(a:o_)=>some (a.1,0,()))))) (am (cY (ca d.1 h g) (bE g g)) (T (ag d.1 h) (ob (Ew (((x.1.1.1,i.1,a.1,i.2.2),x.1.2),c.1,c.2.1,m,())) λ(a:(e5 × Unit)×Unit)=>some (a.1,0,())) (am (ca 0 d.1 g) (am (ca h g g) (am (i6 (bQ (aa 0) e) (bQ (aT a.1) 1)) (am (cY (i6 (aa 0) (bQ (aT f) 1)) (ca (bf e) g (bi (len f) (bf (aa 0))))) (ob (Ew (((x.1.1.1,i.1,cut (dU f (bQ (aa 0) (aa (bf e))) n (bO n fG)) (aa 0) e,i.2.2),x.1.2),c.1,c.2.1,m,())) λ(a:o_)=>some (a.1,0,()))))))))))
def M4(x:tj):Option (tj):=letI b:=x.1.2.2;letI a:=i64 (bi b.2.1 1);T (ag (cT 0 a) 0) (some ((x.1.1,j0,b.1,cT 0 a,b.2.2),())) (some ((x.1.1,x.1.2.1,b.1,cT 0 a,b.2.2),()))
def B1(x:eS×Unit):Option (OT):=letI b:=x.1.2.2.2;letI c:=aJ 0 b.1;letI d:=bi x.1.2.2.1 1;ob (Ff (x.1,())) λ(a:aY)=>T a.1 (some (x.1,false,false,())) (T (aJ 0 (i64 d)) (some ((x.1.1,x.1.2.1,i64 d,b),false,false,())) (T c (some ((x.1.1,x.1.2.1,8,i64 (bi b.1 1),b.2),aJ 0 b.1,a_ c,())) (some (ol,aJ 0 b.1,a_ c,()))))
def Cl(x:e6×eS×Unit):Option (bK):=letI b:=x.2.1.2.2.2.2.1;T (ag x.2.1.1 1) (ob (C? (x.1,0,b,())) λ(a:e7)=>some (a.1,())) (ob (np (x.1,b,())) λ(a:e7)=>some (a.1,()))
def Cm(x:bK):Option (bK):=T (ag x.1.1.2.2.1 4) (ob (H6 (x.1,())) λ(a:bK)=>some (a.1,())) (T (ag x.1.1.2.2.1 5) (ob (K' (x.1,())) λ(a:bK)=>some (a.1,())) (ob (Nu (x.1,())) λ(a:bK)=>some (a.1,())))
def FN(x:bK):Option (bK):=letI e:=x.1.1;letI c:=e.2.2;letI b:=c.2.2.2;letI d:=b.2.2.2;letI f:=d.2.2;letI g:=c.2.2.1;letI h:=b.2.2.1;letI i:=e.2.1;letI j:=c.2.1;letI k:=b.2.1;letI l:=d.2.1;letI m:=x.1.2;letI n:=f.2.2;letI o:=B1 (f.2.1,());ob (T (ag c.1 7) (some (true,())) (some (ag c.1 8,()))) λ(a:aY)=>T a.1 (some (x.1,())) (ob (uk (c.1,())) λ(a:aY)=>T a.1 (ob (M4 (f.1,())) λ(a:tj)=>T (ag d.1 4611686018427387904) (ob (It (((e.1,i,c.1,j,g,b.1,k,h,d.1,l,a.1,f.2),m),())) λ(a:e7)=>some (a.1,())) (ob o λ(a6:OT)=>T a6.2.1 (ob (Cl (((e.1,i,c.1,j,g,b.1,k,h,d.1,l,a.1,a6.1,n),m),a6.1,())) λ(a:bK)=>ob (j8 (a.1,())) λ(a:bK)=>some (a.1,())) (T a6.2.2.1 (ob (Cm (((e.1,i,c.1,j,g,b.1,k,h,d.1,l,a.1,a6.1,n),m),())) λ(a:bK)=>ob (j8 (a.1,())) λ(a:bK)=>some (a.1,())) (ob (j8 (((e.1,i,c.1,j,g,b.1,k,h,d.1,l,a.1,a6.1,n),m),())) λ(a:bK)=>some (a.1,()))))) (ob o λ(a:OT)=>T a.2.1 (ob (Cl (((e.1,i,c.1,j,g, b.1,k,h,d.1,l,f.1,a.1,n),m),a.1,())) λ(a:bK)=>ob (j8 (a.1,())) λ(a:bK)=>some (a.1,())) (T a.2.2.1 (ob (Cm (((e.1,i,c.1,j,g,b.1,k,h,d.1,l,f.1,a.1,n),m),())) λ(a:bK)=>ob (j8 (a.1,())) λ(a:bK)=>some (a.1,())) (ob (j8 (((e.1,i,c.1,j,g,b.1,k,h,d.1,l,f.1,a.1,n),m),())) λ(a:bK)=>some (a.1,())))))
def N'(x:N9):Option (I'):=ci (bN (λ(ab:ly)=>T (aJ ab.1 (cT 0 x.2.1)) (ci (bN (λ(x:ly)=>ob (T (aJ 0 x.1) (some (aJ 0 (len x.2.1.1.2.2.1),())) (some (false,()))) λ(a:aY)=>T a.1 (ob (Jf (x.2.1,ol,())) λ(a:rO)=>some (aE.nx (i64 (bi x.1 1),a.1,()))) (some (aE.ex 2 (x.1,x.2.1,())))) (len ab.2.1.1.2.2.1,ab.2.1,())) (λ(a:ly)=>none) (λ(i:Nat) (a:ly)=>am (bZ i 2) (ci (bN (λ(x:ly)=>T (aJ x.1 2) (ob (Bs (x.2.1,x.1,())) λ(a:Eu)=>ob (FN (a.2.1,())) λ(a6:bK)=>ob (yx (a.1,x.1,a6.1,())) λ(a:o_)=>some (aE.nx (i64 (av x.1 1),a.1,()))) (some (aE.ex 4 (x.1,x.2.1,())))) (0,a.2.1,())) (λ(a:ly)=>none) (λ(i:Nat) (a:ly)=>am (bZ i 4) (some (aE.nx (i64 (av ab.1 1),a.2.1,())))) λ(r:I')=>some (aE.rt r))) λ(r:I')=>some (aE.rt r)) (some (aE.ex 0 (ab.1,ab.2.1,())))) (0,(x.1,()),())) (λ(a:ly)=>none) (λ(i:Nat) (a:ly)=>am (bZ i 0) (some (a.2.1.1,()))) λ(r:I')=>some r
def Od(x:wh):Option (rO):=letI h:=x.2.1.2.2.1;letI c:=cd (aa h) (aa 0);letI d:=i64 (av h 1);letI i:=x.1.1.2;ob (qU (h,len i.2.1,())) λ(a:aY)=>T (a_ a.1) (some (x.1,12,())) (ob (IA (i.2.1,())) λ(a:wb)=>letI e:=len a.1;letI b:=cut a.1 (aa d) (cd (aa e) (aa d));letI f:=bQ c (aT b);letI g:=dU a.1 (bQ (aa 0) c) (aT b) b;letI j:=cd (aa e) (aa (bf f));am (cY (ca h d e) (bE e e)) (T (ag h d) (some (((x.1.1.1,i.1,a.1,i.2.2),x.1.2),0,())) (am (ca 0 h e) (am (ca d e e) (am (i6 (bQ (aa 0) f) (bQ (aT a.1) 1)) (am (cY (i6 (aa 0) (bQ (aT g) 1)) (ca (bf f) e (bi (len g) (bf (aa 0))))) (some (((x.1.1.1,i.1,cut (dU g (bQ (aa 0) (aa (bf f))) j (bO j fG)) (aa 0) f,i.2.2),x.1.2),0,()))))))))
def N?(x:wh):Option (rO):=ob (qU (x.2.1.2.2.1,len x.1.1.2.2.2.1,())) λ(a:aY)=>T (a_ a.1) (some (x.1,12,())) (ob (D_ (x.1.1.2.2.1,())) λ(a:wb)=>am (aU x.2.1.2.2.1 (len x.1.1.2.2.2.1)) (am (cz 80 (bQ (aT a.1) (aT [ak x.1.1.2.2.2.1 (aa x.2.1.2.2.1) fG]))) (some (((x.1.1.1,x.1.1.2.1,bv a.1 [ak x.1.1.2.2.2.1 (aa x.2.1.2.2.1) fG],x.1.1.2.2.2),x.1.2),0,()))))
def Og(x:wh):Option (rO):=letI e:=x.1.1.2.2;letI c:=x.2.1.2.2;letI b:=ak e.2.1 (aa c.1) fG;letI f:=aU c.1 (len e.2.1);letI h:=aa c.2.1;letI i:=some (true,());letI j:=len c.2.2.1;ob (qU (c.1,len e.2.1,())) λ(a:aY)=>ob (T (a_ a.1) i (am f (ob (qU (c.2.1,len b.2.2.1,())) λ(a:aY)=>T (a_ a.1) i (some (ag j 0,()))))) λ(a:aY)=>T a.1 (some (x.1,12,())) (am f (ob (mU (b.2.2.1,())) λ(a:c?)=>letI d:=u8 (fA IntKind.u8 (aI (ak a.1 h (u8 0))) (aI (ak c.2.2.1 (aa 0) (u8 0))));letI g:=aU c.2.1 (len a.1);am g (am (aU 0 j) (am g (ob (D_ (e.1,())) λ(a6:wb)=>am (cz 80 (bQ (aT a6.1) (aT [(b.1,b.2.1,cj a.1 h d,b.2.2.2)]))) (some (((x.1.1.1,x.1.1.2.1,bv a6.1 [(b.1,b.2.1,cj a.1 h d,b.2.2.2)],e.2),x.1.2),0,())))))))
def Oe(x:wh):Option (rO):=letI b:=x.2.1.2;ob (qU (b.1,2,())) λ(a:aY)=>T (a_ a.1) (some (x.1,1,())) (ob (Ew (x.1,b.1,b.2.1,b.2.2.2.1,())) λ(a:o_)=>some (a.1,0,()))
def LJ(x:uS):Option (uS):=letI b:=aU x.2.1 (bf 4);ob (GV (x.1,x.2.1,true,())) λ(a:uS)=>T (ag a.2.1 0) (am b (am b (some ((a.1.1,a.1.2.1,cj a.1.2.2.1 (aa x.2.1) (i64 (av (ak a.1.2.2.1 (aa x.2.1) 0) 1)),a.1.2.2.2),a.2.1,())))) (some (a.1,a.2.1,()))
def KN(x:e7):Option (e7):=letI c:=x.1.1.2.2;letI b:=c.2.2.2.2.2;letI d:=b.2.2.2.2;T (ag c.1 8) (some (x.1,11,())) (ob (LJ (d.2.2.2.2.1,x.2.1,())) λ(a:uS)=>T (a_ (ag a.2.1 0)) (some (x.1,a.2.1,())) (ob (j8 (((x.1.1.1,x.1.1.2.1,c.1,c.2.1,c.2.2.1,c.2.2.2.1,c.2.2.2.2.1,b.1,b.2.1,b.2.2.1,b.2.2.2.1,d.1,d.2.1,d.2.2.1,d.2.2.2.1,a.1,d.2.2.2.2.2),x.1.2),())) λ(a:bK)=>some (a.1,0,())))
def Of(x:wh):Option (rO):=letI b:=x.2.1.2.2.1;letI c:=ak x.1.1.1 (aa 0) p8;letI d:=ak x.1.1.1 (aa 1) p8;letI e:=some (true,());letI f:=aU 0 (bf 2);letI g:=aU 1 (bf 2);letI h:=aU b (bf 4);am f (ob (T (ag c.2.2.1 8) e (am g (some (ag d.2.2.1 8,())))) λ(a:aY)=>T a.1 (some (x.1,11,())) (ob (qU (b,4,())) λ(a:aY)=>T (a_ a.1) (some (x.1,1,())) (am f (am h (ob (T (ak c.2.2.2.2.2.2.2.2.2.2.2.2.2.2.2.1.1 (aa b) false) e (am g (am h (some (ak d.2.2.2.2.2.2.2.2.2.2.2.2.2.2.2.1.1 (aa b) false,()))))) λ(a:aY)=>T a.1 (some (x.1,9,())) (ci (bN (λ(ab:ly)=>T (aJ ab.1 2) (ob (Bs (ab.2.1,ab.1,())) λ(a:Eu)=>ob (KN (a.2.1,b,())) λ(a6:e7)=>ob (yx (a.1,ab.1,a6.1,())) λ(a:o_)=>some (aE.nx (i64 (av ab.1 1),a.1,()))) (some (aE.ex 1 (ab.1,ab.2.1,())))) (0,x.1,())) (λ(a:ly)=>none) (λ(i:Nat) (a:ly)=>am (bZ i 1) (some (a.2.1,0,()))) λ(r:Unit)=>none))))))
def Oc(x:wh):Option (rO):=ob (qU (x.2.1.2.2.1,4,())) λ(a:aY)=>T (a_ a.1) (some (x.1,1,())) (ob (Je (x.1,x.2.1.2.2.1,())) λ(a:o_)=>some (a.1,0,()))
def Ob(x:wh):Option (rO):=T (aJ x.2.1.2.2.1 0) (some (x.1,1,())) (ob (N' (x.1.1,fE x.2.1.2.2.1 100,())) λ(a:I')=>some ((a.1,x.1.2),0,()))
def KM(x:e6×eS×Unit):Option (e7):=letI b:=x.2.1.1;letI c:=x.2.1.2.2;letI d:=x.1.1.2;T (ag b 0) (ob (La (x.1,c.2.2.1,())) λ(a:e7)=>some (a.1,a.2.1,())) (T (ag b 1) (ob (It (x.1,())) λ(a:e7)=>some (a.1,a.2.1,())) (T (ag b 2) (ob (Nw (x.1,())) λ(a:e7)=>some (a.1,a.2.1,())) (T (ag b 3) (ob (Ns (x.1,())) λ(a:e7)=>some (a.1,a.2.1,())) (T (ag b 4) (ob (MY (x.1,c.2.2.1,())) λ(a:e7)=>some (a.1,a.2.1,())) (T (ag b 5) (ob (K_ (x.1,c.1,())) λ(a:e7)=>some (a.1,a.2.1,())) (T (ag b 6) (ob (FN (x.1,())) λ(a:bK)=>some (a.1,0,())) (T (ag b 14) (ob (D6 (x.1,())) λ(a:bK)=>some (a.1,0,())) (T (ag b 15) (T (a_ (ag d.2.1 8)) (some (x.1,9,())) (ob (Nr (x.1,())) λ(a:bK)=>some (a.1,0,()))) (T (ag b 16) (some (((x.1.1.1,d.1,d.2.1,d.2.2.1,c.1,d.2.2.2.2),x.1.2),0,())) (some (x.1,1,())))))))))))
def p3(x:wh):Option (rO):=letI b:=x.2.1.2.1;ob (qU (b,2,())) λ(a:aY)=>T (a_ a.1) (some (x.1,1,())) (ob (Bs (x.1,b,())) λ(a:Eu)=>ob (KM (a.2.1,x.2.1,())) λ(a6:e7)=>ob (yx (a.1,b,a6.1,())) λ(a:o_)=>some (a.1,a6.2.1,()))
def Jd(x:e5×eS×Unit):Option (N9):=letI c:=x.2.1;letI b:=p3 ((x.1,()),c,());T (ag c.1 7) (ob (Jf ((x.1,()),c,())) λa=>some (a.1.1,a.2.1,())) <| T (ag c.1 8) (ob (Od ((x.1,()),c,())) λa=>some (a.1.1,a.2.1,())) <| T (ag c.1 9) (ob (N? ((x.1,()),c,())) λa=>some (a.1.1,a.2.1,())) <| T (ag c.1 10) (ob (Og ((x.1,()),c,())) λa=>some (a.1.1,a.2.1,())) <| T (ag c.1 11) (ob (Oe ((x.1,()),c,())) λa=>some (a.1.1,a.2.1,())) <| T (ag c.1 12) (ob (Of ((x.1,()),c,())) λa=>some (a.1.1,a.2.1,())) <| T (ag c.1 13) (ob (Oc ((x.1,()),c,())) λa=>some (a.1.1,a.2.1,())) <| T (ag c.1 17) (ob (Ob ((x.1,()),c,())) λa=>some (a.1.1,a.2.1,())) <| T (ag c.1 0) (ob b λa=>some (a.1.1,a.2.1,())) <| T (ag c.1 1) (ob b λa=>some (a.1.1,a.2.1,())) <| T (ag c.1 2) (ob b λa=>some (a.1.1,a.2.1,())) <| T (ag c.1 3) (ob b λa=>some (a.1.1,a.2.1,())) <| T (ag c.1 4) (ob b λa=>some (a.1.1,a.2.1,())) <| T (ag c.1 5) (ob b λa=>some (a.1.1,a.2.1,())) <| T (ag c.1 6) (ob b λa=>some (a.1.1,a.2.1,())) <| T (ag c.1 14) (ob b λa=>some (a.1.1,a.2.1,())) <| T (ag c.1 15) (ob b λa=>some (a.1.1,a.2.1,())) <| T (ag c.1 16) (ob b λa=>some (a.1.1,a.2.1,())) <| some (x.1,1,())
end Yp
namespace Yp
open Go Go.Proofs Tryz
set_option maxRecDepth 100000
abbrev yy:ae:=.int .u32
abbrev wl:ae:=.int .u8
abbrev gP:ae:=.unit
abbrev Wa:ae:=.pair wl (.pair wl gP)
abbrev p5:ae:=.sl wl
abbrev Ji:ae:=.pair p5 gP
abbrev ahE:ae:=.pair wl (.pair (.bool) (.pair yy (.pair yy Ji)))
abbrev yz:ae:=.pair p5 Ji
abbrev Ol:ae:=.pair (.bool) (.pair (.sl yz) (.pair (.bool) gP))
abbrev fs:ae:=.int .i64
abbrev ahG:ae:=.pair fs (.pair fs (.pair (.bool) (.pair wl gP)))
abbrev ahF:ae:=.pair fs (.pair fs (.pair (.ar 2 fs) (.pair fs (.pair fs yz))))
abbrev V?: ae:=.pair fs (.pair (.ar 16 (.int .u64)) gP)
abbrev EA:ae:=.pair fs (.pair fs gP)
abbrev V':ae:=.pair (.ar 4 (.bool)) (.pair (.ar 4 (.pair p5 EA)) (.pair (.ar 4 fs) (.pair fs gP)))
abbrev Jj:ae:=.pair (.bool) (.pair fs (.pair fs (.pair fs (.pair fs (.pair p5 (.pair p5 (.pair fs gP)))))))
abbrev ms:ae:=.pair fs Ji
abbrev Ez:ae:=.pair fs ms
abbrev Oj:ae:=.pair fs (.pair (.sl ms) gP)
abbrev Jh:ae:=.pair ms (.pair ms (.pair ms EA))
abbrev Ey:ae:=.pair fs (.pair (.ar 2 fs) ms)
abbrev Bu:ae:=.pair fs (.pair fs Ez)
abbrev wk:ae:=.pair fs (.pair p5 (.pair fs (.pair yz (.pair fs (.pair fs (.pair fs (.pair fs (.pair fs (.pair V? (.pair Jh (.pair Bu (.pair fs (.pair fs (.pair (.sl p5) (.pair V' (.pair (.sl ms) (.pair (.sl Ey) (.pair (.ar 4 fs) gP))))))))))))))))))
abbrev Ok:ae:=.pair wk (.pair Ol gP)
abbrev Om:ae:=.pair (.ar 2 wk) (.pair Ol (.pair (.sl Ez) (.pair (.sl Ez) (.pair (.ar 2 (.sl Ey)) gP))))
def OS:List (Nat×ae):=[(1,(.op 0)),(2,fs),(3,fs),(4,(.bool)),(5,wl),(6,wl),(7,ahG),(8,ahG),(9,(.str)),(10,(.str)),(11,(.str)),(12,(.int .u64)),(13,(.pair (.str) (.pair (.int .u64) gP))),(14,(.pair (.str) (.pair (.int .u64) gP))),(15,(.op 3)),(16,(.op 3)),(17,(.op 3)),(18,(.pair (.op 3) gP)),(19,(.pair (.op 3) gP)),(20,(.op 1)),(21,(.int .i32)),(22,yy),(23,p5),(24,ahE),(25,ahE),(26,(.op 0)),(27,(.sl (.str))),(28,Bu),(29,Bu),(30,(.op 0)),(31,(.op 0)),(33,(.op 0)),(34,(.op 0)),(35,(.op 0)),(36,yz),(37,yz),(38,(.int .u64)),(39,(.ar 16 (.int .u64))),(40,V?),(41,V?),(42,ms),(43,ms),(44,Jh),(45,Jh),(46,Bu),(47,Bu),(48,(.sl p5)),(49,(.ar 4 (.bool))),(50,(.pair p5 EA)),(51,(.pair p5 EA)),(52,(.ar 4 (.pair p5 EA))),(53,(.ar 4 fs)),(54,V'),(55,V'),(56,(.sl ms)),(57,(.sl Ey)),(58,wk),(59,wk),(60,(.ar 2 wk)),(61,(.sl yz)),(62,Ol),(63,Ol),(64,(.sl Ez)),(65,(.ar 2 (.sl Ey))),(66,Om),(67,Om),(69,(.op 0)),(70,(.op 0)),(71,(.op 0)),(72,(.op 0)),(73,(.op 0)),(74,(.pair fs (.pair (.str) gP))),(75,(.pair fs (.pair (.str) gP))),(77,(.op 2)),(78,(.op 0)),(79,(.op 0)),(80,(.op 3)),(81,(.op 0)),(82,(.op 0)),(83,(.op 0)),(84,fs),(86,(.op 0)),(87,(.op 0)),(88,(.op 0)),(90,(.op 0)),(91,(.op 0)),(92,(.op 3)),(94,(.op 0)),(95,(.op 0)),(96,(.op 3)),(97,(.ar 2 fs)),(98,Ey),(99,Ey),(100,(.sl fs)),(101,(.op 0)),(102,(.op 0)),(104,(.op 2)),(105,(.op 0)),(106,(.op 3)),(107,(.pair Om gP)),(108,(.pair Om gP)),(110,(.op 0)),(112,(.op 0)),(113,(.op 0)),(114,(.op 0)),(115,(.op 0)),(117,(.op 0)),(119,(.op 0)),(120,(.ar 9 (.str))),(121,(.int .u64)),(122,(.op 3)),(123,(.pair (.op 3) Ji)),(124,(.pair (.op 3) Ji)),(125,(.op 0)),(126,(.op 1)),(127,(.op 1)),(129,(.op 0)),(130,(.op 0)),(131,(.op 0)),(132,(.ar 10 fs)),(133,(.op 0)),(134,(.op 0)),(136,(.op 0)),(137,(.op 0)),(138,(.op 0)),(140,(.op 0)),(141,(.op 3)),(142,(.op 0)),(143,Ez),(144,Ez),(145,(.op 0)),(146,(.op 0)),(147,(.op 0)),(148,(.op 0)),(149,Ok),(150,Ok),(152,(.op 0)),(153,(.op 0)),(154,(.op 0)),(155,(.op 0)),(156,(.op 0)),(157,(.op 0)),(158,(.op 0)),(160,(.op 0)),(161,(.op 0)),(162,(.op 0)),(164,(.op 0)),(165,(.op 0)),(167,(.op 0)),(168,(.op 0)),(169,ms),(170,ms),(171,(.op 0)),(172,(.op 0)),(173,(.op 0)),(174,(.op 0)),(175,(.op 0)),(176,(.ar 256 wl)),(177,Wa),(178,Wa),(179,(.ar 16 Wa)),(181,(.op 0)),(183,(.op 0)),(184,(.op 0)),(185,(.op 0)),(187,(.op 0)),(188,(.op 0)),(189,(.op 0)),(190,(.op 0)),(192,(.op 0)),(193,(.op 0)),(194,(.op 0)),(196,(.op 0)),(197,(.op 0)),(199,(.op 0)),(200,(.op 0)),(201,(.op 0)),(202,(.op 0)),(203,(.pair wk gP)),(204,(.pair wk gP)),(205,(.pair (.pair wk gP) (.pair Ok gP))),(206,(.pair (.pair wk gP) (.pair Ok gP))),(207,(.op 0)),(208,(.op 0)),(210,(.op 0)),(211,(.op 0)),(212,Jj),(213,Jj),(214,(.op 0)),(216,(.op 0)),(217,(.op 0)),(218,(.ar 8 yy)),(219,(.pair (.ar 8 yy) ms)),(220,(.pair (.ar 8 yy) ms)),(221,(.op 0)),(222,(.op 0)),(224,(.op 0)),(225,ahF),(226,ahF),(228,(.op 0)),(229,(.op 1)),(230,(.op 1)),(231,(.op 0)),(232,(.pair Jj gP)),(233,(.pair Jj gP)),(234,(.op 0)),(235,(.sl ms)),(236,Oj),(237,Oj),(238,(.pair Oj gP)),(239,(.pair Oj gP)),(240,(.op 0)),(241,(.op 0)),(242,(.op 0)),(243,(.op 0)),(244,(.op 0)),(245,(.op 0)),(246,(.op 0)),(247,(.op 3)),(248,(.pair Bu gP)),(249,(.pair Bu gP)),(250,(.op 0)),(251,(.op 0)),(253,(.op 0)),(254,(.op 0)),(255,(.op 0)),(256,(.op 0)),(258,(.op 0)),(260,(.op 0)),(261,(.op 2)),(262,(.op 0)),(263,(.pair Jh gP)),(264,(.pair Jh gP)),(265,(.op 0)),(266,(.op 0)),(267,(.op 0)),(270,(.op 0)),(271,(.op 0)),(272,(.op 0)),(274,(.op 0)),(275,(.op 0)),(276,(.op 0)),(277,(.op 0)),(278,(.op 3)),(280,(.op 0)),(281,(.op 0)),(282,(.op 0)),(284,(.op 0)),(285,gP),(286,gP),(288,(.op 0)),(289,(.op 0)),(290,(.op 0)),(291,(.ar 4 fs)),(293,(.op 0)),(294,(.op 0)),(306,EA),(312,ms),(315,(.fn [265])),(317,(.pair (.sl ms) (.pair (.fn [265]) gP))),(328,(.ar 3 ms)),(337,(.ar 64 yy)),(340,(.sl yy)),(352,(.pair (.op 0) (.pair (.op 0) gP))),(354,(.op 2)),(363,yz),(368,(.op 0)),(374,(.fn [292,293,294,295])),(376,Jj),(379,(.sl (.op 3))),(384,(.fn [278])),(386,(.ar 3 fs)),(387,(.op 0)),(388,yz),(390,(.sl (.sl ms))),(400,(.op 0))]
def Wx:List (Nat×ae×ae):=[(77,.str,.pair (.int .i64) (.pair (.str) (.unit))),(104,.int .i64,.op 0),(261,.int .i64,.int .i64),(354,.int .i64,.pair (.op 0) (.pair (.op 0) (.unit)))]
def Wj:List Nat:=[97]
def sp:mV Tryz.prog (Dd OS):=agN _ _ (by kernel_rfl)
def aot:pr Tryz.prog (Dd OS) (Hs Wj):=YC _ _ _ (by kernel_rfl)
def aoA:qB Tryz.prog (Ht Wx):=acQ _ _ (by kernel_rfl)
def vd:Tryz.prog.follows .mixedOrders=true:=by kernel_rfl
def aox : ∀ g, (some 3 : Option Nat) = some g → Tryz.prog.globalNamed "yett/sha.keys" = some g := by intro g h; cases h; kernel_rfl
abbrev e8(G:List (Nat×eA))(I:List (Nat×fL))(X:List (Nat×ik))(Q:List (Nat×nJ))(Pn:Option (Nat×Nat))(U A:Bool)(b:Nat):da:={ b8:=Dd OS,G:=t8 G,I:=t_ I,M:=Ht Wx,C:=Hs Wj,K:=some 3,X:=xD X,Q:=Dc Q,Pn:=Pn,U:=U,A:=A,b:=b }
def pO(m t:Nat):(none:Option (Nat×Nat))=some (m,t)->yU Tryz.prog m t:=λh=>by cases h
def oW{E:da}(f:Nat)(s:nJ):Dc [] f=some s->EQ Tryz.prog E f s:=λh=>by cases h
def n8{G:List (Nat×eA)}{I:List (Nat×fL)}{X:List (Nat×ik)}{Q:List (Nat×nJ)}{Pn:Option (Nat×Nat)}{A:Bool}{b:Nat}(dA:∀f s,t8 G f=some s->fI Tryz.prog f s)(eo:∀f g,t_ I f=some g->j2 Tryz.prog f g)(dg:∀f s,xD X f=some s->ij Tryz.prog f s)
  (zt:∀f s,Dc Q f=some s->EQ Tryz.prog (e8 G I X Q Pn U A b) f s) (pC:∀m t,Pn=some (m,t)->yU Tryz.prog m t):nC Tryz.prog (e8 G I X Q Pn U A b):=⟨sp,aot,aoA,dA,aox,eo,dg,zt,pC⟩
abbrev FK:=fI Tryz.prog
abbrev IK:=j2 Tryz.prog
def Dk {E : da} (b? : nC Tryz.prog E)  {fn : Func} {s : eA} (hf : Tryz.prog.funcs[f]? = some fn) (nv : Nat) (aj : (fn.name == "runtime.NumGoroutine") = false := by kernel_rfl) (Y : fn.body.isSome = true := by kernel_rfl) (aA : ∀ x, Ma E fn nv s.args s.res x = s.fn x) : fI Tryz.prog f s := (as8 b? vd hf aj nv s.args s.res Y).congr aA
def asZ {E : da} (b? : nC Tryz.prog E)  {fn : Func} {s : ik} (hf : Tryz.prog.funcs[f]? = some fn) (nv : Nat) (aj : (fn.name == "runtime.NumGoroutine") = false := by kernel_rfl) (Y : fn.body.isSome = true := by kernel_rfl) (aA : ∀ x, Hw E fn nv s.ty s.args s.res x = s.fn x) : ij Tryz.prog f s := (as5 b? vd hf aj nv s.ty s.args s.res Y).congr aA
def as1 {E : da} (b? : nC Tryz.prog E)  {fn : Func} {s : nJ} {m:Nat} (ma : E.Pn = some (m, bc)) (hf : Tryz.prog.funcs[f]? = some fn) (nv : Nat) (aj : (fn.name == "runtime.NumGoroutine") = false := by kernel_rfl) (Y : fn.body.isSome = true := by kernel_rfl) (aA : ∀ x, Mb E fn nv s.ty s.args [.im s.rt] x = s.fn x) : uI Tryz.prog f bc s.ty s.args [.im s.rt] s.fn := (as7 b? vd hf aj nv s.ty s.args [.im s.rt] Y ma).congr aA
def as0 {E EC : da} (b? : nC Tryz.prog E) (qo : nC Tryz.prog EC) {F:Nat} {fn e9 : Func} {s : eA} {m:Nat} (ma : E.Pn = some (m, bc)) (hf : Tryz.prog.funcs[f]? = some fn) (dW : Tryz.prog.funcs[F]? = some e9) (nv lQ : Nat) (aj : (fn.name == "runtime.NumGoroutine") = false := by kernel_rfl) (aqg : (e9.name == "runtime.NumGoroutine") = false) (Y : fn.body.isSome = true := by kernel_rfl)
  (RG:∀c A B q,fn.body=some c->ya c=some (A,q,B)->q.2.1=F) (aA:∀x,Tm E EC fn e9 nv lQ bc s.args s.res x=s.fn x):fI Tryz.prog f s:=(as6 b? qo vd hf aj dW aqg nv lQ s.args s.res ma Y RG).congr aA
def acU {E : da} (b? : nC Tryz.prog E)  {fn : Func} (hf : Tryz.prog.funcs[f]? = some fn) (nv : Nat) (aj : (fn.name == "runtime.NumGoroutine") = false := by kernel_rfl) (Y : fn.body.isSome = true := by kernel_rfl) : j2 Tryz.prog f (h1 E fn nv) := arR b? vd hf aj nv Y
def as2{G:List (Nat×eA)}{I:List (Nat×fL)}{X:List (Nat×ik)}{Q:List (Nat×nJ)}{A:Bool}{b m:Nat}{s:nJ}(h:uI Tryz.prog f bc s.ty s.args [.im s.rt] s.fn):∀g t,Dc [(f,s)] g=some t->EQ Tryz.prog (e8 G I X Q (some (m,bc)) U A b) g t:=by
 intro g t ac;simp only[Dc]at ac;cases Y:Nat.beq f g with
 |true=>rw[Y]at ac;cases ac;rw[<- fB Y];exact⟨m,bc,rfl,h⟩
 |false=>rw[Y]at ac;cases ac
def bd {G : List (Nat × eA)} {I : List (Nat × fL)} (dA : ∀ f s, t8 G f = some s → fI Tryz.prog f s) (eo : ∀ f g, t_ I f = some g → j2 Tryz.prog f g)  {fn : Func} {s : eA} (hf : Tryz.prog.funcs[f]? = some fn) (nv : Nat) (aj : (fn.name == "runtime.NumGoroutine") = false := by kernel_rfl) (Y : fn.body.isSome = true := by kernel_rfl) (aA : ∀ x, Ma (e8 G I [] [] none false false 0) fn nv s.args s.res x = s.fn x := by intro x; kernel_rfl) : fI Tryz.prog f s := Dk (n8 dA eo iD oW pO) hf nv aj Y aA
def oE {G : List (Nat × eA)} {I : List (Nat × fL)} {X : List (Nat × ik)} (dA : ∀ f s, t8 G f = some s → fI Tryz.prog f s) (eo : ∀ f g, t_ I f = some g → j2 Tryz.prog f g) (dg : ∀ f s, xD X f = some s → ij Tryz.prog f s)  {fn : Func} {s : ik} (hf : Tryz.prog.funcs[f]? = some fn) (nv : Nat) (aj : (fn.name == "runtime.NumGoroutine") = false := by kernel_rfl) (Y : fn.body.isSome = true := by kernel_rfl) (aA : ∀ x, Hw (e8 G I X [] none false false 0) fn nv s.ty s.args s.res x = s.fn x := by intro x; kernel_rfl) : ij Tryz.prog f s := asZ (n8 dA eo dg oW pO) hf nv aj Y aA
def je {G : List (Nat × eA)} {I : List (Nat × fL)} {A:Bool} {b : Nat} (dA : ∀ f s, t8 G f = some s → fI Tryz.prog f s) (eo : ∀ f g, t_ I f = some g → j2 Tryz.prog f g)  {fn : Func} (hf : Tryz.prog.funcs[f]? = some fn) (nv : Nat) (aj : (fn.name == "runtime.NumGoroutine") = false := by kernel_rfl) (Y : fn.body.isSome = true := by kernel_rfl) : j2 Tryz.prog f (h1 (e8 G I [] [] none U A b) fn nv) := acU (n8 dA eo iD oW pO) hf nv aj Y
def ata(b:Bool)(k:Nat)(w:World):Calls Tryz.prog 180 #[.bool b,.int .i64 (k:Int)] w λe w'=>w'=w/\e=if b then .returned (.tuple #[]) else .panicked [{ v:=.iface 84 (.int .i64 (k:Int)),recovered:=false }]:=by
 cases b with
 |true=>
  go_enter Tryz.func180,Tryz.ntmps180
  go_wp2
  exact⟨rfl,.tuple #[],by kernel_rfl,rfl,rfl⟩
 |false=>
  go_enter Tryz.func180,Tryz.ntmps180
  go_wp2
  have ah:(Instr.panic (Value.iface 84 (Value.int IntKind.i64 ↑k))).run Tryz.prog w=.halt (.panic (Value.iface 84 (Value.int IntKind.i64 ↑k))) w:=rfl;rw[ah];exact⟨rfl,rfl,rfl⟩
def ac2(m t:Nat):(some (180,84):Option (Nat×Nat))=some (m,t)->yU Tryz.prog m t:=λh=>by cases h;exact⟨⟨_,Tryz.func180,by kernel_rfl,by kernel_rfl⟩,ata⟩
abbrev Ih:eA:=⟨[p5,p5],[.im (.bool)],De⟩
def PT:FK 247 Ih:=bd aV aW func247 7
def Xo:FK 268 ⟨[fs],[.im fs,.im wl],tw⟩:=bd aV aW func268 4
end Yp
namespace Yp
open Go Go.Proofs
set_option maxRecDepth 100000
def uT:=@Eq.trans
def HU(c:Code):Code:=match c with|.seq a _=>a|_=>.skip
def HV(c:Code):Code:=match c with|.seq _ (.seq (.seq c _) _)=>c|_=>.skip
def MC(c:Code):Code:=match c with|.seq _ (.seq (.seq _ (.cond _ x _)) _)=>x|_=>.skip
def MD(c:Code):Code:=match c with|.seq _ (.seq _ z)=>z|_=>.skip
def mA(f:Func):Code:=f.body.getD .skip
def Mh(f:Func)(nv:Nat)(ts:List ae)(rs:List ef)(x:hZ ts):aP (jN (d8 rs)):=
 fill f.ntmps (m7 ts x) 0 .e λt=>aP.bind (run (e8 [] [] [] [] none false false 0) rs f.results.toList nv f.ntmps false (HU (mA f)) ⟨t,[],[]⟩) fun|.nx s=>run (e8 [] [] [] [] none false false 0) rs f.results.toList nv f.ntmps false (HV (mA f)) s|o=>.leaf o
def wT{a r:α}(h:am c (some a)=some r):c=true/\a=r:=by
 cases c
 .cases h
 exact⟨rfl,lZ h⟩
def L8{l:List α}(h:ag (len l) 0=true):l=[]:=by
 have R:len l=0:=by unfold ag at h;exact beq_iff_eq.1 h
 unfold len at R;exact k3.1 J
abbrev afe:eA:=⟨[.sl (.int .u8)],[.ow (.int .u8)],Kb⟩
def aoJ:fI Tryz.prog 256 afe:=by
 refine Mi (E:=e8 [] [] [] [] none false false 0) (n8 aV aW iD oW pO) vd Tryz.func256 (by kernel_rfl) 3 _ _ (A:=HU (mA Tryz.f256)) (C:=HV (mA Tryz.f256)) (X:=MC (mA Tryz.f256)) (Z:=MD (mA Tryz.f256)) (k:=4) (by kernel_rfl) iL
  (λx=>L2 (Mh Tryz.f256 3 [.sl (.int .u8)] [.ow (.int .u8)] x)) (λx=>ag (len (x.1:V)) 0) (λx=>by kernel_rfl) (λx=>by kernel_rfl) (λx r ai hm => ?_) (λx r hm => ?_)
 .obtain⟨l,⟨⟩⟩:=x
  obtain⟨_,rfl⟩:=wT (show am (cz 1 (aT (l:V))) (some ((l:V),()))=some r from hm);obtain rfl:l=([]:V):=L8 ai;kernel_rfl
 have h:am (cz 1 (bQ (aT ([]:V)) (aT (x.1:V)))) (some (aE.rt (σ:=aM) (bv ([]:V) (x.1:V),())))=some (.rt r):=by obtain⟨O,rfl⟩:=wT (show am (cz 1 (aT (x.1:V))) (some ((x.1:V),()))=some r from hm);rw[show bQ (aT ([]:V)) (aT (x.1:V))=aT (x.1:V) from jv _,O];rfl
 exact uT (by kernel_rfl) h
abbrev afG:eA:=⟨[.sl (.sl (.int .u8))],[.ow (.sl (.int .u8))],agl⟩
def aoO:fI Tryz.prog 144 afG:=by
 refine Mi (E:=e8 [] [] [] [] none false false 0) (n8 aV aW iD oW pO) vd Tryz.func144 (by kernel_rfl) 3 _ _ (A:=HU (mA Tryz.f144)) (C:=HV (mA Tryz.f144)) (X:=MC (mA Tryz.f144)) (Z:=MD (mA Tryz.f144)) (k:=4) (by kernel_rfl) iL
  (λx=>L2 (Mh Tryz.f144 3 [.sl (.sl (.int .u8))] [.ow (.sl (.int .u8))] x)) (λx=>ag (len (x.1:List V)) 0) (λx=>by kernel_rfl) (λx=>by kernel_rfl) (λx r ai hm => ?_) (λx r hm => ?_)
 .obtain⟨l,⟨⟩⟩:=x
  obtain⟨_,rfl⟩:=wT (show am (cz 32 (aT (l:List V))) (some ((l:List V),()))=some r from hm);obtain rfl:l=([]:List V):=L8 ai;kernel_rfl
 have h:am (cz 32 (bQ (aT ([]:List V)) (aT (x.1:List V)))) (some (aE.rt (σ:=aM) (bv ([]:List V) (x.1:List V),())))=some (.rt r):=by obtain⟨O,rfl⟩:=wT (show am (cz 32 (aT (x.1:List V))) (some ((x.1:List V),()))=some r from hm);rw[show bQ (aT ([]:List V)) (aT (x.1:List V))=aT (x.1:List V) from jv _,O];rfl
 exact uT (by kernel_rfl) h
abbrev afF:eA:=⟨[.sl (.int .u8)],[.ow (.int .u8)],mU⟩
def aoN:fI Tryz.prog 65 afF:=by
 refine Mi (E:=e8 [] [] [] [] none false false 0) (n8 aV aW iD oW pO) vd Tryz.func65 (by kernel_rfl) 3 _ _ (A:=HU (mA Tryz.f65)) (C:=HV (mA Tryz.f65)) (X:=MC (mA Tryz.f65)) (Z:=MD (mA Tryz.f65)) (k:=4) (by kernel_rfl) iL
  (λx=>L2 (Mh Tryz.f65 3 [.sl (.int .u8)] [.ow (.int .u8)] x)) (λx=>ag (len (x.1:V)) 0) (λx=>by kernel_rfl) (λx=>by kernel_rfl) (λx r ai hm => ?_) (λx r hm => ?_)
 .obtain⟨l,⟨⟩⟩:=x
  obtain⟨_,rfl⟩:=wT (show am (cz 1 (aT (l:V))) (some ((l:V),()))=some r from hm);obtain rfl:l=([]:V):=L8 ai;kernel_rfl
 have h:am (cz 1 (bQ (aT ([]:V)) (aT (x.1:V)))) (some (aE.rt (σ:=aM) (bv ([]:V) (x.1:V),())))=some (.rt r):=by obtain⟨O,rfl⟩:=wT (show am (cz 1 (aT (x.1:V))) (some ((x.1:V),()))=some r from hm);rw[show bQ (aT ([]:V)) (aT (x.1:V))=aT (x.1:V) from jv _,O];rfl
 exact uT (by kernel_rfl) h
abbrev afE:eA:=⟨[.sl (.pair (.int .i64) (.pair (.int .i64) (.pair (.sl (.int .u8)) (.unit))))],[.ow (.pair (.int .i64) (.pair (.int .i64) (.pair (.sl (.int .u8)) (.unit))))],IA⟩
def aoM:fI Tryz.prog 61 afE:=by
 refine Mi (E:=e8 [] [] [] [] none false false 0) (n8 aV aW iD oW pO) vd Tryz.func61 (by kernel_rfl) 3 _ _ (A:=HU (mA Tryz.f61)) (C:=HV (mA Tryz.f61)) (X:=MC (mA Tryz.f61)) (Z:=MD (mA Tryz.f61)) (k:=4) (by kernel_rfl) iL
  (λx=>L2 (Mh Tryz.f61 3 [.sl (.pair (.int .i64) (.pair (.int .i64) (.pair (.sl (.int .u8)) (.unit))))] [.ow (.pair (.int .i64) (.pair (.int .i64) (.pair (.sl (.int .u8)) (.unit))))] x)) (λx=>ag (len (x.1:List (Int×Int×V×Unit))) 0) (λx=>by kernel_rfl) (λx=>by kernel_rfl) (λx r ai hm => ?_) (λx r hm => ?_)
 .obtain⟨l,⟨⟩⟩:=x
  obtain⟨_,rfl⟩:=wT (show am (cz 80 (aT (l:List (Int×Int×V×Unit)))) (some ((l:List (Int×Int×V×Unit)),()))=some r from hm);obtain rfl:l=([]:List (Int×Int×V×Unit)):=L8 ai;kernel_rfl
 have h:am (cz 80 (bQ (aT ([]:List (Int×Int×V×Unit))) (aT (x.1:List (Int×Int×V×Unit))))) (some (aE.rt (σ:=aM) (bv ([]:List (Int×Int×V×Unit)) (x.1:List (Int×Int×V×Unit)),())))=some (.rt r):=by obtain⟨O,rfl⟩:=wT (show am (cz 80 (aT (x.1:List (Int×Int×V×Unit)))) (some ((x.1:List (Int×Int×V×Unit)),()))=some r from hm);rw[show bQ (aT ([]:List (Int×Int×V×Unit))) (aT (x.1:List (Int×Int×V×Unit)))=aT (x.1:List (Int×Int×V×Unit)) from jv _,O];rfl
 exact uT (by kernel_rfl) h
end Yp
namespace Yp
open Go Go.Proofs Go.RowKit Go.Shelf
def nG:=@List.nil_append
def s?:=@Array.replicate_zero
def ta:=@List.append_toArray
def tf:=@List.push_toArray
def E4:=@List.filter_append
def BP:=@List.range_succ
attribute [local go_sem] Oper.semAt_some
def i3(res:Nat->Bool)(k:Nat):List Nat:=(List.range k).filter res
def abn(res:Nat->Bool)(k:Nat):i3 res (k+1)=i3 res k++if res k=true then[k]else[]:=by
 unfold i3;rw[BP,E4]
 grind
def apZ(res:Nat->Bool)(k:Nat):(i3 res k).length<=k:=by have:=rV res (List.range k);unfold i3;simpa using this
set_option maxRecDepth 100000 in
set_option maxHeartbeats 2000000 in
def anz(n l EF yE n₀ b off cap N:Nat)(ad:Option Addr)(AD HW:Value)(bI:Nat->Value×Value)(res:Nat->Bool)(iR:∀j,∃a n c a' n' cK,bI j=(.slice a n c,.slice a' n' cK))(fO:N<=9223372036854775807)(Y:0<N->ad=some ⟨b,off,none⟩/\b<n₀)(hG rX:List Nat->World->Prop)
  (kx:∀s W W',hG s W->Below W.heap.size W W'->hG s W')
  (vf:∀(pre:List Nat) (x:Nat) W,hG pre W->x<N->res x=true->pre.length<N->YieldAt Fence.wide n Tryz.prog l #[.int .i64 (x:Int)] W λe W'=>
   (e=.returned (.bool true)/\hG (pre++[x]) W'/\Below n₀ W W')\/(e=.returned (.bool false)/\rX (pre++[x]) W'))
  (W:World) (aoq:W.cell? ⟨EF,0,none⟩=some (.slice ad N cap)) (aon:W.cell? ⟨yE,0,none⟩=some (.func (.func 285) #[.agg #[AD,HW]] #[])) (aor:EF<n₀) (aaC:yE<n₀) (aj:n₀<=W.heap.size)
  (ng:∀j,j<N->W.cell? ⟨b,off+j*2,none⟩=some (bI j).1) (sq:∀j,j<N->W.cell? ⟨b,off+j*2+1,none⟩=some (bI j).2)
  (RH:∀j,j<N->∀w,Below n₀ W w->CallsIn Fence.wide n Tryz.prog 285 #[.agg #[AD,HW],.agg #[(bI j).1,(bI j).2]] w λe w'=>e=.returned (.bool (res j))/\Below w.heap.size w w') (ao:hG [] W) :
  CallsIn Fence.wide (n+1) Tryz.prog 296 #[.func (.yield l) #[] #[],.pointer (some ⟨EF,0,none⟩),.pointer (some ⟨yE,0,none⟩)] W λe W'=>(∃v,e=.returned v) /\
   (hG (i3 res N) W'\/(∃k,k<=N/\rX (i3 res k) W')):=by
 have azy:Fence.wide.fn 285:=trivial;refine callsIn_of_wp Tryz.func296 rfl trivial ?_ rfl;simp only[Tryz.ntmps296,pf,ew,gw,Nat.reduceAdd,Nat.reduceSub,rW,s?,tf,ta,nG,lA]
 gi_wp2
 gi_loopw [8] (λi wr=>∃k:Nat,k<=N/\i=.int .i64 k/\hG (i3 res k) wr/\Below n₀ W wr/\W.heap.size<=wr.heap.size)
  (λi _=>N-(intOf i).toNat)
 case atStart=>exact⟨0,J,rfl,ao,Below.refl _ _,bU _⟩
 case round=>
  obtain⟨k,ap,rfl,CH,n2,cP⟩:=hrel;have ay8:wr.cell? ⟨EF,0,none⟩=some (.slice ad N cap):=(n2.cell (p:=⟨EF,0,none⟩) aor).trans aoq;have aoo:wr.cell? ⟨yE,0,none⟩=some (.func (.func 285) #[.agg #[AD,HW]] #[]):=(n2.cell (p:=⟨yE,0,none⟩) aaC).trans aon;by_cases bm:k<N
  .have vo:(k:Int)<(N:Int):=J
   obtain⟨rfl,tO⟩:=Y J;have d4:wr.cell? ⟨b,off+k*2,none⟩=some (bI k).1:=(n2.cell (p:=⟨b,off+k*2,none⟩) tO).trans (ng k bm);have e1:wr.cell? ⟨b,off+k*2+1,none⟩=some (bI k).2:=(n2.cell (p:=⟨b,off+k*2+1,none⟩) tO).trans (sq k bm);have RI:=RH k bm;have aoH:=vf (i3 res k) k;obtain⟨cG,vN,c1,cQ,qE,c2,apB⟩:=iR k;rw[apB]at d4 e1 RI;dsimp only at d4 e1 RI;have hb3:Below wr.heap.size wr (wr.alloc (.cells #[.slice cG vN c1,.slice cQ qE c2] 363)):=(Below.refl _ _).alloc (bU _) _;have CW:n₀<=wr.heap.size:=e0 aj cP;have ay7:(wr.alloc (.cells #[.slice cG vN c1,.slice cQ qE c2] 363)).cell? ⟨yE,0,none⟩=some (.func (.func 285) #[.agg #[AD,HW]] #[]):=(hb3.cell (p:=⟨yE,0,none⟩) (hU aaC CW)).trans aoo;have Lm:=RI _ (n2.trans (hb3.mono CW));have aaH:=kx _ _ _ CH hb3;cases hh:res k
   .rw[hh]at Lm
    have nl:i3 res (k+1)=i3 res k:=by rw[abn,hh,if_neg bh,hF]
    gi_wp2_with (gi_at_call 285;refine Lm.mono ?_;rintro e cf ⟨rfl,hb1⟩)
    refine⟨λ_ _=>trivial,?_⟩
    gi_wp2
    refine⟨⟨k+1,J,bh,by rw[nl];exact kx _ _ _ aaH hb1,(n2.trans (hb3.mono CW)).trans (hb1.mono (e0 CW hb3.size)),e0 cP (e0 hb3.size hb1.size)⟩,?_⟩;simp[intOf];omega
   rw[hh]at Lm;have nl:i3 res (k+1)=i3 res k++[k]:=by rw[abn,hh,if_pos rfl]
   have hl:=apZ res k
   gi_wp2_with (gi_at_call 285;refine Lm.mono ?_;rintro e cf ⟨rfl,hb1⟩;obtain⟨fn,tmps,assign,body,hy,jk⟩:=aoH cf (kx _ _ _ aaH hb1) bm hh J)
   refine jk.mono ?_;rintro e aiq (⟨rfl,RJ,ff⟩|⟨rfl,RK⟩)
   .gi_wp2
    refine⟨⟨k+1,J,bh,by rw[nl];exact RJ,((n2.trans (hb3.mono CW)).trans (hb1.mono (e0 CW hb3.size))).trans ff,e0 cP (e0 (e0 hb3.size hb1.size) ff.size)⟩,?_⟩;simp[intOf];omega
   gi_wp2
   refine bodyPost_ret (results_none rfl _ _ _) rfl ?_;exact⟨⟨_,rfl⟩,.inr ⟨k+1,J,by rw[nl];exact RK⟩⟩
  have qt:k=N:=J;subst qt;have vo:¬((k:Nat):Int)<(k:Int):=J
  gi_wp2
  go_end0
  exact⟨⟨_,rfl⟩,.inl CH⟩
set_option maxRecDepth 100000 in
def anA(m:Nat)(a:Option Addr)(n cap:Nat)(f:Value)(w:World)(aC:f.oneCell'=true):CallsIn Fence.wide m Tryz.prog 286 #[.slice a n cap,f] w λe w'=>e=.returned (.func (.func 296) #[] #[.pointer (some ⟨w.heap.size,0,none⟩),.pointer (some ⟨w.heap.size+1,0,none⟩)])/\w'=(w.alloc (.cells #[.slice a n cap] 61)).alloc (.cells #[f] 387):=by
 refine callsIn_of_wp Tryz.func286 rfl trivial ?_ rfl;simp only[Tryz.ntmps286,pf,ew,gw,Nat.reduceAdd,Nat.reduceSub,rW,s?,tf,ta,nG,lA]
 gi_wp2
 go_ret
 exact⟨rfl,rfl⟩
end Yp
namespace Yp
open Go
def nH:=@List.take_succ_eq_append_getElem
def iZ:=@Int.toNat_natCast
def mu:=@List.getElem_mem
def tg:=@List.ext_getElem
def qX:=@Nat.pow_succ
def uL:=@UInt8.toNat_inj
def wy:=@List.getElem_map
def yL:=@List.getElem_range
def BD:=@Nat.pow_le_pow_right
def JC:=@Nat.two_pow_add_eq_or_of_lt
def BF:=@BitVec.toNat_ofNat
def wJ:=@Nat.pow_pos
def JU:=@BitVec.ofInt_natCast
def E8:=@Nat.div_eq_of_lt
def E1:=@Int.ofNat.inj
def Oz:=@UInt8.toNat_ofNat
def OA:=@List.foldl_append
def Js:=@Nat.lt_irrefl
def OD:=@List.getElem_set
def OH:=@Int.natCast_pow
def OK:=@Int.ofNat_tmod
def Td{σ ρ:Type}{f:σ->Option (aE σ ρ)}:∀{n m:Nat} {x:σ} {r:aE σ ρ},n6 f n x=some r->n<=m->n6 f m x=some r
 |n+1,m+1,x,r,h,hm=>by
  simp only[n6]at h ⊢;split at h
  .exact Td h J
  exact h
def t?{f:σ->Option (aE σ ρ)}{x:σ}{r:aE σ ρ}(n:Nat)(h:n6 f n x=some r):bN f x=some r:=by
 have tQ:∃n,(n6 f n x).isSome:=⟨n,by rw[h];rfl⟩;unfold bN;have ac:=Classical.choose_spec tQ;obtain⟨qM,ah⟩:=Option.isSome_iff_exists.1 ac;have O:=Td ah (Nat.le_max_left _ n);have R:=Td h (Nat.le_max_right (Classical.choose tQ) n)
 grind
def ez{f:σ->Option (aE σ ρ)}{x y:σ}(h:f x=some (.nx y)):bN f x=bN f y:=by
 cases hy:bN f y with
 |some r =>obtain⟨n,aj⟩:=Te hy;exact t? (n+1) (by simp[n6,h,aj])
 |none=>
  cases hx:bN f x with
  |none=>rfl
  |some r=>
   obtain⟨n,aj⟩:=Te hx;cases n with
   |zero=>simp[n6]at aj
   |succ n =>simp only[n6,h]at aj;rw[t? n aj]at hy;cases hy
def d_{f:σ->Option (aE σ ρ)}{x y:σ}{k:Nat}(h:f x=some (.ex k y)):bN f x=some (.ex k y):=t? 1 (by simp[n6,h])
def pN{f:σ->Option (aE σ ρ)}{x:σ}{r:ρ}(h:f x=some (.rt r)):bN f x=some (.rt r):=t? 1 (by simp[n6,h])
def md{f:σ->Option (aE σ ρ)}(cH:Nat->σ)(n:Nat)(h:∀i,i<n->f (cH i)=some (.nx (cH (i+1)))):∀i,i<=n->bN f (cH i)=bN f (cH n):=by
 intro i hi;obtain⟨d,rfl⟩:∃d,n=i+d:=⟨n-i,J⟩;clear hi;induction d generalizing i with
 |zero=>rfl
 |succ d ih =>rw[ez (h i J)];have:=ih (i+1) (λj an=>h j J);rw[this];congr 2;omega
def hM{n:Int}(O : -9223372036854775808<=n)(R:n<=9223372036854775807):i64 n=n:=by
 show(if(true&&decide (n%18446744073709551616 ≥ 9223372036854775808))=true then n%18446744073709551616-18446744073709551616 else n%18446744073709551616)=n
 grind
theorem D1(a b:α):T true a b=a:=rfl
theorem AY(a b:α):T false a b=b:=rfl
theorem wU(a:Option α):am true a=a:=rfl
theorem hj(a:α)(k:α->Option β):ob (some a) k=k a:=rfl
end Yp
namespace Yp
open Go
def dL{o:Option α}{a:α}{k:α->Option β}(h:o=some a):ob o k=k a:=by rw[h];rfl
def ce{a b:α}(h:c=true):T c a b=a:=by rw[h];rfl
def b1{a b:α}(h:c=false):T c a b=b:=by rw[h];rfl
def dR{a:Option α}(h:c=true):am c a=a:=by rw[h];rfl
def c'{o di:Option (aE σ ρ)}{kn:σ->Option β}{g5:Nat->σ->Option β}{hb:ρ->Option β}(h:o=di):ci o kn g5 hb=ci di kn g5 hb:=by rw[h]
def sF{f:σ->Option (aE σ ρ)}(cH:Nat->σ)(n:Nat)(p:Nat->Prop)(r:ρ)(k:Nat)(ac:∀i,i<n->(∀j,j<=i->p j)->f (cH i)=some (.nx (cH (i+1))))(Y:∀i,i<n->(∀j,j<i->p j)->¬p i->f (cH i)=some (.rt r))
  (aA:(∀i,i<n->p i)->f (cH n)=some (.ex k (cH n))):((∀i,i<n->p i)/\bN f (cH 0)=some (.ex k (cH n)))\/((∃i,i<n/\¬p i)/\bN f (cH 0)=some (.rt r)):=by
 by_cases h:∀i,i<n->p i
 .refine .inl ⟨h,?_⟩
  rw[md cH n (λi hi=>ac i hi λj an=>h j J) 0 (fK _)];exact d_ (aA h)
 refine .inr ?_;have tQ:∃i,i<n/\¬p i:=by refine k2 λai=>h λi hi=>k2 λhp=>ai ⟨i,hi,hp⟩
 refine⟨tQ,?_⟩;obtain⟨k,ap,hp⟩:=tQ;induction k using Nat.strongRecOn with
 |_ k ih=>
  by_cases hl:∃j,j<k/\¬p j
  .obtain⟨j,an,Sn⟩:=hl
   exact ih j an J Sn
  have hall:∀i,i<k->p i:=λi hi=>k2 λhp=>hl ⟨i,hi,hp⟩;rw[md cH k (λi hi=>ac i J λj an=>hall j J) 0 (fK _)];exact pN (Y k ap hall hp)
def Tf{a b:Nat}:aJ (a:Int) (b:Int)=decide (a<b):=by unfold aJ;rw[decide_eq_decide];omega
def asv{a b:Nat}:bE (a:Int) (b:Int)=decide (a<=b):=by unfold bE;rw[decide_eq_decide];omega
def dj(h:a<b):aJ a b=true:=decide_eq_true h
def c3(h:¬a<b):aJ a b=false:=decide_eq_false h
def hN(h:a<=b):bE a b=true:=decide_eq_true h
def oS(h:¬a<=b):bE a b=false:=decide_eq_false h
def cJ(h:a=b):ag a b=true:=by unfold ag;exact beq_iff_eq.2 h
def cr(h:¬a=b):ag a b=false:=by unfold ag;exact beq_eq_false_iff_ne.2 h
def AZ{a b:V}(h:a=b):seq a b=true:=by unfold seq;exact beq_iff_eq.2 h
def o4{a b:V}(h:¬a=b):seq a b=false:=by unfold seq;exact beq_eq_false_iff_ne.2 h
def Ak{a b:Nat}(h:a<b):i6 a b=true:=by unfold i6;rw[EH];exact h
def Mj{a b:Nat}(h:¬a<b):i6 a b=false:=by
 unfold i6;cases Y:Nat.blt a b with
 |false=>rfl
 |true=>rw[EH]at Y;exact absurd Y h
def kS{a:Nat}(h:a<n):aU (a:Int) (n:Int)=true:=by simp only[aU,cL,decide_eq_true_eq];omega
def sz{n:Int}(ao:0<=a)(h:a<n):aU a n=true:=by simp only[aU,cL,decide_eq_true_eq];omega
def rl{n:Int}(ao:0<=a)(h:a<=b)(bL:b<=n):ca a b n=true:=by simp only[ca,cL,decide_eq_true_eq];omega
def n?{c:Nat}(h:n*c<=140737488355328):cz c n=true:=decide_eq_true h
def rj(h:n<=9223372036854775807):i64 (n:Int)=(n:Int):=hM J J
theorem asA(l:List α):len l=((l.length:Nat):Int):=rfl
def nth_get{l:List α}{d:α}(h:i<l.length):ak l i d=l[i]:=by simp[ak,nE,h]
def xI(x:UInt8):x.toNat<256:=x.toNat_lt
def ahj(q:Nat):u8 (q:Int)=UInt8.ofNat q:=by
 apply uL.1;unfold u8;have O:(UInt8.ofInt (q:Int)).toNat=q%256:=by simp[UInt8.ofInt,Oz];omega
 rw[O];simp
def azN(b n:Nat):((b:Int)^n)=((b^n:Nat):Int):=(OH b n).symm
def QC{l:V}(h:i<l.length)(hl:l[i].toNat<128):gA l i=(l[i].toNat,1):=by
 have Y:((⟨l.toArray⟩:ByteArray).get! (i+0)).toNat=l[i].toNat:=by show(l.toArray[i+0]!).toNat=_;simp[h]
 unfold gA Utf8.decode;simp only[Y];rw[if_pos hl]
def ame{l:V}(h:i<l.length)(hl:¬l[i].toNat<128):128<=(gA l i).1/\(gA l i).1<=1114111:=by
 have Y:((⟨l.toArray⟩:ByteArray).get! (i+0)).toNat=l[i].toNat:=by show(l.toArray[i+0]!).toNat=_;simp[h]
 have aaz:=xI l[i];unfold gA Utf8.decode;simp only[Y,if_neg hl,Utf8.runeError];have b:∀k,((⟨l.toArray⟩:ByteArray).get! k).toNat<256:=λk=>xI _;generalize l[i].toNat=c at *
 repeat' split
 all_goals simp only
 all_goals (rename_i ai aF;simp only[cL,decide_eq_true_eq,beq_iff_eq,Utf8.valid,yJ]at ai aF;omega)
def arF{a b:Nat}:av (a:Int) (b:Int)=((a+b:Nat):Int):=by simp[av]
def arI{a b:Nat}:e? (a:Int) (b:Int)=((a*b:Nat):Int):=by simp[e?]
def arG{a b:Nat}:fg (a:Int) (b:Int)=((a/b:Nat):Int):=by exact(Int.ofNat_tdiv _ _).symm
def vz{a b:Nat}:dh (a:Int) (b:Int)=((a%b:Nat):Int):=by exact(OK _ _).symm
def lh{a b:Nat}(h:a+b<=9223372036854775807):i64 (av (a:Int) (b:Int))=((a+b:Nat):Int):=by rw[arF,rj h]
def SL{a b:Nat}(h:a*b<=9223372036854775807):i64 (e? (a:Int) (b:Int))=((a*b:Nat):Int):=by rw[arI,rj h]
def zW{a b:Nat}(bL:a<=9223372036854775807):i64 (fg (a:Int) (b:Int))=((a/b:Nat):Int):=by rw[arG,rj (e0 (Nat.div_le_self _ _) bL)]
def he{a:Nat}:aa (a:Int)=a:=by simp[aa]
def atd{a:Nat}(h:a<256):aI (u8 (a:Int))=(a:Int):=by rw[ahj];simp only[aI,uO];omega
end Yp
namespace Yp
open Go
def aZ(B:Nat)(g:Nat->UInt8)(v:Nat):Nat->V
 |0=>[]
 |n+1=>g (v/B^n%B)::aZ B g v n
def lm(B:Nat)(g:Nat->UInt8)(v:Nat):∀n,(aZ B g v n).length=n
 |0=>rfl
 |n+1=>by simp[aZ,lm B g v n]
def dI(d:Nat):UInt8:=UInt8.ofNat (48+d)
def m_(d:Nat):UInt8:=UInt8.ofNat d
def ahm{d z:UInt8}{Eg:V}:cj (bO (n+1) z++Eg) n d=bO n z++d::Eg:=by
 induction n with
 |zero=>simp[cj,bO]
 |succ n ih=>
  have e1:bO (n+1+1) z++Eg=z::(bO (n+1) z++Eg):=by simp[bO,JV]
  have aN:bO (n+1) z++d::Eg=z::(bO n z++d::Eg):=by simp[bO,JV]
  rw[e1,aN,<- ih];rfl
def R2:V:=[48,49,50,51,52,53,54,55,56,57,97,98,99,100,101,102]
def apH:∀d,d<10->ak R2 d (u8 0)=dI d:=bP
def FI(v w:Int)(aC:v<=9223372036854775807):mD (v,w,())=some (if 1<=w/\w<=18/\0<=v/\v<10^w.toNat then(aZ 10 dI v.toNat w.toNat,0,()) else([],1,())):=by
 unfold mD;by_cases O:w<1
 .rw[if_neg J];simp[T,ob,aJ,O,aO]
 by_cases R:18<w
 .rw[if_neg J];simp[T,ob,aJ,O,R,aO]
 by_cases af:v<0
 .rw[if_neg J];simp[T,ob,aJ,O,R,af,aO]
 obtain⟨n,rfl⟩:∃n:Nat,w=n:=⟨w.toNat,J⟩;obtain⟨b0,rfl⟩:∃n:Nat,v=n:=⟨v.toNat,J⟩;simp only[aJ,O,R];have c0:cY (ca 0 (n:Int) n) (cz 1 (aa n))=true:=by simp[cY,ca,cz,aa];omega
 rw[c0,wU];have d4:i64 (bi (n:Int) 1)=(n:Int)-1:=hM (by simp only[bi];omega) (by simp only[bi];omega);rw[d4];generalize hf:(λ(x:Int×Int×V×Unit)=>_)=f;have step:∀i,i<n->f (((b0/10^i:Nat):Int),(n:Int)-1-i,bO (n-i) (u8 0)++aZ 10 dI b0 i,())=some (.nx (((b0/10^(i+1):Nat):Int),(n:Int)-1-(i+1:Nat),bO (n-(i+1)) (u8 0)++aZ 10 dI b0 (i+1),())):=by
  intro i hi;subst hf;have hm:dh ((b0/10^i:Nat):Int) 10=((b0/10^i%10:Nat):Int):=by exact(OK _ _).symm
  have bm:b0/10^i%10<10:=tc _ J;have bY:b0/10^i<=b0:=Nat.div_le_self _ _;have aF:i64 (fg ((b0/10^i:Nat):Int) 10)=((b0/10^(i+1):Nat):Int):=by
   have:fg ((b0/10^i:Nat):Int) 10=((b0/10^i/10:Nat):Int):=by exact(Int.ofNat_tdiv _ _).symm
   rw[this,rj J,Nat.div_div_eq_div_mul,qX]
  have apX:i64 (bi ((n:Int)-1-i) 1)=(n:Int)-1-(i+1:Nat):=by rw[hM (by simp only[bi];omega) (by simp only[bi];omega)];simp only[bi];omega
  have Sd:bE 0 ((n:Int)-1-i)=true:=by simp only[bE,decide_eq_true_eq];omega
  have hb1:aU ((b0/10^i%10:Nat):Int) (len [48,49,50,51,52,53,54,55,56,57,97,98,99,100,101,102])=true:=kS (n:=16) J;have hb2:aU ((n:Int)-1-i) (len (bO (n-i) (u8 0)++aZ 10 dI b0 i))=true:=by simp only[aU,len,cE,bO,ox,cL,decide_eq_true_eq];omega
  have aj:aa ((n:Int)-1-i)=n-(i+1):=by simp only[aa];omega
  have vq:aa ((b0/10^i%10:Nat):Int)=b0/10^i%10:=by simp only[aa];omega
  have ac:bO (n-i) (u8 0)=bO (n-(i+1)+1) (u8 0):=by congr 1;omega
  show T (bE 0 ((n:Int)-1-i)) _ _=_;rw[Sd,D1];simp only[hm];rw[hb1,wU,hb2,wU,aF,apX,aj,vq,ac,ahm];have:=apH _ bm;simp only[R2]at this;rw[this];rfl
 have jR:=md (f:=f) (λi=>(((b0/10^i:Nat):Int),(n:Int)-1-i,bO (n-i) (u8 0)++aZ 10 dI b0 i,())) n step 0 J;have f7:f (((b0/10^n:Nat):Int),(n:Int)-1-n,bO (n-n) (u8 0)++aZ 10 dI b0 n,())=some (.ex 0 (((b0/10^n:Nat):Int),(n:Int)-1-n,bO (n-n) (u8 0)++aZ 10 dI b0 n,())):=by
  subst hf;have Sd:bE 0 ((n:Int)-1-n)=false:=by simp only[bE,decide_eq_false_iff_not];omega
  show T (bE 0 ((n:Int)-1-n)) _ _=_;rw[Sd,AY]
 have e1:(((b0/10^0:Nat):Int),(n:Int)-1-(0:Nat),bO (n-0) (u8 0)++aZ 10 dI b0 0,())=(((b0:Nat):Int),(n:Int)-1,bO (aa n) (u8 0),()):=by simp[aZ,aa]
 rw[e1,d_ f7]at jR;rw[jR];have aN:bO (n-n) (u8 0)++aZ 10 dI b0 n=aZ 10 dI b0 n:=by simp[bO]
 simp only[ci,aN];by_cases bm:b0<10^n
 .have:=E8 bm
  rw[this,if_pos ⟨J,J,J,by exact_mod_cast bm⟩];rfl
 have:0<b0/10^n:=Nat.div_pos J (wJ J);rw[if_neg (λh=>bm (by exact_mod_cast h.2.2.2))];have hp:decide ((0:Int)<((b0/10^n:Nat):Int))=true:=by simp only[decide_eq_true_eq];omega
 rw[hp];rfl
end Yp
namespace Yp
open Go
theorem ax3(q:Nat):u8 (q:Int)=m_ (q%256):=rfl
def aga{b0 k:Nat}(ap:k<=64):fr .i64 (b0:Int) (k:Int)=((b0/2^k:Nat):Int):=by
 unfold fr;have:Nat.min (Int.toNat (k:Int)) IntKind.i64.bits=k:=by exact E' ap
 grind
def QI(v w:Int)(aC:v<=9223372036854775807):pu (v,w,())=some (if 1<=w/\w<=8/\0<=v/\v<256^w.toNat then(aZ 256 m_ v.toNat w.toNat,0,()) else([],1,())):=by
 unfold pu;by_cases O:w<1
 .rw[if_neg J];simp[T,ob,aJ,O,aO]
 by_cases R:8<w
 .rw[if_neg J];simp[T,ob,aJ,O,R,aO]
 by_cases af:v<0
 .rw[if_neg J];simp[T,ob,aJ,O,R,af,aO]
 obtain⟨n,rfl⟩:∃n:Nat,w=n:=⟨w.toNat,J⟩;obtain⟨b0,rfl⟩:∃n:Nat,v=n:=⟨v.toNat,J⟩;have abC:∀i,(256:Nat)^i=2^(8*i):=λi=>by rw[Nat.pow_mul]
 have le:∀i:Nat,i<=8->i64 (e? 8 (i:Int))=((8*i:Nat):Int):=λi hi=>by
  have:e? 8 (i:Int)=((8*i:Nat):Int):=by simp[e?]
  rw[this,rj J]
 have apl:(T (aJ (n:Int) 8) (am (bE 0 (i64 (e? 8 (n:Int)))) (some (aJ 0 (fr IntKind.i64 (b0:Int) (i64 (e? 8 (n:Int)))),()))) (some (false,())):Option (Bool×Unit))=some (decide (¬b0<256^n),()):=by
  by_cases cx:n<8
  .have c1:aJ (n:Int) 8=true:=by simp only[aJ,decide_eq_true_eq];omega
   have c2:bE 0 ((8*n:Nat):Int)=true:=by simp only[bE,decide_eq_true_eq];omega
   rw[c1,D1,le n J,c2,wU,aga J];have:aJ 0 ((b0/2^(8*n):Nat):Int)=decide (¬b0<256^n):=by
    unfold aJ;rw[decide_eq_decide,abC];constructor
    .intro h ai
     rw[E8 ai]at h;simp at h
    intro h;have:=Nat.div_pos (Nat.le_of_not_lt h) (wJ J);omega
   rw[this]
  have c1:aJ (n:Int) 8=false:=by simp only[aJ,decide_eq_false_iff_not];omega
  have:n=8:=J;rw[c1,AY,this];have:b0<256^8:=by have:(256:Nat)^8=18446744073709551616:=bP;omega
  simp[this]
 rw[apl];simp only[aJ,O,R,af,decide_false,decide_true,AY,D1,hj,iZ];have hp:((256:Int)^n)=((256^n:Nat):Int):=(OH 256 n).symm;by_cases bm:b0<256^n
 rotate_left
 .rw[if_neg (λh=>bm (by have:=h.2.2.2;rw[hp]at this;exact Int.ofNat_lt.1 this))]
  have aF:decide (¬b0<256^n)=true:=decide_eq_true bm;rw[aF,D1];rfl
 rw[if_pos ⟨J,J,J,by rw[hp];exact Int.ofNat_lt.2 bm⟩];have aF:decide (¬b0<256^n)=false:=decide_eq_false (λh=>h bm);rw[aF,AY];have c0:cY (ca 0 (n:Int) n) (cz 1 (aa n))=true:=by simp[cY,ca,cz,aa];omega
 rw[c0,wU];have d4:i64 (bi (n:Int) 1)=(n:Int)-1:=hM (by simp only[bi];omega) (by simp only[bi];omega);rw[d4];generalize hf:(λ(x:Int×V×Unit)=>_)=f;have step:∀i,i<n->f ((i:Int),bO (n-i) (u8 0)++aZ 256 m_ b0 i,())=some (.nx (((i+1:Nat):Int),bO (n-(i+1)) (u8 0)++aZ 256 m_ b0 (i+1),())):=by
  intro i hi;subst hf;have c1:(decide ((i:Int)<len (bO (aa (n:Int)) (u8 0))))=true:=by simp only[len,bO,aa,ox,decide_eq_true_eq];omega
  have c2:bE 0 ((8*i:Nat):Int)=true:=by simp only[bE,decide_eq_true_eq];omega
  have hw:i64 (bi ((n:Int)-1) i)=((n-(i+1):Nat):Int):=by
   have:bi ((n:Int)-1) i=((n-(i+1):Nat):Int):=by simp only[bi];omega
   rw[this,rj J]
  have c4:aU ((n-(i+1):Nat):Int) (len (bO (n-i) (u8 0)++aZ 256 m_ b0 i))=true:=by refine kS ?_;simp only[cE,lm,bO,ox];omega
  have c5:i64 (av (i:Int) 1)=((i+1:Nat):Int):=by
   have:av (i:Int) 1=((i+1:Nat):Int):=by simp[av]
   rw[this,rj J]
  have ac:bO (n-i) (u8 0)=bO (n-(i+1)+1) (u8 0):=by congr 1;omega
  show T (decide ((i:Int)<len (bO (aa (n:Int)) (u8 0)))) _ _=_;rw[c1,D1];simp only[le i J,hw];rw[c2,wU,c4,wU,c5,aga J,ax3,ac];have:aa ((n-(i+1):Nat):Int)=n-(i+1):=by simp[aa]
  rw[this,ahm,<- abC];rfl
 have jR:=md (f:=f) (λi=>((i:Int),bO (n-i) (u8 0)++aZ 256 m_ b0 i,())) n step 0 J;have f7:f ((n:Int),bO (n-n) (u8 0)++aZ 256 m_ b0 n,())=some (.ex 0 ((n:Int),bO (n-n) (u8 0)++aZ 256 m_ b0 n,())):=by
  subst hf;have c1:(decide ((n:Int)<len (bO (aa (n:Int)) (u8 0))))=false:=by simp only[len,bO,aa,ox,decide_eq_false_iff_not];omega
  show T (decide ((n:Int)<len (bO (aa (n:Int)) (u8 0)))) _ _=_;rw[c1,AY]
 have e1:(((0:Nat):Int),bO (n-0) (u8 0)++aZ 256 m_ b0 0,())=((0:Int),bO (aa n) (u8 0),()):=by simp[aZ,aa]
 rw[e1,d_ f7]at jR;rw[jR];have aN:bO (n-n) (u8 0)++aZ 256 m_ b0 n=aZ 256 m_ b0 n:=by simp[bO]
 simp only[ci,aN];rfl
end Yp
namespace Yp
open Go
def h2(c:UInt8):Prop:=48<=c.toNat/\c.toNat<=57
instance (c:UInt8):Decidable (h2 c):=inferInstanceAs (Decidable (_/\_))
def fZ(s:V):Prop:=∀(i:Nat) (h:i<s.length),h2 s[i]
def val(s:V):Nat:=s.foldl (λn c=>10*n+(c.toNat-48)) 0
def VQ{s:V}(h:i<s.length):val (s.take (i+1))=10*val (s.take i)+(s[i].toNat-48):=by unfold val;rw[nH h,OA];rfl
def VP{s:V}:∀i,i<=s.length->(∀j,j<i->∀h:j<s.length,h2 s[j])->val (s.take i)<10^i
 |0,_,_=>by simp[val]
 |i+1,h,hf=>by have:=VP i J (λj an=>hf j J);have hi:=hf i J J;rw[VQ J];unfold h2 at hi;omega
def aek(h:i<=18):10^i<=1000000000000000000:=by have:=BD (n:=10) J h;exact this
def ami{c:Nat}(O:48<=c)(R:c<=57):r9 (bf c,())=some (((c-48:Nat):Int),true,()):=by have:c=48\/c=49\/c=50\/c=51\/c=52\/c=53\/c=54\/c=55\/c=56\/c=57:=J;rcases this with rfl|rfl|rfl|rfl|rfl|rfl|rfl|rfl|rfl|rfl<;>decide
def Y2{c:Nat}(h:¬(48<=c/\c<=57)):∃q:Int,r9 (bf c,())=some (q,false,()):=by
 refine⟨i64 (G5 (bi (bf c) 48)),?_⟩;unfold r9;by_cases O:48<=c
 .refine(dL (ce (hN (by simp only[bf];omega)))).trans ?_
  show some (_,bE (bf c) 57,())=_;rw[oS (by simp only[bf];omega)]
 refine(dL (b1 (oS (by simp only[bf];omega)))).trans ?_;rfl
def Q4{s:V}(h:i<s.length)(hf:h2 s[i]):r9 (bf (gA s i).1,())=some (((s[i].toNat-48:Nat):Int),true,())/\(gA s i).2=1:=by
 have hl:s[i].toNat<128:=by unfold h2 at hf;omega
 rw[QC h hl];exact⟨ami hf.1 hf.2,rfl⟩
def Q3{s:V}(h:i<s.length)(hf:¬h2 s[i]):∃q:Int,r9 (bf (gA s i).1,())=some (q,false,()):=by
 by_cases hl:s[i].toNat<128
 .rw[QC h hl];exact Y2 hf
 have:=ame h hl;exact Y2 J
def w?{s:V}:fZ s↔∀i,i<s.length->∀h:i<s.length,h2 s[i]:=⟨λh i hi _=>h i hi,λh i hi=>h i hi hi⟩
instance (s:V):Decidable (fZ s):=inferInstanceAs (Decidable (∀(i:Nat) (h:i<s.length),h2 s[i]))
def FJ(s:V):r8 (s,())=some (if 1<=s.length/\s.length<=18/\fZ s then((val s:Int),0,()) else(0,2,())):=by
 by_cases O:s.length<1
 .refine(dL (ce (dj (by simp only[len];omega)))).trans ?_
  rw[if_neg J];rfl
 by_cases R:18<s.length
 .refine(dL ((b1 (c3 (by simp only[len];omega))).trans (congrArg (λb=>some (b,())) (dj (by simp only[len];omega))))).trans ?_
  rw[if_neg J];rfl
 refine(dL ((b1 (c3 (by simp only[len];omega))).trans (congrArg (λb=>some (b,())) (c3 (by simp only[len];omega))))).trans ?_;generalize hf:(λx=>_)=f;have key:=sF (f:=f) (λi=>(0,0,(val (s.take i):Int),i,())) s.length (λi=>∀h:i<s.length,h2 s[i]) (0,2,()) 0 ?_ ?_ ?_
 .have d4:((0:Int),(0:Int),(val (s.take 0):Int),0,())=((0:Int),(0:Int),(0:Int),0,()):=by simp[val]
  rw[d4]at key;rcases key with⟨hall,ah⟩|⟨⟨i,hi,aj⟩,ah⟩
  .rw[ah,if_pos ⟨J,J,w?.2 hall⟩]
   show some ((val (s.take s.length):Int),(0:Int),())=_;rw[nF]
  rw[ah,if_neg (λai=>aj (w?.1 ai.2.2 i hi))];rfl
 .intro i hi hp
  subst hf;obtain⟨e1,aN⟩:=Q4 hi (hp i (bU _) hi);refine(ce (Ak hi)).trans ?_;refine(dL e1).trans ?_;have aC:=VP (i+1) J (λj an=>hp j J);have hp:=aek (i:=i+1) J;rw[VQ hi]at aC;have c1:i64 (e? 10 (val (s.take i):Int))=((10*val (s.take i):Nat):Int):=SL (a:=10) J;simp only[aN,c1];rw[lh J,VQ hi];rfl
 .intro i hi _ hp
  subst hf;have:¬h2 s[i]:=λh=>hp λ_=>h;obtain⟨q,e1⟩:=Q3 hi this;refine(ce (Ak hi)).trans ?_;refine(dL e1).trans ?_;rfl
 intro _;subst hf;exact b1 (Mj (Js _))
end Yp
namespace Yp
open Go
def auR{b:Nat}(Y:1<=b)(h:b^w<=9223372036854775807):∀i,i<=w->b^i<=9223372036854775807:=λi hi=>e0 (BD Y hi) h
def avI(b w:Nat)(Y:1<=b)(bb:w<=1000)(h:b^w<=9223372036854775807):H3 ((b:Int),(w:Int),())=some (((b^w:Nat):Int),()):=by
 unfold H3;generalize hf:(λx=>_)=f;have key:=sF (f:=f) (λi=>(((b^i:Nat):Int),(i:Int),())) w (λ_=>True) (0,()) 0 ?_ ?_ ?_
 .have d4:(((b^0:Nat):Int),((0:Nat):Int),())=((1:Int),(0:Int),()):=bh
  rw[d4]at key;rcases key with⟨_,ah⟩|⟨⟨i,hi,aj⟩,ah⟩
  .rw[ah];rfl
  exact absurd trivial aj
 .intro i hi _
  subst hf;refine(ce (dj (show(i:Int)<(w:Int) by omega))).trans ?_;have:=auR Y h (i+1) J;rw[qX]at this;rw[SL this];have c:i64 (av (i:Int) 1)=((i+1:Nat):Int):=lh (b:=1) J;rw[c,<- qX]
 .intro i _ _ h;exact absurd trivial h
 intro _;subst hf;exact b1 (c3 (show ¬(w:Int)<(w:Int) by omega))
def avF(s:V)(hl:s.length<=1000000):Um (s,())=some (decide (fZ s),()):=by
 unfold Um;generalize hf:(λx=>_)=f;have cond:∀i (hi:i<s.length),(T (aJ (aI (ak s (aa (i:Int)) (u8 0))) (aI (u8 48))) (some (true,())) (am (aU (i:Int) (len s)) (some (aJ (aI (u8 57)) (aI (ak s (aa (i:Int)) (u8 0))),()))):Option (Bool×Unit))=some (decide (¬h2 s[i]),()):=by
  intro i hi;have fC:aU (i:Int) (len s)=true:=kS hi;rw[he,nth_get hi,fC,wU];have e1:aI (u8 48)=48:=bP;have aN:aI (u8 57)=57:=bP;rw[e1,aN];by_cases O:s[i].toNat<48
  .rw[dj (by simp only[aI];omega),D1,decide_eq_true (show ¬h2 s[i] from λh=>by unfold h2 at h;omega)]
  rw[c3 (by simp only[aI];omega),AY];by_cases R:57<s[i].toNat
  .rw[dj (by simp only[aI];omega),decide_eq_true (show ¬h2 s[i] from λh=>by unfold h2 at h;omega)]
  rw[c3 (by simp only[aI];omega),decide_eq_false (λh=>h (by unfold h2;omega))]
 have key:=sF (f:=f) (λi=>(false,(i:Int),())) s.length (λi=>∀h:i<s.length,h2 s[i]) (false,()) 0 ?_ ?_ ?_
 .rcases key with⟨hall,ah⟩|⟨⟨i,hi,aj⟩,ah⟩
  .rw[show(false,((0:Nat):Int),())=(false,(0:Int),()) from rfl]at ah
   rw[ah,decide_eq_true (w?.2 hall)];rfl
  rw[show(false,((0:Nat):Int),())=(false,(0:Int),()) from rfl]at ah;rw[ah,decide_eq_false (λai=>aj (w?.1 ai i hi))];rfl
 .intro i hi hp
  subst hf;refine(ce (dj (by simp only[len];omega))).trans ?_;refine(dR (kS hi)).trans ?_;refine(dL (cond i hi)).trans ?_;refine(b1 (decide_eq_false (λh=>h (hp i (bU _) hi)))).trans ?_;have c:i64 (av (i:Int) 1)=((i+1:Nat):Int):=lh (b:=1) J;simp only[c]
 .intro i hi _ hp
  subst hf;refine(ce (dj (by simp only[len];omega))).trans ?_;refine(dR (kS hi)).trans ?_;refine(dL (cond i hi)).trans ?_;exact ce (decide_eq_true (λh=>hp λ_=>h))
 intro _;subst hf;exact b1 (c3 (by simp only[len];omega))
end Yp
namespace Yp
open Go
def MI{B:Nat}{g:Nat->UInt8}{v:Nat}:∀{n j:Nat} (h:j<(aZ B g v n).length),(aZ B g v n)[j]=g (v/B^(n-1-j)%B)
 |n+1,0,h=>by simp[aZ]
 |n+1,j+1,h=>by simp only[aZ,List.getElem_cons_succ];rw[MI];have:n-1-j=n+1-1-(j+1):=J;rw[this]
def aeM(v w:Int)(aC:v<=9223372036854775807):MU (v,w,())=some (if 1<=w/\w<=18/\0<=v/\v<10^w.toNat then(aZ 10 dI v.toNat w.toNat,0,()) else([],1,())):=by
 unfold MU;by_cases O:w<1
 .rw[if_neg J];simp[T,ob,aJ,O,aO]
 by_cases R:18<w
 .rw[if_neg J];simp[T,ob,aJ,O,R,aO]
 by_cases af:v<0
 .rw[if_neg J];simp[T,ob,aJ,O,R,af,aO]
 obtain⟨n,rfl⟩:∃n:Nat,w=n:=⟨w.toNat,J⟩;obtain⟨b0,rfl⟩:∃n:Nat,v=n:=⟨v.toNat,J⟩;have abD:∀i:Nat,i<=18->H3 (10,(i:Int),())=some (((10^i:Nat):Int),()):=λi hi=>by have:=aek hi;exact avI 10 i J J J
 refine(dL (a:=(decide (10^n<=b0),())) ?_).trans ?_
 .refine(b1 (c3 O)).trans ?_
  refine(b1 (c3 R)).trans ?_;refine(dL (abD n J)).trans ?_;rw[asv]
 have hp:((10:Int)^n)=((10^n:Nat):Int):=(OH 10 n).symm;by_cases bY:10^n<=b0
 .refine(ce (decide_eq_true bY)).trans ?_
  rw[if_neg];· rfl
  intro h;have:=h.2.2.2;rw[iZ,hp]at this;omega
 refine(b1 (decide_eq_false bY)).trans ?_;rw[if_pos ⟨J,J,J,by rw[iZ,hp];omega⟩];simp;have d4:i64 (bi (n:Int) 1)=(n:Int)-1:=hM (by simp only[bi];omega) (by simp only[bi];omega);rw[d4];generalize hf:(λx=>_)=f;have key:=sF (f:=f) (λj=>((aZ 10 dI b0 n).take j,(n:Int)-1-j,())) n (λ_=>True) ([],0,()) 0 ?_ ?_ ?_
 .have d4:((aZ 10 dI b0 n).take 0,(n:Int)-1-(0:Nat),())=(aO UInt8,(n:Int)-1,()):=by simp[aO]
  rw[d4]at key;rcases key with⟨_,ah⟩|⟨⟨i,hi,aj⟩,ah⟩
  .rw[ah]
   show some ((aZ 10 dI b0 n).take n,(0:Int),())=_;rw[hS (by rw[lm];omega)]
  exact absurd trivial aj
 .intro i hi _
  subst hf;have e1:(n:Int)-1-i=((n-1-i:Nat):Int):=J;simp only[e1];refine(dL (abD (n-1-i) J)).trans ?_;have dB:0<10^(n-1-i):=wJ J;have c1:a_ (ag ((10^(n-1-i):Nat):Int) 0)=true:=by rw[cr J];rfl
  refine(dR c1).trans ?_;have c2:u8 (i64 (av 48 (dh (i64 (fg (b0:Int) ((10^(n-1-i):Nat):Int))) 10)))=dI (b0/10^(n-1-i)%10):=by rw[zW J,show(10:Int)=((10:Nat):Int) from rfl,vz];rw[show(48:Int)=((48:Nat):Int) from rfl,lh J,ahj];rfl
  have an:i<(aZ 10 dI b0 n).length:=by rw[lm];exact hi
  have hw:=MI an;have c4:i64 (bi ((n-1-i:Nat):Int) 1)=(n:Int)-1-((i+1:Nat):Int):=by rw[hM (by simp only[bi];omega) (by simp only[bi];omega)];simp only[bi];omega
  simp only[c2,c4];refine(dR (n? ?_)).trans ?_
  .simp only[bQ,aT,hE,ew,gw];omega
  rw[nH an,hw];rfl
 .intro i _ _ h;exact absurd trivial h
 intro _;subst hf;exact b1 (oS (show ¬(0:Int)<=(n:Int)-1-n by omega))
end Yp
namespace Yp
open Go
def ku(c:UInt8):Nat:=c.toNat-48
def er(s:V):V:=if s.length%2=1 then 48::s else s
def iw(p:V)(t:Nat):Nat:=ku (ak p t (u8 0))
def po(p:V)(a j:Nat):UInt8:=if 2*j+1<a then UInt8.ofNat (16*iw p (2*j)+iw p (2*j+1)) else if 2*j<a then UInt8.ofNat (iw p (2*j)) else u8 0
def f'(p:V):V:=(List.range (p.length/2)).map λj=>UInt8.ofNat (16*iw p (2*j)+iw p (2*j+1))
def HT(s:V):(er s).length=2*((s.length+1)/2):=by
 unfold er;split
 .simp;omega
 omega
def aee{s:V}(h:i<s.length):ak (er s) (s.length%2+i) (u8 0)=s[i]:=by
 unfold er ak;split
 .rename_i O;rw[O,Nat.add_comm];simp[h]
 rename_i O;have:s.length%2=0:=J;rw[this];simp[h]
def Ci{c:UInt8}(h:h2 c):c=UInt8.ofNat (48+ku c)/\ku c<10:=by unfold h2 at h;refine⟨?_,by unfold ku;omega⟩;apply uL.1;simp only[uO,ku];omega
def awV:∀x:Nat,x<10->∀d:Nat,d<10->u8 (gM .u8 (aI (u8 (ho .u8 (aI (UInt8.ofNat x)) (cB (u64 4))))) (aI (u8 (d:Int))))=UInt8.ofNat (16*x+d):=iL
def aua:∀d:Nat,d<10->u8 (gM .u8 (aI (u8 (ho .u8 (aI (u8 0)) (cB (u64 4))))) (aI (u8 (d:Int))))=UInt8.ofNat d:=iL
def auq{s:V}{a:Nat}(hf:∀j,j<a-s.length%2->∀h:j<s.length,h2 s[j])(bu:a<=(er s).length):∀t,t<a->iw (er s) t<10:=by
 intro t ht;have hl:=HT s;unfold iw;by_cases h:t<s.length%2
 .have O:s.length%2=1:=J
  have ao:t=0:=J;subst ao;unfold er;rw[if_pos O];show ku 48<10;decide
 have e:t=s.length%2+(t-s.length%2):=J;have hi:t-s.length%2<s.length:=J;rw[e,aee hi];exact(Ci (hf _ J hi)).2
def QH(s:V)(hl:s.length<=1000000):tC (s,())=some (if fZ s then(f' (er s),0,()) else([],2,())):=by
 unfold tC;have bF:i64 (fg (i64 (av (len s) 1)) 2)=(((s.length+1)/2:Nat):Int):=by rw[asA,show i64 (av ((s.length:Nat):Int) 1)=((s.length+1:Nat):Int) from lh (b:=1) J];exact zW (b:=2) J
 have b3:dh (len s) 2=((s.length%2:Nat):Int):=vz (b:=2);simp only[bF,b3,he];generalize ap:(s.length+1)/2=k;have iB:=HT s;rw[ap]at iB;refine(dR ?_).trans ?_
 .simp only[cY,cL]
  exact⟨rl J J J,n? J⟩
 generalize hf:(λ(x:Int×Int×Nat×V×Unit)=>_)=f;have key:=sF (f:=f) (λi=>(0,((s.length%2+i:Nat):Int),i,(List.range k).map (po (er s) (s.length%2+i)),())) s.length (λi=>∀h:i<s.length,h2 s[i]) ([],2,()) 0 ?_ ?_ ?_
 .have d4:((0:Int),((s.length%2+0:Nat):Int),0,(List.range k).map (po (er s) (s.length%2+0)),())=((0:Int),((s.length%2:Nat):Int),0,bO k (u8 0),()):=by
   have:(List.range k).map (po (er s) (s.length%2+0))=bO k (u8 0):=by
    apply tg
    .simp[bO]
    intro j O R;simp only[wy,yL,bO,List.getElem_replicate,po];rw[if_neg J];split
    .rename_i af
     have aq:s.length%2=1:=J;have a8:j=0:=J;subst a8;unfold er;rw[if_pos aq];show UInt8.ofNat (ku 48)=u8 0;decide
    rfl
   rw[this];rfl
  rw[d4]at key;rcases key with⟨hall,ah⟩|⟨⟨i,hi,aj⟩,ah⟩
  .rw[ah,if_pos (w?.2 hall)]
   have:(List.range k).map (po (er s) (s.length%2+s.length))=f' (er s):=by unfold f';rw[iB,show 2*k/2=k by omega];apply List.map_congr_left;intro j an;have:=ov.1 an;unfold po;rw[if_pos J]
   rw[this];rfl
  rw[ah,if_neg (λai=>aj (w?.1 ai i hi))];rfl
 .intro i hi hp
  subst hf;obtain⟨e1,aN⟩:=Q4 hi (hp i (bU _) hi);refine(ce (Ak hi)).trans ?_;refine(dL e1).trans ?_;generalize bu:s.length%2+i=a;have Se:=auq (s:=s) (a:=a+1) (λj an=>hp j J) J;have q':iw (er s) a=s[i].toNat-48:=by unfold iw;rw[<- bu,aee hi];rfl
  have c1:i64 (fg ((a:Nat):Int) 2)=((a/2:Nat):Int):=zW (b:=2) J;have c2:i64 (av ((a:Nat):Int) 1)=((a+1:Nat):Int):=lh (b:=1) J;have a2:a/2<((List.range k).map (po (er s) a)).length:=fv;simp only[bu,c1,c2,aN,he];refine(dR (kS a2)).trans ?_;refine(dR (kS a2)).trans ?_;have dJ:s.length%2+(i+1)=a+1:=J;have aC:u8 (gM .u8 (aI (u8 (ho .u8 (aI (ak ((List.range k).map (po (er s) a)) (a/2) (u8 0))) (cB (u64 4))))) (aI (u8 ((s[i].toNat-48:Nat):Int))))=po (er s) (a+1) (a/2):=by
   rw[nth_get a2,wy,yL,<- q'];unfold po;rw[if_neg J];by_cases azp:a%2=0
   .rw[if_neg J,if_neg J,if_pos J,aua _ (Se a J),show 2*(a/2)=a by omega]
   rw[if_pos J,if_pos J,awV _ (Se _ J) _ (Se a J),show 2*(a/2)+1=a by omega]
  simp only[aC,dJ];have nj:cj ((List.range k).map (po (er s) a)) (a/2) (po (er s) (a+1) (a/2))=(List.range k).map (po (er s) (a+1)):=by
   unfold cj;apply tg
   .simp
   intro j O R;rw[OD];simp only[wy,yL];split
   .rename_i af;rw[af]
   unfold po;by_cases aq:2*j+1<a
   .rw[if_pos aq,if_pos J]
   rw[if_neg aq];by_cases a8:2*j<a
   .rw[if_pos a8,if_neg J,if_pos J]
   rw[if_neg a8,if_neg J,if_neg J]
  rw[nj];rfl
 .intro i hi _ hp
  subst hf;have:¬h2 s[i]:=λh=>hp λ_=>h;obtain⟨q,e1⟩:=Q3 hi this;refine(ce (Ak hi)).trans ?_;refine(dL e1).trans ?_;rfl
 intro _;subst hf;exact b1 (Mj (Js _))
def avJ:∀x,x<10->∀y,y<10->u8 (bi (aI (u8 (av (aI (u8 (e? (aI (u8 16)) (aI (u8 (bi (aI (UInt8.ofNat (48+x))) (aI (u8 48)))))))) (aI (UInt8.ofNat (48+y)))))) (aI (u8 48)))=UInt8.ofNat (16*x+y):=iL
def avE(s:V)(hl:s.length<=1000000):Ul (s,())=some (if fZ s then(f' (er s),0,()) else([],2,())):=by
 unfold Ul;refine(dL (avF s hl)).trans ?_;by_cases af:fZ s
 rotate_left
 .refine(ce (by simp only[decide_eq_false af,a_,Bool.not_false])).trans ?_
  rw[if_neg af];rfl
 refine(b1 (by simp only[decide_eq_true af,a_,Jr])).trans ?_;rw[if_pos af];refine(dL (a:=(er s,())) ?_).trans ?_
 .have b3:dh (len s) 2=((s.length%2:Nat):Int):=vz (b:=2)
  simp only[b3];unfold er;by_cases h:s.length%2=1
  .rw[if_pos h]
   refine(ce (cJ J)).trans ?_;refine(dR (hN ?_)).trans rfl;simp only[av,len,ew,gw];omega
  rw[if_neg h];refine(b1 (cr J))
 have iB:=HT s;have GB:∀t,(ht:t<(er s).length)->h2 (er s)[t]:=by
  intro t ht;by_cases h:s.length%2=1
  .have e:er s=48::s:=by unfold er;rw[if_pos h]
   simp only[e]at ht ⊢;cases t with
   |zero=>exact(by decide:h2 48)
   |succ t=>exact af t (by simpa using ht)
  have e:er s=s:=by unfold er;rw[if_neg h]
  simp only[e]at ht ⊢;exact af t ht
 generalize er s=p at *
 generalize ap:(s.length+1)/2=k at *
 generalize hf:(λ(x:V×Int×Unit)=>_)=f;have key:=sF (f:=f) (λj=>((f' p).take j,((2*j:Nat):Int),())) k (λ_=>True) ([],0,()) 0 ?_ ?_ ?_
 .rcases key with⟨_,ah⟩|⟨⟨i,hi,aj⟩,ah⟩
  .have d4:((f' p).take 0,((2*0:Nat):Int),())=(aO UInt8,(0:Int),()):=by simp[aO]
   rw[d4]at ah;rw[ah];show some ((f' p).take k,(0:Int),())=_;rw[hS (by simp[f'];omega)]
  exact absurd trivial aj
 .intro i hi _
  subst hf;refine(ce (dj (show((2*i:Nat):Int)<len p by simp only[len];omega))).trans ?_;have ao:2*i<p.length:=J;have O:2*i+1<p.length:=J;have c1:i64 (av ((2*i:Nat):Int) 1)=((2*i+1:Nat):Int):=lh (b:=1) J;have c2:i64 (av ((2*i:Nat):Int) 2)=((2*(i+1):Nat):Int):=lh (b:=2) J;simp only[c1,c2,he];refine(dR (kS ao)).trans ?_;refine(dR (kS O)).trans ?_;refine(dR (n? ?_)).trans ?_
  .simp only[bQ,aT,hE,ew,gw,f',ou,JN];omega
  have an:i<(f' p).length:=by simp[f'];omega
  have hg:(f' p)[i]=UInt8.ofNat (16*iw p (2*i)+iw p (2*i+1)):=by simp[f']
  rw[nH an,hg,nth_get ao,nth_get O];obtain⟨cG,cQ⟩:=Ci (GB _ ao);obtain⟨eT,ei⟩:=Ci (GB _ O);have aC:=avJ _ cQ _ ei;rw[<- cG,<- eT]at aC;have k?:iw p (2*i)=ku p[2*i]:=by unfold iw;rw[nth_get ao]
  have mB:iw p (2*i+1)=ku p[2*i+1]:=by unfold iw;rw[nth_get O]
  rw[aC,k?,mB];rfl
 .intro i _ _ h;exact absurd trivial h
 intro _;subst hf;exact b1 (c3 (show ¬((2*k:Nat):Int)<len p by simp only[len];omega))
end Yp
namespace Yp
open Go
def zl{v:Nat}:∀{n:Nat},fZ (aZ 10 dI v n)
 |n=>by
  intro i hi;rw[MI];have kO:v/10^(n-1-i)%10<10:=tc _ J;generalize v/10^(n-1-i)%10=d at *
  unfold h2 dI;simp only[uO];omega
def aup{s:V}(h:s.length%2=0):er s=s:=by unfold er;rw[if_neg J]
end Yp
namespace Yp
open Go
def me(d:Nat):UInt8:=ak R2 d (u8 0)
def eW(b:V):V:=b.flatMap λx=>[me (x.toNat/16),me (x.toNat%16)]
def nh(b:V):(eW b).length=2*b.length:=by
 induction b with
 |nil=>rfl
 |cons x r ih =>have:eW (x::r)=[me (x.toNat/16),me (x.toNat%16)]++eW r:=rfl;rw[this,cE,ih];simp;omega
def abd(a b:V):eW (a++b)=eW a++eW b:=by simp[eW]
def atB(c:UInt8):UInt8.ofNat c.toNat=c:=by apply uL.1;simp
def tt{p:UInt8->Prop}(h:∀n,n<256->p (UInt8.ofNat n))(c:UInt8):p c:=by
 have:=h c.toNat c.toNat_lt
 rwa [atB]at this
def abj:∀c:UInt8,aU (aI (u8 (fr IntKind.u8 (aI c) (cB (u64 4))))) (len [48,49,50,51,52,53,54,55,56,57,97,98,99,100,101,102])=true /\
  ak [48,49,50,51,52,53,54,55,56,57,97,98,99,100,101,102] (aa (aI (u8 (fr IntKind.u8 (aI c) (cB (u64 4)))))) (u8 0)=me (c.toNat/16):=tt iL
def acG:∀c:UInt8,aU (aI (u8 (iI IntKind.u8 (aI c) (aI (u8 15))))) (len [48,49,50,51,52,53,54,55,56,57,97,98,99,100,101,102])=true /\
  ak [48,49,50,51,52,53,54,55,56,57,97,98,99,100,101,102] (aa (aI (u8 (iI IntKind.u8 (aI c) (aI (u8 15)))))) (u8 0)=me (c.toNat%16):=tt iL
def Y0(b:V)(hl:b.length<=1000000):Cg (b,())=some (eW b,()):=by
 unfold Cg;have bF:i64 (e? 2 (len b))=((2*b.length:Nat):Int):=SL (a:=2) J;simp only[bF,he];refine(dR ?_).trans ?_
 .simp only[cY,cL]
  exact⟨rl J J J,n? J⟩
 generalize hf:(λ(x:V×Int×Unit)=>_)=f;have key:=sF (f:=f) (λi=>(eW (b.take i),(i:Int),())) b.length (λ_=>True) ([],()) 0 ?_ ?_ ?_
 .have d4:(eW (b.take 0),((0:Nat):Int),())=(bO (aa 0) (u8 0),(0:Int),()):=by simp[eW,bO,aa]
  rw[d4]at key;rcases key with⟨_,ah⟩|⟨⟨i,hi,aj⟩,ah⟩
  .rw[ah,nF];rfl
  exact absurd trivial aj
 .intro i hi _
  subst hf;refine(ce (dj (show(i:Int)<len b by simp only[len];omega))).trans ?_;refine(dR (kS hi)).trans ?_;have c:i64 (av (i:Int) 1)=((i+1:Nat):Int):=lh (b:=1) J;simp only[he,nth_get hi,c];refine(dR (abj _).1).trans ?_;refine(dR (acG _).1).trans ?_;simp only[(abj _).2,(acG _).2];refine(dR (n? ?_)).trans ?_
  .simp only[bQ,aT,nh,hE,ew,gw];omega
  rw[nH hi,abd];rfl
 .intro i _ _ h;exact absurd trivial h
 intro _;subst hf;exact b1 (c3 (show ¬((b.length:Nat):Int)<len b by simp only[len];omega))
def awx:∀c:UInt8,H4 (u8 (fg (aI c) (aI (u8 16))),())=some (me (c.toNat/16),()):=tt iL
def awy:∀c:UInt8,H4 (u8 (dh (aI c) (aI (u8 16))),())=some (me (c.toNat%16),()):=tt iL
def avG(b:V)(hl:b.length<=1000000):DO (b,())=some (eW b,()):=by
 unfold DO;generalize hf:(λ(x:V×Int×Unit)=>_)=f;have key:=sF (f:=f) (λi=>(eW (b.take i),(i:Int),())) b.length (λ_=>True) ([],()) 0 ?_ ?_ ?_
 .have d4:(eW (b.take 0),((0:Nat):Int),())=(aO UInt8,(0:Int),()):=by simp[eW,aO]
  rw[d4]at key;rcases key with⟨_,ah⟩|⟨⟨i,hi,aj⟩,ah⟩
  .rw[ah,nF];rfl
  exact absurd trivial aj
 .intro i hi _
  subst hf;refine(ce (dj (show(i:Int)<len b by simp only[len];omega))).trans ?_;refine(dR (kS hi)).trans ?_;have c:i64 (av (i:Int) 1)=((i+1:Nat):Int):=lh (b:=1) J;simp only[he,nth_get hi,c];refine(dL (awx _)).trans ?_;refine(dR (kS hi)).trans ?_;refine(dL (awy _)).trans ?_;refine(dR (n? ?_)).trans ?_
  .simp only[bQ,aT,nh,hE,ew,gw];omega
  rw[nH hi,abd];rfl
 .intro i _ _ h;exact absurd trivial h
 intro _;subst hf;exact b1 (c3 (show ¬((b.length:Nat):Int)<len b by simp only[len];omega))
def rm(c:UInt8):Prop:=(48<=c.toNat/\c.toNat<=57)\/(97<=c.toNat/\c.toNat<=102)
instance (c:UInt8):Decidable (rm c):=inferInstanceAs (Decidable (_\/_))
def lg(c:UInt8):Nat:=if c.toNat<=57 then c.toNat-48 else c.toNat-87
def oi(s:V):V:=(List.range (s.length/2)).map λj=>UInt8.ofNat (16*lg (ak s (2*j) (u8 0))+lg (ak s (2*j+1) (u8 0)))
def zE(s:V):Prop:=∀(i:Nat) (h:i<s.length),rm s[i]
instance (s:V):Decidable (zE s):=inferInstanceAs (Decidable (∀(i:Nat) (h:i<s.length),rm s[i]))
def Y3:∀c:UInt8,KA (c,())=some (if rm c then(UInt8.ofNat (lg c),true,()) else(u8 0,false,())):=tt iL
def abV:∀c:UInt8,rm c->lg c<16:=tt iL
def atj:∀x:Nat,x<16->∀y:Nat,y<16->u8 (gM IntKind.u8 (aI (u8 (ho IntKind.u8 (aI (UInt8.ofNat x)) (cB (u64 4))))) (aI (UInt8.ofNat y)))=UInt8.ofNat (16*x+y):=iL
def R4{s:V}{k:Nat}(R:s.length=2*k):(∀i,i<k->rm (ak s (2*i) (u8 0))/\rm (ak s (2*i+1) (u8 0)))↔zE s:=by
 constructor
 .intro h i hi
  have:=h (i/2) J;by_cases hp:i%2=0
  .have:=this.1
   rw[show 2*(i/2)=i by omega,nth_get hi]at this;exact this
  have:=this.2;rw[show 2*(i/2)+1=i by omega,nth_get hi]at this;exact this
 intro h i hi;rw[nth_get J,nth_get J];exact⟨h _ _,h _ _⟩
def QK(s:V)(hl:s.length<=1000000):Ch (s,())=some (if s.length%2=0/\zE s then(oi s,0,()) else([],2,())):=by
 unfold Ch;have b3:dh (len s) 2=((s.length%2:Nat):Int):=vz (b:=2);have bF:i64 (fg (len s) 2)=((s.length/2:Nat):Int):=zW (b:=2) J;simp only[bF,b3,he];by_cases h:s.length%2=0
 rotate_left
 .refine(ce (cJ J)).trans ?_
  rw[if_neg (λai=>h ai.1)];rfl
 refine(b1 (cr J)).trans ?_;refine(dR ?_).trans ?_
 .simp only[cY,cL]
  exact⟨rl J J J,n? J⟩
 generalize ap:s.length/2=k;have R:s.length=2*k:=J;generalize hf:(λ(x:Int×V×Int×Unit)=>_)=f;have key:=sF (f:=f) (λi=>(0,(oi s).take i,((2*i:Nat):Int),())) k (λi=>rm (ak s (2*i) (u8 0))/\rm (ak s (2*i+1) (u8 0))) ([],2,()) 0 ?_ ?_ ?_
 .have d4:((0:Int),(oi s).take 0,((2*0:Nat):Int),())=((0:Int),bO (aa 0) (u8 0),(0:Int),()):=by simp[bO,aa]
  rw[d4]at key;rcases key with⟨hall,ah⟩|⟨⟨i,hi,aj⟩,ah⟩
  .rw[ah,if_pos ⟨h,(R4 R).1 hall⟩,hS (by simp[oi];omega)];rfl
  rw[ah,if_neg (λai=>aj ((R4 R).2 ai.2 i hi))];rfl
 .intro i hi hp
  subst hf;obtain⟨aec,dF⟩:=hp i (bU _);have ao:2*i<s.length:=J;have O:2*i+1<s.length:=J;have c1:i64 (av ((2*i:Nat):Int) 1)=((2*i+1:Nat):Int):=lh (b:=1) J;have c2:i64 (av ((2*i:Nat):Int) 2)=((2*(i+1):Nat):Int):=lh (b:=2) J;refine(ce (dj (show((2*i:Nat):Int)<len s by simp only[len];omega))).trans ?_;refine(dR (kS ao)).trans ?_;simp only[c1,c2,he,Y3,if_pos aec,if_pos dF];refine(dL rfl).trans ?_;refine(dR (kS O)).trans ?_;refine(dL rfl).trans ?_;refine(dL (a:=(false,())) rfl).trans ?_;refine(b1 rfl).trans ?_;refine(dR (n? ?_)).trans ?_
  .simp only[bQ,aT,hE,ew,gw]
   have:(oi s).length=s.length/2:=by simp[oi]
   omega
  have an:i<(oi s).length:=by simp[oi];omega
  have hg:(oi s)[i]=UInt8.ofNat (16*lg (ak s (2*i) (u8 0))+lg (ak s (2*i+1) (u8 0))):=by simp[oi]
  rw[nH an,hg];simp only[atj _ (abV _ aec) _ (abV _ dF)];rfl
 .intro i hi _ hp
  subst hf;have ao:2*i<s.length:=J;have O:2*i+1<s.length:=J;have c1:i64 (av ((2*i:Nat):Int) 1)=((2*i+1:Nat):Int):=lh (b:=1) J;refine(ce (dj (show((2*i:Nat):Int)<len s by simp only[len];omega))).trans ?_;refine(dR (kS ao)).trans ?_;simp only[c1,he,Y3];refine(dL rfl).trans ?_;refine(dR (kS O)).trans ?_;refine(dL rfl).trans ?_;refine(dL (a:=(true,())) ?_).trans ?_
  .by_cases um:rm (ak s (2*i) (u8 0))
   .rw[if_pos um,if_neg (λbG=>hp ⟨um,bG⟩)];rfl
   rw[if_neg um];rfl
  exact ce rfl
 intro _;subst hf;exact b1 (c3 (show ¬((2*k:Nat):Int)<len s by simp only[len];omega))
end Yp
namespace Yp
open Go
def my(l:V):Nat:=l.foldl (λn c=>256*n+c.toNat) 0
def Fh{s:V}(h:i<s.length):my (s.take (i+1))=256*my (s.take i)+s[i].toNat:=by unfold my;rw[nH h,OA];rfl
def W5{s:V}:∀i,i<=s.length->my (s.take i)<256^i
 |0,_=>by simp[my]
 |i+1,h=>by have:=W5 (s:=s) i J;have hi:=xI s[i];rw[Fh J,qX];omega
def W6{s:V}(ao:0<s.length)(ac:s[0].toNat<=127):∀i,i<s.length->my (s.take (i+1))<128*256^i
 |0,_=>by rw[Fh ao];simp[my];omega
 |i+1,h=>by have:=W6 ao ac i J;have hi:=xI s[i+1];rw[Fh h,qX];omega
def awU(x c:Nat)(ai:c<256)(h:256*x+c<=9223372036854775807):i64 (gM .i64 (i64 (ho .i64 (x:Int) (cB (u64 8)))) (c:Int))=((256*x+c:Nat):Int):=by
 have e1:ho .i64 (x:Int) (cB (u64 8))=((256*x:Nat):Int):=by have:ho .i64 (x:Int) (cB (u64 8))=(x:Int)*2^8:=rfl;rw[this];have:(2:Int)^8=256:=bP;rw[this];omega
 rw[e1,rj J];have aN:gM .i64 ((256*x:Nat):Int) (c:Int)=((256*x+c:Nat):Int):=by show(((BitVec.ofInt 64 ((256*x:Nat):Int)|||BitVec.ofInt 64 (c:Int)).toNat:Nat):Int)=_;rw[JU,JU,BitVec.toNat_or,BF,BF,lY J,lY J];have:=JC (i:=8) ai x;rw[show(2:Nat)^8=256 by decide]at this;rw[<- this]
 rw[aN,rj h]
def ec(b:V)(A W:Nat):V:=(b.drop A).take W
def yi{b:V}(h:A+W<=b.length):(ec b A W).length=W:=by simp[ec];omega
def ag1{b:V}(h:i<(ec b A W).length)(bL:A+i<b.length):(ec b A W)[i]=b[A+i]:=by simp[ec]
def U9{b:V}:sub b (A:Int) ((A+W:Nat):Int)=ec b A W:=by unfold sub ec;rw[iZ,iZ,show A+W-A=W by omega]
def jp(b:V)(c9 w:Int):Int×Int×Int×Unit:=
 if w<1\/8<w\/c9<0\/(b.length:Int)<c9 then(0,0,1,()) else if(b.length:Int)-c9<w then(0,0,3,())
 else if w=8/\127<(ak b c9.toNat (u8 0)).toNat then(0,0,2,()) else((my (ec b c9.toNat w.toNat):Int),c9+w,0,())
def W4{b:V}(dn:A+W<=b.length)(hW:W<=8)(dN:¬((W:Int)=8/\127<(ak b A (u8 0)).toNat)):∀i,i<W->my ((ec b A W).take (i+1))<=9223372036854775807:=by
 intro i hi;have hl:=yi dn;by_cases apY:i+1<=7
 .have O:=W5 (s:=ec b A W) (i+1) J
  have R:256^(i+1)<=256^7:=BD J apY;have af:256^7=72057594037927936:=bP;omega
 have cx:W=8:=J;have ao:0<(ec b A W).length:=J;have aj:(ec b A W)[0]=ak b A (u8 0):=by rw[ag1 ao J,nth_get J];rfl
 have ac:(ec b A W)[0].toNat<=127:=by rw[aj];exact Nat.le_of_not_lt λh=>dN ⟨J,h⟩
 have:=W6 ao ac i J;have gG:i=7:=J;subst gG;have af:256^7=72057594037927936:=bP;omega
def Y1(b:V)(c9 w:Int)(hl:b.length<=1000000):la (b,c9,w,())=some (jp b c9 w):=by
 unfold la jp;by_cases O:w<1
 .rw[if_pos (.inl O)];exact(dL (ce (dj O))).trans rfl
 by_cases R:8<w
 .rw[if_pos (.inr (.inl R))];exact(dL (a:=(true,())) ((b1 (c3 O)).trans (ce (dj R)))).trans rfl
 by_cases af:c9<0
 .rw[if_pos (.inr (.inr (.inl af)))];exact(dL (a:=(true,())) ((b1 (c3 O)).trans ((b1 (c3 R)).trans (ce (dj af))))).trans rfl
 by_cases aq:(b.length:Int)<c9
 .rw[if_pos (.inr (.inr (.inr aq)))];exact(dL (a:=(true,())) ((b1 (c3 O)).trans ((b1 (c3 R)).trans ((b1 (c3 af)).trans (congrArg (λb=>some (b,())) (dj aq)))))).trans rfl
 rw[if_neg J];refine(dL (a:=(false,())) ((b1 (c3 O)).trans ((b1 (c3 R)).trans ((b1 (c3 af)).trans (congrArg (λb=>some (b,())) (c3 aq)))))).trans ?_;refine(b1 rfl).trans ?_;obtain⟨A,rfl⟩:∃n:Nat,c9=n:=⟨c9.toNat,J⟩;obtain⟨W,rfl⟩:∃n:Nat,w=n:=⟨w.toNat,J⟩;have c0:i64 (bi (len b) (A:Int))=(b.length:Int)-A:=by simp only[bi,len];exact hM J J
 simp only[c0];by_cases a8:(b.length:Int)-A<W
 .rw[if_pos a8];exact ce (dj a8)
 rw[if_neg a8];refine(b1 (c3 a8)).trans ?_;have aaB:A+W<=b.length:=J;have dn:A<b.length:=J;have al5:(T (ag (W:Int) 8) (am (aU (A:Int) (len b)) (some (aJ (aI (u8 127)) (aI (ak b (aa (A:Int)) (u8 0))),()))) (some (false,())):Option (Bool×Unit))=some (decide ((W:Int)=8/\127<(ak b A (u8 0)).toNat),()):=by
  by_cases cx:(W:Int)=8
  .refine(ce (cJ cx)).trans ?_
   refine(dR (kS dn)).trans ?_;rw[he,show aI (u8 127)=((127:Nat):Int) by decide,show aI (ak b A (u8 0))=(((ak b A (u8 0)).toNat:Nat):Int) from rfl,Tf];simp only[cx,true_and]
  refine(b1 (cr cx)).trans ?_;rw[decide_eq_false (λh=>cx h.1)]
 simp only[iZ];refine(dL al5).trans ?_;by_cases dN:(W:Int)=8/\127<(ak b A (u8 0)).toNat
 .rw[if_pos dN];exact ce (decide_eq_true dN)
 rw[if_neg dN];refine(b1 (decide_eq_false dN)).trans ?_;have c1:i64 (av (A:Int) (W:Int))=((A+W:Nat):Int):=lh J;simp only[c1,U9];refine(dR (rl J J (by simp only[len];omega))).trans ?_;have hl:=yi aaB;have ao6:=W4 aaB J dN;generalize xo:ec b A W=t at *
 generalize hf:(λ(x:Int×Int×Unit)=>_)=f;have key:=sF (f:=f) (λi=>((my (t.take i):Int),(i:Int),())) W (λ_=>True) (0,0,0,()) 1 ?_ ?_ ?_
 .have d4:((my (t.take 0):Int),((0:Nat):Int),())=((0:Int),(0:Int),()):=by simp[my]
  rw[d4]at key;rcases key with⟨_,ah⟩|⟨⟨i,hi,aj⟩,ah⟩
  .rw[ah,hS J]
   show some ((my t:Int),((A+W:Nat):Int),0,())=_;simp
  exact absurd trivial aj
 .intro i hi _
  subst hf;have rd:i<t.length:=J;refine(ce (dj (show(i:Int)<len t by simp only[len];omega))).trans ?_;refine(dR (kS rd)).trans ?_;have c:i64 (av (i:Int) 1)=((i+1:Nat):Int):=lh (b:=1) J;have aaz:=xI t[i];have Y:=ao6 i hi;rw[Fh rd]at Y;have c2:i64 (aI t[i])=((t[i].toNat:Nat):Int):=rj J;simp only[he,nth_get rd,c,c2];rw[awU _ _ aaz Y,Fh rd]
 .intro i _ _ h;exact absurd trivial h
 intro _;subst hf;exact b1 (c3 (show ¬(W:Int)<len t by simp only[len];omega))
end Yp
namespace Yp
open Go
def iX(b:V)(c9 n:Int):V×Int×Int×Unit:=
 if n<0\/999<n\/c9<0\/(b.length:Int)<c9 then([],0,1,()) else if(b.length:Int)-c9<(n+1)/2 then([],0,3,())
 else if n%2=1/\¬ak (eW (ec b c9.toNat ((n.toNat+1)/2))) 0 (u8 0)=48 then([],0,2,())
 else if fZ ((eW (ec b c9.toNat ((n.toNat+1)/2))).drop (n.toNat%2)) then((eW (ec b c9.toNat ((n.toNat+1)/2))).drop (n.toNat%2),c9+((n.toNat+1)/2:Nat),0,()) else([],0,2,())
def afd(s:V)(f:V×Int×Int×Nat×Unit->Option (aE (V×Int×Int×Nat×Unit) (V×Int×Int×Unit)))
  (hf:f=λx=>T (i6 x.2.2.2.1 (aT s)) (ob (r9 (bf (gA s x.2.2.2.1).1,())) λa6=>T (a_ a6.2.1) (some (aE.rt (aO UInt8,0,2,()))) (some (aE.nx (x.1,x.2.1,x.2.2.1,bQ x.2.2.2.1 (gA s x.2.2.2.1).2,())))) (some (aE.ex 0 (x.1,x.2.1,x.2.2.1,x.2.2.2.1,())))) :
  bN f (aO UInt8,0,0,0,())=some (if fZ s then aE.ex 0 (aO UInt8,0,0,s.length,()) else aE.rt (aO UInt8,0,2,())):=by
 have key:=sF (f:=f) (λi=>(aO UInt8,(0:Int),(0:Int),i,())) s.length (λi=>∀h:i<s.length,h2 s[i]) (aO UInt8,0,2,()) 0 ?_ ?_ ?_
 .rcases key with⟨hall,ah⟩|⟨⟨i,hi,aj⟩,ah⟩
  .rw[ah,if_pos (w?.2 hall)]
  rw[ah,if_neg (λai=>aj (w?.1 ai i hi))]
 .intro i hi hp
  subst hf;obtain⟨e1,aN⟩:=Q4 hi (hp i (bU _) hi);refine(ce (Ak hi)).trans ?_;refine(dL e1).trans ?_;refine(b1 rfl).trans ?_;simp only[aN];rfl
 .intro i hi _ hp
  subst hf;have:¬h2 s[i]:=λh=>hp λ_=>h;obtain⟨q,e1⟩:=Q3 hi this;refine(ce (Ak hi)).trans ?_;refine(dL e1).trans ?_;rfl
 intro _;subst hf;exact b1 (Mj (Js _))
def QJ(b:V)(c9 n:Int)(hl:b.length<=1000000):w1 (b,c9,n,())=some (iX b c9 n):=by
 unfold w1 iX;by_cases O:n<0
 .rw[if_pos (.inl O)];exact(dL (ce (dj O))).trans rfl
 by_cases R:999<n
 .rw[if_pos (.inr (.inl R))];exact(dL (a:=(true,())) ((b1 (c3 O)).trans (ce (dj R)))).trans rfl
 by_cases af:c9<0
 .rw[if_pos (.inr (.inr (.inl af)))];exact(dL (a:=(true,())) ((b1 (c3 O)).trans ((b1 (c3 R)).trans (ce (dj af))))).trans rfl
 by_cases aq:(b.length:Int)<c9
 .rw[if_pos (.inr (.inr (.inr aq)))];exact(dL (a:=(true,())) ((b1 (c3 O)).trans ((b1 (c3 R)).trans ((b1 (c3 af)).trans (congrArg (λb=>some (b,())) (dj aq)))))).trans rfl
 rw[if_neg J];refine(dL (a:=(false,())) ((b1 (c3 O)).trans ((b1 (c3 R)).trans ((b1 (c3 af)).trans (congrArg (λb=>some (b,())) (c3 aq)))))).trans ?_;refine(b1 rfl).trans ?_;obtain⟨A,rfl⟩:∃n:Nat,c9=n:=⟨c9.toNat,J⟩;obtain⟨N,rfl⟩:∃k:Nat,n=k:=⟨n.toNat,J⟩;have c0:i64 (bi (len b) (A:Int))=(b.length:Int)-A:=by simp only[bi,len];exact hM J J
 have c1:i64 (fg (i64 (av (N:Int) 1)) 2)=(((N+1)/2:Nat):Int):=by rw[show i64 (av (N:Int) 1)=((N+1:Nat):Int) from lh (b:=1) J];exact zW (b:=2) J
 have c2:((N:Int)+1)/2=(((N+1)/2:Nat):Int):=J;simp only[c0,c1,c2,iZ];generalize dS:(N+1)/2=M;by_cases a8:(b.length:Int)-A<M
 .rw[if_pos a8];exact ce (dj a8)
 rw[if_neg a8];refine(b1 (c3 a8)).trans ?_;have aol:A+M<=b.length:=J;have hw:i64 (av (A:Int) (M:Int))=((A+M:Nat):Int):=lh J;simp only[hw,U9];refine(dR (rl J J (by simp only[len];omega))).trans ?_;have tW:=yi aol;refine(dL (Y0 (ec b A M) J)).trans ?_;have CQ:=nh (ec b A M);rw[tW]at CQ;generalize eW (ec b A M)=h at *
 have b3:dh (N:Int) 2=((N%2:Nat):Int):=vz (b:=2);simp only[b3];by_cases aqu:N%2=1
 .have hm:(N:Int)%2=1:=J
  refine(ce (cJ J)).trans ?_;have ao:0<h.length:=J;refine(dR (kS (a:=0) ao)).trans ?_;have d4:ag (aI (ak h (aa 0) (u8 0))) (aI (u8 48))=decide (ak h 0 (u8 0)=48):=by
   show((((ak h 0 (u8 0)).toNat:Nat):Int)==((48:Nat):Int))=_;rw[pc];simp only[beq_iff_eq,decide_eq_true_eq];constructor
   .intro hh;apply uL.1;exact E1 hh
   intro hh;rw[hh];rfl
  rw[d4];by_cases bj:ak h 0 (u8 0)=48
  rotate_left
  .rw[if_pos ⟨hm,bj⟩]
   exact ce (by rw[decide_eq_false bj];rfl)
  rw[if_neg (λai=>ai.2 bj)];refine(b1 (by rw[decide_eq_true bj];rfl)).trans ?_;refine(dR (rl J (by simp only[len];omega) (by simp only[len];omega))).trans ?_;have es:sub h 1 (len h)=h.drop 1:=by unfold sub len;show(h.drop 1).take (h.length-1)=_;rw[hS bh]
  simp only[es,aqu];refine(c' (afd (h.drop 1) _ rfl)).trans ?_;by_cases hf:fZ (h.drop 1)
  .rw[if_pos hf,if_pos hf]
   show some (h.drop 1,((A+M:Nat):Int),(0:Int),())=_;simp
  rw[if_neg hf,if_neg hf];rfl
 have iR:N%2=0:=J;rw[if_neg (λai=>J)];refine(b1 (cr J)).trans ?_;simp only[iR,nD];refine(c' (afd h _ rfl)).trans ?_;by_cases hf:fZ h
 .rw[if_pos hf,if_pos hf]
  show some (h,((A+M:Nat):Int),(0:Int),())=_;simp
 rw[if_neg hf,if_neg hf];rfl
end Yp
namespace Yp
open Go
end Yp
namespace Yp
open Go
def s8(B:Nat)(wt:UInt8->Nat)(l:V):Nat:=l.foldl (λn c=>B*n+wt c) 0
def aho(B:Nat)(wt:UInt8->Nat)(l:V)(c:UInt8):s8 B wt (l++[c])=B*s8 B wt l+wt c:=by unfold s8;rw[OA];rfl
def MJ(B:Nat)(g:Nat->UInt8)(v:Nat):∀n,aZ B g v (n+1)=aZ B g (v/B) n++[g (v%B)]
 |0=>by simp[aZ]
 |n+1=>by have e:aZ B g v (n+1+1)=g (v/B^(n+1)%B)::aZ B g v (n+1):=rfl;have aN:aZ B g (v/B) (n+1)=g (v/B/B^n%B)::aZ B g (v/B) n:=rfl;rw[e,MJ B g v n,aN,Nat.div_div_eq_div_mul,Nat.pow_succ',lA]
def VR{B:Nat}{g:Nat->UInt8}{wt:UInt8->Nat}(aB:0<B)(h:∀d,d<B->wt (g d)=d):∀(n v:Nat),s8 B wt (aZ B g v n)=v%B^n
 |0,v=>by simp[aZ,s8,Nat.mod_one]
 |n+1,v=>by rw[MJ,aho,VR aB h n,h _ (tc _ aB),Nat.pow_succ',Nat.mod_mul];omega
def aeo{B:Nat}{g:Nat->UInt8}{wt:UInt8->Nat}{l:V}(h:∀c∈l,wt c<B/\g (wt c)=c):∀i,i<=l.length->aZ B g (s8 B wt (l.take i)) i=l.take i
 |0,_=>by simp[aZ]
 |i+1,hi=>by
  have ai:=h _ (mu (show i<l.length by omega));rw[nH J,aho,MJ];have e1:(B*s8 B wt (l.take i)+wt l[i])/B=s8 B wt (l.take i):=by rw[Nat.mul_add_div J,E8 ai.1];omega
  have aN:(B*s8 B wt (l.take i)+wt l[i])%B=wt l[i]:=by rw[Nat.mul_add_mod,lY ai.1]
  rw[e1,aN,aeo h i J,ai.2]
theorem ajg(l:V):my l=s8 256 UInt8.toNat l:=rfl
theorem ayi(l:V):val l=s8 10 ku l:=rfl
def ajf(v n:Nat):my (aZ 256 m_ v n)=v%256^n:=by rw[ajg];refine VR J (λd aF => ?_) n v;simp only[m_,uO];omega
def N2(v n:Nat):val (aZ 10 dI v n)=v%10^n:=by rw[ayi];refine VR J (λd aF => ?_) n v;simp only[ku,dI,uO];omega
def aen{l:V}(hf:fZ l):aZ 10 dI (val l) l.length=l:=by
 have:=aeo (B:=10) (g:=dI) (wt:=ku) (l:=l) (λc ai=>by obtain⟨i,hi,rfl⟩:=uN ai;have:=Ci (hf i hi);exact⟨this.2,this.1.symm⟩) l.length (bU _)
 rw[nF]at this;exact this
def ayh{l:V}(hf:fZ l):val l<10^l.length:=by have:=VP (s:=l) l.length (bU _) (λj _ h=>hf j h);rw[nF]at this;exact this
def Lr{b:V}:∀{i:Nat} (h:i<b.length),ak (eW b) (2*i) (u8 0)=me (b[i].toNat/16)/\ak (eW b) (2*i+1) (u8 0)=me (b[i].toNat%16):=by
 induction b with
 |nil=>intro i h;simp at h
 |cons x r ih=>
  intro i h;have e:eW (x::r)=me (x.toNat/16)::me (x.toNat%16)::eW r:=rfl;cases i with
  |zero=>rw[e];exact⟨rfl,rfl⟩
  |succ i =>have:=ih (i:=i) (by simpa using h);rw[e];exact this
def aut{a b:V}{k:Nat}(bu:a.length=2*k)(Y:b.length=2*k)(h:∀i,i<k->ak a (2*i) (u8 0)=ak b (2*i) (u8 0)/\ak a (2*i+1) (u8 0)=ak b (2*i+1) (u8 0)):a=b:=by
 apply tg
 .omega
 intro j O R;have:=h (j/2) J;by_cases hp:j%2=0
 .have:=this.1
  rw[show 2*(j/2)=j by omega,nth_get O,nth_get R]at this;exact this
 have:=this.2;rw[show 2*(j/2)+1=j by omega,nth_get O,nth_get R]at this;exact this
def ac7:∀d:Nat,d<16->h2 (me d)->ku (me d)=d:=iL
def Y9:∀d:Nat,d<10->me d=UInt8.ofNat (48+d):=iL
def Mf:∀d:Nat,d<16->rm (me d)/\lg (me d)=d:=iL
def apD{p:V}(hf:fZ p)(aA:p.length%2=0):eW (f' p)=p:=by
 have hl:(f' p).length=p.length/2:=by simp[f']
 refine aut (k:=p.length/2) (by rw[nh,hl]) J λi hi => ?_;have gG:i<(f' p).length:=J;have ao:2*i<p.length:=J;have O:2*i+1<p.length:=J;obtain⟨e1,aN⟩:=Lr gG;obtain⟨cG,cQ⟩:=Ci (hf _ ao);obtain⟨eT,ei⟩:=Ci (hf _ O);have hg:(f' p)[i]=UInt8.ofNat (16*ku p[2*i]+ku p[2*i+1]):=by simp[f',iw,nth_get ao,nth_get O]
 have aj:(f' p)[i].toNat=16*ku p[2*i]+ku p[2*i+1]:=by rw[hg,uO];omega
 rw[e1,aN,aj,nth_get ao,nth_get O];rw[show(16*ku p[2*i]+ku p[2*i+1])/16=ku p[2*i] by omega,show(16*ku p[2*i]+ku p[2*i+1])%16=ku p[2*i+1] by omega];rw[Y9 _ cQ,Y9 _ ei];exact⟨cG.symm,eT.symm⟩
def ai4{u:V}(hf:fZ (eW u)):f' (eW u)=u:=by
 have hl:=nh u;apply tg
 .simp[f'];omega
 intro i O R;obtain⟨e1,aN⟩:=Lr R;have f0:=hf (2*i) J;have f1:=hf (2*i+1) J;rw[<- nth_get (d:=u8 0)]at f0 f1;rw[e1]at f0;rw[aN]at f1;have aL:=xI u[i];simp only[f',wy,yL,iw,e1,aN];rw[ac7 _ J f0,ac7 _ J f1];apply uL.1;rw[uO];omega
def R3(b:V):zE (eW b):=by have hl:=nh b;refine(R4 (k:=b.length) J).1 λi hi => ?_;obtain⟨e1,aN⟩:=Lr hi;have aL:=xI b[i];rw[e1,aN];exact⟨(Mf _ J).1,(Mf _ J).1⟩
def ahl(b:V):oi (eW b)=b:=by
 have hl:=nh b;apply tg
 .simp[oi];omega
 intro i O R;obtain⟨e1,aN⟩:=Lr R;have aL:=xI b[i];simp only[oi,wy,yL,e1,aN];rw[(Mf _ J).2,(Mf _ J).2];apply uL.1;rw[uO];omega
end Yp
namespace Yp
def bq{a b r:α}(h:c=true)(k:a=r):T c a b=r:=(ce h).trans k
def a1{a b r:α}(h:c=false)(k:b=r):T c a b=r:=(b1 h).trans k
def bn{a r:Option α}(h:c=true)(k:a=r):am c a=r:=(dR h).trans k
def bg{o:Option α}{a:α}{f:α->Option β}{r:Option β}(h:o=some a)(k:f a=r):ob o f=r:=(dL h).trans k
end Yp
namespace Yp
open Go
theorem azE{k:Nat}{y:σ}{kn:σ->Option β}{g5:Nat->σ->Option β}{hb:ρ->Option β}:ci (some (.ex k y)) kn g5 hb=g5 k y:=rfl
def afX{a b:α}:T c (some a) (some b)=some (T c a b):=by cases c<;>rfl
def awI{a:α}:T c a a=a:=by cases c<;>rfl
def asF{f:σ->Option (aE σ ρ)}(cH:Nat->σ)(n:Nat)(p:Nat->Prop)(r:Nat->aE σ ρ)(k:Nat)(ah:∀i,match r i with|.nx _=>False|_=>True)(ac:∀i,i<n->p i->f (cH i)=some (.nx (cH (i+1))))(Y:∀i,i<n->¬p i->f (cH i)=some (r i))(aA:f (cH n)=some (.ex k (cH n))):
  ((∀i,i<n->p i)/\bN f (cH 0)=some (.ex k (cH n)))\/∃i,i<n/\(∀j,j<i->p j)/\¬p i/\bN f (cH 0)=some (r i):=by
 by_cases h:∀i,i<n->p i
 .refine .inl ⟨h,?_⟩
  rw[md cH n (λi hi=>ac i hi (h i hi)) 0 (fK _)];exact d_ aA
 refine .inr ?_;have tQ:∃i,i<n/\¬p i:=k2 λai=>h λi hi=>k2 λhp=>ai ⟨i,hi,hp⟩;obtain⟨k,ap,hp⟩:=tQ;induction k using Nat.strongRecOn with
 |_ k ih=>
  by_cases hl:∃j,j<k/\¬p j
  .obtain⟨j,an,Sn⟩:=hl
   exact ih j an J Sn
  have hall:∀i,i<k->p i:=λi hi=>k2 λhp=>hl ⟨i,hi,hp⟩;refine⟨k,ap,hall,hp,?_⟩;rw[md cH k (λi hi=>ac i J (hall i hi)) 0 (fK _)];have:=Y k ap hp;have rh:=ah k;generalize r k=x at *
  cases x with
  |nx y=>exact rh.elim
  |ex j y=>exact d_ this
  |rt y=>exact pN this
def F3:List (List Int):=[[1,2,25],[1,3,22,49,70],[1,4,13,14,18],[1,6,3,11,12,15],[1,10,7],[1,12,4],[1,16,53],[1,42,90],[2,19,2],[2,11,32,100],[3,12,37],[3,6,38],[3,2,39],[3,8,41],[3,15,42],[3,42,95],[4,37,35],[4,28,102],[5,400,48],[5,120,54],[6,8,52,64,96,128],[7,255,55],[7,400,127]]
def fM(no:Int):Option (Int×Int):=(F3.find? λr=>(r.drop 2).contains no).map λr=>(ak r 0 0,ak r 1 0)
def iz(o:Option (Int×Int)):(Int×Int×Unit)×Bool×Unit:=match o with|some (k,l)=>((k,l,()),true,())|none=>((0,0,()),false,())
def Cu:List Int:=F3.flatMap λr=>r.drop 2
def kf(k no:Int):Int:=match zk (k,no,()) with|some (a,())=>a|none=>0
def am7(no:Int):∃a,FZ (no,())=some (a,()):=by
 unfold FZ;simp only[afX]
 grind
def am9(k no:Int):zk (k,no,())=some (kf k no,()):=by
 have:∃a,zk (k,no,())=some (a,()):=by
  unfold zk;obtain⟨a,bu⟩:=am7 no;simp only[bu,hj,afX]
  grind
 obtain⟨a,bu⟩:=this;unfold kf;rw[bu]
def DD(no:Int):Option (Int×Int):=if 0<kf 1 no then some (1,kf 1 no) else if 0<kf 2 no then some (2,kf 2 no) else if 0<kf 3 no then some (3,kf 3 no) else if 0<kf 4 no then some (4,kf 4 no)
 else if 0<kf 5 no then some (5,kf 5 no) else if 0<kf 6 no then some (6,kf 6 no) else if 0<kf 7 no then some (7,kf 7 no) else none
def am4(no:Int):u7 (no,())=some (iz (DD no)):=by
 unfold u7;generalize hf:(λ(ab:Bool×Int×Unit)=>_)=f;have step:∀k:Nat,k<=7->f (false,(k:Int),())=if 0<kf k no then some (.rt (((k:Int),kf k no,()),true,())) else some (.nx (false,((k+1:Nat):Int),())):=by
  intro k ap;subst hf;refine bq (hN (show(k:Int)<=7 by omega)) ?_;refine bg (am9 _ _) ?_;have c:i64 (av (k:Int) 1)=((k+1:Nat):Int):=lh (b:=1) J;simp only[c];by_cases h:0<kf k no
  .rw[if_pos h];exact ce (dj h)
  rw[if_neg h];exact b1 (c3 h)
 have last:f (false,((8:Nat):Int),())=some (.ex 0 (false,((8:Nat):Int),())):=by subst hf;exact b1 (oS (show ¬((8:Nat):Int)<=7 by omega))
 have key:∀k:Nat,k<=7->kf k no<=0->bN f (false,(k:Int),())=bN f (false,((k+1:Nat):Int),()):=λk ap h=>ez (by rw[step k ap,if_neg J]);have rd:∀k:Nat,k<=7->0<kf k no->bN f (false,(k:Int),())=some (.rt (((k:Int),kf k no,()),true,())):=λk ap h=>pN (by rw[step k ap,if_pos h]);have:=key 1;have:=key 2;have:=key 3;have:=key 4;have:=key 5;have:=key 6;have:=key 7;have:=rd 1;have:=rd 2;have:=rd 3;have:=rd 4;have:=rd 5;have:=rd 6;have:=rd 7;have cx:bN f (false,((8:Nat):Int),())=some (.ex 0 (false,((8:Nat):Int),())):=d_ last;show ci (bN f (false,((1:Nat):Int),())) _ _ _=_;unfold DD
 repeat' split
 all_goals
  simp_all
  first|done|rfl
def asB(h:∀c∈Cu,¬no=c):∀k,kf k no=0:=by have bL:∀c∈Cu,ag no c=false:=λc ai=>cr (h c ai);have e:Cu=[25,22,49,70,13,14,18,3,11,12,15,7,4,53,90,2,32,100,37,38,39,41,42,95,35,102,48,54,52,64,96,128,55,127]:=bP;rw[e]at bL;simp at bL;intro k;unfold kf zk FZ;simp only[bL,AY,hj,awI]
def auI(no:Int):DD no=fM no:=by
 by_cases h:no∈Cu
 .exact(by decide +kernel:∀no∈Cu,DD no=fM no) no h
 have bL:∀c∈Cu,¬no=c:=λc ai e=>h (e▸ai);have e1:DD no=none:=by simp[DD,asB bL]
 have aN:fM no=none:=by unfold fM;rw[Option.map_eq_none_iff,List.find?_eq_none];intro r ah ai;rw[List.contains_eq_mem,decide_eq_true_eq]at ai;exact h (E7.2 ⟨r,ah,ai⟩)
 rw[e1,aN]
def FX(no:Int):u7 (no,())=some (iz (fM no)):=by rw[am4,auI]
def kinds(k:Int):Prop:=k=1\/k=2\/k=3\/k=4\/k=5\/k=6\/k=7
instance (k:Int):Decidable (kinds k):=by unfold kinds;infer_instance
def tH(h:fM no=some (k,l)):kinds k/\1<=l/\l<=400/\(k=2\/k=4->l<=99):=by
 unfold fM at h;rw[k4]at h;have:∀r∈F3,kinds (ak r 0 0)/\1<=ak r 1 0/\ak r 1 0<=400/\(ak r 0 0=2\/ak r 0 0=4->ak r 1 0<=99):=iL
 grind
def oa(lo hi:Int)(v:V):Prop:=∀i (h:i<v.length),lo<=aI v[i]/\aI v[i]<=hi
instance (lo hi:Int) (v:V):Decidable (oa lo hi v):=inferInstanceAs (Decidable (∀(i:Nat) (h:i<v.length),lo<=aI v[i]/\aI v[i]<=hi))
def adY(lo hi:UInt8)(v:V)(hl:v.length<=1000000):∃i,bN (λ(ab:Bool×Int×Unit)=>
  T (aJ ab.2.1 (len v)) (am (aU ab.2.1 (len v)) (ob (T (aJ (aI (ak v (aa ab.2.1) (u8 0))) (aI lo)) (some (true,())) (some (aJ (aI hi) (aI (ak v (aa ab.2.1) (u8 0))),())))
   λ(a:Bool×Unit)=>T a.1 (some (aE.ex 999999999 (false,ab.2.1,()))) (some (aE.nx (ab.1,i64 (av ab.2.1 1),())))))
   (some (aE.ex 0 (ab.1,ab.2.1,()):aE (Bool×Int×Unit) Unit))) (false,0,())=some (if oa (aI lo) (aI hi) v then .ex 0 (false,i,()) else .ex 999999999 (false,i,())):=by
 generalize hf:(λ(ab:Bool×Int×Unit)=>_)=f;have key:=asF (f:=f) (λi=>(false,(i:Int),())) v.length (λi=>aI lo<=aI (ak v i (u8 0))/\aI (ak v i (u8 0))<=aI hi) (λi=>.ex 999999999 (false,(i:Int),())) 0 (λ_=>trivial) ?_ ?_ ?_
 .rcases key with⟨h,ah⟩|⟨i,hi,_,hp,ah⟩
  .refine⟨(v.length:Int),ah.trans ?_⟩
   rw[if_pos (show oa (aI lo) (aI hi) v from λi hi=>by have:=h i hi;rwa [nth_get hi]at this)]
  refine⟨(i:Int),ah.trans ?_⟩;rw[if_neg (λ(ai:oa (aI lo) (aI _) v)=>hp (by have:=ai i hi;rwa [<- nth_get (d:=u8 0) hi]at this))]
 .intro i hi hp
  subst hf;refine bq (Tf.trans (decide_eq_true hi)) ?_;refine bn (kS hi) ?_;have c:i64 (av (i:Int) 1)=((i+1:Nat):Int):=lh (b:=1) J;simp only[he,c];refine bg (a:=(false,())) (a1 (c3 J) (congrArg (λb=>some (b,())) (c3 J))) ?_;rfl
 .intro i hi hp
  subst hf;refine bq (Tf.trans (decide_eq_true hi)) ?_;refine bn (kS hi) ?_;simp only[he];by_cases h:aI (ak v i (u8 0))<aI lo
  .exact bg (ce (dj h)) rfl
  exact bg (a:=(true,())) (a1 (c3 h) (congrArg (λb=>some (b,())) (dj J))) rfl
 subst hf;exact b1 (c3 (by simp only[len];omega))
def w8(k:Int)(v:V):Prop:=(k<=2->fZ v)/\(k<=5->oa 32 126 v)
def kM(k l:Int)(n:Nat):Prop:=if k=1\/k=3\/k=6 then(n:Int)=l else 1<=n/\(n:Int)<=l
instance (k l:Int) (n:Nat):Decidable (kM k l n):=by unfold kM;infer_instance
def g2(k l:Int)(v:V):Prop:=w8 k v/\kM k l v.length
instance (k l:Int) (v:V):Decidable (g2 k l v):=inferInstanceAs (Decidable (((k<=2->fZ v)/\(k<=5->oa 32 126 v))/\kM k l v.length))
theorem To(c:UInt8):aI c=((c.toNat:Nat):Int):=rfl
def awc{v:V}:oa 48 57 v↔fZ v:=by unfold oa fZ h2;refine forall_congr' λi=>forall_congr' λh => ?_;rw[To];omega
def Cs{v:V}(h:fZ v):oa 32 126 v:=λi hi=>by have:=h i hi;unfold h2 at this;rw[To];omega
def dt(k:Int):Int:=if k=2\/k=4 then 2 else if k=5\/k=7 then 3 else 0
def Zw(ap:kinds k):iy (k,())=some (dt k,()):=by rcases ap with rfl|rfl|rfl|rfl|rfl|rfl|rfl<;>rfl
def anB{o:Option (Int×Int)}(h:o=some (k,l)):iz o=((k,l,()),true,()):=by rw[h];rfl
def qP{a b:Bool}(h:a=b):some (a,())=some (b,()):=by rw[h]
def gB(no:Int)(v:V):Bool:=match fM no with|some (k,l)=>decide (g2 k l v)|none=>false
def KW(no:Int)(v:V)(hl:v.length<=1000000):u6 (no,v,())=some (gB no v,()):=by
 unfold u6 gB;refine bg (FX no) ?_;cases aK:fM no with
 |none=>exact bg (a:=(true,())) (ce rfl) rfl
 |some p=>
  obtain⟨k,l⟩:=p;rw[anB rfl];obtain⟨ap,O,tL,xf⟩:=tH aK;by_cases cq:l<v.length
  .refine bg (a:=(true,())) (a1 rfl (qP (dj cq))) ?_
   refine bq rfl (qP ?_);refine(decide_eq_false λh => ?_).symm;have:=h.2;unfold kM at this
   grind
  refine bg (a:=(false,())) (a1 rfl (qP (c3 cq))) ?_;obtain⟨i,eG⟩:=adY (u8 48) (u8 57) v hl;obtain⟨j,gt⟩:=adY (u8 32) (u8 126) v hl;have e1:oa (aI (u8 48)) (aI (u8 57)) v↔fZ v:=awc;have aN:oa (aI (u8 32)) (aI (u8 126)) v↔oa 32 126 v:=pk;simp only[e1]at eG;simp only[aN]at gt;have BA:∀{c:Bool} {p:Prop} [Decidable p],(c=true↔p)->some (c,())=some (decide p,()):=fun{c p _} h=>qP (pc.2 (h.trans decide_eq_true_iff.symm));refine a1 rfl ?_;rcases ap with rfl|rfl|rfl|rfl|rfl|rfl|rfl
  .refine bq rfl ?_;refine bq rfl ?_
   refine(c' eG).trans ?_;by_cases hf:fZ v
   .rw[if_pos hf]
    refine(c' gt).trans ?_;rw[if_pos (Cs hf)];refine BA ?_;simp[ag,len,g2,kM,w8,hf,Cs hf]
   rw[if_neg hf];exact qP (decide_eq_false λh=>hf (h.1.1 J)).symm
  .refine a1 rfl ?_;refine bq rfl ?_
   refine(c' eG).trans ?_;by_cases hf:fZ v
   .rw[if_pos hf]
    refine(c' gt).trans ?_;rw[if_pos (Cs hf)];refine BA ?_;simp[aJ,len,g2,kM,w8,hf,Cs hf];omega
   rw[if_neg hf];exact qP (decide_eq_false λh=>hf (h.1.1 J)).symm
  .refine a1 rfl ?_;refine a1 rfl ?_;refine bq rfl ?_;refine bq rfl ?_
   refine(c' gt).trans ?_;by_cases hf:oa 32 126 v
   .rw[if_pos hf]
    refine BA ?_;simp[ag,len,g2,kM,w8,hf]
   rw[if_neg hf];exact qP (decide_eq_false λh=>hf (h.1.2 J)).symm
  .refine a1 rfl ?_;refine a1 rfl ?_;refine a1 rfl ?_;refine bq rfl ?_
   refine(c' gt).trans ?_;by_cases hf:oa 32 126 v
   .rw[if_pos hf]
    refine BA ?_;simp[aJ,len,g2,kM,w8,hf];omega
   rw[if_neg hf];exact qP (decide_eq_false λh=>hf (h.1.2 J)).symm
  .refine a1 rfl ?_;refine a1 rfl ?_;refine a1 rfl ?_;refine a1 rfl ?_;refine bq rfl ?_
   refine(c' gt).trans ?_;by_cases hf:oa 32 126 v
   .rw[if_pos hf]
    refine BA ?_;simp[aJ,len,g2,kM,w8,hf];omega
   rw[if_neg hf];exact qP (decide_eq_false λh=>hf (h.1.2 J)).symm
  .refine a1 rfl ?_;refine a1 rfl ?_;refine a1 rfl ?_;refine a1 rfl ?_;refine a1 rfl ?_
   refine BA ?_;simp[ag,len,g2,kM,w8]
  refine a1 rfl ?_;refine a1 rfl ?_;refine a1 rfl ?_;refine a1 rfl ?_;refine a1 rfl ?_;refine BA ?_;simp[aJ,len,g2,kM,w8];omega
def g4(k:Int)(n:Nat):V:=if 0<dt k then f' (er (aZ 10 dI n (dt k).toNat)) else[]
def body(k:Int)(v:V):V:=if k<=2 then f' (er v) else v
def kY(k:Int)(v:V):V:=g4 k v.length++body k v
def rQ(no:Int)(v:V):V×Int×Unit:=match fM no with|none=>([],12,())|some (k,l)=>if g2 k l v then(kY k v,0,()) else([],1,())
def ai5(p:V):(f' p).length=p.length/2:=by simp[f']
def r5(p:V):(f' (er p)).length=(p.length+1)/2:=by rw[ai5,HT];omega
def y7(k:Int)(v:V):(body k v).length=if k<=2 then(v.length+1)/2 else v.length:=by
 unfold body;split
 .exact r5 v
 rfl
def YD{v:V}(ap:kinds k)(xf:k=2\/k=4->l<=99)(tL:l<=400)(aC:g2 k l v)(ao:0<dt k):(1<=dt k/\dt k<=18)/\(0<=(v.length:Int)/\(v.length:Int)<10^(dt k).toNat)/\1<=v.length/\(v.length:Int)<=l:=by
 have:=aC.2;unfold kM at this;rcases ap with rfl|rfl|rfl|rfl|rfl|rfl|rfl
 .exact absurd ao bP
 .have R:(10:Int)^(dt 2).toNat=100:=bP
  rw[if_neg bP]at this;rw[R];exact⟨bP,J,J⟩
 .exact absurd ao bP
 .have R:(10:Int)^(dt 4).toNat=100:=bP
  rw[if_neg bP]at this;rw[R];exact⟨bP,J,J⟩
 .have R:(10:Int)^(dt 5).toNat=1000:=bP
  rw[if_neg bP]at this;rw[R];exact⟨bP,J,J⟩
 .exact absurd ao bP
 have R:(10:Int)^(dt 7).toNat=1000:=bP;rw[if_neg bP]at this;rw[R];exact⟨bP,J,J⟩
def YE(ap:kinds k):dt k=0\/dt k=2\/dt k=3:=by
 unfold dt;split
 .simp
 omega
def adp(ap:kinds k):(T (ag k 1) (some (true,())) (some (ag k 2,())):Option (Bool×Unit))=some (decide (k<=2),()):=by rcases ap with rfl|rfl|rfl|rfl|rfl|rfl|rfl<;>rfl
def am6(no:Int)(v:V)(hl:v.length<=1000000):FY (no,v,())=some (rQ no v):=by
 unfold FY rQ;refine bg (FX no) ?_;cases aK:fM no with
 |none=>rfl
 |some p=>
  obtain⟨k,l⟩:=p;obtain⟨ap,O,tL,xf⟩:=tH aK;refine bg (KW no v hl) ?_;have CP:gB no v=decide (g2 k l v):=by unfold gB;rw[aK]
  rw[CP];by_cases aC:g2 k l v
  rotate_left
  .rw[decide_eq_false aC]
   simp only[if_neg aC];rfl
  rw[decide_eq_true aC];simp only[if_pos aC];refine bg (Zw ap) ?_;have Y:=adp ap;have GB:k<=2->tC (v,())=some (body k v,0,()):=λh=>by rw[QH v hl,if_pos (aC.1.1 h)];unfold body;rw[if_pos h]
  have abW:=y7 k v;by_cases ao:0<dt k
  .obtain⟨c1,c2,hw⟩:=YD ap xf tL aC ao
   refine bq (dj ao) ?_;have aF:mD (len v,dt k,())=some (aZ 10 dI v.length (dt k).toNat,0,()):=by rw[FI _ _ (by simp only[len];omega),if_pos ⟨c1.1,c1.2,c2⟩];rfl
   refine bg aF ?_;have vh:tC (aZ 10 dI v.length (dt k).toNat,())=some (g4 k v.length,0,()):=by rw[QH _ (by rw[lm];omega),if_pos zl];unfold g4;rw[if_pos ao]
   refine bg vh ?_;refine bg Y ?_;have CQ:(g4 k v.length).length<=10:=by unfold g4;rw[if_pos ao,r5,lm];omega
   by_cases R:k<=2
   .refine bq (decide_eq_true R) ?_
    refine bg (GB R) ?_;rw[if_pos R]at abW;exact bn (n? (by simp only[bQ,aT];omega)) rfl
   refine a1 (decide_eq_false R) ?_;refine bn (n? (by simp only[bQ,aT];omega)) ?_;have:body k v=v:=by unfold body;rw[if_neg R]
   simp only[kY,this];rfl
  refine a1 (c3 ao) ?_;refine bg Y ?_;have hh:g4 k v.length=[]:=by unfold g4;rw[if_neg ao]
  by_cases R:k<=2
  .refine bq (decide_eq_true R) ?_
   refine bg (GB R) ?_;rw[if_pos R]at abW;refine bn (n? (by simp only[aT];omega)) ?_;simp only[kY,hh,nG]
  refine a1 (decide_eq_false R) ?_;refine bn (n? (by simp only[aT];omega)) ?_;have:body k v=v:=by unfold body;rw[if_neg R]
  simp only[kY,this,hh,nG]
theorem avH(a b:V):MV (a,b,())=some (seq a b,()):=rfl
def auo{u:V}{k N:Nat}(hl:u.length=2*k)(fO:(N+1)/2=k)(h:N%2=1->ak u 0 (u8 0)=48):er (u.drop (N%2))=u:=by
 by_cases aK:N%2=1
 .rw[aK]
  unfold er;rw[if_pos (by grind)];cases u with
  |nil=>simp at hl;omega
  |cons x r=>have:=h aK;simp only[ak,List.getD_cons_zero]at this;rw[this];rfl
 have:N%2=0:=J;rw[this,nD];exact aup J
def ZD{s:V}(h:fZ s):fZ (er s):=by
 unfold er;split
 .intro i hi
  cases i with
  |zero=>exact(by decide:h2 48)
  |succ i=>exact h i (by grind)
 exact h
def TY(s:V):(er s).drop (s.length%2)=s:=by
 unfold er;by_cases h:s.length%2=1
 .grind
 have:s.length%2=0:=J
 grind
def Ls{s:V}(hf:fZ s):eW (f' (er s))=er s:=apD (ZD hf) (by rw[HT];omega)
def ai6{s t:V}(ac:fZ s)(ht:fZ t)(hl:s.length=t.length)(h:f' (er s)=f' (er t)):s=t:=by have:=congrArg eW h;rw[Ls ac,Ls ht]at this;rw[<- TY s,<- TY t,this,hl]
def A_{b:V}{N:Nat}(eo:I<=b.length)(fO:N<=999):(b.length<I+(N+1)/2/\iX b I N=([],0,3,())) \/
  (I+(N+1)/2<=b.length/\iX b I N=([],0,2,())/\∀s,s.length=N->fZ s->ec b I ((N+1)/2)=f' (er s)->False) \/
  (∃s,I+(N+1)/2<=b.length/\iX b I N=(s,((I+(N+1)/2:Nat):Int),0,())/\fZ s/\s.length=N/\ec b I ((N+1)/2)=f' (er s)):=by
 unfold iX;simp only[iZ];rw[if_neg J];by_cases O:(b.length:Int)-I<((N:Int)+1)/2
 .grind
 rw[if_neg O];have bY:I+(N+1)/2<=b.length:=J;have abS:=yi bY;have C1:(eW (ec b I ((N+1)/2))).length=2*((N+1)/2):=by rw[nh,abS]
 refine .inr ?_;by_cases R:(N:Int)%2=1/\¬ak (eW (ec b I ((N+1)/2))) 0 (u8 0)=48
 .rw[if_pos R]
  refine .inl ⟨bY,rfl,λs ac hf h=>R.2 ?_⟩;rw[h,Ls hf];unfold er;rw[if_pos J];rfl
 rw[if_neg R];have hp:er ((eW (ec b I ((N+1)/2))).drop (N%2))=eW (ec b I ((N+1)/2)):=auo C1 rfl λaK=>k2 λai=>R ⟨J,ai⟩;by_cases af:fZ ((eW (ec b I ((N+1)/2))).drop (N%2))
 .rw[if_pos af]
  refine .inr ⟨_,bY,?_,af,by rw[fb,C1];omega,?_⟩
  .simp
  have Y:=ai4 (u:=ec b I ((N+1)/2)) (by rw[<- hp];exact ZD af);rw[hp,Y]
 rw[if_neg af];refine .inl ⟨bY,rfl,λs ac hf h=>af ?_⟩;rw[h,Ls hf,<- ac,TY];exact hf
def ag2{b x q:V}(h:b.drop I=x++q):ec b I x.length=x:=by unfold ec;rw[h,List.take_left'];rfl
def KB{b x:V}(h:ec b I n=x):b.drop I=x++b.drop (I+n):=by rw[<- h];unfold ec;rw[<- qY,EO]
def Y6{b x:V}(eo:I<=b.length)(h:b.drop I=x):b.length=I+x.length:=by have:=congrArg List.length h;rw[fb]at this;omega
def Vt{b s q:V}(eo:I<=b.length)(fO:s.length<=999)(hf:fZ s)(h:b.drop I=f' (er s)++q):iX b I s.length=(s,((I+(s.length+1)/2:Nat):Int),0,()):=by
 have hl:=Y6 eo h;have ht:=ag2 h;rw[cE,r5]at hl;rw[r5]at ht;rcases A_ eo fO with⟨O,_⟩|⟨_,_,R⟩|⟨t,_,af,aq,a8,cS⟩
 .omega
 .exact(R s rfl hf ht).elim
 rw[af,ai6 aq hf a8 (by rw[<- cS,ht])]
def xY(k l:Int)(b:V)(a n:Int):V×Int×Int×Unit:=
 if k<=2 then(if(iX b a n).2.2.1=0 then((iX b a n).1,(iX b a n).2.1,0,()) else([],0,(iX b a n).2.2.1,()))
 else if(b.length:Int)-a<n then([],0,3,()) else if g2 k l (ec b a.toNat n.toNat) then(ec b a.toNat n.toNat,a+n,0,()) else([],0,2,())
def xZ(k l:Int)(b:V)(a:Int):V×Int×Int×Unit:=
 if a<0\/(b.length:Int)<a then([],0,1,()) else if 0<dt k then
  (if(iX b a (dt k)).2.2.1=0 then(if(val (iX b a (dt k)).1:Int)<1\/l<val (iX b a (dt k)).1 then([],0,2,()) else xY k l b (iX b a (dt k)).2.1 (val (iX b a (dt k)).1))
  else([],0,(iX b a (dt k)).2.2.1,()))
 else xY k l b a l
def jn(no:Int)(b:V)(a:Int):V×Int×Int×Unit:=match fM no with|none=>([],0,12,())|some (k,l)=>xZ k l b a
def Zv{b:V}{N:Nat}(aK:fM no=some (k,l))(hl:b.length<=1000000)(bu:A<=b.length)(aj:1<=N/\N<=400):
  (ob (T (ag k 1) (some (true,())) (some (ag k 2,()))) λ(a':Bool×Unit)=>T a'.1 (ob (w1 (b,(A:Int),(N:Int),())) λ(t:V×Int×Int×Unit)=>T (a_ (ag t.2.2.1 0)) (some (aO UInt8,0,t.2.2.1,())) (am (cz 1 (aT t.1)) (some (t.1,t.2.1,0,()))))
   (T (aJ (i64 (bi (len b) (A:Int))) (N:Int)) (some (aO UInt8,0,3,())) (am (ca (A:Int) (i64 (av (A:Int) (N:Int))) (len b)) (am (cz 1 (bQ (aT (aO UInt8)) (aT (sub b (A:Int) (i64 (av (A:Int) (N:Int)))))))
    (ob (u6 (no,bv (aO UInt8) (sub b (A:Int) (i64 (av (A:Int) (N:Int)))),())) λ(a:Bool×Unit)=>T (a_ a.1) (some (aO UInt8,0,2,())) (some (bv (aO UInt8) (sub b (A:Int) (i64 (av (A:Int) (N:Int)))),i64 (av (A:Int) (N:Int)),0,()))))))
   : Option (V×Int×Int×Unit))=some (xY k l b A N):=by
 obtain⟨ap,O,tL,xf⟩:=tH aK;refine bg (adp ap) ?_;unfold xY;by_cases R:k<=2
 .refine bq (decide_eq_true R) ?_
  rw[if_pos R];refine bg (QJ b A N hl) ?_;rcases A_ bu (show N<=999 by omega) with⟨_,h⟩|⟨_,h,_⟩|⟨s,_,h,_,ac,_⟩
  .rw[h];rfl
  .rw[h];rfl
  rw[h];refine bn (n? (by simp only[aT];omega)) ?_;rfl
 refine a1 (decide_eq_false R) ?_;rw[if_neg R];have c0:i64 (bi (len b) (A:Int))=(b.length:Int)-A:=by simp only[bi,len];exact hM J J
 have hw:i64 (av (A:Int) (N:Int))=((A+N:Nat):Int):=lh J;simp only[c0,hw,U9,iZ];by_cases af:(b.length:Int)-A<N
 .rw[if_pos af];exact ce (dj af)
 rw[if_neg af];refine a1 (c3 af) ?_;have bY:A+N<=b.length:=J;refine bn (rl J J (by simp only[len];omega)) ?_;have tW:=yi bY;refine bn (n? (by simp only[bQ,aT,aO,gw];omega)) ?_;have RQ:bv (aO UInt8) (ec b A N)=ec b A N:=rfl;simp only[RQ];refine bg (KW no _ J) ?_;have CP:gB no (ec b A N)=decide (g2 k l (ec b A N)):=by unfold gB;rw[aK]
 rw[CP];by_cases aC:g2 k l (ec b A N)
 .rw[if_pos aC,decide_eq_true aC];exact b1 rfl
 rw[if_neg aC,decide_eq_false aC];exact ce rfl
def ado{s:V}(R:k<=2)(hf:fZ s)(aj:kM k l s.length):g2 k l s:=⟨⟨λ_=>hf,λ_=>Cs hf⟩,aj⟩
def azW{s:V}(hf:fZ s)(h:s.length<=3):val s<1000:=by have:=ayh hf;have R:10^s.length<=10^3:=BD J h;omega
def anm(ao:0<dt k)(O:1<=n)(R:(n:Int)<=l):kM k l n:=by
 unfold kM;rw[if_neg]
 .omega
 rintro(rfl|rfl|rfl)<;>exact absurd ao bP
def ZV(ap:kinds k)(ao:¬0<dt k):kM k l n↔(n:Int)=l:=by unfold kM;rcases ap with rfl|rfl|rfl|rfl|rfl|rfl|rfl<;>first|exact absurd bP ao|simp
def am5(no:Int)(b:V)(a:Int)(hl:b.length<=1000000):KX (no,b,a,())=some (jn no b a):=by
 unfold KX jn;refine bg (FX no) ?_;cases aK:fM no with
 |none=>rfl
 |some p=>
  obtain⟨k,l⟩:=p;obtain⟨ap,O,tL,xf⟩:=tH aK;show _=some (xZ k l b a);unfold xZ;by_cases R:a<0
  .refine bg (ce (dj R)) ?_
   simp only[if_pos (Or.inl R:a<0\/(b.length:Int)<a)];rfl
  by_cases af:(b.length:Int)<a
  .refine bg (a:=(true,())) (a1 (c3 R) (qP (dj af))) ?_
   simp only[if_pos (Or.inr af:a<0\/(b.length:Int)<a)];rfl
  refine bg (a:=(false,())) (a1 (c3 R) (qP (c3 af))) ?_;rw[if_neg J];obtain⟨A,rfl⟩:∃n:Nat,a=n:=⟨a.toNat,J⟩;refine bg (Zw ap) ?_;by_cases ao:0<dt k
  .rw[if_pos ao]
   refine bq (dj ao) ?_;refine bg (QJ b A (dt k) hl) ?_;have apm:=YE ap;obtain⟨C,cv⟩:∃n:Nat,dt k=n:=⟨(dt k).toNat,J⟩;rw[cv];rcases A_ (b:=b) (I:=A) (N:=C) J J with⟨_,h⟩|⟨_,h,_⟩|⟨s,aq,h,hf,ac,_⟩
   .rw[h];rfl
   .rw[h];rfl
   rw[h];refine bg (FJ s) ?_;rw[if_pos ⟨J,J,hf⟩];by_cases ss:(val s:Int)<1
   .refine bg (ce (dj ss)) ?_
    simp only[if_pos (Or.inl ss:(val s:Int)<1\/l<val s)];rfl
   by_cases GL:l<(val s:Int)
   .refine bg (a:=(true,())) (a1 (c3 ss) (qP (dj GL))) ?_
    simp only[if_pos (Or.inr GL:(val s:Int)<1\/l<val s)];rfl
   refine bg (a:=(false,())) (a1 (c3 ss) (qP (c3 GL))) ?_;rw[if_neg (show ¬((val s:Int)<1\/l<val s) by omega)];exact Zv aK hl aq ⟨J,J⟩
  rw[if_neg ao];refine a1 (c3 ao) ?_;obtain⟨L,rfl⟩:∃n:Nat,l=n:=⟨l.toNat,J⟩;exact Zv (b:=b) (A:=A) (N:=L) aK hl J ⟨J,J⟩
end Yp
namespace Yp
open Go
def oy:=@List.cons.inj
def D(p:Prop):Bool := @decide p (Classical.propDecidable p)
def oo{p:Prop}:D p=true↔p:=by unfold D;exact @decide_eq_true_iff p (Classical.propDecidable p)
def cD{p:Prop}(h:p):D p=true:=oo.2 h
def cC{p:Prop}(h:¬p):D p=false:=by
 cases e:D p
 .rfl
 exact absurd (oo.1 e) h
def om{b:Bool}{p:Prop}(h:b=true↔p):b=D p:=pc.2 (h.trans oo.symm)
@[congr] theorem bJ {α β:Type} {o di:Option α} {k:α->Option β} (h:o=di):ob o k=ob di k:=by rw[h]
@[congr] theorem azQ {α:Type} {c cK:Bool} {a b:α} (h:c=cK):T c a b=T cK a b:=by rw[h]
@[congr] theorem ayX {α:Type} {c cK:Bool} {a:Option α} (h:c=cK):am c a=am cK a:=by rw[h]
@[congr] theorem azD {σ ρ β:Type} {o di:Option (aE σ ρ)} {kn:σ->Option β} {g5:Nat->σ->Option β} {hb:ρ->Option β} (h:o=di):ci o kn g5 hb=ci di kn g5 hb:=by rw[h]
theorem g01{a:α}{k:α->Option β}:ob (some a) k=k a:=rfl
def g02{p:Prop}{a b:α}(h:p):T (D p) a b=a:=ce (cD h)
def g03{p:Prop}{a b:α}(h:¬p):T (D p) a b=b:=b1 (cC h)
def g04{p:Prop}{a:Option α}(h:p):am (D p) a=a:=dR (cD h)
theorem g05{a b:α}:T true a b=a:=rfl
theorem g06{a b:α}:T false a b=b:=rfl
theorem g07{a:Option α}:am true a=a:=rfl
def g08:aJ a b=D (a<b):=om decide_eq_true_iff
def g09:bE a b=D (a<=b):=om decide_eq_true_iff
def g10:ag a b=D (a=b):=by unfold ag;exact om beq_iff_eq
def g11{a b:V}:seq a b=D (a=b):=by unfold seq;exact om beq_iff_eq
def g12{p:Prop}:a_ (D p)=D (¬p):=by
 by_cases h:p
 .rw[cD h,cC (not_not_intro h)];rfl
 rw[cC h,cD h];rfl
def g13{p q:Prop}:cY (D p) (D q)=D (p/\q):=om (by simp[cY,oo])
def g14{p q:Prop}:l2 (D p) (D q)=D (p\/q):=om (by simp[l2,oo])
def g15{q:Bool}:T c (some (true,())) (some (q,()))=some (l2 c q,()):=by cases c<;>rfl
def g16{q:Bool}:T c (some (q,())) (some (false,()))=some (cY c q,()):=by cases c<;>rfl
def g17{d:Bool}{x:Option (Bool×Unit)}:T c (T d x (some (false,()))) (some (false,()))=T (cY c d) x (some (false,())):=by cases c<;>rfl
def g18{d:Bool}{x:Option (Bool×Unit)}:T c (some (true,())) (T d (some (true,())) x)=T (l2 c d) (some (true,())) x:=by cases c<;>rfl
def g19{c:Int}:ca a b c=D (0<=a/\a<=b/\b<=c):=om (by simp[ca,and_assoc])
def g20:aU a b=D (0<=a/\a<b):=om (by simp[aU])
def g21{c:Nat}:cz c n=D (n*c<=140737488355328):=om decide_eq_true_iff
theorem g22{l:List α}:len l=(l.length:Int):=rfl
theorem g23{l:List α}:aT l=l.length:=rfl
theorem g24{a b:Nat}:bQ a b=a+b:=rfl
theorem g25{a b:List α}:bv a b=a++b:=rfl
theorem g26:aO α=[]:=rfl
def g27{n:Int}(h : -9223372036854775808<=n/\n<=9223372036854775807):i64 n=n:=hM h.1 h.2
theorem g28:av a b=a+b:=rfl
theorem g29:bi a b=a-b:=rfl
theorem g30:e? a b=a*b:=rfl
def g31(h:0<=a):fg a b=a/b:=by simp only[fg];exact Int.tdiv_eq_ediv_of_nonneg h
def g32(h:0<=a):dh a b=a%b:=by simp only[dh];exact Int.tmod_eq_emod_of_nonneg h
theorem g33:aa a=a.toNat:=rfl
theorem g34{a:Nat}:bf a=(a:Int):=rfl
theorem g35{a b:Nat}:cd a b=a-b:=rfl
theorem g36:cY true c=c:=rfl
def g37:cY c true=c:=by cases c<;>rfl
theorem g38:l2 false c=c:=rfl
def g39:l2 c false=c:=by cases c<;>rfl
def g40:a_ (a_ c)=c:=by cases c<;>rfl
theorem g41:a_ true=false:=rfl
theorem g42:a_ false=true:=rfl
def g43{a b:Bool}:y5 a b=D (a=b):=om (by unfold y5;exact beq_iff_eq)
theorem g44:cY false c=false:=rfl
def g45:cY c false=false:=by cases c<;>rfl
theorem g46:l2 true c=true:=rfl
def g47:l2 c true=true:=by cases c<;>rfl
theorem g48{k:α->Option β}:ob none k=none:=rfl
def g49{p q:Prop}:(D p=D q)=(p↔q):=by refine propext ⟨λh=>oo.symm.trans ((pc.1 h).trans oo),λh=>pc.2 (oo.trans (h.trans oo.symm))⟩
def g50{a:α}:T c a a=a:=by cases c<;>rfl
def g51{p:Prop}[Decidable p]:decide p=D p:=om decide_eq_true_iff
def g52:D True=true:=cD trivial
def g53:D False=false:=cC not_false
def g54{p:Prop}:(D p=true)=p:=propext oo
def g55{p:Prop}:(D p=false)=¬p:=by refine propext ⟨λh hp => ?_,cC⟩;rw[cD hp]at h;cases h
def g56{p:Prop}:(true=D p)=p:=propext ⟨λh=>oo.1 h.symm,λh=>(oo.2 h).symm⟩
def g57:fE a b=min a b:=by unfold fE;split<;>omega
def g58:cT a b=max a b:=by unfold cT;split<;>omega
theorem K8{a:UInt8}:aI a=(a.toNat:Int):=rfl
theorem g60{a:UInt16}:HB a=(a.toNat:Int):=rfl
def g61(h:0<=a/\a<256):aI (u8 a)=a:=by obtain⟨n,rfl⟩:∃n:Nat,a=n:=⟨a.toNat,J⟩;exact atd J
theorem lc_nx{y:σ}{kn:σ->Option β}{g5:Nat->σ->Option β}{hb:ρ->Option β}:ci (some (.nx y)) kn g5 hb=kn y:=rfl
def D?{p:Prop}(h:p):some (D p,())=some (true,()):=by rw[cD h]
def UY{p:Prop}(h:¬p):some (D p,())=some (false,()):=by rw[cC h]
def pY{p q:Prop}(h:p↔q):some (D p,())=some (D q,()):=by rw[show p=q from propext h]
theorem lc_rt'{r:ρ}{kn:σ->Option β}{g5:Nat->σ->Option β}{hb:ρ->Option β}:ci (some (.rt r)) kn g5 hb=hb r:=rfl
theorem lc_ex'{y:σ}{k:Nat}{kn:σ->Option β}{g5:Nat->σ->Option β}{hb:ρ->Option β}:ci (some (.ex k y)) kn g5 hb=g5 k y:=rfl
def g62{k:Nat}:bZ k k=true:=by simp[bZ]
def g63:aa (n:Int)=n:=he
theorem g64:((1:Nat):Int)=1:=rfl
theorem g65:((0:Nat):Int)=0:=rfl
def g66{p:Prop}:(false=D p)=¬p:=propext ⟨λh=>g55.mp h.symm,λh=>(cC h).symm⟩
def n5{β σ ρ:Type}(mk:β->Nat->σ)(i:Nat):aE β ρ->aE σ ρ
 |.nx b=>.nx (mk b (i+1))|.ex k b=>.ex k (mk b i)|.rt r=>.rt r
def ji{α β σ ρ:Type}(mk:β->Nat->σ)(e:Nat)(step:β->α->aE β ρ):β->Nat->List α->aE σ ρ
 |b,i,[]=>.ex e (mk b i)
 |b,i,x::r=>match step b x with
  |.nx b'=>ji mk e step b' (i+1) r
  |.ex k b'=>.ex k (mk b' i)
  |.rt q=>.rt q
def vI{f:σ->Option (aE σ ρ)}(l:List α)(mk:β->Nat->σ)(e:Nat)(step:β->α->aE β ρ)(I:β->Nat->Prop)
  (ac:∀b i (h:i<l.length),I b i->f (mk b i)=some (n5 mk i (step b l[i]))/\∀b',step b l[i]=.nx b'->I b' (i+1))
  (aA:∀b,I b l.length->f (mk b l.length)=some (.ex e (mk b l.length))) (eh:β) (ao:I eh 0):bN f (mk eh 0)=some (ji mk e step eh 0 l):=by
 have key:∀(r:List α) (i:Nat) (b:β),l.drop i=r->i<=l.length->I b i->bN f (mk b i)=some (ji mk e step b i r):=by
  intro r;induction r with
  |nil =>intro i b ah hi eo;have hl:=congrArg List.length ah;rw[fb,gw]at hl;have:i=l.length:=J;subst this;exact d_ (aA b eo)
  |cons x r ih=>
   intro i b ah hi eo;have hl:=congrArg List.length ah;rw[fb,ew]at hl;have bm:i<l.length:=J;have hx:l[i]=x/\l.drop (i+1)=r:=by rw[m2 bm]at ah;exact⟨(oy ah).1,(oy ah).2⟩
   obtain⟨O,R⟩:=ac b i bm eo;rw[hx.1]at O R;unfold ji;cases eL:step b x with
   |nx b'=>rw[eL]at O;rw[ez O];exact ih (i+1) b' hx.2 bm (R b' eL)
   |ex k b'=>rw[eL]at O;exact d_ O
   |rt q=>rw[eL]at O;exact pN O
 exact key l 0 eh rfl (fK _) ao
attribute [go_sem ↓] g02 g03 g04 g05 g06
attribute [go_sem] g01 g02 g03 g04 g05 g06 g07 g08 g09 g10 g11 g12 g13 g14 g15 g16 g17 g18 g19 g20 g21 g22 g23 g24 g25 g26 g27 g28 g29 g30 g31 g32 g34 g35 g36 g37 g38 g39 g40 g41 g42 g43 g44 g45 g46 g47 g48 g49 g50 g51 g52 g53 g54 g55 g56 g57 g58 g60 g61 not_true_eq_false not_false_eq_true List.nil_append List.append_nil List.length_nil and_true true_and or_true true_or or_false false_or and_false false_and if_true if_false lc_rt' lc_ex' lc_nx g62 g63 Int.toNat_natCast Int.natCast_add nth_get g33 g64 g65 Int.toNat_zero Bool.false_eq_true g66
end Yp
namespace Yp
open Go
def Cj{b x q:V}(dn:A<=b.length)(h:b.drop A=x++q):A+x.length<=b.length/\b.drop (A+x.length)=q:=by have:=Y6 dn h;rw[cE]at this;refine⟨J,?_⟩;rw[<- qY,h,EZ]
def aeD{b v q:V}(dn:A<=b.length)(aC:g2 k l v)(tL:v.length<=400)(h:b.drop A=body k v++q):xY k l b A v.length=(v,((A+(body k v).length:Nat):Int),0,()):=by
 have hl:=(Cj dn h).1;unfold xY;by_cases R:k<=2
 .have Y:body k v=f' (er v):=by unfold body;rw[if_pos R]
  rw[Y]at h ⊢;rw[if_pos R,Vt dn J (aC.1.1 R) h,r5];rfl
 have Y:body k v=v:=by unfold body;rw[if_neg R]
 have ht:=ag2 h
 grind
def aeE{b v:V}{N:Nat}{I:Int}(dn:A<=b.length)(fO:N<=400)(h:xY k l b A N=(v,I,0,())):
  v.length=N/\(k<=2->fZ v)/\(¬k<=2->g2 k l v)/\I=((A+(body k v).length:Nat):Int)/\A+(body k v).length<=b.length/\ec b A (body k v).length=body k v:=by
 unfold xY at h;by_cases R:k<=2
 .rw[if_pos R]at h
  rcases A_ dn (show N<=999 by omega) with⟨_,e⟩|⟨_,e,_⟩|⟨s,af,e,hf,ac,ht⟩
  .grind
  .grind
  rw[e]at h;have Y:body k s=f' (er s):=by unfold body;rw[if_pos R]
  have dD:(f' (er s)).length=(N+1)/2:=by rw[r5,ac]
  grind
 rw[if_neg R]at h;by_cases af:(b.length:Int)-A<N
 .grind
 simp at h;by_cases aq:g2 k l (ec b A N)
 .rw[if_pos aq]at h
  have hl:=yi (show A+N<=b.length by omega);have Y:body k (ec b A N)=ec b A N:=by unfold body;rw[if_neg R]
  grind
 grind
def aa8(ao:0<dt k):g4 k n=f' (er (aZ 10 dI n (dt k).toNat)):=by unfold g4;rw[if_pos ao]
def aa7(ao:¬0<dt k):g4 k n=[]:=by unfold g4;rw[if_neg ao]
def apt:(g4 k n).length=if 0<dt k then((dt k).toNat+1)/2 else 0:=by
 unfold g4;split
 .rw[r5,lm]
 rfl
def V6{v:V}(ap:kinds k):(kY k v).length=(if k=2\/k=4 then 1 else if k=5\/k=7 then 2 else 0)+(if k<=2 then(v.length+1)/2 else v.length):=by unfold kY;rw[cE,y7,apt];rcases ap with rfl|rfl|rfl|rfl|rfl|rfl|rfl<;>rfl
def Ri{v:V}(aK:fM no=some (k,l))(aC:g2 k l v):1<=v.length/\(v.length:Int)<=l/\v.length<=400:=by
 obtain⟨ap,O,tL,_⟩:=tH aK;have:=aC.2;unfold kM at this
 grind
def avp{b v q:V}(aK:fM no=some (k,l))(dn:A<=b.length)(aC:g2 k l v)(h:b.drop A=kY k v++q):xZ k l b A=(v,((A+(kY k v).length:Nat):Int),0,()):=by
 obtain⟨ap,O,tL,xf⟩:=tH aK;obtain⟨xq,CY,abU⟩:=Ri aK aC;unfold xZ;unfold kY at h ⊢;by_cases ao:0<dt k
 .rw[if_pos ao]
  obtain⟨c1,c2,hw⟩:=YD ap xf tL aC ao;rw[aa8 ao]at h ⊢;rw[gv]at h;have hp:=Vt (s:=aZ 10 dI v.length (dt k).toNat) dn (by rw[lm];omega) zl h;rw[lm,Int.toNat_of_nonneg J]at hp;rw[hp];have lg:val (aZ 10 dI v.length (dt k).toNat)=v.length:=by
   rw[N2,lY]
   grind
  simp only[if_pos];rw[lg,if_neg J];have aF:=Cj dn h;rw[r5,lm]at aF;rw[aeD aF.1 aC abU aF.2,cE,r5,lm]
  grind
 rw[if_neg ao];have hl:=(ZV ap ao).1 aC.2;rw[aa7 ao]at h ⊢;have:=aeD dn aC abU h
 grind
def avq{b v:V}{I:Int}(aK:fM no=some (k,l))(dn:A<=b.length)(h:xZ k l b A=(v,I,0,())):
  g2 k l v/\I=((A+(kY k v).length:Nat):Int)/\A+(kY k v).length<=b.length/\b.drop A=kY k v++b.drop (A+(kY k v).length):=by
 obtain⟨ap,O,tL,xf⟩:=tH aK;unfold xZ at h;rw[if_neg J]at h;by_cases ao:0<dt k
 .rw[if_pos ao]at h
  have apm:=YE ap;obtain⟨C,cv⟩:∃n:Nat,dt k=n:=⟨(dt k).toNat,J⟩;rw[cv]at h;rcases A_ dn (show C<=999 by omega) with⟨_,e⟩|⟨_,e,_⟩|⟨s,af,e,hf,ac,ht⟩
  .grind
  .grind
  rw[e]at h;simp at h;by_cases hm:(val s:Int)<1\/l<val s
  .grind
  rw[if_neg hm]at h;obtain⟨e1,aN,dJ,gQ,oI,KE⟩:=aeE af J h;have oM:g2 k l v:=by
   by_cases R:k<=2
   .exact ado R (aN R) (anm ao J J)
   grind
  have hh:g4 k v.length=f' (er s):=by rw[aa8 ao,e1,cv,iZ,<- ac,aen hf]
  have CQ:(g4 k v.length).length=(C+1)/2:=by rw[hh,r5,ac]
  refine⟨oM,?_,?_,?_⟩
  .rw[gQ];unfold kY;rw[cE,CQ];omega
  .unfold kY;rw[cE,CQ];omega
  unfold kY;rw[cE,CQ,<- ju,gv,<- KB KE,hh];exact KB ht
 rw[if_neg ao]at h;obtain⟨L,hL⟩:∃n:Nat,l=n:=⟨l.toNat,J⟩;rw[hL]at h;obtain⟨e1,aN,dJ,gQ,oI,KE⟩:=aeE dn J h;rw[<- hL]at dJ;have oM:g2 k l v:=by
  by_cases R:k<=2
  .exact ado R (aN R) ((ZV ap ao).2 J)
  exact dJ R
 refine⟨oM,?_,?_,?_⟩<;>unfold kY<;>rw[aa7 ao]
 .exact gQ
 .exact oI
 exact KB KE
def ayC{v:V}(ap:kinds k)(h:v.length<=400):(kY k v).length<=402:=by
 rw[V6 ap];repeat' split
 all_goals omega
def ayD{v:V}(ap:kinds k)(h:1<=v.length):1<=(kY k v).length:=by
 rw[V6 ap];repeat' split
 all_goals omega
def JI:=@Bool.false_and
abbrev b0:=Int×V×Unit
abbrev M:=Int×List b0×Unit
def ig(m:Int):Prop:=100<=m/\m<=899/\m/10%10<=4/\m%10<=5
instance (m:Int):Decidable (ig m):=inferInstanceAs (Decidable (_/\_))
def G?(m:Int)(n:Nat)(aj:n<=3)(ao:0<=m)(h:m<=9223372036854775807):tZ (m,(n:Int),())=some (m/10^n%10,()):=by
 unfold tZ;generalize hf:(λ(ab:Int×Int×Unit)=>_)=f;have step:∀(k:Int) (i:Nat),i<n->0<=k->k<=9223372036854775807->f (k,(i:Int),())=some (.nx (k/10,((i+1:Nat):Int),())):=λk i hi ao O=>by subst hf;simp(disch:=omega) only[go_sem]
 have last:∀(k:Int),f (k,(n:Int),())=some (.ex 0 (k,(n:Int),())):=λk=>by subst hf;simp(disch:=omega) only[go_sem]
 have aj:n=0\/n=1\/n=2\/n=3:=J;have e:bN f (m,((0:Nat):Int),())=some (.ex 0 (m/10^n,(n:Int),())):=by
  rcases aj with rfl|rfl|rfl|rfl
  .rw[d_ (last m)];simp
  .rw[ez (step m 0 J ao h),d_ (last _)];simp
  .rw[ez (step m 0 J ao h),ez (step _ 1 J J J),d_ (last _)];simp;omega
  rw[ez (step m 0 J ao h),ez (step _ 1 J J J),ez (step _ 2 J J J),d_ (last _)];simp;omega
 refine(c' e).trans ?_;have:0<=m/10^n:=by rcases aj with rfl|rfl|rfl|rfl<;>simp<;>omega
 simp(disch:=omega) only[go_sem]
def z6(m:Int):z2 (m,())=some (D (ig m),()):=by
 unfold z2;by_cases h:m<0\/999<m
 .have aj:¬ig m:=by unfold ig;omega
  simp(disch:=omega) only[go_sem,aj]
 have ao:=G? m 0 J J J;have O:=G? m 1 J J J;have R:=G? m 2 J J J;simp at ao O R;simp(disch:=omega) only[go_sem,ao,O,R];exact pY (by unfold ig;omega)
def fF:Int->List b0->Bool
 |_,[]=>true
 |last,v::r=>decide (last<v.1)&&(gB v.1 v.2.1&&fF v.1 r)
def jI(m:M):Bool:=fF 0 m.2.1&&decide (ig m.1)
def w9(m:M):Prop:=m.2.1.length<=1000/\∀v∈m.2.1,v.2.1.length<=1000000
def w9.ak{m:M}(h:w9 m)(hi:i<m.2.1.length):(m.2.1[i]).2.1.length<=1000000:=h.2 _ (mu hi)
def x8(last:Int)(v:b0):aE Int (Bool×Unit):=if last<v.1/\gB v.1 v.2.1=true then .nx v.1 else .rt (false,())
def ZZ{σ:Type}{mk:Int->Nat->σ}{e:Nat}:∀(l:List b0) (last:Int) (i:Nat),(fF last l=true/\∃y,ji mk e x8 last i l=.ex e y)\/(fF last l=false/\ji mk e x8 last i l=.rt (false,()))
 |[],last,i=>.inl ⟨rfl,_,rfl⟩
 |v::r,last,i=>by
  by_cases h:last<v.1/\gB v.1 v.2.1=true
  .have ac:x8 last v=.nx v.1:=if_pos h
   have:=ZZ (mk:=mk) (e:=e) r v.1 (i+1);simp only[ji,ac,fF,h.1,h.2];exact this
  have ac:x8 last v=.rt (false,()):=if_neg h;refine .inr ⟨?_,by simp only[ji,ac]⟩;simp only[fF,Bool.and_eq_false_iff,decide_eq_false_iff_not]
  grind
def ar0(m:M)(hm:w9 m):LS (m,())=some (jI m,()):=by
 unfold LS;generalize hf:(λ(ab:Bool×Int×Int×Unit)=>_)=f;have hl:=hm.1;have key:=vI (f:=f) m.2.1 (λlast i=>(false,last,(i:Int),())) 0 x8 (λ_ _=>True) (λb i h _=>⟨?_,λ_ _=>trivial⟩) (λb _ => ?_) 0 trivial
 .refine(c' key).trans ?_
  unfold jI;rcases ZZ (mk:=λlast i=>((false,last,(i:Int),()):Bool×Int×Int×Unit)) (e:=0) m.2.1 0 0 with⟨O,y,R⟩|⟨O,R⟩
  .rw[O,R];simp only[go_sem,z6,OL]
  rw[O,R];simp only[go_sem,JI]
 .subst hf
  have:=hm.ak h;have CP:=KW (m.2.1[i]).1 (m.2.1[i]).2.1 this;by_cases O:m.2.1[i].1<=b
  .have ac:x8 b m.2.1[i]=.rt (false,()):=if_neg λai=>J
   simp(disch:=omega) only[go_sem,ac,n5]
  cases R:gB (m.2.1[i]).1 (m.2.1[i]).2.1
  .have ac:x8 b m.2.1[i]=.rt (false,()):=if_neg λai=>by rw[R]at ai;exact absurd ai.2 bh
   simp(disch:=omega) only[go_sem,CP,R,ac,n5]
  have ac:x8 b m.2.1[i]=.nx m.2.1[i].1:=if_pos ⟨J,R⟩;simp(disch:=omega) only[go_sem,CP,R,ac,n5]
 subst hf;simp(disch:=omega) only[go_sem]
def arY(m:Int):G_ (m,())=some (if ig m then m/100 else 0,()):=by
 unfold G_;by_cases h:ig m
 .have Y:=h
  unfold ig at Y;have R:=G? m 2 J J J;simp at R;simp only[go_sem,z6,h,R]
  grind
 simp only[go_sem,z6,h]
def sT(m:Int):Int×Bool×Unit:=if ig m/\(m/10%10=0\/m/10%10=2) then(m+10,true,()) else(0,false,())
def ar2(m:Int):∃y,tZ (m,1,())=some (y,()):=by
 unfold tZ;generalize hf:(λ(ab:Int×Int×Unit)=>_)=f;have step:∀(k:Int),f (k,(0:Int),())=some (.nx (i64 (fg k 10),(1:Int),())):=λk=>by subst hf;simp(disch:=omega) only[go_sem];rfl
 have last:∀(k:Int),f (k,(1:Int),())=some (.ex 0 (k,(1:Int),())):=λk=>by subst hf;simp(disch:=omega) only[go_sem]
 refine⟨dh (i64 (fg m 10)) 10,(c' ((ez (step m)).trans (d_ (last _)))).trans ?_⟩;rfl
def arZ(m:Int):LR (m,())=some (sT m):=by
 unfold LR;by_cases h:ig m
 .have Y:=h
  unfold ig at Y;have O:=G? m 1 J J J;simp at O;unfold sT;by_cases R:m/10%10=0\/m/10%10=2
  .simp(disch:=omega) only[go_sem,z6,h,O,R]
  simp(disch:=omega) only[go_sem,z6,h,O,R]
 obtain⟨y,O⟩:=ar2 m;unfold sT;simp only[go_sem,z6,h,O]
def PG(a b:V):B7 (a,b,())=some (D (a=b),()):=by unfold B7;simp only[go_sem]
def ack(a b:b0):LT (a,b,())=some (D (a=b),()):=by unfold LT;simp only[go_sem,PG];obtain⟨cG,cQ,⟨⟩⟩:=a;obtain⟨eT,ei,⟨⟩⟩:=b;simp
def AX(b:Unit)(p:b0×b0):aE Unit (Bool×Unit):=if p.1=p.2 then .nx () else .rt (false,())
def Z1{σ:Type}{mk:Unit->Nat->σ}{e:Nat}:∀(l:List (b0×b0)) (i:Nat),((∀p∈l,p.1=p.2)/\∃y,ji mk e AX () i l=.ex e y)\/((¬∀p∈l,p.1=p.2)/\ji mk e AX () i l=.rt (false,()))
 |[],i=>.inl ⟨bh,_,rfl⟩
 |p::r,i=>by
  by_cases h:p.1=p.2
  .have ac:AX () p=.nx ():=if_pos h
   have:=Z1 (mk:=mk) (e:=e) r (i+1);simp only[ji,ac,gE,forall_eq_or_imp,h,true_and];exact this
  have ac:AX () p=.rt (false,()):=if_neg h;refine .inr ⟨λai=>h (ai p bh),by simp only[ji,ac]⟩
def Wg{α:Type}:∀{a b:List α},a.length=b.length->((∀p∈a.zip b,p.1=p.2)↔a=b)
 |[],[],_=>bh
 |x::a,y::b,h=>by have:=Wg (a:=a) (b:=b) (by grind);simp only[List.zip_cons_cons,gE,forall_eq_or_imp,yQ];rw[this]
def ahU(a b:List b0)(hl:a.length<=1000000):NF (a,b,1,())=some (D (a=b),()):=by
 unfold NF;by_cases h:a.length=b.length
 .generalize hf:(λ(ab:Bool×Int×Unit)=>_)=f
  have bj:(a.zip b).length=a.length:=by simp[h]
  have key:=vI (f:=f) (a.zip b) (λ(_:Unit) i=>(false,(i:Int),())) 0 AX (λ_ _=>True) (λ_ i hi _=>⟨?_,λ_ _=>trivial⟩) (λ_ _ => ?_) () trivial
  .refine a1 ?_ ((c' key).trans ?_)
   .simp only[go_sem,h]
   rcases Z1 (mk:=λ_ i=>((false,(i:Int),()):Bool×Int×Unit)) (e:=0) (a.zip b) 0 with⟨O,y,R⟩|⟨O,R⟩
   .rw[Wg h]at O;rw[R];simp only[go_sem,O]
   rw[Wg h]at O;rw[R];simp only[go_sem,O]
  .subst hf
   simp;by_cases hx:a[i]=b[i]
   .have ac:AX () (b[i],b[i])=.nx ():=if_pos rfl
    simp(disch:=omega) only[go_sem,ack,ac,n5,hx]
   have ac:AX () (a[i],b[i])=.rt (false,()):=if_neg hx;simp(disch:=omega) only[go_sem,ack,ac,n5,hx]
  subst hf;simp(disch:=omega) only[go_sem,bj]
 have aj:¬a=b:=λe=>h (by rw[e]);simp(disch:=omega) only[go_sem,aj]
def aig{a b:M}:a=b↔a.1=b.1/\a.2.1=b.2.1:=by grind
def ar1(a b:M)(hl:a.2.1.length<=1000000):G' (a,b,())=some (D (a=b),()):=by unfold G';simp(disch:=omega) only[go_sem,ahU];exact pY aig.symm
abbrev N:=Bool×Int×Int×Int×Int×V×V×Int×Unit
def pL(c:Int):Prop:=c=1\/c=2\/c=101\/c=201\/c=301
instance (c:Int):Decidable (pL c):=by unfold pL;infer_instance
def Hg(n:N):Prop:=
 if n.1=true/\n.2.1=101 then 1<=n.2.2.2.2.1/\n.2.2.2.2.1<=2147483647/\n.2.2.2.2.2.1.length=8/\n.2.2.2.2.2.2.1.length=3/\n.2.2.2.2.2.2.2.1=0
 else n.2.2.2.2.1=0/\n.2.2.2.2.2.1=[]/\n.2.2.2.2.2.2.1=[]/\(if n.1=true/\n.2.1=201 then 0<=n.2.2.2.2.2.2.2.1/\n.2.2.2.2.2.2.2.1<=999999 else n.2.2.2.2.2.2.2.1=0)
instance (n:N):Decidable (Hg n):=by unfold Hg;infer_instance
def i'(n:N):Prop:=pL n.2.1/\1<=n.2.2.1/\n.2.2.1<=999999/\0<=n.2.2.2.1/\n.2.2.2.1<=99/\(n.1=true->n.2.2.2.1=0)/\Hg n
instance (n:N):Decidable (i' n):=by unfold i';infer_instance
def UX{p q:Prop}(h:p↔q):(some (D p,()):Option (Bool×Unit))=some (D q,()):=by rw[show p=q from propext h]
def agr{q:Prop}(h:¬q):(some (false,()):Option (Bool×Unit))=some (D q,()):=by rw[cC h]
def azF{l:List α}:((l.length:Int)=0)↔l=[]:=by rw[<- k3];omega
def ur{jY:Bool}{c cH rs g:Int}{no k:V}{d:Int}:i' (jY,c,cH,rs,g,no,k,d,())↔(pL c/\1<=cH/\cH<=999999/\0<=rs/\rs<=99/\(jY=true->rs=0) /\
  (if jY=true/\c=101 then 1<=g/\g<=2147483647/\no.length=8/\k.length=3/\d=0 else g=0/\(no.length:Int)=0/\(k.length:Int)=0/\(if jY=true/\c=201 then 0<=d/\d<=999999 else d=0))):=by
 unfold i' Hg;simp
def awH{p:Prop}{x y z:α}(O:p->x=z)(R:¬p->y=z):T (D p) x y=z:=by
 by_cases h:p
 .rw[cD h];exact O h
 rw[cC h];exact R h
def Tw(n:N):HG (n,())=some (D (i' n),()):=by
 obtain⟨jY,c,cH,rs,g,no,k,d,⟨⟩⟩:=n;unfold HG Tz Ty Tx Mo TA;simp only[go_sem];rw[show l2 (D (((cH<1\/999999<cH)\/rs<0)\/99<rs)) (cY jY (D (0<rs)))=D ((((cH<1\/999999<cH)\/rs<0)\/99<rs)\/(jY=true/\0<rs)) from om (by simp[l2,cY,oo])];refine awH (λh=>agr λah => ?_) λh => ?_
 .simp only[ur]at ah;grind
 rw[show cY (D (c=101)) jY=D (c=101/\jY=true) from om (by simp[cY,oo]),show cY (D (c=201)) jY=D (c=201/\jY=true) from om (by simp[cY,oo])];by_cases O:c=101/\jY=true
 .simp only[go_sem,O,cD O]
  refine UX ?_;simp only[ur,pL];grind
 by_cases R:c=201/\jY=true
 .simp only[go_sem,cC O,cD R]
  refine UX ?_;simp only[ur,pL];grind
 by_cases af:(((c=1\/c=2)\/c=101)\/c=201)\/c=301
 .simp only[go_sem,cC O,cC R,cD af]
  refine UX ?_;simp only[ur,pL];grind
 simp only[go_sem,cC O,cC R,cC af];refine agr λah => ?_;simp only[ur,pL]at ah;grind
def yP:=@Bool.not_eq_true
def BQ:=@List.take_zero
def Jt:=@Bool.or_false
def vL(g:Nat->Bool):UInt8:=UInt8.ofNat ((g 0).toNat*128+(g 1).toNat*64+(g 2).toNat*32+(g 3).toNat*16+(g 4).toNat*8+(g 5).toNat*4+(g 6).toNat*2+(g 7).toNat)
def ajD:∀eh eT ei jx nM qe r4 b7:Bool,bt (UInt8.ofNat (eh.toNat*128+eT.toNat*64+ei.toNat*32+jx.toNat*16+nM.toNat*8+qe.toNat*4+r4.toNat*2+b7.toNat)) 0=eh /\
  bt (UInt8.ofNat (eh.toNat*128+eT.toNat*64+ei.toNat*32+jx.toNat*16+nM.toNat*8+qe.toNat*4+r4.toNat*2+b7.toNat)) 1=eT/\bt (UInt8.ofNat (eh.toNat*128+eT.toNat*64+ei.toNat*32+jx.toNat*16+nM.toNat*8+qe.toNat*4+r4.toNat*2+b7.toNat)) 2=ei /\
  bt (UInt8.ofNat (eh.toNat*128+eT.toNat*64+ei.toNat*32+jx.toNat*16+nM.toNat*8+qe.toNat*4+r4.toNat*2+b7.toNat)) 3=jx/\bt (UInt8.ofNat (eh.toNat*128+eT.toNat*64+ei.toNat*32+jx.toNat*16+nM.toNat*8+qe.toNat*4+r4.toNat*2+b7.toNat)) 4=nM /\
  bt (UInt8.ofNat (eh.toNat*128+eT.toNat*64+ei.toNat*32+jx.toNat*16+nM.toNat*8+qe.toNat*4+r4.toNat*2+b7.toNat)) 5=qe/\bt (UInt8.ofNat (eh.toNat*128+eT.toNat*64+ei.toNat*32+jx.toNat*16+nM.toNat*8+qe.toNat*4+r4.toNat*2+b7.toNat)) 6=r4 /\
  bt (UInt8.ofNat (eh.toNat*128+eT.toNat*64+ei.toNat*32+jx.toNat*16+nM.toNat*8+qe.toNat*4+r4.toNat*2+b7.toNat)) 7=b7:=iL
def J?{g:Nat->Bool}{t:Nat}(ht:t<8):bt (vL g) t=g t:=by obtain⟨ao,O,R,af,aq,a8,cS,dN⟩:=ajD (g 0) (g 1) (g 2) (g 3) (g 4) (g 5) (g 6) (g 7);have:t=0\/t=1\/t=2\/t=3\/t=4\/t=5\/t=6\/t=7:=J;rcases this with rfl|rfl|rfl|rfl|rfl|rfl|rfl|rfl<;>assumption
def acV:∀c:UInt8,vL (bt c)=c:=tt iL
def Xl{c d:UInt8}(h:∀t,t<8->bt c t=bt d t):c=d:=by rw[<- acV c,<- acV d];unfold vL;rw[h 0 J,h 1 J,h 2 J,h 3 J,h 4 J,h 5 J,h 6 J,h 7 J]
def acW{g h:Nat->Bool}(e:∀t,t<8->g t=h t):vL g=vL h:=Xl λt ht=>by rw[J? ht,J? ht,e t ht]
def y6(t:Nat):UInt8:=UInt8.ofNat (2^(7-t))
def ajo:∀t:Nat,t<8->u8 (fr .u8 128 (t:Int))=y6 t:=iL
def aue:∀c:UInt8,∀t:Nat,t<8->u8 (gM .u8 (aI c) (aI (y6 t)))=vL λs=>bt c s||Nat.beq s t:=tt iL
def W7(O:1<=n)(R:n<=128):tw ((n:Int),())=some ((((n-1)/8:Nat):Int),y6 ((n-1)%8),()):=by unfold tw;simp(disch:=omega) only[go_sem];have e1:((n:Int)-1)/8=(((n-1)/8:Nat):Int):=J;have aN:((n:Int)-1)%8=(((n-1)%8:Nat):Int):=J;rw[e1,aN,<- ajo _ J]
def h7:Int->List Int->Bool
 |_,[]=>true
 |last,n::r=>decide (last<n/\n<=128/\n≠65)&&h7 n r
def AR(last n:Int):aE Int (Bool×Unit):=if last<n/\n<=128/\n≠65 then .nx n else .rt (false,())
def Z0{σ:Type}{mk:Int->Nat->σ}{e:Nat}:∀(l:List Int) (last:Int) (i:Nat),(h7 last l=true/\∃y,ji mk e AR last i l=.ex e y)\/(h7 last l=false/\ji mk e AR last i l=.rt (false,()))
 |[],last,i=>.inl ⟨rfl,_,rfl⟩
 |n::r,last,i=>by
  by_cases h:last<n/\n<=128/\n≠65
  .have ac:AR last n=.nx n:=if_pos h
   have:=Z0 (mk:=mk) (e:=e) r n (i+1);simp only[ji,ac,h7,decide_eq_true h];exact this
  have ac:AR last n=.rt (false,()):=if_neg h;refine .inr ⟨?_,by simp only[ji,ac]⟩;simp only[h7,decide_eq_false h,JI]
def Pu(l:List Int)(hl:l.length<=1000000):J9 (l,())=some (h7 1 l,()):=by
 unfold J9;generalize hf:(λ(ab:Bool×Int×Int×Unit)=>_)=f;have key:=vI (f:=f) l (λlast i=>(false,last,(i:Int),())) 0 AR (λ_ _=>True) (λb i h _=>⟨?_,λ_ _=>trivial⟩) (λb _ => ?_) 1 trivial
 .refine(c' key).trans ?_
  rcases Z0 (mk:=λlast i=>((false,last,(i:Int),()):Bool×Int×Int×Unit)) (e:=0) l 1 0 with⟨O,y,R⟩|⟨O,R⟩
  .rw[O,R];simp only[go_sem]
  rw[O,R];simp only[go_sem]
 .subst hf
  by_cases O:b<l[i]/\l[i]<=128/\l[i]≠65
  .have ac:AR b l[i]=.nx l[i]:=if_pos O
   simp(disch:=omega) only[go_sem,ac,n5]
  have ac:AR b l[i]=.rt (false,()):=if_neg O;simp(disch:=omega) only[go_sem,ac,n5]
 subst hf;simp(disch:=omega) only[go_sem]
def h8(size:Nat)(S:Nat->Bool):V:=(List.range size).map λj=>vL λt=>S (8*j+t+1)
def DS{S:Nat->Bool}:(h8 size S).length=size:=by simp[h8]
def ae2{S:Nat->Bool}{j:Nat}(h:j<size):ak (h8 size S) j (u8 0)=vL λt=>S (8*j+t+1):=by rw[nth_get (by rw[DS];exact h)];simp[h8]
def Ln{S:Nat->Bool}(O:1<=n)(R:n<=8*size):iA (h8 size S) n=S n:=by unfold iA;rw[ae2 J,J? J];congr 1;omega
def ae4{a b:V}(hl:a.length=b.length)(h:∀n,1<=n->n<=8*a.length->iA a n=iA b n):a=b:=by refine tg hl λj O R=>Xl λt ht => ?_;have:=h (8*j+t+1) J J;unfold iA at this;rw[show(8*j+t+1-1)/8=j by omega,show(8*j+t+1-1)%8=t by omega,nth_get O,nth_get R]at this;exact this
def awe{S WB:Nat->Bool}(h:∀n,1<=n->n<=8*size->S n=WB n):h8 size S=h8 size WB:=ae4 (by rw[DS,DS]) λn O R=>by rw[DS]at R;rw[Ln O R,Ln O R,h n O R]
def avQ(size:Nat):bO size (u8 0)=h8 size λ_=>false:=by refine tg (by simp[bO,h8]) λj O R => ?_;simp only[bO,List.getElem_replicate,h8,wy];decide
def D4(S:Nat->Bool)(n:Nat):Nat->Bool:=λm=>S m||Nat.beq m n
def awQ{S:Nat->Bool}(O:1<=n)(R:n<=8*size){c:UInt8}(ai:c=vL λs=>bt (ak (h8 size S) ((n-1)/8) (u8 0)) s||Nat.beq s ((n-1)%8)):cj (h8 size S) ((n-1)/8) c=h8 size (D4 S n):=by
 refine tg (by simp[cj,h8]) λj af aq => ?_;have hg:=ae2 (S:=S) (show(n-1)/8<size by omega);simp only[cj,OD];split
 .rename_i an
  subst an;rw[ai,hg];simp only[h8,wy,yL];refine acW λt ht => ?_;rw[J? ht];unfold D4;congr 1;refine pc.2 ?_;simp;omega
 rename_i an;simp only[h8,wy,yL];refine acW λt ht => ?_;unfold D4;have:Nat.beq (8*j+t+1) n=false:=by refine(yP _).mp λY=>an ?_;have:=fB Y;omega
 rw[this,Jt]
def lW(l:List Int):Bool:=decide (0<l.length)&&decide (64<ak l (l.length-1) 0)
def oV(l:List Int)(n:Nat):Bool:=decide ((n:Int)∈l)
def gn(l:List Int):V:=if lW l=true then h8 16 (oV (1::l)) else h8 8 (oV l)
def AO{l:List Int}:∀{last:Int},h7 last l=true->∀n∈l,last<n/\n<=128/\n≠65:=by
 induction l with
 |nil=>intro _ _ n aj;cases aj
 |cons x r ih=>
  intro last h n aj;simp only[h7,cL,decide_eq_true_eq]at h;rcases gE.1 aj with rfl|aj
  .exact h.1
  have:=ih h.2 n aj;exact⟨J,this.2⟩
def avX{l:List Int}:∀{last:Int},h7 last l=true->∀n∈l,n<=ak l (l.length-1) 0:=by
 induction l with
 |nil=>intro _ _ n aj;cases aj
 |cons x r ih=>
  intro last h n aj;simp only[h7,cL]at h;cases r with
  |nil=>simp at aj;subst aj;simp[ak]
  |cons y r=>
   have ah:=ih h.2;have hl:ak (x::y::r) ((x::y::r).length-1) 0=ak (y::r) ((y::r).length-1) 0:=by simp[ak]
   rcases gE.1 aj with rfl|aj
   .have O:=(AO h.2 y bh).1
    have:=ah y bh;omega
   exact ah n aj
def Mm{l:List Int}(h:h7 1 l=true)(bb:¬lW l=true):∀n∈l,n<=64:=λn aj=>by have:=avX h n aj;unfold lW at bb;have ao:0<l.length:=List.length_pos_of_mem aj;simp at bb;omega
def Rc{α β σ ρ:Type}{mk:β->Nat->σ}{e:Nat}{step:β->α->aE β ρ}{g:β->α->β}(h:∀b x,step b x=.nx (g b x)):∀(l:List α) (b:β) (i:Nat),ji mk e step b i l=.ex e (mk (l.foldl g b) (i+l.length))
 |[],b,i=>rfl
 |x::r,b,i=>by simp only[ji,h,yI,ew];rw[Rc h r (g b x) (i+1)];congr 2;omega
def ajr{f:Int×V×Unit->Option (aE (Int×V×Unit) (V×Int×Unit))}{l:List Int}{r0:Nat->Bool}
  (ac:∀(S:Nat->Bool) (i:Nat) (h:i<l.length),(∀m,S m=(r0 m||oV (l.take i) m))->f ((i:Int),h8 size S,())=some (.nx (((i+1:Nat):Int),h8 size (D4 S (l[i]).toNat),())))
  (ah:∀n∈l,1<=n) (aA:∀x,f ((l.length:Int),x,())=some (.ex 0 ((l.length:Int),x,()))):bN f (0,h8 size r0,())=some (.ex 0 ((l.length:Int),h8 size (λm=>r0 m||oV l m),())):=by
 have key:∀(k i:Nat),k=l.length-i->i<=l.length->bN f ((i:Int),h8 size (λm=>r0 m||oV (l.take i) m),())=some (.ex 0 ((l.length:Int),h8 size (λm=>r0 m||oV l m),())):=by
  intro k;induction k with
  |zero =>intro i ap hi;have:i=l.length:=J;subst this;rw[nF];exact d_ (aA _)
  |succ k ih=>
   intro i ap hi;have bm:i<l.length:=J;refine(ez (ac _ i bm λm=>rfl)).trans ?_;have hx:=ah l[i] (mu bm);have:(D4 (λm=>r0 m||oV (l.take i) m) (l[i]).toNat)=λm=>r0 m||oV (l.take (i+1)) m:=by funext m;unfold D4 oV;rw[Bool.or_assoc];congr 1;refine pc.2 ?_;rw[nH bm];simp only[yJ,decide_eq_true_eq,Jp,io,pe];refine or_congr pk ?_;omega
   rw[this];exact ih (i+1) J J
 have:=key l.length 0 J J;simp only[BQ,oV,yO,decide_false,Jt]at this;exact this
def awi:cj (bO 16 (u8 0)) 0 (u8 128)=h8 16 (λm=>Nat.beq m 1):=iL
def ayn{l:List Int}(hl:l.length<=1000000):T (D (0<(l.length:Int))) (am (D (0<=(l.length:Int)-1/\(l.length:Int)-1<(l.length:Int))) (some (D (64<ak l ((l.length:Int)-1).toNat 0),()))) (some (false,()))=some (lW l,()):=by
 have a2:((l.length:Int)-1).toNat=l.length-1:=J;by_cases ao:0<l.length
 .have e:lW l=decide (64<ak l (l.length-1) 0):=by unfold lW;rw[decide_eq_true ao,OL]
  simp(disch:=omega) only[go_sem,a2,e]
 have e:lW l=false:=by unfold lW;rw[decide_eq_false ao,JI]
 simp(disch:=omega) only[go_sem,e]
def ajp(l:List Int)(hl:l.length<=1000000):J_ (l,())=some (if h7 1 l=true then(gn l,0,()) else([],1,())):=by
 unfold J_;generalize hf:(λ(ab:Int×V×Unit)=>_)=f;have xr:=ayn hl;cases ah:h7 1 l
 .simp(disch:=omega) only[go_sem,Pu,ah]
 have hm:=AO ah;have step:∀(size:Nat),(∀n∈l,n<=8*(size:Int))->∀r0:Nat->Bool,bN f (0,h8 size r0,())=some (.ex 0 ((l.length:Int),h8 size (λm=>r0 m||oV l m),())):=by
  intro size bY r0;refine ajr (λS i h _ => ?_) (λn aj=>by have:=hm n aj;omega) (λx => ?_)
  .subst hf
   have hx:=hm l[i] (mu h);have mO:=bY l[i] (mu h);obtain⟨N,fO⟩:∃N:Nat,l[i]=N:=⟨l[i].toNat,J⟩;have pC:=W7 (n:=N) J J;have abG:(h8 size S).length=size:=DS;have nj:=awQ (size:=size) (S:=S) (n:=N) J J (aue (ak (h8 size S) ((N-1)/8) (u8 0)) ((N-1)%8) J);have zJ:((N-1)/8)<(h8 size S).length:=J;rw[nth_get zJ]at nj;simp(disch:=omega) only[go_sem,fO,pC,abG,nj]
  subst hf;simp(disch:=omega) only[go_sem]
 by_cases bb:lW l=true
 .have:=step 16 (λn aj=>by have:=hm n aj;omega) (λm=>Nat.beq m 1)
  rw[<- awi]at this;have e:h8 16 (λm=>Nat.beq m 1||oV l m)=gn l:=by
   unfold gn;rw[if_pos bb];refine awe λn _ _ => ?_;unfold oV;refine pc.2 ?_;simp
   grind
  rw[e]at this;simp(disch:=first|assumption|omega|(dsimp only;omega)|decide) only[go_sem,Int.reduceToNat,Pu,ah,xr,bb,this]
 have:=step 8 (λn aj=>by have:=Mm ah bb n aj;omega) (λm=>false);rw[<- avQ]at this;have GZ:lW l=false:=(yP _).mp bb;have e:h8 8 (λm=>false||oV l m)=gn l:=by unfold gn;rw[if_neg bb];rfl
 rw[e]at this;simp(disch:=omega) only[go_sem,Int.reduceToNat,Pu,ah,xr,GZ,this]
def aaU{c:V}{k:Nat}(O:1<=n)(R:n<=8*k)(af:k<=c.length):iA (c.take k) n=iA c n:=by unfold iA;rw[nth_get (by grind),nth_get J,Oy]
def anw(h:fM no=some (k,l)):2<=no/\no<=128/\no≠65:=by
 unfold fM at h;rw[k4]at h;have:∀r∈F3,∀c∈r.drop 2,2<=c/\c<=128/\c≠65:=iL
 grind
def u_{v:V}:gB no v=true↔∃k l,fM no=some (k,l)/\g2 k l v:=by
 unfold gB
 grind
def Q8{v:V}(h:gB no v=true):2<=no/\no<=128/\no≠65:=by obtain⟨k,l,O,_⟩:=u_.1 h;exact anw O
def v6{l:List b0}:∀{last:Int},fF last l=true->∀v∈l,last<v.1/\gB v.1 v.2.1=true:=by
 induction l with
 |nil=>intro _ _ v aC;cases aC
 |cons x r ih=>
  intro last h v aC;simp only[fF,cL,decide_eq_true_eq]at h
  grind
def iE(l:List b0):List Int:=l.map λv=>v.1
def avS{l:List b0}:∀{last:Int},1<=last->fF last l=true->h7 last (iE l)=true:=by
 induction l with
 |nil=>intros;rfl
 |cons x r ih =>intro last hl h;simp only[fF,cL,decide_eq_true_eq]at h;have aj:=Q8 h.2.1;simp only[iE,pi,h7,cL,decide_eq_true_eq];exact⟨⟨h.1,aj.2⟩,ih J h.2.2⟩
def Uu{l:List b0}(h:fF 0 l=true):h7 1 (iE l)=true:=by
 cases l with
 |nil=>rfl
 |cons x r =>simp only[fF,cL,decide_eq_true_eq]at h;have aj:=Q8 h.2.1;simp only[iE,pi,h7,cL,decide_eq_true_eq];exact⟨⟨J,aj.2⟩,avS J h.2.2⟩
def hR(v:b0):V:=(rQ v.1 v.2.1).1
def ahy{v:V}(h:gB no v=true):rQ no v=((rQ no v).1,0,())/\(rQ no v).1.length<=402/\1<=(rQ no v).1.length:=by
 obtain⟨k,l,O,R⟩:=u_.1 h;have e:rQ no v=(kY k v,0,()):=by unfold rQ;rw[O];simp only[if_pos R]
 have hl:=Ri O R;rw[e];exact⟨rfl,ayC (tH O).1 hl.2.2,ayD (tH O).1 hl.1⟩
def rK(m:Int):V:=f' (er (aZ 10 dI m.toNat 4))
def Bf:(rK m).length=2:=by unfold rK;rw[r5,lm]
def gO(m:M):V:=rK m.1++(gn (iE m.2.1)++m.2.1.flatMap hR)
def qf(l:List Int):(gn l).length=if lW l=true then 16 else 8:=by unfold gn;split<;>exact DS
def ans(l:List b0):∀db:List Int,l.foldl (λdb v=>db++[v.1]) db=db++iE l:=by
 induction l with
 |nil=>intro db;simp[iE]
 |cons v r ih=>intro db;rw[yI,ih];simp[iE]
def ant(l:List b0):∀db:V,l.foldl (λdb v=>db++hR v) db=db++l.flatMap hR:=by
 induction l with
 |nil=>intro db;simp
 |cons v r ih=>intro db;rw[yI,ih];simp
def ax1(h:ig m):mD (m,4,())=some (aZ 10 dI m.toNat 4,0,())/\tC (aZ 10 dI m.toNat 4,())=some (rK m,0,())/\MU (m,4,())=some (aZ 10 dI m.toNat 4,0,())/\Ul (aZ 10 dI m.toNat 4,())=some (rK m,0,()):=by
 unfold ig at h;have e:(10:Int)^(4:Int).toNat=10000:=bP;refine⟨?_,?_,?_,?_⟩
 .rw[FI _ _ J,if_pos ⟨J,J,J,by rw[e];omega⟩];rfl
 .rw[QH _ (by rw[lm];omega),if_pos zl];rfl
 .rw[aeM _ _ J,if_pos ⟨J,J,J,by rw[e];omega⟩];rfl
 rw[avE _ (by rw[lm];omega),if_pos zl];rfl
def SU(m:M)(hm:w9 m):z7 (m,())=some (if jI m=true then(gO m,0,()) else([],1,())):=by
 unfold z7;generalize hf:(λ(ab:List Int×Int×Unit)=>_)=f;generalize hg:(λ(ab:V×Int×Unit)=>(_:Option (aE (V×Int×Unit) (V×Int×Unit))))=g;have jk:=ar0 m hm;have hl:=hm.1;cases ah:jI m
 .simp only[go_sem,jk,ah]
 have gD:=ah;simp only[jI,cL,decide_eq_true_eq]at gD;obtain⟨k?,mB, -, -⟩:=ax1 gD.2;have key:=vI (f:=f) (ρ:=V×Int×Unit) m.2.1 (λ(db:List Int) i=>(db,(i:Int),())) 0 (λdb v=>.nx (db++[v.1])) (λdb i=>db.length=i) (λb i h eo=>⟨?_,λb' Y => ?_⟩) (λb _ => ?_) [] rfl
 .rw[Rc (g:=λ(db:List Int) (v:b0)=>db++[v.1]) (λ_ _=>rfl),ans]at key
  have aaV:=ajp (iE m.2.1) (by simp[iE];omega);rw[if_pos (Uu gD.1)]at aaV;have tW:=Bf (m:=m.1);have dD:(gn (iE m.2.1)).length<=16:=by rw[qf];split<;>omega
  have t6:=vI (f:=g) (ρ:=V×Int×Unit) m.2.1 (λ(db:V) i=>(db,(i:Int),())) 2 (λdb v=>.nx (db++hR v)) (λdb i=>db.length<=100+402*i) (λb i h eo=>⟨?_,λb' Y => ?_⟩) (λb _ => ?_) (rK m.1++gn (iE m.2.1)) (by rw[cE];omega)
  .rw[Rc (g:=λ(db:V) (v:b0)=>db++hR v) (λ_ _=>rfl),ant,gv]at t6
   replace key:bN f ([],0,())=_:=key;replace t6:bN g (rK m.1++gn (iE m.2.1),0,())=_:=t6;simp(disch:=omega) only[go_sem,jk,ah,k?,mB,key,aaV,t6];rfl
  .subst hg
   have hK:=v6 gD.1 m.2.1[i] (mu h);have bb:=ahy hK.2;have aqb:=hm.ak h;have xr:=am6 m.2.1[i].1 m.2.1[i].2.1 aqb;rw[bb.1]at xr;have ard:(hR m.2.1[i]).length<=402:=bb.2.1;change FY _=some (hR m.2.1[i],0,()) at xr;simp(disch:=omega) only[go_sem,xr,n5]
  .cases Y
   have hK:=v6 gD.1 m.2.1[i] (mu h);have ard:(hR m.2.1[i]).length<=402:=(ahy hK.2).2.1
   grind
  subst hg;simp(disch:=omega) only[go_sem]
 .subst hf;simp(disch:=omega) only[go_sem,ew,n5]
 .grind
 subst hf;simp(disch:=omega) only[go_sem]
def lP:M:=(0,[],())
def pT(b:V):List Int->Int->List b0->Option Int×Int×List b0
 |[],c9,F=>(none,c9,F)
 |n::r,c9,F=>if(jn n b c9).2.2.1=0 then pT b r (jn n b c9).2.1 (F++[(n,(jn n b c9).1,())]) else(some (jn n b c9).2.2.1,c9,F)
def AK(b:V)(s:Int×List b0)(n:Int):aE (Int×List b0) (M×Int×Unit):=if(jn n b s.1).2.2.1=0 then .nx ((jn n b s.1).2.1,s.2++[(n,(jn n b s.1).1,())]) else .rt (lP,(jn n b s.1).2.2.1,())
def ZY{σ:Type}{mk:Int×List b0->Nat->σ}{e:Nat}{b:V}:∀(l:List Int) (s:Int×List b0) (i:Nat),ji mk e (AK b) s i l=match pT b l s.1 s.2 with|(none,a,F)=>.ex e (mk (a,F) (i+l.length))|(some q,_,_)=>.rt (lP,q,())
 |[],s,i=>rfl
 |n::r,s,i=>by
  unfold pT;by_cases h:(jn n b s.1).2.2.1=0
  .have ac:AK b s n=.nx ((jn n b s.1).2.1,s.2++[(n,(jn n b s.1).1,())]):=if_pos h
   simp only[ji,ac,if_pos h];rw[ZY r _ (i+1)]
   grind
  have ac:AK b s n=.rt (lP,(jn n b s.1).2.2.1,()):=if_neg h;simp only[ji,ac,if_neg h]
def Du(_:Unit)(n:Int):aE Unit (M×Int×Unit):=if(fM n).isSome=true then .nx () else .rt (lP,2,())
def ZX{σ:Type}{mk:Unit->Nat->σ}{e:Nat}:∀(l:List Int) (i:Nat),ji mk e Du () i l=if ∀n∈l,(fM n).isSome=true then .ex e (mk () (i+l.length)) else .rt (lP,2,())
 |[],i=>by simp[ji]
 |n::r,i=>by
  by_cases h:(fM n).isSome=true
  .have ac:Du () n=.nx ():=if_pos h
   simp only[ji,ac,gE,forall_eq_or_imp,h,true_and];rw[ZX r (i+1)]
   grind
  have ac:Du () n=.rt (lP,2,()):=if_neg h;simp only[ji,ac]
  grind
def DN(b:V)(m:Int)(l:List Int)(c9:Int):M×Int×Unit:=
 if ∀n∈l,(fM n).isSome=true then(match pT b l c9 []with|(none,a,F)=>if a<(b.length:Int) then(lP,4,()) else((m,F,()),0,())|(some q,_,_)=>(lP,q,())) else(lP,2,())
def fy(b:V):M×Int×Unit:=
 if(iX b 0 4).2.2.1≠0 then(lP,(iX b 0 4).2.2.1,()) else if ig (val (iX b 0 4).1:Int) then
  (if(k8 b 2).2.2.1≠0 then(lP,(k8 b 2).2.2.1,()) else DN b (val (iX b 0 4).1:Int) (k8 b 2).1 (k8 b 2).2.1) else(lP,2,())
def adq{c:V}:(hQ c).length<=8*c.length+1:=by
 have:=rV (λn=>Nat.ble 2 n&&iA c n) (List.range (8*c.length+1))
 rwa [JN]at this
def ajx{b:V}:(k8 b a).1.length<=129:=by
 unfold k8;split
 .simp
 unfold pp;split
 .simp
 split
 .split
  .simp
  have:=adq (c:=(b.drop a.toNat).take 16)
  grind
 have:=adq (c:=(b.drop a.toNat).take 8)
 grind
def Z6{o:Option (Int×Int)}:(iz o).2.1=o.isSome:=by cases o<;>rfl
def avw{Wy:Int×Unit->Option ((Int×Int×Unit)×Bool×Unit)}(aaK:∀n,Wy (n,())=some (iz (fM n))){Wz:Int×V×Int×Unit->Option (V×Int×Int×Unit)}{b:V}(aaN:∀n a,Wz (n,b,a,())=some (jn n b a))
  {l:List Int} (hl:l.length<=129) {c9 Dl:Int} {e1:Int} {f:Int×Int×Unit->Option (aE (Int×Int×Unit) (M×Int×Unit))} {g:Int×Int×Int×M×Unit->Option (aE (Int×Int×Int×M×Unit) (M×Int×Unit))}
  (hf:∀x (i:Nat),f (x,(i:Int),())=T (aJ (i:Int) (len l)) (am (aU (i:Int) (len l)) (ob (Wy (ak l (aa (i:Int)) 0,())) λa=>T (a_ a.2.1) (some (.rt (lP,2,()))) (some (.nx (x,i64 (av (i:Int) 1),()))))) (some (.ex 0 (x,(i:Int),()))))
  (hg:∀x a (i:Nat) (F:List b0),g (x,a,(i:Int),(Dl,F,()),())=T (aJ (i:Int) (len l)) (am (aU (i:Int) (len l)) (ob (Wz (ak l (aa (i:Int)) 0,b,a,())) λq=>T (a_ (ag q.2.2.1 0)) (some (.rt (lP,q.2.2.1,())))
   (am (cz 56 (bQ (aT F) 1)) (some (.nx (x,q.2.1,i64 (av (i:Int) 1),(Dl,bv F [(ak l (aa (i:Int)) 0,q.1,())],()),())))))) (some (.ex 2 (x,a,(i:Int),(Dl,F,()),())))) (rR:Int) :
  ci (bN f (rR,0,())) (λ_=>none) (λi a=>am (bZ i 0) (ci (bN g (a.1,c9,0,(Dl,[],()),())) (λ_=>none) (λi a=>am (bZ i 2) (T (aJ a.2.1 (len b)) (some (lP,4,())) (some ((a.2.2.2.1.1,a.2.2.2.1.2.1,a.2.2.2.1.2.2),0,())))) λr=>some r)) (λr=>some r)=some (DN b Dl l c9):=by
 have key:=vI (f:=f) l (λ(_:Unit) i=>(rR,(i:Int),())) 0 Du (λ_ _=>True) (λ_ i h _=>⟨?_,λ_ _=>trivial⟩) (λ_ _ => ?_) () trivial
 .refine(c' key).trans ?_
  rw[ZX];unfold DN;by_cases aK:∀n∈l,(fM n).isSome=true
  .rw[if_pos aK,if_pos aK]
   have t6:=vI (f:=g) l (λ(s:Int×List b0) i=>(rR,s.1,(i:Int),(Dl,s.2,()),())) 2 (AK b) (λs i=>s.2.length<=i) (λs i h eo=>⟨?_,λcp ac => ?_⟩) (λs _ => ?_) (c9,[]) (bU _)
   .refine(c' t6).trans ?_
    rw[ZY];rcases pT b l c9 []with⟨_|q,a,F⟩
    .refine lc_ex'.trans (bn g62 ?_)
     by_cases bu:a<(b.length:Int)
     .simp only[if_pos bu];simp(disch:=omega) only[go_sem]
     simp only[if_neg bu];simp(disch:=omega) only[go_sem]
    rfl
   .rw[hg]
    by_cases ao:(jn l[i] b s.1).2.2.1=0
    .have eL:AK b s l[i]=.nx ((jn l[i] b s.1).2.1,s.2++[(l[i],(jn l[i] b s.1).1,())]):=if_pos ao
     simp(disch:=omega) only[go_sem,aaN,ao,eL,n5]
    have eL:AK b s l[i]=.rt (lP,(jn l[i] b s.1).2.2.1,()):=if_neg ao;simp(disch:=omega) only[go_sem,aaN,ao,eL,n5]
   .unfold AK at ac
    grind
   rw[hg];simp(disch:=omega) only[go_sem]
  rw[if_neg aK,if_neg aK];rfl
 .rw[hf]
  cases ao:(fM l[i]).isSome
  .have eL:Du () l[i]=.rt (lP,2,()):=if_neg (by rw[ao];simp)
   simp(disch:=omega) only[go_sem,aaK,Z6,ao,eL,n5]
  have eL:Du () l[i]=.nx ():=if_pos ao;simp(disch:=omega) only[go_sem,aaK,Z6,ao,eL,n5]
 rw[hf];simp(disch:=omega) only[go_sem]
def ST(b:V)(hl:b.length<=1000000):C5 (b,())=some (fy b):=by
 refine bg (QJ b 0 4 hl) ?_;unfold fy;rcases A_ (b:=b) (I:=0) (N:=4) (fK _) J with⟨_,h⟩|⟨_,h,_⟩|⟨s,aq,h,hf,ac,_⟩
 .replace h:iX b 0 4=([],0,3,()):=h
  rw[h];rfl
 .replace h:iX b 0 4=([],0,2,()):=h
  rw[h];rfl
 replace h:iX b 0 4=(s,2,0,()):=h;rw[h];refine bg (FJ s) ?_;rw[if_pos ⟨J,J,hf⟩,if_neg bh];refine bg (z6 _) ?_;by_cases ht:ig (val s:Int)
 .refine a1 (by rw[cD ht];rfl) ?_
  rw[if_pos ht];by_cases ao:(k8 b 2).2.2.1=0
  .refine a1 (by rw[cJ ao];rfl) ?_
   rw[if_neg J];exact avw (e1:=0) FX (b:=b) (λn a=>am5 n b a hl) ajx (λ_ _=>rfl) (λ_ _ _ _=>rfl) 0
  refine bq (by rw[cr ao];rfl) ?_;rw[if_pos ao];rfl
 refine bq (by rw[cC ht];rfl) ?_;rw[if_neg ht];rfl
def JJ:=@Nat.mul_le_mul
def YJ{α:Type}(c:Nat)(z:α)(x:List (List α)×Unit):Option (List α×Unit):=
 ci (bN (λ(ab:Int×Int×Unit)=>T (aJ ab.2.1 (len x.1)) (am (aU ab.2.1 (len x.1)) (T (aJ (i64 (av ab.1 (len (ak x.1 (aa ab.2.1) (aO α))))) 0) none
  (some (aE.nx (i64 (av ab.1 (len (ak x.1 (aa ab.2.1) (aO α)))),i64 (av ab.2.1 1),()))))) (some (aE.ex 0 (ab.1,ab.2.1,())))) (0,0,()))
 (λ(a:Int×Int×Unit)=>none)
 (λ(i:Nat) (a:Int×Int×Unit)=>am (bZ i 0) (T (aJ a.1 0) none (T (aJ 0 (i64 (bi a.1 (i64 (bi 0 0))))) (am (ca 0 0 0)
  (am (cY (bE 0 (i64 (bi a.1 (i64 (bi 0 0))))) (cz c (aa (i64 (bi a.1 (i64 (bi 0 0))))))) (am (ca 0 0 (len (bO (aa (i64 (bi a.1 (i64 (bi 0 0))))) z)))
   (ci (bN (λ(ab:List α×Int×Unit)=>T (aJ ab.2.1 (len x.1)) (am (aU ab.2.1 (len x.1)) (am (cz c (bQ (aT ab.1) (aT (ak x.1 (aa ab.2.1) (aO α)))))
    (some (aE.nx (bv ab.1 (ak x.1 (aa ab.2.1) (aO α)),i64 (av ab.2.1 1),()))))) (some (aE.ex 2 (ab.1,ab.2.1,())))) (cut (bO (aa (i64 (bi a.1 (i64 (bi 0 0))))) z) (aa 0) (cd (aa 0) (aa 0)),0,()))
    (λ(a:List α×Int×Unit)=>none) (λ(i:Nat) (a:List α×Int×Unit)=>am (bZ i 2) (some (a.1,()))) λ(r:List α×Unit)=>some r))))
  (ci (bN (λ(ab:List α×Int×Unit)=>T (aJ ab.2.1 (len x.1)) (am (aU ab.2.1 (len x.1)) (am (cz c (bQ (aT ab.1) (aT (ak x.1 (aa ab.2.1) (aO α)))))
   (some (aE.nx (bv ab.1 (ak x.1 (aa ab.2.1) (aO α)),i64 (av ab.2.1 1),()))))) (some (aE.ex 2 (ab.1,ab.2.1,())))) (aO α,0,()))
   (λ(a:List α×Int×Unit)=>none) (λ(i:Nat) (a:List α×Int×Unit)=>am (bZ i 2) (some (a.1,()))) λ(r:List α×Unit)=>some r))))
 λ(r:List α×Unit)=>some r
def Rd{α β σ ρ:Type}{mk:β->Nat->σ}{e:Nat}{step:β->α->aE β ρ}{g:β->α->β}(h:∀b x,step b x=.nx (g b x)):∀(l:List α) (b:β) (i:Nat),ji mk e step b i l=.ex e (mk (l.foldl g b) (i+l.length))
 |[],b,i=>rfl
 |x::r,b,i=>by
  simp only[ji,h,ew];rw[Rd h r (g b x) (i+1)]
  grind
def anr(hc:List (List α)):∀a:Int,hc.foldl (λs x=>s+(x.length:Int)) a=a+(hc.flatten.length:Int):=by
 induction hc with
 |nil=>intro a;simp
 |cons x r ih=>intro a;rw[yI,ih];simp;omega
def anq(hc:List (List α)):∀a:List α,hc.foldl (λs x=>s++x) a=a++hc.flatten:=by
 induction hc with
 |nil=>intro a;simp
 |cons x r ih=>intro a;rw[yI,ih];simp
def YK{c:Nat}{z:α}(ai:c<=100000)(hc:List (List α))(hl:hc.length<=100)(hx:∀x∈hc,x.length<=1000000):YJ c z (hc,())=some (hc.flatten,()):=by
 unfold YJ;generalize hf:(λ(ab:Int×Int×Unit)=>_)=f;generalize hg:(λ(ab:List α×Int×Unit)=>(_:Option (aE (List α×Int×Unit) (List α×Unit))))=g;have le:∀n:Nat,n<=100000000->n*c<=140737488355328:=λn aj=>e0 (JJ aj ai) J;have cq:hc.flatten.length<=100000000:=by
  have:∀hc:List (List α),(∀x∈hc,x.length<=1000000)->hc.flatten.length<=1000000*hc.length:=by
   intro hc;induction hc with
   |nil=>simp
   |cons x r ih=>
    grind
  grind
 have key:=vI (f:=f) (ρ:=List α×Unit) hc (λ(s:Int) i=>(s,(i:Int),())) 0 (λs x=>.nx (s+(x.length:Int))) (λs i=>0<=s/\s<=1000000*i) (λs i h eo=>⟨?_,λb' Y => ?_⟩) (λs _ => ?_) 0 bh
 .rw[Rd (g:=λ(s:Int) (x:List α)=>s+(x.length:Int)) (λ_ _=>rfl),anr,Int.zero_add]at key
  have t6:=vI (f:=g) (ρ:=List α×Unit) hc (λ(s:List α) i=>(s,(i:Int),())) 2 (λs x=>.nx (s++x)) (λs i=>s.length<=1000000*i) (λs i h eo=>⟨?_,λb' Y => ?_⟩) (λs _ => ?_) [] bh
  .rw[Rd (g:=λ(s:List α) (x:List α)=>s++x) (λ_ _=>rfl),anq,nG]at t6
   refine(c' key).trans (lc_ex'.trans (bn g62 (a1 rfl ?_)));by_cases ao:0<hc.flatten.length
   .refine bq (by simp(disch:=omega) only[go_sem];omega) (bn (by simp only[go_sem];decide) ?_)
    have qw:∀(n:Nat) (a:α),(bO n a).length=n:=λn a=>by simp[bO]
    have hm:=le _ cq;refine bn (by simp(disch:=omega) only[go_sem];exact⟨J,hm⟩) (bn (by simp only[go_sem];exact⟨J,J,J⟩) ?_);refine(c' t6).trans ?_;rfl
   refine a1 (by simp(disch:=omega) only[go_sem];omega) ((c' t6).trans ?_);rfl
  .subst hg
   have R:=hx hc[i] (mu h);have hm:=le (s.length+(hc[i]).length) J;simp(disch:=omega) only[go_sem,n5]
  .grind
  subst hg;simp(disch:=omega) only[go_sem]
 .subst hf
  have R:=hx hc[i] (mu h);simp(disch:=omega) only[go_sem,n5]
 .cases Y
  have R:=hx hc[i] (mu h);omega
 subst hf;simp(disch:=first|assumption|omega|(dsimp only;omega)|decide) only[go_sem,Int.reduceToNat]
def ahS(hc:List (List b0))(hl:hc.length<=100)(hx:∀x∈hc,x.length<=1000000):NE (hc,())=some (hc.flatten,()):=
 (rfl).trans (YK J hc hl hx)
def ge(no:Int):List b0->Nat
 |[]=>0
 |v::r=>if no<=v.1 then 0 else ge no r+1
def jQ(no:Int):List b0->Bool
 |[]=>false
 |v::r=>if no<=v.1 then decide (v.1=no) else jQ no r
def Q7(no:Int):∀l:List b0,ge no l<=l.length
 |[]=>bU _
 |v::r=>by
  unfold ge;split
  .omega
  have:=Q7 no r;simp;omega
def Lo{no:Int}:∀{l:List b0},jQ no l=true->∃h:ge no l<l.length,(l[ge no l]).1=no
 |v::r,h=>by
  unfold jQ at h;by_cases ai:no<=v.1
  .rw[if_pos ai]at h
   have:ge no (v::r)=0:=by unfold ge;rw[if_pos ai]
   grind
  rw[if_neg ai]at h;obtain⟨O,R⟩:=Lo h;have:ge no (v::r)=ge no r+1:=by conv=>{ lhs;unfold ge };rw[if_neg ai]
  grind
def ZO(l:List b0)(no:Int)(hl:l.length<=1000000):Ha ((l,1,()),no,())=some ((ge no l:Int),jQ no l,()):=by
 unfold Ha;generalize hf:(λ(ab:Int×Bool×Int×Unit)=>_)=f;have key:∀(r:List b0) (i:Nat),l.drop i=r->i<=l.length->bN f (0,false,(i:Int),())=if i+ge no r<l.length then some (.rt (((i+ge no r:Nat):Int),jQ no r,())) else some (.ex 0 (0,false,(l.length:Int),())):=by
  intro r;induction r with
  |nil =>intro i ah hi;have GJ:=congrArg List.length ah;rw[fb,gw]at GJ;have:i=l.length:=J;subst this;rw[if_neg (by simp[ge])];refine d_ ?_;subst hf;simp(disch:=omega) only[go_sem]
  |cons v r ih=>
   intro i ah hi;have GJ:=congrArg List.length ah;rw[fb,ew]at GJ;have bm:i<l.length:=J;rw[m2 bm]at ah;obtain⟨aC,gD⟩:=oy ah;have hp:LW (v,())=some (v.1,()):=rfl;by_cases ai:no<=v.1
   .have ao:ge no (v::r)=0:=by unfold ge;rw[if_pos ai]
    have O:jQ no (v::r)=D (v.1=no):=by unfold jQ;rw[if_pos ai];exact g51
    rw[ao,O,if_pos J];refine pN ?_;subst hf;simp(disch:=omega) only[go_sem,aC,hp,Int.add_zero]
   have ao:ge no (v::r)=ge no r+1:=by conv=>{ lhs;unfold ge };rw[if_neg ai]
   have O:jQ no (v::r)=jQ no r:=by conv=>{ lhs;unfold jQ };rw[if_neg ai]
   rw[ao,O];refine(ez (y:=(0,false,((i+1:Nat):Int),())) ?_).trans ((ih (i+1) gD bm).trans ?_)
   .subst hf;simp(disch:=omega) only[go_sem,aC,hp]
   rw[show i+1+ge no r=i+(ge no r+1) by omega]
 have xx:=key l 0 rfl (fK _);rw[jv]at xx;refine(c' xx).trans ?_;by_cases bm:ge no l<l.length
 .rw[if_pos bm];rfl
 rw[if_neg bm];have aA:=Q7 no l;have:ge no l=l.length:=J;have aj:jQ no l=false:=(yP _).mp λh=>bm (Lo h).1;rw[this,aj];rfl
def getD(l:List b0)(no:Int):V×Bool×Unit:=if jQ no l=true then((ak l (ge no l) (0,[],())).2.1,true,()) else([],false,())
def SS(m:M)(no:Int)(hl:m.2.1.length<=1000000):qz (m,no,())=some (getD m.2.1 no):=by
 unfold qz;refine bg (show LV (m,())=some ((m.2.1,1,()),()) from rfl) ?_;refine bg (ZO m.2.1 no hl) ?_;unfold getD;cases h:jQ no m.2.1
 .rfl
 obtain⟨O,R⟩:=Lo h;exact a1 rfl (bn (kS O) rfl)
def yw(l:List b0)(x:b0):List b0:=l.take (ge x.1 l)++(x::l.drop (if jQ x.1 l=true then ge x.1 l+1 else ge x.1 l))
def azS{l:List α}:sub l 0 (n:Int)=l.take n:=by simp[sub]
def agG{l:List α}:sub l (n:Int) (len l)=l.drop n:=by simp only[sub,len,iZ];rw[hS bh]
def ays(l:List b0)(x:b0)(hl:l.length<=100000):SV ((l,1,()),x,())=some (yw l x,()):=by
 refine bn g62 (bg (rfl) (bg (ZO l x.1 J) ?_));have bY:=Q7 x.1 l;have ai:∀n:Nat,NE ([l.take (ge x.1 l),[x],l.drop n],())=some (l.take (ge x.1 l)++(x::l.drop n),()):=λn=>by
  rw[ahS _ bh (λy hy=>by
   simp at hy;rcases hy with rfl|rfl|rfl
   .grind
   .simp
   rw[fb];omega)]
  simp
 unfold yw;cases h:jQ x.1 l
 .refine bg (b1 rfl) ?_
  refine bn cM (bn cM ?_);simp only[ agG];exact bg (ai _) rfl
 obtain⟨O,R⟩:=Lo h;have e:i64 (av (ge x.1 l:Int) 1)=((ge x.1 l+1:Nat):Int):=lh (b:=1) J;simp only[e];refine bn cM (bn cM ?_);simp only[ agG];exact bg (ai _) rfl
def D2(m:M)(no:Int)(v:V):M×Int×Unit:=if fM no=none then(m,12,()) else if gB no v=true then((m.1,yw m.2.1 (no,v,()),()),0,()) else(m,1,())
def LU(m:M)(no:Int)(v:V)(hl:m.2.1.length<=100000)(aC:v.length<=1000000):jS (m,no,v,())=some (D2 m no v):=by
 unfold jS D2;refine bg (FX no) ?_;cases aK:fM no with
 |none=>rfl
 |some p=>
  refine a1 rfl (bg (KW no v aC) ?_);cases hf:gB no v
  .rfl
  exact a1 rfl (bg (rfl) (bg (ays m.2.1 (no,v,()) hl) rfl))
def hI(no:Int):List b0->V×Bool×Unit
 |[]=>([],false,())
 |v::r=>if v.1=no then(v.2.1,true,()) else hI no r
def anW{no:Int}:∀{l:List b0},(hI no l).2.1=false->hI no l=([],false,())
 |[],_=>rfl
 |v::r,h=>by
  unfold hI at h ⊢;split
  .grind
  rename_i ai;rw[if_neg ai]at h;exact anW h
def v_(l:List b0)(x:b0):List b0:=l.filter (λv=>decide (v.1<x.1))++(x::l.filter (λv=>decide (x.1<v.1)))
def dd(n:Int)(w:Nat):V:=aZ 10 dI n.toNat w
def na{n:Int}:(dd n w).length=w:=lm _ _ _ _
def QG{n:Int}:fZ (dd n w):=zl
def amh{n:Int}(ao:0<=n)(h:n<10^w):(val (dd n w):Int)=n:=by unfold dd;rw[N2,lY (by grind)];omega
def HH{n:Int}(O:1<=w)(R:w<=18)(ao:0<=n)(h:n<10^w)(CG:n<=9223372036854775807):qG (n,(w:Int),())=some (dd n w,()):=by unfold qG;rw[FI _ _ CG,if_pos ⟨show(1:Int)<=(w:Int) by omega,show(w:Int)<=18 by omega,ao,by simpa using h⟩];show am (cz 1 (aT (dd n w))) _=_;simp(disch:=omega) only[go_sem,na];rfl
def jE(n:N):M:=
 if n.1=false then(810,[(11,dd n.2.2.1 6,()),(39,dd n.2.2.2.1 2,()),(70,dd n.2.1 3,())],())
 else if n.2.1=101 then(800,[(11,dd n.2.2.1 6,()),(48,eW n.2.2.2.2.2.2.1,()),(53,dd n.2.2.2.2.1 16,()),(70,dd n.2.1 3,()),(96,n.2.2.2.2.2.1,())],())
 else if n.2.1=201 then(800,[(11,dd n.2.2.1 6,()),(15,dd n.2.2.2.2.2.2.2.1 6,()),(70,dd n.2.1 3,())],())
 else(800,[(11,dd n.2.2.1 6,()),(70,dd n.2.1 3,())],())
def se(h:fM no=some (k,(w:Int)))(bb:1<=w){n:Int}:gB no (dd n w)=true:=by
 unfold gB;rw[h];refine decide_eq_true ⟨⟨λ_=>QG,λ_=>Cs QG⟩,?_⟩;unfold kM;rw[na]
 grind
def Cv:fM 11=some (1,6):=bP
def Ra:fM 15=some (1,6):=bP
def K5:fM 39=some (3,2):=bP
def ano:fM 48=some (5,400):=bP
def ZW:fM 53=some (1,16):=bP
def Rb:fM 70=some (1,3):=bP
def anp:fM 96=some (6,8):=bP
def ZT{v:V}(h:v.length=8):gB 96 v=true:=by
 unfold gB;rw[anp];refine decide_eq_true ⟨⟨λh=>J,λh=>J⟩,?_⟩;unfold kM
 grind
def att{t:Int}{l:List b0}{v:V}(hl:l.length<=100)(aC:v.length<=1000)(hf:gB no v=true):jS ((t,l,()),no,v,())=some ((t,yw l (no,v,()),()),0,()):=by
 rw[LU (t,l,()) no v (show l.length<=100000 by omega) J];obtain⟨k,m,ap,_⟩:=u_.1 hf;unfold D2
 grind
def ac8:∀k:Nat,k<16->32<=(me k).toNat/\(me k).toNat<=126:=bP
def apE{b:V}{c:UInt8}(h:c∈eW b):32<=c.toNat/\c.toNat<=126:=by
 obtain⟨x,_,ai⟩:=E7.1 h;have hx:=x.toNat_lt;simp at ai;rcases ai with rfl|rfl
 .exact ac8 _ J
 exact ac8 _ J
def apF{b:V}:oa 32 126 (eW b):=by intro i h;have:=apE (mu h);rw[To];omega
def ZS{b:V}(h:b.length=3):gB 48 (eW b)=true:=by unfold gB;rw[ano];refine decide_eq_true ⟨⟨λh=>J,λ_=>apF⟩,?_⟩;rw[nh,h];decide
def A2{t:Int}{l g6:List b0}{v:V}(hl:l.length<=100)(aC:v.length<=1000)(hf:gB no v=true)(bb:yw l (no,v,())=g6):jS ((t,l,()),no,v,())=some ((t,g6,()),0,()):=by rw[<- bb];exact att hl aC hf
def adm{n:N}(ah:i' n):Ds (n,())=some (jE n,()):=by
 obtain⟨jY,c,cH,rs,g,no,k,d,⟨⟩⟩:=n;have gD:=ur.1 ah;obtain⟨ai,bp,ax,eG,gt,sQ,ap⟩:=gD;have ng:0<=c/\c<=301:=by unfold pL at ai;omega
 have KC:qG (cH,6,())=some (dd cH 6,()):=HH (n:=cH) (w:=6) J J J J J;have KF:qG (c,3,())=some (dd c 3,()):=HH (n:=c) (w:=3) J J J J J;have KD:qG (rs,2,())=some (dd rs 2,()):=HH (n:=rs) (w:=2) J J J J J;have f11:=λn=>se (no:=11) (w:=6) (n:=n) Cv J;have f15:=λn=>se (no:=15) (w:=6) (n:=n) Ra J;have f39:=λn=>se (no:=39) (w:=2) (n:=n) K5 J;have f53:=λn=>se (no:=53) (w:=16) (n:=n) ZW J;have f70:=λn=>se (no:=70) (w:=3) (n:=n) Rb J;have len:∀{n:Int} {w:Nat},w<=20->(dd n w).length<=1000:=λh=>by rw[na];omega
 have dT:jS ((810,([]:List b0),()),11,dd cH 6,())=some ((810,[(11,dd cH 6,())],()),0,()):=A2 (l:=[]) bP (len J) (f11 cH) rfl;have ev:jS ((810,[(11,dd cH 6,())],()),70,dd c 3,())=some ((810,[(11,dd cH 6,()),(70,dd c 3,())],()),0,()):=A2 bh (len J) (f70 c) rfl;unfold Ds;cases jY
 .have t3:jS ((810,[(11,dd cH 6,()),(70,dd c 3,())],()),39,dd rs 2,())=some ((810,[(11,dd cH 6,()),(39,dd rs 2,()),(70,dd c 3,())],()),0,()):=A2 bh (len J) (f39 rs) rfl
  simp only[go_sem,KC,KF,KD,dT,ev,t3];rfl
 by_cases O:c=101
 .subst O
  obtain⟨g1,bw,aj,zG,aF⟩:=ap;have amo:qG (g,16,())=some (dd g 16,()):=HH (n:=g) (w:=16) J J J J J;have ex:=Y0 k J;have C1:(eW k).length=6:=by rw[nh,zG]
  have t3:jS ((800,[(11,dd cH 6,()),(70,dd 101 3,())],()),48,eW k,())=some ((800,[(11,dd cH 6,()),(48,eW k,()),(70,dd 101 3,())],()),0,()):=A2 bh J (ZS zG) rfl;have t4:jS ((800,[(11,dd cH 6,()),(48,eW k,()),(70,dd 101 3,())],()),53,dd g 16,())=some ((800,[(11,dd cH 6,()),(48,eW k,()),(53,dd g 16,()),(70,dd 101 3,())],()),0,()):=A2 bh (len J) (f53 g) rfl;have t5:jS ((800,[(11,dd cH 6,()),(48,eW k,()),(53,dd g 16,()),(70,dd 101 3,())],()),96,no,())=some ((800,[(11,dd cH 6,()),(48,eW k,()),(53,dd g 16,()),(70,dd 101 3,()),(96,no,())],()),0,()):=A2 bh J (ZT aj) rfl;simp(disch:=omega) only[go_sem,KC,KF,KD,amo,ex,dT,ev,t3,t4,t5,C1];rfl
 by_cases R:c=201
 .subst R
  rw[if_neg J,if_pos ⟨rfl,rfl⟩]at ap;have QN:qG (d,6,())=some (dd d 6,()):=HH (n:=d) (w:=6) J J J J J;have t3:jS ((800,[(11,dd cH 6,()),(70,dd 201 3,())],()),15,dd d 6,())=some ((800,[(11,dd cH 6,()),(15,dd d 6,()),(70,dd 201 3,())],()),0,()):=A2 bh (len J) (f15 d) rfl;simp(disch:=omega) only[go_sem,KC,KF,KD,QN,dT,ev,t3];rfl
 simp only[go_sem,KC,KF,KD,dT,ev,O,R,cC O,cC R];show _=some (if true=false then _ else if c=101 then _ else if c=201 then _ else _,())
 grind
def yM:=@List.flatMap_cons
def JR:=@Nat.ble_eq_true_of_le
def OZ:=@List.drop_eq_nil_of_le
def O0:=@Nat.le_of_ble_eq_true
def ags:∀{a b:List Int},a.Pairwise (· < ·)->b.Pairwise (· < ·)->(∀n,n∈a↔n∈b)->a=b
 |[],[],_,_,_=>rfl
 |[],y::b,_,_,h=>by have:=(h y).2 bh;cases this
 |x::a,[],_,_,h=>by have:=(h x).1 bh;cases this
 |x::a,y::b,bu,Y,h=>by
  rw[EM]at bu Y;have arg:x=y:=by
   have O:=(h x).1 bh;have R:=(h y).2 bh
   grind
  subst arg;rw[ags bu.2 Y.2 λn => ?_]
  grind
def aeV{l:List Int}:∀{last:Int},h7 last l=true->l.Pairwise (· < ·):=by
 induction l with
 |nil=>intros;exact List.Pairwise.nil
 |cons x r ih =>intro last h;simp only[h7,cL]at h;exact EM.2 ⟨λy hy=>(AO h.2 y hy).1,ih h.2⟩
def avY{l:List Int}:∀{last:Int},l.Pairwise (· < ·)->(∀n∈l,last<n/\n<=128/\n≠65)->h7 last l=true:=by
 induction l with
 |nil=>intros;rfl
 |cons x r ih =>intro last hp h;rw[EM]at hp;simp only[h7,cL,decide_eq_true_eq];refine⟨h x bh,ih hp.2 λn aj=>⟨hp.1 n aj,(h n (by grind)).2⟩⟩
def adr(c:V):((hQ c).map Int.ofNat).Pairwise (· < ·):=by rw[List.pairwise_map];refine List.Pairwise.imp ?_ (List.Pairwise.filter _ List.pairwise_lt_range);simp
def Ao{c:V}:n∈hQ c↔n<=8*c.length/\2<=n/\iA c n=true:=by
 unfold hQ;rw[rZ,ov,cL];constructor
 .rintro⟨O,R,af⟩;exact⟨J,O0 R,af⟩
 rintro⟨O,R,af⟩;exact⟨J,JR R,af⟩
def J'{l:List Int}(h:h7 1 l=true)(O:1<=n)(R:n<=8*(gn l).length):iA (gn l) n=(decide ((n:Int)∈l)||(Nat.beq n 1&&lW l)):=by
 rw[qf]at R;unfold gn;cases bb:lW l
 .rw[bb]at R
  rw[if_neg bh]at R ⊢;rw[Ln O R,Bool.and_false,Jt];rfl
 rw[bb]at R;rw[if_pos rfl]at R ⊢;rw[Ln O R];unfold oV;refine pc.2 ?_;simp
 grind
def atw{l:List Int}(h:h7 1 l=true):(hQ (gn l)).map Int.ofNat=l:=by
 refine ags (adr _) (aeV h) λn => ?_;rw[m1];have hm:=AO h;constructor
 .rintro⟨k,ap,rfl⟩
  obtain⟨O,R,af⟩:=Ao.1 ap;rw[J' h J O]at af;have:Nat.beq k 1=false:=(yP _).mp λY=>by have:=fB Y;omega
  grind
 intro aj;have Y:=hm n aj;refine⟨n.toNat,Ao.2 ⟨?_,J,?_⟩,fv⟩
 .rw[qf]
  split
  .omega
  rename_i bb;have:=Mm h bb n aj;omega
 rw[J' h J (by
  rw[qf];split
  .omega
  rename_i bb;have:=Mm h bb n aj;omega)]
 grind
def Pw(l:List Int):8<=(gn l).length/\(gn l).length<=16:=by rw[qf];split<;>omega
def ajy{l:List Int}(h:h7 1 l=true):iA (gn l) 1=lW l:=by
 rw[J' h J (by have:=Pw l;omega)];have:decide (((1:Nat):Int)∈l)=false:=decide_eq_false λai=>by have:=(AO h _ ai).1;omega
 rw[this];rfl
def ahq{l:List Int}(h:h7 1 l=true):lW l=true↔∃n∈l,64<n:=by
 constructor
 .intro bb
  unfold lW at bb;rw[cL,decide_eq_true_eq,decide_eq_true_eq]at bb;exact⟨_,by rw[nth_get J];exact mu _,bb.2⟩
 rintro⟨n,aj,O⟩;refine k2 λbb => ?_;have:=Mm h bb n aj;omega
def aju{l:List Int}{c q:V}(h:h7 1 l=true)(ai:c=gn l++q):pp c a=(l,a+((gn l).length:Int),0,()):=by
 have cx:=Pw l;have eB:c.length=(gn l).length+q.length:=by rw[ai,cE]
 have ht:c.take (gn l).length=gn l:=by rw[ai,wz]
 have O:iA c 1=lW l:=by rw[<- ajy h,<- ht];exact(aaU J J J).symm
 have aj:=atw h;have dD:=qf l;unfold pp;rw[O];cases bb:lW l
 .grind
 rw[bb,if_pos rfl]at dD;rw[dD]at ht eB ⊢;rw[if_neg J,if_pos rfl,ht,aj,if_neg]
 .rfl
 rintro(apb|hall)
 .have:((65:Nat):Int)∈l:=by rw[<- aj];exact m1.2 ⟨65,apb,rfl⟩
  have:=(AO h _ this).2.2;omega
 obtain⟨n,n1,vq⟩:=(ahq h).1 bb
 grind
def ajw{l:List Int}{b q:V}(h:h7 1 l=true)(dn:A<=b.length)(Y:b.drop A=gn l++q):k8 b A=(l,((A+(gn l).length:Nat):Int),0,()):=by unfold k8;rw[if_neg J,iZ,aju h Y,Int.natCast_add]
def ajv{c:V}{a':Int}{l:List Int}(h:pp c a=(l,a',0,())):h7 1 l=true/\a'=a+((gn l).length:Int)/\(gn l).length<=c.length/\c=gn l++c.drop (gn l).length:=by
 unfold pp at h;by_cases ao:c.length<8\/(iA c 1=true/\c.length<16)
 .grind
 rw[if_neg ao]at h;have L':∀size:Nat,size=8\/size=16->size<=c.length->(iA c 1=true↔size=16)->l=(hQ (c.take size)).map Int.ofNat->(size=16->¬(65∈hQ (c.take 16)\/∀n∈hQ (c.take 16),n<65))->h7 1 l=true/\gn l=c.take size:=by
  intro size ac aqP O hl mK;have tW:(c.take size).length=size:=by rw[hE];omega
  have ah:h7 1 l=true:=by
   rw[hl];refine avY (adr _) λn aj => ?_;obtain⟨k,ap,rfl⟩:=m1.1 aj;obtain⟨bF,b3,dp⟩:=Ao.1 ap
   grind
  have bb:lW l=true↔size=16:=by
   rw[ahq ah,hl];constructor
   .rintro⟨n,aj,O⟩
    obtain⟨k,ap,rfl⟩:=m1.1 aj;obtain⟨bF,_⟩:=Ao.1 ap
    grind
   intro nY;subst nY;refine k2 λai=>mK rfl (.inr λn aj=>k2 λbm=>ai ⟨(n:Int),m1.2 ⟨n,aj,rfl⟩,J⟩)
  refine⟨ah,?_⟩;have dD:(gn l).length=size:=by
   rw[qf]
   grind
  refine ae4 (by rw[dD,tW]) λn vN qE => ?_;rw[J' ah vN qE];rw[hl];by_cases n1:n=1
  .subst n1
   have aF:decide (((1:Nat):Int)∈(hQ (c.take size)).map Int.ofNat)=false:=decide_eq_false λai=>by
    obtain⟨k,ap,re⟩:=m1.1 ai;have:=(Ao.1 ap).2.1
    grind
   rw[aF,aaU J J aqP,<- hl];exact pc.2 (bb.trans O.symm)
  have Y:Nat.beq n 1=false:=(yP _).mp λY=>n1 (fB Y);rw[Y,JI,Jt];refine pc.2 ?_;rw[decide_eq_true_eq,m1];constructor
  .rintro⟨k,ap,re⟩
   have:k=n:=by simp at re;omega
   subst this;exact(Ao.1 ap).2.2
  intro hh;exact⟨n,Ao.2 ⟨by rw[tW];omega,J,hh⟩,rfl⟩
 by_cases O:iA c 1=true
 .rw[if_pos O]at h
  by_cases mK:65∈hQ (c.take 16)\/∀n∈hQ (c.take 16),n<65
  .rw[if_pos mK]at h;simp at h
  rw[if_neg mK]at h;simp at h;have nY:16<=c.length:=by refine k2 λai=>ao (.inr ⟨O,J⟩)
  obtain⟨eG,gt⟩:=L' 16 (.inr rfl) nY (iff_of_true O rfl) h.1.symm (λ_=>mK);have dD:(gn l).length=16:=by rw[gt,hE];omega
  rw[dD];refine⟨eG,h.2.symm,nY,?_⟩;rw[gt,EO]
 rw[if_neg O]at h;simp at h;obtain⟨eG,gt⟩:=L' 8 (.inl rfl) J (iff_of_false O J) h.1.symm (λe=>absurd e J);have dD:(gn l).length=8:=by rw[gt,hE];omega
 rw[dD];refine⟨eG,h.2.symm,J,?_⟩;rw[gt,EO]
def ahz{v:b0}(aK:fM v.1=some (k,l))(aC:g2 k l v.2.1):hR v=kY k v.2.1:=by unfold hR rQ;rw[aK];simp only[if_pos aC]
def avn{v:b0}{b q:V}(hf:gB v.1 v.2.1=true)(dn:A<=b.length)(h:b.drop A=hR v++q):jn v.1 b A=(v.2.1,((A+(hR v).length:Nat):Int),0,()):=by obtain⟨k,l,aK,aC⟩:=u_.1 hf;rw[ahz aK aC]at h ⊢;unfold jn;rw[aK];exact avp aK dn aC h
def avo{v b:V}{I:Int}(dn:A<=b.length)(h:jn no b A=(v,I,0,())):gB no v=true/\I=((A+(hR (no,v,())).length:Nat):Int)/\A+(hR (no,v,())).length<=b.length/\b.drop A=hR (no,v,())++b.drop (A+(hR (no,v,())).length):=by
 cases aK:fM no with
 |none=>unfold jn at h;rw[aK]at h;simp at h
 |some p=>
  obtain⟨k,l⟩:=p;have bL:xZ k l b A=(v,I,0,()):=by unfold jn at h;rw[aK]at h;exact h
  obtain⟨bD,cn,gJ,Ae⟩:=avq aK dn bL;rw[ahz (v:=(no,v,())) aK bD];exact⟨u_.2 ⟨k,l,aK,bD⟩,cn,gJ,Ae⟩
def aeG{b:V}:∀{l:List b0} {A:Nat} {F:List b0} {q:V},(∀v∈l,gB v.1 v.2.1=true)->A<=b.length->b.drop A=l.flatMap hR++q->pT b (iE l) A F=(none,((A+(l.flatMap hR).length:Nat):Int),F++l)
 |[],A,F,q,_,_,_=>by simp[pT,iE]
 |v::r,A,F,q,hf,dn,h=>by rw[yM,gv]at h;have O:=avn (hf v bh) dn h;have R:=Cj dn h;simp only[iE,pi,pT];rw[O];have:=aeG (F:=F++[(v.1,v.2.1,())]) (λu aL=>hf u (by grind)) R.1 R.2;rw[show r.map (λv=>v.1)=iE r from rfl,this,yM,cE,ju];simp
def aeH{b:V}:∀{Mp:List Int} {A:Nat} {F wo:List b0} {a':Int},A<=b.length->pT b Mp A F=(none,a',wo)->∃l:List b0,wo=F++l/\iE l=Mp/\(∀v∈l,gB v.1 v.2.1=true)/\a'=((A+(l.flatMap hR).length:Nat):Int)/\A+(l.flatMap hR).length<=b.length/\b.drop A=l.flatMap hR++b.drop (A+(l.flatMap hR).length)
 |[],A,F,wo,a',dn,h=>by obtain⟨rfl,rfl⟩:=h;exact⟨[],bh,rfl,bh,bh,by simpa using dn,bh⟩
 |n::r,A,F,wo,a',dn,h=>by
  simp only[pT]at h;by_cases ao:(jn n b A).2.2.1=0
  .rw[if_pos ao]at h
   rcases hx:jn n b A with⟨v,I,e,u⟩;rw[hx]at ao h;subst ao;obtain⟨bD,cn,gJ,Ae⟩:=avo dn hx;subst cn;obtain⟨l,eX,f8,oR,z_,Hk,C'⟩:=aeH gJ h;refine⟨(n,v,())::l,by rw[eX];simp,by simp only[iE];rw[<- f8];rfl,λw bb => ?_,?_,?_,?_⟩
   .grind
   .grind
   .grind
   grind
  grind
def avV{l:List b0}:∀{last:Int},h7 last (iE l)=true->(∀v∈l,gB v.1 v.2.1=true)->fF last l=true:=by
 induction l with
 |nil=>intros;rfl
 |cons x r ih =>intro last h hf;simp only[iE,pi,h7,cL,decide_eq_true_eq]at h;simp only[fF,cL,decide_eq_true_eq];exact⟨h.1.1,hf x bh,ih h.2 λv aC=>hf v (by grind)⟩
def avW{l:List b0}{acw:Int}(hl:acw<=last)(h:fF last l=true):fF acw l=true:=by
 cases l with
 |nil=>rfl
 |cons x r=>
  simp only[fF,cL,decide_eq_true_eq]at h ⊢
  grind
def aeF{b:V}:∀{Mp:List Int} {A:Int} {F wo:List b0} {a' e:Int},pT b Mp A F=(some e,a',wo)->¬e=0
 |[],A,F,wo,a',e,h=>by simp[pT]at h
 |n::r,A,F,wo,a',e,h=>by
  simp only[pT]at h;by_cases ao:(jn n b A).2.2.1=0
  .rw[if_pos ao]at h;exact aeF h
  rw[if_neg ao]at h;simp only[kH,km]at h;rw[<- h.1];exact ao
def ayg(h:ig m):val (aZ 10 dI m.toNat 4)=m.toNat:=by unfold ig at h;rw[N2,lY J]
def axE{b q:V}(h:ig m)(Y:b=rK m++q):iX b 0 4=(aZ 10 dI m.toNat 4,2,0,()):=by have:=Vt (b:=b) (s:=aZ 10 dI m.toNat 4) (q:=q) (I:=0) (fK _) (by rw[lm];omega) zl Y;rw[lm]at this;exact this
def arV{l:List b0}(h:∀v∈l,gB v.1 v.2.1=true):∀n∈iE l,(fM n).isSome=true:=by
 intro n aj;obtain⟨v,aC,rfl⟩:=m1.1 aj;obtain⟨k,l,aK,_⟩:=u_.1 (h v aC)
 grind
def pV{m:M}:jI m=true↔fF 0 m.2.1=true/\ig m.1:=by unfold jI;rw[cL,decide_eq_true_eq]
def avs{m:M}{q:V}(h:jI m=true):fy (gO m++q)=if q=[]then(m,0,()) else(lP,4,()):=by
 obtain⟨dW,ht⟩:=pV.1 h;have hK:=λv aC=>(v6 dW v aC).2;have hL:=Uu dW;have e:gO m++q=rK m.1++(gn (iE m.2.1)++(m.2.1.flatMap hR++q)):=by unfold gO;simp
 generalize Y:gO m++q=b at *
 have aq:=axE ht e;have tW:=Bf (m:=m.1);have aF:=Cj (b:=b) (A:=0) (fK _) e;rw[ tW]at aF;have ah:=ajw hL aF.1 aF.2;have xj:=Cj aF.1 aF.2;have qs:=aeG (F:=[]) hK xj.1 xj.2;have azi:=Cj xj.1 xj.2;unfold fy;rw[aq,if_neg bh];rw[ayg ht,Int.toNat_of_nonneg (by unfold ig at ht;omega),if_pos ht];replace ah:k8 b 2=_:=ah;rw[ah,if_neg bh];unfold DN;rw[if_pos (arV hK),qs]
 grind
def MR{b:V}{m:M}(h:fy b=(m,0,())):jI m=true/\gO m=b:=by
 unfold fy at h;by_cases ao:(iX b 0 4).2.2.1≠0
 .grind
 rw[if_neg ao]at h;rcases A_ (b:=b) (I:=0) (N:=4) (fK _) J with⟨_,e⟩|⟨_,e,_⟩|⟨s,aq,e,hf,ac,xo⟩
 .grind
 .grind
 replace e:iX b 0 4=(s,2,0,()):=e;rw[e]at h;by_cases ht:ig (val s:Int)
 .rw[if_pos ht]at h
  have SE:rK (val s:Int)=f' (er s):=by unfold rK;rw[iZ,<- ac,aen hf]
  have aF:b.drop 0=rK (val s:Int)++b.drop 2:=by rw[SE];exact KB xo
  rw[nD]at aF;by_cases bj:(k8 b 2).2.2.1≠0
  .grind
  rw[if_neg bj]at h;rcases hx:k8 b 2 with⟨l,a',FQ,u⟩;rw[hx]at h bj;simp at bj h;subst bj;have cv:pp (b.drop 2) 2=(l,a',0,()):=by unfold k8 at hx;rw[if_neg J]at hx;exact hx
  obtain⟨c1,c2,hw,c4⟩:=ajv cv;rw[fb]at hw;rw[qY]at c4;unfold DN at h;by_cases aK:∀n∈l,(fM n).isSome=true
  .rw[if_pos aK]at h
   have RQ:a'=((2+(gn l).length:Nat):Int):=J;rw[RQ]at h;rcases qs:pT b l ((2+(gn l).length:Nat):Int) []with⟨_|FQ,cQ,F⟩
   .rw[qs]at h
    simp only at h;obtain⟨L,eX,f8,oR,z_,Hk,C'⟩:=aeH J qs;by_cases bm:cQ<(b.length:Int)
    .rw[if_pos bm]at h;simp at h
    rw[if_neg bm]at h;simp at h;subst eX;have f7:b.drop (2+(gn l).length+(F.flatMap hR).length)=[]:=OZ J;rw[f7,hF]at C';rw[<- h];refine⟨pV.2 ⟨avW J (avV (last:=1) (by rw[f8];exact c1) oR),ht⟩,?_⟩;unfold gO;rw[f8,<- C',<- c4,<- aF]
   rw[qs]at h;simp at h;exact absurd h.2 (aeF qs)
  rw[if_neg aK]at h;simp at h
 rw[if_neg ht]at h;simp at h
def avr{b:V}:(fy b).2.1=0\/(fy b).1=lP:=by
 unfold fy;by_cases ao:(iX b 0 4).2.2.1≠0
 .grind
 by_cases ht:ig (val (iX b 0 4).1:Int)
 .rw[if_pos ht]
  by_cases bj:(k8 b 2).2.2.1≠0
  .grind
  unfold DN
  grind
 grind
def JP:=@List.filter_eq_nil_iff
def nW(m:M):Prop:=m.2.1.length<=40/\∀v∈m.2.1,v.2.1.length<=450
def nW.w9{m:M}(h:nW m):w9 m:=⟨by have:=h.1;omega,λv aC=>by have:=h.2 v aC;omega⟩
def avt{b:V}:(fy b).1.2.1.length<=1000:=by
 rcases avr (b:=b) with h|h
 .rcases hx:fy b with⟨m,e,u⟩
  rw[hx]at h;subst h;have ah:=(pV.1 (MR hx).1).1;have hL:=Uu ah;have ac:=aeV hL;have hm:=AO hL;have cq:(iE m.2.1).length<=128:=by
   have key:∀(l:List Int) (lo:Int),l.Pairwise (· < ·)->(∀n∈l,lo<n/\n<=128)->(l.length:Int)<=128-lo\/l=[]:=by
    intro l;induction l with
    |nil=>intros;exact .inr rfl
    |cons x r ih=>
     intro lo hp h;rw[EM]at hp;have hx:=h x bh;rcases ih x hp.2 (λn aj=>⟨hp.1 n aj,(h n (by grind)).2⟩) with O|O
     .grind
     grind
   rcases key _ 1 ac (λn aj=>⟨(hm n aj).1,(hm n aj).2.1⟩) with O|O
   .omega
   grind
  simp only[iE,ou]at cq
  grind
 rw[h];simp[lP]
def avT{l:List b0}(h:fF last l=true):∀v∈l,last<v.1:=λv aC=>(v6 h v aC).1
def anU{l:List b0}(hl:no<=last)(h:fF last l=true):hI no l=([],false,()):=by
 induction l generalizing last with
 |nil=>rfl
 |cons v r ih=>
  simp only[fF,cL,decide_eq_true_eq]at h;unfold hI
  grind
def Rn{l:List b0}:∀{last:Int},fF last l=true->getD l no=hI no l:=by
 induction l with
 |nil=>intros;rfl
 |cons v r ih=>
  intro last h;simp only[fF,cL]at h;unfold hI;by_cases ai:no<=v.1
  .have ao:ge no (v::r)=0:=by unfold ge;rw[if_pos ai]
   have O:jQ no (v::r)=decide (v.1=no):=by unfold jQ;rw[if_pos ai]
   unfold getD;rw[ao,O];by_cases aA:v.1=no
   .rw[if_pos aA,decide_eq_true aA];rfl
   rw[if_neg aA,decide_eq_false aA,if_neg bh,anU J h.2.2]
  have ao:ge no (v::r)=ge no r+1:=by conv=>{ lhs;unfold ge };rw[if_neg ai]
  have O:jQ no (v::r)=jQ no r:=by conv=>{ lhs;unfold jQ };rw[if_neg ai]
  rw[if_neg J,<- ih h.2.2];unfold getD;rw[ao,O];rfl
def ZH{l:List b0}(hl:no<=last)(h:fF last l=true):l.filter (λv=>decide (v.1<no))=[]/\l.filter (λv=>decide (no<v.1))=l/\l.filter (λv=>!(decide (v.1=no)))=l:=by have hg:=avT h;refine⟨JP.2 λv aC => ?_,List.filter_eq_self.2 λv aC => ?_,List.filter_eq_self.2 λv aC => ?_⟩<;>have:=hg v aC<;>simp<;>omega
def ayr{l:List b0}{x:b0}:∀{last:Int},fF last l=true->yw l x=v_ l x:=by
 induction l with
 |nil=>intros;rfl
 |cons v r ih=>
  intro last h;simp only[fF,cL]at h;by_cases ai:x.1<=v.1
  .have ao:ge x.1 (v::r)=0:=by unfold ge;rw[if_pos ai]
   have O:jQ x.1 (v::r)=decide (v.1=x.1):=by unfold jQ;rw[if_pos ai]
   obtain⟨f1,f2,_⟩:=ZH (no:=x.1) ai h.2.2;unfold yw v_
   grind
  have ao:ge x.1 (v::r)=ge x.1 r+1:=by conv=>{ lhs;unfold ge };rw[if_neg ai]
  have O:jQ x.1 (v::r)=jQ x.1 r:=by conv=>{ lhs;unfold jQ };rw[if_neg ai]
  have ah:=ih h.2.2;unfold yw v_ at ah ⊢
  grind
def aeI{m:M}(ah:jI m=true):fy (gO m)=(m,0,()):=by have:=avs (q:=[]) ah;rw[hF]at this;exact this
end Yp