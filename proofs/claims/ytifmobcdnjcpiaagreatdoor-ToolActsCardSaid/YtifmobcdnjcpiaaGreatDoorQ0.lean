/- A part of the proof of the statements of this seat: plain functions, and laws on them. No condition of its own. -/
import Derived.Test.YtifmobcdnjcpiaaGreatDoorE2
import Derived.Lib.LaidTab
import Derived.MakeChecks
import Derived.KernelRfl
import Derived.Test.YtifmobcdnjcpiaaGreatDoorProg
import Derived.WalkKit
import Derived.RangeFuncBox
import Derived.RangeFuncLeaves
import Derived.Shelf.Abstract
import Derived.OwnWalkIn
import Derived.TacticsInMore
import Derived.LoopNIn
import Derived.LoopIn
import Derived.Maps.AppendAt
set_option linter.unusedVariables false
set_option linter.unusedSimpArgs false
set_option linter.defProp false
noncomputable section
open Go Yp
variable {U c:Bool}{a b k l last m no:Int}{A I W bc f i n size w:Nat}{α β ρ σ:Type}
namespace Yp
def iL{p:Prop}(h:p:=by decide +kernel):p:=h
def cN{p:Prop}(h:p:=by simp only[go_sem];omega):p:=h
def jP{p:Prop}(h:p:=by simp(disch:=first|assumption|omega|(dsimp only;omega)|decide) only[go_sem,Int.reduceToNat];omega):p:=h
end Yp
namespace Yp
abbrev V:=List UInt8
abbrev aV:=Bool×Unit
abbrev cw:=V×Int×Unit
abbrev mn:=(Int×List (Int×V×Unit)×Unit)×Int×Unit
abbrev eH:=Bool×Int×Unit
abbrev co:=V×Unit
abbrev c9:=Int×Unit
abbrev fU:=Int×Int×Unit
abbrev yj:=(Bool×Int×Int×Int×Int×V×V×Int×Unit)×Unit
abbrev rI:=(List UInt32×Int×V×Unit)×Unit
abbrev iZ:=Int×Bool×Unit
abbrev wc:=(Int×List (Int×V×Unit)×Unit)×Unit
abbrev iG:=Int×V×Unit
abbrev qQ:=List (Int×V×Unit)×Unit
abbrev Bd:=List (Int×List Int×Int×V×Unit)×Unit
abbrev wd:=List (Int×Int×V×Unit)×Unit
abbrev Bg:=(Int×List UInt64×Unit)×Int×Unit
abbrev I8:=Int×Int×List (Int×Int×V×Unit)×Unit
abbrev Ev:=Int×(Int×List UInt64×Unit)×Unit
abbrev oi:=V×Bool×Unit
abbrev Bh:=(Int×Int×Unit)×Bool×Unit
abbrev s6:=V×Int×Int×Unit
abbrev Ex:=List (Int×V×Unit)×Int×Unit
abbrev VO:=(Bool×Int×Int×Int×Int×V×V×Int×Unit)×Int×Unit
abbrev we:=Int×List UInt32×Unit
abbrev I_:=(Int×List UInt64×Unit)×Unit
abbrev Ey:=V×Int×Int×Nat×Unit
abbrev rH:=List Int×Unit
abbrev A?:= Bool×Int×Int×Unit
abbrev Ba:=Int×V×Int×Unit
abbrev Vm:=List V×V×(V×Int×Int×Unit)×Unit
abbrev Vn:=(List (Int×V×Unit)×Nat×Unit)×Unit
abbrev s3:=List V×Unit
abbrev Vo:=V×(List UInt32×Int×V×Unit)×Unit
abbrev agT:=Int×Int×Int×(Int×List (Int×V×Unit)×Unit)×Unit
abbrev Ej:=Int×Int×Int×Unit
abbrev Vp:=(V×Int×Int×Unit)×List V×Unit
abbrev s4:=UInt32×Unit
abbrev IX:=List UInt32×Int×Unit
abbrev IY:=Int×Int×V×Unit
abbrev IZ:=List V×Int×Unit
abbrev Vq:=Int×Int×Int×Nat×Unit
abbrev Vr:=List (V×V×Unit)×Unit
abbrev Vs:=Int×Int×Nat×V×Unit
abbrev Ek:=V×V×Unit
abbrev Vt:=V×Int×List V×Unit
abbrev agU:=(V×V×Unit)×Int×Int×Unit
abbrev Vu:=(Int×V×Unit)×Unit
abbrev Vv:=Int×Bool×Int×Unit
abbrev Vw:=V×List UInt32×Unit
abbrev Vx:=(V×V×Unit)×Unit
abbrev Vy:=Int×Int×Bool×Unit
abbrev Vz:=List Int×Int×Unit
abbrev Vh:=UInt8×Bool×Unit
abbrev Vi:=Int×UInt64×Unit
abbrev IW:=UInt8×Unit
abbrev Vj:=Int×UInt8×Unit
abbrev Vk:=UInt8×Int×Unit
abbrev Vl:=List UInt32×Unit
end Yp
namespace Yp
open Go
set_option maxRecDepth 100000
def aiQ{a b:Bool}(O:a=true)(R:b=true):(a&&b)=true:=by rw[O,R];rfl
def acz : List (String × DataW Unit) := [("yett/sha.keys", Lib.tabData .u32 ((pL : List UInt32).map aS))]
def S6:(pL:List UInt32).length=64:=by kernel_rfl
def aso {P : Program} {W : World} {g t e : Nat} (hg : P.globalNamed "yett/sha.keys" = some g) (SK : (P.globals[g]?).map (·.type) = some t) (ht : P.underlying t = some (.array 64 e)) (aA : P.underlying e = some (.int .u32)) (abb : P.cellsOf e = 1) (apx : P.cellsOf t = 64)
  {laid:List (String×DataW Unit)} (hl:laid=acz) (h:laidMetH P laid W):lM P (full W):=by
 subst hl;have bL:laidMet P acz W:=by exact h
 have hT : Lib.TabIs P W "yett/sha.keys" .u32 ((pL : List UInt32).map aS) := Lib.tabIs_of_head (rest := []) hg SK ht aA abb apx bL
 intro i1 Sd;obtain rfl:g=i1:=lZ (hg.symm.trans Sd);unfold Lib.TabIs World.var? at hT;rw[hg]at hT;simp at hT;split at hT
 .rename_i cs el fz hcell
  have lK:cs=(((pL:List UInt32).map aS).map λz=>Value.int .u32 z).toArray:=lZ hT;have cr:cs.size=64:=by rw[lK];simp[S6]
  refine aH.ic.2 ⟨some ⟨g,0,none⟩,1,rfl,bU _,bP,.inr ⟨g,0,cs,el,fz,rfl,hcell,by show 0+1*64<=cs.size;omega,?_⟩⟩;intro i x hi;have:i=0/\x=(pL:List (bH .u32)):=by
   grind
  obtain⟨rfl,rfl⟩:=this;have ac:cH cs (0+0*(ae.ar 64 (.int .u32)).size) (ae.ar 64 (.int .u32)).size=((pL:List UInt32).map aS).map λz=>Value.int .u32 z:=by rw[lK];rfl
  rw[ac];refine aH.u0.2 ⟨S6,by simp[S6,ae.size],?_⟩;intro j y an;have l_:(pL:List UInt32)[j]?=some y:=an;show(List.drop (j*1) _).take 1=_;obtain⟨bm,rfl⟩:=mt.1 l_;rw[m2 (by grind)];simp[bH.to]
 cases hT
end Yp
namespace Yp
open Go
set_option maxRecDepth 100000
def ast{P:Program}{a:String×DataW Unit}{l:List (String×DataW Unit)}{W:World}(h:laidMet P (a::l) W):laidMet P l W:=by obtain⟨aZ,⟨_,_,_,_,p,q,_,_,_,_,a2,rfl⟩,aj,ai⟩:=h;exact⟨q,a2,(rZ.1 aj).2.1,λb off hm=>ai b off (io.2 (.inr hm))⟩
def ass{P:Program}{a:String×DataW Unit}{l:List (String×DataW Unit)}{W:World}(h:laidMet P (a::l) W):laidMet P [a] W:=by
 obtain⟨aZ,⟨g,t,cs,gC,p,q,O,R,af,aq,a2,rfl⟩,aj,ai⟩:=h;refine⟨_,⟨g,t,cs,gC,p,[],O,R,af,aq,rfl,rfl⟩,?_,λb off hm=>ai b off (io.2 (.inl ?_))⟩
 .rw[hF];exact(rZ.1 aj).1
 rw[hF]at hm;exact hm
def asr{P:Program}{a b:String×DataW Unit}{l:List (String×DataW Unit)}{W:World}(bu:((a::b::l).all λx=>x.2.handleName?.isNone)=true)(Y:([b].all λx=>x.2.handleName?.isNone)=true)(h:laidMetH P (a::b::l) W):laidMetH P [b] W:=by rw[MakeChecks.laidMetH_plain P _ W bu]at h;rw[MakeChecks.laidMetH_plain P _ W Y];exact ass (ast h)
def mD(x:fU):Option (cw):=letI b:=x.2.1;letI c:=some (true,());ob (T (aJ b 1) c (T (aJ 18 b) c (some (aJ x.1 0,())))) λ(a:aV)=>T a.1 (some (aO UInt8,1,())) (am (cZ (ca 0 b b) (cB 1 (aa b))) (ci (bN (λ(x:IY)=>letI d:=x.2.1;T (bE 0 d) (am (aU (dh x.1 10) (len [48,49,50,51,52,53,54,55,56,57,97,98,99,100,101,102])) (am (aU d (len x.2.2.1)) (some (aE.nx (i64 (fe x.1 10),i64 (bi d 1),cj x.2.2.1 (aa d) (ak [48,49,50,51,52,53,54,55,56,57,97,98,99,100,101,102] (aa (dh x.1 10)) (u8 0)),()))))) (some (aE.ex 0 (x.1,d,x.2.2.1,())))) (x.1,i64 (bi b 1),bO (aa b) (u8 0),())) (λ(a:IY)=>none) (λ(i:Nat) (a:IY)=>am (bZ i 0) (T (aJ 0 a.1) (some (aO UInt8,1,())) (some (a.2.2.1,0,())))) λ(r:cw)=>some r))
def r_(x:c9):Option (iZ):=ob (T (bE 48 x.1) (some (i64 (G' (bi x.1 48)),bE x.1 57,())) (some (i64 (G' (bi x.1 48)),false,()))) λ(a:iZ)=>some (a.1,a.2.1,())
def r9(x:co):Option (fU):=ob (T (aJ (len x.1) 1) (some (true,())) (some (aJ 18 (len x.1),()))) λ(a:aV)=>T a.1 (some (0,2,())) (ci (bN (λ(ab:Vq)=>letI b:=ab.2.2.2.1;T (i7 b (aT x.1)) (ob (r_ (bf (gA x.1 b).1,())) λ(a:iZ)=>T (a_ a.2.1) (some (aE.rt (0,2,()))) (some (aE.nx (ab.1,ab.2.1,i64 (av (i64 (e_ 10 ab.2.2.1)) a.1),bQ b (gA x.1 b).2,())))) (some (aE.ex 0 (ab.1,ab.2.1,ab.2.2.1,b,())))) (0,0,0,0,())) (λ(a:Vq)=>none) (λ(i:Nat) (a:Vq)=>am (bZ i 0) (some (a.2.2.1,0,()))) λ(r:fU)=>some r)
def tE(x:co):Option (cw):=letI b:=i64 (fe (i64 (av (len x.1) 1)) 2);am (cZ (ca 0 b b) (cB 1 (aa b))) (ci (bN (λ(ab:Vs)=>letI c:=i64 (fe ab.2.1 2);letI d:=ab.2.2;letI e:=aU c (len d.2.1);T (i7 d.1 (aT x.1)) (ob (r_ (bf (gA x.1 d.1).1,())) λ(a:iZ)=>T (a_ a.2.1) (some (aE.rt (aO UInt8,2,()))) (am e (am e (some (aE.nx (ab.1,i64 (av ab.2.1 1),bQ d.1 (gA x.1 d.1).2,cj d.2.1 (aa c) (u8 (gM IntKind.u8 (aI (u8 (ho IntKind.u8 (aI (ak d.2.1 (aa c) (u8 0))) (cD (u64 4))))) (aI (u8 a.1)))),())))))) (some (aE.ex 0 (ab.1,ab.2.1,d.1,d.2.1,())))) (0,dh (len x.1) 2,0,bO (aa b) (u8 0),())) (λ(a:Vs)=>none) (λ(i:Nat) (a:Vs)=>am (bZ i 0) (some (a.2.2.2.1,0,()))) λ(r:cw)=>some r)
def M0(x:Ek):Option (aV):=some (seq x.1 x.2.1,())
def Cm(x:co):Option (co):=letI e:=len x.1;letI g:=i64 (e_ 2 e);am (cZ (ca 0 0 g) (cB 1 (aa g))) (ci (bN (λ(ab:cw)=>letI f:=ab.2.1;letI b:=aI (ak x.1 (aa f) (u8 0));letI c:=aI (u8 (fp IntKind.u8 b (cD (u64 4))));letI d:=aI (u8 (iI IntKind.u8 b (aI (u8 15))));T (aJ f e) (am (aU f e) (am (aU c (len [48,49,50,51,52,53,54,55,56,57,97,98,99,100,101,102])) (am (aU d (len [48,49,50,51,52,53,54,55,56,57,97,98,99,100,101,102])) (am (cB 1 (bQ (aT ab.1) (aT [ak [48,49,50,51,52,53,54,55,56,57,97,98,99,100,101,102] (aa c) (u8 0),ak [48,49,50,51,52,53,54,55,56,57,97,98,99,100,101,102] (aa d) (u8 0)]))) (some (aE.nx (bv ab.1 [ak [48,49,50,51,52,53,54,55,56,57,97,98,99,100,101,102] (aa c) (u8 0),ak [48,49,50,51,52,53,54,55,56,57,97,98,99,100,101,102] (aa d) (u8 0)],i64 (av f 1),()))))))) (some (aE.ex 0 (ab.1,f,())))) (bO (aa 0) (u8 0),0,())) (λ(a:cw)=>none) (λ(i:Nat) (a:cw)=>am (bZ i 0) (some (a.1,()))) λ(r:co)=>some r)
def w3(x:s6):Option (s6):=letI l:=x.2.2.1;letI k:=x.2.1;letI f:=i64 (fe (i64 (av l 1)) 2);letI c:Option (aE Ey s6):=some (aE.rt (aO UInt8,0,2,()));letI b:Option aV:=some (true,());letI d:=av k f;letI m:=len x.1;ob (T (aJ l 0) b (T (aJ 999 l) b (T (aJ k 0) b (some (aJ m k,()))))) λ(a:aV)=>T a.1 (some (aO UInt8,0,1,())) (T (aJ (i64 (bi m k)) f) (some (aO UInt8,0,3,())) (am (ca k (i64 d) m) (ob (Cm (sub x.1 k (i64 d),())) λ(a:co)=>letI e:=len a.1;letI j:=sub a.1 1 e;T (ag (dh l 2) 1) (am (aU 0 e) (T (a_ (ag (aI (ak a.1 (aa 0) (u8 0))) (aI (u8 48)))) (some (aO UInt8,0,2,())) (am (ca 1 e e) (ci (bN (λ(x:Ey)=>letI g:=x.2.2.2.1;T (i7 g (aT j)) (ob (r_ (bf (gA j g).1,())) λ(a6:iZ)=>T (a_ a6.2.1) c (some (aE.nx (x.1,x.2.1,x.2.2.1,bQ g (gA j g).2,())))) (some (aE.ex 0 (x.1,x.2.1,x.2.2.1,g,())))) (aO UInt8,0,0,0,())) (λ(a:Ey)=>none) (λ(i:Nat) (a6:Ey)=>am (bZ i 0) (some (sub a.1 1 e,i64 d,0,()))) λ(r:s6)=>some r)))) (ci (bN (λ(x:Ey)=>letI h:=x.2.2.2.1;T (i7 h (aT a.1)) (ob (r_ (bf (gA a.1 h).1,())) λ(a6:iZ)=>T (a_ a6.2.1) c (some (aE.nx (x.1,x.2.1,x.2.2.1,bQ h (gA a.1 h).2,())))) (some (aE.ex 0 (x.1,x.2.1,x.2.2.1,h,())))) (aO UInt8,0,0,0,())) (λ(a:Ey)=>none) (λ(i:Nat) (a6:Ey)=>am (bZ i 0) (some (a.1,i64 d,0,()))) λ(r:s6)=>some r))))
def la(x:s6):Option (Ej):=letI e:=x.2.2.1;letI d:=x.2.1;letI h:=av d e;letI b:Option aV:=some (true,());letI c:=sub x.1 d (i64 h);letI f:=len x.1;ob (T (aJ e 1) b (T (aJ 8 e) b (T (aJ d 0) b (some (aJ f d,()))))) λ(a:aV)=>T a.1 (some (0,0,1,())) (T (aJ (i64 (bi f d)) e) (some (0,0,3,())) (ob (T (ag e 8) (am (aU d f) (some (aJ (aI (u8 127)) (aI (ak x.1 (aa d) (u8 0))),()))) (some (false,()))) λ(a:aV)=>T a.1 (some (0,0,2,())) (am (ca d (i64 h) f) (ci (bN (λ(ab:fU)=>letI g:=ab.2.1;T (aJ g (len c)) (am (aU g (len c)) (some (aE.nx (i64 (gM IntKind.i64 (i64 (ho IntKind.i64 ab.1 (cD (u64 8)))) (i64 (aI (ak c (aa g) (u8 0))))),i64 (av g 1),())))) (some (aE.ex 1 (ab.1,g,())))) (0,0,())) (λ(a:fU)=>none) (λ(i:Nat) (a:fU)=>am (bZ i 1) (some (a.1,i64 h,0,()))) λ(r:Ej)=>some r))))
def pw(x:fU):Option (cw):=letI b:Option aV:=some (true,());letI c:=x.2.1;letI f:=i64 (e_ 8 c);ob (T (aJ c 1) b (T (aJ 8 c) b (T (aJ x.1 0) b (T (aJ c 8) (am (bE 0 f) (some (aJ 0 (fp IntKind.i64 x.1 f),()))) (some (false,())))))) λ(a:aV)=>T a.1 (some (aO UInt8,1,())) (am (cZ (ca 0 c c) (cB 1 (aa c))) (ci (bN (λ(ab:iG)=>letI d:=i64 (bi (i64 (bi c 1)) ab.1);letI e:=i64 (e_ 8 ab.1);T (aJ ab.1 (len (bO (aa c) (u8 0)))) (am (bE 0 e) (am (aU d (len ab.2.1)) (some (aE.nx (i64 (av ab.1 1),cj ab.2.1 (aa d) (u8 (fp IntKind.i64 x.1 e)),()))))) (some (aE.ex 0 (ab.1,ab.2.1,())))) (0,bO (aa c) (u8 0),())) (λ(a:iG)=>none) (λ(i:Nat) (a:iG)=>am (bZ i 0) (some (a.2.1,0,()))) λ(r:cw)=>some r))
def KF(x:IW):Option (Vh):=letI b:=aI x.1;letI c:=some (false,());ob (T (bE (aI (u8 48)) b) (some (bE b (aI (u8 57)),())) c) λ(a:aV)=>T a.1 (some (u8 (bi b (aI (u8 48))),true,())) (ob (T (bE (aI (u8 97)) b) (some (bE b (aI (u8 102)),())) c) λ(a:aV)=>T a.1 (some (u8 (av (aI (u8 (bi b (aI (u8 97))))) (aI (u8 10))),true,())) (some (u8 0,false,())))
def Cn(x:co):Option (cw):=letI d:=len x.1;letI e:=i64 (fe d 2);T (ag (dh d 2) 1) (some (aO UInt8,2,())) (am (cZ (ca 0 0 e) (cB 1 (aa e))) (ci (bN (λ(ab:Ba)=>letI c:=ab.2.2.1;letI f:=i64 (av c 1);T (aJ c d) (am (aU c d) (ob (KF (ak x.1 (aa c) (u8 0),())) λ(a:Vh)=>am (aU f d) (ob (KF (ak x.1 (aa f) (u8 0),())) λ(a6:Vh)=>letI b:=gM IntKind.u8 (aI (u8 (ho IntKind.u8 (aI a.1) (cD (u64 4))))) (aI a6.1);ob (T (a_ a.2.1) (some (true,())) (some (a_ a6.2.1,()))) λ(bR:aV)=>T bR.1 (some (aE.rt (aO UInt8,2,()))) (am (cB 1 (bQ (aT ab.2.1) (aT [u8 b]))) (some (aE.nx (ab.1,bv ab.2.1 [u8 b],i64 (av c 2),()))))))) (some (aE.ex 0 (ab.1,ab.2.1,c,())))) (0,bO (aa 0) (u8 0),0,())) (λ(a:Ba)=>none) (λ(i:Nat) (a:Ba)=>am (bZ i 0) (some (a.2.1,0,()))) λ(r:cw)=>some r))
def H9(x:fU):Option (c9):=ci (bN (λ(ab:fU)=>T (aJ ab.2.1 x.2.1) (some (aE.nx (i64 (e_ ab.1 x.1),i64 (av ab.2.1 1),()))) (some (aE.ex 0 (ab.1,ab.2.1,())))) (1,0,())) (λ(a:fU)=>none) (λ(i:Nat) (a:fU)=>am (bZ i 0) (some (a.1,()))) λ(r:c9)=>some r
def MZ(x:fU):Option (cw):=letI b:Option aV:=some (true,());ob (T (aJ x.2.1 1) b (T (aJ 18 x.2.1) b (T (aJ x.1 0) b (ob (H9 (10,x.2.1,())) λ(a:c9)=>some (bE a.1 x.1,()))))) λ(a:aV)=>T a.1 (some (aO UInt8,1,())) (ci (bN (λ(ab:cw)=>letI d:=ab.2.1;T (bE 0 d) (ob (H9 (10,d,())) λ(a:c9)=>letI c:=i64 (av 48 (dh (i64 (fe x.1 a.1)) 10));am (a_ (ag a.1 0)) (am (cB 1 (bQ (aT ab.1) (aT [u8 c]))) (some (aE.nx (bv ab.1 [u8 c],i64 (bi d 1),()))))) (some (aE.ex 0 (ab.1,d,())))) (aO UInt8,i64 (bi x.2.1 1),())) (λ(a:cw)=>none) (λ(i:Nat) (a:cw)=>am (bZ i 0) (some (a.1,0,()))) λ(r:cw)=>some r)
def Us(x:co):Option (aV):=letI d:=len x.1;letI e:=some (true,());ci (bN (λ(ab:eH)=>letI c:=ab.2.1;letI b:=aI (ak x.1 (aa c) (u8 0));T (aJ c d) (am (aU c d) (ob (T (aJ b (aI (u8 48))) e (am (aU c d) (some (aJ (aI (u8 57)) b,())))) λ(a:aV)=>T a.1 (some (aE.rt (false,()))) (some (aE.nx (ab.1,i64 (av c 1),()))))) (some (aE.ex 0 (ab.1,c,())))) (false,0,())) (λ(a:eH)=>none) (λ(i:Nat) (a:eH)=>am (bZ i 0) e) λ(r:aV)=>some r
def Ur(x:co):Option (cw):=ob (Us (x.1,())) λ(a:aV)=>T (a_ a.1) (some (aO UInt8,2,())) (ob (T (ag (dh (len x.1) 2) 1) (am (bE (av (len [48]) (len x.1)) 140737488355328) (some (bv [48] x.1,()))) (some (x.1,()))) λ(a:co)=>letI d:=len a.1;ci (bN (λ(x:cw)=>letI c:=x.2.1;letI e:=i64 (av c 1);letI b:=bi (aI (u8 (av (aI (u8 (e_ (aI (u8 16)) (aI (u8 (bi (aI (ak a.1 (aa c) (u8 0))) (aI (u8 48)))))))) (aI (ak a.1 (aa e) (u8 0)))))) (aI (u8 48));T (aJ c d) (am (aU c d) (am (aU e d) (am (cB 1 (bQ (aT x.1) (aT [u8 b]))) (some (aE.nx (bv x.1 [u8 b],i64 (av c 2),())))))) (some (aE.ex 0 (x.1,c,())))) (aO UInt8,0,())) (λ(a:cw)=>none) (λ(i:Nat) (a:cw)=>am (bZ i 0) (some (a.1,0,()))) λ(r:cw)=>some r)
def H_(x:IW):Option (IW):=letI a:=aI x.1;T (aJ a (aI (u8 10))) (some (u8 (av (aI (u8 48)) a),())) (some (u8 (av (aI (u8 87)) a),()))
def DU(x:co):Option (co):=letI d:=len x.1;ci (bN (λ(ab:cw)=>letI c:=ab.2.1;letI b:=aI (ak x.1 (aa c) (u8 0));T (aJ c d) (am (aU c d) (ob (H_ (u8 (fe b (aI (u8 16))),())) λ(a:IW)=>am (aU c d) (ob (H_ (u8 (dh b (aI (u8 16))),())) λ(a6:IW)=>am (cB 1 (bQ (aT ab.1) (aT [a.1,a6.1]))) (some (aE.nx (bv ab.1 [a.1,a6.1],i64 (av c 1),())))))) (some (aE.ex 0 (ab.1,c,())))) (aO UInt8,0,())) (λ(a:cw)=>none) (λ(i:Nat) (a:cw)=>am (bZ i 0) (some (a.1,()))) λ(r:co)=>some r
def F5(x:c9):Option (c9):=letI m:=ag x.1 3;letI l:=ag x.1 13;letI k:=ag x.1 12;letI j:=ag x.1 11;letI i:=ag x.1 4;letI h:=ag x.1 7;letI g:=ag x.1 90;letI f:=ag x.1 53;letI e:Option (c9):=some (6,());letI b:Option (c9):=T h (some (10,())) (T i (some (12,())) (T f (some (16,())) (T g (some (42,())) (some (0,())))));letI a:Option (c9):=T m (T m (some (6,())) (T h (some (10,())) (T i (some (12,())) (T f (some (16,())) (T g (some (42,())) (some (0,()))))))) (T j (T j (some (6,())) (T h (some (10,())) (T i (some (12,())) (T f (some (16,())) (T g (some (42,())) (some (0,()))))))) (T k (T k (some (6,())) (T h (some (10,())) (T i (some (12,())) (T f (some (16,())) (T g (some (42,())) (some (0,()))))))) (T (ag x.1 15) (some (6,())) (T h (some (10,())) (T i (some (12,())) (T f (some (16,())) (T g (some (42,())) (some (0,())))))))));letI c:Option (c9):=T (ag x.1 14) (T (ag x.1 14) (some (4,())) a) (T (ag x.1 18) (some (4,())) a);letI d:Option (c9):=T l (T l (some (4,())) a) c;T (ag x.1 25) (some (2,())) (T (ag x.1 22) (T (ag x.1 22) (some (3,())) d) (T (ag x.1 49) (T (ag x.1 49) (some (3,())) d) (T (ag x.1 70) (some (3,())) (T l (T l (some (4,())) (T m (T m e b) (T j (T j e b) (T k (T k e (T h (some (10,())) (T i (some (12,())) (T f (some (16,())) (T g (some (42,())) (some (0, ()))))))) (T (ag x.1 15) e b))))) c))))
def zo(x:fU):Option (c9):=letI b:=x.2.1;T (ag x.1 1) (ob (F5 (b,())) λ(a:c9)=>some (a.1,())) (T (ag x.1 2) (some (T (ag b 2) 19 (T (ag b 32) 11 (T (ag b 100) 11 0)),())) (T (ag x.1 3) (some (T (ag b 37) 12 (T (ag b 38) 6 (T (ag b 39) 2 (T (ag b 41) 8 (T (ag b 42) 15 (T (ag b 95) 42 0))))),())) (T (ag x.1 4) (some (T (ag b 35) 37 (T (ag b 102) 28 0),())) (T (ag x.1 5) (some (T (ag b 48) 400 (T (ag b 54) 120 0),())) (T (ag x.1 6) (some (T (ag b 52) 8 (T (ag b 64) 8 (T (ag b 96) 8 (T (ag b 128) 8 0))),())) (T (ag x.1 7) (some (T (ag b 55) 255 (T (ag b 127) 400 0),())) (some (0,()))))))))
def u_(x:c9):Option (Bh):=ci (bN (λ(ab:eH)=>letI b:=ab.2.1;T (bE b 7) (ob (zo (b,x.1,())) λ(a:c9)=>T (aJ 0 a.1) (some (aE.rt ((b,a.1,()),true,()))) (some (aE.nx (ab.1,i64 (av b 1),())))) (some (aE.ex 0 (ab.1,b,())))) (false,1,())) (λ(a:eH)=>none) (λ(i:Nat) (a:eH)=>am (bZ i 0) (some ((0,0,()),false,()))) λ(r:Bh)=>some r
def iy(x:c9):Option (c9):=letI a:Option (c9):=T (ag x.1 5) (T (ag x.1 5) (some (3,())) (some (0,()))) (T (ag x.1 7) (some (3,())) (some (0,())));T (ag x.1 2) (T (ag x.1 2) (some (2,())) a) (T (ag x.1 4) (some (2,())) a)
def u9(x:iG):Option (aV):=letI j:=x.2.1;letI f:Option aV:=some (true,());letI e:Option (aV):=some (false,());letI g:=len j;letI k:=aI (u8 126);letI m:=aI (u8 32);letI n:=some (aJ 0 g,());letI H:=some (false,());letI I:=some (true,());ob (u_ (x.1,())) λ(a:Bh)=>letI l:=some (ag g a.1.2.1,());letI h:=a.1.1;letI G:=iy (h,());letI c:Option (aV):=ob G λ(dm:c9)=>T (aJ 0 dm.1) n l;letI b:Option (aV):=ci (bN (λ(ab:eH)=>letI w:=ab.2.1;letI o:=aI (ak j (aa w) (u8 0));T (aJ w g) (am (aU w g) (ob (T (aJ o m) I (some (aJ k o,()))) λ(a:aV)=>T a.1 (some (aE.ex 999999999 (false,w,()))) (some (aE.nx (ab.1,i64 (av w 1),()))))) (some (aE.ex 0 (ab.1,w,())))) (false,0,())) (λ(a:eH)=>none) (λ(i:Nat) (bR:eH)=>T (bZ i 999999999) (T (a_ bR.1) H (ob G λ(bS:c9)=>T (aJ 0 bS.1) n l)) (am (bZ i 0) (ob G λ(bS:c9)=>T (aJ 0 bS.1) n l))) λ(r:Unit)=>none;letI E:=ag h 3;letI F:=ag h 4;letI J:=T (ag h 5) b c;ob (T (a_ a.2.1) f (some (aJ a.1.2.1 g,()))) λ(a6:aV)=>T a6.1 e (T (ag h 1) (T (ag h 1) (ci (bN (λ(ab:eH)=>letI y:=ab.2.1;letI p:=aI (ak j (aa y) (u8 0));T (aJ y g) (am (aU y g) (ob (T (aJ p (aI (u8 48))) f (some (aJ (aI (u8 57)) p,()))) λ(a:aV)=>T a.1 (some (aE.ex 999999999 (false,y,()))) (some (aE.nx (ab.1,i64 (av y 1),()))))) (some (aE.ex 0 (ab.1,y,())))) (false,0,())) (λ(a:eH)=>none) (λ(i:Nat) (bR:eH)=>letI d:Option (aV):=ci (bN (λ(ab:eH)=>letI z:=ab.2.1;letI q:=aI (ak j (aa z) (u8 0));T (aJ z g) (am (aU z g) (ob (T (aJ q m) I (some (aJ k q,()))) λ(a:aV)=>T a.1 (some (aE.ex 999999999 (false,z,()))) (some (aE.nx (ab.1,i64 (av z 1),()))))) (some (aE.ex 0 (ab.1,z,())))) (false,0,())) (λ(a:eH)=>none) (λ(i:Nat) (bS:eH)=>T (bZ i 999999999) (T (a_ bS.1) H c) (am (bZ i 0) c)) λ(r:Unit)=>none;T (bZ i 999999999) (T (a_ bR.1) e d) (am (bZ i 0) d)) λ(r:Unit)=>none) (T E (T E b c) (T F (T F b c) J))) (T (ag h 2) (ci (bN (λ(ab:eH)=>letI A:=ab.2.1;letI s:=aI (ak j (aa A) (u8 0));T (aJ A g) (am
 (aU A g) (ob (T (aJ s (aI (u8 48))) f (some (aJ (aI (u8 57)) s,()))) λ(a:aV)=>T a.1 (some (aE.ex 999999999 (false,A,()))) (some (aE.nx (ab.1,i64 (av A 1),()))))) (some (aE.ex 0 (ab.1,A,())))) (false,0,())) (λ(a:eH)=>none) (λ(i:Nat) (bR:eH)=>T (bZ i 999999999) (T (a_ bR.1) e (ci (bN (λ(ab:eH)=>letI B:=ab.2.1;letI t:=aI (ak j (aa B) (u8 0));T (aJ B g) (am (aU B g) (ob (T (aJ t m) f (some (aJ k t,()))) λ(a:aV)=>T a.1 (some (aE.ex 999999999 (false,B,()))) (some (aE.nx (ab.1,i64 (av B 1),()))))) (some (aE.ex 0 (ab.1,B,())))) (false,0,())) (λ(a:eH)=>none) (λ(i:Nat) (bS:eH)=>T (bZ i 999999999) (T (a_ bS.1) e c) (am (bZ i 0) c)) λ(r:Unit)=>none)) (am (bZ i 0) (ci (bN (λ(ab:eH)=>letI C:=ab.2.1;letI u:=aI (ak j (aa C) (u8 0));T (aJ C g) (am (aU C g) (ob (T (aJ u m) f (some (aJ k u,()))) λ(a:aV)=>T a.1 (some (aE.ex 999999999 (false,C,()))) (some (aE.nx (ab.1,i64 (av C 1),()))))) (some (aE.ex 0 (ab.1,C,())))) (false,0,())) (λ(a:eH)=>none) (λ(i:Nat) (bS : Bool×Int×Unit)=>T (bZ i 999999999) (T (a_ bS.1) e c) (am (bZ i 0) c)) λ(r:Unit)=>none))) λ(r:Unit)=>none) (T E (T E b c) (T F (T F (ci (bN (λ(ab:eH)=>letI D:=ab.2.1;letI v:=aI (ak j (aa D) (u8 0));T (aJ D g) (am (aU D g) (ob (T (aJ v m) f (some (aJ k v,()))) λ(a:aV)=>T a.1 (some (aE.ex 999999999 (false,D,()))) (some (aE.nx (ab.1,i64 (av D 1),()))))) (some (aE.ex 0 (ab.1,D,())))) (false,0,())) (λ(a : Bool×Int×Unit)=>none) (λ(i:Nat) (bR:eH)=>T (bZ i 999999999) (T (a_ bR.1) e c) (am (bZ i 0) c)) λ(r:Unit)=>none) c) J))))
def F4(x:iG):Option (cw):=letI c:=x.2.1;ob (u_ (x.1,())) λ(a:Bh)=>letI b:Option aV:=T (ag a.1.1 1) (some (true,())) (some (ag a.1.1 2,()));T (a_ a.2.1) (some (aO UInt8,12,())) (ob (u9 (x.1,c,())) λ(a6:aV)=>T (a_ a6.1) (some (aO UInt8,1,())) (ob (iy (a.1.1,())) λ(bR:c9)=>T (aJ 0 bR.1) (ob (mD (len c,bR.1,())) λ(bS:cw)=>ob (tE (bS.1,())) λ(dm:cw)=>ob b λ(a:aV)=>T a.1 (ob (tE (c,())) λ(a:cw)=>am (cB 1 (bQ (aT dm.1) (aT a.1))) (some (bv dm.1 a.1,0,()))) (am (cB 1 (bQ (aT dm.1) (aT c))) (some (bv dm.1 c,0,())))) (ob b λ(a:aV)=>T a.1 (ob (tE (c,())) λ(a:cw)=>am (cB 1 (aT a.1)) (some (a.1,0,()))) (am (cB 1 (aT c)) (some (c,0,()))))))
def K2(x:Ba):Option (s6):=letI l:=x.2.1;letI c:Option (s6):=some (aO UInt8,0,2,());letI f:=x.2.2.1;letI g:=aO UInt8;letI h:=len l;letI i:=some (true,());ob (u_ (x.1,())) λ(a:Bh)=>letI k:=a.1.2.1;letI n:=av f k;letI b:Option aV:=T (ag a.1.1 1) i (some (ag a.1.1 2,()));letI d:=sub l f (i64 n);T (a_ a.2.1) (some (aO UInt8,0,12,())) (ob (T (aJ f 0) i (some (aJ h f,()))) λ(a6:aV)=>T a6.1 (some (aO UInt8,0,1,())) (ob (iy (a.1.1,())) λ(bR:c9)=>T (aJ 0 bR.1) (ob (w3 (l,f,bR.1,())) λ(bS:s6)=>letI m:=bS.2.1;T (a_ (ag bS.2.2.1 0)) (some (aO UInt8,0,bS.2.2.1,())) (ob (r9 (bS.1,())) λ(dm:fU)=>letI j:=av m dm.1;letI e:=sub l m (i64 j);ob (T (aJ dm.1 1) i (some (aJ k dm.1,()))) λ(j5:aV)=>T j5.1 c (ob b λ(a:aV)=>T a.1 (ob (w3 (l,m,dm.1,())) λ(a:s6)=>T (a_ (ag a.2.2.1 0)) (some (aO UInt8,0,a.2.2.1,())) (am (cB 1 (aT a.1)) (some (a.1,a.2.1,0,())))) (T (aJ (i64 (bi h m)) dm.1) (some (aO UInt8,0,3,())) (am (ca m (i64 j) h) (am (cB 1 (bQ (aT g) (aT e))) (ob (u9 (x.1,bv g e,())) λ(a:aV)=>T (a_ a.1) c (some (bv g e,i64 j,0,()))))))))) (ob b λ(bS:aV)=>T bS.1 (ob (w3 (l,f,k,())) λ(a:s6)=>T (a_ (ag a.2.2.1 0)) (some (aO UInt8,0,a.2.2.1,())) (am (cB 1 (aT a.1)) (some (a.1,a.2.1,0,())))) (T (aJ (i64 (bi h f)) k) (some (aO UInt8,0,3,())) (am (ca f (i64 n) h) (am (cB 1 (bQ (aT g) (aT d))) (ob (u9 (x.1,bv g d,())) λ(dm:aV)=>T (a_ dm.1) c (some (bv g d,i64 n,0,())))))))))
def bt(c:UInt8)(t:Nat):Bool:=c.toNat.testBit (7-t)
def iA(b:V)(n:Nat):Bool:=bt (ak b ((n-1)/8) (u8 0)) ((n-1)%8)
def hQ(b:V):List Nat:=(List.range (8*b.length+1)).filter λn=>Nat.ble 2 n&&iA b n
def pq(c:V)(a:Int):List Int×Int×Int×Unit:=
 if c.length<8\/(iA c 1=true/\c.length<16) then([],0,3,())
 else if iA c 1=true then
  (if 65∈hQ (c.take 16)\/∀n∈hQ (c.take 16),n<65 then([],0,2,()) else((hQ (c.take 16)).map Int.ofNat,a+16,0,()))
 else((hQ (c.take 8)).map Int.ofNat,a+8,0,())
def k8(b:V)(a:Int):List Int×Int×Int×Unit:=if a<0\/(b.length:Int)<a then([],0,1,()) else pq (b.drop a.toNat) a
def Xf(x:cw):Option (List Int×Int×Int×Unit):=some (k8 x.1 x.2.1)
def t2(x:fU):Option (c9):=ci (bN (λ(ab:fU)=>T (aJ ab.2.1 x.2.1) (some (aE.nx (i64 (fe ab.1 10),i64 (av ab.2.1 1),()))) (some (aE.ex 0 (ab.1,ab.2.1,())))) (x.1,0,())) (λ(a:fU)=>none) (λ(i:Nat) (a:fU)=>am (bZ i 0) (some (dh a.1 10,()))) λ(r:c9)=>some r
def z_(x:c9):Option (aV):=letI b:Option aV:=some (false,());ob (T (aJ x.1 0) (some (true,())) (some (aJ 999 x.1,()))) λ(a:aV)=>T a.1 (some (false,())) (ob (t2 (x.1,2,())) λ(a:c9)=>ob (T (bE 1 a.1) (T (bE a.1 8) (ob (t2 (x.1,1,())) λ(a:c9)=>T (bE a.1 4) (ob (t2 (x.1,0,())) λ(a:c9)=>some (bE a.1 5,())) b) b) b) λ(a:aV)=>some (a.1,()))
def TE(x:yj):Option (aV):=letI b:Option aV:=some (false,());letI c:=x.1.2.2.2.2;ob (T (bE 1 c.1) (T (bE c.1 2147483647) (T (ag (len c.2.1) 8) (T (ag (len c.2.2.1) 3) (some (ag c.2.2.2.1 0,())) b) b) b) b) λ(a:aV)=>some (a.1,())
def Mt(x:yj):Option (aV):=letI b:Option aV:=some (false,());letI c:=x.1.2.2.2.2;ob (T (ag c.1 0) (T (ag (len c.2.1) 0) (T (ag (len c.2.2.1) 0) (some (ag c.2.2.2.1 0,())) b) b) b) λ(a:aV)=>some (a.1,())
def TD(x:yj):Option (aV):=letI b:=x.1.2.2.2.2;letI c:=some (false,());ob (T (bE 0 b.2.2.2.1) (T (bE b.2.2.2.1 999999) (ob (Mt ((x.1.1,x.1.2.1,x.1.2.2.1,x.1.2.2.2.1,b.1,b.2.1,b.2.2.1,0,b.2.2.2.2),())) λ(a:aV)=>some (a.1,())) c) c) λ(a:aV)=>some (a.1,())
def LX(x:wc):Option (aV):=letI c:=x.1.2.1;ci (bN (λ(ab:A?)=>letI b:=ab.2.2.1;T (aJ b (len c)) (am (aU b (len c)) (ob (T (bE (ak c (aa b) (0,aO UInt8,())).1 ab.2.1) (some (true,())) (ob (u9 ((ak c (aa b) (0,aO UInt8,())).1,(ak c (aa b) (0,aO UInt8,())).2.1,())) λ(a:aV)=>some (a_ a.1,()))) λ(a:aV)=>T a.1 (some (aE.rt (false,()))) (some (aE.nx (ab.1,(ak c (aa b) (0,aO UInt8,())).1,i64 (av b 1),()))))) (some (aE.ex 0 (ab.1,ab.2.1,b,())))) (false,0,0,())) (λ(a:A?)=>none) (λ(i:Nat) (a:A?)=>am (bZ i 0) (ob (z_ (x.1.1,())) λ(a:aV)=>some (a.1,()))) λ(r:aV)=>some r
def Cb(x:Ek):Option (aV):=some (seq x.1 x.2.1,())
def LY(x:(Int×V×Unit)×(Int×V×Unit)×Unit):Option (aV):=ob (T (ag x.1.1 x.2.1.1) (ob (Cb (x.1.2.1,x.2.1.2.1,())) λ(a:aV)=>some (a.1,())) (some (false,()))) λ(a:aV)=>some (a.1,())
def Kb(x:rH):Option (aV):=letI d:=some (true,());ci (bN (λ(ab:A?)=>letI b:=ab.2.2.1;letI c:=ak x.1 (aa b) 0;T (aJ b (len x.1)) (am (aU b (len x.1)) (ob (T (bE c ab.2.1) d (T (aJ 128 c) d (some (ag c 65,())))) λ(a:aV)=>T a.1 (some (aE.rt (false,()))) (some (aE.nx (ab.1,ak x.1 (aa b) 0,i64 (av b 1),()))))) (some (aE.ex 0 (ab.1,ab.2.1,b,())))) (false,1,0,())) (λ(a:A?)=>none) (λ(i:Nat) (a:A?)=>am (bZ i 0) d) λ(r:aV)=>some r
def tz(x:c9):Option (Vj):=letI b:=i64 (bi x.1 1);ob (T (aJ x.1 1) (some (true,())) (some (aJ 128 x.1,()))) λ(a:aV)=>T a.1 (some (0,u8 0,())) (am (bE 0 (dh b 8)) (some (i64 (fe b 8),u8 (fp IntKind.u8 (aI (u8 128)) (dh b 8)),())))
def Kc(x:rH):Option (cw):=letI b:=len x.1;letI e:=bO (aa 16) (u8 0);letI h:=i64 (bi b 1);ob (Kb (x.1,())) λ(a:aV)=>T (a_ a.1) (some (aO UInt8,1,())) (am (cZ (ca 0 8 8) (cB 1 (aa 8))) (ob (T (aJ 0 b) (am (aU h b) (some (aJ 64 (ak x.1 (aa h) 0),()))) (some (false,()))) λ(a:aV)=>T a.1 (am (cZ (ca 0 16 16) (cB 1 (aa 16))) (am (aU 0 (len e)) (ci (bN (λ(ab:iG)=>letI f:=ab.2.1;T (aJ ab.1 b) (am (aU ab.1 b) (ob (tz (ak x.1 (aa ab.1) 0,())) λ(a:Vj)=>letI c:=aU a.1 (len f);am c (am c (some (aE.nx (i64 (av ab.1 1),cj f (aa a.1) (u8 (gM IntKind.u8 (aI (ak f (aa a.1) (u8 0))) (aI a.2.1))),())))))) (some (aE.ex 0 (ab.1,f,())))) (0,cj e (aa 0) (u8 128),())) (λ(a:iG)=>none) (λ(i:Nat) (a:iG)=>am (bZ i 0) (some (a.2.1,0,()))) λ(r:cw)=>some r))) (ci (bN (λ(ab:iG)=>letI g:=ab.2.1;T (aJ ab.1 b) (am (aU ab.1 b) (ob (tz (ak x.1 (aa ab.1) 0,())) λ(a:Vj)=>letI d:=aU a.1 (len g);am d (am d (some (aE.nx (i64 (av ab.1 1),cj g (aa a.1) (u8 (gM IntKind.u8 (aI (ak g (aa a.1) (u8 0))) (aI a.2.1))),())))))) (some (aE.ex 0 (ab.1,g,())))) (0,bO (aa 8) (u8 0),())) (λ(a:iG)=>none) (λ(i:Nat) (a:iG)=>am (bZ i 0) (some (a.2.1,0,()))) λ(r:cw)=>some r)))
def Aa(x:wc):Option (cw):=letI b:=x.1.2.1;ob (LX (x.1,())) λ(a:aV)=>T (a_ a.1) (some (aO UInt8,1,())) (ob (mD (x.1.1,4,())) λ(a:cw)=>ob (tE (a.1,())) λ(a:cw)=>ci (bN (λ(ab:Vz)=>letI c:=ab.2.1;T (aJ c (len b)) (am (aU c (len b)) (am (cB 32 (bQ (aT ab.1) (aT [(ak b (aa c) (0,aO UInt8,())).1]))) (some (aE.nx (bv ab.1 [(ak b (aa c) (0,aO UInt8,())).1],i64 (av c 1),()))))) (some (aE.ex 0 (ab.1,c,())))) (aO Int,0,())) (λ(a:Vz)=>none) (λ(i:Nat) (a6:Vz)=>am (bZ i 0) (ob (Kc (a6.1,())) λ(bR:cw)=>am (cB 1 (bQ (aT a.1) (aT bR.1))) (ci (bN (λ(ab:cw)=>letI d:=ab.2.1;T (aJ d (len b)) (am (aU d (len b)) (ob (F4 ((ak b (aa d) (0,aO UInt8,())).1,(ak b (aa d) (0,aO UInt8,())).2.1,())) λ(a:cw)=>am (cB 1 (bQ (aT ab.1) (aT a.1))) (some (aE.nx (bv ab.1 a.1,i64 (av d 1),()))))) (some (aE.ex 2 (ab.1,d,())))) (bv a.1 bR.1,0,())) (λ(a:cw)=>none) (λ(i:Nat) (a:cw)=>am (bZ i 2) (some (a.1,0,()))) λ(r:cw)=>some r))) λ(r:cw)=>some r)
def LW(x:c9):Option (iZ):=ob (t2 (x.1,1,())) λ(a:c9)=>ob (z_ (x.1,())) λ(a6:aV)=>ob (T (a_ a6.1) (some (true,())) (T (a_ (ag a.1 0)) (some (a_ (ag a.1 2),())) (some (false,())))) λ(a:aV)=>T a.1 (some (0,false,())) (some (i64 (av x.1 10),true,()))
def NK(x:List (Int×V×Unit)×List (Int×V×Unit)×Nat×Unit):Option (aV):=letI c:=len x.1;T (a_ (ag c (len x.2.1))) (some (false,())) (ci (bN (λ(ab:eH)=>letI b:=ab.2.1;T (aJ b c) (am (aU b c) (am (aU b (len x.2.1)) (am (bZ x.2.2.1 1) (ob (LY (ak x.1 (aa b) (0,aO UInt8,()),ak x.2.1 (aa b) (0,aO UInt8,()),())) λ(a:aV)=>T (a_ a.1) (some (aE.rt (false,()))) (some (aE.nx (ab.1,i64 (av b 1),()))))))) (some (aE.ex 0 (ab.1,b,())))) (false,0,())) (λ(a:eH)=>none) (λ(i:Nat) (a:eH)=>am (bZ i 0) (some (true,()))) λ(r:aV)=>some r)
def He(x:(Int×List (Int×V×Unit)×Unit)×(Int×List (Int×V×Unit)×Unit)×Unit):Option (aV):=ob (T (ag x.1.1 x.2.1.1) (ob (NK (x.1.2.1,x.2.1.2.1,1,())) λ(a:aV)=>some (a.1,())) (some (false,()))) λ(a:aV)=>some (a.1,())
def Hd(x:c9):Option (c9):=ob (z_ (x.1,())) λ(a:aV)=>T (a_ a.1) (some (0,())) (ob (t2 (x.1,2,())) λ(a:c9)=>some (a.1,()))
def L1(x:Vu):Option (c9):=some (x.1.1,())
def C'(x:co):Option (mn):=ob (w3 (x.1,0,4,())) λ(a:s6)=>T (a_ (ag a.2.2.1 0)) (some ((0,aO (Int×V×Unit),()),a.2.2.1,())) (ob (r9 (a.1,())) λ(a6:fU)=>ob (z_ (a6.1,())) λ(bR:aV)=>T (a_ bR.1) (some ((0,aO (Int×V×Unit),()),2,())) (ob (Xf (x.1,a.2.1,())) λ(a:List Int×Int×Int×Unit)=>letI c:=len a.1;T (a_ (ag a.2.2.1 0)) (some ((0,aO (Int×V×Unit),()),a.2.2.1,())) (ci (bN (λ(x:fU)=>letI f:=x.2.1;T (aJ f c) (am (aU f c) (ob (u_ (ak a.1 (aa f) 0,())) λ(a:Bh)=>T (a_ a.2.1) (some (aE.rt ((0,aO (Int×V×Unit),()),2,()))) (some (aE.nx (x.1,i64 (av f 1),()))))) (some (aE.ex 0 (x.1,f,())))) (0,0,())) (λ(a:fU)=>none) (λ(i:Nat) (bS:fU)=>am (bZ i 0) (ci (bN (λ(ab:agT)=>letI b:=ab.2.2;letI e:=b.2.1;T (aJ b.1 c) (am (aU b.1 c) (ob (K2 (ak a.1 (aa b.1) 0,x.1,ab.2.1,())) λ(dm:s6)=>letI d:=(ak a.1 (aa b.1) 0,dm.1,());T (a_ (ag dm.2.2.1 0)) (some (aE.rt ((0,aO (Int×V×Unit),()),dm.2.2.1,()))) (am (cB 56 (bQ (aT e.2.1) (aT [d]))) (some (aE.nx (ab.1,dm.2.1,i64 (av b.1 1),(e.1,bv e.2.1 [d],e.2.2),())))))) (some (aE.ex 2 (ab.1,ab.2.1,b.1,(e.1,e.2.1,e.2.2),())))) (bS.1,a.2.1,0,(a6.1,aO (Int×V×Unit),()),())) (λ(a:agT)=>none) (λ(i:Nat) (a:Int×Int×Int × (Int×List (Int×V×Unit)×Unit)×Unit)=>letI g:=a.2.2.2.1;am (bZ i 2) (T (aJ a.2.1 (len x.1)) (some ((0,aO (Int×V×Unit),()),4,())) (some ((g.1,g.2.1,g.2.2),0,())))) λ(r:mn)=>some r)) λ(r:mn)=>some r)))
def L0(x:wc):Option (Vn):=some ((x.1.2.1,1,()),())
def Hg(x:(List (Int×V×Unit)×Nat×Unit)×Int×Unit):Option (iZ):=ci (bN (λ(ab:Vv)=>letI b:=ab.2.2.1;T (aJ b (len x.1.1)) (am (aU b (len x.1.1)) (am (bZ x.1.2.1 1) (ob (L1 (ak x.1.1 (aa b) (0,aO UInt8,()),())) λ(a:c9)=>T (bE x.2.1 a.1) (some (aE.rt (b,ag a.1 x.2.1,()))) (some (aE.nx (ab.1,ab.2.1,i64 (av b 1),())))))) (some (aE.ex 0 (ab.1,ab.2.1,b,())))) (0,false,0,())) (λ(a:Vv)=>none) (λ(i:Nat) (a:Vv)=>am (bZ i 0) (some (len x.1.1,false,()))) λ(r:iZ)=>some r
def NJ(x:List (List (Int×V×Unit))×Unit):Option (qQ):=letI c:=aO (Int×V×Unit);letI d:=len x.1;ci (bN (λ(ab:fU)=>letI h:=ab.2.1;letI e:=av ab.1 (len (ak x.1 (aa h) c));T (aJ h d) (am (aU h d) (T (aJ (i64 e) 0) none (some (aE.nx (i64 e,i64 (av h 1),()))))) (some (aE.ex 0 (ab.1,h,())))) (0,0,())) (λ(a:fU)=>none) (λ(i:Nat) (a:fU)=>letI b:=i64 (bi a.1 (i64 (bi 0 0)));am (bZ i 0) (T (aJ a.1 0) none (T (aJ 0 b) (am (ca 0 0 0) (am (cZ (bE 0 b) (cB 56 (aa b))) (am (ca 0 0 (len (bO (aa b) (0,aO UInt8,())))) (ci (bN (λ(ab:Ex)=>letI f:=ab.2.1;letI j:=ak x.1 (aa f) c;T (aJ f d) (am (aU f d) (am (cB 56 (bQ (aT ab.1) (aT j))) (some (aE.nx (bv ab.1 j,i64 (av f 1),()))))) (some (aE.ex 2 (ab.1,f,())))) (cut (bO (aa b) (0,aO UInt8,())) (aa 0) (cd (aa 0) (aa 0)),0,())) (λ(a:Ex)=>none) (λ(i:Nat) (a:Ex)=>am (bZ i 2) (some (a.1,()))) λ(r:qQ)=>some r)))) (ci (bN (λ(ab:Ex)=>letI g:=ab.2.1;letI k:=ak x.1 (aa g) c;T (aJ g d) (am (aU g d) (am (cB 56 (bQ (aT ab.1) (aT k))) (some (aE.nx (bv ab.1 k,i64 (av g 1),()))))) (some (aE.ex 2 (ab.1,g,())))) (aO (Int×V×Unit),0, ())) (λ(a:Ex)=>none) (λ(i:Nat) (a:Ex)=>am (bZ i 2) (some (a.1,()))) λ(r:qQ)=>some r)))) λ(r:qQ)=>some r
def S1(x:(List (Int×V×Unit)×Nat×Unit)×(Int×V×Unit)×Unit):Option (qQ):=letI b:=len x.1.1;am (bZ x.1.2.1 1) (ob (L1 (x.2.1,())) λ(a:c9)=>ob (Hg (x.1,a.1,())) λ(a:iZ)=>ob (T a.2.1 (some (i64 (av a.1 1),())) (some (a.1,()))) λ(a6:c9)=>am (ca 0 a.1 b) (am (ca a6.1 b b) (ob (NJ ([sub x.1.1 0 a.1,[x.2.1],sub x.1.1 a6.1 b],())) λ(a:qQ)=>some (a.1,()))))
def jT(x:(Int×List (Int×V×Unit)×Unit)×Int×V×Unit):Option (mn):=ob (u_ (x.2.1,())) λ(a:Bh)=>T (a_ a.2.1) (some (x.1,12,())) (ob (u9 (x.2.1,x.2.2.1,())) λ(a:aV)=>T (a_ a.1) (some (x.1,1,())) (ob (L0 (x.1,())) λ(a:Vn)=>ob (S1 (a.1,(x.2.1,x.2.2.1,()),())) λ(a:qQ)=>some ((x.1.1,a.1,x.1.2.2),0,())))
def qy(x:mn):Option (oi):=ob (L0 (x.1,())) λ(a:Vn)=>ob (Hg (a.1,x.2.1,())) λ(a:iZ)=>T (a_ a.2.1) (some (aO UInt8,false,())) (am (aU a.1 (len x.1.2.1)) (some ((ak x.1.2.1 (aa a.1) (0,aO UInt8,())).2.1,true,())))
def TG(x:yj):Option (aV):=some (false,())
def TF(x:yj):Option (Nat×Unit):=letI b:Option aV:=some (true,());letI c:=x.1.2.1;letI d:=some (x.1.1,());letI e:=some (false,());ob (T (ag c 101) d e) λ(a:aV)=>T a.1 (some (1,())) (ob (T (ag c 201) d e) λ(a:aV)=>T a.1 (some (2,())) (ob (T (ag c 1) b (T (ag c 2) b (T (ag c 101) b (T (ag c 201) b (some (ag c 301,())))))) λ(a:aV)=>T a.1 (some (3,())) (some (4,()))))
def HM(x:yj):Option (aV):=letI b:Option aV:=some (true,());letI c:=x.1.2.2;letI e:=some (false,());ob (T (aJ c.1 1) b (T (aJ 999999 c.1) b (T (aJ c.2.1 0) b (T (aJ 99 c.2.1) b (T x.1.1 (some (aJ 0 c.2.1,())) e))))) λ(a:aV)=>T a.1 e (ob (TF (x.1,())) λ(a:Nat×Unit)=>letI d:=cd a.1 1;T (bZ a.1 1) (ob (TE (x.1,())) λ(a:aV)=>some (a.1,())) (T (bZ d 1) (ob (TD (x.1,())) λ(a:aV)=>some (a.1,())) (T (bZ (cd d 1) 1) (ob (Mt (x.1,())) λ(a:aV)=>some (a.1,())) (am (bZ (cd (cd d 1) 1) 1) (ob (TG (x.1,())) λ(a:aV)=>some (a.1,()))))))
def qF(x:fU):Option (co):=ob (mD (x.1,x.2.1,())) λ(a:cw)=>am (cB 1 (aT a.1)) (some (a.1,()))
def Dy(x:yj):Option (wc):=letI b:=x.1.2;letI c:=b.2.2.2;ob (qF (b.2.1,6,())) λ(a:co)=>ob (jT ((810,aO (Int×V×Unit),()),11,a.1,())) λ(a:mn)=>ob (qF (b.1,3,())) λ(a6:co)=>ob (jT (a.1,70,a6.1,())) λ(a:mn)=>T (a_ x.1.1) (ob (qF (b.2.2.1,2,())) λ(bR:co)=>ob (jT (a.1,39,bR.1,())) λ(a:mn)=>some (a.1,())) (T (ag b.1 101) (ob (Cm (c.2.2.1,())) λ(bR:co)=>am (cB 1 (aT bR.1)) (ob (jT ((800,a.1.2),48,bR.1,())) λ(a:mn)=>ob (qF (c.1,16,())) λ(bS:co)=>ob (jT (a.1,53,bS.1,())) λ(a:mn)=>ob (jT (a.1,96,c.2.1,())) λ(a:mn)=>some (a.1,()))) (T (ag b.1 201) (ob (qF (c.2.2.2.1,6,())) λ(bR:co)=>ob (jT ((800,a.1.2),15,bR.1,())) λ(a:mn)=>some (a.1,())) (some ((800,a.1.2),()))))
def pQ(x:yj):Option (cw):=ob (HM (x.1,())) λ(a:aV)=>T (a_ a.1) (some (aO UInt8,1,())) (ob (Dy (x.1,())) λ(a:wc)=>ob (Aa (a.1,())) λ(a:cw)=>some (a.1,a.2.1,()))
def qE(x:VO):Option (VO):=T (a_ x.1.1) (some ((false,0,0,0,0,aO UInt8,aO UInt8,0,()),9,())) (ob (T (aJ x.2.1 0) (some (true,())) (some (aJ 99 x.2.1,()))) λ(a:aV)=>T a.1 (some ((false,0,0,0,0,aO UInt8,aO UInt8,0,()),1,())) (some ((false,x.1.2.1,x.1.2.2.1,x.2.1,0,aO UInt8,aO UInt8,0,()),0,())))
def Dx(x:co):Option (VO):=letI b:Option (VO):=some ((false,0,0,0,0,aO UInt8,aO UInt8,0,()),2,());ob (C' (x.1,())) λ(a:mn)=>T (a_ (ag a.2.1 0)) (some ((false,0,0,0,0,aO UInt8,aO UInt8,0,()),a.2.1,())) (ob (qy (a.1,70,())) λ(a6:oi)=>ob (r9 (a6.1,())) λ(bR:fU)=>ob (qy (a.1,11,())) λ(bS:oi)=>ob (r9 (bS.1,())) λ(dm:fU)=>ob (qy (a.1,39,())) λ(j5:oi)=>ob (r9 (j5.1,())) λ(oB:fU)=>ob (qy (a.1,53,())) λ(l1:oi)=>ob (r9 (l1.1,())) λ(uW:fU)=>ob (qy (a.1,15,())) λ(y4:oi)=>ob (r9 (y4.1,())) λ(r3:fU)=>ob (qy (a.1,96,())) λ(y3:oi)=>ob (qy (a.1,48,())) λ(aiC:oi)=>ob (Cn (aiC.1,())) λ(Pc:cw)=>letI c:=(ag a.1.1 800,bR.1,dm.1,oB.1,uW.1,y3.1,Pc.1,r3.1,());ob (HM (c,())) λ(aiD:aV)=>T (a_ aiD.1) b (ob (Dy (c,())) λ(Pd:wc)=>ob (He (Pd.1,a.1,())) λ(Pe:aV)=>T (a_ Pe.1) b (some (c,0,()))))
end Yp
namespace Yp
abbrev fa:=(Int×V×Unit)×(Int×V×Unit)×(Int×V×Unit)×Int×Int×Unit
abbrev eO:=List Bool×List (V×Int×Int×Unit)×List Int×Int×Unit
abbrev fk:=Bool×List (V×V×Unit)×Bool×Unit
abbrev gv:=Int×Int×Int×Int×V×Unit
abbrev d1:=Bool×Int×Int×Int×Int×V×V×Int×Unit
abbrev dr:=Int×Int×List Int×Int×Int×V×V×Unit
abbrev q1:=Int×V×Int×(V×V×Unit)×Int×Int×Int×Int×Int×(Int×List UInt64×Unit)×fa×gv×Int×Int×List V×eO×List (Int×V×Unit)×List (Int×List Int×Int×V×Unit)×List Int×Unit
abbrev e4:=q1×fk×Unit
end Yp
namespace Yp
abbrev BE:List UInt64:=[u64 0,u64 0,u64 0,u64 0,u64 0,u64 0,u64 0,u64 0,u64 0,u64 0,u64 0,u64 0,u64 0,u64 0,u64 0,u64 0]
abbrev yE:V×Int×Int×Unit:=(aO UInt8,0,0,())
abbrev Wm:eO:=([false,false,false,false],[yE,yE,yE,yE],[0,0,0,0],0,())
abbrev j1:Int×V×Unit:=(0,aO UInt8,())
abbrev EK:fa:=(j1,j1,j1,0,0,())
abbrev om:gv:=(0,0,0,0,aO UInt8,())
abbrev p8:q1:=(0,aO UInt8,0,(aO UInt8,aO UInt8,()),0,0,0,0,0,(0,BE,()),EK,om,0,0,aO V,Wm,aO (Int×V×Unit),aO (Int×List Int×Int×V×Unit),[0,0,0,0],())
abbrev fE:Int×Int×V×Unit:=(0,0,aO UInt8,())
abbrev nB:dr:=(0,0,[0,0],0,0,aO UInt8,aO UInt8,())
abbrev Wn:List UInt32:=[u32 0,u32 0,u32 0,u32 0,u32 0,u32 0,u32 0,u32 0,u32 0,u32 0,u32 0,u32 0,u32 0,u32 0,u32 0,u32 0,u32 0,u32 0,u32 0,u32 0,u32 0,u32 0,u32 0,u32 0,u32 0,u32 0,u32 0,u32 0,u32 0,u32 0,u32 0,u32 0,u32 0,u32 0,u32 0,u32 0,u32 0,u32 0,u32 0,u32 0,u32 0,u32 0,u32 0,u32 0,u32 0,u32 0,u32 0,u32 0,u32 0,u32 0,u32 0,u32 0,u32 0,u32 0,u32 0,u32 0,u32 0,u32 0,u32 0,u32 0,u32 0,u32 0,u32 0,u32 0]
end Yp
namespace Yp
abbrev bK:=e4×Unit
abbrev e5:=e4×Int×Unit
abbrev q2:=d1×Int×Unit
abbrev E2:=((q1×Unit)×e4×Unit)×Unit
abbrev tj:=fa×Int×Unit
abbrev WN:=q1×List (Int×V×Unit)×List (Int×List Int×Int×V×Unit)×Unit
abbrev tk:=gv×Bool×Unit
abbrev wJ:=e4×d1×Unit
abbrev uU:=eO×Int×Unit
abbrev tl:=fa×Unit
abbrev BP:=Int×e4×Unit
abbrev BQ:=e4×V×Unit
abbrev JM:=e4×Int×Int×Unit
abbrev OX:=gv×Bool×Bool×Unit
abbrev OY:=Bool×gv×Nat×Unit
abbrev OZ:=eO×Int×Int×Unit
abbrev O0:=V×Int×gv×Unit
abbrev BR:=q1×Unit
abbrev O1:=fk×Bool×Unit
end Yp
namespace Yp
open Go
def Kg(x:co):Option (co):=am (cB 1 (aT x.1)) (some (x.1,()))
def agu(x:s3):Option (s3):=am (cB 32 (aT x.1)) (some (x.1,()))
def H5(x:fk×V×V×Unit):Option (aV):=some (x.1.2.1.any λe=>cZ (seq x.2.1 e.1) (seq x.2.2.1 e.2.1),())
def H7(x:List V×List V×Int×Unit):Option (List V×Int×Int×Unit):=if x.2.2.1<1\/64<x.2.2.1 then some (x.1,0,1,()) else if x.2.2.1<(x.1.length:Int) then some (x.1,0,0,()) else some (x.1++x.2.1.take (x.2.2.1.toNat-x.1.length),((min (x.2.2.1.toNat-x.1.length) x.2.1.length:Nat):Int),0,())
def Ag(x:Int×List Int×Unit):Option (aV):=letI d:=some (true,());ci (bN (λ(ab:eH)=>letI b:=ab.2.1;letI c:=ak x.2.1 (aa b) 0;T (aJ b (len x.2.1)) (am (aU b (len x.2.1)) (ob (T (aJ c 0) d (some (aJ x.1 c,()))) λ(a:aV)=>T a.1 (some (aE.rt (false,()))) (some (aE.nx (ab.1,i64 (av b 1),()))))) (some (aE.ex 0 (ab.1,b,())))) (false,0,())) (λ(a:eH)=>none) (λ(i:Nat) (a:eH)=>am (bZ i 0) d) λ(r:aV)=>some r
def nn(x:BR):Option (rH):=letI b:=i64 (bi 1 x.1.1);ob (Ag (1,[x.1.1],())) λ(a:aV)=>T a.1 (am (aU x.1.1 (bf 2)) (am (aU b (bf 2)) (some (cj (cj [0,0] (aa x.1.1) x.1.2.2.2.2.2.1) (aa b) x.1.2.2.2.2.2.2.1,())))) (some ([0,0],()))
def Hs(x:co):Option (aV):=ob (T (bE 1 (len x.1)) (some (bE (len x.1) 900,())) (some (false,()))) λ(a:aV)=>some (a.1,())
def AG(x:c9):Option (c9):=letI a:Option (c9):=T (ag x.1 6) (some (5,())) (some (-1,()));T (ag x.1 0) (some (0,())) (T (ag x.1 1) (some (1,())) (T (ag x.1 2) (some (2,())) (T (ag x.1 3) (some (3,())) (T (ag x.1 4) (T (ag x.1 4) (some (4,())) a) (T (ag x.1 5) (some (4,())) a)))))
def um(x:c9):Option (aV):=ob (AG (x.1,())) λ(a:c9)=>some (bE 2 a.1,())
def SL(x:eO×Unit):Option (OZ):=ci (bN (λ(ab:Ej)=>letI c:=ab.2.2.1;letI b:=i64 (av x.1.2.2.2.1 c);letI d:=dh b 4;T (aJ c 4) (am (aU d (bf 4)) (T (ak x.1.1 (aa d) false) (some (aE.rt ((x.1.1,x.1.2.1,x.1.2.2.1,dh (i64 (av d 1)) 4,x.1.2.2.2.2),dh b 4,0,()))) (some (aE.nx (ab.1,ab.2.1,i64 (av c 1),()))))) (some (aE.ex 0 (ab.1,ab.2.1,c,())))) (0,0,0,())) (λ(a:Ej)=>none) (λ(i:Nat) (a:Ej)=>am (bZ i 0) (some (x.1,0,11,()))) λ(r:OZ)=>some r
def Cu(x:fU):Option (aV):=ob (T (bE 0 x.1) (some (bE x.1 x.2.1,())) (some (false,()))) λ(a:aV)=>some (a.1,())
def FW(x:dr×Unit):Option (aV):=letI b:Option aV:=some (false,());letI c:=x.1.2.2;letI e:=len c.2.2.2.1;ob (T (a_ (ag x.1.1 1)) (some (a_ (ag x.1.1 2),())) b) λ(a:aV)=>T a.1 (some (false,())) (am (aU 0 (bf 2)) (am (aU 1 (bf 2)) (ci (bN (λ(ab:eH)=>letI d:=ab.2.1;T (aJ d 3) (am (aU d (bf 3)) (ob (Cu (ak [ak c.1 (aa 0) 0,ak c.1 (aa 1) 0,c.2.2.1] (aa d) 0,4611686018427387904,())) λ(a:aV)=>T (a_ a.1) (some (aE.rt (false,()))) (some (aE.nx (ab.1,i64 (av d 1),()))))) (some (aE.ex 0 (ab.1,d,())))) (false,0,())) (λ(a:eH)=>none) (λ(i:Nat) (a:eH)=>am (bZ i 0) (ob (Cu (x.1.2.1,1,())) λ(a:aV)=>ob (T a.1 (ob (Cu (c.2.1,2147483647,())) λ(a:aV)=>T a.1 (T (bE 1 e) (some (bE e 900,())) b) b) b) λ(a:aV)=>some (a.1,()))) λ(r:aV)=>some r)))
def w6(x:dr×Unit):Option (cw):=letI b:=x.1.2.2;letI c:=len [ak b.1 (aa 0) 0,ak b.1 (aa 1) 0];letI d:=len [x.1.1,x.1.2.1];letI e:=b.2.2;letI f:=len [b.2.1];ob (FW (x.1,())) λ(a:aV)=>T (a_ a.1) (some (aO UInt8,1,())) (ci (bN (λ(ab:iG)=>T (aJ ab.1 d) (am (aU ab.1 d) (ob (pw (ak [x.1.1,x.1.2.1] (aa ab.1) 0,1,())) λ(a:cw)=>am (cB 1 (bQ (aT ab.2.1) (aT a.1))) (some (aE.nx (i64 (av ab.1 1),bv ab.2.1 a.1,()))))) (some (aE.ex 0 (ab.1,ab.2.1,())))) j1) (λ(a:iG)=>none) (λ(i:Nat) (a:iG)=>am (bZ i 0) (am (aU 0 (bf 2)) (am (aU 1 (bf 2)) (ci (bN (λ(ab:iG)=>T (aJ ab.1 c) (am (aU ab.1 c) (ob (pw (ak [ak b.1 (aa 0) 0,ak b.1 (aa 1) 0] (aa ab.1) 0,8,())) λ(a:cw)=>am (cB 1 (bQ (aT ab.2.1) (aT a.1))) (some (aE.nx (i64 (av ab.1 1),bv ab.2.1 a.1,()))))) (some (aE.ex 0 (ab.1,ab.2.1,())))) (0,a.2.1,())) (λ(a:iG)=>none) (λ(i:Nat) (a:iG)=>am (bZ i 0) (ci (bN (λ(ab:iG)=>T (aJ ab.1 f) (am (aU ab.1 f) (ob (pw (ak [b.2.1] (aa ab.1) 0,4,())) λ(a:cw)=>am (cB 1 (bQ (aT ab.2.1) (aT a.1))) (some (aE.nx (i64 (av ab.1 1),bv ab.2.1 a.1,()))))) (some (aE.ex 0 (ab.1,ab.2.1,())))) (0,a.2.1,())) (λ(a:iG)=>none) (λ(i:Nat) (a:iG)=>am (bZ i 0) (ci (bN (λ(ab:iG)=>T (aJ ab.1 (len [e.1])) (am (aU ab.1 (len [e.1])) (ob (pw (ak [e.1] (aa ab.1) 0,8,())) λ(a:cw)=>am (cB 1 (bQ (aT ab.2.1) (aT a.1))) (some (aE.nx (i64 (av ab.1 1),bv ab.2.1 a.1,()))))) (some (aE.ex 0 (ab.1,ab.2.1,())))) (0,a.2.1,())) (λ(a:iG)=>none) (λ(i:Nat) (a:iG)=>am (bZ i 0) (am (cB 1 (bQ (aT a.2.1) (aT e.2.1))) (some (bv a.2.1 e.2.1,0,())))) λ(r:Unit)=>none)) λ(r:Unit)=>none)) λ(r:Unit)=>none)))) λ(r:Unit)=>none)
def Dk(x:Ek):Option (aV):=letI c:=len x.1;T (a_ (ag c (len x.2.1))) (some (false,())) (ci (bN (λ(ab:Vk)=>letI b:=ab.2.1;T (aJ b c) (am (aU b c) (am (aU b (len x.2.1)) (some (aE.nx (u8 (gM IntKind.u8 (aI ab.1) (aI (u8 (fx IntKind.u8 (aI (ak x.1 (aa b) (u8 0))) (aI (ak x.2.1 (aa b) (u8 0))))))),i64 (av b 1),()))))) (some (aE.ex 0 (ab.1,b,())))) (u8 0,0,())) (λ(a:Vk)=>none) (λ(i:Nat) (a:Vk)=>am (bZ i 0) (some (ag (aI a.1) (aI (u8 0)),()))) λ(r:aV)=>some r)
def NH(x:Vr):Option (Vr):=letI a:=len x.1;am (cZ (ca 0 a a) (ag a a)) (some (sub x.1 0 a,()))
def kC(x:UInt32×Int×Unit):Option (s4):=letI a:=cD (u64 (iI IntKind.u64 (cD (u64 x.2.1)) (cD (u64 31))));some (u32 (gM IntKind.u32 (aS (u32 (ho IntKind.u32 (aS x.1) a))) (aS (u32 (fp IntKind.u32 (aS x.1) (cD (u64 (bi (cD (u64 32)) a))))))),())
def Nv(x:co):Option (Vl):=letI f:=len x.1;ci (bN (λ(ab:we)=>letI b:=i64 (e_ 4 ab.1);letI c:=i64 (bi ab.1 15);letI d:=ab.2.1;letI e:=i64 (bi ab.1 2);letI g:=i64 (bi ab.1 16);letI h:=aU ab.1 (bf 64);letI j:=i64 (bi ab.1 7);letI k:=i64 (av b 1);letI l:=i64 (av b 2);letI m:=i64 (av b 3);T (aJ ab.1 64) (T (aJ ab.1 16) (am (aU b f) (am (aU k f) (am (aU l f) (am (aU m f) (am h (some (aE.nx (i64 (av ab.1 1),cj d (aa ab.1) (u32 (gM IntKind.u32 (aS (u32 (gM IntKind.u32 (aS (u32 (gM IntKind.u32 (aS (u32 (ho IntKind.u32 (aS (u32 (aI (ak x.1 (aa b) (u8 0))))) (cD (u64 24))))) (aS (u32 (ho IntKind.u32 (aS (u32 (aI (ak x.1 (aa k) (u8 0))))) (cD (u64 16)))))))) (aS (u32 (ho IntKind.u32 (aS (u32 (aI (ak x.1 (aa l) (u8 0))))) (cD (u64 8)))))))) (aS (u32 (aI (ak x.1 (aa m) (u8 0))))))),())))))))) (am (aU c (bf 64)) (am (aU e (bf 64)) (ob (kC (ak d (aa c) (u32 0), -7,())) λ(a:s4)=>ob (kC (ak d (aa c) (u32 0), -18,())) λ(a6:s4)=>ob (kC (ak d (aa e) (u32 0), -17,())) λ(bR:s4)=>ob (kC (ak d (aa e) (u32 0), -19,())) λ(bS:s4)=>am (aU j (bf 64)) (am (aU g (bf 64)) (am h (some (aE.nx (i64 (av ab.1 1),cj d (aa ab.1) (u32 (av (aS (u32 (av (aS (u32 (av (aS (u32 (fx IntKind.u32 (aS (u32 (fx IntKind.u32 (aS bR.1) (aS bS.1)))) (aS (u32 (fp IntKind.u32 (aS (ak d (aa e) (u32 0))) (cD (u64 10)))))))) (aS (ak d (aa j) (u32 0)))))) (aS (u32 (fx IntKind.u32 (aS (u32 (fx IntKind.u32 (aS a.1) (aS a6.1)))) (aS (u32 (fp IntKind.u32 (aS (ak d (aa c) (u32 0))) (cD (u64 3))))))))))) (aS (ak d (aa g) (u32 0))))),()))))))))) (some (aE.ex 0 (ab.1,d,())))) (0,Wn,())) (λ(a:we)=>none) (λ(i:Nat) (a:we)=>am (bZ i 0) (some (a.2.1,()))) λ(r:Vl)=>some r
def Nu(x:List UInt32×V×Unit):Option (IX):=letI k:=aU 4 (bf 8);letI n:=aU 0 (bf 8);letI o:=aU 1 (bf 8);letI p:=aU 2 (bf 8);T (a_ (ag (len x.2.1) 64)) (some (x.1,1,())) (ob (Nv (x.2.1,())) λ(a:Vl)=>ci (bN (λ(x:we)=>letI c:=x.2.1;letI d:=dU c (aa 1) (cd (aa (bf 8)) (aa 1)) (cut c (aa 0) (cd (aa 7) (aa 0)));letI f:=aS (ak c (aa 4) (u32 0));letI g:=aS (ak c (aa 0) (u32 0));letI h:=aS (ak c (aa 1) (u32 0));letI j:=aS (ak c (aa 2) (u32 0));letI l:=aU x.1 (bf 64);T (aJ x.1 64) (am l (am n (am k (ob (kC (ak c (aa 4) (u32 0), -6,())) λ(a6:s4)=>ob (kC (ak c (aa 4) (u32 0), -11,())) λ(bR:s4)=>ob (kC (ak c (aa 4) (u32 0), -25,())) λ(bS:s4)=>letI b:=aS (u32 (av (aS (u32 (av (aS (u32 (av (aS (u32 (av (aS (ak c (aa 7) (u32 0))) (aS (u32 (fx IntKind.u32 (aS (u32 (fx IntKind.u32 (aS a6.1) (aS bR.1)))) (aS bS.1))))))) (aS (u32 (fx IntKind.u32 (aS (u32 (iI IntKind.u32 f (aS (ak c (aa 5) (u32 0)))))) (aS (u32 (iI IntKind.u32 (aS (u32 (fx IntKind.u32 4294967295 f))) (aS (ak c (aa 6) (u32 0)))))))))))) (aS (ak (ak [pL] 0 Wn) (aa x.1) (u32 0)))))) (aS (ak a.1 (aa x.1) (u32 0)))));ob (kC (ak c (aa 0) (u32 0), -2,())) λ(dm:s4)=>ob (kC (ak c (aa 0) (u32 0), -13,())) λ(j5:s4)=>ob (kC (ak c (aa 0) (u32 0), -22,())) λ(oB:s4)=>am (aU 7 (bf 8)) (am (aU 5 (bf 8)) (am (aU 6 (bf 8)) (am l (am o (am p (am o (am p (am (ca 1 (bf 8) (bf 8)) (am (ca 0 7 (bf 8)) (am k (am k (am n (some (aE.nx (i64 (av x.1 1),cj (cj d (aa 4) (u32 (av (aS (ak d (aa 4) (u32 0))) b))) (aa 0) (u32 (av b (aS (u32 (av (aS (u32 (fx IntKind.u32 (aS (u32 (fx IntKind.u32 (aS dm.1) (aS j5.1)))) (aS oB.1)))) (aS (u32 (fx IntKind.u32 (aS (u32 (fx IntKind.u32 (aS (u32 (iI IntKind.u32 g h))) (aS (u32 (iI IntKind.u32 g j)))))) (aS (u32 (iI IntKind.u32 h j))))))))))),()))))))))))))))))))) (some (aE.ex 0 (x.1,c,())))) (0,x.1,())) (λ(a:we)=>none) (λ(i:Nat) (a:we)=>am (bZ i 0) (ci (bN (λ(x:we)=>letI e:=aU x.1 (bf 8);letI m:=aa x.1;T (aJ x.1 8) (am e (am e (am e
 (some (aE.nx (i64 (av x.1 1),cj x.2.1 m (u32 (av (aS (ak x.2.1 m (u32 0))) (aS (ak a.2.1 m (u32 0))))),())))))) (some (aE.ex 2 (x.1,x.2.1,())))) (0,x.1,())) (λ(a:we)=>none) (λ(i:Nat) (a:we)=>am (bZ i 2) (some (a.2.1,0,()))) λ(r:IX)=>some r)) λ(r:IX)=>some r)
def x'(x:(List UInt32×Int×V×Unit)×V×Unit):Option (rI):=letI h:=x.1.2;letI f:=len x.2.1;letI d:=len h.2.1;letI c:=i64 (av d f);letI g:=bO (aa c) (u8 0);letI b:=dU g 0 (aT g) h.2.1;T (aJ (i64 (bi 1125899906842624 h.1)) f) (some (x.1,())) (am (cZ (ca 0 c c) (cB 1 (aa c))) (am (ca d (len b) (len b)) (ci (bN (λ(x:Vo)=>letI e:=len x.1;T (bE 64 e) (am (ca 0 64 e) (ob (Nu (x.2.1.1,cut x.1 (aa 0) (cd (aa 64) (aa 0)),())) λ(a:IX)=>am (ca 64 e e) (some (aE.nx (cut x.1 (aa 64) (cd (aa e) (aa 64)),(a.1,x.2.1.2),()))))) (some (aE.ex 0 (x.1,x.2.1,())))) (dU b (aa d) (cd (aa (len b)) (aa d)) x.2.1,(x.1.1,i64 (av h.1 f),h.2),())) (λ(a:Vo)=>none) (λ(i:Nat) (a:Vo)=>am (bZ i 0) (some ((a.2.1.1,a.2.1.2.1,a.1,a.2.1.2.2.2),()))) λ(r:rI)=>some r)))
def Iv(x:Unit):Option (rI):=some (([u32 1779033703,u32 3144134277,u32 1013904242,u32 2773480762,u32 1359893119,u32 2600822924,u32 528734635,u32 1541459225],0,aO UInt8,()),())
def A8(x:rI):Option (co):=letI g:=bO (aa 0) (u8 0);letI k:=bv g x.1.2.2.1;am (cZ (ca 0 0 128) (cB 1 (aa 128))) (am (cB 1 (bQ (aT g) (aT x.1.2.2.1))) (am (cB 1 (bQ (aT k) (aT [u8 128]))) (ci (bN (λ(x:co)=>T (a_ (ag (dh (len x.1) 64) 56)) (am (cB 1 (bQ (aT x.1) (aT [u8 0]))) (some (aE.nx (bv x.1 [u8 0],())))) (some (aE.ex 0 (x.1,())))) (bv k [u8 128],())) (λ(a:co)=>none) (λ(i:Nat) (a:co)=>am (bZ i 0) (ci (bN (λ(ab:cw)=>letI j:=ab.2.1;letI c:=fp IntKind.i64 (i64 (e_ 8 x.1.2.1)) j;T (bE 0 j) (am (bE 0 j) (am (cB 1 (bQ (aT ab.1) (aT [u8 c]))) (some (aE.nx (bv ab.1 [u8 c],i64 (bi j 8),()))))) (some (aE.ex 2 (ab.1,j,())))) (a.1,56,())) (λ(a:cw)=>none) (λ(i:Nat) (a:cw)=>am (bZ i 2) (ci (bN (λ(x:Vw)=>letI h:=len x.1;T (aJ 0 h) (am (ca 0 64 h) (ob (Nu (x.2.1,cut x.1 (aa 0) (cd (aa 64) (aa 0)),())) λ(a:IX)=>am (ca 64 h h) (some (aE.nx (cut x.1 (aa 64) (cd (aa h) (aa 64)),a.1,()))))) (some (aE.ex 4 (x.1,x.2.1,())))) (a.1,x.1.1,())) (λ(a:Vw)=>none) (λ(i:Nat) (a:Vw)=>am (bZ i 4) (am (cZ (ca 0 0 32) (cB 1 (aa 32))) (ci (bN (λ(x:cw)=>letI l:=x.2.1;letI b:=aS (ak a.2.1 (aa l) (u32 0));letI d:=aS (u32 (fp IntKind.u32 b (cD (u64 24))));letI e:=aS (u32 (fp IntKind.u32 b (cD (u64 16))));letI f:=aS (u32 (fp IntKind.u32 b (cD (u64 8))));T (aJ l 8) (am (aU l (bf 8)) (am (cB 1 (bQ (aT x.1) (aT [u8 d,u8 e,u8 f,u8 b]))) (some (aE.nx (bv x.1 [u8 d,u8 e,u8 f,u8 b],i64 (av l 1),()))))) (some (aE.ex 6 (x.1,l,())))) (bO (aa 0) (u8 0),0,())) (λ(a:cw)=>none) (λ(i:Nat) (a:cw)=>am (bZ i 6) (some (a.1,()))) λ(r:co)=>some r))) λ(r:co)=>some r)) λ(r:co)=>some r)) λ(r:co)=>some r)))
def Iw(x:co):Option (co):=ob (Iv ()) λ(a:rI)=>ob (x' (a.1,x.1,())) λ(a:rI)=>ob (A8 (a.1,())) λ(a:co)=>some (a.1,())
def Tn(x:co):Option (co):=letI b:=bO (aa 64) (u8 0);am (cZ (ca 0 64 64) (cB 1 (aa 64))) (T (aJ 64 (len x.1)) (ob (Iw (x.1,())) λ(a:co)=>some (dU b 0 (aT b) a.1,())) (some (dU b 0 (aT b) x.1,())))
def Dl(x:Ek):Option (co):=letI b:=cZ (ca 0 64 64) (cB 1 (aa 64));ob (Tn (x.1,())) λ(a:co)=>letI c:=len a.1;am b (ci (bN (λ(x:iG)=>T (aJ x.1 c) (am (aU x.1 c) (am (aU x.1 (len x.2.1)) (some (aE.nx (i64 (av x.1 1),cj x.2.1 (aa x.1) (u8 (fx IntKind.u8 (aI (ak a.1 (aa x.1) (u8 0))) (aI (u8 92)))),()))))) (some (aE.ex 0 (x.1,x.2.1,())))) (0,bO (aa 64) (u8 0),())) (λ(a:iG)=>none) (λ(i:Nat) (a6:iG)=>am (bZ i 0) (ob (Iv ()) λ(bR:rI)=>ob (x' (bR.1,a6.2.1,())) λ(bS:rI)=>am b (ci (bN (λ(x:iG)=>T (aJ x.1 c) (am (aU x.1 c) (am (aU x.1 (len x.2.1)) (some (aE.nx (i64 (av x.1 1),cj x.2.1 (aa x.1) (u8 (fx IntKind.u8 (aI (ak a.1 (aa x.1) (u8 0))) (aI (u8 54)))),()))))) (some (aE.ex 0 (x.1,x.2.1,())))) (0,bO (aa 64) (u8 0),())) (λ(a:iG)=>none) (λ(i:Nat) (a:iG)=>am (bZ i 0) (ob (Iv ()) λ(dm:rI)=>ob (x' (dm.1,a.2.1,())) λ(a:rI)=>ob (x' (a.1,x.2.1,())) λ(a:rI)=>ob (A8 (a.1,())) λ(a:co)=>ob (x' (bS.1,a.1,())) λ(a:rI)=>ob (A8 (a.1,())) λ(a:co)=>some (a.1,()))) λ(r:Unit)=>none))) λ(r:Unit)=>none)
def DN(x:Ek):Option (co):=ob (Dl (x.1,x.2.1,())) λ(a:co)=>am (ca 0 16 (len a.1)) (some (cut a.1 (aa 0) (cd (aa 16) (aa 0)),()))
def MM(x:fk×V×V×Unit):Option (fk×V×Unit):=letI b:=DN (x.2.1,x.2.2.1,());ob (H5 (x.1,x.2.1,x.2.2.1,())) λ(a:aV)=>T (a_ a.1) (ob (NH (x.1.2.1,())) λ(a:Vr)=>ob (Kg (x.2.1,())) λ(a6:co)=>ob (Kg (x.2.2.1,())) λ(bR:co)=>am (cB 56 (bQ (aT a.1) (aT [(a6.1,bR.1,())]))) (ob b λ(bS:co)=>some ((x.1.1,bv a.1 [(a6.1,bR.1,())],x.1.2.2),bS.1,()))) (ob b λ(a:co)=>some (x.1,a.1,()))
def Ct(x:dr×Unit):Option (aV):=ob (FW (x.1,())) λ(a:aV)=>ob (T a.1 (some (ag (len x.1.2.2.2.2.2.2.1) 16,())) (some (false,()))) λ(a:aV)=>some (a.1,())
def KU(x:dr×Unit):Option (cw):=letI b:=x.1.2.2.2.2.2.2.1;ob (Ct (x.1,())) λ(a:aV)=>T (a_ a.1) (some (aO UInt8,1,())) (ob (w6 (x.1,())) λ(a:cw)=>am (cB 1 (bQ (aT a.1) (aT b))) (some (bv a.1 b,0,())))
def Rl(x:co):Option (cw):=letI b:=len x.1;letI c:=fp IntKind.i64 b (cD (u64 8));ob (T (aJ b 1) (some (true,())) (some (aJ 1024 b,()))) λ(a:aV)=>T a.1 (some (aO UInt8,1,())) (am (cB 1 (bQ (aT [u8 c,u8 b]) (aT x.1))) (some (bv [u8 c,u8 b] x.1,0,())))
def NI(x:qQ):Option (qQ):=letI a:=len x.1;am (cZ (ca 0 a a) (ag a a)) (some (sub x.1 0 a,()))
def Hr(x:e4×dr×V×Unit):Option (e5):=letI d:=x.1.1.2.2;letI b:=d.2.2.2.2.2;letI c:=b.2.2.2.2.2;letI e:=x.2.1.2.2;ob (SL (c.2.2.2.1,())) λ(a:OZ)=>T (a_ (ag a.2.2.1 0)) (some (x.1,a.2.2.1,())) (ob (w6 (x.2.1,())) λ(a6:cw)=>ob (MM (x.1.2.1,x.2.2.1,a6.1,())) λ(bR:fk×V×Unit)=>ob (KU ((x.2.1.1,x.2.1.2.1,e.1,e.2.1,e.2.2.1,e.2.2.2.1,bR.2.1,e.2.2.2.2.2),())) λ(bS:cw)=>ob (Rl (bS.1,())) λ(dm:cw)=>ob (NI (c.2.2.2.2.1,())) λ(j5:qQ)=>am (cB 56 (bQ (aT j5.1) (aT [(a.2.1,dm.1,())]))) (some (((x.1.1.1,x.1.1.2.1,d.1,d.2.1,d.2.2.1,d.2.2.2.1,d.2.2.2.2.1,b.1,b.2.1,b.2.2.1,b.2.2.2.1,b.2.2.2.2.1,c.1,c.2.1,c.2.2.1,a.1,bv j5.1 [(a.2.1,dm.1,())],c.2.2.2.2.2),bR.1,x.1.2.2),0,())))
def np(x:BQ):Option (e5):=letI b:=x.1.1.2.2.2.2.2.2.2.2;ob (Hs (x.2.1,())) λ(a:aV)=>T (a_ a.1) (some (x.1,1,())) (ob (um (x.1.1.2.2.1,())) λ(a:aV)=>T (a_ a.1) (some (x.1,7,())) (T (ag b.1 4611686018427387904) (some (x.1,10,())) (ob (nn (x.1.1,())) λ(a:rH)=>ob (Hr (x.1,(2,x.1.1.1,a.1,b.2.2.1.1.1,b.1,x.2.1,aO UInt8,()),b.2.2.1.1.2.1,())) λ(a:e5)=>letI c:=a.1.1.2.2.2;letI d:=c.2.2.2;T (ag a.2.1 0) (some (((a.1.1.1,a.1.1.2.1,a.1.1.2.2.1,c.1,c.2.1,c.2.2.1,d.1,d.2.1,i64 (av d.2.2.1 1),d.2.2.2),a.1.2),a.2.1,())) (some (a.1,a.2.1,())))))
def J8(x:c9):Option (c9):=ob (T (aJ x.1 0) (some (true,())) (some (bE 999999 x.1,()))) λ(a:aV)=>T a.1 (some (1,())) (some (i64 (av x.1 1),()))
def J6(x:c9):Option (aV):=letI b:Option (aV):=some (true,());letI a:Option (aV):=some (false,());T (ag x.1 1) (T (ag x.1 1) b a) (T (ag x.1 2) (T (ag x.1 2) b a) (T (ag x.1 101) (T (ag x.1 101) b a) (T (ag x.1 201) (T (ag x.1 201) b a) (T (ag x.1 301) b a))))
def J9(x:IY):Option (aV):=letI b:Option aV:=some (false,());letI c:=len x.2.2.1;ob (J6 (x.1,())) λ(a:aV)=>ob (T a.1 (T (bE 1 x.2.1) (T (bE x.2.1 999999) (T (bE 1 c) (some (bE c 900,())) b) b) b) b) λ(a:aV)=>some (a.1,())
def J5(x:IY):Option (gv×Int×Unit):=ob (J9 (x.1,x.2.1,x.2.2.1,())) λ(a:aV)=>T (a_ a.1) (some (om,1,())) (some ((x.1,x.2.1,8,3,x.2.2.1,()),0,()))
def Mb(x:V×V×List V×Unit):Option (cw):=letI f:=len x.2.2.1;letI g:=len x.2.1;ob (T (aJ 255 g) (some (true,())) (some (aJ 16 f,()))) λ(a:aV)=>T a.1 (some (aO UInt8,1,())) (am (cB 1 (bQ (aT [u8 g]) (aT x.2.1))) (ci (bN (λ(ab:Ba)=>letI e:=ab.2.2.1;letI b:=ak x.2.2.1 (aa e) (aO UInt8);letI c:=fp IntKind.i64 (len b) (cD (u64 8));letI d:=bv ab.2.1 [u8 c,u8 (len b)];T (aJ e f) (am (aU e f) (T (aJ 65535 (len b)) (some (aE.rt (aO UInt8,1,()))) (am (cB 1 (bQ (aT ab.2.1) (aT [u8 c,u8 (len b)]))) (am (cB 1 (bQ (aT d) (aT b))) (some (aE.nx (ab.1,bv d b,i64 (av e 1),()))))))) (some (aE.ex 0 (ab.1,ab.2.1,e,())))) (0,bv [u8 g] x.2.1,0,())) (λ(a:Ba)=>none) (λ(i:Nat) (a:Ba)=>am (bZ i 0) (ob (Dl (x.1,a.2.1,())) λ(a:co)=>some (a.1,0,()))) λ(r:cw)=>some r))
def Ad(x:co):Option (co):=ob (Mb (x.1,[98,97,115,101],aO V,())) λ(a:cw)=>some (a.1,())
def Df(x:e4×Int×V×Unit):Option (e5):=letI b:=x.1.1.2;ob (Ag (4611686018427387904,[x.2.1],())) λ(a:aV)=>ob (T (a_ a.1) (some (true,())) (ob (Hs (x.2.2.1,())) λ(a:aV)=>some (a_ a.1,()))) λ(a:aV)=>T a.1 (some (x.1,1,())) (ob (nn ((x.1.1.1,b.1,b.2.1,b.2.2.1,b.2.2.2.1,b.2.2.2.2.1,x.2.1,b.2.2.2.2.2.2),())) λ(a:rH)=>ob (Ad (b.1,())) λ(a6:co)=>ob (Hr (x.1,(1,x.1.1.1,a.1,0,0,x.2.2.1,aO UInt8,()),a6.1,())) λ(a:e5)=>some (a.1,a.2.1,()))
def A9(x:wJ):Option (bK):=letI c:=x.1.1.2;letI f:=c.2.2;letI b:=f.2.2;letI d:=b.2.2.2;letI e:=x.2.1.2;letI g:=d.2.2;ob (J8 (g.2.2.1,())) λ(a:c9)=>ob (pQ ((x.2.1.1,e.1,a.1,e.2.2),())) λ(a6:cw)=>ob (J5 (e.1,a.1,a6.1,())) λ(bR:gv×Int×Unit)=>ob (T (a_ (ag a6.2.1 0)) (some (true,())) (some (a_ (ag bR.2.1 0),()))) λ(bS:aV)=>T bS.1 (some (x.1,())) (T (ag e.1 1) (ob (Df (((x.1.1.1,c.1,c.2.1,f.1,f.2.1,b.1,b.2.1,b.2.2.1,d.1,d.2.1,g.1,bR.1,a.1,g.2.2.2),x.1.2),0,a6.1,())) λ(a:e5)=>some (a.1,())) (ob (np (((x.1.1.1,c.1,c.2.1,f.1,f.2.1,b.1,b.2.1,b.2.2.1,d.1,d.2.1,g.1,bR.1,a.1,g.2.2.2),x.1.2),a6.1,())) λ(a:e5)=>some (a.1,())))
def xV(x:c9):Option (aV):=letI b:=AG (x.1,());ob b λ(a:c9)=>ob (T (ag a.1 3) (some (true,())) (ob b λ(a:c9)=>some (ag a.1 4,()))) λ(a:aV)=>some (a.1,())
def Ii(x:Vu):Option (aV):=ob (T (ag x.1.1 0) (some (ag (len x.1.2.1) 0,())) (some (false,()))) λ(a:aV)=>some (a.1,())
def M'(x:(fa×Unit)×Unit):Option (qQ):=some ([x.1.1.1,x.1.1.2.1,x.1.1.2.2.1],())
def M?(x:(fa×Unit)×Unit):Option (aV):=ob (M' (x.1,())) λ(a:qQ)=>ci (bN (λ(x:eH)=>T (aJ x.2.1 3) (am (aU x.2.1 (bf 3)) (ob (Ii (ak a.1 (aa x.2.1) j1,())) λ(a:aV)=>T (a_ a.1) (some (aE.rt (false,()))) (some (aE.nx (x.1,i64 (av x.2.1 1),()))))) (some (aE.ex 0 (x.1,x.2.1,())))) (false,0,())) (λ(a:eH)=>none) (λ(i:Nat) (a:eH)=>am (bZ i 0) (ob (T (ag x.1.1.2.2.2.1 0) (some (ag x.1.1.2.2.2.2.1 0,())) (some (false,()))) λ(a:aV)=>some (a.1,()))) λ(r:aV)=>some r
def M8(x:tl):Option (fU):=ob (M? ((x.1,()),())) λ(a:aV)=>T a.1 (some (0,9,())) (T (ag x.1.2.2.2.2.1 2147483647) (some (0,10,())) (some (i64 (av x.1.2.2.2.2.1 1),0,())))
def x4(x:bK):Option (E2):=some (((x.1.1,()),x.1,()),())
def Ae(x:V×List Int×Int×V×Unit):Option (co):=letI b:=some (aO UInt8,());letI c:=aU 0 (bf 2);letI d:=aU 1 (bf 2);am c (am d (ob (Ag (4611686018427387904,[ak x.2.1 (aa 0) 0,ak x.2.1 (aa 1) 0],())) λ(a:aV)=>T (a_ a.1) b (ob (Ag (2147483647,[x.2.2.1],())) λ(a:aV)=>T (a_ a.1) b (am c (ob (pw (ak x.2.1 (aa 0) 0,8,())) λ(a:cw)=>am d (ob (pw (ak x.2.1 (aa 1) 0,8,())) λ(a6:cw)=>ob (pw (x.2.2.1,4,())) λ(bR:cw)=>ob (Mb (x.1,[108,105,110,107],[a.1,a6.1,bR.1,x.2.2.2.1],())) λ(a:cw)=>some (a.1,())))))))
def AP(x:(q1×Unit)×Int×V×Unit):Option (co):=ob (nn (x.1.1,())) λ(a:rH)=>ob (Ae (x.1.1.2.1,a.1,x.2.1,x.2.2.1,())) λ(a:co)=>some (a.1,())
def M_(x:Vu):Option (aV):=letI b:=some (false,());ob (T (bE 1 x.1.1) (T (bE x.1.1 2147483647) (some (ag (len x.1.2.1) 32,())) b) b) λ(a:aV)=>some (a.1,())
def DX(x:fa×Int×V×Unit):Option (tj):=letI b:=x.1.2.2;letI c:=some (true,());letI d:=x.2.1;ob (M_ ((d,x.2.2.1,()),())) λ(a:aV)=>T (a_ a.1) (some (x.1,1,())) (ob (M? ((x.1,()),())) λ(a:aV)=>ob (T a.1 c (T (bE d x.1.1.1) c (some (aJ d b.1.1,())))) λ(a:aV)=>T a.1 (some (x.1,9,())) (some ((x.1.1,x.1.2.1,(d,x.2.2.1,()),b.2.1,cU b.2.2.1 d,b.2.2.2),0,())))
def qK(x:fU):Option (iZ):=letI c:Option aV:=some (false,());letI b:Option (iZ):=some (x.1,false,());letI d:=x.2.1;letI j:=ag d 9;letI e:=T j true false;letI f:=ag d 4;letI g:=ag d 5;letI h:=T j 0 0;ob (AG (x.1,())) λ(a:c9)=>letI i:=some (bE 0 a.1,());ob (T (ag x.1 8) (some (ag d 11,())) c) λ(a6:aV)=>T a6.1 (some (0,true,())) (ob (T (ag x.1 8) (some (ag d 12,())) c) λ(bR:aV)=>T bR.1 (some (7,true,())) (ob (T (ag d 10) (T (bE 0 a.1) (some (true,())) (some (ag x.1 7,()))) c) λ(bS:aV)=>T bS.1 (some (8,true,())) (ob (T (ag d 0) i c) λ(dm:aV)=>T dm.1 (some (1,true,())) (ob (T (ag d 2) i c) λ(j5:aV)=>T j5.1 (some (2,true,())) (T (ag a.1 1) (T (T (ag d 1) true (T f true e)) (some (T (ag d 1) 3 (T f 0 h),true,())) b) (T (ag a.1 2) (T (T (ag d 3) true (T f true false)) (some (T (ag d 3) 3 (T f 0 0),true,())) b) (T (ag a.1 3) (T (T f true (T g true (T (ag d 6) true (T (ag d 7) true e)))) (some (T f 6 (T g 0 (T (ag d 6) 4 (T (ag d 7) 5 h))),true,())) b) (T (ag a.1 4) (T (T f true (T g true (T (ag d 8) true e))) (some (T f 6 (T g 0 (T (ag d 8) 3 (T j 3 0))),true,())) b) (T (ag a.1 5) (T (T g true e) (some (T g 0 h,true,())) b) b)))))))))
def HA(x:co):Option (co):=am (cZ (ca 0 8 8) (cB 1 (aa 8))) (ob (Dl (x.1,bO (aa 8) (u8 0),())) λ(a:co)=>am (ca 0 3 (len a.1)) (some (cut a.1 (aa 0) (cd (aa 3) (aa 0)),())))
def M3(x:BQ):Option (e5):=letI c:=x.1.1.2.2;letI b:=c.2.2.2.2;letI d:=b.2.2.2.2;letI e:=some (true,());T (a_ (ag (len x.2.1) 8)) (some (x.1,1,())) (ob (xV (c.1,())) λ(a:aV)=>T (a_ a.1) (some (x.1,7,())) (ob (T (a_ (ag c.1 3)) e (T (a_ (ag d.2.1.1 0)) e (some (aJ 0 d.1.2.2.1.1,())))) λ(a:aV)=>T a.1 (some (x.1,9,())) (ob (M8 (d.1,())) λ(a:fU)=>T (a_ (ag a.2.1 0)) (some (x.1,a.2.1,())) (ob (x4 (x.1,())) λ(a6:E2)=>ob (AP (a6.1.1,a.1,x.2.1,())) λ(bR:co)=>ob (DX (d.1,a.1,bR.1,())) λ(bS:tj)=>ob (qK (c.1,6,())) λ(dm:iZ)=>ob (HA (bR.1,())) λ(j5:co)=>ob (A9 (((x.1.1.1,x.1.1.2.1,dm.1,c.2.1,c.2.2.1,c.2.2.2.1,b.1,b.2.1,b.2.2.1,b.2.2.2.1,bS.1,d.2),x.1.2),(true,101,0,0,a.1,x.2.1,j5.1,0,()),())) λ(a:bK)=>some (a.1,0,())))))
def v6(x:(q1×Unit)×Unit):Option (aV):=some (ag x.1.1.2.2.1 4,())
def AQ(x:bK):Option (bK):=letI d:=x.1.1.2;letI b:=d.2.2.2;letI c:=b.2.2.2;ob (qK (d.2.1,8,())) λ(a:iZ)=>some (((x.1.1.1,d.1,a.1,d.2.2.1,b.1,b.2.1,b.2.2.1,c.1,c.2.1,c.2.2.1,c.2.2.2.1,om,c.2.2.2.2.2),x.1.2),())
def Ih(x:tl):Option (tl):=some ((x.1.1,x.1.2.1,j1,x.1.2.2.2),())
def Ia(x:bK):Option (bK):=ob (x4 (x.1,())) λ(a:E2)=>ob (v6 (a.1.1,())) λ(a:aV)=>T (a_ a.1) (some (x.1,())) (ob (AQ (x.1,())) λ(a:bK)=>letI d:=a.1.1.2;letI b:=d.2.2.2;letI c:=b.2.2.2;ob (Ih (c.2.2.2.1,())) λ(a6:tl)=>some (((a.1.1.1,d.1,d.2.1,d.2.2.1,b.1,b.2.1,b.2.2.1,c.1,c.2.1,c.2.2.1,a6.1,c.2.2.2.2),a.1.2),()))
def kf(x:e5):Option (bK):=ci (bN (λ(ab:BP)=>letI f:=ab.2.1;letI d:=f.1.2.2;letI g:=d.2.2.2;letI b:=g.2.2.2;letI h:=b.2.2.2;letI c:=h.2.2.2;letI e:=aU ab.1 (bf 4);letI j:=c.2.2.2;letI k:=aa ab.1;T (aJ ab.1 4) (am e (T (ag (ak [2,5,6,13] k 0) x.2.1) (am e (am e (some (aE.nx (i64 (av ab.1 1),((f.1.1,f.1.2.1,d.1,d.2.1,d.2.2.1,g.1,g.2.1,g.2.2.1,b.1,b.2.1,b.2.2.1,h.1,h.2.1,h.2.2.1,c.1,c.2.1,c.2.2.1,j.1,cj j.2.1 k (i64 (av (ak j.2.1 k 0) 1)),j.2.2),f.2),()))))) (some (aE.nx (i64 (av ab.1 1),f,()))))) (some (aE.ex 0 (ab.1,f,())))) (0,x.1,())) (λ(a:BP)=>none) (λ(i:Nat) (a:BP)=>am (bZ i 0) (some (a.2.1,()))) λ(r:bK)=>some r
def M4(x:wJ):Option (bK):=letI c:Option q2:=qE (x.2.1,0,());letI i:=x.2.1.2.2.2.2;letI k:=x.1.1.2.2.2.2.2.2.2.2.2.2.1;ob (x4 (x.1,())) λ(a:E2)=>letI f:=a.1.2.1;letI p:=f.1.2;letI d:Option aV:=v6 (a.1.1,());letI b:Option (bK):=ob (kf (x.1,13,())) λ(a:bK)=>some (a.1,());letI e:=p.2.2;letI q:=e.2.2;letI j:=q.2.2;ob (AP (a.1.1,i.1,i.2.1,())) λ(a6:co)=>ob d λ(bR:aV)=>ob (T bR.1 (some (ag x.1.1.1 0,())) (some (false,()))) λ(bS:aV)=>T bS.1 b (ob (HA (a6.1,())) λ(dm:co)=>ob (Dk (dm.1,i.2.2.1,())) λ(j5:aV)=>T (a_ j5.1) (ob (qE (x.2.1,63,())) λ(oB:q2)=>ob (pQ (oB.1,())) λ(l1:cw)=>ob (np (f,l1.1,())) λ(a:e5)=>some (a.1,())) (T (ag i.1 k.1.1) (ob c λ(oB:q2)=>ob (pQ (oB.1,())) λ(l1:cw)=>ob (np (f,l1.1,())) λ(a:e5)=>some (a.1,())) (ob d λ(oB:aV)=>T oB.1 (ob (Ih (k,())) λ(l1:tl)=>ob (DX (l1.1,i.1,a6.1,())) λ(uW:tj)=>T (a_ (ag uW.2.1 0)) b (ob d λ(y4:aV)=>T y4.1 (ob (AQ (f,())) λ(a:bK)=>letI l:=a.1.1.2;letI g:=l.2.2.2;letI m:=g.2.2.2;ob c λ(r3:q2)=>ob (pQ (r3.1,())) λ(y3:cw)=>ob (np (((a.1.1.1,l.1,l.2.1,l.2.2.1,g.1,g.2.1,g.2.2.1,m.1,m.2.1,m.2.2.1,uW.1,m.2.2.2.2),a.1.2),y3.1,())) λ(a:e5)=>some (a.1,())) (ob c λ(r3:q2)=>ob (pQ (r3.1,())) λ(y3:cw)=>ob (np (((f.1.1,p.1,p.2.1,e.1,e.2.1,q.1,q.2.1,j.1,j.2.1,j.2.2.1,uW.1,j.2.2.2.2),f.2),y3.1,())) λ(a:e5)=>some (a.1,())))) (ob (DX (k,i.1,a6.1,())) λ(l1:tj)=>T (a_ (ag l1.2.1 0)) b (ob d λ(uW:aV)=>T uW.1 (ob (AQ (f,())) λ(a:bK)=>letI n:=a.1.1.2;letI h:=n.2.2.2;letI o:=h.2.2.2;ob c λ(y4:q2)=>ob (pQ (y4.1,())) λ(r3:cw)=>ob (np (((a.1.1.1,n.1,n.2.1,n.2.2.1,h.1,h.2.1,h.2.2.1,o.1,o.2.1,o.2.2.1,l1.1,o.2.2.2.2),a.1.2),r3.1,())) λ(a:e5)=>some (a.1,())) (ob c λ(y4:q2)=>ob (pQ (y4.1,())) λ(r3:cw)=>ob (np (((f.1.1,p.1,p.2.1,e.1,e.2.1,q.1,q.2.1,j.1,j.2.1,j.2.2.1,l1.1,j.2.2.2.2),f.2),r3.1,())) λ(a:e5)=>some (a.1,())))))))
def Po(x:gv×gv×Unit):Option (aV):=letI b:Option aV:=some (false,());letI c:=x.2.1.2;ob (T (ag x.1.1 x.2.1.1) (T (ag x.1.2.1 c.1) (T (ag x.1.2.2.1 c.2.1) (T (ag x.1.2.2.2.1 c.2.2.1) (ob (Cb (x.1.2.2.2.2.1,c.2.2.2.1,())) λ(a:aV)=>some (a.1,())) b) b) b) b) λ(a:aV)=>some (a.1,())
def Fl(x:gv×Unit):Option (aV):=ob (Po (x.1,om,())) λ(a:aV)=>some (a.1,())
def wO(x:gv×Int×Int×Unit):Option (aV):=letI b:=some (false,());ob (Fl (x.1,())) λ(a:aV)=>ob (T (a_ a.1) (T (ag x.1.1 x.2.1) (some (ag x.1.2.1 x.2.2.1,())) b) b) λ(a:aV)=>some (a.1,())
def AW(x:tl):Option (tj):=ob (Ii (x.1.2.2.1,())) λ(a:aV)=>T a.1 (some (x.1,9,())) (some ((x.1.2.2.1,x.1.1,j1,16,x.1.2.2.2.2),0,()))
def M2(x:wJ):Option (bK):=ob (x4 (x.1,())) λ(a:E2)=>ob (v6 (a.1.1,())) λ(a:aV)=>ob (T (a_ a.1) (some (true,())) (ob (wO (x.1.1.2.2.2.2.2.2.2.2.2.2.2.1,x.2.1.2.1,x.2.1.2.2.1,())) λ(a:aV)=>some (a_ a.1,()))) λ(a:aV)=>T a.1 (ob (kf (x.1,13,())) λ(a:bK)=>some (a.1,())) (T (a_ (ag x.2.1.2.2.2.1 0)) (ob (Ia (x.1,())) λ(a:bK)=>some (a.1,())) (ob (AQ (x.1,())) λ(a:bK)=>letI d:=a.1.1.2;letI b:=d.2.2.2;letI c:=b.2.2.2;ob (AW (c.2.2.2.1,())) λ(a6:tj)=>ob (A9 (((a.1.1.1,d.1,d.2.1,d.2.2.1,b.1,b.2.1,b.2.2.1,c.1,c.2.1,c.2.2.1,a6.1,c.2.2.2.2),a.1.2),(true,301,0,0,0,aO UInt8,aO UInt8,0,()),())) λ(a:bK)=>some (a.1,())))
def ya(x:Bd):Option (Bd):=letI a:=len x.1;am (cZ (ca 0 a a) (ag a a)) (some (sub x.1 0 a,()))
def Af(x:q1×Int×Unit):Option (BR):=letI c:=x.1.2.2.2;letI e:=c.2.2.2.2;letI b:=e.2.2.2.2.2;letI d:=b.2.2.2;ob (um (x.1.2.2.1,())) λ(a:aV)=>T a.1 (ob (ya (d.2.2.1,())) λ(a:Bd)=>ob (nn (x.1,())) λ(a6:rH)=>am (cB 128 (bQ (aT a.1) (aT [(5,a6.1,0,aO UInt8,())]))) (some ((x.1.1,x.1.2.1,x.2.1,c.1,c.2.1,0,0,e.1,0,(0,BE,()),EK,om,b.1,b.2.1,aO V,d.1,d.2.1,bv a.1 [(5,a6.1,0,aO UInt8,())],d.2.2.2),()))) (some ((x.1.1,x.1.2.1,x.2.1,c.1,c.2.1,0,0,e.1,0,(0,BE,()),EK,om,b.1,b.2.1,aO V,d),()))
def D?(x:bK):Option (bK):=T (ag x.1.1.2.2.1 8) (some (x.1,())) (ob (Af (x.1.1,8,())) λ(a:BR)=>some (((a.1.1,a.1.2.1,a.1.2.2.1,a.1.2.2.2.1, -1,0,0,0,0,(0,BE,()),EK,om,0,0,aO V,Wm,aO (Int×V×Unit),a.1.2.2.2.2.2.2.2.2.2.2.2.2.2.2.2.2.2.1,[0,0,0,0],()),x.1.2),()))
def IJ(x:c9):Option (cw):=ob (T (aJ x.1 1) (some (true,())) (some (aJ 4611686018427387904 x.1,()))) λ(a:aV)=>T a.1 (some (aO UInt8,1,())) (ob (pw (x.1,8,())) λ(a:cw)=>am (cB 1 (bQ (aT [u8 121,u8 101,u8 116,u8 116]) (aT a.1))) (ob (Iw (bv [u8 121,u8 101,u8 116,u8 116] a.1,())) λ(a6:co)=>letI b:=cut a6.1 (aa 0) (cd (aa 8) (aa 0));am (ca 0 8 (len a6.1)) (am (cB 1 (bQ (aT a.1) (aT b))) (some (bv a.1 b,0,())))))
def II(x:co):Option (iZ):=ob (la (x.1,0,8,())) λ(a:Ej)=>T (a_ (ag a.2.2.1 0)) (some (0,false,())) (ob (IJ (a.1,())) λ(a6:cw)=>ob (T (a_ (ag a6.2.1 0)) (some (true,())) (ob (Cb (a6.1,x.1,())) λ(a:aV)=>some (a_ a.1,()))) λ(bR:aV)=>T bR.1 (some (0,false,())) (some (a.1,true,())))
def U0(x:Int×Int×Bool×Bool×Unit):Option (iZ):=ob (T x.2.2.2.1 (T (a_ x.2.2.1) (some (true,())) (some (aJ x.1 x.2.1,()))) (some (false,()))) λ(a:aV)=>T a.1 (some (1,true,())) (some (0,x.2.2.1,()))
def IH(x:Vx):Option (Vy):=ob (II (x.1.1,())) λ(a:iZ)=>ob (II (x.1.2.1,())) λ(a6:iZ)=>ob (U0 (a.1,a6.1,a.2.1,a6.2.1,())) λ(bR:iZ)=>ob (T (ag bR.1 1) (some (a6.1,())) (some (a.1,()))) λ(a:c9)=>some (a.1,bR.1,bR.2.1,())
def Ee(x:s3):Option (co):=letI d:=len x.1;letI e:=aO UInt8;ci (bN (λ(ab:fU)=>letI h:=ab.2.1;letI c:=av ab.1 (len (ak x.1 (aa h) e));T (aJ h d) (am (aU h d) (T (aJ (i64 c) 0) none (some (aE.nx (i64 c,i64 (av h 1),()))))) (some (aE.ex 0 (ab.1,h,())))) (0,0,())) (λ(a:fU)=>none) (λ(i:Nat) (a:fU)=>letI b:=i64 (bi a.1 (i64 (bi 0 0)));letI j:=bO (aa b) (u8 0);am (bZ i 0) (T (aJ a.1 0) none (T (aJ 0 b) (am (ca 0 0 0) (am (cZ (bE 0 b) (cB 1 (aa b))) (am (ca 0 0 (len j)) (ci (bN (λ(ab:cw)=>letI f:=ab.2.1;letI k:=ak x.1 (aa f) e;T (aJ f d) (am (aU f d) (am (cB 1 (bQ (aT ab.1) (aT k))) (some (aE.nx (bv ab.1 k,i64 (av f 1),()))))) (some (aE.ex 2 (ab.1,f,())))) (cut j (aa 0) (cd (aa 0) (aa 0)),0,())) (λ(a:cw)=>none) (λ(i:Nat) (a:cw)=>am (bZ i 2) (some (a.1,()))) λ(r:co)=>some r)))) (ci (bN (λ(ab:cw)=>letI g:=ab.2.1;letI l:=ak x.1 (aa g) e;T (aJ g d) (am (aU g d) (am (cB 1 (bQ (aT ab.1) (aT l))) (some (aE.nx (bv ab.1 l,i64 (av g 1),()))))) (some (aE.ex 2 (ab.1,g,())))) (aO UInt8,0,())) (λ(a:cw)=>none) (λ(i:Nat) (a:cw)=>am (bZ i 2) (some (a.1,()))) λ(r:co)=>some r)))) λ(r:co)=>some r
def NN(x:(V×V×Unit)×Int×Unit):Option (agU):=letI b:=x.1.2;letI e:=len x.1.1;letI f:=len b.1;ob (IH (x.1,())) λ(a:Vy)=>T (a_ a.2.2.1) (some (x.1,0,12,())) (ob (IJ (i64 (av a.1 1),())) λ(a6:cw)=>T (a_ (ag a6.2.1 0)) (some (x.1,0,10,())) (ob (T (bE 0 x.2.1) (some (aJ x.2.1 16,())) (some (false,()))) λ(bR:aV)=>ob (T (a_ bR.1) (some (16,())) (some (x.2.1,()))) λ(bS:c9)=>letI c:=ca 0 bS.1 (len a6.1);letI d:=cd (aa bS.1) (aa 0);T (ag a.2.1 0) (am c (am (ca bS.1 f f) (ob (Ee ([cut a6.1 (aa 0) d,sub b.1 bS.1 f],())) λ(dm:co)=>T bR.1 (some ((x.1.1,dm.1,b.2),0,11,())) (some ((x.1.1,dm.1,b.2),a.1,0,()))))) (am c (am (ca bS.1 e e) (ob (Ee ([cut a6.1 (aa 0) d,sub x.1.1 bS.1 e],())) λ(dm:co)=>T bR.1 (some ((dm.1,b),0,11,())) (some ((dm.1,b),a.1,0,())))))))
def IA(x:bK):Option (JM):=letI b:=x.1.1.2;letI d:=b.2.2.2;ob (NN (b.2.2.1,d.1,())) λ(a:agU)=>letI c:=a.2.2.1;T (ag c 0) (some (((x.1.1.1,b.1,b.2.1,a.1, -1,d.2),x.1.2),a.2.1,c,())) (T (ag c 11) (ob (D? (((x.1.1.1,b.1,b.2.1,a.1,d),x.1.2),())) λ(a6:bK)=>some (a6.1,a.2.1,c,())) (some (((x.1.1.1,b.1,b.2.1,a.1,d),x.1.2),a.2.1,c,())))
def sZ(x:e5):Option (bK):=ob (Af (x.1.1,x.2.1,())) λ(a:BR)=>some ((a.1,x.1.2),())
def Ea(x:e5):Option (bK):=ob (A9 (x.1,(true,x.2.1,0,0,0,aO UInt8,aO UInt8,0,()),())) λ(a:bK)=>some (a.1,())
def Iz(x:bK):Option (e5):=ob (T (ag x.1.1.2.2.1 7) (some (true,())) (some (ag x.1.1.2.2.1 8,()))) λ(a:aV)=>T a.1 (some (x.1,11,())) (ob (IA (x.1,())) λ(a:JM)=>T (a_ (ag a.2.2.1 0)) (some (a.1,a.2.2.1,())) (ob (sZ (a.1,1,())) λ(a6:bK)=>letI b:=a6.1.1.2;ob (Ea (((a6.1.1.1,b.1,b.2.1,b.2.2.1,b.2.2.2.1,a.2.1,b.2.2.2.2.2),a6.1.2),1,())) λ(a:bK)=>some (a.1,0,())))
def NB(x:bK):Option (e5):=letI c:=x.1.1.2.2;letI b:=c.2.2.2.2;letI d:=b.2.2.2.2;ob (qK (c.1,4,())) λ(a:iZ)=>T (ag c.1 6) (some (x.1,9,())) (T (a_ a.2.1) (some (x.1,7,())) (T (ag a.1 0) (ob (sZ (x.1,a.1,())) λ(a:bK)=>some (a.1,0,())) (ob (Ih (d.1,())) λ(a6:tl)=>ob (Ea (((x.1.1.1,x.1.1.2.1,a.1,c.2.1,c.2.2.1,c.2.2.2.1,b.1,b.2.1,b.2.2.1,b.2.2.2.1,a6.1,d.2.1,d.2.2.1,d.2.2.2.1,aO V,d.2.2.2.2.2),x.1.2),2,())) λ(a:bK)=>some (a.1,0,()))))
def Nx(x:bK):Option (e5):=ob (xV (x.1.1.2.2.1,())) λ(a:aV)=>T (a_ a.1) (some (x.1,7,())) (T (a_ (ag x.1.1.2.2.2.2.2.2.2.2.2.2.2.1.1 0)) (some (x.1,9,())) (ob (Ea (x.1,301,())) λ(a:bK)=>some (a.1,0,())))
def s1(x:e5):Option (bK):=ob (qK (x.1.1.2.2.1,x.2.1,())) λ(a:iZ)=>some (((x.1.1.1,x.1.1.2.1,a.1,x.1.1.2.2.2),x.1.2),())
def Nw(x:bK):Option (bK):=ob (IH (x.1.1.2.2.2.1,())) λ(a:Vy)=>T a.2.2.1 (ob (s1 (x.1,11,())) λ(a:bK)=>some (a.1,())) (ob (s1 (x.1,12,())) λ(a:bK)=>some (a.1,()))
def IB(x:e5):Option (bK):=letI e:=x.1.1;letI c:=e.2.2.2;letI b:=c.2.2.2.2.2;letI d:=b.2.2.2.2.2;ob (ya (d.2.2.2.2.1,())) λ(a:Bd)=>ob (nn (e,())) λ(a6:rH)=>am (cB 128 (bQ (aT a.1) (aT [(x.2.1,a6.1,0,aO UInt8,())]))) (some (((e.1,e.2.1,e.2.2.1,c.1,c.2.1,c.2.2.1,c.2.2.2.1,c.2.2.2.2.1,b.1,b.2.1,b.2.2.1,b.2.2.2.1,b.2.2.2.2.1,d.1,d.2.1,d.2.2.1,d.2.2.2.1,bv a.1 [(x.2.1,a6.1,0,aO UInt8,())],d.2.2.2.2.2),x.1.2),()))
def Ny(x:bK):Option (bK):=T (a_ (ag x.1.1.2.2.1 2)) (some (x.1,())) (ob (s1 (x.1,3,())) λ(a:bK)=>ob (IB (a.1,4,())) λ(a:bK)=>some (a.1,()))
def Nz(x:bK):Option (bK):=letI c:Option (bK):=some (x.1,());letI b:Option (bK):=ob (sZ (x.1,0,())) λ(a:bK)=>some (a.1,());letI d:=x.1.1.2.2.1;T (ag d 1) (T (ag d 1) b c) (T (ag d 3) (T (ag d 3) b c) (T (ag d 6) b c))
def IC(x:wJ):Option (bK):=ob (qE (x.2.1,0,())) λ(a:q2)=>ob (pQ (a.1,())) λ(a:cw)=>ob (np (x.1,a.1,())) λ(a:e5)=>some (a.1,())
def s0(x:bK):Option (bK):=ob (kf (x.1,13,())) λ(a:bK)=>some (a.1,())
def NA(x:wJ):Option (bK):=letI f:=x.1.1.2;letI e:=x.2.1;letI d:=f.2.2.2.2;letI g:=d.2.2.2;letI c:Option bK:=s0 (x.1,());letI b:Option aV:=wO (g.2.2.2.1,e.2.1,e.2.2.1,());letI h:=IC (x.1,e,());T (ag e.2.1 301) (T e.1 (ob h λ(a:bK)=>some (a.1,())) (ob b λ(a:aV)=>T a.1 (some (((x.1.1.1,f.1,f.2.1,f.2.2.1,f.2.2.2.1,d.1,d.2.1,d.2.2.1,g.1,g.2.1,g.2.2.1,om,g.2.2.2.2),x.1.2),())) (ob c λ(a:bK)=>some (a.1,())))) (T (ag e.2.1 2) (T e.1 (ob h λ(a:bK)=>ob (sZ (a.1,0,())) λ(a:bK)=>some (a.1,())) (ob b λ(a:aV)=>T a.1 (ob (sZ (x.1,0,())) λ(a:bK)=>some (a.1,())) (ob c λ(a:bK)=>some (a.1,())))) (ob c λ(a:bK)=>some (a.1,())))
def IE(x:e4×d1×Int×Unit):Option (bK):=ob (qE (x.2.1,0,())) λ(a:q2)=>ob (pQ (a.1,())) λ(a:cw)=>ob (Df (x.1,x.2.2.1,a.1,())) λ(a:e5)=>some (a.1,())
def M7(x:co):Option (tj):=T (a_ (ag (len x.1) 32)) (some (EK,1,())) (some (((1,x.1,()),j1,j1,0,1,()),0,()))
def Ec(x:JM):Option (bK):=letI d:=x.1.1.2;letI b:=d.2.2;letI c:=b.2.2.2.2;letI e:=x.2.2.1;ob (nn ((x.1.1.1,d.1,d.2.1,b.1,b.2.1,x.2.1,e,cU c.1 e,c.2),())) λ(a:rH)=>ob (Ae (d.1,a.1,1,aO UInt8,())) λ(a:co)=>ob (M7 (a.1,())) λ(a:tj)=>some (((x.1.1.1,d.1,d.2.1,b.1,b.2.1,x.2.1,e,cU c.1 e,c.2.1,c.2.2.1,a.1,c.2.2.2.2),x.1.2),())
def NE(x:e4×d1×Int×Unit):Option (bK):=letI e:=some (true,());letI c:=x.1.1.2.2;letI b:Option aV:=T (ag c.1 7) e (some (ag c.1 8,()));letI d:=x.2.2.1;letI f:=s0 (x.1,());ob (T (ag c.1 1) (T (ag x.1.1.1 0) e b) b) λ(a:aV)=>T a.1 (ob f λ(a:bK)=>some (a.1,())) (ob (um (c.1,())) λ(a:aV)=>ob (T a.1 (some (ag c.2.2.2.2.1 d,())) (some (false,()))) λ(a:aV)=>T a.1 (ob (IE (x.1,x.2.1,d,())) λ(a:bK)=>some (a.1,())) (T (bE d c.2.2.2.2.2.1) (ob f λ(a:bK)=>some (a.1,())) (ob (IA (x.1,())) λ(a:JM)=>T (ag a.2.2.1 0) (ob (sZ (a.1,2,())) λ(a6:bK)=>ob (Ec (a6.1,a.2.1,d,())) λ(a:bK)=>ob (IE (a.1,x.2.1,d,())) λ(a:bK)=>some (a.1,())) (T (ag a.2.2.1 11) (some (a.1,())) (ob (s0 (a.1,())) λ(a:bK)=>some (a.1,()))))))
def ND(x:e5):Option (bK):=ob (Ec (x.1,x.1.1.2.2.2.2.2.1,x.2.1,())) λ(a:bK)=>ob (s1 (a.1,1,())) λ(a:bK)=>letI d:=a.1.1.2;letI b:=d.2.2.2;letI c:=b.2.2.2;ob (IB (((a.1.1.1,d.1,d.2.1,d.2.2.1,b.1,b.2.1,b.2.2.1,c.1,c.2.1,c.2.2.1,c.2.2.2.1,om,c.2.2.2.2.2),a.1.2),4,())) λ(a:bK)=>ob (Ea (a.1,301,())) λ(a:bK)=>some (a.1,())
def Iy(x:e4×dr×d1×Unit):Option (bK):=letI f:=x.1.1;letI b:Option aV:=some (false,());letI c:=i64 (bi 1 f.1);letI d:=x.2.1.2.2.1;letI e:=x.2.2.1;letI g:=ak d (aa f.1) 0;letI h:=s0 (x.1,());am (aU c (bf 2)) (am (aU f.1 (bf 2)) (ob (T (a_ (ag e.2.1 1)) (some (true,())) (some (aJ (ak d (aa c) 0) 1,()))) λ(a:aV)=>T a.1 (ob h λ(a:bK)=>some (a.1,())) (ob (T e.1 (some (ag g 0,())) b) λ(a:aV)=>T a.1 (ob (NE (x.1,e,ak d (aa c) 0,())) λ(a:bK)=>some (a.1,())) (ob (T (a_ e.1) (T (ag e.2.2.2.1 0) (T (ag f.2.2.1 1) (T (ag g f.2.2.2.2.2.1) (ob (wO (f.2.2.2.2.2.2.2.2.2.2.2.1,e.2.1,e.2.2.1,())) λ(a:aV)=>some (a.1,())) b) b) b) b) λ(a:aV)=>T a.1 (ob (ND (x.1,ak d (aa c) 0,())) λ(a:bK)=>some (a.1,())) (ob h λ(a:bK)=>some (a.1,()))))))
def F?(x:wc):Option (aV):=ob (Hd (x.1.1,())) λ(a:c9)=>T (ag a.1 1) (T (ag a.1 1) (some (true,())) (some (false,()))) (T (ag a.1 2) (T (ag a.1 2) (some (true,())) (some (false,()))) (T (ag a.1 4) (some (true,())) (some (false,()))))
def CF(x:wc):Option (aV):=ob (qy (x.1,39,())) λ(a:oi)=>ob (T a.2.1 (some (seq a.1 [57,49],())) (some (false,()))) λ(a:aV)=>some (a.1,())
def Le(x:cw):Option (cw):=letI b:Option aV:=some (true,());ob (C' (x.1,())) λ(a:mn)=>ob (T (aJ x.2.1 0) b (T (aJ 999999 x.2.1) b (T (a_ (ag a.2.1 0)) b (ob (F? (a.1,())) λ(a6:aV)=>T (a_ a6.1) b (ob (CF (a.1,())) λ(a:aV)=>some (a.1,())))))) λ(a6:aV)=>T a6.1 (some (aO UInt8,1,())) (ob (mD (x.2.1,6,())) λ(bR:cw)=>am (cB 1 (aT bR.1)) (ob (jT (a.1,15,bR.1,())) λ(a:mn)=>ob (Aa (a.1,())) λ(a:cw)=>T (aJ 900 (len a.1)) (some (aO UInt8,4,())) (some (a.1,0,()))))
def MU(x:s3):Option (V×List V×Bool×Unit):=letI b:=len x.1;T (ag b 0) (some (aO UInt8,x.1,false,())) (am (aU 0 b) (am (ca 1 b b) (ob (agu (sub x.1 1 b,())) λ(a:s3)=>some (ak x.1 (aa 0) (aO UInt8),a.1,true,()))))
def j9(x:bK):Option (bK):=ci (bN (λ(x:bK)=>letI e:=some (aE.ex 0 (x.1,()));ob (MU (x.1.1.2.2.2.2.2.2.2.2.2.2.2.2.2.2.1,())) λ(a:V×List V×Bool×Unit)=>T (a_ a.2.2.1) e (ob (np (x.1,a.1,())) λ(a6:e5)=>letI c:=a6.1.1.2.2;letI b:=c.2.2.2.2;letI d:=b.2.2.2.2;T (a_ (ag a6.2.1 0)) e (some (aE.nx (((a6.1.1.1,a6.1.1.2.1,c.1,c.2.1,c.2.2.1,c.2.2.2.1,b.1,b.2.1,b.2.2.1,b.2.2.2.1,d.1,d.2.1,d.2.2.1,d.2.2.2.1,a.2.1,d.2.2.2.2.2),a6.1.2),()))))) (x.1,())) (λ(a:bK)=>none) (λ(i:Nat) (a:bK)=>am (bZ i 0) (some (a.1,()))) λ(r:bK)=>some r
def MT(x:List V×V×Int×Unit):Option (IZ):=ob (H7 (x.1,[x.2.1],x.2.2.1,())) λ(a:List V×Int×Int×Unit)=>ob (T (ag a.2.2.1 0) (some (ag a.2.1 0,())) (some (false,()))) λ(a6:aV)=>T a6.1 (some (x.1,8,())) (some (a.1,a.2.2.1,()))
def F'(x:e4×Int×Int×V×Unit):Option (bK):=letI e:=x.1.1;letI c:=e.2.2.2;letI b:=c.2.2.2.2.2;letI d:=b.2.2.2.2.2;ob (ya (d.2.2.2.2.1,())) λ(a:Bd)=>ob (nn (e,())) λ(a6:rH)=>am (cB 128 (bQ (aT a.1) (aT [(x.2.1,a6.1,x.2.2.1,x.2.2.2.1,())]))) (some (((e.1,e.2.1,e.2.2.1,c.1,c.2.1,c.2.2.1,c.2.2.2.1,c.2.2.2.2.1,b.1,b.2.1,b.2.2.1,b.2.2.2.1,b.2.2.2.2.1,d.1,d.2.1,d.2.2.1,d.2.2.2.1,bv a.1 [(x.2.1,a6.1,x.2.2.1,x.2.2.2.1,())],d.2.2.2.2.2),x.1.2),()))
def Lf(x:BQ):Option (e5):=letI c:=x.1.1.2.2;letI b:=c.2.2.2.2.2;letI d:=b.2.2.2.2;ob (Le (x.2.1,d.2.2.1,())) λ(a:cw)=>T (a_ (ag a.2.1 0)) (some (x.1,a.2.1,())) (ob (xV (c.1,())) λ(a6:aV)=>T (a_ a6.1) (some (x.1,7,())) (ob (MT (d.2.2.2.1,a.1,8,())) λ(bR:IZ)=>T (a_ (ag bR.2.1 0)) (some (x.1,bR.2.1,())) (ob (F' (((x.1.1.1,x.1.1.2.1,c.1,c.2.1,c.2.2.1,c.2.2.2.1,c.2.2.2.2.1,b.1,b.2.1,b.2.2.1,b.2.2.2.1,d.1,d.2.1,d.2.2.1,bR.1,d.2.2.2.2),x.1.2),1,0,a.1,())) λ(a:bK)=>ob (j9 (a.1,())) λ(a:bK)=>some (a.1,0,()))))
def Lc(x:e5):Option (e5):=letI b:=x.1.1.2.2;letI c:=b.2.2.2.2.2.2.2.2.2;letI d:=some (true,());ob (T (bE x.2.1 c.2.2.1) d (some (aJ 999999 x.2.1,()))) λ(a:aV)=>T a.1 (some (x.1,1,())) (ob (xV (b.1,())) λ(a:aV)=>T (a_ a.1) (some (x.1,7,())) (ob (T (a_ (ag b.1 3)) d (some (a_ (ag c.1.1 0),()))) λ(a:aV)=>T a.1 (some (x.1,9,())) (ob (qK (b.1,7,())) λ(a:iZ)=>ob (A9 (((x.1.1.1,x.1.1.2.1,a.1,b.2),x.1.2),(true,201,0,0,0,aO UInt8,aO UInt8,x.2.1,()),())) λ(a:bK)=>some (a.1,0,()))))
def CE(x:bK):Option (bK):=letI d:=x.1.1.2;letI b:=d.2.2.2;letI c:=b.2.2.2;ob (qK (d.2.1,8,())) λ(a:iZ)=>some (((x.1.1.1,d.1,a.1,d.2.2.1,b.1,b.2.1,b.2.2.1,c.1,c.2.1,c.2.2.1,c.2.2.2.1,om,c.2.2.2.2.2),x.1.2),())
def Ld(x:bK):Option (bK):=T (a_ (ag x.1.1.2.2.1 5)) (some (x.1,())) (ob (CE (x.1,())) λ(a:bK)=>some (a.1,()))
def Rp(x:wJ):Option (bK):=letI c:=x.1.1.2.2;letI b:=c.2.2.2.2;letI d:=b.2.2.2.2;ob (qE (x.2.1,0,())) λ(a:q2)=>ob (pQ (a.1,())) λ(a:cw)=>ob (np (((x.1.1.1,x.1.1.2.1,c.1,c.2.1,c.2.2.1,c.2.2.2.1,b.1,b.2.1,b.2.2.1,b.2.2.2.1,d.1,d.2.1,d.2.2.1,cU d.2.2.2.1 x.2.1.2.2.2.2.2.2.2.1,d.2.2.2.2),x.1.2),a.1,())) λ(a:e5)=>some (a.1,())
def Lb(x:wJ):Option (bK):=letI c:=x.1.1.2.2;letI b:=c.2.2.2.2.2;letI d:=b.2.2.2.2;ob (T (a_ (ag c.1 5)) (some (true,())) (ob (wO (d.1,x.2.1.2.1,x.2.1.2.2.1,())) λ(a:aV)=>some (a_ a.1,()))) λ(a:aV)=>T a.1 (ob (kf (x.1,13,())) λ(a:bK)=>some (a.1,())) (ob (Dx (d.1.2.2.2.2.1,())) λ(a:q2)=>T (ag x.2.1.2.2.2.1 0) (ob (CE (((x.1.1.1,x.1.1.2.1,c.1,c.2.1,c.2.2.1,c.2.2.2.1,c.2.2.2.2.1,b.1,b.2.1,b.2.2.1,b.2.2.2.1,d.1,d.2.1,cU d.2.2.1 a.1.2.2.2.2.2.2.2.1,d.2.2.2),x.1.2),())) λ(a:bK)=>some (a.1,())) (ob (CE (x.1,())) λ(a:bK)=>some (a.1,())))
def Rs(x:A?):Option (c9):=T x.1 (some (x.2.1,())) (some (x.2.2.1,()))
def Lh(x:wc):Option (aV):=letI b:Option aV:=ob (CF (x.1,())) λ(a:aV)=>some (a.1,());letI c:=dh (i64 (fe x.1.1 10)) 10;ob (T (ag c 1) b (T (ag c 3) b (some (false,())))) λ(a:aV)=>some (a.1,())
def Lg(x:e4×(Int×List (Int×V×Unit)×Unit)×Unit):Option (bK):=ob (LW (x.2.1.1,())) λ(a:iZ)=>T (a_ a.2.1) (ob (kf (x.1,13,())) λ(a:bK)=>some (a.1,())) (ob (jT ((a.1,aO (Int×V×Unit),()),39,[u8 57,u8 49],())) λ(a:mn)=>ob (qy (x.2.1,11,())) λ(a6:oi)=>T a6.2.1 (ob (jT (a.1,11,a6.1,())) λ(a:mn)=>ob (Aa (a.1,())) λ(a:cw)=>ob (np (x.1,a.1,())) λ(a:e5)=>some (a.1,())) (ob (Aa (a.1,())) λ(a:cw)=>ob (np (x.1,a.1,())) λ(a:e5)=>some (a.1,())))
def F_(x:e4×dr×(Int×List (Int×V×Unit)×Unit)×Unit):Option (bK):=ob (F? (x.2.2.1,())) λ(a:aV)=>T (a_ a.1) (ob (kf (x.1,13,())) λ(a:bK)=>some (a.1,())) (ob (xV (x.1.1.2.2.1,())) λ(a:aV)=>T a.1 (ob (Lh (x.2.2.1,())) λ(a:aV)=>ob (Rs (a.1,3,2,())) λ(a:c9)=>ob (F' (x.1,a.1,x.2.1.2.2.2.2.1,x.2.1.2.2.2.2.2.1,())) λ(a:bK)=>some (a.1,())) (T (ag x.1.1.2.2.1 6) (ob (Lg (x.1,x.2.2.1,())) λ(a:bK)=>some (a.1,())) (ob (kf (x.1,13,())) λ(a:bK)=>some (a.1,()))))
end Yp
namespace Yp
open Go
abbrev gw:=List q1×fk×List (Int×Int×V×Unit)×List (Int×Int×V×Unit)×List (List (Int×List Int×Int×V×Unit))×Unit
def mU(x:V×Unit):Option (V×Unit):=am (cB 1 (aT x.1)) (some (x.1,()))
def IG(x:List (Int×Int×V×Unit)×Unit):Option (List (Int×Int×V×Unit)×Unit):=am (cB 80 (aT x.1)) (some (x.1,()))
end Yp
namespace Yp
abbrev ly:=Int×(gw×Unit)×Unit
abbrev rP:=(gw×Unit)×Int×Unit
abbrev o':=(gw×Unit)×Unit
abbrev wj:=(gw×Unit)×gv×Unit
abbrev EA:=(gw×Unit)×e4×Unit
abbrev EB:=gw×Int×Unit
abbrev yw:=gw×Unit
abbrev Jd:=gw×V×Unit
abbrev V6:=Int×Int×gw×Unit
abbrev V9:=V×Int×gw×Unit
end Yp
namespace Yp
open Go
def KT(x:co):Option (dr×Int×Unit):=letI f:=len x.1;letI a:=i64 (bi f 16);letI h:=mU (sub x.1 30 a,());letI i:=mU (sub x.1 a f,());letI j:=aU 0 (bf 1);letI k:=aU (i64 (av 0 1)) (bf 2);letI m:=ca 30 a f;letI n:=aU 0 (bf 2);letI o:=ca a f f;letI v:=aU 1 (bf 2);T (aJ f 47) (some (nB,3,())) <| T (aJ 946 f) (some (nB,4,())) <| am n <| ob (la (x.1,0,1,())) λa0=>letI u:=cU 0 a0.2.1;am k <| ob (la (x.1,u,1,())) λcI=>letI b:=cU (u) cI.2.1;T (ag a0.2.2.1 0) (am n <| am v <| am n <| ob (la (x.1,b,8,())) λcR=>letI g:=cU (b) cR.2.1;T (ag cI.2.2.1 0) (am k <| ob (la (x.1,g,8,())) λa3=>letI l:=cU (g) a3.2.1;T (ag cR.2.2.1 0) (am j <| ob (la (x.1,l,4,())) λa4=>letI r:=cU (l) a4.2.1;T (ag a3.2.2.1 0) (am j <| ob (la (x.1,r,8,())) λa5=>T (ag a4.2.2.1 0) (am m <| ob h λc=>am o <| ob i λd=>ob (T (a_ (ag a5.2.2.1 0)) (some (true,())) (ob (Ct ((a0.1,cI.1,cj (cj [0,0] (aa 0) cR.1) (aa 1) a3.1,a4.1,a5.1,c.1,d.1,()),())) λe=>some (a_ e.1,()))) λp=>T p.1 (some (nB,2,())) (some ((a0.1,cI.1,cj (cj [0,0] (aa 0) cR.1) (aa 1) a3.1,a4.1,a5.1,c.1,d.1,()),0,()))) (am m <| ob h λc=>am o <| ob i λd=>some (nB,2,()))) (am j <| ob (la (x.1,r,8,())) λa5=>am m <| ob h λc=>am o <| ob i λd=>some (nB,2,()))) (am j <| ob (la (x.1,l,4,())) λa4=>am j <| ob (la (x.1,(cU (l) a4.2.1),8,())) λa5=>am m <| ob h λc=>am o <| ob i λd=>some (nB,2,()))) (am k <| ob (la (x.1,g,8,())) λa3=>letI s:=cU (g) a3.2.1;am j <| ob (la (x.1,s,4,())) λa4=>am j <| ob (la (x.1,(cU (s) a4.2.1),8,())) λa5=>am m <| ob h λc=>am o <| ob i λd=>some (nB,2,()))) (am n <| am v <| am n <| ob (la (x.1,b,8,())) λcR=>letI q:=cU (b) cR.2.1;am k <| ob (la (x.1,q,8,())) λa3=>letI t:=cU (q) a3.2.1;am j <| ob (la (x.1,t,4,())) λa4=>am j <| ob (la (x.1,(cU (t) a4.2.1),8,())) λa5=>am m <| ob h λc=>am o <| ob i λd=>some (nB,2,()))
def NM(x:Unit):Option (Vx):=ob (IJ (1,())) λ(a:cw)=>am (cZ (ca 0 16 16) (cB 1 (aa 16))) (some ((a.1,bO (aa 16) (u8 0),()),()))
def Q0(x:iG):Option (q1×Int×Unit):=letI b:=some (true,());ob (T (aJ x.1 0) b (T (aJ 1 x.1) b (some (a_ (ag (len x.2.1) 32),())))) λ(a:aV)=>T a.1 (some (p8,1,())) (ob (NM ()) λ(a:Vx)=>some ((x.1,x.2.1,0,a.1, -1,0,0,0,0,(0,BE,()),EK,om,0,0,aO V,Wm,aO (Int×V×Unit),aO (Int×List Int×Int×V×Unit),[0,0,0,0],()),0,()))
def aev(x:aV):Option (fk×Unit):=some ((x.1,aO (V×V×Unit),false,()),())
def Jh(x:oi):Option (EB):=ci (bN (λ(ab:V6)=>letI b:=ab.2.1;letI c:=ab.2.2.1;T (aJ b 2) (ob (Q0 (b,x.1,())) λ(a:q1×Int×Unit)=>T (a_ (ag a.2.1 0)) (some (aE.rt (([p8,p8],(false,aO (V×V×Unit),false,()),aO (Int×Int×V×Unit),aO (Int×Int×V×Unit),[aO (Int×List Int×Int×V×Unit),aO (Int×List Int×Int×V×Unit)],()),a.2.1,()))) (am (aU b (bf 2)) (some (aE.nx (ab.1,i64 (av b 1),(cj c.1 (aa b) a.1,c.2),()))))) (some (aE.ex 0 (ab.1,b,c,())))) (0,0,([p8,p8],(false,aO (V×V×Unit),false,()),aO (Int×Int×V×Unit),aO (Int×Int×V×Unit),[aO (Int×List Int×Int×V×Unit),aO (Int×List Int×Int×V×Unit)],()),())) (λ(a:V6)=>none) (λ(i:Nat) (a:V6)=>am (bZ i 0) (ob (aev (x.2.1,())) λ(a6:fk×Unit)=>some ((a.2.2.1.1,a6.1,a.2.2.1.2.2),0,()))) λ(r:EB)=>some r
def qT(x:fU):Option (aV):=ob (T (bE 0 x.1) (some (aJ x.1 x.2.1,())) (some (false,()))) λ(a:aV)=>some (a.1,())
def QY(x:BR):Option (WN):=letI c:=x.1.2.2.2;letI a:=c.2.2.2.2.2;letI b:=a.2.2.2.2.2;some ((x.1.1,x.1.2.1,x.1.2.2.1,c.1,c.2.1,c.2.2.1,c.2.2.2.1,c.2.2.2.2.1,a.1,a.2.1,a.2.2.1,a.2.2.2.1,a.2.2.2.2.1,b.1,b.2.1,b.2.2.1,aO (Int×V×Unit),aO (Int×List Int×Int×V×Unit),b.2.2.2.2.2),b.2.2.2.1,b.2.2.2.2.1,())
def Ed(x:wd):Option (wd):=letI a:=len x.1;am (cZ (ca 0 a a) (ag a a)) (some (sub x.1 0 a,()))
def Bx(x:rP):Option (EA):=am (aU x.2.1 (bf 2)) (some (x.1,(ak x.1.1.1 (aa x.2.1) p8,x.1.1.2.1,()),()))
def G0(x:c9):Option (aV):=ob (T (bE 0 x.1) (some (aJ x.1 4,())) (some (false,()))) λ(a:aV)=>some (a.1,())
def G1(x:eO×Int×Bool×Unit):Option (uU):=letI b:=aU x.2.1 (bf 4);letI c:=aa x.2.1;ob (G0 (x.2.1,())) λ(a:aV)=>T (a_ a.1) (some (x.1,1,())) (am b (T (y9 (ak x.1.1 c false) x.2.2.1) (some (x.1,9,())) (am b (am b (some ((cj x.1.1 c x.2.2.1,cj x.1.2.1 c yE,x.1.2.2),0,()))))))
def LM(x:uU):Option (uU):=ob (G1 (x.1,x.2.1,false,())) λ(a:uU)=>some (a.1,a.2.1,())
def QZ(x:e5):Option (e5):=letI c:=x.1.1.2.2;letI b:=c.2.2.2.2.2;letI d:=b.2.2.2.2;ob (LM (d.2.2.2.2.1,x.2.1,())) λ(a:uU)=>some (((x.1.1.1,x.1.1.2.1,c.1,c.2.1,c.2.2.1,c.2.2.2.1,c.2.2.2.2.1,b.1,b.2.1,b.2.2.1,b.2.2.2.1,d.1,d.2.1,d.2.2.1,d.2.2.2.1,a.1,d.2.2.2.2.2),x.1.2),a.2.1,())
def Jj(x:rP):Option (o'):=ci (bN (λ(ab:ly)=>T (aJ ab.1 2) (ob (Bx (ab.2.1,ab.1,())) λ(a:EA)=>ob (QZ (a.2.1,x.2.1,())) λ(a6:e5)=>T (ag a6.2.1 0) (am (aU ab.1 (bf 2)) (some (aE.nx (i64 (av ab.1 1),((cj a.1.1.1 (aa ab.1) a6.1.1,a.1.1.2),a.1.2),())))) (some (aE.nx (i64 (av ab.1 1),a.1,())))) (some (aE.ex 0 (ab.1,ab.2.1,())))) (0,x.1,())) (λ(a:ly)=>none) (λ(i:Nat) (a:ly)=>letI e:=a.2.1.1;am (bZ i 0) (ob (IG (e.2.2.1,())) λ(a6:wd)=>letI b:Option (o'):=some (((e.1,e.2.1,a6.1,e.2.2.2),a.2.1.2),());ci (bN (λ(ab:fU)=>letI k:=ab.2.1;T (aJ k (len a6.1)) (am (aU k (len a6.1)) (T (ag (ak a6.1 (aa k) fE).2.1 x.2.1) (some (aE.ex 999999999 (k,k,()))) (some (aE.nx (ab.1,i64 (av k 1),()))))) (some (aE.ex 0 (ab.1,k,())))) (0,0,())) (λ(a:fU)=>none) (λ(i:Nat) (bR:fU)=>T (bZ i 999999999) (T (ag bR.1 (-1)) b (ci (bN (λ(ab:I8)=>letI f:=ab.2.2.1;letI l:=ab.2.1;letI p:=ak f (aa l) fE;T (aJ l (len f)) (am (aU l (len f)) (T (a_ (ag p.2.1 x.2.1)) (am (aU ab.1 (len f)) (some (aE.nx (i64 (av ab.1 1),i64 (av l 1),cj f (aa ab.1) p,())))) (some (aE.nx (ab.1,i64 (av l 1),f,()))))) (some (aE.ex 0 (ab.1,l,f,())))) (bR.1,i64 (av bR.1 1),a6.1,())) (λ(a:I8)=>none) (λ(i:Nat) (bS:Int×Int×List (Int × Int×V×Unit)×Unit)=>letI n:=aa bS.1;letI h:=len bS.2.2.1;letI s:=cd (aa h) n;letI c:=dU bS.2.2.1 n s (bO s fE);am (bZ i 0) (am (ca bS.1 h h) (am (ca 0 bS.1 (len c)) (some (((e.1,e.2.1,cut c (aa 0) (cd n (aa 0)),e.2.2.2),a.2.1.2),()))))) λ(r:Unit)=>none)) (am (bZ i 0) (T (ag (-1) (-1)) b (ci (bN (λ(ab:I8)=>letI g:=ab.2.2.1;letI m:=ab.2.1;letI q:=ak g (aa m) fE;T (aJ m (len g)) (am (aU m (len g)) (T (a_ (ag q.2.1 x.2.1)) (am (aU ab.1 (len g)) (some (aE.nx (i64 (av ab.1 1),i64 (av m 1),cj g (aa ab.1) q,())))) (some (aE.nx (ab.1,i64 (av m 1),g,()))))) (some (aE.ex 0 (ab.1,m,g,())))) (-1,i64 (av (-1) 1),a6.1,())) (λ(a:I8)=>none) (λ(i:Nat)
 (bS:I8)=>letI o:=aa bS.1;letI j:=len bS.2.2.1;letI t:=cd (aa j) o;letI d:=dU bS.2.2.1 o t (bO t fE);am (bZ i 0) (am (ca bS.1 j j) (am (ca 0 bS.1 (len d)) (some (((e.1,e.2.1,cut d (aa 0) (cd o (aa 0)),e.2.2.2),a.2.1.2),()))))) λ(r:Unit)=>none)))) λ(r:Unit)=>none)) λ(r:Unit)=>none
def Oe(x:o'):Option (o'):=ci (bN (λ(x:ly)=>T (aJ x.1 4) (ob (Jj (x.2.1,x.1,())) λ(a:o')=>some (aE.nx (i64 (av x.1 1),a.1,()))) (some (aE.ex 0 (x.1,x.2.1,())))) (0,x.1,())) (λ(a:ly)=>none) (λ(i:Nat) (a:ly)=>am (bZ i 0) (some (a.2.1,()))) λ(r:Unit)=>none
def yA(x:(gw×Unit)×Int×e4×Unit):Option (o'):=letI c:=aU x.2.1 (bf 2);letI d:=x.1.1.2.2;letI f:=aa x.2.1;am c (ob (QY (x.2.2.1.1,())) λ(a:WN)=>am c (am c (ob (ya (ak d.2.2.1 f (aO (Int×List Int×Int×V×Unit)),())) λ(a6:Bd)=>am (cB 128 (bQ (aT a6.1) (aT a.2.2.1))) (am c (ci (bN (λ(ab:ly)=>letI g:=ak a.2.1 (aa ab.1) j1;letI b:=(i64 (bi 1 x.2.1),g.1,g.2.1,());letI e:=ab.2.1;T (aJ ab.1 (len a.2.1)) (am (aU ab.1 (len a.2.1)) (ob (Ed (e.1.2.2.1,())) λ(bR:wd)=>am (cB 80 (bQ (aT bR.1) (aT [b]))) (ob (Ed (e.1.2.2.2.1,())) λ(bS:wd)=>am (cB 80 (bQ (aT bS.1) (aT [b]))) (some (aE.nx (i64 (av ab.1 1),((e.1.1,e.1.2.1,bv bR.1 [b],bv bS.1 [b],e.1.2.2.2.2),e.2),())))))) (some (aE.ex 0 (ab.1,e,())))) (0,((cj x.1.1.1 f a.1,x.2.2.1.2.1,d.1,d.2.1,cj d.2.2.1 f (bv a6.1 a.2.2.1),d.2.2.2),x.1.2),())) (λ(a:ly)=>none) (λ(i:Nat) (bR:ly)=>am (bZ i 0) (ob (T (ag a.1.2.2.1 8) (some (a_ (ag (ak x.1.1.1 f p8).2.2.1 8),())) (some (false,()))) λ(a:aV)=>T a.1 (ob (Oe (bR.2.1,())) λ(a:o')=>some (a.1,())) (some (bR.2.1,())))) λ(r:Unit)=>none)))))
def Rm(x:co):Option (c9):=am (aU 0 (len x.1)) (am (aU 1 (len x.1)) (some (i64 (gM IntKind.i64 (i64 (ho IntKind.i64 (i64 (aI (ak x.1 (aa 0) (u8 0)))) (cD (u64 8)))) (i64 (aI (ak x.1 (aa 1) (u8 0))))),())))
def K'(x:(V×Int×Int×Unit)×V×Unit):Option (Vp):=ob (Ee ([x.1.1,x.2.1],())) λ(a:co)=>ci (bN (λ(x:Vm)=>letI j:=x.2.1;letI g:=len j;letI f:=x.2.2.1;letI h:=f.2.2;letI d:=fC f.2.1 g;letI b:Option (aE Vm Vp):=some (aE.ex 0 (x.1,sub j d g,(f.1,i64 (bi f.2.1 d),h),()));letI c:=sub j d g;am (ca d g g) (T (aJ (len c) 2) b (ob (Rm (sub j d g,())) λ(a:c9)=>letI e:=i64 (av 2 a.1);ob (T (ag a.1 0) (some (true,())) (some (aJ 1024 a.1,()))) λ(a6:aV)=>T a6.1 (T (bE e (len c)) (some (aE.nx (x.1,sub j d g,(f.1,i64 (av 2 a.1),i64 (av h.1 1),h.2),()))) (some (aE.ex 0 (x.1,aO UInt8,(f.1,i64 (bi e (len c)),i64 (av h.1 1),h.2),())))) (T (aJ (len c) e) b (am (cZ (ca 2 e (len c)) (ag e e)) (am (cB 32 (bQ (aT x.1) (aT [sub c 2 e]))) (am (ca e (len c) (len c)) (some (aE.nx (bv x.1 [sub c 2 e],sub c e (len c),(f.1,i64 (bi f.2.1 d),h),())))))))))) (aO V,a.1,x.1,())) (λ(a:Vm)=>none) (λ(i:Nat) (a:Vm)=>am (bZ i 0) (ob (mU (a.2.1,())) λ(a6:co)=>some ((a6.1,a.2.2.1.2),a.1,()))) λ(r:Vp)=>some r
def LN(x:eO×Int×V×Unit):Option (eO×List V×Int×Unit):=letI b:=aU x.2.1 (bf 4);letI c:=aa x.2.1;ob (G0 (x.2.1,())) λ(a:aV)=>T (a_ a.1) (some (x.1,aO V,1,())) (am b (T (a_ (ak x.1.1 c false)) (some (x.1,aO V,11,())) (am b (ob (K' (ak x.1.2.1 c yE,x.2.2.1,())) λ(a:Vp)=>am b (some ((x.1.1,cj x.1.2.1 c a.1,x.1.2.2),a.2.1,0,()))))))
def Ig(x:tj):Option (oi):=ob (M' ((x.1,()),())) λ(a:qQ)=>ci (bN (λ(ab:eH)=>letI b:=ab.2.1;letI c:=ak a.1 (aa b) j1;T (aJ b 3) (am (aU b (bf 3)) (ob (T (aJ 0 x.2.1) (some (ag c.1 x.2.1,())) (some (false,()))) λ(a6:aV)=>T a6.1 (some (aE.rt (c.2.1,true,()))) (some (aE.nx (ab.1,i64 (av b 1),()))))) (some (aE.ex 0 (ab.1,b,())))) (false,0,())) (λ(a:eH)=>none) (λ(i:Nat) (a:eH)=>am (bZ i 0) (some (aO UInt8,false,()))) λ(r:oi)=>some r
def DM(x:fk×V×V×V×Unit):Option (O1):=letI b:=x.1.2;letI c:=x.1.1;ob (DN (x.2.1,x.2.2.1,())) λ(a:co)=>ob (Dk (a.1,x.2.2.2.1,())) λ(a:aV)=>T (a_ a.1) (some (x.1,false,())) (ob (H5 (x.1,x.2.1,x.2.2.1,())) λ(a:aV)=>T b.2.1 (T a.1 (some ((c,b.1,true,b.2.2),true,())) (some ((c,b.1,true,b.2.2),a_ c,()))) (T a.1 (some ((c,b.1,a_ a.1,b.2.2),true,())) (some ((c,b.1,a_ a.1,b.2.2),a_ c,()))))
def L6(x:BQ):Option (e4×Nat×dr×Unit):=letI b:Option aV:=some (false,());letI c:=x.1.1;letI d:=x.1.2;ob (KT (x.2.1,())) λ(a:dr×Int×Unit)=>letI e:=a.1.2.2;letI f:=w6 (a.1,());T (ag a.2.1 0) (ob (T (ag a.1.2.1 (i64 (bi 1 c.1))) (T (a_ (ag c.2.2.1 7)) (some (a_ (ag c.2.2.1 8),())) b) b) λ(a6:aV)=>T a6.1 (ob (Ad (c.2.1,())) λ(bR:co)=>T (ag a.1.1 2) (ob (Ig (c.2.2.2.2.2.2.2.2.2.2.1,e.2.1,())) λ(bS:oi)=>ob (um (c.2.2.1,())) λ(dm:aV)=>ob (T dm.1 (ob (nn (c,())) λ(j5:rH)=>T (uZ (λ(p q:Int)=>ag p q) e.1 j5.1) (some (bS.2.1,())) b) b) λ(j5:aV)=>T j5.1 (ob f λ(oB:cw)=>ob (DM (d.1,bS.1,oB.1,e.2.2.2.2.1,())) λ(l1:O1)=>T l1.2.1 (some ((c,l1.1,d.2),0,a.1,())) (some ((c,l1.1,d.2),5,nB,()))) (some (x.1,13,nB,()))) (ob f λ(bS:cw)=>ob (DM (d.1,bR.1,bS.1,e.2.2.2.2.1,())) λ(dm:O1)=>T dm.2.1 (some ((c,dm.1,d.2),0,a.1,())) (some ((c,dm.1,d.2),5,nB,())))) (some (x.1,13,nB,()))) (some (x.1,2,nB,()))
def Je(x:c9):Option (Vi):=letI a:=dh x.1 1024;am (bE 0 (dh a 64)) (some (i64 (fe a 64),u64 (ho IntKind.u64 (cD (u64 1)) (dh a 64)),()))
def Ob(x:Bg):Option (aV):=ob (Je (x.2.1,())) λ(a:Vi)=>am (aU a.1 (bf 16)) (some (a_ (ag (cD (u64 (iI IntKind.u64 (cD (ak x.1.2.1 (aa a.1) (u64 0))) (cD a.2.1)))) (cD (u64 0))),()))
def V7(x:Bg):Option (aV):=letI b:Option aV:=some (false,());letI c:=x.2.1;ob (T (bE 0 c) (T (bE c 4611686018427387904) (T (bE x.1.1 c) (some (true,())) (T (bE (i64 (bi x.1.1 1024)) c) (ob (Ob (x.1,c,())) λ(a:aV)=>some (a_ a.1,())) b)) b) b) λ(a:aV)=>some (a.1,())
def yx(x:(Int×List UInt64×Unit)×Int×Bool×Unit):Option (I_):=letI e:=x.1.2;ob (Je (x.2.1,())) λ(a:Vi)=>letI d:=aa a.1;letI b:=u64 (gM IntKind.u64 (cD (ak e.1 d (u64 0))) (cD a.2.1));letI c:=aU a.1 (bf 16);am c (am c (T (a_ x.2.2.1) (am c (am c (some ((x.1.1,cj (cj e.1 d b) d (u64 (fx IntKind.u64 (cD (ak (cj e.1 d b) d (u64 0))) (cD a.2.1))),e.2),())))) (some ((x.1.1,cj e.1 d b,e.2),()))))
def ED(x:Bg):Option (Bg):=letI c:=x.2.1;letI b:=i64 (bi c x.1.1);letI d:=fC (cU b 0) 1024;letI e:=i64 (av c 1);ob (T (aJ c 0) (some (true,())) (some (aJ 4611686018427387904 c,()))) λ(a:aV)=>T a.1 (some (x.1,1,())) (ob (V7 (x.1,c,())) λ(a:aV)=>T (a_ a.1) (some (x.1,6,())) (T (bE 1024 b) (ci (bN (λ(ab:Ev)=>T (aJ ab.1 d) (ob (yx (ab.2.1,i64 (av ab.2.1.1 ab.1),false,())) λ(a:I_)=>some (aE.nx (i64 (av ab.1 1),a.1,()))) (some (aE.ex 0 (ab.1,ab.2.1,())))) (0,(x.1.1,BE,x.1.2.2),())) (λ(a:Ev)=>none) (λ(i:Nat) (a:Ev)=>am (bZ i 0) (ob (yx ((cU a.2.1.1 e,a.2.1.2),c,true,())) λ(a:I_)=>some (a.1,0,()))) λ(r:Bg)=>some r) (ci (bN (λ(ab:Ev)=>T (aJ ab.1 d) (ob (yx (ab.2.1,i64 (av ab.2.1.1 ab.1),false,())) λ(a:I_)=>some (aE.nx (i64 (av ab.1 1),a.1,()))) (some (aE.ex 0 (ab.1,ab.2.1,())))) (0,x.1,())) (λ(a:Ev)=>none) (λ(i:Nat) (a:Ev)=>am (bZ i 0) (ob (yx ((cU a.2.1.1 e,a.2.1.2),c,true,())) λ(a:I_)=>some (a.1,0,()))) λ(r:Bg)=>some r)))
def L5(x:BQ):Option (e4×dr×Int×Unit):=ob (L6 (x.1,x.2.1,())) λ(a:e4×Nat×dr×Unit)=>letI d:=a.1.1.2;letI b:=d.2.2.2;letI c:=b.2.2.2;letI e:=a.2.2.1;letI f:=c.2.2.2;T (bZ a.2.1 0) (T (a_ (ag e.1 2)) (some (a.1,e,0,())) (ob (ED (c.2.2.1,e.2.2.2.2.1,())) λ(a6:Bg)=>T (ag a6.2.1 0) (ob (T (ag e.2.2.2.1 f.1.2.2.1.1) (some (a_ (ag d.2.1 4),())) (some (false,()))) λ(bR:aV)=>T bR.1 (ob (AW (f.1,())) λ(bS:tj)=>some (((a.1.1.1,d.1,d.2.1,d.2.2.1,b.1,b.2.1,b.2.2.1,c.1,c.2.1,a6.1,bS.1,f.2),a.1.2),e,0,())) (some (((a.1.1.1,d.1,d.2.1,d.2.2.1,b.1,b.2.1,b.2.2.1,c.1,c.2.1,a6.1,f),a.1.2),e,0,()))) (ob (kf (a.1,bf 6,())) λ(a:bK)=>some (a.1,nB,bf 6,())))) (T (bZ a.2.1 2) (ob (kf (a.1,bf 2,())) λ(a:bK)=>some (a.1,nB,bf 2,())) (T (bZ a.2.1 13) (ob (kf (a.1,bf 13,())) λ(a:bK)=>some (a.1,nB,bf 13,())) (am (bZ a.2.1 5) (ob (kf (a.1,bf 5,())) λ(a:bK)=>some (a.1,nB,bf 5,())))))
def FV(x:wJ):Option (bK):=letI b:=x.2.1;letI c:=some (false,());letI d:=some (b.1,());letI e:=ag b.2.1 101;letI f:=ag b.2.1 201;ob (T e d c) λ(a:aV)=>T a.1 (ob (M4 (x.1,b,())) λ(a:bK)=>some (a.1,())) (T e (ob (M2 (x.1,b,())) λ(a:bK)=>some (a.1,())) (ob (T f d c) λ(a:aV)=>T a.1 (ob (Rp (x.1,b,())) λ(a:bK)=>some (a.1,())) (T f (ob (Lb (x.1,b,())) λ(a:bK)=>some (a.1,())) (ob (NA (x.1,b,())) λ(a:bK)=>some (a.1,())))))
def FT(x:BQ):Option (bK):=ob (L5 (x.1,x.2.1,())) λ(a:e4×dr×Int×Unit)=>letI g:=a.2.1;letI e:Option q2:=Dx (g.2.2.2.2.2.1,());letI d:Option mn:=C' (g.2.2.2.2.2.1,());letI c:Option (bK):=ob (kf (a.1,2,())) λ(a:bK)=>ob (j9 (a.1,())) λ(a:bK)=>some (a.1,());letI f:=ag g.1 2;T (a_ (ag a.2.2.1 0)) (some (a.1,())) (T f (ob (Ny (a.1,())) λ(a6:bK)=>letI b:Option (bK):=ob (kf (a6.1,2,())) λ(a:bK)=>ob (j9 (a.1,())) λ(a:bK)=>some (a.1,());ob e λ(bR:q2)=>T (ag bR.2.1 0) (T f (ob (FV (a6.1,bR.1,())) λ(a:bK)=>ob (j9 (a.1,())) λ(a:bK)=>some (a.1,())) (ob (Iy (a6.1,g,bR.1,())) λ(a:bK)=>ob (j9 (a.1,())) λ(a:bK)=>some (a.1,()))) (ob d λ(bS:mn)=>T (ag bS.2.1 0) (T f (ob (F_ (a6.1,g,bS.1,())) λ(a:bK)=>ob (j9 (a.1,())) λ(a:bK)=>some (a.1,())) b) b)) (ob e λ(a6:q2)=>T (ag a6.2.1 0) (T f (ob (FV (a.1,a6.1,())) λ(a:bK)=>ob (j9 (a.1,())) λ(a:bK)=>some (a.1,())) (ob (Iy (a.1,g,a6.1,())) λ(a:bK)=>ob (j9 (a.1,())) λ(a:bK)=>some (a.1,()))) (ob d λ(bR:mn)=>T (ag bR.2.1 0) (T f (ob (F_ (a.1,g,bR.1,())) λ(a:bK)=>ob (j9 (a.1,())) λ(a:bK)=>some (a.1,())) c) c)))
def KQ(x:e4×Int×V×Unit):Option (bK):=letI d:=x.1.1.2.2.2;letI f:=d.2.2.2;letI b:=f.2.2.2;letI g:=b.2.2.2;letI c:=g.2.2.2;letI h:=aU x.2.1 (bf 4);letI j:=aU 0 (bf 4);ob (LN (c.1,x.2.1,x.2.2.1,())) λ(a:eO×List V×Int×Unit)=>T (a_ (ag a.2.2.1 0)) (some (x.1,())) (am j (am h (am h (am j (ci (bN (λ(x:BP)=>letI e:=some (aE.ex 0 (x.1,x.2.1,()));T (aJ x.1 (len a.2.1)) (am (aU x.1 (len a.2.1)) (T (ag x.2.1.1.2.2.1 8) e (ob (FT (x.2.1,ak a.2.1 (aa x.1) (aO UInt8),())) λ(a:bK)=>some (aE.nx (i64 (av x.1 1),a.1,()))))) e) (0,((x.1.1.1,x.1.1.2.1,x.1.1.2.2.1,d.1,d.2.1,d.2.2.1,f.1,f.2.1,f.2.2.1,b.1,b.2.1,b.2.2.1,g.1,g.2.1,g.2.2.1,a.1,c.2.1,c.2.2.1,cj c.2.2.2.1 (aa 0) (i64 (av (ak c.2.2.2.1 (aa 0) 0) (i64 (bi (ak a.1.2.1 (aa x.2.1) yE).2.2.1 (ak c.1.2.1 (aa x.2.1) yE).2.2.1)))),c.2.2.2.2),x.1.2),())) (λ(a:BP)=>none) (λ(i:Nat) (a:BP)=>am (bZ i 0) (some (a.2.1,()))) λ(r:bK)=>some r)))))
def EE(x:(gw×Unit)×Int×Int×V×Unit):Option (o'):=ob (Bx (x.1,x.2.1,())) λ(a:EA)=>ob (KQ (a.2.1,x.2.2.1,x.2.2.2.1,())) λ(a6:bK)=>ob (yA (a.1,x.2.1,a6.1,())) λ(a:o')=>some (a.1,())
def Jk(x:wj):Option (rP):=letI i:=x.1.1.2;letI d:=x.2.1.2.2;letI k:=aa d.1;letI c:=ak i.2.1 k fE;letI m:=c.2.2.1;letI h:=i64 (av d.1 1);letI j:=len m;letI o:=d.2.1;letI p:=cd k (aa 0);ob (qT (d.1,len i.2.1,())) λ(a:aV)=>T (a_ a.1) (some (x.1,12,())) (am (aU d.1 (len i.2.1)) (ob (IG (i.2.1,())) λ(a:wd)=>letI g:=len a.1;letI b:=cut a.1 (aa h) (cd (aa g) (aa h));letI e:=bQ p (aT b);letI f:=dU a.1 (bQ (aa 0) p) (aT b) b;letI l:=ak a.1 k fE;letI n:=cd (aa g) (aa (bf e));ob (T (aJ 0 o) (some (aJ o j,())) (some (false,()))) λ(a6:aV)=>T a6.1 (am (ca o j j) (am (aU d.1 g) (am (ca 0 o j) (ob (EE (((x.1.1.1,i.1,cj a.1 k (l.1,l.2.1,sub m o j,l.2.2.2),i.2.2),x.1.2),c.1,c.2.1,sub m 0 o,())) λ(a:o')=>some (a.1,0,()))))) (am (cZ (ca d.1 h g) (bE g g)) (T (ag d.1 h) (ob (EE (((x.1.1.1,i.1,a.1,i.2.2),x.1.2),c.1,c.2.1,m,())) λ(a:(gw × Unit)×Unit)=>some (a.1,0,())) (am (ca 0 d.1 g) (am (ca h g g) (am (i7 (bQ (aa 0) e) (bQ (aT a.1) 1)) (am (cZ (i7 (aa 0) (bQ (aT f) 1)) (ca (bf e) g (bi (len f) (bf (aa 0))))) (ob (EE (((x.1.1.1,i.1,cut (dU f (bQ (aa 0) (aa (bf e))) n (bO n fE)) (aa 0) e,i.2.2),x.1.2),c.1,c.2.1,m,())) λ(a:o')=>some (a.1,0,()))))))))))
def M9(x:tl):Option (tl):=letI b:=x.1.2.2;letI a:=i64 (bi b.2.1 1);T (ag (cU 0 a) 0) (some ((x.1.1,j1,b.1,cU 0 a,b.2.2),())) (some ((x.1.1,x.1.2.1,b.1,cU 0 a,b.2.2),()))
def B7(x:gv×Unit):Option (OX):=letI b:=x.1.2.2.2;letI c:=aJ 0 b.1;letI d:=bi x.1.2.2.1 1;ob (Fl (x.1,())) λ(a:aV)=>T a.1 (some (x.1,false,false,())) (T (aJ 0 (i64 d)) (some ((x.1.1,x.1.2.1,i64 d,b),false,false,())) (T c (some ((x.1.1,x.1.2.1,8,i64 (bi b.1 1),b.2),aJ 0 b.1,a_ c,())) (some (om,aJ 0 b.1,a_ c,()))))
def Cr(x:e4×gv×Unit):Option (bK):=letI b:=x.2.1.2.2.2.2.1;T (ag x.2.1.1 1) (ob (Df (x.1,0,b,())) λ(a:e5)=>some (a.1,())) (ob (np (x.1,b,())) λ(a:e5)=>some (a.1,()))
def Cs(x:bK):Option (bK):=T (ag x.1.1.2.2.1 4) (ob (Ia (x.1,())) λ(a:bK)=>some (a.1,())) (T (ag x.1.1.2.2.1 5) (ob (Ld (x.1,())) λ(a:bK)=>some (a.1,())) (ob (Nz (x.1,())) λ(a:bK)=>some (a.1,())))
def FU(x:bK):Option (bK):=letI f:=x.1.1;letI d:=f.2.2;letI c:=d.2.2.2;letI e:=c.2.2.2;letI g:=e.2.2;letI b:Option OX:=B7 (g.2.1,());letI h:=d.2.2.1;letI i:=c.2.2.1;letI j:=f.2.1;letI k:=d.2.1;letI l:=c.2.1;letI m:=e.2.1;letI n:=x.1.2;letI o:=g.2.2;ob (T (ag d.1 7) (some (true,())) (some (ag d.1 8,()))) λ(a:aV)=>T a.1 (some (x.1,())) (ob (um (d.1,())) λ(a:aV)=>T a.1 (ob (M9 (g.1,())) λ(a:tl)=>T (ag e.1 4611686018427387904) (ob (Iz (((f.1,j,d.1,k,h,c.1,l,i,e.1,m,a.1,g.2),n),())) λ(a:e5)=>some (a.1,())) (ob b λ(a6:OX)=>T a6.2.1 (ob (Cr (((f.1,j,d.1,k,h,c.1,l,i,e.1,m,a.1,a6.1,o),n),a6.1,())) λ(a:bK)=>ob (j9 (a.1,())) λ(a:bK)=>some (a.1,())) (T a6.2.2.1 (ob (Cs (((f.1,j,d.1,k,h,c.1,l,i,e.1,m,a.1,a6.1,o),n),())) λ(a:bK)=>ob (j9 (a.1,())) λ(a:bK)=>some (a.1,())) (ob (j9 (((f.1,j,d.1,k,h,c.1,l,i,e.1,m,a.1,a6.1,o),n),())) λ(a:bK)=>some (a.1,()))))) (ob b λ(a:OX)=>T a.2.1 (ob (Cr (((f.1,j,d.1,k,h, c.1,l,i,e.1,m,g.1,a.1,o),n),a.1,())) λ(a:bK)=>ob (j9 (a.1,())) λ(a:bK)=>some (a.1,())) (T a.2.2.1 (ob (Cs (((f.1,j,d.1,k,h,c.1,l,i,e.1,m,g.1,a.1,o),n),())) λ(a:bK)=>ob (j9 (a.1,())) λ(a:bK)=>some (a.1,())) (ob (j9 (((f.1,j,d.1,k,h,c.1,l,i,e.1,m,g.1,a.1,o),n),())) λ(a:bK)=>some (a.1,())))))
def Oc(x:EB):Option (yw):=ci (bN (λ(ab:ly)=>T (aJ ab.1 (cU 0 x.2.1)) (ci (bN (λ(x:ly)=>ob (T (aJ 0 x.1) (some (aJ 0 (len x.2.1.1.2.2.1),())) (some (false,()))) λ(a:aV)=>T a.1 (ob (Jk (x.2.1,om,())) λ(a:rP)=>some (aE.nx (i64 (bi x.1 1),a.1,()))) (some (aE.ex 2 (x.1,x.2.1,())))) (len ab.2.1.1.2.2.1,ab.2.1,())) (λ(a:ly)=>none) (λ(i:Nat) (a:ly)=>am (bZ i 2) (ci (bN (λ(x:ly)=>T (aJ x.1 2) (ob (Bx (x.2.1,x.1,())) λ(a:EA)=>ob (FU (a.2.1,())) λ(a6:bK)=>ob (yA (a.1,x.1,a6.1,())) λ(a:o')=>some (aE.nx (i64 (av x.1 1),a.1,()))) (some (aE.ex 4 (x.1,x.2.1,())))) (0,a.2.1,())) (λ(a:ly)=>none) (λ(i:Nat) (a:ly)=>am (bZ i 4) (some (aE.nx (i64 (av ab.1 1),a.2.1,())))) λ(r:yw)=>some (aE.rt r))) λ(r:yw)=>some (aE.rt r)) (some (aE.ex 0 (ab.1,ab.2.1,())))) (0,(x.1,()),())) (λ(a:ly)=>none) (λ(i:Nat) (a:ly)=>am (bZ i 0) (some (a.2.1.1,()))) λ(r:yw)=>some r
def Oh(x:wj):Option (rP):=letI h:=x.2.1.2.2.1;letI c:=cd (aa h) (aa 0);letI d:=i64 (av h 1);letI i:=x.1.1.2;ob (qT (h,len i.2.1,())) λ(a:aV)=>T (a_ a.1) (some (x.1,12,())) (ob (IG (i.2.1,())) λ(a:wd)=>letI e:=len a.1;letI b:=cut a.1 (aa d) (cd (aa e) (aa d));letI f:=bQ c (aT b);letI g:=dU a.1 (bQ (aa 0) c) (aT b) b;letI j:=cd (aa e) (aa (bf f));am (cZ (ca h d e) (bE e e)) (T (ag h d) (some (((x.1.1.1,i.1,a.1,i.2.2),x.1.2),0,())) (am (ca 0 h e) (am (ca d e e) (am (i7 (bQ (aa 0) f) (bQ (aT a.1) 1)) (am (cZ (i7 (aa 0) (bQ (aT g) 1)) (ca (bf f) e (bi (len g) (bf (aa 0))))) (some (((x.1.1.1,i.1,cut (dU g (bQ (aa 0) (aa (bf f))) j (bO j fE)) (aa 0) f,i.2.2),x.1.2),0,()))))))))
def Od(x:wj):Option (rP):=letI b:=x.1.1.2.2;letI c:=x.2.1.2.2.1;ob (qT (c,len b.2.1,())) λ(a:aV)=>T (a_ a.1) (some (x.1,12,())) (ob (Ed (b.1,())) λ(a:wd)=>am (aU c (len b.2.1)) (am (cB 80 (bQ (aT a.1) (aT [ak b.2.1 (aa c) fE]))) (some (((x.1.1.1,x.1.1.2.1,bv a.1 [ak b.2.1 (aa c) fE],b.2),x.1.2),0,()))))
def Ok(x:wj):Option (rP):=letI e:=x.1.1.2.2;letI c:=x.2.1.2.2;letI b:=ak e.2.1 (aa c.1) fE;letI f:=aU c.1 (len e.2.1);letI h:=aa c.2.1;letI i:=some (true,());letI j:=len c.2.2.1;ob (qT (c.1,len e.2.1,())) λ(a:aV)=>ob (T (a_ a.1) i (am f (ob (qT (c.2.1,len b.2.2.1,())) λ(a:aV)=>T (a_ a.1) i (some (ag j 0,()))))) λ(a:aV)=>T a.1 (some (x.1,12,())) (am f (ob (mU (b.2.2.1,())) λ(a:co)=>letI d:=u8 (fx IntKind.u8 (aI (ak a.1 h (u8 0))) (aI (ak c.2.2.1 (aa 0) (u8 0))));letI g:=aU c.2.1 (len a.1);am g (am (aU 0 j) (am g (ob (Ed (e.1,())) λ(a6:wd)=>am (cB 80 (bQ (aT a6.1) (aT [(b.1,b.2.1,cj a.1 h d,b.2.2.2)]))) (some (((x.1.1.1,x.1.1.2.1,bv a6.1 [(b.1,b.2.1,cj a.1 h d,b.2.2.2)],e.2),x.1.2),0,())))))))
def Oi(x:wj):Option (rP):=letI b:=x.2.1.2;ob (qT (b.1,2,())) λ(a:aV)=>T (a_ a.1) (some (x.1,1,())) (ob (EE (x.1,b.1,b.2.1,b.2.2.2.1,())) λ(a:o')=>some (a.1,0,()))
def LO(x:uU):Option (uU):=letI b:=aU x.2.1 (bf 4);ob (G1 (x.1,x.2.1,true,())) λ(a:uU)=>T (ag a.2.1 0) (am b (am b (some ((a.1.1,a.1.2.1,cj a.1.2.2.1 (aa x.2.1) (i64 (av (ak a.1.2.2.1 (aa x.2.1) 0) 1)),a.1.2.2.2),a.2.1,())))) (some (a.1,a.2.1,()))
def KS(x:e5):Option (e5):=letI c:=x.1.1.2.2;letI b:=c.2.2.2.2.2;letI d:=b.2.2.2.2;T (ag c.1 8) (some (x.1,11,())) (ob (LO (d.2.2.2.2.1,x.2.1,())) λ(a:uU)=>T (a_ (ag a.2.1 0)) (some (x.1,a.2.1,())) (ob (j9 (((x.1.1.1,x.1.1.2.1,c.1,c.2.1,c.2.2.1,c.2.2.2.1,c.2.2.2.2.1,b.1,b.2.1,b.2.2.1,b.2.2.2.1,d.1,d.2.1,d.2.2.1,d.2.2.2.1,a.1,d.2.2.2.2.2),x.1.2),())) λ(a:bK)=>some (a.1,0,())))
def Oj(x:wj):Option (rP):=letI b:=x.2.1.2.2.1;letI c:=ak x.1.1.1 (aa 0) p8;letI d:=ak x.1.1.1 (aa 1) p8;letI e:=some (true,());letI f:=aU 0 (bf 2);letI g:=aU 1 (bf 2);letI h:=aU b (bf 4);am f (ob (T (ag c.2.2.1 8) e (am g (some (ag d.2.2.1 8,())))) λ(a:aV)=>T a.1 (some (x.1,11,())) (ob (qT (b,4,())) λ(a:aV)=>T (a_ a.1) (some (x.1,1,())) (am f (am h (ob (T (ak c.2.2.2.2.2.2.2.2.2.2.2.2.2.2.2.1.1 (aa b) false) e (am g (am h (some (ak d.2.2.2.2.2.2.2.2.2.2.2.2.2.2.2.1.1 (aa b) false,()))))) λ(a:aV)=>T a.1 (some (x.1,9,())) (ci (bN (λ(ab:ly)=>T (aJ ab.1 2) (ob (Bx (ab.2.1,ab.1,())) λ(a:EA)=>ob (KS (a.2.1,b,())) λ(a6:e5)=>ob (yA (a.1,ab.1,a6.1,())) λ(a:o')=>some (aE.nx (i64 (av ab.1 1),a.1,()))) (some (aE.ex 1 (ab.1,ab.2.1,())))) (0,x.1,())) (λ(a:ly)=>none) (λ(i:Nat) (a:ly)=>am (bZ i 1) (some (a.2.1,0,()))) λ(r:Unit)=>none))))))
def Og(x:wj):Option (rP):=ob (qT (x.2.1.2.2.1,4,())) λ(a:aV)=>T (a_ a.1) (some (x.1,1,())) (ob (Jj (x.1,x.2.1.2.2.1,())) λ(a:o')=>some (a.1,0,()))
def Of(x:wj):Option (rP):=T (aJ x.2.1.2.2.1 0) (some (x.1,1,())) (ob (Oc (x.1.1,fC x.2.1.2.2.1 100,())) λ(a:yw)=>some ((a.1,x.1.2),0,()))
def KR(x:e4×gv×Unit):Option (e5):=letI b:=x.2.1.1;letI c:=x.2.1.2.2;letI d:=x.1.1.2;T (ag b 0) (ob (Lf (x.1,c.2.2.1,())) λ(a:e5)=>some (a.1,a.2.1,())) (T (ag b 1) (ob (Iz (x.1,())) λ(a:e5)=>some (a.1,a.2.1,())) (T (ag b 2) (ob (NB (x.1,())) λ(a:e5)=>some (a.1,a.2.1,())) (T (ag b 3) (ob (Nx (x.1,())) λ(a:e5)=>some (a.1,a.2.1,())) (T (ag b 4) (ob (M3 (x.1,c.2.2.1,())) λ(a:e5)=>some (a.1,a.2.1,())) (T (ag b 5) (ob (Lc (x.1,c.1,())) λ(a:e5)=>some (a.1,a.2.1,())) (T (ag b 6) (ob (FU (x.1,())) λ(a:bK)=>some (a.1,0,())) (T (ag b 14) (ob (D? (x.1,())) λ(a:bK)=>some (a.1,0,())) (T (ag b 15) (T (a_ (ag d.2.1 8)) (some (x.1,9,())) (ob (Nw (x.1,())) λ(a:bK)=>some (a.1,0,()))) (T (ag b 16) (some (((x.1.1.1,d.1,d.2.1,d.2.2.1,c.1,d.2.2.2.2),x.1.2),0,())) (some (x.1,1,())))))))))))
def p3(x:wj):Option (rP):=letI b:=x.2.1.2.1;ob (qT (b,2,())) λ(a:aV)=>T (a_ a.1) (some (x.1,1,())) (ob (Bx (x.1,b,())) λ(a:EA)=>ob (KR (a.2.1,x.2.1,())) λ(a6:e5)=>ob (yA (a.1,b,a6.1,())) λ(a:o')=>some (a.1,a6.2.1,()))
def Ji(x:gw×gv×Unit):Option (EB):=letI c:=x.2.1;letI b:=p3 ((x.1,()),c,());T (ag c.1 7) (ob (Jk ((x.1,()),c,())) λa=>some (a.1.1,a.2.1,())) <| T (ag c.1 8) (ob (Oh ((x.1,()),c,())) λa=>some (a.1.1,a.2.1,())) <| T (ag c.1 9) (ob (Od ((x.1,()),c,())) λa=>some (a.1.1,a.2.1,())) <| T (ag c.1 10) (ob (Ok ((x.1,()),c,())) λa=>some (a.1.1,a.2.1,())) <| T (ag c.1 11) (ob (Oi ((x.1,()),c,())) λa=>some (a.1.1,a.2.1,())) <| T (ag c.1 12) (ob (Oj ((x.1,()),c,())) λa=>some (a.1.1,a.2.1,())) <| T (ag c.1 13) (ob (Og ((x.1,()),c,())) λa=>some (a.1.1,a.2.1,())) <| T (ag c.1 17) (ob (Of ((x.1,()),c,())) λa=>some (a.1.1,a.2.1,())) <| T (ag c.1 0) (ob b λa=>some (a.1.1,a.2.1,())) <| T (ag c.1 1) (ob b λa=>some (a.1.1,a.2.1,())) <| T (ag c.1 2) (ob b λa=>some (a.1.1,a.2.1,())) <| T (ag c.1 3) (ob b λa=>some (a.1.1,a.2.1,())) <| T (ag c.1 4) (ob b λa=>some (a.1.1,a.2.1,())) <| T (ag c.1 5) (ob b λa=>some (a.1.1,a.2.1,())) <| T (ag c.1 6) (ob b λa=>some (a.1.1,a.2.1,())) <| T (ag c.1 14) (ob b λa=>some (a.1.1,a.2.1,())) <| T (ag c.1 15) (ob b λa=>some (a.1.1,a.2.1,())) <| T (ag c.1 16) (ob b λa=>some (a.1.1,a.2.1,())) <| some (x.1,1,())
end Yp
namespace Yp
open Go Go.Proofs Tryz
set_option maxRecDepth 100000
abbrev yB:ae:=.int .u32
abbrev wn:ae:=.int .u8
abbrev gP:ae:=.unit
abbrev Wi:ae:=.pair wn (.pair wn gP)
abbrev p5:ae:=.sl wn
abbrev Jn:ae:=.pair p5 gP
abbrev ahN:ae:=.pair wn (.pair (.bool) (.pair yB (.pair yB Jn)))
abbrev yC:ae:=.pair p5 Jn
abbrev Oq:ae:=.pair (.bool) (.pair (.sl yC) (.pair (.bool) gP))
abbrev fq:ae:=.int .i64
abbrev ahP:ae:=.pair fq (.pair fq (.pair (.bool) (.pair wn gP)))
abbrev ahO:ae:=.pair fq (.pair fq (.pair (.ar 2 fq) (.pair fq (.pair fq yC))))
abbrev Wh:ae:=.pair fq (.pair (.ar 16 (.int .u64)) gP)
abbrev EI:ae:=.pair fq (.pair fq gP)
abbrev Wg:ae:=.pair (.ar 4 (.bool)) (.pair (.ar 4 (.pair p5 EI)) (.pair (.ar 4 fq) (.pair fq gP)))
abbrev Jo:ae:=.pair (.bool) (.pair fq (.pair fq (.pair fq (.pair fq (.pair p5 (.pair p5 (.pair fq gP)))))))
abbrev ms:ae:=.pair fq Jn
abbrev EH:ae:=.pair fq ms
abbrev On:ae:=.pair fq (.pair (.sl ms) gP)
abbrev Jm:ae:=.pair ms (.pair ms (.pair ms EI))
abbrev EG:ae:=.pair fq (.pair (.ar 2 fq) ms)
abbrev BA:ae:=.pair fq (.pair fq EH)
abbrev wm:ae:=.pair fq (.pair p5 (.pair fq (.pair yC (.pair fq (.pair fq (.pair fq (.pair fq (.pair fq (.pair Wh (.pair Jm (.pair BA (.pair fq (.pair fq (.pair (.sl p5) (.pair Wg (.pair (.sl ms) (.pair (.sl EG) (.pair (.ar 4 fq) gP))))))))))))))))))
abbrev Oo:ae:=.pair wm (.pair Oq gP)
abbrev Ot:ae:=.pair (.ar 2 wm) (.pair Oq (.pair (.sl EH) (.pair (.sl EH) (.pair (.ar 2 (.sl EG)) gP))))
def OW:List (Nat×ae):=[(1,(.op 0)),(2,fq),(3,fq),(4,(.bool)),(5,wn),(6,wn),(7,ahP),(8,ahP),(9,(.str)),(10,(.str)),(11,(.str)),(12,(.int .u64)),(13,(.pair (.str) (.pair (.int .u64) gP))),(14,(.pair (.str) (.pair (.int .u64) gP))),(15,(.op 3)),(16,(.op 3)),(17,(.op 3)),(18,(.pair (.op 3) gP)),(19,(.pair (.op 3) gP)),(20,(.op 1)),(21,(.int .i32)),(22,yB),(23,p5),(24,ahN),(25,ahN),(26,(.op 0)),(27,(.sl (.str))),(28,BA),(29,BA),(30,(.op 0)),(31,(.op 0)),(33,(.op 0)),(34,(.op 0)),(35,(.op 0)),(36,yC),(37,yC),(38,(.int .u64)),(39,(.ar 16 (.int .u64))),(40,Wh),(41,Wh),(42,ms),(43,ms),(44,Jm),(45,Jm),(46,BA),(47,BA),(48,(.sl p5)),(49,(.ar 4 (.bool))),(50,(.pair p5 EI)),(51,(.pair p5 EI)),(52,(.ar 4 (.pair p5 EI))),(53,(.ar 4 fq)),(54,Wg),(55,Wg),(56,(.sl ms)),(57,(.sl EG)),(58,wm),(59,wm),(60,(.ar 2 wm)),(61,(.sl yC)),(62,Oq),(63,Oq),(64,(.sl EH)),(65,(.ar 2 (.sl EG))),(66,Ot),(67,Ot),(69,(.op 0)),(70,(.op 0)),(71,(.op 0)),(72,(.op 0)),(73,(.op 0)),(74,(.pair fq (.pair (.str) gP))),(75,(.pair fq (.pair (.str) gP))),(77,(.op 2)),(78,(.op 0)),(79,(.op 0)),(80,(.op 3)),(81,(.op 0)),(82,(.op 0)),(83,(.op 0)),(84,fq),(86,(.op 0)),(87,(.op 0)),(88,(.op 0)),(90,(.op 0)),(91,(.op 0)),(92,(.op 3)),(94,(.op 0)),(95,(.op 0)),(96,(.op 3)),(97,(.ar 2 fq)),(98,EG),(99,EG),(100,(.sl fq)),(101,(.op 0)),(102,(.op 0)),(104,(.op 2)),(105,(.op 0)),(106,(.op 3)),(107,(.pair Ot gP)),(108,(.pair Ot gP)),(110,(.op 0)),(112,(.op 0)),(113,(.op 0)),(114,(.op 0)),(115,(.op 0)),(117,(.op 0)),(119,(.op 0)),(120,(.ar 9 (.str))),(121,(.int .u64)),(122,(.op 3)),(123,(.pair (.op 3) Jn)),(124,(.pair (.op 3) Jn)),(125,(.op 0)),(126,(.op 1)),(127,(.op 1)),(129,(.op 0)),(130,(.op 0)),(131,(.op 0)),(132,(.ar 10 fq)),(133,(.op 0)),(134,(.op 0)),(136,(.op 0)),(137,(.op 0)),(138,(.op 0)),(140,(.op 0)),(141,(.op 3)),(142,(.op 0)),(143,EH),(144,EH),(145,(.op 0)),(146,(.op 0)),(147,(.op 0)),(148,(.op 0)),(149,Oo),(150,Oo),(152,(.op 0)),(153,(.op 0)),(154,(.op 0)),(155,(.op 0)),(156,(.op 0)),(157,(.op 0)),(158,(.op 0)),(160,(.op 0)),(161,(.op 0)),(162,(.op 0)),(164,(.op 0)),(165,(.op 0)),(167,(.op 0)),(168,(.op 0)),(169,ms),(170,ms),(171,(.op 0)),(172,(.op 0)),(173,(.op 0)),(174,(.op 0)),(175,(.op 0)),(176,(.ar 256 wn)),(177,Wi),(178,Wi),(179,(.ar 16 Wi)),(181,(.op 0)),(183,(.op 0)),(184,(.op 0)),(185,(.op 0)),(187,(.op 0)),(188,(.op 0)),(189,(.op 0)),(190,(.op 0)),(192,(.op 0)),(193,(.op 0)),(194,(.op 0)),(196,(.op 0)),(197,(.op 0)),(199,(.op 0)),(200,(.op 0)),(201,(.op 0)),(202,(.op 0)),(203,(.pair wm gP)),(204,(.pair wm gP)),(205,(.pair (.pair wm gP) (.pair Oo gP))),(206,(.pair (.pair wm gP) (.pair Oo gP))),(207,(.op 0)),(208,(.op 0)),(210,(.op 0)),(211,(.op 0)),(212,Jo),(213,Jo),(214,(.op 0)),(216,(.op 0)),(217,(.op 0)),(218,(.ar 8 yB)),(219,(.pair (.ar 8 yB) ms)),(220,(.pair (.ar 8 yB) ms)),(221,(.op 0)),(222,(.op 0)),(224,(.op 0)),(225,ahO),(226,ahO),(228,(.op 0)),(229,(.op 1)),(230,(.op 1)),(231,(.op 0)),(232,(.pair Jo gP)),(233,(.pair Jo gP)),(234,(.op 0)),(235,(.sl ms)),(236,On),(237,On),(238,(.pair On gP)),(239,(.pair On gP)),(240,(.op 0)),(241,(.op 0)),(242,(.op 0)),(243,(.op 0)),(244,(.op 0)),(245,(.op 0)),(246,(.op 0)),(247,(.op 3)),(248,(.pair BA gP)),(249,(.pair BA gP)),(250,(.op 0)),(251,(.op 0)),(253,(.op 0)),(254,(.op 0)),(255,(.op 0)),(256,(.op 0)),(258,(.op 0)),(260,(.op 0)),(261,(.op 2)),(262,(.op 0)),(263,(.pair Jm gP)),(264,(.pair Jm gP)),(265,(.op 0)),(266,(.op 0)),(267,(.op 0)),(270,(.op 0)),(271,(.op 0)),(272,(.op 0)),(274,(.op 0)),(275,(.op 0)),(276,(.op 0)),(277,(.op 0)),(278,(.op 3)),(280,(.op 0)),(281,(.op 0)),(282,(.op 0)),(284,(.op 0)),(285,gP),(286,gP),(288,(.op 0)),(289,(.op 0)),(290,(.op 0)),(291,(.ar 4 fq)),(293,(.op 0)),(294,(.op 0)),(306,EI),(312,ms),(315,(.fn [265])),(317,(.pair (.sl ms) (.pair (.fn [265]) gP))),(328,(.ar 3 ms)),(337,(.ar 64 yB)),(340,(.sl yB)),(352,(.pair (.op 0) (.pair (.op 0) gP))),(354,(.op 2)),(363,yC),(368,(.op 0)),(374,(.fn [292,293,294,295])),(376,Jo),(379,(.sl (.op 3))),(384,(.fn [278])),(386,(.ar 3 fq)),(387,(.op 0)),(388,yC),(390,(.sl (.sl ms))),(400,(.op 0))]
def WG:List (Nat×ae×ae):=[(77,.str,.pair (.int .i64) (.pair (.str) (.unit))),(104,.int .i64,.op 0),(261,.int .i64,.int .i64),(354,.int .i64,.pair (.op 0) (.pair (.op 0) (.unit)))]
def Ws:List Nat:=[97]
def sq:mV Tryz.prog (Dj OW):=agW _ _ (by kernel_rfl)
def aoD:ps Tryz.prog (Dj OW) (Hy Ws):=YL _ _ _ (by kernel_rfl)
def aoK:qA Tryz.prog (Hz WG):=acZ _ _ (by kernel_rfl)
def vf:Tryz.prog.follows .mixedOrders=true:=by kernel_rfl
def aoH : ∀ g, (some 3 : Option Nat) = some g → Tryz.prog.globalNamed "yett/sha.keys" = some g := by intro g h; cases h; kernel_rfl
abbrev e6(G:List (Nat×eA))(I:List (Nat×fJ))(X:List (Nat×ik))(Q:List (Nat×nJ))(Pn:Option (Nat×Nat))(U A:Bool)(b:Nat):db:={ b8:=Dj OW,G:=t? G,I:=ua I,M:=Hz WG,C:=Hy Ws,K:=some 3,X:=xF X,Q:=Di Q,Pn:=Pn,U:=U,A:=A,b:=b }
def pP(m t:Nat):(none:Option (Nat×Nat))=some (m,t)->yY Tryz.prog m t:=λh=>by cases h
def oX{E:db}(f:Nat)(s:nJ):Di [] f=some s->EX Tryz.prog E f s:=λh=>by cases h
def n8{G:List (Nat×eA)}{I:List (Nat×fJ)}{X:List (Nat×ik)}{Q:List (Nat×nJ)}{Pn:Option (Nat×Nat)}{A:Bool}{b:Nat}(dA:∀f s,t? G f=some s->fG Tryz.prog f s)(eo:∀f g,ua I f=some g->j3 Tryz.prog f g)(dg:∀f s,xF X f=some s->ij Tryz.prog f s)
  (zx:∀f s,Di Q f=some s->EX Tryz.prog (e6 G I X Q Pn U A b) f s) (pD:∀m t,Pn=some (m,t)->yY Tryz.prog m t):nC Tryz.prog (e6 G I X Q Pn U A b):=⟨sq,aoD,aoK,dA,aoH,eo,dg,zx,pD⟩
abbrev FK:=fG Tryz.prog
abbrev IK:=j3 Tryz.prog
def Dq {E : db} (b? : nC Tryz.prog E)  {fn : Func} {s : eA} (hf : Tryz.prog.funcs[f]? = some fn) (nv : Nat) (aj : (fn.name == "runtime.NumGoroutine") = false := by kernel_rfl) (Y : fn.body.isSome = true := by kernel_rfl) (aA : ∀ x, Mf E fn nv s.args s.res x = s.fn x) : fG Tryz.prog f s := (ati b? vf hf aj nv s.args s.res Y).congr aA
def as9 {E : db} (b? : nC Tryz.prog E)  {fn : Func} {s : ik} (hf : Tryz.prog.funcs[f]? = some fn) (nv : Nat) (aj : (fn.name == "runtime.NumGoroutine") = false := by kernel_rfl) (Y : fn.body.isSome = true := by kernel_rfl) (aA : ∀ x, HC E fn nv s.ty s.args s.res x = s.fn x) : ij Tryz.prog f s := (atf b? vf hf aj nv s.ty s.args s.res Y).congr aA
def atb {E : db} (b? : nC Tryz.prog E)  {fn : Func} {s : nJ} {m:Nat} (ma : E.Pn = some (m, bc)) (hf : Tryz.prog.funcs[f]? = some fn) (nv : Nat) (aj : (fn.name == "runtime.NumGoroutine") = false := by kernel_rfl) (Y : fn.body.isSome = true := by kernel_rfl) (aA : ∀ x, Mg E fn nv s.ty s.args [.im s.rt] x = s.fn x) : uK Tryz.prog f bc s.ty s.args [.im s.rt] s.fn := (ath b? vf hf aj nv s.ty s.args [.im s.rt] Y ma).congr aA
def ata {E EC : db} (b? : nC Tryz.prog E) (qm : nC Tryz.prog EC) {F:Nat} {fn e7 : Func} {s : eA} {m:Nat} (ma : E.Pn = some (m, bc)) (hf : Tryz.prog.funcs[f]? = some fn) (dW : Tryz.prog.funcs[F]? = some e7) (nv lQ : Nat) (aj : (fn.name == "runtime.NumGoroutine") = false := by kernel_rfl) (aqq : (e7.name == "runtime.NumGoroutine") = false) (Y : fn.body.isSome = true := by kernel_rfl)
  (RM:∀c A B q,fn.body=some c->yc c=some (A,q,B)->q.2.1=F) (aA:∀x,Ts E EC fn e7 nv lQ bc s.args s.res x=s.fn x):fG Tryz.prog f s:=(atg b? qm vf hf aj dW aqq nv lQ s.args s.res ma Y RM).congr aA
def ac3 {E : db} (b? : nC Tryz.prog E)  {fn : Func} (hf : Tryz.prog.funcs[f]? = some fn) (nv : Nat) (aj : (fn.name == "runtime.NumGoroutine") = false := by kernel_rfl) (Y : fn.body.isSome = true := by kernel_rfl) : j3 Tryz.prog f (h1 E fn nv) := ar1 b? vf hf aj nv Y
def atc{G:List (Nat×eA)}{I:List (Nat×fJ)}{X:List (Nat×ik)}{Q:List (Nat×nJ)}{A:Bool}{b m:Nat}{s:nJ}(h:uK Tryz.prog f bc s.ty s.args [.im s.rt] s.fn):∀g t,Di [(f,s)] g=some t->EX Tryz.prog (e6 G I X Q (some (m,bc)) U A b) g t:=by
 intro g t ac;simp only[Di]at ac;cases Y:Nat.beq f g with
 |true=>rw[Y]at ac;cases ac;rw[<- fy Y];exact⟨m,bc,rfl,h⟩
 |false=>rw[Y]at ac;cases ac
def bd {G : List (Nat × eA)} {I : List (Nat × fJ)} (dA : ∀ f s, t? G f = some s → fG Tryz.prog f s) (eo : ∀ f g, ua I f = some g → j3 Tryz.prog f g)  {fn : Func} {s : eA} (hf : Tryz.prog.funcs[f]? = some fn) (nv : Nat) (aj : (fn.name == "runtime.NumGoroutine") = false := by kernel_rfl) (Y : fn.body.isSome = true := by kernel_rfl) (aA : ∀ x, Mf (e6 G I [] [] none false false 0) fn nv s.args s.res x = s.fn x := by intro x; kernel_rfl) : fG Tryz.prog f s := Dq (n8 dA eo iD oX pP) hf nv aj Y aA
def oF {G : List (Nat × eA)} {I : List (Nat × fJ)} {X : List (Nat × ik)} (dA : ∀ f s, t? G f = some s → fG Tryz.prog f s) (eo : ∀ f g, ua I f = some g → j3 Tryz.prog f g) (dg : ∀ f s, xF X f = some s → ij Tryz.prog f s)  {fn : Func} {s : ik} (hf : Tryz.prog.funcs[f]? = some fn) (nv : Nat) (aj : (fn.name == "runtime.NumGoroutine") = false := by kernel_rfl) (Y : fn.body.isSome = true := by kernel_rfl) (aA : ∀ x, HC (e6 G I X [] none false false 0) fn nv s.ty s.args s.res x = s.fn x := by intro x; kernel_rfl) : ij Tryz.prog f s := as9 (n8 dA eo dg oX pP) hf nv aj Y aA
def jf {G : List (Nat × eA)} {I : List (Nat × fJ)} {A:Bool} {b : Nat} (dA : ∀ f s, t? G f = some s → fG Tryz.prog f s) (eo : ∀ f g, ua I f = some g → j3 Tryz.prog f g)  {fn : Func} (hf : Tryz.prog.funcs[f]? = some fn) (nv : Nat) (aj : (fn.name == "runtime.NumGoroutine") = false := by kernel_rfl) (Y : fn.body.isSome = true := by kernel_rfl) : j3 Tryz.prog f (h1 (e6 G I [] [] none U A b) fn nv) := ac3 (n8 dA eo iD oX pP) hf nv aj Y
def atk(b:Bool)(k:Nat)(w:World):Calls Tryz.prog 180 #[.bool b,.int .i64 (k:Int)] w λe w'=>w'=w/\e=if b then .returned (.tuple #[]) else .panicked [{ v:=.iface 84 (.int .i64 (k:Int)),recovered:=false }]:=by
 cases b with
 |true=>
  go_enter Tryz.func180,Tryz.ntmps180
  go_wp2
  exact⟨rfl,.tuple #[],by kernel_rfl,rfl,rfl⟩
 |false=>
  go_enter Tryz.func180,Tryz.ntmps180
  go_wp2
  have ah:(Instr.panic (Value.iface 84 (Value.int IntKind.i64 ↑k))).run Tryz.prog w=.halt (.panic (Value.iface 84 (Value.int IntKind.i64 ↑k))) w:=rfl;rw[ah];exact⟨rfl,rfl,rfl⟩
def adb(m t:Nat):(some (180,84):Option (Nat×Nat))=some (m,t)->yY Tryz.prog m t:=λh=>by cases h;exact⟨⟨_,Tryz.func180,by kernel_rfl,by kernel_rfl⟩,atk⟩
abbrev Io:eA:=⟨[p5,p5],[.im (.bool)],Dk⟩
def PZ:FK 247 Io:=bd aW aX func247 7
def Xx:FK 268 ⟨[fq],[.im fq,.im wn],tz⟩:=bd aW aX func268 4
end Yp
namespace Yp
open Go Go.Proofs
set_option maxRecDepth 100000
def uV:=@Eq.trans
def H0(c:Code):Code:=match c with|.seq a _=>a|_=>.skip
def H1(c:Code):Code:=match c with|.seq _ (.seq (.seq c _) _)=>c|_=>.skip
def MH(c:Code):Code:=match c with|.seq _ (.seq (.seq _ (.cond _ x _)) _)=>x|_=>.skip
def MI(c:Code):Code:=match c with|.seq _ (.seq _ z)=>z|_=>.skip
def mA(f:Func):Code:=f.body.getD .skip
def Mm(f:Func)(nv:Nat)(ts:List ae)(rs:List ef)(x:hZ ts):aP (jO (d8 rs)):=
 fill f.ntmps (m7 ts x) 0 .e λt=>aP.bind (run (e6 [] [] [] [] none false false 0) rs f.results.toList nv f.ntmps false (H0 (mA f)) ⟨t,[],[]⟩) fun|.nx s=>run (e6 [] [] [] [] none false false 0) rs f.results.toList nv f.ntmps false (H1 (mA f)) s|o=>.leaf o
def wV{a r:α}(h:am c (some a)=some r):c=true/\a=r:=by
 cases c
 .cases h
 exact⟨rfl,lZ h⟩
def Ma{l:List α}(h:ag (len l) 0=true):l=[]:=by
 have R:len l=0:=by unfold ag at h;exact beq_iff_eq.1 h
 unfold len at R;exact k3.1 J
abbrev afn:eA:=⟨[.sl (.int .u8)],[.ow (.int .u8)],Kg⟩
def aoT:fG Tryz.prog 256 afn:=by
 refine Mn (E:=e6 [] [] [] [] none false false 0) (n8 aW aX iD oX pP) vf Tryz.func256 (by kernel_rfl) 3 _ _ (A:=H0 (mA Tryz.f256)) (C:=H1 (mA Tryz.f256)) (X:=MH (mA Tryz.f256)) (Z:=MI (mA Tryz.f256)) (k:=4) (by kernel_rfl) iL
  (λx=>L7 (Mm Tryz.f256 3 [.sl (.int .u8)] [.ow (.int .u8)] x)) (λx=>ag (len (x.1:V)) 0) (λx=>by kernel_rfl) (λx=>by kernel_rfl) (λx r ai hm => ?_) (λx r hm => ?_)
 .obtain⟨l,⟨⟩⟩:=x
  obtain⟨_,rfl⟩:=wV (show am (cB 1 (aT (l:V))) (some ((l:V),()))=some r from hm);obtain rfl:l=([]:V):=Ma ai;kernel_rfl
 have h:am (cB 1 (bQ (aT ([]:V)) (aT (x.1:V)))) (some (aE.rt (σ:=aM) (bv ([]:V) (x.1:V),())))=some (.rt r):=by obtain⟨O,rfl⟩:=wV (show am (cB 1 (aT (x.1:V))) (some ((x.1:V),()))=some r from hm);rw[show bQ (aT ([]:V)) (aT (x.1:V))=aT (x.1:V) from jw _,O];rfl
 exact uV (by kernel_rfl) h
abbrev afP:eA:=⟨[.sl (.sl (.int .u8))],[.ow (.sl (.int .u8))],agu⟩
def aoY:fG Tryz.prog 144 afP:=by
 refine Mn (E:=e6 [] [] [] [] none false false 0) (n8 aW aX iD oX pP) vf Tryz.func144 (by kernel_rfl) 3 _ _ (A:=H0 (mA Tryz.f144)) (C:=H1 (mA Tryz.f144)) (X:=MH (mA Tryz.f144)) (Z:=MI (mA Tryz.f144)) (k:=4) (by kernel_rfl) iL
  (λx=>L7 (Mm Tryz.f144 3 [.sl (.sl (.int .u8))] [.ow (.sl (.int .u8))] x)) (λx=>ag (len (x.1:List V)) 0) (λx=>by kernel_rfl) (λx=>by kernel_rfl) (λx r ai hm => ?_) (λx r hm => ?_)
 .obtain⟨l,⟨⟩⟩:=x
  obtain⟨_,rfl⟩:=wV (show am (cB 32 (aT (l:List V))) (some ((l:List V),()))=some r from hm);obtain rfl:l=([]:List V):=Ma ai;kernel_rfl
 have h:am (cB 32 (bQ (aT ([]:List V)) (aT (x.1:List V)))) (some (aE.rt (σ:=aM) (bv ([]:List V) (x.1:List V),())))=some (.rt r):=by obtain⟨O,rfl⟩:=wV (show am (cB 32 (aT (x.1:List V))) (some ((x.1:List V),()))=some r from hm);rw[show bQ (aT ([]:List V)) (aT (x.1:List V))=aT (x.1:List V) from jw _,O];rfl
 exact uV (by kernel_rfl) h
abbrev afO:eA:=⟨[.sl (.int .u8)],[.ow (.int .u8)],mU⟩
def aoX:fG Tryz.prog 65 afO:=by
 refine Mn (E:=e6 [] [] [] [] none false false 0) (n8 aW aX iD oX pP) vf Tryz.func65 (by kernel_rfl) 3 _ _ (A:=H0 (mA Tryz.f65)) (C:=H1 (mA Tryz.f65)) (X:=MH (mA Tryz.f65)) (Z:=MI (mA Tryz.f65)) (k:=4) (by kernel_rfl) iL
  (λx=>L7 (Mm Tryz.f65 3 [.sl (.int .u8)] [.ow (.int .u8)] x)) (λx=>ag (len (x.1:V)) 0) (λx=>by kernel_rfl) (λx=>by kernel_rfl) (λx r ai hm => ?_) (λx r hm => ?_)
 .obtain⟨l,⟨⟩⟩:=x
  obtain⟨_,rfl⟩:=wV (show am (cB 1 (aT (l:V))) (some ((l:V),()))=some r from hm);obtain rfl:l=([]:V):=Ma ai;kernel_rfl
 have h:am (cB 1 (bQ (aT ([]:V)) (aT (x.1:V)))) (some (aE.rt (σ:=aM) (bv ([]:V) (x.1:V),())))=some (.rt r):=by obtain⟨O,rfl⟩:=wV (show am (cB 1 (aT (x.1:V))) (some ((x.1:V),()))=some r from hm);rw[show bQ (aT ([]:V)) (aT (x.1:V))=aT (x.1:V) from jw _,O];rfl
 exact uV (by kernel_rfl) h
abbrev afN:eA:=⟨[.sl (.pair (.int .i64) (.pair (.int .i64) (.pair (.sl (.int .u8)) (.unit))))],[.ow (.pair (.int .i64) (.pair (.int .i64) (.pair (.sl (.int .u8)) (.unit))))],IG⟩
def aoW:fG Tryz.prog 61 afN:=by
 refine Mn (E:=e6 [] [] [] [] none false false 0) (n8 aW aX iD oX pP) vf Tryz.func61 (by kernel_rfl) 3 _ _ (A:=H0 (mA Tryz.f61)) (C:=H1 (mA Tryz.f61)) (X:=MH (mA Tryz.f61)) (Z:=MI (mA Tryz.f61)) (k:=4) (by kernel_rfl) iL
  (λx=>L7 (Mm Tryz.f61 3 [.sl (.pair (.int .i64) (.pair (.int .i64) (.pair (.sl (.int .u8)) (.unit))))] [.ow (.pair (.int .i64) (.pair (.int .i64) (.pair (.sl (.int .u8)) (.unit))))] x)) (λx=>ag (len (x.1:List (Int×Int×V×Unit))) 0) (λx=>by kernel_rfl) (λx=>by kernel_rfl) (λx r ai hm => ?_) (λx r hm => ?_)
 .obtain⟨l,⟨⟩⟩:=x
  obtain⟨_,rfl⟩:=wV (show am (cB 80 (aT (l:List (Int×Int×V×Unit)))) (some ((l:List (Int×Int×V×Unit)),()))=some r from hm);obtain rfl:l=([]:List (Int×Int×V×Unit)):=Ma ai;kernel_rfl
 have h:am (cB 80 (bQ (aT ([]:List (Int×Int×V×Unit))) (aT (x.1:List (Int×Int×V×Unit))))) (some (aE.rt (σ:=aM) (bv ([]:List (Int×Int×V×Unit)) (x.1:List (Int×Int×V×Unit)),())))=some (.rt r):=by obtain⟨O,rfl⟩:=wV (show am (cB 80 (aT (x.1:List (Int×Int×V×Unit)))) (some ((x.1:List (Int×Int×V×Unit)),()))=some r from hm);rw[show bQ (aT ([]:List (Int×Int×V×Unit))) (aT (x.1:List (Int×Int×V×Unit)))=aT (x.1:List (Int×Int×V×Unit)) from jw _,O];rfl
 exact uV (by kernel_rfl) h
end Yp
namespace Yp
open Go Go.Proofs Go.RowKit Go.Shelf
def nG:=@List.nil_append
def ta:=@Array.replicate_zero
def tb:=@List.append_toArray
def tg:=@List.push_toArray
def E_:=@List.filter_append
def BV:=@List.range_succ
attribute [local go_sem] Oper.semAt_some
def i4(res:Nat->Bool)(k:Nat):List Nat:=(List.range k).filter res
def abw(res:Nat->Bool)(k:Nat):i4 res (k+1)=i4 res k++if res k=true then[k]else[]:=by
 unfold i4;rw[BV,E_]
 grind
def ap9(res:Nat->Bool)(k:Nat):(i4 res k).length<=k:=by have:=rW res (List.range k);unfold i4;simpa using this
set_option maxRecDepth 100000 in
set_option maxHeartbeats 2000000 in
def anJ(n l EM yI n₀ b off cap N:Nat)(ad:Option Addr)(AH H2:Value)(bI:Nat->Value×Value)(res:Nat->Bool)(iR:∀j,∃a n c a' n' cL,bI j=(.slice a n c,.slice a' n' cL))(fM:N<=9223372036854775807)(Y:0<N->ad=some ⟨b,off,none⟩/\b<n₀)(hG rY:List Nat->World->Prop)
  (kx:∀s W W',hG s W->Below W.heap.size W W'->hG s W')
  (vh:∀(pre:List Nat) (x:Nat) W,hG pre W->x<N->res x=true->pre.length<N->YieldAt Fence.wide n Tryz.prog l #[.int .i64 (x:Int)] W λe W'=>
   (e=.returned (.bool true)/\hG (pre++[x]) W'/\Below n₀ W W')\/(e=.returned (.bool false)/\rY (pre++[x]) W'))
  (W:World) (aoA:W.cell? ⟨EM,0,none⟩=some (.slice ad N cap)) (aox:W.cell? ⟨yI,0,none⟩=some (.func (.func 285) #[.agg #[AH,H2]] #[])) (aoB:EM<n₀) (aaL:yI<n₀) (aj:n₀<=W.heap.size)
  (ng:∀j,j<N->W.cell? ⟨b,off+j*2,none⟩=some (bI j).1) (sr:∀j,j<N->W.cell? ⟨b,off+j*2+1,none⟩=some (bI j).2)
  (RN:∀j,j<N->∀w,Below n₀ W w->CallsIn Fence.wide n Tryz.prog 285 #[.agg #[AH,H2],.agg #[(bI j).1,(bI j).2]] w λe w'=>e=.returned (.bool (res j))/\Below w.heap.size w w') (ao:hG [] W) :
  CallsIn Fence.wide (n+1) Tryz.prog 296 #[.func (.yield l) #[] #[],.pointer (some ⟨EM,0,none⟩),.pointer (some ⟨yI,0,none⟩)] W λe W'=>(∃v,e=.returned v) /\
   (hG (i4 res N) W'\/(∃k,k<=N/\rY (i4 res k) W')):=by
 have azI:Fence.wide.fn 285:=trivial;refine callsIn_of_wp Tryz.func296 rfl trivial ?_ rfl;simp only[Tryz.ntmps296,pg,ew,gu,Nat.reduceAdd,Nat.reduceSub,rX,ta,tg,tb,nG,lA]
 gi_wp2
 gi_loopw [8] (λi wr=>∃k:Nat,k<=N/\i=.int .i64 k/\hG (i4 res k) wr/\Below n₀ W wr/\W.heap.size<=wr.heap.size)
  (λi _=>N-(intOf i).toNat)
 case atStart=>exact⟨0,J,rfl,ao,Below.refl _ _,bU _⟩
 case round=>
  obtain⟨k,ap,rfl,CN,n2,cQ⟩:=hrel;have azi:wr.cell? ⟨EM,0,none⟩=some (.slice ad N cap):=(n2.cell (p:=⟨EM,0,none⟩) aoB).trans aoA;have aoy:wr.cell? ⟨yI,0,none⟩=some (.func (.func 285) #[.agg #[AH,H2]] #[]):=(n2.cell (p:=⟨yI,0,none⟩) aaL).trans aox;by_cases bm:k<N
  .have vq:(k:Int)<(N:Int):=J
   obtain⟨rfl,tQ⟩:=Y J;have d4:wr.cell? ⟨b,off+k*2,none⟩=some (bI k).1:=(n2.cell (p:=⟨b,off+k*2,none⟩) tQ).trans (ng k bm);have e1:wr.cell? ⟨b,off+k*2+1,none⟩=some (bI k).2:=(n2.cell (p:=⟨b,off+k*2+1,none⟩) tQ).trans (sr k bm);have RO:=RN k bm;have aoR:=vh (i4 res k) k;obtain⟨cI,vP,c1,cR,qD,c2,apL⟩:=iR k;rw[apL]at d4 e1 RO;dsimp only at d4 e1 RO;have hb3:Below wr.heap.size wr (wr.alloc (.cells #[.slice cI vP c1,.slice cR qD c2] 363)):=(Below.refl _ _).alloc (bU _) _;have C2:n₀<=wr.heap.size:=eZ aj cQ;have azh:(wr.alloc (.cells #[.slice cI vP c1,.slice cR qD c2] 363)).cell? ⟨yI,0,none⟩=some (.func (.func 285) #[.agg #[AH,H2]] #[]):=(hb3.cell (p:=⟨yI,0,none⟩) (hU aaL C2)).trans aoy;have Lr:=RO _ (n2.trans (hb3.mono C2));have aaQ:=kx _ _ _ CN hb3;cases hh:res k
   .rw[hh]at Lr
    have nl:i4 res (k+1)=i4 res k:=by rw[abw,hh,if_neg bh,hF]
    gi_wp2_with (gi_at_call 285;refine Lr.mono ?_;rintro e cf ⟨rfl,hb1⟩)
    refine⟨λ_ _=>trivial,?_⟩
    gi_wp2
    refine⟨⟨k+1,J,bh,by rw[nl];exact kx _ _ _ aaQ hb1,(n2.trans (hb3.mono C2)).trans (hb1.mono (eZ C2 hb3.size)),eZ cQ (eZ hb3.size hb1.size)⟩,?_⟩;simp[intOf];omega
   rw[hh]at Lr;have nl:i4 res (k+1)=i4 res k++[k]:=by rw[abw,hh,if_pos rfl]
   have hl:=ap9 res k
   gi_wp2_with (gi_at_call 285;refine Lr.mono ?_;rintro e cf ⟨rfl,hb1⟩;obtain⟨fn,tmps,assign,body,hy,jl⟩:=aoR cf (kx _ _ _ aaQ hb1) bm hh J)
   refine jl.mono ?_;rintro e aiA (⟨rfl,RP,fc⟩|⟨rfl,RQ⟩)
   .gi_wp2
    refine⟨⟨k+1,J,bh,by rw[nl];exact RP,((n2.trans (hb3.mono C2)).trans (hb1.mono (eZ C2 hb3.size))).trans fc,eZ cQ (eZ (eZ hb3.size hb1.size) fc.size)⟩,?_⟩;simp[intOf];omega
   gi_wp2
   refine bodyPost_ret (results_none rfl _ _ _) rfl ?_;exact⟨⟨_,rfl⟩,.inr ⟨k+1,J,by rw[nl];exact RQ⟩⟩
  have qs:k=N:=J;subst qs;have vq:¬((k:Nat):Int)<(k:Int):=J
  gi_wp2
  go_end0
  exact⟨⟨_,rfl⟩,.inl CN⟩
set_option maxRecDepth 100000 in
def anK(m:Nat)(a:Option Addr)(n cap:Nat)(f:Value)(w:World)(aC:f.oneCell'=true):CallsIn Fence.wide m Tryz.prog 286 #[.slice a n cap,f] w λe w'=>e=.returned (.func (.func 296) #[] #[.pointer (some ⟨w.heap.size,0,none⟩),.pointer (some ⟨w.heap.size+1,0,none⟩)])/\w'=(w.alloc (.cells #[.slice a n cap] 61)).alloc (.cells #[f] 387):=by
 refine callsIn_of_wp Tryz.func286 rfl trivial ?_ rfl;simp only[Tryz.ntmps286,pg,ew,gu,Nat.reduceAdd,Nat.reduceSub,rX,ta,tg,tb,nG,lA]
 gi_wp2
 go_ret
 exact⟨rfl,rfl⟩
end Yp
namespace Yp
open Go
def nH:=@List.take_succ_eq_append_getElem
def i0:=@Int.toNat_natCast
def mu:=@List.getElem_mem
def th:=@List.ext_getElem
def qW:=@Nat.pow_succ
def uN:=@UInt8.toNat_inj
def wA:=@List.getElem_map
def yP:=@List.getElem_range
def BI:=@Nat.pow_le_pow_right
def JH:=@Nat.two_pow_add_eq_or_of_lt
def BK:=@BitVec.toNat_ofNat
def wL:=@Nat.pow_pos
def JZ:=@BitVec.ofInt_natCast
def Fb:=@Nat.div_eq_of_lt
def E7:=@Int.ofNat.inj
def OD:=@UInt8.toNat_ofNat
def OE:=@List.foldl_append
def Jx:=@Nat.lt_irrefl
def OI:=@List.getElem_set
def OL:=@Int.natCast_pow
def OO:=@Int.ofNat_tmod
def Tj{σ ρ:Type}{f:σ->Option (aE σ ρ)}:∀{n m:Nat} {x:σ} {r:aE σ ρ},n6 f n x=some r->n<=m->n6 f m x=some r
 |n+1,m+1,x,r,h,hm=>by
  simp only[n6]at h ⊢;split at h
  .exact Tj h J
  exact h
def ub{f:σ->Option (aE σ ρ)}{x:σ}{r:aE σ ρ}(n:Nat)(h:n6 f n x=some r):bN f x=some r:=by
 have tS:∃n,(n6 f n x).isSome:=⟨n,by rw[h];rfl⟩;unfold bN;have ac:=Classical.choose_spec tS;obtain⟨qL,ah⟩:=Option.isSome_iff_exists.1 ac;have O:=Tj ah (Nat.le_max_left _ n);have R:=Tj h (Nat.le_max_right (Classical.choose tS) n)
 grind
def ez{f:σ->Option (aE σ ρ)}{x y:σ}(h:f x=some (.nx y)):bN f x=bN f y:=by
 cases hy:bN f y with
 |some r =>obtain⟨n,aj⟩:=Tk hy;exact ub (n+1) (by simp[n6,h,aj])
 |none=>
  cases hx:bN f x with
  |none=>rfl
  |some r=>
   obtain⟨n,aj⟩:=Tk hx;cases n with
   |zero=>simp[n6]at aj
   |succ n =>simp only[n6,h]at aj;rw[ub n aj]at hy;cases hy
def d_{f:σ->Option (aE σ ρ)}{x y:σ}{k:Nat}(h:f x=some (.ex k y)):bN f x=some (.ex k y):=ub 1 (by simp[n6,h])
def pO{f:σ->Option (aE σ ρ)}{x:σ}{r:ρ}(h:f x=some (.rt r)):bN f x=some (.rt r):=ub 1 (by simp[n6,h])
def md{f:σ->Option (aE σ ρ)}(cJ:Nat->σ)(n:Nat)(h:∀i,i<n->f (cJ i)=some (.nx (cJ (i+1)))):∀i,i<=n->bN f (cJ i)=bN f (cJ n):=by
 intro i hi;obtain⟨d,rfl⟩:∃d,n=i+d:=⟨n-i,J⟩;clear hi;induction d generalizing i with
 |zero=>rfl
 |succ d ih =>rw[ez (h i J)];have:=ih (i+1) (λj an=>h j J);rw[this];congr 2;omega
def hM{n:Int}(O : -9223372036854775808<=n)(R:n<=9223372036854775807):i64 n=n:=by
 show(if(true&&decide (n%18446744073709551616 ≥ 9223372036854775808))=true then n%18446744073709551616-18446744073709551616 else n%18446744073709551616)=n
 grind
theorem D7(a b:α):T true a b=a:=rfl
theorem A2(a b:α):T false a b=b:=rfl
theorem wW(a:Option α):am true a=a:=rfl
theorem hj(a:α)(k:α->Option β):ob (some a) k=k a:=rfl
end Yp
namespace Yp
open Go
def dL{o:Option α}{a:α}{k:α->Option β}(h:o=some a):ob o k=k a:=by rw[h];rfl
def ce{a b:α}(h:c=true):T c a b=a:=by rw[h];rfl
def b1{a b:α}(h:c=false):T c a b=b:=by rw[h];rfl
def dR{a:Option α}(h:c=true):am c a=a:=by rw[h];rfl
def da{o di:Option (aE σ ρ)}{kn:σ->Option β}{g5:Nat->σ->Option β}{hb:ρ->Option β}(h:o=di):ci o kn g5 hb=ci di kn g5 hb:=by rw[h]
def sG{f:σ->Option (aE σ ρ)}(cJ:Nat->σ)(n:Nat)(p:Nat->Prop)(r:ρ)(k:Nat)(ac:∀i,i<n->(∀j,j<=i->p j)->f (cJ i)=some (.nx (cJ (i+1))))(Y:∀i,i<n->(∀j,j<i->p j)->¬p i->f (cJ i)=some (.rt r))
  (aA:(∀i,i<n->p i)->f (cJ n)=some (.ex k (cJ n))):((∀i,i<n->p i)/\bN f (cJ 0)=some (.ex k (cJ n)))\/((∃i,i<n/\¬p i)/\bN f (cJ 0)=some (.rt r)):=by
 by_cases h:∀i,i<n->p i
 .refine .inl ⟨h,?_⟩
  rw[md cJ n (λi hi=>ac i hi λj an=>h j J) 0 (fI _)];exact d_ (aA h)
 refine .inr ?_;have tS:∃i,i<n/\¬p i:=by refine k2 λai=>h λi hi=>k2 λhp=>ai ⟨i,hi,hp⟩
 refine⟨tS,?_⟩;obtain⟨k,ap,hp⟩:=tS;induction k using Nat.strongRecOn with
 |_ k ih=>
  by_cases hl:∃j,j<k/\¬p j
  .obtain⟨j,an,Su⟩:=hl
   exact ih j an J Su
  have hall:∀i,i<k->p i:=λi hi=>k2 λhp=>hl ⟨i,hi,hp⟩;rw[md cJ k (λi hi=>ac i J λj an=>hall j J) 0 (fI _)];exact pO (Y k ap hall hp)
def Tl{a b:Nat}:aJ (a:Int) (b:Int)=decide (a<b):=by unfold aJ;rw[decide_eq_decide];omega
def asF{a b:Nat}:bE (a:Int) (b:Int)=decide (a<=b):=by unfold bE;rw[decide_eq_decide];omega
def dj(h:a<b):aJ a b=true:=decide_eq_true h
def c6(h:¬a<b):aJ a b=false:=decide_eq_false h
def hN(h:a<=b):bE a b=true:=decide_eq_true h
def oT(h:¬a<=b):bE a b=false:=decide_eq_false h
def cK(h:a=b):ag a b=true:=by unfold ag;exact beq_iff_eq.2 h
def ct(h:¬a=b):ag a b=false:=by unfold ag;exact beq_eq_false_iff_ne.2 h
def A3{a b:V}(h:a=b):seq a b=true:=by unfold seq;exact beq_iff_eq.2 h
def o5{a b:V}(h:¬a=b):seq a b=false:=by unfold seq;exact beq_eq_false_iff_ne.2 h
def Ao{a b:Nat}(h:a<b):i7 a b=true:=by unfold i7;rw[EO];exact h
def Mo{a b:Nat}(h:¬a<b):i7 a b=false:=by
 unfold i7;cases Y:Nat.blt a b with
 |false=>rfl
 |true=>rw[EO]at Y;exact absurd Y h
def kS{a:Nat}(h:a<n):aU (a:Int) (n:Int)=true:=by simp only[aU,cM,decide_eq_true_eq];omega
def sA{n:Int}(ao:0<=a)(h:a<n):aU a n=true:=by simp only[aU,cM,decide_eq_true_eq];omega
def rl{n:Int}(ao:0<=a)(h:a<=b)(bL:b<=n):ca a b n=true:=by simp only[ca,cM,decide_eq_true_eq];omega
def n?{c:Nat}(h:n*c<=140737488355328):cB c n=true:=decide_eq_true h
def rj(h:n<=9223372036854775807):i64 (n:Int)=(n:Int):=hM J J
theorem asK(l:List α):len l=((l.length:Nat):Int):=rfl
def nth_get{l:List α}{d:α}(h:i<l.length):ak l i d=l[i]:=by simp[ak,nE,h]
def xK(x:UInt8):x.toNat<256:=x.toNat_lt
def ahs(q:Nat):u8 (q:Int)=UInt8.ofNat q:=by
 apply uN.1;unfold u8;have O:(UInt8.ofInt (q:Int)).toNat=q%256:=by simp[UInt8.ofInt,OD];omega
 rw[O];simp
def azX(b n:Nat):((b:Int)^n)=((b^n:Nat):Int):=(OL b n).symm
def QI{l:V}(h:i<l.length)(hl:l[i].toNat<128):gA l i=(l[i].toNat,1):=by
 have Y:((⟨l.toArray⟩:ByteArray).get! (i+0)).toNat=l[i].toNat:=by show(l.toArray[i+0]!).toNat=_;simp[h]
 unfold gA Utf8.decode;simp only[Y];rw[if_pos hl]
def amo{l:V}(h:i<l.length)(hl:¬l[i].toNat<128):128<=(gA l i).1/\(gA l i).1<=1114111:=by
 have Y:((⟨l.toArray⟩:ByteArray).get! (i+0)).toNat=l[i].toNat:=by show(l.toArray[i+0]!).toNat=_;simp[h]
 have aaI:=xK l[i];unfold gA Utf8.decode;simp only[Y,if_neg hl,Utf8.runeError];have b:∀k,((⟨l.toArray⟩:ByteArray).get! k).toNat<256:=λk=>xK _;generalize l[i].toNat=c at *
 repeat' split
 all_goals simp only
 all_goals (rename_i ai aF;simp only[cM,decide_eq_true_eq,beq_iff_eq,Utf8.valid,yN]at ai aF;omega)
def arP{a b:Nat}:av (a:Int) (b:Int)=((a+b:Nat):Int):=by simp[av]
def arS{a b:Nat}:e_ (a:Int) (b:Int)=((a*b:Nat):Int):=by simp[e_]
def arQ{a b:Nat}:fe (a:Int) (b:Int)=((a/b:Nat):Int):=by exact(Int.ofNat_tdiv _ _).symm
def vB{a b:Nat}:dh (a:Int) (b:Int)=((a%b:Nat):Int):=by exact(OO _ _).symm
def lh{a b:Nat}(h:a+b<=9223372036854775807):i64 (av (a:Int) (b:Int))=((a+b:Nat):Int):=by rw[arP,rj h]
def SR{a b:Nat}(h:a*b<=9223372036854775807):i64 (e_ (a:Int) (b:Int))=((a*b:Nat):Int):=by rw[arS,rj h]
def z1{a b:Nat}(bL:a<=9223372036854775807):i64 (fe (a:Int) (b:Int))=((a/b:Nat):Int):=by rw[arQ,rj (eZ (Nat.div_le_self _ _) bL)]
def he{a:Nat}:aa (a:Int)=a:=by simp[aa]
def atn{a:Nat}(h:a<256):aI (u8 (a:Int))=(a:Int):=by rw[ahs];simp only[aI,uQ];omega
end Yp
namespace Yp
open Go
def aZ(B:Nat)(g:Nat->UInt8)(v:Nat):Nat->V
 |0=>[]
 |n+1=>g (v/B^n%B)::aZ B g v n
def lm(B:Nat)(g:Nat->UInt8)(v:Nat):∀n,(aZ B g v n).length=n
 |0=>rfl
 |n+1=>by simp[aZ,lm B g v n]
def dI(d:Nat):UInt8:=UInt8.ofNat (48+d)
def m_(d:Nat):UInt8:=UInt8.ofNat d
def ahv{d z:UInt8}{En:V}:cj (bO (n+1) z++En) n d=bO n z++d::En:=by
 induction n with
 |zero=>simp[cj,bO]
 |succ n ih=>
  have e1:bO (n+1+1) z++En=z::(bO (n+1) z++En):=by simp[bO,J0]
  have aN:bO (n+1) z++d::En=z::(bO n z++d::En):=by simp[bO,J0]
  rw[e1,aN,<- ih];rfl
def R8:V:=[48,49,50,51,52,53,54,55,56,57,97,98,99,100,101,102]
def apR:∀d,d<10->ak R8 d (u8 0)=dI d:=bP
def FP(v w:Int)(aC:v<=9223372036854775807):mD (v,w,())=some (if 1<=w/\w<=18/\0<=v/\v<10^w.toNat then(aZ 10 dI v.toNat w.toNat,0,()) else([],1,())):=by
 unfold mD;by_cases O:w<1
 .rw[if_neg J];simp[T,ob,aJ,O,aO]
 by_cases R:18<w
 .rw[if_neg J];simp[T,ob,aJ,O,R,aO]
 by_cases af:v<0
 .rw[if_neg J];simp[T,ob,aJ,O,R,af,aO]
 obtain⟨n,rfl⟩:∃n:Nat,w=n:=⟨w.toNat,J⟩;obtain⟨b0,rfl⟩:∃n:Nat,v=n:=⟨v.toNat,J⟩;simp only[aJ,O,R];have c0:cZ (ca 0 (n:Int) n) (cB 1 (aa n))=true:=by simp[cZ,ca,cB,aa];omega
 rw[c0,wW];have d4:i64 (bi (n:Int) 1)=(n:Int)-1:=hM (by simp only[bi];omega) (by simp only[bi];omega);rw[d4];generalize hf:(λ(x:Int×Int×V×Unit)=>_)=f;have step:∀i,i<n->f (((b0/10^i:Nat):Int),(n:Int)-1-i,bO (n-i) (u8 0)++aZ 10 dI b0 i,())=some (.nx (((b0/10^(i+1):Nat):Int),(n:Int)-1-(i+1:Nat),bO (n-(i+1)) (u8 0)++aZ 10 dI b0 (i+1),())):=by
  intro i hi;subst hf;have hm:dh ((b0/10^i:Nat):Int) 10=((b0/10^i%10:Nat):Int):=by exact(OO _ _).symm
  have bm:b0/10^i%10<10:=td _ J;have bY:b0/10^i<=b0:=Nat.div_le_self _ _;have aF:i64 (fe ((b0/10^i:Nat):Int) 10)=((b0/10^(i+1):Nat):Int):=by
   have:fe ((b0/10^i:Nat):Int) 10=((b0/10^i/10:Nat):Int):=by exact(Int.ofNat_tdiv _ _).symm
   rw[this,rj J,Nat.div_div_eq_div_mul,qW]
  have ap7:i64 (bi ((n:Int)-1-i) 1)=(n:Int)-1-(i+1:Nat):=by rw[hM (by simp only[bi];omega) (by simp only[bi];omega)];simp only[bi];omega
  have Sj:bE 0 ((n:Int)-1-i)=true:=by simp only[bE,decide_eq_true_eq];omega
  have hb1:aU ((b0/10^i%10:Nat):Int) (len [48,49,50,51,52,53,54,55,56,57,97,98,99,100,101,102])=true:=kS (n:=16) J;have hb2:aU ((n:Int)-1-i) (len (bO (n-i) (u8 0)++aZ 10 dI b0 i))=true:=by simp only[aU,len,cG,bO,oy,cM,decide_eq_true_eq];omega
  have aj:aa ((n:Int)-1-i)=n-(i+1):=by simp only[aa];omega
  have vu:aa ((b0/10^i%10:Nat):Int)=b0/10^i%10:=by simp only[aa];omega
  have ac:bO (n-i) (u8 0)=bO (n-(i+1)+1) (u8 0):=by congr 1;omega
  show T (bE 0 ((n:Int)-1-i)) _ _=_;rw[Sj,D7];simp only[hm];rw[hb1,wW,hb2,wW,aF,ap7,aj,vu,ac,ahv];have:=apR _ bm;simp only[R8]at this;rw[this];rfl
 have jS:=md (f:=f) (λi=>(((b0/10^i:Nat):Int),(n:Int)-1-i,bO (n-i) (u8 0)++aZ 10 dI b0 i,())) n step 0 J;have f6:f (((b0/10^n:Nat):Int),(n:Int)-1-n,bO (n-n) (u8 0)++aZ 10 dI b0 n,())=some (.ex 0 (((b0/10^n:Nat):Int),(n:Int)-1-n,bO (n-n) (u8 0)++aZ 10 dI b0 n,())):=by
  subst hf;have Sj:bE 0 ((n:Int)-1-n)=false:=by simp only[bE,decide_eq_false_iff_not];omega
  show T (bE 0 ((n:Int)-1-n)) _ _=_;rw[Sj,A2]
 have e1:(((b0/10^0:Nat):Int),(n:Int)-1-(0:Nat),bO (n-0) (u8 0)++aZ 10 dI b0 0,())=(((b0:Nat):Int),(n:Int)-1,bO (aa n) (u8 0),()):=by simp[aZ,aa]
 rw[e1,d_ f6]at jS;rw[jS];have aN:bO (n-n) (u8 0)++aZ 10 dI b0 n=aZ 10 dI b0 n:=by simp[bO]
 simp only[ci,aN];by_cases bm:b0<10^n
 .have:=Fb bm
  rw[this,if_pos ⟨J,J,J,by exact_mod_cast bm⟩];rfl
 have:0<b0/10^n:=Nat.div_pos J (wL J);rw[if_neg (λh=>bm (by exact_mod_cast h.2.2.2))];have hp:decide ((0:Int)<((b0/10^n:Nat):Int))=true:=by simp only[decide_eq_true_eq];omega
 rw[hp];rfl
end Yp
namespace Yp
open Go
theorem ayd(q:Nat):u8 (q:Int)=m_ (q%256):=rfl
def agk{b0 k:Nat}(ap:k<=64):fp .i64 (b0:Int) (k:Int)=((b0/2^k:Nat):Int):=by
 unfold fp;have:Nat.min (Int.toNat (k:Int)) IntKind.i64.bits=k:=by exact Fe ap
 grind
def QO(v w:Int)(aC:v<=9223372036854775807):pw (v,w,())=some (if 1<=w/\w<=8/\0<=v/\v<256^w.toNat then(aZ 256 m_ v.toNat w.toNat,0,()) else([],1,())):=by
 unfold pw;by_cases O:w<1
 .rw[if_neg J];simp[T,ob,aJ,O,aO]
 by_cases R:8<w
 .rw[if_neg J];simp[T,ob,aJ,O,R,aO]
 by_cases af:v<0
 .rw[if_neg J];simp[T,ob,aJ,O,R,af,aO]
 obtain⟨n,rfl⟩:∃n:Nat,w=n:=⟨w.toNat,J⟩;obtain⟨b0,rfl⟩:∃n:Nat,v=n:=⟨v.toNat,J⟩;have abL:∀i,(256:Nat)^i=2^(8*i):=λi=>by rw[Nat.pow_mul]
 have le:∀i:Nat,i<=8->i64 (e_ 8 (i:Int))=((8*i:Nat):Int):=λi hi=>by
  have:e_ 8 (i:Int)=((8*i:Nat):Int):=by simp[e_]
  rw[this,rj J]
 have apv:(T (aJ (n:Int) 8) (am (bE 0 (i64 (e_ 8 (n:Int)))) (some (aJ 0 (fp IntKind.i64 (b0:Int) (i64 (e_ 8 (n:Int)))),()))) (some (false,())):Option (Bool×Unit))=some (decide (¬b0<256^n),()):=by
  by_cases cz:n<8
  .have c1:aJ (n:Int) 8=true:=by simp only[aJ,decide_eq_true_eq];omega
   have c2:bE 0 ((8*n:Nat):Int)=true:=by simp only[bE,decide_eq_true_eq];omega
   rw[c1,D7,le n J,c2,wW,agk J];have:aJ 0 ((b0/2^(8*n):Nat):Int)=decide (¬b0<256^n):=by
    unfold aJ;rw[decide_eq_decide,abL];constructor
    .intro h ai
     rw[Fb ai]at h;simp at h
    intro h;have:=Nat.div_pos (Nat.le_of_not_lt h) (wL J);omega
   rw[this]
  have c1:aJ (n:Int) 8=false:=by simp only[aJ,decide_eq_false_iff_not];omega
  have:n=8:=J;rw[c1,A2,this];have:b0<256^8:=by have:(256:Nat)^8=18446744073709551616:=bP;omega
  simp[this]
 rw[apv];simp only[aJ,O,R,af,decide_false,decide_true,A2,D7,hj,i0];have hp:((256:Int)^n)=((256^n:Nat):Int):=(OL 256 n).symm;by_cases bm:b0<256^n
 rotate_left
 .rw[if_neg (λh=>bm (by have:=h.2.2.2;rw[hp]at this;exact Int.ofNat_lt.1 this))]
  have aF:decide (¬b0<256^n)=true:=decide_eq_true bm;rw[aF,D7];rfl
 rw[if_pos ⟨J,J,J,by rw[hp];exact Int.ofNat_lt.2 bm⟩];have aF:decide (¬b0<256^n)=false:=decide_eq_false (λh=>h bm);rw[aF,A2];have c0:cZ (ca 0 (n:Int) n) (cB 1 (aa n))=true:=by simp[cZ,ca,cB,aa];omega
 rw[c0,wW];have d4:i64 (bi (n:Int) 1)=(n:Int)-1:=hM (by simp only[bi];omega) (by simp only[bi];omega);rw[d4];generalize hf:(λ(x:Int×V×Unit)=>_)=f;have step:∀i,i<n->f ((i:Int),bO (n-i) (u8 0)++aZ 256 m_ b0 i,())=some (.nx (((i+1:Nat):Int),bO (n-(i+1)) (u8 0)++aZ 256 m_ b0 (i+1),())):=by
  intro i hi;subst hf;have c1:(decide ((i:Int)<len (bO (aa (n:Int)) (u8 0))))=true:=by simp only[len,bO,aa,oy,decide_eq_true_eq];omega
  have c2:bE 0 ((8*i:Nat):Int)=true:=by simp only[bE,decide_eq_true_eq];omega
  have hw:i64 (bi ((n:Int)-1) i)=((n-(i+1):Nat):Int):=by
   have:bi ((n:Int)-1) i=((n-(i+1):Nat):Int):=by simp only[bi];omega
   rw[this,rj J]
  have c4:aU ((n-(i+1):Nat):Int) (len (bO (n-i) (u8 0)++aZ 256 m_ b0 i))=true:=by refine kS ?_;simp only[cG,lm,bO,oy];omega
  have c5:i64 (av (i:Int) 1)=((i+1:Nat):Int):=by
   have:av (i:Int) 1=((i+1:Nat):Int):=by simp[av]
   rw[this,rj J]
  have ac:bO (n-i) (u8 0)=bO (n-(i+1)+1) (u8 0):=by congr 1;omega
  show T (decide ((i:Int)<len (bO (aa (n:Int)) (u8 0)))) _ _=_;rw[c1,D7];simp only[le i J,hw];rw[c2,wW,c4,wW,c5,agk J,ayd,ac];have:aa ((n-(i+1):Nat):Int)=n-(i+1):=by simp[aa]
  rw[this,ahv,<- abL];rfl
 have jS:=md (f:=f) (λi=>((i:Int),bO (n-i) (u8 0)++aZ 256 m_ b0 i,())) n step 0 J;have f6:f ((n:Int),bO (n-n) (u8 0)++aZ 256 m_ b0 n,())=some (.ex 0 ((n:Int),bO (n-n) (u8 0)++aZ 256 m_ b0 n,())):=by
  subst hf;have c1:(decide ((n:Int)<len (bO (aa (n:Int)) (u8 0))))=false:=by simp only[len,bO,aa,oy,decide_eq_false_iff_not];omega
  show T (decide ((n:Int)<len (bO (aa (n:Int)) (u8 0)))) _ _=_;rw[c1,A2]
 have e1:(((0:Nat):Int),bO (n-0) (u8 0)++aZ 256 m_ b0 0,())=((0:Int),bO (aa n) (u8 0),()):=by simp[aZ,aa]
 rw[e1,d_ f6]at jS;rw[jS];have aN:bO (n-n) (u8 0)++aZ 256 m_ b0 n=aZ 256 m_ b0 n:=by simp[bO]
 simp only[ci,aN];rfl
end Yp
namespace Yp
open Go
def h2(c:UInt8):Prop:=48<=c.toNat/\c.toNat<=57
instance (c:UInt8):Decidable (h2 c):=inferInstanceAs (Decidable (_/\_))
def fY(s:V):Prop:=∀(i:Nat) (h:i<s.length),h2 s[i]
def val(s:V):Nat:=s.foldl (λn c=>10*n+(c.toNat-48)) 0
def VX{s:V}(h:i<s.length):val (s.take (i+1))=10*val (s.take i)+(s[i].toNat-48):=by unfold val;rw[nH h,OE];rfl
def VW{s:V}:∀i,i<=s.length->(∀j,j<i->∀h:j<s.length,h2 s[j])->val (s.take i)<10^i
 |0,_,_=>by simp[val]
 |i+1,h,hf=>by have:=VW i J (λj an=>hf j J);have hi:=hf i J J;rw[VX J];unfold h2 at hi;omega
def aet(h:i<=18):10^i<=1000000000000000000:=by have:=BI (n:=10) J h;exact this
def ams{c:Nat}(O:48<=c)(R:c<=57):r_ (bf c,())=some (((c-48:Nat):Int),true,()):=by have:c=48\/c=49\/c=50\/c=51\/c=52\/c=53\/c=54\/c=55\/c=56\/c=57:=J;rcases this with rfl|rfl|rfl|rfl|rfl|rfl|rfl|rfl|rfl|rfl<;>decide
def Y'{c:Nat}(h:¬(48<=c/\c<=57)):∃q:Int,r_ (bf c,())=some (q,false,()):=by
 refine⟨i64 (G' (bi (bf c) 48)),?_⟩;unfold r_;by_cases O:48<=c
 .refine(dL (ce (hN (by simp only[bf];omega)))).trans ?_
  show some (_,bE (bf c) 57,())=_;rw[oT (by simp only[bf];omega)]
 refine(dL (b1 (oT (by simp only[bf];omega)))).trans ?_;rfl
def Q_{s:V}(h:i<s.length)(hf:h2 s[i]):r_ (bf (gA s i).1,())=some (((s[i].toNat-48:Nat):Int),true,())/\(gA s i).2=1:=by
 have hl:s[i].toNat<128:=by unfold h2 at hf;omega
 rw[QI h hl];exact⟨ams hf.1 hf.2,rfl⟩
def Q9{s:V}(h:i<s.length)(hf:¬h2 s[i]):∃q:Int,r_ (bf (gA s i).1,())=some (q,false,()):=by
 by_cases hl:s[i].toNat<128
 .rw[QI h hl];exact Y' hf
 have:=amo h hl;exact Y' J
def xb{s:V}:fY s↔∀i,i<s.length->∀h:i<s.length,h2 s[i]:=⟨λh i hi _=>h i hi,λh i hi=>h i hi hi⟩
instance (s:V):Decidable (fY s):=inferInstanceAs (Decidable (∀(i:Nat) (h:i<s.length),h2 s[i]))
def FQ(s:V):r9 (s,())=some (if 1<=s.length/\s.length<=18/\fY s then((val s:Int),0,()) else(0,2,())):=by
 by_cases O:s.length<1
 .refine(dL (ce (dj (by simp only[len];omega)))).trans ?_
  rw[if_neg J];rfl
 by_cases R:18<s.length
 .refine(dL ((b1 (c6 (by simp only[len];omega))).trans (congrArg (λb=>some (b,())) (dj (by simp only[len];omega))))).trans ?_
  rw[if_neg J];rfl
 refine(dL ((b1 (c6 (by simp only[len];omega))).trans (congrArg (λb=>some (b,())) (c6 (by simp only[len];omega))))).trans ?_;generalize hf:(λx=>_)=f;have key:=sG (f:=f) (λi=>(0,0,(val (s.take i):Int),i,())) s.length (λi=>∀h:i<s.length,h2 s[i]) (0,2,()) 0 ?_ ?_ ?_
 .have d4:((0:Int),(0:Int),(val (s.take 0):Int),0,())=((0:Int),(0:Int),(0:Int),0,()):=by simp[val]
  rw[d4]at key;rcases key with⟨hall,ah⟩|⟨⟨i,hi,aj⟩,ah⟩
  .rw[ah,if_pos ⟨J,J,xb.2 hall⟩]
   show some ((val (s.take s.length):Int),(0:Int),())=_;rw[nF]
  rw[ah,if_neg (λai=>aj (xb.1 ai.2.2 i hi))];rfl
 .intro i hi hp
  subst hf;obtain⟨e1,aN⟩:=Q_ hi (hp i (bU _) hi);refine(ce (Ao hi)).trans ?_;refine(dL e1).trans ?_;have aC:=VW (i+1) J (λj an=>hp j J);have hp:=aet (i:=i+1) J;rw[VX hi]at aC;have c1:i64 (e_ 10 (val (s.take i):Int))=((10*val (s.take i):Nat):Int):=SR (a:=10) J;simp only[aN,c1];rw[lh J,VX hi];rfl
 .intro i hi _ hp
  subst hf;have:¬h2 s[i]:=λh=>hp λ_=>h;obtain⟨q,e1⟩:=Q9 hi this;refine(ce (Ao hi)).trans ?_;refine(dL e1).trans ?_;rfl
 intro _;subst hf;exact b1 (Mo (Jx _))
end Yp
namespace Yp
open Go
def au1{b:Nat}(Y:1<=b)(h:b^w<=9223372036854775807):∀i,i<=w->b^i<=9223372036854775807:=λi hi=>eZ (BI Y hi) h
def avS(b w:Nat)(Y:1<=b)(bb:w<=1000)(h:b^w<=9223372036854775807):H9 ((b:Int),(w:Int),())=some (((b^w:Nat):Int),()):=by
 unfold H9;generalize hf:(λx=>_)=f;have key:=sG (f:=f) (λi=>(((b^i:Nat):Int),(i:Int),())) w (λ_=>True) (0,()) 0 ?_ ?_ ?_
 .have d4:(((b^0:Nat):Int),((0:Nat):Int),())=((1:Int),(0:Int),()):=bh
  rw[d4]at key;rcases key with⟨_,ah⟩|⟨⟨i,hi,aj⟩,ah⟩
  .rw[ah];rfl
  exact absurd trivial aj
 .intro i hi _
  subst hf;refine(ce (dj (show(i:Int)<(w:Int) by omega))).trans ?_;have:=au1 Y h (i+1) J;rw[qW]at this;rw[SR this];have c:i64 (av (i:Int) 1)=((i+1:Nat):Int):=lh (b:=1) J;rw[c,<- qW]
 .intro i _ _ h;exact absurd trivial h
 intro _;subst hf;exact b1 (c6 (show ¬(w:Int)<(w:Int) by omega))
def avP(s:V)(hl:s.length<=1000000):Us (s,())=some (decide (fY s),()):=by
 unfold Us;generalize hf:(λx=>_)=f;have cond:∀i (hi:i<s.length),(T (aJ (aI (ak s (aa (i:Int)) (u8 0))) (aI (u8 48))) (some (true,())) (am (aU (i:Int) (len s)) (some (aJ (aI (u8 57)) (aI (ak s (aa (i:Int)) (u8 0))),()))):Option (Bool×Unit))=some (decide (¬h2 s[i]),()):=by
  intro i hi;have fA:aU (i:Int) (len s)=true:=kS hi;rw[he,nth_get hi,fA,wW];have e1:aI (u8 48)=48:=bP;have aN:aI (u8 57)=57:=bP;rw[e1,aN];by_cases O:s[i].toNat<48
  .rw[dj (by simp only[aI];omega),D7,decide_eq_true (show ¬h2 s[i] from λh=>by unfold h2 at h;omega)]
  rw[c6 (by simp only[aI];omega),A2];by_cases R:57<s[i].toNat
  .rw[dj (by simp only[aI];omega),decide_eq_true (show ¬h2 s[i] from λh=>by unfold h2 at h;omega)]
  rw[c6 (by simp only[aI];omega),decide_eq_false (λh=>h (by unfold h2;omega))]
 have key:=sG (f:=f) (λi=>(false,(i:Int),())) s.length (λi=>∀h:i<s.length,h2 s[i]) (false,()) 0 ?_ ?_ ?_
 .rcases key with⟨hall,ah⟩|⟨⟨i,hi,aj⟩,ah⟩
  .rw[show(false,((0:Nat):Int),())=(false,(0:Int),()) from rfl]at ah
   rw[ah,decide_eq_true (xb.2 hall)];rfl
  rw[show(false,((0:Nat):Int),())=(false,(0:Int),()) from rfl]at ah;rw[ah,decide_eq_false (λai=>aj (xb.1 ai i hi))];rfl
 .intro i hi hp
  subst hf;refine(ce (dj (by simp only[len];omega))).trans ?_;refine(dR (kS hi)).trans ?_;refine(dL (cond i hi)).trans ?_;refine(b1 (decide_eq_false (λh=>h (hp i (bU _) hi)))).trans ?_;have c:i64 (av (i:Int) 1)=((i+1:Nat):Int):=lh (b:=1) J;simp only[c]
 .intro i hi _ hp
  subst hf;refine(ce (dj (by simp only[len];omega))).trans ?_;refine(dR (kS hi)).trans ?_;refine(dL (cond i hi)).trans ?_;exact ce (decide_eq_true (λh=>hp λ_=>h))
 intro _;subst hf;exact b1 (c6 (by simp only[len];omega))
end Yp
namespace Yp
open Go
def MN{B:Nat}{g:Nat->UInt8}{v:Nat}:∀{n j:Nat} (h:j<(aZ B g v n).length),(aZ B g v n)[j]=g (v/B^(n-1-j)%B)
 |n+1,0,h=>by simp[aZ]
 |n+1,j+1,h=>by simp only[aZ,List.getElem_cons_succ];rw[MN];have:n-1-j=n+1-1-(j+1):=J;rw[this]
def aeV(v w:Int)(aC:v<=9223372036854775807):MZ (v,w,())=some (if 1<=w/\w<=18/\0<=v/\v<10^w.toNat then(aZ 10 dI v.toNat w.toNat,0,()) else([],1,())):=by
 unfold MZ;by_cases O:w<1
 .rw[if_neg J];simp[T,ob,aJ,O,aO]
 by_cases R:18<w
 .rw[if_neg J];simp[T,ob,aJ,O,R,aO]
 by_cases af:v<0
 .rw[if_neg J];simp[T,ob,aJ,O,R,af,aO]
 obtain⟨n,rfl⟩:∃n:Nat,w=n:=⟨w.toNat,J⟩;obtain⟨b0,rfl⟩:∃n:Nat,v=n:=⟨v.toNat,J⟩;have abM:∀i:Nat,i<=18->H9 (10,(i:Int),())=some (((10^i:Nat):Int),()):=λi hi=>by have:=aet hi;exact avS 10 i J J J
 refine(dL (a:=(decide (10^n<=b0),())) ?_).trans ?_
 .refine(b1 (c6 O)).trans ?_
  refine(b1 (c6 R)).trans ?_;refine(dL (abM n J)).trans ?_;rw[asF]
 have hp:((10:Int)^n)=((10^n:Nat):Int):=(OL 10 n).symm;by_cases bY:10^n<=b0
 .refine(ce (decide_eq_true bY)).trans ?_
  rw[if_neg];· rfl
  intro h;have:=h.2.2.2;rw[i0,hp]at this;omega
 refine(b1 (decide_eq_false bY)).trans ?_;rw[if_pos ⟨J,J,J,by rw[i0,hp];omega⟩];simp;have d4:i64 (bi (n:Int) 1)=(n:Int)-1:=hM (by simp only[bi];omega) (by simp only[bi];omega);rw[d4];generalize hf:(λx=>_)=f;have key:=sG (f:=f) (λj=>((aZ 10 dI b0 n).take j,(n:Int)-1-j,())) n (λ_=>True) ([],0,()) 0 ?_ ?_ ?_
 .have d4:((aZ 10 dI b0 n).take 0,(n:Int)-1-(0:Nat),())=(aO UInt8,(n:Int)-1,()):=by simp[aO]
  rw[d4]at key;rcases key with⟨_,ah⟩|⟨⟨i,hi,aj⟩,ah⟩
  .rw[ah]
   show some ((aZ 10 dI b0 n).take n,(0:Int),())=_;rw[hS (by rw[lm];omega)]
  exact absurd trivial aj
 .intro i hi _
  subst hf;have e1:(n:Int)-1-i=((n-1-i:Nat):Int):=J;simp only[e1];refine(dL (abM (n-1-i) J)).trans ?_;have dB:0<10^(n-1-i):=wL J;have c1:a_ (ag ((10^(n-1-i):Nat):Int) 0)=true:=by rw[ct J];rfl
  refine(dR c1).trans ?_;have c2:u8 (i64 (av 48 (dh (i64 (fe (b0:Int) ((10^(n-1-i):Nat):Int))) 10)))=dI (b0/10^(n-1-i)%10):=by rw[z1 J,show(10:Int)=((10:Nat):Int) from rfl,vB];rw[show(48:Int)=((48:Nat):Int) from rfl,lh J,ahs];rfl
  have an:i<(aZ 10 dI b0 n).length:=by rw[lm];exact hi
  have hw:=MN an;have c4:i64 (bi ((n-1-i:Nat):Int) 1)=(n:Int)-1-((i+1:Nat):Int):=by rw[hM (by simp only[bi];omega) (by simp only[bi];omega)];simp only[bi];omega
  simp only[c2,c4];refine(dR (n? ?_)).trans ?_
  .simp only[bQ,aT,hE,ew,gu];omega
  rw[nH an,hw];rfl
 .intro i _ _ h;exact absurd trivial h
 intro _;subst hf;exact b1 (oT (show ¬(0:Int)<=(n:Int)-1-n by omega))
end Yp
namespace Yp
open Go
def ku(c:UInt8):Nat:=c.toNat-48
def er(s:V):V:=if s.length%2=1 then 48::s else s
def iw(p:V)(t:Nat):Nat:=ku (ak p t (u8 0))
def pp(p:V)(a j:Nat):UInt8:=if 2*j+1<a then UInt8.ofNat (16*iw p (2*j)+iw p (2*j+1)) else if 2*j<a then UInt8.ofNat (iw p (2*j)) else u8 0
def f9(p:V):V:=(List.range (p.length/2)).map λj=>UInt8.ofNat (16*iw p (2*j)+iw p (2*j+1))
def HZ(s:V):(er s).length=2*((s.length+1)/2):=by
 unfold er;split
 .simp;omega
 omega
def aen{s:V}(h:i<s.length):ak (er s) (s.length%2+i) (u8 0)=s[i]:=by
 unfold er ak;split
 .rename_i O;rw[O,Nat.add_comm];simp[h]
 rename_i O;have:s.length%2=0:=J;rw[this];simp[h]
def Co{c:UInt8}(h:h2 c):c=UInt8.ofNat (48+ku c)/\ku c<10:=by unfold h2 at h;refine⟨?_,by unfold ku;omega⟩;apply uN.1;simp only[uQ,ku];omega
def aw5:∀x:Nat,x<10->∀d:Nat,d<10->u8 (gM .u8 (aI (u8 (ho .u8 (aI (UInt8.ofNat x)) (cD (u64 4))))) (aI (u8 (d:Int))))=UInt8.ofNat (16*x+d):=iL
def auk:∀d:Nat,d<10->u8 (gM .u8 (aI (u8 (ho .u8 (aI (u8 0)) (cD (u64 4))))) (aI (u8 (d:Int))))=UInt8.ofNat d:=iL
def auA{s:V}{a:Nat}(hf:∀j,j<a-s.length%2->∀h:j<s.length,h2 s[j])(bu:a<=(er s).length):∀t,t<a->iw (er s) t<10:=by
 intro t ht;have hl:=HZ s;unfold iw;by_cases h:t<s.length%2
 .have O:s.length%2=1:=J
  have ao:t=0:=J;subst ao;unfold er;rw[if_pos O];show ku 48<10;decide
 have e:t=s.length%2+(t-s.length%2):=J;have hi:t-s.length%2<s.length:=J;rw[e,aen hi];exact(Co (hf _ J hi)).2
def QN(s:V)(hl:s.length<=1000000):tE (s,())=some (if fY s then(f9 (er s),0,()) else([],2,())):=by
 unfold tE;have bF:i64 (fe (i64 (av (len s) 1)) 2)=(((s.length+1)/2:Nat):Int):=by rw[asK,show i64 (av ((s.length:Nat):Int) 1)=((s.length+1:Nat):Int) from lh (b:=1) J];exact z1 (b:=2) J
 have b3:dh (len s) 2=((s.length%2:Nat):Int):=vB (b:=2);simp only[bF,b3,he];generalize ap:(s.length+1)/2=k;have iB:=HZ s;rw[ap]at iB;refine(dR ?_).trans ?_
 .simp only[cZ,cM]
  exact⟨rl J J J,n? J⟩
 generalize hf:(λ(x:Int×Int×Nat×V×Unit)=>_)=f;have key:=sG (f:=f) (λi=>(0,((s.length%2+i:Nat):Int),i,(List.range k).map (pp (er s) (s.length%2+i)),())) s.length (λi=>∀h:i<s.length,h2 s[i]) ([],2,()) 0 ?_ ?_ ?_
 .have d4:((0:Int),((s.length%2+0:Nat):Int),0,(List.range k).map (pp (er s) (s.length%2+0)),())=((0:Int),((s.length%2:Nat):Int),0,bO k (u8 0),()):=by
   have:(List.range k).map (pp (er s) (s.length%2+0))=bO k (u8 0):=by
    apply th
    .simp[bO]
    intro j O R;simp only[wA,yP,bO,List.getElem_replicate,pp];rw[if_neg J];split
    .rename_i af
     have aq:s.length%2=1:=J;have a8:j=0:=J;subst a8;unfold er;rw[if_pos aq];show UInt8.ofNat (ku 48)=u8 0;decide
    rfl
   rw[this];rfl
  rw[d4]at key;rcases key with⟨hall,ah⟩|⟨⟨i,hi,aj⟩,ah⟩
  .rw[ah,if_pos (xb.2 hall)]
   have:(List.range k).map (pp (er s) (s.length%2+s.length))=f9 (er s):=by unfold f9;rw[iB,show 2*k/2=k by omega];apply List.map_congr_left;intro j an;have:=ox.1 an;unfold pp;rw[if_pos J]
   rw[this];rfl
  rw[ah,if_neg (λai=>aj (xb.1 ai i hi))];rfl
 .intro i hi hp
  subst hf;obtain⟨e1,aN⟩:=Q_ hi (hp i (bU _) hi);refine(ce (Ao hi)).trans ?_;refine(dL e1).trans ?_;generalize bu:s.length%2+i=a;have Sk:=auA (s:=s) (a:=a+1) (λj an=>hp j J) J;have q':iw (er s) a=s[i].toNat-48:=by unfold iw;rw[<- bu,aen hi];rfl
  have c1:i64 (fe ((a:Nat):Int) 2)=((a/2:Nat):Int):=z1 (b:=2) J;have c2:i64 (av ((a:Nat):Int) 1)=((a+1:Nat):Int):=lh (b:=1) J;have a2:a/2<((List.range k).map (pp (er s) a)).length:=fs;simp only[bu,c1,c2,aN,he];refine(dR (kS a2)).trans ?_;refine(dR (kS a2)).trans ?_;have dJ:s.length%2+(i+1)=a+1:=J;have aC:u8 (gM .u8 (aI (u8 (ho .u8 (aI (ak ((List.range k).map (pp (er s) a)) (a/2) (u8 0))) (cD (u64 4))))) (aI (u8 ((s[i].toNat-48:Nat):Int))))=pp (er s) (a+1) (a/2):=by
   rw[nth_get a2,wA,yP,<- q'];unfold pp;rw[if_neg J];by_cases azz:a%2=0
   .rw[if_neg J,if_neg J,if_pos J,auk _ (Sk a J),show 2*(a/2)=a by omega]
   rw[if_pos J,if_pos J,aw5 _ (Sk _ J) _ (Sk a J),show 2*(a/2)+1=a by omega]
  simp only[aC,dJ];have nj:cj ((List.range k).map (pp (er s) a)) (a/2) (pp (er s) (a+1) (a/2))=(List.range k).map (pp (er s) (a+1)):=by
   unfold cj;apply th
   .simp
   intro j O R;rw[OI];simp only[wA,yP];split
   .rename_i af;rw[af]
   unfold pp;by_cases aq:2*j+1<a
   .rw[if_pos aq,if_pos J]
   rw[if_neg aq];by_cases a8:2*j<a
   .rw[if_pos a8,if_neg J,if_pos J]
   rw[if_neg a8,if_neg J,if_neg J]
  rw[nj];rfl
 .intro i hi _ hp
  subst hf;have:¬h2 s[i]:=λh=>hp λ_=>h;obtain⟨q,e1⟩:=Q9 hi this;refine(ce (Ao hi)).trans ?_;refine(dL e1).trans ?_;rfl
 intro _;subst hf;exact b1 (Mo (Jx _))
def avT:∀x,x<10->∀y,y<10->u8 (bi (aI (u8 (av (aI (u8 (e_ (aI (u8 16)) (aI (u8 (bi (aI (UInt8.ofNat (48+x))) (aI (u8 48)))))))) (aI (UInt8.ofNat (48+y)))))) (aI (u8 48)))=UInt8.ofNat (16*x+y):=iL
def avO(s:V)(hl:s.length<=1000000):Ur (s,())=some (if fY s then(f9 (er s),0,()) else([],2,())):=by
 unfold Ur;refine(dL (avP s hl)).trans ?_;by_cases af:fY s
 rotate_left
 .refine(ce (by simp only[decide_eq_false af,a_,Bool.not_false])).trans ?_
  rw[if_neg af];rfl
 refine(b1 (by simp only[decide_eq_true af,a_,Jw])).trans ?_;rw[if_pos af];refine(dL (a:=(er s,())) ?_).trans ?_
 .have b3:dh (len s) 2=((s.length%2:Nat):Int):=vB (b:=2)
  simp only[b3];unfold er;by_cases h:s.length%2=1
  .rw[if_pos h]
   refine(ce (cK J)).trans ?_;refine(dR (hN ?_)).trans rfl;simp only[av,len,ew,gu];omega
  rw[if_neg h];refine(b1 (ct J))
 have iB:=HZ s;have GH:∀t,(ht:t<(er s).length)->h2 (er s)[t]:=by
  intro t ht;by_cases h:s.length%2=1
  .have e:er s=48::s:=by unfold er;rw[if_pos h]
   simp only[e]at ht ⊢;cases t with
   |zero=>exact(by decide:h2 48)
   |succ t=>exact af t (by simpa using ht)
  have e:er s=s:=by unfold er;rw[if_neg h]
  simp only[e]at ht ⊢;exact af t ht
 generalize er s=p at *
 generalize ap:(s.length+1)/2=k at *
 generalize hf:(λ(x:V×Int×Unit)=>_)=f;have key:=sG (f:=f) (λj=>((f9 p).take j,((2*j:Nat):Int),())) k (λ_=>True) ([],0,()) 0 ?_ ?_ ?_
 .rcases key with⟨_,ah⟩|⟨⟨i,hi,aj⟩,ah⟩
  .have d4:((f9 p).take 0,((2*0:Nat):Int),())=(aO UInt8,(0:Int),()):=by simp[aO]
   rw[d4]at ah;rw[ah];show some ((f9 p).take k,(0:Int),())=_;rw[hS (by simp[f9];omega)]
  exact absurd trivial aj
 .intro i hi _
  subst hf;refine(ce (dj (show((2*i:Nat):Int)<len p by simp only[len];omega))).trans ?_;have ao:2*i<p.length:=J;have O:2*i+1<p.length:=J;have c1:i64 (av ((2*i:Nat):Int) 1)=((2*i+1:Nat):Int):=lh (b:=1) J;have c2:i64 (av ((2*i:Nat):Int) 2)=((2*(i+1):Nat):Int):=lh (b:=2) J;simp only[c1,c2,he];refine(dR (kS ao)).trans ?_;refine(dR (kS O)).trans ?_;refine(dR (n? ?_)).trans ?_
  .simp only[bQ,aT,hE,ew,gu,f9,ov,JS];omega
  have an:i<(f9 p).length:=by simp[f9];omega
  have hg:(f9 p)[i]=UInt8.ofNat (16*iw p (2*i)+iw p (2*i+1)):=by simp[f9]
  rw[nH an,hg,nth_get ao,nth_get O];obtain⟨cI,cR⟩:=Co (GH _ ao);obtain⟨eS,ei⟩:=Co (GH _ O);have aC:=avT _ cR _ ei;rw[<- cI,<- eS]at aC;have k?:iw p (2*i)=ku p[2*i]:=by unfold iw;rw[nth_get ao]
  have mB:iw p (2*i+1)=ku p[2*i+1]:=by unfold iw;rw[nth_get O]
  rw[aC,k?,mB];rfl
 .intro i _ _ h;exact absurd trivial h
 intro _;subst hf;exact b1 (c6 (show ¬((2*k:Nat):Int)<len p by simp only[len];omega))
end Yp
namespace Yp
open Go
def zp{v:Nat}:∀{n:Nat},fY (aZ 10 dI v n)
 |n=>by
  intro i hi;rw[MN];have kO:v/10^(n-1-i)%10<10:=td _ J;generalize v/10^(n-1-i)%10=d at *
  unfold h2 dI;simp only[uQ];omega
def auz{s:V}(h:s.length%2=0):er s=s:=by unfold er;rw[if_neg J]
end Yp
namespace Yp
open Go
def me(d:Nat):UInt8:=ak R8 d (u8 0)
def eV(b:V):V:=b.flatMap λx=>[me (x.toNat/16),me (x.toNat%16)]
def nh(b:V):(eV b).length=2*b.length:=by
 induction b with
 |nil=>rfl
 |cons x r ih =>have:eV (x::r)=[me (x.toNat/16),me (x.toNat%16)]++eV r:=rfl;rw[this,cG,ih];simp;omega
def abn(a b:V):eV (a++b)=eV a++eV b:=by simp[eV]
def atL(c:UInt8):UInt8.ofNat c.toNat=c:=by apply uN.1;simp
def tv{p:UInt8->Prop}(h:∀n,n<256->p (UInt8.ofNat n))(c:UInt8):p c:=by
 have:=h c.toNat c.toNat_lt
 rwa [atL]at this
def abs:∀c:UInt8,aU (aI (u8 (fp IntKind.u8 (aI c) (cD (u64 4))))) (len [48,49,50,51,52,53,54,55,56,57,97,98,99,100,101,102])=true /\
  ak [48,49,50,51,52,53,54,55,56,57,97,98,99,100,101,102] (aa (aI (u8 (fp IntKind.u8 (aI c) (cD (u64 4)))))) (u8 0)=me (c.toNat/16):=tv iL
def acP:∀c:UInt8,aU (aI (u8 (iI IntKind.u8 (aI c) (aI (u8 15))))) (len [48,49,50,51,52,53,54,55,56,57,97,98,99,100,101,102])=true /\
  ak [48,49,50,51,52,53,54,55,56,57,97,98,99,100,101,102] (aa (aI (u8 (iI IntKind.u8 (aI c) (aI (u8 15)))))) (u8 0)=me (c.toNat%16):=tv iL
def Y9(b:V)(hl:b.length<=1000000):Cm (b,())=some (eV b,()):=by
 unfold Cm;have bF:i64 (e_ 2 (len b))=((2*b.length:Nat):Int):=SR (a:=2) J;simp only[bF,he];refine(dR ?_).trans ?_
 .simp only[cZ,cM]
  exact⟨rl J J J,n? J⟩
 generalize hf:(λ(x:V×Int×Unit)=>_)=f;have key:=sG (f:=f) (λi=>(eV (b.take i),(i:Int),())) b.length (λ_=>True) ([],()) 0 ?_ ?_ ?_
 .have d4:(eV (b.take 0),((0:Nat):Int),())=(bO (aa 0) (u8 0),(0:Int),()):=by simp[eV,bO,aa]
  rw[d4]at key;rcases key with⟨_,ah⟩|⟨⟨i,hi,aj⟩,ah⟩
  .rw[ah,nF];rfl
  exact absurd trivial aj
 .intro i hi _
  subst hf;refine(ce (dj (show(i:Int)<len b by simp only[len];omega))).trans ?_;refine(dR (kS hi)).trans ?_;have c:i64 (av (i:Int) 1)=((i+1:Nat):Int):=lh (b:=1) J;simp only[he,nth_get hi,c];refine(dR (abs _).1).trans ?_;refine(dR (acP _).1).trans ?_;simp only[(abs _).2,(acP _).2];refine(dR (n? ?_)).trans ?_
  .simp only[bQ,aT,nh,hE,ew,gu];omega
  rw[nH hi,abn];rfl
 .intro i _ _ h;exact absurd trivial h
 intro _;subst hf;exact b1 (c6 (show ¬((b.length:Nat):Int)<len b by simp only[len];omega))
def awH:∀c:UInt8,H_ (u8 (fe (aI c) (aI (u8 16))),())=some (me (c.toNat/16),()):=tv iL
def awI:∀c:UInt8,H_ (u8 (dh (aI c) (aI (u8 16))),())=some (me (c.toNat%16),()):=tv iL
def avQ(b:V)(hl:b.length<=1000000):DU (b,())=some (eV b,()):=by
 unfold DU;generalize hf:(λ(x:V×Int×Unit)=>_)=f;have key:=sG (f:=f) (λi=>(eV (b.take i),(i:Int),())) b.length (λ_=>True) ([],()) 0 ?_ ?_ ?_
 .have d4:(eV (b.take 0),((0:Nat):Int),())=(aO UInt8,(0:Int),()):=by simp[eV,aO]
  rw[d4]at key;rcases key with⟨_,ah⟩|⟨⟨i,hi,aj⟩,ah⟩
  .rw[ah,nF];rfl
  exact absurd trivial aj
 .intro i hi _
  subst hf;refine(ce (dj (show(i:Int)<len b by simp only[len];omega))).trans ?_;refine(dR (kS hi)).trans ?_;have c:i64 (av (i:Int) 1)=((i+1:Nat):Int):=lh (b:=1) J;simp only[he,nth_get hi,c];refine(dL (awH _)).trans ?_;refine(dR (kS hi)).trans ?_;refine(dL (awI _)).trans ?_;refine(dR (n? ?_)).trans ?_
  .simp only[bQ,aT,nh,hE,ew,gu];omega
  rw[nH hi,abn];rfl
 .intro i _ _ h;exact absurd trivial h
 intro _;subst hf;exact b1 (c6 (show ¬((b.length:Nat):Int)<len b by simp only[len];omega))
def rm(c:UInt8):Prop:=(48<=c.toNat/\c.toNat<=57)\/(97<=c.toNat/\c.toNat<=102)
instance (c:UInt8):Decidable (rm c):=inferInstanceAs (Decidable (_\/_))
def lg(c:UInt8):Nat:=if c.toNat<=57 then c.toNat-48 else c.toNat-87
def oj(s:V):V:=(List.range (s.length/2)).map λj=>UInt8.ofNat (16*lg (ak s (2*j) (u8 0))+lg (ak s (2*j+1) (u8 0)))
def zI(s:V):Prop:=∀(i:Nat) (h:i<s.length),rm s[i]
instance (s:V):Decidable (zI s):=inferInstanceAs (Decidable (∀(i:Nat) (h:i<s.length),rm s[i]))
def Y?: ∀c:UInt8,KF (c,())=some (if rm c then(UInt8.ofNat (lg c),true,()) else(u8 0,false,())):=tv iL
def ab4:∀c:UInt8,rm c->lg c<16:=tv iL
def att:∀x:Nat,x<16->∀y:Nat,y<16->u8 (gM IntKind.u8 (aI (u8 (ho IntKind.u8 (aI (UInt8.ofNat x)) (cD (u64 4))))) (aI (UInt8.ofNat y)))=UInt8.ofNat (16*x+y):=iL
def R_{s:V}{k:Nat}(R:s.length=2*k):(∀i,i<k->rm (ak s (2*i) (u8 0))/\rm (ak s (2*i+1) (u8 0)))↔zI s:=by
 constructor
 .intro h i hi
  have:=h (i/2) J;by_cases hp:i%2=0
  .have:=this.1
   rw[show 2*(i/2)=i by omega,nth_get hi]at this;exact this
  have:=this.2;rw[show 2*(i/2)+1=i by omega,nth_get hi]at this;exact this
 intro h i hi;rw[nth_get J,nth_get J];exact⟨h _ _,h _ _⟩
def QQ(s:V)(hl:s.length<=1000000):Cn (s,())=some (if s.length%2=0/\zI s then(oj s,0,()) else([],2,())):=by
 unfold Cn;have b3:dh (len s) 2=((s.length%2:Nat):Int):=vB (b:=2);have bF:i64 (fe (len s) 2)=((s.length/2:Nat):Int):=z1 (b:=2) J;simp only[bF,b3,he];by_cases h:s.length%2=0
 rotate_left
 .refine(ce (cK J)).trans ?_
  rw[if_neg (λai=>h ai.1)];rfl
 refine(b1 (ct J)).trans ?_;refine(dR ?_).trans ?_
 .simp only[cZ,cM]
  exact⟨rl J J J,n? J⟩
 generalize ap:s.length/2=k;have R:s.length=2*k:=J;generalize hf:(λ(x:Int×V×Int×Unit)=>_)=f;have key:=sG (f:=f) (λi=>(0,(oj s).take i,((2*i:Nat):Int),())) k (λi=>rm (ak s (2*i) (u8 0))/\rm (ak s (2*i+1) (u8 0))) ([],2,()) 0 ?_ ?_ ?_
 .have d4:((0:Int),(oj s).take 0,((2*0:Nat):Int),())=((0:Int),bO (aa 0) (u8 0),(0:Int),()):=by simp[bO,aa]
  rw[d4]at key;rcases key with⟨hall,ah⟩|⟨⟨i,hi,aj⟩,ah⟩
  .rw[ah,if_pos ⟨h,(R_ R).1 hall⟩,hS (by simp[oj];omega)];rfl
  rw[ah,if_neg (λai=>aj ((R_ R).2 ai.2 i hi))];rfl
 .intro i hi hp
  subst hf;obtain⟨ael,dF⟩:=hp i (bU _);have ao:2*i<s.length:=J;have O:2*i+1<s.length:=J;have c1:i64 (av ((2*i:Nat):Int) 1)=((2*i+1:Nat):Int):=lh (b:=1) J;have c2:i64 (av ((2*i:Nat):Int) 2)=((2*(i+1):Nat):Int):=lh (b:=2) J;refine(ce (dj (show((2*i:Nat):Int)<len s by simp only[len];omega))).trans ?_;refine(dR (kS ao)).trans ?_;simp only[c1,c2,he,Y?,if_pos ael,if_pos dF];refine(dL rfl).trans ?_;refine(dR (kS O)).trans ?_;refine(dL rfl).trans ?_;refine(dL (a:=(false,())) rfl).trans ?_;refine(b1 rfl).trans ?_;refine(dR (n? ?_)).trans ?_
  .simp only[bQ,aT,hE,ew,gu]
   have:(oj s).length=s.length/2:=by simp[oj]
   omega
  have an:i<(oj s).length:=by simp[oj];omega
  have hg:(oj s)[i]=UInt8.ofNat (16*lg (ak s (2*i) (u8 0))+lg (ak s (2*i+1) (u8 0))):=by simp[oj]
  rw[nH an,hg];simp only[att _ (ab4 _ ael) _ (ab4 _ dF)];rfl
 .intro i hi _ hp
  subst hf;have ao:2*i<s.length:=J;have O:2*i+1<s.length:=J;have c1:i64 (av ((2*i:Nat):Int) 1)=((2*i+1:Nat):Int):=lh (b:=1) J;refine(ce (dj (show((2*i:Nat):Int)<len s by simp only[len];omega))).trans ?_;refine(dR (kS ao)).trans ?_;simp only[c1,he,Y?];refine(dL rfl).trans ?_;refine(dR (kS O)).trans ?_;refine(dL rfl).trans ?_;refine(dL (a:=(true,())) ?_).trans ?_
  .by_cases uq:rm (ak s (2*i) (u8 0))
   .rw[if_pos uq,if_neg (λbG=>hp ⟨uq,bG⟩)];rfl
   rw[if_neg uq];rfl
  exact ce rfl
 intro _;subst hf;exact b1 (c6 (show ¬((2*k:Nat):Int)<len s by simp only[len];omega))
end Yp
namespace Yp
open Go
def my(l:V):Nat:=l.foldl (λn c=>256*n+c.toNat) 0
def Fo{s:V}(h:i<s.length):my (s.take (i+1))=256*my (s.take i)+s[i].toNat:=by unfold my;rw[nH h,OE];rfl
def Xc{s:V}:∀i,i<=s.length->my (s.take i)<256^i
 |0,_=>by simp[my]
 |i+1,h=>by have:=Xc (s:=s) i J;have hi:=xK s[i];rw[Fo J,qW];omega
def Xd{s:V}(ao:0<s.length)(ac:s[0].toNat<=127):∀i,i<s.length->my (s.take (i+1))<128*256^i
 |0,_=>by rw[Fo ao];simp[my];omega
 |i+1,h=>by have:=Xd ao ac i J;have hi:=xK s[i+1];rw[Fo h,qW];omega
def aw4(x c:Nat)(ai:c<256)(h:256*x+c<=9223372036854775807):i64 (gM .i64 (i64 (ho .i64 (x:Int) (cD (u64 8)))) (c:Int))=((256*x+c:Nat):Int):=by
 have e1:ho .i64 (x:Int) (cD (u64 8))=((256*x:Nat):Int):=by have:ho .i64 (x:Int) (cD (u64 8))=(x:Int)*2^8:=rfl;rw[this];have:(2:Int)^8=256:=bP;rw[this];omega
 rw[e1,rj J];have aN:gM .i64 ((256*x:Nat):Int) (c:Int)=((256*x+c:Nat):Int):=by show(((BitVec.ofInt 64 ((256*x:Nat):Int)|||BitVec.ofInt 64 (c:Int)).toNat:Nat):Int)=_;rw[JZ,JZ,BitVec.toNat_or,BK,BK,lY J,lY J];have:=JH (i:=8) ai x;rw[show(2:Nat)^8=256 by decide]at this;rw[<- this]
 rw[aN,rj h]
def ec(b:V)(A W:Nat):V:=(b.drop A).take W
def yk{b:V}(h:A+W<=b.length):(ec b A W).length=W:=by simp[ec];omega
def aha{b:V}(h:i<(ec b A W).length)(bL:A+i<b.length):(ec b A W)[i]=b[A+i]:=by simp[ec]
def Vc{b:V}:sub b (A:Int) ((A+W:Nat):Int)=ec b A W:=by unfold sub ec;rw[i0,i0,show A+W-A=W by omega]
def jq(b:V)(c' w:Int):Int×Int×Int×Unit:=
 if w<1\/8<w\/c'<0\/(b.length:Int)<c' then(0,0,1,()) else if(b.length:Int)-c'<w then(0,0,3,())
 else if w=8/\127<(ak b c'.toNat (u8 0)).toNat then(0,0,2,()) else((my (ec b c'.toNat w.toNat):Int),c'+w,0,())
def Xb{b:V}(dn:A+W<=b.length)(hW:W<=8)(dN:¬((W:Int)=8/\127<(ak b A (u8 0)).toNat)):∀i,i<W->my ((ec b A W).take (i+1))<=9223372036854775807:=by
 intro i hi;have hl:=yk dn;by_cases ap8:i+1<=7
 .have O:=Xc (s:=ec b A W) (i+1) J
  have R:256^(i+1)<=256^7:=BI J ap8;have af:256^7=72057594037927936:=bP;omega
 have cz:W=8:=J;have ao:0<(ec b A W).length:=J;have aj:(ec b A W)[0]=ak b A (u8 0):=by rw[aha ao J,nth_get J];rfl
 have ac:(ec b A W)[0].toNat<=127:=by rw[aj];exact Nat.le_of_not_lt λh=>dN ⟨J,h⟩
 have:=Xd ao ac i J;have gG:i=7:=J;subst gG;have af:256^7=72057594037927936:=bP;omega
def Y_(b:V)(c' w:Int)(hl:b.length<=1000000):la (b,c',w,())=some (jq b c' w):=by
 unfold la jq;by_cases O:w<1
 .rw[if_pos (.inl O)];exact(dL (ce (dj O))).trans rfl
 by_cases R:8<w
 .rw[if_pos (.inr (.inl R))];exact(dL (a:=(true,())) ((b1 (c6 O)).trans (ce (dj R)))).trans rfl
 by_cases af:c'<0
 .rw[if_pos (.inr (.inr (.inl af)))];exact(dL (a:=(true,())) ((b1 (c6 O)).trans ((b1 (c6 R)).trans (ce (dj af))))).trans rfl
 by_cases aq:(b.length:Int)<c'
 .rw[if_pos (.inr (.inr (.inr aq)))];exact(dL (a:=(true,())) ((b1 (c6 O)).trans ((b1 (c6 R)).trans ((b1 (c6 af)).trans (congrArg (λb=>some (b,())) (dj aq)))))).trans rfl
 rw[if_neg J];refine(dL (a:=(false,())) ((b1 (c6 O)).trans ((b1 (c6 R)).trans ((b1 (c6 af)).trans (congrArg (λb=>some (b,())) (c6 aq)))))).trans ?_;refine(b1 rfl).trans ?_;obtain⟨A,rfl⟩:∃n:Nat,c'=n:=⟨c'.toNat,J⟩;obtain⟨W,rfl⟩:∃n:Nat,w=n:=⟨w.toNat,J⟩;have c0:i64 (bi (len b) (A:Int))=(b.length:Int)-A:=by simp only[bi,len];exact hM J J
 simp only[c0];by_cases a8:(b.length:Int)-A<W
 .rw[if_pos a8];exact ce (dj a8)
 rw[if_neg a8];refine(b1 (c6 a8)).trans ?_;have aaK:A+W<=b.length:=J;have dn:A<b.length:=J;have amf:(T (ag (W:Int) 8) (am (aU (A:Int) (len b)) (some (aJ (aI (u8 127)) (aI (ak b (aa (A:Int)) (u8 0))),()))) (some (false,())):Option (Bool×Unit))=some (decide ((W:Int)=8/\127<(ak b A (u8 0)).toNat),()):=by
  by_cases cz:(W:Int)=8
  .refine(ce (cK cz)).trans ?_
   refine(dR (kS dn)).trans ?_;rw[he,show aI (u8 127)=((127:Nat):Int) by decide,show aI (ak b A (u8 0))=(((ak b A (u8 0)).toNat:Nat):Int) from rfl,Tl];simp only[cz,true_and]
  refine(b1 (ct cz)).trans ?_;rw[decide_eq_false (λh=>cz h.1)]
 simp only[i0];refine(dL amf).trans ?_;by_cases dN:(W:Int)=8/\127<(ak b A (u8 0)).toNat
 .rw[if_pos dN];exact ce (decide_eq_true dN)
 rw[if_neg dN];refine(b1 (decide_eq_false dN)).trans ?_;have c1:i64 (av (A:Int) (W:Int))=((A+W:Nat):Int):=lh J;simp only[c1,Vc];refine(dR (rl J J (by simp only[len];omega))).trans ?_;have hl:=yk aaK;have apg:=Xb aaK J dN;generalize xq:ec b A W=t at *
 generalize hf:(λ(x:Int×Int×Unit)=>_)=f;have key:=sG (f:=f) (λi=>((my (t.take i):Int),(i:Int),())) W (λ_=>True) (0,0,0,()) 1 ?_ ?_ ?_
 .have d4:((my (t.take 0):Int),((0:Nat):Int),())=((0:Int),(0:Int),()):=by simp[my]
  rw[d4]at key;rcases key with⟨_,ah⟩|⟨⟨i,hi,aj⟩,ah⟩
  .rw[ah,hS J]
   show some ((my t:Int),((A+W:Nat):Int),0,())=_;simp
  exact absurd trivial aj
 .intro i hi _
  subst hf;have rd:i<t.length:=J;refine(ce (dj (show(i:Int)<len t by simp only[len];omega))).trans ?_;refine(dR (kS rd)).trans ?_;have c:i64 (av (i:Int) 1)=((i+1:Nat):Int):=lh (b:=1) J;have aaI:=xK t[i];have Y:=apg i hi;rw[Fo rd]at Y;have c2:i64 (aI t[i])=((t[i].toNat:Nat):Int):=rj J;simp only[he,nth_get rd,c,c2];rw[aw4 _ _ aaI Y,Fo rd]
 .intro i _ _ h;exact absurd trivial h
 intro _;subst hf;exact b1 (c6 (show ¬(W:Int)<len t by simp only[len];omega))
end Yp
namespace Yp
open Go
def iX(b:V)(c' n:Int):V×Int×Int×Unit:=
 if n<0\/999<n\/c'<0\/(b.length:Int)<c' then([],0,1,()) else if(b.length:Int)-c'<(n+1)/2 then([],0,3,())
 else if n%2=1/\¬ak (eV (ec b c'.toNat ((n.toNat+1)/2))) 0 (u8 0)=48 then([],0,2,())
 else if fY ((eV (ec b c'.toNat ((n.toNat+1)/2))).drop (n.toNat%2)) then((eV (ec b c'.toNat ((n.toNat+1)/2))).drop (n.toNat%2),c'+((n.toNat+1)/2:Nat),0,()) else([],0,2,())
def afm(s:V)(f:V×Int×Int×Nat×Unit->Option (aE (V×Int×Int×Nat×Unit) (V×Int×Int×Unit)))
  (hf:f=λx=>T (i7 x.2.2.2.1 (aT s)) (ob (r_ (bf (gA s x.2.2.2.1).1,())) λa6=>T (a_ a6.2.1) (some (aE.rt (aO UInt8,0,2,()))) (some (aE.nx (x.1,x.2.1,x.2.2.1,bQ x.2.2.2.1 (gA s x.2.2.2.1).2,())))) (some (aE.ex 0 (x.1,x.2.1,x.2.2.1,x.2.2.2.1,())))) :
  bN f (aO UInt8,0,0,0,())=some (if fY s then aE.ex 0 (aO UInt8,0,0,s.length,()) else aE.rt (aO UInt8,0,2,())):=by
 have key:=sG (f:=f) (λi=>(aO UInt8,(0:Int),(0:Int),i,())) s.length (λi=>∀h:i<s.length,h2 s[i]) (aO UInt8,0,2,()) 0 ?_ ?_ ?_
 .rcases key with⟨hall,ah⟩|⟨⟨i,hi,aj⟩,ah⟩
  .rw[ah,if_pos (xb.2 hall)]
  rw[ah,if_neg (λai=>aj (xb.1 ai i hi))]
 .intro i hi hp
  subst hf;obtain⟨e1,aN⟩:=Q_ hi (hp i (bU _) hi);refine(ce (Ao hi)).trans ?_;refine(dL e1).trans ?_;refine(b1 rfl).trans ?_;simp only[aN];rfl
 .intro i hi _ hp
  subst hf;have:¬h2 s[i]:=λh=>hp λ_=>h;obtain⟨q,e1⟩:=Q9 hi this;refine(ce (Ao hi)).trans ?_;refine(dL e1).trans ?_;rfl
 intro _;subst hf;exact b1 (Mo (Jx _))
def QP(b:V)(c' n:Int)(hl:b.length<=1000000):w3 (b,c',n,())=some (iX b c' n):=by
 unfold w3 iX;by_cases O:n<0
 .rw[if_pos (.inl O)];exact(dL (ce (dj O))).trans rfl
 by_cases R:999<n
 .rw[if_pos (.inr (.inl R))];exact(dL (a:=(true,())) ((b1 (c6 O)).trans (ce (dj R)))).trans rfl
 by_cases af:c'<0
 .rw[if_pos (.inr (.inr (.inl af)))];exact(dL (a:=(true,())) ((b1 (c6 O)).trans ((b1 (c6 R)).trans (ce (dj af))))).trans rfl
 by_cases aq:(b.length:Int)<c'
 .rw[if_pos (.inr (.inr (.inr aq)))];exact(dL (a:=(true,())) ((b1 (c6 O)).trans ((b1 (c6 R)).trans ((b1 (c6 af)).trans (congrArg (λb=>some (b,())) (dj aq)))))).trans rfl
 rw[if_neg J];refine(dL (a:=(false,())) ((b1 (c6 O)).trans ((b1 (c6 R)).trans ((b1 (c6 af)).trans (congrArg (λb=>some (b,())) (c6 aq)))))).trans ?_;refine(b1 rfl).trans ?_;obtain⟨A,rfl⟩:∃n:Nat,c'=n:=⟨c'.toNat,J⟩;obtain⟨N,rfl⟩:∃k:Nat,n=k:=⟨n.toNat,J⟩;have c0:i64 (bi (len b) (A:Int))=(b.length:Int)-A:=by simp only[bi,len];exact hM J J
 have c1:i64 (fe (i64 (av (N:Int) 1)) 2)=(((N+1)/2:Nat):Int):=by rw[show i64 (av (N:Int) 1)=((N+1:Nat):Int) from lh (b:=1) J];exact z1 (b:=2) J
 have c2:((N:Int)+1)/2=(((N+1)/2:Nat):Int):=J;simp only[c0,c1,c2,i0];generalize dS:(N+1)/2=M;by_cases a8:(b.length:Int)-A<M
 .rw[if_pos a8];exact ce (dj a8)
 rw[if_neg a8];refine(b1 (c6 a8)).trans ?_;have aov:A+M<=b.length:=J;have hw:i64 (av (A:Int) (M:Int))=((A+M:Nat):Int):=lh J;simp only[hw,Vc];refine(dR (rl J J (by simp only[len];omega))).trans ?_;have tY:=yk aov;refine(dL (Y9 (ec b A M) J)).trans ?_;have CW:=nh (ec b A M);rw[tY]at CW;generalize eV (ec b A M)=h at *
 have b3:dh (N:Int) 2=((N%2:Nat):Int):=vB (b:=2);simp only[b3];by_cases aqE:N%2=1
 .have hm:(N:Int)%2=1:=J
  refine(ce (cK J)).trans ?_;have ao:0<h.length:=J;refine(dR (kS (a:=0) ao)).trans ?_;have d4:ag (aI (ak h (aa 0) (u8 0))) (aI (u8 48))=decide (ak h 0 (u8 0)=48):=by
   show((((ak h 0 (u8 0)).toNat:Nat):Int)==((48:Nat):Int))=_;rw[pd];simp only[beq_iff_eq,decide_eq_true_eq];constructor
   .intro hh;apply uN.1;exact E7 hh
   intro hh;rw[hh];rfl
  rw[d4];by_cases bj:ak h 0 (u8 0)=48
  rotate_left
  .rw[if_pos ⟨hm,bj⟩]
   exact ce (by rw[decide_eq_false bj];rfl)
  rw[if_neg (λai=>ai.2 bj)];refine(b1 (by rw[decide_eq_true bj];rfl)).trans ?_;refine(dR (rl J (by simp only[len];omega) (by simp only[len];omega))).trans ?_;have es:sub h 1 (len h)=h.drop 1:=by unfold sub len;show(h.drop 1).take (h.length-1)=_;rw[hS bh]
  simp only[es,aqE];refine(da (afm (h.drop 1) _ rfl)).trans ?_;by_cases hf:fY (h.drop 1)
  .rw[if_pos hf,if_pos hf]
   show some (h.drop 1,((A+M:Nat):Int),(0:Int),())=_;simp
  rw[if_neg hf,if_neg hf];rfl
 have iR:N%2=0:=J;rw[if_neg (λai=>J)];refine(b1 (ct J)).trans ?_;simp only[iR,nD];refine(da (afm h _ rfl)).trans ?_;by_cases hf:fY h
 .rw[if_pos hf,if_pos hf]
  show some (h,((A+M:Nat):Int),(0:Int),())=_;simp
 rw[if_neg hf,if_neg hf];rfl
end Yp
namespace Yp
open Go
end Yp
namespace Yp
open Go
def s9(B:Nat)(wt:UInt8->Nat)(l:V):Nat:=l.foldl (λn c=>B*n+wt c) 0
def ahx(B:Nat)(wt:UInt8->Nat)(l:V)(c:UInt8):s9 B wt (l++[c])=B*s9 B wt l+wt c:=by unfold s9;rw[OE];rfl
def MO(B:Nat)(g:Nat->UInt8)(v:Nat):∀n,aZ B g v (n+1)=aZ B g (v/B) n++[g (v%B)]
 |0=>by simp[aZ]
 |n+1=>by have e:aZ B g v (n+1+1)=g (v/B^(n+1)%B)::aZ B g v (n+1):=rfl;have aN:aZ B g (v/B) (n+1)=g (v/B/B^n%B)::aZ B g (v/B) n:=rfl;rw[e,MO B g v n,aN,Nat.div_div_eq_div_mul,Nat.pow_succ',lA]
def VY{B:Nat}{g:Nat->UInt8}{wt:UInt8->Nat}(aB:0<B)(h:∀d,d<B->wt (g d)=d):∀(n v:Nat),s9 B wt (aZ B g v n)=v%B^n
 |0,v=>by simp[aZ,s9,Nat.mod_one]
 |n+1,v=>by rw[MO,ahx,VY aB h n,h _ (td _ aB),Nat.pow_succ',Nat.mod_mul];omega
def aex{B:Nat}{g:Nat->UInt8}{wt:UInt8->Nat}{l:V}(h:∀c∈l,wt c<B/\g (wt c)=c):∀i,i<=l.length->aZ B g (s9 B wt (l.take i)) i=l.take i
 |0,_=>by simp[aZ]
 |i+1,hi=>by
  have ai:=h _ (mu (show i<l.length by omega));rw[nH J,ahx,MO];have e1:(B*s9 B wt (l.take i)+wt l[i])/B=s9 B wt (l.take i):=by rw[Nat.mul_add_div J,Fb ai.1];omega
  have aN:(B*s9 B wt (l.take i)+wt l[i])%B=wt l[i]:=by rw[Nat.mul_add_mod,lY ai.1]
  rw[e1,aN,aex h i J,ai.2]
theorem ajq(l:V):my l=s9 256 UInt8.toNat l:=rfl
theorem ays(l:V):val l=s9 10 ku l:=rfl
def ajp(v n:Nat):my (aZ 256 m_ v n)=v%256^n:=by rw[ajq];refine VY J (λd aF => ?_) n v;simp only[m_,uQ];omega
def N7(v n:Nat):val (aZ 10 dI v n)=v%10^n:=by rw[ays];refine VY J (λd aF => ?_) n v;simp only[ku,dI,uQ];omega
def aew{l:V}(hf:fY l):aZ 10 dI (val l) l.length=l:=by
 have:=aex (B:=10) (g:=dI) (wt:=ku) (l:=l) (λc ai=>by obtain⟨i,hi,rfl⟩:=uP ai;have:=Co (hf i hi);exact⟨this.2,this.1.symm⟩) l.length (bU _)
 rw[nF]at this;exact this
def ayr{l:V}(hf:fY l):val l<10^l.length:=by have:=VW (s:=l) l.length (bU _) (λj _ h=>hf j h);rw[nF]at this;exact this
def Lw{b:V}:∀{i:Nat} (h:i<b.length),ak (eV b) (2*i) (u8 0)=me (b[i].toNat/16)/\ak (eV b) (2*i+1) (u8 0)=me (b[i].toNat%16):=by
 induction b with
 |nil=>intro i h;simp at h
 |cons x r ih=>
  intro i h;have e:eV (x::r)=me (x.toNat/16)::me (x.toNat%16)::eV r:=rfl;cases i with
  |zero=>rw[e];exact⟨rfl,rfl⟩
  |succ i =>have:=ih (i:=i) (by simpa using h);rw[e];exact this
def auD{a b:V}{k:Nat}(bu:a.length=2*k)(Y:b.length=2*k)(h:∀i,i<k->ak a (2*i) (u8 0)=ak b (2*i) (u8 0)/\ak a (2*i+1) (u8 0)=ak b (2*i+1) (u8 0)):a=b:=by
 apply th
 .omega
 intro j O R;have:=h (j/2) J;by_cases hp:j%2=0
 .have:=this.1
  rw[show 2*(j/2)=j by omega,nth_get O,nth_get R]at this;exact this
 have:=this.2;rw[show 2*(j/2)+1=j by omega,nth_get O,nth_get R]at this;exact this
def adh:∀d:Nat,d<16->h2 (me d)->ku (me d)=d:=iL
def Zf:∀d:Nat,d<10->me d=UInt8.ofNat (48+d):=iL
def Mk:∀d:Nat,d<16->rm (me d)/\lg (me d)=d:=iL
def apN{p:V}(hf:fY p)(aA:p.length%2=0):eV (f9 p)=p:=by
 have hl:(f9 p).length=p.length/2:=by simp[f9]
 refine auD (k:=p.length/2) (by rw[nh,hl]) J λi hi => ?_;have gG:i<(f9 p).length:=J;have ao:2*i<p.length:=J;have O:2*i+1<p.length:=J;obtain⟨e1,aN⟩:=Lw gG;obtain⟨cI,cR⟩:=Co (hf _ ao);obtain⟨eS,ei⟩:=Co (hf _ O);have hg:(f9 p)[i]=UInt8.ofNat (16*ku p[2*i]+ku p[2*i+1]):=by simp[f9,iw,nth_get ao,nth_get O]
 have aj:(f9 p)[i].toNat=16*ku p[2*i]+ku p[2*i+1]:=by rw[hg,uQ];omega
 rw[e1,aN,aj,nth_get ao,nth_get O];rw[show(16*ku p[2*i]+ku p[2*i+1])/16=ku p[2*i] by omega,show(16*ku p[2*i]+ku p[2*i+1])%16=ku p[2*i+1] by omega];rw[Zf _ cR,Zf _ ei];exact⟨cI.symm,eS.symm⟩
def aje{u:V}(hf:fY (eV u)):f9 (eV u)=u:=by
 have hl:=nh u;apply th
 .simp[f9];omega
 intro i O R;obtain⟨e1,aN⟩:=Lw R;have f0:=hf (2*i) J;have f1:=hf (2*i+1) J;rw[<- nth_get (d:=u8 0)]at f0 f1;rw[e1]at f0;rw[aN]at f1;have aL:=xK u[i];simp only[f9,wA,yP,iw,e1,aN];rw[adh _ J f0,adh _ J f1];apply uN.1;rw[uQ];omega
def R9(b:V):zI (eV b):=by have hl:=nh b;refine(R_ (k:=b.length) J).1 λi hi => ?_;obtain⟨e1,aN⟩:=Lw hi;have aL:=xK b[i];rw[e1,aN];exact⟨(Mk _ J).1,(Mk _ J).1⟩
def ahu(b:V):oj (eV b)=b:=by
 have hl:=nh b;apply th
 .simp[oj];omega
 intro i O R;obtain⟨e1,aN⟩:=Lw R;have aL:=xK b[i];simp only[oj,wA,yP,e1,aN];rw[(Mk _ J).2,(Mk _ J).2];apply uN.1;rw[uQ];omega
end Yp
namespace Yp
def bq{a b r:α}(h:c=true)(k:a=r):T c a b=r:=(ce h).trans k
def a1{a b r:α}(h:c=false)(k:b=r):T c a b=r:=(b1 h).trans k
def bn{a r:Option α}(h:c=true)(k:a=r):am c a=r:=(dR h).trans k
def bg{o:Option α}{a:α}{f:α->Option β}{r:Option β}(h:o=some a)(k:f a=r):ob o f=r:=(dL h).trans k
end Yp
namespace Yp
open Go
theorem azO{k:Nat}{y:σ}{kn:σ->Option β}{g5:Nat->σ->Option β}{hb:ρ->Option β}:ci (some (.ex k y)) kn g5 hb=g5 k y:=rfl
def af6{a b:α}:T c (some a) (some b)=some (T c a b):=by cases c<;>rfl
def awS{a:α}:T c a a=a:=by cases c<;>rfl
def asP{f:σ->Option (aE σ ρ)}(cJ:Nat->σ)(n:Nat)(p:Nat->Prop)(r:Nat->aE σ ρ)(k:Nat)(ah:∀i,match r i with|.nx _=>False|_=>True)(ac:∀i,i<n->p i->f (cJ i)=some (.nx (cJ (i+1))))(Y:∀i,i<n->¬p i->f (cJ i)=some (r i))(aA:f (cJ n)=some (.ex k (cJ n))):
  ((∀i,i<n->p i)/\bN f (cJ 0)=some (.ex k (cJ n)))\/∃i,i<n/\(∀j,j<i->p j)/\¬p i/\bN f (cJ 0)=some (r i):=by
 by_cases h:∀i,i<n->p i
 .refine .inl ⟨h,?_⟩
  rw[md cJ n (λi hi=>ac i hi (h i hi)) 0 (fI _)];exact d_ aA
 refine .inr ?_;have tS:∃i,i<n/\¬p i:=k2 λai=>h λi hi=>k2 λhp=>ai ⟨i,hi,hp⟩;obtain⟨k,ap,hp⟩:=tS;induction k using Nat.strongRecOn with
 |_ k ih=>
  by_cases hl:∃j,j<k/\¬p j
  .obtain⟨j,an,Su⟩:=hl
   exact ih j an J Su
  have hall:∀i,i<k->p i:=λi hi=>k2 λhp=>hl ⟨i,hi,hp⟩;refine⟨k,ap,hall,hp,?_⟩;rw[md cJ k (λi hi=>ac i J (hall i hi)) 0 (fI _)];have:=Y k ap hp;have rh:=ah k;generalize r k=x at *
  cases x with
  |nx y=>exact rh.elim
  |ex j y=>exact d_ this
  |rt y=>exact pO this
def F9:List (List Int):=[[1,2,25],[1,3,22,49,70],[1,4,13,14,18],[1,6,3,11,12,15],[1,10,7],[1,12,4],[1,16,53],[1,42,90],[2,19,2],[2,11,32,100],[3,12,37],[3,6,38],[3,2,39],[3,8,41],[3,15,42],[3,42,95],[4,37,35],[4,28,102],[5,400,48],[5,120,54],[6,8,52,64,96,128],[7,255,55],[7,400,127]]
def fK(no:Int):Option (Int×Int):=(F9.find? λr=>(r.drop 2).contains no).map λr=>(ak r 0 0,ak r 1 0)
def iz(o:Option (Int×Int)):(Int×Int×Unit)×Bool×Unit:=match o with|some (k,l)=>((k,l,()),true,())|none=>((0,0,()),false,())
def CA:List Int:=F9.flatMap λr=>r.drop 2
def kg(k no:Int):Int:=match zo (k,no,()) with|some (a,())=>a|none=>0
def ani(no:Int):∃a,F5 (no,())=some (a,()):=by
 unfold F5;simp only[af6]
 grind
def ank(k no:Int):zo (k,no,())=some (kg k no,()):=by
 have:∃a,zo (k,no,())=some (a,()):=by
  unfold zo;obtain⟨a,bu⟩:=ani no;simp only[bu,hj,af6]
  grind
 obtain⟨a,bu⟩:=this;unfold kg;rw[bu]
def DJ(no:Int):Option (Int×Int):=if 0<kg 1 no then some (1,kg 1 no) else if 0<kg 2 no then some (2,kg 2 no) else if 0<kg 3 no then some (3,kg 3 no) else if 0<kg 4 no then some (4,kg 4 no)
 else if 0<kg 5 no then some (5,kg 5 no) else if 0<kg 6 no then some (6,kg 6 no) else if 0<kg 7 no then some (7,kg 7 no) else none
def anf(no:Int):u_ (no,())=some (iz (DJ no)):=by
 unfold u_;generalize hf:(λ(ab:Bool×Int×Unit)=>_)=f;have step:∀k:Nat,k<=7->f (false,(k:Int),())=if 0<kg k no then some (.rt (((k:Int),kg k no,()),true,())) else some (.nx (false,((k+1:Nat):Int),())):=by
  intro k ap;subst hf;refine bq (hN (show(k:Int)<=7 by omega)) ?_;refine bg (ank _ _) ?_;have c:i64 (av (k:Int) 1)=((k+1:Nat):Int):=lh (b:=1) J;simp only[c];by_cases h:0<kg k no
  .rw[if_pos h];exact ce (dj h)
  rw[if_neg h];exact b1 (c6 h)
 have last:f (false,((8:Nat):Int),())=some (.ex 0 (false,((8:Nat):Int),())):=by subst hf;exact b1 (oT (show ¬((8:Nat):Int)<=7 by omega))
 have key:∀k:Nat,k<=7->kg k no<=0->bN f (false,(k:Int),())=bN f (false,((k+1:Nat):Int),()):=λk ap h=>ez (by rw[step k ap,if_neg J]);have rd:∀k:Nat,k<=7->0<kg k no->bN f (false,(k:Int),())=some (.rt (((k:Int),kg k no,()),true,())):=λk ap h=>pO (by rw[step k ap,if_pos h]);have:=key 1;have:=key 2;have:=key 3;have:=key 4;have:=key 5;have:=key 6;have:=key 7;have:=rd 1;have:=rd 2;have:=rd 3;have:=rd 4;have:=rd 5;have:=rd 6;have:=rd 7;have cz:bN f (false,((8:Nat):Int),())=some (.ex 0 (false,((8:Nat):Int),())):=d_ last;show ci (bN f (false,((1:Nat):Int),())) _ _ _=_;unfold DJ
 repeat' split
 all_goals
  simp_all
  first|done|rfl
def asL(h:∀c∈CA,¬no=c):∀k,kg k no=0:=by have bL:∀c∈CA,ag no c=false:=λc ai=>ct (h c ai);have e:CA=[25,22,49,70,13,14,18,3,11,12,15,7,4,53,90,2,32,100,37,38,39,41,42,95,35,102,48,54,52,64,96,128,55,127]:=bP;rw[e]at bL;simp at bL;intro k;unfold kg zo F5;simp only[bL,A2,hj,awS]
def auS(no:Int):DJ no=fK no:=by
 by_cases h:no∈CA
 .exact(by decide +kernel:∀no∈CA,DJ no=fK no) no h
 have bL:∀c∈CA,¬no=c:=λc ai e=>h (e▸ai);have e1:DJ no=none:=by simp[DJ,asL bL]
 have aN:fK no=none:=by unfold fK;rw[Option.map_eq_none_iff,List.find?_eq_none];intro r ah ai;rw[List.contains_eq_mem,decide_eq_true_eq]at ai;exact h (Fa.2 ⟨r,ah,ai⟩)
 rw[e1,aN]
def F3(no:Int):u_ (no,())=some (iz (fK no)):=by rw[anf,auS]
def kinds(k:Int):Prop:=k=1\/k=2\/k=3\/k=4\/k=5\/k=6\/k=7
instance (k:Int):Decidable (kinds k):=by unfold kinds;infer_instance
def tJ(h:fK no=some (k,l)):kinds k/\1<=l/\l<=400/\(k=2\/k=4->l<=99):=by
 unfold fK at h;rw[k4]at h;have:∀r∈F9,kinds (ak r 0 0)/\1<=ak r 1 0/\ak r 1 0<=400/\(ak r 0 0=2\/ak r 0 0=4->ak r 1 0<=99):=iL
 grind
def oa(lo hi:Int)(v:V):Prop:=∀i (h:i<v.length),lo<=aI v[i]/\aI v[i]<=hi
instance (lo hi:Int) (v:V):Decidable (oa lo hi v):=inferInstanceAs (Decidable (∀(i:Nat) (h:i<v.length),lo<=aI v[i]/\aI v[i]<=hi))
def ad7(lo hi:UInt8)(v:V)(hl:v.length<=1000000):∃i,bN (λ(ab:Bool×Int×Unit)=>
  T (aJ ab.2.1 (len v)) (am (aU ab.2.1 (len v)) (ob (T (aJ (aI (ak v (aa ab.2.1) (u8 0))) (aI lo)) (some (true,())) (some (aJ (aI hi) (aI (ak v (aa ab.2.1) (u8 0))),())))
   λ(a:Bool×Unit)=>T a.1 (some (aE.ex 999999999 (false,ab.2.1,()))) (some (aE.nx (ab.1,i64 (av ab.2.1 1),())))))
   (some (aE.ex 0 (ab.1,ab.2.1,()):aE (Bool×Int×Unit) Unit))) (false,0,())=some (if oa (aI lo) (aI hi) v then .ex 0 (false,i,()) else .ex 999999999 (false,i,())):=by
 generalize hf:(λ(ab:Bool×Int×Unit)=>_)=f;have key:=asP (f:=f) (λi=>(false,(i:Int),())) v.length (λi=>aI lo<=aI (ak v i (u8 0))/\aI (ak v i (u8 0))<=aI hi) (λi=>.ex 999999999 (false,(i:Int),())) 0 (λ_=>trivial) ?_ ?_ ?_
 .rcases key with⟨h,ah⟩|⟨i,hi,_,hp,ah⟩
  .refine⟨(v.length:Int),ah.trans ?_⟩
   rw[if_pos (show oa (aI lo) (aI hi) v from λi hi=>by have:=h i hi;rwa [nth_get hi]at this)]
  refine⟨(i:Int),ah.trans ?_⟩;rw[if_neg (λ(ai:oa (aI lo) (aI _) v)=>hp (by have:=ai i hi;rwa [<- nth_get (d:=u8 0) hi]at this))]
 .intro i hi hp
  subst hf;refine bq (Tl.trans (decide_eq_true hi)) ?_;refine bn (kS hi) ?_;have c:i64 (av (i:Int) 1)=((i+1:Nat):Int):=lh (b:=1) J;simp only[he,c];refine bg (a:=(false,())) (a1 (c6 J) (congrArg (λb=>some (b,())) (c6 J))) ?_;rfl
 .intro i hi hp
  subst hf;refine bq (Tl.trans (decide_eq_true hi)) ?_;refine bn (kS hi) ?_;simp only[he];by_cases h:aI (ak v i (u8 0))<aI lo
  .exact bg (ce (dj h)) rfl
  exact bg (a:=(true,())) (a1 (c6 h) (congrArg (λb=>some (b,())) (dj J))) rfl
 subst hf;exact b1 (c6 (by simp only[len];omega))
def w_(k:Int)(v:V):Prop:=(k<=2->fY v)/\(k<=5->oa 32 126 v)
def kM(k l:Int)(n:Nat):Prop:=if k=1\/k=3\/k=6 then(n:Int)=l else 1<=n/\(n:Int)<=l
instance (k l:Int) (n:Nat):Decidable (kM k l n):=by unfold kM;infer_instance
def g2(k l:Int)(v:V):Prop:=w_ k v/\kM k l v.length
instance (k l:Int) (v:V):Decidable (g2 k l v):=inferInstanceAs (Decidable (((k<=2->fY v)/\(k<=5->oa 32 126 v))/\kM k l v.length))
theorem Tu(c:UInt8):aI c=((c.toNat:Nat):Int):=rfl
def awm{v:V}:oa 48 57 v↔fY v:=by unfold oa fY h2;refine forall_congr' λi=>forall_congr' λh => ?_;rw[Tu];omega
def Cy{v:V}(h:fY v):oa 32 126 v:=λi hi=>by have:=h i hi;unfold h2 at this;rw[Tu];omega
def dt(k:Int):Int:=if k=2\/k=4 then 2 else if k=5\/k=7 then 3 else 0
def ZF(ap:kinds k):iy (k,())=some (dt k,()):=by rcases ap with rfl|rfl|rfl|rfl|rfl|rfl|rfl<;>rfl
def anL{o:Option (Int×Int)}(h:o=some (k,l)):iz o=((k,l,()),true,()):=by rw[h];rfl
def qO{a b:Bool}(h:a=b):some (a,())=some (b,()):=by rw[h]
def gB(no:Int)(v:V):Bool:=match fK no with|some (k,l)=>decide (g2 k l v)|none=>false
def K1(no:Int)(v:V)(hl:v.length<=1000000):u9 (no,v,())=some (gB no v,()):=by
 unfold u9 gB;refine bg (F3 no) ?_;cases aK:fK no with
 |none=>exact bg (a:=(true,())) (ce rfl) rfl
 |some p=>
  obtain⟨k,l⟩:=p;rw[anL rfl];obtain⟨ap,O,tN,xh⟩:=tJ aK;by_cases cr:l<v.length
  .refine bg (a:=(true,())) (a1 rfl (qO (dj cr))) ?_
   refine bq rfl (qO ?_);refine(decide_eq_false λh => ?_).symm;have:=h.2;unfold kM at this
   grind
  refine bg (a:=(false,())) (a1 rfl (qO (c6 cr))) ?_;obtain⟨i,eG⟩:=ad7 (u8 48) (u8 57) v hl;obtain⟨j,gr⟩:=ad7 (u8 32) (u8 126) v hl;have e1:oa (aI (u8 48)) (aI (u8 57)) v↔fY v:=awm;have aN:oa (aI (u8 32)) (aI (u8 126)) v↔oa 32 126 v:=pm;simp only[e1]at eG;simp only[aN]at gr;have BF:∀{c:Bool} {p:Prop} [Decidable p],(c=true↔p)->some (c,())=some (decide p,()):=fun{c p _} h=>qO (pd.2 (h.trans decide_eq_true_iff.symm));refine a1 rfl ?_;rcases ap with rfl|rfl|rfl|rfl|rfl|rfl|rfl
  .refine bq rfl ?_;refine bq rfl ?_
   refine(da eG).trans ?_;by_cases hf:fY v
   .rw[if_pos hf]
    refine(da gr).trans ?_;rw[if_pos (Cy hf)];refine BF ?_;simp[ag,len,g2,kM,w_,hf,Cy hf]
   rw[if_neg hf];exact qO (decide_eq_false λh=>hf (h.1.1 J)).symm
  .refine a1 rfl ?_;refine bq rfl ?_
   refine(da eG).trans ?_;by_cases hf:fY v
   .rw[if_pos hf]
    refine(da gr).trans ?_;rw[if_pos (Cy hf)];refine BF ?_;simp[aJ,len,g2,kM,w_,hf,Cy hf];omega
   rw[if_neg hf];exact qO (decide_eq_false λh=>hf (h.1.1 J)).symm
  .refine a1 rfl ?_;refine a1 rfl ?_;refine bq rfl ?_;refine bq rfl ?_
   refine(da gr).trans ?_;by_cases hf:oa 32 126 v
   .rw[if_pos hf]
    refine BF ?_;simp[ag,len,g2,kM,w_,hf]
   rw[if_neg hf];exact qO (decide_eq_false λh=>hf (h.1.2 J)).symm
  .refine a1 rfl ?_;refine a1 rfl ?_;refine a1 rfl ?_;refine bq rfl ?_
   refine(da gr).trans ?_;by_cases hf:oa 32 126 v
   .rw[if_pos hf]
    refine BF ?_;simp[aJ,len,g2,kM,w_,hf];omega
   rw[if_neg hf];exact qO (decide_eq_false λh=>hf (h.1.2 J)).symm
  .refine a1 rfl ?_;refine a1 rfl ?_;refine a1 rfl ?_;refine a1 rfl ?_;refine bq rfl ?_
   refine(da gr).trans ?_;by_cases hf:oa 32 126 v
   .rw[if_pos hf]
    refine BF ?_;simp[aJ,len,g2,kM,w_,hf];omega
   rw[if_neg hf];exact qO (decide_eq_false λh=>hf (h.1.2 J)).symm
  .refine a1 rfl ?_;refine a1 rfl ?_;refine a1 rfl ?_;refine a1 rfl ?_;refine a1 rfl ?_
   refine BF ?_;simp[ag,len,g2,kM,w_]
  refine a1 rfl ?_;refine a1 rfl ?_;refine a1 rfl ?_;refine a1 rfl ?_;refine a1 rfl ?_;refine BF ?_;simp[aJ,len,g2,kM,w_];omega
def g4(k:Int)(n:Nat):V:=if 0<dt k then f9 (er (aZ 10 dI n (dt k).toNat)) else[]
def body(k:Int)(v:V):V:=if k<=2 then f9 (er v) else v
def kY(k:Int)(v:V):V:=g4 k v.length++body k v
def rR(no:Int)(v:V):V×Int×Unit:=match fK no with|none=>([],12,())|some (k,l)=>if g2 k l v then(kY k v,0,()) else([],1,())
def ajf(p:V):(f9 p).length=p.length/2:=by simp[f9]
def r6(p:V):(f9 (er p)).length=(p.length+1)/2:=by rw[ajf,HZ];omega
def y'(k:Int)(v:V):(body k v).length=if k<=2 then(v.length+1)/2 else v.length:=by
 unfold body;split
 .exact r6 v
 rfl
def YM{v:V}(ap:kinds k)(xh:k=2\/k=4->l<=99)(tN:l<=400)(aC:g2 k l v)(ao:0<dt k):(1<=dt k/\dt k<=18)/\(0<=(v.length:Int)/\(v.length:Int)<10^(dt k).toNat)/\1<=v.length/\(v.length:Int)<=l:=by
 have:=aC.2;unfold kM at this;rcases ap with rfl|rfl|rfl|rfl|rfl|rfl|rfl
 .exact absurd ao bP
 .have R:(10:Int)^(dt 2).toNat=100:=bP
  rw[if_neg bP]at this;rw[R];exact⟨bP,J,J⟩
 .exact absurd ao bP
 .have R:(10:Int)^(dt 4).toNat=100:=bP
  rw[if_neg bP]at this;rw[R];exact⟨bP,J,J⟩
 .have R:(10:Int)^(dt 5).toNat=1000:=bP
  rw[if_neg bP]at this;rw[R];exact⟨bP,J,J⟩
 .exact absurd ao bP
 have R:(10:Int)^(dt 7).toNat=1000:=bP;rw[if_neg bP]at this;rw[R];exact⟨bP,J,J⟩
def YN(ap:kinds k):dt k=0\/dt k=2\/dt k=3:=by
 unfold dt;split
 .simp
 omega
def ady(ap:kinds k):(T (ag k 1) (some (true,())) (some (ag k 2,())):Option (Bool×Unit))=some (decide (k<=2),()):=by rcases ap with rfl|rfl|rfl|rfl|rfl|rfl|rfl<;>rfl
def anh(no:Int)(v:V)(hl:v.length<=1000000):F4 (no,v,())=some (rR no v):=by
 unfold F4 rR;refine bg (F3 no) ?_;cases aK:fK no with
 |none=>rfl
 |some p=>
  obtain⟨k,l⟩:=p;obtain⟨ap,O,tN,xh⟩:=tJ aK;refine bg (K1 no v hl) ?_;have CV:gB no v=decide (g2 k l v):=by unfold gB;rw[aK]
  rw[CV];by_cases aC:g2 k l v
  rotate_left
  .rw[decide_eq_false aC]
   simp only[if_neg aC];rfl
  rw[decide_eq_true aC];simp only[if_pos aC];refine bg (ZF ap) ?_;have Y:=ady ap;have GH:k<=2->tE (v,())=some (body k v,0,()):=λh=>by rw[QN v hl,if_pos (aC.1.1 h)];unfold body;rw[if_pos h]
  have ab5:=y' k v;by_cases ao:0<dt k
  .obtain⟨c1,c2,hw⟩:=YM ap xh tN aC ao
   refine bq (dj ao) ?_;have aF:mD (len v,dt k,())=some (aZ 10 dI v.length (dt k).toNat,0,()):=by rw[FP _ _ (by simp only[len];omega),if_pos ⟨c1.1,c1.2,c2⟩];rfl
   refine bg aF ?_;have vj:tE (aZ 10 dI v.length (dt k).toNat,())=some (g4 k v.length,0,()):=by rw[QN _ (by rw[lm];omega),if_pos zp];unfold g4;rw[if_pos ao]
   refine bg vj ?_;refine bg Y ?_;have CW:(g4 k v.length).length<=10:=by unfold g4;rw[if_pos ao,r6,lm];omega
   by_cases R:k<=2
   .refine bq (decide_eq_true R) ?_
    refine bg (GH R) ?_;rw[if_pos R]at ab5;exact bn (n? (by simp only[bQ,aT];omega)) rfl
   refine a1 (decide_eq_false R) ?_;refine bn (n? (by simp only[bQ,aT];omega)) ?_;have:body k v=v:=by unfold body;rw[if_neg R]
   simp only[kY,this];rfl
  refine a1 (c6 ao) ?_;refine bg Y ?_;have hh:g4 k v.length=[]:=by unfold g4;rw[if_neg ao]
  by_cases R:k<=2
  .refine bq (decide_eq_true R) ?_
   refine bg (GH R) ?_;rw[if_pos R]at ab5;refine bn (n? (by simp only[aT];omega)) ?_;simp only[kY,hh,nG]
  refine a1 (decide_eq_false R) ?_;refine bn (n? (by simp only[aT];omega)) ?_;have:body k v=v:=by unfold body;rw[if_neg R]
  simp only[kY,this,hh,nG]
theorem avR(a b:V):M0 (a,b,())=some (seq a b,()):=rfl
def auy{u:V}{k N:Nat}(hl:u.length=2*k)(fM:(N+1)/2=k)(h:N%2=1->ak u 0 (u8 0)=48):er (u.drop (N%2))=u:=by
 by_cases aK:N%2=1
 .rw[aK]
  unfold er;rw[if_pos (by grind)];cases u with
  |nil=>simp at hl;omega
  |cons x r=>have:=h aK;simp only[ak,List.getD_cons_zero]at this;rw[this];rfl
 have:N%2=0:=J;rw[this,nD];exact auz J
def ZM{s:V}(h:fY s):fY (er s):=by
 unfold er;split
 .intro i hi
  cases i with
  |zero=>exact(by decide:h2 48)
  |succ i=>exact h i (by grind)
 exact h
def T4(s:V):(er s).drop (s.length%2)=s:=by
 unfold er;by_cases h:s.length%2=1
 .grind
 have:s.length%2=0:=J
 grind
def Lx{s:V}(hf:fY s):eV (f9 (er s))=er s:=apN (ZM hf) (by rw[HZ];omega)
def ajg{s t:V}(ac:fY s)(ht:fY t)(hl:s.length=t.length)(h:f9 (er s)=f9 (er t)):s=t:=by have:=congrArg eV h;rw[Lx ac,Lx ht]at this;rw[<- T4 s,<- T4 t,this,hl]
def Bb{b:V}{N:Nat}(eo:I<=b.length)(fM:N<=999):(b.length<I+(N+1)/2/\iX b I N=([],0,3,())) \/
  (I+(N+1)/2<=b.length/\iX b I N=([],0,2,())/\∀s,s.length=N->fY s->ec b I ((N+1)/2)=f9 (er s)->False) \/
  (∃s,I+(N+1)/2<=b.length/\iX b I N=(s,((I+(N+1)/2:Nat):Int),0,())/\fY s/\s.length=N/\ec b I ((N+1)/2)=f9 (er s)):=by
 unfold iX;simp only[i0];rw[if_neg J];by_cases O:(b.length:Int)-I<((N:Int)+1)/2
 .grind
 rw[if_neg O];have bY:I+(N+1)/2<=b.length:=J;have ab1:=yk bY;have C7:(eV (ec b I ((N+1)/2))).length=2*((N+1)/2):=by rw[nh,ab1]
 refine .inr ?_;by_cases R:(N:Int)%2=1/\¬ak (eV (ec b I ((N+1)/2))) 0 (u8 0)=48
 .rw[if_pos R]
  refine .inl ⟨bY,rfl,λs ac hf h=>R.2 ?_⟩;rw[h,Lx hf];unfold er;rw[if_pos J];rfl
 rw[if_neg R];have hp:er ((eV (ec b I ((N+1)/2))).drop (N%2))=eV (ec b I ((N+1)/2)):=auy C7 rfl λaK=>k2 λai=>R ⟨J,ai⟩;by_cases af:fY ((eV (ec b I ((N+1)/2))).drop (N%2))
 .rw[if_pos af]
  refine .inr ⟨_,bY,?_,af,by rw[e?,C7];omega,?_⟩
  .simp
  have Y:=aje (u:=ec b I ((N+1)/2)) (by rw[<- hp];exact ZM af);rw[hp,Y]
 rw[if_neg af];refine .inl ⟨bY,rfl,λs ac hf h=>af ?_⟩;rw[h,Lx hf,<- ac,T4];exact hf
def ahb{b x q:V}(h:b.drop I=x++q):ec b I x.length=x:=by unfold ec;rw[h,List.take_left'];rfl
def KG{b x:V}(h:ec b I n=x):b.drop I=x++b.drop (I+n):=by rw[<- h];unfold ec;rw[<- qX,EV]
def Zc{b x:V}(eo:I<=b.length)(h:b.drop I=x):b.length=I+x.length:=by have:=congrArg List.length h;rw[e?]at this;omega
def VA{b s q:V}(eo:I<=b.length)(fM:s.length<=999)(hf:fY s)(h:b.drop I=f9 (er s)++q):iX b I s.length=(s,((I+(s.length+1)/2:Nat):Int),0,()):=by
 have hl:=Zc eo h;have ht:=ahb h;rw[cG,r6]at hl;rw[r6]at ht;rcases Bb eo fM with⟨O,_⟩|⟨_,_,R⟩|⟨t,_,af,aq,a8,cT⟩
 .omega
 .exact(R s rfl hf ht).elim
 rw[af,ajg aq hf a8 (by rw[<- cT,ht])]
def x0(k l:Int)(b:V)(a n:Int):V×Int×Int×Unit:=
 if k<=2 then(if(iX b a n).2.2.1=0 then((iX b a n).1,(iX b a n).2.1,0,()) else([],0,(iX b a n).2.2.1,()))
 else if(b.length:Int)-a<n then([],0,3,()) else if g2 k l (ec b a.toNat n.toNat) then(ec b a.toNat n.toNat,a+n,0,()) else([],0,2,())
def x1(k l:Int)(b:V)(a:Int):V×Int×Int×Unit:=
 if a<0\/(b.length:Int)<a then([],0,1,()) else if 0<dt k then
  (if(iX b a (dt k)).2.2.1=0 then(if(val (iX b a (dt k)).1:Int)<1\/l<val (iX b a (dt k)).1 then([],0,2,()) else x0 k l b (iX b a (dt k)).2.1 (val (iX b a (dt k)).1))
  else([],0,(iX b a (dt k)).2.2.1,()))
 else x0 k l b a l
def jo(no:Int)(b:V)(a:Int):V×Int×Int×Unit:=match fK no with|none=>([],0,12,())|some (k,l)=>x1 k l b a
def ZE{b:V}{N:Nat}(aK:fK no=some (k,l))(hl:b.length<=1000000)(bu:A<=b.length)(aj:1<=N/\N<=400):
  (ob (T (ag k 1) (some (true,())) (some (ag k 2,()))) λ(a':Bool×Unit)=>T a'.1 (ob (w3 (b,(A:Int),(N:Int),())) λ(t:V×Int×Int×Unit)=>T (a_ (ag t.2.2.1 0)) (some (aO UInt8,0,t.2.2.1,())) (am (cB 1 (aT t.1)) (some (t.1,t.2.1,0,()))))
   (T (aJ (i64 (bi (len b) (A:Int))) (N:Int)) (some (aO UInt8,0,3,())) (am (ca (A:Int) (i64 (av (A:Int) (N:Int))) (len b)) (am (cB 1 (bQ (aT (aO UInt8)) (aT (sub b (A:Int) (i64 (av (A:Int) (N:Int)))))))
    (ob (u9 (no,bv (aO UInt8) (sub b (A:Int) (i64 (av (A:Int) (N:Int)))),())) λ(a:Bool×Unit)=>T (a_ a.1) (some (aO UInt8,0,2,())) (some (bv (aO UInt8) (sub b (A:Int) (i64 (av (A:Int) (N:Int)))),i64 (av (A:Int) (N:Int)),0,()))))))
   : Option (V×Int×Int×Unit))=some (x0 k l b A N):=by
 obtain⟨ap,O,tN,xh⟩:=tJ aK;refine bg (ady ap) ?_;unfold x0;by_cases R:k<=2
 .refine bq (decide_eq_true R) ?_
  rw[if_pos R];refine bg (QP b A N hl) ?_;rcases Bb bu (show N<=999 by omega) with⟨_,h⟩|⟨_,h,_⟩|⟨s,_,h,_,ac,_⟩
  .rw[h];rfl
  .rw[h];rfl
  rw[h];refine bn (n? (by simp only[aT];omega)) ?_;rfl
 refine a1 (decide_eq_false R) ?_;rw[if_neg R];have c0:i64 (bi (len b) (A:Int))=(b.length:Int)-A:=by simp only[bi,len];exact hM J J
 have hw:i64 (av (A:Int) (N:Int))=((A+N:Nat):Int):=lh J;simp only[c0,hw,Vc,i0];by_cases af:(b.length:Int)-A<N
 .rw[if_pos af];exact ce (dj af)
 rw[if_neg af];refine a1 (c6 af) ?_;have bY:A+N<=b.length:=J;refine bn (rl J J (by simp only[len];omega)) ?_;have tY:=yk bY;refine bn (n? (by simp only[bQ,aT,aO,gu];omega)) ?_;have RW:bv (aO UInt8) (ec b A N)=ec b A N:=rfl;simp only[RW];refine bg (K1 no _ J) ?_;have CV:gB no (ec b A N)=decide (g2 k l (ec b A N)):=by unfold gB;rw[aK]
 rw[CV];by_cases aC:g2 k l (ec b A N)
 .rw[if_pos aC,decide_eq_true aC];exact b1 rfl
 rw[if_neg aC,decide_eq_false aC];exact ce rfl
def adx{s:V}(R:k<=2)(hf:fY s)(aj:kM k l s.length):g2 k l s:=⟨⟨λ_=>hf,λ_=>Cy hf⟩,aj⟩
def az6{s:V}(hf:fY s)(h:s.length<=3):val s<1000:=by have:=ayr hf;have R:10^s.length<=10^3:=BI J h;omega
def anw(ao:0<dt k)(O:1<=n)(R:(n:Int)<=l):kM k l n:=by
 unfold kM;rw[if_neg]
 .omega
 rintro(rfl|rfl|rfl)<;>exact absurd ao bP
def Z4(ap:kinds k)(ao:¬0<dt k):kM k l n↔(n:Int)=l:=by unfold kM;rcases ap with rfl|rfl|rfl|rfl|rfl|rfl|rfl<;>first|exact absurd bP ao|simp
def ang(no:Int)(b:V)(a:Int)(hl:b.length<=1000000):K2 (no,b,a,())=some (jo no b a):=by
 unfold K2 jo;refine bg (F3 no) ?_;cases aK:fK no with
 |none=>rfl
 |some p=>
  obtain⟨k,l⟩:=p;obtain⟨ap,O,tN,xh⟩:=tJ aK;show _=some (x1 k l b a);unfold x1;by_cases R:a<0
  .refine bg (ce (dj R)) ?_
   simp only[if_pos (Or.inl R:a<0\/(b.length:Int)<a)];rfl
  by_cases af:(b.length:Int)<a
  .refine bg (a:=(true,())) (a1 (c6 R) (qO (dj af))) ?_
   simp only[if_pos (Or.inr af:a<0\/(b.length:Int)<a)];rfl
  refine bg (a:=(false,())) (a1 (c6 R) (qO (c6 af))) ?_;rw[if_neg J];obtain⟨A,rfl⟩:∃n:Nat,a=n:=⟨a.toNat,J⟩;refine bg (ZF ap) ?_;by_cases ao:0<dt k
  .rw[if_pos ao]
   refine bq (dj ao) ?_;refine bg (QP b A (dt k) hl) ?_;have apw:=YN ap;obtain⟨C,cx⟩:∃n:Nat,dt k=n:=⟨(dt k).toNat,J⟩;rw[cx];rcases Bb (b:=b) (I:=A) (N:=C) J J with⟨_,h⟩|⟨_,h,_⟩|⟨s,aq,h,hf,ac,_⟩
   .rw[h];rfl
   .rw[h];rfl
   rw[h];refine bg (FQ s) ?_;rw[if_pos ⟨J,J,hf⟩];by_cases st:(val s:Int)<1
   .refine bg (ce (dj st)) ?_
    simp only[if_pos (Or.inl st:(val s:Int)<1\/l<val s)];rfl
   by_cases GR:l<(val s:Int)
   .refine bg (a:=(true,())) (a1 (c6 st) (qO (dj GR))) ?_
    simp only[if_pos (Or.inr GR:(val s:Int)<1\/l<val s)];rfl
   refine bg (a:=(false,())) (a1 (c6 st) (qO (c6 GR))) ?_;rw[if_neg (show ¬((val s:Int)<1\/l<val s) by omega)];exact ZE aK hl aq ⟨J,J⟩
  rw[if_neg ao];refine a1 (c6 ao) ?_;obtain⟨L,rfl⟩:∃n:Nat,l=n:=⟨l.toNat,J⟩;exact ZE (b:=b) (A:=A) (N:=L) aK hl J ⟨J,J⟩
end Yp
namespace Yp
open Go
def oz:=@List.cons.inj
def D(p:Prop):Bool := @decide p (Classical.propDecidable p)
def oq{p:Prop}:D p=true↔p:=by unfold D;exact @decide_eq_true_iff p (Classical.propDecidable p)
def cF{p:Prop}(h:p):D p=true:=oq.2 h
def cE{p:Prop}(h:¬p):D p=false:=by
 cases e:D p
 .rfl
 exact absurd (oq.1 e) h
def oo{b:Bool}{p:Prop}(h:b=true↔p):b=D p:=pd.2 (h.trans oq.symm)
@[congr] theorem bJ {α β:Type} {o di:Option α} {k:α->Option β} (h:o=di):ob o k=ob di k:=by rw[h]
@[congr] theorem az0 {α:Type} {c cL:Bool} {a b:α} (h:c=cL):T c a b=T cL a b:=by rw[h]
@[congr] theorem ay7 {α:Type} {c cL:Bool} {a:Option α} (h:c=cL):am c a=am cL a:=by rw[h]
@[congr] theorem azN {σ ρ β:Type} {o di:Option (aE σ ρ)} {kn:σ->Option β} {g5:Nat->σ->Option β} {hb:ρ->Option β} (h:o=di):ci o kn g5 hb=ci di kn g5 hb:=by rw[h]
theorem g01{a:α}{k:α->Option β}:ob (some a) k=k a:=rfl
def g02{p:Prop}{a b:α}(h:p):T (D p) a b=a:=ce (cF h)
def g03{p:Prop}{a b:α}(h:¬p):T (D p) a b=b:=b1 (cE h)
def g04{p:Prop}{a:Option α}(h:p):am (D p) a=a:=dR (cF h)
theorem g05{a b:α}:T true a b=a:=rfl
theorem g06{a b:α}:T false a b=b:=rfl
theorem g07{a:Option α}:am true a=a:=rfl
def g08:aJ a b=D (a<b):=oo decide_eq_true_iff
def g09:bE a b=D (a<=b):=oo decide_eq_true_iff
def g10:ag a b=D (a=b):=by unfold ag;exact oo beq_iff_eq
def g11{a b:V}:seq a b=D (a=b):=by unfold seq;exact oo beq_iff_eq
def g12{p:Prop}:a_ (D p)=D (¬p):=by
 by_cases h:p
 .rw[cF h,cE (not_not_intro h)];rfl
 rw[cE h,cF h];rfl
def g13{p q:Prop}:cZ (D p) (D q)=D (p/\q):=oo (by simp[cZ,oq])
def g14{p q:Prop}:l2 (D p) (D q)=D (p\/q):=oo (by simp[l2,oq])
def g15{q:Bool}:T c (some (true,())) (some (q,()))=some (l2 c q,()):=by cases c<;>rfl
def g16{q:Bool}:T c (some (q,())) (some (false,()))=some (cZ c q,()):=by cases c<;>rfl
def g17{d:Bool}{x:Option (Bool×Unit)}:T c (T d x (some (false,()))) (some (false,()))=T (cZ c d) x (some (false,())):=by cases c<;>rfl
def g18{d:Bool}{x:Option (Bool×Unit)}:T c (some (true,())) (T d (some (true,())) x)=T (l2 c d) (some (true,())) x:=by cases c<;>rfl
def g19{c:Int}:ca a b c=D (0<=a/\a<=b/\b<=c):=oo (by simp[ca,and_assoc])
def g20:aU a b=D (0<=a/\a<b):=oo (by simp[aU])
def g21{c:Nat}:cB c n=D (n*c<=140737488355328):=oo decide_eq_true_iff
theorem g22{l:List α}:len l=(l.length:Int):=rfl
theorem g23{l:List α}:aT l=l.length:=rfl
theorem g24{a b:Nat}:bQ a b=a+b:=rfl
theorem g25{a b:List α}:bv a b=a++b:=rfl
theorem g26:aO α=[]:=rfl
def g27{n:Int}(h : -9223372036854775808<=n/\n<=9223372036854775807):i64 n=n:=hM h.1 h.2
theorem g28:av a b=a+b:=rfl
theorem g29:bi a b=a-b:=rfl
theorem g30:e_ a b=a*b:=rfl
def g31(h:0<=a):fe a b=a/b:=by simp only[fe];exact Int.tdiv_eq_ediv_of_nonneg h
def g32(h:0<=a):dh a b=a%b:=by simp only[dh];exact Int.tmod_eq_emod_of_nonneg h
theorem g33:aa a=a.toNat:=rfl
theorem g34{a:Nat}:bf a=(a:Int):=rfl
theorem g35{a b:Nat}:cd a b=a-b:=rfl
theorem g36:cZ true c=c:=rfl
def g37:cZ c true=c:=by cases c<;>rfl
theorem g38:l2 false c=c:=rfl
def g39:l2 c false=c:=by cases c<;>rfl
def g40:a_ (a_ c)=c:=by cases c<;>rfl
theorem g41:a_ true=false:=rfl
theorem g42:a_ false=true:=rfl
def g43{a b:Bool}:y9 a b=D (a=b):=oo (by unfold y9;exact beq_iff_eq)
theorem g44:cZ false c=false:=rfl
def g45:cZ c false=false:=by cases c<;>rfl
theorem g46:l2 true c=true:=rfl
def g47:l2 c true=true:=by cases c<;>rfl
theorem g48{k:α->Option β}:ob none k=none:=rfl
def g49{p q:Prop}:(D p=D q)=(p↔q):=by refine propext ⟨λh=>oq.symm.trans ((pd.1 h).trans oq),λh=>pd.2 (oq.trans (h.trans oq.symm))⟩
def g50{a:α}:T c a a=a:=by cases c<;>rfl
def g51{p:Prop}[Decidable p]:decide p=D p:=oo decide_eq_true_iff
def g52:D True=true:=cF trivial
def g53:D False=false:=cE not_false
def g54{p:Prop}:(D p=true)=p:=propext oq
def g55{p:Prop}:(D p=false)=¬p:=by refine propext ⟨λh hp => ?_,cE⟩;rw[cF hp]at h;cases h
def g56{p:Prop}:(true=D p)=p:=propext ⟨λh=>oq.1 h.symm,λh=>(oq.2 h).symm⟩
def g57:fC a b=min a b:=by unfold fC;split<;>omega
def g58:cU a b=max a b:=by unfold cU;split<;>omega
theorem La{a:UInt8}:aI a=(a.toNat:Int):=rfl
theorem g60{a:UInt16}:HH a=(a.toNat:Int):=rfl
def g61(h:0<=a/\a<256):aI (u8 a)=a:=by obtain⟨n,rfl⟩:∃n:Nat,a=n:=⟨a.toNat,J⟩;exact atn J
theorem lc_nx{y:σ}{kn:σ->Option β}{g5:Nat->σ->Option β}{hb:ρ->Option β}:ci (some (.nx y)) kn g5 hb=kn y:=rfl
def Ef{p:Prop}(h:p):some (D p,())=some (true,()):=by rw[cF h]
def U4{p:Prop}(h:¬p):some (D p,())=some (false,()):=by rw[cE h]
def pZ{p q:Prop}(h:p↔q):some (D p,())=some (D q,()):=by rw[show p=q from propext h]
theorem lc_rt'{r:ρ}{kn:σ->Option β}{g5:Nat->σ->Option β}{hb:ρ->Option β}:ci (some (.rt r)) kn g5 hb=hb r:=rfl
theorem lc_ex'{y:σ}{k:Nat}{kn:σ->Option β}{g5:Nat->σ->Option β}{hb:ρ->Option β}:ci (some (.ex k y)) kn g5 hb=g5 k y:=rfl
def g62{k:Nat}:bZ k k=true:=by simp[bZ]
def g63:aa (n:Int)=n:=he
theorem g64:((1:Nat):Int)=1:=rfl
theorem g65:((0:Nat):Int)=0:=rfl
def g66{p:Prop}:(false=D p)=¬p:=propext ⟨λh=>g55.mp h.symm,λh=>(cE h).symm⟩
def n5{β σ ρ:Type}(mk:β->Nat->σ)(i:Nat):aE β ρ->aE σ ρ
 |.nx b=>.nx (mk b (i+1))|.ex k b=>.ex k (mk b i)|.rt r=>.rt r
def jj{α β σ ρ:Type}(mk:β->Nat->σ)(e:Nat)(step:β->α->aE β ρ):β->Nat->List α->aE σ ρ
 |b,i,[]=>.ex e (mk b i)
 |b,i,x::r=>match step b x with
  |.nx b'=>jj mk e step b' (i+1) r
  |.ex k b'=>.ex k (mk b' i)
  |.rt q=>.rt q
def vK{f:σ->Option (aE σ ρ)}(l:List α)(mk:β->Nat->σ)(e:Nat)(step:β->α->aE β ρ)(I:β->Nat->Prop)
  (ac:∀b i (h:i<l.length),I b i->f (mk b i)=some (n5 mk i (step b l[i]))/\∀b',step b l[i]=.nx b'->I b' (i+1))
  (aA:∀b,I b l.length->f (mk b l.length)=some (.ex e (mk b l.length))) (eh:β) (ao:I eh 0):bN f (mk eh 0)=some (jj mk e step eh 0 l):=by
 have key:∀(r:List α) (i:Nat) (b:β),l.drop i=r->i<=l.length->I b i->bN f (mk b i)=some (jj mk e step b i r):=by
  intro r;induction r with
  |nil =>intro i b ah hi eo;have hl:=congrArg List.length ah;rw[e?,gu]at hl;have:i=l.length:=J;subst this;exact d_ (aA b eo)
  |cons x r ih=>
   intro i b ah hi eo;have hl:=congrArg List.length ah;rw[e?,ew]at hl;have bm:i<l.length:=J;have hx:l[i]=x/\l.drop (i+1)=r:=by rw[m2 bm]at ah;exact⟨(oz ah).1,(oz ah).2⟩
   obtain⟨O,R⟩:=ac b i bm eo;rw[hx.1]at O R;unfold jj;cases eL:step b x with
   |nx b'=>rw[eL]at O;rw[ez O];exact ih (i+1) b' hx.2 bm (R b' eL)
   |ex k b'=>rw[eL]at O;exact d_ O
   |rt q=>rw[eL]at O;exact pO O
 exact key l 0 eh rfl (fI _) ao
attribute [go_sem ↓] g02 g03 g04 g05 g06
attribute [go_sem] g01 g02 g03 g04 g05 g06 g07 g08 g09 g10 g11 g12 g13 g14 g15 g16 g17 g18 g19 g20 g21 g22 g23 g24 g25 g26 g27 g28 g29 g30 g31 g32 g34 g35 g36 g37 g38 g39 g40 g41 g42 g43 g44 g45 g46 g47 g48 g49 g50 g51 g52 g53 g54 g55 g56 g57 g58 g60 g61 not_true_eq_false not_false_eq_true List.nil_append List.append_nil List.length_nil and_true true_and or_true true_or or_false false_or and_false false_and if_true if_false lc_rt' lc_ex' lc_nx g62 g63 Int.toNat_natCast Int.natCast_add nth_get g33 g64 g65 Int.toNat_zero Bool.false_eq_true g66
end Yp
namespace Yp
open Go
def Cp{b x q:V}(dn:A<=b.length)(h:b.drop A=x++q):A+x.length<=b.length/\b.drop (A+x.length)=q:=by have:=Zc dn h;rw[cG]at this;refine⟨J,?_⟩;rw[<- qX,h,E5]
def aeM{b v q:V}(dn:A<=b.length)(aC:g2 k l v)(tN:v.length<=400)(h:b.drop A=body k v++q):x0 k l b A v.length=(v,((A+(body k v).length:Nat):Int),0,()):=by
 have hl:=(Cp dn h).1;unfold x0;by_cases R:k<=2
 .have Y:body k v=f9 (er v):=by unfold body;rw[if_pos R]
  rw[Y]at h ⊢;rw[if_pos R,VA dn J (aC.1.1 R) h,r6];rfl
 have Y:body k v=v:=by unfold body;rw[if_neg R]
 have ht:=ahb h
 grind
def aeN{b v:V}{N:Nat}{I:Int}(dn:A<=b.length)(fM:N<=400)(h:x0 k l b A N=(v,I,0,())):
  v.length=N/\(k<=2->fY v)/\(¬k<=2->g2 k l v)/\I=((A+(body k v).length:Nat):Int)/\A+(body k v).length<=b.length/\ec b A (body k v).length=body k v:=by
 unfold x0 at h;by_cases R:k<=2
 .rw[if_pos R]at h
  rcases Bb dn (show N<=999 by omega) with⟨_,e⟩|⟨_,e,_⟩|⟨s,af,e,hf,ac,ht⟩
  .grind
  .grind
  rw[e]at h;have Y:body k s=f9 (er s):=by unfold body;rw[if_pos R]
  have dD:(f9 (er s)).length=(N+1)/2:=by rw[r6,ac]
  grind
 rw[if_neg R]at h;by_cases af:(b.length:Int)-A<N
 .grind
 simp at h;by_cases aq:g2 k l (ec b A N)
 .rw[if_pos aq]at h
  have hl:=yk (show A+N<=b.length by omega);have Y:body k (ec b A N)=ec b A N:=by unfold body;rw[if_neg R]
  grind
 grind
def abh(ao:0<dt k):g4 k n=f9 (er (aZ 10 dI n (dt k).toNat)):=by unfold g4;rw[if_pos ao]
def abg(ao:¬0<dt k):g4 k n=[]:=by unfold g4;rw[if_neg ao]
def apD:(g4 k n).length=if 0<dt k then((dt k).toNat+1)/2 else 0:=by
 unfold g4;split
 .rw[r6,lm]
 rfl
def Wb{v:V}(ap:kinds k):(kY k v).length=(if k=2\/k=4 then 1 else if k=5\/k=7 then 2 else 0)+(if k<=2 then(v.length+1)/2 else v.length):=by unfold kY;rw[cG,y',apD];rcases ap with rfl|rfl|rfl|rfl|rfl|rfl|rfl<;>rfl
def Ro{v:V}(aK:fK no=some (k,l))(aC:g2 k l v):1<=v.length/\(v.length:Int)<=l/\v.length<=400:=by
 obtain⟨ap,O,tN,_⟩:=tJ aK;have:=aC.2;unfold kM at this
 grind
def avz{b v q:V}(aK:fK no=some (k,l))(dn:A<=b.length)(aC:g2 k l v)(h:b.drop A=kY k v++q):x1 k l b A=(v,((A+(kY k v).length:Nat):Int),0,()):=by
 obtain⟨ap,O,tN,xh⟩:=tJ aK;obtain⟨xs,C4,ab3⟩:=Ro aK aC;unfold x1;unfold kY at h ⊢;by_cases ao:0<dt k
 .rw[if_pos ao]
  obtain⟨c1,c2,hw⟩:=YM ap xh tN aC ao;rw[abh ao]at h ⊢;rw[gt]at h;have hp:=VA (s:=aZ 10 dI v.length (dt k).toNat) dn (by rw[lm];omega) zp h;rw[lm,Int.toNat_of_nonneg J]at hp;rw[hp];have lg:val (aZ 10 dI v.length (dt k).toNat)=v.length:=by
   rw[N7,lY]
   grind
  simp only[if_pos];rw[lg,if_neg J];have aF:=Cp dn h;rw[r6,lm]at aF;rw[aeM aF.1 aC ab3 aF.2,cG,r6,lm]
  grind
 rw[if_neg ao];have hl:=(Z4 ap ao).1 aC.2;rw[abg ao]at h ⊢;have:=aeM dn aC ab3 h
 grind
def avA{b v:V}{I:Int}(aK:fK no=some (k,l))(dn:A<=b.length)(h:x1 k l b A=(v,I,0,())):
  g2 k l v/\I=((A+(kY k v).length:Nat):Int)/\A+(kY k v).length<=b.length/\b.drop A=kY k v++b.drop (A+(kY k v).length):=by
 obtain⟨ap,O,tN,xh⟩:=tJ aK;unfold x1 at h;rw[if_neg J]at h;by_cases ao:0<dt k
 .rw[if_pos ao]at h
  have apw:=YN ap;obtain⟨C,cx⟩:∃n:Nat,dt k=n:=⟨(dt k).toNat,J⟩;rw[cx]at h;rcases Bb dn (show C<=999 by omega) with⟨_,e⟩|⟨_,e,_⟩|⟨s,af,e,hf,ac,ht⟩
  .grind
  .grind
  rw[e]at h;simp at h;by_cases hm:(val s:Int)<1\/l<val s
  .grind
  rw[if_neg hm]at h;obtain⟨e1,aN,dJ,gQ,oJ,KJ⟩:=aeN af J h;have oN:g2 k l v:=by
   by_cases R:k<=2
   .exact adx R (aN R) (anw ao J J)
   grind
  have hh:g4 k v.length=f9 (er s):=by rw[abh ao,e1,cx,i0,<- ac,aew hf]
  have CW:(g4 k v.length).length=(C+1)/2:=by rw[hh,r6,ac]
  refine⟨oN,?_,?_,?_⟩
  .rw[gQ];unfold kY;rw[cG,CW];omega
  .unfold kY;rw[cG,CW];omega
  unfold kY;rw[cG,CW,<- jv,gt,<- KG KJ,hh];exact KG ht
 rw[if_neg ao]at h;obtain⟨L,hL⟩:∃n:Nat,l=n:=⟨l.toNat,J⟩;rw[hL]at h;obtain⟨e1,aN,dJ,gQ,oJ,KJ⟩:=aeN dn J h;rw[<- hL]at dJ;have oN:g2 k l v:=by
  by_cases R:k<=2
  .exact adx R (aN R) ((Z4 ap ao).2 J)
  exact dJ R
 refine⟨oN,?_,?_,?_⟩<;>unfold kY<;>rw[abg ao]
 .exact gQ
 .exact oJ
 exact KG KJ
def ayM{v:V}(ap:kinds k)(h:v.length<=400):(kY k v).length<=402:=by
 rw[Wb ap];repeat' split
 all_goals omega
def ayN{v:V}(ap:kinds k)(h:1<=v.length):1<=(kY k v).length:=by
 rw[Wb ap];repeat' split
 all_goals omega
def JN:=@Bool.false_and
abbrev b0:=Int×V×Unit
abbrev M:=Int×List b0×Unit
def ig(m:Int):Prop:=100<=m/\m<=899/\m/10%10<=4/\m%10<=5
instance (m:Int):Decidable (ig m):=inferInstanceAs (Decidable (_/\_))
def Hf(m:Int)(n:Nat)(aj:n<=3)(ao:0<=m)(h:m<=9223372036854775807):t2 (m,(n:Int),())=some (m/10^n%10,()):=by
 unfold t2;generalize hf:(λ(ab:Int×Int×Unit)=>_)=f;have step:∀(k:Int) (i:Nat),i<n->0<=k->k<=9223372036854775807->f (k,(i:Int),())=some (.nx (k/10,((i+1:Nat):Int),())):=λk i hi ao O=>by subst hf;simp(disch:=omega) only[go_sem]
 have last:∀(k:Int),f (k,(n:Int),())=some (.ex 0 (k,(n:Int),())):=λk=>by subst hf;simp(disch:=omega) only[go_sem]
 have aj:n=0\/n=1\/n=2\/n=3:=J;have e:bN f (m,((0:Nat):Int),())=some (.ex 0 (m/10^n,(n:Int),())):=by
  rcases aj with rfl|rfl|rfl|rfl
  .rw[d_ (last m)];simp
  .rw[ez (step m 0 J ao h),d_ (last _)];simp
  .rw[ez (step m 0 J ao h),ez (step _ 1 J J J),d_ (last _)];simp;omega
  rw[ez (step m 0 J ao h),ez (step _ 1 J J J),ez (step _ 2 J J J),d_ (last _)];simp;omega
 refine(da e).trans ?_;have:0<=m/10^n:=by rcases aj with rfl|rfl|rfl|rfl<;>simp<;>omega
 simp(disch:=omega) only[go_sem]
def z?(m:Int):z_ (m,())=some (D (ig m),()):=by
 unfold z_;by_cases h:m<0\/999<m
 .have aj:¬ig m:=by unfold ig;omega
  simp(disch:=omega) only[go_sem,aj]
 have ao:=Hf m 0 J J J;have O:=Hf m 1 J J J;have R:=Hf m 2 J J J;simp at ao O R;simp(disch:=omega) only[go_sem,ao,O,R];exact pZ (by unfold ig;omega)
def fD:Int->List b0->Bool
 |_,[]=>true
 |last,v::r=>decide (last<v.1)&&(gB v.1 v.2.1&&fD v.1 r)
def jJ(m:M):Bool:=fD 0 m.2.1&&decide (ig m.1)
def w?(m:M):Prop:=m.2.1.length<=1000/\∀v∈m.2.1,v.2.1.length<=1000000
def w?.ak{m:M}(h:w? m)(hi:i<m.2.1.length):(m.2.1[i]).2.1.length<=1000000:=h.2 _ (mu hi)
def x_(last:Int)(v:b0):aE Int (Bool×Unit):=if last<v.1/\gB v.1 v.2.1=true then .nx v.1 else .rt (false,())
def Z8{σ:Type}{mk:Int->Nat->σ}{e:Nat}:∀(l:List b0) (last:Int) (i:Nat),(fD last l=true/\∃y,jj mk e x_ last i l=.ex e y)\/(fD last l=false/\jj mk e x_ last i l=.rt (false,()))
 |[],last,i=>.inl ⟨rfl,_,rfl⟩
 |v::r,last,i=>by
  by_cases h:last<v.1/\gB v.1 v.2.1=true
  .have ac:x_ last v=.nx v.1:=if_pos h
   have:=Z8 (mk:=mk) (e:=e) r v.1 (i+1);simp only[jj,ac,fD,h.1,h.2];exact this
  have ac:x_ last v=.rt (false,()):=if_neg h;refine .inr ⟨?_,by simp only[jj,ac]⟩;simp only[fD,Bool.and_eq_false_iff,decide_eq_false_iff_not]
  grind
def asa(m:M)(hm:w? m):LX (m,())=some (jJ m,()):=by
 unfold LX;generalize hf:(λ(ab:Bool×Int×Int×Unit)=>_)=f;have hl:=hm.1;have key:=vK (f:=f) m.2.1 (λlast i=>(false,last,(i:Int),())) 0 x_ (λ_ _=>True) (λb i h _=>⟨?_,λ_ _=>trivial⟩) (λb _ => ?_) 0 trivial
 .refine(da key).trans ?_
  unfold jJ;rcases Z8 (mk:=λlast i=>((false,last,(i:Int),()):Bool×Int×Int×Unit)) (e:=0) m.2.1 0 0 with⟨O,y,R⟩|⟨O,R⟩
  .rw[O,R];simp only[go_sem,z?,OP]
  rw[O,R];simp only[go_sem,JN]
 .subst hf
  have:=hm.ak h;have CV:=K1 (m.2.1[i]).1 (m.2.1[i]).2.1 this;by_cases O:m.2.1[i].1<=b
  .have ac:x_ b m.2.1[i]=.rt (false,()):=if_neg λai=>J
   simp(disch:=omega) only[go_sem,ac,n5]
  cases R:gB (m.2.1[i]).1 (m.2.1[i]).2.1
  .have ac:x_ b m.2.1[i]=.rt (false,()):=if_neg λai=>by rw[R]at ai;exact absurd ai.2 bh
   simp(disch:=omega) only[go_sem,CV,R,ac,n5]
  have ac:x_ b m.2.1[i]=.nx m.2.1[i].1:=if_pos ⟨J,R⟩;simp(disch:=omega) only[go_sem,CV,R,ac,n5]
 subst hf;simp(disch:=omega) only[go_sem]
def ar8(m:Int):Hd (m,())=some (if ig m then m/100 else 0,()):=by
 unfold Hd;by_cases h:ig m
 .have Y:=h
  unfold ig at Y;have R:=Hf m 2 J J J;simp at R;simp only[go_sem,z?,h,R]
  grind
 simp only[go_sem,z?,h]
def sU(m:Int):Int×Bool×Unit:=if ig m/\(m/10%10=0\/m/10%10=2) then(m+10,true,()) else(0,false,())
def asc(m:Int):∃y,t2 (m,1,())=some (y,()):=by
 unfold t2;generalize hf:(λ(ab:Int×Int×Unit)=>_)=f;have step:∀(k:Int),f (k,(0:Int),())=some (.nx (i64 (fe k 10),(1:Int),())):=λk=>by subst hf;simp(disch:=omega) only[go_sem];rfl
 have last:∀(k:Int),f (k,(1:Int),())=some (.ex 0 (k,(1:Int),())):=λk=>by subst hf;simp(disch:=omega) only[go_sem]
 refine⟨dh (i64 (fe m 10)) 10,(da ((ez (step m)).trans (d_ (last _)))).trans ?_⟩;rfl
def ar9(m:Int):LW (m,())=some (sU m):=by
 unfold LW;by_cases h:ig m
 .have Y:=h
  unfold ig at Y;have O:=Hf m 1 J J J;simp at O;unfold sU;by_cases R:m/10%10=0\/m/10%10=2
  .simp(disch:=omega) only[go_sem,z?,h,O,R]
  simp(disch:=omega) only[go_sem,z?,h,O,R]
 obtain⟨y,O⟩:=asc m;unfold sU;simp only[go_sem,z?,h,O]
def PM(a b:V):Cb (a,b,())=some (D (a=b),()):=by unfold Cb;simp only[go_sem]
def act(a b:b0):LY (a,b,())=some (D (a=b),()):=by unfold LY;simp only[go_sem,PM];obtain⟨cI,cR,⟨⟩⟩:=a;obtain⟨eS,ei,⟨⟩⟩:=b;simp
def A1(b:Unit)(p:b0×b0):aE Unit (Bool×Unit):=if p.1=p.2 then .nx () else .rt (false,())
def Z_{σ:Type}{mk:Unit->Nat->σ}{e:Nat}:∀(l:List (b0×b0)) (i:Nat),((∀p∈l,p.1=p.2)/\∃y,jj mk e A1 () i l=.ex e y)\/((¬∀p∈l,p.1=p.2)/\jj mk e A1 () i l=.rt (false,()))
 |[],i=>.inl ⟨bh,_,rfl⟩
 |p::r,i=>by
  by_cases h:p.1=p.2
  .have ac:A1 () p=.nx ():=if_pos h
   have:=Z_ (mk:=mk) (e:=e) r (i+1);simp only[jj,ac,gE,forall_eq_or_imp,h,true_and];exact this
  have ac:A1 () p=.rt (false,()):=if_neg h;refine .inr ⟨λai=>h (ai p bh),by simp only[jj,ac]⟩
def Wp{α:Type}:∀{a b:List α},a.length=b.length->((∀p∈a.zip b,p.1=p.2)↔a=b)
 |[],[],_=>bh
 |x::a,y::b,h=>by have:=Wp (a:=a) (b:=b) (by grind);simp only[List.zip_cons_cons,gE,forall_eq_or_imp,yU];rw[this]
def ah4(a b:List b0)(hl:a.length<=1000000):NK (a,b,1,())=some (D (a=b),()):=by
 unfold NK;by_cases h:a.length=b.length
 .generalize hf:(λ(ab:Bool×Int×Unit)=>_)=f
  have bj:(a.zip b).length=a.length:=by simp[h]
  have key:=vK (f:=f) (a.zip b) (λ(_:Unit) i=>(false,(i:Int),())) 0 A1 (λ_ _=>True) (λ_ i hi _=>⟨?_,λ_ _=>trivial⟩) (λ_ _ => ?_) () trivial
  .refine a1 ?_ ((da key).trans ?_)
   .simp only[go_sem,h]
   rcases Z_ (mk:=λ_ i=>((false,(i:Int),()):Bool×Int×Unit)) (e:=0) (a.zip b) 0 with⟨O,y,R⟩|⟨O,R⟩
   .rw[Wp h]at O;rw[R];simp only[go_sem,O]
   rw[Wp h]at O;rw[R];simp only[go_sem,O]
  .subst hf
   simp;by_cases hx:a[i]=b[i]
   .have ac:A1 () (b[i],b[i])=.nx ():=if_pos rfl
    simp(disch:=omega) only[go_sem,act,ac,n5,hx]
   have ac:A1 () (a[i],b[i])=.rt (false,()):=if_neg hx;simp(disch:=omega) only[go_sem,act,ac,n5,hx]
  subst hf;simp(disch:=omega) only[go_sem,bj]
 have aj:¬a=b:=λe=>h (by rw[e]);simp(disch:=omega) only[go_sem,aj]
def aiq{a b:M}:a=b↔a.1=b.1/\a.2.1=b.2.1:=by grind
def asb(a b:M)(hl:a.2.1.length<=1000000):He (a,b,())=some (D (a=b),()):=by unfold He;simp(disch:=omega) only[go_sem,ah4];exact pZ aiq.symm
abbrev N:=Bool×Int×Int×Int×Int×V×V×Int×Unit
def pM(c:Int):Prop:=c=1\/c=2\/c=101\/c=201\/c=301
instance (c:Int):Decidable (pM c):=by unfold pM;infer_instance
def Hm(n:N):Prop:=
 if n.1=true/\n.2.1=101 then 1<=n.2.2.2.2.1/\n.2.2.2.2.1<=2147483647/\n.2.2.2.2.2.1.length=8/\n.2.2.2.2.2.2.1.length=3/\n.2.2.2.2.2.2.2.1=0
 else n.2.2.2.2.1=0/\n.2.2.2.2.2.1=[]/\n.2.2.2.2.2.2.1=[]/\(if n.1=true/\n.2.1=201 then 0<=n.2.2.2.2.2.2.2.1/\n.2.2.2.2.2.2.2.1<=999999 else n.2.2.2.2.2.2.2.1=0)
instance (n:N):Decidable (Hm n):=by unfold Hm;infer_instance
def i?(n:N):Prop:=pM n.2.1/\1<=n.2.2.1/\n.2.2.1<=999999/\0<=n.2.2.2.1/\n.2.2.2.1<=99/\(n.1=true->n.2.2.2.1=0)/\Hm n
instance (n:N):Decidable (i? n):=by unfold i?;infer_instance
def U3{p q:Prop}(h:p↔q):(some (D p,()):Option (Bool×Unit))=some (D q,()):=by rw[show p=q from propext h]
def agA{q:Prop}(h:¬q):(some (false,()):Option (Bool×Unit))=some (D q,()):=by rw[cE h]
def azP{l:List α}:((l.length:Int)=0)↔l=[]:=by rw[<- k3];omega
def uu{jZ:Bool}{c cJ rs g:Int}{no k:V}{d:Int}:i? (jZ,c,cJ,rs,g,no,k,d,())↔(pM c/\1<=cJ/\cJ<=999999/\0<=rs/\rs<=99/\(jZ=true->rs=0) /\
  (if jZ=true/\c=101 then 1<=g/\g<=2147483647/\no.length=8/\k.length=3/\d=0 else g=0/\(no.length:Int)=0/\(k.length:Int)=0/\(if jZ=true/\c=201 then 0<=d/\d<=999999 else d=0))):=by
 unfold i? Hm;simp
def awR{p:Prop}{x y z:α}(O:p->x=z)(R:¬p->y=z):T (D p) x y=z:=by
 by_cases h:p
 .rw[cF h];exact O h
 rw[cE h];exact R h
def TC(n:N):HM (n,())=some (D (i? n),()):=by
 obtain⟨jZ,c,cJ,rs,g,no,k,d,⟨⟩⟩:=n;unfold HM TF TE TD Mt TG;simp only[go_sem];rw[show l2 (D (((cJ<1\/999999<cJ)\/rs<0)\/99<rs)) (cZ jZ (D (0<rs)))=D ((((cJ<1\/999999<cJ)\/rs<0)\/99<rs)\/(jZ=true/\0<rs)) from oo (by simp[l2,cZ,oq])];refine awR (λh=>agA λah => ?_) λh => ?_
 .simp only[uu]at ah;grind
 rw[show cZ (D (c=101)) jZ=D (c=101/\jZ=true) from oo (by simp[cZ,oq]),show cZ (D (c=201)) jZ=D (c=201/\jZ=true) from oo (by simp[cZ,oq])];by_cases O:c=101/\jZ=true
 .simp only[go_sem,O,cF O]
  refine U3 ?_;simp only[uu,pM];grind
 by_cases R:c=201/\jZ=true
 .simp only[go_sem,cE O,cF R]
  refine U3 ?_;simp only[uu,pM];grind
 by_cases af:(((c=1\/c=2)\/c=101)\/c=201)\/c=301
 .simp only[go_sem,cE O,cE R,cF af]
  refine U3 ?_;simp only[uu,pM];grind
 simp only[go_sem,cE O,cE R,cE af];refine agA λah => ?_;simp only[uu,pM]at ah;grind
def yT:=@Bool.not_eq_true
def BW:=@List.take_zero
def Jy:=@Bool.or_false
def vN(g:Nat->Bool):UInt8:=UInt8.ofNat ((g 0).toNat*128+(g 1).toNat*64+(g 2).toNat*32+(g 3).toNat*16+(g 4).toNat*8+(g 5).toNat*4+(g 6).toNat*2+(g 7).toNat)
def ajN:∀eh eS ei jy nM qd r5 b7:Bool,bt (UInt8.ofNat (eh.toNat*128+eS.toNat*64+ei.toNat*32+jy.toNat*16+nM.toNat*8+qd.toNat*4+r5.toNat*2+b7.toNat)) 0=eh /\
  bt (UInt8.ofNat (eh.toNat*128+eS.toNat*64+ei.toNat*32+jy.toNat*16+nM.toNat*8+qd.toNat*4+r5.toNat*2+b7.toNat)) 1=eS/\bt (UInt8.ofNat (eh.toNat*128+eS.toNat*64+ei.toNat*32+jy.toNat*16+nM.toNat*8+qd.toNat*4+r5.toNat*2+b7.toNat)) 2=ei /\
  bt (UInt8.ofNat (eh.toNat*128+eS.toNat*64+ei.toNat*32+jy.toNat*16+nM.toNat*8+qd.toNat*4+r5.toNat*2+b7.toNat)) 3=jy/\bt (UInt8.ofNat (eh.toNat*128+eS.toNat*64+ei.toNat*32+jy.toNat*16+nM.toNat*8+qd.toNat*4+r5.toNat*2+b7.toNat)) 4=nM /\
  bt (UInt8.ofNat (eh.toNat*128+eS.toNat*64+ei.toNat*32+jy.toNat*16+nM.toNat*8+qd.toNat*4+r5.toNat*2+b7.toNat)) 5=qd/\bt (UInt8.ofNat (eh.toNat*128+eS.toNat*64+ei.toNat*32+jy.toNat*16+nM.toNat*8+qd.toNat*4+r5.toNat*2+b7.toNat)) 6=r5 /\
  bt (UInt8.ofNat (eh.toNat*128+eS.toNat*64+ei.toNat*32+jy.toNat*16+nM.toNat*8+qd.toNat*4+r5.toNat*2+b7.toNat)) 7=b7:=iL
def Ke{g:Nat->Bool}{t:Nat}(ht:t<8):bt (vN g) t=g t:=by obtain⟨ao,O,R,af,aq,a8,cT,dN⟩:=ajN (g 0) (g 1) (g 2) (g 3) (g 4) (g 5) (g 6) (g 7);have:t=0\/t=1\/t=2\/t=3\/t=4\/t=5\/t=6\/t=7:=J;rcases this with rfl|rfl|rfl|rfl|rfl|rfl|rfl|rfl<;>assumption
def ac4:∀c:UInt8,vN (bt c)=c:=tv iL
def Xu{c d:UInt8}(h:∀t,t<8->bt c t=bt d t):c=d:=by rw[<- ac4 c,<- ac4 d];unfold vN;rw[h 0 J,h 1 J,h 2 J,h 3 J,h 4 J,h 5 J,h 6 J,h 7 J]
def ac5{g h:Nat->Bool}(e:∀t,t<8->g t=h t):vN g=vN h:=Xu λt ht=>by rw[Ke ht,Ke ht,e t ht]
def y_(t:Nat):UInt8:=UInt8.ofNat (2^(7-t))
def ajy:∀t:Nat,t<8->u8 (fp .u8 128 (t:Int))=y_ t:=iL
def auo:∀c:UInt8,∀t:Nat,t<8->u8 (gM .u8 (aI c) (aI (y_ t)))=vN λs=>bt c s||Nat.beq s t:=tv iL
def Xe(O:1<=n)(R:n<=128):tz ((n:Int),())=some ((((n-1)/8:Nat):Int),y_ ((n-1)%8),()):=by unfold tz;simp(disch:=omega) only[go_sem];have e1:((n:Int)-1)/8=(((n-1)/8:Nat):Int):=J;have aN:((n:Int)-1)%8=(((n-1)%8:Nat):Int):=J;rw[e1,aN,<- ajy _ J]
def h7:Int->List Int->Bool
 |_,[]=>true
 |last,n::r=>decide (last<n/\n<=128/\n≠65)&&h7 n r
def AX(last n:Int):aE Int (Bool×Unit):=if last<n/\n<=128/\n≠65 then .nx n else .rt (false,())
def Z9{σ:Type}{mk:Int->Nat->σ}{e:Nat}:∀(l:List Int) (last:Int) (i:Nat),(h7 last l=true/\∃y,jj mk e AX last i l=.ex e y)\/(h7 last l=false/\jj mk e AX last i l=.rt (false,()))
 |[],last,i=>.inl ⟨rfl,_,rfl⟩
 |n::r,last,i=>by
  by_cases h:last<n/\n<=128/\n≠65
  .have ac:AX last n=.nx n:=if_pos h
   have:=Z9 (mk:=mk) (e:=e) r n (i+1);simp only[jj,ac,h7,decide_eq_true h];exact this
  have ac:AX last n=.rt (false,()):=if_neg h;refine .inr ⟨?_,by simp only[jj,ac]⟩;simp only[h7,decide_eq_false h,JN]
def PA(l:List Int)(hl:l.length<=1000000):Kb (l,())=some (h7 1 l,()):=by
 unfold Kb;generalize hf:(λ(ab:Bool×Int×Int×Unit)=>_)=f;have key:=vK (f:=f) l (λlast i=>(false,last,(i:Int),())) 0 AX (λ_ _=>True) (λb i h _=>⟨?_,λ_ _=>trivial⟩) (λb _ => ?_) 1 trivial
 .refine(da key).trans ?_
  rcases Z9 (mk:=λlast i=>((false,last,(i:Int),()):Bool×Int×Int×Unit)) (e:=0) l 1 0 with⟨O,y,R⟩|⟨O,R⟩
  .rw[O,R];simp only[go_sem]
  rw[O,R];simp only[go_sem]
 .subst hf
  by_cases O:b<l[i]/\l[i]<=128/\l[i]≠65
  .have ac:AX b l[i]=.nx l[i]:=if_pos O
   simp(disch:=omega) only[go_sem,ac,n5]
  have ac:AX b l[i]=.rt (false,()):=if_neg O;simp(disch:=omega) only[go_sem,ac,n5]
 subst hf;simp(disch:=omega) only[go_sem]
def h8(size:Nat)(S:Nat->Bool):V:=(List.range size).map λj=>vN λt=>S (8*j+t+1)
def DY{S:Nat->Bool}:(h8 size S).length=size:=by simp[h8]
def afb{S:Nat->Bool}{j:Nat}(h:j<size):ak (h8 size S) j (u8 0)=vN λt=>S (8*j+t+1):=by rw[nth_get (by rw[DY];exact h)];simp[h8]
def Ls{S:Nat->Bool}(O:1<=n)(R:n<=8*size):iA (h8 size S) n=S n:=by unfold iA;rw[afb J,Ke J];congr 1;omega
def afd{a b:V}(hl:a.length=b.length)(h:∀n,1<=n->n<=8*a.length->iA a n=iA b n):a=b:=by refine th hl λj O R=>Xu λt ht => ?_;have:=h (8*j+t+1) J J;unfold iA at this;rw[show(8*j+t+1-1)/8=j by omega,show(8*j+t+1-1)%8=t by omega,nth_get O,nth_get R]at this;exact this
def awo{S WK:Nat->Bool}(h:∀n,1<=n->n<=8*size->S n=WK n):h8 size S=h8 size WK:=afd (by rw[DY,DY]) λn O R=>by rw[DY]at R;rw[Ls O R,Ls O R,h n O R]
def av0(size:Nat):bO size (u8 0)=h8 size λ_=>false:=by refine th (by simp[bO,h8]) λj O R => ?_;simp only[bO,List.getElem_replicate,h8,wA];decide
def D_(S:Nat->Bool)(n:Nat):Nat->Bool:=λm=>S m||Nat.beq m n
def aw0{S:Nat->Bool}(O:1<=n)(R:n<=8*size){c:UInt8}(ai:c=vN λs=>bt (ak (h8 size S) ((n-1)/8) (u8 0)) s||Nat.beq s ((n-1)%8)):cj (h8 size S) ((n-1)/8) c=h8 size (D_ S n):=by
 refine th (by simp[cj,h8]) λj af aq => ?_;have hg:=afb (S:=S) (show(n-1)/8<size by omega);simp only[cj,OI];split
 .rename_i an
  subst an;rw[ai,hg];simp only[h8,wA,yP];refine ac5 λt ht => ?_;rw[Ke ht];unfold D_;congr 1;refine pd.2 ?_;simp;omega
 rename_i an;simp only[h8,wA,yP];refine ac5 λt ht => ?_;unfold D_;have:Nat.beq (8*j+t+1) n=false:=by refine(yT _).mp λY=>an ?_;have:=fy Y;omega
 rw[this,Jy]
def lW(l:List Int):Bool:=decide (0<l.length)&&decide (64<ak l (l.length-1) 0)
def oW(l:List Int)(n:Nat):Bool:=decide ((n:Int)∈l)
def gj(l:List Int):V:=if lW l=true then h8 16 (oW (1::l)) else h8 8 (oW l)
def AU{l:List Int}:∀{last:Int},h7 last l=true->∀n∈l,last<n/\n<=128/\n≠65:=by
 induction l with
 |nil=>intro _ _ n aj;cases aj
 |cons x r ih=>
  intro last h n aj;simp only[h7,cM,decide_eq_true_eq]at h;rcases gE.1 aj with rfl|aj
  .exact h.1
  have:=ih h.2 n aj;exact⟨J,this.2⟩
def av7{l:List Int}:∀{last:Int},h7 last l=true->∀n∈l,n<=ak l (l.length-1) 0:=by
 induction l with
 |nil=>intro _ _ n aj;cases aj
 |cons x r ih=>
  intro last h n aj;simp only[h7,cM]at h;cases r with
  |nil=>simp at aj;subst aj;simp[ak]
  |cons y r=>
   have ah:=ih h.2;have hl:ak (x::y::r) ((x::y::r).length-1) 0=ak (y::r) ((y::r).length-1) 0:=by simp[ak]
   rcases gE.1 aj with rfl|aj
   .have O:=(AU h.2 y bh).1
    have:=ah y bh;omega
   exact ah n aj
def Mr{l:List Int}(h:h7 1 l=true)(bb:¬lW l=true):∀n∈l,n<=64:=λn aj=>by have:=av7 h n aj;unfold lW at bb;have ao:0<l.length:=List.length_pos_of_mem aj;simp at bb;omega
def Ri{α β σ ρ:Type}{mk:β->Nat->σ}{e:Nat}{step:β->α->aE β ρ}{g:β->α->β}(h:∀b x,step b x=.nx (g b x)):∀(l:List α) (b:β) (i:Nat),jj mk e step b i l=.ex e (mk (l.foldl g b) (i+l.length))
 |[],b,i=>rfl
 |x::r,b,i=>by simp only[jj,h,yM,ew];rw[Ri h r (g b x) (i+1)];congr 2;omega
def ajB{f:Int×V×Unit->Option (aE (Int×V×Unit) (V×Int×Unit))}{l:List Int}{r1:Nat->Bool}
  (ac:∀(S:Nat->Bool) (i:Nat) (h:i<l.length),(∀m,S m=(r1 m||oW (l.take i) m))->f ((i:Int),h8 size S,())=some (.nx (((i+1:Nat):Int),h8 size (D_ S (l[i]).toNat),())))
  (ah:∀n∈l,1<=n) (aA:∀x,f ((l.length:Int),x,())=some (.ex 0 ((l.length:Int),x,()))):bN f (0,h8 size r1,())=some (.ex 0 ((l.length:Int),h8 size (λm=>r1 m||oW l m),())):=by
 have key:∀(k i:Nat),k=l.length-i->i<=l.length->bN f ((i:Int),h8 size (λm=>r1 m||oW (l.take i) m),())=some (.ex 0 ((l.length:Int),h8 size (λm=>r1 m||oW l m),())):=by
  intro k;induction k with
  |zero =>intro i ap hi;have:i=l.length:=J;subst this;rw[nF];exact d_ (aA _)
  |succ k ih=>
   intro i ap hi;have bm:i<l.length:=J;refine(ez (ac _ i bm λm=>rfl)).trans ?_;have hx:=ah l[i] (mu bm);have:(D_ (λm=>r1 m||oW (l.take i) m) (l[i]).toNat)=λm=>r1 m||oW (l.take (i+1)) m:=by funext m;unfold D_ oW;rw[Bool.or_assoc];congr 1;refine pd.2 ?_;rw[nH bm];simp only[yN,decide_eq_true_eq,Ju,io,pf];refine or_congr pm ?_;omega
   rw[this];exact ih (i+1) J J
 have:=key l.length 0 J J;simp only[BW,oW,yS,decide_false,Jy]at this;exact this
def aws:cj (bO 16 (u8 0)) 0 (u8 128)=h8 16 (λm=>Nat.beq m 1):=iL
def ayx{l:List Int}(hl:l.length<=1000000):T (D (0<(l.length:Int))) (am (D (0<=(l.length:Int)-1/\(l.length:Int)-1<(l.length:Int))) (some (D (64<ak l ((l.length:Int)-1).toNat 0),()))) (some (false,()))=some (lW l,()):=by
 have a2:((l.length:Int)-1).toNat=l.length-1:=J;by_cases ao:0<l.length
 .have e:lW l=decide (64<ak l (l.length-1) 0):=by unfold lW;rw[decide_eq_true ao,OP]
  simp(disch:=omega) only[go_sem,a2,e]
 have e:lW l=false:=by unfold lW;rw[decide_eq_false ao,JN]
 simp(disch:=omega) only[go_sem,e]
def ajz(l:List Int)(hl:l.length<=1000000):Kc (l,())=some (if h7 1 l=true then(gj l,0,()) else([],1,())):=by
 unfold Kc;generalize hf:(λ(ab:Int×V×Unit)=>_)=f;have xt:=ayx hl;cases ah:h7 1 l
 .simp(disch:=omega) only[go_sem,PA,ah]
 have hm:=AU ah;have step:∀(size:Nat),(∀n∈l,n<=8*(size:Int))->∀r1:Nat->Bool,bN f (0,h8 size r1,())=some (.ex 0 ((l.length:Int),h8 size (λm=>r1 m||oW l m),())):=by
  intro size bY r1;refine ajB (λS i h _ => ?_) (λn aj=>by have:=hm n aj;omega) (λx => ?_)
  .subst hf
   have hx:=hm l[i] (mu h);have mO:=bY l[i] (mu h);obtain⟨N,fM⟩:∃N:Nat,l[i]=N:=⟨l[i].toNat,J⟩;have pD:=Xe (n:=N) J J;have abP:(h8 size S).length=size:=DY;have nj:=aw0 (size:=size) (S:=S) (n:=N) J J (auo (ak (h8 size S) ((N-1)/8) (u8 0)) ((N-1)%8) J);have zN:((N-1)/8)<(h8 size S).length:=J;rw[nth_get zN]at nj;simp(disch:=omega) only[go_sem,fM,pD,abP,nj]
  subst hf;simp(disch:=omega) only[go_sem]
 by_cases bb:lW l=true
 .have:=step 16 (λn aj=>by have:=hm n aj;omega) (λm=>Nat.beq m 1)
  rw[<- aws]at this;have e:h8 16 (λm=>Nat.beq m 1||oW l m)=gj l:=by
   unfold gj;rw[if_pos bb];refine awo λn _ _ => ?_;unfold oW;refine pd.2 ?_;simp
   grind
  rw[e]at this;simp(disch:=first|assumption|omega|(dsimp only;omega)|decide) only[go_sem,Int.reduceToNat,PA,ah,xt,bb,this]
 have:=step 8 (λn aj=>by have:=Mr ah bb n aj;omega) (λm=>false);rw[<- av0]at this;have G5:lW l=false:=(yT _).mp bb;have e:h8 8 (λm=>false||oW l m)=gj l:=by unfold gj;rw[if_neg bb];rfl
 rw[e]at this;simp(disch:=omega) only[go_sem,Int.reduceToNat,PA,ah,xt,G5,this]
def aa3{c:V}{k:Nat}(O:1<=n)(R:n<=8*k)(af:k<=c.length):iA (c.take k) n=iA c n:=by unfold iA;rw[nth_get (by grind),nth_get J,OC]
def anH(h:fK no=some (k,l)):2<=no/\no<=128/\no≠65:=by
 unfold fK at h;rw[k4]at h;have:∀r∈F9,∀c∈r.drop 2,2<=c/\c<=128/\c≠65:=iL
 grind
def va{v:V}:gB no v=true↔∃k l,fK no=some (k,l)/\g2 k l v:=by
 unfold gB
 grind
def Rc{v:V}(h:gB no v=true):2<=no/\no<=128/\no≠65:=by obtain⟨k,l,O,_⟩:=va.1 h;exact anH O
def v8{l:List b0}:∀{last:Int},fD last l=true->∀v∈l,last<v.1/\gB v.1 v.2.1=true:=by
 induction l with
 |nil=>intro _ _ v aC;cases aC
 |cons x r ih=>
  intro last h v aC;simp only[fD,cM,decide_eq_true_eq]at h
  grind
def iE(l:List b0):List Int:=l.map λv=>v.1
def av2{l:List b0}:∀{last:Int},1<=last->fD last l=true->h7 last (iE l)=true:=by
 induction l with
 |nil=>intros;rfl
 |cons x r ih =>intro last hl h;simp only[fD,cM,decide_eq_true_eq]at h;have aj:=Rc h.2.1;simp only[iE,pj,h7,cM,decide_eq_true_eq];exact⟨⟨h.1,aj.2⟩,ih J h.2.2⟩
def UA{l:List b0}(h:fD 0 l=true):h7 1 (iE l)=true:=by
 cases l with
 |nil=>rfl
 |cons x r =>simp only[fD,cM,decide_eq_true_eq]at h;have aj:=Rc h.2.1;simp only[iE,pj,h7,cM,decide_eq_true_eq];exact⟨⟨J,aj.2⟩,av2 J h.2.2⟩
def hR(v:b0):V:=(rR v.1 v.2.1).1
def ahH{v:V}(h:gB no v=true):rR no v=((rR no v).1,0,())/\(rR no v).1.length<=402/\1<=(rR no v).1.length:=by
 obtain⟨k,l,O,R⟩:=va.1 h;have e:rR no v=(kY k v,0,()):=by unfold rR;rw[O];simp only[if_pos R]
 have hl:=Ro O R;rw[e];exact⟨rfl,ayM (tJ O).1 hl.2.2,ayN (tJ O).1 hl.1⟩
def rL(m:Int):V:=f9 (er (aZ 10 dI m.toNat 4))
def Bk:(rL m).length=2:=by unfold rL;rw[r6,lm]
def gO(m:M):V:=rL m.1++(gj (iE m.2.1)++m.2.1.flatMap hR)
def qe(l:List Int):(gj l).length=if lW l=true then 16 else 8:=by unfold gj;split<;>exact DY
def anD(l:List b0):∀dc:List Int,l.foldl (λdc v=>dc++[v.1]) dc=dc++iE l:=by
 induction l with
 |nil=>intro dc;simp[iE]
 |cons v r ih=>intro dc;rw[yM,ih];simp[iE]
def anE(l:List b0):∀dc:V,l.foldl (λdc v=>dc++hR v) dc=dc++l.flatMap hR:=by
 induction l with
 |nil=>intro dc;simp
 |cons v r ih=>intro dc;rw[yM,ih];simp
def ayb(h:ig m):mD (m,4,())=some (aZ 10 dI m.toNat 4,0,())/\tE (aZ 10 dI m.toNat 4,())=some (rL m,0,())/\MZ (m,4,())=some (aZ 10 dI m.toNat 4,0,())/\Ur (aZ 10 dI m.toNat 4,())=some (rL m,0,()):=by
 unfold ig at h;have e:(10:Int)^(4:Int).toNat=10000:=bP;refine⟨?_,?_,?_,?_⟩
 .rw[FP _ _ J,if_pos ⟨J,J,J,by rw[e];omega⟩];rfl
 .rw[QN _ (by rw[lm];omega),if_pos zp];rfl
 .rw[aeV _ _ J,if_pos ⟨J,J,J,by rw[e];omega⟩];rfl
 rw[avO _ (by rw[lm];omega),if_pos zp];rfl
def S0(m:M)(hm:w? m):Aa (m,())=some (if jJ m=true then(gO m,0,()) else([],1,())):=by
 unfold Aa;generalize hf:(λ(ab:List Int×Int×Unit)=>_)=f;generalize hg:(λ(ab:V×Int×Unit)=>(_:Option (aE (V×Int×Unit) (V×Int×Unit))))=g;have jl:=asa m hm;have hl:=hm.1;cases ah:jJ m
 .simp only[go_sem,jl,ah]
 have gD:=ah;simp only[jJ,cM,decide_eq_true_eq]at gD;obtain⟨k?,mB, -, -⟩:=ayb gD.2;have key:=vK (f:=f) (ρ:=V×Int×Unit) m.2.1 (λ(dc:List Int) i=>(dc,(i:Int),())) 0 (λdc v=>.nx (dc++[v.1])) (λdc i=>dc.length=i) (λb i h eo=>⟨?_,λb' Y => ?_⟩) (λb _ => ?_) [] rfl
 .rw[Ri (g:=λ(dc:List Int) (v:b0)=>dc++[v.1]) (λ_ _=>rfl),anD]at key
  have aa4:=ajz (iE m.2.1) (by simp[iE];omega);rw[if_pos (UA gD.1)]at aa4;have tY:=Bk (m:=m.1);have dD:(gj (iE m.2.1)).length<=16:=by rw[qe];split<;>omega
  have t8:=vK (f:=g) (ρ:=V×Int×Unit) m.2.1 (λ(dc:V) i=>(dc,(i:Int),())) 2 (λdc v=>.nx (dc++hR v)) (λdc i=>dc.length<=100+402*i) (λb i h eo=>⟨?_,λb' Y => ?_⟩) (λb _ => ?_) (rL m.1++gj (iE m.2.1)) (by rw[cG];omega)
  .rw[Ri (g:=λ(dc:V) (v:b0)=>dc++hR v) (λ_ _=>rfl),anE,gt]at t8
   replace key:bN f ([],0,())=_:=key;replace t8:bN g (rL m.1++gj (iE m.2.1),0,())=_:=t8;simp(disch:=omega) only[go_sem,jl,ah,k?,mB,key,aa4,t8];rfl
  .subst hg
   have hK:=v8 gD.1 m.2.1[i] (mu h);have bb:=ahH hK.2;have aql:=hm.ak h;have xt:=anh m.2.1[i].1 m.2.1[i].2.1 aql;rw[bb.1]at xt;have aro:(hR m.2.1[i]).length<=402:=bb.2.1;change F4 _=some (hR m.2.1[i],0,()) at xt;simp(disch:=omega) only[go_sem,xt,n5]
  .cases Y
   have hK:=v8 gD.1 m.2.1[i] (mu h);have aro:(hR m.2.1[i]).length<=402:=(ahH hK.2).2.1
   grind
  subst hg;simp(disch:=omega) only[go_sem]
 .subst hf;simp(disch:=omega) only[go_sem,ew,n5]
 .grind
 subst hf;simp(disch:=omega) only[go_sem]
def lP:M:=(0,[],())
def pU(b:V):List Int->Int->List b0->Option Int×Int×List b0
 |[],c',F=>(none,c',F)
 |n::r,c',F=>if(jo n b c').2.2.1=0 then pU b r (jo n b c').2.1 (F++[(n,(jo n b c').1,())]) else(some (jo n b c').2.2.1,c',F)
def AO(b:V)(s:Int×List b0)(n:Int):aE (Int×List b0) (M×Int×Unit):=if(jo n b s.1).2.2.1=0 then .nx ((jo n b s.1).2.1,s.2++[(n,(jo n b s.1).1,())]) else .rt (lP,(jo n b s.1).2.2.1,())
def Z7{σ:Type}{mk:Int×List b0->Nat->σ}{e:Nat}{b:V}:∀(l:List Int) (s:Int×List b0) (i:Nat),jj mk e (AO b) s i l=match pU b l s.1 s.2 with|(none,a,F)=>.ex e (mk (a,F) (i+l.length))|(some q,_,_)=>.rt (lP,q,())
 |[],s,i=>rfl
 |n::r,s,i=>by
  unfold pU;by_cases h:(jo n b s.1).2.2.1=0
  .have ac:AO b s n=.nx ((jo n b s.1).2.1,s.2++[(n,(jo n b s.1).1,())]):=if_pos h
   simp only[jj,ac,if_pos h];rw[Z7 r _ (i+1)]
   grind
  have ac:AO b s n=.rt (lP,(jo n b s.1).2.2.1,()):=if_neg h;simp only[jj,ac,if_neg h]
def DA(_:Unit)(n:Int):aE Unit (M×Int×Unit):=if(fK n).isSome=true then .nx () else .rt (lP,2,())
def Z6{σ:Type}{mk:Unit->Nat->σ}{e:Nat}:∀(l:List Int) (i:Nat),jj mk e DA () i l=if ∀n∈l,(fK n).isSome=true then .ex e (mk () (i+l.length)) else .rt (lP,2,())
 |[],i=>by simp[jj]
 |n::r,i=>by
  by_cases h:(fK n).isSome=true
  .have ac:DA () n=.nx ():=if_pos h
   simp only[jj,ac,gE,forall_eq_or_imp,h,true_and];rw[Z6 r (i+1)]
   grind
  have ac:DA () n=.rt (lP,2,()):=if_neg h;simp only[jj,ac]
  grind
def DT(b:V)(m:Int)(l:List Int)(c':Int):M×Int×Unit:=
 if ∀n∈l,(fK n).isSome=true then(match pU b l c' []with|(none,a,F)=>if a<(b.length:Int) then(lP,4,()) else((m,F,()),0,())|(some q,_,_)=>(lP,q,())) else(lP,2,())
def fw(b:V):M×Int×Unit:=
 if(iX b 0 4).2.2.1≠0 then(lP,(iX b 0 4).2.2.1,()) else if ig (val (iX b 0 4).1:Int) then
  (if(k8 b 2).2.2.1≠0 then(lP,(k8 b 2).2.2.1,()) else DT b (val (iX b 0 4).1:Int) (k8 b 2).1 (k8 b 2).2.1) else(lP,2,())
def adz{c:V}:(hQ c).length<=8*c.length+1:=by
 have:=rW (λn=>Nat.ble 2 n&&iA c n) (List.range (8*c.length+1))
 rwa [JS]at this
def ajH{b:V}:(k8 b a).1.length<=129:=by
 unfold k8;split
 .simp
 unfold pq;split
 .simp
 split
 .split
  .simp
  have:=adz (c:=(b.drop a.toNat).take 16)
  grind
 have:=adz (c:=(b.drop a.toNat).take 8)
 grind
def aac{o:Option (Int×Int)}:(iz o).2.1=o.isSome:=by cases o<;>rfl
def avG{WH:Int×Unit->Option ((Int×Int×Unit)×Bool×Unit)}(aaT:∀n,WH (n,())=some (iz (fK n))){WI:Int×V×Int×Unit->Option (V×Int×Int×Unit)}{b:V}(aaW:∀n a,WI (n,b,a,())=some (jo n b a))
  {l:List Int} (hl:l.length<=129) {c' Dr:Int} {e1:Int} {f:Int×Int×Unit->Option (aE (Int×Int×Unit) (M×Int×Unit))} {g:Int×Int×Int×M×Unit->Option (aE (Int×Int×Int×M×Unit) (M×Int×Unit))}
  (hf:∀x (i:Nat),f (x,(i:Int),())=T (aJ (i:Int) (len l)) (am (aU (i:Int) (len l)) (ob (WH (ak l (aa (i:Int)) 0,())) λa=>T (a_ a.2.1) (some (.rt (lP,2,()))) (some (.nx (x,i64 (av (i:Int) 1),()))))) (some (.ex 0 (x,(i:Int),()))))
  (hg:∀x a (i:Nat) (F:List b0),g (x,a,(i:Int),(Dr,F,()),())=T (aJ (i:Int) (len l)) (am (aU (i:Int) (len l)) (ob (WI (ak l (aa (i:Int)) 0,b,a,())) λq=>T (a_ (ag q.2.2.1 0)) (some (.rt (lP,q.2.2.1,())))
   (am (cB 56 (bQ (aT F) 1)) (some (.nx (x,q.2.1,i64 (av (i:Int) 1),(Dr,bv F [(ak l (aa (i:Int)) 0,q.1,())],()),())))))) (some (.ex 2 (x,a,(i:Int),(Dr,F,()),())))) (rS:Int) :
  ci (bN f (rS,0,())) (λ_=>none) (λi a=>am (bZ i 0) (ci (bN g (a.1,c',0,(Dr,[],()),())) (λ_=>none) (λi a=>am (bZ i 2) (T (aJ a.2.1 (len b)) (some (lP,4,())) (some ((a.2.2.2.1.1,a.2.2.2.1.2.1,a.2.2.2.1.2.2),0,())))) λr=>some r)) (λr=>some r)=some (DT b Dr l c'):=by
 have key:=vK (f:=f) l (λ(_:Unit) i=>(rS,(i:Int),())) 0 DA (λ_ _=>True) (λ_ i h _=>⟨?_,λ_ _=>trivial⟩) (λ_ _ => ?_) () trivial
 .refine(da key).trans ?_
  rw[Z6];unfold DT;by_cases aK:∀n∈l,(fK n).isSome=true
  .rw[if_pos aK,if_pos aK]
   have t8:=vK (f:=g) l (λ(s:Int×List b0) i=>(rS,s.1,(i:Int),(Dr,s.2,()),())) 2 (AO b) (λs i=>s.2.length<=i) (λs i h eo=>⟨?_,λcq ac => ?_⟩) (λs _ => ?_) (c',[]) (bU _)
   .refine(da t8).trans ?_
    rw[Z7];rcases pU b l c' []with⟨_|q,a,F⟩
    .refine lc_ex'.trans (bn g62 ?_)
     by_cases bu:a<(b.length:Int)
     .simp only[if_pos bu];simp(disch:=omega) only[go_sem]
     simp only[if_neg bu];simp(disch:=omega) only[go_sem]
    rfl
   .rw[hg]
    by_cases ao:(jo l[i] b s.1).2.2.1=0
    .have eL:AO b s l[i]=.nx ((jo l[i] b s.1).2.1,s.2++[(l[i],(jo l[i] b s.1).1,())]):=if_pos ao
     simp(disch:=omega) only[go_sem,aaW,ao,eL,n5]
    have eL:AO b s l[i]=.rt (lP,(jo l[i] b s.1).2.2.1,()):=if_neg ao;simp(disch:=omega) only[go_sem,aaW,ao,eL,n5]
   .unfold AO at ac
    grind
   rw[hg];simp(disch:=omega) only[go_sem]
  rw[if_neg aK,if_neg aK];rfl
 .rw[hf]
  cases ao:(fK l[i]).isSome
  .have eL:DA () l[i]=.rt (lP,2,()):=if_neg (by rw[ao];simp)
   simp(disch:=omega) only[go_sem,aaT,aac,ao,eL,n5]
  have eL:DA () l[i]=.nx ():=if_pos ao;simp(disch:=omega) only[go_sem,aaT,aac,ao,eL,n5]
 rw[hf];simp(disch:=omega) only[go_sem]
def SZ(b:V)(hl:b.length<=1000000):C' (b,())=some (fw b):=by
 refine bg (QP b 0 4 hl) ?_;unfold fw;rcases Bb (b:=b) (I:=0) (N:=4) (fI _) J with⟨_,h⟩|⟨_,h,_⟩|⟨s,aq,h,hf,ac,_⟩
 .replace h:iX b 0 4=([],0,3,()):=h
  rw[h];rfl
 .replace h:iX b 0 4=([],0,2,()):=h
  rw[h];rfl
 replace h:iX b 0 4=(s,2,0,()):=h;rw[h];refine bg (FQ s) ?_;rw[if_pos ⟨J,J,hf⟩,if_neg bh];refine bg (z? _) ?_;by_cases ht:ig (val s:Int)
 .refine a1 (by rw[cF ht];rfl) ?_
  rw[if_pos ht];by_cases ao:(k8 b 2).2.2.1=0
  .refine a1 (by rw[cK ao];rfl) ?_
   rw[if_neg J];exact avG (e1:=0) F3 (b:=b) (λn a=>ang n b a hl) ajH (λ_ _=>rfl) (λ_ _ _ _=>rfl) 0
  refine bq (by rw[ct ao];rfl) ?_;rw[if_pos ao];rfl
 refine bq (by rw[cE ht];rfl) ?_;rw[if_neg ht];rfl
def JO:=@Nat.mul_le_mul
def YS{α:Type}(c:Nat)(z:α)(x:List (List α)×Unit):Option (List α×Unit):=
 ci (bN (λ(ab:Int×Int×Unit)=>T (aJ ab.2.1 (len x.1)) (am (aU ab.2.1 (len x.1)) (T (aJ (i64 (av ab.1 (len (ak x.1 (aa ab.2.1) (aO α))))) 0) none
  (some (aE.nx (i64 (av ab.1 (len (ak x.1 (aa ab.2.1) (aO α)))),i64 (av ab.2.1 1),()))))) (some (aE.ex 0 (ab.1,ab.2.1,())))) (0,0,()))
 (λ(a:Int×Int×Unit)=>none)
 (λ(i:Nat) (a:Int×Int×Unit)=>am (bZ i 0) (T (aJ a.1 0) none (T (aJ 0 (i64 (bi a.1 (i64 (bi 0 0))))) (am (ca 0 0 0)
  (am (cZ (bE 0 (i64 (bi a.1 (i64 (bi 0 0))))) (cB c (aa (i64 (bi a.1 (i64 (bi 0 0))))))) (am (ca 0 0 (len (bO (aa (i64 (bi a.1 (i64 (bi 0 0))))) z)))
   (ci (bN (λ(ab:List α×Int×Unit)=>T (aJ ab.2.1 (len x.1)) (am (aU ab.2.1 (len x.1)) (am (cB c (bQ (aT ab.1) (aT (ak x.1 (aa ab.2.1) (aO α)))))
    (some (aE.nx (bv ab.1 (ak x.1 (aa ab.2.1) (aO α)),i64 (av ab.2.1 1),()))))) (some (aE.ex 2 (ab.1,ab.2.1,())))) (cut (bO (aa (i64 (bi a.1 (i64 (bi 0 0))))) z) (aa 0) (cd (aa 0) (aa 0)),0,()))
    (λ(a:List α×Int×Unit)=>none) (λ(i:Nat) (a:List α×Int×Unit)=>am (bZ i 2) (some (a.1,()))) λ(r:List α×Unit)=>some r))))
  (ci (bN (λ(ab:List α×Int×Unit)=>T (aJ ab.2.1 (len x.1)) (am (aU ab.2.1 (len x.1)) (am (cB c (bQ (aT ab.1) (aT (ak x.1 (aa ab.2.1) (aO α)))))
   (some (aE.nx (bv ab.1 (ak x.1 (aa ab.2.1) (aO α)),i64 (av ab.2.1 1),()))))) (some (aE.ex 2 (ab.1,ab.2.1,())))) (aO α,0,()))
   (λ(a:List α×Int×Unit)=>none) (λ(i:Nat) (a:List α×Int×Unit)=>am (bZ i 2) (some (a.1,()))) λ(r:List α×Unit)=>some r))))
 λ(r:List α×Unit)=>some r
def Rj{α β σ ρ:Type}{mk:β->Nat->σ}{e:Nat}{step:β->α->aE β ρ}{g:β->α->β}(h:∀b x,step b x=.nx (g b x)):∀(l:List α) (b:β) (i:Nat),jj mk e step b i l=.ex e (mk (l.foldl g b) (i+l.length))
 |[],b,i=>rfl
 |x::r,b,i=>by
  simp only[jj,h,ew];rw[Rj h r (g b x) (i+1)]
  grind
def anC(hc:List (List α)):∀a:Int,hc.foldl (λs x=>s+(x.length:Int)) a=a+(hc.flatten.length:Int):=by
 induction hc with
 |nil=>intro a;simp
 |cons x r ih=>intro a;rw[yM,ih];simp;omega
def anB(hc:List (List α)):∀a:List α,hc.foldl (λs x=>s++x) a=a++hc.flatten:=by
 induction hc with
 |nil=>intro a;simp
 |cons x r ih=>intro a;rw[yM,ih];simp
def YT{c:Nat}{z:α}(ai:c<=100000)(hc:List (List α))(hl:hc.length<=100)(hx:∀x∈hc,x.length<=1000000):YS c z (hc,())=some (hc.flatten,()):=by
 unfold YS;generalize hf:(λ(ab:Int×Int×Unit)=>_)=f;generalize hg:(λ(ab:List α×Int×Unit)=>(_:Option (aE (List α×Int×Unit) (List α×Unit))))=g;have le:∀n:Nat,n<=100000000->n*c<=140737488355328:=λn aj=>eZ (JO aj ai) J;have cr:hc.flatten.length<=100000000:=by
  have:∀hc:List (List α),(∀x∈hc,x.length<=1000000)->hc.flatten.length<=1000000*hc.length:=by
   intro hc;induction hc with
   |nil=>simp
   |cons x r ih=>
    grind
  grind
 have key:=vK (f:=f) (ρ:=List α×Unit) hc (λ(s:Int) i=>(s,(i:Int),())) 0 (λs x=>.nx (s+(x.length:Int))) (λs i=>0<=s/\s<=1000000*i) (λs i h eo=>⟨?_,λb' Y => ?_⟩) (λs _ => ?_) 0 bh
 .rw[Rj (g:=λ(s:Int) (x:List α)=>s+(x.length:Int)) (λ_ _=>rfl),anC,Int.zero_add]at key
  have t8:=vK (f:=g) (ρ:=List α×Unit) hc (λ(s:List α) i=>(s,(i:Int),())) 2 (λs x=>.nx (s++x)) (λs i=>s.length<=1000000*i) (λs i h eo=>⟨?_,λb' Y => ?_⟩) (λs _ => ?_) [] bh
  .rw[Rj (g:=λ(s:List α) (x:List α)=>s++x) (λ_ _=>rfl),anB,nG]at t8
   refine(da key).trans (lc_ex'.trans (bn g62 (a1 rfl ?_)));by_cases ao:0<hc.flatten.length
   .refine bq (by simp(disch:=omega) only[go_sem];omega) (bn (by simp only[go_sem];decide) ?_)
    have qv:∀(n:Nat) (a:α),(bO n a).length=n:=λn a=>by simp[bO]
    have hm:=le _ cr;refine bn (by simp(disch:=omega) only[go_sem];exact⟨J,hm⟩) (bn (by simp only[go_sem];exact⟨J,J,J⟩) ?_);refine(da t8).trans ?_;rfl
   refine a1 (by simp(disch:=omega) only[go_sem];omega) ((da t8).trans ?_);rfl
  .subst hg
   have R:=hx hc[i] (mu h);have hm:=le (s.length+(hc[i]).length) J;simp(disch:=omega) only[go_sem,n5]
  .grind
  subst hg;simp(disch:=omega) only[go_sem]
 .subst hf
  have R:=hx hc[i] (mu h);simp(disch:=omega) only[go_sem,n5]
 .cases Y
  have R:=hx hc[i] (mu h);omega
 subst hf;simp(disch:=first|assumption|omega|(dsimp only;omega)|decide) only[go_sem,Int.reduceToNat]
def ah2(hc:List (List b0))(hl:hc.length<=100)(hx:∀x∈hc,x.length<=1000000):NJ (hc,())=some (hc.flatten,()):=
 (rfl).trans (YT J hc hl hx)
def gc(no:Int):List b0->Nat
 |[]=>0
 |v::r=>if no<=v.1 then 0 else gc no r+1
def jR(no:Int):List b0->Bool
 |[]=>false
 |v::r=>if no<=v.1 then decide (v.1=no) else jR no r
def Rb(no:Int):∀l:List b0,gc no l<=l.length
 |[]=>bU _
 |v::r=>by
  unfold gc;split
  .omega
  have:=Rb no r;simp;omega
def Lt{no:Int}:∀{l:List b0},jR no l=true->∃h:gc no l<l.length,(l[gc no l]).1=no
 |v::r,h=>by
  unfold jR at h;by_cases ai:no<=v.1
  .rw[if_pos ai]at h
   have:gc no (v::r)=0:=by unfold gc;rw[if_pos ai]
   grind
  rw[if_neg ai]at h;obtain⟨O,R⟩:=Lt h;have:gc no (v::r)=gc no r+1:=by conv=>{ lhs;unfold gc };rw[if_neg ai]
  grind
def ZX(l:List b0)(no:Int)(hl:l.length<=1000000):Hg ((l,1,()),no,())=some ((gc no l:Int),jR no l,()):=by
 unfold Hg;generalize hf:(λ(ab:Int×Bool×Int×Unit)=>_)=f;have key:∀(r:List b0) (i:Nat),l.drop i=r->i<=l.length->bN f (0,false,(i:Int),())=if i+gc no r<l.length then some (.rt (((i+gc no r:Nat):Int),jR no r,())) else some (.ex 0 (0,false,(l.length:Int),())):=by
  intro r;induction r with
  |nil =>intro i ah hi;have GP:=congrArg List.length ah;rw[e?,gu]at GP;have:i=l.length:=J;subst this;rw[if_neg (by simp[gc])];refine d_ ?_;subst hf;simp(disch:=omega) only[go_sem]
  |cons v r ih=>
   intro i ah hi;have GP:=congrArg List.length ah;rw[e?,ew]at GP;have bm:i<l.length:=J;rw[m2 bm]at ah;obtain⟨aC,gD⟩:=oz ah;have hp:L1 (v,())=some (v.1,()):=rfl;by_cases ai:no<=v.1
   .have ao:gc no (v::r)=0:=by unfold gc;rw[if_pos ai]
    have O:jR no (v::r)=D (v.1=no):=by unfold jR;rw[if_pos ai];exact g51
    rw[ao,O,if_pos J];refine pO ?_;subst hf;simp(disch:=omega) only[go_sem,aC,hp,Int.add_zero]
   have ao:gc no (v::r)=gc no r+1:=by conv=>{ lhs;unfold gc };rw[if_neg ai]
   have O:jR no (v::r)=jR no r:=by conv=>{ lhs;unfold jR };rw[if_neg ai]
   rw[ao,O];refine(ez (y:=(0,false,((i+1:Nat):Int),())) ?_).trans ((ih (i+1) gD bm).trans ?_)
   .subst hf;simp(disch:=omega) only[go_sem,aC,hp]
   rw[show i+1+gc no r=i+(gc no r+1) by omega]
 have xz:=key l 0 rfl (fI _);rw[jw]at xz;refine(da xz).trans ?_;by_cases bm:gc no l<l.length
 .rw[if_pos bm];rfl
 rw[if_neg bm];have aA:=Rb no l;have:gc no l=l.length:=J;have aj:jR no l=false:=(yT _).mp λh=>bm (Lt h).1;rw[this,aj];rfl
def getD(l:List b0)(no:Int):V×Bool×Unit:=if jR no l=true then((ak l (gc no l) (0,[],())).2.1,true,()) else([],false,())
def SY(m:M)(no:Int)(hl:m.2.1.length<=1000000):qy (m,no,())=some (getD m.2.1 no):=by
 unfold qy;refine bg (show L0 (m,())=some ((m.2.1,1,()),()) from rfl) ?_;refine bg (ZX m.2.1 no hl) ?_;unfold getD;cases h:jR no m.2.1
 .rfl
 obtain⟨O,R⟩:=Lt h;exact a1 rfl (bn (kS O) rfl)
def yz(l:List b0)(x:b0):List b0:=l.take (gc x.1 l)++(x::l.drop (if jR x.1 l=true then gc x.1 l+1 else gc x.1 l))
def az2{l:List α}:sub l 0 (n:Int)=l.take n:=by simp[sub]
def agP{l:List α}:sub l (n:Int) (len l)=l.drop n:=by simp only[sub,len,i0];rw[hS bh]
def ayC(l:List b0)(x:b0)(hl:l.length<=100000):S1 ((l,1,()),x,())=some (yz l x,()):=by
 refine bn g62 (bg (rfl) (bg (ZX l x.1 J) ?_));have bY:=Rb x.1 l;have ai:∀n:Nat,NJ ([l.take (gc x.1 l),[x],l.drop n],())=some (l.take (gc x.1 l)++(x::l.drop n),()):=λn=>by
  rw[ah2 _ bh (λy hy=>by
   simp at hy;rcases hy with rfl|rfl|rfl
   .grind
   .simp
   rw[e?];omega)]
  simp
 unfold yz;cases h:jR x.1 l
 .refine bg (b1 rfl) ?_
  refine bn cN (bn cN ?_);simp only[ agP];exact bg (ai _) rfl
 obtain⟨O,R⟩:=Lt h;have e:i64 (av (gc x.1 l:Int) 1)=((gc x.1 l+1:Nat):Int):=lh (b:=1) J;simp only[e];refine bn cN (bn cN ?_);simp only[ agP];exact bg (ai _) rfl
def D8(m:M)(no:Int)(v:V):M×Int×Unit:=if fK no=none then(m,12,()) else if gB no v=true then((m.1,yz m.2.1 (no,v,()),()),0,()) else(m,1,())
def LZ(m:M)(no:Int)(v:V)(hl:m.2.1.length<=100000)(aC:v.length<=1000000):jT (m,no,v,())=some (D8 m no v):=by
 unfold jT D8;refine bg (F3 no) ?_;cases aK:fK no with
 |none=>rfl
 |some p=>
  refine a1 rfl (bg (K1 no v aC) ?_);cases hf:gB no v
  .rfl
  exact a1 rfl (bg (rfl) (bg (ayC m.2.1 (no,v,()) hl) rfl))
def hI(no:Int):List b0->V×Bool×Unit
 |[]=>([],false,())
 |v::r=>if v.1=no then(v.2.1,true,()) else hI no r
def an6{no:Int}:∀{l:List b0},(hI no l).2.1=false->hI no l=([],false,())
 |[],_=>rfl
 |v::r,h=>by
  unfold hI at h ⊢;split
  .grind
  rename_i ai;rw[if_neg ai]at h;exact an6 h
def v?(l:List b0)(x:b0):List b0:=l.filter (λv=>decide (v.1<x.1))++(x::l.filter (λv=>decide (x.1<v.1)))
def de(n:Int)(w:Nat):V:=aZ 10 dI n.toNat w
def na{n:Int}:(de n w).length=w:=lm _ _ _ _
def QM{n:Int}:fY (de n w):=zp
def amr{n:Int}(ao:0<=n)(h:n<10^w):(val (de n w):Int)=n:=by unfold de;rw[N7,lY (by grind)];omega
def HN{n:Int}(O:1<=w)(R:w<=18)(ao:0<=n)(h:n<10^w)(CM:n<=9223372036854775807):qF (n,(w:Int),())=some (de n w,()):=by unfold qF;rw[FP _ _ CM,if_pos ⟨show(1:Int)<=(w:Int) by omega,show(w:Int)<=18 by omega,ao,by simpa using h⟩];show am (cB 1 (aT (de n w))) _=_;simp(disch:=omega) only[go_sem,na];rfl
def jF(n:N):M:=
 if n.1=false then(810,[(11,de n.2.2.1 6,()),(39,de n.2.2.2.1 2,()),(70,de n.2.1 3,())],())
 else if n.2.1=101 then(800,[(11,de n.2.2.1 6,()),(48,eV n.2.2.2.2.2.2.1,()),(53,de n.2.2.2.2.1 16,()),(70,de n.2.1 3,()),(96,n.2.2.2.2.2.1,())],())
 else if n.2.1=201 then(800,[(11,de n.2.2.1 6,()),(15,de n.2.2.2.2.2.2.2.1 6,()),(70,de n.2.1 3,())],())
 else(800,[(11,de n.2.2.1 6,()),(70,de n.2.1 3,())],())
def sf(h:fK no=some (k,(w:Int)))(bb:1<=w){n:Int}:gB no (de n w)=true:=by
 unfold gB;rw[h];refine decide_eq_true ⟨⟨λ_=>QM,λ_=>Cy QM⟩,?_⟩;unfold kM;rw[na]
 grind
def CB:fK 11=some (1,6):=bP
def Rg:fK 15=some (1,6):=bP
def K_:fK 39=some (3,2):=bP
def anz:fK 48=some (5,400):=bP
def Z5:fK 53=some (1,16):=bP
def Rh:fK 70=some (1,3):=bP
def anA:fK 96=some (6,8):=bP
def Z2{v:V}(h:v.length=8):gB 96 v=true:=by
 unfold gB;rw[anA];refine decide_eq_true ⟨⟨λh=>J,λh=>J⟩,?_⟩;unfold kM
 grind
def atD{t:Int}{l:List b0}{v:V}(hl:l.length<=100)(aC:v.length<=1000)(hf:gB no v=true):jT ((t,l,()),no,v,())=some ((t,yz l (no,v,()),()),0,()):=by
 rw[LZ (t,l,()) no v (show l.length<=100000 by omega) J];obtain⟨k,m,ap,_⟩:=va.1 hf;unfold D8
 grind
def adi:∀k:Nat,k<16->32<=(me k).toNat/\(me k).toNat<=126:=bP
def apO{b:V}{c:UInt8}(h:c∈eV b):32<=c.toNat/\c.toNat<=126:=by
 obtain⟨x,_,ai⟩:=Fa.1 h;have hx:=x.toNat_lt;simp at ai;rcases ai with rfl|rfl
 .exact adi _ J
 exact adi _ J
def apP{b:V}:oa 32 126 (eV b):=by intro i h;have:=apO (mu h);rw[Tu];omega
def Z1{b:V}(h:b.length=3):gB 48 (eV b)=true:=by unfold gB;rw[anz];refine decide_eq_true ⟨⟨λh=>J,λ_=>apP⟩,?_⟩;rw[nh,h];decide
def A6{t:Int}{l g6:List b0}{v:V}(hl:l.length<=100)(aC:v.length<=1000)(hf:gB no v=true)(bb:yz l (no,v,())=g6):jT ((t,l,()),no,v,())=some ((t,g6,()),0,()):=by rw[<- bb];exact atD hl aC hf
def adv{n:N}(ah:i? n):Dy (n,())=some (jF n,()):=by
 obtain⟨jZ,c,cJ,rs,g,no,k,d,⟨⟩⟩:=n;have gD:=uu.1 ah;obtain⟨ai,bp,ax,eG,gr,sR,ap⟩:=gD;have ng:0<=c/\c<=301:=by unfold pM at ai;omega
 have KH:qF (cJ,6,())=some (de cJ 6,()):=HN (n:=cJ) (w:=6) J J J J J;have KK:qF (c,3,())=some (de c 3,()):=HN (n:=c) (w:=3) J J J J J;have KI:qF (rs,2,())=some (de rs 2,()):=HN (n:=rs) (w:=2) J J J J J;have f11:=λn=>sf (no:=11) (w:=6) (n:=n) CB J;have f15:=λn=>sf (no:=15) (w:=6) (n:=n) Rg J;have f39:=λn=>sf (no:=39) (w:=2) (n:=n) K_ J;have f53:=λn=>sf (no:=53) (w:=16) (n:=n) Z5 J;have f70:=λn=>sf (no:=70) (w:=3) (n:=n) Rh J;have len:∀{n:Int} {w:Nat},w<=20->(de n w).length<=1000:=λh=>by rw[na];omega
 have dT:jT ((810,([]:List b0),()),11,de cJ 6,())=some ((810,[(11,de cJ 6,())],()),0,()):=A6 (l:=[]) bP (len J) (f11 cJ) rfl;have ev:jT ((810,[(11,de cJ 6,())],()),70,de c 3,())=some ((810,[(11,de cJ 6,()),(70,de c 3,())],()),0,()):=A6 bh (len J) (f70 c) rfl;unfold Dy;cases jZ
 .have t3:jT ((810,[(11,de cJ 6,()),(70,de c 3,())],()),39,de rs 2,())=some ((810,[(11,de cJ 6,()),(39,de rs 2,()),(70,de c 3,())],()),0,()):=A6 bh (len J) (f39 rs) rfl
  simp only[go_sem,KH,KK,KI,dT,ev,t3];rfl
 by_cases O:c=101
 .subst O
  obtain⟨g1,bw,aj,zK,aF⟩:=ap;have amy:qF (g,16,())=some (de g 16,()):=HN (n:=g) (w:=16) J J J J J;have ex:=Y9 k J;have C7:(eV k).length=6:=by rw[nh,zK]
  have t3:jT ((800,[(11,de cJ 6,()),(70,de 101 3,())],()),48,eV k,())=some ((800,[(11,de cJ 6,()),(48,eV k,()),(70,de 101 3,())],()),0,()):=A6 bh J (Z1 zK) rfl;have t4:jT ((800,[(11,de cJ 6,()),(48,eV k,()),(70,de 101 3,())],()),53,de g 16,())=some ((800,[(11,de cJ 6,()),(48,eV k,()),(53,de g 16,()),(70,de 101 3,())],()),0,()):=A6 bh (len J) (f53 g) rfl;have t5:jT ((800,[(11,de cJ 6,()),(48,eV k,()),(53,de g 16,()),(70,de 101 3,())],()),96,no,())=some ((800,[(11,de cJ 6,()),(48,eV k,()),(53,de g 16,()),(70,de 101 3,()),(96,no,())],()),0,()):=A6 bh J (Z2 aj) rfl;simp(disch:=omega) only[go_sem,KH,KK,KI,amy,ex,dT,ev,t3,t4,t5,C7];rfl
 by_cases R:c=201
 .subst R
  rw[if_neg J,if_pos ⟨rfl,rfl⟩]at ap;have QT:qF (d,6,())=some (de d 6,()):=HN (n:=d) (w:=6) J J J J J;have t3:jT ((800,[(11,de cJ 6,()),(70,de 201 3,())],()),15,de d 6,())=some ((800,[(11,de cJ 6,()),(15,de d 6,()),(70,de 201 3,())],()),0,()):=A6 bh (len J) (f15 d) rfl;simp(disch:=omega) only[go_sem,KH,KK,KI,QT,dT,ev,t3];rfl
 simp only[go_sem,KH,KK,KI,dT,ev,O,R,cE O,cE R];show _=some (if true=false then _ else if c=101 then _ else if c=201 then _ else _,())
 grind
def yQ:=@List.flatMap_cons
def JW:=@Nat.ble_eq_true_of_le
def O5:=@List.drop_eq_nil_of_le
def O6:=@Nat.le_of_ble_eq_true
def agB:∀{a b:List Int},a.Pairwise (· < ·)->b.Pairwise (· < ·)->(∀n,n∈a↔n∈b)->a=b
 |[],[],_,_,_=>rfl
 |[],y::b,_,_,h=>by have:=(h y).2 bh;cases this
 |x::a,[],_,_,h=>by have:=(h x).1 bh;cases this
 |x::a,y::b,bu,Y,h=>by
  rw[ET]at bu Y;have arq:x=y:=by
   have O:=(h x).1 bh;have R:=(h y).2 bh
   grind
  subst arq;rw[agB bu.2 Y.2 λn => ?_]
  grind
def ae4{l:List Int}:∀{last:Int},h7 last l=true->l.Pairwise (· < ·):=by
 induction l with
 |nil=>intros;exact List.Pairwise.nil
 |cons x r ih =>intro last h;simp only[h7,cM]at h;exact ET.2 ⟨λy hy=>(AU h.2 y hy).1,ih h.2⟩
def av8{l:List Int}:∀{last:Int},l.Pairwise (· < ·)->(∀n∈l,last<n/\n<=128/\n≠65)->h7 last l=true:=by
 induction l with
 |nil=>intros;rfl
 |cons x r ih =>intro last hp h;rw[ET]at hp;simp only[h7,cM,decide_eq_true_eq];refine⟨h x bh,ih hp.2 λn aj=>⟨hp.1 n aj,(h n (by grind)).2⟩⟩
def adA(c:V):((hQ c).map Int.ofNat).Pairwise (· < ·):=by rw[List.pairwise_map];refine List.Pairwise.imp ?_ (List.Pairwise.filter _ List.pairwise_lt_range);simp
def As{c:V}:n∈hQ c↔n<=8*c.length/\2<=n/\iA c n=true:=by
 unfold hQ;rw[r0,ox,cM];constructor
 .rintro⟨O,R,af⟩;exact⟨J,O6 R,af⟩
 rintro⟨O,R,af⟩;exact⟨J,JW R,af⟩
def Kd{l:List Int}(h:h7 1 l=true)(O:1<=n)(R:n<=8*(gj l).length):iA (gj l) n=(decide ((n:Int)∈l)||(Nat.beq n 1&&lW l)):=by
 rw[qe]at R;unfold gj;cases bb:lW l
 .rw[bb]at R
  rw[if_neg bh]at R ⊢;rw[Ls O R,Bool.and_false,Jy];rfl
 rw[bb]at R;rw[if_pos rfl]at R ⊢;rw[Ls O R];unfold oW;refine pd.2 ?_;simp
 grind
def atG{l:List Int}(h:h7 1 l=true):(hQ (gj l)).map Int.ofNat=l:=by
 refine agB (adA _) (ae4 h) λn => ?_;rw[m1];have hm:=AU h;constructor
 .rintro⟨k,ap,rfl⟩
  obtain⟨O,R,af⟩:=As.1 ap;rw[Kd h J O]at af;have:Nat.beq k 1=false:=(yT _).mp λY=>by have:=fy Y;omega
  grind
 intro aj;have Y:=hm n aj;refine⟨n.toNat,As.2 ⟨?_,J,?_⟩,fs⟩
 .rw[qe]
  split
  .omega
  rename_i bb;have:=Mr h bb n aj;omega
 rw[Kd h J (by
  rw[qe];split
  .omega
  rename_i bb;have:=Mr h bb n aj;omega)]
 grind
def PC(l:List Int):8<=(gj l).length/\(gj l).length<=16:=by rw[qe];split<;>omega
def ajI{l:List Int}(h:h7 1 l=true):iA (gj l) 1=lW l:=by
 rw[Kd h J (by have:=PC l;omega)];have:decide (((1:Nat):Int)∈l)=false:=decide_eq_false λai=>by have:=(AU h _ ai).1;omega
 rw[this];rfl
def ahz{l:List Int}(h:h7 1 l=true):lW l=true↔∃n∈l,64<n:=by
 constructor
 .intro bb
  unfold lW at bb;rw[cM,decide_eq_true_eq,decide_eq_true_eq]at bb;exact⟨_,by rw[nth_get J];exact mu _,bb.2⟩
 rintro⟨n,aj,O⟩;refine k2 λbb => ?_;have:=Mr h bb n aj;omega
def ajE{l:List Int}{c q:V}(h:h7 1 l=true)(ai:c=gj l++q):pq c a=(l,a+((gj l).length:Int),0,()):=by
 have cz:=PC l;have eB:c.length=(gj l).length+q.length:=by rw[ai,cG]
 have ht:c.take (gj l).length=gj l:=by rw[ai,wB]
 have O:iA c 1=lW l:=by rw[<- ajI h,<- ht];exact(aa3 J J J).symm
 have aj:=atG h;have dD:=qe l;unfold pq;rw[O];cases bb:lW l
 .grind
 rw[bb,if_pos rfl]at dD;rw[dD]at ht eB ⊢;rw[if_neg J,if_pos rfl,ht,aj,if_neg]
 .rfl
 rintro(apl|hall)
 .have:((65:Nat):Int)∈l:=by rw[<- aj];exact m1.2 ⟨65,apl,rfl⟩
  have:=(AU h _ this).2.2;omega
 obtain⟨n,n1,vu⟩:=(ahz h).1 bb
 grind
def ajG{l:List Int}{b q:V}(h:h7 1 l=true)(dn:A<=b.length)(Y:b.drop A=gj l++q):k8 b A=(l,((A+(gj l).length:Nat):Int),0,()):=by unfold k8;rw[if_neg J,i0,ajE h Y,Int.natCast_add]
def ajF{c:V}{a':Int}{l:List Int}(h:pq c a=(l,a',0,())):h7 1 l=true/\a'=a+((gj l).length:Int)/\(gj l).length<=c.length/\c=gj l++c.drop (gj l).length:=by
 unfold pq at h;by_cases ao:c.length<8\/(iA c 1=true/\c.length<16)
 .grind
 rw[if_neg ao]at h;have Md:∀size:Nat,size=8\/size=16->size<=c.length->(iA c 1=true↔size=16)->l=(hQ (c.take size)).map Int.ofNat->(size=16->¬(65∈hQ (c.take 16)\/∀n∈hQ (c.take 16),n<65))->h7 1 l=true/\gj l=c.take size:=by
  intro size ac aqZ O hl mK;have tY:(c.take size).length=size:=by rw[hE];omega
  have ah:h7 1 l=true:=by
   rw[hl];refine av8 (adA _) λn aj => ?_;obtain⟨k,ap,rfl⟩:=m1.1 aj;obtain⟨bF,b3,dp⟩:=As.1 ap
   grind
  have bb:lW l=true↔size=16:=by
   rw[ahz ah,hl];constructor
   .rintro⟨n,aj,O⟩
    obtain⟨k,ap,rfl⟩:=m1.1 aj;obtain⟨bF,_⟩:=As.1 ap
    grind
   intro nY;subst nY;refine k2 λai=>mK rfl (.inr λn aj=>k2 λbm=>ai ⟨(n:Int),m1.2 ⟨n,aj,rfl⟩,J⟩)
  refine⟨ah,?_⟩;have dD:(gj l).length=size:=by
   rw[qe]
   grind
  refine afd (by rw[dD,tY]) λn vP qD => ?_;rw[Kd ah vP qD];rw[hl];by_cases n1:n=1
  .subst n1
   have aF:decide (((1:Nat):Int)∈(hQ (c.take size)).map Int.ofNat)=false:=decide_eq_false λai=>by
    obtain⟨k,ap,re⟩:=m1.1 ai;have:=(As.1 ap).2.1
    grind
   rw[aF,aa3 J J aqZ,<- hl];exact pd.2 (bb.trans O.symm)
  have Y:Nat.beq n 1=false:=(yT _).mp λY=>n1 (fy Y);rw[Y,JN,Jy];refine pd.2 ?_;rw[decide_eq_true_eq,m1];constructor
  .rintro⟨k,ap,re⟩
   have:k=n:=by simp at re;omega
   subst this;exact(As.1 ap).2.2
  intro hh;exact⟨n,As.2 ⟨by rw[tY];omega,J,hh⟩,rfl⟩
 by_cases O:iA c 1=true
 .rw[if_pos O]at h
  by_cases mK:65∈hQ (c.take 16)\/∀n∈hQ (c.take 16),n<65
  .rw[if_pos mK]at h;simp at h
  rw[if_neg mK]at h;simp at h;have nY:16<=c.length:=by refine k2 λai=>ao (.inr ⟨O,J⟩)
  obtain⟨eG,gr⟩:=Md 16 (.inr rfl) nY (iff_of_true O rfl) h.1.symm (λ_=>mK);have dD:(gj l).length=16:=by rw[gr,hE];omega
  rw[dD];refine⟨eG,h.2.symm,nY,?_⟩;rw[gr,EV]
 rw[if_neg O]at h;simp at h;obtain⟨eG,gr⟩:=Md 8 (.inl rfl) J (iff_of_false O J) h.1.symm (λe=>absurd e J);have dD:(gj l).length=8:=by rw[gr,hE];omega
 rw[dD];refine⟨eG,h.2.symm,J,?_⟩;rw[gr,EV]
def ahI{v:b0}(aK:fK v.1=some (k,l))(aC:g2 k l v.2.1):hR v=kY k v.2.1:=by unfold hR rR;rw[aK];simp only[if_pos aC]
def avx{v:b0}{b q:V}(hf:gB v.1 v.2.1=true)(dn:A<=b.length)(h:b.drop A=hR v++q):jo v.1 b A=(v.2.1,((A+(hR v).length:Nat):Int),0,()):=by obtain⟨k,l,aK,aC⟩:=va.1 hf;rw[ahI aK aC]at h ⊢;unfold jo;rw[aK];exact avz aK dn aC h
def avy{v b:V}{I:Int}(dn:A<=b.length)(h:jo no b A=(v,I,0,())):gB no v=true/\I=((A+(hR (no,v,())).length:Nat):Int)/\A+(hR (no,v,())).length<=b.length/\b.drop A=hR (no,v,())++b.drop (A+(hR (no,v,())).length):=by
 cases aK:fK no with
 |none=>unfold jo at h;rw[aK]at h;simp at h
 |some p=>
  obtain⟨k,l⟩:=p;have bL:x1 k l b A=(v,I,0,()):=by unfold jo at h;rw[aK]at h;exact h
  obtain⟨bD,cn,gJ,Ai⟩:=avA aK dn bL;rw[ahI (v:=(no,v,())) aK bD];exact⟨va.2 ⟨k,l,aK,bD⟩,cn,gJ,Ai⟩
def aeP{b:V}:∀{l:List b0} {A:Nat} {F:List b0} {q:V},(∀v∈l,gB v.1 v.2.1=true)->A<=b.length->b.drop A=l.flatMap hR++q->pU b (iE l) A F=(none,((A+(l.flatMap hR).length:Nat):Int),F++l)
 |[],A,F,q,_,_,_=>by simp[pU,iE]
 |v::r,A,F,q,hf,dn,h=>by rw[yQ,gt]at h;have O:=avx (hf v bh) dn h;have R:=Cp dn h;simp only[iE,pj,pU];rw[O];have:=aeP (F:=F++[(v.1,v.2.1,())]) (λu aL=>hf u (by grind)) R.1 R.2;rw[show r.map (λv=>v.1)=iE r from rfl,this,yQ,cG,jv];simp
def aeQ{b:V}:∀{Mu:List Int} {A:Nat} {F ws:List b0} {a':Int},A<=b.length->pU b Mu A F=(none,a',ws)->∃l:List b0,ws=F++l/\iE l=Mu/\(∀v∈l,gB v.1 v.2.1=true)/\a'=((A+(l.flatMap hR).length:Nat):Int)/\A+(l.flatMap hR).length<=b.length/\b.drop A=l.flatMap hR++b.drop (A+(l.flatMap hR).length)
 |[],A,F,ws,a',dn,h=>by obtain⟨rfl,rfl⟩:=h;exact⟨[],bh,rfl,bh,bh,by simpa using dn,bh⟩
 |n::r,A,F,ws,a',dn,h=>by
  simp only[pU]at h;by_cases ao:(jo n b A).2.2.1=0
  .rw[if_pos ao]at h
   rcases hx:jo n b A with⟨v,I,e,u⟩;rw[hx]at ao h;subst ao;obtain⟨bD,cn,gJ,Ai⟩:=avy dn hx;subst cn;obtain⟨l,eW,f7,oS,Ac,Hq,De⟩:=aeQ gJ h;refine⟨(n,v,())::l,by rw[eW];simp,by simp only[iE];rw[<- f7];rfl,λw bb => ?_,?_,?_,?_⟩
   .grind
   .grind
   .grind
   grind
  grind
def av5{l:List b0}:∀{last:Int},h7 last (iE l)=true->(∀v∈l,gB v.1 v.2.1=true)->fD last l=true:=by
 induction l with
 |nil=>intros;rfl
 |cons x r ih =>intro last h hf;simp only[iE,pj,h7,cM,decide_eq_true_eq]at h;simp only[fD,cM,decide_eq_true_eq];exact⟨h.1.1,hf x bh,ih h.2 λv aC=>hf v (by grind)⟩
def av6{l:List b0}{acF:Int}(hl:acF<=last)(h:fD last l=true):fD acF l=true:=by
 cases l with
 |nil=>rfl
 |cons x r=>
  simp only[fD,cM,decide_eq_true_eq]at h ⊢
  grind
def aeO{b:V}:∀{Mu:List Int} {A:Int} {F ws:List b0} {a' e:Int},pU b Mu A F=(some e,a',ws)->¬e=0
 |[],A,F,ws,a',e,h=>by simp[pU]at h
 |n::r,A,F,ws,a',e,h=>by
  simp only[pU]at h;by_cases ao:(jo n b A).2.2.1=0
  .rw[if_pos ao]at h;exact aeO h
  rw[if_neg ao]at h;simp only[kH,km]at h;rw[<- h.1];exact ao
def ayq(h:ig m):val (aZ 10 dI m.toNat 4)=m.toNat:=by unfold ig at h;rw[N7,lY J]
def axO{b q:V}(h:ig m)(Y:b=rL m++q):iX b 0 4=(aZ 10 dI m.toNat 4,2,0,()):=by have:=VA (b:=b) (s:=aZ 10 dI m.toNat 4) (q:=q) (I:=0) (fI _) (by rw[lm];omega) zp Y;rw[lm]at this;exact this
def ar5{l:List b0}(h:∀v∈l,gB v.1 v.2.1=true):∀n∈iE l,(fK n).isSome=true:=by
 intro n aj;obtain⟨v,aC,rfl⟩:=m1.1 aj;obtain⟨k,l,aK,_⟩:=va.1 (h v aC)
 grind
def pW{m:M}:jJ m=true↔fD 0 m.2.1=true/\ig m.1:=by unfold jJ;rw[cM,decide_eq_true_eq]
def avC{m:M}{q:V}(h:jJ m=true):fw (gO m++q)=if q=[]then(m,0,()) else(lP,4,()):=by
 obtain⟨dW,ht⟩:=pW.1 h;have hK:=λv aC=>(v8 dW v aC).2;have hL:=UA dW;have e:gO m++q=rL m.1++(gj (iE m.2.1)++(m.2.1.flatMap hR++q)):=by unfold gO;simp
 generalize Y:gO m++q=b at *
 have aq:=axO ht e;have tY:=Bk (m:=m.1);have aF:=Cp (b:=b) (A:=0) (fI _) e;rw[ tY]at aF;have ah:=ajG hL aF.1 aF.2;have xl:=Cp aF.1 aF.2;have qr:=aeP (F:=[]) hK xl.1 xl.2;have azs:=Cp xl.1 xl.2;unfold fw;rw[aq,if_neg bh];rw[ayq ht,Int.toNat_of_nonneg (by unfold ig at ht;omega),if_pos ht];replace ah:k8 b 2=_:=ah;rw[ah,if_neg bh];unfold DT;rw[if_pos (ar5 hK),qr]
 grind
def MW{b:V}{m:M}(h:fw b=(m,0,())):jJ m=true/\gO m=b:=by
 unfold fw at h;by_cases ao:(iX b 0 4).2.2.1≠0
 .grind
 rw[if_neg ao]at h;rcases Bb (b:=b) (I:=0) (N:=4) (fI _) J with⟨_,e⟩|⟨_,e,_⟩|⟨s,aq,e,hf,ac,xq⟩
 .grind
 .grind
 replace e:iX b 0 4=(s,2,0,()):=e;rw[e]at h;by_cases ht:ig (val s:Int)
 .rw[if_pos ht]at h
  have SK:rL (val s:Int)=f9 (er s):=by unfold rL;rw[i0,<- ac,aew hf]
  have aF:b.drop 0=rL (val s:Int)++b.drop 2:=by rw[SK];exact KG xq
  rw[nD]at aF;by_cases bj:(k8 b 2).2.2.1≠0
  .grind
  rw[if_neg bj]at h;rcases hx:k8 b 2 with⟨l,a',FX,u⟩;rw[hx]at h bj;simp at bj h;subst bj;have cx:pq (b.drop 2) 2=(l,a',0,()):=by unfold k8 at hx;rw[if_neg J]at hx;exact hx
  obtain⟨c1,c2,hw,c4⟩:=ajF cx;rw[e?]at hw;rw[qX]at c4;unfold DT at h;by_cases aK:∀n∈l,(fK n).isSome=true
  .rw[if_pos aK]at h
   have RW:a'=((2+(gj l).length:Nat):Int):=J;rw[RW]at h;rcases qr:pU b l ((2+(gj l).length:Nat):Int) []with⟨_|FX,cR,F⟩
   .rw[qr]at h
    simp only at h;obtain⟨L,eW,f7,oS,Ac,Hq,De⟩:=aeQ J qr;by_cases bm:cR<(b.length:Int)
    .rw[if_pos bm]at h;simp at h
    rw[if_neg bm]at h;simp at h;subst eW;have f6:b.drop (2+(gj l).length+(F.flatMap hR).length)=[]:=O5 J;rw[f6,hF]at De;rw[<- h];refine⟨pW.2 ⟨av6 J (av5 (last:=1) (by rw[f7];exact c1) oS),ht⟩,?_⟩;unfold gO;rw[f7,<- De,<- c4,<- aF]
   rw[qr]at h;simp at h;exact absurd h.2 (aeO qr)
  rw[if_neg aK]at h;simp at h
 rw[if_neg ht]at h;simp at h
def avB{b:V}:(fw b).2.1=0\/(fw b).1=lP:=by
 unfold fw;by_cases ao:(iX b 0 4).2.2.1≠0
 .grind
 by_cases ht:ig (val (iX b 0 4).1:Int)
 .rw[if_pos ht]
  by_cases bj:(k8 b 2).2.2.1≠0
  .grind
  unfold DT
  grind
 grind
def JU:=@List.filter_eq_nil_iff
def nW(m:M):Prop:=m.2.1.length<=40/\∀v∈m.2.1,v.2.1.length<=450
def nW.w?{m:M}(h:nW m):w? m:=⟨by have:=h.1;omega,λv aC=>by have:=h.2 v aC;omega⟩
def avD{b:V}:(fw b).1.2.1.length<=1000:=by
 rcases avB (b:=b) with h|h
 .rcases hx:fw b with⟨m,e,u⟩
  rw[hx]at h;subst h;have ah:=(pW.1 (MW hx).1).1;have hL:=UA ah;have ac:=ae4 hL;have hm:=AU hL;have cr:(iE m.2.1).length<=128:=by
   have key:∀(l:List Int) (lo:Int),l.Pairwise (· < ·)->(∀n∈l,lo<n/\n<=128)->(l.length:Int)<=128-lo\/l=[]:=by
    intro l;induction l with
    |nil=>intros;exact .inr rfl
    |cons x r ih=>
     intro lo hp h;rw[ET]at hp;have hx:=h x bh;rcases ih x hp.2 (λn aj=>⟨hp.1 n aj,(h n (by grind)).2⟩) with O|O
     .grind
     grind
   rcases key _ 1 ac (λn aj=>⟨(hm n aj).1,(hm n aj).2.1⟩) with O|O
   .omega
   grind
  simp only[iE,ov]at cr
  grind
 rw[h];simp[lP]
def av3{l:List b0}(h:fD last l=true):∀v∈l,last<v.1:=λv aC=>(v8 h v aC).1
def an4{l:List b0}(hl:no<=last)(h:fD last l=true):hI no l=([],false,()):=by
 induction l generalizing last with
 |nil=>rfl
 |cons v r ih=>
  simp only[fD,cM,decide_eq_true_eq]at h;unfold hI
  grind
def Rt{l:List b0}:∀{last:Int},fD last l=true->getD l no=hI no l:=by
 induction l with
 |nil=>intros;rfl
 |cons v r ih=>
  intro last h;simp only[fD,cM]at h;unfold hI;by_cases ai:no<=v.1
  .have ao:gc no (v::r)=0:=by unfold gc;rw[if_pos ai]
   have O:jR no (v::r)=decide (v.1=no):=by unfold jR;rw[if_pos ai]
   unfold getD;rw[ao,O];by_cases aA:v.1=no
   .rw[if_pos aA,decide_eq_true aA];rfl
   rw[if_neg aA,decide_eq_false aA,if_neg bh,an4 J h.2.2]
  have ao:gc no (v::r)=gc no r+1:=by conv=>{ lhs;unfold gc };rw[if_neg ai]
  have O:jR no (v::r)=jR no r:=by conv=>{ lhs;unfold jR };rw[if_neg ai]
  rw[if_neg J,<- ih h.2.2];unfold getD;rw[ao,O];rfl
def ZQ{l:List b0}(hl:no<=last)(h:fD last l=true):l.filter (λv=>decide (v.1<no))=[]/\l.filter (λv=>decide (no<v.1))=l/\l.filter (λv=>!(decide (v.1=no)))=l:=by have hg:=av3 h;refine⟨JU.2 λv aC => ?_,List.filter_eq_self.2 λv aC => ?_,List.filter_eq_self.2 λv aC => ?_⟩<;>have:=hg v aC<;>simp<;>omega
def ayB{l:List b0}{x:b0}:∀{last:Int},fD last l=true->yz l x=v? l x:=by
 induction l with
 |nil=>intros;rfl
 |cons v r ih=>
  intro last h;simp only[fD,cM]at h;by_cases ai:x.1<=v.1
  .have ao:gc x.1 (v::r)=0:=by unfold gc;rw[if_pos ai]
   have O:jR x.1 (v::r)=decide (v.1=x.1):=by unfold jR;rw[if_pos ai]
   obtain⟨f1,f2,_⟩:=ZQ (no:=x.1) ai h.2.2;unfold yz v?
   grind
  have ao:gc x.1 (v::r)=gc x.1 r+1:=by conv=>{ lhs;unfold gc };rw[if_neg ai]
  have O:jR x.1 (v::r)=jR x.1 r:=by conv=>{ lhs;unfold jR };rw[if_neg ai]
  have ah:=ih h.2.2;unfold yz v? at ah ⊢
  grind
def aeR{m:M}(ah:jJ m=true):fw (gO m)=(m,0,()):=by have:=avC (q:=[]) ah;rw[hF]at this;exact this
def Mh{n:N}(ah:i? n):jJ (jF n)=true:=by
 obtain⟨jZ,c,cJ,rs,g,no,k,d,⟨⟩⟩:=n;have gD:=uu.1 ah;obtain⟨ai,bp,ax,eG,gr,sR,ap⟩:=gD;have f11:=λn=>sf (no:=11) (w:=6) (n:=n) CB J;have f15:=λn=>sf (no:=15) (w:=6) (n:=n) Rg J;have f39:=λn=>sf (no:=39) (w:=2) (n:=n) K_ J;have f53:=λn=>sf (no:=53) (w:=16) (n:=n) Z5 J;have f70:=λn=>sf (no:=70) (w:=3) (n:=n) Rh J;unfold jF jJ;cases jZ
 .simp[fD,f11,f39,f70,ig]
 by_cases O:c=101
 .subst O
  obtain⟨g1,bw,aj,zK,aF⟩:=ap;simp[fD,f11,f53,f70,Z1 zK,Z2 aj,ig]
 by_cases R:c=201
 .subst R
  simp[fD,f11,f15,f70,ig]
 simp[fD,f11,f70,ig,O,R]
def ac8{n:N}(ah:i? n):nW (jF n):=by
 obtain⟨jZ,c,cJ,rs,g,no,k,d,⟨⟩⟩:=n;have gD:=uu.1 ah;obtain⟨ai,bp,ax,eG,gr,sR,ap⟩:=gD;unfold jF nW;cases jZ
 .simp[na]
 by_cases O:c=101
 .subst O
  obtain⟨g1,bw,aj,zK,aF⟩:=ap;simp[na,nh,zK,aj]
 by_cases R:c=201
 .subst R
  simp[na]
 simp[na,O,R]
def mr(n:N):V×Int×Unit:=if i? n then(gO (jF n),0,()) else([],1,())
def Ms(n:N):pQ (n,())=some (mr n):=by
 unfold pQ mr;by_cases h:i? n
 .simp only[go_sem,TC,cF h,adv h,S0 (jF n) (ac8 h).w?,Mh h]
  grind
 simp only[go_sem,TC,cE h]
 grind
def xL:N:=(false,0,0,0,0,[],[],0,())
def Fh(n:N)(r:Int):N×Int×Unit:=if n.1=false then(xL,9,()) else if r<0\/99<r then(xL,1,()) else((false,n.2.1,n.2.2.1,r,0,[],[],0,()),0,())
def TB(n:N)(r:Int):qE (n,r,())=some (Fh n r):=by
 obtain⟨cI,cR,a3,a4,a5,ay1,ay2,ay3,⟨⟩⟩:=n;unfold qE Fh xL;cases cI<;>by_cases h:r<0\/99<r
 all_goals simp only[go_sem,h]
 all_goals simp[h]
def ol(v:V):Int:=if 1<=v.length/\v.length<=18/\fY v then((val v:Nat):Int) else 0
def Br(s:V):V:=if s.length%2=0/\zI s then oj s else[]
def mJ(m:M)(no:Int):V:=(hI no m.2.1).1
def qM(m:M):N:=(D (m.1=800),ol (mJ m 70),ol (mJ m 11),ol (mJ m 39),ol (mJ m 53),mJ m 96,Br (mJ m 48),ol (mJ m 15),())
def ls(b:V):N×Int×Unit:=if(fw b).2.1=0 then(if i? (qM (fw b).1)/\jF (qM (fw b).1)=(fw b).1 then(qM (fw b).1,0,()) else(xL,2,())) else(xL,(fw b).2.1,())
def an5{l:List b0}:(hI no l).1=[]\/∃v∈l,v.1=no/\(hI no l).1=v.2.1:=by
 induction l with
 |nil=>exact .inl rfl
 |cons v r ih=>
  unfold hI
  grind
def anG(h:fK no=some (k,l)):l<=400:=by
 unfold fK at h;rw[k4]at h;have:∀r∈F9,ak r 1 0<=400:=bP
 grind
def Re{v:V}(h:gB no v=true):v.length<=400:=by
 obtain⟨k,l,O,R⟩:=va.1 h;have:=anG O;have af:=R.2;unfold kM at af
 grind
def an3{m:M}(ah:jJ m=true)(no:Int):(hI no m.2.1).1.length<=400:=by
 rcases an5 (l:=m.2.1) (no:=no) with h|⟨v,aC,_,h⟩
 .grind
 rw[h];exact Re (v8 (pW.1 ah).1 v aC).2
def Ja(s:V):∃e,r9 (s,())=some (ol s,e,()):=by rw[FQ];unfold ol;split<;>exact⟨_,rfl⟩
def ayg(s:V)(hl:s.length<=1000000):∃e,Cn (s,())=some (Br s,e,()):=by rw[QQ _ hl];unfold Br;split<;>exact⟨_,rfl⟩
def adt(b:V)(hl:b.length<=1000000):Dx (b,())=some (ls b):=by
 unfold Dx ls;refine bg (SZ b hl) ?_;by_cases ao:(fw b).2.1=0
 .obtain⟨m,hm⟩:∃m,fw b=(m,0,()):=⟨(fw b).1,by rw[<- ao]⟩
  obtain⟨ah,bb⟩:=MW hm;have zL:=avD (b:=b);rw[hm]at zL ⊢;have hf:=(pW.1 ah).1;have g:∀no,qy (m,no,())=some (hI no m.2.1):=λno=>by rw[SY m no (by grind),Rt hf]
  have gl:=an3 ah;obtain⟨e1,v70⟩:=Ja (mJ m 70);obtain⟨aN,Bt⟩:=Ja (mJ m 11);obtain⟨dJ,N4⟩:=Ja (mJ m 39);obtain⟨gQ,N5⟩:=Ja (mJ m 53);obtain⟨oJ,N3⟩:=Ja (mJ m 15);obtain⟨KJ,ahp⟩:=ayg (mJ m 48) (by have:=gl 48;unfold mJ;omega);unfold mJ at v70 Bt N4 N5 N3 ahp;simp only[go_sem,g,v70,Bt,N4,N5,N3,ahp,TC];show T (D (¬i? (qM m))) (some (xL,2,())) (ob (Dy (qM m,())) λPd=>ob (He (Pd.1,m,())) λPe=>T (a_ Pe.1) (some (xL,2,())) (some (qM m,0,())))=_;by_cases aj:i? (qM m)
  .rw[cE (λh=>h aj)]
   have ac:=asb (jF (qM m)) m (by have:=(ac8 aj).1;omega);simp only[go_sem,adv aj,ac];by_cases aA:jF (qM m)=m
   .rw[if_pos ⟨aj,aA⟩,cE (λh=>h aA)];rfl
   rw[if_neg (λh=>aA h.2),cF aA];rfl
  rw[if_neg (λh=>aj h.1),cF aj];rfl
 rw[if_neg ao];simp only[go_sem,ao];rfl
def ayS{b:V}{m:M}{n:N}(hm:fw b=(m,0,()))(aj:i? n):gO (jF n)=b↔jF n=m:=by
 obtain⟨ah,bb⟩:=MW hm;constructor
 .intro h
  have:=aeR (Mh aj)
  grind
 grind
def I?{n:Int}(O:1<=w)(R:w<=18)(ao:0<=n)(h:n<10^w):ol (de n w)=n:=by unfold ol;rw[if_pos ⟨by rw[na];exact O,by rw[na];exact R,QM⟩];exact amr ao h
def N6:ol []=0:=by unfold ol;rw[if_neg bh]
def VT:Br []=[]:=by unfold Br;split<;>rfl
def ayf{b:V}:Br (eV b)=b:=by unfold Br;rw[if_pos ⟨by rw[nh];omega,R9 b⟩,ahu]
def avE{n:N}(ah:i? n):qM (jF n)=n:=by
 obtain⟨jZ,c,cJ,rs,g,no,k,d,⟨⟩⟩:=n;obtain⟨ai,bp,ax,eG,gr,sR,ap⟩:=uu.1 ah;have ng:0<=c/\c<=301:=by unfold pM at ai;omega
 have Bt:ol (de cJ 6)=cJ:=I? J J J J;have v70:ol (de c 3)=c:=I? J J J J;have N4:ol (de rs 2)=rs:=I? J J J J;unfold qM mJ jF;simp at ap;cases jZ
 .simp at ap
  obtain⟨O,R,af,aq⟩:=ap;subst O R af aq;simp[hI,Bt,v70,N4,N6,VT,D]
 have vz:=sR rfl;subst vz;by_cases O:c=101
 .subst O
  obtain⟨g1,bw,aj,zK,aF⟩:=ap;subst aF;have N5:ol (de g 16)=g:=I? J J J J;simp[hI,Bt,v70,N5,N6,ayf,D]
 rw[if_neg J]at ap;by_cases R:c=201
 .subst R
  obtain⟨af,aq,a8,k?,mB⟩:=ap;subst af aq a8;have N3:ol (de d 6)=d:=I? J J J J;simp[hI,Bt,v70,N3,N6,VT,D]
 rw[if_neg J]at ap;obtain⟨af,aq,a8,cT⟩:=ap;subst af aq a8 cT;simp[hI,Bt,v70,N6,VT,D,O,R]
def MX{n:N}(ah:i? n):ls (gO (jF n))=(n,0,()):=by unfold ls;rw[aeR (Mh ah),avE ah,if_pos rfl,if_pos ⟨ah,rfl⟩]
def awX{v x:b0}{r:List b0}(h:fD v.1 r=true):v? (v::r) x=if v.1<x.1 then v::v? r x else if v.1=x.1 then x::r else x::v::r:=by
 unfold v?;by_cases O:v.1<x.1
 .grind
 obtain⟨f1,f2,_⟩:=ZQ (no:=x.1) J h
 grind
def awY{l:List b0}{x:b0}(hx:gB x.1 x.2.1=true):∀{last:Int},last<x.1->fD last l=true->fD last (v? l x)=true:=by
 induction l with
 |nil=>intro last O _;simp[v?,fD,O,hx]
 |cons v r ih=>
  intro last O h;have bL:=h;simp only[fD,cM,decide_eq_true_eq]at bL;rw[awX bL.2.2];by_cases R:v.1<x.1
  .rw[if_pos R]
   simp only[fD,cM,decide_eq_true_eq]
   grind
  rw[if_neg R];by_cases af:v.1=x.1
  .rw[if_pos af]
   simp only[fD,cM,decide_eq_true_eq]
   grind
  rw[if_neg af];simp only[fD,cM,decide_eq_true_eq]
  grind
end Yp