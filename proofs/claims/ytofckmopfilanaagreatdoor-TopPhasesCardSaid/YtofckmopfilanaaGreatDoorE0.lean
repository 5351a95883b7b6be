/- A part of the proof of the statements of this seat: the engine that turns code into plain functions, and its soundness. No condition of its own. -/
import Derived.WalkKit
import Derived.ChangeKeysEq
set_option linter.unusedVariables false
set_option linter.unusedSimpArgs false
set_option linter.defProp false
noncomputable section
variable {eT eW:Bool}{l:List UInt8}{L N a b d f i j k m n o off:Nat}{α β:Type}
namespace Yp
def J{p:Prop}(h:p:=by omega):p:=h
def bp{p:Prop}(h:p:=by simp):p:=h
def bO{p:Prop}(h:p:=by decide):p:=h
def fK{p:Prop}(h:p:=by simp;omega):p:=h
end Yp
namespace Yp
open Go
def mi:=@List.cons_append
def i64(n:Int):Int:=IntKind.i64.wrap n
def HX(n:Int):Int:=IntKind.i32.wrap n
def ad7(n:Int):Int:=IntKind.i16.wrap n
def ad8(n:Int):Int:=IntKind.i8.wrap n
def u8(n:Int):UInt8:=UInt8.ofInt n
def u16(n:Int):UInt16:=UInt16.ofInt n
def u32(n:Int):UInt32:=UInt32.ofInt n
def u64(n:Int):UInt64:=UInt64.ofInt n
def aO(x:UInt8):Int:=(x.toNat:Int)
def Iy(x:UInt16):Int:=(x.toNat:Int)
def a8(x:UInt32):Int:=(x.toNat:Int)
def cL(x:UInt64):Int:=(x.toNat:Int)
def ae(n:Int):Nat:=n.toNat
def bi(n:Nat):Int:=(n:Int)
def aE(a b:Int):Int:=a+b
def bq(a b:Int):Int:=a-b
def fv(a b:Int):Int:=a*b
def gd(a b:Int):Int:=Int.tdiv a b
def fR(a b:Int):Int:=Int.tmod a b
def bI(a b:Nat):Nat:=a+b
def cc(a b:Nat):Nat:=a-b
def kz(a b:Nat):Bool:=Nat.blt a b
def bX(a b:Nat):Bool:=Nat.beq a b
def bg(a:Bool):Bool:=!a
def c3(a b:Bool):Bool:=a&&b
def mW(a b:Bool):Bool:=a||b
def z_(a b:Bool):Bool:=a==b
def aH(a b:Int):Bool:=decide (a<b)
def b3(a b:Int):Bool:=decide (a<=b)
def aj(a b:Int):Bool:=a==b
def seq(a b:List UInt8):Bool:=a==b
def aR(α:Type):List α:=[]
def aV{α:Type}(l:List α):Nat:=l.length
def ci(c n:Nat):Bool:=decide (n*c<=140737488355328)
def aN(i:Int)(n:Int):Bool:=decide (0<=i)&&decide (i<n)
def b8(lo ac n:Int):Bool:=decide (0<=lo)&&decide (lo<=ac)&&decide (ac<=n)
def f6(a b:Int):Int:=if b<a then b else a
def c6(a b:Int):Int:=if b > a then b else a
def i9(k:IntKind)(x y:Int):Int:=((BitVec.ofInt k.bits x&&&BitVec.ofInt k.bits y).toNat:Int)
def g'(k:IntKind)(x y:Int):Int:=((BitVec.ofInt k.bits x|||BitVec.ofInt k.bits y).toNat:Int)
def fT(k:IntKind)(x y:Int):Int:=((BitVec.ofInt k.bits x^^^BitVec.ofInt k.bits y).toNat:Int)
def IC(k:IntKind)(x y:Int):Int:=((BitVec.ofInt k.bits x &&& ~~~(BitVec.ofInt k.bits y)).toNat:Int)
def h0(k:IntKind)(x y:Int):Int:=x*2^(Nat.min y.toNat k.bits)
def fO(k:IntKind)(x y:Int):Int:=Int.fdiv x (2^(Nat.min y.toNat k.bits))
def h?(s:List UInt8)(i:Nat):Nat×Nat:=Utf8.decode ⟨s.toArray⟩ i
def x6(a b:List UInt8):Bool:=Op.bytesLess a b
def sub{α:Type}(l:List α)(lo ac:Int):List α:=(l.drop lo.toNat).take (ac.toNat-lo.toNat)
def mT{α:Type}(f:α->α->Bool)(a b:List α):Bool:=(a.zip b).all λp=>f p.1 p.2
def cg{α:Type}(l m:List α):List α:=l++m
def ao{α:Type}(l:List α)(i:Nat)(d:α):α:=l.getD i d
def cn{α:Type}(l:List α)(i:Nat)(x:α):List α:=l.set i x
def bR{α:Type}(n:Nat)(x:α):List α:=List.replicate n x
def cut{α:Type}(l:List α)(off n:Nat):List α:=(l.drop off).take n
def len{α:Type}(l:List α):Int:=(l.length:Int)
def T{α:Type}(c:Bool)(a b:α):α:=bif c then a else b
def an{α:Type}(c:Bool)(a:Option α):Option α:=bif c then a else none
def ob{α β:Type}(o:Option α)(k:α->Option β):Option β:=match o with|some a=>k a|none=>none
def bG:IntKind->Type
 |.u8=>UInt8|.u16=>UInt16|.u32=>UInt32|.u64=>UInt64
 |.i8=>Int|.i16=>Int|.i32=>Int|.i64=>Int
def bG.of:(k:IntKind)->Int->bG k
 |.u8,n=>u8 n|.u16,n=>u16 n|.u32,n=>u32 n|.u64,n=>u64 n
 |.i8,n=>ad8 n|.i16,n=>ad7 n|.i32,n=>HX n|.i64,n=>i64 n
def bG.lit:(k:IntKind)->Int->bG k
 |.u8,n=>u8 n|.u16,n=>u16 n|.u32,n=>u32 n|.u64,n=>u64 n
 |.i8,n=>n|.i16,n=>n|.i32,n=>n|.i64,n=>n
def bG.to:(k:IntKind)->bG k->Int
 |.u8,x=>aO x|.u16,x=>Iy x|.u32,x=>a8 x|.u64,x=>cL x
 |.i8,x=>x|.i16,x=>x|.i32,x=>x|.i64,x=>x
def bG.zero:(k:IntKind)->bG k
 |.u8=>u8 0|.u16=>u16 0|.u32=>u32 0|.u64=>u64 0
 |.i8=>(0:Int)|.i16=>(0:Int)|.i32=>(0:Int)|.i64=>(0:Int)
inductive ag where
 |bool|int (k:IntKind)|str|sl (e:ag)|unit|pair (a b:ag)|ar (n:Nat) (e:ag)
 |op (k:Nat)
 |fn (l:List Nat)
 deriving Inhabited
def ag.aG:ag->Type
 |.bool=>Bool
 |.int k=>bG k
 |.str=>List UInt8
 |.sl e=>List e.aG
 |.unit=>Unit
 |.pair a b=>a.aG×b.aG
 |.ar _ e=>List e.aG
 |.op _=>Unit
 |.fn _=>Nat
def ag.zero:(t:ag)->t.aG
 |.bool=>false
 |.int k=>bG.zero k
 |.str=>([]:List UInt8)
 |.sl e=>([]:List e.aG)
 |.unit=>()
 |.pair a b=>(a.zero,b.zero)
 |.ar n e=>List.replicate n e.zero
 |.op _=>()
 |.fn _=>(0:Nat)
instance (t:ag):Inhabited t.aG:=⟨t.zero⟩
def ag.size:ag->Nat
 |.bool=>1|.int _=>1|.str=>1|.sl _=>1|.unit=>0
 |.pair a b=>a.size+b.size
 |.ar n e=>n*e.size
 |.op _=>1|.fn _=>1
def ag.bytes:ag->Nat
 |.bool=>1|.int .u8=>1|t=>24*t.size+8
def ag.isAgg:ag->Bool
 |.unit=>true|.pair _ _=>true|.ar _ _=>true|_=>false
def ag.mY:ag->Bool
 |.sl _=>false|.pair a b=>a.mY&&b.mY|.ar _ e=>e.mY|_=>true
def ag.same:(a b:ag)->Option (PLift (a=b))
 |.bool,.bool=>some ⟨rfl⟩
 |.str,.str=>some ⟨rfl⟩
 |.unit,.unit=>some ⟨rfl⟩
 |.int k,.int k'=>if h:k=k' then some ⟨h▸rfl⟩ else none
 |.sl a,.sl b=>match ag.same a b with|some ⟨h⟩=>some ⟨h▸rfl⟩|none=>none
 |.pair a b,.pair c d=>match ag.same a c,ag.same b d with|some ⟨h⟩,some ⟨bE⟩=>some ⟨h▸bE▸rfl⟩|_,_=>none
 |.ar n a,.ar m b=>if h:n=m then(match ag.same a b with|some ⟨bE⟩=>some ⟨h▸bE▸rfl⟩|none=>none) else none
 |.op k,.op k'=>if h:k=k' then some ⟨h▸rfl⟩ else none
 |.fn k,.fn k'=>if h:k=k' then some ⟨h▸rfl⟩ else none
 |_,_=>none
def ag.is(a b:ag):Bool:=(ag.same a b).isSome
def ag.cast(a b:ag)(x:a.aG):Option b.aG:=match ag.same a b with|some ⟨h⟩=>some (h▸x)|none=>none
def ag.ly(a b:ag)(x:List a.aG):Option (List b.aG):=match ag.same a b with|some ⟨h⟩=>some (h▸x)|none=>none
def ag.oS:(t:ag)->t.aG->t.aG->Bool
 |.bool,a,b=>z_ a b
 |.int k,a,b=>aj (bG.to k a) (bG.to k b)
 |.str,a,b=>seq a b
 |.sl _,_,_=>false
 |.unit,_,_=>true
 |.pair s t,a,b=>c3 (s.oS a.1 b.1) (t.oS a.2 b.2)
 |.ar _ e,a,b=>mT (λp q=>e.oS p q) (a:List e.aG) (b:List e.aG)
 |.op _,_,_=>false
 |.fn _,_,_=>false
def nc:Nat->ag
 |0=>.unit|n+1=>.pair (.op 3) (nc n)
inductive eC where
 |im (t:ag)
 |ow (e:ag)
 |cl (e:ag)
 deriving Inhabited
def eC.aG:eC->Type
 |.im t=>t.aG|.ow e=>List e.aG|.cl e=>List e.aG
def iu:List ag->Type
 |[]=>Unit|t::ts=>t.aG×iu ts
def eq:List eC->Type
 |[]=>Unit|t::ts=>t.aG×eq ts
def eC.zero:(t:eC)->t.aG
 |.im t=>t.zero|.ow e=>([]:List e.aG)|.cl e=>([]:List e.aG)
def zI:(l:List eC)->eq l
 |[]=>()|t::ts=>(t.zero,zI ts)
instance (l:List eC):Inhabited (eq l):=⟨zI l⟩
def eC.mY:eC->Bool
 |.im t=>t.mY|_=>false
structure e6 where
 args:List ag
 res:List eC
 fn:iu args->Option (eq res)
structure i5 where
 ty:ag
 args:List ag
 res:List eC
 fn:ty.aG×iu args->Option (ty.aG×eq res)
structure oJ where
 ty:ag
 args:List ag
 rt:ag
 ks:List Nat
 fn:ty.aG×iu args->Option (ty.aG×Nat×eq [.im rt])
def D9:List (Nat×oJ)->Nat->Option oJ
 |[],_=>none
 |(i,t)::r,j=>bif Nat.beq i j then some t else D9 r j
def yS:List (Nat×i5)->Nat->Option i5
 |[],_=>none
 |(i,t)::r,j=>bif Nat.beq i j then some t else yS r j
def D_:List (Nat×ag)->Nat->Option ag
 |[],_=>none
 |(i,t)::r,j=>bif Nat.beq i j then some t else D_ r j
def vo:List (Nat×e6)->Nat->Option e6
 |[],_=>none
 |(i,t)::r,j=>bif Nat.beq i j then some t else vo r j
inductive nY where
 |fst|snd|ix (i:Nat)
inductive iO where
 |ptr (id:Nat) (p:List nY)
 |iY (t:ag) (x:t.aG)
inductive av where
 |bad|undef
 |kb (b:Bool)
 |nq (c:Bool)
 |sc (t:ag) (x:t.aG)
 |nil
 |own (id:Nat) (eT:Bool)
 |osl (id off len:Nat)
 |csl (e:ag) (l:List e.aG)
 |ptr (id:Nat) (p:List nY)
 |opt (id i:Nat) (p:List nY)
 |ipt (e:ag) (l:List e.aG) (i:Nat) (p:List nY)
 |itp (id:Nat)
 |two (a b:av)
 |agg (t:ag) (a:av)
 |tup (a:av)
 |clo (f dT:Nat) (c_:List iO)
 |ifc (tid:Nat) (t:ag) (x:t.aG)
 |mpp (id:Nat)
 |psl (id n:Nat)
 deriving Inhabited
inductive aT where
 |new
 |ft
 |box (t:ag) (v:av)
 |ob (e:ag) (l:List e.aG)
 |fz (e:ag) (l:List e.aG)
 |it (s:List UInt8) (jz:Nat)
 |mp (kt vt:ag) (l:List (kt.aG×av))
 deriving Inhabited
inductive dR where
 |e
 |n (v:av) (l r:dR)
 deriving Inhabited
def dR.mw:Nat->dR->Nat->av
 |0,_,_=>.bad
 |_+1,.e,_=>.bad
 |f+1,.n v l r,i=>bif Nat.beq i 0 then v else bif Nat.beq (i%2) 1 then l.mw f (i/2) else r.mw f (i/2-1)
def dR.set:Nat->dR->Nat->av->dR
 |0,t,_,_=>t
 |f+1,.e,i,u=>bif Nat.beq i 0 then .n u .e .e else bif Nat.beq (i%2) 1 then .n .bad (dR.set f .e (i/2) u) .e else .n .bad .e (dR.set f .e (i/2-1) u)
 |f+1,.n v l r,i,u=>bif Nat.beq i 0 then .n u l r else bif Nat.beq (i%2) 1 then .n v (l.set f (i/2) u) r else .n v l (r.set f (i/2-1) u)
structure aM where
 t:dR
 h:List (Nat×aT)
 w:List Nat
 deriving Inhabited
def aM.b0(s:aM)(i:Nat):av:=s.t.mw 40 i
def rr:List (Nat×aT)->Nat->aT
 |[],_=>.new
 |(i,b)::r,j=>bif Nat.beq i j then b else rr r j
def aM.aW(s:aM)(id:Nat):aT:=rr s.h id
def aM.mc(s:aM)(i:Nat)(v:av):aM:={ s with t:=s.t.set 40 i v }
def Bt:List (Nat×aT)->Nat->aT->List (Nat×aT)
 |[],j,b=>[(j,b)]
 |(i,c)::r,j,b=>bif Nat.beq i j then(j,b)::r else(i,c)::Bt r j b
def aM.oz(s:aM)(id:Nat)(b:aT):aM:={ s with h:=Bt s.h id b,w:=id::s.w }
def aM.ek(s:aM):List (Nat×aT)->aM
 |[]=>s
 |(i,b)::r=>(s.ek r).oz i b
def GP{β:Type 1}:List iO->(List iO->β)->β
 |[],k=>k []
 |.ptr id p::r,k=>GP r λr=>k (.ptr id p::r)
 |.iY t x::r,k=>GP r λr=>k (.iY t x::r)
def apl{β:Type 1}(l:List iO)(k:List iO->β):GP l k=k l:=by
 induction l generalizing k with
 |nil=>rfl
 |cons c r ih=>cases c<;>simp only[GP,ih]
def nw{β:Type 1}:av->(av->β)->β
 |.bad,k=>k .bad
 |.undef,k=>k .undef
 |.kb true,k=>k (.kb true)
 |.kb false,k=>k (.kb false)
 |.nq c,k=>k (.nq c)
 |.sc t x,k=>k (.sc t x)
 |.nil,k=>k .nil
 |.own id eT,k=>k (.own id eT)
 |.osl id off n,k=>k (.osl id off n)
 |.csl e l,k=>k (.csl e l)
 |.ptr id p,k=>k (.ptr id p)
 |.opt id i p,k=>k (.opt id i p)
 |.ipt e l i p,k=>k (.ipt e l i p)
 |.itp id,k=>k (.itp id)
 |.two a b,k=>nw a λa=>nw b λb=>k (.two a b)
 |.agg t a,k=>nw a λa=>k (.agg t a)
 |.tup a,k=>nw a λa=>k (.tup a)
 |.clo f dT c_,k=>GP c_ λc_=>k (.clo f dT c_)
 |.ifc i t x,k=>k (.ifc i t x)
 |.mpp id,k=>k (.mpp id)
 |.psl id n,k=>k (.psl id n)
def yl{β:Type 1}(v:av)(k:av->β):nw v k=k v:=by
 induction v generalizing k with
 |kb b=>cases b<;>rfl
 |two a b bh aa=>simp only[nw,bh,aa]
 |agg t a bh=>simp only[nw,bh]
 |tup a bh=>simp only[nw,bh]
 |clo f dT c_=>simp only[nw,apl]
 |_=>rfl
def L2{α:Type}{β:Type 1}:List (α×av)->(List (α×av)->β)->β
 |[],k=>k []
 |(a,v)::r,k=>nw v λv=>L2 r λr=>k ((a,v)::r)
def apn{β:Type 1}(l:List (α×av))(k:List (α×av)->β):L2 l k=k l:=by
 induction l generalizing k with
 |nil=>rfl
 |cons c r ih=>simp only[L2,yl,ih]
def Ss{β:Type 1}:aT->(aT->β)->β
 |.new,k=>k .new
 |.ft,k=>k .ft
 |.box t v,k=>nw v λv=>k (.box t v)
 |.ob e l,k=>k (.ob e l)
 |.fz e l,k=>k (.fz e l)
 |.it s p,k=>k (.it s p)
 |.mp kt vt l,k=>L2 l λl=>k (.mp kt vt l)
def apk{β:Type 1}(v:aT)(k:aT->β):Ss v k=k v:=by cases v<;>simp only[Ss,yl,apn]
def vT{β:Type 1}:Nat->dR->Nat->av->(dR->β)->β
 |0,t,_,_,k=>k t
 |f+1,.e,i,u,k=>bif Nat.beq i 0 then k (.n u .e .e) else bif Nat.beq (i%2) 1 then vT f .e (i/2) u λl=>k (.n .bad l .e) else vT f .e (i/2-1) u λr=>k (.n .bad .e r)
 |f+1,.n v l r,i,u,k=>bif Nat.beq i 0 then k (.n u l r) else bif Nat.beq (i%2) 1 then vT f l (i/2) u λl=>k (.n v l r) else vT f r (i/2-1) u λr=>k (.n v l r)
def WC{β:Type 1}(f:Nat)(t:dR)(i:Nat)(u:av)(k:dR->β):vT f t i u k=k (t.set f i u):=by
 induction f generalizing t i k with
 |zero=>rfl
 |succ f ih=>
  cases t with
  |e=>simp only[vT,dR.set,ih];cases Nat.beq i 0<;>cases Nat.beq (i%2) 1<;>rfl
  |n v l r=>simp only[vT,dR.set,ih];cases Nat.beq i 0<;>cases Nat.beq (i%2) 1<;>rfl
def NR{β:Type 1}:List (Nat×aT)->Nat->aT->(List (Nat×aT)->β)->β
 |[],j,b,k=>k [(j,b)]
 |(i,c)::r,j,b,k=>bif Nat.beq i j then k ((j,b)::r) else NR r j b λr=>k ((i,c)::r)
def axK{β:Type 1}(l:List (Nat×aT))(i:Nat)(v:aT)(k:List (Nat×aT)->β):NR l i v k=k (Bt l i v):=by
 induction l generalizing k with
 |nil=>rfl
 |cons x r ih=>cases h:Nat.beq x.1 i<;>simp only[NR,Bt,ih,h,cond]
def aM.BM{β:Type 1}(s:aM)(i:Nat)(v:av)(k:aM->β):β:=
 match s with|⟨t,h,w⟩=>nw v λv=>vT 40 t i v λt=>k ⟨t,h,w⟩
def aM.Jx{β:Type 1}(s:aM)(i:Nat)(v:av)(k:aM->β):s.BM i v k=k (s.mc i v):=by cases s;simp only[aM.BM,yl,WC,aM.mc]
def aM.BL{β:Type 1}(s:aM)(id:Nat)(b:aT)(k:aM->β):β:=
 match s with|⟨t,h,w⟩=>Ss b λb=>NR h id b λh=>k ⟨t,h,id::w⟩
def aM.Jv{β:Type 1}(s:aM)(i:Nat)(v:aT)(k:aM->β):s.BL i v k=k (s.oz i v):=by cases s;simp only[aM.BL,apk,axK,aM.oz]
def aM.xo{β:Type 1}(s:aM):List (Nat×aT)->(aM->β)->β
 |[],k=>k s
 |(i,b)::r,k=>s.xo r λs=>s.BL i b k
def aM.Jw{β:Type 1}(s:aM)(l:List (Nat×aT))(k:aM->β):s.xo l k=k (s.ek l):=by
 induction l generalizing k with
 |nil=>rfl
 |cons x r ih=>simp only[aM.xo,aM.Jv,ih,aM.ek]
inductive aF (σ ρ:Type) where
 |nx (x:σ)|ex (k:Nat) (x:σ)|rt (r:ρ)
 deriving Inhabited
def cb{σ ρ β:Type}(o:Option (aF σ ρ))(kn:σ->Option β)(hB:Nat->σ->Option β)(hR:ρ->Option β):Option β:=
 match o with
 |some (.nx a)=>kn a|some (.ex i a)=>hB i a|some (.rt r)=>hR r|none=>none
inductive aP (β:Type):Type 1 where
 |fail
 |leaf (a:β)
 |br (c:Bool) (x y:aP β)
 |chk (c:Bool) (x:aP β)
 |bo {α:Type} (d:α) (o:Option α) (k:α->aP β)
 |cs {σ ρ:Type} (d:σ) (e:ρ) (o:Option (aF σ ρ)) (kn:σ->aP β) (hB:Nat->σ->aP β) (hR:ρ->aP β)
def aP.bind{α β:Type}:aP α->(α->aP β)->aP β
 |.fail,_=>.fail
 |.leaf a,f=>f a
 |.br c x y,f=>.br c (x.bind f) (y.bind f)
 |.chk c x,f=>.chk c (x.bind f)
 |.bo d o k,f=>.bo d o λa=>(k a).bind f
 |.cs d e o kn hB hR,f=>.cs d e o (λa=>(kn a).bind f) (λk a=>(hB k a).bind f) (λa=>(hR a).bind f)
def aP.bH{α:Type}:aP α->Option α
 |.fail=>none
 |.leaf a=>some a
 |.br c x y=>T c x.bH y.bH
 |.chk c x=>an c x.bH
 |.bo _ o k=>ob o λa=>(k a).bH
 |.cs _ _ o kn hB hR=>cb o (λa=>(kn a).bH) (λi a=>(hB i a).bH) (λr=>(hR r).bH)
def aP.oZ{α:Type}:aP α->List α
 |.fail=>[]
 |.leaf a=>[a]
 |.br _ x y=>x.oZ++y.oZ
 |.chk _ x=>x.oZ
 |.bo d _ k=>(k d).oZ
 |.cs d e _ kn hB hR=>(kn d).oZ++(hB 0 d).oZ++(hR e).oZ
def CK{α:Type}{β:Type 1}:List α->List α->(List α->β)->β
 |[],m,k=>k m
 |a::r,m,k=>CK r m λr=>k (a::r)
def YL{β:Type 1}(l m:List α)(k:List α->β):CK l m k=k (l++m):=by
 induction l generalizing k with
 |nil=>rfl
 |cons a r ih=>simp only[CK,ih,mi]
def aP.qC{α:Type}{β:Type 1}:aP α->(List α->β)->β
 |.fail,k=>k []
 |.leaf a,k=>k [a]
 |.br _ x y,k=>x.qC λl=>y.qC λm=>CK l m k
 |.chk _ x,k=>x.qC k
 |.bo d _ f,k=>(f d).qC k
 |.cs d e _ kn hB hR,k=>(kn d).qC λl=>(hB 0 d).qC λm=>(hR e).qC λn=>CK l m λl=>CK l n k
def aP.aeE{β:Type 1}(t:aP α)(k:List α->β):t.qC k=k t.oZ:=by
 induction t generalizing k with
 |fail=>rfl
 |leaf a=>rfl
 |br c x y hx hy=>simp only[aP.qC,hx,hy,YL,aP.oZ]
 |chk c x hx=>simp only[aP.qC,hx,aP.oZ]
 |bo d o f hf=>simp only[aP.qC,hf,aP.oZ]
 |cs d e o kn hB hR ak aC ai=>simp only[aP.qC,ak,aC,ai,YL,aP.oZ]
def qz:List UInt32:=[u32 1116352408,u32 1899447441,u32 3049323471,u32 3921009573,u32 961987163,u32 1508970993,u32 2453635748,u32 2870763221,u32 3624381080,u32 310598401,u32 607225278,u32 1426881987,u32 1925078388,u32 2162078206,u32 2614888103,u32 3248222580,u32 3835390401,u32 4022224774,u32 264347078,u32 604807628,u32 770255983,u32 1249150122,u32 1555081692,u32 1996064986,u32 2554220882,u32 2821834349,u32 2952996808,u32 3210313671,u32 3336571891,u32 3584528711,u32 113926993,u32 338241895,u32 666307205,u32 773529912,u32 1294757372,u32 1396182291,u32 1695183700,u32 1986661051,u32 2177026350,u32 2456956037,u32 2730485921,u32 2820302411,u32 3259730800,u32 3345764771,u32 3516065817,u32 3600352804,u32 4094571909,u32 275423344,u32 430227734,u32 506948616,u32 659060556,u32 883997877,u32 958139571,u32 1322822218,u32 1537002063,u32 1747873779,u32 1955562222,u32 2024104815,u32 2227730452,u32 2361852424,u32 2428436474,u32 2756734187,u32 3204031479,u32 3329325298]
def gz:Type 1:=Nat->List av->aM->aP (av×aM)
structure dk where
 bv:Nat->Option ag
 G:Nat->Option e6
 I:Nat->Option gz:=λ_=>none
 /-- maps' types -/
 M:Nat->Option (ag×ag):=λ_=>none
 /-- types whose values may be compared -/
 C:Nat->Bool:=λ_=>false
 /-- the program's variable -/
 K:Option Nat:=none
 b:Nat:=0
 /-- functions that change a variable of their an0 -/
 X:Nat->Option i5:=λ_=>none
 /-- are loops unrolled,and tests decided? -/
 U:Bool:=false
 /-- the function that arq up what goes aBH,and the type of what it arq up -/
 Pn:Option (Nat×Nat):=none
 /-- functions that change a variable of their an0,and may hand up what goes aBH -/
 Q:Nat->Option oJ:=λ_=>none
 /-- are pieces of own slices appended to in place? -/
 A:Bool:=false
def vp:List (Nat×gz)->Nat->Option gz
 |[],_=>none
 |(i,t)::r,j=>bif Nat.beq i j then some t else vp r j
def Im:List (Nat×ag×ag)->Nat->Option (ag×ag)
 |[],_=>none
 |(i,t)::r,j=>bif Nat.beq i j then some t else Im r j
def Il:List Nat->Nat->Bool
 |[],_=>false
 |i::r,j=>bif Nat.beq i j then true else Il r j
inductive ax (α:Type):Type 1 where
 |fail
 |ret (a:α)
 |chk (c:Bool) (k:ax α)
 |br (c:Bool) (x y:ax α)
 |bo {β:Type} (d:β) (o:Option β) (k:β->ax α)
 |rt (i:Nat) (k:av->ax α)
 |rb (id:Nat) (k:aT->ax α)
 |eZ (id:Nat) (b:aT) (k:ax α)
def ax.bind{α β:Type}:ax α->(α->ax β)->ax β
 |.fail,_=>.fail
 |.ret a,f=>f a
 |.chk c k,f=>.chk c (k.bind f)
 |.br c x y,f=>.br c (x.bind f) (y.bind f)
 |.bo d o k,f=>.bo d o λa=>(k a).bind f
 |.rt i k,f=>.rt i λv=>(k v).bind f
 |.rb i k,f=>.rb i λv=>(k v).bind f
 |.eZ i b k,f=>.eZ i b (k.bind f)
instance:Monad ax where
 pure:=.ret
 bind:=.bind
structure PW where
 rt:Nat
 rb:List Nat
 wr:List (Nat×aT)
def oq:List (Nat×aT)->Nat->aT->aT
 |[],_,d=>d
 |(i,b)::r,j,d=>bif Nat.beq i j then b else oq r j d
def ax.run{α:Type}(s:aM):ax α->Nat->List Nat->List (Nat×aT)->aP (α×PW)
 |.fail,_,_,_=>.fail
 |.ret a,fF,fx,wr=>.leaf (a,⟨fF,fx,wr⟩)
 |.chk c k,fF,fx,wr=>.chk c (k.run s fF fx wr)
 |.br c x y,fF,fx,wr=>.br c (x.run s fF fx wr) (y.run s fF fx wr)
 |.bo d o k,fF,fx,wr=>.bo d o λa=>(k a).run s fF fx wr
 |.rt i k,fF,fx,wr=>(k (s.b0 i)).run s (fF|||2^i) fx wr
 |.rb i k,fF,fx,wr=>(k (oq wr i (s.aW i))).run s fF (i::fx) wr
 |.eZ i b k,fF,fx,wr=>k.run s fF fx ((i,b)::wr)
def ax.opt{α:Type}:Option α->ax α
 |some a=>.ret a|none=>.fail
def ax.need(b:Bool):ax Unit:=bif b then .ret () else .fail
def ag.at:ag->List nY->Option ag
 |t,[]=>some t
 |.pair a _,.fst::p=>a.at p
 |.pair _ b,.snd::p=>b.at p
 |.ar _ e,.ix _::p=>e.at p
 |_,_=>none
def ja:av->List nY->Option av
 |v,[]=>some v
 |.two a _,.fst::p=>ja a p
 |.two _ b,.snd::p=>ja b p
 |.sc (.pair s _) x,.fst::p=>ja (.sc s x.1) p
 |.sc (.pair _ t) x,.snd::p=>ja (.sc t x.2) p
 |.sc (.ar _ e) l,.ix i::p=>ja (.sc e (ao (l:List e.aG) i e.zero)) p
 |_,_=>none
def gE:Nat->List nY
 |0=>[.fst]|n+1=>.snd::gE n
def aeo(b:Bool):(t:ag)->Option t.aG
 |.bool=>some b
 |_=>none
def Va:(t:ag)->Option t.aG
 |.sl e=>some ([]:List e.aG)
 |_=>none
def aaQ(bB:ag)(l:List bB.aG):(t:ag)->Option t.aG
 |.sl e=>ag.ly bB e l
 |_=>none
def ajd{α β:Type}:Option α->Option β->Option (α×β)
 |some x,some y=>some (x,y)
 |_,_=>none
def aA0(f g:(t:ag)->Option t.aG):(t:ag)->Option t.aG
 |.pair a b=>ajd (f a) (g b)
 |_=>none
def aku(t':ag)(f:(t:ag)->Option t.aG)(t:ag):Option t.aG:=bif ag.is t' t then f t else none
def HZ(f:Nat):List Nat->Nat->Option Nat
 |[],_=>none
 |a::r,n=>bif Nat.beq a f then some n else HZ f r (n+1)
def RX(f:Nat)(c_:List iO):(t:ag)->Option t.aG
 |.fn l=>match c_ with|[]=>HZ f l 1|_=>none
 |_=>none
def uj:av->(t:ag)->Option t.aG
 |.sc t' x=>λt=>ag.cast t' t x
 |.kb b=>aeo b
 |.nil=>Va
 |.csl bB l=>aaQ bB l
 |.two u v=>aA0 (uj u) (uj v)
 |.agg t' u=>aku t' (uj u)
 |.bad=>λ_=>none
 |.undef=>λ_=>none
 |.nq _=>λ_=>none
 |.own _ _=>λ_=>none
 |.osl _ _ _=>λ_=>none
 |.ptr _ _=>λ_=>none
 |.opt _ _ _=>λ_=>none
 |.ipt _ _ _ _=>λ_=>none
 |.itp _=>λ_=>none
 |.tup _=>λ_=>none
 |.clo f _ c_=>RX f c_
 |.ifc _ _ _=>λ_=>none
 |.mpp _=>λ_=>none
 |.psl _ _=>λ_=>none
def iN(t:ag)(v:av):Option t.aG:=uj v t
def m':av->List nY->av->Option av
 |_,[],u=>some u
 |.two a b,.fst::p,u=>(m' a p u).map (av.two · b)
 |.two a b,.snd::p,u=>(m' b p u).map (av.two a ·)
 |.sc (.pair s t) x,.fst::p,u=>(m' (.sc s x.1) p u).map (av.two · (.sc t x.2))
 |.sc (.pair s t) x,.snd::p,u=>(m' (.sc t x.2) p u).map (av.two (.sc s x.1) ·)
 |.sc (.ar n e) l,.ix i::p,u=>match m' (.sc e (ao (l:List e.aG) i e.zero)) p u with
  |some v=>(iN e v).map λy=>.sc (.ar n e) (cn (l:List e.aG) i y)
  |none=>none
 |_,_,_=>none
def nT:ag->av
 |.sl _=>.nil
 |.pair a b=>.two (nT a) (nT b)
 |t=>.sc t t.zero
def t_(eW:Bool)(id:Nat)(e:ag):ax (List e.aG):=.rb id λb=>match b with
 |.ob bB l=>(ax.opt (ag.ly bB e l)).bind λx=>bif eW then .eZ id (.fz bB l) (.ret x) else .ret x
 |.fz bB l=>ax.opt (ag.ly bB e l)
 |_=>.fail
def BF(eW:Bool)(id:Nat)(e:ag):ax (List e.aG):=.rb id λb=>match b with
 |.ob bB l=>(ax.opt (ag.ly bB e l)).bind λx=>bif eW then .eZ id (.fz bB l) (.ret x) else .ret x
 |.fz bB l=>ax.opt (ag.ly bB e l)
 | .box t v=>(match t with
  |.ar n bB=>(ax.opt (iN (.ar n bB) v)).bind λl=>(ax.opt (ag.ly bB e l)).bind λx=>bif Nat.blt 0 bB.size then(bif eW then .eZ id (.fz bB l) (.ret x) else .ret x) else .fail
  |_=>.fail)
 |_=>.fail
def af8(eW:Bool)(id:Nat):(t:ag)->ax t.aG
 |.sl e=>t_ eW id e
 |_=>.fail
def af3(eW:Bool)(id off n:Nat):(t:ag)->ax t.aG
 |.sl e=>(BF eW id e).bind λx=>.ret (cut x off n)
 |_=>.fail
def aA1(f g:(t:ag)->ax t.aG):(t:ag)->ax t.aG
 |.pair a b=>(f a).bind λx=>(g b).bind λy=>.ret (x,y)
 |_=>.fail
def akv(t':ag)(f:(t:ag)->ax t.aG)(t:ag):ax t.aG:=bif ag.is t' t then f t else .fail
def xu(eW:Bool):av->(t:ag)->ax t.aG
 |.own id _=>af8 eW id
 |.osl id off n=>af3 eW id off n
 |.two u v=>aA1 (xu eW u) (xu eW v)
 |.agg t' u=>akv t' (xu eW u)
 |.sc t' x=>λt=>ax.opt (ag.cast t' t x)
 |.kb b=>λt=>ax.opt (aeo b t)
 |.nil=>λt=>ax.opt (Va t)
 |.csl e l=>λt=>ax.opt (aaQ e l t)
 |.bad=>λ_=>.fail
 |.undef=>λ_=>.fail
 |.nq _=>λ_=>.fail
 |.ptr _ _=>λ_=>.fail
 |.opt _ _ _=>λ_=>.fail
 |.ipt _ _ _ _=>λ_=>.fail
 |.itp _=>λ_=>.fail
 |.tup _=>λ_=>.fail
 |.clo f _ c_=>λt=>ax.opt (RX f c_ t)
 |.ifc _ _ _=>λ_=>.fail
 |.mpp _=>λ_=>.fail
 |.psl _ _=>λ_=>.fail
def nb(eW:Bool)(t:ag)(v:av):ax t.aG:=xu eW v t
def Bd:av->Bool
 |.osl _ _ _=>false
 |.two u v=>Bd u&&Bd v
 |.agg _ u=>Bd u
 |_=>true
def af6(t:ag)(v:av):ax t.aG:=bif Bd v then nb true t v else .fail
def qZ(t:ag):av->av
 |.two a b=>.agg t (.two a b)
 |v=>v
def xs:av->av
 |.agg _ a=>a
 |.kb b=>.sc .bool b
 |v=>v
def aej:ag->Bool
 |.fn _=>true|.op k=>Nat.beq k 0|_=>false
def tt(t:ag):av->ax Unit
 |.sc t' _=>ax.need (ag.is t' t)
 |.kb _=>ax.need (ag.is t .bool)
 |.agg t' _=>ax.need (ag.is t' t)
 |.nil=>match t with|.sl _=>.ret ()|_=>.fail
 |.csl e _=>ax.need (ag.is (.sl e) t)
 |.own id _=>.rb id fun|.ob e _=>ax.need (ag.is (.sl e) t)|.fz e _=>ax.need (ag.is (.sl e) t)|_=>.fail
 |.osl id _ _=>.rb id fun|.ob e _=>ax.need (ag.is (.sl e) t)|.fz e _=>ax.need (ag.is (.sl e) t)|.box t' _=>(match t' with|.ar _ e=>ax.need (ag.is (.sl e) t)|_=>.fail)|_=>.fail
 |.clo _ _ _=>ax.need (aej t)
 |.ifc _ _ _=>ax.need (ag.is t (.op 1))
 |.mpp id=>.rb id fun|.mp _ _ _=>ax.need (ag.is t (.op 2))|_=>.fail
 |.ptr id _=>.rb id fun|.box _ _=>ax.need (ag.is t (.op 3))|_=>.fail
 |_=>.fail
def hn(e:ag)(n:Nat):Bool:=ci e.bytes n
def int(n:Int):av:=.sc (.int .i64) n
def Ik:IntKind->Int->Bool
 |.u8,.ofNat m=>Nat.blt m 256|.u16,.ofNat m=>Nat.blt m 65536|.u32,.ofNat m=>Nat.blt m 4294967296|.u64,.ofNat m=>Nat.blt m 18446744073709551616
 |.i8,_=>true|.i16,_=>true|.i32,_=>true|.i64,_=>true
 |_,_=>false
def R1:Value->ax av
 |.bool b=>.ret (.kb b)
 |.int k n=>bif Ik k n then .ret (.sc (.int k) (bG.lit k n)) else .fail
 |.string s=>.ret (.sc .str s.data.toList)
 |.slice none 0 0=>.ret .nil
 |.nilFunc=>.ret (.sc (.op 0) ())
 |.nilIface=>.ret (.sc (.op 1) ())
 |.map none=>.ret (.sc (.op 2) ())
 |.pointer none=>.ret (.sc (.op 3) ())
 |_=>.fail
def ey:Operand->ax av
 |.tmp t=>.rt t .ret
 |.const v=>R1 v
 |.func f=>.ret (.clo f 0 [])
 |.global _=>.fail
def SY(E:dk):Operand->ax av
 |.global g=>match E.K with|some k=>bif Nat.beq k g then .ret (.ipt (.ar 64 (.int .u32)) [(qz:List (bG .u32))] 0 []) else .fail|none=>.fail
 |x=>ey x
def z6:av->ax Int
 |.sc (.int k) x=>.ret (bG.to k x)
 |_=>.fail
def Aa(b:Bool)(c:Bool)(k:ax av):ax av:=bif b then k else .chk c k
def NC:Operand->Bool
 |.const (.int _ (.ofNat (_+1)))=>true
 |.const (.int _ (.negSucc _))=>true
 |_=>false
def Nw:Operand->Bool
 |.const (.int _ (.ofNat _))=>true
 |_=>false
def Fr:IntKind->Bool
 |.u8=>true|.u16=>true|.u32=>true|.u64=>true|_=>false
def Q0(sG:Bool)(op:BinOp)(k:IntKind)(x y:bG k):ax av:=
 let a:=bG.to k x;let b:=bG.to k y
 match op with
 |.add=>.ret (.sc (.int k) (bG.of k (aE a b)))
 |.sub=>.ret (.sc (.int k) (bG.of k (bq a b)))
 |.mul=>.ret (.sc (.int k) (bG.of k (fv a b)))
 |.quo=>Aa sG (bg (aj b 0)) (.ret (.sc (.int k) (bG.of k (gd a b))))
 |.rem=>Aa sG (bg (aj b 0)) (.ret (.sc (.int k) (bG.lit k (fR a b))))
 |.and=>.ret (.sc (.int k) (bG.of k (i9 k a b)))
 |.or=>.ret (.sc (.int k) (bG.of k (g' k a b)))
 |.xor=>.ret (.sc (.int k) (bG.of k (fT k a b)))
 |.andNot=>.ret (.sc (.int k) (bG.of k (IC k a b)))
 |.eql=>.ret (.sc .bool (aj a b))
 |.neq=>.ret (.sc .bool (bg (aj a b)))
 |.lss=>.ret (.sc .bool (aH a b))
 |.leq=>.ret (.sc .bool (b3 a b))
 |.gtr=>.ret (.sc .bool (aH b a))
 |.geq=>.ret (.sc .bool (b3 b a))
 |_=>.fail
def Q1(op:BinOp)(a b:List UInt8):ax av:=
 match op with
 |.add=>.chk (b3 (aE (len a) (len b)) 140737488355328) (.ret (.sc .str (cg a b)))
 |.eql=>.ret (.sc .bool (seq a b))
 |.neq=>.ret (.sc .bool (bg (seq a b)))
 |.lss=>.ret (.sc .bool (x6 a b))
 |.leq=>.ret (.sc .bool (mW (x6 a b) (seq a b)))
 |.gtr=>.ret (.sc .bool (bg (mW (x6 a b) (seq a b))))
 |.geq=>.ret (.sc .bool (bg (x6 a b)))
 |_=>.fail
def afo(t:ag)(op:BinOp)(a b:av):ax av:=
 match op,t,a,b with
 |.eql,.sl e,.sc t' x,.nil=>(ax.opt (ag.cast t' (.sl e) x)).bind λl=>.ret (.nq (aj (len (l:List e.aG)) 0))
 |_,_,_,_=>.fail
def QZ(E:dk)(op:BinOp)(xT:Nat)(a b:av):ax av:=
 match E.bv xT with
 |some t=>bif ag.is t .bool then
   (match iN .bool a,iN .bool b with
    | some x,some y=>(match op with
     |.eql=>.ret (.sc .bool (z_ x y))
     |.neq=>.ret (.sc .bool (bg (z_ x y)))
     |_=>.fail)
    |_,_=>.fail)
   else bif E.C xT then
   (match iN t a,iN t b with
    | some x,some y=>(match op with
     |.eql=>.ret (.sc .bool (t.oS x y))
     |.neq=>.ret (.sc .bool (bg (t.oS x y)))
     |_=>.fail)
    |_,_=>.fail)
   else afo t op a b
 |none=>.fail
def Ld(E:dk)(sG IB:Bool)(op:BinOp)(xT:Nat)(a b:av):ax av:=
 match a,b with
 |.sc (.int k) x,.sc (.int k') y=>
  (match op with
  |.shl=>Aa (IB||Fr k') (b3 0 (bG.to k' y)) (.ret (.sc (.int k) (bG.of k (h0 k (bG.to k x) (bG.to k' y)))))
  |.shr=>Aa (IB||Fr k') (b3 0 (bG.to k' y)) (.ret (.sc (.int k) (bG.lit k (fO k (bG.to k x) (bG.to k' y)))))
  | op=>(match ag.cast (.int k') (.int k) y with | some y=>Q0 sG op k x y | none => .fail))
 |.sc .str x,.sc .str y=>Q1 op x y
 |a,b=>QZ E op xT a b
def XC(op:UnOp)(a:av):ax av:=
 match op,a with
 |.not,.kb b=>.ret (.kb (!b))
 |.not,.sc .bool b=>.ret (.sc .bool (bg b))
 |.neg,.sc (.int k) x=>.ret (.sc (.int k) (bG.of k (bq 0 (bG.to k x))))
 |.xor,.sc (.int k) x=>.ret (.sc (.int k) (bG.of k (fT k (match k with|.u8=>255|.u16=>65535|.u32=>4294967295|.u64=>18446744073709551615|_ => -1) (bG.to k x))))
 |_,_=>.fail
def VY(c a b:av):ax av:=
 match c with
 |.kb c=>.ret (bif c then a else b)
 | .sc .bool c=>(match a,b with
  |.sc t x,b=>(match iN t b with|some y=>.ret (.sc t (T c x y))|none=>.fail)
  |.kb x,b=>(match iN .bool b with|some y=>.ret (.sc .bool (T (c:Bool) x y))|none=>.fail)
  |_,_=>.fail)
 |_=>.fail
def Ij(fW:ag)(a:av):ax av:=
 match fW with
 |.str=>(match a with|.sc .str l=>.ret (int (len (l:List UInt8)))|_=>.fail)
 |.ar n _=>.ret (int (bi n))
 |.sl _=>
  (match a with
  |.sc (.sl e) l=>.ret (int (len (l:List e.aG)))
  |.csl _ l=>.ret (int (len l))
  |.nil=>.ret (int 0)
  |.own id _=>.rb id fun|.ob _ l=>.ret (int (len l))|.fz _ l=>.ret (int (len l))|_=>.fail
  |.osl id _ n=>.rb id fun|.ob _ _=>.ret (int (bi n))|.fz _ _=>.ret (int (bi n))|_=>.fail
  |.psl id n=>.rb id fun|.box _ _=>.ret (int (bi n))|_=>.fail
  |_=>.fail)
 |_=>.fail
def u1(id:Nat)(k:ax av):ax av:=.rb id fun|.new=>k|_=>.fail
def w9(id:Nat)(e:ag)(l:List e.aG)(eT:Bool):ax av:=bif Nat.blt 0 e.size then u1 id (.eZ id (.ob e l) (.ret (.own id eT))) else .fail
def AV:ag->Bool
 |.sl (.int .u8)=>true|_=>false
def aaI(E:dk)(d:Nat)(sS c?:Nat)(a:av):ax av:=
 (ax.opt (E.bv sS)).bind λs=>(ax.opt (E.bv c?)).bind λt=>
 match t with
 |.int k=>(match a with|.sc (.int k') x=>.ret (.sc (.int k) (bG.of k (bG.to k' x)))|_=>.fail)
 | .str=>(match s with
  |.str=>(match a with|.sc .str x=>.ret (.sc .str x)|_=>.fail)
  |.sl e=>bif AV (.sl e) then(nb false (.sl (.int .u8)) a).bind λx=>.ret (.sc .str (x:List UInt8)) else .fail
  |_=>.fail)
 | .sl e=>(match s,a with
  |.str,.sc .str x=>bif AV (.sl e) then .chk (ci 1 (aV (x:List UInt8))) (w9 (16*d) (.int .u8) (x:List UInt8) false) else .fail
  |.sl bB,.own id true=>bif AV (.sl e)&&(AV (.sl bB)&&Nat.beq sS c?) then .rb id (fun|.ob _ _=>.ret (.own id true)|_=>.fail) else .fail
  |_,_=>.fail)
 |_=>.fail
def yQ(t:ag)(a:av):ax av:=
 match a with
 |.ptr id p=>.rb id fun
  |.box rt v=>(match rt.at p,ja v p with|some t',some pv=>bif ag.is t' t then .ret (qZ t pv) else .fail|_,_=>.fail)
  |_=>.fail
 |.ipt e l i p=>(match e.at p,ja (.sc e (ao l i e.zero)) p with|some t',some pv=>bif ag.is t' t then .ret pv else .fail|_,_=>.fail)
 |.opt id i p=>.rb id fun
  |.ob e l=>(match e.at p,ja (.sc e (ao l i e.zero)) p with|some t',some pv=>bif ag.is t' t then .ret pv else .fail|_,_=>.fail)
  |.fz e l=>(match e.at p,ja (.sc e (ao l i e.zero)) p with|some t',some pv=>bif ag.is t' t then .ret pv else .fail|_,_=>.fail)
  |_=>.fail
 |_=>.fail
def WW(t:ag)(a v:av):ax av:=
 match a with
 |.ptr id p=>.rb id fun
  | .box rt c=>(match rt.at p,m' c p (xs v) with
    |some t',some cO=>bif ag.is t' t then(tt t v).bind λ_=>.eZ id (.box rt cO) (.ret .undef) else .fail
    |_,_=>.fail)
  |_=>.fail
 |.opt id i p=>(nb true t v).bind λx=>.rb id fun
  | .ob e l=>(match e.at p with
   | some t'=>bif ag.is t' t then (match m' (.sc e (ao l i e.zero)) p (.sc t x) with
     |some c=>(match iN e c with|some y=>.eZ id (.ob e (cn l i y)) (.ret .undef)|none=>.fail)
     |none=>.fail) else .fail
   |none=>.fail)
  |_=>.fail
 |_=>.fail
def Df(t' bS:Option ag)(f:Nat):Bool:=
 match t',bS with
 |some t',some bS=>ag.is t' bS&&(match bS.at (gE f) with|some d9=>Nat.blt 0 d9.size|none=>false)
 |_,_=>false
def L6(bS:Option ag)(f:Nat)(a:av):ax av:=
 match a with
 |.ptr id p=>.rb id fun
  |.box t _=>bif Df (t.at p) bS f then .ret (.ptr id (p++gE f)) else .fail
  |_=>.fail
 |.ipt e l i p=>bif Df (e.at p) bS f then .ret (.ipt e l i (p++gE f)) else .fail
 |.opt id i p=>.rb id fun
  |.ob e _=>bif Df (e.at p) bS f then .ret (.opt id i (p++gE f)) else .fail
  |.fz e _=>bif Df (e.at p) bS f then .ret (.opt id i (p++gE f)) else .fail
  |_=>.fail
 |_=>.fail
def CM(t':Option ag)(fW:ag)(i:Int)(v:av):ax av:=
 match t',fW with
 |some t',.ar n e=>bif ag.is t' (.ar n e)&&Nat.blt 0 e.size then .chk (aN i (bi n)) (.ret v) else .fail
 |_,_=>.fail
def yJ(fW:ag)(a:av)(i:Int):ax av:=
 match a with
 | .sc t l=>(match fW with
  |.sl e=>(ax.opt (ag.cast t (.sl e) l)).bind λl=>.chk (aN i (len (l:List e.aG))) (.ret (.ipt e l (ae i) []))
  |_=>.fail)
 |.csl e l=>bif ag.is (.sl e) fW then .chk (aN i (len l)) (.ret (.ipt e l (ae i) [])) else .fail
 |.own id _=>.rb id fun
  |.ob e l=>bif ag.is (.sl e) fW then .chk (aN i (len l)) (.ret (.opt id (ae i) [])) else .fail
  |.fz e l=>bif ag.is (.sl e) fW then .chk (aN i (len l)) (.ret (.opt id (ae i) [])) else .fail
  |_=>.fail
 |.osl id off n=>.rb id fun
  |.ob e _=>bif ag.is (.sl e) fW then .chk (aN i (bi n)) (.ret (.opt id (bI off (ae i)) [])) else .fail
  |.fz e _=>bif ag.is (.sl e) fW then .chk (aN i (bi n)) (.ret (.opt id (bI off (ae i)) [])) else .fail
  |_=>.fail
 |.ptr id p=>.rb id fun
  |.box t _=>CM (t.at p) fW i (.ptr id (p++[.ix (ae i)]))
  |_=>.fail
 |.ipt e l j p=>CM (e.at p) fW i (.ipt e l j (p++[.ix (ae i)]))
 |.psl id n=>.rb id fun
  |.box _ _=>bif ag.is (.sl (.op 3)) fW then .chk (aN i (bi n)) (.ret (.ptr id (gE (ae i)))) else .fail
  |_=>.fail
 |.opt id j p=>.rb id fun
  |.ob e _=>CM (e.at p) fW i (.opt id j (p++[.ix (ae i)]))
  |.fz e _=>CM (e.at p) fW i (.opt id j (p++[.ix (ae i)]))
  |_=>.fail
 |_=>.fail
def H2(fW:ag)(a:av)(i:Int):ax av:=
 match a with
 | .sc .str l=>(match fW with
  |.str=>.chk (aN i (len (l:List UInt8))) (.ret (.sc (.int .u8) (ao (l:List UInt8) (ae i) (u8 0))))
  |_=>.fail)
 | a=>(match fW with
  |.ar n e=>(ax.opt (iN (.ar n e) a)).bind λl=>.chk (aN i (bi n)) (.ret (.sc e (ao (l:List e.aG) (ae i) e.zero)))
  |_=>.fail)
def Sw(E:dk)(xT:Nat)(f:Nat)(a:av):ax av:=
 match E.bv xT with
 |some t=>(tt t a).bind λ_=>(match t.at (gE f),ja (xs a) (gE f) with|some d9,some v=>.ret (qZ d9 v)|_,_=>.fail)
 |none=>.fail
def bU(i:Option Int)(d:Int):Int:=match i with|some i=>i|none=>d
def WH(n:Nat)(j0:ag)(a:av)(lo ac:Int):ax av:=
 match a with
 |.ptr id []=>.rb id fun
  |.box t _=>bif ag.is t (.ar n j0)&&(Nat.blt 0 j0.size&&Nat.ble n 16777216) then .chk (b8 lo ac (bi n)) (.ret (.osl id (ae lo) (cc (ae ac) (ae lo)))) else .fail
  |.fz e l=>bif ag.is e j0&&Nat.ble n 16777216 then .chk (c3 (bX (aV l) n) (b8 lo ac (bi n))) (.ret (.sc (.sl e) (sub l lo ac))) else .fail
  |_=>.fail
 |_=>.fail
def xr(fW:ag)(a:av)(lo ac ry:Option Int):ax av:=
 match ry with
 |none=>
  (match fW with
  | .str=>(match a with
   |.sc t l=>(ax.opt (ag.cast t .str l)).bind λl=>.chk (b8 (bU lo 0) (bU ac (len (l:List UInt8))) (len (l:List UInt8))) (.ret (.sc .str (sub (l:List UInt8) (bU lo 0) (bU ac (len (l:List UInt8))))))
   |_=>.fail)
  | .sl j0=>(match a with
   |.nil=>.chk (b8 (bU lo 0) (bU ac 0) 0) (.ret .nil)
   |.sc t l=>(ax.opt (ag.cast t (.sl j0) l)).bind λl=>.chk (b8 (bU lo 0) (bU ac (len (l:List j0.aG))) (len (l:List j0.aG))) (.ret (.sc (.sl j0) (sub (l:List j0.aG) (bU lo 0) (bU ac (len (l:List j0.aG))))))
   |.csl e l=>bif ag.is (.sl e) (.sl j0) then .chk (b8 (bU lo 0) (bU ac (len l)) (len l)) (.ret (.sc (.sl e) (sub l (bU lo 0) (bU ac (len l))))) else .fail
   |.own id _=>.rb id fun
    |.ob e l=>bif ag.is (.sl e) (.sl j0) then .chk (b8 (bU lo 0) (bU ac (len l)) (len l)) (.ret (.osl id (ae (bU lo 0)) (cc (ae (bU ac (len l))) (ae (bU lo 0))))) else .fail
    |.fz e l=>bif ag.is (.sl e) (.sl j0) then .chk (b8 (bU lo 0) (bU ac (len l)) (len l)) (.ret (.sc (.sl e) (sub l (bU lo 0) (bU ac (len l))))) else .fail
    |_=>.fail
   |.osl id off n=>.rb id fun
    |.ob e _=>bif ag.is (.sl e) (.sl j0) then .chk (b8 (bU lo 0) (bU ac (bi n)) (bi n)) (.ret (.osl id (bI off (ae (bU lo 0))) (cc (ae (bU ac (bi n))) (ae (bU lo 0))))) else .fail
    |.fz e _=>bif ag.is (.sl e) (.sl j0) then .chk (b8 (bU lo 0) (bU ac (bi n)) (bi n)) (.ret (.osl id (bI off (ae (bU lo 0))) (cc (ae (bU ac (bi n))) (ae (bU lo 0))))) else .fail
    |_=>.fail
   |_=>.fail)
  |.ar n j0=>WH n j0 a (bU lo 0) (bU ac (bi n))
  |_=>.fail)
 |some m=>
  (match ac with
  |some h=>
   (match a with
   | .sc t l=>(match fW with
    |.sl e=>(ax.opt (ag.cast t (.sl e) l)).bind λl=>.chk (c3 (b8 (bU lo 0) h (len (l:List e.aG))) (aj h m)) (.ret (.csl e (sub (l:List e.aG) (bU lo 0) h)))
    |_=>.fail)
   |_=>.fail)
  |none=>.fail)
def WG(fW:ag)(a:av)(lo ac ry:Option Int):ax av:=
 match ry with
 | none=>(match ac with
  | some h=>(match a with
   | .osl id off n=>(match fW with
    |.sl j0=>.rb id fun
     |.ob e l=>bif ag.is (.sl e) (.sl j0) then .chk (c3 (kz off (bI (aV l) 1)) (b8 (bU lo 0) h (bq (len l) (bi off)))) (.ret (.osl id (bI off (ae (bU lo 0))) (cc (ae h) (ae (bU lo 0))))) else .fail
     |_=>.fail
    |_=>.fail)
   | a=>xr fW a lo (some h) none)
  |none=>xr fW a lo none none)
 | some m=>(match ac with
  | some h=>(match a with
   | .own id _=>(match fW with
    |.sl j0=>.rb id fun
     |.ob e l=>bif ag.is (.sl e) (.sl j0) then .chk (c3 (b8 (bU lo 0) h m) (b3 m (len l))) (.ret .bad) else .fail
     |_=>.fail
    |_=>.fail)
   |_=>.fail)
  |none=>.fail)
def GO(a:av)(i:Nat):ax av:=
 match a with
 |.tup a=>ax.opt (ja a (gE i))
 |_=>.fail
def J2(eW:Bool):(ts:List ag)->List av->ax (iu ts)
 |[],[]=>.ret ()
 |t::ts,v::vs=>(nb eW t v).bind λx=>(J2 eW ts vs).bind λy=>.ret (x,y)
 |_,_=>.fail
def Wh(id:Nat):(r:eC)->r.aG->ax av
 |.im t,x=>.ret (.sc t x)
 |.ow e,l=>w9 id e l false
 |.cl e,l=>.ret (.csl e l)
def Wg(id:Nat):(rs:List eC)->eq rs->ax av
 |[],_=>.ret (.sc .unit ())
 |r::rs,x=>(Wh id r x.1).bind λv=>(Wg (id+1) rs x.2).bind λw=>.ret (.two v w)
def RJ(d:Nat):(rs:List eC)->eq rs->ax av
 |[],_=>.ret (.tup (.sc .unit ()))
 |[t],r=>Wh (16*d) t r.1
 |t::t'::ts,r=>(Wg (16*d) (t::t'::ts) r).bind λv=>.ret (.tup v)
def Q7(d:Nat)(s:i5):List av->ax av
 |.ptr id []::as=>.rb id λb=>match b with
  |.box t v=>bif ag.is t s.ty then(nb true s.ty v).bind λx=>(J2 true s.args as).bind λy=>.rb id λeo=>match eo with
   |.box e? _=>bif ag.is e? s.ty then .bo (s.ty.zero,zI s.res) (s.fn (x,y)) λr=>.eZ id (.box s.ty (.sc s.ty r.1)) (RJ d s.res r.2) else .fail
   |_=>.fail
   else .fail
  |_=>.fail
 |_=>.fail
def RI(s:oJ):List av->ax (Nat×av)
 |.ptr id []::as=>.rb id λb=>match b with
  |.box t v=>bif ag.is t s.ty then(nb true s.ty v).bind λx=>(J2 true s.args as).bind λy=>.rb id λeo=>match eo with
   |.box e? _=>bif ag.is e? s.ty then .bo (s.ty.zero,(0:Nat),zI [.im s.rt]) (s.fn (x,y)) λr=>.eZ id (.box s.ty (.sc s.ty r.1)) (.ret (r.2.1,.sc s.rt r.2.2.1)) else .fail
   |_=>.fail
   else .fail
  |_=>.fail
 |_=>.fail
def Gu(E:dk)(d:Nat)(f:Nat)(args:List av):ax av:=
 match E.G f with
 |none=>(match E.X f with|some s=>Q7 d s args|none=>.fail)
 |some g=>(J2 (!(g.res.all eC.mY)) g.args args).bind λx=>.bo (zI g.res) (g.fn x) λr=>RJ d g.res r
def mD{α β:Type}(f:α->ax β):List α->ax (List β)
 |[]=>.ret []
 |a::r=>(f a).bind λb=>(mD f r).bind λb?=>.ret (b::b?)
def iO.pv:iO->av
 |.ptr id p=>.ptr id p
 |.iY t x=>.sc t x
def C5:av->ax iO
 |.ptr id p=>.ret (.ptr id p)
 |.sc t x=>.ret (.iY t x)
 |.kb b=>.ret (.iY .bool b)
 |.agg t u=>(nb true t (.agg t u)).bind λx=>.ret (.iY t x)
 |.clo f _ []=>.ret (.iY (.fn [f]) (1:Nat))
 |_=>.fail
def Lx(E:dk)(d:Nat):List Nat->Nat->List av->ax av
 |[],_,_=>.fail
 |[f],x,args=>.chk (bX x 1) (Gu E d f args)
 |f::wn::r,x,args=>.br (bX x 1) (Gu E d f args) (Lx E d (wn::r) (cc x 1) args)
def wj(dT:Nat)(c_:List iO)(args:List av):List av:=(c_.take dT).map iO.pv++(args++(c_.drop dT).map iO.pv)
def anZ(E:dk)(d:Nat)(f:av)(args:List av):ax av:=
 match f with
 |.clo f dT c_=>Gu E d f (wj dT c_ args)
 |.sc (.fn l) x=>Lx E d l x args
 |_=>.fail
def w2:ag->Bool
 |.int _=>true|.str=>true|_=>false
def aiI(a b:List UInt8):Bool:=!(decide (a=b))
def aei(a b:Int):Bool:=!(decide (a=b))
def H?: (t:ag)->t.aG->t.aG->Bool
 |.int k,a,b=>aei (bG.to k a) (bG.to k b)
 |.str,a,b=>aiI (a:List UInt8) (b:List UInt8)
 |_,_,_=>false
def w1:(t:ag)->t.aG->t.aG->Bool
 |.int k,a,b=>aj (bG.to k a) (bG.to k b)
 |.str,a,b=>seq (a:List UInt8) (b:List UInt8)
 |_,_,_=>false
def w?: av->Bool
 |.tup _=>false|_=>true
def MY(q:ag×ag)(m k v:av):ax av:=
 match m with
 |.mpp id=>.rb id fun
  |.mp kt vt l=>(ax.opt (iN kt k)).bind λkey=>(ax.need (ag.is kt q.1&&w2 kt&&(w? v&&l.all λp=>H? kt key p.1))).bind λ_=>.eZ id (.mp kt vt (l++[(key,v)])) (.ret .undef)
  |_=>.fail
 |_=>.fail
def ze(ok:Bool)(v b:av):av:=bif ok then .tup (.two v (.two b (.sc .unit ()))) else v
def CJ(kt vt:ag):List (kt.aG×av)->Option (List (kt.aG×vt.aG))
 |[]=>some []
 |(k,v)::r=>match iN vt v,CJ kt vt r with|some x,some eL=>some ((k,x)::eL)|_,_=>none
def EZ(kt vt:ag)(key:kt.aG):List (kt.aG×vt.aG)->vt.aG
 |[]=>vt.zero
 |(k,x)::r=>T (w1 kt key k) x (EZ kt vt key r)
def Dz(kt vt:ag)(key:kt.aG):List (kt.aG×vt.aG)->Bool
 |[]=>false
 |(k,_)::r=>T (w1 kt key k) true (Dz kt vt key r)
def Ml(kt vt:ag)(ok:Bool)(key:kt.aG):List (kt.aG×av)->ax av
 |[]=>.ret (ze ok (qZ vt (nT vt)) (.kb false))
 |(k,v)::r=>.br (w1 kt key k) (.ret (ze ok v (.kb true))) (Ml kt vt ok key r)
def abK(kt vt:ag)(ok:Bool)(key:kt.aG)(l:List (kt.aG×av)):ax av:=
 match CJ kt vt l with
 |some eL=>.ret (ze ok (.sc vt (EZ kt vt key eL)) (.sc .bool (Dz kt vt key eL)))
 |none=>Ml kt vt ok key l
def UW(E:dk)(xT:Nat)(x k:av)(ok:Bool):ax av:=
 (ax.opt (E.M xT)).bind λp=>
 match x with
 |.mpp id=>.rb id fun
  |.mp kt vt l=>(ax.need (ag.is kt p.1&&(ag.is vt p.2&&w2 kt))).bind λ_=>(ax.opt (iN kt k)).bind λkey=>abK kt vt ok key l
  |_=>.fail
 |.sc (.op 2) _=>(ax.need (w2 p.1)).bind λ_=>(ax.opt (iN p.1 k)).bind λ_=>.ret (ze ok (qZ p.2 (nT p.2)) (.kb false))
 |_=>.fail
def YU(E:dk)(uK:Nat)(x:av)(ok:Bool):ax av:=
 match x with
 |.ifc tid t y=>(ax.opt (E.bv uK)).bind λt'=>bif ag.is t' (.op 1) then .fail else
   bif Nat.beq tid uK then .ret (ze ok (.sc t y) (.kb true)) else bif ok then .ret (ze ok (qZ t' (nT t')) (.kb false)) else .fail
 |.sc (.op 1) _=>(ax.opt (E.bv uK)).bind λt'=>bif ag.is t' (.op 1) then .fail else bif ok then .ret (ze ok (qZ t' (nT t')) (.kb false)) else .fail
 |_=>.fail
def Ga(e:ag)(x:av):ax (List e.aG):=
 match x with
 |.sc .str l=>ax.opt (ag.ly (.int .u8) e (l:List UInt8))
 |x=>nb false (.sl e) x
def U_:av->Bool
 |.own _ true=>true|_=>false
def QI(d:Nat)(e:ag)(s x:av):ax av:=
 bif Nat.blt 0 e.size then(Ga e x).bind λbu=>
 match s with
 |.nil=>.chk (hn e (aV bu)) (w9 (16*d) e bu false)
 |.own id _=>.rb id fun
  |.ob bB l=>(ax.opt (ag.ly bB e l)).bind λl=>.chk (hn e (bI (aV l) (aV bu))) (.eZ id .ft (w9 (16*d) e (cg l bu) false))
  |_=>.fail
 |.osl id off n=>.rb id fun
  |.ob bB l=>(ax.opt (ag.ly bB e l)).bind λl=>.chk (hn e (bI n (aV bu))) (.eZ id .ft (w9 (16*d) e (cg (cut l off n) bu) false))
  |_=>.fail
 |.csl bB l=>(ax.opt (ag.ly bB e l)).bind λl=>.chk (hn e (bI (aV l) (aV bu))) (bif U_ x then w9 (16*d) e (cg l bu) false else .ret (.sc (.sl e) (cg l bu)))
 |_=>.fail
 else .fail
def d?{α:Type}(l:List α)(off n:Nat)(bu:List α):List α:=l.take off++(bu.take n++l.drop (off+min n bu.length))
def QH(e:ag)(s x:av):ax av:=
 bif Nat.blt 0 e.size then(Ga e x).bind λbu=>
 match s with
 |.osl id off n=>.rb id fun
  |.ob bB l=>(ax.opt (ag.ly e bB bu)).bind λh9=>.chk (kz (bI off (bI n (aV h9))) (bI (aV l) 1)) (.eZ id (.ob bB (d? l (bI off n) (aV h9) h9)) (.ret (.osl id off (bI n (aV h9)))))
  |_=>.fail
 |_=>.fail
 else .fail
def aaJ(e:ag)(a x:av):ax av:=
 bif Nat.blt 0 e.size then(nb false (.sl e) x).bind λbu=>
 match a with
 |.nil=>.ret (int 0)
 |.own id _=>.rb id fun
  |.ob bB l=>(ax.opt (ag.ly e bB bu)).bind λh9=>.eZ id (.ob bB (d? l 0 (aV l) h9)) (.ret (int (f6 (len l) (len h9))))
  |_=>.fail
 |.osl id off n=>.rb id fun
  |.ob bB l=>(ax.opt (ag.ly e bB bu)).bind λh9=>.eZ id (.ob bB (d? l off n h9)) (.ret (int (f6 (bi n) (len h9))))
  | .box t v=>(match t with
   |.ar m bB=>(ax.opt (iN (.ar m bB) v)).bind λl=>(ax.opt (ag.ly e bB bu)).bind λh9=>.eZ id (.box (.ar m bB) (.sc (.ar m bB) (d? (l:List bB.aG) off n h9))) (.ret (int (f6 (bi n) (len h9))))
   |_=>.fail)
  |_=>.fail
 |_=>.fail
 else .fail
def RU(e:ag)(a:av):ax av:=
 bif Nat.blt 0 e.size then
 match a with
 |.own id _=>.rb id fun
  |.ob bB l=>bif ag.is bB e then .eZ id (.ob bB (d? l 0 (aV l) (bR (aV l) bB.zero))) (.ret (.tup (.sc .unit ()))) else .fail
  |_=>.fail
 |.osl id off n=>.rb id fun
  |.ob bB l=>bif ag.is bB e then .eZ id (.ob bB (d? l off n (bR n bB.zero))) (.ret (.tup (.sc .unit ()))) else .fail
  |_=>.fail
 |_=>.fail
 else .fail
def Sk:ag->Option ag
 |.sl e=>some e|_=>none
def aek:ag->Bool
 |.sl _=>true|_=>false
def MZ:ag->Bool
 |.sl _=>true|.str=>true|_=>false
def Ra(E:dk)(d:Nat)(b:Builtin)(d':List Nat)(args:List av):ax av:=
 match b with
 | .len=>(match d',args with
  |t::_,[a]=>(ax.opt (E.bv t)).bind λt=>Ij t a
  |_,_=>.fail)
 | .cap=>(match d',args with
  |t::_,[.nil]=>(ax.opt (E.bv t)).bind λt=>bif aek t then .ret (int 0) else .fail
  |_,_=>.fail)
 | .append=>(match d',args with
  | [t,u],[s,x]=>(match E.bv t,E.bv u with
   | some (.sl e),some (.int .i64)=>(match s,x with
    |.nil,.sc (.int .i64) n=>.chk (c3 (b3 0 n) (hn e (ae n))) (w9 (16*d) e (bR (ae n) e.zero) false)
    |_,_=>.fail)
   |some (.sl e),some u=>bif MZ u then(bif E.A then QH e s x else QI d e s x) else .fail
   |_,_=>.fail)
  |_,_=>.fail)
 | .copy=>(match d',args with
  | [t,u],[a,x]=>(match E.bv t,E.bv u with
   |some (.sl e),some (.sl _)=>aaJ e a x
   |_,_=>.fail)
  |_,_=>.fail)
 | .clear=>(match d',args with
  | [t],[a]=>(match E.bv t with
   |some (.sl e)=>RU e a
   |_=>.fail)
  |_,_=>.fail)
 |.min=>(match args with|[.sc (.int .i64) a,.sc (.int .i64) b]=>.ret (int (f6 a b))|_=>.fail)
 |.max=>(match args with|[.sc (.int .i64) a,.sc (.int .i64) b]=>.ret (int (c6 a b))|_=>.fail)
 |_=>.fail
def E2(t:ag):av->List (Nat×av)->Option av
 |v,[]=>some v
 |v,(i,u)::r=>match m' v (gE i) (xs u) with|some cT=>E2 t cT r|none=>none
def Dh(t:ag):List (Nat×av)->ax Unit
 |[]=>.ret ()
 |(i,u)::r=>match t.at (gE i) with|some d9=>(tt d9 u).bind λ_=>Dh t r|none=>.fail
def J5(e:ag):List (Nat×av)->ax (List (Nat×e.aG))
 |[]=>.ret []
 |(i,u)::r=>(nb true e u).bind λx=>(J5 e r).bind λeL=>.ret ((i,x)::eL)
def vR{α:Type}:List α->List (Nat×α)->List α
 |l,[]=>l
 |l,(i,x)::r=>vR (l.set i x) r
def ael:ag->Bool
 |.unit=>true|.pair _ _=>true|_=>false
def alL(t:ag)(a_:List (Nat×av)):ax av:=
 match t with
 |.ar n e=>(ax.need (a_.all λp=>Nat.blt p.1 n)).bind λ_=>(J5 e a_).bind λeL=>.ret (.sc (.ar n e) (vR (List.replicate n e.zero) eL))
 |t=>bif ael t then(Dh t a_).bind λ_=>(ax.opt (E2 t (nT t) a_)).bind λv=>.ret (qZ t v) else .fail
def Ze(d:Nat)(e:ag)(n:Nat)(a_:List (Nat×av)):ax av:=
 (ax.need (a_.all (λp=>Nat.blt p.1 n)&&Nat.ble (n*e.size) 16777216)).bind λ_=>(J5 e a_).bind λeL=>
  w9 (16*d) e (vR (List.replicate n e.zero) eL) (Nat.blt 0 n)
def ago(d n:Nat)(a_:List (Nat×av)):ax av:=
 bif Nat.blt 0 n&&Nat.ble n 64 then(Dh (nc n) a_).bind λ_=>(ax.opt (E2 (nc n) (nT (nc n)) a_)).bind λv=>u1 (16*d) (.eZ (16*d) (.box (nc n) v) (.ret (.psl (16*d) n))) else .fail
def IV:Option Operand->ax (Option Int)
 |none=>.ret none
 |some o=>(ey o).bind λv=>(z6 v).bind λn=>.ret (some n)
def NO(a_:List (Nat×Operand)):ax (List (Nat×av)):=mD (λp=>(ey p.2).bind λv=>.ret (p.1,v)) a_
def Nt(v:av):ax av:=
 match v with
 |.ptr id p=>.rb id fun|.box _ _=>.ret (.ptr id p)|_=>.fail
 |.ipt e l i p=>.ret (.ipt e l i p)
 |.opt id i p=>.rb id fun|.ob _ _=>.ret (.opt id i p)|.fz _ _=>.ret (.opt id i p)|_=>.fail
 |.clo f dT c_=>.ret (.clo f dT c_)
 |_=>.fail
def ax3(id:Nat)(x:av):ax av:=
 match x with
 |.sc .str l=>u1 id (.eZ id (.it l 0) (.ret (.itp id)))
 |_=>.fail
def U?(x:av):ax av:=
 match x with
 |.itp id=>.rb id fun
  |.it s p=>.br (kz p (aV s))
    (.eZ id (.it s (bI p (h? s p).2)) (.ret (.tup (.two (.kb true) (.two (int (bi p)) (.two (.sc (.int .i32) (bi (h? s p).1)) (.sc .unit ())))))))
    (.ret (.tup (.two (.kb false) (.sc .unit ()))))
  |_=>.fail
 |_=>.fail
def IA:BinOp->Operand->Bool
 |.eql,.const .nilIface=>true
 |_,_=>false
def MW(t:ag)(a:av):ax av:=
 bif ag.is t (.op 1) then(match a with
  |.ifc _ _ _=>.ret (.kb false)
  |.sc (.op 1) _=>.ret (.kb true)
  |_=>.fail) else .fail
def sJ(E:dk)(o:Oper):ax av:=
 let d:=E.b+o.dst.getD 0
 match o.op with
 |.move x=>ey x
 |.assign x=>ey x
 |.pick c a b=>(ey c).bind λc=>(ey a).bind λa=>(ey b).bind λb=>VY c a b
 |.alloc t=>(ax.opt (E.bv t)).bind λt=>u1 (16*d) (.eZ (16*d) (.box t (nT t)) (.ret (.ptr (16*d) [])))
 |.box t x=>(ax.opt (E.bv t)).bind λt=>(ey x).bind λv=>(tt t v).bind λ_=>u1 (16*d) (.eZ (16*d) (.box t (xs v)) (.ret (.ptr (16*d) [])))
 |.build t a_=>(ax.opt (E.bv t)).bind λt=>(NO a_.toList).bind λa_=>alL t a_
 |.buildSlice t n a_=>(ax.opt (E.bv t)).bind λt=>(ax.opt (Sk t)).bind λe=>(NO a_.toList).bind λa_=>bif ag.is e (.op 3) then ago d n a_ else Ze d e n a_
 |.load t a=>(ax.opt (E.bv t)).bind λt=>(ey a).bind λa=>yQ t a
 |.store t a x=>(ax.opt (E.bv t)).bind λt=>(ey a).bind λa=>(ey x).bind λx=>WW t a x
 |.nilCheck x=>(ey x).bind λv=>Nt v
 |.binOp op t x y _=>bif IA op y then(ax.opt (E.bv t)).bind λty=>(ey x).bind λa=>MW ty a else(ey x).bind λa=>(ey y).bind λb=>Ld E (NC y) (Nw y) op t a b
 |.unOp op _ x=>(ey x).bind λx=>XC op x
 |.convert s t x=>(ey x).bind λx=>aaI E d s t x
 |.makeSlice t l c=>(ax.opt (E.bv t)).bind λt=>(ax.opt (Sk t)).bind λe=>(ey l).bind λl=>(z6 l).bind λl=>(ey c).bind λc=>(z6 c).bind λc=>
   .chk (c3 (b8 0 l c) (hn e (ae c))) (w9 (16*d) e (bR (ae l) e.zero) false)
 |.slice t x lo ac ry=>(ax.opt (E.bv t)).bind λt=>(ey x).bind λx=>(IV lo).bind λlo=>(IV ac).bind λac=>(IV ry).bind λry=>bif E.A then(match t with|.sl e=>WG (.sl e) x lo ac ry|_=>.fail) else xr t x lo ac ry
 |.fieldAddr s x f=>(ey x).bind λx=>L6 (E.bv s) f x
 |.field t x f=>(ey x).bind λx=>Sw E t f x
 |.indexAddr t x i=>(ax.opt (E.bv t)).bind λt=>(SY E x).bind λx=>(ey i).bind λi=>(z6 i).bind λi=>yJ t x i
 |.index t x i=>(ax.opt (E.bv t)).bind λt=>(ey x).bind λx=>(ey i).bind λi=>(z6 i).bind λi=>H2 t x i
 |.range t x=>(ax.opt (E.bv t)).bind λt=>(ax.need (ag.is t .str)).bind λ_=>(ey x).bind λx=>ax3 (16*d) x
 |.next x true=>(ey x).bind λx=>U? x
 |.extract x i=>(ey x).bind λx=>GO x i
 |.makeFunc (.func f) first cap=>(mD ey first.toList).bind λa=>(mD ey cap.toList).bind λb=>(mD C5 (a++b)).bind λc_=>.ret (.clo f a.length c_)
 |.makeMap t none=>(ax.opt (E.M t)).bind λp=>u1 (16*d) (.eZ (16*d) (.mp p.1 p.2 []) (.ret (.mpp (16*d))))
 |.insert t m k v=>(ax.opt (E.M t)).bind λq=>(ey m).bind λm=>(ey k).bind λk=>(ey v).bind λv=>MY q m k v
 |.mapUpdate t m k v=>(ax.opt (E.M t)).bind λq=>(ey m).bind λm=>(ey k).bind λk=>(ey v).bind λv=>MY q m k v
 |.lookup t x i ok=>(ey x).bind λx=>(ey i).bind λi=>UW E t x i ok
 |.makeInterface t x=>(ax.opt (E.bv t)).bind λty=>(ax.need (!(ag.is ty (.op 1)))).bind λ_=>(ey x).bind λx=>(nb true ty x).bind λy=>.ret (.ifc t ty y)
 |.typeAssert x _ a ok=>(ey x).bind λx=>YU E a x ok
 | .call c=>(match c.callee with
  |.builtin b=>(mD ey c.args.toList).bind λargs=>Ra E d b c.argTypes.toList args
  |.value f=>(ey f).bind λf=>(mD ey c.args.toList).bind λargs=>anZ E d f args
  |.invoke .. => .fail)
 |_=>.fail
end Yp
namespace Yp
open Go
structure po where
 i:Nat
 al:Bool
 rb:List Nat
 eZ:List Nat
def Ni(a b:List Nat):Bool:=a.any λk=>b.any (Nat.beq k)
def WO:List Nat->Bool
 |[]=>false|_=>true
def po.Lz(a b:po):Bool:=Ni a.eZ b.rb||Ni a.eZ b.eZ||Ni a.rb b.eZ||(a.al&&WO b.eZ)||(b.al&&WO a.eZ)
def rF(oL:List Nat):List po->Bool
 |[]=>true
 |f::r=>r.all (λg=>!(f.Lz g)||Nat.testBit (oL.getD g.i 0) f.i)&&rF oL r
def bits:List Nat->Nat
 |[]=>0
 |i::r=>2^i|||bits r
def Xt:List Operand->List Nat
 |[]=>[]
 |.tmp t::r=>t::Xt r
 |_::r=>Xt r
def aa8(ops:List Oper)(j:Nat):List Nat:=match ops[j]? with|some o=>(match o.dst with|some d=>[d]|none=>[])|none=>[]
def k4(ops:List Oper)(o:Oper):Nat:=bits (Xt o.op.operands.toList++(match o.guard with|some (g,_)=>aa8 ops g|none=>[]))
def Fx(o:Oper):Nat:=match o.dst with|some d=>2^d|none=>0
def JO(ops:List Oper)(oL:List Nat):Nat->List Oper->List (Nat×Nat×Nat)->Bool
 |_,[],_=>true
 |i,o::r,l=>
  let qK:=k4 ops o
  let wr:=Fx o
  l.all (λp=>(Nat.beq (Nat.land p.2.2 (qK|||wr)) 0&&Nat.beq (Nat.land p.2.1 wr) 0)||Nat.testBit (oL.getD i 0) p.1) &&
  JO ops oL (i+1) r ((i,qK,wr)::l)
def mn:List Oper->List Nat->List Nat
 |[],dc=>dc
 |o::r,dc=>mn r (dc++[o.after.toList.foldl (λs e=>bif Region.binds .any e then s|||2^e.on|||dc.getD e.on 0 else s) 0])
def wk:Nat->List Oper->Bool
 |_,[]=>true
 |i,o::r=>o.after.toList.all (λe=>!(Region.binds .any e)||Nat.blt e.on i)&&wk (i+1) r
def yp:List Oper->Nat
 |[]=>0
 |o::r=>match o.guard with|some (g,_)=>2^g|||yp r|none=>yp r
def Jg(ops:List Oper):Bool:=wk 0 ops&&JO ops (mn ops []) 0 ops []
def er:List Oper->List Nat
 |[]=>[]
 |o::r=>match o.dst with|some d=>d::er r|none=>er r
def ko(ρ:Type):Type:=aF aM ρ
def Xz:av->Option ag
 |.sc t _=>some t|.kb _=>some .bool|_=>none
def qm{β:Type 1}:ag->(ag->β)->β
 |.bool,k=>k .bool|.str,k=>k .str|.unit,k=>k .unit
 |.int i,k=>(match i with|.u8=>k (.int .u8)|.u16=>k (.int .u16)|.u32=>k (.int .u32)|.u64=>k (.int .u64)|.i8=>k (.int .i8)|.i16=>k (.int .i16)|.i32=>k (.int .i32)|.i64=>k (.int .i64))
 |.sl e,k=>qm e λe=>k (.sl e)
 |.pair a b,k=>qm a λa=>qm b λb=>k (.pair a b)
 |.ar n e,k=>qm e λe=>k (.ar n e)
 |.op i,k=>k (.op i)|.fn l,k=>k (.fn l)
def L3{β:Type 1}(t:ag)(k:ag->β):qm t k=k t:=by
 induction t generalizing k with
 |int i=>cases i<;>rfl
 |sl e h=>simp only[qm,h]
 |pair a b h g=>simp only[qm,h,g]
 |ar n e h=>simp only[qm,h]
 |_=>rfl
def ahQ(i:Nat)(t:ag)(s:aM):Bool:=match Xz (s.b0 i) with|some t'=>ag.is t' t|none=>false
def yc{β:Type 1}(l:List aM):List Nat->(List (Nat×ag)->β)->β
 |[],k=>k []
 |i::r,k=>match l with
  | s :: m=>(match Xz (s.b0 i) with
   |some t=>bif m.all (ahQ i t) then yc l r λks=>qm t λt=>k ((i,t)::ks) else yc l r k
   |none=>yc l r k)
  |[]=>k []
def C7:List (Nat×ag)->Type
 |[]=>Unit|p::r=>p.2.aG×C7 r
def ajL:(l:List (Nat×ag))->C7 l
 |[]=>()|p::r=>(p.2.zero,ajL r)
def rc(s:aM):(l:List (Nat×ag))->Option (C7 l)
 |[]=>some ()
 |p::r=>match iN p.2 (s.b0 p.1),rc s r with|some x,some y=>some (x,y)|_,_=>none
def OI{β:Type 1}(s:aM)(k:aM->β):(l:List (Nat×ag))->C7 l->β
 |[],_=>k s
 |p::r,x=>s.BM p.1 (.sc p.2 x.1) λs=>OI s k r x.2
def aP.nI{α β:Type}(f:α->Option β):aP α->aP β
 |.fail=>.fail
 |.leaf a=>match f a with|some b=>.leaf b|none=>.fail
 |.br c x y=>.br c (x.nI f) (y.nI f)
 |.chk c x=>.chk c (x.nI f)
 |.bo d o k=>.bo d o λa=>(k a).nI f
 |.cs d e o kn hB hR=>.cs d e o (λa=>(kn a).nI f) (λk a=>(hB k a).nI f) (λa=>(hR a).nI f)
def Ki{β:Type 1}(s:aM):List Nat->(aM->β)->β
 |[],k=>k s
 |i::r,k=>s.BM i .bad λs=>Ki s r k
def H9(s:aM)(all keep:List Nat)(t:aP aM):aP aM:=
 t.qC λl=>
 bif l.all (λcy=>Nat.beq cy.w.length s.w.length) then
  yc l keep λks=>
  bif Nat.beq ks.length 0 then t else
  .bo (ajL ks) (t.nI (λcy=>bif Nat.beq cy.w.length s.w.length then rc cy ks else none)).bH λp=>Ki s all λs=>OI s .leaf ks p
 else t
def UN:List Oper->List Nat
 |[]=>[]
 |[o]=>(match o.dst with|some d=>[d]|none=>[])
 |_::r=>UN r
def iL{β:Type}(nt:Nat)(c?:Option Nat)(s:aM)(v:av)(k:aM->aP β):aP β:=
 match c? with|some d=>bif Nat.blt d nt then s.BM d v k else .fail|none=>k s
def se(dt:Bool)(i:Nat)(rb:List Nat)(wr:List (Nat×aT))(hP:List po):List po:=
 bif dt then(match rb,wr with|[],[]=>hP|_,_=>⟨i,false,rb,wr.map λp=>p.1⟩::hP) else hP
def uS:av->Option Bool
 |.sc .bool c=>some c
 |_=>none
def Mo(ops:List Oper)(o:Oper)(s:aM)(GM skip:aP aM):aP aM:=
 match o.guard with
 |none=>GM
 | some (j,mg)=>(match (ops[j]?).bind (·.dst) with
  |none=>.fail
  | some g=>(match s.b0 g with
   |.kb b=>bif b==mg then GM else skip
   |.undef=>skip
   |_=>.fail))
def Dl(s:aM):Operand->av
 |.tmp t=>s.b0 t
 |.func f=>.clo f 0 []
 |_=>.bad
def t6:List iO->List Nat
 |[]=>[]
 |.ptr id _::r=>id::t6 r
 |.iY _ _::r=>t6 r
def dU:av->List Nat
 |.own id _=>[id]|.osl id _ _=>[id]|.ptr id _=>[id]|.opt id _ _=>[id]|.itp id=>[id]|.mpp id=>[id]|.psl id _=>[id]|.clo _ _ c_=>t6 c_
 |.two a b=>dU a++dU b|.agg _ a=>dU a|.tup a=>dU a
 |_=>[]
def zc:aT->List Nat
 |.box _ v=>dU v
 |.mp _ _ l=>l.flatMap λp=>dU p.2
 |_=>[]
def qy(s:aM):List Nat:=s.h.map λp=>p.1
def Gy(s:aM)(a_:List av):Bool:=s.h.all (λp=>(zc p.2).all λj=>(qy s).any (Nat.beq j))&&a_.all λp=>(dU p).all λj=>(qy s).any (Nat.beq j)
def afs:List Nat->Bool
 |[]=>true|_=>false
def V?(ops:List Oper)(o:Oper):Operand->Bool
 |.tmp t=>Nat.testBit (k4 ops o) t|.func _=>true|_=>false
def aft:List (Nat×aT)->Bool
 |[]=>true|_=>false
def MX(E:dk)(ops:List Oper)(o:Oper)(s:aM):Option (aP (av×aM)):=
 match o.op with
 | .call ⟨.value f,args,_⟩=>(match Dl s f with
  | .clo F dT c_=>(match E.I F with
   | some g=>some (((mD ey args.toList).run s 0 [] []).bind λr =>
     bif Nat.beq (r.2.rt|||k4 ops o) (k4 ops o)&&(aft r.2.wr&&(afs r.2.rb&&(V? ops o f&&Gy s (wj dT c_ r.1)))) then g ((E.b+o.dst.getD 0+1)*65536) (wj dT c_ r.1) s else .fail)
   |none=>none)
  |_=>none)
 |_=>none
def U'(s ay:aM):List Nat:=ay.w.take (ay.w.length-s.w.length)
def nS(s ay:aM):List (Nat×aT):=(U' s ay).map λid=>(id,ay.aW id)
def pb(E:dk)(ops:List Oper)(nv nt:Nat)(dt:Bool):Bool->Nat->List Oper->aM->List po->aP aM
 |_,_,[],s,hP=>bif !dt||(Jg ops&&rF (mn ops []) hP.reverse) then .leaf s else .fail
 |top,i,o::rest,s,hP=>
  Mo ops o s
   (match(bif dt then MX E ops o s else none) with
   |some t=>t.bind λr=>bif Nat.testBit (yp ops) i then .fail else s.xo (nS s r.2) λbz=>nw r.1 λv=>iL nt o.dst bz v λay=>pb E ops nv nt dt top (i+1) rest ay (se dt i (qy s) (nS s r.2) hP)
   |none=>((sJ E o).run s 0 [] []).bind λr=>s.xo r.2.wr λbz=>nw r.1 λv=>
    bif dt && !(Nat.beq (r.2.rt|||k4 ops o) (k4 ops o)) then .fail else
    bif Nat.testBit (yp ops) i&&(uS v).isSome then
     (match uS v with
     |some c=>
      bif top then iL nt o.dst bz (.sc .bool c) λay=>H9 ay (er rest) ((er rest).filter λk=>Nat.blt k nv||(UN rest).any (Nat.beq k))
       (.br c (iL nt o.dst bz (.kb true) λs=>pb E ops nv nt dt false (i+1) rest s (se dt i r.2.rb r.2.wr hP)) (iL nt o.dst bz (.kb false) λs=>pb E ops nv nt dt false (i+1) rest s (se dt i r.2.rb r.2.wr hP)))
      else .br c (iL nt o.dst bz (.kb true) λs=>pb E ops nv nt dt false (i+1) rest s (se dt i r.2.rb r.2.wr hP)) (iL nt o.dst bz (.kb false) λs=>pb E ops nv nt dt false (i+1) rest s (se dt i r.2.rb r.2.wr hP))
     |none=>.fail)
    else iL nt o.dst bz v λs=>pb E ops nv nt dt top (i+1) rest s (se dt i r.2.rb r.2.wr hP))
   (iL nt o.dst s .undef λs=>pb E ops nv nt dt top (i+1) rest s hP)
def ax.jd{α:Type}(s:aM)(m:ax α):aP (α×aM):=(m.run s 0 [] []).bind λr=>s.xo r.2.wr λs=>.leaf (r.1,s)
def Uv(E:dk)(d:Nat)(f:av)(args:List Operand)(s:aM):Option (aP (av×aM)):=
 match f with
 | .clo F dT c_=>(match E.I F with
  |some g=>some ((ax.jd s (mD ey args)).bind λr=>g ((E.b+d+1)*65536) (wj dT c_ r.1) r.2)
  |none=>none)
 |_=>none
def VD(E:dk)(o:Oper)(s:aM):aP (av×aM):=
 let plain:aP (av×aM):=((sJ E o).run s 0 [] []).bind λr=>s.xo r.2.wr λbz=>nw r.1 λv=>.leaf (v,bz)
 match o.op with
 | .call ⟨.value f,args,_⟩=>(match Uv E (o.dst.getD 0) (Dl s f) args.toList s with
  |some t=>t.bind λr=>nw r.1 λv=>.leaf (v,r.2)
  |none=>plain)
 |_=>plain
def pP(E:dk)(ops:List Oper)(nv nt:Nat):Bool->Nat->List Oper->aM->aP aM
 |_,_,[],s=>.leaf s
 |top,i,o::rest,s=>
  Mo ops o s
   ((VD E o s).bind λr=>
    bif Nat.testBit (yp ops) i&&(uS r.1).isSome then
     (match uS r.1 with
     |some c=>
      bif top then iL nt o.dst r.2 (.sc .bool c) λay=>H9 ay (er rest) ((er rest).filter λk=>Nat.blt k nv||(UN rest).any (Nat.beq k))
       (.br c (iL nt o.dst r.2 (.kb true) λs=>pP E ops nv nt false (i+1) rest s) (iL nt o.dst r.2 (.kb false) λs=>pP E ops nv nt false (i+1) rest s))
      else .br c (iL nt o.dst r.2 (.kb true) λs=>pP E ops nv nt false (i+1) rest s) (iL nt o.dst r.2 (.kb false) λs=>pP E ops nv nt false (i+1) rest s)
     |none=>.fail)
    else iL nt o.dst r.2 r.1 λs=>pP E ops nv nt top (i+1) rest s)
   (iL nt o.dst s .undef λs=>pP E ops nv nt top (i+1) rest s)
def RM(E:dk):List Oper->Bool
 |[]=>false
 | o :: r=>(match o.op with
  |.call ⟨.value (.func f),_,_⟩=>(E.I f).isSome
  |.call ⟨.value _,_,_⟩=>true
  |_=>false)||RM E r
def agQ(E:dk)(s:aM):ResultVar->ax av
 |.tmp t=>.rt t .ret
 |.cell a t=>(ax.opt (E.bv t)).bind λt=>.rt a λv=>yQ t v
def O_(e:ag):av->ax (List e.aG)
 |.own id _=>.rb id fun
  |.ob bB l=>(ax.opt (ag.ly bB e l)).bind λx=>.eZ id .ft (.ret x)
  |_=>.fail
 |.osl id off n=>.rb id fun
  |.ob bB l=>(ax.opt (ag.ly bB e l)).bind λx=>.eZ id .ft (.ret (cut x off n))
  |_=>.fail
 |.nil=>.ret []
 |_=>.fail
def an9(e:ag):av->ax (List e.aG)
 |.csl bB l=>ax.opt (ag.ly bB e l)
 |.nil=>.ret []
 |_=>.fail
def ai5:(r:eC)->av->ax r.aG
 |.im t,v=>nb true t v
 |.ow e,v=>O_ e v
 |.cl e,v=>an9 e v
def o_(s:aM):(rs:List eC)->List av->aP (eq rs)
 |[],[]=>.leaf ()
 |r::rs,v::vs=>(ax.jd s (ai5 r v)).bind λx=>(o_ x.2 rs vs).bind λy=>.leaf (x.1,y)
 |_,_=>.fail
def nN(E:dk)(s:aM):List ResultVar->aP (List av)
 |[]=>.leaf []
 |r::rs=>(ax.jd s (agQ E s r)).bind λv=>(nN E s rs).bind λvs=>.leaf (v.1::vs)
def dV:Code->List Nat
 |.region _ ops _=>er ops.toList
 |.seq a b=>dV a++dV b
 |.cond _ a b=>dV a++dV b
 |.block _ b=>dV b
 |.loop b=>dV b
 |.scope b=>dV b
 |.rangeFunc _ a_ a b=>a_.toList++dV a++dV b
 |_=>[]
def nr:List Nat->List Nat
 |[]=>[]
 |i::r=>bif r.any (Nat.beq i) then nr r else i::nr r
inductive kL where
 |d (t:ag)|o (id:Nat) (e:ag)|p (a b:kL)
 deriving Inhabited
def kL.aG:kL->Type
 |.d t=>t.aG|.o _ e=>List e.aG|.p a b=>a.aG×b.aG
def kL.zero:(s:kL)->s.aG
 |.d t=>t.zero|.o _ e=>([]:List e.aG)|.p a b=>(a.zero,b.zero)
inductive fe where
 |sl (i:Nat) (t:ag)|ow (i id:Nat) (e:ag)|bk (id:Nat) (e:ag)|bx (id:Nat) (t:ag) (s:kL)|it (id:Nat) (s:List UInt8)
 deriving Inhabited
def fe.aG:fe->Type
 |.sl _ t=>t.aG|.ow _ _ e=>List e.aG|.bk _ e=>List e.aG|.bx _ _ s=>s.aG|.it _ _=>Nat
def fe.zero:(e:fe)->e.aG
 |.sl _ t=>t.zero|.ow _ _ e=>([]:List e.aG)|.bk _ e=>([]:List e.aG)|.bx _ _ s=>s.zero|.it _ _=>(0:Nat)
def ns:List fe->Type
 |[]=>Unit|e::r=>e.aG×ns r
def ajK:(l:List fe)->ns l
 |[]=>()|e::r=>(e.zero,ajK r)
def xq(O R:aM):Nat->Nat->av->av->Option kL
 |0,_,_,_=>none
 |fu+1,n,.two a b,.two c d=>match xq O R fu (2*n) a c,xq O R fu (2*n+1) b d with
  |some (.d t),some (.d u)=>some (.d (.pair t u))
  |some x,some y=>some (.p x y)|_,_=>none
 |fu+1,n,.two a b,.sc (.pair s t) x=>match xq O R fu (2*n) a (.sc s x.1),xq O R fu (2*n+1) b (.sc t x.2) with
  |some (.d t),some (.d u)=>some (.d (.pair t u))
  |some x,some y=>some (.p x y)|_,_=>none
 |fu+1,n,.sc (.pair s t) x,.two c d=>match xq O R fu (2*n) (.sc s x.1) c,xq O R fu (2*n+1) (.sc t x.2) d with
  |some (.d t),some (.d u)=>some (.d (.pair t u))
  |some x,some y=>some (.p x y)|_,_=>none
 |_+1,_,.sc t _,.sc t' _=>bif ag.is t t' then some (.d t) else none
 |_+1,_,.sc t _,.kb _=>bif ag.is t .bool then some (.d .bool) else none
 |_+1,_,.kb _,.sc t _=>bif ag.is t .bool then some (.d .bool) else none
 |_+1,_,.kb _,.kb _=>some (.d .bool)
 |_+1,_,.nil,.sc (.sl e) _=>some (.d (.sl e))
 |_+1,_,.sc (.sl e) _,.nil=>some (.d (.sl e))
 |_+1,n,.nil,.own id _=>(match R.aW id with|.ob e _=>some (.o n e)|.fz e _=>some (.d (.sl e))|_=>none)
 |_+1,n,.own id _,.nil=>(match O.aW id with|.ob e _=>some (.o n e)|.fz e _=>some (.d (.sl e))|_=>none)
 | _+1,n, .own id _, .own pJ _=>(match O.aW id,R.aW pJ with
   |.ob e _,.ob bB _=>bif ag.is e bB then some (.o n e) else none
   |.fz e _,.ob bB _=>bif ag.is e bB then some (.d (.sl e)) else none
   |.ob e _,.fz bB _=>bif ag.is e bB then some (.d (.sl e)) else none
   |.fz e _,.fz bB _=>bif ag.is e bB then some (.d (.sl e)) else none
   |_,_=>none)
 |_+1,_,.sc (.sl e) _,.own id _=>(match R.aW id with|.ob bB _=>bif ag.is e bB then some (.d (.sl e)) else none|.fz bB _=>bif ag.is e bB then some (.d (.sl e)) else none|_=>none)
 |_+1,_,.own id _,.sc (.sl e) _=>(match O.aW id with|.ob bB _=>bif ag.is e bB then some (.d (.sl e)) else none|.fz bB _=>bif ag.is e bB then some (.d (.sl e)) else none|_=>none)
 |_+1,n,.nil,.osl id _ _=>(match R.aW id with|.ob e _=>some (.o n e)|.fz e _=>some (.d (.sl e))|_=>none)
 |_+1,n,.osl id _ _,.nil=>(match O.aW id with|.ob e _=>some (.o n e)|.fz e _=>some (.d (.sl e))|_=>none)
 | _+1,n, .osl id _ _, .own pJ _=>(match O.aW id,R.aW pJ with
   |.ob e _,.ob bB _=>bif ag.is e bB then some (.o n e) else none
   |.fz e _,.ob bB _=>bif ag.is e bB then some (.d (.sl e)) else none
   |.ob e _,.fz bB _=>bif ag.is e bB then some (.d (.sl e)) else none
   |.fz e _,.fz bB _=>bif ag.is e bB then some (.d (.sl e)) else none
   |_,_=>none)
 | _+1,n, .own id _, .osl pJ _ _=>(match O.aW id,R.aW pJ with
   |.ob e _,.ob bB _=>bif ag.is e bB then some (.o n e) else none
   |.fz e _,.ob bB _=>bif ag.is e bB then some (.d (.sl e)) else none
   |.ob e _,.fz bB _=>bif ag.is e bB then some (.d (.sl e)) else none
   |.fz e _,.fz bB _=>bif ag.is e bB then some (.d (.sl e)) else none
   |_,_=>none)
 |_+1,_,.osl _ _ _,.osl _ _ _=>none
 |_+1,_,_,_=>none
def E4:kL->ag
 |.d t=>t|.o _ e=>.sl e|.p a b=>.pair (E4 a) (E4 b)
def md:kL->List Nat
 |.d _=>[]|.o id _=>[id]|.p a b=>md a++md b
def ig:List fe->List Nat
 |[]=>[]
 |.ow _ id _::r=>id::ig r
 |.bx _ _ sh::r=>md sh++ig r
 |_::r=>ig r
def dE:List fe->List Nat
 |[]=>[]
 |.bk id _::r=>id::dE r
 |.bx id _ _::r=>id::dE r
 |.it id _::r=>id::dE r
 |_::r=>dE r
def wm:List fe->List Nat
 |[]=>[]
 |.sl i _::r=>i::wm r
 |.ow i _ _::r=>i::wm r
 |_::r=>wm r
def AW:aT->Bool
 |.new=>true|_=>false
def AU:fe->Bool
 |.bk _ _=>true|_=>false
def Nx:List Nat->Bool
 |[]=>true
 |i::r=>!(r.any (Nat.beq i))&&Nx r
def Mx(base:aM)(es:List fe)(CN:List Nat):Bool:=
 Nx (ig es++dE es)&&(ig es).all (λid=>AW (base.aW id))&&(dE es).all (λid=>!(AW (base.aW id)))&&(wm es).all (λi=>CN.any (Nat.beq i))
def C'(base:aM)(es:List fe)(s:aM):Bool:=
 (s.w.take (s.w.length-base.w.length)).all λid=>AW (base.aW id)||(dE es).any (Nat.beq id)
def xd(e:ag):av->ax (List e.aG)
 |.nil=>bif Nat.blt 0 e.size then .ret []else .fail
 |.own id _=>.rb id fun|.ob bB l=>(ax.opt (ag.ly bB e l)).bind λx=>.eZ id .ft (.ret x)|_=>.fail
 |.osl id off n=>.rb id fun|.ob bB l=>(ax.opt (ag.ly bB e l)).bind λx=>.eZ id .ft (.ret (cut x off n))|_=>.fail
 |_=>.fail
def O6:av->Option (av×av)
 |.two u v=>some (u,v)
 |.sc (.pair t u) x=>some (.sc t x.1,.sc u x.2)
 |_=>none
def Bo:(sh:kL)->av->ax sh.aG
 |.d t,v=>af6 t v
 |.o _ e,v=>xd e v
 |.p a b,v=>match O6 v with
  |some (u,w)=>(Bo a u).bind λx=>(Bo b w).bind λy=>.ret (x,y)
  |none=>.fail
def g8:(sh:kL)->sh.aG->av×List (Nat×aT)
 |.d t,x=>(.sc t x,[])
 |.o id e,l=>(.own id false,[(id,.ob e l)])
 |.p a b,x=>(.two (g8 a x.1).1 (g8 b x.2).1,(g8 a x.1).2++(g8 b x.2).2)
def Bm(s:aM):(e:fe)->aP (e.aG×aM)
 |.sl i t=>ax.jd s (.rt i λv=>af6 t v)
 |.ow i _ e=>ax.jd s (.rt i λv=>xd e v)
 |.bk id e=>ax.jd s (.rb id fun|.ob bB l=>ax.opt (ag.ly bB e l)|_=>.fail)
 |.bx id t sh=>ax.jd s (.rb id fun|.box t' v=>bif ag.is t' t&&ag.is (E4 sh) t then Bo sh v else .fail|_=>.fail)
 |.it id _=>ax.jd s (.rb id fun|.it _ p=>.ret p|_=>.fail)
def sL(s:aM):(l:List fe)->aP (ns l×aM)
 |[]=>.leaf ((),s)
 |e::r=>bif AU e then(sL s r).bind λy=>(Bm y.2 e).bind λx=>.leaf ((x.1,y.1),x.2)
  else(Bm s e).bind λx=>(sL x.2 r).bind λy=>.leaf ((x.1,y.1),y.2)
def Nr(h:List (Nat×aT)):Nat->Nat->Nat
 |0,i=>i
 |n+1,i=>match rr h i with|.new=>i|_=>Nr h n (i+1000000)
def DV{β:Type 1}(s:aM):(e:fe)->e.aG->(aM->β)->β
 |.sl i t,x,k=>s.BM i (.sc t x) k
 |.ow i id e,l,k=>s.BL id (.ob e l) λs=>s.BM i (.own id false) k
 |.bk id e,l,k=>s.BL id (.ob e l) k
 |.bx id t sh,x,k=>s.xo (g8 sh x).2 λs=>s.BL id (.box t (g8 sh x).1) k
 |.it id _,p,k=>(match s.aW id with|.it str _=>s.BL id (.it str p) k|_=>k s)
def rp{β:Type 1}(s:aM):(l:List fe)->ns l->(aM->β)->β
 |[],_,k=>k s
 |e::r,x,k=>DV s e x.1 λs=>rp s r x.2 k
def ah8(s:aM)(n i:Nat)(v:av):List aM->Option kL
 |[]=>none
 |cy::r=>match xq s cy 60 n v (cy.b0 i) with|some x=>some x|none=>ah8 s n i v r
def aip(b:Nat)(s:aM)(Af:List aM):List Nat->List fe
 |[]=>[]
 |i::r=>
  let rest:=aip b s Af r
  match Af with
  |[]=>(match s.b0 i with|.sc t _=>.sl i t::rest|.kb _=>.sl i .bool::rest|_=>rest)
  |_::_=>match ah8 s (Nr s.h 9 (16*(b+i)+15)) i (s.b0 i) Af with
   |some (.d t)=>.sl i t::rest
   |some (.o id e)=>.ow i id e::rest
   |_=>rest
def Ex:ag->av->av->av×av
 |.sl e,.nil,.nil=>(.sc (.sl e) ([]:List e.aG),.sc (.sl e) ([]:List e.aG))
 |.pair a b,.two u v,.two u' cT=>(.two (Ex a u u').1 (Ex b v cT).1,.two (Ex a u u').2 (Ex b v cT).2)
 |_,v,cT=>(v,cT)
def Y'(s:aM)(Af:List aM)(O?:List Nat):List (Nat×aT)->List fe
 |[]=>[]
 |(id,b)::r=>
  let rest:=Y' s Af O? r
  bif Af.any (λcy=>(cy.w.take (cy.w.length-s.w.length)).any (Nat.beq id)) && !(O?.any (Nat.beq id)) then
   match b,Af with
   | .box t v,cy :: _=>(match cy.aW id with
    |.box _ cT=>(match xq s cy 60 (Nr s.h 9 (1000003*(id+1))) (Ex t v cT).1 (Ex t v cT).2 with|some sh=>.bx id t sh::rest|none=>rest)
    |_=>rest)
   |.box t v,[]=>(match xq s s 60 (Nr s.h 9 (1000003*(id+1))) v v with|some sh=>.bx id t sh::rest|none=>rest)
   |.ob e _,_=>.bk id e::rest
   |.it str _,_=>.it id str::rest
   |_,_=>rest
  else rest
def Ev(s:aM):List fe->List Nat
 |[]=>[]
 |.ow i _ _::r=>(match s.b0 i with|.own id _=>id::Ev s r|.osl id _ _=>id::Ev s r|_=>Ev s r)
 |.bx id _ _::r=>id::Ev s r
 |_::r=>Ev s r
def Ai{β:Type 1}:kL->(kL->β)->β
 |.d t,k=>qm t λt=>k (.d t)
 |.o i e,k=>qm e λe=>k (.o i e)
 |.p a b,k=>Ai a λa=>Ai b λb=>k (.p a b)
def apo{β:Type 1}(t:kL)(k:kL->β):Ai t k=k t:=by
 induction t generalizing k with
 |d t=>simp only[Ai,L3]
 |o i e=>simp only[Ai,L3]
 |p a b bh aa=>simp only[Ai,bh,aa]
def yk{β:Type 1}:List fe->(List fe->β)->β
 |[],k=>k []
 |.sl i t::r,k=>qm t λt=>yk r λr=>k (.sl i t::r)
 |.ow i id e::r,k=>qm e λe=>yk r λr=>k (.ow i id e::r)
 |.bk i e::r,k=>qm e λe=>yk r λr=>k (.bk i e::r)
 |.bx i t s::r,k=>Ai s λs=>yk r λr=>k (.bx i t s::r)
 |.it i s::r,k=>yk r λr=>k (.it i s::r)
def apm{β:Type 1}(l:List fe)(k:List fe->β):yk l k=k l:=by
 induction l generalizing k with
 |nil=>rfl
 |cons e r ih=>cases e<;>simp only[yk,L3,apo,ih]
def Vl{ρ:Type}:List (ko ρ)->List aM
 |[]=>[]
 |.nx s::r=>s::Vl r
 |_::r=>Vl r
def Bf{ρ:Type}:ko ρ->Option aM
 |.nx s=>some s
 |_=>none
def Dd{ρ:Type}:List (ko ρ)->List Nat
 |[]=>[]
 |.ex k _::r=>bif (Dd r).any (Nat.beq k) then Dd r else k::Dd r
 |_::r=>Dd r
def O7{ρ:Type}:List (ko ρ)->List aM
 |[]=>[]
 |.nx s::r=>s::O7 r
 |.ex _ s::r=>s::O7 r
 |_::r=>O7 r
def o1{σ ρ:Type}(f:σ->Option (aF σ ρ)):Nat->σ->Option (aF σ ρ)
 |0,_=>none
 |n+1,x=>match f x with
  |some (.nx xE)=>o1 f n xE
  |r=>r
open Classical in
def bK{σ ρ:Type}(f:σ->Option (aF σ ρ))(x:σ):Option (aF σ ρ):=
 if h:∃n,(o1 f n x).isSome then o1 f (choose h) x else none
def Rc(s:aM):List fe->List Nat
 |[]=>[]
 |.bx id _ _::r=>(match s.aW id with|.box _ v=>dU v|_=>[])++Rc s r
 |_::r=>Rc s r
def alw(l:List Nat):fe->Bool
 |.bk id _=>!(l.any (Nat.beq id))
 |_=>false
def entries{ρ:Type}(b:Nat)(s:aM)(Id:List (ko ρ))(CN:List Nat):List fe:=
 let LR:=aip b s (Vl Id) CN
 let Si:=Y' s (O7 Id) (Ev s LR) s.h
 LR++(Si.filter (λe=>!(AU e))++Si.filter (alw (Rc s Si)))
def Jn{ρ:Type}(base:aM)(es:List fe):ko ρ->aP (aF (ns es) ρ)
 |.nx cy=>(sL cy es).bind λy=>bif C' base es y.2 then .leaf (aF.nx y.1) else .fail
 |.ex k cy=>(sL cy es).bind λy=>bif C' base es y.2 then .leaf (aF.ex k y.1) else .fail
 |.rt r=>.leaf (aF.rt r)
def De{ρ:Type}(k:Nat)(s:aM):List Nat->aP (ko ρ)
 |[]=>.fail
 |[i]=>.chk (bX k i) (.leaf (.ex i s))
 |i::r=>.br (bX k i) (.leaf (.ex i s)) (De k s r)
def qI:List Nat->Code->Bool
 |_,.skip=>true
 |_,.label _=>true
 |_,.region _ _ _=>true
 |b?,.seq a b=>qI b? a&&qI b? b
 |b?,.cond _ a b=>qI b? a&&qI b? b
 |b?,.block i b=>qI (i::b?) b
 |b?,.loop b=>qI b? b
 |b?,.exit i=>b?.any (Nat.beq i)
 |_,_=>false
def afr(E:dk):Bool:=match E.Pn with|none=>true|some _=>false
def iS:Nat:=999999999
def hJ:Nat:=1000000000
def It(m:Nat):List Oper->Option (List Oper×Option Nat×Operand×Nat×Oper)
 |[]=>none
 |o::r=>match It m r with
  |some q=>some (o::q.1,q.2)
  | none=>(match r,o with
   | [],⟨c?, .call ⟨.value (.func f),args,d'⟩,ty,jz,p?,none⟩=>bif Nat.beq f m then (match args.toList with
    |[c,.const (.int .i64 (.ofNat k))]=>some ([],c?,c,k,⟨c?,.call ⟨.value (.func f),args,d'⟩,ty,jz,p?,none⟩)
    |_=>none) else none
   |_,_=>none)
def Nn(E:dk)(ops:List Oper):Option (List Oper×Option Nat×Operand×Nat×Oper):=match E.Pn with|some p=>It p.1 ops|none=>none
def Mn(n:Nat):List Oper->Bool
 |[]=>true
 |o::r=>(match o.guard with|some (g,_)=>Nat.blt g n|none=>true)&&Mn n r
def Ii(l:List Oper)(o:Oper):Bool:=wk 0 (l++[o])&&Mn l.length l&&(List.range l.length).all λi=>Nat.testBit ((mn (l++[o]) []).getD l.length 0) i
def V7(E:dk):Oper->Option (Nat×Option Nat×oJ×List Operand)
 |⟨c?,.call ⟨.value (.func f),args,_⟩,_,_,_,none⟩=>(match E.Q f with|some s=>some (f,c?,s,args.toList)|none=>none)
 |_=>none
def EI(E:dk):List Oper->Option (List Oper×(Nat×Option Nat×oJ×List Operand)×Oper×List Oper)
 |[]=>none
 | o :: r=>(match V7 E o with
  |some q=>some ([],q,o,r)
  | none=>(match EI E r with | some p=>some (o :: p.1,p.2) | none=>none))
def GN{ρ:Type}(k:Nat)(s:aM):List Nat->aP (ko ρ)
 |[]=>.fail
 |[i]=>.chk (bX k i) (.leaf (.ex (hJ+i) s))
 |i::r=>.br (bX k i) (.leaf (.ex (hJ+i) s)) (GN k s r)
def Is{ρ:Type}(nt:Nat)(c?:Option Nat)(c:Operand)(k:Nat)(s:aM):aP (ko ρ):=
 (ax.jd s (ey c)).bind λr=>match r.1 with
   |.sc .bool v=>.br v (iL nt c? s .bad λs=>.leaf (.nx s)) (.leaf (.ex (hJ+k) s))
   |.kb v=>bif v then iL nt c? s .bad λs=>.leaf (.nx s) else .leaf (.ex (hJ+k) s)
   |_=>.fail
def Po{ρ:Type}(f:aM->aP (ko ρ)):Nat->aM->aP (ko ρ)
 |0,_=>.fail
 |n+1,s=>(f s).bind fun
  |.nx cy=>Po f n cy
  |o=>.leaf o
section
variable (E:dk) (rs:List eC) (res:List ResultVar) (nv nt:Nat) (inl:Bool)
def run:Code->aM->aP (ko (eq rs))
 |.skip,s=>.leaf (.nx s)
 |.label _,s=>.leaf (.nx s)
 | .region _ ops dt,s=>(match Nn E ops.toList with
  |some q=>bif dt then(bif Ii q.1 q.2.2.2.2 then(pb E q.1 nv nt true true 0 q.1 s []).bind λs=>Is nt q.2.1 q.2.2.1 q.2.2.2.1 s else .fail) else(pP E ops.toList nv nt true 0 q.1 s).bind λs=>Is nt q.2.1 q.2.2.1 q.2.2.2.1 s
  |none=>match EI E ops.toList with
  |some (dZ,q,_,fc)=>bif dt then .fail else(pP E ops.toList nv nt true 0 dZ s).bind λbz=>(ax.jd bz ((mD ey q.2.2.2).bind λa_=>RI q.2.2.1 a_)).bind λr=>
    .br (bX r.1.1 0) (iL nt q.2.1 r.2 r.1.2 λeh=>(pP E ops.toList nv nt true (dZ.length+1) fc eh).bind λeP=>.leaf (.nx eP)) (GN r.1.1 r.2 q.2.2.1.ks)
  | none=>bif !dt && RM E ops.toList then (pP E ops.toList nv nt true 0 ops.toList s).bind λs => .leaf (.nx s) else (pb E ops.toList nv nt dt true 0 ops.toList s []).bind λs => .leaf (.nx s))
 |.seq a b,s=>(run a s).bind fun
  |.nx cy=>run b cy
  |o=>.leaf o
 |.cond c a b,s=>(ax.jd s (ey c)).bind λr=>match r.1 with
  |.kb v=>bif v then run a s else run b s
  |.sc .bool v=>
   bif E.U && !(qI [] a&&qI [] b) then(bif v then run a s else run b s) else
   bif qI [] a&&qI [] b&&afr E then
    (H9 s (nr (dV a++dV b)) ((nr (dV a++dV b)).filter λk=>Nat.blt k nv)
     (.br v ((run a s).nI Bf) ((run b s).nI Bf))).bind λs=>.leaf (.nx s)
   else .br v (run a s) (run b s)
  |_=>.fail
 |.block id b,s=>bif Nat.ble iS id then .fail else(run b s).bind fun
  |.ex k cy=>bif Nat.beq k id then .leaf (.nx cy) else .leaf (.ex k cy)
  |o=>.leaf o
 |.exit id,s=>bif Nat.ble iS id then .fail else .leaf (.ex id s)
 |.scope b,s=>run b s
 |.ret,s=>bif inl then .leaf (.ex iS s) else(nN E s res).bind λvs=>(o_ s rs vs).bind λr=>.leaf (.rt r)
 |.loop b,s=>bif E.U then Po (λs=>run b s) 64 s else
  (run b s).qC λId=>
  yk (entries E.b s Id (nr (dV b))) λes=>
  (sL s es).bind λrU=>Ki rU.2 (nr (dV b)) λbase=>
   bif Mx base es (nr (dV b)) then
    .cs (ajK es) (zI rs) (bK (λx=>(rp base es x λs=>aP.bind (run b s) (Jn base es)).bH) rU.1) (λ_=>.fail) (λk x=>rp base es x λs=>De k s (Dd Id)) (λr=>.leaf (.rt r))
   else .fail
 |_,_=>.fail
end
def n4:(ts:List ag)->iu ts->List av
 |[],_=>[]
 |t::ts,x=>.sc t x.1::n4 ts x.2
def L_{β:Type 1}:Nat->Nat->dR->(dR->β)->β
 |0,_,t,k=>k t
 |n+1,i,t,k=>vT 40 t i .undef λt=>L_ n (i+1) t k
def fill{β:Type 1}(n:Nat):List av->Nat->dR->(dR->β)->β
 |[],i,t,k=>L_ (n-i) i t k
 |v::r,i,t,k=>nw v λv=>vT 40 t i v λt=>fill n r (i+1) t k
def Nk(E:dk)(fn:Func)(nv:Nat)(ts:List ag)(rs:List eC)(x:iu ts):Option (eq rs):=
 match fn.body with
 |none=>none
 | some c=>bif !(Nat.ble fn.ntmps 1000000) then none else (fill fn.ntmps (n4 ts x) 0 .e λt=>aP.bind (run E rs fn.results.toList nv fn.ntmps false c ⟨t,[],[]⟩) fun
   |.rt r=>.leaf r
   |.nx s=>(nN E s fn.results.toList).bind λvs=>o_ s rs vs
   |.ex _ _=>.fail).bH
def Gh(t:ag):ax t.aG:=.rb 3 λb=>match b with
 |.box t' v=>bif ag.is t' t then(nb true t v).bind λx=>.rb 3 λeo=>match eo with
  |.box e? _=>bif ag.is e? t then .eZ 3 .ft (.ret x) else .fail
  |_=>.fail
  else .fail
 |_=>.fail
def tr(E:dk)(t:ag)(rs:List eC)(res:List ResultVar)(s:aM):aP (t.aG×eq rs):=
 (nN E s res).bind λvs=>(ax.jd s (Gh t)).bind λz=>(o_ z.2 rs vs).bind λr=>.leaf (z.1,r)
def Ir(E:dk)(fn:Func)(nv:Nat)(t:ag)(ts:List ag)(rs:List eC)(x:t.aG×iu ts):Option (t.aG×eq rs):=
 match fn.body with
 |none=>none
 | some c=>bif !(Nat.ble fn.ntmps 1000000) then none else (fill fn.ntmps (.ptr 3 [] :: n4 ts x.2) 0 .e λbA=>aP.bind (run E [] fn.results.toList nv fn.ntmps true c ⟨bA,[(3, .box t (.sc t x.1))],[]⟩) fun
   |.nx s=>tr E t rs fn.results.toList s
   |.ex k s=>bif Nat.beq k iS then tr E t rs fn.results.toList s else .fail
   |.rt _=>.fail).bH
def Nl(E:dk)(fn:Func)(nv:Nat)(t:ag)(ts:List ag)(rs:List eC)(x:t.aG×iu ts):Option (t.aG×Nat×eq rs):=
 match fn.body with
 |none=>none
 | some c=>bif !(Nat.ble fn.ntmps 1000000) then none else (fill fn.ntmps (.ptr 3 [] :: n4 ts x.2) 0 .e λbA=>aP.bind (run E [] fn.results.toList nv fn.ntmps true c ⟨bA,[(3, .box t (.sc t x.1))],[]⟩) fun
   |.nx s=>(tr E t rs fn.results.toList s).bind λz=>.leaf (z.1,0,z.2)
   |.ex k s=>bif Nat.beq k iS then(tr E t rs fn.results.toList s).bind λz=>.leaf (z.1,0,z.2) else
     bif Nat.blt hJ k then(ax.jd s (Gh t)).bind λz=>.leaf (z.1,k-hJ,zI rs) else .fail
   |.rt _=>.fail).bH
def Bc:List Operand->Bool
 |[]=>true|_=>false
def zb(bf:Nat):Option Nat->av
 |none=>.sc (.op 1) ()|some k=>.ifc bf (.int .i64) (bi k)
def GD:Code->Option (Nat×Nat×List Operand)
 |.region _ ops dt=>bif dt then none else match ops.toList with
  |[⟨some d,.makeFunc (.func F) first x',_,_,_,none⟩,⟨none,.defer ⟨.value (.tmp yd),args,_⟩,_,_,_,none⟩]=>bif Nat.beq d yd&&(Bc first.toList&&Bc args.toList) then some (d,F,x'.toList) else none
  |_=>none
 |_=>none
def zo:Code->Option (Code×(Nat×Nat×List Operand)×Code)
 | .seq a b=>(match GD a with
  |some q=>some (.skip,q,b)
  | none=>(match zo b with | some p=>some (.seq a p.1,p.2) | none=>none))
 |_=>none
def JQ:Code->Option (Nat×Code)
 | .seq (.region _ ops false) b=>(match ops.toList with
  |[⟨some d,.call ⟨.builtin .recover,args,_⟩,_,_,_,none⟩]=>bif Bc args.toList then some (d,b) else none
  |_=>none)
 |_=>none
def tj(E EC:dk)(fn fj:Func)(mG i? bf:Nat)(C:Code)(rs:List eC)(c_:List iO)(o:Option Nat)(s:aM):aP (eq rs):=
 fill fj.ntmps (c_.map iO.pv) 0 .e λaAx=>iL fj.ntmps (some i?) ⟨aAx,s.h,s.w⟩ (zb bf o) λrN=>
  aP.bind (run EC [] fj.results.toList mG fj.ntmps true C rN) fun
   |.nx eP=>(nN E ⟨s.t,eP.h,eP.w⟩ fn.results.toList).bind λvs=>o_ ⟨s.t,eP.h,eP.w⟩ rs vs
   |.ex k eP=>bif Nat.beq k iS then(nN E ⟨s.t,eP.h,eP.w⟩ fn.results.toList).bind λvs=>o_ ⟨s.t,eP.h,eP.w⟩ rs vs else .fail
   |.rt _=>.fail
def U7(E EC:dk)(fn fj:Func)(nv mG bf:Nat)(ts:List ag)(rs:List eC)(x:iu ts):Option (eq rs):=
 match fn.body,fj.body with
 | some c,some bb=>(match zo c,JQ bb with
  |some (A,q,B),some (i?,C)=>bif !(Nat.ble fn.ntmps 1000000&&(Nat.ble fj.ntmps 1000000&&Nat.beq fj.results.size 0)) then none else
   (fill fn.ntmps (n4 ts x) 0 .e λt=>aP.bind (run E [] fn.results.toList nv fn.ntmps true A ⟨t,[],[]⟩) fun
    |.nx bz=>(ax.jd bz ((mD ey q.2.2).bind λb=>mD C5 b)).bind λc_=>iL fn.ntmps (some q.1) c_.2 .bad λay=>
     aP.bind (run E [] fn.results.toList nv fn.ntmps true B ay) fun
      |.nx eh=>tj E EC fn fj mG i? bf C rs c_.1 none eh
      |.ex k eh=>bif Nat.beq k iS then tj E EC fn fj mG i? bf C rs c_.1 none eh else bif Nat.blt hJ k then tj E EC fn fj mG i? bf C rs c_.1 (some (k-hJ)) eh else .fail
      |.rt _=>.fail
    |_=>.fail).bH
  |_,_=>none)
 |_,_=>none
def B5:List av->av
 |[v]=>v
 |vs=>.tup (vs.foldr av.two (.sc .unit ()))
def jj(E:dk)(fn:Func)(nv:Nat):gz:=λb args s=>
 match fn.body with
 |none=>.fail
 |some c=>bif !(Nat.ble fn.ntmps 1000000) then .fail else fill fn.ntmps args 0 .e λt=>aP.bind (run { E with b:=b } [] fn.results.toList nv fn.ntmps true c ⟨t,s.h,s.w⟩) fun
   |.nx ay=>(nN { E with b:=b } ay fn.results.toList).bind λvs=>bif vs.all w? then .leaf (B5 vs,⟨s.t,ay.h,ay.w⟩) else .fail
   |.ex k ay=>bif Nat.beq k iS then(nN { E with b:=b } ay fn.results.toList).bind λvs=>bif vs.all w? then .leaf (B5 vs,⟨s.t,ay.h,ay.w⟩) else .fail else .fail
   |.rt _=>.fail
end Yp
namespace Yp
open Go
def dd:=@List.length_append
def km:=@List.getElem?_eq_getElem
def hG:=@List.mem_append
def pp:=@List.getElem_of_mem
def ta:=@UInt8.toNat_ofNat'
def p8:=@List.drop_drop
def FJ:=@Bool.false_eq_true
def F2:=@Nat.min_eq_left
def F5:=@Nat.mod_lt
def FY:=@Nat.mul_comm
def KU:=@List.mem_iff_getElem
def P?:=@Nat.blt_eq
def bG.Pc(k:IntKind)(n:Int):bG.to k (bG.of k n)=k.wrap n:=by
 cases k<;>simp only[bG.to,bG.of,i64,HX,ad7,ad8,u8,u16,u32,u64,aO,Iy,a8,cL]
 .rw[UInt8.ofInt];simp[IntKind.wrap,IntKind.signed,IntKind.bits];omega
 .rw[UInt16.ofInt];simp[IntKind.wrap,IntKind.signed,IntKind.bits];omega
 .rw[UInt32.ofInt];simp[IntKind.wrap,IntKind.signed,IntKind.bits];omega
 rw[UInt64.ofInt];simp[IntKind.wrap,IntKind.signed,IntKind.bits];omega
def bG.ai6(k:IntKind)(n:Int)(h:Ik k n=true):bG.to k (bG.lit k n)=n:=by
 cases k<;>cases n<;>simp only[bG.to,bG.lit,u8,u16,u32,u64,aO,Iy,a8,cL,Ik,P?,FJ]at h ⊢
 .rw[UInt8.ofInt,ta];simp;omega
 .rw[UInt16.ofInt,UInt16.toNat_ofNat'];simp;omega
 .rw[UInt32.ofInt,UInt32.toNat_ofNat'];simp;omega
 rw[UInt64.ofInt,UInt64.toNat_ofNat'];simp;omega
def cM(c:Array Value)(o n:Nat):List Value:=(c.toList.drop o).take n
abbrev ic{α:Type}(l:List α)(i:Nat):Option α:=l[i]?
abbrev cj:=Nat->Option Obj
def cj.cd(H H':cj):Prop:=∀b o,H b=some o->H' b=some o
def cj.cd.refl(H:cj):H.cd H:=λ_ _ h=>h
def cj.cd.trans{H H' Ye:cj}(h:H.cd H')(g:H'.cd Ye):H.cd Ye:=λb o e=>g b o (h b o e)
def Bb:Nat->Value
 |0=>.nilFunc|1=>.nilIface|2=>.map none|_=>.pointer none
def tv(l:List Nat):Nat->Value
 |0=>.nilFunc
 |n+1=>match l[n]? with|some f=>.func (.func f) #[] #[]|none=>.nilFunc
def aI(H:cj):(t:ag)->t.aG->List Value->Prop
 |.bool,b,cs=>cs=[.bool b]
 |.int k,x,cs=>cs=[.int k (bG.to k x)]
 |.str,s,cs=>cs=[.string ⟨(s:List UInt8).toArray⟩]
 |.sl e,l,cs=>∃a cap,cs=[.slice a (l:List e.aG).length cap]/\(l:List e.aG).length<=cap/\cap<=maxLen /\
   ((l:List e.aG)=[]\/∃b o c el fz,a=some ⟨b,o,none⟩/\H b=some (.cells c el fz)/\o+(l:List e.aG).length*e.size<=c.size /\
    ∀(i:Nat) (x:e.aG),ic (α:=e.aG) l i=some x->aI H e x (cM c (o+i*e.size) e.size))
 |.unit,_,cs=>cs=[]
 |.pair a b,x,cs=>∃c1 c2,cs=c1++c2/\aI H a x.1 c1/\aI H b x.2 c2
 |.ar n e,l,cs=>(l:List e.aG).length=n/\cs.length=n*e.size /\
   ∀(i:Nat) (x:e.aG),ic (α:=e.aG) l i=some x->aI H e x ((cs.drop (i*e.size)).take e.size)
 |.op k,_,cs=>cs=[Bb k]
 |.fn l,x,cs=>cs=[tv l x]
def av8(k:Nat):(Bb k).oneCell'=true:=by unfold Bb;split<;>simp[Value.oneCell']
def apL(l:List Nat)(x:Nat):(tv l x).oneCell'=true:=by
 cases x with
 |zero=>simp[tv,Value.oneCell']
 |succ n=>simp only[tv];split<;>simp[Value.oneCell']
def aI.length{H:cj}:∀{t:ag} {x:t.aG} {cs:List Value},aI H t x cs->cs.length=t.size
 |.bool,_,_,h=>by rw[aI]at h;rw[h];rfl
 |.int _,_,_,h=>by rw[aI]at h;rw[h];rfl
 |.str,_,_,h=>by rw[aI]at h;rw[h];rfl
 |.sl _,_,_,h=>by rw[aI]at h;obtain⟨a,cap,h,_⟩:=h;rw[h];rfl
 |.unit,_,_,h=>by rw[aI]at h;rw[h];rfl
 |.pair a b,_,_,h=>by rw[aI]at h;obtain⟨c1,c2,h,O,R⟩:=h;rw[h,dd,aI.length O,aI.length R];rfl
 |.ar n e,_,_,h=>by rw[aI]at h;exact h.2.1
 |.op k,_,_,h=>by rw[aI]at h;rw[h];rfl
 |.fn l,_,_,h=>by rw[aI]at h;rw[h];rfl
def aI.mono{H H':cj}(hl:H.cd H'):∀{t:ag} {x:t.aG} {cs:List Value},aI H t x cs->aI H' t x cs
 |.bool,_,_,h=>by rw[aI]at h ⊢;exact h
 |.int _,_,_,h=>by rw[aI]at h ⊢;exact h
 |.str,_,_,h=>by rw[aI]at h ⊢;exact h
 |.sl e,_,_,h=>by
  obtain⟨a,cap,h,ah,hm,R⟩:=h;refine⟨a,cap,h,ah,hm,?_⟩;rcases R with R|⟨b,o,c,el,fz,bh,aa,ab,hx⟩
  .grind
  exact .inr ⟨b,o,c,el,fz,bh,hl _ _ aa,ab,λi x ac=>aI.mono hl (hx i x ac)⟩
 |.unit,_,_,h=>by rw[aI]at h ⊢;exact h
 |.pair a b,_,_,h=>by rw[aI]at h ⊢;obtain⟨c1,c2,h,O,R⟩:=h;exact⟨c1,c2,h,aI.mono hl O,aI.mono hl R⟩
 |.ar n e,_,_,h=>by exact⟨h.1,h.2.1,λi x ac=>aI.mono hl (h.2.2 i x ac)⟩
 |.op k,_,_,h=>by rw[aI]at h ⊢;exact h
 |.fn l,_,_,h=>by rw[aI]at h ⊢;exact h
def aeW(n e:Nat)(cs:List α)(h:cs.length=n*e)(v:α)(aB:v∈cs):∃i,i<n/\v∈(cs.drop (i*e)).take e:=by
 obtain⟨j,ap,rfl⟩:=pp aB;have aC:0<e:=by
  rcases Nat.eq_zero_or_pos e with aq|aq;· subst aq;simp at h;subst h;simp at ap
  exact aq
 refine⟨j/e,?_,?_⟩
 .exact Nat.div_lt_of_lt_mul (by grind)
 rw[KU];have hm:j%e<e:=F5 _ aC;have aJ:j/e*e+j%e=j:=by rw[FY];exact Nat.div_add_mod j e
 have cm:j%e<((cs.drop (j/e*e)).take e).length:=by
  grind
 grind
def aI.one{H:cj}:∀{t:ag} {x:t.aG} {cs:List Value},aI H t x cs->∀v∈cs,v.oneCell'=true
 |.bool,_,_,h=>by rw[aI]at h;subst h;simp[Value.oneCell']
 |.int _,_,_,h=>by rw[aI]at h;subst h;simp[Value.oneCell']
 |.str,_,_,h=>by rw[aI]at h;subst h;simp[Value.oneCell']
 |.sl _,_,_,h=>by rw[aI]at h;obtain⟨a,cap,h,_⟩:=h;subst h;simp[Value.oneCell']
 |.unit,_,_,h=>by rw[aI]at h;subst h;simp
 |.pair a b,_,_,h=>by
  rw[aI]at h;obtain⟨c1,c2,h,O,R⟩:=h;subst h;intro v aB;rcases hG.1 aB with aB|aB
  .exact aI.one O v aB
  exact aI.one R v aB
 |.ar n e,x,cs,h=>by rw[aI]at h;obtain⟨ak,hl,hx⟩:=h;intro v aB;obtain⟨i,ac,hm⟩:=aeW n e.size cs hl v aB;have:i<(x:List e.aG).length:=J;exact aI.one (hx i _ (km this)) v hm
 |.op k,_,_,h=>by rw[aI]at h;subst h;intro v aB;simp at aB;rw[aB];exact av8 k
 |.fn l,_,_,h=>by rw[aI]at h;subst h;intro v aB;simp at aB;rw[aB];exact apL l _
def cB(t:ag)(cs:List Value):Value:=if t.isAgg then .agg cs.toArray else cs.headD undef
def Iq{H:cj}{t:ag}{x:t.aG}{cs:List Value}(h:aI H t x cs):(cB t cs).cells=cs.toArray:=by
 cases t with
 |unit=>rfl
 |pair a b=>rfl
 |ar n e=>rfl
 |bool=>rw[aI]at h;subst h;rfl
 |int k=>rw[aI]at h;subst h;rfl
 |str=>rw[aI]at h;subst h;rfl
 |sl e=>rw[aI]at h;obtain⟨a,cap,h,_⟩:=h;subst h;rfl
 |op k =>rw[aI]at h;subst h;unfold Bb;split<;>rfl
 |fn l =>rw[aI]at h;subst h;unfold tv;split<;>(try split)<;>rfl
def qQ{c:Array Value}(h:o+n<=c.size):(cM c o n).length=n:=by simp[cM];omega
def vP{c:Array Value}(h:i<n):(cM c o n)[i]?=c[o+i]?:=by simp[cM,h]
def EY(c:Array Value)(o n p m:Nat)(h:p+m<=n):((cM c o n).drop p).take m=cM c (o+p) m:=by unfold cM;rw[List.drop_take,List.take_take,p8,F2 J]
def OE(c:Array Value)(o m n:Nat):cM c o (m+n)=cM c o m++cM c (o+m) n:=by unfold cM;rw[List.take_add,p8]
def aI.iK{H:cj}{k:IntKind}{x:(ag.int k).aG}{cs:List Value}:aI H (.int k) x cs↔cs=[.int k (bG.to k x)]:=by rw[aI]
def aI.oM{H:cj}{x:ag.bool.aG}{cs:List Value}:aI H .bool x cs↔cs=[.bool x]:=by rw[aI]
def aI.m?{H:cj}{x:ag.str.aG}{cs:List Value}:aI H .str x cs↔cs=[.string ⟨(x:List UInt8).toArray⟩]:=by rw[aI]
def aI.Cb{H:cj}{x:ag.unit.aG}{cs:List Value}:aI H .unit x cs↔cs=[]:=by rw[aI]
def aI.m9{H:cj}{a b:ag}{x:(ag.pair a b).aG}{cs:List Value}:aI H (.pair a b) x cs↔∃c1 c2,cs=c1++c2/\aI H a x.1 c1/\aI H b x.2 c2:=by rw[aI]
def aI.wg{H:cj}{e:ag}{l:(ag.ar n e).aG}{cs:List Value}:aI H (.ar n e) l cs↔(l:List e.aG).length=n/\cs.length=n*e.size /\
  ∀(i:Nat) (x:e.aG),ic (α:=e.aG) l i=some x->aI H e x ((cs.drop (i*e.size)).take e.size):=by rw[aI]
def aI.CL{H:cj}{e:ag}{l:List e.aG}{cs:List Value}:aI H (.ar n e) l cs↔l.length=n/\cs.length=n*e.size /\
  ∀(i:Nat) (x:e.aG),ic l i=some x->aI H e x ((cs.drop (i*e.size)).take e.size):=aI.wg
def aI.zl{H:cj}{e:ag}{l:(ag.sl e).aG}{cs:List Value}:aI H (.sl e) l cs↔∃a cap,cs=[.slice a (l:List e.aG).length cap]/\(l:List e.aG).length<=cap/\cap<=maxLen /\
 ((l:List e.aG)=[]\/∃b o c el fz,a=some ⟨b,o,none⟩/\H b=some (.cells c el fz)/\o+(l:List e.aG).length*e.size<=c.size /\
  ∀(i:Nat) (x:e.aG),ic (α:=e.aG) l i=some x->aI H e x (cM c (o+i*e.size) e.size)):=by rw[aI]
def aI.iM{H:cj}{e:ag}{l:List e.aG}{cs:List Value}:aI H (.sl e) l cs↔∃a cap,cs=[.slice a l.length cap]/\l.length<=cap/\cap<=maxLen /\
 (l=[]\/∃b o c el fz,a=some ⟨b,o,none⟩/\H b=some (.cells c el fz)/\o+l.length*e.size<=c.size /\
  ∀(i:Nat) (x:e.aG),ic l i=some x->aI H e x (cM c (o+i*e.size) e.size)):=aI.zl
def aI.xc{H:cj}{x:(ag.op k).aG}{cs:List Value}:aI H (.op k) x cs↔cs=[Bb k]:=by rw[aI]
def aI.GU{H:cj}{l:List Nat}{x:(ag.fn l).aG}{cs:List Value}:aI H (.fn l) x cs↔cs=[tv l x]:=by rw[aI]
def cP:=@Bool.and_eq_true
def b1:=@Nat.le_refl
def fU:=@Nat.eq_of_beq_eq_true
def nh:=@Nat.add_mul
def FN:=@List.all_cons
def K1:=@List.replicate_succ
def Qq:=@List.drop_left
def FH:=@List.getElem?_replicate
def Eu:=@Nat.beq_eq
def dJ:ag->List Value
 |.bool=>[.bool false]|.int k=>[.int k 0]|.str=>[.string ⟨#[]⟩]|.sl _=>[.slice none 0 0]|.unit=>[]
 |.pair a b=>dJ a++dJ b
 |.ar n e=>(List.replicate n (dJ e)).flatten
 |.op k=>[Bb k]|.fn _=>[.nilFunc]
def s6:∀t:ag,(dJ t).length=t.size
 |.bool=>rfl|.int _=>rfl|.str=>rfl|.sl _=>rfl|.unit=>rfl
 |.pair a b=>by simp[dJ,ag.size,s6 a,s6 b]
 |.ar n e=>by simp[dJ,ag.size,s6 e]
 |.op _=>rfl|.fn _=>rfl
def apJ(l:List α)(n i:Nat)(h:i<n):((List.replicate n l).flatten.drop (i*l.length)).take l.length=l:=by
 induction n generalizing i with
 |zero=>omega
 |succ n ih=>
  rw[K1,List.flatten_cons];cases i with
  |zero=>simp
  |succ i=>
   have:(i+1)*l.length=l.length+i*l.length:=by rw[nh];omega
   rw[this,<- p8,Qq]
   grind
def bG.aAR(k:IntKind):bG.to k (bG.zero k)=0:=by cases k<;>first|rfl|decide
def aI.zero(H:cj):∀t:ag,aI H t t.zero (dJ t)
 |.bool=>by rw[aI];rfl
 |.int k=>by rw[aI];simp[dJ,ag.zero,bG.aAR]
 |.str=>by rw[aI];rfl
 |.sl e=>by rw[aI];exact⟨none,0,rfl,b1 _,by unfold maxLen;omega,.inl rfl⟩
 |.unit=>by rw[aI];rfl
 |.pair a b=>by rw[aI];exact⟨_,_,rfl,aI.zero H a,aI.zero H b⟩
 |.ar n e=>by
  rw[aI];refine⟨by simp[ag.zero],by simp[dJ,s6 e],λi x ac => ?_⟩;simp only[ic,ag.zero,FH]at ac;split at ac
  .rename_i h
   cases ac;have:=apJ (dJ e) n i h;rw[s6]at this;simp only[dJ];rw[this];exact aI.zero H e
  cases ac
 |.op k=>by rw[aI];rfl
 |.fn l=>by rw[aI];rfl
def tP(P:Program)(tid:TypeId)(t:ag):Prop:=
 ∃i,P.info? tid=some i/\i.size=t.size/\i.bytes<=t.bytes/\i.zero=some (cB t (dJ t))
def IU:Nat->Option TypeDesc->Prop
 |0,d=>∃a b c,d=some (.func a b c)
 |1,d=>∃a,d=some (.interface a)
 |2,d=>∃a b,d=some (.map a b)
 |3,d=>∃a,d=some (.pointer a)
 |_,_=>False
def cY(P:Program):ag->(TypeId->Prop)×(List Field->Nat->Prop)
 |.bool=>(λt=>P.underlying t=some .bool/\tP P t .bool,λ_ _=>False)
 |.int k=>(λt=>P.underlying t=some (.int k)/\tP P t (.int k),λ_ _=>False)
 |.str=>(λt=>P.underlying t=some .string/\tP P t .str,λ_ _=>False)
 |.sl e=>(λt=>(∃bf,P.underlying t=some (.slice bf)/\(cY P e).1 bf)/\tP P t (.sl e),λ_ _=>False)
 |.unit=>(λt=>(∃fs,P.underlying t=some (.struct fs)/\fs.toList=[])/\tP P t .unit,λl _=>l=[])
 |.pair a b=>
  (λt=>(∃fs,P.underlying t=some (.struct fs)/\∃f r,fs.toList=f::r/\f.offset=0/\(cY P a).1 f.type/\(cY P b).2 r a.size)/\tP P t (.pair a b),
   λl off=>∃f r,l=f::r/\f.offset=off/\(cY P a).1 f.type/\(cY P b).2 r (off+a.size))
 |.ar n e=>(λt=>(∃bf,P.underlying t=some (.array n bf)/\(cY P e).1 bf)/\tP P t (.ar n e),λ_ _=>False)
 |.op k=>(λt=>IU k (P.underlying t)/\tP P t (.op k),λ_ _=>False)
 |.fn l=>(λt=>IU 0 (P.underlying t)/\tP P t (.fn l),λ_ _=>False)
def oa{P:Program}:∀{t:ag} {tid:TypeId},(cY P t).1 tid->tP P tid t
 |.bool,_,h=>h.2|.int _,_,h=>h.2|.str,_,h=>h.2|.sl _,_,h=>h.2|.unit,_,h=>h.2|.pair _ _,_,h=>h.2|.ar _ _,_,h=>h.2|.op _,_,h=>h.2|.fn _,_,h=>h.2
def RQ:Value->Value->Bool
 |.bool a,.bool b=>a==b
 |.int k n,.int k' m=>decide (k=k')&&decide (n=m)
 |.string s,.string t=>s.data.toList.isEmpty&&t.data.toList.isEmpty
 |.slice none 0 0,.slice none 0 0=>true
 |.nilFunc,.nilFunc=>true
 |.nilIface,.nilIface=>true
 |.map none,.map none=>true
 |.pointer none,.pointer none=>true
 |_,_=>false
def an5{a b:Value}(h:RQ a b=true):a=b:=by
 unfold RQ at h;split at h
 .grind
 .grind
 .rename_i s t
  rcases s with⟨s⟩;rcases t with⟨t⟩
  grind
 .rfl
 .rfl
 .rfl
 .rfl
 .rfl
 cases h
def Gw:List Value->List Value->Bool
 |[],[]=>true
 |a::l,b::m=>RQ a b&&Gw l m
 |_,_=>false
def RR:∀{l m:List Value},Gw l m=true->l=m
 |[],[],_=>rfl
 |a::l,b::m,h=>by simp only[Gw,cP]at h;rw[an5 h.1,RR h.2]
def X_(t:ag):Option Value->Bool
 |some (.agg cs)=>t.isAgg&&Gw cs.toList (dJ t)
 |some v=>!t.isAgg&&Gw [v] (dJ t)
 |none=>false
def aBN{t:ag}{o:Option Value}(h:X_ t o=true):o=some (cB t (dJ t)):=by
 unfold X_ at h;split at h
 .rename_i cs
  simp at h;rw[<- RR h.2,cB,if_pos h.1]
 .rename_i v _
  simp at h;rw[<- RR h.2,cB,if_neg (by grind)];rfl
 cases h
def tO(P:Program)(tid:TypeId)(t:ag):Bool:=
 match P.info? tid with
 |some i=>Nat.beq i.size t.size&&Nat.ble i.bytes t.bytes&&X_ t i.zero
 |none=>false
def wX{P:Program}{tid:TypeId}{t:ag}(h:tO P tid t=true):tP P tid t:=by
 unfold tO at h;split at h
 .rename_i i ac
  simp at h;exact⟨i,ac,h.1.1,h.1.2,aBN h.2⟩
 cases h
def NI:Nat->Option TypeDesc->Bool
 |0,some (.func _ _ _)=>true
 |1,some (.interface _)=>true
 |2,some (.map _ _)=>true
 |3,some (.pointer _)=>true
 |_,_=>false
def af1{d:Option TypeDesc}(h:NI k d=true):IU k d:=by unfold NI at h;split at h<;>first|exact⟨_,_,_,rfl⟩|exact⟨_,_,rfl⟩|exact⟨_,rfl⟩|cases h
def la(P:Program):ag->(TypeId->Bool)×(List Field->Nat->Bool)
 |.bool=>(λt=>(match P.underlying t with|some .bool=>true|_=>false)&&tO P t .bool,λ_ _=>false)
 |.int k=>(λt=>(match P.underlying t with|some (.int k')=>decide (k'=k)|_=>false)&&tO P t (.int k),λ_ _=>false)
 |.str=>(λt=>(match P.underlying t with|some .string=>true|_=>false)&&tO P t .str,λ_ _=>false)
 |.sl e=>(λt=>(match P.underlying t with|some (.slice bf)=>(la P e).1 bf|_=>false)&&tO P t (.sl e),λ_ _=>false)
 |.unit=>(λt=>(match P.underlying t with|some (.struct fs)=>fs.toList.isEmpty|_=>false)&&tO P t .unit,λl _=>l.isEmpty)
 |.pair a b=>
  (λt=>(match P.underlying t with
   |some (.struct fs)=>(match fs.toList with|f::r=>Nat.beq f.offset 0&&(la P a).1 f.type&&(la P b).2 r a.size|[]=>false)
   | _=>false) && tO P t (.pair a b),
   λl off=>match l with|f::r=>Nat.beq f.offset off&&(la P a).1 f.type&&(la P b).2 r (off+a.size)|[]=>false)
 |.ar n e=>(λt=>(match P.underlying t with|some (.array m bf)=>Nat.beq m n&&(la P e).1 bf|_=>false)&&tO P t (.ar n e),λ_ _=>false)
 |.op k=>(λt=>NI k (P.underlying t)&&tO P t (.op k),λ_ _=>false)
 |.fn l=>(λt=>NI 0 (P.underlying t)&&tO P t (.fn l),λ_ _=>false)
def u0{P:Program}:∀(t:ag),(∀tid,(la P t).1 tid=true->(cY P t).1 tid)/\(∀l off,(la P t).2 l off=true->(cY P t).2 l off)
 |.bool=>by refine⟨λtid h => ?_,λl off h=>by cases h⟩;simp only[la,cP]at h;refine⟨?_,wX h.2⟩;have O:=h.1;split at O<;>first|assumption|cases O
 |.int k=>by
  refine⟨λtid h => ?_,λl off h=>by cases h⟩;simp only[la,cP]at h;refine⟨?_,wX h.2⟩;have O:=h.1;split at O
  .rename_i aL;simp at O;rw[<- O];exact aL
  cases O
 |.str=>by refine⟨λtid h => ?_,λl off h=>by cases h⟩;simp only[la,cP]at h;refine⟨?_,wX h.2⟩;have O:=h.1;split at O<;>first|assumption|cases O
 |.sl e=>by
  refine⟨λtid h => ?_,λl off h=>by cases h⟩;simp only[la,cP]at h;refine⟨?_,wX h.2⟩;have O:=h.1;split at O
  .rename_i bf aL;exact⟨bf,aL,(u0 e).1 _ O⟩
  cases O
 |.unit=>by
  refine⟨λtid h => ?_,λl off h=>by simpa[la,cY]using h⟩;simp only[la,cP]at h;refine⟨?_,wX h.2⟩;have O:=h.1;split at O
  .rename_i fs aL;exact⟨fs,aL,by simpa using O⟩
  cases O
 |.pair a b=>by
  refine⟨λtid h => ?_,λl off h => ?_⟩
  .simp only[la,cP]at h
   refine⟨?_,wX h.2⟩;have O:=h.1;split at O
   .rename_i fs aL
    split at O
    .rename_i f r hf
     simp only[cP,Eu]at O;exact⟨fs,aL,f,r,hf,O.1.1,(u0 a).1 _ O.1.2,(u0 b).2 _ _ O.2⟩
    cases O
   cases O
  simp only[la]at h;split at h
  .rename_i f r
   simp only[cP,Eu]at h;exact⟨f,r,rfl,h.1.1,(u0 a).1 _ h.1.2,(u0 b).2 _ _ h.2⟩
  cases h
 |.ar n e=>by
  refine⟨λtid h => ?_,λl off h=>by cases h⟩;simp only[la,cP]at h;refine⟨?_,wX h.2⟩;have O:=h.1;split at O
  .rename_i m bf aL
   simp only[cP,Eu]at O;rw[<- O.1];exact⟨bf,aL,(u0 e).1 _ O.2⟩
  cases O
 |.op k=>by refine⟨λtid h => ?_,λl off h=>by cases h⟩;simp only[la,cP]at h;exact⟨af1 h.1,wX h.2⟩
 |.fn k=>by refine⟨λtid h => ?_,λl off h=>by cases h⟩;simp only[la,cP]at h;exact⟨af1 h.1,wX h.2⟩
def nP(P:Program)(bv:Nat->Option ag):Prop:=∀tid t,bv tid=some t->(cY P t).1 tid
def aiR(P:Program):∀(l:List (Nat×ag)),(l.all λp=>(la P p.2).1 p.1)=true->nP P (D_ l)
 |[],_=>λtid t h=>by cases h
 |(i,u)::r,h=>λtid t ht=>by
  simp only[FN,cP]at h;simp only[D_]at ht;cases aa:Nat.beq i tid with
  |true=>rw[aa]at ht;cases ht;rw[<- fU aa];exact(u0 _).1 _ h.1
  |false=>rw[aa]at ht;exact aiR P r h.2 tid t ht
end Yp
namespace Yp
open Go
def kJ:=@Option.some.injEq
def pr:=@Prod.mk.injEq
abbrev cf:=Nat->Option (Nat×Nat×Nat)
def ag.ew:ag->List nY->Option (Nat×ag)
 |t,[]=>some (0,t)
 |.pair a _,.fst::p=>a.ew p
 |.pair a b,.snd::p=>(b.ew p).map λq=>(a.size+q.1,q.2)
 |.ar n e,.ix i::p=>if i<n then(e.ew p).map λq=>(i*e.size+q.1,q.2) else none
 |_,_=>none
def h4(phx:cf)(id:Nat)(e:ag)(off len:Nat)(v:Value):Prop:=
 (len=0/\∃a,v=.slice a 0 0) \/
 ∃b o n cap,phx id=some (b,o,n)/\v=.slice (some ⟨b,o+off*e.size,none⟩) len cap/\len<=cap/\cap<=maxLen/\o+(off+cap)*e.size<=n
def uD(phx:cf)(id:Nat)(e:ag)(off N:Nat)(v:Value):Prop:=
 (N<=off/\∃a,v=.slice a 0 0)\/∃b o n m cap,phx id=some (b,o,n)/\v=.slice (some ⟨b,o+off*e.size,none⟩) m cap/\N<=off+cap
section
variable (phx:cf) (H:cj) (B:Nat->aT)
def v_:iO->Value->Prop
 | .ptr id p,v=>(match B id with
  |.box t _=>∃b o n off t',phx id=some (b,o,n)/\t.ew p=some (off,t')/\v=.pointer (some ⟨b,o+off,none⟩)
  |.fz _ _=>∃b o n,phx id=some (b,o,n)/\(p=[]->v=.pointer (some ⟨b,o,none⟩))
  |.ft=>True
  |_=>False)
 |.iY t x,v=>∃cs,aI H t x cs/\v=cB t cs
def j5:List iO->List Value->Prop
 |[],vs=>vs=[]
 |c::r,vs=>∃v ei,vs=v::ei/\v_ phx H B c v/\j5 r ei
def bJ:av->Value->Prop
 |.bad,_=>True
 |.undef,v=>v=Go.undef
 |.kb b,v=>v=.bool b
 |.nq c,v=>∃b,v=.bool b/\(b=true->c=true)
 |.nil,v=>v=.slice none 0 0
 | .own id eT,v=>(match B id with
  |.ob e l=>h4 phx id e 0 l.length v/\(eT=true->l.length≠0)
  |.fz e l=>h4 phx id e 0 l.length v/\(eT=true->l.length≠0)
  |.ft=>True
  |_=>False)
 | .osl id off n,v=>(match B id with
  |.ob e l=>off+n<=l.length/\h4 phx id e off n v/\uD phx id e off l.length v
  |.fz e l=>off+n<=l.length/\h4 phx id e off n v
  |.box t _=>(match t with|.ar m e=>0<e.size/\off+n<=m/\h4 phx id e off n v|_=>False)
  |.ft=>True
  |_=>False)
 |.csl e l,v=>∃a,v=.slice a l.length l.length/\aI H (.sl e) l [v]
 | .ptr id p,v=>(match B id with
  |.box t _=>∃b o n off t',phx id=some (b,o,n)/\t.ew p=some (off,t')/\v=.pointer (some ⟨b,o+off,none⟩)
  |.fz _ _=>∃b o n,phx id=some (b,o,n)/\(p=[]->v=.pointer (some ⟨b,o,none⟩))
  |.ft=>True
  |_=>False)
 | .opt id i p,v=>(match B id with
  |.ob e l=>i<l.length/\∃b o n off t',phx id=some (b,o,n)/\e.ew p=some (off,t')/\v=.pointer (some ⟨b,o+i*e.size+off,none⟩)
  |.fz e l=>i<l.length/\∃b o n off t',phx id=some (b,o,n)/\e.ew p=some (off,t')/\v=.pointer (some ⟨b,o+i*e.size+off,none⟩)
  |.ft=>True
  |_=>False)
 |.ipt e l i p,v=>i<l.length/\∃b o cap off t',aI H (.sl e) l [.slice (some ⟨b,o,none⟩) l.length cap]/\e.ew p=some (off,t')/\v=.pointer (some ⟨b,o+i*e.size+off,none⟩)
 | .itp id,v=>(match B id with
  |.it _ _=>∃b,phx id=some (b,0,0)/\v=.pointer (some ⟨b,0,none⟩)
  |.ft=>True
  |_=>False)
 |.clo f dT c_,v=>∃vs,j5 phx H B c_ vs/\v=.func (.func f) (vs.take dT).toArray (vs.drop dT).toArray
 |.ifc tid t x,v=>∃cs,aI H t x cs/\v=.iface tid (cB t cs)
 | .mpp id,v=>(match B id with
  |.mp _ _ _=>∃b,phx id=some (b,0,0)/\v=.map (some b)
  |.ft=>True
  |_=>False)
 | .psl id n,v=>(match B id with
  |.box t _=>t=nc n/\∃b o m cap,phx id=some (b,o,m)/\v=.slice (some ⟨b,o,none⟩) n cap
  |.ft=>True
  |_=>False)
 |.sc _ _,_=>False
 |.two _ _,_=>False
 |.agg _ _,_=>False
 |.tup _,_=>False
def fh:av->ag->List Value->Prop
 |.two u v,t,cs=>(match t with|.pair a b=>∃c1 c2,cs=c1++c2/\fh u a c1/\fh v b c2|_=>False)
 |.sc t' x,t,cs=>∃h:t'=t,aI H t (h▸x) cs
 |.agg _ _,_,_=>False
 |.tup _,_,_=>False
 |.bad,t,cs=>cs.length=t.size/\∀v∈cs,v.oneCell'=true
 |pv,t,cs=>t.isAgg=false/\∃v,cs=[v]/\v.oneCell'=true/\bJ phx H B pv v
def d6:av->Value->Prop
 |.sc t x,v=>∃cs,aI H t x cs/\v=cB t cs
 |.agg t a,v=>t.isAgg=true/\∃cs,fh phx H B a t cs/\v=.agg cs.toArray
 |pv,v=>bJ phx H B pv v
def mm:av->List Value->Prop
 |.two u r,vs=>∃v ei,vs=v::ei/\d6 phx H B u v/\mm r ei
 |.sc .unit _,vs=>vs=[]
 |_,_=>False
def ba:av->Value->Prop
 |.tup a,v=>∃vs,mm phx H B a vs/\v=.tuple vs.toArray
 |pv,v=>d6 phx H B pv v
end
def aT.cd:aT->aT->Prop
 |.new,_=>True
 |_,.ft=>True
 |.box t _,.box t' _=>t=t'
 |.box t _,.fz e l=>t=.ar l.length e/\0<e.size
 |.ob e l,.ob bB hi=>e=bB/\l.length=hi.length
 |.ob e l,.fz bB hi=>e=bB/\l.length=hi.length
 |.fz e l,.fz bB hi=>e=bB/\l.length=hi.length
 |.it s _,.it cy _=>s=cy
 |.mp k v _,.mp k' cT _=>k=k'/\v=cT
 |_,_=>False
def aT.cd.refl:∀b:aT,b.cd b
 |.new=>trivial|.ft=>trivial|.box _ _=>rfl|.ob _ _=>⟨rfl,rfl⟩|.fz _ _=>⟨rfl,rfl⟩|.it _ _=>rfl|.mp _ _ _=>⟨rfl,rfl⟩
def aT.i0:aT->Bool
 |.new=>false|_=>true
def uD.congr{phx phx':cf}{id:Nat}{e:ag}{v:Value}(h:phx' id=phx id)(ai:uD phx id e off N v):uD phx' id e off N v:=by unfold uD at *;rw[h];exact ai
def h4.cap{phx:cf}{id:Nat}{e:ag}{v:Value}(h:h4 phx id e 0 n v):uD phx id e 0 n v:=by
 rcases h with⟨O,a,R⟩|⟨b,o,m,cap,O,R,af,_⟩
 .exact .inl ⟨J,a,R⟩
 exact .inr ⟨b,o,m,n,cap,O,R,J⟩
def h4.congr{phx phx':cf}{id:Nat}{e:ag}{len:Nat}{v:Value}(h:phx' id=phx id)(ai:h4 phx id e off len v):h4 phx' id e off len v:=by unfold h4 at *;rw[h];exact ai
section
variable {phx phx':cf} {H H':cj} {B B':Nat->aT}
def v_.mono(dX:∀id,(B id).i0=true->phx' id=phx id)(cE:H.cd H')(az:∀id,(B id).cd (B' id)){c:iO}{v:Value}(h:v_ phx H B c v):v_ phx' H' B' c v:=by
 cases c with
 |iY t x=>obtain⟨cs,O,R⟩:=h;exact⟨cs,O.mono cE,R⟩
 |ptr id p=>
  have aa:=az id;have hf:=dX id;simp only[v_]at h ⊢;cases j':B id<;>cases hb1:B' id<;>simp only[j',hb1,aT.i0]at aa hf h ⊢ <;> try(first|exact h.elim|exact aa.elim|trivial)
  all_goals first
   |(subst aa;rw[hf trivial];exact h)
   |(obtain⟨b,o,n,O,R⟩:=h;exact⟨b,o,n,(hf trivial).trans O,R⟩)
   | (
    obtain⟨b,o,n,off,t',O,R,af⟩:=h;exact⟨b,o,n,(hf trivial).trans O,λhp=>by subst hp;simp only[ag.ew,kJ,pr]at R;rw[af,<- R.1];rfl⟩)
def j5.mono(dX:∀id,(B id).i0=true->phx' id=phx id)(cE:H.cd H')(az:∀id,(B id).cd (B' id)):∀{l:List iO} {vs:List Value},j5 phx H B l vs->j5 phx' H' B' l vs
 |[],_,h=>h
 |_::_,_,⟨v,ei,h,O,R⟩=>⟨v,ei,h,v_.mono dX cE az O,j5.mono dX cE az R⟩
def bJ.mono(dX:∀id,(B id).i0=true->phx' id=phx id)(cE:H.cd H')(az:∀id,(B id).cd (B' id)):∀{pv:av} {v:Value},bJ phx H B pv v->bJ phx' H' B' pv v:=by
 intro pv v h;cases pv with
 |bad=>trivial
 |undef=>exact h
 |kb b=>exact h
 |nq c=>exact h
 |nil=>exact h
 |sc t x=>exact h
 |two a b=>exact h
 |agg t a=>exact h
 |tup a=>exact h
 |clo f dT c_=>obtain⟨vs,O,R⟩:=h;exact⟨vs,O.mono dX cE az,R⟩
 |ifc i t x=>obtain⟨cs,O,R⟩:=h;exact⟨cs,O.mono cE,R⟩
 |csl e l=>obtain⟨a,O,R⟩:=h;exact⟨a,O,R.mono cE⟩
 |ipt e l i p=>obtain⟨aq,b,o,cap,off,t',O,R,af⟩:=h;exact⟨aq,b,o,cap,off,t',O.mono cE,R,af⟩
 |own id eT=>
  have aa:=az id;have hf:=dX id;simp only[bJ]at h ⊢;cases j':B id<;>cases hb1:B' id<;>simp only[j',hb1,aT.i0]at aa hf h ⊢ <;> try(first|exact h.elim|exact aa.elim|trivial)
  all_goals
   obtain⟨rfl,hl⟩:=aa;rw[<- hl];exact⟨h.1.congr (hf trivial),h.2⟩
 |osl id off n=>
  have aa:=az id;have hf:=dX id;simp only[bJ]at h ⊢;cases j':B id<;>cases hb1:B' id<;>simp only[j',hb1,aT.cd,aT.i0]at aa hf h ⊢ <;> try(first|exact h.elim|exact aa.elim|trivial)
  all_goals first
   |(obtain⟨rfl,hl⟩:=aa;rw[<- hl];exact⟨h.1,h.2.1.congr (hf trivial),h.2.2.congr (hf trivial)⟩)
   |(obtain⟨rfl,hl⟩:=aa;rw[<- hl];exact⟨h.1,h.2.1.congr (hf trivial)⟩)
   |(obtain⟨rfl,hl⟩:=aa;rw[<- hl];exact⟨h.1,h.2.congr (hf trivial)⟩)
   | (
    subst aa;rename_i t _ _;cases t<;>try exact h.elim
    exact⟨h.1,h.2.1,h.2.2.congr (hf trivial)⟩)
   |(obtain⟨aa,_⟩:=aa;subst aa;exact⟨h.2.1,h.2.2.congr (hf trivial)⟩)
 |ptr id p=>
  have aa:=az id;have hf:=dX id;simp only[bJ]at h ⊢;cases j':B id<;>cases hb1:B' id<;>simp only[j',hb1,aT.cd,aT.i0]at aa hf h ⊢ <;> try(first|exact h.elim|exact aa.elim|trivial)
  all_goals first
   |(subst aa;rw[hf trivial];exact h)
   |(obtain⟨b,o,n,O,R⟩:=h;exact⟨b,o,n,(hf trivial).trans O,R⟩)
   | (
    obtain⟨b,o,n,off,t',O,R,af⟩:=h;exact⟨b,o,n,(hf trivial).trans O,λhp=>by subst hp;simp only[ag.ew,kJ,pr]at R;rw[af,<- R.1];rfl⟩)
 |opt id i p=>
  have aa:=az id;have hf:=dX id;simp only[bJ]at h ⊢;cases j':B id<;>cases hb1:B' id<;>simp only[j',hb1,aT.cd,aT.i0]at aa hf h ⊢ <;> try(first|exact h.elim|exact aa.elim|trivial)
  all_goals
   grind
 |itp id=>
  have aa:=az id;have hf:=dX id;simp only[bJ]at h ⊢;cases j':B id<;>cases hb1:B' id<;>simp only[j',hb1,aT.cd,aT.i0]at aa hf h ⊢ <;> try(first|exact h.elim|exact aa.elim|trivial)
  all_goals
   rw[hf trivial];exact h
 |mpp id=>
  have aa:=az id;have hf:=dX id;simp only[bJ]at h ⊢;cases j':B id<;>cases hb1:B' id<;>simp only[j',hb1,aT.cd,aT.i0]at aa hf h ⊢ <;> try(first|exact h.elim|exact aa.elim|trivial)
  all_goals
   rw[hf trivial];exact h
 |psl id n=>
  have aa:=az id;have hf:=dX id;simp only[bJ]at h ⊢;cases j':B id<;>cases hb1:B' id<;>simp only[j',hb1,aT.cd,aT.i0]at aa hf h ⊢ <;> try(first|exact h.elim|exact aa.elim|trivial)
  all_goals first
   |(subst aa;rw[hf trivial];exact h)
   |(obtain⟨h,_⟩:=h;cases n<;>exact absurd (aa.1.symm.trans h) (by simp[nc]))
def fh.mono(dX:∀id,(B id).i0=true->phx' id=phx id)(cE:H.cd H')(az:∀id,(B id).cd (B' id)):∀{pv:av} {t:ag} {cs:List Value},fh phx H B pv t cs->fh phx' H' B' pv t cs:=by
 intro pv;induction pv with
 |two u v aL aB=>
  intro t cs h;cases t<;>simp only[fh]at h ⊢ <;> try exact h
  grind
 |sc t' x=>intro t cs h;obtain⟨aq,h⟩:=h;exact⟨aq,h.mono cE⟩
 |agg t a=>intro t cs h;exact h
 |tup a=>intro t cs h;exact h
 |bad=>intro t cs h;exact h
 |_=>intro t cs h;obtain⟨aq,v,O,R,af⟩:=h;exact⟨aq,v,O,R,bJ.mono dX cE az af⟩
def d6.mono(dX:∀id,(B id).i0=true->phx' id=phx id)(cE:H.cd H')(az:∀id,(B id).cd (B' id)){pv:av}{v:Value}(h:d6 phx H B pv v):d6 phx' H' B' pv v:=by
 cases pv with
 |sc t x=>obtain⟨cs,O,R⟩:=h;exact⟨cs,O.mono cE,R⟩
 |agg t a=>obtain⟨aq,cs,O,R⟩:=h;exact⟨aq,cs,fh.mono dX cE az O,R⟩
 |_=>simp only[d6]at h ⊢;exact bJ.mono dX cE az h
def mm.mono(dX:∀id,(B id).i0=true->phx' id=phx id)(cE:H.cd H')(az:∀id,(B id).cd (B' id)):∀{pv:av} {vs:List Value},mm phx H B pv vs->mm phx' H' B' pv vs:=by
 intro pv;induction pv with
 |two u r aL ai=>intro vs h;obtain⟨v,ei,aq,O,R⟩:=h;exact⟨v,ei,aq,d6.mono dX cE az O,ai R⟩
 |sc t x=>intro vs h;cases t<;>exact h
 |_=>intro vs h;exact h
def ba.mono(dX:∀id,(B id).i0=true->phx' id=phx id)(cE:H.cd H')(az:∀id,(B id).cd (B' id)){pv:av}{v:Value}(h:ba phx H B pv v):ba phx' H' B' pv v:=by
 cases pv with
 |tup a=>obtain⟨vs,O,R⟩:=h;exact⟨vs,mm.mono dX cE az O,R⟩
 |_=>simp only[ba]at h ⊢;exact d6.mono dX cE az h
end
def fh.length{phx:cf}{H:cj}{B:Nat->aT}:∀{pv:av} {t:ag} {cs:List Value},fh phx H B pv t cs->cs.length=t.size:=by
 intro pv;induction pv with
 |two u v aL aB =>intro t cs h;cases t<;>simp only[fh]at h;obtain⟨c1,c2,h,O,R⟩:=h;rw[h,dd,aL O,aB R];rfl
 |sc t' x=>intro t cs h;obtain⟨aq,h⟩:=h;exact h.length
 |agg t a=>intro t cs h;exact h.elim
 |tup a=>intro t cs h;exact h.elim
 |bad=>intro t cs h;exact h.1
 |_ =>intro t cs h;obtain⟨aq,v,O,R,af⟩:=h;subst O;cases t<;>first|rfl|cases aq
def fh.one{phx:cf}{H:cj}{B:Nat->aT}:∀{pv:av} {t:ag} {cs:List Value},fh phx H B pv t cs->∀v∈cs,v.oneCell'=true:=by
 intro pv;induction pv with
 |two u v aL aB=>
  intro t cs h;cases t<;>simp only[fh]at h
  grind
 |sc t' x=>intro t cs h;obtain⟨aq,h⟩:=h;exact h.one
 |agg t a=>intro t cs h;exact h.elim
 |tup a=>intro t cs h;exact h.elim
 |bad=>intro t cs h;exact h.2
 |_=>
  intro t cs h;obtain⟨aq,v,O,R,af⟩:=h
  grind
end Yp
namespace Yp
open Go
def iP:=@Array.getElem?_eq_some_iff
def iQ:=@Classical.byContradiction
def gN:=@Nat.lt_of_lt_of_le
def hH:=@Nat.le_trans
open Classical in
def view(w:World)(M:Nat->Prop):cj:=λb=>if M b then none else w.heap[b]?
def jZ{w:World}{M:Nat->Prop}{o:Obj}:view w M b=some o↔¬M b/\w.heap[b]?=some o:=by unfold view;simp
def zy{w w':World}{M aD:Nat->Prop}(h:∀b o,¬M b->w.heap[b]?=some o->¬aD b/\w'.heap[b]?=some o):(view w M).cd (view w' aD):=by intro b o aa;rw[jZ]at aa ⊢;exact h b o aa.1 aa.2
def iD(c:Array Value)(fz:Nat×Nat):Prop:=fz.1=fz.2\/c.size<=fz.1
def iD.no{c:Array Value}{fz:Nat×Nat}(h:iD c fz):∀i,i<c.size->¬(fz.1<=i/\i<fz.2):=λi ac ah=>by unfold iD at h;omega
def iD.same{c cO:Array Value}{fz:Nat×Nat}(h:iD c fz)(ab:cO.size=c.size):iD cO fz:=by unfold iD at *;rw[ab];exact h
def fi(H:cj)(e:ag)(l:List e.aG)(c:Array Value)(o:Nat):Prop:=
 o+l.length*e.size<=c.size/\∀(i:Nat) (x:e.aG),ic l i=some x->aI H e x (cM c (o+i*e.size) e.size)
def fi.mono{H H':cj}(hl:H.cd H'){e:ag}{l:List e.aG}{c:Array Value}(h:fi H e l c o):fi H' e l c o:=
 ⟨h.1,λi x ac=>(h.2 i x ac).mono hl⟩
section
variable (phx:cf) (M:Nat->Prop) (w:World) (H:cj) (B:Nat->aT)
def lU(kt:ag):List (kt.aG×av)->List MapEntry->Prop
 |[],es=>es=[]
 |(k,v)::r,es=>∃e es',es=e::es'/\(∃an,aI H kt k an/\e.key=cB kt an)/\d6 phx H B v e.val/\lU kt r es'
def ml(id:Nat):aT->Prop
 |.new=>True
 |.ft=>True
 |.box t v=>∃b o c el fz,phx id=some (b,o,c.size)/\w.heap[b]?=some (.cells c el fz)/\o+t.size<=c.size/\fh phx H B v t (cM c o t.size)/\iD c fz/\M b
 |.ob e l=>0<e.size/\((phx id=none/\l.length=0)\/∃b o c el fz,phx id=some (b,o,c.size)/\w.heap[b]?=some (.cells c el fz)/\fi H e l c o/\iD c fz/\M b)
 |.fz e l=>0<e.size/\((phx id=none/\l.length=0)\/∃b o c el fz,phx id=some (b,o,c.size)/\H b=some (.cells c el fz)/\fi H e l c o)
 |.it s p=>∃b,phx id=some (b,0,0)/\w.heap[b]?=some (.stringIter ⟨s.toArray⟩ p)/\M b
 |.mp kt _ l=>∃b es n8,phx id=some (b,0,0)/\w.heap[b]?=some (.map es n8)/\lU phx H B kt l es.toList/\M b
end
def aT.fS:aT->Bool
 |.box _ _=>true|.ob _ _=>true|.it _ _=>true|.mp _ _ _=>true|_=>false
structure Kp where
 k:Nat->Prop
 x:Nat->Prop
structure bM(K:Kp)(w0:World)(phx:cf)(M:Nat->Prop)(B:Nat->aT)(w:World):Prop where
 os:w.os=w0.os
 tape:w.tape=w0.tape
 output:w.output=w0.output
 size:w0.heap.size<=w.heap.size
 keep:∀b,K.k b->w.heap[b]?=w0.heap[b]?
 klt:∀b,K.k b->b<w0.heap.size
 hid:∀b,K.k b->(M b↔K.x b)
 own:∀id,(B id).fS=true->∀x,phx id=some x->¬K.k x.1
 mlt:∀b,M b->b<w.heap.size
 blks:∀id,ml phx M w (view w M) B id (B id)
 sep:∀i j,i≠j->(B i).fS=true->(B j).fS=true->∀x y,phx i=some x->phx j=some y->x.1≠y.1
structure ct(phx:cf)(M:Nat->Prop)(B:Nat->aT)(w:World)(phx':cf)(aD:Nat->Prop)(B':Nat->aT)(w':World):Prop where
 pl:∀id,(B id).i0=true->phx' id=phx id
 vw:(view w M).cd (view w' aD)
 bl:∀id,(B id).cd (B' id)
def ct.refl(phx:cf)(M:Nat->Prop)(B:Nat->aT)(w:World):ct phx M B w phx M B w:=
 ⟨λ_ _=>rfl,cj.cd.refl _,λ_=>aT.cd.refl _⟩
def ct.p{phx phx':cf}{M aD:Nat->Prop}{B B':Nat->aT}{w w':World}(h:ct phx M B w phx' aD B' w'){pv:av}{v:Value}(hp:ba phx (view w M) B pv v):ba phx' (view w' aD) B' pv v:=
 hp.mono h.pl h.vw h.bl
def c'(B:Nat->aT)(id:Nat)(b:aT):Nat->aT:=λj=>if j=id then b else B j
def e5(B:Nat->aT)(id:Nat)(b:aT):c' B id b id=b:=by simp[c']
def en(B:Nat->aT){id:Nat}(b:aT)(h:j≠id):c' B id b j=B j:=by simp[c',h]
def lU.mono{phx phx':cf}{H H':cj}{B B':Nat->aT}(dX:∀id,(B id).i0=true->phx' id=phx id)(cE:H.cd H')(az:∀id,(B id).cd (B' id)){kt:ag}:∀{l:List (kt.aG×av)} {es:List MapEntry},lU phx H B kt l es->lU phx' H' B' kt l es
 |[],_,h=>h
 |_::_,_,⟨e,es',h,⟨an,O,R⟩,af,au⟩=>⟨e,es',h,⟨an,O.mono cE,R⟩,af.mono dX cE az,lU.mono dX cE az au⟩
def ml.congr{phx phx':cf}{M aD:Nat->Prop}{w w':World}{H H':cj}{B B':Nat->aT}{id:Nat}{b:aT}
  (hid:phx' id=phx id) (dX:∀id,(B id).i0=true->phx' id=phx id) (cE:H.cd H') (az:∀id,(B id).cd (B' id))
  (bw:∀x,phx id=some x->b.fS=true->w'.heap[x.1]?=w.heap[x.1]?) (d_:∀x,phx id=some x->b.fS=true->M x.1->aD x.1)
  (h:ml phx M w H B id b):ml phx' aD w' H' B' id b:=by
 cases b with
 |new=>trivial
 |ft=>trivial
 |box t v =>obtain⟨b,o,c,el,fz,O,R,af,au,aY,cp⟩:=h;exact⟨b,o,c,el,fz,hid.trans O,(bw _ O rfl).trans R,af,au.mono dX cE az,aY,d_ _ O rfl cp⟩
 |ob e l=>
  refine⟨h.1,?_⟩;rcases h.2 with⟨O,R⟩|⟨b,o,c,el,fz,O,R,af,au,aY⟩
  .exact .inl ⟨hid.trans O,R⟩
  exact .inr ⟨b,o,c,el,fz,hid.trans O,(bw _ O rfl).trans R,af.mono cE,au,d_ _ O rfl aY⟩
 |fz e l=>
  refine⟨h.1,?_⟩;rcases h.2 with⟨O,R⟩|⟨b,o,c,el,fz,O,R,af⟩
  .exact .inl ⟨hid.trans O,R⟩
  exact .inr ⟨b,o,c,el,fz,hid.trans O,cE _ _ R,af.mono cE⟩
 |it s p =>obtain⟨b,O,R,af⟩:=h;exact⟨b,hid.trans O,(bw _ O rfl).trans R,d_ _ O rfl af⟩
 |mp kt vt l =>obtain⟨b,es,n8,O,R,af,au⟩:=h;exact⟨b,es,n8,hid.trans O,(bw _ O rfl).trans R,af.mono dX cE az,d_ _ O rfl au⟩
section
variable {K:Kp} {w0 w:World} {phx:cf} {M:Nat->Prop} {B:Nat->aT}
def bM.ft(h:bM K w0 phx M B w)(id:Nat):bM K w0 phx M (c' B id .ft) w/\ct phx M B w phx M (c' B id .ft) w:=by
 have aC:ct phx M B w phx M (c' B id .ft) w:=⟨λ_ _=>rfl,cj.cd.refl _,λj=>by
  by_cases ap:j=id
  .subst ap;rw[e5];cases B j<;>trivial
  rw[en _ _ ap];exact aT.cd.refl _⟩
 refine⟨{ h with own:=λj ap => ?_,blks:=λj => ?_,sep:=λi j js ac ap => ?_ },aC⟩
 .by_cases O:j=id
  .subst O;rw[e5]at ap;cases ap
  rw[en _ _ O]at ap;exact h.own j ap
 .by_cases ap:j=id
  .subst ap;rw[e5];trivial
  rw[en _ _ ap];exact(h.blks j).congr rfl aC.pl aC.vw aC.bl (λ_ _ _=>rfl) (λ_ _ _ h=>h)
 by_cases O:i=id
 .subst O;rw[e5]at ac;cases ac
 by_cases R:j=id
 .subst R;rw[e5]at ap;cases ap
 rw[en _ _ O]at ac;rw[en _ _ R]at ap;exact h.sep i j js ac ap
def oK(phx:cf)(M:Nat->Prop)(B:Nat->aT)(aD:Nat->Prop)(B':Nat->aT):Prop:=
 (∀b,M b->¬aD b->∃j,(B j).fS=true/\∃z,phx j=some z/\z.1=b)/\∀j,(B' j).fS=true->(B j).fS=true
def oK.refl(phx:cf)(M:Nat->Prop)(B:Nat->aT):oK phx M B M B:=⟨λb h bE=>absurd h bE,λ_ h=>h⟩
def oK.trans{phx:cf}{M aD rY:Nat->Prop}{B B' FB:Nat->aT}(h:oK phx M B aD B')(k:oK phx aD B' rY FB):oK phx M B rY FB:=by
 refine⟨λb O R => ?_,λj ap=>h.2 j (k.2 j ap)⟩;by_cases hm:aD b
 .obtain⟨j,ap,z,bs⟩:=k.1 b hm R
  exact⟨j,h.2 j ap,z,bs⟩
 exact h.1 b O hm
def bM.freeze(h:bM K w0 phx M B w){id:Nat}{e:ag}{l:List e.aG}(aa:B id=.ob e l):
  ∃aD,bM K w0 phx aD (c' B id (.fz e l)) w/\ct phx M B w phx aD (c' B id (.fz e l)) w/\oK phx M B aD (c' B id (.fz e l)):=by
 refine⟨λb=>M b/\∀x,phx id=some x->b≠x.1,?_⟩;have aB:(view w M).cd (view w λb=>M b/\∀x,phx id=some x->b≠x.1):=zy λb o d_ aK=>⟨λah=>d_ ah.1,aK⟩;have aC:ct phx M B w phx (λb=>M b/\∀x,phx id=some x->b≠x.1) (c' B id (.fz e l)) w:=⟨λ_ _=>rfl,aB,λj=>by
  by_cases ap:j=id
  .subst ap;rw[e5,aa];exact⟨rfl,rfl⟩
  rw[en _ _ ap];exact aT.cd.refl _⟩
 refine⟨{ h with hid:=λb am=>⟨λhm=>(h.hid b am).1 hm.1,λhx=>⟨(h.hid b am).2 hx,λx mz e=>h.own id (by rw[aa];rfl) x mz (e▸am)⟩⟩,mlt:=λb hm=>h.mlt b hm.1,own:=λj ap => ?_,blks:=λj => ?_,sep:=λi j js ac ap => ?_ },aC,⟨λb aa ak => ?_,λj ap => ?_⟩⟩
 .by_cases O:j=id
  .subst O;rw[e5]at ap;cases ap
  rw[en _ _ O]at ap;exact h.own j ap
 .by_cases ap:j=id
  .subst ap;rw[e5]
   have ai:=h.blks j;rw[aa]at ai;refine⟨ai.1,?_⟩;rcases ai.2 with⟨O,R⟩|⟨b,o,c,el,fz,O,R,af,au,aY⟩
   .exact .inl ⟨O,R⟩
   exact .inr ⟨b,o,c,el,fz,O,jZ.2 ⟨λah=>ah.2 _ O rfl,R⟩,af.mono aB⟩
  rw[en _ _ ap];refine(h.blks j).congr rfl aC.pl aC.vw aC.bl (λ_ _ _=>rfl) λx hx hm d_=>⟨d_,λy hy => ?_⟩;exact h.sep j id ap hm (by rw[aa];rfl) x y hx hy
 .by_cases O:i=id
  .subst O;rw[e5]at ac;cases ac
  by_cases R:j=id
  .subst R;rw[e5]at ap;cases ap
  rw[en _ _ O]at ac;rw[en _ _ R]at ap;exact h.sep i j js ac ap
 .refine iQ λah=>ak ⟨aa,λx hx e=>ah ⟨id,by rw[‹B id=_›];rfl,x,hx,e.symm⟩⟩
 by_cases O:j=id
 .subst O;rw[e5]at ap;cases ap
 rw[en _ _ O]at ap;exact ap
def xz(phx:cf)(id:Nat)(x:Option (Nat×Nat×Nat)):cf:=λj=>if j=id then x else phx j
def mO(phx:cf)(id:Nat)(x:Option (Nat×Nat×Nat)):xz phx id x id=x:=by simp[xz]
def rS(phx:cf){id:Nat}(x:Option (Nat×Nat×Nat))(h:j≠id):xz phx id x j=phx j:=by simp[xz,h]
def bM.Ds(h:bM K w0 phx M B w){w':World}(O:w'.os=w.os)(R:w'.tape=w.tape)(af:w'.output=w.output)(ab:w.heap.size<=w'.heap.size)
 (aa:∀b,b<w.heap.size->w'.heap[b]?=w.heap[b]?) (N:Nat->Prop) (fM:∀b,N b->w.heap.size<=b/\b<w'.heap.size) :
 bM K w0 phx (λb=>M b\/N b) B w'/\ct phx M B w phx (λb=>M b\/N b) B w':=by
 have bn:∀b o,w.heap[b]?=some o->b<w.heap.size:=λb o aK=>(iP.1 aK).1;have aB:(view w M).cd (view w' λb=>M b\/N b):=zy λb o d_ aK=>
  ⟨λah=>ah.elim d_ λak=>by have:=fM b ak;have:=bn b o aK;omega,(aa b (bn b o aK)).trans aK⟩
 have aC:ct phx M B w phx (λb=>M b\/N b) B w':=⟨λ_ _=>rfl,aB,λ_=>aT.cd.refl _⟩;refine⟨{ os:=O.trans h.os,tape:=R.trans h.tape,output:=af.trans h.output,size:=hH h.size ab,keep:=λb am => ?_,klt:=h.klt,hid:=λb am=>⟨λhm => ?_,λhx=>.inl ((h.hid b am).2 hx)⟩,own:=h.own,mlt:=λb hm => ?_,blks:=λj => ?_,sep:=h.sep },aC⟩
 .exact(aa b (gN (h.klt b am) h.size)).trans (h.keep b am)
 .rcases hm with hm|hm
  .exact(h.hid b am).1 hm
  have:=fM b hm;have:=h.klt b am;have:=h.size;omega
 .rcases hm with hm|hm
  .exact gN (h.mlt b hm) ab
  exact(fM b hm).2
 refine(h.blks j).congr rfl aC.pl aC.vw aC.bl (λx hx hm=>aa _ ?_) (λx _ _ hm=>.inl hm);have ai:=h.blks j;generalize B j=bl at ai hm;cases bl with
 |new=>cases hm
 |ft=>cases hm
 |fz e l=>cases hm
 |box t v=>obtain⟨b,o,c,el,fz,O,R,_⟩:=ai;rw[O]at hx;cases hx;exact bn _ _ R
 |ob e l=>
  rcases ai.2 with⟨O,_⟩|⟨b,o,c,el,fz,O,R,_⟩
  .rw[O]at hx;cases hx
  rw[O]at hx;cases hx;exact bn _ _ R
 |it s p=>obtain⟨b,O,R,_⟩:=ai;rw[O]at hx;cases hx;exact bn _ _ R
 |mp kt vt l=>obtain⟨b,es,n8,O,R,_⟩:=ai;rw[O]at hx;cases hx;exact bn _ _ R
def bM.wd(h:bM K w0 phx M B w){id:Nat}(hid:B id=.new)(kM:aT)(x:Option (Nat×Nat×Nat))
  (wQ:kM.fS=true->∀y,x=some y->¬K.k y.1) (adM:kM.fS=true->∀y,x=some y->∀j,(B j).fS=true->∀z,phx j=some z->z.1≠y.1)
  (ai:ct phx M B w (xz phx id x) M (c' B id kM) w->ml (xz phx id x) M w (view w M) (c' B id kM) id kM) :
  bM K w0 (xz phx id x) M (c' B id kM) w/\ct phx M B w (xz phx id x) M (c' B id kM) w:=by
 have aC:ct phx M B w (xz phx id x) M (c' B id kM) w:=⟨λj ap=>rS _ _ (λe=>by subst e;rw[hid]at ap;cases ap),cj.cd.refl _,λj=>by
  by_cases ap:j=id
  .subst ap;rw[e5,hid];trivial
  rw[en _ _ ap];exact aT.cd.refl _⟩
 refine⟨{ h with own:=λj ap y hy => ?_,blks:=λj => ?_,sep:=λi j js ac ap y z hy bs => ?_ },aC⟩
 .by_cases O:j=id
  .subst O;rw[e5]at ap;rw[mO]at hy;exact wQ ap y hy
  rw[en _ _ O]at ap;rw[rS _ _ O]at hy;exact h.own j ap y hy
 .by_cases ap:j=id
  .subst ap;rw[e5];exact ai aC
  rw[en _ _ ap];exact(h.blks j).congr (rS _ _ ap) aC.pl aC.vw aC.bl (λ_ _ _=>rfl) (λ_ _ _ h=>h)
 by_cases O:i=id
 .subst O
  have R:j≠i:=λe=>js e.symm;rw[e5]at ac;rw[en _ _ R]at ap;rw[mO]at hy;rw[rS _ _ R]at bs;exact(adM ac y hy j ap z bs).symm
 by_cases R:j=id
 .subst R
  rw[e5]at ap;rw[en _ _ O]at ac;rw[mO]at bs;rw[rS _ _ O]at hy;exact adM ap z bs i ac y hy
 rw[en _ _ O]at ac;rw[en _ _ R]at ap;rw[rS _ _ O]at hy;rw[rS _ _ R]at bs;exact h.sep i j js ac ap y z hy bs
def bM.put(h:bM K w0 phx M B w){id:Nat}{x:Nat×Nat×Nat}(hm:(B id).fS=true)(hx:phx id=some x)(Tk:M x.1){w':World}
 (O:w'.os=w.os) (R:w'.tape=w.tape) (af:w'.output=w.output) (ab:w'.heap.size=w.heap.size)
 (aa:∀b,b≠x.1->w'.heap[b]?=w.heap[b]?) (kM:aT) (bW:(B id).cd kM)
 (ai:ct phx M B w phx M (c' B id kM) w'->ml phx M w' (view w' M) (c' B id kM) id kM) :
 bM K w0 phx M (c' B id kM) w'/\ct phx M B w phx M (c' B id kM) w':=by
 have aB:(view w M).cd (view w' M):=zy λb o d_ aK=>⟨d_,(aa b λe=>d_ (e▸Tk)).trans aK⟩;have aC:ct phx M B w phx M (c' B id kM) w':=⟨λ_ _=>rfl,aB,λj=>by
  by_cases ap:j=id
  .subst ap;rw[e5];exact bW
  rw[en _ _ ap];exact aT.cd.refl _⟩
 refine⟨{ os:=O.trans h.os,tape:=R.trans h.tape,output:=af.trans h.output,size:=ab▸h.size,keep:=λb am => ?_,klt:=h.klt,hid:=h.hid,own:=λj ap => ?_,mlt:=λb hm=>ab▸h.mlt b hm,blks:=λj => ?_,sep:=λi j js ac ap => ?_ },aC⟩
 .exact(aa b λe=>h.own id hm x hx (e▸am)).trans (h.keep b am)
 .by_cases O:j=id
  .subst O;exact h.own j hm
  rw[en _ _ O]at ap;exact h.own j ap
 .by_cases ap:j=id
  .subst ap;rw[e5];exact ai aC
  rw[en _ _ ap];exact(h.blks j).congr rfl aC.pl aC.vw aC.bl (λy hy rl=>aa _ (h.sep j id ap rl hm y x hy hx)) (λ_ _ _ h=>h)
 have key:∀k,((c' B id kM) k).fS=true->(B k).fS=true:=λk am=>by
  by_cases rj:k=id
  .subst rj;exact hm
  rw[en _ _ rj]at am;exact am
 exact h.sep i j js (key i ac) (key j ap)
def ct.trans{hU jS:cf}{fV db:Nat->Prop}{c7 b9:Nat->aT}{co cV:World}(h:ct phx M B w hU fV c7 co)(g:ct hU fV c7 co jS db b9 cV):ct phx M B w jS db b9 cV:=by
 refine⟨λid hl => ?_,h.vw.trans g.vw,λid => ?_⟩
 .have O:=h.pl id hl;have aa:=h.bl id
  rw[<- O];refine g.pl id ?_;generalize B id=b at *;generalize c7 id=e9 at *
  cases b<;>cases e9<;>simp only[aT.cd]at aa<;>first|rfl|cases hl
 have aa:=h.bl id;have yo:=g.bl id;generalize B id=b at *;generalize c7 id=e9 at *;generalize b9 id=eo at *
 cases b<;>cases e9<;>cases eo<;>simp only[aT.cd]at aa yo ⊢ <;> first|exact aa.elim|exact yo.elim|trivial|exact aa.trans yo|exact⟨aa.1.trans yo.1,aa.2.trans yo.2⟩|exact⟨aa.trans yo.1,yo.2⟩|(obtain⟨O,R⟩:=aa;obtain⟨rfl,au⟩:=yo;exact⟨by rw[O,au],R⟩)
end
end Yp
namespace Yp
open Go
def FL:=@Ne.symm
def F8:=@Nat.beq_refl
def ax.a7{α:Type}(g:Nat->av):ax α->(Nat->aT)->Option (α×(Nat->aT))
 |.fail,_=>none
 |.ret a,B=>some (a,B)
 |.chk c k,B=>if c=true then k.a7 g B else none
 |.br c x y,B=>if c=true then x.a7 g B else y.a7 g B
 |.bo _ o k,B=>(match o with|some a=>(k a).a7 g B|none=>none)
 |.rt i k,B=>(k (g i)).a7 g B
 |.rb i k,B=>(k (B i)).a7 g B
 |.eZ i b k,B=>k.a7 g (c' B i b)
def ax.SX(g:Nat->av)(m:ax α)(f:α->ax β)(B:Nat->aT):
  (m.bind f).a7 g B=(match m.a7 g B with|some (a,B')=>(f a).a7 g B'|none=>none):=by
 induction m generalizing B with
 |fail=>rfl
 |ret a=>rfl
 |chk c k ih=>simp only[ax.bind,ax.a7];split<;>simp[ih]
 |br c x y hx hy=>simp only[ax.bind,ax.a7];split<;>simp[hx,hy]
 |bo d o k ih=>cases o<;>simp only[ax.bind,ax.a7,ih]
 |rt i k ih=>simp only[ax.bind,ax.a7,ih]
 |rb i k ih=>simp only[ax.bind,ax.a7,ih]
 |eZ i b k ih=>simp only[ax.bind,ax.a7,ih]
def ax.cK{g:Nat->av}{m:ax α}{f:α->ax β}{B:Nat->aT}{r:β×(Nat->aT)}(h:(m.bind f).a7 g B=some r):
  ∃a B',m.a7 g B=some (a,B')/\(f a).a7 g B'=some r:=by
 rw[ax.SX]at h;split at h
 .rename_i a B' hm;exact⟨a,B',hm,h⟩
 cases h
def dG(B:Nat->aT)(wr:List (Nat×aT)):Nat->aT:=λid=>oq wr id (B id)
def y4(B:Nat->aT)(i:Nat)(b:aT)(wr:List (Nat×aT)):dG B ((i,b)::wr)=c' (dG B wr) i b:=by
 funext j;simp only[dG,oq,c'];by_cases h:i=j
 .subst h;rw[F8];simp
 have:Nat.beq i j=false:=by cases aa:Nat.beq i j with
  |false=>rfl
  |true=>exact absurd (fU aa) h
 rw[this];simp[FL h]
def ax.ag9(s:aM)(m:ax α):∀(fF:Nat) (fx:List Nat) (wr:List (Nat×aT)) (k:α×PW->aP β) (r:β),((m.run s fF fx wr).bind k).bH=some r ->
  ∃a e,m.a7 s.b0 (dG s.aW wr)=some (a,dG s.aW e.wr)/\(k (a,e)).bH=some r:=by
 induction m with
 |fail=>intro fF fx wr k r h;cases h
 |ret a=>intro fF fx wr k r h;exact⟨a,_,rfl,h⟩
 |chk c m ih=>
  intro fF fx wr k r h;simp only[ax.run,aP.bind,aP.bH,an,ax.a7]at h ⊢;cases c with
  |true=>simpa using ih fF fx wr k r h
  |false=>cases h
 |br c x y hx hy=>
  intro fF fx wr k r h;simp only[ax.run,aP.bind,aP.bH,T,ax.a7]at h ⊢;cases c with
  |true=>simpa using hx fF fx wr k r h
  |false=>simpa using hy fF fx wr k r h
 |bo d o m ih=>
  intro fF fx wr k r h;cases o with
  |some a=>exact ih a fF fx wr k r h
  |none=>cases h
 |rt i m ih=>intro fF fx wr k r h;exact ih (s.b0 i) _ fx wr k r h
 |rb i m ih=>intro fF fx wr k r h;exact ih _ fF (i::fx) wr k r h
 |eZ i b m ih =>intro fF fx wr k r h;obtain⟨a,e,O,R⟩:=ih fF fx ((i,b)::wr) k r h;refine⟨a,e,?_,R⟩;simp only[ax.a7];rw[<- y4];exact O
def dF(phx:cf)(H:cj)(B:Nat->aT)(g:Nat->av)(a:Act):Prop:=∀t,ba phx H B (g t) (a.tmps.getD t undef)
def dF.ext{phx phx':cf}{M aD:Nat->Prop}{B B':Nat->aT}{w w':World}{g:Nat->av}{a:Act}(h:dF phx (view w M) B g a)(aC:ct phx M B w phx' aD B' w'):dF phx' (view w' aD) B' g a:=
 λt=>aC.p (h t)
def dP{g:Nat->av}{o:Option α}{B B':Nat->aT}{a:α}(h:(ax.opt o).a7 g B=some (a,B')):o=some a/\B'=B:=by
 cases o with
 |none=>cases h
 |some b=>simp only[ax.opt,ax.a7,kJ,pr]at h;exact⟨by rw[h.1],h.2.symm⟩
def ll{g:Nat->av}{b:Bool}{B B':Nat->aT}{a:Unit}(h:(ax.need b).a7 g B=some (a,B')):b=true/\B'=B:=by
 cases b with
 |false=>cases h
 |true=>simp only[ax.need,cond,ax.a7,kJ,pr]at h;exact⟨rfl,h.2.symm⟩
def aoj{g:Nat->av}{c:Value}{B B':Nat->aT}{v:av}(h:(R1 c).a7 g B=some (v,B'))(phx:cf)(H:cj):B'=B/\ba phx H B v c:=by
 unfold R1 at h;split at h
 .cases h;exact⟨rfl,rfl⟩
 .rename_i k n
  cases hl:Ik k n with
  |false=>rw[hl]at h;cases h
  |true =>rw[hl]at h;cases h;exact⟨rfl,[.int k n],aI.iK.2 (by rw[bG.ai6 k n hl]),rfl⟩
 .rename_i s
  cases h;exact⟨rfl,[.string s],aI.m?.2 rfl,rfl⟩
 .cases h;exact⟨rfl,rfl⟩
 .cases h;exact⟨rfl,_,aI.xc.2 rfl,rfl⟩
 .cases h;exact⟨rfl,_,aI.xc.2 rfl,rfl⟩
 .cases h;exact⟨rfl,_,aI.xc.2 rfl,rfl⟩
 .cases h;exact⟨rfl,_,aI.xc.2 rfl,rfl⟩
 cases h
def y2{g:Nat->av}{x:Operand}{B B':Nat->aT}{v:av}(h:(ey x).a7 g B=some (v,B')){phx:cf}{H:cj}{a:Act}(ab:dF phx H B g a):B'=B/\ba phx H B v (a.eval x):=by
 cases x with
 |tmp t=>cases h;exact⟨rfl,ab t⟩
 |const c=>exact aoj h phx H
 |global i=>cases h
 |func f=>cases h;exact⟨rfl,[],rfl,rfl⟩
def ba.int{phx:cf}{H:cj}{B:Nat->aT}{k:IntKind}{x:bG k}{v:Value}(h:ba phx H B (.sc (.int k) x) v):v=.int k (bG.to k x):=by obtain⟨cs,h,rfl⟩:=h;rw[aI.iK.1 h];rfl
def ba.tU(phx:cf)(H:cj)(B:Nat->aT)(k:IntKind)(x:bG k):ba phx H B (.sc (.int k) x) (.int k (bG.to k x)):=
 ⟨[.int k (bG.to k x)],aI.iK.2 rfl,rfl⟩
def ba.bool{phx:cf}{H:cj}{B:Nat->aT}{x:Bool}{v:Value}(h:ba phx H B (.sc .bool x) v):v=.bool x:=by obtain⟨cs,h,rfl⟩:=h;rw[aI.oM.1 h];rfl
def ba.vv(phx:cf)(H:cj)(B:Nat->aT)(x:Bool):ba phx H B (.sc .bool x) (.bool x):=⟨[.bool x],aI.oM.2 rfl,rfl⟩
def ba.str{phx:cf}{H:cj}{B:Nat->aT}{x:List UInt8}{v:Value}(h:ba phx H B (.sc .str x) v):v=.string ⟨x.toArray⟩:=by obtain⟨cs,h,rfl⟩:=h;rw[aI.m?.1 h];rfl
def ba.U5(phx:cf)(H:cj)(B:Nat->aT)(x:List UInt8):ba phx H B (.sc .str x) (.string ⟨x.toArray⟩):=⟨[.string ⟨x.toArray⟩],aI.m?.2 rfl,rfl⟩
end Yp
namespace Yp
open Go
variable {P:Program}
def aBz{o:Oper}{a:Act}{w w':World}{v:Value}{K:Act->World->Prop}{Q:Exit->Act->World->Prop}
  (h:(execOp a.eval o).run P w=.ok (.value v) w') (am:K (a.put o.dst v) w'):o.wp P a w K Q:=by
 unfold Oper.wp;rw[h];exact am
def XV{o:Oper}{a:Act}{w w':World}{K:Act->World->Prop}{Q:Exit->Act->World->Prop}
  (h:(execOp a.eval o).run P w=.ok .skip w') (am:K (a.put o.dst undef) w'):o.wp P a w K Q:=by
 unfold Oper.wp;rw[h];exact am
def ape(op:BinOp)(t:TypeId)(x y:Operand)(k k':IntKind)(n m:Int)(w:World):(eqGuard op t x y (.int k n) (.int k' m)).run P w=.ok () w:=by unfold eqGuard;cases op<;>rfl
def apf(op:BinOp)(t:TypeId)(x y:Operand)(n m:ByteArray)(w:World):(eqGuard op t x y (.string n) (.string m)).run P w=.ok () w:=by unfold eqGuard;cases op<;>rfl
def ajz(k:IntKind)(n:Int)(O:k.min<=n)(R:n<=k.max):k.wrap n=n:=by cases k<;>simp[IntKind.min,IntKind.max,IntKind.signed,IntKind.bits,IntKind.wrap]at * <;> omega
def bG.J6(k:IntKind)(x:bG k)(h:Fr k=true):0<=bG.to k x:=by cases k<;>first|cases h;done|exact Int.natCast_nonneg _
def bG.UT(k:IntKind)(n:Int)(h:Fr k=true->0<=n/\n<=k.max):bG.to k (bG.lit k n)=n:=by
 apply bG.ai6;cases k<;>first
  |rfl
  | (have:=h rfl;cases n with
    |ofNat m=>simp[Ik,IntKind.max,IntKind.signed,IntKind.bits]at *;omega
    |negSucc m=>omega)
def bG.ai7(k:IntKind)(x:bG k)(h:Fr k=true):bG.to k x<=k.max:=by
 cases k with
 |u8=>have:=UInt8.toNat_lt x;simp only[bG.to,aO,IntKind.max,IntKind.signed,IntKind.bits];simp;omega
 |u16=>have:=UInt16.toNat_lt x;simp only[bG.to,Iy,IntKind.max,IntKind.signed,IntKind.bits];simp;omega
 |u32=>have:=UInt32.toNat_lt x;simp only[bG.to,a8,IntKind.max,IntKind.signed,IntKind.bits];simp;omega
 |u64=>have:=UInt64.toNat_lt x;simp only[bG.to,cL,IntKind.max,IntKind.signed,IntKind.bits];simp;omega
 |_=>cases h
def alq{sG:Bool}{op:BinOp}{k:IntKind}{x y:bG k}{g:Nat->av}{B B':Nat->aT}{v:av}(h:(Q0 sG op k x y).a7 g B=some (v,B'))
  (MI:sG=true->bG.to k y≠0) (t:TypeId) (w:World) (phx:cf) (H:cj) :
  B'=B/\∃cT,(binOp op t (.int k (bG.to k x)) (.int k (bG.to k y))).run P w=.ok cT w/\ba phx H B v cT:=by
 have sv:∀n:Int,ba phx H B (.sc (.int k) (bG.of k n)) (.int k (k.wrap n)):=λn=>by
  have:=ba.tU phx H B k (bG.of k n)
  rwa [bG.Pc]at this
 have aa:∀b:Bool,ba phx H B (.sc .bool b) (.bool b):=ba.vv phx H B;cases op<;>simp only[Q0]at h
 all_goals try(cases h;done)
 case add=>cases h;exact⟨rfl,_,by simp[binOp,Op.intArith,aE,bq,fv],sv _⟩
 case sub=>cases h;exact⟨rfl,_,by simp[binOp,Op.intArith,aE,bq,fv],sv _⟩
 case mul=>cases h;exact⟨rfl,_,by simp[binOp,Op.intArith,aE,bq,fv],sv _⟩
 case and=>cases h;exact⟨rfl,_,by simp[binOp,Op.intBits,i9,g',fT,IC],sv _⟩
 case or=>cases h;exact⟨rfl,_,by simp[binOp,Op.intBits,i9,g',fT,IC],sv _⟩
 case xor=>cases h;exact⟨rfl,_,by simp[binOp,Op.intBits,i9,g',fT,IC],sv _⟩
 case andNot=>cases h;exact⟨rfl,_,by simp[binOp,Op.intBits,i9,g',fT,IC],sv _⟩
 case eql=>cases h;exact⟨rfl,_,by simp[binOp,Op.intCmp,aj,bg,aH,b3,bne],aa _⟩
 case neq=>cases h;exact⟨rfl,_,by simp[binOp,Op.intCmp,aj,bg,aH,b3,bne],aa _⟩
 case lss=>cases h;exact⟨rfl,_,by simp[binOp,Op.intCmp,aj,bg,aH,b3,bne],aa _⟩
 case leq=>cases h;exact⟨rfl,_,by simp[binOp,Op.intCmp,aj,bg,aH,b3,bne],aa _⟩
 case gtr=>cases h;exact⟨rfl,_,by simp[binOp,Op.intCmp,aj,bg,aH,b3,bne],aa _⟩
 case geq=>cases h;exact⟨rfl,_,by simp[binOp,Op.intCmp,aj,bg,aH,b3,bne],aa _⟩
 case quo=>
  have key:bG.to k y≠0/\B'=B/\v=.sc (.int k) (bG.of k (gd (bG.to k x) (bG.to k y))):=by
   cases sG with
   |true=>cases h;exact⟨MI rfl,rfl,rfl⟩
   |false=>
    simp only[Aa,cond,ax.a7]at h;split at h
    .rename_i ah;cases h;exact⟨by simpa[bg,aj]using ah,rfl,rfl⟩
    cases h
  obtain⟨aq,az,rfl⟩:=key;exact⟨az,_,by simp[binOp,Op.intDiv,aq,gd],sv _⟩
 case rem=>
  have key:bG.to k y≠0/\B'=B/\v=.sc (.int k) (bG.lit k (fR (bG.to k x) (bG.to k y))):=by
   cases sG with
   |true=>cases h;exact⟨MI rfl,rfl,rfl⟩
   |false=>
    simp only[Aa,cond,ax.a7]at h;split at h
    .rename_i ah;cases h;exact⟨by simpa[bg,aj]using ah,rfl,rfl⟩
    cases h
  obtain⟨aq,az,rfl⟩:=key;refine⟨az,_,by simp[binOp,Op.intDiv,aq];rfl,?_⟩;have hm:=ba.tU phx H B k (bG.lit k (fR (bG.to k x) (bG.to k y)));rw[bG.UT]at hm
  .exact hm
  intro aL;have O:=bG.J6 k x aL;have R:=bG.J6 k y aL;have af:=bG.ai7 k y aL;unfold fR;have au:=Int.tmod_nonneg (bG.to k y) O;have aY:(bG.to k x).tmod (bG.to k y)<bG.to k y:=Int.tmod_lt_of_pos _ J;omega
def als{op:BinOp}{x y:List UInt8}{g:Nat->av}{B B':Nat->aT}{v:av}(h:(Q1 op x y).a7 g B=some (v,B'))(t:TypeId)(w:World)(phx:cf)(H:cj):
  B'=B/\∃cT,(binOp op t (.string ⟨x.toArray⟩) (.string ⟨y.toArray⟩)).run P w=.ok cT w/\ba phx H B v cT:=by
 have aa:∀b:Bool,ba phx H B (.sc .bool b) (.bool b):=ba.vv phx H B;have hl:∀z:List UInt8,ByteArray.toList ⟨z.toArray⟩=z:=λz=>by rw[ByteArray.toList_eq]
 cases op<;>simp only[Q1]at h
 all_goals try(cases h;done)
 case add=>
  simp only[ax.a7]at h;split at h
  .rename_i ah
   cases h;refine⟨rfl,_,?_,ba.U5 phx H B (cg x y)⟩;have ab:¬((x.length+y.length:Nat):Int) > IntKind.i64.max:=by have m0:((x.length:Int)+(y.length:Int))<=140737488355328:=of_decide_eq_true ah;simp;omega
   have O:(⟨x.toArray⟩:ByteArray).size=x.length:=rfl;have R:(⟨y.toArray⟩:ByteArray).size=y.length:=rfl;simp only[binOp,Op.stringOp,O,R,if_neg ab];rfl
  cases h
 case eql=>cases h;exact⟨rfl,_,by simp[binOp,Op.stringOp,hl,seq],aa _⟩
 case neq=>cases h;exact⟨rfl,_,by simp[binOp,Op.stringOp,hl,seq,bg],aa _⟩
 case lss=>cases h;exact⟨rfl,_,by simp[binOp,Op.stringOp,hl,seq,x6],aa _⟩
 case leq=>cases h;exact⟨rfl,_,by simp[binOp,Op.stringOp,hl,seq,x6,mW],aa _⟩
 case gtr=>cases h;exact⟨rfl,_,by simp[binOp,Op.stringOp,hl,seq,x6,mW,bg],aa _⟩
 case geq=>cases h;exact⟨rfl,_,by simp[binOp,Op.stringOp,hl,seq,x6,mW,bg],aa _⟩
end Yp
namespace Yp
open Go
def wi{a b:ag}{x:a.aG}{y:b.aG}(h:ag.cast a b x=some y):∃e:a=b,e▸x=y:=by
 unfold ag.cast at h
 grind
def jK{a b:ag}{x:List a.aG}{y:List b.aG}(h:ag.ly a b x=some y):∃e:a=b,e▸x=y:=by
 unfold ag.ly at h
 grind
def eX{a b:ag}(h:ag.is a b=true):a=b:=by
 unfold ag.is at h;cases ab:ag.same a b with
 |none=>rw[ab]at h;cases h
 |some e=>exact e.down
section
variable {phx:cf} {H:cj} {B:Nat->aT}
def aef{f:Nat}:∀{l:List Nat} {n m:Nat},HZ f l n=some m->∃j,m=j+n/\l[j]?=some f
 |a::l,n,m,h=>by
  simp only[HZ]at h;cases aa:Nat.beq a f with
  |true=>rw[aa]at h;cases h;exact⟨0,J,by rw[fU aa];rfl⟩
  |false =>rw[aa]at h;obtain⟨j,O,R⟩:=aef h;exact⟨j+1,J,by simpa using R⟩
def aax{dT:Nat}{c_:List iO}{t:ag}{x:t.aG}{v:Value}(h:RX f c_ t=some x)(ai:bJ phx H B (.clo f dT c_) v):aI H t x [v]/\t.isAgg=false:=by
 cases t<;>try(cases h;done)
 rename_i l;cases c_ with
 |cons c r=>cases h
 |nil =>obtain⟨vs,O,rfl⟩:=ai;have O:vs=[]:=O;subst O;obtain⟨j,R,af⟩:=aef (show HZ f l 1=some x from h);refine⟨aI.GU.2 ?_,rfl⟩;have R:x=j+1:=R;subst R;simp only[List.take_nil,List.drop_nil,tv,af]
def sV:∀{pv:av} {t:ag} {x:t.aG} {cs:List Value},uj pv t=some x->fh phx H B pv t cs->aI H t x cs:=by
 intro pv;induction pv with
 |sc t' y =>intro t x cs h ai;obtain⟨e,rfl⟩:=wi h;obtain⟨bB,ai⟩:=ai;exact ai
 |kb b=>
  intro t x cs h ai;cases t<;>try(cases h;done)
  obtain⟨_,v,rfl,_,af⟩:=ai;cases h;simp only[bJ]at af;rw[af];exact aI.oM.2 rfl
 |nil=>
  intro t x cs h ai;cases t<;>try(cases h;done)
  obtain⟨_,v,rfl,_,af⟩:=ai;cases h;simp only[bJ]at af;rw[af];exact aI.iM.2 ⟨none,0,rfl,b1 _,by unfold maxLen;omega,.inl rfl⟩
 |csl e l=>
  intro t x cs h ai;cases t<;>try(cases h;done)
  obtain⟨_,v,rfl,_,af⟩:=ai;obtain⟨bB,rfl⟩:=jK h;subst bB;obtain⟨a,_,au⟩:=af;exact au
 |two u v aL aB=>
  intro t x cs h ai;cases t<;>try(cases h;done)
  rename_i a b;obtain⟨c1,c2,rfl,O,R⟩:=ai;have bE:ajd (uj u a) (uj v b)=some x:=h;cases hy:uj u a with
  |none=>rw[hy]at bE;cases bE
  |some y=>
   cases bs:uj v b with
   |none=>rw[hy,bs]at bE;cases bE
   |some z =>rw[hy,bs]at bE;cases bE;exact aI.m9.2 ⟨c1,c2,rfl,aL hy O,aB bs R⟩
 |agg t' u _=>intro t x cs h ai;exact ai.elim
 |clo f dT c_ =>intro t x cs h ai;obtain⟨_,v,rfl,_,af⟩:=ai;exact(aax h af).1
 |_=>intro t x cs h;cases h
def fh.auo{u v:av}{t:ag}{cs:List Value}(h:fh phx H B (.two u v) t cs):t.isAgg=true:=by cases t<;>first|rfl|exact h.elim
def oC{pv:av}{t:ag}{x:t.aG}{v:Value}(h:iN t pv=some x)(ai:ba phx H B pv v):ba phx H B (.sc t x) v:=by
 unfold iN at h;cases pv<;>try(cases h;done)
 case kb b=>
  cases t<;>try(cases h;done)
  cases h;simp only[ba,d6,bJ]at ai;rw[ai];exact ba.vv _ _ _ _
 case sc t' y =>obtain⟨e,rfl⟩:=wi h;subst e;exact ai
 case nil=>
  cases t<;>try(cases h;done)
  cases h;simp only[ba,d6,bJ]at ai;rw[ai];exact⟨[_],aI.iM.2 ⟨none,0,rfl,b1 _,by unfold maxLen;omega,.inl rfl⟩,rfl⟩
 case csl e l=>
  cases t<;>try(cases h;done)
  obtain⟨bB,rfl⟩:=jK h;subst bB;obtain⟨a,af,au⟩:=ai;exact⟨[v],au,rfl⟩
 case two u w=>exact ai.elim
 case clo f dT c_ =>obtain⟨O,R⟩:=aax h ai;exact⟨[v],O,by simp[cB,R]⟩
 case agg t' u=>
  have bE:(bif ag.is t' t then uj u t else none)=some x:=h;cases ac:ag.is t' t with
  |false=>rw[ac]at bE;cases bE
  |true =>rw[ac]at bE;have h:uj u t=some x:=bE;have e:=eX ac;subst e;obtain⟨bh,cs,O,R⟩:=ai;exact⟨cs,sV h O,by rw[R,cB,if_pos bh]⟩
end
end Yp
namespace Yp
open Go
def gM:=@Nat.mul_le_mul_right
def mR:=@List.getElem?_eq_some_iff
def j2:=@Nat.add_assoc
def uA:=@List.getElem?_eq_none
def oI:=@Nat.lt_or_ge
def FM:=@List.getElem?_take
def full(w:World):cj:=λb=>w.heap[b]?
def s0(w:World)(M:Nat->Prop):(view w M).cd (full w):=λ_ _ h=>(jZ.1 h).2
def lY{l:List α}(h:off+n<=l.length):(cut l off n).length=n:=by simp[cut];omega
def GB{l:List α}(h:i<n):ic (cut l off n) i=ic l (off+i):=by simp[ic,cut,FM,h]
def C4(l:List α):cut l 0 l.length=l:=by simp[cut]
def VL{phx:cf}{H:cj}{id:Nat}{e:ag}{l:List e.aG}{v:Value}(ai:h4 phx id e off n v)(bW:off+n<=l.length)
  (aa:(phx id=none/\l.length=0)\/∃b o c el fz,phx id=some (b,o,c.size)/\H b=some (.cells c el fz)/\fi H e l c o):aI H (.sl e) (cut l off n) [v]:=by
 refine aI.iM.2 ?_;rw[lY bW];rcases ai with⟨O,a,R⟩|⟨b,o,m,cap,O,R,af,au,aY⟩
 .subst O R
  exact⟨a,0,rfl,b1 _,by unfold maxLen;omega,.inl (by simp[cut])⟩
 refine⟨_,cap,by rw[R],af,au,?_⟩;rcases aa with⟨g1,cD⟩|⟨b',dz,c,el,fz,g1,cD,cQ⟩
 .rw[O]at g1;cases g1
 rw[O]at g1;cases g1;refine .inr ⟨b,o+off*e.size,c,el,fz,rfl,cD,?_,λi x ac => ?_⟩
 .have:(off+n)*e.size<=(off+cap)*e.size:=gM _ J
  rw[nh]at this;have cp:=aY;omega
 have et:i<n:=by
  rcases oI i n with h|h
  .exact h
  have:(cut l off n).length<=i:=by rw[lY bW];exact h
  simp only[ic,uA this]at ac;cases ac
 rw[GB et]at ac;have:=cQ.2 (off+i) x ac;rw[nh,<- j2]at this;exact this
def VM{phx:cf}{H:cj}{id:Nat}{e:ag}{l:List e.aG}{v:Value}(ai:h4 phx id e 0 l.length v)
  (aa:(phx id=none/\l.length=0)\/∃b o c el fz,phx id=some (b,o,c.size)/\H b=some (.cells c el fz)/\fi H e l c o):aI H (.sl e) l [v]:=by
 have:=VL ai J aa
 rwa [C4]at this
section
variable {K:Kp} {w0 w:World} {phx:cf} {M:Nat->Prop} {B B':Nat->aT} {g:Nat->av}
def afI{e:ag}{l:List e.aG}(h:ml phx M w (view w M) B i (.ob e l)):(phx i=none/\l.length=0)\/∃b o c el fz,phx i=some (b,o,c.size)/\full w b=some (.cells c el fz)/\fi (full w) e l c o:=by
 rcases h.2 with h|⟨b,o,c,el,fz,O,R,af,_⟩
 .grind
 exact .inr ⟨b,o,c,el,fz,O,R,af.mono (s0 w M)⟩
def ag3{id:Nat}{e:ag}{x:List e.aG}(h:(t_ eW id e).a7 g B=some (x,B'))(hm:bM K w0 phx M B w):
  ∃aD,bM K w0 phx aD B' w/\ct phx M B w phx aD B' w/\oK phx M B aD B'/\(B id=.ob e x\/B id=.fz e x) /\
   ((phx id=none/\x.length=0)\/∃b o c el fz,phx id=some (b,o,c.size)/\full w b=some (.cells c el fz)/\fi (full w) e x c o) /\
   (eW=true->(phx id=none/\x.length=0)\/∃b o c el fz,phx id=some (b,o,c.size)/\view w aD b=some (.cells c el fz)/\fi (view w aD) e x c o):=by
 simp only[t_,ax.a7]at h;have aa:=hm.blks id;cases az:B id with
 |ob bB l=>
  rw[az]at h aa;obtain⟨y,c7,O,R⟩:=ax.cK h;obtain⟨ah,rfl⟩:=dP O;obtain⟨fL,rfl⟩:=jK ah;subst fL;cases eW with
  |false =>cases R;exact⟨M,hm,ct.refl _ _ _ _,oK.refl _ _ _,.inl rfl,afI aa,λh=>by cases h⟩
  |true =>obtain⟨aD,iI,j?,wT⟩:=hm.freeze az;cases R;have jP:=iI.blks id;rw[e5]at jP;exact⟨aD,iI,j?,wT,.inl rfl,afI aa,λ_=>jP.2⟩
 |fz bB l=>
  rw[az]at h aa;obtain⟨ah,rfl⟩:=dP h;obtain⟨fL,rfl⟩:=jK ah;subst fL;refine⟨M,hm,ct.refl _ _ _ _,oK.refl _ _ _,.inr rfl,?_,λ_=>aa.2⟩;rcases aa.2 with h|⟨b,o,c,el,fz,O,R,af⟩
  .grind
  exact .inr ⟨b,o,c,el,fz,O,s0 w M _ _ R,af.mono (s0 w M)⟩
 |new=>rw[az]at h;cases h
 |ft=>rw[az]at h;cases h
 |box t v=>rw[az]at h;cases h
 |it s p=>rw[az]at h;cases h
 |mp kt vt l=>rw[az]at h;cases h
def K5{H:cj}{e:ag}{l:List e.aG}{c:Array Value}(h:aI H (.ar n e) l (cM c o (n*e.size)))(ak:o+n*e.size<=c.size):l.length=n/\fi H e l c o:=by
 obtain⟨O,_,af⟩:=aI.CL.1 h;refine⟨O,by rw[O];exact ak,λi x ac => ?_⟩;have bn:i<l.length:=(mR.1 ac).1;have:=af i x ac;have hm:=gM e.size (show i+1<=n by omega);rw[nh,Nat.one_mul]at hm
 rwa [EY _ _ _ _ _ hm]at this
def bM.ap2(h:bM K w0 phx M B w){id:Nat}{e:ag}{v:av}{l:List e.aG}(aa:B id=.box (.ar n e) v)(hl:iN (.ar n e) v=some l)(dM:0<e.size):
  ∃aD,bM K w0 phx aD (c' B id (.fz e l)) w/\ct phx M B w phx aD (c' B id (.fz e l)) w/\oK phx M B aD (c' B id (.fz e l)):=by
 have ai:=h.blks id;rw[aa]at ai;obtain⟨eD,tW,c0,tp,tz,g1,cD,cQ,gj,ld,tA⟩:=ai;obtain⟨cm,eI⟩:=K5 (sV hl gj) cQ;refine⟨λb=>M b/\∀x,phx id=some x->b≠x.1,?_⟩;have aB:(view w M).cd (view w λb=>M b/\∀x,phx id=some x->b≠x.1):=zy λb o d_ aK=>⟨λah=>d_ ah.1,aK⟩;have aC:ct phx M B w phx (λb=>M b/\∀x,phx id=some x->b≠x.1) (c' B id (.fz e l)) w:=⟨λ_ _=>rfl,aB,λj=>by
  by_cases ap:j=id
  .subst ap;rw[e5,aa];exact⟨by rw[cm],dM⟩
  rw[en _ _ ap];exact aT.cd.refl _⟩
 refine⟨{ h with hid:=λb am=>⟨λhm=>(h.hid b am).1 hm.1,λhx=>⟨(h.hid b am).2 hx,λx mz e=>h.own id (by rw[aa];rfl) x mz (e▸am)⟩⟩,mlt:=λb hm=>h.mlt b hm.1,own:=λj ap => ?_,blks:=λj => ?_,sep:=λi j js ac ap => ?_ },aC,
  λb aa ak => ?_,λj ap => ?_⟩
 .by_cases O:j=id
  .subst O;rw[e5]at ap;cases ap
  rw[en _ _ O]at ap;exact h.own j ap
 .by_cases ap:j=id
  .subst ap;rw[e5]
   exact⟨dM,.inr ⟨eD,tW,c0,tp,tz,g1,jZ.2 ⟨λah=>ah.2 _ g1 rfl,cD⟩,eI.mono aB⟩⟩
  rw[en _ _ ap];refine(h.blks j).congr rfl aC.pl aC.vw aC.bl (λ_ _ _=>rfl) λx hx hm d_=>⟨d_,λy hy => ?_⟩;exact h.sep j id ap hm (by rw[aa];rfl) x y hx hy
 .by_cases O:i=id
  .subst O;rw[e5]at ac;cases ac
  by_cases R:j=id
  .subst R;rw[e5]at ap;cases ap
  rw[en _ _ O]at ac;rw[en _ _ R]at ap;exact h.sep i j js ac ap
 .refine iQ λah=>ak ⟨aa,λx hx e=>ah ⟨id,by rw[‹B id=_›];rfl,x,hx,e.symm⟩⟩
 by_cases O:j=id
 .subst O;rw[e5]at ap;cases ap
 rw[en _ _ O]at ap;exact ap
def Qf(B:Nat->aT)(id:Nat)(e:ag)(x:List e.aG):Prop:=
 B id=.ob e x\/B id=.fz e x\/∃v,B id=.box (.ar x.length e) v
def ay5{id:Nat}{e:ag}{x:List e.aG}(h:(BF eW id e).a7 g B=some (x,B'))(hm:bM K w0 phx M B w):
  ∃aD,bM K w0 phx aD B' w/\ct phx M B w phx aD B' w/\oK phx M B aD B'/\Qf B id e x /\
   ((phx id=none/\x.length=0)\/∃b o c el fz,phx id=some (b,o,c.size)/\full w b=some (.cells c el fz)/\fi (full w) e x c o) /\
   (eW=true->(phx id=none/\x.length=0)\/∃b o c el fz,phx id=some (b,o,c.size)/\view w aD b=some (.cells c el fz)/\fi (view w aD) e x c o):=by
 cases az:B id with
 |box t v=>
  simp only[BF,ax.a7]at h;have aa:=hm.blks id;rw[az]at h aa;cases t<;>try(cases h;done)
  rename_i n bB;obtain⟨l,c7,O,R⟩:=ax.cK h;obtain⟨hl,rfl⟩:=dP O;obtain⟨y,b9,af,au⟩:=ax.cK R;obtain⟨ah,rfl⟩:=dP af;obtain⟨fL,rfl⟩:=jK ah;subst fL;have hp:Nat.blt 0 bB.size=true:=by
   cases aQ:Nat.blt 0 bB.size with
   |true=>rfl
   |false=>rw[aQ]at au;cases au
  have h:=au;rw[hp]at h;have dM:0<bB.size:=by simpa using hp
  obtain⟨eD,tW,c0,tp,tz,g1,cD,cQ,gj,ld,tA⟩:=aa;obtain⟨cm,eI⟩:=K5 (sV hl gj) cQ;have hf:∃b o c el fz,phx id=some (b,o,c.size)/\full w b=some (.cells c el fz)/\fi (full w) bB l c o:=⟨eD,tW,c0,tp,tz,g1,cD,eI.mono (s0 w M)⟩;cases eW with
  |false =>cases h;exact⟨M,hm,ct.refl _ _ _ _,oK.refl _ _ _,.inr (.inr ⟨v,by show _=aT.box (.ar (List.length (α:=bB.aG) l) bB) v;rw[cm];exact az⟩),.inr hf,λh=>by cases h⟩
  |true =>obtain⟨aD,iI,j?,wT⟩:=hm.ap2 az hl dM;cases h;have jP:=iI.blks id;rw[e5]at jP;exact⟨aD,iI,j?,wT,.inr (.inr ⟨v,by show _=aT.box (.ar (List.length (α:=bB.aG) l) bB) v;rw[cm];exact az⟩),.inr hf,λ_=>jP.2⟩
 |_=>
  have bE:(t_ eW id e).a7 g B=some (x,B'):=by
   simp only[BF,ax.a7]at h;simp only[t_,ax.a7]
   grind
  obtain⟨aD,O,R,af,au,aY⟩:=ag3 bE hm;exact⟨aD,O,R,af,au.elim .inl λh=>.inr (.inl h),aY⟩
def ct.bv{phx':cf}{aD:Nat->Prop}{w':World}(h:ct phx M B w phx' aD B' w'){pv:av}{t:ag}{cs:List Value}(hp:fh phx (view w M) B pv t cs):fh phx' (view w' aD) B' pv t cs:=
 hp.mono h.pl h.vw h.bl
def q5(K:Kp)(w0 w:World)(phx:cf)(M:Nat->Prop)(B B':Nat->aT)(eW:Bool)(t:ag)(x:t.aG)(cs:List Value):Prop:=
 ∃aD,bM K w0 phx aD B' w/\ct phx M B w phx aD B' w/\oK phx M B aD B'/\aI (full w) t x cs/\(eW=true->aI (view w aD) t x cs)
def q5.plain(hm:bM K w0 phx M B w){t:ag}{x:t.aG}{cs:List Value}(h:aI (view w M) t x cs):q5 K w0 w phx M B B eW t x cs:=
 ⟨M,hm,ct.refl _ _ _ _,oK.refl _ _ _,h.mono (s0 w M),λ_=>h⟩
def aw5{e:ag}{x:List e.aG}{id:Nat}{H:cj}{v:Value}(aa:B id=.ob e x\/B id=.fz e x)(h:bJ phx H B (.own id eT) v):h4 phx id e 0 x.length v:=by rcases aa with aa|aa<;>simp only[bJ,aa]at h<;>exact h.1
def af5{e:ag}{x:List e.aG}{id:Nat}{H:cj}{v:Value}(aa:Qf B id e x)(h:bJ phx H B (.osl id off n) v):off+n<=x.length/\h4 phx id e off n v:=by
 rcases aa with aa|aa|⟨u,aa⟩<;>simp only[bJ,aa]at h
 .grind
 .exact h
 exact h.2
def agb{id:Nat}{t:ag}{x:t.aG}{v:Value}(h:(af8 eW id t).a7 g B=some (x,B'))(hm:bM K w0 phx M B w)(ai:bJ phx (view w M) B (.own id eT) v):
  q5 K w0 w phx M B B' eW t x [v]:=by
 cases t<;>try(cases h;done)
 obtain⟨aD,O,R,ht,af,au,aY⟩:=ag3 h hm;have aK:=aw5 af ai;exact⟨aD,O,R,ht,VM aK au,λhf=>VM aK (aY hf)⟩
def af4{id:Nat}{t:ag}{x:t.aG}{v:Value}(h:(af3 eW id off n t).a7 g B=some (x,B'))(hm:bM K w0 phx M B w)(ai:bJ phx (view w M) B (.osl id off n) v):
  q5 K w0 w phx M B B' eW t x [v]:=by
 cases t<;>try(cases h;done)
 obtain⟨y,c7,hy,h⟩:=ax.cK h;cases h;obtain⟨aD,O,R,ht,af,au,aY⟩:=ay5 hy hm;have aK:=af5 af ai;exact⟨aD,O,R,ht,VL aK.2 aK.1 au,λhf=>VL aK.2 aK.1 (aY hf)⟩
def J3:∀{pv:av} {B B':Nat->aT} {M:Nat->Prop} {t:ag} {x:t.aG} {cs:List Value},(xu eW pv t).a7 g B=some (x,B')->bM K w0 phx M B w->fh phx (view w M) B pv t cs ->
  q5 K w0 w phx M B B' eW t x cs:=by
 intro pv;induction pv with
 |own id eT =>intro B B' M t x cs h hm ai;obtain⟨_,v,rfl,_,af⟩:=ai;exact agb h hm af
 |osl id off n =>intro B B' M t x cs h hm ai;obtain⟨_,v,rfl,_,af⟩:=ai;exact af4 h hm af
 |two u v aL aB=>
  intro B B' M t x cs h hm ai;cases t<;>try(cases h;done)
  obtain⟨c1,c2,rfl,eY,gT⟩:=ai;obtain⟨y,c7,hy,h⟩:=ax.cK h;obtain⟨z,b9,bs,h⟩:=ax.cK h;cases h;obtain⟨fV,bD,e1,eA,f1,sY⟩:=aL hy hm eY;obtain⟨db,cr,aU,e?,f2,zx⟩:=aB bs bD (e1.bv gT);exact⟨db,cr,e1.trans aU,eA.trans e?,aI.m9.2 ⟨c1,c2,rfl,f1,f2⟩,λhf=>aI.m9.2 ⟨c1,c2,rfl,(sY hf).mono aU.vw,zx hf⟩⟩
 |sc t' y =>intro B B' M t x cs h hm ai;obtain⟨ah,rfl⟩:=dP h;exact q5.plain hm (sV (pv:=.sc t' y) ah ai)
 |kb b =>intro B B' M t x cs h hm ai;obtain⟨ah,rfl⟩:=dP h;exact q5.plain hm (sV (pv:=.kb b) ah ai)
 |nil =>intro B B' M t x cs h hm ai;obtain⟨ah,rfl⟩:=dP h;exact q5.plain hm (sV (pv:=.nil) ah ai)
 |csl e l =>intro B B' M t x cs h hm ai;obtain⟨ah,rfl⟩:=dP h;exact q5.plain hm (sV (pv:=.csl e l) ah ai)
 |clo f dT c_ =>intro B B' M t x cs h hm ai;obtain⟨ah,rfl⟩:=dP h;exact q5.plain hm (sV (pv:=.clo f dT c_) ah ai)
 |agg t' u _=>intro B B' M t x cs h hm ai;exact ai.elim
 |_=>intro B B' M t x cs h;cases h
def B1{pv:av}{t:ag}{x:t.aG}{v:Value}(h:(nb eW t pv).a7 g B=some (x,B'))(hm:bM K w0 phx M B w)(ai:ba phx (view w M) B pv v):
  ∃cs,v=cB t cs/\q5 K w0 w phx M B B' eW t x cs:=by
 have plain:∀{t:ag} {x:t.aG},ba phx (view w M) B (.sc t x) v->∃cs,v=cB t cs/\q5 K w0 w phx M B B eW t x cs:=λ⟨cs,O,R⟩=>⟨cs,R,q5.plain hm O⟩;cases pv<;>try(cases h;done)
 case own id eT=>
  have hg:=agb h hm ai;cases t<;>try(cases h;done)
  exact⟨[v],rfl,hg⟩
 case osl id off n=>
  have hg:=af4 h hm ai;cases t<;>try(cases h;done)
  exact⟨[v],rfl,hg⟩
 case two u w=>exact ai.elim
 case sc t' y =>obtain⟨ah,rfl⟩:=dP h;exact plain (oC (pv:=.sc t' y) ah ai)
 case kb b =>obtain⟨ah,rfl⟩:=dP h;exact plain (oC (pv:=.kb b) ah ai)
 case nil =>obtain⟨ah,rfl⟩:=dP h;exact plain (oC (pv:=.nil) ah ai)
 case csl e l =>obtain⟨ah,rfl⟩:=dP h;exact plain (oC (pv:=.csl e l) ah ai)
 case clo f dT c_ =>obtain⟨ah,rfl⟩:=dP h;exact plain (oC (pv:=.clo f dT c_) ah ai)
 case agg t' u=>
  have bE:(bif ag.is t' t then xu eW u t else .fail:ax t.aG).a7 g B=some (x,B'):=h;cases ac:ag.is t' t with
  |false=>rw[ac]at bE;cases bE
  |true =>rw[ac]at bE;have e:=eX ac;subst e;obtain⟨bh,cs,O,R⟩:=ai;exact⟨cs,by rw[R,cB,if_pos bh],J3 bE hm O⟩
end
end Yp
namespace Yp
open Go
def KP:=@Option.map_some
variable {P:Program}
def aA5{op:UnOp}{p:av}{g:Nat->av}{B B':Nat->aT}{v:av}(h:(XC op p).a7 g B=some (v,B')){x:Value}{phx:cf}{H:cj}(hx:ba phx H B p x)(w:World):
  B'=B/\∃cT,(Op.unary op x).run P w=.ok cT w/\ba phx H B v cT:=by
 have sv:∀(k:IntKind) (n:Int),ba phx H B (.sc (.int k) (bG.of k n)) (.int k (k.wrap n)):=λk n=>by
  have:=ba.tU phx H B k (bG.of k n)
  rwa [bG.Pc]at this
 unfold XC at h;split at h
 .rename_i b
  cases h;simp only[ba]at hx;subst hx;exact⟨rfl,_,rfl,rfl⟩
 .rename_i b
  cases h;rw[hx.bool];exact⟨rfl,_,rfl,ba.vv _ _ _ _⟩
 .rename_i k n
  cases h;rw[hx.int];exact⟨rfl,_,by simp[Op.unary,Op.intArith];rfl,by simpa[bq]using sv k (0-bG.to k n)⟩
 .rename_i k n
  cases h;rw[hx.int];exact⟨rfl,_,by cases k<;>rfl,sv k _⟩
 cases h
def api{p:av}{g:Nat->av}{B B':Nat->aT}{v:av}(h:(GO p i).a7 g B=some (v,B')){x:Value}{phx:cf}{H:cj}(hx:ba phx H B p x)(w:World):
  B'=B/\∃cT,(Instr.extract x i).run P w=.ok cT w/\d6 phx H B v cT:=by
 unfold GO at h;split at h
 .rename_i a
  obtain⟨h,az⟩:=dP h;obtain⟨vs,hl,rfl⟩:=hx;refine⟨az,?_⟩;have key:∀(i:Nat) (a:av) (vs:List Value),ja a (gE i)=some v->mm phx H B a vs->∃cT,vs[i]?=some cT/\d6 phx H B v cT:=by
   intro i;induction i with
   |zero=>
    intro a vs h hl;cases a<;>simp only[gE]at h<;>try(cases h;done)
    .rename_i t y
     cases t<;>(try simp at h)<;>try(cases h;done)
     exact hl.elim
    obtain⟨u,us,rfl,O,R⟩:=hl
    (try simp at h);cases h
    grind
   |succ i ih=>
    intro a vs h hl;cases a<;>simp only[gE]at h<;>try(cases h;done)
    .rename_i t y
     cases t<;>(try simp at h)<;>try(cases h;done)
     exact hl.elim
    obtain⟨u,us,rfl,O,R⟩:=hl;obtain⟨cT,af,au⟩:=ih _ _ h R
    grind
  obtain⟨cT,O,R⟩:=key i a vs h hl;refine⟨cT,?_,R⟩;simp[Instr.extract,O]
 cases h
def axn{c a b:av}{g:Nat->av}{B B':Nat->aT}{v:av}(h:(VY c a b).a7 g B=some (v,B')){x y z:Value}{phx:cf}{H:cj}
  (ah:ba phx H B c x) (bh:ba phx H B a y) (aa:ba phx H B b z) (w:World) :
  B'=B/\∃cT,(do pure (Next.value (if <- asBool x then y else z)):Sem Next).run P w=.ok (.value cT) w/\ba phx H B v cT:=by
 have gP:∀(t:ag) (c:Bool) (p q:t.aG),ba phx H B (.sc t p) y->ba phx H B (.sc t q) z->x=.bool c ->
   ∃cT,(do pure (Next.value (if <- asBool x then y else z)):Sem Next).run P w=.ok (.value cT) w/\ba phx H B (.sc t (T c p q)) cT:=by
  intro t c p q O R af;subst af;cases c with
  |true=>exact⟨y,rfl,O⟩
  |false=>exact⟨z,rfl,R⟩
 unfold VY at h;split at h
 .rename_i c
  cases h;simp only[ba]at ah;subst ah;cases c with
  |true=>exact⟨rfl,y,rfl,bh⟩
  |false=>exact⟨rfl,z,rfl,aa⟩
 .rename_i c
  split at h
  .rename_i t p
   split at h
   .rename_i q aQ
    cases h;exact⟨rfl,gP t c p q bh (oC aQ aa) ah.bool⟩
   cases h
  .rename_i p
   split at h
   .rename_i q aQ
    cases h;refine⟨rfl,gP .bool c p q ?_ (oC aQ aa) ah.bool⟩;simp only[ba]at bh;rw[bh];exact ba.vv _ _ _ _
   cases h
  cases h
 cases h
def AR{i n:Int}:aN i n=true↔0<=i/\i<n:=by simp[aN]
def auh{i:Int}{g:Nat->av}{B B':Nat->aT}{v:av}(h:(H2 .str (.sc .str l) i).a7 g B=some (v,B')){tid:TypeId}(aL:P.underlying tid=some .string)(k:IntKind)
  {phx:cf} {H:cj} (w:World):B'=B/\∃cT,(Instr.index tid (.string ⟨l.toArray⟩) (.int k i)).run P w=.ok cT w/\ba phx H B v cT:=by
 simp only[H2,ax.a7]at h;split at h
 .rename_i ah
  cases h;obtain⟨aq,O⟩:=AR.1 ah;have bn:i.toNat<l.length:=by unfold len at O;omega
  have ab:i.toNat<(⟨l.toArray⟩:ByteArray).size:=bn;have hg:(⟨l.toArray⟩:ByteArray)[i.toNat]?=some l[i.toNat]:=by rw[getElem?_pos (⟨l.toArray⟩:ByteArray) i.toNat ab];rfl
  refine⟨rfl,.int .u8 (l[i.toNat].toNat:Int),?_,?_⟩
  .simp[Instr.index,asIntOf,run_underlying aL,aq,hg]
  have e:ao l (ae i) (u8 0)=l[i.toNat]:=by simp[ao,ae,bn]
  show ba phx H B (.sc (.int .u8) (ao l (ae i) (u8 0):bG .u8)) _;rw[show(ao l (ae i) (u8 0):bG .u8)=l[i.toNat] from e];exact ba.tU phx H B .u8 l[i.toNat]
 cases h
def sA{lo ac n:Int}:b8 lo ac n=true↔0<=lo/\lo<=ac/\ac<=n:=by simp[b8,and_assoc]
def WI{isSlice:Bool}{cap:Nat}{lo ac:Option Int}{ks kh:IntKind}(l2:n<=cap)(h:b8 (bU lo 0) (bU ac n) n=true)(w:World):
  (Instr.sliceBounds isSlice n cap (lo.map λi=>.int ks i) (ac.map λi=>.int kh i) none).run P w=.ok ((bU lo 0).toNat,(bU ac n).toNat,cap) w:=by
 obtain⟨O,R,af⟩:=sA.1 h;cases lo with
 |none=>
  cases ac with
  |none=>simp[Instr.sliceBounds,bU]
  |some ac =>simp only[bU]at O R af ⊢;have g1:0<=ac/\ac<=(cap:Int):=⟨J,J⟩;simp[Instr.sliceBounds,Instr.sliceBound,asIntOf,g1]
 |some lo=>
  cases ac with
  |none =>simp only[bU]at O R af ⊢;have g1:0<=lo/\lo<=(n:Int):=⟨O,J⟩;simp[Instr.sliceBounds,Instr.sliceBound,asIntOf,g1]
  |some ac =>simp only[bU]at O R af ⊢;have g1:0<=ac/\ac<=(cap:Int):=⟨J,J⟩;have cD:0<=lo/\lo<=((ac.toNat:Nat):Int):=⟨O,J⟩;simp[Instr.sliceBounds,Instr.sliceBound,asIntOf,g1,cD];omega
def awY{o:Option Operand}{g:Nat->av}{B B':Nat->aT}{r:Option Int}(h:(IV o).a7 g B=some (r,B')){phx:cf}{H:cj}{a:Act}(ab:dF phx H B g a):
  B'=B/\∃k,o.map a.eval=r.map λi=>.int k i:=by
 cases o with
 |none=>cases h;exact⟨rfl,.i64,rfl⟩
 |some x=>
  obtain⟨v,c7,O,h⟩:=ax.cK h;obtain⟨az,aB⟩:=y2 O ab;obtain⟨n,b9,R,h⟩:=ax.cK h;cases h;cases v<;>try(cases R;done)
  rename_i t y;cases t<;>try(cases R;done)
  rename_i k;cases R;exact⟨az,k,by simp only[KP,aB.int]⟩
def az1{lo ac:Option Int}{g:Nat->av}{B B':Nat->aT}{v:av}(h:(xr .str (.sc .str l) lo ac none).a7 g B=some (v,B')){tid:TypeId}(aL:P.underlying tid=some .string)
  (ks kh:IntKind) {phx:cf} {H:cj} (w:World) :
  B'=B/\∃cT,(Instr.sliceAt tid (.string ⟨l.toArray⟩) (lo.map λi=>.int ks i) (ac.map λi=>.int kh i) none).run P w=.ok cT w/\ba phx H B v cT:=by
 have h:(if b8 (bU lo 0) (bU ac (len l)) (len l)=true then some (av.sc .str (sub l (bU lo 0) (bU ac (len l))),B) else none)=some (v,B'):=h;split at h
 .rename_i ah
  cases h;have aa:=WI (P:=P) (isSlice:=false) (ks:=ks) (kh:=kh) (b1 l.length) ah w;have cZ:(⟨l.toArray⟩:ByteArray).size=l.length:=rfl;refine⟨rfl,.string ⟨(sub l (bU lo 0) (bU ac l.length)).toArray⟩,?_,ba.U5 _ _ _ _⟩;have aC:(⟨l.toArray⟩:ByteArray).extract (bU lo 0).toNat (bU ac l.length).toNat=⟨(sub l (bU lo 0) (bU ac l.length)).toArray⟩:=by apply ByteArray.ext;simp[sub,ByteArray.data_extract]
  simp[Instr.sliceAt,Instr.slice,run_underlying aL,cZ,aa,aC]
 cases h
end Yp
namespace Yp
open Go
def lR:=@Option.map_eq_some_iff
def lS:=@List.getD_eq_getElem?_getD
def xV:=@Array.getElem?_eq_getElem
variable {P:Program}
def NJ{d:Option TypeDesc}(h:IU k d):(∃a b c,d=some (.func a b c))\/(∃a,d=some (.interface a))\/(∃a b,d=some (.map a b))\/∃a,d=some (.pointer a):=by
 unfold IU at h
 grind
def apG{t:ag}{tid:TypeId}(h:(cY P t).1 tid):∃d,P.underlying tid=some d:=by
 cases t with
 |bool=>exact⟨_,h.1⟩|int k=>exact⟨_,h.1⟩|str=>exact⟨_,h.1⟩
 |sl e=>obtain⟨⟨bf,h,_⟩,_⟩:=h;exact⟨_,h⟩
 |unit=>obtain⟨⟨bf,h,_⟩,_⟩:=h;exact⟨_,h⟩
 |pair a b=>obtain⟨⟨bf,h,_⟩,_⟩:=h;exact⟨_,h⟩
 |ar n e=>obtain⟨⟨bf,h,_⟩,_⟩:=h;exact⟨_,h⟩
 |op k=>rcases NJ h.1 with⟨_,_,_,h⟩|⟨_,h⟩|⟨_,_,h⟩|⟨_,h⟩<;>exact⟨_,h⟩
 |fn l=>rcases NJ h.1 with⟨_,_,_,h⟩|⟨_,h⟩|⟨_,_,h⟩|⟨_,h⟩<;>exact⟨_,h⟩
def azd{sS c?:TypeId}{k k':IntKind}{d:TypeDesc}(ab:P.underlying sS=some d)(aJ:P.underlying c?=some (.int k))(n:Int)(w:World):
  (convert sS c? (.int k' n)).run P w=.ok (.int k (k.wrap n)) w:=by
 unfold convert;simp[run_underlying ab,run_underlying aJ];cases d<;>simp[Conv.intToInt]
def Gv{w:World}{c:Array Value}{el:TypeId}{fz:Nat×Nat}(h:w.heap[b]?=some (.cells c el fz))(i:Nat):w.cell? ⟨b,i,none⟩=c[i]?:=by simp[World.cell?,h]
def q8(b o n:Nat):(⟨b,o,none⟩:Addr).add n=⟨b,o+n,none⟩:=by
 unfold Addr.add;split
 .simp
 rfl
def EU{w:World}{c:Array Value}{el:TypeId}{fz:Nat×Nat}(h:w.heap[b]?=some (.cells c el fz))(ak:o+n<=c.size):
  (loadCells ⟨b,o,none⟩ n).run P w=.ok (cM c o n).toArray w:=by
 have:=run_loadCells_list (P:=P) (w:=w) ⟨b,o,none⟩ (cM c o n) (λj v ap=>by
  rw[q8,Gv h];have bn:j<n:=by
   rcases oI j n with h|h
   .exact h
   have:=qQ ak;rw[uA J]at ap;cases ap
  rw[vP bn]at ap;exact ap)
 rwa [qQ ak]at this
def Ou{t:ag}{tid:TypeId}(h:(cY P t).1 tid)(w:World):(isAgg tid).run P w=.ok t.isAgg w:=by
 unfold isAgg;cases t with
 |bool=>simp[run_underlying h.1,ag.isAgg]
 |int k=>simp[run_underlying h.1,ag.isAgg]
 |str=>simp[run_underlying h.1,ag.isAgg]
 |sl e=>obtain⟨⟨bf,h,_⟩,_⟩:=h;simp[run_underlying h,ag.isAgg]
 |unit=>obtain⟨⟨bf,h,_⟩,_⟩:=h;simp[run_underlying h,ag.isAgg]
 |pair a b=>obtain⟨⟨bf,h,_⟩,_⟩:=h;simp[run_underlying h,ag.isAgg]
 |ar n e=>obtain⟨⟨bf,h,_⟩,_⟩:=h;simp[run_underlying h,ag.isAgg]
 |op k=>rcases NJ h.1 with⟨_,_,_,h⟩|⟨_,h⟩|⟨_,_,h⟩|⟨_,h⟩<;>simp[run_underlying h,ag.isAgg]
 |fn l=>rcases NJ h.1 with⟨_,_,_,h⟩|⟨_,h⟩|⟨_,_,h⟩|⟨_,h⟩<;>simp[run_underlying h,ag.isAgg]
def ahd{t:TypeId}{i:TypeInfo}(h:P.info? t=some i)(w:World):(typeInfo t).run P w=.ok i w:=by unfold typeInfo;simp[h]
def pc{t:ag}{tid:TypeId}(h:(cY P t).1 tid)(w:World):(Go.sizeOf tid).run P w=.ok t.size w:=by obtain⟨i,O,R,_⟩:=oa h;unfold Go.sizeOf;simp[ahd O,R]
def ail{t:ag}(h:t.isAgg=false):t.size=1:=by cases t<;>first|rfl|cases h
def azi{t:ag}{tid:TypeId}(h:(cY P t).1 tid){w:World}{c:Array Value}{el:TypeId}{fz:Nat×Nat}(aa:w.heap[b]?=some (.cells c el fz))(ak:o+t.size<=c.size):
  (loadVar tid ⟨b,o,none⟩).run P w=.ok (cB t (cM c o t.size)) w:=by
 unfold loadVar;cases bh:t.isAgg with
 |true=>simp[Ou h,bh,pc h,EU aa ak,cB]
 |false=>
  have O:=ail bh;have bn:o<c.size:=J;have ah:w.cell? ⟨b,o,none⟩=some c[o]:=by rw[Gv aa];exact xV bn
  have ab:cM c o 1=[c[o]]:=by
   have hl:=qQ (c:=c) (o:=o) (n:=1) J;have hg:=vP (c:=c) (o:=o) (n:=1) (i:=0) J;match att:cM c o 1,hl,hg with
   |[x],_,hg=>simp[bn]at hg;rw[hg]
  simp[Ou h,bh,load,Sem.run,ah,cB,O,ab]
def apF:∀(f:Nat) {t:ag} {l:List Field} {off d:Nat} {d9:ag},(cY P t).2 l off->t.ew (gE f)=some (d,d9) ->
  ∃fd,l[f]?=some fd/\fd.offset=off+d/\(cY P d9).1 fd.type:=by
 intro f;induction f with
 |zero=>
  intro t l off d d9 h aK;cases t<;>try(cases aK;done)
  obtain⟨fd,r,rfl,O,R,af⟩:=h;simp only[gE,ag.ew]at aK
  grind
 |succ f ih=>
  intro t l off d d9 h aK;cases t<;>try(cases aK;done)
  rename_i a b;obtain⟨fd,r,rfl,O,R,af⟩:=h;simp only[gE,ag.ew]at aK;cases aa:b.ew (gE f) with
  |none=>rw[aa]at aK;cases aK
  |some q=>
   grind
def abO{t:ag}{tid:TypeId}{d9:ag}(h:(cY P t).1 tid)(aK:t.ew (gE f)=some (d,d9)):
  ∃fs fd,P.underlying tid=some (.struct fs)/\fs[f]?=some fd/\fd.offset=d/\(cY P d9).1 fd.type:=by
 have hp:∃a b,t=.pair a b:=by cases f<;>cases t<;>simp only[gE]at aK<;>first|exact⟨_,_,rfl⟩|cases aK
 obtain⟨a,b,rfl⟩:=hp;obtain⟨⟨fs,aL,fd,r,O,R,af,au⟩,_⟩:=h;have:(cY P (.pair a b)).2 fs.toList 0:=⟨fd,r,O,R,af,by simpa using au⟩;obtain⟨aB0,g1,cD,cQ⟩:=apF f this aK
 grind
def Wr{t:ag}{tid:TypeId}{d9:ag}(h:(cY P t).1 tid)(aK:t.ew (gE f)=some (d,d9))(ab:0<d9.size)(b o:Nat)(w:World):
  (Instr.fieldAt tid (.pointer (some ⟨b,o,none⟩)) f).run P w=.ok (.pointer (some ⟨b,o+d,none⟩)) w:=by
 obtain⟨fs,fd,O,R,af,au⟩:=abO h aK;have bs:=pc au w;have eR:d9.size≠0:=J;simp[Instr.fieldAt,run_underlying O,R,Instr.sureAddr,fieldPlace,bs,eR,af,q8]
def sI:∀{p:List nY} {t t':ag} {o:Nat},t.ew p=some (o,t')->t.at p=some t':=by
 intro p;induction p with
 |nil=>intro t t' o h;cases t<;>simp only[ag.ew]at h<;>(obtain⟨_,rfl⟩:=h;rfl)
 |cons s p ih=>
  intro t t' o h;cases s with
  |fst=>
   cases t<;>try(cases h;done)
   exact ih h
  |snd=>
   cases t<;>try(cases h;done)
   simp only[ag.ew,lR]at h;obtain⟨q,aQ,aC⟩:=h;cases aC;exact ih aQ
  |ix i=>
   cases t<;>try(cases h;done)
   simp only[ag.ew]at h;split at h
   .simp at h
    obtain⟨q,aQ,aC⟩:=h;exact ih aQ
   cases h
def Eo:∀{p q:List nY} {t eA e?:ag} {l8 m7:Nat},t.ew p=some (l8,eA)->eA.ew q=some (m7,e?)->t.ew (p++q)=some (l8+m7,e?):=by
 intro p;induction p with
 |nil=>
  intro q t eA e? l8 m7 h g;have:t=eA/\l8=0:=by cases t<;>simp only[ag.ew,kJ,pr]at h<;>exact⟨h.2,h.1.symm⟩
  grind
 |cons s p ih=>
  intro q t eA e? l8 m7 h g;cases s with
  |fst=>
   cases t<;>try(cases h;done)
   exact ih h g
  |snd=>
   cases t<;>try(cases h;done)
   simp only[ag.ew,lR]at h;obtain⟨r,ai,aC⟩:=h;cases aC;simp only[mi,ag.ew,ih ai g,KP,j2]
  |ix i=>
   cases t<;>try(cases h;done)
   simp only[ag.ew]at h;split at h
   .rename_i ac
    simp at h;obtain⟨r,ai,aC⟩:=h;cases aC;simp only[mi,ag.ew,if_pos ac,ih ai g,KP,j2]
   cases h
section
variable {phx:cf} {H:cj} {B:Nat->aT}
def aAB(cs:List α)(n:Nat)(h:cs.length=n):(cs.drop 0).take n=cs:=by subst h;simp
def vE:∀{p:List nY} {t t':ag} {off:Nat},t.ew p=some (off,t')->off+t'.size<=t.size:=by
 intro p;induction p with
 |nil=>
  intro t t' off aK;have:t=t'/\off=0:=by cases t<;>simp only[ag.ew,kJ,pr]at aK<;>exact⟨aK.2,aK.1.symm⟩
  grind
 |cons s p ih=>
  intro t t' off aK;cases s with
  |fst=>
   cases t<;>try(cases aK;done)
   rename_i a b;have:=ih (t:=a) aK;simp only[ag.size];omega
  |snd=>
   cases t<;>try(cases aK;done)
   rename_i a b;simp only[ag.ew,lR]at aK;obtain⟨r,ai,aC⟩:=aK;cases aC;have:=ih (t:=b) (off:=r.1) (t':=r.2) ai;simp only[ag.size];omega
  |ix i=>
   cases t<;>try(cases aK;done)
   rename_i n e;simp only[ag.ew]at aK;split at aK
   .rename_i ac
    simp only[lR]at aK;obtain⟨r,ai,aC⟩:=aK;cases aC;have:=ih (t:=e) (off:=r.1) (t':=r.2) ai;have R:(i+1)*e.size<=n*e.size:=gM _ ac;rw[nh]at R;simp only[ag.size];omega
   cases aK
def R6(c1 c2:List α)(o n:Nat)(h:o+n<=c1.length):((c1++c2).drop o).take n=(c1.drop o).take n:=by grind
def R8(c1 c2:List α)(o n:Nat):((c1++c2).drop (c1.length+o)).take n=(c2.drop o).take n:=bp
def aor(cs:List α)(a m o n:Nat)(h:o+n<=m):((((cs.drop a).take m).drop o).take n)=(cs.drop (a+o)).take n:=by rw[List.drop_take,List.take_take,p8,F2 J]
def A8{l:List α}{d:α}(h:i<l.length):ic l i=some (ao l i d):=by
 simp only[ic,ao,lS]
 grind
def SW:∀{p:List nY} {pv u:av} {t t':ag} {off:Nat} {cs:List Value},fh phx H B pv t cs->t.ew p=some (off,t')->ja pv p=some u ->
  fh phx H B u t' ((cs.drop off).take t'.size):=by
 intro p;induction p with
 |nil=>
  intro pv u t t' off cs h aK hg;have:t=t'/\off=0:=by cases t<;>simp only[ag.ew,kJ,pr]at aK<;>exact⟨aK.2,aK.1.symm⟩
  obtain⟨rfl,rfl⟩:=this;have:u=pv:=by cases pv<;>simp only[ja,kJ]at hg<;>exact hg.symm
  subst this;rw[aAB cs _ h.length];exact h
 |cons s p ih=>
  intro pv u t t' off cs h aK hg;cases s with
  |fst=>
   cases t<;>try(cases aK;done)
   rename_i a b;have bW:=vE (t:=a) aK;cases pv<;>try(cases hg;done)
   .rename_i s x
    obtain⟨e4,hx⟩:=h;subst e4;obtain⟨c1,c2,rfl,O,R⟩:=aI.m9.1 hx;rw[R6 _ _ _ _ (by rw[O.length];exact bW)];exact ih (pv:=.sc a x.1) (t:=a) ⟨rfl,O⟩ aK hg
   rename_i sY zx;obtain⟨c1,c2,rfl,O,R⟩:=h;rw[R6 _ _ _ _ (by rw[O.length];exact bW)];exact ih O aK hg
  |snd=>
   cases t<;>try(cases aK;done)
   rename_i a b;simp only[ag.ew,lR]at aK;obtain⟨r,ai,aC⟩:=aK;cases aC;cases pv<;>try(cases hg;done)
   .rename_i s x
    obtain⟨e4,hx⟩:=h;subst e4;obtain⟨c1,c2,rfl,O,R⟩:=aI.m9.1 hx;rw[<- O.length,R8];exact ih (pv:=.sc b x.2) (t:=b) ⟨rfl,R⟩ ai hg
   rename_i sY zx;obtain⟨c1,c2,rfl,O,R⟩:=h;rw[<- O.length,R8];exact ih R ai hg
  |ix i=>
   cases t<;>try(cases aK;done)
   rename_i n e;simp only[ag.ew]at aK;split at aK
   .rename_i ac
    simp only[lR]at aK;obtain⟨r,ai,aC⟩:=aK;cases aC;have bW:=vE (t:=e) (off:=r.1) (t':=r.2) ai;cases pv<;>try(cases hg;done)
    rename_i s x;obtain⟨e4,hx⟩:=h;subst e4;obtain⟨O,R,af⟩:=aI.wg.1 hx;rw[<- aor cs (i*e.size) e.size r.1 r.2.size bW];refine ih (pv:=.sc e (ao (x:List e.aG) i e.zero)) (t:=e) ⟨rfl,?_⟩ ai hg;have bn:i<(x:List e.aG).length:=by have au:(x:List e.aG).length=n:=O;omega
    refine af i _ ?_;exact A8 bn
   cases aK
end
end Yp
namespace Yp
open Go
variable {P:Program}
section
variable {K:Kp} {w0 w:World} {phx:cf} {M:Nat->Prop} {B B':Nat->aT} {H:cj}
def Ci{pv:av}{t:ag}{cs:List Value}(h:fh phx H B pv t cs):ba phx H B (qZ t pv) (cB t cs):=by
 cases pv with
 |two u v =>have bh:=h.auo;refine⟨bh,cs,h,?_⟩;simp[cB,bh]
 |sc s x =>obtain⟨rfl,ah⟩:=h;exact⟨cs,ah,rfl⟩
 |agg t a=>exact h.elim
 |tup a=>exact h.elim
 |bad=>trivial
 |_=>
  obtain⟨bh,v,rfl,_,ai⟩:=h;have:cB t [v]=v:=by simp[cB,bh]
  rw[this];exact ai
def aql:∀{p:List nY} {s:ag} {x:s.aG} {u:av},ja (.sc s x) p=some u->∃cy xE,u=.sc cy xE:=by
 intro p;induction p with
 |nil=>intro s x u h;simp only[ja,kJ]at h;exact⟨s,x,h.symm⟩
 |cons q p ih=>
  intro s x u h;cases q<;>cases s<;>try(cases h;done)
  .exact ih h
  .exact ih h
  exact ih h
def aBG{p:List nY}{s t:ag}{x:s.aG}{u:av}(h:ja (.sc s x) p=some u):qZ t u=u:=by obtain⟨cy,xE,rfl⟩:=aql h;rfl
def Wn{e t:ag}{l:List e.aG}{p:List nY}{pv:av}{c:Array Value}(eI:fi H e l c o)(ac:i<l.length)
  (aK:e.ew p=some (off,t)) (hg:ja (.sc e (ao l i e.zero)) p=some pv) :
  o+i*e.size+off+t.size<=c.size/\ba phx H B pv (cB t (cM c (o+i*e.size+off) t.size)):=by
 have bW:=vE aK;have O:(i+1)*e.size<=l.length*e.size:=gM _ ac;rw[nh]at O;have R:=eI.1;refine⟨J,?_⟩;have af:=eI.2 i _ (A8 (d:=e.zero) ac);have au:=SW (phx:=phx) (H:=H) (B:=B) (pv:=.sc e (ao l i e.zero)) (t:=e) ⟨rfl,af⟩ aK hg;rw[EY _ _ _ _ _ bW]at au;have aY:=Ci au
 rwa [aBG hg]at aY
def aeD{t:ag}{tid:TypeId}(ht:(cY P t).1 tid){g:Nat->av}{a v:av}{ck:Value}(h:(yQ t a).a7 g B=some (v,B'))(hm:bM K w0 phx M B w)
  (ai:ba phx (view w M) B a ck):B'=B/\∃r,(Instr.loadAt tid ck).run P w=.ok r w/\ba phx (view w M) B v r:=by
 have key:∀{b o:Nat} {c:Array Value} {el:TypeId} {fz:Nat×Nat} {q:Nat},w.heap[b]?=some (.cells c el fz)->q+t.size<=c.size ->
   (Instr.loadAt tid (.pointer (some ⟨b,q,none⟩))).run P w=.ok (cB t (cM c q t.size)) w:=by
  intro b o c el fz q aa aQ;simp[Instr.loadAt,Instr.sureAddr,azi ht aa aQ]
 cases a with
 |ptr id p=>
  simp only[yQ,ax.a7]at h;have aa:=hm.blks id;have ab:bJ phx (view w M) B (.ptr id p) ck:=ai;simp only[bJ]at ab;generalize az:B id=bl at h aa ab;cases bl<;>try(cases h;done)
  rename_i rt u;obtain⟨b,o,n,off,t',O,R,rfl⟩:=ab;obtain⟨b',dz,c,el,fz,g1,cD,cQ,gj,ld,tA⟩:=aa;rw[O]at g1;cases g1;simp only[sI R]at h;cases m1:ja u p with
  |none=>rw[m1]at h;cases h
  |some pv=>
   simp only[m1]at h;cases g7:ag.is t' t with
   |false=>rw[g7]at h;cases h
   |true =>rw[g7]at h;obtain⟨rfl,rfl⟩:=h;have:=eX g7;subst this;have bW:=vE R;refine⟨rfl,_,key (o:=0) cD J,?_⟩;have au:=SW gj R m1;rw[EY _ _ _ _ _ bW]at au;exact Ci au
 |ipt e l i p=>
  have ab:bJ phx (view w M) B (.ipt e l i p) ck:=ai;obtain⟨ac,b,o,cap,off,t',O,R,rfl⟩:=ab;simp only[yQ,sI R]at h;cases m1:ja (.sc e (ao l i e.zero)) p with
  |none=>rw[m1]at h;cases h
  |some pv=>
   simp only[m1]at h;cases g7:ag.is t' t with
   |false=>rw[g7]at h;cases h
   |true=>
    rw[g7]at h;obtain⟨rfl,rfl⟩:=h;have:=eX g7;subst this;obtain⟨a',cap',bL,ca,cq,dv⟩:=aI.iM.1 O;simp at bL;rcases dv with dv|⟨b',dz,c,el,fz,dQ,gS,l_,y5⟩
    .subst dv;cases ac
    rw[<- bL.1]at dQ;cases dQ;obtain⟨eY,gT⟩:=Wn (phx:=phx) (B:=B) (H:=view w M) ⟨l_,y5⟩ ac R m1;exact⟨rfl,_,key (o:=0) (jZ.1 gS).2 eY,gT⟩
 |opt id i p=>
  simp only[yQ,ax.a7]at h;have aa:=hm.blks id;have ab:bJ phx (view w M) B (.opt id i p) ck:=ai;simp only[bJ]at ab;generalize az:B id=bl at h aa ab;cases bl<;>try(cases h;done)
  .rename_i e l
   obtain⟨ac,b,o,n,off,t',O,R,rfl⟩:=ab;rcases aa.2 with⟨g1,_⟩|⟨b',dz,c,el,fz,g1,cD,cQ,_⟩
   .rw[g1]at O;cases O
   rw[O]at g1;cases g1;simp only[sI R]at h;cases m1:ja (.sc e (ao l i e.zero)) p with
   |none=>rw[m1]at h;cases h
   |some pv=>
    simp only[m1]at h;cases g7:ag.is t' t with
    |false=>rw[g7]at h;cases h
    |true =>rw[g7]at h;obtain⟨rfl,rfl⟩:=h;have:=eX g7;subst this;obtain⟨eY,gT⟩:=Wn (phx:=phx) (B:=B) (H:=view w M) cQ ac R m1;exact⟨rfl,_,key (o:=0) cD eY,gT⟩
  rename_i e l;obtain⟨ac,b,o,n,off,t',O,R,rfl⟩:=ab;rcases aa.2 with⟨g1,_⟩|⟨b',dz,c,el,fz,g1,cD,cQ⟩
  .rw[g1]at O;cases O
  rw[O]at g1;cases g1;simp only[sI R]at h;cases m1:ja (.sc e (ao l i e.zero)) p with
  |none=>rw[m1]at h;cases h
  |some pv=>
   simp only[m1]at h;cases g7:ag.is t' t with
   |false=>rw[g7]at h;cases h
   |true =>rw[g7]at h;obtain⟨rfl,rfl⟩:=h;have:=eX g7;subst this;obtain⟨eY,gT⟩:=Wn (phx:=phx) (B:=B) (H:=view w M) cQ ac R m1;exact⟨rfl,_,key (o:=0) (jZ.1 cD).2 eY,gT⟩
 |_=>cases h
end
end Yp
namespace Yp
open Go
def il:=@List.take_of_length_le
def k7:=@List.length_set
def Cx:=@List.ext_getElem?
def FO:=@Nat.add_sub_cancel_left
def wb:=@Array.getElem?_modify
def CH:=@List.getElem?_set
def KQ:=@List.getElem?_drop
def Yg:=@Nat.lt_or_gt_of_ne
variable {P:Program}
structure KL(w w':World)(b:Nat)(ob:Obj):Prop where
 os:w'.os=w.os
 tape:w'.tape=w.tape
 output:w'.output=w.output
 size:w'.heap.size=w.heap.size
 jd:w'.heap[b]?=some ob
 other:∀j,j≠b->w'.heap[j]?=w.heap[j]?
def h8(cs:List Value)(o:Nat)(vs:List Value):List Value:=cs.take o++vs++cs.drop (o+vs.length)
def Fa{cs:List Value}{vs:List Value}(h:o+vs.length<=cs.length):(h8 cs o vs).length=cs.length:=by simp[h8];omega
def zn{cs:List Value}{vs:List Value}(h:o+vs.length<=cs.length)(i:Nat):
  (h8 cs o vs)[i]?=if i<o then cs[i]? else if i<o+vs.length then vs[i-o]? else cs[i]?:=by
 unfold h8
 grind
def Jq{b:Nat}{el:TypeId}{fz:Nat×Nat}{o:Nat}:∀(vs:List Value) (i:Nat) (c:Array Value) (w:World),w.heap[b]?=some (.cells c el fz)->iD c fz ->
  o+i+vs.length<=c.size->(∀v∈vs,v.oneCell'=true) ->
  ∃w',(storeCells ⟨b,o,none⟩ vs i).run P w=.ok () w'/\∃cO:Array Value,KL w w' b (.cells cO el fz)/\cO.toList=h8 c.toList (o+i) vs
 |[],i,c,w,aa,_,_,_=>⟨w,rfl,c,⟨rfl,rfl,rfl,rfl,aa,λ_ _=>rfl⟩,by simp[h8]⟩
 |v::vs,i,c,w,aa,hf,ak,O=>by
  have bn:o+i<c.size:=by simp at ak;omega
  have hcell:w.cell? ⟨b,o+i,none⟩=some c[o+i]:=by rw[Gv aa];exact xV bn
  have Hr:=hf.no;have yB:w.frozen? ⟨b,o+i,none⟩=false:=by have:=Hr (o+i) bn;simp only[World.frozen?,aa];simp;omega
  have l6:(w.setCell ⟨b,o+i,none⟩ v).heap[b]?=some (.cells (c.setIfInBounds (o+i) v) el fz):=by simp[World.setCell,wb,aa]
  have e4:(store ((⟨b,o,none⟩:Addr).add i) v).run P w=.ok () (w.setCell ⟨b,o+i,none⟩ v):=by rw[q8,run_store P w _ v _ (O v bp),hcell,yB];rfl
  obtain⟨w',R,cO,af,au⟩:=Jq (o:=o) vs (i+1) (c.setIfInBounds (o+i) v) (w.setCell ⟨b,o+i,none⟩ v) l6
   (hf.same bp) (by grind) (λu aL=>O u (by grind))
  refine⟨w',?_,cO,?_,?_⟩
  .unfold storeCells
   simp[e4,R]
  .refine⟨af.os,af.tape,af.output,af.size.trans bp,af.jd,λj ap=>(af.other j ap).trans ?_⟩
   simp[World.setCell,wb,FL ap]
  rw[au];have lF:o+i+(v::vs).length<=c.toList.length:=by simpa using ak
  apply Cx;intro j;rw[zn (by grind),zn lF]
  grind
def aiz{c1 c2:List Value}{vs:List Value}(h:o+vs.length<=c1.length):h8 (c1++c2) o vs=h8 c1 o vs++c2:=by
 unfold h8
 grind
def aiA{c1 c2:List Value}{vs:List Value}:h8 (c1++c2) (c1.length+o) vs=c1++h8 c2 o vs:=by unfold h8;rw[List.take_append,List.drop_append,il J];simp[j2,FO]
def aiy{cs vs:List Value}(h:vs.length=cs.length):h8 cs 0 vs=vs:=by simp[h8,h]
def JP{cs vs:List Value}(h:o+vs.length<=cs.length)(aJ:a+n<=o\/o+vs.length<=a):((h8 cs o vs).drop a).take n=(cs.drop a).take n:=by
 apply Cx;intro j;simp only[FM,KQ];split
 .rename_i ap
  rw[zn h];split
  .rfl
  split
  .omega
  rfl
 rfl
def O5{cs vs:List Value}(h:a+o+vs.length<=cs.length)(aJ:o+vs.length<=n):((h8 cs (a+o) vs).drop a).take n=h8 ((cs.drop a).take n) o vs:=by
 apply Cx;intro j;have hl:o+vs.length<=((cs.drop a).take n).length:=fK;rw[zn hl];simp only[FM,KQ];rw[zn h]
 grind
section
variable {phx:cf} {H:cj} {B:Nat->aT}
def UR{l:List α}{x:α}(h:i<l.length):ic (cn l i x) i=some x:=by simp[ic,cn,h]
def UQ{l:List α}{x:α}(h:j≠i):ic (cn l i x) j=ic l j:=by simp[ic,cn,CH,FL h]
def WD:∀{p:List nY} {pv u I9:av} {t t':ag} {off:Nat} {cs cu:List Value},fh phx H B pv t cs->t.ew p=some (off,t')->m' pv p u=some I9->fh phx H B u t' cu ->
  fh phx H B I9 t (h8 cs off cu):=by
 intro p;induction p with
 |nil=>
  intro pv u I9 t t' off cs cu h aK ab aL;have:t=t'/\off=0:=by cases t<;>simp only[ag.ew,kJ,pr]at aK<;>exact⟨aK.2,aK.1.symm⟩
  obtain⟨rfl,rfl⟩:=this;have:u=I9:=by cases pv<;>simp only[m',kJ]at ab<;>exact ab
  subst this;rw[aiy (by rw[aL.length,h.length])];exact aL
 |cons s p ih=>
  intro pv u I9 t t' off cs cu h aK ab aL;cases s with
  |fst=>
   cases t<;>try(cases aK;done)
   rename_i a b;have bW:=vE (t:=a) aK;cases pv<;>try(cases ab;done)
   .rename_i s x
    obtain⟨e4,hx⟩:=h;subst e4;obtain⟨c1,c2,rfl,O,R⟩:=aI.m9.1 hx;simp only[m',lR]at ab;obtain⟨q,aQ,rfl⟩:=ab;rw[aiz (by rw[aL.length,O.length];exact bW)];exact⟨_,_,rfl,ih (pv:=.sc a x.1) (t:=a) ⟨rfl,O⟩ aK aQ aL,rfl,R⟩
   rename_i sY zx;obtain⟨c1,c2,rfl,O,R⟩:=h;simp only[m',lR]at ab;obtain⟨q,aQ,rfl⟩:=ab;rw[aiz (by rw[aL.length,O.length];exact bW)];exact⟨_,_,rfl,ih O aK aQ aL,R⟩
  |snd=>
   cases t<;>try(cases aK;done)
   rename_i a b;simp only[ag.ew,lR]at aK;obtain⟨r,ai,aC⟩:=aK;cases aC;cases pv<;>try(cases ab;done)
   .rename_i s x
    obtain⟨e4,hx⟩:=h;subst e4;obtain⟨c1,c2,rfl,O,R⟩:=aI.m9.1 hx;simp only[m',lR]at ab;obtain⟨q,aQ,rfl⟩:=ab;rw[<- O.length,aiA];exact⟨_,_,rfl,⟨rfl,O⟩,ih (pv:=.sc b x.2) (t:=b) ⟨rfl,R⟩ ai aQ aL⟩
   rename_i sY zx;obtain⟨c1,c2,rfl,O,R⟩:=h;simp only[m',lR]at ab;obtain⟨q,aQ,rfl⟩:=ab;rw[<- O.length,aiA];exact⟨_,_,rfl,O,ih R ai aQ aL⟩
  |ix i=>
   cases t<;>try(cases aK;done)
   rename_i n e;simp only[ag.ew]at aK;split at aK
   .rename_i ac
    simp only[lR]at aK;obtain⟨r,ai,aC⟩:=aK;cases aC;have bW:=vE (t:=e) (off:=r.1) (t':=r.2) ai;cases pv<;>try(cases ab;done)
    rename_i s x;obtain⟨e4,hx⟩:=h;subst e4;obtain⟨O,R,af⟩:=aI.wg.1 hx;have O:(x:List e.aG).length=n:=O;simp only[m']at ab;generalize aQ:m' (.sc e (ao (x:List e.aG) i e.zero)) p u=q at ab;cases q with
    |none=>cases ab
    |some q=>
     simp only[lR]at ab;obtain⟨y,hy,rfl⟩:=ab;have bn:i<(x:List e.aG).length:=J;have adV:=aL.length;have l4:(i+1)*e.size<=n*e.size:=gM _ ac;rw[nh]at l4;have he:i*e.size+r.1+cu.length<=cs.length:=J;have au:=ih (pv:=.sc e (ao (x:List e.aG) i e.zero)) (t:=e) ⟨rfl,af i _ (A8 bn)⟩ ai aQ aL;have aY:=sV hy au;refine⟨rfl,(aI.CL (l:=cn (x:List e.aG) i y)).2 ⟨(k7 (as:=(x:List e.aG))).trans O,by rw[Fa he,R],λj z ap => ?_⟩⟩;by_cases dL:j=i
     .subst dL
      rw[UR bn]at ap;cases ap;rw[O5 he J];exact aY
     have ap:ic (x:List e.aG) j=some z:=(UQ (l:=(x:List e.aG)) dL).symm.trans ap;rw[JP he]
     .exact af j z ap
     rcases Yg dL with h|h
     .have:=gM e.size (show j+1<=i from h)
      rw[nh]at this;left;omega
     have:=gM e.size (show i+1<=j from h);rw[nh]at this;right;omega
   cases aK
end
end Yp
namespace Yp
open Go
variable {P:Program}
section
variable {K:Kp} {w0 w:World} {phx:cf} {M:Nat->Prop} {B B':Nat->aT} {g:Nat->av}
def h4.slice{id:Nat}{e:ag}{len:Nat}{v:Value}(h:h4 phx id e off len v):∃a c,v=.slice a len c:=by rcases h with⟨rfl,a,rfl⟩|⟨b,o,n,cap,_,rfl,_⟩<;>exact⟨_,_,rfl⟩
def L?{t:ag}{v:av}{ck:Value}{H:cj}(h:(tt t v).a7 g B=some ((),B'))(ai:ba phx H B v ck):B'=B/\∃cu,ck.cells.toList=cu/\fh phx H B (xs v) t cu:=by
 cases v<;>try(cases h;done)
 case kb b =>obtain⟨ac,az⟩:=ll h;have:=eX ac;subst this;simp only[ba]at ai;subst ai;exact⟨az,[.bool b],rfl,rfl,aI.oM.2 rfl⟩
 case sc s x =>obtain⟨ac,az⟩:=ll h;have:=eX ac;subst this;obtain⟨cs,O,rfl⟩:=ai;exact⟨az,cs,by rw[Iq O],rfl,O⟩
 case nil=>
  cases t<;>try(cases h;done)
  cases h;simp only[ba]at ai;subst ai;exact⟨rfl,_,rfl,rfl,_,rfl,rfl,rfl⟩
 case csl e l =>obtain⟨ac,az⟩:=ll h;have:=eX ac;subst this;obtain⟨a,O,R⟩:=ai;exact⟨az,[ck],by subst O;rfl,rfl,ck,rfl,by subst O;rfl,a,O,R⟩
 case agg s x =>obtain⟨ac,az⟩:=ll h;have:=eX ac;subst this;obtain⟨bh,cs,O,rfl⟩:=ai;exact⟨az,cs,rfl,O⟩
 case own id eT=>
  simp only[tt,ax.a7]at h;have fN:bJ phx H B (.own id eT) ck:=ai;have ab:=fN;simp only[bJ]at ab;generalize az:B id=bl at h ab;cases bl<;>try(cases h;done)
  all_goals
   obtain⟨ac,od⟩:=ll h;have:=eX ac;subst this;obtain⟨a,c,rfl⟩:=ab.1.slice;exact⟨od,_,rfl,rfl,_,rfl,rfl,fN⟩
 case osl id off n=>
  simp only[tt,ax.a7]at h;have fN:bJ phx H B (.osl id off n) ck:=ai;have ab:=fN;simp only[bJ]at ab;generalize az:B id=bl at h ab;cases bl<;>try(cases h;done)
  case box t' v=>
   cases t'<;>try(cases h;done)
   obtain⟨ac,od⟩:=ll h;have:=eX ac;subst this;obtain⟨a,c,rfl⟩:=ab.2.2.slice;exact⟨od,_,rfl,rfl,_,rfl,rfl,fN⟩
  all_goals
   obtain⟨ac,od⟩:=ll h;have:=eX ac;subst this;obtain⟨a,c,rfl⟩:=(by first|exact ab.2.slice|exact ab.2.1.slice:∃a c,ck=.slice a n c);exact⟨od,_,rfl,rfl,_,rfl,rfl,fN⟩
 case ptr id p=>
  simp only[tt,ax.a7]at h;have fN:bJ phx H B (.ptr id p) ck:=ai;have ab:=fN;simp only[bJ]at ab;generalize az:B id=bl at h ab;cases bl<;>try(cases h;done)
  obtain⟨ac,od⟩:=ll h;have:=eX ac;subst this;obtain⟨b,o,n,off,t',_,_,rfl⟩:=ab;exact⟨od,_,rfl,rfl,_,rfl,by simp[Value.oneCell'],fN⟩
 case mpp id=>
  simp only[tt,ax.a7]at h;have fN:bJ phx H B (.mpp id) ck:=ai;have ab:=fN;simp only[bJ]at ab;generalize az:B id=bl at h ab;cases bl<;>try(cases h;done)
  obtain⟨ac,od⟩:=ll h;have:=eX ac;subst this;obtain⟨b,_,rfl⟩:=ab;exact⟨od,_,rfl,rfl,_,rfl,by simp[Value.oneCell'],fN⟩
 case ifc i s x =>obtain⟨ac,az⟩:=ll h;have:=eX ac;subst this;have fN:bJ phx H B (.ifc i s x) ck:=ai;obtain⟨cs,O,rfl⟩:=ai;exact⟨az,_,rfl,rfl,_,rfl,by simp[Value.oneCell'],fN⟩
 case clo f dT c_=>
  obtain⟨ac,az⟩:=ll h;have ht:t.isAgg=false:=by
   unfold aej at ac;split at ac
   .rfl
   .rfl
   cases ac
  have fN:bJ phx H B (.clo f dT c_) ck:=ai;obtain⟨vs,O,rfl⟩:=ai;exact⟨az,_,rfl,by simp only[xs];exact⟨ht,_,rfl,by simp[Value.oneCell'],fN⟩⟩
def ahc{t:ag}{tid:TypeId}(h:(cY P t).1 tid){c:Array Value}{el:TypeId}{fz:Nat×Nat}(aa:w.heap[b]?=some (.cells c el fz))(hf:iD c fz)
  {v:Value} {cu:List Value} (aB:v.cells.toList=cu) (hl:cu.length=t.size) (O:∀v∈cu,v.oneCell'=true) (ak:o+t.size<=c.size) :
  ∃w',(storeVar tid ⟨b,o,none⟩ v).run P w=.ok () w'/\∃cO:Array Value,KL w w' b (.cells cO el fz)/\cO.toList=h8 c.toList o cu:=by
 obtain⟨w',R,cO,af,au⟩:=Jq (P:=P) (b:=b) (el:=el) (fz:=fz) (o:=o) cu 0 c w aa hf J O;refine⟨w',?_,cO,af,by simpa using au⟩;unfold storeVar;have cZ:v.cells.size=t.size:=by rw[<- hl,<- aB];simp
 simp[pc h,cZ,aB,R]
theorem ub(c:Array Value)(o n:Nat):cM c o n=(c.toList.drop o).take n:=rfl
def fi.put{H:cj}{e:ag}{l:List e.aG}{c cO:Array Value}{y:e.aG}{cu:List Value}(h:fi H e l c o)(ac:i<l.length)(TV:off+cu.length<=e.size)
  (ah:cO.toList=h8 c.toList (o+i*e.size+off) cu) (hy:aI H e y (h8 (cM c (o+i*e.size) e.size) off cu)):cO.size=c.size/\fi H e (cn l i y) cO o:=by
 have O:=h.1;have l4:(i+1)*e.size<=l.length*e.size:=gM _ ac;rw[nh]at l4;have he:o+i*e.size+off+cu.length<=c.toList.length:=fK;have cZ:cO.size=c.size:=by have:=congrArg List.length ah;rw[Fa he]at this;omega
 refine⟨cZ,by simp only[cn,k7];omega,λj z ap => ?_⟩;by_cases dL:j=i
 .subst dL
  rw[UR ac]at ap;cases ap;rw[ub,ah,O5 J TV];exact hy
 rw[UQ dL]at ap;rw[ub,ah,JP he]
 .exact h.2 j z ap
 rcases Yg dL with h|h
 .have:=gM e.size (show j+1<=i from h)
  grind
 have:=gM e.size (show i+1<=j from h)
 grind
def aAo{t:ag}{tid:TypeId}(ht:(cY P t).1 tid){a v r:av}{ck zz:Value}(h:(WW t a v).a7 g B=some (r,B'))(hm:bM K w0 phx M B w)
  (eb:ba phx (view w M) B a ck) (MN:ba phx (view w M) B v zz) :
  r=.undef/\∃w' aD,(Instr.storeAt tid ck zz).run P w=.ok () w'/\bM K w0 phx aD B' w'/\ct phx M B w phx aD B' w':=by
 cases a with
 |ptr id p=>
  simp only[WW,ax.a7]at h;have aa:=hm.blks id;have ab:bJ phx (view w M) B (.ptr id p) ck:=eb;simp only[bJ]at ab;generalize az:B id=bl at h aa ab;cases bl<;>try(cases h;done)
  rename_i rt u;obtain⟨b,o,n,off,t',O,R,rfl⟩:=ab;obtain⟨b',dz,c,el,fz,g1,cD,cQ,gj,ld,tA⟩:=aa;rw[O]at g1;cases g1;simp only[sI R]at h;generalize m1:m' u p (xs v)=q at h;cases q with
  |none=>cases h
  |some pv=>
   simp only at h;cases g7:ag.is t' t with
   |false=>rw[g7]at h;cases h
   |true=>
    rw[g7]at h;have:=eX g7;subst this;obtain⟨_,c7,hf,bE⟩:=ax.cK h;obtain⟨rfl,cu,nC,hT⟩:=L? hf MN;cases bE;have bW:=vE R;obtain⟨w',bw,cO,hp,m0⟩:=ahc (P:=P) (w:=w) ht (o:=o+off) cD ld nC hT.length hT.one J;have Tm:=hT.length;have cZ:cO.size=c.size:=by have:=congrArg List.length m0;rw[Fa fK]at this;omega
    obtain⟨iI,j?⟩:=hm.put (id:=id) (x:=(b,o,c.size)) (w':=w') (by rw[az];rfl) O tA hp.os hp.tape hp.output hp.size hp.other (.box rt pv) (by rw[az];rfl) λaC=>by refine⟨b,o,cO,el,fz,by rw[O,cZ],hp.jd,J,?_,ld.same J,tA⟩;have tD:=aC.bv (WD gj R m1 hT);rw[ub,m0,O5 fK J];exact tD
    exact⟨rfl,w',M,by simp[Instr.storeAt,Instr.sureAddr,bw],iI,j?⟩
 |opt id i p=>
  obtain⟨x,c7,hx,h⟩:=ax.cK h;obtain⟨cu,rfl,fV,wL,yx,_,_,nC⟩:=B1 hx hm MN;have nC:=nC rfl;simp only[ax.a7]at h;have aa:=wL.blks id;have ab:bJ phx (view w fV) c7 (.opt id i p) ck:=yx.p eb;simp only[bJ]at ab;generalize az:c7 id=bl at h aa ab;cases bl<;>try(cases h;done)
  rename_i e l;obtain⟨ac,b,o,n,off,t',O,R,rfl⟩:=ab;rcases aa with⟨dM,⟨g1,_⟩|⟨b',dz,c,el,fz,g1,cD,cQ,gj,ld⟩⟩
  .rw[g1]at O;cases O
  rw[O]at g1;cases g1;simp only[sI R]at h;cases g7:ag.is t' t with
  |false=>rw[g7]at h;cases h
  |true=>
   rw[g7]at h;have:=eX g7;subst this;generalize m1:m' (.sc e (ao l i e.zero)) p (.sc t' x)=q at h;cases q with
   |none=>cases h
   |some pv=>
    simp only at h;generalize hy:iN e pv=y at h;cases y with
    |none=>cases h
    |some y=>
     cases h;have bW:=vE R;have e2:=nC.length;have g31:=cQ.1;have l4:(i+1)*e.size<=l.length*e.size:=gM _ ac;rw[nh]at l4;obtain⟨w',bw,cO,hp,m0⟩:=ahc (P:=P) (w:=w) ht (o:=o+i*e.size+off) (v:=cB t' cu) cD gj (by rw[Iq nC]) e2 nC.one J;have ve:=cQ.2 i _ (A8 (d:=e.zero) ac);have hT:=WD (phx:=phx) (H:=view w fV) (B:=c7) (pv:=.sc e (ao l i e.zero)) (t:=e) ⟨rfl,ve⟩ R m1 (cu:=cu) ⟨rfl,nC⟩;have atS:=sV hy hT;obtain⟨cZ,eI⟩:=cQ.put ac J m0 atS;obtain⟨iI,j?⟩:=wL.put (id:=id) (x:=(b,o,c.size)) (w':=w') (by rw[az];rfl) O ld hp.os hp.tape hp.output hp.size hp.other (.ob e (cn l i y)) (by rw[az];exact⟨rfl,by simp[cn]⟩) λaC=>by exact⟨dM,.inr ⟨b,o,cO,el,fz,by rw[O,cZ],hp.jd,eI.mono aC.vw,gj.same cZ,ld⟩⟩
     exact⟨rfl,w',fV,by simp[Instr.storeAt,Instr.sureAddr,bw],iI,yx.trans j?⟩
 |_=>cases h
end
end Yp
namespace Yp
open Go
def ps:=@Option.some.inj
def uy:=@Nat.add_zero
variable {P:Program}
section
variable {K:Kp} {w0 w:World} {phx:cf} {M:Nat->Prop} {B B':Nat->aT} {g:Nat->av}
def QP:∀{f:Nat} {t d9:ag},t.at (gE f)=some d9->∃d,t.ew (gE f)=some (d,d9):=by
 intro f;induction f with
 |zero=>
  intro t d9 h;cases t<;>try(cases h;done)
  rename_i a b;have:a=d9:=by cases a<;>exact ps h
  subst this;exact⟨0,by cases a<;>rfl⟩
 |succ f ih=>
  intro t d9 h;cases t<;>try(cases h;done)
  rename_i a b;obtain⟨d,aJ⟩:=ih (t:=b) h;exact⟨a.size+d,by simp only[gE,ag.ew,aJ,KP]⟩
def Sv{t' bS:Option ag}(h:Df t' bS f=true):∃s d d9,t'=some s/\bS=some s/\s.ew (gE f)=some (d,d9)/\0<d9.size:=by
 unfold Df at h;split at h
 .rename_i a b
  simp at h;obtain⟨O,R⟩:=h;have:=eX O;subst this;split at R
  .rename_i d9 asm
   obtain⟨d,aJ⟩:=QP asm;exact⟨a,d,d9,rfl,rfl,aJ,by simpa using R⟩
  cases R
 cases h
def gW{c:Bool}{x:ax α}{r:α×(Nat->aT)}(h:(bif c then x else .fail:ax α).a7 g B=some r):c=true/\x.a7 g B=some r:=by
 cases c with
 |true=>exact⟨rfl,h⟩
 |false=>cases h
def i_{c:Bool}{x:ax α}{r:α×(Nat->aT)}(h:(ax.chk c x).a7 g B=some r):c=true/\x.a7 g B=some r:=by
 simp only[ax.a7]at h
 grind
def apq{bS:Option ag}{tid:TypeId}(ht:∀t,bS=some t->(cY P t).1 tid){a r:av}{ck:Value}(h:(L6 bS f a).a7 g B=some (r,B'))
  (eb:ba phx (view w M) B a ck):B'=B/\∃v,(Instr.fieldAt tid ck f).run P w=.ok v w/\ba phx (view w M) B r v:=by
 cases a with
 |ptr id p=>
  simp only[L6,ax.a7]at h;have ab:bJ phx (view w M) B (.ptr id p) ck:=eb;simp only[bJ]at ab;generalize az:B id=bl at h ab;cases bl<;>try(cases h;done)
  obtain⟨b,o,n,off,t',O,R,rfl⟩:=ab;replace h:=gW h;obtain⟨ah,h⟩:=h;cases h;obtain⟨s,d,d9,e1,aU,d8,hc⟩:=Sv ah;rw[sI R]at e1;cases e1;refine⟨rfl,_,Wr (ht _ aU) d8 hc b (o+off) w,?_⟩;simp only[ba,d6,bJ,az];exact⟨b,o,n,off+d,d9,O,Eo R d8,by rw[j2]⟩
 |ipt e l i p =>obtain⟨ac,b,o,cap,off,t',O,R,rfl⟩:=(eb:bJ phx (view w M) B (.ipt e l i p) ck);replace h:=gW h;obtain⟨ah,h⟩:=h;cases h;obtain⟨s,d,d9,e1,aU,d8,hc⟩:=Sv ah;rw[sI R]at e1;cases e1;exact⟨rfl,_,Wr (ht _ aU) d8 hc b _ w,ac,b,o,cap,off+d,d9,O,Eo R d8,by rw[j2]⟩
 |opt id i p=>
  simp only[L6,ax.a7]at h;have ab:bJ phx (view w M) B (.opt id i p) ck:=eb;simp only[bJ]at ab;generalize az:B id=bl at h ab;cases bl<;>try(cases h;done)
  all_goals
   obtain⟨ac,b,o,n,off,t',O,R,rfl⟩:=ab;replace h:=gW h;obtain⟨ah,h⟩:=h;cases h;obtain⟨s,d,d9,e1,aU,d8,hc⟩:=Sv ah;rw[sI R]at e1;cases e1;refine⟨rfl,_,Wr (ht _ aU) d8 hc b _ w,?_⟩;simp only[ba,d6,bJ,az];exact⟨ac,b,o,n,off+d,d9,O,Eo R d8,by rw[j2]⟩
 |_=>cases h
def QK{t':Option ag}{fW:ag}{i:Int}{v r:av}(h:(CM t' fW i v).a7 g B=some (r,B')):B'=B/\r=v/\∃n e,fW=.ar n e/\t'=some (.ar n e)/\0<e.size/\0<=i/\i<n:=by
 unfold CM at h;split at h
 .rename_i t' n e
  replace h:=gW h;obtain⟨ah,h⟩:=h;replace h:=i_ h;obtain⟨ac,h⟩:=h;cases h;simp at ah;have:=eX ah.1;subst this;obtain⟨O,R⟩:=AR.1 ac;exact⟨rfl,rfl,n,e,rfl,rfl,ah.2,O,R⟩
 cases h
def Vp{e:ag}(h:i<n):(ag.ar n e).ew [.ix i]=some (i*e.size,e):=by simp only[ag.ew,if_pos h];rfl
def Ws{e:ag}{tid:TypeId}(ht:(cY P (.ar n e)).1 tid){k:IntKind}{i:Int}(aq:0<=i)(O:i<n)(b o:Nat)(w:World):
  (Instr.indexAt tid (.pointer (some ⟨b,o,none⟩)) (.int k i)).run P w=.ok (.pointer (some ⟨b,o+i.toNat*e.size,none⟩)) w:=by
 obtain⟨⟨bf,aL,aC⟩,_⟩:=ht;have bs:=pc aC w;simp[Instr.indexAt,asIntOf,run_underlying aL,Instr.sureAddr,aq,O,bs,q8]
def Jo{e:ag}{tid:TypeId}(ht:(cY P (.sl e)).1 tid){k:IntKind}{i:Int}{cap:Nat}(aq:0<=i)(O:i<n)(b o:Nat)(w:World):
  (Instr.indexAt tid (.slice (some ⟨b,o,none⟩) n cap) (.int k i)).run P w=.ok (.pointer (some ⟨b,o+i.toNat*e.size,none⟩)) w:=by
 obtain⟨⟨bf,aL,aC⟩,_⟩:=ht;have bs:=pc aC w;simp[Instr.indexAt,asIntOf,run_underlying aL,aq,O,bs,q8]
def ND(e:ag):e.ew []=some (0,e):=by cases e<;>rfl
def azX{H:cj}{e:ag}{l:List e.aG}{v:Value}(h:aI H (.sl e) l [v])(ak:l≠[]):∃b o cap,v=.slice (some ⟨b,o,none⟩) l.length cap:=by
 obtain⟨a,cap,O,_,_,R⟩:=aI.iM.1 h
 grind
def aen{H:cj}{e:ag}{l:List e.aG}{v:Value}(h:aI H (.sl e) l [v]){tid:TypeId}(ht:(cY P (.sl e)).1 tid){k:IntKind}{i:Int}(ac:aN i (len l)=true)(w:World):
  ∃r,(Instr.indexAt tid v (.int k i)).run P w=.ok r w/\ba phx H B (.ipt e l (ae i) []) r:=by
 obtain⟨aq,O⟩:=AR.1 ac;have O:i<(l.length:Int):=O;have bn:i.toNat<l.length:=J;obtain⟨b,o,cap,rfl⟩:=azX h (λe=>by subst e;simp at bn);exact⟨_,Jo ht aq O b o w,bn,b,o,cap,0,e,h,ND e,rfl⟩
def agc{id:Nat}{e:ag}{v:Value}(h:h4 phx id e off n v)(ak:0<n):∃b o m cap,phx id=some (b,o,m)/\v=.slice (some ⟨b,o+off*e.size,none⟩) n cap:=by
 rcases h with⟨h,_⟩|⟨b,o,m,cap,O,R,_⟩
 .omega
 grind
def afK:∀{n i:Nat},i<n->(nc n).ew (gE i)=some (i,.op 3)
 |n+1,0,_=>rfl
 |n+1,i+1,h=>by
  have:=afK (n:=n) (i:=i) J;simp only[nc,gE,ag.ew,this,KP,ag.size]
  grind
def auf{fW:ag}{tid:TypeId}(ht:(cY P fW).1 tid){a r:av}{ck:Value}{k:IntKind}{i:Int}(h:(yJ fW a i).a7 g B=some (r,B'))
  (eb:ba phx (view w M) B a ck):B'=B/\∃v,(Instr.indexAt tid ck (.int k i)).run P w=.ok v w/\ba phx (view w M) B r v:=by
 cases a with
 |sc t l=>
  cases fW<;>try(cases h;done)
  rename_i e;simp only[yJ]at h;replace h:=ax.cK h;obtain⟨y,c7,O,h⟩:=h;obtain⟨ah,rfl⟩:=dP O;obtain⟨bB,rfl⟩:=wi ah;subst bB;replace h:=i_ h;obtain⟨ac,h⟩:=h;cases h;obtain⟨cs,cC,rfl⟩:=eb;obtain⟨a,cap,rfl,_⟩:=aI.zl.1 cC;exact⟨rfl,aen cC ht ac w⟩
 |csl e l =>replace h:=gW h;obtain⟨ah,h⟩:=h;have:=eX ah;subst this;replace h:=i_ h;obtain⟨ac,h⟩:=h;cases h;obtain⟨a,_,cC⟩:=eb;exact⟨rfl,aen cC ht ac w⟩
 |own id eT=>
  simp only[yJ,ax.a7]at h;have ab:bJ phx (view w M) B (.own id eT) ck:=eb;simp only[bJ]at ab;generalize az:B id=bl at h ab;cases bl<;>try(cases h;done)
  all_goals
   replace h:=gW h;obtain⟨ah,h⟩:=h;have:=eX ah;subst this;replace h:=i_ h;obtain⟨ac,h⟩:=h;cases h;obtain⟨aq,O⟩:=AR.1 ac;rename_i e l;have O:i<(l.length:Int):=O;obtain⟨b,o,m,cap,g1,rfl⟩:=agc ab.1 J;refine⟨rfl,_,Jo ht aq O b _ w,?_⟩;simp only[ba,d6,bJ,az];exact⟨by unfold ae;omega,b,o,m,0,e,g1,ND e,by simp[ae]⟩
 |osl id off n=>
  simp only[yJ,ax.a7]at h;have ab:bJ phx (view w M) B (.osl id off n) ck:=eb;simp only[bJ]at ab;generalize az:B id=bl at h ab;cases bl<;>try(cases h;done)
  all_goals
   replace h:=gW h;obtain⟨ah,h⟩:=h;have:=eX ah;subst this;replace h:=i_ h;obtain⟨ac,h⟩:=h;cases h;obtain⟨aq,O⟩:=AR.1 ac;rename_i e l;have O:i<(n:Int):=O;obtain⟨b,o,m,cap,g1,rfl⟩:=agc (by first|exact ab.2|exact ab.2.1:h4 phx id e off n ck) J;refine⟨rfl,_,Jo ht aq O b _ w,?_⟩;simp only[ba,d6,bJ,az];exact⟨by unfold bI ae;omega,b,o,m,0,e,g1,ND e,by simp only[ae,bI,nh,uy,j2]⟩
 |ptr id p=>
  simp only[yJ,ax.a7]at h;have ab:bJ phx (view w M) B (.ptr id p) ck:=eb;simp only[bJ]at ab;generalize az:B id=bl at h ab;cases bl<;>try(cases h;done)
  obtain⟨b,o,n,off,t',O,R,rfl⟩:=ab;obtain⟨od,rfl,m,e,rfl,aU,d8,hc,pC⟩:=QK h;rw[sI R]at aU;cases aU;refine⟨od,_,Ws ht hc pC b (o+off) w,?_⟩;simp only[ba,d6,bJ,az];exact⟨b,o,n,off+(ae i)*e.size,e,O,Eo R (Vp (by unfold ae;omega)),by rw[j2];rfl⟩
 |ipt e l j p =>obtain⟨ac,b,o,cap,off,t',O,R,rfl⟩:=(eb:bJ phx (view w M) B (.ipt e l j p) ck);obtain⟨od,rfl,m,bB,rfl,aU,d8,hc,pC⟩:=QK h;rw[sI R]at aU;cases aU;exact⟨od,_,Ws ht hc pC b _ w,ac,b,o,cap,off+(ae i)*bB.size,bB,O,Eo R (Vp (by unfold ae;omega)),by rw[j2 (o+j*e.size)];rfl⟩
 |opt id j p=>
  simp only[yJ,ax.a7]at h;have ab:bJ phx (view w M) B (.opt id j p) ck:=eb;simp only[bJ]at ab;generalize az:B id=bl at h ab;cases bl<;>try(cases h;done)
  all_goals
   rename_i e l;obtain⟨ac,b,o,n,off,t',O,R,rfl⟩:=ab;obtain⟨od,rfl,m,bB,rfl,aU,d8,hc,pC⟩:=QK h;rw[sI R]at aU;cases aU;refine⟨od,_,Ws ht hc pC b _ w,?_⟩;simp only[ba,d6,bJ,az];exact⟨ac,b,o,n,off+(ae i)*bB.size,bB,O,Eo R (Vp (by unfold ae;omega)),by rw[j2 (o+j*e.size)];rfl⟩
 |psl id n=>
  simp only[yJ,ax.a7]at h;have ab:bJ phx (view w M) B (.psl id n) ck:=eb;simp only[bJ]at ab;generalize az:B id=bl at h ab;cases bl<;>try(cases h;done)
  replace h:=gW h;obtain⟨ah,h⟩:=h;have:=eX ah;subst this;replace h:=i_ h;obtain⟨ac,h⟩:=h;cases h;obtain⟨aq,O⟩:=AR.1 ac;have O:i<(n:Int):=O;obtain⟨rfl,b,o,m,cap,g1,rfl⟩:=ab;refine⟨rfl,_,Jo ht aq O b _ w,?_⟩;simp only[ba,d6,bJ,az];exact⟨b,o,m,ae i,.op 3,g1,afK (by unfold ae;omega),by simp[ae,ag.size]⟩
 |_=>cases h
end
end Yp
namespace Yp
open Go
def iR:=@List.length_eq_zero_iff
def lT:=@Nat.zero_add
def Cy:=@Array.ext'
def YE:=@Int.max_eq_left
variable {P:Program}
section
variable {K:Kp} {w0 w:World} {phx:cf} {M:Nat->Prop} {B B':Nat->aT} {g:Nat->av}
def ba.vx(H:cj)(n:Nat):ba phx H B (Yp.int (n:Int)) (goInt n):=ba.tU phx H B .i64 (n:Int)
def au8{fW:ag}{tid:TypeId}(ht:(cY P fW).1 tid){a r:av}{ck:Value}(h:(Ij fW a).a7 g B=some (r,B'))(eb:ba phx (view w M) B a ck)
  {d':Array TypeId} (aq:d'[0]?=some tid) (ty:TypeId):B'=B/\∃v,(Builtin.len_ d' ty #[ck]).run P w=.ok v w/\ba phx (view w M) B r v:=by
 have gP:∀{n c:Nat} {ad:Option Addr} {e:ag},(cY P (.sl e)).1 tid->(Builtin.len_ d' ty #[.slice ad n c]).run P w=.ok (goInt n) w:=by intro n c ad e hf;obtain⟨⟨bf,aL,_⟩,_⟩:=hf;simp[Builtin.len_,aq,run_underlying aL]
 cases fW<;>try(cases h;done)
 case str=>
  cases a<;>try(cases h;done)
  rename_i t x;cases t<;>try(cases h;done)
  cases h;rw[eb.str];exact⟨rfl,_,by simp[Builtin.len_,aq,run_underlying ht.1];rfl,ba.vx _ (x:List UInt8).length⟩
 case ar n e =>cases h;obtain⟨⟨bf,aL,_⟩,_⟩:=ht;exact⟨rfl,goInt n,by simp[Builtin.len_,aq,run_underlying aL],ba.vx _ n⟩
 case sl e=>
  cases a<;>try(cases h;done)
  case sc t x=>
   cases t<;>try(cases h;done)
   cases h;obtain⟨cs,cC,rfl⟩:=eb;obtain⟨ad,cap,rfl,_⟩:=aI.zl.1 cC;exact⟨rfl,_,gP ht,ba.vx _ _⟩
  case csl bB l =>cases h;obtain⟨ad,rfl,_⟩:=eb;exact⟨rfl,_,gP ht,ba.vx _ _⟩
  case nil =>cases h;simp only[ba]at eb;subst eb;exact⟨rfl,_,gP ht,ba.vx _ 0⟩
  case own id eT=>
   simp only[Ij,ax.a7]at h;have ab:bJ phx (view w M) B (.own id eT) ck:=eb;simp only[bJ]at ab;generalize az:B id=bl at h ab;cases bl<;>try(cases h;done)
   all_goals
    cases h;obtain⟨ad,c,rfl⟩:=ab.1.slice;exact⟨rfl,_,gP ht,ba.vx _ _⟩
  case psl id n=>
   simp only[Ij,ax.a7]at h;have ab:bJ phx (view w M) B (.psl id n) ck:=eb;simp only[bJ]at ab;generalize az:B id=bl at h ab;cases bl<;>try(cases h;done)
   cases h;obtain⟨_,b,o,m,cap,_,rfl⟩:=ab;exact⟨rfl,_,gP ht,ba.vx _ _⟩
  case osl id off n=>
   simp only[Ij,ax.a7]at h;have ab:bJ phx (view w M) B (.osl id off n) ck:=eb;simp only[bJ]at ab;generalize az:B id=bl at h ab;cases bl<;>try(cases h;done)
   all_goals
    cases h;obtain⟨ad,c,rfl⟩:=(by first|exact ab.2.slice|exact ab.2.1.slice:∃a c,ck=.slice a n c);exact⟨rfl,_,gP ht,ba.vx _ _⟩
def EV{t:ag}{tid:TypeId}(h:(cY P t).1 tid){cs:Array Value}(ak:off+t.size<=cs.size)(w:World):(part tid cs off).run P w=.ok (cB t (cM cs off t.size)) w:=by
 unfold part;cases bh:t.isAgg with
 |true=>
  have aC:cs.extract off (off+t.size)=(cM cs off t.size).toArray:=by apply Cy;simp[cM]
  simp[Ou h,bh,pc h,cB,aC]
 |false=>
  have O:=ail bh;have bn:off<cs.size:=J;have ab:cM cs off 1=[cs[off]]:=by
   have hl:=qQ (c:=cs) (o:=off) (n:=1) J;have hg:=vP (c:=cs) (o:=off) (n:=1) (i:=0) J;match att:cM cs off 1,hl,hg with
   |[x],_,hg=>simp[bn]at hg;rw[hg]
  simp[Ou h,bh,xV bn,cB,O,ab]
def apv{E:dk}(hT:nP P E.bv){tid:TypeId}{a r:av}{ck:Value}(h:(Sw E tid f a).a7 g B=some (r,B'))(eb:ba phx (view w M) B a ck):
  B'=B/\∃v,(Instr.field tid ck f).run P w=.ok v w/\ba phx (view w M) B r v:=by
 unfold Sw at h;cases ht:E.bv tid with
 |none=>rw[ht]at h;cases h
 |some t=>
  rw[ht]at h;have hf:=hT _ _ ht;obtain⟨_,c7,O,bE⟩:=ax.cK h;obtain⟨rfl,cu,nC,tD⟩:=L? O eb;cases yv:t.at (gE f) with
  |none=>rw[yv]at bE;cases bE
  |some d9=>
   cases hg:ja (xs a) (gE f) with
   |none=>rw[yv,hg]at bE;cases bE
   |some v=>
    rw[yv,hg]at bE;cases bE;obtain⟨d,aK⟩:=QP yv;obtain⟨fs,fd,g1,cD,cQ,gj⟩:=abO hf aK;have bW:=vE aK;have hl:=tD.length;have jr:t.isAgg=true:=by cases f<;>cases t<;>first|rfl|cases aK
    have arp:ck=.agg cu.toArray:=by
     cases a<;>try(cases O;done)
     case kb b=>obtain⟨ac,_⟩:=ll O;have:=eX ac;subst this;cases jr
     case nil=>cases t<;>first|cases jr;done|cases O
     case csl e l=>obtain⟨ac,_⟩:=ll O;have:=eX ac;subst this;cases jr
     case own id eT=>
      simp only[tt,ax.a7]at O;generalize B' id=bl at O;cases bl<;>try(cases O;done)
      all_goals
       obtain⟨ac,_⟩:=ll O;have:=eX ac;subst this;cases jr
     case osl id off n=>
      simp only[tt,ax.a7]at O;generalize B' id=bl at O;cases bl<;>try(cases O;done)
      case box t' _=>
       cases t'<;>try(cases O;done)
       obtain⟨ac,_⟩:=ll O;have:=eX ac;subst this;cases jr
      all_goals
       obtain⟨ac,_⟩:=ll O;have:=eX ac;subst this;cases jr
     case sc s x =>obtain⟨ac,_⟩:=ll O;have:=eX ac;subst this;obtain⟨cs,bL,rfl⟩:=eb;rw[Iq bL]at nC;simp only[cB,jr,if_true];rw[<- nC]
     case agg s x =>obtain⟨_,cs,bL,rfl⟩:=eb;simp only[Value.cells]at nC;rw[<- nC]
     case ptr id p=>cases f<;>cases hg
     case mpp id=>cases f<;>cases hg
     case ifc i s x=>cases f<;>cases hg
     case clo wn dT c_=>cases f<;>cases hg
    subst arp;refine⟨rfl,cB d9 (cM cu.toArray d d9.size),?_,Ci (SW tD aK hg)⟩;have hp:=EV (P:=P) gj (cs:=cu.toArray) (off:=d) fK w;simp[Instr.field,run_underlying g1,cD,asAgg,cQ,hp]
def aug{e:ag}{tid:TypeId}(ht:(cY P (.ar n e)).1 tid){a r:av}{ck:Value}{i:Int}(h:(H2 (.ar n e) a i).a7 g B=some (r,B'))(eb:ba phx (view w M) B a ck)(k:IntKind):
  B'=B/\∃v,(Instr.index tid ck (.int k i)).run P w=.ok v w/\ba phx (view w M) B r v:=by
 have bE:((ax.opt (iN (.ar n e) a)).bind λl=>.chk (aN i (bi n)) (.ret (.sc e (ao (l:List e.aG) (ae i) e.zero)))).a7 g B=some (r,B'):=by
  unfold H2 at h;split at h
  .cases h
  exact h
 obtain⟨l,c7,O,R⟩:=ax.cK bE;obtain⟨aJ,rfl⟩:=dP O;obtain⟨ac,R⟩:=i_ R;cases R;obtain⟨cs,cC,rfl⟩:=oC aJ eb;obtain⟨bL,ca,cq⟩:=aI.wg.1 cC;have bL:(l:List e.aG).length=n:=bL;obtain⟨⟨bf,aL,aC⟩,_⟩:=ht;obtain⟨aq,O⟩:=AR.1 ac;have O:i<(n:Int):=O;have bn:i.toNat<(l:List e.aG).length:=J;have bs:=pc aC w;have l4:(i.toNat+1)*e.size<=n*e.size:=gM _ J;rw[nh]at l4;have hp:=EV (P:=P) aC (cs:=cs.toArray) (off:=i.toNat*e.size) fK w;refine⟨rfl,cB e (cM cs.toArray (i.toNat*e.size) e.size),?_,?_⟩
 .simp[Instr.index,asIntOf,run_underlying aL,cB,ag.isAgg,aq,O,bs,hp]
 exact⟨_,cq _ _ (A8 (d:=e.zero) bn),rfl⟩
def Jp{e:ag}{tid:TypeId}(ht:(cY P (.sl e)).1 tid){ad:Option Addr}{cap:Nat}{lo ac:Option Int}{ks kh:IntKind}(l2:n<=cap)(h:b8 (bU lo 0) (bU ac n) n=true)(w:World):
  (Instr.sliceAt tid (.slice ad n cap) (lo.map λi=>.int ks i) (ac.map λi=>.int kh i) none).run P w =
   .ok (.slice (if cap=(bU lo 0).toNat then ad else ad.map (·.add ((bU lo 0).toNat*e.size))) ((bU ac n).toNat-(bU lo 0).toNat) (cap-(bU lo 0).toNat)) w:=by
 obtain⟨⟨bf,aL,aC⟩,_⟩:=ht;have aa:=WI (P:=P) (isSlice:=true) (ks:=ks) (kh:=kh) l2 h w;have bs:=pc aC w;simp[Instr.sliceAt,Instr.slice,run_underlying aL,aa,bs]
def aI.sub{H:cj}{e:ag}{l:List e.aG}{ad:Option Addr}{cap:Nat}(cC:aI H (.sl e) l [.slice ad l.length cap]){cap':Nat}(bW:L+N<=l.length)(l2:N<=cap')(aCc:cap'<=cap-L):
  aI H (.sl e) (cut l L N) [.slice (if cap'=0 then ad else ad.map (·.add (L*e.size))) N cap']:=by
 obtain⟨a',cO,O,R,af,au⟩:=aI.iM.1 cC;obtain⟨rfl,_,rfl⟩:=O;refine aI.iM.2 ⟨_,cap',by rw[lY bW],by rw[lY bW];exact l2,J,?_⟩;by_cases fM:N=0
 .left;exact iR.1 ((lY bW).trans fM)
 rcases au with au|⟨b,o,c,el,fz,rfl,cD,cQ,gj⟩
 .grind
 right;rw[if_neg J];refine⟨b,o+L*e.size,c,el,fz,by simp[q8],cD,?_,λi x ac => ?_⟩
 .rw[lY bW]
  have:(L+N)*e.size<=l.length*e.size:=gM _ bW
  grind
 have et:i<N:=by
  rcases oI i N with h|h
  .exact h
  have:(cut l L N).length<=i:=by rw[lY bW];exact h
  grind
 rw[GB et]at ac
 grind
def WJ{H:cj}{e:ag}{tid:TypeId}(ht:(cY P (.sl e)).1 tid){l:List e.aG}{ck:Value}(cC:aI H (.sl e) l [ck]){lo ac:Option Int}{ks kh:IntKind}(h:b8 (bU lo 0) (bU ac (len l)) (len l)=true)(w:World):
  ∃v,(Instr.sliceAt tid ck (lo.map λi=>.int ks i) (ac.map λi=>.int kh i) none).run P w=.ok v w/\ba phx H B (.sc (.sl e) (sub l (bU lo 0) (bU ac (len l)))) v:=by
 obtain⟨ad,cap,O,R,af,au⟩:=aI.iM.1 cC;simp at O;subst O;have ai:=Jp (P:=P) ht (ad:=ad) (ks:=ks) (kh:=kh) R h w;refine⟨_,ai,?_⟩;obtain⟨bF,b2,dy⟩:=sA.1 h;have dy:bU ac (len l)<=(l.length:Int):=dy;have:=cC.sub (L:=(bU lo 0).toNat) (N:=(bU ac (len l)).toNat-(bU lo 0).toNat) (cap':=cap-(bU lo 0).toNat) J J (b1 _);refine⟨_,this,?_⟩;congr 1
 grind
def h4.sub{id:Nat}{e:ag}{ad:Option Addr}{cap:Nat}(h:h4 phx id e off n (.slice ad n cap))(bW:L+N<=n):
  h4 phx id e (off+L) N (.slice (if cap=L then ad else ad.map (·.add (L*e.size))) N (cap-L)):=by
 rcases h with⟨O,a,R⟩|⟨b,o,m,cap',O,R,af,au,aY⟩
 .simp at R
  obtain⟨rfl,_,rfl⟩:=R;left;exact⟨J,_,by rw[show N=0 by omega,show 0-L=0 by omega]⟩
 simp at R;obtain⟨rfl,_,rfl⟩:=R;by_cases ah:cap=L
 .left;exact⟨J,_,by rw[show N=0 by omega,show cap-L=0 by omega]⟩
 right;refine⟨b,o,m,cap-L,O,?_,J,J,by rw[show off+L+(cap-L)=off+cap by omega];exact aY⟩;rw[if_neg ah];simp[q8,nh,j2]
def uD.sub{id:Nat}{e:ag}{ad:Option Addr}{cap:Nat}(h:uD phx id e off N (.slice ad n cap)){n':Nat}(bW:L+n'<=cap):
  uD phx id e (off+L) N (.slice (if cap=L then ad else ad.map (·.add (L*e.size))) n' (cap-L)):=by
 rcases h with⟨O,a,R⟩|⟨b,o,m,aff,cap',O,R,af⟩
 .simp at R
  obtain⟨rfl,_,rfl⟩:=R;left;exact⟨J,_,by rw[show n'=0 by omega,show 0-L=0 by omega]⟩
 simp at R;obtain⟨rfl,_,rfl⟩:=R;by_cases ah:cap=L
 .left;exact⟨J,_,by rw[show n'=0 by omega,show cap-L=0 by omega]⟩
 right;refine⟨b,o,m,n',cap-L,O,?_,J⟩;rw[if_neg ah];simp[q8,nh,j2]
def WK{e:ag}{tid:TypeId}(ht:(cY P (.sl e)).1 tid){a r:av}{ck:Value}{lo ac:Option Int}(h:(xr (.sl e) a lo ac none).a7 g B=some (r,B'))
  (hm:bM K w0 phx M B w) (eb:ba phx (view w M) B a ck) (ks kh:IntKind) :
  B'=B/\∃v,(Instr.sliceAt tid ck (lo.map λi=>.int ks i) (ac.map λi=>.int kh i) none).run P w=.ok v w/\ba phx (view w M) B r v:=by
 cases a<;>try(cases h;done)
 case nil=>
  simp only[xr]at h;replace h:=i_ h;obtain⟨aa,h⟩:=h;cases h;have ai:=eb;simp only[ba,d6,bJ]at ai;subst ai;have jP:b8 (bU lo 0) (bU ac ((0:Nat):Int)) ((0:Nat):Int)=true:=aa;have aQ:=sA.1 jP;refine⟨rfl,_,Jp (P:=P) (ad:=none) (n:=0) (cap:=0) ht (b1 _) jP w,?_⟩
  grind
 case sc t x =>replace h:=ax.cK h;obtain⟨l,c7,O,h⟩:=h;obtain⟨ah,rfl⟩:=dP O;obtain⟨bB,rfl⟩:=wi ah;subst bB;replace h:=i_ h;obtain⟨aa,h⟩:=h;cases h;obtain⟨cs,cC,rfl⟩:=eb;obtain⟨ad,cap,rfl,_⟩:=aI.zl.1 cC;exact⟨rfl,WJ ht cC aa w⟩
 case csl bB l =>replace h:=gW h;obtain⟨ah,h⟩:=h;have:=eX ah;cases this;replace h:=i_ h;obtain⟨aa,h⟩:=h;cases h;obtain⟨ad,_,cC⟩:=eb;exact⟨rfl,WJ ht cC aa w⟩
 case own id eT=>
  simp only[xr,ax.a7]at h;have ab:bJ phx (view w M) B (.own id eT) ck:=eb;have dK:=hm.blks id;simp only[bJ]at ab;generalize az:B id=bl at h ab dK;cases bl<;>try(cases h;done)
  .replace h:=gW h;obtain⟨ah,h⟩:=h
   have:=eX ah;cases this;replace h:=i_ h;obtain⟨aa,h⟩:=h;cases h;rename_i l;obtain⟨ad,cap,rfl⟩:=ab.1.slice;have l2:l.length<=cap:=by
    rcases ab.1 with⟨O,a,R⟩|⟨b,o,m,cap',O,R,af,au,aY⟩
    .omega
    simp only[Value.slice.injEq]at R;omega
   refine⟨rfl,_,Jp ht l2 aa w,?_⟩;obtain⟨bF,b2,dy⟩:=sA.1 aa;have dy:bU ac (len l)<=(l.length:Int):=dy;have qp:=ab.1.cap.sub (L:=(bU lo 0).toNat) (n':=(bU ac (len l)).toNat-(bU lo 0).toNat) J;have:=ab.1.sub (L:=(bU lo 0).toNat) (N:=(bU ac (len l)).toNat-(bU lo 0).toNat) J;simp only[ba,d6,bJ,az];simp only[lT]at this qp;exact⟨by unfold ae cc;omega,this,qp⟩
  replace h:=gW h;obtain⟨ah,h⟩:=h;have:=eX ah;cases this;replace h:=i_ h;obtain⟨aa,h⟩:=h;cases h;exact⟨rfl,WJ ht (VM ab.1 dK.2) aa w⟩
 case osl id off n=>
  simp only[xr,ax.a7]at h;have ab:bJ phx (view w M) B (.osl id off n) ck:=eb;have dK:=hm.blks id;simp only[bJ]at ab;generalize az:B id=bl at h ab dK;cases bl<;>try(cases h;done)
  .replace h:=gW h;obtain⟨ah,h⟩:=h
   have:=eX ah;cases this;replace h:=i_ h;obtain⟨aa,h⟩:=h;cases h;obtain⟨bW,ab,my⟩:=ab;obtain⟨ad,cap,rfl⟩:=ab.slice;have l2:n<=cap:=by
    rcases ab with⟨O,a,R⟩|⟨b,o,m,cap',O,R,af,au,aY⟩
    .omega
    simp only[Value.slice.injEq]at R;omega
   refine⟨rfl,_,Jp ht l2 aa w,?_⟩;obtain⟨bF,b2,dy⟩:=sA.1 aa;have dy:bU ac (bi n)<=(n:Int):=dy;have:=ab.sub (L:=(bU lo 0).toNat) (N:=(bU ac (bi n)).toNat-(bU lo 0).toNat) J;have qp:=my.sub (L:=(bU lo 0).toNat) (n':=(bU ac (bi n)).toNat-(bU lo 0).toNat) J;simp only[ba,d6,bJ,az];exact⟨by unfold ae cc bI;omega,this,qp⟩
  replace h:=gW h;obtain⟨ah,h⟩:=h;have:=eX ah;cases this;replace h:=i_ h;obtain⟨aa,h⟩:=h;cases h;obtain⟨bW,ab⟩:=ab;obtain⟨ad,cap,rfl⟩:=ab.slice;have l2:n<=cap:=by
   rcases ab with⟨O,a,R⟩|⟨b,o,m,cap',O,R,af,au,aY⟩
   .omega
   simp only[Value.slice.injEq]at R;omega
  refine⟨rfl,_,Jp ht l2 aa w,?_⟩;obtain⟨bF,b2,dy⟩:=sA.1 aa;have dy:bU ac (bi n)<=(n:Int):=dy;have:=ab.sub (L:=(bU lo 0).toNat) (N:=(bU ac (bi n)).toNat-(bU lo 0).toNat) J;simp only[ba,d6,bJ,az];exact⟨by unfold ae cc bI;omega,this⟩
def azY{fW:ag}{tid:TypeId}(ht:(cY P fW).1 tid){a r:av}{ck:Value}{lo ac:Option Int}{m:Int}(h:(xr fW a lo ac (some m)).a7 g B=some (r,B'))
  (eb:ba phx (view w M) B a ck) (ks kh Ib:IntKind) :
  B'=B/\∃v,(Instr.sliceAt tid ck (lo.map λi=>.int ks i) (ac.map λi=>.int kh i) (some (.int Ib m))).run P w=.ok v w/\ba phx (view w M) B r v:=by
 cases ac with
 |none=>cases h
 |some ac=>
  cases a<;>try(cases h;done)
  rename_i t x;cases fW<;>try(cases h;done)
  rename_i e;replace h:=ax.cK h;obtain⟨l,c7,O,h⟩:=h;obtain⟨ah,rfl⟩:=dP O;obtain⟨bB,rfl⟩:=wi ah;subst bB;replace h:=i_ h;obtain⟨aa,h⟩:=h;cases h;simp only[c3,cP,Yp.aj,beq_iff_eq]at aa;obtain⟨aa,rfl⟩:=aa;obtain⟨bF,b2,dy⟩:=sA.1 aa;obtain⟨cs,cC,rfl⟩:=eb;obtain⟨ad,cap,rfl,ca,_⟩:=aI.zl.1 cC;have dy:ac<=((x:List e.aG).length:Int):=dy;obtain⟨⟨bf,aL,aC⟩,_⟩:=ht;have bs:=pc aC w;have g1:0<=ac/\ac<=(cap:Int):=⟨J,J⟩;have g0:0<=ac:=g1.1;have HK:(Instr.sliceBounds true (x:List e.aG).length cap (lo.map λi=>.int ks i) (some (.int kh ac)) (some (.int Ib ac))).run P w=.ok ((bU lo 0).toNat,ac.toNat,ac.toNat) w:=by
   cases lo with
   |none=>simp[Instr.sliceBounds,Instr.sliceBound,asIntOf,g1,bU,g0,YE g0]
   |some lo =>simp only[bU]at bF b2 ⊢;simp[Instr.sliceBounds,Instr.sliceBound,asIntOf,g1,g0,YE g0,bF,b2]
  refine⟨rfl,.slice (if ac.toNat=(bU lo 0).toNat then ad else ad.map (·.add ((bU lo 0).toNat*e.size))) (ac.toNat-(bU lo 0).toNat) (ac.toNat-(bU lo 0).toNat),?_,?_⟩
  .simp[Instr.sliceAt,Instr.slice,run_underlying aL,HK,bs,cB,ag.isAgg]
  have:=cC.sub (L:=(bU lo 0).toNat) (N:=ac.toNat-(bU lo 0).toNat) (cap':=ac.toNat-(bU lo 0).toNat) J J J;have cm:(Yp.sub (x:List e.aG) (bU lo 0) ac).length=ac.toNat-(bU lo 0).toNat:=lY (α:=e.aG) (l:=(x:List e.aG)) J;have u_:(if ac.toNat=(bU lo 0).toNat then ad else ad.map (·.add ((bU lo 0).toNat*e.size)))=if ac.toNat-(bU lo 0).toNat=0 then ad else ad.map (·.add ((bU lo 0).toNat*e.size)):=by
   grind
  rw[u_];exact⟨_,by rw[cm],this⟩
def h4.aap{id:Nat}{e:ag}{ad:Option Addr}{cap:Nat}(h:h4 phx id e off n (.slice ad m cap)):m=n/\n<=cap:=by
 rcases h with⟨O,a,R⟩|⟨b,o,m,cap',O,R,af,au,aY⟩
 .simp only[Value.slice.injEq]at R;omega
 simp only[Value.slice.injEq]at R;omega
def h4.app{id:Nat}{e:ag}{ad:Option Addr}{cap:Nat}(h:h4 phx id e off n (.slice ad n cap))(bW:L+N<=cap):
  h4 phx id e (off+L) N (.slice (if cap=L then ad else ad.map (·.add (L*e.size))) N (cap-L)):=by
 rcases h with⟨O,a,R⟩|⟨b,o,m,cap',O,R,af,au,aY⟩
 .simp only[Value.slice.injEq]at R
  obtain⟨rfl,_,rfl⟩:=R;left;exact⟨J,_,by rw[show N=0 by omega,show 0-L=0 by omega]⟩
 simp only[Value.slice.injEq]at R;obtain⟨rfl,_,rfl⟩:=R;by_cases ah:cap=L
 .left;exact⟨J,_,by rw[show N=0 by omega,show cap-L=0 by omega]⟩
 right;refine⟨b,o,m,cap-L,O,?_,J,J,by rw[show off+L+(cap-L)=off+cap by omega];exact aY⟩;rw[if_neg ah];simp[q8,nh,j2]
def azZ{e:ag}{tid:TypeId}(ht:(cY P (.sl e)).1 tid){a r:av}{ck:Value}{lo ac ry:Option Int}(h:(WG (.sl e) a lo ac ry).a7 g B=some (r,B'))
  (hm:bM K w0 phx M B w) (eb:ba phx (view w M) B a ck) (ks kh Ib:IntKind) :
  B'=B/\∃v,(Instr.sliceAt tid ck (lo.map λi=>.int ks i) (ac.map λi=>.int kh i) (ry.map λi=>.int Ib i)).run P w=.ok v w/\ba phx (view w M) B r v:=by
 unfold WG at h;split at h
 .split at h
  .rename_i hh
   split at h
   .rename_i id off n
    simp only[ax.a7]at h;have ab:bJ phx (view w M) B (.osl id off n) ck:=eb;simp only[bJ]at ab;generalize az:B id=bl at h ab;cases bl<;>try(cases h;done)
    replace h:=gW h;obtain⟨ah,h⟩:=h;have:=eX ah;cases this;replace h:=i_ h;obtain⟨aa,h⟩:=h;cases h;rename_i l;simp only[c3,cP]at aa;obtain⟨sv,aa⟩:=aa;obtain⟨bW,aK,qp⟩:=ab;obtain⟨ad,cap,rfl⟩:=aK.slice;obtain⟨bF,b2,dy⟩:=sA.1 aa;have dy:hh<=(l.length:Int)-(off:Int):=dy;have fM:l.length<=off+cap:=by
     rcases qp with⟨O,a,R⟩|⟨b,o,m,aff,cap',O,R,af⟩
     .omega
     simp at R;omega
    have g1:0<=hh/\hh<=(cap:Int):=⟨J,J⟩;have HK:(Instr.sliceBounds true n cap (lo.map λi=>.int ks i) (some (.int kh hh)) none).run P w=.ok ((bU lo 0).toNat,hh.toNat,cap) w:=by
     cases lo with
     |none=>simp[Instr.sliceBounds,Instr.sliceBound,asIntOf,g1,bU]
     |some lo =>simp only[bU]at bF b2 ⊢;have cD:0<=lo/\lo<=max hh 0:=⟨bF,J⟩;simp[Instr.sliceBounds,Instr.sliceBound,asIntOf,g1,cD,bF,b2]
    obtain⟨⟨bf,aL,aC⟩,_⟩:=ht;have bs:=pc aC w;refine⟨rfl,.slice (if cap=(bU lo 0).toNat then ad else ad.map (·.add ((bU lo 0).toNat*e.size))) (hh.toNat-(bU lo 0).toNat) (cap-(bU lo 0).toNat),?_,?_⟩
    .simp[Instr.sliceAt,Instr.slice,run_underlying aL,HK,bs]
    have O:=aK.app (L:=(bU lo 0).toNat) (N:=hh.toNat-(bU lo 0).toNat) J;have R:=qp.sub (L:=(bU lo 0).toNat) (n':=hh.toNat-(bU lo 0).toNat) J;simp only[ba,d6,bJ,az];exact⟨by unfold ae cc bI;omega,O,R⟩
   exact WK ht h hm eb ks kh
  exact WK ht h hm eb ks kh
 rename_i m;split at h
 .rename_i hh
  split at h
  .rename_i id eT
   simp only[ax.a7]at h;have ab:bJ phx (view w M) B (.own id eT) ck:=eb;simp only[bJ]at ab;generalize az:B id=bl at h ab;cases bl<;>try(cases h;done)
   replace h:=gW h;obtain⟨ah,h⟩:=h;replace h:=i_ h;obtain⟨aa,h⟩:=h;cases h;rename_i l;simp only[c3,cP,b3,decide_eq_true_eq]at aa;obtain⟨aa,AD⟩:=aa;have AD:m<=(l.length:Int):=AD;obtain⟨bF,b2,dy⟩:=sA.1 aa;obtain⟨ad,cap,rfl⟩:=ab.1.slice;obtain⟨_,l2⟩:=ab.1.aap;obtain⟨⟨bf,aL,aC⟩,_⟩:=ht;have bs:=pc aC w;have g1:0<=m/\m<=(cap:Int):=⟨J,J⟩;have g0:0<=m:=g1.1;have cD:0<=hh/\hh<=m:=⟨J,dy⟩;have HK:(Instr.sliceBounds true l.length cap (lo.map λi=>.int ks i) (some (.int kh hh)) (some (.int Ib m))).run P w=.ok ((bU lo 0).toNat,hh.toNat,m.toNat) w:=by
    cases lo with
    |none=>simp[Instr.sliceBounds,Instr.sliceBound,asIntOf,g1,bU,g0,cD,YE g0]
    |some lo =>simp only[bU]at bF b2 ⊢;have cQ:0<=lo/\lo<=max hh 0:=⟨bF,J⟩;simp[Instr.sliceBounds,Instr.sliceBound,asIntOf,g1,g0,cD,YE g0,cQ,bF,b2]
   exact⟨rfl,_,by simp[Instr.sliceAt,Instr.slice,run_underlying aL,HK,bs];rfl,trivial⟩
  cases h
 cases h
end
end Yp
namespace Yp
open Go
def p2:=@List.length_replicate
def s?:=@Nat.mod_eq_of_lt
def Cu:=@Nat.mul_le_mul_left
def Qn:=@Nat.le_of_lt
variable {P:Program}
def dA(K:Kp)(w0:World)(phx:cf)(M:Nat->Prop)(B:Nat->aT)(w:World)(B':Nat->aT)(v:av)(r:Value)(w':World):Prop:=
 ∃phx' aD,bM K w0 phx' aD B' w'/\ct phx M B w phx' aD B' w'/\ba phx' (view w' aD) B' v r
section
variable {K:Kp} {w0 w:World} {phx:cf} {M:Nat->Prop} {B B':Nat->aT} {g:Nat->av}
def dA.same(hm:bM K w0 phx M B w){v:av}{r:Value}(h:B'=B)(ai:ba phx (view w M) B v r):dA K w0 phx M B w B' v r w:=by subst h;exact⟨phx,M,hm,ct.refl _ _ _ _,ai⟩
def Dk{id:Nat}{k:ax av}{r:av×(Nat->aT)}(h:(Yp.u1 id k).a7 g B=some r):B id=.new/\k.a7 g B=some r:=by simp only[Yp.u1,ax.a7]at h;generalize az:B id=b at h;cases b<;>first|exact⟨rfl,h⟩|cases h
def ml.lt{id:Nat}{b:aT}{H:cj}(h:ml phx M w H B id b)(hm:b.fS=true){x:Nat×Nat×Nat}(hx:phx id=some x):x.1<w.heap.size:=by
 have bn:∀{b:Nat} {o:Obj},w.heap[b]?=some o->b<w.heap.size:=λaK=>(iP.1 aK).1;cases b with
 |new=>cases hm
 |ft=>cases hm
 |fz e l=>cases hm
 |box t v=>obtain⟨b,o,c,el,fz,O,R,_⟩:=h;rw[O]at hx;cases hx;exact bn R
 |ob e l=>
  rcases h.2 with⟨O,_⟩|⟨b,o,c,el,fz,O,R,_⟩
  .grind
  grind
 |it s p=>obtain⟨b,O,R,_⟩:=h;rw[O]at hx;cases hx;exact bn R
 |mp kt vt l=>obtain⟨b,es,n8,O,R,_⟩:=h;rw[O]at hx;cases hx;exact bn R
def bM.born(hm:bM K w0 phx M B w){id:Nat}(hid:B id=.new){w':World}(O:w'.os=w.os)(R:w'.tape=w.tape)(af:w'.output=w.output)(ab:w.heap.size<w'.heap.size)
  (aa:∀b,b<w.heap.size->w'.heap[b]?=w.heap[b]?) (kM:aT) (n:Nat)
  (ai:∀phx' aD,ct phx M B w phx' aD (c' B id kM) w'->phx' id=some (w.heap.size,0,n)->aD w.heap.size->ml phx' aD w' (view w' aD) (c' B id kM) id kM) :
  ∃phx' aD,bM K w0 phx' aD (c' B id kM) w'/\ct phx M B w phx' aD (c' B id kM) w'/\phx' id=some (w.heap.size,0,n):=by
 obtain⟨bD,e1⟩:=hm.Ds O R af (Qn ab) aa (λb=>b=w.heap.size) (λb h=>J);obtain⟨cr,aU⟩:=bD.wd hid kM (some (w.heap.size,0,n)) (λ_ y hy am=>by cases hy;have O:=hm.klt _ am;have R:=hm.size;simp only at O;omega) (λ_ y hy j ap z bs=>by cases hy;have:=(hm.blks j).lt ap bs;simp only;omega) (λaC=>ai _ _ (e1.trans aC) (mO _ _ _) (.inr rfl))
 exact⟨_,_,cr,e1.trans aU,mO _ _ _⟩
def r5(w:World)(o:Obj)(b:Nat)(h:b<w.heap.size):(w.alloc o).heap[b]?=w.heap[b]?:=by
 show(w.heap.push o)[b]?=_
 grind
def r4(w:World)(o:Obj):(w.alloc o).heap[w.heap.size]?=some o:=by show(w.heap.push o)[w.heap.size]?=_;simp
def iW(w:World)(o:Obj):(w.alloc o).heap.size=w.heap.size+1:=bp
def y0(c:Array Value):iD c (0,0):=.inl rfl
def Jt{c:Array Value}{cu:List Value}(h:c.toList=cu)(ak:cu.length=n):cM c 0 n=cu:=by simp only[cM,h];subst ak;simp
def Y?{t:ag}{tid:TypeId}(ht:(cY P t).1 tid){id:Nat}(hid:B id=.new){pv:av}{v:Value}{cu:List Value}(hm:bM K w0 phx M B w)(aB:v.cells.toList=cu)(hT:fh phx (view w M) B pv t cu):
  ∃r w',(Instr.box tid v).run P w=.ok r w'/\dA K w0 phx M B w (c' B id (.box t pv)) (.ptr id []) r w':=by
 have cZ:v.cells.size=t.size:=by rw[<- hT.length,<- aB];simp
 refine⟨.pointer (some ⟨w.heap.size,0,none⟩),w.alloc (.cells v.cells tid),by simp[Instr.box,newVar,Go.newRow],?_⟩;obtain⟨phx',aD,bD,e1,O⟩:=hm.born hid (w':=w.alloc (.cells v.cells tid)) rfl rfl rfl bp (r5 w _) (.box t pv) v.cells.size λphx' aD aC hp d_=>by refine⟨w.heap.size,0,v.cells,tid,(0,0),hp,r4 w _,J,?_,y0 _,d_⟩;rw[Jt aB hT.length];exact aC.bv hT
 refine⟨phx',aD,bD,e1,?_⟩;simp only[ba,d6,bJ,e5];exact⟨_,_,_,0,t,O,ND t,rfl⟩
def zH{H:cj}:∀t:ag,fh phx H B (nT t) t (dJ t)
 |.bool=>⟨rfl,aI.zero _ .bool⟩
 |.int k=>⟨rfl,aI.zero _ (.int k)⟩
 |.str=>⟨rfl,aI.zero _ .str⟩
 |.sl e=>⟨rfl,_,rfl,rfl,rfl⟩
 |.unit=>⟨rfl,aI.zero _ .unit⟩
 |.pair a b=>⟨_,_,rfl,zH a,zH b⟩
 |.ar n e=>⟨rfl,aI.zero _ (.ar n e)⟩
 |.op k=>⟨rfl,aI.zero _ (.op k)⟩
 |.fn l=>⟨rfl,aI.zero _ (.fn l)⟩
def BI{t:ag}{tid:TypeId}(ht:(cY P t).1 tid)(w:World):(zeroValue tid).run P w=.ok (cB t (dJ t)) w:=by obtain⟨i,O,R,af,au⟩:=oa ht;unfold zeroValue;simp[ahd O,au]
def ut(t:ag):(cB t (dJ t)).cells=(dJ t).toArray:=Iq (aI.zero (λ_=>none) t)
def akA{t:ag}{tid:TypeId}(ht:(cY P t).1 tid){id:Nat}(hid:B id=.new)(hm:bM K w0 phx M B w):
  ∃r w',(Instr.alloc tid true (.tuple #[])).run P w=.ok r w'/\dA K w0 phx M B w (c' B id (.box t (nT t))) (.ptr id []) r w':=by
 obtain⟨r,w',O,R⟩:=Y? ht hid hm (v:=cB t (dJ t)) (cu:=dJ t) (by rw[ut]) (zH t);refine⟨r,w',?_,R⟩;simp only[Instr.box]at O;simp[Instr.alloc,BI ht]at O ⊢;exact O
def ET(hm:bM K w0 phx M B w){id:Nat}(hid:B id=.new){w':World}(O:w'.os=w.os)(R:w'.tape=w.tape)(af:w'.output=w.output)(ab:w.heap.size<w'.heap.size)
  (aa:∀b,b<w.heap.size->w'.heap[b]?=w.heap[b]?) {e:ag} (dM:0<e.size) {l:List e.aG} {g4:Array Value} {el:TypeId} {fz:Nat×Nat} (ah:w'.heap[w.heap.size]?=some (.cells g4 el fz)) (hf:iD g4 fz)
  {H:cj} (cE:H.cd (full w)) (eI:fi (view w M) e l g4 0) {cap:Nat} (l2:l.length<=cap) (jf:cap<=maxLen) (cZ:cap*e.size<=g4.size) (eT:Bool) (eR:eT=true->l.length≠0) :
  dA K w0 phx M B w (c' B id (.ob e l)) (.own id eT) (.slice (some ⟨w.heap.size,0,none⟩) l.length cap) w':=by
 obtain⟨phx',aD,bD,e1,dQ⟩:=hm.born hid O R af ab aa (.ob e l) g4.size λphx' aD aC hp d_=>
  ⟨dM,.inr ⟨w.heap.size,0,g4,el,fz,hp,ah,eI.mono aC.vw,hf,d_⟩⟩
 refine⟨phx',aD,bD,e1,?_⟩;simp only[ba,d6,bJ,e5];exact⟨.inr ⟨_,0,_,cap,dQ,bp,l2,jf,by simpa using cZ⟩,eR⟩
def w_{id:Nat}{e:ag}{l:List e.aG}{r:av}(h:(Yp.w9 id e l eT).a7 g B=some (r,B')):0<e.size/\B id=.new/\r=.own id eT/\B'=c' B id (.ob e l):=by replace h:=gW h;obtain⟨aq,h⟩:=h;replace h:=Dk h;obtain⟨O,h⟩:=h;cases h;exact⟨by simpa using aq,O,rfl,rfl⟩
def aBP{z:List Value}(h:i<n):(madeCells z.toArray n)[i]?=some (z.toArray[i%z.length]!):=by simp[madeCells,h]
def aBQ{z:List Value}(bs:0<z.length)(h:i<m):cM (madeCells z.toArray (m*z.length)) (i*z.length) z.length=z:=by
 have l4:(i+1)*z.length<=m*z.length:=gM _ h;rw[nh]at l4;apply Cx;intro j;by_cases ap:j<z.length
 .rw[vP ap,aBP J]
  have:(i*z.length+j)%z.length=j:=by rw[Nat.add_comm,Nat.add_mul_mod_self_right,s? ap]
  grind
 have hl:=qQ (c:=madeCells z.toArray (m*z.length)) (o:=i*z.length) (n:=z.length) (by rw[size_madeCells];omega)
 grind
def PT(H:cj){e:ag}(dM:0<e.size)(h:n<=m):fi H e (bR n e.zero) (madeCells (dJ e).toArray (m*e.size)) 0:=by
 refine⟨?_,λi x ac => ?_⟩
 .rw[size_madeCells];simp only[bR,p2,lT];exact gM _ h
 simp only[ bR,FH]at ac;split at ac
 .rename_i et
  cases ac;have hl:=s6 e;have:=aBQ (z:=dJ e) (m:=m) (i:=i) J J;rw[hl]at this;rw[lT,this];exact aI.zero H e
 cases ac
def alS(e:ag):0<e.bytes:=by unfold ag.bytes;split<;>omega
def agY{e:ag}:hn e n=true↔n*e.bytes<=140737488355328:=by unfold hn ci;exact decide_eq_true_iff
def On{e:ag}(h:hn e n=true):n<=maxLen:=by rw[agY]at h;have:n*1<=n*e.bytes:=Cu _ (alS e);unfold maxLen;omega
def Om{e:ag}(h:hn e n=true)(aa:b<=e.bytes):n*b<=140737488355328:=by rw[agY]at h;have:n*b<=n*e.bytes:=Cu _ aa;omega
def avn{e:ag}{tid:TypeId}(ht:(cY P (.sl e)).1 tid){id:Nat}{l c:Int}{kl kc:IntKind}{r:av}(hm:bM K w0 phx M B w)
  (h:(ax.chk (c3 (b8 0 l c) (hn e (ae c))) (Yp.w9 id e (bR (ae l) e.zero) false)).a7 g B=some (r,B')) :
  ∃v w',(Instr.makeSlice tid (.int kl l) (.int kc c)).run P w=.ok v w'/\dA K w0 phx M B w B' r v w':=by
 replace h:=i_ h;obtain⟨ah,h⟩:=h;simp only[c3,cP]at ah;obtain⟨aq,hid,rfl,rfl⟩:=w_ h;obtain⟨_,bF,b2⟩:=sA.1 ah.1;have gn:=ah.2;obtain⟨⟨bf,aL,aC⟩,_⟩:=ht;obtain⟨i,g1,cD,cQ,gj⟩:=oa aC;have DC:=Om gn cQ;have jf:=On gn;have ak:((ae c:Nat):Int)=c:=by unfold ae;omega
 have art:(i.bytes:Int)*c<=281474976710656:=by
  grind
 have ai:=run_make (P:=P) w tid bf i _ aL g1 gj kl kc l c bF b2 art (by unfold maxLen at jf;omega);refine⟨_,_,ai,?_⟩;rw[ut,cD];have cm:(bR (ae l) e.zero).length=l.toNat:=by simp[bR,ae]
 have:=ET (K:=K) (w0:=w0) (phx:=phx) (M:=M) (B:=B) (w:=w) hm hid (w':=w.alloc (.cells (madeCells (dJ e).toArray (c.toNat*e.size)) bf)) rfl rfl rfl bp (r5 w _) aq
  (l:=bR (ae l) e.zero) (r4 w _) (y0 _) (s0 w M) (PT _ aq (by unfold ae;omega)) (cap:=c.toNat) J J (by rw[size_madeCells];exact b1 _) false (λh=>by cases h)
 grind
def ax4{tid:TypeId}(aL:P.underlying tid=some .string){id:Nat}(hid:B id=.new)(hm:bM K w0 phx M B w):
  ∃v w',(Instr.range tid (.string ⟨l.toArray⟩)).run P w=.ok v w'/\dA K w0 phx M B w (c' B id (.it l 0)) (.itp id) v w':=by
 refine⟨.pointer (some ⟨w.heap.size,0,none⟩),w.alloc (.stringIter ⟨l.toArray⟩ 0),by simp[Instr.range,run_underlying aL],?_⟩;obtain⟨phx',aD,bD,e1,dQ⟩:=hm.born hid (w':=w.alloc (.stringIter ⟨l.toArray⟩ 0)) rfl rfl rfl bp (r5 w _) (.it l 0) 0 λphx' aD aC hp d_=>
  ⟨w.heap.size,hp,r4 w _,d_⟩
 refine⟨phx',aD,bD,e1,?_⟩;simp only[ba,d6,bJ,e5]
 grind
end
end Yp
namespace Yp
open Go
def s9:=@List.length_map
def xU:=@Nat.mul_one
def uC:=@List.getElem?_append_right
def zO:=@List.getElem?_append_left
def zS:=@List.cons.injEq
variable {P:Program}
section
variable {K:Kp} {w0 w:World} {phx:cf} {M:Nat->Prop} {B B':Nat->aT} {g:Nat->av} {H:cj}
def fa(H:cj)(e:ag)(l:List e.aG)(cs:List Value):Prop:=cs.length=l.length*e.size/\∀(i:Nat) (x:e.aG),ic l i=some x->aI H e x ((cs.drop (i*e.size)).take e.size)
def D7{l:List α}{x:α}(h:ic l i=some x):i<l.length:=(mR.1 h).1
def yX{s:Nat}(h:i<n):i*s+s<=n*s:=by
 have:=gM s (show i+1<=n from h)
 grind
def fi.tq{e:ag}{l:List e.aG}{c:Array Value}(h:fi H e l c o):fa H e l (cM c o (l.length*e.size)):=by refine⟨qQ h.1,λi x ac => ?_⟩;rw[EY _ _ _ _ _ (yX (D7 ac))];exact h.2 i x ac
def fa.row{e:ag}{l:List e.aG}{c:Array Value}(ak:o+l.length*e.size<=c.size)(h:fa H e l (cM c o (l.length*e.size))):fi H e l c o:=by
 refine⟨ak,λi x ac => ?_⟩;have:=h.2 i x ac
 rwa [EY _ _ _ _ _ (yX (D7 ac))]at this
def fa.nil(e:ag):fa H e [] []:=⟨bp,λi x ac=>by simp[ic]at ac⟩
def fa.append{e:ag}{l m:List e.aG}{cs ds:List Value}(h:fa H e l cs)(k:fa H e m ds):fa H e (l++m) (cs++ds):=by
 refine⟨by rw[dd,dd,h.1,k.1,nh],λi x ac => ?_⟩;by_cases hl:i<l.length
 .simp only[ic]at ac
  rw[zO hl]at ac;rw[R6 _ _ _ _ (by rw[h.1];exact yX hl)];exact h.2 i x ac
 simp only[ic]at ac;rw[uC J]at ac;have:=k.2 (i-l.length) x ac;rw[<- R8 cs ds,h.1,<- nh]at this
 grind
def fa.one{e:ag}{l:List e.aG}{cs:List Value}(h:fa H e l cs):∀v∈cs,v.oneCell'=true:=by intro v aB;obtain⟨i,ac,hm⟩:=aeW _ _ cs h.1 v aB;exact(h.2 i _ (km ac)).one v hm
def fa.bytes(l:List UInt8):fa H (.int .u8) (l:List (bG .u8)) (l.map λb=>Value.int .u8 b.toNat):=by
 refine⟨by simp only[s9,ag.size,xU];rfl,λi x ac => ?_⟩;simp only[ag.size,xU];have:((l.map λb=>Value.int .u8 (b.toNat:Int)).drop i).take 1=[Value.int .u8 (bG.to .u8 x)]:=by
  apply Cx;intro j;cases j with
  |zero =>have fk:l[i]?=some (x:UInt8):=ac;simp[fk];rfl
  |succ j=>simp[FM]
 rw[this];rfl
def ay4{id:Nat}{e:ag}{x:List e.aG}(h:(BF false id e).a7 g B=some (x,B'))(hm:bM K w0 phx M B w):
  B'=B/\Qf B id e x/\((phx id=none/\x.length=0)\/∃b o c el fz,phx id=some (b,o,c.size)/\w.heap[b]?=some (.cells c el fz)/\fi (view w M) e x c o):=by
 have aa:=hm.blks id;simp only[BF,ax.a7]at h;cases az:B id with
 |ob bB l=>
  rw[az]at h aa;obtain⟨y,c7,O,R⟩:=ax.cK h;obtain⟨ah,rfl⟩:=dP O;obtain⟨fL,rfl⟩:=jK ah;subst fL;cases R;refine⟨rfl,.inl az,?_⟩;rcases aa.2 with h|⟨b,o,c,el,fz,g1,cD,cQ,_⟩
  .exact .inl h
  exact .inr ⟨b,o,c,el,fz,g1,cD,cQ⟩
 |fz bB l=>
  rw[az]at h aa;obtain⟨ah,rfl⟩:=dP h;obtain⟨fL,rfl⟩:=jK ah;subst fL;refine⟨rfl,.inr (.inl az),?_⟩;rcases aa.2 with h|⟨b,o,c,el,fz,g1,cD,cQ⟩
  .exact .inl h
  exact .inr ⟨b,o,c,el,fz,g1,(jZ.1 cD).2,cQ⟩
 |box t v=>
  rw[az]at h aa;cases t<;>try(cases h;done)
  rename_i n bB;obtain⟨l,c7,O,R⟩:=ax.cK h;clear h;obtain⟨hl,rfl⟩:=dP O;obtain⟨y,b9,af,au⟩:=ax.cK R;clear R;obtain⟨ah,rfl⟩:=dP af;obtain⟨fL,rfl⟩:=jK ah;subst fL;obtain⟨_,h⟩:=gW au;clear au;cases h;obtain⟨eD,tW,c0,tp,tz,g1,cD,cQ,gj,ld,tA⟩:=aa;obtain⟨cm,eI⟩:=K5 (sV hl gj) cQ;exact⟨rfl,.inr (.inr ⟨v,by show _=aT.box (.ar (List.length (α:=bB.aG) l) bB) v;rw[cm];exact az⟩),.inr ⟨eD,tW,c0,tp,tz,g1,cD,eI⟩⟩
 |new=>rw[az]at h;cases h
 |ft=>rw[az]at h;cases h
 |it s p=>rw[az]at h;cases h
 |mp kt vt l=>rw[az]at h;cases h
def Wz{e:ag}{x:av}{hq:Value}{bu:List e.aG}(h:(nb false (.sl e) x).a7 g B=some (bu,B'))(hm:bM K w0 phx M B w)(ai:ba phx (view w M) B x hq):
  B'=B/\∃ad cap,hq=.slice ad bu.length cap/\(bu=[]\/∃b o c el fz,ad=some ⟨b,o,none⟩/\w.heap[b]?=some (.cells c el fz)/\fi (view w M) e bu c o):=by
 have plain:∀{v:Value},aI (view w M) (.sl e) bu [v]->∃ad cap,v=.slice ad bu.length cap/\(bu=[]\/∃b o c el fz,ad=some ⟨b,o,none⟩/\w.heap[b]?=some (.cells c el fz)/\fi (view w M) e bu c o):=by
  intro v cC;obtain⟨ad,cap,O,_,_,au⟩:=aI.iM.1 cC;simp only[zS,and_true]at O;refine⟨ad,cap,O,?_⟩;rcases au with au|⟨b,o,c,el,fz,g1,cD,cQ⟩
  .exact .inl au
  exact .inr ⟨b,o,c,el,fz,g1,(jZ.1 cD).2,cQ⟩
 have row:∀{id:Nat} {bB:ag} {l:List bB.aG},(B id=.ob bB l\/B id=.fz bB l)->(phx id=none/\l.length=0)\/∃b o c el fz,phx id=some (b,o,c.size)/\w.heap[b]?=some (.cells c el fz)/\fi (view w M) bB l c o:=by
  intro id bB l aa;have dK:=hm.blks id;rcases aa with aa|aa<;>rw[aa]at dK
  .rcases dK.2 with h|⟨b,o,c,el,fz,g1,cD,cQ,_⟩
   .exact .inl h
   exact .inr ⟨b,o,c,el,fz,g1,cD,cQ⟩
  rcases dK.2 with h|⟨b,o,c,el,fz,g1,cD,cQ⟩
  .exact .inl h
  exact .inr ⟨b,o,c,el,fz,g1,(jZ.1 cD).2,cQ⟩
 have VZ:∀{id:Nat} {l:List e.aG} {off n:Nat} {v:Value},((phx id=none/\l.length=0)\/∃b o c el fz,phx id=some (b,o,c.size)/\w.heap[b]?=some (.cells c el fz)/\fi (view w M) e l c o)->h4 phx id e off n v->off+n<=l.length ->
   ∃ad cap,v=.slice ad (cut l off n).length cap/\(cut l off n=[]\/∃b o c el fz,ad=some ⟨b,o,none⟩/\w.heap[b]?=some (.cells c el fz)/\fi (view w M) e (cut l off n) c o):=by
  intro id l off n v aa aK bW;rw[lY bW];rcases aK with⟨O,a,R⟩|⟨b,o,m,cap,O,R,af,au,aY⟩
  .subst O;exact⟨a,0,R,.inl (by simp[cut])⟩
  refine⟨_,cap,R,?_⟩;rcases aa with⟨bF,b2⟩|⟨b',dz,c,el,fz,bF,b2,dy⟩
  .exact .inl (iR.1 (by rw[lY bW];omega))
  rw[O]at bF;cases bF;refine .inr ⟨b,o+off*e.size,c,el,fz,rfl,b2,?_,λi x ac => ?_⟩
  .rw[lY bW]
   have cp:=dy.1;have:(off+n)*e.size<=l.length*e.size:=gM _ bW;rw[nh]at this;omega
  have et:=D7 ac;rw[lY bW]at et;rw[GB et]at ac;have:=dy.2 (off+i) x ac;rw[nh,<- j2]at this;exact this
 unfold nb at h;cases x<;>try(cases h;done)
 case sc t y =>obtain⟨ah,rfl⟩:=dP h;obtain⟨bB,rfl⟩:=wi ah;subst bB;obtain⟨cs,cC,rfl⟩:=ai;obtain⟨ad,cap,rfl,_⟩:=aI.zl.1 cC;exact⟨rfl,plain cC⟩
 case nil =>have h:(ax.opt (Va (.sl e))).a7 g B=some (bu,B'):=h;obtain⟨ah,rfl⟩:=dP h;cases ah;simp only[ba,d6,bJ]at ai;subst ai;exact⟨rfl,none,0,rfl,.inl rfl⟩
 case csl bB l =>obtain⟨ah,rfl⟩:=dP h;obtain⟨fL,rfl⟩:=jK ah;subst fL;obtain⟨ad,_,cC⟩:=ai;exact⟨rfl,plain cC⟩
 case agg t u =>exfalso;obtain⟨bh,_⟩:=ai;have bE:(bif ag.is t (.sl e) then xu false u (.sl e) else .fail:ax (ag.sl e).aG).a7 g B=some (bu,B'):=h;obtain⟨ac,_⟩:=gW bE;have:=eX ac;subst this;cases bh
 case own id eT=>
  have ab:bJ phx (view w M) B (.own id eT) hq:=ai;have bE:(t_ false id e).a7 g B=some (bu,B'):=h;simp only[t_,ax.a7]at bE;simp only[bJ]at ab;generalize az:B id=bl at bE ab;cases bl<;>try(cases bE;done)
  .obtain⟨y,c7,O,R⟩:=ax.cK bE
   obtain⟨ah,rfl⟩:=dP O;obtain⟨fL,rfl⟩:=jK ah;subst fL;cases R;have:=VZ (row (.inl az)) ab.1 J;rw[C4]at this;exact⟨rfl,this⟩
  obtain⟨ah,rfl⟩:=dP bE;obtain⟨fL,rfl⟩:=jK ah;subst fL;have:=VZ (row (.inr az)) ab.1 J;rw[C4]at this;exact⟨rfl,this⟩
 case osl id off n =>have ab:bJ phx (view w M) B (.osl id off n) hq:=ai;have bE:((BF false id e).bind λx=>.ret (cut x off n)).a7 g B=some (bu,B'):=h;obtain⟨z,c7,af,au⟩:=ax.cK bE;cases au;obtain⟨rfl,aY,cp⟩:=ay4 af hm;obtain⟨dN,cx⟩:=af5 aY ab;exact⟨rfl,VZ cp cx dN⟩
def nZ(P:Program)(w:World)(size n:Nat)(x:Value)(news:List Value):Prop:=
 (∀w':World,(Builtin.lenOf x).run P w'=.ok n w')/\∀w':World,w'.heap=w.heap->(Builtin.firstCells size n x).run P w'=.ok news.toArray w'
def W3{e:ag}{l:List e.aG}{c:Array Value}{el:TypeId}{fz:Nat×Nat}{cap:Nat}(aa:w.heap[b]?=some (.cells c el fz))(ai:fi H e l c o):
  nZ P w e.size l.length (.slice (some ⟨b,o,none⟩) l.length cap) (cM c o (l.length*e.size)):=by
 refine⟨λ_=>rfl,λw' bw => ?_⟩;exact EU (by rw[bw];exact aa) ai.1
def W2(s:Nat)(ad:Option Addr)(cap:Nat):nZ P w s 0 (.slice ad 0 cap) []:=by refine⟨λ_=>rfl,λw' _ => ?_⟩;cases ad<;>simp[Builtin.firstCells,loadCells,loadCellsFrom]
def aAt(l:List UInt8):nZ P w 1 l.length (.string ⟨l.toArray⟩) (l.map λb=>Value.int .u8 b.toNat):=by refine⟨λ_=>rfl,λw' _ => ?_⟩;simp only[Builtin.firstCells];simp
def Ot{t u ty bf:TypeId}{i:TypeInfo}{d:TypeDesc}(ht:P.underlying t=some (.slice bf))(aL:P.underlying u=some d)(aJ:d=.string\/∃q,d=.slice q)(ac:P.info? bf=some i)
  {x:Value} {n:Nat} {news:List Value} (hx:nZ P w i.size n x news) {b o sLen sCap:Nat} (gn:sLen+n<=sCap) {c:Array Value} {el:TypeId} {fz:Nat×Nat} (aa:w.heap[b]?=some (.cells c el fz)) (hf:iD c fz)
  (ak:o+sLen*i.size+news.length<=c.size) (O:∀v∈news,v.oneCell'=true) :
  ∃w',(Builtin.append_ #[t,u] ty #[.slice (some ⟨b,o,none⟩) sLen sCap,x]).run P w=.ok (.slice (some ⟨b,o,none⟩) (sLen+n) sCap) w' /\
   ∃cO:Array Value,KL w w' b (.cells cO el fz)/\cO.toList=h8 c.toList (o+sLen*i.size) news:=by
 obtain⟨w',R,cO,af,au⟩:=Jq (P:=P) (b:=b) (el:=el) (fz:=fz) (o:=o+sLen*i.size) news 0 c w aa hf J O;refine⟨w',?_,cO,af,by simpa using au⟩;have e1:=hx.1 w;have aU:=hx.2 w rfl;rcases aJ with rfl|⟨q,rfl⟩<;>simp[Builtin.append_,run_underlying ht,run_underlying aL,Go.sizeOf,typeInfo,ac,e1,aU,gn,q8,R]
def Wq{t u ty bf:TypeId}{i:TypeInfo}{d:TypeDesc}(ht:P.underlying t=some (.slice bf))(aL:P.underlying u=some d)(aJ:d=.string\/∃q,d=.slice q)(ac:P.info? bf=some i)
  {x:Value} (hx:nZ P w i.size 0 x []) {ad:Option Addr} {sCap:Nat} :
  (Builtin.append_ #[t,u] ty #[.slice ad 0 sCap,x]).run P w=.ok (.slice ad 0 sCap) w:=by
 have e1:=hx.1 w;have aU:=hx.2 w rfl;cases ad<;>(rcases aJ with rfl|⟨q,rfl⟩<;>simp[Builtin.append_,run_underlying ht,run_underlying aL,Go.sizeOf,typeInfo,ac,e1,aU,storeCells])
def Wp{t u ty bf:TypeId}{i:TypeInfo}{z:Value}{d:TypeDesc}(ht:P.underlying t=some (.slice bf))(aL:P.underlying u=some d)(aJ:d=.string\/∃q,d=.slice q)(ac:P.info? bf=some i)(bs:i.zero=some z)
  {x:Value} {n:Nat} {news:List Value} (hx:nZ P w i.size n x news) {ad:Option Addr} {sLen sCap:Nat} {olds:List Value} (aK:nZ P w i.size sLen (.slice ad sLen sCap) olds) (hg:sCap<sLen+n)
  (jf:sLen+n<=maxLen) (he:(sLen+n)*i.bytes<=140737488355328) :
  (Builtin.append_ #[t,u] ty #[.slice ad sLen sCap,x]).run P w =
   .ok (.slice (some ⟨w.heap.size,0,none⟩) (sLen+n) (grownCap w (sLen+n) sCap bf))
    (w.drew.alloc (.cells (olds.toArray++news.toArray++Builtin.zeroCells z.cells (grownCap w (sLen+n) sCap bf-(sLen+n))) bf)):=by
 have ak:¬(sLen+n<=sCap):=J;have S_:¬(9223372036854775807<((sLen:Int)+(n:Int))):=by unfold maxLen at jf;omega
 have ash:=growslice_fits hg he;have S9:¬(281474976710656<Builtin.nextslicecap (sLen+n) sCap*i.bytes):=J;have e1:=hx.1 w;have aU:=hx.2 w.drew rfl;have d8:=aK.2 w.drew rfl;rcases aJ with rfl|⟨q,rfl⟩<;>simp[Builtin.append_,run_underlying ht,run_underlying aL,Go.sizeOf,typeInfo,zeroValue,ac,bs,e1,ak,S_,S9,Question.forced,aU,d8,Go.newRow,grownCap]<;>(congr 2;apply Cy;simp)
end
end Yp
namespace Yp
open Go
def j4:=@List.length_nil
def nU:=@List.append_nil
def p3:=@List.size_toArray
def nl:=@List.drop_zero
def Cr:=@Array.size_append
def xP:=@Nat.le_succ
def Ct:=@List.take_left
def KY:=@Nat.lt_succ_self
def Qy:=@Array.toList_append
variable {P:Program}
section
variable {K:Kp} {w0 w:World} {phx:cf} {M:Nat->Prop} {B B':Nat->aT} {g:Nat->av} {H:cj}
def ahV{c cO:Array Value}{vs:List Value}(ah:cO.toList=h8 c.toList o vs)(ak:o+vs.length<=c.size)(h:a+n<=o):cM cO a n=cM c a n:=by rw[ub,ah,JP J (.inl h),<- ub]
def ahW{c cO:Array Value}{vs:List Value}(ah:cO.toList=h8 c.toList o vs)(ak:o+vs.length<=c.size):cM cO o vs.length=vs:=by
 rw[ub,ah];unfold h8
 grind
def aim{c cO:Array Value}{vs:List Value}(ah:cO.toList=h8 c.toList o vs)(ak:o+vs.length<=c.size):cO.size=c.size:=by have:=congrArg List.length ah;rw[Fa J]at this;omega
def fi.cut{H:cj}{e:ag}{l:List e.aG}{c:Array Value}(h:fi H e l c o)(bW:off+m<=l.length):fi H e (cut l off m) c (o+off*e.size):=by
 have hl:=lY bW;have l4:(off+m)*e.size<=l.length*e.size:=gM _ bW;rw[nh]at l4;refine⟨by rw[hl];have:=h.1;omega,λi x ac => ?_⟩;have bn:=D7 ac;rw[hl]at bn;rw[GB bn]at ac;have:=h.2 (off+i) x ac
 rwa [nh,<- j2]at this
def YN{e:ag}(dM:0<e.size){t u ty bf:TypeId}{d:TypeDesc}(ht:P.underlying t=some (.slice bf))(aC:(cY P e).1 bf)(aL:P.underlying u=some d)(aJ:d=.string\/∃q,d=.slice q)
  (hm:bM K w0 phx M B w) {x:Value} {bu:List e.aG} {news:List Value} (hx:nZ P w e.size bu.length x news) (bQ:fa (view w M) e bu news)
  {id off m:Nat} {l:List e.aG} {vs:Value} (az:B id=.ob e l) (bW:off+m<=l.length) (wQ:h4 phx id e off m vs) (gn:hn e (m+aV bu)=true) {ky:Nat} (gc:B ky=.new) :
  ∃r w',(Builtin.append_ #[t,u] ty #[vs,x]).run P w=.ok r w'/\dA K w0 phx M B w (c' (c' B id .ft) ky (.ob e (Yp.cut l off m++bu))) (.own ky false) r w':=by
 have eR:ky≠id:=λe=>by rw[e,az]at gc;cases gc
 obtain⟨i,g1,cD,cQ,gj⟩:=oa aC;have DC:=Om gn cQ;have jf:=On gn;have dK:=hm.blks id;rw[az]at dK;have wz:=bQ.1;have e2:=lY bW

 have Ds:∀{ad:Option Addr} {cap:Nat} {olds:List Value},nZ P w e.size m (.slice ad m cap) olds->fa (view w M) e (Yp.cut l off m) olds->cap<m+bu.length ->
   ∃r w',(Builtin.append_ #[t,u] ty #[.slice ad m cap,x]).run P w=.ok r w'/\dA K w0 phx M B w (c' (c' B id .ft) ky (.ob e (Yp.cut l off m++bu))) (.own ky false) r w':=by
  intro ad cap olds aK G' hg;have ai:=Wp (P:=P) (w:=w) (ty:=ty) ht aL aJ g1 gj (x:=x) (n:=bu.length) (news:=news) (by rw[cD];exact hx) (ad:=ad) (sLen:=m) (sCap:=cap) (olds:=olds) (by rw[cD];exact aK) hg jf DC;refine⟨_,_,ai,?_⟩;obtain⟨bD,e1⟩:=hm.ft id;have oX:=grownCap_ge w (m+bu.length) cap bf;have oW:=grownCap_le_maxLen w (m+bu.length) cap bf jf;have G_:=G'.append bQ;have cm:(Yp.cut l off m++bu).length=m+bu.length:=by rw[dd,e2]
  have ve:cM (olds.toArray++news.toArray++Builtin.zeroCells (cB e (dJ e)).cells (grownCap w (m+bu.length) cap bf-(m+bu.length))) 0 ((Yp.cut l off m++bu).length*e.size)=olds++news:=by rw[ub,<- G_.1];simp only[Qy,nl];exact Ct
  have cZ:grownCap w (m+bu.length) cap bf*e.size=(olds.toArray++news.toArray++Builtin.zeroCells (cB e (dJ e)).cells (grownCap w (m+bu.length) cap bf-(m+bu.length))).size:=by rw[Cr,size_zeroCells,ut];simp only[Cr,p3,s6,G'.1,wz,e2,<- nh];congr 1;omega
  have eI:fi (view w M) e (Yp.cut l off m++bu) (olds.toArray++news.toArray++Builtin.zeroCells (cB e (dJ e)).cells (grownCap w (m+bu.length) cap bf-(m+bu.length))) 0:=by
   refine fa.row ?_ ?_
   .rw[<- cZ,lT,cm];exact gM _ oX
   rw[ve];exact G_
  have:=ET (K:=K) (w0:=w0) (phx:=phx) (M:=M) (B:=c' B id .ft) (w:=w) bD (id:=ky) (by rw[en _ _ eR];exact gc)
   (w':=w.drew.alloc (.cells (olds.toArray++news.toArray++Builtin.zeroCells (cB e (dJ e)).cells (grownCap w (m+bu.length) cap bf-(m+bu.length))) bf))
   rfl rfl rfl (by rw[iW];exact KY _) (r5 w.drew _) dM (l:=Yp.cut l off m++bu) (r4 w.drew _) (y0 _) (s0 w M) eI (cap:=grownCap w (m+bu.length) cap bf) (by rw[cm];exact oX) oW (by rw[cZ];exact b1 _) false (λh=>by cases h)
  obtain⟨phx',aD,cr,aU,R⟩:=this;rw[cm]at R;exact⟨phx',aD,cr,e1.trans aU,R⟩
 rcases wQ with⟨O,ad,R⟩|⟨b,o,n,cap,O,R,af,au,aY⟩
 .subst O;subst R
  have oe:Yp.cut l off 0=[]:=by simp[Yp.cut]
  by_cases hy:bu.length=0
  .have oi:bu=[]:=iR.1 hy
   subst oi;have ak:news=[]:=iR.1 (by rw[wz];simp);subst ak;refine⟨_,_,Wq (P:=P) ht aL aJ g1 (by rw[cD];exact hx),?_⟩;obtain⟨bD,e1⟩:=hm.ft id;rw[oe];obtain⟨cr,aU⟩:=bD.wd (id:=ky) (by rw[en _ _ eR];exact gc) (.ob e ([]++[])) none (λ_ y hy=>by cases hy) (λ_ y hy=>by cases hy) (λ_=>⟨dM,.inl ⟨mO _ _ _,rfl⟩⟩);refine⟨_,_,cr,e1.trans aU,?_⟩;simp only[ba,d6,bJ,e5];exact⟨.inl ⟨rfl,ad,rfl⟩,λh=>by cases h⟩
  exact Ds (olds:=[]) (W2 _ _ _) (by rw[oe];exact fa.nil e) J
 subst R;rcases dK.2 with⟨bF,_⟩|⟨b',dz,c,el,fz,bF,b2,dy,fl,fZ⟩
 .rw[O]at bF;cases bF
 rw[O]at bF;cases bF;have H_:=dy.cut bW;have aK:nZ P w e.size m (.slice (some ⟨b,o+off*e.size,none⟩) m cap) (cM c (o+off*e.size) (m*e.size)):=by
  have:=W3 (P:=P) (cap:=cap) b2 H_
  rwa [e2]at this
 by_cases hg:cap<m+bu.length
 .have:=H_.tq
  rw[e2]at this;exact Ds aK this hg
 have T_:m+bu.length<=cap:=J;have l4:(m+bu.length)*e.size<=cap*e.size:=gM _ T_;rw[nh]at l4 aY;obtain⟨w',ai,cO,hp,m0⟩:=Ot (P:=P) (w:=w) (ty:=ty) ht aL aJ g1 (x:=x) (n:=bu.length) (news:=news) (by rw[cD];exact hx) (b:=b) (o:=o+off*e.size) (sLen:=m) (sCap:=cap) T_ b2 fl (by rw[cD];omega) bQ.one;rw[cD]at m0;have he:o+off*e.size+m*e.size+news.length<=c.size:=J;have cZ:=aim m0 he;refine⟨_,w',ai,?_⟩;obtain⟨cr,abb⟩:=hm.put (id:=id) (x:=(b,o,c.size)) (w':=w') (by rw[az];rfl) O fZ hp.os hp.tape hp.output hp.size hp.other .ft (by rw[az];trivial) λaC=>trivial;obtain⟨gR,d8⟩:=cr.wd (id:=ky) (by rw[en _ _ eR];exact gc) (.ob e (Yp.cut l off m++bu)) (some (b,o+off*e.size,c.size)) (λ_ y hy=>by cases hy;exact hm.own id (by rw[az];rfl) (b,o,c.size) O) (λ_ y hy j ap z bs=>by
   cases hy;have dL:j≠id:=λe=>by subst e;rw[e5]at ap;cases ap
   rw[en _ _ dL]at ap;exact hm.sep j id dL ap (by rw[az];rfl) z (b,o,c.size) bs O) (λaC=>by
  refine⟨dM,.inr ⟨b,o+off*e.size,cO,el,fz,by rw[mO,cZ],hp.jd,?_,fl.same cZ,fZ⟩⟩;refine fa.row (by rw[dd,e2,nh];omega) ?_;rw[dd,e2,nh,OE,ahV m0 he (b1 _),<- wz,ahW m0 he];have bW:=abb.vw;have dN:=(H_.mono bW).tq;rw[e2]at dN;exact dN.append ⟨wz,λi x ac=>(bQ.2 i x ac).mono bW⟩)
 refine⟨_,_,gR,abb.trans d8,?_⟩;simp only[ba,d6,bJ,e5];refine⟨.inr ⟨b,o+off*e.size,c.size,cap,mO _ _ _,by rw[Nat.zero_mul,uy,dd,e2],by rw[dd,e2];exact T_,au,by rw[lT];omega⟩,λh=>by cases h⟩
def akM{e:ag}(dM:0<e.size){t u ty bf:TypeId}{d:TypeDesc}(ht:P.underlying t=some (.slice bf))(aC:(cY P e).1 bf)(aL:P.underlying u=some d)(aJ:d=.string\/∃q,d=.slice q)
  (hm:bM K w0 phx M B w) {x:Value} {bu:List e.aG} {news:List Value} (hx:nZ P w e.size bu.length x news) (bQ:fa (view w M) e bu news)
  {id:Nat} {l:List e.aG} {eT:Bool} {vs:Value} (az:B id=.ob e l) (ai:bJ phx (view w M) B (.own id eT) vs) (gn:hn e (aV l+aV bu)=true) {ky:Nat} (gc:B ky=.new) :
  ∃r w',(Builtin.append_ #[t,u] ty #[vs,x]).run P w=.ok r w'/\dA K w0 phx M B w (c' (c' B id .ft) ky (.ob e (l++bu))) (.own ky false) r w':=by
 simp only[bJ,az]at ai;have:=YN (ty:=ty) dM ht aC aL aJ hm hx bQ az (off:=0) (m:=l.length) J ai.1 gn gc
 rwa [C4]at this
def YM{e:ag}(dM:0<e.size){t u ty bf:TypeId}{d:TypeDesc}(ht:P.underlying t=some (.slice bf))(aC:(cY P e).1 bf)(aL:P.underlying u=some d)(aJ:d=.string\/∃q,d=.slice q)
  (hm:bM K w0 phx M B w) {x:Value} {bu:List e.aG} {news:List Value} (hx:nZ P w e.size bu.length x news) (bQ:fa (view w M) e bu news)
  {l:List e.aG} {ad:Option Addr} (cC:aI (view w M) (.sl e) l [.slice ad l.length l.length]) (gn:hn e (aV l+aV bu)=true) :
  (∃r w',(Builtin.append_ #[t,u] ty #[.slice ad l.length l.length,x]).run P w=.ok r w'/\dA K w0 phx M B w B (.sc (.sl e) (l++bu)) r w') /\
  (bu.length≠0->∀ky,B ky=.new->∃r w',(Builtin.append_ #[t,u] ty #[.slice ad l.length l.length,x]).run P w=.ok r w'/\dA K w0 phx M B w (c' B ky (.ob e (l++bu))) (.own ky false) r w'):=by
 obtain⟨i,g1,cD,cQ,gj⟩:=oa aC;have DC:=Om gn cQ;have jf:=On gn;have wz:=bQ.1;obtain⟨olds,aK,G'⟩:∃olds,nZ P w e.size l.length (.slice ad l.length l.length) olds/\fa (view w M) e l olds:=by
  obtain⟨a',cO,bL,_,_,ca⟩:=aI.iM.1 cC;simp only[zS,Value.slice.injEq,and_true]at bL;rcases ca with ca|⟨b,o,c,el,fz,cq,dv,e'⟩
  .subst ca;exact⟨[],W2 _ _ _,fa.nil e⟩
  rw[<- bL.1]at cq;subst cq;exact⟨_,W3 (jZ.1 dv).2 e',fi.tq e'⟩
 by_cases hy:bu.length=0
 .have oi:bu=[]:=iR.1 hy
  subst oi;have ak:news=[]:=iR.1 (by rw[wz];simp);subst ak;refine⟨?_,λh=>absurd hy h⟩;have kv:(Builtin.append_ #[t,u] ty #[.slice ad l.length l.length,x]).run P w=.ok (.slice ad l.length l.length) w:=by have e1:=hx.1 w;have aU:=hx.2 w rfl;rw[<- cD]at aU;simp only[j4]at e1 aU;cases ad<;>(rcases aJ with rfl|⟨q,rfl⟩<;>simp[Builtin.append_,run_underlying ht,run_underlying aL,Go.sizeOf,typeInfo,g1,e1,aU,storeCells])
  refine⟨_,_,kv,dA.same hm rfl ?_⟩;rw[nU];exact⟨_,cC,rfl⟩
 have hg:l.length<l.length+bu.length:=J;have ai:=Wp (P:=P) (w:=w) (ty:=ty) ht aL aJ g1 gj (x:=x) (n:=bu.length) (news:=news) (by rw[cD];exact hx) (ad:=ad) (sLen:=l.length) (sCap:=l.length) (olds:=olds) (by rw[cD];exact aK) hg jf DC;have oX:=grownCap_ge w (l.length+bu.length) l.length bf;have oW:=grownCap_le_maxLen w (l.length+bu.length) l.length bf jf;have G_:=G'.append bQ;generalize Az:(olds.toArray++news.toArray++Builtin.zeroCells (cB e (dJ e)).cells (grownCap w (l.length+bu.length) l.length bf-(l.length+bu.length)))=g4 at ai;have ve:cM g4 0 ((l++bu).length*e.size)=olds++news:=by rw[<- Az,ub,<- G_.1];simp only[Qy,nl];exact Ct
 have cZ:grownCap w (l.length+bu.length) l.length bf*e.size=g4.size:=by rw[<- Az,Cr,size_zeroCells,ut];simp only[Cr,p3,s6,G'.1,wz,<- nh];congr 1;omega
 have eI:fi (view w M) e (l++bu) g4 0:=by
  refine fa.row ?_ ?_
  .rw[<- cZ,lT,dd];exact gM _ oX
  rw[ve];exact G_
 refine⟨⟨_,_,ai,?_⟩,λ_ ky gc=>⟨_,_,ai,?_⟩⟩
 .obtain⟨bD,e1⟩:=hm.Ds (w':=w.drew.alloc (.cells g4 bf)) rfl rfl rfl (by rw[iW];exact xP _) (r5 w.drew _) (λ_=>False) (λb h=>h.elim)
  refine⟨_,_,bD,e1,[_],aI.iM.2 ⟨some ⟨w.heap.size,0,none⟩,grownCap w (l.length+bu.length) l.length bf,by rw[dd],by rw[dd];exact oX,oW,.inr ⟨w.heap.size,0,g4,bf,(0,0),rfl,?_,(eI.mono e1.vw).1,λi x ac=>(eI.mono e1.vw).2 i x ac⟩⟩,rfl⟩;refine jZ.2 ⟨λh=>h.elim (λh => ?_) id,r4 w.drew _⟩;have:=hm.mlt _ h;omega
 have:=ET (K:=K) (w0:=w0) (phx:=phx) (M:=M) (B:=B) (w:=w) hm (id:=ky) gc
  (w':=w.drew.alloc (.cells g4 bf)) rfl rfl rfl (by rw[iW];exact KY _) (r5 w.drew _) dM (l:=l++bu) (r4 w.drew _) (y0 _) (s0 w M) eI (cap:=grownCap w (l.length+bu.length) l.length bf) (by rw[dd];exact oX) oW (by rw[cZ];exact b1 _) false (λh=>by cases h)
 rw[dd]at this;exact this
def akL{e:ag}(dM:0<e.size){t u ty bf:TypeId}{d:TypeDesc}(ht:P.underlying t=some (.slice bf))(aC:(cY P e).1 bf)(aL:P.underlying u=some d)(aJ:d=.string\/∃q,d=.slice q)
  (hm:bM K w0 phx M B w) {x:Value} {bu:List e.aG} {news:List Value} (hx:nZ P w e.size bu.length x news) (bQ:fa (view w M) e bu news) (gn:hn e (aV bu)=true) {ky:Nat} (gc:B ky=.new) :
  ∃r w',(Builtin.append_ #[t,u] ty #[.slice none 0 0,x]).run P w=.ok r w'/\dA K w0 phx M B w (c' B ky (.ob e bu)) (.own ky false) r w':=by
 by_cases hy:bu.length=0
 .have oi:bu=[]:=iR.1 hy
  subst oi;have ak:news=[]:=iR.1 (by rw[bQ.1];simp);obtain⟨i,g1,cD,cQ,gj⟩:=oa aC;refine⟨_,_,Wq (P:=P) ht aL aJ g1 (by grind),?_⟩;obtain⟨cr,aU⟩:=hm.wd (id:=ky) gc (.ob e []) none (λ_ y hy=>by cases hy) (λ_ y hy=>by cases hy) (λ_=>⟨dM,.inl ⟨mO _ _ _,rfl⟩⟩);refine⟨_,_,cr,aU,?_⟩;simp only[ba,d6,bJ,e5];exact⟨.inl ⟨rfl,none,rfl⟩,λh=>by cases h⟩
 have:=(YM (ty:=ty) dM ht aC aL aJ hm hx bQ (l:=[]) (ad:=none) (aI.iM.2 ⟨none,0,rfl,b1 _,by unfold maxLen;omega,.inl rfl⟩) (by simpa[aV]using gn)).2 hy ky gc
 grind
def azb{t u ty bf:TypeId}{i:TypeInfo}{z:Value}(ht:P.underlying t=some (.slice bf))(aL:P.underlying u=some (.int .i64))(ac:P.info? bf=some i)(bs:i.zero=some z){n:Int}(aq:0<=n)(ak:0<n.toNat)
  (jf:n.toNat<=maxLen) (he:n.toNat*i.bytes<=140737488355328) (ab:0<i.size) :
  (Builtin.append_ #[t,u] ty #[.slice none 0 0,.int .i64 n]).run P w =
   .ok (.slice (some ⟨w.heap.size,0,none⟩) n.toNat (grownCap w n.toNat 0 bf))
    (w.drew.alloc (.cells (Builtin.zeroCells z.cells n.toNat++Builtin.zeroCells z.cells (grownCap w n.toNat 0 bf-n.toNat)) bf)):=by
 have DS:IntKind.i64.wrap n=n:=ajz .i64 n (by show(-9223372036854775808:Int)<=n;omega) (by show n<=(9223372036854775807:Int);unfold maxLen at jf;omega);have bn:¬n<0:=J;have hb1:¬(281474976710656<n*(i.bytes:Int)):=by
  grind
 have eR:¬(n.toNat*i.size=0):=by intro h;have:=Nat.mul_pos ak ab;omega
 have asU:¬(n.toNat=0):=J;have asX:¬(i.size=0):=J;have qs:¬(n.toNat<=0):=J;have S_:¬(9223372036854775807<((n.toNat:Int))):=by unfold maxLen at jf;omega
 have ash:=growslice_fits (need:=n.toNat) (old:=0) J he;have S9:¬(281474976710656<Builtin.nextslicecap n.toNat 0*i.bytes):=J;have asM:¬n<=0:=J;have Dw:¬(9223372036854775807<n):=by unfold maxLen at jf;omega
 have asL:max n 0=n:=J;simp[Builtin.append_,run_underlying ht,run_underlying aL,Go.sizeOf,typeInfo,zeroValue,ac,bs,DS,bn,hb1,eR,qs,asU,asX,S_,S9,Question.forced,asInt,asIntOf,Go.newRow,grownCap,Builtin.firstCells,asM,Dw,asL,aq]
end
end Yp
namespace Yp
open Go
def ni:=@List.take_length
def p6:=@List.map_cons
def KI:=@List.foldl_cons
variable {P:Program}
section
variable {K:Kp} {w0 w:World} {phx:cf} {M:Nat->Prop} {B B':Nat->aT} {g:Nat->av} {H:cj}
def YO{e:ag}{x:av}{hq:Value}{bu:List e.aG}(h:(Ga e x).a7 g B=some (bu,B'))(hm:bM K w0 phx M B w)(ai:ba phx (view w M) B x hq):
  B'=B/\∃news,nZ P w e.size bu.length hq news/\fa (view w M) e bu news:=by
 by_cases ab:∃l,x=.sc .str l
 .obtain⟨l,rfl⟩:=ab
  obtain⟨ah,rfl⟩:=dP h;obtain⟨bB,rfl⟩:=jK ah;subst bB;rw[ba.str ai];exact⟨rfl,_,aAt l,fa.bytes l⟩
 have hx:Ga e x=nb false (.sl e) x:=by
  cases x with
  |sc t l=>
   cases t with
   |str=>exact absurd ⟨_,rfl⟩ ab
   |_=>rfl
  |_=>rfl
 rw[hx]at h;obtain⟨az,ad,cap,rfl,R⟩:=Wz h hm ai;refine⟨az,?_⟩;rcases R with R|⟨b,o,c,el,fz,rfl,cD,cQ⟩
 .subst R;exact⟨[],W2 _ _ _,fa.nil e⟩
 exact⟨_,W3 cD cQ,cQ.tq⟩
def av2{e:ag}{x:av}{hq:Value}{bu:List e.aG}(ak:U_ x=true)(h:(Ga e x).a7 g B=some (bu,B'))(ai:ba phx (view w M) B x hq):bu.length≠0:=by
 cases x<;>try(cases ak;done)
 rename_i id eT;cases eT<;>try(cases ak;done)
 have ab:bJ phx (view w M) B (.own id true) hq:=ai;have bE:(t_ false id e).a7 g B=some (bu,B'):=h;simp only[t_,ax.a7]at bE;simp only[bJ]at ab;generalize az:B id=bl at bE ab;cases bl<;>try(cases bE;done)
 .obtain⟨y,c7,O,R⟩:=ax.cK bE
  obtain⟨ah,rfl⟩:=dP O;obtain⟨fL,rfl⟩:=jK ah;cases R
  grind
 obtain⟨ah,rfl⟩:=dP bE;obtain⟨fL,rfl⟩:=jK ah
 grind
def ah0{t:ag}{tid:TypeId}(h:(cY P t).1 tid)(ab:MZ t=true):∃d,P.underlying tid=some d/\(d=.string\/∃q,d=.slice q):=by
 cases t<;>try(cases ab;done)
 .exact⟨_,h.1,.inl rfl⟩
 obtain⟨⟨bf,aL,_⟩,_⟩:=h;exact⟨_,aL,.inr ⟨_,rfl⟩⟩
def akJ{e u:ag}{tid uid ty:TypeId}(ht:(cY P (.sl e)).1 tid)(aL:(cY P u).1 uid)(aQ:MZ u=true){s x r:av}{vs hq:Value}(h:(QI d e s x).a7 g B=some (r,B'))
  (hm:bM K w0 phx M B w) (wS:ba phx (view w M) B s vs) (m5:ba phx (view w M) B x hq) :
  ∃v w',(Builtin.append_ #[tid,uid] ty #[vs,hq]).run P w=.ok v w'/\dA K w0 phx M B w B' r v w':=by
 unfold QI at h;replace h:=gW h;obtain⟨dM,h⟩:=h;have dM:0<e.size:=by simpa using dM
 obtain⟨bu,c7,O,R⟩:=ax.cK h;clear h;obtain⟨rfl,news,hx,bQ⟩:=YO (P:=P) O hm m5;obtain⟨⟨bf,qw,aC⟩,_⟩:=ht;obtain⟨C6,yE,aJ⟩:=ah0 aL aQ;cases s<;>try(cases R;done)
 case nil =>replace R:=i_ R;obtain⟨gn,R⟩:=R;obtain⟨_,gc,rfl,rfl⟩:=w_ R;simp only[ba,d6,bJ]at wS;subst wS;exact akL dM qw aC yE aJ hm hx bQ gn gc
 case own id eT=>
  simp only[ax.a7]at R;generalize az:c7 id=bl at R;cases bl<;>try(cases R;done)
  rename_i bB l;obtain⟨hi,b9,af,R⟩:=ax.cK R;obtain⟨ah,rfl⟩:=dP af;obtain⟨fL,rfl⟩:=jK ah;subst fL;replace R:=i_ R;obtain⟨gn,R⟩:=R;simp only[ax.a7]at R;obtain⟨_,gc,rfl,rfl⟩:=w_ R;have eR:16*d≠id:=λe=>by rw[e,e5]at gc;cases gc
  rw[en _ _ eR]at gc;exact akM dM qw aC yE aJ hm hx bQ az wS gn gc
 case osl id off n=>
  simp only[ax.a7]at R;have ab:bJ phx (view w M) c7 (.osl id off n) vs:=wS;simp only[bJ]at ab;generalize az:c7 id=bl at R ab;cases bl<;>try(cases R;done)
  rename_i bB l;obtain⟨hi,b9,af,R⟩:=ax.cK R;obtain⟨ah,rfl⟩:=dP af;obtain⟨fL,rfl⟩:=jK ah;subst fL;replace R:=i_ R;obtain⟨gn,R⟩:=R;simp only[ax.a7]at R;obtain⟨_,gc,rfl,rfl⟩:=w_ R;have eR:16*d≠id:=λe=>by rw[e,e5]at gc;cases gc
  rw[en _ _ eR]at gc;exact YN dM qw aC yE aJ hm hx bQ az ab.1 ab.2.1 gn gc
 case csl bB l=>
  obtain⟨hi,b9,af,R⟩:=ax.cK R;obtain⟨ah,rfl⟩:=dP af;obtain⟨fL,rfl⟩:=jK ah;subst fL;replace R:=i_ R;obtain⟨gn,R⟩:=R;obtain⟨ad,rfl,cC⟩:=wS;have key:=YM (ty:=ty) dM qw aC yE aJ hm hx bQ cC gn;cases ak:U_ x with
  |true =>rw[ak]at R;obtain⟨_,gc,rfl,rfl⟩:=w_ R;exact key.2 (av2 ak O m5) _ gc
  |false =>rw[ak]at R;cases R;exact key.1
def akK{e:ag}(dM:0<e.size){tid uid ty:TypeId}(ht:(cY P (.sl e)).1 tid)(aL:P.underlying uid=some (.int .i64)){n:Int}(aq:0<=n)(gn:hn e n.toNat=true){id:Nat}(gc:B id=.new)(hm:bM K w0 phx M B w):
  ∃v w',(Builtin.append_ #[tid,uid] ty #[.slice none 0 0,.int .i64 n]).run P w=.ok v w'/\dA K w0 phx M B w (c' B id (.ob e (bR n.toNat e.zero))) (.own id false) v w':=by
 obtain⟨⟨bf,qw,aC⟩,_⟩:=ht;obtain⟨i,g1,cD,cQ,gj⟩:=oa aC;by_cases ak:n.toNat=0
 .have bs:n=0:=J
  subst bs;refine⟨.slice none 0 0,w,by simp[Builtin.append_,run_underlying qw,run_underlying aL,Go.sizeOf,typeInfo,g1,asInt,asIntOf,IntKind.wrap,IntKind.bits],?_⟩;obtain⟨cr,aU⟩:=hm.wd (id:=id) gc (.ob e (bR (0:Int).toNat e.zero)) none (λ_ y hy=>by cases hy) (λ_ y hy=>by cases hy) (λ_=>⟨dM,.inl ⟨mO _ _ _,rfl⟩⟩);refine⟨_,_,cr,aU,?_⟩;simp only[ba,d6,bJ,e5];exact⟨.inl ⟨rfl,none,rfl⟩,λh=>by cases h⟩
 have DC:=Om gn cQ;have jf:=On gn;have ai:=azb (P:=P) (w:=w) (ty:=ty) qw aL g1 gj aq J jf DC (by rw[cD];exact dM);refine⟨_,_,ai,?_⟩;have oX:=grownCap_ge w n.toNat 0 bf;have oW:=grownCap_le_maxLen w n.toNat 0 bf jf;have Hk:∀m,Builtin.zeroCells (cB e (dJ e)).cells m=madeCells (dJ e).toArray (m*e.size):=λm=>by rw[ut];simp[Builtin.zeroCells,madeCells,s6]
 have cZ:(Builtin.zeroCells (cB e (dJ e)).cells n.toNat++Builtin.zeroCells (cB e (dJ e)).cells (grownCap w n.toNat 0 bf-n.toNat)).size=grownCap w n.toNat 0 bf*e.size:=by rw[Cr,size_zeroCells,size_zeroCells,ut];simp only[p3,s6,<- nh];congr 1;omega
 have eI:fi (view w M) e (bR n.toNat e.zero) (Builtin.zeroCells (cB e (dJ e)).cells n.toNat++Builtin.zeroCells (cB e (dJ e)).cells (grownCap w n.toNat 0 bf-n.toNat)) 0:=by
  have O:=PT (view w M) dM (b1 n.toNat);rw[<- Hk]at O;refine fa.row (by rw[cZ,lT];simp only[bR,p2];exact gM _ oX) ?_;have R:=O.tq;have hl:(bR n.toNat e.zero).length*e.size=(Builtin.zeroCells (cB e (dJ e)).cells n.toNat).size:=by rw[size_zeroCells,ut];simp[bR,s6]
  have MO:cM (Builtin.zeroCells (cB e (dJ e)).cells n.toNat++Builtin.zeroCells (cB e (dJ e)).cells (grownCap w n.toNat 0 bf-n.toNat)) 0 ((bR n.toNat e.zero).length*e.size)=cM (Builtin.zeroCells (cB e (dJ e)).cells n.toNat) 0 ((bR n.toNat e.zero).length*e.size):=by rw[hl];simp only[cM,Qy,nl];have:(Builtin.zeroCells (cB e (dJ e)).cells n.toNat).size=(Builtin.zeroCells (cB e (dJ e)).cells n.toNat).toList.length:=bp;rw[this,Ct,ni]
  rw[MO];exact R
 have:=ET (K:=K) (w0:=w0) (phx:=phx) (M:=M) (B:=B) (w:=w) hm (id:=id) gc
  (w':=w.drew.alloc (.cells (Builtin.zeroCells (cB e (dJ e)).cells n.toNat++Builtin.zeroCells (cB e (dJ e)).cells (grownCap w n.toNat 0 bf-n.toNat)) bf))
  rfl rfl rfl (by rw[iW];exact KY _) (r5 w.drew _) dM (l:=bR n.toNat e.zero) (r4 w.drew _) (y0 _) (s0 w M) eI (cap:=grownCap w n.toNat 0 bf) (by simpa[bR]using oX) oW (by rw[cZ];exact b1 _) false (λh=>by cases h)
 have cm:(bR n.toNat e.zero).length=n.toNat:=by simp[bR]
 rw[cm]at this;exact this
def ab5{c:Array Value}{el:TypeId}{fz:Nat×Nat}(hf:iD c fz)(o:Nat)(aa:w.heap[b]?=some (.cells c el fz)):
  ∃w',(markStringish ⟨b,o,none⟩).run P w=.ok () w'/\∃qo,iD c qo/\KL w w' b (.cells c el qo):=by
 refine⟨w.freeze ⟨b,c.size,none⟩ 1,?_,(if fz.1==fz.2 then(c.size,c.size+1) else(min fz.1 c.size,max fz.2 (c.size+1))),?_,?_⟩
 .have ab:w.shape? b=some (el,c.size):=by simp[World.shape?,aa]
  simp[markStringish,shape,Sem.run,ab,freeze]
 .unfold iD at hf ⊢
  grind
 refine⟨rfl,rfl,rfl,by simp[World.freeze],?_,λj ap => ?_⟩
 .simp[World.freeze,wb,aa]
 simp[World.freeze,wb,FL ap]
def aom{sS c?:TypeId}(ab:P.underlying sS=some .string)(ht:(cY P (.sl (.int .u8))).1 c?){id:Nat}(hid:B id=.new)(hl:l.length<=140737488355328)(hm:bM K w0 phx M B w):
  ∃v w',(convert sS c? (.string ⟨l.toArray⟩)).run P w=.ok v w'/\dA K w0 phx M B w (c' B id (.ob (.int .u8) (l:List (bG .u8)))) (.own id false) v w':=by
 obtain⟨⟨bf,aL,aC⟩,_⟩:=ht;have jf:l.length<=maxLen:=by unfold maxLen;omega
 have oX:=grownCap_ge w l.length 0 bf;have oW:=grownCap_le_maxLen w l.length 0 bf jf;have cZ:(⟨l.toArray⟩:ByteArray).size=l.length:=rfl;generalize Az:((⟨l.toArray⟩:ByteArray).data.map (λb=>Value.int .u8 (b.toNat:Int))++Array.replicate (grownCap w l.length 0 bf-l.length) (.int .u8 0))=g4;have my:g4.size=grownCap w l.length 0 bf:=by rw[<- Az];simp;omega
 obtain⟨w',O,qo,aso,R⟩:=ab5 (P:=P) (w:=w.drew.alloc (.cells g4 bf)) (b:=w.heap.size) (y0 g4) 0 (r4 w.drew _);refine⟨.slice (some ⟨w.heap.size,0,none⟩) l.length (grownCap w l.length 0 bf),w',?_,?_⟩
 .have asq:(Question.appendCap l.length 0 bf).cut (w.tape w.drawn (Question.appendCap l.length 0 bf))=grownCap w l.length 0 bf:=rfl
  have aCd:(Array.map (λb=>Value.int .u8 (b.toNat:Int)) l.toArray++Array.replicate (grownCap w l.length 0 bf-l.length) (.int .u8 0))=g4:=Az;have qv:=aC.1;unfold convert;simp only[Sem.run_bind,run_underlying ab,run_underlying aL,Result.andThen,run_underlying qv];unfold Conv.stringToBytes;simp only[Sem.run_bind,run_choose_drew,Question.forced,FJ,if_false,Result.andThen,cZ,asq,Go.newRow,run_newObj_alloc,Sem.run_pure];rw[Az];have yr:(markStringish ⟨w.drew.heap.size,0,none⟩).run P (w.drew.alloc (.cells g4 bf))=.ok () w':=O;simp only[yr,Result.andThen];rfl
 have eI:fi (view w M) (.int .u8) (l:List (bG .u8)) g4 0:=by
  refine fa.row ?_ ?_
  .simp only[ag.size,xU];rw[my]
   show 0+l.length<=_;omega
  have:cM g4 0 ((l:List (bG .u8)).length*(ag.int .u8).size)=l.map λb=>Value.int .u8 b.toNat:=by rw[ub,<- Az];simp only[ag.size,xU,nl,Qy,Array.toList_map];have hl:((⟨l.toArray⟩:ByteArray).data.toList.map λb=>Value.int .u8 (b.toNat:Int)).length=l.length:=bp;show List.take l.length _=_;rw[<- hl];exact Ct
  exact Eq.mpr (congrArg (fa (view w M) (ag.int .u8) l) this) (fa.bytes l)
 refine ET (K:=K) (w0:=w0) (phx:=phx) (M:=M) (B:=B) (w:=w) hm hid R.os R.tape R.output (by rw[R.size,iW];exact KY _) (λb aa=>(R.other b J).trans (r5 w.drew _ b aa)) (e:=.int .u8) bO (l:=(l:List (bG .u8))) R.jd ?_ (s0 w M) eI (cap:=grownCap w l.length 0 bf) oX oW ?_ false (λh=>by cases h)
 .exact aso
 simp only[ag.size,xU];omega
def aol{t:TypeId}(ht:(cY P (.sl (.int .u8))).1 t){id:Nat}{e:ag}{l:List e.aG}{ck:Value}(az:B id=.ob e l)(hm:bM K w0 phx M B w)(ai:bJ phx (view w M) B (.own id true) ck):
  ∃v w',(convert t t ck).run P w=.ok v w'/\dA K w0 phx M B w B (.own id true) v w':=by
 obtain⟨⟨bf,aL,aC⟩,_⟩:=ht;have dK:=hm.blks id;rw[az]at dK;have DM:=ai;simp only[bJ,az]at ai;obtain⟨wQ,eR⟩:=ai;rcases wQ with⟨O,_⟩|⟨b,o,n,cap,O,R,af,au,aY⟩
 .exact absurd O (eR trivial)
 subst R;rcases dK.2 with⟨bF,_⟩|⟨b',dz,c,el,fz,bF,b2,dy,fl,fZ⟩
 .rw[O]at bF;cases bF
 rw[O]at bF;cases bF;obtain⟨w',bL,qo,ca,cq⟩:=ab5 (P:=P) fl (o+0*e.size) b2;refine⟨.slice (some ⟨b,o+0*e.size,none⟩) l.length cap,w',?_,?_⟩
 .have qv:=aC.1
  unfold convert;simp only[Sem.run_bind,run_underlying aL,Result.andThen_ok,beq_self_eq_true,run_underlying qv,bL,Sem.run_pure]
 obtain⟨bD,e1⟩:=hm.put (id:=id) (x:=(b,o,c.size)) (w':=w') (by rw[az];rfl) O fZ cq.os cq.tape cq.output cq.size cq.other (.ob e l) (by rw[az];exact⟨rfl,rfl⟩) λhx=>
  ⟨dK.1,.inr ⟨b,o,c,el,qo,O,cq.jd,dy.mono hx.vw,ca,fZ⟩⟩
 have G9:c' B id (.ob e l)=B:=by
  funext j;by_cases ap:j=id
  .subst ap;rw[e5,az]
  rw[en _ _ ap]
 rw[G9]at bD e1;exact⟨phx,M,bD,e1,DM.mono e1.pl e1.vw e1.bl⟩
def aok{sS c?:TypeId}(ab:(cY P (.sl (.int .u8))).1 sS)(aJ:P.underlying c?=some .string){a:av}{ck:Value}(h:(nb false (.sl (.int .u8)) a).a7 g B=some ((l:List (bG .u8)),B'))
  (hm:bM K w0 phx M B w) (ai:ba phx (view w M) B a ck):B'=B/\(convert sS c? ck).run P w=.ok (.string ⟨l.toArray⟩) w:=by
 obtain⟨⟨bf,aL,aC⟩,_⟩:=ab;obtain⟨az,ad,cap,rfl,R⟩:=Wz h hm ai;refine⟨az,?_⟩;rw[run_convert_bytes_string w sS c? bf _ _ _ aL aC.1 aJ];rcases R with R|⟨b,o,c,el,fz,rfl,cD,cQ⟩
 .have u3:l=[]:=R
  subst u3;cases ad with
  |none=>simp[Conv.bytesToString];rfl
  |some ad =>rfl
 have bQ:=cQ.tq;have ve:cM c o ((l:List (bG .u8)).length*(ag.int .u8).size)=(l.map λx=>(x.toNat:Int)).map (Value.int .u8):=by
  apply Cx;intro i;by_cases ac:i<l.length
  .have aY:=bQ.2 i l[i] (km ac)
   simp only[ag.size,xU]at aY ⊢;have cp:=aI.iK.1 aY;have dN:((cM c o (l:List (bG .u8)).length).drop i)[0]?=some (Value.int .u8 (bG.to .u8 l[i])):=by have cx:=congrArg (λq:List Value=>q[0]?) cp;simp only[FM]at cx;exact cx
   rw[KQ,uy]at dN;rw[dN];simp[ac];rfl
  have hl:=bQ.1;simp only[ag.size,xU]at hl ⊢;have vb:(cM c o (l:List (bG .u8)).length).length=l.length:=hl
  grind
 have adw:=EU (P:=P) (w:=w) (b:=b) (o:=o) (n:=l.length) cD (by have:=cQ.1;simp only[ag.size,xU]at this;exact this);have atp:cM c o l.length=(l.map λx=>(x.toNat:Int)).map (Value.int .u8):=by have:=ve;simp only[ag.size,xU]at this;exact this
 rw[atp]at adw;have kv:=run_bytesToString (P:=P) w ⟨b,o,none⟩ l.length cap _ adw;have TG:∀(l:List UInt8) (s:ByteArray),(l.map λx=>(x.toNat:Int)).foldl (λr n=>r.push (UInt8.ofNat n.toNat)) s=⟨s.data++l.toArray⟩:=by
  intro l;induction l with
  |nil=>intro s;simp
  |cons x l ih =>simp only[p6,KI,ih];simp
 rw[TG]at kv;have:(⟨ByteArray.empty.data++l.toArray⟩:ByteArray)=⟨l.toArray⟩:=bp;rw[this]at kv;exact kv
end
end Yp
namespace Yp
open Go
def j3:=@Bool.eq_iff_iff
def s8:=@List.mem_range
def p0:=@List.all_eq_true
def Cs:=@Bool.not_eq_true'
def Dm:=@Nat.one_pos
variable {P:Program}
def ag.oQ:ag->Nat
 |.pair a b=>max (a.oQ+1) b.oQ
 |.ar _ e=>e.oQ+1
 |_=>1
def ag.R':∀t:ag,0<t.oQ
 |.pair a b=>by have:=ag.R' b;simp only[ag.oQ];omega
 |.ar _ e=>by simp only[ag.oQ];omega
 |.bool=>by decide|.int _=>Dm|.str=>by decide|.sl _=>Dm|.unit=>by decide|.op _=>Dm|.fn _=>Dm
def pB(P:Program):ag->(TypeId->Bool)×(List Field->Bool)
 |.bool=>(λ_=>true,λ_=>false)
 |.int _=>(λ_=>true,λ_=>false)
 |.str=>(λ_=>true,λ_=>false)
 |.unit=>(λt=>!(P.stoodInHeld t),λl=>l.isEmpty)
 |.pair a b=>
  (λt=>!(P.stoodInHeld t)&&(match P.underlying t with
   | some (.struct fs) => (match fs.toList with | f :: r => !(f.name == "_") && (pB P a).1 f.type && (pB P b).2 r | [] => false)
   |_=>false),
   fun l => match l with | f :: r => !(f.name == "_") && (pB P a).1 f.type && (pB P b).2 r | [] => false)
 |.ar _ e=>(λt=>match P.underlying t with|some (.array _ bf)=>(pB P e).1 bf|_=>false,λ_=>false)
 |.sl _=>(λ_=>false,λ_=>false)
 |.op _=>(λ_=>false,λ_=>false)
 |.fn _=>(λ_=>false,λ_=>false)
def RZ(P:Program)(t:ag)(tid:TypeId):Bool:=t.isAgg&&Nat.ble t.oQ 100&&(pB P t).1 tid && !(P.eqGuardType P.depth tid)
def L9{tid:TypeId}{fs:Array Field}(h:P.underlying tid=some (.struct fs)):P.fieldsOf tid=fs:=by simp[Program.fieldsOf,h]
def w7{t:ag}(h:t.isAgg=true)(cs:List Value):cB t cs=.agg cs.toArray:=by simp[cB,h]
def an6{t:ag}{tid:TypeId}(h:(cY P t).1 tid):P.cellsOf tid=t.size:=by obtain⟨i,O,R,_⟩:=oa h;simp[Program.cellsOf,O,R]
section
variable {H H':cj}
def abs{e:ag}{bf:TypeId}(aC:(cY P e).1 bf){d n:Nat}{a b:List e.aG}{cs ds:Array Value}{w:World}(bh:a.length=n)(aa:b.length=n)
  (my:cs.size=n*e.size) (arX:ds.size=n*e.size)
  (ih:∀j,j<n->(Op.equalIn d bf (cB e (cM cs (j*e.size) e.size)) (cB e (cM ds (j*e.size) e.size))).run P w=.ok (e.oS (ao a j e.zero) (ao b j e.zero)) w) :
  ∀is:List Nat,(∀j∈is,j<n)->(Op.eqItems d bf (P.cellsOf bf) cs ds is).run P w=.ok (is.all λj=>e.oS (ao a j e.zero) (ao b j e.zero)) w
 |[],_=>by simp[Op.eqItems]
 |j::is,ap=>by
  have bn:=ap j bp;have l4:(j+1)*e.size<=n*e.size:=gM _ bn;rw[nh]at l4;have dQ:=EV (P:=P) aC (cs:=cs) (off:=j*e.size) J w;have gS:=EV (P:=P) aC (cs:=ds) (off:=j*e.size) J w;have aeg:=abs aC bh aa my arX ih is (λk am=>ap k (by grind));rw[an6 aC]at aeg ⊢;simp only[Op.eqItems,Sem.run_bind,dQ,gS,Result.andThen_ok,ih j bn];cases h:e.oS (ao a j e.zero) (ao b j e.zero) with
  |false=>simp[h]
  |true=>simp[h,aeg]
def akx(f:α->α->Bool)(z:α){a b:List α}(bh:a.length=n)(aa:b.length=n):mT f a b=(List.range n).all λj=>f (ao a j z) (ao b j z):=by
 rw[j3];unfold mT;rw[p0,p0];constructor
 .intro h j ap
  have kV:=s8.1 ap;have:=h (a[j]'J,b[j]'J) (by rw[KU];exact⟨j,fK,bp⟩)
  simpa[ao,lS,show j<a.length by omega,show j<b.length by omega]using this
 intro h p hp;obtain⟨j,ap,rfl⟩:=KU.1 hp;have kV:j<n:=by simp at ap;omega
 have:=h j (s8.2 kV);simpa[ao,lS,show j<a.length by omega,show j<b.length by omega]using this
def LZ(w:World):∀(t:ag),
  (∀(tid:TypeId) (d:Nat) (x y:t.aG) (cs ds:List Value),(pB P t).1 tid=true->(cY P t).1 tid->aI H t x cs->aI H' t y ds->t.oQ<=d->(Op.equalIn d tid (cB t cs) (cB t ds)).run P w=.ok (t.oS x y) w) /\
  (∀(l:List Field) (off d:Nat) (x y:t.aG) (cs ds:Array Value),(pB P t).2 l=true->(cY P t).2 l off->aI H t x (cM cs off t.size)->aI H' t y (cM ds off t.size)->off+t.size<=cs.size->off+t.size<=ds.size->t.oQ<=d+1 ->
   (Op.eqFields d cs ds l).run P w=.ok (t.oS x y) w)
 |.bool=>by refine⟨λtid d x y cs ds _ hf hx hy aJ => ?_,λl off d x y cs ds ah=>by cases ah⟩;obtain⟨n,rfl⟩:∃n,d=n+1:=⟨d-1,by simp only[ag.oQ]at aJ;omega⟩;have O:=aI.oM.1 hx;have R:=aI.oM.1 hy;subst O;subst R;exact run_equalIn_bool w n tid _ _ hf.1
 |.int k=>by refine⟨λtid d x y cs ds _ hf hx hy aJ => ?_,λl off d x y cs ds ah=>by cases ah⟩;obtain⟨n,rfl⟩:∃n,d=n+1:=⟨d-1,by simp only[ag.oQ]at aJ;omega⟩;have O:=aI.iK.1 hx;have R:=aI.iK.1 hy;subst O;subst R;exact run_equalIn_int w n tid k k _ _ hf.1
 |.str=>by refine⟨λtid d x y cs ds _ hf hx hy aJ => ?_,λl off d x y cs ds ah=>by cases ah⟩;obtain⟨n,rfl⟩:∃n,d=n+1:=⟨d-1,by simp only[ag.oQ]at aJ;omega⟩;have O:=aI.m?.1 hx;have R:=aI.m?.1 hy;subst O;subst R;have:=run_equalIn_string (P:=P) w n tid ⟨(x:List UInt8).toArray⟩ ⟨(y:List UInt8).toArray⟩ hf.1;rw[ByteArray.toList_eq,ByteArray.toList_eq]at this;exact this
 |.unit=>by
  refine⟨λtid d x y cs ds ah hf hx hy aJ => ?_,λl off d x y cs ds ah hf hx hy O R aJ => ?_⟩
  .obtain⟨n,rfl⟩:∃n,d=n+1:=⟨d-1,by simp only[ag.oQ]at aJ;omega⟩
   obtain⟨⟨fs,aL,ri⟩,_⟩:=hf;simp only[pB,Cs]at ah;rw[w7 rfl,w7 rfl,run_equalIn_struct w n tid _ _ (by rw[L9 aL];exact aL) ah,L9 aL,ri];rfl
  simp only[pB,List.isEmpty_iff]at ah;subst ah;rfl
 |.pair a b=>by
  have abC:∀(l:List Field) (off d:Nat) (x y:(ag.pair a b).aG) (cs ds:Array Value),(pB P (.pair a b)).2 l=true->(cY P (.pair a b)).2 l off->aI H (.pair a b) x (cM cs off (ag.pair a b).size)->aI H' (.pair a b) y (cM ds off (ag.pair a b).size) ->
    off+(ag.pair a b).size<=cs.size->off+(ag.pair a b).size<=ds.size->(ag.pair a b).oQ<=d+1->(Op.eqFields d cs ds l).run P w=.ok ((ag.pair a b).oS x y) w:=by
   intro l off d x y cs ds ah hf hx hy O R aJ;obtain⟨f,r,rfl,TV,Ht,TF⟩:=hf;simp only[pB,cP,Cs,beq_eq_false_iff_ne]at ah;obtain⟨⟨ak,bh⟩,aa⟩:=ah;have cZ:(ag.pair a b).size=a.size+b.size:=rfl;have split:∀{K:cj} {z:(ag.pair a b).aG} {es:Array Value},aI K (.pair a b) z (cM es off (a.size+b.size))->off+(a.size+b.size)<=es.size->aI K a z.1 (cM es off a.size)/\aI K b z.2 (cM es (off+a.size) b.size):=by
    intro K z es bs bW;obtain⟨c1,c2,aC,bF,b2⟩:=aI.m9.1 bs;rw[OE]at aC;have hl:(cM es off a.size).length=c1.length:=by rw[qQ J,bF.length]
    obtain⟨e1,aU⟩:=List.append_inj aC hl;rw[e1,aU];exact⟨bF,b2⟩
   obtain⟨wV,mz⟩:=split hx O;obtain⟨atR,Uk⟩:=split hy R;simp only[ag.oQ]at aJ;have dQ:=EV (P:=P) Ht (cs:=cs) (off:=off) J w;have gS:=EV (P:=P) Ht (cs:=ds) (off:=off) J w;have bL:=(LZ w a).1 f.type d x.1 y.1 _ _ bh Ht wV atR J;have ca:=(LZ w b).2 r (off+a.size) d x.2 y.2 cs ds aa TF mz Uk J J J;simp only[Op.eqFields];rw[if_pos ak,TV];simp only[Sem.run_bind,dQ,gS,Result.andThen_ok,bL];show _=Result.ok (c3 (a.oS x.1 y.1) (b.oS x.2 y.2)) w;cases h:a.oS x.1 y.1 with
   |false=>simp[h,c3]
   |true=>simp[h,c3,ca]
  refine⟨λtid d x y cs ds ah hf hx hy aJ => ?_,abC⟩;obtain⟨n,rfl⟩:∃n,d=n+1:=⟨d-1,by have:=ag.R' (.pair a b);omega⟩;obtain⟨⟨fs,aL,f,r,ri,aK,Ht,TF⟩,_⟩:=hf;simp only[pB,cP,Cs,aL,ri]at ah;rw[w7 rfl,w7 rfl,run_equalIn_struct w n tid _ _ (by rw[L9 aL];exact aL) ah.1,L9 aL,ri];have dZ:=hx.length;have fc:=hy.length;have bz:cM cs.toArray 0 (ag.pair a b).size=cs:=by simp[cM,<- dZ]
  have ay:cM ds.toArray 0 (ag.pair a b).size=ds:=by simp[cM,<- fc]
  refine abC (f::r) 0 n x y cs.toArray ds.toArray (by simp only[pB,cP,Cs];exact ah.2) ⟨f,r,rfl,aK,Ht,by rw[lT];exact TF⟩ (by rw[bz];exact hx) (by rw[ay];exact hy) (by simp[dZ]) (by simp[fc]) aJ
 |.ar n e=>by
  refine⟨λtid d x y cs ds ah hf hx hy aJ => ?_,λl off d x y cs ds ah=>by cases ah⟩;obtain⟨m,rfl⟩:∃m,d=m+1:=⟨d-1,by have:=ag.R' (.ar n e);omega⟩;obtain⟨⟨bf,aL,aC⟩,_⟩:=hf;simp only[pB,aL]at ah;obtain⟨i,ac,_⟩:=oa aC;simp only[ag.oQ]at aJ;obtain⟨cN,cX,a3⟩:=aI.wg.1 hx;obtain⟨e9,eo,jH⟩:=aI.wg.1 hy;rw[w7 rfl,w7 rfl,run_equalIn_array w m _ _ aL ac];rw[abs aC (a:=(x:List e.aG)) (b:=(y:List e.aG)) (n:=n) cN e9 (by simp[cX]) (by simp[eo]) (λj ap => ?_) _ (λj ap=>s8.1 ap)]
  .show _=Result.ok (mT (λp q=>e.oS p q) (x:List e.aG) (y:List e.aG)) w
   rw[akx _ e.zero cN e9]
  exact(LZ w e).1 bf m _ _ _ _ ah aC (a3 j _ (A8 J)) (jH j _ (A8 J)) J
 |.sl _=>by refine⟨λtid d x y cs ds ah=>(by cases ah),λl off d x y cs ds ah=>by cases ah⟩
 |.op _=>by refine⟨λtid d x y cs ds ah=>(by cases ah),λl off d x y cs ds ah=>by cases ah⟩
 |.fn _=>by refine⟨λtid d x y cs ds ah=>(by cases ah),λl off d x y cs ds ah=>by cases ah⟩
end
def qj(P:Program)(bv:Nat->Option ag)(C:Nat->Bool):Prop:=∀tid t,C tid=true->bv tid=some t->RZ P t tid=true
def aaA(P:Program)(bv:Nat->Option ag):∀(l:List Nat),(l.all λi=>match bv i with|some t=>RZ P t i|none=>true)=true->qj P bv (Il l)
 |[],_=>λtid t h=>by cases h
 |i::r,h=>λtid t cC hT=>by
  simp only[FN,cP]at h;simp only[Il]at cC;cases aa:Nat.beq i tid with
  |true=>rw[fU aa]at h;rw[hT]at h;exact h.1
  |false=>rw[aa]at cC;exact aaA P bv r h.2 tid t cC hT
end Yp