/- A part of the proof of the statements of this seat: the engine that turns code into plain functions, and its soundness. No condition of its own. -/
import Derived.WalkKit
import Derived.ChangeKeysEq
set_option linter.unusedVariables false
set_option linter.unusedSimpArgs false
set_option linter.defProp false
noncomputable section
variable {eP eU:Bool}{l:List UInt8}{L N a b d f i j k m n o off:Nat}{α β:Type}
namespace Yp
def J{p:Prop}(h:p:=by omega):p:=h
def bf{p:Prop}(h:p:=by simp):p:=h
def bN{p:Prop}(h:p:=by decide):p:=h
def fS{p:Prop}(h:p:=by simp;omega):p:=h
end Yp
namespace Yp
open Go
def l9:=@List.cons_append
def i64(n:Int):Int:=IntKind.i64.wrap n
def Hb(n:Int):Int:=IntKind.i32.wrap n
def acI(n:Int):Int:=IntKind.i16.wrap n
def acJ(n:Int):Int:=IntKind.i8.wrap n
def u8(n:Int):UInt8:=UInt8.ofInt n
def u16(n:Int):UInt16:=UInt16.ofInt n
def u32(n:Int):UInt32:=UInt32.ofInt n
def u64(n:Int):UInt64:=UInt64.ofInt n
def aN(x:UInt8):Int:=(x.toNat:Int)
def wz(x:UInt16):Int:=(x.toNat:Int)
def a3(x:UInt32):Int:=(x.toNat:Int)
def cz(x:UInt64):Int:=(x.toNat:Int)
def ab(n:Int):Nat:=n.toNat
def bb(n:Nat):Int:=(n:Int)
def aC(a b:Int):Int:=a+b
def bg(a b:Int):Int:=a-b
def fr(a b:Int):Int:=a*b
def ga(a b:Int):Int:=Int.tdiv a b
def ej(a b:Int):Int:=Int.tmod a b
def bF(a b:Nat):Nat:=a+b
def ce(a b:Nat):Nat:=a-b
def kv(a b:Nat):Bool:=Nat.blt a b
def bP(a b:Nat):Bool:=Nat.beq a b
def aZ(a:Bool):Bool:=!a
def cV(a b:Bool):Bool:=a&&b
def mB(a b:Bool):Bool:=a||b
def qD(a b:Bool):Bool:=a==b
def aF(a b:Int):Bool:=decide (a<b)
def b?(a b:Int):Bool:=decide (a<=b)
def af(a b:Int):Bool:=a==b
def seq(a b:List UInt8):Bool:=a==b
def aP(α:Type):List α:=[]
def aV{α:Type}(l:List α):Nat:=l.length
def cj(c n:Nat):Bool:=decide (n*c<=140737488355328)
def aK(i:Int)(n:Int):Bool:=decide (0<=i)&&decide (i<n)
def b5(lo ac n:Int):Bool:=decide (0<=lo)&&decide (lo<=ac)&&decide (ac<=n)
def g8(a b:Int):Int:=if b<a then b else a
def cX(a b:Int):Int:=if b > a then b else a
def i9(k:IntKind)(x y:Int):Int:=((BitVec.ofInt k.bits x&&&BitVec.ofInt k.bits y).toNat:Int)
def g?(k:IntKind)(x y:Int):Int:=((BitVec.ofInt k.bits x|||BitVec.ofInt k.bits y).toNat:Int)
def fO(k:IntKind)(x y:Int):Int:=((BitVec.ofInt k.bits x^^^BitVec.ofInt k.bits y).toNat:Int)
def HR(k:IntKind)(x y:Int):Int:=((BitVec.ofInt k.bits x &&& ~~~(BitVec.ofInt k.bits y)).toNat:Int)
def hU(k:IntKind)(x y:Int):Int:=x*2^(Nat.min y.toNat k.bits)
def fB(k:IntKind)(x y:Int):Int:=Int.fdiv x (2^(Nat.min y.toNat k.bits))
def ig(s:List UInt8)(i:Nat):Nat×Nat:=Utf8.decode ⟨s.toArray⟩ i
def xx(a b:List UInt8):Bool:=Op.bytesLess a b
def sub{α:Type}(l:List α)(lo ac:Int):List α:=(l.drop lo.toNat).take (ac.toNat-lo.toNat)
def nN{α:Type}(f:α->α->Bool)(a b:List α):Bool:=(a.zip b).all λp=>f p.1 p.2
def cm{α:Type}(l m:List α):List α:=l++m
def an{α:Type}(l:List α)(i:Nat)(d:α):α:=l.getD i d
def cg{α:Type}(l:List α)(i:Nat)(x:α):List α:=l.set i x
def bM{α:Type}(n:Nat)(x:α):List α:=List.replicate n x
def cut{α:Type}(l:List α)(off n:Nat):List α:=(l.drop off).take n
def len{α:Type}(l:List α):Int:=(l.length:Int)
def T{α:Type}(c:Bool)(a b:α):α:=bif c then a else b
def ak{α:Type}(c:Bool)(a:Option α):Option α:=bif c then a else none
def ob{α β:Type}(o:Option α)(k:α->Option β):Option β:=match o with|some a=>k a|none=>none
def bH:IntKind->Type
 |.u8=>UInt8|.u16=>UInt16|.u32=>UInt32|.u64=>UInt64
 |.i8=>Int|.i16=>Int|.i32=>Int|.i64=>Int
def bH.of:(k:IntKind)->Int->bH k
 |.u8,n=>u8 n|.u16,n=>u16 n|.u32,n=>u32 n|.u64,n=>u64 n
 |.i8,n=>acJ n|.i16,n=>acI n|.i32,n=>Hb n|.i64,n=>i64 n
def bH.lit:(k:IntKind)->Int->bH k
 |.u8,n=>u8 n|.u16,n=>u16 n|.u32,n=>u32 n|.u64,n=>u64 n
 |.i8,n=>n|.i16,n=>n|.i32,n=>n|.i64,n=>n
def bH.to:(k:IntKind)->bH k->Int
 |.u8,x=>aN x|.u16,x=>wz x|.u32,x=>a3 x|.u64,x=>cz x
 |.i8,x=>x|.i16,x=>x|.i32,x=>x|.i64,x=>x
def bH.zero:(k:IntKind)->bH k
 |.u8=>u8 0|.u16=>u16 0|.u32=>u32 0|.u64=>u64 0
 |.i8=>(0:Int)|.i16=>(0:Int)|.i32=>(0:Int)|.i64=>(0:Int)
inductive ag where
 |bool|int (k:IntKind)|str|sl (e:ag)|unit|pair (a b:ag)|ar (n:Nat) (e:ag)
 |op (k:Nat)
 |fn (l:List Nat)
 deriving Inhabited
def ag.aG:ag->Type
 |.bool=>Bool
 |.int k=>bH k
 |.str=>List UInt8
 |.sl e=>List e.aG
 |.unit=>Unit
 |.pair a b=>a.aG×b.aG
 |.ar _ e=>List e.aG
 |.op _=>Unit
 |.fn _=>Nat
def ag.zero:(t:ag)->t.aG
 |.bool=>false
 |.int k=>bH.zero k
 |.str=>([]:List UInt8)
 |.sl e=>([]:List e.aG)
 |.unit=>()
 |.pair a b=>(a.zero,b.zero)
 |.ar n e=>List.replicate n e.zero
 |.op _=>()
 |.fn _=>(0:Nat)
instance (t:ag):Inhabited t.aG:=⟨t.zero⟩
def ag.size:ag->Nat
 |.bool=>1|.int _=>1|.str=>1|.sl _=>1|.unit=>0
 |.pair a b=>a.size+b.size
 |.ar n e=>n*e.size
 |.op _=>1|.fn _=>1
def ag.bytes:ag->Nat
 |.bool=>1|.int .u8=>1|t=>24*t.size+8
def ag.isAgg:ag->Bool
 |.unit=>true|.pair _ _=>true|.ar _ _=>true|_=>false
def ag.mF:ag->Bool
 |.sl _=>false|.pair a b=>a.mF&&b.mF|.ar _ e=>e.mF|_=>true
def ag.same:(a b:ag)->Option (PLift (a=b))
 |.bool,.bool=>some ⟨rfl⟩
 |.str,.str=>some ⟨rfl⟩
 |.unit,.unit=>some ⟨rfl⟩
 |.int k,.int k'=>if h:k=k' then some ⟨h▸rfl⟩ else none
 |.sl a,.sl b=>match ag.same a b with|some ⟨h⟩=>some ⟨h▸rfl⟩|none=>none
 |.pair a b,.pair c d=>match ag.same a c,ag.same b d with|some ⟨h⟩,some ⟨bB⟩=>some ⟨h▸bB▸rfl⟩|_,_=>none
 |.ar n a,.ar m b=>if h:n=m then(match ag.same a b with|some ⟨bB⟩=>some ⟨h▸bB▸rfl⟩|none=>none) else none
 |.op k,.op k'=>if h:k=k' then some ⟨h▸rfl⟩ else none
 |.fn k,.fn k'=>if h:k=k' then some ⟨h▸rfl⟩ else none
 |_,_=>none
def ag.is(a b:ag):Bool:=(ag.same a b).isSome
def ag.cast(a b:ag)(x:a.aG):Option b.aG:=match ag.same a b with|some ⟨h⟩=>some (h▸x)|none=>none
def ag.lp(a b:ag)(x:List a.aG):Option (List b.aG):=match ag.same a b with|some ⟨h⟩=>some (h▸x)|none=>none
def ag.oE:(t:ag)->t.aG->t.aG->Bool
 |.bool,a,b=>qD a b
 |.int k,a,b=>af (bH.to k a) (bH.to k b)
 |.str,a,b=>seq a b
 |.sl _,_,_=>false
 |.unit,_,_=>true
 |.pair s t,a,b=>cV (s.oE a.1 b.1) (t.oE a.2 b.2)
 |.ar _ e,a,b=>nN (λp q=>e.oE p q) (a:List e.aG) (b:List e.aG)
 |.op _,_,_=>false
 |.fn _,_,_=>false
def m3:Nat->ag
 |0=>.unit|n+1=>.pair (.op 3) (m3 n)
inductive ez where
 |im (t:ag)
 |ow (e:ag)
 |cl (e:ag)
 deriving Inhabited
def ez.aG:ez->Type
 |.im t=>t.aG|.ow e=>List e.aG|.cl e=>List e.aG
def h3:List ag->Type
 |[]=>Unit|t::ts=>t.aG×h3 ts
def eq:List ez->Type
 |[]=>Unit|t::ts=>t.aG×eq ts
def ez.zero:(t:ez)->t.aG
 |.im t=>t.zero|.ow e=>([]:List e.aG)|.cl e=>([]:List e.aG)
def y9:(l:List ez)->eq l
 |[]=>()|t::ts=>(t.zero,y9 ts)
instance (l:List ez):Inhabited (eq l):=⟨y9 l⟩
def ez.mF:ez->Bool
 |.im t=>t.mF|_=>false
structure ff where
 args:List ag
 res:List ez
 fn:h3 args->Option (eq res)
structure i3 where
 ty:ag
 args:List ag
 res:List ez
 fn:ty.aG×h3 args->Option (ty.aG×eq res)
structure ot where
 ty:ag
 args:List ag
 rt:ag
 ks:List Nat
 fn:ty.aG×h3 args->Option (ty.aG×Nat×eq [.im rt])
def Dv:List (Nat×ot)->Nat->Option ot
 |[],_=>none
 |(i,t)::r,j=>bif Nat.beq i j then some t else Dv r j
def yl:List (Nat×i3)->Nat->Option i3
 |[],_=>none
 |(i,t)::r,j=>bif Nat.beq i j then some t else yl r j
def Dw:List (Nat×ag)->Nat->Option ag
 |[],_=>none
 |(i,t)::r,j=>bif Nat.beq i j then some t else Dw r j
def uH:List (Nat×ff)->Nat->Option ff
 |[],_=>none
 |(i,t)::r,j=>bif Nat.beq i j then some t else uH r j
inductive nJ where
 |fst|snd|ix (i:Nat)
inductive iP where
 |ptr (id:Nat) (p:List nJ)
 |iX (t:ag) (x:t.aG)
inductive av where
 |bad|undef
 |kb (b:Bool)
 |nq (c:Bool)
 |sc (t:ag) (x:t.aG)
 |nil
 |own (id:Nat) (eP:Bool)
 |osl (id off len:Nat)
 |csl (e:ag) (l:List e.aG)
 |ptr (id:Nat) (p:List nJ)
 |opt (id i:Nat) (p:List nJ)
 |ipt (e:ag) (l:List e.aG) (i:Nat) (p:List nJ)
 |itp (id:Nat)
 |two (a b:av)
 |agg (t:ag) (a:av)
 |tup (a:av)
 |clo (f dU:Nat) (cZ:List iP)
 |ifc (tid:Nat) (t:ag) (x:t.aG)
 |mpp (id:Nat)
 |psl (id n:Nat)
 deriving Inhabited
inductive aU where
 |new
 |fq
 |box (t:ag) (v:av)
 |ob (e:ag) (l:List e.aG)
 |fz (e:ag) (l:List e.aG)
 |it (s:List UInt8) (jG:Nat)
 |mp (kt vt:ag) (l:List (kt.aG×av))
 deriving Inhabited
inductive dR where
 |e
 |n (v:av) (l r:dR)
 deriving Inhabited
def dR.mf:Nat->dR->Nat->av
 |0,_,_=>.bad
 |_+1,.e,_=>.bad
 |f+1,.n v l r,i=>bif Nat.beq i 0 then v else bif Nat.beq (i%2) 1 then l.mf f (i/2) else r.mf f (i/2-1)
def dR.set:Nat->dR->Nat->av->dR
 |0,t,_,_=>t
 |f+1,.e,i,u=>bif Nat.beq i 0 then .n u .e .e else bif Nat.beq (i%2) 1 then .n .bad (dR.set f .e (i/2) u) .e else .n .bad .e (dR.set f .e (i/2-1) u)
 |f+1,.n v l r,i,u=>bif Nat.beq i 0 then .n u l r else bif Nat.beq (i%2) 1 then .n v (l.set f (i/2) u) r else .n v l (r.set f (i/2-1) u)
structure aR where
 t:dR
 h:List (Nat×aU)
 w:List Nat
 deriving Inhabited
def aR.bW(s:aR)(i:Nat):av:=s.t.mf 40 i
def qV:List (Nat×aU)->Nat->aU
 |[],_=>.new
 |(i,b)::r,j=>bif Nat.beq i j then b else qV r j
def aR.aW(s:aR)(id:Nat):aU:=qV s.h id
def aR.l3(s:aR)(i:Nat)(v:av):aR:={ s with t:=s.t.set 40 i v }
def AY:List (Nat×aU)->Nat->aU->List (Nat×aU)
 |[],j,b=>[(j,b)]
 |(i,c)::r,j,b=>bif Nat.beq i j then(j,b)::r else(i,c)::AY r j b
def aR.oc(s:aR)(id:Nat)(b:aU):aR:={ s with h:=AY s.h id b,w:=id::s.w }
def aR.em(s:aR):List (Nat×aU)->aR
 |[]=>s
 |(i,b)::r=>(s.em r).oc i b
def F7{β:Type 1}:List iP->(List iP->β)->β
 |[],k=>k []
 |.ptr id p::r,k=>F7 r λr=>k (.ptr id p::r)
 |.iX t x::r,k=>F7 r λr=>k (.iX t x::r)
def anL{β:Type 1}(l:List iP)(k:List iP->β):F7 l k=k l:=by
 induction l generalizing k with
 |nil=>rfl
 |cons c r ih=>cases c<;>simp only[F7,ih]
def ng{β:Type 1}:av->(av->β)->β
 |.bad,k=>k .bad
 |.undef,k=>k .undef
 |.kb true,k=>k (.kb true)
 |.kb false,k=>k (.kb false)
 |.nq c,k=>k (.nq c)
 |.sc t x,k=>k (.sc t x)
 |.nil,k=>k .nil
 |.own id eP,k=>k (.own id eP)
 |.osl id off n,k=>k (.osl id off n)
 |.csl e l,k=>k (.csl e l)
 |.ptr id p,k=>k (.ptr id p)
 |.opt id i p,k=>k (.opt id i p)
 |.ipt e l i p,k=>k (.ipt e l i p)
 |.itp id,k=>k (.itp id)
 |.two a b,k=>ng a λa=>ng b λb=>k (.two a b)
 |.agg t a,k=>ng a λa=>k (.agg t a)
 |.tup a,k=>ng a λa=>k (.tup a)
 |.clo f dU cZ,k=>F7 cZ λcZ=>k (.clo f dU cZ)
 |.ifc i t x,k=>k (.ifc i t x)
 |.mpp id,k=>k (.mpp id)
 |.psl id n,k=>k (.psl id n)
def xP{β:Type 1}(v:av)(k:av->β):ng v k=k v:=by
 induction v generalizing k with
 |kb b=>cases b<;>rfl
 |two a b bc Y=>simp only[ng,bc,Y]
 |agg t a bc=>simp only[ng,bc]
 |tup a bc=>simp only[ng,bc]
 |clo f dU cZ=>simp only[ng,anL]
 |_=>rfl
def K_{α:Type}{β:Type 1}:List (α×av)->(List (α×av)->β)->β
 |[],k=>k []
 |(a,v)::r,k=>ng v λv=>K_ r λr=>k ((a,v)::r)
def anN{β:Type 1}(l:List (α×av))(k:List (α×av)->β):K_ l k=k l:=by
 induction l generalizing k with
 |nil=>rfl
 |cons c r ih=>simp only[K_,xP,ih]
def RE{β:Type 1}:aU->(aU->β)->β
 |.new,k=>k .new
 |.fq,k=>k .fq
 |.box t v,k=>ng v λv=>k (.box t v)
 |.ob e l,k=>k (.ob e l)
 |.fz e l,k=>k (.fz e l)
 |.it s p,k=>k (.it s p)
 |.mp kt vt l,k=>K_ l λl=>k (.mp kt vt l)
def anK{β:Type 1}(v:aU)(k:aU->β):RE v k=k v:=by cases v<;>simp only[RE,xP,anN]
def vc{β:Type 1}:Nat->dR->Nat->av->(dR->β)->β
 |0,t,_,_,k=>k t
 |f+1,.e,i,u,k=>bif Nat.beq i 0 then k (.n u .e .e) else bif Nat.beq (i%2) 1 then vc f .e (i/2) u λl=>k (.n .bad l .e) else vc f .e (i/2-1) u λr=>k (.n .bad .e r)
 |f+1,.n v l r,i,u,k=>bif Nat.beq i 0 then k (.n u l r) else bif Nat.beq (i%2) 1 then vc f l (i/2) u λl=>k (.n v l r) else vc f r (i/2-1) u λr=>k (.n v l r)
def VG{β:Type 1}(f:Nat)(t:dR)(i:Nat)(u:av)(k:dR->β):vc f t i u k=k (t.set f i u):=by
 induction f generalizing t i k with
 |zero=>rfl
 |succ f ih=>
  cases t with
  |e=>simp only[vc,dR.set,ih];cases Nat.beq i 0<;>cases Nat.beq (i%2) 1<;>rfl
  |n v l r=>simp only[vc,dR.set,ih];cases Nat.beq i 0<;>cases Nat.beq (i%2) 1<;>rfl
def MZ{β:Type 1}:List (Nat×aU)->Nat->aU->(List (Nat×aU)->β)->β
 |[],j,b,k=>k [(j,b)]
 |(i,c)::r,j,b,k=>bif Nat.beq i j then k ((j,b)::r) else MZ r j b λr=>k ((i,c)::r)
def avk{β:Type 1}(l:List (Nat×aU))(i:Nat)(v:aU)(k:List (Nat×aU)->β):MZ l i v k=k (AY l i v):=by
 induction l generalizing k with
 |nil=>rfl
 |cons x r ih=>cases h:Nat.beq x.1 i<;>simp only[MZ,AY,ih,h,cond]
def aR.Bc{β:Type 1}(s:aR)(i:Nat)(v:av)(k:aR->β):β:=
 match s with|⟨t,h,w⟩=>ng v λv=>vc 40 t i v λt=>k ⟨t,h,w⟩
def aR.IJ{β:Type 1}(s:aR)(i:Nat)(v:av)(k:aR->β):s.Bc i v k=k (s.l3 i v):=by cases s;simp only[aR.Bc,xP,VG,aR.l3]
def aR.Bb{β:Type 1}(s:aR)(id:Nat)(b:aU)(k:aR->β):β:=
 match s with|⟨t,h,w⟩=>RE b λb=>MZ h id b λh=>k ⟨t,h,id::w⟩
def aR.IH{β:Type 1}(s:aR)(i:Nat)(v:aU)(k:aR->β):s.Bb i v k=k (s.oc i v):=by cases s;simp only[aR.Bb,anK,avk,aR.oc]
def aR.wT{β:Type 1}(s:aR):List (Nat×aU)->(aR->β)->β
 |[],k=>k s
 |(i,b)::r,k=>s.wT r λs=>s.Bb i b k
def aR.II{β:Type 1}(s:aR)(l:List (Nat×aU))(k:aR->β):s.wT l k=k (s.em l):=by
 induction l generalizing k with
 |nil=>rfl
 |cons x r ih=>simp only[aR.wT,aR.IH,ih,aR.em]
inductive aE (σ ρ:Type) where
 |nx (x:σ)|ex (k:Nat) (x:σ)|rt (r:ρ)
 deriving Inhabited
def b_{σ ρ β:Type}(o:Option (aE σ ρ))(kn:σ->Option β)(hy:Nat->σ->Option β)(hQ:ρ->Option β):Option β:=
 match o with
 |some (.nx a)=>kn a|some (.ex i a)=>hy i a|some (.rt r)=>hQ r|none=>none
inductive aS (β:Type):Type 1 where
 |fail
 |leaf (a:β)
 |br (c:Bool) (x y:aS β)
 |chk (c:Bool) (x:aS β)
 |bo {α:Type} (d:α) (o:Option α) (k:α->aS β)
 |cs {σ ρ:Type} (d:σ) (e:ρ) (o:Option (aE σ ρ)) (kn:σ->aS β) (hy:Nat->σ->aS β) (hQ:ρ->aS β)
def aS.bind{α β:Type}:aS α->(α->aS β)->aS β
 |.fail,_=>.fail
 |.leaf a,f=>f a
 |.br c x y,f=>.br c (x.bind f) (y.bind f)
 |.chk c x,f=>.chk c (x.bind f)
 |.bo d o k,f=>.bo d o λa=>(k a).bind f
 |.cs d e o kn hy hQ,f=>.cs d e o (λa=>(kn a).bind f) (λk a=>(hy k a).bind f) (λa=>(hQ a).bind f)
def aS.bI{α:Type}:aS α->Option α
 |.fail=>none
 |.leaf a=>some a
 |.br c x y=>T c x.bI y.bI
 |.chk c x=>ak c x.bI
 |.bo _ o k=>ob o λa=>(k a).bI
 |.cs _ _ o kn hy hQ=>b_ o (λa=>(kn a).bI) (λi a=>(hy i a).bI) (λr=>(hQ r).bI)
def aS.oK{α:Type}:aS α->List α
 |.fail=>[]
 |.leaf a=>[a]
 |.br _ x y=>x.oK++y.oK
 |.chk _ x=>x.oK
 |.bo d _ k=>(k d).oK
 |.cs d e _ kn hy hQ=>(kn d).oK++(hy 0 d).oK++(hQ e).oK
def Cf{α:Type}{β:Type 1}:List α->List α->(List α->β)->β
 |[],m,k=>k m
 |a::r,m,k=>Cf r m λr=>k (a::r)
def XH{β:Type 1}(l m:List α)(k:List α->β):Cf l m k=k (l++m):=by
 induction l generalizing k with
 |nil=>rfl
 |cons a r ih=>simp only[Cf,ih,l9]
def aS.p_{α:Type}{β:Type 1}:aS α->(List α->β)->β
 |.fail,k=>k []
 |.leaf a,k=>k [a]
 |.br _ x y,k=>x.p_ λl=>y.p_ λm=>Cf l m k
 |.chk _ x,k=>x.p_ k
 |.bo d _ f,k=>(f d).p_ k
 |.cs d e _ kn hy hQ,k=>(kn d).p_ λl=>(hy 0 d).p_ λm=>(hQ e).p_ λn=>Cf l m λl=>Cf l n k
def aS.adc{β:Type 1}(t:aS α)(k:List α->β):t.p_ k=k t.oK:=by
 induction t generalizing k with
 |fail=>rfl
 |leaf a=>rfl
 |br c x y hx bs=>simp only[aS.p_,hx,bs,XH,aS.oK]
 |chk c x hx=>simp only[aS.p_,hx,aS.oK]
 |bo d o f hf=>simp only[aS.p_,hf,aS.oK]
 |cs d e o kn hy hQ am az aj=>simp only[aS.p_,am,az,aj,XH,aS.oK]
def p8:List UInt32:=[u32 1116352408,u32 1899447441,u32 3049323471,u32 3921009573,u32 961987163,u32 1508970993,u32 2453635748,u32 2870763221,u32 3624381080,u32 310598401,u32 607225278,u32 1426881987,u32 1925078388,u32 2162078206,u32 2614888103,u32 3248222580,u32 3835390401,u32 4022224774,u32 264347078,u32 604807628,u32 770255983,u32 1249150122,u32 1555081692,u32 1996064986,u32 2554220882,u32 2821834349,u32 2952996808,u32 3210313671,u32 3336571891,u32 3584528711,u32 113926993,u32 338241895,u32 666307205,u32 773529912,u32 1294757372,u32 1396182291,u32 1695183700,u32 1986661051,u32 2177026350,u32 2456956037,u32 2730485921,u32 2820302411,u32 3259730800,u32 3345764771,u32 3516065817,u32 3600352804,u32 4094571909,u32 275423344,u32 430227734,u32 506948616,u32 659060556,u32 883997877,u32 958139571,u32 1322822218,u32 1537002063,u32 1747873779,u32 1955562222,u32 2024104815,u32 2227730452,u32 2361852424,u32 2428436474,u32 2756734187,u32 3204031479,u32 3329325298]
def gA:Type 1:=Nat->List av->aR->aS (av×aR)
structure dl where
 b6:Nat->Option ag
 G:Nat->Option ff
 I:Nat->Option gA:=λ_=>none
 /-- maps' types -/
 M:Nat->Option (ag×ag):=λ_=>none
 /-- types whose values may be compared -/
 C:Nat->Bool:=λ_=>false
 /-- the program's variable -/
 K:Option Nat:=none
 b:Nat:=0
 /-- functions that change a variable of their amu -/
 X:Nat->Option i3:=λ_=>none
 /-- are loops unrolled,and tests decided? -/
 U:Bool:=false
 /-- the function that apI up what goes ay8,and the type of what it apI up -/
 Pn:Option (Nat×Nat):=none
 /-- functions that change a variable of their amu,and may hand up what goes ay8 -/
 Q:Nat->Option ot:=λ_=>none
 /-- are pieces of own slices appended to in place? -/
 A:Bool:=false
def uI:List (Nat×gA)->Nat->Option gA
 |[],_=>none
 |(i,t)::r,j=>bif Nat.beq i j then some t else uI r j
def HF:List (Nat×ag×ag)->Nat->Option (ag×ag)
 |[],_=>none
 |(i,t)::r,j=>bif Nat.beq i j then some t else HF r j
def HE:List Nat->Nat->Bool
 |[],_=>false
 |i::r,j=>bif Nat.beq i j then true else HE r j
inductive aw (α:Type):Type 1 where
 |fail
 |ret (a:α)
 |chk (c:Bool) (k:aw α)
 |br (c:Bool) (x y:aw α)
 |bo {β:Type} (d:β) (o:Option β) (k:β->aw α)
 |rt (i:Nat) (k:av->aw α)
 |rb (id:Nat) (k:aU->aw α)
 |eY (id:Nat) (b:aU) (k:aw α)
def aw.bind{α β:Type}:aw α->(α->aw β)->aw β
 |.fail,_=>.fail
 |.ret a,f=>f a
 |.chk c k,f=>.chk c (k.bind f)
 |.br c x y,f=>.br c (x.bind f) (y.bind f)
 |.bo d o k,f=>.bo d o λa=>(k a).bind f
 |.rt i k,f=>.rt i λv=>(k v).bind f
 |.rb i k,f=>.rb i λv=>(k v).bind f
 |.eY i b k,f=>.eY i b (k.bind f)
instance:Monad aw where
 pure:=.ret
 bind:=.bind
structure O9 where
 rt:Nat
 rb:List Nat
 wr:List (Nat×aU)
def n7:List (Nat×aU)->Nat->aU->aU
 |[],_,d=>d
 |(i,b)::r,j,d=>bif Nat.beq i j then b else n7 r j d
def aw.run{α:Type}(s:aR):aw α->Nat->List Nat->List (Nat×aU)->aS (α×O9)
 |.fail,_,_,_=>.fail
 |.ret a,fA,fs,wr=>.leaf (a,⟨fA,fs,wr⟩)
 |.chk c k,fA,fs,wr=>.chk c (k.run s fA fs wr)
 |.br c x y,fA,fs,wr=>.br c (x.run s fA fs wr) (y.run s fA fs wr)
 |.bo d o k,fA,fs,wr=>.bo d o λa=>(k a).run s fA fs wr
 |.rt i k,fA,fs,wr=>(k (s.bW i)).run s (fA|||2^i) fs wr
 |.rb i k,fA,fs,wr=>(k (n7 wr i (s.aW i))).run s fA (i::fs) wr
 |.eY i b k,fA,fs,wr=>k.run s fA fs ((i,b)::wr)
def aw.opt{α:Type}:Option α->aw α
 |some a=>.ret a|none=>.fail
def aw.need(b:Bool):aw Unit:=bif b then .ret () else .fail
def ag.at:ag->List nJ->Option ag
 |t,[]=>some t
 |.pair a _,.fst::p=>a.at p
 |.pair _ b,.snd::p=>b.at p
 |.ar _ e,.ix _::p=>e.at p
 |_,_=>none
def jc:av->List nJ->Option av
 |v,[]=>some v
 |.two a _,.fst::p=>jc a p
 |.two _ b,.snd::p=>jc b p
 |.sc (.pair s _) x,.fst::p=>jc (.sc s x.1) p
 |.sc (.pair _ t) x,.snd::p=>jc (.sc t x.2) p
 |.sc (.ar _ e) l,.ix i::p=>jc (.sc e (an (l:List e.aG) i e.zero)) p
 |_,_=>none
def gG:Nat->List nJ
 |0=>[.fst]|n+1=>.snd::gG n
def ac0(b:Bool):(t:ag)->Option t.aG
 |.bool=>some b
 |_=>none
def Uq:(t:ag)->Option t.aG
 |.sl e=>some ([]:List e.aG)
 |_=>none
def ZM(bA:ag)(l:List bA.aG):(t:ag)->Option t.aG
 |.sl e=>ag.lp bA e l
 |_=>none
def ahU{α β:Type}:Option α->Option β->Option (α×β)
 |some x,some y=>some (x,y)
 |_,_=>none
def ays(f g:(t:ag)->Option t.aG):(t:ag)->Option t.aG
 |.pair a b=>ahU (f a) (g b)
 |_=>none
def aje(t':ag)(f:(t:ag)->Option t.aG)(t:ag):Option t.aG:=bif ag.is t' t then f t else none
def Hd(f:Nat):List Nat->Nat->Option Nat
 |[],_=>none
 |a::r,n=>bif Nat.beq a f then some n else Hd f r (n+1)
def Q5(f:Nat)(cZ:List iP):(t:ag)->Option t.aG
 |.fn l=>match cZ with|[]=>Hd f l 1|_=>none
 |_=>none
def tB:av->(t:ag)->Option t.aG
 |.sc t' x=>λt=>ag.cast t' t x
 |.kb b=>ac0 b
 |.nil=>Uq
 |.csl bA l=>ZM bA l
 |.two u v=>ays (tB u) (tB v)
 |.agg t' u=>aje t' (tB u)
 |.bad=>λ_=>none
 |.undef=>λ_=>none
 |.nq _=>λ_=>none
 |.own _ _=>λ_=>none
 |.osl _ _ _=>λ_=>none
 |.ptr _ _=>λ_=>none
 |.opt _ _ _=>λ_=>none
 |.ipt _ _ _ _=>λ_=>none
 |.itp _=>λ_=>none
 |.tup _=>λ_=>none
 |.clo f _ cZ=>Q5 f cZ
 |.ifc _ _ _=>λ_=>none
 |.mpp _=>λ_=>none
 |.psl _ _=>λ_=>none
def iM(t:ag)(v:av):Option t.aG:=tB v t
def mX:av->List nJ->av->Option av
 |_,[],u=>some u
 |.two a b,.fst::p,u=>(mX a p u).map (av.two · b)
 |.two a b,.snd::p,u=>(mX b p u).map (av.two a ·)
 |.sc (.pair s t) x,.fst::p,u=>(mX (.sc s x.1) p u).map (av.two · (.sc t x.2))
 |.sc (.pair s t) x,.snd::p,u=>(mX (.sc t x.2) p u).map (av.two (.sc s x.1) ·)
 |.sc (.ar n e) l,.ix i::p,u=>match mX (.sc e (an (l:List e.aG) i e.zero)) p u with
  |some v=>(iM e v).map λy=>.sc (.ar n e) (cg (l:List e.aG) i y)
  |none=>none
 |_,_,_=>none
def nD:ag->av
 |.sl _=>.nil
 |.pair a b=>.two (nD a) (nD b)
 |t=>.sc t t.zero
def tl(eU:Bool)(id:Nat)(e:ag):aw (List e.aG):=.rb id λb=>match b with
 |.ob bA l=>(aw.opt (ag.lp bA e l)).bind λx=>bif eU then .eY id (.fz bA l) (.ret x) else .ret x
 |.fz bA l=>aw.opt (ag.lp bA e l)
 |_=>.fail
def A9(eU:Bool)(id:Nat)(e:ag):aw (List e.aG):=.rb id λb=>match b with
 |.ob bA l=>(aw.opt (ag.lp bA e l)).bind λx=>bif eU then .eY id (.fz bA l) (.ret x) else .ret x
 |.fz bA l=>aw.opt (ag.lp bA e l)
 | .box t v=>(match t with
  |.ar n bA=>(aw.opt (iM (.ar n bA) v)).bind λl=>(aw.opt (ag.lp bA e l)).bind λx=>bif Nat.blt 0 bA.size then(bif eU then .eY id (.fz bA l) (.ret x) else .ret x) else .fail
  |_=>.fail)
 |_=>.fail
def aeN(eU:Bool)(id:Nat):(t:ag)->aw t.aG
 |.sl e=>tl eU id e
 |_=>.fail
def aeI(eU:Bool)(id off n:Nat):(t:ag)->aw t.aG
 |.sl e=>(A9 eU id e).bind λx=>.ret (cut x off n)
 |_=>.fail
def ayt(f g:(t:ag)->aw t.aG):(t:ag)->aw t.aG
 |.pair a b=>(f a).bind λx=>(g b).bind λy=>.ret (x,y)
 |_=>.fail
def ajf(t':ag)(f:(t:ag)->aw t.aG)(t:ag):aw t.aG:=bif ag.is t' t then f t else .fail
def w1(eU:Bool):av->(t:ag)->aw t.aG
 |.own id _=>aeN eU id
 |.osl id off n=>aeI eU id off n
 |.two u v=>ayt (w1 eU u) (w1 eU v)
 |.agg t' u=>ajf t' (w1 eU u)
 |.sc t' x=>λt=>aw.opt (ag.cast t' t x)
 |.kb b=>λt=>aw.opt (ac0 b t)
 |.nil=>λt=>aw.opt (Uq t)
 |.csl e l=>λt=>aw.opt (ZM e l t)
 |.bad=>λ_=>.fail
 |.undef=>λ_=>.fail
 |.nq _=>λ_=>.fail
 |.ptr _ _=>λ_=>.fail
 |.opt _ _ _=>λ_=>.fail
 |.ipt _ _ _ _=>λ_=>.fail
 |.itp _=>λ_=>.fail
 |.tup _=>λ_=>.fail
 |.clo f _ cZ=>λt=>aw.opt (Q5 f cZ t)
 |.ifc _ _ _=>λ_=>.fail
 |.mpp _=>λ_=>.fail
 |.psl _ _=>λ_=>.fail
def m2(eU:Bool)(t:ag)(v:av):aw t.aG:=w1 eU v t
def AF:av->Bool
 |.osl _ _ _=>false
 |.two u v=>AF u&&AF v
 |.agg _ u=>AF u
 |_=>true
def aeL(t:ag)(v:av):aw t.aG:=bif AF v then m2 true t v else .fail
def qq(t:ag):av->av
 |.two a b=>.agg t (.two a b)
 |v=>v
def wX:av->av
 |.agg _ a=>a
 |.kb b=>.sc .bool b
 |v=>v
def acV:ag->Bool
 |.fn _=>true|.op k=>Nat.beq k 0|_=>false
def sO(t:ag):av->aw Unit
 |.sc t' _=>aw.need (ag.is t' t)
 |.kb _=>aw.need (ag.is t .bool)
 |.agg t' _=>aw.need (ag.is t' t)
 |.nil=>match t with|.sl _=>.ret ()|_=>.fail
 |.csl e _=>aw.need (ag.is (.sl e) t)
 |.own id _=>.rb id fun|.ob e _=>aw.need (ag.is (.sl e) t)|.fz e _=>aw.need (ag.is (.sl e) t)|_=>.fail
 |.osl id _ _=>.rb id fun|.ob e _=>aw.need (ag.is (.sl e) t)|.fz e _=>aw.need (ag.is (.sl e) t)|.box t' _=>(match t' with|.ar _ e=>aw.need (ag.is (.sl e) t)|_=>.fail)|_=>.fail
 |.clo _ _ _=>aw.need (acV t)
 |.ifc _ _ _=>aw.need (ag.is t (.op 1))
 |.mpp id=>.rb id fun|.mp _ _ _=>aw.need (ag.is t (.op 2))|_=>.fail
 |.ptr id _=>.rb id fun|.box _ _=>aw.need (ag.is t (.op 3))|_=>.fail
 |_=>.fail
def hA(e:ag)(n:Nat):Bool:=cj e.bytes n
def int(n:Int):av:=.sc (.int .i64) n
def HC:IntKind->Int->Bool
 |.u8,.ofNat m=>Nat.blt m 256|.u16,.ofNat m=>Nat.blt m 65536|.u32,.ofNat m=>Nat.blt m 4294967296|.u64,.ofNat m=>Nat.blt m 18446744073709551616
 |.i8,_=>true|.i16,_=>true|.i32,_=>true|.i64,_=>true
 |_,_=>false
def Q?: Value->aw av
 |.bool b=>.ret (.kb b)
 |.int k n=>bif HC k n then .ret (.sc (.int k) (bH.lit k n)) else .fail
 |.string s=>.ret (.sc .str s.data.toList)
 |.slice none 0 0=>.ret .nil
 |.nilFunc=>.ret (.sc (.op 0) ())
 |.nilIface=>.ret (.sc (.op 1) ())
 |.map none=>.ret (.sc (.op 2) ())
 |.pointer none=>.ret (.sc (.op 3) ())
 |_=>.fail
def eu:Operand->aw av
 |.tmp t=>.rt t .ret
 |.const v=>Q? v
 |.func f=>.ret (.clo f 0 [])
 |.global _=>.fail
def R'(E:dl):Operand->aw av
 |.global g=>match E.K with|some k=>bif Nat.beq k g then .ret (.ipt (.ar 64 (.int .u32)) [(p8:List (bH .u32))] 0 []) else .fail|none=>.fail
 |x=>eu x
def zr:av->aw Int
 |.sc (.int k) x=>.ret (bH.to k x)
 |_=>.fail
def zx(b:Bool)(c:Bool)(k:aw av):aw av:=bif b then k else .chk c k
def MK:Operand->Bool
 |.const (.int _ (.ofNat (_+1)))=>true
 |.const (.int _ (.negSucc _))=>true
 |_=>false
def MD:Operand->Bool
 |.const (.int _ (.ofNat _))=>true
 |_=>false
def EN:IntKind->Bool
 |.u8=>true|.u16=>true|.u32=>true|.u64=>true|_=>false
def P9(r1:Bool)(op:BinOp)(k:IntKind)(x y:bH k):aw av:=
 let a:=bH.to k x;let b:=bH.to k y
 match op with
 |.add=>.ret (.sc (.int k) (bH.of k (aC a b)))
 |.sub=>.ret (.sc (.int k) (bH.of k (bg a b)))
 |.mul=>.ret (.sc (.int k) (bH.of k (fr a b)))
 |.quo=>zx r1 (aZ (af b 0)) (.ret (.sc (.int k) (bH.of k (ga a b))))
 |.rem=>zx r1 (aZ (af b 0)) (.ret (.sc (.int k) (bH.lit k (ej a b))))
 |.and=>.ret (.sc (.int k) (bH.of k (i9 k a b)))
 |.or=>.ret (.sc (.int k) (bH.of k (g? k a b)))
 |.xor=>.ret (.sc (.int k) (bH.of k (fO k a b)))
 |.andNot=>.ret (.sc (.int k) (bH.of k (HR k a b)))
 |.eql=>.ret (.sc .bool (af a b))
 |.neq=>.ret (.sc .bool (aZ (af a b)))
 |.lss=>.ret (.sc .bool (aF a b))
 |.leq=>.ret (.sc .bool (b? a b))
 |.gtr=>.ret (.sc .bool (aF b a))
 |.geq=>.ret (.sc .bool (b? b a))
 |_=>.fail
def P_(op:BinOp)(a b:List UInt8):aw av:=
 match op with
 |.add=>.chk (b? (aC (len a) (len b)) 140737488355328) (.ret (.sc .str (cm a b)))
 |.eql=>.ret (.sc .bool (seq a b))
 |.neq=>.ret (.sc .bool (aZ (seq a b)))
 |.lss=>.ret (.sc .bool (xx a b))
 |.leq=>.ret (.sc .bool (mB (xx a b) (seq a b)))
 |.gtr=>.ret (.sc .bool (aZ (mB (xx a b) (seq a b))))
 |.geq=>.ret (.sc .bool (aZ (xx a b)))
 |_=>.fail
def adN(t:ag)(op:BinOp)(a b:av):aw av:=
 match op,t,a,b with
 |.eql,.sl e,.sc t' x,.nil=>(aw.opt (ag.cast t' (.sl e) x)).bind λl=>.ret (.nq (af (len (l:List e.aG)) 0))
 |_,_,_,_=>.fail
def P8(E:dl)(op:BinOp)(xT:Nat)(a b:av):aw av:=
 match E.b6 xT with
 |some t=>bif ag.is t .bool then
   (match iM .bool a,iM .bool b with
    | some x,some y=>(match op with
     |.eql=>.ret (.sc .bool (qD x y))
     |.neq=>.ret (.sc .bool (aZ (qD x y)))
     |_=>.fail)
    |_,_=>.fail)
   else bif E.C xT then
   (match iM t a,iM t b with
    | some x,some y=>(match op with
     |.eql=>.ret (.sc .bool (t.oE x y))
     |.neq=>.ret (.sc .bool (aZ (t.oE x y)))
     |_=>.fail)
    |_,_=>.fail)
   else adN t op a b
 |none=>.fail
def Ki(E:dl)(r1 HQ:Bool)(op:BinOp)(xT:Nat)(a b:av):aw av:=
 match a,b with
 |.sc (.int k) x,.sc (.int k') y=>
  (match op with
  |.shl=>zx (HQ||EN k') (b? 0 (bH.to k' y)) (.ret (.sc (.int k) (bH.of k (hU k (bH.to k x) (bH.to k' y)))))
  |.shr=>zx (HQ||EN k') (b? 0 (bH.to k' y)) (.ret (.sc (.int k) (bH.lit k (fB k (bH.to k x) (bH.to k' y)))))
  | op=>(match ag.cast (.int k') (.int k) y with | some y=>P9 r1 op k x y | none => .fail))
 |.sc .str x,.sc .str y=>P_ op x y
 |a,b=>P8 E op xT a b
def WD(op:UnOp)(a:av):aw av:=
 match op,a with
 |.not,.kb b=>.ret (.kb (!b))
 |.not,.sc .bool b=>.ret (.sc .bool (aZ b))
 |.neg,.sc (.int k) x=>.ret (.sc (.int k) (bH.of k (bg 0 (bH.to k x))))
 |.xor,.sc (.int k) x=>.ret (.sc (.int k) (bH.of k (fO k (match k with|.u8=>255|.u16=>65535|.u32=>4294967295|.u64=>18446744073709551615|_ => -1) (bH.to k x))))
 |_,_=>.fail
def U1(c a b:av):aw av:=
 match c with
 |.kb c=>.ret (bif c then a else b)
 | .sc .bool c=>(match a,b with
  |.sc t x,b=>(match iM t b with|some y=>.ret (.sc t (T c x y))|none=>.fail)
  |.kb x,b=>(match iM .bool b with|some y=>.ret (.sc .bool (T (c:Bool) x y))|none=>.fail)
  |_,_=>.fail)
 |_=>.fail
def HB(gs:ag)(a:av):aw av:=
 match gs with
 |.str=>(match a with|.sc .str l=>.ret (int (len (l:List UInt8)))|_=>.fail)
 |.ar n _=>.ret (int (bb n))
 |.sl _=>
  (match a with
  |.sc (.sl e) l=>.ret (int (len (l:List e.aG)))
  |.csl _ l=>.ret (int (len l))
  |.nil=>.ret (int 0)
  |.own id _=>.rb id fun|.ob _ l=>.ret (int (len l))|.fz _ l=>.ret (int (len l))|_=>.fail
  |.osl id _ n=>.rb id fun|.ob _ _=>.ret (int (bb n))|.fz _ _=>.ret (int (bb n))|_=>.fail
  |.psl id n=>.rb id fun|.box _ _=>.ret (int (bb n))|_=>.fail
  |_=>.fail)
 |_=>.fail
def uk(id:Nat)(k:aw av):aw av:=.rb id fun|.new=>k|_=>.fail
def wB(id:Nat)(e:ag)(l:List e.aG)(eP:Bool):aw av:=bif Nat.blt 0 e.size then uk id (.eY id (.ob e l) (.ret (.own id eP))) else .fail
def Ak:ag->Bool
 |.sl (.int .u8)=>true|_=>false
def ZH(E:dl)(d:Nat)(sa c7:Nat)(a:av):aw av:=
 (aw.opt (E.b6 sa)).bind λs=>(aw.opt (E.b6 c7)).bind λt=>
 match t with
 |.int k=>(match a with|.sc (.int k') x=>.ret (.sc (.int k) (bH.of k (bH.to k' x)))|_=>.fail)
 | .str=>(match s with
  |.str=>(match a with|.sc .str x=>.ret (.sc .str x)|_=>.fail)
  |.sl e=>bif Ak (.sl e) then(m2 false (.sl (.int .u8)) a).bind λx=>.ret (.sc .str (x:List UInt8)) else .fail
  |_=>.fail)
 | .sl e=>(match s,a with
  |.str,.sc .str x=>bif Ak (.sl e) then .chk (cj 1 (aV (x:List UInt8))) (wB (16*d) (.int .u8) (x:List UInt8) false) else .fail
  |.sl bA,.own id true=>bif Ak (.sl e)&&(Ak (.sl bA)&&Nat.beq sa c7) then .rb id (fun|.ob _ _=>.ret (.own id true)|_=>.fail) else .fail
  |_,_=>.fail)
 |_=>.fail
def yj(t:ag)(a:av):aw av:=
 match a with
 |.ptr id p=>.rb id fun
  |.box rt v=>(match rt.at p,jc v p with|some t',some pv=>bif ag.is t' t then .ret (qq t pv) else .fail|_,_=>.fail)
  |_=>.fail
 |.ipt e l i p=>(match e.at p,jc (.sc e (an l i e.zero)) p with|some t',some pv=>bif ag.is t' t then .ret pv else .fail|_,_=>.fail)
 |.opt id i p=>.rb id fun
  |.ob e l=>(match e.at p,jc (.sc e (an l i e.zero)) p with|some t',some pv=>bif ag.is t' t then .ret pv else .fail|_,_=>.fail)
  |.fz e l=>(match e.at p,jc (.sc e (an l i e.zero)) p with|some t',some pv=>bif ag.is t' t then .ret pv else .fail|_,_=>.fail)
  |_=>.fail
 |_=>.fail
def V1(t:ag)(a v:av):aw av:=
 match a with
 |.ptr id p=>.rb id fun
  | .box rt c=>(match rt.at p,mX c p (wX v) with
    |some t',some cN=>bif ag.is t' t then(sO t v).bind λ_=>.eY id (.box rt cN) (.ret .undef) else .fail
    |_,_=>.fail)
  |_=>.fail
 |.opt id i p=>(m2 true t v).bind λx=>.rb id fun
  | .ob e l=>(match e.at p with
   | some t'=>bif ag.is t' t then (match mX (.sc e (an l i e.zero)) p (.sc t x) with
     |some c=>(match iM e c with|some y=>.eY id (.ob e (cg l i y)) (.ret .undef)|none=>.fail)
     |none=>.fail) else .fail
   |none=>.fail)
  |_=>.fail
 |_=>.fail
def CK(t' bR:Option ag)(f:Nat):Bool:=
 match t',bR with
 |some t',some bR=>ag.is t' bR&&(match bR.at (gG f) with|some d7=>Nat.blt 0 d7.size|none=>false)
 |_,_=>false
def La(bR:Option ag)(f:Nat)(a:av):aw av:=
 match a with
 |.ptr id p=>.rb id fun
  |.box t _=>bif CK (t.at p) bR f then .ret (.ptr id (p++gG f)) else .fail
  |_=>.fail
 |.ipt e l i p=>bif CK (e.at p) bR f then .ret (.ipt e l i (p++gG f)) else .fail
 |.opt id i p=>.rb id fun
  |.ob e _=>bif CK (e.at p) bR f then .ret (.opt id i (p++gG f)) else .fail
  |.fz e _=>bif CK (e.at p) bR f then .ret (.opt id i (p++gG f)) else .fail
  |_=>.fail
 |_=>.fail
def Ch(t':Option ag)(gs:ag)(i:Int)(v:av):aw av:=
 match t',gs with
 |some t',.ar n e=>bif ag.is t' (.ar n e)&&Nat.blt 0 e.size then .chk (aK i (bb n)) (.ret v) else .fail
 |_,_=>.fail
def yd(gs:ag)(a:av)(i:Int):aw av:=
 match a with
 | .sc t l=>(match gs with
  |.sl e=>(aw.opt (ag.cast t (.sl e) l)).bind λl=>.chk (aK i (len (l:List e.aG))) (.ret (.ipt e l (ab i) []))
  |_=>.fail)
 |.csl e l=>bif ag.is (.sl e) gs then .chk (aK i (len l)) (.ret (.ipt e l (ab i) [])) else .fail
 |.own id _=>.rb id fun
  |.ob e l=>bif ag.is (.sl e) gs then .chk (aK i (len l)) (.ret (.opt id (ab i) [])) else .fail
  |.fz e l=>bif ag.is (.sl e) gs then .chk (aK i (len l)) (.ret (.opt id (ab i) [])) else .fail
  |_=>.fail
 |.osl id off n=>.rb id fun
  |.ob e _=>bif ag.is (.sl e) gs then .chk (aK i (bb n)) (.ret (.opt id (bF off (ab i)) [])) else .fail
  |.fz e _=>bif ag.is (.sl e) gs then .chk (aK i (bb n)) (.ret (.opt id (bF off (ab i)) [])) else .fail
  |_=>.fail
 |.ptr id p=>.rb id fun
  |.box t _=>Ch (t.at p) gs i (.ptr id (p++[.ix (ab i)]))
  |_=>.fail
 |.ipt e l j p=>Ch (e.at p) gs i (.ipt e l j (p++[.ix (ab i)]))
 |.psl id n=>.rb id fun
  |.box _ _=>bif ag.is (.sl (.op 3)) gs then .chk (aK i (bb n)) (.ret (.ptr id (gG (ab i)))) else .fail
  |_=>.fail
 |.opt id j p=>.rb id fun
  |.ob e _=>Ch (e.at p) gs i (.opt id j (p++[.ix (ab i)]))
  |.fz e _=>Ch (e.at p) gs i (.opt id j (p++[.ix (ab i)]))
  |_=>.fail
 |_=>.fail
def Hf(gs:ag)(a:av)(i:Int):aw av:=
 match a with
 | .sc .str l=>(match gs with
  |.str=>.chk (aK i (len (l:List UInt8))) (.ret (.sc (.int .u8) (an (l:List UInt8) (ab i) (u8 0))))
  |_=>.fail)
 | a=>(match gs with
  |.ar n e=>(aw.opt (iM (.ar n e) a)).bind λl=>.chk (aK i (bb n)) (.ret (.sc e (an (l:List e.aG) (ab i) e.zero)))
  |_=>.fail)
def RI(E:dl)(xT:Nat)(f:Nat)(a:av):aw av:=
 match E.b6 xT with
 |some t=>(sO t a).bind λ_=>(match t.at (gG f),jc (wX a) (gG f) with|some d7,some v=>.ret (qq d7 v)|_,_=>.fail)
 |none=>.fail
def bQ(i:Option Int)(d:Int):Int:=match i with|some i=>i|none=>d
def VM(n:Nat)(jY:ag)(a:av)(lo ac:Int):aw av:=
 match a with
 |.ptr id []=>.rb id fun
  |.box t _=>bif ag.is t (.ar n jY)&&(Nat.blt 0 jY.size&&Nat.ble n 16777216) then .chk (b5 lo ac (bb n)) (.ret (.osl id (ab lo) (ce (ab ac) (ab lo)))) else .fail
  |.fz e l=>bif ag.is e jY&&Nat.ble n 16777216 then .chk (cV (bP (aV l) n) (b5 lo ac (bb n))) (.ret (.sc (.sl e) (sub l lo ac))) else .fail
  |_=>.fail
 |_=>.fail
def wW(gs:ag)(a:av)(lo ac qY:Option Int):aw av:=
 match qY with
 |none=>
  (match gs with
  | .str=>(match a with
   |.sc t l=>(aw.opt (ag.cast t .str l)).bind λl=>.chk (b5 (bQ lo 0) (bQ ac (len (l:List UInt8))) (len (l:List UInt8))) (.ret (.sc .str (sub (l:List UInt8) (bQ lo 0) (bQ ac (len (l:List UInt8))))))
   |_=>.fail)
  | .sl jY=>(match a with
   |.nil=>.chk (b5 (bQ lo 0) (bQ ac 0) 0) (.ret .nil)
   |.sc t l=>(aw.opt (ag.cast t (.sl jY) l)).bind λl=>.chk (b5 (bQ lo 0) (bQ ac (len (l:List jY.aG))) (len (l:List jY.aG))) (.ret (.sc (.sl jY) (sub (l:List jY.aG) (bQ lo 0) (bQ ac (len (l:List jY.aG))))))
   |.csl e l=>bif ag.is (.sl e) (.sl jY) then .chk (b5 (bQ lo 0) (bQ ac (len l)) (len l)) (.ret (.sc (.sl e) (sub l (bQ lo 0) (bQ ac (len l))))) else .fail
   |.own id _=>.rb id fun
    |.ob e l=>bif ag.is (.sl e) (.sl jY) then .chk (b5 (bQ lo 0) (bQ ac (len l)) (len l)) (.ret (.osl id (ab (bQ lo 0)) (ce (ab (bQ ac (len l))) (ab (bQ lo 0))))) else .fail
    |.fz e l=>bif ag.is (.sl e) (.sl jY) then .chk (b5 (bQ lo 0) (bQ ac (len l)) (len l)) (.ret (.sc (.sl e) (sub l (bQ lo 0) (bQ ac (len l))))) else .fail
    |_=>.fail
   |.osl id off n=>.rb id fun
    |.ob e _=>bif ag.is (.sl e) (.sl jY) then .chk (b5 (bQ lo 0) (bQ ac (bb n)) (bb n)) (.ret (.osl id (bF off (ab (bQ lo 0))) (ce (ab (bQ ac (bb n))) (ab (bQ lo 0))))) else .fail
    |.fz e _=>bif ag.is (.sl e) (.sl jY) then .chk (b5 (bQ lo 0) (bQ ac (bb n)) (bb n)) (.ret (.osl id (bF off (ab (bQ lo 0))) (ce (ab (bQ ac (bb n))) (ab (bQ lo 0))))) else .fail
    |_=>.fail
   |_=>.fail)
  |.ar n jY=>VM n jY a (bQ lo 0) (bQ ac (bb n))
  |_=>.fail)
 |some m=>
  (match ac with
  |some h=>
   (match a with
   | .sc t l=>(match gs with
    |.sl e=>(aw.opt (ag.cast t (.sl e) l)).bind λl=>.chk (cV (b5 (bQ lo 0) h (len (l:List e.aG))) (af h m)) (.ret (.csl e (sub (l:List e.aG) (bQ lo 0) h)))
    |_=>.fail)
   |_=>.fail)
  |none=>.fail)
def VL(gs:ag)(a:av)(lo ac qY:Option Int):aw av:=
 match qY with
 | none=>(match ac with
  | some h=>(match a with
   | .osl id off n=>(match gs with
    |.sl jY=>.rb id fun
     |.ob e l=>bif ag.is (.sl e) (.sl jY) then .chk (cV (kv off (bF (aV l) 1)) (b5 (bQ lo 0) h (bg (len l) (bb off)))) (.ret (.osl id (bF off (ab (bQ lo 0))) (ce (ab h) (ab (bQ lo 0))))) else .fail
     |_=>.fail
    |_=>.fail)
   | a=>wW gs a lo (some h) none)
  |none=>wW gs a lo none none)
 | some m=>(match ac with
  | some h=>(match a with
   | .own id _=>(match gs with
    |.sl jY=>.rb id fun
     |.ob e l=>bif ag.is (.sl e) (.sl jY) then .chk (cV (b5 (bQ lo 0) h m) (b? m (len l))) (.ret .bad) else .fail
     |_=>.fail
    |_=>.fail)
   |_=>.fail)
  |none=>.fail)
def F6(a:av)(i:Nat):aw av:=
 match a with
 |.tup a=>aw.opt (jc a (gG i))
 |_=>.fail
def Ja(eU:Bool):(ts:List ag)->List av->aw (h3 ts)
 |[],[]=>.ret ()
 |t::ts,v::vs=>(m2 eU t v).bind λx=>(Ja eU ts vs).bind λy=>.ret (x,y)
 |_,_=>.fail
def Vn(id:Nat):(r:ez)->r.aG->aw av
 |.im t,x=>.ret (.sc t x)
 |.ow e,l=>wB id e l false
 |.cl e,l=>.ret (.csl e l)
def Vm(id:Nat):(rs:List ez)->eq rs->aw av
 |[],_=>.ret (.sc .unit ())
 |r::rs,x=>(Vn id r x.1).bind λv=>(Vm (id+1) rs x.2).bind λw=>.ret (.two v w)
def QR(d:Nat):(rs:List ez)->eq rs->aw av
 |[],_=>.ret (.tup (.sc .unit ()))
 |[t],r=>Vn (16*d) t r.1
 |t::t'::ts,r=>(Vm (16*d) (t::t'::ts) r).bind λv=>.ret (.tup v)
def Qd(d:Nat)(s:i3):List av->aw av
 |.ptr id []::as=>.rb id λb=>match b with
  |.box t v=>bif ag.is t s.ty then(m2 true s.ty v).bind λx=>(Ja true s.args as).bind λy=>.rb id λeC=>match eC with
   |.box eF _=>bif ag.is eF s.ty then .bo (s.ty.zero,y9 s.res) (s.fn (x,y)) λr=>.eY id (.box s.ty (.sc s.ty r.1)) (QR d s.res r.2) else .fail
   |_=>.fail
   else .fail
  |_=>.fail
 |_=>.fail
def QQ(s:ot):List av->aw (Nat×av)
 |.ptr id []::as=>.rb id λb=>match b with
  |.box t v=>bif ag.is t s.ty then(m2 true s.ty v).bind λx=>(Ja true s.args as).bind λy=>.rb id λeC=>match eC with
   |.box eF _=>bif ag.is eF s.ty then .bo (s.ty.zero,(0:Nat),y9 [.im s.rt]) (s.fn (x,y)) λr=>.eY id (.box s.ty (.sc s.ty r.1)) (.ret (r.2.1,.sc s.rt r.2.2.1)) else .fail
   |_=>.fail
   else .fail
  |_=>.fail
 |_=>.fail
def FN(E:dl)(d:Nat)(f:Nat)(args:List av):aw av:=
 match E.G f with
 |none=>(match E.X f with|some s=>Qd d s args|none=>.fail)
 |some g=>(Ja (!(g.res.all ez.mF)) g.args args).bind λx=>.bo (y9 g.res) (g.fn x) λr=>QR d g.res r
def mm{α β:Type}(f:α->aw β):List α->aw (List β)
 |[]=>.ret []
 |a::r=>(f a).bind λb=>(mm f r).bind λb8=>.ret (b::b8)
def iP.pv:iP->av
 |.ptr id p=>.ptr id p
 |.iX t x=>.sc t x
def Cy:av->aw iP
 |.ptr id p=>.ret (.ptr id p)
 |.sc t x=>.ret (.iX t x)
 |.kb b=>.ret (.iX .bool b)
 |.agg t u=>(m2 true t (.agg t u)).bind λx=>.ret (.iX t x)
 |.clo f _ []=>.ret (.iX (.fn [f]) (1:Nat))
 |_=>.fail
def KF(E:dl)(d:Nat):List Nat->Nat->List av->aw av
 |[],_,_=>.fail
 |[f],x,args=>.chk (bP x 1) (FN E d f args)
 |f::vO::r,x,args=>.br (bP x 1) (FN E d f args) (KF E d (vO::r) (ce x 1) args)
def vL(dU:Nat)(cZ:List iP)(args:List av):List av:=(cZ.take dU).map iP.pv++(args++(cZ.drop dU).map iP.pv)
def amt(E:dl)(d:Nat)(f:av)(args:List av):aw av:=
 match f with
 |.clo f dU cZ=>FN E d f (vL dU cZ args)
 |.sc (.fn l) x=>KF E d l x args
 |_=>.fail
def wo:ag->Bool
 |.int _=>true|.str=>true|_=>false
def ahm(a b:List UInt8):Bool:=!(decide (a=b))
def acU(a b:Int):Bool:=!(decide (a=b))
def Hp:(t:ag)->t.aG->t.aG->Bool
 |.int k,a,b=>acU (bH.to k a) (bH.to k b)
 |.str,a,b=>ahm (a:List UInt8) (b:List UInt8)
 |_,_,_=>false
def wn:(t:ag)->t.aG->t.aG->Bool
 |.int k,a,b=>af (bH.to k a) (bH.to k b)
 |.str,a,b=>seq (a:List UInt8) (b:List UInt8)
 |_,_,_=>false
def wD:av->Bool
 |.tup _=>false|_=>true
def L7(q:ag×ag)(m k v:av):aw av:=
 match m with
 |.mpp id=>.rb id fun
  |.mp kt vt l=>(aw.opt (iM kt k)).bind λkey=>(aw.need (ag.is kt q.1&&wo kt&&(wD v&&l.all λp=>Hp kt key p.1))).bind λ_=>.eY id (.mp kt vt (l++[(key,v)])) (.ret .undef)
  |_=>.fail
 |_=>.fail
def yF(ok:Bool)(v b:av):av:=bif ok then .tup (.two v (.two b (.sc .unit ()))) else v
def Cd(kt vt:ag):List (kt.aG×av)->Option (List (kt.aG×vt.aG))
 |[]=>some []
 |(k,v)::r=>match iM vt v,Cd kt vt r with|some x,some fm=>some ((k,x)::fm)|_,_=>none
def Ej(kt vt:ag)(key:kt.aG):List (kt.aG×vt.aG)->vt.aG
 |[]=>vt.zero
 |(k,x)::r=>T (wn kt key k) x (Ej kt vt key r)
def C4(kt vt:ag)(key:kt.aG):List (kt.aG×vt.aG)->Bool
 |[]=>false
 |(k,_)::r=>T (wn kt key k) true (C4 kt vt key r)
def Ls(kt vt:ag)(ok:Bool)(key:kt.aG):List (kt.aG×av)->aw av
 |[]=>.ret (yF ok (qq vt (nD vt)) (.kb false))
 |(k,v)::r=>.br (wn kt key k) (.ret (yF ok v (.kb true))) (Ls kt vt ok key r)
def aaC(kt vt:ag)(ok:Bool)(key:kt.aG)(l:List (kt.aG×av)):aw av:=
 match Cd kt vt l with
 |some fm=>.ret (yF ok (.sc vt (Ej kt vt key fm)) (.sc .bool (C4 kt vt key fm)))
 |none=>Ls kt vt ok key l
def T9(E:dl)(xT:Nat)(x k:av)(ok:Bool):aw av:=
 (aw.opt (E.M xT)).bind λp=>
 match x with
 |.mpp id=>.rb id fun
  |.mp kt vt l=>(aw.need (ag.is kt p.1&&(ag.is vt p.2&&wo kt))).bind λ_=>(aw.opt (iM kt k)).bind λkey=>aaC kt vt ok key l
  |_=>.fail
 |.sc (.op 2) _=>(aw.need (wo p.1)).bind λ_=>(aw.opt (iM p.1 k)).bind λ_=>.ret (yF ok (qq p.2 (nD p.2)) (.kb false))
 |_=>.fail
def XP(E:dl)(t1:Nat)(x:av)(ok:Bool):aw av:=
 match x with
 |.ifc tid t y=>(aw.opt (E.b6 t1)).bind λt'=>bif ag.is t' (.op 1) then .fail else
   bif Nat.beq tid t1 then .ret (yF ok (.sc t y) (.kb true)) else bif ok then .ret (yF ok (qq t' (nD t')) (.kb false)) else .fail
 |.sc (.op 1) _=>(aw.opt (E.b6 t1)).bind λt'=>bif ag.is t' (.op 1) then .fail else bif ok then .ret (yF ok (qq t' (nD t')) (.kb false)) else .fail
 |_=>.fail
def Fw(e:ag)(x:av):aw (List e.aG):=
 match x with
 |.sc .str l=>aw.opt (ag.lp (.int .u8) e (l:List UInt8))
 |x=>m2 false (.sl e) x
def Un:av->Bool
 |.own _ true=>true|_=>false
def PU(d:Nat)(e:ag)(s x:av):aw av:=
 bif Nat.blt 0 e.size then(Fw e x).bind λbn=>
 match s with
 |.nil=>.chk (hA e (aV bn)) (wB (16*d) e bn false)
 |.own id _=>.rb id fun
  |.ob bA l=>(aw.opt (ag.lp bA e l)).bind λl=>.chk (hA e (bF (aV l) (aV bn))) (.eY id .fq (wB (16*d) e (cm l bn) false))
  |_=>.fail
 |.osl id off n=>.rb id fun
  |.ob bA l=>(aw.opt (ag.lp bA e l)).bind λl=>.chk (hA e (bF n (aV bn))) (.eY id .fq (wB (16*d) e (cm (cut l off n) bn) false))
  |_=>.fail
 |.csl bA l=>(aw.opt (ag.lp bA e l)).bind λl=>.chk (hA e (bF (aV l) (aV bn))) (bif Un x then wB (16*d) e (cm l bn) false else .ret (.sc (.sl e) (cm l bn)))
 |_=>.fail
 else .fail
def ea{α:Type}(l:List α)(off n:Nat)(bn:List α):List α:=l.take off++(bn.take n++l.drop (off+min n bn.length))
def PT(e:ag)(s x:av):aw av:=
 bif Nat.blt 0 e.size then(Fw e x).bind λbn=>
 match s with
 |.osl id off n=>.rb id fun
  |.ob bA l=>(aw.opt (ag.lp e bA bn)).bind λh?=>.chk (kv (bF off (bF n (aV h?))) (bF (aV l) 1)) (.eY id (.ob bA (ea l (bF off n) (aV h?) h?)) (.ret (.osl id off (bF n (aV h?)))))
  |_=>.fail
 |_=>.fail
 else .fail
def ZI(e:ag)(a x:av):aw av:=
 bif Nat.blt 0 e.size then(m2 false (.sl e) x).bind λbn=>
 match a with
 |.nil=>.ret (int 0)
 |.own id _=>.rb id fun
  |.ob bA l=>(aw.opt (ag.lp e bA bn)).bind λh?=>.eY id (.ob bA (ea l 0 (aV l) h?)) (.ret (int (g8 (len l) (len h?))))
  |_=>.fail
 |.osl id off n=>.rb id fun
  |.ob bA l=>(aw.opt (ag.lp e bA bn)).bind λh?=>.eY id (.ob bA (ea l off n h?)) (.ret (int (g8 (bb n) (len h?))))
  | .box t v=>(match t with
   |.ar m bA=>(aw.opt (iM (.ar m bA) v)).bind λl=>(aw.opt (ag.lp e bA bn)).bind λh?=>.eY id (.box (.ar m bA) (.sc (.ar m bA) (ea (l:List bA.aG) off n h?))) (.ret (int (g8 (bb n) (len h?))))
   |_=>.fail)
  |_=>.fail
 |_=>.fail
 else .fail
def Q2(e:ag)(a:av):aw av:=
 bif Nat.blt 0 e.size then
 match a with
 |.own id _=>.rb id fun
  |.ob bA l=>bif ag.is bA e then .eY id (.ob bA (ea l 0 (aV l) (bM (aV l) bA.zero))) (.ret (.tup (.sc .unit ()))) else .fail
  |_=>.fail
 |.osl id off n=>.rb id fun
  |.ob bA l=>bif ag.is bA e then .eY id (.ob bA (ea l off n (bM n bA.zero))) (.ret (.tup (.sc .unit ()))) else .fail
  |_=>.fail
 |_=>.fail
 else .fail
def Rx:ag->Option ag
 |.sl e=>some e|_=>none
def acW:ag->Bool
 |.sl _=>true|_=>false
def L8:ag->Bool
 |.sl _=>true|.str=>true|_=>false
def Qj(E:dl)(d:Nat)(b:Builtin)(d?:List Nat)(args:List av):aw av:=
 match b with
 | .len=>(match d?,args with
  |t::_,[a]=>(aw.opt (E.b6 t)).bind λt=>HB t a
  |_,_=>.fail)
 | .cap=>(match d?,args with
  |t::_,[.nil]=>(aw.opt (E.b6 t)).bind λt=>bif acW t then .ret (int 0) else .fail
  |_,_=>.fail)
 | .append=>(match d?,args with
  | [t,u],[s,x]=>(match E.b6 t,E.b6 u with
   | some (.sl e),some (.int .i64)=>(match s,x with
    |.nil,.sc (.int .i64) n=>.chk (cV (b? 0 n) (hA e (ab n))) (wB (16*d) e (bM (ab n) e.zero) false)
    |_,_=>.fail)
   |some (.sl e),some u=>bif L8 u then(bif E.A then PT e s x else PU d e s x) else .fail
   |_,_=>.fail)
  |_,_=>.fail)
 | .copy=>(match d?,args with
  | [t,u],[a,x]=>(match E.b6 t,E.b6 u with
   |some (.sl e),some (.sl _)=>ZI e a x
   |_,_=>.fail)
  |_,_=>.fail)
 | .clear=>(match d?,args with
  | [t],[a]=>(match E.b6 t with
   |some (.sl e)=>Q2 e a
   |_=>.fail)
  |_,_=>.fail)
 |.min=>(match args with|[.sc (.int .i64) a,.sc (.int .i64) b]=>.ret (int (g8 a b))|_=>.fail)
 |.max=>(match args with|[.sc (.int .i64) a,.sc (.int .i64) b]=>.ret (int (cX a b))|_=>.fail)
 |_=>.fail
def Em(t:ag):av->List (Nat×av)->Option av
 |v,[]=>some v
 |v,(i,u)::r=>match mX v (gG i) (wX u) with|some c9=>Em t c9 r|none=>none
def CM(t:ag):List (Nat×av)->aw Unit
 |[]=>.ret ()
 |(i,u)::r=>match t.at (gG i) with|some d7=>(sO d7 u).bind λ_=>CM t r|none=>.fail
def Jd(e:ag):List (Nat×av)->aw (List (Nat×e.aG))
 |[]=>.ret []
 |(i,u)::r=>(m2 true e u).bind λx=>(Jd e r).bind λfm=>.ret ((i,x)::fm)
def va{α:Type}:List α->List (Nat×α)->List α
 |l,[]=>l
 |l,(i,x)::r=>va (l.set i x) r
def acX:ag->Bool
 |.unit=>true|.pair _ _=>true|_=>false
def aki(t:ag)(a5:List (Nat×av)):aw av:=
 match t with
 |.ar n e=>(aw.need (a5.all λp=>Nat.blt p.1 n)).bind λ_=>(Jd e a5).bind λfm=>.ret (.sc (.ar n e) (va (List.replicate n e.zero) fm))
 |t=>bif acX t then(CM t a5).bind λ_=>(aw.opt (Em t (nD t) a5)).bind λv=>.ret (qq t v) else .fail
def X_(d:Nat)(e:ag)(n:Nat)(a5:List (Nat×av)):aw av:=
 (aw.need (a5.all (λp=>Nat.blt p.1 n)&&Nat.ble (n*e.size) 16777216)).bind λ_=>(Jd e a5).bind λfm=>
  wB (16*d) e (va (List.replicate n e.zero) fm) (Nat.blt 0 n)
def ae4(d n:Nat)(a5:List (Nat×av)):aw av:=
 bif Nat.blt 0 n&&Nat.ble n 64 then(CM (m3 n) a5).bind λ_=>(aw.opt (Em (m3 n) (nD (m3 n)) a5)).bind λv=>uk (16*d) (.eY (16*d) (.box (m3 n) v) (.ret (.psl (16*d) n))) else .fail
def H4:Option Operand->aw (Option Int)
 |none=>.ret none
 |some o=>(eu o).bind λv=>(zr v).bind λn=>.ret (some n)
def MW(a5:List (Nat×Operand)):aw (List (Nat×av)):=mm (λp=>(eu p.2).bind λv=>.ret (p.1,v)) a5
def MA(v:av):aw av:=
 match v with
 |.ptr id p=>.rb id fun|.box _ _=>.ret (.ptr id p)|_=>.fail
 |.ipt e l i p=>.ret (.ipt e l i p)
 |.opt id i p=>.rb id fun|.ob _ _=>.ret (.opt id i p)|.fz _ _=>.ret (.opt id i p)|_=>.fail
 |.clo f dU cZ=>.ret (.clo f dU cZ)
 |_=>.fail
def avC(id:Nat)(x:av):aw av:=
 match x with
 |.sc .str l=>uk id (.eY id (.it l 0) (.ret (.itp id)))
 |_=>.fail
def Up(x:av):aw av:=
 match x with
 |.itp id=>.rb id fun
  |.it s p=>.br (kv p (aV s))
    (.eY id (.it s (bF p (ig s p).2)) (.ret (.tup (.two (.kb true) (.two (int (bb p)) (.two (.sc (.int .i32) (bb (ig s p).1)) (.sc .unit ())))))))
    (.ret (.tup (.two (.kb false) (.sc .unit ()))))
  |_=>.fail
 |_=>.fail
def HP:BinOp->Operand->Bool
 |.eql,.const .nilIface=>true
 |_,_=>false
def L5(t:ag)(a:av):aw av:=
 bif ag.is t (.op 1) then(match a with
  |.ifc _ _ _=>.ret (.kb false)
  |.sc (.op 1) _=>.ret (.kb true)
  |_=>.fail) else .fail
def r6(E:dl)(o:Oper):aw av:=
 let d:=E.b+o.dst.getD 0
 match o.op with
 |.move x=>eu x
 |.assign x=>eu x
 |.pick c a b=>(eu c).bind λc=>(eu a).bind λa=>(eu b).bind λb=>U1 c a b
 |.alloc t=>(aw.opt (E.b6 t)).bind λt=>uk (16*d) (.eY (16*d) (.box t (nD t)) (.ret (.ptr (16*d) [])))
 |.box t x=>(aw.opt (E.b6 t)).bind λt=>(eu x).bind λv=>(sO t v).bind λ_=>uk (16*d) (.eY (16*d) (.box t (wX v)) (.ret (.ptr (16*d) [])))
 |.build t a5=>(aw.opt (E.b6 t)).bind λt=>(MW a5.toList).bind λa5=>aki t a5
 |.buildSlice t n a5=>(aw.opt (E.b6 t)).bind λt=>(aw.opt (Rx t)).bind λe=>(MW a5.toList).bind λa5=>bif ag.is e (.op 3) then ae4 d n a5 else X_ d e n a5
 |.load t a=>(aw.opt (E.b6 t)).bind λt=>(eu a).bind λa=>yj t a
 |.store t a x=>(aw.opt (E.b6 t)).bind λt=>(eu a).bind λa=>(eu x).bind λx=>V1 t a x
 |.nilCheck x=>(eu x).bind λv=>MA v
 |.binOp op t x y _=>bif HP op y then(aw.opt (E.b6 t)).bind λty=>(eu x).bind λa=>L5 ty a else(eu x).bind λa=>(eu y).bind λb=>Ki E (MK y) (MD y) op t a b
 |.unOp op _ x=>(eu x).bind λx=>WD op x
 |.convert s t x=>(eu x).bind λx=>ZH E d s t x
 |.makeSlice t l c=>(aw.opt (E.b6 t)).bind λt=>(aw.opt (Rx t)).bind λe=>(eu l).bind λl=>(zr l).bind λl=>(eu c).bind λc=>(zr c).bind λc=>
   .chk (cV (b5 0 l c) (hA e (ab c))) (wB (16*d) e (bM (ab l) e.zero) false)
 |.slice t x lo ac qY=>(aw.opt (E.b6 t)).bind λt=>(eu x).bind λx=>(H4 lo).bind λlo=>(H4 ac).bind λac=>(H4 qY).bind λqY=>bif E.A then(match t with|.sl e=>VL (.sl e) x lo ac qY|_=>.fail) else wW t x lo ac qY
 |.fieldAddr s x f=>(eu x).bind λx=>La (E.b6 s) f x
 |.field t x f=>(eu x).bind λx=>RI E t f x
 |.indexAddr t x i=>(aw.opt (E.b6 t)).bind λt=>(R' E x).bind λx=>(eu i).bind λi=>(zr i).bind λi=>yd t x i
 |.index t x i=>(aw.opt (E.b6 t)).bind λt=>(eu x).bind λx=>(eu i).bind λi=>(zr i).bind λi=>Hf t x i
 |.range t x=>(aw.opt (E.b6 t)).bind λt=>(aw.need (ag.is t .str)).bind λ_=>(eu x).bind λx=>avC (16*d) x
 |.next x true=>(eu x).bind λx=>Up x
 |.extract x i=>(eu x).bind λx=>F6 x i
 |.makeFunc (.func f) first cap=>(mm eu first.toList).bind λa=>(mm eu cap.toList).bind λb=>(mm Cy (a++b)).bind λcZ=>.ret (.clo f a.length cZ)
 |.makeMap t none=>(aw.opt (E.M t)).bind λp=>uk (16*d) (.eY (16*d) (.mp p.1 p.2 []) (.ret (.mpp (16*d))))
 |.insert t m k v=>(aw.opt (E.M t)).bind λq=>(eu m).bind λm=>(eu k).bind λk=>(eu v).bind λv=>L7 q m k v
 |.mapUpdate t m k v=>(aw.opt (E.M t)).bind λq=>(eu m).bind λm=>(eu k).bind λk=>(eu v).bind λv=>L7 q m k v
 |.lookup t x i ok=>(eu x).bind λx=>(eu i).bind λi=>T9 E t x i ok
 |.makeInterface t x=>(aw.opt (E.b6 t)).bind λty=>(aw.need (!(ag.is ty (.op 1)))).bind λ_=>(eu x).bind λx=>(m2 true ty x).bind λy=>.ret (.ifc t ty y)
 |.typeAssert x _ a ok=>(eu x).bind λx=>XP E a x ok
 | .call c=>(match c.callee with
  |.builtin b=>(mm eu c.args.toList).bind λargs=>Qj E d b c.argTypes.toList args
  |.value f=>(eu f).bind λf=>(mm eu c.args.toList).bind λargs=>amt E d f args
  |.invoke .. => .fail)
 |_=>.fail
end Yp
namespace Yp
open Go
structure o2 where
 i:Nat
 al:Bool
 rb:List Nat
 eY:List Nat
def Ms(a b:List Nat):Bool:=a.any λk=>b.any (Nat.beq k)
def VT:List Nat->Bool
 |[]=>false|_=>true
def o2.KI(a b:o2):Bool:=Ms a.eY b.rb||Ms a.eY b.eY||Ms a.rb b.eY||(a.al&&VT b.eY)||(b.al&&VT a.eY)
def q6(oz:List Nat):List o2->Bool
 |[]=>true
 |f::r=>r.all (λg=>!(f.KI g)||Nat.testBit (oz.getD g.i 0) f.i)&&q6 oz r
def bits:List Nat->Nat
 |[]=>0
 |i::r=>2^i|||bits r
def Wu:List Operand->List Nat
 |[]=>[]
 |.tmp t::r=>t::Wu r
 |_::r=>Wu r
def Z4(ops:List Oper)(j:Nat):List Nat:=match ops[j]? with|some o=>(match o.dst with|some d=>[d]|none=>[])|none=>[]
def kU(ops:List Oper)(o:Oper):Nat:=bits (Wu o.op.operands.toList++(match o.guard with|some (g,_)=>Z4 ops g|none=>[]))
def ER(o:Oper):Nat:=match o.dst with|some d=>2^d|none=>0
def I4(ops:List Oper)(oz:List Nat):Nat->List Oper->List (Nat×Nat×Nat)->Bool
 |_,[],_=>true
 |i,o::r,l=>
  let qc:=kU ops o
  let wr:=ER o
  l.all (λp=>(Nat.beq (Nat.land p.2.2 (qc|||wr)) 0&&Nat.beq (Nat.land p.2.1 wr) 0)||Nat.testBit (oz.getD i 0) p.1) &&
  I4 ops oz (i+1) r ((i,qc,wr)::l)
def mb:List Oper->List Nat->List Nat
 |[],c?=>c?
 |o::r,c?=>mb r (c? ++ [o.after.toList.foldl (λs e=>bif Region.binds .any e then s|||2^e.on|||c?.getD e.on 0 else s) 0])
def vM:Nat->List Oper->Bool
 |_,[]=>true
 |i,o::r=>o.after.toList.all (λe=>!(Region.binds .any e)||Nat.blt e.on i)&&vM (i+1) r
def xX:List Oper->Nat
 |[]=>0
 |o::r=>match o.guard with|some (g,_)=>2^g|||xX r|none=>xX r
def Ir(ops:List Oper):Bool:=vM 0 ops&&I4 ops (mb ops []) 0 ops []
def er:List Oper->List Nat
 |[]=>[]
 |o::r=>match o.dst with|some d=>d::er r|none=>er r
def ki(ρ:Type):Type:=aE aR ρ
def WA:av->Option ag
 |.sc t _=>some t|.kb _=>some .bool|_=>none
def pU{β:Type 1}:ag->(ag->β)->β
 |.bool,k=>k .bool|.str,k=>k .str|.unit,k=>k .unit
 |.int i,k=>(match i with|.u8=>k (.int .u8)|.u16=>k (.int .u16)|.u32=>k (.int .u32)|.u64=>k (.int .u64)|.i8=>k (.int .i8)|.i16=>k (.int .i16)|.i32=>k (.int .i32)|.i64=>k (.int .i64))
 |.sl e,k=>pU e λe=>k (.sl e)
 |.pair a b,k=>pU a λa=>pU b λb=>k (.pair a b)
 |.ar n e,k=>pU e λe=>k (.ar n e)
 |.op i,k=>k (.op i)|.fn l,k=>k (.fn l)
def K'{β:Type 1}(t:ag)(k:ag->β):pU t k=k t:=by
 induction t generalizing k with
 |int i=>cases i<;>rfl
 |sl e h=>simp only[pU,h]
 |pair a b h g=>simp only[pU,h,g]
 |ar n e h=>simp only[pU,h]
 |_=>rfl
def agy(i:Nat)(t:ag)(s:aR):Bool:=match WA (s.bW i) with|some t'=>ag.is t' t|none=>false
def xF{β:Type 1}(l:List aR):List Nat->(List (Nat×ag)->β)->β
 |[],k=>k []
 |i::r,k=>match l with
  | s :: m=>(match WA (s.bW i) with
   |some t=>bif m.all (agy i t) then xF l r λks=>pU t λt=>k ((i,t)::ks) else xF l r k
   |none=>xF l r k)
  |[]=>k []
def CA:List (Nat×ag)->Type
 |[]=>Unit|p::r=>p.2.aG×CA r
def aiw:(l:List (Nat×ag))->CA l
 |[]=>()|p::r=>(p.2.zero,aiw r)
def qI(s:aR):(l:List (Nat×ag))->Option (CA l)
 |[]=>some ()
 |p::r=>match iM p.2 (s.bW p.1),qI s r with|some x,some y=>some (x,y)|_,_=>none
def NY{β:Type 1}(s:aR)(k:aR->β):(l:List (Nat×ag))->CA l->β
 |[],_=>k s
 |p::r,x=>s.Bc p.1 (.sc p.2 x.1) λs=>NY s k r x.2
def aS.nu{α β:Type}(f:α->Option β):aS α->aS β
 |.fail=>.fail
 |.leaf a=>match f a with|some b=>.leaf b|none=>.fail
 |.br c x y=>.br c (x.nu f) (y.nu f)
 |.chk c x=>.chk c (x.nu f)
 |.bo d o k=>.bo d o λa=>(k a).nu f
 |.cs d e o kn hy hQ=>.cs d e o (λa=>(kn a).nu f) (λk a=>(hy k a).nu f) (λa=>(hQ a).nu f)
def Jq{β:Type 1}(s:aR):List Nat->(aR->β)->β
 |[],k=>k s
 |i::r,k=>s.Bc i .bad λs=>Jq s r k
def Hn(s:aR)(all keep:List Nat)(t:aS aR):aS aR:=
 t.p_ λl=>
 bif l.all (λcv=>Nat.beq cv.w.length s.w.length) then
  xF l keep λks=>
  bif Nat.beq ks.length 0 then t else
  .bo (aiw ks) (t.nu (λcv=>bif Nat.beq cv.w.length s.w.length then qI cv ks else none)).bI λp=>Jq s all λs=>NY s .leaf ks p
 else t
def TW:List Oper->List Nat
 |[]=>[]
 |[o]=>(match o.dst with|some d=>[d]|none=>[])
 |_::r=>TW r
def iK{β:Type}(nt:Nat)(c7:Option Nat)(s:aR)(v:av)(k:aR->aS β):aS β:=
 match c7 with|some d=>bif Nat.blt d nt then s.Bc d v k else .fail|none=>k s
def rE(dx:Bool)(i:Nat)(rb:List Nat)(wr:List (Nat×aU))(hN:List o2):List o2:=
 bif dx then(match rb,wr with|[],[]=>hN|_,_=>⟨i,false,rb,wr.map λp=>p.1⟩::hN) else hN
def t9:av->Option Bool
 |.sc .bool c=>some c
 |_=>none
def Lw(ops:List Oper)(o:Oper)(s:aR)(F4 skip:aS aR):aS aR:=
 match o.guard with
 |none=>F4
 | some (j,l7)=>(match (ops[j]?).bind (·.dst) with
  |none=>.fail
  | some g=>(match s.bW g with
   |.kb b=>bif b==l7 then F4 else skip
   |.undef=>skip
   |_=>.fail))
def CR(s:aR):Operand->av
 |.tmp t=>s.bW t
 |.func f=>.clo f 0 []
 |_=>.bad
def ti:List iP->List Nat
 |[]=>[]
 |.ptr id _::r=>id::ti r
 |.iX _ _::r=>ti r
def dV:av->List Nat
 |.own id _=>[id]|.osl id _ _=>[id]|.ptr id _=>[id]|.opt id _ _=>[id]|.itp id=>[id]|.mpp id=>[id]|.psl id _=>[id]|.clo _ _ cZ=>ti cZ
 |.two a b=>dV a++dV b|.agg _ a=>dV a|.tup a=>dV a
 |_=>[]
def yD:aU->List Nat
 |.box _ v=>dV v
 |.mp _ _ l=>l.flatMap λp=>dV p.2
 |_=>[]
def nr(s:aR):List Nat:=s.h.map λp=>p.1
def FQ(s:aR)(a5:List av):Bool:=s.h.all (λp=>(yD p.2).all λj=>(nr s).any (Nat.beq j))&&a5.all λp=>(dV p).all λj=>(nr s).any (Nat.beq j)
def adR:List Nat->Bool
 |[]=>true|_=>false
def Ve(ops:List Oper)(o:Oper):Operand->Bool
 |.tmp t=>Nat.testBit (kU ops o) t|.func _=>true|_=>false
def adS:List (Nat×aU)->Bool
 |[]=>true|_=>false
def L6(E:dl)(ops:List Oper)(o:Oper)(s:aR):Option (aS (av×aR)):=
 match o.op with
 | .call ⟨.value f,args,_⟩=>(match CR s f with
  | .clo F dU cZ=>(match E.I F with
   | some g=>some (((mm eu args.toList).run s 0 [] []).bind λr =>
     bif Nat.beq (r.2.rt|||kU ops o) (kU ops o)&&(adS r.2.wr&&(adR r.2.rb&&(Ve ops o f&&FQ s (vL dU cZ r.1)))) then g ((E.b+o.dst.getD 0+1)*65536) (vL dU cZ r.1) s else .fail)
   |none=>none)
  |_=>none)
 |_=>none
def Uo(s ax:aR):List Nat:=ax.w.take (ax.w.length-s.w.length)
def nC(s ax:aR):List (Nat×aU):=(Uo s ax).map λid=>(id,ax.aW id)
def oS(E:dl)(ops:List Oper)(nv nt:Nat)(dx:Bool):Bool->Nat->List Oper->aR->List o2->aS aR
 |_,_,[],s,hN=>bif !dx||(Ir ops&&q6 (mb ops []) hN.reverse) then .leaf s else .fail
 |top,i,o::rest,s,hN=>
  Lw ops o s
   (match(bif dx then L6 E ops o s else none) with
   |some t=>t.bind λr=>bif Nat.testBit (xX ops) i then .fail else s.wT (nC s r.2) λbp=>ng r.1 λv=>iK nt o.dst bp v λax=>oS E ops nv nt dx top (i+1) rest ax (rE dx i (nr s) (nC s r.2) hN)
   |none=>((r6 E o).run s 0 [] []).bind λr=>s.wT r.2.wr λbp=>ng r.1 λv=>
    bif dx && !(Nat.beq (r.2.rt|||kU ops o) (kU ops o)) then .fail else
    bif Nat.testBit (xX ops) i&&(t9 v).isSome then
     (match t9 v with
     |some c=>
      bif top then iK nt o.dst bp (.sc .bool c) λax=>Hn ax (er rest) ((er rest).filter λk=>Nat.blt k nv||(TW rest).any (Nat.beq k))
       (.br c (iK nt o.dst bp (.kb true) λs=>oS E ops nv nt dx false (i+1) rest s (rE dx i r.2.rb r.2.wr hN)) (iK nt o.dst bp (.kb false) λs=>oS E ops nv nt dx false (i+1) rest s (rE dx i r.2.rb r.2.wr hN)))
      else .br c (iK nt o.dst bp (.kb true) λs=>oS E ops nv nt dx false (i+1) rest s (rE dx i r.2.rb r.2.wr hN)) (iK nt o.dst bp (.kb false) λs=>oS E ops nv nt dx false (i+1) rest s (rE dx i r.2.rb r.2.wr hN))
     |none=>.fail)
    else iK nt o.dst bp v λs=>oS E ops nv nt dx top (i+1) rest s (rE dx i r.2.rb r.2.wr hN))
   (iK nt o.dst s .undef λs=>oS E ops nv nt dx top (i+1) rest s hN)
def aw.jf{α:Type}(s:aR)(m:aw α):aS (α×aR):=(m.run s 0 [] []).bind λr=>s.wT r.2.wr λs=>.leaf (r.1,s)
def TG(E:dl)(d:Nat)(f:av)(args:List Operand)(s:aR):Option (aS (av×aR)):=
 match f with
 | .clo F dU cZ=>(match E.I F with
  |some g=>some ((aw.jf s (mm eu args)).bind λr=>g ((E.b+d+1)*65536) (vL dU cZ r.1) r.2)
  |none=>none)
 |_=>none
def UJ(E:dl)(o:Oper)(s:aR):aS (av×aR):=
 let plain:aS (av×aR):=((r6 E o).run s 0 [] []).bind λr=>s.wT r.2.wr λbp=>ng r.1 λv=>.leaf (v,bp)
 match o.op with
 | .call ⟨.value f,args,_⟩=>(match TG E (o.dst.getD 0) (CR s f) args.toList s with
  |some t=>t.bind λr=>ng r.1 λv=>.leaf (v,r.2)
  |none=>plain)
 |_=>plain
def pq(E:dl)(ops:List Oper)(nv nt:Nat):Bool->Nat->List Oper->aR->aS aR
 |_,_,[],s=>.leaf s
 |top,i,o::rest,s=>
  Lw ops o s
   ((UJ E o s).bind λr=>
    bif Nat.testBit (xX ops) i&&(t9 r.1).isSome then
     (match t9 r.1 with
     |some c=>
      bif top then iK nt o.dst r.2 (.sc .bool c) λax=>Hn ax (er rest) ((er rest).filter λk=>Nat.blt k nv||(TW rest).any (Nat.beq k))
       (.br c (iK nt o.dst r.2 (.kb true) λs=>pq E ops nv nt false (i+1) rest s) (iK nt o.dst r.2 (.kb false) λs=>pq E ops nv nt false (i+1) rest s))
      else .br c (iK nt o.dst r.2 (.kb true) λs=>pq E ops nv nt false (i+1) rest s) (iK nt o.dst r.2 (.kb false) λs=>pq E ops nv nt false (i+1) rest s)
     |none=>.fail)
    else iK nt o.dst r.2 r.1 λs=>pq E ops nv nt top (i+1) rest s)
   (iK nt o.dst s .undef λs=>pq E ops nv nt top (i+1) rest s)
def QU(E:dl):List Oper->Bool
 |[]=>false
 | o :: r=>(match o.op with
  |.call ⟨.value (.func f),_,_⟩=>(E.I f).isSome
  |.call ⟨.value _,_,_⟩=>true
  |_=>false)||QU E r
def afA(E:dl)(s:aR):ResultVar->aw av
 |.tmp t=>.rt t .ret
 |.cell a t=>(aw.opt (E.b6 t)).bind λt=>.rt a λv=>yj t v
def On(e:ag):av->aw (List e.aG)
 |.own id _=>.rb id fun
  |.ob bA l=>(aw.opt (ag.lp bA e l)).bind λx=>.eY id .fq (.ret x)
  |_=>.fail
 |.osl id off n=>.rb id fun
  |.ob bA l=>(aw.opt (ag.lp bA e l)).bind λx=>.eY id .fq (.ret (cut x off n))
  |_=>.fail
 |.nil=>.ret []
 |_=>.fail
def amE(e:ag):av->aw (List e.aG)
 |.csl bA l=>aw.opt (ag.lp bA e l)
 |.nil=>.ret []
 |_=>.fail
def ahM:(r:ez)->av->aw r.aG
 |.im t,v=>m2 true t v
 |.ow e,v=>On e v
 |.cl e,v=>amE e v
def oP(s:aR):(rs:List ez)->List av->aS (eq rs)
 |[],[]=>.leaf ()
 |r::rs,v::vs=>(aw.jf s (ahM r v)).bind λx=>(oP x.2 rs vs).bind λy=>.leaf (x.1,y)
 |_,_=>.fail
def ny(E:dl)(s:aR):List ResultVar->aS (List av)
 |[]=>.leaf []
 |r::rs=>(aw.jf s (afA E s r)).bind λv=>(ny E s rs).bind λvs=>.leaf (v.1::vs)
def dY:Code->List Nat
 |.region _ ops _=>er ops.toList
 |.seq a b=>dY a++dY b
 |.cond _ a b=>dY a++dY b
 |.block _ b=>dY b
 |.loop b=>dY b
 |.scope b=>dY b
 |.rangeFunc _ a5 a b=>a5.toList++dY a++dY b
 |_=>[]
def nb:List Nat->List Nat
 |[]=>[]
 |i::r=>bif r.any (Nat.beq i) then nb r else i::nb r
inductive kG where
 |d (t:ag)|o (id:Nat) (e:ag)|p (a b:kG)
 deriving Inhabited
def kG.aG:kG->Type
 |.d t=>t.aG|.o _ e=>List e.aG|.p a b=>a.aG×b.aG
def kG.zero:(s:kG)->s.aG
 |.d t=>t.zero|.o _ e=>([]:List e.aG)|.p a b=>(a.zero,b.zero)
inductive fc where
 |sl (i:Nat) (t:ag)|ow (i id:Nat) (e:ag)|bk (id:Nat) (e:ag)|bx (id:Nat) (t:ag) (s:kG)|it (id:Nat) (s:List UInt8)
 deriving Inhabited
def fc.aG:fc->Type
 |.sl _ t=>t.aG|.ow _ _ e=>List e.aG|.bk _ e=>List e.aG|.bx _ _ s=>s.aG|.it _ _=>Nat
def fc.zero:(e:fc)->e.aG
 |.sl _ t=>t.zero|.ow _ _ e=>([]:List e.aG)|.bk _ e=>([]:List e.aG)|.bx _ _ s=>s.zero|.it _ _=>(0:Nat)
def nd:List fc->Type
 |[]=>Unit|e::r=>e.aG×nd r
def aiv:(l:List fc)->nd l
 |[]=>()|e::r=>(e.zero,aiv r)
def wV(O R:aR):Nat->Nat->av->av->Option kG
 |0,_,_,_=>none
 |fu+1,n,.two a b,.two c d=>match wV O R fu (2*n) a c,wV O R fu (2*n+1) b d with
  |some (.d t),some (.d u)=>some (.d (.pair t u))
  |some x,some y=>some (.p x y)|_,_=>none
 |fu+1,n,.two a b,.sc (.pair s t) x=>match wV O R fu (2*n) a (.sc s x.1),wV O R fu (2*n+1) b (.sc t x.2) with
  |some (.d t),some (.d u)=>some (.d (.pair t u))
  |some x,some y=>some (.p x y)|_,_=>none
 |fu+1,n,.sc (.pair s t) x,.two c d=>match wV O R fu (2*n) (.sc s x.1) c,wV O R fu (2*n+1) (.sc t x.2) d with
  |some (.d t),some (.d u)=>some (.d (.pair t u))
  |some x,some y=>some (.p x y)|_,_=>none
 |_+1,_,.sc t _,.sc t' _=>bif ag.is t t' then some (.d t) else none
 |_+1,_,.sc t _,.kb _=>bif ag.is t .bool then some (.d .bool) else none
 |_+1,_,.kb _,.sc t _=>bif ag.is t .bool then some (.d .bool) else none
 |_+1,_,.kb _,.kb _=>some (.d .bool)
 |_+1,_,.nil,.sc (.sl e) _=>some (.d (.sl e))
 |_+1,_,.sc (.sl e) _,.nil=>some (.d (.sl e))
 |_+1,n,.nil,.own id _=>(match R.aW id with|.ob e _=>some (.o n e)|.fz e _=>some (.d (.sl e))|_=>none)
 |_+1,n,.own id _,.nil=>(match O.aW id with|.ob e _=>some (.o n e)|.fz e _=>some (.d (.sl e))|_=>none)
 | _+1,n, .own id _, .own pj _=>(match O.aW id,R.aW pj with
   |.ob e _,.ob bA _=>bif ag.is e bA then some (.o n e) else none
   |.fz e _,.ob bA _=>bif ag.is e bA then some (.d (.sl e)) else none
   |.ob e _,.fz bA _=>bif ag.is e bA then some (.d (.sl e)) else none
   |.fz e _,.fz bA _=>bif ag.is e bA then some (.d (.sl e)) else none
   |_,_=>none)
 |_+1,_,.sc (.sl e) _,.own id _=>(match R.aW id with|.ob bA _=>bif ag.is e bA then some (.d (.sl e)) else none|.fz bA _=>bif ag.is e bA then some (.d (.sl e)) else none|_=>none)
 |_+1,_,.own id _,.sc (.sl e) _=>(match O.aW id with|.ob bA _=>bif ag.is e bA then some (.d (.sl e)) else none|.fz bA _=>bif ag.is e bA then some (.d (.sl e)) else none|_=>none)
 |_+1,n,.nil,.osl id _ _=>(match R.aW id with|.ob e _=>some (.o n e)|.fz e _=>some (.d (.sl e))|_=>none)
 |_+1,n,.osl id _ _,.nil=>(match O.aW id with|.ob e _=>some (.o n e)|.fz e _=>some (.d (.sl e))|_=>none)
 | _+1,n, .osl id _ _, .own pj _=>(match O.aW id,R.aW pj with
   |.ob e _,.ob bA _=>bif ag.is e bA then some (.o n e) else none
   |.fz e _,.ob bA _=>bif ag.is e bA then some (.d (.sl e)) else none
   |.ob e _,.fz bA _=>bif ag.is e bA then some (.d (.sl e)) else none
   |.fz e _,.fz bA _=>bif ag.is e bA then some (.d (.sl e)) else none
   |_,_=>none)
 | _+1,n, .own id _, .osl pj _ _=>(match O.aW id,R.aW pj with
   |.ob e _,.ob bA _=>bif ag.is e bA then some (.o n e) else none
   |.fz e _,.ob bA _=>bif ag.is e bA then some (.d (.sl e)) else none
   |.ob e _,.fz bA _=>bif ag.is e bA then some (.d (.sl e)) else none
   |.fz e _,.fz bA _=>bif ag.is e bA then some (.d (.sl e)) else none
   |_,_=>none)
 |_+1,_,.osl _ _ _,.osl _ _ _=>none
 |_+1,_,_,_=>none
def Eo:kG->ag
 |.d t=>t|.o _ e=>.sl e|.p a b=>.pair (Eo a) (Eo b)
def l4:kG->List Nat
 |.d _=>[]|.o id _=>[id]|.p a b=>l4 a++l4 b
def il:List fc->List Nat
 |[]=>[]
 |.ow _ id _::r=>id::il r
 |.bx _ _ sh::r=>l4 sh++il r
 |_::r=>il r
def dD:List fc->List Nat
 |[]=>[]
 |.bk id _::r=>id::dD r
 |.bx id _ _::r=>id::dD r
 |.it id _::r=>id::dD r
 |_::r=>dD r
def vN:List fc->List Nat
 |[]=>[]
 |.sl i _::r=>i::vN r
 |.ow i _ _::r=>i::vN r
 |_::r=>vN r
def Al:aU->Bool
 |.new=>true|_=>false
def Aj:fc->Bool
 |.bk _ _=>true|_=>false
def ME:List Nat->Bool
 |[]=>true
 |i::r=>!(r.any (Nat.beq i))&&ME r
def LD(base:aR)(es:List fc)(Ci:List Nat):Bool:=
 ME (il es++dD es)&&(il es).all (λid=>Al (base.aW id))&&(dD es).all (λid=>!(Al (base.aW id)))&&(vN es).all (λi=>Ci.any (Nat.beq i))
def CD(base:aR)(es:List fc)(s:aR):Bool:=
 (s.w.take (s.w.length-base.w.length)).all λid=>Al (base.aW id)||(dD es).any (Nat.beq id)
def wG(e:ag):av->aw (List e.aG)
 |.nil=>bif Nat.blt 0 e.size then .ret []else .fail
 |.own id _=>.rb id fun|.ob bA l=>(aw.opt (ag.lp bA e l)).bind λx=>.eY id .fq (.ret x)|_=>.fail
 |.osl id off n=>.rb id fun|.ob bA l=>(aw.opt (ag.lp bA e l)).bind λx=>.eY id .fq (.ret (cut x off n))|_=>.fail
 |_=>.fail
def Oi:av->Option (av×av)
 |.two u v=>some (u,v)
 |.sc (.pair t u) x=>some (.sc t x.1,.sc u x.2)
 |_=>none
def AR:(sh:kG)->av->aw sh.aG
 |.d t,v=>aeL t v
 |.o _ e,v=>wG e v
 |.p a b,v=>match Oi v with
  |some (u,w)=>(AR a u).bind λx=>(AR b w).bind λy=>.ret (x,y)
  |none=>.fail
def g6:(sh:kG)->sh.aG->av×List (Nat×aU)
 |.d t,x=>(.sc t x,[])
 |.o id e,l=>(.own id false,[(id,.ob e l)])
 |.p a b,x=>(.two (g6 a x.1).1 (g6 b x.2).1,(g6 a x.1).2++(g6 b x.2).2)
def AP(s:aR):(e:fc)->aS (e.aG×aR)
 |.sl i t=>aw.jf s (.rt i λv=>aeL t v)
 |.ow i _ e=>aw.jf s (.rt i λv=>wG e v)
 |.bk id e=>aw.jf s (.rb id fun|.ob bA l=>aw.opt (ag.lp bA e l)|_=>.fail)
 |.bx id t sh=>aw.jf s (.rb id fun|.box t' v=>bif ag.is t' t&&ag.is (Eo sh) t then AR sh v else .fail|_=>.fail)
 |.it id _=>aw.jf s (.rb id fun|.it _ p=>.ret p|_=>.fail)
def r8(s:aR):(l:List fc)->aS (nd l×aR)
 |[]=>.leaf ((),s)
 |e::r=>bif Aj e then(r8 s r).bind λy=>(AP y.2 e).bind λx=>.leaf ((x.1,y.1),x.2)
  else(AP s e).bind λx=>(r8 x.2 r).bind λy=>.leaf ((x.1,y.1),y.2)
def My(h:List (Nat×aU)):Nat->Nat->Nat
 |0,i=>i
 |n+1,i=>match qV h i with|.new=>i|_=>My h n (i+1000000)
def Di{β:Type 1}(s:aR):(e:fc)->e.aG->(aR->β)->β
 |.sl i t,x,k=>s.Bc i (.sc t x) k
 |.ow i id e,l,k=>s.Bb id (.ob e l) λs=>s.Bc i (.own id false) k
 |.bk id e,l,k=>s.Bb id (.ob e l) k
 |.bx id t sh,x,k=>s.wT (g6 sh x).2 λs=>s.Bb id (.box t (g6 sh x).1) k
 |.it id _,p,k=>(match s.aW id with|.it str _=>s.Bb id (.it str p) k|_=>k s)
def qT{β:Type 1}(s:aR):(l:List fc)->nd l->(aR->β)->β
 |[],_,k=>k s
 |e::r,x,k=>Di s e x.1 λs=>qT s r x.2 k
def agN(s:aR)(n i:Nat)(v:av):List aR->Option kG
 |[]=>none
 |cv::r=>match wV s cv 60 n v (cv.bW i) with|some x=>some x|none=>agN s n i v r
def ag3(b:Nat)(s:aR)(zD:List aR):List Nat->List fc
 |[]=>[]
 |i::r=>
  let rest:=ag3 b s zD r
  match zD with
  |[]=>(match s.bW i with|.sc t _=>.sl i t::rest|.kb _=>.sl i .bool::rest|_=>rest)
  |_::_=>match agN s (My s.h 9 (16*(b+i)+15)) i (s.bW i) zD with
   |some (.d t)=>.sl i t::rest
   |some (.o id e)=>.ow i id e::rest
   |_=>rest
def DV:ag->av->av->av×av
 |.sl e,.nil,.nil=>(.sc (.sl e) ([]:List e.aG),.sc (.sl e) ([]:List e.aG))
 |.pair a b,.two u v,.two u' c9=>(.two (DV a u u').1 (DV b v c9).1,.two (DV a u u').2 (DV b v c9).2)
 |_,v,c9=>(v,c9)
def X4(s:aR)(zD:List aR)(ahB:List Nat):List (Nat×aU)->List fc
 |[]=>[]
 |(id,b)::r=>
  let rest:=X4 s zD ahB r
  bif zD.any (λcv=>(cv.w.take (cv.w.length-s.w.length)).any (Nat.beq id)) && !(ahB.any (Nat.beq id)) then
   match b,zD with
   | .box t v,cv :: _=>(match cv.aW id with
    |.box _ c9=>(match wV s cv 60 (My s.h 9 (1000003*(id+1))) (DV t v c9).1 (DV t v c9).2 with|some sh=>.bx id t sh::rest|none=>rest)
    |_=>rest)
   |.box t v,[]=>(match wV s s 60 (My s.h 9 (1000003*(id+1))) v v with|some sh=>.bx id t sh::rest|none=>rest)
   |.ob e _,_=>.bk id e::rest
   |.it str _,_=>.it id str::rest
   |_,_=>rest
  else rest
def DT(s:aR):List fc->List Nat
 |[]=>[]
 |.ow i _ _::r=>(match s.bW i with|.own id _=>id::DT s r|.osl id _ _=>id::DT s r|_=>DT s r)
 |.bx id _ _::r=>id::DT s r
 |_::r=>DT s r
def zG{β:Type 1}:kG->(kG->β)->β
 |.d t,k=>pU t λt=>k (.d t)
 |.o i e,k=>pU e λe=>k (.o i e)
 |.p a b,k=>zG a λa=>zG b λb=>k (.p a b)
def anO{β:Type 1}(t:kG)(k:kG->β):zG t k=k t:=by
 induction t generalizing k with
 |d t=>simp only[zG,K']
 |o i e=>simp only[zG,K']
 |p a b bc Y=>simp only[zG,bc,Y]
def xO{β:Type 1}:List fc->(List fc->β)->β
 |[],k=>k []
 |.sl i t::r,k=>pU t λt=>xO r λr=>k (.sl i t::r)
 |.ow i id e::r,k=>pU e λe=>xO r λr=>k (.ow i id e::r)
 |.bk i e::r,k=>pU e λe=>xO r λr=>k (.bk i e::r)
 |.bx i t s::r,k=>zG s λs=>xO r λr=>k (.bx i t s::r)
 |.it i s::r,k=>xO r λr=>k (.it i s::r)
def anM{β:Type 1}(l:List fc)(k:List fc->β):xO l k=k l:=by
 induction l generalizing k with
 |nil=>rfl
 |cons e r ih=>cases e<;>simp only[xO,K',anO,ih]
def UA{ρ:Type}:List (ki ρ)->List aR
 |[]=>[]
 |.nx s::r=>s::UA r
 |_::r=>UA r
def AH{ρ:Type}:ki ρ->Option aR
 |.nx s=>some s
 |_=>none
def CI{ρ:Type}:List (ki ρ)->List Nat
 |[]=>[]
 |.ex k _::r=>bif (CI r).any (Nat.beq k) then CI r else k::CI r
 |_::r=>CI r
def Ok{ρ:Type}:List (ki ρ)->List aR
 |[]=>[]
 |.nx s::r=>s::Ok r
 |.ex _ s::r=>s::Ok r
 |_::r=>Ok r
def oM{σ ρ:Type}(f:σ->Option (aE σ ρ)):Nat->σ->Option (aE σ ρ)
 |0,_=>none
 |n+1,x=>match f x with
  |some (.nx vj)=>oM f n vj
  |r=>r
open Classical in
def bC{σ ρ:Type}(f:σ->Option (aE σ ρ))(x:σ):Option (aE σ ρ):=
 if h:∃n,(oM f n x).isSome then oM f (choose h) x else none
def Qk(s:aR):List fc->List Nat
 |[]=>[]
 |.bx id _ _::r=>(match s.aW id with|.box _ v=>dV v|_=>[])++Qk s r
 |_::r=>Qk s r
def aj5(l:List Nat):fc->Bool
 |.bk id _=>!(l.any (Nat.beq id))
 |_=>false
def entries{ρ:Type}(b:Nat)(s:aR)(Ht:List (ki ρ))(Ci:List Nat):List fc:=
 let aac:=ag3 b s (UA Ht) Ci
 let Rv:=X4 s (Ok Ht) (DT s aac) s.h
 aac++(Rv.filter (λe=>!(Aj e))++Rv.filter (aj5 (Qk s Rv)))
def Iz{ρ:Type}(base:aR)(es:List fc):ki ρ->aS (aE (nd es) ρ)
 |.nx cv=>(r8 cv es).bind λy=>bif CD base es y.2 then .leaf (aE.nx y.1) else .fail
 |.ex k cv=>(r8 cv es).bind λy=>bif CD base es y.2 then .leaf (aE.ex k y.1) else .fail
 |.rt r=>.leaf (aE.rt r)
def CJ{ρ:Type}(k:Nat)(s:aR):List Nat->aS (ki ρ)
 |[]=>.fail
 |[i]=>.chk (bP k i) (.leaf (.ex i s))
 |i::r=>.br (bP k i) (.leaf (.ex i s)) (CJ k s r)
def qa:List Nat->Code->Bool
 |_,.skip=>true
 |_,.label _=>true
 |_,.region _ _ _=>true
 |b8,.seq a b=>qa b8 a&&qa b8 b
 |b8,.cond _ a b=>qa b8 a&&qa b8 b
 |b8,.block i b=>qa (i::b8) b
 |b8,.loop b=>qa b8 b
 |b8,.exit i=>b8.any (Nat.beq i)
 |_,_=>false
def adQ(E:dl):Bool:=match E.Pn with|none=>true|some _=>false
def iU:Nat:=999999999
def hG:Nat:=1000000000
def HK(m:Nat):List Oper->Option (List Oper×Option Nat×Operand×Nat×Oper)
 |[]=>none
 |o::r=>match HK m r with
  |some q=>some (o::q.1,q.2)
  | none=>(match r,o with
   | [],⟨c7, .call ⟨.value (.func f),args,d?⟩,ty,jG,pK,none⟩=>bif Nat.beq f m then (match args.toList with
    |[c,.const (.int .i64 (.ofNat k))]=>some ([],c7,c,k,⟨c7,.call ⟨.value (.func f),args,d?⟩,ty,jG,pK,none⟩)
    |_=>none) else none
   |_,_=>none)
def Mx(E:dl)(ops:List Oper):Option (List Oper×Option Nat×Operand×Nat×Oper):=match E.Pn with|some p=>HK p.1 ops|none=>none
def Lv(n:Nat):List Oper->Bool
 |[]=>true
 |o::r=>(match o.guard with|some (g,_)=>Nat.blt g n|none=>true)&&Lv n r
def Hx(l:List Oper)(o:Oper):Bool:=vM 0 (l++[o])&&Lv l.length l&&(List.range l.length).all λi=>Nat.testBit ((mb (l++[o]) []).getD l.length 0) i
def U_(E:dl):Oper->Option (Nat×Option Nat×ot×List Operand)
 |⟨c7,.call ⟨.value (.func f),args,_⟩,_,_,_,none⟩=>(match E.Q f with|some s=>some (f,c7,s,args.toList)|none=>none)
 |_=>none
def D4(E:dl):List Oper->Option (List Oper×(Nat×Option Nat×ot×List Operand)×Oper×List Oper)
 |[]=>none
 | o :: r=>(match U_ E o with
  |some q=>some ([],q,o,r)
  | none=>(match D4 E r with | some p=>some (o :: p.1,p.2) | none=>none))
def F5{ρ:Type}(k:Nat)(s:aR):List Nat->aS (ki ρ)
 |[]=>.fail
 |[i]=>.chk (bP k i) (.leaf (.ex (hG+i) s))
 |i::r=>.br (bP k i) (.leaf (.ex (hG+i) s)) (F5 k s r)
def HJ{ρ:Type}(nt:Nat)(c7:Option Nat)(c:Operand)(k:Nat)(s:aR):aS (ki ρ):=
 (aw.jf s (eu c)).bind λr=>match r.1 with
   |.sc .bool v=>.br v (iK nt c7 s .bad λs=>.leaf (.nx s)) (.leaf (.ex (hG+k) s))
   |.kb v=>bif v then iK nt c7 s .bad λs=>.leaf (.nx s) else .leaf (.ex (hG+k) s)
   |_=>.fail
def Oz{ρ:Type}(f:aR->aS (ki ρ)):Nat->aR->aS (ki ρ)
 |0,_=>.fail
 |n+1,s=>(f s).bind fun
  |.nx cv=>Oz f n cv
  |o=>.leaf o
section
variable (E:dl) (rs:List ez) (res:List ResultVar) (nv nt:Nat) (inl:Bool)
def run:Code->aR->aS (ki (eq rs))
 |.skip,s=>.leaf (.nx s)
 |.label _,s=>.leaf (.nx s)
 | .region _ ops dx,s=>(match Mx E ops.toList with
  |some q=>bif dx then(bif Hx q.1 q.2.2.2.2 then(oS E q.1 nv nt true true 0 q.1 s []).bind λs=>HJ nt q.2.1 q.2.2.1 q.2.2.2.1 s else .fail) else(pq E ops.toList nv nt true 0 q.1 s).bind λs=>HJ nt q.2.1 q.2.2.1 q.2.2.2.1 s
  |none=>match D4 E ops.toList with
  |some (fk,q,_,gO)=>bif dx then .fail else(pq E ops.toList nv nt true 0 fk s).bind λbp=>(aw.jf bp ((mm eu q.2.2.2).bind λa5=>QQ q.2.2.1 a5)).bind λr=>
    .br (bP r.1.1 0) (iK nt q.2.1 r.2 r.1.2 λd_=>(pq E ops.toList nv nt true (fk.length+1) gO d_).bind λeL=>.leaf (.nx eL)) (F5 r.1.1 r.2 q.2.2.1.ks)
  | none=>bif !dx && QU E ops.toList then (pq E ops.toList nv nt true 0 ops.toList s).bind λs => .leaf (.nx s) else (oS E ops.toList nv nt dx true 0 ops.toList s []).bind λs => .leaf (.nx s))
 |.seq a b,s=>(run a s).bind fun
  |.nx cv=>run b cv
  |o=>.leaf o
 |.cond c a b,s=>(aw.jf s (eu c)).bind λr=>match r.1 with
  |.kb v=>bif v then run a s else run b s
  |.sc .bool v=>
   bif E.U && !(qa [] a&&qa [] b) then(bif v then run a s else run b s) else
   bif qa [] a&&qa [] b&&adQ E then
    (Hn s (nb (dY a++dY b)) ((nb (dY a++dY b)).filter λk=>Nat.blt k nv)
     (.br v ((run a s).nu AH) ((run b s).nu AH))).bind λs=>.leaf (.nx s)
   else .br v (run a s) (run b s)
  |_=>.fail
 |.block id b,s=>bif Nat.ble iU id then .fail else(run b s).bind fun
  |.ex k cv=>bif Nat.beq k id then .leaf (.nx cv) else .leaf (.ex k cv)
  |o=>.leaf o
 |.exit id,s=>bif Nat.ble iU id then .fail else .leaf (.ex id s)
 |.scope b,s=>run b s
 |.ret,s=>bif inl then .leaf (.ex iU s) else(ny E s res).bind λvs=>(oP s rs vs).bind λr=>.leaf (.rt r)
 |.loop b,s=>bif E.U then Oz (λs=>run b s) 64 s else
  (run b s).p_ λHt=>
  xO (entries E.b s Ht (nb (dY b))) λes=>
  (r8 s es).bind λri=>Jq ri.2 (nb (dY b)) λbase=>
   bif LD base es (nb (dY b)) then
    .cs (aiv es) (y9 rs) (bC (λx=>(qT base es x λs=>aS.bind (run b s) (Iz base es)).bI) ri.1) (λ_=>.fail) (λk x=>qT base es x λs=>CJ k s (CI Ht)) (λr=>.leaf (.rt r))
   else .fail
 |_,_=>.fail
end
def nO:(ts:List ag)->h3 ts->List av
 |[],_=>[]
 |t::ts,x=>.sc t x.1::nO ts x.2
def Le{β:Type 1}:Nat->Nat->dR->(dR->β)->β
 |0,_,t,k=>k t
 |n+1,i,t,k=>vc 40 t i .undef λt=>Le n (i+1) t k
def fill{β:Type 1}(n:Nat):List av->Nat->dR->(dR->β)->β
 |[],i,t,k=>Le (n-i) i t k
 |v::r,i,t,k=>ng v λv=>vc 40 t i v λt=>fill n r (i+1) t k
def Mu(E:dl)(fn:Func)(nv:Nat)(ts:List ag)(rs:List ez)(x:h3 ts):Option (eq rs):=
 match fn.body with
 |none=>none
 | some c=>bif !(Nat.ble fn.ntmps 1000000) then none else (fill fn.ntmps (nO ts x) 0 .e λt=>aS.bind (run E rs fn.results.toList nv fn.ntmps false c ⟨t,[],[]⟩) fun
   |.rt r=>.leaf r
   |.nx s=>(ny E s fn.results.toList).bind λvs=>oP s rs vs
   |.ex _ _=>.fail).bI
def FC(t:ag):aw t.aG:=.rb 3 λb=>match b with
 |.box t' v=>bif ag.is t' t then(m2 true t v).bind λx=>.rb 3 λeC=>match eC with
  |.box eF _=>bif ag.is eF t then .eY 3 .fq (.ret x) else .fail
  |_=>.fail
  else .fail
 |_=>.fail
def sN(E:dl)(t:ag)(rs:List ez)(res:List ResultVar)(s:aR):aS (t.aG×eq rs):=
 (ny E s res).bind λvs=>(aw.jf s (FC t)).bind λz=>(oP z.2 rs vs).bind λr=>.leaf (z.1,r)
def HI(E:dl)(fn:Func)(nv:Nat)(t:ag)(ts:List ag)(rs:List ez)(x:t.aG×h3 ts):Option (t.aG×eq rs):=
 match fn.body with
 |none=>none
 | some c=>bif !(Nat.ble fn.ntmps 1000000) then none else (fill fn.ntmps (.ptr 3 [] :: nO ts x.2) 0 .e λbv=>aS.bind (run E [] fn.results.toList nv fn.ntmps true c ⟨bv,[(3, .box t (.sc t x.1))],[]⟩) fun
   |.nx s=>sN E t rs fn.results.toList s
   |.ex k s=>bif Nat.beq k iU then sN E t rs fn.results.toList s else .fail
   |.rt _=>.fail).bI
def Mv(E:dl)(fn:Func)(nv:Nat)(t:ag)(ts:List ag)(rs:List ez)(x:t.aG×h3 ts):Option (t.aG×Nat×eq rs):=
 match fn.body with
 |none=>none
 | some c=>bif !(Nat.ble fn.ntmps 1000000) then none else (fill fn.ntmps (.ptr 3 [] :: nO ts x.2) 0 .e λbv=>aS.bind (run E [] fn.results.toList nv fn.ntmps true c ⟨bv,[(3, .box t (.sc t x.1))],[]⟩) fun
   |.nx s=>(sN E t rs fn.results.toList s).bind λz=>.leaf (z.1,0,z.2)
   |.ex k s=>bif Nat.beq k iU then(sN E t rs fn.results.toList s).bind λz=>.leaf (z.1,0,z.2) else
     bif Nat.blt hG k then(aw.jf s (FC t)).bind λz=>.leaf (z.1,k-hG,y9 rs) else .fail
   |.rt _=>.fail).bI
def AE:List Operand->Bool
 |[]=>true|_=>false
def yB(bd:Nat):Option Nat->av
 |none=>.sc (.op 1) ()|some k=>.ifc bd (.int .i64) (bb k)
def FV:Code->Option (Nat×Nat×List Operand)
 |.region _ ops dx=>bif dx then none else match ops.toList with
  |[⟨some d,.makeFunc (.func F) first xB,_,_,_,none⟩,⟨none,.defer ⟨.value (.tmp xH),args,_⟩,_,_,_,none⟩]=>bif Nat.beq d xH&&(AE first.toList&&AE args.toList) then some (d,F,xB.toList) else none
  |_=>none
 |_=>none
def yO:Code->Option (Code×(Nat×Nat×List Operand)×Code)
 | .seq a b=>(match FV a with
  |some q=>some (.skip,q,b)
  | none=>(match yO b with | some p=>some (.seq a p.1,p.2) | none=>none))
 |_=>none
def I6:Code->Option (Nat×Code)
 | .seq (.region _ ops false) b=>(match ops.toList with
  |[⟨some d,.call ⟨.builtin .recover,args,_⟩,_,_,_,none⟩]=>bif AE args.toList then some (d,b) else none
  |_=>none)
 |_=>none
def sE(E EC:dl)(fn fj:Func)(mq jb bd:Nat)(C:Code)(rs:List ez)(cZ:List iP)(o:Option Nat)(s:aR):aS (eq rs):=
 fill fj.ntmps (cZ.map iP.pv) 0 .e λax3=>iK fj.ntmps (some jb) ⟨ax3,s.h,s.w⟩ (yB bd o) λrc=>
  aS.bind (run EC [] fj.results.toList mq fj.ntmps true C rc) fun
   |.nx eL=>(ny E ⟨s.t,eL.h,eL.w⟩ fn.results.toList).bind λvs=>oP ⟨s.t,eL.h,eL.w⟩ rs vs
   |.ex k eL=>bif Nat.beq k iU then(ny E ⟨s.t,eL.h,eL.w⟩ fn.results.toList).bind λvs=>oP ⟨s.t,eL.h,eL.w⟩ rs vs else .fail
   |.rt _=>.fail
def Uk(E EC:dl)(fn fj:Func)(nv mq bd:Nat)(ts:List ag)(rs:List ez)(x:h3 ts):Option (eq rs):=
 match fn.body,fj.body with
 | some c,some a7=>(match yO c,I6 a7 with
  |some (A,q,B),some (jb,C)=>bif !(Nat.ble fn.ntmps 1000000&&(Nat.ble fj.ntmps 1000000&&Nat.beq fj.results.size 0)) then none else
   (fill fn.ntmps (nO ts x) 0 .e λt=>aS.bind (run E [] fn.results.toList nv fn.ntmps true A ⟨t,[],[]⟩) fun
    |.nx bp=>(aw.jf bp ((mm eu q.2.2).bind λb=>mm Cy b)).bind λcZ=>iK fn.ntmps (some q.1) cZ.2 .bad λax=>
     aS.bind (run E [] fn.results.toList nv fn.ntmps true B ax) fun
      |.nx d_=>sE E EC fn fj mq jb bd C rs cZ.1 none d_
      |.ex k d_=>bif Nat.beq k iU then sE E EC fn fj mq jb bd C rs cZ.1 none d_ else bif Nat.blt hG k then sE E EC fn fj mq jb bd C rs cZ.1 (some (k-hG)) d_ else .fail
      |.rt _=>.fail
    |_=>.fail).bI
  |_,_=>none)
 |_,_=>none
def Bv:List av->av
 |[v]=>v
 |vs=>.tup (vs.foldr av.two (.sc .unit ()))
def jk(E:dl)(fn:Func)(nv:Nat):gA:=λb args s=>
 match fn.body with
 |none=>.fail
 |some c=>bif !(Nat.ble fn.ntmps 1000000) then .fail else fill fn.ntmps args 0 .e λt=>aS.bind (run { E with b:=b } [] fn.results.toList nv fn.ntmps true c ⟨t,s.h,s.w⟩) fun
   |.nx ax=>(ny { E with b:=b } ax fn.results.toList).bind λvs=>bif vs.all wD then .leaf (Bv vs,⟨s.t,ax.h,ax.w⟩) else .fail
   |.ex k ax=>bif Nat.beq k iU then(ny { E with b:=b } ax fn.results.toList).bind λvs=>bif vs.all wD then .leaf (Bv vs,⟨s.t,ax.h,ax.w⟩) else .fail else .fail
   |.rt _=>.fail
end Yp
namespace Yp
open Go
def db:=@List.length_append
def kg:=@List.getElem?_eq_getElem
def iQ:=@List.mem_append
def o3:=@List.getElem_of_mem
def su:=@List.drop_drop
def tS:=@UInt8.toNat_ofNat'
def sx:=@Nat.mod_lt
def Ca:=@Nat.min_eq_left
def PK:=@Bool.false_eq_true
def PD:=@List.mem_iff_getElem
def Xd:=@Nat.blt_eq
def Xe:=@Nat.mul_comm
def bH.Ou(k:IntKind)(n:Int):bH.to k (bH.of k n)=k.wrap n:=by
 cases k<;>simp only[bH.to,bH.of,i64,Hb,acI,acJ,u8,u16,u32,u64,aN,wz,a3,cz]
 .rw[UInt8.ofInt];simp[IntKind.wrap,IntKind.signed,IntKind.bits];omega
 .rw[UInt16.ofInt];simp[IntKind.wrap,IntKind.signed,IntKind.bits];omega
 .rw[UInt32.ofInt];simp[IntKind.wrap,IntKind.signed,IntKind.bits];omega
 rw[UInt64.ofInt];simp[IntKind.wrap,IntKind.signed,IntKind.bits];omega
def bH.ahN(k:IntKind)(n:Int)(h:HC k n=true):bH.to k (bH.lit k n)=n:=by
 cases k<;>cases n<;>simp only[bH.to,bH.lit,u8,u16,u32,u64,aN,wz,a3,cz,HC,Xd,PK]at h ⊢
 .rw[UInt8.ofInt,tS];simp;omega
 .rw[UInt16.ofInt,UInt16.toNat_ofNat'];simp;omega
 .rw[UInt32.ofInt,UInt32.toNat_ofNat'];simp;omega
 rw[UInt64.ofInt,UInt64.toNat_ofNat'];simp;omega
def cJ(c:Array Value)(o n:Nat):List Value:=(c.toList.drop o).take n
abbrev ij{α:Type}(l:List α)(i:Nat):Option α:=l[i]?
abbrev cf:=Nat->Option Obj
def cf.cc(H H':cf):Prop:=∀b o,H b=some o->H' b=some o
def cf.cc.refl(H:cf):H.cc H:=λ_ _ h=>h
def cf.cc.trans{H H' W?:cf}(h:H.cc H')(g:H'.cc W?):H.cc W?:=λb o e=>g b o (h b o e)
def AD:Nat->Value
 |0=>.nilFunc|1=>.nilIface|2=>.map none|_=>.pointer none
def sQ(l:List Nat):Nat->Value
 |0=>.nilFunc
 |n+1=>match l[n]? with|some f=>.func (.func f) #[] #[]|none=>.nilFunc
def aJ(H:cf):(t:ag)->t.aG->List Value->Prop
 |.bool,b,cs=>cs=[.bool b]
 |.int k,x,cs=>cs=[.int k (bH.to k x)]
 |.str,s,cs=>cs=[.string ⟨(s:List UInt8).toArray⟩]
 |.sl e,l,cs=>∃a cap,cs=[.slice a (l:List e.aG).length cap]/\(l:List e.aG).length<=cap/\cap<=maxLen /\
   ((l:List e.aG)=[]\/∃b o c el fz,a=some ⟨b,o,none⟩/\H b=some (.cells c el fz)/\o+(l:List e.aG).length*e.size<=c.size /\
    ∀(i:Nat) (x:e.aG),ij (α:=e.aG) l i=some x->aJ H e x (cJ c (o+i*e.size) e.size))
 |.unit,_,cs=>cs=[]
 |.pair a b,x,cs=>∃c1 c2,cs=c1++c2/\aJ H a x.1 c1/\aJ H b x.2 c2
 |.ar n e,l,cs=>(l:List e.aG).length=n/\cs.length=n*e.size /\
   ∀(i:Nat) (x:e.aG),ij (α:=e.aG) l i=some x->aJ H e x ((cs.drop (i*e.size)).take e.size)
 |.op k,_,cs=>cs=[AD k]
 |.fn l,x,cs=>cs=[sQ l x]
def atP(k:Nat):(AD k).oneCell'=true:=by unfold AD;split<;>simp[Value.oneCell']
def an8(l:List Nat)(x:Nat):(sQ l x).oneCell'=true:=by
 cases x with
 |zero=>simp[sQ,Value.oneCell']
 |succ n=>simp only[sQ];split<;>simp[Value.oneCell']
def aJ.length{H:cf}:∀{t:ag} {x:t.aG} {cs:List Value},aJ H t x cs->cs.length=t.size
 |.bool,_,_,h=>by rw[aJ]at h;rw[h];rfl
 |.int _,_,_,h=>by rw[aJ]at h;rw[h];rfl
 |.str,_,_,h=>by rw[aJ]at h;rw[h];rfl
 |.sl _,_,_,h=>by rw[aJ]at h;obtain⟨a,cap,h,_⟩:=h;rw[h];rfl
 |.unit,_,_,h=>by rw[aJ]at h;rw[h];rfl
 |.pair a b,_,_,h=>by rw[aJ]at h;obtain⟨c1,c2,h,O,R⟩:=h;rw[h,db,aJ.length O,aJ.length R];rfl
 |.ar n e,_,_,h=>by rw[aJ]at h;exact h.2.1
 |.op k,_,_,h=>by rw[aJ]at h;rw[h];rfl
 |.fn l,_,_,h=>by rw[aJ]at h;rw[h];rfl
def aJ.mono{H H':cf}(hl:H.cc H'):∀{t:ag} {x:t.aG} {cs:List Value},aJ H t x cs->aJ H' t x cs
 |.bool,_,_,h=>by rw[aJ]at h ⊢;exact h
 |.int _,_,_,h=>by rw[aJ]at h ⊢;exact h
 |.str,_,_,h=>by rw[aJ]at h ⊢;exact h
 |.sl e,_,_,h=>by
  obtain⟨a,cap,h,ah,hm,R⟩:=h;refine⟨a,cap,h,ah,hm,?_⟩;rcases R with R|⟨b,o,c,el,fz,bc,Y,ae,hx⟩
  .grind
  exact .inr ⟨b,o,c,el,fz,bc,hl _ _ Y,ae,λi x ac=>aJ.mono hl (hx i x ac)⟩
 |.unit,_,_,h=>by rw[aJ]at h ⊢;exact h
 |.pair a b,_,_,h=>by rw[aJ]at h ⊢;obtain⟨c1,c2,h,O,R⟩:=h;exact⟨c1,c2,h,aJ.mono hl O,aJ.mono hl R⟩
 |.ar n e,_,_,h=>by exact⟨h.1,h.2.1,λi x ac=>aJ.mono hl (h.2.2 i x ac)⟩
 |.op k,_,_,h=>by rw[aJ]at h ⊢;exact h
 |.fn l,_,_,h=>by rw[aJ]at h ⊢;exact h
def adu(n e:Nat)(cs:List α)(h:cs.length=n*e)(v:α)(aD:v∈cs):∃i,i<n/\v∈(cs.drop (i*e)).take e:=by
 obtain⟨j,ao,rfl⟩:=o3 aD;have az:0<e:=by
  rcases Nat.eq_zero_or_pos e with aq|aq;· subst aq;simp at h;subst h;simp at ao
  exact aq
 refine⟨j/e,?_,?_⟩
 .exact Nat.div_lt_of_lt_mul (by grind)
 rw[PD];have hm:j%e<e:=sx _ az;have aI:j/e*e+j%e=j:=by rw[Xe];exact Nat.div_add_mod j e
 have b9:j%e<((cs.drop (j/e*e)).take e).length:=by
  grind
 grind
def aJ.one{H:cf}:∀{t:ag} {x:t.aG} {cs:List Value},aJ H t x cs->∀v∈cs,v.oneCell'=true
 |.bool,_,_,h=>by rw[aJ]at h;subst h;simp[Value.oneCell']
 |.int _,_,_,h=>by rw[aJ]at h;subst h;simp[Value.oneCell']
 |.str,_,_,h=>by rw[aJ]at h;subst h;simp[Value.oneCell']
 |.sl _,_,_,h=>by rw[aJ]at h;obtain⟨a,cap,h,_⟩:=h;subst h;simp[Value.oneCell']
 |.unit,_,_,h=>by rw[aJ]at h;subst h;simp
 |.pair a b,_,_,h=>by
  rw[aJ]at h;obtain⟨c1,c2,h,O,R⟩:=h;subst h;intro v aD;rcases iQ.1 aD with aD|aD
  .exact aJ.one O v aD
  exact aJ.one R v aD
 |.ar n e,x,cs,h=>by rw[aJ]at h;obtain⟨am,hl,hx⟩:=h;intro v aD;obtain⟨i,ac,hm⟩:=adu n e.size cs hl v aD;have:i<(x:List e.aG).length:=J;exact aJ.one (hx i _ (kg this)) v hm
 |.op k,_,_,h=>by rw[aJ]at h;subst h;intro v aD;simp at aD;rw[aD];exact atP k
 |.fn l,_,_,h=>by rw[aJ]at h;subst h;intro v aD;simp at aD;rw[aD];exact an8 l _
def cB(t:ag)(cs:List Value):Value:=if t.isAgg then .agg cs.toArray else cs.headD undef
def HH{H:cf}{t:ag}{x:t.aG}{cs:List Value}(h:aJ H t x cs):(cB t cs).cells=cs.toArray:=by
 cases t with
 |unit=>rfl
 |pair a b=>rfl
 |ar n e=>rfl
 |bool=>rw[aJ]at h;subst h;rfl
 |int k=>rw[aJ]at h;subst h;rfl
 |str=>rw[aJ]at h;subst h;rfl
 |sl e=>rw[aJ]at h;obtain⟨a,cap,h,_⟩:=h;subst h;rfl
 |op k =>rw[aJ]at h;subst h;unfold AD;split<;>rfl
 |fn l =>rw[aJ]at h;subst h;unfold sQ;split<;>(try split)<;>rfl
def qh{c:Array Value}(h:o+n<=c.size):(cJ c o n).length=n:=by simp[cJ];omega
def wR{c:Array Value}(h:i<n):(cJ c o n)[i]?=c[o+i]?:=by simp[cJ,h]
def Ei(c:Array Value)(o n p m:Nat)(h:p+m<=n):((cJ c o n).drop p).take m=cJ c (o+p) m:=by unfold cJ;rw[List.drop_take,List.take_take,su,Ca J]
def NU(c:Array Value)(o m n:Nat):cJ c o (m+n)=cJ c o m++cJ c (o+m) n:=by unfold cJ;rw[List.take_add,su]
def aJ.jl{H:cf}{k:IntKind}{x:(ag.int k).aG}{cs:List Value}:aJ H (.int k) x cs↔cs=[.int k (bH.to k x)]:=by rw[aJ]
def aJ.oA{H:cf}{x:ag.bool.aG}{cs:List Value}:aJ H .bool x cs↔cs=[.bool x]:=by rw[aJ]
def aJ.tv{H:cf}{x:ag.str.aG}{cs:List Value}:aJ H .str x cs↔cs=[.string ⟨(x:List UInt8).toArray⟩]:=by rw[aJ]
def aJ.BF{H:cf}{x:ag.unit.aG}{cs:List Value}:aJ H .unit x cs↔cs=[]:=by rw[aJ]
def aJ.mU{H:cf}{a b:ag}{x:(ag.pair a b).aG}{cs:List Value}:aJ H (.pair a b) x cs↔∃c1 c2,cs=c1++c2/\aJ H a x.1 c1/\aJ H b x.2 c2:=by rw[aJ]
def aJ.vH{H:cf}{e:ag}{l:(ag.ar n e).aG}{cs:List Value}:aJ H (.ar n e) l cs↔(l:List e.aG).length=n/\cs.length=n*e.size /\
  ∀(i:Nat) (x:e.aG),ij (α:=e.aG) l i=some x->aJ H e x ((cs.drop (i*e.size)).take e.size):=by rw[aJ]
def aJ.Cg{H:cf}{e:ag}{l:List e.aG}{cs:List Value}:aJ H (.ar n e) l cs↔l.length=n/\cs.length=n*e.size /\
  ∀(i:Nat) (x:e.aG),ij l i=some x->aJ H e x ((cs.drop (i*e.size)).take e.size):=aJ.vH
def aJ.Bh{H:cf}{e:ag}{l:(ag.sl e).aG}{cs:List Value}:aJ H (.sl e) l cs↔∃a cap,cs=[.slice a (l:List e.aG).length cap]/\(l:List e.aG).length<=cap/\cap<=maxLen /\
 ((l:List e.aG)=[]\/∃b o c el fz,a=some ⟨b,o,none⟩/\H b=some (.cells c el fz)/\o+(l:List e.aG).length*e.size<=c.size /\
  ∀(i:Nat) (x:e.aG),ij (α:=e.aG) l i=some x->aJ H e x (cJ c (o+i*e.size) e.size)):=by rw[aJ]
def aJ.iL{H:cf}{e:ag}{l:List e.aG}{cs:List Value}:aJ H (.sl e) l cs↔∃a cap,cs=[.slice a l.length cap]/\l.length<=cap/\cap<=maxLen /\
 (l=[]\/∃b o c el fz,a=some ⟨b,o,none⟩/\H b=some (.cells c el fz)/\o+l.length*e.size<=c.size /\
  ∀(i:Nat) (x:e.aG),ij l i=some x->aJ H e x (cJ c (o+i*e.size) e.size)):=aJ.Bh
def aJ.wF{H:cf}{x:(ag.op k).aG}{cs:List Value}:aJ H (.op k) x cs↔cs=[AD k]:=by rw[aJ]
def aJ.F?{H:cf}{l:List Nat}{x:(ag.fn l).aG}{cs:List Value}:aJ H (.fn l) x cs↔cs=[sQ l x]:=by rw[aJ]
def cM:=@Bool.and_eq_true
def bX:=@Nat.le_refl
def fP:=@Nat.eq_of_beq_eq_true
def f9:=@Nat.add_mul
def vy:=@List.all_cons
def Fm:=@List.replicate_succ
def JZ:=@List.drop_left
def JH:=@List.getElem?_replicate
def Pk:=@Nat.beq_eq
def dH:ag->List Value
 |.bool=>[.bool false]|.int k=>[.int k 0]|.str=>[.string ⟨#[]⟩]|.sl _=>[.slice none 0 0]|.unit=>[]
 |.pair a b=>dH a++dH b
 |.ar n e=>(List.replicate n (dH e)).flatten
 |.op k=>[AD k]|.fn _=>[.nilFunc]
def sn:∀t:ag,(dH t).length=t.size
 |.bool=>rfl|.int _=>rfl|.str=>rfl|.sl _=>rfl|.unit=>rfl
 |.pair a b=>by simp[dH,ag.size,sn a,sn b]
 |.ar n e=>by simp[dH,ag.size,sn e]
 |.op _=>rfl|.fn _=>rfl
def an6(l:List α)(n i:Nat)(h:i<n):((List.replicate n l).flatten.drop (i*l.length)).take l.length=l:=by
 induction n generalizing i with
 |zero=>omega
 |succ n ih=>
  rw[Fm,List.flatten_cons];cases i with
  |zero=>simp
  |succ i=>
   have:(i+1)*l.length=l.length+i*l.length:=by rw[f9];omega
   rw[this,<- su,JZ]
   grind
def bH.ayl(k:IntKind):bH.to k (bH.zero k)=0:=by cases k<;>first|rfl|decide
def aJ.zero(H:cf):∀t:ag,aJ H t t.zero (dH t)
 |.bool=>by rw[aJ];rfl
 |.int k=>by rw[aJ];simp[dH,ag.zero,bH.ayl]
 |.str=>by rw[aJ];rfl
 |.sl e=>by rw[aJ];exact⟨none,0,rfl,bX _,by unfold maxLen;omega,.inl rfl⟩
 |.unit=>by rw[aJ];rfl
 |.pair a b=>by rw[aJ];exact⟨_,_,rfl,aJ.zero H a,aJ.zero H b⟩
 |.ar n e=>by
  rw[aJ];refine⟨by simp[ag.zero],by simp[dH,sn e],λi x ac => ?_⟩;simp only[ij,ag.zero,JH]at ac;split at ac
  .rename_i h
   cases ac;have:=an6 (dH e) n i h;rw[sn]at this;simp only[dH];rw[this];exact aJ.zero H e
  cases ac
 |.op k=>by rw[aJ];rfl
 |.fn l=>by rw[aJ];rfl
def s6(P:Program)(tid:TypeId)(t:ag):Prop:=
 ∃i,P.info? tid=some i/\i.size=t.size/\i.bytes<=t.bytes/\i.zero=some (cB t (dH t))
def H3:Nat->Option TypeDesc->Prop
 |0,d=>∃a b c,d=some (.func a b c)
 |1,d=>∃a,d=some (.interface a)
 |2,d=>∃a b,d=some (.map a b)
 |3,d=>∃a,d=some (.pointer a)
 |_,_=>False
def cT(P:Program):ag->(TypeId->Prop)×(List Field->Nat->Prop)
 |.bool=>(λt=>P.underlying t=some .bool/\s6 P t .bool,λ_ _=>False)
 |.int k=>(λt=>P.underlying t=some (.int k)/\s6 P t (.int k),λ_ _=>False)
 |.str=>(λt=>P.underlying t=some .string/\s6 P t .str,λ_ _=>False)
 |.sl e=>(λt=>(∃bd,P.underlying t=some (.slice bd)/\(cT P e).1 bd)/\s6 P t (.sl e),λ_ _=>False)
 |.unit=>(λt=>(∃fp,P.underlying t=some (.struct fp)/\fp.toList=[])/\s6 P t .unit,λl _=>l=[])
 |.pair a b=>
  (λt=>(∃fp,P.underlying t=some (.struct fp)/\∃f r,fp.toList=f::r/\f.offset=0/\(cT P a).1 f.type/\(cT P b).2 r a.size)/\s6 P t (.pair a b),
   λl off=>∃f r,l=f::r/\f.offset=off/\(cT P a).1 f.type/\(cT P b).2 r (off+a.size))
 |.ar n e=>(λt=>(∃bd,P.underlying t=some (.array n bd)/\(cT P e).1 bd)/\s6 P t (.ar n e),λ_ _=>False)
 |.op k=>(λt=>H3 k (P.underlying t)/\s6 P t (.op k),λ_ _=>False)
 |.fn l=>(λt=>H3 0 (P.underlying t)/\s6 P t (.fn l),λ_ _=>False)
def nV{P:Program}:∀{t:ag} {tid:TypeId},(cT P t).1 tid->s6 P tid t
 |.bool,_,h=>h.2|.int _,_,h=>h.2|.str,_,h=>h.2|.sl _,_,h=>h.2|.unit,_,h=>h.2|.pair _ _,_,h=>h.2|.ar _ _,_,h=>h.2|.op _,_,h=>h.2|.fn _,_,h=>h.2
def QY:Value->Value->Bool
 |.bool a,.bool b=>a==b
 |.int k n,.int k' m=>decide (k=k')&&decide (n=m)
 |.string s,.string t=>s.data.toList.isEmpty&&t.data.toList.isEmpty
 |.slice none 0 0,.slice none 0 0=>true
 |.nilFunc,.nilFunc=>true
 |.nilIface,.nilIface=>true
 |.map none,.map none=>true
 |.pointer none,.pointer none=>true
 |_,_=>false
def amz{a b:Value}(h:QY a b=true):a=b:=by
 unfold QY at h;split at h
 .grind
 .grind
 .rename_i s t
  rcases s with⟨s⟩;rcases t with⟨t⟩
  grind
 .rfl
 .rfl
 .rfl
 .rfl
 .rfl
 cases h
def FO:List Value->List Value->Bool
 |[],[]=>true
 |a::l,b::m=>QY a b&&FO l m
 |_,_=>false
def QZ:∀{l m:List Value},FO l m=true->l=m
 |[],[],_=>rfl
 |a::l,b::m,h=>by simp only[FO,cM]at h;rw[amz h.1,QZ h.2]
def W8(t:ag):Option Value->Bool
 |some (.agg cs)=>t.isAgg&&FO cs.toList (dH t)
 |some v=>!t.isAgg&&FO [v] (dH t)
 |none=>false
def azc{t:ag}{o:Option Value}(h:W8 t o=true):o=some (cB t (dH t)):=by
 unfold W8 at h;split at h
 .rename_i cs
  simp at h;rw[<- QZ h.2,cB,if_pos h.1]
 .rename_i v _
  simp at h;rw[<- QZ h.2,cB,if_neg (by grind)];rfl
 cases h
def s5(P:Program)(tid:TypeId)(t:ag):Bool:=
 match P.info? tid with
 |some i=>Nat.beq i.size t.size&&Nat.ble i.bytes t.bytes&&W8 t i.zero
 |none=>false
def wi{P:Program}{tid:TypeId}{t:ag}(h:s5 P tid t=true):s6 P tid t:=by
 unfold s5 at h;split at h
 .rename_i i ac
  simp at h;exact⟨i,ac,h.1.1,h.1.2,azc h.2⟩
 cases h
def MP:Nat->Option TypeDesc->Bool
 |0,some (.func _ _ _)=>true
 |1,some (.interface _)=>true
 |2,some (.map _ _)=>true
 |3,some (.pointer _)=>true
 |_,_=>false
def aeG{d:Option TypeDesc}(h:MP k d=true):H3 k d:=by unfold MP at h;split at h<;>first|exact⟨_,_,_,rfl⟩|exact⟨_,_,rfl⟩|exact⟨_,rfl⟩|cases h
def k6(P:Program):ag->(TypeId->Bool)×(List Field->Nat->Bool)
 |.bool=>(λt=>(match P.underlying t with|some .bool=>true|_=>false)&&s5 P t .bool,λ_ _=>false)
 |.int k=>(λt=>(match P.underlying t with|some (.int k')=>decide (k'=k)|_=>false)&&s5 P t (.int k),λ_ _=>false)
 |.str=>(λt=>(match P.underlying t with|some .string=>true|_=>false)&&s5 P t .str,λ_ _=>false)
 |.sl e=>(λt=>(match P.underlying t with|some (.slice bd)=>(k6 P e).1 bd|_=>false)&&s5 P t (.sl e),λ_ _=>false)
 |.unit=>(λt=>(match P.underlying t with|some (.struct fp)=>fp.toList.isEmpty|_=>false)&&s5 P t .unit,λl _=>l.isEmpty)
 |.pair a b=>
  (λt=>(match P.underlying t with
   |some (.struct fp)=>(match fp.toList with|f::r=>Nat.beq f.offset 0&&(k6 P a).1 f.type&&(k6 P b).2 r a.size|[]=>false)
   | _=>false) && s5 P t (.pair a b),
   λl off=>match l with|f::r=>Nat.beq f.offset off&&(k6 P a).1 f.type&&(k6 P b).2 r (off+a.size)|[]=>false)
 |.ar n e=>(λt=>(match P.underlying t with|some (.array m bd)=>Nat.beq m n&&(k6 P e).1 bd|_=>false)&&s5 P t (.ar n e),λ_ _=>false)
 |.op k=>(λt=>MP k (P.underlying t)&&s5 P t (.op k),λ_ _=>false)
 |.fn l=>(λt=>MP 0 (P.underlying t)&&s5 P t (.fn l),λ_ _=>false)
def ui{P:Program}:∀(t:ag),(∀tid,(k6 P t).1 tid=true->(cT P t).1 tid)/\(∀l off,(k6 P t).2 l off=true->(cT P t).2 l off)
 |.bool=>by refine⟨λtid h => ?_,λl off h=>by cases h⟩;simp only[k6,cM]at h;refine⟨?_,wi h.2⟩;have O:=h.1;split at O<;>first|assumption|cases O
 |.int k=>by
  refine⟨λtid h => ?_,λl off h=>by cases h⟩;simp only[k6,cM]at h;refine⟨?_,wi h.2⟩;have O:=h.1;split at O
  .rename_i aM;simp at O;rw[<- O];exact aM
  cases O
 |.str=>by refine⟨λtid h => ?_,λl off h=>by cases h⟩;simp only[k6,cM]at h;refine⟨?_,wi h.2⟩;have O:=h.1;split at O<;>first|assumption|cases O
 |.sl e=>by
  refine⟨λtid h => ?_,λl off h=>by cases h⟩;simp only[k6,cM]at h;refine⟨?_,wi h.2⟩;have O:=h.1;split at O
  .rename_i bd aM;exact⟨bd,aM,(ui e).1 _ O⟩
  cases O
 |.unit=>by
  refine⟨λtid h => ?_,λl off h=>by simpa[k6,cT]using h⟩;simp only[k6,cM]at h;refine⟨?_,wi h.2⟩;have O:=h.1;split at O
  .rename_i fp aM;exact⟨fp,aM,by simpa using O⟩
  cases O
 |.pair a b=>by
  refine⟨λtid h => ?_,λl off h => ?_⟩
  .simp only[k6,cM]at h
   refine⟨?_,wi h.2⟩;have O:=h.1;split at O
   .rename_i fp aM
    split at O
    .rename_i f r hf
     simp only[cM,Pk]at O;exact⟨fp,aM,f,r,hf,O.1.1,(ui a).1 _ O.1.2,(ui b).2 _ _ O.2⟩
    cases O
   cases O
  simp only[k6]at h;split at h
  .rename_i f r
   simp only[cM,Pk]at h;exact⟨f,r,rfl,h.1.1,(ui a).1 _ h.1.2,(ui b).2 _ _ h.2⟩
  cases h
 |.ar n e=>by
  refine⟨λtid h => ?_,λl off h=>by cases h⟩;simp only[k6,cM]at h;refine⟨?_,wi h.2⟩;have O:=h.1;split at O
  .rename_i m bd aM
   simp only[cM,Pk]at O;rw[<- O.1];exact⟨bd,aM,(ui e).1 _ O.2⟩
  cases O
 |.op k=>by refine⟨λtid h => ?_,λl off h=>by cases h⟩;simp only[k6,cM]at h;exact⟨aeG h.1,wi h.2⟩
 |.fn k=>by refine⟨λtid h => ?_,λl off h=>by cases h⟩;simp only[k6,cM]at h;exact⟨aeG h.1,wi h.2⟩
def nA(P:Program)(b6:Nat->Option ag):Prop:=∀tid t,b6 tid=some t->(cT P t).1 tid
def ahv(P:Program):∀(l:List (Nat×ag)),(l.all λp=>(k6 P p.2).1 p.1)=true->nA P (Dw l)
 |[],_=>λtid t h=>by cases h
 |(i,u)::r,h=>λtid t ht=>by
  simp only[vy,cM]at h;simp only[Dw]at ht;cases Y:Nat.beq i tid with
  |true=>rw[Y]at ht;cases ht;rw[<- fP Y];exact(ui _).1 _ h.1
  |false=>rw[Y]at ht;exact ahv P r h.2 tid t ht
end Yp
namespace Yp
open Go
def kY:=@Option.some.injEq
def lk:=@Prod.mk.injEq
abbrev cd:=Nat->Option (Nat×Nat×Nat)
def ag.et:ag->List nJ->Option (Nat×ag)
 |t,[]=>some (0,t)
 |.pair a _,.fst::p=>a.et p
 |.pair a b,.snd::p=>(b.et p).map λq=>(a.size+q.1,q.2)
 |.ar n e,.ix i::p=>if i<n then(e.et p).map λq=>(i*e.size+q.1,q.2) else none
 |_,_=>none
def h1(phx:cd)(id:Nat)(e:ag)(off len:Nat)(v:Value):Prop:=
 (len=0/\∃a,v=.slice a 0 0) \/
 ∃b o n cap,phx id=some (b,o,n)/\v=.slice (some ⟨b,o+off*e.size,none⟩) len cap/\len<=cap/\cap<=maxLen/\o+(off+cap)*e.size<=n
def tU(phx:cd)(id:Nat)(e:ag)(off N:Nat)(v:Value):Prop:=
 (N<=off/\∃a,v=.slice a 0 0)\/∃b o n m cap,phx id=some (b,o,n)/\v=.slice (some ⟨b,o+off*e.size,none⟩) m cap/\N<=off+cap
section
variable (phx:cd) (H:cf) (B:Nat->aU)
def vA:iP->Value->Prop
 | .ptr id p,v=>(match B id with
  |.box t _=>∃b o n off t',phx id=some (b,o,n)/\t.et p=some (off,t')/\v=.pointer (some ⟨b,o+off,none⟩)
  |.fz _ _=>∃b o n,phx id=some (b,o,n)/\(p=[]->v=.pointer (some ⟨b,o,none⟩))
  |.fq=>True
  |_=>False)
 |.iX t x,v=>∃cs,aJ H t x cs/\v=cB t cs
def jZ:List iP->List Value->Prop
 |[],vs=>vs=[]
 |c::r,vs=>∃v ei,vs=v::ei/\vA phx H B c v/\jZ r ei
def bJ:av->Value->Prop
 |.bad,_=>True
 |.undef,v=>v=Go.undef
 |.kb b,v=>v=.bool b
 |.nq c,v=>∃b,v=.bool b/\(b=true->c=true)
 |.nil,v=>v=.slice none 0 0
 | .own id eP,v=>(match B id with
  |.ob e l=>h1 phx id e 0 l.length v/\(eP=true->l.length≠0)
  |.fz e l=>h1 phx id e 0 l.length v/\(eP=true->l.length≠0)
  |.fq=>True
  |_=>False)
 | .osl id off n,v=>(match B id with
  |.ob e l=>off+n<=l.length/\h1 phx id e off n v/\tU phx id e off l.length v
  |.fz e l=>off+n<=l.length/\h1 phx id e off n v
  |.box t _=>(match t with|.ar m e=>0<e.size/\off+n<=m/\h1 phx id e off n v|_=>False)
  |.fq=>True
  |_=>False)
 |.csl e l,v=>∃a,v=.slice a l.length l.length/\aJ H (.sl e) l [v]
 | .ptr id p,v=>(match B id with
  |.box t _=>∃b o n off t',phx id=some (b,o,n)/\t.et p=some (off,t')/\v=.pointer (some ⟨b,o+off,none⟩)
  |.fz _ _=>∃b o n,phx id=some (b,o,n)/\(p=[]->v=.pointer (some ⟨b,o,none⟩))
  |.fq=>True
  |_=>False)
 | .opt id i p,v=>(match B id with
  |.ob e l=>i<l.length/\∃b o n off t',phx id=some (b,o,n)/\e.et p=some (off,t')/\v=.pointer (some ⟨b,o+i*e.size+off,none⟩)
  |.fz e l=>i<l.length/\∃b o n off t',phx id=some (b,o,n)/\e.et p=some (off,t')/\v=.pointer (some ⟨b,o+i*e.size+off,none⟩)
  |.fq=>True
  |_=>False)
 |.ipt e l i p,v=>i<l.length/\∃b o cap off t',aJ H (.sl e) l [.slice (some ⟨b,o,none⟩) l.length cap]/\e.et p=some (off,t')/\v=.pointer (some ⟨b,o+i*e.size+off,none⟩)
 | .itp id,v=>(match B id with
  |.it _ _=>∃b,phx id=some (b,0,0)/\v=.pointer (some ⟨b,0,none⟩)
  |.fq=>True
  |_=>False)
 |.clo f dU cZ,v=>∃vs,jZ phx H B cZ vs/\v=.func (.func f) (vs.take dU).toArray (vs.drop dU).toArray
 |.ifc tid t x,v=>∃cs,aJ H t x cs/\v=.iface tid (cB t cs)
 | .mpp id,v=>(match B id with
  |.mp _ _ _=>∃b,phx id=some (b,0,0)/\v=.map (some b)
  |.fq=>True
  |_=>False)
 | .psl id n,v=>(match B id with
  |.box t _=>t=m3 n/\∃b o m cap,phx id=some (b,o,m)/\v=.slice (some ⟨b,o,none⟩) n cap
  |.fq=>True
  |_=>False)
 |.sc _ _,_=>False
 |.two _ _,_=>False
 |.agg _ _,_=>False
 |.tup _,_=>False
def fh:av->ag->List Value->Prop
 |.two u v,t,cs=>(match t with|.pair a b=>∃c1 c2,cs=c1++c2/\fh u a c1/\fh v b c2|_=>False)
 |.sc t' x,t,cs=>∃h:t'=t,aJ H t (h▸x) cs
 |.agg _ _,_,_=>False
 |.tup _,_,_=>False
 |.bad,t,cs=>cs.length=t.size/\∀v∈cs,v.oneCell'=true
 |pv,t,cs=>t.isAgg=false/\∃v,cs=[v]/\v.oneCell'=true/\bJ phx H B pv v
def d6:av->Value->Prop
 |.sc t x,v=>∃cs,aJ H t x cs/\v=cB t cs
 |.agg t a,v=>t.isAgg=true/\∃cs,fh phx H B a t cs/\v=.agg cs.toArray
 |pv,v=>bJ phx H B pv v
def ma:av->List Value->Prop
 |.two u r,vs=>∃v ei,vs=v::ei/\d6 phx H B u v/\ma r ei
 |.sc .unit _,vs=>vs=[]
 |_,_=>False
def a9:av->Value->Prop
 |.tup a,v=>∃vs,ma phx H B a vs/\v=.tuple vs.toArray
 |pv,v=>d6 phx H B pv v
end
def aU.cc:aU->aU->Prop
 |.new,_=>True
 |_,.fq=>True
 |.box t _,.box t' _=>t=t'
 |.box t _,.fz e l=>t=.ar l.length e/\0<e.size
 |.ob e l,.ob bA hj=>e=bA/\l.length=hj.length
 |.ob e l,.fz bA hj=>e=bA/\l.length=hj.length
 |.fz e l,.fz bA hj=>e=bA/\l.length=hj.length
 |.it s _,.it cv _=>s=cv
 |.mp k v _,.mp k' c9 _=>k=k'/\v=c9
 |_,_=>False
def aU.cc.refl:∀b:aU,b.cc b
 |.new=>trivial|.fq=>trivial|.box _ _=>rfl|.ob _ _=>⟨rfl,rfl⟩|.fz _ _=>⟨rfl,rfl⟩|.it _ _=>rfl|.mp _ _ _=>⟨rfl,rfl⟩
def aU.iZ:aU->Bool
 |.new=>false|_=>true
def tU.congr{phx phx':cd}{id:Nat}{e:ag}{v:Value}(h:phx' id=phx id)(aj:tU phx id e off N v):tU phx' id e off N v:=by unfold tU at *;rw[h];exact aj
def h1.cap{phx:cd}{id:Nat}{e:ag}{v:Value}(h:h1 phx id e 0 n v):tU phx id e 0 n v:=by
 rcases h with⟨O,a,R⟩|⟨b,o,m,cap,O,R,ai,_⟩
 .exact .inl ⟨J,a,R⟩
 exact .inr ⟨b,o,m,n,cap,O,R,J⟩
def h1.congr{phx phx':cd}{id:Nat}{e:ag}{len:Nat}{v:Value}(h:phx' id=phx id)(aj:h1 phx id e off len v):h1 phx' id e off len v:=by unfold h1 at *;rw[h];exact aj
section
variable {phx phx':cd} {H H':cf} {B B':Nat->aU}
def vA.mono(d4:∀id,(B id).iZ=true->phx' id=phx id)(cD:H.cc H')(aB:∀id,(B id).cc (B' id)){c:iP}{v:Value}(h:vA phx H B c v):vA phx' H' B' c v:=by
 cases c with
 |iX t x=>obtain⟨cs,O,R⟩:=h;exact⟨cs,O.mono cD,R⟩
 |ptr id p=>
  have Y:=aB id;have hf:=d4 id;simp only[vA]at h ⊢;cases j6:B id<;>cases hb1:B' id<;>simp only[j6,hb1,aU.iZ]at Y hf h ⊢ <;> try(first|exact h.elim|exact Y.elim|trivial)
  all_goals first
   |(subst Y;rw[hf trivial];exact h)
   |(obtain⟨b,o,n,O,R⟩:=h;exact⟨b,o,n,(hf trivial).trans O,R⟩)
   | (
    obtain⟨b,o,n,off,t',O,R,ai⟩:=h;exact⟨b,o,n,(hf trivial).trans O,λhp=>by subst hp;simp only[ag.et,kY,lk]at R;rw[ai,<- R.1];rfl⟩)
def jZ.mono(d4:∀id,(B id).iZ=true->phx' id=phx id)(cD:H.cc H')(aB:∀id,(B id).cc (B' id)):∀{l:List iP} {vs:List Value},jZ phx H B l vs->jZ phx' H' B' l vs
 |[],_,h=>h
 |_::_,_,⟨v,ei,h,O,R⟩=>⟨v,ei,h,vA.mono d4 cD aB O,jZ.mono d4 cD aB R⟩
def bJ.mono(d4:∀id,(B id).iZ=true->phx' id=phx id)(cD:H.cc H')(aB:∀id,(B id).cc (B' id)):∀{pv:av} {v:Value},bJ phx H B pv v->bJ phx' H' B' pv v:=by
 intro pv v h;cases pv with
 |bad=>trivial
 |undef=>exact h
 |kb b=>exact h
 |nq c=>exact h
 |nil=>exact h
 |sc t x=>exact h
 |two a b=>exact h
 |agg t a=>exact h
 |tup a=>exact h
 |clo f dU cZ=>obtain⟨vs,O,R⟩:=h;exact⟨vs,O.mono d4 cD aB,R⟩
 |ifc i t x=>obtain⟨cs,O,R⟩:=h;exact⟨cs,O.mono cD,R⟩
 |csl e l=>obtain⟨a,O,R⟩:=h;exact⟨a,O,R.mono cD⟩
 |ipt e l i p=>obtain⟨aq,b,o,cap,off,t',O,R,ai⟩:=h;exact⟨aq,b,o,cap,off,t',O.mono cD,R,ai⟩
 |own id eP=>
  have Y:=aB id;have hf:=d4 id;simp only[bJ]at h ⊢;cases j6:B id<;>cases hb1:B' id<;>simp only[j6,hb1,aU.iZ]at Y hf h ⊢ <;> try(first|exact h.elim|exact Y.elim|trivial)
  all_goals
   obtain⟨rfl,hl⟩:=Y;rw[<- hl];exact⟨h.1.congr (hf trivial),h.2⟩
 |osl id off n=>
  have Y:=aB id;have hf:=d4 id;simp only[bJ]at h ⊢;cases j6:B id<;>cases hb1:B' id<;>simp only[j6,hb1,aU.cc,aU.iZ]at Y hf h ⊢ <;> try(first|exact h.elim|exact Y.elim|trivial)
  all_goals first
   |(obtain⟨rfl,hl⟩:=Y;rw[<- hl];exact⟨h.1,h.2.1.congr (hf trivial),h.2.2.congr (hf trivial)⟩)
   |(obtain⟨rfl,hl⟩:=Y;rw[<- hl];exact⟨h.1,h.2.1.congr (hf trivial)⟩)
   |(obtain⟨rfl,hl⟩:=Y;rw[<- hl];exact⟨h.1,h.2.congr (hf trivial)⟩)
   | (
    subst Y;rename_i t _ _;cases t<;>try exact h.elim
    exact⟨h.1,h.2.1,h.2.2.congr (hf trivial)⟩)
   |(obtain⟨Y,_⟩:=Y;subst Y;exact⟨h.2.1,h.2.2.congr (hf trivial)⟩)
 |ptr id p=>
  have Y:=aB id;have hf:=d4 id;simp only[bJ]at h ⊢;cases j6:B id<;>cases hb1:B' id<;>simp only[j6,hb1,aU.cc,aU.iZ]at Y hf h ⊢ <;> try(first|exact h.elim|exact Y.elim|trivial)
  all_goals first
   |(subst Y;rw[hf trivial];exact h)
   |(obtain⟨b,o,n,O,R⟩:=h;exact⟨b,o,n,(hf trivial).trans O,R⟩)
   | (
    obtain⟨b,o,n,off,t',O,R,ai⟩:=h;exact⟨b,o,n,(hf trivial).trans O,λhp=>by subst hp;simp only[ag.et,kY,lk]at R;rw[ai,<- R.1];rfl⟩)
 |opt id i p=>
  have Y:=aB id;have hf:=d4 id;simp only[bJ]at h ⊢;cases j6:B id<;>cases hb1:B' id<;>simp only[j6,hb1,aU.cc,aU.iZ]at Y hf h ⊢ <;> try(first|exact h.elim|exact Y.elim|trivial)
  all_goals
   grind
 |itp id=>
  have Y:=aB id;have hf:=d4 id;simp only[bJ]at h ⊢;cases j6:B id<;>cases hb1:B' id<;>simp only[j6,hb1,aU.cc,aU.iZ]at Y hf h ⊢ <;> try(first|exact h.elim|exact Y.elim|trivial)
  all_goals
   rw[hf trivial];exact h
 |mpp id=>
  have Y:=aB id;have hf:=d4 id;simp only[bJ]at h ⊢;cases j6:B id<;>cases hb1:B' id<;>simp only[j6,hb1,aU.cc,aU.iZ]at Y hf h ⊢ <;> try(first|exact h.elim|exact Y.elim|trivial)
  all_goals
   rw[hf trivial];exact h
 |psl id n=>
  have Y:=aB id;have hf:=d4 id;simp only[bJ]at h ⊢;cases j6:B id<;>cases hb1:B' id<;>simp only[j6,hb1,aU.cc,aU.iZ]at Y hf h ⊢ <;> try(first|exact h.elim|exact Y.elim|trivial)
  all_goals first
   |(subst Y;rw[hf trivial];exact h)
   |(obtain⟨h,_⟩:=h;cases n<;>exact absurd (Y.1.symm.trans h) (by simp[m3]))
def fh.mono(d4:∀id,(B id).iZ=true->phx' id=phx id)(cD:H.cc H')(aB:∀id,(B id).cc (B' id)):∀{pv:av} {t:ag} {cs:List Value},fh phx H B pv t cs->fh phx' H' B' pv t cs:=by
 intro pv;induction pv with
 |two u v aM aD=>
  intro t cs h;cases t<;>simp only[fh]at h ⊢ <;> try exact h
  grind
 |sc t' x=>intro t cs h;obtain⟨aq,h⟩:=h;exact⟨aq,h.mono cD⟩
 |agg t a=>intro t cs h;exact h
 |tup a=>intro t cs h;exact h
 |bad=>intro t cs h;exact h
 |_=>intro t cs h;obtain⟨aq,v,O,R,ai⟩:=h;exact⟨aq,v,O,R,bJ.mono d4 cD aB ai⟩
def d6.mono(d4:∀id,(B id).iZ=true->phx' id=phx id)(cD:H.cc H')(aB:∀id,(B id).cc (B' id)){pv:av}{v:Value}(h:d6 phx H B pv v):d6 phx' H' B' pv v:=by
 cases pv with
 |sc t x=>obtain⟨cs,O,R⟩:=h;exact⟨cs,O.mono cD,R⟩
 |agg t a=>obtain⟨aq,cs,O,R⟩:=h;exact⟨aq,cs,fh.mono d4 cD aB O,R⟩
 |_=>simp only[d6]at h ⊢;exact bJ.mono d4 cD aB h
def ma.mono(d4:∀id,(B id).iZ=true->phx' id=phx id)(cD:H.cc H')(aB:∀id,(B id).cc (B' id)):∀{pv:av} {vs:List Value},ma phx H B pv vs->ma phx' H' B' pv vs:=by
 intro pv;induction pv with
 |two u r aM aj=>intro vs h;obtain⟨v,ei,aq,O,R⟩:=h;exact⟨v,ei,aq,d6.mono d4 cD aB O,aj R⟩
 |sc t x=>intro vs h;cases t<;>exact h
 |_=>intro vs h;exact h
def a9.mono(d4:∀id,(B id).iZ=true->phx' id=phx id)(cD:H.cc H')(aB:∀id,(B id).cc (B' id)){pv:av}{v:Value}(h:a9 phx H B pv v):a9 phx' H' B' pv v:=by
 cases pv with
 |tup a=>obtain⟨vs,O,R⟩:=h;exact⟨vs,ma.mono d4 cD aB O,R⟩
 |_=>simp only[a9]at h ⊢;exact d6.mono d4 cD aB h
end
def fh.length{phx:cd}{H:cf}{B:Nat->aU}:∀{pv:av} {t:ag} {cs:List Value},fh phx H B pv t cs->cs.length=t.size:=by
 intro pv;induction pv with
 |two u v aM aD =>intro t cs h;cases t<;>simp only[fh]at h;obtain⟨c1,c2,h,O,R⟩:=h;rw[h,db,aM O,aD R];rfl
 |sc t' x=>intro t cs h;obtain⟨aq,h⟩:=h;exact h.length
 |agg t a=>intro t cs h;exact h.elim
 |tup a=>intro t cs h;exact h.elim
 |bad=>intro t cs h;exact h.1
 |_ =>intro t cs h;obtain⟨aq,v,O,R,ai⟩:=h;subst O;cases t<;>first|rfl|cases aq
def fh.one{phx:cd}{H:cf}{B:Nat->aU}:∀{pv:av} {t:ag} {cs:List Value},fh phx H B pv t cs->∀v∈cs,v.oneCell'=true:=by
 intro pv;induction pv with
 |two u v aM aD=>
  intro t cs h;cases t<;>simp only[fh]at h
  grind
 |sc t' x=>intro t cs h;obtain⟨aq,h⟩:=h;exact h.one
 |agg t a=>intro t cs h;exact h.elim
 |tup a=>intro t cs h;exact h.elim
 |bad=>intro t cs h;exact h.2
 |_=>
  intro t cs h;obtain⟨aq,v,O,R,ai⟩:=h
  grind
end Yp
namespace Yp
open Go
def iR:=@Array.getElem?_eq_some_iff
def kZ:=@Classical.byContradiction
def iF:=@Nat.lt_of_lt_of_le
def fv:=@Nat.le_trans
open Classical in
def view(w:World)(M:Nat->Prop):cf:=λb=>if M b then none else w.heap[b]?
def kd{w:World}{M:Nat->Prop}{o:Obj}:view w M b=some o↔¬M b/\w.heap[b]?=some o:=by unfold view;simp
def yZ{w w':World}{M aA:Nat->Prop}(h:∀b o,¬M b->w.heap[b]?=some o->¬aA b/\w'.heap[b]?=some o):(view w M).cc (view w' aA):=by intro b o Y;rw[kd]at Y ⊢;exact h b o Y.1 Y.2
def iA(c:Array Value)(fz:Nat×Nat):Prop:=fz.1=fz.2\/c.size<=fz.1
def iA.no{c:Array Value}{fz:Nat×Nat}(h:iA c fz):∀i,i<c.size->¬(fz.1<=i/\i<fz.2):=λi ac ah=>by unfold iA at h;omega
def iA.same{c cN:Array Value}{fz:Nat×Nat}(h:iA c fz)(ae:cN.size=c.size):iA cN fz:=by unfold iA at *;rw[ae];exact h
def fi(H:cf)(e:ag)(l:List e.aG)(c:Array Value)(o:Nat):Prop:=
 o+l.length*e.size<=c.size/\∀(i:Nat) (x:e.aG),ij l i=some x->aJ H e x (cJ c (o+i*e.size) e.size)
def fi.mono{H H':cf}(hl:H.cc H'){e:ag}{l:List e.aG}{c:Array Value}(h:fi H e l c o):fi H' e l c o:=
 ⟨h.1,λi x ac=>(h.2 i x ac).mono hl⟩
section
variable (phx:cd) (M:Nat->Prop) (w:World) (H:cf) (B:Nat->aU)
def lK(kt:ag):List (kt.aG×av)->List MapEntry->Prop
 |[],es=>es=[]
 |(k,v)::r,es=>∃e es',es=e::es'/\(∃ak,aJ H kt k ak/\e.key=cB kt ak)/\d6 phx H B v e.val/\lK kt r es'
def l?(id:Nat):aU->Prop
 |.new=>True
 |.fq=>True
 |.box t v=>∃b o c el fz,phx id=some (b,o,c.size)/\w.heap[b]?=some (.cells c el fz)/\o+t.size<=c.size/\fh phx H B v t (cJ c o t.size)/\iA c fz/\M b
 |.ob e l=>0<e.size/\((phx id=none/\l.length=0)\/∃b o c el fz,phx id=some (b,o,c.size)/\w.heap[b]?=some (.cells c el fz)/\fi H e l c o/\iA c fz/\M b)
 |.fz e l=>0<e.size/\((phx id=none/\l.length=0)\/∃b o c el fz,phx id=some (b,o,c.size)/\H b=some (.cells c el fz)/\fi H e l c o)
 |.it s p=>∃b,phx id=some (b,0,0)/\w.heap[b]?=some (.stringIter ⟨s.toArray⟩ p)/\M b
 |.mp kt _ l=>∃b es nR,phx id=some (b,0,0)/\w.heap[b]?=some (.map es nR)/\lK phx H B kt l es.toList/\M b
end
def aU.fN:aU->Bool
 |.box _ _=>true|.ob _ _=>true|.it _ _=>true|.mp _ _ _=>true|_=>false
structure Kp where
 k:Nat->Prop
 x:Nat->Prop
structure bK(K:Kp)(w0:World)(phx:cd)(M:Nat->Prop)(B:Nat->aU)(w:World):Prop where
 os:w.os=w0.os
 tape:w.tape=w0.tape
 output:w.output=w0.output
 size:w0.heap.size<=w.heap.size
 keep:∀b,K.k b->w.heap[b]?=w0.heap[b]?
 klt:∀b,K.k b->b<w0.heap.size
 hid:∀b,K.k b->(M b↔K.x b)
 own:∀id,(B id).fN=true->∀x,phx id=some x->¬K.k x.1
 mlt:∀b,M b->b<w.heap.size
 blks:∀id,l? phx M w (view w M) B id (B id)
 sep:∀i j,i≠j->(B i).fN=true->(B j).fN=true->∀x y,phx i=some x->phx j=some y->x.1≠y.1
structure co(phx:cd)(M:Nat->Prop)(B:Nat->aU)(w:World)(phx':cd)(aA:Nat->Prop)(B':Nat->aU)(w':World):Prop where
 pl:∀id,(B id).iZ=true->phx' id=phx id
 vw:(view w M).cc (view w' aA)
 bl:∀id,(B id).cc (B' id)
def co.refl(phx:cd)(M:Nat->Prop)(B:Nat->aU)(w:World):co phx M B w phx M B w:=
 ⟨λ_ _=>rfl,cf.cc.refl _,λ_=>aU.cc.refl _⟩
def co.p{phx phx':cd}{M aA:Nat->Prop}{B B':Nat->aU}{w w':World}(h:co phx M B w phx' aA B' w'){pv:av}{v:Value}(hp:a9 phx (view w M) B pv v):a9 phx' (view w' aA) B' pv v:=
 hp.mono h.pl h.vw h.bl
def c6(B:Nat->aU)(id:Nat)(b:aU):Nat->aU:=λj=>if j=id then b else B j
def e6(B:Nat->aU)(id:Nat)(b:aU):c6 B id b id=b:=by simp[c6]
def eo(B:Nat->aU){id:Nat}(b:aU)(h:j≠id):c6 B id b j=B j:=by simp[c6,h]
def lK.mono{phx phx':cd}{H H':cf}{B B':Nat->aU}(d4:∀id,(B id).iZ=true->phx' id=phx id)(cD:H.cc H')(aB:∀id,(B id).cc (B' id)){kt:ag}:∀{l:List (kt.aG×av)} {es:List MapEntry},lK phx H B kt l es->lK phx' H' B' kt l es
 |[],_,h=>h
 |_::_,_,⟨e,es',h,⟨ak,O,R⟩,ai,au⟩=>⟨e,es',h,⟨ak,O.mono cD,R⟩,ai.mono d4 cD aB,lK.mono d4 cD aB au⟩
def l?.congr{phx phx':cd}{M aA:Nat->Prop}{w w':World}{H H':cf}{B B':Nat->aU}{id:Nat}{b:aU}
  (hid:phx' id=phx id) (d4:∀id,(B id).iZ=true->phx' id=phx id) (cD:H.cc H') (aB:∀id,(B id).cc (B' id))
  (bu:∀x,phx id=some x->b.fN=true->w'.heap[x.1]?=w.heap[x.1]?) (d8:∀x,phx id=some x->b.fN=true->M x.1->aA x.1)
  (h:l? phx M w H B id b):l? phx' aA w' H' B' id b:=by
 cases b with
 |new=>trivial
 |fq=>trivial
 |box t v =>obtain⟨b,o,c,el,fz,O,R,ai,au,a4,cQ⟩:=h;exact⟨b,o,c,el,fz,hid.trans O,(bu _ O rfl).trans R,ai,au.mono d4 cD aB,a4,d8 _ O rfl cQ⟩
 |ob e l=>
  refine⟨h.1,?_⟩;rcases h.2 with⟨O,R⟩|⟨b,o,c,el,fz,O,R,ai,au,a4⟩
  .exact .inl ⟨hid.trans O,R⟩
  exact .inr ⟨b,o,c,el,fz,hid.trans O,(bu _ O rfl).trans R,ai.mono cD,au,d8 _ O rfl a4⟩
 |fz e l=>
  refine⟨h.1,?_⟩;rcases h.2 with⟨O,R⟩|⟨b,o,c,el,fz,O,R,ai⟩
  .exact .inl ⟨hid.trans O,R⟩
  exact .inr ⟨b,o,c,el,fz,hid.trans O,cD _ _ R,ai.mono cD⟩
 |it s p =>obtain⟨b,O,R,ai⟩:=h;exact⟨b,hid.trans O,(bu _ O rfl).trans R,d8 _ O rfl ai⟩
 |mp kt vt l =>obtain⟨b,es,nR,O,R,ai,au⟩:=h;exact⟨b,es,nR,hid.trans O,(bu _ O rfl).trans R,ai.mono d4 cD aB,d8 _ O rfl au⟩
section
variable {K:Kp} {w0 w:World} {phx:cd} {M:Nat->Prop} {B:Nat->aU}
def bK.fq(h:bK K w0 phx M B w)(id:Nat):bK K w0 phx M (c6 B id .fq) w/\co phx M B w phx M (c6 B id .fq) w:=by
 have az:co phx M B w phx M (c6 B id .fq) w:=⟨λ_ _=>rfl,cf.cc.refl _,λj=>by
  by_cases ao:j=id
  .subst ao;rw[e6];cases B j<;>trivial
  rw[eo _ _ ao];exact aU.cc.refl _⟩
 refine⟨{ h with own:=λj ao => ?_,blks:=λj => ?_,sep:=λi j jy ac ao => ?_ },az⟩
 .by_cases O:j=id
  .subst O;rw[e6]at ao;cases ao
  rw[eo _ _ O]at ao;exact h.own j ao
 .by_cases ao:j=id
  .subst ao;rw[e6];trivial
  rw[eo _ _ ao];exact(h.blks j).congr rfl az.pl az.vw az.bl (λ_ _ _=>rfl) (λ_ _ _ h=>h)
 by_cases O:i=id
 .subst O;rw[e6]at ac;cases ac
 by_cases R:j=id
 .subst R;rw[e6]at ao;cases ao
 rw[eo _ _ O]at ac;rw[eo _ _ R]at ao;exact h.sep i j jy ac ao
def ou(phx:cd)(M:Nat->Prop)(B:Nat->aU)(aA:Nat->Prop)(B':Nat->aU):Prop:=
 (∀b,M b->¬aA b->∃j,(B j).fN=true/\∃z,phx j=some z/\z.1=b)/\∀j,(B' j).fN=true->(B j).fN=true
def ou.refl(phx:cd)(M:Nat->Prop)(B:Nat->aU):ou phx M B M B:=⟨λb h bB=>absurd h bB,λ_ h=>h⟩
def ou.trans{phx:cd}{M aA ro:Nat->Prop}{B B' EV:Nat->aU}(h:ou phx M B aA B')(k:ou phx aA B' ro EV):ou phx M B ro EV:=by
 refine⟨λb O R => ?_,λj ao=>h.2 j (k.2 j ao)⟩;by_cases hm:aA b
 .obtain⟨j,ao,z,bh⟩:=k.1 b hm R
  exact⟨j,h.2 j ao,z,bh⟩
 exact h.1 b O hm
def bK.freeze(h:bK K w0 phx M B w){id:Nat}{e:ag}{l:List e.aG}(Y:B id=.ob e l):
  ∃aA,bK K w0 phx aA (c6 B id (.fz e l)) w/\co phx M B w phx aA (c6 B id (.fz e l)) w/\ou phx M B aA (c6 B id (.fz e l)):=by
 refine⟨λb=>M b/\∀x,phx id=some x->b≠x.1,?_⟩;have aD:(view w M).cc (view w λb=>M b/\∀x,phx id=some x->b≠x.1):=yZ λb o d8 aO=>⟨λah=>d8 ah.1,aO⟩;have az:co phx M B w phx (λb=>M b/\∀x,phx id=some x->b≠x.1) (c6 B id (.fz e l)) w:=⟨λ_ _=>rfl,aD,λj=>by
  by_cases ao:j=id
  .subst ao;rw[e6,Y];exact⟨rfl,rfl⟩
  rw[eo _ _ ao];exact aU.cc.refl _⟩
 refine⟨{ h with hid:=λb ap=>⟨λhm=>(h.hid b ap).1 hm.1,λhx=>⟨(h.hid b ap).2 hx,λx np e=>h.own id (by rw[Y];rfl) x np (e▸ap)⟩⟩,mlt:=λb hm=>h.mlt b hm.1,own:=λj ao => ?_,blks:=λj => ?_,sep:=λi j jy ac ao => ?_ },az,⟨λb Y am => ?_,λj ao => ?_⟩⟩
 .by_cases O:j=id
  .subst O;rw[e6]at ao;cases ao
  rw[eo _ _ O]at ao;exact h.own j ao
 .by_cases ao:j=id
  .subst ao;rw[e6]
   have aj:=h.blks j;rw[Y]at aj;refine⟨aj.1,?_⟩;rcases aj.2 with⟨O,R⟩|⟨b,o,c,el,fz,O,R,ai,au,a4⟩
   .exact .inl ⟨O,R⟩
   exact .inr ⟨b,o,c,el,fz,O,kd.2 ⟨λah=>ah.2 _ O rfl,R⟩,ai.mono aD⟩
  rw[eo _ _ ao];refine(h.blks j).congr rfl az.pl az.vw az.bl (λ_ _ _=>rfl) λx hx hm d8=>⟨d8,λy bs => ?_⟩;exact h.sep j id ao hm (by rw[Y];rfl) x y hx bs
 .by_cases O:i=id
  .subst O;rw[e6]at ac;cases ac
  by_cases R:j=id
  .subst R;rw[e6]at ao;cases ao
  rw[eo _ _ O]at ac;rw[eo _ _ R]at ao;exact h.sep i j jy ac ao
 .refine kZ λah=>am ⟨Y,λx hx e=>ah ⟨id,by rw[‹B id=_›];rfl,x,hx,e.symm⟩⟩
 by_cases O:j=id
 .subst O;rw[e6]at ao;cases ao
 rw[eo _ _ O]at ao;exact ao
def w4(phx:cd)(id:Nat)(x:Option (Nat×Nat×Nat)):cd:=λj=>if j=id then x else phx j
def mx(phx:cd)(id:Nat)(x:Option (Nat×Nat×Nat)):w4 phx id x id=x:=by simp[w4]
def rf(phx:cd){id:Nat}(x:Option (Nat×Nat×Nat))(h:j≠id):w4 phx id x j=phx j:=by simp[w4,h]
def bK.CX(h:bK K w0 phx M B w){w':World}(O:w'.os=w.os)(R:w'.tape=w.tape)(ai:w'.output=w.output)(ae:w.heap.size<=w'.heap.size)
 (Y:∀b,b<w.heap.size->w'.heap[b]?=w.heap[b]?) (N:Nat->Prop) (fV:∀b,N b->w.heap.size<=b/\b<w'.heap.size) :
 bK K w0 phx (λb=>M b\/N b) B w'/\co phx M B w phx (λb=>M b\/N b) B w':=by
 have bi:∀b o,w.heap[b]?=some o->b<w.heap.size:=λb o aO=>(iR.1 aO).1;have aD:(view w M).cc (view w' λb=>M b\/N b):=yZ λb o d8 aO=>
  ⟨λah=>ah.elim d8 λam=>by have:=fV b am;have:=bi b o aO;omega,(Y b (bi b o aO)).trans aO⟩
 have az:co phx M B w phx (λb=>M b\/N b) B w':=⟨λ_ _=>rfl,aD,λ_=>aU.cc.refl _⟩;refine⟨{ os:=O.trans h.os,tape:=R.trans h.tape,output:=ai.trans h.output,size:=fv h.size ae,keep:=λb ap => ?_,klt:=h.klt,hid:=λb ap=>⟨λhm => ?_,λhx=>.inl ((h.hid b ap).2 hx)⟩,own:=h.own,mlt:=λb hm => ?_,blks:=λj => ?_,sep:=h.sep },az⟩
 .exact(Y b (iF (h.klt b ap) h.size)).trans (h.keep b ap)
 .rcases hm with hm|hm
  .exact(h.hid b ap).1 hm
  have:=fV b hm;have:=h.klt b ap;have:=h.size;omega
 .rcases hm with hm|hm
  .exact iF (h.mlt b hm) ae
  exact(fV b hm).2
 refine(h.blks j).congr rfl az.pl az.vw az.bl (λx hx hm=>Y _ ?_) (λx _ _ hm=>.inl hm);have aj:=h.blks j;generalize B j=bl at aj hm;cases bl with
 |new=>cases hm
 |fq=>cases hm
 |fz e l=>cases hm
 |box t v=>obtain⟨b,o,c,el,fz,O,R,_⟩:=aj;rw[O]at hx;cases hx;exact bi _ _ R
 |ob e l=>
  rcases aj.2 with⟨O,_⟩|⟨b,o,c,el,fz,O,R,_⟩
  .rw[O]at hx;cases hx
  rw[O]at hx;cases hx;exact bi _ _ R
 |it s p=>obtain⟨b,O,R,_⟩:=aj;rw[O]at hx;cases hx;exact bi _ _ R
 |mp kt vt l=>obtain⟨b,es,nR,O,R,_⟩:=aj;rw[O]at hx;cases hx;exact bi _ _ R
def bK.vF(h:bK K w0 phx M B w){id:Nat}(hid:B id=.new)(kI:aU)(x:Option (Nat×Nat×Nat))
  (wa:kI.fN=true->∀y,x=some y->¬K.k y.1) (acs:kI.fN=true->∀y,x=some y->∀j,(B j).fN=true->∀z,phx j=some z->z.1≠y.1)
  (aj:co phx M B w (w4 phx id x) M (c6 B id kI) w->l? (w4 phx id x) M w (view w M) (c6 B id kI) id kI) :
  bK K w0 (w4 phx id x) M (c6 B id kI) w/\co phx M B w (w4 phx id x) M (c6 B id kI) w:=by
 have az:co phx M B w (w4 phx id x) M (c6 B id kI) w:=⟨λj ao=>rf _ _ (λe=>by subst e;rw[hid]at ao;cases ao),cf.cc.refl _,λj=>by
  by_cases ao:j=id
  .subst ao;rw[e6,hid];trivial
  rw[eo _ _ ao];exact aU.cc.refl _⟩
 refine⟨{ h with own:=λj ao y bs => ?_,blks:=λj => ?_,sep:=λi j jy ac ao y z bs bh => ?_ },az⟩
 .by_cases O:j=id
  .subst O;rw[e6]at ao;rw[mx]at bs;exact wa ao y bs
  rw[eo _ _ O]at ao;rw[rf _ _ O]at bs;exact h.own j ao y bs
 .by_cases ao:j=id
  .subst ao;rw[e6];exact aj az
  rw[eo _ _ ao];exact(h.blks j).congr (rf _ _ ao) az.pl az.vw az.bl (λ_ _ _=>rfl) (λ_ _ _ h=>h)
 by_cases O:i=id
 .subst O
  have R:j≠i:=λe=>jy e.symm;rw[e6]at ac;rw[eo _ _ R]at ao;rw[mx]at bs;rw[rf _ _ R]at bh;exact(acs ac y bs j ao z bh).symm
 by_cases R:j=id
 .subst R
  rw[e6]at ao;rw[eo _ _ O]at ac;rw[mx]at bh;rw[rf _ _ O]at bs;exact acs ao z bh i ac y bs
 rw[eo _ _ O]at ac;rw[eo _ _ R]at ao;rw[rf _ _ O]at bs;rw[rf _ _ R]at bh;exact h.sep i j jy ac ao y z bs bh
def bK.put(h:bK K w0 phx M B w){id:Nat}{x:Nat×Nat×Nat}(hm:(B id).fN=true)(hx:phx id=some x)(Sv:M x.1){w':World}
 (O:w'.os=w.os) (R:w'.tape=w.tape) (ai:w'.output=w.output) (ae:w'.heap.size=w.heap.size)
 (Y:∀b,b≠x.1->w'.heap[b]?=w.heap[b]?) (kI:aU) (bV:(B id).cc kI)
 (aj:co phx M B w phx M (c6 B id kI) w'->l? phx M w' (view w' M) (c6 B id kI) id kI) :
 bK K w0 phx M (c6 B id kI) w'/\co phx M B w phx M (c6 B id kI) w':=by
 have aD:(view w M).cc (view w' M):=yZ λb o d8 aO=>⟨d8,(Y b λe=>d8 (e▸Sv)).trans aO⟩;have az:co phx M B w phx M (c6 B id kI) w':=⟨λ_ _=>rfl,aD,λj=>by
  by_cases ao:j=id
  .subst ao;rw[e6];exact bV
  rw[eo _ _ ao];exact aU.cc.refl _⟩
 refine⟨{ os:=O.trans h.os,tape:=R.trans h.tape,output:=ai.trans h.output,size:=ae▸h.size,keep:=λb ap => ?_,klt:=h.klt,hid:=h.hid,own:=λj ao => ?_,mlt:=λb hm=>ae▸h.mlt b hm,blks:=λj => ?_,sep:=λi j jy ac ao => ?_ },az⟩
 .exact(Y b λe=>h.own id hm x hx (e▸ap)).trans (h.keep b ap)
 .by_cases O:j=id
  .subst O;exact h.own j hm
  rw[eo _ _ O]at ao;exact h.own j ao
 .by_cases ao:j=id
  .subst ao;rw[e6];exact aj az
  rw[eo _ _ ao];exact(h.blks j).congr rfl az.pl az.vw az.bl (λy bs qQ=>Y _ (h.sep j id ao qQ hm y x bs hx)) (λ_ _ _ h=>h)
 have key:∀k,((c6 B id kI) k).fN=true->(B k).fN=true:=λk ap=>by
  by_cases qO:k=id
  .subst qO;exact hm
  rw[eo _ _ qO]at ap;exact ap
 exact h.sep i j jy (key i ac) (key j ao)
def co.trans{hS jS:cd}{fR c':Nat->Prop}{cY b2:Nat->aU}{ck cR:World}(h:co phx M B w hS fR cY ck)(g:co hS fR cY ck jS c' b2 cR):co phx M B w jS c' b2 cR:=by
 refine⟨λid hl => ?_,h.vw.trans g.vw,λid => ?_⟩
 .have O:=h.pl id hl;have Y:=h.bl id
  rw[<- O];refine g.pl id ?_;generalize B id=b at *;generalize cY id=e_ at *
  cases b<;>cases e_<;>simp only[aU.cc]at Y<;>first|rfl|cases hl
 have Y:=h.bl id;have xV:=g.bl id;generalize B id=b at *;generalize cY id=e_ at *;generalize b2 id=eC at *
 cases b<;>cases e_<;>cases eC<;>simp only[aU.cc]at Y xV ⊢ <;> first|exact Y.elim|exact xV.elim|trivial|exact Y.trans xV|exact⟨Y.1.trans xV.1,Y.2.trans xV.2⟩|exact⟨Y.trans xV.1,xV.2⟩|(obtain⟨O,R⟩:=Y;obtain⟨rfl,au⟩:=xV;exact⟨by rw[O,au],R⟩)
end
end Yp
namespace Yp
open Go
def zc:=@Ne.symm
def Fj:=@Nat.beq_refl
def aw.a2{α:Type}(g:Nat->av):aw α->(Nat->aU)->Option (α×(Nat->aU))
 |.fail,_=>none
 |.ret a,B=>some (a,B)
 |.chk c k,B=>if c=true then k.a2 g B else none
 |.br c x y,B=>if c=true then x.a2 g B else y.a2 g B
 |.bo _ o k,B=>(match o with|some a=>(k a).a2 g B|none=>none)
 |.rt i k,B=>(k (g i)).a2 g B
 |.rb i k,B=>(k (B i)).a2 g B
 |.eY i b k,B=>k.a2 g (c6 B i b)
def aw.R9(g:Nat->av)(m:aw α)(f:α->aw β)(B:Nat->aU):
  (m.bind f).a2 g B=(match m.a2 g B with|some (a,B')=>(f a).a2 g B'|none=>none):=by
 induction m generalizing B with
 |fail=>rfl
 |ret a=>rfl
 |chk c k ih=>simp only[aw.bind,aw.a2];split<;>simp[ih]
 |br c x y hx bs=>simp only[aw.bind,aw.a2];split<;>simp[hx,bs]
 |bo d o k ih=>cases o<;>simp only[aw.bind,aw.a2,ih]
 |rt i k ih=>simp only[aw.bind,aw.a2,ih]
 |rb i k ih=>simp only[aw.bind,aw.a2,ih]
 |eY i b k ih=>simp only[aw.bind,aw.a2,ih]
def aw.cH{g:Nat->av}{m:aw α}{f:α->aw β}{B:Nat->aU}{r:β×(Nat->aU)}(h:(m.bind f).a2 g B=some r):
  ∃a B',m.a2 g B=some (a,B')/\(f a).a2 g B'=some r:=by
 rw[aw.R9]at h;split at h
 .rename_i a B' hm;exact⟨a,B',hm,h⟩
 cases h
def dF(B:Nat->aU)(wr:List (Nat×aU)):Nat->aU:=λid=>n7 wr id (B id)
def yu(B:Nat->aU)(i:Nat)(b:aU)(wr:List (Nat×aU)):dF B ((i,b)::wr)=c6 (dF B wr) i b:=by
 funext j;simp only[dF,n7,c6];by_cases h:i=j
 .subst h;rw[Fj];simp
 have:Nat.beq i j=false:=by cases Y:Nat.beq i j with
  |false=>rfl
  |true=>exact absurd (fP Y) h
 rw[this];simp[zc h]
def aw.afS(s:aR)(m:aw α):∀(fA:Nat) (fs:List Nat) (wr:List (Nat×aU)) (k:α×O9->aS β) (r:β),((m.run s fA fs wr).bind k).bI=some r ->
  ∃a e,m.a2 s.bW (dF s.aW wr)=some (a,dF s.aW e.wr)/\(k (a,e)).bI=some r:=by
 induction m with
 |fail=>intro fA fs wr k r h;cases h
 |ret a=>intro fA fs wr k r h;exact⟨a,_,rfl,h⟩
 |chk c m ih=>
  intro fA fs wr k r h;simp only[aw.run,aS.bind,aS.bI,ak,aw.a2]at h ⊢;cases c with
  |true=>simpa using ih fA fs wr k r h
  |false=>cases h
 |br c x y hx bs=>
  intro fA fs wr k r h;simp only[aw.run,aS.bind,aS.bI,T,aw.a2]at h ⊢;cases c with
  |true=>simpa using hx fA fs wr k r h
  |false=>simpa using bs fA fs wr k r h
 |bo d o m ih=>
  intro fA fs wr k r h;cases o with
  |some a=>exact ih a fA fs wr k r h
  |none=>cases h
 |rt i m ih=>intro fA fs wr k r h;exact ih (s.bW i) _ fs wr k r h
 |rb i m ih=>intro fA fs wr k r h;exact ih _ fA (i::fs) wr k r h
 |eY i b m ih =>intro fA fs wr k r h;obtain⟨a,e,O,R⟩:=ih fA fs ((i,b)::wr) k r h;refine⟨a,e,?_,R⟩;simp only[aw.a2];rw[<- yu];exact O
def dE(phx:cd)(H:cf)(B:Nat->aU)(g:Nat->av)(a:Act):Prop:=∀t,a9 phx H B (g t) (a.tmps.getD t undef)
def dE.ext{phx phx':cd}{M aA:Nat->Prop}{B B':Nat->aU}{w w':World}{g:Nat->av}{a:Act}(h:dE phx (view w M) B g a)(az:co phx M B w phx' aA B' w'):dE phx' (view w' aA) B' g a:=
 λt=>az.p (h t)
def dQ{g:Nat->av}{o:Option α}{B B':Nat->aU}{a:α}(h:(aw.opt o).a2 g B=some (a,B')):o=some a/\B'=B:=by
 cases o with
 |none=>cases h
 |some b=>simp only[aw.opt,aw.a2,kY,lk]at h;exact⟨by rw[h.1],h.2.symm⟩
def ld{g:Nat->av}{b:Bool}{B B':Nat->aU}{a:Unit}(h:(aw.need b).a2 g B=some (a,B')):b=true/\B'=B:=by
 cases b with
 |false=>cases h
 |true=>simp only[aw.need,cond,aw.a2,kY,lk]at h;exact⟨rfl,h.2.symm⟩
def amN{g:Nat->av}{c:Value}{B B':Nat->aU}{v:av}(h:(Q? c).a2 g B=some (v,B'))(phx:cd)(H:cf):B'=B/\a9 phx H B v c:=by
 unfold Q? at h;split at h
 .cases h;exact⟨rfl,rfl⟩
 .rename_i k n
  cases hl:HC k n with
  |false=>rw[hl]at h;cases h
  |true =>rw[hl]at h;cases h;exact⟨rfl,[.int k n],aJ.jl.2 (by rw[bH.ahN k n hl]),rfl⟩
 .rename_i s
  cases h;exact⟨rfl,[.string s],aJ.tv.2 rfl,rfl⟩
 .cases h;exact⟨rfl,rfl⟩
 .cases h;exact⟨rfl,_,aJ.wF.2 rfl,rfl⟩
 .cases h;exact⟨rfl,_,aJ.wF.2 rfl,rfl⟩
 .cases h;exact⟨rfl,_,aJ.wF.2 rfl,rfl⟩
 .cases h;exact⟨rfl,_,aJ.wF.2 rfl,rfl⟩
 cases h
def ys{g:Nat->av}{x:Operand}{B B':Nat->aU}{v:av}(h:(eu x).a2 g B=some (v,B')){phx:cd}{H:cf}{a:Act}(ae:dE phx H B g a):B'=B/\a9 phx H B v (a.eval x):=by
 cases x with
 |tmp t=>cases h;exact⟨rfl,ae t⟩
 |const c=>exact amN h phx H
 |global i=>cases h
 |func f=>cases h;exact⟨rfl,[],rfl,rfl⟩
def a9.int{phx:cd}{H:cf}{B:Nat->aU}{k:IntKind}{x:bH k}{v:Value}(h:a9 phx H B (.sc (.int k) x) v):v=.int k (bH.to k x):=by obtain⟨cs,h,rfl⟩:=h;rw[aJ.jl.1 h];rfl
def a9.s?(phx:cd)(H:cf)(B:Nat->aU)(k:IntKind)(x:bH k):a9 phx H B (.sc (.int k) x) (.int k (bH.to k x)):=
 ⟨[.int k (bH.to k x)],aJ.jl.2 rfl,rfl⟩
def a9.bool{phx:cd}{H:cf}{B:Nat->aU}{x:Bool}{v:Value}(h:a9 phx H B (.sc .bool x) v):v=.bool x:=by obtain⟨cs,h,rfl⟩:=h;rw[aJ.oA.1 h];rfl
def a9.uM(phx:cd)(H:cf)(B:Nat->aU)(x:Bool):a9 phx H B (.sc .bool x) (.bool x):=⟨[.bool x],aJ.oA.2 rfl,rfl⟩
def a9.str{phx:cd}{H:cf}{B:Nat->aU}{x:List UInt8}{v:Value}(h:a9 phx H B (.sc .str x) v):v=.string ⟨x.toArray⟩:=by obtain⟨cs,h,rfl⟩:=h;rw[aJ.tv.1 h];rfl
def a9.Uh(phx:cd)(H:cf)(B:Nat->aU)(x:List UInt8):a9 phx H B (.sc .str x) (.string ⟨x.toArray⟩):=⟨[.string ⟨x.toArray⟩],aJ.tv.2 rfl,rfl⟩
end Yp
namespace Yp
open Go
variable {P:Program}
def ay0{o:Oper}{a:Act}{w w':World}{v:Value}{K:Act->World->Prop}{Q:Exit->Act->World->Prop}
  (h:(execOp a.eval o).run P w=.ok (.value v) w') (ap:K (a.put o.dst v) w'):o.wp P a w K Q:=by
 unfold Oper.wp;rw[h];exact ap
def WV{o:Oper}{a:Act}{w w':World}{K:Act->World->Prop}{Q:Exit->Act->World->Prop}
  (h:(execOp a.eval o).run P w=.ok .skip w') (ap:K (a.put o.dst undef) w'):o.wp P a w K Q:=by
 unfold Oper.wp;rw[h];exact ap
def anE(op:BinOp)(t:TypeId)(x y:Operand)(k k':IntKind)(n m:Int)(w:World):(eqGuard op t x y (.int k n) (.int k' m)).run P w=.ok () w:=by unfold eqGuard;cases op<;>rfl
def anF(op:BinOp)(t:TypeId)(x y:Operand)(n m:ByteArray)(w:World):(eqGuard op t x y (.string n) (.string m)).run P w=.ok () w:=by unfold eqGuard;cases op<;>rfl
def aii(k:IntKind)(n:Int)(O:k.min<=n)(R:n<=k.max):k.wrap n=n:=by cases k<;>simp[IntKind.min,IntKind.max,IntKind.signed,IntKind.bits,IntKind.wrap]at * <;> omega
def bH.Je(k:IntKind)(x:bH k)(h:EN k=true):0<=bH.to k x:=by cases k<;>first|cases h;done|exact Int.natCast_nonneg _
def bH.T6(k:IntKind)(n:Int)(h:EN k=true->0<=n/\n<=k.max):bH.to k (bH.lit k n)=n:=by
 apply bH.ahN;cases k<;>first
  |rfl
  | (have:=h rfl;cases n with
    |ofNat m=>simp[HC,IntKind.max,IntKind.signed,IntKind.bits]at *;omega
    |negSucc m=>omega)
def bH.ahO(k:IntKind)(x:bH k)(h:EN k=true):bH.to k x<=k.max:=by
 cases k with
 |u8=>have:=UInt8.toNat_lt x;simp only[bH.to,aN,IntKind.max,IntKind.signed,IntKind.bits];simp;omega
 |u16=>have:=UInt16.toNat_lt x;simp only[bH.to,wz,IntKind.max,IntKind.signed,IntKind.bits];simp;omega
 |u32=>have:=UInt32.toNat_lt x;simp only[bH.to,a3,IntKind.max,IntKind.signed,IntKind.bits];simp;omega
 |u64=>have:=UInt64.toNat_lt x;simp only[bH.to,cz,IntKind.max,IntKind.signed,IntKind.bits];simp;omega
 |_=>cases h
def ajZ{r1:Bool}{op:BinOp}{k:IntKind}{x y:bH k}{g:Nat->av}{B B':Nat->aU}{v:av}(h:(P9 r1 op k x y).a2 g B=some (v,B'))
  (LR:r1=true->bH.to k y≠0) (t:TypeId) (w:World) (phx:cd) (H:cf) :
  B'=B/\∃c9,(binOp op t (.int k (bH.to k x)) (.int k (bH.to k y))).run P w=.ok c9 w/\a9 phx H B v c9:=by
 have rP:∀n:Int,a9 phx H B (.sc (.int k) (bH.of k n)) (.int k (k.wrap n)):=λn=>by
  have:=a9.s? phx H B k (bH.of k n)
  rwa [bH.Ou]at this
 have Y:∀b:Bool,a9 phx H B (.sc .bool b) (.bool b):=a9.uM phx H B;cases op<;>simp only[P9]at h
 all_goals try(cases h;done)
 case add=>cases h;exact⟨rfl,_,by simp[binOp,Op.intArith,aC,bg,fr],rP _⟩
 case sub=>cases h;exact⟨rfl,_,by simp[binOp,Op.intArith,aC,bg,fr],rP _⟩
 case mul=>cases h;exact⟨rfl,_,by simp[binOp,Op.intArith,aC,bg,fr],rP _⟩
 case and=>cases h;exact⟨rfl,_,by simp[binOp,Op.intBits,i9,g?,fO,HR],rP _⟩
 case or=>cases h;exact⟨rfl,_,by simp[binOp,Op.intBits,i9,g?,fO,HR],rP _⟩
 case xor=>cases h;exact⟨rfl,_,by simp[binOp,Op.intBits,i9,g?,fO,HR],rP _⟩
 case andNot=>cases h;exact⟨rfl,_,by simp[binOp,Op.intBits,i9,g?,fO,HR],rP _⟩
 case eql=>cases h;exact⟨rfl,_,by simp[binOp,Op.intCmp,af,aZ,aF,b?,bne],Y _⟩
 case neq=>cases h;exact⟨rfl,_,by simp[binOp,Op.intCmp,af,aZ,aF,b?,bne],Y _⟩
 case lss=>cases h;exact⟨rfl,_,by simp[binOp,Op.intCmp,af,aZ,aF,b?,bne],Y _⟩
 case leq=>cases h;exact⟨rfl,_,by simp[binOp,Op.intCmp,af,aZ,aF,b?,bne],Y _⟩
 case gtr=>cases h;exact⟨rfl,_,by simp[binOp,Op.intCmp,af,aZ,aF,b?,bne],Y _⟩
 case geq=>cases h;exact⟨rfl,_,by simp[binOp,Op.intCmp,af,aZ,aF,b?,bne],Y _⟩
 case quo=>
  have key:bH.to k y≠0/\B'=B/\v=.sc (.int k) (bH.of k (ga (bH.to k x) (bH.to k y))):=by
   cases r1 with
   |true=>cases h;exact⟨LR rfl,rfl,rfl⟩
   |false=>
    simp only[zx,cond,aw.a2]at h;split at h
    .rename_i ah;cases h;exact⟨by simpa[aZ,af]using ah,rfl,rfl⟩
    cases h
  obtain⟨aq,aB,rfl⟩:=key;exact⟨aB,_,by simp[binOp,Op.intDiv,aq,ga],rP _⟩
 case rem=>
  have key:bH.to k y≠0/\B'=B/\v=.sc (.int k) (bH.lit k (ej (bH.to k x) (bH.to k y))):=by
   cases r1 with
   |true=>cases h;exact⟨LR rfl,rfl,rfl⟩
   |false=>
    simp only[zx,cond,aw.a2]at h;split at h
    .rename_i ah;cases h;exact⟨by simpa[aZ,af]using ah,rfl,rfl⟩
    cases h
  obtain⟨aq,aB,rfl⟩:=key;refine⟨aB,_,by simp[binOp,Op.intDiv,aq];rfl,?_⟩;have hm:=a9.s? phx H B k (bH.lit k (ej (bH.to k x) (bH.to k y)));rw[bH.T6]at hm
  .exact hm
  intro aM;have O:=bH.Je k x aM;have R:=bH.Je k y aM;have ai:=bH.ahO k y aM;unfold ej;have au:=Int.tmod_nonneg (bH.to k y) O;have a4:(bH.to k x).tmod (bH.to k y)<bH.to k y:=Int.tmod_lt_of_pos _ J;omega
def aj1{op:BinOp}{x y:List UInt8}{g:Nat->av}{B B':Nat->aU}{v:av}(h:(P_ op x y).a2 g B=some (v,B'))(t:TypeId)(w:World)(phx:cd)(H:cf):
  B'=B/\∃c9,(binOp op t (.string ⟨x.toArray⟩) (.string ⟨y.toArray⟩)).run P w=.ok c9 w/\a9 phx H B v c9:=by
 have Y:∀b:Bool,a9 phx H B (.sc .bool b) (.bool b):=a9.uM phx H B;have hl:∀z:List UInt8,ByteArray.toList ⟨z.toArray⟩=z:=λz=>by rw[ByteArray.toList_eq]
 cases op<;>simp only[P_]at h
 all_goals try(cases h;done)
 case add=>
  simp only[aw.a2]at h;split at h
  .rename_i ah
   cases h;refine⟨rfl,_,?_,a9.Uh phx H B (cm x y)⟩;have ae:¬((x.length+y.length:Nat):Int) > IntKind.i64.max:=by have mK:((x.length:Int)+(y.length:Int))<=140737488355328:=of_decide_eq_true ah;simp;omega
   have O:(⟨x.toArray⟩:ByteArray).size=x.length:=rfl;have R:(⟨y.toArray⟩:ByteArray).size=y.length:=rfl;simp only[binOp,Op.stringOp,O,R,if_neg ae];rfl
  cases h
 case eql=>cases h;exact⟨rfl,_,by simp[binOp,Op.stringOp,hl,seq],Y _⟩
 case neq=>cases h;exact⟨rfl,_,by simp[binOp,Op.stringOp,hl,seq,aZ],Y _⟩
 case lss=>cases h;exact⟨rfl,_,by simp[binOp,Op.stringOp,hl,seq,xx],Y _⟩
 case leq=>cases h;exact⟨rfl,_,by simp[binOp,Op.stringOp,hl,seq,xx,mB],Y _⟩
 case gtr=>cases h;exact⟨rfl,_,by simp[binOp,Op.stringOp,hl,seq,xx,mB,aZ],Y _⟩
 case geq=>cases h;exact⟨rfl,_,by simp[binOp,Op.stringOp,hl,seq,xx,mB,aZ],Y _⟩
end Yp
namespace Yp
open Go
def vK{a b:ag}{x:a.aG}{y:b.aG}(h:ag.cast a b x=some y):∃e:a=b,e▸x=y:=by
 unfold ag.cast at h
 grind
def jM{a b:ag}{x:List a.aG}{y:List b.aG}(h:ag.lp a b x=some y):∃e:a=b,e▸x=y:=by
 unfold ag.lp at h
 grind
def eV{a b:ag}(h:ag.is a b=true):a=b:=by
 unfold ag.is at h;cases ae:ag.same a b with
 |none=>rw[ae]at h;cases h
 |some e=>exact e.down
section
variable {phx:cd} {H:cf} {B:Nat->aU}
def acQ{f:Nat}:∀{l:List Nat} {n m:Nat},Hd f l n=some m->∃j,m=j+n/\l[j]?=some f
 |a::l,n,m,h=>by
  simp only[Hd]at h;cases Y:Nat.beq a f with
  |true=>rw[Y]at h;cases h;exact⟨0,J,by rw[fP Y];rfl⟩
  |false =>rw[Y]at h;obtain⟨j,O,R⟩:=acQ h;exact⟨j+1,J,by simpa using R⟩
def Zv{dU:Nat}{cZ:List iP}{t:ag}{x:t.aG}{v:Value}(h:Q5 f cZ t=some x)(aj:bJ phx H B (.clo f dU cZ) v):aJ H t x [v]/\t.isAgg=false:=by
 cases t<;>try(cases h;done)
 rename_i l;cases cZ with
 |cons c r=>cases h
 |nil =>obtain⟨vs,O,rfl⟩:=aj;have O:vs=[]:=O;subst O;obtain⟨j,R,ai⟩:=acQ (show Hd f l 1=some x from h);refine⟨aJ.F?.2 ?_,rfl⟩;have R:x=j+1:=R;subst R;simp only[List.take_nil,List.drop_nil,sQ,ai]
def se:∀{pv:av} {t:ag} {x:t.aG} {cs:List Value},tB pv t=some x->fh phx H B pv t cs->aJ H t x cs:=by
 intro pv;induction pv with
 |sc t' y =>intro t x cs h aj;obtain⟨e,rfl⟩:=vK h;obtain⟨bA,aj⟩:=aj;exact aj
 |kb b=>
  intro t x cs h aj;cases t<;>try(cases h;done)
  obtain⟨_,v,rfl,_,ai⟩:=aj;cases h;simp only[bJ]at ai;rw[ai];exact aJ.oA.2 rfl
 |nil=>
  intro t x cs h aj;cases t<;>try(cases h;done)
  obtain⟨_,v,rfl,_,ai⟩:=aj;cases h;simp only[bJ]at ai;rw[ai];exact aJ.iL.2 ⟨none,0,rfl,bX _,by unfold maxLen;omega,.inl rfl⟩
 |csl e l=>
  intro t x cs h aj;cases t<;>try(cases h;done)
  obtain⟨_,v,rfl,_,ai⟩:=aj;obtain⟨bA,rfl⟩:=jM h;subst bA;obtain⟨a,_,au⟩:=ai;exact au
 |two u v aM aD=>
  intro t x cs h aj;cases t<;>try(cases h;done)
  rename_i a b;obtain⟨c1,c2,rfl,O,R⟩:=aj;have bB:ahU (tB u a) (tB v b)=some x:=h;cases bs:tB u a with
  |none=>rw[bs]at bB;cases bB
  |some y=>
   cases bh:tB v b with
   |none=>rw[bs,bh]at bB;cases bB
   |some z =>rw[bs,bh]at bB;cases bB;exact aJ.mU.2 ⟨c1,c2,rfl,aM bs O,aD bh R⟩
 |agg t' u _=>intro t x cs h aj;exact aj.elim
 |clo f dU cZ =>intro t x cs h aj;obtain⟨_,v,rfl,_,ai⟩:=aj;exact(Zv h ai).1
 |_=>intro t x cs h;cases h
def fh.asA{u v:av}{t:ag}{cs:List Value}(h:fh phx H B (.two u v) t cs):t.isAgg=true:=by cases t<;>first|rfl|exact h.elim
def og{pv:av}{t:ag}{x:t.aG}{v:Value}(h:iM t pv=some x)(aj:a9 phx H B pv v):a9 phx H B (.sc t x) v:=by
 unfold iM at h;cases pv<;>try(cases h;done)
 case kb b=>
  cases t<;>try(cases h;done)
  cases h;simp only[a9,d6,bJ]at aj;rw[aj];exact a9.uM _ _ _ _
 case sc t' y =>obtain⟨e,rfl⟩:=vK h;subst e;exact aj
 case nil=>
  cases t<;>try(cases h;done)
  cases h;simp only[a9,d6,bJ]at aj;rw[aj];exact⟨[_],aJ.iL.2 ⟨none,0,rfl,bX _,by unfold maxLen;omega,.inl rfl⟩,rfl⟩
 case csl e l=>
  cases t<;>try(cases h;done)
  obtain⟨bA,rfl⟩:=jM h;subst bA;obtain⟨a,ai,au⟩:=aj;exact⟨[v],au,rfl⟩
 case two u w=>exact aj.elim
 case clo f dU cZ =>obtain⟨O,R⟩:=Zv h aj;exact⟨[v],O,by simp[cB,R]⟩
 case agg t' u=>
  have bB:(bif ag.is t' t then tB u t else none)=some x:=h;cases ac:ag.is t' t with
  |false=>rw[ac]at bB;cases bB
  |true =>rw[ac]at bB;have h:tB u t=some x:=bB;have e:=eV ac;subst e;obtain⟨bc,cs,O,R⟩:=aj;exact⟨cs,se h O,by rw[R,cB,if_pos bc]⟩
end
end Yp
namespace Yp
open Go
def iT:=@Nat.mul_le_mul_right
def nF:=@List.getElem?_eq_some_iff
def jJ:=@Nat.add_assoc
def nG:=@List.getElem?_eq_none
def JO:=@List.getElem?_take
def J7:=@Nat.lt_or_ge
def full(w:World):cf:=λb=>w.heap[b]?
def si(w:World)(M:Nat->Prop):(view w M).cc (full w):=λ_ _ h=>(kd.1 h).2
def lQ{l:List α}(h:off+n<=l.length):(cut l off n).length=n:=by simp[cut];omega
def FU{l:List α}(h:i<n):ij (cut l off n) i=ij l (off+i):=by simp[ij,cut,JO,h]
def Cx(l:List α):cut l 0 l.length=l:=by simp[cut]
def UQ{phx:cd}{H:cf}{id:Nat}{e:ag}{l:List e.aG}{v:Value}(aj:h1 phx id e off n v)(bV:off+n<=l.length)
  (Y:(phx id=none/\l.length=0)\/∃b o c el fz,phx id=some (b,o,c.size)/\H b=some (.cells c el fz)/\fi H e l c o):aJ H (.sl e) (cut l off n) [v]:=by
 refine aJ.iL.2 ?_;rw[lQ bV];rcases aj with⟨O,a,R⟩|⟨b,o,m,cap,O,R,ai,au,a4⟩
 .subst O R
  exact⟨a,0,rfl,bX _,by unfold maxLen;omega,.inl (by simp[cut])⟩
 refine⟨_,cap,by rw[R],ai,au,?_⟩;rcases Y with⟨bj,bm⟩|⟨b',dz,c,el,fz,bj,bm,cW⟩
 .rw[O]at bj;cases bj
 rw[O]at bj;cases bj;refine .inr ⟨b,o+off*e.size,c,el,fz,rfl,bm,?_,λi x ac => ?_⟩
 .have:(off+n)*e.size<=(off+cap)*e.size:=iT _ J
  rw[f9]at this;have cQ:=a4;omega
 have fb:i<n:=by
  rcases J7 i n with h|h
  .exact h
  have:(cut l off n).length<=i:=by rw[lQ bV];exact h
  simp only[ij,nG this]at ac;cases ac
 rw[FU fb]at ac;have:=cW.2 (off+i) x ac;rw[f9,<- jJ]at this;exact this
def UR{phx:cd}{H:cf}{id:Nat}{e:ag}{l:List e.aG}{v:Value}(aj:h1 phx id e 0 l.length v)
  (Y:(phx id=none/\l.length=0)\/∃b o c el fz,phx id=some (b,o,c.size)/\H b=some (.cells c el fz)/\fi H e l c o):aJ H (.sl e) l [v]:=by
 have:=UQ aj J Y
 rwa [Cx]at this
section
variable {K:Kp} {w0 w:World} {phx:cd} {M:Nat->Prop} {B B':Nat->aU} {g:Nat->av}
def ad8{e:ag}{l:List e.aG}(h:l? phx M w (view w M) B i (.ob e l)):(phx i=none/\l.length=0)\/∃b o c el fz,phx i=some (b,o,c.size)/\full w b=some (.cells c el fz)/\fi (full w) e l c o:=by
 rcases h.2 with h|⟨b,o,c,el,fz,O,R,ai,_⟩
 .grind
 exact .inr ⟨b,o,c,el,fz,O,R,ai.mono (si w M)⟩
def afN{id:Nat}{e:ag}{x:List e.aG}(h:(tl eU id e).a2 g B=some (x,B'))(hm:bK K w0 phx M B w):
  ∃aA,bK K w0 phx aA B' w/\co phx M B w phx aA B' w/\ou phx M B aA B'/\(B id=.ob e x\/B id=.fz e x) /\
   ((phx id=none/\x.length=0)\/∃b o c el fz,phx id=some (b,o,c.size)/\full w b=some (.cells c el fz)/\fi (full w) e x c o) /\
   (eU=true->(phx id=none/\x.length=0)\/∃b o c el fz,phx id=some (b,o,c.size)/\view w aA b=some (.cells c el fz)/\fi (view w aA) e x c o):=by
 simp only[tl,aw.a2]at h;have Y:=hm.blks id;cases aB:B id with
 |ob bA l=>
  rw[aB]at h Y;obtain⟨y,cY,O,R⟩:=aw.cH h;obtain⟨ah,rfl⟩:=dQ O;obtain⟨fG,rfl⟩:=jM ah;subst fG;cases eU with
  |false =>cases R;exact⟨M,hm,co.refl _ _ _ _,ou.refl _ _ _,.inl rfl,ad8 Y,λh=>by cases h⟩
  |true =>obtain⟨aA,iI,j7,wd⟩:=hm.freeze aB;cases R;have mJ:=iI.blks id;rw[e6]at mJ;exact⟨aA,iI,j7,wd,.inl rfl,ad8 Y,λ_=>mJ.2⟩
 |fz bA l=>
  rw[aB]at h Y;obtain⟨ah,rfl⟩:=dQ h;obtain⟨fG,rfl⟩:=jM ah;subst fG;refine⟨M,hm,co.refl _ _ _ _,ou.refl _ _ _,.inr rfl,?_,λ_=>Y.2⟩;rcases Y.2 with h|⟨b,o,c,el,fz,O,R,ai⟩
  .grind
  exact .inr ⟨b,o,c,el,fz,O,si w M _ _ R,ai.mono (si w M)⟩
 |new=>rw[aB]at h;cases h
 |fq=>rw[aB]at h;cases h
 |box t v=>rw[aB]at h;cases h
 |it s p=>rw[aB]at h;cases h
 |mp kt vt l=>rw[aB]at h;cases h
def J?{H:cf}{e:ag}{l:List e.aG}{c:Array Value}(h:aJ H (.ar n e) l (cJ c o (n*e.size)))(am:o+n*e.size<=c.size):l.length=n/\fi H e l c o:=by
 obtain⟨O,_,ai⟩:=aJ.Cg.1 h;refine⟨O,by rw[O];exact am,λi x ac => ?_⟩;have bi:i<l.length:=(nF.1 ac).1;have:=ai i x ac;have hm:=iT e.size (show i+1<=n by omega);rw[f9,Nat.one_mul]at hm
 rwa [Ei _ _ _ _ _ hm]at this
def bK.aos(h:bK K w0 phx M B w){id:Nat}{e:ag}{v:av}{l:List e.aG}(Y:B id=.box (.ar n e) v)(hl:iM (.ar n e) v=some l)(dN:0<e.size):
  ∃aA,bK K w0 phx aA (c6 B id (.fz e l)) w/\co phx M B w phx aA (c6 B id (.fz e l)) w/\ou phx M B aA (c6 B id (.fz e l)):=by
 have aj:=h.blks id;rw[Y]at aj;obtain⟨eB,tc,c0,sK,sS,bj,bm,cW,fU,k7,sT⟩:=aj;obtain⟨b9,eI⟩:=J? (se hl fU) cW;refine⟨λb=>M b/\∀x,phx id=some x->b≠x.1,?_⟩;have aD:(view w M).cc (view w λb=>M b/\∀x,phx id=some x->b≠x.1):=yZ λb o d8 aO=>⟨λah=>d8 ah.1,aO⟩;have az:co phx M B w phx (λb=>M b/\∀x,phx id=some x->b≠x.1) (c6 B id (.fz e l)) w:=⟨λ_ _=>rfl,aD,λj=>by
  by_cases ao:j=id
  .subst ao;rw[e6,Y];exact⟨by rw[b9],dN⟩
  rw[eo _ _ ao];exact aU.cc.refl _⟩
 refine⟨{ h with hid:=λb ap=>⟨λhm=>(h.hid b ap).1 hm.1,λhx=>⟨(h.hid b ap).2 hx,λx np e=>h.own id (by rw[Y];rfl) x np (e▸ap)⟩⟩,mlt:=λb hm=>h.mlt b hm.1,own:=λj ao => ?_,blks:=λj => ?_,sep:=λi j jy ac ao => ?_ },az,
  λb Y am => ?_,λj ao => ?_⟩
 .by_cases O:j=id
  .subst O;rw[e6]at ao;cases ao
  rw[eo _ _ O]at ao;exact h.own j ao
 .by_cases ao:j=id
  .subst ao;rw[e6]
   exact⟨dN,.inr ⟨eB,tc,c0,sK,sS,bj,kd.2 ⟨λah=>ah.2 _ bj rfl,bm⟩,eI.mono aD⟩⟩
  rw[eo _ _ ao];refine(h.blks j).congr rfl az.pl az.vw az.bl (λ_ _ _=>rfl) λx hx hm d8=>⟨d8,λy bs => ?_⟩;exact h.sep j id ao hm (by rw[Y];rfl) x y hx bs
 .by_cases O:i=id
  .subst O;rw[e6]at ac;cases ac
  by_cases R:j=id
  .subst R;rw[e6]at ao;cases ao
  rw[eo _ _ O]at ac;rw[eo _ _ R]at ao;exact h.sep i j jy ac ao
 .refine kZ λah=>am ⟨Y,λx hx e=>ah ⟨id,by rw[‹B id=_›];rfl,x,hx,e.symm⟩⟩
 by_cases O:j=id
 .subst O;rw[e6]at ao;cases ao
 rw[eo _ _ O]at ao;exact ao
def Ps(B:Nat->aU)(id:Nat)(e:ag)(x:List e.aG):Prop:=
 B id=.ob e x\/B id=.fz e x\/∃v,B id=.box (.ar x.length e) v
def awG{id:Nat}{e:ag}{x:List e.aG}(h:(A9 eU id e).a2 g B=some (x,B'))(hm:bK K w0 phx M B w):
  ∃aA,bK K w0 phx aA B' w/\co phx M B w phx aA B' w/\ou phx M B aA B'/\Ps B id e x /\
   ((phx id=none/\x.length=0)\/∃b o c el fz,phx id=some (b,o,c.size)/\full w b=some (.cells c el fz)/\fi (full w) e x c o) /\
   (eU=true->(phx id=none/\x.length=0)\/∃b o c el fz,phx id=some (b,o,c.size)/\view w aA b=some (.cells c el fz)/\fi (view w aA) e x c o):=by
 cases aB:B id with
 |box t v=>
  simp only[A9,aw.a2]at h;have Y:=hm.blks id;rw[aB]at h Y;cases t<;>try(cases h;done)
  rename_i n bA;obtain⟨l,cY,O,R⟩:=aw.cH h;obtain⟨hl,rfl⟩:=dQ O;obtain⟨y,b2,ai,au⟩:=aw.cH R;obtain⟨ah,rfl⟩:=dQ ai;obtain⟨fG,rfl⟩:=jM ah;subst fG;have hp:Nat.blt 0 bA.size=true:=by
   cases a_:Nat.blt 0 bA.size with
   |true=>rfl
   |false=>rw[a_]at au;cases au
  have h:=au;rw[hp]at h;have dN:0<bA.size:=by simpa using hp
  obtain⟨eB,tc,c0,sK,sS,bj,bm,cW,fU,k7,sT⟩:=Y;obtain⟨b9,eI⟩:=J? (se hl fU) cW;have hf:∃b o c el fz,phx id=some (b,o,c.size)/\full w b=some (.cells c el fz)/\fi (full w) bA l c o:=⟨eB,tc,c0,sK,sS,bj,bm,eI.mono (si w M)⟩;cases eU with
  |false =>cases h;exact⟨M,hm,co.refl _ _ _ _,ou.refl _ _ _,.inr (.inr ⟨v,by show _=aU.box (.ar (List.length (α:=bA.aG) l) bA) v;rw[b9];exact aB⟩),.inr hf,λh=>by cases h⟩
  |true =>obtain⟨aA,iI,j7,wd⟩:=hm.aos aB hl dN;cases h;have mJ:=iI.blks id;rw[e6]at mJ;exact⟨aA,iI,j7,wd,.inr (.inr ⟨v,by show _=aU.box (.ar (List.length (α:=bA.aG) l) bA) v;rw[b9];exact aB⟩),.inr hf,λ_=>mJ.2⟩
 |_=>
  have bB:(tl eU id e).a2 g B=some (x,B'):=by
   simp only[A9,aw.a2]at h;simp only[tl,aw.a2]
   grind
  obtain⟨aA,O,R,ai,au,a4⟩:=afN bB hm;exact⟨aA,O,R,ai,au.elim .inl λh=>.inr (.inl h),a4⟩
def co.b6{phx':cd}{aA:Nat->Prop}{w':World}(h:co phx M B w phx' aA B' w'){pv:av}{t:ag}{cs:List Value}(hp:fh phx (view w M) B pv t cs):fh phx' (view w' aA) B' pv t cs:=
 hp.mono h.pl h.vw h.bl
def qx(K:Kp)(w0 w:World)(phx:cd)(M:Nat->Prop)(B B':Nat->aU)(eU:Bool)(t:ag)(x:t.aG)(cs:List Value):Prop:=
 ∃aA,bK K w0 phx aA B' w/\co phx M B w phx aA B' w/\ou phx M B aA B'/\aJ (full w) t x cs/\(eU=true->aJ (view w aA) t x cs)
def qx.plain(hm:bK K w0 phx M B w){t:ag}{x:t.aG}{cs:List Value}(h:aJ (view w M) t x cs):qx K w0 w phx M B B eU t x cs:=
 ⟨M,hm,co.refl _ _ _ _,ou.refl _ _ _,h.mono (si w M),λ_=>h⟩
def auH{e:ag}{x:List e.aG}{id:Nat}{H:cf}{v:Value}(Y:B id=.ob e x\/B id=.fz e x)(h:bJ phx H B (.own id eP) v):h1 phx id e 0 x.length v:=by rcases Y with Y|Y<;>simp only[bJ,Y]at h<;>exact h.1
def aeK{e:ag}{x:List e.aG}{id:Nat}{H:cf}{v:Value}(Y:Ps B id e x)(h:bJ phx H B (.osl id off n) v):off+n<=x.length/\h1 phx id e off n v:=by
 rcases Y with Y|Y|⟨u,Y⟩<;>simp only[bJ,Y]at h
 .grind
 .exact h
 exact h.2
def aeQ{id:Nat}{t:ag}{x:t.aG}{v:Value}(h:(aeN eU id t).a2 g B=some (x,B'))(hm:bK K w0 phx M B w)(aj:bJ phx (view w M) B (.own id eP) v):
  qx K w0 w phx M B B' eU t x [v]:=by
 cases t<;>try(cases h;done)
 obtain⟨aA,O,R,ht,ai,au,a4⟩:=afN h hm;have aO:=auH ai aj;exact⟨aA,O,R,ht,UR aO au,λhf=>UR aO (a4 hf)⟩
def aeJ{id:Nat}{t:ag}{x:t.aG}{v:Value}(h:(aeI eU id off n t).a2 g B=some (x,B'))(hm:bK K w0 phx M B w)(aj:bJ phx (view w M) B (.osl id off n) v):
  qx K w0 w phx M B B' eU t x [v]:=by
 cases t<;>try(cases h;done)
 obtain⟨y,cY,bs,h⟩:=aw.cH h;cases h;obtain⟨aA,O,R,ht,ai,au,a4⟩:=awG bs hm;have aO:=aeK ai aj;exact⟨aA,O,R,ht,UQ aO.2 aO.1 au,λhf=>UQ aO.2 aO.1 (a4 hf)⟩
def Jb:∀{pv:av} {B B':Nat->aU} {M:Nat->Prop} {t:ag} {x:t.aG} {cs:List Value},(w1 eU pv t).a2 g B=some (x,B')->bK K w0 phx M B w->fh phx (view w M) B pv t cs ->
  qx K w0 w phx M B B' eU t x cs:=by
 intro pv;induction pv with
 |own id eP =>intro B B' M t x cs h hm aj;obtain⟨_,v,rfl,_,ai⟩:=aj;exact aeQ h hm ai
 |osl id off n =>intro B B' M t x cs h hm aj;obtain⟨_,v,rfl,_,ai⟩:=aj;exact aeJ h hm ai
 |two u v aM aD=>
  intro B B' M t x cs h hm aj;cases t<;>try(cases h;done)
  obtain⟨c1,c2,rfl,ek,e8⟩:=aj;obtain⟨y,cY,bs,h⟩:=aw.cH h;obtain⟨z,b2,bh,h⟩:=aw.cH h;cases h;obtain⟨fR,bE,e1,dW,f1,w5⟩:=aM bs hm ek;obtain⟨c',cq,aT,eF,f2,Jj⟩:=aD bh bE (e1.b6 e8);exact⟨c',cq,e1.trans aT,dW.trans eF,aJ.mU.2 ⟨c1,c2,rfl,f1,f2⟩,λhf=>aJ.mU.2 ⟨c1,c2,rfl,(w5 hf).mono aT.vw,Jj hf⟩⟩
 |sc t' y =>intro B B' M t x cs h hm aj;obtain⟨ah,rfl⟩:=dQ h;exact qx.plain hm (se (pv:=.sc t' y) ah aj)
 |kb b =>intro B B' M t x cs h hm aj;obtain⟨ah,rfl⟩:=dQ h;exact qx.plain hm (se (pv:=.kb b) ah aj)
 |nil =>intro B B' M t x cs h hm aj;obtain⟨ah,rfl⟩:=dQ h;exact qx.plain hm (se (pv:=.nil) ah aj)
 |csl e l =>intro B B' M t x cs h hm aj;obtain⟨ah,rfl⟩:=dQ h;exact qx.plain hm (se (pv:=.csl e l) ah aj)
 |clo f dU cZ =>intro B B' M t x cs h hm aj;obtain⟨ah,rfl⟩:=dQ h;exact qx.plain hm (se (pv:=.clo f dU cZ) ah aj)
 |agg t' u _=>intro B B' M t x cs h hm aj;exact aj.elim
 |_=>intro B B' M t x cs h;cases h
def Bs{pv:av}{t:ag}{x:t.aG}{v:Value}(h:(m2 eU t pv).a2 g B=some (x,B'))(hm:bK K w0 phx M B w)(aj:a9 phx (view w M) B pv v):
  ∃cs,v=cB t cs/\qx K w0 w phx M B B' eU t x cs:=by
 have plain:∀{t:ag} {x:t.aG},a9 phx (view w M) B (.sc t x) v->∃cs,v=cB t cs/\qx K w0 w phx M B B eU t x cs:=λ⟨cs,O,R⟩=>⟨cs,R,qx.plain hm O⟩;cases pv<;>try(cases h;done)
 case own id eP=>
  have hg:=aeQ h hm aj;cases t<;>try(cases h;done)
  exact⟨[v],rfl,hg⟩
 case osl id off n=>
  have hg:=aeJ h hm aj;cases t<;>try(cases h;done)
  exact⟨[v],rfl,hg⟩
 case two u w=>exact aj.elim
 case sc t' y =>obtain⟨ah,rfl⟩:=dQ h;exact plain (og (pv:=.sc t' y) ah aj)
 case kb b =>obtain⟨ah,rfl⟩:=dQ h;exact plain (og (pv:=.kb b) ah aj)
 case nil =>obtain⟨ah,rfl⟩:=dQ h;exact plain (og (pv:=.nil) ah aj)
 case csl e l =>obtain⟨ah,rfl⟩:=dQ h;exact plain (og (pv:=.csl e l) ah aj)
 case clo f dU cZ =>obtain⟨ah,rfl⟩:=dQ h;exact plain (og (pv:=.clo f dU cZ) ah aj)
 case agg t' u=>
  have bB:(bif ag.is t' t then w1 eU u t else .fail:aw t.aG).a2 g B=some (x,B'):=h;cases ac:ag.is t' t with
  |false=>rw[ac]at bB;cases bB
  |true =>rw[ac]at bB;have e:=eV ac;subst e;obtain⟨bc,cs,O,R⟩:=aj;exact⟨cs,by rw[R,cB,if_pos bc],Jb bB hm O⟩
end
end Yp
namespace Yp
open Go
def PJ:=@Option.map_some
variable {P:Program}
def ayx{op:UnOp}{p:av}{g:Nat->av}{B B':Nat->aU}{v:av}(h:(WD op p).a2 g B=some (v,B')){x:Value}{phx:cd}{H:cf}(hx:a9 phx H B p x)(w:World):
  B'=B/\∃c9,(Op.unary op x).run P w=.ok c9 w/\a9 phx H B v c9:=by
 have rP:∀(k:IntKind) (n:Int),a9 phx H B (.sc (.int k) (bH.of k n)) (.int k (k.wrap n)):=λk n=>by
  have:=a9.s? phx H B k (bH.of k n)
  rwa [bH.Ou]at this
 unfold WD at h;split at h
 .rename_i b
  cases h;simp only[a9]at hx;subst hx;exact⟨rfl,_,rfl,rfl⟩
 .rename_i b
  cases h;rw[hx.bool];exact⟨rfl,_,rfl,a9.uM _ _ _ _⟩
 .rename_i k n
  cases h;rw[hx.int];exact⟨rfl,_,by simp[Op.unary,Op.intArith];rfl,by simpa[bg]using rP k (0-bH.to k n)⟩
 .rename_i k n
  cases h;rw[hx.int];exact⟨rfl,_,by cases k<;>rfl,rP k _⟩
 cases h
def anI{p:av}{g:Nat->av}{B B':Nat->aU}{v:av}(h:(F6 p i).a2 g B=some (v,B')){x:Value}{phx:cd}{H:cf}(hx:a9 phx H B p x)(w:World):
  B'=B/\∃c9,(Instr.extract x i).run P w=.ok c9 w/\d6 phx H B v c9:=by
 unfold F6 at h;split at h
 .rename_i a
  obtain⟨h,aB⟩:=dQ h;obtain⟨vs,hl,rfl⟩:=hx;refine⟨aB,?_⟩;have key:∀(i:Nat) (a:av) (vs:List Value),jc a (gG i)=some v->ma phx H B a vs->∃c9,vs[i]?=some c9/\d6 phx H B v c9:=by
   intro i;induction i with
   |zero=>
    intro a vs h hl;cases a<;>simp only[gG]at h<;>try(cases h;done)
    .rename_i t y
     cases t<;>(try simp at h)<;>try(cases h;done)
     exact hl.elim
    obtain⟨u,us,rfl,O,R⟩:=hl
    (try simp at h);cases h
    grind
   |succ i ih=>
    intro a vs h hl;cases a<;>simp only[gG]at h<;>try(cases h;done)
    .rename_i t y
     cases t<;>(try simp at h)<;>try(cases h;done)
     exact hl.elim
    obtain⟨u,us,rfl,O,R⟩:=hl;obtain⟨c9,ai,au⟩:=ih _ _ h R
    grind
  obtain⟨c9,O,R⟩:=key i a vs h hl;refine⟨c9,?_,R⟩;simp[Instr.extract,O]
 cases h
def auY{c a b:av}{g:Nat->av}{B B':Nat->aU}{v:av}(h:(U1 c a b).a2 g B=some (v,B')){x y z:Value}{phx:cd}{H:cf}
  (ah:a9 phx H B c x) (bc:a9 phx H B a y) (Y:a9 phx H B b z) (w:World) :
  B'=B/\∃c9,(do pure (Next.value (if <- asBool x then y else z)):Sem Next).run P w=.ok (.value c9) w/\a9 phx H B v c9:=by
 have f':∀(t:ag) (c:Bool) (p q:t.aG),a9 phx H B (.sc t p) y->a9 phx H B (.sc t q) z->x=.bool c ->
   ∃c9,(do pure (Next.value (if <- asBool x then y else z)):Sem Next).run P w=.ok (.value c9) w/\a9 phx H B (.sc t (T c p q)) c9:=by
  intro t c p q O R ai;subst ai;cases c with
  |true=>exact⟨y,rfl,O⟩
  |false=>exact⟨z,rfl,R⟩
 unfold U1 at h;split at h
 .rename_i c
  cases h;simp only[a9]at ah;subst ah;cases c with
  |true=>exact⟨rfl,y,rfl,bc⟩
  |false=>exact⟨rfl,z,rfl,Y⟩
 .rename_i c
  split at h
  .rename_i t p
   split at h
   .rename_i q a_
    cases h;exact⟨rfl,f' t c p q bc (og a_ Y) ah.bool⟩
   cases h
  .rename_i p
   split at h
   .rename_i q a_
    cases h;refine⟨rfl,f' .bool c p q ?_ (og a_ Y) ah.bool⟩;simp only[a9]at bc;rw[bc];exact a9.uM _ _ _ _
   cases h
  cases h
 cases h
def Ai{i n:Int}:aK i n=true↔0<=i/\i<n:=by simp[aK]
def ast{i:Int}{g:Nat->av}{B B':Nat->aU}{v:av}(h:(Hf .str (.sc .str l) i).a2 g B=some (v,B')){tid:TypeId}(aM:P.underlying tid=some .string)(k:IntKind)
  {phx:cd} {H:cf} (w:World):B'=B/\∃c9,(Instr.index tid (.string ⟨l.toArray⟩) (.int k i)).run P w=.ok c9 w/\a9 phx H B v c9:=by
 simp only[Hf,aw.a2]at h;split at h
 .rename_i ah
  cases h;obtain⟨aq,O⟩:=Ai.1 ah;have bi:i.toNat<l.length:=by unfold len at O;omega
  have ae:i.toNat<(⟨l.toArray⟩:ByteArray).size:=bi;have hg:(⟨l.toArray⟩:ByteArray)[i.toNat]?=some l[i.toNat]:=by rw[getElem?_pos (⟨l.toArray⟩:ByteArray) i.toNat ae];rfl
  refine⟨rfl,.int .u8 (l[i.toNat].toNat:Int),?_,?_⟩
  .simp[Instr.index,asIntOf,run_underlying aM,aq,hg]
  have e:an l (ab i) (u8 0)=l[i.toNat]:=by simp[an,ab,bi]
  show a9 phx H B (.sc (.int .u8) (an l (ab i) (u8 0):bH .u8)) _;rw[show(an l (ab i) (u8 0):bH .u8)=l[i.toNat] from e];exact a9.s? phx H B .u8 l[i.toNat]
 cases h
def rT{lo ac n:Int}:b5 lo ac n=true↔0<=lo/\lo<=ac/\ac<=n:=by simp[b5,and_assoc]
def VN{isSlice:Bool}{cap:Nat}{lo ac:Option Int}{ks kh:IntKind}(nZ:n<=cap)(h:b5 (bQ lo 0) (bQ ac n) n=true)(w:World):
  (Instr.sliceBounds isSlice n cap (lo.map λi=>.int ks i) (ac.map λi=>.int kh i) none).run P w=.ok ((bQ lo 0).toNat,(bQ ac n).toNat,cap) w:=by
 obtain⟨O,R,ai⟩:=rT.1 h;cases lo with
 |none=>
  cases ac with
  |none=>simp[Instr.sliceBounds,bQ]
  |some ac =>simp only[bQ]at O R ai ⊢;have bj:0<=ac/\ac<=(cap:Int):=⟨J,J⟩;simp[Instr.sliceBounds,Instr.sliceBound,asIntOf,bj]
 |some lo=>
  cases ac with
  |none =>simp only[bQ]at O R ai ⊢;have bj:0<=lo/\lo<=(n:Int):=⟨O,J⟩;simp[Instr.sliceBounds,Instr.sliceBound,asIntOf,bj]
  |some ac =>simp only[bQ]at O R ai ⊢;have bj:0<=ac/\ac<=(cap:Int):=⟨J,J⟩;have bm:0<=lo/\lo<=((ac.toNat:Nat):Int):=⟨O,J⟩;simp[Instr.sliceBounds,Instr.sliceBound,asIntOf,bj,bm];omega
def auA{o:Option Operand}{g:Nat->av}{B B':Nat->aU}{r:Option Int}(h:(H4 o).a2 g B=some (r,B')){phx:cd}{H:cf}{a:Act}(ae:dE phx H B g a):
  B'=B/\∃k,o.map a.eval=r.map λi=>.int k i:=by
 cases o with
 |none=>cases h;exact⟨rfl,.i64,rfl⟩
 |some x=>
  obtain⟨v,cY,O,h⟩:=aw.cH h;obtain⟨aB,aD⟩:=ys O ae;obtain⟨n,b2,R,h⟩:=aw.cH h;cases h;cases v<;>try(cases R;done)
  rename_i t y;cases t<;>try(cases R;done)
  rename_i k;cases R;exact⟨aB,k,by simp only[PJ,aD.int]⟩
def axD{lo ac:Option Int}{g:Nat->av}{B B':Nat->aU}{v:av}(h:(wW .str (.sc .str l) lo ac none).a2 g B=some (v,B')){tid:TypeId}(aM:P.underlying tid=some .string)
  (ks kh:IntKind) {phx:cd} {H:cf} (w:World) :
  B'=B/\∃c9,(Instr.sliceAt tid (.string ⟨l.toArray⟩) (lo.map λi=>.int ks i) (ac.map λi=>.int kh i) none).run P w=.ok c9 w/\a9 phx H B v c9:=by
 have h:(if b5 (bQ lo 0) (bQ ac (len l)) (len l)=true then some (av.sc .str (sub l (bQ lo 0) (bQ ac (len l))),B) else none)=some (v,B'):=h;split at h
 .rename_i ah
  cases h;have Y:=VN (P:=P) (isSlice:=false) (ks:=ks) (kh:=kh) (bX l.length) ah w;have c3:(⟨l.toArray⟩:ByteArray).size=l.length:=rfl;refine⟨rfl,.string ⟨(sub l (bQ lo 0) (bQ ac l.length)).toArray⟩,?_,a9.Uh _ _ _ _⟩;have az:(⟨l.toArray⟩:ByteArray).extract (bQ lo 0).toNat (bQ ac l.length).toNat=⟨(sub l (bQ lo 0) (bQ ac l.length)).toArray⟩:=by apply ByteArray.ext;simp[sub,ByteArray.data_extract]
  simp[Instr.sliceAt,Instr.slice,run_underlying aM,c3,Y,az]
 cases h
end Yp
namespace Yp
open Go
def nE:=@List.getD_eq_getElem?_getD
def l8:=@Option.map_eq_some_iff
def tT:=@Array.getElem?_eq_getElem
variable {P:Program}
def MQ{d:Option TypeDesc}(h:H3 k d):(∃a b c,d=some (.func a b c))\/(∃a,d=some (.interface a))\/(∃a b,d=some (.map a b))\/∃a,d=some (.pointer a):=by
 unfold H3 at h
 grind
def an4{t:ag}{tid:TypeId}(h:(cT P t).1 tid):∃d,P.underlying tid=some d:=by
 cases t with
 |bool=>exact⟨_,h.1⟩|int k=>exact⟨_,h.1⟩|str=>exact⟨_,h.1⟩
 |sl e=>obtain⟨⟨bd,h,_⟩,_⟩:=h;exact⟨_,h⟩
 |unit=>obtain⟨⟨bd,h,_⟩,_⟩:=h;exact⟨_,h⟩
 |pair a b=>obtain⟨⟨bd,h,_⟩,_⟩:=h;exact⟨_,h⟩
 |ar n e=>obtain⟨⟨bd,h,_⟩,_⟩:=h;exact⟨_,h⟩
 |op k=>rcases MQ h.1 with⟨_,_,_,h⟩|⟨_,h⟩|⟨_,_,h⟩|⟨_,h⟩<;>exact⟨_,h⟩
 |fn l=>rcases MQ h.1 with⟨_,_,_,h⟩|⟨_,h⟩|⟨_,_,h⟩|⟨_,h⟩<;>exact⟨_,h⟩
def awP{sa c7:TypeId}{k k':IntKind}{d:TypeDesc}(ae:P.underlying sa=some d)(aI:P.underlying c7=some (.int k))(n:Int)(w:World):
  (convert sa c7 (.int k' n)).run P w=.ok (.int k (k.wrap n)) w:=by
 unfold convert;simp[run_underlying ae,run_underlying aI];cases d<;>simp[Conv.intToInt]
def KH{w:World}{c:Array Value}{el:TypeId}{fz:Nat×Nat}(h:w.heap[b]?=some (.cells c el fz))(i:Nat):w.cell? ⟨b,i,none⟩=c[i]?:=by simp[World.cell?,h]
def qB(b o n:Nat):(⟨b,o,none⟩:Addr).add n=⟨b,o+n,none⟩:=by
 unfold Addr.add;split
 .simp
 rfl
def Ee{w:World}{c:Array Value}{el:TypeId}{fz:Nat×Nat}(h:w.heap[b]?=some (.cells c el fz))(am:o+n<=c.size):
  (loadCells ⟨b,o,none⟩ n).run P w=.ok (cJ c o n).toArray w:=by
 have:=run_loadCells_list (P:=P) (w:=w) ⟨b,o,none⟩ (cJ c o n) (λj v ao=>by
  rw[qB,KH h];have bi:j<n:=by
   rcases J7 j n with h|h
   .exact h
   have:=qh am;rw[nG J]at ao;cases ao
  rw[wR bi]at ao;exact ao)
 rwa [qh am]at this
def NK{t:ag}{tid:TypeId}(h:(cT P t).1 tid)(w:World):(isAgg tid).run P w=.ok t.isAgg w:=by
 unfold isAgg;cases t with
 |bool=>simp[run_underlying h.1,ag.isAgg]
 |int k=>simp[run_underlying h.1,ag.isAgg]
 |str=>simp[run_underlying h.1,ag.isAgg]
 |sl e=>obtain⟨⟨bd,h,_⟩,_⟩:=h;simp[run_underlying h,ag.isAgg]
 |unit=>obtain⟨⟨bd,h,_⟩,_⟩:=h;simp[run_underlying h,ag.isAgg]
 |pair a b=>obtain⟨⟨bd,h,_⟩,_⟩:=h;simp[run_underlying h,ag.isAgg]
 |ar n e=>obtain⟨⟨bd,h,_⟩,_⟩:=h;simp[run_underlying h,ag.isAgg]
 |op k=>rcases MQ h.1 with⟨_,_,_,h⟩|⟨_,h⟩|⟨_,_,h⟩|⟨_,h⟩<;>simp[run_underlying h,ag.isAgg]
 |fn l=>rcases MQ h.1 with⟨_,_,_,h⟩|⟨_,h⟩|⟨_,_,h⟩|⟨_,h⟩<;>simp[run_underlying h,ag.isAgg]
def afW{t:TypeId}{i:TypeInfo}(h:P.info? t=some i)(w:World):(typeInfo t).run P w=.ok i w:=by unfold typeInfo;simp[h]
def oT{t:ag}{tid:TypeId}(h:(cT P t).1 tid)(w:World):(Go.sizeOf tid).run P w=.ok t.size w:=by obtain⟨i,O,R,_⟩:=nV h;unfold Go.sizeOf;simp[afW O,R]
def agZ{t:ag}(h:t.isAgg=false):t.size=1:=by cases t<;>first|rfl|cases h
def awU{t:ag}{tid:TypeId}(h:(cT P t).1 tid){w:World}{c:Array Value}{el:TypeId}{fz:Nat×Nat}(Y:w.heap[b]?=some (.cells c el fz))(am:o+t.size<=c.size):
  (loadVar tid ⟨b,o,none⟩).run P w=.ok (cB t (cJ c o t.size)) w:=by
 unfold loadVar;cases bc:t.isAgg with
 |true=>simp[NK h,bc,oT h,Ee Y am,cB]
 |false=>
  have O:=agZ bc;have bi:o<c.size:=J;have ah:w.cell? ⟨b,o,none⟩=some c[o]:=by rw[KH Y];exact tT bi
  have ae:cJ c o 1=[c[o]]:=by
   have hl:=qh (c:=c) (o:=o) (n:=1) J;have hg:=wR (c:=c) (o:=o) (n:=1) (i:=0) J;match arF:cJ c o 1,hl,hg with
   |[x],_,hg=>simp[bi]at hg;rw[hg]
  simp[NK h,bc,load,Sem.run,ah,cB,O,ae]
def an3:∀(f:Nat) {t:ag} {l:List Field} {off d:Nat} {d7:ag},(cT P t).2 l off->t.et (gG f)=some (d,d7) ->
  ∃fd,l[f]?=some fd/\fd.offset=off+d/\(cT P d7).1 fd.type:=by
 intro f;induction f with
 |zero=>
  intro t l off d d7 h aO;cases t<;>try(cases aO;done)
  obtain⟨fd,r,rfl,O,R,ai⟩:=h;simp only[gG,ag.et]at aO
  grind
 |succ f ih=>
  intro t l off d d7 h aO;cases t<;>try(cases aO;done)
  rename_i a b;obtain⟨fd,r,rfl,O,R,ai⟩:=h;simp only[gG,ag.et]at aO;cases Y:b.et (gG f) with
  |none=>rw[Y]at aO;cases aO
  |some q=>
   grind
def aaG{t:ag}{tid:TypeId}{d7:ag}(h:(cT P t).1 tid)(aO:t.et (gG f)=some (d,d7)):
  ∃fp fd,P.underlying tid=some (.struct fp)/\fp[f]?=some fd/\fd.offset=d/\(cT P d7).1 fd.type:=by
 have hp:∃a b,t=.pair a b:=by cases f<;>cases t<;>simp only[gG]at aO<;>first|exact⟨_,_,rfl⟩|cases aO
 obtain⟨a,b,rfl⟩:=hp;obtain⟨⟨fp,aM,fd,r,O,R,ai,au⟩,_⟩:=h;have:(cT P (.pair a b)).2 fp.toList 0:=⟨fd,r,O,R,ai,by simpa using au⟩;obtain⟨azs,bj,bm,cW⟩:=an3 f this aO
 grind
def Vy{t:ag}{tid:TypeId}{d7:ag}(h:(cT P t).1 tid)(aO:t.et (gG f)=some (d,d7))(ae:0<d7.size)(b o:Nat)(w:World):
  (Instr.fieldAt tid (.pointer (some ⟨b,o,none⟩)) f).run P w=.ok (.pointer (some ⟨b,o+d,none⟩)) w:=by
 obtain⟨fp,fd,O,R,ai,au⟩:=aaG h aO;have bh:=oT au w;have e3:d7.size≠0:=J;simp[Instr.fieldAt,run_underlying O,R,Instr.sureAddr,fieldPlace,bh,e3,ai,qB]
def r2:∀{p:List nJ} {t t':ag} {o:Nat},t.et p=some (o,t')->t.at p=some t':=by
 intro p;induction p with
 |nil=>intro t t' o h;cases t<;>simp only[ag.et]at h<;>(obtain⟨_,rfl⟩:=h;rfl)
 |cons s p ih=>
  intro t t' o h;cases s with
  |fst=>
   cases t<;>try(cases h;done)
   exact ih h
  |snd=>
   cases t<;>try(cases h;done)
   simp only[ag.et,l8]at h;obtain⟨q,a_,az⟩:=h;cases az;exact ih a_
  |ix i=>
   cases t<;>try(cases h;done)
   simp only[ag.et]at h;split at h
   .simp at h
    obtain⟨q,a_,az⟩:=h;exact ih a_
   cases h
def DN:∀{p q:List nJ} {t dW eF:ag} {lX mR:Nat},t.et p=some (lX,dW)->dW.et q=some (mR,eF)->t.et (p++q)=some (lX+mR,eF):=by
 intro p;induction p with
 |nil=>
  intro q t dW eF lX mR h g;have:t=dW/\lX=0:=by cases t<;>simp only[ag.et,kY,lk]at h<;>exact⟨h.2,h.1.symm⟩
  grind
 |cons s p ih=>
  intro q t dW eF lX mR h g;cases s with
  |fst=>
   cases t<;>try(cases h;done)
   exact ih h g
  |snd=>
   cases t<;>try(cases h;done)
   simp only[ag.et,l8]at h;obtain⟨r,aj,az⟩:=h;cases az;simp only[l9,ag.et,ih aj g,PJ,jJ]
  |ix i=>
   cases t<;>try(cases h;done)
   simp only[ag.et]at h;split at h
   .rename_i ac
    simp at h;obtain⟨r,aj,az⟩:=h;cases az;simp only[l9,ag.et,if_pos ac,ih aj g,PJ,jJ]
   cases h
section
variable {phx:cd} {H:cf} {B:Nat->aU}
def ax7(cs:List α)(n:Nat)(h:cs.length=n):(cs.drop 0).take n=cs:=by subst h;simp
def uT:∀{p:List nJ} {t t':ag} {off:Nat},t.et p=some (off,t')->off+t'.size<=t.size:=by
 intro p;induction p with
 |nil=>
  intro t t' off aO;have:t=t'/\off=0:=by cases t<;>simp only[ag.et,kY,lk]at aO<;>exact⟨aO.2,aO.1.symm⟩
  grind
 |cons s p ih=>
  intro t t' off aO;cases s with
  |fst=>
   cases t<;>try(cases aO;done)
   rename_i a b;have:=ih (t:=a) aO;simp only[ag.size];omega
  |snd=>
   cases t<;>try(cases aO;done)
   rename_i a b;simp only[ag.et,l8]at aO;obtain⟨r,aj,az⟩:=aO;cases az;have:=ih (t:=b) (off:=r.1) (t':=r.2) aj;simp only[ag.size];omega
  |ix i=>
   cases t<;>try(cases aO;done)
   rename_i n e;simp only[ag.et]at aO;split at aO
   .rename_i ac
    simp only[l8]at aO;obtain⟨r,aj,az⟩:=aO;cases az;have:=ih (t:=e) (off:=r.1) (t':=r.2) aj;have R:(i+1)*e.size<=n*e.size:=iT _ ac;rw[f9]at R;simp only[ag.size];omega
   cases aO
def Re(c1 c2:List α)(o n:Nat)(h:o+n<=c1.length):((c1++c2).drop o).take n=(c1.drop o).take n:=by grind
def Rg(c1 c2:List α)(o n:Nat):((c1++c2).drop (c1.length+o)).take n=(c2.drop o).take n:=bf
def amV(cs:List α)(a m o n:Nat)(h:o+n<=m):((((cs.drop a).take m).drop o).take n)=(cs.drop (a+o)).take n:=by rw[List.drop_take,List.take_take,su,Ca J]
def Av{l:List α}{d:α}(h:i<l.length):ij l i=some (an l i d):=by
 simp only[ij,an,nE]
 grind
def R8:∀{p:List nJ} {pv u:av} {t t':ag} {off:Nat} {cs:List Value},fh phx H B pv t cs->t.et p=some (off,t')->jc pv p=some u ->
  fh phx H B u t' ((cs.drop off).take t'.size):=by
 intro p;induction p with
 |nil=>
  intro pv u t t' off cs h aO hg;have:t=t'/\off=0:=by cases t<;>simp only[ag.et,kY,lk]at aO<;>exact⟨aO.2,aO.1.symm⟩
  obtain⟨rfl,rfl⟩:=this;have:u=pv:=by cases pv<;>simp only[jc,kY]at hg<;>exact hg.symm
  subst this;rw[ax7 cs _ h.length];exact h
 |cons s p ih=>
  intro pv u t t' off cs h aO hg;cases s with
  |fst=>
   cases t<;>try(cases aO;done)
   rename_i a b;have bV:=uT (t:=a) aO;cases pv<;>try(cases hg;done)
   .rename_i s x
    obtain⟨e4,hx⟩:=h;subst e4;obtain⟨c1,c2,rfl,O,R⟩:=aJ.mU.1 hx;rw[Re _ _ _ _ (by rw[O.length];exact bV)];exact ih (pv:=.sc a x.1) (t:=a) ⟨rfl,O⟩ aO hg
   rename_i w5 Jj;obtain⟨c1,c2,rfl,O,R⟩:=h;rw[Re _ _ _ _ (by rw[O.length];exact bV)];exact ih O aO hg
  |snd=>
   cases t<;>try(cases aO;done)
   rename_i a b;simp only[ag.et,l8]at aO;obtain⟨r,aj,az⟩:=aO;cases az;cases pv<;>try(cases hg;done)
   .rename_i s x
    obtain⟨e4,hx⟩:=h;subst e4;obtain⟨c1,c2,rfl,O,R⟩:=aJ.mU.1 hx;rw[<- O.length,Rg];exact ih (pv:=.sc b x.2) (t:=b) ⟨rfl,R⟩ aj hg
   rename_i w5 Jj;obtain⟨c1,c2,rfl,O,R⟩:=h;rw[<- O.length,Rg];exact ih R aj hg
  |ix i=>
   cases t<;>try(cases aO;done)
   rename_i n e;simp only[ag.et]at aO;split at aO
   .rename_i ac
    simp only[l8]at aO;obtain⟨r,aj,az⟩:=aO;cases az;have bV:=uT (t:=e) (off:=r.1) (t':=r.2) aj;cases pv<;>try(cases hg;done)
    rename_i s x;obtain⟨e4,hx⟩:=h;subst e4;obtain⟨O,R,ai⟩:=aJ.vH.1 hx;rw[<- amV cs (i*e.size) e.size r.1 r.2.size bV];refine ih (pv:=.sc e (an (x:List e.aG) i e.zero)) (t:=e) ⟨rfl,?_⟩ aj hg;have bi:i<(x:List e.aG).length:=by have au:(x:List e.aG).length=n:=O;omega
    refine ai i _ ?_;exact Av bi
   cases aO
end
end Yp
namespace Yp
open Go
variable {P:Program}
section
variable {K:Kp} {w0 w:World} {phx:cd} {M:Nat->Prop} {B B':Nat->aU} {H:cf}
def BL{pv:av}{t:ag}{cs:List Value}(h:fh phx H B pv t cs):a9 phx H B (qq t pv) (cB t cs):=by
 cases pv with
 |two u v =>have bc:=h.asA;refine⟨bc,cs,h,?_⟩;simp[cB,bc]
 |sc s x =>obtain⟨rfl,ah⟩:=h;exact⟨cs,ah,rfl⟩
 |agg t a=>exact h.elim
 |tup a=>exact h.elim
 |bad=>trivial
 |_=>
  obtain⟨bc,v,rfl,_,aj⟩:=h;have:cB t [v]=v:=by simp[cB,bc]
  rw[this];exact aj
def aoL:∀{p:List nJ} {s:ag} {x:s.aG} {u:av},jc (.sc s x) p=some u->∃cv vj,u=.sc cv vj:=by
 intro p;induction p with
 |nil=>intro s x u h;simp only[jc,kY]at h;exact⟨s,x,h.symm⟩
 |cons q p ih=>
  intro s x u h;cases q<;>cases s<;>try(cases h;done)
  .exact ih h
  .exact ih h
  exact ih h
def ay7{p:List nJ}{s t:ag}{x:s.aG}{u:av}(h:jc (.sc s x) p=some u):qq t u=u:=by obtain⟨cv,vj,rfl⟩:=aoL h;rfl
def Vv{e t:ag}{l:List e.aG}{p:List nJ}{pv:av}{c:Array Value}(eI:fi H e l c o)(ac:i<l.length)
  (aO:e.et p=some (off,t)) (hg:jc (.sc e (an l i e.zero)) p=some pv) :
  o+i*e.size+off+t.size<=c.size/\a9 phx H B pv (cB t (cJ c (o+i*e.size+off) t.size)):=by
 have bV:=uT aO;have O:(i+1)*e.size<=l.length*e.size:=iT _ ac;rw[f9]at O;have R:=eI.1;refine⟨J,?_⟩;have ai:=eI.2 i _ (Av (d:=e.zero) ac);have au:=R8 (phx:=phx) (H:=H) (B:=B) (pv:=.sc e (an l i e.zero)) (t:=e) ⟨rfl,ai⟩ aO hg;rw[Ei _ _ _ _ _ bV]at au;have a4:=BL au
 rwa [ay7 hg]at a4
def adb{t:ag}{tid:TypeId}(ht:(cT P t).1 tid){g:Nat->av}{a v:av}{ci:Value}(h:(yj t a).a2 g B=some (v,B'))(hm:bK K w0 phx M B w)
  (aj:a9 phx (view w M) B a ci):B'=B/\∃r,(Instr.loadAt tid ci).run P w=.ok r w/\a9 phx (view w M) B v r:=by
 have key:∀{b o:Nat} {c:Array Value} {el:TypeId} {fz:Nat×Nat} {q:Nat},w.heap[b]?=some (.cells c el fz)->q+t.size<=c.size ->
   (Instr.loadAt tid (.pointer (some ⟨b,q,none⟩))).run P w=.ok (cB t (cJ c q t.size)) w:=by
  intro b o c el fz q Y a_;simp[Instr.loadAt,Instr.sureAddr,awU ht Y a_]
 cases a with
 |ptr id p=>
  simp only[yj,aw.a2]at h;have Y:=hm.blks id;have ae:bJ phx (view w M) B (.ptr id p) ci:=aj;simp only[bJ]at ae;generalize aB:B id=bl at h Y ae;cases bl<;>try(cases h;done)
  rename_i rt u;obtain⟨b,o,n,off,t',O,R,rfl⟩:=ae;obtain⟨b',dz,c,el,fz,bj,bm,cW,fU,k7,sT⟩:=Y;rw[O]at bj;cases bj;simp only[r2 R]at h;cases mL:jc u p with
  |none=>rw[mL]at h;cases h
  |some pv=>
   simp only[mL]at h;cases g5:ag.is t' t with
   |false=>rw[g5]at h;cases h
   |true =>rw[g5]at h;obtain⟨rfl,rfl⟩:=h;have:=eV g5;subst this;have bV:=uT R;refine⟨rfl,_,key (o:=0) bm J,?_⟩;have au:=R8 fU R mL;rw[Ei _ _ _ _ _ bV]at au;exact BL au
 |ipt e l i p=>
  have ae:bJ phx (view w M) B (.ipt e l i p) ci:=aj;obtain⟨ac,b,o,cap,off,t',O,R,rfl⟩:=ae;simp only[yj,r2 R]at h;cases mL:jc (.sc e (an l i e.zero)) p with
  |none=>rw[mL]at h;cases h
  |some pv=>
   simp only[mL]at h;cases g5:ag.is t' t with
   |false=>rw[g5]at h;cases h
   |true=>
    rw[g5]at h;obtain⟨rfl,rfl⟩:=h;have:=eV g5;subst this;obtain⟨a',cap',bG,ca,cr,du⟩:=aJ.iL.1 O;simp at bG;rcases du with du|⟨b',dz,c,el,fz,dG,gz,le,uW⟩
    .subst du;cases ac
    rw[<- bG.1]at dG;cases dG;obtain⟨ek,e8⟩:=Vv (phx:=phx) (B:=B) (H:=view w M) ⟨le,uW⟩ ac R mL;exact⟨rfl,_,key (o:=0) (kd.1 gz).2 ek,e8⟩
 |opt id i p=>
  simp only[yj,aw.a2]at h;have Y:=hm.blks id;have ae:bJ phx (view w M) B (.opt id i p) ci:=aj;simp only[bJ]at ae;generalize aB:B id=bl at h Y ae;cases bl<;>try(cases h;done)
  .rename_i e l
   obtain⟨ac,b,o,n,off,t',O,R,rfl⟩:=ae;rcases Y.2 with⟨bj,_⟩|⟨b',dz,c,el,fz,bj,bm,cW,_⟩
   .rw[bj]at O;cases O
   rw[O]at bj;cases bj;simp only[r2 R]at h;cases mL:jc (.sc e (an l i e.zero)) p with
   |none=>rw[mL]at h;cases h
   |some pv=>
    simp only[mL]at h;cases g5:ag.is t' t with
    |false=>rw[g5]at h;cases h
    |true =>rw[g5]at h;obtain⟨rfl,rfl⟩:=h;have:=eV g5;subst this;obtain⟨ek,e8⟩:=Vv (phx:=phx) (B:=B) (H:=view w M) cW ac R mL;exact⟨rfl,_,key (o:=0) bm ek,e8⟩
  rename_i e l;obtain⟨ac,b,o,n,off,t',O,R,rfl⟩:=ae;rcases Y.2 with⟨bj,_⟩|⟨b',dz,c,el,fz,bj,bm,cW⟩
  .rw[bj]at O;cases O
  rw[O]at bj;cases bj;simp only[r2 R]at h;cases mL:jc (.sc e (an l i e.zero)) p with
  |none=>rw[mL]at h;cases h
  |some pv=>
   simp only[mL]at h;cases g5:ag.is t' t with
   |false=>rw[g5]at h;cases h
   |true =>rw[g5]at h;obtain⟨rfl,rfl⟩:=h;have:=eV g5;subst this;obtain⟨ek,e8⟩:=Vv (phx:=phx) (B:=B) (H:=view w M) cW ac R mL;exact⟨rfl,_,key (o:=0) (kd.1 bm).2 ek,e8⟩
 |_=>cases h
end
end Yp
namespace Yp
open Go
def iS:=@List.take_of_length_le
def kf:=@List.length_set
def xm:=@List.ext_getElem?
def qA:=@Nat.add_sub_cancel_left
def Fh:=@Array.getElem?_modify
def B_:=@List.getElem?_set
def Fq:=@List.getElem?_drop
def PI:=@Nat.lt_or_gt_of_ne
variable {P:Program}
structure JT(w w':World)(b:Nat)(ob:Obj):Prop where
 os:w'.os=w.os
 tape:w'.tape=w.tape
 output:w'.output=w.output
 size:w'.heap.size=w.heap.size
 jf:w'.heap[b]?=some ob
 other:∀j,j≠b->w'.heap[j]?=w.heap[j]?
def h'(cs:List Value)(o:Nat)(vs:List Value):List Value:=cs.take o++vs++cs.drop (o+vs.length)
def Ex{cs:List Value}{vs:List Value}(h:o+vs.length<=cs.length):(h' cs o vs).length=cs.length:=by simp[h'];omega
def yN{cs:List Value}{vs:List Value}(h:o+vs.length<=cs.length)(i:Nat):
  (h' cs o vs)[i]?=if i<o then cs[i]? else if i<o+vs.length then vs[i-o]? else cs[i]?:=by
 unfold h'
 grind
def IC{b:Nat}{el:TypeId}{fz:Nat×Nat}{o:Nat}:∀(vs:List Value) (i:Nat) (c:Array Value) (w:World),w.heap[b]?=some (.cells c el fz)->iA c fz ->
  o+i+vs.length<=c.size->(∀v∈vs,v.oneCell'=true) ->
  ∃w',(storeCells ⟨b,o,none⟩ vs i).run P w=.ok () w'/\∃cN:Array Value,JT w w' b (.cells cN el fz)/\cN.toList=h' c.toList (o+i) vs
 |[],i,c,w,Y,_,_,_=>⟨w,rfl,c,⟨rfl,rfl,rfl,rfl,Y,λ_ _=>rfl⟩,by simp[h']⟩
 |v::vs,i,c,w,Y,hf,am,O=>by
  have bi:o+i<c.size:=by simp at am;omega
  have hcell:w.cell? ⟨b,o+i,none⟩=some c[o+i]:=by rw[KH Y];exact tT bi
  have GH:=hf.no;have x7:w.frozen? ⟨b,o+i,none⟩=false:=by have:=GH (o+i) bi;simp only[World.frozen?,Y];simp;omega
  have k8:(w.setCell ⟨b,o+i,none⟩ v).heap[b]?=some (.cells (c.setIfInBounds (o+i) v) el fz):=by simp[World.setCell,Fh,Y]
  have e4:(store ((⟨b,o,none⟩:Addr).add i) v).run P w=.ok () (w.setCell ⟨b,o+i,none⟩ v):=by rw[qB,run_store P w _ v _ (O v bf),hcell,x7];rfl
  obtain⟨w',R,cN,ai,au⟩:=IC (o:=o) vs (i+1) (c.setIfInBounds (o+i) v) (w.setCell ⟨b,o+i,none⟩ v) k8
   (hf.same bf) (by grind) (λu aM=>O u (by grind))
  refine⟨w',?_,cN,?_,?_⟩
  .unfold storeCells
   simp[e4,R]
  .refine⟨ai.os,ai.tape,ai.output,ai.size.trans bf,ai.jf,λj ao=>(ai.other j ao).trans ?_⟩
   simp[World.setCell,Fh,zc ao]
  rw[au];have lw:o+i+(v::vs).length<=c.toList.length:=by simpa using am
  apply xm;intro j;rw[yN (by grind),yN lw]
  grind
def ahd{c1 c2:List Value}{vs:List Value}(h:o+vs.length<=c1.length):h' (c1++c2) o vs=h' c1 o vs++c2:=by
 unfold h'
 grind
def ahe{c1 c2:List Value}{vs:List Value}:h' (c1++c2) (c1.length+o) vs=c1++h' c2 o vs:=by unfold h';rw[List.take_append,List.drop_append,iS J];simp[jJ,qA]
def ahc{cs vs:List Value}(h:vs.length=cs.length):h' cs 0 vs=vs:=by simp[h',h]
def I5{cs vs:List Value}(h:o+vs.length<=cs.length)(aI:a+n<=o\/o+vs.length<=a):((h' cs o vs).drop a).take n=(cs.drop a).take n:=by
 apply xm;intro j;simp only[JO,Fq];split
 .rename_i ao
  rw[yN h];split
  .rfl
  split
  .omega
  rfl
 rfl
def Oh{cs vs:List Value}(h:a+o+vs.length<=cs.length)(aI:o+vs.length<=n):((h' cs (a+o) vs).drop a).take n=h' ((cs.drop a).take n) o vs:=by
 apply xm;intro j;have hl:o+vs.length<=((cs.drop a).take n).length:=fS;rw[yN hl];simp only[JO,Fq];rw[yN h]
 grind
section
variable {phx:cd} {H:cf} {B:Nat->aU}
def T4{l:List α}{x:α}(h:i<l.length):ij (cg l i x) i=some x:=by simp[ij,cg,h]
def T3{l:List α}{x:α}(h:j≠i):ij (cg l i x) j=ij l j:=by simp[ij,cg,B_,zc h]
def VH:∀{p:List nJ} {pv u Ie:av} {t t':ag} {off:Nat} {cs cu:List Value},fh phx H B pv t cs->t.et p=some (off,t')->mX pv p u=some Ie->fh phx H B u t' cu ->
  fh phx H B Ie t (h' cs off cu):=by
 intro p;induction p with
 |nil=>
  intro pv u Ie t t' off cs cu h aO ae aM;have:t=t'/\off=0:=by cases t<;>simp only[ag.et,kY,lk]at aO<;>exact⟨aO.2,aO.1.symm⟩
  obtain⟨rfl,rfl⟩:=this;have:u=Ie:=by cases pv<;>simp only[mX,kY]at ae<;>exact ae
  subst this;rw[ahc (by rw[aM.length,h.length])];exact aM
 |cons s p ih=>
  intro pv u Ie t t' off cs cu h aO ae aM;cases s with
  |fst=>
   cases t<;>try(cases aO;done)
   rename_i a b;have bV:=uT (t:=a) aO;cases pv<;>try(cases ae;done)
   .rename_i s x
    obtain⟨e4,hx⟩:=h;subst e4;obtain⟨c1,c2,rfl,O,R⟩:=aJ.mU.1 hx;simp only[mX,l8]at ae;obtain⟨q,a_,rfl⟩:=ae;rw[ahd (by rw[aM.length,O.length];exact bV)];exact⟨_,_,rfl,ih (pv:=.sc a x.1) (t:=a) ⟨rfl,O⟩ aO a_ aM,rfl,R⟩
   rename_i w5 Jj;obtain⟨c1,c2,rfl,O,R⟩:=h;simp only[mX,l8]at ae;obtain⟨q,a_,rfl⟩:=ae;rw[ahd (by rw[aM.length,O.length];exact bV)];exact⟨_,_,rfl,ih O aO a_ aM,R⟩
  |snd=>
   cases t<;>try(cases aO;done)
   rename_i a b;simp only[ag.et,l8]at aO;obtain⟨r,aj,az⟩:=aO;cases az;cases pv<;>try(cases ae;done)
   .rename_i s x
    obtain⟨e4,hx⟩:=h;subst e4;obtain⟨c1,c2,rfl,O,R⟩:=aJ.mU.1 hx;simp only[mX,l8]at ae;obtain⟨q,a_,rfl⟩:=ae;rw[<- O.length,ahe];exact⟨_,_,rfl,⟨rfl,O⟩,ih (pv:=.sc b x.2) (t:=b) ⟨rfl,R⟩ aj a_ aM⟩
   rename_i w5 Jj;obtain⟨c1,c2,rfl,O,R⟩:=h;simp only[mX,l8]at ae;obtain⟨q,a_,rfl⟩:=ae;rw[<- O.length,ahe];exact⟨_,_,rfl,O,ih R aj a_ aM⟩
  |ix i=>
   cases t<;>try(cases aO;done)
   rename_i n e;simp only[ag.et]at aO;split at aO
   .rename_i ac
    simp only[l8]at aO;obtain⟨r,aj,az⟩:=aO;cases az;have bV:=uT (t:=e) (off:=r.1) (t':=r.2) aj;cases pv<;>try(cases ae;done)
    rename_i s x;obtain⟨e4,hx⟩:=h;subst e4;obtain⟨O,R,ai⟩:=aJ.vH.1 hx;have O:(x:List e.aG).length=n:=O;simp only[mX]at ae;generalize a_:mX (.sc e (an (x:List e.aG) i e.zero)) p u=q at ae;cases q with
    |none=>cases ae
    |some q=>
     simp only[l8]at ae;obtain⟨y,bs,rfl⟩:=ae;have bi:i<(x:List e.aG).length:=J;have acy:=aM.length;have lT:(i+1)*e.size<=n*e.size:=iT _ ac;rw[f9]at lT;have hi:i*e.size+r.1+cu.length<=cs.length:=J;have au:=ih (pv:=.sc e (an (x:List e.aG) i e.zero)) (t:=e) ⟨rfl,ai i _ (Av bi)⟩ aj a_ aM;have a4:=se bs au;refine⟨rfl,(aJ.Cg (l:=cg (x:List e.aG) i y)).2 ⟨(kf (as:=(x:List e.aG))).trans O,by rw[Ex hi,R],λj z ao => ?_⟩⟩;by_cases dS:j=i
     .subst dS
      rw[T4 bi]at ao;cases ao;rw[Oh hi J];exact a4
     have ao:ij (x:List e.aG) j=some z:=(T3 (l:=(x:List e.aG)) dS).symm.trans ao;rw[I5 hi]
     .exact ai j z ao
     rcases PI dS with h|h
     .have:=iT e.size (show j+1<=i from h)
      rw[f9]at this;left;omega
     have:=iT e.size (show i+1<=j from h);rw[f9]at this;right;omega
   cases aO
end
end Yp
namespace Yp
open Go
variable {P:Program}
section
variable {K:Kp} {w0 w:World} {phx:cd} {M:Nat->Prop} {B B':Nat->aU} {g:Nat->av}
def h1.slice{id:Nat}{e:ag}{len:Nat}{v:Value}(h:h1 phx id e off len v):∃a c,v=.slice a len c:=by rcases h with⟨rfl,a,rfl⟩|⟨b,o,n,cap,_,rfl,_⟩<;>exact⟨_,_,rfl⟩
def Lh{t:ag}{v:av}{ci:Value}{H:cf}(h:(sO t v).a2 g B=some ((),B'))(aj:a9 phx H B v ci):B'=B/\∃cu,ci.cells.toList=cu/\fh phx H B (wX v) t cu:=by
 cases v<;>try(cases h;done)
 case kb b =>obtain⟨ac,aB⟩:=ld h;have:=eV ac;subst this;simp only[a9]at aj;subst aj;exact⟨aB,[.bool b],rfl,rfl,aJ.oA.2 rfl⟩
 case sc s x =>obtain⟨ac,aB⟩:=ld h;have:=eV ac;subst this;obtain⟨cs,O,rfl⟩:=aj;exact⟨aB,cs,by rw[HH O],rfl,O⟩
 case nil=>
  cases t<;>try(cases h;done)
  cases h;simp only[a9]at aj;subst aj;exact⟨rfl,_,rfl,rfl,_,rfl,rfl,rfl⟩
 case csl e l =>obtain⟨ac,aB⟩:=ld h;have:=eV ac;subst this;obtain⟨a,O,R⟩:=aj;exact⟨aB,[ci],by subst O;rfl,rfl,ci,rfl,by subst O;rfl,a,O,R⟩
 case agg s x =>obtain⟨ac,aB⟩:=ld h;have:=eV ac;subst this;obtain⟨bc,cs,O,rfl⟩:=aj;exact⟨aB,cs,rfl,O⟩
 case own id eP=>
  simp only[sO,aw.a2]at h;have fI:bJ phx H B (.own id eP) ci:=aj;have ae:=fI;simp only[bJ]at ae;generalize aB:B id=bl at h ae;cases bl<;>try(cases h;done)
  all_goals
   obtain⟨ac,nX⟩:=ld h;have:=eV ac;subst this;obtain⟨a,c,rfl⟩:=ae.1.slice;exact⟨nX,_,rfl,rfl,_,rfl,rfl,fI⟩
 case osl id off n=>
  simp only[sO,aw.a2]at h;have fI:bJ phx H B (.osl id off n) ci:=aj;have ae:=fI;simp only[bJ]at ae;generalize aB:B id=bl at h ae;cases bl<;>try(cases h;done)
  case box t' v=>
   cases t'<;>try(cases h;done)
   obtain⟨ac,nX⟩:=ld h;have:=eV ac;subst this;obtain⟨a,c,rfl⟩:=ae.2.2.slice;exact⟨nX,_,rfl,rfl,_,rfl,rfl,fI⟩
  all_goals
   obtain⟨ac,nX⟩:=ld h;have:=eV ac;subst this;obtain⟨a,c,rfl⟩:=(by first|exact ae.2.slice|exact ae.2.1.slice:∃a c,ci=.slice a n c);exact⟨nX,_,rfl,rfl,_,rfl,rfl,fI⟩
 case ptr id p=>
  simp only[sO,aw.a2]at h;have fI:bJ phx H B (.ptr id p) ci:=aj;have ae:=fI;simp only[bJ]at ae;generalize aB:B id=bl at h ae;cases bl<;>try(cases h;done)
  obtain⟨ac,nX⟩:=ld h;have:=eV ac;subst this;obtain⟨b,o,n,off,t',_,_,rfl⟩:=ae;exact⟨nX,_,rfl,rfl,_,rfl,by simp[Value.oneCell'],fI⟩
 case mpp id=>
  simp only[sO,aw.a2]at h;have fI:bJ phx H B (.mpp id) ci:=aj;have ae:=fI;simp only[bJ]at ae;generalize aB:B id=bl at h ae;cases bl<;>try(cases h;done)
  obtain⟨ac,nX⟩:=ld h;have:=eV ac;subst this;obtain⟨b,_,rfl⟩:=ae;exact⟨nX,_,rfl,rfl,_,rfl,by simp[Value.oneCell'],fI⟩
 case ifc i s x =>obtain⟨ac,aB⟩:=ld h;have:=eV ac;subst this;have fI:bJ phx H B (.ifc i s x) ci:=aj;obtain⟨cs,O,rfl⟩:=aj;exact⟨aB,_,rfl,rfl,_,rfl,by simp[Value.oneCell'],fI⟩
 case clo f dU cZ=>
  obtain⟨ac,aB⟩:=ld h;have ht:t.isAgg=false:=by
   unfold acV at ac;split at ac
   .rfl
   .rfl
   cases ac
  have fI:bJ phx H B (.clo f dU cZ) ci:=aj;obtain⟨vs,O,rfl⟩:=aj;exact⟨aB,_,rfl,by simp only[wX];exact⟨ht,_,rfl,by simp[Value.oneCell'],fI⟩⟩
def afV{t:ag}{tid:TypeId}(h:(cT P t).1 tid){c:Array Value}{el:TypeId}{fz:Nat×Nat}(Y:w.heap[b]?=some (.cells c el fz))(hf:iA c fz)
  {v:Value} {cu:List Value} (aD:v.cells.toList=cu) (hl:cu.length=t.size) (O:∀v∈cu,v.oneCell'=true) (am:o+t.size<=c.size) :
  ∃w',(storeVar tid ⟨b,o,none⟩ v).run P w=.ok () w'/\∃cN:Array Value,JT w w' b (.cells cN el fz)/\cN.toList=h' c.toList o cu:=by
 obtain⟨w',R,cN,ai,au⟩:=IC (P:=P) (b:=b) (el:=el) (fz:=fz) (o:=o) cu 0 c w Y hf J O;refine⟨w',?_,cN,ai,by simpa using au⟩;unfold storeVar;have c3:v.cells.size=t.size:=by rw[<- hl,<- aD];simp
 simp[oT h,c3,aD,R]
theorem tp(c:Array Value)(o n:Nat):cJ c o n=(c.toList.drop o).take n:=rfl
def fi.put{H:cf}{e:ag}{l:List e.aG}{c cN:Array Value}{y:e.aG}{cu:List Value}(h:fi H e l c o)(ac:i<l.length)(S8:off+cu.length<=e.size)
  (ah:cN.toList=h' c.toList (o+i*e.size+off) cu) (bs:aJ H e y (h' (cJ c (o+i*e.size) e.size) off cu)):cN.size=c.size/\fi H e (cg l i y) cN o:=by
 have O:=h.1;have lT:(i+1)*e.size<=l.length*e.size:=iT _ ac;rw[f9]at lT;have hi:o+i*e.size+off+cu.length<=c.toList.length:=fS;have c3:cN.size=c.size:=by have:=congrArg List.length ah;rw[Ex hi]at this;omega
 refine⟨c3,by simp only[cg,kf];omega,λj z ao => ?_⟩;by_cases dS:j=i
 .subst dS
  rw[T4 ac]at ao;cases ao;rw[tp,ah,Oh J S8];exact bs
 rw[T3 dS]at ao;rw[tp,ah,I5 hi]
 .exact h.2 j z ao
 rcases PI dS with h|h
 .have:=iT e.size (show j+1<=i from h)
  grind
 have:=iT e.size (show i+1<=j from h)
 grind
def axX{t:ag}{tid:TypeId}(ht:(cT P t).1 tid){a v r:av}{ci y0:Value}(h:(V1 t a v).a2 g B=some (r,B'))(hm:bK K w0 phx M B w)
  (eb:a9 phx (view w M) B a ci) (LW:a9 phx (view w M) B v y0) :
  r=.undef/\∃w' aA,(Instr.storeAt tid ci y0).run P w=.ok () w'/\bK K w0 phx aA B' w'/\co phx M B w phx aA B' w':=by
 cases a with
 |ptr id p=>
  simp only[V1,aw.a2]at h;have Y:=hm.blks id;have ae:bJ phx (view w M) B (.ptr id p) ci:=eb;simp only[bJ]at ae;generalize aB:B id=bl at h Y ae;cases bl<;>try(cases h;done)
  rename_i rt u;obtain⟨b,o,n,off,t',O,R,rfl⟩:=ae;obtain⟨b',dz,c,el,fz,bj,bm,cW,fU,k7,sT⟩:=Y;rw[O]at bj;cases bj;simp only[r2 R]at h;generalize mL:mX u p (wX v)=q at h;cases q with
  |none=>cases h
  |some pv=>
   simp only at h;cases g5:ag.is t' t with
   |false=>rw[g5]at h;cases h
   |true=>
    rw[g5]at h;have:=eV g5;subst this;obtain⟨_,cY,hf,bB⟩:=aw.cH h;obtain⟨rfl,cu,nl,hT⟩:=Lh hf LW;cases bB;have bV:=uT R;obtain⟨w',bu,cN,hp,mK⟩:=afV (P:=P) (w:=w) ht (o:=o+off) bm k7 nl hT.length hT.one J;have Sx:=hT.length;have c3:cN.size=c.size:=by have:=congrArg List.length mK;rw[Ex fS]at this;omega
    obtain⟨iI,j7⟩:=hm.put (id:=id) (x:=(b,o,c.size)) (w':=w') (by rw[aB];rfl) O sT hp.os hp.tape hp.output hp.size hp.other (.box rt pv) (by rw[aB];rfl) λaz=>by refine⟨b,o,cN,el,fz,by rw[O,c3],hp.jf,J,?_,k7.same J,sT⟩;have sW:=az.b6 (VH fU R mL hT);rw[tp,mK,Oh fS J];exact sW
    exact⟨rfl,w',M,by simp[Instr.storeAt,Instr.sureAddr,bu],iI,j7⟩
 |opt id i p=>
  obtain⟨x,cY,hx,h⟩:=aw.cH h;obtain⟨cu,rfl,fR,v8,x3,_,_,nl⟩:=Bs hx hm LW;have nl:=nl rfl;simp only[aw.a2]at h;have Y:=v8.blks id;have ae:bJ phx (view w fR) cY (.opt id i p) ci:=x3.p eb;simp only[bJ]at ae;generalize aB:cY id=bl at h Y ae;cases bl<;>try(cases h;done)
  rename_i e l;obtain⟨ac,b,o,n,off,t',O,R,rfl⟩:=ae;rcases Y with⟨dN,⟨bj,_⟩|⟨b',dz,c,el,fz,bj,bm,cW,fU,k7⟩⟩
  .rw[bj]at O;cases O
  rw[O]at bj;cases bj;simp only[r2 R]at h;cases g5:ag.is t' t with
  |false=>rw[g5]at h;cases h
  |true=>
   rw[g5]at h;have:=eV g5;subst this;generalize mL:mX (.sc e (an l i e.zero)) p (.sc t' x)=q at h;cases q with
   |none=>cases h
   |some pv=>
    simp only at h;generalize bs:iM e pv=y at h;cases y with
    |none=>cases h
    |some y=>
     cases h;have bV:=uT R;have eZ:=nl.length;have g31:=cW.1;have lT:(i+1)*e.size<=l.length*e.size:=iT _ ac;rw[f9]at lT;obtain⟨w',bu,cN,hp,mK⟩:=afV (P:=P) (w:=w) ht (o:=o+i*e.size+off) (v:=cB t' cu) bm fU (by rw[HH nl]) eZ nl.one J;have uz:=cW.2 i _ (Av (d:=e.zero) ac);have hT:=VH (phx:=phx) (H:=view w fR) (B:=cY) (pv:=.sc e (an l i e.zero)) (t:=e) ⟨rfl,uz⟩ R mL (cu:=cu) ⟨rfl,nl⟩;have ar5:=se bs hT;obtain⟨c3,eI⟩:=cW.put ac J mK ar5;obtain⟨iI,j7⟩:=v8.put (id:=id) (x:=(b,o,c.size)) (w':=w') (by rw[aB];rfl) O k7 hp.os hp.tape hp.output hp.size hp.other (.ob e (cg l i y)) (by rw[aB];exact⟨rfl,by simp[cg]⟩) λaz=>by exact⟨dN,.inr ⟨b,o,cN,el,fz,by rw[O,c3],hp.jf,eI.mono az.vw,fU.same c3,k7⟩⟩
     exact⟨rfl,w',fR,by simp[Instr.storeAt,Instr.sureAddr,bu],iI,x3.trans j7⟩
 |_=>cases h
end
end Yp
namespace Yp
open Go
def om:=@Option.some.inj
def xj:=@Nat.add_zero
variable {P:Program}
section
variable {K:Kp} {w0 w:World} {phx:cd} {M:Nat->Prop} {B B':Nat->aU} {g:Nat->av}
def P0:∀{f:Nat} {t d7:ag},t.at (gG f)=some d7->∃d,t.et (gG f)=some (d,d7):=by
 intro f;induction f with
 |zero=>
  intro t d7 h;cases t<;>try(cases h;done)
  rename_i a b;have:a=d7:=by cases a<;>exact om h
  subst this;exact⟨0,by cases a<;>rfl⟩
 |succ f ih=>
  intro t d7 h;cases t<;>try(cases h;done)
  rename_i a b;obtain⟨d,aI⟩:=ih (t:=b) h;exact⟨a.size+d,by simp only[gG,ag.et,aI,PJ]⟩
def RH{t' bR:Option ag}(h:CK t' bR f=true):∃s d d7,t'=some s/\bR=some s/\s.et (gG f)=some (d,d7)/\0<d7.size:=by
 unfold CK at h;split at h
 .rename_i a b
  simp at h;obtain⟨O,R⟩:=h;have:=eV O;subst this;split at R
  .rename_i d7 aqD
   obtain⟨d,aI⟩:=P0 aqD;exact⟨a,d,d7,rfl,rfl,aI,by simpa using R⟩
  cases R
 cases h
def gU{c:Bool}{x:aw α}{r:α×(Nat->aU)}(h:(bif c then x else .fail:aw α).a2 g B=some r):c=true/\x.a2 g B=some r:=by
 cases c with
 |true=>exact⟨rfl,h⟩
 |false=>cases h
def i?{c:Bool}{x:aw α}{r:α×(Nat->aU)}(h:(aw.chk c x).a2 g B=some r):c=true/\x.a2 g B=some r:=by
 simp only[aw.a2]at h
 grind
def anQ{bR:Option ag}{tid:TypeId}(ht:∀t,bR=some t->(cT P t).1 tid){a r:av}{ci:Value}(h:(La bR f a).a2 g B=some (r,B'))
  (eb:a9 phx (view w M) B a ci):B'=B/\∃v,(Instr.fieldAt tid ci f).run P w=.ok v w/\a9 phx (view w M) B r v:=by
 cases a with
 |ptr id p=>
  simp only[La,aw.a2]at h;have ae:bJ phx (view w M) B (.ptr id p) ci:=eb;simp only[bJ]at ae;generalize aB:B id=bl at h ae;cases bl<;>try(cases h;done)
  obtain⟨b,o,n,off,t',O,R,rfl⟩:=ae;replace h:=gU h;obtain⟨ah,h⟩:=h;cases h;obtain⟨s,d,d7,e1,aT,dI,gX⟩:=RH ah;rw[r2 R]at e1;cases e1;refine⟨rfl,_,Vy (ht _ aT) dI gX b (o+off) w,?_⟩;simp only[a9,d6,bJ,aB];exact⟨b,o,n,off+d,d7,O,DN R dI,by rw[jJ]⟩
 |ipt e l i p =>obtain⟨ac,b,o,cap,off,t',O,R,rfl⟩:=(eb:bJ phx (view w M) B (.ipt e l i p) ci);replace h:=gU h;obtain⟨ah,h⟩:=h;cases h;obtain⟨s,d,d7,e1,aT,dI,gX⟩:=RH ah;rw[r2 R]at e1;cases e1;exact⟨rfl,_,Vy (ht _ aT) dI gX b _ w,ac,b,o,cap,off+d,d7,O,DN R dI,by rw[jJ]⟩
 |opt id i p=>
  simp only[La,aw.a2]at h;have ae:bJ phx (view w M) B (.opt id i p) ci:=eb;simp only[bJ]at ae;generalize aB:B id=bl at h ae;cases bl<;>try(cases h;done)
  all_goals
   obtain⟨ac,b,o,n,off,t',O,R,rfl⟩:=ae;replace h:=gU h;obtain⟨ah,h⟩:=h;cases h;obtain⟨s,d,d7,e1,aT,dI,gX⟩:=RH ah;rw[r2 R]at e1;cases e1;refine⟨rfl,_,Vy (ht _ aT) dI gX b _ w,?_⟩;simp only[a9,d6,bJ,aB];exact⟨ac,b,o,n,off+d,d7,O,DN R dI,by rw[jJ]⟩
 |_=>cases h
def PW{t':Option ag}{gs:ag}{i:Int}{v r:av}(h:(Ch t' gs i v).a2 g B=some (r,B')):B'=B/\r=v/\∃n e,gs=.ar n e/\t'=some (.ar n e)/\0<e.size/\0<=i/\i<n:=by
 unfold Ch at h;split at h
 .rename_i t' n e
  replace h:=gU h;obtain⟨ah,h⟩:=h;replace h:=i? h;obtain⟨ac,h⟩:=h;cases h;simp at ah;have:=eV ah.1;subst this;obtain⟨O,R⟩:=Ai.1 ac;exact⟨rfl,rfl,n,e,rfl,rfl,ah.2,O,R⟩
 cases h
def UE{e:ag}(h:i<n):(ag.ar n e).et [.ix i]=some (i*e.size,e):=by simp only[ag.et,if_pos h];rfl
def Vz{e:ag}{tid:TypeId}(ht:(cT P (.ar n e)).1 tid){k:IntKind}{i:Int}(aq:0<=i)(O:i<n)(b o:Nat)(w:World):
  (Instr.indexAt tid (.pointer (some ⟨b,o,none⟩)) (.int k i)).run P w=.ok (.pointer (some ⟨b,o+i.toNat*e.size,none⟩)) w:=by
 obtain⟨⟨bd,aM,az⟩,_⟩:=ht;have bh:=oT az w;simp[Instr.indexAt,asIntOf,run_underlying aM,Instr.sureAddr,aq,O,bh,qB]
def IA{e:ag}{tid:TypeId}(ht:(cT P (.sl e)).1 tid){k:IntKind}{i:Int}{cap:Nat}(aq:0<=i)(O:i<n)(b o:Nat)(w:World):
  (Instr.indexAt tid (.slice (some ⟨b,o,none⟩) n cap) (.int k i)).run P w=.ok (.pointer (some ⟨b,o+i.toNat*e.size,none⟩)) w:=by
 obtain⟨⟨bd,aM,az⟩,_⟩:=ht;have bh:=oT az w;simp[Instr.indexAt,asIntOf,run_underlying aM,aq,O,bh,qB]
def ML(e:ag):e.et []=some (0,e):=by cases e<;>rfl
def axz{H:cf}{e:ag}{l:List e.aG}{v:Value}(h:aJ H (.sl e) l [v])(am:l≠[]):∃b o cap,v=.slice (some ⟨b,o,none⟩) l.length cap:=by
 obtain⟨a,cap,O,_,_,R⟩:=aJ.iL.1 h
 grind
def acZ{H:cf}{e:ag}{l:List e.aG}{v:Value}(h:aJ H (.sl e) l [v]){tid:TypeId}(ht:(cT P (.sl e)).1 tid){k:IntKind}{i:Int}(ac:aK i (len l)=true)(w:World):
  ∃r,(Instr.indexAt tid v (.int k i)).run P w=.ok r w/\a9 phx H B (.ipt e l (ab i) []) r:=by
 obtain⟨aq,O⟩:=Ai.1 ac;have O:i<(l.length:Int):=O;have bi:i.toNat<l.length:=J;obtain⟨b,o,cap,rfl⟩:=axz h (λe=>by subst e;simp at bi);exact⟨_,IA ht aq O b o w,bi,b,o,cap,0,e,h,ML e,rfl⟩
def aeR{id:Nat}{e:ag}{v:Value}(h:h1 phx id e off n v)(am:0<n):∃b o m cap,phx id=some (b,o,m)/\v=.slice (some ⟨b,o+off*e.size,none⟩) n cap:=by
 rcases h with⟨h,_⟩|⟨b,o,m,cap,O,R,_⟩
 .omega
 grind
def aeb:∀{n i:Nat},i<n->(m3 n).et (gG i)=some (i,.op 3)
 |n+1,0,_=>rfl
 |n+1,i+1,h=>by
  have:=aeb (n:=n) (i:=i) J;simp only[m3,gG,ag.et,this,PJ,ag.size]
  grind
def asr{gs:ag}{tid:TypeId}(ht:(cT P gs).1 tid){a r:av}{ci:Value}{k:IntKind}{i:Int}(h:(yd gs a i).a2 g B=some (r,B'))
  (eb:a9 phx (view w M) B a ci):B'=B/\∃v,(Instr.indexAt tid ci (.int k i)).run P w=.ok v w/\a9 phx (view w M) B r v:=by
 cases a with
 |sc t l=>
  cases gs<;>try(cases h;done)
  rename_i e;simp only[yd]at h;replace h:=aw.cH h;obtain⟨y,cY,O,h⟩:=h;obtain⟨ah,rfl⟩:=dQ O;obtain⟨bA,rfl⟩:=vK ah;subst bA;replace h:=i? h;obtain⟨ac,h⟩:=h;cases h;obtain⟨cs,cA,rfl⟩:=eb;obtain⟨a,cap,rfl,_⟩:=aJ.Bh.1 cA;exact⟨rfl,acZ cA ht ac w⟩
 |csl e l =>replace h:=gU h;obtain⟨ah,h⟩:=h;have:=eV ah;subst this;replace h:=i? h;obtain⟨ac,h⟩:=h;cases h;obtain⟨a,_,cA⟩:=eb;exact⟨rfl,acZ cA ht ac w⟩
 |own id eP=>
  simp only[yd,aw.a2]at h;have ae:bJ phx (view w M) B (.own id eP) ci:=eb;simp only[bJ]at ae;generalize aB:B id=bl at h ae;cases bl<;>try(cases h;done)
  all_goals
   replace h:=gU h;obtain⟨ah,h⟩:=h;have:=eV ah;subst this;replace h:=i? h;obtain⟨ac,h⟩:=h;cases h;obtain⟨aq,O⟩:=Ai.1 ac;rename_i e l;have O:i<(l.length:Int):=O;obtain⟨b,o,m,cap,bj,rfl⟩:=aeR ae.1 J;refine⟨rfl,_,IA ht aq O b _ w,?_⟩;simp only[a9,d6,bJ,aB];exact⟨by unfold ab;omega,b,o,m,0,e,bj,ML e,by simp[ab]⟩
 |osl id off n=>
  simp only[yd,aw.a2]at h;have ae:bJ phx (view w M) B (.osl id off n) ci:=eb;simp only[bJ]at ae;generalize aB:B id=bl at h ae;cases bl<;>try(cases h;done)
  all_goals
   replace h:=gU h;obtain⟨ah,h⟩:=h;have:=eV ah;subst this;replace h:=i? h;obtain⟨ac,h⟩:=h;cases h;obtain⟨aq,O⟩:=Ai.1 ac;rename_i e l;have O:i<(n:Int):=O;obtain⟨b,o,m,cap,bj,rfl⟩:=aeR (by first|exact ae.2|exact ae.2.1:h1 phx id e off n ci) J;refine⟨rfl,_,IA ht aq O b _ w,?_⟩;simp only[a9,d6,bJ,aB];exact⟨by unfold bF ab;omega,b,o,m,0,e,bj,ML e,by simp only[ab,bF,f9,xj,jJ]⟩
 |ptr id p=>
  simp only[yd,aw.a2]at h;have ae:bJ phx (view w M) B (.ptr id p) ci:=eb;simp only[bJ]at ae;generalize aB:B id=bl at h ae;cases bl<;>try(cases h;done)
  obtain⟨b,o,n,off,t',O,R,rfl⟩:=ae;obtain⟨nX,rfl,m,e,rfl,aT,dI,gX,nT⟩:=PW h;rw[r2 R]at aT;cases aT;refine⟨nX,_,Vz ht gX nT b (o+off) w,?_⟩;simp only[a9,d6,bJ,aB];exact⟨b,o,n,off+(ab i)*e.size,e,O,DN R (UE (by unfold ab;omega)),by rw[jJ];rfl⟩
 |ipt e l j p =>obtain⟨ac,b,o,cap,off,t',O,R,rfl⟩:=(eb:bJ phx (view w M) B (.ipt e l j p) ci);obtain⟨nX,rfl,m,bA,rfl,aT,dI,gX,nT⟩:=PW h;rw[r2 R]at aT;cases aT;exact⟨nX,_,Vz ht gX nT b _ w,ac,b,o,cap,off+(ab i)*bA.size,bA,O,DN R (UE (by unfold ab;omega)),by rw[jJ (o+j*e.size)];rfl⟩
 |opt id j p=>
  simp only[yd,aw.a2]at h;have ae:bJ phx (view w M) B (.opt id j p) ci:=eb;simp only[bJ]at ae;generalize aB:B id=bl at h ae;cases bl<;>try(cases h;done)
  all_goals
   rename_i e l;obtain⟨ac,b,o,n,off,t',O,R,rfl⟩:=ae;obtain⟨nX,rfl,m,bA,rfl,aT,dI,gX,nT⟩:=PW h;rw[r2 R]at aT;cases aT;refine⟨nX,_,Vz ht gX nT b _ w,?_⟩;simp only[a9,d6,bJ,aB];exact⟨ac,b,o,n,off+(ab i)*bA.size,bA,O,DN R (UE (by unfold ab;omega)),by rw[jJ (o+j*e.size)];rfl⟩
 |psl id n=>
  simp only[yd,aw.a2]at h;have ae:bJ phx (view w M) B (.psl id n) ci:=eb;simp only[bJ]at ae;generalize aB:B id=bl at h ae;cases bl<;>try(cases h;done)
  replace h:=gU h;obtain⟨ah,h⟩:=h;have:=eV ah;subst this;replace h:=i? h;obtain⟨ac,h⟩:=h;cases h;obtain⟨aq,O⟩:=Ai.1 ac;have O:i<(n:Int):=O;obtain⟨rfl,b,o,m,cap,bj,rfl⟩:=ae;refine⟨rfl,_,IA ht aq O b _ w,?_⟩;simp only[a9,d6,bJ,aB];exact⟨b,o,m,ab i,.op 3,bj,aeb (by unfold ab;omega),by simp[ab,ag.size]⟩
 |_=>cases h
end
end Yp
namespace Yp
open Go
def lJ:=@List.length_eq_zero_iff
def js:=@Nat.zero_add
def B1:=@Array.ext'
def Xw:=@Int.max_eq_left
variable {P:Program}
section
variable {K:Kp} {w0 w:World} {phx:cd} {M:Nat->Prop} {B B':Nat->aU} {g:Nat->av}
def a9.uN(H:cf)(n:Nat):a9 phx H B (Yp.int (n:Int)) (goInt n):=a9.s? phx H B .i64 (n:Int)
def as5{gs:ag}{tid:TypeId}(ht:(cT P gs).1 tid){a r:av}{ci:Value}(h:(HB gs a).a2 g B=some (r,B'))(eb:a9 phx (view w M) B a ci)
  {d?:Array TypeId} (aq:d?[0]?=some tid) (ty:TypeId):B'=B/\∃v,(Builtin.len_ d? ty #[ci]).run P w=.ok v w/\a9 phx (view w M) B r v:=by
 have f':∀{n c:Nat} {ad:Option Addr} {e:ag},(cT P (.sl e)).1 tid->(Builtin.len_ d? ty #[.slice ad n c]).run P w=.ok (goInt n) w:=by intro n c ad e hf;obtain⟨⟨bd,aM,_⟩,_⟩:=hf;simp[Builtin.len_,aq,run_underlying aM]
 cases gs<;>try(cases h;done)
 case str=>
  cases a<;>try(cases h;done)
  rename_i t x;cases t<;>try(cases h;done)
  cases h;rw[eb.str];exact⟨rfl,_,by simp[Builtin.len_,aq,run_underlying ht.1];rfl,a9.uN _ (x:List UInt8).length⟩
 case ar n e =>cases h;obtain⟨⟨bd,aM,_⟩,_⟩:=ht;exact⟨rfl,goInt n,by simp[Builtin.len_,aq,run_underlying aM],a9.uN _ n⟩
 case sl e=>
  cases a<;>try(cases h;done)
  case sc t x=>
   cases t<;>try(cases h;done)
   cases h;obtain⟨cs,cA,rfl⟩:=eb;obtain⟨ad,cap,rfl,_⟩:=aJ.Bh.1 cA;exact⟨rfl,_,f' ht,a9.uN _ _⟩
  case csl bA l =>cases h;obtain⟨ad,rfl,_⟩:=eb;exact⟨rfl,_,f' ht,a9.uN _ _⟩
  case nil =>cases h;simp only[a9]at eb;subst eb;exact⟨rfl,_,f' ht,a9.uN _ 0⟩
  case own id eP=>
   simp only[HB,aw.a2]at h;have ae:bJ phx (view w M) B (.own id eP) ci:=eb;simp only[bJ]at ae;generalize aB:B id=bl at h ae;cases bl<;>try(cases h;done)
   all_goals
    cases h;obtain⟨ad,c,rfl⟩:=ae.1.slice;exact⟨rfl,_,f' ht,a9.uN _ _⟩
  case psl id n=>
   simp only[HB,aw.a2]at h;have ae:bJ phx (view w M) B (.psl id n) ci:=eb;simp only[bJ]at ae;generalize aB:B id=bl at h ae;cases bl<;>try(cases h;done)
   cases h;obtain⟨_,b,o,m,cap,_,rfl⟩:=ae;exact⟨rfl,_,f' ht,a9.uN _ _⟩
  case osl id off n=>
   simp only[HB,aw.a2]at h;have ae:bJ phx (view w M) B (.osl id off n) ci:=eb;simp only[bJ]at ae;generalize aB:B id=bl at h ae;cases bl<;>try(cases h;done)
   all_goals
    cases h;obtain⟨ad,c,rfl⟩:=(by first|exact ae.2.slice|exact ae.2.1.slice:∃a c,ci=.slice a n c);exact⟨rfl,_,f' ht,a9.uN _ _⟩
def Ef{t:ag}{tid:TypeId}(h:(cT P t).1 tid){cs:Array Value}(am:off+t.size<=cs.size)(w:World):(part tid cs off).run P w=.ok (cB t (cJ cs off t.size)) w:=by
 unfold part;cases bc:t.isAgg with
 |true=>
  have az:cs.extract off (off+t.size)=(cJ cs off t.size).toArray:=by apply B1;simp[cJ]
  simp[NK h,bc,oT h,cB,az]
 |false=>
  have O:=agZ bc;have bi:off<cs.size:=J;have ae:cJ cs off 1=[cs[off]]:=by
   have hl:=qh (c:=cs) (o:=off) (n:=1) J;have hg:=wR (c:=cs) (o:=off) (n:=1) (i:=0) J;match arF:cJ cs off 1,hl,hg with
   |[x],_,hg=>simp[bi]at hg;rw[hg]
  simp[NK h,bc,tT bi,cB,O,ae]
def anV{E:dl}(hT:nA P E.b6){tid:TypeId}{a r:av}{ci:Value}(h:(RI E tid f a).a2 g B=some (r,B'))(eb:a9 phx (view w M) B a ci):
  B'=B/\∃v,(Instr.field tid ci f).run P w=.ok v w/\a9 phx (view w M) B r v:=by
 unfold RI at h;cases ht:E.b6 tid with
 |none=>rw[ht]at h;cases h
 |some t=>
  rw[ht]at h;have hf:=hT _ _ ht;obtain⟨_,cY,O,bB⟩:=aw.cH h;obtain⟨rfl,cu,nl,sW⟩:=Lh O eb;cases x1:t.at (gG f) with
  |none=>rw[x1]at bB;cases bB
  |some d7=>
   cases hg:jc (wX a) (gG f) with
   |none=>rw[x1,hg]at bB;cases bB
   |some v=>
    rw[x1,hg]at bB;cases bB;obtain⟨d,aO⟩:=P0 x1;obtain⟨fp,fd,bj,bm,cW,fU⟩:=aaG hf aO;have bV:=uT aO;have hl:=sW.length;have jx:t.isAgg=true:=by cases f<;>cases t<;>first|rfl|cases aO
    have apH:ci=.agg cu.toArray:=by
     cases a<;>try(cases O;done)
     case kb b=>obtain⟨ac,_⟩:=ld O;have:=eV ac;subst this;cases jx
     case nil=>cases t<;>first|cases jx;done|cases O
     case csl e l=>obtain⟨ac,_⟩:=ld O;have:=eV ac;subst this;cases jx
     case own id eP=>
      simp only[sO,aw.a2]at O;generalize B' id=bl at O;cases bl<;>try(cases O;done)
      all_goals
       obtain⟨ac,_⟩:=ld O;have:=eV ac;subst this;cases jx
     case osl id off n=>
      simp only[sO,aw.a2]at O;generalize B' id=bl at O;cases bl<;>try(cases O;done)
      case box t' _=>
       cases t'<;>try(cases O;done)
       obtain⟨ac,_⟩:=ld O;have:=eV ac;subst this;cases jx
      all_goals
       obtain⟨ac,_⟩:=ld O;have:=eV ac;subst this;cases jx
     case sc s x =>obtain⟨ac,_⟩:=ld O;have:=eV ac;subst this;obtain⟨cs,bG,rfl⟩:=eb;rw[HH bG]at nl;simp only[cB,jx,if_true];rw[<- nl]
     case agg s x =>obtain⟨_,cs,bG,rfl⟩:=eb;simp only[Value.cells]at nl;rw[<- nl]
     case ptr id p=>cases f<;>cases hg
     case mpp id=>cases f<;>cases hg
     case ifc i s x=>cases f<;>cases hg
     case clo vO dU cZ=>cases f<;>cases hg
    subst apH;refine⟨rfl,cB d7 (cJ cu.toArray d d7.size),?_,BL (R8 sW aO hg)⟩;have hp:=Ef (P:=P) fU (cs:=cu.toArray) (off:=d) fS w;simp[Instr.field,run_underlying bj,bm,asAgg,cW,hp]
def ass{e:ag}{tid:TypeId}(ht:(cT P (.ar n e)).1 tid){a r:av}{ci:Value}{i:Int}(h:(Hf (.ar n e) a i).a2 g B=some (r,B'))(eb:a9 phx (view w M) B a ci)(k:IntKind):
  B'=B/\∃v,(Instr.index tid ci (.int k i)).run P w=.ok v w/\a9 phx (view w M) B r v:=by
 have bB:((aw.opt (iM (.ar n e) a)).bind λl=>.chk (aK i (bb n)) (.ret (.sc e (an (l:List e.aG) (ab i) e.zero)))).a2 g B=some (r,B'):=by
  unfold Hf at h;split at h
  .cases h
  exact h
 obtain⟨l,cY,O,R⟩:=aw.cH bB;obtain⟨aI,rfl⟩:=dQ O;obtain⟨ac,R⟩:=i? R;cases R;obtain⟨cs,cA,rfl⟩:=og aI eb;obtain⟨bG,ca,cr⟩:=aJ.vH.1 cA;have bG:(l:List e.aG).length=n:=bG;obtain⟨⟨bd,aM,az⟩,_⟩:=ht;obtain⟨aq,O⟩:=Ai.1 ac;have O:i<(n:Int):=O;have bi:i.toNat<(l:List e.aG).length:=J;have bh:=oT az w;have lT:(i.toNat+1)*e.size<=n*e.size:=iT _ J;rw[f9]at lT;have hp:=Ef (P:=P) az (cs:=cs.toArray) (off:=i.toNat*e.size) fS w;refine⟨rfl,cB e (cJ cs.toArray (i.toNat*e.size) e.size),?_,?_⟩
 .simp[Instr.index,asIntOf,run_underlying aM,cB,ag.isAgg,aq,O,bh,hp]
 exact⟨_,cr _ _ (Av (d:=e.zero) bi),rfl⟩
def IB{e:ag}{tid:TypeId}(ht:(cT P (.sl e)).1 tid){ad:Option Addr}{cap:Nat}{lo ac:Option Int}{ks kh:IntKind}(nZ:n<=cap)(h:b5 (bQ lo 0) (bQ ac n) n=true)(w:World):
  (Instr.sliceAt tid (.slice ad n cap) (lo.map λi=>.int ks i) (ac.map λi=>.int kh i) none).run P w =
   .ok (.slice (if cap=(bQ lo 0).toNat then ad else ad.map (·.add ((bQ lo 0).toNat*e.size))) ((bQ ac n).toNat-(bQ lo 0).toNat) (cap-(bQ lo 0).toNat)) w:=by
 obtain⟨⟨bd,aM,az⟩,_⟩:=ht;have Y:=VN (P:=P) (isSlice:=true) (ks:=ks) (kh:=kh) nZ h w;have bh:=oT az w;simp[Instr.sliceAt,Instr.slice,run_underlying aM,Y,bh]
def aJ.sub{H:cf}{e:ag}{l:List e.aG}{ad:Option Addr}{cap:Nat}(cA:aJ H (.sl e) l [.slice ad l.length cap]){cap':Nat}(bV:L+N<=l.length)(nZ:N<=cap')(azG:cap'<=cap-L):
  aJ H (.sl e) (cut l L N) [.slice (if cap'=0 then ad else ad.map (·.add (L*e.size))) N cap']:=by
 obtain⟨a',cN,O,R,ai,au⟩:=aJ.iL.1 cA;obtain⟨rfl,_,rfl⟩:=O;refine aJ.iL.2 ⟨_,cap',by rw[lQ bV],by rw[lQ bV];exact nZ,J,?_⟩;by_cases fV:N=0
 .left;exact lJ.1 ((lQ bV).trans fV)
 rcases au with au|⟨b,o,c,el,fz,rfl,bm,cW,fU⟩
 .grind
 right;rw[if_neg J];refine⟨b,o+L*e.size,c,el,fz,by simp[qB],bm,?_,λi x ac => ?_⟩
 .rw[lQ bV]
  have:(L+N)*e.size<=l.length*e.size:=iT _ bV
  grind
 have fb:i<N:=by
  rcases J7 i N with h|h
  .exact h
  have:(cut l L N).length<=i:=by rw[lQ bV];exact h
  grind
 rw[FU fb]at ac
 grind
def VO{H:cf}{e:ag}{tid:TypeId}(ht:(cT P (.sl e)).1 tid){l:List e.aG}{ci:Value}(cA:aJ H (.sl e) l [ci]){lo ac:Option Int}{ks kh:IntKind}(h:b5 (bQ lo 0) (bQ ac (len l)) (len l)=true)(w:World):
  ∃v,(Instr.sliceAt tid ci (lo.map λi=>.int ks i) (ac.map λi=>.int kh i) none).run P w=.ok v w/\a9 phx H B (.sc (.sl e) (sub l (bQ lo 0) (bQ ac (len l)))) v:=by
 obtain⟨ad,cap,O,R,ai,au⟩:=aJ.iL.1 cA;simp at O;subst O;have aj:=IB (P:=P) ht (ad:=ad) (ks:=ks) (kh:=kh) R h w;refine⟨_,aj,?_⟩;obtain⟨bD,b1,dy⟩:=rT.1 h;have dy:bQ ac (len l)<=(l.length:Int):=dy;have:=cA.sub (L:=(bQ lo 0).toNat) (N:=(bQ ac (len l)).toNat-(bQ lo 0).toNat) (cap':=cap-(bQ lo 0).toNat) J J (bX _);refine⟨_,this,?_⟩;congr 1
 grind
def h1.sub{id:Nat}{e:ag}{ad:Option Addr}{cap:Nat}(h:h1 phx id e off n (.slice ad n cap))(bV:L+N<=n):
  h1 phx id e (off+L) N (.slice (if cap=L then ad else ad.map (·.add (L*e.size))) N (cap-L)):=by
 rcases h with⟨O,a,R⟩|⟨b,o,m,cap',O,R,ai,au,a4⟩
 .simp at R
  obtain⟨rfl,_,rfl⟩:=R;left;exact⟨J,_,by rw[show N=0 by omega,show 0-L=0 by omega]⟩
 simp at R;obtain⟨rfl,_,rfl⟩:=R;by_cases ah:cap=L
 .left;exact⟨J,_,by rw[show N=0 by omega,show cap-L=0 by omega]⟩
 right;refine⟨b,o,m,cap-L,O,?_,J,J,by rw[show off+L+(cap-L)=off+cap by omega];exact a4⟩;rw[if_neg ah];simp[qB,f9,jJ]
def tU.sub{id:Nat}{e:ag}{ad:Option Addr}{cap:Nat}(h:tU phx id e off N (.slice ad n cap)){n':Nat}(bV:L+n'<=cap):
  tU phx id e (off+L) N (.slice (if cap=L then ad else ad.map (·.add (L*e.size))) n' (cap-L)):=by
 rcases h with⟨O,a,R⟩|⟨b,o,m,adE,cap',O,R,ai⟩
 .simp at R
  obtain⟨rfl,_,rfl⟩:=R;left;exact⟨J,_,by rw[show n'=0 by omega,show 0-L=0 by omega]⟩
 simp at R;obtain⟨rfl,_,rfl⟩:=R;by_cases ah:cap=L
 .left;exact⟨J,_,by rw[show n'=0 by omega,show cap-L=0 by omega]⟩
 right;refine⟨b,o,m,n',cap-L,O,?_,J⟩;rw[if_neg ah];simp[qB,f9,jJ]
def VP{e:ag}{tid:TypeId}(ht:(cT P (.sl e)).1 tid){a r:av}{ci:Value}{lo ac:Option Int}(h:(wW (.sl e) a lo ac none).a2 g B=some (r,B'))
  (hm:bK K w0 phx M B w) (eb:a9 phx (view w M) B a ci) (ks kh:IntKind) :
  B'=B/\∃v,(Instr.sliceAt tid ci (lo.map λi=>.int ks i) (ac.map λi=>.int kh i) none).run P w=.ok v w/\a9 phx (view w M) B r v:=by
 cases a<;>try(cases h;done)
 case nil=>
  simp only[wW]at h;replace h:=i? h;obtain⟨Y,h⟩:=h;cases h;have aj:=eb;simp only[a9,d6,bJ]at aj;subst aj;have mJ:b5 (bQ lo 0) (bQ ac ((0:Nat):Int)) ((0:Nat):Int)=true:=Y;have a_:=rT.1 mJ;refine⟨rfl,_,IB (P:=P) (ad:=none) (n:=0) (cap:=0) ht (bX _) mJ w,?_⟩
  grind
 case sc t x =>replace h:=aw.cH h;obtain⟨l,cY,O,h⟩:=h;obtain⟨ah,rfl⟩:=dQ O;obtain⟨bA,rfl⟩:=vK ah;subst bA;replace h:=i? h;obtain⟨Y,h⟩:=h;cases h;obtain⟨cs,cA,rfl⟩:=eb;obtain⟨ad,cap,rfl,_⟩:=aJ.Bh.1 cA;exact⟨rfl,VO ht cA Y w⟩
 case csl bA l =>replace h:=gU h;obtain⟨ah,h⟩:=h;have:=eV ah;cases this;replace h:=i? h;obtain⟨Y,h⟩:=h;cases h;obtain⟨ad,_,cA⟩:=eb;exact⟨rfl,VO ht cA Y w⟩
 case own id eP=>
  simp only[wW,aw.a2]at h;have ae:bJ phx (view w M) B (.own id eP) ci:=eb;have dM:=hm.blks id;simp only[bJ]at ae;generalize aB:B id=bl at h ae dM;cases bl<;>try(cases h;done)
  .replace h:=gU h;obtain⟨ah,h⟩:=h
   have:=eV ah;cases this;replace h:=i? h;obtain⟨Y,h⟩:=h;cases h;rename_i l;obtain⟨ad,cap,rfl⟩:=ae.1.slice;have nZ:l.length<=cap:=by
    rcases ae.1 with⟨O,a,R⟩|⟨b,o,m,cap',O,R,ai,au,a4⟩
    .omega
    simp only[Value.slice.injEq]at R;omega
   refine⟨rfl,_,IB ht nZ Y w,?_⟩;obtain⟨bD,b1,dy⟩:=rT.1 Y;have dy:bQ ac (len l)<=(l.length:Int):=dy;have pZ:=ae.1.cap.sub (L:=(bQ lo 0).toNat) (n':=(bQ ac (len l)).toNat-(bQ lo 0).toNat) J;have:=ae.1.sub (L:=(bQ lo 0).toNat) (N:=(bQ ac (len l)).toNat-(bQ lo 0).toNat) J;simp only[a9,d6,bJ,aB];simp only[js]at this pZ;exact⟨by unfold ab ce;omega,this,pZ⟩
  replace h:=gU h;obtain⟨ah,h⟩:=h;have:=eV ah;cases this;replace h:=i? h;obtain⟨Y,h⟩:=h;cases h;exact⟨rfl,VO ht (UR ae.1 dM.2) Y w⟩
 case osl id off n=>
  simp only[wW,aw.a2]at h;have ae:bJ phx (view w M) B (.osl id off n) ci:=eb;have dM:=hm.blks id;simp only[bJ]at ae;generalize aB:B id=bl at h ae dM;cases bl<;>try(cases h;done)
  .replace h:=gU h;obtain⟨ah,h⟩:=h
   have:=eV ah;cases this;replace h:=i? h;obtain⟨Y,h⟩:=h;cases h;obtain⟨bV,ae,mi⟩:=ae;obtain⟨ad,cap,rfl⟩:=ae.slice;have nZ:n<=cap:=by
    rcases ae with⟨O,a,R⟩|⟨b,o,m,cap',O,R,ai,au,a4⟩
    .omega
    simp only[Value.slice.injEq]at R;omega
   refine⟨rfl,_,IB ht nZ Y w,?_⟩;obtain⟨bD,b1,dy⟩:=rT.1 Y;have dy:bQ ac (bb n)<=(n:Int):=dy;have:=ae.sub (L:=(bQ lo 0).toNat) (N:=(bQ ac (bb n)).toNat-(bQ lo 0).toNat) J;have pZ:=mi.sub (L:=(bQ lo 0).toNat) (n':=(bQ ac (bb n)).toNat-(bQ lo 0).toNat) J;simp only[a9,d6,bJ,aB];exact⟨by unfold ab ce bF;omega,this,pZ⟩
  replace h:=gU h;obtain⟨ah,h⟩:=h;have:=eV ah;cases this;replace h:=i? h;obtain⟨Y,h⟩:=h;cases h;obtain⟨bV,ae⟩:=ae;obtain⟨ad,cap,rfl⟩:=ae.slice;have nZ:n<=cap:=by
   rcases ae with⟨O,a,R⟩|⟨b,o,m,cap',O,R,ai,au,a4⟩
   .omega
   simp only[Value.slice.injEq]at R;omega
  refine⟨rfl,_,IB ht nZ Y w,?_⟩;obtain⟨bD,b1,dy⟩:=rT.1 Y;have dy:bQ ac (bb n)<=(n:Int):=dy;have:=ae.sub (L:=(bQ lo 0).toNat) (N:=(bQ ac (bb n)).toNat-(bQ lo 0).toNat) J;simp only[a9,d6,bJ,aB];exact⟨by unfold ab ce bF;omega,this⟩
def axA{gs:ag}{tid:TypeId}(ht:(cT P gs).1 tid){a r:av}{ci:Value}{lo ac:Option Int}{m:Int}(h:(wW gs a lo ac (some m)).a2 g B=some (r,B'))
  (eb:a9 phx (view w M) B a ci) (ks kh Hr:IntKind) :
  B'=B/\∃v,(Instr.sliceAt tid ci (lo.map λi=>.int ks i) (ac.map λi=>.int kh i) (some (.int Hr m))).run P w=.ok v w/\a9 phx (view w M) B r v:=by
 cases ac with
 |none=>cases h
 |some ac=>
  cases a<;>try(cases h;done)
  rename_i t x;cases gs<;>try(cases h;done)
  rename_i e;replace h:=aw.cH h;obtain⟨l,cY,O,h⟩:=h;obtain⟨ah,rfl⟩:=dQ O;obtain⟨bA,rfl⟩:=vK ah;subst bA;replace h:=i? h;obtain⟨Y,h⟩:=h;cases h;simp only[cV,cM,Yp.af,beq_iff_eq]at Y;obtain⟨Y,rfl⟩:=Y;obtain⟨bD,b1,dy⟩:=rT.1 Y;obtain⟨cs,cA,rfl⟩:=eb;obtain⟨ad,cap,rfl,ca,_⟩:=aJ.Bh.1 cA;have dy:ac<=((x:List e.aG).length:Int):=dy;obtain⟨⟨bd,aM,az⟩,_⟩:=ht;have bh:=oT az w;have bj:0<=ac/\ac<=(cap:Int):=⟨J,J⟩;have g0:0<=ac:=bj.1;have G0:(Instr.sliceBounds true (x:List e.aG).length cap (lo.map λi=>.int ks i) (some (.int kh ac)) (some (.int Hr ac))).run P w=.ok ((bQ lo 0).toNat,ac.toNat,ac.toNat) w:=by
   cases lo with
   |none=>simp[Instr.sliceBounds,Instr.sliceBound,asIntOf,bj,bQ,g0,Xw g0]
   |some lo =>simp only[bQ]at bD b1 ⊢;simp[Instr.sliceBounds,Instr.sliceBound,asIntOf,bj,g0,Xw g0,bD,b1]
  refine⟨rfl,.slice (if ac.toNat=(bQ lo 0).toNat then ad else ad.map (·.add ((bQ lo 0).toNat*e.size))) (ac.toNat-(bQ lo 0).toNat) (ac.toNat-(bQ lo 0).toNat),?_,?_⟩
  .simp[Instr.sliceAt,Instr.slice,run_underlying aM,G0,bh,cB,ag.isAgg]
  have:=cA.sub (L:=(bQ lo 0).toNat) (N:=ac.toNat-(bQ lo 0).toNat) (cap':=ac.toNat-(bQ lo 0).toNat) J J J;have b9:(Yp.sub (x:List e.aG) (bQ lo 0) ac).length=ac.toNat-(bQ lo 0).toNat:=lQ (α:=e.aG) (l:=(x:List e.aG)) J;have uv:(if ac.toNat=(bQ lo 0).toNat then ad else ad.map (·.add ((bQ lo 0).toNat*e.size)))=if ac.toNat-(bQ lo 0).toNat=0 then ad else ad.map (·.add ((bQ lo 0).toNat*e.size)):=by
   grind
  rw[uv];exact⟨_,by rw[b9],this⟩
def h1.Zn{id:Nat}{e:ag}{ad:Option Addr}{cap:Nat}(h:h1 phx id e off n (.slice ad m cap)):m=n/\n<=cap:=by
 rcases h with⟨O,a,R⟩|⟨b,o,m,cap',O,R,ai,au,a4⟩
 .simp only[Value.slice.injEq]at R;omega
 simp only[Value.slice.injEq]at R;omega
def h1.anP{id:Nat}{e:ag}{ad:Option Addr}{cap:Nat}(h:h1 phx id e off n (.slice ad n cap))(bV:L+N<=cap):
  h1 phx id e (off+L) N (.slice (if cap=L then ad else ad.map (·.add (L*e.size))) N (cap-L)):=by
 rcases h with⟨O,a,R⟩|⟨b,o,m,cap',O,R,ai,au,a4⟩
 .simp only[Value.slice.injEq]at R
  obtain⟨rfl,_,rfl⟩:=R;left;exact⟨J,_,by rw[show N=0 by omega,show 0-L=0 by omega]⟩
 simp only[Value.slice.injEq]at R;obtain⟨rfl,_,rfl⟩:=R;by_cases ah:cap=L
 .left;exact⟨J,_,by rw[show N=0 by omega,show cap-L=0 by omega]⟩
 right;refine⟨b,o,m,cap-L,O,?_,J,J,by rw[show off+L+(cap-L)=off+cap by omega];exact a4⟩;rw[if_neg ah];simp[qB,f9,jJ]
def axB{e:ag}{tid:TypeId}(ht:(cT P (.sl e)).1 tid){a r:av}{ci:Value}{lo ac qY:Option Int}(h:(VL (.sl e) a lo ac qY).a2 g B=some (r,B'))
  (hm:bK K w0 phx M B w) (eb:a9 phx (view w M) B a ci) (ks kh Hr:IntKind) :
  B'=B/\∃v,(Instr.sliceAt tid ci (lo.map λi=>.int ks i) (ac.map λi=>.int kh i) (qY.map λi=>.int Hr i)).run P w=.ok v w/\a9 phx (view w M) B r v:=by
 unfold VL at h;split at h
 .split at h
  .rename_i hh
   split at h
   .rename_i id off n
    simp only[aw.a2]at h;have ae:bJ phx (view w M) B (.osl id off n) ci:=eb;simp only[bJ]at ae;generalize aB:B id=bl at h ae;cases bl<;>try(cases h;done)
    replace h:=gU h;obtain⟨ah,h⟩:=h;have:=eV ah;cases this;replace h:=i? h;obtain⟨Y,h⟩:=h;cases h;rename_i l;simp only[cV,cM]at Y;obtain⟨rP,Y⟩:=Y;obtain⟨bV,aO,pZ⟩:=ae;obtain⟨ad,cap,rfl⟩:=aO.slice;obtain⟨bD,b1,dy⟩:=rT.1 Y;have dy:hh<=(l.length:Int)-(off:Int):=dy;have fV:l.length<=off+cap:=by
     rcases pZ with⟨O,a,R⟩|⟨b,o,m,adE,cap',O,R,ai⟩
     .omega
     simp at R;omega
    have bj:0<=hh/\hh<=(cap:Int):=⟨J,J⟩;have G0:(Instr.sliceBounds true n cap (lo.map λi=>.int ks i) (some (.int kh hh)) none).run P w=.ok ((bQ lo 0).toNat,hh.toNat,cap) w:=by
     cases lo with
     |none=>simp[Instr.sliceBounds,Instr.sliceBound,asIntOf,bj,bQ]
     |some lo =>simp only[bQ]at bD b1 ⊢;have bm:0<=lo/\lo<=max hh 0:=⟨bD,J⟩;simp[Instr.sliceBounds,Instr.sliceBound,asIntOf,bj,bm,bD,b1]
    obtain⟨⟨bd,aM,az⟩,_⟩:=ht;have bh:=oT az w;refine⟨rfl,.slice (if cap=(bQ lo 0).toNat then ad else ad.map (·.add ((bQ lo 0).toNat*e.size))) (hh.toNat-(bQ lo 0).toNat) (cap-(bQ lo 0).toNat),?_,?_⟩
    .simp[Instr.sliceAt,Instr.slice,run_underlying aM,G0,bh]
    have O:=aO.anP (L:=(bQ lo 0).toNat) (N:=hh.toNat-(bQ lo 0).toNat) J;have R:=pZ.sub (L:=(bQ lo 0).toNat) (n':=hh.toNat-(bQ lo 0).toNat) J;simp only[a9,d6,bJ,aB];exact⟨by unfold ab ce bF;omega,O,R⟩
   exact VP ht h hm eb ks kh
  exact VP ht h hm eb ks kh
 rename_i m;split at h
 .rename_i hh
  split at h
  .rename_i id eP
   simp only[aw.a2]at h;have ae:bJ phx (view w M) B (.own id eP) ci:=eb;simp only[bJ]at ae;generalize aB:B id=bl at h ae;cases bl<;>try(cases h;done)
   replace h:=gU h;obtain⟨ah,h⟩:=h;replace h:=i? h;obtain⟨Y,h⟩:=h;cases h;rename_i l;simp only[cV,cM,b?,decide_eq_true_eq]at Y;obtain⟨Y,z5⟩:=Y;have z5:m<=(l.length:Int):=z5;obtain⟨bD,b1,dy⟩:=rT.1 Y;obtain⟨ad,cap,rfl⟩:=ae.1.slice;obtain⟨_,nZ⟩:=ae.1.Zn;obtain⟨⟨bd,aM,az⟩,_⟩:=ht;have bh:=oT az w;have bj:0<=m/\m<=(cap:Int):=⟨J,J⟩;have g0:0<=m:=bj.1;have bm:0<=hh/\hh<=m:=⟨J,dy⟩;have G0:(Instr.sliceBounds true l.length cap (lo.map λi=>.int ks i) (some (.int kh hh)) (some (.int Hr m))).run P w=.ok ((bQ lo 0).toNat,hh.toNat,m.toNat) w:=by
    cases lo with
    |none=>simp[Instr.sliceBounds,Instr.sliceBound,asIntOf,bj,bQ,g0,bm,Xw g0]
    |some lo =>simp only[bQ]at bD b1 ⊢;have cW:0<=lo/\lo<=max hh 0:=⟨bD,J⟩;simp[Instr.sliceBounds,Instr.sliceBound,asIntOf,bj,g0,bm,Xw g0,cW,bD,b1]
   exact⟨rfl,_,by simp[Instr.sliceAt,Instr.slice,run_underlying aM,G0,bh];rfl,trivial⟩
  cases h
 cases h
end
end Yp
namespace Yp
open Go
def qv:=@List.length_replicate
def tN:=@Nat.mod_eq_of_lt
def xi:=@Nat.mul_le_mul_left
def Pf:=@Nat.le_of_lt
variable {P:Program}
def dB(K:Kp)(w0:World)(phx:cd)(M:Nat->Prop)(B:Nat->aU)(w:World)(B':Nat->aU)(v:av)(r:Value)(w':World):Prop:=
 ∃phx' aA,bK K w0 phx' aA B' w'/\co phx M B w phx' aA B' w'/\a9 phx' (view w' aA) B' v r
section
variable {K:Kp} {w0 w:World} {phx:cd} {M:Nat->Prop} {B B':Nat->aU} {g:Nat->av}
def dB.same(hm:bK K w0 phx M B w){v:av}{r:Value}(h:B'=B)(aj:a9 phx (view w M) B v r):dB K w0 phx M B w B' v r w:=by subst h;exact⟨phx,M,hm,co.refl _ _ _ _,aj⟩
def CQ{id:Nat}{k:aw av}{r:av×(Nat->aU)}(h:(Yp.uk id k).a2 g B=some r):B id=.new/\k.a2 g B=some r:=by simp only[Yp.uk,aw.a2]at h;generalize aB:B id=b at h;cases b<;>first|exact⟨rfl,h⟩|cases h
def l?.lt{id:Nat}{b:aU}{H:cf}(h:l? phx M w H B id b)(hm:b.fN=true){x:Nat×Nat×Nat}(hx:phx id=some x):x.1<w.heap.size:=by
 have bi:∀{b:Nat} {o:Obj},w.heap[b]?=some o->b<w.heap.size:=λaO=>(iR.1 aO).1;cases b with
 |new=>cases hm
 |fq=>cases hm
 |fz e l=>cases hm
 |box t v=>obtain⟨b,o,c,el,fz,O,R,_⟩:=h;rw[O]at hx;cases hx;exact bi R
 |ob e l=>
  rcases h.2 with⟨O,_⟩|⟨b,o,c,el,fz,O,R,_⟩
  .grind
  grind
 |it s p=>obtain⟨b,O,R,_⟩:=h;rw[O]at hx;cases hx;exact bi R
 |mp kt vt l=>obtain⟨b,es,nR,O,R,_⟩:=h;rw[O]at hx;cases hx;exact bi R
def bK.born(hm:bK K w0 phx M B w){id:Nat}(hid:B id=.new){w':World}(O:w'.os=w.os)(R:w'.tape=w.tape)(ai:w'.output=w.output)(ae:w.heap.size<w'.heap.size)
  (Y:∀b,b<w.heap.size->w'.heap[b]?=w.heap[b]?) (kI:aU) (n:Nat)
  (aj:∀phx' aA,co phx M B w phx' aA (c6 B id kI) w'->phx' id=some (w.heap.size,0,n)->aA w.heap.size->l? phx' aA w' (view w' aA) (c6 B id kI) id kI) :
  ∃phx' aA,bK K w0 phx' aA (c6 B id kI) w'/\co phx M B w phx' aA (c6 B id kI) w'/\phx' id=some (w.heap.size,0,n):=by
 obtain⟨bE,e1⟩:=hm.CX O R ai (Pf ae) Y (λb=>b=w.heap.size) (λb h=>J);obtain⟨cq,aT⟩:=bE.vF hid kI (some (w.heap.size,0,n)) (λ_ y bs ap=>by cases bs;have O:=hm.klt _ ap;have R:=hm.size;simp only at O;omega) (λ_ y bs j ao z bh=>by cases bs;have:=(hm.blks j).lt ao bh;simp only;omega) (λaz=>aj _ _ (e1.trans az) (mx _ _ _) (.inr rfl))
 exact⟨_,_,cq,e1.trans aT,mx _ _ _⟩
def rx(w:World)(o:Obj)(b:Nat)(h:b<w.heap.size):(w.alloc o).heap[b]?=w.heap[b]?:=by
 show(w.heap.push o)[b]?=_
 grind
def rv(w:World)(o:Obj):(w.alloc o).heap[w.heap.size]?=some o:=by show(w.heap.push o)[w.heap.size]?=_;simp
def iV(w:World)(o:Obj):(w.alloc o).heap.size=w.heap.size+1:=bf
def yr(c:Array Value):iA c (0,0):=.inl rfl
def IF{c:Array Value}{cu:List Value}(h:c.toList=cu)(am:cu.length=n):cJ c 0 n=cu:=by simp only[cJ,h];subst am;simp
def X5{t:ag}{tid:TypeId}(ht:(cT P t).1 tid){id:Nat}(hid:B id=.new){pv:av}{v:Value}{cu:List Value}(hm:bK K w0 phx M B w)(aD:v.cells.toList=cu)(hT:fh phx (view w M) B pv t cu):
  ∃r w',(Instr.box tid v).run P w=.ok r w'/\dB K w0 phx M B w (c6 B id (.box t pv)) (.ptr id []) r w':=by
 have c3:v.cells.size=t.size:=by rw[<- hT.length,<- aD];simp
 refine⟨.pointer (some ⟨w.heap.size,0,none⟩),w.alloc (.cells v.cells tid),by simp[Instr.box,newVar,Go.newRow],?_⟩;obtain⟨phx',aA,bE,e1,O⟩:=hm.born hid (w':=w.alloc (.cells v.cells tid)) rfl rfl rfl bf (rx w _) (.box t pv) v.cells.size λphx' aA az hp d8=>by refine⟨w.heap.size,0,v.cells,tid,(0,0),hp,rv w _,J,?_,yr _,d8⟩;rw[IF aD hT.length];exact az.b6 hT
 refine⟨phx',aA,bE,e1,?_⟩;simp only[a9,d6,bJ,e6];exact⟨_,_,_,0,t,O,ML t,rfl⟩
def y8{H:cf}:∀t:ag,fh phx H B (nD t) t (dH t)
 |.bool=>⟨rfl,aJ.zero _ .bool⟩
 |.int k=>⟨rfl,aJ.zero _ (.int k)⟩
 |.str=>⟨rfl,aJ.zero _ .str⟩
 |.sl e=>⟨rfl,_,rfl,rfl,rfl⟩
 |.unit=>⟨rfl,aJ.zero _ .unit⟩
 |.pair a b=>⟨_,_,rfl,y8 a,y8 b⟩
 |.ar n e=>⟨rfl,aJ.zero _ (.ar n e)⟩
 |.op k=>⟨rfl,aJ.zero _ (.op k)⟩
 |.fn l=>⟨rfl,aJ.zero _ (.fn l)⟩
def A'{t:ag}{tid:TypeId}(ht:(cT P t).1 tid)(w:World):(zeroValue tid).run P w=.ok (cB t (dH t)) w:=by obtain⟨i,O,R,ai,au⟩:=nV ht;unfold zeroValue;simp[afW O,au]
def tK(t:ag):(cB t (dH t)).cells=(dH t).toArray:=HH (aJ.zero (λ_=>none) t)
def ajj{t:ag}{tid:TypeId}(ht:(cT P t).1 tid){id:Nat}(hid:B id=.new)(hm:bK K w0 phx M B w):
  ∃r w',(Instr.alloc tid true (.tuple #[])).run P w=.ok r w'/\dB K w0 phx M B w (c6 B id (.box t (nD t))) (.ptr id []) r w':=by
 obtain⟨r,w',O,R⟩:=X5 ht hid hm (v:=cB t (dH t)) (cu:=dH t) (by rw[tK]) (y8 t);refine⟨r,w',?_,R⟩;simp only[Instr.box]at O;simp[Instr.alloc,A' ht]at O ⊢;exact O
def Ed(hm:bK K w0 phx M B w){id:Nat}(hid:B id=.new){w':World}(O:w'.os=w.os)(R:w'.tape=w.tape)(ai:w'.output=w.output)(ae:w.heap.size<w'.heap.size)
  (Y:∀b,b<w.heap.size->w'.heap[b]?=w.heap[b]?) {e:ag} (dN:0<e.size) {l:List e.aG} {g3:Array Value} {el:TypeId} {fz:Nat×Nat} (ah:w'.heap[w.heap.size]?=some (.cells g3 el fz)) (hf:iA g3 fz)
  {H:cf} (cD:H.cc (full w)) (eI:fi (view w M) e l g3 0) {cap:Nat} (nZ:l.length<=cap) (jB:cap<=maxLen) (c3:cap*e.size<=g3.size) (eP:Bool) (e3:eP=true->l.length≠0) :
  dB K w0 phx M B w (c6 B id (.ob e l)) (.own id eP) (.slice (some ⟨w.heap.size,0,none⟩) l.length cap) w':=by
 obtain⟨phx',aA,bE,e1,dG⟩:=hm.born hid O R ai ae Y (.ob e l) g3.size λphx' aA az hp d8=>
  ⟨dN,.inr ⟨w.heap.size,0,g3,el,fz,hp,ah,eI.mono az.vw,hf,d8⟩⟩
 refine⟨phx',aA,bE,e1,?_⟩;simp only[a9,d6,bJ,e6];exact⟨.inr ⟨_,0,_,cap,dG,bf,nZ,jB,by simpa using c3⟩,e3⟩
def wC{id:Nat}{e:ag}{l:List e.aG}{r:av}(h:(Yp.wB id e l eP).a2 g B=some (r,B')):0<e.size/\B id=.new/\r=.own id eP/\B'=c6 B id (.ob e l):=by replace h:=gU h;obtain⟨aq,h⟩:=h;replace h:=CQ h;obtain⟨O,h⟩:=h;cases h;exact⟨by simpa using aq,O,rfl,rfl⟩
def aze{z:List Value}(h:i<n):(madeCells z.toArray n)[i]?=some (z.toArray[i%z.length]!):=by simp[madeCells,h]
def azf{z:List Value}(bh:0<z.length)(h:i<m):cJ (madeCells z.toArray (m*z.length)) (i*z.length) z.length=z:=by
 have lT:(i+1)*z.length<=m*z.length:=iT _ h;rw[f9]at lT;apply xm;intro j;by_cases ao:j<z.length
 .rw[wR ao,aze J]
  have:(i*z.length+j)%z.length=j:=by rw[Nat.add_comm,Nat.add_mul_mod_self_right,tN ao]
  grind
 have hl:=qh (c:=madeCells z.toArray (m*z.length)) (o:=i*z.length) (n:=z.length) (by rw[size_madeCells];omega)
 grind
def O6(H:cf){e:ag}(dN:0<e.size)(h:n<=m):fi H e (bM n e.zero) (madeCells (dH e).toArray (m*e.size)) 0:=by
 refine⟨?_,λi x ac => ?_⟩
 .rw[size_madeCells];simp only[bM,qv,js];exact iT _ h
 simp only[ bM,JH]at ac;split at ac
 .rename_i fb
  cases ac;have hl:=sn e;have:=azf (z:=dH e) (m:=m) (i:=i) J J;rw[hl]at this;rw[js,this];exact aJ.zero H e
 cases ac
def ako(e:ag):0<e.bytes:=by unfold ag.bytes;split<;>omega
def afI{e:ag}:hA e n=true↔n*e.bytes<=140737488355328:=by unfold hA cj;exact decide_eq_true_iff
def NE{e:ag}(h:hA e n=true):n<=maxLen:=by rw[afI]at h;have:n*1<=n*e.bytes:=xi _ (ako e);unfold maxLen;omega
def ND{e:ag}(h:hA e n=true)(Y:b<=e.bytes):n*b<=140737488355328:=by rw[afI]at h;have:n*b<=n*e.bytes:=xi _ Y;omega
def atk{e:ag}{tid:TypeId}(ht:(cT P (.sl e)).1 tid){id:Nat}{l c:Int}{kl kc:IntKind}{r:av}(hm:bK K w0 phx M B w)
  (h:(aw.chk (cV (b5 0 l c) (hA e (ab c))) (Yp.wB id e (bM (ab l) e.zero) false)).a2 g B=some (r,B')) :
  ∃v w',(Instr.makeSlice tid (.int kl l) (.int kc c)).run P w=.ok v w'/\dB K w0 phx M B w B' r v w':=by
 replace h:=i? h;obtain⟨ah,h⟩:=h;simp only[cV,cM]at ah;obtain⟨aq,hid,rfl,rfl⟩:=wC h;obtain⟨_,bD,b1⟩:=rT.1 ah.1;have go:=ah.2;obtain⟨⟨bd,aM,az⟩,_⟩:=ht;obtain⟨i,bj,bm,cW,fU⟩:=nV az;have C6:=ND go cW;have jB:=NE go;have am:((ab c:Nat):Int)=c:=by unfold ab;omega
 have apL:(i.bytes:Int)*c<=281474976710656:=by
  grind
 have aj:=run_make (P:=P) w tid bd i _ aM bj fU kl kc l c bD b1 apL (by unfold maxLen at jB;omega);refine⟨_,_,aj,?_⟩;rw[tK,bm];have b9:(bM (ab l) e.zero).length=l.toNat:=by simp[bM,ab]
 have:=Ed (K:=K) (w0:=w0) (phx:=phx) (M:=M) (B:=B) (w:=w) hm hid (w':=w.alloc (.cells (madeCells (dH e).toArray (c.toNat*e.size)) bd)) rfl rfl rfl bf (rx w _) aq
  (l:=bM (ab l) e.zero) (rv w _) (yr _) (si w M) (O6 _ aq (by unfold ab;omega)) (cap:=c.toNat) J J (by rw[size_madeCells];exact bX _) false (λh=>by cases h)
 grind
def avD{tid:TypeId}(aM:P.underlying tid=some .string){id:Nat}(hid:B id=.new)(hm:bK K w0 phx M B w):
  ∃v w',(Instr.range tid (.string ⟨l.toArray⟩)).run P w=.ok v w'/\dB K w0 phx M B w (c6 B id (.it l 0)) (.itp id) v w':=by
 refine⟨.pointer (some ⟨w.heap.size,0,none⟩),w.alloc (.stringIter ⟨l.toArray⟩ 0),by simp[Instr.range,run_underlying aM],?_⟩;obtain⟨phx',aA,bE,e1,dG⟩:=hm.born hid (w':=w.alloc (.stringIter ⟨l.toArray⟩ 0)) rfl rfl rfl bf (rx w _) (.it l 0) 0 λphx' aA az hp d8=>
  ⟨w.heap.size,hp,rv w _,d8⟩
 refine⟨phx',aA,bE,e1,?_⟩;simp only[a9,d6,bJ,e6]
 grind
end
end Yp
namespace Yp
open Go
def pG:=@Nat.mul_one
def o7:=@List.getElem?_append_right
def xf:=@List.length_map
def vu:=@List.getElem?_append_left
def oq:=@List.cons.injEq
variable {P:Program}
section
variable {K:Kp} {w0 w:World} {phx:cd} {M:Nat->Prop} {B B':Nat->aU} {g:Nat->av} {H:cf}
def e'(H:cf)(e:ag)(l:List e.aG)(cs:List Value):Prop:=cs.length=l.length*e.size/\∀(i:Nat) (x:e.aG),ij l i=some x->aJ H e x ((cs.drop (i*e.size)).take e.size)
def Dt{l:List α}{x:α}(h:ij l i=some x):i<l.length:=(nF.1 h).1
def yo{s:Nat}(h:i<n):i*s+s<=n*s:=by
 have:=iT s (show i+1<=n from h)
 grind
def fi.sL{e:ag}{l:List e.aG}{c:Array Value}(h:fi H e l c o):e' H e l (cJ c o (l.length*e.size)):=by refine⟨qh h.1,λi x ac => ?_⟩;rw[Ei _ _ _ _ _ (yo (Dt ac))];exact h.2 i x ac
def e'.row{e:ag}{l:List e.aG}{c:Array Value}(am:o+l.length*e.size<=c.size)(h:e' H e l (cJ c o (l.length*e.size))):fi H e l c o:=by
 refine⟨am,λi x ac => ?_⟩;have:=h.2 i x ac
 rwa [Ei _ _ _ _ _ (yo (Dt ac))]at this
def e'.nil(e:ag):e' H e [] []:=⟨bf,λi x ac=>by simp[ij]at ac⟩
def e'.append{e:ag}{l m:List e.aG}{cs ds:List Value}(h:e' H e l cs)(k:e' H e m ds):e' H e (l++m) (cs++ds):=by
 refine⟨by rw[db,db,h.1,k.1,f9],λi x ac => ?_⟩;by_cases hl:i<l.length
 .simp only[ij]at ac
  rw[vu hl]at ac;rw[Re _ _ _ _ (by rw[h.1];exact yo hl)];exact h.2 i x ac
 simp only[ij]at ac;rw[o7 J]at ac;have:=k.2 (i-l.length) x ac;rw[<- Rg cs ds,h.1,<- f9]at this
 grind
def e'.one{e:ag}{l:List e.aG}{cs:List Value}(h:e' H e l cs):∀v∈cs,v.oneCell'=true:=by intro v aD;obtain⟨i,ac,hm⟩:=adu _ _ cs h.1 v aD;exact(h.2 i _ (kg ac)).one v hm
def e'.bytes(l:List UInt8):e' H (.int .u8) (l:List (bH .u8)) (l.map λb=>Value.int .u8 b.toNat):=by
 refine⟨by simp only[xf,ag.size,pG];rfl,λi x ac => ?_⟩;simp only[ag.size,pG];have:((l.map λb=>Value.int .u8 (b.toNat:Int)).drop i).take 1=[Value.int .u8 (bH.to .u8 x)]:=by
  apply xm;intro j;cases j with
  |zero =>have eH:l[i]?=some (x:UInt8):=ac;simp[eH];rfl
  |succ j=>simp[JO]
 rw[this];rfl
def awF{id:Nat}{e:ag}{x:List e.aG}(h:(A9 false id e).a2 g B=some (x,B'))(hm:bK K w0 phx M B w):
  B'=B/\Ps B id e x/\((phx id=none/\x.length=0)\/∃b o c el fz,phx id=some (b,o,c.size)/\w.heap[b]?=some (.cells c el fz)/\fi (view w M) e x c o):=by
 have Y:=hm.blks id;simp only[A9,aw.a2]at h;cases aB:B id with
 |ob bA l=>
  rw[aB]at h Y;obtain⟨y,cY,O,R⟩:=aw.cH h;obtain⟨ah,rfl⟩:=dQ O;obtain⟨fG,rfl⟩:=jM ah;subst fG;cases R;refine⟨rfl,.inl aB,?_⟩;rcases Y.2 with h|⟨b,o,c,el,fz,bj,bm,cW,_⟩
  .exact .inl h
  exact .inr ⟨b,o,c,el,fz,bj,bm,cW⟩
 |fz bA l=>
  rw[aB]at h Y;obtain⟨ah,rfl⟩:=dQ h;obtain⟨fG,rfl⟩:=jM ah;subst fG;refine⟨rfl,.inr (.inl aB),?_⟩;rcases Y.2 with h|⟨b,o,c,el,fz,bj,bm,cW⟩
  .exact .inl h
  exact .inr ⟨b,o,c,el,fz,bj,(kd.1 bm).2,cW⟩
 |box t v=>
  rw[aB]at h Y;cases t<;>try(cases h;done)
  rename_i n bA;obtain⟨l,cY,O,R⟩:=aw.cH h;clear h;obtain⟨hl,rfl⟩:=dQ O;obtain⟨y,b2,ai,au⟩:=aw.cH R;clear R;obtain⟨ah,rfl⟩:=dQ ai;obtain⟨fG,rfl⟩:=jM ah;subst fG;obtain⟨_,h⟩:=gU au;clear au;cases h;obtain⟨eB,tc,c0,sK,sS,bj,bm,cW,fU,k7,sT⟩:=Y;obtain⟨b9,eI⟩:=J? (se hl fU) cW;exact⟨rfl,.inr (.inr ⟨v,by show _=aU.box (.ar (List.length (α:=bA.aG) l) bA) v;rw[b9];exact aB⟩),.inr ⟨eB,tc,c0,sK,sS,bj,bm,eI⟩⟩
 |new=>rw[aB]at h;cases h
 |fq=>rw[aB]at h;cases h
 |it s p=>rw[aB]at h;cases h
 |mp kt vt l=>rw[aB]at h;cases h
def VE{e:ag}{x:av}{hq:Value}{bn:List e.aG}(h:(m2 false (.sl e) x).a2 g B=some (bn,B'))(hm:bK K w0 phx M B w)(aj:a9 phx (view w M) B x hq):
  B'=B/\∃ad cap,hq=.slice ad bn.length cap/\(bn=[]\/∃b o c el fz,ad=some ⟨b,o,none⟩/\w.heap[b]?=some (.cells c el fz)/\fi (view w M) e bn c o):=by
 have plain:∀{v:Value},aJ (view w M) (.sl e) bn [v]->∃ad cap,v=.slice ad bn.length cap/\(bn=[]\/∃b o c el fz,ad=some ⟨b,o,none⟩/\w.heap[b]?=some (.cells c el fz)/\fi (view w M) e bn c o):=by
  intro v cA;obtain⟨ad,cap,O,_,_,au⟩:=aJ.iL.1 cA;simp only[oq,and_true]at O;refine⟨ad,cap,O,?_⟩;rcases au with au|⟨b,o,c,el,fz,bj,bm,cW⟩
  .exact .inl au
  exact .inr ⟨b,o,c,el,fz,bj,(kd.1 bm).2,cW⟩
 have row:∀{id:Nat} {bA:ag} {l:List bA.aG},(B id=.ob bA l\/B id=.fz bA l)->(phx id=none/\l.length=0)\/∃b o c el fz,phx id=some (b,o,c.size)/\w.heap[b]?=some (.cells c el fz)/\fi (view w M) bA l c o:=by
  intro id bA l Y;have dM:=hm.blks id;rcases Y with Y|Y<;>rw[Y]at dM
  .rcases dM.2 with h|⟨b,o,c,el,fz,bj,bm,cW,_⟩
   .exact .inl h
   exact .inr ⟨b,o,c,el,fz,bj,bm,cW⟩
  rcases dM.2 with h|⟨b,o,c,el,fz,bj,bm,cW⟩
  .exact .inl h
  exact .inr ⟨b,o,c,el,fz,bj,(kd.1 bm).2,cW⟩
 have U2:∀{id:Nat} {l:List e.aG} {off n:Nat} {v:Value},((phx id=none/\l.length=0)\/∃b o c el fz,phx id=some (b,o,c.size)/\w.heap[b]?=some (.cells c el fz)/\fi (view w M) e l c o)->h1 phx id e off n v->off+n<=l.length ->
   ∃ad cap,v=.slice ad (cut l off n).length cap/\(cut l off n=[]\/∃b o c el fz,ad=some ⟨b,o,none⟩/\w.heap[b]?=some (.cells c el fz)/\fi (view w M) e (cut l off n) c o):=by
  intro id l off n v Y aO bV;rw[lQ bV];rcases aO with⟨O,a,R⟩|⟨b,o,m,cap,O,R,ai,au,a4⟩
  .subst O;exact⟨a,0,R,.inl (by simp[cut])⟩
  refine⟨_,cap,R,?_⟩;rcases Y with⟨bD,b1⟩|⟨b',dz,c,el,fz,bD,b1,dy⟩
  .exact .inl (lJ.1 (by rw[lQ bV];omega))
  rw[O]at bD;cases bD;refine .inr ⟨b,o+off*e.size,c,el,fz,rfl,b1,?_,λi x ac => ?_⟩
  .rw[lQ bV]
   have cQ:=dy.1;have:(off+n)*e.size<=l.length*e.size:=iT _ bV;rw[f9]at this;omega
  have fb:=Dt ac;rw[lQ bV]at fb;rw[FU fb]at ac;have:=dy.2 (off+i) x ac;rw[f9,<- jJ]at this;exact this
 unfold m2 at h;cases x<;>try(cases h;done)
 case sc t y =>obtain⟨ah,rfl⟩:=dQ h;obtain⟨bA,rfl⟩:=vK ah;subst bA;obtain⟨cs,cA,rfl⟩:=aj;obtain⟨ad,cap,rfl,_⟩:=aJ.Bh.1 cA;exact⟨rfl,plain cA⟩
 case nil =>have h:(aw.opt (Uq (.sl e))).a2 g B=some (bn,B'):=h;obtain⟨ah,rfl⟩:=dQ h;cases ah;simp only[a9,d6,bJ]at aj;subst aj;exact⟨rfl,none,0,rfl,.inl rfl⟩
 case csl bA l =>obtain⟨ah,rfl⟩:=dQ h;obtain⟨fG,rfl⟩:=jM ah;subst fG;obtain⟨ad,_,cA⟩:=aj;exact⟨rfl,plain cA⟩
 case agg t u =>exfalso;obtain⟨bc,_⟩:=aj;have bB:(bif ag.is t (.sl e) then w1 false u (.sl e) else .fail:aw (ag.sl e).aG).a2 g B=some (bn,B'):=h;obtain⟨ac,_⟩:=gU bB;have:=eV ac;subst this;cases bc
 case own id eP=>
  have ae:bJ phx (view w M) B (.own id eP) hq:=aj;have bB:(tl false id e).a2 g B=some (bn,B'):=h;simp only[tl,aw.a2]at bB;simp only[bJ]at ae;generalize aB:B id=bl at bB ae;cases bl<;>try(cases bB;done)
  .obtain⟨y,cY,O,R⟩:=aw.cH bB
   obtain⟨ah,rfl⟩:=dQ O;obtain⟨fG,rfl⟩:=jM ah;subst fG;cases R;have:=U2 (row (.inl aB)) ae.1 J;rw[Cx]at this;exact⟨rfl,this⟩
  obtain⟨ah,rfl⟩:=dQ bB;obtain⟨fG,rfl⟩:=jM ah;subst fG;have:=U2 (row (.inr aB)) ae.1 J;rw[Cx]at this;exact⟨rfl,this⟩
 case osl id off n =>have ae:bJ phx (view w M) B (.osl id off n) hq:=aj;have bB:((A9 false id e).bind λx=>.ret (cut x off n)).a2 g B=some (bn,B'):=h;obtain⟨z,cY,ai,au⟩:=aw.cH bB;cases au;obtain⟨rfl,a4,cQ⟩:=awF ai hm;obtain⟨eh,cy⟩:=aeK a4 ae;exact⟨rfl,U2 cQ cy eh⟩
def nK(P:Program)(w:World)(size n:Nat)(x:Value)(news:List Value):Prop:=
 (∀w':World,(Builtin.lenOf x).run P w'=.ok n w')/\∀w':World,w'.heap=w.heap->(Builtin.firstCells size n x).run P w'=.ok news.toArray w'
def V6{e:ag}{l:List e.aG}{c:Array Value}{el:TypeId}{fz:Nat×Nat}{cap:Nat}(Y:w.heap[b]?=some (.cells c el fz))(aj:fi H e l c o):
  nK P w e.size l.length (.slice (some ⟨b,o,none⟩) l.length cap) (cJ c o (l.length*e.size)):=by
 refine⟨λ_=>rfl,λw' bu => ?_⟩;exact Ee (by rw[bu];exact Y) aj.1
def V5(s:Nat)(ad:Option Addr)(cap:Nat):nK P w s 0 (.slice ad 0 cap) []:=by refine⟨λ_=>rfl,λw' _ => ?_⟩;cases ad<;>simp[Builtin.firstCells,loadCells,loadCellsFrom]
def ax1(l:List UInt8):nK P w 1 l.length (.string ⟨l.toArray⟩) (l.map λb=>Value.int .u8 b.toNat):=by refine⟨λ_=>rfl,λw' _ => ?_⟩;simp only[Builtin.firstCells];simp
def NJ{t u ty bd:TypeId}{i:TypeInfo}{d:TypeDesc}(ht:P.underlying t=some (.slice bd))(aM:P.underlying u=some d)(aI:d=.string\/∃q,d=.slice q)(ac:P.info? bd=some i)
  {x:Value} {n:Nat} {news:List Value} (hx:nK P w i.size n x news) {b o sLen sCap:Nat} (go:sLen+n<=sCap) {c:Array Value} {el:TypeId} {fz:Nat×Nat} (Y:w.heap[b]?=some (.cells c el fz)) (hf:iA c fz)
  (am:o+sLen*i.size+news.length<=c.size) (O:∀v∈news,v.oneCell'=true) :
  ∃w',(Builtin.append_ #[t,u] ty #[.slice (some ⟨b,o,none⟩) sLen sCap,x]).run P w=.ok (.slice (some ⟨b,o,none⟩) (sLen+n) sCap) w' /\
   ∃cN:Array Value,JT w w' b (.cells cN el fz)/\cN.toList=h' c.toList (o+sLen*i.size) news:=by
 obtain⟨w',R,cN,ai,au⟩:=IC (P:=P) (b:=b) (el:=el) (fz:=fz) (o:=o+sLen*i.size) news 0 c w Y hf J O;refine⟨w',?_,cN,ai,by simpa using au⟩;have e1:=hx.1 w;have aT:=hx.2 w rfl;rcases aI with rfl|⟨q,rfl⟩<;>simp[Builtin.append_,run_underlying ht,run_underlying aM,Go.sizeOf,typeInfo,ac,e1,aT,go,qB,R]
def Vx{t u ty bd:TypeId}{i:TypeInfo}{d:TypeDesc}(ht:P.underlying t=some (.slice bd))(aM:P.underlying u=some d)(aI:d=.string\/∃q,d=.slice q)(ac:P.info? bd=some i)
  {x:Value} (hx:nK P w i.size 0 x []) {ad:Option Addr} {sCap:Nat} :
  (Builtin.append_ #[t,u] ty #[.slice ad 0 sCap,x]).run P w=.ok (.slice ad 0 sCap) w:=by
 have e1:=hx.1 w;have aT:=hx.2 w rfl;cases ad<;>(rcases aI with rfl|⟨q,rfl⟩<;>simp[Builtin.append_,run_underlying ht,run_underlying aM,Go.sizeOf,typeInfo,ac,e1,aT,storeCells])
def Vw{t u ty bd:TypeId}{i:TypeInfo}{z:Value}{d:TypeDesc}(ht:P.underlying t=some (.slice bd))(aM:P.underlying u=some d)(aI:d=.string\/∃q,d=.slice q)(ac:P.info? bd=some i)(bh:i.zero=some z)
  {x:Value} {n:Nat} {news:List Value} (hx:nK P w i.size n x news) {ad:Option Addr} {sLen sCap:Nat} {olds:List Value} (aO:nK P w i.size sLen (.slice ad sLen sCap) olds) (hg:sCap<sLen+n)
  (jB:sLen+n<=maxLen) (hi:(sLen+n)*i.bytes<=140737488355328) :
  (Builtin.append_ #[t,u] ty #[.slice ad sLen sCap,x]).run P w =
   .ok (.slice (some ⟨w.heap.size,0,none⟩) (sLen+n) (grownCap w (sLen+n) sCap bd))
    (w.drew.alloc (.cells (olds.toArray++news.toArray++Builtin.zeroCells z.cells (grownCap w (sLen+n) sCap bd-(sLen+n))) bd)):=by
 have am:¬(sLen+n<=sCap):=J;have Si:¬(9223372036854775807<((sLen:Int)+(n:Int))):=by unfold maxLen at jB;omega
 have aqy:=growslice_fits hg hi;have Sh:¬(281474976710656<Builtin.nextslicecap (sLen+n) sCap*i.bytes):=J;have e1:=hx.1 w;have aT:=hx.2 w.drew rfl;have dI:=aO.2 w.drew rfl;rcases aI with rfl|⟨q,rfl⟩<;>simp[Builtin.append_,run_underlying ht,run_underlying aM,Go.sizeOf,typeInfo,zeroValue,ac,bh,e1,am,Si,Sh,Question.forced,aT,dI,Go.newRow,grownCap]<;>(congr 2;apply B1;simp)
end
end Yp
namespace Yp
open Go
def gu:=@List.length_nil
def iE:=@List.append_nil
def pD:=@List.size_toArray
def rm:=@List.drop_zero
def E5:=@Array.size_append
def vq:=@Nat.le_succ
def zd:=@List.take_left
def B?:=@Nat.lt_succ_self
def Fo:=@Array.toList_append
variable {P:Program}
section
variable {K:Kp} {w0 w:World} {phx:cd} {M:Nat->Prop} {B B':Nat->aU} {g:Nat->av} {H:cf}
def agD{c cN:Array Value}{vs:List Value}(ah:cN.toList=h' c.toList o vs)(am:o+vs.length<=c.size)(h:a+n<=o):cJ cN a n=cJ c a n:=by rw[tp,ah,I5 J (.inl h),<- tp]
def agE{c cN:Array Value}{vs:List Value}(ah:cN.toList=h' c.toList o vs)(am:o+vs.length<=c.size):cJ cN o vs.length=vs:=by
 rw[tp,ah];unfold h'
 grind
def ag0{c cN:Array Value}{vs:List Value}(ah:cN.toList=h' c.toList o vs)(am:o+vs.length<=c.size):cN.size=c.size:=by have:=congrArg List.length ah;rw[Ex J]at this;omega
def fi.cut{H:cf}{e:ag}{l:List e.aG}{c:Array Value}(h:fi H e l c o)(bV:off+m<=l.length):fi H e (cut l off m) c (o+off*e.size):=by
 have hl:=lQ bV;have lT:(off+m)*e.size<=l.length*e.size:=iT _ bV;rw[f9]at lT;refine⟨by rw[hl];have:=h.1;omega,λi x ac => ?_⟩;have bi:=Dt ac;rw[hl]at bi;rw[FU bi]at ac;have:=h.2 (off+i) x ac
 rwa [f9,<- jJ]at this
def XJ{e:ag}(dN:0<e.size){t u ty bd:TypeId}{d:TypeDesc}(ht:P.underlying t=some (.slice bd))(az:(cT P e).1 bd)(aM:P.underlying u=some d)(aI:d=.string\/∃q,d=.slice q)
  (hm:bK K w0 phx M B w) {x:Value} {bn:List e.aG} {news:List Value} (hx:nK P w e.size bn.length x news) (cb:e' (view w M) e bn news)
  {id off m:Nat} {l:List e.aG} {vs:Value} (aB:B id=.ob e l) (bV:off+m<=l.length) (wa:h1 phx id e off m vs) (go:hA e (m+aV bn)=true) {ku:Nat} (gJ:B ku=.new) :
  ∃r w',(Builtin.append_ #[t,u] ty #[vs,x]).run P w=.ok r w'/\dB K w0 phx M B w (c6 (c6 B id .fq) ku (.ob e (Yp.cut l off m++bn))) (.own ku false) r w':=by
 have e3:ku≠id:=λe=>by rw[e,aB]at gJ;cases gJ
 obtain⟨i,bj,bm,cW,fU⟩:=nV az;have C6:=ND go cW;have jB:=NE go;have dM:=hm.blks id;rw[aB]at dM;have vX:=cb.1;have eZ:=lQ bV

 have CX:∀{ad:Option Addr} {cap:Nat} {olds:List Value},nK P w e.size m (.slice ad m cap) olds->e' (view w M) e (Yp.cut l off m) olds->cap<m+bn.length ->
   ∃r w',(Builtin.append_ #[t,u] ty #[.slice ad m cap,x]).run P w=.ok r w'/\dB K w0 phx M B w (c6 (c6 B id .fq) ku (.ob e (Yp.cut l off m++bn))) (.own ku false) r w':=by
  intro ad cap olds aO Gp hg;have aj:=Vw (P:=P) (w:=w) (ty:=ty) ht aM aI bj fU (x:=x) (n:=bn.length) (news:=news) (by rw[bm];exact hx) (ad:=ad) (sLen:=m) (sCap:=cap) (olds:=olds) (by rw[bm];exact aO) hg jB C6;refine⟨_,_,aj,?_⟩;obtain⟨bE,e1⟩:=hm.fq id;have oI:=grownCap_ge w (m+bn.length) cap bd;have oH:=grownCap_le_maxLen w (m+bn.length) cap bd jB;have Gn:=Gp.append cb;have b9:(Yp.cut l off m++bn).length=m+bn.length:=by rw[db,eZ]
  have uz:cJ (olds.toArray++news.toArray++Builtin.zeroCells (cB e (dH e)).cells (grownCap w (m+bn.length) cap bd-(m+bn.length))) 0 ((Yp.cut l off m++bn).length*e.size)=olds++news:=by rw[tp,<- Gn.1];simp only[Fo,rm];exact zd
  have c3:grownCap w (m+bn.length) cap bd*e.size=(olds.toArray++news.toArray++Builtin.zeroCells (cB e (dH e)).cells (grownCap w (m+bn.length) cap bd-(m+bn.length))).size:=by rw[E5,size_zeroCells,tK];simp only[E5,pD,sn,Gp.1,vX,eZ,<- f9];congr 1;omega
  have eI:fi (view w M) e (Yp.cut l off m++bn) (olds.toArray++news.toArray++Builtin.zeroCells (cB e (dH e)).cells (grownCap w (m+bn.length) cap bd-(m+bn.length))) 0:=by
   refine e'.row ?_ ?_
   .rw[<- c3,js,b9];exact iT _ oI
   rw[uz];exact Gn
  have:=Ed (K:=K) (w0:=w0) (phx:=phx) (M:=M) (B:=c6 B id .fq) (w:=w) bE (id:=ku) (by rw[eo _ _ e3];exact gJ)
   (w':=w.drew.alloc (.cells (olds.toArray++news.toArray++Builtin.zeroCells (cB e (dH e)).cells (grownCap w (m+bn.length) cap bd-(m+bn.length))) bd))
   rfl rfl rfl (by rw[iV];exact B? _) (rx w.drew _) dN (l:=Yp.cut l off m++bn) (rv w.drew _) (yr _) (si w M) eI (cap:=grownCap w (m+bn.length) cap bd) (by rw[b9];exact oI) oH (by rw[c3];exact bX _) false (λh=>by cases h)
  obtain⟨phx',aA,cq,aT,R⟩:=this;rw[b9]at R;exact⟨phx',aA,cq,e1.trans aT,R⟩
 rcases wa with⟨O,ad,R⟩|⟨b,o,n,cap,O,R,ai,au,a4⟩
 .subst O;subst R
  have nY:Yp.cut l off 0=[]:=by simp[Yp.cut]
  by_cases bs:bn.length=0
  .have n3:bn=[]:=lJ.1 bs
   subst n3;have am:news=[]:=lJ.1 (by rw[vX];simp);subst am;refine⟨_,_,Vx (P:=P) ht aM aI bj (by rw[bm];exact hx),?_⟩;obtain⟨bE,e1⟩:=hm.fq id;rw[nY];obtain⟨cq,aT⟩:=bE.vF (id:=ku) (by rw[eo _ _ e3];exact gJ) (.ob e ([]++[])) none (λ_ y bs=>by cases bs) (λ_ y bs=>by cases bs) (λ_=>⟨dN,.inl ⟨mx _ _ _,rfl⟩⟩);refine⟨_,_,cq,e1.trans aT,?_⟩;simp only[a9,d6,bJ,e6];exact⟨.inl ⟨rfl,ad,rfl⟩,λh=>by cases h⟩
  exact CX (olds:=[]) (V5 _ _ _) (by rw[nY];exact e'.nil e) J
 subst R;rcases dM.2 with⟨bD,_⟩|⟨b',dz,c,el,fz,bD,b1,dy,gb,gN⟩
 .rw[O]at bD;cases bD
 rw[O]at bD;cases bD;have Ho:=dy.cut bV;have aO:nK P w e.size m (.slice (some ⟨b,o+off*e.size,none⟩) m cap) (cJ c (o+off*e.size) (m*e.size)):=by
  have:=V6 (P:=P) (cap:=cap) b1 Ho
  rwa [eZ]at this
 by_cases hg:cap<m+bn.length
 .have:=Ho.sL
  rw[eZ]at this;exact CX aO this hg
 have Tk:m+bn.length<=cap:=J;have lT:(m+bn.length)*e.size<=cap*e.size:=iT _ Tk;rw[f9]at lT a4;obtain⟨w',aj,cN,hp,mK⟩:=NJ (P:=P) (w:=w) (ty:=ty) ht aM aI bj (x:=x) (n:=bn.length) (news:=news) (by rw[bm];exact hx) (b:=b) (o:=o+off*e.size) (sLen:=m) (sCap:=cap) Tk b1 gb (by rw[bm];omega) cb.one;rw[bm]at mK;have hi:o+off*e.size+m*e.size+news.length<=c.size:=J;have c3:=ag0 mK hi;refine⟨_,w',aj,?_⟩;obtain⟨cq,KV⟩:=hm.put (id:=id) (x:=(b,o,c.size)) (w':=w') (by rw[aB];rfl) O gN hp.os hp.tape hp.output hp.size hp.other .fq (by rw[aB];trivial) λaz=>trivial;obtain⟨g7,dI⟩:=cq.vF (id:=ku) (by rw[eo _ _ e3];exact gJ) (.ob e (Yp.cut l off m++bn)) (some (b,o+off*e.size,c.size)) (λ_ y bs=>by cases bs;exact hm.own id (by rw[aB];rfl) (b,o,c.size) O) (λ_ y bs j ao z bh=>by
   cases bs;have dS:j≠id:=λe=>by subst e;rw[e6]at ao;cases ao
   rw[eo _ _ dS]at ao;exact hm.sep j id dS ao (by rw[aB];rfl) z (b,o,c.size) bh O) (λaz=>by
  refine⟨dN,.inr ⟨b,o+off*e.size,cN,el,fz,by rw[mx,c3],hp.jf,?_,gb.same c3,gN⟩⟩;refine e'.row (by rw[db,eZ,f9];omega) ?_;rw[db,eZ,f9,NU,agD mK hi (bX _),<- vX,agE mK hi];have bV:=KV.vw;have eh:=(Ho.mono bV).sL;rw[eZ]at eh;exact eh.append ⟨vX,λi x ac=>(cb.2 i x ac).mono bV⟩)
 refine⟨_,_,g7,KV.trans dI,?_⟩;simp only[a9,d6,bJ,e6];refine⟨.inr ⟨b,o+off*e.size,c.size,cap,mx _ _ _,by rw[Nat.zero_mul,xj,db,eZ],by rw[db,eZ];exact Tk,au,by rw[js];omega⟩,λh=>by cases h⟩
def ajs{e:ag}(dN:0<e.size){t u ty bd:TypeId}{d:TypeDesc}(ht:P.underlying t=some (.slice bd))(az:(cT P e).1 bd)(aM:P.underlying u=some d)(aI:d=.string\/∃q,d=.slice q)
  (hm:bK K w0 phx M B w) {x:Value} {bn:List e.aG} {news:List Value} (hx:nK P w e.size bn.length x news) (cb:e' (view w M) e bn news)
  {id:Nat} {l:List e.aG} {eP:Bool} {vs:Value} (aB:B id=.ob e l) (aj:bJ phx (view w M) B (.own id eP) vs) (go:hA e (aV l+aV bn)=true) {ku:Nat} (gJ:B ku=.new) :
  ∃r w',(Builtin.append_ #[t,u] ty #[vs,x]).run P w=.ok r w'/\dB K w0 phx M B w (c6 (c6 B id .fq) ku (.ob e (l++bn))) (.own ku false) r w':=by
 simp only[bJ,aB]at aj;have:=XJ (ty:=ty) dN ht az aM aI hm hx cb aB (off:=0) (m:=l.length) J aj.1 go gJ
 rwa [Cx]at this
def XI{e:ag}(dN:0<e.size){t u ty bd:TypeId}{d:TypeDesc}(ht:P.underlying t=some (.slice bd))(az:(cT P e).1 bd)(aM:P.underlying u=some d)(aI:d=.string\/∃q,d=.slice q)
  (hm:bK K w0 phx M B w) {x:Value} {bn:List e.aG} {news:List Value} (hx:nK P w e.size bn.length x news) (cb:e' (view w M) e bn news)
  {l:List e.aG} {ad:Option Addr} (cA:aJ (view w M) (.sl e) l [.slice ad l.length l.length]) (go:hA e (aV l+aV bn)=true) :
  (∃r w',(Builtin.append_ #[t,u] ty #[.slice ad l.length l.length,x]).run P w=.ok r w'/\dB K w0 phx M B w B (.sc (.sl e) (l++bn)) r w') /\
  (bn.length≠0->∀ku,B ku=.new->∃r w',(Builtin.append_ #[t,u] ty #[.slice ad l.length l.length,x]).run P w=.ok r w'/\dB K w0 phx M B w (c6 B ku (.ob e (l++bn))) (.own ku false) r w'):=by
 obtain⟨i,bj,bm,cW,fU⟩:=nV az;have C6:=ND go cW;have jB:=NE go;have vX:=cb.1;obtain⟨olds,aO,Gp⟩:∃olds,nK P w e.size l.length (.slice ad l.length l.length) olds/\e' (view w M) e l olds:=by
  obtain⟨a',cN,bG,_,_,ca⟩:=aJ.iL.1 cA;simp only[oq,Value.slice.injEq,and_true]at bG;rcases ca with ca|⟨b,o,c,el,fz,cr,du,eW⟩
  .subst ca;exact⟨[],V5 _ _ _,e'.nil e⟩
  rw[<- bG.1]at cr;subst cr;exact⟨_,V6 (kd.1 du).2 eW,fi.sL eW⟩
 by_cases bs:bn.length=0
 .have n3:bn=[]:=lJ.1 bs
  subst n3;have am:news=[]:=lJ.1 (by rw[vX];simp);subst am;refine⟨?_,λh=>absurd bs h⟩;have iJ:(Builtin.append_ #[t,u] ty #[.slice ad l.length l.length,x]).run P w=.ok (.slice ad l.length l.length) w:=by have e1:=hx.1 w;have aT:=hx.2 w rfl;rw[<- bm]at aT;simp only[gu]at e1 aT;cases ad<;>(rcases aI with rfl|⟨q,rfl⟩<;>simp[Builtin.append_,run_underlying ht,run_underlying aM,Go.sizeOf,typeInfo,bj,e1,aT,storeCells])
  refine⟨_,_,iJ,dB.same hm rfl ?_⟩;rw[iE];exact⟨_,cA,rfl⟩
 have hg:l.length<l.length+bn.length:=J;have aj:=Vw (P:=P) (w:=w) (ty:=ty) ht aM aI bj fU (x:=x) (n:=bn.length) (news:=news) (by rw[bm];exact hx) (ad:=ad) (sLen:=l.length) (sCap:=l.length) (olds:=olds) (by rw[bm];exact aO) hg jB C6;have oI:=grownCap_ge w (l.length+bn.length) l.length bd;have oH:=grownCap_le_maxLen w (l.length+bn.length) l.length bd jB;have Gn:=Gp.append cb;generalize z0:(olds.toArray++news.toArray++Builtin.zeroCells (cB e (dH e)).cells (grownCap w (l.length+bn.length) l.length bd-(l.length+bn.length)))=g3 at aj;have uz:cJ g3 0 ((l++bn).length*e.size)=olds++news:=by rw[<- z0,tp,<- Gn.1];simp only[Fo,rm];exact zd
 have c3:grownCap w (l.length+bn.length) l.length bd*e.size=g3.size:=by rw[<- z0,E5,size_zeroCells,tK];simp only[E5,pD,sn,Gp.1,vX,<- f9];congr 1;omega
 have eI:fi (view w M) e (l++bn) g3 0:=by
  refine e'.row ?_ ?_
  .rw[<- c3,js,db];exact iT _ oI
  rw[uz];exact Gn
 refine⟨⟨_,_,aj,?_⟩,λ_ ku gJ=>⟨_,_,aj,?_⟩⟩
 .obtain⟨bE,e1⟩:=hm.CX (w':=w.drew.alloc (.cells g3 bd)) rfl rfl rfl (by rw[iV];exact vq _) (rx w.drew _) (λ_=>False) (λb h=>h.elim)
  refine⟨_,_,bE,e1,[_],aJ.iL.2 ⟨some ⟨w.heap.size,0,none⟩,grownCap w (l.length+bn.length) l.length bd,by rw[db],by rw[db];exact oI,oH,.inr ⟨w.heap.size,0,g3,bd,(0,0),rfl,?_,(eI.mono e1.vw).1,λi x ac=>(eI.mono e1.vw).2 i x ac⟩⟩,rfl⟩;refine kd.2 ⟨λh=>h.elim (λh => ?_) id,rv w.drew _⟩;have:=hm.mlt _ h;omega
 have:=Ed (K:=K) (w0:=w0) (phx:=phx) (M:=M) (B:=B) (w:=w) hm (id:=ku) gJ
  (w':=w.drew.alloc (.cells g3 bd)) rfl rfl rfl (by rw[iV];exact B? _) (rx w.drew _) dN (l:=l++bn) (rv w.drew _) (yr _) (si w M) eI (cap:=grownCap w (l.length+bn.length) l.length bd) (by rw[db];exact oI) oH (by rw[c3];exact bX _) false (λh=>by cases h)
 rw[db]at this;exact this
def ajr{e:ag}(dN:0<e.size){t u ty bd:TypeId}{d:TypeDesc}(ht:P.underlying t=some (.slice bd))(az:(cT P e).1 bd)(aM:P.underlying u=some d)(aI:d=.string\/∃q,d=.slice q)
  (hm:bK K w0 phx M B w) {x:Value} {bn:List e.aG} {news:List Value} (hx:nK P w e.size bn.length x news) (cb:e' (view w M) e bn news) (go:hA e (aV bn)=true) {ku:Nat} (gJ:B ku=.new) :
  ∃r w',(Builtin.append_ #[t,u] ty #[.slice none 0 0,x]).run P w=.ok r w'/\dB K w0 phx M B w (c6 B ku (.ob e bn)) (.own ku false) r w':=by
 by_cases bs:bn.length=0
 .have n3:bn=[]:=lJ.1 bs
  subst n3;have am:news=[]:=lJ.1 (by rw[cb.1];simp);obtain⟨i,bj,bm,cW,fU⟩:=nV az;refine⟨_,_,Vx (P:=P) ht aM aI bj (by grind),?_⟩;obtain⟨cq,aT⟩:=hm.vF (id:=ku) gJ (.ob e []) none (λ_ y bs=>by cases bs) (λ_ y bs=>by cases bs) (λ_=>⟨dN,.inl ⟨mx _ _ _,rfl⟩⟩);refine⟨_,_,cq,aT,?_⟩;simp only[a9,d6,bJ,e6];exact⟨.inl ⟨rfl,none,rfl⟩,λh=>by cases h⟩
 have:=(XI (ty:=ty) dN ht az aM aI hm hx cb (l:=[]) (ad:=none) (aJ.iL.2 ⟨none,0,rfl,bX _,by unfold maxLen;omega,.inl rfl⟩) (by simpa[aV]using go)).2 bs ku gJ
 grind
def awN{t u ty bd:TypeId}{i:TypeInfo}{z:Value}(ht:P.underlying t=some (.slice bd))(aM:P.underlying u=some (.int .i64))(ac:P.info? bd=some i)(bh:i.zero=some z){n:Int}(aq:0<=n)(am:0<n.toNat)
  (jB:n.toNat<=maxLen) (hi:n.toNat*i.bytes<=140737488355328) (ae:0<i.size) :
  (Builtin.append_ #[t,u] ty #[.slice none 0 0,.int .i64 n]).run P w =
   .ok (.slice (some ⟨w.heap.size,0,none⟩) n.toNat (grownCap w n.toNat 0 bd))
    (w.drew.alloc (.cells (Builtin.zeroCells z.cells n.toNat++Builtin.zeroCells z.cells (grownCap w n.toNat 0 bd-n.toNat)) bd)):=by
 have Dg:IntKind.i64.wrap n=n:=aii .i64 n (by show(-9223372036854775808:Int)<=n;omega) (by show n<=(9223372036854775807:Int);unfold maxLen at jB;omega);have bi:¬n<0:=J;have hb1:¬(281474976710656<n*(i.bytes:Int)):=by
  grind
 have e3:¬(n.toNat*i.size=0):=by intro h;have:=Nat.mul_pos am ae;omega
 have aq9:¬(n.toNat=0):=J;have arc:¬(i.size=0):=J;have p2:¬(n.toNat<=0):=J;have Si:¬(9223372036854775807<((n.toNat:Int))):=by unfold maxLen at jB;omega
 have aqy:=growslice_fits (need:=n.toNat) (old:=0) J hi;have Sh:¬(281474976710656<Builtin.nextslicecap n.toNat 0*i.bytes):=J;have aq1:¬n<=0:=J;have C0:¬(9223372036854775807<n):=by unfold maxLen at jB;omega
 have aq0:max n 0=n:=J;simp[Builtin.append_,run_underlying ht,run_underlying aM,Go.sizeOf,typeInfo,zeroValue,ac,bh,Dg,bi,hb1,e3,p2,aq9,arc,Si,Sh,Question.forced,asInt,asIntOf,Go.newRow,grownCap,Builtin.firstCells,aq1,C0,aq0,aq]
end
end Yp
namespace Yp
open Go
def o5:=@List.take_length
def qz:=@List.map_cons
def ze:=@List.foldl_cons
variable {P:Program}
section
variable {K:Kp} {w0 w:World} {phx:cd} {M:Nat->Prop} {B B':Nat->aU} {g:Nat->av} {H:cf}
def XK{e:ag}{x:av}{hq:Value}{bn:List e.aG}(h:(Fw e x).a2 g B=some (bn,B'))(hm:bK K w0 phx M B w)(aj:a9 phx (view w M) B x hq):
  B'=B/\∃news,nK P w e.size bn.length hq news/\e' (view w M) e bn news:=by
 by_cases ae:∃l,x=.sc .str l
 .obtain⟨l,rfl⟩:=ae
  obtain⟨ah,rfl⟩:=dQ h;obtain⟨bA,rfl⟩:=jM ah;subst bA;rw[a9.str aj];exact⟨rfl,_,ax1 l,e'.bytes l⟩
 have hx:Fw e x=m2 false (.sl e) x:=by
  cases x with
  |sc t l=>
   cases t with
   |str=>exact absurd ⟨_,rfl⟩ ae
   |_=>rfl
  |_=>rfl
 rw[hx]at h;obtain⟨aB,ad,cap,rfl,R⟩:=VE h hm aj;refine⟨aB,?_⟩;rcases R with R|⟨b,o,c,el,fz,rfl,bm,cW⟩
 .subst R;exact⟨[],V5 _ _ _,e'.nil e⟩
 exact⟨_,V6 bm cW,cW.sL⟩
def atK{e:ag}{x:av}{hq:Value}{bn:List e.aG}(am:Un x=true)(h:(Fw e x).a2 g B=some (bn,B'))(aj:a9 phx (view w M) B x hq):bn.length≠0:=by
 cases x<;>try(cases am;done)
 rename_i id eP;cases eP<;>try(cases am;done)
 have ae:bJ phx (view w M) B (.own id true) hq:=aj;have bB:(tl false id e).a2 g B=some (bn,B'):=h;simp only[tl,aw.a2]at bB;simp only[bJ]at ae;generalize aB:B id=bl at bB ae;cases bl<;>try(cases bB;done)
 .obtain⟨y,cY,O,R⟩:=aw.cH bB
  obtain⟨ah,rfl⟩:=dQ O;obtain⟨fG,rfl⟩:=jM ah;cases R
  grind
 obtain⟨ah,rfl⟩:=dQ bB;obtain⟨fG,rfl⟩:=jM ah
 grind
def agG{t:ag}{tid:TypeId}(h:(cT P t).1 tid)(ae:L8 t=true):∃d,P.underlying tid=some d/\(d=.string\/∃q,d=.slice q):=by
 cases t<;>try(cases ae;done)
 .exact⟨_,h.1,.inl rfl⟩
 obtain⟨⟨bd,aM,_⟩,_⟩:=h;exact⟨_,aM,.inr ⟨_,rfl⟩⟩
def ajp{e u:ag}{tid uid ty:TypeId}(ht:(cT P (.sl e)).1 tid)(aM:(cT P u).1 uid)(a_:L8 u=true){s x r:av}{vs hq:Value}(h:(PU d e s x).a2 g B=some (r,B'))
  (hm:bK K w0 phx M B w) (wc:a9 phx (view w M) B s vs) (mP:a9 phx (view w M) B x hq) :
  ∃v w',(Builtin.append_ #[tid,uid] ty #[vs,hq]).run P w=.ok v w'/\dB K w0 phx M B w B' r v w':=by
 unfold PU at h;replace h:=gU h;obtain⟨dN,h⟩:=h;have dN:0<e.size:=by simpa using dN
 obtain⟨bn,cY,O,R⟩:=aw.cH h;clear h;obtain⟨rfl,news,hx,cb⟩:=XK (P:=P) O hm mP;obtain⟨⟨bd,p7,az⟩,_⟩:=ht;obtain⟨Cz,x',aI⟩:=agG aM a_;cases s<;>try(cases R;done)
 case nil =>replace R:=i? R;obtain⟨go,R⟩:=R;obtain⟨_,gJ,rfl,rfl⟩:=wC R;simp only[a9,d6,bJ]at wc;subst wc;exact ajr dN p7 az x' aI hm hx cb go gJ
 case own id eP=>
  simp only[aw.a2]at R;generalize aB:cY id=bl at R;cases bl<;>try(cases R;done)
  rename_i bA l;obtain⟨hj,b2,ai,R⟩:=aw.cH R;obtain⟨ah,rfl⟩:=dQ ai;obtain⟨fG,rfl⟩:=jM ah;subst fG;replace R:=i? R;obtain⟨go,R⟩:=R;simp only[aw.a2]at R;obtain⟨_,gJ,rfl,rfl⟩:=wC R;have e3:16*d≠id:=λe=>by rw[e,e6]at gJ;cases gJ
  rw[eo _ _ e3]at gJ;exact ajs dN p7 az x' aI hm hx cb aB wc go gJ
 case osl id off n=>
  simp only[aw.a2]at R;have ae:bJ phx (view w M) cY (.osl id off n) vs:=wc;simp only[bJ]at ae;generalize aB:cY id=bl at R ae;cases bl<;>try(cases R;done)
  rename_i bA l;obtain⟨hj,b2,ai,R⟩:=aw.cH R;obtain⟨ah,rfl⟩:=dQ ai;obtain⟨fG,rfl⟩:=jM ah;subst fG;replace R:=i? R;obtain⟨go,R⟩:=R;simp only[aw.a2]at R;obtain⟨_,gJ,rfl,rfl⟩:=wC R;have e3:16*d≠id:=λe=>by rw[e,e6]at gJ;cases gJ
  rw[eo _ _ e3]at gJ;exact XJ dN p7 az x' aI hm hx cb aB ae.1 ae.2.1 go gJ
 case csl bA l=>
  obtain⟨hj,b2,ai,R⟩:=aw.cH R;obtain⟨ah,rfl⟩:=dQ ai;obtain⟨fG,rfl⟩:=jM ah;subst fG;replace R:=i? R;obtain⟨go,R⟩:=R;obtain⟨ad,rfl,cA⟩:=wc;have key:=XI (ty:=ty) dN p7 az x' aI hm hx cb cA go;cases am:Un x with
  |true =>rw[am]at R;obtain⟨_,gJ,rfl,rfl⟩:=wC R;exact key.2 (atK am O mP) _ gJ
  |false =>rw[am]at R;cases R;exact key.1
def ajq{e:ag}(dN:0<e.size){tid uid ty:TypeId}(ht:(cT P (.sl e)).1 tid)(aM:P.underlying uid=some (.int .i64)){n:Int}(aq:0<=n)(go:hA e n.toNat=true){id:Nat}(gJ:B id=.new)(hm:bK K w0 phx M B w):
  ∃v w',(Builtin.append_ #[tid,uid] ty #[.slice none 0 0,.int .i64 n]).run P w=.ok v w'/\dB K w0 phx M B w (c6 B id (.ob e (bM n.toNat e.zero))) (.own id false) v w':=by
 obtain⟨⟨bd,p7,az⟩,_⟩:=ht;obtain⟨i,bj,bm,cW,fU⟩:=nV az;by_cases am:n.toNat=0
 .have bh:n=0:=J
  subst bh;refine⟨.slice none 0 0,w,by simp[Builtin.append_,run_underlying p7,run_underlying aM,Go.sizeOf,typeInfo,bj,asInt,asIntOf,IntKind.wrap,IntKind.bits],?_⟩;obtain⟨cq,aT⟩:=hm.vF (id:=id) gJ (.ob e (bM (0:Int).toNat e.zero)) none (λ_ y bs=>by cases bs) (λ_ y bs=>by cases bs) (λ_=>⟨dN,.inl ⟨mx _ _ _,rfl⟩⟩);refine⟨_,_,cq,aT,?_⟩;simp only[a9,d6,bJ,e6];exact⟨.inl ⟨rfl,none,rfl⟩,λh=>by cases h⟩
 have C6:=ND go cW;have jB:=NE go;have aj:=awN (P:=P) (w:=w) (ty:=ty) p7 aM bj fU aq J jB C6 (by rw[bm];exact dN);refine⟨_,_,aj,?_⟩;have oI:=grownCap_ge w n.toNat 0 bd;have oH:=grownCap_le_maxLen w n.toNat 0 bd jB;have SF:∀m,Builtin.zeroCells (cB e (dH e)).cells m=madeCells (dH e).toArray (m*e.size):=λm=>by rw[tK];simp[Builtin.zeroCells,madeCells,sn]
 have c3:(Builtin.zeroCells (cB e (dH e)).cells n.toNat++Builtin.zeroCells (cB e (dH e)).cells (grownCap w n.toNat 0 bd-n.toNat)).size=grownCap w n.toNat 0 bd*e.size:=by rw[E5,size_zeroCells,size_zeroCells,tK];simp only[pD,sn,<- f9];congr 1;omega
 have eI:fi (view w M) e (bM n.toNat e.zero) (Builtin.zeroCells (cB e (dH e)).cells n.toNat++Builtin.zeroCells (cB e (dH e)).cells (grownCap w n.toNat 0 bd-n.toNat)) 0:=by
  have O:=O6 (view w M) dN (bX n.toNat);rw[<- SF]at O;refine e'.row (by rw[c3,js];simp only[bM,qv];exact iT _ oI) ?_;have R:=O.sL;have hl:(bM n.toNat e.zero).length*e.size=(Builtin.zeroCells (cB e (dH e)).cells n.toNat).size:=by rw[size_zeroCells,tK];simp[bM,sn]
  have acr:cJ (Builtin.zeroCells (cB e (dH e)).cells n.toNat++Builtin.zeroCells (cB e (dH e)).cells (grownCap w n.toNat 0 bd-n.toNat)) 0 ((bM n.toNat e.zero).length*e.size)=cJ (Builtin.zeroCells (cB e (dH e)).cells n.toNat) 0 ((bM n.toNat e.zero).length*e.size):=by rw[hl];simp only[cJ,Fo,rm];have:(Builtin.zeroCells (cB e (dH e)).cells n.toNat).size=(Builtin.zeroCells (cB e (dH e)).cells n.toNat).toList.length:=bf;rw[this,zd,o5]
  rw[acr];exact R
 have:=Ed (K:=K) (w0:=w0) (phx:=phx) (M:=M) (B:=B) (w:=w) hm (id:=id) gJ
  (w':=w.drew.alloc (.cells (Builtin.zeroCells (cB e (dH e)).cells n.toNat++Builtin.zeroCells (cB e (dH e)).cells (grownCap w n.toNat 0 bd-n.toNat)) bd))
  rfl rfl rfl (by rw[iV];exact B? _) (rx w.drew _) dN (l:=bM n.toNat e.zero) (rv w.drew _) (yr _) (si w M) eI (cap:=grownCap w n.toNat 0 bd) (by simpa[bM]using oI) oH (by rw[c3];exact bX _) false (λh=>by cases h)
 have b9:(bM n.toNat e.zero).length=n.toNat:=by simp[bM]
 rw[b9]at this;exact this
def aaZ{c:Array Value}{el:TypeId}{fz:Nat×Nat}(hf:iA c fz)(o:Nat)(Y:w.heap[b]?=some (.cells c el fz)):
  ∃w',(markStringish ⟨b,o,none⟩).run P w=.ok () w'/\∃pW,iA c pW/\JT w w' b (.cells c el pW):=by
 refine⟨w.freeze ⟨b,c.size,none⟩ 1,?_,(if fz.1==fz.2 then(c.size,c.size+1) else(min fz.1 c.size,max fz.2 (c.size+1))),?_,?_⟩
 .have ae:w.shape? b=some (el,c.size):=by simp[World.shape?,Y]
  simp[markStringish,shape,Sem.run,ae,freeze]
 .unfold iA at hf ⊢
  grind
 refine⟨rfl,rfl,rfl,by simp[World.freeze],?_,λj ao => ?_⟩
 .simp[World.freeze,Fh,Y]
 simp[World.freeze,Fh,zc ao]
def amQ{sa c7:TypeId}(ae:P.underlying sa=some .string)(ht:(cT P (.sl (.int .u8))).1 c7){id:Nat}(hid:B id=.new)(hl:l.length<=140737488355328)(hm:bK K w0 phx M B w):
  ∃v w',(convert sa c7 (.string ⟨l.toArray⟩)).run P w=.ok v w'/\dB K w0 phx M B w (c6 B id (.ob (.int .u8) (l:List (bH .u8)))) (.own id false) v w':=by
 obtain⟨⟨bd,aM,az⟩,_⟩:=ht;have jB:l.length<=maxLen:=by unfold maxLen;omega
 have oI:=grownCap_ge w l.length 0 bd;have oH:=grownCap_le_maxLen w l.length 0 bd jB;have c3:(⟨l.toArray⟩:ByteArray).size=l.length:=rfl;generalize z0:((⟨l.toArray⟩:ByteArray).data.map (λb=>Value.int .u8 (b.toNat:Int))++Array.replicate (grownCap w l.length 0 bd-l.length) (.int .u8 0))=g3;have mi:g3.size=grownCap w l.length 0 bd:=by rw[<- z0];simp;omega
 obtain⟨w',O,pW,aqF,R⟩:=aaZ (P:=P) (w:=w.drew.alloc (.cells g3 bd)) (b:=w.heap.size) (yr g3) 0 (rv w.drew _);refine⟨.slice (some ⟨w.heap.size,0,none⟩) l.length (grownCap w l.length 0 bd),w',?_,?_⟩
 .have aqH:(Question.appendCap l.length 0 bd).cut (w.tape w.drawn (Question.appendCap l.length 0 bd))=grownCap w l.length 0 bd:=rfl
  have azH:(Array.map (λb=>Value.int .u8 (b.toNat:Int)) l.toArray++Array.replicate (grownCap w l.length 0 bd-l.length) (.int .u8 0))=g3:=z0;have p5:=az.1;unfold convert;simp only[Sem.run_bind,run_underlying ae,run_underlying aM,Result.andThen,run_underlying p5];unfold Conv.stringToBytes;simp only[Sem.run_bind,run_choose_drew,Question.forced,PK,if_false,Result.andThen,c3,aqH,Go.newRow,run_newObj_alloc,Sem.run_pure];rw[z0];have xY:(markStringish ⟨w.drew.heap.size,0,none⟩).run P (w.drew.alloc (.cells g3 bd))=.ok () w':=O;simp only[xY,Result.andThen];rfl
 have eI:fi (view w M) (.int .u8) (l:List (bH .u8)) g3 0:=by
  refine e'.row ?_ ?_
  .simp only[ag.size,pG];rw[mi]
   show 0+l.length<=_;omega
  have:cJ g3 0 ((l:List (bH .u8)).length*(ag.int .u8).size)=l.map λb=>Value.int .u8 b.toNat:=by rw[tp,<- z0];simp only[ag.size,pG,rm,Fo,Array.toList_map];have hl:((⟨l.toArray⟩:ByteArray).data.toList.map λb=>Value.int .u8 (b.toNat:Int)).length=l.length:=bf;show List.take l.length _=_;rw[<- hl];exact zd
  exact Eq.mpr (congrArg (e' (view w M) (ag.int .u8) l) this) (e'.bytes l)
 refine Ed (K:=K) (w0:=w0) (phx:=phx) (M:=M) (B:=B) (w:=w) hm hid R.os R.tape R.output (by rw[R.size,iV];exact B? _) (λb Y=>(R.other b J).trans (rx w.drew _ b Y)) (e:=.int .u8) bN (l:=(l:List (bH .u8))) R.jf ?_ (si w M) eI (cap:=grownCap w l.length 0 bd) oI oH ?_ false (λh=>by cases h)
 .exact aqF
 simp only[ag.size,pG];omega
def amP{t:TypeId}(ht:(cT P (.sl (.int .u8))).1 t){id:Nat}{e:ag}{l:List e.aG}{ci:Value}(aB:B id=.ob e l)(hm:bK K w0 phx M B w)(aj:bJ phx (view w M) B (.own id true) ci):
  ∃v w',(convert t t ci).run P w=.ok v w'/\dB K w0 phx M B w B (.own id true) v w':=by
 obtain⟨⟨bd,aM,az⟩,_⟩:=ht;have dM:=hm.blks id;rw[aB]at dM;have Db:=aj;simp only[bJ,aB]at aj;obtain⟨wa,e3⟩:=aj;rcases wa with⟨O,_⟩|⟨b,o,n,cap,O,R,ai,au,a4⟩
 .exact absurd O (e3 trivial)
 subst R;rcases dM.2 with⟨bD,_⟩|⟨b',dz,c,el,fz,bD,b1,dy,gb,gN⟩
 .rw[O]at bD;cases bD
 rw[O]at bD;cases bD;obtain⟨w',bG,pW,ca,cr⟩:=aaZ (P:=P) gb (o+0*e.size) b1;refine⟨.slice (some ⟨b,o+0*e.size,none⟩) l.length cap,w',?_,?_⟩
 .have p5:=az.1
  unfold convert;simp only[Sem.run_bind,run_underlying aM,Result.andThen_ok,beq_self_eq_true,run_underlying p5,bG,Sem.run_pure]
 obtain⟨bE,e1⟩:=hm.put (id:=id) (x:=(b,o,c.size)) (w':=w') (by rw[aB];rfl) O gN cr.os cr.tape cr.output cr.size cr.other (.ob e l) (by rw[aB];exact⟨rfl,rfl⟩) λhx=>
  ⟨dM.1,.inr ⟨b,o,c,el,pW,O,cr.jf,dy.mono hx.vw,ca,gN⟩⟩
 have Gm:c6 B id (.ob e l)=B:=by
  funext j;by_cases ao:j=id
  .subst ao;rw[e6,aB]
  rw[eo _ _ ao]
 rw[Gm]at bE e1;exact⟨phx,M,bE,e1,Db.mono e1.pl e1.vw e1.bl⟩
def amO{sa c7:TypeId}(ae:(cT P (.sl (.int .u8))).1 sa)(aI:P.underlying c7=some .string){a:av}{ci:Value}(h:(m2 false (.sl (.int .u8)) a).a2 g B=some ((l:List (bH .u8)),B'))
  (hm:bK K w0 phx M B w) (aj:a9 phx (view w M) B a ci):B'=B/\(convert sa c7 ci).run P w=.ok (.string ⟨l.toArray⟩) w:=by
 obtain⟨⟨bd,aM,az⟩,_⟩:=ae;obtain⟨aB,ad,cap,rfl,R⟩:=VE h hm aj;refine⟨aB,?_⟩;rw[run_convert_bytes_string w sa c7 bd _ _ _ aM az.1 aI];rcases R with R|⟨b,o,c,el,fz,rfl,bm,cW⟩
 .have um:l=[]:=R
  subst um;cases ad with
  |none=>simp[Conv.bytesToString];rfl
  |some ad =>rfl
 have cb:=cW.sL;have uz:cJ c o ((l:List (bH .u8)).length*(ag.int .u8).size)=(l.map λx=>(x.toNat:Int)).map (Value.int .u8):=by
  apply xm;intro i;by_cases ac:i<l.length
  .have a4:=cb.2 i l[i] (kg ac)
   simp only[ag.size,pG]at a4 ⊢;have cQ:=aJ.jl.1 a4;have eh:((cJ c o (l:List (bH .u8)).length).drop i)[0]?=some (Value.int .u8 (bH.to .u8 l[i])):=by have cy:=congrArg (λq:List Value=>q[0]?) cQ;simp only[JO]at cy;exact cy
   rw[Fq,xj]at eh;rw[eh];simp[ac];rfl
  have hl:=cb.1;simp only[ag.size,pG]at hl ⊢;have GS:(cJ c o (l:List (bH .u8)).length).length=l.length:=hl
  grind
 have ace:=Ee (P:=P) (w:=w) (b:=b) (o:=o) (n:=l.length) bm (by have:=cW.1;simp only[ag.size,pG]at this;exact this);have arD:cJ c o l.length=(l.map λx=>(x.toNat:Int)).map (Value.int .u8):=by have:=uz;simp only[ag.size,pG]at this;exact this
 rw[arD]at ace;have iJ:=run_bytesToString (P:=P) w ⟨b,o,none⟩ l.length cap _ ace;have SR:∀(l:List UInt8) (s:ByteArray),(l.map λx=>(x.toNat:Int)).foldl (λr n=>r.push (UInt8.ofNat n.toNat)) s=⟨s.data++l.toArray⟩:=by
  intro l;induction l with
  |nil=>intro s;simp
  |cons x l ih =>simp only[qz,ze,ih];simp
 rw[SR]at iJ;have:(⟨ByteArray.empty.data++l.toArray⟩:ByteArray)=⟨l.toArray⟩:=bf;rw[this]at iJ;exact iJ
end
end Yp
namespace Yp
open Go
def m7:=@Bool.eq_iff_iff
def ss:=@List.all_eq_true
def qu:=@List.mem_range
def xe:=@Bool.not_eq_true'
def Pg:=@Nat.one_pos
variable {P:Program}
def ag.oD:ag->Nat
 |.pair a b=>max (a.oD+1) b.oD
 |.ar _ e=>e.oD+1
 |_=>1
def ag.Rk:∀t:ag,0<t.oD
 |.pair a b=>by have:=ag.Rk b;simp only[ag.oD];omega
 |.ar _ e=>by simp only[ag.oD];omega
 |.bool=>by decide|.int _=>Pg|.str=>by decide|.sl _=>Pg|.unit=>by decide|.op _=>Pg|.fn _=>Pg
def o?(P:Program):ag->(TypeId->Bool)×(List Field->Bool)
 |.bool=>(λ_=>true,λ_=>false)
 |.int _=>(λ_=>true,λ_=>false)
 |.str=>(λ_=>true,λ_=>false)
 |.unit=>(λt=>!(P.stoodInHeld t),λl=>l.isEmpty)
 |.pair a b=>
  (λt=>!(P.stoodInHeld t)&&(match P.underlying t with
   | some (.struct fp) => (match fp.toList with | f :: r => !(f.name == "_") && (o? P a).1 f.type && (o? P b).2 r | [] => false)
   |_=>false),
   fun l => match l with | f :: r => !(f.name == "_") && (o? P a).1 f.type && (o? P b).2 r | [] => false)
 |.ar _ e=>(λt=>match P.underlying t with|some (.array _ bd)=>(o? P e).1 bd|_=>false,λ_=>false)
 |.sl _=>(λ_=>false,λ_=>false)
 |.op _=>(λ_=>false,λ_=>false)
 |.fn _=>(λ_=>false,λ_=>false)
def Q8(P:Program)(t:ag)(tid:TypeId):Bool:=t.isAgg&&Nat.ble t.oD 100&&(o? P t).1 tid && !(P.eqGuardType P.depth tid)
def Ld{tid:TypeId}{fp:Array Field}(h:P.underlying tid=some (.struct fp)):P.fieldsOf tid=fp:=by simp[Program.fieldsOf,h]
def ww{t:ag}(h:t.isAgg=true)(cs:List Value):cB t cs=.agg cs.toArray:=by simp[cB,h]
def amA{t:ag}{tid:TypeId}(h:(cT P t).1 tid):P.cellsOf tid=t.size:=by obtain⟨i,O,R,_⟩:=nV h;simp[Program.cellsOf,O,R]
section
variable {H H':cf}
def aai{e:ag}{bd:TypeId}(az:(cT P e).1 bd){d n:Nat}{a b:List e.aG}{cs ds:Array Value}{w:World}(bc:a.length=n)(Y:b.length=n)
  (mi:cs.size=n*e.size) (aqe:ds.size=n*e.size)
  (ih:∀j,j<n->(Op.equalIn d bd (cB e (cJ cs (j*e.size) e.size)) (cB e (cJ ds (j*e.size) e.size))).run P w=.ok (e.oE (an a j e.zero) (an b j e.zero)) w) :
  ∀is:List Nat,(∀j∈is,j<n)->(Op.eqItems d bd (P.cellsOf bd) cs ds is).run P w=.ok (is.all λj=>e.oE (an a j e.zero) (an b j e.zero)) w
 |[],_=>by simp[Op.eqItems]
 |j::is,ao=>by
  have bi:=ao j bf;have lT:(j+1)*e.size<=n*e.size:=iT _ bi;rw[f9]at lT;have dG:=Ef (P:=P) az (cs:=cs) (off:=j*e.size) J w;have gz:=Ef (P:=P) az (cs:=ds) (off:=j*e.size) J w;have acR:=aai az bc Y mi aqe ih is (λk ap=>ao k (by grind));rw[amA az]at acR ⊢;simp only[Op.eqItems,Sem.run_bind,dG,gz,Result.andThen_ok,ih j bi];cases h:e.oE (an a j e.zero) (an b j e.zero) with
  |false=>simp[h]
  |true=>simp[h,acR]
def ajg(f:α->α->Bool)(z:α){a b:List α}(bc:a.length=n)(Y:b.length=n):nN f a b=(List.range n).all λj=>f (an a j z) (an b j z):=by
 rw[m7];unfold nN;rw[ss,ss];constructor
 .intro h j ao
  have lu:=qu.1 ao;have:=h (a[j]'J,b[j]'J) (by rw[PD];exact⟨j,fS,bf⟩)
  simpa[an,nE,show j<a.length by omega,show j<b.length by omega]using this
 intro h p hp;obtain⟨j,ao,rfl⟩:=PD.1 hp;have lu:j<n:=by simp at ao;omega
 have:=h j (qu.2 lu);simpa[an,nE,show j<a.length by omega,show j<b.length by omega]using this
def K8(w:World):∀(t:ag),
  (∀(tid:TypeId) (d:Nat) (x y:t.aG) (cs ds:List Value),(o? P t).1 tid=true->(cT P t).1 tid->aJ H t x cs->aJ H' t y ds->t.oD<=d->(Op.equalIn d tid (cB t cs) (cB t ds)).run P w=.ok (t.oE x y) w) /\
  (∀(l:List Field) (off d:Nat) (x y:t.aG) (cs ds:Array Value),(o? P t).2 l=true->(cT P t).2 l off->aJ H t x (cJ cs off t.size)->aJ H' t y (cJ ds off t.size)->off+t.size<=cs.size->off+t.size<=ds.size->t.oD<=d+1 ->
   (Op.eqFields d cs ds l).run P w=.ok (t.oE x y) w)
 |.bool=>by refine⟨λtid d x y cs ds _ hf hx bs aI => ?_,λl off d x y cs ds ah=>by cases ah⟩;obtain⟨n,rfl⟩:∃n,d=n+1:=⟨d-1,by simp only[ag.oD]at aI;omega⟩;have O:=aJ.oA.1 hx;have R:=aJ.oA.1 bs;subst O;subst R;exact run_equalIn_bool w n tid _ _ hf.1
 |.int k=>by refine⟨λtid d x y cs ds _ hf hx bs aI => ?_,λl off d x y cs ds ah=>by cases ah⟩;obtain⟨n,rfl⟩:∃n,d=n+1:=⟨d-1,by simp only[ag.oD]at aI;omega⟩;have O:=aJ.jl.1 hx;have R:=aJ.jl.1 bs;subst O;subst R;exact run_equalIn_int w n tid k k _ _ hf.1
 |.str=>by refine⟨λtid d x y cs ds _ hf hx bs aI => ?_,λl off d x y cs ds ah=>by cases ah⟩;obtain⟨n,rfl⟩:∃n,d=n+1:=⟨d-1,by simp only[ag.oD]at aI;omega⟩;have O:=aJ.tv.1 hx;have R:=aJ.tv.1 bs;subst O;subst R;have:=run_equalIn_string (P:=P) w n tid ⟨(x:List UInt8).toArray⟩ ⟨(y:List UInt8).toArray⟩ hf.1;rw[ByteArray.toList_eq,ByteArray.toList_eq]at this;exact this
 |.unit=>by
  refine⟨λtid d x y cs ds ah hf hx bs aI => ?_,λl off d x y cs ds ah hf hx bs O R aI => ?_⟩
  .obtain⟨n,rfl⟩:∃n,d=n+1:=⟨d-1,by simp only[ag.oD]at aI;omega⟩
   obtain⟨⟨fp,aM,qN⟩,_⟩:=hf;simp only[o?,xe]at ah;rw[ww rfl,ww rfl,run_equalIn_struct w n tid _ _ (by rw[Ld aM];exact aM) ah,Ld aM,qN];rfl
  simp only[o?,List.isEmpty_iff]at ah;subst ah;rfl
 |.pair a b=>by
  have aau:∀(l:List Field) (off d:Nat) (x y:(ag.pair a b).aG) (cs ds:Array Value),(o? P (.pair a b)).2 l=true->(cT P (.pair a b)).2 l off->aJ H (.pair a b) x (cJ cs off (ag.pair a b).size)->aJ H' (.pair a b) y (cJ ds off (ag.pair a b).size) ->
    off+(ag.pair a b).size<=cs.size->off+(ag.pair a b).size<=ds.size->(ag.pair a b).oD<=d+1->(Op.eqFields d cs ds l).run P w=.ok ((ag.pair a b).oE x y) w:=by
   intro l off d x y cs ds ah hf hx bs O R aI;obtain⟨f,r,rfl,S8,GJ,SQ⟩:=hf;simp only[o?,cM,xe,beq_eq_false_iff_ne]at ah;obtain⟨⟨am,bc⟩,Y⟩:=ah;have c3:(ag.pair a b).size=a.size+b.size:=rfl;have split:∀{K:cf} {z:(ag.pair a b).aG} {es:Array Value},aJ K (.pair a b) z (cJ es off (a.size+b.size))->off+(a.size+b.size)<=es.size->aJ K a z.1 (cJ es off a.size)/\aJ K b z.2 (cJ es (off+a.size) b.size):=by
    intro K z es bh bV;obtain⟨c1,c2,az,bD,b1⟩:=aJ.mU.1 bh;rw[NU]at az;have hl:(cJ es off a.size).length=c1.length:=by rw[qh J,bD.length]
    obtain⟨e1,aT⟩:=List.append_inj az hl;rw[e1,aT];exact⟨bD,b1⟩
   obtain⟨Ad,np⟩:=split hx O;obtain⟨ar3,ar4⟩:=split bs R;simp only[ag.oD]at aI;have dG:=Ef (P:=P) GJ (cs:=cs) (off:=off) J w;have gz:=Ef (P:=P) GJ (cs:=ds) (off:=off) J w;have bG:=(K8 w a).1 f.type d x.1 y.1 _ _ bc GJ Ad ar3 J;have ca:=(K8 w b).2 r (off+a.size) d x.2 y.2 cs ds Y SQ np ar4 J J J;simp only[Op.eqFields];rw[if_pos am,S8];simp only[Sem.run_bind,dG,gz,Result.andThen_ok,bG];show _=Result.ok (cV (a.oE x.1 y.1) (b.oE x.2 y.2)) w;cases h:a.oE x.1 y.1 with
   |false=>simp[h,cV]
   |true=>simp[h,cV,ca]
  refine⟨λtid d x y cs ds ah hf hx bs aI => ?_,aau⟩;obtain⟨n,rfl⟩:∃n,d=n+1:=⟨d-1,by have:=ag.Rk (.pair a b);omega⟩;obtain⟨⟨fp,aM,f,r,qN,aO,GJ,SQ⟩,_⟩:=hf;simp only[o?,cM,xe,aM,qN]at ah;rw[ww rfl,ww rfl,run_equalIn_struct w n tid _ _ (by rw[Ld aM];exact aM) ah.1,Ld aM,qN];have fk:=hx.length;have gO:=bs.length;have bp:cJ cs.toArray 0 (ag.pair a b).size=cs:=by simp[cJ,<- fk]
  have ax:cJ ds.toArray 0 (ag.pair a b).size=ds:=by simp[cJ,<- gO]
  refine aau (f::r) 0 n x y cs.toArray ds.toArray (by simp only[o?,cM,xe];exact ah.2) ⟨f,r,rfl,aO,GJ,by rw[js];exact SQ⟩ (by rw[bp];exact hx) (by rw[ax];exact bs) (by simp[fk]) (by simp[gO]) aI
 |.ar n e=>by
  refine⟨λtid d x y cs ds ah hf hx bs aI => ?_,λl off d x y cs ds ah=>by cases ah⟩;obtain⟨m,rfl⟩:∃m,d=m+1:=⟨d-1,by have:=ag.Rk (.ar n e);omega⟩;obtain⟨⟨bd,aM,az⟩,_⟩:=hf;simp only[o?,aM]at ah;obtain⟨i,ac,_⟩:=nV az;simp only[ag.oD]at aI;obtain⟨cK,cU,dj⟩:=aJ.vH.1 hx;obtain⟨e_,eC,j0⟩:=aJ.vH.1 bs;rw[ww rfl,ww rfl,run_equalIn_array w m _ _ aM ac];rw[aai az (a:=(x:List e.aG)) (b:=(y:List e.aG)) (n:=n) cK e_ (by simp[cU]) (by simp[eC]) (λj ao => ?_) _ (λj ao=>qu.1 ao)]
  .show _=Result.ok (nN (λp q=>e.oE p q) (x:List e.aG) (y:List e.aG)) w
   rw[ajg _ e.zero cK e_]
  exact(K8 w e).1 bd m _ _ _ _ ah az (dj j _ (Av J)) (j0 j _ (Av J)) J
 |.sl _=>by refine⟨λtid d x y cs ds ah=>(by cases ah),λl off d x y cs ds ah=>by cases ah⟩
 |.op _=>by refine⟨λtid d x y cs ds ah=>(by cases ah),λl off d x y cs ds ah=>by cases ah⟩
 |.fn _=>by refine⟨λtid d x y cs ds ah=>(by cases ah),λl off d x y cs ds ah=>by cases ah⟩
end
def pP(P:Program)(b6:Nat->Option ag)(C:Nat->Bool):Prop:=∀tid t,C tid=true->b6 tid=some t->Q8 P t tid=true
def Zy(P:Program)(b6:Nat->Option ag):∀(l:List Nat),(l.all λi=>match b6 i with|some t=>Q8 P t i|none=>true)=true->pP P b6 (HE l)
 |[],_=>λtid t h=>by cases h
 |i::r,h=>λtid t cA hT=>by
  simp only[vy,cM]at h;simp only[HE]at cA;cases Y:Nat.beq i tid with
  |true=>rw[fP Y]at h;rw[hT]at h;exact h.1
  |false=>rw[Y]at cA;exact Zy P b6 r h.2 tid t cA hT
end Yp